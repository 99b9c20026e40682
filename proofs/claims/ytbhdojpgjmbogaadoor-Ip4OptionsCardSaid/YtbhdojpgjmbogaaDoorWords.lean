/- word.words: the words of parts that stand one behind the other, told to whoever asks. -/
import Derived.RangeFuncNested
import Derived.RangeFuncBound
import Derived.RangeFuncCalls
import Derived.RangeFuncLeaves
import Derived.Shelf.Abstract
import Derived.Shelf.RegionOpen
import Derived.OwnWalkIn
import Derived.TacticsInMore
import Derived.LoopNIn
import Derived.LoopIn
import Derived.Test.YtbhdojpgjmbogaaDoorConcat
import Derived.Test.YtbhdojpgjmbogaaDoorScope
namespace Go.Proofs.YtbhdojpgjmbogaaDoor
open Go.RowKit Go.Shelf
attribute [local go_sem] Oper.semAt_some
/-- A word. -/
def W16 : Type := { x : Int // 0 ≤ x ∧ x ≤ 65535 }
def wrd (a b : UInt8) : W16 := ⟨256 * a.toNat + b.toNat, by have := UInt8.toNat_lt a; have := UInt8.toNat_lt b; omega⟩
theorem wrd_val (a b : UInt8) : (wrd a b).1 = 256 * (a.toNat : Int) + b.toNat := rfl
/-- One byte more: the words so far, and a byte that waits. -/
def stp (s : List W16 × Option UInt8) (x : UInt8) : List W16 × Option UInt8 :=
  match s.2 with
  | none => (s.1, some x)
  | some a => (s.1 ++ [wrd a x], none)
def st (c : List UInt8) : List W16 × Option UInt8 := c.foldl stp ([], none)
theorem st_snoc (c : List UInt8) (x : UInt8) : st (c ++ [x]) = stp (st c) x := by simp [st]
/-- The words when there are no more bytes. -/
def fin (s : List W16 × Option UInt8) : List W16 :=
  match s.2 with
  | none => s.1
  | some a => s.1 ++ [wrd a 0]
def wordsOf (l : List UInt8) : List W16 := fin (st l)
theorem sum_words (l : List UInt8) : ∀ (p : List W16) (s : Int), (fin (l.foldl stp (p, none))).foldl (fun s w => fold (s + w.1)) s = sumw l (p.foldl (fun s w => fold (s + w.1)) s) := by
  match l with
  | [] => intro p s; simp [fin, sumw]
  | [a] => intro p s; simp [fin, stp, sumw, wrd_val]
  | a :: b :: t =>
    intro p s
    have h := sum_words t (p ++ [wrd a b]) s
    simp only [List.foldl_cons, stp]
    rw [h]
    simp [sumw, wrd_val, Int.add_assoc]
theorem sumw_eq (l : List UInt8) : (wordsOf l).foldl (fun s w => fold (s + w.1)) 0 = sumw l 0 := sum_words l [] 0
theorem st_len (c : List UInt8) : (st c).1.length ≤ c.length := by
  have : ∀ (c : List UInt8) (s : List W16 × Option UInt8), (c.foldl stp s).1.length ≤ s.1.length + c.length := by
    intro c
    induction c with
    | nil => intro s; simp
    | cons x c ih =>
      intro s
      have h := ih (stp s x)
      have h2 : (stp s x).1.length ≤ s.1.length + 1 := by unfold stp; split <;> simp
      simp only [List.foldl_cons, List.length_cons]
      omega
  simpa [st] using this c ([], none)
theorem or64 (a b : Nat) (ha : a < 9223372036854775808) (hb : b < 9223372036854775808) : bits .or .i64 (a : Int) (b : Int) = ((a ||| b : Nat) : Int) := by
  have hx : a ||| b < 2 ^ 63 := Nat.or_lt_two_pow (by omega) (by omega)
  show IntKind.i64.wrap ((BitVec.ofInt 64 (a : Int) ||| BitVec.ofInt 64 (b : Int)).toNat : Int) = _
  rw [BitVec.toNat_or, BitVec.ofInt_natCast, BitVec.ofInt_natCast, BitVec.toNat_ofNat, BitVec.toNat_ofNat, Nat.mod_eq_of_lt (by omega), Nat.mod_eq_of_lt (by omega), IntKind.wrap_i64]
  omega
theorem or64_byte (a b : UInt8) : bits .or .i64 ((a.toNat : Int) * 256) (b.toNat : Int) = 256 * (a.toNat : Int) + b.toNat := by
  have h1 := UInt8.toNat_lt a
  have h2 := UInt8.toNat_lt b
  have e2 : ((a.toNat : Int) * 256) = ((a.toNat * 256 : Nat) : Int) := by simp
  rw [e2, or64 _ _ (by omega) (by omega), or_byte _ _ (by omega)]
  simp; omega
/-- How the frame holds the byte that waits. -/
def Half (o : Option UInt8) (hi : Value) (half : Value) : Prop :=
  match o with
  | none => half = .bool false ∧ ∃ h : Int, hi = .int .i64 h
  | some a => half = .bool true ∧ hi = .int .i64 ((a.toNat : Int) * 256)
/-- What the words' teller leaves: all have come, or somebody has said 'no more'. -/
def WEnd (J Jx : List W16 → World → Prop) (l : List UInt8) (e : Ending) (W' : World) : Prop :=
  (∃ v, e = .returned v) ∧ ((∃ ys, ys = wordsOf l ∧ J ys W') ∨ (∃ pre, True ∧ Jx pre W'))
set_option maxRecDepth 100000 in
set_option maxHeartbeats 2000000 in
theorem words1_in (F : Fence) (n : Nat) (hF : F.fn 42) (hro : F.round = none) (hn : 1 ≤ n) (l Bs n₀ : Nat) (A : Option Addr) (c : Nat) (ls : List (List UInt8)) (hl : ls.flatten.length ≤ 140737488355328) (J Jx : List W16 → World → Prop)
    (hY : ∀ pre x W, J pre W → pre.length < ls.flatten.length + 1 → YieldAt F (n - 1) Tryd.prog l #[.int .i64 x.1] W fun e W' =>
      (e = .returned (.bool true) ∧ J (pre ++ [x]) W' ∧ Below n₀ W W') ∨ (e = .returned (.bool false) ∧ Jx (pre ++ [x]) W'))
    (W Wd : World) (hBs : W.cell? ⟨Bs, 0, none⟩ = some (.slice A ls.length c)) (hW : Below n₀ Wd W) (hd : Wd.heap.size = n₀) (hr : RdL Wd (.slice A ls.length c) ls) (h0 : J [] W) :
    CallsIn F n Tryd.prog 42 #[.func (.yield l) #[] #[], .pointer (some ⟨Bs, 0, none⟩)] W (WEnd J Jx ls.flatten) := by
  subst hd
  refine callsIn_of_wp Tryd.func42 rfl hF ?_ hro
  simp only [Tryd.ntmps42, List.size_toArray, List.length_cons, List.length_nil, Nat.reduceAdd, Nat.reduceSub, Array.replicate_succ, Array.replicate_zero, List.push_toArray, List.append_toArray, List.nil_append, List.cons_append]
  have hn63 : ls.length ≤ 9223372036854775807 := by
    obtain ⟨_, _, e, h1, h2⟩ := hr.form
    omega
  refine wpIn_scope ?_
  gi_wp2_with (with_reducible apply wpIn_label)
  gi_loopw [3, 4, 11] (fun hi half i wr => ∃ k : Nat, k ≤ ls.length ∧ i = .int .i64 k ∧ Half (st (ls.take k).flatten).2 hi half ∧ J (st (ls.take k).flatten).1 wr ∧ Below Wd.heap.size Wd wr) (fun _ _ i _ => ls.length - (intOf i).toNat)
  case atStart => exact ⟨0, Nat.zero_le _, rfl, ⟨rfl, 0, rfl⟩, h0, hW⟩
  case round =>
    obtain ⟨k, hk, rfl, hH, hJ, hB⟩ := hrel
    by_cases hlt : k < ls.length
    · obtain ⟨b, o, u, rfl, hb, hcellD, hru⟩ := hr.at_ k hlt
      have hcell := (hB.cell (p := ⟨b, o + k, none⟩) hb).trans hcellD
      clear hcellD
      obtain ⟨A', c', rfl, hc1', hc2'⟩ := hru.form
      have hm : tot ls k + ls[k].length ≤ ls.flatten.length := by
        have h1 := tot_le ls (k + 1)
        rw [tot_succ ls k hlt] at h1
        exact h1
      have hft := flat_take ls k hlt
      obtain ⟨m, hmk⟩ : ∃ m, m = ls[k] := ⟨_, rfl⟩
      rw [← hmk] at hm hru hcell hc1' hft
      have Hft := Lib.hid hft
      clear hft hmk
      have hm2 : m.length ≤ 140737488355328 := by omega
      obtain ⟨wo, rfl⟩ : ∃ wo : World, wo = wr := ⟨_, rfl⟩
      gi_wp2
      gi_loopw [3, 4, 17] (fun hi half i wr => ∃ j : Nat, j ≤ m.length ∧ i = .int .i64 j ∧ Half (st ((ls.take k).flatten ++ m.take j)).2 hi half ∧ J (st ((ls.take k).flatten ++ m.take j)).1 wr ∧ Below Wd.heap.size Wd wr) (fun _ _ i _ => m.length - (intOf i).toNat)
      case atStart => exact ⟨0, Nat.zero_le _, rfl, by simpa using hH, by simpa using hJ, hB⟩
      case round =>
        obtain ⟨j, hj, rfl, hH2, hJ2, hB2⟩ := hrel
        by_cases hlt2 : j < m.length
        · obtain ⟨b2, o2, rfl, _, hcs⟩ := (hru.mono hB2).at_ j hlt2
          have hc := hcs j hlt2
          clear hcs
          have e2 := UInt8.toNat_lt m[j]
          have hsn : st ((ls.take k).flatten ++ m.take (j + 1)) = stp (st ((ls.take k).flatten ++ m.take j)) m[j] := by
            rw [List.take_succ_eq_append_getElem hlt2, ← List.append_assoc, st_snoc]
          have Hsn := Lib.hid hsn
          clear hsn
          have hln : (st ((ls.take k).flatten ++ m.take j)).1.length < ls.flatten.length + 1 := by
            have h1 := st_len ((ls.take k).flatten ++ m.take j)
            rw [List.length_append, List.length_take] at h1
            have : (ls.take k).flatten.length = tot ls k := rfl
            omega
          obtain ⟨s, hs⟩ : ∃ s, s = st ((ls.take k).flatten ++ m.take j) := ⟨_, rfl⟩
          rw [← hs] at hH2 hJ2 Hsn hln
          clear hs
          obtain ⟨s1, s2⟩ := s
          cases s2 with
          | none =>
            obtain ⟨rfl, h, rfl⟩ := hH2
            clear hY
            gi_wp2
            go_roundw
            case rel => exact ⟨j + 1, by omega, by go_num, by rw [Hsn.out]; exact ⟨rfl, rfl⟩, by rw [Hsn.out]; exact hJ2, hB2⟩
            case measure => simp [intOf]; omega
          | some a =>
            obtain ⟨rfl, rfl⟩ := hH2
            have e3 := UInt8.toNat_lt a
            have hor := or64_byte a m[j]
            obtain ⟨fn, tmps, assign, body, hy, hR⟩ := hY s1 (wrd a m[j]) wr hJ2 hln
            rw [wrd_val] at hy
            clear hY
            gi_wp2
            refine hR.mono ?_
            rintro e W3 (⟨rfl, hJ3, hk3⟩ | ⟨rfl, hJx3⟩)
            · gi_wp2
              go_roundw
              case rel => exact ⟨j + 1, by omega, by go_num, by rw [Hsn.out]; exact ⟨rfl, _, rfl⟩, by rw [Hsn.out]; exact hJ3, hB2.trans hk3⟩
              case measure => simp [intOf]; omega
            · gi_wp2
              rw [Exit.noGoto_normal]
              go_end0
              exact ⟨⟨_, rfl⟩, .inr ⟨_, trivial, hJx3⟩⟩
        · have hj2 : j = m.length := by omega
          subst hj2
          clear hY
          gi_wp2
          go_roundw
          case rel => exact ⟨k + 1, by omega, by go_num, by rw [Hft.out]; simpa [List.take_length] using hH2, by rw [Hft.out]; simpa [List.take_length] using hJ2, hB2⟩
          case measure => simp [intOf]; omega
    · have hk2 : k = ls.length := by omega
      subst hk2
      rw [List.take_length] at hH hJ
      have hln := st_len ls.flatten
      have hfin : wordsOf ls.flatten = fin (st ls.flatten) := rfl
      have Hfin := Lib.hid hfin
      clear hfin
      obtain ⟨s, hs⟩ : ∃ s, s = st ls.flatten := ⟨_, rfl⟩
      rw [← hs] at hH hJ hln Hfin
      clear hs
      obtain ⟨s1, s2⟩ := s
      cases s2 with
      | none =>
        obtain ⟨rfl, h, rfl⟩ := hH
        clear hY
        gi_wp2
        try rw [Exit.noGoto_normal]
        go_end0
        exact ⟨⟨_, rfl⟩, .inl ⟨_, rfl, by rw [Hfin.out]; exact hJ⟩⟩
      | some a =>
        obtain ⟨rfl, rfl⟩ := hH
        have e3 := UInt8.toNat_lt a
        obtain ⟨fn, tmps, assign, body, hy, hR⟩ := hY s1 (wrd a 0) wr hJ (Nat.lt_succ_of_le hln)
        have e4 : (wrd a 0).1 = (a.toNat : Int) * 256 := by rw [wrd_val]; simp; omega
        rw [e4] at hy
        clear hY e4
        gi_wp2
        refine hR.mono ?_
        rintro e W3 (⟨rfl, hJ3, hk3⟩ | ⟨rfl, hJx3⟩)
        · gi_wp2
          rw [Exit.noGoto_normal]
          go_end0
          exact ⟨⟨_, rfl⟩, .inl ⟨_, rfl, by rw [Hfin.out]; exact hJ3⟩⟩
        · gi_wp2
          rw [Exit.noGoto_normal]
          go_end0
          exact ⟨⟨_, rfl⟩, .inr ⟨_, trivial, hJx3⟩⟩
end Go.Proofs.YtbhdojpgjmbogaaDoor
