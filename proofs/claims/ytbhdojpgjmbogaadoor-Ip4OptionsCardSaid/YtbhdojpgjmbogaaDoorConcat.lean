/- slices.Concat at bytes: the parts, one behind the other, in a row of its own. -/
import Derived.Test.YtbhdojpgjmbogaaDoorPseudo
import Derived.Lib.AppendZerosOnto
import Derived.Lib.SliceRun
import Derived.Lib.Walk
namespace Go.Proofs.YtbhdojpgjmbogaaDoor
open Go.RowKit
set_option maxHeartbeats 400000 in
theorem grow_nil (n : Nat) (w : World) (hn : n ≤ 140737488355328) :
    Calls Tryd.prog 41 #[.slice none 0 0, .int .i64 n] w fun e w' => ∃ v', e = .returned v' ∧ Ow w' w.heap.size v' [] ∧ Below w.heap.size w w' := by
  have g1 : decide ((n : Int) < 0) = false := by simp
  by_cases h0 : n = 0
  · subst h0
    go_enter Tryd.func41, Tryd.ntmps41
    go_wp2
    go_ret
    exact ⟨_, rfl, Ow.nil _ _, Below.refl _ _⟩
  · obtain ⟨i, hi, hz, hz1, hz2⟩ := info_parts byte_info
    have hrz : ∀ ty, (Builtin.append_ #[24, 3] ty #[.slice none 0 0, .int .i64 (n : Int)]).run Tryd.prog w =
      .ok (.slice (some ⟨w.heap.size, 0, none⟩) n (grownCap w n 0 5)) (w.drew.alloc (.cells ((#[] : Array Value) ++ Builtin.zeroCells (Value.int .u8 0).cells n ++ Builtin.zeroCells (Value.int .u8 0).cells (grownCap w n 0 5 - n)) 5)) := fun ty => by
      have h := Lib.run_append_grow_zeros w 24 3 ty 5 i _ .i64 .i64 und_bytes Tryd.underlying3 hi hz none 0 0 [] (run_firstCells_none w.drew i.size 0 0 0) n (by omega) (by omega) (by omega) (by omega) (by rw [hz2]; omega)
        (growslice_fits (by omega) (by rw [hz2]; omega))
      rw [Nat.zero_add] at h
      exact h
    obtain ⟨G, hG⟩ : ∃ G, G = grownCap w n 0 5 := ⟨_, rfl⟩
    have hGn : n ≤ grownCap w n 0 5 := grownCap_ge w _ _ _
    have hG63 : grownCap w n 0 5 ≤ maxLen := grownCap_le_maxLen w n 0 5 (by unfold maxLen; omega)
    rw [← hG] at hrz hGn hG63
    clear hG
    have h1 : 0 < n := by omega
    obtain ⟨C, hC⟩ : ∃ C, C = ((#[] : Array Value) ++ Builtin.zeroCells (Value.int .u8 0).cells n ++ Builtin.zeroCells (Value.int .u8 0).cells (G - n)) := ⟨_, rfl⟩
    rw [← hC] at hrz
    have hCs : C.size = G := by rw [hC]; simp [Builtin.zeroCells, Value.cells]; omega
    clear hC h0
    have hG2 : G ≤ 9223372036854775807 := by unfold maxLen at hG63; omega
    have Hs := Lib.hid hCs
    clear hCs
    go_enter Tryd.func41, Tryd.ntmps41
    go_wp2_with (at_builtin; refine Lib.wpList_append_run _ rfl _ _ _ _ rfl _ _ rfl rfl _ _ (hrz _) ?_)
    go_ret
    have ho : Ow (w.alloc (.cells C 5)) w.heap.size (.slice (some ⟨w.heap.size, 0, none⟩) 0 G) [] := World.ownsRow_made w C G (Nat.le_refl _) hG63 (by rw [Hs.out, Nat.mul_one])
    exact ⟨_, rfl, ho, ((Below.refl w.heap.size w).alloc (Nat.le_refl _) _).drew⟩

/-- Parts that stand in a slice of slices. -/
def RdL (w : World) (v : Value) (ls : List (List UInt8)) : Prop := ∃ vs, RdV w v vs ∧ vs.length = ls.length ∧ ∀ i (h : i < vs.length) (h' : i < ls.length), Rd w vs[i] ls[i]
theorem RdL.mono {w w' : World} {v : Value} {ls : List (List UInt8)} (h : RdL w v ls) (hb : Below w.heap.size w w') : RdL w' v ls := by
  obtain ⟨vs, h1, h2, h3⟩ := h
  exact ⟨vs, h1.mono hb, h2, fun i hi hi' => (h3 i hi hi').mono hb⟩
theorem RdL.drew {w : World} {v : Value} {ls : List (List UInt8)} (h : RdL w v ls) : RdL w.drew v ls := h
theorem RdL.form {w : World} {v : Value} {ls : List (List UInt8)} (h : RdL w v ls) : ∃ A c, v = .slice A ls.length c ∧ ls.length ≤ c ∧ c ≤ 9223372036854775807 := by
  obtain ⟨vs, ⟨A, c, e, h1, h2, _⟩, h3, _⟩ := h
  rw [h3] at e h1
  exact ⟨A, c, e, h1, by unfold maxLen at h2; omega⟩
theorem RdL.at_ {w : World} {A : Option Addr} {n c : Nat} {ls : List (List UInt8)} (h : RdL w (.slice A n c) ls) (k : Nat) (hk : k < ls.length) :
    ∃ b o u, A = some ⟨b, o, none⟩ ∧ b < w.heap.size ∧ w.cell? ⟨b, o + k, none⟩ = some u ∧ Rd w u ls[k] := by
  obtain ⟨vs, ⟨A', c', e, _, _, h3⟩, h4, h5⟩ := h
  injection e with e1 e2 e3
  subst e1
  rcases h3 with h | ⟨b, o, ha, hlt, hc⟩
  · subst h; simp at h4; omega
  · exact ⟨b, o, vs[k], ha, hlt, hc k _ (List.getElem?_eq_getElem (by omega)), h5 k (by omega) hk⟩
theorem flat_take (ls : List (List UInt8)) (k : Nat) (h : k < ls.length) : (ls.take (k + 1)).flatten = (ls.take k).flatten ++ ls[k] := by
  rw [List.take_succ_eq_append_getElem h, List.flatten_append]; simp
/-- How many bytes the first parts have. -/
def tot (ls : List (List UInt8)) (k : Nat) : Nat := (ls.take k).flatten.length
theorem tot_succ (ls : List (List UInt8)) (k : Nat) (h : k < ls.length) : tot ls (k + 1) = tot ls k + ls[k].length := by unfold tot; rw [flat_take ls k h, List.length_append]
theorem tot_le (ls : List (List UInt8)) (k : Nat) : tot ls k ≤ ls.flatten.length := by
  unfold tot
  have h : ls.flatten = (ls.take k).flatten ++ (ls.drop k).flatten := by rw [← List.flatten_append, List.take_append_drop]
  rw [h, List.length_append]; omega
set_option maxHeartbeats 800000 in
theorem concat (v : Value) (ls : List (List UInt8)) (w : World) (hr : RdL w v ls) (hl : ls.flatten.length ≤ 140737488355328) :
    Calls Tryd.prog 34 #[v] w fun e w' => ∃ v', e = .returned v' ∧ Ow w' w.heap.size v' ls.flatten ∧ Below w.heap.size w w' := by
  obtain ⟨A, c, rfl, hc1, hc2⟩ := hr.form
  have hT : ∀ k, tot ls k ≤ 140737488355328 := fun k => Nat.le_trans (tot_le ls k) hl
  have HT := Lib.hid hT
  clear hT hl
  go_enter Tryd.func34, Tryd.ntmps34
  go_wp2
  go_loop [3, 11] (fun s i => ∃ k : Nat, k ≤ ls.length ∧ i = .int .i64 k ∧ s = .int .i64 (tot ls k)) (fun _ i => ls.length - (intOf i).toNat)
  case atStart => exact ⟨0, Nat.zero_le _, rfl, rfl⟩
  case round =>
    obtain ⟨k, hk, rfl, rfl⟩ := hrel
    by_cases hlt : k < ls.length
    · obtain ⟨b, o, u, rfl, _, hcell, hru⟩ := hr.at_ k hlt
      obtain ⟨A', c', rfl, hc1', hc2'⟩ := hru.form
      have hs := tot_succ ls k hlt
      have hS := HT.out (k + 1)
      rw [hs] at hS
      have Hs := Lib.hid hs
      clear hs
      go_wp2
      go_round
      case rel => exact ⟨k + 1, by omega, by go_num, by rw [Hs.out]; go_num⟩
      case measure => simp [intOf]; omega
    · have hk2 : k = ls.length := by omega
      subst hk2
      have hN := HT.out ls.length
      obtain ⟨N, hN2⟩ : ∃ N, N = tot ls ls.length := ⟨_, rfl⟩
      rw [← hN2] at hN ⊢
      clear hN2
      go_wp2_with (go_at_call 41; refine (grow_nil _ _ hN).mono ?_; rintro e w1 ⟨v1, rfl, ho1, hb1⟩)
      clear hN
      have hr1 := hr.mono hb1
      go_loopw [6, 27] (fun v i wr => ∃ k : Nat, k ≤ ls.length ∧ i = .int .i64 k ∧ Ow wr w.heap.size v (ls.take k).flatten ∧ Below w.heap.size w wr) (fun _ i _ => ls.length - (intOf i).toNat)
      case atStart => exact ⟨0, Nat.zero_le _, rfl, ho1, hb1⟩
      case round =>
        obtain ⟨k, hk, rfl, ho, hb⟩ := hrel
        by_cases hlt : k < ls.length
        · obtain ⟨b, o, u, rfl, _, hcell, hru⟩ := (hr.mono hb).at_ k hlt
          have hS := HT.out (k + 1)
          rw [tot_succ ls k hlt] at hS
          have hf := flat_take ls k hlt
          have Hf := Lib.hid hf
          clear hf
          go_wp2_with ((with_reducible refine at_slot 33 ?_); refine wpList_app rfl (.tmp 31) (.tmp 32) rfl w.heap.size ho hru rfl rfl hS hb.size ?_; intro v2 w2 ho2 hb2 hg2; clear hg2)
          go_roundw
          case rel => exact ⟨k + 1, by omega, by go_num, by rw [Hf.out]; exact ho2, hb.trans hb2⟩
          case measure => simp [intOf]; omega
        · have hk2 : k = ls.length := by omega
          subst hk2
          go_wp2
          go_ret
          rw [List.take_length] at ho
          exact ⟨_, rfl, ho, hb⟩
set_option maxHeartbeats 400000 in
theorem join (v : Value) (ls : List (List UInt8)) (w : World) (hr : RdL w v ls) (hl : ls.flatten.length ≤ 140737488355328) :
    Calls Tryd.prog 22 #[v] w fun e w' => ∃ v', e = .returned v' ∧ Ow w' w.heap.size v' ls.flatten ∧ Below w.heap.size w w' := by
  go_enter Tryd.func22, Tryd.ntmps22
  go_wp2_with (go_at_call 34; refine (concat _ _ _ hr hl).mono ?_; rintro e w1 ⟨v1, rfl, ho1, hb1⟩)
  go_ret
  exact ⟨_, rfl, ho1, hb1⟩
end Go.Proofs.YtbhdojpgjmbogaaDoor
