/- The numbers as bytes of package word, and slices.Clone at bytes. -/
import Derived.Test.YtbhdojpgjmbogaaDoorKit
namespace Go.Proofs.YtbhdojpgjmbogaaDoor
open Go.RowKit
set_option maxHeartbeats 400000 in
theorem clone_b (v : Value) (l : List UInt8) (w : World) (hr : Rd w v l) (hl : l.length ≤ 140737488355328) :
    Calls Tryd.prog 27 #[v] w fun e w' => ∃ v', e = .returned v' ∧ Ow w' w.heap.size v' l ∧ Below w.heap.size w w' := by
  obtain ⟨A, c, rfl, h1, h2⟩ := hr.form
  cases A with
  | none =>
    have he := fun (w : World) n c n' c' => Lib.run_eql_slice_nil (P := Tryd.prog) w 24 5 none n c n' c' und_bytes
    go_enter Tryd.func27, Tryd.ntmps27
    go_wp2
    go_ret
    have h0 : l = [] := by
      obtain ⟨A, c, e, h1, h2, h3⟩ := hr
      injection e with e1 e2 e3
      rcases h3 with h | ⟨b, o, h, _⟩
      · simpa using h
      · rw [← e1] at h; cases h
    subst h0
    exact ⟨_, rfl, Ow.nil _ _, Below.refl _ _⟩
  | some ad =>
    have he := fun (w : World) n c n' c' => Lib.run_eql_slice_nil (P := Tryd.prog) w 24 5 (some ad) n c n' c' und_bytes
    have hr1 := hr.mono (below_alloc w (.cells #[] 5))
    go_enter Tryd.func27, Tryd.ntmps27
    go_wp2_with (at_builtin; refine wpList_app rfl (.tmp 5) (.tmp 6) rfl w.heap.size (ow_made _ _ (Nat.le_refl _)) hr1 rfl rfl (by simpa using hl) (by simp) ?_; intro v1 w1 ho1 hb1 hg1)
    go_ret
    exact ⟨_, rfl, by simpa using ho1, (below_alloc w _).trans hb1⟩

/-- A number in two bytes. -/
def p16 (n : Int) : List UInt8 := [by8 (n / 256), by8 n]
set_option maxHeartbeats 400000 in
theorem put16 (v : Value) (l : List UInt8) (n : Int) (w : World) (hr : Rd w v l) (hl : l.length ≤ 140737488355326)  :
    Calls Tryd.prog 21 #[v, .int .i64 n] w fun e w' => ∃ v', e = .returned v' ∧ Ow w' w.heap.size v' (l ++ p16 n) ∧ Below w.heap.size w w' := by
  go_enter Tryd.func21, Tryd.ntmps21
  go_wp2_with fail
  refine (clone_b _ l _ hr (by omega)).mono ?_
  rintro e w1 ⟨v1, rfl, ho1, hb1⟩
  go_wp2_with (at_builtin; refine wpList_app rfl (.tmp 6) (.tmp 12) rfl w.heap.size (ho1.mono (below_alloc w1 _)) (rd_new w1 _ (p16 n) 2 (by simp [p16, bv_by8]) rfl (by omega)) rfl rfl (by simp [p16]; omega) (by simp; have := hb1.size; omega) ?_; intro v2 w2 ho2 hb2 hg2)
  go_ret
  exact ⟨_, rfl, ho2, (below_step hb1 hb1.size (below_alloc w1 _)).trans hb2⟩
/-- A number in four bytes. -/
def p32 (n : Int) : List UInt8 := [by8 (n / 16777216), by8 (n / 65536), by8 (n / 256), by8 n]
/-- Bytes as a number, the first one the highest. -/
def be (l : List UInt8) : Int := l.foldl (fun n x => n * 256 + x.toNat) 0
theorem be_snoc (l : List UInt8) (x : UInt8) : be (l ++ [x]) = be l * 256 + x.toNat := by simp [be]
theorem be_0 (l : List UInt8) : 0 ≤ be l := by
  have : ∀ (l : List UInt8) (a : Int), 0 ≤ a → 0 ≤ l.foldl (fun n x => n * 256 + (x.toNat : Int)) a := by
    intro l
    induction l with
    | nil => intro a h; exact h
    | cons x l ih => intro a h; exact ih _ (by show 0 ≤ a * 256 + (x.toNat : Int); omega)
  exact this l 0 (by omega)
theorem be_3 (l : List UInt8) (h : l.length ≤ 3) : be l < 16777216 := by
  match l, h with
  | [], _ => decide
  | [a], _ => have := UInt8.toNat_lt a; simp [be]; omega
  | [a, b], _ => have := UInt8.toNat_lt a; have := UInt8.toNat_lt b; simp [be]; omega
  | [a, b, c], _ => have := UInt8.toNat_lt a; have := UInt8.toNat_lt b; have := UInt8.toNat_lt c; simp [be]; omega
theorem be_2 (l : List UInt8) (h : l.length ≤ 2) : be l < 65536 := by
  match l, h with
  | [], _ => decide
  | [a], _ => have := UInt8.toNat_lt a; simp [be]; omega
  | [a, b], _ => have := UInt8.toNat_lt a; have := UInt8.toNat_lt b; simp [be]; omega
theorem be_4 (l : List UInt8) (h : l.length ≤ 4) : be l < 4294967296 := by
  match l, h with
  | [], _ => decide
  | [a], _ => have := UInt8.toNat_lt a; simp [be]; omega
  | [a, b], _ => have := UInt8.toNat_lt a; have := UInt8.toNat_lt b; simp [be]; omega
  | [a, b, c], _ => have := UInt8.toNat_lt a; have := UInt8.toNat_lt b; have := UInt8.toNat_lt c; simp [be]; omega
  | [a, b, c, d], _ => have := UInt8.toNat_lt a; have := UInt8.toNat_lt b; have := UInt8.toNat_lt c; have := UInt8.toNat_lt d; simp [be]; omega
theorem or32 (a b : Nat) (ha : a < 4294967296) (hb : b < 4294967296) : bits .or .u32 (a : Int) (b : Int) = ((a ||| b : Nat) : Int) := by
  have hx : a ||| b < 2 ^ 32 := Nat.or_lt_two_pow (by omega) (by omega)
  show IntKind.u32.wrap ((BitVec.ofInt 32 (a : Int) ||| BitVec.ofInt 32 (b : Int)).toNat : Int) = _
  rw [BitVec.toNat_or, BitVec.ofInt_natCast, BitVec.ofInt_natCast, BitVec.toNat_ofNat, BitVec.toNat_ofNat, Nat.mod_eq_of_lt (by omega), Nat.mod_eq_of_lt (by omega)]
  rw [IntKind.wrap_u32]
  omega
theorem or_byte (a b : Nat) (hb : b < 256) : (a * 256) ||| b = a * 256 + b := by
  have := Nat.shiftLeft_add_eq_or_of_lt (i := 8) (b := b) (by omega) a
  rw [Nat.shiftLeft_eq] at this
  exact this.symm
theorem or32_byte (a : Int) (b : Nat) (h0 : 0 ≤ a) (ha : a < 16777216) (hb : b < 256) : bits .or .u32 (a * 256) (b : Int) = a * 256 + b := by
  obtain ⟨n, rfl⟩ := Int.eq_ofNat_of_zero_le h0
  have e2 : ((n : Int) * 256) = ((n * 256 : Nat) : Int) := by simp
  rw [e2, or32 _ _ (by omega) (by omega), or_byte n b hb]
  simp
set_option maxHeartbeats 400000 in
theorem at_ok (v : Value) (l : List UInt8) (f n : Int) (w : World) (hr : Rd w v l) (h0 : 0 ≤ f) (h1 : 0 ≤ n) (h2 : n ≤ 4) (h3 : f + n ≤ l.length) :
    Calls Tryd.prog 37 #[v, .int .i64 f, .int .i64 n] w fun e w' => e = .returned (.tuple #[.int .u32 (be ((l.drop f.toNat).take n.toNat)), .int .i64 0]) ∧ w = w' := by
  obtain ⟨A, c, rfl, hc1, hc2⟩ := hr.form
  have g1 : decide (f < 0) = false := by simpa using h0
  have g2 : decide ((l.length : Int) < f) = false := by simp; omega
  have g3 : decide ((l.length : Int) - f < n) = false := by simp; omega
  go_enter Tryd.func37, Tryd.ntmps37
  go_wp2_with ((with_reducible refine at_slot 32 ?_); refine wpList_slice rfl (.tmp 27) (some (.tmp 28)) (some (.tmp 31)) rfl _ l rfl hr f (f + n) (.yes rfl rfl) (.yes rfl (by omega)) h0 (by omega) h3 ?_; intro m A' c' hm hm1 hm2 hc3 hc4 hrm)
  clear g1 g2 g3
  go_loop [8, 34] (fun s i => ∃ k : Nat, k ≤ m.length ∧ i = .int .i64 k ∧ s = .int .u32 (be (m.take k))) (fun _ i => m.length - (intOf i).toNat)
  case atStart => exact ⟨0, Nat.zero_le _, rfl, rfl⟩
  case round =>
    obtain ⟨k, hk, rfl, rfl⟩ := hrel
    by_cases hlt : k < m.length
    · obtain ⟨b, o, rfl, _, hcs⟩ := hrm.at_ k hlt
      have hc := hcs k hlt
      clear hcs
      have e1 : be (m.take k) < 16777216 := be_3 _ (by simp; omega)
      have e0 := be_0 (m.take k)
      have e2 := UInt8.toNat_lt m[k]
      go_wp2
      go_round
      case rel =>
        refine ⟨k + 1, by omega, by go_num, ?_⟩
        rw [or32_byte _ _ e0 e1 (by omega), List.take_succ_eq_append_getElem hlt, be_snoc]
      case measure => simp [intOf]; omega
    · go_wp2
      go_ret2
      have : k = m.length := by omega
      subst this
      rw [List.take_length, Hid.out hm]
      refine ⟨?_, rfl⟩
      rw [show List.drop f.toNat (List.take (f + n).toNat l) = List.take n.toNat (List.drop f.toNat l) from by
        rw [List.drop_take]; congr 1; omega]
      rfl
set_option maxHeartbeats 400000 in
theorem at16 (v : Value) (l : List UInt8) (f : Int) (w : World) (hr : Rd w v l) (h0 : 0 ≤ f) (h3 : f + 2 ≤ l.length) :
    Calls Tryd.prog 26 #[v, .int .i64 f] w fun e w' => e = .returned (.tuple #[.int .i64 (be ((l.drop f.toNat).take 2)), .int .i64 0]) ∧ w = w' := by
  have hb := be_4 ((l.drop f.toNat).take 2) (by simp; omega)
  have hb0 := be_0 ((l.drop f.toNat).take 2)
  go_enter Tryd.func26, Tryd.ntmps26
  go_wp2_with fail
  refine (at_ok _ l f 2 _ hr h0 (by omega) (by omega) h3).mono ?_
  rintro e w1 ⟨rfl, rfl⟩
  have e2 : (2 : Int).toNat = 2 := rfl
  rw [e2]
  clear e2
  go_wp2
  go_ret2
  exact ⟨rfl, rfl⟩
theorem and_ffff (k : Int) (h0 : 0 ≤ k) (h1 : k ≤ 9223372036854775807) : bits .and .i64 k 65535 = k % 65536 := by
  obtain ⟨n, rfl⟩ := Int.eq_ofNat_of_zero_le h0
  have hx : n &&& 65535 = n % 65536 := Nat.and_two_pow_sub_one_eq_mod n 16
  show IntKind.i64.wrap ((BitVec.ofInt 64 (n : Int) &&& BitVec.ofInt 64 ((65535 : Nat) : Int)).toNat : Int) = _
  rw [BitVec.toNat_and, BitVec.ofInt_natCast, BitVec.ofInt_natCast, BitVec.toNat_ofNat, BitVec.toNat_ofNat, Nat.mod_eq_of_lt (by omega), Nat.mod_eq_of_lt (by omega), hx, IntKind.wrap_i64]
  omega
/-- One fold. -/
def fold1 (n : Int) : Int := n % 65536 + n / 65536
/-- The folds of a sum. -/
def fold (n : Int) : Int := if _h : 65535 < n then fold (fold1 n) else n
termination_by n.toNat
decreasing_by unfold fold1; omega
theorem fold_big {n : Int} (h : 65535 < n) : fold n = fold (fold1 n) := by rw [fold, dif_pos h]
theorem fold_small {n : Int} (h : n ≤ 65535) : fold n = n := by rw [fold, dif_neg (by omega)]
set_option maxHeartbeats 400000 in
theorem wfold (n : Int) (w : World) (h0 : 0 ≤ n) (h1 : n ≤ 9223372036854775807) :
    Calls Tryd.prog 36 #[.int .i64 n] w fun e w' => e = .returned (.int .i64 (fold n)) ∧ w = w' := by
  go_enter Tryd.func36, Tryd.ntmps36
  go_wp2
  go_loop [0] (fun s => ∃ k : Int, 0 ≤ k ∧ k ≤ 9223372036854775807 ∧ s = .int .i64 k ∧ Hid (fold k = fold n)) (fun s => (intOf s).toNat)
  case atStart => exact ⟨n, h0, h1, rfl, rfl⟩
  case round =>
    obtain ⟨k, hk0, hk1, rfl, hf⟩ := hrel
    by_cases hlt : 65535 < k
    · have hb := and_ffff k hk0 hk1
      go_wp2
      go_round
      case rel => exact ⟨fold1 k, by unfold fold1; omega, by unfold fold1; omega, rfl, by unfold Hid; rw [← fold_big hlt]; exact hf.out⟩
      case measure => simp [intOf]; omega
    · go_wp2
      go_ret
      rw [← Hid.out hf, fold_small (by omega)]
      exact ⟨rfl, rfl⟩
end Go.Proofs.YtbhdojpgjmbogaaDoor
