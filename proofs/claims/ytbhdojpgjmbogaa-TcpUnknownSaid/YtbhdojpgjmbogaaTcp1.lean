/- tcp: numbers that go around; a segment's flags and its size: program and reference. -/
import Derived.Test.YtbhdojpgjmbogaaAwake
namespace Go.Proofs.Ytbhdojpgjmbogaa
open Go.RowKit Go.Shelf
/-- A segment. -/
structure SG where
  fr : Int
  too : Int
  sq : Int
  ak : Int
  fl : Int
  wn : Int
  ms : Int
  sk : Bool
  gt : Value
  da : Value
@[reducible] def SG.cells (s : SG) : Array Value := #[.int .i64 s.fr, .int .i64 s.too, .int .u32 s.sq, .int .u32 s.ak, .int .i64 s.fl, .int .i64 s.wn, .int .i64 s.ms, .bool s.sk, s.gt, s.da]
@[reducible] def SG.v (s : SG) : Value := .agg #[.int .i64 s.fr, .int .i64 s.too, .int .u32 s.sq, .int .u32 s.ak, .int .i64 s.fl, .int .i64 s.wn, .int .i64 s.ms, .bool s.sk, s.gt, s.da]
theorem ret_bool {a b : Bool} (h : a = b) : Ending.returned (.bool a) = .returned (.bool b) := by rw [h]
/-- How far one number lies behind another. -/
def dif (a b : Int) : Int := ((a - b) % 4294967296 + 2147483648) % 4294967296 - 2147483648
def U32 (a : Int) : Prop := 0 ≤ a ∧ a ≤ 4294967295
set_option maxHeartbeats 400000 in
theorem tdiff (a b : Int) (w : World) : Calls Try.prog 34 #[.int .u32 a, .int .u32 b] w fun e w' => e = .returned (.int .i64 (dif a b)) ∧ w = w' := by
  go_enter Try.func34, Try.ntmps34
  go_wp2
  go_ret
  refine ⟨ret_int ?_, rfl⟩
  unfold dif
  simp only [wrap32, wrap64]
  omega
set_option maxHeartbeats 400000 in
theorem twithin (a b n : Int) (w : World) : Calls Try.prog 36 #[.int .u32 a, .int .u32 b, .int .i64 n] w fun e w' => e = .returned (.bool (decide ((a - b) % 4294967296 < n))) ∧ w = w' := by
  go_enter Try.func36, Try.ntmps36
  go_wp2
  go_ret
  exact ⟨rfl, rfl⟩
set_option maxHeartbeats 400000 in
theorem tfirst (n : Int) (w : World) : Calls Try.prog 38 #[.int .i64 n] w fun e w' => e = .returned (.int .u32 (n * 4096 % 4294967296)) ∧ w = w' := by
  go_enter Try.func38, Try.ntmps38
  go_wp2
  go_ret
  exact ⟨ret_int (by omega), rfl⟩
set_option maxHeartbeats 400000 in
theorem ttwithin (a b n : Int) (w : World) : Calls Try.prog 63 #[.int .i64 a, .int .i64 b, .int .i64 n] w fun e w' => e = .returned (.bool (decide (b ≤ a ∧ a ≤ n))) ∧ w = w' := by
  by_cases h1 : b ≤ a
  · have g1 : decide (b ≤ a) = true := by simpa using h1
    go_enter Try.func63, Try.ntmps63
    go_wp2
    go_ret
    exact ⟨ret_bool (decide_eq_decide.2 ⟨fun h => ⟨h1, h⟩, fun h => h.2⟩), rfl⟩
  · have g1 : decide (b ≤ a) = false := by simpa using h1
    go_enter Try.func63, Try.ntmps63
    go_wp2
    go_ret
    exact ⟨rfl, rfl⟩
/-- A flag of a number, taken by '&'. -/
theorem and_pow (x : Int) (i : Nat) (hi : i < 62) : bits .and .i64 x ((2 ^ i : Nat) : Int) = if x / ((2 ^ i : Nat) : Int) % 2 = 1 then ((2 ^ i : Nat) : Int) else 0 := by
  show IntKind.i64.wrap ((BitVec.ofInt 64 x &&& BitVec.ofInt 64 ((2 ^ i : Nat) : Int)).toNat : Int) = _
  have h2 : 2 ^ i < 2 ^ 62 := Nat.pow_lt_pow_right (by omega) hi
  have e1 : BitVec.ofInt 64 ((2 ^ i : Nat) : Int) = BitVec.twoPow 64 i := by
    rw [BitVec.ofInt_natCast]
    apply BitVec.eq_of_toNat_eq
    rw [BitVec.toNat_ofNat, BitVec.toNat_twoPow]
  rw [e1, BitVec.and_twoPow]
  have e2 : (BitVec.ofInt 64 x).getLsbD i = decide (x / ((2 ^ i : Nat) : Int) % 2 = 1) := by
    rw [BitVec.getLsbD, BitVec.toNat_ofInt, Nat.testBit_eq_decide_div_mod_eq]
    have hx : (((x % ((2 ^ 64 : Nat) : Int)).toNat / 2 ^ i % 2 : Nat) : Int) = x / ((2 ^ i : Nat) : Int) % 2 := by
      have h0 : 0 ≤ x % ((2 ^ 64 : Nat) : Int) := Int.emod_nonneg _ (by decide)
      rw [Int.natCast_emod, Int.natCast_ediv, Int.toNat_of_nonneg h0]
      have hs : ((2 ^ 64 : Nat) : Int) = ((2 ^ i : Nat) : Int) * (2 * ((2 ^ (63 - i) : Nat) : Int)) := by
        have : (2 : Nat) ^ 64 = 2 ^ i * (2 * 2 ^ (63 - i)) := by
          rw [← Nat.pow_succ', ← Nat.pow_add]
          congr 1
          omega
        rw [this]
        simp
      have hd := Int.emod_add_mul_ediv x ((2 ^ 64 : Nat) : Int)
      generalize x % ((2 ^ 64 : Nat) : Int) = r at *
      generalize x / ((2 ^ 64 : Nat) : Int) = q at *
      rw [hs] at hd
      have hp : ((2 ^ i : Nat) : Int) ≠ 0 := by have := Nat.two_pow_pos i; omega
      rw [← hd, Int.mul_assoc, Int.add_mul_ediv_left _ _ hp, Int.mul_assoc]
      omega
    have : ((x % ((2 ^ 64 : Nat) : Int)).toNat / 2 ^ i % 2 = 1) ↔ (x / ((2 ^ i : Nat) : Int) % 2 = 1) := by
      rw [← hx]; omega
    exact decide_eq_decide.2 this
  rw [e2]
  by_cases h : x / ((2 ^ i : Nat) : Int) % 2 = 1
  · rw [if_pos h, decide_eq_true h, if_pos rfl, BitVec.toNat_twoPow, IntKind.wrap_i64]
    have : 2 ^ i % 2 ^ 64 = 2 ^ i := Nat.mod_eq_of_lt (by omega)
    rw [this]
    omega
  · rw [if_neg h, decide_eq_false h, if_neg (by decide)]
    rfl
theorem and1 (x : Int) : bits .and .i64 x 1 = x % 2 := by
  have := and_pow x 0 (by omega)
  rw [show ((2 ^ 0 : Nat) : Int) = 1 from rfl] at this
  rw [this]
  split <;> omega
theorem and2 (x : Int) : bits .and .i64 x 2 = x / 2 % 2 * 2 := by
  have := and_pow x 1 (by omega)
  rw [show ((2 ^ 1 : Nat) : Int) = 2 from rfl] at this
  rw [this]
  split <;> omega
theorem and4 (x : Int) : bits .and .i64 x 4 = x / 4 % 2 * 4 := by
  have := and_pow x 2 (by omega)
  rw [show ((2 ^ 2 : Nat) : Int) = 4 from rfl] at this
  rw [this]
  split <;> omega
theorem and16 (x : Int) : bits .and .i64 x 16 = x / 16 % 2 * 16 := by
  have := and_pow x 4 (by omega)
  rw [show ((2 ^ 4 : Nat) : Int) = 16 from rfl] at this
  rw [this]
  split <;> omega
/-- How many numbers a segment takes. -/
def sizeN (fl : Int) (n : Nat) : Int := n + fl % 2 + fl / 2 % 2
set_option maxHeartbeats 400000 in
theorem tsize (s : SG) (n c : Nat) (A : Option Addr) (hd : s.da = .slice A n c) (hn : n ≤ 140737488355328) (w : World) :
    Calls Try.prog 40 #[s.v] w fun e w' => e = .returned (.int .i64 (sizeN s.fl n)) ∧ Below w.heap.size w w' := by
  obtain ⟨fr, too, sq, ak, fl, wn, ms, sk, gt, da⟩ := s
  dsimp only at hd ⊢
  subst hd
  have a1 := and1 fl
  have a2 := and2 fl
  have h1 : fl % 2 = 0 ∨ fl % 2 = 1 := by omega
  by_cases h2 : fl / 2 % 2 = 1
  · rw [h2] at a2
    go_enter Try.func40, Try.ntmps40
    go_wp2
    go_ret
    exact ⟨ret_int (by unfold sizeN; omega), below_alloc _ _⟩
  · rw [show fl / 2 % 2 = 0 by omega] at a2
    go_enter Try.func40, Try.ntmps40
    go_wp2
    go_ret
    exact ⟨ret_int (by unfold sizeN; omega), below_alloc _ _⟩
/-- Has a number a flag? -/
def hasB (fl g : Int) : Bool := decide (fl / g % 2 = 1)
theorem has_plain1 (fl : Int) : decide (1 ≤ (wrap64 (fl.tmod 2 + 2)).tmod 2) = hasB fl 1 := by
  have h1 : -2 < fl.tmod 2 ∧ fl.tmod 2 < 2 ∧ (fl - fl.tmod 2) % 2 = 0 := by
    have h := Int.tmod_eq_emod (a := fl) (b := 2)
    rw [h]
    split <;> simp <;> omega
  generalize fl.tmod 2 = r at h1 ⊢
  rw [show wrap64 (r + 2) = r + 2 by simp only [wrap64]; omega, Int.tmod_eq_emod_of_nonneg (by omega)]
  exact decide_eq_decide.2 (by omega)
set_option maxHeartbeats 400000 in
theorem rhas1 (s : SG) (w : World) : Calls Try.prog 49 #[s.v, .int .i64 1] w fun e w' => e = .returned (.bool (hasB s.fl 1)) ∧ Below w.heap.size w w' := by
  obtain ⟨fr, too, sq, ak, fl, wn, ms, sk, gt, da⟩ := s
  go_enter Try.func49, Try.ntmps49
  go_wp2
  go_ret
  exact ⟨ret_bool (has_plain1 fl), below_alloc _ _⟩
theorem has_plain2 (fl : Int) : decide (2 ≤ (wrap64 (fl.tmod 4 + 4)).tmod 4) = hasB fl 2 := by
  have h1 : -4 < fl.tmod 4 ∧ fl.tmod 4 < 4 ∧ (fl - fl.tmod 4) % 4 = 0 := by
    have h := Int.tmod_eq_emod (a := fl) (b := 4)
    rw [h]
    split <;> simp <;> omega
  generalize fl.tmod 4 = r at h1 ⊢
  rw [show wrap64 (r + 4) = r + 4 by simp only [wrap64]; omega, Int.tmod_eq_emod_of_nonneg (by omega)]
  exact decide_eq_decide.2 (by omega)
set_option maxHeartbeats 400000 in
theorem rhas2 (s : SG) (w : World) : Calls Try.prog 49 #[s.v, .int .i64 2] w fun e w' => e = .returned (.bool (hasB s.fl 2)) ∧ Below w.heap.size w w' := by
  obtain ⟨fr, too, sq, ak, fl, wn, ms, sk, gt, da⟩ := s
  go_enter Try.func49, Try.ntmps49
  go_wp2
  go_ret
  exact ⟨ret_bool (has_plain2 fl), below_alloc _ _⟩
theorem has_plain4 (fl : Int) : decide (4 ≤ (wrap64 (fl.tmod 8 + 8)).tmod 8) = hasB fl 4 := by
  have h1 : -8 < fl.tmod 8 ∧ fl.tmod 8 < 8 ∧ (fl - fl.tmod 8) % 8 = 0 := by
    have h := Int.tmod_eq_emod (a := fl) (b := 8)
    rw [h]
    split <;> simp <;> omega
  generalize fl.tmod 8 = r at h1 ⊢
  rw [show wrap64 (r + 8) = r + 8 by simp only [wrap64]; omega, Int.tmod_eq_emod_of_nonneg (by omega)]
  exact decide_eq_decide.2 (by omega)
set_option maxHeartbeats 400000 in
theorem rhas4 (s : SG) (w : World) : Calls Try.prog 49 #[s.v, .int .i64 4] w fun e w' => e = .returned (.bool (hasB s.fl 4)) ∧ Below w.heap.size w w' := by
  obtain ⟨fr, too, sq, ak, fl, wn, ms, sk, gt, da⟩ := s
  go_enter Try.func49, Try.ntmps49
  go_wp2
  go_ret
  exact ⟨ret_bool (has_plain4 fl), below_alloc _ _⟩
theorem has_plain16 (fl : Int) : decide (16 ≤ (wrap64 (fl.tmod 32 + 32)).tmod 32) = hasB fl 16 := by
  have h1 : -32 < fl.tmod 32 ∧ fl.tmod 32 < 32 ∧ (fl - fl.tmod 32) % 32 = 0 := by
    have h := Int.tmod_eq_emod (a := fl) (b := 32)
    rw [h]
    split <;> simp <;> omega
  generalize fl.tmod 32 = r at h1 ⊢
  rw [show wrap64 (r + 32) = r + 32 by simp only [wrap64]; omega, Int.tmod_eq_emod_of_nonneg (by omega)]
  exact decide_eq_decide.2 (by omega)
set_option maxHeartbeats 400000 in
theorem rhas16 (s : SG) (w : World) : Calls Try.prog 49 #[s.v, .int .i64 16] w fun e w' => e = .returned (.bool (hasB s.fl 16)) ∧ Below w.heap.size w w' := by
  obtain ⟨fr, too, sq, ak, fl, wn, ms, sk, gt, da⟩ := s
  go_enter Try.func49, Try.ntmps49
  go_wp2
  go_ret
  exact ⟨ret_bool (has_plain16 fl), below_alloc _ _⟩
theorem SG.info : (Try.prog.info? 67).map (·.size) = some 10 := by kernel_rfl
/-- A segment that was boxed. -/
theorem box1 {w : World} {s : SG} {motive : World → Prop}
    (h : ∀ X, Below w.heap.size w X → w.heap.size + 1 = X.heap.size → Blk X w.heap.size 67 s.cells → motive X) :
    motive (w.alloc (.cells s.cells 67)) :=
  h _ ((Below.refl w.heap.size w).alloc (Nat.le_refl _) _) (by simp) (Blk.new w 67 s.cells _ rfl)
set_option maxHeartbeats 400000 in
theorem rsize (s : SG) (n c : Nat) (A : Option Addr) (hd : s.da = .slice A n c) (hn : n ≤ 140737488355328) (w : World) :
    Calls Try.prog 41 #[s.v] w fun e w' => e = .returned (.int .i64 (sizeN s.fl n)) ∧ Below w.heap.size w w' := by
  have Hd := Lib.hid hd
  clear hd
  have h1 : s.fl % 2 = 0 ∨ s.fl % 2 = 1 := by omega
  have h2 : s.fl / 2 % 2 = 0 ∨ s.fl / 2 % 2 = 1 := by omega
  rcases h1 with h1 | h1 <;> rcases h2 with h2 | h2
  all_goals
    have k1 : hasB s.fl 1 = decide (s.fl % 2 = 1) := by simp [hasB]
    have k2 : hasB s.fl 2 = decide (s.fl / 2 % 2 = 1) := rfl
    rw [h1] at k1
    rw [h2] at k2
    go_enter Try.func41, Try.ntmps41
    go_upto_region 1 with (fail)
    refine box1 (s := s) (motive := fun X => Code.wp Try.prog _ _ _ X) ?_
    intro X hB hX hs
    have hc := hs.cell 9
    simp only [List.getElem?_toArray, List.getElem?_cons_succ, List.getElem?_cons_zero, Hd.out] at hc
    go_wp2_with ((with_reducible refine at_slot 9 ?_); refine wpList_loadB rfl 67 (.tmp 1) rfl hs rfl Try.underlying67 rfl SG.info ?_)
    refine (rhas2 s _).mono ?_
    rintro e w1 ⟨rfl, hb1⟩
    have hs1 := hs.mono hb1
    have hB1 := below_step hB hB.size hb1
    clear hc hs hb1
    go_wp2_with ((with_reducible refine at_slot 11 ?_); refine wpList_loadB rfl 67 (.tmp 1) rfl hs1 rfl Try.underlying67 rfl SG.info ?_)
    refine (rhas1 s _).mono ?_
    rintro e w2 ⟨rfl, hb2⟩
    have hB2 := below_step hB1 hB1.size hb2
    clear hs1
    go_wp2
    go_ret
    exact ⟨ret_int (by unfold sizeN; omega), hB2⟩
/-- Numbers apart, as the document reckons. -/
theorem tmod_pos {a m : Int} (h : 0 ≤ a) : a.tmod m = a % m := Int.tmod_eq_emod_of_nonneg h
set_option maxHeartbeats 400000 in
theorem rdiff (a b : Int) (ha : U32 a) (hb : U32 b) (w : World) : Calls Try.prog 35 #[.int .u32 a, .int .u32 b] w fun e w' => e = .returned (.int .i64 (dif a b)) ∧ w = w' := by
  obtain ⟨a0, a1⟩ := ha
  obtain ⟨b0, b1⟩ := hb
  have e1 : (a - b + 4294967296).tmod 4294967296 = (a - b + 4294967296) % 4294967296 := tmod_pos (by omega)
  by_cases h : 2147483648 ≤ (a - b + 4294967296) % 4294967296
  · have g : decide (2147483648 ≤ (a - b + 4294967296) % 4294967296) = true := by simpa using h
    go_enter Try.func35, Try.ntmps35
    go_wp2
    go_ret
    exact ⟨ret_int (by unfold dif; omega), rfl⟩
  · have g : decide (2147483648 ≤ (a - b + 4294967296) % 4294967296) = false := by simpa using h
    go_enter Try.func35, Try.ntmps35
    go_wp2
    go_ret
    exact ⟨ret_int (by unfold dif; omega), rfl⟩
set_option maxHeartbeats 400000 in
theorem rwithin (a b n : Int) (ha : U32 a) (hb : U32 b) (w : World) : Calls Try.prog 37 #[.int .u32 a, .int .u32 b, .int .i64 n] w fun e w' => e = .returned (.bool (decide ((a - b) % 4294967296 < n))) ∧ w = w' := by
  obtain ⟨a0, a1⟩ := ha
  obtain ⟨b0, b1⟩ := hb
  have e1 : (a - b + 4294967296).tmod 4294967296 = (a - b + 4294967296) % 4294967296 := tmod_pos (by omega)
  go_enter Try.func37, Try.ntmps37
  go_wp2
  go_ret
  exact ⟨ret_bool (decide_eq_decide.2 (by omega)), rfl⟩
set_option maxHeartbeats 400000 in
theorem rfirst (n : Int) (w : World) : Calls Try.prog 39 #[.int .i64 n] w fun e w' => e = .returned (.int .u32 (n * 4096 % 4294967296)) ∧ w = w' := by
  have h1 : -1048576 < n.tmod 1048576 ∧ n.tmod 1048576 < 1048576 ∧ (n - n.tmod 1048576) % 1048576 = 0 := by
    have h := Int.tmod_eq_emod (a := n) (b := 1048576)
    rw [h]
    split <;> simp <;> omega
  obtain ⟨r, hr⟩ : ∃ r, r = n.tmod 1048576 := ⟨_, rfl⟩
  rw [← hr] at h1
  have hr' := hr.symm
  clear hr
  obtain ⟨h1, h2, h3⟩ := h1
  by_cases h : r < 0
  · have g : decide (r < 0) = true := by simpa using h
    go_enter Try.func39, Try.ntmps39
    go_wp2
    go_ret
    exact ⟨ret_int (by omega), rfl⟩
  · have g : decide (r < 0) = false := by simpa using h
    go_enter Try.func39, Try.ntmps39
    go_wp2
    go_ret
    exact ⟨ret_int (by omega), rfl⟩
end Go.Proofs.Ytbhdojpgjmbogaa
