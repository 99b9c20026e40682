/- The one's-complement sum: plain laws: what it is modulo 65535; what one bit that is turned does to it; numbers in two bytes. -/
import Derived.Test.YtbhdojpgjmbogaaDoorTouch
namespace Go.Proofs.YtbhdojpgjmbogaaDoor
open Go.RowKit

/-- The plain sum of the words of bytes. -/
def tot16 : List UInt8 → Int
  | [] => 0
  | [a] => 256 * a.toNat
  | a :: b :: t => 256 * a.toNat + b.toNat + tot16 t
theorem tot16_nonneg (l : List UInt8) : 0 ≤ tot16 l := by
  match l with
  | [] => exact Int.le_refl _
  | [a] => unfold tot16; omega
  | a :: b :: t => have := tot16_nonneg t; unfold tot16; omega
/-- A number folded: it keeps what it is modulo 65535, and whether it is 0. -/
theorem fold_mod (n : Int) (h : 0 ≤ n) : fold n % 65535 = n % 65535 ∧ (fold n = 0 ↔ n = 0) := by
  by_cases hb : 65535 < n
  · rw [fold_big hb]
    have h1 : 0 ≤ fold1 n := by unfold fold1; omega
    obtain ⟨h2, h3⟩ := fold_mod (fold1 n) h1
    refine ⟨h2.trans (by unfold fold1; omega), h3.trans ?_⟩
    unfold fold1
    omega
  · rw [fold_small (by omega)]
    exact ⟨rfl, Iff.rfl⟩
termination_by n.toNat
decreasing_by unfold fold1; omega
theorem sumw_mod (l : List UInt8) (s : Int) (h : 0 ≤ s) : sumw l s % 65535 = (s + tot16 l) % 65535 ∧ (sumw l s = 0 ↔ s + tot16 l = 0) := by
  match l with
  | [] => simp [sumw, tot16]
  | [a] =>
    have := fold_mod (s + 256 * a.toNat) (by omega)
    simpa [sumw, tot16] using this
  | a :: b :: t =>
    have h0 : 0 ≤ s + 256 * (a.toNat : Int) + b.toNat := by omega
    obtain ⟨f1, f2⟩ := fold_mod _ h0
    obtain ⟨g1, g2⟩ := sumw_mod t (fold (s + 256 * a.toNat + b.toNat)) (fold_ge _ h0)
    have := tot16_nonneg t
    have hf := fold_ge _ h0
    unfold sumw tot16
    refine ⟨g1.trans (by omega), g2.trans ?_⟩
    constructor
    · intro h
      have : fold (s + 256 * (a.toNat : Int) + b.toNat) = 0 := by omega
      have := f2.1 this
      omega
    · intro h
      have h1 : s + 256 * (a.toNat : Int) + b.toNat = 0 := by omega
      have := f2.2 h1
      omega
theorem tot16_append (l m : List UInt8) (h : l.length % 2 = 0) : tot16 (l ++ m) = tot16 l + tot16 m := by
  match l with
  | [] => simp [tot16]
  | [a] => simp at h
  | a :: b :: t =>
    have := tot16_append t m (by simp at h; omega)
    simp only [List.cons_append, tot16, this]
    omega
/-- The weight of a byte at a place. -/
def wt (i : Nat) : Int := if i % 2 = 0 then 256 else 1
theorem tot16_set (l : List UInt8) (i : Nat) (x : UInt8) (hi : i < l.length) : tot16 (l.set i x) = tot16 l + wt i * ((x.toNat : Int) - l[i].toNat) := by
  match l, i with
  | [a], 0 => simp [tot16, wt]; omega
  | a :: b :: t, 0 => simp [tot16, wt]; omega
  | a :: b :: t, 1 => simp [tot16, wt]; omega
  | a :: b :: t, i + 2 =>
    have := tot16_set t i x (by simp at hi; omega)
    simp only [List.set_cons_succ, tot16, List.getElem_cons_succ]
    rw [this]
    have e : wt (i + 2) = wt i := by unfold wt; rw [Nat.add_mod_right]
    rw [e]
    omega
set_option maxRecDepth 100000 in
/-- A byte of which one bit is turned. -/
theorem turned : ∀ (k : Fin 8) (x : Fin 256), ((x.1 ^^^ 2 ^ k.1 : Nat) : Int) - x.1 = 2 ^ k.1 ∨ ((x.1 ^^^ 2 ^ k.1 : Nat) : Int) - x.1 = -(2 ^ k.1) := by decide +kernel
theorem pow_cases (k : Nat) (h : k < 8) : ((2 : Int) ^ k = 1 ∨ (2 : Int) ^ k = 2 ∨ (2 : Int) ^ k = 4 ∨ (2 : Int) ^ k = 8 ∨ (2 : Int) ^ k = 16 ∨ (2 : Int) ^ k = 32 ∨ (2 : Int) ^ k = 64 ∨ (2 : Int) ^ k = 128) := by
  match k, h with
  | 0, _ | 1, _ | 2, _ | 3, _ | 4, _ | 5, _ | 6, _ | 7, _ => decide
/-- One bit that is turned: the sum modulo 65535 is another one. -/
theorem tot16_turn (l : List UInt8) (i : Nat) (x : UInt8) (hi : i < l.length) {k : Nat} (hk : k < 8) (hx : x.toNat = l[i].toNat ^^^ 2 ^ k) (h0 : tot16 l % 65535 = 0) : tot16 (l.set i x) % 65535 ≠ 0 := by
  rw [tot16_set l i x hi, hx]
  have h1 := turned ⟨k, hk⟩ ⟨l[i].toNat, UInt8.toNat_lt _⟩
  simp only at h1
  have hw : wt i = 256 ∨ wt i = 1 := by unfold wt; split <;> simp
  generalize ((l[i].toNat ^^^ 2 ^ k : Nat) : Int) - (l[i].toNat : Int) = D at h1 ⊢
  generalize tot16 l = T at h0 ⊢
  have hp := pow_cases k hk
  generalize (2 : Int) ^ k = Q at h1 hp
  rcases hw with hw | hw <;> rw [hw] <;> omega
/-- A datagram's sum fits it. -/
theorem p16_tot (n : Int) (h0 : 0 ≤ n) (h1 : n ≤ 65535) : tot16 (p16 n) = n := by
  unfold p16 tot16
  simp only [by8_toNat, tot16]
  omega
theorem be_p16 (n : Int) (h0 : 0 ≤ n) (h1 : n ≤ 65535) : be (p16 n) = n := by
  unfold p16 be
  simp only [List.foldl_cons, List.foldl_nil, by8_toNat]
  omega
theorem b16_two (l : List UInt8) (k : Nat) (h : k + 1 < l.length) : b16 l k = 256 * (l[k].toNat : Int) + l[k + 1].toNat := by
  unfold b16
  rw [List.drop_eq_getElem_cons (by omega), List.drop_eq_getElem_cons h]
  simp only [List.take_succ_cons, List.take_zero, be, List.foldl_cons, List.foldl_nil]
  omega
/-- A byte of which one bit is turned. -/
def X8 (y : UInt8) (K : Nat) : UInt8 := UInt8.ofNat (y.toNat ^^^ 2 ^ K)
theorem X8_nat (y : UInt8) (K : Nat) (h : K < 8) : (X8 y K).toNat = y.toNat ^^^ 2 ^ K := by
  unfold X8
  rw [UInt8.toNat_ofNat', Nat.mod_eq_of_lt]
  have h1 : (2 : Nat) ^ K < 2 ^ 8 := Nat.pow_lt_pow_right (by omega) h
  exact Nat.xor_lt_two_pow (UInt8.toNat_lt y) h1
theorem xor8 (y : UInt8) (K : Nat) (h : K < 8) : bits .xor .u8 (y.toNat : Int) (2 ^ K % 256) = ((X8 y K).toNat : Int) := by
  rw [X8_nat y K h]
  have h1 : (2 : Nat) ^ K < 2 ^ 8 := Nat.pow_lt_pow_right (by omega) h
  have h2 := UInt8.toNat_lt y
  have e : ((2 : Int) ^ K % 256) = ((2 ^ K : Nat) : Int) := by
    match K, h with
    | 0, _ | 1, _ | 2, _ | 3, _ | 4, _ | 5, _ | 6, _ | 7, _ => decide
  rw [e]
  have hx : y.toNat ^^^ 2 ^ K < 2 ^ 8 := Nat.xor_lt_two_pow h2 h1
  show IntKind.u8.wrap ((BitVec.ofInt 8 (y.toNat : Int) ^^^ BitVec.ofInt 8 ((2 ^ K : Nat) : Int)).toNat : Int) = _
  rw [BitVec.toNat_xor, BitVec.ofInt_natCast, BitVec.ofInt_natCast, BitVec.toNat_ofNat, BitVec.toNat_ofNat, Nat.mod_eq_of_lt h2, Nat.mod_eq_of_lt h1, IntKind.wrap_u8]
  omega
end Go.Proofs.YtbhdojpgjmbogaaDoor
