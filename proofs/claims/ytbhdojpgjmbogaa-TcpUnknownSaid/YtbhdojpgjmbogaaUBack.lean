/- UdpBack: the plain laws: what was encoded is decoded as it was; one bit that is turned. -/
import Derived.Test.YtbhdojpgjmbogaaBits
namespace Go.Proofs.Ytbhdojpgjmbogaa
open Go.RowKit
theorem be_p16 (n : Int) (h0 : 0 ≤ n) (h1 : n ≤ 65535) : be (p16 n) = n := by
  unfold p16 be
  simp only [List.foldl_cons, List.foldl_nil, by8_toNat]
  omega
theorem b16_two (l : List UInt8) (k : Nat) (h : k + 1 < l.length) : b16 l k = 256 * (l[k].toNat : Int) + l[k + 1].toNat := by
  unfold b16
  rw [List.drop_eq_getElem_cons (by omega), List.drop_eq_getElem_cons h]
  simp only [List.take_succ_cons, List.take_zero, be, List.foldl_cons, List.foldl_nil]
  omega
/-- An address of which one byte is another one. -/
def IP.put (s : IP) (i : Nat) (x : UInt8) : IP :=
  match i with
  | 0 => { s with a := x }
  | 1 => { s with b := x }
  | 2 => { s with c := x }
  | _ => { s with d := x }
theorem IP.put_l (s : IP) (i : Nat) (x : UInt8) (h : i < 4) : (s.put i x).l = s.l.set i x := by
  match i, h with
  | 0, _ | 1, _ | 2, _ | 3, _ => rfl
section
variable (s d : IP) (f t : Int) (b : List UInt8)
/-- The datagram's sum is one. -/
theorem encS_bd : 1 ≤ encS s d f t b ∧ encS s d f t b ≤ 65535 := by
  have := csum_bd 17 s d (laidL f t b 0)
  unfold encS
  split <;> omega
theorem psl_pos (n : Int) : 17 ≤ tot16 (psl s d 17 n) := by
  have e : psl s d 17 n = s.l ++ d.l ++ ([0, by8 17] ++ p16 n) := by simp [psl]
  rw [e, tot16_append _ _ (by simp [IP.l])]
  have h1 := tot16_nonneg (s.l ++ d.l)
  have h2 : tot16 ([0, by8 17] ++ p16 n) = 17 + tot16 (p16 n) := by
    rw [tot16_append _ _ (by simp)]
    rfl
  have h3 := tot16_nonneg (p16 n)
  omega
theorem laid_tot (sum : Int) (h0 : 0 ≤ sum) (h1 : sum ≤ 65535) : tot16 (laidL f t b sum) = tot16 (laidL f t b 0) + sum := by
  have e : ∀ v, laidL f t b v = (p16 f ++ p16 t ++ p16 (8 + b.length)) ++ (p16 v ++ b) := fun v => by simp [laidL]
  have g : ∀ v, 0 ≤ v → v ≤ 65535 → tot16 (laidL f t b v) = tot16 (p16 f ++ p16 t ++ p16 (8 + b.length)) + (v + tot16 b) := fun v k0 k1 => by
    rw [e, tot16_append _ _ (by simp [p16_len]), tot16_append (p16 v) b (by simp [p16_len]), p16_tot v k0 k1]
  rw [g sum h0 h1, g 0 (by omega) (by omega)]
  omega
/-- The datagram's sum fits it. -/
theorem enc_sum : csum 17 s d (laidL f t b (encS s d f t b)) = 0 := by
  obtain ⟨h0, h1⟩ := encS_bd s d f t b
  rw [csum_zero, tot16_append _ _ (by rw [psl_len]), laid_tot f t b _ (by omega) h1, laid_len]
  have hp := psl_pos s d ((8 + b.length : Nat) : Int)
  have hn := tot16_nonneg (laidL f t b 0)
  refine ⟨?_, by omega⟩
  have hm := sumw_mod (psl s d 17 ((8 + b.length : Nat) : Int) ++ laidL f t b 0) 0 (Int.le_refl _)
  rw [tot16_append _ _ (by rw [psl_len])] at hm
  have hb := sumw_bd (psl s d 17 ((8 + b.length : Nat) : Int) ++ laidL f t b 0) 0 (Int.le_refl _) (by omega)
  have hS : encS s d f t b = if csum 17 s d (laidL f t b 0) = 0 then 65535 else csum 17 s d (laidL f t b 0) := rfl
  have hC : csum 17 s d (laidL f t b 0) = 65535 - sumw (psl s d 17 ((8 + b.length : Nat) : Int) ++ laidL f t b 0) 0 := by unfold csum; rw [laid_len]
  rw [hS, hC]
  split <;> omega
variable (hf : portB f = true) (ht : portB t = true) (hl : b.length ≤ 1016)
include hf ht hl
theorem heads (S : Int) (h0 : 0 ≤ S) (h1 : S ≤ 65535) (tail : List UInt8) : b16 (laidL f t b S ++ tail) 0 = f ∧ b16 (laidL f t b S ++ tail) 2 = t ∧ b16 (laidL f t b S ++ tail) 4 = 8 + b.length ∧ b16 (laidL f t b S ++ tail) 6 = S := by
  obtain ⟨f0, f1⟩ := portB_t hf
  obtain ⟨t0, t1⟩ := portB_t ht
  have e0 := be_p16 f (by omega) (by omega)
  have e1 := be_p16 t (by omega) (by omega)
  have e2 := be_p16 (8 + (b.length : Int)) (by omega) (by omega)
  have e3 := be_p16 S h0 h1
  refine ⟨?_, ?_, ?_, ?_⟩
  · exact e0
  · exact e1
  · exact e2
  · exact e3
theorem dec_back (tail : List UInt8) : decR 17 s d (laidL f t b (encS s d f t b) ++ tail) = (f, t, b, 0) := by
  obtain ⟨f0, f1⟩ := portB_t hf
  obtain ⟨t0, t1⟩ := portB_t ht
  obtain ⟨h0, h1⟩ := encS_bd s d f t b
  obtain ⟨a0, a1, a2, a3⟩ := heads f t b hf ht hl (encS s d f t b) (by omega) h1 tail
  have hlen := laid_len f t (encS s d f t b) b
  unfold decR
  rw [a0, a1, a2, a3]
  have hn : (8 + (b.length : Int)).toNat = (laidL f t b (encS s d f t b)).length := by rw [hlen]; omega
  rw [hn, List.take_left, enc_sum]
  rw [if_neg (by simp [hlen]; omega), if_neg (by simp [hlen]; omega), if_neg (by simp), if_neg (by omega)]
  rfl
theorem dec_other (i : Nat) (x : UInt8) (k : Nat) (hi : i < 4) (hk : k < 8) (hx : x.toNat = (s.l[i]'(by simpa [IP.l] using hi)).toNat ^^^ 2 ^ k) : decR 17 (s.put i x) d (laidL f t b (encS s d f t b)) = (0, 0, [], 5) := by
  obtain ⟨h0, h1⟩ := encS_bd s d f t b
  obtain ⟨a0, a1, a2, a3⟩ := heads f t b hf ht hl (encS s d f t b) (by omega) h1 []
  rw [List.append_nil] at a0 a1 a2 a3
  have hlen := laid_len f t (encS s d f t b) b
  have hz := (csum_zero 17 s d _).1 (enc_sum s d f t b)
  have hp : ∀ n, psl (s.put i x) d 17 n = (psl s d 17 n).set i x := fun n => by
    have hil : i < s.l.length := by simpa [IP.l] using hi
    unfold psl
    rw [IP.put_l s i x hi]
    simp only [List.append_assoc]
    rw [List.set_append_left _ _ hil]
  have hne : csum 17 (s.put i x) d (laidL f t b (encS s d f t b)) ≠ 0 := fun h => by
    have h2 := ((csum_zero 17 _ d _).1 h).1
    have hi12 : i < (psl s d 17 ((laidL f t b (encS s d f t b)).length : Int)).length := by rw [psl_len]; omega
    rw [hp, ← List.set_append_left _ _ hi12] at h2
    refine tot16_turn _ i x (by rw [List.length_append]; omega) hk ?_ hz.1 h2
    rw [hx]
    congr 1
    rw [List.getElem_append_left hi12]
    unfold psl
    simp only [List.append_assoc]
    rw [List.getElem_append_left (by simpa [IP.l] using hi)]
  unfold decR
  rw [a2, a3]
  have hn : (8 + (b.length : Int)).toNat = (laidL f t b (encS s d f t b)).length := by rw [hlen]; omega
  rw [hn, List.take_length, if_neg (by rw [hlen]; omega), if_neg (by rw [hlen]; omega), if_pos ⟨by omega, hne⟩]
theorem dec_turn (i : Nat) (x : UInt8) (k : Nat) (hi : i < (laidL f t b (encS s d f t b)).length) (hk : k < 8) (hx : x.toNat = (laidL f t b (encS s d f t b))[i].toNat ^^^ 2 ^ k) (L : List UInt8) (hL : L = (laidL f t b (encS s d f t b)).set i x) (h8 : 7 < L.length) :
    (decR 17 s d L).2.2.2 ≠ 0 ∨ i = 4 ∨ i = 5 ∨ ((i = 6 ∨ i = 7) ∧ L[6] = 0 ∧ L[7] = 0) := by
  obtain ⟨h0, h1⟩ := encS_bd s d f t b
  obtain ⟨a0, a1, a2, a3⟩ := heads f t b hf ht hl (encS s d f t b) (by omega) h1 []
  rw [List.append_nil] at a0 a1 a2 a3
  have hlen := laid_len f t (encS s d f t b) b
  have hz := (csum_zero 17 s d _).1 (enc_sum s d f t b)
  have hLl : L.length = 8 + b.length := by rw [hL, List.length_set, hlen]
  by_cases h4 : i = 4
  · exact .inr (.inl h4)
  by_cases h5 : i = 5
  · exact .inr (.inr (.inl h5))
  have e4 : b16 L 4 = 8 + b.length := by
    rw [← a2, b16_two _ _ (by omega), b16_two _ _ (by omega)]
    subst hL
    rw [List.getElem_set_ne h4, List.getElem_set_ne h5]
  have hne : csum 17 s d L ≠ 0 := fun h => by
    have h2 := ((csum_zero 17 s d _).1 h).1
    have e : psl s d 17 (L.length : Int) ++ L = (psl s d 17 ((laidL f t b (encS s d f t b)).length : Int) ++ laidL f t b (encS s d f t b)).set (12 + i) x := by
      rw [List.set_append_right _ _ (by rw [psl_len]; omega), psl_len, hL, List.length_set]
      congr 2
      omega
    rw [e] at h2
    refine tot16_turn _ (12 + i) x (by rw [List.length_append, psl_len]; omega) hk ?_ hz.1 h2
    rw [hx]
    congr 2
    rw [List.getElem_append_right (by rw [psl_len]; omega)]
    congr 1
    rw [psl_len]
    omega
  have hn : (8 + (b.length : Int)).toNat = L.length := by rw [hLl]; omega
  by_cases h6 : b16 L 6 = 0
  · have e6 : b16 L 6 = 256 * (L[6].toNat : Int) + L[7].toNat := b16_two L 6 (by omega)
    rw [h6] at e6
    have g6 : L[6] = 0 := by apply UInt8.toNat_inj.1; simp; omega
    have g7 : L[7] = 0 := by apply UInt8.toNat_inj.1; simp; omega
    refine .inr (.inr (.inr ⟨?_, g6, g7⟩))
    by_cases k6 : i = 6
    · exact .inl k6
    by_cases k7 : i = 7
    · exact .inr k7
    exfalso
    have : b16 L 6 = encS s d f t b := by
      rw [← a3, b16_two _ _ (by omega), b16_two _ _ (by omega)]
      subst hL
      rw [List.getElem_set_ne k6, List.getElem_set_ne k7]
    omega
  · left
    unfold decR
    rw [e4, hn, List.take_length, if_neg (by omega), if_neg (by omega), if_pos ⟨h6, hne⟩]
    simp
end
end Go.Proofs.Ytbhdojpgjmbogaa
