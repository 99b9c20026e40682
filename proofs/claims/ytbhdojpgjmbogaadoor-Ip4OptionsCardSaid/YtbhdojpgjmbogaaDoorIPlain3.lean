/- Plain laws of ip4: one bit turned; options put together. -/
import Derived.Test.YtbhdojpgjmbogaaDoorIPlain2
import Derived.Test.YtbhdojpgjmbogaaDoorIRefR
namespace Go.Proofs.YtbhdojpgjmbogaaDoor
open Go.RowKit
/-- A head of 20 bytes of which one bit, behind the first byte, is turned is not taken. -/
theorem dec9_turn (p : PK) (b : List UInt8) (h : ipE p [] b = 0) (i : Nat) (x : UInt8) (k : Nat) (hi : i < 20) (hk : k < 8) (hx : x.toNat = ((ipL p [] b).getD i 0).toNat ^^^ 2 ^ k) : ipC ((ipL p [] b).set i x) ≠ 0 ∨ i = 0 := by
  by_cases h0 : i = 0
  · exact .inr h0
  left
  intro hC
  obtain ⟨hp, _, h40, h4, hsz⟩ := ipE_ok h
  obtain ⟨n, hn⟩ : ∃ n : Int, n = 20 + (([] : List UInt8).length : Int) + b.length := ⟨_, rfl⟩
  have eL : ipL p [] b = ihL p [] n (ihS p [] n) ++ b := by
    unfold ipL
    rw [if_pos h, ← hn]
  have hlen : (ihL p [] n (ihS p [] n)).length = 20 := ihL_len p [] n (ihS p [] n)
  have hsum := ihS_sum p [] n (by simp)
  obtain ⟨a0, _⟩ := ihL_at p [] n (ihS p [] n) (by simp at hn hsz; omega) hp (by simp) (by simp) b
  rw [eL] at hC hx
  rw [List.set_append_left _ _ (by omega)] at hC
  obtain ⟨_, _, h3, _, _, _, h7, _⟩ := ipC_ok hC
  have e0 : ((ihL p [] n (ihS p [] n)).set i x ++ b).getD 0 0 = (ihL p [] n (ihS p [] n) ++ b).getD 0 0 := by
    rw [List.getD_eq_getElem?_getD, List.getD_eq_getElem?_getD, List.getElem?_append_left (by rw [List.length_set]; omega), List.getElem?_append_left (by omega), List.getElem?_set_ne h0]
  have hd : ihd ((ihL p [] n (ihS p [] n)).set i x ++ b) = 20 := by
    unfold ihd
    rw [e0, a0]
    rfl
  rw [hd] at h7
  have e20 : ((ihL p [] n (ihS p [] n)).set i x ++ b).take 20 = (ihL p [] n (ihS p [] n)).set i x := by
    rw [show 20 = ((ihL p [] n (ihS p [] n)).set i x).length by rw [List.length_set, hlen], List.take_left]
  rw [e20] at h7
  have m1 := (sumw_mod (ihL p [] n (ihS p [] n)) 0 (Int.le_refl _)).1
  have m2 := (sumw_mod ((ihL p [] n (ihS p [] n)).set i x) 0 (Int.le_refl _)).1
  rw [h7] at m2
  rw [hsum] at m1
  have hx' : x.toNat = ((ihL p [] n (ihS p [] n))[i]'(by omega)).toNat ^^^ 2 ^ k := by
    rw [hx, List.getD_eq_getElem?_getD, List.getElem?_append_left (by omega), List.getElem?_eq_getElem (by omega)]
    rfl
  exact tot16_turn _ i x (by omega) hk hx' (by omega) (by omega)
/-- A step over a padding byte. -/
theorem okO_step1 (a b : List UInt8) (k : Nat) (hk : k < a.length) (h : a[k].toNat = 1) : okO (a.drop (k + 1)) = okO (a.drop k) ∧ okO (a.drop (k + 1) ++ b) = okO (a.drop k ++ b) := by
  rw [List.drop_eq_getElem_cons hk, okO_one h, List.cons_append, okO_one h]
  exact ⟨rfl, rfl⟩
/-- A step over an option. -/
theorem okO_step2 (a b : List UInt8) (k : Nat) (hk : k < a.length) (h : 2 ≤ a[k].toNat) (hok : okO (a.drop k) = true) :
    ∃ h1 : k + 1 < a.length, 2 ≤ a[k + 1].toNat ∧ k + a[k + 1].toNat ≤ a.length ∧ okO (a.drop (k + a[k + 1].toNat)) = true ∧ okO (a.drop (k + a[k + 1].toNat) ++ b) = okO (a.drop k ++ b) := by
  rw [List.drop_eq_getElem_cons hk] at hok
  by_cases h1 : k + 1 < a.length
  · refine ⟨h1, ?_⟩
    have e : a.drop k = a[k] :: a[k + 1] :: a.drop (k + 1 + 1) := by rw [List.drop_eq_getElem_cons hk, List.drop_eq_getElem_cons h1]
    rw [List.drop_eq_getElem_cons h1] at hok
    by_cases hs : a[k + 1].toNat < 2 ∨ (a.drop (k + 1 + 1)).length + 2 < a[k + 1].toNat
    · rw [okO_bad h hs] at hok
      cases hok
    · have hl : (a.drop (k + 1 + 1)).length = a.length - (k + 1 + 1) := List.length_drop
      rw [okO_more h (by omega) (by omega), ← e, List.drop_drop] at hok
      refine ⟨by omega, by omega, hok, ?_⟩
      rw [e, List.cons_append, List.cons_append, okO_more h (by omega) (by rw [List.length_append]; omega), ← List.cons_append, ← List.cons_append, ← e, List.drop_append_of_le_length (by rw [List.length_drop]; omega), List.drop_drop]
  · rw [List.drop_of_length_le (by omega : a.length ≤ k + 1), okO_short h] at hok
    cases hok
end Go.Proofs.YtbhdojpgjmbogaaDoor
