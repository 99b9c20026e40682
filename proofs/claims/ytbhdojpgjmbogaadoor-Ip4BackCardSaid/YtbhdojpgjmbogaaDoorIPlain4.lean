/- Plain laws of ip4: what was read is written as the same bytes, but for the two forms of the sum 0. -/
import Derived.Test.YtbhdojpgjmbogaaDoorIPlain2
namespace Go.Proofs.YtbhdojpgjmbogaaDoor
open Go.RowKit
theorem ihL_ten (p : PK) (o m : List UInt8) (size S : Int) : (((ihL p o size S ++ m).set 10 0).set 11 0) = ihL p o size 0 ++ m := by
  simp only [ihL, ihA, p16, List.cons_append, List.nil_append, List.append_assoc, List.set_cons_succ, List.set_cons_zero]
  rfl
theorem ihS_less (p : PK) (o : List UInt8) (size : Int) (ho : o.length ≤ 40) : ihS p o size < 65535 := by
  have h0 := ihL_pos p o size ho 0
  obtain ⟨m1, m2⟩ := sumw_mod (ihL p o size 0) 0 (Int.le_refl _)
  have c0 := sumw_bd (ihL p o size 0) 0 (Int.le_refl _) (by omega)
  rw [Int.zero_add] at m1 m2
  have hS : ihS p o size = 65535 - sumw (ihL p o size 0) 0 := rfl
  have k0 : sumw (ihL p o size 0) 0 ≠ 0 := fun h => by have := m2.1 h; omega
  omega
theorem back9 (L : List UInt8) (vo : Value) (h : ipC L = 0) : ∃ Y, Y = ipL (dPK L vo) (iopL L) (iplL L) ∧ ipE (dPK L vo) (iopL L) (iplL L) = 0 ∧ 20 ≤ Y.length ∧ Y.length ≤ L.length ∧
    (((L.getD 10 0).toNat = 255 ∧ (L.getD 11 0).toNat = 255) → ((L.take Y.length).set 10 0).set 11 0 = Y) ∧ (¬ ((L.getD 10 0).toNat = 255 ∧ (L.getD 11 0).toNat = 255) → L.take Y.length = Y) := by
  obtain ⟨h1, h2, h3, h4, h5, h6⟩ := enc9_back L vo h
  obtain ⟨k1, k2, k3, k4, k5, k6, k7, k8, k9, k10⟩ := ipC_ok h
  have hl := ihS_less (dPK L vo) (iopL L) (b16 L 2) h1
  have hg : b16 L 10 = 256 * ((L.getD 10 0).toNat : Int) + ((L.getD 11 0).toNat : Int) := getD_two L 10 (by omega)
  have u10 := UInt8.toNat_lt (L.getD 10 0)
  have u11 := UInt8.toNat_lt (L.getD 11 0)
  have hlen : (ipL (dPK L vo) (iopL L) (iplL L)).length = (b16 L 2).toNat := by
    have e : (L.take (b16 L 2).toNat).length = (b16 L 2).toNat := by rw [List.length_take]; omega
    rw [h4, List.length_append, ihL_len] at e
    rw [h5, List.length_append, ihL_len, e]
  refine ⟨_, rfl, h3, by omega, by omega, ?_, ?_⟩
  · rintro ⟨e1, e2⟩
    rw [hlen, h4, ihL_ten, h5]
    rw [e1, e2] at hg
    rcases h6 with h6 | ⟨_, h6⟩
    · omega
    · rw [h6]
  · intro hn
    rw [hlen, h4, h5]
    rcases h6 with h6 | ⟨h6, _⟩
    · rw [h6]
    · omega
end Go.Proofs.YtbhdojpgjmbogaaDoor
