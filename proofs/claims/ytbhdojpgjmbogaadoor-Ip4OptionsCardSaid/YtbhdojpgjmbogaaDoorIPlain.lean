/- Plain laws of ip4: the head's sum; what was encoded is decoded. -/
import Derived.Test.YtbhdojpgjmbogaaDoorSum16
import Derived.Test.YtbhdojpgjmbogaaDoorIDec
namespace Go.Proofs.YtbhdojpgjmbogaaDoor
open Go.RowKit
theorem getD_by8 (n : Int) (h : 0 ≤ n ∧ n ≤ 255) : ((by8 n).toNat : Int) = n := by rw [by8_toNat]; omega
section
variable (p : PK) (o : List UInt8) (size : Int)
theorem ihL_tot (S : Int) (h0 : 0 ≤ S) (h1 : S ≤ 65535) : tot16 (ihL p o size S) = tot16 (ihL p o size 0) + S := by
  have g : ∀ v, 0 ≤ v → v ≤ 65535 → tot16 (ihL p o size v) = tot16 (ihA p (20 + o.length) size) + (v + tot16 (p.s.l ++ p.d.l ++ o)) := fun v k0 k1 => by
    unfold ihL
    rw [List.append_assoc, tot16_append _ _ (by rw [ihA_len]), tot16_append (p16 v) _ (by rw [p16_len]), p16_tot v k0 k1]
  rw [g S h0 h1, g 0 (by omega) (by omega)]
  omega
theorem ihL_pos (ho : o.length ≤ 40) (S : Int) : 0 < tot16 (ihL p o size S) := by
  have e : ihL p o size S = by8 (64 + (20 + (o.length : Int)) / 4) :: by8 p.ts :: (p16 size ++ p16 p.id ++ p16 p.fg ++ [by8 p.tl, by8 p.pr] ++ p16 S ++ (p.s.l ++ p.d.l ++ o)) := by simp [ihL, ihA]
  rw [e]
  unfold tot16
  have h1 := tot16_nonneg (p16 size ++ p16 p.id ++ p16 p.fg ++ [by8 p.tl, by8 p.pr] ++ p16 S ++ (p.s.l ++ p.d.l ++ o))
  have h2 := getD_by8 (64 + (20 + (o.length : Int)) / 4) (by omega)
  omega
/-- The head's sum is right. -/
theorem ihS_sum (ho : o.length ≤ 40) : sumw (ihL p o size (ihS p o size)) 0 = 65535 := by
  have b0 := ihS_bd p o size
  have t := ihL_tot p o size _ b0.1 b0.2
  have h0 := ihL_pos p o size ho 0
  obtain ⟨m1, m2⟩ := sumw_mod (ihL p o size 0) 0 (Int.le_refl _)
  obtain ⟨n1, n2⟩ := sumw_mod (ihL p o size (ihS p o size)) 0 (Int.le_refl _)
  have c0 := sumw_bd (ihL p o size 0) 0 (Int.le_refl _) (by omega)
  have c1 := sumw_bd (ihL p o size (ihS p o size)) 0 (Int.le_refl _) (by omega)
  rw [Int.zero_add] at m1 m2 n1 n2
  have hS : ihS p o size = 65535 - sumw (ihL p o size 0) 0 := rfl
  have k0 : sumw (ihL p o size (ihS p o size)) 0 ≠ 0 := fun h => by have := n2.1 h; omega
  omega
/-- A sum that is right is that one, but for the two forms of 0. -/
theorem ihS_of (ho : o.length ≤ 40) (S : Int) (h0 : 0 ≤ S) (h1 : S ≤ 65535) (h : sumw (ihL p o size S) 0 = 65535) : S = ihS p o size ∨ (S = 65535 ∧ ihS p o size = 0) := by
  have t := ihL_tot p o size S h0 h1
  have hp := ihL_pos p o size ho 0
  obtain ⟨m1, m2⟩ := sumw_mod (ihL p o size 0) 0 (Int.le_refl _)
  obtain ⟨n1, n2⟩ := sumw_mod (ihL p o size S) 0 (Int.le_refl _)
  have c0 := sumw_bd (ihL p o size 0) 0 (Int.le_refl _) (by omega)
  rw [Int.zero_add] at m1 m2 n1 n2
  have hS : ihS p o size = 65535 - sumw (ihL p o size 0) 0 := rfl
  have k0 : sumw (ihL p o size 0) 0 ≠ 0 := fun h => by have := m2.1 h; omega
  omega
end
/-- What stands in a head that was encoded. -/
theorem ihL_at (p : PK) (o : List UInt8) (size S : Int) (hz : 0 ≤ size ∧ size ≤ 65535) (hp : p.Ok) (ho : o.length ≤ 40) (h4 : o.length % 4 = 0) (m : List UInt8) :
    ((ihL p o size S ++ m).getD 0 0).toNat = 64 + (20 + o.length) / 4 ∧ (((ihL p o size S ++ m).getD 1 0).toNat : Int) = p.ts ∧ b16 (ihL p o size S ++ m) 2 = size ∧ b16 (ihL p o size S ++ m) 4 = p.id ∧ b16 (ihL p o size S ++ m) 6 = p.fg ∧
      (((ihL p o size S ++ m).getD 8 0).toNat : Int) = p.tl ∧ (((ihL p o size S ++ m).getD 9 0).toNat : Int) = p.pr ∧
      (⟨(ihL p o size S ++ m).getD 12 0, (ihL p o size S ++ m).getD 13 0, (ihL p o size S ++ m).getD 14 0, (ihL p o size S ++ m).getD 15 0⟩ : IP) = p.s ∧
      (⟨(ihL p o size S ++ m).getD 16 0, (ihL p o size S ++ m).getD 17 0, (ihL p o size S ++ m).getD 18 0, (ihL p o size S ++ m).getD 19 0⟩ : IP) = p.d := by
  obtain ⟨h1, h2, h3, h5, h6, h7⟩ := hp
  simp only [decide_eq_true_eq] at h1 h2 h3 h5 h6
  have hf : 0 ≤ p.fg ∧ p.fg ≤ 65535 := by unfold PK.fg; cases p.wh <;> cases p.mo <;> simp <;> omega
  have a0 : ((by8 (64 + (20 + (o.length : Int)) / 4)).toNat : Int) = ((64 + (20 + o.length) / 4 : Nat) : Int) := by rw [getD_by8 _ (by omega)]; omega
  have a1 := getD_by8 p.ts h2
  have a8 := getD_by8 p.tl (by omega)
  have a9 := getD_by8 p.pr h1
  have e2 := be_p16 size hz.1 hz.2
  have e4 := be_p16 p.id h3.1 h3.2
  have e6 := be_p16 p.fg hf.1 hf.2
  exact ⟨Int.ofNat.inj a0, a1, e2, e4, e6, a8, a9, rfl, rfl⟩
theorem fg_parts (p : PK) (hp : p.Ok) : p.fg < 32768 ∧ 0 ≤ p.fg ∧ decide (p.fg / 16384 % 2 = 1) = p.wh ∧ decide (p.fg / 8192 % 2 = 1) = p.mo ∧ p.fg % 8192 * 8 = p.fo := by
  obtain ⟨h1, h2, h3, h5, h6, h7⟩ := hp
  simp only [decide_eq_true_eq] at h6
  unfold PK.fg
  cases p.wh <;> cases p.mo <;> simp <;> omega
/-- What was encoded is decoded as it was, whatever stands behind it. -/
theorem dec9_back (p : PK) (o b tail : List UInt8) (h : ipE p o b = 0) : ipC (ipL p o b ++ tail) = 0 ∧ iopL (ipL p o b ++ tail) = o ∧ iplL (ipL p o b ++ tail) = b ∧ ∀ vo, dPK (ipL p o b ++ tail) vo = { p with op := vo } := by
  obtain ⟨hp, hok, h40, h4, hsz⟩ := ipE_ok h
  obtain ⟨n, hn⟩ : ∃ n, n = 20 + o.length + b.length := ⟨_, rfl⟩
  have eL : ipL p o b = ihL p o n (ihS p o n) ++ b := by
    unfold ipL
    rw [if_pos h]
    have : (20 + (o.length : Int) + (b.length : Int)) = ((n : Nat) : Int) := by omega
    rw [this]
  have hlen := ihL_len p o n (ihS p o n)
  have hsum := ihS_sum p o n h40
  obtain ⟨a0, a1, a2, a4, a6, a8, a9, as_, ad⟩ := ihL_at p o n (ihS p o n) (by omega) hp h40 h4 (b ++ tail)
  obtain ⟨f0, f1, f2, f3, f4⟩ := fg_parts p hp
  have tl := hp.tl
  simp only [decide_eq_true_eq] at tl
  rw [eL, List.append_assoc]
  have hd : ihd (ihL p o n (ihS p o n) ++ (b ++ tail)) = 20 + o.length := by unfold ihd; rw [a0]; omega
  have ht : (ihL p o n (ihS p o n) ++ (b ++ tail)).take (20 + o.length) = ihL p o n (ihS p o n) := by rw [← hlen, List.take_left]
  have h20 : (ihL p o n (ihS p o n)).drop 20 = o := rfl
  have hT : (ihL p o n (ihS p o n) ++ (b ++ tail)).length = n + tail.length := by simp only [List.length_append, hlen]; omega
  refine ⟨?_, ?_, ?_, fun vo => ?_⟩
  · unfold ipC
    rw [hd, ht, h20, a2, a6, hsum, hok, a0, hT, if_neg (by omega), if_neg (by omega), if_neg (by omega), if_neg (by simp), if_neg (by simp), if_neg (by omega), if_neg (by omega)]
  · unfold iopL
    rw [hd, ht, h20]
  · unfold iplL
    rw [hd, a2]
    have e : ((n : Int)).toNat = (ihL p o n (ihS p o n) ++ b).length := by rw [List.length_append, hlen]; omega
    rw [e, ← List.append_assoc, List.take_left, ← hlen, List.drop_left]
  · unfold dPK
    rw [as_, ad, a9, a8, a4, a1, a6, f2, f3, f4]
end Go.Proofs.YtbhdojpgjmbogaaDoor
