/- Plain laws of ip4: what was decoded is encoded as the same bytes, but for the two forms of the sum 0. -/
import Derived.Test.YtbhdojpgjmbogaaDoorIPlain
namespace Go.Proofs.YtbhdojpgjmbogaaDoor
open Go.RowKit
theorem by8_of (x : UInt8) (n : Int) (h : n = (x.toNat : Int)) : by8 n = x := by
  apply UInt8.toNat_inj.1
  apply Int.ofNat.inj
  have := UInt8.toNat_lt x
  show ((by8 n).toNat : Int) = (x.toNat : Int)
  rw [by8_toNat]
  omega
theorem p16_of (a b : UInt8) (n : Int) (h : n = 256 * (a.toNat : Int) + b.toNat) : p16 n = [a, b] := by
  have h1 := UInt8.toNat_lt a
  have h2 := UInt8.toNat_lt b
  unfold p16
  rw [by8_of a _ (by omega)]
  congr 2
  apply UInt8.toNat_inj.1
  apply Int.ofNat.inj
  show ((by8 n).toNat : Int) = (b.toNat : Int)
  rw [by8_toNat]
  omega
theorem ten (L : List UInt8) (h : 10 ≤ L.length) : ∃ x0 x1 x2 x3 x4 x5 x6 x7 x8 x9 : UInt8, ∃ r, L = x0 :: x1 :: x2 :: x3 :: x4 :: x5 :: x6 :: x7 :: x8 :: x9 :: r := by
  match L, h with
  | x0 :: x1 :: x2 :: x3 :: x4 :: x5 :: x6 :: x7 :: x8 :: x9 :: r, _ => exact ⟨x0, x1, x2, x3, x4, x5, x6, x7, x8, x9, r, rfl⟩
/-- Twenty bytes stand apart. -/
theorem twenty (L : List UInt8) (h : 20 ≤ L.length) : ∃ x0 x1 x2 x3 x4 x5 x6 x7 x8 x9 x10 x11 x12 x13 x14 x15 x16 x17 x18 x19 : UInt8, ∃ r, L = x0 :: x1 :: x2 :: x3 :: x4 :: x5 :: x6 :: x7 :: x8 :: x9 :: x10 :: x11 :: x12 :: x13 :: x14 :: x15 :: x16 :: x17 :: x18 :: x19 :: r := by
  obtain ⟨x0, x1, x2, x3, x4, x5, x6, x7, x8, x9, r, rfl⟩ := ten L (by omega)
  obtain ⟨y0, y1, y2, y3, y4, y5, y6, y7, y8, y9, r', rfl⟩ := ten r (by simp at h; omega)
  exact ⟨_, _, _, _, _, _, _, _, _, _, _, _, _, _, _, _, _, _, _, _, _, rfl⟩
theorem getD_two (L : List UInt8) (k : Nat) (h : k + 1 < L.length) : b16 L k = 256 * ((L.getD k 0).toNat : Int) + (L.getD (k + 1) 0).toNat := by rw [b16_two L k h, getD_at L k (by omega), getD_at L (k + 1) h]
/-- What Decode has looked at. -/
theorem ipC_ok {L : List UInt8} (h : ipC L = 0) : 20 ≤ L.length ∧ (L.getD 0 0).toNat / 16 = 4 ∧ 20 ≤ ihd L ∧ ihd L ≤ L.length ∧ (ihd L : Int) ≤ b16 L 2 ∧ b16 L 2 ≤ L.length ∧ sumw (L.take (ihd L)) 0 = 65535 ∧ okO (iopL L) = true ∧ (L.getD 8 0).toNat ≠ 0 ∧ b16 L 6 < 32768 := by
  unfold ipC at h
  unfold iopL
  split at h
  · omega
  split at h
  · omega
  split at h
  · omega
  split at h
  · omega
  split at h
  · omega
  split at h
  · omega
  split at h
  · omega
  rename_i h1 h2 h3 h4 h5 h6 h7
  refine ⟨by omega, by omega, by omega, by omega, by omega, by omega, by omega, by simpa using h5, h6, by omega⟩
theorem b16_bd' (L : List UInt8) (k : Nat) : 0 ≤ b16 L k ∧ b16 L k ≤ 65535 := by
  have := b16_bd L k
  omega
/-- What was decoded may be encoded: it is so many bytes; its head is the head that was read, but for the sum's form. -/
theorem enc9_back (L : List UInt8) (vo : Value) (h : ipC L = 0) : (iopL L).length ≤ 40 ∧ (iplL L).length = (b16 L 2).toNat - ihd L ∧ ipE (dPK L vo) (iopL L) (iplL L) = 0 ∧
    L.take (b16 L 2).toNat = ihL (dPK L vo) (iopL L) (b16 L 2) (b16 L 10) ++ iplL L ∧ ipL (dPK L vo) (iopL L) (iplL L) = ihL (dPK L vo) (iopL L) (b16 L 2) (ihS (dPK L vo) (iopL L) (b16 L 2)) ++ iplL L ∧
    (b16 L 10 = ihS (dPK L vo) (iopL L) (b16 L 2) ∨ (b16 L 10 = 65535 ∧ ihS (dPK L vo) (iopL L) (b16 L 2) = 0)) := by
  obtain ⟨h1, h2, h3, h4, h5, h6, h7, h8, h9, h10⟩ := ipC_ok h
  have hz := b16_bd' L 2
  have hi := b16_bd' L 4
  have hf := b16_bd' L 6
  have hs := b16_bd' L 10
  have hd : ihd L = (L.getD 0 0).toNat % 16 * 4 := rfl
  have l0 := UInt8.toNat_lt (L.getD 0 0)
  have l1 := UInt8.toNat_lt (L.getD 1 0)
  have l8 := UInt8.toNat_lt (L.getD 8 0)
  have l9 := UInt8.toNat_lt (L.getD 9 0)
  have ho : (iopL L).length = ihd L - 20 := by unfold iopL; rw [List.length_drop, List.length_take]; omega
  have hc : (iplL L).length = (b16 L 2).toNat - ihd L := by unfold iplL; rw [List.length_drop, List.length_take]; omega
  have hE : ipE (dPK L vo) (iopL L) (iplL L) = 0 := by
    have e1 : (dPK L vo).argB = true := by
      simp only [PK.argB, Bool.and_eq_true, decide_eq_true_eq, beq_iff_eq]
      refine ⟨⟨⟨⟨⟨?_, ?_⟩, ?_⟩, ?_⟩, ?_⟩, ?_⟩
      · show 0 ≤ ((L.getD 9 0).toNat : Int) ∧ ((L.getD 9 0).toNat : Int) ≤ 255
        omega
      · show 0 ≤ ((L.getD 1 0).toNat : Int) ∧ ((L.getD 1 0).toNat : Int) ≤ 255
        omega
      · exact hi
      · show 1 ≤ ((L.getD 8 0).toNat : Int) ∧ ((L.getD 8 0).toNat : Int) ≤ 255
        omega
      · show 0 ≤ b16 L 6 % 8192 * 8 ∧ b16 L 6 % 8192 * 8 ≤ 65528
        omega
      · show b16 L 6 % 8192 * 8 % 8 = 0
        omega
    have e2 : optB9 (iopL L) = true := by
      simp only [optB9, Bool.and_eq_true, decide_eq_true_eq, beq_iff_eq]
      exact ⟨⟨h8, by omega⟩, by omega⟩
    unfold ipE
    rw [e1, e2, if_neg (by simp), if_neg (by simp), if_neg (by omega)]
  have hT : L.take (ihd L) = ihL (dPK L vo) (iopL L) (b16 L 2) (b16 L 10) := by
    have hq := ho
    generalize hol : iopL L = o at hq
    have ht : L.take (ihd L) = L.take 20 ++ o := by
      rw [← hol]
      unfold iopL
      conv => lhs; rw [← List.take_append_drop 20 (L.take (ihd L))]
      rw [List.take_take, Nat.min_eq_left h3]
    rw [ht]
    have b2 := getD_two L 2 (by omega)
    have b4 := getD_two L 4 (by omega)
    have b6 := getD_two L 6 (by omega)
    have b10 := getD_two L 10 (by omega)
    obtain ⟨x0, x1, x2, x3, x4, x5, x6, x7, x8, x9, x10, x11, x12, x13, x14, x15, x16, x17, x18, x19, r, hx⟩ := twenty L h1
    have g0 : (64 : Int) + (20 + (o.length : Int)) / 4 = x0.toNat := by
      have e : L.getD 0 0 = x0 := by rw [hx]; rfl
      rw [e] at h2 hd
      omega
    have gf : (dPK L vo).fg = b16 L 6 := by
      unfold PK.fg dPK
      simp only [decide_eq_true_eq]
      generalize b16 L 6 = f at hf h10
      split <;> split <;> omega
    have e1 : L.getD 1 0 = x1 := by rw [hx]; rfl
    have e8 : L.getD 8 0 = x8 := by rw [hx]; rfl
    have e9 : L.getD 9 0 = x9 := by rw [hx]; rfl
    have e2 : p16 (b16 L 2) = [x2, x3] := p16_of _ _ _ (by rw [b2, hx]; rfl)
    have e4 : p16 (b16 L 4) = [x4, x5] := p16_of _ _ _ (by rw [b4, hx]; rfl)
    have e6 : p16 (b16 L 6) = [x6, x7] := p16_of _ _ _ (by rw [b6, hx]; rfl)
    have e10 : p16 (b16 L 10) = [x10, x11] := p16_of _ _ _ (by rw [b10, hx]; rfl)
    unfold ihL ihA
    rw [gf, by8_of x0 _ g0, by8_of x1 (dPK L vo).ts (by show ((L.getD 1 0).toNat : Int) = _; rw [e1]), by8_of x8 (dPK L vo).tl (by show ((L.getD 8 0).toNat : Int) = _; rw [e8]), by8_of x9 (dPK L vo).pr (by show ((L.getD 9 0).toNat : Int) = _; rw [e9]), e2, show (dPK L vo).id = b16 L 4 from rfl, e4, e6, e10]
    unfold dPK
    rw [hx]
    rfl
  refine ⟨by omega, hc, hE, ?_, ?_, ?_⟩
  · rw [← hT]
    unfold iplL
    have e : L.take (ihd L) = (L.take (b16 L 2).toNat).take (ihd L) := by rw [List.take_take, Nat.min_eq_left (by omega)]
    rw [e, List.take_append_drop]
  · unfold ipL
    rw [if_pos hE]
    have : (20 + ((iopL L).length : Int) + ((iplL L).length : Int)) = b16 L 2 := by omega
    rw [this]
  · refine ihS_of _ _ _ (by omega) _ hs.1 hs.2 ?_
    rw [← hT]
    exact h7
end Go.Proofs.YtbhdojpgjmbogaaDoor
