/- Plain laws of TcpBack: what was encoded is decoded as it was; one bit that is turned is seen. -/
import Derived.Test.YtbhdojpgjmbogaaTOpt
import Derived.Test.YtbhdojpgjmbogaaTDec
import Derived.Test.YtbhdojpgjmbogaaUBack
namespace Go.Proofs.Ytbhdojpgjmbogaa
open Go.RowKit
theorem be_p32 (n : Int) (h0 : 0 ≤ n) (h1 : n ≤ 4294967295) : be (p32 n) = n := by
  unfold p32 be
  simp only [List.foldl_cons, List.foldl_nil, by8_toNat]
  omega
/-! The options are read as they were written. -/
theorem opts_M (ms : Int) (rest : List UInt8) : optsOf (oM ms ++ rest) = (if ms = 0 then [] else [[2, 4] ++ p16 ms]) ++ optsOf rest := by
  unfold oM
  by_cases h : ms = 0
  · rw [if_pos h, if_pos h]; rfl
  · rw [if_neg h, if_neg h]
    show optsOf (2 :: 4 :: (p16 ms ++ rest)) = _
    rw [optsOf_more (by decide) (by decide) (by show 4 ≤ (p16 ms ++ rest).length + 2; simp [p16])]
    rfl
theorem opts_S (sk : Bool) (rest : List UInt8) : optsOf (oS sk ++ rest) = (if sk then [[4, 2]] else []) ++ optsOf rest := by
  cases sk with
  | false => rfl
  | true =>
    show optsOf (4 :: 2 :: rest) = _
    rw [optsOf_more (by decide) (by decide) (by show 2 ≤ rest.length + 2; omega)]
    rfl
theorem opts_pad (k : Nat) : optsOf (List.replicate k 1) = List.replicate k [1] := by
  induction k with
  | zero => exact optsOf_nil
  | succ k ih =>
    rw [List.replicate_succ, List.replicate_succ, optsOf_one (by decide), ih]
theorem opts_G (E : List (Int × Int)) (h3 : E.length ≤ 3) (rest : List UInt8) : optsOf (oG E ++ rest) = (if E = [] then [] else [[5, by8 (2 + 8 * E.length)] ++ spanL E]) ++ optsOf rest := by
  by_cases hE : E = []
  · subst hE; rfl
  · unfold oG
    rw [if_neg hE, if_neg hE]
    have hx : (by8 (2 + 8 * E.length)).toNat = 2 + 8 * E.length := by
      have := by8_toNat (2 + 8 * E.length)
      omega
    show optsOf (5 :: by8 (2 + 8 * E.length) :: (spanL E ++ rest)) = _
    rw [optsOf_more (by decide) (by rw [hx]; omega) (by rw [hx]; simp [spanL_len]; omega), hx]
    have e : (5 :: by8 (2 + 8 * (E.length : Int)) :: (spanL E ++ rest)) = ([5, by8 (2 + 8 * E.length)] ++ spanL E) ++ rest := rfl
    have hl : ([5, by8 (2 + 8 * (E.length : Int))] ++ spanL E).length = 2 + 8 * E.length := by simp [spanL_len]; omega
    rw [e, ← hl, List.take_left, List.drop_left]
    rfl
theorem got_E (E : List (Int × Int)) (h3 : E.length ≤ 3) (hU : SpansU E) (x : UInt8) : gotN ([5, x] ++ spanL E) E.length = E := by
  match E, h3, hU with
  | [], _, _ => rfl
  | [(a, b)], _, hU =>
    obtain ⟨⟨a0, a1⟩, ⟨b0, b1⟩⟩ := hU (a, b) (by simp)
    show [(be (p32 a), be (p32 b))] = _
    rw [be_p32 a a0 a1, be_p32 b b0 b1]
  | [(a, b), (c, d)], _, hU =>
    obtain ⟨⟨a0, a1⟩, ⟨b0, b1⟩⟩ := hU (a, b) (by simp)
    obtain ⟨⟨c0, c1⟩, ⟨d0, d1⟩⟩ := hU (c, d) (by simp)
    show [(be (p32 a), be (p32 b)), (be (p32 c), be (p32 d))] = _
    rw [be_p32 a a0 a1, be_p32 b b0 b1, be_p32 c c0 c1, be_p32 d d0 d1]
  | [(a, b), (c, d), (e, f)], _, hU =>
    obtain ⟨⟨a0, a1⟩, ⟨b0, b1⟩⟩ := hU (a, b) (by simp)
    obtain ⟨⟨c0, c1⟩, ⟨d0, d1⟩⟩ := hU (c, d) (by simp)
    obtain ⟨⟨e0, e1⟩, ⟨f0, f1⟩⟩ := hU (e, f) (by simp)
    show [(be (p32 a), be (p32 b)), (be (p32 c), be (p32 d)), (be (p32 e), be (p32 f))] = _
    rw [be_p32 a a0 a1, be_p32 b b0 b1, be_p32 c c0 c1, be_p32 d d0 d1, be_p32 e e0 e1, be_p32 f f0 f1]
theorem rd_pad (syn : Bool) (k : Nat) (st : OSt) : rdAll syn st (List.replicate k [1]) = (true, st) := by
  induction k with
  | zero => rfl
  | succ k ih =>
    rw [List.replicate_succ, rdAll, if_neg (by simp)]
    have e : optStep syn st [1] = st := by simp [optStep]
    rw [e, ih]
/-- What is read of a segment's options. -/
theorem opt_read (ms : Int) (hms : 0 ≤ ms ∧ ms ≤ 65535) (sk : Bool) (E : List (Int × Int)) (h3 : E.length ≤ 3) (hU : SpansU E) (syn : Bool) :
    rdAll syn ⟨0, false, []⟩ (optsOf (optB ms sk E)) = (true, ⟨if syn then ms else 0, if syn then sk else false, E⟩) := by
  unfold optB padL
  rw [List.append_assoc, List.append_assoc, opts_M, opts_S, opts_G E h3, opts_pad]
  generalize (4 - (oM ms ++ oS sk ++ oG E).length % 4) % 4 = k
  have key : ∀ (st : OSt) (rest : List (List UInt8)), rdAll syn st ((if E = [] then [] else [[5, by8 (2 + 8 * E.length)] ++ spanL E]) ++ List.replicate k [1]) = (true, ⟨st.ms, st.sk, if E = [] then st.got else E⟩) := by
    intro st _
    by_cases hE : E = []
    · rw [if_pos hE, if_pos hE, List.nil_append, rd_pad]
    · rw [if_neg hE, if_neg hE]
      have hl : ([5, by8 (2 + 8 * (E.length : Int))] ++ spanL E).length = 2 + 8 * E.length := by simp [spanL_len]; omega
      have hE0 : 0 < E.length := List.length_pos_iff.2 hE
      have hg : isGot ([5, by8 (2 + 8 * (E.length : Int))] ++ spanL E) := ⟨rfl, by rw [hl]; omega, by rw [hl]; omega, by rw [hl]; omega⟩
      have hs : optStep syn st ([5, by8 (2 + 8 * (E.length : Int))] ++ spanL E) = { st with got := E } := by
        unfold optStep
        rw [if_neg (fun h => by have := h.1; simp at this), if_neg (fun h => by have := h.1; simp at this), if_pos hg, hl]
        rw [show (2 + 8 * E.length - 2) / 8 = E.length by omega, got_E E h3 hU]
      rw [List.cons_append, rdAll, if_neg (by simp), hs, List.nil_append, rd_pad]
  have hbe := be_p16 ms hms.1 hms.2
  have hM : ∀ st : OSt, optStep syn st ([2, 4] ++ p16 ms) = if syn then { st with ms := ms } else st := by
    intro st
    cases syn with
    | true => simp [optStep, p16]; exact hbe
    | false => simp [optStep]
  have hS : ∀ st : OSt, optStep syn st [4, 2] = if syn then { st with sk := true } else st := by
    intro st
    cases syn <;> simp [optStep]
  generalize ((if E = [] then [] else [[5, by8 (2 + 8 * E.length)] ++ spanL E]) ++ List.replicate k [1]) = R at key ⊢
  by_cases h0 : ms = 0
  · subst h0
    rw [if_pos rfl, List.nil_append]
    cases sk with
    | false =>
      simp only [Bool.false_eq_true, if_false, List.nil_append]
      rw [key _ []]
      cases syn <;> (by_cases hE : E = [] <;> simp [hE])
    | true =>
      simp only [if_true, List.cons_append, List.nil_append]
      rw [rdAll, if_neg (by simp), hS, key _ []]
      cases syn <;> (by_cases hE : E = [] <;> simp [hE])
  · rw [if_neg h0, List.cons_append, List.nil_append, rdAll, if_neg (by simp), hM]
    cases sk with
    | false =>
      simp only [Bool.false_eq_true, if_false, List.nil_append]
      rw [key _ []]
      cases syn <;> (by_cases hE : E = [] <;> simp [hE])
    | true =>
      simp only [if_true, List.cons_append, List.nil_append]
      rw [rdAll, if_neg (by simp), hS, key _ []]
      cases syn <;> (by_cases hE : E = [] <;> simp [hE])
section
variable (s d : IP) (g : SG) (o b : List UInt8)
theorem get_idx (l : List UInt8) {i j : Nat} (h : i = j) (hi : i < l.length) (hj : j < l.length) : l[i] = l[j] := by subst h; rfl
theorem psl6_pos (n : Int) : 6 ≤ tot16 (psl s d 6 n) := by
  have e : psl s d 6 n = s.l ++ d.l ++ ([0, by8 6] ++ p16 n) := by simp [psl]
  rw [e, tot16_append _ _ (by simp [IP.l])]
  have h1 := tot16_nonneg (s.l ++ d.l)
  have h2 : tot16 ([0, by8 6] ++ p16 n) = 6 + tot16 (p16 n) := by
    rw [tot16_append _ _ (by simp)]
    rfl
  have h3 := tot16_nonneg (p16 n)
  omega
theorem segL_len' (S : Int) : (segL g o b S).length = 20 + o.length + b.length := by simp [segL, headL_len, p16_len]; omega
theorem seg_tot (S : Int) (h0 : 0 ≤ S) (h1 : S ≤ 65535) : tot16 (segL g o b S) = tot16 (segL g o b 0) + S := by
  have e : ∀ v, segL g o b v = headL g o.length ++ (p16 v ++ ([0, 0] ++ o ++ b)) := fun v => by simp [segL]
  have k : ∀ v, 0 ≤ v → v ≤ 65535 → tot16 (segL g o b v) = tot16 (headL g o.length) + (v + tot16 ([0, 0] ++ o ++ b)) := fun v k0 k1 => by
    rw [e, tot16_append _ _ (by rw [headL_len]), tot16_append (p16 v) _ (by simp [p16_len]), p16_tot v k0 k1]
  rw [k S h0 h1, k 0 (by omega) (by omega)]
  omega
/-- The sum that Encode lays down. -/
def encS6 : Int := csum 6 s d (segL g o b 0)
theorem seg_sum : csum 6 s d (segL g o b (encS6 s d g o b)) = 0 := by
  obtain ⟨h0, h1⟩ := csum_bd 6 s d (segL g o b 0)
  have hS : encS6 s d g o b = csum 6 s d (segL g o b 0) := rfl
  rw [csum_zero, tot16_append _ _ (by rw [psl_len]), hS, seg_tot g o b _ h0 h1, segL_len']
  have hp := psl6_pos s d ((20 + o.length + b.length : Nat) : Int)
  have hn := tot16_nonneg (segL g o b 0)
  obtain ⟨m1, m2⟩ := sumw_mod (psl s d 6 (segL g o b 0).length ++ segL g o b 0) 0 (Int.le_refl _)
  rw [Int.zero_add, tot16_append _ _ (by rw [psl_len]), segL_len'] at m1 m2
  unfold csum at h0 h1 ⊢
  rw [segL_len'] at h0 h1 ⊢
  omega
theorem sum_turn (L : List UInt8) (hz : csum 6 s d L = 0) (i : Nat) (x : UInt8) (k : Nat) (hi : i < L.length) (hk : k < 8) (hx : x.toNat = L[i].toNat ^^^ 2 ^ k) : csum 6 s d (L.set i x) ≠ 0 := fun h => by
  have h1 := (csum_zero 6 s d _).1 hz
  have h2 := ((csum_zero 6 s d _).1 h).1
  rw [List.length_set] at h2
  have e : psl s d 6 L.length ++ L.set i x = (psl s d 6 L.length ++ L).set (12 + i) x := by
    rw [List.set_append_right _ _ (by rw [psl_len]; omega), psl_len, show 12 + i - 12 = i by omega]
  rw [e] at h2
  refine tot16_turn _ (12 + i) x (by rw [List.length_append, psl_len]; omega) hk ?_ h1.1 h2
  rw [hx]
  congr 1
  rw [List.getElem_append_right (by rw [psl_len]; omega)]
  exact congrArg UInt8.toNat (get_idx L (by rw [psl_len]; omega) _ _)
theorem sum_other (L : List UInt8) (hz : csum 6 s d L = 0) (i : Nat) (x : UInt8) (k : Nat) (hi : i < 4) (hk : k < 8) (hx : x.toNat = (d.l[i]'(by simpa [IP.l] using hi)).toNat ^^^ 2 ^ k) : csum 6 s (d.put i x) L ≠ 0 := fun h => by
  have h1 := (csum_zero 6 s d _).1 hz
  have h2 := ((csum_zero 6 s _ _).1 h).1
  have hil : i < d.l.length := by simpa [IP.l] using hi
  have hsl : s.l.length = 4 := rfl
  have hp : psl s (d.put i x) 6 L.length = (psl s d 6 L.length).set (4 + i) x := by
    unfold psl
    rw [IP.put_l d i x hi]
    simp only [List.append_assoc]
    rw [List.set_append_right _ _ (by rw [hsl]; omega), hsl, List.set_append_left _ _ (by omega)]
    rw [show 4 + i - 4 = i by omega]
  have h412 : 4 + i < (psl s d 6 (L.length : Int)).length := by rw [psl_len]; omega
  rw [hp, ← List.set_append_left _ _ h412] at h2
  refine tot16_turn _ (4 + i) x (by rw [List.length_append]; omega) hk ?_ h1.1 h2
  rw [hx]
  congr 1
  rw [List.getElem_append_left h412]
  unfold psl
  simp only [List.append_assoc]
  rw [List.getElem_append_right (by rw [hsl]; omega), List.getElem_append_left (by rw [hsl]; omega)]
  exact congrArg UInt8.toNat (get_idx d.l (by rw [hsl]; omega) _ _)
end
/-- What the head of a segment's bytes says. -/
theorem seg_heads (g : SG) (hok : g.Ok) (o b : List UInt8) (S : Int) (ho : o.length ≤ 40) (h4 : o.length % 4 = 0) :
    be (((segL g o b S).drop 0).take 2) = g.fr ∧ be (((segL g o b S).drop 2).take 2) = g.too ∧ be (((segL g o b S).drop 4).take 4) = g.sq ∧ be (((segL g o b S).drop 8).take 4) = g.ak ∧ be (((segL g o b S).drop 14).take 2) = g.wn ∧
      (((segL g o b S).getD 13 0).toNat : Int) = g.fl ∧ (((segL g o b S).getD 12 0).toNat) / 16 * 4 = 20 + o.length ∧ ((segL g o b S).take (20 + o.length)).drop 20 = o ∧ (segL g o b S).drop (20 + o.length) = b := by
  obtain ⟨hfr, htoo, hfl, hwn, hms, ⟨hq0, hq1⟩, ⟨ha0, ha1⟩⟩ := hok
  simp only [decide_eq_true_eq] at hfr htoo hfl hwn hms
  refine ⟨(show be (p16 g.fr) = _ from be_p16 _ (by omega) (by omega)), (show be (p16 g.too) = _ from be_p16 _ (by omega) (by omega)), (show be (p32 g.sq) = _ from be_p32 _ hq0 hq1), (show be (p32 g.ak) = _ from be_p32 _ ha0 ha1), (show be (p16 g.wn) = _ from be_p16 _ (by omega) (by omega)), ?_, ?_, ?_, ?_⟩
  · show ((by8 g.fl).toNat : Int) = g.fl
    rw [by8_toNat]
    omega
  · show (by8 ((20 + o.length) / 4 * 16)).toNat / 16 * 4 = 20 + o.length
    have := by8_toNat ((20 + (o.length : Int)) / 4 * 16)
    omega
  · have e : segL g o b S = (headL g o.length ++ p16 S ++ [0, 0]) ++ o ++ b := rfl
    have hl : ((headL g o.length ++ p16 S ++ [0, 0]) ++ o).length = 20 + o.length := by simp [headL_len, p16_len]; omega
    have hl2 : (headL g o.length ++ p16 S ++ [0, 0]).length = 20 := rfl
    rw [e, ← hl, List.take_left, ← hl2, List.drop_left]
  · have e : segL g o b S = (headL g o.length ++ p16 S ++ [0, 0]) ++ o ++ b := rfl
    have hl : ((headL g o.length ++ p16 S ++ [0, 0]) ++ o).length = 20 + o.length := by simp [headL_len, p16_len]; omega
    rw [e, ← hl, List.drop_left]
end Go.Proofs.Ytbhdojpgjmbogaa
