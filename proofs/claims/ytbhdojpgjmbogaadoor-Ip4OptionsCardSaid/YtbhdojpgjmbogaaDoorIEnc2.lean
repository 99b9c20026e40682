/- ip4.Encode, where something is refused. -/
import Derived.Test.YtbhdojpgjmbogaaDoorIEnc
namespace Go.Proofs.YtbhdojpgjmbogaaDoor
open Go.RowKit Go.Shelf
/-- What of a packet's head may be sent. -/
def PK.argB (p : PK) : Bool := decide (0 ≤ p.pr ∧ p.pr ≤ 255) && decide (0 ≤ p.ts ∧ p.ts ≤ 255) && decide (0 ≤ p.id ∧ p.id ≤ 65535) && decide (1 ≤ p.tl ∧ p.tl ≤ 255) && decide (0 ≤ p.fo ∧ p.fo ≤ 65528) && (p.fo % 8 == 0)
/-- Which options may be sent. -/
def optB9 (o : List UInt8) : Bool := okO o && decide (o.length ≤ 40) && (o.length % 4 == 0)
theorem PK.ok_of {p : PK} (h : p.argB = true) : p.Ok := by
  simp only [PK.argB, Bool.and_eq_true, beq_iff_eq] at h
  obtain ⟨⟨⟨⟨⟨h1, h2⟩, h3⟩, h4⟩, h5⟩, h6⟩ := h
  exact ⟨h1, h2, h3, h4, h5, h6⟩
theorem ttl_wrap (n : Int) (h : InI n) : decide (1 ≤ n ∧ n ≤ 255) = decide (0 ≤ wrap64 (n - 1) ∧ wrap64 (n - 1) ≤ 254) := by
  rw [decide_eq_decide]
  unfold InI at h
  unfold wrap64
  omega
set_option maxRecDepth 100000 in
set_option maxHeartbeats 20000000 in
theorem ienc_arg (p : PK) (v : Value) (w : World) (b : List UInt8) (hr : Rd w v b) (ht : InI p.tl) (hno : p.argB = false) : Calls Tryd.prog 10 #[p.v, v] w (CEnd w [] 1) := by
  obtain ⟨ps, pd, ppr, ptl, pid, pts, wh, mo, pfo, pop⟩ := p
  dsimp only at ht
  obtain ⟨A, c, rfl, hc1, hc2⟩ := hr.form
  have i1 := fun W => iwithin ppr 255 _ rfl W
  have i2 := fun W => iwithin pts 255 _ rfl W
  have i3 := fun W => iwithin pid 65535 _ rfl W
  have i4 := fun W => iwithin (wrap64 (ptl - 1)) 254 _ (ttl_wrap ptl ht) W
  have i5 := fun W => iwithin pfo 65528 _ rfl W
  obtain ⟨B1, h1⟩ : ∃ B1, B1 = decide (0 ≤ ppr ∧ ppr ≤ 255) := ⟨_, rfl⟩
  obtain ⟨B2, h2⟩ : ∃ B2, B2 = decide (0 ≤ pts ∧ pts ≤ 255) := ⟨_, rfl⟩
  obtain ⟨B3, h3⟩ : ∃ B3, B3 = decide (0 ≤ pid ∧ pid ≤ 65535) := ⟨_, rfl⟩
  obtain ⟨B4, h4⟩ : ∃ B4, B4 = decide (1 ≤ ptl ∧ ptl ≤ 255) := ⟨_, rfl⟩
  obtain ⟨B5, h5⟩ : ∃ B5, B5 = decide (0 ≤ pfo ∧ pfo ≤ 65528) := ⟨_, rfl⟩
  rw [← h1] at i1
  rw [← h2] at i2
  rw [← h3] at i3
  rw [← h4] at i4
  rw [← h5] at i5
  have I := Lib.hid (And.intro i1 (And.intro i2 (And.intro i3 (And.intro i4 i5))))
  have key : B1 = false ∨ (B1 = true ∧ B2 = false) ∨ (B1 = true ∧ B2 = true ∧ B3 = false) ∨ (B1 = true ∧ B2 = true ∧ B3 = true ∧ B4 = false) ∨ (B1 = true ∧ B2 = true ∧ B3 = true ∧ B4 = true ∧ B5 = false) ∨ (B1 = true ∧ B2 = true ∧ B3 = true ∧ B4 = true ∧ B5 = true ∧ 0 ≤ pfo ∧ (pfo % 8 != 0) = true) := by
    simp only [PK.argB, ← h1, ← h2, ← h3, ← h4, ← h5] at hno
    have h5' : B5 = true → 0 ≤ pfo := fun h => by rw [h5] at h; simp at h; exact h.1
    cases B1 <;> cases B2 <;> cases B3 <;> cases B4 <;> cases B5 <;> simp at hno h5' ⊢
    exact ⟨h5', hno⟩
  clear hno i1 i2 i3 i4 i5 h1 h2 h3 h4 h5
  go_enter Tryd.func10, Tryd.ntmps10
  go_upto_region 1 with (fail)
  refine boxP (p := ⟨ps, pd, ppr, ptl, pid, pts, wh, mo, pfo, pop⟩) (motive := fun X => Code.wp Tryd.prog _ _ _ X) ?_
  intro X hB hX hs
  obtain ⟨c8, c9, c10, c11, c12, c13, c14, c15⟩ := hs.pk
  dsimp only at c8 c9 c10 c11 c12 c13 c14 c15
  rcases key with rfl | ⟨rfl, rfl⟩ | ⟨rfl, rfl, rfl⟩ | ⟨rfl, rfl, rfl, rfl⟩ | ⟨rfl, rfl, rfl, rfl, rfl⟩ | ⟨rfl, rfl, rfl, rfl, rfl, k5, k6⟩
  all_goals (try cases B2)
  all_goals (try cases B3)
  all_goals (try cases B4)
  all_goals (try cases B5)
  all_goals
    go_wp2_with (first | ((with_reducible refine (I.out.1 _).mono ?_); rintro e w' ⟨rfl, rfl⟩) | ((with_reducible refine (I.out.2.1 _).mono ?_); rintro e w' ⟨rfl, rfl⟩) | ((with_reducible refine (I.out.2.2.1 _).mono ?_); rintro e w' ⟨rfl, rfl⟩) | ((with_reducible refine (I.out.2.2.2.1 _).mono ?_); rintro e w' ⟨rfl, rfl⟩) | ((with_reducible refine (I.out.2.2.2.2 _).mono ?_); rintro e w' ⟨rfl, rfl⟩))
    go_ret2
    exact ⟨_, rfl, Ow.nil _ _, hB⟩
set_option maxRecDepth 100000 in
set_option maxHeartbeats 20000000 in
theorem ienc_more (p : PK) (o b : List UInt8) (v : Value) (w : World) (E : Int) (hok : p.Ok) (hop : Rd w p.op o) (hol : o.length ≤ 140737488355000) (hr : Rd w v b) (hbl : b.length ≤ 140737488355000)
    (hE : (optB9 o = false ∧ E = 92) ∨ (optB9 o = true ∧ 65535 < 20 + o.length + b.length ∧ E = 2)) : Calls Tryd.prog 10 #[p.v, v] w (CEnd w [] E) := by
  obtain ⟨ps, pd, ppr, ptl, pid, pts, wh, mo, pfo, pop⟩ := p
  dsimp only at hop
  obtain ⟨k1, k2, k3, k4, k5, k6⟩ := hok
  simp only [decide_eq_true_eq] at k1 k2 k3 k4 k5 k6
  obtain ⟨k10, k11⟩ := k1
  obtain ⟨k20, k21⟩ := k2
  obtain ⟨k30, k31⟩ := k3
  obtain ⟨k40, k41⟩ := k4
  obtain ⟨k50, k51⟩ := k5
  have g8 : (pfo % 8 != 0) = false := by simp [k6]
  obtain ⟨Ao, co, eo, hco, hco2⟩ := hop.form
  obtain ⟨A, c, rfl, hc1, hc2⟩ := hr.form
  obtain ⟨n, hn⟩ : ∃ n, n = o.length := ⟨_, rfl⟩
  obtain ⟨m, hm⟩ : ∃ m, m = b.length := ⟨_, rfl⟩
  obtain ⟨B, hB0⟩ : ∃ B, B = okO o := ⟨_, rfl⟩
  have key : (B = false ∧ E = 92) ∨ (B = true ∧ decide (40 < (n : Int)) = true ∧ E = 92) ∨ (B = true ∧ decide (40 < (n : Int)) = false ∧ ((n : Int) % 4 != 0) = true ∧ E = 92) ∨
      (B = true ∧ decide (40 < (n : Int)) = false ∧ ((n : Int) % 4 != 0) = false ∧ decide (65535 < 20 + (n : Int) + (m : Int)) = true ∧ E = 2) := by
    simp only [optB9, ← hB0, ← hn, ← hm] at hE
    cases B
    · simp at hE ⊢
      exact hE
    · have e : (decide (n ≤ 40) && (n % 4 == 0)) = decide (n ≤ 40 ∧ n % 4 = 0) := by rw [Bool.eq_iff_iff]; simp
      rw [Bool.true_and, e] at hE
      simp only [decide_eq_true_eq, decide_eq_false_iff_not] at hE
      simp only [decide_eq_true_eq, decide_eq_false_iff_not, bne_iff_ne, ne_eq, bne_eq_false_iff_eq, Bool.true_eq_false, false_and, false_or, true_and]
      omega
  rw [← hn] at eo hco hol
  rw [← hm] at hr hc1 hbl ⊢
  have HO := Lib.hid eo
  have HB0 := Lib.hid hB0
  clear eo hn hm hE k6 hB0
  go_enter Tryd.func10, Tryd.ntmps10
  go_upto_region 1 with (fail)
  refine boxP (p := ⟨ps, pd, ppr, ptl, pid, pts, wh, mo, pfo, pop⟩) (motive := fun X => Code.wp Tryd.prog _ _ _ X) ?_
  intro X hB hX hs
  have hopX := hop.mono hB
  obtain ⟨c8, c9, c10, c11, c12, c13, c14, c15⟩ := hs.pk
  dsimp only at c8 c9 c10 c11 c12 c13 c14 c15
  rw [HO.out] at c15 hopX
  go_wp2_with (go_at_call 19; refine (iwithin _ _ true (by simp; omega) _).mono ?_; rintro e w' ⟨rfl, rfl⟩)
  refine (iright _ o _ hopX).mono ?_
  rintro e w1 ⟨rfl, hb1⟩
  rw [← HB0.out]
  have hB1 := below_step hB hB.size hb1
  have c15' := (hs.mono hb1).pk.2.2.2.2.2.2.2
  dsimp only at c15'
  rw [HO.out] at c15'
  clear c8 c9 c10 c11 c12 c13 c14 c15 hopX hb1 hB hX
  rcases key with ⟨rfl, rfl⟩ | ⟨rfl, k7, rfl⟩ | ⟨rfl, k7, k8, rfl⟩ | ⟨rfl, k7, k8, k9, rfl⟩
  all_goals
    go_wp2
    go_ret2
    exact ⟨_, rfl, Ow.nil _ _, hB1⟩
/-- What Encode answers: which error; which bytes. -/
def ipE (p : PK) (o b : List UInt8) : Int := if p.argB = false then 1 else if optB9 o = false then 92 else if 65535 < 20 + o.length + b.length then 2 else 0
def ipL (p : PK) (o b : List UInt8) : List UInt8 := if ipE p o b = 0 then ihL p o (20 + o.length + b.length) (ihS p o (20 + o.length + b.length)) ++ b else []
theorem ipE_ok {p : PK} {o b : List UInt8} (h : ipE p o b = 0) : p.Ok ∧ okO o = true ∧ o.length ≤ 40 ∧ o.length % 4 = 0 ∧ 20 + o.length + b.length ≤ 65535 := by
  unfold ipE at h
  split at h
  · omega
  · rename_i h1
    split at h
    · omega
    · rename_i h2
      split at h
      · omega
      · simp only [Bool.not_eq_false, optB9, Bool.and_eq_true, decide_eq_true_eq, beq_iff_eq] at h2
        exact ⟨PK.ok_of (by simpa using h1), h2.1.1, h2.1.2, h2.2, by omega⟩
/-- ip4.Encode. -/
theorem ienc (p : PK) (o b : List UInt8) (v : Value) (w : World) (hop : Rd w p.op o) (hol : o.length ≤ 140737488355000) (hr : Rd w v b) (hbl : b.length ≤ 140737488355000) (ht : InI p.tl) :
    Calls Tryd.prog 10 #[p.v, v] w (CEnd w (ipL p o b) (ipE p o b)) := by
  by_cases h0 : ipE p o b = 0
  · obtain ⟨h1, h2, h3, h4, h5⟩ := ipE_ok h0
    unfold ipL
    rw [if_pos h0, h0]
    exact ienc_ok p o b v w h1 hop h2 h3 h4 hr h5
  · unfold ipL
    rw [if_neg h0]
    unfold ipE at h0 ⊢
    by_cases h1 : p.argB = false
    · rw [if_pos h1]
      exact ienc_arg p v w b hr ht h1
    · rw [if_neg h1] at h0 ⊢
      have hok := PK.ok_of (by simpa using h1)
      by_cases h2 : optB9 o = false
      · rw [if_pos h2]
        exact ienc_more p o b v w 92 hok hop hol hr hbl (.inl ⟨h2, rfl⟩)
      · rw [if_neg h2] at h0 ⊢
        by_cases h3 : 65535 < 20 + o.length + b.length
        · rw [if_pos h3]
          exact ienc_more p o b v w 2 hok hop hol hr hbl (.inr ⟨by simpa using h2, h3, rfl⟩)
        · rw [if_neg h3] at h0
          exact absurd rfl h0
end Go.Proofs.YtbhdojpgjmbogaaDoor
