/- udp.Encode and the reference's: a datagram's bytes between two addresses. -/
import Derived.Test.YtbhdojpgjmbogaaUdp1
namespace Go.Proofs.Ytbhdojpgjmbogaa
open Go.RowKit Go.Shelf
theorem splice_sum (f t n : Int) (b : List UInt8) : splice (laidL f t b 0) 6 (p16 n) = laidL f t b n := by
  simp [splice, laidL, p16]
/-- What a coder leaves: the bytes, its own, and an error. -/
def CEnd (w : World) (l : List UInt8) (n : Int) (e : Ending) (w' : World) : Prop := ∃ v, e = .returned (.tuple #[v, .int .i64 n]) ∧ Ow w' w.heap.size v l ∧ Below w.heap.size w w'
set_option maxHeartbeats 1000000 in
theorem uenc_ok (s d : IP) (f t : Int) (v : Value) (b : List UInt8) (w : World) (hr : Rd w v b) (hf : portB f = true) (ht : portB t = true) (hl : b.length ≤ 1016) :
    Calls Try.prog 17 #[s.v, d.v, .int .i64 f, .int .i64 t, v] w (CEnd w (laidL f t b (encS s d f t b)) 0) := by
  obtain ⟨A, c, rfl, hc1, hc2⟩ := hr.form
  obtain ⟨hf0, hf1⟩ := portB_t hf
  obtain ⟨ht0, ht1⟩ := portB_t ht
  have g4 : decide (1016 < (b.length : Int)) = false := by simp; omega
  go_enter Try.func17, Try.ntmps17
  go_upto_region 5 with (go_at_call 51; refine (uport _ _).mono ?_; rintro e w' ⟨rfl, rfl⟩)
  refine box2 (motive := fun X => Code.wp Try.prog _ _ _ X) ?_
  intro X hB hX hbs hbd
  have hrX := hr.mono hB
  clear g4 hr hf ht
  go_wp2_with fail
  refine (put16 _ [] f _ (Rd.nil _) (by simp)).mono ?_
  rintro e w1 ⟨v1, rfl, ho1, hb1⟩
  go_wp2_with fail
  refine (put16 _ _ t _ ho1.rd (by simp [p16_len])).mono ?_
  rintro e w2 ⟨v2, rfl, ho2, hb2⟩
  have hB2 := below_step hb1 hb1.size hb2
  go_wp2_with fail
  refine (put16 _ _ _ _ ho2.rd (by simp [p16_len])).mono ?_
  rintro e w3 ⟨v3, rfl, ho3, hb3⟩
  have hB3 := below_step hB2 hB2.size hb3
  go_wp2_with fail
  refine (put16 _ _ 0 _ ho3.rd (by simp [p16_len])).mono ?_
  rintro e w4 ⟨v4, rfl, ho4, hb4⟩
  have hB4 := below_step hB3 hB3.size hb4
  have hr4 := hrX.mono hB4
  have ho5 := ho4.less hB3.size
  clear hb1 hb2 hb3 hb4 hB2 hB3 ho1 ho2 ho3 ho4
  go_upto_region 7 with ((with_reducible refine at_slot 38 ?_); refine wpList_app rfl (.tmp 36) (.tmp 37) rfl X.heap.size ho5 hr4 rfl rfl (by simp [p16_len]; omega) hB4.size ?_; intro v5 w5 ho6 hb5 hg5; clear hg5)
  have ho7 : Ow w5 X.heap.size v5 (laidL f t b 0) := by simpa [laidL] using ho6
  obtain ⟨g, cap, rfl, hg1, hg2, hg3, hg4⟩ := ow_form ho7 (by rw [laid_len]; omega)
  rw [laid_len] at ho7 hg3 ⊢
  have hB5 := hB4.trans hb5
  have hbs5 := hbs.keep hB5 hbs.lt
  have hbd5 := hbd.keep hB5 hbd.lt
  clear ho6 ho5 hb5 hB4 hr4 hrX hbs hbd
  go_wp2_with (first | ((with_reducible refine at_slot 39 ?_); refine wpList_loadB rfl 23 (.tmp 5) rfl hbs5 rfl Try.underlying23 rfl IP.info ?_) | ((with_reducible refine at_slot 40 ?_); refine wpList_loadB rfl 23 (.tmp 6) rfl hbd5 rfl Try.underlying23 rfl IP.info ?_))
  refine (usum s d _ _ _ ho7.rd (by rw [laid_len]; omega)).mono ?_
  rintro e w6 ⟨rfl, hb6⟩
  have ho8 := ho7.mono hb6
  have hB6 := below_step hB5 hB5.size hb6
  have hg6 := hb6.size
  obtain ⟨hS0, hS1⟩ := csum_bd 17 s d (laidL f t b 0)
  have hE : encS s d f t b = if csum 17 s d (laidL f t b 0) = 0 then 65535 else csum 17 s d (laidL f t b 0) := rfl
  have HE := Lib.hid hE
  clear hE hbs5 hbd5 ho7 hB5 hb6
  obtain ⟨S, hS⟩ : ∃ S, S = csum 17 s d (laidL f t b 0) := ⟨_, rfl⟩
  rw [← hS] at hS0 hS1 HE ⊢
  clear hS
  have hcap : ¬ cap = 6 := by omega
  have h6 : (6 : Int) ≤ 8 + (b.length : Int) := by omega
  by_cases h0 : S = 0
  · subst h0
    rw [if_pos rfl] at HE
    go_upto_region 10 with (fail)
    go_region_law (first | (refine step_call rfl rfl (enters_of Try.func52 (by kernel_rfl) rfl) (put16 _ [] 65535 _ (Rd.nil _) (by simp)) rfl ?_; rintro e w7 ⟨v7, rfl, ho9, hb7⟩; refine ⟨_, rfl, ?_⟩) | (refine step_copyB rfl (.tmp 46) (.tmp 48) rfl (ho8.drew.mono hb7) ho9.rd rfl rfl (by simp [p16_len, laid_len]) (by simp [p16_len]; omega) ?_; intro w8 ho10 hb8))
    have hz : w.heap.size ≤ X.heap.size := by omega
    have hB7 := below_step (below_step hB hB.size hB6) (by omega) (show Below w6.heap.size w6 w7 from (Below.refl w6.heap.size w6).drew.trans hb7)
    have hB8 := hB7.trans (hb8.mono (by omega))
    have ho11 : Ow w8 X.heap.size (.slice (some ⟨g, 0, none⟩) (8 + b.length) cap) (laidL f t b 65535) := by rw [← splice_sum]; exact ho10
    go_wp2
    go_ret2
    exact ⟨_, rfl, by rw [HE.out]; exact ho11.less hz, hB8⟩
  · rw [if_neg h0] at HE
    go_upto_region 10 with (fail)
    go_region_law (first | (refine step_call rfl rfl (enters_of Try.func52 (by kernel_rfl) rfl) (put16 _ [] S _ (Rd.nil _) (by simp)) rfl ?_; rintro e w7 ⟨v7, rfl, ho9, hb7⟩; refine ⟨_, rfl, ?_⟩) | (refine step_copyB rfl (.tmp 46) (.tmp 48) rfl (ho8.drew.mono hb7) ho9.rd rfl rfl (by simp [p16_len, laid_len]) (by simp [p16_len]; omega) ?_; intro w8 ho10 hb8))
    have hz : w.heap.size ≤ X.heap.size := by omega
    have hB7 := below_step (below_step hB hB.size hB6) (by omega) (show Below w6.heap.size w6 w7 from (Below.refl w6.heap.size w6).drew.trans hb7)
    have hB8 := hB7.trans (hb8.mono (by omega))
    have ho11 : Ow w8 X.heap.size (.slice (some ⟨g, 0, none⟩) (8 + b.length) cap) (laidL f t b S) := by rw [← splice_sum]; exact ho10
    go_wp2
    go_ret2
    exact ⟨_, rfl, by rw [HE.out]; exact ho11.less hz, hB8⟩
set_option maxHeartbeats 400000 in
theorem uenc_arg (s d : IP) (f t : Int) (v : Value) (w : World) (h : portB f = false ∨ portB t = false) :
    Calls Try.prog 17 #[s.v, d.v, .int .i64 f, .int .i64 t, v] w (CEnd w [] 1) := by
  by_cases hf : portB f = true
  · have ht : portB t = false := by rcases h with h | h <;> simp_all
    clear h
    go_enter Try.func17, Try.ntmps17
    go_wp2_with (go_at_call 51; refine (uport _ _).mono ?_; rintro e w' ⟨rfl, rfl⟩)
    go_ret2
    exact ⟨_, rfl, Ow.nil _ _, boxes_below _ _ _⟩
  · have hf : portB f = false := by simpa using hf
    clear h
    go_enter Try.func17, Try.ntmps17
    go_wp2_with (go_at_call 51; refine (uport _ _).mono ?_; rintro e w' ⟨rfl, rfl⟩)
    go_ret2
    exact ⟨_, rfl, Ow.nil _ _, boxes_below _ _ _⟩
set_option maxHeartbeats 400000 in
theorem uenc_long (s d : IP) (f t : Int) (v : Value) (b : List UInt8) (w : World) (hr : Rd w v b) (hf : portB f = true) (ht : portB t = true) (hl : 1016 < b.length) :
    Calls Try.prog 17 #[s.v, d.v, .int .i64 f, .int .i64 t, v] w (CEnd w [] 2) := by
  obtain ⟨A, c, rfl, hc1, hc2⟩ := hr.form
  go_enter Try.func17, Try.ntmps17
  go_wp2_with (go_at_call 51; refine (uport _ _).mono ?_; rintro e w' ⟨rfl, rfl⟩)
  go_ret2
  exact ⟨_, rfl, Ow.nil _ _, boxes_below _ _ _⟩
/-- udp.Encode. -/
theorem uenc (s d : IP) (f t : Int) (v : Value) (b : List UInt8) (w : World) (hr : Rd w v b) :
    Calls Try.prog 17 #[s.v, d.v, .int .i64 f, .int .i64 t, v] w (CEnd w (encL s d f t b) (encE f t b)) := by
  unfold encL encE
  by_cases h : portB f = false ∨ portB t = false
  · simp only [if_pos h]
    exact uenc_arg s d f t v w h
  · have hf : portB f = true := by simpa using fun h' => h (.inl h')
    have ht : portB t = true := by simpa using fun h' => h (.inr h')
    simp only [if_neg h]
    by_cases hl : 1016 < b.length
    · simp only [if_pos hl]
      exact uenc_long s d f t v b w hr hf ht hl
    · simp only [if_neg hl, if_true]
      exact uenc_ok s d f t v b w hr hf ht (by omega)

set_option maxHeartbeats 400000 in
theorem renc_arg (s d : IP) (f t : Int) (v : Value) (w : World) (h : portB f = false ∨ portB t = false) :
    Calls Try.prog 18 #[s.v, d.v, .int .i64 f, .int .i64 t, v] w (CEnd w [] 1) := by
  by_cases h1 : f < 1
  · have g1 : decide (f < 1) = true := by simpa using h1
    clear h
    go_enter Try.func18, Try.ntmps18
    go_wp2
    go_ret2
    exact ⟨_, rfl, Ow.nil _ _, boxes_below _ _ _⟩
  · have g1 : decide (f < 1) = false := by simpa using h1
    by_cases h2 : 65535 < f
    · have g2 : decide (65535 < f) = true := by simpa using h2
      clear h h1
      go_enter Try.func18, Try.ntmps18
      go_wp2
      go_ret2
      exact ⟨_, rfl, Ow.nil _ _, boxes_below _ _ _⟩
    · have g2 : decide (65535 < f) = false := by simpa using h2
      have hf : portB f = true := by simp [portB]; omega
      have ht : portB t = false := by rcases h with h | h <;> simp_all
      have h3 := portB_f ht
      clear h hf ht h1 h2
      by_cases h3' : t < 1
      · have g3 : decide (t < 1) = true := by simpa using h3'
        clear h3
        go_enter Try.func18, Try.ntmps18
        go_wp2
        go_ret2
        exact ⟨_, rfl, Ow.nil _ _, boxes_below _ _ _⟩
      · have g3 : decide (t < 1) = false := by simpa using h3'
        have g4 : decide (65535 < t) = true := by simp; omega
        clear h3
        go_enter Try.func18, Try.ntmps18
        go_wp2
        go_ret2
        exact ⟨_, rfl, Ow.nil _ _, boxes_below _ _ _⟩
set_option maxHeartbeats 400000 in
theorem renc_long (s d : IP) (f t : Int) (v : Value) (b : List UInt8) (w : World) (hr : Rd w v b) (hf : portB f = true) (ht : portB t = true) (hl : 1016 < b.length) :
    Calls Try.prog 18 #[s.v, d.v, .int .i64 f, .int .i64 t, v] w (CEnd w [] 2) := by
  obtain ⟨A, c, rfl, hc1, hc2⟩ := hr.form
  obtain ⟨hf0, hf1⟩ := portB_t hf
  obtain ⟨ht0, ht1⟩ := portB_t ht
  have g1 : decide (f < 1) = false := by simp; omega
  have g2 : decide (65535 < f) = false := by simp; omega
  have g3 : decide (t < 1) = false := by simp; omega
  have g4 : decide (65535 < t) = false := by simp; omega
  clear hf ht
  go_enter Try.func18, Try.ntmps18
  go_wp2
  go_ret2
  exact ⟨_, rfl, Ow.nil _ _, boxes_below _ _ _⟩
end Go.Proofs.Ytbhdojpgjmbogaa
