/- The reference's Encode of a datagram. -/
import Derived.Test.YtbhdojpgjmbogaaUdp2
namespace Go.Proofs.Ytbhdojpgjmbogaa
open Go.RowKit Go.Shelf
set_option maxHeartbeats 1000000 in
theorem renc_ok (s d : IP) (f t : Int) (v : Value) (b : List UInt8) (w : World) (hr : Rd w v b) (hf : portB f = true) (ht : portB t = true) (hl : b.length ≤ 1016) :
    Calls Try.prog 18 #[s.v, d.v, .int .i64 f, .int .i64 t, v] w (CEnd w (laidL f t b (encS s d f t b)) 0) := by
  obtain ⟨A, c, rfl, hc1, hc2⟩ := hr.form
  obtain ⟨hf0, hf1⟩ := portB_t hf
  obtain ⟨ht0, ht1⟩ := portB_t ht
  have g1 : decide (f < 1) = false := by simp; omega
  have g2 : decide (65535 < f) = false := by simp; omega
  have g3 : decide (t < 1) = false := by simp; omega
  have g4 : decide (65535 < t) = false := by simp; omega
  go_enter Try.func18, Try.ntmps18
  go_upto_region 5 with (fail)
  refine box2 (motive := fun X => Code.wp Try.prog _ _ _ X) ?_
  intro X hB hX hbs hbd
  have hrX := hr.mono hB
  have hcs := hbs.ip4
  have hcd := hbd.ip4
  have hL : (laidL f t b 0).length ≤ 140737488355000 := by rw [laid_len]; omega
  clear g1 g2 g3 g4 hr hf ht
  go_region_with (first
    | (go_at_call 55; refine (rlaid f t 0 _ b _ hrX.drew (by omega) (by omega) (by omega) (by omega)).mono ?_; rintro e w1 ⟨v1, rfl, ho1, hb1⟩; have hc1 := (hbs.drw.keep hb1 hbs.lt).ip4; have hd1 := (hbd.drw.keep hb1 hbd.lt).ip4)
    | (go_at_call 54; refine (rusum s d _ _ _ ho1.rd hL).mono ?_; rintro e w2 ⟨rfl, hb2⟩))
  all_goals
    have hrw1 := hrX.drew.mono hb1
    have hrw2 := hrw1.mono hb2
    have hB1 := below_step hB (by omega) (show Below X.heap.size X w1 from (Below.refl X.heap.size X).drew.trans hb1)
    have hB2 := below_step hB1 hB1.size hb2
    obtain ⟨hS0, hS1⟩ := csum_bd 17 s d (laidL f t b 0)
    have hE : encS s d f t b = if csum 17 s d (laidL f t b 0) = 0 then 65535 else csum 17 s d (laidL f t b 0) := rfl
    have HE := Lib.hid hE
    clear hE hb1 hb2 ho1 hc1 hd1 hcs hcd hbs hbd hB hB1 hrX hrw1
    obtain ⟨S, hS⟩ : ∃ S, S = csum 17 s d (laidL f t b 0) := ⟨_, rfl⟩
    rw [← hS] at hS0 hS1 HE ⊢
    clear hS
    by_cases h0 : S = 0
    · subst h0
      rw [if_pos rfl] at HE
      go_wp2_with (go_at_call 55; refine (rlaid f t 65535 _ b _ hrw2 (by omega) (by omega) (by omega) (by omega)).mono ?_; rintro e w3 ⟨v3, rfl, ho3, hb3⟩)
      go_ret2
      exact ⟨_, rfl, by rw [HE.out]; exact ho3.less hB2.size, below_step hB2 hB2.size hb3⟩
    · rw [if_neg h0] at HE
      go_wp2_with (go_at_call 55; refine (rlaid f t S _ b _ hrw2 (by omega) (by omega) (by omega) (by omega)).mono ?_; rintro e w3 ⟨v3, rfl, ho3, hb3⟩)
      go_ret2
      exact ⟨_, rfl, by rw [HE.out]; exact ho3.less hB2.size, below_step hB2 hB2.size hb3⟩
/-- The reference's Encode. -/
theorem renc (s d : IP) (f t : Int) (v : Value) (b : List UInt8) (w : World) (hr : Rd w v b) :
    Calls Try.prog 18 #[s.v, d.v, .int .i64 f, .int .i64 t, v] w (CEnd w (encL s d f t b) (encE f t b)) := by
  unfold encL encE
  by_cases h : portB f = false ∨ portB t = false
  · simp only [if_pos h]
    exact renc_arg s d f t v w h
  · have hf : portB f = true := by simpa using fun h' => h (.inl h')
    have ht : portB t = true := by simpa using fun h' => h (.inr h')
    simp only [if_neg h]
    by_cases hl : 1016 < b.length
    · simp only [if_pos hl]
      exact renc_long s d f t v b w hr hf ht hl
    · simp only [if_neg hl, if_true]
      exact renc_ok s d f t v b w hr hf ht (by omega)
end Go.Proofs.Ytbhdojpgjmbogaa
