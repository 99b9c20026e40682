/- udp.Ports.Free: all of somebody's ports are given back. -/
import Derived.Test.YtbhdojpgjmbogaaBind
namespace Go.Proofs.Ytbhdojpgjmbogaa
open Go.RowKit Go.Maps
/-- What is left of a map of ports when somebody's have been given back, of those keys that have come. -/
def freed (f : Int → Option Int) (who : Int) (left : Lit → Bool) : Int → Option Int := fun k => if left (.int .i64 k) = false ∧ f k = some who then none else f k
/-- All of somebody's given back. -/
def freeP (f : Int → Option Int) (who : Int) : Int → Option Int := fun k => if f k = some who then none else f k
theorem same_int (a b : Int) : (Lit.int .i64 a).sameKey (.int .i64 b) = decide (a = b) := by
  simp [Lit.sameKey]
def Rng (wr : World) (b r n : Nat) (f : Int → Option Int) (who : Int) (cnt : Nat) : Prop :=
  ∃ (left : Lit → Bool) (D : DataW Unit), wr.ranges Try.prog iT (plainElem Try.prog iT) b r n D left cnt ∧ Says D (freed f who left) ∧ ∀ k, InI k → left (.int .i64 k) = true → (f k).isSome = true
theorem wf_ini {k : Int} (h : (Lit.int .i64 k).wf = true) : InI k := by
  simp [Lit.wf, IntKind.min, IntKind.max, IntKind.signed, IntKind.bits] at h
  unfold InI
  omega
theorem says_step {D : DataW Unit} {f : Int → Option Int} {who x c : Int} {left : Lit → Bool} (h : Says D (freed f who left)) (hlx : left (.int .i64 x) = true) (hx : InI x) (hat : ∀ zd, D.atKey (.int .i64 x) zd = .lit (.int .i64 c)) (hf : (f x).isSome = true) : f x = some c := by
  obtain ⟨v, hv⟩ := Option.isSome_iff_exists.1 hf
  have hg : freed f who left x = some v := by unfold freed; rw [if_neg (by simp [hlx]), hv]
  have := (h x hx).2 v hg
  rw [hat] at this
  injection this with this
  injection this with _ this
  rw [hv, this]
theorem says_keep {D : DataW Unit} {f : Int → Option Int} {who x c : Int} {left : Lit → Bool} (h : Says D (freed f who left)) (hfx : f x = some c) (hne : c ≠ who) : Says D (freed f who fun z => left z && !z.sameKey (.int .i64 x)) := by
  have e : (freed f who fun z => left z && !z.sameKey (.int .i64 x)) = freed f who left := by
    funext k
    unfold freed
    simp only [same_int]
    by_cases hk : k = x
    · subst hk
      simp [hfx, hne]
    · simp [hk]
  rw [e]
  exact h
theorem says_gone {D : DataW Unit} {f : Int → Option Int} {who x : Int} {left : Lit → Bool} (h : Says D (freed f who left)) (hfx : f x = some who) (hl : left (.int .i64 x) = true) : Says (D.del (.int .i64 x)) (freed f who fun z => left z && !z.sameKey (.int .i64 x)) := by
  intro k hk
  by_cases e : k = x
  · subst e
    have h0 : freed f who (fun z => left z && !z.sameKey (.int .i64 k)) k = none := by simp [freed, same_int, hfx]
    rw [h0]
    exact ⟨has_del_same, fun v hv => by cases hv⟩
  · have hne : (Lit.int .i64 k) ≠ .int .i64 x := by simpa using e
    have h0 : freed f who (fun z => left z && !z.sameKey (.int .i64 x)) k = freed f who left k := by simp [freed, same_int, e]
    rw [h0, has_del_other hne]
    refine ⟨(h k hk).1, fun v hv => ?_⟩
    rw [atKey_del_other hne]
    exact (h k hk).2 v hv
theorem says_start {D : DataW Unit} {f : Int → Option Int} {who : Int} (h : Says D f) : Says D (freed f who (Maps.has D)) := by
  intro k hk
  have h1 := h k hk
  have e : freed f who (Maps.has D) k = f k := by
    unfold freed
    rw [if_neg]
    rintro ⟨a, c⟩
    rw [h1.1, c] at a
    cases a
  rw [e]
  exact h1
theorem Touch.row {S : Nat → Prop} {w wr w1 : World} {row : Option Nat} (h : Touch S w wr) (hg : wr.grownBy w1 row) (hr : ∀ r, row = some r → S r ∨ w.heap.size ≤ r) : Touch S w w1 :=
  ⟨hg.os.trans h.os, hg.tape.trans h.tape, hg.output.trans h.output, Nat.le_trans h.size hg.size, fun k hk hs => (hg.block k (Nat.lt_of_lt_of_le hk h.size) (fun e => by
    rcases hr k e.symm with h1 | h1
    · exact hs h1
    · omega)).trans (h.block k hk hs)⟩
theorem turned_touch {w w' : World} {b : Nat} (h : w.mapTurned w' b) : Touch (fun k => k = b) w w' := by
  obtain ⟨es, c, es', c', hb, rfl⟩ := h
  exact ⟨rfl, rfl, rfl, by simp [ChangeMaps.setBlock], fun k _ hs => ChangeMaps.heap_setBlock_other hb _ hs⟩
theorem turned_blk {w w' : World} {b g : Nat} {t : TypeId} {cs : Array Value} (h : w.mapTurned w' b) (hB : Blk w g t cs) (hne : g ≠ b) : Blk w' g t cs := ((turned_touch h).block g hB.lt hne).trans hB
set_option maxHeartbeats 1600000 in
theorem ufree (w : World) {p b n : Nat} {f : Int → Option Int} {nx : Int} (h : PortsAt w p b n f nx) (who : Int) :
    Calls Try.prog 22 #[.pointer (some ⟨p, 0, none⟩), .int .i64 who] w fun e w' => (∃ v, e = .returned v) ∧ PortsAt w' p b n (freeP f who) nx ∧ Touch (fun k => k = b) w w' := by
  have hne := h.ne
  obtain ⟨hB, ⟨D, hown, hs⟩, hn0, hn1⟩ := h
  have h0 := hB.cell 0
  simp only [List.getElem?_toArray, List.getElem?_cons_zero] at h0
  go_enter Try.func22, Try.ntmps22
  go_wp2_with (at_range; refine wpList_range_own _ rfl _ mT rfl iT iT kInt uMap _ b n _ rfl hown ?_; intro w0 hrg0 hg0 hs0)
  go_frame
  go_loopw [4, 5] (fun _ _ wr => ∃ cnt, Rng wr b w.heap.size n f who cnt ∧ Blk wr p 95 #[.map (some b), .int .i64 nx] ∧ Touch (fun k => k = b) w wr)
    (fun _ _ wr => wr.rangeLeft b w.heap.size)
  case atStart =>
    exact ⟨_, ⟨_, D, hrg0, says_start hs, fun k hk hl => by rw [← (hs k hk).1]; exact hl⟩, (hg0.block p hB.lt (by simp)).trans hB, (Touch.refl _ w).row hg0 (fun r hr => by cases hr)⟩
  case round =>
    obtain ⟨cnt, ⟨left, D, hrg, hsD, hlf⟩, hBr, hT⟩ := hrel
    have hp := hBr.lt
    have hpw := hB.lt
    have m0 := hrg.left_eq
    clear hrg0 hg0 hs0 hown hs h0
    go_wp2_with (at_next; refine wpList_next_ranges_ii _ rfl _ rfl iT iT .i64 .i64 kInt uInt uInt b w.heap.size n _ _ _ rfl hrg ?_ ?_)
    · intro hc0 hl0
      have e : freed f who left = freeP f who := by
        funext k
        simp [freed, freeP, hl0]
      rw [e] at hsD
      have hown := hrg.owns
      clear hrg
      go_wp2
      go_end0
      exact ⟨⟨_, rfl⟩, ⟨hBr, ⟨_, hown, hsD⟩, hn0, hn1⟩, hT⟩
    · intro x c w1 cnt1 hwx hwc hlx hat hrg1 hlt hg1 hs1 hen
      have hix := wf_ini hwx
      have hfx := says_step hsD hlx hix hat (hlf x hix hlx)
      have hB1 : Blk w1 p 95 #[.map (some b), .int .i64 nx] := (hg1.block p hp (by simp; omega)).trans hBr
      have hT1 := hT.row hg1 (fun r hr => .inr (by cases hr; exact Nat.le_refl _))
      have h1 := hB1.cell 0
      simp only [List.getElem?_toArray, List.getElem?_cons_zero] at h1
      clear hrg hBr hT hat
      by_cases hcw : c = who
      · subst hcw
        go_wp2_with (at_delete; refine wpList_delete_ranges _ rfl (.tmp 22) (.tmp 23) mT iT rfl iT kInt uMap _ b w.heap.size n _ _ _ rfl hrg1 _ _ rfl (keyOf_int_mk uInt hwx) ?_; intro w2 cnt2 hrg2 hle hturn)
        rw [Maps.strike_twice] at hrg2
        go_frame
        go_roundw
        case rel => exact ⟨_, ⟨_, _, hrg2, says_gone hsD hfx hlx, fun k hk hl => hlf k hk (by simp at hl; exact hl.1)⟩, turned_blk hturn hB1 hne, hT1.trans (turned_touch hturn)⟩
        case measure => rw [hrg2.left_eq, m0]; omega
      · have g : (c == who) = false := by simpa using hcw
        go_wp2
        go_roundw
        case rel => exact ⟨_, ⟨_, _, hrg1, says_keep hsD hfx hcw, fun k hk hl => hlf k hk (by simp at hl; exact hl.1)⟩, hB1, hT1⟩
        case measure => rw [hrg1.left_eq, m0]; omega
end Go.Proofs.Ytbhdojpgjmbogaa
