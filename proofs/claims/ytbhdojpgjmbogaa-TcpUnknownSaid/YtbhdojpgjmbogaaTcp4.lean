/- packhorseref14.Same where the spans are none. -/
import Derived.Test.YtbhdojpgjmbogaaTcp2
namespace Go.Proofs.Ytbhdojpgjmbogaa
open Go.RowKit Go.Shelf
set_option maxHeartbeats 1600000 in
set_option maxRecDepth 100000 in
theorem rsame (s t : SG) (l : List UInt8) (w : World) (h1 : s.fr = t.fr) (h2 : s.too = t.too) (h3 : s.sq = t.sq) (h4 : s.ak = t.ak) (h5 : s.fl = t.fl) (h6 : s.wn = t.wn) (h7 : s.ms = t.ms) (h8 : s.sk = t.sk)
    (A B : Option Addr) (c d : Nat) (hs : s.gt = .slice A 0 c) (ht : t.gt = .slice B 0 d) (hsd : Rd w s.da l) (htd : Rd w t.da l) :
    Calls Try.prog 46 #[s.v, t.v] w fun e w' => e = .returned (.bool true) ∧ Below w.heap.size w w' := by
  obtain ⟨fr, too, sq, ak, fl, wn, ms, sk, gt, da⟩ := s
  obtain ⟨fr', too', sq', ak', fl', wn', ms', sk', gt', da'⟩ := t
  dsimp only at *
  subst h1 h2 h3 h4 h5 h6 h7 h8 hs ht
  obtain ⟨A1, c1, rfl, _, _⟩ := hsd.form
  obtain ⟨A2, c2, rfl, _, _⟩ := htd.form
  have hBB := boxes_below w (.cells (SG.cells ⟨fr, too, sq, ak, fl, wn, ms, sk, .slice A 0 c, .slice A1 l.length c1⟩) 67) (.cells (SG.cells ⟨fr, too, sq, ak, fl, wn, ms, sk, .slice B 0 d, .slice A2 l.length c2⟩) 67)
  have hB := boxes_below w (.cells (SG.cells ⟨fr, too, sq, ak, fl, wn, ms, sk, .slice A 0 c, .slice A1 l.length c1⟩) 67) (.cells (SG.cells ⟨fr, too, sq, ak, fl, wn, ms, sk, .slice B 0 d, .slice A2 l.length c2⟩) 67)
  have k1 := run_str (hsd.mono hB)
  have k2 := run_str (htd.mono hB)
  go_enter Try.func46, Try.ntmps46
  dsimp only [SG.cells] at k1 k2
  clear hB
  go_upto_region 4 with (fail)
  go_wp2
  refine wp_loop_rounds 1 ?_
  rw [rounds_succ]
  go_wp2
  go_ret
  exact ⟨ret_bool (by simp), hBB⟩
end Go.Proofs.Ytbhdojpgjmbogaa
