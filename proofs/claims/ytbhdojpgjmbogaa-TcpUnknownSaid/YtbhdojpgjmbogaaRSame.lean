/- packhorseref14.Same, with spans. -/
import Derived.Test.YtbhdojpgjmbogaaTcp4
import Derived.Test.YtbhdojpgjmbogaaSpans
import Derived.BigQuiet
namespace Go.Proofs.Ytbhdojpgjmbogaa
open Go.RowKit Go.Shelf
theorem below_drewN' {B : Nat} {w w' : World} (h : Below B w w') (n : Nat) : Below B w (w'.drewN n) := ⟨h.os, h.tape, h.output, h.size, h.block⟩
theorem span_same (y z : Int) (w : World) : (Op.equalIn 10000 117 (.agg #[.int .u32 y, .int .u32 z]) (.agg #[.int .u32 y, .int .u32 z])).run Try.prog w = .ok true w := by
  simp [go_sem, Op.eqFields, part]
set_option maxHeartbeats 3200000 in
set_option maxRecDepth 100000 in
theorem rsameS (s t : SG) (l : List UInt8) (E : List (Int × Int)) (w : World) (h1 : s.fr = t.fr) (h2 : s.too = t.too) (h3 : s.sq = t.sq) (h4 : s.ak = t.ak) (h5 : s.fl = t.fl) (h6 : s.wn = t.wn) (h7 : s.ms = t.ms) (h8 : s.sk = t.sk)
    (hs : RdS w s.gt E) (ht : RdS w t.gt E) (hsd : Rd w s.da l) (htd : Rd w t.da l) :
    Calls Try.prog 46 #[s.v, t.v] w fun e w' => e = .returned (.bool true) ∧ Below w.heap.size w w' := by
  obtain ⟨fr, too, sq, ak, fl, wn, ms, sk, gt, da⟩ := s
  obtain ⟨fr', too', sq', ak', fl', wn', ms', sk', gt', da'⟩ := t
  dsimp only at *
  subst h1 h2 h3 h4 h5 h6 h7 h8
  obtain ⟨A1, c1, rfl, _, _⟩ := hsd.form
  obtain ⟨A2, c2, rfl, _, _⟩ := htd.form
  obtain ⟨Ag, cg, rfl, hg1, hg2⟩ := hs.form
  obtain ⟨Ah, ch, rfl, hh1, hh2⟩ := ht.form
  have hBB := boxes_below w (.cells (SG.cells ⟨fr, too, sq, ak, fl, wn, ms, sk, .slice Ag E.length cg, .slice A1 l.length c1⟩) 67) (.cells (SG.cells ⟨fr, too, sq, ak, fl, wn, ms, sk, .slice Ah E.length ch, .slice A2 l.length c2⟩) 67)
  have hB := boxes_below w (.cells (SG.cells ⟨fr, too, sq, ak, fl, wn, ms, sk, .slice Ag E.length cg, .slice A1 l.length c1⟩) 67) (.cells (SG.cells ⟨fr, too, sq, ak, fl, wn, ms, sk, .slice Ah E.length ch, .slice A2 l.length c2⟩) 67)
  have b1 : Blk ((w.alloc (.cells (SG.cells ⟨fr, too, sq, ak, fl, wn, ms, sk, .slice Ag E.length cg, .slice A1 l.length c1⟩) 67)).alloc (.cells (SG.cells ⟨fr, too, sq, ak, fl, wn, ms, sk, .slice Ah E.length ch, .slice A2 l.length c2⟩) 67)) w.heap.size 67 (SG.cells ⟨fr, too, sq, ak, fl, wn, ms, sk, .slice Ag E.length cg, .slice A1 l.length c1⟩) := (Blk.new w 67 _ _ rfl).alloc _
  have b2 : Blk ((w.alloc (.cells (SG.cells ⟨fr, too, sq, ak, fl, wn, ms, sk, .slice Ag E.length cg, .slice A1 l.length c1⟩) 67)).alloc (.cells (SG.cells ⟨fr, too, sq, ak, fl, wn, ms, sk, .slice Ah E.length ch, .slice A2 l.length c2⟩) 67)) (w.heap.size + 1) 67 (SG.cells ⟨fr, too, sq, ak, fl, wn, ms, sk, .slice Ah E.length ch, .slice A2 l.length c2⟩) := Blk.new _ 67 _ _ (by simp)
  go_enter Try.func46, Try.ntmps46
  dsimp only [SG.cells] at hB hBB b1 b2
  go_upto_region 1 with (fail)
  obtain ⟨X, hX⟩ : ∃ X, X = ((w.alloc (.cells #[.int .i64 fr, .int .i64 too, .int .u32 sq, .int .u32 ak, .int .i64 fl, .int .i64 wn, .int .i64 ms, .bool sk, .slice Ag E.length cg, .slice A1 l.length c1] 67)).alloc (.cells #[.int .i64 fr, .int .i64 too, .int .u32 sq, .int .u32 ak, .int .i64 fl, .int .i64 wn, .int .i64 ms, .bool sk, .slice Ah E.length ch, .slice A2 l.length c2] 67)) := ⟨_, rfl⟩
  rw [← hX] at hB hBB b1 b2 ⊢
  clear hX
  obtain ⟨c0, c1', c2', c3, c4, c5, c6, c7, c8, c9⟩ := Blk.sg (s := ⟨fr, too, sq, ak, fl, wn, ms, sk, .slice Ag E.length cg, .slice A1 l.length c1⟩) b1
  obtain ⟨d0, d1, d2, d3, d4, d5, d6, d7, d8, d9⟩ := Blk.sg (s := ⟨fr, too, sq, ak, fl, wn, ms, sk, .slice Ah E.length ch, .slice A2 l.length c2⟩) b2
  dsimp only at c0 c1' c2' c3 c4 c5 c6 c7 c8 c9 d0 d1 d2 d3 d4 d5 d6 d7 d8 d9
  have hEn : E.length ≤ 9223372036854775807 := by omega
  go_upto_region 4 with (fail)
  go_loopw [5] (fun i wx => ∃ k : Nat, i = .int .i64 k ∧ k ≤ E.length ∧ Below X.heap.size X wx) (fun i _ => E.length - (intOf i).toNat)
  case atStart => exact ⟨0, rfl, Nat.zero_le _, Below.refl _ _⟩
  case round =>
    obtain ⟨k, rfl, hk, hBx⟩ := hrel
    have c8r := (hBx.cell (p := ⟨w.heap.size, 8, none⟩) b1.lt).trans c8
    have d8r := (hBx.cell (p := ⟨w.heap.size + 1, 8, none⟩) b2.lt).trans d8
    have c9r := (hBx.cell (p := ⟨w.heap.size, 9, none⟩) b1.lt).trans c9
    have d9r := (hBx.cell (p := ⟨w.heap.size + 1, 9, none⟩) b2.lt).trans d9
    have hBw : Below w.heap.size w wr := hB.trans (hBx.mono hB.size)
    clear c0 c1' c2' c3 c4 c5 c6 c7 c8 c9 d0 d1 d2 d3 d4 d5 d6 d7 d8 d9 b1 b2
    by_cases hlt : k < E.length
    · obtain ⟨bx, ox, rfl, _, e0, e1⟩ := (hs.mono hBw).at_ k hlt
      obtain ⟨by', oy, rfl, _, f0, f1⟩ := (ht.mono hBw).at_ k hlt
      obtain ⟨⟨y, z⟩, hyz⟩ : ∃ x, x = E[k] := ⟨_, rfl⟩
      rw [← hyz] at e0 e1 f0 f1
      dsimp only at e0 e1 f0 f1
      have k0 := span_same y z
      clear hyz
      go_upto_region 6 with (fail)
      go_quiet (fail)
      go_wp2
      go_roundw
      case rel => exact ⟨k + 1, by go_num, by omega, below_drewN' hBx _⟩
      case measure => simp [intOf]; omega
    · obtain rfl : k = E.length := by omega
      have k1 := run_str (hsd.mono hBw)
      have k2 := run_str (htd.mono hBw)
      have HBW := Lib.hid hBw
      clear hBw hBx hB hBB hs ht
      go_wp2
      go_ret
      exact ⟨ret_bool (by simp), HBW.out⟩
end Go.Proofs.Ytbhdojpgjmbogaa
