/- The chapter's examples (packhorselaw14.awake): true in whatever memory. -/
import Derived.Test.YtbhdojpgjmbogaaTDec
import Derived.Test.YtbhdojpgjmbogaaTcp4
namespace Go.Proofs.Ytbhdojpgjmbogaa
open Go.RowKit Go.Shelf
/-- The segment of the examples. -/
def exS : SG := ⟨5, 7, 1, 0, 2, 8, 216, false, noS, noS⟩
/-- Its bytes. -/
def exL : List UInt8 := [0, 5, 0, 7, 0, 0, 0, 1, 0, 0, 0, 0, 96, 2, 0, 8, 136, 235, 0, 0, 2, 4, 0, 216]
theorem ex_p16 : p16 216 = [0, 216] := by decide
theorem ex_seg0 : segL exS ([2, 4] ++ p16 216) [] 0 = [0, 5, 0, 7, 0, 0, 0, 1, 0, 0, 0, 0, 96, 2, 0, 8, 0, 0, 0, 0, 2, 4, 0, 216] := by decide
theorem ex_sum : csum 6 ⟨10, 0, 0, 1⟩ ⟨10, 0, 0, 2⟩ (segL exS ([2, 4] ++ p16 216) [] 0) = 35051 := by
  rw [ex_seg0]
  simp [csum, psl, IP.l, p16, by8, sumw, fold_small]
theorem ex_tenc : segL exS ([2, 4] ++ p16 216) [] (csum 6 ⟨10, 0, 0, 1⟩ ⟨10, 0, 0, 2⟩ (segL exS ([2, 4] ++ p16 216) [] 0)) = exL := by
  rw [ex_sum]
  decide
theorem ex_zero : csum 6 ⟨10, 0, 0, 1⟩ ⟨10, 0, 0, 2⟩ exL = 0 := by
  unfold exL
  simp [csum, psl, IP.l, p16, by8, sumw, fold_small]
theorem ex_opts : optsOf ((exL.take 24).drop 20) = [[2, 4, 0, 216]] := by
  show optsOf [2, 4, 0, 216] = _
  rw [optsOf_more (by decide) (by decide) (by decide)]
  show [2, 4, 0, 216] :: optsOf [] = _
  rw [optsOf_nil]
theorem ex_rd : rdAll true ⟨0, false, []⟩ [[2, 4, 0, 216]] = (true, ⟨216, false, []⟩) := by simp [rdAll, optStep, be]
theorem ex_dec (g v : Value) : decSG exL ⟨216, false, []⟩ g v = ⟨5, 7, 1, 0, 2, 8, 216, false, g, v⟩ := by simp [decSG, exL, be]
theorem ex_rst : (if hasB exS.fl 4 then SG.zero else rstS exS 0) = ⟨7, 5, 0, 2, 20, 0, 0, false, noS, noS⟩ := by simp [hasB, exS, rstS, sizeN]
theorem ex_ok : exS.Ok := ⟨by decide, by decide, by decide, by decide, by decide, ⟨by decide, by decide⟩, ⟨by decide, by decide⟩⟩
set_option maxRecDepth 100000 in
set_option maxHeartbeats 8000000 in
theorem tawake (w : World) : Calls Try.prog 33 #[] w fun e w' => e = .returned (.bool true) ∧ Below w.heap.size w w' := by
  go_enter Try.func33, Try.ntmps33
  go_wp2_with fail
  refine box5 (s := ⟨10, 0, 0, 1⟩) (d := ⟨10, 0, 0, 2⟩) (g := exS) (motive := fun X => Calls Try.prog _ _ X _) ?_
  intro X hB hX ha hb hg
  refine (tenc ⟨10, 0, 0, 1⟩ ⟨10, 0, 0, 2⟩ exS ([2, 4] ++ p16 216) [] X ex_ok none 0 0 rfl (by decide) (Rd.nil _) (by decide) (by decide) (fun W _ => topts_mss exS none 0 (by decide) rfl rfl W)).mono ?_
  rintro e w1 ⟨v1, rfl, ho1, hb1⟩
  rw [ex_tenc] at ho1
  have hB1 := below_step hB hB.size hb1
  have ha1 := ha.mono hb1
  have hb1' := hb.mono hb1
  have hg1 := hg.mono hb1
  have hrx := ho1.rd
  obtain ⟨gx, cap, rfl, _, _, _, hg4⟩ := ow_form ho1 (by decide)
  obtain ⟨b6, o6, e6, _, hc⟩ := hrx.at_ 0 (by decide)
  obtain ⟨rfl, rfl⟩ : gx = b6 ∧ 0 = o6 := by
    injection e6 with e6
    injection e6 with e6 e7
    exact ⟨e6, e7⟩
  have c12 : w1.cell? ⟨gx, 12, none⟩ = some (.int .u8 96) := hc 12 (by decide)
  have c13 : w1.cell? ⟨gx, 13, none⟩ = some (.int .u8 2) := hc 13 (by decide)
  have c23 : w1.cell? ⟨gx, 23, none⟩ = some (.int .u8 216) := hc 23 (by decide)
  have hl : exL.length = 24 := rfl
  rw [hl] at hrx ⊢
  clear hB hX ha hb hg hb1 ho1 hc e6 hl
  go_wp2_with (first | ((with_reducible refine at_slot 47 ?_); refine wpList_loadB rfl 23 (.tmp 1) rfl ha1 rfl Try.underlying23 rfl IP.info ?_) | ((with_reducible refine at_slot 48 ?_); refine wpList_loadB rfl 23 (.tmp 2) rfl hb1' rfl Try.underlying23 rfl IP.info ?_))
  refine (tdec ⟨10, 0, 0, 1⟩ ⟨10, 0, 0, 2⟩ exL _ _ hrx (by decide) (by decide) 24 96 (by decide) (by decide) (by decide) (by decide) ex_zero (by decide) (by decide) (by decide) true (by decide) ⟨216, false, []⟩ (by rw [ex_opts]; exact ex_rd)).mono ?_
  rintro e w2 ⟨g2, v2, rfl, ho2, hg2v, hb2⟩
  rw [ex_dec]
  obtain ⟨Ag, cg, eg, _, _⟩ := hg2v.form
  have eg' : g2 = .slice Ag 0 cg := eg
  subst eg'
  clear hg2v eg
  have hB2 := below_step hB1 hB1.size hb2
  have hg2 := hg1.mono hb2
  have hd0 : exL.drop 24 = [] := rfl
  rw [hd0] at ho2
  obtain ⟨A2, c2, rfl, _, _⟩ := ho2.rd.form
  clear c12 c13 c23 hrx ha1 hb1' hb2 hB1 hg1 hd0
  have hrd0 : Rd w2 (.slice A2 0 c2) [] := ho2.rd
  have hnb : Blk (w2.alloc (.cells (SG.cells ⟨5, 7, 1, 0, 2, 8, 216, false, .slice Ag 0 cg, .slice A2 0 c2⟩) 67)) w2.heap.size 67 (SG.cells ⟨5, 7, 1, 0, 2, 8, 216, false, .slice Ag 0 cg, .slice A2 0 c2⟩) := Blk.new _ _ _ _ rfl
  have hg3 := hg2.alloc (.cells (SG.cells ⟨5, 7, 1, 0, 2, 8, 216, false, .slice Ag 0 cg, .slice A2 0 c2⟩) 67)
  have hBA := below_alloc w2 (.cells (SG.cells ⟨5, 7, 1, 0, 2, 8, 216, false, .slice Ag 0 cg, .slice A2 0 c2⟩) 67)
  have hrd := hrd0.mono hBA
  have hB3 := below_step hB2 hB2.size hBA
  clear hg2 ho2 hrd0 hB2
  go_wp2_with (first | ((with_reducible refine at_slot 53 ?_); refine wpList_loadB rfl 67 (.tmp 3) rfl hg3 rfl Try.underlying67 rfl SG.info ?_) | ((with_reducible refine at_slot 54 ?_); refine wpList_loadB rfl 67 (.tmp 6) rfl hnb rfl Try.underlying67 rfl SG.info ?_))
  refine (rsame exS ⟨5, 7, 1, 0, 2, 8, 216, false, .slice Ag 0 cg, .slice A2 0 c2⟩ [] _ rfl rfl rfl rfl rfl rfl rfl rfl none Ag 0 cg rfl rfl (Rd.nil _) hrd).mono ?_
  rintro e w4 ⟨rfl, hb4⟩
  have hg4 := hg3.mono hb4
  have hB4 := below_step hB3 hB3.size hb4
  clear hg3 hnb hrd hB3 hBA hb4
  go_wp2_with ((with_reducible refine at_slot 57 ?_); refine wpList_loadB rfl 67 (.tmp 3) rfl hg4 rfl Try.underlying67 rfl SG.info ?_)
  refine (treset exS 0 0 none rfl (by decide) w4).mono ?_
  rintro e w5 ⟨rfl, hb5⟩
  rw [ex_rst, show (!hasB exS.fl 4) = true by decide]
  have hB5 := below_step hB4 hB4.size hb5
  have hnb : Blk (w5.alloc (.cells (SG.cells ⟨7, 5, 0, 2, 20, 0, 0, false, noS, noS⟩) 67)) w5.heap.size 67 (SG.cells ⟨7, 5, 0, 2, 20, 0, 0, false, noS, noS⟩) := Blk.new _ _ _ _ rfl
  have hBA := below_alloc w5 (.cells (SG.cells ⟨7, 5, 0, 2, 20, 0, 0, false, noS, noS⟩) 67)
  have hB6 := below_step hB5 hB5.size hBA
  clear hg4 hB4 hb5 hB5 hBA hnb
  have d1 := fun W => tdiff 1 4294967295 W
  have d2 := fun W => twithin 2 4294967295 4 W
  have d3 := fun W => twithin 2 4294967295 3 W
  have d4 := fun W => tfirst 3 W
  rw [show dif 1 4294967295 = 2 by decide] at d1
  rw [show decide (((2 : Int) - 4294967295) % 4294967296 < 4) = true by decide] at d2
  rw [show decide (((2 : Int) - 4294967295) % 4294967296 < 3) = false by decide] at d3
  rw [show (3 : Int) * 4096 % 4294967296 = 12288 by decide] at d4
  have D := Lib.hid (And.intro d1 (And.intro d2 (And.intro d3 d4)))
  clear d1 d2 d3 d4
  go_wp2_with (first | ((with_reducible refine (D.out.1 _).mono ?_); rintro e w' ⟨rfl, rfl⟩) | ((with_reducible refine (D.out.2.1 _).mono ?_); rintro e w' ⟨rfl, rfl⟩) | ((with_reducible refine (D.out.2.2.1 _).mono ?_); rintro e w' ⟨rfl, rfl⟩) | ((with_reducible refine (D.out.2.2.2 _).mono ?_); rintro e w' ⟨rfl, rfl⟩))
  go_ret
  exact ⟨rfl, hB6⟩
end Go.Proofs.Ytbhdojpgjmbogaa
