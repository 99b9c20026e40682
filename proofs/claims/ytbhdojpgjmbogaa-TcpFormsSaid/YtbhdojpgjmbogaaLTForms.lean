/- TcpForms: the walk over the law: it answers true. -/
import Derived.Test.YtbhdojpgjmbogaaTAwake
import Derived.Test.YtbhdojpgjmbogaaFBoth
import Derived.Test.YtbhdojpgjmbogaaRSame
import Derived.Test.YtbhdojpgjmbogaaLForms
namespace Go.Proofs.Ytbhdojpgjmbogaa
open Go.RowKit Go.Shelf
theorem step_storeU8 {ops : Array Oper} {o : Oper} {a : Act} {w : World} {K : Act → World → Prop} {Q : Exit → Act → World → Prop} {E : Prop} (hgd : o.guard = none) (x y : Operand) (ho : o.op = .store 5 x y) {b off : Nat} {n : Int} {old : Value}
    (hx : a.eval x = .pointer (some ⟨b, off, none⟩)) (hy : a.eval y = .int .u8 n) (hc : w.cell? ⟨b, off, none⟩ = some old) (hf : w.frozen? ⟨b, off, none⟩ = false) (h : K (a.put o.dst undef) (w.setCell ⟨b, off, none⟩ (.int .u8 n))) :
    if Region.wanted o (yielded ops a.tmps) = true then Oper.wp Try.prog o a w K Q else E := by
  have hw : Region.wanted o (yielded ops a.tmps) = true := by simp [Region.wanted, hgd]
  rw [if_pos hw]
  have e : (Instr.storeAt 5 (.pointer (some ⟨b, off, none⟩)) (.int .u8 n)).run Try.prog w = .ok () (w.setCell ⟨b, off, none⟩ (.int .u8 n)) := by simp [hc, hf, go_sem]
  unfold Oper.wp execOp
  simp only [ho, hx, hy, Sem.run_bind, e, Result.andThen_ok, Sem.run_pure]
  exact h
theorem Ow.farset {w : World} {base : Nat} {v : Value} {l : List UInt8} (h : Ow w base v l) (p : Addr) (hp : p.block < base) (u : Value) : Ow (w.setCell p u) base v l :=
  owns_same h fun g hg => Below.heap_setCell w p u g fun e => by have := (owns_block_lt h hg).1; omega
theorem Ow.off {w w' : World} {base : Nat} {v : Value} {l : List UInt8} (h : Ow w base v l) {S : Nat → Prop} (ht : Touch S w w') (hS : ∀ g, v.ownBlock = some g → ¬ S g) : Ow w' base v l :=
  owns_same h fun g hg => ht.block g (owns_block_lt h hg).2 (hS g hg)
theorem Blk.touch {w w' : World} {g : Nat} {t : TypeId} {cs : Array Value} (h : Blk w g t cs) {S : Nat → Prop} (ht : Touch S w w') (hS : ¬ S g) : Blk w' g t cs := (ht.block g h.lt hS).trans h
theorem OwS.farset {w : World} {base : Nat} {v : Value} {l : List (Int × Int)} (h : OwS w base v l) (p : Addr) (hp : p.block < base) (u : Value) : OwS (w.setCell p u) base v l :=
  h.same fun g hg => Below.heap_setCell w p u g fun e => by have := (h.lt hg).1; omega
set_option maxRecDepth 100000 in
set_option maxHeartbeats 40000000 in
theorem law_tforms (s d : IP) (g : SG) (E : List (Int × Int)) (b : List UInt8) (vr : Value) (raw : List UInt8) (w : World) (hq : U32 g.sq) (ha : U32 g.ak) (hif : InI g.fr) (hit : InI g.too) (hgt : RdS w g.gt E) (hU : SpansU E) (hda : Rd w g.da b)
    (hEl : E.length * 8 ≤ 140737488351232) (hbl : b.length ≤ 140737488351232) (hr : Rd w vr raw) (hrl : raw.length ≤ 140737488351232) :
    Calls Try.prog 10 #[s.v, d.v, g.v, vr] w fun e w' => e = .returned (.bool true) ∧ Below w.heap.size w w' := by
  obtain ⟨x, code, hxl, hE1, hE2⟩ := enc_both s d g E b hq ha hif hit hU
  obtain ⟨T, dl, F, code2, hdl, hD1, hD2⟩ := dec_both s d raw (by omega)
  have HE1 := Lib.hid hE1
  have HE2 := Lib.hid hE2
  have HD1 := Lib.hid hD1
  have HD2 := Lib.hid hD2
  clear hE1 hE2 hD1 hD2
  obtain ⟨Ag0, cg0, eg0, _, _⟩ := hgt.form
  obtain ⟨Ad0, cd0, ed0, _, _⟩ := hda.form
  have EG := Lib.hid eg0
  have ED := Lib.hid ed0
  clear eg0 ed0
  go_enter Try.func10, Try.ntmps10
  go_upto_region 1 with (fail)
  refine box5 (s := s) (d := d) (g := g) (motive := fun X => Code.wp Try.prog _ _ _ X) ?_
  intro X hBX _ hbs hbd hbg
  go_wp2_with fail
  refine (tawake _).mono ?_
  rintro e w1 ⟨rfl, hb1⟩
  have hbs1 := hbs.mono hb1
  have hbd1 := hbd.mono hb1
  have hbg1 := hbg.mono hb1
  have hB1 := below_step hBX hBX.size hb1
  clear hbs hbd hbg hb1
  have eg0 := EG.out
  have ed0 := ED.out
  go_upto_region 3 with ((with_reducible refine at_slot 26 ?_); refine wpList_loadB rfl 67 (.tmp 6) rfl hbg1 rfl Try.underlying67 rfl SG.info ?_)
  rw [← eg0, ← ed0]
  clear eg0 ed0
  refine box1 (s := g) (motive := fun X => Code.wp Try.prog _ _ _ X) ?_
  intro X2 hBX2 hX2 hbo2
  have hbs2 := hbs1.mono hBX2
  have hbd2 := hbd1.mono hBX2
  have hbg2 := hbg1.mono hBX2
  have hB2 := below_step hB1 hB1.size hBX2
  have hda2 := hda.mono hB2
  have zg1 := hbg1.lt
  have hB12 := hBX2
  clear hBX2
  have c9 := hbg2.sg.2.2.2.2.2.2.2.2.2
  have f9 := hbo2.free 9
  have o9 := hbo2.sg.2.2.2.2.2.2.2.2.2
  obtain ⟨ho, hho⟩ : ∃ ho, ho = w1.heap.size := ⟨_, rfl⟩
  rw [← hho] at hbo2 f9 o9 hX2 ⊢
  have HHO := Lib.hid hho
  clear hho
  clear o9 f9
  go_upto_region 4 with ((with_reducible refine at_slot 29 ?_); refine wpList_app rfl (.const (.slice none 0 0)) (.tmp 28) rfl X2.heap.size (Ow.nil _ _) hda2 rfl rfl (by simp; omega) (Nat.le_refl _) ?_; intro v3 w3 ho3 hb3 hg3; rw [List.nil_append] at ho3; clear hg3; have o9 := (hbo2.mono hb3).sg.2.2.2.2.2.2.2.2.2; have f9 := (hbo2.mono hb3).free 9; obtain ⟨A3, c3, rfl, _, _⟩ := ho3.rd.form)
  have hHO := HHO.out
  have hzX2 : w1.heap.size + 1 = X2.heap.size := by omega
  have hz2 : ho < X2.heap.size := by omega
  have ow4 := ho3.farset ⟨ho, 9, none⟩ hz2 (.slice A3 b.length c3)
  have hbo3 := (hbo2.mono hb3).set 9 (.slice A3 b.length c3)
  have hB13 : Below w1.heap.size w1 (w3.setCell ⟨ho, 9, none⟩ (.slice A3 b.length c3)) := (below_step hB12 hB12.size hb3).setCell (p := ⟨ho, 9, none⟩) (by show w1.heap.size ≤ ho; omega) _
  clear hHO
  obtain ⟨w4, hw4⟩ : ∃ w4, w4 = w3.setCell ⟨ho, 9, none⟩ (.slice A3 b.length c3) := ⟨_, rfl⟩
  rw [← hw4] at ow4 hbo3 hB13 ⊢
  have hbo4 : Blk w4 ho 67 (SG.cells ⟨g.fr, g.too, g.sq, g.ak, g.fl, g.wn, g.ms, g.sk, g.gt, .slice A3 b.length c3⟩) := hbo3
  have hB4 := below_step hB1 hB1.size hB13
  have hgt4 := hgt.mono hB4
  have hbg4 := hbg1.mono hB13
  have c8 := hbg4.sg.2.2.2.2.2.2.2.2.1
  clear hw4 hbo3 hb3 ho3 hbo2 hda2 hbg2 hbs2 hbd2 hB2 o9 f9 c9 hX2 hzX2
  go_upto_region 5 with ((with_reducible refine at_slot 33 ?_); refine wpList_appS rfl (.const (.slice none 0 0)) (.tmp 32) rfl w4.heap.size (OwS.nil _ _) hgt4 rfl rfl (by simp; omega) (Nat.le_refl _) ?_; intro v5 w5 ho5 hb5 hg5; rw [List.nil_append] at ho5; clear hg5; have o8 := (hbo4.mono hb5).sg.2.2.2.2.2.2.2.2.1; have f8 := (hbo4.mono hb5).free 8; obtain ⟨A5, c5, rfl, _, _⟩ := ho5.rd.form)
  have hz4 : ho < w4.heap.size := hbo4.lt
  have os5 := ho5.farset ⟨ho, 8, none⟩ hz4 (.slice A5 E.length c5)
  have ow5 := (ow4.mono hb5).farset ⟨ho, 8, none⟩ hz2 (.slice A5 E.length c5)
  have hbo5 := (hbo4.mono hb5).set 8 (.slice A5 E.length c5)
  have hB15 : Below w1.heap.size w1 (w5.setCell ⟨ho, 8, none⟩ (.slice A5 E.length c5)) := (below_step hB13 hB13.size hb5).setCell (p := ⟨ho, 8, none⟩) (by rw [HHO.out]; exact Nat.le_refl _) _
  obtain ⟨w6, hw6⟩ : ∃ w6, w6 = w5.setCell ⟨ho, 8, none⟩ (.slice A5 E.length c5) := ⟨_, rfl⟩
  rw [← hw6] at os5 ow5 hbo5 hB15 ⊢
  have hbo6 : Blk w6 ho 67 (SG.cells ⟨g.fr, g.too, g.sq, g.ak, g.fl, g.wn, g.ms, g.sk, .slice A5 E.length c5, .slice A3 b.length c3⟩) := hbo5
  have hB6 := below_step hB1 hB1.size hB15
  have hbs6 := hbs1.mono hB15
  have hbd6 := hbd1.mono hB15
  have hbg6 := hbg1.mono hB15
  have ord6 := ow5.rd
  have ors6 := os5.rd
  clear hw6 hbo5 hb5 ho5 hbo4 hgt4 hbg4 hB4 hB1 hB13 hB15 hbs1 hbd1 hbg1 o8 f8 c8 hB12 ow4 ow5 os5 HHO hz2 hz4 zg1
  go_wp2_with (first | ((with_reducible refine at_slot 36 ?_); refine wpList_loadB rfl 23 (.tmp 4) rfl hbs6 rfl Try.underlying23 rfl IP.info ?_) | ((with_reducible refine at_slot 37 ?_); refine wpList_loadB rfl 23 (.tmp 5) rfl hbd6 rfl Try.underlying23 rfl IP.info ?_) | ((with_reducible refine at_slot 38 ?_); refine wpList_loadB rfl 67 (.tmp 10) rfl hbo6 rfl Try.underlying67 rfl SG.info ?_))
  refine (HE1.out _ _ w6 ors6 ord6).mono ?_
  rintro e w7 ⟨v7, rfl, ho7, hb7⟩
  have hbs7 := hbs6.mono hb7
  have hbd7 := hbd6.mono hb7
  have hbg7 := hbg6.mono hb7
  have hB7 := below_step hB6 hB6.size hb7
  have hgt7 := hgt.mono hB7
  have hda7 := hda.mono hB7
  clear hbs6 hbd6
  go_wp2_with (first | ((with_reducible refine at_slot 43 ?_); refine wpList_loadB rfl 23 (.tmp 4) rfl hbs7 rfl Try.underlying23 rfl IP.info ?_) | ((with_reducible refine at_slot 44 ?_); refine wpList_loadB rfl 23 (.tmp 5) rfl hbd7 rfl Try.underlying23 rfl IP.info ?_) | ((with_reducible refine at_slot 45 ?_); refine wpList_loadB rfl 67 (.tmp 6) rfl hbg7 rfl Try.underlying67 rfl SG.info ?_))
  refine (HE2.out w7 hgt7 hda7).mono ?_
  rintro e w8 ⟨v8, rfl, ho8, hb8⟩
  have hbs8 := hbs7.mono hb8
  have hbd8 := hbd7.mono hb8
  have hB8 := below_step hB7 hB7.size hb8
  have hrr8 := hr.mono hB8
  clear hbs7 hbd7 hbg7 hgt7 hda7
  go_upto_region 8 with ((with_reducible refine at_slot 50 ?_); refine wpList_app rfl (.const (.slice none 0 0)) (.tmp 49) rfl w8.heap.size (Ow.nil _ _) hrr8 rfl rfl (by simp; omega) (Nat.le_refl _) ?_; intro v9 w9 ho9 hb9 hg9; rw [List.nil_append] at ho9; clear hg9)
  have hbs9 := hbs8.mono hb9
  have hbd9 := hbd8.mono hb9
  have hB9 := below_step hB8 hB8.size hb9
  clear hbs8 hbd8 hrr8
  go_wp2_with (first | ((with_reducible refine at_slot 52 ?_); refine wpList_loadB rfl 23 (.tmp 4) rfl hbs9 rfl Try.underlying23 rfl IP.info ?_) | ((with_reducible refine at_slot 53 ?_); refine wpList_loadB rfl 23 (.tmp 5) rfl hbd9 rfl Try.underlying23 rfl IP.info ?_))
  refine (HD1.out _ w9 ho9.rd).mono ?_
  rintro e w10 ⟨vg, vd, rfl, hod, hog, hb10⟩
  have hbs10 := hbs9.mono hb10
  have hbd10 := hbd9.mono hb10
  have hB10 := below_step hB9 hB9.size hb10
  have hrr10 := hr.mono hB10
  clear hbs9 hbd9
  obtain ⟨Ad, cd, rfl, hcd1, hcd2⟩ := hod.rd.form
  obtain ⟨Ag, cg, rfl, hcg1, hcg2⟩ := hog.form
  go_upto_region 9 with (fail)
  refine box1 (s := ⟨T.fr, T.too, T.sq, T.ak, T.fl, T.wn, T.ms, T.sk, .slice Ag F.length cg, .slice Ad dl.length cd⟩) (motive := fun X => Code.wp Try.prog _ _ _ X) ?_
  intro X11 hBX11 hX11 hbp11
  have hbs11 := hbs10.mono hBX11
  have hbd11 := hbd10.mono hBX11
  have hB11 := below_step hB10 hB10.size hBX11
  have hrr11 := hr.mono hB11
  clear hbs10 hbd10 hrr10
  go_wp2_with (first | ((with_reducible refine at_slot 59 ?_); refine wpList_loadB rfl 23 (.tmp 4) rfl hbs11 rfl Try.underlying23 rfl IP.info ?_) | ((with_reducible refine at_slot 60 ?_); refine wpList_loadB rfl 23 (.tmp 5) rfl hbd11 rfl Try.underlying23 rfl IP.info ?_))
  refine (HD2.out _ X11 hrr11).mono ?_
  rintro e w12 ⟨vg2, vd2, rfl, hrd2, hrg2, hb12⟩
  obtain ⟨Ad2, cd2, rfl, hcd3, hcd4⟩ := hrd2.form
  obtain ⟨Ag2, cg2, rfl, hcg3, hcg4⟩ := hrg2.form
  have hbp12 := hbp11.mono hb12
  have hB12 := below_step hB11 hB11.size hb12
  clear hbs11 hbd11 hrr11
  go_upto_region 10 with (fail)
  refine box1 (s := ⟨T.fr, T.too, T.sq, T.ak, T.fl, T.wn, T.ms, T.sk, .slice Ag2 F.length cg2, .slice Ad2 dl.length cd2⟩) (motive := fun X => Code.wp Try.prog _ _ _ X) ?_
  intro X13 hBX13 hX13 hbq13
  have hbp13 := hbp12.mono hBX13
  have hB13 := below_step hB12 hB12.size hBX13
  have b1113 := below_step hb12 hb12.size hBX13
  have b1013 := below_step hBX11 hBX11.size b1113
  have hrd13 := hrd2.mono hBX13
  have hrg13 := hrg2.mono hBX13
  have hpd13 := hod.rd.mono b1013
  have hpg13 := hog.mono b1013
  clear hbp12 hB12
  go_wp2_with (first | ((with_reducible refine at_slot 65 ?_); refine wpList_loadB rfl 67 (.tmp 16) rfl hbp13 rfl Try.underlying67 rfl SG.info ?_) | ((with_reducible refine at_slot 66 ?_); refine wpList_loadB rfl 67 (.tmp 18) rfl hbq13 rfl Try.underlying67 rfl SG.info ?_))
  refine (rsameS ⟨T.fr, T.too, T.sq, T.ak, T.fl, T.wn, T.ms, T.sk, .slice Ag F.length cg, .slice Ad dl.length cd⟩ ⟨T.fr, T.too, T.sq, T.ak, T.fl, T.wn, T.ms, T.sk, .slice Ag2 F.length cg2, .slice Ad2 dl.length cd2⟩ dl F _ rfl rfl rfl rfl rfl rfl rfl rfl hpg13.rd hrg13 hpd13 hrd13).mono ?_
  rintro e w14 ⟨rfl, hb14⟩
  have hbp14 := hbp13.mono hb14
  have hB14 := below_step hB13 hB13.size hb14
  have b1014 := below_step b1013 b1013.size hb14
  have b914 := below_step hb10 hb10.size b1014
  have b814 := below_step hb9 hb9.size b914
  have b714 := below_step hb8 hb8.size b814
  have b614 := below_step hb7 hb7.size b714
  have ho14 := hod.mono b1014
  have hx14 := ho7.mono b714
  have hy14 := ho8.mono b814
  have hk14 := ho9.mono b914
  have z67 := hb7.size
  have z78 := hb8.size
  have z89 := hb9.size
  have z910 := hb10.size
  have z1014 := b1014.size
  have z6 := hB6.size
  have hxn : x.length ≤ 9223372036854775807 := by omega
  have hdn : dl.length ≤ 9223372036854775807 := by omega
  clear hbp13 hbq13 hrd13 hrg13 hpd13 hpg13 hrd2 hrg2 hBX11 hb12 hBX13 b1113 b1013 hb14 hB13 hog hbp11 hX11 hX13
  obtain ⟨A7, c7, rfl, _, _⟩ := hx14.rd.form
  obtain ⟨A8, c8, rfl, _, _⟩ := hy14.rd.form
  have k7 := run_str hx14.rd
  have k8 := run_str hy14.rd
  go_upto_region 12 with (fail)
  clear k7 k8 hy14 ho8
  obtain ⟨P, hP⟩ : ∃ P, P = w10.heap.size := ⟨_, rfl⟩
  rw [← hP] at hbp14 ⊢
  have HP := Lib.hid hP
  clear hP
  go_wp2
  go_loopw [22] (fun i wr => ∃ (k : Nat) (l' : List UInt8), i = .int .i64 k ∧ k ≤ dl.length ∧ Hid (l'.length = dl.length) ∧ Ow wr w9.heap.size (.slice Ad dl.length cd) l' ∧ Touch (fun g => w9.heap.size ≤ g ∧ g < w10.heap.size) w14 wr) (fun i _ => dl.length - (intOf i).toNat)
  case atStart => exact ⟨0, dl, rfl, Nat.zero_le _, rfl, ho14, Touch.refl _ _⟩
  case round =>
    obtain ⟨k, l', rfl, hk, hl', ho2, hT⟩ := hrel
    clear ho14
    have hbpr := hbp14.touch hT (by rw [HP.out]; exact fun h => by omega)
    have x9 := hbpr.sg.2.2.2.2.2.2.2.2.2
    dsimp only at x9
    by_cases hlt : k < dl.length
    · have hlt' : k < l'.length := by rw [hl'.out]; exact hlt
      obtain ⟨g1, cap, e, hg1, hg2, _, _⟩ := ow_form ho2 (by omega)
      injection e with e1 e2 e3
      subst e1 e3
      obtain ⟨x0, x1⟩ := ow_cells ho2 k hlt'
      obtain ⟨y, hy⟩ : ∃ y, y = l'[k] := ⟨_, rfl⟩
      rw [← hy] at x0
      have hy2 := UInt8.toNat_lt y
      have hg3 : g1 < w10.heap.size := (owns_block_lt hod rfl).2
      clear hy e2
      go_upto_region 15 with (fail)
      rename_i K15 hK15
      have hS0 : (fun w' : World => w'.cell? ⟨P, 9, none⟩ = some (.slice (some ⟨g1, 0, none⟩) dl.length cd) ∧ w'.cell? ⟨g1, k, none⟩ = some (.int .u8 (y.toNat : Int))) wr.drew := ⟨x9, x0⟩
      refine wp_region_any (by kernel_rfl) (wpAny_of_G (n := 10) (S := fun w' => w'.cell? ⟨P, 9, none⟩ = some (.slice (some ⟨g1, 0, none⟩) dl.length cd) ∧ w'.cell? ⟨g1, k, none⟩ = some (.int .u8 (y.toNat : Int))) _ _ _ _ ?_)
      refine G.pure' (i := 0) (v := .pointer (some ⟨P, 9, none⟩)) rfl (by kernel_rfl) (fun _ _ _ h => h) (.inl ⟨rfl, fun w' _ => ?_⟩) (fun _ => hS0) ?_
      · simp [execOp, Act.eval, go_sem]
      simp only [Act.put, List.getElem_toArray, List.getElem_cons_zero, List.setIfInBounds_toArray, List.set_cons_zero, List.set_cons_succ]
      refine G.load (i := 1) (v := .slice (some ⟨g1, 0, none⟩) dl.length cd) rfl (by kernel_rfl) (fun _ _ _ h => h) (.inl ⟨rfl, fun w' hS => ?_⟩) (hS0) ?_
      · simp [execOp, Act.eval, hS, go_sem]
      simp only [Act.put, List.getElem_toArray, List.getElem_cons_zero, List.getElem_cons_succ, List.setIfInBounds_toArray, List.set_cons_zero, List.set_cons_succ]
      refine G.pure' (i := 2) (v := .int .i64 k) rfl (by kernel_rfl) (fun _ _ _ h => h) (.inl ⟨rfl, fun w' _ => ?_⟩) (fun _ => hS0) ?_
      · simp [execOp, Act.eval, go_sem]
      simp only [Act.put, List.getElem_toArray, List.getElem_cons_zero, List.getElem_cons_succ, List.setIfInBounds_toArray, List.set_cons_zero, List.set_cons_succ]
      refine G.pure' (i := 3) (v := .pointer (some ⟨P, 9, none⟩)) rfl (by kernel_rfl) (fun _ _ _ h => h) (.inl ⟨rfl, fun w' _ => ?_⟩) (fun _ => hS0) ?_
      · simp [execOp, Act.eval, go_sem]
      simp only [Act.put, List.getElem_toArray, List.getElem_cons_zero, List.getElem_cons_succ, List.setIfInBounds_toArray, List.set_cons_zero, List.set_cons_succ]
      refine G.load (i := 4) (v := .slice (some ⟨g1, 0, none⟩) dl.length cd) rfl (by kernel_rfl) (fun _ _ _ h => h) (.inl ⟨rfl, fun w' hS => ?_⟩) (hS0) ?_
      · simp [execOp, Act.eval, hS, go_sem]
      simp only [Act.put, List.getElem_toArray, List.getElem_cons_zero, List.getElem_cons_succ, List.setIfInBounds_toArray, List.set_cons_zero, List.set_cons_succ]
      refine G.pure' (i := 5) (v := .int .i64 k) rfl (by kernel_rfl) (fun _ _ _ h => h) (.inl ⟨rfl, fun w' _ => ?_⟩) (fun _ => hS0) ?_
      · simp [execOp, Act.eval, go_sem]
      simp only [Act.put, List.getElem_toArray, List.getElem_cons_zero, List.getElem_cons_succ, List.setIfInBounds_toArray, List.set_cons_zero, List.set_cons_succ]
      refine G.pure' (i := 6) (v := .pointer (some ⟨g1, k, none⟩)) rfl (by kernel_rfl) (fun _ _ _ h => h) (.inl ⟨rfl, fun w' _ => ?_⟩) (fun _ => hS0) ?_
      · simp [execOp, Act.eval, hlt, go_sem]
      simp only [Act.put, List.getElem_toArray, List.getElem_cons_zero, List.getElem_cons_succ, List.setIfInBounds_toArray, List.set_cons_zero, List.set_cons_succ]
      refine G.load (i := 7) (v := .int .u8 (y.toNat : Int)) rfl (by kernel_rfl) (fun _ _ _ h => h) (.inl ⟨rfl, fun w' hS => ?_⟩) (hS0) ?_
      · simp [execOp, Act.eval, hS, go_sem]
      simp only [Act.put, List.getElem_toArray, List.getElem_cons_zero, List.getElem_cons_succ, List.setIfInBounds_toArray, List.set_cons_zero, List.set_cons_succ]
      refine G.pure' (i := 8) (v := .int .u8 (((y.toNat : Int) + 1) % 256)) rfl (by kernel_rfl) (fun _ _ _ h => h) (.inl ⟨rfl, fun w' _ => ?_⟩) (fun _ => hS0) ?_
      · simp [execOp, Act.eval, go_sem, IntKind.wrap_u8]
      simp only [Act.put, List.getElem_toArray, List.getElem_cons_zero, List.getElem_cons_succ, List.setIfInBounds_toArray, List.set_cons_zero, List.set_cons_succ]
      refine G.pure' (i := 9) (v := .pointer (some ⟨g1, k, none⟩)) rfl (by kernel_rfl) (fun _ _ _ h => h) (.inl ⟨rfl, fun w' _ => ?_⟩) (fun _ => hS0) ?_
      · simp [execOp, Act.eval, hlt, go_sem]
      simp only [Act.put, List.getElem_toArray, List.getElem_cons_zero, List.getElem_cons_succ, List.setIfInBounds_toArray, List.set_cons_zero, List.set_cons_succ]
      refine G.only' (i := 10) ?r10 rfl ?o10
      case r10 => kernel_rfl
      intro K hK
      refine step_storeU8 (n := ((y.toNat : Int) + 1) % 256) rfl (.tmp 102) (.tmp 101) rfl ?q1 ?q2 hS0.2 x1 ?_
      case q1 => simp [Act.eval]
      case q2 => simp [Act.eval]
      refine hK _ _ (fun e => Bool.noConfusion (show true = false from e)) (G.done (by kernel_rfl) ?_)
      clear hK K
      simp only [Act.put, List.getElem_toArray, List.getElem_cons_zero, List.getElem_cons_succ]
      simp only [Exit.inBlock, Exit.then]
      refine hK15 _ _ ?_
      clear hK15 K15
      go_wp2
      go_roundw
      case rel => exact ⟨k + 1, l'.set k (y + 1), by go_num, by omega, by unfold Hid; rw [List.length_set]; exact hl'.out, (ow_inc ho2 y).drew, hT.trans (Touch.set (S := fun g => w9.heap.size ≤ g ∧ g < w10.heap.size) wr (p := ⟨g1, k, none⟩) ⟨hg1, hg3⟩ _).drew⟩
      case measure => simp [intOf]; omega
    · have zr := hT.size
      have bxr : Below w7.heap.size w7 wr := b714.trans (hT.below (fun g hg => by have : w9.heap.size ≤ g := hg.1; omega) b714.size)
      have hxr := ho7.mono bxr
      have b6r : Below w6.heap.size w6 wr := b614.trans (hT.below (fun g hg => by have : w9.heap.size ≤ g := hg.1; omega) b614.size)
      have hBr : Below w.heap.size w wr := hB14.trans (hT.below (fun g hg => by have : w9.heap.size ≤ g := hg.1; omega) hB14.size)
      have hkr : Ow wr w8.heap.size v9 raw := hk14.off hT (fun g hg h => by have h1 : w9.heap.size ≤ g := h.1; have := (owns_block_lt ho9 hg).2; omega)
      have hz7 : ∀ g, (Value.slice A7 x.length c7).ownBlock = some g → w6.heap.size ≤ g ∧ g < w7.heap.size := fun g hg => owns_block_lt ho7 hg
      have hz9 : ∀ g, v9.ownBlock = some g → w8.heap.size ≤ g := fun g hg => (owns_block_lt ho9 hg).1
      have b6z := b6r.size
      clear hT hk14 hx14 ho2 hbpr hbp14 b714 b614 b814 b914 b1014 bxr hB14
      obtain ⟨wo, rfl⟩ : ∃ wo, wo = wr := ⟨_, rfl⟩
      go_wp2
      go_loopw [23] (fun i wz => ∃ (k : Nat) (l' : List UInt8), i = .int .i64 k ∧ k ≤ x.length ∧ Hid (l'.length = x.length) ∧ Ow wz w6.heap.size (.slice A7 x.length c7) l' ∧ Touch (fun g => w6.heap.size ≤ g ∧ g < w7.heap.size) wo wz) (fun i _ => x.length - (intOf i).toNat)
      case atStart => exact ⟨0, x, rfl, Nat.zero_le _, rfl, hxr, Touch.refl _ _⟩
      case round =>
        clear x9 hlt hl'
        obtain ⟨k2, l2, rfl, hk2, hl2, ho2, hT⟩ := hrel
        clear hxr
        by_cases hlt : k2 < x.length
        · have hlt' : k2 < l2.length := by rw [hl2.out]; exact hlt
          obtain ⟨g2, cap, e, hg1, hg2, _, _⟩ := ow_form ho2 (by omega)
          injection e with e1 e2 e3
          subst e1 e3
          have hgz := hz7 g2 rfl
          obtain ⟨x0, x1⟩ := ow_cells ho2 k2 hlt'
          obtain ⟨y, hy⟩ : ∃ y, y = l2[k2] := ⟨_, rfl⟩
          rw [← hy] at x0
          have hy2 := UInt8.toNat_lt y
          clear hy e2
          go_wp2
          go_roundw
          case rel => exact ⟨k2 + 1, l2.set k2 (y + 1), by go_num, by omega, by unfold Hid; rw [List.length_set]; exact hl2.out, ow_inc ho2 y, hT.trans (Touch.set _ hgz _)⟩
          case measure => simp [intOf]; omega
        · have b6w : Below w6.heap.size w6 wr := b6r.trans (hT.below (fun g hg => hg.1) b6r.size)
          have hBw : Below w.heap.size w wr := hBr.trans (hT.below (fun g hg => by have : w6.heap.size ≤ g := hg.1; omega) hBr.size)
          have hbow := hbo6.mono b6w
          have hbgw := hbg6.mono b6w
          have hgtw := hgt.mono hBw
          have hdaw := hda.mono hBw
          have ordw := ord6.mono b6w
          have orsw := ors6.mono b6w
          have hkw : Ow wr w8.heap.size v9 raw := hkr.off hT (fun g hg h => by have h1 : g < w7.heap.size := h.2; have := hz9 g hg; omega)
          obtain ⟨w15, rfl⟩ : ∃ x, x = wr := ⟨_, rfl⟩
          clear hT hkr b6r hBr hz7 hz9 ho2
          go_wp2_with (first | ((with_reducible refine at_slot 117 ?_); refine wpList_loadB rfl 67 (.tmp 10) rfl hbow rfl Try.underlying67 rfl SG.info ?_) | ((with_reducible refine at_slot 118 ?_); refine wpList_loadB rfl 67 (.tmp 6) rfl hbgw rfl Try.underlying67 rfl SG.info ?_))
          refine (rsameS ⟨g.fr, g.too, g.sq, g.ak, g.fl, g.wn, g.ms, g.sk, .slice A5 E.length c5, .slice A3 b.length c3⟩ g b E _ rfl rfl rfl rfl rfl rfl rfl rfl orsw hgtw ordw hdaw).mono ?_
          rintro e w16 ⟨rfl, hb16⟩
          have hB16 := below_step hBw hBw.size hb16
          have hk16 := hkw.mono hb16
          have hr16 := hr.mono hB16
          obtain ⟨A9, c9, rfl, _, _⟩ := hk16.rd.form
          obtain ⟨Ar, cr, rfl, _, _⟩ := hr16.form
          have k9 := run_str hk16.rd
          have kr := run_str hr16
          clear hgtw hdaw ordw orsw hkw hbow hbgw hb16 hBw b6w
          go_wp2
          go_ret
          exact ⟨rfl, hB16⟩
end Go.Proofs.Ytbhdojpgjmbogaa
