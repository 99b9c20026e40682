/- Ip4Forms: the walk: it answers true. -/
import Derived.Test.YtbhdojpgjmbogaaDoorIAwake
import Derived.Test.YtbhdojpgjmbogaaDoorLISum
import Derived.Test.YtbhdojpgjmbogaaDoorLITurn
import Derived.Test.YtbhdojpgjmbogaaDoorIRefE
import Derived.Test.YtbhdojpgjmbogaaDoorIRefD
import Derived.Test.YtbhdojpgjmbogaaDoorDrawn2
import Derived.Test.YtbhdojpgjmbogaaDoorStoreU8
namespace Go.Proofs.YtbhdojpgjmbogaaDoor
open Go.RowKit Go.Shelf
theorem enc9_both (ps pd : IP) (ppr ptl pid pts : Int) (wh mo : Bool) (pfo : Int) (o b : List UInt8) (hol : o.length ≤ 140737488351232) (hbl : b.length ≤ 140737488351232) (ht : InI ptl) :
    ∃ (x : List UInt8) (code : Int), x.length ≤ 65535 ∧ (∀ op v W, Rd W op o → Rd W v b → Calls Tryd.prog 10 #[PK.v ⟨ps, pd, ppr, ptl, pid, pts, wh, mo, pfo, op⟩, v] W (CEnd W x code)) ∧
      (∀ op v W, Rd W op o → Rd W v b → Calls Tryd.prog 11 #[PK.v ⟨ps, pd, ppr, ptl, pid, pts, wh, mo, pfo, op⟩, v] W (CEnd W x code)) := by
  refine ⟨ipL ⟨ps, pd, ppr, ptl, pid, pts, wh, mo, pfo, noS⟩ o b, ipE ⟨ps, pd, ppr, ptl, pid, pts, wh, mo, pfo, noS⟩ o b, ?_, fun op v W h1 h2 => ienc ⟨ps, pd, ppr, ptl, pid, pts, wh, mo, pfo, op⟩ o b v W h1 (by omega) h2 (by omega) ht,
    fun op v W h1 h2 => renc9 ⟨ps, pd, ppr, ptl, pid, pts, wh, mo, pfo, op⟩ o b v W h1 (by omega) h2 (by omega)⟩
  by_cases hE : ipE ⟨ps, pd, ppr, ptl, pid, pts, wh, mo, pfo, noS⟩ o b = 0
  · have h1 := ipL_len hE
    have h2 := (ipE_ok hE).2.2.2.2
    omega
  · rw [ipL_nil hE]
    simp
/-- What is told of bytes: by the program (what is told is its own) .. -/
def ITold (T : PK) (O C : List UInt8) (code : Int) (w : World) (e : Ending) (w' : World) : Prop :=
  ∃ vo vc B, e = .returned (.tuple #[PK.v ⟨T.s, T.d, T.pr, T.tl, T.id, T.ts, T.wh, T.mo, T.fo, vo⟩, vc, .int .i64 code]) ∧ w.heap.size ≤ B ∧ Ow w' w.heap.size vo O ∧ (∀ g, vo.ownBlock = some g → g < B) ∧ Ow w' B vc C ∧ Below w.heap.size w w'
/-- .. and by the reference. -/
def IRTold (T : PK) (O C : List UInt8) (code : Int) (w : World) (e : Ending) (w' : World) : Prop :=
  ∃ vo vc, e = .returned (.tuple #[PK.v ⟨T.s, T.d, T.pr, T.tl, T.id, T.ts, T.wh, T.mo, T.fo, vo⟩, vc, .int .i64 code]) ∧ Rd w' vo O ∧ Rd w' vc C ∧ Below w.heap.size w w'
theorem dec9_both (L : List UInt8) (hmax : L.length ≤ 140737488355000) :
    ∃ (T : PK) (O C : List UInt8) (code : Int), O.length ≤ L.length ∧ C.length ≤ L.length ∧ (∀ v W, Rd W v L → Calls Tryd.prog 12 #[v] W (ITold T O C code W)) ∧ (∀ v W, Rd W v L → Calls Tryd.prog 13 #[v] W (IRTold T O C code W)) := by
  by_cases h0 : ipC L = 0
  · refine ⟨dPK L noS, iopL L, iplL L, 0, by rw [iopL, List.length_drop, List.length_take]; omega, by rw [iplL, List.length_drop, List.length_take]; omega, fun v W h => (idec L v W h (by omega)).mono ?_, fun v W h => (rdec9 L v W h hmax).mono ?_⟩
    · rintro e w' (⟨hne, _⟩ | ⟨_, vo, vc, B, rfl, h1, h2, h3, h4, h5⟩)
      · exact absurd h0 hne
      · exact ⟨vo, vc, B, rfl, h1, h2, h3, h4, h5⟩
    · rintro e w' (⟨hne, _⟩ | ⟨_, vo, vc, rfl, h1, h2, h3⟩)
      · exact absurd h0 hne
      · exact ⟨vo, vc, rfl, h1.rd, h2, h3⟩
  · refine ⟨PK.zero, [], [], ipC L, by simp, by simp, fun v W h => (idec L v W h (by omega)).mono ?_, fun v W h => (rdec9 L v W h hmax).mono ?_⟩
    · rintro e w' (⟨_, rfl, hb⟩ | ⟨h, _⟩)
      · exact ⟨noS, noS, W.heap.size, rfl, Nat.le_refl _, Ow.nil _ _, (fun g h => by cases h), Ow.nil _ _, hb⟩
      · exact absurd h h0
    · rintro e w' (⟨_, rfl, hb⟩ | ⟨h, _⟩)
      · exact ⟨noS, noS, rfl, Rd.nil _, Rd.nil _, hb⟩
      · exact absurd h h0
set_option maxRecDepth 100000 in
set_option maxHeartbeats 40000000 in
theorem law_iform (p : PK) (o b raw : List UInt8) (vb vr : Value) (w : World) (hop : Rd w p.op o) (hol : o.length ≤ 140737488351232) (hb : Rd w vb b) (hbl : b.length ≤ 140737488351232)
    (hr : Rd w vr raw) (hrl : raw.length ≤ 140737488351232) (ht : InI p.tl) :
    Calls Tryd.prog 3 #[p.v, vb, vr] w fun e w' => e = .returned (.bool true) ∧ Below w.heap.size w w' := by
  obtain ⟨ps, pd, ppr, ptl, pid, pts, wh, mo, pfo, pop⟩ := p
  dsimp only at hop ht
  obtain ⟨x, code, hxl, hE1, hE2⟩ := enc9_both ps pd ppr ptl pid pts wh mo pfo o b hol hbl ht
  obtain ⟨T, O, C, code2, hOl, hCl, hD1, hD2⟩ := dec9_both raw (by omega)
  have HE1 := Lib.hid hE1
  have HE2 := Lib.hid hE2
  have HD1 := Lib.hid hD1
  have HD2 := Lib.hid hD2
  clear hE1 hE2 hD1 hD2 ht
  obtain ⟨Ao, co, rfl, _, _⟩ := hop.form
  obtain ⟨Ab, cb, rfl, _, _⟩ := hb.form
  obtain ⟨Ar, cr, rfl, _, _⟩ := hr.form
  go_enter Tryd.func3, Tryd.ntmps3
  go_upto_region 1 with (fail)
  refine boxP (p := ⟨ps, pd, ppr, ptl, pid, pts, wh, mo, pfo, .slice Ao o.length co⟩) (motive := fun X => Code.wp Tryd.prog _ _ _ X) ?_
  intro X hBX hX hs
  go_wp2_with fail
  refine (iawake _).mono ?_
  rintro e w1 ⟨rfl, hb1⟩
  have hs1 := hs.mono hb1
  have hB1 := below_step hBX hBX.size hb1
  have hbb1 := hb.mono hB1
  have z01 : w.heap.size < w1.heap.size := hs1.lt
  clear hs hBX hb1 hX
  -- own := append(nil, b...)
  go_upto_region 3 with ((with_reducible refine at_slot 27 ?_); refine wpList_app rfl (.const (.slice none 0 0)) (.tmp 26) rfl w1.heap.size (Ow.nil _ _) hbb1 rfl rfl (by simp; omega) (Nat.le_refl _) ?_; intro v2 w2 ho2 hb2 hg2; rw [List.nil_append] at ho2; clear hg2; obtain ⟨A2, c2, rfl, _, _⟩ := ho2.rd.form)
  have hs2 := hs1.mono hb2
  have hB2 := below_step hB1 hB1.size hb2
  have hop2 := hop.mono hB2
  have z12 := hb2.size
  clear hs1 hB1 hbb1 hb2
  -- o := p
  go_upto_region 4 with ((with_reducible refine at_slot 28 ?_); refine wpList_loadB rfl 26 (.tmp 3) rfl hs2 rfl Tryd.underlying26 rfl PK.info ?_)
  refine boxP (p := ⟨ps, pd, ppr, ptl, pid, pts, wh, mo, pfo, .slice Ao o.length co⟩) (motive := fun X => Code.wp Tryd.prog _ _ _ X) ?_
  intro X3 hBX3 hX3 hbo3
  have hs3 := hs2.mono hBX3
  have hB3 := below_step hB2 hB2.size hBX3
  have hop3 := hop2.mono hBX3
  have ho3 := ho2.mono hBX3
  have z23 := hBX3.size
  have zw5 : ∀ g, (Value.slice A2 b.length c2).ownBlock = some g → g < w2.heap.size := fun g hg => (owns_block_lt ho2 hg).2
  clear hs2 hB2 hop2 ho2 hBX3
  obtain ⟨_, _, _, _, _, _, _, c15⟩ := hs3.pk
  obtain ⟨GG, hG⟩ : ∃ GG, GG = w2.heap.size := ⟨_, rfl⟩
  rw [← hG] at hbo3 zw5 ⊢
  have zG : w1.heap.size ≤ GG := by omega
  have zG3 : GG < X3.heap.size := by omega
  clear hX3 z23 z12 hG
  -- o.Options = append(nil, p.Options...)
  go_upto_region 5 with ((with_reducible refine at_slot 31 ?_); refine wpList_app rfl (.const (.slice none 0 0)) (.tmp 30) rfl X3.heap.size (Ow.nil _ _) hop3 rfl rfl (by simp; omega) (Nat.le_refl _) ?_; intro v4 w4 ho4 hb4 hg4; rw [List.nil_append] at ho4; clear hg4; obtain ⟨_, _, _, _, _, _, _, o15⟩ := (hbo3.mono hb4).pk; have f15 := (hbo3.mono hb4).free 15; obtain ⟨A3, c3, rfl, _, _⟩ := ho4.rd.form)
  have hbo4 := (hbo3.mono hb4).set 15 (.slice A3 o.length c3)
  have hbo5 : Blk (w4.setCell ⟨GG, 15, none⟩ (.slice A3 o.length c3)) GG 26 (PK.cells ⟨ps, pd, ppr, ptl, pid, pts, wh, mo, pfo, .slice A3 o.length c3⟩) := hbo4
  have oo5 := ho4.farset ⟨GG, 15, none⟩ zG3 (.slice A3 o.length c3)
  have hs5 := (hs3.mono hb4).far (p := ⟨GG, 15, none⟩) (by show w.heap.size ≠ GG; omega) (.slice A3 o.length c3)
  have hB5 := (below_step hB3 hB3.size hb4).setCell (p := ⟨GG, 15, none⟩) (by show w.heap.size ≤ GG; omega) (.slice A3 o.length c3)
  have hw5 : Ow (w4.setCell ⟨GG, 15, none⟩ (.slice A3 o.length c3)) w1.heap.size (.slice A2 b.length c2) b := (ho3.mono hb4).off (Touch.set (S := fun k => k = GG) w4 (p := ⟨GG, 15, none⟩) rfl _) (fun g hg h => by have h1 := zw5 g hg; omega)
  clear hbo4 hbo3 ho4 hb4 hs3 hB3 hop3 ho3 c15 o15 f15
  change Code.wp Tryd.prog _ _ _ (w4.setCell ⟨GG, 15, none⟩ (.slice A3 o.length c3))
  generalize w4.setCell ⟨GG, 15, none⟩ (.slice A3 o.length c3) = w5 at *
  have ro5 := oo5.rd
  have rw5 := hw5.rd
  have zs5 := hs5.lt
  clear zG3 z01
  go_wp2_with ((with_reducible refine at_slot 34 ?_); refine wpList_loadB rfl 26 (.tmp 9) rfl hbo5 rfl Tryd.underlying26 rfl PK.info ?_)
  refine (HE1.out _ _ w5 ro5 rw5).mono ?_
  rintro e w6 ⟨v6, rfl, ho6, hb6⟩
  have hs6 := hs5.mono hb6
  have hB6 := below_step hB5 hB5.size hb6
  have hop6 := hop.mono hB6
  have hbb6 := hb.mono hB6
  go_wp2_with ((with_reducible refine at_slot 40 ?_); refine wpList_loadB rfl 26 (.tmp 3) rfl hs6 rfl Tryd.underlying26 rfl PK.info ?_)
  refine (HE2.out _ _ w6 hop6 hbb6).mono ?_
  rintro e w7 ⟨v7, rfl, ho7, hb7⟩
  have hB7 := below_step hB6 hB6.size hb7
  have hrr7 := hr.mono hB7
  clear hs6 hop6 hbb6
  -- kept := append(nil, raw...)
  go_upto_region 8 with ((with_reducible refine at_slot 46 ?_); refine wpList_app rfl (.const (.slice none 0 0)) (.tmp 45) rfl w7.heap.size (Ow.nil _ _) hrr7 rfl rfl (by simp; omega) (Nat.le_refl _) ?_; intro v8 w8 ho8 hb8 hg8; rw [List.nil_append] at ho8; clear hg8)
  have hB8 := below_step hB7 hB7.size hb8
  clear hrr7
  go_wp2_with fail
  refine (HD1.out _ w8 ho8.rd).mono ?_
  rintro e w9 ⟨vo, vc, B, rfl, zB, hod, hoB, hcd, hb9⟩
  have hB9 := below_step hB8 hB8.size hb9
  obtain ⟨Aq, cq, rfl, _, _⟩ := hod.rd.form
  obtain ⟨Ac, cc, rfl, hcc1, hcc2⟩ := hcd.rd.form
  go_upto_region 9 with (fail)
  refine boxP (p := ⟨T.s, T.d, T.pr, T.tl, T.id, T.ts, T.wh, T.mo, T.fo, .slice Aq O.length cq⟩) (motive := fun X => Code.wp Tryd.prog _ _ _ X) ?_
  intro X10 hBX10 hX10 hbq10
  have hB10 := below_step hB9 hB9.size hBX10
  have hrr10 := hr.mono hB10
  go_wp2_with fail
  refine (HD2.out _ X10 hrr10).mono ?_
  rintro e w11 ⟨vo2, vc2, rfl, hod2, hcd2, hb11⟩
  have hB11 := below_step hB10 hB10.size hb11
  obtain ⟨Aq2, cq2, rfl, _, _⟩ := hod2.form
  obtain ⟨Ac2, cc2, rfl, _, _⟩ := hcd2.form
  clear hrr10
  go_upto_region 10 with (fail)
  refine boxP (p := ⟨T.s, T.d, T.pr, T.tl, T.id, T.ts, T.wh, T.mo, T.fo, .slice Aq2 O.length cq2⟩) (motive := fun X => Code.wp Tryd.prog _ _ _ X) ?_
  intro X12 hBX12 hX12 hbr12
  have hbq12 := (hbq10.mono hb11).mono hBX12
  have hB12 := below_step hB11 hB11.size hBX12
  have b1012 := below_step hb11 hb11.size hBX12
  have b912 := below_step hBX10 hBX10.size b1012
  have hod12 := hod.rd.mono b912
  have hod212 := hod2.mono hBX12
  go_wp2_with (first | ((with_reducible refine at_slot 59 ?_); refine wpList_loadB rfl 26 (.tmp 15) rfl hbq12 rfl Tryd.underlying26 rfl PK.info ?_) | ((with_reducible refine at_slot 60 ?_); refine wpList_loadB rfl 26 (.tmp 18) rfl hbr12 rfl Tryd.underlying26 rfl PK.info ?_))
  refine (rsame9 ⟨T.s, T.d, T.pr, T.tl, T.id, T.ts, T.wh, T.mo, T.fo, .slice Aq O.length cq⟩ (.slice Aq2 O.length cq2) O X12 hod12 hod212).mono ?_
  rintro e w13 ⟨rfl, hb13⟩
  have hbq13 := hbq12.mono hb13
  have b1213 := hb13
  have hB13 := below_step hB12 hB12.size hb13
  have b913 := below_step b912 b912.size hb13
  have b813 := below_step hb9 hb9.size b913
  have b713 := below_step hb8 hb8.size b813
  have b613 := below_step hb7 hb7.size b713
  have b513 := below_step hb6 hb6.size b613
  have hx13 := ho6.mono b613
  have hy13 := ho7.mono b713
  have hk13 := ho8.mono b813
  have ho13 := hod.mono b913
  have hc13 := hcd.mono b913
  have rd13 := (hcd2.mono hBX12).mono hb13
  have z56 := hb6.size
  have z67 := hb7.size
  have z78 := hb8.size
  have z89 := hb9.size
  have z913 := b913.size
  have z6 := hB6.size
  have zq := hbq10.lt
  have zcg : ∀ g, (Value.slice Ac C.length cc).ownBlock = some g → B ≤ g ∧ g < w9.heap.size := fun g hg => owns_block_lt hcd hg
  have zqg : ∀ g, (Value.slice Aq O.length cq).ownBlock = some g → w8.heap.size ≤ g ∧ g < B := fun g hg => ⟨(owns_block_lt hod hg).1, hoB g hg⟩
  have zqg2 : ∀ g, (Value.slice Aq O.length cq).ownBlock = some g → g < w9.heap.size := fun g hg => (owns_block_lt hod hg).2
  have hOn : O.length ≤ 9223372036854775807 := by omega
  have hCn : C.length ≤ 9223372036854775807 := by omega
  obtain ⟨A6, c6, rfl, _, _⟩ := hx13.rd.form
  obtain ⟨A7, c7, rfl, _, _⟩ := hy13.rd.form
  have k6 := run_str hx13.rd
  have k7 := run_str hy13.rd
  have kc := run_str hc13.rd
  have kd := run_str rd13
  clear hbq10 hbq12 hbr12 hod2 hcd2 hod12 hod212 hb11 hBX12 hb13 hBX10 b1012 b912 hB10 hB11 hB12 hX12 hX10
  go_upto_region 12 with (fail)
  clear k6 k7 kc kd hy13 rd13
  obtain ⟨P, hP⟩ : ∃ P, P = w9.heap.size := ⟨_, rfl⟩
  rw [← hP] at hbq13 ⊢
  have HP := Lib.hid hP
  clear hP
  go_wp2
  go_loopw [23] (fun i wr => ∃ (k : Nat) (l' : List UInt8), i = .int .i64 k ∧ k ≤ C.length ∧ Hid (l'.length = C.length) ∧ Ow wr B (.slice Ac C.length cc) l' ∧ Touch (fun g => B ≤ g ∧ g < w9.heap.size) w13 wr) (fun i _ => C.length - (intOf i).toNat)
  case atStart => exact ⟨0, C, rfl, Nat.zero_le _, rfl, hc13, Touch.refl _ _⟩
  case round =>
    obtain ⟨k, l', rfl, hk, hl', ho2, hT⟩ := hrel
    clear hc13
    by_cases hlt : k < C.length
    · have hlt' : k < l'.length := by rw [hl'.out]; exact hlt
      obtain ⟨g1, cap, e, hg1, hg2, _, _⟩ := ow_form ho2 (by omega)
      injection e with e1 e2 e3
      subst e1 e3
      obtain ⟨x0, x1⟩ := ow_cells ho2 k hlt'
      obtain ⟨y, hy⟩ : ∃ y, y = l'[k] := ⟨_, rfl⟩
      rw [← hy] at x0
      have hy2 := UInt8.toNat_lt y
      have hg3 := zcg g1 rfl
      clear hy e2
      go_wp2
      go_roundw
      case rel => exact ⟨k + 1, l'.set k (y + 1), by go_num, by omega, by unfold Hid; rw [List.length_set]; exact hl'.out, ow_inc ho2 y, hT.trans (Touch.set _ hg3 _)⟩
      case measure => simp [intOf]; omega
    · have hqr := hbq13.touch hT (by rw [HP.out]; exact fun h => by omega)
      have hor := ho13.off hT (fun g hg h => by have h1 : B ≤ g := h.1; have := (zqg g hg).2; omega)
      have hTT : Touch (fun g => w8.heap.size ≤ g ∧ g < w9.heap.size) w13 wr := hT.mono (fun g hg => ⟨Nat.le_trans zB hg.1, hg.2⟩)
      clear hT ho2 ho13
      obtain ⟨wo, rfl⟩ : ∃ wo, wo = wr := ⟨_, rfl⟩
      go_wp2
      go_loopw [24] (fun i wz => ∃ (k : Nat) (l' : List UInt8), i = .int .i64 k ∧ k ≤ O.length ∧ Hid (l'.length = O.length) ∧ Ow wz w8.heap.size (.slice Aq O.length cq) l' ∧ Touch (fun g => w8.heap.size ≤ g ∧ g < w9.heap.size) wo wz) (fun i _ => O.length - (intOf i).toNat)
      case atStart => exact ⟨0, O, rfl, Nat.zero_le _, rfl, hor, Touch.refl _ _⟩
      case round =>
        clear hlt hl' hk
        obtain ⟨k2, l2, rfl, hk2, hl2, ho2, hT⟩ := hrel
        clear hor
        have hqz := hqr.touch hT (by rw [HP.out]; exact fun h => by omega)
        obtain ⟨_, _, _, _, _, _, _, x15⟩ := hqz.pk
        dsimp only at x15
        by_cases hlt : k2 < O.length
        · have hlt' : k2 < l2.length := by rw [hl2.out]; exact hlt
          obtain ⟨g1, cap, e, hg1, hg2, _, _⟩ := ow_form ho2 (by omega)
          injection e with e1 e2 e3
          subst e1 e3
          obtain ⟨x0, x1⟩ := ow_cells ho2 k2 hlt'
          obtain ⟨y, hy⟩ : ∃ y, y = l2[k2] := ⟨_, rfl⟩
          rw [← hy] at x0
          have hy2 := UInt8.toNat_lt y
          have hgz := And.intro (zqg g1 rfl).1 (zqg2 g1 rfl)
          clear hy e2
          go_upto_region 19 with (fail)
          rename_i K15 hK15
          have hS0 : (wr.drew.cell? ⟨P, 15, none⟩ = some (.slice (some ⟨g1, 0, none⟩) O.length cq) ∧ wr.drew.cell? ⟨g1, k2, none⟩ = some (.int .u8 (y.toNat : Int))) := ⟨x15, x0⟩
          refine wp_region_any (by kernel_rfl) (wpAny_of_G (n := 10) (S := (fun w' : World => w'.cell? ⟨P, 15, none⟩ = some (.slice (some ⟨g1, 0, none⟩) O.length cq) ∧ w'.cell? ⟨g1, k2, none⟩ = some (.int .u8 (y.toNat : Int)))) _ _ _ _ ?_)
          refine G.pure' (i := 0) (v := .pointer (some ⟨P, 15, none⟩)) rfl (by kernel_rfl) (fun _ _ _ h => h) (.inl ⟨rfl, fun w' _ => ?_⟩) (fun _ => hS0) ?_
          · simp [execOp, Act.eval, go_sem]
          simp only [Act.put, List.getElem_toArray, List.getElem_cons_zero, List.setIfInBounds_toArray, List.set_cons_zero, List.set_cons_succ]
          refine G.load (i := 1) (v := .slice (some ⟨g1, 0, none⟩) O.length cq) rfl (by kernel_rfl) (fun _ _ _ h => h) (.inl ⟨rfl, fun w' hS => ?_⟩) (hS0) ?_
          · simp [execOp, Act.eval, hS, go_sem]
          simp only [Act.put, List.getElem_toArray, List.getElem_cons_zero, List.getElem_cons_succ, List.setIfInBounds_toArray, List.set_cons_zero, List.set_cons_succ]
          refine G.pure' (i := 2) (v := .int .i64 k2) rfl (by kernel_rfl) (fun _ _ _ h => h) (.inl ⟨rfl, fun w' _ => ?_⟩) (fun _ => hS0) ?_
          · simp [execOp, Act.eval, go_sem]
          simp only [Act.put, List.getElem_toArray, List.getElem_cons_zero, List.getElem_cons_succ, List.setIfInBounds_toArray, List.set_cons_zero, List.set_cons_succ]
          refine G.pure' (i := 3) (v := .pointer (some ⟨P, 15, none⟩)) rfl (by kernel_rfl) (fun _ _ _ h => h) (.inl ⟨rfl, fun w' _ => ?_⟩) (fun _ => hS0) ?_
          · simp [execOp, Act.eval, go_sem]
          simp only [Act.put, List.getElem_toArray, List.getElem_cons_zero, List.getElem_cons_succ, List.setIfInBounds_toArray, List.set_cons_zero, List.set_cons_succ]
          refine G.load (i := 4) (v := .slice (some ⟨g1, 0, none⟩) O.length cq) rfl (by kernel_rfl) (fun _ _ _ h => h) (.inl ⟨rfl, fun w' hS => ?_⟩) (hS0) ?_
          · simp [execOp, Act.eval, hS, go_sem]
          simp only [Act.put, List.getElem_toArray, List.getElem_cons_zero, List.getElem_cons_succ, List.setIfInBounds_toArray, List.set_cons_zero, List.set_cons_succ]
          refine G.pure' (i := 5) (v := .int .i64 k2) rfl (by kernel_rfl) (fun _ _ _ h => h) (.inl ⟨rfl, fun w' _ => ?_⟩) (fun _ => hS0) ?_
          · simp [execOp, Act.eval, go_sem]
          simp only [Act.put, List.getElem_toArray, List.getElem_cons_zero, List.getElem_cons_succ, List.setIfInBounds_toArray, List.set_cons_zero, List.set_cons_succ]
          refine G.pure' (i := 6) (v := .pointer (some ⟨g1, k2, none⟩)) rfl (by kernel_rfl) (fun _ _ _ h => h) (.inl ⟨rfl, fun w' _ => ?_⟩) (fun _ => hS0) ?_
          · simp [execOp, Act.eval, hlt, go_sem]
          simp only [Act.put, List.getElem_toArray, List.getElem_cons_zero, List.getElem_cons_succ, List.setIfInBounds_toArray, List.set_cons_zero, List.set_cons_succ]
          refine G.load (i := 7) (v := .int .u8 (y.toNat : Int)) rfl (by kernel_rfl) (fun _ _ _ h => h) (.inl ⟨rfl, fun w' hS => ?_⟩) (hS0) ?_
          · simp [execOp, Act.eval, hS, go_sem]
          simp only [Act.put, List.getElem_toArray, List.getElem_cons_zero, List.getElem_cons_succ, List.setIfInBounds_toArray, List.set_cons_zero, List.set_cons_succ]
          refine G.pure' (i := 8) (v := .int .u8 (((y.toNat : Int) + 1) % 256)) rfl (by kernel_rfl) (fun _ _ _ h => h) (.inl ⟨rfl, fun w' _ => ?_⟩) (fun _ => hS0) ?_
          · simp [execOp, Act.eval, go_sem, IntKind.wrap_u8]
          simp only [Act.put, List.getElem_toArray, List.getElem_cons_zero, List.getElem_cons_succ, List.setIfInBounds_toArray, List.set_cons_zero, List.set_cons_succ]
          refine G.pure' (i := 9) (v := .pointer (some ⟨g1, k2, none⟩)) rfl (by kernel_rfl) (fun _ _ _ h => h) (.inl ⟨rfl, fun w' _ => ?_⟩) (fun _ => hS0) ?_
          · simp [execOp, Act.eval, hlt, go_sem]
          simp only [Act.put, List.getElem_toArray, List.getElem_cons_zero, List.getElem_cons_succ, List.setIfInBounds_toArray, List.set_cons_zero, List.set_cons_succ]
          refine G.only' (i := 10) ?r10 rfl ?o10
          case r10 => kernel_rfl
          intro K hK
          refine step_storeU8 (n := ((y.toNat : Int) + 1) % 256) rfl (.tmp 117) (.tmp 116) rfl ?q1 ?q2 hS0.2 x1 ?_
          case q1 => simp [Act.eval]
          case q2 => simp [Act.eval]
          refine hK _ _ (fun e => Bool.noConfusion (show true = false from e)) (G.done (by kernel_rfl) ?_)
          clear hK K
          simp only [Act.put, List.getElem_toArray, List.getElem_cons_zero, List.getElem_cons_succ]
          simp only [Exit.inBlock, Exit.then]
          refine hK15 _ _ ?_
          clear hK15 K15
          go_wp2
          go_roundw
          case rel => exact ⟨k2 + 1, l2.set k2 (y + 1), by go_num, by omega, by unfold Hid; rw [List.length_set]; exact hl2.out, (ow_inc ho2 y).drew, hT.trans (Touch.set (S := fun g => w8.heap.size ≤ g ∧ g < w9.heap.size) wr (p := ⟨g1, k2, none⟩) hgz _).drew⟩
          case measure => simp [intOf]; omega
        · have hTf := hTT.trans hT
          have b5w : Below w5.heap.size w5 wr := b513.trans (hTf.below (fun g hg => by have : w8.heap.size ≤ g := hg.1; omega) b513.size)
          have hBw : Below w.heap.size w wr := hB13.trans (hTf.below (fun g hg => by have : w8.heap.size ≤ g := hg.1; omega) hB13.size)
          have hbow := hbo5.mono b5w
          have hsw := hs5.mono b5w
          have row := ro5.mono b5w
          have rww := rw5.mono b5w
          have rpw := hop.mono hBw
          have rbw := hb.mono hBw
          have rrw := hr.mono hBw
          have rkw : Ow wr w7.heap.size v8 raw := hk13.off hTf (fun g hg h => by have h1 : w8.heap.size ≤ g := h.1; have := (owns_block_lt ho8 hg).2; omega)
          obtain ⟨_, _, _, _, _, _, _, c15⟩ := hbow.pk
          obtain ⟨_, _, _, _, _, _, _, d15⟩ := hsw.pk
          obtain ⟨A8, c8, rfl, _, _⟩ := rkw.rd.form
          have q1 := run_str row
          have q2 := run_str rww
          have q3 := run_str rpw
          have q4 := run_str rbw
          have q5 := run_str rrw
          have q6 := run_str rkw.rd
          clear hT hTf hTT b5w hbow hsw row rww rpw rbw rrw rkw hk13 ho8 hqz ho2
          go_wp2
          go_ret
          exact ⟨rfl, hBw⟩
end Go.Proofs.YtbhdojpgjmbogaaDoor
