/- Ip4Back: the walk: it answers true. -/
import Derived.Test.YtbhdojpgjmbogaaDoorLISum
import Derived.Test.YtbhdojpgjmbogaaDoorLITurn
import Derived.Test.YtbhdojpgjmbogaaDoorIPlain4
import Derived.Test.YtbhdojpgjmbogaaDoorAppWide
namespace Go.Proofs.YtbhdojpgjmbogaaDoor
open Go.RowKit Go.Shelf
theorem dPK_lit2 (L : List UInt8) (vo : Value) : ∃ s d a1 a2 a3 a4 a5 a6 a7, dPK L vo = ⟨s, d, a1, a2, a3, a4, a5, a6, a7, vo⟩ ∧ InI a2 :=
  ⟨_, _, _, _, _, _, _, _, _, rfl, by have := UInt8.toNat_lt (L.getD 8 0); unfold InI; omega⟩
set_option maxRecDepth 100000 in
set_option maxHeartbeats 8000000 in
theorem law_iback (p : PK) (o b t raw : List UInt8) (vb vt vr : Value) (w : World) (hop : Rd w p.op o) (hol : o.length ≤ 140737488351232) (hb : Rd w vb b) (hbl : b.length ≤ 140737488351232) (htt : Rd w vt t) (htl : t.length ≤ 140737488351232)
    (hr : Rd w vr raw) (hrl : raw.length ≤ 140737488351232) (ht : InI p.tl) :
    Calls Tryd.prog 4 #[p.v, vb, vt, vr] w fun e w' => e = .returned (.bool true) ∧ Below w.heap.size w w' := by
  obtain ⟨Ao, co, eo, _, _⟩ := hop.form
  obtain ⟨Ab, cb, rfl, _, _⟩ := hb.form
  obtain ⟨At, ct, rfl, _, _⟩ := htt.form
  obtain ⟨Ar, cr, rfl, hr1, hr2⟩ := hr.form
  have EO := Lib.hid eo
  clear eo
  go_enter Tryd.func4, Tryd.ntmps4
  go_upto_region 1 with (fail)
  refine boxP (p := p) (motive := fun X => Code.wp Tryd.prog _ _ _ X) ?_
  intro X hBX hX hs
  go_wp2_with fail
  refine (iawake _).mono ?_
  rintro e w1 ⟨rfl, hb1⟩
  have hs1 := hs.mono hb1
  have hB1 := below_step hBX hBX.size hb1
  have hop1 := hop.mono hB1
  have hbb1 := hb.mono hB1
  clear hs hBX hb1
  go_wp2_with ((with_reducible refine at_slot 24 ?_); refine wpList_loadB rfl 26 (.tmp 4) rfl hs1 rfl Tryd.underlying26 rfl PK.info ?_)
  refine (ienc p o b _ w1 hop1 (by omega) hbb1 (by omega) ht).mono ?_
  rintro e w2 ⟨v2, rfl, ho2, hb2⟩
  have hB2 := below_step hB1 hB1.size hb2
  have hs2 := hs1.mono hb2
  obtain ⟨A2, c2, rfl, _, _⟩ := ho2.rd.form
  obtain ⟨n, hN⟩ : ∃ n, n = (ipL p o b).length := ⟨_, rfl⟩
  rw [← hN] at ho2 ⊢
  have hn : n ≤ 140737488355326 := by
    by_cases hE : ipE p o b = 0
    · have := ipL_len hE
      have := (ipE_ok hE).2.2.2.2
      omega
    · rw [hN, ipL_nil hE]; simp
  have z12 := hb2.size
  clear hs1 hop1 hbb1 hB1 hb2
  have HN := Lib.hid hN
  clear hN
  obtain ⟨E, hEe⟩ : ∃ E, E = ipE p o b := ⟨_, rfl⟩
  rw [← hEe]
  have HE := Lib.hid hEe
  clear hEe
  go_upto_if 30 with (fail)
  obtain ⟨c0, hc0⟩ : ∃ c0, c0 = (E == 0) := ⟨_, rfl⟩
  rw [← hc0]
  have HC := Lib.hid hc0
  clear hc0
  go_cut [12, 13, 14, 15] from 31 to 55 (fun _ _ _ _ wx => Below w2.heap.size w2 wx)
  case first =>
    by_cases hE : ipE p o b = 0
    · have hK := dec9_back p o b t hE
      obtain rfl : c0 = true := by rw [HC.out, HE.out, hE]; rfl
      have hn2 := ipL_len hE
      rw [← HN.out] at hn2
      have hsz := (ipE_ok hE).2.2.2.2
      have htt2 := htt.mono hB2
      have hz0 : n + t.length ≤ 140737488416767 := by omega
      obtain ⟨L, hL⟩ : ∃ L, L = ipL p o b := ⟨_, rfl⟩
      rw [← hL] at ho2 hK HN
      have hz1 : n ≤ 65535 := by omega
      clear hL hE hn2 hsz
      have hrl2 := ho2.rd
      go_wp2_with (first
        | ((with_reducible refine at_slot 33 ?_); refine wpList_app rfl (.const (.slice none 0 0)) (.tmp 32) rfl w2.heap.size (Ow.nil _ _) hrl2 rfl rfl (by rw [← HN.out]; simp; omega) (Nat.le_refl _) ?_; intro v3 w3 ho3 hb3 hg3; clear hg3; rw [List.nil_append] at ho3)
        | ((with_reducible refine at_slot 35 ?_); refine wpList_appW rfl (.tmp 33) (.tmp 34) rfl w2.heap.size ho3 (htt2.mono hb3) rfl rfl (by rw [← HN.out]; omega) hb3.size ?_; intro v4 w4 ho4 hb4))
      refine (idec (L ++ t) _ _ ho4.rd (by rw [List.length_append, ← HN.out]; omega)).mono ?_
      rintro e w5 (⟨hne, _⟩ | ⟨_, vo, vc, B, rfl, hB0, hvo, hvB, hvc, hb5⟩)
      · exact absurd hK.1 hne
      obtain ⟨_, k1, k2, k3⟩ := hK
      rw [k1] at hvo
      rw [k2] at hvc
      rw [k3]
      have hbA : Below w2.heap.size w2 w4 := hb3.trans hb4
      have hbC : Below w2.heap.size w2 w5 := hbA.trans (hb5.mono hbA.size)
      have hs5 := hs2.mono hbC
      have hop5 := (hop.mono hB2).mono hbC
      have hb5' := (hb.mono hB2).mono hbC
      have hvo' := hvo.rd
      have hvc' := hvc.rd
      obtain ⟨Aq, cq, rfl, _, _⟩ := hvo'.form
      obtain ⟨Ac, cc, rfl, _, _⟩ := hvc'.form
      clear ho3 ho4 hb3 hb4 hbA hb5 hvo hvc hvB hB0 k1 k2 k3 htt2 hrl2 ho2
      go_upto_region 5 with (fail)
      refine boxP (p := PK.mk p.s p.d p.pr p.tl p.id p.ts p.wh p.mo p.fo (.slice Aq o.length cq)) (motive := fun X => Code.wp Tryd.prog _ _ _ X) ?_
      intro Y hBY hY hsY
      have hs6 := hs5.mono hBY
      have hbD := hbC.trans (hBY.mono hbC.size)
      have hop6 := hop5.mono hBY
      have hvo6 := hvo'.mono hBY
      have kc := run_str (hvc'.mono hBY)
      go_wp2_with (first | ((with_reducible refine at_slot 40 ?_); refine wpList_loadB rfl 26 (.tmp 4) rfl hs6 rfl Tryd.underlying26 rfl PK.info ?_) | ((with_reducible refine at_slot 41 ?_); refine wpList_loadB rfl 26 (.tmp 12) rfl hsY rfl Tryd.underlying26 rfl PK.info ?_))
      refine (rsame9 p (.slice Aq o.length cq) o Y hop6 hvo6).mono ?_
      rintro e w7 ⟨rfl, hb7⟩
      have hbE := hbD.trans (hb7.mono hbD.size)
      have kc := run_str ((hvc'.mono hBY).mono hb7)
      have kb := run_str ((hb5'.mono hBY).mono hb7)
      clear hs5 hs6 hop5 hop6 hvo' hvo6 hvc' hb5' hsY hBY hb7 hbC hbD
      go_wp2
      go_meet
      exact hbE
    · obtain rfl : c0 = false := by rw [HC.out, HE.out]; simpa using hE
      have hbz := Below.refl w2.heap.size w2
      clear hE
      go_wp2
      go_meet
      exact hbz
  case rest =>
    obtain ⟨w3, rfl⟩ : ∃ x, x = wc := ⟨_, rfl⟩
    have hB3 := below_step hB2 hB2.size hcut
    have hr3 := hr.mono hB3
    clear hs2 ho2 hB2 hcut HN hn z12 HC HE hX EO ht hop hb htt
    go_wp2_with fail
    refine (idec raw _ _ hr3 (by omega)).mono ?_
    rintro e w4 (⟨hne, rfl, hb4⟩ | ⟨h0, vo, vc, B', rfl, hB0, hvo, hvB, hvc, hb4⟩)
    · have hB4 := below_step hB3 hB3.size hb4
      have hf : (ipC raw != 0) = true := by simpa using hne
      clear hne hr3 hB3 hb4
      rw [zeroPk]
      go_upto_region 9 with (fail)
      refine boxP (p := ⟨⟨0, 0, 0, 0⟩, ⟨0, 0, 0, 0⟩, 0, 0, 0, 0, false, false, 0, .slice none 0 0⟩) (motive := fun X => Code.wp Tryd.prog _ _ _ X) ?_
      intro Y hBY hY hsY
      have hB5 := below_step hB4 hB4.size hBY
      clear hsY hBY hB4
      go_wp2
      go_ret
      exact ⟨rfl, hB5⟩
    · have hB4 := below_step hB3 hB3.size hb4
      have hvo4 := hvo.rd
      have hvc4 := hvc.rd
      obtain ⟨Aq, cq, rfl, _, _⟩ := hvo4.form
      obtain ⟨Ac, cc, rfl, _, _⟩ := hvc4.form
      obtain ⟨L, hL, hE2, h20, hLr, hz1, hz2⟩ := back9 raw (.slice Aq (iopL raw).length cq) h0
      obtain ⟨s', d', a1, a2, a3, a4, a5, a6, a7, hq, hI⟩ := dPK_lit2 raw (.slice Aq (iopL raw).length cq)
      have hol' : (iopL raw).length ≤ 140737488351232 := by rw [iopL, List.length_drop, List.length_take]; omega
      have hpl' : (iplL raw).length ≤ 140737488351232 := by rw [iplL, List.length_drop, List.length_take]; omega
      rw [hq] at hL hE2 ⊢
      have HZ1 := Lib.hid hz1
      have HZ2 := Lib.hid hz2
      have HL := Lib.hid hL
      have HE2 := Lib.hid hE2
      clear h0 hq hL hE2 hz1 hz2 hr3 hB3 hb4 hvo hvc hvB hB0
      obtain ⟨O, hO⟩ : ∃ O, O = iopL raw := ⟨_, rfl⟩
      obtain ⟨C, hC⟩ : ∃ C, C = iplL raw := ⟨_, rfl⟩
      rw [← hO] at hvo4 hol' HL HE2 ⊢
      rw [← hC] at hvc4 hpl' HL HE2 ⊢
      clear hO hC
      go_upto_region 9 with (fail)
      refine boxP (p := ⟨s', d', a1, a2, a3, a4, a5, a6, a7, .slice Aq O.length cq⟩) (motive := fun X => Code.wp Tryd.prog _ _ _ X) ?_
      intro Y hBY hY hsY
      have hB5 := below_step hB4 hB4.size hBY
      have hvo5 := hvo4.mono hBY
      have hvc5 := hvc4.mono hBY
      clear hvo4 hvc4 hB4 hBY
      go_wp2_with ((with_reducible refine at_slot 66 ?_); refine wpList_loadB rfl 26 (.tmp 16) rfl hsY rfl Tryd.underlying26 rfl PK.info ?_)
      refine (ienc ⟨s', d', a1, a2, a3, a4, a5, a6, a7, .slice Aq O.length cq⟩ O C _ Y hvo5 (by omega) hvc5 (by omega) hI).mono ?_
      rintro e w6 ⟨v6, rfl, ho6, hb6⟩
      rw [← HL.out] at ho6
      rw [HE2.out]
      have hB6 := below_step hB5 hB5.size hb6
      have hr6 := hr.mono hB6
      obtain ⟨g6, c6, rfl, hg1, hg2, hg3, hg4⟩ := ow_form ho6 (by omega)
      obtain ⟨n2, hn2⟩ : ∃ n2, n2 = L.length := ⟨_, rfl⟩
      have hq1 : decide ((raw.length : Int) < (n2 : Int)) = false := by simp; omega
      rw [← hn2] at ho6 hg3 ⊢
      rw [← hn2] at h20 hLr HZ1 HZ2
      have HN2 := Lib.hid hn2
      clear hn2 hsY hvo5 hvc5 hB5 hb6 HL HE2
      go_upto_region 15 with (first
        | ((with_reducible refine at_slot 83 ?_); refine wpList_slice rfl (.tmp 80) none (some (.tmp 82)) rfl _ raw rfl hr6 0 (n2 : Int) .no (.yes rfl rfl) (by omega) (by omega) (by omega) ?_; intro m A83 c83 HM m1 m2 m3 m4 hrm)
        | ((with_reducible refine at_slot 84 ?_); refine wpList_app rfl (.const (.slice none 0 0)) (.tmp 83) rfl w6.heap.size (Ow.nil _ _) hrm rfl rfl (by simp; omega) (Nat.le_refl _) ?_; intro v8 w8 ho8 hb8 hg8; clear hg8; rw [List.nil_append] at ho8))
      have hB8 := below_step hB6 hB6.size hb8
      have hM : m = raw.take n2 := by have := HM.out; simpa using this
      have hml : m.length = n2 := by rw [hM, List.length_take]; omega
      have z6 := hB6.size
      have ho6' := ho6.mono hb8
      obtain ⟨gz, cz, rfl, hz1, hz2, hz3, hz4⟩ := ow_form ho8 (by omega)
      obtain ⟨k10, f10⟩ := ow_cells ho8 10 (by omega)
      obtain ⟨k11, f11⟩ := ow_cells ho8 11 (by omega)
      have e10 : m[10]'(by omega) = raw.getD 10 0 := by
        rw [getD_at raw 10 (by omega)]
        simp only [hM, List.getElem_take]
      have e11 : m[11]'(by omega) = raw.getD 11 0 := by
        rw [getD_at raw 11 (by omega)]
        simp only [hM, List.getElem_take]
      rw [e10] at k10
      rw [e11] at k11
      rw [hml] at ho8 hz3 ⊢
      have HMM := Lib.hid hM
      have HML := Lib.hid hml
      have ho9 := ho6.mono hb8
      clear hM hml HM m1 m2 m3 m4 hrm hr6 hB6 hb8 e10 e11 ho6 ho6'
      have i10 : (10 : Int) < n2 := by omega
      have i11 : (11 : Int) < n2 := by omega
      have ry := ho9.rd
      have z8 := hB8.size
      have zg : w.heap.size ≤ gz := by omega
      obtain ⟨x, hx⟩ : ∃ x : Nat, x = (raw.getD 10 0).toNat := ⟨_, rfl⟩
      obtain ⟨y, hy⟩ : ∃ y : Nat, y = (raw.getD 11 0).toNat := ⟨_, rfl⟩
      rw [← hx] at k10 HZ1 HZ2
      rw [← hy] at k11 HZ1 HZ2
      clear hx hy
      by_cases hb : x = 255 ∧ y = 255
      · obtain ⟨rfl, rfl⟩ := hb
        have hLz := HZ1.out ⟨rfl, rfl⟩
        go_upto_region 17 with (fail)
        have hoA : Ow (w8.setCell ⟨gz, 10, none⟩ (.int .u8 0)) _ _ _ := ow_set (k := 10) ho8 0
        have hBA : Below w.heap.size w (w8.setCell ⟨gz, 10, none⟩ (.int .u8 0)) := hB8.setCell (p := ⟨gz, 10, none⟩) zg _
        have hryA : Ow (w8.setCell ⟨gz, 10, none⟩ (.int .u8 0)) _ _ _ := ho9.off (Touch.set (S := fun k => k = gz) w8 (p := ⟨gz, 10, none⟩) rfl (.int .u8 0)) (fun g hg h => by
          have := hg
          simp only [Value.ownBlock, Option.some.injEq] at this
          omega)
        clear ho8 hB8 ho9 ry k10 k11 f10 f11 z8
        change Code.wp Tryd.prog _ _ _ (w8.setCell ⟨gz, 10, none⟩ (.int .u8 0))
        generalize w8.setCell ⟨gz, 10, none⟩ (.int .u8 0) = wA at *
        obtain ⟨k11, f11⟩ := ow_cells hoA 11 (by rw [List.length_set, HML.out]; omega)
        go_upto_region 18 with (fail)
        have hoB : Ow (wA.setCell ⟨gz, 11, none⟩ (.int .u8 0)) _ _ _ := ow_set (k := 11) hoA 0
        have hBB : Below w.heap.size w (wA.setCell ⟨gz, 11, none⟩ (.int .u8 0)) := hBA.setCell (p := ⟨gz, 11, none⟩) zg _
        have hryB : Ow (wA.setCell ⟨gz, 11, none⟩ (.int .u8 0)) _ _ _ := hryA.off (Touch.set (S := fun k => k = gz) wA (p := ⟨gz, 11, none⟩) rfl (.int .u8 0)) (fun g hg h => by
          have := hg
          simp only [Value.ownBlock, Option.some.injEq] at this
          omega)
        change Code.wp Tryd.prog _ _ _ (wA.setCell ⟨gz, 11, none⟩ (.int .u8 0))
        generalize wA.setCell ⟨gz, 11, none⟩ (.int .u8 0) = wB at *
        rw [HMM.out, hLz] at hoB
        have kz := run_str hoB.rd
        have ky := run_str hryB.rd
        clear hoA hoB hryA hryB hBA k11 f11
        go_wp2
        go_ret
        exact ⟨rfl, hBB⟩
      · have hLz := HZ2.out hb
        have rz := ho8.rd
        rw [HMM.out, hLz] at rz
        have kz := run_str rz
        have ky := run_str ry
        clear ho8 ho9 ry rz z8 hLz
        by_cases hx : x = 255
        · subst hx
          have q11 : ((y : Int) == 255) = false := by
            simp only [beq_eq_false_iff_ne, ne_eq]
            intro h
            exact hb ⟨rfl, by omega⟩
          clear hb
          go_wp2
          go_ret
          exact ⟨rfl, hB8⟩
        · have q10 : ((x : Int) == 255) = false := by
            simp only [beq_eq_false_iff_ne, ne_eq]
            omega
          clear hb hx
          go_wp2
          go_ret
          exact ⟨rfl, hB8⟩
end Go.Proofs.YtbhdojpgjmbogaaDoor
