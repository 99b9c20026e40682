/- Ip4Options: the walk: it answers true. -/
import Derived.Test.YtbhdojpgjmbogaaDoorIAwake
import Derived.Test.YtbhdojpgjmbogaaDoorLISum
import Derived.Test.YtbhdojpgjmbogaaDoorLITurn
import Derived.Test.YtbhdojpgjmbogaaDoorIPlain3
namespace Go.Proofs.YtbhdojpgjmbogaaDoor
open Go.RowKit Go.Shelf
/-- Options put together are right. -/
theorem opt_join (p : PK) (a b : List UInt8) (ha : ipE p a [] = 0) (hb : ipE p b [] = 0) (h40 : a.length + b.length ≤ 40) (hok : okO (a ++ b) = true) : ipE p (a ++ b) [122] = 0 := by
  obtain ⟨a1, a2, a3, a4, a5⟩ := ipE_ok ha
  obtain ⟨b1, b2, b3, b4, b5⟩ := ipE_ok hb
  have harg : p.argB = true := by
    unfold ipE at ha
    split at ha
    · cases ha
    · rename_i h
      simpa using h
  have hopt : optB9 (a ++ b) = true := by
    unfold optB9
    rw [hok]
    have h1 : decide ((a ++ b).length ≤ 40) = true := by rw [List.length_append]; simpa using h40
    have h2 : ((a ++ b).length % 4 == 0) = true := by rw [List.length_append]; simp; omega
    rw [h1, h2]
    rfl
  unfold ipE
  rw [if_neg (by rw [harg]; decide), if_neg (by rw [hopt]; decide), if_neg (by rw [List.length_append]; simp; omega)]
set_option maxRecDepth 100000 in
set_option maxHeartbeats 40000000 in
theorem law_iopt (p : PK) (a b : List UInt8) (va vb : Value) (w : World) (ha : Rd w va a) (hal : a.length ≤ 140737488351232) (hb : Rd w vb b) (hbl : b.length ≤ 140737488351232) (ht : InI p.tl) :
    Calls Tryd.prog 7 #[p.v, va, vb] w fun e w' => e = .returned (.bool true) ∧ Below w.heap.size w w' := by
  obtain ⟨Aa, ca, rfl, hca1, hca2⟩ := ha.form
  obtain ⟨Ab, cb, rfl, hcb1, hcb2⟩ := hb.form
  go_enter Tryd.func7, Tryd.ntmps7
  go_upto_region 1 with (fail)
  refine boxP (p := p) (motive := fun X => Code.wp Tryd.prog _ _ _ X) ?_
  intro X hBX hX hs
  go_wp2_with fail
  refine (iawake _).mono ?_
  rintro e w1 ⟨rfl, hb1⟩
  have hs1 := hs.mono hb1
  have hB1 := below_step hBX hBX.size hb1
  obtain ⟨_, _, _, _, _, _, _, c15⟩ := hs1.pk
  have f15 := hs1.free 15
  clear hs hBX hb1 hX
  -- p.Options = a
  go_upto_region 3 with (fail)
  have hs2 : Blk (w1.setCell ⟨w.heap.size, 15, none⟩ (.slice Aa a.length ca)) w.heap.size 26 (PK.cells ⟨p.s, p.d, p.pr, p.tl, p.id, p.ts, p.wh, p.mo, p.fo, .slice Aa a.length ca⟩) := hs1.set 15 (.slice Aa a.length ca)
  have hB2 := hB1.setCell (p := ⟨w.heap.size, 15, none⟩) (Nat.le_refl _) (.slice Aa a.length ca)
  clear hs1 hB1 c15 f15
  change Code.wp Tryd.prog _ _ _ (w1.setCell ⟨w.heap.size, 15, none⟩ (.slice Aa a.length ca))
  generalize w1.setCell ⟨w.heap.size, 15, none⟩ (.slice Aa a.length ca) = w2 at *
  have ha2 := ha.mono hB2
  go_wp2_with ((with_reducible refine at_slot 23 ?_); refine wpList_loadB rfl 26 (.tmp 3) rfl hs2 rfl Tryd.underlying26 rfl PK.info ?_)
  refine (ienc ⟨p.s, p.d, p.pr, p.tl, p.id, p.ts, p.wh, p.mo, p.fo, .slice Aa a.length ca⟩ a [] _ w2 ha2 (by omega) (Rd.nil _) (by simp) ht).mono ?_
  rintro e w3 ⟨v3, rfl, ho3, hb3⟩
  have hs3 := hs2.mono hb3
  have hB3 := below_step hB2 hB2.size hb3
  obtain ⟨A3, c3, rfl, _, _⟩ := ho3.rd.form
  obtain ⟨E1, hE1⟩ : ∃ E1, E1 = ipE p a [] := ⟨_, rfl⟩
  have hE1' : ipE ⟨p.s, p.d, p.pr, p.tl, p.id, p.ts, p.wh, p.mo, p.fo, .slice Aa a.length ca⟩ a [] = E1 := hE1.symm
  rw [hE1']
  generalize (ipL ⟨p.s, p.d, p.pr, p.tl, p.id, p.ts, p.wh, p.mo, p.fo, .slice Aa a.length ca⟩ a []).length = n3
  obtain ⟨_, _, _, _, _, _, _, c15⟩ := hs3.pk
  have f15 := hs3.free 15
  have HE1 := Lib.hid hE1
  clear hs2 hB2 ha2 ho3 hb3 hE1 hE1'
  -- p.Options = b
  go_upto_region 5 with (fail)
  have hs4 : Blk (w3.setCell ⟨w.heap.size, 15, none⟩ (.slice Ab b.length cb)) w.heap.size 26 (PK.cells ⟨p.s, p.d, p.pr, p.tl, p.id, p.ts, p.wh, p.mo, p.fo, .slice Ab b.length cb⟩) := hs3.set 15 (.slice Ab b.length cb)
  have hB4 := hB3.setCell (p := ⟨w.heap.size, 15, none⟩) (Nat.le_refl _) (.slice Ab b.length cb)
  clear hs3 hB3 c15 f15
  change Code.wp Tryd.prog _ _ _ (w3.setCell ⟨w.heap.size, 15, none⟩ (.slice Ab b.length cb))
  generalize w3.setCell ⟨w.heap.size, 15, none⟩ (.slice Ab b.length cb) = w4 at *
  have hb4 := hb.mono hB4
  go_wp2_with ((with_reducible refine at_slot 30 ?_); refine wpList_loadB rfl 26 (.tmp 3) rfl hs4 rfl Tryd.underlying26 rfl PK.info ?_)
  refine (ienc ⟨p.s, p.d, p.pr, p.tl, p.id, p.ts, p.wh, p.mo, p.fo, .slice Ab b.length cb⟩ b [] _ w4 hb4 (by omega) (Rd.nil _) (by simp) ht).mono ?_
  rintro e w5 ⟨v5, rfl, ho5, hb5⟩
  have hs5 := hs4.mono hb5
  have hB5 := below_step hB4 hB4.size hb5
  obtain ⟨A5, c5, rfl, _, _⟩ := ho5.rd.form
  obtain ⟨E2, hE2⟩ : ∃ E2, E2 = ipE p b [] := ⟨_, rfl⟩
  have hE2' : ipE ⟨p.s, p.d, p.pr, p.tl, p.id, p.ts, p.wh, p.mo, p.fo, .slice Ab b.length cb⟩ b [] = E2 := hE2.symm
  rw [hE2']
  generalize (ipL ⟨p.s, p.d, p.pr, p.tl, p.id, p.ts, p.wh, p.mo, p.fo, .slice Ab b.length cb⟩ b []).length = n5
  have HE2 := Lib.hid hE2
  clear hs4 hB4 hb4 ho5 hb5 hE2 hE2'
  have ht' := Lib.hid ht
  clear ht
  by_cases h1 : E1 = 0
  rotate_left
  · have q1 : (E1 != 0) = true := by simpa using h1
    clear h1 hs5
    go_wp2
    go_ret
    exact ⟨rfl, hB5⟩
  subst h1
  by_cases h2 : E2 = 0
  rotate_left
  · have q2 : (E2 != 0) = true := by simpa using h2
    clear h2 hs5
    go_wp2
    go_ret
    exact ⟨rfl, hB5⟩
  subst h2
  by_cases h40 : a.length + b.length ≤ 40
  rotate_left
  · have q3 : decide (40 < (a.length : Int) + b.length) = true := by simp; omega
    have q4 : decide ((a.length : Int) + b.length > 40) = true := by simp; omega
    clear h40 hs5
    go_wp2
    go_ret
    exact ⟨rfl, hB5⟩
  have q3 : decide (40 < (a.length : Int) + b.length) = false := by simp; omega
  go_upto_region 8 with (fail)
  have ha5 := ha.mono hB5
  have z05 : w.heap.size < w5.heap.size := hs5.lt
  go_wp2
  go_loopw [12] (fun i wr => ∃ (k : Nat), i = .int .i64 k ∧ k ≤ a.length ∧ Hid (okO (a.drop k) = true ∧ okO (a.drop k ++ b) = okO (a ++ b)) ∧ Below w5.heap.size w5 wr) (fun i _ => a.length - (intOf i).toNat)
  case atStart => exact ⟨0, rfl, Nat.zero_le _, ⟨(ipE_ok HE1.out.symm).2.1, rfl⟩, Below.refl _ _⟩
  case round =>
    obtain ⟨k, rfl, hk, hok, hbr⟩ := hrel
    have har := ha5.mono hbr
    by_cases hlt : k < a.length
    · obtain ⟨b0, o0, rfl, hb0, hcs⟩ := har.at_ k hlt
      have x0 := hcs k hlt
      have hB6 := below_step hB5 hB5.size hbr
      obtain ⟨y, hy⟩ : ∃ y, y = a[k].toNat := ⟨_, rfl⟩
      rw [← hy] at x0
      have y2 : y < 256 := by rw [hy]; exact UInt8.toNat_lt _
      by_cases y0 : y = 0
      · subst y0
        clear hok hcs hy har ha5 hbr hs5
        go_wp2
        go_ret
        exact ⟨rfl, hB6⟩
      · have g0 : ((y : Int) != 0) = true := by simpa using y0
        by_cases y1 : y = 1
        · subst y1
          obtain ⟨e1, e2⟩ := okO_step1 a b k hlt hy.symm
          have hok' : Hid (okO (a.drop (k + 1)) = true ∧ okO (a.drop (k + 1) ++ b) = okO (a ++ b)) := ⟨e1.trans hok.out.1, e2.trans hok.out.2⟩
          clear hok hcs hy har e1 e2 y0
          go_wp2
          go_roundw
          case rel => exact ⟨k + 1, by go_num, by omega, hok', hbr⟩
          case measure => simp [intOf]; omega
        · have g1 : ((y : Int) == 1) = false := by simp; omega
          obtain ⟨h1, h2, h3, e1, e2⟩ := okO_step2 a b k hlt (by omega) hok.out.1
          have x1 := hcs (k + 1) h1
          obtain ⟨z, hz⟩ : ∃ z, z = a[k + 1].toNat := ⟨_, rfl⟩
          rw [← hz] at x1 h2 h3 e1 e2
          have hok' : Hid (okO (a.drop (k + z)) = true ∧ okO (a.drop (k + z) ++ b) = okO (a ++ b)) := ⟨e1, e2.trans hok.out.2⟩
          clear hok hcs hy har e1 e2 y0 y1 hz
          go_wp2
          go_roundw
          case rel => exact ⟨k + z, by go_num, by omega, hok', hbr⟩
          case measure => simp [intOf]; omega
    · obtain rfl : k = a.length := by omega
      have hj : okO (a ++ b) = true := by
        have h := hok.out.2
        rw [List.drop_length, List.nil_append] at h
        rw [← h]
        exact (ipE_ok HE2.out.symm).2.1
      have hE := opt_join p a b HE1.out.symm HE2.out.symm h40 hj
      have hB6 := below_step hB5 hB5.size hbr
      have hsr := hs5.mono hbr
      have hbr' := hb.mono hB6
      have HE := Lib.hid hE
      have z5 := hbr.size
      have ht := ht'.out
      have kc := run_conv_new
      obtain ⟨ab, hab⟩ : ∃ ab, ab = a ++ b := ⟨_, rfl⟩
      have hal2 : ab.length ≤ 40 := by rw [hab, List.length_append]; exact h40
      have HAB := Lib.hid hab
      rw [← hab] at HE
      clear hab hok hlt ha5 hs5 hj hE hk
      obtain ⟨w6, rfl⟩ : ∃ x, x = wr := ⟨_, rfl⟩
      go_wp2_with (first
        | ((with_reducible refine at_slot 84 ?_); refine wpList_app rfl (.const (.slice none 0 0)) (.tmp 83) rfl w6.heap.size (Ow.nil _ _) har rfl rfl (by simp; omega) (Nat.le_refl _) ?_; intro v7 w7 ho7 hb7 hg7; clear hg7; rw [List.nil_append] at ho7)
        | ((with_reducible refine at_slot 86 ?_); refine wpList_app rfl (.tmp 84) (.tmp 85) rfl w6.heap.size ho7 (hbr'.mono hb7) rfl rfl (by omega) hb7.size ?_; intro v8 w8 ho8 hb8 hg8; clear hg8; rw [← HAB.out] at ho8; obtain ⟨_, _, _, _, _, _, _, c15⟩ := (hsr.mono (hb7.trans hb8)).pk; have f15 := (hsr.mono (hb7.trans hb8)).free 15; obtain ⟨A8, c8, rfl, _, _⟩ := ho8.rd.form; have hs8 : Blk (w8.setCell ⟨w.heap.size, 15, none⟩ (.slice A8 ab.length c8)) w.heap.size 26 (PK.cells ⟨p.s, p.d, p.pr, p.tl, p.id, p.ts, p.wh, p.mo, p.fo, .slice A8 ab.length c8⟩) := (hsr.mono (hb7.trans hb8)).set 15 _)
        | ((with_reducible refine at_slot 89 ?_); refine wpList_loadB rfl 26 (.tmp 3) rfl hs8 rfl Tryd.underlying26 rfl PK.info ?_))
      have zs6 : w.heap.size < w6.heap.size := hsr.lt
      have hB9 : Below w.heap.size w (w8.setCell ⟨w.heap.size, 15, none⟩ (.slice A8 ab.length c8)) := (below_step hB6 hB6.size (hb7.trans hb8)).setCell (p := ⟨w.heap.size, 15, none⟩) (Nat.le_refl _) _
      have ho9 : Ow (w8.setCell ⟨w.heap.size, 15, none⟩ (.slice A8 ab.length c8)) w6.heap.size (.slice A8 ab.length c8) ab := ho8.farset ⟨w.heap.size, 15, none⟩ zs6 _
      have hz9 : (w8.setCell ⟨w.heap.size, 15, none⟩ (.slice A8 ab.length c8)).heap.size = w8.heap.size := by simp
      generalize w8.setCell ⟨w.heap.size, 15, none⟩ (.slice A8 ab.length c8) = w9 at *
      clear hsr hbr' hbr hB6 hb7 hb8 ho7 ho8 c15 f15 kc har hB5 z5
      have hbA := below_alloc w9 (.cells #[.int .u8 122] 5 (1, 2))
      have hBA : Below w.heap.size w (w9.alloc (.cells #[.int .u8 122] 5 (1, 2))) := below_step hB9 hB9.size hbA
      have hsA := hs8.alloc (.cells #[.int .u8 122] 5 (1, 2))
      refine (ienc ⟨p.s, p.d, p.pr, p.tl, p.id, p.ts, p.wh, p.mo, p.fo, .slice A8 ab.length c8⟩ ab [122] _ (w9.alloc (.cells #[.int .u8 122] 5 (1, 2))) (ho9.rd.mono hbA) (by omega) (rd_atf w9 _ [122] (1, 2) 1 _ rfl rfl (by omega) hz9) (by decide) ht).mono ?_
      rintro e w10 ⟨v10, rfl, ho10, hb10⟩
      have hEq : ipE ⟨p.s, p.d, p.pr, p.tl, p.id, p.ts, p.wh, p.mo, p.fo, .slice A8 ab.length c8⟩ ab [122] = 0 := HE.out
      have hK := dec9_back ⟨p.s, p.d, p.pr, p.tl, p.id, p.ts, p.wh, p.mo, p.fo, .slice A8 ab.length c8⟩ ab [122] [] hEq
      rw [List.append_nil] at hK
      rw [hEq]
      have hLl := ipL_len hEq
      obtain ⟨L, hL⟩ : ∃ L, L = ipL ⟨p.s, p.d, p.pr, p.tl, p.id, p.ts, p.wh, p.mo, p.fo, .slice A8 ab.length c8⟩ ab [122] := ⟨_, rfl⟩
      rw [← hL] at ho10 hK hLl
      have hs10 := hsA.mono hb10
      have hB10 := below_step hBA hBA.size hb10
      have hr10 := (ho9.rd.mono hbA).mono hb10
      have hLb : L.length ≤ 140737488355000 := by rw [hLl]; simp; omega
      have HK := Lib.hid hK
      clear hL hLl hK hEq hsA hbA hBA hs8 hB9 hb10 ho9 hz9
      go_wp2_with fail
      refine (idec L _ _ ho10.rd (by omega)).mono ?_
      rintro e w11 (⟨hne, _⟩ | ⟨_, vo, vc, B, rfl, hB0, hvo, hvB, hvc, hb11⟩)
      · exact absurd HK.out.1 hne
      obtain ⟨_, k1, k2, k3⟩ := HK.out
      rw [k1] at hvo
      rw [k2] at hvc
      rw [k3]
      have hs11 := hs10.mono hb11
      have hr11 := hr10.mono hb11
      have hB11 := below_step hB10 hB10.size hb11
      have hvo' := hvo.rd
      have hvc' := hvc.rd
      obtain ⟨Aq, cq, rfl, _, _⟩ := hvo'.form
      obtain ⟨Ac, cc, rfl, _, _⟩ := hvc'.form
      clear hs10 hr10 hB10 hb11 hvo hvc hvB hB0 k1 k2 k3 HK ho10 hLb
      go_upto_region 18 with (fail)
      refine boxP (p := ⟨p.s, p.d, p.pr, p.tl, p.id, p.ts, p.wh, p.mo, p.fo, .slice Aq ab.length cq⟩) (motive := fun X => Code.wp Tryd.prog _ _ _ X) ?_
      intro Y hBY hY hsY
      have hs12 := hs11.mono hBY
      have hr12 := hr11.mono hBY
      have hB12 := below_step hB11 hB11.size hBY
      have hvo12 := hvo'.mono hBY
      have hvc12 := hvc'.mono hBY
      go_wp2_with (first | ((with_reducible refine at_slot 101 ?_); refine wpList_loadB rfl 26 (.tmp 3) rfl hs12 rfl Tryd.underlying26 rfl PK.info ?_) | ((with_reducible refine at_slot 102 ?_); refine wpList_loadB rfl 26 (.tmp 15) rfl hsY rfl Tryd.underlying26 rfl PK.info ?_))
      refine (rsame9 ⟨p.s, p.d, p.pr, p.tl, p.id, p.ts, p.wh, p.mo, p.fo, .slice A8 ab.length c8⟩ (.slice Aq ab.length cq) ab Y hr12 hvo12).mono ?_
      rintro e w13 ⟨rfl, hb13⟩
      have hB13 := below_step hB12 hB12.size hb13
      have kc := run_str (hvc12.mono hb13)
      have hbs : bstr [122] = ⟨#[122]⟩ := rfl
      rw [hbs] at kc
      simp only [List.length_cons, List.length_nil, Nat.zero_add] at kc
      clear hs11 hr11 hs12 hr12 hsY hvo' hvc' hvo12 hvc12 hB11 hB12 hBY hb13 hbs
      go_wp2
      go_ret
      exact ⟨rfl, hB13⟩
end Go.Proofs.YtbhdojpgjmbogaaDoor
