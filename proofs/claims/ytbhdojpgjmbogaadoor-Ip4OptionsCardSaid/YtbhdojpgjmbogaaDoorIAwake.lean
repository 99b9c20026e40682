/- The chapter's example (packhorselaw09.awake): true in whatever memory; ip4.Fits. -/
import Derived.Test.YtbhdojpgjmbogaaDoorISame
import Derived.Test.YtbhdojpgjmbogaaDoorIDec
namespace Go.Proofs.YtbhdojpgjmbogaaDoor
open Go.RowKit Go.Shelf
/-- May an address be a host's? -/
def fitsB (i : IP) : Bool := decide (1 ≤ i.a.toNat) && decide (i.a.toNat ≤ 223) && (i.a.toNat != 127)
set_option maxHeartbeats 1000000 in
theorem ifits (i : IP) (b : Bool) (hb : fitsB i = b) (w : World) : Calls Tryd.prog 18 #[i.v] w fun e w' => e = .returned (.bool b) ∧ Below w.heap.size w w' := by
  subst hb
  obtain ⟨a, b, c, d⟩ := i
  have hx := UInt8.toNat_lt a
  have hbd := below_alloc w (.cells #[.int .u8 a.toNat, .int .u8 b.toNat, .int .u8 c.toNat, .int .u8 d.toNat] 23)
  by_cases h1 : 1 ≤ a.toNat
  · have g1 : decide (1 ≤ (a.toNat : Int)) = true := by simp; omega
    by_cases h2 : a.toNat ≤ 223
    · have g2 : decide ((a.toNat : Int) ≤ 223) = true := by simp; omega
      by_cases h3 : a.toNat = 127
      · have g3 : ((a.toNat : Int) != 127) = false := by simp; omega
        have HF := Lib.hid (show fitsB ⟨a, b, c, d⟩ = false by simp [fitsB, h3])
        clear h1 h2 h3
        go_enter Tryd.func18, Tryd.ntmps18
        go_wp2
        go_ret
        exact ⟨ret_bool (a := false) HF.out.symm, hbd⟩
      · have g3 : ((a.toNat : Int) != 127) = true := by simp; omega
        have HF := Lib.hid (show fitsB ⟨a, b, c, d⟩ = true by simp [fitsB, h1, h2, h3])
        clear h1 h2 h3
        go_enter Tryd.func18, Tryd.ntmps18
        go_wp2
        go_ret
        exact ⟨ret_bool (a := true) HF.out.symm, hbd⟩
    · have g2 : decide ((a.toNat : Int) ≤ 223) = false := by simp; omega
      have HF := Lib.hid (show fitsB ⟨a, b, c, d⟩ = false by simp [fitsB, h2])
      clear h1 h2
      go_enter Tryd.func18, Tryd.ntmps18
      go_wp2
      go_ret
      exact ⟨ret_bool (a := false) HF.out.symm, hbd⟩
  · have g1 : decide (1 ≤ (a.toNat : Int)) = false := by simp; omega
    have HF := Lib.hid (show fitsB ⟨a, b, c, d⟩ = false by simp [fitsB, h1])
    clear h1
    go_enter Tryd.func18, Tryd.ntmps18
    go_wp2
    go_ret
    exact ⟨ret_bool (a := false) HF.out.symm, hbd⟩
def exP : PK := ⟨⟨10, 0, 0, 1⟩, ⟨10, 0, 0, 2⟩, 17, 64, 0, 0, false, false, 0, noS⟩
def exL9 : List UInt8 := [69, 0, 0, 21, 0, 0, 0, 0, 64, 17, 102, 214, 10, 0, 0, 1, 10, 0, 0, 2, 97]
theorem exS9 : ihS exP [] 21 = 26326 := by
  unfold ihS
  have e : ihL exP [] 21 0 = [69, 0, 0, 21, 0, 0, 0, 0, 64, 17, 0, 0, 10, 0, 0, 1, 10, 0, 0, 2] := by decide
  rw [e]
  simp [sumw, fold_small]
theorem exE9 : ipE exP [] [97] = 0 := by
  have h1 : exP.argB = true := by decide
  have h2 : optB9 [] = true := by simp [optB9, okO_nil]
  simp [ipE, h1, h2]
theorem exL9_eq : ipL exP [] [97] = exL9 := by
  unfold ipL
  rw [if_pos exE9]
  show ihL exP [] 21 (ihS exP [] 21) ++ [97] = _
  rw [exS9]
  decide
theorem exC9 : ipC exL9 = 0 := by
  have h1 : ihd exL9 = 20 := by decide
  have h2 : b16 exL9 2 = 21 := by decide
  have h3 : sumw (exL9.take 20) 0 = 65535 := by
    show sumw [69, 0, 0, 21, 0, 0, 0, 0, 64, 17, 102, 214, 10, 0, 0, 1, 10, 0, 0, 2] 0 = 65535
    simp [sumw, fold_small]
  have h4 : okO ((exL9.take 20).drop 20) = true := okO_nil
  have h5 : b16 exL9 6 = 0 := by decide
  unfold ipC
  rw [h1, h2, h3, h4, h5]
  decide
theorem exD9 (vo : Value) : dPK exL9 vo = { exP with op := vo } := by
  have h2 : b16 exL9 6 = 0 := by decide
  have h3 : b16 exL9 4 = 0 := by decide
  unfold dPK
  rw [h2, h3]
  rfl
theorem zeroPk : PK.zero.v = PK.v ⟨⟨0, 0, 0, 0⟩, ⟨0, 0, 0, 0⟩, 0, 0, 0, 0, false, false, 0, .slice none 0 0⟩ := rfl
theorem exO9 : iopL exL9 = [] := by decide
theorem exPl9 : iplL exL9 = [97] := by decide
theorem exT9 : ipC (exL9.set 8 63) = 5 := by
  have e : exL9.set 8 63 = [69, 0, 0, 21, 0, 0, 0, 0, 63, 17, 102, 214, 10, 0, 0, 1, 10, 0, 0, 2, 97] := by decide
  rw [e]
  have h1 : ihd [69, 0, 0, 21, 0, 0, 0, 0, 63, 17, 102, 214, 10, 0, 0, 1, 10, 0, 0, 2, 97] = 20 := by decide
  have h2 : b16 [69, 0, 0, 21, 0, 0, 0, 0, 63, 17, 102, 214, 10, 0, 0, 1, 10, 0, 0, 2, 97] 2 = 21 := by decide
  have h3 : sumw (List.take 20 [69, 0, 0, 21, 0, 0, 0, 0, 63, 17, 102, 214, 10, 0, 0, 1, 10, 0, 0, 2, 97]) 0 = 65279 := by
    show sumw [69, 0, 0, 21, 0, 0, 0, 0, 63, 17, 102, 214, 10, 0, 0, 1, 10, 0, 0, 2] 0 = 65279
    simp [sumw, fold_small]
  unfold ipC
  rw [h1, h2, h3]
  decide
set_option maxRecDepth 100000 in
set_option maxHeartbeats 8000000 in
theorem iawake (w : World) : Calls Tryd.prog 9 #[] w fun e w' => e = .returned (.bool true) ∧ Below w.heap.size w w' := by
  have kc := run_conv_new
  go_enter Tryd.func9, Tryd.ntmps9
  go_upto_region 2 with (fail)
  refine boxP (p := exP) (motive := fun X => Code.wp Tryd.prog _ _ _ X) ?_
  intro X hB hX hs
  go_wp2_with ((with_reducible refine at_slot 15 ?_); refine wpList_loadB rfl 26 (.tmp 1) rfl hs rfl Tryd.underlying26 rfl PK.info ?_)
  clear kc
  refine (ienc exP [] [97] _ (X.alloc (.cells #[.int .u8 97] 5 (1, 2))) (Rd.nil _) (by decide) (rd_atf X _ [97] (1, 2) 1 _ rfl rfl (by omega) rfl) (by decide) (by unfold InI; decide)).mono ?_
  rintro e w1 ⟨v1, rfl, ho1, hb1⟩
  rw [exL9_eq] at ho1
  rw [exE9]
  have hBX : Below w.heap.size w (X.alloc (.cells #[.int .u8 97] 5 (1, 2))) := hB.alloc (by omega) _
  have hB1 := below_step hBX hBX.size hb1
  have hs1 := (hs.alloc (.cells #[.int .u8 97] 5 (1, 2))).mono hb1
  have hrx := ho1.rd
  obtain ⟨g, cap, rfl, hg1, hg2, hg3, hg4⟩ := ow_form ho1 (by decide)
  obtain ⟨b6, o6, e6, _, hc⟩ := hrx.at_ 0 (by decide)
  obtain ⟨rfl, rfl⟩ : g = b6 ∧ 0 = o6 := by
    injection e6 with e6
    injection e6 with e6 e7
    exact ⟨e6, e7⟩
  have c10 := hc 10 (by decide)
  have c11 := hc 11 (by decide)
  have hN : exL9.length = 21 := rfl
  rw [hN] at hrx ho1 ⊢
  have e10 : exL9[10]'(by decide) = 102 := rfl
  have e11 : exL9[11]'(by decide) = 214 := rfl
  simp only [Nat.zero_add, e10, e11, UInt8.reduceToNat, Int.cast_ofNat_Int] at c10 c11
  clear hc e6 hs hb1
  go_wp2_with fail
  refine (idec exL9 _ _ (by simpa [hN] using hrx) (by decide)).mono ?_
  rintro e w2 (⟨hne, _, _⟩ | ⟨_, vo, vc, B, rfl, hB0, hvo, hvB, hvc, hb2⟩)
  · exact absurd exC9 hne
  rw [exO9] at hvo
  rw [exPl9] at hvc
  rw [exD9]
  have hB2 := below_step hB1 hB1.size hb2
  have hs2 := hs1.mono hb2
  have ho2 := ho1.mono hb2
  obtain ⟨Ao, co, rfl, _, _⟩ := hvo.rd.form
  obtain ⟨Ac, cc, rfl, _, _⟩ := hvc.rd.form
  have hvo' := hvo.rd
  have hvc' := hvc.rd
  simp only [List.length_nil, List.length_cons, Nat.zero_add] at hvo hvc hvo' hvc' hvB ⊢
  go_upto_region 6 with (fail)
  refine boxP (p := { exP with op := .slice Ao 0 co }) (motive := fun X => Code.wp Tryd.prog _ _ _ X) ?_
  intro Y hBY hY hsY
  have hs3 := hs2.mono hBY
  have ho3 := ho2.mono hBY
  have hv3 := hvo'.mono hBY
  have hc3 := hvc'.mono hBY
  have hB3 := below_step hB2 hB2.size hBY
  go_wp2_with (first | ((with_reducible refine at_slot 46 ?_); refine wpList_loadB rfl 26 (.tmp 1) rfl hs3 rfl Tryd.underlying26 rfl PK.info ?_) | ((with_reducible refine at_slot 47 ?_); refine wpList_loadB rfl 26 (.tmp 4) rfl hsY rfl Tryd.underlying26 rfl PK.info ?_))
  refine (rsame9 exP (.slice Ao 0 co) [] Y (Rd.nil _) hv3).mono ?_
  rintro e w4 ⟨rfl, hb4⟩
  have hB4 := below_step hB3 hB3.size hb4
  have hs4 := hs3.mono hb4
  have ho4 := ho3.mono hb4
  have hc4 := (hvc.mono hBY).mono hb4
  have hgX : X.heap.size + 1 ≤ g := by simpa using hg1
  obtain ⟨c8, f8⟩ := ow_cells ho4 8 (by decide)
  clear hs1 hs2 hs3 hsY hvo hvo' hvc hvc' ho1 ho2 ho3 hv3 hc3 hb2 hBY hb4 hB1 hB2 hB3 hBX hrx c10 c11
  go_wp2_with fail
  have ho5 : Ow (w4.setCell ⟨g, 8, none⟩ (.int .u8 63)) _ _ _ := ow_set (k := 8) ho4 63
  have hs5 : Blk (w4.setCell ⟨g, 8, none⟩ (.int .u8 63)) w.heap.size 26 exP.cells := hs4.far (by show w.heap.size ≠ g; omega) _
  have hc5 : Ow (w4.setCell ⟨g, 8, none⟩ (.int .u8 63)) _ _ _ := hc4.farset ⟨g, 8, none⟩ (by show g < B; omega) (.int .u8 63)
  have hB5 : Below w.heap.size w (w4.setCell ⟨g, 8, none⟩ (.int .u8 63)) := hB4.setCell (p := ⟨g, 8, none⟩) (by show w.heap.size ≤ g; omega) _
  clear hs4 hc4 hB4 c8 f8
  generalize w4.setCell ⟨g, 8, none⟩ (.int .u8 63) = w5 at *
  have hr5 := ho5.rd
  refine (idec (exL9.set 8 63) _ _ hr5 (by decide)).mono ?_
  rintro e w6 (⟨_, rfl, hb6⟩ | ⟨h0, _⟩)
  rotate_left
  · exact absurd (exT9.symm.trans h0) (by decide)
  rw [exT9, zeroPk]
  have hs6 := hs5.mono hb6
  have hc6 := (hc5.mono hb6).rd
  have hB6 := below_step hB5 hB5.size hb6
  go_upto_region 9 with (fail)
  refine boxP (p := ⟨⟨0, 0, 0, 0⟩, ⟨0, 0, 0, 0⟩, 0, 0, 0, 0, false, false, 0, .slice none 0 0⟩) (motive := fun X => Code.wp Tryd.prog _ _ _ X) ?_
  intro Z hBZ hZ hsZ
  have hB7 := below_step hB6 hB6.size hBZ
  have hcv := run_str (hc6.mono hBZ)
  have hbs : bstr [97] = ⟨#[97]⟩ := rfl
  rw [hbs] at hcv
  have hs7 := hs6.mono hBZ
  obtain ⟨a0, a1, a2, a3, a4, a5, a6, a7⟩ := hs7.pkAd
  clear hs6 hs7 hsZ hc6 hs5 hc5 ho5 hr5 hb6 hB5 hB6 hbs
  go_wp2_with fail
  refine (ifits exP.s true (by decide) Z).mono ?_
  rintro e w8 ⟨rfl, hb8⟩
  have hB8 := below_step hB7 hB7.size hb8
  clear a0 a1 a2 a3 a4 a5 a6 a7 hcv
  go_wp2_with fail
  refine (ifits ⟨0, 0, 0, 0⟩ false (by decide) w8).mono ?_
  rintro e w9 ⟨rfl, hb9⟩
  go_wp2_with fail
  go_ret
  exact ⟨rfl, below_step hB8 hB8.size hb9⟩
end Go.Proofs.YtbhdojpgjmbogaaDoor
