/- Ip4Pseudo: the row and the card. -/
import Derived.Test.YtbhdojpgjmbogaaDoorRowC
import Derived.Test.YtbhdojpgjmbogaaDoorLIPse
namespace Go.Proofs.YtbhdojpgjmbogaaDoor
open Go.ChangeShapes Go.WideShapes Go.ChangeAt Go.RowKit
set_option maxRecDepth 100000
theorem walked_ipse : Walked 8 Tryd.f8 := by
  intro H enc W base args ds p hval hA hsz
  rw [Tryd.params8] at hA hval hsz
  obtain ⟨v0, vs0, d0, ds0, p0, q0, hargs, rfl, rfl, h0, r0⟩ := trodAll_cons hA
  obtain ⟨v1, vs1, d1, ds1, p1, q1, rfl, rfl, rfl, h1, r1⟩ := trodAll_cons r0
  obtain ⟨v2, vs2, d2, ds2, p2, q2, rfl, rfl, rfl, h2, r2⟩ := trodAll_cons r1
  obtain ⟨v3, vs3, d3, ds3, p3, q3, rfl, rfl, rfl, h3, r3⟩ := trodAll_cons r2
  obtain ⟨rfl, rfl, rfl⟩ := trodAll_nil r3
  obtain rfl : args = #[v0, v1, v2, v3] := by cases args; simp_all
  obtain ⟨s, rfl⟩ := open_ip (hval 0 _ v0 rfl rfl)
  obtain ⟨d, rfl⟩ := open_ip (hval 1 _ v1 rfl rfl)
  obtain ⟨f, rfl⟩ := open_i64 (hval 2 _ v2 rfl rfl)
  obtain ⟨t, rfl⟩ := open_i64 (hval 3 _ v3 rfl rfl)
  exact law_ipse s d f t W
theorem four_ipse {H : Type} : ∀ ds : List (DataW H), ds.length = Tryd.f8.params.toList.length → Rows.ip4PseudoSpec.fn H ds = { results := [.lit (.bool true)], args := ds } := by
  rw [Tryd.params8]
  intro ds h
  match ds, h with
  | [_, _, _, _], _ => rfl
theorem ip4Pseudo_lifted (os : Os) (started : os.Started) (H : Type) (enc : TypeId × Value → H) :
    ReturnsInHanded {} Tryd.checked os 8 .any (fun w args => (Rows.ip4PseudoSpec.pre enc Tryd.prog Tryd.f8 [] false w args ∧ laidMetH Tryd.prog Tryd.laid w) ∧ sizedMet enc Tryd.prog Tryd.f8 (OpenSpec.ofChange Rows.ip4PseudoSpec) false w args)
      (Rows.ip4PseudoSpec.post enc Tryd.prog Tryd.f8 false true false false) :=
  liftedC started (by kernel_rfl) Tryd.func8
    (ChangeSpec.witness_shaped (enc := enc) (C := Tryd.checked) (os := os) (X := fun w _ => laidMetH Tryd.prog Tryd.laid w) false (World.laidAll Tryd.prog os Tryd.laid) #[(⟨0, 0, 0, 0⟩ : IP).v, (⟨0, 0, 0, 0⟩ : IP).v, .int .i64 0, .int .i64 0] 8 (World.laidAll_os _ _ _)
      (World.shaped_of_ZipB (by kernel_rfl) (by kernel_rfl)) (by kernel_rfl) (by kernel_rfl) (by kernel_rfl) (Tryd.laid_met os _))
    rfl (by kernel_rfl) (by kernel_rfl) four_ipse walked_ipse
theorem ip4Pseudo_said : Rows.Ip4PseudoSaid :=
  OpenClaim.holds_of_wide 8 Tryd.f8 rfl rfl rfl rfl rfl rfl rfl ⟨rfl, rfl, rfl, rfl, rfl⟩ rfl rfl rfl rfl rfl (by kernel_rfl) Tryd.func8 (by kernel_rfl)
    (of_decide_eq_true (by kernel_rfl)) (by unfold Func.isWrapper; first | (rw [if_pos (by decide +kernel)]; kernel_rfl) | (rw [if_neg (by decide +kernel)]; exact ⟨rfl, rfl⟩))
    (fun os started H enc _ => ip4Pseudo_lifted os started H enc)
theorem ip4Pseudo_holds : Rows.Ip4PseudoCardSaid :=
  Claim7.holds_tied_plain_at .later [] [.data, .pinned] true Rows.ip4PseudoCard.stood.harness false ip4Pseudo_said (fun _ h => by cases h) (by kernel_rfl) (fun _ h => by cases h) ip4Pseudo_row_tie rfl ⟨rfl, rfl⟩ (by kernel_rfl) rfl
    (fun f fn hf hfn => by
      obtain rfl : f = 8 := Option.some.inj ((show Tryd.prog.funcNamed "packhorse/packhorselaw09.Ip4Pseudo" = some 8 by kernel_rfl).symm.trans hf) |>.symm
      obtain rfl : fn = Tryd.f8 := (Option.some.inj (Tryd.func8.symm.trans hfn)).symm
      exact ⟨by kernel_rfl, fun j t ht => stand_free (by rw [Tryd.params8]; kernel_rfl) j t ht⟩)
    (by kernel_rfl)
#print axioms ip4Pseudo_holds
end Go.Proofs.YtbhdojpgjmbogaaDoor
