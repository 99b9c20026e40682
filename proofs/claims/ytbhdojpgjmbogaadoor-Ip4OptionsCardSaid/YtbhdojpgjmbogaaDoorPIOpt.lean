/- Ip4Options: the row and the card. -/
import Derived.Test.YtbhdojpgjmbogaaDoorRowC
import Derived.Test.YtbhdojpgjmbogaaDoorPkRow
import Derived.Test.YtbhdojpgjmbogaaDoorLIOpt
namespace Go.Proofs.YtbhdojpgjmbogaaDoor
open Go.ChangeShapes Go.WideShapes Go.ChangeAt Go.RowKit
set_option maxRecDepth 100000
theorem walked_ip4Options : Walked 7 Tryd.f7 := by
  intro H enc W base args ds p hval hA hsz
  rw [Tryd.params7] at hA hval hsz
  obtain ⟨v0, vs0, d0, ds0, p0, q0, hargs, rfl, rfl, h0, r0⟩ := trodAll_cons hA
  obtain ⟨v1, vs1, d1, ds1, p1, q1, rfl, rfl, rfl, h1, r1⟩ := trodAll_cons r0
  obtain ⟨v2, vs2, d2, ds2, p2, q2, rfl, rfl, rfl, h2, r2⟩ := trodAll_cons r1
  obtain ⟨rfl, rfl, rfl⟩ := trodAll_nil r2
  obtain rfl : args = #[v0, v1, v2] := by cases args; simp_all
  obtain ⟨s, so, rfl, st, sr, sl⟩ := open_pk (hval 0 _ v0 rfl rfl) h0 (j := 0) rfl rfl hsz
  obtain ⟨a, ar, al⟩ := open_bytes (hval 1 _ v1 rfl rfl) h1 (j := 1) rfl rfl hsz
  obtain ⟨b, br, bl⟩ := open_bytes (hval 2 _ v2 rfl rfl) h2 (j := 2) rfl rfl hsz
  exact law_iopt s a b v1 v2 W ar al br bl st
theorem args_ip4Options {H : Type} : ∀ ds : List (DataW H), ds.length = Tryd.f7.params.toList.length → Rows.ip4OptionsSpec.fn H ds = { results := [.lit (.bool true)], args := ds } := by
  rw [Tryd.params7]
  intro ds h
  match ds, h with
  | [_, _, _], _ => rfl
theorem ip4Options_lifted (os : Os) (started : os.Started) (H : Type) (enc : TypeId × Value → H) :
    ReturnsInHanded {} Tryd.checked os 7 .any (fun w args => (Rows.ip4OptionsSpec.pre enc Tryd.prog Tryd.f7 [] false w args ∧ laidMetH Tryd.prog Tryd.laid w) ∧ sizedMet enc Tryd.prog Tryd.f7 (OpenSpec.ofChange Rows.ip4OptionsSpec) false w args)
      (Rows.ip4OptionsSpec.post enc Tryd.prog Tryd.f7 false true false false) :=
  liftedC started (by kernel_rfl) Tryd.func7
    (ChangeSpec.witness_shaped (enc := enc) (C := Tryd.checked) (os := os) (X := fun w _ => laidMetH Tryd.prog Tryd.laid w) false (World.laidAll Tryd.prog os Tryd.laid) #[(⟨⟨0, 0, 0, 0⟩, ⟨0, 0, 0, 0⟩, 0, 0, 0, 0, false, false, 0, .slice none 0 0⟩ : PK).v, .slice none 0 0, .slice none 0 0] 8 (World.laidAll_os _ _ _)
      (World.shaped_of_ZipB (by kernel_rfl) (by kernel_rfl)) (by kernel_rfl) (by kernel_rfl) (by kernel_rfl) (Tryd.laid_met os _))
    rfl (by kernel_rfl) (by kernel_rfl) args_ip4Options walked_ip4Options
theorem ip4Options_said : Rows.Ip4OptionsSaid :=
  OpenClaim.holds_of_wide 7 Tryd.f7 rfl rfl rfl rfl rfl rfl rfl ⟨rfl, rfl, rfl, rfl, rfl⟩ rfl rfl rfl rfl rfl (by kernel_rfl) Tryd.func7 (by kernel_rfl)
    (of_decide_eq_true (by kernel_rfl)) (by unfold Func.isWrapper; first | (rw [if_pos (by decide +kernel)]; kernel_rfl) | (rw [if_neg (by decide +kernel)]; exact ⟨rfl, rfl⟩))
    (fun os started H enc _ => ip4Options_lifted os started H enc)
theorem ip4Options_holds : Rows.Ip4OptionsCardSaid :=
  Claim7.holds_tied_plain_at .later [] [.data, .pinned] true Rows.ip4OptionsCard.stood.harness false ip4Options_said (fun _ h => by cases h) (by kernel_rfl) (fun _ h => by cases h) ip4Options_row_tie rfl ⟨rfl, rfl⟩ (by kernel_rfl) rfl
    (fun f fn hf hfn => by
      obtain rfl : f = 7 := Option.some.inj ((show Tryd.prog.funcNamed "packhorse/packhorselaw09.Ip4Options" = some 7 by kernel_rfl).symm.trans hf) |>.symm
      obtain rfl : fn = Tryd.f7 := (Option.some.inj (Tryd.func7.symm.trans hfn)).symm
      exact ⟨by kernel_rfl, fun j t ht => stand_free (by rw [Tryd.params7]; kernel_rfl) j t ht⟩)
    (by kernel_rfl)
#print axioms ip4Options_holds
end Go.Proofs.YtbhdojpgjmbogaaDoor
