/- Ip4Sums: the row and the card. -/
import Derived.Test.YtbhdojpgjmbogaaDoorRowC
import Derived.Test.YtbhdojpgjmbogaaDoorPkRow
import Derived.Test.YtbhdojpgjmbogaaDoorLISum
namespace Go.Proofs.YtbhdojpgjmbogaaDoor
open Go.ChangeShapes Go.WideShapes Go.ChangeAt Go.RowKit
set_option maxRecDepth 100000
theorem walked_ip4Sums : Walked 6 Tryd.f6 := by
  intro H enc W base args ds p hval hA hsz
  rw [Tryd.params6] at hA hval hsz
  obtain ⟨v0, vs0, d0, ds0, p0, q0, hargs, rfl, rfl, h0, r0⟩ := trodAll_cons hA
  obtain ⟨v1, vs1, d1, ds1, p1, q1, rfl, rfl, rfl, h1, r1⟩ := trodAll_cons r0
  obtain ⟨rfl, rfl, rfl⟩ := trodAll_nil r1
  obtain rfl : args = #[v0, v1] := by cases args; simp_all
  obtain ⟨s, so, rfl, st, sr, sl⟩ := open_pk (hval 0 _ v0 rfl rfl) h0 (j := 0) rfl rfl hsz
  obtain ⟨b, br, bl⟩ := open_bytes (hval 1 _ v1 rfl rfl) h1 (j := 1) rfl rfl hsz
  exact law_isum s so b v1 W sr sl br bl st
theorem args_ip4Sums {H : Type} : ∀ ds : List (DataW H), ds.length = Tryd.f6.params.toList.length → Rows.ip4SumsSpec.fn H ds = { results := [.lit (.bool true)], args := ds } := by
  rw [Tryd.params6]
  intro ds h
  match ds, h with
  | [_, _], _ => rfl
theorem ip4Sums_lifted (os : Os) (started : os.Started) (H : Type) (enc : TypeId × Value → H) :
    ReturnsInHanded {} Tryd.checked os 6 .any (fun w args => (Rows.ip4SumsSpec.pre enc Tryd.prog Tryd.f6 [] false w args ∧ laidMetH Tryd.prog Tryd.laid w) ∧ sizedMet enc Tryd.prog Tryd.f6 (OpenSpec.ofChange Rows.ip4SumsSpec) false w args)
      (Rows.ip4SumsSpec.post enc Tryd.prog Tryd.f6 false true false false) :=
  liftedC started (by kernel_rfl) Tryd.func6
    (ChangeSpec.witness_shaped (enc := enc) (C := Tryd.checked) (os := os) (X := fun w _ => laidMetH Tryd.prog Tryd.laid w) false (World.laidAll Tryd.prog os Tryd.laid) #[(⟨⟨0, 0, 0, 0⟩, ⟨0, 0, 0, 0⟩, 0, 0, 0, 0, false, false, 0, .slice none 0 0⟩ : PK).v, .slice none 0 0] 8 (World.laidAll_os _ _ _)
      (World.shaped_of_ZipB (by kernel_rfl) (by kernel_rfl)) (by kernel_rfl) (by kernel_rfl) (by kernel_rfl) (Tryd.laid_met os _))
    rfl (by kernel_rfl) (by kernel_rfl) args_ip4Sums walked_ip4Sums
theorem ip4Sums_said : Rows.Ip4SumsSaid :=
  OpenClaim.holds_of_wide 6 Tryd.f6 rfl rfl rfl rfl rfl rfl rfl ⟨rfl, rfl, rfl, rfl, rfl⟩ rfl rfl rfl rfl rfl (by kernel_rfl) Tryd.func6 (by kernel_rfl)
    (of_decide_eq_true (by kernel_rfl)) (by unfold Func.isWrapper; first | (rw [if_pos (by decide +kernel)]; kernel_rfl) | (rw [if_neg (by decide +kernel)]; exact ⟨rfl, rfl⟩))
    (fun os started H enc _ => ip4Sums_lifted os started H enc)
theorem ip4Sums_holds : Rows.Ip4SumsCardSaid :=
  Claim7.holds_tied_plain_at .later [] [.data, .pinned] true Rows.ip4SumsCard.stood.harness false ip4Sums_said (fun _ h => by cases h) (by kernel_rfl) (fun _ h => by cases h) ip4Sums_row_tie rfl ⟨rfl, rfl⟩ (by kernel_rfl) rfl
    (fun f fn hf hfn => by
      obtain rfl : f = 6 := Option.some.inj ((show Tryd.prog.funcNamed "packhorse/packhorselaw09.Ip4Sums" = some 6 by kernel_rfl).symm.trans hf) |>.symm
      obtain rfl : fn = Tryd.f6 := (Option.some.inj (Tryd.func6.symm.trans hfn)).symm
      exact ⟨by kernel_rfl, fun j t ht => stand_free (by rw [Tryd.params6]; kernel_rfl) j t ht⟩)
    (by kernel_rfl)
#print axioms ip4Sums_holds
end Go.Proofs.YtbhdojpgjmbogaaDoor
