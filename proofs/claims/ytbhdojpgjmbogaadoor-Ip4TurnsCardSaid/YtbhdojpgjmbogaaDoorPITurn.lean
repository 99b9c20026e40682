/- Ip4Turns: the row and the card. -/
import Derived.Test.YtbhdojpgjmbogaaDoorRowC
import Derived.Test.YtbhdojpgjmbogaaDoorPkRow
import Derived.Test.YtbhdojpgjmbogaaDoorLITurn
namespace Go.Proofs.YtbhdojpgjmbogaaDoor
open Go.ChangeShapes Go.WideShapes Go.ChangeAt Go.RowKit
set_option maxRecDepth 100000
theorem walked_ip4Turns : Walked 5 Tryd.f5 := by
  intro H enc W base args ds p hval hA hsz
  rw [Tryd.params5] at hA hval hsz
  obtain ⟨v0, vs0, d0, ds0, p0, q0, hargs, rfl, rfl, h0, r0⟩ := trodAll_cons hA
  obtain ⟨v1, vs1, d1, ds1, p1, q1, rfl, rfl, rfl, h1, r1⟩ := trodAll_cons r0
  obtain ⟨v2, vs2, d2, ds2, p2, q2, rfl, rfl, rfl, h2, r2⟩ := trodAll_cons r1
  obtain ⟨rfl, rfl, rfl⟩ := trodAll_nil r2
  obtain rfl : args = #[v0, v1, v2] := by cases args; simp_all
  obtain ⟨s, so, rfl, st, sr, sl⟩ := open_pk (hval 0 _ v0 rfl rfl) h0 (j := 0) rfl rfl hsz
  obtain ⟨b, br, bl⟩ := open_bytes (hval 1 _ v1 rfl rfl) h1 (j := 1) rfl rfl hsz
  obtain ⟨n, rfl⟩ := open_i64 (hval 2 _ v2 rfl rfl)
  exact law_iturn s b v1 n W br bl st
theorem args_ip4Turns {H : Type} : ∀ ds : List (DataW H), ds.length = Tryd.f5.params.toList.length → Rows.ip4TurnsSpec.fn H ds = { results := [.lit (.bool true)], args := ds } := by
  rw [Tryd.params5]
  intro ds h
  match ds, h with
  | [_, _, _], _ => rfl
theorem ip4Turns_lifted (os : Os) (started : os.Started) (H : Type) (enc : TypeId × Value → H) :
    ReturnsInHanded {} Tryd.checked os 5 .any (fun w args => (Rows.ip4TurnsSpec.pre enc Tryd.prog Tryd.f5 [] false w args ∧ laidMetH Tryd.prog Tryd.laid w) ∧ sizedMet enc Tryd.prog Tryd.f5 (OpenSpec.ofChange Rows.ip4TurnsSpec) false w args)
      (Rows.ip4TurnsSpec.post enc Tryd.prog Tryd.f5 false true false false) :=
  liftedC started (by kernel_rfl) Tryd.func5
    (ChangeSpec.witness_shaped (enc := enc) (C := Tryd.checked) (os := os) (X := fun w _ => laidMetH Tryd.prog Tryd.laid w) false (World.laidAll Tryd.prog os Tryd.laid) #[(⟨⟨0, 0, 0, 0⟩, ⟨0, 0, 0, 0⟩, 0, 0, 0, 0, false, false, 0, .slice none 0 0⟩ : PK).v, .slice none 0 0, .int .i64 0] 8 (World.laidAll_os _ _ _)
      (World.shaped_of_ZipB (by kernel_rfl) (by kernel_rfl)) (by kernel_rfl) (by kernel_rfl) (by kernel_rfl) (Tryd.laid_met os _))
    rfl (by kernel_rfl) (by kernel_rfl) args_ip4Turns walked_ip4Turns
theorem ip4Turns_said : Rows.Ip4TurnsSaid :=
  OpenClaim.holds_of_wide 5 Tryd.f5 rfl rfl rfl rfl rfl rfl rfl ⟨rfl, rfl, rfl, rfl, rfl⟩ rfl rfl rfl rfl rfl (by kernel_rfl) Tryd.func5 (by kernel_rfl)
    (of_decide_eq_true (by kernel_rfl)) (by unfold Func.isWrapper; first | (rw [if_pos (by decide +kernel)]; kernel_rfl) | (rw [if_neg (by decide +kernel)]; exact ⟨rfl, rfl⟩))
    (fun os started H enc _ => ip4Turns_lifted os started H enc)
theorem ip4Turns_holds : Rows.Ip4TurnsCardSaid :=
  Claim7.holds_tied_plain_at .later [] [.data, .pinned] true Rows.ip4TurnsCard.stood.harness false ip4Turns_said (fun _ h => by cases h) (by kernel_rfl) (fun _ h => by cases h) ip4Turns_row_tie rfl ⟨rfl, rfl⟩ (by kernel_rfl) rfl
    (fun f fn hf hfn => by
      obtain rfl : f = 5 := Option.some.inj ((show Tryd.prog.funcNamed "packhorse/packhorselaw09.Ip4Turns" = some 5 by kernel_rfl).symm.trans hf) |>.symm
      obtain rfl : fn = Tryd.f5 := (Option.some.inj (Tryd.func5.symm.trans hfn)).symm
      exact ⟨by kernel_rfl, fun j t ht => stand_free (by rw [Tryd.params5]; kernel_rfl) j t ht⟩)
    (by kernel_rfl)
#print axioms ip4Turns_holds
end Go.Proofs.YtbhdojpgjmbogaaDoor
