/- WheelSteps: the row. -/
import Derived.Test.YtcnfcohfogbfhaaWRowP
import Derived.Test.YtcnfcohfogbfhaaLSteps
namespace Go.Proofs.Ytcnfcohfogbfhaa
open Go.ChangeShapes Go.WideShapes Go.ChangeAt Go.RowKit
set_option maxRecDepth 100000
theorem walked_wheelSteps : Walked 3 Try.f3 := by
  intro H enc W base args ds p hval hA hsz
  rw [Try.params3] at hA hval hsz
  obtain ⟨v0, vs0, d0, ds0, p0, q0, hargs, rfl, rfl, h0, r0⟩ := trodAll_cons hA
  obtain ⟨v1, vs1, d1, ds1, p1, q1, rfl, rfl, rfl, h1, r1⟩ := trodAll_cons r0
  obtain ⟨v2, vs2, d2, ds2, p2, q2, rfl, rfl, rfl, h2, r2⟩ := trodAll_cons r1
  obtain ⟨rfl, rfl, rfl⟩ := trodAll_nil r2
  obtain rfl : args = #[v0, v1, v2] := by cases args; simp_all
  obtain ⟨now, rfl⟩ := open_i64 (hval 0 _ v0 rfl rfl)
  obtain ⟨l, lr, ll, -⟩ := open_calls (hval 1 _ v1 rfl rfl) h1 (j := 1) rfl rfl hsz
  obtain ⟨far, rfl⟩ := open_i64 (hval 2 _ v2 rfl rfl)
  exact law_steps now far v1 l W lr ll
theorem one_wheelSteps {H : Type} : ∀ ds : List (DataW H), ds.length = Try.f3.params.toList.length → Rows.wheelStepsSpec.fn H ds = { results := [.lit (.bool true)], args := ds } := by
  rw [Try.params3]
  intro ds h
  match ds, h with
  | [_, _, _], _ => rfl
theorem wheelSteps_lifted (os : Os) (started : os.Started) (H : Type) (enc : TypeId × Value → H) :
    ReturnsInHanded {} Try.checked os 3 .any (Rows.wheelStepsSpec.pre6 enc Try.prog Try.f3 Rows.wheelStepsRow.domain false) (Rows.wheelStepsSpec.post enc Try.prog Try.f3 false true false false) :=
  lifted started (by kernel_rfl) Try.func3
    (ChangeSpec.witness6 (enc := enc) (C := Try.checked) false ⟨#[], #[.int .i64 0, .slice none 0 0, .int .i64 0], []⟩ 8 (by kernel_rfl) (by kernel_rfl) (by kernel_rfl) (by kernel_rfl))
    rfl (by kernel_rfl) (by kernel_rfl) one_wheelSteps walked_wheelSteps
theorem wheelSteps_holds : Rows.WheelStepsSaid :=
  OpenClaim.holds_of_wide 3 Try.f3 rfl rfl rfl rfl rfl rfl rfl ⟨rfl, rfl, rfl, rfl, rfl⟩ rfl rfl rfl rfl rfl (by kernel_rfl) Try.func3 (by kernel_rfl)
    (of_decide_eq_true (by kernel_rfl)) (by unfold Func.isWrapper; first | (rw [if_pos (by decide +kernel)]; kernel_rfl) | (rw [if_neg (by decide +kernel)]; exact ⟨rfl, rfl⟩))
    (fun os started H enc _ => wheelSteps_lifted os started H enc)
#print axioms wheelSteps_holds
end Go.Proofs.Ytcnfcohfogbfhaa
