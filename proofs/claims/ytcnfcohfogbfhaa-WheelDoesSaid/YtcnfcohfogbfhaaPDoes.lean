/- WheelDoes: the row. -/
import Derived.Test.YtcnfcohfogbfhaaWRowP
import Derived.Test.YtcnfcohfogbfhaaLDoes
namespace Go.Proofs.Ytcnfcohfogbfhaa
open Go.ChangeShapes Go.WideShapes Go.ChangeAt Go.RowKit
set_option maxRecDepth 100000
theorem walked_wheelDoes : Walked 5 Try.f5 := by
  intro H enc W base args ds p hval hA hsz
  rw [Try.params5] at hA hval hsz
  obtain ⟨v0, vs0, d0, ds0, p0, q0, hargs, rfl, rfl, h0, r0⟩ := trodAll_cons hA
  obtain ⟨v1, vs1, d1, ds1, p1, q1, rfl, rfl, rfl, h1, r1⟩ := trodAll_cons r0
  obtain ⟨rfl, rfl, rfl⟩ := trodAll_nil r1
  obtain rfl : args = #[v0, v1] := by cases args; simp_all
  obtain ⟨now, rfl⟩ := open_i64 (hval 0 _ v0 rfl rfl)
  obtain ⟨l, lr, ll, li⟩ := open_calls (hval 1 _ v1 rfl rfl) h1 (j := 1) rfl rfl hsz
  exact law_does now v1 l W lr ll li
theorem one_wheelDoes {H : Type} : ∀ ds : List (DataW H), ds.length = Try.f5.params.toList.length → Rows.wheelDoesSpec.fn H ds = { results := [.lit (.bool true)], args := ds } := by
  rw [Try.params5]
  intro ds h
  match ds, h with
  | [_, _], _ => rfl
theorem wheelDoes_lifted (os : Os) (started : os.Started) (H : Type) (enc : TypeId × Value → H) :
    ReturnsInHanded {} Try.checked os 5 .any (Rows.wheelDoesSpec.pre6 enc Try.prog Try.f5 Rows.wheelDoesRow.domain false) (Rows.wheelDoesSpec.post enc Try.prog Try.f5 false true false false) :=
  lifted started (by kernel_rfl) Try.func5
    (ChangeSpec.witness6 (enc := enc) (C := Try.checked) false ⟨#[], #[.int .i64 0, .slice none 0 0], []⟩ 8 (by kernel_rfl) (by kernel_rfl) (by kernel_rfl) (by kernel_rfl))
    rfl (by kernel_rfl) (by kernel_rfl) one_wheelDoes walked_wheelDoes
theorem wheelDoes_holds : Rows.WheelDoesSaid :=
  OpenClaim.holds_of_wide 5 Try.f5 rfl rfl rfl rfl rfl rfl rfl ⟨rfl, rfl, rfl, rfl, rfl⟩ rfl rfl rfl rfl rfl (by kernel_rfl) Try.func5 (by kernel_rfl)
    (of_decide_eq_true (by kernel_rfl)) (by unfold Func.isWrapper; first | (rw [if_pos (by decide +kernel)]; kernel_rfl) | (rw [if_neg (by decide +kernel)]; exact ⟨rfl, rfl⟩))
    (fun os started H enc _ => wheelDoes_lifted os started H enc)
#print axioms wheelDoes_holds
end Go.Proofs.Ytcnfcohfogbfhaa
