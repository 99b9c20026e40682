/- WheelFull: the row. -/
import Derived.Test.YtcnfcohfogbfhaaWRowP
import Derived.Test.YtcnfcohfogbfhaaLFull
namespace Go.Proofs.Ytcnfcohfogbfhaa
open Go.ChangeShapes Go.WideShapes Go.ChangeAt Go.RowKit
set_option maxRecDepth 100000
theorem walked_full : Walked 4 Try.f4 := by
  intro H enc W base args ds p hval hA hsz
  rw [Try.params4] at hA hval hsz
  obtain ⟨v0, vs0, d0, ds0, p0, q0, hargs, rfl, rfl, h0, r0⟩ := trodAll_cons hA
  obtain ⟨rfl, rfl, rfl⟩ := trodAll_nil r0
  obtain rfl : args = #[v0] := by cases args; simp_all
  obtain ⟨l, hl, hll⟩ := open_nums (hval 0 _ v0 rfl rfl) h0 (j := 0) rfl rfl hsz
  exact law_full v0 l W hl hll
theorem one_full {H : Type} : ∀ ds : List (DataW H), ds.length = Try.f4.params.toList.length → Rows.wheelFullSpec.fn H ds = { results := [.lit (.bool true)], args := ds } := by
  rw [Try.params4]
  intro ds h
  match ds, h with
  | [_], _ => rfl
theorem wheelFull_lifted (os : Os) (started : os.Started) (H : Type) (enc : TypeId × Value → H) :
    ReturnsInHanded {} Try.checked os 4 .any (Rows.wheelFullSpec.pre6 enc Try.prog Try.f4 Rows.wheelFullRow.domain false) (Rows.wheelFullSpec.post enc Try.prog Try.f4 false true false false) :=
  lifted started (by kernel_rfl) Try.func4
    (ChangeSpec.witness6 (enc := enc) (C := Try.checked) false ⟨#[], #[.slice none 0 0], []⟩ 8 (by kernel_rfl) (by kernel_rfl) (by kernel_rfl) (by kernel_rfl))
    rfl (by kernel_rfl) (by kernel_rfl) one_full walked_full
theorem wheelFull_holds : Rows.WheelFullSaid :=
  OpenClaim.holds_of_wide 4 Try.f4 rfl rfl rfl rfl rfl rfl rfl ⟨rfl, rfl, rfl, rfl, rfl⟩ rfl rfl rfl rfl rfl (by kernel_rfl) Try.func4 (by kernel_rfl)
    (of_decide_eq_true (by kernel_rfl)) (by unfold Func.isWrapper; first | (rw [if_pos (by decide +kernel)]; kernel_rfl) | (rw [if_neg (by decide +kernel)]; exact ⟨rfl, rfl⟩))
    (fun os started H enc _ => wheelFull_lifted os started H enc)
#print axioms wheelFull_holds
end Go.Proofs.Ytcnfcohfogbfhaa
