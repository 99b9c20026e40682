/- WheelOrder: the row. -/
import Derived.Test.YtcnfcohfogbfhaaWRowP
import Derived.Test.YtcnfcohfogbfhaaLOrd
namespace Go.Proofs.Ytcnfcohfogbfhaa
open Go.ChangeShapes Go.WideShapes Go.ChangeAt Go.RowKit
set_option maxRecDepth 100000
theorem walked_wheelOrder : Walked 6 Try.f6 := by
  intro H enc W base args ds p hval hA hsz
  rw [Try.params6] at hA hval hsz
  obtain ⟨v0, vs0, d0, ds0, p0, q0, hargs, rfl, rfl, h0, r0⟩ := trodAll_cons hA
  obtain ⟨v1, vs1, d1, ds1, p1, q1, rfl, rfl, rfl, h1, r1⟩ := trodAll_cons r0
  obtain ⟨v2, vs2, d2, ds2, p2, q2, rfl, rfl, rfl, h2, r2⟩ := trodAll_cons r1
  obtain ⟨rfl, rfl, rfl⟩ := trodAll_nil r2
  obtain rfl : args = #[v0, v1, v2] := by cases args; simp_all
  obtain ⟨now, rfl⟩ := open_i64 (hval 0 _ v0 rfl rfl)
  obtain ⟨l, lr, ll, -⟩ := open_calls (hval 1 _ v1 rfl rfl) h1 (j := 1) rfl rfl hsz
  obtain ⟨far, rfl⟩ := open_i64 (hval 2 _ v2 rfl rfl)
  exact law_ord now far v1 l W lr ll
theorem one_wheelOrder {H : Type} : ∀ ds : List (DataW H), ds.length = Try.f6.params.toList.length → Rows.wheelOrderSpec.fn H ds = { results := [.lit (.bool true)], args := ds } := by
  rw [Try.params6]
  intro ds h
  match ds, h with
  | [_, _, _], _ => rfl
theorem wheelOrder_lifted (os : Os) (started : os.Started) (H : Type) (enc : TypeId × Value → H) :
    ReturnsInHanded {} Try.checked os 6 .any (Rows.wheelOrderSpec.pre6 enc Try.prog Try.f6 Rows.wheelOrderRow.domain false) (Rows.wheelOrderSpec.post enc Try.prog Try.f6 false true false false) :=
  lifted started (by kernel_rfl) Try.func6
    (ChangeSpec.witness6 (enc := enc) (C := Try.checked) false ⟨#[], #[.int .i64 0, .slice none 0 0, .int .i64 0], []⟩ 8 (by kernel_rfl) (by kernel_rfl) (by kernel_rfl) (by kernel_rfl))
    rfl (by kernel_rfl) (by kernel_rfl) one_wheelOrder walked_wheelOrder
theorem wheelOrder_holds : Rows.WheelOrderSaid :=
  OpenClaim.holds_of_wide 6 Try.f6 rfl rfl rfl rfl rfl rfl rfl ⟨rfl, rfl, rfl, rfl, rfl⟩ rfl rfl rfl rfl rfl (by kernel_rfl) Try.func6 (by kernel_rfl)
    (of_decide_eq_true (by kernel_rfl)) (by unfold Func.isWrapper; first | (rw [if_pos (by decide +kernel)]; kernel_rfl) | (rw [if_neg (by decide +kernel)]; exact ⟨rfl, rfl⟩))
    (fun os started H enc _ => wheelOrder_lifted os started H enc)
#print axioms wheelOrder_holds
end Go.Proofs.Ytcnfcohfogbfhaa
