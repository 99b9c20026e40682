/- UdpFree: the row. -/
import Derived.Test.YtbhdojpgjmbogaaRow
import Derived.Test.YtbhdojpgjmbogaaLFree
import Derived.Test.YtbhdojpgjmbogaaOps
namespace Go.Proofs.Ytbhdojpgjmbogaa
open Go.ChangeShapes Go.WideShapes Go.ChangeAt Go.RowKit
set_option maxRecDepth 100000
theorem walked_free : Walked 6 Try.f6 := by
  intro H enc W base args ds p hval hA _
  rw [Try.params6] at hA hval
  obtain ⟨v0, vs0, d0, ds0, p0, q0, hargs, rfl, rfl, h0, r0⟩ := trodAll_cons hA
  obtain ⟨rfl, rfl, rfl⟩ := trodAll_nil r0
  obtain rfl : args = #[v0] := by cases args; simp_all
  obtain ⟨l, hl, _⟩ := open_ops (hval 0 _ v0 rfl rfl) h0
  exact law_free v0 l W hl
theorem one {H : Type} : ∀ ds : List (DataW H), ds.length = Try.f6.params.toList.length → Rows.udpFreeSpec.fn H ds = { results := [.lit (.bool true)], args := ds } := by
  rw [Try.params6]
  intro ds h
  match ds, h with
  | [_], _ => rfl
theorem udpFree_lifted (os : Os) (started : os.Started) (H : Type) (enc : TypeId × Value → H) :
    ReturnsInHanded {} Try.checked os 6 .any (Rows.udpFreeSpec.pre6 enc Try.prog Try.f6 Rows.udpFreeRow.domain false) (Rows.udpFreeSpec.post enc Try.prog Try.f6 false true false false) :=
  lifted started (by kernel_rfl) Try.func6
    (ChangeSpec.witness6 (enc := enc) (C := Try.checked) false ⟨#[], #[.slice none 0 0], []⟩ 8 (by kernel_rfl) (by kernel_rfl) (by kernel_rfl) (by kernel_rfl))
    rfl (by kernel_rfl) (by kernel_rfl) one walked_free
theorem udpFree_holds : Rows.UdpFreeSaid :=
  OpenClaim.holds_of_wide 6 Try.f6 rfl rfl rfl rfl rfl rfl rfl ⟨rfl, rfl, rfl, rfl, rfl⟩ rfl rfl rfl rfl rfl (by kernel_rfl) Try.func6 (by kernel_rfl)
    (of_decide_eq_true (by kernel_rfl)) (by unfold Func.isWrapper; first | (rw [if_pos (by decide +kernel)]; kernel_rfl) | (rw [if_neg (by decide +kernel)]; exact ⟨rfl, rfl⟩))
    (fun os started H enc _ => udpFree_lifted os started H enc)
#print axioms udpFree_holds
end Go.Proofs.Ytbhdojpgjmbogaa
