/- UdpPorts: the row. -/
import Derived.Test.YtbhdojpgjmbogaaRow
import Derived.Test.YtbhdojpgjmbogaaLPorts
import Derived.Test.YtbhdojpgjmbogaaOps
namespace Go.Proofs.Ytbhdojpgjmbogaa
open Go.ChangeShapes Go.WideShapes Go.ChangeAt Go.RowKit
set_option maxRecDepth 100000
theorem walked_ports : Walked 5 Try.f5 := by
  intro H enc W base args ds p hval hA _
  rw [Try.params5] at hA hval
  obtain ⟨v0, vs0, d0, ds0, p0, q0, hargs, rfl, rfl, h0, r0⟩ := trodAll_cons hA
  obtain ⟨rfl, rfl, rfl⟩ := trodAll_nil r0
  obtain rfl : args = #[v0] := by cases args; simp_all
  obtain ⟨l, hl, hin⟩ := open_ops (hval 0 _ v0 rfl rfl) h0
  exact law_ports v0 l W hl hin
theorem one {H : Type} : ∀ ds : List (DataW H), ds.length = Try.f5.params.toList.length → Rows.udpPortsSpec.fn H ds = { results := [.lit (.bool true)], args := ds } := by
  rw [Try.params5]
  intro ds h
  match ds, h with
  | [_], _ => rfl
theorem udpPorts_lifted (os : Os) (started : os.Started) (H : Type) (enc : TypeId × Value → H) :
    ReturnsInHanded {} Try.checked os 5 .any (Rows.udpPortsSpec.pre6 enc Try.prog Try.f5 Rows.udpPortsRow.domain false) (Rows.udpPortsSpec.post enc Try.prog Try.f5 false true false false) :=
  lifted started (by kernel_rfl) Try.func5
    (ChangeSpec.witness6 (enc := enc) (C := Try.checked) false ⟨#[], #[.slice none 0 0], []⟩ 8 (by kernel_rfl) (by kernel_rfl) (by kernel_rfl) (by kernel_rfl))
    rfl (by kernel_rfl) (by kernel_rfl) one walked_ports
theorem udpPorts_holds : Rows.UdpPortsSaid :=
  OpenClaim.holds_of_wide 5 Try.f5 rfl rfl rfl rfl rfl rfl rfl ⟨rfl, rfl, rfl, rfl, rfl⟩ rfl rfl rfl rfl rfl (by kernel_rfl) Try.func5 (by kernel_rfl)
    (of_decide_eq_true (by kernel_rfl)) (by unfold Func.isWrapper; first | (rw [if_pos (by decide +kernel)]; kernel_rfl) | (rw [if_neg (by decide +kernel)]; exact ⟨rfl, rfl⟩))
    (fun os started H enc _ => udpPorts_lifted os started H enc)
#print axioms udpPorts_holds
end Go.Proofs.Ytbhdojpgjmbogaa
