/- TcpOrder: the row. -/
import Derived.Test.YtbhdojpgjmbogaaRow14
import Derived.Test.YtbhdojpgjmbogaaLOrder
namespace Go.Proofs.Ytbhdojpgjmbogaa
open Go.ChangeShapes Go.WideShapes Go.ChangeAt Go.RowKit
set_option maxRecDepth 100000
theorem walked_tcpOrder : Walked 9 Try.f9 := by
  intro H enc W base args ds p hval hA hsz
  rw [Try.params9] at hA hval hsz
  obtain ⟨v0, vs0, d0, ds0, p0, q0, hargs, rfl, rfl, h0, r0⟩ := trodAll_cons hA
  obtain ⟨v1, vs1, d1, ds1, p1, q1, rfl, rfl, rfl, h1, r1⟩ := trodAll_cons r0
  obtain ⟨v2, vs2, d2, ds2, p2, q2, rfl, rfl, rfl, h2, r2⟩ := trodAll_cons r1
  obtain ⟨rfl, rfl, rfl⟩ := trodAll_nil r2
  obtain rfl : args = #[v0, v1, v2] := by cases args; simp_all
  obtain ⟨a, rfl, ha⟩ := open_u32 (hval 0 _ v0 rfl rfl)
  obtain ⟨n, rfl, hn⟩ := open_u32 (hval 1 _ v1 rfl rfl)
  obtain ⟨b, rfl, hb⟩ := open_u32 (hval 2 _ v2 rfl rfl)
  exact law_order a n b ha hn hb W
theorem ds_tcpOrder {H : Type} : ∀ ds : List (DataW H), ds.length = Try.f9.params.toList.length → Rows.tcpOrderSpec.fn H ds = { results := [.lit (.bool true)], args := ds } := by
  rw [Try.params9]
  intro ds h
  match ds, h with
  | [_, _, _], _ => rfl
theorem tcpOrder_lifted (os : Os) (started : os.Started) (H : Type) (enc : TypeId × Value → H) :
    ReturnsInHanded {} Try.checked os 9 .any (Rows.tcpOrderSpec.pre6 enc Try.prog Try.f9 Rows.tcpOrderRow.domain false) (Rows.tcpOrderSpec.post enc Try.prog Try.f9 false true false false) :=
  lifted started (by kernel_rfl) Try.func9
    (ChangeSpec.witness6 (enc := enc) (C := Try.checked) false ⟨#[], #[.int .u32 0, .int .u32 0, .int .u32 0], []⟩ 8 (by kernel_rfl) (by kernel_rfl) (by kernel_rfl) (by kernel_rfl))
    rfl (by kernel_rfl) (by kernel_rfl) ds_tcpOrder walked_tcpOrder
theorem tcpOrder_holds : Rows.TcpOrderSaid :=
  OpenClaim.holds_of_wide 9 Try.f9 rfl rfl rfl rfl rfl rfl rfl ⟨rfl, rfl, rfl, rfl, rfl⟩ rfl rfl rfl rfl rfl (by kernel_rfl) Try.func9 (by kernel_rfl)
    (of_decide_eq_true (by kernel_rfl)) (by unfold Func.isWrapper; first | (rw [if_pos (by decide +kernel)]; kernel_rfl) | (rw [if_neg (by decide +kernel)]; exact ⟨rfl, rfl⟩))
    (fun os started H enc _ => tcpOrder_lifted os started H enc)
#print axioms tcpOrder_holds
end Go.Proofs.Ytbhdojpgjmbogaa
