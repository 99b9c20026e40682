/- TcpForms: the row. -/
import Derived.Test.YtbhdojpgjmbogaaSegRow3
import Derived.Test.YtbhdojpgjmbogaaLTForms
namespace Go.Proofs.Ytbhdojpgjmbogaa
open Go.ChangeShapes Go.WideShapes Go.ChangeAt Go.RowKit
set_option maxRecDepth 100000
theorem walked_tcpForms : Walked 10 Try.f10 := by
  intro H enc W base args ds p hval hA hsz
  rw [Try.params10] at hA hval hsz
  obtain ⟨v0, vs0, d0, ds0, p0, q0, hargs, rfl, rfl, h0, r0⟩ := trodAll_cons hA
  obtain ⟨v1, vs1, d1, ds1, p1, q1, rfl, rfl, rfl, h1, r1⟩ := trodAll_cons r0
  obtain ⟨v2, vs2, d2, ds2, p2, q2, rfl, rfl, rfl, h2, r2⟩ := trodAll_cons r1
  obtain ⟨v3, vs3, d3, ds3, p3, q3, rfl, rfl, rfl, h3, r3⟩ := trodAll_cons r2
  obtain ⟨rfl, rfl, rfl⟩ := trodAll_nil r3
  obtain rfl : args = #[v0, v1, v2, v3] := by cases args; simp_all
  obtain ⟨s, rfl⟩ := open_ip (hval 0 _ v0 rfl rfl)
  obtain ⟨d, rfl⟩ := open_ip (hval 1 _ v1 rfl rfl)
  obtain ⟨g, E, b, rfl, hq, ha, hgt, hU, hda, hbl, hif, hit, hEl⟩ := open_segT (hval 2 _ v2 rfl rfl) h2 (j := 2) rfl rfl hsz
  obtain ⟨raw, hr, hrl⟩ := open_bytes (hval 3 _ v3 rfl rfl) h3 (j := 3) rfl rfl hsz
  exact law_tforms s d g E b v3 raw W hq ha hif hit hgt hU hda hEl hbl hr hrl
theorem ds_tcpForms {H : Type} : ∀ ds : List (DataW H), ds.length = Try.f10.params.toList.length → Rows.tcpFormsSpec.fn H ds = { results := [.lit (.bool true)], args := ds } := by
  rw [Try.params10]
  intro ds h
  match ds, h with
  | [_, _, _, _], _ => rfl
theorem tcpForms_lifted (os : Os) (started : os.Started) (H : Type) (enc : TypeId × Value → H) :
    ReturnsInHanded {} Try.checked os 10 .any (Rows.tcpFormsSpec.pre6 enc Try.prog Try.f10 Rows.tcpFormsRow.domain false) (Rows.tcpFormsSpec.post enc Try.prog Try.f10 false true false false) :=
  lifted started (by kernel_rfl) Try.func10
    (ChangeSpec.witness6 (enc := enc) (C := Try.checked) false ⟨#[], #[(⟨0, 0, 0, 0⟩ : IP).v, (⟨0, 0, 0, 0⟩ : IP).v, .agg #[.int .i64 0, .int .i64 0, .int .u32 0, .int .u32 0, .int .i64 0, .int .i64 0, .int .i64 0, .bool false, .slice none 0 0, .slice none 0 0], .slice none 0 0], []⟩ 8 (by kernel_rfl) (by kernel_rfl) (by kernel_rfl) (by kernel_rfl))
    rfl (by kernel_rfl) (by kernel_rfl) ds_tcpForms walked_tcpForms
theorem tcpForms_holds : Rows.TcpFormsSaid :=
  OpenClaim.holds_of_wide 10 Try.f10 rfl rfl rfl rfl rfl rfl rfl ⟨rfl, rfl, rfl, rfl, rfl⟩ rfl rfl rfl rfl rfl (by kernel_rfl) Try.func10 (by kernel_rfl)
    (of_decide_eq_true (by kernel_rfl)) (by unfold Func.isWrapper; first | (rw [if_pos (by decide +kernel)]; kernel_rfl) | (rw [if_neg (by decide +kernel)]; exact ⟨rfl, rfl⟩))
    (fun os started H enc _ => tcpForms_lifted os started H enc)
#print axioms tcpForms_holds
end Go.Proofs.Ytbhdojpgjmbogaa
