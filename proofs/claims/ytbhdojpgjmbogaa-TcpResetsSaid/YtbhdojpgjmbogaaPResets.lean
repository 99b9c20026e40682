/- TcpResets: the row. -/
import Derived.Test.YtbhdojpgjmbogaaSegRow
import Derived.Test.YtbhdojpgjmbogaaLResets
namespace Go.Proofs.Ytbhdojpgjmbogaa
open Go.ChangeShapes Go.WideShapes Go.ChangeAt Go.RowKit
set_option maxRecDepth 100000
theorem walked_tcpResets : Walked 12 Try.f12 := by
  intro H enc W base args ds p hval hA hsz
  rw [Try.params12] at hA hval hsz
  obtain ⟨v0, vs0, d0, ds0, p0, q0, hargs, rfl, rfl, h0, r0⟩ := trodAll_cons hA
  obtain ⟨rfl, rfl, rfl⟩ := trodAll_nil r0
  obtain rfl : args = #[v0] := by cases args; simp_all
  obtain ⟨s, A, n, c, rfl, hq, hk, hda, hn⟩ := open_seg (hval 0 _ v0 rfl rfl) h0 (j := 0) rfl rfl hsz
  exact law_resets s n c A hda (by omega) hq W
theorem ds_tcpResets {H : Type} : ∀ ds : List (DataW H), ds.length = Try.f12.params.toList.length → Rows.tcpResetsSpec.fn H ds = { results := [.lit (.bool true)], args := ds } := by
  rw [Try.params12]
  intro ds h
  match ds, h with
  | [_], _ => rfl
theorem tcpResets_lifted (os : Os) (started : os.Started) (H : Type) (enc : TypeId × Value → H) :
    ReturnsInHanded {} Try.checked os 12 .any (Rows.tcpResetsSpec.pre6 enc Try.prog Try.f12 Rows.tcpResetsRow.domain false) (Rows.tcpResetsSpec.post enc Try.prog Try.f12 false true false false) :=
  lifted started (by kernel_rfl) Try.func12
    (ChangeSpec.witness6 (enc := enc) (C := Try.checked) false ⟨#[], #[.agg #[.int .i64 0, .int .i64 0, .int .u32 0, .int .u32 0, .int .i64 0, .int .i64 0, .int .i64 0, .bool false, .slice none 0 0, .slice none 0 0]], []⟩ 8 (by kernel_rfl) (by kernel_rfl) (by kernel_rfl) (by kernel_rfl))
    rfl (by kernel_rfl) (by kernel_rfl) ds_tcpResets walked_tcpResets
theorem tcpResets_holds : Rows.TcpResetsSaid :=
  OpenClaim.holds_of_wide 12 Try.f12 rfl rfl rfl rfl rfl rfl rfl ⟨rfl, rfl, rfl, rfl, rfl⟩ rfl rfl rfl rfl rfl (by kernel_rfl) Try.func12 (by kernel_rfl)
    (of_decide_eq_true (by kernel_rfl)) (by unfold Func.isWrapper; first | (rw [if_pos (by decide +kernel)]; kernel_rfl) | (rw [if_neg (by decide +kernel)]; exact ⟨rfl, rfl⟩))
    (fun os started H enc _ => tcpResets_lifted os started H enc)
#print axioms tcpResets_holds
end Go.Proofs.Ytbhdojpgjmbogaa
