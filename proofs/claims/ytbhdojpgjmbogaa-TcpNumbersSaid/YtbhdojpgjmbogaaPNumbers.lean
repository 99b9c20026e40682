/- TcpNumbers: the row. -/
import Derived.Test.YtbhdojpgjmbogaaSegRow
import Derived.Test.YtbhdojpgjmbogaaLNumbers
namespace Go.Proofs.Ytbhdojpgjmbogaa
open Go.ChangeShapes Go.WideShapes Go.ChangeAt Go.RowKit
set_option maxRecDepth 100000
theorem walked_tcpNumbers : Walked 8 Try.f8 := by
  intro H enc W base args ds p hval hA hsz
  rw [Try.params8] at hA hval hsz
  obtain ⟨v0, vs0, d0, ds0, p0, q0, hargs, rfl, rfl, h0, r0⟩ := trodAll_cons hA
  obtain ⟨v1, vs1, d1, ds1, p1, q1, rfl, rfl, rfl, h1, r1⟩ := trodAll_cons r0
  obtain ⟨v2, vs2, d2, ds2, p2, q2, rfl, rfl, rfl, h2, r2⟩ := trodAll_cons r1
  obtain ⟨v3, vs3, d3, ds3, p3, q3, rfl, rfl, rfl, h3, r3⟩ := trodAll_cons r2
  obtain ⟨v4, vs4, d4, ds4, p4, q4, rfl, rfl, rfl, h4, r4⟩ := trodAll_cons r3
  obtain ⟨rfl, rfl, rfl⟩ := trodAll_nil r4
  obtain rfl : args = #[v0, v1, v2, v3, v4] := by cases args; simp_all
  obtain ⟨a, rfl, ha⟩ := open_u32 (hval 0 _ v0 rfl rfl)
  obtain ⟨b, rfl, hb⟩ := open_u32 (hval 1 _ v1 rfl rfl)
  obtain ⟨m, rfl⟩ := open_i64 (hval 2 _ v2 rfl rfl)
  obtain ⟨t, rfl⟩ := open_i64 (hval 3 _ v3 rfl rfl)
  obtain ⟨s, A, n, c, rfl, _, _, hda, hn⟩ := open_seg (hval 4 _ v4 rfl rfl) h4 (j := 4) rfl rfl hsz
  exact law_numbers a b m t s n c A hda (by omega) ha hb W
theorem ds_tcpNumbers {H : Type} : ∀ ds : List (DataW H), ds.length = Try.f8.params.toList.length → Rows.tcpNumbersSpec.fn H ds = { results := [.lit (.bool true)], args := ds } := by
  rw [Try.params8]
  intro ds h
  match ds, h with
  | [_, _, _, _, _], _ => rfl
theorem tcpNumbers_lifted (os : Os) (started : os.Started) (H : Type) (enc : TypeId × Value → H) :
    ReturnsInHanded {} Try.checked os 8 .any (Rows.tcpNumbersSpec.pre6 enc Try.prog Try.f8 Rows.tcpNumbersRow.domain false) (Rows.tcpNumbersSpec.post enc Try.prog Try.f8 false true false false) :=
  lifted started (by kernel_rfl) Try.func8
    (ChangeSpec.witness6 (enc := enc) (C := Try.checked) false ⟨#[], #[.int .u32 0, .int .u32 0, .int .i64 0, .int .i64 0, .agg #[.int .i64 0, .int .i64 0, .int .u32 0, .int .u32 0, .int .i64 0, .int .i64 0, .int .i64 0, .bool false, .slice none 0 0, .slice none 0 0]], []⟩ 8 (by kernel_rfl) (by kernel_rfl) (by kernel_rfl) (by kernel_rfl))
    rfl (by kernel_rfl) (by kernel_rfl) ds_tcpNumbers walked_tcpNumbers
theorem tcpNumbers_holds : Rows.TcpNumbersSaid :=
  OpenClaim.holds_of_wide 8 Try.f8 rfl rfl rfl rfl rfl rfl rfl ⟨rfl, rfl, rfl, rfl, rfl⟩ rfl rfl rfl rfl rfl (by kernel_rfl) Try.func8 (by kernel_rfl)
    (of_decide_eq_true (by kernel_rfl)) (by unfold Func.isWrapper; first | (rw [if_pos (by decide +kernel)]; kernel_rfl) | (rw [if_neg (by decide +kernel)]; exact ⟨rfl, rfl⟩))
    (fun os started H enc _ => tcpNumbers_lifted os started H enc)
#print axioms tcpNumbers_holds
end Go.Proofs.Ytbhdojpgjmbogaa
