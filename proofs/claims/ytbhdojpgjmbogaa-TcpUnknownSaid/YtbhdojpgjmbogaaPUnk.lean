/- TcpUnknown: the row. -/
import Derived.Test.YtbhdojpgjmbogaaSegRow2
import Derived.Test.YtbhdojpgjmbogaaLUnk
namespace Go.Proofs.Ytbhdojpgjmbogaa
open Go.ChangeShapes Go.WideShapes Go.ChangeAt Go.RowKit
set_option maxRecDepth 100000
theorem open_u8 {W : World} {base : Nat} {v : Value} (h : Value.okWide Try.prog W .any base 5 v) : ∃ x : UInt8, v = .int .u8 (x.toNat : Int) := by
  simp only [Value.okWide, Try.underlying5] at h
  exact okWide_u8 Try.underlying5 h
theorem walked_tcpUnknown : Walked 15 Try.f15 := by
  intro H enc W base args ds p hval hA hsz
  rw [Try.params15] at hA hval hsz
  obtain ⟨v0, vs0, d0, ds0, p0, q0, hargs, rfl, rfl, h0, r0⟩ := trodAll_cons hA
  obtain ⟨v1, vs1, d1, ds1, p1, q1, rfl, rfl, rfl, h1, r1⟩ := trodAll_cons r0
  obtain ⟨v2, vs2, d2, ds2, p2, q2, rfl, rfl, rfl, h2, r2⟩ := trodAll_cons r1
  obtain ⟨v3, vs3, d3, ds3, p3, q3, rfl, rfl, rfl, h3, r3⟩ := trodAll_cons r2
  obtain ⟨v4, vs4, d4, ds4, p4, q4, rfl, rfl, rfl, h4, r4⟩ := trodAll_cons r3
  obtain ⟨rfl, rfl, rfl⟩ := trodAll_nil r4
  obtain rfl : args = #[v0, v1, v2, v3, v4] := by cases args; simp_all
  obtain ⟨s, rfl⟩ := open_ip (hval 0 _ v0 rfl rfl)
  obtain ⟨d, rfl⟩ := open_ip (hval 1 _ v1 rfl rfl)
  obtain ⟨g, E, b, rfl, hq, ha, hgt, hU, hda, hbl, _, _⟩ := open_segS (hval 2 _ v2 rfl rfl) h2 (j := 2) rfl rfl hsz
  obtain ⟨kind, rfl⟩ := open_u8 (hval 3 _ v3 rfl rfl)
  obtain ⟨size, rfl⟩ := open_i64 (hval 4 _ v4 rfl rfl)
  exact law_unk s d g E b kind size W hq ha hgt hU hda
theorem ds_tcpUnknown {H : Type} : ∀ ds : List (DataW H), ds.length = Try.f15.params.toList.length → Rows.tcpUnknownSpec.fn H ds = { results := [.lit (.bool true)], args := ds } := by
  rw [Try.params15]
  intro ds h
  match ds, h with
  | [_, _, _, _, _], _ => rfl
theorem tcpUnknown_lifted (os : Os) (started : os.Started) (H : Type) (enc : TypeId × Value → H) :
    ReturnsInHanded {} Try.checked os 15 .any (Rows.tcpUnknownSpec.pre6 enc Try.prog Try.f15 Rows.tcpUnknownRow.domain false) (Rows.tcpUnknownSpec.post enc Try.prog Try.f15 false true false false) :=
  lifted started (by kernel_rfl) Try.func15
    (ChangeSpec.witness6 (enc := enc) (C := Try.checked) false ⟨#[], #[(⟨0, 0, 0, 0⟩ : IP).v, (⟨0, 0, 0, 0⟩ : IP).v, .agg #[.int .i64 0, .int .i64 0, .int .u32 0, .int .u32 0, .int .i64 0, .int .i64 0, .int .i64 0, .bool false, .slice none 0 0, .slice none 0 0], .int .u8 0, .int .i64 0], []⟩ 8 (by kernel_rfl) (by kernel_rfl) (by kernel_rfl) (by kernel_rfl))
    rfl (by kernel_rfl) (by kernel_rfl) ds_tcpUnknown walked_tcpUnknown
theorem tcpUnknown_holds : Rows.TcpUnknownSaid :=
  OpenClaim.holds_of_wide 15 Try.f15 rfl rfl rfl rfl rfl rfl rfl ⟨rfl, rfl, rfl, rfl, rfl⟩ rfl rfl rfl rfl rfl (by kernel_rfl) Try.func15 (by kernel_rfl)
    (of_decide_eq_true (by kernel_rfl)) (by unfold Func.isWrapper; first | (rw [if_pos (by decide +kernel)]; kernel_rfl) | (rw [if_neg (by decide +kernel)]; exact ⟨rfl, rfl⟩))
    (fun os started H enc _ => tcpUnknown_lifted os started H enc)
#print axioms tcpUnknown_holds
end Go.Proofs.Ytbhdojpgjmbogaa
