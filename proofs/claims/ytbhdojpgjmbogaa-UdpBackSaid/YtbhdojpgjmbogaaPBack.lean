/- UdpBack: the row. -/
import Derived.Test.YtbhdojpgjmbogaaRow
import Derived.Test.YtbhdojpgjmbogaaLBack
namespace Go.Proofs.Ytbhdojpgjmbogaa
open Go.ChangeShapes Go.WideShapes Go.ChangeAt Go.RowKit
set_option maxRecDepth 100000
theorem walked_back : Walked 4 Try.f4 := by
  intro H enc W base args ds p hval hA hsz
  rw [Try.params4] at hA hval hsz
  obtain ⟨v0, vs0, d0, ds0, p0, q0, hargs, rfl, rfl, h0, r0⟩ := trodAll_cons hA
  obtain ⟨v1, vs1, d1, ds1, p1, q1, rfl, rfl, rfl, h1, r1⟩ := trodAll_cons r0
  obtain ⟨v2, vs2, d2, ds2, p2, q2, rfl, rfl, rfl, h2, r2⟩ := trodAll_cons r1
  obtain ⟨v3, vs3, d3, ds3, p3, q3, rfl, rfl, rfl, h3, r3⟩ := trodAll_cons r2
  obtain ⟨v4, vs4, d4, ds4, p4, q4, rfl, rfl, rfl, h4, r4⟩ := trodAll_cons r3
  obtain ⟨v5, vs5, d5, ds5, p5, q5, rfl, rfl, rfl, h5, r5⟩ := trodAll_cons r4
  obtain ⟨v6, vs6, d6, ds6, p6, q6, rfl, rfl, rfl, h6, r6⟩ := trodAll_cons r5
  obtain ⟨rfl, rfl, rfl⟩ := trodAll_nil r6
  obtain rfl : args = #[v0, v1, v2, v3, v4, v5, v6] := by cases args; simp_all
  obtain ⟨s, rfl⟩ := open_ip (hval 0 _ v0 rfl rfl)
  obtain ⟨d, rfl⟩ := open_ip (hval 1 _ v1 rfl rfl)
  obtain ⟨f, rfl⟩ := open_i64 (hval 2 _ v2 rfl rfl)
  obtain ⟨t, rfl⟩ := open_i64 (hval 3 _ v3 rfl rfl)
  obtain ⟨b, hb, hbl⟩ := open_bytes (hval 4 _ v4 rfl rfl) h4 (j := 4) rfl rfl hsz
  obtain ⟨raw, hr, hrl⟩ := open_bytes (hval 5 _ v5 rfl rfl) h5 (j := 5) rfl rfl hsz
  obtain ⟨bit, rfl⟩ := open_i64 (hval 6 _ v6 rfl rfl)
  exact law_back s d f t v4 v5 b raw bit W hb hr hbl hrl
theorem seven {H : Type} : ∀ ds : List (DataW H), ds.length = Try.f4.params.toList.length → Rows.udpBackSpec.fn H ds = { results := [.lit (.bool true)], args := ds } := by
  rw [Try.params4]
  intro ds h
  match ds, h with
  | [_, _, _, _, _, _, _], _ => rfl
theorem udpBack_lifted (os : Os) (started : os.Started) (H : Type) (enc : TypeId × Value → H) :
    ReturnsInHanded {} Try.checked os 4 .any (Rows.udpBackSpec.pre6 enc Try.prog Try.f4 Rows.udpBackRow.domain false) (Rows.udpBackSpec.post enc Try.prog Try.f4 false true false false) :=
  lifted started (by kernel_rfl) Try.func4
    (ChangeSpec.witness6 (enc := enc) (C := Try.checked) false ⟨#[], #[(⟨0, 0, 0, 0⟩ : IP).v, (⟨0, 0, 0, 0⟩ : IP).v, .int .i64 0, .int .i64 0, .slice none 0 0, .slice none 0 0, .int .i64 0], []⟩ 8 (by kernel_rfl) (by kernel_rfl) (by kernel_rfl) (by kernel_rfl))
    rfl (by kernel_rfl) (by kernel_rfl) seven walked_back
theorem udpBack_holds : Rows.UdpBackSaid :=
  OpenClaim.holds_of_wide 4 Try.f4 rfl rfl rfl rfl rfl rfl rfl ⟨rfl, rfl, rfl, rfl, rfl⟩ rfl rfl rfl rfl rfl (by kernel_rfl) Try.func4 (by kernel_rfl)
    (of_decide_eq_true (by kernel_rfl)) (by unfold Func.isWrapper; first | (rw [if_pos (by decide +kernel)]; kernel_rfl) | (rw [if_neg (by decide +kernel)]; exact ⟨rfl, rfl⟩))
    (fun os started H enc _ => udpBack_lifted os started H enc)
#print axioms udpBack_holds
end Go.Proofs.Ytbhdojpgjmbogaa
