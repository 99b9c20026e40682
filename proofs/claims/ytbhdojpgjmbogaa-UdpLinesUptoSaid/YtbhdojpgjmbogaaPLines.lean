/- UdpLines, the second form ('Upto'): the row. -/
import Derived.Test.YtbhdojpgjmbogaaRowD
import Derived.Test.YtbhdojpgjmbogaaLLines
import Derived.Deep.CondSized
namespace Go.Proofs.Ytbhdojpgjmbogaa
open Go.ChangeShapes Go.WideShapes Go.ChangeAt Go.RowKit
set_option maxRecDepth 100000
theorem udpLines_lifted (os : Os) (started : os.Started) (H : Type) (enc : TypeId × Value → H) (F : Stop.Interp) :
    ReturnsInHanded {} Try.checked os 7 .any ((Rows.OpenSpec.upto Rows.udpLinesSpec).pre6 enc Try.prog Try.f7 Rows.udpLinesUptoRow.domain false) (((Rows.OpenSpec.upto Rows.udpLinesSpec).at F).post enc Try.prog Try.f7 false true false false) := by
  refine returnsInHanded_of_cond_sized (C := Try.checked) (s := Rows.OpenSpec.upto Rows.udpLinesSpec) (k := Rows.uptoSmall) rfl Try.own started (by kernel_rfl) Try.func7
    (OpenSpec.witness (enc := enc) (C := Try.checked) (s := Rows.OpenSpec.upto Rows.udpLinesSpec) (k := Rows.uptoSmall) rfl false ⟨#[], #[.slice none 0 0, .slice none 0 0], []⟩ 8 (by kernel_rfl) (by kernel_rfl) (by kernel_rfl)
      (x := ([.nil, .nil], [], [])) (by kernel_rfl) rfl (by kernel_rfl)) ?_
  intro W base args ds gs before hval hW _ hk hsz _
  have hW' := hW
  obtain ⟨p, q, hA, hV, rfl, _, _⟩ := hW'
  have hV' := hV
  obtain ⟨rfl, rfl⟩ := trodVars_none hV'
  have hvt : (Rows.OpenSpec.upto Rows.udpLinesSpec).bare.plain.varTypes Try.checked.prog = [] := rfl
  rw [hvt, List.append_nil, List.append_nil] at hsz
  rw [List.append_nil] at hk
  rw [Try.params7] at hA hval hsz
  obtain ⟨v0, vs0, d0, ds0, p0, q0, hargs, rfl, rfl, h0, r0⟩ := trodAll_cons hA
  obtain ⟨v1, vs1, d1, ds1, p1, q1, rfl, rfl, rfl, h1, r1⟩ := trodAll_cons r0
  obtain ⟨rfl, rfl, rfl⟩ := trodAll_nil r1
  obtain rfl : args = #[v0, v1] := by cases args; simp_all
  have hk2 : Rows.uptoBulkAll [d0, d1] ≤ 1048576 := of_decide_eq_true hk
  simp only [Rows.uptoBulkAll] at hk2
  obtain ⟨l, hl, hll⟩ := open_dgrams (hval 0 _ v0 rfl rfl) h0 (by omega)
  obtain ⟨P, hP⟩ := open_rdB (hval 1 _ v1 rfl rfl) h1
  exact (law_lines v0 v1 l P W hl hP hll).mono fun e W' ⟨he, hB⟩ => ⟨_, he, answered (s := Rows.udpLinesSpec) rfl (by kernel_rfl) (by kernel_rfl) rfl hW hB⟩
theorem udpLines_upto : Rows.UdpLinesUptoSaid :=
  OpenClaim.holds_of_cond 7 Try.f7 rfl rfl rfl rfl rfl rfl rfl ⟨rfl, rfl, rfl, rfl, rfl⟩ rfl rfl rfl rfl rfl (by kernel_rfl) Try.func7 (by kernel_rfl)
    (of_decide_eq_true (by kernel_rfl)) (by unfold Func.isWrapper; first | (rw [if_pos (by decide +kernel)]; kernel_rfl) | (rw [if_neg (by decide +kernel)]; exact ⟨rfl, rfl⟩))
    (fun os started H enc _ F => udpLines_lifted os started H enc F)
#print axioms udpLines_upto
end Go.Proofs.Ytbhdojpgjmbogaa
