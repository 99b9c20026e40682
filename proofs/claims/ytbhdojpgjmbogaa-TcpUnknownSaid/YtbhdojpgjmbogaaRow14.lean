/- Openers for the rows of layer 14: a number of 32 bits. -/
import Derived.Test.YtbhdojpgjmbogaaRow
import Derived.Test.YtbhdojpgjmbogaaTAwake
namespace Go.Proofs.Ytbhdojpgjmbogaa
open Go.ChangeShapes Go.WideShapes Go.ChangeAt Go.RowKit
set_option maxRecDepth 100000
theorem okWide_u32 {P : Program} {W : World} {r : Reach} {base : Nat} {t : TypeId} {v : Value} (ht : P.underlying t = some (.int .u32)) (h : Value.okWide P W r base t v) : ∃ n : Int, v = .int .u32 n ∧ U32 n := by
  simp only [Value.okWide, ht, Cell.okWide] at h
  cases v <;> simp [Cell.ok, ht] at h
  obtain ⟨rfl, h'⟩ := h
  rename_i n
  simp [IntKind.has, IntKind.min, IntKind.max, IntKind.signed, IntKind.bits] at h'
  exact ⟨n, rfl, by unfold U32; omega⟩
theorem open_u32 {W : World} {base : Nat} {v : Value} (h : Value.okWide Try.prog W .any base 64 v) : ∃ n : Int, v = .int .u32 n ∧ U32 n := okWide_u32 Try.underlying64 h
end Go.Proofs.Ytbhdojpgjmbogaa
