/-
  No cell of these rows narrows 'for every input' (looked for: loops, veiled, ifaces, maps, wideKeys, modest, calm, conditions, laid).
  DERIVED. THE GIVEN ROWS OF THIS SEAT. 4 by the template 'for every input the law returns true; each argument reads behind the call as it read before'; 0 by the template 'total and deterministic' (their statements: YtcnfcohfogbfhaaTotals.lean).
  GIVEN WITH THE SEED: the statements are not yours to turn. If you find one false, say at which input.
  Laid BY PROGRAM, IN A SANDBOX (cutbox-rows.mjs): the forced cells as the released guide's own fill.sh prints them over the translation 6eb469bdc33885a2… (all of the seat's roots in one cut). By AI agents, Wed Nov 11 2026. No macro, syntax, notation, axiom, sorry.
-/
import Derived.Test.YtcnfcohfogbfhaaChecked
import GoSem.Claim
import GoSem.ClaimJoined
import GoSem.ClaimMapViews
import Derived.JoinedTies
import Derived.KernelRfl
namespace Go.Proofs.Ytcnfcohfogbfhaa
/- THE CELL 'sum', in the pinned program and in every row, IS THE sha256 OF THE DUMP (.gsa) THAT YtcnfcohfogbfhaaProg.lean LOADS. Nothing in Lean hashes anything: it is a label: what it is worth is what the hold of that sum in a sandbox is worth. -/
noncomputable def Try.pinned : Pinned := { name := "ytcnfcohfogbfhaa", sum := "6eb469bdc33885a20d48fb8a2d7bbeb11c3dbfa21613a17c997fcd7635b434b5", checked := Try.checked }
namespace Rows
def none {H : Type} : Left H := { results := [], args := [] }

/-- 'packhorselaw05.WheelSteps': WHATEVER THE INPUT: true; the input reads as it did. -/
def wheelStepsSpec : ChangeSpec := { name := "wheelSteps", fn := fun _ => fun
  | [d1, d2, d3] => { results := [.lit (.bool true)], args := [d1, d2, d3] }
  | _ => none }
def wheelStepsRow : OpenClaim := { program := "ytcnfcohfogbfhaa", sum := "6eb469bdc33885a20d48fb8a2d7bbeb11c3dbfa21613a17c997fcd7635b434b5", func := "packhorse/packhorselaw05.WheelSteps", spec := "wheelSteps", unfollowed := true, recurses := true, apart := false }
def WheelStepsSaid : Prop := wheelStepsRow.holds Try.pinned (OpenSpec.ofChange wheelStepsSpec)

/-- ITS FALSE NEIGHBOUR: 'it returns false'. Refute it at one input. -/
def wheelStepsWrong : ChangeSpec := { name := "wheelSteps", fn := fun _ => fun
  | [d1, d2, d3] => { results := [.lit (.bool false)], args := [d1, d2, d3] }
  | _ => none }
def WheelStepsWrongFalsely : Prop := wheelStepsRow.holds Try.pinned (OpenSpec.ofChange wheelStepsWrong)

/-- 'packhorselaw05.WheelFull': WHATEVER THE INPUT: true; the input reads as it did. -/
def wheelFullSpec : ChangeSpec := { name := "wheelFull", fn := fun _ => fun
  | [d] => { results := [.lit (.bool true)], args := [d] }
  | _ => none }
def wheelFullRow : OpenClaim := { program := "ytcnfcohfogbfhaa", sum := "6eb469bdc33885a20d48fb8a2d7bbeb11c3dbfa21613a17c997fcd7635b434b5", func := "packhorse/packhorselaw05.WheelFull", spec := "wheelFull", unfollowed := true, recurses := true, apart := false }
def WheelFullSaid : Prop := wheelFullRow.holds Try.pinned (OpenSpec.ofChange wheelFullSpec)

/-- ITS FALSE NEIGHBOUR: 'it returns false'. Refute it at one input. -/
def wheelFullWrong : ChangeSpec := { name := "wheelFull", fn := fun _ => fun
  | [d] => { results := [.lit (.bool false)], args := [d] }
  | _ => none }
def WheelFullWrongFalsely : Prop := wheelFullRow.holds Try.pinned (OpenSpec.ofChange wheelFullWrong)

/-- 'packhorselaw05.WheelDoes': WHATEVER THE INPUT: true; the input reads as it did. -/
def wheelDoesSpec : ChangeSpec := { name := "wheelDoes", fn := fun _ => fun
  | [d1, d2] => { results := [.lit (.bool true)], args := [d1, d2] }
  | _ => none }
def wheelDoesRow : OpenClaim := { program := "ytcnfcohfogbfhaa", sum := "6eb469bdc33885a20d48fb8a2d7bbeb11c3dbfa21613a17c997fcd7635b434b5", func := "packhorse/packhorselaw05.WheelDoes", spec := "wheelDoes", unfollowed := true, recurses := true, apart := false }
def WheelDoesSaid : Prop := wheelDoesRow.holds Try.pinned (OpenSpec.ofChange wheelDoesSpec)

/-- ITS FALSE NEIGHBOUR: 'it returns false'. Refute it at one input. -/
def wheelDoesWrong : ChangeSpec := { name := "wheelDoes", fn := fun _ => fun
  | [d1, d2] => { results := [.lit (.bool false)], args := [d1, d2] }
  | _ => none }
def WheelDoesWrongFalsely : Prop := wheelDoesRow.holds Try.pinned (OpenSpec.ofChange wheelDoesWrong)

/-- 'packhorselaw05.WheelOrder': WHATEVER THE INPUT: true; the input reads as it did. -/
def wheelOrderSpec : ChangeSpec := { name := "wheelOrder", fn := fun _ => fun
  | [d1, d2, d3] => { results := [.lit (.bool true)], args := [d1, d2, d3] }
  | _ => none }
def wheelOrderRow : OpenClaim := { program := "ytcnfcohfogbfhaa", sum := "6eb469bdc33885a20d48fb8a2d7bbeb11c3dbfa21613a17c997fcd7635b434b5", func := "packhorse/packhorselaw05.WheelOrder", spec := "wheelOrder", unfollowed := true, recurses := true, apart := false }
def WheelOrderSaid : Prop := wheelOrderRow.holds Try.pinned (OpenSpec.ofChange wheelOrderSpec)

/-- ITS FALSE NEIGHBOUR: 'it returns false'. Refute it at one input. -/
def wheelOrderWrong : ChangeSpec := { name := "wheelOrder", fn := fun _ => fun
  | [d1, d2, d3] => { results := [.lit (.bool false)], args := [d1, d2, d3] }
  | _ => none }
def WheelOrderWrongFalsely : Prop := wheelOrderRow.holds Try.pinned (OpenSpec.ofChange wheelOrderWrong)

/- THE SECOND FORM. 'bulk': how many values and letters a reading holds, each counted each time it is reached (what is shared counts as often as it is met; a slice's spare places count too). A statement '..UptoSaid' is the law's where the arguments, and the package variables that the reading takes, are together of bulk at most 1048576: NARROWER than '..Said'. Prove '..Said' where nothing that the law and all that it calls make is longer than what came in: it says more and counts as full. Else prove '..UptoSaid'. A law counts once. -/
mutual
def uptoBulk {H : Type} : DataW H → Nat
  | .lit (.string bytes) => bytes.length + 1
  | .lit _ => 1
  | .nil => 1
  | .ptr d => uptoBulk d + 1
  | .slice elems spare => uptoBulkAll elems + uptoBulkAll spare + 1
  | .agg parts => uptoBulkAll parts + 1
  | .iface _ d => uptoBulk d + 1
  | .map entries => uptoBulkEntries entries + 1
  | .held _ => 1
def uptoBulkAll {H : Type} : List (DataW H) → Nat
  | [] => 0
  | d :: r => uptoBulk d + uptoBulkAll r
def uptoBulkEntries {H : Type} : List (Lit × DataW H) → Nat
  | [] => 0
  | x :: r => uptoBulkEntry x + uptoBulkEntries r
def uptoBulkEntry {H : Type} : Lit × DataW H → Nat
  | (.string bytes, d) => bytes.length + uptoBulk d + 1
  | (_, d) => uptoBulk d + 1
 end
def uptoSmall : (H : Type) → List (DataW H) → Bool := fun _ ds => decide (uptoBulkAll ds ≤ 1048576)
def OpenSpec.upto (s : _root_.Go.ChangeSpec) : _root_.Go.OpenSpec := { _root_.Go.OpenSpec.ofChange s with cond := some uptoSmall }

/-- 'packhorselaw05.WheelSteps', WHERE WHAT IT READS IS OF BULK AT MOST 1048576: true; the input reads as it did. -/
def wheelStepsUptoRow : OpenClaim := { program := "ytcnfcohfogbfhaa", sum := "6eb469bdc33885a20d48fb8a2d7bbeb11c3dbfa21613a17c997fcd7635b434b5", func := "packhorse/packhorselaw05.WheelSteps", spec := "wheelSteps", unfollowed := true, recurses := true, apart := false, narrowed := true }
def WheelStepsUptoSaid : Prop := wheelStepsUptoRow.holds Try.pinned (OpenSpec.upto wheelStepsSpec)

/-- 'packhorselaw05.WheelFull', WHERE WHAT IT READS IS OF BULK AT MOST 1048576: true; the input reads as it did. -/
def wheelFullUptoRow : OpenClaim := { program := "ytcnfcohfogbfhaa", sum := "6eb469bdc33885a20d48fb8a2d7bbeb11c3dbfa21613a17c997fcd7635b434b5", func := "packhorse/packhorselaw05.WheelFull", spec := "wheelFull", unfollowed := true, recurses := true, apart := false, narrowed := true }
def WheelFullUptoSaid : Prop := wheelFullUptoRow.holds Try.pinned (OpenSpec.upto wheelFullSpec)

/-- 'packhorselaw05.WheelDoes', WHERE WHAT IT READS IS OF BULK AT MOST 1048576: true; the input reads as it did. -/
def wheelDoesUptoRow : OpenClaim := { program := "ytcnfcohfogbfhaa", sum := "6eb469bdc33885a20d48fb8a2d7bbeb11c3dbfa21613a17c997fcd7635b434b5", func := "packhorse/packhorselaw05.WheelDoes", spec := "wheelDoes", unfollowed := true, recurses := true, apart := false, narrowed := true }
def WheelDoesUptoSaid : Prop := wheelDoesUptoRow.holds Try.pinned (OpenSpec.upto wheelDoesSpec)

/-- 'packhorselaw05.WheelOrder', WHERE WHAT IT READS IS OF BULK AT MOST 1048576: true; the input reads as it did. -/
def wheelOrderUptoRow : OpenClaim := { program := "ytcnfcohfogbfhaa", sum := "6eb469bdc33885a20d48fb8a2d7bbeb11c3dbfa21613a17c997fcd7635b434b5", func := "packhorse/packhorselaw05.WheelOrder", spec := "wheelOrder", unfollowed := true, recurses := true, apart := false, narrowed := true }
def WheelOrderUptoSaid : Prop := wheelOrderUptoRow.holds Try.pinned (OpenSpec.upto wheelOrderSpec)

end Rows
end Go.Proofs.Ytcnfcohfogbfhaa
