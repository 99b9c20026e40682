/-
  No cell of these rows narrows 'for every input' (looked for: loops, veiled, ifaces, maps, wideKeys, modest, calm, conditions, laid).
  DERIVED. THE GIVEN ROWS OF THIS SEAT. 13 by the template 'for every input the law returns true; each argument reads behind the call as it read before'; 0 by the template 'total and deterministic' (their statements: YtbhdojpgjmbogaaTotals.lean).
  GIVEN WITH THE SEED: the statements are not yours to turn. If you find one false, say at which input.
  Laid BY PROGRAM, IN A SANDBOX (cutbox-rows.mjs): the forced cells as the released guide's own fill.sh prints them over the translation 50c7006a7426569e… (all of the seat's roots in one cut). By AI agents, Wed Nov 11 2026. No macro, syntax, notation, axiom, sorry.
-/
import Derived.Test.YtbhdojpgjmbogaaChecked
import GoSem.Claim
import GoSem.ClaimJoined
import GoSem.ClaimMapViews
import Derived.JoinedTies
import Derived.KernelRfl
namespace Go.Proofs.Ytbhdojpgjmbogaa
/- THE CELL 'sum', in the pinned program and in every row, IS THE sha256 OF THE DUMP (.gsa) THAT YtbhdojpgjmbogaaProg.lean LOADS. Nothing in Lean hashes anything: it is a label: what it is worth is what the hold of that sum in a sandbox is worth. -/
noncomputable def Try.pinned : Pinned := { name := "ytbhdojpgjmbogaa", sum := "50c7006a7426569e87e6e34fce1de2ed513f4d22987c03cd5fe75d61a2d954ce", checked := Try.checked }
namespace Rows
def none {H : Type} : Left H := { results := [], args := [] }

/-- 'packhorselaw13.UdpForms': WHATEVER THE INPUT: true; the input reads as it did. -/
def udpFormsSpec : ChangeSpec := { name := "udpForms", fn := fun _ => fun
  | [d1, d2, d3, d4, d5, d6] => { results := [.lit (.bool true)], args := [d1, d2, d3, d4, d5, d6] }
  | _ => none }
def udpFormsRow : OpenClaim := { program := "ytbhdojpgjmbogaa", sum := "50c7006a7426569e87e6e34fce1de2ed513f4d22987c03cd5fe75d61a2d954ce", func := "packhorse/packhorselaw13.UdpForms", spec := "udpForms", unfollowed := true, recurses := true, apart := false }
def UdpFormsSaid : Prop := udpFormsRow.holds Try.pinned (OpenSpec.ofChange udpFormsSpec)

/-- ITS FALSE NEIGHBOUR: 'it returns false'. Refute it at one input. -/
def udpFormsWrong : ChangeSpec := { name := "udpForms", fn := fun _ => fun
  | [d1, d2, d3, d4, d5, d6] => { results := [.lit (.bool false)], args := [d1, d2, d3, d4, d5, d6] }
  | _ => none }
def UdpFormsWrongFalsely : Prop := udpFormsRow.holds Try.pinned (OpenSpec.ofChange udpFormsWrong)

/-- 'packhorselaw13.UdpBack': WHATEVER THE INPUT: true; the input reads as it did. -/
def udpBackSpec : ChangeSpec := { name := "udpBack", fn := fun _ => fun
  | [d1, d2, d3, d4, d5, d6, d7] => { results := [.lit (.bool true)], args := [d1, d2, d3, d4, d5, d6, d7] }
  | _ => none }
def udpBackRow : OpenClaim := { program := "ytbhdojpgjmbogaa", sum := "50c7006a7426569e87e6e34fce1de2ed513f4d22987c03cd5fe75d61a2d954ce", func := "packhorse/packhorselaw13.UdpBack", spec := "udpBack", unfollowed := true, recurses := true, apart := false }
def UdpBackSaid : Prop := udpBackRow.holds Try.pinned (OpenSpec.ofChange udpBackSpec)

/-- ITS FALSE NEIGHBOUR: 'it returns false'. Refute it at one input. -/
def udpBackWrong : ChangeSpec := { name := "udpBack", fn := fun _ => fun
  | [d1, d2, d3, d4, d5, d6, d7] => { results := [.lit (.bool false)], args := [d1, d2, d3, d4, d5, d6, d7] }
  | _ => none }
def UdpBackWrongFalsely : Prop := udpBackRow.holds Try.pinned (OpenSpec.ofChange udpBackWrong)

/-- 'packhorselaw13.UdpPorts': WHATEVER THE INPUT: true; the input reads as it did. -/
def udpPortsSpec : ChangeSpec := { name := "udpPorts", fn := fun _ => fun
  | [d] => { results := [.lit (.bool true)], args := [d] }
  | _ => none }
def udpPortsRow : OpenClaim := { program := "ytbhdojpgjmbogaa", sum := "50c7006a7426569e87e6e34fce1de2ed513f4d22987c03cd5fe75d61a2d954ce", func := "packhorse/packhorselaw13.UdpPorts", spec := "udpPorts", unfollowed := true, recurses := true, apart := false }
def UdpPortsSaid : Prop := udpPortsRow.holds Try.pinned (OpenSpec.ofChange udpPortsSpec)

/-- ITS FALSE NEIGHBOUR: 'it returns false'. Refute it at one input. -/
def udpPortsWrong : ChangeSpec := { name := "udpPorts", fn := fun _ => fun
  | [d] => { results := [.lit (.bool false)], args := [d] }
  | _ => none }
def UdpPortsWrongFalsely : Prop := udpPortsRow.holds Try.pinned (OpenSpec.ofChange udpPortsWrong)

/-- 'packhorselaw13.UdpFree': WHATEVER THE INPUT: true; the input reads as it did. -/
def udpFreeSpec : ChangeSpec := { name := "udpFree", fn := fun _ => fun
  | [d] => { results := [.lit (.bool true)], args := [d] }
  | _ => none }
def udpFreeRow : OpenClaim := { program := "ytbhdojpgjmbogaa", sum := "50c7006a7426569e87e6e34fce1de2ed513f4d22987c03cd5fe75d61a2d954ce", func := "packhorse/packhorselaw13.UdpFree", spec := "udpFree", unfollowed := true, recurses := true, apart := false }
def UdpFreeSaid : Prop := udpFreeRow.holds Try.pinned (OpenSpec.ofChange udpFreeSpec)

/-- ITS FALSE NEIGHBOUR: 'it returns false'. Refute it at one input. -/
def udpFreeWrong : ChangeSpec := { name := "udpFree", fn := fun _ => fun
  | [d] => { results := [.lit (.bool false)], args := [d] }
  | _ => none }
def UdpFreeWrongFalsely : Prop := udpFreeRow.holds Try.pinned (OpenSpec.ofChange udpFreeWrong)

/-- 'packhorselaw13.UdpLines': WHATEVER THE INPUT: true; the input reads as it did. -/
def udpLinesSpec : ChangeSpec := { name := "udpLines", fn := fun _ => fun
  | [d1, d2] => { results := [.lit (.bool true)], args := [d1, d2] }
  | _ => none }
def udpLinesRow : OpenClaim := { program := "ytbhdojpgjmbogaa", sum := "50c7006a7426569e87e6e34fce1de2ed513f4d22987c03cd5fe75d61a2d954ce", func := "packhorse/packhorselaw13.UdpLines", spec := "udpLines", unfollowed := true, recurses := true, apart := false }
def UdpLinesSaid : Prop := udpLinesRow.holds Try.pinned (OpenSpec.ofChange udpLinesSpec)

/-- ITS FALSE NEIGHBOUR: 'it returns false'. Refute it at one input. -/
def udpLinesWrong : ChangeSpec := { name := "udpLines", fn := fun _ => fun
  | [d1, d2] => { results := [.lit (.bool false)], args := [d1, d2] }
  | _ => none }
def UdpLinesWrongFalsely : Prop := udpLinesRow.holds Try.pinned (OpenSpec.ofChange udpLinesWrong)

/-- 'packhorselaw14.TcpNumbers': WHATEVER THE INPUT: true; the input reads as it did. -/
def tcpNumbersSpec : ChangeSpec := { name := "tcpNumbers", fn := fun _ => fun
  | [d1, d2, d3, d4, d5] => { results := [.lit (.bool true)], args := [d1, d2, d3, d4, d5] }
  | _ => none }
def tcpNumbersRow : OpenClaim := { program := "ytbhdojpgjmbogaa", sum := "50c7006a7426569e87e6e34fce1de2ed513f4d22987c03cd5fe75d61a2d954ce", func := "packhorse/packhorselaw14.TcpNumbers", spec := "tcpNumbers", unfollowed := true, recurses := true, apart := false }
def TcpNumbersSaid : Prop := tcpNumbersRow.holds Try.pinned (OpenSpec.ofChange tcpNumbersSpec)

/-- ITS FALSE NEIGHBOUR: 'it returns false'. Refute it at one input. -/
def tcpNumbersWrong : ChangeSpec := { name := "tcpNumbers", fn := fun _ => fun
  | [d1, d2, d3, d4, d5] => { results := [.lit (.bool false)], args := [d1, d2, d3, d4, d5] }
  | _ => none }
def TcpNumbersWrongFalsely : Prop := tcpNumbersRow.holds Try.pinned (OpenSpec.ofChange tcpNumbersWrong)

/-- 'packhorselaw14.TcpOrder': WHATEVER THE INPUT: true; the input reads as it did. -/
def tcpOrderSpec : ChangeSpec := { name := "tcpOrder", fn := fun _ => fun
  | [d1, d2, d3] => { results := [.lit (.bool true)], args := [d1, d2, d3] }
  | _ => none }
def tcpOrderRow : OpenClaim := { program := "ytbhdojpgjmbogaa", sum := "50c7006a7426569e87e6e34fce1de2ed513f4d22987c03cd5fe75d61a2d954ce", func := "packhorse/packhorselaw14.TcpOrder", spec := "tcpOrder", unfollowed := true, recurses := true, apart := false }
def TcpOrderSaid : Prop := tcpOrderRow.holds Try.pinned (OpenSpec.ofChange tcpOrderSpec)

/-- ITS FALSE NEIGHBOUR: 'it returns false'. Refute it at one input. -/
def tcpOrderWrong : ChangeSpec := { name := "tcpOrder", fn := fun _ => fun
  | [d1, d2, d3] => { results := [.lit (.bool false)], args := [d1, d2, d3] }
  | _ => none }
def TcpOrderWrongFalsely : Prop := tcpOrderRow.holds Try.pinned (OpenSpec.ofChange tcpOrderWrong)

/-- 'packhorselaw14.TcpForms': WHATEVER THE INPUT: true; the input reads as it did. -/
def tcpFormsSpec : ChangeSpec := { name := "tcpForms", fn := fun _ => fun
  | [d1, d2, d3, d4] => { results := [.lit (.bool true)], args := [d1, d2, d3, d4] }
  | _ => none }
def tcpFormsRow : OpenClaim := { program := "ytbhdojpgjmbogaa", sum := "50c7006a7426569e87e6e34fce1de2ed513f4d22987c03cd5fe75d61a2d954ce", func := "packhorse/packhorselaw14.TcpForms", spec := "tcpForms", unfollowed := true, recurses := true, apart := false }
def TcpFormsSaid : Prop := tcpFormsRow.holds Try.pinned (OpenSpec.ofChange tcpFormsSpec)

/-- ITS FALSE NEIGHBOUR: 'it returns false'. Refute it at one input. -/
def tcpFormsWrong : ChangeSpec := { name := "tcpForms", fn := fun _ => fun
  | [d1, d2, d3, d4] => { results := [.lit (.bool false)], args := [d1, d2, d3, d4] }
  | _ => none }
def TcpFormsWrongFalsely : Prop := tcpFormsRow.holds Try.pinned (OpenSpec.ofChange tcpFormsWrong)

/-- 'packhorselaw14.TcpBack': WHATEVER THE INPUT: true; the input reads as it did. -/
def tcpBackSpec : ChangeSpec := { name := "tcpBack", fn := fun _ => fun
  | [d1, d2, d3, d4] => { results := [.lit (.bool true)], args := [d1, d2, d3, d4] }
  | _ => none }
def tcpBackRow : OpenClaim := { program := "ytbhdojpgjmbogaa", sum := "50c7006a7426569e87e6e34fce1de2ed513f4d22987c03cd5fe75d61a2d954ce", func := "packhorse/packhorselaw14.TcpBack", spec := "tcpBack", unfollowed := true, recurses := true, apart := false }
def TcpBackSaid : Prop := tcpBackRow.holds Try.pinned (OpenSpec.ofChange tcpBackSpec)

/-- ITS FALSE NEIGHBOUR: 'it returns false'. Refute it at one input. -/
def tcpBackWrong : ChangeSpec := { name := "tcpBack", fn := fun _ => fun
  | [d1, d2, d3, d4] => { results := [.lit (.bool false)], args := [d1, d2, d3, d4] }
  | _ => none }
def TcpBackWrongFalsely : Prop := tcpBackRow.holds Try.pinned (OpenSpec.ofChange tcpBackWrong)

/-- 'packhorselaw14.TcpResets': WHATEVER THE INPUT: true; the input reads as it did. -/
def tcpResetsSpec : ChangeSpec := { name := "tcpResets", fn := fun _ => fun
  | [d] => { results := [.lit (.bool true)], args := [d] }
  | _ => none }
def tcpResetsRow : OpenClaim := { program := "ytbhdojpgjmbogaa", sum := "50c7006a7426569e87e6e34fce1de2ed513f4d22987c03cd5fe75d61a2d954ce", func := "packhorse/packhorselaw14.TcpResets", spec := "tcpResets", unfollowed := true, recurses := true, apart := false }
def TcpResetsSaid : Prop := tcpResetsRow.holds Try.pinned (OpenSpec.ofChange tcpResetsSpec)

/-- ITS FALSE NEIGHBOUR: 'it returns false'. Refute it at one input. -/
def tcpResetsWrong : ChangeSpec := { name := "tcpResets", fn := fun _ => fun
  | [d] => { results := [.lit (.bool false)], args := [d] }
  | _ => none }
def TcpResetsWrongFalsely : Prop := tcpResetsRow.holds Try.pinned (OpenSpec.ofChange tcpResetsWrong)

/-- 'packhorselaw14.TcpFirsts': WHATEVER THE INPUT: true; the input reads as it did. -/
def tcpFirstsSpec : ChangeSpec := { name := "tcpFirsts", fn := fun _ => fun
  | [d1, d2, d3] => { results := [.lit (.bool true)], args := [d1, d2, d3] }
  | _ => none }
def tcpFirstsRow : OpenClaim := { program := "ytbhdojpgjmbogaa", sum := "50c7006a7426569e87e6e34fce1de2ed513f4d22987c03cd5fe75d61a2d954ce", func := "packhorse/packhorselaw14.TcpFirsts", spec := "tcpFirsts", unfollowed := true, recurses := true, apart := false }
def TcpFirstsSaid : Prop := tcpFirstsRow.holds Try.pinned (OpenSpec.ofChange tcpFirstsSpec)

/-- ITS FALSE NEIGHBOUR: 'it returns false'. Refute it at one input. -/
def tcpFirstsWrong : ChangeSpec := { name := "tcpFirsts", fn := fun _ => fun
  | [d1, d2, d3] => { results := [.lit (.bool false)], args := [d1, d2, d3] }
  | _ => none }
def TcpFirstsWrongFalsely : Prop := tcpFirstsRow.holds Try.pinned (OpenSpec.ofChange tcpFirstsWrong)

/-- 'packhorselaw14.TcpSizes': WHATEVER THE INPUT: true; the input reads as it did. -/
def tcpSizesSpec : ChangeSpec := { name := "tcpSizes", fn := fun _ => fun
  | [d] => { results := [.lit (.bool true)], args := [d] }
  | _ => none }
def tcpSizesRow : OpenClaim := { program := "ytbhdojpgjmbogaa", sum := "50c7006a7426569e87e6e34fce1de2ed513f4d22987c03cd5fe75d61a2d954ce", func := "packhorse/packhorselaw14.TcpSizes", spec := "tcpSizes", unfollowed := true, recurses := true, apart := false }
def TcpSizesSaid : Prop := tcpSizesRow.holds Try.pinned (OpenSpec.ofChange tcpSizesSpec)

/-- ITS FALSE NEIGHBOUR: 'it returns false'. Refute it at one input. -/
def tcpSizesWrong : ChangeSpec := { name := "tcpSizes", fn := fun _ => fun
  | [d] => { results := [.lit (.bool false)], args := [d] }
  | _ => none }
def TcpSizesWrongFalsely : Prop := tcpSizesRow.holds Try.pinned (OpenSpec.ofChange tcpSizesWrong)

/-- 'packhorselaw14.TcpUnknown': WHATEVER THE INPUT: true; the input reads as it did. -/
def tcpUnknownSpec : ChangeSpec := { name := "tcpUnknown", fn := fun _ => fun
  | [d1, d2, d3, d4, d5] => { results := [.lit (.bool true)], args := [d1, d2, d3, d4, d5] }
  | _ => none }
def tcpUnknownRow : OpenClaim := { program := "ytbhdojpgjmbogaa", sum := "50c7006a7426569e87e6e34fce1de2ed513f4d22987c03cd5fe75d61a2d954ce", func := "packhorse/packhorselaw14.TcpUnknown", spec := "tcpUnknown", unfollowed := true, recurses := true, apart := false }
def TcpUnknownSaid : Prop := tcpUnknownRow.holds Try.pinned (OpenSpec.ofChange tcpUnknownSpec)

/-- ITS FALSE NEIGHBOUR: 'it returns false'. Refute it at one input. -/
def tcpUnknownWrong : ChangeSpec := { name := "tcpUnknown", fn := fun _ => fun
  | [d1, d2, d3, d4, d5] => { results := [.lit (.bool false)], args := [d1, d2, d3, d4, d5] }
  | _ => none }
def TcpUnknownWrongFalsely : Prop := tcpUnknownRow.holds Try.pinned (OpenSpec.ofChange tcpUnknownWrong)

/- THE SECOND FORM. 'bulk': how many values and letters a reading holds, each counted each time it is reached (what is shared counts as often as it is met; a slice's spare places count too). A statement '..UptoSaid' is the law's where the arguments, and the package variables that the reading takes, are together of bulk at most 1048576: NARROWER than '..Said'. Prove '..Said' where nothing that the law and all that it calls make is longer than what came in: it says more and counts as full. Else prove '..UptoSaid'. A law counts once. -/
mutual
def uptoBulk {H : Type} : DataW H → Nat
  | .lit (.string bytes) => bytes.length + 1
  | .lit _ => 1
  | .nil => 1
  | .ptr d => uptoBulk d + 1
  | .slice elems spare => uptoBulkAll elems + uptoBulkAll spare + 1
  | .agg parts => uptoBulkAll parts + 1
  | .iface _ d => uptoBulk d + 1
  | .map entries => uptoBulkEntries entries + 1
  | .held _ => 1
def uptoBulkAll {H : Type} : List (DataW H) → Nat
  | [] => 0
  | d :: r => uptoBulk d + uptoBulkAll r
def uptoBulkEntries {H : Type} : List (Lit × DataW H) → Nat
  | [] => 0
  | x :: r => uptoBulkEntry x + uptoBulkEntries r
def uptoBulkEntry {H : Type} : Lit × DataW H → Nat
  | (.string bytes, d) => bytes.length + uptoBulk d + 1
  | (_, d) => uptoBulk d + 1
 end
def uptoSmall : (H : Type) → List (DataW H) → Bool := fun _ ds => decide (uptoBulkAll ds ≤ 1048576)
def OpenSpec.upto (s : _root_.Go.ChangeSpec) : _root_.Go.OpenSpec := { _root_.Go.OpenSpec.ofChange s with cond := some uptoSmall }

/-- 'packhorselaw13.UdpForms', WHERE WHAT IT READS IS OF BULK AT MOST 1048576: true; the input reads as it did. -/
def udpFormsUptoRow : OpenClaim := { program := "ytbhdojpgjmbogaa", sum := "50c7006a7426569e87e6e34fce1de2ed513f4d22987c03cd5fe75d61a2d954ce", func := "packhorse/packhorselaw13.UdpForms", spec := "udpForms", unfollowed := true, recurses := true, apart := false, narrowed := true }
def UdpFormsUptoSaid : Prop := udpFormsUptoRow.holds Try.pinned (OpenSpec.upto udpFormsSpec)

/-- 'packhorselaw13.UdpBack', WHERE WHAT IT READS IS OF BULK AT MOST 1048576: true; the input reads as it did. -/
def udpBackUptoRow : OpenClaim := { program := "ytbhdojpgjmbogaa", sum := "50c7006a7426569e87e6e34fce1de2ed513f4d22987c03cd5fe75d61a2d954ce", func := "packhorse/packhorselaw13.UdpBack", spec := "udpBack", unfollowed := true, recurses := true, apart := false, narrowed := true }
def UdpBackUptoSaid : Prop := udpBackUptoRow.holds Try.pinned (OpenSpec.upto udpBackSpec)

/-- 'packhorselaw13.UdpPorts', WHERE WHAT IT READS IS OF BULK AT MOST 1048576: true; the input reads as it did. -/
def udpPortsUptoRow : OpenClaim := { program := "ytbhdojpgjmbogaa", sum := "50c7006a7426569e87e6e34fce1de2ed513f4d22987c03cd5fe75d61a2d954ce", func := "packhorse/packhorselaw13.UdpPorts", spec := "udpPorts", unfollowed := true, recurses := true, apart := false, narrowed := true }
def UdpPortsUptoSaid : Prop := udpPortsUptoRow.holds Try.pinned (OpenSpec.upto udpPortsSpec)

/-- 'packhorselaw13.UdpFree', WHERE WHAT IT READS IS OF BULK AT MOST 1048576: true; the input reads as it did. -/
def udpFreeUptoRow : OpenClaim := { program := "ytbhdojpgjmbogaa", sum := "50c7006a7426569e87e6e34fce1de2ed513f4d22987c03cd5fe75d61a2d954ce", func := "packhorse/packhorselaw13.UdpFree", spec := "udpFree", unfollowed := true, recurses := true, apart := false, narrowed := true }
def UdpFreeUptoSaid : Prop := udpFreeUptoRow.holds Try.pinned (OpenSpec.upto udpFreeSpec)

/-- 'packhorselaw13.UdpLines', WHERE WHAT IT READS IS OF BULK AT MOST 1048576: true; the input reads as it did. -/
def udpLinesUptoRow : OpenClaim := { program := "ytbhdojpgjmbogaa", sum := "50c7006a7426569e87e6e34fce1de2ed513f4d22987c03cd5fe75d61a2d954ce", func := "packhorse/packhorselaw13.UdpLines", spec := "udpLines", unfollowed := true, recurses := true, apart := false, narrowed := true }
def UdpLinesUptoSaid : Prop := udpLinesUptoRow.holds Try.pinned (OpenSpec.upto udpLinesSpec)

/-- 'packhorselaw14.TcpNumbers', WHERE WHAT IT READS IS OF BULK AT MOST 1048576: true; the input reads as it did. -/
def tcpNumbersUptoRow : OpenClaim := { program := "ytbhdojpgjmbogaa", sum := "50c7006a7426569e87e6e34fce1de2ed513f4d22987c03cd5fe75d61a2d954ce", func := "packhorse/packhorselaw14.TcpNumbers", spec := "tcpNumbers", unfollowed := true, recurses := true, apart := false, narrowed := true }
def TcpNumbersUptoSaid : Prop := tcpNumbersUptoRow.holds Try.pinned (OpenSpec.upto tcpNumbersSpec)

/-- 'packhorselaw14.TcpOrder', WHERE WHAT IT READS IS OF BULK AT MOST 1048576: true; the input reads as it did. -/
def tcpOrderUptoRow : OpenClaim := { program := "ytbhdojpgjmbogaa", sum := "50c7006a7426569e87e6e34fce1de2ed513f4d22987c03cd5fe75d61a2d954ce", func := "packhorse/packhorselaw14.TcpOrder", spec := "tcpOrder", unfollowed := true, recurses := true, apart := false, narrowed := true }
def TcpOrderUptoSaid : Prop := tcpOrderUptoRow.holds Try.pinned (OpenSpec.upto tcpOrderSpec)

/-- 'packhorselaw14.TcpForms', WHERE WHAT IT READS IS OF BULK AT MOST 1048576: true; the input reads as it did. -/
def tcpFormsUptoRow : OpenClaim := { program := "ytbhdojpgjmbogaa", sum := "50c7006a7426569e87e6e34fce1de2ed513f4d22987c03cd5fe75d61a2d954ce", func := "packhorse/packhorselaw14.TcpForms", spec := "tcpForms", unfollowed := true, recurses := true, apart := false, narrowed := true }
def TcpFormsUptoSaid : Prop := tcpFormsUptoRow.holds Try.pinned (OpenSpec.upto tcpFormsSpec)

/-- 'packhorselaw14.TcpBack', WHERE WHAT IT READS IS OF BULK AT MOST 1048576: true; the input reads as it did. -/
def tcpBackUptoRow : OpenClaim := { program := "ytbhdojpgjmbogaa", sum := "50c7006a7426569e87e6e34fce1de2ed513f4d22987c03cd5fe75d61a2d954ce", func := "packhorse/packhorselaw14.TcpBack", spec := "tcpBack", unfollowed := true, recurses := true, apart := false, narrowed := true }
def TcpBackUptoSaid : Prop := tcpBackUptoRow.holds Try.pinned (OpenSpec.upto tcpBackSpec)

/-- 'packhorselaw14.TcpResets', WHERE WHAT IT READS IS OF BULK AT MOST 1048576: true; the input reads as it did. -/
def tcpResetsUptoRow : OpenClaim := { program := "ytbhdojpgjmbogaa", sum := "50c7006a7426569e87e6e34fce1de2ed513f4d22987c03cd5fe75d61a2d954ce", func := "packhorse/packhorselaw14.TcpResets", spec := "tcpResets", unfollowed := true, recurses := true, apart := false, narrowed := true }
def TcpResetsUptoSaid : Prop := tcpResetsUptoRow.holds Try.pinned (OpenSpec.upto tcpResetsSpec)

/-- 'packhorselaw14.TcpFirsts', WHERE WHAT IT READS IS OF BULK AT MOST 1048576: true; the input reads as it did. -/
def tcpFirstsUptoRow : OpenClaim := { program := "ytbhdojpgjmbogaa", sum := "50c7006a7426569e87e6e34fce1de2ed513f4d22987c03cd5fe75d61a2d954ce", func := "packhorse/packhorselaw14.TcpFirsts", spec := "tcpFirsts", unfollowed := true, recurses := true, apart := false, narrowed := true }
def TcpFirstsUptoSaid : Prop := tcpFirstsUptoRow.holds Try.pinned (OpenSpec.upto tcpFirstsSpec)

/-- 'packhorselaw14.TcpSizes', WHERE WHAT IT READS IS OF BULK AT MOST 1048576: true; the input reads as it did. -/
def tcpSizesUptoRow : OpenClaim := { program := "ytbhdojpgjmbogaa", sum := "50c7006a7426569e87e6e34fce1de2ed513f4d22987c03cd5fe75d61a2d954ce", func := "packhorse/packhorselaw14.TcpSizes", spec := "tcpSizes", unfollowed := true, recurses := true, apart := false, narrowed := true }
def TcpSizesUptoSaid : Prop := tcpSizesUptoRow.holds Try.pinned (OpenSpec.upto tcpSizesSpec)

/-- 'packhorselaw14.TcpUnknown', WHERE WHAT IT READS IS OF BULK AT MOST 1048576: true; the input reads as it did. -/
def tcpUnknownUptoRow : OpenClaim := { program := "ytbhdojpgjmbogaa", sum := "50c7006a7426569e87e6e34fce1de2ed513f4d22987c03cd5fe75d61a2d954ce", func := "packhorse/packhorselaw14.TcpUnknown", spec := "tcpUnknown", unfollowed := true, recurses := true, apart := false, narrowed := true }
def TcpUnknownUptoSaid : Prop := tcpUnknownUptoRow.holds Try.pinned (OpenSpec.upto tcpUnknownSpec)

end Rows
end Go.Proofs.Ytbhdojpgjmbogaa
