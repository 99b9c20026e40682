/-
  NARROWER THAN 'FOR EVERY INPUT', by the rows' own cells (each row's printed sentence says how): Ip4Forms: laid · Ip4Back: laid · Ip4Turns: laid · Ip4Sums: laid · Ip4Options: laid · Ip4Pseudo: laid.
  DERIVED. THE GIVEN ROWS OF THIS SEAT. 6 by the template 'for every input the law returns true; each argument reads behind the call as it read before'; 0 by the template 'total and deterministic' (their statements: YtbhdojpgjmbogaaDoorTotals.lean).
  GIVEN WITH THE SEED: the statements are not yours to turn. If you find one false, say at which input.
  Laid BY PROGRAM, IN A SANDBOX (cutbox-rows.mjs): the forced cells as the released guide's own fill.sh prints them over the translation 770e213c7e4665d2… (all of the seat's roots in one cut). By AI agents, Wed Nov 11 2026. No macro, syntax, notation, axiom, sorry.
-/
import Derived.Test.YtbhdojpgjmbogaaDoorChecked
import GoSem.PinnedTables
import GoSem.Claim
import GoSem.ClaimJoined
import GoSem.ClaimMapViews
import Derived.JoinedTies
import Derived.KernelRfl
namespace Go.Proofs.YtbhdojpgjmbogaaDoor
/- THE CELL 'sum', in the pinned program and in every row, IS THE sha256 OF THE DUMP (.gsa) THAT YtbhdojpgjmbogaaDoorProg.lean LOADS. Nothing in Lean hashes anything: it is a label: what it is worth is what the hold of that sum in a sandbox is worth. -/
noncomputable def Tryd.pinned : Pinned := { name := "ytbhdojpgjmbogaadoor", sum := "770e213c7e4665d26b2e564cee3e0b1b51e77033ce120c55b5c0c0b5b8e01591", checked := Tryd.checked }
namespace Rows
def none {H : Type} : Left H := { results := [], args := [] }

/- WHAT THE LISTED PACKAGE-LEVEL VARIABLES READ AS WHEN THE CALL BEGINS. Each datum BY PROGRAM (the guide's laid-datum.mjs) off the statement by which the dump's own 'gosem.cut.vars' lays the variable. In a bare row this is a premise. The card (YtbhdojpgjmbogaaDoorCards.lean) ties it to the program's text. -/
def laid_unicode_utf8_acceptRanges {H : Type} : DataW H := .agg [.agg [.lit (.int .u8 128), .lit (.int .u8 191)], .agg [.lit (.int .u8 160), .lit (.int .u8 191)], .agg [.lit (.int .u8 128), .lit (.int .u8 159)], .agg [.lit (.int .u8 144), .lit (.int .u8 191)], .agg [.lit (.int .u8 128), .lit (.int .u8 143)], .agg [.lit (.int .u8 0), .lit (.int .u8 0)], .agg [.lit (.int .u8 0), .lit (.int .u8 0)], .agg [.lit (.int .u8 0), .lit (.int .u8 0)], .agg [.lit (.int .u8 0), .lit (.int .u8 0)], .agg [.lit (.int .u8 0), .lit (.int .u8 0)], .agg [.lit (.int .u8 0), .lit (.int .u8 0)], .agg [.lit (.int .u8 0), .lit (.int .u8 0)], .agg [.lit (.int .u8 0), .lit (.int .u8 0)], .agg [.lit (.int .u8 0), .lit (.int .u8 0)], .agg [.lit (.int .u8 0), .lit (.int .u8 0)], .agg [.lit (.int .u8 0), .lit (.int .u8 0)]]
/-- One of Go's own tables, pinned by name: the form's constant. -/
def laid_unicode_utf8_first : DataW Unit := Go.Pinned.utf8First

/-- 'packhorselaw09.Ip4Forms': WHATEVER THE INPUT: true; the input reads as it did. -/
def ip4FormsSpec : ChangeSpec := { name := "ip4Forms", fn := fun _ => fun
  | [d1, d2, d3] => { results := [.lit (.bool true)], args := [d1, d2, d3] }
  | _ => none }
def ip4FormsRow : OpenClaim := { program := "ytbhdojpgjmbogaadoor", sum := "770e213c7e4665d26b2e564cee3e0b1b51e77033ce120c55b5c0c0b5b8e01591", func := "packhorse/packhorselaw09.Ip4Forms", spec := "ip4Forms", unfollowed := true, recurses := true, named := ["unicode/utf8.first", "unicode/utf8.acceptRanges"], apart := false, laid := [("unicode/utf8.acceptRanges", laid_unicode_utf8_acceptRanges), ("unicode/utf8.first", laid_unicode_utf8_first)] }
def Ip4FormsSaid : Prop := ip4FormsRow.holds Tryd.pinned (OpenSpec.ofChange ip4FormsSpec)

/-- ITS FALSE NEIGHBOUR: 'it returns false'. Refute it at one input. -/
def ip4FormsWrong : ChangeSpec := { name := "ip4Forms", fn := fun _ => fun
  | [d1, d2, d3] => { results := [.lit (.bool false)], args := [d1, d2, d3] }
  | _ => none }
def Ip4FormsWrongFalsely : Prop := ip4FormsRow.holds Tryd.pinned (OpenSpec.ofChange ip4FormsWrong)

/-- 'packhorselaw09.Ip4Back': WHATEVER THE INPUT: true; the input reads as it did. -/
def ip4BackSpec : ChangeSpec := { name := "ip4Back", fn := fun _ => fun
  | [d1, d2, d3, d4] => { results := [.lit (.bool true)], args := [d1, d2, d3, d4] }
  | _ => none }
def ip4BackRow : OpenClaim := { program := "ytbhdojpgjmbogaadoor", sum := "770e213c7e4665d26b2e564cee3e0b1b51e77033ce120c55b5c0c0b5b8e01591", func := "packhorse/packhorselaw09.Ip4Back", spec := "ip4Back", unfollowed := true, recurses := true, named := ["unicode/utf8.first", "unicode/utf8.acceptRanges"], apart := false, laid := [("unicode/utf8.acceptRanges", laid_unicode_utf8_acceptRanges), ("unicode/utf8.first", laid_unicode_utf8_first)] }
def Ip4BackSaid : Prop := ip4BackRow.holds Tryd.pinned (OpenSpec.ofChange ip4BackSpec)

/-- ITS FALSE NEIGHBOUR: 'it returns false'. Refute it at one input. -/
def ip4BackWrong : ChangeSpec := { name := "ip4Back", fn := fun _ => fun
  | [d1, d2, d3, d4] => { results := [.lit (.bool false)], args := [d1, d2, d3, d4] }
  | _ => none }
def Ip4BackWrongFalsely : Prop := ip4BackRow.holds Tryd.pinned (OpenSpec.ofChange ip4BackWrong)

/-- 'packhorselaw09.Ip4Turns': WHATEVER THE INPUT: true; the input reads as it did. -/
def ip4TurnsSpec : ChangeSpec := { name := "ip4Turns", fn := fun _ => fun
  | [d1, d2, d3] => { results := [.lit (.bool true)], args := [d1, d2, d3] }
  | _ => none }
def ip4TurnsRow : OpenClaim := { program := "ytbhdojpgjmbogaadoor", sum := "770e213c7e4665d26b2e564cee3e0b1b51e77033ce120c55b5c0c0b5b8e01591", func := "packhorse/packhorselaw09.Ip4Turns", spec := "ip4Turns", unfollowed := true, recurses := true, named := ["unicode/utf8.first", "unicode/utf8.acceptRanges"], apart := false, laid := [("unicode/utf8.acceptRanges", laid_unicode_utf8_acceptRanges), ("unicode/utf8.first", laid_unicode_utf8_first)] }
def Ip4TurnsSaid : Prop := ip4TurnsRow.holds Tryd.pinned (OpenSpec.ofChange ip4TurnsSpec)

/-- ITS FALSE NEIGHBOUR: 'it returns false'. Refute it at one input. -/
def ip4TurnsWrong : ChangeSpec := { name := "ip4Turns", fn := fun _ => fun
  | [d1, d2, d3] => { results := [.lit (.bool false)], args := [d1, d2, d3] }
  | _ => none }
def Ip4TurnsWrongFalsely : Prop := ip4TurnsRow.holds Tryd.pinned (OpenSpec.ofChange ip4TurnsWrong)

/-- 'packhorselaw09.Ip4Sums': WHATEVER THE INPUT: true; the input reads as it did. -/
def ip4SumsSpec : ChangeSpec := { name := "ip4Sums", fn := fun _ => fun
  | [d1, d2] => { results := [.lit (.bool true)], args := [d1, d2] }
  | _ => none }
def ip4SumsRow : OpenClaim := { program := "ytbhdojpgjmbogaadoor", sum := "770e213c7e4665d26b2e564cee3e0b1b51e77033ce120c55b5c0c0b5b8e01591", func := "packhorse/packhorselaw09.Ip4Sums", spec := "ip4Sums", unfollowed := true, recurses := true, named := ["unicode/utf8.first", "unicode/utf8.acceptRanges"], apart := false, laid := [("unicode/utf8.acceptRanges", laid_unicode_utf8_acceptRanges), ("unicode/utf8.first", laid_unicode_utf8_first)] }
def Ip4SumsSaid : Prop := ip4SumsRow.holds Tryd.pinned (OpenSpec.ofChange ip4SumsSpec)

/-- ITS FALSE NEIGHBOUR: 'it returns false'. Refute it at one input. -/
def ip4SumsWrong : ChangeSpec := { name := "ip4Sums", fn := fun _ => fun
  | [d1, d2] => { results := [.lit (.bool false)], args := [d1, d2] }
  | _ => none }
def Ip4SumsWrongFalsely : Prop := ip4SumsRow.holds Tryd.pinned (OpenSpec.ofChange ip4SumsWrong)

/-- 'packhorselaw09.Ip4Options': WHATEVER THE INPUT: true; the input reads as it did. -/
def ip4OptionsSpec : ChangeSpec := { name := "ip4Options", fn := fun _ => fun
  | [d1, d2, d3] => { results := [.lit (.bool true)], args := [d1, d2, d3] }
  | _ => none }
def ip4OptionsRow : OpenClaim := { program := "ytbhdojpgjmbogaadoor", sum := "770e213c7e4665d26b2e564cee3e0b1b51e77033ce120c55b5c0c0b5b8e01591", func := "packhorse/packhorselaw09.Ip4Options", spec := "ip4Options", unfollowed := true, recurses := true, named := ["unicode/utf8.first", "unicode/utf8.acceptRanges"], apart := false, laid := [("unicode/utf8.acceptRanges", laid_unicode_utf8_acceptRanges), ("unicode/utf8.first", laid_unicode_utf8_first)] }
def Ip4OptionsSaid : Prop := ip4OptionsRow.holds Tryd.pinned (OpenSpec.ofChange ip4OptionsSpec)

/-- ITS FALSE NEIGHBOUR: 'it returns false'. Refute it at one input. -/
def ip4OptionsWrong : ChangeSpec := { name := "ip4Options", fn := fun _ => fun
  | [d1, d2, d3] => { results := [.lit (.bool false)], args := [d1, d2, d3] }
  | _ => none }
def Ip4OptionsWrongFalsely : Prop := ip4OptionsRow.holds Tryd.pinned (OpenSpec.ofChange ip4OptionsWrong)

/-- 'packhorselaw09.Ip4Pseudo': WHATEVER THE INPUT: true; the input reads as it did. -/
def ip4PseudoSpec : ChangeSpec := { name := "ip4Pseudo", fn := fun _ => fun
  | [d1, d2, d3, d4] => { results := [.lit (.bool true)], args := [d1, d2, d3, d4] }
  | _ => none }
def ip4PseudoRow : OpenClaim := { program := "ytbhdojpgjmbogaadoor", sum := "770e213c7e4665d26b2e564cee3e0b1b51e77033ce120c55b5c0c0b5b8e01591", func := "packhorse/packhorselaw09.Ip4Pseudo", spec := "ip4Pseudo", unfollowed := true, recurses := true, named := ["unicode/utf8.first", "unicode/utf8.acceptRanges"], apart := false, laid := [("unicode/utf8.acceptRanges", laid_unicode_utf8_acceptRanges), ("unicode/utf8.first", laid_unicode_utf8_first)] }
def Ip4PseudoSaid : Prop := ip4PseudoRow.holds Tryd.pinned (OpenSpec.ofChange ip4PseudoSpec)

/-- ITS FALSE NEIGHBOUR: 'it returns false'. Refute it at one input. -/
def ip4PseudoWrong : ChangeSpec := { name := "ip4Pseudo", fn := fun _ => fun
  | [d1, d2, d3, d4] => { results := [.lit (.bool false)], args := [d1, d2, d3, d4] }
  | _ => none }
def Ip4PseudoWrongFalsely : Prop := ip4PseudoRow.holds Tryd.pinned (OpenSpec.ofChange ip4PseudoWrong)

/- THE SECOND FORM. 'bulk': how many values and letters a reading holds, each counted each time it is reached (what is shared counts as often as it is met; a slice's spare places count too). A statement '..UptoSaid' is the law's where the arguments, and the package variables that the reading takes, are together of bulk at most 1048576: NARROWER than '..Said'. Prove '..Said' where nothing that the law and all that it calls make is longer than what came in: it says more and counts as full. Else prove '..UptoSaid'. A law counts once. -/
mutual
def uptoBulk {H : Type} : DataW H → Nat
  | .lit (.string bytes) => bytes.length + 1
  | .lit _ => 1
  | .nil => 1
  | .ptr d => uptoBulk d + 1
  | .slice elems spare => uptoBulkAll elems + uptoBulkAll spare + 1
  | .agg parts => uptoBulkAll parts + 1
  | .iface _ d => uptoBulk d + 1
  | .map entries => uptoBulkEntries entries + 1
  | .held _ => 1
def uptoBulkAll {H : Type} : List (DataW H) → Nat
  | [] => 0
  | d :: r => uptoBulk d + uptoBulkAll r
def uptoBulkEntries {H : Type} : List (Lit × DataW H) → Nat
  | [] => 0
  | x :: r => uptoBulkEntry x + uptoBulkEntries r
def uptoBulkEntry {H : Type} : Lit × DataW H → Nat
  | (.string bytes, d) => bytes.length + uptoBulk d + 1
  | (_, d) => uptoBulk d + 1
 end
def uptoSmall : (H : Type) → List (DataW H) → Bool := fun _ ds => decide (uptoBulkAll ds ≤ 1048576)
def OpenSpec.upto (s : _root_.Go.ChangeSpec) : _root_.Go.OpenSpec := { _root_.Go.OpenSpec.ofChange s with cond := some uptoSmall }

/-- 'packhorselaw09.Ip4Forms', WHERE WHAT IT READS IS OF BULK AT MOST 1048576: true; the input reads as it did. -/
def ip4FormsUptoRow : OpenClaim := { program := "ytbhdojpgjmbogaadoor", sum := "770e213c7e4665d26b2e564cee3e0b1b51e77033ce120c55b5c0c0b5b8e01591", func := "packhorse/packhorselaw09.Ip4Forms", spec := "ip4Forms", unfollowed := true, recurses := true, named := ["unicode/utf8.first", "unicode/utf8.acceptRanges"], apart := false, laid := [("unicode/utf8.acceptRanges", laid_unicode_utf8_acceptRanges), ("unicode/utf8.first", laid_unicode_utf8_first)], narrowed := true }
def Ip4FormsUptoSaid : Prop := ip4FormsUptoRow.holds Tryd.pinned (OpenSpec.upto ip4FormsSpec)

/-- 'packhorselaw09.Ip4Back', WHERE WHAT IT READS IS OF BULK AT MOST 1048576: true; the input reads as it did. -/
def ip4BackUptoRow : OpenClaim := { program := "ytbhdojpgjmbogaadoor", sum := "770e213c7e4665d26b2e564cee3e0b1b51e77033ce120c55b5c0c0b5b8e01591", func := "packhorse/packhorselaw09.Ip4Back", spec := "ip4Back", unfollowed := true, recurses := true, named := ["unicode/utf8.first", "unicode/utf8.acceptRanges"], apart := false, laid := [("unicode/utf8.acceptRanges", laid_unicode_utf8_acceptRanges), ("unicode/utf8.first", laid_unicode_utf8_first)], narrowed := true }
def Ip4BackUptoSaid : Prop := ip4BackUptoRow.holds Tryd.pinned (OpenSpec.upto ip4BackSpec)

/-- 'packhorselaw09.Ip4Turns', WHERE WHAT IT READS IS OF BULK AT MOST 1048576: true; the input reads as it did. -/
def ip4TurnsUptoRow : OpenClaim := { program := "ytbhdojpgjmbogaadoor", sum := "770e213c7e4665d26b2e564cee3e0b1b51e77033ce120c55b5c0c0b5b8e01591", func := "packhorse/packhorselaw09.Ip4Turns", spec := "ip4Turns", unfollowed := true, recurses := true, named := ["unicode/utf8.first", "unicode/utf8.acceptRanges"], apart := false, laid := [("unicode/utf8.acceptRanges", laid_unicode_utf8_acceptRanges), ("unicode/utf8.first", laid_unicode_utf8_first)], narrowed := true }
def Ip4TurnsUptoSaid : Prop := ip4TurnsUptoRow.holds Tryd.pinned (OpenSpec.upto ip4TurnsSpec)

/-- 'packhorselaw09.Ip4Sums', WHERE WHAT IT READS IS OF BULK AT MOST 1048576: true; the input reads as it did. -/
def ip4SumsUptoRow : OpenClaim := { program := "ytbhdojpgjmbogaadoor", sum := "770e213c7e4665d26b2e564cee3e0b1b51e77033ce120c55b5c0c0b5b8e01591", func := "packhorse/packhorselaw09.Ip4Sums", spec := "ip4Sums", unfollowed := true, recurses := true, named := ["unicode/utf8.first", "unicode/utf8.acceptRanges"], apart := false, laid := [("unicode/utf8.acceptRanges", laid_unicode_utf8_acceptRanges), ("unicode/utf8.first", laid_unicode_utf8_first)], narrowed := true }
def Ip4SumsUptoSaid : Prop := ip4SumsUptoRow.holds Tryd.pinned (OpenSpec.upto ip4SumsSpec)

/-- 'packhorselaw09.Ip4Options', WHERE WHAT IT READS IS OF BULK AT MOST 1048576: true; the input reads as it did. -/
def ip4OptionsUptoRow : OpenClaim := { program := "ytbhdojpgjmbogaadoor", sum := "770e213c7e4665d26b2e564cee3e0b1b51e77033ce120c55b5c0c0b5b8e01591", func := "packhorse/packhorselaw09.Ip4Options", spec := "ip4Options", unfollowed := true, recurses := true, named := ["unicode/utf8.first", "unicode/utf8.acceptRanges"], apart := false, laid := [("unicode/utf8.acceptRanges", laid_unicode_utf8_acceptRanges), ("unicode/utf8.first", laid_unicode_utf8_first)], narrowed := true }
def Ip4OptionsUptoSaid : Prop := ip4OptionsUptoRow.holds Tryd.pinned (OpenSpec.upto ip4OptionsSpec)

/-- 'packhorselaw09.Ip4Pseudo', WHERE WHAT IT READS IS OF BULK AT MOST 1048576: true; the input reads as it did. -/
def ip4PseudoUptoRow : OpenClaim := { program := "ytbhdojpgjmbogaadoor", sum := "770e213c7e4665d26b2e564cee3e0b1b51e77033ce120c55b5c0c0b5b8e01591", func := "packhorse/packhorselaw09.Ip4Pseudo", spec := "ip4Pseudo", unfollowed := true, recurses := true, named := ["unicode/utf8.first", "unicode/utf8.acceptRanges"], apart := false, laid := [("unicode/utf8.acceptRanges", laid_unicode_utf8_acceptRanges), ("unicode/utf8.first", laid_unicode_utf8_first)], narrowed := true }
def Ip4PseudoUptoSaid : Prop := ip4PseudoUptoRow.holds Tryd.pinned (OpenSpec.upto ip4PseudoSpec)

end Rows
end Go.Proofs.YtbhdojpgjmbogaaDoor
