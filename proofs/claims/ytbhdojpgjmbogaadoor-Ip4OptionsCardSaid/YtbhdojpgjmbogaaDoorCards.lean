/-
  DERIVED. GIVEN WITH THE SEED: THE CARDS: each row of YtbhdojpgjmbogaaDoorRows.lean that lists a variable, with what it lists TIED to the program's text (the seventh form; the later family's looks); each row that meets fmt, with fmt's text TOLD by the authors' own Lean function (tested against real Go, not proved from fmt's source: count such statements apart). THE CARD IS WHAT COUNTS. Prove the row's statement (the work); the ties are given (YtbhdojpgjmbogaaDoorTie.lean); close each card by the builder's one call (the guide's Derived/Test/ToyasCard.lean, 'card_holds'). Laid BY PROGRAM, IN A SANDBOX (cutbox-door.mjs). By AI agents, Wed Nov 11 2026. No macro, syntax, notation, axiom, sorry.
-/
import Derived.Test.YtbhdojpgjmbogaaDoorRows
import GoSem.ClaimSeven
namespace Go.Proofs.YtbhdojpgjmbogaaDoor
namespace Rows

/-- THE TIED CARD OF 'packhorselaw09.Ip4Forms'. -/
def ip4FormsCard : Claim7 := { stood := { row := ip4FormsRow, standIns := [], harness := (true, "9ba1825b6031a47f49e5655a55f71ccfae1f6328b83703d1857707307ca38708"), looks := false }, kinds := [], alts := [], laidByText := true, laidKinds := [.data, .pinned], laidTests := true, laidLooks := .later }
def Ip4FormsCardSaid : Prop := Claim7.holds Tryd.pinned (.plain (OpenSpec.ofChange ip4FormsSpec)) ip4FormsCard

/-- THE TIED CARD OF 'packhorselaw09.Ip4Back'. -/
def ip4BackCard : Claim7 := { stood := { row := ip4BackRow, standIns := [], harness := (true, "9ba1825b6031a47f49e5655a55f71ccfae1f6328b83703d1857707307ca38708"), looks := false }, kinds := [], alts := [], laidByText := true, laidKinds := [.data, .pinned], laidTests := true, laidLooks := .later }
def Ip4BackCardSaid : Prop := Claim7.holds Tryd.pinned (.plain (OpenSpec.ofChange ip4BackSpec)) ip4BackCard

/-- THE TIED CARD OF 'packhorselaw09.Ip4Turns'. -/
def ip4TurnsCard : Claim7 := { stood := { row := ip4TurnsRow, standIns := [], harness := (true, "9ba1825b6031a47f49e5655a55f71ccfae1f6328b83703d1857707307ca38708"), looks := false }, kinds := [], alts := [], laidByText := true, laidKinds := [.data, .pinned], laidTests := true, laidLooks := .later }
def Ip4TurnsCardSaid : Prop := Claim7.holds Tryd.pinned (.plain (OpenSpec.ofChange ip4TurnsSpec)) ip4TurnsCard

/-- THE TIED CARD OF 'packhorselaw09.Ip4Sums'. -/
def ip4SumsCard : Claim7 := { stood := { row := ip4SumsRow, standIns := [], harness := (true, "9ba1825b6031a47f49e5655a55f71ccfae1f6328b83703d1857707307ca38708"), looks := false }, kinds := [], alts := [], laidByText := true, laidKinds := [.data, .pinned], laidTests := true, laidLooks := .later }
def Ip4SumsCardSaid : Prop := Claim7.holds Tryd.pinned (.plain (OpenSpec.ofChange ip4SumsSpec)) ip4SumsCard

/-- THE TIED CARD OF 'packhorselaw09.Ip4Options'. -/
def ip4OptionsCard : Claim7 := { stood := { row := ip4OptionsRow, standIns := [], harness := (true, "9ba1825b6031a47f49e5655a55f71ccfae1f6328b83703d1857707307ca38708"), looks := false }, kinds := [], alts := [], laidByText := true, laidKinds := [.data, .pinned], laidTests := true, laidLooks := .later }
def Ip4OptionsCardSaid : Prop := Claim7.holds Tryd.pinned (.plain (OpenSpec.ofChange ip4OptionsSpec)) ip4OptionsCard

/-- THE TIED CARD OF 'packhorselaw09.Ip4Pseudo'. -/
def ip4PseudoCard : Claim7 := { stood := { row := ip4PseudoRow, standIns := [], harness := (true, "9ba1825b6031a47f49e5655a55f71ccfae1f6328b83703d1857707307ca38708"), looks := false }, kinds := [], alts := [], laidByText := true, laidKinds := [.data, .pinned], laidTests := true, laidLooks := .later }
def Ip4PseudoCardSaid : Prop := Claim7.holds Tryd.pinned (.plain (OpenSpec.ofChange ip4PseudoSpec)) ip4PseudoCard

/-- THE SECOND FORM's CARD OF 'packhorselaw09.Ip4Forms'. -/
def ip4FormsUptoCard : Claim7 := { stood := { row := ip4FormsUptoRow, standIns := [], harness := (true, "9ba1825b6031a47f49e5655a55f71ccfae1f6328b83703d1857707307ca38708"), looks := false }, kinds := [], alts := [], laidByText := true, laidKinds := [.data, .pinned], laidTests := true, laidLooks := .later }
def Ip4FormsUptoCardSaid : Prop := Claim7.holds Tryd.pinned (.plain (OpenSpec.upto ip4FormsSpec)) ip4FormsUptoCard

/-- THE SECOND FORM's CARD OF 'packhorselaw09.Ip4Back'. -/
def ip4BackUptoCard : Claim7 := { stood := { row := ip4BackUptoRow, standIns := [], harness := (true, "9ba1825b6031a47f49e5655a55f71ccfae1f6328b83703d1857707307ca38708"), looks := false }, kinds := [], alts := [], laidByText := true, laidKinds := [.data, .pinned], laidTests := true, laidLooks := .later }
def Ip4BackUptoCardSaid : Prop := Claim7.holds Tryd.pinned (.plain (OpenSpec.upto ip4BackSpec)) ip4BackUptoCard

/-- THE SECOND FORM's CARD OF 'packhorselaw09.Ip4Turns'. -/
def ip4TurnsUptoCard : Claim7 := { stood := { row := ip4TurnsUptoRow, standIns := [], harness := (true, "9ba1825b6031a47f49e5655a55f71ccfae1f6328b83703d1857707307ca38708"), looks := false }, kinds := [], alts := [], laidByText := true, laidKinds := [.data, .pinned], laidTests := true, laidLooks := .later }
def Ip4TurnsUptoCardSaid : Prop := Claim7.holds Tryd.pinned (.plain (OpenSpec.upto ip4TurnsSpec)) ip4TurnsUptoCard

/-- THE SECOND FORM's CARD OF 'packhorselaw09.Ip4Sums'. -/
def ip4SumsUptoCard : Claim7 := { stood := { row := ip4SumsUptoRow, standIns := [], harness := (true, "9ba1825b6031a47f49e5655a55f71ccfae1f6328b83703d1857707307ca38708"), looks := false }, kinds := [], alts := [], laidByText := true, laidKinds := [.data, .pinned], laidTests := true, laidLooks := .later }
def Ip4SumsUptoCardSaid : Prop := Claim7.holds Tryd.pinned (.plain (OpenSpec.upto ip4SumsSpec)) ip4SumsUptoCard

/-- THE SECOND FORM's CARD OF 'packhorselaw09.Ip4Options'. -/
def ip4OptionsUptoCard : Claim7 := { stood := { row := ip4OptionsUptoRow, standIns := [], harness := (true, "9ba1825b6031a47f49e5655a55f71ccfae1f6328b83703d1857707307ca38708"), looks := false }, kinds := [], alts := [], laidByText := true, laidKinds := [.data, .pinned], laidTests := true, laidLooks := .later }
def Ip4OptionsUptoCardSaid : Prop := Claim7.holds Tryd.pinned (.plain (OpenSpec.upto ip4OptionsSpec)) ip4OptionsUptoCard

/-- THE SECOND FORM's CARD OF 'packhorselaw09.Ip4Pseudo'. -/
def ip4PseudoUptoCard : Claim7 := { stood := { row := ip4PseudoUptoRow, standIns := [], harness := (true, "9ba1825b6031a47f49e5655a55f71ccfae1f6328b83703d1857707307ca38708"), looks := false }, kinds := [], alts := [], laidByText := true, laidKinds := [.data, .pinned], laidTests := true, laidLooks := .later }
def Ip4PseudoUptoCardSaid : Prop := Claim7.holds Tryd.pinned (.plain (OpenSpec.upto ip4PseudoSpec)) ip4PseudoUptoCard
end Rows
end Go.Proofs.YtbhdojpgjmbogaaDoor
