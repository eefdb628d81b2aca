/-
  DERIVED. GIVEN WITH THE SEED: THE CARDS: each row of YtjfgakillgcdcaaDoorRows.lean that lists a variable, with what it lists TIED to the program's text (the seventh form; the later family's looks); each row that meets fmt, with fmt's text TOLD by the authors' own Lean function (tested against real Go, not proved from fmt's source: count such statements apart). THE CARD IS WHAT COUNTS. Prove the row's statement (the work); the ties are given (YtjfgakillgcdcaaDoorTie.lean); close each card by the builder's one call (the guide's Derived/Test/ToyasCard.lean, 'card_holds'). Laid BY PROGRAM, IN A SANDBOX (cutbox-door.mjs). By AI agents, Wed Nov 11 2026. No macro, syntax, notation, axiom, sorry.
-/
import Derived.Test.YtjfgakillgcdcaaDoorRows
import GoSem.ClaimSeven
namespace Go.Proofs.YtjfgakillgcdcaaDoor
namespace Rows

/-- THE TIED CARD OF 'exchequerlaw12.LexTells'. -/
def lexTellsCard : Claim7 := { stood := { row := lexTellsRow, standIns := [], harness := (true, "0ed5f3759e8779f184b69e4388b9f13338d78d3ba542f409111fad9019838929"), looks := false }, kinds := [], alts := [], laidByText := true, laidKinds := [.widerDeep], laidTests := true, laidLooks := .later }
def LexTellsCardSaid : Prop := Claim7.holds Tryd.pinned (.plain (OpenSpec.ofChange lexTellsSpec)) lexTellsCard

/-- THE TIED CARD OF 'exchequerlaw02.ValueChecks'. -/
def valueChecksCard : Claim7 := { stood := { row := valueChecksRow, standIns := [], harness := (true, "0ed5f3759e8779f184b69e4388b9f13338d78d3ba542f409111fad9019838929"), looks := false }, kinds := [], alts := [], laidByText := true, laidKinds := [.data, .pinned], laidTests := true, laidLooks := .later }
def ValueChecksCardSaid : Prop := Claim7.holds Tryd.pinned (.plain (OpenSpec.ofChange valueChecksSpec)) valueChecksCard

/-- THE TIED CARD OF 'exchequerlaw02.ValueSums'. -/
def valueSumsCard : Claim7 := { stood := { row := valueSumsRow, standIns := [], harness := (true, "0ed5f3759e8779f184b69e4388b9f13338d78d3ba542f409111fad9019838929"), looks := false }, kinds := [], alts := [], laidByText := true, laidKinds := [.data, .pinned], laidTests := true, laidLooks := .later }
def ValueSumsCardSaid : Prop := Claim7.holds Tryd.pinned (.plain (OpenSpec.ofChange valueSumsSpec)) valueSumsCard

/-- THE TIED CARD OF 'exchequerlaw02.ValueRing'. -/
def valueRingCard : Claim7 := { stood := { row := valueRingRow, standIns := [], harness := (true, "0ed5f3759e8779f184b69e4388b9f13338d78d3ba542f409111fad9019838929"), looks := false }, kinds := [], alts := [], laidByText := true, laidKinds := [.data, .pinned], laidTests := true, laidLooks := .later }
def ValueRingCardSaid : Prop := Claim7.holds Tryd.pinned (.plain (OpenSpec.ofChange valueRingSpec)) valueRingCard

/-- THE TIED CARD OF 'exchequerlaw02.ValueApart'. -/
def valueApartCard : Claim7 := { stood := { row := valueApartRow, standIns := [], harness := (true, "0ed5f3759e8779f184b69e4388b9f13338d78d3ba542f409111fad9019838929"), looks := false }, kinds := [], alts := [], laidByText := true, laidKinds := [.data, .pinned], laidTests := true, laidLooks := .later }
def ValueApartCardSaid : Prop := Claim7.holds Tryd.pinned (.plain (OpenSpec.ofChange valueApartSpec)) valueApartCard

/-- THE TIED CARD OF 'exchequerlaw02.ValueMinus'. -/
def valueMinusCard : Claim7 := { stood := { row := valueMinusRow, standIns := [], harness := (true, "0ed5f3759e8779f184b69e4388b9f13338d78d3ba542f409111fad9019838929"), looks := false }, kinds := [], alts := [], laidByText := true, laidKinds := [.data, .pinned], laidTests := true, laidLooks := .later }
def ValueMinusCardSaid : Prop := Claim7.holds Tryd.pinned (.plain (OpenSpec.ofChange valueMinusSpec)) valueMinusCard

/-- THE TIED CARD OF 'exchequerlaw02.ValueCmps'. -/
def valueCmpsCard : Claim7 := { stood := { row := valueCmpsRow, standIns := [], harness := (true, "0ed5f3759e8779f184b69e4388b9f13338d78d3ba542f409111fad9019838929"), looks := false }, kinds := [], alts := [], laidByText := true, laidKinds := [.data, .pinned], laidTests := true, laidLooks := .later }
def ValueCmpsCardSaid : Prop := Claim7.holds Tryd.pinned (.plain (OpenSpec.ofChange valueCmpsSpec)) valueCmpsCard

/-- THE TIED CARD OF 'exchequerlaw02.ValueOrder'. -/
def valueOrderCard : Claim7 := { stood := { row := valueOrderRow, standIns := [], harness := (true, "0ed5f3759e8779f184b69e4388b9f13338d78d3ba542f409111fad9019838929"), looks := false }, kinds := [], alts := [], laidByText := true, laidKinds := [.data, .pinned], laidTests := true, laidLooks := .later }
def ValueOrderCardSaid : Prop := Claim7.holds Tryd.pinned (.plain (OpenSpec.ofChange valueOrderSpec)) valueOrderCard

/-- THE TIED CARD OF 'exchequerlaw12.LexValues'. -/
def lexValuesCard : Claim7 := { stood := { row := lexValuesRow, standIns := [], harness := (true, "0ed5f3759e8779f184b69e4388b9f13338d78d3ba542f409111fad9019838929"), looks := false }, kinds := [], alts := [], laidByText := true, laidKinds := [.data, .widerDeep, .pinned], laidTests := true, laidLooks := .later }
def LexValuesCardSaid : Prop := Claim7.holds Tryd.pinned (.plain (OpenSpec.ofChange lexValuesSpec)) lexValuesCard

/-- THE SECOND FORM's CARD OF 'exchequerlaw12.LexTells'. -/
def lexTellsUptoCard : Claim7 := { stood := { row := lexTellsUptoRow, standIns := [], harness := (true, "0ed5f3759e8779f184b69e4388b9f13338d78d3ba542f409111fad9019838929"), looks := false }, kinds := [], alts := [], laidByText := true, laidKinds := [.widerDeep], laidTests := true, laidLooks := .later }
def LexTellsUptoCardSaid : Prop := Claim7.holds Tryd.pinned (.plain (OpenSpec.upto lexTellsSpec)) lexTellsUptoCard

/-- THE SECOND FORM's CARD OF 'exchequerlaw02.ValueChecks'. -/
def valueChecksUptoCard : Claim7 := { stood := { row := valueChecksUptoRow, standIns := [], harness := (true, "0ed5f3759e8779f184b69e4388b9f13338d78d3ba542f409111fad9019838929"), looks := false }, kinds := [], alts := [], laidByText := true, laidKinds := [.data, .pinned], laidTests := true, laidLooks := .later }
def ValueChecksUptoCardSaid : Prop := Claim7.holds Tryd.pinned (.plain (OpenSpec.upto valueChecksSpec)) valueChecksUptoCard

/-- THE SECOND FORM's CARD OF 'exchequerlaw02.ValueSums'. -/
def valueSumsUptoCard : Claim7 := { stood := { row := valueSumsUptoRow, standIns := [], harness := (true, "0ed5f3759e8779f184b69e4388b9f13338d78d3ba542f409111fad9019838929"), looks := false }, kinds := [], alts := [], laidByText := true, laidKinds := [.data, .pinned], laidTests := true, laidLooks := .later }
def ValueSumsUptoCardSaid : Prop := Claim7.holds Tryd.pinned (.plain (OpenSpec.upto valueSumsSpec)) valueSumsUptoCard

/-- THE SECOND FORM's CARD OF 'exchequerlaw02.ValueRing'. -/
def valueRingUptoCard : Claim7 := { stood := { row := valueRingUptoRow, standIns := [], harness := (true, "0ed5f3759e8779f184b69e4388b9f13338d78d3ba542f409111fad9019838929"), looks := false }, kinds := [], alts := [], laidByText := true, laidKinds := [.data, .pinned], laidTests := true, laidLooks := .later }
def ValueRingUptoCardSaid : Prop := Claim7.holds Tryd.pinned (.plain (OpenSpec.upto valueRingSpec)) valueRingUptoCard

/-- THE SECOND FORM's CARD OF 'exchequerlaw02.ValueApart'. -/
def valueApartUptoCard : Claim7 := { stood := { row := valueApartUptoRow, standIns := [], harness := (true, "0ed5f3759e8779f184b69e4388b9f13338d78d3ba542f409111fad9019838929"), looks := false }, kinds := [], alts := [], laidByText := true, laidKinds := [.data, .pinned], laidTests := true, laidLooks := .later }
def ValueApartUptoCardSaid : Prop := Claim7.holds Tryd.pinned (.plain (OpenSpec.upto valueApartSpec)) valueApartUptoCard

/-- THE SECOND FORM's CARD OF 'exchequerlaw02.ValueMinus'. -/
def valueMinusUptoCard : Claim7 := { stood := { row := valueMinusUptoRow, standIns := [], harness := (true, "0ed5f3759e8779f184b69e4388b9f13338d78d3ba542f409111fad9019838929"), looks := false }, kinds := [], alts := [], laidByText := true, laidKinds := [.data, .pinned], laidTests := true, laidLooks := .later }
def ValueMinusUptoCardSaid : Prop := Claim7.holds Tryd.pinned (.plain (OpenSpec.upto valueMinusSpec)) valueMinusUptoCard

/-- THE SECOND FORM's CARD OF 'exchequerlaw02.ValueCmps'. -/
def valueCmpsUptoCard : Claim7 := { stood := { row := valueCmpsUptoRow, standIns := [], harness := (true, "0ed5f3759e8779f184b69e4388b9f13338d78d3ba542f409111fad9019838929"), looks := false }, kinds := [], alts := [], laidByText := true, laidKinds := [.data, .pinned], laidTests := true, laidLooks := .later }
def ValueCmpsUptoCardSaid : Prop := Claim7.holds Tryd.pinned (.plain (OpenSpec.upto valueCmpsSpec)) valueCmpsUptoCard

/-- THE SECOND FORM's CARD OF 'exchequerlaw02.ValueOrder'. -/
def valueOrderUptoCard : Claim7 := { stood := { row := valueOrderUptoRow, standIns := [], harness := (true, "0ed5f3759e8779f184b69e4388b9f13338d78d3ba542f409111fad9019838929"), looks := false }, kinds := [], alts := [], laidByText := true, laidKinds := [.data, .pinned], laidTests := true, laidLooks := .later }
def ValueOrderUptoCardSaid : Prop := Claim7.holds Tryd.pinned (.plain (OpenSpec.upto valueOrderSpec)) valueOrderUptoCard

/-- THE SECOND FORM's CARD OF 'exchequerlaw12.LexValues'. -/
def lexValuesUptoCard : Claim7 := { stood := { row := lexValuesUptoRow, standIns := [], harness := (true, "0ed5f3759e8779f184b69e4388b9f13338d78d3ba542f409111fad9019838929"), looks := false }, kinds := [], alts := [], laidByText := true, laidKinds := [.data, .widerDeep, .pinned], laidTests := true, laidLooks := .later }
def LexValuesUptoCardSaid : Prop := Claim7.holds Tryd.pinned (.plain (OpenSpec.upto lexValuesSpec)) lexValuesUptoCard
end Rows
end Go.Proofs.YtjfgakillgcdcaaDoor
