/-
  DERIVED. GIVEN WITH THE SEED: THE CARDS: each row of YtjpcghlpkinahaaDoorRows.lean that lists a variable, with what it lists TIED to the program's text (the seventh form; the later family's looks); each row that meets fmt, with fmt's text TOLD by the authors' own Lean function (tested against real Go, not proved from fmt's source: count such statements apart). THE CARD IS WHAT COUNTS. Prove the row's statement (the work); the ties are given (YtjpcghlpkinahaaDoorTie.lean); close each card by the builder's one call (the guide's Derived/Test/ToyasCard.lean, 'card_holds'). Laid BY PROGRAM, IN A SANDBOX (cutbox-door.mjs). By AI agents, Wed Nov 11 2026. No macro, syntax, notation, axiom, sorry.
-/
import Derived.Test.YtjpcghlpkinahaaDoorRows
import GoSem.ClaimSeven
namespace Go.Proofs.YtjpcghlpkinahaaDoor
namespace Rows

/-- THE TIED CARD OF 'exchequerlaw12.LexTells'. -/
def lexTellsCard : Claim7 := { stood := { row := lexTellsRow, standIns := [], harness := (true, "ffbae070818c3c76d9d04a32305f86536a00d615c16569748eb9cb53e03b1f80"), looks := false }, kinds := [], alts := [], laidByText := true, laidKinds := [.widerDeep], laidTests := true, laidLooks := .later }
def LexTellsCardSaid : Prop := Claim7.holds Tryd.pinned (.plain (OpenSpec.ofChange lexTellsSpec)) lexTellsCard

/-- THE TIED CARD OF 'exchequerlaw12.LexValues'. -/
def lexValuesCard : Claim7 := { stood := { row := lexValuesRow, standIns := [], harness := (true, "ffbae070818c3c76d9d04a32305f86536a00d615c16569748eb9cb53e03b1f80"), looks := false }, kinds := [], alts := [], laidByText := true, laidKinds := [.data, .widerDeep, .pinned], laidTests := true, laidLooks := .later }
def LexValuesCardSaid : Prop := Claim7.holds Tryd.pinned (.plain (OpenSpec.ofChange lexValuesSpec)) lexValuesCard

/-- THE TIED CARD OF 'exchequerlaw13.AstApart'. -/
def astApartCard : Claim7 := { stood := { row := astApartRow, standIns := [], harness := (true, "ffbae070818c3c76d9d04a32305f86536a00d615c16569748eb9cb53e03b1f80"), looks := false }, kinds := [], alts := [], laidByText := true, laidKinds := [.data, .mapped, .data, .pinned], laidTests := true, laidLooks := .later }
def AstApartCardSaid : Prop := Claim7.holds Tryd.pinned (.plain (OpenSpec.ofChange astApartSpec)) astApartCard

/-- THE TIED CARD OF 'exchequerlaw13.AstDeep'. -/
def astDeepCard : Claim7 := { stood := { row := astDeepRow, standIns := [], harness := (true, "ffbae070818c3c76d9d04a32305f86536a00d615c16569748eb9cb53e03b1f80"), looks := false }, kinds := [], alts := [], laidByText := true, laidKinds := [.data, .mapped, .data, .pinned], laidTests := true, laidLooks := .later }
def AstDeepCardSaid : Prop := Claim7.holds Tryd.pinned (.plain (OpenSpec.ofChange astDeepSpec)) astDeepCard

/-- THE TIED CARD OF 'exchequerlaw13.AstHurt'. -/
def astHurtCard : Claim7 := { stood := { row := astHurtRow, standIns := [], harness := (true, "ffbae070818c3c76d9d04a32305f86536a00d615c16569748eb9cb53e03b1f80"), looks := false }, kinds := [], alts := [], laidByText := true, laidKinds := [.data, .mapped, .data, .pinned], laidTests := true, laidLooks := .later }
def AstHurtCardSaid : Prop := Claim7.holds Tryd.pinned (.plain (OpenSpec.ofChange astHurtSpec)) astHurtCard

/-- THE SECOND FORM's CARD OF 'exchequerlaw12.LexTells'. -/
def lexTellsUptoCard : Claim7 := { stood := { row := lexTellsUptoRow, standIns := [], harness := (true, "ffbae070818c3c76d9d04a32305f86536a00d615c16569748eb9cb53e03b1f80"), looks := false }, kinds := [], alts := [], laidByText := true, laidKinds := [.widerDeep], laidTests := true, laidLooks := .later }
def LexTellsUptoCardSaid : Prop := Claim7.holds Tryd.pinned (.plain (OpenSpec.upto lexTellsSpec)) lexTellsUptoCard

/-- THE SECOND FORM's CARD OF 'exchequerlaw12.LexValues'. -/
def lexValuesUptoCard : Claim7 := { stood := { row := lexValuesUptoRow, standIns := [], harness := (true, "ffbae070818c3c76d9d04a32305f86536a00d615c16569748eb9cb53e03b1f80"), looks := false }, kinds := [], alts := [], laidByText := true, laidKinds := [.data, .widerDeep, .pinned], laidTests := true, laidLooks := .later }
def LexValuesUptoCardSaid : Prop := Claim7.holds Tryd.pinned (.plain (OpenSpec.upto lexValuesSpec)) lexValuesUptoCard

/-- THE SECOND FORM's CARD OF 'exchequerlaw13.AstApart'. -/
def astApartUptoCard : Claim7 := { stood := { row := astApartUptoRow, standIns := [], harness := (true, "ffbae070818c3c76d9d04a32305f86536a00d615c16569748eb9cb53e03b1f80"), looks := false }, kinds := [], alts := [], laidByText := true, laidKinds := [.data, .mapped, .data, .pinned], laidTests := true, laidLooks := .later }
def AstApartUptoCardSaid : Prop := Claim7.holds Tryd.pinned (.plain (OpenSpec.upto astApartSpec)) astApartUptoCard

/-- THE SECOND FORM's CARD OF 'exchequerlaw13.AstDeep'. -/
def astDeepUptoCard : Claim7 := { stood := { row := astDeepUptoRow, standIns := [], harness := (true, "ffbae070818c3c76d9d04a32305f86536a00d615c16569748eb9cb53e03b1f80"), looks := false }, kinds := [], alts := [], laidByText := true, laidKinds := [.data, .mapped, .data, .pinned], laidTests := true, laidLooks := .later }
def AstDeepUptoCardSaid : Prop := Claim7.holds Tryd.pinned (.plain (OpenSpec.upto astDeepSpec)) astDeepUptoCard

/-- THE SECOND FORM's CARD OF 'exchequerlaw13.AstHurt'. -/
def astHurtUptoCard : Claim7 := { stood := { row := astHurtUptoRow, standIns := [], harness := (true, "ffbae070818c3c76d9d04a32305f86536a00d615c16569748eb9cb53e03b1f80"), looks := false }, kinds := [], alts := [], laidByText := true, laidKinds := [.data, .mapped, .data, .pinned], laidTests := true, laidLooks := .later }
def AstHurtUptoCardSaid : Prop := Claim7.holds Tryd.pinned (.plain (OpenSpec.upto astHurtSpec)) astHurtUptoCard
end Rows
end Go.Proofs.YtjpcghlpkinahaaDoor
