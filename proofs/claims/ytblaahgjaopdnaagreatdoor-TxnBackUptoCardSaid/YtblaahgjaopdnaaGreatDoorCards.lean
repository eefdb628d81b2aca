/-
  DERIVED. GIVEN WITH THE SEED: THE CARDS: each row of YtblaahgjaopdnaaGreatDoorRows.lean that lists a variable, with what it lists TIED to the program's text (the seventh form; the later family's looks); each row that meets fmt, with fmt's text TOLD by the authors' own Lean function (tested against real Go, not proved from fmt's source: count such statements apart). THE CARD IS WHAT COUNTS. Prove the row's statement (the work); the ties are given (YtblaahgjaopdnaaGreatDoorTie.lean); close each card by the builder's one call (the guide's Derived/Test/ToyasCard.lean, 'card_holds'). Laid BY PROGRAM, IN A SANDBOX (cutbox-door.mjs). By AI agents, Wed Nov 11 2026. No macro, syntax, notation, axiom, sorry.
-/
import Derived.Test.YtblaahgjaopdnaaGreatDoorRows
import GoSem.ClaimSeven
namespace Go.Proofs.YtblaahgjaopdnaaGreatDoor
namespace Rows

/-- THE TIED CARD OF 'exchequerlaw20.TxnWrites'. -/
def txnWritesCard : Claim7 := { stood := { row := txnWritesRow, standIns := [], harness := (true, "702a3633698e248217060c796d87b56fc574b80f3436676e25e8a90ebf8621cb"), looks := false }, kinds := [], alts := [], laidByText := true, laidKinds := [.data, .widerDeep, .mapped, .data, .pinned], laidTests := true, laidLooks := .later }
def TxnWritesCardSaid : Prop := Claim7.holds Tryz.pinned (.plain (OpenSpec.ofChange txnWritesSpec)) txnWritesCard

/-- THE TIED CARD OF 'exchequerlaw20.TxnBack'. -/
def txnBackCard : Claim7 := { stood := { row := txnBackRow, standIns := [], harness := (true, "702a3633698e248217060c796d87b56fc574b80f3436676e25e8a90ebf8621cb"), looks := false }, kinds := [], alts := [], laidByText := true, laidKinds := [.data, .widerDeep, .mapped, .data, .pinned], laidTests := true, laidLooks := .later }
def TxnBackCardSaid : Prop := Claim7.holds Tryz.pinned (.plain (OpenSpec.ofChange txnBackSpec)) txnBackCard

/-- THE SECOND FORM's CARD OF 'exchequerlaw20.TxnWrites'. -/
def txnWritesUptoCard : Claim7 := { stood := { row := txnWritesUptoRow, standIns := [], harness := (true, "702a3633698e248217060c796d87b56fc574b80f3436676e25e8a90ebf8621cb"), looks := false }, kinds := [], alts := [], laidByText := true, laidKinds := [.data, .widerDeep, .mapped, .data, .pinned], laidTests := true, laidLooks := .later }
def TxnWritesUptoCardSaid : Prop := Claim7.holds Tryz.pinned (.plain (OpenSpec.upto txnWritesSpec)) txnWritesUptoCard

/-- THE SECOND FORM's CARD OF 'exchequerlaw20.TxnBack'. -/
def txnBackUptoCard : Claim7 := { stood := { row := txnBackUptoRow, standIns := [], harness := (true, "702a3633698e248217060c796d87b56fc574b80f3436676e25e8a90ebf8621cb"), looks := false }, kinds := [], alts := [], laidByText := true, laidKinds := [.data, .widerDeep, .mapped, .data, .pinned], laidTests := true, laidLooks := .later }
def TxnBackUptoCardSaid : Prop := Claim7.holds Tryz.pinned (.plain (OpenSpec.upto txnBackSpec)) txnBackUptoCard
end Rows
end Go.Proofs.YtblaahgjaopdnaaGreatDoor
