/-
  DERIVED. GIVEN WITH THE SEED: THE CARDS: each row of YtecipnjloenndaaGreatDoorRows.lean that lists a variable, with what it lists TIED to the program's text (the seventh form; the later family's looks); each row that meets fmt, with fmt's text TOLD by the authors' own Lean function (tested against real Go, not proved from fmt's source: count such statements apart). THE CARD IS WHAT COUNTS. Prove the row's statement (the work); the ties are given (YtecipnjloenndaaGreatDoorTie.lean); close each card by the builder's one call (the guide's Derived/Test/ToyasCard.lean, 'card_holds'). Laid BY PROGRAM, IN A SANDBOX (cutbox-door.mjs). By AI agents, Wed Nov 11 2026. No macro, syntax, notation, axiom, sorry.
-/
import Derived.Test.YtecipnjloenndaaGreatDoorRows
import GoSem.ClaimSeven
namespace Go.Proofs.YtecipnjloenndaaGreatDoor
namespace Rows

/-- THE TIED CARD OF 'greenscreenlaw22.KeyboardNames'. -/
def keyboardNamesCard : Claim7 := { stood := { row := keyboardNamesRow, standIns := [], harness := (true, "20c78df6b02ce5f4e599e9fa58c9386561155f8c7346b2603f5c6828feac630c"), looks := true }, kinds := [], alts := [], laidByText := true, laidKinds := [.data, .data, .data, .data], laidTests := true, laidLooks := .later }
def KeyboardNamesCardSaid : Prop := Claim7.holds Tryz.pinned (.plain (OpenSpec.ofChange keyboardNamesSpec)) keyboardNamesCard

/-- THE TIED CARD OF 'greenscreenlaw22.KeyboardPlays'. -/
def keyboardPlaysCard : Claim7 := { stood := { row := keyboardPlaysRow, standIns := [], harness := (true, "20c78df6b02ce5f4e599e9fa58c9386561155f8c7346b2603f5c6828feac630c"), looks := true }, kinds := [], alts := [], laidByText := true, laidKinds := [.data, .data, .data, .data], laidTests := true, laidLooks := .later }
def KeyboardPlaysCardSaid : Prop := Claim7.holds Tryz.pinned (.plain (OpenSpec.ofChange keyboardPlaysSpec)) keyboardPlaysCard

/-- THE TIED CARD OF 'greenscreenlaw22.KeyboardLocks'. -/
def keyboardLocksCard : Claim7 := { stood := { row := keyboardLocksRow, standIns := [], harness := (true, "20c78df6b02ce5f4e599e9fa58c9386561155f8c7346b2603f5c6828feac630c"), looks := true }, kinds := [], alts := [], laidByText := true, laidKinds := [.data, .data, .data, .data], laidTests := true, laidLooks := .later }
def KeyboardLocksCardSaid : Prop := Claim7.holds Tryz.pinned (.plain (OpenSpec.ofChange keyboardLocksSpec)) keyboardLocksCard

/-- THE TIED CARD OF 'greenscreenlaw22.KeyboardResets'. -/
def keyboardResetsCard : Claim7 := { stood := { row := keyboardResetsRow, standIns := [], harness := (true, "20c78df6b02ce5f4e599e9fa58c9386561155f8c7346b2603f5c6828feac630c"), looks := true }, kinds := [], alts := [], laidByText := true, laidKinds := [.data, .data, .data, .data], laidTests := true, laidLooks := .later }
def KeyboardResetsCardSaid : Prop := Claim7.holds Tryz.pinned (.plain (OpenSpec.ofChange keyboardResetsSpec)) keyboardResetsCard

/-- THE SECOND FORM's CARD OF 'greenscreenlaw22.KeyboardNames'. -/
def keyboardNamesUptoCard : Claim7 := { stood := { row := keyboardNamesUptoRow, standIns := [], harness := (true, "20c78df6b02ce5f4e599e9fa58c9386561155f8c7346b2603f5c6828feac630c"), looks := true }, kinds := [], alts := [], laidByText := true, laidKinds := [.data, .data, .data, .data], laidTests := true, laidLooks := .later }
def KeyboardNamesUptoCardSaid : Prop := Claim7.holds Tryz.pinned (.plain (OpenSpec.upto keyboardNamesSpec)) keyboardNamesUptoCard

/-- THE SECOND FORM's CARD OF 'greenscreenlaw22.KeyboardPlays'. -/
def keyboardPlaysUptoCard : Claim7 := { stood := { row := keyboardPlaysUptoRow, standIns := [], harness := (true, "20c78df6b02ce5f4e599e9fa58c9386561155f8c7346b2603f5c6828feac630c"), looks := true }, kinds := [], alts := [], laidByText := true, laidKinds := [.data, .data, .data, .data], laidTests := true, laidLooks := .later }
def KeyboardPlaysUptoCardSaid : Prop := Claim7.holds Tryz.pinned (.plain (OpenSpec.upto keyboardPlaysSpec)) keyboardPlaysUptoCard

/-- THE SECOND FORM's CARD OF 'greenscreenlaw22.KeyboardLocks'. -/
def keyboardLocksUptoCard : Claim7 := { stood := { row := keyboardLocksUptoRow, standIns := [], harness := (true, "20c78df6b02ce5f4e599e9fa58c9386561155f8c7346b2603f5c6828feac630c"), looks := true }, kinds := [], alts := [], laidByText := true, laidKinds := [.data, .data, .data, .data], laidTests := true, laidLooks := .later }
def KeyboardLocksUptoCardSaid : Prop := Claim7.holds Tryz.pinned (.plain (OpenSpec.upto keyboardLocksSpec)) keyboardLocksUptoCard

/-- THE SECOND FORM's CARD OF 'greenscreenlaw22.KeyboardResets'. -/
def keyboardResetsUptoCard : Claim7 := { stood := { row := keyboardResetsUptoRow, standIns := [], harness := (true, "20c78df6b02ce5f4e599e9fa58c9386561155f8c7346b2603f5c6828feac630c"), looks := true }, kinds := [], alts := [], laidByText := true, laidKinds := [.data, .data, .data, .data], laidTests := true, laidLooks := .later }
def KeyboardResetsUptoCardSaid : Prop := Claim7.holds Tryz.pinned (.plain (OpenSpec.upto keyboardResetsSpec)) keyboardResetsUptoCard
end Rows
end Go.Proofs.YtecipnjloenndaaGreatDoor
