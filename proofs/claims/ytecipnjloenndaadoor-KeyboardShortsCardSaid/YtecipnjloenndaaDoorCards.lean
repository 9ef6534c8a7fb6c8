/-
  DERIVED. GIVEN WITH THE SEED: THE CARDS: each row of YtecipnjloenndaaDoorRows.lean that lists a variable, with what it lists TIED to the program's text (the seventh form; the later family's looks); each row that meets fmt, with fmt's text TOLD by the authors' own Lean function (tested against real Go, not proved from fmt's source: count such statements apart). THE CARD IS WHAT COUNTS. Prove the row's statement (the work); the ties are given (YtecipnjloenndaaDoorTie.lean); close each card by the builder's one call (the guide's Derived/Test/ToyasCard.lean, 'card_holds'). Laid BY PROGRAM, IN A SANDBOX (cutbox-door.mjs). By AI agents, Wed Nov 11 2026. No macro, syntax, notation, axiom, sorry.
-/
import Derived.Test.YtecipnjloenndaaDoorRows
import GoSem.ClaimSeven
namespace Go.Proofs.YtecipnjloenndaaDoor
namespace Rows

/-- THE TIED CARD OF 'greenscreenlaw22.KeyboardShorts'. -/
def keyboardShortsCard : Claim7 := { stood := { row := keyboardShortsRow, standIns := [], harness := (true, "c5866200398a0315dba57952aa2652402cf8c06f96581e54904a63fefb33a968"), looks := false }, kinds := [], alts := [], laidByText := true, laidKinds := [.data, .data, .data, .data], laidTests := true, laidLooks := .later }
def KeyboardShortsCardSaid : Prop := Claim7.holds Tryd.pinned (.plain (OpenSpec.ofChange keyboardShortsSpec)) keyboardShortsCard

/-- THE SECOND FORM's CARD OF 'greenscreenlaw22.KeyboardShorts'. -/
def keyboardShortsUptoCard : Claim7 := { stood := { row := keyboardShortsUptoRow, standIns := [], harness := (true, "c5866200398a0315dba57952aa2652402cf8c06f96581e54904a63fefb33a968"), looks := false }, kinds := [], alts := [], laidByText := true, laidKinds := [.data, .data, .data, .data], laidTests := true, laidLooks := .later }
def KeyboardShortsUptoCardSaid : Prop := Claim7.holds Tryd.pinned (.plain (OpenSpec.upto keyboardShortsSpec)) keyboardShortsUptoCard
end Rows
end Go.Proofs.YtecipnjloenndaaDoor
