/-
  No cell of these rows narrows 'for every input' (looked for: loops, veiled, ifaces, maps, wideKeys, modest, calm, conditions, laid).
  DERIVED. THE GIVEN ROWS OF THIS SEAT. 3 by the template 'for every input the law returns true; each argument reads behind the call as it read before'; 0 by the template 'total and deterministic' (their statements: YtecipnjloenndaaTotals.lean).
  GIVEN WITH THE SEED: the statements are not yours to turn. If you find one false, say at which input.
  Laid BY PROGRAM, IN A SANDBOX (cutbox-rows.mjs): the forced cells as the released guide's own fill.sh prints them over the translation 8f4bf9b630858b35… (all of the seat's roots in one cut). By AI agents, Wed Nov 11 2026. No macro, syntax, notation, axiom, sorry.
-/
import Derived.Test.YtecipnjloenndaaChecked
import GoSem.Claim
import GoSem.ClaimJoined
import GoSem.ClaimMapViews
import Derived.JoinedTies
import Derived.KernelRfl
namespace Go.Proofs.Ytecipnjloenndaa
/- THE CELL 'sum', in the pinned program and in every row, IS THE sha256 OF THE DUMP (.gsa) THAT YtecipnjloenndaaProg.lean LOADS. Nothing in Lean hashes anything: it is a label: what it is worth is what the hold of that sum in a sandbox is worth. -/
noncomputable def Try.pinned : Pinned := { name := "ytecipnjloenndaa", sum := "8f4bf9b630858b353f7d9707e83dd90e6fe5765f15f1f53ee99bad4a0fa8fb35", checked := Try.checked }
namespace Rows
def none {H : Type} : Left H := { results := [], args := [] }

/-- 'greenscreenlaw18.ScreenSizes': WHATEVER THE INPUT: true; the input reads as it did. -/
def screenSizesSpec : ChangeSpec := { name := "screenSizes", fn := fun _ => fun
  | [d1, d2, d3] => { results := [.lit (.bool true)], args := [d1, d2, d3] }
  | _ => none }
def screenSizesRow : OpenClaim := { program := "ytecipnjloenndaa", sum := "8f4bf9b630858b353f7d9707e83dd90e6fe5765f15f1f53ee99bad4a0fa8fb35", func := "greenscreen/greenscreenlaw18.ScreenSizes", spec := "screenSizes", unfollowed := true, recurses := true, apart := false }
def ScreenSizesSaid : Prop := screenSizesRow.holds Try.pinned (OpenSpec.ofChange screenSizesSpec)

/-- ITS FALSE NEIGHBOUR: 'it returns false'. Refute it at one input. -/
def screenSizesWrong : ChangeSpec := { name := "screenSizes", fn := fun _ => fun
  | [d1, d2, d3] => { results := [.lit (.bool false)], args := [d1, d2, d3] }
  | _ => none }
def ScreenSizesWrongFalsely : Prop := screenSizesRow.holds Try.pinned (OpenSpec.ofChange screenSizesWrong)

/-- 'greenscreenlaw18.ScreenErases': WHATEVER THE INPUT: true; the input reads as it did. -/
def screenErasesSpec : ChangeSpec := { name := "screenErases", fn := fun _ => fun
  | [d1, d2, d3, d4] => { results := [.lit (.bool true)], args := [d1, d2, d3, d4] }
  | _ => none }
def screenErasesRow : OpenClaim := { program := "ytecipnjloenndaa", sum := "8f4bf9b630858b353f7d9707e83dd90e6fe5765f15f1f53ee99bad4a0fa8fb35", func := "greenscreen/greenscreenlaw18.ScreenErases", spec := "screenErases", unfollowed := true, recurses := true, apart := false }
def ScreenErasesSaid : Prop := screenErasesRow.holds Try.pinned (OpenSpec.ofChange screenErasesSpec)

/-- ITS FALSE NEIGHBOUR: 'it returns false'. Refute it at one input. -/
def screenErasesWrong : ChangeSpec := { name := "screenErases", fn := fun _ => fun
  | [d1, d2, d3, d4] => { results := [.lit (.bool false)], args := [d1, d2, d3, d4] }
  | _ => none }
def ScreenErasesWrongFalsely : Prop := screenErasesRow.holds Try.pinned (OpenSpec.ofChange screenErasesWrong)

/-- 'greenscreenlaw18.ScreenFields': WHATEVER THE INPUT: true; the input reads as it did. -/
def screenFieldsSpec : ChangeSpec := { name := "screenFields", fn := fun _ => fun
  | [d1, d2, d3] => { results := [.lit (.bool true)], args := [d1, d2, d3] }
  | _ => none }
def screenFieldsRow : OpenClaim := { program := "ytecipnjloenndaa", sum := "8f4bf9b630858b353f7d9707e83dd90e6fe5765f15f1f53ee99bad4a0fa8fb35", func := "greenscreen/greenscreenlaw18.ScreenFields", spec := "screenFields", unfollowed := true, recurses := true, apart := false }
def ScreenFieldsSaid : Prop := screenFieldsRow.holds Try.pinned (OpenSpec.ofChange screenFieldsSpec)

/-- ITS FALSE NEIGHBOUR: 'it returns false'. Refute it at one input. -/
def screenFieldsWrong : ChangeSpec := { name := "screenFields", fn := fun _ => fun
  | [d1, d2, d3] => { results := [.lit (.bool false)], args := [d1, d2, d3] }
  | _ => none }
def ScreenFieldsWrongFalsely : Prop := screenFieldsRow.holds Try.pinned (OpenSpec.ofChange screenFieldsWrong)

/- THE SECOND FORM. 'bulk': how many values and letters a reading holds, each counted each time it is reached (what is shared counts as often as it is met; a slice's spare places count too). A statement '..UptoSaid' is the law's where the arguments, and the package variables that the reading takes, are together of bulk at most 1048576: NARROWER than '..Said'. Prove '..Said' where nothing that the law and all that it calls make is longer than what came in: it says more and counts as full. Else prove '..UptoSaid'. A law counts once. -/
mutual
def uptoBulk {H : Type} : DataW H → Nat
  | .lit (.string bytes) => bytes.length + 1
  | .lit _ => 1
  | .nil => 1
  | .ptr d => uptoBulk d + 1
  | .slice elems spare => uptoBulkAll elems + uptoBulkAll spare + 1
  | .agg parts => uptoBulkAll parts + 1
  | .iface _ d => uptoBulk d + 1
  | .map entries => uptoBulkEntries entries + 1
  | .held _ => 1
def uptoBulkAll {H : Type} : List (DataW H) → Nat
  | [] => 0
  | d :: r => uptoBulk d + uptoBulkAll r
def uptoBulkEntries {H : Type} : List (Lit × DataW H) → Nat
  | [] => 0
  | x :: r => uptoBulkEntry x + uptoBulkEntries r
def uptoBulkEntry {H : Type} : Lit × DataW H → Nat
  | (.string bytes, d) => bytes.length + uptoBulk d + 1
  | (_, d) => uptoBulk d + 1
 end
def uptoSmall : (H : Type) → List (DataW H) → Bool := fun _ ds => decide (uptoBulkAll ds ≤ 1048576)
def OpenSpec.upto (s : _root_.Go.ChangeSpec) : _root_.Go.OpenSpec := { _root_.Go.OpenSpec.ofChange s with cond := some uptoSmall }

/-- 'greenscreenlaw18.ScreenSizes', WHERE WHAT IT READS IS OF BULK AT MOST 1048576: true; the input reads as it did. -/
def screenSizesUptoRow : OpenClaim := { program := "ytecipnjloenndaa", sum := "8f4bf9b630858b353f7d9707e83dd90e6fe5765f15f1f53ee99bad4a0fa8fb35", func := "greenscreen/greenscreenlaw18.ScreenSizes", spec := "screenSizes", unfollowed := true, recurses := true, apart := false, narrowed := true }
def ScreenSizesUptoSaid : Prop := screenSizesUptoRow.holds Try.pinned (OpenSpec.upto screenSizesSpec)

/-- 'greenscreenlaw18.ScreenErases', WHERE WHAT IT READS IS OF BULK AT MOST 1048576: true; the input reads as it did. -/
def screenErasesUptoRow : OpenClaim := { program := "ytecipnjloenndaa", sum := "8f4bf9b630858b353f7d9707e83dd90e6fe5765f15f1f53ee99bad4a0fa8fb35", func := "greenscreen/greenscreenlaw18.ScreenErases", spec := "screenErases", unfollowed := true, recurses := true, apart := false, narrowed := true }
def ScreenErasesUptoSaid : Prop := screenErasesUptoRow.holds Try.pinned (OpenSpec.upto screenErasesSpec)

/-- 'greenscreenlaw18.ScreenFields', WHERE WHAT IT READS IS OF BULK AT MOST 1048576: true; the input reads as it did. -/
def screenFieldsUptoRow : OpenClaim := { program := "ytecipnjloenndaa", sum := "8f4bf9b630858b353f7d9707e83dd90e6fe5765f15f1f53ee99bad4a0fa8fb35", func := "greenscreen/greenscreenlaw18.ScreenFields", spec := "screenFields", unfollowed := true, recurses := true, apart := false, narrowed := true }
def ScreenFieldsUptoSaid : Prop := screenFieldsUptoRow.holds Try.pinned (OpenSpec.upto screenFieldsSpec)

end Rows
end Go.Proofs.Ytecipnjloenndaa
