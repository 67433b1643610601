/-
  No cell of these rows narrows 'for every input' (looked for: loops, veiled, ifaces, maps, wideKeys, modest, calm, conditions, laid).
  DERIVED. THE GIVEN ROWS OF THIS SEAT. 5 by the template 'for every input the law returns true; each argument reads behind the call as it read before'; 0 by the template 'total and deterministic' (their statements: YtbncppklmhfnmaaTotals.lean).
  GIVEN WITH THE SEED: the statements are not yours to turn. If you find one false, say at which input.
  Laid BY PROGRAM, IN A SANDBOX (cutbox-rows.mjs): the forced cells as the released guide's own fill.sh prints them over the translation 80cc0fff8db750af… (all of the seat's roots in one cut). By AI agents, Wed Nov 11 2026. No macro, syntax, notation, axiom, sorry.
-/
import Derived.Test.YtbncppklmhfnmaaChecked
import GoSem.Claim
import GoSem.ClaimJoined
import GoSem.ClaimMapViews
import Derived.JoinedTies
import Derived.KernelRfl
namespace Go.Proofs.Ytbncppklmhfnmaa
/- THE CELL 'sum', in the pinned program and in every row, IS THE sha256 OF THE DUMP (.gsa) THAT YtbncppklmhfnmaaProg.lean LOADS. Nothing in Lean hashes anything: it is a label: what it is worth is what the hold of that sum in a sandbox is worth. -/
noncomputable def Try.pinned : Pinned := { name := "ytbncppklmhfnmaa", sum := "80cc0fff8db750af6cc1c744d2655ca74cd1edf4c2b047d6d782dc995133ab27", checked := Try.checked }
namespace Rows
def none {H : Type} : Left H := { results := [], args := [] }

/-- 'kinoralaw22.ScanTells': WHATEVER THE INPUT: true; the input reads as it did. -/
def scanTellsSpec : ChangeSpec := { name := "scanTells", fn := fun _ => fun
  | [d1, d2, d3] => { results := [.lit (.bool true)], args := [d1, d2, d3] }
  | _ => none }
def scanTellsRow : OpenClaim := { program := "ytbncppklmhfnmaa", sum := "80cc0fff8db750af6cc1c744d2655ca74cd1edf4c2b047d6d782dc995133ab27", func := "kinora/kinoralaw22.ScanTells", spec := "scanTells", apart := false }
def ScanTellsSaid : Prop := scanTellsRow.holds Try.pinned (OpenSpec.ofChange scanTellsSpec)

/-- ITS FALSE NEIGHBOUR: 'it returns false'. Refute it at one input. -/
def scanTellsWrong : ChangeSpec := { name := "scanTells", fn := fun _ => fun
  | [d1, d2, d3] => { results := [.lit (.bool false)], args := [d1, d2, d3] }
  | _ => none }
def ScanTellsWrongFalsely : Prop := scanTellsRow.holds Try.pinned (OpenSpec.ofChange scanTellsWrong)

/-- 'kinoralaw22.ScanTakes': WHATEVER THE INPUT: true; the input reads as it did. -/
def scanTakesSpec : ChangeSpec := { name := "scanTakes", fn := fun _ => fun
  | [d1, d2, d3] => { results := [.lit (.bool true)], args := [d1, d2, d3] }
  | _ => none }
def scanTakesRow : OpenClaim := { program := "ytbncppklmhfnmaa", sum := "80cc0fff8db750af6cc1c744d2655ca74cd1edf4c2b047d6d782dc995133ab27", func := "kinora/kinoralaw22.ScanTakes", spec := "scanTakes", apart := false }
def ScanTakesSaid : Prop := scanTakesRow.holds Try.pinned (OpenSpec.ofChange scanTakesSpec)

/-- ITS FALSE NEIGHBOUR: 'it returns false'. Refute it at one input. -/
def scanTakesWrong : ChangeSpec := { name := "scanTakes", fn := fun _ => fun
  | [d1, d2, d3] => { results := [.lit (.bool false)], args := [d1, d2, d3] }
  | _ => none }
def ScanTakesWrongFalsely : Prop := scanTakesRow.holds Try.pinned (OpenSpec.ofChange scanTakesWrong)

/-- 'kinoralaw22.ScanBack': WHATEVER THE INPUT: true; the input reads as it did. -/
def scanBackSpec : ChangeSpec := { name := "scanBack", fn := fun _ => fun
  | [d1, d2, d3] => { results := [.lit (.bool true)], args := [d1, d2, d3] }
  | _ => none }
def scanBackRow : OpenClaim := { program := "ytbncppklmhfnmaa", sum := "80cc0fff8db750af6cc1c744d2655ca74cd1edf4c2b047d6d782dc995133ab27", func := "kinora/kinoralaw22.ScanBack", spec := "scanBack", apart := false }
def ScanBackSaid : Prop := scanBackRow.holds Try.pinned (OpenSpec.ofChange scanBackSpec)

/-- ITS FALSE NEIGHBOUR: 'it returns false'. Refute it at one input. -/
def scanBackWrong : ChangeSpec := { name := "scanBack", fn := fun _ => fun
  | [d1, d2, d3] => { results := [.lit (.bool false)], args := [d1, d2, d3] }
  | _ => none }
def ScanBackWrongFalsely : Prop := scanBackRow.holds Try.pinned (OpenSpec.ofChange scanBackWrong)

/-- 'kinoralaw22.ScanRoughly': WHATEVER THE INPUT: true; the input reads as it did. -/
def scanRoughlySpec : ChangeSpec := { name := "scanRoughly", fn := fun _ => fun
  | [d1, d2, d3, d4, d5] => { results := [.lit (.bool true)], args := [d1, d2, d3, d4, d5] }
  | _ => none }
def scanRoughlyRow : OpenClaim := { program := "ytbncppklmhfnmaa", sum := "80cc0fff8db750af6cc1c744d2655ca74cd1edf4c2b047d6d782dc995133ab27", func := "kinora/kinoralaw22.ScanRoughly", spec := "scanRoughly", apart := false }
def ScanRoughlySaid : Prop := scanRoughlyRow.holds Try.pinned (OpenSpec.ofChange scanRoughlySpec)

/-- ITS FALSE NEIGHBOUR: 'it returns false'. Refute it at one input. -/
def scanRoughlyWrong : ChangeSpec := { name := "scanRoughly", fn := fun _ => fun
  | [d1, d2, d3, d4, d5] => { results := [.lit (.bool false)], args := [d1, d2, d3, d4, d5] }
  | _ => none }
def ScanRoughlyWrongFalsely : Prop := scanRoughlyRow.holds Try.pinned (OpenSpec.ofChange scanRoughlyWrong)

/-- 'kinoralaw22.ScanKeeps': WHATEVER THE INPUT: true; the input reads as it did. -/
def scanKeepsSpec : ChangeSpec := { name := "scanKeeps", fn := fun _ => fun
  | [d1, d2, d3, d4] => { results := [.lit (.bool true)], args := [d1, d2, d3, d4] }
  | _ => none }
def scanKeepsRow : OpenClaim := { program := "ytbncppklmhfnmaa", sum := "80cc0fff8db750af6cc1c744d2655ca74cd1edf4c2b047d6d782dc995133ab27", func := "kinora/kinoralaw22.ScanKeeps", spec := "scanKeeps", apart := false }
def ScanKeepsSaid : Prop := scanKeepsRow.holds Try.pinned (OpenSpec.ofChange scanKeepsSpec)

/-- ITS FALSE NEIGHBOUR: 'it returns false'. Refute it at one input. -/
def scanKeepsWrong : ChangeSpec := { name := "scanKeeps", fn := fun _ => fun
  | [d1, d2, d3, d4] => { results := [.lit (.bool false)], args := [d1, d2, d3, d4] }
  | _ => none }
def ScanKeepsWrongFalsely : Prop := scanKeepsRow.holds Try.pinned (OpenSpec.ofChange scanKeepsWrong)

/- THE SECOND FORM. 'bulk': how many values and letters a reading holds, each counted each time it is reached (what is shared counts as often as it is met; a slice's spare places count too). A statement '..UptoSaid' is the law's where the arguments, and the package variables that the reading takes, are together of bulk at most 1048576: NARROWER than '..Said'. Prove '..Said' where nothing that the law and all that it calls make is longer than what came in: it says more and counts as full. Else prove '..UptoSaid'. A law counts once. -/
mutual
def uptoBulk {H : Type} : DataW H → Nat
  | .lit (.string bytes) => bytes.length + 1
  | .lit _ => 1
  | .nil => 1
  | .ptr d => uptoBulk d + 1
  | .slice elems spare => uptoBulkAll elems + uptoBulkAll spare + 1
  | .agg parts => uptoBulkAll parts + 1
  | .iface _ d => uptoBulk d + 1
  | .map entries => uptoBulkEntries entries + 1
  | .held _ => 1
def uptoBulkAll {H : Type} : List (DataW H) → Nat
  | [] => 0
  | d :: r => uptoBulk d + uptoBulkAll r
def uptoBulkEntries {H : Type} : List (Lit × DataW H) → Nat
  | [] => 0
  | x :: r => uptoBulkEntry x + uptoBulkEntries r
def uptoBulkEntry {H : Type} : Lit × DataW H → Nat
  | (.string bytes, d) => bytes.length + uptoBulk d + 1
  | (_, d) => uptoBulk d + 1
 end
def uptoSmall : (H : Type) → List (DataW H) → Bool := fun _ ds => decide (uptoBulkAll ds ≤ 1048576)
def OpenSpec.upto (s : _root_.Go.ChangeSpec) : _root_.Go.OpenSpec := { _root_.Go.OpenSpec.ofChange s with cond := some uptoSmall }

/-- 'kinoralaw22.ScanTells', WHERE WHAT IT READS IS OF BULK AT MOST 1048576: true; the input reads as it did. -/
def scanTellsUptoRow : OpenClaim := { program := "ytbncppklmhfnmaa", sum := "80cc0fff8db750af6cc1c744d2655ca74cd1edf4c2b047d6d782dc995133ab27", func := "kinora/kinoralaw22.ScanTells", spec := "scanTells", apart := false, narrowed := true }
def ScanTellsUptoSaid : Prop := scanTellsUptoRow.holds Try.pinned (OpenSpec.upto scanTellsSpec)

/-- 'kinoralaw22.ScanTakes', WHERE WHAT IT READS IS OF BULK AT MOST 1048576: true; the input reads as it did. -/
def scanTakesUptoRow : OpenClaim := { program := "ytbncppklmhfnmaa", sum := "80cc0fff8db750af6cc1c744d2655ca74cd1edf4c2b047d6d782dc995133ab27", func := "kinora/kinoralaw22.ScanTakes", spec := "scanTakes", apart := false, narrowed := true }
def ScanTakesUptoSaid : Prop := scanTakesUptoRow.holds Try.pinned (OpenSpec.upto scanTakesSpec)

/-- 'kinoralaw22.ScanBack', WHERE WHAT IT READS IS OF BULK AT MOST 1048576: true; the input reads as it did. -/
def scanBackUptoRow : OpenClaim := { program := "ytbncppklmhfnmaa", sum := "80cc0fff8db750af6cc1c744d2655ca74cd1edf4c2b047d6d782dc995133ab27", func := "kinora/kinoralaw22.ScanBack", spec := "scanBack", apart := false, narrowed := true }
def ScanBackUptoSaid : Prop := scanBackUptoRow.holds Try.pinned (OpenSpec.upto scanBackSpec)

/-- 'kinoralaw22.ScanRoughly', WHERE WHAT IT READS IS OF BULK AT MOST 1048576: true; the input reads as it did. -/
def scanRoughlyUptoRow : OpenClaim := { program := "ytbncppklmhfnmaa", sum := "80cc0fff8db750af6cc1c744d2655ca74cd1edf4c2b047d6d782dc995133ab27", func := "kinora/kinoralaw22.ScanRoughly", spec := "scanRoughly", apart := false, narrowed := true }
def ScanRoughlyUptoSaid : Prop := scanRoughlyUptoRow.holds Try.pinned (OpenSpec.upto scanRoughlySpec)

/-- 'kinoralaw22.ScanKeeps', WHERE WHAT IT READS IS OF BULK AT MOST 1048576: true; the input reads as it did. -/
def scanKeepsUptoRow : OpenClaim := { program := "ytbncppklmhfnmaa", sum := "80cc0fff8db750af6cc1c744d2655ca74cd1edf4c2b047d6d782dc995133ab27", func := "kinora/kinoralaw22.ScanKeeps", spec := "scanKeeps", apart := false, narrowed := true }
def ScanKeepsUptoSaid : Prop := scanKeepsUptoRow.holds Try.pinned (OpenSpec.upto scanKeepsSpec)

end Rows
end Go.Proofs.Ytbncppklmhfnmaa
