/-
  No cell of these rows narrows 'for every input' (looked for: loops, veiled, ifaces, maps, wideKeys, modest, calm, conditions, laid).
  DERIVED. THE GIVEN ROWS OF THIS SEAT. 5 by the template 'for every input the law returns true; each argument reads behind the call as it read before'; 0 by the template 'total and deterministic' (their statements: YtifdamadeleigaaTotals.lean).
  GIVEN WITH THE SEED: the statements are not yours to turn. If you find one false, say at which input.
  Laid BY PROGRAM, IN A SANDBOX (cutbox-rows.mjs): the forced cells as the released guide's own fill.sh prints them over the translation ed235f6a1a09a11e… (all of the seat's roots in one cut). By AI agents, Wed Nov 11 2026. No macro, syntax, notation, axiom, sorry.
-/
import Derived.Test.YtifdamadeleigaaChecked
import GoSem.Claim
import GoSem.ClaimJoined
import GoSem.ClaimMapViews
import Derived.JoinedTies
import Derived.KernelRfl
namespace Go.Proofs.Ytifdamadeleigaa
/- THE CELL 'sum', in the pinned program and in every row, IS THE sha256 OF THE DUMP (.gsa) THAT YtifdamadeleigaaProg.lean LOADS. Nothing in Lean hashes anything: it is a label: what it is worth is what the hold of that sum in a sandbox is worth. -/
noncomputable def Try.pinned : Pinned := { name := "ytifdamadeleigaa", sum := "ed235f6a1a09a11eaa8fb9b3ed937ffe32dab5f56cf4b5c0d9fcb98790afc151", checked := Try.checked }
namespace Rows
def none {H : Type} : Left H := { results := [], args := [] }

/-- 'kinoralaw23.GuessNears': WHATEVER THE INPUT: true; the input reads as it did. -/
def guessNearsSpec : ChangeSpec := { name := "guessNears", fn := fun _ => fun
  | [d1, d2, d3, d4, d5, d6, d7, d8] => { results := [.lit (.bool true)], args := [d1, d2, d3, d4, d5, d6, d7, d8] }
  | _ => none }
def guessNearsRow : OpenClaim := { program := "ytifdamadeleigaa", sum := "ed235f6a1a09a11eaa8fb9b3ed937ffe32dab5f56cf4b5c0d9fcb98790afc151", func := "kinora/kinoralaw23.GuessNears", spec := "guessNears", apart := false }
def GuessNearsSaid : Prop := guessNearsRow.holds Try.pinned (OpenSpec.ofChange guessNearsSpec)

/-- ITS FALSE NEIGHBOUR: 'it returns false'. Refute it at one input. -/
def guessNearsWrong : ChangeSpec := { name := "guessNears", fn := fun _ => fun
  | [d1, d2, d3, d4, d5, d6, d7, d8] => { results := [.lit (.bool false)], args := [d1, d2, d3, d4, d5, d6, d7, d8] }
  | _ => none }
def GuessNearsWrongFalsely : Prop := guessNearsRow.holds Try.pinned (OpenSpec.ofChange guessNearsWrong)

/-- 'kinoralaw23.GuessWithin': WHATEVER THE INPUT: true; the input reads as it did. -/
def guessWithinSpec : ChangeSpec := { name := "guessWithin", fn := fun _ => fun
  | [d1, d2, d3, d4, d5, d6] => { results := [.lit (.bool true)], args := [d1, d2, d3, d4, d5, d6] }
  | _ => none }
def guessWithinRow : OpenClaim := { program := "ytifdamadeleigaa", sum := "ed235f6a1a09a11eaa8fb9b3ed937ffe32dab5f56cf4b5c0d9fcb98790afc151", func := "kinora/kinoralaw23.GuessWithin", spec := "guessWithin", apart := false }
def GuessWithinSaid : Prop := guessWithinRow.holds Try.pinned (OpenSpec.ofChange guessWithinSpec)

/-- ITS FALSE NEIGHBOUR: 'it returns false'. Refute it at one input. -/
def guessWithinWrong : ChangeSpec := { name := "guessWithin", fn := fun _ => fun
  | [d1, d2, d3, d4, d5, d6] => { results := [.lit (.bool false)], args := [d1, d2, d3, d4, d5, d6] }
  | _ => none }
def GuessWithinWrongFalsely : Prop := guessWithinRow.holds Try.pinned (OpenSpec.ofChange guessWithinWrong)

/-- 'kinoralaw23.GuessBack': WHATEVER THE INPUT: true; the input reads as it did. -/
def guessBackSpec : ChangeSpec := { name := "guessBack", fn := fun _ => fun
  | [d] => { results := [.lit (.bool true)], args := [d] }
  | _ => none }
def guessBackRow : OpenClaim := { program := "ytifdamadeleigaa", sum := "ed235f6a1a09a11eaa8fb9b3ed937ffe32dab5f56cf4b5c0d9fcb98790afc151", func := "kinora/kinoralaw23.GuessBack", spec := "guessBack", apart := false }
def GuessBackSaid : Prop := guessBackRow.holds Try.pinned (OpenSpec.ofChange guessBackSpec)

/-- ITS FALSE NEIGHBOUR: 'it returns false'. Refute it at one input. -/
def guessBackWrong : ChangeSpec := { name := "guessBack", fn := fun _ => fun
  | [d] => { results := [.lit (.bool false)], args := [d] }
  | _ => none }
def GuessBackWrongFalsely : Prop := guessBackRow.holds Try.pinned (OpenSpec.ofChange guessBackWrong)

/-- 'kinoralaw23.GuessLeast': WHATEVER THE INPUT: true; the input reads as it did. -/
def guessLeastSpec : ChangeSpec := { name := "guessLeast", fn := fun _ => fun
  | [d1, d2] => { results := [.lit (.bool true)], args := [d1, d2] }
  | _ => none }
def guessLeastRow : OpenClaim := { program := "ytifdamadeleigaa", sum := "ed235f6a1a09a11eaa8fb9b3ed937ffe32dab5f56cf4b5c0d9fcb98790afc151", func := "kinora/kinoralaw23.GuessLeast", spec := "guessLeast", apart := false }
def GuessLeastSaid : Prop := guessLeastRow.holds Try.pinned (OpenSpec.ofChange guessLeastSpec)

/-- ITS FALSE NEIGHBOUR: 'it returns false'. Refute it at one input. -/
def guessLeastWrong : ChangeSpec := { name := "guessLeast", fn := fun _ => fun
  | [d1, d2] => { results := [.lit (.bool false)], args := [d1, d2] }
  | _ => none }
def GuessLeastWrongFalsely : Prop := guessLeastRow.holds Try.pinned (OpenSpec.ofChange guessLeastWrong)

/-- 'kinoralaw23.GuessTells': WHATEVER THE INPUT: true; the input reads as it did. -/
def guessTellsSpec : ChangeSpec := { name := "guessTells", fn := fun _ => fun
  | [d1, d2, d3, d4, d5, d6] => { results := [.lit (.bool true)], args := [d1, d2, d3, d4, d5, d6] }
  | _ => none }
def guessTellsRow : OpenClaim := { program := "ytifdamadeleigaa", sum := "ed235f6a1a09a11eaa8fb9b3ed937ffe32dab5f56cf4b5c0d9fcb98790afc151", func := "kinora/kinoralaw23.GuessTells", spec := "guessTells", apart := false }
def GuessTellsSaid : Prop := guessTellsRow.holds Try.pinned (OpenSpec.ofChange guessTellsSpec)

/-- ITS FALSE NEIGHBOUR: 'it returns false'. Refute it at one input. -/
def guessTellsWrong : ChangeSpec := { name := "guessTells", fn := fun _ => fun
  | [d1, d2, d3, d4, d5, d6] => { results := [.lit (.bool false)], args := [d1, d2, d3, d4, d5, d6] }
  | _ => none }
def GuessTellsWrongFalsely : Prop := guessTellsRow.holds Try.pinned (OpenSpec.ofChange guessTellsWrong)

/- THE SECOND FORM. 'bulk': how many values and letters a reading holds, each counted each time it is reached (what is shared counts as often as it is met; a slice's spare places count too). A statement '..UptoSaid' is the law's where the arguments, and the package variables that the reading takes, are together of bulk at most 1048576: NARROWER than '..Said'. Prove '..Said' where nothing that the law and all that it calls make is longer than what came in: it says more and counts as full. Else prove '..UptoSaid'. A law counts once. -/
mutual
def uptoBulk {H : Type} : DataW H → Nat
  | .lit (.string bytes) => bytes.length + 1
  | .lit _ => 1
  | .nil => 1
  | .ptr d => uptoBulk d + 1
  | .slice elems spare => uptoBulkAll elems + uptoBulkAll spare + 1
  | .agg parts => uptoBulkAll parts + 1
  | .iface _ d => uptoBulk d + 1
  | .map entries => uptoBulkEntries entries + 1
  | .held _ => 1
def uptoBulkAll {H : Type} : List (DataW H) → Nat
  | [] => 0
  | d :: r => uptoBulk d + uptoBulkAll r
def uptoBulkEntries {H : Type} : List (Lit × DataW H) → Nat
  | [] => 0
  | x :: r => uptoBulkEntry x + uptoBulkEntries r
def uptoBulkEntry {H : Type} : Lit × DataW H → Nat
  | (.string bytes, d) => bytes.length + uptoBulk d + 1
  | (_, d) => uptoBulk d + 1
 end
def uptoSmall : (H : Type) → List (DataW H) → Bool := fun _ ds => decide (uptoBulkAll ds ≤ 1048576)
def OpenSpec.upto (s : _root_.Go.ChangeSpec) : _root_.Go.OpenSpec := { _root_.Go.OpenSpec.ofChange s with cond := some uptoSmall }

/-- 'kinoralaw23.GuessNears', WHERE WHAT IT READS IS OF BULK AT MOST 1048576: true; the input reads as it did. -/
def guessNearsUptoRow : OpenClaim := { program := "ytifdamadeleigaa", sum := "ed235f6a1a09a11eaa8fb9b3ed937ffe32dab5f56cf4b5c0d9fcb98790afc151", func := "kinora/kinoralaw23.GuessNears", spec := "guessNears", apart := false, narrowed := true }
def GuessNearsUptoSaid : Prop := guessNearsUptoRow.holds Try.pinned (OpenSpec.upto guessNearsSpec)

/-- 'kinoralaw23.GuessWithin', WHERE WHAT IT READS IS OF BULK AT MOST 1048576: true; the input reads as it did. -/
def guessWithinUptoRow : OpenClaim := { program := "ytifdamadeleigaa", sum := "ed235f6a1a09a11eaa8fb9b3ed937ffe32dab5f56cf4b5c0d9fcb98790afc151", func := "kinora/kinoralaw23.GuessWithin", spec := "guessWithin", apart := false, narrowed := true }
def GuessWithinUptoSaid : Prop := guessWithinUptoRow.holds Try.pinned (OpenSpec.upto guessWithinSpec)

/-- 'kinoralaw23.GuessBack', WHERE WHAT IT READS IS OF BULK AT MOST 1048576: true; the input reads as it did. -/
def guessBackUptoRow : OpenClaim := { program := "ytifdamadeleigaa", sum := "ed235f6a1a09a11eaa8fb9b3ed937ffe32dab5f56cf4b5c0d9fcb98790afc151", func := "kinora/kinoralaw23.GuessBack", spec := "guessBack", apart := false, narrowed := true }
def GuessBackUptoSaid : Prop := guessBackUptoRow.holds Try.pinned (OpenSpec.upto guessBackSpec)

/-- 'kinoralaw23.GuessLeast', WHERE WHAT IT READS IS OF BULK AT MOST 1048576: true; the input reads as it did. -/
def guessLeastUptoRow : OpenClaim := { program := "ytifdamadeleigaa", sum := "ed235f6a1a09a11eaa8fb9b3ed937ffe32dab5f56cf4b5c0d9fcb98790afc151", func := "kinora/kinoralaw23.GuessLeast", spec := "guessLeast", apart := false, narrowed := true }
def GuessLeastUptoSaid : Prop := guessLeastUptoRow.holds Try.pinned (OpenSpec.upto guessLeastSpec)

/-- 'kinoralaw23.GuessTells', WHERE WHAT IT READS IS OF BULK AT MOST 1048576: true; the input reads as it did. -/
def guessTellsUptoRow : OpenClaim := { program := "ytifdamadeleigaa", sum := "ed235f6a1a09a11eaa8fb9b3ed937ffe32dab5f56cf4b5c0d9fcb98790afc151", func := "kinora/kinoralaw23.GuessTells", spec := "guessTells", apart := false, narrowed := true }
def GuessTellsUptoSaid : Prop := guessTellsUptoRow.holds Try.pinned (OpenSpec.upto guessTellsSpec)

end Rows
end Go.Proofs.Ytifdamadeleigaa
