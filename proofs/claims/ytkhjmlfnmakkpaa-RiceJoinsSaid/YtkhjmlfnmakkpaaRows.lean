/-
  No cell of these rows narrows 'for every input' (looked for: loops, veiled, ifaces, maps, wideKeys, modest, calm, conditions, laid).
  DERIVED. THE GIVEN ROWS OF THIS SEAT. 8 by the template 'for every input the law returns true; each argument reads behind the call as it read before'; 0 by the template 'total and deterministic' (their statements: YtkhjmlfnmakkpaaTotals.lean).
  GIVEN WITH THE SEED: the statements are not yours to turn. If you find one false, say at which input.
  Laid BY PROGRAM, IN A SANDBOX (cutbox-rows.mjs): the forced cells as the released guide's own fill.sh prints them over the translation aac3ad5961e41758… (all of the seat's roots in one cut). By AI agents, Wed Nov 11 2026. No macro, syntax, notation, axiom, sorry.
-/
import Derived.Test.YtkhjmlfnmakkpaaChecked
import GoSem.Claim
import GoSem.ClaimJoined
import GoSem.ClaimMapViews
import Derived.JoinedTies
import Derived.KernelRfl
namespace Go.Proofs.Ytkhjmlfnmakkpaa
/- THE CELL 'sum', in the pinned program and in every row, IS THE sha256 OF THE DUMP (.gsa) THAT YtkhjmlfnmakkpaaProg.lean LOADS. Nothing in Lean hashes anything: it is a label: what it is worth is what the hold of that sum in a sandbox is worth. -/
noncomputable def Try.pinned : Pinned := { name := "ytkhjmlfnmakkpaa", sum := "aac3ad5961e41758a598a0957d017d90f30f27d706774aa8cd33ca45ad8c8054", checked := Try.checked }
namespace Rows
def none {H : Type} : Left H := { results := [], args := [] }

/-- 'kinoralaw5.RicePuts': WHATEVER THE INPUT: true; the input reads as it did. -/
def ricePutsSpec : ChangeSpec := { name := "ricePuts", fn := fun _ => fun
  | [d1, d2, d3] => { results := [.lit (.bool true)], args := [d1, d2, d3] }
  | _ => none }
def ricePutsRow : OpenClaim := { program := "ytkhjmlfnmakkpaa", sum := "aac3ad5961e41758a598a0957d017d90f30f27d706774aa8cd33ca45ad8c8054", func := "kinora/kinoralaw5.RicePuts", spec := "ricePuts", apart := false }
def RicePutsSaid : Prop := ricePutsRow.holds Try.pinned (OpenSpec.ofChange ricePutsSpec)

/-- ITS FALSE NEIGHBOUR: 'it returns false'. Refute it at one input. -/
def ricePutsWrong : ChangeSpec := { name := "ricePuts", fn := fun _ => fun
  | [d1, d2, d3] => { results := [.lit (.bool false)], args := [d1, d2, d3] }
  | _ => none }
def RicePutsWrongFalsely : Prop := ricePutsRow.holds Try.pinned (OpenSpec.ofChange ricePutsWrong)

/-- 'kinoralaw5.RiceFolds': WHATEVER THE INPUT: true; the input reads as it did. -/
def riceFoldsSpec : ChangeSpec := { name := "riceFolds", fn := fun _ => fun
  | [d1, d2] => { results := [.lit (.bool true)], args := [d1, d2] }
  | _ => none }
def riceFoldsRow : OpenClaim := { program := "ytkhjmlfnmakkpaa", sum := "aac3ad5961e41758a598a0957d017d90f30f27d706774aa8cd33ca45ad8c8054", func := "kinora/kinoralaw5.RiceFolds", spec := "riceFolds", apart := false }
def RiceFoldsSaid : Prop := riceFoldsRow.holds Try.pinned (OpenSpec.ofChange riceFoldsSpec)

/-- ITS FALSE NEIGHBOUR: 'it returns false'. Refute it at one input. -/
def riceFoldsWrong : ChangeSpec := { name := "riceFolds", fn := fun _ => fun
  | [d1, d2] => { results := [.lit (.bool false)], args := [d1, d2] }
  | _ => none }
def RiceFoldsWrongFalsely : Prop := riceFoldsRow.holds Try.pinned (OpenSpec.ofChange riceFoldsWrong)

/-- 'kinoralaw5.RiceRises': WHATEVER THE INPUT: true; the input reads as it did. -/
def riceRisesSpec : ChangeSpec := { name := "riceRises", fn := fun _ => fun
  | [d1, d2, d3] => { results := [.lit (.bool true)], args := [d1, d2, d3] }
  | _ => none }
def riceRisesRow : OpenClaim := { program := "ytkhjmlfnmakkpaa", sum := "aac3ad5961e41758a598a0957d017d90f30f27d706774aa8cd33ca45ad8c8054", func := "kinora/kinoralaw5.RiceRises", spec := "riceRises", apart := false }
def RiceRisesSaid : Prop := riceRisesRow.holds Try.pinned (OpenSpec.ofChange riceRisesSpec)

/-- ITS FALSE NEIGHBOUR: 'it returns false'. Refute it at one input. -/
def riceRisesWrong : ChangeSpec := { name := "riceRises", fn := fun _ => fun
  | [d1, d2, d3] => { results := [.lit (.bool false)], args := [d1, d2, d3] }
  | _ => none }
def RiceRisesWrongFalsely : Prop := riceRisesRow.holds Try.pinned (OpenSpec.ofChange riceRisesWrong)

/-- 'kinoralaw5.RiceGets': WHATEVER THE INPUT: true; the input reads as it did. -/
def riceGetsSpec : ChangeSpec := { name := "riceGets", fn := fun _ => fun
  | [d1, d2, d3, d4] => { results := [.lit (.bool true)], args := [d1, d2, d3, d4] }
  | _ => none }
def riceGetsRow : OpenClaim := { program := "ytkhjmlfnmakkpaa", sum := "aac3ad5961e41758a598a0957d017d90f30f27d706774aa8cd33ca45ad8c8054", func := "kinora/kinoralaw5.RiceGets", spec := "riceGets", apart := false }
def RiceGetsSaid : Prop := riceGetsRow.holds Try.pinned (OpenSpec.ofChange riceGetsSpec)

/-- ITS FALSE NEIGHBOUR: 'it returns false'. Refute it at one input. -/
def riceGetsWrong : ChangeSpec := { name := "riceGets", fn := fun _ => fun
  | [d1, d2, d3, d4] => { results := [.lit (.bool false)], args := [d1, d2, d3, d4] }
  | _ => none }
def RiceGetsWrongFalsely : Prop := riceGetsRow.holds Try.pinned (OpenSpec.ofChange riceGetsWrong)

/-- 'kinoralaw5.RiceJoins': WHATEVER THE INPUT: true; the input reads as it did. -/
def riceJoinsSpec : ChangeSpec := { name := "riceJoins", fn := fun _ => fun
  | [d1, d2, d3] => { results := [.lit (.bool true)], args := [d1, d2, d3] }
  | _ => none }
def riceJoinsRow : OpenClaim := { program := "ytkhjmlfnmakkpaa", sum := "aac3ad5961e41758a598a0957d017d90f30f27d706774aa8cd33ca45ad8c8054", func := "kinora/kinoralaw5.RiceJoins", spec := "riceJoins", apart := false }
def RiceJoinsSaid : Prop := riceJoinsRow.holds Try.pinned (OpenSpec.ofChange riceJoinsSpec)

/-- ITS FALSE NEIGHBOUR: 'it returns false'. Refute it at one input. -/
def riceJoinsWrong : ChangeSpec := { name := "riceJoins", fn := fun _ => fun
  | [d1, d2, d3] => { results := [.lit (.bool false)], args := [d1, d2, d3] }
  | _ => none }
def RiceJoinsWrongFalsely : Prop := riceJoinsRow.holds Try.pinned (OpenSpec.ofChange riceJoinsWrong)

/-- 'kinoralaw5.RiceBack': WHATEVER THE INPUT: true; the input reads as it did. -/
def riceBackSpec : ChangeSpec := { name := "riceBack", fn := fun _ => fun
  | [d1, d2, d3] => { results := [.lit (.bool true)], args := [d1, d2, d3] }
  | _ => none }
def riceBackRow : OpenClaim := { program := "ytkhjmlfnmakkpaa", sum := "aac3ad5961e41758a598a0957d017d90f30f27d706774aa8cd33ca45ad8c8054", func := "kinora/kinoralaw5.RiceBack", spec := "riceBack", apart := false }
def RiceBackSaid : Prop := riceBackRow.holds Try.pinned (OpenSpec.ofChange riceBackSpec)

/-- ITS FALSE NEIGHBOUR: 'it returns false'. Refute it at one input. -/
def riceBackWrong : ChangeSpec := { name := "riceBack", fn := fun _ => fun
  | [d1, d2, d3] => { results := [.lit (.bool false)], args := [d1, d2, d3] }
  | _ => none }
def RiceBackWrongFalsely : Prop := riceBackRow.holds Try.pinned (OpenSpec.ofChange riceBackWrong)

/-- 'kinoralaw5.RiceTells': WHATEVER THE INPUT: true; the input reads as it did. -/
def riceTellsSpec : ChangeSpec := { name := "riceTells", fn := fun _ => fun
  | [d1, d2, d3, d4] => { results := [.lit (.bool true)], args := [d1, d2, d3, d4] }
  | _ => none }
def riceTellsRow : OpenClaim := { program := "ytkhjmlfnmakkpaa", sum := "aac3ad5961e41758a598a0957d017d90f30f27d706774aa8cd33ca45ad8c8054", func := "kinora/kinoralaw5.RiceTells", spec := "riceTells", apart := false }
def RiceTellsSaid : Prop := riceTellsRow.holds Try.pinned (OpenSpec.ofChange riceTellsSpec)

/-- ITS FALSE NEIGHBOUR: 'it returns false'. Refute it at one input. -/
def riceTellsWrong : ChangeSpec := { name := "riceTells", fn := fun _ => fun
  | [d1, d2, d3, d4] => { results := [.lit (.bool false)], args := [d1, d2, d3, d4] }
  | _ => none }
def RiceTellsWrongFalsely : Prop := riceTellsRow.holds Try.pinned (OpenSpec.ofChange riceTellsWrong)

/-- 'kinoralaw5.RiceLeast': WHATEVER THE INPUT: true; the input reads as it did. -/
def riceLeastSpec : ChangeSpec := { name := "riceLeast", fn := fun _ => fun
  | [d1, d2] => { results := [.lit (.bool true)], args := [d1, d2] }
  | _ => none }
def riceLeastRow : OpenClaim := { program := "ytkhjmlfnmakkpaa", sum := "aac3ad5961e41758a598a0957d017d90f30f27d706774aa8cd33ca45ad8c8054", func := "kinora/kinoralaw5.RiceLeast", spec := "riceLeast", apart := false }
def RiceLeastSaid : Prop := riceLeastRow.holds Try.pinned (OpenSpec.ofChange riceLeastSpec)

/-- ITS FALSE NEIGHBOUR: 'it returns false'. Refute it at one input. -/
def riceLeastWrong : ChangeSpec := { name := "riceLeast", fn := fun _ => fun
  | [d1, d2] => { results := [.lit (.bool false)], args := [d1, d2] }
  | _ => none }
def RiceLeastWrongFalsely : Prop := riceLeastRow.holds Try.pinned (OpenSpec.ofChange riceLeastWrong)

/- THE SECOND FORM. 'bulk': how many values and letters a reading holds, each counted each time it is reached (what is shared counts as often as it is met; a slice's spare places count too). A statement '..UptoSaid' is the law's where the arguments, and the package variables that the reading takes, are together of bulk at most 1048576: NARROWER than '..Said'. Prove '..Said' where nothing that the law and all that it calls make is longer than what came in: it says more and counts as full. Else prove '..UptoSaid'. A law counts once. -/
mutual
def uptoBulk {H : Type} : DataW H → Nat
  | .lit (.string bytes) => bytes.length + 1
  | .lit _ => 1
  | .nil => 1
  | .ptr d => uptoBulk d + 1
  | .slice elems spare => uptoBulkAll elems + uptoBulkAll spare + 1
  | .agg parts => uptoBulkAll parts + 1
  | .iface _ d => uptoBulk d + 1
  | .map entries => uptoBulkEntries entries + 1
  | .held _ => 1
def uptoBulkAll {H : Type} : List (DataW H) → Nat
  | [] => 0
  | d :: r => uptoBulk d + uptoBulkAll r
def uptoBulkEntries {H : Type} : List (Lit × DataW H) → Nat
  | [] => 0
  | x :: r => uptoBulkEntry x + uptoBulkEntries r
def uptoBulkEntry {H : Type} : Lit × DataW H → Nat
  | (.string bytes, d) => bytes.length + uptoBulk d + 1
  | (_, d) => uptoBulk d + 1
 end
def uptoSmall : (H : Type) → List (DataW H) → Bool := fun _ ds => decide (uptoBulkAll ds ≤ 1048576)
def OpenSpec.upto (s : _root_.Go.ChangeSpec) : _root_.Go.OpenSpec := { _root_.Go.OpenSpec.ofChange s with cond := some uptoSmall }

/-- 'kinoralaw5.RicePuts', WHERE WHAT IT READS IS OF BULK AT MOST 1048576: true; the input reads as it did. -/
def ricePutsUptoRow : OpenClaim := { program := "ytkhjmlfnmakkpaa", sum := "aac3ad5961e41758a598a0957d017d90f30f27d706774aa8cd33ca45ad8c8054", func := "kinora/kinoralaw5.RicePuts", spec := "ricePuts", apart := false, narrowed := true }
def RicePutsUptoSaid : Prop := ricePutsUptoRow.holds Try.pinned (OpenSpec.upto ricePutsSpec)

/-- 'kinoralaw5.RiceFolds', WHERE WHAT IT READS IS OF BULK AT MOST 1048576: true; the input reads as it did. -/
def riceFoldsUptoRow : OpenClaim := { program := "ytkhjmlfnmakkpaa", sum := "aac3ad5961e41758a598a0957d017d90f30f27d706774aa8cd33ca45ad8c8054", func := "kinora/kinoralaw5.RiceFolds", spec := "riceFolds", apart := false, narrowed := true }
def RiceFoldsUptoSaid : Prop := riceFoldsUptoRow.holds Try.pinned (OpenSpec.upto riceFoldsSpec)

/-- 'kinoralaw5.RiceRises', WHERE WHAT IT READS IS OF BULK AT MOST 1048576: true; the input reads as it did. -/
def riceRisesUptoRow : OpenClaim := { program := "ytkhjmlfnmakkpaa", sum := "aac3ad5961e41758a598a0957d017d90f30f27d706774aa8cd33ca45ad8c8054", func := "kinora/kinoralaw5.RiceRises", spec := "riceRises", apart := false, narrowed := true }
def RiceRisesUptoSaid : Prop := riceRisesUptoRow.holds Try.pinned (OpenSpec.upto riceRisesSpec)

/-- 'kinoralaw5.RiceGets', WHERE WHAT IT READS IS OF BULK AT MOST 1048576: true; the input reads as it did. -/
def riceGetsUptoRow : OpenClaim := { program := "ytkhjmlfnmakkpaa", sum := "aac3ad5961e41758a598a0957d017d90f30f27d706774aa8cd33ca45ad8c8054", func := "kinora/kinoralaw5.RiceGets", spec := "riceGets", apart := false, narrowed := true }
def RiceGetsUptoSaid : Prop := riceGetsUptoRow.holds Try.pinned (OpenSpec.upto riceGetsSpec)

/-- 'kinoralaw5.RiceJoins', WHERE WHAT IT READS IS OF BULK AT MOST 1048576: true; the input reads as it did. -/
def riceJoinsUptoRow : OpenClaim := { program := "ytkhjmlfnmakkpaa", sum := "aac3ad5961e41758a598a0957d017d90f30f27d706774aa8cd33ca45ad8c8054", func := "kinora/kinoralaw5.RiceJoins", spec := "riceJoins", apart := false, narrowed := true }
def RiceJoinsUptoSaid : Prop := riceJoinsUptoRow.holds Try.pinned (OpenSpec.upto riceJoinsSpec)

/-- 'kinoralaw5.RiceBack', WHERE WHAT IT READS IS OF BULK AT MOST 1048576: true; the input reads as it did. -/
def riceBackUptoRow : OpenClaim := { program := "ytkhjmlfnmakkpaa", sum := "aac3ad5961e41758a598a0957d017d90f30f27d706774aa8cd33ca45ad8c8054", func := "kinora/kinoralaw5.RiceBack", spec := "riceBack", apart := false, narrowed := true }
def RiceBackUptoSaid : Prop := riceBackUptoRow.holds Try.pinned (OpenSpec.upto riceBackSpec)

/-- 'kinoralaw5.RiceTells', WHERE WHAT IT READS IS OF BULK AT MOST 1048576: true; the input reads as it did. -/
def riceTellsUptoRow : OpenClaim := { program := "ytkhjmlfnmakkpaa", sum := "aac3ad5961e41758a598a0957d017d90f30f27d706774aa8cd33ca45ad8c8054", func := "kinora/kinoralaw5.RiceTells", spec := "riceTells", apart := false, narrowed := true }
def RiceTellsUptoSaid : Prop := riceTellsUptoRow.holds Try.pinned (OpenSpec.upto riceTellsSpec)

/-- 'kinoralaw5.RiceLeast', WHERE WHAT IT READS IS OF BULK AT MOST 1048576: true; the input reads as it did. -/
def riceLeastUptoRow : OpenClaim := { program := "ytkhjmlfnmakkpaa", sum := "aac3ad5961e41758a598a0957d017d90f30f27d706774aa8cd33ca45ad8c8054", func := "kinora/kinoralaw5.RiceLeast", spec := "riceLeast", apart := false, narrowed := true }
def RiceLeastUptoSaid : Prop := riceLeastUptoRow.holds Try.pinned (OpenSpec.upto riceLeastSpec)

end Rows
end Go.Proofs.Ytkhjmlfnmakkpaa
