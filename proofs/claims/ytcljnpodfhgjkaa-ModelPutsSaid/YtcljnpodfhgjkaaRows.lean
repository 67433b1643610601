/-
  No cell of these rows narrows 'for every input' (looked for: loops, veiled, ifaces, maps, wideKeys, modest, calm, conditions, laid).
  DERIVED. THE GIVEN ROWS OF THIS SEAT. 5 by the template 'for every input the law returns true; each argument reads behind the call as it read before'; 0 by the template 'total and deterministic' (their statements: YtcljnpodfhgjkaaTotals.lean).
  GIVEN WITH THE SEED: the statements are not yours to turn. If you find one false, say at which input.
  Laid BY PROGRAM, IN A SANDBOX (cutbox-rows.mjs): the forced cells as the released guide's own fill.sh prints them over the translation 5ae56b41aa7697ae… (all of the seat's roots in one cut). By AI agents, Wed Nov 11 2026. No macro, syntax, notation, axiom, sorry.
-/
import Derived.Test.YtcljnpodfhgjkaaChecked
import GoSem.Claim
import GoSem.ClaimJoined
import GoSem.ClaimMapViews
import Derived.JoinedTies
import Derived.KernelRfl
namespace Go.Proofs.Ytcljnpodfhgjkaa
/- THE CELL 'sum', in the pinned program and in every row, IS THE sha256 OF THE DUMP (.gsa) THAT YtcljnpodfhgjkaaProg.lean LOADS. Nothing in Lean hashes anything: it is a label: what it is worth is what the hold of that sum in a sandbox is worth. -/
noncomputable def Try.pinned : Pinned := { name := "ytcljnpodfhgjkaa", sum := "5ae56b41aa7697aee909b0061082f95a483d57cfdd4fd94e915d69d352dbb9a8", checked := Try.checked }
namespace Rows
def none {H : Type} : Left H := { results := [], args := [] }

/-- 'kinoralaw26.ModelLevels': WHATEVER THE INPUT: true; the input reads as it did. -/
def modelLevelsSpec : ChangeSpec := { name := "modelLevels", fn := fun _ => fun
  | [d1, d2, d3] => { results := [.lit (.bool true)], args := [d1, d2, d3] }
  | _ => none }
def modelLevelsRow : OpenClaim := { program := "ytcljnpodfhgjkaa", sum := "5ae56b41aa7697aee909b0061082f95a483d57cfdd4fd94e915d69d352dbb9a8", func := "kinora/kinoralaw26.ModelLevels", spec := "modelLevels", apart := false }
def ModelLevelsSaid : Prop := modelLevelsRow.holds Try.pinned (OpenSpec.ofChange modelLevelsSpec)

/-- ITS FALSE NEIGHBOUR: 'it returns false'. Refute it at one input. -/
def modelLevelsWrong : ChangeSpec := { name := "modelLevels", fn := fun _ => fun
  | [d1, d2, d3] => { results := [.lit (.bool false)], args := [d1, d2, d3] }
  | _ => none }
def ModelLevelsWrongFalsely : Prop := modelLevelsRow.holds Try.pinned (OpenSpec.ofChange modelLevelsWrong)

/-- 'kinoralaw26.ModelTurned': WHATEVER THE INPUT: true; the input reads as it did. -/
def modelTurnedSpec : ChangeSpec := { name := "modelTurned", fn := fun _ => fun
  | [d1, d2] => { results := [.lit (.bool true)], args := [d1, d2] }
  | _ => none }
def modelTurnedRow : OpenClaim := { program := "ytcljnpodfhgjkaa", sum := "5ae56b41aa7697aee909b0061082f95a483d57cfdd4fd94e915d69d352dbb9a8", func := "kinora/kinoralaw26.ModelTurned", spec := "modelTurned", apart := false }
def ModelTurnedSaid : Prop := modelTurnedRow.holds Try.pinned (OpenSpec.ofChange modelTurnedSpec)

/-- ITS FALSE NEIGHBOUR: 'it returns false'. Refute it at one input. -/
def modelTurnedWrong : ChangeSpec := { name := "modelTurned", fn := fun _ => fun
  | [d1, d2] => { results := [.lit (.bool false)], args := [d1, d2] }
  | _ => none }
def ModelTurnedWrongFalsely : Prop := modelTurnedRow.holds Try.pinned (OpenSpec.ofChange modelTurnedWrong)

/-- 'kinoralaw26.ModelPlays': WHATEVER THE INPUT: true; the input reads as it did. -/
def modelPlaysSpec : ChangeSpec := { name := "modelPlays", fn := fun _ => fun
  | [d1, d2, d3, d4, d5] => { results := [.lit (.bool true)], args := [d1, d2, d3, d4, d5] }
  | _ => none }
def modelPlaysRow : OpenClaim := { program := "ytcljnpodfhgjkaa", sum := "5ae56b41aa7697aee909b0061082f95a483d57cfdd4fd94e915d69d352dbb9a8", func := "kinora/kinoralaw26.ModelPlays", spec := "modelPlays", apart := false }
def ModelPlaysSaid : Prop := modelPlaysRow.holds Try.pinned (OpenSpec.ofChange modelPlaysSpec)

/-- ITS FALSE NEIGHBOUR: 'it returns false'. Refute it at one input. -/
def modelPlaysWrong : ChangeSpec := { name := "modelPlays", fn := fun _ => fun
  | [d1, d2, d3, d4, d5] => { results := [.lit (.bool false)], args := [d1, d2, d3, d4, d5] }
  | _ => none }
def ModelPlaysWrongFalsely : Prop := modelPlaysRow.holds Try.pinned (OpenSpec.ofChange modelPlaysWrong)

/-- 'kinoralaw26.ModelLeans': WHATEVER THE INPUT: true; the input reads as it did. -/
def modelLeansSpec : ChangeSpec := { name := "modelLeans", fn := fun _ => fun
  | [d1, d2, d3] => { results := [.lit (.bool true)], args := [d1, d2, d3] }
  | _ => none }
def modelLeansRow : OpenClaim := { program := "ytcljnpodfhgjkaa", sum := "5ae56b41aa7697aee909b0061082f95a483d57cfdd4fd94e915d69d352dbb9a8", func := "kinora/kinoralaw26.ModelLeans", spec := "modelLeans", apart := false }
def ModelLeansSaid : Prop := modelLeansRow.holds Try.pinned (OpenSpec.ofChange modelLeansSpec)

/-- ITS FALSE NEIGHBOUR: 'it returns false'. Refute it at one input. -/
def modelLeansWrong : ChangeSpec := { name := "modelLeans", fn := fun _ => fun
  | [d1, d2, d3] => { results := [.lit (.bool false)], args := [d1, d2, d3] }
  | _ => none }
def ModelLeansWrongFalsely : Prop := modelLeansRow.holds Try.pinned (OpenSpec.ofChange modelLeansWrong)

/-- 'kinoralaw26.ModelPuts': WHATEVER THE INPUT: true; the input reads as it did. -/
def modelPutsSpec : ChangeSpec := { name := "modelPuts", fn := fun _ => fun
  | [d1, d2, d3, d4, d5, d6] => { results := [.lit (.bool true)], args := [d1, d2, d3, d4, d5, d6] }
  | _ => none }
def modelPutsRow : OpenClaim := { program := "ytcljnpodfhgjkaa", sum := "5ae56b41aa7697aee909b0061082f95a483d57cfdd4fd94e915d69d352dbb9a8", func := "kinora/kinoralaw26.ModelPuts", spec := "modelPuts", apart := false }
def ModelPutsSaid : Prop := modelPutsRow.holds Try.pinned (OpenSpec.ofChange modelPutsSpec)

/-- ITS FALSE NEIGHBOUR: 'it returns false'. Refute it at one input. -/
def modelPutsWrong : ChangeSpec := { name := "modelPuts", fn := fun _ => fun
  | [d1, d2, d3, d4, d5, d6] => { results := [.lit (.bool false)], args := [d1, d2, d3, d4, d5, d6] }
  | _ => none }
def ModelPutsWrongFalsely : Prop := modelPutsRow.holds Try.pinned (OpenSpec.ofChange modelPutsWrong)

/- THE SECOND FORM. 'bulk': how many values and letters a reading holds, each counted each time it is reached (what is shared counts as often as it is met; a slice's spare places count too). A statement '..UptoSaid' is the law's where the arguments, and the package variables that the reading takes, are together of bulk at most 1048576: NARROWER than '..Said'. Prove '..Said' where nothing that the law and all that it calls make is longer than what came in: it says more and counts as full. Else prove '..UptoSaid'. A law counts once. -/
mutual
def uptoBulk {H : Type} : DataW H → Nat
  | .lit (.string bytes) => bytes.length + 1
  | .lit _ => 1
  | .nil => 1
  | .ptr d => uptoBulk d + 1
  | .slice elems spare => uptoBulkAll elems + uptoBulkAll spare + 1
  | .agg parts => uptoBulkAll parts + 1
  | .iface _ d => uptoBulk d + 1
  | .map entries => uptoBulkEntries entries + 1
  | .held _ => 1
def uptoBulkAll {H : Type} : List (DataW H) → Nat
  | [] => 0
  | d :: r => uptoBulk d + uptoBulkAll r
def uptoBulkEntries {H : Type} : List (Lit × DataW H) → Nat
  | [] => 0
  | x :: r => uptoBulkEntry x + uptoBulkEntries r
def uptoBulkEntry {H : Type} : Lit × DataW H → Nat
  | (.string bytes, d) => bytes.length + uptoBulk d + 1
  | (_, d) => uptoBulk d + 1
 end
def uptoSmall : (H : Type) → List (DataW H) → Bool := fun _ ds => decide (uptoBulkAll ds ≤ 1048576)
def OpenSpec.upto (s : _root_.Go.ChangeSpec) : _root_.Go.OpenSpec := { _root_.Go.OpenSpec.ofChange s with cond := some uptoSmall }

/-- 'kinoralaw26.ModelLevels', WHERE WHAT IT READS IS OF BULK AT MOST 1048576: true; the input reads as it did. -/
def modelLevelsUptoRow : OpenClaim := { program := "ytcljnpodfhgjkaa", sum := "5ae56b41aa7697aee909b0061082f95a483d57cfdd4fd94e915d69d352dbb9a8", func := "kinora/kinoralaw26.ModelLevels", spec := "modelLevels", apart := false, narrowed := true }
def ModelLevelsUptoSaid : Prop := modelLevelsUptoRow.holds Try.pinned (OpenSpec.upto modelLevelsSpec)

/-- 'kinoralaw26.ModelTurned', WHERE WHAT IT READS IS OF BULK AT MOST 1048576: true; the input reads as it did. -/
def modelTurnedUptoRow : OpenClaim := { program := "ytcljnpodfhgjkaa", sum := "5ae56b41aa7697aee909b0061082f95a483d57cfdd4fd94e915d69d352dbb9a8", func := "kinora/kinoralaw26.ModelTurned", spec := "modelTurned", apart := false, narrowed := true }
def ModelTurnedUptoSaid : Prop := modelTurnedUptoRow.holds Try.pinned (OpenSpec.upto modelTurnedSpec)

/-- 'kinoralaw26.ModelPlays', WHERE WHAT IT READS IS OF BULK AT MOST 1048576: true; the input reads as it did. -/
def modelPlaysUptoRow : OpenClaim := { program := "ytcljnpodfhgjkaa", sum := "5ae56b41aa7697aee909b0061082f95a483d57cfdd4fd94e915d69d352dbb9a8", func := "kinora/kinoralaw26.ModelPlays", spec := "modelPlays", apart := false, narrowed := true }
def ModelPlaysUptoSaid : Prop := modelPlaysUptoRow.holds Try.pinned (OpenSpec.upto modelPlaysSpec)

/-- 'kinoralaw26.ModelLeans', WHERE WHAT IT READS IS OF BULK AT MOST 1048576: true; the input reads as it did. -/
def modelLeansUptoRow : OpenClaim := { program := "ytcljnpodfhgjkaa", sum := "5ae56b41aa7697aee909b0061082f95a483d57cfdd4fd94e915d69d352dbb9a8", func := "kinora/kinoralaw26.ModelLeans", spec := "modelLeans", apart := false, narrowed := true }
def ModelLeansUptoSaid : Prop := modelLeansUptoRow.holds Try.pinned (OpenSpec.upto modelLeansSpec)

/-- 'kinoralaw26.ModelPuts', WHERE WHAT IT READS IS OF BULK AT MOST 1048576: true; the input reads as it did. -/
def modelPutsUptoRow : OpenClaim := { program := "ytcljnpodfhgjkaa", sum := "5ae56b41aa7697aee909b0061082f95a483d57cfdd4fd94e915d69d352dbb9a8", func := "kinora/kinoralaw26.ModelPuts", spec := "modelPuts", apart := false, narrowed := true }
def ModelPutsUptoSaid : Prop := modelPutsUptoRow.holds Try.pinned (OpenSpec.upto modelPutsSpec)

end Rows
end Go.Proofs.Ytcljnpodfhgjkaa
