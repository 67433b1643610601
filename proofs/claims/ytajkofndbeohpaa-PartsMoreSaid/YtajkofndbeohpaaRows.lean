/-
  No cell of these rows narrows 'for every input' (looked for: loops, veiled, ifaces, maps, wideKeys, modest, calm, conditions, laid).
  DERIVED. THE GIVEN ROWS OF THIS SEAT. 9 by the template 'for every input the law returns true; each argument reads behind the call as it read before'; 0 by the template 'total and deterministic' (their statements: YtajkofndbeohpaaTotals.lean).
  GIVEN WITH THE SEED: the statements are not yours to turn. If you find one false, say at which input.
  Laid BY PROGRAM, IN A SANDBOX (cutbox-rows.mjs): the forced cells as the released guide's own fill.sh prints them over the translation 3e3bb30a2bdcbbd9… (all of the seat's roots in one cut). By AI agents, Wed Nov 11 2026. No macro, syntax, notation, axiom, sorry.
-/
import Derived.Test.YtajkofndbeohpaaChecked
import GoSem.Claim
import GoSem.ClaimJoined
import GoSem.ClaimMapViews
import Derived.JoinedTies
import Derived.KernelRfl
namespace Go.Proofs.Ytajkofndbeohpaa
/- THE CELL 'sum', in the pinned program and in every row, IS THE sha256 OF THE DUMP (.gsa) THAT YtajkofndbeohpaaProg.lean LOADS. Nothing in Lean hashes anything: it is a label: what it is worth is what the hold of that sum in a sandbox is worth. -/
noncomputable def Try.pinned : Pinned := { name := "ytajkofndbeohpaa", sum := "3e3bb30a2bdcbbd9f78c87ed24f22d40d3e9012870060939aaff9c7e6c76ddc6", checked := Try.checked }
namespace Rows
def none {H : Type} : Left H := { results := [], args := [] }

/-- 'kinoralaw6.PartsTells': WHATEVER THE INPUT: true; the input reads as it did. -/
def partsTellsSpec : ChangeSpec := { name := "partsTells", fn := fun _ => fun
  | [d1, d2, d3, d4, d5] => { results := [.lit (.bool true)], args := [d1, d2, d3, d4, d5] }
  | _ => none }
def partsTellsRow : OpenClaim := { program := "ytajkofndbeohpaa", sum := "3e3bb30a2bdcbbd9f78c87ed24f22d40d3e9012870060939aaff9c7e6c76ddc6", func := "kinora/kinoralaw6.PartsTells", spec := "partsTells", apart := false }
def PartsTellsSaid : Prop := partsTellsRow.holds Try.pinned (OpenSpec.ofChange partsTellsSpec)

/-- ITS FALSE NEIGHBOUR: 'it returns false'. Refute it at one input. -/
def partsTellsWrong : ChangeSpec := { name := "partsTells", fn := fun _ => fun
  | [d1, d2, d3, d4, d5] => { results := [.lit (.bool false)], args := [d1, d2, d3, d4, d5] }
  | _ => none }
def PartsTellsWrongFalsely : Prop := partsTellsRow.holds Try.pinned (OpenSpec.ofChange partsTellsWrong)

/-- 'kinoralaw6.PartsPuts': WHATEVER THE INPUT: true; the input reads as it did. -/
def partsPutsSpec : ChangeSpec := { name := "partsPuts", fn := fun _ => fun
  | [d1, d2, d3, d4] => { results := [.lit (.bool true)], args := [d1, d2, d3, d4] }
  | _ => none }
def partsPutsRow : OpenClaim := { program := "ytajkofndbeohpaa", sum := "3e3bb30a2bdcbbd9f78c87ed24f22d40d3e9012870060939aaff9c7e6c76ddc6", func := "kinora/kinoralaw6.PartsPuts", spec := "partsPuts", apart := false }
def PartsPutsSaid : Prop := partsPutsRow.holds Try.pinned (OpenSpec.ofChange partsPutsSpec)

/-- ITS FALSE NEIGHBOUR: 'it returns false'. Refute it at one input. -/
def partsPutsWrong : ChangeSpec := { name := "partsPuts", fn := fun _ => fun
  | [d1, d2, d3, d4] => { results := [.lit (.bool false)], args := [d1, d2, d3, d4] }
  | _ => none }
def PartsPutsWrongFalsely : Prop := partsPutsRow.holds Try.pinned (OpenSpec.ofChange partsPutsWrong)

/-- 'kinoralaw6.PartsSizes': WHATEVER THE INPUT: true; the input reads as it did. -/
def partsSizesSpec : ChangeSpec := { name := "partsSizes", fn := fun _ => fun
  | [d1, d2, d3] => { results := [.lit (.bool true)], args := [d1, d2, d3] }
  | _ => none }
def partsSizesRow : OpenClaim := { program := "ytajkofndbeohpaa", sum := "3e3bb30a2bdcbbd9f78c87ed24f22d40d3e9012870060939aaff9c7e6c76ddc6", func := "kinora/kinoralaw6.PartsSizes", spec := "partsSizes", apart := false }
def PartsSizesSaid : Prop := partsSizesRow.holds Try.pinned (OpenSpec.ofChange partsSizesSpec)

/-- ITS FALSE NEIGHBOUR: 'it returns false'. Refute it at one input. -/
def partsSizesWrong : ChangeSpec := { name := "partsSizes", fn := fun _ => fun
  | [d1, d2, d3] => { results := [.lit (.bool false)], args := [d1, d2, d3] }
  | _ => none }
def PartsSizesWrongFalsely : Prop := partsSizesRow.holds Try.pinned (OpenSpec.ofChange partsSizesWrong)

/-- 'kinoralaw6.PartsOne': WHATEVER THE INPUT: true; the input reads as it did. -/
def partsOneSpec : ChangeSpec := { name := "partsOne", fn := fun _ => fun
  | [d1, d2] => { results := [.lit (.bool true)], args := [d1, d2] }
  | _ => none }
def partsOneRow : OpenClaim := { program := "ytajkofndbeohpaa", sum := "3e3bb30a2bdcbbd9f78c87ed24f22d40d3e9012870060939aaff9c7e6c76ddc6", func := "kinora/kinoralaw6.PartsOne", spec := "partsOne", apart := false }
def PartsOneSaid : Prop := partsOneRow.holds Try.pinned (OpenSpec.ofChange partsOneSpec)

/-- ITS FALSE NEIGHBOUR: 'it returns false'. Refute it at one input. -/
def partsOneWrong : ChangeSpec := { name := "partsOne", fn := fun _ => fun
  | [d1, d2] => { results := [.lit (.bool false)], args := [d1, d2] }
  | _ => none }
def PartsOneWrongFalsely : Prop := partsOneRow.holds Try.pinned (OpenSpec.ofChange partsOneWrong)

/-- 'kinoralaw6.PartsGets': WHATEVER THE INPUT: true; the input reads as it did. -/
def partsGetsSpec : ChangeSpec := { name := "partsGets", fn := fun _ => fun
  | [d1, d2, d3, d4] => { results := [.lit (.bool true)], args := [d1, d2, d3, d4] }
  | _ => none }
def partsGetsRow : OpenClaim := { program := "ytajkofndbeohpaa", sum := "3e3bb30a2bdcbbd9f78c87ed24f22d40d3e9012870060939aaff9c7e6c76ddc6", func := "kinora/kinoralaw6.PartsGets", spec := "partsGets", apart := false }
def PartsGetsSaid : Prop := partsGetsRow.holds Try.pinned (OpenSpec.ofChange partsGetsSpec)

/-- ITS FALSE NEIGHBOUR: 'it returns false'. Refute it at one input. -/
def partsGetsWrong : ChangeSpec := { name := "partsGets", fn := fun _ => fun
  | [d1, d2, d3, d4] => { results := [.lit (.bool false)], args := [d1, d2, d3, d4] }
  | _ => none }
def PartsGetsWrongFalsely : Prop := partsGetsRow.holds Try.pinned (OpenSpec.ofChange partsGetsWrong)

/-- 'kinoralaw6.PartsBack': WHATEVER THE INPUT: true; the input reads as it did. -/
def partsBackSpec : ChangeSpec := { name := "partsBack", fn := fun _ => fun
  | [d1, d2, d3, d4] => { results := [.lit (.bool true)], args := [d1, d2, d3, d4] }
  | _ => none }
def partsBackRow : OpenClaim := { program := "ytajkofndbeohpaa", sum := "3e3bb30a2bdcbbd9f78c87ed24f22d40d3e9012870060939aaff9c7e6c76ddc6", func := "kinora/kinoralaw6.PartsBack", spec := "partsBack", apart := false }
def PartsBackSaid : Prop := partsBackRow.holds Try.pinned (OpenSpec.ofChange partsBackSpec)

/-- ITS FALSE NEIGHBOUR: 'it returns false'. Refute it at one input. -/
def partsBackWrong : ChangeSpec := { name := "partsBack", fn := fun _ => fun
  | [d1, d2, d3, d4] => { results := [.lit (.bool false)], args := [d1, d2, d3, d4] }
  | _ => none }
def PartsBackWrongFalsely : Prop := partsBackRow.holds Try.pinned (OpenSpec.ofChange partsBackWrong)

/-- 'kinoralaw6.PartsBests': WHATEVER THE INPUT: true; the input reads as it did. -/
def partsBestsSpec : ChangeSpec := { name := "partsBests", fn := fun _ => fun
  | [d1, d2, d3, d4] => { results := [.lit (.bool true)], args := [d1, d2, d3, d4] }
  | _ => none }
def partsBestsRow : OpenClaim := { program := "ytajkofndbeohpaa", sum := "3e3bb30a2bdcbbd9f78c87ed24f22d40d3e9012870060939aaff9c7e6c76ddc6", func := "kinora/kinoralaw6.PartsBests", spec := "partsBests", apart := false }
def PartsBestsSaid : Prop := partsBestsRow.holds Try.pinned (OpenSpec.ofChange partsBestsSpec)

/-- ITS FALSE NEIGHBOUR: 'it returns false'. Refute it at one input. -/
def partsBestsWrong : ChangeSpec := { name := "partsBests", fn := fun _ => fun
  | [d1, d2, d3, d4] => { results := [.lit (.bool false)], args := [d1, d2, d3, d4] }
  | _ => none }
def PartsBestsWrongFalsely : Prop := partsBestsRow.holds Try.pinned (OpenSpec.ofChange partsBestsWrong)

/-- 'kinoralaw6.PartsLeast': WHATEVER THE INPUT: true; the input reads as it did. -/
def partsLeastSpec : ChangeSpec := { name := "partsLeast", fn := fun _ => fun
  | [d1, d2, d3, d4, d5] => { results := [.lit (.bool true)], args := [d1, d2, d3, d4, d5] }
  | _ => none }
def partsLeastRow : OpenClaim := { program := "ytajkofndbeohpaa", sum := "3e3bb30a2bdcbbd9f78c87ed24f22d40d3e9012870060939aaff9c7e6c76ddc6", func := "kinora/kinoralaw6.PartsLeast", spec := "partsLeast", apart := false }
def PartsLeastSaid : Prop := partsLeastRow.holds Try.pinned (OpenSpec.ofChange partsLeastSpec)

/-- ITS FALSE NEIGHBOUR: 'it returns false'. Refute it at one input. -/
def partsLeastWrong : ChangeSpec := { name := "partsLeast", fn := fun _ => fun
  | [d1, d2, d3, d4, d5] => { results := [.lit (.bool false)], args := [d1, d2, d3, d4, d5] }
  | _ => none }
def PartsLeastWrongFalsely : Prop := partsLeastRow.holds Try.pinned (OpenSpec.ofChange partsLeastWrong)

/-- 'kinoralaw6.PartsMore': WHATEVER THE INPUT: true; the input reads as it did. -/
def partsMoreSpec : ChangeSpec := { name := "partsMore", fn := fun _ => fun
  | [d1, d2, d3, d4] => { results := [.lit (.bool true)], args := [d1, d2, d3, d4] }
  | _ => none }
def partsMoreRow : OpenClaim := { program := "ytajkofndbeohpaa", sum := "3e3bb30a2bdcbbd9f78c87ed24f22d40d3e9012870060939aaff9c7e6c76ddc6", func := "kinora/kinoralaw6.PartsMore", spec := "partsMore", apart := false }
def PartsMoreSaid : Prop := partsMoreRow.holds Try.pinned (OpenSpec.ofChange partsMoreSpec)

/-- ITS FALSE NEIGHBOUR: 'it returns false'. Refute it at one input. -/
def partsMoreWrong : ChangeSpec := { name := "partsMore", fn := fun _ => fun
  | [d1, d2, d3, d4] => { results := [.lit (.bool false)], args := [d1, d2, d3, d4] }
  | _ => none }
def PartsMoreWrongFalsely : Prop := partsMoreRow.holds Try.pinned (OpenSpec.ofChange partsMoreWrong)

/- THE SECOND FORM. 'bulk': how many values and letters a reading holds, each counted each time it is reached (what is shared counts as often as it is met; a slice's spare places count too). A statement '..UptoSaid' is the law's where the arguments, and the package variables that the reading takes, are together of bulk at most 1048576: NARROWER than '..Said'. Prove '..Said' where nothing that the law and all that it calls make is longer than what came in: it says more and counts as full. Else prove '..UptoSaid'. A law counts once. -/
mutual
def uptoBulk {H : Type} : DataW H → Nat
  | .lit (.string bytes) => bytes.length + 1
  | .lit _ => 1
  | .nil => 1
  | .ptr d => uptoBulk d + 1
  | .slice elems spare => uptoBulkAll elems + uptoBulkAll spare + 1
  | .agg parts => uptoBulkAll parts + 1
  | .iface _ d => uptoBulk d + 1
  | .map entries => uptoBulkEntries entries + 1
  | .held _ => 1
def uptoBulkAll {H : Type} : List (DataW H) → Nat
  | [] => 0
  | d :: r => uptoBulk d + uptoBulkAll r
def uptoBulkEntries {H : Type} : List (Lit × DataW H) → Nat
  | [] => 0
  | x :: r => uptoBulkEntry x + uptoBulkEntries r
def uptoBulkEntry {H : Type} : Lit × DataW H → Nat
  | (.string bytes, d) => bytes.length + uptoBulk d + 1
  | (_, d) => uptoBulk d + 1
 end
def uptoSmall : (H : Type) → List (DataW H) → Bool := fun _ ds => decide (uptoBulkAll ds ≤ 1048576)
def OpenSpec.upto (s : _root_.Go.ChangeSpec) : _root_.Go.OpenSpec := { _root_.Go.OpenSpec.ofChange s with cond := some uptoSmall }

/-- 'kinoralaw6.PartsTells', WHERE WHAT IT READS IS OF BULK AT MOST 1048576: true; the input reads as it did. -/
def partsTellsUptoRow : OpenClaim := { program := "ytajkofndbeohpaa", sum := "3e3bb30a2bdcbbd9f78c87ed24f22d40d3e9012870060939aaff9c7e6c76ddc6", func := "kinora/kinoralaw6.PartsTells", spec := "partsTells", apart := false, narrowed := true }
def PartsTellsUptoSaid : Prop := partsTellsUptoRow.holds Try.pinned (OpenSpec.upto partsTellsSpec)

/-- 'kinoralaw6.PartsPuts', WHERE WHAT IT READS IS OF BULK AT MOST 1048576: true; the input reads as it did. -/
def partsPutsUptoRow : OpenClaim := { program := "ytajkofndbeohpaa", sum := "3e3bb30a2bdcbbd9f78c87ed24f22d40d3e9012870060939aaff9c7e6c76ddc6", func := "kinora/kinoralaw6.PartsPuts", spec := "partsPuts", apart := false, narrowed := true }
def PartsPutsUptoSaid : Prop := partsPutsUptoRow.holds Try.pinned (OpenSpec.upto partsPutsSpec)

/-- 'kinoralaw6.PartsSizes', WHERE WHAT IT READS IS OF BULK AT MOST 1048576: true; the input reads as it did. -/
def partsSizesUptoRow : OpenClaim := { program := "ytajkofndbeohpaa", sum := "3e3bb30a2bdcbbd9f78c87ed24f22d40d3e9012870060939aaff9c7e6c76ddc6", func := "kinora/kinoralaw6.PartsSizes", spec := "partsSizes", apart := false, narrowed := true }
def PartsSizesUptoSaid : Prop := partsSizesUptoRow.holds Try.pinned (OpenSpec.upto partsSizesSpec)

/-- 'kinoralaw6.PartsOne', WHERE WHAT IT READS IS OF BULK AT MOST 1048576: true; the input reads as it did. -/
def partsOneUptoRow : OpenClaim := { program := "ytajkofndbeohpaa", sum := "3e3bb30a2bdcbbd9f78c87ed24f22d40d3e9012870060939aaff9c7e6c76ddc6", func := "kinora/kinoralaw6.PartsOne", spec := "partsOne", apart := false, narrowed := true }
def PartsOneUptoSaid : Prop := partsOneUptoRow.holds Try.pinned (OpenSpec.upto partsOneSpec)

/-- 'kinoralaw6.PartsGets', WHERE WHAT IT READS IS OF BULK AT MOST 1048576: true; the input reads as it did. -/
def partsGetsUptoRow : OpenClaim := { program := "ytajkofndbeohpaa", sum := "3e3bb30a2bdcbbd9f78c87ed24f22d40d3e9012870060939aaff9c7e6c76ddc6", func := "kinora/kinoralaw6.PartsGets", spec := "partsGets", apart := false, narrowed := true }
def PartsGetsUptoSaid : Prop := partsGetsUptoRow.holds Try.pinned (OpenSpec.upto partsGetsSpec)

/-- 'kinoralaw6.PartsBack', WHERE WHAT IT READS IS OF BULK AT MOST 1048576: true; the input reads as it did. -/
def partsBackUptoRow : OpenClaim := { program := "ytajkofndbeohpaa", sum := "3e3bb30a2bdcbbd9f78c87ed24f22d40d3e9012870060939aaff9c7e6c76ddc6", func := "kinora/kinoralaw6.PartsBack", spec := "partsBack", apart := false, narrowed := true }
def PartsBackUptoSaid : Prop := partsBackUptoRow.holds Try.pinned (OpenSpec.upto partsBackSpec)

/-- 'kinoralaw6.PartsBests', WHERE WHAT IT READS IS OF BULK AT MOST 1048576: true; the input reads as it did. -/
def partsBestsUptoRow : OpenClaim := { program := "ytajkofndbeohpaa", sum := "3e3bb30a2bdcbbd9f78c87ed24f22d40d3e9012870060939aaff9c7e6c76ddc6", func := "kinora/kinoralaw6.PartsBests", spec := "partsBests", apart := false, narrowed := true }
def PartsBestsUptoSaid : Prop := partsBestsUptoRow.holds Try.pinned (OpenSpec.upto partsBestsSpec)

/-- 'kinoralaw6.PartsLeast', WHERE WHAT IT READS IS OF BULK AT MOST 1048576: true; the input reads as it did. -/
def partsLeastUptoRow : OpenClaim := { program := "ytajkofndbeohpaa", sum := "3e3bb30a2bdcbbd9f78c87ed24f22d40d3e9012870060939aaff9c7e6c76ddc6", func := "kinora/kinoralaw6.PartsLeast", spec := "partsLeast", apart := false, narrowed := true }
def PartsLeastUptoSaid : Prop := partsLeastUptoRow.holds Try.pinned (OpenSpec.upto partsLeastSpec)

/-- 'kinoralaw6.PartsMore', WHERE WHAT IT READS IS OF BULK AT MOST 1048576: true; the input reads as it did. -/
def partsMoreUptoRow : OpenClaim := { program := "ytajkofndbeohpaa", sum := "3e3bb30a2bdcbbd9f78c87ed24f22d40d3e9012870060939aaff9c7e6c76ddc6", func := "kinora/kinoralaw6.PartsMore", spec := "partsMore", apart := false, narrowed := true }
def PartsMoreUptoSaid : Prop := partsMoreUptoRow.holds Try.pinned (OpenSpec.upto partsMoreSpec)

end Rows
end Go.Proofs.Ytajkofndbeohpaa
