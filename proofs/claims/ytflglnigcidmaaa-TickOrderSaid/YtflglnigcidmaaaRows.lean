/-
  No cell of these rows narrows 'for every input' (looked for: loops, veiled, ifaces, maps, wideKeys, modest, calm, conditions, laid).
  DERIVED. THE GIVEN ROWS OF THIS SEAT. 4 by the template 'for every input the law returns true; each argument reads behind the call as it read before'; 0 by the template 'total and deterministic' (their statements: YtflglnigcidmaaaTotals.lean).
  GIVEN WITH THE SEED: the statements are not yours to turn. If you find one false, say at which input.
  Laid BY PROGRAM, IN A SANDBOX (cutbox-rows.mjs): the forced cells as the released guide's own fill.sh prints them over the translation 834a2b10459b590a… (all of the seat's roots in one cut). By AI agents, Wed Nov 11 2026. No macro, syntax, notation, axiom, sorry.
-/
import Derived.Test.YtflglnigcidmaaaChecked
import GoSem.Claim
import GoSem.ClaimJoined
import GoSem.ClaimMapViews
import Derived.JoinedTies
import Derived.KernelRfl
namespace Go.Proofs.Ytflglnigcidmaaa
/- THE CELL 'sum', in the pinned program and in every row, IS THE sha256 OF THE DUMP (.gsa) THAT YtflglnigcidmaaaProg.lean LOADS. Nothing in Lean hashes anything: it is a label: what it is worth is what the hold of that sum in a sandbox is worth. -/
noncomputable def Try.pinned : Pinned := { name := "ytflglnigcidmaaa", sum := "834a2b10459b590aeebfd80037ceb2aff4486dfc82f2f3d7980deffbd232c281", checked := Try.checked }
namespace Rows
def none {H : Type} : Left H := { results := [], args := [] }

/-- 'kinoralaw31.TickTells': WHATEVER THE INPUT: true; the input reads as it did. -/
def tickTellsSpec : ChangeSpec := { name := "tickTells", fn := fun _ => fun
  | [d1, d2, d3, d4, d5] => { results := [.lit (.bool true)], args := [d1, d2, d3, d4, d5] }
  | _ => none }
def tickTellsRow : OpenClaim := { program := "ytflglnigcidmaaa", sum := "834a2b10459b590aeebfd80037ceb2aff4486dfc82f2f3d7980deffbd232c281", func := "kinora/kinoralaw31.TickTells", spec := "tickTells", apart := false }
def TickTellsSaid : Prop := tickTellsRow.holds Try.pinned (OpenSpec.ofChange tickTellsSpec)

/-- ITS FALSE NEIGHBOUR: 'it returns false'. Refute it at one input. -/
def tickTellsWrong : ChangeSpec := { name := "tickTells", fn := fun _ => fun
  | [d1, d2, d3, d4, d5] => { results := [.lit (.bool false)], args := [d1, d2, d3, d4, d5] }
  | _ => none }
def TickTellsWrongFalsely : Prop := tickTellsRow.holds Try.pinned (OpenSpec.ofChange tickTellsWrong)

/-- 'kinoralaw31.TickCounts': WHATEVER THE INPUT: true; the input reads as it did. -/
def tickCountsSpec : ChangeSpec := { name := "tickCounts", fn := fun _ => fun
  | [d1, d2, d3] => { results := [.lit (.bool true)], args := [d1, d2, d3] }
  | _ => none }
def tickCountsRow : OpenClaim := { program := "ytflglnigcidmaaa", sum := "834a2b10459b590aeebfd80037ceb2aff4486dfc82f2f3d7980deffbd232c281", func := "kinora/kinoralaw31.TickCounts", spec := "tickCounts", apart := false }
def TickCountsSaid : Prop := tickCountsRow.holds Try.pinned (OpenSpec.ofChange tickCountsSpec)

/-- ITS FALSE NEIGHBOUR: 'it returns false'. Refute it at one input. -/
def tickCountsWrong : ChangeSpec := { name := "tickCounts", fn := fun _ => fun
  | [d1, d2, d3] => { results := [.lit (.bool false)], args := [d1, d2, d3] }
  | _ => none }
def TickCountsWrongFalsely : Prop := tickCountsRow.holds Try.pinned (OpenSpec.ofChange tickCountsWrong)

/-- 'kinoralaw31.TickNever': WHATEVER THE INPUT: true; the input reads as it did. -/
def tickNeverSpec : ChangeSpec := { name := "tickNever", fn := fun _ => fun
  | [d1, d2, d3] => { results := [.lit (.bool true)], args := [d1, d2, d3] }
  | _ => none }
def tickNeverRow : OpenClaim := { program := "ytflglnigcidmaaa", sum := "834a2b10459b590aeebfd80037ceb2aff4486dfc82f2f3d7980deffbd232c281", func := "kinora/kinoralaw31.TickNever", spec := "tickNever", apart := false }
def TickNeverSaid : Prop := tickNeverRow.holds Try.pinned (OpenSpec.ofChange tickNeverSpec)

/-- ITS FALSE NEIGHBOUR: 'it returns false'. Refute it at one input. -/
def tickNeverWrong : ChangeSpec := { name := "tickNever", fn := fun _ => fun
  | [d1, d2, d3] => { results := [.lit (.bool false)], args := [d1, d2, d3] }
  | _ => none }
def TickNeverWrongFalsely : Prop := tickNeverRow.holds Try.pinned (OpenSpec.ofChange tickNeverWrong)

/-- 'kinoralaw31.TickOrder': WHATEVER THE INPUT: true; the input reads as it did. -/
def tickOrderSpec : ChangeSpec := { name := "tickOrder", fn := fun _ => fun
  | [d1, d2, d3, d4, d5, d6] => { results := [.lit (.bool true)], args := [d1, d2, d3, d4, d5, d6] }
  | _ => none }
def tickOrderRow : OpenClaim := { program := "ytflglnigcidmaaa", sum := "834a2b10459b590aeebfd80037ceb2aff4486dfc82f2f3d7980deffbd232c281", func := "kinora/kinoralaw31.TickOrder", spec := "tickOrder", apart := false }
def TickOrderSaid : Prop := tickOrderRow.holds Try.pinned (OpenSpec.ofChange tickOrderSpec)

/-- ITS FALSE NEIGHBOUR: 'it returns false'. Refute it at one input. -/
def tickOrderWrong : ChangeSpec := { name := "tickOrder", fn := fun _ => fun
  | [d1, d2, d3, d4, d5, d6] => { results := [.lit (.bool false)], args := [d1, d2, d3, d4, d5, d6] }
  | _ => none }
def TickOrderWrongFalsely : Prop := tickOrderRow.holds Try.pinned (OpenSpec.ofChange tickOrderWrong)

/- THE SECOND FORM. 'bulk': how many values and letters a reading holds, each counted each time it is reached (what is shared counts as often as it is met; a slice's spare places count too). A statement '..UptoSaid' is the law's where the arguments, and the package variables that the reading takes, are together of bulk at most 1048576: NARROWER than '..Said'. Prove '..Said' where nothing that the law and all that it calls make is longer than what came in: it says more and counts as full. Else prove '..UptoSaid'. A law counts once. -/
mutual
def uptoBulk {H : Type} : DataW H → Nat
  | .lit (.string bytes) => bytes.length + 1
  | .lit _ => 1
  | .nil => 1
  | .ptr d => uptoBulk d + 1
  | .slice elems spare => uptoBulkAll elems + uptoBulkAll spare + 1
  | .agg parts => uptoBulkAll parts + 1
  | .iface _ d => uptoBulk d + 1
  | .map entries => uptoBulkEntries entries + 1
  | .held _ => 1
def uptoBulkAll {H : Type} : List (DataW H) → Nat
  | [] => 0
  | d :: r => uptoBulk d + uptoBulkAll r
def uptoBulkEntries {H : Type} : List (Lit × DataW H) → Nat
  | [] => 0
  | x :: r => uptoBulkEntry x + uptoBulkEntries r
def uptoBulkEntry {H : Type} : Lit × DataW H → Nat
  | (.string bytes, d) => bytes.length + uptoBulk d + 1
  | (_, d) => uptoBulk d + 1
 end
def uptoSmall : (H : Type) → List (DataW H) → Bool := fun _ ds => decide (uptoBulkAll ds ≤ 1048576)
def OpenSpec.upto (s : _root_.Go.ChangeSpec) : _root_.Go.OpenSpec := { _root_.Go.OpenSpec.ofChange s with cond := some uptoSmall }

/-- 'kinoralaw31.TickTells', WHERE WHAT IT READS IS OF BULK AT MOST 1048576: true; the input reads as it did. -/
def tickTellsUptoRow : OpenClaim := { program := "ytflglnigcidmaaa", sum := "834a2b10459b590aeebfd80037ceb2aff4486dfc82f2f3d7980deffbd232c281", func := "kinora/kinoralaw31.TickTells", spec := "tickTells", apart := false, narrowed := true }
def TickTellsUptoSaid : Prop := tickTellsUptoRow.holds Try.pinned (OpenSpec.upto tickTellsSpec)

/-- 'kinoralaw31.TickCounts', WHERE WHAT IT READS IS OF BULK AT MOST 1048576: true; the input reads as it did. -/
def tickCountsUptoRow : OpenClaim := { program := "ytflglnigcidmaaa", sum := "834a2b10459b590aeebfd80037ceb2aff4486dfc82f2f3d7980deffbd232c281", func := "kinora/kinoralaw31.TickCounts", spec := "tickCounts", apart := false, narrowed := true }
def TickCountsUptoSaid : Prop := tickCountsUptoRow.holds Try.pinned (OpenSpec.upto tickCountsSpec)

/-- 'kinoralaw31.TickNever', WHERE WHAT IT READS IS OF BULK AT MOST 1048576: true; the input reads as it did. -/
def tickNeverUptoRow : OpenClaim := { program := "ytflglnigcidmaaa", sum := "834a2b10459b590aeebfd80037ceb2aff4486dfc82f2f3d7980deffbd232c281", func := "kinora/kinoralaw31.TickNever", spec := "tickNever", apart := false, narrowed := true }
def TickNeverUptoSaid : Prop := tickNeverUptoRow.holds Try.pinned (OpenSpec.upto tickNeverSpec)

/-- 'kinoralaw31.TickOrder', WHERE WHAT IT READS IS OF BULK AT MOST 1048576: true; the input reads as it did. -/
def tickOrderUptoRow : OpenClaim := { program := "ytflglnigcidmaaa", sum := "834a2b10459b590aeebfd80037ceb2aff4486dfc82f2f3d7980deffbd232c281", func := "kinora/kinoralaw31.TickOrder", spec := "tickOrder", apart := false, narrowed := true }
def TickOrderUptoSaid : Prop := tickOrderUptoRow.holds Try.pinned (OpenSpec.upto tickOrderSpec)

end Rows
end Go.Proofs.Ytflglnigcidmaaa
