/-
  No cell of these rows narrows 'for every input' (looked for: loops, veiled, ifaces, maps, wideKeys, modest, calm, conditions, laid).
  DERIVED. THE GIVEN ROWS OF THIS SEAT. 7 by the template 'for every input the law returns true; each argument reads behind the call as it read before'; 0 by the template 'total and deterministic' (their statements: YtcmehcgefgjnhaaTotals.lean).
  GIVEN WITH THE SEED: the statements are not yours to turn. If you find one false, say at which input.
  Laid BY PROGRAM, IN A SANDBOX (cutbox-rows.mjs): the forced cells as the released guide's own fill.sh prints them over the translation 50f4296f2c9650c6… (all of the seat's roots in one cut). By AI agents, Wed Nov 11 2026. No macro, syntax, notation, axiom, sorry.
-/
import Derived.Test.YtcmehcgefgjnhaaChecked
import GoSem.Claim
import GoSem.ClaimJoined
import GoSem.ClaimMapViews
import Derived.JoinedTies
import Derived.KernelRfl
namespace Go.Proofs.Ytcmehcgefgjnhaa
/- THE CELL 'sum', in the pinned program and in every row, IS THE sha256 OF THE DUMP (.gsa) THAT YtcmehcgefgjnhaaProg.lean LOADS. Nothing in Lean hashes anything: it is a label: what it is worth is what the hold of that sum in a sandbox is worth. -/
noncomputable def Try.pinned : Pinned := { name := "ytcmehcgefgjnhaa", sum := "50f4296f2c9650c67a46297c2f5cca911f33d62085c925a893e53486c8ac8065", checked := Try.checked }
namespace Rows
def none {H : Type} : Left H := { results := [], args := [] }

/-- 'kinoralaw2.BitsSplit': WHATEVER THE INPUT: true; the input reads as it did. -/
def bitsSplitSpec : ChangeSpec := { name := "bitsSplit", fn := fun _ => fun
  | [d1, d2, d3] => { results := [.lit (.bool true)], args := [d1, d2, d3] }
  | _ => none }
def bitsSplitRow : OpenClaim := { program := "ytcmehcgefgjnhaa", sum := "50f4296f2c9650c67a46297c2f5cca911f33d62085c925a893e53486c8ac8065", func := "kinora/kinoralaw2.BitsSplit", spec := "bitsSplit", apart := false }
def BitsSplitSaid : Prop := bitsSplitRow.holds Try.pinned (OpenSpec.ofChange bitsSplitSpec)

/-- ITS FALSE NEIGHBOUR: 'it returns false'. Refute it at one input. -/
def bitsSplitWrong : ChangeSpec := { name := "bitsSplit", fn := fun _ => fun
  | [d1, d2, d3] => { results := [.lit (.bool false)], args := [d1, d2, d3] }
  | _ => none }
def BitsSplitWrongFalsely : Prop := bitsSplitRow.holds Try.pinned (OpenSpec.ofChange bitsSplitWrong)

/-- 'kinoralaw2.BitsOctets': WHATEVER THE INPUT: true; the input reads as it did. -/
def bitsOctetsSpec : ChangeSpec := { name := "bitsOctets", fn := fun _ => fun
  | [d1, d2] => { results := [.lit (.bool true)], args := [d1, d2] }
  | _ => none }
def bitsOctetsRow : OpenClaim := { program := "ytcmehcgefgjnhaa", sum := "50f4296f2c9650c67a46297c2f5cca911f33d62085c925a893e53486c8ac8065", func := "kinora/kinoralaw2.BitsOctets", spec := "bitsOctets", apart := false }
def BitsOctetsSaid : Prop := bitsOctetsRow.holds Try.pinned (OpenSpec.ofChange bitsOctetsSpec)

/-- ITS FALSE NEIGHBOUR: 'it returns false'. Refute it at one input. -/
def bitsOctetsWrong : ChangeSpec := { name := "bitsOctets", fn := fun _ => fun
  | [d1, d2] => { results := [.lit (.bool false)], args := [d1, d2] }
  | _ => none }
def BitsOctetsWrongFalsely : Prop := bitsOctetsRow.holds Try.pinned (OpenSpec.ofChange bitsOctetsWrong)

/-- 'kinoralaw2.BitsZeros': WHATEVER THE INPUT: true; the input reads as it did. -/
def bitsZerosSpec : ChangeSpec := { name := "bitsZeros", fn := fun _ => fun
  | [d1, d2] => { results := [.lit (.bool true)], args := [d1, d2] }
  | _ => none }
def bitsZerosRow : OpenClaim := { program := "ytcmehcgefgjnhaa", sum := "50f4296f2c9650c67a46297c2f5cca911f33d62085c925a893e53486c8ac8065", func := "kinora/kinoralaw2.BitsZeros", spec := "bitsZeros", apart := false }
def BitsZerosSaid : Prop := bitsZerosRow.holds Try.pinned (OpenSpec.ofChange bitsZerosSpec)

/-- ITS FALSE NEIGHBOUR: 'it returns false'. Refute it at one input. -/
def bitsZerosWrong : ChangeSpec := { name := "bitsZeros", fn := fun _ => fun
  | [d1, d2] => { results := [.lit (.bool false)], args := [d1, d2] }
  | _ => none }
def BitsZerosWrongFalsely : Prop := bitsZerosRow.holds Try.pinned (OpenSpec.ofChange bitsZerosWrong)

/-- 'kinoralaw2.BitsPlays': WHATEVER THE INPUT: true; the input reads as it did. -/
def bitsPlaysSpec : ChangeSpec := { name := "bitsPlays", fn := fun _ => fun
  | [d] => { results := [.lit (.bool true)], args := [d] }
  | _ => none }
def bitsPlaysRow : OpenClaim := { program := "ytcmehcgefgjnhaa", sum := "50f4296f2c9650c67a46297c2f5cca911f33d62085c925a893e53486c8ac8065", func := "kinora/kinoralaw2.BitsPlays", spec := "bitsPlays", apart := false }
def BitsPlaysSaid : Prop := bitsPlaysRow.holds Try.pinned (OpenSpec.ofChange bitsPlaysSpec)

/-- ITS FALSE NEIGHBOUR: 'it returns false'. Refute it at one input. -/
def bitsPlaysWrong : ChangeSpec := { name := "bitsPlays", fn := fun _ => fun
  | [d] => { results := [.lit (.bool false)], args := [d] }
  | _ => none }
def BitsPlaysWrongFalsely : Prop := bitsPlaysRow.holds Try.pinned (OpenSpec.ofChange bitsPlaysWrong)

/-- 'kinoralaw2.BitsSigned': WHATEVER THE INPUT: true; the input reads as it did. -/
def bitsSignedSpec : ChangeSpec := { name := "bitsSigned", fn := fun _ => fun
  | [d1, d2] => { results := [.lit (.bool true)], args := [d1, d2] }
  | _ => none }
def bitsSignedRow : OpenClaim := { program := "ytcmehcgefgjnhaa", sum := "50f4296f2c9650c67a46297c2f5cca911f33d62085c925a893e53486c8ac8065", func := "kinora/kinoralaw2.BitsSigned", spec := "bitsSigned", apart := false }
def BitsSignedSaid : Prop := bitsSignedRow.holds Try.pinned (OpenSpec.ofChange bitsSignedSpec)

/-- ITS FALSE NEIGHBOUR: 'it returns false'. Refute it at one input. -/
def bitsSignedWrong : ChangeSpec := { name := "bitsSigned", fn := fun _ => fun
  | [d1, d2] => { results := [.lit (.bool false)], args := [d1, d2] }
  | _ => none }
def BitsSignedWrongFalsely : Prop := bitsSignedRow.holds Try.pinned (OpenSpec.ofChange bitsSignedWrong)

/-- 'kinoralaw2.BitsBack': WHATEVER THE INPUT: true; the input reads as it did. -/
def bitsBackSpec : ChangeSpec := { name := "bitsBack", fn := fun _ => fun
  | [d] => { results := [.lit (.bool true)], args := [d] }
  | _ => none }
def bitsBackRow : OpenClaim := { program := "ytcmehcgefgjnhaa", sum := "50f4296f2c9650c67a46297c2f5cca911f33d62085c925a893e53486c8ac8065", func := "kinora/kinoralaw2.BitsBack", spec := "bitsBack", apart := false }
def BitsBackSaid : Prop := bitsBackRow.holds Try.pinned (OpenSpec.ofChange bitsBackSpec)

/-- ITS FALSE NEIGHBOUR: 'it returns false'. Refute it at one input. -/
def bitsBackWrong : ChangeSpec := { name := "bitsBack", fn := fun _ => fun
  | [d] => { results := [.lit (.bool false)], args := [d] }
  | _ => none }
def BitsBackWrongFalsely : Prop := bitsBackRow.holds Try.pinned (OpenSpec.ofChange bitsBackWrong)

/-- 'kinoralaw2.BitsReads': WHATEVER THE INPUT: true; the input reads as it did. -/
def bitsReadsSpec : ChangeSpec := { name := "bitsReads", fn := fun _ => fun
  | [d1, d2] => { results := [.lit (.bool true)], args := [d1, d2] }
  | _ => none }
def bitsReadsRow : OpenClaim := { program := "ytcmehcgefgjnhaa", sum := "50f4296f2c9650c67a46297c2f5cca911f33d62085c925a893e53486c8ac8065", func := "kinora/kinoralaw2.BitsReads", spec := "bitsReads", apart := false }
def BitsReadsSaid : Prop := bitsReadsRow.holds Try.pinned (OpenSpec.ofChange bitsReadsSpec)

/-- ITS FALSE NEIGHBOUR: 'it returns false'. Refute it at one input. -/
def bitsReadsWrong : ChangeSpec := { name := "bitsReads", fn := fun _ => fun
  | [d1, d2] => { results := [.lit (.bool false)], args := [d1, d2] }
  | _ => none }
def BitsReadsWrongFalsely : Prop := bitsReadsRow.holds Try.pinned (OpenSpec.ofChange bitsReadsWrong)

/- THE SECOND FORM. 'bulk': how many values and letters a reading holds, each counted each time it is reached (what is shared counts as often as it is met; a slice's spare places count too). A statement '..UptoSaid' is the law's where the arguments, and the package variables that the reading takes, are together of bulk at most 1048576: NARROWER than '..Said'. Prove '..Said' where nothing that the law and all that it calls make is longer than what came in: it says more and counts as full. Else prove '..UptoSaid'. A law counts once. -/
mutual
def uptoBulk {H : Type} : DataW H → Nat
  | .lit (.string bytes) => bytes.length + 1
  | .lit _ => 1
  | .nil => 1
  | .ptr d => uptoBulk d + 1
  | .slice elems spare => uptoBulkAll elems + uptoBulkAll spare + 1
  | .agg parts => uptoBulkAll parts + 1
  | .iface _ d => uptoBulk d + 1
  | .map entries => uptoBulkEntries entries + 1
  | .held _ => 1
def uptoBulkAll {H : Type} : List (DataW H) → Nat
  | [] => 0
  | d :: r => uptoBulk d + uptoBulkAll r
def uptoBulkEntries {H : Type} : List (Lit × DataW H) → Nat
  | [] => 0
  | x :: r => uptoBulkEntry x + uptoBulkEntries r
def uptoBulkEntry {H : Type} : Lit × DataW H → Nat
  | (.string bytes, d) => bytes.length + uptoBulk d + 1
  | (_, d) => uptoBulk d + 1
 end
def uptoSmall : (H : Type) → List (DataW H) → Bool := fun _ ds => decide (uptoBulkAll ds ≤ 1048576)
def OpenSpec.upto (s : _root_.Go.ChangeSpec) : _root_.Go.OpenSpec := { _root_.Go.OpenSpec.ofChange s with cond := some uptoSmall }

/-- 'kinoralaw2.BitsSplit', WHERE WHAT IT READS IS OF BULK AT MOST 1048576: true; the input reads as it did. -/
def bitsSplitUptoRow : OpenClaim := { program := "ytcmehcgefgjnhaa", sum := "50f4296f2c9650c67a46297c2f5cca911f33d62085c925a893e53486c8ac8065", func := "kinora/kinoralaw2.BitsSplit", spec := "bitsSplit", apart := false, narrowed := true }
def BitsSplitUptoSaid : Prop := bitsSplitUptoRow.holds Try.pinned (OpenSpec.upto bitsSplitSpec)

/-- 'kinoralaw2.BitsOctets', WHERE WHAT IT READS IS OF BULK AT MOST 1048576: true; the input reads as it did. -/
def bitsOctetsUptoRow : OpenClaim := { program := "ytcmehcgefgjnhaa", sum := "50f4296f2c9650c67a46297c2f5cca911f33d62085c925a893e53486c8ac8065", func := "kinora/kinoralaw2.BitsOctets", spec := "bitsOctets", apart := false, narrowed := true }
def BitsOctetsUptoSaid : Prop := bitsOctetsUptoRow.holds Try.pinned (OpenSpec.upto bitsOctetsSpec)

/-- 'kinoralaw2.BitsZeros', WHERE WHAT IT READS IS OF BULK AT MOST 1048576: true; the input reads as it did. -/
def bitsZerosUptoRow : OpenClaim := { program := "ytcmehcgefgjnhaa", sum := "50f4296f2c9650c67a46297c2f5cca911f33d62085c925a893e53486c8ac8065", func := "kinora/kinoralaw2.BitsZeros", spec := "bitsZeros", apart := false, narrowed := true }
def BitsZerosUptoSaid : Prop := bitsZerosUptoRow.holds Try.pinned (OpenSpec.upto bitsZerosSpec)

/-- 'kinoralaw2.BitsPlays', WHERE WHAT IT READS IS OF BULK AT MOST 1048576: true; the input reads as it did. -/
def bitsPlaysUptoRow : OpenClaim := { program := "ytcmehcgefgjnhaa", sum := "50f4296f2c9650c67a46297c2f5cca911f33d62085c925a893e53486c8ac8065", func := "kinora/kinoralaw2.BitsPlays", spec := "bitsPlays", apart := false, narrowed := true }
def BitsPlaysUptoSaid : Prop := bitsPlaysUptoRow.holds Try.pinned (OpenSpec.upto bitsPlaysSpec)

/-- 'kinoralaw2.BitsSigned', WHERE WHAT IT READS IS OF BULK AT MOST 1048576: true; the input reads as it did. -/
def bitsSignedUptoRow : OpenClaim := { program := "ytcmehcgefgjnhaa", sum := "50f4296f2c9650c67a46297c2f5cca911f33d62085c925a893e53486c8ac8065", func := "kinora/kinoralaw2.BitsSigned", spec := "bitsSigned", apart := false, narrowed := true }
def BitsSignedUptoSaid : Prop := bitsSignedUptoRow.holds Try.pinned (OpenSpec.upto bitsSignedSpec)

/-- 'kinoralaw2.BitsBack', WHERE WHAT IT READS IS OF BULK AT MOST 1048576: true; the input reads as it did. -/
def bitsBackUptoRow : OpenClaim := { program := "ytcmehcgefgjnhaa", sum := "50f4296f2c9650c67a46297c2f5cca911f33d62085c925a893e53486c8ac8065", func := "kinora/kinoralaw2.BitsBack", spec := "bitsBack", apart := false, narrowed := true }
def BitsBackUptoSaid : Prop := bitsBackUptoRow.holds Try.pinned (OpenSpec.upto bitsBackSpec)

/-- 'kinoralaw2.BitsReads', WHERE WHAT IT READS IS OF BULK AT MOST 1048576: true; the input reads as it did. -/
def bitsReadsUptoRow : OpenClaim := { program := "ytcmehcgefgjnhaa", sum := "50f4296f2c9650c67a46297c2f5cca911f33d62085c925a893e53486c8ac8065", func := "kinora/kinoralaw2.BitsReads", spec := "bitsReads", apart := false, narrowed := true }
def BitsReadsUptoSaid : Prop := bitsReadsUptoRow.holds Try.pinned (OpenSpec.upto bitsReadsSpec)

end Rows
end Go.Proofs.Ytcmehcgefgjnhaa
