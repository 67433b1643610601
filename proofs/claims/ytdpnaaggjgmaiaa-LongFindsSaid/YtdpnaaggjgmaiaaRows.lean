/-
  No cell of these rows narrows 'for every input' (looked for: loops, veiled, ifaces, maps, wideKeys, modest, calm, conditions, laid).
  DERIVED. THE GIVEN ROWS OF THIS SEAT. 7 by the template 'for every input the law returns true; each argument reads behind the call as it read before'; 0 by the template 'total and deterministic' (their statements: YtdpnaaggjgmaiaaTotals.lean).
  GIVEN WITH THE SEED: the statements are not yours to turn. If you find one false, say at which input.
  Laid BY PROGRAM, IN A SANDBOX (cutbox-rows.mjs): the forced cells as the released guide's own fill.sh prints them over the translation cb4ee32a56fc2d56… (all of the seat's roots in one cut). By AI agents, Wed Nov 11 2026. No macro, syntax, notation, axiom, sorry.
-/
import Derived.Test.YtdpnaaggjgmaiaaChecked
import GoSem.Claim
import GoSem.ClaimJoined
import GoSem.ClaimMapViews
import Derived.JoinedTies
import Derived.KernelRfl
namespace Go.Proofs.Ytdpnaaggjgmaiaa
/- THE CELL 'sum', in the pinned program and in every row, IS THE sha256 OF THE DUMP (.gsa) THAT YtdpnaaggjgmaiaaProg.lean LOADS. Nothing in Lean hashes anything: it is a label: what it is worth is what the hold of that sum in a sandbox is worth. -/
noncomputable def Try.pinned : Pinned := { name := "ytdpnaaggjgmaiaa", sum := "cb4ee32a56fc2d5616056d6701026b85dfe022d471bee6838bb0cbdd269bc8d9", checked := Try.checked }
namespace Rows
def none {H : Type} : Left H := { results := [], args := [] }

/-- 'kinoralaw13.LongRests': WHATEVER THE INPUT: true; the input reads as it did. -/
def longRestsSpec : ChangeSpec := { name := "longRests", fn := fun _ => fun
  | [d1, d2, d3] => { results := [.lit (.bool true)], args := [d1, d2, d3] }
  | _ => none }
def longRestsRow : OpenClaim := { program := "ytdpnaaggjgmaiaa", sum := "cb4ee32a56fc2d5616056d6701026b85dfe022d471bee6838bb0cbdd269bc8d9", func := "kinora/kinoralaw13.LongRests", spec := "longRests", apart := false }
def LongRestsSaid : Prop := longRestsRow.holds Try.pinned (OpenSpec.ofChange longRestsSpec)

/-- ITS FALSE NEIGHBOUR: 'it returns false'. Refute it at one input. -/
def longRestsWrong : ChangeSpec := { name := "longRests", fn := fun _ => fun
  | [d1, d2, d3] => { results := [.lit (.bool false)], args := [d1, d2, d3] }
  | _ => none }
def LongRestsWrongFalsely : Prop := longRestsRow.holds Try.pinned (OpenSpec.ofChange longRestsWrong)

/-- 'kinoralaw13.LongBacks': WHATEVER THE INPUT: true; the input reads as it did. -/
def longBacksSpec : ChangeSpec := { name := "longBacks", fn := fun _ => fun
  | [d1, d2, d3] => { results := [.lit (.bool true)], args := [d1, d2, d3] }
  | _ => none }
def longBacksRow : OpenClaim := { program := "ytdpnaaggjgmaiaa", sum := "cb4ee32a56fc2d5616056d6701026b85dfe022d471bee6838bb0cbdd269bc8d9", func := "kinora/kinoralaw13.LongBacks", spec := "longBacks", apart := false }
def LongBacksSaid : Prop := longBacksRow.holds Try.pinned (OpenSpec.ofChange longBacksSpec)

/-- ITS FALSE NEIGHBOUR: 'it returns false'. Refute it at one input. -/
def longBacksWrong : ChangeSpec := { name := "longBacks", fn := fun _ => fun
  | [d1, d2, d3] => { results := [.lit (.bool false)], args := [d1, d2, d3] }
  | _ => none }
def LongBacksWrongFalsely : Prop := longBacksRow.holds Try.pinned (OpenSpec.ofChange longBacksWrong)

/-- 'kinoralaw13.LongRound': WHATEVER THE INPUT: true; the input reads as it did. -/
def longRoundSpec : ChangeSpec := { name := "longRound", fn := fun _ => fun
  | [d1, d2, d3, d4] => { results := [.lit (.bool true)], args := [d1, d2, d3, d4] }
  | _ => none }
def longRoundRow : OpenClaim := { program := "ytdpnaaggjgmaiaa", sum := "cb4ee32a56fc2d5616056d6701026b85dfe022d471bee6838bb0cbdd269bc8d9", func := "kinora/kinoralaw13.LongRound", spec := "longRound", apart := false }
def LongRoundSaid : Prop := longRoundRow.holds Try.pinned (OpenSpec.ofChange longRoundSpec)

/-- ITS FALSE NEIGHBOUR: 'it returns false'. Refute it at one input. -/
def longRoundWrong : ChangeSpec := { name := "longRound", fn := fun _ => fun
  | [d1, d2, d3, d4] => { results := [.lit (.bool false)], args := [d1, d2, d3, d4] }
  | _ => none }
def LongRoundWrongFalsely : Prop := longRoundRow.holds Try.pinned (OpenSpec.ofChange longRoundWrong)

/-- 'kinoralaw13.LongAgain': WHATEVER THE INPUT: true; the input reads as it did. -/
def longAgainSpec : ChangeSpec := { name := "longAgain", fn := fun _ => fun
  | [d1, d2] => { results := [.lit (.bool true)], args := [d1, d2] }
  | _ => none }
def longAgainRow : OpenClaim := { program := "ytdpnaaggjgmaiaa", sum := "cb4ee32a56fc2d5616056d6701026b85dfe022d471bee6838bb0cbdd269bc8d9", func := "kinora/kinoralaw13.LongAgain", spec := "longAgain", apart := false }
def LongAgainSaid : Prop := longAgainRow.holds Try.pinned (OpenSpec.ofChange longAgainSpec)

/-- ITS FALSE NEIGHBOUR: 'it returns false'. Refute it at one input. -/
def longAgainWrong : ChangeSpec := { name := "longAgain", fn := fun _ => fun
  | [d1, d2] => { results := [.lit (.bool false)], args := [d1, d2] }
  | _ => none }
def LongAgainWrongFalsely : Prop := longAgainRow.holds Try.pinned (OpenSpec.ofChange longAgainWrong)

/-- 'kinoralaw13.LongNone': WHATEVER THE INPUT: true; the input reads as it did. -/
def longNoneSpec : ChangeSpec := { name := "longNone", fn := fun _ => fun
  | [d1, d2, d3] => { results := [.lit (.bool true)], args := [d1, d2, d3] }
  | _ => none }
def longNoneRow : OpenClaim := { program := "ytdpnaaggjgmaiaa", sum := "cb4ee32a56fc2d5616056d6701026b85dfe022d471bee6838bb0cbdd269bc8d9", func := "kinora/kinoralaw13.LongNone", spec := "longNone", apart := false }
def LongNoneSaid : Prop := longNoneRow.holds Try.pinned (OpenSpec.ofChange longNoneSpec)

/-- ITS FALSE NEIGHBOUR: 'it returns false'. Refute it at one input. -/
def longNoneWrong : ChangeSpec := { name := "longNone", fn := fun _ => fun
  | [d1, d2, d3] => { results := [.lit (.bool false)], args := [d1, d2, d3] }
  | _ => none }
def LongNoneWrongFalsely : Prop := longNoneRow.holds Try.pinned (OpenSpec.ofChange longNoneWrong)

/-- 'kinoralaw13.LongLater': WHATEVER THE INPUT: true; the input reads as it did. -/
def longLaterSpec : ChangeSpec := { name := "longLater", fn := fun _ => fun
  | [d1, d2, d3, d4] => { results := [.lit (.bool true)], args := [d1, d2, d3, d4] }
  | _ => none }
def longLaterRow : OpenClaim := { program := "ytdpnaaggjgmaiaa", sum := "cb4ee32a56fc2d5616056d6701026b85dfe022d471bee6838bb0cbdd269bc8d9", func := "kinora/kinoralaw13.LongLater", spec := "longLater", apart := false }
def LongLaterSaid : Prop := longLaterRow.holds Try.pinned (OpenSpec.ofChange longLaterSpec)

/-- ITS FALSE NEIGHBOUR: 'it returns false'. Refute it at one input. -/
def longLaterWrong : ChangeSpec := { name := "longLater", fn := fun _ => fun
  | [d1, d2, d3, d4] => { results := [.lit (.bool false)], args := [d1, d2, d3, d4] }
  | _ => none }
def LongLaterWrongFalsely : Prop := longLaterRow.holds Try.pinned (OpenSpec.ofChange longLaterWrong)

/-- 'kinoralaw13.LongFinds': WHATEVER THE INPUT: true; the input reads as it did. -/
def longFindsSpec : ChangeSpec := { name := "longFinds", fn := fun _ => fun
  | [d1, d2, d3, d4] => { results := [.lit (.bool true)], args := [d1, d2, d3, d4] }
  | _ => none }
def longFindsRow : OpenClaim := { program := "ytdpnaaggjgmaiaa", sum := "cb4ee32a56fc2d5616056d6701026b85dfe022d471bee6838bb0cbdd269bc8d9", func := "kinora/kinoralaw13.LongFinds", spec := "longFinds", apart := false }
def LongFindsSaid : Prop := longFindsRow.holds Try.pinned (OpenSpec.ofChange longFindsSpec)

/-- ITS FALSE NEIGHBOUR: 'it returns false'. Refute it at one input. -/
def longFindsWrong : ChangeSpec := { name := "longFinds", fn := fun _ => fun
  | [d1, d2, d3, d4] => { results := [.lit (.bool false)], args := [d1, d2, d3, d4] }
  | _ => none }
def LongFindsWrongFalsely : Prop := longFindsRow.holds Try.pinned (OpenSpec.ofChange longFindsWrong)

/- THE SECOND FORM. 'bulk': how many values and letters a reading holds, each counted each time it is reached (what is shared counts as often as it is met; a slice's spare places count too). A statement '..UptoSaid' is the law's where the arguments, and the package variables that the reading takes, are together of bulk at most 1048576: NARROWER than '..Said'. Prove '..Said' where nothing that the law and all that it calls make is longer than what came in: it says more and counts as full. Else prove '..UptoSaid'. A law counts once. -/
mutual
def uptoBulk {H : Type} : DataW H → Nat
  | .lit (.string bytes) => bytes.length + 1
  | .lit _ => 1
  | .nil => 1
  | .ptr d => uptoBulk d + 1
  | .slice elems spare => uptoBulkAll elems + uptoBulkAll spare + 1
  | .agg parts => uptoBulkAll parts + 1
  | .iface _ d => uptoBulk d + 1
  | .map entries => uptoBulkEntries entries + 1
  | .held _ => 1
def uptoBulkAll {H : Type} : List (DataW H) → Nat
  | [] => 0
  | d :: r => uptoBulk d + uptoBulkAll r
def uptoBulkEntries {H : Type} : List (Lit × DataW H) → Nat
  | [] => 0
  | x :: r => uptoBulkEntry x + uptoBulkEntries r
def uptoBulkEntry {H : Type} : Lit × DataW H → Nat
  | (.string bytes, d) => bytes.length + uptoBulk d + 1
  | (_, d) => uptoBulk d + 1
 end
def uptoSmall : (H : Type) → List (DataW H) → Bool := fun _ ds => decide (uptoBulkAll ds ≤ 1048576)
def OpenSpec.upto (s : _root_.Go.ChangeSpec) : _root_.Go.OpenSpec := { _root_.Go.OpenSpec.ofChange s with cond := some uptoSmall }

/-- 'kinoralaw13.LongRests', WHERE WHAT IT READS IS OF BULK AT MOST 1048576: true; the input reads as it did. -/
def longRestsUptoRow : OpenClaim := { program := "ytdpnaaggjgmaiaa", sum := "cb4ee32a56fc2d5616056d6701026b85dfe022d471bee6838bb0cbdd269bc8d9", func := "kinora/kinoralaw13.LongRests", spec := "longRests", apart := false, narrowed := true }
def LongRestsUptoSaid : Prop := longRestsUptoRow.holds Try.pinned (OpenSpec.upto longRestsSpec)

/-- 'kinoralaw13.LongBacks', WHERE WHAT IT READS IS OF BULK AT MOST 1048576: true; the input reads as it did. -/
def longBacksUptoRow : OpenClaim := { program := "ytdpnaaggjgmaiaa", sum := "cb4ee32a56fc2d5616056d6701026b85dfe022d471bee6838bb0cbdd269bc8d9", func := "kinora/kinoralaw13.LongBacks", spec := "longBacks", apart := false, narrowed := true }
def LongBacksUptoSaid : Prop := longBacksUptoRow.holds Try.pinned (OpenSpec.upto longBacksSpec)

/-- 'kinoralaw13.LongRound', WHERE WHAT IT READS IS OF BULK AT MOST 1048576: true; the input reads as it did. -/
def longRoundUptoRow : OpenClaim := { program := "ytdpnaaggjgmaiaa", sum := "cb4ee32a56fc2d5616056d6701026b85dfe022d471bee6838bb0cbdd269bc8d9", func := "kinora/kinoralaw13.LongRound", spec := "longRound", apart := false, narrowed := true }
def LongRoundUptoSaid : Prop := longRoundUptoRow.holds Try.pinned (OpenSpec.upto longRoundSpec)

/-- 'kinoralaw13.LongAgain', WHERE WHAT IT READS IS OF BULK AT MOST 1048576: true; the input reads as it did. -/
def longAgainUptoRow : OpenClaim := { program := "ytdpnaaggjgmaiaa", sum := "cb4ee32a56fc2d5616056d6701026b85dfe022d471bee6838bb0cbdd269bc8d9", func := "kinora/kinoralaw13.LongAgain", spec := "longAgain", apart := false, narrowed := true }
def LongAgainUptoSaid : Prop := longAgainUptoRow.holds Try.pinned (OpenSpec.upto longAgainSpec)

/-- 'kinoralaw13.LongNone', WHERE WHAT IT READS IS OF BULK AT MOST 1048576: true; the input reads as it did. -/
def longNoneUptoRow : OpenClaim := { program := "ytdpnaaggjgmaiaa", sum := "cb4ee32a56fc2d5616056d6701026b85dfe022d471bee6838bb0cbdd269bc8d9", func := "kinora/kinoralaw13.LongNone", spec := "longNone", apart := false, narrowed := true }
def LongNoneUptoSaid : Prop := longNoneUptoRow.holds Try.pinned (OpenSpec.upto longNoneSpec)

/-- 'kinoralaw13.LongLater', WHERE WHAT IT READS IS OF BULK AT MOST 1048576: true; the input reads as it did. -/
def longLaterUptoRow : OpenClaim := { program := "ytdpnaaggjgmaiaa", sum := "cb4ee32a56fc2d5616056d6701026b85dfe022d471bee6838bb0cbdd269bc8d9", func := "kinora/kinoralaw13.LongLater", spec := "longLater", apart := false, narrowed := true }
def LongLaterUptoSaid : Prop := longLaterUptoRow.holds Try.pinned (OpenSpec.upto longLaterSpec)

/-- 'kinoralaw13.LongFinds', WHERE WHAT IT READS IS OF BULK AT MOST 1048576: true; the input reads as it did. -/
def longFindsUptoRow : OpenClaim := { program := "ytdpnaaggjgmaiaa", sum := "cb4ee32a56fc2d5616056d6701026b85dfe022d471bee6838bb0cbdd269bc8d9", func := "kinora/kinoralaw13.LongFinds", spec := "longFinds", apart := false, narrowed := true }
def LongFindsUptoSaid : Prop := longFindsUptoRow.holds Try.pinned (OpenSpec.upto longFindsSpec)

end Rows
end Go.Proofs.Ytdpnaaggjgmaiaa
