/-
  NARROWER THAN 'FOR EVERY INPUT', by the rows' own cells (each row's printed sentence says how): MatchTells: laid · MatchFinds: laid · MatchBack: laid · MatchLeast: laid.
  DERIVED. THE GIVEN ROWS OF THIS SEAT. 4 by the template 'for every input the law returns true; each argument reads behind the call as it read before'; 0 by the template 'total and deterministic' (their statements: YtfanamibkgkaiaaDoorTotals.lean).
  GIVEN WITH THE SEED: the statements are not yours to turn. If you find one false, say at which input.
  Laid BY PROGRAM, IN A SANDBOX (cutbox-rows.mjs): the forced cells as the released guide's own fill.sh prints them over the translation 8aa399a4a90d09d0… (all of the seat's roots in one cut). By AI agents, Wed Nov 11 2026. No macro, syntax, notation, axiom, sorry.
-/
import Derived.Test.YtfanamibkgkaiaaDoorChecked
import GoSem.Claim
import GoSem.ClaimJoined
import GoSem.ClaimMapViews
import Derived.JoinedTies
import Derived.KernelRfl
namespace Go.Proofs.YtfanamibkgkaiaaDoor
/- THE CELL 'sum', in the pinned program and in every row, IS THE sha256 OF THE DUMP (.gsa) THAT YtfanamibkgkaiaaDoorProg.lean LOADS. Nothing in Lean hashes anything: it is a label: what it is worth is what the hold of that sum in a sandbox is worth. -/
noncomputable def Tryd.pinned : Pinned := { name := "ytfanamibkgkaiaadoor", sum := "8aa399a4a90d09d03fe5de5cc28e1646eaaac8a9994c3cc3d6ea708dd907030b", checked := Tryd.checked }
namespace Rows
def none {H : Type} : Left H := { results := [], args := [] }

/- WHAT THE LISTED PACKAGE-LEVEL VARIABLES READ AS WHEN THE CALL BEGINS. Each datum BY PROGRAM (the guide's laid-datum.mjs) off the statement by which the dump's own 'gosem.cut.vars' lays the variable. In a bare row this is a premise. The card (YtfanamibkgkaiaaDoorCards.lean) ties it to the program's text. -/
def laid_kinora_match_points {H : Type} : DataW H := .agg [.agg [.lit (.int .i64 0), .lit (.int .i64 1)], .agg [.lit (.int .i64 1), .lit (.int .i64 0)], .agg [.lit (.int .i64 1), .lit (.int .i64 1)], .agg [.lit (.int .i64 (-1)), .lit (.int .i64 1)], .agg [.lit (.int .i64 0), .lit (.int .i64 2)], .agg [.lit (.int .i64 2), .lit (.int .i64 0)], .agg [.lit (.int .i64 1), .lit (.int .i64 2)], .agg [.lit (.int .i64 (-1)), .lit (.int .i64 2)], .agg [.lit (.int .i64 2), .lit (.int .i64 1)], .agg [.lit (.int .i64 (-2)), .lit (.int .i64 1)], .agg [.lit (.int .i64 2), .lit (.int .i64 2)], .agg [.lit (.int .i64 (-2)), .lit (.int .i64 2)], .agg [.lit (.int .i64 0), .lit (.int .i64 3)], .agg [.lit (.int .i64 3), .lit (.int .i64 0)], .agg [.lit (.int .i64 1), .lit (.int .i64 3)], .agg [.lit (.int .i64 (-1)), .lit (.int .i64 3)], .agg [.lit (.int .i64 3), .lit (.int .i64 1)], .agg [.lit (.int .i64 (-3)), .lit (.int .i64 1)], .agg [.lit (.int .i64 2), .lit (.int .i64 3)], .agg [.lit (.int .i64 (-2)), .lit (.int .i64 3)], .agg [.lit (.int .i64 3), .lit (.int .i64 2)], .agg [.lit (.int .i64 (-3)), .lit (.int .i64 2)], .agg [.lit (.int .i64 0), .lit (.int .i64 4)], .agg [.lit (.int .i64 4), .lit (.int .i64 0)]]

/-- 'kinoralaw25.MatchTells': WHATEVER THE INPUT: true; the input reads as it did. -/
def matchTellsSpec : ChangeSpec := { name := "matchTells", fn := fun _ => fun
  | [d1, d2, d3] => { results := [.lit (.bool true)], args := [d1, d2, d3] }
  | _ => none }
def matchTellsRow : OpenClaim := { program := "ytfanamibkgkaiaadoor", sum := "8aa399a4a90d09d03fe5de5cc28e1646eaaac8a9994c3cc3d6ea708dd907030b", func := "kinora/kinoralaw25.MatchTells", spec := "matchTells", named := ["kinora/match.points"], apart := false, laid := [("kinora/match.points", laid_kinora_match_points)] }
def MatchTellsSaid : Prop := matchTellsRow.holds Tryd.pinned (OpenSpec.ofChange matchTellsSpec)

/-- ITS FALSE NEIGHBOUR: 'it returns false'. Refute it at one input. -/
def matchTellsWrong : ChangeSpec := { name := "matchTells", fn := fun _ => fun
  | [d1, d2, d3] => { results := [.lit (.bool false)], args := [d1, d2, d3] }
  | _ => none }
def MatchTellsWrongFalsely : Prop := matchTellsRow.holds Tryd.pinned (OpenSpec.ofChange matchTellsWrong)

/-- 'kinoralaw25.MatchFinds': WHATEVER THE INPUT: true; the input reads as it did. -/
def matchFindsSpec : ChangeSpec := { name := "matchFinds", fn := fun _ => fun
  | [d1, d2, d3, d4, d5] => { results := [.lit (.bool true)], args := [d1, d2, d3, d4, d5] }
  | _ => none }
def matchFindsRow : OpenClaim := { program := "ytfanamibkgkaiaadoor", sum := "8aa399a4a90d09d03fe5de5cc28e1646eaaac8a9994c3cc3d6ea708dd907030b", func := "kinora/kinoralaw25.MatchFinds", spec := "matchFinds", named := ["kinora/match.points"], apart := false, laid := [("kinora/match.points", laid_kinora_match_points)] }
def MatchFindsSaid : Prop := matchFindsRow.holds Tryd.pinned (OpenSpec.ofChange matchFindsSpec)

/-- ITS FALSE NEIGHBOUR: 'it returns false'. Refute it at one input. -/
def matchFindsWrong : ChangeSpec := { name := "matchFinds", fn := fun _ => fun
  | [d1, d2, d3, d4, d5] => { results := [.lit (.bool false)], args := [d1, d2, d3, d4, d5] }
  | _ => none }
def MatchFindsWrongFalsely : Prop := matchFindsRow.holds Tryd.pinned (OpenSpec.ofChange matchFindsWrong)

/-- 'kinoralaw25.MatchBack': WHATEVER THE INPUT: true; the input reads as it did. -/
def matchBackSpec : ChangeSpec := { name := "matchBack", fn := fun _ => fun
  | [d1, d2, d3, d4] => { results := [.lit (.bool true)], args := [d1, d2, d3, d4] }
  | _ => none }
def matchBackRow : OpenClaim := { program := "ytfanamibkgkaiaadoor", sum := "8aa399a4a90d09d03fe5de5cc28e1646eaaac8a9994c3cc3d6ea708dd907030b", func := "kinora/kinoralaw25.MatchBack", spec := "matchBack", named := ["kinora/match.points"], apart := false, laid := [("kinora/match.points", laid_kinora_match_points)] }
def MatchBackSaid : Prop := matchBackRow.holds Tryd.pinned (OpenSpec.ofChange matchBackSpec)

/-- ITS FALSE NEIGHBOUR: 'it returns false'. Refute it at one input. -/
def matchBackWrong : ChangeSpec := { name := "matchBack", fn := fun _ => fun
  | [d1, d2, d3, d4] => { results := [.lit (.bool false)], args := [d1, d2, d3, d4] }
  | _ => none }
def MatchBackWrongFalsely : Prop := matchBackRow.holds Tryd.pinned (OpenSpec.ofChange matchBackWrong)

/-- 'kinoralaw25.MatchLeast': WHATEVER THE INPUT: true; the input reads as it did. -/
def matchLeastSpec : ChangeSpec := { name := "matchLeast", fn := fun _ => fun
  | [d1, d2, d3] => { results := [.lit (.bool true)], args := [d1, d2, d3] }
  | _ => none }
def matchLeastRow : OpenClaim := { program := "ytfanamibkgkaiaadoor", sum := "8aa399a4a90d09d03fe5de5cc28e1646eaaac8a9994c3cc3d6ea708dd907030b", func := "kinora/kinoralaw25.MatchLeast", spec := "matchLeast", named := ["kinora/match.points"], apart := false, laid := [("kinora/match.points", laid_kinora_match_points)] }
def MatchLeastSaid : Prop := matchLeastRow.holds Tryd.pinned (OpenSpec.ofChange matchLeastSpec)

/-- ITS FALSE NEIGHBOUR: 'it returns false'. Refute it at one input. -/
def matchLeastWrong : ChangeSpec := { name := "matchLeast", fn := fun _ => fun
  | [d1, d2, d3] => { results := [.lit (.bool false)], args := [d1, d2, d3] }
  | _ => none }
def MatchLeastWrongFalsely : Prop := matchLeastRow.holds Tryd.pinned (OpenSpec.ofChange matchLeastWrong)

/- THE SECOND FORM. 'bulk': how many values and letters a reading holds, each counted each time it is reached (what is shared counts as often as it is met; a slice's spare places count too). A statement '..UptoSaid' is the law's where the arguments, and the package variables that the reading takes, are together of bulk at most 1048576: NARROWER than '..Said'. Prove '..Said' where nothing that the law and all that it calls make is longer than what came in: it says more and counts as full. Else prove '..UptoSaid'. A law counts once. -/
mutual
def uptoBulk {H : Type} : DataW H → Nat
  | .lit (.string bytes) => bytes.length + 1
  | .lit _ => 1
  | .nil => 1
  | .ptr d => uptoBulk d + 1
  | .slice elems spare => uptoBulkAll elems + uptoBulkAll spare + 1
  | .agg parts => uptoBulkAll parts + 1
  | .iface _ d => uptoBulk d + 1
  | .map entries => uptoBulkEntries entries + 1
  | .held _ => 1
def uptoBulkAll {H : Type} : List (DataW H) → Nat
  | [] => 0
  | d :: r => uptoBulk d + uptoBulkAll r
def uptoBulkEntries {H : Type} : List (Lit × DataW H) → Nat
  | [] => 0
  | x :: r => uptoBulkEntry x + uptoBulkEntries r
def uptoBulkEntry {H : Type} : Lit × DataW H → Nat
  | (.string bytes, d) => bytes.length + uptoBulk d + 1
  | (_, d) => uptoBulk d + 1
 end
def uptoSmall : (H : Type) → List (DataW H) → Bool := fun _ ds => decide (uptoBulkAll ds ≤ 1048576)
def OpenSpec.upto (s : _root_.Go.ChangeSpec) : _root_.Go.OpenSpec := { _root_.Go.OpenSpec.ofChange s with cond := some uptoSmall }

/-- 'kinoralaw25.MatchTells', WHERE WHAT IT READS IS OF BULK AT MOST 1048576: true; the input reads as it did. -/
def matchTellsUptoRow : OpenClaim := { program := "ytfanamibkgkaiaadoor", sum := "8aa399a4a90d09d03fe5de5cc28e1646eaaac8a9994c3cc3d6ea708dd907030b", func := "kinora/kinoralaw25.MatchTells", spec := "matchTells", named := ["kinora/match.points"], apart := false, laid := [("kinora/match.points", laid_kinora_match_points)], narrowed := true }
def MatchTellsUptoSaid : Prop := matchTellsUptoRow.holds Tryd.pinned (OpenSpec.upto matchTellsSpec)

/-- 'kinoralaw25.MatchFinds', WHERE WHAT IT READS IS OF BULK AT MOST 1048576: true; the input reads as it did. -/
def matchFindsUptoRow : OpenClaim := { program := "ytfanamibkgkaiaadoor", sum := "8aa399a4a90d09d03fe5de5cc28e1646eaaac8a9994c3cc3d6ea708dd907030b", func := "kinora/kinoralaw25.MatchFinds", spec := "matchFinds", named := ["kinora/match.points"], apart := false, laid := [("kinora/match.points", laid_kinora_match_points)], narrowed := true }
def MatchFindsUptoSaid : Prop := matchFindsUptoRow.holds Tryd.pinned (OpenSpec.upto matchFindsSpec)

/-- 'kinoralaw25.MatchBack', WHERE WHAT IT READS IS OF BULK AT MOST 1048576: true; the input reads as it did. -/
def matchBackUptoRow : OpenClaim := { program := "ytfanamibkgkaiaadoor", sum := "8aa399a4a90d09d03fe5de5cc28e1646eaaac8a9994c3cc3d6ea708dd907030b", func := "kinora/kinoralaw25.MatchBack", spec := "matchBack", named := ["kinora/match.points"], apart := false, laid := [("kinora/match.points", laid_kinora_match_points)], narrowed := true }
def MatchBackUptoSaid : Prop := matchBackUptoRow.holds Tryd.pinned (OpenSpec.upto matchBackSpec)

/-- 'kinoralaw25.MatchLeast', WHERE WHAT IT READS IS OF BULK AT MOST 1048576: true; the input reads as it did. -/
def matchLeastUptoRow : OpenClaim := { program := "ytfanamibkgkaiaadoor", sum := "8aa399a4a90d09d03fe5de5cc28e1646eaaac8a9994c3cc3d6ea708dd907030b", func := "kinora/kinoralaw25.MatchLeast", spec := "matchLeast", named := ["kinora/match.points"], apart := false, laid := [("kinora/match.points", laid_kinora_match_points)], narrowed := true }
def MatchLeastUptoSaid : Prop := matchLeastUptoRow.holds Tryd.pinned (OpenSpec.upto matchLeastSpec)

end Rows
end Go.Proofs.YtfanamibkgkaiaaDoor
