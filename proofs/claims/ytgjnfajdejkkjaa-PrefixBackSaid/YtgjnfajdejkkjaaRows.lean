/-
  No cell of these rows narrows 'for every input' (looked for: loops, veiled, ifaces, maps, wideKeys, modest, calm, conditions, laid).
  DERIVED. THE GIVEN ROWS OF THIS SEAT. 8 by the template 'for every input the law returns true; each argument reads behind the call as it read before'; 0 by the template 'total and deterministic' (their statements: YtgjnfajdejkkjaaTotals.lean).
  GIVEN WITH THE SEED: the statements are not yours to turn. If you find one false, say at which input.
  Laid BY PROGRAM, IN A SANDBOX (cutbox-rows.mjs): the forced cells as the released guide's own fill.sh prints them over the translation 5c37ba0c0e58772c… (all of the seat's roots in one cut). By AI agents, Wed Nov 11 2026. No macro, syntax, notation, axiom, sorry.
-/
import Derived.Test.YtgjnfajdejkkjaaChecked
import GoSem.Claim
import GoSem.ClaimJoined
import GoSem.ClaimMapViews
import Derived.JoinedTies
import Derived.KernelRfl
namespace Go.Proofs.Ytgjnfajdejkkjaa
/- THE CELL 'sum', in the pinned program and in every row, IS THE sha256 OF THE DUMP (.gsa) THAT YtgjnfajdejkkjaaProg.lean LOADS. Nothing in Lean hashes anything: it is a label: what it is worth is what the hold of that sum in a sandbox is worth. -/
noncomputable def Try.pinned : Pinned := { name := "ytgjnfajdejkkjaa", sum := "5c37ba0c0e58772c186b998e7d96f69654001d6b47df29e3e69a9c59c80bbf41", checked := Try.checked }
namespace Rows
def none {H : Type} : Left H := { results := [], args := [] }

/-- 'kinoralaw7.PrefixLens': WHATEVER THE INPUT: true; the input reads as it did. -/
def prefixLensSpec : ChangeSpec := { name := "prefixLens", fn := fun _ => fun
  | [d1, d2] => { results := [.lit (.bool true)], args := [d1, d2] }
  | _ => none }
def prefixLensRow : OpenClaim := { program := "ytgjnfajdejkkjaa", sum := "5c37ba0c0e58772c186b998e7d96f69654001d6b47df29e3e69a9c59c80bbf41", func := "kinora/kinoralaw7.PrefixLens", spec := "prefixLens", inPlace := ["internal/reflectlite.ValueOf", "internal/reflectlite.Swapper", "(internal/reflectlite.Value).Len"], unfollowed := true, recurses := true, apart := false }
def PrefixLensSaid : Prop := prefixLensRow.holds Try.pinned (OpenSpec.ofChange prefixLensSpec)

/-- ITS FALSE NEIGHBOUR: 'it returns false'. Refute it at one input. -/
def prefixLensWrong : ChangeSpec := { name := "prefixLens", fn := fun _ => fun
  | [d1, d2] => { results := [.lit (.bool false)], args := [d1, d2] }
  | _ => none }
def PrefixLensWrongFalsely : Prop := prefixLensRow.holds Try.pinned (OpenSpec.ofChange prefixLensWrong)

/-- 'kinoralaw7.PrefixApart': WHATEVER THE INPUT: true; the input reads as it did. -/
def prefixApartSpec : ChangeSpec := { name := "prefixApart", fn := fun _ => fun
  | [d] => { results := [.lit (.bool true)], args := [d] }
  | _ => none }
def prefixApartRow : OpenClaim := { program := "ytgjnfajdejkkjaa", sum := "5c37ba0c0e58772c186b998e7d96f69654001d6b47df29e3e69a9c59c80bbf41", func := "kinora/kinoralaw7.PrefixApart", spec := "prefixApart", inPlace := ["internal/reflectlite.ValueOf", "internal/reflectlite.Swapper", "(internal/reflectlite.Value).Len"], unfollowed := true, recurses := true, apart := false }
def PrefixApartSaid : Prop := prefixApartRow.holds Try.pinned (OpenSpec.ofChange prefixApartSpec)

/-- ITS FALSE NEIGHBOUR: 'it returns false'. Refute it at one input. -/
def prefixApartWrong : ChangeSpec := { name := "prefixApart", fn := fun _ => fun
  | [d] => { results := [.lit (.bool false)], args := [d] }
  | _ => none }
def PrefixApartWrongFalsely : Prop := prefixApartRow.holds Try.pinned (OpenSpec.ofChange prefixApartWrong)

/-- 'kinoralaw7.PrefixOften': WHATEVER THE INPUT: true; the input reads as it did. -/
def prefixOftenSpec : ChangeSpec := { name := "prefixOften", fn := fun _ => fun
  | [d1, d2] => { results := [.lit (.bool true)], args := [d1, d2] }
  | _ => none }
def prefixOftenRow : OpenClaim := { program := "ytgjnfajdejkkjaa", sum := "5c37ba0c0e58772c186b998e7d96f69654001d6b47df29e3e69a9c59c80bbf41", func := "kinora/kinoralaw7.PrefixOften", spec := "prefixOften", inPlace := ["internal/reflectlite.ValueOf", "internal/reflectlite.Swapper", "(internal/reflectlite.Value).Len"], unfollowed := true, recurses := true, apart := false }
def PrefixOftenSaid : Prop := prefixOftenRow.holds Try.pinned (OpenSpec.ofChange prefixOftenSpec)

/-- ITS FALSE NEIGHBOUR: 'it returns false'. Refute it at one input. -/
def prefixOftenWrong : ChangeSpec := { name := "prefixOften", fn := fun _ => fun
  | [d1, d2] => { results := [.lit (.bool false)], args := [d1, d2] }
  | _ => none }
def PrefixOftenWrongFalsely : Prop := prefixOftenRow.holds Try.pinned (OpenSpec.ofChange prefixOftenWrong)

/-- 'kinoralaw7.PrefixTells': WHATEVER THE INPUT: true; the input reads as it did. -/
def prefixTellsSpec : ChangeSpec := { name := "prefixTells", fn := fun _ => fun
  | [d1, d2] => { results := [.lit (.bool true)], args := [d1, d2] }
  | _ => none }
def prefixTellsRow : OpenClaim := { program := "ytgjnfajdejkkjaa", sum := "5c37ba0c0e58772c186b998e7d96f69654001d6b47df29e3e69a9c59c80bbf41", func := "kinora/kinoralaw7.PrefixTells", spec := "prefixTells", inPlace := ["internal/reflectlite.ValueOf", "internal/reflectlite.Swapper", "(internal/reflectlite.Value).Len"], unfollowed := true, recurses := true, apart := false }
def PrefixTellsSaid : Prop := prefixTellsRow.holds Try.pinned (OpenSpec.ofChange prefixTellsSpec)

/-- ITS FALSE NEIGHBOUR: 'it returns false'. Refute it at one input. -/
def prefixTellsWrong : ChangeSpec := { name := "prefixTells", fn := fun _ => fun
  | [d1, d2] => { results := [.lit (.bool false)], args := [d1, d2] }
  | _ => none }
def PrefixTellsWrongFalsely : Prop := prefixTellsRow.holds Try.pinned (OpenSpec.ofChange prefixTellsWrong)

/-- 'kinoralaw7.PrefixLeast': WHATEVER THE INPUT: true; the input reads as it did. -/
def prefixLeastSpec : ChangeSpec := { name := "prefixLeast", fn := fun _ => fun
  | [d1, d2, d3] => { results := [.lit (.bool true)], args := [d1, d2, d3] }
  | _ => none }
def prefixLeastRow : OpenClaim := { program := "ytgjnfajdejkkjaa", sum := "5c37ba0c0e58772c186b998e7d96f69654001d6b47df29e3e69a9c59c80bbf41", func := "kinora/kinoralaw7.PrefixLeast", spec := "prefixLeast", inPlace := ["internal/reflectlite.ValueOf", "internal/reflectlite.Swapper", "(internal/reflectlite.Value).Len"], unfollowed := true, recurses := true, apart := false }
def PrefixLeastSaid : Prop := prefixLeastRow.holds Try.pinned (OpenSpec.ofChange prefixLeastSpec)

/-- ITS FALSE NEIGHBOUR: 'it returns false'. Refute it at one input. -/
def prefixLeastWrong : ChangeSpec := { name := "prefixLeast", fn := fun _ => fun
  | [d1, d2, d3] => { results := [.lit (.bool false)], args := [d1, d2, d3] }
  | _ => none }
def PrefixLeastWrongFalsely : Prop := prefixLeastRow.holds Try.pinned (OpenSpec.ofChange prefixLeastWrong)

/-- 'kinoralaw7.PrefixRoom': WHATEVER THE INPUT: true; the input reads as it did. -/
def prefixRoomSpec : ChangeSpec := { name := "prefixRoom", fn := fun _ => fun
  | [d1, d2] => { results := [.lit (.bool true)], args := [d1, d2] }
  | _ => none }
def prefixRoomRow : OpenClaim := { program := "ytgjnfajdejkkjaa", sum := "5c37ba0c0e58772c186b998e7d96f69654001d6b47df29e3e69a9c59c80bbf41", func := "kinora/kinoralaw7.PrefixRoom", spec := "prefixRoom", inPlace := ["internal/reflectlite.ValueOf", "internal/reflectlite.Swapper", "(internal/reflectlite.Value).Len"], unfollowed := true, recurses := true, apart := false }
def PrefixRoomSaid : Prop := prefixRoomRow.holds Try.pinned (OpenSpec.ofChange prefixRoomSpec)

/-- ITS FALSE NEIGHBOUR: 'it returns false'. Refute it at one input. -/
def prefixRoomWrong : ChangeSpec := { name := "prefixRoom", fn := fun _ => fun
  | [d1, d2] => { results := [.lit (.bool false)], args := [d1, d2] }
  | _ => none }
def PrefixRoomWrongFalsely : Prop := prefixRoomRow.holds Try.pinned (OpenSpec.ofChange prefixRoomWrong)

/-- 'kinoralaw7.PrefixGets': WHATEVER THE INPUT: true; the input reads as it did. -/
def prefixGetsSpec : ChangeSpec := { name := "prefixGets", fn := fun _ => fun
  | [d1, d2, d3, d4] => { results := [.lit (.bool true)], args := [d1, d2, d3, d4] }
  | _ => none }
def prefixGetsRow : OpenClaim := { program := "ytgjnfajdejkkjaa", sum := "5c37ba0c0e58772c186b998e7d96f69654001d6b47df29e3e69a9c59c80bbf41", func := "kinora/kinoralaw7.PrefixGets", spec := "prefixGets", inPlace := ["internal/reflectlite.ValueOf", "internal/reflectlite.Swapper", "(internal/reflectlite.Value).Len"], unfollowed := true, recurses := true, apart := false }
def PrefixGetsSaid : Prop := prefixGetsRow.holds Try.pinned (OpenSpec.ofChange prefixGetsSpec)

/-- ITS FALSE NEIGHBOUR: 'it returns false'. Refute it at one input. -/
def prefixGetsWrong : ChangeSpec := { name := "prefixGets", fn := fun _ => fun
  | [d1, d2, d3, d4] => { results := [.lit (.bool false)], args := [d1, d2, d3, d4] }
  | _ => none }
def PrefixGetsWrongFalsely : Prop := prefixGetsRow.holds Try.pinned (OpenSpec.ofChange prefixGetsWrong)

/-- 'kinoralaw7.PrefixBack': WHATEVER THE INPUT: true; the input reads as it did. -/
def prefixBackSpec : ChangeSpec := { name := "prefixBack", fn := fun _ => fun
  | [d1, d2, d3] => { results := [.lit (.bool true)], args := [d1, d2, d3] }
  | _ => none }
def prefixBackRow : OpenClaim := { program := "ytgjnfajdejkkjaa", sum := "5c37ba0c0e58772c186b998e7d96f69654001d6b47df29e3e69a9c59c80bbf41", func := "kinora/kinoralaw7.PrefixBack", spec := "prefixBack", inPlace := ["internal/reflectlite.ValueOf", "internal/reflectlite.Swapper", "(internal/reflectlite.Value).Len"], unfollowed := true, recurses := true, apart := false }
def PrefixBackSaid : Prop := prefixBackRow.holds Try.pinned (OpenSpec.ofChange prefixBackSpec)

/-- ITS FALSE NEIGHBOUR: 'it returns false'. Refute it at one input. -/
def prefixBackWrong : ChangeSpec := { name := "prefixBack", fn := fun _ => fun
  | [d1, d2, d3] => { results := [.lit (.bool false)], args := [d1, d2, d3] }
  | _ => none }
def PrefixBackWrongFalsely : Prop := prefixBackRow.holds Try.pinned (OpenSpec.ofChange prefixBackWrong)

/- THE SECOND FORM. 'bulk': how many values and letters a reading holds, each counted each time it is reached (what is shared counts as often as it is met; a slice's spare places count too). A statement '..UptoSaid' is the law's where the arguments, and the package variables that the reading takes, are together of bulk at most 1048576: NARROWER than '..Said'. Prove '..Said' where nothing that the law and all that it calls make is longer than what came in: it says more and counts as full. Else prove '..UptoSaid'. A law counts once. -/
mutual
def uptoBulk {H : Type} : DataW H → Nat
  | .lit (.string bytes) => bytes.length + 1
  | .lit _ => 1
  | .nil => 1
  | .ptr d => uptoBulk d + 1
  | .slice elems spare => uptoBulkAll elems + uptoBulkAll spare + 1
  | .agg parts => uptoBulkAll parts + 1
  | .iface _ d => uptoBulk d + 1
  | .map entries => uptoBulkEntries entries + 1
  | .held _ => 1
def uptoBulkAll {H : Type} : List (DataW H) → Nat
  | [] => 0
  | d :: r => uptoBulk d + uptoBulkAll r
def uptoBulkEntries {H : Type} : List (Lit × DataW H) → Nat
  | [] => 0
  | x :: r => uptoBulkEntry x + uptoBulkEntries r
def uptoBulkEntry {H : Type} : Lit × DataW H → Nat
  | (.string bytes, d) => bytes.length + uptoBulk d + 1
  | (_, d) => uptoBulk d + 1
 end
def uptoSmall : (H : Type) → List (DataW H) → Bool := fun _ ds => decide (uptoBulkAll ds ≤ 1048576)
def OpenSpec.upto (s : _root_.Go.ChangeSpec) : _root_.Go.OpenSpec := { _root_.Go.OpenSpec.ofChange s with cond := some uptoSmall }

/-- 'kinoralaw7.PrefixLens', WHERE WHAT IT READS IS OF BULK AT MOST 1048576: true; the input reads as it did. -/
def prefixLensUptoRow : OpenClaim := { program := "ytgjnfajdejkkjaa", sum := "5c37ba0c0e58772c186b998e7d96f69654001d6b47df29e3e69a9c59c80bbf41", func := "kinora/kinoralaw7.PrefixLens", spec := "prefixLens", inPlace := ["internal/reflectlite.ValueOf", "internal/reflectlite.Swapper", "(internal/reflectlite.Value).Len"], unfollowed := true, recurses := true, apart := false, narrowed := true }
def PrefixLensUptoSaid : Prop := prefixLensUptoRow.holds Try.pinned (OpenSpec.upto prefixLensSpec)

/-- 'kinoralaw7.PrefixApart', WHERE WHAT IT READS IS OF BULK AT MOST 1048576: true; the input reads as it did. -/
def prefixApartUptoRow : OpenClaim := { program := "ytgjnfajdejkkjaa", sum := "5c37ba0c0e58772c186b998e7d96f69654001d6b47df29e3e69a9c59c80bbf41", func := "kinora/kinoralaw7.PrefixApart", spec := "prefixApart", inPlace := ["internal/reflectlite.ValueOf", "internal/reflectlite.Swapper", "(internal/reflectlite.Value).Len"], unfollowed := true, recurses := true, apart := false, narrowed := true }
def PrefixApartUptoSaid : Prop := prefixApartUptoRow.holds Try.pinned (OpenSpec.upto prefixApartSpec)

/-- 'kinoralaw7.PrefixOften', WHERE WHAT IT READS IS OF BULK AT MOST 1048576: true; the input reads as it did. -/
def prefixOftenUptoRow : OpenClaim := { program := "ytgjnfajdejkkjaa", sum := "5c37ba0c0e58772c186b998e7d96f69654001d6b47df29e3e69a9c59c80bbf41", func := "kinora/kinoralaw7.PrefixOften", spec := "prefixOften", inPlace := ["internal/reflectlite.ValueOf", "internal/reflectlite.Swapper", "(internal/reflectlite.Value).Len"], unfollowed := true, recurses := true, apart := false, narrowed := true }
def PrefixOftenUptoSaid : Prop := prefixOftenUptoRow.holds Try.pinned (OpenSpec.upto prefixOftenSpec)

/-- 'kinoralaw7.PrefixTells', WHERE WHAT IT READS IS OF BULK AT MOST 1048576: true; the input reads as it did. -/
def prefixTellsUptoRow : OpenClaim := { program := "ytgjnfajdejkkjaa", sum := "5c37ba0c0e58772c186b998e7d96f69654001d6b47df29e3e69a9c59c80bbf41", func := "kinora/kinoralaw7.PrefixTells", spec := "prefixTells", inPlace := ["internal/reflectlite.ValueOf", "internal/reflectlite.Swapper", "(internal/reflectlite.Value).Len"], unfollowed := true, recurses := true, apart := false, narrowed := true }
def PrefixTellsUptoSaid : Prop := prefixTellsUptoRow.holds Try.pinned (OpenSpec.upto prefixTellsSpec)

/-- 'kinoralaw7.PrefixLeast', WHERE WHAT IT READS IS OF BULK AT MOST 1048576: true; the input reads as it did. -/
def prefixLeastUptoRow : OpenClaim := { program := "ytgjnfajdejkkjaa", sum := "5c37ba0c0e58772c186b998e7d96f69654001d6b47df29e3e69a9c59c80bbf41", func := "kinora/kinoralaw7.PrefixLeast", spec := "prefixLeast", inPlace := ["internal/reflectlite.ValueOf", "internal/reflectlite.Swapper", "(internal/reflectlite.Value).Len"], unfollowed := true, recurses := true, apart := false, narrowed := true }
def PrefixLeastUptoSaid : Prop := prefixLeastUptoRow.holds Try.pinned (OpenSpec.upto prefixLeastSpec)

/-- 'kinoralaw7.PrefixRoom', WHERE WHAT IT READS IS OF BULK AT MOST 1048576: true; the input reads as it did. -/
def prefixRoomUptoRow : OpenClaim := { program := "ytgjnfajdejkkjaa", sum := "5c37ba0c0e58772c186b998e7d96f69654001d6b47df29e3e69a9c59c80bbf41", func := "kinora/kinoralaw7.PrefixRoom", spec := "prefixRoom", inPlace := ["internal/reflectlite.ValueOf", "internal/reflectlite.Swapper", "(internal/reflectlite.Value).Len"], unfollowed := true, recurses := true, apart := false, narrowed := true }
def PrefixRoomUptoSaid : Prop := prefixRoomUptoRow.holds Try.pinned (OpenSpec.upto prefixRoomSpec)

/-- 'kinoralaw7.PrefixGets', WHERE WHAT IT READS IS OF BULK AT MOST 1048576: true; the input reads as it did. -/
def prefixGetsUptoRow : OpenClaim := { program := "ytgjnfajdejkkjaa", sum := "5c37ba0c0e58772c186b998e7d96f69654001d6b47df29e3e69a9c59c80bbf41", func := "kinora/kinoralaw7.PrefixGets", spec := "prefixGets", inPlace := ["internal/reflectlite.ValueOf", "internal/reflectlite.Swapper", "(internal/reflectlite.Value).Len"], unfollowed := true, recurses := true, apart := false, narrowed := true }
def PrefixGetsUptoSaid : Prop := prefixGetsUptoRow.holds Try.pinned (OpenSpec.upto prefixGetsSpec)

/-- 'kinoralaw7.PrefixBack', WHERE WHAT IT READS IS OF BULK AT MOST 1048576: true; the input reads as it did. -/
def prefixBackUptoRow : OpenClaim := { program := "ytgjnfajdejkkjaa", sum := "5c37ba0c0e58772c186b998e7d96f69654001d6b47df29e3e69a9c59c80bbf41", func := "kinora/kinoralaw7.PrefixBack", spec := "prefixBack", inPlace := ["internal/reflectlite.ValueOf", "internal/reflectlite.Swapper", "(internal/reflectlite.Value).Len"], unfollowed := true, recurses := true, apart := false, narrowed := true }
def PrefixBackUptoSaid : Prop := prefixBackUptoRow.holds Try.pinned (OpenSpec.upto prefixBackSpec)

end Rows
end Go.Proofs.Ytgjnfajdejkkjaa
