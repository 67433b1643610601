/-
  DERIVED. GIVEN WITH THE SEED: THE CARDS: each row of YtfanamibkgkaiaaDoorRows.lean that lists a variable, with what it lists TIED to the program's text (the seventh form; the later family's looks); each row that meets fmt, with fmt's text TOLD by the authors' own Lean function (tested against real Go, not proved from fmt's source: count such statements apart). THE CARD IS WHAT COUNTS. Prove the row's statement (the work); the ties are given (YtfanamibkgkaiaaDoorTie.lean); close each card by the builder's one call (the guide's Derived/Test/ToyasCard.lean, 'card_holds'). Laid BY PROGRAM, IN A SANDBOX (cutbox-door.mjs). By AI agents, Wed Nov 11 2026. No macro, syntax, notation, axiom, sorry.
-/
import Derived.Test.YtfanamibkgkaiaaDoorRows
import GoSem.ClaimSeven
namespace Go.Proofs.YtfanamibkgkaiaaDoor
namespace Rows

/-- THE TIED CARD OF 'kinoralaw25.MatchTells'. -/
def matchTellsCard : Claim7 := { stood := { row := matchTellsRow, standIns := [], harness := (true, "5d47a23b835a6d35a7b5d12f1fe59ad4a3e63e5b561e4dbc2c2e331a187fbd8f"), looks := false }, kinds := [], alts := [], laidByText := true, laidKinds := [.data], laidTests := true, laidLooks := .later }
def MatchTellsCardSaid : Prop := Claim7.holds Tryd.pinned (.plain (OpenSpec.ofChange matchTellsSpec)) matchTellsCard

/-- THE TIED CARD OF 'kinoralaw25.MatchFinds'. -/
def matchFindsCard : Claim7 := { stood := { row := matchFindsRow, standIns := [], harness := (true, "5d47a23b835a6d35a7b5d12f1fe59ad4a3e63e5b561e4dbc2c2e331a187fbd8f"), looks := false }, kinds := [], alts := [], laidByText := true, laidKinds := [.data], laidTests := true, laidLooks := .later }
def MatchFindsCardSaid : Prop := Claim7.holds Tryd.pinned (.plain (OpenSpec.ofChange matchFindsSpec)) matchFindsCard

/-- THE TIED CARD OF 'kinoralaw25.MatchBack'. -/
def matchBackCard : Claim7 := { stood := { row := matchBackRow, standIns := [], harness := (true, "5d47a23b835a6d35a7b5d12f1fe59ad4a3e63e5b561e4dbc2c2e331a187fbd8f"), looks := false }, kinds := [], alts := [], laidByText := true, laidKinds := [.data], laidTests := true, laidLooks := .later }
def MatchBackCardSaid : Prop := Claim7.holds Tryd.pinned (.plain (OpenSpec.ofChange matchBackSpec)) matchBackCard

/-- THE TIED CARD OF 'kinoralaw25.MatchLeast'. -/
def matchLeastCard : Claim7 := { stood := { row := matchLeastRow, standIns := [], harness := (true, "5d47a23b835a6d35a7b5d12f1fe59ad4a3e63e5b561e4dbc2c2e331a187fbd8f"), looks := false }, kinds := [], alts := [], laidByText := true, laidKinds := [.data], laidTests := true, laidLooks := .later }
def MatchLeastCardSaid : Prop := Claim7.holds Tryd.pinned (.plain (OpenSpec.ofChange matchLeastSpec)) matchLeastCard

/-- THE SECOND FORM's CARD OF 'kinoralaw25.MatchTells'. -/
def matchTellsUptoCard : Claim7 := { stood := { row := matchTellsUptoRow, standIns := [], harness := (true, "5d47a23b835a6d35a7b5d12f1fe59ad4a3e63e5b561e4dbc2c2e331a187fbd8f"), looks := false }, kinds := [], alts := [], laidByText := true, laidKinds := [.data], laidTests := true, laidLooks := .later }
def MatchTellsUptoCardSaid : Prop := Claim7.holds Tryd.pinned (.plain (OpenSpec.upto matchTellsSpec)) matchTellsUptoCard

/-- THE SECOND FORM's CARD OF 'kinoralaw25.MatchFinds'. -/
def matchFindsUptoCard : Claim7 := { stood := { row := matchFindsUptoRow, standIns := [], harness := (true, "5d47a23b835a6d35a7b5d12f1fe59ad4a3e63e5b561e4dbc2c2e331a187fbd8f"), looks := false }, kinds := [], alts := [], laidByText := true, laidKinds := [.data], laidTests := true, laidLooks := .later }
def MatchFindsUptoCardSaid : Prop := Claim7.holds Tryd.pinned (.plain (OpenSpec.upto matchFindsSpec)) matchFindsUptoCard

/-- THE SECOND FORM's CARD OF 'kinoralaw25.MatchBack'. -/
def matchBackUptoCard : Claim7 := { stood := { row := matchBackUptoRow, standIns := [], harness := (true, "5d47a23b835a6d35a7b5d12f1fe59ad4a3e63e5b561e4dbc2c2e331a187fbd8f"), looks := false }, kinds := [], alts := [], laidByText := true, laidKinds := [.data], laidTests := true, laidLooks := .later }
def MatchBackUptoCardSaid : Prop := Claim7.holds Tryd.pinned (.plain (OpenSpec.upto matchBackSpec)) matchBackUptoCard

/-- THE SECOND FORM's CARD OF 'kinoralaw25.MatchLeast'. -/
def matchLeastUptoCard : Claim7 := { stood := { row := matchLeastUptoRow, standIns := [], harness := (true, "5d47a23b835a6d35a7b5d12f1fe59ad4a3e63e5b561e4dbc2c2e331a187fbd8f"), looks := false }, kinds := [], alts := [], laidByText := true, laidKinds := [.data], laidTests := true, laidLooks := .later }
def MatchLeastUptoCardSaid : Prop := Claim7.holds Tryd.pinned (.plain (OpenSpec.upto matchLeastSpec)) matchLeastUptoCard
end Rows
end Go.Proofs.YtfanamibkgkaiaaDoor
