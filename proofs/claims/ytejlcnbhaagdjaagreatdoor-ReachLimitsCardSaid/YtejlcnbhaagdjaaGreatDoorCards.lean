/-
  DERIVED. GIVEN WITH THE SEED: THE CARDS: each row of YtejlcnbhaagdjaaGreatDoorRows.lean that lists a variable, with what it lists TIED to the program's text (the seventh form; the later family's looks); each row that meets fmt, with fmt's text TOLD by the authors' own Lean function (tested against real Go, not proved from fmt's source: count such statements apart). THE CARD IS WHAT COUNTS. Prove the row's statement (the work); the ties are given (YtejlcnbhaagdjaaGreatDoorTie.lean); close each card by the builder's one call (the guide's Derived/Test/ToyasCard.lean, 'card_holds'). Laid BY PROGRAM, IN A SANDBOX (cutbox-door.mjs). By AI agents, Wed Nov 11 2026. No macro, syntax, notation, axiom, sorry.
-/
import Derived.Test.YtejlcnbhaagdjaaGreatDoorRows
import GoSem.ClaimSeven
namespace Go.Proofs.YtejlcnbhaagdjaaGreatDoor
namespace Rows

/-- THE TIED CARD OF 'trovelaw23.ReachGrows'. -/
def reachGrowsCard : Claim7 := { stood := { row := reachGrowsRow, standIns := [], harness := (true, "70884ab8eb03f2bddec3dc26b71038d4d6b24c58313dfa6488670f4bc366c338"), looks := false }, kinds := [], alts := [], laidByText := true, laidKinds := [.data, .data, .data], laidTests := true, laidLooks := .later }
def ReachGrowsCardSaid : Prop := Claim7.holds Tryz.pinned (.plain (OpenSpec.ofChange reachGrowsSpec)) reachGrowsCard

/-- THE TIED CARD OF 'trovelaw23.ReachRanks'. -/
def reachRanksCard : Claim7 := { stood := { row := reachRanksRow, standIns := [], harness := (true, "70884ab8eb03f2bddec3dc26b71038d4d6b24c58313dfa6488670f4bc366c338"), looks := false }, kinds := [], alts := [], laidByText := true, laidKinds := [.data, .data, .data], laidTests := true, laidLooks := .later }
def ReachRanksCardSaid : Prop := Claim7.holds Tryz.pinned (.plain (OpenSpec.ofChange reachRanksSpec)) reachRanksCard

/-- THE TIED CARD OF 'trovelaw23.ReachSplits'. -/
def reachSplitsCard : Claim7 := { stood := { row := reachSplitsRow, standIns := [], harness := (true, "70884ab8eb03f2bddec3dc26b71038d4d6b24c58313dfa6488670f4bc366c338"), looks := false }, kinds := [], alts := [], laidByText := true, laidKinds := [.data, .data, .data], laidTests := true, laidLooks := .later }
def ReachSplitsCardSaid : Prop := Claim7.holds Tryz.pinned (.plain (OpenSpec.ofChange reachSplitsSpec)) reachSplitsCard

/-- THE TIED CARD OF 'trovelaw23.ReachLimits'. -/
def reachLimitsCard : Claim7 := { stood := { row := reachLimitsRow, standIns := [], harness := (true, "70884ab8eb03f2bddec3dc26b71038d4d6b24c58313dfa6488670f4bc366c338"), looks := false }, kinds := [], alts := [], laidByText := true, laidKinds := [.data, .data, .data], laidTests := true, laidLooks := .later }
def ReachLimitsCardSaid : Prop := Claim7.holds Tryz.pinned (.plain (OpenSpec.ofChange reachLimitsSpec)) reachLimitsCard

/-- THE TIED CARD OF 'trovelaw23.ReachMaps'. -/
def reachMapsCard : Claim7 := { stood := { row := reachMapsRow, standIns := [], harness := (true, "70884ab8eb03f2bddec3dc26b71038d4d6b24c58313dfa6488670f4bc366c338"), looks := false }, kinds := [], alts := [], laidByText := true, laidKinds := [.data, .data, .data, .data, .pinned], laidTests := true, laidLooks := .later }
def ReachMapsCardSaid : Prop := Claim7.holds Tryz.pinned (.plain (OpenSpec.ofChange reachMapsSpec)) reachMapsCard

/-- THE SECOND FORM's CARD OF 'trovelaw23.ReachGrows'. -/
def reachGrowsUptoCard : Claim7 := { stood := { row := reachGrowsUptoRow, standIns := [], harness := (true, "70884ab8eb03f2bddec3dc26b71038d4d6b24c58313dfa6488670f4bc366c338"), looks := false }, kinds := [], alts := [], laidByText := true, laidKinds := [.data, .data, .data], laidTests := true, laidLooks := .later }
def ReachGrowsUptoCardSaid : Prop := Claim7.holds Tryz.pinned (.plain (OpenSpec.upto reachGrowsSpec)) reachGrowsUptoCard

/-- THE SECOND FORM's CARD OF 'trovelaw23.ReachRanks'. -/
def reachRanksUptoCard : Claim7 := { stood := { row := reachRanksUptoRow, standIns := [], harness := (true, "70884ab8eb03f2bddec3dc26b71038d4d6b24c58313dfa6488670f4bc366c338"), looks := false }, kinds := [], alts := [], laidByText := true, laidKinds := [.data, .data, .data], laidTests := true, laidLooks := .later }
def ReachRanksUptoCardSaid : Prop := Claim7.holds Tryz.pinned (.plain (OpenSpec.upto reachRanksSpec)) reachRanksUptoCard

/-- THE SECOND FORM's CARD OF 'trovelaw23.ReachSplits'. -/
def reachSplitsUptoCard : Claim7 := { stood := { row := reachSplitsUptoRow, standIns := [], harness := (true, "70884ab8eb03f2bddec3dc26b71038d4d6b24c58313dfa6488670f4bc366c338"), looks := false }, kinds := [], alts := [], laidByText := true, laidKinds := [.data, .data, .data], laidTests := true, laidLooks := .later }
def ReachSplitsUptoCardSaid : Prop := Claim7.holds Tryz.pinned (.plain (OpenSpec.upto reachSplitsSpec)) reachSplitsUptoCard

/-- THE SECOND FORM's CARD OF 'trovelaw23.ReachLimits'. -/
def reachLimitsUptoCard : Claim7 := { stood := { row := reachLimitsUptoRow, standIns := [], harness := (true, "70884ab8eb03f2bddec3dc26b71038d4d6b24c58313dfa6488670f4bc366c338"), looks := false }, kinds := [], alts := [], laidByText := true, laidKinds := [.data, .data, .data], laidTests := true, laidLooks := .later }
def ReachLimitsUptoCardSaid : Prop := Claim7.holds Tryz.pinned (.plain (OpenSpec.upto reachLimitsSpec)) reachLimitsUptoCard

/-- THE SECOND FORM's CARD OF 'trovelaw23.ReachMaps'. -/
def reachMapsUptoCard : Claim7 := { stood := { row := reachMapsUptoRow, standIns := [], harness := (true, "70884ab8eb03f2bddec3dc26b71038d4d6b24c58313dfa6488670f4bc366c338"), looks := false }, kinds := [], alts := [], laidByText := true, laidKinds := [.data, .data, .data, .data, .pinned], laidTests := true, laidLooks := .later }
def ReachMapsUptoCardSaid : Prop := Claim7.holds Tryz.pinned (.plain (OpenSpec.upto reachMapsSpec)) reachMapsUptoCard
end Rows
end Go.Proofs.YtejlcnbhaagdjaaGreatDoor
