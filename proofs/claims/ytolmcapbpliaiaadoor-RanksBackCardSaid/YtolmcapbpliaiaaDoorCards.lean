/-
  DERIVED. GIVEN WITH THE SEED: THE CARDS: each row of YtolmcapbpliaiaaDoorRows.lean that lists a variable, with what it lists TIED to the program's text (the seventh form; the later family's looks); each row that meets fmt, with fmt's text TOLD by the authors' own Lean function (tested against real Go, not proved from fmt's source: count such statements apart). THE CARD IS WHAT COUNTS. Prove the row's statement (the work); the ties are given (YtolmcapbpliaiaaDoorTie.lean); close each card by the builder's one call (the guide's Derived/Test/ToyasCard.lean, 'card_holds'). Laid BY PROGRAM, IN A SANDBOX (cutbox-door.mjs). By AI agents, Wed Nov 11 2026. No macro, syntax, notation, axiom, sorry.
-/
import Derived.Test.YtolmcapbpliaiaaDoorRows
import GoSem.ClaimSeven
namespace Go.Proofs.YtolmcapbpliaiaaDoor
namespace Rows

/-- THE TIED CARD OF 'agoralaw.RanksSays'. -/
def ranksSaysCard : Claim7 := { stood := { row := ranksSaysRow, standIns := [], harness := (true, "f51d71335585c06523780370731c10692345a4cf57877a48af6b57afd731ae11"), looks := true }, kinds := [], alts := [], laidByText := true, laidKinds := [.data, .data, .data, .data, .pinned], laidTests := true, laidLooks := .later }
def RanksSaysCardSaid : Prop := Claim7.holds Tryd.pinned (.plain (OpenSpec.ofChange ranksSaysSpec)) ranksSaysCard

/-- THE TIED CARD OF 'agoralaw.RanksParses'. -/
def ranksParsesCard : Claim7 := { stood := { row := ranksParsesRow, standIns := [], harness := (true, "f51d71335585c06523780370731c10692345a4cf57877a48af6b57afd731ae11"), looks := true }, kinds := [], alts := [], laidByText := true, laidKinds := [.data, .data, .data, .data, .sentinel, .sentinel, .pinned], laidTests := true, laidLooks := .later }
def RanksParsesCardSaid : Prop := Claim7.holds Tryd.pinned (.plain (OpenSpec.ofChange ranksParsesSpec)) ranksParsesCard

/-- THE TIED CARD OF 'agoralaw.RanksBack'. -/
def ranksBackCard : Claim7 := { stood := { row := ranksBackRow, standIns := [], harness := (true, "f51d71335585c06523780370731c10692345a4cf57877a48af6b57afd731ae11"), looks := true }, kinds := [], alts := [], laidByText := true, laidKinds := [.data, .data, .data, .data, .sentinel, .sentinel, .pinned], laidTests := true, laidLooks := .later }
def RanksBackCardSaid : Prop := Claim7.holds Tryd.pinned (.plain (OpenSpec.ofChange ranksBackSpec)) ranksBackCard

/-- THE SECOND FORM's CARD OF 'agoralaw.RanksSays'. -/
def ranksSaysUptoCard : Claim7 := { stood := { row := ranksSaysUptoRow, standIns := [], harness := (true, "f51d71335585c06523780370731c10692345a4cf57877a48af6b57afd731ae11"), looks := true }, kinds := [], alts := [], laidByText := true, laidKinds := [.data, .data, .data, .data, .pinned], laidTests := true, laidLooks := .later }
def RanksSaysUptoCardSaid : Prop := Claim7.holds Tryd.pinned (.plain (OpenSpec.upto ranksSaysSpec)) ranksSaysUptoCard

/-- THE SECOND FORM's CARD OF 'agoralaw.RanksParses'. -/
def ranksParsesUptoCard : Claim7 := { stood := { row := ranksParsesUptoRow, standIns := [], harness := (true, "f51d71335585c06523780370731c10692345a4cf57877a48af6b57afd731ae11"), looks := true }, kinds := [], alts := [], laidByText := true, laidKinds := [.data, .data, .data, .data, .sentinel, .sentinel, .pinned], laidTests := true, laidLooks := .later }
def RanksParsesUptoCardSaid : Prop := Claim7.holds Tryd.pinned (.plain (OpenSpec.upto ranksParsesSpec)) ranksParsesUptoCard

/-- THE SECOND FORM's CARD OF 'agoralaw.RanksBack'. -/
def ranksBackUptoCard : Claim7 := { stood := { row := ranksBackUptoRow, standIns := [], harness := (true, "f51d71335585c06523780370731c10692345a4cf57877a48af6b57afd731ae11"), looks := true }, kinds := [], alts := [], laidByText := true, laidKinds := [.data, .data, .data, .data, .sentinel, .sentinel, .pinned], laidTests := true, laidLooks := .later }
def RanksBackUptoCardSaid : Prop := Claim7.holds Tryd.pinned (.plain (OpenSpec.upto ranksBackSpec)) ranksBackUptoCard
end Rows
end Go.Proofs.YtolmcapbpliaiaaDoor
