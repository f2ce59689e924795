/-
  DERIVED. GIVEN WITH THE SEED: THE CARDS: each row of YtpapnkphlmickaaDoorRows.lean that lists a variable, with what it lists TIED to the program's text (the seventh form; the later family's looks); each row that meets fmt, with fmt's text TOLD by the authors' own Lean function (tested against real Go, not proved from fmt's source: count such statements apart). THE CARD IS WHAT COUNTS. Prove the row's statement (the work); the ties are given (YtpapnkphlmickaaDoorTie.lean); close each card by the builder's one call (the guide's Derived/Test/ToyasCard.lean, 'card_holds'). Laid BY PROGRAM, IN A SANDBOX (cutbox-door.mjs). By AI agents, Wed Nov 11 2026. No macro, syntax, notation, axiom, sorry.
-/
import Derived.Test.YtpapnkphlmickaaDoorRows
import GoSem.ClaimSeven
namespace Go.Proofs.YtpapnkphlmickaaDoor
namespace Rows

/-- THE TIED CARD OF 'agoralaw.MatchSays'. -/
def matchSaysCard : Claim7 := { stood := { row := matchSaysRow, standIns := [], harness := (true, "cbbcdee7b65efcecbae5ac253447ef3b1fede8deb6838a02cef731fabb32b924"), looks := false }, kinds := [], alts := [], laidByText := true, laidKinds := [.data, .pinned], laidTests := true, laidLooks := .later }
def MatchSaysCardSaid : Prop := Claim7.holds Tryd.pinned (.plain (OpenSpec.ofChange matchSaysSpec)) matchSaysCard

/-- THE TIED CARD OF 'agoralaw.MatchFinds'. -/
def matchFindsCard : Claim7 := { stood := { row := matchFindsRow, standIns := [], harness := (true, "cbbcdee7b65efcecbae5ac253447ef3b1fede8deb6838a02cef731fabb32b924"), looks := false }, kinds := [], alts := [], laidByText := true, laidKinds := [.data, .pinned], laidTests := true, laidLooks := .later }
def MatchFindsCardSaid : Prop := Claim7.holds Tryd.pinned (.plain (OpenSpec.ofChange matchFindsSpec)) matchFindsCard

/-- THE TIED CARD OF 'agoralaw.MatchMade'. -/
def matchMadeCard : Claim7 := { stood := { row := matchMadeRow, standIns := [], harness := (true, "cbbcdee7b65efcecbae5ac253447ef3b1fede8deb6838a02cef731fabb32b924"), looks := false }, kinds := [], alts := [], laidByText := true, laidKinds := [.data, .pinned], laidTests := true, laidLooks := .later }
def MatchMadeCardSaid : Prop := Claim7.holds Tryd.pinned (.plain (OpenSpec.ofChange matchMadeSpec)) matchMadeCard

/-- THE TIED CARD OF 'agoratop.TopHonest'. -/
def topHonestCard : Claim7 := { stood := { row := topHonestRow, standIns := [], harness := (true, "cbbcdee7b65efcecbae5ac253447ef3b1fede8deb6838a02cef731fabb32b924"), looks := false }, kinds := [], alts := [], laidByText := true, laidKinds := [.data, .pinned], laidTests := true, laidLooks := .later }
def TopHonestCardSaid : Prop := Claim7.holds Tryd.pinned (.plain (OpenSpec.ofChange topHonestSpec)) topHonestCard

/-- THE TIED CARD OF 'agoratop.TopLattice'. -/
def topLatticeCard : Claim7 := { stood := { row := topLatticeRow, standIns := [], harness := (true, "cbbcdee7b65efcecbae5ac253447ef3b1fede8deb6838a02cef731fabb32b924"), looks := false }, kinds := [], alts := [], laidByText := true, laidKinds := [.data, .pinned], laidTests := true, laidLooks := .later }
def TopLatticeCardSaid : Prop := Claim7.holds Tryd.pinned (.plain (OpenSpec.ofChange topLatticeSpec)) topLatticeCard

/-- THE TIED CARD OF 'agoratop.TopStable'. -/
def topStableCard : Claim7 := { stood := { row := topStableRow, standIns := [], harness := (true, "cbbcdee7b65efcecbae5ac253447ef3b1fede8deb6838a02cef731fabb32b924"), looks := false }, kinds := [], alts := [], laidByText := true, laidKinds := [.data, .pinned], laidTests := true, laidLooks := .later }
def TopStableCardSaid : Prop := Claim7.holds Tryd.pinned (.plain (OpenSpec.ofChange topStableSpec)) topStableCard

/-- THE TIED CARD OF 'agoratop.TopRural'. -/
def topRuralCard : Claim7 := { stood := { row := topRuralRow, standIns := [], harness := (true, "cbbcdee7b65efcecbae5ac253447ef3b1fede8deb6838a02cef731fabb32b924"), looks := false }, kinds := [], alts := [], laidByText := true, laidKinds := [.data, .pinned], laidTests := true, laidLooks := .later }
def TopRuralCardSaid : Prop := Claim7.holds Tryd.pinned (.plain (OpenSpec.ofChange topRuralSpec)) topRuralCard

/-- THE SECOND FORM's CARD OF 'agoralaw.MatchSays'. -/
def matchSaysUptoCard : Claim7 := { stood := { row := matchSaysUptoRow, standIns := [], harness := (true, "cbbcdee7b65efcecbae5ac253447ef3b1fede8deb6838a02cef731fabb32b924"), looks := false }, kinds := [], alts := [], laidByText := true, laidKinds := [.data, .pinned], laidTests := true, laidLooks := .later }
def MatchSaysUptoCardSaid : Prop := Claim7.holds Tryd.pinned (.plain (OpenSpec.upto matchSaysSpec)) matchSaysUptoCard

/-- THE SECOND FORM's CARD OF 'agoralaw.MatchFinds'. -/
def matchFindsUptoCard : Claim7 := { stood := { row := matchFindsUptoRow, standIns := [], harness := (true, "cbbcdee7b65efcecbae5ac253447ef3b1fede8deb6838a02cef731fabb32b924"), looks := false }, kinds := [], alts := [], laidByText := true, laidKinds := [.data, .pinned], laidTests := true, laidLooks := .later }
def MatchFindsUptoCardSaid : Prop := Claim7.holds Tryd.pinned (.plain (OpenSpec.upto matchFindsSpec)) matchFindsUptoCard

/-- THE SECOND FORM's CARD OF 'agoralaw.MatchMade'. -/
def matchMadeUptoCard : Claim7 := { stood := { row := matchMadeUptoRow, standIns := [], harness := (true, "cbbcdee7b65efcecbae5ac253447ef3b1fede8deb6838a02cef731fabb32b924"), looks := false }, kinds := [], alts := [], laidByText := true, laidKinds := [.data, .pinned], laidTests := true, laidLooks := .later }
def MatchMadeUptoCardSaid : Prop := Claim7.holds Tryd.pinned (.plain (OpenSpec.upto matchMadeSpec)) matchMadeUptoCard

/-- THE SECOND FORM's CARD OF 'agoratop.TopHonest'. -/
def topHonestUptoCard : Claim7 := { stood := { row := topHonestUptoRow, standIns := [], harness := (true, "cbbcdee7b65efcecbae5ac253447ef3b1fede8deb6838a02cef731fabb32b924"), looks := false }, kinds := [], alts := [], laidByText := true, laidKinds := [.data, .pinned], laidTests := true, laidLooks := .later }
def TopHonestUptoCardSaid : Prop := Claim7.holds Tryd.pinned (.plain (OpenSpec.upto topHonestSpec)) topHonestUptoCard

/-- THE SECOND FORM's CARD OF 'agoratop.TopLattice'. -/
def topLatticeUptoCard : Claim7 := { stood := { row := topLatticeUptoRow, standIns := [], harness := (true, "cbbcdee7b65efcecbae5ac253447ef3b1fede8deb6838a02cef731fabb32b924"), looks := false }, kinds := [], alts := [], laidByText := true, laidKinds := [.data, .pinned], laidTests := true, laidLooks := .later }
def TopLatticeUptoCardSaid : Prop := Claim7.holds Tryd.pinned (.plain (OpenSpec.upto topLatticeSpec)) topLatticeUptoCard

/-- THE SECOND FORM's CARD OF 'agoratop.TopStable'. -/
def topStableUptoCard : Claim7 := { stood := { row := topStableUptoRow, standIns := [], harness := (true, "cbbcdee7b65efcecbae5ac253447ef3b1fede8deb6838a02cef731fabb32b924"), looks := false }, kinds := [], alts := [], laidByText := true, laidKinds := [.data, .pinned], laidTests := true, laidLooks := .later }
def TopStableUptoCardSaid : Prop := Claim7.holds Tryd.pinned (.plain (OpenSpec.upto topStableSpec)) topStableUptoCard

/-- THE SECOND FORM's CARD OF 'agoratop.TopRural'. -/
def topRuralUptoCard : Claim7 := { stood := { row := topRuralUptoRow, standIns := [], harness := (true, "cbbcdee7b65efcecbae5ac253447ef3b1fede8deb6838a02cef731fabb32b924"), looks := false }, kinds := [], alts := [], laidByText := true, laidKinds := [.data, .pinned], laidTests := true, laidLooks := .later }
def TopRuralUptoCardSaid : Prop := Claim7.holds Tryd.pinned (.plain (OpenSpec.upto topRuralSpec)) topRuralUptoCard
end Rows
end Go.Proofs.YtpapnkphlmickaaDoor
