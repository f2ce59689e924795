/-
  No cell of these rows narrows 'for every input' (looked for: loops, veiled, ifaces, maps, wideKeys, modest, calm, conditions, laid).
  DERIVED. THE GIVEN ROWS OF THIS SEAT. 6 by the template 'for every input the law returns true; each argument reads behind the call as it read before'; 0 by the template 'total and deterministic' (their statements: YtdllochcdcgaeaaTotals.lean).
  GIVEN WITH THE SEED: the statements are not yours to turn. If you find one false, say at which input.
  Laid BY PROGRAM, IN A SANDBOX (cutbox-rows.mjs): the forced cells as the released guide's own fill.sh prints them over the translation d56340b359765514… (all of the seat's roots in one cut). By AI agents, Wed Nov 11 2026. No macro, syntax, notation, axiom, sorry.
-/
import Derived.Test.YtdllochcdcgaeaaChecked
import GoSem.Claim
import GoSem.ClaimJoined
import GoSem.ClaimMapViews
import Derived.JoinedTies
import Derived.KernelRfl
namespace Go.Proofs.Ytdllochcdcgaeaa
/- THE CELL 'sum', in the pinned program and in every row, IS THE sha256 OF THE DUMP (.gsa) THAT YtdllochcdcgaeaaProg.lean LOADS. Nothing in Lean hashes anything: it is a label: what it is worth is what the hold of that sum in a sandbox is worth. -/
noncomputable def Try.pinned : Pinned := { name := "ytdllochcdcgaeaa", sum := "d56340b35976551454e4bfef688a7b64923a210c19208665ad39ee2695cbd46d", checked := Try.checked }
namespace Rows
def none {H : Type} : Left H := { results := [], args := [] }

/-- 'agoralaw.Names': WHATEVER THE INPUT: true; the input reads as it did. -/
def namesSpec : ChangeSpec := { name := "names", fn := fun _ => fun
  | [] => { results := [.lit (.bool true)], args := [] }
  | _ => none }
def namesRow : OpenClaim := { program := "ytdllochcdcgaeaa", sum := "d56340b35976551454e4bfef688a7b64923a210c19208665ad39ee2695cbd46d", func := "agora/agoralaw.Names", spec := "names", apart := false }
def NamesSaid : Prop := namesRow.holds Try.pinned (OpenSpec.ofChange namesSpec)

/-- ITS FALSE NEIGHBOUR: 'it returns false'. Refute it at one input. -/
def namesWrong : ChangeSpec := { name := "names", fn := fun _ => fun
  | [] => { results := [.lit (.bool false)], args := [] }
  | _ => none }
def NamesWrongFalsely : Prop := namesRow.holds Try.pinned (OpenSpec.ofChange namesWrong)

/-- 'agoralaw.AuctionShares': WHATEVER THE INPUT: true; the input reads as it did. -/
def auctionSharesSpec : ChangeSpec := { name := "auctionShares", fn := fun _ => fun
  | [d] => { results := [.lit (.bool true)], args := [d] }
  | _ => none }
def auctionSharesRow : OpenClaim := { program := "ytdllochcdcgaeaa", sum := "d56340b35976551454e4bfef688a7b64923a210c19208665ad39ee2695cbd46d", func := "agora/agoralaw.AuctionShares", spec := "auctionShares", recurses := true, apart := false }
def AuctionSharesSaid : Prop := auctionSharesRow.holds Try.pinned (OpenSpec.ofChange auctionSharesSpec)

/-- ITS FALSE NEIGHBOUR: 'it returns false'. Refute it at one input. -/
def auctionSharesWrong : ChangeSpec := { name := "auctionShares", fn := fun _ => fun
  | [d] => { results := [.lit (.bool false)], args := [d] }
  | _ => none }
def AuctionSharesWrongFalsely : Prop := auctionSharesRow.holds Try.pinned (OpenSpec.ofChange auctionSharesWrong)

/-- 'agoralaw.AuctionMade': WHATEVER THE INPUT: true; the input reads as it did. -/
def auctionMadeSpec : ChangeSpec := { name := "auctionMade", fn := fun _ => fun
  | [d1, d2, d3] => { results := [.lit (.bool true)], args := [d1, d2, d3] }
  | _ => none }
def auctionMadeRow : OpenClaim := { program := "ytdllochcdcgaeaa", sum := "d56340b35976551454e4bfef688a7b64923a210c19208665ad39ee2695cbd46d", func := "agora/agoralaw.AuctionMade", spec := "auctionMade", recurses := true, apart := false }
def AuctionMadeSaid : Prop := auctionMadeRow.holds Try.pinned (OpenSpec.ofChange auctionMadeSpec)

/-- ITS FALSE NEIGHBOUR: 'it returns false'. Refute it at one input. -/
def auctionMadeWrong : ChangeSpec := { name := "auctionMade", fn := fun _ => fun
  | [d1, d2, d3] => { results := [.lit (.bool false)], args := [d1, d2, d3] }
  | _ => none }
def AuctionMadeWrongFalsely : Prop := auctionMadeRow.holds Try.pinned (OpenSpec.ofChange auctionMadeWrong)

/-- 'agoralaw.AuctionSays': WHATEVER THE INPUT: true; the input reads as it did. -/
def auctionSaysSpec : ChangeSpec := { name := "auctionSays", fn := fun _ => fun
  | [d1, d2] => { results := [.lit (.bool true)], args := [d1, d2] }
  | _ => none }
def auctionSaysRow : OpenClaim := { program := "ytdllochcdcgaeaa", sum := "d56340b35976551454e4bfef688a7b64923a210c19208665ad39ee2695cbd46d", func := "agora/agoralaw.AuctionSays", spec := "auctionSays", apart := false }
def AuctionSaysSaid : Prop := auctionSaysRow.holds Try.pinned (OpenSpec.ofChange auctionSaysSpec)

/-- ITS FALSE NEIGHBOUR: 'it returns false'. Refute it at one input. -/
def auctionSaysWrong : ChangeSpec := { name := "auctionSays", fn := fun _ => fun
  | [d1, d2] => { results := [.lit (.bool false)], args := [d1, d2] }
  | _ => none }
def AuctionSaysWrongFalsely : Prop := auctionSaysRow.holds Try.pinned (OpenSpec.ofChange auctionSaysWrong)

/-- 'agoratop.TopSale': WHATEVER THE INPUT: true; the input reads as it did. -/
def topSaleSpec : ChangeSpec := { name := "topSale", fn := fun _ => fun
  | [d1, d2, d3, d4, d5] => { results := [.lit (.bool true)], args := [d1, d2, d3, d4, d5] }
  | _ => none }
def topSaleRow : OpenClaim := { program := "ytdllochcdcgaeaa", sum := "d56340b35976551454e4bfef688a7b64923a210c19208665ad39ee2695cbd46d", func := "agora/agoratop.TopSale", spec := "topSale", recurses := true, apart := false }
def TopSaleSaid : Prop := topSaleRow.holds Try.pinned (OpenSpec.ofChange topSaleSpec)

/-- ITS FALSE NEIGHBOUR: 'it returns false'. Refute it at one input. -/
def topSaleWrong : ChangeSpec := { name := "topSale", fn := fun _ => fun
  | [d1, d2, d3, d4, d5] => { results := [.lit (.bool false)], args := [d1, d2, d3, d4, d5] }
  | _ => none }
def TopSaleWrongFalsely : Prop := topSaleRow.holds Try.pinned (OpenSpec.ofChange topSaleWrong)

/-- 'agoratop.TopBids': WHATEVER THE INPUT: true; the input reads as it did. -/
def topBidsSpec : ChangeSpec := { name := "topBids", fn := fun _ => fun
  | [d1, d2, d3, d4, d5] => { results := [.lit (.bool true)], args := [d1, d2, d3, d4, d5] }
  | _ => none }
def topBidsRow : OpenClaim := { program := "ytdllochcdcgaeaa", sum := "d56340b35976551454e4bfef688a7b64923a210c19208665ad39ee2695cbd46d", func := "agora/agoratop.TopBids", spec := "topBids", apart := false }
def TopBidsSaid : Prop := topBidsRow.holds Try.pinned (OpenSpec.ofChange topBidsSpec)

/-- ITS FALSE NEIGHBOUR: 'it returns false'. Refute it at one input. -/
def topBidsWrong : ChangeSpec := { name := "topBids", fn := fun _ => fun
  | [d1, d2, d3, d4, d5] => { results := [.lit (.bool false)], args := [d1, d2, d3, d4, d5] }
  | _ => none }
def TopBidsWrongFalsely : Prop := topBidsRow.holds Try.pinned (OpenSpec.ofChange topBidsWrong)

/- THE SECOND FORM. 'bulk': how many values and letters a reading holds, each counted each time it is reached (what is shared counts as often as it is met; a slice's spare places count too). A statement '..UptoSaid' is the law's where the arguments, and the package variables that the reading takes, are together of bulk at most 1048576: NARROWER than '..Said'. Prove '..Said' where nothing that the law and all that it calls make is longer than what came in: it says more and counts as full. Else prove '..UptoSaid'. A law counts once. -/
mutual
def uptoBulk {H : Type} : DataW H → Nat
  | .lit (.string bytes) => bytes.length + 1
  | .lit _ => 1
  | .nil => 1
  | .ptr d => uptoBulk d + 1
  | .slice elems spare => uptoBulkAll elems + uptoBulkAll spare + 1
  | .agg parts => uptoBulkAll parts + 1
  | .iface _ d => uptoBulk d + 1
  | .map entries => uptoBulkEntries entries + 1
  | .held _ => 1
def uptoBulkAll {H : Type} : List (DataW H) → Nat
  | [] => 0
  | d :: r => uptoBulk d + uptoBulkAll r
def uptoBulkEntries {H : Type} : List (Lit × DataW H) → Nat
  | [] => 0
  | x :: r => uptoBulkEntry x + uptoBulkEntries r
def uptoBulkEntry {H : Type} : Lit × DataW H → Nat
  | (.string bytes, d) => bytes.length + uptoBulk d + 1
  | (_, d) => uptoBulk d + 1
 end
def uptoSmall : (H : Type) → List (DataW H) → Bool := fun _ ds => decide (uptoBulkAll ds ≤ 1048576)
def OpenSpec.upto (s : _root_.Go.ChangeSpec) : _root_.Go.OpenSpec := { _root_.Go.OpenSpec.ofChange s with cond := some uptoSmall }

/-- 'agoralaw.Names', WHERE WHAT IT READS IS OF BULK AT MOST 1048576: true; the input reads as it did. -/
def namesUptoRow : OpenClaim := { program := "ytdllochcdcgaeaa", sum := "d56340b35976551454e4bfef688a7b64923a210c19208665ad39ee2695cbd46d", func := "agora/agoralaw.Names", spec := "names", apart := false, narrowed := true }
def NamesUptoSaid : Prop := namesUptoRow.holds Try.pinned (OpenSpec.upto namesSpec)

/-- 'agoralaw.AuctionShares', WHERE WHAT IT READS IS OF BULK AT MOST 1048576: true; the input reads as it did. -/
def auctionSharesUptoRow : OpenClaim := { program := "ytdllochcdcgaeaa", sum := "d56340b35976551454e4bfef688a7b64923a210c19208665ad39ee2695cbd46d", func := "agora/agoralaw.AuctionShares", spec := "auctionShares", recurses := true, apart := false, narrowed := true }
def AuctionSharesUptoSaid : Prop := auctionSharesUptoRow.holds Try.pinned (OpenSpec.upto auctionSharesSpec)

/-- 'agoralaw.AuctionMade', WHERE WHAT IT READS IS OF BULK AT MOST 1048576: true; the input reads as it did. -/
def auctionMadeUptoRow : OpenClaim := { program := "ytdllochcdcgaeaa", sum := "d56340b35976551454e4bfef688a7b64923a210c19208665ad39ee2695cbd46d", func := "agora/agoralaw.AuctionMade", spec := "auctionMade", recurses := true, apart := false, narrowed := true }
def AuctionMadeUptoSaid : Prop := auctionMadeUptoRow.holds Try.pinned (OpenSpec.upto auctionMadeSpec)

/-- 'agoralaw.AuctionSays', WHERE WHAT IT READS IS OF BULK AT MOST 1048576: true; the input reads as it did. -/
def auctionSaysUptoRow : OpenClaim := { program := "ytdllochcdcgaeaa", sum := "d56340b35976551454e4bfef688a7b64923a210c19208665ad39ee2695cbd46d", func := "agora/agoralaw.AuctionSays", spec := "auctionSays", apart := false, narrowed := true }
def AuctionSaysUptoSaid : Prop := auctionSaysUptoRow.holds Try.pinned (OpenSpec.upto auctionSaysSpec)

/-- 'agoratop.TopSale', WHERE WHAT IT READS IS OF BULK AT MOST 1048576: true; the input reads as it did. -/
def topSaleUptoRow : OpenClaim := { program := "ytdllochcdcgaeaa", sum := "d56340b35976551454e4bfef688a7b64923a210c19208665ad39ee2695cbd46d", func := "agora/agoratop.TopSale", spec := "topSale", recurses := true, apart := false, narrowed := true }
def TopSaleUptoSaid : Prop := topSaleUptoRow.holds Try.pinned (OpenSpec.upto topSaleSpec)

/-- 'agoratop.TopBids', WHERE WHAT IT READS IS OF BULK AT MOST 1048576: true; the input reads as it did. -/
def topBidsUptoRow : OpenClaim := { program := "ytdllochcdcgaeaa", sum := "d56340b35976551454e4bfef688a7b64923a210c19208665ad39ee2695cbd46d", func := "agora/agoratop.TopBids", spec := "topBids", apart := false, narrowed := true }
def TopBidsUptoSaid : Prop := topBidsUptoRow.holds Try.pinned (OpenSpec.upto topBidsSpec)

end Rows
end Go.Proofs.Ytdllochcdcgaeaa
