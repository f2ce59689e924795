/-
  No cell of these rows narrows 'for every input' (looked for: loops, veiled, ifaces, maps, wideKeys, modest, calm, conditions, laid).
  DERIVED. THE GIVEN ROWS OF THIS SEAT. 4 by the template 'for every input the law returns true; each argument reads behind the call as it read before'; 0 by the template 'total and deterministic' (their statements: YtkbbdiodmeobaaaTotals.lean).
  GIVEN WITH THE SEED: the statements are not yours to turn. If you find one false, say at which input.
  Laid BY PROGRAM, IN A SANDBOX (cutbox-rows.mjs): the forced cells as the released guide's own fill.sh prints them over the translation b148f4e92fca5298… (all of the seat's roots in one cut). By AI agents, Wed Nov 11 2026. No macro, syntax, notation, axiom, sorry.
-/
import Derived.Test.YtkbbdiodmeobaaaChecked
import GoSem.Claim
import GoSem.ClaimJoined
import GoSem.ClaimMapViews
import Derived.JoinedTies
import Derived.KernelRfl
namespace Go.Proofs.Ytkbbdiodmeobaaa
/- THE CELL 'sum', in the pinned program and in every row, IS THE sha256 OF THE DUMP (.gsa) THAT YtkbbdiodmeobaaaProg.lean LOADS. Nothing in Lean hashes anything: it is a label: what it is worth is what the hold of that sum in a sandbox is worth. -/
noncomputable def Try.pinned : Pinned := { name := "ytkbbdiodmeobaaa", sum := "b148f4e92fca52986d7de90bbb85ac6fdaa7fb29949e09f5fde5b4c3308f04c3", checked := Try.checked }
namespace Rows
def none {H : Type} : Left H := { results := [], args := [] }

/-- 'agoralaw.VoteSays': WHATEVER THE INPUT: true; the input reads as it did. -/
def voteSaysSpec : ChangeSpec := { name := "voteSays", fn := fun _ => fun
  | [d1, d2, d3] => { results := [.lit (.bool true)], args := [d1, d2, d3] }
  | _ => none }
def voteSaysRow : OpenClaim := { program := "ytkbbdiodmeobaaa", sum := "b148f4e92fca52986d7de90bbb85ac6fdaa7fb29949e09f5fde5b4c3308f04c3", func := "agora/agoralaw.VoteSays", spec := "voteSays", unfollowed := true, recurses := true, apart := false }
def VoteSaysSaid : Prop := voteSaysRow.holds Try.pinned (OpenSpec.ofChange voteSaysSpec)

/-- ITS FALSE NEIGHBOUR: 'it returns false'. Refute it at one input. -/
def voteSaysWrong : ChangeSpec := { name := "voteSays", fn := fun _ => fun
  | [d1, d2, d3] => { results := [.lit (.bool false)], args := [d1, d2, d3] }
  | _ => none }
def VoteSaysWrongFalsely : Prop := voteSaysRow.holds Try.pinned (OpenSpec.ofChange voteSaysWrong)

/-- 'agoralaw.VoteRefuses': WHATEVER THE INPUT: true; the input reads as it did. -/
def voteRefusesSpec : ChangeSpec := { name := "voteRefuses", fn := fun _ => fun
  | [d1, d2, d3] => { results := [.lit (.bool true)], args := [d1, d2, d3] }
  | _ => none }
def voteRefusesRow : OpenClaim := { program := "ytkbbdiodmeobaaa", sum := "b148f4e92fca52986d7de90bbb85ac6fdaa7fb29949e09f5fde5b4c3308f04c3", func := "agora/agoralaw.VoteRefuses", spec := "voteRefuses", unfollowed := true, recurses := true, apart := false }
def VoteRefusesSaid : Prop := voteRefusesRow.holds Try.pinned (OpenSpec.ofChange voteRefusesSpec)

/-- ITS FALSE NEIGHBOUR: 'it returns false'. Refute it at one input. -/
def voteRefusesWrong : ChangeSpec := { name := "voteRefuses", fn := fun _ => fun
  | [d1, d2, d3] => { results := [.lit (.bool false)], args := [d1, d2, d3] }
  | _ => none }
def VoteRefusesWrongFalsely : Prop := voteRefusesRow.holds Try.pinned (OpenSpec.ofChange voteRefusesWrong)

/-- 'agoratop.TopRaised': WHATEVER THE INPUT: true; the input reads as it did. -/
def topRaisedSpec : ChangeSpec := { name := "topRaised", fn := fun _ => fun
  | [d1, d2, d3, d4, d5] => { results := [.lit (.bool true)], args := [d1, d2, d3, d4, d5] }
  | _ => none }
def topRaisedRow : OpenClaim := { program := "ytkbbdiodmeobaaa", sum := "b148f4e92fca52986d7de90bbb85ac6fdaa7fb29949e09f5fde5b4c3308f04c3", func := "agora/agoratop.TopRaised", spec := "topRaised", apart := false }
def TopRaisedSaid : Prop := topRaisedRow.holds Try.pinned (OpenSpec.ofChange topRaisedSpec)

/-- ITS FALSE NEIGHBOUR: 'it returns false'. Refute it at one input. -/
def topRaisedWrong : ChangeSpec := { name := "topRaised", fn := fun _ => fun
  | [d1, d2, d3, d4, d5] => { results := [.lit (.bool false)], args := [d1, d2, d3, d4, d5] }
  | _ => none }
def TopRaisedWrongFalsely : Prop := topRaisedRow.holds Try.pinned (OpenSpec.ofChange topRaisedWrong)

/-- 'agoratop.TopVotes': WHATEVER THE INPUT: true; the input reads as it did. -/
def topVotesSpec : ChangeSpec := { name := "topVotes", fn := fun _ => fun
  | [d1, d2, d3, d4] => { results := [.lit (.bool true)], args := [d1, d2, d3, d4] }
  | _ => none }
def topVotesRow : OpenClaim := { program := "ytkbbdiodmeobaaa", sum := "b148f4e92fca52986d7de90bbb85ac6fdaa7fb29949e09f5fde5b4c3308f04c3", func := "agora/agoratop.TopVotes", spec := "topVotes", unfollowed := true, recurses := true, apart := false }
def TopVotesSaid : Prop := topVotesRow.holds Try.pinned (OpenSpec.ofChange topVotesSpec)

/-- ITS FALSE NEIGHBOUR: 'it returns false'. Refute it at one input. -/
def topVotesWrong : ChangeSpec := { name := "topVotes", fn := fun _ => fun
  | [d1, d2, d3, d4] => { results := [.lit (.bool false)], args := [d1, d2, d3, d4] }
  | _ => none }
def TopVotesWrongFalsely : Prop := topVotesRow.holds Try.pinned (OpenSpec.ofChange topVotesWrong)

/- THE SECOND FORM. 'bulk': how many values and letters a reading holds, each counted each time it is reached (what is shared counts as often as it is met; a slice's spare places count too). A statement '..UptoSaid' is the law's where the arguments, and the package variables that the reading takes, are together of bulk at most 1048576: NARROWER than '..Said'. Prove '..Said' where nothing that the law and all that it calls make is longer than what came in: it says more and counts as full. Else prove '..UptoSaid'. A law counts once. -/
mutual
def uptoBulk {H : Type} : DataW H → Nat
  | .lit (.string bytes) => bytes.length + 1
  | .lit _ => 1
  | .nil => 1
  | .ptr d => uptoBulk d + 1
  | .slice elems spare => uptoBulkAll elems + uptoBulkAll spare + 1
  | .agg parts => uptoBulkAll parts + 1
  | .iface _ d => uptoBulk d + 1
  | .map entries => uptoBulkEntries entries + 1
  | .held _ => 1
def uptoBulkAll {H : Type} : List (DataW H) → Nat
  | [] => 0
  | d :: r => uptoBulk d + uptoBulkAll r
def uptoBulkEntries {H : Type} : List (Lit × DataW H) → Nat
  | [] => 0
  | x :: r => uptoBulkEntry x + uptoBulkEntries r
def uptoBulkEntry {H : Type} : Lit × DataW H → Nat
  | (.string bytes, d) => bytes.length + uptoBulk d + 1
  | (_, d) => uptoBulk d + 1
 end
def uptoSmall : (H : Type) → List (DataW H) → Bool := fun _ ds => decide (uptoBulkAll ds ≤ 1048576)
def OpenSpec.upto (s : _root_.Go.ChangeSpec) : _root_.Go.OpenSpec := { _root_.Go.OpenSpec.ofChange s with cond := some uptoSmall }

/-- 'agoralaw.VoteSays', WHERE WHAT IT READS IS OF BULK AT MOST 1048576: true; the input reads as it did. -/
def voteSaysUptoRow : OpenClaim := { program := "ytkbbdiodmeobaaa", sum := "b148f4e92fca52986d7de90bbb85ac6fdaa7fb29949e09f5fde5b4c3308f04c3", func := "agora/agoralaw.VoteSays", spec := "voteSays", unfollowed := true, recurses := true, apart := false, narrowed := true }
def VoteSaysUptoSaid : Prop := voteSaysUptoRow.holds Try.pinned (OpenSpec.upto voteSaysSpec)

/-- 'agoralaw.VoteRefuses', WHERE WHAT IT READS IS OF BULK AT MOST 1048576: true; the input reads as it did. -/
def voteRefusesUptoRow : OpenClaim := { program := "ytkbbdiodmeobaaa", sum := "b148f4e92fca52986d7de90bbb85ac6fdaa7fb29949e09f5fde5b4c3308f04c3", func := "agora/agoralaw.VoteRefuses", spec := "voteRefuses", unfollowed := true, recurses := true, apart := false, narrowed := true }
def VoteRefusesUptoSaid : Prop := voteRefusesUptoRow.holds Try.pinned (OpenSpec.upto voteRefusesSpec)

/-- 'agoratop.TopRaised', WHERE WHAT IT READS IS OF BULK AT MOST 1048576: true; the input reads as it did. -/
def topRaisedUptoRow : OpenClaim := { program := "ytkbbdiodmeobaaa", sum := "b148f4e92fca52986d7de90bbb85ac6fdaa7fb29949e09f5fde5b4c3308f04c3", func := "agora/agoratop.TopRaised", spec := "topRaised", apart := false, narrowed := true }
def TopRaisedUptoSaid : Prop := topRaisedUptoRow.holds Try.pinned (OpenSpec.upto topRaisedSpec)

/-- 'agoratop.TopVotes', WHERE WHAT IT READS IS OF BULK AT MOST 1048576: true; the input reads as it did. -/
def topVotesUptoRow : OpenClaim := { program := "ytkbbdiodmeobaaa", sum := "b148f4e92fca52986d7de90bbb85ac6fdaa7fb29949e09f5fde5b4c3308f04c3", func := "agora/agoratop.TopVotes", spec := "topVotes", unfollowed := true, recurses := true, apart := false, narrowed := true }
def TopVotesUptoSaid : Prop := topVotesUptoRow.holds Try.pinned (OpenSpec.upto topVotesSpec)

end Rows
end Go.Proofs.Ytkbbdiodmeobaaa
