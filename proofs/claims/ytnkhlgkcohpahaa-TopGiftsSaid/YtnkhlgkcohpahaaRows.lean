/-
  No cell of these rows narrows 'for every input' (looked for: loops, veiled, ifaces, maps, wideKeys, modest, calm, conditions, laid).
  DERIVED. THE GIVEN ROWS OF THIS SEAT. 3 by the template 'for every input the law returns true; each argument reads behind the call as it read before'; 0 by the template 'total and deterministic' (their statements: YtnkhlgkcohpahaaTotals.lean).
  GIVEN WITH THE SEED: the statements are not yours to turn. If you find one false, say at which input.
  Laid BY PROGRAM, IN A SANDBOX (cutbox-rows.mjs): the forced cells as the released guide's own fill.sh prints them over the translation 30a06a206c7bb4f0… (all of the seat's roots in one cut). By AI agents, Wed Nov 11 2026. No macro, syntax, notation, axiom, sorry.
-/
import Derived.Test.YtnkhlgkcohpahaaChecked
import GoSem.Claim
import GoSem.ClaimJoined
import GoSem.ClaimMapViews
import Derived.JoinedTies
import Derived.KernelRfl
namespace Go.Proofs.Ytnkhlgkcohpahaa
/- THE CELL 'sum', in the pinned program and in every row, IS THE sha256 OF THE DUMP (.gsa) THAT YtnkhlgkcohpahaaProg.lean LOADS. Nothing in Lean hashes anything: it is a label: what it is worth is what the hold of that sum in a sandbox is worth. -/
noncomputable def Try.pinned : Pinned := { name := "ytnkhlgkcohpahaa", sum := "30a06a206c7bb4f0a0851bb1bb7137e33320e740862ab1f099d245d226f3f86e", checked := Try.checked }
namespace Rows
def none {H : Type} : Left H := { results := [], args := [] }

/-- 'agoralaw.SwapSays': WHATEVER THE INPUT: true; the input reads as it did. -/
def swapSaysSpec : ChangeSpec := { name := "swapSays", fn := fun _ => fun
  | [d1, d2, d3] => { results := [.lit (.bool true)], args := [d1, d2, d3] }
  | _ => none }
def swapSaysRow : OpenClaim := { program := "ytnkhlgkcohpahaa", sum := "30a06a206c7bb4f0a0851bb1bb7137e33320e740862ab1f099d245d226f3f86e", func := "agora/agoralaw.SwapSays", spec := "swapSays", apart := false }
def SwapSaysSaid : Prop := swapSaysRow.holds Try.pinned (OpenSpec.ofChange swapSaysSpec)

/-- ITS FALSE NEIGHBOUR: 'it returns false'. Refute it at one input. -/
def swapSaysWrong : ChangeSpec := { name := "swapSays", fn := fun _ => fun
  | [d1, d2, d3] => { results := [.lit (.bool false)], args := [d1, d2, d3] }
  | _ => none }
def SwapSaysWrongFalsely : Prop := swapSaysRow.holds Try.pinned (OpenSpec.ofChange swapSaysWrong)

/-- 'agoralaw.SwapMost': WHATEVER THE INPUT: true; the input reads as it did. -/
def swapMostSpec : ChangeSpec := { name := "swapMost", fn := fun _ => fun
  | [d] => { results := [.lit (.bool true)], args := [d] }
  | _ => none }
def swapMostRow : OpenClaim := { program := "ytnkhlgkcohpahaa", sum := "30a06a206c7bb4f0a0851bb1bb7137e33320e740862ab1f099d245d226f3f86e", func := "agora/agoralaw.SwapMost", spec := "swapMost", unfollowed := true, recurses := true, apart := false }
def SwapMostSaid : Prop := swapMostRow.holds Try.pinned (OpenSpec.ofChange swapMostSpec)

/-- ITS FALSE NEIGHBOUR: 'it returns false'. Refute it at one input. -/
def swapMostWrong : ChangeSpec := { name := "swapMost", fn := fun _ => fun
  | [d] => { results := [.lit (.bool false)], args := [d] }
  | _ => none }
def SwapMostWrongFalsely : Prop := swapMostRow.holds Try.pinned (OpenSpec.ofChange swapMostWrong)

/-- 'agoratop.TopGifts': WHATEVER THE INPUT: true; the input reads as it did. -/
def topGiftsSpec : ChangeSpec := { name := "topGifts", fn := fun _ => fun
  | [d1, d2, d3] => { results := [.lit (.bool true)], args := [d1, d2, d3] }
  | _ => none }
def topGiftsRow : OpenClaim := { program := "ytnkhlgkcohpahaa", sum := "30a06a206c7bb4f0a0851bb1bb7137e33320e740862ab1f099d245d226f3f86e", func := "agora/agoratop.TopGifts", spec := "topGifts", unfollowed := true, recurses := true, apart := false }
def TopGiftsSaid : Prop := topGiftsRow.holds Try.pinned (OpenSpec.ofChange topGiftsSpec)

/-- ITS FALSE NEIGHBOUR: 'it returns false'. Refute it at one input. -/
def topGiftsWrong : ChangeSpec := { name := "topGifts", fn := fun _ => fun
  | [d1, d2, d3] => { results := [.lit (.bool false)], args := [d1, d2, d3] }
  | _ => none }
def TopGiftsWrongFalsely : Prop := topGiftsRow.holds Try.pinned (OpenSpec.ofChange topGiftsWrong)

/- THE SECOND FORM. 'bulk': how many values and letters a reading holds, each counted each time it is reached (what is shared counts as often as it is met; a slice's spare places count too). A statement '..UptoSaid' is the law's where the arguments, and the package variables that the reading takes, are together of bulk at most 1048576: NARROWER than '..Said'. Prove '..Said' where nothing that the law and all that it calls make is longer than what came in: it says more and counts as full. Else prove '..UptoSaid'. A law counts once. -/
mutual
def uptoBulk {H : Type} : DataW H → Nat
  | .lit (.string bytes) => bytes.length + 1
  | .lit _ => 1
  | .nil => 1
  | .ptr d => uptoBulk d + 1
  | .slice elems spare => uptoBulkAll elems + uptoBulkAll spare + 1
  | .agg parts => uptoBulkAll parts + 1
  | .iface _ d => uptoBulk d + 1
  | .map entries => uptoBulkEntries entries + 1
  | .held _ => 1
def uptoBulkAll {H : Type} : List (DataW H) → Nat
  | [] => 0
  | d :: r => uptoBulk d + uptoBulkAll r
def uptoBulkEntries {H : Type} : List (Lit × DataW H) → Nat
  | [] => 0
  | x :: r => uptoBulkEntry x + uptoBulkEntries r
def uptoBulkEntry {H : Type} : Lit × DataW H → Nat
  | (.string bytes, d) => bytes.length + uptoBulk d + 1
  | (_, d) => uptoBulk d + 1
 end
def uptoSmall : (H : Type) → List (DataW H) → Bool := fun _ ds => decide (uptoBulkAll ds ≤ 1048576)
def OpenSpec.upto (s : _root_.Go.ChangeSpec) : _root_.Go.OpenSpec := { _root_.Go.OpenSpec.ofChange s with cond := some uptoSmall }

/-- 'agoralaw.SwapSays', WHERE WHAT IT READS IS OF BULK AT MOST 1048576: true; the input reads as it did. -/
def swapSaysUptoRow : OpenClaim := { program := "ytnkhlgkcohpahaa", sum := "30a06a206c7bb4f0a0851bb1bb7137e33320e740862ab1f099d245d226f3f86e", func := "agora/agoralaw.SwapSays", spec := "swapSays", apart := false, narrowed := true }
def SwapSaysUptoSaid : Prop := swapSaysUptoRow.holds Try.pinned (OpenSpec.upto swapSaysSpec)

/-- 'agoralaw.SwapMost', WHERE WHAT IT READS IS OF BULK AT MOST 1048576: true; the input reads as it did. -/
def swapMostUptoRow : OpenClaim := { program := "ytnkhlgkcohpahaa", sum := "30a06a206c7bb4f0a0851bb1bb7137e33320e740862ab1f099d245d226f3f86e", func := "agora/agoralaw.SwapMost", spec := "swapMost", unfollowed := true, recurses := true, apart := false, narrowed := true }
def SwapMostUptoSaid : Prop := swapMostUptoRow.holds Try.pinned (OpenSpec.upto swapMostSpec)

/-- 'agoratop.TopGifts', WHERE WHAT IT READS IS OF BULK AT MOST 1048576: true; the input reads as it did. -/
def topGiftsUptoRow : OpenClaim := { program := "ytnkhlgkcohpahaa", sum := "30a06a206c7bb4f0a0851bb1bb7137e33320e740862ab1f099d245d226f3f86e", func := "agora/agoratop.TopGifts", spec := "topGifts", unfollowed := true, recurses := true, apart := false, narrowed := true }
def TopGiftsUptoSaid : Prop := topGiftsUptoRow.holds Try.pinned (OpenSpec.upto topGiftsSpec)

end Rows
end Go.Proofs.Ytnkhlgkcohpahaa
