/-
  No cell of these rows narrows 'for every input' (looked for: loops, veiled, ifaces, maps, wideKeys, modest, calm, conditions, laid).
  DERIVED. THE GIVEN ROWS OF THIS SEAT. 3 by the template 'for every input the law returns true; each argument reads behind the call as it read before'; 0 by the template 'total and deterministic' (their statements: YtamdkclkmijfgaaTotals.lean).
  GIVEN WITH THE SEED: the statements are not yours to turn. If you find one false, say at which input.
  Laid BY PROGRAM, IN A SANDBOX (cutbox-rows.mjs): the forced cells as the released guide's own fill.sh prints them over the translation 80d6d2961accba36… (all of the seat's roots in one cut). By AI agents, Wed Nov 11 2026. No macro, syntax, notation, axiom, sorry.
-/
import Derived.Test.YtamdkclkmijfgaaChecked
import GoSem.Claim
import GoSem.ClaimJoined
import GoSem.ClaimMapViews
import Derived.JoinedTies
import Derived.KernelRfl
namespace Go.Proofs.Ytamdkclkmijfgaa
/- THE CELL 'sum', in the pinned program and in every row, IS THE sha256 OF THE DUMP (.gsa) THAT YtamdkclkmijfgaaProg.lean LOADS. Nothing in Lean hashes anything: it is a label: what it is worth is what the hold of that sum in a sandbox is worth. -/
noncomputable def Try.pinned : Pinned := { name := "ytamdkclkmijfgaa", sum := "80d6d2961accba36bed3edec559346cb196da9335f2608bb06e896b88bd97f96", checked := Try.checked }
namespace Rows
def none {H : Type} : Left H := { results := [], args := [] }

/-- 'agoralaw.TreeSays': WHATEVER THE INPUT: true; the input reads as it did. -/
def treeSaysSpec : ChangeSpec := { name := "treeSays", fn := fun _ => fun
  | [d1, d2, d3, d4] => { results := [.lit (.bool true)], args := [d1, d2, d3, d4] }
  | _ => none }
def treeSaysRow : OpenClaim := { program := "ytamdkclkmijfgaa", sum := "80d6d2961accba36bed3edec559346cb196da9335f2608bb06e896b88bd97f96", func := "agora/agoralaw.TreeSays", spec := "treeSays", unfollowed := true, recurses := true, apart := false }
def TreeSaysSaid : Prop := treeSaysRow.holds Try.pinned (OpenSpec.ofChange treeSaysSpec)

/-- ITS FALSE NEIGHBOUR: 'it returns false'. Refute it at one input. -/
def treeSaysWrong : ChangeSpec := { name := "treeSays", fn := fun _ => fun
  | [d1, d2, d3, d4] => { results := [.lit (.bool false)], args := [d1, d2, d3, d4] }
  | _ => none }
def TreeSaysWrongFalsely : Prop := treeSaysRow.holds Try.pinned (OpenSpec.ofChange treeSaysWrong)

/-- 'agoralaw.TreeMade': WHATEVER THE INPUT: true; the input reads as it did. -/
def treeMadeSpec : ChangeSpec := { name := "treeMade", fn := fun _ => fun
  | [d1, d2, d3, d4, d5, d6] => { results := [.lit (.bool true)], args := [d1, d2, d3, d4, d5, d6] }
  | _ => none }
def treeMadeRow : OpenClaim := { program := "ytamdkclkmijfgaa", sum := "80d6d2961accba36bed3edec559346cb196da9335f2608bb06e896b88bd97f96", func := "agora/agoralaw.TreeMade", spec := "treeMade", unfollowed := true, recurses := true, apart := false }
def TreeMadeSaid : Prop := treeMadeRow.holds Try.pinned (OpenSpec.ofChange treeMadeSpec)

/-- ITS FALSE NEIGHBOUR: 'it returns false'. Refute it at one input. -/
def treeMadeWrong : ChangeSpec := { name := "treeMade", fn := fun _ => fun
  | [d1, d2, d3, d4, d5, d6] => { results := [.lit (.bool false)], args := [d1, d2, d3, d4, d5, d6] }
  | _ => none }
def TreeMadeWrongFalsely : Prop := treeMadeRow.holds Try.pinned (OpenSpec.ofChange treeMadeWrong)

/-- 'agoratop.TopBackward': WHATEVER THE INPUT: true; the input reads as it did. -/
def topBackwardSpec : ChangeSpec := { name := "topBackward", fn := fun _ => fun
  | [d1, d2, d3, d4] => { results := [.lit (.bool true)], args := [d1, d2, d3, d4] }
  | _ => none }
def topBackwardRow : OpenClaim := { program := "ytamdkclkmijfgaa", sum := "80d6d2961accba36bed3edec559346cb196da9335f2608bb06e896b88bd97f96", func := "agora/agoratop.TopBackward", spec := "topBackward", unfollowed := true, recurses := true, apart := false }
def TopBackwardSaid : Prop := topBackwardRow.holds Try.pinned (OpenSpec.ofChange topBackwardSpec)

/-- ITS FALSE NEIGHBOUR: 'it returns false'. Refute it at one input. -/
def topBackwardWrong : ChangeSpec := { name := "topBackward", fn := fun _ => fun
  | [d1, d2, d3, d4] => { results := [.lit (.bool false)], args := [d1, d2, d3, d4] }
  | _ => none }
def TopBackwardWrongFalsely : Prop := topBackwardRow.holds Try.pinned (OpenSpec.ofChange topBackwardWrong)

/- THE SECOND FORM. 'bulk': how many values and letters a reading holds, each counted each time it is reached (what is shared counts as often as it is met; a slice's spare places count too). A statement '..UptoSaid' is the law's where the arguments, and the package variables that the reading takes, are together of bulk at most 1048576: NARROWER than '..Said'. Prove '..Said' where nothing that the law and all that it calls make is longer than what came in: it says more and counts as full. Else prove '..UptoSaid'. A law counts once. -/
mutual
def uptoBulk {H : Type} : DataW H → Nat
  | .lit (.string bytes) => bytes.length + 1
  | .lit _ => 1
  | .nil => 1
  | .ptr d => uptoBulk d + 1
  | .slice elems spare => uptoBulkAll elems + uptoBulkAll spare + 1
  | .agg parts => uptoBulkAll parts + 1
  | .iface _ d => uptoBulk d + 1
  | .map entries => uptoBulkEntries entries + 1
  | .held _ => 1
def uptoBulkAll {H : Type} : List (DataW H) → Nat
  | [] => 0
  | d :: r => uptoBulk d + uptoBulkAll r
def uptoBulkEntries {H : Type} : List (Lit × DataW H) → Nat
  | [] => 0
  | x :: r => uptoBulkEntry x + uptoBulkEntries r
def uptoBulkEntry {H : Type} : Lit × DataW H → Nat
  | (.string bytes, d) => bytes.length + uptoBulk d + 1
  | (_, d) => uptoBulk d + 1
 end
def uptoSmall : (H : Type) → List (DataW H) → Bool := fun _ ds => decide (uptoBulkAll ds ≤ 1048576)
def OpenSpec.upto (s : _root_.Go.ChangeSpec) : _root_.Go.OpenSpec := { _root_.Go.OpenSpec.ofChange s with cond := some uptoSmall }

/-- 'agoralaw.TreeSays', WHERE WHAT IT READS IS OF BULK AT MOST 1048576: true; the input reads as it did. -/
def treeSaysUptoRow : OpenClaim := { program := "ytamdkclkmijfgaa", sum := "80d6d2961accba36bed3edec559346cb196da9335f2608bb06e896b88bd97f96", func := "agora/agoralaw.TreeSays", spec := "treeSays", unfollowed := true, recurses := true, apart := false, narrowed := true }
def TreeSaysUptoSaid : Prop := treeSaysUptoRow.holds Try.pinned (OpenSpec.upto treeSaysSpec)

/-- 'agoralaw.TreeMade', WHERE WHAT IT READS IS OF BULK AT MOST 1048576: true; the input reads as it did. -/
def treeMadeUptoRow : OpenClaim := { program := "ytamdkclkmijfgaa", sum := "80d6d2961accba36bed3edec559346cb196da9335f2608bb06e896b88bd97f96", func := "agora/agoralaw.TreeMade", spec := "treeMade", unfollowed := true, recurses := true, apart := false, narrowed := true }
def TreeMadeUptoSaid : Prop := treeMadeUptoRow.holds Try.pinned (OpenSpec.upto treeMadeSpec)

/-- 'agoratop.TopBackward', WHERE WHAT IT READS IS OF BULK AT MOST 1048576: true; the input reads as it did. -/
def topBackwardUptoRow : OpenClaim := { program := "ytamdkclkmijfgaa", sum := "80d6d2961accba36bed3edec559346cb196da9335f2608bb06e896b88bd97f96", func := "agora/agoratop.TopBackward", spec := "topBackward", unfollowed := true, recurses := true, apart := false, narrowed := true }
def TopBackwardUptoSaid : Prop := topBackwardUptoRow.holds Try.pinned (OpenSpec.upto topBackwardSpec)

end Rows
end Go.Proofs.Ytamdkclkmijfgaa
