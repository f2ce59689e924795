/-
  No cell of these rows narrows 'for every input' (looked for: loops, veiled, ifaces, maps, wideKeys, modest, calm, conditions, laid).
  DERIVED. THE GIVEN ROWS OF THIS SEAT. 3 by the template 'for every input the law returns true; each argument reads behind the call as it read before'; 0 by the template 'total and deterministic' (their statements: YtfaeiglnhbllnaaTotals.lean).
  GIVEN WITH THE SEED: the statements are not yours to turn. If you find one false, say at which input.
  Laid BY PROGRAM, IN A SANDBOX (cutbox-rows.mjs): the forced cells as the released guide's own fill.sh prints them over the translation d72b0918e04b2fbe… (all of the seat's roots in one cut). By AI agents, Wed Nov 11 2026. No macro, syntax, notation, axiom, sorry.
-/
import Derived.Test.YtfaeiglnhbllnaaChecked
import GoSem.Claim
import GoSem.ClaimJoined
import GoSem.ClaimMapViews
import Derived.JoinedTies
import Derived.KernelRfl
namespace Go.Proofs.Ytfaeiglnhbllnaa
/- THE CELL 'sum', in the pinned program and in every row, IS THE sha256 OF THE DUMP (.gsa) THAT YtfaeiglnhbllnaaProg.lean LOADS. Nothing in Lean hashes anything: it is a label: what it is worth is what the hold of that sum in a sandbox is worth. -/
noncomputable def Try.pinned : Pinned := { name := "ytfaeiglnhbllnaa", sum := "d72b0918e04b2fbe52aa3b30e1d6294a98805c3699537842a9d371f1b0d34cc9", checked := Try.checked }
namespace Rows
def none {H : Type} : Left H := { results := [], args := [] }

/-- 'agoralaw.ShareCircles': WHATEVER THE INPUT: true; the input reads as it did. -/
def shareCirclesSpec : ChangeSpec := { name := "shareCircles", fn := fun _ => fun
  | [d] => { results := [.lit (.bool true)], args := [d] }
  | _ => none }
def shareCirclesRow : OpenClaim := { program := "ytfaeiglnhbllnaa", sum := "d72b0918e04b2fbe52aa3b30e1d6294a98805c3699537842a9d371f1b0d34cc9", func := "agora/agoralaw.ShareCircles", spec := "shareCircles", apart := false }
def ShareCirclesSaid : Prop := shareCirclesRow.holds Try.pinned (OpenSpec.ofChange shareCirclesSpec)

/-- ITS FALSE NEIGHBOUR: 'it returns false'. Refute it at one input. -/
def shareCirclesWrong : ChangeSpec := { name := "shareCircles", fn := fun _ => fun
  | [d] => { results := [.lit (.bool false)], args := [d] }
  | _ => none }
def ShareCirclesWrongFalsely : Prop := shareCirclesRow.holds Try.pinned (OpenSpec.ofChange shareCirclesWrong)

/-- 'agoralaw.ShareSays': WHATEVER THE INPUT: true; the input reads as it did. -/
def shareSaysSpec : ChangeSpec := { name := "shareSays", fn := fun _ => fun
  | [d1, d2] => { results := [.lit (.bool true)], args := [d1, d2] }
  | _ => none }
def shareSaysRow : OpenClaim := { program := "ytfaeiglnhbllnaa", sum := "d72b0918e04b2fbe52aa3b30e1d6294a98805c3699537842a9d371f1b0d34cc9", func := "agora/agoralaw.ShareSays", spec := "shareSays", unfollowed := true, recurses := true, apart := false }
def ShareSaysSaid : Prop := shareSaysRow.holds Try.pinned (OpenSpec.ofChange shareSaysSpec)

/-- ITS FALSE NEIGHBOUR: 'it returns false'. Refute it at one input. -/
def shareSaysWrong : ChangeSpec := { name := "shareSays", fn := fun _ => fun
  | [d1, d2] => { results := [.lit (.bool false)], args := [d1, d2] }
  | _ => none }
def ShareSaysWrongFalsely : Prop := shareSaysRow.holds Try.pinned (OpenSpec.ofChange shareSaysWrong)

/-- 'agoratop.TopEnvy': WHATEVER THE INPUT: true; the input reads as it did. -/
def topEnvySpec : ChangeSpec := { name := "topEnvy", fn := fun _ => fun
  | [d1, d2, d3, d4] => { results := [.lit (.bool true)], args := [d1, d2, d3, d4] }
  | _ => none }
def topEnvyRow : OpenClaim := { program := "ytfaeiglnhbllnaa", sum := "d72b0918e04b2fbe52aa3b30e1d6294a98805c3699537842a9d371f1b0d34cc9", func := "agora/agoratop.TopEnvy", spec := "topEnvy", unfollowed := true, recurses := true, apart := false }
def TopEnvySaid : Prop := topEnvyRow.holds Try.pinned (OpenSpec.ofChange topEnvySpec)

/-- ITS FALSE NEIGHBOUR: 'it returns false'. Refute it at one input. -/
def topEnvyWrong : ChangeSpec := { name := "topEnvy", fn := fun _ => fun
  | [d1, d2, d3, d4] => { results := [.lit (.bool false)], args := [d1, d2, d3, d4] }
  | _ => none }
def TopEnvyWrongFalsely : Prop := topEnvyRow.holds Try.pinned (OpenSpec.ofChange topEnvyWrong)

/- THE SECOND FORM. 'bulk': how many values and letters a reading holds, each counted each time it is reached (what is shared counts as often as it is met; a slice's spare places count too). A statement '..UptoSaid' is the law's where the arguments, and the package variables that the reading takes, are together of bulk at most 1048576: NARROWER than '..Said'. Prove '..Said' where nothing that the law and all that it calls make is longer than what came in: it says more and counts as full. Else prove '..UptoSaid'. A law counts once. -/
mutual
def uptoBulk {H : Type} : DataW H → Nat
  | .lit (.string bytes) => bytes.length + 1
  | .lit _ => 1
  | .nil => 1
  | .ptr d => uptoBulk d + 1
  | .slice elems spare => uptoBulkAll elems + uptoBulkAll spare + 1
  | .agg parts => uptoBulkAll parts + 1
  | .iface _ d => uptoBulk d + 1
  | .map entries => uptoBulkEntries entries + 1
  | .held _ => 1
def uptoBulkAll {H : Type} : List (DataW H) → Nat
  | [] => 0
  | d :: r => uptoBulk d + uptoBulkAll r
def uptoBulkEntries {H : Type} : List (Lit × DataW H) → Nat
  | [] => 0
  | x :: r => uptoBulkEntry x + uptoBulkEntries r
def uptoBulkEntry {H : Type} : Lit × DataW H → Nat
  | (.string bytes, d) => bytes.length + uptoBulk d + 1
  | (_, d) => uptoBulk d + 1
 end
def uptoSmall : (H : Type) → List (DataW H) → Bool := fun _ ds => decide (uptoBulkAll ds ≤ 1048576)
def OpenSpec.upto (s : _root_.Go.ChangeSpec) : _root_.Go.OpenSpec := { _root_.Go.OpenSpec.ofChange s with cond := some uptoSmall }

/-- 'agoralaw.ShareCircles', WHERE WHAT IT READS IS OF BULK AT MOST 1048576: true; the input reads as it did. -/
def shareCirclesUptoRow : OpenClaim := { program := "ytfaeiglnhbllnaa", sum := "d72b0918e04b2fbe52aa3b30e1d6294a98805c3699537842a9d371f1b0d34cc9", func := "agora/agoralaw.ShareCircles", spec := "shareCircles", apart := false, narrowed := true }
def ShareCirclesUptoSaid : Prop := shareCirclesUptoRow.holds Try.pinned (OpenSpec.upto shareCirclesSpec)

/-- 'agoralaw.ShareSays', WHERE WHAT IT READS IS OF BULK AT MOST 1048576: true; the input reads as it did. -/
def shareSaysUptoRow : OpenClaim := { program := "ytfaeiglnhbllnaa", sum := "d72b0918e04b2fbe52aa3b30e1d6294a98805c3699537842a9d371f1b0d34cc9", func := "agora/agoralaw.ShareSays", spec := "shareSays", unfollowed := true, recurses := true, apart := false, narrowed := true }
def ShareSaysUptoSaid : Prop := shareSaysUptoRow.holds Try.pinned (OpenSpec.upto shareSaysSpec)

/-- 'agoratop.TopEnvy', WHERE WHAT IT READS IS OF BULK AT MOST 1048576: true; the input reads as it did. -/
def topEnvyUptoRow : OpenClaim := { program := "ytfaeiglnhbllnaa", sum := "d72b0918e04b2fbe52aa3b30e1d6294a98805c3699537842a9d371f1b0d34cc9", func := "agora/agoratop.TopEnvy", spec := "topEnvy", unfollowed := true, recurses := true, apart := false, narrowed := true }
def TopEnvyUptoSaid : Prop := topEnvyUptoRow.holds Try.pinned (OpenSpec.upto topEnvySpec)

end Rows
end Go.Proofs.Ytfaeiglnhbllnaa
