/-
  No cell of these rows narrows 'for every input' (looked for: loops, veiled, ifaces, maps, wideKeys, modest, calm, conditions, laid).
  DERIVED. THE GIVEN ROWS OF THIS SEAT. 3 by the template 'for every input the law returns true; each argument reads behind the call as it read before'; 0 by the template 'total and deterministic' (their statements: YthcgljomiigjiaaTotals.lean).
  GIVEN WITH THE SEED: the statements are not yours to turn. If you find one false, say at which input.
  Laid BY PROGRAM, IN A SANDBOX (cutbox-rows.mjs): the forced cells as the released guide's own fill.sh prints them over the translation 2ab31dae8643e691… (all of the seat's roots in one cut). By AI agents, Wed Nov 11 2026. No macro, syntax, notation, axiom, sorry.
-/
import Derived.Test.YthcgljomiigjiaaChecked
import GoSem.Claim
import GoSem.ClaimJoined
import GoSem.ClaimMapViews
import Derived.JoinedTies
import Derived.KernelRfl
namespace Go.Proofs.Ythcgljomiigjiaa
/- THE CELL 'sum', in the pinned program and in every row, IS THE sha256 OF THE DUMP (.gsa) THAT YthcgljomiigjiaaProg.lean LOADS. Nothing in Lean hashes anything: it is a label: what it is worth is what the hold of that sum in a sandbox is worth. -/
noncomputable def Try.pinned : Pinned := { name := "ythcgljomiigjiaa", sum := "2ab31dae8643e691d35a4385d8bfcd3f8e139b937d406ba2b14867ee938d3c55", checked := Try.checked }
namespace Rows
def none {H : Type} : Left H := { results := [], args := [] }

/-- 'agoralaw.RulesSays': WHATEVER THE INPUT: true; the input reads as it did. -/
def rulesSaysSpec : ChangeSpec := { name := "rulesSays", fn := fun _ => fun
  | [d1, d2] => { results := [.lit (.bool true)], args := [d1, d2] }
  | _ => none }
def rulesSaysRow : OpenClaim := { program := "ythcgljomiigjiaa", sum := "2ab31dae8643e691d35a4385d8bfcd3f8e139b937d406ba2b14867ee938d3c55", func := "agora/agoralaw.RulesSays", spec := "rulesSays", unfollowed := true, recurses := true, apart := false }
def RulesSaysSaid : Prop := rulesSaysRow.holds Try.pinned (OpenSpec.ofChange rulesSaysSpec)

/-- ITS FALSE NEIGHBOUR: 'it returns false'. Refute it at one input. -/
def rulesSaysWrong : ChangeSpec := { name := "rulesSays", fn := fun _ => fun
  | [d1, d2] => { results := [.lit (.bool false)], args := [d1, d2] }
  | _ => none }
def RulesSaysWrongFalsely : Prop := rulesSaysRow.holds Try.pinned (OpenSpec.ofChange rulesSaysWrong)

/-- 'agoratop.TopArrow': WHATEVER THE INPUT: true; the input reads as it did. -/
def topArrowSpec : ChangeSpec := { name := "topArrow", fn := fun _ => fun
  | [d] => { results := [.lit (.bool true)], args := [d] }
  | _ => none }
def topArrowRow : OpenClaim := { program := "ythcgljomiigjiaa", sum := "2ab31dae8643e691d35a4385d8bfcd3f8e139b937d406ba2b14867ee938d3c55", func := "agora/agoratop.TopArrow", spec := "topArrow", unfollowed := true, recurses := true, apart := false }
def TopArrowSaid : Prop := topArrowRow.holds Try.pinned (OpenSpec.ofChange topArrowSpec)

/-- ITS FALSE NEIGHBOUR: 'it returns false'. Refute it at one input. -/
def topArrowWrong : ChangeSpec := { name := "topArrow", fn := fun _ => fun
  | [d] => { results := [.lit (.bool false)], args := [d] }
  | _ => none }
def TopArrowWrongFalsely : Prop := topArrowRow.holds Try.pinned (OpenSpec.ofChange topArrowWrong)

/-- 'agoratop.TopChooser': WHATEVER THE INPUT: true; the input reads as it did. -/
def topChooserSpec : ChangeSpec := { name := "topChooser", fn := fun _ => fun
  | [d] => { results := [.lit (.bool true)], args := [d] }
  | _ => none }
def topChooserRow : OpenClaim := { program := "ythcgljomiigjiaa", sum := "2ab31dae8643e691d35a4385d8bfcd3f8e139b937d406ba2b14867ee938d3c55", func := "agora/agoratop.TopChooser", spec := "topChooser", apart := false }
def TopChooserSaid : Prop := topChooserRow.holds Try.pinned (OpenSpec.ofChange topChooserSpec)

/-- ITS FALSE NEIGHBOUR: 'it returns false'. Refute it at one input. -/
def topChooserWrong : ChangeSpec := { name := "topChooser", fn := fun _ => fun
  | [d] => { results := [.lit (.bool false)], args := [d] }
  | _ => none }
def TopChooserWrongFalsely : Prop := topChooserRow.holds Try.pinned (OpenSpec.ofChange topChooserWrong)

/- THE SECOND FORM. 'bulk': how many values and letters a reading holds, each counted each time it is reached (what is shared counts as often as it is met; a slice's spare places count too). A statement '..UptoSaid' is the law's where the arguments, and the package variables that the reading takes, are together of bulk at most 1048576: NARROWER than '..Said'. Prove '..Said' where nothing that the law and all that it calls make is longer than what came in: it says more and counts as full. Else prove '..UptoSaid'. A law counts once. -/
mutual
def uptoBulk {H : Type} : DataW H → Nat
  | .lit (.string bytes) => bytes.length + 1
  | .lit _ => 1
  | .nil => 1
  | .ptr d => uptoBulk d + 1
  | .slice elems spare => uptoBulkAll elems + uptoBulkAll spare + 1
  | .agg parts => uptoBulkAll parts + 1
  | .iface _ d => uptoBulk d + 1
  | .map entries => uptoBulkEntries entries + 1
  | .held _ => 1
def uptoBulkAll {H : Type} : List (DataW H) → Nat
  | [] => 0
  | d :: r => uptoBulk d + uptoBulkAll r
def uptoBulkEntries {H : Type} : List (Lit × DataW H) → Nat
  | [] => 0
  | x :: r => uptoBulkEntry x + uptoBulkEntries r
def uptoBulkEntry {H : Type} : Lit × DataW H → Nat
  | (.string bytes, d) => bytes.length + uptoBulk d + 1
  | (_, d) => uptoBulk d + 1
 end
def uptoSmall : (H : Type) → List (DataW H) → Bool := fun _ ds => decide (uptoBulkAll ds ≤ 1048576)
def OpenSpec.upto (s : _root_.Go.ChangeSpec) : _root_.Go.OpenSpec := { _root_.Go.OpenSpec.ofChange s with cond := some uptoSmall }

/-- 'agoralaw.RulesSays', WHERE WHAT IT READS IS OF BULK AT MOST 1048576: true; the input reads as it did. -/
def rulesSaysUptoRow : OpenClaim := { program := "ythcgljomiigjiaa", sum := "2ab31dae8643e691d35a4385d8bfcd3f8e139b937d406ba2b14867ee938d3c55", func := "agora/agoralaw.RulesSays", spec := "rulesSays", unfollowed := true, recurses := true, apart := false, narrowed := true }
def RulesSaysUptoSaid : Prop := rulesSaysUptoRow.holds Try.pinned (OpenSpec.upto rulesSaysSpec)

/-- 'agoratop.TopArrow', WHERE WHAT IT READS IS OF BULK AT MOST 1048576: true; the input reads as it did. -/
def topArrowUptoRow : OpenClaim := { program := "ythcgljomiigjiaa", sum := "2ab31dae8643e691d35a4385d8bfcd3f8e139b937d406ba2b14867ee938d3c55", func := "agora/agoratop.TopArrow", spec := "topArrow", unfollowed := true, recurses := true, apart := false, narrowed := true }
def TopArrowUptoSaid : Prop := topArrowUptoRow.holds Try.pinned (OpenSpec.upto topArrowSpec)

/-- 'agoratop.TopChooser', WHERE WHAT IT READS IS OF BULK AT MOST 1048576: true; the input reads as it did. -/
def topChooserUptoRow : OpenClaim := { program := "ythcgljomiigjiaa", sum := "2ab31dae8643e691d35a4385d8bfcd3f8e139b937d406ba2b14867ee938d3c55", func := "agora/agoratop.TopChooser", spec := "topChooser", apart := false, narrowed := true }
def TopChooserUptoSaid : Prop := topChooserUptoRow.holds Try.pinned (OpenSpec.upto topChooserSpec)

end Rows
end Go.Proofs.Ythcgljomiigjiaa
