/-
  No cell of these rows narrows 'for every input' (looked for: loops, veiled, ifaces, maps, wideKeys, modest, calm, conditions, laid).
  DERIVED. THE GIVEN ROWS OF THIS SEAT. 4 by the template 'for every input the law returns true; each argument reads behind the call as it read before'; 0 by the template 'total and deterministic' (their statements: YtnbponopcbgndaaTotals.lean).
  GIVEN WITH THE SEED: the statements are not yours to turn. If you find one false, say at which input.
  Laid BY PROGRAM, IN A SANDBOX (cutbox-rows.mjs): the forced cells as the released guide's own fill.sh prints them over the translation dcd8b3acbc83ab41… (all of the seat's roots in one cut). By AI agents, Wed Nov 11 2026. No macro, syntax, notation, axiom, sorry.
-/
import Derived.Test.YtnbponopcbgndaaChecked
import GoSem.Claim
import GoSem.ClaimJoined
import GoSem.ClaimMapViews
import Derived.JoinedTies
import Derived.KernelRfl
namespace Go.Proofs.Ytnbponopcbgndaa
/- THE CELL 'sum', in the pinned program and in every row, IS THE sha256 OF THE DUMP (.gsa) THAT YtnbponopcbgndaaProg.lean LOADS. Nothing in Lean hashes anything: it is a label: what it is worth is what the hold of that sum in a sandbox is worth. -/
noncomputable def Try.pinned : Pinned := { name := "ytnbponopcbgndaa", sum := "dcd8b3acbc83ab4103bbab68d55ead3b767037c038fb9a83a50132da0257d266", checked := Try.checked }
namespace Rows
def none {H : Type} : Left H := { results := [], args := [] }

/-- 'agoralaw.TradeSchools': WHATEVER THE INPUT: true; the input reads as it did. -/
def tradeSchoolsSpec : ChangeSpec := { name := "tradeSchools", fn := fun _ => fun
  | [d1, d2, d3] => { results := [.lit (.bool true)], args := [d1, d2, d3] }
  | _ => none }
def tradeSchoolsRow : OpenClaim := { program := "ytnbponopcbgndaa", sum := "dcd8b3acbc83ab4103bbab68d55ead3b767037c038fb9a83a50132da0257d266", func := "agora/agoralaw.TradeSchools", spec := "tradeSchools", unfollowed := true, recurses := true, apart := false }
def TradeSchoolsSaid : Prop := tradeSchoolsRow.holds Try.pinned (OpenSpec.ofChange tradeSchoolsSpec)

/-- ITS FALSE NEIGHBOUR: 'it returns false'. Refute it at one input. -/
def tradeSchoolsWrong : ChangeSpec := { name := "tradeSchools", fn := fun _ => fun
  | [d1, d2, d3] => { results := [.lit (.bool false)], args := [d1, d2, d3] }
  | _ => none }
def TradeSchoolsWrongFalsely : Prop := tradeSchoolsRow.holds Try.pinned (OpenSpec.ofChange tradeSchoolsWrong)

/-- 'agoralaw.TradeSays': WHATEVER THE INPUT: true; the input reads as it did. -/
def tradeSaysSpec : ChangeSpec := { name := "tradeSays", fn := fun _ => fun
  | [d1, d2, d3] => { results := [.lit (.bool true)], args := [d1, d2, d3] }
  | _ => none }
def tradeSaysRow : OpenClaim := { program := "ytnbponopcbgndaa", sum := "dcd8b3acbc83ab4103bbab68d55ead3b767037c038fb9a83a50132da0257d266", func := "agora/agoralaw.TradeSays", spec := "tradeSays", unfollowed := true, recurses := true, apart := false }
def TradeSaysSaid : Prop := tradeSaysRow.holds Try.pinned (OpenSpec.ofChange tradeSaysSpec)

/-- ITS FALSE NEIGHBOUR: 'it returns false'. Refute it at one input. -/
def tradeSaysWrong : ChangeSpec := { name := "tradeSays", fn := fun _ => fun
  | [d1, d2, d3] => { results := [.lit (.bool false)], args := [d1, d2, d3] }
  | _ => none }
def TradeSaysWrongFalsely : Prop := tradeSaysRow.holds Try.pinned (OpenSpec.ofChange tradeSaysWrong)

/-- 'agoralaw.TradeMade': WHATEVER THE INPUT: true; the input reads as it did. -/
def tradeMadeSpec : ChangeSpec := { name := "tradeMade", fn := fun _ => fun
  | [d1, d2] => { results := [.lit (.bool true)], args := [d1, d2] }
  | _ => none }
def tradeMadeRow : OpenClaim := { program := "ytnbponopcbgndaa", sum := "dcd8b3acbc83ab4103bbab68d55ead3b767037c038fb9a83a50132da0257d266", func := "agora/agoralaw.TradeMade", spec := "tradeMade", unfollowed := true, recurses := true, apart := false }
def TradeMadeSaid : Prop := tradeMadeRow.holds Try.pinned (OpenSpec.ofChange tradeMadeSpec)

/-- ITS FALSE NEIGHBOUR: 'it returns false'. Refute it at one input. -/
def tradeMadeWrong : ChangeSpec := { name := "tradeMade", fn := fun _ => fun
  | [d1, d2] => { results := [.lit (.bool false)], args := [d1, d2] }
  | _ => none }
def TradeMadeWrongFalsely : Prop := tradeMadeRow.holds Try.pinned (OpenSpec.ofChange tradeMadeWrong)

/-- 'agoratop.TopCore': WHATEVER THE INPUT: true; the input reads as it did. -/
def topCoreSpec : ChangeSpec := { name := "topCore", fn := fun _ => fun
  | [d1, d2, d3, d4] => { results := [.lit (.bool true)], args := [d1, d2, d3, d4] }
  | _ => none }
def topCoreRow : OpenClaim := { program := "ytnbponopcbgndaa", sum := "dcd8b3acbc83ab4103bbab68d55ead3b767037c038fb9a83a50132da0257d266", func := "agora/agoratop.TopCore", spec := "topCore", unfollowed := true, recurses := true, apart := false }
def TopCoreSaid : Prop := topCoreRow.holds Try.pinned (OpenSpec.ofChange topCoreSpec)

/-- ITS FALSE NEIGHBOUR: 'it returns false'. Refute it at one input. -/
def topCoreWrong : ChangeSpec := { name := "topCore", fn := fun _ => fun
  | [d1, d2, d3, d4] => { results := [.lit (.bool false)], args := [d1, d2, d3, d4] }
  | _ => none }
def TopCoreWrongFalsely : Prop := topCoreRow.holds Try.pinned (OpenSpec.ofChange topCoreWrong)

/- THE SECOND FORM. 'bulk': how many values and letters a reading holds, each counted each time it is reached (what is shared counts as often as it is met; a slice's spare places count too). A statement '..UptoSaid' is the law's where the arguments, and the package variables that the reading takes, are together of bulk at most 1048576: NARROWER than '..Said'. Prove '..Said' where nothing that the law and all that it calls make is longer than what came in: it says more and counts as full. Else prove '..UptoSaid'. A law counts once. -/
mutual
def uptoBulk {H : Type} : DataW H → Nat
  | .lit (.string bytes) => bytes.length + 1
  | .lit _ => 1
  | .nil => 1
  | .ptr d => uptoBulk d + 1
  | .slice elems spare => uptoBulkAll elems + uptoBulkAll spare + 1
  | .agg parts => uptoBulkAll parts + 1
  | .iface _ d => uptoBulk d + 1
  | .map entries => uptoBulkEntries entries + 1
  | .held _ => 1
def uptoBulkAll {H : Type} : List (DataW H) → Nat
  | [] => 0
  | d :: r => uptoBulk d + uptoBulkAll r
def uptoBulkEntries {H : Type} : List (Lit × DataW H) → Nat
  | [] => 0
  | x :: r => uptoBulkEntry x + uptoBulkEntries r
def uptoBulkEntry {H : Type} : Lit × DataW H → Nat
  | (.string bytes, d) => bytes.length + uptoBulk d + 1
  | (_, d) => uptoBulk d + 1
 end
def uptoSmall : (H : Type) → List (DataW H) → Bool := fun _ ds => decide (uptoBulkAll ds ≤ 1048576)
def OpenSpec.upto (s : _root_.Go.ChangeSpec) : _root_.Go.OpenSpec := { _root_.Go.OpenSpec.ofChange s with cond := some uptoSmall }

/-- 'agoralaw.TradeSchools', WHERE WHAT IT READS IS OF BULK AT MOST 1048576: true; the input reads as it did. -/
def tradeSchoolsUptoRow : OpenClaim := { program := "ytnbponopcbgndaa", sum := "dcd8b3acbc83ab4103bbab68d55ead3b767037c038fb9a83a50132da0257d266", func := "agora/agoralaw.TradeSchools", spec := "tradeSchools", unfollowed := true, recurses := true, apart := false, narrowed := true }
def TradeSchoolsUptoSaid : Prop := tradeSchoolsUptoRow.holds Try.pinned (OpenSpec.upto tradeSchoolsSpec)

/-- 'agoralaw.TradeSays', WHERE WHAT IT READS IS OF BULK AT MOST 1048576: true; the input reads as it did. -/
def tradeSaysUptoRow : OpenClaim := { program := "ytnbponopcbgndaa", sum := "dcd8b3acbc83ab4103bbab68d55ead3b767037c038fb9a83a50132da0257d266", func := "agora/agoralaw.TradeSays", spec := "tradeSays", unfollowed := true, recurses := true, apart := false, narrowed := true }
def TradeSaysUptoSaid : Prop := tradeSaysUptoRow.holds Try.pinned (OpenSpec.upto tradeSaysSpec)

/-- 'agoralaw.TradeMade', WHERE WHAT IT READS IS OF BULK AT MOST 1048576: true; the input reads as it did. -/
def tradeMadeUptoRow : OpenClaim := { program := "ytnbponopcbgndaa", sum := "dcd8b3acbc83ab4103bbab68d55ead3b767037c038fb9a83a50132da0257d266", func := "agora/agoralaw.TradeMade", spec := "tradeMade", unfollowed := true, recurses := true, apart := false, narrowed := true }
def TradeMadeUptoSaid : Prop := tradeMadeUptoRow.holds Try.pinned (OpenSpec.upto tradeMadeSpec)

/-- 'agoratop.TopCore', WHERE WHAT IT READS IS OF BULK AT MOST 1048576: true; the input reads as it did. -/
def topCoreUptoRow : OpenClaim := { program := "ytnbponopcbgndaa", sum := "dcd8b3acbc83ab4103bbab68d55ead3b767037c038fb9a83a50132da0257d266", func := "agora/agoratop.TopCore", spec := "topCore", unfollowed := true, recurses := true, apart := false, narrowed := true }
def TopCoreUptoSaid : Prop := topCoreUptoRow.holds Try.pinned (OpenSpec.upto topCoreSpec)

end Rows
end Go.Proofs.Ytnbponopcbgndaa
