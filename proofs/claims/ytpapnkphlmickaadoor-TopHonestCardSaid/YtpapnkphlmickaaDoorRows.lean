/-
  NARROWER THAN 'FOR EVERY INPUT', by the rows' own cells (each row's printed sentence says how): MatchSays: laid · MatchFinds: laid · MatchMade: laid · TopHonest: laid · TopLattice: laid · TopStable: laid · TopRural: laid.
  DERIVED. THE GIVEN ROWS OF THIS SEAT. 7 by the template 'for every input the law returns true; each argument reads behind the call as it read before'; 0 by the template 'total and deterministic' (their statements: YtpapnkphlmickaaDoorTotals.lean).
  GIVEN WITH THE SEED: the statements are not yours to turn. If you find one false, say at which input.
  Laid BY PROGRAM, IN A SANDBOX (cutbox-rows.mjs): the forced cells as the released guide's own fill.sh prints them over the translation cd1c97268d1c78a8… (all of the seat's roots in one cut). By AI agents, Wed Nov 11 2026. No macro, syntax, notation, axiom, sorry.
-/
import Derived.Test.YtpapnkphlmickaaDoorChecked
import GoSem.PinnedTables
import GoSem.Claim
import GoSem.ClaimJoined
import GoSem.ClaimMapViews
import Derived.JoinedTies
import Derived.KernelRfl
namespace Go.Proofs.YtpapnkphlmickaaDoor
/- THE CELL 'sum', in the pinned program and in every row, IS THE sha256 OF THE DUMP (.gsa) THAT YtpapnkphlmickaaDoorProg.lean LOADS. Nothing in Lean hashes anything: it is a label: what it is worth is what the hold of that sum in a sandbox is worth. -/
noncomputable def Tryd.pinned : Pinned := { name := "ytpapnkphlmickaadoor", sum := "cd1c97268d1c78a8ed4b1063881e813fd30324ed4e7170dea8bf3e079db2d557", checked := Tryd.checked }
namespace Rows
def none {H : Type} : Left H := { results := [], args := [] }

/- WHAT THE LISTED PACKAGE-LEVEL VARIABLES READ AS WHEN THE CALL BEGINS. Each datum BY PROGRAM (the guide's laid-datum.mjs) off the statement by which the dump's own 'gosem.cut.vars' lays the variable. In a bare row this is a premise. The card (YtpapnkphlmickaaDoorCards.lean) ties it to the program's text. -/
def laid_unicode_utf8_acceptRanges {H : Type} : DataW H := .agg [.agg [.lit (.int .u8 128), .lit (.int .u8 191)], .agg [.lit (.int .u8 160), .lit (.int .u8 191)], .agg [.lit (.int .u8 128), .lit (.int .u8 159)], .agg [.lit (.int .u8 144), .lit (.int .u8 191)], .agg [.lit (.int .u8 128), .lit (.int .u8 143)], .agg [.lit (.int .u8 0), .lit (.int .u8 0)], .agg [.lit (.int .u8 0), .lit (.int .u8 0)], .agg [.lit (.int .u8 0), .lit (.int .u8 0)], .agg [.lit (.int .u8 0), .lit (.int .u8 0)], .agg [.lit (.int .u8 0), .lit (.int .u8 0)], .agg [.lit (.int .u8 0), .lit (.int .u8 0)], .agg [.lit (.int .u8 0), .lit (.int .u8 0)], .agg [.lit (.int .u8 0), .lit (.int .u8 0)], .agg [.lit (.int .u8 0), .lit (.int .u8 0)], .agg [.lit (.int .u8 0), .lit (.int .u8 0)], .agg [.lit (.int .u8 0), .lit (.int .u8 0)]]
/-- One of Go's own tables, pinned by name: the form's constant. -/
def laid_unicode_utf8_first : DataW Unit := Go.Pinned.utf8First

/-- 'agoralaw.MatchSays': WHATEVER THE INPUT: true; the input reads as it did. -/
def matchSaysSpec : ChangeSpec := { name := "matchSays", fn := fun _ => fun
  | [d1, d2, d3] => { results := [.lit (.bool true)], args := [d1, d2, d3] }
  | _ => none }
def matchSaysRow : OpenClaim := { program := "ytpapnkphlmickaadoor", sum := "cd1c97268d1c78a8ed4b1063881e813fd30324ed4e7170dea8bf3e079db2d557", func := "agora/agoralaw.MatchSays", spec := "matchSays", inPlace := ["internal/bytealg.IndexByteString", "internal/bytealg.IndexString"], unfollowed := true, recurses := true, named := ["unicode/utf8.first", "unicode/utf8.acceptRanges", "internal/bytealg.MaxLen"], apart := false, laid := [("unicode/utf8.acceptRanges", laid_unicode_utf8_acceptRanges), ("unicode/utf8.first", laid_unicode_utf8_first)] }
def MatchSaysSaid : Prop := matchSaysRow.holds Tryd.pinned (OpenSpec.ofChange matchSaysSpec)

/-- ITS FALSE NEIGHBOUR: 'it returns false'. Refute it at one input. -/
def matchSaysWrong : ChangeSpec := { name := "matchSays", fn := fun _ => fun
  | [d1, d2, d3] => { results := [.lit (.bool false)], args := [d1, d2, d3] }
  | _ => none }
def MatchSaysWrongFalsely : Prop := matchSaysRow.holds Tryd.pinned (OpenSpec.ofChange matchSaysWrong)

/-- 'agoralaw.MatchFinds': WHATEVER THE INPUT: true; the input reads as it did. -/
def matchFindsSpec : ChangeSpec := { name := "matchFinds", fn := fun _ => fun
  | [d] => { results := [.lit (.bool true)], args := [d] }
  | _ => none }
def matchFindsRow : OpenClaim := { program := "ytpapnkphlmickaadoor", sum := "cd1c97268d1c78a8ed4b1063881e813fd30324ed4e7170dea8bf3e079db2d557", func := "agora/agoralaw.MatchFinds", spec := "matchFinds", inPlace := ["internal/bytealg.IndexByteString", "internal/bytealg.IndexString"], unfollowed := true, recurses := true, named := ["unicode/utf8.first", "unicode/utf8.acceptRanges", "internal/bytealg.MaxLen"], apart := false, laid := [("unicode/utf8.acceptRanges", laid_unicode_utf8_acceptRanges), ("unicode/utf8.first", laid_unicode_utf8_first)] }
def MatchFindsSaid : Prop := matchFindsRow.holds Tryd.pinned (OpenSpec.ofChange matchFindsSpec)

/-- ITS FALSE NEIGHBOUR: 'it returns false'. Refute it at one input. -/
def matchFindsWrong : ChangeSpec := { name := "matchFinds", fn := fun _ => fun
  | [d] => { results := [.lit (.bool false)], args := [d] }
  | _ => none }
def MatchFindsWrongFalsely : Prop := matchFindsRow.holds Tryd.pinned (OpenSpec.ofChange matchFindsWrong)

/-- 'agoralaw.MatchMade': WHATEVER THE INPUT: true; the input reads as it did. -/
def matchMadeSpec : ChangeSpec := { name := "matchMade", fn := fun _ => fun
  | [d1, d2, d3] => { results := [.lit (.bool true)], args := [d1, d2, d3] }
  | _ => none }
def matchMadeRow : OpenClaim := { program := "ytpapnkphlmickaadoor", sum := "cd1c97268d1c78a8ed4b1063881e813fd30324ed4e7170dea8bf3e079db2d557", func := "agora/agoralaw.MatchMade", spec := "matchMade", inPlace := ["internal/bytealg.IndexByteString", "internal/bytealg.IndexString"], unfollowed := true, recurses := true, named := ["unicode/utf8.first", "unicode/utf8.acceptRanges", "internal/bytealg.MaxLen"], apart := false, laid := [("unicode/utf8.acceptRanges", laid_unicode_utf8_acceptRanges), ("unicode/utf8.first", laid_unicode_utf8_first)] }
def MatchMadeSaid : Prop := matchMadeRow.holds Tryd.pinned (OpenSpec.ofChange matchMadeSpec)

/-- ITS FALSE NEIGHBOUR: 'it returns false'. Refute it at one input. -/
def matchMadeWrong : ChangeSpec := { name := "matchMade", fn := fun _ => fun
  | [d1, d2, d3] => { results := [.lit (.bool false)], args := [d1, d2, d3] }
  | _ => none }
def MatchMadeWrongFalsely : Prop := matchMadeRow.holds Tryd.pinned (OpenSpec.ofChange matchMadeWrong)

/-- 'agoratop.TopHonest': WHATEVER THE INPUT: true; the input reads as it did. -/
def topHonestSpec : ChangeSpec := { name := "topHonest", fn := fun _ => fun
  | [d1, d2, d3, d4, d5] => { results := [.lit (.bool true)], args := [d1, d2, d3, d4, d5] }
  | _ => none }
def topHonestRow : OpenClaim := { program := "ytpapnkphlmickaadoor", sum := "cd1c97268d1c78a8ed4b1063881e813fd30324ed4e7170dea8bf3e079db2d557", func := "agora/agoratop.TopHonest", spec := "topHonest", inPlace := ["internal/bytealg.IndexByteString", "internal/bytealg.IndexString"], named := ["unicode/utf8.first", "unicode/utf8.acceptRanges", "internal/bytealg.MaxLen"], apart := false, laid := [("unicode/utf8.acceptRanges", laid_unicode_utf8_acceptRanges), ("unicode/utf8.first", laid_unicode_utf8_first)] }
def TopHonestSaid : Prop := topHonestRow.holds Tryd.pinned (OpenSpec.ofChange topHonestSpec)

/-- ITS FALSE NEIGHBOUR: 'it returns false'. Refute it at one input. -/
def topHonestWrong : ChangeSpec := { name := "topHonest", fn := fun _ => fun
  | [d1, d2, d3, d4, d5] => { results := [.lit (.bool false)], args := [d1, d2, d3, d4, d5] }
  | _ => none }
def TopHonestWrongFalsely : Prop := topHonestRow.holds Tryd.pinned (OpenSpec.ofChange topHonestWrong)

/-- 'agoratop.TopLattice': WHATEVER THE INPUT: true; the input reads as it did. -/
def topLatticeSpec : ChangeSpec := { name := "topLattice", fn := fun _ => fun
  | [d1, d2, d3, d4, d5] => { results := [.lit (.bool true)], args := [d1, d2, d3, d4, d5] }
  | _ => none }
def topLatticeRow : OpenClaim := { program := "ytpapnkphlmickaadoor", sum := "cd1c97268d1c78a8ed4b1063881e813fd30324ed4e7170dea8bf3e079db2d557", func := "agora/agoratop.TopLattice", spec := "topLattice", inPlace := ["internal/bytealg.IndexByteString", "internal/bytealg.IndexString"], unfollowed := true, recurses := true, named := ["unicode/utf8.first", "unicode/utf8.acceptRanges", "internal/bytealg.MaxLen"], apart := false, laid := [("unicode/utf8.acceptRanges", laid_unicode_utf8_acceptRanges), ("unicode/utf8.first", laid_unicode_utf8_first)] }
def TopLatticeSaid : Prop := topLatticeRow.holds Tryd.pinned (OpenSpec.ofChange topLatticeSpec)

/-- ITS FALSE NEIGHBOUR: 'it returns false'. Refute it at one input. -/
def topLatticeWrong : ChangeSpec := { name := "topLattice", fn := fun _ => fun
  | [d1, d2, d3, d4, d5] => { results := [.lit (.bool false)], args := [d1, d2, d3, d4, d5] }
  | _ => none }
def TopLatticeWrongFalsely : Prop := topLatticeRow.holds Tryd.pinned (OpenSpec.ofChange topLatticeWrong)

/-- 'agoratop.TopStable': WHATEVER THE INPUT: true; the input reads as it did. -/
def topStableSpec : ChangeSpec := { name := "topStable", fn := fun _ => fun
  | [d1, d2, d3, d4] => { results := [.lit (.bool true)], args := [d1, d2, d3, d4] }
  | _ => none }
def topStableRow : OpenClaim := { program := "ytpapnkphlmickaadoor", sum := "cd1c97268d1c78a8ed4b1063881e813fd30324ed4e7170dea8bf3e079db2d557", func := "agora/agoratop.TopStable", spec := "topStable", inPlace := ["internal/bytealg.IndexByteString", "internal/bytealg.IndexString"], unfollowed := true, recurses := true, named := ["unicode/utf8.first", "unicode/utf8.acceptRanges", "internal/bytealg.MaxLen"], apart := false, laid := [("unicode/utf8.acceptRanges", laid_unicode_utf8_acceptRanges), ("unicode/utf8.first", laid_unicode_utf8_first)] }
def TopStableSaid : Prop := topStableRow.holds Tryd.pinned (OpenSpec.ofChange topStableSpec)

/-- ITS FALSE NEIGHBOUR: 'it returns false'. Refute it at one input. -/
def topStableWrong : ChangeSpec := { name := "topStable", fn := fun _ => fun
  | [d1, d2, d3, d4] => { results := [.lit (.bool false)], args := [d1, d2, d3, d4] }
  | _ => none }
def TopStableWrongFalsely : Prop := topStableRow.holds Tryd.pinned (OpenSpec.ofChange topStableWrong)

/-- 'agoratop.TopRural': WHATEVER THE INPUT: true; the input reads as it did. -/
def topRuralSpec : ChangeSpec := { name := "topRural", fn := fun _ => fun
  | [d1, d2, d3] => { results := [.lit (.bool true)], args := [d1, d2, d3] }
  | _ => none }
def topRuralRow : OpenClaim := { program := "ytpapnkphlmickaadoor", sum := "cd1c97268d1c78a8ed4b1063881e813fd30324ed4e7170dea8bf3e079db2d557", func := "agora/agoratop.TopRural", spec := "topRural", inPlace := ["internal/bytealg.IndexByteString", "internal/bytealg.IndexString"], unfollowed := true, recurses := true, named := ["unicode/utf8.first", "unicode/utf8.acceptRanges", "internal/bytealg.MaxLen"], apart := false, laid := [("unicode/utf8.acceptRanges", laid_unicode_utf8_acceptRanges), ("unicode/utf8.first", laid_unicode_utf8_first)] }
def TopRuralSaid : Prop := topRuralRow.holds Tryd.pinned (OpenSpec.ofChange topRuralSpec)

/-- ITS FALSE NEIGHBOUR: 'it returns false'. Refute it at one input. -/
def topRuralWrong : ChangeSpec := { name := "topRural", fn := fun _ => fun
  | [d1, d2, d3] => { results := [.lit (.bool false)], args := [d1, d2, d3] }
  | _ => none }
def TopRuralWrongFalsely : Prop := topRuralRow.holds Tryd.pinned (OpenSpec.ofChange topRuralWrong)

/- THE SECOND FORM. 'bulk': how many values and letters a reading holds, each counted each time it is reached (what is shared counts as often as it is met; a slice's spare places count too). A statement '..UptoSaid' is the law's where the arguments, and the package variables that the reading takes, are together of bulk at most 1048576: NARROWER than '..Said'. Prove '..Said' where nothing that the law and all that it calls make is longer than what came in: it says more and counts as full. Else prove '..UptoSaid'. A law counts once. -/
mutual
def uptoBulk {H : Type} : DataW H → Nat
  | .lit (.string bytes) => bytes.length + 1
  | .lit _ => 1
  | .nil => 1
  | .ptr d => uptoBulk d + 1
  | .slice elems spare => uptoBulkAll elems + uptoBulkAll spare + 1
  | .agg parts => uptoBulkAll parts + 1
  | .iface _ d => uptoBulk d + 1
  | .map entries => uptoBulkEntries entries + 1
  | .held _ => 1
def uptoBulkAll {H : Type} : List (DataW H) → Nat
  | [] => 0
  | d :: r => uptoBulk d + uptoBulkAll r
def uptoBulkEntries {H : Type} : List (Lit × DataW H) → Nat
  | [] => 0
  | x :: r => uptoBulkEntry x + uptoBulkEntries r
def uptoBulkEntry {H : Type} : Lit × DataW H → Nat
  | (.string bytes, d) => bytes.length + uptoBulk d + 1
  | (_, d) => uptoBulk d + 1
 end
def uptoSmall : (H : Type) → List (DataW H) → Bool := fun _ ds => decide (uptoBulkAll ds ≤ 1048576)
def OpenSpec.upto (s : _root_.Go.ChangeSpec) : _root_.Go.OpenSpec := { _root_.Go.OpenSpec.ofChange s with cond := some uptoSmall }

/-- 'agoralaw.MatchSays', WHERE WHAT IT READS IS OF BULK AT MOST 1048576: true; the input reads as it did. -/
def matchSaysUptoRow : OpenClaim := { program := "ytpapnkphlmickaadoor", sum := "cd1c97268d1c78a8ed4b1063881e813fd30324ed4e7170dea8bf3e079db2d557", func := "agora/agoralaw.MatchSays", spec := "matchSays", inPlace := ["internal/bytealg.IndexByteString", "internal/bytealg.IndexString"], unfollowed := true, recurses := true, named := ["unicode/utf8.first", "unicode/utf8.acceptRanges", "internal/bytealg.MaxLen"], apart := false, laid := [("unicode/utf8.acceptRanges", laid_unicode_utf8_acceptRanges), ("unicode/utf8.first", laid_unicode_utf8_first)], narrowed := true }
def MatchSaysUptoSaid : Prop := matchSaysUptoRow.holds Tryd.pinned (OpenSpec.upto matchSaysSpec)

/-- 'agoralaw.MatchFinds', WHERE WHAT IT READS IS OF BULK AT MOST 1048576: true; the input reads as it did. -/
def matchFindsUptoRow : OpenClaim := { program := "ytpapnkphlmickaadoor", sum := "cd1c97268d1c78a8ed4b1063881e813fd30324ed4e7170dea8bf3e079db2d557", func := "agora/agoralaw.MatchFinds", spec := "matchFinds", inPlace := ["internal/bytealg.IndexByteString", "internal/bytealg.IndexString"], unfollowed := true, recurses := true, named := ["unicode/utf8.first", "unicode/utf8.acceptRanges", "internal/bytealg.MaxLen"], apart := false, laid := [("unicode/utf8.acceptRanges", laid_unicode_utf8_acceptRanges), ("unicode/utf8.first", laid_unicode_utf8_first)], narrowed := true }
def MatchFindsUptoSaid : Prop := matchFindsUptoRow.holds Tryd.pinned (OpenSpec.upto matchFindsSpec)

/-- 'agoralaw.MatchMade', WHERE WHAT IT READS IS OF BULK AT MOST 1048576: true; the input reads as it did. -/
def matchMadeUptoRow : OpenClaim := { program := "ytpapnkphlmickaadoor", sum := "cd1c97268d1c78a8ed4b1063881e813fd30324ed4e7170dea8bf3e079db2d557", func := "agora/agoralaw.MatchMade", spec := "matchMade", inPlace := ["internal/bytealg.IndexByteString", "internal/bytealg.IndexString"], unfollowed := true, recurses := true, named := ["unicode/utf8.first", "unicode/utf8.acceptRanges", "internal/bytealg.MaxLen"], apart := false, laid := [("unicode/utf8.acceptRanges", laid_unicode_utf8_acceptRanges), ("unicode/utf8.first", laid_unicode_utf8_first)], narrowed := true }
def MatchMadeUptoSaid : Prop := matchMadeUptoRow.holds Tryd.pinned (OpenSpec.upto matchMadeSpec)

/-- 'agoratop.TopHonest', WHERE WHAT IT READS IS OF BULK AT MOST 1048576: true; the input reads as it did. -/
def topHonestUptoRow : OpenClaim := { program := "ytpapnkphlmickaadoor", sum := "cd1c97268d1c78a8ed4b1063881e813fd30324ed4e7170dea8bf3e079db2d557", func := "agora/agoratop.TopHonest", spec := "topHonest", inPlace := ["internal/bytealg.IndexByteString", "internal/bytealg.IndexString"], named := ["unicode/utf8.first", "unicode/utf8.acceptRanges", "internal/bytealg.MaxLen"], apart := false, laid := [("unicode/utf8.acceptRanges", laid_unicode_utf8_acceptRanges), ("unicode/utf8.first", laid_unicode_utf8_first)], narrowed := true }
def TopHonestUptoSaid : Prop := topHonestUptoRow.holds Tryd.pinned (OpenSpec.upto topHonestSpec)

/-- 'agoratop.TopLattice', WHERE WHAT IT READS IS OF BULK AT MOST 1048576: true; the input reads as it did. -/
def topLatticeUptoRow : OpenClaim := { program := "ytpapnkphlmickaadoor", sum := "cd1c97268d1c78a8ed4b1063881e813fd30324ed4e7170dea8bf3e079db2d557", func := "agora/agoratop.TopLattice", spec := "topLattice", inPlace := ["internal/bytealg.IndexByteString", "internal/bytealg.IndexString"], unfollowed := true, recurses := true, named := ["unicode/utf8.first", "unicode/utf8.acceptRanges", "internal/bytealg.MaxLen"], apart := false, laid := [("unicode/utf8.acceptRanges", laid_unicode_utf8_acceptRanges), ("unicode/utf8.first", laid_unicode_utf8_first)], narrowed := true }
def TopLatticeUptoSaid : Prop := topLatticeUptoRow.holds Tryd.pinned (OpenSpec.upto topLatticeSpec)

/-- 'agoratop.TopStable', WHERE WHAT IT READS IS OF BULK AT MOST 1048576: true; the input reads as it did. -/
def topStableUptoRow : OpenClaim := { program := "ytpapnkphlmickaadoor", sum := "cd1c97268d1c78a8ed4b1063881e813fd30324ed4e7170dea8bf3e079db2d557", func := "agora/agoratop.TopStable", spec := "topStable", inPlace := ["internal/bytealg.IndexByteString", "internal/bytealg.IndexString"], unfollowed := true, recurses := true, named := ["unicode/utf8.first", "unicode/utf8.acceptRanges", "internal/bytealg.MaxLen"], apart := false, laid := [("unicode/utf8.acceptRanges", laid_unicode_utf8_acceptRanges), ("unicode/utf8.first", laid_unicode_utf8_first)], narrowed := true }
def TopStableUptoSaid : Prop := topStableUptoRow.holds Tryd.pinned (OpenSpec.upto topStableSpec)

/-- 'agoratop.TopRural', WHERE WHAT IT READS IS OF BULK AT MOST 1048576: true; the input reads as it did. -/
def topRuralUptoRow : OpenClaim := { program := "ytpapnkphlmickaadoor", sum := "cd1c97268d1c78a8ed4b1063881e813fd30324ed4e7170dea8bf3e079db2d557", func := "agora/agoratop.TopRural", spec := "topRural", inPlace := ["internal/bytealg.IndexByteString", "internal/bytealg.IndexString"], unfollowed := true, recurses := true, named := ["unicode/utf8.first", "unicode/utf8.acceptRanges", "internal/bytealg.MaxLen"], apart := false, laid := [("unicode/utf8.acceptRanges", laid_unicode_utf8_acceptRanges), ("unicode/utf8.first", laid_unicode_utf8_first)], narrowed := true }
def TopRuralUptoSaid : Prop := topRuralUptoRow.holds Tryd.pinned (OpenSpec.upto topRuralSpec)

end Rows
end Go.Proofs.YtpapnkphlmickaaDoor
