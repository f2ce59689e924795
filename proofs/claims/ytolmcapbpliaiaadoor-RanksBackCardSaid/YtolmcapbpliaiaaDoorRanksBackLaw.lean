/- The law 'RanksBack' answers true. Conditions: none. -/
import Derived.Test.YtolmcapbpliaiaaDoorRows
import Derived.Test.YtolmcapbpliaiaaDoorTie
import Derived.Test.YtolmcapbpliaiaaDoorCards
import Derived.SevenTiedAt
import Derived.LaidMore
import Derived.Lay
import Derived.Test.YtolmcapbpliaiaaDoorAbsR
import Derived.Test.YtolmcapbpliaiaaDoorFo
namespace Go.Proofs.YtolmcapbpliaiaaDoor
open Go.Abs Go.ChangeShapes Go.WideShapes Go.ChangeAt Go.RowKit
set_option linter.unusedVariables false

set_option maxRecDepth 100000
theorem own : ownKnob Tryd.prog.godebug = none := by kernel_rfl
theorem laidOut : laidOutB Tryd.prog = true := by kernel_rfl

theorem rdT9 : Rd Tryd.prog 9 ByteArray (fun n => [.str n]) := .str rfl
theorem rdI3 : Rd Tryd.prog 3 Int (fun n => [.i n]) := .int rfl
theorem rdL25 : Rd Tryd.prog 25 (List Int) (fun l => [.ints l]) := rdI3.slice rfl rfl (Nat.le_of_ble_eq_true (by kernel_rfl)) (Nat.le_of_ble_eq_true (by kernel_rfl))
theorem rdS27 : Rd Tryd.prog 27 (ByteArray × Int × (List Int) × Unit) (fun p => [.str p.1, .i p.2.1, .ints p.2.2.1]) :=
  Rd.struct (ts := [9, 3, 25]) (.cons rdT9 (.cons rdI3 (.cons rdL25 .nil))) Tryd.underlying27 rfl fun cs h => by
    have h : cs.length = 3 := h
    match cs, h with
    | [a0, a1, a2], _ => rfl
theorem rdL22 : Rd Tryd.prog 22 (List (ByteArray × Int × (List Int) × Unit)) (fun l => [.seq (ByteArray × Int × (List Int) × Unit) (ByteArray.empty, 0, [], ()) (fun p => [.str p.1, .i p.2.1, .ints p.2.2.1]) l]) := rdS27.slice rfl rfl (Nat.le_of_ble_eq_true (by kernel_rfl)) (Nat.le_of_ble_eq_true (by kernel_rfl))
theorem rdS24 : Rd Tryd.prog 24 ((List (ByteArray × Int × (List Int) × Unit)) × (List (ByteArray × Int × (List Int) × Unit)) × Unit) (fun p => [.seq (ByteArray × Int × (List Int) × Unit) (ByteArray.empty, 0, [], ()) (fun p => [.str p.1, .i p.2.1, .ints p.2.2.1]) p.1, .seq (ByteArray × Int × (List Int) × Unit) (ByteArray.empty, 0, [], ()) (fun p => [.str p.1, .i p.2.1, .ints p.2.2.1]) p.2.1]) :=
  Rd.struct (ts := [22, 22]) (.cons rdL22 (.cons rdL22 .nil)) Tryd.underlying24 rfl fun cs h => by
    have h : cs.length = 2 := h
    match cs, h with
    | [a0, a1], _ => rfl

set_option maxRecDepth 100000 in
theorem ranksBack_lifted (os : Os) (started : os.Started) (H : Type) (enc : TypeId × Value → H) :
    ReturnsInHanded {} Tryd.checked os 5 .any (fun w args => (Rows.ranksBackSpec.pre enc Tryd.prog Tryd.f5 Rows.ranksBackRow.domain false w args ∧ laidMetH Tryd.prog Rows.ranksBackRow.laid w) ∧ sizedMet enc Tryd.prog Tryd.f5 (OpenSpec.ofChange Rows.ranksBackSpec) false w args) (Rows.ranksBackSpec.post enc Tryd.prog Tryd.f5 false true false false) := by
  refine returnsInHanded_of_change_and (C := Tryd.checked) (X := fun w _ => laidMetH Tryd.prog Rows.ranksBackRow.laid w) (fun _ _ _ hh h => h.of_heap hh) own started (by kernel_rfl) Tryd.func5
    (ChangeSpec.witness_shaped (enc := enc) (C := Tryd.checked) (os := os) (X := fun w _ => laidMetH Tryd.prog Rows.ranksBackRow.laid w) false (World.laidAll Tryd.prog os Rows.ranksBackRow.laid) #[.agg #[.slice none 0 0, .slice none 0 0]] 8 (World.laidAll_os _ _ _)
      (World.shaped_of_ZipB (by kernel_rfl) (by kernel_rfl)) (by kernel_rfl) (by kernel_rfl) (by kernel_rfl)
      (by rw [MakeChecks.laidMetH_plain _ _ _ (by kernel_rfl)]; exact laidMet_laidAll _ (by kernel_rfl) (by kernel_rfl))) ?_
  intro W base args ds gs before hval hW hcnd hsz _ _
  refine law_calls_all (P := Tryd.prog) laidOut ?_ rfl Tryd.underlying4 rfl hval hW hsz rfl (.cons (.agg rdS24 rfl) .nil) ?_ fun x => RanksBack_fc x.1.1 x.1.2.1
  · exact fun t ht => by
      have h : (Tryd.f5.params.toList.all fun t => Tryd.prog.readableRec t && decide (t < Tryd.prog.types.size)) = true := by kernel_rfl
      simpa using List.all_eq_true.1 h t ht
  · intro hl
    match ds, hl with
    | [d1], _ => rfl

theorem ranksBack_holds : Rows.RanksBackSaid :=
  OpenClaim.holds_of_wide 5 Tryd.f5 rfl rfl rfl rfl rfl rfl rfl ⟨rfl, rfl, rfl, rfl, rfl⟩ rfl rfl rfl rfl rfl (by kernel_rfl) Tryd.func5 (by kernel_rfl)
    (of_decide_eq_true (by kernel_rfl)) (by unfold Func.isWrapper; first | (rw [if_pos (by decide +kernel)]; kernel_rfl) | (rw [if_neg (by decide +kernel)]; exact ⟨rfl, rfl⟩))
    (fun os started H enc _ => ranksBack_lifted os started H enc)

theorem ranksBack_card : Rows.RanksBackCardSaid :=
  Claim7.holds_tied_plain_at .later [] [.data, .data, .data, .data, .sentinel, .sentinel, .pinned] true (true, "f51d71335585c06523780370731c10692345a4cf57877a48af6b57afd731ae11") true
    ranksBack_holds (fun _ h => by cases h) (by kernel_rfl) (fun _ h => by cases h) ranksBack_row_tie rfl ⟨rfl, rfl⟩ (by kernel_rfl) rfl
    (fun f fn hf hfn => by
      obtain rfl : f = 5 := Option.some.inj ((show Tryd.prog.funcNamed "agora/agoralaw.RanksBack" = some 5 by kernel_rfl).symm.trans hf) |>.symm
      obtain rfl : fn = Tryd.f5 := (Option.some.inj (Tryd.func5.symm.trans hfn)).symm
      exact ⟨by kernel_rfl, fun j t ht => by
        rw [Tryd.params5] at ht
        have hm : t ∈ [24] := by simpa using Array.mem_of_getElem? ht
        have hall : ([24].all fun u => !Tryd.prog.wantsStandIn u) = true := by kernel_rfl
        exact (show Tryd.prog.wantsStandIn t = false by simpa using List.all_eq_true.1 hall t hm)⟩)
    (by kernel_rfl)
end Go.Proofs.YtolmcapbpliaiaaDoor
