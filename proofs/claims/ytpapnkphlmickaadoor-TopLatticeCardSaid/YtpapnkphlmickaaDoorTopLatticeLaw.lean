/- The law 'TopLattice' answers true. Conditions: none. -/
import Derived.Test.YtpapnkphlmickaaDoorRows
import Derived.Test.YtpapnkphlmickaaDoorTie
import Derived.Test.YtpapnkphlmickaaDoorCards
import Derived.SevenTiedAt
import Derived.LaidMore
import Derived.Lay
import Derived.Test.YtpapnkphlmickaaDoorAbsR
import Derived.Test.YtpapnkphlmickaaDoorFl
namespace Go.Proofs.YtpapnkphlmickaaDoor
open Go.Abs Go.ChangeShapes Go.WideShapes Go.ChangeAt Go.RowKit
set_option linter.unusedVariables false

set_option maxRecDepth 100000
theorem own : ownKnob Tryd.prog.godebug = none := by kernel_rfl
theorem laidOut : laidOutB Tryd.prog = true := by kernel_rfl

theorem rdI3 : Rd Tryd.prog 3 Int (fun n => [.i n]) := .int rfl
theorem rdL25 : Rd Tryd.prog 25 (List Int) (fun l => [.ints l]) := rdI3.slice rfl rfl (Nat.le_of_ble_eq_true (by kernel_rfl)) (Nat.le_of_ble_eq_true (by kernel_rfl))

set_option maxRecDepth 100000 in
theorem topLattice_lifted (os : Os) (started : os.Started) (H : Type) (enc : TypeId × Value → H) :
    ReturnsInHanded {} Tryd.checked os 7 .any (fun w args => (Rows.topLatticeSpec.pre enc Tryd.prog Tryd.f7 Rows.topLatticeRow.domain false w args ∧ laidMetH Tryd.prog Rows.topLatticeRow.laid w) ∧ sizedMet enc Tryd.prog Tryd.f7 (OpenSpec.ofChange Rows.topLatticeSpec) false w args) (Rows.topLatticeSpec.post enc Tryd.prog Tryd.f7 false true false false) := by
  refine returnsInHanded_of_change_and (C := Tryd.checked) (X := fun w _ => laidMetH Tryd.prog Rows.topLatticeRow.laid w) (fun _ _ _ hh h => h.of_heap hh) own started (by kernel_rfl) Tryd.func7
    (ChangeSpec.witness_shaped (enc := enc) (C := Tryd.checked) (os := os) (X := fun w _ => laidMetH Tryd.prog Rows.topLatticeRow.laid w) false (World.laidAll Tryd.prog os Rows.topLatticeRow.laid) #[.slice none 0 0, .int .i64 0, .int .i64 0, .int .i64 0, .int .i64 0] 8 (World.laidAll_os _ _ _)
      (World.shaped_of_ZipB (by kernel_rfl) (by kernel_rfl)) (by kernel_rfl) (by kernel_rfl) (by kernel_rfl)
      (by rw [MakeChecks.laidMetH_plain _ _ _ (by kernel_rfl)]; exact laidMet_laidAll _ (by kernel_rfl) (by kernel_rfl))) ?_
  intro W base args ds gs before hval hW hcnd hsz _ _
  refine law_calls_all (P := Tryd.prog) laidOut ?_ rfl Tryd.underlying4 rfl hval hW hsz rfl (.cons (.flat rdL25 rfl) (.cons (.flat rdI3 rfl) (.cons (.flat rdI3 rfl) (.cons (.flat rdI3 rfl) (.cons (.flat rdI3 rfl) .nil))))) ?_ fun x => TopLattice_fc x.1 x.2.1 x.2.2.1 x.2.2.2.1 x.2.2.2.2.1
  · exact fun t ht => by
      have h : (Tryd.f7.params.toList.all fun t => Tryd.prog.readableRec t && decide (t < Tryd.prog.types.size)) = true := by kernel_rfl
      simpa using List.all_eq_true.1 h t ht
  · intro hl
    match ds, hl with
    | [d1, d2, d3, d4, d5], _ => rfl

theorem topLattice_holds : Rows.TopLatticeSaid :=
  OpenClaim.holds_of_wide 7 Tryd.f7 rfl rfl rfl rfl rfl rfl rfl ⟨rfl, rfl, rfl, rfl, rfl⟩ rfl rfl rfl rfl rfl (by kernel_rfl) Tryd.func7 (by kernel_rfl)
    (of_decide_eq_true (by kernel_rfl)) (by unfold Func.isWrapper; first | (rw [if_pos (by decide +kernel)]; kernel_rfl) | (rw [if_neg (by decide +kernel)]; exact ⟨rfl, rfl⟩))
    (fun os started H enc _ => topLattice_lifted os started H enc)

theorem topLattice_card : Rows.TopLatticeCardSaid :=
  Claim7.holds_tied_plain_at .later [] [.data, .pinned] true (true, "cbbcdee7b65efcecbae5ac253447ef3b1fede8deb6838a02cef731fabb32b924") false
    topLattice_holds (fun _ h => by cases h) (by kernel_rfl) (fun _ h => by cases h) topLattice_row_tie rfl ⟨rfl, rfl⟩ (by kernel_rfl) rfl
    (fun f fn hf hfn => by
      obtain rfl : f = 7 := Option.some.inj ((show Tryd.prog.funcNamed "agora/agoratop.TopLattice" = some 7 by kernel_rfl).symm.trans hf) |>.symm
      obtain rfl : fn = Tryd.f7 := (Option.some.inj (Tryd.func7.symm.trans hfn)).symm
      exact ⟨by kernel_rfl, fun j t ht => by
        rw [Tryd.params7] at ht
        have hm : t ∈ [25, 3, 3, 3, 3] := by simpa using Array.mem_of_getElem? ht
        have hall : ([25, 3, 3, 3, 3].all fun u => !Tryd.prog.wantsStandIn u) = true := by kernel_rfl
        exact (show Tryd.prog.wantsStandIn t = false by simpa using List.all_eq_true.1 hall t hm)⟩)
    (by kernel_rfl)
end Go.Proofs.YtpapnkphlmickaaDoor
