/- The law 'VoteSays' answers true. Conditions: none. -/
import Derived.Test.YtkbbdiodmeobaaaRows
import Derived.Test.YtkbbdiodmeobaaaAbsR
import Derived.Test.YtkbbdiodmeobaaaFh
namespace Go.Proofs.Ytkbbdiodmeobaaa
open Go.Abs Go.ChangeShapes Go.WideShapes Go.ChangeAt Go.RowKit
set_option linter.unusedVariables false

set_option maxRecDepth 100000
theorem own : ownKnob Try.prog.godebug = none := by kernel_rfl
theorem laidOut : laidOutB Try.prog = true := by kernel_rfl

theorem rdI3 : Rd Try.prog 3 Int (fun n => [.i n]) := .int rfl
theorem rdL23 : Rd Try.prog 23 (List Int) (fun l => [.ints l]) := rdI3.slice rfl rfl (Nat.le_of_ble_eq_true (by kernel_rfl)) (Nat.le_of_ble_eq_true (by kernel_rfl))
theorem rdS40 : Rd Try.prog 40 (Int × (List Int) × Unit) (fun p => [.i p.1, .ints p.2.1]) :=
  Rd.struct (ts := [3, 23]) (.cons rdI3 (.cons rdL23 .nil)) Try.underlying40 rfl fun cs h => by
    have h : cs.length = 2 := h
    match cs, h with
    | [a0, a1], _ => rfl
theorem rdL22 : Rd Try.prog 22 (List (Int × (List Int) × Unit)) (fun l => [.seq (Int × (List Int) × Unit) (0, [], ()) (fun p => [.i p.1, .ints p.2.1]) l]) := rdS40.slice rfl rfl (Nat.le_of_ble_eq_true (by kernel_rfl)) (Nat.le_of_ble_eq_true (by kernel_rfl))

set_option maxRecDepth 100000 in
theorem voteSays_lifted (os : Os) (started : os.Started) (H : Type) (enc : TypeId × Value → H) :
    ReturnsInHanded {} Try.checked os 3 .any (Rows.voteSaysSpec.pre6 enc Try.prog Try.f3 Rows.voteSaysRow.domain false) (Rows.voteSaysSpec.post enc Try.prog Try.f3 false true false false) := by
  refine returnsInHanded_of_change_sized (C := Try.checked) own started (by kernel_rfl) Try.func3
    (ChangeSpec.witness6 (enc := enc) (C := Try.checked) false ⟨#[], #[.int .i64 0, .slice none 0 0, .slice none 0 0], []⟩ 8 (by kernel_rfl) (by kernel_rfl) (by kernel_rfl) (by kernel_rfl)) ?_
  intro W base args ds gs before hval hW hcnd hsz _
  refine law_calls_all (P := Try.prog) laidOut ?_ rfl Try.underlying4 rfl hval hW hsz rfl (.cons (.flat rdI3 rfl) (.cons (.flat rdL22 rfl) (.cons (.flat rdL23 rfl) .nil))) ?_ fun x => VoteSays_fc x.1 x.2.1 x.2.2.1
  · exact fun t ht => by
      have h : (Try.f3.params.toList.all fun t => Try.prog.readableRec t && decide (t < Try.prog.types.size)) = true := by kernel_rfl
      simpa using List.all_eq_true.1 h t ht
  · intro hl
    match ds, hl with
    | [d1, d2, d3], _ => rfl

theorem voteSays_holds : Rows.VoteSaysSaid :=
  OpenClaim.holds_of_wide 3 Try.f3 rfl rfl rfl rfl rfl rfl rfl ⟨rfl, rfl, rfl, rfl, rfl⟩ rfl rfl rfl rfl rfl (by kernel_rfl) Try.func3 (by kernel_rfl)
    (of_decide_eq_true (by kernel_rfl)) (by unfold Func.isWrapper; first | (rw [if_pos (by decide +kernel)]; kernel_rfl) | (rw [if_neg (by decide +kernel)]; exact ⟨rfl, rfl⟩))
    (fun os started H enc _ => voteSays_lifted os started H enc)
end Go.Proofs.Ytkbbdiodmeobaaa
