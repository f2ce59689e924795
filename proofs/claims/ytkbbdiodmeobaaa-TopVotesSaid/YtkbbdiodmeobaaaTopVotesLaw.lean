/- The law 'TopVotes' answers true. Conditions: none. -/
import Derived.Test.YtkbbdiodmeobaaaRows
import Derived.Test.YtkbbdiodmeobaaaAbsR
import Derived.Test.YtkbbdiodmeobaaaFj
namespace Go.Proofs.Ytkbbdiodmeobaaa
open Go.Abs Go.ChangeShapes Go.WideShapes Go.ChangeAt Go.RowKit
set_option linter.unusedVariables false

set_option maxRecDepth 100000
theorem own : ownKnob Try.prog.godebug = none := by kernel_rfl
theorem laidOut : laidOutB Try.prog = true := by kernel_rfl

theorem rdI3 : Rd Try.prog 3 Int (fun n => [.i n]) := .int rfl
theorem rdL23 : Rd Try.prog 23 (List Int) (fun l => [.ints l]) := rdI3.slice rfl rfl (Nat.le_of_ble_eq_true (by kernel_rfl)) (Nat.le_of_ble_eq_true (by kernel_rfl))

set_option maxRecDepth 100000 in
theorem topVotes_lifted (os : Os) (started : os.Started) (H : Type) (enc : TypeId × Value → H) :
    ReturnsInHanded {} Try.checked os 6 .any (Rows.topVotesSpec.pre6 enc Try.prog Try.f6 Rows.topVotesRow.domain false) (Rows.topVotesSpec.post enc Try.prog Try.f6 false true false false) := by
  refine returnsInHanded_of_change_sized (C := Try.checked) own started (by kernel_rfl) Try.func6
    (ChangeSpec.witness6 (enc := enc) (C := Try.checked) false ⟨#[], #[.slice none 0 0, .int .i64 0, .int .i64 0, .slice none 0 0], []⟩ 8 (by kernel_rfl) (by kernel_rfl) (by kernel_rfl) (by kernel_rfl)) ?_
  intro W base args ds gs before hval hW hcnd hsz _
  refine law_calls_all (P := Try.prog) laidOut ?_ rfl Try.underlying4 rfl hval hW hsz rfl (.cons (.flat rdL23 rfl) (.cons (.flat rdI3 rfl) (.cons (.flat rdI3 rfl) (.cons (.flat rdL23 rfl) .nil)))) ?_ fun x => TopVotes_fc x.1 x.2.1 x.2.2.1 x.2.2.2.1
  · exact fun t ht => by
      have h : (Try.f6.params.toList.all fun t => Try.prog.readableRec t && decide (t < Try.prog.types.size)) = true := by kernel_rfl
      simpa using List.all_eq_true.1 h t ht
  · intro hl
    match ds, hl with
    | [d1, d2, d3, d4], _ => rfl

theorem topVotes_holds : Rows.TopVotesSaid :=
  OpenClaim.holds_of_wide 6 Try.f6 rfl rfl rfl rfl rfl rfl rfl ⟨rfl, rfl, rfl, rfl, rfl⟩ rfl rfl rfl rfl rfl (by kernel_rfl) Try.func6 (by kernel_rfl)
    (of_decide_eq_true (by kernel_rfl)) (by unfold Func.isWrapper; first | (rw [if_pos (by decide +kernel)]; kernel_rfl) | (rw [if_neg (by decide +kernel)]; exact ⟨rfl, rfl⟩))
    (fun os started H enc _ => topVotes_lifted os started H enc)
end Go.Proofs.Ytkbbdiodmeobaaa
