/- The law 'TopGifts' answers true. Conditions: none. -/
import Derived.Test.YtnkhlgkcohpahaaRows
import Derived.Test.YtnkhlgkcohpahaaAbsR
import Derived.Test.YtnkhlgkcohpahaaFg
namespace Go.Proofs.Ytnkhlgkcohpahaa
open Go.Abs Go.ChangeShapes Go.WideShapes Go.ChangeAt Go.RowKit
set_option linter.unusedVariables false

set_option maxRecDepth 100000
theorem own : ownKnob Try.prog.godebug = none := by kernel_rfl
theorem laidOut : laidOutB Try.prog = true := by kernel_rfl

theorem rdI3 : Rd Try.prog 3 Int (fun n => [.i n]) := .int rfl
theorem rdL35 : Rd Try.prog 35 (List Int) (fun l => [.ints l]) := rdI3.slice rfl rfl (Nat.le_of_ble_eq_true (by kernel_rfl)) (Nat.le_of_ble_eq_true (by kernel_rfl))
theorem rdL22 : Rd Try.prog 22 (List (List Int)) (fun l => [.rows l]) := rdL35.slice rfl rfl (Nat.le_of_ble_eq_true (by kernel_rfl)) (Nat.le_of_ble_eq_true (by kernel_rfl))
theorem rdS24 : Rd Try.prog 24 (Int × (List (List Int)) × Int × Int × Unit) (fun p => [.i p.1, .rows p.2.1, .i p.2.2.1, .i p.2.2.2.1]) :=
  Rd.struct (ts := [3, 22, 3, 3]) (.cons rdI3 (.cons rdL22 (.cons rdI3 (.cons rdI3 .nil)))) Try.underlying24 rfl fun cs h => by
    have h : cs.length = 4 := h
    match cs, h with
    | [a0, a1, a2, a3], _ => rfl

set_option maxRecDepth 100000 in
theorem topGifts_lifted (os : Os) (started : os.Started) (H : Type) (enc : TypeId × Value → H) :
    ReturnsInHanded {} Try.checked os 5 .any (Rows.topGiftsSpec.pre6 enc Try.prog Try.f5 Rows.topGiftsRow.domain false) (Rows.topGiftsSpec.post enc Try.prog Try.f5 false true false false) := by
  refine returnsInHanded_of_change_sized (C := Try.checked) own started (by kernel_rfl) Try.func5
    (ChangeSpec.witness6 (enc := enc) (C := Try.checked) false ⟨#[], #[.agg #[.int .i64 0, .slice none 0 0, .int .i64 0, .int .i64 0], .slice none 0 0, .slice none 0 0], []⟩ 8 (by kernel_rfl) (by kernel_rfl) (by kernel_rfl) (by kernel_rfl)) ?_
  intro W base args ds gs before hval hW hcnd hsz _
  refine law_calls_all (P := Try.prog) laidOut ?_ rfl Try.underlying4 rfl hval hW hsz rfl (.cons (.agg rdS24 rfl) (.cons (.flat rdL22 rfl) (.cons (.flat rdL22 rfl) .nil))) ?_ fun x => TopGifts_fc x.1.1 x.1.2.1 x.1.2.2.1 x.1.2.2.2.1 x.2.1 x.2.2.1
  · exact fun t ht => by
      have h : (Try.f5.params.toList.all fun t => Try.prog.readableRec t && decide (t < Try.prog.types.size)) = true := by kernel_rfl
      simpa using List.all_eq_true.1 h t ht
  · intro hl
    match ds, hl with
    | [d1, d2, d3], _ => rfl

theorem topGifts_holds : Rows.TopGiftsSaid :=
  OpenClaim.holds_of_wide 5 Try.f5 rfl rfl rfl rfl rfl rfl rfl ⟨rfl, rfl, rfl, rfl, rfl⟩ rfl rfl rfl rfl rfl (by kernel_rfl) Try.func5 (by kernel_rfl)
    (of_decide_eq_true (by kernel_rfl)) (by unfold Func.isWrapper; first | (rw [if_pos (by decide +kernel)]; kernel_rfl) | (rw [if_neg (by decide +kernel)]; exact ⟨rfl, rfl⟩))
    (fun os started H enc _ => topGifts_lifted os started H enc)
end Go.Proofs.Ytnkhlgkcohpahaa
