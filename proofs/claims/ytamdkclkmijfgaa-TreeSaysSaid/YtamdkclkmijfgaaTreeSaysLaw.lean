/- The law 'TreeSays' answers true. Conditions: none. -/
import Derived.Test.YtamdkclkmijfgaaRows
import Derived.Test.YtamdkclkmijfgaaAbsR
import Derived.Test.YtamdkclkmijfgaaFi
namespace Go.Proofs.Ytamdkclkmijfgaa
open Go.Abs Go.ChangeShapes Go.WideShapes Go.ChangeAt Go.RowKit
set_option linter.unusedVariables false

theorem own : ownKnob Try.prog.godebug = none := by kernel_rfl
theorem laidOut : laidOutB Try.prog = true := by kernel_rfl

theorem rdI3 : Rd Try.prog 3 Int (fun n => [.i n]) := .int rfl
theorem rdL25 : Rd Try.prog 25 (List Int) (fun l => [.ints l]) := rdI3.slice rfl rfl (Nat.le_of_ble_eq_true (by kernel_rfl)) (Nat.le_of_ble_eq_true (by kernel_rfl))
theorem rdS51 : Rd Try.prog 51 (Int × (List Int) × (List Int) × Unit) (fun p => [.i p.1, .ints p.2.1, .ints p.2.2.1]) :=
  Rd.struct (ts := [3, 25, 25]) (.cons rdI3 (.cons rdL25 (.cons rdL25 .nil))) Try.underlying51 rfl fun cs h => by
    have h : cs.length = 3 := h
    match cs, h with
    | [a0, a1, a2], _ => rfl
theorem rdL22 : Rd Try.prog 22 (List (Int × (List Int) × (List Int) × Unit)) (fun l => [.seq (Int × (List Int) × (List Int) × Unit) (0, [], [], ()) (fun p => [.i p.1, .ints p.2.1, .ints p.2.2.1]) l]) := rdS51.slice rfl rfl (Nat.le_of_ble_eq_true (by kernel_rfl)) (Nat.le_of_ble_eq_true (by kernel_rfl))
theorem rdS24 : Rd Try.prog 24 (Int × (List (Int × (List Int) × (List Int) × Unit)) × Unit) (fun p => [.i p.1, .seq (Int × (List Int) × (List Int) × Unit) (0, [], [], ()) (fun p => [.i p.1, .ints p.2.1, .ints p.2.2.1]) p.2.1]) :=
  Rd.struct (ts := [3, 22]) (.cons rdI3 (.cons rdL22 .nil)) Try.underlying24 rfl fun cs h => by
    have h : cs.length = 2 := h
    match cs, h with
    | [a0, a1], _ => rfl

set_option maxRecDepth 100000 in
theorem treeSays_lifted (os : Os) (started : os.Started) (H : Type) (enc : TypeId × Value → H) :
    ReturnsInHanded {} Try.checked os 3 .any (Rows.treeSaysSpec.pre6 enc Try.prog Try.f3 Rows.treeSaysRow.domain false) (Rows.treeSaysSpec.post enc Try.prog Try.f3 false true false false) := by
  refine returnsInHanded_of_change_sized (C := Try.checked) own started (by kernel_rfl) Try.func3
    (ChangeSpec.witness6 (enc := enc) (C := Try.checked) false ⟨#[], #[.agg #[.int .i64 0, .slice none 0 0], .slice none 0 0, .int .i64 0, .int .i64 0], []⟩ 8 (by kernel_rfl) (by kernel_rfl) (by kernel_rfl) (by kernel_rfl)) ?_
  intro W base args ds gs before hval hW hcnd hsz _
  refine law_calls_all (P := Try.prog) laidOut ?_ rfl Try.underlying4 rfl hval hW hsz rfl (.cons (.agg rdS24 rfl) (.cons (.flat rdL25 rfl) (.cons (.flat rdI3 rfl) (.cons (.flat rdI3 rfl) .nil)))) ?_ fun x => TreeSays_fc x.1.1 x.1.2.1 x.2.1 x.2.2.1 x.2.2.2.1
  · exact fun t ht => by
      have h : (Try.f3.params.toList.all fun t => Try.prog.readableRec t && decide (t < Try.prog.types.size)) = true := by kernel_rfl
      simpa using List.all_eq_true.1 h t ht
  · intro hl
    match ds, hl with
    | [d1, d2, d3, d4], _ => rfl

theorem treeSays_holds : Rows.TreeSaysSaid :=
  OpenClaim.holds_of_wide 3 Try.f3 rfl rfl rfl rfl rfl rfl rfl ⟨rfl, rfl, rfl, rfl, rfl⟩ rfl rfl rfl rfl rfl (by kernel_rfl) Try.func3 (by kernel_rfl)
    (of_decide_eq_true (by kernel_rfl)) (by unfold Func.isWrapper; first | (rw [if_pos (by decide +kernel)]; kernel_rfl) | (rw [if_neg (by decide +kernel)]; exact ⟨rfl, rfl⟩))
    (fun os started H enc _ => treeSays_lifted os started H enc)
end Go.Proofs.Ytamdkclkmijfgaa
