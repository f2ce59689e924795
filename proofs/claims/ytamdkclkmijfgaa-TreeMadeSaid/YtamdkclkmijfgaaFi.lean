/- What TreeSays says, on plain values. Conditions: each theorem names its own. -/
import Derived.Test.YtamdkclkmijfgaaProg
import Derived.Test.YtamdkclkmijfgaaFh
namespace Go.Proofs.Ytamdkclkmijfgaa
open Go.Abs
set_option linter.unusedVariables false
set_option linter.unusedSimpArgs false


section
variable {P : Int} {N : List Nd}
theorem fc_in {who : Int} (h0 : treeE P N = 0) (h : ¬ (who < 0 ∨ P ≤ who)) : fcE P N who = 0 ∧ fcV P N who = forceF N who.toNat N.length 0 := by
  have e : fcE P N who = 0 := by unfold fcE; rw [if_neg (fun c => c h0), if_neg h]
  exact ⟨e, by unfold fcV; rw [if_pos e]⟩
theorem fc_out {who : Int} (h0 : treeE P N = 0) (h : who < 0 ∨ P ≤ who) : fcE P N who = 8 ∧ fcV P N who = 0 := by
  have e : fcE P N who = 8 := by unfold fcE; rw [if_neg (fun c => c h0), if_pos h]
  exact ⟨e, by unfold fcV; rw [if_neg (by omega)]⟩
theorem fc_err {who : Int} (h0 : ¬ treeE P N = 0) : fcE P N who = treeE P N ∧ fcV P N who = 0 := by
  have e : fcE P N who = treeE P N := if_pos h0
  exact ⟨e, by unfold fcV; rw [if_neg (by rw [e]; exact h0)]⟩
end

theorem treeForce_fc (P : Int) (N : List Nd) (who f : Int) (hf : f = treeE P N) : FC Try.prog 20 [.agg [.i P, .seq (Int × List Int × List Int × Unit) (0, [], [], ()) (fun p => [.i p.1, .ints p.2.1, .ints p.2.2.1]) N], .i who, .i f] (.bool true) := by
  refine FC.intro Try.func20 rfl (Nat.le_of_ble_eq_true rfl) fun hfit => ?_
  have fit0 := hfit _ (.head _)
  have fit1 : -9223372036854775808 ≤ (who : Int) ∧ (who : Int) ≤ 9223372036854775807 := (hfit _ (.tail _ (.head _))).int64
  have fit2 : -9223372036854775808 ≤ (f : Int) ∧ (f : Int) ≤ 9223372036854775807 := (hfit _ (.tail _ (.tail _ (.head _)))).int64
  refine awp_seq ?_
  refine awp_region rfl (.n (fun _ => op_box (.plain rfl) (by simp)) (.n (fun _ => op_assign (.plain rfl)) (.nil _))) ?_
  refine awp_seq ?_
  refine awp_region rfl (.n (fun _ => op_load_agg Try.isAgg24 Try.sizeOf24 (.plain rfl) (Nat.le_of_ble_eq_true rfl)) (.n (fun _ => op_move (.plain rfl)) (.n (fun _ => op_call2 Try.call34 (.plain rfl) (.plain rfl) (Force_fc _ _ _)) (.n (fun _ => op_move (.plain rfl)) (.n (fun _ => op_extract (.plain rfl) rfl) (.n (fun _ => op_extract (.plain rfl) rfl) (.n (fun _ => op_assign (.plain rfl)) (.n (fun _ => op_assign (.plain rfl)) (.nil _))))))))) ?_
  refine awp_seq ?_
  refine awp_region rfl (.n (fun _ => op_load_agg Try.isAgg24 Try.sizeOf24 (.plain rfl) (Nat.le_of_ble_eq_true rfl)) (.n (fun _ => op_call1 Try.call35 (.plain rfl) (Normal_fc _ _)) (.n (fun _ => op_move (.plain rfl)) (.n (fun _ => op_extract (.plain rfl) rfl) (.n (fun _ => op_extract (.plain rfl) rfl) (.e (op_alloc 9 Try.zeroValue66 rfl rfl rfl) rfl (.e (op_storeRA Try.sizeOf66 (.plain rfl) (.plain rfl) rfl rfl (Nat.le_of_ble_eq_true rfl) rfl) rfl (.n (fun _ => op_assign (.plain rfl)) (.nil _))))))))) ?_
  refine awp_seq ?_
  refine awp_region rfl (.n (fun _ => op_load_agg Try.isAgg24 Try.sizeOf24 (.plain rfl) (Nat.le_of_ble_eq_true rfl)) (.n (fun _ => op_call1 Try.call36 (.plain rfl) (RNormal_fc _ _)) (.n (fun _ => op_move (.plain rfl)) (.n (fun _ => op_extract (.plain rfl) rfl) (.n (fun _ => op_extract (.plain rfl) rfl) (.e (op_alloc 11 Try.zeroValue66 rfl rfl rfl) rfl (.e (op_storeRA Try.sizeOf66 (.plain rfl) (.plain rfl) rfl rfl (Nat.le_of_ble_eq_true rfl) rfl) rfl (.n (fun _ => op_assign (.plain rfl)) (.nil _))))))))) ?_
  refine awp_seq ?_
  refine awp_seq ?_
  refine awp_region rfl (.n (fun _ => op_move (.plain rfl)) (.n (fun _ => op_move (.plain rfl)) (.n (fun _ => op_neq (.plain rfl) (.plain rfl)) (.n (fun _ => op_move (.plain rfl)) (.gn rfl rfl (fun hg _ => op_fieldAddrR Try.underlying66 rfl rfl Try.sizeOf60 (.plain rfl)) (.gr rfl rfl (fun hg => op_loadR Try.isAgg60 (.opt rfl fun h => h) rfl rfl) (.gn rfl rfl (fun hg _ => op_fieldAddrR Try.underlying66 rfl rfl Try.sizeOf60 (.plain rfl)) (.gr rfl rfl (fun hg => op_loadR Try.isAgg60 (.opt rfl fun h => h) rfl rfl) (.gn rfl rfl (fun hg _ => op_call2 Try.call37 (.opt rfl fun h => h) (.opt rfl fun h => h) (sameLists_fc _ _)) (.gn rfl rfl (fun hg _ => op_not (.opt rfl fun h => h)) (.n (fun _ => op_or (.plain rfl) (.plain rfl) (.plain rfl) (fun h => eqF h)) (.n (fun _ => op_move (.plain rfl)) (.gn rfl rfl (fun hg _ => op_fieldAddrR Try.underlying66 rfl rfl Try.sizeOf60 (.plain rfl)) (.gr rfl rfl (fun hg => op_loadR Try.isAgg60 (.opt rfl fun h => h) rfl rfl) (.gn rfl rfl (fun hg _ => op_fieldAddrR Try.underlying66 rfl rfl Try.sizeOf60 (.plain rfl)) (.gr rfl rfl (fun hg => op_loadR Try.isAgg60 (.opt rfl fun h => h) rfl rfl) (.gn rfl rfl (fun hg _ => op_call2 Try.call37 (.opt rfl fun h => h) (.opt rfl fun h => h) (sameLists_fc _ _)) (.gn rfl rfl (fun hg _ => op_not (.opt rfl fun h => h)) (.n (fun _ => op_or (.plain rfl) (.plain rfl) (.plain rfl) (fun h => eqF h)) (.nil _)))))))))))))))))))) ?_
  refine awp_cond rfl (fun h => ?_) (fun h => ?_)
  · (try simp only [decide_eq_true_eq, decide_eq_false_iff_not, Bool.and_eq_true, Bool.or_eq_true, Bool.and_eq_false_iff, Bool.or_eq_false_iff, Bool.not_eq_true', Bool.not_eq_false', Bool.not_eq_true, Bool.not_eq_false, Bool.true_eq_false, Bool.false_eq_true] at h); (try simp only [foldK, foldP, foldL] at h)
    exfalso
    simp at h
  · (try simp only [decide_eq_true_eq, decide_eq_false_iff_not, Bool.and_eq_true, Bool.or_eq_true, Bool.and_eq_false_iff, Bool.or_eq_false_iff, Bool.not_eq_true', Bool.not_eq_false', Bool.not_eq_true, Bool.not_eq_false, Bool.true_eq_false, Bool.false_eq_true] at h); (try simp only [foldK, foldP, foldL] at h)
    refine awp_skip ?_
    refine awp_seq ?_
    refine awp_seq ?_
    refine awp_region rfl (.n (fun _ => op_move (.plain rfl)) (.n (fun _ => op_eql (.plain rfl) (.plain rfl)) (.n (fun _ => op_move (.plain rfl)) (.gn rfl rfl (fun hg _ => op_move (.plain rfl)) (.gn rfl rfl (fun hg _ => op_lss (.opt rfl fun h => h) (.plain rfl)) (.gn rfl rfl (fun hg _ => op_move (.opt rfl fun h => h)) (.ggn rfl rfl (fun hg _ => op_move (.plain rfl)) (.ggn rfl rfl (fun hg _ => op_fieldAddr Try.underlying24 rfl rfl Try.sizeOf3 (.plain rfl)) (.ggn rfl rfl (fun hg _ => op_load Try.isAgg3 (.opt rfl fun h => h)) (.ggn rfl rfl (fun hg _ => op_geq (.opt rfl fun h => h) (.opt rfl fun h => h)) (.gn rfl rfl (fun hg _ => op_or (.opt rfl fun h => h) (.plain rfl) (.plain rfl) (fun h => andI hg (eqF h))) (.n (fun _ => op_and (.plain rfl) (.plain rfl) (.plain rfl) (fun h => eqT h)) (.nil _))))))))))))) ?_
    refine awp_cond rfl (fun h => ?_) (fun h => ?_)
    · (try simp only [decide_eq_true_eq, decide_eq_false_iff_not, Bool.and_eq_true, Bool.or_eq_true, Bool.and_eq_false_iff, Bool.or_eq_false_iff, Bool.not_eq_true', Bool.not_eq_false', Bool.not_eq_true, Bool.not_eq_false, Bool.true_eq_false, Bool.false_eq_true] at h); (try simp only [foldK, foldP, foldL] at h)
      have hw := h
      refine awp_region rfl (.n (fun _ => op_assign (.plain rfl)) (.nil _)) ?_
      refine awp_seq ?_
      refine awp_seq ?_
      refine awp_region rfl (.n (fun _ => op_move (.plain rfl)) (.n (fun _ => op_neq (.plain rfl) (.plain rfl)) (.nil _))) ?_
      refine awp_cond rfl (fun h => ?_) (fun h => ?_)
      · (try simp only [decide_eq_true_eq, decide_eq_false_iff_not, Bool.and_eq_true, Bool.or_eq_true, Bool.and_eq_false_iff, Bool.or_eq_false_iff, Bool.not_eq_true', Bool.not_eq_false', Bool.not_eq_true, Bool.not_eq_false, Bool.true_eq_false, Bool.false_eq_true] at h); (try simp only [foldK, foldP, foldL] at h)
        have h0 := h
        refine awp_seq ?_
        refine awp_region rfl (.n (fun _ => op_move (.plain rfl)) (.n (fun _ => op_move (.plain rfl)) (.n (fun _ => op_eql (.plain rfl) (.plain rfl)) (.n (fun _ => op_move (.plain rfl)) (.gn rfl rfl (fun hg _ => op_move (.plain rfl)) (.gn rfl rfl (fun hg _ => op_eql (.opt rfl fun h => h) (.plain rfl)) (.n (fun _ => op_and (.plain rfl) (.plain rfl) (.plain rfl) (fun h => eqT h)) (.n (fun _ => op_assign (.plain rfl)) (.nil _))))))))) ?_
        refine awp_ret ?_
        refine retQ.ret ?_
        refine ret1 rfl rfl rfl ?_
        have hx := fc_out (hf.symm.trans hw.1) hw.2
        rw [hx.1, hx.2]; rfl
      · (try simp only [decide_eq_true_eq, decide_eq_false_iff_not, Bool.and_eq_true, Bool.or_eq_true, Bool.and_eq_false_iff, Bool.or_eq_false_iff, Bool.not_eq_true', Bool.not_eq_false', Bool.not_eq_true, Bool.not_eq_false, Bool.true_eq_false, Bool.false_eq_true] at h); (try simp only [foldK, foldP, foldL] at h)
        have h0 := h
        refine awp_skip ?_
        refine awp_seq ?_
        refine awp_region rfl (.n (fun _ => op_move (.plain rfl)) (.n (fun _ => op_eql (.plain rfl) (.plain rfl)) (.n (fun _ => op_move (.plain rfl)) (.gn rfl rfl (fun hg _ => op_move (.plain rfl)) (.gn rfl rfl (fun hg _ => op_load_agg Try.isAgg24 Try.sizeOf24 (.plain rfl) (Nat.le_of_ble_eq_true rfl)) (.gn rfl rfl (fun hg _ => op_move (.plain rfl)) (.gn rfl rfl (fun hg _ => op_call3 Try.call38 (.opt rfl fun h => h) (.opt rfl fun h => h) (.plain rfl) (RForce_fc P N ?_ who.toNat _ ?_ ?_ N.length 0 _ ?_ ?_ ?_)) (.gn rfl rfl (fun hg _ => op_eql (.opt rfl fun h => h) (.opt rfl fun h => h)) (.n (fun _ => op_and (.plain rfl) (.plain rfl) (.plain rfl) (fun h => eqT h)) (.n (fun _ => op_assign (.plain rfl)) (.nil _))))))))))) ?_
        · try simp only [beq_iff_eq, beq_true, beq_false, Bool.and_eq_true, decide_eq_true_eq, decide_eq_false_iff_not, Bool.not_eq_true', Bool.or_eq_true, Bool.or_eq_false_iff] at hg
          (try simp only [foldK, foldP, foldL, Int.toNat_natCast])
          first | (exact absurd h (by decide)) | exact tr_of (hf.symm.trans h)
        · try simp only [beq_iff_eq, beq_true, beq_false, Bool.and_eq_true, decide_eq_true_eq, decide_eq_false_iff_not, Bool.not_eq_true', Bool.or_eq_true, Bool.or_eq_false_iff] at hg
          (try simp only [foldK, foldP, foldL, Int.toNat_natCast])
          first | (exact absurd h (by decide)) | omega
        · try simp only [beq_iff_eq, beq_true, beq_false, Bool.and_eq_true, decide_eq_true_eq, decide_eq_false_iff_not, Bool.not_eq_true', Bool.or_eq_true, Bool.or_eq_false_iff] at hg
          (try simp only [foldK, foldP, foldL, Int.toNat_natCast])
          first | (exact absurd h (by decide)) | (have hT := tr_of (hf.symm.trans h); omega)
        · try simp only [beq_iff_eq, beq_true, beq_false, Bool.and_eq_true, decide_eq_true_eq, decide_eq_false_iff_not, Bool.not_eq_true', Bool.or_eq_true, Bool.or_eq_false_iff] at hg
          (try simp only [foldK, foldP, foldL, Int.toNat_natCast])
          first | rfl | (exact absurd h (by decide))
        · try simp only [beq_iff_eq, beq_true, beq_false, Bool.and_eq_true, decide_eq_true_eq, decide_eq_false_iff_not, Bool.not_eq_true', Bool.or_eq_true, Bool.or_eq_false_iff] at hg
          (try simp only [foldK, foldP, foldL, Int.toNat_natCast])
          first | (exact absurd h (by decide)) | (have hT := (tr_of (hf.symm.trans h)).n1; omega)
        · try simp only [beq_iff_eq, beq_true, beq_false, Bool.and_eq_true, decide_eq_true_eq, decide_eq_false_iff_not, Bool.not_eq_true', Bool.or_eq_true, Bool.or_eq_false_iff] at hg
          (try simp only [foldK, foldP, foldL, Int.toNat_natCast])
          omega
        refine awp_ret ?_
        refine retQ.ret ?_
        refine ret1 rfl rfl rfl ?_
        exact absurd h0 (by decide)
    · (try simp only [decide_eq_true_eq, decide_eq_false_iff_not, Bool.and_eq_true, Bool.or_eq_true, Bool.and_eq_false_iff, Bool.or_eq_false_iff, Bool.not_eq_true', Bool.not_eq_false', Bool.not_eq_true, Bool.not_eq_false, Bool.true_eq_false, Bool.false_eq_true] at h); (try simp only [foldK, foldP, foldL] at h)
      have hw := h
      refine awp_skip ?_
      refine awp_seq ?_
      refine awp_seq ?_
      refine awp_region rfl (.n (fun _ => op_move (.plain rfl)) (.n (fun _ => op_neq (.plain rfl) (.plain rfl)) (.nil _))) ?_
      refine awp_cond rfl (fun h => ?_) (fun h => ?_)
      · (try simp only [decide_eq_true_eq, decide_eq_false_iff_not, Bool.and_eq_true, Bool.or_eq_true, Bool.and_eq_false_iff, Bool.or_eq_false_iff, Bool.not_eq_true', Bool.not_eq_false', Bool.not_eq_true, Bool.not_eq_false, Bool.true_eq_false, Bool.false_eq_true] at h); (try simp only [foldK, foldP, foldL] at h)
        have h0 := h
        refine awp_seq ?_
        refine awp_region rfl (.n (fun _ => op_move (.plain rfl)) (.n (fun _ => op_move (.plain rfl)) (.n (fun _ => op_eql (.plain rfl) (.plain rfl)) (.n (fun _ => op_move (.plain rfl)) (.gn rfl rfl (fun hg _ => op_move (.plain rfl)) (.gn rfl rfl (fun hg _ => op_eql (.opt rfl fun h => h) (.plain rfl)) (.n (fun _ => op_and (.plain rfl) (.plain rfl) (.plain rfl) (fun h => eqT h)) (.n (fun _ => op_assign (.plain rfl)) (.nil _))))))))) ?_
        refine awp_ret ?_
        refine retQ.ret ?_
        refine ret1 rfl rfl rfl ?_
        have hx := fc_err (who := who) (by rw [← hf]; exact h0)
        rw [hx.1, hx.2, hf]; simp
      · (try simp only [decide_eq_true_eq, decide_eq_false_iff_not, Bool.and_eq_true, Bool.or_eq_true, Bool.and_eq_false_iff, Bool.or_eq_false_iff, Bool.not_eq_true', Bool.not_eq_false', Bool.not_eq_true, Bool.not_eq_false, Bool.true_eq_false, Bool.false_eq_true] at h); (try simp only [foldK, foldP, foldL] at h)
        have h0 := h
        refine awp_skip ?_
        refine awp_seq ?_
        refine awp_region rfl (.n (fun _ => op_move (.plain rfl)) (.n (fun _ => op_eql (.plain rfl) (.plain rfl)) (.n (fun _ => op_move (.plain rfl)) (.gn rfl rfl (fun hg _ => op_move (.plain rfl)) (.gn rfl rfl (fun hg _ => op_load_agg Try.isAgg24 Try.sizeOf24 (.plain rfl) (Nat.le_of_ble_eq_true rfl)) (.gn rfl rfl (fun hg _ => op_move (.plain rfl)) (.gn rfl rfl (fun hg _ => op_call3 Try.call38 (.opt rfl fun h => h) (.opt rfl fun h => h) (.plain rfl) (RForce_fc P N ?_ who.toNat _ ?_ ?_ N.length 0 _ ?_ ?_ ?_)) (.gn rfl rfl (fun hg _ => op_eql (.opt rfl fun h => h) (.opt rfl fun h => h)) (.n (fun _ => op_and (.plain rfl) (.plain rfl) (.plain rfl) (fun h => eqT h)) (.n (fun _ => op_assign (.plain rfl)) (.nil _))))))))))) ?_
        · try simp only [beq_iff_eq, beq_true, beq_false, Bool.and_eq_true, decide_eq_true_eq, decide_eq_false_iff_not, Bool.not_eq_true', Bool.or_eq_true, Bool.or_eq_false_iff] at hg
          (try simp only [foldK, foldP, foldL, Int.toNat_natCast])
          first | (exact absurd h (by decide)) | exact tr_of (hf.symm.trans h)
        · try simp only [beq_iff_eq, beq_true, beq_false, Bool.and_eq_true, decide_eq_true_eq, decide_eq_false_iff_not, Bool.not_eq_true', Bool.or_eq_true, Bool.or_eq_false_iff] at hg
          (try simp only [foldK, foldP, foldL, Int.toNat_natCast])
          first | (exact absurd h (by decide)) | omega
        · try simp only [beq_iff_eq, beq_true, beq_false, Bool.and_eq_true, decide_eq_true_eq, decide_eq_false_iff_not, Bool.not_eq_true', Bool.or_eq_true, Bool.or_eq_false_iff] at hg
          (try simp only [foldK, foldP, foldL, Int.toNat_natCast])
          first | (exact absurd h (by decide)) | (have hT := tr_of (hf.symm.trans h); omega)
        · try simp only [beq_iff_eq, beq_true, beq_false, Bool.and_eq_true, decide_eq_true_eq, decide_eq_false_iff_not, Bool.not_eq_true', Bool.or_eq_true, Bool.or_eq_false_iff] at hg
          (try simp only [foldK, foldP, foldL, Int.toNat_natCast])
          first | rfl | (exact absurd h (by decide))
        · try simp only [beq_iff_eq, beq_true, beq_false, Bool.and_eq_true, decide_eq_true_eq, decide_eq_false_iff_not, Bool.not_eq_true', Bool.or_eq_true, Bool.or_eq_false_iff] at hg
          (try simp only [foldK, foldP, foldL, Int.toNat_natCast])
          first | (exact absurd h (by decide)) | (have hT := (tr_of (hf.symm.trans h)).n1; omega)
        · try simp only [beq_iff_eq, beq_true, beq_false, Bool.and_eq_true, decide_eq_true_eq, decide_eq_false_iff_not, Bool.not_eq_true', Bool.or_eq_true, Bool.or_eq_false_iff] at hg
          (try simp only [foldK, foldP, foldL, Int.toNat_natCast])
          omega
        refine awp_ret ?_
        refine retQ.ret ?_
        refine ret1 rfl rfl rfl ?_
        have hx := fc_in (hf.symm.trans h0) (fun c => hw.elim (fun n => n h0) fun n => c.elim n.1 n.2)
        rw [hx.1, hx.2]; simp

theorem TreeSays_fc (P : Int) (N : List Nd) (c : List Int) (a who : Int) : FC Try.prog 3 [.agg [.i P, .seq (Int × List Int × List Int × Unit) (0, [], [], ()) (fun p => [.i p.1, .ints p.2.1, .ints p.2.2.1]) N], .ints c, .i a, .i who] (.bool true) := by
  refine FC.intro Try.func3 rfl (Nat.le_of_ble_eq_true rfl) fun hfit => ?_
  have fit0 := hfit _ (.head _)
  obtain ⟨fitl1, fitr1⟩ := (hfit _ (.tail _ (.head _))).ints
  have fit2 : -9223372036854775808 ≤ (a : Int) ∧ (a : Int) ≤ 9223372036854775807 := (hfit _ (.tail _ (.tail _ (.head _)))).int64
  have fit3 : -9223372036854775808 ≤ (who : Int) ∧ (who : Int) ≤ 9223372036854775807 := (hfit _ (.tail _ (.tail _ (.tail _ (.head _))))).int64
  have hcl := fitl1
  refine awp_seq ?_
  refine awp_region rfl (.n (fun _ => op_box (.plain rfl) (by simp)) (.n (fun _ => op_assign (.plain rfl)) (.nil _))) ?_
  refine awp_seq ?_
  refine awp_seq ?_
  refine awp_region rfl (.n (fun _ => op_load_agg Try.isAgg24 Try.sizeOf24 (.plain rfl) (Nat.le_of_ble_eq_true rfl)) (.n (fun _ => op_call1 Try.call6 (.plain rfl) (heavyTree_fc _ _)) (.n (fun _ => op_move (.plain rfl)) (.gn rfl rfl (fun hg _ => op_move (.plain rfl)) (.gn rfl rfl (fun hg _ => op_len (s := 0) Try.underlying25 (.opt rfl fun h => h)) (.gn rfl rfl (fun hg _ => op_gtr (.opt rfl fun h => h) (.plain rfl)) (.n (fun _ => op_or (.plain rfl) (.plain rfl) (.plain rfl) (fun h => eqF h)) (.n (fun _ => op_move (.plain rfl)) (.gn rfl rfl (fun hg _ => op_load_agg Try.isAgg24 Try.sizeOf24 (.plain rfl) (Nat.le_of_ble_eq_true rfl)) (.gn rfl rfl (fun hg _ => op_call1 Try.call7 (.opt rfl fun h => h) (few_fc _ _)) (.gn rfl rfl (fun hg _ => op_not (.opt rfl fun h => h)) (.n (fun _ => op_or (.plain rfl) (.plain rfl) (.plain rfl) (fun h => eqF h)) (.nil _))))))))))))) ?_
  refine awp_cond rfl (fun h => ?_) (fun h => ?_)
  · (try simp only [decide_eq_true_eq, decide_eq_false_iff_not, Bool.and_eq_true, Bool.or_eq_true, Bool.and_eq_false_iff, Bool.or_eq_false_iff, Bool.not_eq_true', Bool.not_eq_false', Bool.not_eq_true, Bool.not_eq_false, Bool.true_eq_false, Bool.false_eq_true] at h); (try simp only [foldK, foldP, foldL] at h)
    refine awp_seq ?_
    refine awp_region rfl (.n (fun _ => op_assign (.plain rfl)) (.nil _)) ?_
    refine awp_ret ?_
    refine retQ.ret ?_
    refine ret1 rfl rfl rfl ?_
    rfl
  · (try simp only [decide_eq_true_eq, decide_eq_false_iff_not, Bool.and_eq_true, Bool.or_eq_true, Bool.and_eq_false_iff, Bool.or_eq_false_iff, Bool.not_eq_true', Bool.not_eq_false', Bool.not_eq_true, Bool.not_eq_false, Bool.true_eq_false, Bool.false_eq_true] at h); (try simp only [foldK, foldP, foldL] at h)
    have hF : fewF N = true := by simpa using h.2
    refine awp_skip ?_
    refine awp_seq ?_
    refine awp_region rfl (.n (fun _ => op_load_agg Try.isAgg24 Try.sizeOf24 (.plain rfl) (Nat.le_of_ble_eq_true rfl)) (.n (fun _ => op_call1 Try.call8 (.plain rfl) (TreeMay_fc _ _)) (.n (fun _ => op_assign (.plain rfl)) (.nil _)))) ?_
    refine awp_seq ?_
    refine awp_region rfl (.n (fun _ => op_load_agg Try.isAgg24 Try.sizeOf24 (.plain rfl) (Nat.le_of_ble_eq_true rfl)) (.n (fun _ => op_move (.plain rfl)) (.n (fun _ => op_call2 Try.call9 (.plain rfl) (.plain rfl) (ChoicesMay_fc _ _ _)) (.n (fun _ => op_assign (.plain rfl)) (.nil _))))) ?_
    refine awp_seq ?_
    refine awp_region rfl (.n (fun _ => op_load_agg Try.isAgg24 Try.sizeOf24 (.plain rfl) (Nat.le_of_ble_eq_true rfl)) (.n (fun _ => op_call1 Try.call10 (.plain rfl) (Backward_fc _ _)) (.n (fun _ => op_move (.plain rfl)) (.n (fun _ => op_extract (.plain rfl) rfl) (.n (fun _ => op_extract (.plain rfl) rfl) (.n (fun _ => op_assign (.plain rfl)) (.n (fun _ => op_assign (.plain rfl)) (.nil _)))))))) ?_
    refine awp_seq ?_
    refine awp_seq ?_
    refine awp_region rfl (.n (fun _ => op_load_agg Try.isAgg24 Try.sizeOf24 (.plain rfl) (Nat.le_of_ble_eq_true rfl)) (.n (fun _ => op_call1 Try.call11 (.plain rfl) (May_fc _ _)) (.n (fun _ => op_move (.plain rfl)) (.n (fun _ => op_neq (.plain rfl) (.plain rfl)) (.n (fun _ => op_move (.plain rfl)) (.gn rfl rfl (fun hg _ => op_move (.plain rfl)) (.gn rfl rfl (fun hg _ => op_move (.plain rfl)) (.gn rfl rfl (fun hg _ => op_neq (.opt rfl fun h => h) (.opt rfl fun h => h)) (.n (fun _ => op_or (.plain rfl) (.plain rfl) (.plain rfl) (fun h => eqF h)) (.n (fun _ => op_move (.plain rfl)) (.gn rfl rfl (fun hg _ => op_move (.plain rfl)) (.gn rfl rfl (fun hg _ => op_eql (.opt rfl fun h => h) (.plain rfl)) (.gn rfl rfl (fun hg _ => op_move (.opt rfl fun h => h)) (.ggn rfl rfl (fun hg _ => op_move (.plain rfl)) (.ggn rfl rfl (fun hg _ => op_load_agg Try.isAgg24 Try.sizeOf24 (.plain rfl) (Nat.le_of_ble_eq_true rfl)) (.ggn rfl rfl (fun hg _ => op_call1 Try.call13 (.opt rfl fun h => h) (RBackward_fc P N ?_)) (.ggn rfl rfl (fun hg _ => op_call2 Try.call12 (.opt rfl fun h => h) (.opt rfl fun h => h) (sameInts_fc _ _)) (.ggn rfl rfl (fun hg _ => op_not (.opt rfl fun h => h)) (.gn rfl rfl (fun hg _ => op_and (.opt rfl fun h => h) (.plain rfl) (.plain rfl) (fun h => andI hg (eqT h))) (.n (fun _ => op_or (.plain rfl) (.plain rfl) (.plain rfl) (fun h => eqF h)) (.n (fun _ => op_move (.plain rfl)) (.gn rfl rfl (fun hg _ => op_move (.plain rfl)) (.gn rfl rfl (fun hg _ => op_neq (.opt rfl fun h => h) (.plain rfl)) (.gn rfl rfl (fun hg _ => op_move (.opt rfl fun h => h)) (.ggn rfl rfl (fun hg _ => op_move (.plain rfl)) (.ggn rfl rfl (fun hg _ => op_len (s := 0) Try.underlying25 (.opt rfl fun h => h)) (.ggn rfl rfl (fun hg _ => op_gtr (.opt rfl fun h => h) (.plain rfl)) (.gn rfl rfl (fun hg _ => op_and (.opt rfl fun h => h) (.plain rfl) (.plain rfl) (fun h => andI hg (eqT h))) (.n (fun _ => op_or (.plain rfl) (.plain rfl) (.plain rfl) (fun h => eqF h)) (.nil _)))))))))))))))))))))))))))))) ?_
    · try simp only [beq_iff_eq, beq_true, beq_false, Bool.and_eq_true, decide_eq_true_eq, decide_eq_false_iff_not, Bool.not_eq_true', Bool.or_eq_true, Bool.or_eq_false_iff] at hg
      (try simp only [foldK, foldP, foldL, Int.toNat_natCast])
      exact tr_of (by simp at hg; first | exact hg | exact hg.2 | exact hg.1)
    refine awp_cond rfl (fun h => ?_) (fun h => ?_)
    · (try simp only [decide_eq_true_eq, decide_eq_false_iff_not, Bool.and_eq_true, Bool.or_eq_true, Bool.and_eq_false_iff, Bool.or_eq_false_iff, Bool.not_eq_true', Bool.not_eq_false', Bool.not_eq_true, Bool.not_eq_false, Bool.true_eq_false, Bool.false_eq_true] at h); (try simp only [foldK, foldP, foldL] at h)
      exfalso
      rcases h with (h | h) | h
      · simp at h
      · exact h.2 (if_pos h.1)
      · have e : bwR P N = [] := if_neg h.1
        rw [e] at h; simp at h
    · (try simp only [decide_eq_true_eq, decide_eq_false_iff_not, Bool.and_eq_true, Bool.or_eq_true, Bool.and_eq_false_iff, Bool.or_eq_false_iff, Bool.not_eq_true', Bool.not_eq_false', Bool.not_eq_true, Bool.not_eq_false, Bool.true_eq_false, Bool.false_eq_true] at h); (try simp only [foldK, foldP, foldL] at h)
      refine awp_skip ?_
      refine awp_seq ?_
      refine awp_region rfl (.n (fun _ => op_load_agg Try.isAgg24 Try.sizeOf24 (.plain rfl) (Nat.le_of_ble_eq_true rfl)) (.n (fun _ => op_move (.plain rfl)) (.n (fun _ => op_move (.plain rfl)) (.n (fun _ => op_call3 Try.call14 (.plain rfl) (.plain rfl) (.plain rfl) (Play_fc _ _ _ _)) (.n (fun _ => op_move (.plain rfl)) (.n (fun _ => op_extract (.plain rfl) rfl) (.n (fun _ => op_extract (.plain rfl) rfl) (.n (fun _ => op_assign (.plain rfl)) (.n (fun _ => op_assign (.plain rfl)) (.nil _)))))))))) ?_
      refine awp_seq ?_
      refine awp_region rfl (.n (fun _ => op_load_agg Try.isAgg24 Try.sizeOf24 (.plain rfl) (Nat.le_of_ble_eq_true rfl)) (.n (fun _ => op_move (.plain rfl)) (.n (fun _ => op_call2 Try.call15 (.plain rfl) (.plain rfl) (Perfect_fc _ _ _)) (.n (fun _ => op_move (.plain rfl)) (.n (fun _ => op_extract (.plain rfl) rfl) (.n (fun _ => op_extract (.plain rfl) rfl) (.n (fun _ => op_extract (.plain rfl) rfl) (.n (fun _ => op_assign (.plain rfl)) (.n (fun _ => op_assign (.plain rfl)) (.n (fun _ => op_assign (.plain rfl)) (.nil _))))))))))) ?_
      refine awp_seq ?_
      refine awp_region rfl (.n (fun _ => op_load_agg Try.isAgg24 Try.sizeOf24 (.plain rfl) (Nat.le_of_ble_eq_true rfl)) (.n (fun _ => op_move (.plain rfl)) (.n (fun _ => op_call2 Try.call16 (.plain rfl) (.plain rfl) (Single_fc _ _ _)) (.n (fun _ => op_move (.plain rfl)) (.n (fun _ => op_extract (.plain rfl) rfl) (.n (fun _ => op_extract (.plain rfl) rfl) (.n (fun _ => op_assign (.plain rfl)) (.n (fun _ => op_assign (.plain rfl)) (.nil _))))))))) ?_
      refine awp_seq ?_
      refine awp_seq ?_
      refine awp_region rfl (.n (fun _ => op_move (.plain rfl)) (.n (fun _ => op_move (.plain rfl)) (.n (fun _ => op_neq (.plain rfl) (.plain rfl)) (.n (fun _ => op_move (.plain rfl)) (.gn rfl rfl (fun hg _ => op_move (.plain rfl)) (.gn rfl rfl (fun hg _ => op_move (.plain rfl)) (.gn rfl rfl (fun hg _ => op_neq (.opt rfl fun h => h) (.opt rfl fun h => h)) (.n (fun _ => op_or (.plain rfl) (.plain rfl) (.plain rfl) (fun h => eqF h)) (.n (fun _ => op_move (.plain rfl)) (.gn rfl rfl (fun hg _ => op_move (.plain rfl)) (.gn rfl rfl (fun hg _ => op_neq (.opt rfl fun h => h) (.plain rfl)) (.gn rfl rfl (fun hg _ => op_move (.opt rfl fun h => h)) (.ggn rfl rfl (fun hg _ => op_move (.plain rfl)) (.ggn rfl rfl (fun hg _ => op_move (.opt rfl fun h => h)) (.ggn rfl rfl (fun hg _ => op_move (.plain rfl)) (.ggn rfl rfl (fun hg _ => op_neq (.opt rfl fun h => h) (.plain rfl)) (.ggn rfl rfl (fun hg _ => op_or (.opt rfl fun h => h) (.plain rfl) (.plain rfl) (fun h => andI hg (eqF h))) (.ggn rfl rfl (fun hg _ => op_move (.opt rfl fun h => h)) (.ggn rfl rfl (fun hg _ => op_move (.plain rfl)) (.ggn rfl rfl (fun hg _ => op_or (.opt rfl fun h => h) (.plain rfl) (.plain rfl) (fun h => andI hg (eqF h))) (.ggn rfl rfl (fun hg _ => op_move (.opt rfl fun h => h)) (.ggn rfl rfl (fun hg _ => op_move (.plain rfl)) (.ggn rfl rfl (fun hg _ => op_move (.plain rfl)) (.ggn rfl rfl (fun hg _ => op_neq (.opt rfl fun h => h) (.opt rfl fun h => h)) (.ggn rfl rfl (fun hg _ => op_or (.opt rfl fun h => h) (.plain rfl) (.plain rfl) (fun h => andI hg (eqF h))) (.ggn rfl rfl (fun hg _ => op_move (.opt rfl fun h => h)) (.ggn rfl rfl (fun hg _ => op_move (.plain rfl)) (.ggn rfl rfl (fun hg _ => op_len (s := 0) Try.underlying25 (.opt rfl fun h => h)) (.ggn rfl rfl (fun hg _ => op_gtr (.opt rfl fun h => h) (.plain rfl)) (.ggn rfl rfl (fun hg _ => op_or (.opt rfl fun h => h) (.plain rfl) (.plain rfl) (fun h => andI hg (eqF h))) (.gn rfl rfl (fun hg _ => op_and (.opt rfl fun h => h) (.plain rfl) (.plain rfl) (fun h => andI hg (eqT h))) (.n (fun _ => op_or (.plain rfl) (.plain rfl) (.plain rfl) (fun h => eqF h)) (.nil _))))))))))))))))))))))))))))))))) ?_
      refine awp_cond rfl (fun h => ?_) (fun h => ?_)
      · (try simp only [decide_eq_true_eq, decide_eq_false_iff_not, Bool.and_eq_true, Bool.or_eq_true, Bool.and_eq_false_iff, Bool.or_eq_false_iff, Bool.not_eq_true', Bool.not_eq_false', Bool.not_eq_true, Bool.not_eq_false, Bool.true_eq_false, Bool.false_eq_true] at h); (try simp only [foldK, foldP, foldL] at h)
        exfalso
        by_cases e : chE P N c = 0 <;> simp [e, pOk, pAt, plE, plR] at h
      · (try simp only [decide_eq_true_eq, decide_eq_false_iff_not, Bool.and_eq_true, Bool.or_eq_true, Bool.and_eq_false_iff, Bool.or_eq_false_iff, Bool.not_eq_true', Bool.not_eq_false', Bool.not_eq_true, Bool.not_eq_false, Bool.true_eq_false, Bool.false_eq_true] at h); (try simp only [foldK, foldP, foldL] at h)
        refine awp_skip ?_
        refine awp_seq ?_
        refine awp_seq ?_
        refine awp_region rfl (.n (fun _ => op_move (.plain rfl)) (.n (fun _ => op_eql (.plain rfl) (.plain rfl)) (.nil _))) ?_
        refine awp_cond rfl (fun h => ?_) (fun h => ?_)
        · (try simp only [decide_eq_true_eq, decide_eq_false_iff_not, Bool.and_eq_true, Bool.or_eq_true, Bool.and_eq_false_iff, Bool.or_eq_false_iff, Bool.not_eq_true', Bool.not_eq_false', Bool.not_eq_true, Bool.not_eq_false, Bool.true_eq_false, Bool.false_eq_true] at h); (try simp only [foldK, foldP, foldL] at h)
          have hM := h
          obtain ⟨hM0, hC⟩ := ch_of hM
          have hT := tr_of hM0
          refine awp_seq ?_
          refine awp_region rfl (.n (fun _ => op_load_agg Try.isAgg24 Try.sizeOf24 (.plain rfl) (Nat.le_of_ble_eq_true rfl)) (.n (fun _ => op_move (.plain rfl)) (.n (fun _ => op_call2 Try.call17 (.plain rfl) (.plain rfl) (RPerfect_fc P N ?_ _ ?_ ?_)) (.n (fun _ => op_move (.plain rfl)) (.n (fun _ => op_extract (.plain rfl) rfl) (.n (fun _ => op_extract (.plain rfl) rfl) (.n (fun _ => op_assign (.plain rfl)) (.n (fun _ => op_assign (.plain rfl)) (.nil _))))))))) ?_
          · (try simp only [foldK, foldP, foldL, Int.toNat_natCast])
            exact hT
          · (try simp only [foldK, foldP, foldL, Int.toNat_natCast])
            exact hC
          · (try simp only [foldK, foldP, foldL, Int.toNat_natCast])
            exact hF
          refine awp_seq ?_
          refine awp_seq ?_
          refine awp_region rfl (.n (fun _ => op_move (.plain rfl)) (.n (fun _ => op_move (.plain rfl)) (.n (fun _ => op_neb Try.underlying4 (.plain rfl) (.plain rfl)) (.n (fun _ => op_move (.plain rfl)) (.gn rfl rfl (fun hg _ => op_move (.plain rfl)) (.gn rfl rfl (fun hg _ => op_move (.plain rfl)) (.gn rfl rfl (fun hg _ => op_neq (.opt rfl fun h => h) (.opt rfl fun h => h)) (.n (fun _ => op_or (.plain rfl) (.plain rfl) (.plain rfl) (fun h => eqF h)) (.n (fun _ => op_move (.plain rfl)) (.gn rfl rfl (fun hg _ => op_move (.plain rfl)) (.gn rfl rfl (fun hg _ => op_load_agg Try.isAgg24 Try.sizeOf24 (.plain rfl) (Nat.le_of_ble_eq_true rfl)) (.gn rfl rfl (fun hg _ => op_move (.plain rfl)) (.gn rfl rfl (fun hg _ => op_call2 Try.call18 (.opt rfl fun h => h) (.opt rfl fun h => h) (RSingle_fc P N ?_ _ ?_)) (.gn rfl rfl (fun hg _ => op_neb Try.underlying4 (.opt rfl fun h => h) (.opt rfl fun h => h)) (.n (fun _ => op_or (.plain rfl) (.plain rfl) (.plain rfl) (fun h => eqF h)) (.nil _)))))))))))))))) ?_
          · try simp only [beq_iff_eq, beq_true, beq_false, Bool.and_eq_true, decide_eq_true_eq, decide_eq_false_iff_not, Bool.not_eq_true', Bool.or_eq_true, Bool.or_eq_false_iff] at hg
            (try simp only [foldK, foldP, foldL, Int.toNat_natCast])
            exact hT
          · try simp only [beq_iff_eq, beq_true, beq_false, Bool.and_eq_true, decide_eq_true_eq, decide_eq_false_iff_not, Bool.not_eq_true', Bool.or_eq_true, Bool.or_eq_false_iff] at hg
            (try simp only [foldK, foldP, foldL, Int.toNat_natCast])
            exact hC
          refine awp_cond rfl (fun h => ?_) (fun h => ?_)
          · (try simp only [decide_eq_true_eq, decide_eq_false_iff_not, Bool.and_eq_true, Bool.or_eq_true, Bool.and_eq_false_iff, Bool.or_eq_false_iff, Bool.not_eq_true', Bool.not_eq_false', Bool.not_eq_true, Bool.not_eq_false, Bool.true_eq_false, Bool.false_eq_true] at h); (try simp only [foldK, foldP, foldL] at h)
            exfalso
            have e1 : pOk P N c = (pfR P N c).isNone := by unfold pOk; rw [decide_eq_true hM]; rfl
            have e2 : pAt P N c = pAtR P N c := if_pos hM
            rw [e1, e2, decide_eq_true hM] at h
            simp at h
          · (try simp only [decide_eq_true_eq, decide_eq_false_iff_not, Bool.and_eq_true, Bool.or_eq_true, Bool.and_eq_false_iff, Bool.or_eq_false_iff, Bool.not_eq_true', Bool.not_eq_false', Bool.not_eq_true, Bool.not_eq_false, Bool.true_eq_false, Bool.false_eq_true] at h); (try simp only [foldK, foldP, foldL] at h)
            refine awp_skip ?_
            refine awp_seq ?_
            refine awp_region rfl (.n (fun _ => op_move (.plain rfl)) (.n (fun _ => op_geq (.plain rfl) (.plain rfl)) (.n (fun _ => op_move (.plain rfl)) (.gn rfl rfl (fun hg _ => op_move (.plain rfl)) (.gn rfl rfl (fun hg _ => op_fieldAddr Try.underlying24 rfl rfl Try.sizeOf22 (.plain rfl)) (.gn rfl rfl (fun hg _ => op_load Try.isAgg22 (.opt rfl fun h => h)) (.gn rfl rfl (fun hg _ => op_len (s := 0) Try.underlying22 (.opt rfl fun h => h)) (.gn rfl rfl (fun hg _ => op_lss (.opt rfl fun h => h) (.opt rfl fun h => h)) (.n (fun _ => op_and (.plain rfl) (.plain rfl) (.plain rfl) (fun h => eqT h)) (.n (fun _ => op_assign (.plain rfl)) (.nil _))))))))))) ?_
            refine awp_seq ?_
            refine awp_region rfl (.n (fun _ => op_move (.plain rfl)) (.n (fun _ => op_move (.plain rfl)) (.gn rfl rfl (fun hg _ => op_move (.plain rfl)) (.gn rfl rfl (fun hg _ => op_neq (.opt rfl fun h => h) (.plain rfl)) (.gn rfl rfl (fun hg _ => op_move (.opt rfl fun h => h)) (.ggn rfl rfl (fun hg _ => op_move (.plain rfl)) (.ggn rfl rfl (fun hg _ => op_load_agg Try.isAgg24 Try.sizeOf24 (.plain rfl) (Nat.le_of_ble_eq_true rfl)) (.ggn rfl rfl (fun hg _ => op_move (.plain rfl)) (.ggn rfl rfl (fun hg _ => op_move (.plain rfl)) (.ggn rfl rfl (fun hg _ => op_call3 Try.call19 (.opt rfl fun h => h) (.opt rfl fun h => h) (.opt rfl fun h => h) (Reach_fc P N ?_ _ ?_ N.length a.toNat _ ?_ ?_ ?_)) (.ggn rfl rfl (fun hg _ => op_call2 Try.call12 (.opt rfl fun h => h) (.opt rfl fun h => h) (sameInts_fc _ _)) (.ggn rfl rfl (fun hg _ => op_not (.opt rfl fun h => h)) (.gn rfl rfl (fun hg _ => op_or (.opt rfl fun h => h) (.plain rfl) (.plain rfl) (fun h => andI hg (eqF h))) (.n (fun _ => op_and (.plain rfl) (.plain rfl) (.plain rfl) (fun h => eqT h)) (.n (fun _ => op_move (.plain rfl)) (.gn rfl rfl (fun hg _ => op_move (.plain rfl)) (.gn rfl rfl (fun hg _ => op_not (.opt rfl fun h => h)) (.gn rfl rfl (fun hg _ => op_move (.opt rfl fun h => h)) (.ggn rfl rfl (fun hg _ => op_move (.plain rfl)) (.ggn rfl rfl (fun hg _ => op_neq (.opt rfl fun h => h) (.plain rfl)) (.ggn rfl rfl (fun hg _ => op_move (.opt rfl fun h => h)) (.ggn rfl rfl (fun hg _ => op_move (.plain rfl)) (.ggn rfl rfl (fun hg _ => op_len (s := 0) Try.underlying25 (.opt rfl fun h => h)) (.ggn rfl rfl (fun hg _ => op_gtr (.opt rfl fun h => h) (.plain rfl)) (.ggn rfl rfl (fun hg _ => op_or (.opt rfl fun h => h) (.plain rfl) (.plain rfl) (fun h => andI hg (eqF h))) (.gn rfl rfl (fun hg _ => op_and (.opt rfl fun h => h) (.plain rfl) (.plain rfl) (fun h => andI hg (eqT h))) (.n (fun _ => op_or (.plain rfl) (.plain rfl) (.plain rfl) (fun h => eqF h)) (.nil _)))))))))))))))))))))))))))) ?_
            · try simp only [beq_iff_eq, beq_true, beq_false, Bool.and_eq_true, decide_eq_true_eq, decide_eq_false_iff_not, Bool.not_eq_true', Bool.or_eq_true, Bool.or_eq_false_iff] at hg
              (try simp only [foldK, foldP, foldL, Int.toNat_natCast])
              exact hT
            · try simp only [beq_iff_eq, beq_true, beq_false, Bool.and_eq_true, decide_eq_true_eq, decide_eq_false_iff_not, Bool.not_eq_true', Bool.or_eq_true, Bool.or_eq_false_iff] at hg
              (try simp only [foldK, foldP, foldL, Int.toNat_natCast])
              exact hC
            · try simp only [beq_iff_eq, beq_true, beq_false, Bool.and_eq_true, decide_eq_true_eq, decide_eq_false_iff_not, Bool.not_eq_true', Bool.or_eq_true, Bool.or_eq_false_iff] at hg
              (try simp only [foldK, foldP, foldL, Int.toNat_natCast])
              simp at hg; omega
            · try simp only [beq_iff_eq, beq_true, beq_false, Bool.and_eq_true, decide_eq_true_eq, decide_eq_false_iff_not, Bool.not_eq_true', Bool.or_eq_true, Bool.or_eq_false_iff] at hg
              (try simp only [foldK, foldP, foldL, Int.toNat_natCast])
              simp at hg; omega
            · try simp only [beq_iff_eq, beq_true, beq_false, Bool.and_eq_true, decide_eq_true_eq, decide_eq_false_iff_not, Bool.not_eq_true', Bool.or_eq_true, Bool.or_eq_false_iff] at hg
              (try simp only [foldK, foldP, foldL, Int.toNat_natCast])
              omega
            refine awp_cond rfl (fun h => ?_) (fun h => ?_)
            · (try simp only [decide_eq_true_eq, decide_eq_false_iff_not, Bool.and_eq_true, Bool.or_eq_true, Bool.and_eq_false_iff, Bool.or_eq_false_iff, Bool.not_eq_true', Bool.not_eq_false', Bool.not_eq_true, Bool.not_eq_false, Bool.true_eq_false, Bool.false_eq_true] at h); (try simp only [foldK, foldP, foldL] at h)
              exfalso
              by_cases e : 0 ≤ a ∧ a < (N.length : Int)
              · have e1 : plE P N c a = 0 := by unfold plE; rw [if_neg (fun c => c hM), if_neg (by omega)]
                have e2 : plR P N c a = wF N c a.toNat := by unfold plR; rw [if_pos e1]
                simp [e1, e2, e.1, e.2] at h
              · have e1 : plE P N c a = 8 := by unfold plE; rw [if_neg (fun c => c hM), if_pos (by omega)]
                have e2 : plR P N c a = [] := by unfold plR; rw [if_neg (by omega)]
                simp [e1, e2] at h
                omega
            · (try simp only [decide_eq_true_eq, decide_eq_false_iff_not, Bool.and_eq_true, Bool.or_eq_true, Bool.and_eq_false_iff, Bool.or_eq_false_iff, Bool.not_eq_true', Bool.not_eq_false', Bool.not_eq_true, Bool.not_eq_false, Bool.true_eq_false, Bool.false_eq_true] at h); (try simp only [foldK, foldP, foldL] at h)
              refine awp_skip ?_
              refine awp_seq ?_
              refine awp_region rfl (.n (fun _ => op_load_agg Try.isAgg24 Try.sizeOf24 (.plain rfl) (Nat.le_of_ble_eq_true rfl)) (.n (fun _ => op_move (.plain rfl)) (.n (fun _ => op_move (.plain rfl)) (.n (fun _ => op_call3 Try.call20 (.plain rfl) (.plain rfl) (.plain rfl) (treeForce_fc _ _ _ _ ?_)) (.n (fun _ => op_assign (.plain rfl)) (.nil _)))))) ?_
              · (try simp only [foldK, foldP, foldL, Int.toNat_natCast])
                try rfl
              refine awp_ret ?_
              refine retQ.ret ?_
              refine ret1 rfl rfl rfl ?_
              rfl
        · (try simp only [decide_eq_true_eq, decide_eq_false_iff_not, Bool.and_eq_true, Bool.or_eq_true, Bool.and_eq_false_iff, Bool.or_eq_false_iff, Bool.not_eq_true', Bool.not_eq_false', Bool.not_eq_true, Bool.not_eq_false, Bool.true_eq_false, Bool.false_eq_true] at h); (try simp only [foldK, foldP, foldL] at h)
          refine awp_skip ?_
          refine awp_seq ?_
          refine awp_region rfl (.n (fun _ => op_load_agg Try.isAgg24 Try.sizeOf24 (.plain rfl) (Nat.le_of_ble_eq_true rfl)) (.n (fun _ => op_move (.plain rfl)) (.n (fun _ => op_move (.plain rfl)) (.n (fun _ => op_call3 Try.call20 (.plain rfl) (.plain rfl) (.plain rfl) (treeForce_fc _ _ _ _ ?_)) (.n (fun _ => op_assign (.plain rfl)) (.nil _)))))) ?_
          · (try simp only [foldK, foldP, foldL, Int.toNat_natCast])
            try rfl
          refine awp_ret ?_
          refine retQ.ret ?_
          refine ret1 rfl rfl rfl ?_
          rfl

end Go.Proofs.Ytamdkclkmijfgaa

