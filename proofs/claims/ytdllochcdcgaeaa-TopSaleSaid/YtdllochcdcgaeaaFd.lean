/- Bids for sets, made of raw numbers, on plain values. Conditions: each theorem names its own. -/
import Derived.Test.YtdllochcdcgaeaaProg
import Derived.Test.YtdllochcdcgaeaaFc
namespace Go.Proofs.Ytdllochcdcgaeaa
open Go.Abs
set_option linter.unusedVariables false
set_option linter.unusedSimpArgs false


def wsK (s : Nat) : Nat → List Int → List Int
  | 0, w => w
  | k + 1, w => if monoE (wsK s k w) s k = 11 then (wsK s k w).set s ((wsK s k w).getD (s - 2 ^ k) 0) else wsK s k w
def wsTo (raw : List Int) (fr m : Nat) : Nat → List Int
  | 0 => List.replicate (2 ^ m) 0
  | t + 1 => (wsK (t + 1) m (wsTo raw fr m t)).set (t + 1) ((wsK (t + 1) m (wsTo raw fr m t)).getD (t + 1) 0 + pickF (atF raw (fr + (t + 1))) 9)
def worthF (raw : List Int) (fr m : Nat) : List Int := wsTo raw fr m (2 ^ m - 1)
theorem wsK_length (s : Nat) (w : List Int) : ∀ k, (wsK s k w).length = w.length
  | 0 => rfl
  | k + 1 => by
    unfold wsK
    split
    · rw [List.length_set, wsK_length s w k]
    · exact wsK_length s w k
theorem wsTo_length (raw : List Int) (fr m : Nat) : ∀ t, (wsTo raw fr m t).length = 2 ^ m
  | 0 => by simp [wsTo]
  | t + 1 => by unfold wsTo; rw [List.length_set, wsK_length, wsTo_length raw fr m t]
theorem getD_set_if (l : List Int) (i j : Nat) (a : Int) : (l.set i a).getD j 0 = if i = j ∧ i < l.length then a else l.getD j 0 := by
  simp only [List.getD_eq_getElem?_getD, List.getElem?_set]
  by_cases e : i = j
  · subst e
    by_cases h : i < l.length
    · simp [h]
    · simp [h, List.getElem?_eq_none (Nat.le_of_not_lt h)]
  · simp [e]
theorem wsK_bd {B : Int} {s : Nat} {w : List Int} (h : ∀ j, 0 ≤ w.getD j 0 ∧ w.getD j 0 ≤ B) : ∀ k j, 0 ≤ (wsK s k w).getD j 0 ∧ (wsK s k w).getD j 0 ≤ B
  | 0, j => h j
  | k + 1, j => by
    unfold wsK
    split
    · rw [getD_set_if]
      split
      · exact wsK_bd h k _
      · exact wsK_bd h k j
    · exact wsK_bd h k j
theorem wsTo_bd (raw : List Int) (fr m : Nat) : ∀ t j, 0 ≤ (wsTo raw fr m t).getD j 0 ∧ (wsTo raw fr m t).getD j 0 ≤ (t : Nat) * 8
  | 0, j => by
    unfold wsTo
    rw [List.getD_eq_getElem?_getD, List.getElem?_replicate]
    split <;> simp
  | t + 1, j => by
    have h := wsK_bd (s := t + 1) (wsTo_bd raw fr m t) m
    have hq := pickF_range (atF raw (fr + (t + 1))) 9 (by omega)
    unfold wsTo
    rw [getD_set_if]
    have h1 := h (t + 1)
    have h2 := h j
    split <;> omega
theorem sub_toNat (s k : Nat) : (((s : Nat) : Int) - (1 : Int) * 2 ^ ((k : Nat) : Int).toNat).toNat = s - 2 ^ k := by
  rw [Int.toNat_natCast, Int.one_mul, show (2 : Int) ^ k = ((2 ^ k : Nat) : Int) by simp]
  omega

theorem WorthOf_fc (raw : List Int) (frI : Int) (fr m : Nat) (hfr : frI = (fr : Nat)) (hfb : fr ≤ 1000) (hm : m ≤ 4) : FC Try.prog 27 [.ints raw, .i frI, .i (m : Nat)] (.ints (worthF raw fr m)) := by
  refine FC.intro Try.func27 rfl (Nat.le_of_ble_eq_true rfl) fun hfit => ?_
  obtain ⟨fitl0, fitr0⟩ := (hfit _ (.head _)).ints
  have fit1 : -9223372036854775808 ≤ (frI : Int) ∧ (frI : Int) ≤ 9223372036854775807 := (hfit _ (.tail _ (.head _))).int64
  have fit2 : -9223372036854775808 ≤ ((m : Nat) : Int) ∧ ((m : Nat) : Int) ≤ 9223372036854775807 := (hfit _ (.tail _ (.tail _ (.head _)))).int64
  subst hfr
  have hp2 : (1 : Int) * 2 ^ ((m : Nat) : Int).toNat = 2 ^ m := by rw [Int.one_mul, Int.toNat_natCast]
  have hp3 := pow16 hm
  have hp4 := two_pow_nat m
  have hpc : ((2 ^ m : Nat) : Int) = 2 ^ m := by simp
  refine awp_seq ?_
  refine awp_region rfl (.n (fun _ => op_assign (.plain rfl)) (.nil _)) ?_
  refine awp_seq ?_
  refine awp_region rfl (.n (fun _ => op_move (.plain rfl)) (.n (fun _ => op_shl (.plain rfl) (.plain rfl) ?_) (.e (op_make (α := Int) (d := 0) (f := (fun n => [.int .i64 n])) 12 0 ety27 (.plain rfl) (.plain rfl) (fun _ => rfl) rfl rfl ?_) rfl (.n (fun _ => op_assign (.plain rfl)) (.nil _))))) ?_
  · unfold InR; rw [hp2]; omega
  · rw [hp2]; omega
  refine awp_seq ?_
  refine awp_seq ?_
  refine awp_region rfl (.n (fun _ => op_assign (.plain rfl)) (.nil _)) ?_
  refine awp_block ?_
  refine awp_ent (Ent.ren 12 1007 rfl rfl rfl) ?_
  refine awp_loop (σ := Nat) (fun (t : Nat) => t + 1 ≤ 2 ^ m) (fun (t : Nat) => ⟨[(0, .pv (.ints raw)), (1, .int (fr : Nat)), (2, .int (m : Nat)), (7, .own 1007), (8, .int (t + 1 : Nat))], [(1007, .arr 3 1 Int 0 (fun n => [.int .i64 n]) (wsTo raw fr m t))]⟩) (fun (t : Nat) => 2 ^ m - t) 0 ?_ (Ent.kept ⟨rfl, rfl, rfl, rfl, rfl, trivial⟩ ⟨(congrArg (fun l => some (Blk.arr 3 1 Int 0 (fun n => [.int .i64 n]) l)) (by rw [hp2, toNat_two_pow]; rfl)), trivial⟩) ?_
  · omega
  rintro t hp
  try dsimp only at hp
  have hwl := wsTo_length raw fr m t
  have hwk := wsK_length (t + 1) (wsTo raw fr m t) m
  refine awp_seq ?_
  refine awp_seq ?_
  refine awp_region rfl (.n (fun _ => op_move (.plain rfl)) (.n (fun _ => op_move (.plain rfl)) (.r (op_lenO Try.underlying27 (.plain rfl) rfl) (.n (fun _ => op_lss (.plain rfl) (.plain rfl)) (.nil _))))) ?_
  refine awp_cond rfl (fun h => ?_) (fun h => ?_)
  · try simp only [decide_eq_true_eq, decide_eq_false_iff_not, Bool.and_eq_true, Bool.or_eq_true, Bool.and_eq_false_iff, Bool.or_eq_false_iff, Bool.not_eq_true', Bool.not_eq_false', Bool.not_eq_true, Bool.not_eq_false, Bool.true_eq_false, Bool.false_eq_true] at h
    refine awp_skip ?_
    refine awp_seq ?_
    refine awp_block ?_
    refine awp_seq ?_
    refine awp_seq ?_
    refine awp_region rfl (.n (fun _ => op_assign (.plain rfl)) (.nil _)) ?_
    refine awp_block ?_
    refine awp_loop (σ := Nat) (fun (k : Nat) => k ≤ m) (fun (k : Nat) => ⟨[(0, .pv (.ints raw)), (1, .int (fr : Nat)), (2, .int (m : Nat)), (7, .own 1007), (8, .int (t + 1 : Nat)), (9, .int (k : Nat))], [(1007, .arr 3 1 Int 0 (fun n => [.int .i64 n]) (wsK (t + 1) k (wsTo raw fr m t)))]⟩) (fun (k : Nat) => m - k) 0 ?_ (Ent.kept ⟨rfl, rfl, rfl, rfl, rfl, rfl, trivial⟩ ⟨rfl, trivial⟩) ?_
    · simp
    rintro k hp
    try dsimp only at hp
    have hpk : (1 : Int) * 2 ^ ((k : Nat) : Int).toNat = 2 ^ k := by rw [Int.one_mul, Int.toNat_natCast]
    have hpn := two_pow_nat k
    have hp5 := pow16 (show k ≤ 4 by omega)
    have hpkc : ((2 ^ k : Nat) : Int) = 2 ^ k := by simp
    have hwk2 := wsK_length (t + 1) (wsTo raw fr m t) k
    refine awp_seq ?_
    refine awp_seq ?_
    refine awp_region rfl (.n (fun _ => op_move (.plain rfl)) (.n (fun _ => op_move (.plain rfl)) (.n (fun _ => op_lss (.plain rfl) (.plain rfl)) (.nil _)))) ?_
    refine awp_cond rfl (fun h => ?_) (fun h => ?_)
    · try simp only [decide_eq_true_eq, decide_eq_false_iff_not, Bool.and_eq_true, Bool.or_eq_true, Bool.and_eq_false_iff, Bool.or_eq_false_iff, Bool.not_eq_true', Bool.not_eq_false', Bool.not_eq_true, Bool.not_eq_false, Bool.true_eq_false, Bool.false_eq_true] at h
      refine awp_skip ?_
      refine awp_seq ?_
      refine awp_block ?_
      refine awp_seq ?_
      refine awp_region_draw mixed rfl (.n (fun _ => op_move (.plain rfl)) (.n (fun _ => op_move (.plain rfl)) (.n (fun _ => op_shl (.plain rfl) (.plain rfl) ?_) (.n (fun _ => op_quo (.plain rfl) (.plain rfl) ?_) (.n (fun _ => op_rem (.plain rfl) (.plain rfl) ?_) (.n (fun _ => op_eql (.plain rfl) (.plain rfl)) (.n (fun _ => op_move (.plain rfl)) (.gn rfl rfl (fun hg _ => op_move (.plain rfl)) (.gn rfl rfl (fun hg _ => op_move (.plain rfl)) (.gn rfl rfl (fun hg _ => op_move (.plain rfl)) (.gn rfl rfl (fun hg _ => op_shl (.plain rfl) (.opt rfl fun h => h) ?_) (.gn rfl rfl (fun hg _ => op_sub (.opt rfl fun h => h) (.opt rfl fun h => h) ?_) (.gr rfl rfl (fun hg => op_indexAddrO Try.underlying27 Try.sizeOf3 (.opt rfl fun h => h) rfl (.opt rfl fun h => h) ?_) (.gr rfl rfl (fun hg => op_loadE Try.isAgg3 (.opt rfl fun h => h) rfl (fun _ => rfl) ?_ rfl) (.gn rfl rfl (fun hg _ => op_move (.plain rfl)) (.gn rfl rfl (fun hg _ => op_move (.plain rfl)) (.gr rfl rfl (fun hg => op_indexAddrON Try.underlying27 Try.sizeOf3 (.opt rfl fun h => h) rfl (.opt rfl fun h => h) ?_) (.gr rfl rfl (fun hg => op_loadE Try.isAgg3 (.opt rfl fun h => h) rfl (fun _ => rfl) ?_ rfl) (.gn rfl rfl (fun hg _ => op_gtr (.opt rfl fun h => h) (.opt rfl fun h => h)) (.n (fun _ => op_and (.plain rfl) (.plain rfl) (.plain rfl) (fun h => eqT h)) (.nil _))))))))))))))))))))) ?d1 ?_
      · unfold InR; rw [hpk]; omega
      · rw [hpk]; omega
      · exact ⟨Int.ediv_nonneg (by omega) (by rw [hpk]; omega), by omega⟩
      · try simp only [beq_iff_eq, beq_true, beq_false, Bool.and_eq_true, decide_eq_true_eq, decide_eq_false_iff_not, Bool.not_eq_true', Bool.or_eq_true, Bool.or_eq_false_iff] at hg
        unfold InR; rw [hpk]; omega
      · try simp only [beq_iff_eq, beq_true, beq_false, Bool.and_eq_true, decide_eq_true_eq, decide_eq_false_iff_not, Bool.not_eq_true', Bool.or_eq_true, Bool.or_eq_false_iff] at hg
        unfold InR; rw [hpk]; omega
      · try simp only [beq_iff_eq, beq_true, beq_false, Bool.and_eq_true, decide_eq_true_eq, decide_eq_false_iff_not, Bool.not_eq_true', Bool.or_eq_true, Bool.or_eq_false_iff] at hg
        rw [hpk] at hg ⊢
        have hge := ge_of_bit hg
        omega
      · try simp only [beq_iff_eq, beq_true, beq_false, Bool.and_eq_true, decide_eq_true_eq, decide_eq_false_iff_not, Bool.not_eq_true', Bool.or_eq_true, Bool.or_eq_false_iff] at hg
        first | omega | (simp; omega)
      · try simp only [beq_iff_eq, beq_true, beq_false, Bool.and_eq_true, decide_eq_true_eq, decide_eq_false_iff_not, Bool.not_eq_true', Bool.or_eq_true, Bool.or_eq_false_iff] at hg
        first | omega | (simp; omega)
      · try simp only [beq_iff_eq, beq_true, beq_false, Bool.and_eq_true, decide_eq_true_eq, decide_eq_false_iff_not, Bool.not_eq_true', Bool.or_eq_true, Bool.or_eq_false_iff] at hg
        first | omega | (simp; omega)
      · kernel_rfl
      refine awp_cond rfl (fun h => ?_) (fun h => ?_)
      · try simp only [decide_eq_true_eq, decide_eq_false_iff_not, Bool.and_eq_true, Bool.or_eq_true, Bool.and_eq_false_iff, Bool.or_eq_false_iff, Bool.not_eq_true', Bool.not_eq_false', Bool.not_eq_true, Bool.not_eq_false, Bool.true_eq_false, Bool.false_eq_true] at h
        have hmy := mono_sub.1 h
        have hst : wsK (t + 1) (k + 1) (wsTo raw fr m t) = (wsK (t + 1) k (wsTo raw fr m t)).set (t + 1) ((wsK (t + 1) k (wsTo raw fr m t)).getD (t + 1 - 2 ^ k) 0) := if_pos hmy
        refine awp_region rfl (.n (fun _ => op_move (.plain rfl)) (.n (fun _ => op_move (.plain rfl)) (.n (fun _ => op_move (.plain rfl)) (.n (fun _ => op_move (.plain rfl)) (.n (fun _ => op_move (.plain rfl)) (.n (fun _ => op_shl (.plain rfl) (.plain rfl) ?_) (.n (fun _ => op_sub (.plain rfl) (.plain rfl) ?_) (.r (op_indexAddrO Try.underlying27 Try.sizeOf3 (.plain rfl) rfl (.plain rfl) ?_) (.r (op_loadE Try.isAgg3 (.plain rfl) rfl (fun _ => rfl) ?_ rfl) (.r (op_indexAddrON Try.underlying27 Try.sizeOf3 (.plain rfl) rfl (.plain rfl) ?_) (.e (op_storeE _ Try.sizeOf3 (.plain rfl) (.plain rfl) rfl (fun _ => rfl) ?_ (by decide) rfl rfl) rfl (.nil _)))))))))))) ?_
        · unfold InR; rw [hpk]; omega
        · unfold InR; rw [hpk]; omega
        · have h0 := h.1
          rw [hpk] at h0 ⊢
          have hge := ge_of_bit h0
          omega
        · first | omega | (simp; omega)
        · first | omega | (simp; omega)
        · first | omega | (simp; omega)
        refine awp_region rfl (.n (fun _ => op_move (.plain rfl)) (.n (fun _ => op_add (.plain rfl) (.plain rfl) ?_) (.n (fun _ => op_assign (.plain rfl)) (.nil _)))) ?_
        · unfold InR; omega
        exact ⟨k + 1, by omega, by dsimp only; omega, (Ent.kept ⟨rfl, rfl, rfl, rfl, rfl, rfl, trivial⟩ ⟨(congrArg (fun l => some (Blk.arr 3 1 Int 0 (fun n => [.int .i64 n]) l)) (by first | (rw [hst, sub_toNat]; done) | (rw [hst]; done))), trivial⟩)⟩
      · try simp only [decide_eq_true_eq, decide_eq_false_iff_not, Bool.and_eq_true, Bool.or_eq_true, Bool.and_eq_false_iff, Bool.or_eq_false_iff, Bool.not_eq_true', Bool.not_eq_false', Bool.not_eq_true, Bool.not_eq_false, Bool.true_eq_false, Bool.false_eq_true] at h
        have hst : wsK (t + 1) (k + 1) (wsTo raw fr m t) = wsK (t + 1) k (wsTo raw fr m t) := if_neg fun c => by have := mono_sub.2 c; omega
        refine awp_skip ?_
        refine awp_region rfl (.n (fun _ => op_move (.plain rfl)) (.n (fun _ => op_add (.plain rfl) (.plain rfl) ?_) (.n (fun _ => op_assign (.plain rfl)) (.nil _)))) ?_
        · unfold InR; omega
        exact ⟨k + 1, by omega, by dsimp only; omega, (Ent.kept ⟨rfl, rfl, rfl, rfl, rfl, rfl, trivial⟩ ⟨(congrArg (fun l => some (Blk.arr 3 1 Int 0 (fun n => [.int .i64 n]) l)) (by first | (rw [hst, sub_toNat]; done) | (rw [hst]; done))), trivial⟩)⟩
    · try simp only [decide_eq_true_eq, decide_eq_false_iff_not, Bool.and_eq_true, Bool.or_eq_true, Bool.and_eq_false_iff, Bool.or_eq_false_iff, Bool.not_eq_true', Bool.not_eq_false', Bool.not_eq_true, Bool.not_eq_false, Bool.true_eq_false, Bool.false_eq_true] at h
      obtain rfl : m = k := by omega
      have hbd := wsK_bd (s := t + 1) (wsTo_bd raw fr m t) m (t + 1)
      have hq := pickF_range (atF raw (fr + (t + 1))) 9 (by omega)
      refine awp_exit ?_
      refine awp_region_draw mixed rfl (.n (fun _ => op_move (.plain rfl)) (.n (fun _ => op_move (.plain rfl)) (.n (fun _ => op_move (.plain rfl)) (.n (fun _ => op_move (.plain rfl)) (.r (op_indexAddrON Try.underlying27 Try.sizeOf3 (.plain rfl) rfl (.plain rfl) ?_) (.r (op_loadE Try.isAgg3 (.plain rfl) rfl (fun _ => rfl) ?_ rfl) (.n (fun _ => op_move (.plain rfl)) (.n (fun _ => op_move (.plain rfl)) (.n (fun _ => op_move (.plain rfl)) (.n (fun _ => op_add (.plain rfl) (.plain rfl) ?_) (.n (fun _ => op_call2 Try.call30 (.plain rfl) (.plain rfl) (At_fc _ (fr + (t + 1)))) (.n (fun _ => op_call2 Try.call16 (.plain rfl) (.plain rfl) (Pick_fc _ _ ?_)) (.n (fun _ => op_add (.plain rfl) (.plain rfl) ?_) (.r (op_indexAddrON Try.underlying27 Try.sizeOf3 (.plain rfl) rfl (.plain rfl) ?_) (.e (op_storeE _ Try.sizeOf3 (.plain rfl) (.plain rfl) rfl (fun _ => rfl) ?_ (by decide) rfl rfl) rfl (.nil _)))))))))))))))) ?d2 ?_
      · first | omega | (simp; omega)
      · first | omega | (simp; omega)
      · unfold InR; omega
      · omega
      · unfold InR; omega
      · first | omega | (simp; omega)
      · first | omega | (simp; omega)
      · kernel_rfl
      refine awp_region rfl (.n (fun _ => op_move (.plain rfl)) (.n (fun _ => op_add (.plain rfl) (.plain rfl) ?_) (.n (fun _ => op_assign (.plain rfl)) (.nil _)))) ?_
      · unfold InR; omega
      exact ⟨t + 1, by dsimp only; omega, by dsimp only; omega, (Ent.kept ⟨rfl, rfl, rfl, rfl, rfl, trivial⟩ ⟨(congrArg (fun l => some (Blk.arr 3 1 Int 0 (fun n => [.int .i64 n]) l)) (rfl)), trivial⟩)⟩
  · try simp only [decide_eq_true_eq, decide_eq_false_iff_not, Bool.and_eq_true, Bool.or_eq_true, Bool.and_eq_false_iff, Bool.or_eq_false_iff, Bool.not_eq_true', Bool.not_eq_false', Bool.not_eq_true, Bool.not_eq_false, Bool.true_eq_false, Bool.false_eq_true] at h
    obtain ⟨rfl⟩ : t = 2 ^ m - 1 := by omega
    refine awp_exit ?_
    refine awp_seq ?_
    refine awp_region rfl (.n (fun _ => op_move (.plain rfl)) (.n (fun _ => op_assign (.plain rfl)) (.nil _))) ?_
    refine awp_ret ?_
    refine retQ.ret ?_
    refine ret1 rfl rfl rfl ?_
    rfl

theorem BidsOf_fc (raw : List Int) (n m : Nat) (hn : n ≤ 4) (hm : m ≤ 4) : FC Try.prog 15 [.ints raw, .i (n : Nat), .i (m : Nat)] (.agg [.i (m : Nat), .rows (mapr n fun i => worthF raw (i * 2 ^ m) m)]) := by
  refine FC.intro Try.func15 rfl (Nat.le_of_ble_eq_true rfl) fun hfit => ?_
  obtain ⟨fitl0, fitr0⟩ := (hfit _ (.head _)).ints
  have fit1 : -9223372036854775808 ≤ ((n : Nat) : Int) ∧ ((n : Nat) : Int) ≤ 9223372036854775807 := (hfit _ (.tail _ (.head _))).int64
  have fit2 : -9223372036854775808 ≤ ((m : Nat) : Int) ∧ ((m : Nat) : Int) ≤ 9223372036854775807 := (hfit _ (.tail _ (.tail _ (.head _)))).int64
  have hp2 : (1 : Int) * 2 ^ ((m : Nat) : Int).toNat = 2 ^ m := by rw [Int.one_mul, Int.toNat_natCast]
  have hp3 := pow16 hm
  have hp4 := two_pow_nat m
  have hpc : ((2 ^ m : Nat) : Int) = 2 ^ m := by simp
  refine awp_seq ?_
  refine awp_region rfl (.e (op_alloc 6 Try.zeroValue25 rfl rfl rfl) rfl (.nil _)) ?_
  refine awp_seq ?_
  refine awp_region rfl (.n (fun _ => op_move (.plain rfl)) (.n (fun _ => op_build (pp := [(0, _)]) (places := #[(0, 1), (1, 1)]) Try.underlying25 Try.zeroValue25 rfl (by intro w; kernel_rfl) ⟨rfl, (.plain rfl), (by simp), trivial⟩ rfl) (.e (op_alloc 7 Try.zeroValue25 rfl rfl rfl) rfl (.e (op_storeRA Try.sizeOf25 (.plain rfl) (.plain rfl) rfl rfl (Nat.le_of_ble_eq_true rfl) rfl) rfl (.nil _))))) ?_
  refine awp_seq ?_
  refine awp_seq ?_
  refine awp_region rfl (.n (fun _ => op_assign (.plain rfl)) (.nil _)) ?_
  refine awp_block ?_
  refine awp_ent (Ent.beginB 7 1 1071 27 1 (List Int) [] (fun r => [.seq Int 0 (fun n => [.int .i64 n]) r]) rfl rfl (by decide) rfl rfl) ?_
  refine awp_loop (σ := Nat) (fun (i : Nat) => i ≤ n) (fun (i : Nat) => ⟨[(0, .pv (.ints raw)), (1, .int (n : Nat)), (2, .int (m : Nat)), (6, .ref 6 0), (7, .ref 7 0), (8, .int (i : Nat))], [(6, .box [.pv (.i 0), .pv .nil]), (7, .box [.pv (.i (m : Nat)), .own 1071]), (1071, .arr 27 1 (List Int) [] (fun r => [.seq Int 0 (fun n => [.int .i64 n]) r]) (mapr i fun i => worthF raw (i * 2 ^ m) m))]⟩) (fun (i : Nat) => n - i) 0 ?_ (Ent.kept ⟨rfl, rfl, rfl, rfl, rfl, rfl, trivial⟩ ⟨rfl, rfl, rfl, trivial⟩) ?_
  · simp
  rintro i hp
  try dsimp only at hp
  have him : i * 2 ^ m ≤ 4 * 16 := Nat.mul_le_mul (by omega) (by omega)
  refine awp_seq ?_
  refine awp_seq ?_
  refine awp_region rfl (.n (fun _ => op_move (.plain rfl)) (.n (fun _ => op_move (.plain rfl)) (.n (fun _ => op_lss (.plain rfl) (.plain rfl)) (.nil _)))) ?_
  refine awp_cond rfl (fun h => ?_) (fun h => ?_)
  · try simp only [decide_eq_true_eq, decide_eq_false_iff_not, Bool.and_eq_true, Bool.or_eq_true, Bool.and_eq_false_iff, Bool.or_eq_false_iff, Bool.not_eq_true', Bool.not_eq_false', Bool.not_eq_true, Bool.not_eq_false, Bool.true_eq_false, Bool.false_eq_true] at h
    refine awp_skip ?_
    refine awp_seq ?_
    refine awp_block ?_
    refine awp_seq ?_
    refine awp_region rfl (.n (fun _ => op_move (.plain rfl)) (.n (fun _ => op_move (.plain rfl)) (.n (fun _ => op_move (.plain rfl)) (.n (fun _ => op_shl (.plain rfl) (.plain rfl) ?_) (.n (fun _ => op_mul (.plain rfl) (.plain rfl) ?_) (.n (fun _ => op_move (.plain rfl)) (.n (fun _ => op_call3 Try.call27 (.plain rfl) (.plain rfl) (.plain rfl) (WorthOf_fc _ _ (i * 2 ^ m) _ ?_ ?_ ?_)) (.n (fun _ => op_assign (.plain rfl)) (.nil _))))))))) ?_
    · unfold InR; rw [hp2]; omega
    · unfold InR; rw [hp2, ← hpc, ← Int.natCast_mul]; omega
    · rw [hp2, Int.natCast_mul, hpc]
    · omega
    · omega
    refine awp_region rfl (.n (fun _ => op_fieldAddrR Try.underlying25 rfl rfl Try.sizeOf23 (.plain rfl)) (.r (op_loadR Try.isAgg23 (.plain rfl) rfl rfl) (.n (fun _ => op_move (.plain rfl)) (.n (fun _ => op_slit (pp := [(0, _)]) (α := (List Int)) (d := []) (f := (fun r => [.seq Int 0 (fun n => [.int .i64 n]) r])) [_] ety23 rfl ⟨rfl, (.plain rfl), (by simp), trivial⟩ rfl (by decide) rfl) (.e (op_append (id' := 28) (α := (List Int)) (d := []) (f := (fun r => [.seq Int 0 (fun n => [.int .i64 n]) r])) ety23 Try.underlying23 (fun _ => rfl) (fun _ => rfl) (.plain rfl) rfl (.plain rfl) rfl ?_) rfl (.n (fun _ => op_fieldAddrR Try.underlying25 rfl rfl Try.sizeOf23 (.plain rfl)) (.e (op_storeR Try.sizeOf23 (.plain rfl) (.plain rfl) rfl (by first | decide | exact Nat.le_of_ble_eq_true rfl) rfl (by simp) (fun i h => by cases h; exact ⟨_, _, _, _, _, _, rfl⟩)) rfl (.nil _)))))))) ?_
    · first | omega | (simp; omega)
    refine awp_region rfl (.n (fun _ => op_move (.plain rfl)) (.n (fun _ => op_add (.plain rfl) (.plain rfl) ?_) (.n (fun _ => op_assign (.plain rfl)) (.nil _)))) ?_
    · unfold InR; omega
    exact ⟨i + 1, by omega, by dsimp only; omega, (Ent.round 28 1071 ⟨rfl, rfl, rfl, rfl, rfl, rfl, trivial⟩ ⟨rfl, rfl, (congrArg (fun l => some (Blk.arr 27 1 (List Int) [] (fun r => [.seq Int 0 (fun n => [.int .i64 n]) r]) l)) (mapr_snoc _ _)), trivial⟩ rfl rfl rfl ⟨rfl, rfl, rfl, rfl, rfl, rfl, trivial⟩ ⟨rfl, rfl, rfl, trivial⟩)⟩
  · try simp only [decide_eq_true_eq, decide_eq_false_iff_not, Bool.and_eq_true, Bool.or_eq_true, Bool.and_eq_false_iff, Bool.or_eq_false_iff, Bool.not_eq_true', Bool.not_eq_false', Bool.not_eq_true, Bool.not_eq_false, Bool.true_eq_false, Bool.false_eq_true] at h
    refine awp_exit ?_
    refine awp_seq ?_
    refine awp_ent (Ent.giveB 7 1 1071 rfl rfl rfl) ?_
    refine awp_region rfl (.r (op_loadRA Try.isAgg25 Try.sizeOf25 (.plain rfl) rfl (by simp) rfl) (.e (op_storeRA Try.sizeOf25 (.plain rfl) (.plain rfl) rfl rfl (Nat.le_of_ble_eq_true rfl) rfl) rfl (.nil _))) ?_
    refine awp_ret ?_
    refine retQ.ret ?_
    refine retC rfl rfl Try.isAgg25 Try.sizeOf25 ?_
    obtain rfl : i = n := by omega
    rfl


theorem BidsOf_fcI (raw : List Int) (n m : Int) (hn : 0 ≤ n ∧ n ≤ 4) (hm : 0 ≤ m ∧ m ≤ 4) : FC Try.prog 15 [.ints raw, .i n, .i m] (.agg [.i m, .rows (mapr n.toNat fun i => worthF raw (i * 2 ^ m.toNat) m.toNat)]) := by
  obtain ⟨n, rfl⟩ : ∃ k : Nat, n = k := ⟨n.toNat, by omega⟩
  obtain ⟨m, rfl⟩ : ∃ k : Nat, m = k := ⟨m.toNat, by omega⟩
  rw [Int.toNat_natCast, Int.toNat_natCast]
  exact BidsOf_fc raw n m (by omega) (by omega)

theorem AuctionMade_fc (raw : List Int) (n items : Int) : FC Try.prog 5 [.ints raw, .i n, .i items] (.bool true) := by
  refine FC.intro Try.func5 rfl (Nat.le_of_ble_eq_true rfl) fun hfit => ?_
  obtain ⟨fitl0, fitr0⟩ := (hfit _ (.head _)).ints
  have fit1 : -9223372036854775808 ≤ (n : Int) ∧ (n : Int) ≤ 9223372036854775807 := (hfit _ (.tail _ (.head _))).int64
  have fit2 : -9223372036854775808 ≤ (items : Int) ∧ (items : Int) ≤ 9223372036854775807 := (hfit _ (.tail _ (.tail _ (.head _)))).int64
  have hq1 := pickF_range n 4 (by omega)
  have hq2 := pickF_range items 5 (by omega)
  refine awp_seq ?_
  refine awp_region rfl (.n (fun _ => op_assign (.plain rfl)) (.nil _)) ?_
  refine awp_seq ?_
  refine awp_seq ?_
  refine awp_region rfl (.n (fun _ => op_move (.plain rfl)) (.n (fun _ => op_len (s := 0) Try.underlying27 (.plain rfl)) (.n (fun _ => op_gtr (.plain rfl) (.plain rfl)) (.nil _)))) ?_
  refine awp_cond rfl (fun h => ?_) (fun h => ?_)
  · try simp only [decide_eq_true_eq, decide_eq_false_iff_not, Bool.and_eq_true, Bool.or_eq_true, Bool.and_eq_false_iff, Bool.or_eq_false_iff, Bool.not_eq_true', Bool.not_eq_false', Bool.not_eq_true, Bool.not_eq_false, Bool.true_eq_false, Bool.false_eq_true] at h
    refine awp_seq ?_
    refine awp_region rfl (.n (fun _ => op_assign (.plain rfl)) (.nil _)) ?_
    refine awp_ret ?_
    refine retQ.ret ?_
    refine ret1 rfl rfl rfl ?_
    rfl
  · try simp only [decide_eq_true_eq, decide_eq_false_iff_not, Bool.and_eq_true, Bool.or_eq_true, Bool.and_eq_false_iff, Bool.or_eq_false_iff, Bool.not_eq_true', Bool.not_eq_false', Bool.not_eq_true, Bool.not_eq_false, Bool.true_eq_false, Bool.false_eq_true] at h
    refine awp_skip ?_
    refine awp_seq ?_
    refine awp_region rfl (.n (fun _ => op_move (.plain rfl)) (.n (fun _ => op_move (.plain rfl)) (.n (fun _ => op_call2 Try.call16 (.plain rfl) (.plain rfl) (Pick_fc _ _ ?_)) (.n (fun _ => op_add (.plain rfl) (.plain rfl) ?_) (.n (fun _ => op_move (.plain rfl)) (.n (fun _ => op_call2 Try.call16 (.plain rfl) (.plain rfl) (Pick_fc _ _ ?_)) (.n (fun _ => op_call3 Try.call15 (.plain rfl) (.plain rfl) (.plain rfl) (BidsOf_fcI _ _ _ ?_ ?_)) (.n (fun _ => op_call1 Try.call4 (.plain rfl) (AuctionShares_fc _ _)) (.n (fun _ => op_assign (.plain rfl)) (.nil _)))))))))) ?_
    · omega
    · unfold InR; omega
    · omega
    · omega
    · omega
    refine awp_ret ?_
    refine retQ.ret ?_
    refine ret1 rfl rfl rfl ?_
    rfl

end Go.Proofs.Ytdllochcdcgaeaa

