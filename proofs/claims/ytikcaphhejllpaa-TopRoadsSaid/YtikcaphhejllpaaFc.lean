/- Roads that are made of raw numbers, and what TopRoads says of them, on plain values. Conditions: each theorem names its own. -/
import Derived.Test.YtikcaphhejllpaaProg
import Derived.Test.YtikcaphhejllpaaAbsE
import Derived.Test.YtikcaphhejllpaaFb
namespace Go.Proofs.Ytikcaphhejllpaa
open Go.Abs
set_option linter.unusedVariables false
set_option linter.unusedSimpArgs false


def coRow (raw : List Int) (players e : Nat) : List Int := mapr players fun k => pickF (atF raw (e * players + k)) 15 - 2
def chRow (raw : List Int) (roads i : Nat) : List Int := mapr (pickF (atF raw i) 3 + 1).toNat fun k => pickF (atF raw (31 + 4 * i + k)) (2 ^ roads)

theorem RoadsOf_fc (raw : List Int) (players roads : Nat) (hpl : 1 ≤ players ∧ players ≤ 4) (hro : 1 ≤ roads ∧ roads ≤ 5) : FC Try.prog 18 [.ints raw, .i (players : Nat), .i (roads : Nat)] (.agg [.rows (mapr players (chRow raw roads)), .rows (mapr roads (coRow raw players))]) := by
  refine FC.intro Try.func18 rfl (Nat.le_of_ble_eq_true rfl) fun hfit => ?_
  obtain ⟨fitl0, fitr0⟩ := (hfit _ (.head _)).ints
  have fit1 : -9223372036854775808 ≤ ((players : Nat) : Int) ∧ ((players : Nat) : Int) ≤ 9223372036854775807 := (hfit _ (.tail _ (.head _))).int64
  have fit2 : -9223372036854775808 ≤ ((roads : Nat) : Int) ∧ ((roads : Nat) : Int) ≤ 9223372036854775807 := (hfit _ (.tail _ (.tail _ (.head _)))).int64
  refine awp_seq ?_
  refine awp_region rfl (.e (op_alloc 6 Try.zeroValue24 rfl rfl rfl) rfl (.nil _)) ?_
  refine awp_seq ?_
  refine awp_region rfl (.n (fun _ => op_build (pp := []) (places := #[(0, 1), (1, 1)]) Try.underlying24 Try.zeroValue24 rfl (by intro w; kernel_rfl) trivial rfl) (.e (op_alloc 7 Try.zeroValue24 rfl rfl rfl) rfl (.e (op_storeRA Try.sizeOf24 (.plain rfl) (.plain rfl) rfl rfl (Nat.le_of_ble_eq_true rfl) rfl) rfl (.nil _)))) ?_
  refine awp_seq ?_
  refine awp_seq ?_
  refine awp_region rfl (.n (fun _ => op_assign (.plain rfl)) (.nil _)) ?_
  refine awp_block ?_
  refine awp_ent (Ent.beginB 7 1 1071 25 1 (List Int) [] (fun r => [PV.ints r]) rfl rfl (by decide) rfl rfl) ?_
  refine awp_loop (σ := Nat) (fun (e : Nat) => e ≤ roads) (fun (e : Nat) => ⟨[(0, .pv (.ints raw)), (1, .int (players : Nat)), (2, .int (roads : Nat)), (6, .ref 6 0), (7, .ref 7 0), (8, .int (e : Nat))], [(6, .box [.pv .nil, .pv .nil]), (7, .box [.pv .nil, .own 1071]), (1071, .arr 25 1 (List Int) [] (fun r => [PV.ints r]) (mapr e (coRow raw players)))]⟩) (fun (e : Nat) => roads - e) 0 ?_ (Ent.kept ⟨rfl, rfl, rfl, rfl, rfl, rfl, trivial⟩ ⟨rfl, rfl, rfl, trivial⟩) ?_
  · simp
  rintro e hp
  try dsimp only at hp
  refine awp_seq ?_
  refine awp_seq ?_
  refine awp_region rfl (.n (fun _ => op_move (.plain rfl)) (.n (fun _ => op_move (.plain rfl)) (.n (fun _ => op_lss (.plain rfl) (.plain rfl)) (.nil _)))) ?_
  refine awp_cond rfl (fun h => ?_) (fun h => ?_)
  · try simp only [decide_eq_true_eq, decide_eq_false_iff_not, Bool.and_eq_true, Bool.or_eq_true, Bool.and_eq_false_iff, Bool.or_eq_false_iff, Bool.not_eq_true', Bool.not_eq_false', Bool.not_eq_true, Bool.not_eq_false, Bool.true_eq_false, Bool.false_eq_true] at h
    refine awp_skip ?_
    refine awp_seq ?_
    refine awp_block ?_
    refine awp_seq ?_
    refine awp_region rfl (.n (fun _ => op_assign (.plain rfl)) (.nil _)) ?_
    refine awp_seq ?_
    refine awp_seq ?_
    refine awp_region rfl (.n (fun _ => op_assign (.plain rfl)) (.nil _)) ?_
    refine awp_block ?_
    refine awp_ent (Ent.begin 9 1009 3 1 Int 0 (fun n => [.int .i64 n]) rfl rfl rfl) ?_
    refine awp_loop (σ := Nat) (fun (k : Nat) => k ≤ players) (fun (k : Nat) => ⟨[(0, .pv (.ints raw)), (1, .int (players : Nat)), (2, .int (roads : Nat)), (6, .ref 6 0), (7, .ref 7 0), (8, .int (e : Nat)), (9, .own 1009), (10, .int (k : Nat))], [(6, .box [.pv .nil, .pv .nil]), (7, .box [.pv .nil, .own 1071]), (1071, .arr 25 1 (List Int) [] (fun r => [PV.ints r]) (mapr e (coRow raw players))), (1009, .arr 3 1 Int 0 (fun n => [.int .i64 n]) (mapr k fun k => pickF (atF raw (e * players + k)) 15 - 2))]⟩) (fun (k : Nat) => players - k) 0 ?_ (Ent.kept ⟨rfl, rfl, rfl, rfl, rfl, rfl, rfl, rfl, trivial⟩ ⟨rfl, rfl, rfl, rfl, trivial⟩) ?_
    · simp
    rintro k hp
    try dsimp only at hp
    have hq1 := pickF_range (atF raw (e * players + k)) 15 (by omega)
    have hem := Nat.mul_le_mul (show e ≤ 5 by omega) hpl.2
    refine awp_seq ?_
    refine awp_seq ?_
    refine awp_region rfl (.n (fun _ => op_move (.plain rfl)) (.n (fun _ => op_move (.plain rfl)) (.n (fun _ => op_lss (.plain rfl) (.plain rfl)) (.nil _)))) ?_
    refine awp_cond rfl (fun h => ?_) (fun h => ?_)
    · try simp only [decide_eq_true_eq, decide_eq_false_iff_not, Bool.and_eq_true, Bool.or_eq_true, Bool.and_eq_false_iff, Bool.or_eq_false_iff, Bool.not_eq_true', Bool.not_eq_false', Bool.not_eq_true, Bool.not_eq_false, Bool.true_eq_false, Bool.false_eq_true] at h
      refine awp_skip ?_
      refine awp_seq ?_
      refine awp_block ?_
      refine awp_region rfl (.n (fun _ => op_move (.plain rfl)) (.n (fun _ => op_move (.plain rfl)) (.n (fun _ => op_move (.plain rfl)) (.n (fun _ => op_move (.plain rfl)) (.n (fun _ => op_mul (.plain rfl) (.plain rfl) ?_) (.n (fun _ => op_move (.plain rfl)) (.n (fun _ => op_add (.plain rfl) (.plain rfl) ?_) (.n (fun _ => op_call2 Try.call19 (.plain rfl) (.plain rfl) (At_fc _ (e * players + k))) (.n (fun _ => op_call2 Try.call17 (.plain rfl) (.plain rfl) (Pick_fc _ _ ?_)) (.n (fun _ => op_sub (.plain rfl) (.plain rfl) ?_) (.n (fun _ => op_slit (pp := [(0, _)]) (α := Int) (d := 0) (f := (fun n => [.int .i64 n])) [_] ety25 rfl ⟨rfl, (.plain rfl), (by simp), trivial⟩ rfl (by decide) rfl) (.e (op_append (id' := 36) (α := Int) (d := 0) (f := (fun n => [.int .i64 n])) ety25 Try.underlying25 (fun _ => rfl) (fun _ => rfl) (.plain rfl) rfl (.plain rfl) rfl ?_) rfl (.n (fun _ => op_assign (.plain rfl)) (.nil _)))))))))))))) ?_
      · unfold InR; omega
      · unfold InR; omega
      · omega
      · unfold InR; omega
      · first | omega | (simp; omega)
      refine awp_region rfl (.n (fun _ => op_move (.plain rfl)) (.n (fun _ => op_add (.plain rfl) (.plain rfl) ?_) (.n (fun _ => op_assign (.plain rfl)) (.nil _)))) ?_
      · unfold InR; omega
      exact ⟨k + 1, by omega, by dsimp only; omega, (Ent.round 36 1009 ⟨rfl, rfl, rfl, rfl, rfl, rfl, rfl, rfl, trivial⟩ ⟨rfl, rfl, rfl, (congrArg (fun l => some (Blk.arr 3 1 Int 0 (fun n => [.int .i64 n]) l)) ((mapr_succ _ _).symm)), trivial⟩ rfl rfl rfl ⟨rfl, rfl, rfl, rfl, rfl, rfl, rfl, rfl, trivial⟩ ⟨rfl, rfl, rfl, rfl, trivial⟩)⟩
    · try simp only [decide_eq_true_eq, decide_eq_false_iff_not, Bool.and_eq_true, Bool.or_eq_true, Bool.and_eq_false_iff, Bool.or_eq_false_iff, Bool.not_eq_true', Bool.not_eq_false', Bool.not_eq_true, Bool.not_eq_false, Bool.true_eq_false, Bool.false_eq_true] at h
      refine awp_exit ?_
      refine awp_ent (Ent.give 9 rfl rfl) ?_
      refine awp_region rfl (.n (fun _ => op_fieldAddrR Try.underlying24 rfl rfl Try.sizeOf22 (.plain rfl)) (.r (op_loadR Try.isAgg22 (.plain rfl) rfl rfl) (.n (fun _ => op_move (.plain rfl)) (.n (fun _ => op_slit (pp := [(0, _)]) (α := (List Int)) (d := []) (f := (fun r => [.seq Int 0 (fun n => [.int .i64 n]) r])) [_] ety22 rfl ⟨rfl, (.plain rfl), (by simp), trivial⟩ rfl (by decide) rfl) (.e (op_append (id' := 41) (α := (List Int)) (d := []) (f := (fun r => [.seq Int 0 (fun n => [.int .i64 n]) r])) ety22 Try.underlying22 (fun _ => rfl) (fun _ => rfl) (.plain rfl) rfl (.plain rfl) rfl ?_) rfl (.n (fun _ => op_fieldAddrR Try.underlying24 rfl rfl Try.sizeOf22 (.plain rfl)) (.e (op_storeR Try.sizeOf22 (.plain rfl) (.plain rfl) rfl (by decide) rfl (by simp) (fun i h => by cases h; exact ⟨_, _, _, _, _, _, rfl⟩)) rfl (.nil _)))))))) ?_
      · first | omega | (simp; omega)
      refine awp_region rfl (.n (fun _ => op_move (.plain rfl)) (.n (fun _ => op_add (.plain rfl) (.plain rfl) ?_) (.n (fun _ => op_assign (.plain rfl)) (.nil _)))) ?_
      · unfold InR; omega
      exact ⟨e + 1, by omega, by dsimp only; omega, (Ent.round 41 1071 ⟨rfl, rfl, rfl, rfl, rfl, rfl, trivial⟩ ⟨rfl, rfl, (congrArg (fun l => some (Blk.arr 25 1 (List Int) [] (fun r => [PV.ints r]) l)) (by rw [mapr_succ]; obtain rfl : k = players := (by omega); rfl)), trivial⟩ rfl rfl rfl ⟨rfl, rfl, rfl, rfl, rfl, rfl, trivial⟩ ⟨rfl, rfl, rfl, trivial⟩)⟩
  · try simp only [decide_eq_true_eq, decide_eq_false_iff_not, Bool.and_eq_true, Bool.or_eq_true, Bool.and_eq_false_iff, Bool.or_eq_false_iff, Bool.not_eq_true', Bool.not_eq_false', Bool.not_eq_true, Bool.not_eq_false, Bool.true_eq_false, Bool.false_eq_true] at h
    refine awp_exit ?_
    refine awp_seq ?_
    refine awp_seq ?_
    refine awp_region rfl (.n (fun _ => op_assign (.plain rfl)) (.nil _)) ?_
    refine awp_block ?_
    refine awp_ent (Ent.beginB 7 0 1070 25 1 (List Int) [] (fun r => [PV.ints r]) rfl rfl (by decide) rfl rfl) ?_
    refine awp_loop (σ := Nat) (fun (i : Nat) => i ≤ players) (fun (i : Nat) => ⟨[(0, .pv (.ints raw)), (1, .int (players : Nat)), (2, .int (roads : Nat)), (6, .ref 6 0), (7, .ref 7 0), (11, .int (i : Nat))], [(6, .box [.pv .nil, .pv .nil]), (7, .box [.own 1070, .own 1071]), (1070, .arr 25 1 (List Int) [] (fun r => [PV.ints r]) (mapr i (chRow raw roads))), (1071, .arr 25 1 (List Int) [] (fun r => [PV.ints r]) (mapr roads (coRow raw players)))]⟩) (fun (i : Nat) => players - i) 0 ?_ (Ent.kept ⟨rfl, rfl, rfl, rfl, rfl, rfl, trivial⟩ ⟨rfl, rfl, rfl, (by obtain rfl : e = roads := (by omega); rfl), trivial⟩) ?_
    · simp
    rintro i hp
    try dsimp only at hp
    refine awp_seq ?_
    refine awp_seq ?_
    refine awp_region rfl (.n (fun _ => op_move (.plain rfl)) (.n (fun _ => op_move (.plain rfl)) (.n (fun _ => op_lss (.plain rfl) (.plain rfl)) (.nil _)))) ?_
    refine awp_cond rfl (fun h => ?_) (fun h => ?_)
    · try simp only [decide_eq_true_eq, decide_eq_false_iff_not, Bool.and_eq_true, Bool.or_eq_true, Bool.and_eq_false_iff, Bool.or_eq_false_iff, Bool.not_eq_true', Bool.not_eq_false', Bool.not_eq_true, Bool.not_eq_false, Bool.true_eq_false, Bool.false_eq_true] at h
      refine awp_skip ?_
      refine awp_seq ?_
      refine awp_block ?_
      refine awp_seq ?_
      refine awp_region rfl (.n (fun _ => op_assign (.plain rfl)) (.nil _)) ?_
      refine awp_seq ?_
      refine awp_seq ?_
      refine awp_region rfl (.n (fun _ => op_assign (.plain rfl)) (.nil _)) ?_
      refine awp_block ?_
      refine awp_ent (Ent.begin 12 1012 3 1 Int 0 (fun n => [.int .i64 n]) rfl rfl rfl) ?_
      refine awp_loop (σ := Nat) (fun (k : Nat) => k ≤ (pickF (atF raw i) 3 + 1).toNat) (fun (k : Nat) => ⟨[(0, .pv (.ints raw)), (1, .int (players : Nat)), (2, .int (roads : Nat)), (6, .ref 6 0), (7, .ref 7 0), (11, .int (i : Nat)), (12, .own 1012), (13, .int (k : Nat))], [(6, .box [.pv .nil, .pv .nil]), (7, .box [.own 1070, .own 1071]), (1070, .arr 25 1 (List Int) [] (fun r => [PV.ints r]) (mapr i (chRow raw roads))), (1071, .arr 25 1 (List Int) [] (fun r => [PV.ints r]) (mapr roads (coRow raw players))), (1012, .arr 3 1 Int 0 (fun n => [.int .i64 n]) (mapr k fun k => pickF (atF raw (31 + 4 * i + k)) (2 ^ roads)))]⟩) (fun (k : Nat) => (pickF (atF raw i) 3 + 1).toNat - k) 0 ?_ (Ent.kept ⟨rfl, rfl, rfl, rfl, rfl, rfl, rfl, rfl, trivial⟩ ⟨rfl, rfl, rfl, rfl, rfl, trivial⟩) ?_
      · simp
      rintro k hp
      try dsimp only at hp
      have hq1 := pickF_range (atF raw i) 3 (by omega)
      have hpe : (2 : Int) ^ ((roads : Nat) : Int).toNat = 2 ^ roads := by rw [Int.toNat_natCast]
      have hp2 := two_pow_nat roads
      have hpb := two_pow_bd hro.2
      refine awp_seq ?_
      refine awp_seq ?_
      refine awp_region rfl (.n (fun _ => op_move (.plain rfl)) (.n (fun _ => op_move (.plain rfl)) (.n (fun _ => op_move (.plain rfl)) (.n (fun _ => op_call2 Try.call19 (.plain rfl) (.plain rfl) (At_fc _ _)) (.n (fun _ => op_call2 Try.call17 (.plain rfl) (.plain rfl) (Pick_fc _ _ ?_)) (.n (fun _ => op_leq (.plain rfl) (.plain rfl)) (.nil _))))))) ?_
      · omega
      refine awp_cond rfl (fun h => ?_) (fun h => ?_)
      · try simp only [decide_eq_true_eq, decide_eq_false_iff_not, Bool.and_eq_true, Bool.or_eq_true, Bool.and_eq_false_iff, Bool.or_eq_false_iff, Bool.not_eq_true', Bool.not_eq_false', Bool.not_eq_true, Bool.not_eq_false, Bool.true_eq_false, Bool.false_eq_true] at h
        refine awp_skip ?_
        refine awp_seq ?_
        refine awp_block ?_
        refine awp_region_draw mixed rfl (.n (fun _ => op_move (.plain rfl)) (.n (fun _ => op_move (.plain rfl)) (.n (fun _ => op_move (.plain rfl)) (.n (fun _ => op_mul (.plain rfl) (.plain rfl) ?_) (.n (fun _ => op_add (.plain rfl) (.plain rfl) ?_) (.n (fun _ => op_move (.plain rfl)) (.n (fun _ => op_add (.plain rfl) (.plain rfl) ?_) (.n (fun _ => op_call2 Try.call19 (.plain rfl) (.plain rfl) (At_fc _ (31 + 4 * i + k))) (.n (fun _ => op_move (.plain rfl)) (.n (fun _ => op_shl (.plain rfl) (.plain rfl) ?_) (.n (fun _ => op_call2 Try.call17 (.plain rfl) (.plain rfl) (Pick_fc _ _ ?_)) (.n (fun _ => op_slit (pp := [(0, _)]) (α := Int) (d := 0) (f := (fun n => [.int .i64 n])) [_] ety25 rfl ⟨rfl, (.plain rfl), (by simp), trivial⟩ rfl (by decide) rfl) (.e (op_append (id' := 68) (α := Int) (d := 0) (f := (fun n => [.int .i64 n])) ety25 Try.underlying25 (fun _ => rfl) (fun _ => rfl) (.plain rfl) rfl (.plain rfl) rfl ?_) rfl (.n (fun _ => op_assign (.plain rfl)) (.nil _))))))))))))))) ?d1 ?_
        · unfold InR; omega
        · unfold InR; omega
        · unfold InR; omega
        · unfold InR; omega
        · omega
        · first | omega | (simp; omega)
        · kernel_rfl
        refine awp_region rfl (.n (fun _ => op_move (.plain rfl)) (.n (fun _ => op_add (.plain rfl) (.plain rfl) ?_) (.n (fun _ => op_assign (.plain rfl)) (.nil _)))) ?_
        · unfold InR; omega
        exact ⟨k + 1, by omega, by dsimp only; omega, (Ent.round 68 1012 ⟨rfl, rfl, rfl, rfl, rfl, rfl, rfl, rfl, trivial⟩ ⟨rfl, rfl, rfl, rfl, (congrArg (fun l => some (Blk.arr 3 1 Int 0 (fun n => [.int .i64 n]) l)) (by rw [mapr_succ, show (1 : Int) * 2 ^ ((roads : Nat) : Int).toNat = 2 ^ roads by rw [Int.one_mul, Int.toNat_natCast]])), trivial⟩ rfl rfl rfl ⟨rfl, rfl, rfl, rfl, rfl, rfl, rfl, rfl, trivial⟩ ⟨rfl, rfl, rfl, rfl, rfl, trivial⟩)⟩
      · try simp only [decide_eq_true_eq, decide_eq_false_iff_not, Bool.and_eq_true, Bool.or_eq_true, Bool.and_eq_false_iff, Bool.or_eq_false_iff, Bool.not_eq_true', Bool.not_eq_false', Bool.not_eq_true, Bool.not_eq_false, Bool.true_eq_false, Bool.false_eq_true] at h
        refine awp_exit ?_
        refine awp_ent (Ent.give 12 rfl rfl) ?_
        refine awp_region rfl (.n (fun _ => op_fieldAddrR Try.underlying24 rfl rfl Try.sizeOf22 (.plain rfl)) (.r (op_loadR Try.isAgg22 (.plain rfl) rfl rfl) (.n (fun _ => op_move (.plain rfl)) (.n (fun _ => op_slit (pp := [(0, _)]) (α := (List Int)) (d := []) (f := (fun r => [.seq Int 0 (fun n => [.int .i64 n]) r])) [_] ety22 rfl ⟨rfl, (.plain rfl), (by simp), trivial⟩ rfl (by decide) rfl) (.e (op_append (id' := 73) (α := (List Int)) (d := []) (f := (fun r => [.seq Int 0 (fun n => [.int .i64 n]) r])) ety22 Try.underlying22 (fun _ => rfl) (fun _ => rfl) (.plain rfl) rfl (.plain rfl) rfl ?_) rfl (.n (fun _ => op_fieldAddrR Try.underlying24 rfl rfl Try.sizeOf22 (.plain rfl)) (.e (op_storeR Try.sizeOf22 (.plain rfl) (.plain rfl) rfl (by decide) rfl (by simp) (fun i h => by cases h; exact ⟨_, _, _, _, _, _, rfl⟩)) rfl (.nil _)))))))) ?_
        · first | omega | (simp; omega)
        refine awp_region rfl (.n (fun _ => op_move (.plain rfl)) (.n (fun _ => op_add (.plain rfl) (.plain rfl) ?_) (.n (fun _ => op_assign (.plain rfl)) (.nil _)))) ?_
        · unfold InR; omega
        exact ⟨i + 1, by omega, by dsimp only; omega, (Ent.round 73 1070 ⟨rfl, rfl, rfl, rfl, rfl, rfl, trivial⟩ ⟨rfl, rfl, (congrArg (fun l => some (Blk.arr 25 1 (List Int) [] (fun r => [PV.ints r]) l)) (by rw [mapr_succ]; unfold chRow; rw [show (pickF (atF raw i) 3 + 1).toNat = k by omega])), rfl, trivial⟩ rfl rfl rfl ⟨rfl, rfl, rfl, rfl, rfl, rfl, trivial⟩ ⟨rfl, rfl, rfl, rfl, trivial⟩)⟩
    · try simp only [decide_eq_true_eq, decide_eq_false_iff_not, Bool.and_eq_true, Bool.or_eq_true, Bool.and_eq_false_iff, Bool.or_eq_false_iff, Bool.not_eq_true', Bool.not_eq_false', Bool.not_eq_true, Bool.not_eq_false, Bool.true_eq_false, Bool.false_eq_true] at h
      refine awp_exit ?_
      refine awp_seq ?_
      refine awp_ent (Ent.giveB 7 0 1070 rfl rfl rfl) ?_
      refine awp_ent (Ent.giveB 7 1 1071 rfl rfl rfl) ?_
      refine awp_region rfl (.r (op_loadRA Try.isAgg24 Try.sizeOf24 (.plain rfl) rfl (by simp) rfl) (.e (op_storeRA Try.sizeOf24 (.plain rfl) (.plain rfl) rfl rfl (Nat.le_of_ble_eq_true rfl) rfl) rfl (.nil _))) ?_
      refine awp_ret ?_
      refine retQ.ret ?_
      refine retC rfl rfl Try.isAgg24 Try.sizeOf24 ?_
      obtain rfl : i = players := by omega
      rfl

theorem same_fc (a b : List Int) : FC Try.prog 20 [.ints a, .ints b] (.bool (decide (a = b))) := by
  refine FC.intro Try.func20 rfl (Nat.le_of_ble_eq_true rfl) fun hfit => ?_
  obtain ⟨fitl0, fitr0⟩ := (hfit _ (.head _)).ints
  obtain ⟨fitl1, fitr1⟩ := (hfit _ (.tail _ (.head _))).ints
  refine awp_seq ?_
  refine awp_region rfl (.n (fun _ => op_assign (.plain rfl)) (.nil _)) ?_
  refine awp_seq ?_
  refine awp_seq ?_
  refine awp_region rfl (.n (fun _ => op_move (.plain rfl)) (.n (fun _ => op_len (s := 0) Try.underlying25 (.plain rfl)) (.n (fun _ => op_move (.plain rfl)) (.n (fun _ => op_len (s := 0) Try.underlying25 (.plain rfl)) (.n (fun _ => op_neq (.plain rfl) (.plain rfl)) (.nil _)))))) ?_
  refine awp_cond rfl (fun h => ?_) (fun h => ?_)
  · try simp only [decide_eq_true_eq, decide_eq_false_iff_not, Bool.and_eq_true, Bool.or_eq_true, Bool.and_eq_false_iff, Bool.or_eq_false_iff, Bool.not_eq_true', Bool.not_eq_false', Bool.not_eq_true, Bool.not_eq_false, Bool.true_eq_false, Bool.false_eq_true] at h
    refine awp_seq ?_
    refine awp_region rfl (.n (fun _ => op_assign (.plain rfl)) (.nil _)) ?_
    refine awp_ret ?_
    refine retQ.ret ?_
    refine ret1 rfl rfl rfl ?_
    rw [decide_eq_false (fun e => by subst e; simp at h)]
  · try simp only [decide_eq_true_eq, decide_eq_false_iff_not, Bool.and_eq_true, Bool.or_eq_true, Bool.and_eq_false_iff, Bool.or_eq_false_iff, Bool.not_eq_true', Bool.not_eq_false', Bool.not_eq_true, Bool.not_eq_false, Bool.true_eq_false, Bool.false_eq_true] at h
    refine awp_skip ?_
    refine awp_seq ?_
    refine awp_seq ?_
    refine awp_region rfl (.n (fun _ => op_assign (.plain rfl)) (.nil _)) ?_
    refine awp_block ?_
    refine awp_loop (σ := Nat) (fun (k : Nat) => k ≤ a.length ∧ ∀ j, j < k → a.getD j 0 = b.getD j 0) (fun (k : Nat) => ⟨[(5, .int (k : Nat)), (0, .pv (.ints a)), (1, .pv (.ints b))], []⟩) (fun (k : Nat) => a.length - k) 0 ?_ (Ent.kept ⟨rfl, rfl, rfl, trivial⟩ trivial) ?_
    · exact ⟨Nat.zero_le _, fun j hj => absurd hj (Nat.not_lt_zero _)⟩
    rintro k hp
    try dsimp only at hp
    obtain ⟨hk, hj⟩ := hp
    have hlen : a.length = b.length := by omega
    refine awp_seq ?_
    refine awp_seq ?_
    refine awp_region rfl (.n (fun _ => op_move (.plain rfl)) (.n (fun _ => op_move (.plain rfl)) (.n (fun _ => op_len (s := 0) Try.underlying25 (.plain rfl)) (.n (fun _ => op_lss (.plain rfl) (.plain rfl)) (.nil _))))) ?_
    refine awp_cond rfl (fun h => ?_) (fun h => ?_)
    · try simp only [decide_eq_true_eq, decide_eq_false_iff_not, Bool.and_eq_true, Bool.or_eq_true, Bool.and_eq_false_iff, Bool.or_eq_false_iff, Bool.not_eq_true', Bool.not_eq_false', Bool.not_eq_true, Bool.not_eq_false, Bool.true_eq_false, Bool.false_eq_true] at h
      refine awp_skip ?_
      refine awp_seq ?_
      refine awp_block ?_
      refine awp_seq ?_
      refine awp_region_draw mixed rfl (.n (fun _ => op_move (.plain rfl)) (.n (fun _ => op_move (.plain rfl)) (.n (fun _ => op_indexAddrN Try.underlying25 Try.sizeOf3 (.plain rfl) (.plain rfl) (fun _ => rfl) ?_) (.n (fun _ => op_load Try.isAgg3 (.plain rfl)) (.n (fun _ => op_move (.plain rfl)) (.n (fun _ => op_move (.plain rfl)) (.n (fun _ => op_indexAddrN Try.underlying25 Try.sizeOf3 (.plain rfl) (.plain rfl) (fun _ => rfl) ?_) (.n (fun _ => op_load Try.isAgg3 (.plain rfl)) (.n (fun _ => op_neq (.plain rfl) (.plain rfl)) (.nil _)))))))))) ?d2 ?_
      · omega
      · omega
      · kernel_rfl
      refine awp_cond rfl (fun h => ?_) (fun h => ?_)
      · try simp only [decide_eq_true_eq, decide_eq_false_iff_not, Bool.and_eq_true, Bool.or_eq_true, Bool.and_eq_false_iff, Bool.or_eq_false_iff, Bool.not_eq_true', Bool.not_eq_false', Bool.not_eq_true, Bool.not_eq_false, Bool.true_eq_false, Bool.false_eq_true] at h
        refine awp_seq ?_
        refine awp_region rfl (.n (fun _ => op_assign (.plain rfl)) (.nil _)) ?_
        refine awp_ret ?_
        refine retQ.ret ?_
        refine ret1 rfl rfl rfl ?_
        rw [decide_eq_false (fun e => by subst e; simp at h)]
      · try simp only [decide_eq_true_eq, decide_eq_false_iff_not, Bool.and_eq_true, Bool.or_eq_true, Bool.and_eq_false_iff, Bool.or_eq_false_iff, Bool.not_eq_true', Bool.not_eq_false', Bool.not_eq_true, Bool.not_eq_false, Bool.true_eq_false, Bool.false_eq_true] at h
        refine awp_skip ?_
        refine awp_region rfl (.n (fun _ => op_move (.plain rfl)) (.n (fun _ => op_add (.plain rfl) (.plain rfl) ?_) (.n (fun _ => op_assign (.plain rfl)) (.nil _)))) ?_
        · unfold InR; omega
        refine ⟨k + 1, ⟨by omega, fun j hjk => ?_⟩, by dsimp only; omega, Ent.kept ⟨rfl, rfl, rfl, trivial⟩ trivial⟩
        by_cases e : j = k
        · subst e; omega
        · exact hj j (by omega)
    · try simp only [decide_eq_true_eq, decide_eq_false_iff_not, Bool.and_eq_true, Bool.or_eq_true, Bool.and_eq_false_iff, Bool.or_eq_false_iff, Bool.not_eq_true', Bool.not_eq_false', Bool.not_eq_true, Bool.not_eq_false, Bool.true_eq_false, Bool.false_eq_true] at h
      refine awp_exit ?_
      refine awp_seq ?_
      refine awp_region rfl (.n (fun _ => op_assign (.plain rfl)) (.nil _)) ?_
      refine awp_ret ?_
      refine retQ.ret ?_
      refine ret1 rfl rfl rfl ?_
      rw [decide_eq_true (List.ext_getElem hlen fun j h1 h2 => by have := hj j (by omega); simpa [List.getD_eq_getElem?_getD, h1, h2] using this)]


theorem firstE_all {f : Nat → Int} : ∀ {n : Nat}, (∀ j, j < n → f j = 0) → firstE f n = 0
  | 0, _ => rfl
  | n + 1, h => firstE_succ (firstE_all fun j hj => h j (by omega)) (h n (by omega))
theorem AtOk.atE {ch co : List (List Int)} {at' : List Int} (h : AtOk ch co at') : atE ch co at' = 0 := by
  have h1 : countE ch co = 0 := if_neg (by have := h.nch; have := h.nco; omega)
  have h2 : costsE ch co = 0 := firstE_all fun e he => by
    have := h.hco e he
    unfold costRowE
    rw [if_neg (by omega)]
    exact firstE_all fun k hk => if_neg (by have := this.2 k (by omega); omega)
  have h3 : chsE ch co = 0 := firstE_all fun e he => by
    have := h.hch e he
    unfold chRowE
    rw [if_neg (by omega)]
    exact firstE_all fun k hk => if_neg (by have := this.2 k (by omega); omega)
  have h4 : roadsE ch co = 0 := by simp [roadsE, h1, h2, h3]
  unfold Go.Proofs.Ytikcaphhejllpaa.atE
  rw [if_neg (by omega), if_neg (by have := h.nat'; omega)]
  exact firstE_all fun i hi => if_neg (by have := h.hat i hi; omega)
theorem stopF_spec {ch co : List (List Int)} {at' : List Int} (hok : AtOk ch co at') : AtOk ch co (pathF ch co at' (stopF ch co at')) ∧ stepF ch co (pathF ch co at' (stopF ch co at')) = none := by
  unfold stopF
  cases h : firstI (endsF ch co at') 60002 with
  | none => have := path_len hok h; omega
  | some m =>
    obtain ⟨h1, h2, h3⟩ := firstI_spec h
    have h4 : firstI (endsF ch co at') m = none := by
      clear h h1 h2
      induction m with
      | zero => rfl
      | succ m ih => exact firstI_succ (ih fun j hj => h3 j (by omega)) (h3 m (by omega))
    refine ⟨(path_spec hok h4).1, ?_⟩
    have h5 : (stepF ch co (pathF ch co at' m)).isNone = true := h2
    exact Option.isNone_iff_eq_none.1 h5
theorem calm_of_stop {ch co : List (List Int)} {at' : List Int} (h : stepF ch co at' = none) {i k : Nat} (hi : i < at'.length) (hk : k < (ch.getD i []).length) : costF ch co at' i ≤ costF ch co (at'.set i ((k : Nat) : Int)) i := by
  unfold stepF at h
  have h1 := firstI_none (Option.map_eq_none_iff.1 h) i hi
  have h2 : moveF ch co at' i = at'.getD i 0 := by simpa only [movesF, Bool.not_eq_false', decide_eq_true_eq] using h1
  obtain ⟨_, h3, h4⟩ := bestTo_spec ch co at' i hi (ch.getD i []).length
  have h5 := h4 k hk
  rcases h3 with h3 | h3
  · omega
  · exact absurd h2 h3.1
theorem made_ok (raw : List Int) (players roads : Nat) (hpl : 1 ≤ players ∧ players ≤ 4) (hro : 1 ≤ roads ∧ roads ≤ 5) (a : List Int) (ha : a.length = players) (h : ∀ i, i < players → 0 ≤ a.getD i 0 ∧ a.getD i 0 < (chRow raw roads i).length) :
    AtOk (mapr players (chRow raw roads)) (mapr roads (coRow raw players)) a := {
  nch := by rw [mapr_length]; omega
  nco := by rw [mapr_length]; omega
  hco := fun e he => by
    rw [mapr_length] at he
    rw [mapr_getD _ he, mapr_length]
    refine ⟨by simp [coRow], fun k hk => ?_⟩
    have := pickF_range (atF raw (e * players + k)) 15 (by omega)
    unfold coRow
    rw [mapr_getD _ hk]; omega
  hch := fun i hi => by
    rw [mapr_length] at hi
    rw [mapr_getD _ hi, mapr_length]
    have h1 := pickF_range (atF raw i) 3 (by omega)
    have h2 : (chRow raw roads i).length = (pickF (atF raw i) 3 + 1).toNat := mapr_length _ _
    refine ⟨by omega, fun k hk => ?_⟩
    unfold chRow
    rw [mapr_getD _ (by omega)]
    exact pickF_range _ _ (two_pow_nat roads)
  nat' := by rw [mapr_length]; exact ha
  hat := fun i hi => by
    rw [mapr_getD _ (by omega)]
    exact h i (by omega) }


theorem RoadsOf_fcI (raw : List Int) (n : Nat) (r : Int) (hpl : 1 ≤ n ∧ n ≤ 4) (hr : 1 ≤ r ∧ r ≤ 5) : FC Try.prog 18 [.ints raw, .i (n : Nat), .i r] (.agg [.rows (mapr n (chRow raw r.toNat)), .rows (mapr r.toNat (coRow raw n))]) := by
  obtain ⟨m, rfl⟩ : ∃ m : Nat, r = m := ⟨r.toNat, by omega⟩
  rw [Int.toNat_natCast]
  exact RoadsOf_fc raw n m hpl (by omega)
theorem made_ok' {raw : List Int} {n R : Nat} {ch co : List (List Int)} (hch : mapr n (chRow raw R) = ch) (hco : mapr R (coRow raw n) = co) (hpl : 1 ≤ n ∧ n ≤ 4) (hro : 1 ≤ R ∧ R ≤ 5) :
    (ch.length = n ∧ ∀ i, i < n → 1 ≤ (ch.getD i []).length ∧ (ch.getD i []).length ≤ 5) ∧ ∀ a : List Int, a.length = n → (∀ i, i < n → 0 ≤ a.getD i 0 ∧ a.getD i 0 < (ch.getD i []).length) → AtOk ch co a := by
  subst hch hco
  have hl : ∀ i, i < n → 1 ≤ ((mapr n (chRow raw R)).getD i []).length ∧ ((mapr n (chRow raw R)).getD i []).length ≤ 5 := fun i hi => by
    rw [mapr_getD _ hi]
    have h1 := pickF_range (atF raw i) 3 (by omega)
    have h2 : (chRow raw R i).length = (pickF (atF raw i) 3 + 1).toNat := mapr_length _ _
    omega
  refine ⟨⟨mapr_length _ _, hl⟩, fun a ha h => made_ok raw n R hpl hro a ha fun i hi => ?_⟩
  have := h i hi
  rwa [mapr_getD _ hi] at this
def picksF (ch : List (List Int)) (at' : List Int) (i : Nat) : Int := pickF (atF at' i) (ch.getD i []).length
theorem settle_first (ch co : List (List Int)) (a : List Int) : (settleF ch co a).getD 0 [] = a := by
  unfold settleF; rw [mapr_getD _ (by omega)]; rfl
theorem settle_last (ch co : List (List Int)) (a : List Int) : (settleF ch co a).getD (((settleF ch co a).length : Int) - 1).toNat [] = pathF ch co a (stopF ch co a) := by
  unfold settleF
  rw [mapr_length, show (((stopF ch co a + 1 : Nat) : Int) - 1).toNat = stopF ch co a by omega]
  exact mapr_getD _ (by omega)

end Go.Proofs.Ytikcaphhejllpaa

