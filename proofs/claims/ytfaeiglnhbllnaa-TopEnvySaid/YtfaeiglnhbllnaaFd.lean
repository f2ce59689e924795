/- What ShareSays says, second part: the most even way. Conditions: each theorem names its own. -/
import Derived.Test.YtfaeiglnhbllnaaProg
import Derived.Test.YtfaeiglnhbllnaaAbsP
import Derived.Test.YtfaeiglnhbllnaaFc
namespace Go.Proofs.Ytfaeiglnhbllnaa
open Go.Abs
set_option linter.unusedVariables false
set_option linter.unusedSimpArgs false


def wS (g m k s : Nat) : List Int := (wayN g m k).take (m - s) ++ List.replicate s 0
@[simp] theorem wS_length {g m k s : Nat} (h : s ≤ m) : (wS g m k s).length = m := by simp [wS]; omega
theorem wS_zero {g m k : Nat} : wayN g m k = wS g m k 0 := by unfold wS; rw [Nat.sub_zero, List.take_of_length_le (by simp)]; simp
theorem wS_eq {g m k s : Nat} (h : s < m) : wS g m k s = (wayN g m k).take (m - 1 - s) ++ (wayN g m k).getD (m - 1 - s) 0 :: List.replicate s 0 := by
  unfold wS
  have hl : m - 1 - s < (wayN g m k).length := by simp; omega
  rw [show m - s = (m - 1 - s) + 1 by omega, List.take_succ_eq_append_getElem hl, List.append_assoc, List.getD_eq_getElem?_getD, List.getElem?_eq_getElem hl]; rfl
theorem wS_upd {g m k s : Nat} (h : s < m) (a : Int) : (wS g m k s).set (m - 1 - s) a = (wayN g m k).take (m - 1 - s) ++ a :: List.replicate s 0 := by
  rw [wS_eq h, List.set_append_right _ _ (by simp; omega)]
  have : m - 1 - s - ((wayN g m k).take (m - 1 - s)).length = 0 := by simp; omega
  rw [this, List.set_cons_zero]
theorem wS_get {g m k s : Nat} (h : s < m) : (wS g m k s).getD (m - 1 - s) 0 = (wayN g m k).getD (m - 1 - s) 0 := by
  rw [wS_eq h, List.getD_eq_getElem?_getD, List.getElem?_append_right (by simp; omega)]
  have : m - 1 - s - ((wayN g m k).take (m - 1 - s)).length = 0 := by simp; omega
  rw [this]; rfl
theorem wS_set {g m k s : Nat} (h : s < m) : (wS g m k s).set ((m : Int) - 1 - (s : Nat)).toNat 0 = wS g m k (s + 1) := by
  rw [down_nat h, wS_upd h, wS, List.replicate_succ, show m - (s + 1) = m - 1 - s by omega]
theorem wS_all {g m k s : Nat} (h : s < m) (hA : ∀ j, m - s ≤ j → j < m → (wayN g m k).getD j 0 = (g : Int) - 1) (hx : (wS g m k s).getD ((m : Int) - 1 - (s : Nat)).toNat 0 = (g : Int) - 1) : ∀ j, m - (s + 1) ≤ j → j < m → (wayN g m k).getD j 0 = (g : Int) - 1 := fun j h1 h2 => by
  by_cases e : m - s ≤ j
  · exact hA j e h2
  · obtain rfl : j = m - 1 - s := by omega
    rw [down_nat h, wS_get h] at hx; exact hx
theorem wS_in {g m k s : Nat} (hk : k < g ^ m) (h : s < m) : 0 ≤ (wS g m k s).getD ((m : Int) - 1 - (s : Nat)).toNat 0 ∧ (wS g m k s).getD ((m : Int) - 1 - (s : Nat)).toNat 0 < g := by
  rw [down_nat h, wS_get h]; exact wayN_in hk _ (by omega)
theorem wS_next {g m k s : Nat} (hk : k < g ^ m) (h : s < m) (hA : ∀ j, m - s ≤ j → j < m → (wayN g m k).getD j 0 = (g : Int) - 1) (hx : ¬ (wS g m k s).getD ((m : Int) - 1 - (s : Nat)).toNat 0 = (g : Int) - 1) : k + 1 < g ^ m ∧ (wS g m k s).set ((m : Int) - 1 - (s : Nat)).toNat ((wS g m k s).getD ((m : Int) - 1 - (s : Nat)).toNat 0 + 1) = wayN g m (k + 1) := by
  rw [down_nat h, wS_get h] at *
  obtain ⟨h1, h2⟩ := (wayN_next hk (by omega) hA).2 h hx
  exact ⟨h1, by rw [h2, wS_upd h]⟩
theorem wS_last {g m k s : Nat} (hk : k < g ^ m) (h : s = m) (hA : ∀ j, m - s ≤ j → j < m → (wayN g m k).getD j 0 = (g : Int) - 1) : k + 1 = g ^ m := (wayN_next hk (by omega) hA).1 h
theorem lv_box {a b a' b' : Int} (h : a = a' ∧ b = b') : some (Blk.box [SV.int a, SV.int b]) = some (Blk.box [SV.int a', SV.int b']) := by rw [h.1, h.2]
theorem below_eq {a b c d : Int} : (decide (a < c) || (decide (a = c) && decide (b < d))) = below (a, b) (c, d) := rfl
theorem even_err {v : List (List Int)} (h : ¬ mayE v = 0) : PV.tup [.ints [], .i (mayE v)] = .tup [.ints (evenRes v), .i (mayE v)] := by unfold evenRes; rw [if_neg h]
theorem even_ok {v : List (List Int)} (h : mayE v = 0) (hn : 1 ≤ v.length) : PV.tup [bP v (v.length ^ mL v), .i 0] = .tup [.ints (evenRes v), .i (mayE v)] := by
  unfold bP evenRes; rw [h, if_pos rfl, bW_all hn]
theorem bP_yes {v : List (List Int)} {k : Nat} (h : bW v (k + 1) = some (wayN v.length (mL v) k)) : some (Blk.box [SV.pv (.ints (wayN v.length (mL v) k))]) = some (Blk.box [SV.pv (bP v (k + 1))]) := by unfold bP; rw [h]
theorem mP_yes {v : List (List Int)} {k : Nat} (h : bW v (k + 1) = some (wayN v.length (mL v) k)) : some (Blk.box [SV.int (lv v (wayN v.length (mL v) k)).1, SV.int (lv v (wayN v.length (mL v) k)).2]) = some (Blk.box [SV.int (mP v (k + 1)).1, SV.int (mP v (k + 1)).2]) := by unfold mP; rw [h]
theorem bP_no {v : List (List Int)} {k : Nat} (h : bW v (k + 1) = bW v k) : some (Blk.box [SV.pv (bP v k)]) = some (Blk.box [SV.pv (bP v (k + 1))]) := by unfold bP; rw [h]
theorem mP_no {v : List (List Int)} {k : Nat} (h : bW v (k + 1) = bW v k) : some (Blk.box [SV.int (mP v k).1, SV.int (mP v k).2]) = some (Blk.box [SV.int (mP v (k + 1)).1, SV.int (mP v (k + 1)).2]) := by unfold mP; rw [h]

theorem levelOf_fc (v : List (List Int)) (give : List Int) (hV : Val v) (hg : give.length = mL v) : FC Try.prog 31 [.rows v, .ints give] (.agg [.i (lv v give).1, .i (lv v give).2]) := by
  refine FC.intro Try.func31 rfl (Nat.le_of_ble_eq_true rfl) fun hfit => ?_
  obtain ⟨fitl0, fitr0⟩ := (hfit _ (.head _)).rows
  obtain ⟨fitl1, fitr1⟩ := (hfit _ (.tail _ (.head _))).ints
  have hn1 := hV.n1
  have hn4 := hV.n4
  have hm8 := hV.m8
  refine awp_seq ?_
  refine awp_region rfl (.e (op_alloc 4 Try.zeroValue46 rfl rfl rfl) rfl (.nil _)) ?_
  refine awp_seq ?_
  refine awp_region rfl (.n (fun _ => op_build (pp := [(0, _), (1, _)]) (places := #[(0, 1), (1, 1)]) Try.underlying46 Try.zeroValue46 rfl (by intro w; kernel_rfl) ⟨rfl, (.plain rfl), (by simp), rfl, (.plain rfl), (by simp), trivial⟩ rfl) (.e (op_alloc 5 Try.zeroValue46 rfl rfl rfl) rfl (.e (op_storeRA Try.sizeOf46 (.plain rfl) (.plain rfl) rfl rfl (Nat.le_of_ble_eq_true rfl) rfl) rfl (.nil _)))) ?_
  refine awp_seq ?_
  refine awp_seq ?_
  refine awp_region rfl (.n (fun _ => op_move (.plain rfl)) (.n (fun _ => op_len (s := 0) Try.underlying22 (.plain rfl)) (.n (fun _ => op_move (.plain rfl)) (.nil _)))) ?_
  refine awp_block ?_
  refine awp_loop (σ := Nat) (fun (i : Nat) => i ≤ v.length) (fun (i : Nat) => ⟨[(0, .pv (.rows v)), (1, .pv (.ints give)), (4, .ref 4 0), (5, .ref 5 0), (10, .int (v.length : Nat)), (11, .int (i : Nat))], [(4, .box [.int 0, .int 0]), (5, .box [.int (lvTo v give i).1, .int (lvTo v give i).2])]⟩) (fun (i : Nat) => v.length - i) 0 ?_ (Ent.kept ⟨rfl, rfl, rfl, rfl, rfl, rfl, trivial⟩ ⟨rfl, rfl, trivial⟩) ?_
  · exact Nat.zero_le _
  rintro i hp
  try dsimp only at hp
  have hi := hp
  have hbd := lvTo_bd hV hg i hi
  refine awp_seq ?_
  refine awp_region rfl (.n (fun _ => op_lss (.plain rfl) (.plain rfl)) (.nil _)) ?_
  refine awp_seq ?_
  refine awp_cond rfl (fun h => ?_) (fun h => ?_)
  · try simp only [decide_eq_true_eq, decide_eq_false_iff_not, Bool.and_eq_true, Bool.or_eq_true, Bool.and_eq_false_iff, Bool.or_eq_false_iff, Bool.not_eq_true', Bool.not_eq_false', Bool.not_eq_true, Bool.not_eq_false, Bool.true_eq_false, Bool.false_eq_true] at h
    refine awp_skip ?_
    refine awp_seq ?_
    refine awp_block ?_
    refine awp_seq ?_
    refine awp_region rfl (.n (fun _ => op_move (.plain rfl)) (.n (fun _ => op_assign (.plain rfl)) (.nil _))) ?_
    refine awp_seq ?_
    refine awp_region rfl (.n (fun _ => op_move (.plain rfl)) (.n (fun _ => op_move (.plain rfl)) (.n (fun _ => op_move (.plain rfl)) (.n (fun _ => op_move (.plain rfl)) (.n (fun _ => op_call4 Try.call29 (.plain rfl) (.plain rfl) (.plain rfl) (.plain rfl) (has_fc _ _ _ _ ?_ ?_ ?_)) (.n (fun _ => op_assign (.plain rfl)) (.nil _))))))) ?_
    · assumption
    · assumption
    · omega
    refine awp_seq ?_
    refine awp_region rfl (.n (fun _ => op_move (.plain rfl)) (.n (fun _ => op_gtr (.plain rfl) (.plain rfl)) (.nil _))) ?_
    refine awp_cond rfl (fun h => ?_) (fun h => ?_)
    · try simp only [decide_eq_true_eq, decide_eq_false_iff_not, Bool.and_eq_true, Bool.or_eq_true, Bool.and_eq_false_iff, Bool.or_eq_false_iff, Bool.not_eq_true', Bool.not_eq_false', Bool.not_eq_true, Bool.not_eq_false, Bool.true_eq_false, Bool.false_eq_true] at h
      refine awp_seq ?_
      refine awp_region rfl (.n (fun _ => op_fieldAddrR Try.underlying46 rfl rfl Try.sizeOf3 (.plain rfl)) (.r (op_loadR Try.isAgg3 (.plain rfl) rfl rfl) (.n (fun _ => op_add (.plain rfl) (.plain rfl) ?_) (.n (fun _ => op_fieldAddrR Try.underlying46 rfl rfl Try.sizeOf3 (.plain rfl)) (.e (op_storeR Try.sizeOf3 (.plain rfl) (.plain rfl) rfl (by first | decide | exact Nat.le_of_ble_eq_true rfl) rfl (by simp) (by simp)) rfl (.nil _)))))) ?_
      · unfold InR; omega
      refine awp_region rfl (.n (fun _ => op_fieldAddrR Try.underlying46 rfl rfl Try.sizeOf3 (.plain rfl)) (.r (op_loadR Try.isAgg3 (.plain rfl) rfl rfl) (.n (fun _ => op_move (.plain rfl)) (.n (fun _ => op_mul (.plain rfl) (.plain rfl) ?_) (.n (fun _ => op_fieldAddrR Try.underlying46 rfl rfl Try.sizeOf3 (.plain rfl)) (.e (op_storeR Try.sizeOf3 (.plain rfl) (.plain rfl) rfl (by first | decide | exact Nat.le_of_ble_eq_true rfl) rfl (by simp) (by simp)) rfl (.nil _))))))) ?_
      · exact lvMul_bd hV hg (by omega)
      refine awp_region rfl (.n (fun _ => op_add (.plain rfl) (.plain rfl) ?_) (.n (fun _ => op_move (.plain rfl)) (.nil _))) ?_
      · unfold InR; omega
      exact ⟨i + 1, by omega, by dsimp only; omega, (Ent.kept ⟨rfl, rfl, rfl, rfl, rfl, rfl, trivial⟩ ⟨rfl, (by first | exact lv_box (lv_in h) | exact lv_box ⟨congrArg Prod.fst (lv_out h), congrArg Prod.snd (lv_out h)⟩), trivial⟩)⟩
    · try simp only [decide_eq_true_eq, decide_eq_false_iff_not, Bool.and_eq_true, Bool.or_eq_true, Bool.and_eq_false_iff, Bool.or_eq_false_iff, Bool.not_eq_true', Bool.not_eq_false', Bool.not_eq_true, Bool.not_eq_false, Bool.true_eq_false, Bool.false_eq_true] at h
      refine awp_skip ?_
      refine awp_region rfl (.n (fun _ => op_add (.plain rfl) (.plain rfl) ?_) (.n (fun _ => op_move (.plain rfl)) (.nil _))) ?_
      · unfold InR; omega
      exact ⟨i + 1, by omega, by dsimp only; omega, (Ent.kept ⟨rfl, rfl, rfl, rfl, rfl, rfl, trivial⟩ ⟨rfl, (by first | exact lv_box (lv_in h) | exact lv_box ⟨congrArg Prod.fst (lv_out h), congrArg Prod.snd (lv_out h)⟩), trivial⟩)⟩
  · try simp only [decide_eq_true_eq, decide_eq_false_iff_not, Bool.and_eq_true, Bool.or_eq_true, Bool.and_eq_false_iff, Bool.or_eq_false_iff, Bool.not_eq_true', Bool.not_eq_false', Bool.not_eq_true, Bool.not_eq_false, Bool.true_eq_false, Bool.false_eq_true] at h
    refine awp_exit ?_
    refine awp_seq ?_
    refine awp_region rfl (.r (op_loadRA Try.isAgg46 Try.sizeOf46 (.plain rfl) rfl (by simp) rfl) (.e (op_storeRA Try.sizeOf46 (.plain rfl) (.plain rfl) rfl rfl (Nat.le_of_ble_eq_true rfl) rfl) rfl (.nil _))) ?_
    refine awp_ret ?_
    refine retQ.ret ?_
    refine retC rfl rfl Try.isAgg46 Try.sizeOf46 ?_
    obtain rfl : i = v.length := by omega
    rfl

theorem below_fc (a b c d : Int) : FC Try.prog 32 [.agg [.i a, .i b], .agg [.i c, .i d]] (.bool (below (a, b) (c, d))) := by
  refine FC.intro Try.func32 rfl (Nat.le_of_ble_eq_true rfl) fun hfit => ?_
  have fit0 := hfit _ (.head _)
  have fit1 := hfit _ (.tail _ (.head _))
  refine awp_seq ?_
  refine awp_region rfl (.n (fun _ => op_box (.plain rfl) (by simp)) (.n (fun _ => op_box (.plain rfl) (by simp)) (.n (fun _ => op_assign (.plain rfl)) (.nil _)))) ?_
  refine awp_seq ?_
  refine awp_region rfl (.n (fun _ => op_fieldAddr Try.underlying46 rfl rfl Try.sizeOf3 (.plain rfl)) (.n (fun _ => op_load Try.isAgg3 (.plain rfl)) (.n (fun _ => op_fieldAddr Try.underlying46 rfl rfl Try.sizeOf3 (.plain rfl)) (.n (fun _ => op_load Try.isAgg3 (.plain rfl)) (.n (fun _ => op_lss (.plain rfl) (.plain rfl)) (.n (fun _ => op_move (.plain rfl)) (.gn rfl rfl (fun hg _ => op_fieldAddr Try.underlying46 rfl rfl Try.sizeOf3 (.plain rfl)) (.gn rfl rfl (fun hg _ => op_load Try.isAgg3 (.opt rfl fun h => h)) (.gn rfl rfl (fun hg _ => op_fieldAddr Try.underlying46 rfl rfl Try.sizeOf3 (.plain rfl)) (.gn rfl rfl (fun hg _ => op_load Try.isAgg3 (.opt rfl fun h => h)) (.gn rfl rfl (fun hg _ => op_eql (.opt rfl fun h => h) (.opt rfl fun h => h)) (.gn rfl rfl (fun hg _ => op_move (.opt rfl fun h => h)) (.ggn rfl rfl (fun hg _ => op_fieldAddr Try.underlying46 rfl rfl Try.sizeOf3 (.plain rfl)) (.ggn rfl rfl (fun hg _ => op_load Try.isAgg3 (.opt rfl fun h => h)) (.ggn rfl rfl (fun hg _ => op_fieldAddr Try.underlying46 rfl rfl Try.sizeOf3 (.plain rfl)) (.ggn rfl rfl (fun hg _ => op_load Try.isAgg3 (.opt rfl fun h => h)) (.ggn rfl rfl (fun hg _ => op_lss (.opt rfl fun h => h) (.opt rfl fun h => h)) (.gn rfl rfl (fun hg _ => op_and (.opt rfl fun h => h) (.plain rfl) (.plain rfl) (fun h => andI hg (eqT h))) (.n (fun _ => op_or (.plain rfl) (.plain rfl) (.plain rfl) (fun h => eqF h)) (.n (fun _ => op_assign (.plain rfl)) (.nil _))))))))))))))))))))) ?_
  refine awp_ret ?_
  refine retQ.ret ?_
  refine ret1 rfl rfl rfl ?_
  rfl

theorem ways_fc (g m : Int) : FC Try.prog 30 [.i g, .i m] (.clo 39 [.rd [.i m], .rd [.i g]]) := by
  refine FC.intro Try.func30 rfl (Nat.le_of_ble_eq_true rfl) fun hfit => ?_
  have fit0 : -9223372036854775808 ≤ (g : Int) ∧ (g : Int) ≤ 9223372036854775807 := (hfit _ (.head _)).int64
  have fit1 : -9223372036854775808 ≤ (m : Int) ∧ (m : Int) ≤ 9223372036854775807 := (hfit _ (.tail _ (.head _))).int64
  refine awp_seq ?_
  refine awp_region rfl (.n (fun _ => op_box (.plain rfl) (by simp)) (.n (fun _ => op_box (.plain rfl) (by simp)) (.n (fun _ => op_assign (.plain rfl)) (.nil _)))) ?_
  refine awp_seq ?_
  refine awp_region rfl (.n (fun _ => op_makeFunc2 (.plain rfl) (.plain rfl)) (.n (fun _ => op_assign (.plain rfl)) (.nil _))) ?_
  refine awp_ret ?_
  refine retQ.ret ?_
  refine ret1 rfl rfl rfl ?_
  rfl

theorem ways1_fch (v : List (List Int)) (hV : Val v) (ps : Array Tmp) (asg bd : Code) (A : Nat → PV) (B C : Nat → Int) (hy : ∀ k, k < v.length ^ mL v → YH Try.prog 900 (.yld ps asg bd [.pv .any, .pv (.rd [.rows v]), .pv .any, .pv .any, .pv .any, .ref 5 0, .ref 6 0, .pv .any, .pv .any, .pv .any, .pv .any, .pv .any, .pv .any, .pv .any, .pv .any, .pv .any, .pv .any, .pv .any, .pv .any, .pv .any, .pv .any, .clo (.func 39) [.pv (.rd [.i (mL v : Nat)]), .pv (.rd [.i (v.length : Nat)])], .pv .any, .pv .any, .pv .any, .pv .any, .pv .any, .pv .any, .pv .any, .pv .any, .pv .any, .pv .any, .pv .any, .pv .any, .pv .any, .pv .any, .pv .any]) [.own 901] [(901, .arr 3 1 Int 0 (fun n => [.int .i64 n]) (wayN v.length (mL v) k)), (5, .box [.pv (A (k))]), (6, .box [.int (B (k)), .int (C (k))])] [(901, .arr 3 1 Int 0 (fun n => [.int .i64 n]) (wayN v.length (mL v) k)), (5, .box [.pv (A (k + 1))]), (6, .box [.int (B (k + 1)), .int (C (k + 1))])]) : FCH Try.prog 39 [.own 900, .pv (.rd [.i (mL v : Nat)]), .pv (.rd [.i (v.length : Nat)])] [(900, .yld ps asg bd [.pv .any, .pv (.rd [.rows v]), .pv .any, .pv .any, .pv .any, .ref 5 0, .ref 6 0, .pv .any, .pv .any, .pv .any, .pv .any, .pv .any, .pv .any, .pv .any, .pv .any, .pv .any, .pv .any, .pv .any, .pv .any, .pv .any, .pv .any, .clo (.func 39) [.pv (.rd [.i (mL v : Nat)]), .pv (.rd [.i (v.length : Nat)])], .pv .any, .pv .any, .pv .any, .pv .any, .pv .any, .pv .any, .pv .any, .pv .any, .pv .any, .pv .any, .pv .any, .pv .any, .pv .any, .pv .any, .pv .any]), (5, .box [.pv (A (0))]), (6, .box [.int (B (0)), .int (C (0))])] [(900, .yld ps asg bd [.pv .any, .pv (.rd [.rows v]), .pv .any, .pv .any, .pv .any, .ref 5 0, .ref 6 0, .pv .any, .pv .any, .pv .any, .pv .any, .pv .any, .pv .any, .pv .any, .pv .any, .pv .any, .pv .any, .pv .any, .pv .any, .pv .any, .pv .any, .clo (.func 39) [.pv (.rd [.i (mL v : Nat)]), .pv (.rd [.i (v.length : Nat)])], .pv .any, .pv .any, .pv .any, .pv .any, .pv .any, .pv .any, .pv .any, .pv .any, .pv .any, .pv .any, .pv .any, .pv .any, .pv .any, .pv .any, .pv .any]), (5, .box [.pv (A (v.length ^ mL v))]), (6, .box [.int (B (v.length ^ mL v)), .int (C (v.length ^ mL v))])] (.pv (.tup [])) none := by
  refine FCH.intro Try.func39 rfl (Nat.le_of_ble_eq_true rfl) (Nat.le_of_ble_eq_true rfl) fun hfit ι0 => ?_
  change awp _ _ _ _ ⟨[(0, .own 900), (1, .pv (.rd [.i (mL v : Nat)])), (2, .pv (.rd [.i (v.length : Nat)])), (1000900, .pin 900 (ι0 900)), (1000005, .pin 5 (ι0 5)), (1000006, .pin 6 (ι0 6))], [(900, .yld ps asg bd [.pv .any, .pv (.rd [.rows v]), .pv .any, .pv .any, .pv .any, .ref 5 0, .ref 6 0, .pv .any, .pv .any, .pv .any, .pv .any, .pv .any, .pv .any, .pv .any, .pv .any, .pv .any, .pv .any, .pv .any, .pv .any, .pv .any, .pv .any, .clo (.func 39) [.pv (.rd [.i (mL v : Nat)]), .pv (.rd [.i (v.length : Nat)])], .pv .any, .pv .any, .pv .any, .pv .any, .pv .any, .pv .any, .pv .any, .pv .any, .pv .any, .pv .any, .pv .any, .pv .any, .pv .any, .pv .any, .pv .any]), (5, .box [.pv (A (0))]), (6, .box [.int (B (0)), .int (C (0))])]⟩
  have fit1 := hfit _ (.tail _ (.head _))
  have fit2 := hfit _ (.tail _ (.tail _ (.head _)))
  have hn1 := hV.n1
  have hn4 := hV.n4
  have hm8 := hV.m8
  refine awp_seq ?_
  refine awp_region rfl (.n (fun _ => op_load Try.isAgg3 (.plain rfl)) (.e (op_make (α := Int) (d := 0) (f := (fun n => [.int .i64 n])) 7 0 ety24 (.plain rfl) (.plain rfl) (fun _ => rfl) rfl rfl ?_) rfl (.n (fun _ => op_assign (.plain rfl)) (.nil _)))) ?_
  · omega
  refine awp_block ?_
  refine awp_loop (σ := Nat) (fun (k : Nat) => k < v.length ^ mL v) (fun (k : Nat) => ⟨[(0, .own 900), (1, .pv (.rd [.i (mL v : Nat)])), (2, .pv (.rd [.i (v.length : Nat)])), (4, .own 7), (1000900, .pin 900 (ι0 900)), (1000005, .pin 5 (ι0 5)), (1000006, .pin 6 (ι0 6))], [(900, .yld ps asg bd [.pv .any, .pv (.rd [.rows v]), .pv .any, .pv .any, .pv .any, .ref 5 0, .ref 6 0, .pv .any, .pv .any, .pv .any, .pv .any, .pv .any, .pv .any, .pv .any, .pv .any, .pv .any, .pv .any, .pv .any, .pv .any, .pv .any, .pv .any, .clo (.func 39) [.pv (.rd [.i (mL v : Nat)]), .pv (.rd [.i (v.length : Nat)])], .pv .any, .pv .any, .pv .any, .pv .any, .pv .any, .pv .any, .pv .any, .pv .any, .pv .any, .pv .any, .pv .any, .pv .any, .pv .any, .pv .any, .pv .any]), (7, .arr 3 1 Int 0 (fun n => [.int .i64 n]) (wayN v.length (mL v) k)), (5, .box [.pv (A (k))]), (6, .box [.int (B (k)), .int (C (k))])]⟩) (fun (k : Nat) => v.length ^ mL v - k) 0 ?_ (Ent.kept ⟨rfl, rfl, rfl, rfl, rfl, rfl, rfl, trivial⟩ ⟨rfl, (congrArg (fun l => some (Blk.arr 3 1 Int 0 (fun n => [.int .i64 n]) l)) (by rw [wayN_zero]; rfl)), rfl, rfl, trivial⟩) ?_
  · exact Nat.pow_pos (by omega)
  rintro k hp
  try dsimp only at hp
  have hk := hp
  refine awp_block ?_
  refine awp_seq ?_
  refine awp_seq ?_
  refine awp_region rfl (.n (fun _ => op_move (.plain rfl)) (.n (fun _ => op_move (.plain rfl)) (.ey (op_yield (y := 900) (ags := [_]) (fun k => if k = 901 then 7 else k) (hy k hk) (.plain rfl) ⟨(.plain rfl), trivial⟩ ⟨rfl, rfl, rfl, rfl, trivial⟩ (by kernel_rfl)) rfl (.n (fun _ => op_not (.plain rfl)) (.nil _))))) ?_
  refine awp_cond rfl (fun h => ?_) (fun h => ?_)
  · first | cases h | exact absurd h (by decide)
  · clear h
    refine awp_skip ?_
    refine awp_seq ?_
    refine awp_region rfl (.n (fun _ => op_load Try.isAgg3 (.plain rfl)) (.n (fun _ => op_sub (.plain rfl) (.plain rfl) ?_) (.n (fun _ => op_assign (.plain rfl)) (.nil _)))) ?_
    · unfold InR; omega
    refine awp_seq ?_
    refine awp_block ?_
    refine awp_loop (σ := Nat) (fun (s : Nat) => s ≤ mL v ∧ ∀ j, mL v - s ≤ j → j < mL v → (wayN v.length (mL v) k).getD j 0 = (v.length : Int) - 1) (fun (s : Nat) => ⟨[(0, .own 900), (1, .pv (.rd [.i (mL v : Nat)])), (2, .pv (.rd [.i (v.length : Nat)])), (4, .own 7), (5, .int ((mL v : Nat) - 1 - (s : Nat))), (1000900, .pin 900 (ι0 900)), (1000005, .pin 5 (ι0 5)), (1000006, .pin 6 (ι0 6))], [(900, .yld ps asg bd [.pv .any, .pv (.rd [.rows v]), .pv .any, .pv .any, .pv .any, .ref 5 0, .ref 6 0, .pv .any, .pv .any, .pv .any, .pv .any, .pv .any, .pv .any, .pv .any, .pv .any, .pv .any, .pv .any, .pv .any, .pv .any, .pv .any, .pv .any, .clo (.func 39) [.pv (.rd [.i (mL v : Nat)]), .pv (.rd [.i (v.length : Nat)])], .pv .any, .pv .any, .pv .any, .pv .any, .pv .any, .pv .any, .pv .any, .pv .any, .pv .any, .pv .any, .pv .any, .pv .any, .pv .any, .pv .any, .pv .any]), (7, .arr 3 1 Int 0 (fun n => [.int .i64 n]) (wS v.length (mL v) k s)), (5, .box [.pv (A (k + 1))]), (6, .box [.int (B (k + 1)), .int (C (k + 1))])]⟩) (fun (s : Nat) => mL v - s) 0 ?_ (Ent.kept ⟨rfl, rfl, rfl, rfl, (congrArg (fun n => some (SV.int n)) (by omega)), rfl, rfl, rfl, trivial⟩ ⟨rfl, (congrArg (fun l => some (Blk.arr 3 1 Int 0 (fun n => [.int .i64 n]) l)) (wS_zero)), rfl, rfl, trivial⟩) ?_
    · exact ⟨Nat.zero_le _, fun j h1 h2 => by omega⟩
    rintro s hp
    try dsimp only at hp
    obtain ⟨hs, hA⟩ := hp
    refine awp_seq ?_
    refine awp_seq ?_
    refine awp_region_draw mixed rfl (.n (fun _ => op_move (.plain rfl)) (.n (fun _ => op_geq (.plain rfl) (.plain rfl)) (.n (fun _ => op_move (.plain rfl)) (.gn rfl rfl (fun hg _ => op_move (.plain rfl)) (.gn rfl rfl (fun hg _ => op_move (.plain rfl)) (.gr rfl rfl (fun hg => op_indexAddrO Try.underlying24 Try.sizeOf3 (.opt rfl fun h => h) rfl (.opt rfl fun h => h) ?_) (.gr rfl rfl (fun hg => op_loadE Try.isAgg3 (.opt rfl fun h => h) rfl (fun _ => rfl) ?_ rfl) (.gn rfl rfl (fun hg _ => op_load Try.isAgg3 (.plain rfl)) (.gn rfl rfl (fun hg _ => op_sub (.opt rfl fun h => h) (.plain rfl) ?_) (.gn rfl rfl (fun hg _ => op_eql (.opt rfl fun h => h) (.opt rfl fun h => h)) (.n (fun _ => op_and (.plain rfl) (.plain rfl) (.plain rfl) (fun h => eqT h)) (.nil _)))))))))))) ?d1 ?_
    · try simp only [beq_iff_eq, beq_true, beq_false, Bool.and_eq_true, decide_eq_true_eq, decide_eq_false_iff_not, Bool.not_eq_true', Bool.or_eq_true, Bool.or_eq_false_iff] at hg
      have := wS_length (g := v.length) (k := k) hs; omega
    · try simp only [beq_iff_eq, beq_true, beq_false, Bool.and_eq_true, decide_eq_true_eq, decide_eq_false_iff_not, Bool.not_eq_true', Bool.or_eq_true, Bool.or_eq_false_iff] at hg
      have := wS_length (g := v.length) (k := k) hs; omega
    · try simp only [beq_iff_eq, beq_true, beq_false, Bool.and_eq_true, decide_eq_true_eq, decide_eq_false_iff_not, Bool.not_eq_true', Bool.or_eq_true, Bool.or_eq_false_iff] at hg
      unfold InR; omega
    · kernel_rfl
    refine awp_cond rfl (fun h => ?_) (fun h => ?_)
    · try simp only [decide_eq_true_eq, decide_eq_false_iff_not, Bool.and_eq_true, Bool.or_eq_true, Bool.and_eq_false_iff, Bool.or_eq_false_iff, Bool.not_eq_true', Bool.not_eq_false', Bool.not_eq_true, Bool.not_eq_false, Bool.true_eq_false, Bool.false_eq_true] at h
      refine awp_skip ?_
      refine awp_seq ?_
      refine awp_block ?_
      refine awp_region rfl (.n (fun _ => op_move (.plain rfl)) (.n (fun _ => op_move (.plain rfl)) (.r (op_indexAddrO Try.underlying24 Try.sizeOf3 (.plain rfl) rfl (.plain rfl) ?_) (.e (op_storeE _ Try.sizeOf3 (.plain rfl) (.plain rfl) rfl (fun _ => rfl) ?_ (by decide) rfl rfl) rfl (.nil _))))) ?_
      · have := wS_length (g := v.length) (k := k) hs; omega
      · have := wS_length (g := v.length) (k := k) hs; omega
      refine awp_region rfl (.n (fun _ => op_move (.plain rfl)) (.n (fun _ => op_sub (.plain rfl) (.plain rfl) ?_) (.n (fun _ => op_assign (.plain rfl)) (.nil _)))) ?_
      · unfold InR; omega
      exact ⟨s + 1, ⟨by omega, wS_all (by omega) hA h.2⟩, by dsimp only; omega, (Ent.kept ⟨rfl, rfl, rfl, rfl, (congrArg (fun n => some (SV.int n)) (by omega)), rfl, rfl, rfl, trivial⟩ ⟨rfl, (congrArg (fun l => some (Blk.arr 3 1 Int 0 (fun n => [.int .i64 n]) l)) (wS_set (by omega))), rfl, rfl, trivial⟩)⟩
    · try simp only [decide_eq_true_eq, decide_eq_false_iff_not, Bool.and_eq_true, Bool.or_eq_true, Bool.and_eq_false_iff, Bool.or_eq_false_iff, Bool.not_eq_true', Bool.not_eq_false', Bool.not_eq_true, Bool.not_eq_false, Bool.true_eq_false, Bool.false_eq_true] at h
      have h3 := h
      refine awp_exit ?_
      refine awp_seq ?_
      refine awp_seq ?_
      refine awp_region rfl (.n (fun _ => op_move (.plain rfl)) (.n (fun _ => op_lss (.plain rfl) (.plain rfl)) (.nil _))) ?_
      refine awp_cond rfl (fun h => ?_) (fun h => ?_)
      · try simp only [decide_eq_true_eq, decide_eq_false_iff_not, Bool.and_eq_true, Bool.or_eq_true, Bool.and_eq_false_iff, Bool.or_eq_false_iff, Bool.not_eq_true', Bool.not_eq_false', Bool.not_eq_true, Bool.not_eq_false, Bool.true_eq_false, Bool.false_eq_true] at h
        have hl := wS_last hk (by omega) hA
        refine awp_ret ?_
        refine retH.ret ?_
        refine retH0 rfl ⟨rfl, (congrArg (fun q => some (Blk.box [SV.pv (A q)])) hl), (congrArg (fun q => some (Blk.box [SV.int (B q), SV.int (C q)])) hl), trivial⟩ ⟨.inr rfl, .inr rfl, .inr rfl, trivial⟩ ?_
        rfl
      · try simp only [decide_eq_true_eq, decide_eq_false_iff_not, Bool.and_eq_true, Bool.or_eq_true, Bool.and_eq_false_iff, Bool.or_eq_false_iff, Bool.not_eq_true', Bool.not_eq_false', Bool.not_eq_true, Bool.not_eq_false, Bool.true_eq_false, Bool.false_eq_true] at h
        have hx := wS_next hk (show s < mL v by omega) hA (by rcases h3 with h3 | h3 <;> first | exact fun _ => h3 (by omega) | exact h3)
        refine awp_skip ?_
        refine awp_region rfl (.n (fun _ => op_move (.plain rfl)) (.n (fun _ => op_move (.plain rfl)) (.r (op_indexAddrO Try.underlying24 Try.sizeOf3 (.plain rfl) rfl (.plain rfl) ?_) (.r (op_loadE Try.isAgg3 (.plain rfl) rfl (fun _ => rfl) ?_ rfl) (.n (fun _ => op_add (.plain rfl) (.plain rfl) ?_) (.r (op_indexAddrO Try.underlying24 Try.sizeOf3 (.plain rfl) rfl (.plain rfl) ?_) (.e (op_storeE _ Try.sizeOf3 (.plain rfl) (.plain rfl) rfl (fun _ => rfl) ?_ (by decide) rfl rfl) rfl (.nil _)))))))) ?_
        · have := wS_length (g := v.length) (k := k) hs; omega
        · have := wS_length (g := v.length) (k := k) hs; omega
        · have := wS_in (k := k) hk (show s < mL v by omega); unfold InR; omega
        · have := wS_length (g := v.length) (k := k) hs; omega
        · have := wS_length (g := v.length) (k := k) hs; omega
        exact ⟨k + 1, hx.1, by dsimp only; omega, (Ent.kept ⟨rfl, rfl, rfl, rfl, rfl, rfl, rfl, trivial⟩ ⟨rfl, (congrArg (fun l => some (Blk.arr 3 1 Int 0 (fun n => [.int .i64 n]) l)) (hx.2)), rfl, rfl, trivial⟩)⟩

theorem Even_fc (v : List (List Int)) : FC Try.prog 15 [.rows v] (.tup [.ints (evenRes v), .i (mayE v)]) := by
  refine FC.intro Try.func15 rfl (Nat.le_of_ble_eq_true rfl) fun hfit => ?_
  obtain ⟨fitl0, fitr0⟩ := (hfit _ (.head _)).rows
  refine awp_seq ?_
  refine awp_region rfl (.n (fun _ => op_box (.plain rfl) (by simp)) (.n (fun _ => op_assign (.plain rfl)) (.n (fun _ => op_assign (.plain rfl)) (.nil _)))) ?_
  refine awp_seq ?_
  refine awp_seq ?_
  refine awp_region rfl (.n (fun _ => op_load Try.isAgg22 (.plain rfl)) (.n (fun _ => op_call1 Try.call13 (.plain rfl) (May_fc _)) (.n (fun _ => op_assign (.plain rfl)) (.nil _)))) ?_
  refine awp_seq ?_
  refine awp_region rfl (.n (fun _ => op_move (.plain rfl)) (.n (fun _ => op_neq (.plain rfl) (.plain rfl)) (.nil _))) ?_
  refine awp_cond rfl (fun h => ?_) (fun h => ?_)
  · try simp only [decide_eq_true_eq, decide_eq_false_iff_not, Bool.and_eq_true, Bool.or_eq_true, Bool.and_eq_false_iff, Bool.or_eq_false_iff, Bool.not_eq_true', Bool.not_eq_false', Bool.not_eq_true, Bool.not_eq_false, Bool.true_eq_false, Bool.false_eq_true] at h
    refine awp_seq ?_
    refine awp_region rfl (.n (fun _ => op_move (.plain rfl)) (.n (fun _ => op_assign (.plain rfl)) (.n (fun _ => op_assign (.plain rfl)) (.nil _)))) ?_
    refine awp_ent (Ent.nilseq 2 Int 0 (fun n => [.int .i64 n]) rfl) ?_
    refine awp_ret ?_
    refine retQ.ret ?_
    refine ret2 rfl rfl rfl rfl rfl ?_
    exact even_err h
  · try simp only [decide_eq_true_eq, decide_eq_false_iff_not, Bool.and_eq_true, Bool.or_eq_true, Bool.and_eq_false_iff, Bool.or_eq_false_iff, Bool.not_eq_true', Bool.not_eq_false', Bool.not_eq_true, Bool.not_eq_false, Bool.true_eq_false, Bool.false_eq_true] at h
    have hM := h
    have hV := val_of hM
    have hn1 := hV.n1
    have hn4 := hV.n4
    have hm8 := hV.m8
    refine awp_skip ?_
    refine awp_seq ?_
    refine awp_region rfl (.e (op_alloc 5 Try.zeroValue24 rfl rfl rfl) rfl (.nil _)) ?_
    refine awp_seq ?_
    refine awp_region rfl (.n (fun _ => op_build (pp := []) (places := #[(0, 1), (1, 1)]) Try.underlying46 Try.zeroValue46 rfl (by intro w; kernel_rfl) trivial rfl) (.e (op_alloc 6 Try.zeroValue46 rfl rfl rfl) rfl (.e (op_storeRA Try.sizeOf46 (.plain rfl) (.plain rfl) rfl rfl (Nat.le_of_ble_eq_true rfl) rfl) rfl (.nil _)))) ?_
    refine awp_seq ?_
    refine awp_seq ?_
    refine awp_region_draw mixed rfl (.n (fun _ => op_load Try.isAgg22 (.plain rfl)) (.n (fun _ => op_len (s := 0) Try.underlying22 (.plain rfl)) (.n (fun _ => op_load Try.isAgg22 (.plain rfl)) (.n (fun _ => op_indexAddr Try.underlying22 Try.sizeOf24 (.plain rfl) (.plain rfl) (fun _ => rfl) ?_) (.n (fun _ => op_load Try.isAgg24 (.plain rfl)) (.n (fun _ => op_len (s := 0) Try.underlying24 (.plain rfl)) (.n (fun _ => op_call2 Try.call30 (.plain rfl) (.plain rfl) (ways_fc _ _)) (.nil _)))))))) ?d2 ?_
    · omega
    · kernel_rfl
    refine awp_block ?_
    refine awp_ent (Ent.clo 21 rfl) ?_
    refine awp_ent (show Ent _ ⟨[(1, .pv (.rd [.rows v])), (5, .ref 5 0), (6, .ref 6 0), (21, .clo (.func 39) [.pv (.rd [.i (mL v : Nat)]), .pv (.rd [.i (v.length : Nat)])])], [(5, .box [.pv (bP v (0))]), (6, .box [.int (mP v (0)).1, .int (mP v (0)).2])]⟩ from Ent.kept ⟨rfl, rfl, rfl, rfl, trivial⟩ ⟨rfl, rfl, trivial⟩) ?_
    refine awp_rangeFunc (y := 900) (cs := [.pv .any, .pv (.rd [.rows v]), .pv .any, .pv .any, .pv .any, .ref 5 0, .ref 6 0, .pv .any, .pv .any, .pv .any, .pv .any, .pv .any, .pv .any, .pv .any, .pv .any, .pv .any, .pv .any, .pv .any, .pv .any, .pv .any, .pv .any, .clo (.func 39) [.pv (.rd [.i (mL v : Nat)]), .pv (.rd [.i (v.length : Nat)])], .pv .any, .pv .any, .pv .any, .pv .any, .pv .any, .pv .any, .pv .any, .pv .any, .pv .any, .pv .any, .pv .any, .pv .any, .pv .any, .pv .any, .pv .any]) (H0 := [(5, .box [.pv (bP v (0))]), (6, .box [.int (mP v (0)).1, .int (mP v (0)).2])]) (H0' := [(5, .box [.pv (bP v (v.length ^ mL v))]), (6, .box [.int (mP v (v.length ^ mL v)).1, .int (mP v (v.length ^ mL v)).2])]) (v := .pv (.tup [])) (fun k => k) rfl Try.call39 (ways1_fch v hV _ _ _ (bP v) (fun k => (mP v k).1) (fun k => (mP v k).2) (fun k hk => (YH.intro rfl fun hfit ι0 l => ?_))) rfl rfl rfl rfl rfl ⟨rfl, rfl, rfl, trivial⟩ (by kernel_rfl) ?_
    · skip
      change awp _ _ _ _ ⟨[(22, .own 901), (0, .pv .any), (1, .pv (.rd [.rows v])), (2, .pv .any), (3, .pv .any), (4, .pv .any), (5, .ref 5 0), (6, .ref 6 0), (7, .pv .any), (8, .pv .any), (9, .pv .any), (10, .pv .any), (11, .pv .any), (12, .pv .any), (13, .pv .any), (14, .pv .any), (15, .pv .any), (16, .pv .any), (17, .pv .any), (18, .pv .any), (19, .pv .any), (20, .pv .any), (21, .clo (.func 39) [.pv (.rd [.i (mL v : Nat)]), .pv (.rd [.i (v.length : Nat)])]), (22, .pv .any), (23, .pv .any), (24, .pv .any), (25, .pv .any), (26, .pv .any), (27, .pv .any), (28, .pv .any), (29, .pv .any), (30, .pv .any), (31, .pv .any), (32, .pv .any), (33, .pv .any), (34, .pv .any), (35, .pv .any), (36, .pv .any), (1000900, .pin 900 (ι0 900)), (1000901, .pin 901 (ι0 901)), (1000005, .pin 5 (ι0 5)), (1000006, .pin 6 (ι0 6))], [(901, .arr 3 1 Int 0 (fun n => [.int .i64 n]) (wayN v.length (mL v) k)), (5, .box [.pv (bP v (k))]), (6, .box [.int (mP v (k)).1, .int (mP v (k)).2])]⟩
      refine awp_ent (show Ent _ ⟨[(22, .own 901), (1, .pv (.rd [.rows v])), (5, .ref 5 0), (6, .ref 6 0), (1000900, .pin 900 (ι0 900)), (1000901, .pin 901 (ι0 901)), (1000005, .pin 5 (ι0 5)), (1000006, .pin 6 (ι0 6))], [(901, .arr 3 1 Int 0 (fun n => [.int .i64 n]) (wayN v.length (mL v) k)), (5, .box [.pv (bP v (k))]), (6, .box [.int (mP v (k)).1, .int (mP v (k)).2])]⟩ from Ent.kept ⟨rfl, rfl, rfl, rfl, rfl, rfl, rfl, rfl, trivial⟩ ⟨rfl, rfl, rfl, trivial⟩) ?_
      refine awp_region rfl (.n (fun _ => op_assign (.plain rfl)) (.nil _)) ?_
      refine awp_block ?_
      refine awp_seq ?_
      refine awp_region rfl (.n (fun _ => op_load Try.isAgg22 (.plain rfl)) (.n (fun _ => op_move (.plain rfl)) (.r (op_callL (vals := [_, _]) Try.call31 ⟨⟨_, (.plain rfl), rfl⟩, ⟨_, (.plain rfl), rfl⟩, trivial⟩ (levelOf_fc _ _ ?_ ?_) rfl) (.e (op_alloc 8 Try.zeroValue46 rfl rfl rfl) rfl (.e (op_storeRA Try.sizeOf46 (.plain rfl) (.plain rfl) rfl rfl (Nat.le_of_ble_eq_true rfl) rfl) rfl (.nil _)))))) ?_
      · assumption
      · simp
      refine awp_seq ?_
      refine awp_region rfl (.r (op_loadR Try.isAgg24 (.plain rfl) rfl rfl) (.n (fun _ => op_is_nil (b := decide (k = 0)) Try.underlying24 (.plain rfl) ?_) (.n (fun _ => op_move (.plain rfl)) (.gr rfl rfl (fun hg => op_loadRA Try.isAgg46 Try.sizeOf46 (.plain rfl) rfl (by simp) rfl) (.gr rfl rfl (fun hg => op_loadRA Try.isAgg46 Try.sizeOf46 (.plain rfl) rfl (by simp) rfl) (.gn rfl rfl (fun hg _ => op_call2 Try.call32 (.opt rfl fun h => h) (.opt rfl fun h => h) (below_fc _ _ _ _)) (.n (fun _ => op_or (.plain rfl) (.plain rfl) (.plain rfl) (fun h => eqF h)) (.nil _)))))))) ?_
      · exact bP_nil hk
      refine awp_cond rfl (fun h => ?_) (fun h => ?_)
      · try simp only [decide_eq_true_eq, decide_eq_false_iff_not, Bool.and_eq_true, Bool.or_eq_true, Bool.and_eq_false_iff, Bool.or_eq_false_iff, Bool.not_eq_true', Bool.not_eq_false', Bool.not_eq_true, Bool.not_eq_false, Bool.true_eq_false, Bool.false_eq_true] at h
        refine awp_ent (Ent.giveBox 8 rfl rfl rfl) ?_
        refine awp_region_draw mixed rfl (.n (fun _ => op_move (.plain rfl)) (.e (OpT.given (op_callO (vals := [_]) 34 Try.call33 ⟨⟨_, (.plain rfl), rfl⟩, trivial⟩ (clone_fc _ ?_) (by simp [PV.flat]) rfl) rfl) rfl (.n (fun _ => op_load_agg Try.isAgg46 Try.sizeOf46 (.plain rfl) (Nat.le_of_ble_eq_true rfl)) (.e (op_storeR Try.sizeOf24 (.plain rfl) (.plain rfl) rfl (by first | decide | exact Nat.le_of_ble_eq_true rfl) rfl (by simp) (by simp)) rfl (.e (op_storeRA Try.sizeOf46 (.plain rfl) (.plain rfl) rfl rfl (Nat.le_of_ble_eq_true rfl) rfl) rfl (.nil _)))))) ?d3 ?_
        · first | omega | (simp; omega)
        · kernel_rfl
        exact retYe ⟨rfl, (bP_yes (take_yes h)), (mP_yes (take_yes h)), trivial⟩ ⟨.inr rfl, .inr rfl, .inr rfl, .inr rfl, trivial⟩
      · try simp only [decide_eq_true_eq, decide_eq_false_iff_not, Bool.and_eq_true, Bool.or_eq_true, Bool.and_eq_false_iff, Bool.or_eq_false_iff, Bool.not_eq_true', Bool.not_eq_false', Bool.not_eq_true, Bool.not_eq_false, Bool.true_eq_false, Bool.false_eq_true] at h
        refine awp_skip ?_
        exact retYe ⟨rfl, (bP_no (take_no h.1 h.2)), (mP_no (take_no h.1 h.2)), trivial⟩ ⟨.inr rfl, .inr rfl, .inr rfl, .inr rfl, trivial⟩
    refine awp_seq ?_
    refine awp_region rfl (.r (op_loadR Try.isAgg24 (.plain rfl) rfl rfl) (.n (fun _ => op_assign (.plain rfl)) (.n (fun _ => op_assign (.plain rfl)) (.nil _)))) ?_
    refine awp_ret ?_
    refine retQ.ret ?_
    refine ret2 rfl rfl rfl rfl rfl ?_
    exact even_ok hM hn1

end Go.Proofs.Ytfaeiglnhbllnaa

