/- What TopSale says, on plain values. Conditions: each theorem names its own. -/
import Derived.Test.YtdllochcdcgaeaaProg
import Derived.Test.YtdllochcdcgaeaaAbsG
import Derived.Test.YtdllochcdcgaeaaFd
namespace Go.Proofs.Ytdllochcdcgaeaa
open Go.Abs
set_option linter.unusedVariables false
set_option linter.unusedSimpArgs false


theorem firstE_all {f : Nat → Int} : ∀ {n : Nat}, (∀ j, j < n → f j = 0) → firstE f n = 0
  | 0, _ => rfl
  | n + 1, h => firstE_succ (firstE_all fun j hj => h j (by omega)) (h n (by omega))
theorem setsE_zero {m : Nat} {W : List (List Int)} (hok : SetsOk m W) (hmono : ∀ i, i < W.length → ∀ s k, s < 2 ^ m → k < m → s / 2 ^ k % 2 = 1 → wAt W i (s - 2 ^ k) ≤ wAt W i s) : setsE (m : Nat) W = 0 := by
  have h1 := hok.m4
  have h2 := hok.n4
  have e1 : firstE (rowLenE m W) W.length = 0 := firstE_all fun i hi => rowLenE_no (hok.row i hi)
  have e2 : firstE (rowE m W) W.length = 0 := firstE_all fun i hi => by
    refine firstE_all fun s hs => ?_
    rw [hok.row i hi] at hs
    have hv := hok.val i hi s hs
    have hz := hok.zero i hi
    unfold wAt at hv hz
    unfold cellE
    rw [if_neg (by rintro (c | ⟨c1, c2⟩); omega; subst c1; exact c2 hz)]
    refine firstE_all fun k hk => if_neg fun c => ?_
    have := hmono i hi s k hs hk c.1
    unfold wAt at this
    omega
  unfold setsE
  rw [if_neg (by omega), if_neg (by omega), Int.toNat_natCast, e1, if_neg (by omega), e2]

/-! Rows that are made -/
theorem wsK_other {s j : Nat} {w : List Int} (h : j ≠ s) : ∀ k, (wsK s k w).getD j 0 = w.getD j 0
  | 0 => rfl
  | k + 1 => by
    unfold wsK
    split
    · rw [getD_set_if, if_neg (fun c => h c.1.symm), wsK_other h k]
    · exact wsK_other h k
theorem wsK_up {s : Nat} {w : List Int} (hs : s < w.length) : ∀ k j, j < k → s / 2 ^ j % 2 = 1 → w.getD (s - 2 ^ j) 0 ≤ (wsK s k w).getD s 0
  | k + 1, j, hj, hb => by
    have hge : ∀ i, s / 2 ^ i % 2 = 1 → s - 2 ^ i ≠ s := fun i h => by
      have : 0 < 2 ^ i := Nat.two_pow_pos i
      have : 2 ^ i ≤ s := by
        rcases Nat.lt_or_ge s (2 ^ i) with c | c
        · rw [Nat.div_eq_of_lt c] at h; omega
        · exact c
      omega
    by_cases hm : monoE (wsK s k w) s k = 11
    · have hmm := hm
      unfold monoE at hmm
      split at hmm
      · rename_i c
        unfold wsK
        rw [if_pos hm, getD_set_if, if_pos ⟨rfl, by rw [wsK_length]; exact hs⟩, wsK_other (hge k c.1) k]
        have c2 := c.2
        rw [wsK_other (hge k c.1) k] at c2
        by_cases e : j = k
        · subst e; exact Int.le_refl _
        · have := wsK_up hs k j (by omega) hb
          omega
      · omega
    · have e0 : wsK s (k + 1) w = wsK s k w := if_neg hm
      rw [e0]
      by_cases e : j = k
      · subst e
        unfold monoE at hm
        rw [wsK_other (hge j hb) j] at hm
        by_cases c : (wsK s j w).getD s 0 < w.getD (s - 2 ^ j) 0
        · exact absurd (if_pos ⟨hb, c⟩) hm
        · omega
      · exact wsK_up hs k j (by omega) hb
theorem wsTo_later {raw : List Int} {fr m j : Nat} : ∀ d t, j ≤ t → (wsTo raw fr m (t + d)).getD j 0 = (wsTo raw fr m t).getD j 0
  | 0, t, h => rfl
  | d + 1, t, h => by
    rw [← Nat.add_assoc, wsTo, getD_set_if, if_neg (fun c => by omega), wsK_other (by omega), wsTo_later d t h]
theorem worth_low (raw : List Int) (fr m : Nat) {j t : Nat} (h : j ≤ t) (ht : t ≤ 2 ^ m - 1) : (worthF raw fr m).getD j 0 = (wsTo raw fr m t).getD j 0 := by
  unfold worthF
  rw [show 2 ^ m - 1 = t + (2 ^ m - 1 - t) by omega]
  exact wsTo_later _ _ h
theorem worth_zero (raw : List Int) (fr m : Nat) : (worthF raw fr m).getD 0 0 = 0 := by
  rw [worth_low raw fr m (t := 0) (Nat.le_refl _) (by omega)]
  unfold wsTo
  rw [List.getD_eq_getElem?_getD, List.getElem?_replicate]
  split <;> rfl
theorem worth_mono (raw : List Int) (fr : Nat) {m s k : Nat} (hs : s < 2 ^ m) (hk : k < m) (hb : s / 2 ^ k % 2 = 1) : (worthF raw fr m).getD (s - 2 ^ k) 0 ≤ (worthF raw fr m).getD s 0 := by
  have hp : 0 < 2 ^ k := Nat.two_pow_pos k
  cases s with
  | zero => simp at hb
  | succ t =>
    rw [worth_low raw fr m (j := t + 1) (t := t + 1) (Nat.le_refl _) (by omega), worth_low raw fr m (j := t + 1 - 2 ^ k) (t := t) (by omega) (by omega)]
    have hl : t + 1 < (wsTo raw fr m t).length := by rw [wsTo_length]; exact hs
    have h1 := wsK_up hl m k hk hb
    have hq := pickF_range (atF raw (fr + (t + 1))) 9 (by omega)
    rw [wsTo, getD_set_if, if_pos ⟨rfl, by rw [wsK_length]; exact hl⟩]
    omega
theorem worth_length (raw : List Int) (fr m : Nat) : (worthF raw fr m).length = 2 ^ m := wsTo_length _ _ _ _
theorem worth_bd (raw : List Int) (fr : Nat) {m : Nat} (hm : m ≤ 4) (j : Nat) : 0 ≤ (worthF raw fr m).getD j 0 ∧ (worthF raw fr m).getD j 0 ≤ 1000 := by
  have h := wsTo_bd raw fr m (2 ^ m - 1) j
  have : 2 ^ m ≤ 2 ^ 4 := Nat.pow_le_pow_right (by omega) hm
  unfold worthF
  omega
def Made (m : Nat) (row : List Int) : Prop := ∃ raw fr, row = worthF raw fr m
theorem made_ok {m : Nat} {W : List (List Int)} (hm : m ≤ 4) (hn : 1 ≤ W.length ∧ W.length ≤ 4) (h : ∀ i, i < W.length → Made m (W.getD i [])) : SetsOk m W ∧ setsE (m : Nat) W = 0 := by
  have hok : SetsOk m W := by
    refine ⟨hm, hn, fun i hi => ?_, fun i hi s hs => ?_, fun i hi => ?_⟩
    · obtain ⟨raw, fr, e⟩ := h i hi
      rw [e]; exact worth_length _ _ _
    · obtain ⟨raw, fr, e⟩ := h i hi
      unfold wAt
      rw [e]; exact worth_bd _ _ hm _
    · obtain ⟨raw, fr, e⟩ := h i hi
      unfold wAt
      rw [e]; exact worth_zero _ _ _
  refine ⟨hok, setsE_zero hok fun i hi s k hs hk hb => ?_⟩
  obtain ⟨raw, fr, e⟩ := h i hi
  unfold wAt
  rw [e]; exact worth_mono _ _ hs hk hb

/-! What comes of a sale -/
theorem IsBest.ge {C : List Nat → Prop} {v : List Nat → Int} {r : Int × List Nat} (h : IsBest C v r) {t : List Nat} (ht : C t) : v t ≤ r.1 := by
  rcases h.best t ht with c | c <;> omega
theorem sumTo_change {f g : Nat → Int} {w : Nat} : ∀ {n : Nat}, w < n → (∀ j, j < n → j ≠ w → g j = f j) → sumTo g n = sumTo f n - f w + g w
  | n + 1, hw, h => by
    simp only [sumTo]
    by_cases e : w = n
    · subst e
      rw [sumTo_same (f := g) (g := f) fun j hj => h j (by omega) (by omega)]
      omega
    · rw [sumTo_change (by omega) fun j hj hne => h j (by omega) hne, h n (by omega) (fun c => e c.symm)]
      omega
theorem val_sum {W : List (List Int)} {S : List Nat} (hl : S.length = W.length) : valF W 0 S = sumTo (fun j => wAt W j (S.getD j 0)) W.length := by
  rw [valF_sum, hl]
  exact sumTo_same fun j _ => by rw [Nat.zero_add]
theorem free_al {n m : Nat} {but : Int} {t : List Nat} (ht : AlP n but 0 (2 ^ m - 1) t) : AlP n (-1) 0 (2 ^ m - 1) t := ⟨ht.len, ht.sub, ht.dis, fun j _ e => by omega⟩
section
variable {m : Nat} {W : List (List Int)} (hok : SetsOk m W)
include hok
theorem best_al (but : Int) : AlP W.length but 0 (2 ^ m - 1) (bestS m W but).2 := Al_iff.1 (bestS_spec hok but).1.mem
theorem best_ge (but : Int) {t : List Nat} (ht : AlP W.length but 0 (2 ^ m - 1) t) : valF W 0 t ≤ (bestS m W but).1 := (bestS_spec hok but).1.ge (Al_iff.2 ht)
theorem pay_bounds {i : Nat} (hi : i < W.length) : 0 ≤ payS m W i ∧ payS m W i ≤ wAt W i ((bestS m W (-1)).2.getD i 0) := by
  have hA := best_al hok (-1)
  have hAl := hA.len
  have hv := (bestS_spec hok (-1)).1.val
  have h2 : (bestS m W (i : Nat)).1 ≤ (bestS m W (-1)).1 := by
    have := best_ge hok (-1) (free_al (best_al hok (i : Nat)))
    rw [(bestS_spec hok (i : Nat)).1.val] at this
    exact this
  have h1 : (bestS m W (-1)).1 - wAt W i ((bestS m W (-1)).2.getD i 0) ≤ (bestS m W (i : Nat)).1 := by
    have hS : AlP W.length (i : Nat) 0 (2 ^ m - 1) ((bestS m W (-1)).2.set i 0) := by
      have hg : ∀ j, ((bestS m W (-1)).2.set i 0).getD j 0 = if i = j then 0 else (bestS m W (-1)).2.getD j 0 := fun j => by
        simp only [List.getD_eq_getElem?_getD, List.getElem?_set]
        by_cases e : i = j
        · subst e; simp; split <;> rfl
        · simp [e]
      refine ⟨by rw [List.length_set]; exact hA.len, fun j hj k hk => ?_, fun j j' hj hj' hne k hk => ?_, fun j hj e => ?_⟩
      · rw [List.length_set] at hj
        rw [hg] at hk
        split at hk
        · simp at hk
        · exact hA.sub j hj k hk
      · rw [List.length_set] at hj hj'
        rw [hg, hg] at hk
        split at hk
        · simp at hk
        · split at hk
          · simp at hk
          · exact hA.dis j j' hj hj' hne k hk
      · rw [hg, if_pos (by omega)]
    have := best_ge hok (i : Nat) hS
    rw [val_sum (by rw [List.length_set]; omega)] at this
    rw [val_sum (by omega)] at hv
    have hc := sumTo_change (f := fun j => wAt W j ((bestS m W (-1)).2.getD j 0)) (g := fun j => wAt W j (((bestS m W (-1)).2.set i 0).getD j 0)) hi fun j hj hne => by
      show wAt W j _ = wAt W j _
      congr 1
      simp [List.getD_eq_getElem?_getD, List.getElem?_set, show ¬ i = j from fun c => hne c.symm]
    have hz : wAt W i (((bestS m W (-1)).2.set i 0).getD i 0) = 0 := by
      have : ((bestS m W (-1)).2.set i 0).getD i 0 = 0 := by simp [List.getD_eq_getElem?_getD, show i < (bestS m W (-1)).2.length by omega]
      rw [this]; exact hok.zero i hi
    omega
  unfold payS
  omega
end
theorem sale_truth {m : Nat} {W C : List (List Int)} (hW : SetsOk m W) (hC : SetsOk m C) (hl : C.length = W.length) {w : Nat} (hw : w < W.length) (hrow : ∀ j, j < W.length → j ≠ w → C.getD j [] = W.getD j []) :
    wAt W w ((bestS m C (-1)).2.getD w 0) - payS m C w ≤ wAt W w ((bestS m W (-1)).2.getD w 0) - payS m W w := by
  have hr : ∀ j, j < W.length → j ≠ w → ∀ s, wAt C j s = wAt W j s := fun j hj hne s => by unfold wAt; rw [hrow j hj hne]
  have hchg : ∀ S : List Nat, S.length = W.length → valF W 0 S = valF C 0 S - wAt C w (S.getD w 0) + wAt W w (S.getD w 0) := fun S hS => by
    rw [val_sum hS, val_sum (by omega), hl]
    exact sumTo_change hw fun j hj hne => (hr j hj hne _).symm
  have hD := best_al hC (-1)
  have hDv := (bestS_spec hC (-1)).1.val
  have h1 := best_ge hW (-1) (by rw [← hl]; exact hD)
  rw [hchg (bestS m C (-1)).2 (by have := hD.len; omega), hDv] at h1
  have hwo : (bestS m C (w : Nat)).1 = (bestS m W (w : Nat)).1 := by
    have a := best_al hC (w : Nat)
    have b := best_al hW (w : Nat)
    have za := a.zero w (by have := a.len; omega) (by simp)
    have zb := b.zero w (by have := b.len; omega) (by simp)
    have ga := best_ge hW (w : Nat) (by rw [← hl]; exact a)
    have gb := best_ge hC (w : Nat) (by rw [hl]; exact b)
    have va := (bestS_spec hC (w : Nat)).1.val
    have vb := (bestS_spec hW (w : Nat)).1.val
    have ca := hchg (bestS m C (w : Nat)).2 (by have := a.len; omega)
    have cb := hchg (bestS m W (w : Nat)).2 (by have := b.len; omega)
    rw [za, hC.zero w (by omega), hW.zero w hw] at ca
    rw [zb, hC.zero w (by omega), hW.zero w hw] at cb
    omega
  unfold payS
  rw [hwo]
  omega

/-! What is given so far -/
theorem add_or : ∀ a, a < 16 → ∀ b, b < 16 → a &&& b = 0 → a + b = a ||| b := by decide
def usedTo (S : List Nat) : Nat → Nat
  | 0 => 0
  | i + 1 => usedTo S i + S.getD i 0
theorem used_spec {n m : Nat} {S : List Nat} (hm : m ≤ 4) (h : AlP n (-1) 0 (2 ^ m - 1) S) : ∀ i, i ≤ S.length → usedTo S i < 16 ∧ ∀ k, (usedTo S i).testBit k = true → ∃ j, j < i ∧ (S.getD j 0).testBit k = true
  | 0, _ => ⟨by simp [usedTo], fun k hk => by simp [usedTo] at hk⟩
  | i + 1, hi => by
    have ih := used_spec hm h i (by omega)
    have h16 : 2 ^ m ≤ 2 ^ 4 := Nat.pow_le_pow_right (by omega) hm
    have hs : S.getD i 0 < 16 := by
      have : S.getD i 0 ≤ 2 ^ m - 1 := Nat.le_of_testBit fun k hk => h.sub i (by omega) k hk
      have : 0 < 2 ^ m := Nat.two_pow_pos m
      omega
    have hand : usedTo S i &&& S.getD i 0 = 0 := by
      refine Nat.eq_of_testBit_eq fun k => ?_
      rw [Nat.testBit_and, Nat.zero_testBit]
      cases e : (usedTo S i).testBit k with
      | false => rfl
      | true =>
        obtain ⟨j, hj, hb⟩ := ih.2 k e
        cases e2 : (S.getD i 0).testBit k with
        | false => rfl
        | true => exact absurd ⟨hb, e2⟩ (h.dis j i (by omega) (by omega) (by omega) k)
    have hor := add_or _ ih.1 _ hs hand
    unfold usedTo
    rw [hor]
    refine ⟨Nat.or_lt_two_pow (n := 4) ih.1 hs, fun k hk => ?_⟩
    rw [Nat.testBit_or] at hk
    cases e : (usedTo S i).testBit k with
    | true => obtain ⟨j, hj, hb⟩ := ih.2 k e; exact ⟨j, by omega, hb⟩
    | false => rw [e] at hk; exact ⟨i, by omega, by simpa using hk⟩
theorem no_overlap {n m : Nat} {S : List Nat} (hm : m ≤ 4) (h : AlP n (-1) 0 (2 ^ m - 1) S) {i : Nat} (hi : i < S.length) (k : Nat) : ¬ (usedTo S i / 2 ^ k % 2 = 1 ∧ S.getD i 0 / 2 ^ k % 2 = 1) := by
  rintro ⟨h1, h2⟩
  have t1 : (usedTo S i).testBit k = true := by rw [Nat.testBit_eq_decide_div_mod_eq]; exact decide_eq_true h1
  have t2 : (S.getD i 0).testBit k = true := by rw [Nat.testBit_eq_decide_div_mod_eq]; exact decide_eq_true h2
  obtain ⟨j, hj, hb⟩ := (used_spec hm h i (by omega)).2 k t1
  exact h.dis j i (by omega) hi (by omega) k ⟨hb, t2⟩

theorem overlap_fc (a b n : Nat) (ha : a < 16) (hb : b < 16) (hn : n ≤ 4) (h : ∀ k, ¬ (a / 2 ^ k % 2 = 1 ∧ b / 2 ^ k % 2 = 1)) : FC Try.prog 28 [.i (a : Nat), .i (b : Nat), .i (n : Nat)] (.bool false) := by
  refine FC.intro Try.func28 rfl (Nat.le_of_ble_eq_true rfl) fun hfit => ?_
  have fit0 : -9223372036854775808 ≤ ((a : Nat) : Int) ∧ ((a : Nat) : Int) ≤ 9223372036854775807 := (hfit _ (.head _)).int64
  have fit1 : -9223372036854775808 ≤ ((b : Nat) : Int) ∧ ((b : Nat) : Int) ≤ 9223372036854775807 := (hfit _ (.tail _ (.head _))).int64
  have fit2 : -9223372036854775808 ≤ ((n : Nat) : Int) ∧ ((n : Nat) : Int) ≤ 9223372036854775807 := (hfit _ (.tail _ (.tail _ (.head _)))).int64
  have hno := h
  refine awp_seq ?_
  refine awp_region rfl (.n (fun _ => op_assign (.plain rfl)) (.nil _)) ?_
  refine awp_seq ?_
  refine awp_seq ?_
  refine awp_region rfl (.n (fun _ => op_assign (.plain rfl)) (.nil _)) ?_
  refine awp_block ?_
  refine awp_loop (σ := Nat) (fun (k : Nat) => k ≤ n) (fun (k : Nat) => ⟨[(0, .int (a : Nat)), (1, .int (b : Nat)), (2, .int (n : Nat)), (7, .int (k : Nat))], []⟩) (fun (k : Nat) => n - k) 0 ?_ (Ent.kept ⟨rfl, rfl, rfl, rfl, trivial⟩ trivial) ?_
  · simp
  rintro k hp
  try dsimp only at hp
  have hpk : (1 : Int) * 2 ^ ((k : Nat) : Int).toNat = 2 ^ k := by rw [Int.one_mul, Int.toNat_natCast]
  have hpn := two_pow_nat k
  have hp5 := pow16 (show k ≤ 4 by omega)
  refine awp_seq ?_
  refine awp_seq ?_
  refine awp_region rfl (.n (fun _ => op_move (.plain rfl)) (.n (fun _ => op_move (.plain rfl)) (.n (fun _ => op_lss (.plain rfl) (.plain rfl)) (.nil _)))) ?_
  refine awp_cond rfl (fun h => ?_) (fun h => ?_)
  · try simp only [decide_eq_true_eq, decide_eq_false_iff_not, Bool.and_eq_true, Bool.or_eq_true, Bool.and_eq_false_iff, Bool.or_eq_false_iff, Bool.not_eq_true', Bool.not_eq_false', Bool.not_eq_true, Bool.not_eq_false, Bool.true_eq_false, Bool.false_eq_true] at h
    refine awp_skip ?_
    refine awp_seq ?_
    refine awp_block ?_
    refine awp_seq ?_
    refine awp_region rfl (.n (fun _ => op_move (.plain rfl)) (.n (fun _ => op_move (.plain rfl)) (.n (fun _ => op_shl (.plain rfl) (.plain rfl) ?_) (.n (fun _ => op_quo (.plain rfl) (.plain rfl) ?_) (.n (fun _ => op_rem (.plain rfl) (.plain rfl) ?_) (.n (fun _ => op_eql (.plain rfl) (.plain rfl)) (.n (fun _ => op_move (.plain rfl)) (.gn rfl rfl (fun hg _ => op_move (.plain rfl)) (.gn rfl rfl (fun hg _ => op_move (.plain rfl)) (.gn rfl rfl (fun hg _ => op_shl (.plain rfl) (.opt rfl fun h => h) ?_) (.gn rfl rfl (fun hg _ => op_quo (.opt rfl fun h => h) (.opt rfl fun h => h) ?_) (.gn rfl rfl (fun hg _ => op_rem (.opt rfl fun h => h) (.plain rfl) ?_) (.gn rfl rfl (fun hg _ => op_eql (.opt rfl fun h => h) (.plain rfl)) (.n (fun _ => op_and (.plain rfl) (.plain rfl) (.plain rfl) (fun h => eqT h)) (.nil _))))))))))))))) ?_
    · unfold InR; rw [hpk]; omega
    · rw [hpk]; omega
    · exact ⟨Int.ediv_nonneg (by omega) (by rw [hpk]; omega), by omega⟩
    · try simp only [beq_iff_eq, beq_true, beq_false, Bool.and_eq_true, decide_eq_true_eq, decide_eq_false_iff_not, Bool.not_eq_true', Bool.or_eq_true, Bool.or_eq_false_iff] at hg
      unfold InR; rw [hpk]; omega
    · try simp only [beq_iff_eq, beq_true, beq_false, Bool.and_eq_true, decide_eq_true_eq, decide_eq_false_iff_not, Bool.not_eq_true', Bool.or_eq_true, Bool.or_eq_false_iff] at hg
      rw [hpk]; omega
    · try simp only [beq_iff_eq, beq_true, beq_false, Bool.and_eq_true, decide_eq_true_eq, decide_eq_false_iff_not, Bool.not_eq_true', Bool.or_eq_true, Bool.or_eq_false_iff] at hg
      exact ⟨Int.ediv_nonneg (by omega) (by rw [hpk]; omega), by omega⟩
    refine awp_cond rfl (fun h => ?_) (fun h => ?_)
    · try simp only [decide_eq_true_eq, decide_eq_false_iff_not, Bool.and_eq_true, Bool.or_eq_true, Bool.and_eq_false_iff, Bool.or_eq_false_iff, Bool.not_eq_true', Bool.not_eq_false', Bool.not_eq_true, Bool.not_eq_false, Bool.true_eq_false, Bool.false_eq_true] at h
      exfalso
      rw [hpk, bit_cast, bit_cast] at h
      exact hno k ⟨by omega, by omega⟩
    · try simp only [decide_eq_true_eq, decide_eq_false_iff_not, Bool.and_eq_true, Bool.or_eq_true, Bool.and_eq_false_iff, Bool.or_eq_false_iff, Bool.not_eq_true', Bool.not_eq_false', Bool.not_eq_true, Bool.not_eq_false, Bool.true_eq_false, Bool.false_eq_true] at h
      refine awp_skip ?_
      refine awp_region rfl (.n (fun _ => op_move (.plain rfl)) (.n (fun _ => op_add (.plain rfl) (.plain rfl) ?_) (.n (fun _ => op_assign (.plain rfl)) (.nil _)))) ?_
      · unfold InR; omega
      exact ⟨k + 1, by omega, by dsimp only; omega, (Ent.kept ⟨rfl, rfl, rfl, rfl, trivial⟩ trivial)⟩
  · try simp only [decide_eq_true_eq, decide_eq_false_iff_not, Bool.and_eq_true, Bool.or_eq_true, Bool.and_eq_false_iff, Bool.or_eq_false_iff, Bool.not_eq_true', Bool.not_eq_false', Bool.not_eq_true, Bool.not_eq_false, Bool.true_eq_false, Bool.false_eq_true] at h
    refine awp_exit ?_
    refine awp_seq ?_
    refine awp_region rfl (.n (fun _ => op_assign (.plain rfl)) (.nil _)) ?_
    refine awp_ret ?_
    refine retQ.ret ?_
    refine ret1 rfl rfl rfl ?_
    rfl


theorem getD_setR (l : List (List Int)) (i j : Nat) (a : List Int) (h : i < l.length) : (l.set i a).getD j [] = if i = j then a else l.getD j [] := by
  simp only [List.getD_eq_getElem?_getD, List.getElem?_set]
  by_cases e : i = j
  · subst e; simp [h]
  · simp [e]

set_option maxRecDepth 1000000 in
set_option maxHeartbeats 2000000 in
theorem TopSale_fc (raw : List Int) (n items who : Int) (lie : List Int) : FC Try.prog 7 [.ints raw, .i n, .i items, .i who, .ints lie] (.bool true) := by
  refine FC.intro Try.func7 rfl (Nat.le_of_ble_eq_true rfl) fun hfit => ?_
  obtain ⟨fitl0, fitr0⟩ := (hfit _ (.head _)).ints
  have fit1 : -9223372036854775808 ≤ (n : Int) ∧ (n : Int) ≤ 9223372036854775807 := (hfit _ (.tail _ (.head _))).int64
  have fit2 : -9223372036854775808 ≤ (items : Int) ∧ (items : Int) ≤ 9223372036854775807 := (hfit _ (.tail _ (.tail _ (.head _)))).int64
  have fit3 : -9223372036854775808 ≤ (who : Int) ∧ (who : Int) ≤ 9223372036854775807 := (hfit _ (.tail _ (.tail _ (.tail _ (.head _))))).int64
  obtain ⟨fitl4, fitr4⟩ := (hfit _ (.tail _ (.tail _ (.tail _ (.tail _ (.head _)))))).ints
  have hq1 := pickF_range n 3 (by omega)
  have hq2 := pickF_range items 4 (by omega)
  refine awp_seq ?_
  refine awp_region rfl (.n (fun _ => op_assign (.plain rfl)) (.nil _)) ?_
  refine awp_seq ?_
  refine awp_seq ?_
  refine awp_region rfl (.n (fun _ => op_move (.plain rfl)) (.n (fun _ => op_len (s := 0) Try.underlying27 (.plain rfl)) (.n (fun _ => op_move (.plain rfl)) (.n (fun _ => op_len (s := 0) Try.underlying27 (.plain rfl)) (.n (fun _ => op_add (.plain rfl) (.plain rfl) ?_) (.n (fun _ => op_gtr (.plain rfl) (.plain rfl)) (.nil _))))))) ?_
  · unfold InR; omega
  refine awp_cond rfl (fun h => ?_) (fun h => ?_)
  · try simp only [decide_eq_true_eq, decide_eq_false_iff_not, Bool.and_eq_true, Bool.or_eq_true, Bool.and_eq_false_iff, Bool.or_eq_false_iff, Bool.not_eq_true', Bool.not_eq_false', Bool.not_eq_true, Bool.not_eq_false, Bool.true_eq_false, Bool.false_eq_true] at h
    refine awp_seq ?_
    refine awp_region rfl (.n (fun _ => op_assign (.plain rfl)) (.nil _)) ?_
    refine awp_ret ?_
    refine retQ.ret ?_
    refine ret1 rfl rfl rfl ?_
    rfl
  · try simp only [decide_eq_true_eq, decide_eq_false_iff_not, Bool.and_eq_true, Bool.or_eq_true, Bool.and_eq_false_iff, Bool.or_eq_false_iff, Bool.not_eq_true', Bool.not_eq_false', Bool.not_eq_true, Bool.not_eq_false, Bool.true_eq_false, Bool.false_eq_true] at h
    refine awp_skip ?_
    refine awp_seq ?_
    refine awp_region rfl (.n (fun _ => op_move (.plain rfl)) (.n (fun _ => op_call2 Try.call16 (.plain rfl) (.plain rfl) (Pick_fc _ _ ?_)) (.n (fun _ => op_add (.plain rfl) (.plain rfl) ?_) (.n (fun _ => op_assign (.plain rfl)) (.nil _))))) ?_
    · omega
    · unfold InR; omega
    refine awp_seq ?_
    obtain ⟨N, hN⟩ : ∃ N : Nat, 1 + pickF n 3 = N := ⟨(1 + pickF n 3).toNat, by omega⟩
    rw [hN]
    have hNb : 1 ≤ N ∧ N ≤ 3 := by omega
    have hq3 := pickF_range who N (by omega)
    refine awp_region rfl (.n (fun _ => op_move (.plain rfl)) (.n (fun _ => op_call2 Try.call16 (.plain rfl) (.plain rfl) (Pick_fc _ _ ?_)) (.n (fun _ => op_assign (.plain rfl)) (.nil _)))) ?_
    · omega
    refine awp_seq ?_
    obtain ⟨m, hm⟩ : ∃ m : Nat, pickF items 4 = m := ⟨(pickF items 4).toNat, by omega⟩
    rw [hm]
    have hmb : m ≤ 4 := by omega
    refine awp_region rfl (.n (fun _ => op_move (.plain rfl)) (.n (fun _ => op_move (.plain rfl)) (.n (fun _ => op_call2 Try.call16 (.plain rfl) (.plain rfl) (Pick_fc _ _ ?_)) (.n (fun _ => op_assign (.plain rfl)) (.nil _))))) ?_
    · omega
    refine awp_seq ?_
    obtain ⟨w, hw⟩ : ∃ w : Nat, pickF who N = w := ⟨(pickF who N).toNat, by omega⟩
    rw [hw]
    have hwN : w < N := by omega
    refine awp_region rfl (.n (fun _ => op_move (.plain rfl)) (.n (fun _ => op_move (.plain rfl)) (.n (fun _ => op_move (.plain rfl)) (.n (fun _ => op_call3 Try.call15 (.plain rfl) (.plain rfl) (.plain rfl) (BidsOf_fc _ _ _ ?_ ?_)) (.e (op_alloc 11 Try.zeroValue25 rfl rfl rfl) rfl (.e (op_storeRA Try.sizeOf25 (.plain rfl) (.plain rfl) rfl rfl (Nat.le_of_ble_eq_true rfl) rfl) rfl (.nil _))))))) ?_
    · omega
    · omega
    refine awp_seq ?_
    have hWl : (mapr N fun i => worthF raw (i * 2 ^ m) m).length = N := mapr_length _ _
    have hWm : ∀ i, i < N → Made m ((mapr N fun i => worthF raw (i * 2 ^ m) m).getD i []) := fun i hi => ⟨raw, i * 2 ^ m, mapr_getD _ hi⟩
    generalize (mapr N fun i => worthF raw (i * 2 ^ m) m) = W at *
    obtain ⟨hW, hzW⟩ := made_ok hmb (by omega) (fun i hi => hWm i (by omega))
    refine awp_region rfl (.r (op_loadRA Try.isAgg25 Try.sizeOf25 (.plain rfl) rfl (by simp) rfl) (.n (fun _ => op_call1 Try.call10 (.plain rfl) (Share_fc _ _)) (.n (fun _ => op_move (.plain rfl)) (.n (fun _ => op_extract (.plain rfl) rfl) (.n (fun _ => op_extract (.plain rfl) rfl) (.e (op_alloc 12 Try.zeroValue29 rfl rfl rfl) rfl (.e (op_storeRA Try.sizeOf29 (.plain rfl) (.plain rfl) rfl rfl (Nat.le_of_ble_eq_true rfl) rfl) rfl (.n (fun _ => op_assign (.plain rfl)) (.nil _))))))))) ?_
    refine awp_seq ?_
    simp only [hzW, ↓reduceIte, Int.toNat_natCast]
    refine awp_region rfl (.n (fun _ => op_move (.plain rfl)) (.e (op_slitO (pp := []) (α := (List Int)) (d := []) (f := (fun r => [.seq Int 0 (fun n => [.int .i64 n]) r])) 48 [] ety23 rfl trivial rfl (by decide) rfl (fun _ => rfl) rfl) rfl (.n (fun _ => op_fieldAddrR Try.underlying25 rfl rfl Try.sizeOf23 (.plain rfl)) (.r (op_loadR Try.isAgg23 (.plain rfl) rfl rfl) (.e (op_append (id' := 51) (α := (List Int)) (d := []) (f := (fun r => [.seq Int 0 (fun n => [.int .i64 n]) r])) ety23 Try.underlying23 (fun _ => rfl) (fun _ => rfl) (.plain rfl) rfl (.plain rfl) rfl ?_) rfl (.r (op_build2 Try.underlying25 Try.zeroValue25 rfl (by intro w; kernel_rfl) (.plain rfl) rfl (.plain rfl) rfl) (.e (op_alloc 14 Try.zeroValue25 rfl rfl rfl) rfl (.e (op_storeSA Try.sizeOf25 (.plain rfl) (.plain rfl) rfl rfl (Nat.le_of_ble_eq_true rfl) (fun k h => by match k, h with | 0, _ => exact ⟨rfl, (fun _ h => by cases h), (fun _ h => by cases h)⟩ | 1, _ => exact ⟨rfl, (fun _ h => by cases h), (fun _ h => by cases h; exact ⟨_, _, _, _, _, _, rfl⟩)⟩)) rfl (.nil _))))))))) ?_
    · first | omega | (simp; omega)
    refine awp_seq ?_
    refine awp_region_draw mixed rfl (.n (fun _ => op_fieldAddrR Try.underlying25 rfl rfl Try.sizeOf23 (.plain rfl)) (.r (op_loadR Try.isAgg23 (.plain rfl) rfl rfl) (.n (fun _ => op_move (.plain rfl)) (.n (fun _ => op_move (.plain rfl)) (.n (fun _ => op_move (.plain rfl)) (.n (fun _ => op_call3 Try.call27 (.plain rfl) (.plain rfl) (.plain rfl) (WorthOf_fc _ _ 0 _ ?_ ?_ ?_)) (.r (op_indexAddrO Try.underlying23 Try.sizeOf27 (.plain rfl) rfl (.plain rfl) ?_) (.e (op_storeE _ Try.sizeOf27 (.plain rfl) (.plain rfl) rfl (fun _ => rfl) ?_ (by decide) rfl rfl) rfl (.nil _))))))))) ?d1 ?_
    · rfl
    · omega
    · omega
    · first | omega | (simp; omega)
    · first | omega | (simp; omega)
    · kernel_rfl
    refine awp_seq ?_
    refine awp_ent (Ent.giveB 14 1 51 rfl rfl rfl) ?_
    simp only [List.nil_append, Int.toNat_natCast]
    have hCl : (W.set w (worthF lie 0 m)).length = N := by rw [List.length_set]; exact hWl
    have hCg : ∀ j, (W.set w (worthF lie 0 m)).getD j [] = if w = j then worthF lie 0 m else W.getD j [] := fun j => getD_setR W w j _ (by omega)
    have hCm : ∀ i, i < N → Made m ((W.set w (worthF lie 0 m)).getD i []) := fun i hi => by
      rw [hCg]
      split
      · exact ⟨lie, 0, rfl⟩
      · exact hWm i hi
    have hrow : ∀ j, j < W.length → j ≠ w → (W.set w (worthF lie 0 m)).getD j [] = W.getD j [] := fun j _ hne => by rw [hCg, if_neg (fun c => hne c.symm)]
    generalize (W.set w (worthF lie 0 m)) = C at *
    obtain ⟨hC, hzC⟩ := made_ok hmb (by omega) (fun i hi => hCm i (by omega))
    refine awp_region rfl (.r (op_loadRA Try.isAgg25 Try.sizeOf25 (.plain rfl) rfl (by simp) rfl) (.n (fun _ => op_call1 Try.call10 (.plain rfl) (Share_fc _ _)) (.n (fun _ => op_move (.plain rfl)) (.n (fun _ => op_extract (.plain rfl) rfl) (.n (fun _ => op_extract (.plain rfl) rfl) (.e (op_alloc 15 Try.zeroValue29 rfl rfl rfl) rfl (.e (op_storeRA Try.sizeOf29 (.plain rfl) (.plain rfl) rfl rfl (Nat.le_of_ble_eq_true rfl) rfl) rfl (.n (fun _ => op_assign (.plain rfl)) (.nil _))))))))) ?_
    refine awp_seq ?_
    refine awp_seq ?_
    simp only [hzC, ↓reduceIte, Int.toNat_natCast]
    have hAl : (toI (bestS m W (-1)).2).length = N := by rw [toI_length, best_len hW]; exact hWl
    have hDl : (toI (bestS m C (-1)).2).length = N := by rw [toI_length, best_len hC]; exact hCl
    have hPl : (mapr W.length (payS m W)).length = N := by rw [mapr_length]; exact hWl
    have hQl : (mapr C.length (payS m C)).length = N := by rw [mapr_length]; exact hCl
    have hp2 : (1 : Int) * 2 ^ ((m : Nat) : Int).toNat = 2 ^ m := by rw [Int.one_mul, Int.toNat_natCast]
    have hp3 := pow16 hmb
    have hp4 := two_pow_nat m
    have hpc : ((2 ^ m : Nat) : Int) = 2 ^ m := by simp
    have hAP := best_al hW (-1)
    have hAPl := hAP.len
    refine awp_region rfl (.n (fun _ => op_move (.plain rfl)) (.n (fun _ => op_neq (.plain rfl) (.plain rfl)) (.n (fun _ => op_move (.plain rfl)) (.gn rfl rfl (fun hg _ => op_move (.plain rfl)) (.gn rfl rfl (fun hg _ => op_neq (.opt rfl fun h => h) (.plain rfl)) (.n (fun _ => op_or (.plain rfl) (.plain rfl) (.plain rfl) (fun h => eqF h)) (.n (fun _ => op_move (.plain rfl)) (.gn rfl rfl (fun hg _ => op_fieldAddrR Try.underlying29 rfl rfl Try.sizeOf27 (.plain rfl)) (.gr rfl rfl (fun hg => op_loadR Try.isAgg27 (.opt rfl fun h => h) rfl rfl) (.gn rfl rfl (fun hg _ => op_len (s := 0) Try.underlying27 (.opt rfl fun h => h)) (.gn rfl rfl (fun hg _ => op_move (.plain rfl)) (.gn rfl rfl (fun hg _ => op_neq (.opt rfl fun h => h) (.opt rfl fun h => h)) (.n (fun _ => op_or (.plain rfl) (.plain rfl) (.plain rfl) (fun h => eqF h)) (.n (fun _ => op_move (.plain rfl)) (.gn rfl rfl (fun hg _ => op_fieldAddrR Try.underlying29 rfl rfl Try.sizeOf27 (.plain rfl)) (.gr rfl rfl (fun hg => op_loadR Try.isAgg27 (.opt rfl fun h => h) rfl rfl) (.gn rfl rfl (fun hg _ => op_len (s := 0) Try.underlying27 (.opt rfl fun h => h)) (.gn rfl rfl (fun hg _ => op_move (.plain rfl)) (.gn rfl rfl (fun hg _ => op_neq (.opt rfl fun h => h) (.opt rfl fun h => h)) (.n (fun _ => op_or (.plain rfl) (.plain rfl) (.plain rfl) (fun h => eqF h)) (.n (fun _ => op_move (.plain rfl)) (.gn rfl rfl (fun hg _ => op_fieldAddrR Try.underlying29 rfl rfl Try.sizeOf27 (.plain rfl)) (.gr rfl rfl (fun hg => op_loadR Try.isAgg27 (.opt rfl fun h => h) rfl rfl) (.gn rfl rfl (fun hg _ => op_len (s := 0) Try.underlying27 (.opt rfl fun h => h)) (.gn rfl rfl (fun hg _ => op_move (.plain rfl)) (.gn rfl rfl (fun hg _ => op_neq (.opt rfl fun h => h) (.opt rfl fun h => h)) (.n (fun _ => op_or (.plain rfl) (.plain rfl) (.plain rfl) (fun h => eqF h)) (.n (fun _ => op_move (.plain rfl)) (.gn rfl rfl (fun hg _ => op_fieldAddrR Try.underlying29 rfl rfl Try.sizeOf27 (.plain rfl)) (.gr rfl rfl (fun hg => op_loadR Try.isAgg27 (.opt rfl fun h => h) rfl rfl) (.gn rfl rfl (fun hg _ => op_len (s := 0) Try.underlying27 (.opt rfl fun h => h)) (.gn rfl rfl (fun hg _ => op_move (.plain rfl)) (.gn rfl rfl (fun hg _ => op_neq (.opt rfl fun h => h) (.opt rfl fun h => h)) (.n (fun _ => op_or (.plain rfl) (.plain rfl) (.plain rfl) (fun h => eqF h)) (.nil _))))))))))))))))))))))))))))))))))) ?_
    refine awp_cond rfl (fun h => ?_) (fun h => ?_)
    · try simp only [decide_eq_true_eq, decide_eq_false_iff_not, Bool.and_eq_true, Bool.or_eq_true, Bool.and_eq_false_iff, Bool.or_eq_false_iff, Bool.not_eq_true', Bool.not_eq_false', Bool.not_eq_true, Bool.not_eq_false, Bool.true_eq_false, Bool.false_eq_true] at h
      exfalso
      simp at h
      omega
    · try simp only [decide_eq_true_eq, decide_eq_false_iff_not, Bool.and_eq_true, Bool.or_eq_true, Bool.and_eq_false_iff, Bool.or_eq_false_iff, Bool.not_eq_true', Bool.not_eq_false', Bool.not_eq_true, Bool.not_eq_false, Bool.true_eq_false, Bool.false_eq_true] at h
      refine awp_skip ?_
      refine awp_seq ?_
      refine awp_region rfl (.n (fun _ => op_assign (.plain rfl)) (.nil _)) ?_
      refine awp_seq ?_
      refine awp_region rfl (.n (fun _ => op_assign (.plain rfl)) (.nil _)) ?_
      refine awp_seq ?_
      refine awp_seq ?_
      refine awp_region rfl (.n (fun _ => op_assign (.plain rfl)) (.nil _)) ?_
      refine awp_block ?_
      refine awp_loop (σ := Nat) (fun (i : Nat) => i ≤ N) (fun (i : Nat) => ⟨[(1, .int (N : Nat)), (2, .int (m : Nat)), (3, .int (w : Nat)), (11, .ref 11 0), (12, .ref 12 0), (15, .ref 15 0), (17, .int (usedTo (bestS m W (-1)).2 i : Nat)), (18, .int (sumTo (fun j => wAt W j ((bestS m W (-1)).2.getD j 0)) i)), (19, .int (i : Nat))], [(11, .box [.pv (.i (m : Nat)), .pv (.rows W)]), (12, .box [.pv (.ints (toI (bestS m W (-1)).2)), .pv (.ints (mapr W.length (payS m W)))]), (15, .box [.pv (.ints (toI (bestS m C (-1)).2)), .pv (.ints (mapr C.length (payS m C)))])]⟩) (fun (i : Nat) => N - i) 0 ?_ (Ent.kept ⟨rfl, rfl, rfl, rfl, rfl, rfl, rfl, rfl, rfl, trivial⟩ ⟨rfl, rfl, rfl, trivial⟩) ?_
      · simp
      rintro i hp
      try dsimp only at hp
      refine awp_seq ?_
      refine awp_seq ?_
      refine awp_region rfl (.n (fun _ => op_move (.plain rfl)) (.n (fun _ => op_move (.plain rfl)) (.n (fun _ => op_lss (.plain rfl) (.plain rfl)) (.nil _)))) ?_
      refine awp_cond rfl (fun h => ?_) (fun h => ?_)
      · try simp only [decide_eq_true_eq, decide_eq_false_iff_not, Bool.and_eq_true, Bool.or_eq_true, Bool.and_eq_false_iff, Bool.or_eq_false_iff, Bool.not_eq_true', Bool.not_eq_false', Bool.not_eq_true, Bool.not_eq_false, Bool.true_eq_false, Bool.false_eq_true] at h
        have hgi := toI_getD (bestS m W (-1)).2 i
        have hlt := best_lt hW (-1) (show i < W.length by omega)
        have hrow2 := hW.row i (by omega)
        have hpy : (mapr W.length (payS m W)).getD i 0 = payS m W i := mapr_getD _ (by omega)
        have hpb := pay_bounds hW (show i < W.length by omega)
        have hvi : 0 ≤ (W.getD i []).getD ((bestS m W (-1)).2.getD i 0) 0 ∧ (W.getD i []).getD ((bestS m W (-1)).2.getD i 0) 0 ≤ 1000 := hW.val i (by omega) _ hlt
        have hub := used_spec hmb hAP i (by omega)
        have hsb := sumTo_bd (n := i) (f := fun j => wAt W j ((bestS m W (-1)).2.getD j 0)) (A := 0) (B := 1000) fun j hj => hW.val j (by omega) _ (best_lt hW (-1) (by omega))
        refine awp_skip ?_
        refine awp_seq ?_
        refine awp_block ?_
        refine awp_seq ?_
        refine awp_region rfl (.n (fun _ => op_fieldAddrR Try.underlying29 rfl rfl Try.sizeOf27 (.plain rfl)) (.r (op_loadR Try.isAgg27 (.plain rfl) rfl rfl) (.n (fun _ => op_move (.plain rfl)) (.n (fun _ => op_indexAddrN Try.underlying27 Try.sizeOf3 (.plain rfl) (.plain rfl) (fun _ => rfl) ?_) (.n (fun _ => op_load Try.isAgg3 (.plain rfl)) (.n (fun _ => op_assign (.plain rfl)) (.nil _))))))) ?_
        · omega
        refine awp_seq ?_
        refine awp_seq ?_
        rw [hgi]
        refine awp_region_draw mixed rfl (.n (fun _ => op_move (.plain rfl)) (.n (fun _ => op_lss (.plain rfl) (.plain rfl)) (.n (fun _ => op_move (.plain rfl)) (.gn rfl rfl (fun hg _ => op_move (.plain rfl)) (.gn rfl rfl (fun hg _ => op_move (.plain rfl)) (.gn rfl rfl (fun hg _ => op_shl (.plain rfl) (.opt rfl fun h => h) ?_) (.gn rfl rfl (fun hg _ => op_geq (.opt rfl fun h => h) (.opt rfl fun h => h)) (.n (fun _ => op_or (.plain rfl) (.plain rfl) (.plain rfl) (fun h => eqF h)) (.n (fun _ => op_move (.plain rfl)) (.gn rfl rfl (fun hg _ => op_move (.plain rfl)) (.gn rfl rfl (fun hg _ => op_move (.plain rfl)) (.gn rfl rfl (fun hg _ => op_move (.plain rfl)) (.gn rfl rfl (fun hg _ => op_call3 Try.call28 (.opt rfl fun h => h) (.opt rfl fun h => h) (.opt rfl fun h => h) (overlap_fc (usedTo (bestS m W (-1)).2 i) ((bestS m W (-1)).2.getD i 0) m ?_ ?_ ?_ ?_)) (.n (fun _ => op_or (.plain rfl) (.plain rfl) (.plain rfl) (fun h => eqF h)) (.n (fun _ => op_move (.plain rfl)) (.gn rfl rfl (fun hg _ => op_fieldAddrR Try.underlying29 rfl rfl Try.sizeOf27 (.plain rfl)) (.gr rfl rfl (fun hg => op_loadR Try.isAgg27 (.opt rfl fun h => h) rfl rfl) (.gn rfl rfl (fun hg _ => op_move (.plain rfl)) (.gn rfl rfl (fun hg _ => op_indexAddrN Try.underlying27 Try.sizeOf3 (.opt rfl fun h => h) (.opt rfl fun h => h) (fun _ => rfl) ?_) (.gn rfl rfl (fun hg _ => op_load Try.isAgg3 (.opt rfl fun h => h)) (.gn rfl rfl (fun hg _ => op_lss (.opt rfl fun h => h) (.plain rfl)) (.n (fun _ => op_or (.plain rfl) (.plain rfl) (.plain rfl) (fun h => eqF h)) (.n (fun _ => op_move (.plain rfl)) (.gn rfl rfl (fun hg _ => op_fieldAddrR Try.underlying29 rfl rfl Try.sizeOf27 (.plain rfl)) (.gr rfl rfl (fun hg => op_loadR Try.isAgg27 (.opt rfl fun h => h) rfl rfl) (.gn rfl rfl (fun hg _ => op_move (.plain rfl)) (.gn rfl rfl (fun hg _ => op_indexAddrN Try.underlying27 Try.sizeOf3 (.opt rfl fun h => h) (.opt rfl fun h => h) (fun _ => rfl) ?_) (.gn rfl rfl (fun hg _ => op_load Try.isAgg3 (.opt rfl fun h => h)) (.gn rfl rfl (fun hg _ => op_fieldAddrR Try.underlying25 rfl rfl Try.sizeOf23 (.plain rfl)) (.gr rfl rfl (fun hg => op_loadR Try.isAgg23 (.opt rfl fun h => h) rfl rfl) (.gn rfl rfl (fun hg _ => op_move (.plain rfl)) (.gn rfl rfl (fun hg _ => op_indexAddrN Try.underlying23 Try.sizeOf27 (.opt rfl fun h => h) (.opt rfl fun h => h) (fun _ => rfl) ?_) (.gn rfl rfl (fun hg _ => op_load Try.isAgg27 (.opt rfl fun h => h)) (.gn rfl rfl (fun hg _ => op_move (.plain rfl)) (.gn rfl rfl (fun hg _ => op_indexAddr Try.underlying27 Try.sizeOf3 (.opt rfl fun h => h) (.opt rfl fun h => h) (fun _ => rfl) ?_) (.gn rfl rfl (fun hg _ => op_load Try.isAgg3 (.opt rfl fun h => h)) (.gn rfl rfl (fun hg _ => op_gtr (.opt rfl fun h => h) (.opt rfl fun h => h)) (.n (fun _ => op_or (.plain rfl) (.plain rfl) (.plain rfl) (fun h => eqF h)) (.nil _))))))))))))))))))))))))))))))))))))))) ?d2 ?_
        · try simp only [beq_iff_eq, beq_true, beq_false, Bool.and_eq_true, decide_eq_true_eq, decide_eq_false_iff_not, Bool.not_eq_true', Bool.or_eq_true, Bool.or_eq_false_iff] at hg
          unfold InR; rw [hp2]; omega
        · try simp only [beq_iff_eq, beq_true, beq_false, Bool.and_eq_true, decide_eq_true_eq, decide_eq_false_iff_not, Bool.not_eq_true', Bool.or_eq_true, Bool.or_eq_false_iff] at hg
          exact hub.1
        · try simp only [beq_iff_eq, beq_true, beq_false, Bool.and_eq_true, decide_eq_true_eq, decide_eq_false_iff_not, Bool.not_eq_true', Bool.or_eq_true, Bool.or_eq_false_iff] at hg
          omega
        · try simp only [beq_iff_eq, beq_true, beq_false, Bool.and_eq_true, decide_eq_true_eq, decide_eq_false_iff_not, Bool.not_eq_true', Bool.or_eq_true, Bool.or_eq_false_iff] at hg
          omega
        · try simp only [beq_iff_eq, beq_true, beq_false, Bool.and_eq_true, decide_eq_true_eq, decide_eq_false_iff_not, Bool.not_eq_true', Bool.or_eq_true, Bool.or_eq_false_iff] at hg
          exact no_overlap hmb hAP (by omega)
        · try simp only [beq_iff_eq, beq_true, beq_false, Bool.and_eq_true, decide_eq_true_eq, decide_eq_false_iff_not, Bool.not_eq_true', Bool.or_eq_true, Bool.or_eq_false_iff] at hg
          omega
        · try simp only [beq_iff_eq, beq_true, beq_false, Bool.and_eq_true, decide_eq_true_eq, decide_eq_false_iff_not, Bool.not_eq_true', Bool.or_eq_true, Bool.or_eq_false_iff] at hg
          omega
        · try simp only [beq_iff_eq, beq_true, beq_false, Bool.and_eq_true, decide_eq_true_eq, decide_eq_false_iff_not, Bool.not_eq_true', Bool.or_eq_true, Bool.or_eq_false_iff] at hg
          omega
        · try simp only [beq_iff_eq, beq_true, beq_false, Bool.and_eq_true, decide_eq_true_eq, decide_eq_false_iff_not, Bool.not_eq_true', Bool.or_eq_true, Bool.or_eq_false_iff] at hg
          omega
        · kernel_rfl
        refine awp_cond rfl (fun h => ?_) (fun h => ?_)
        · try simp only [decide_eq_true_eq, decide_eq_false_iff_not, Bool.and_eq_true, Bool.or_eq_true, Bool.and_eq_false_iff, Bool.or_eq_false_iff, Bool.not_eq_true', Bool.not_eq_false', Bool.not_eq_true, Bool.not_eq_false, Bool.true_eq_false, Bool.false_eq_true] at h
          exfalso
          rw [hp2] at h
          unfold wAt at hpb
          simp only [Int.toNat_natCast] at h
          rcases h with (((h | h) | h) | h) | h
          · omega
          · omega
          · cases h
          · omega
          · omega
        · try simp only [decide_eq_true_eq, decide_eq_false_iff_not, Bool.and_eq_true, Bool.or_eq_true, Bool.and_eq_false_iff, Bool.or_eq_false_iff, Bool.not_eq_true', Bool.not_eq_false', Bool.not_eq_true, Bool.not_eq_false, Bool.true_eq_false, Bool.false_eq_true] at h
          refine awp_skip ?_
          refine awp_seq ?_
          refine awp_region rfl (.n (fun _ => op_move (.plain rfl)) (.n (fun _ => op_move (.plain rfl)) (.n (fun _ => op_add (.plain rfl) (.plain rfl) ?_) (.n (fun _ => op_assign (.plain rfl)) (.nil _))))) ?_
          · unfold InR; omega
          refine awp_region rfl (.n (fun _ => op_move (.plain rfl)) (.n (fun _ => op_fieldAddrR Try.underlying25 rfl rfl Try.sizeOf23 (.plain rfl)) (.r (op_loadR Try.isAgg23 (.plain rfl) rfl rfl) (.n (fun _ => op_move (.plain rfl)) (.n (fun _ => op_indexAddrN Try.underlying23 Try.sizeOf27 (.plain rfl) (.plain rfl) (fun _ => rfl) ?_) (.n (fun _ => op_load Try.isAgg27 (.plain rfl)) (.n (fun _ => op_move (.plain rfl)) (.n (fun _ => op_indexAddr Try.underlying27 Try.sizeOf3 (.plain rfl) (.plain rfl) (fun _ => rfl) ?_) (.n (fun _ => op_load Try.isAgg3 (.plain rfl)) (.n (fun _ => op_add (.plain rfl) (.plain rfl) ?_) (.n (fun _ => op_assign (.plain rfl)) (.nil _)))))))))))) ?_
          · omega
          · omega
          · rw [Int.toNat_natCast]; unfold InR; omega
          refine awp_region rfl (.n (fun _ => op_move (.plain rfl)) (.n (fun _ => op_add (.plain rfl) (.plain rfl) ?_) (.n (fun _ => op_assign (.plain rfl)) (.nil _)))) ?_
          · unfold InR; omega
          exact ⟨i + 1, by omega, by dsimp only; omega, (Ent.kept ⟨rfl, rfl, rfl, rfl, rfl, rfl, rfl, rfl, rfl, trivial⟩ ⟨rfl, rfl, rfl, trivial⟩)⟩
      · try simp only [decide_eq_true_eq, decide_eq_false_iff_not, Bool.and_eq_true, Bool.or_eq_true, Bool.and_eq_false_iff, Bool.or_eq_false_iff, Bool.not_eq_true', Bool.not_eq_false', Bool.not_eq_true, Bool.not_eq_false, Bool.true_eq_false, Bool.false_eq_true] at h
        obtain rfl : N = i := by omega
        refine awp_exit ?_
        refine awp_seq ?_
        refine awp_seq ?_
        have hdg := toI_getD (bestS m C (-1)).2 w
        have hdl := best_lt hC (-1) (show w < C.length by omega)
        refine awp_region_draw mixed rfl (.n (fun _ => op_fieldAddrR Try.underlying29 rfl rfl Try.sizeOf27 (.plain rfl)) (.r (op_loadR Try.isAgg27 (.plain rfl) rfl rfl) (.n (fun _ => op_move (.plain rfl)) (.n (fun _ => op_indexAddrN Try.underlying27 Try.sizeOf3 (.plain rfl) (.plain rfl) (fun _ => rfl) ?_) (.n (fun _ => op_load Try.isAgg3 (.plain rfl)) (.n (fun _ => op_lss (.plain rfl) (.plain rfl)) (.n (fun _ => op_move (.plain rfl)) (.gn rfl rfl (fun hg _ => op_fieldAddrR Try.underlying29 rfl rfl Try.sizeOf27 (.plain rfl)) (.gr rfl rfl (fun hg => op_loadR Try.isAgg27 (.opt rfl fun h => h) rfl rfl) (.gn rfl rfl (fun hg _ => op_move (.plain rfl)) (.gn rfl rfl (fun hg _ => op_indexAddrN Try.underlying27 Try.sizeOf3 (.opt rfl fun h => h) (.opt rfl fun h => h) (fun _ => rfl) ?_) (.gn rfl rfl (fun hg _ => op_load Try.isAgg3 (.opt rfl fun h => h)) (.gn rfl rfl (fun hg _ => op_move (.plain rfl)) (.gn rfl rfl (fun hg _ => op_shl (.plain rfl) (.opt rfl fun h => h) ?_) (.gn rfl rfl (fun hg _ => op_geq (.opt rfl fun h => h) (.opt rfl fun h => h)) (.n (fun _ => op_or (.plain rfl) (.plain rfl) (.plain rfl) (fun h => eqF h)) (.nil _))))))))))))))))) ?d3 ?_
        · omega
        · try simp only [beq_iff_eq, beq_true, beq_false, Bool.and_eq_true, decide_eq_true_eq, decide_eq_false_iff_not, Bool.not_eq_true', Bool.or_eq_true, Bool.or_eq_false_iff] at hg
          omega
        · try simp only [beq_iff_eq, beq_true, beq_false, Bool.and_eq_true, decide_eq_true_eq, decide_eq_false_iff_not, Bool.not_eq_true', Bool.or_eq_true, Bool.or_eq_false_iff] at hg
          unfold InR; rw [hp2]; omega
        · kernel_rfl
        refine awp_cond rfl (fun h => ?_) (fun h => ?_)
        · try simp only [decide_eq_true_eq, decide_eq_false_iff_not, Bool.and_eq_true, Bool.or_eq_true, Bool.and_eq_false_iff, Bool.or_eq_false_iff, Bool.not_eq_true', Bool.not_eq_false', Bool.not_eq_true, Bool.not_eq_false, Bool.true_eq_false, Bool.false_eq_true] at h
          exfalso
          rw [hp2] at h
          omega
        · try simp only [decide_eq_true_eq, decide_eq_false_iff_not, Bool.and_eq_true, Bool.or_eq_true, Bool.and_eq_false_iff, Bool.or_eq_false_iff, Bool.not_eq_true', Bool.not_eq_false', Bool.not_eq_true, Bool.not_eq_false, Bool.true_eq_false, Bool.false_eq_true] at h
          refine awp_skip ?_
          refine awp_seq ?_
          refine awp_region rfl (.r (op_loadRA Try.isAgg25 Try.sizeOf25 (.plain rfl) rfl (by simp) rfl) (.n (fun _ => op_call3 Try.call29 (.plain rfl) (.plain rfl) (.plain rfl) (Given_top hW (-1))) (.n (fun _ => op_move (.plain rfl)) (.n (fun _ => op_extract (.plain rfl) rfl) (.n (fun _ => op_extract (.plain rfl) rfl) (.n (fun _ => op_assign (.plain rfl)) (.n (fun _ => op_assign (.plain rfl)) (.nil _)))))))) ?_
          refine awp_seq ?_
          have hag := toI_getD (bestS m W (-1)).2 w
          have hal := best_lt hW (-1) (show w < W.length by omega)
          have hrw := hW.row w (by omega)
          have hpg : (mapr W.length (payS m W)).getD w 0 = payS m W w := mapr_getD _ (by omega)
          have hqg : (mapr C.length (payS m C)).getD w 0 = payS m C w := mapr_getD _ (by omega)
          have hpb := pay_bounds hW (show w < W.length by omega)
          have hqb := pay_bounds hC (show w < C.length by omega)
          have hv1 := hW.val w (by omega) _ hal
          have hv2 := hW.val w (by omega) _ hdl
          have hv3 := hC.val w (by omega) _ hdl
          have htr := sale_truth hW hC (by omega) (show w < W.length by omega) hrow
          have hva : (W.getD w []).getD ((toI (bestS m W (-1)).2).getD w 0).toNat 0 = wAt W w ((bestS m W (-1)).2.getD w 0) := by rw [hag, Int.toNat_natCast]; rfl
          have hvd : (W.getD w []).getD ((toI (bestS m C (-1)).2).getD w 0).toNat 0 = wAt W w ((bestS m C (-1)).2.getD w 0) := by rw [hdg, Int.toNat_natCast]; rfl
          refine awp_region rfl (.n (fun _ => op_fieldAddrR Try.underlying25 rfl rfl Try.sizeOf23 (.plain rfl)) (.r (op_loadR Try.isAgg23 (.plain rfl) rfl rfl) (.n (fun _ => op_move (.plain rfl)) (.n (fun _ => op_indexAddrN Try.underlying23 Try.sizeOf27 (.plain rfl) (.plain rfl) (fun _ => rfl) ?_) (.n (fun _ => op_load Try.isAgg27 (.plain rfl)) (.n (fun _ => op_assign (.plain rfl)) (.nil _))))))) ?_
          · omega
          refine awp_seq ?_
          refine awp_region_draw mixed rfl (.n (fun _ => op_move (.plain rfl)) (.n (fun _ => op_move (.plain rfl)) (.n (fun _ => op_eql (.plain rfl) (.plain rfl)) (.n (fun _ => op_move (.plain rfl)) (.gn rfl rfl (fun hg _ => op_move (.plain rfl)) (.gn rfl rfl (fun hg _ => op_fieldAddrR Try.underlying29 rfl rfl Try.sizeOf27 (.plain rfl)) (.gr rfl rfl (fun hg => op_loadR Try.isAgg27 (.opt rfl fun h => h) rfl rfl) (.gn rfl rfl (fun hg _ => op_move (.plain rfl)) (.gn rfl rfl (fun hg _ => op_indexAddrN Try.underlying27 Try.sizeOf3 (.opt rfl fun h => h) (.opt rfl fun h => h) (fun _ => rfl) ?_) (.gn rfl rfl (fun hg _ => op_load Try.isAgg3 (.opt rfl fun h => h)) (.gn rfl rfl (fun hg _ => op_indexAddr Try.underlying27 Try.sizeOf3 (.opt rfl fun h => h) (.opt rfl fun h => h) (fun _ => rfl) ?_) (.gn rfl rfl (fun hg _ => op_load Try.isAgg3 (.opt rfl fun h => h)) (.gn rfl rfl (fun hg _ => op_fieldAddrR Try.underlying29 rfl rfl Try.sizeOf27 (.plain rfl)) (.gr rfl rfl (fun hg => op_loadR Try.isAgg27 (.opt rfl fun h => h) rfl rfl) (.gn rfl rfl (fun hg _ => op_move (.plain rfl)) (.gn rfl rfl (fun hg _ => op_indexAddrN Try.underlying27 Try.sizeOf3 (.opt rfl fun h => h) (.opt rfl fun h => h) (fun _ => rfl) ?_) (.gn rfl rfl (fun hg _ => op_load Try.isAgg3 (.opt rfl fun h => h)) (.gn rfl rfl (fun hg _ => op_sub (.opt rfl fun h => h) (.opt rfl fun h => h) ?_) (.gn rfl rfl (fun hg _ => op_move (.plain rfl)) (.gn rfl rfl (fun hg _ => op_fieldAddrR Try.underlying29 rfl rfl Try.sizeOf27 (.plain rfl)) (.gr rfl rfl (fun hg => op_loadR Try.isAgg27 (.opt rfl fun h => h) rfl rfl) (.gn rfl rfl (fun hg _ => op_move (.plain rfl)) (.gn rfl rfl (fun hg _ => op_indexAddrN Try.underlying27 Try.sizeOf3 (.opt rfl fun h => h) (.opt rfl fun h => h) (fun _ => rfl) ?_) (.gn rfl rfl (fun hg _ => op_load Try.isAgg3 (.opt rfl fun h => h)) (.gn rfl rfl (fun hg _ => op_indexAddr Try.underlying27 Try.sizeOf3 (.opt rfl fun h => h) (.opt rfl fun h => h) (fun _ => rfl) ?_) (.gn rfl rfl (fun hg _ => op_load Try.isAgg3 (.opt rfl fun h => h)) (.gn rfl rfl (fun hg _ => op_fieldAddrR Try.underlying29 rfl rfl Try.sizeOf27 (.plain rfl)) (.gr rfl rfl (fun hg => op_loadR Try.isAgg27 (.opt rfl fun h => h) rfl rfl) (.gn rfl rfl (fun hg _ => op_move (.plain rfl)) (.gn rfl rfl (fun hg _ => op_indexAddrN Try.underlying27 Try.sizeOf3 (.opt rfl fun h => h) (.opt rfl fun h => h) (fun _ => rfl) ?_) (.gn rfl rfl (fun hg _ => op_load Try.isAgg3 (.opt rfl fun h => h)) (.gn rfl rfl (fun hg _ => op_sub (.opt rfl fun h => h) (.opt rfl fun h => h) ?_) (.gn rfl rfl (fun hg _ => op_geq (.opt rfl fun h => h) (.opt rfl fun h => h)) (.n (fun _ => op_and (.plain rfl) (.plain rfl) (.plain rfl) (fun h => eqT h)) (.n (fun _ => op_assign (.plain rfl)) (.nil _)))))))))))))))))))))))))))))))))))) ?d4 ?_
          · try simp only [beq_iff_eq, beq_true, beq_false, Bool.and_eq_true, decide_eq_true_eq, decide_eq_false_iff_not, Bool.not_eq_true', Bool.or_eq_true, Bool.or_eq_false_iff] at hg
            omega
          · try simp only [beq_iff_eq, beq_true, beq_false, Bool.and_eq_true, decide_eq_true_eq, decide_eq_false_iff_not, Bool.not_eq_true', Bool.or_eq_true, Bool.or_eq_false_iff] at hg
            omega
          · try simp only [beq_iff_eq, beq_true, beq_false, Bool.and_eq_true, decide_eq_true_eq, decide_eq_false_iff_not, Bool.not_eq_true', Bool.or_eq_true, Bool.or_eq_false_iff] at hg
            omega
          · try simp only [beq_iff_eq, beq_true, beq_false, Bool.and_eq_true, decide_eq_true_eq, decide_eq_false_iff_not, Bool.not_eq_true', Bool.or_eq_true, Bool.or_eq_false_iff] at hg
            unfold InR; omega
          · try simp only [beq_iff_eq, beq_true, beq_false, Bool.and_eq_true, decide_eq_true_eq, decide_eq_false_iff_not, Bool.not_eq_true', Bool.or_eq_true, Bool.or_eq_false_iff] at hg
            omega
          · try simp only [beq_iff_eq, beq_true, beq_false, Bool.and_eq_true, decide_eq_true_eq, decide_eq_false_iff_not, Bool.not_eq_true', Bool.or_eq_true, Bool.or_eq_false_iff] at hg
            omega
          · try simp only [beq_iff_eq, beq_true, beq_false, Bool.and_eq_true, decide_eq_true_eq, decide_eq_false_iff_not, Bool.not_eq_true', Bool.or_eq_true, Bool.or_eq_false_iff] at hg
            omega
          · try simp only [beq_iff_eq, beq_true, beq_false, Bool.and_eq_true, decide_eq_true_eq, decide_eq_false_iff_not, Bool.not_eq_true', Bool.or_eq_true, Bool.or_eq_false_iff] at hg
            unfold InR; omega
          · kernel_rfl
          refine awp_ret ?_
          refine retQ.ret ?_
          refine ret1 rfl rfl rfl ?_
          have hsum := val_sum (W := W) (S := (bestS m W (-1)).2) (by omega)
          rw [(bestS_spec hW (-1)).1.val, hWl] at hsum
          rw [hva, hvd, hpg, hqg, ← hsum]
          simp only [htr, decide_true, Bool.and_self]

end Go.Proofs.Ytdllochcdcgaeaa

