/- What TopBids says, on plain values. Conditions: each theorem names its own. -/
import Derived.Test.YtdllochcdcgaeaaProg
import Derived.Test.YtdllochcdcgaeaaFa
namespace Go.Proofs.Ytdllochcdcgaeaa
open Go.Abs
set_option linter.unusedVariables false
set_option linter.unusedSimpArgs false


def profF (v : Int) (b : Bool) (p : Int) : Int := if b then v - p else 0
theorem secTo_set {l : List Int} {w : Nat} {a : Int} : ∀ k, secTo (l.set w a) w k = secTo l w k
  | 0 => rfl
  | k + 1 => by
    simp only [secTo]
    rw [secTo_set k]
    by_cases c : k = w
    · rw [if_neg (fun h => h.1 c), if_neg (fun h => h.1 c)]
    · have e : (l.set w a).getD k 0 = l.getD k 0 := by simp [List.getD_eq_getElem?_getD, List.getElem?_set, show ¬ w = k from fun h => c h.symm]
      rw [e]
theorem second_truth {l : List Int} {w : Nat} {a : Int} (hok : BidsOk l) (hw : w < l.length) :
    profF (l.getD w 0) (decide (((topF (l.set w a) : Nat) : Int) = w)) (secF (l.set w a)) ≤ profF (l.getD w 0) (decide (((topF l : Nat) : Int) = w)) (secF l) ∧ 0 ≤ profF (l.getD w 0) (decide (((topF l : Nat) : Int) = w)) (secF l) := by
  have ht := topTo_spec (l := l) hok.len.1
  have hs := secTo_spec (l := l) (w := w) (k := l.length)
  have hv := hok.val w hw
  have e1 : ∀ b, topF b = w → secF b = secTo b w b.length := fun b hb => by unfold secF; rw [hb]
  have e2 : secTo (l.set w a) w (l.set w a).length = secTo l w l.length := by rw [secTo_set, List.length_set]
  have hin : topF l = w → 0 ≤ l.getD w 0 - secTo l w l.length := by
    intro h
    rcases hs.2.2 with c | ⟨j, j1, j2, j3⟩
    · omega
    · have := ht.2.1 j j1
      unfold topF at h
      rw [h] at this
      omega
  have hout : topF l ≠ w → l.getD w 0 - secTo l w l.length ≤ 0 := by
    intro h
    have h1 := hs.2.1 (topF l) ht.1 h
    have h2 := ht.2.1 w hw
    unfold topF at h1
    omega
  unfold profF
  by_cases h1 : topF l = w
  · have := hin h1
    have d1 : decide (((topF l : Nat) : Int) = w) = true := decide_eq_true (by omega)
    rw [d1, if_pos rfl, e1 _ h1]
    by_cases h2 : topF (l.set w a) = w
    · have d2 : decide (((topF (l.set w a) : Nat) : Int) = w) = true := decide_eq_true (by omega)
      rw [d2, if_pos rfl, e1 _ h2, e2]; omega
    · have d2 : decide (((topF (l.set w a) : Nat) : Int) = w) = false := decide_eq_false (by omega)
      rw [d2, if_neg Bool.false_ne_true]; omega
  · have d1 : decide (((topF l : Nat) : Int) = w) = false := decide_eq_false (by omega)
    rw [d1, if_neg Bool.false_ne_true]
    by_cases h2 : topF (l.set w a) = w
    · have d2 : decide (((topF (l.set w a) : Nat) : Int) = w) = true := decide_eq_true (by omega)
      rw [d2, if_pos rfl, e1 _ h2, e2]
      have := hout h1
      omega
    · have d2 : decide (((topF (l.set w a) : Nat) : Int) = w) = false := decide_eq_false (by omega)
      rw [d2, if_neg Bool.false_ne_true]; omega
theorem least_spec {p : Nat → Bool} {n : Nat} : leastF p n ≤ n ∧ (∀ j, j < leastF p n → p j = false) ∧ (leastF p n < n → p (leastF p n) = true) := by
  unfold leastF
  cases h : firstI p n with
  | some i => have := firstI_spec h; exact ⟨by show i ≤ n; omega, this.2.2, fun _ => this.2.1⟩
  | none => exact ⟨Nat.le_refl _, firstI_none h, fun c => absurd c (Nat.lt_irrefl _)⟩
theorem has_set (l s : List Int) (w : Nat) (a : Int) : hasF (l.set w a) s w = hasF l s w := by
  funext m
  unfold hasF
  rw [List.set_set]
theorem pay_bd {l s : List Int} {w : Nat} (h : BidsOk l) (hw : w < l.length) : 0 ≤ payF l s w ∧ payF l s w ≤ 1000 := by
  have hv := h.val w hw
  have := (least_spec (p := hasF l s w) (n := (l.getD w 0).toNat)).1
  unfold payF
  split <;> omega
theorem slots_truth {l s : List Int} {w : Nat} {a : Nat} (hok : BidsOk l) (hw : w < l.length) (hs : 1 ≤ s.length) :
    profF (l.getD w 0) (decide (bitF (winF (l.set w (a : Nat)) s) w = 1)) (payF (l.set w (a : Nat)) s w) ≤ profF (l.getD w 0) (decide (bitF (winF l s) w = 1)) (payF l s w) ∧ 0 ≤ profF (l.getD w 0) (decide (bitF (winF l s) w = 1)) (payF l s w) := by
  have hv := hok.val w hw
  obtain ⟨v, hvv⟩ : ∃ v : Nat, l.getD w 0 = v := ⟨(l.getD w 0).toNat, by omega⟩
  have hl : bitF (winF l s) w = 1 ↔ hasF l s w v = true := by
    unfold hasF
    rw [← hvv, set_same l w hw]
    simp
  have hm : bitF (winF (l.set w (a : Nat)) s) w = 1 ↔ hasF l s w a = true := by unfold hasF; simp
  have g : (l.set w ((a : Nat) : Int)).getD w 0 = a := by simp [List.getD_eq_getElem?_getD, hw]
  unfold profF payF
  rw [has_set, g, hvv, Int.toNat_natCast, Int.toNat_natCast]
  have s1 := least_spec (p := hasF l s w) (n := v)
  have s2 := least_spec (p := hasF l s w) (n := a)
  have t2 : hasF l s w a = true → hasF l s w (leastF (hasF l s w) a) = true := fun h => by
    rcases Nat.lt_or_ge (leastF (hasF l s w) a) a with c | c
    · exact s2.2.2 c
    · rw [show leastF (hasF l s w) a = a by omega]; exact h
  by_cases c1 : bitF (winF l s) w = 1 <;> by_cases c2 : bitF (winF (l.set w (a : Nat)) s) w = 1
  · simp only [c1, c2, decide_true, if_true]
    have : ¬ leastF (hasF l s w) a < leastF (hasF l s w) v := fun c => by have := s1.2.1 _ c; rw [t2 (hm.1 c2)] at this; cases this
    omega
  · simp only [c1, c2, decide_true, decide_false, if_true]
    simp
    omega
  · simp only [c1, c2, decide_true, decide_false, if_true]
    simp
    have : ¬ leastF (hasF l s w) a ≤ v := fun c => c1 (hl.2 (has_mono hw hs c (t2 (hm.1 c2))))
    omega
  · simp only [c1, c2, decide_false]
    simp

theorem sec_bd {l : List Int} (h : BidsOk l) : 0 ≤ secF l ∧ secF l ≤ 1000 := by
  have hs := secTo_spec (l := l) (w := topF l) (k := l.length)
  unfold secF
  refine ⟨hs.1, ?_⟩
  rcases hs.2.2 with c | ⟨j, j1, j2, j3⟩
  · omega
  · have := h.val j j1
    omega

theorem profit_fc (v : Int) (b : Bool) (p : Int) (hb : (-1000000 ≤ v ∧ v ≤ 1000000) ∧ -1000000 ≤ p ∧ p ≤ 1000000) : FC Try.prog 31 [.i v, .bool b, .i p] (.i (profF v b p)) := by
  refine FC.intro Try.func31 rfl (Nat.le_of_ble_eq_true rfl) fun hfit => ?_
  have fit0 : -9223372036854775808 ≤ (v : Int) ∧ (v : Int) ≤ 9223372036854775807 := (hfit _ (.head _)).int64
  have fit1 := hfit _ (.tail _ (.head _))
  have fit2 : -9223372036854775808 ≤ (p : Int) ∧ (p : Int) ≤ 9223372036854775807 := (hfit _ (.tail _ (.tail _ (.head _)))).int64
  refine awp_seq ?_
  refine awp_region rfl (.n (fun _ => op_assign (.plain rfl)) (.nil _)) ?_
  refine awp_seq ?_
  refine awp_seq ?_
  refine awp_region rfl (.n (fun _ => op_move (.plain rfl)) (.nil _)) ?_
  refine awp_cond rfl (fun h => ?_) (fun h => ?_)
  · try simp only [decide_eq_true_eq, decide_eq_false_iff_not, Bool.and_eq_true, Bool.or_eq_true, Bool.and_eq_false_iff, Bool.or_eq_false_iff, Bool.not_eq_true', Bool.not_eq_false', Bool.not_eq_true, Bool.not_eq_false, Bool.true_eq_false, Bool.false_eq_true] at h
    refine awp_seq ?_
    refine awp_region rfl (.n (fun _ => op_move (.plain rfl)) (.n (fun _ => op_move (.plain rfl)) (.n (fun _ => op_sub (.plain rfl) (.plain rfl) ?_) (.n (fun _ => op_assign (.plain rfl)) (.nil _))))) ?_
    · unfold InR; omega
    refine awp_ret ?_
    refine retQ.ret ?_
    refine ret1 rfl rfl rfl ?_
    subst h
    rfl
  · try simp only [decide_eq_true_eq, decide_eq_false_iff_not, Bool.and_eq_true, Bool.or_eq_true, Bool.and_eq_false_iff, Bool.or_eq_false_iff, Bool.not_eq_true', Bool.not_eq_false', Bool.not_eq_true, Bool.not_eq_false, Bool.true_eq_false, Bool.false_eq_true] at h
    refine awp_skip ?_
    refine awp_seq ?_
    refine awp_region rfl (.n (fun _ => op_assign (.plain rfl)) (.nil _)) ?_
    refine awp_ret ?_
    refine retQ.ret ?_
    refine ret1 rfl rfl rfl ?_
    subst h
    rfl

set_option maxRecDepth 1000000 in
set_option maxHeartbeats 2000000 in
theorem TopBids_fc (raw : List Int) (n who lie : Int) (sets : List Int) : FC Try.prog 8 [.ints raw, .i n, .i who, .i lie, .ints sets] (.bool true) := by
  refine FC.intro Try.func8 rfl (Nat.le_of_ble_eq_true rfl) fun hfit => ?_
  obtain ⟨fitl0, fitr0⟩ := (hfit _ (.head _)).ints
  have fit1 : -9223372036854775808 ≤ (n : Int) ∧ (n : Int) ≤ 9223372036854775807 := (hfit _ (.tail _ (.head _))).int64
  have fit2 : -9223372036854775808 ≤ (who : Int) ∧ (who : Int) ≤ 9223372036854775807 := (hfit _ (.tail _ (.tail _ (.head _)))).int64
  have fit3 : -9223372036854775808 ≤ (lie : Int) ∧ (lie : Int) ≤ 9223372036854775807 := (hfit _ (.tail _ (.tail _ (.tail _ (.head _))))).int64
  obtain ⟨fitl4, fitr4⟩ := (hfit _ (.tail _ (.tail _ (.tail _ (.tail _ (.head _)))))).ints
  have hq1 := pickF_range n 4 (by omega)
  have hq3 := pickF_range lie 1001 (by omega)
  have hq4 := pickF_range sets.length 9 (by omega)
  refine awp_seq ?_
  refine awp_region rfl (.n (fun _ => op_assign (.plain rfl)) (.nil _)) ?_
  refine awp_seq ?_
  refine awp_seq ?_
  refine awp_region rfl (.n (fun _ => op_move (.plain rfl)) (.n (fun _ => op_len (s := 0) Try.underlying27 (.plain rfl)) (.n (fun _ => op_move (.plain rfl)) (.n (fun _ => op_len (s := 0) Try.underlying27 (.plain rfl)) (.n (fun _ => op_add (.plain rfl) (.plain rfl) ?_) (.n (fun _ => op_gtr (.plain rfl) (.plain rfl)) (.nil _))))))) ?_
  · unfold InR; omega
  refine awp_cond rfl (fun h => ?_) (fun h => ?_)
  · try simp only [decide_eq_true_eq, decide_eq_false_iff_not, Bool.and_eq_true, Bool.or_eq_true, Bool.and_eq_false_iff, Bool.or_eq_false_iff, Bool.not_eq_true', Bool.not_eq_false', Bool.not_eq_true, Bool.not_eq_false, Bool.true_eq_false, Bool.false_eq_true] at h
    refine awp_seq ?_
    refine awp_region rfl (.n (fun _ => op_assign (.plain rfl)) (.nil _)) ?_
    refine awp_ret ?_
    refine retQ.ret ?_
    refine ret1 rfl rfl rfl ?_
    rfl
  · try simp only [decide_eq_true_eq, decide_eq_false_iff_not, Bool.and_eq_true, Bool.or_eq_true, Bool.and_eq_false_iff, Bool.or_eq_false_iff, Bool.not_eq_true', Bool.not_eq_false', Bool.not_eq_true, Bool.not_eq_false, Bool.true_eq_false, Bool.false_eq_true] at h
    refine awp_skip ?_
    refine awp_seq ?_
    refine awp_region rfl (.n (fun _ => op_move (.plain rfl)) (.n (fun _ => op_call2 Try.call16 (.plain rfl) (.plain rfl) (Pick_fc _ _ ?_)) (.n (fun _ => op_add (.plain rfl) (.plain rfl) ?_) (.n (fun _ => op_assign (.plain rfl)) (.nil _))))) ?_
    · omega
    · unfold InR; omega
    refine awp_seq ?_
    obtain ⟨N, hN⟩ : ∃ N : Nat, 1 + pickF n 4 = N := ⟨(1 + pickF n 4).toNat, by omega⟩
    rw [hN]
    have hNb : 1 ≤ N ∧ N ≤ 4 := by omega
    have hq2 := pickF_range who N (by omega)
    refine awp_region rfl (.n (fun _ => op_move (.plain rfl)) (.n (fun _ => op_move (.plain rfl)) (.n (fun _ => op_call2 Try.call16 (.plain rfl) (.plain rfl) (Pick_fc _ _ ?_)) (.n (fun _ => op_assign (.plain rfl)) (.nil _))))) ?_
    · omega
    refine awp_seq ?_
    obtain ⟨w, hw⟩ : ∃ w : Nat, pickF who N = w := ⟨(pickF who N).toNat, by omega⟩
    rw [hw]
    have hwN : w < N := by omega
    refine awp_region rfl (.n (fun _ => op_move (.plain rfl)) (.n (fun _ => op_call2 Try.call16 (.plain rfl) (.plain rfl) (Pick_fc _ _ ?_)) (.n (fun _ => op_assign (.plain rfl)) (.nil _)))) ?_
    · omega
    refine awp_seq ?_
    obtain ⟨a, ha⟩ : ∃ a : Nat, pickF lie 1001 = a := ⟨(pickF lie 1001).toNat, by omega⟩
    rw [ha]
    have hab : 0 ≤ ((a : Nat) : Int) ∧ ((a : Nat) : Int) ≤ 1000 := by omega
    refine awp_region rfl (.n (fun _ => op_assign (.plain rfl)) (.nil _)) ?_
    refine awp_seq ?_
    refine awp_seq ?_
    refine awp_region rfl (.n (fun _ => op_assign (.plain rfl)) (.nil _)) ?_
    refine awp_block ?_
    refine awp_ent (Ent.begin 11 1011 3 1 Int 0 (fun n => [.int .i64 n]) rfl rfl rfl) ?_
    refine awp_loop (σ := Nat) (fun (i : Nat) => i ≤ N) (fun (i : Nat) => ⟨[(0, .pv (.ints raw)), (4, .pv (.ints sets)), (1, .int (N : Nat)), (2, .int (w : Nat)), (3, .int (a : Nat)), (11, .own 1011), (12, .int (i : Nat))], [(1011, .arr 3 1 Int 0 (fun n => [.int .i64 n]) (mapr i fun j => pickF (atF raw j) 40))]⟩) (fun (i : Nat) => N - i) 0 ?_ (Ent.kept ⟨rfl, rfl, rfl, rfl, rfl, rfl, rfl, trivial⟩ ⟨rfl, trivial⟩) ?_
    · simp
    rintro i hp
    try dsimp only at hp
    refine awp_seq ?_
    refine awp_seq ?_
    refine awp_region rfl (.n (fun _ => op_move (.plain rfl)) (.n (fun _ => op_move (.plain rfl)) (.n (fun _ => op_lss (.plain rfl) (.plain rfl)) (.nil _)))) ?_
    refine awp_cond rfl (fun h => ?_) (fun h => ?_)
    · try simp only [decide_eq_true_eq, decide_eq_false_iff_not, Bool.and_eq_true, Bool.or_eq_true, Bool.and_eq_false_iff, Bool.or_eq_false_iff, Bool.not_eq_true', Bool.not_eq_false', Bool.not_eq_true, Bool.not_eq_false, Bool.true_eq_false, Bool.false_eq_true] at h
      refine awp_skip ?_
      refine awp_seq ?_
      refine awp_block ?_
      refine awp_region rfl (.n (fun _ => op_move (.plain rfl)) (.n (fun _ => op_move (.plain rfl)) (.n (fun _ => op_move (.plain rfl)) (.n (fun _ => op_call2 Try.call30 (.plain rfl) (.plain rfl) (At_fc _ _)) (.n (fun _ => op_call2 Try.call16 (.plain rfl) (.plain rfl) (Pick_fc _ _ ?_)) (.n (fun _ => op_slit (pp := [(0, _)]) (α := Int) (d := 0) (f := (fun n => [.int .i64 n])) [_] ety27 rfl ⟨rfl, (.plain rfl), (by simp), trivial⟩ rfl (by decide) rfl) (.e (op_append (id' := 55) (α := Int) (d := 0) (f := (fun n => [.int .i64 n])) ety27 Try.underlying27 (fun _ => rfl) (fun _ => rfl) (.plain rfl) rfl (.plain rfl) rfl ?_) rfl (.n (fun _ => op_assign (.plain rfl)) (.nil _))))))))) ?_
      · omega
      · first | omega | (simp; omega)
      refine awp_region rfl (.n (fun _ => op_move (.plain rfl)) (.n (fun _ => op_add (.plain rfl) (.plain rfl) ?_) (.n (fun _ => op_assign (.plain rfl)) (.nil _)))) ?_
      · unfold InR; omega
      exact ⟨i + 1, by omega, by dsimp only; omega, (Ent.round 55 1011 ⟨rfl, rfl, rfl, rfl, rfl, rfl, rfl, trivial⟩ ⟨(congrArg (fun l => some (Blk.arr 3 1 Int 0 (fun n => [.int .i64 n]) l)) (mapr_snoc _ _)), trivial⟩ rfl rfl rfl ⟨rfl, rfl, rfl, rfl, rfl, rfl, rfl, trivial⟩ ⟨rfl, trivial⟩)⟩
    · try simp only [decide_eq_true_eq, decide_eq_false_iff_not, Bool.and_eq_true, Bool.or_eq_true, Bool.and_eq_false_iff, Bool.or_eq_false_iff, Bool.not_eq_true', Bool.not_eq_false', Bool.not_eq_true, Bool.not_eq_false, Bool.true_eq_false, Bool.false_eq_true] at h
      obtain rfl : N = i := by omega
      have hAl : (mapr N fun j => pickF (atF raw j) 40).length = N := mapr_length _ _
      have hAv : BidsOk (mapr N fun j => pickF (atF raw j) 40) := ⟨by omega, fun j hj => by rw [mapr_getD _ (by omega)]; have := pickF_range (atF raw j) 40 (by omega); omega⟩
      generalize (mapr N fun j => pickF (atF raw j) 40) = A at *
      refine awp_exit ?_
      refine awp_seq ?_
      refine awp_ent (Ent.give 11 rfl rfl) ?_
      refine awp_region rfl (.e (op_slitO (pp := []) (α := Int) (d := 0) (f := (fun n => [.int .i64 n])) 56 [] ety27 rfl trivial rfl (by decide) rfl (fun _ => rfl) rfl) rfl (.n (fun _ => op_move (.plain rfl)) (.e (op_append (id' := 58) (α := Int) (d := 0) (f := (fun n => [.int .i64 n])) ety27 Try.underlying27 (fun _ => rfl) (fun _ => rfl) (.plain rfl) rfl (.plain rfl) rfl ?_) rfl (.n (fun _ => op_assign (.plain rfl)) (.nil _))))) ?_
      · first | omega | (simp; omega)
      refine awp_seq ?_
      refine awp_region rfl (.n (fun _ => op_move (.plain rfl)) (.n (fun _ => op_move (.plain rfl)) (.n (fun _ => op_move (.plain rfl)) (.r (op_indexAddrON Try.underlying27 Try.sizeOf3 (.plain rfl) rfl (.plain rfl) ?_) (.e (op_storeE _ Try.sizeOf3 (.plain rfl) (.plain rfl) rfl (fun _ => rfl) ?_ (by decide) rfl rfl) rfl (.nil _)))))) ?_
      · first | omega | (simp; omega)
      · first | omega | (simp; omega)
      refine awp_seq ?_
      simp only [List.nil_append]
      have hBl : (A.set w ((a : Nat) : Int)).length = N := by rw [List.length_set]; exact hAl
      have hBv : BidsOk (A.set w ((a : Nat) : Int)) := hAv.set hab
      have hbA := hAv.bidsE
      have hbB := hBv.bidsE
      refine awp_region rfl (.n (fun _ => op_move (.plain rfl)) (.n (fun _ => op_call1 Try.call19 (.plain rfl) (Second_fc _)) (.n (fun _ => op_move (.plain rfl)) (.n (fun _ => op_extract (.plain rfl) rfl) (.n (fun _ => op_extract (.plain rfl) rfl) (.n (fun _ => op_extract (.plain rfl) rfl) (.n (fun _ => op_assign (.plain rfl)) (.n (fun _ => op_assign (.plain rfl)) (.n (fun _ => op_assign (.plain rfl)) (.nil _)))))))))) ?_
      refine awp_seq ?_
      refine awp_region rfl (.n (fun _ => op_move (.plain rfl)) (.r (op_callL (vals := [_]) Try.call19 ⟨⟨_, (.plain rfl), rfl⟩, trivial⟩ (Second_fc _) rfl) (.n (fun _ => op_move (.plain rfl)) (.n (fun _ => op_extract (.plain rfl) rfl) (.n (fun _ => op_extract (.plain rfl) rfl) (.n (fun _ => op_extract (.plain rfl) rfl) (.n (fun _ => op_assign (.plain rfl)) (.n (fun _ => op_assign (.plain rfl)) (.n (fun _ => op_assign (.plain rfl)) (.nil _)))))))))) ?_
      refine awp_seq ?_
      refine awp_region rfl (.n (fun _ => op_move (.plain rfl)) (.n (fun _ => op_call1 Try.call20 (.plain rfl) (Clock_fc _)) (.n (fun _ => op_move (.plain rfl)) (.n (fun _ => op_extract (.plain rfl) rfl) (.n (fun _ => op_extract (.plain rfl) rfl) (.n (fun _ => op_extract (.plain rfl) rfl) (.n (fun _ => op_assign (.plain rfl)) (.n (fun _ => op_assign (.plain rfl)) (.n (fun _ => op_assign (.plain rfl)) (.nil _)))))))))) ?_
      refine awp_seq ?_
      refine awp_seq ?_
      simp only [hbA, hbB, ↓reduceIte]
      have hwv := hAv.val w (by omega)
      have hst := second_truth (a := ((a : Nat) : Int)) hAv (show w < A.length by omega)
      have hsA := sec_bd hAv
      have hsB := sec_bd hBv
      refine awp_region_draw mixed rfl (.n (fun _ => op_move (.plain rfl)) (.n (fun _ => op_neq (.plain rfl) (.plain rfl)) (.n (fun _ => op_move (.plain rfl)) (.gn rfl rfl (fun hg _ => op_move (.plain rfl)) (.gn rfl rfl (fun hg _ => op_neq (.opt rfl fun h => h) (.plain rfl)) (.n (fun _ => op_or (.plain rfl) (.plain rfl) (.plain rfl) (fun h => eqF h)) (.n (fun _ => op_move (.plain rfl)) (.gn rfl rfl (fun hg _ => op_move (.plain rfl)) (.gn rfl rfl (fun hg _ => op_neq (.opt rfl fun h => h) (.plain rfl)) (.n (fun _ => op_or (.plain rfl) (.plain rfl) (.plain rfl) (fun h => eqF h)) (.n (fun _ => op_move (.plain rfl)) (.gn rfl rfl (fun hg _ => op_move (.plain rfl)) (.gn rfl rfl (fun hg _ => op_move (.plain rfl)) (.gn rfl rfl (fun hg _ => op_neq (.opt rfl fun h => h) (.opt rfl fun h => h)) (.n (fun _ => op_or (.plain rfl) (.plain rfl) (.plain rfl) (fun h => eqF h)) (.n (fun _ => op_move (.plain rfl)) (.gn rfl rfl (fun hg _ => op_move (.plain rfl)) (.gn rfl rfl (fun hg _ => op_move (.plain rfl)) (.gn rfl rfl (fun hg _ => op_neq (.opt rfl fun h => h) (.opt rfl fun h => h)) (.n (fun _ => op_or (.plain rfl) (.plain rfl) (.plain rfl) (fun h => eqF h)) (.n (fun _ => op_move (.plain rfl)) (.gn rfl rfl (fun hg _ => op_move (.plain rfl)) (.gn rfl rfl (fun hg _ => op_move (.plain rfl)) (.gn rfl rfl (fun hg _ => op_indexAddrN Try.underlying27 Try.sizeOf3 (.opt rfl fun h => h) (.opt rfl fun h => h) (fun _ => rfl) ?_) (.gn rfl rfl (fun hg _ => op_load Try.isAgg3 (.opt rfl fun h => h)) (.gn rfl rfl (fun hg _ => op_move (.plain rfl)) (.gn rfl rfl (fun hg _ => op_move (.plain rfl)) (.gn rfl rfl (fun hg _ => op_eql (.opt rfl fun h => h) (.opt rfl fun h => h)) (.gn rfl rfl (fun hg _ => op_move (.plain rfl)) (.gn rfl rfl (fun hg _ => op_call3 Try.call31 (.opt rfl fun h => h) (.opt rfl fun h => h) (.opt rfl fun h => h) (profit_fc _ _ _ ?_)) (.gn rfl rfl (fun hg _ => op_move (.plain rfl)) (.gn rfl rfl (fun hg _ => op_move (.plain rfl)) (.gn rfl rfl (fun hg _ => op_indexAddrN Try.underlying27 Try.sizeOf3 (.opt rfl fun h => h) (.opt rfl fun h => h) (fun _ => rfl) ?_) (.gn rfl rfl (fun hg _ => op_load Try.isAgg3 (.opt rfl fun h => h)) (.gn rfl rfl (fun hg _ => op_move (.plain rfl)) (.gn rfl rfl (fun hg _ => op_move (.plain rfl)) (.gn rfl rfl (fun hg _ => op_eql (.opt rfl fun h => h) (.opt rfl fun h => h)) (.gn rfl rfl (fun hg _ => op_move (.plain rfl)) (.gn rfl rfl (fun hg _ => op_call3 Try.call31 (.opt rfl fun h => h) (.opt rfl fun h => h) (.opt rfl fun h => h) (profit_fc _ _ _ ?_)) (.gn rfl rfl (fun hg _ => op_lss (.opt rfl fun h => h) (.opt rfl fun h => h)) (.n (fun _ => op_or (.plain rfl) (.plain rfl) (.plain rfl) (fun h => eqF h)) (.n (fun _ => op_move (.plain rfl)) (.gn rfl rfl (fun hg _ => op_move (.plain rfl)) (.gn rfl rfl (fun hg _ => op_move (.plain rfl)) (.gn rfl rfl (fun hg _ => op_indexAddrN Try.underlying27 Try.sizeOf3 (.opt rfl fun h => h) (.opt rfl fun h => h) (fun _ => rfl) ?_) (.gn rfl rfl (fun hg _ => op_load Try.isAgg3 (.opt rfl fun h => h)) (.gn rfl rfl (fun hg _ => op_move (.plain rfl)) (.gn rfl rfl (fun hg _ => op_move (.plain rfl)) (.gn rfl rfl (fun hg _ => op_eql (.opt rfl fun h => h) (.opt rfl fun h => h)) (.gn rfl rfl (fun hg _ => op_move (.plain rfl)) (.gn rfl rfl (fun hg _ => op_call3 Try.call31 (.opt rfl fun h => h) (.opt rfl fun h => h) (.opt rfl fun h => h) (profit_fc _ _ _ ?_)) (.gn rfl rfl (fun hg _ => op_lss (.opt rfl fun h => h) (.plain rfl)) (.n (fun _ => op_or (.plain rfl) (.plain rfl) (.plain rfl) (fun h => eqF h)) (.nil _)))))))))))))))))))))))))))))))))))))))))))))))))))))) ?d1 ?_
      · try simp only [beq_iff_eq, beq_true, beq_false, Bool.and_eq_true, decide_eq_true_eq, decide_eq_false_iff_not, Bool.not_eq_true', Bool.or_eq_true, Bool.or_eq_false_iff] at hg
        omega
      · try simp only [beq_iff_eq, beq_true, beq_false, Bool.and_eq_true, decide_eq_true_eq, decide_eq_false_iff_not, Bool.not_eq_true', Bool.or_eq_true, Bool.or_eq_false_iff] at hg
        omega
      · try simp only [beq_iff_eq, beq_true, beq_false, Bool.and_eq_true, decide_eq_true_eq, decide_eq_false_iff_not, Bool.not_eq_true', Bool.or_eq_true, Bool.or_eq_false_iff] at hg
        omega
      · try simp only [beq_iff_eq, beq_true, beq_false, Bool.and_eq_true, decide_eq_true_eq, decide_eq_false_iff_not, Bool.not_eq_true', Bool.or_eq_true, Bool.or_eq_false_iff] at hg
        omega
      · try simp only [beq_iff_eq, beq_true, beq_false, Bool.and_eq_true, decide_eq_true_eq, decide_eq_false_iff_not, Bool.not_eq_true', Bool.or_eq_true, Bool.or_eq_false_iff] at hg
        omega
      · try simp only [beq_iff_eq, beq_true, beq_false, Bool.and_eq_true, decide_eq_true_eq, decide_eq_false_iff_not, Bool.not_eq_true', Bool.or_eq_true, Bool.or_eq_false_iff] at hg
        omega
      · kernel_rfl
      refine awp_cond rfl (fun h => ?_) (fun h => ?_)
      · try simp only [decide_eq_true_eq, decide_eq_false_iff_not, Bool.and_eq_true, Bool.or_eq_true, Bool.and_eq_false_iff, Bool.or_eq_false_iff, Bool.not_eq_true', Bool.not_eq_false', Bool.not_eq_true, Bool.not_eq_false, Bool.true_eq_false, Bool.false_eq_true] at h
        exfalso
        simp [-List.getD_eq_getElem?_getD] at h
        rcases h with h | h <;> omega
      · try simp only [decide_eq_true_eq, decide_eq_false_iff_not, Bool.and_eq_true, Bool.or_eq_true, Bool.and_eq_false_iff, Bool.or_eq_false_iff, Bool.not_eq_true', Bool.not_eq_false', Bool.not_eq_true, Bool.not_eq_false, Bool.true_eq_false, Bool.false_eq_true] at h
        refine awp_skip ?_
        refine awp_seq ?_
        refine awp_region rfl (.n (fun _ => op_assign (.plain rfl)) (.nil _)) ?_
        refine awp_seq ?_
        refine awp_seq ?_
        refine awp_region rfl (.n (fun _ => op_assign (.plain rfl)) (.nil _)) ?_
        refine awp_block ?_
        refine awp_ent (Ent.ren 58 1013 rfl rfl rfl) ?_
        refine awp_ent (Ent.begin 23 1023 3 1 Int 0 (fun n => [.int .i64 n]) rfl rfl rfl) ?_
        refine awp_loop (σ := Nat) (fun (k : Nat) => (k : Int) ≤ 1 + pickF sets.length 9) (fun (k : Nat) => ⟨[(0, .pv (.ints raw)), (4, .pv (.ints sets)), (1, .int (N : Nat)), (2, .int (w : Nat)), (3, .int (a : Nat)), (11, .pv (.ints A)), (13, .own 1013), (23, .own 1023), (24, .int (k : Nat))], [(1013, .arr 3 1 Int 0 (fun n => [.int .i64 n]) (A.set w ((a : Nat) : Int))), (1023, .arr 3 1 Int 0 (fun n => [.int .i64 n]) (mapr k fun j => pickF (atF sets j) (2 ^ N)))]⟩) (fun (k : Nat) => (1 + pickF sets.length 9).toNat - k) 0 ?_ (Ent.kept ⟨rfl, rfl, rfl, rfl, rfl, rfl, rfl, rfl, rfl, trivial⟩ ⟨rfl, rfl, trivial⟩) ?_
        · omega
        rintro k hp
        try dsimp only at hp
        have hpeN : (1 : Int) * 2 ^ ((N : Nat) : Int).toNat = 2 ^ N := by rw [Int.one_mul, Int.toNat_natCast]
        have hpnN := two_pow_nat N
        have hp4N := two_pow_bd hNb.2
        have hp16N : (2 : Int) ^ 4 = 16 := rfl
        have hkm : (mapr k fun j => pickF (atF sets j) (2 ^ N)).length = k := mapr_length _ _
        refine awp_seq ?_
        refine awp_seq ?_
        refine awp_region rfl (.n (fun _ => op_move (.plain rfl)) (.n (fun _ => op_move (.plain rfl)) (.n (fun _ => op_len (s := 0) Try.underlying27 (.plain rfl)) (.n (fun _ => op_call2 Try.call16 (.plain rfl) (.plain rfl) (Pick_fc _ _ ?_)) (.n (fun _ => op_add (.plain rfl) (.plain rfl) ?_) (.n (fun _ => op_lss (.plain rfl) (.plain rfl)) (.nil _))))))) ?_
        · omega
        · unfold InR; omega
        refine awp_cond rfl (fun h => ?_) (fun h => ?_)
        · try simp only [decide_eq_true_eq, decide_eq_false_iff_not, Bool.and_eq_true, Bool.or_eq_true, Bool.and_eq_false_iff, Bool.or_eq_false_iff, Bool.not_eq_true', Bool.not_eq_false', Bool.not_eq_true, Bool.not_eq_false, Bool.true_eq_false, Bool.false_eq_true] at h
          refine awp_skip ?_
          refine awp_seq ?_
          refine awp_block ?_
          refine awp_region_draw mixed rfl (.n (fun _ => op_move (.plain rfl)) (.n (fun _ => op_move (.plain rfl)) (.n (fun _ => op_move (.plain rfl)) (.n (fun _ => op_call2 Try.call30 (.plain rfl) (.plain rfl) (At_fc _ _)) (.n (fun _ => op_move (.plain rfl)) (.n (fun _ => op_shl (.plain rfl) (.plain rfl) ?_) (.n (fun _ => op_call2 Try.call16 (.plain rfl) (.plain rfl) (Pick_fc _ _ ?_)) (.n (fun _ => op_slit (pp := [(0, _)]) (α := Int) (d := 0) (f := (fun n => [.int .i64 n])) [_] ety27 rfl ⟨rfl, (.plain rfl), (by simp), trivial⟩ rfl (by decide) rfl) (.e (op_append (id' := 150) (α := Int) (d := 0) (f := (fun n => [.int .i64 n])) ety27 Try.underlying27 (fun _ => rfl) (fun _ => rfl) (.plain rfl) rfl (.plain rfl) rfl ?_) rfl (.n (fun _ => op_assign (.plain rfl)) (.nil _))))))))))) ?d2 ?_
          · unfold InR; rw [hpeN]; omega
          · rw [hpeN]; omega
          · first | omega | (simp; omega)
          · kernel_rfl
          refine awp_region rfl (.n (fun _ => op_move (.plain rfl)) (.n (fun _ => op_add (.plain rfl) (.plain rfl) ?_) (.n (fun _ => op_assign (.plain rfl)) (.nil _)))) ?_
          · unfold InR; omega
          exact ⟨k + 1, by dsimp only; omega, by dsimp only; omega, (Ent.round 150 1023 ⟨rfl, rfl, rfl, rfl, rfl, rfl, rfl, rfl, rfl, trivial⟩ ⟨rfl, (congrArg (fun l => some (Blk.arr 3 1 Int 0 (fun n => [.int .i64 n]) l)) (by rw [hpeN]; exact mapr_snoc _ _)), trivial⟩ rfl rfl rfl ⟨rfl, rfl, rfl, rfl, rfl, rfl, rfl, rfl, rfl, trivial⟩ ⟨rfl, rfl, trivial⟩)⟩
        · try simp only [decide_eq_true_eq, decide_eq_false_iff_not, Bool.and_eq_true, Bool.or_eq_true, Bool.and_eq_false_iff, Bool.or_eq_false_iff, Bool.not_eq_true', Bool.not_eq_false', Bool.not_eq_true, Bool.not_eq_false, Bool.true_eq_false, Bool.false_eq_true] at h
          have hSl : (mapr k fun j => pickF (atF sets j) (2 ^ N)).length = k := mapr_length _ _
          have hSv : ∀ j, j < k → 0 ≤ (mapr k fun j => pickF (atF sets j) (2 ^ N)).getD j 0 ∧ (mapr k fun j => pickF (atF sets j) (2 ^ N)).getD j 0 < 2 ^ N := fun j hj => by rw [mapr_getD _ hj]; exact pickF_range _ _ (by omega)
          generalize (mapr k fun j => pickF (atF sets j) (2 ^ N)) = S at *
          have hsoA : SlotsOk A S := ⟨hAv, by omega, fun j hj => by rw [hAl]; exact hSv j (by omega)⟩
          have hsoB := hsoA.set (i := w) hab
          refine awp_exit ?_
          refine awp_seq ?_
          refine awp_ent (Ent.give 23 rfl rfl) ?_
          refine awp_region rfl (.n (fun _ => op_move (.plain rfl)) (.n (fun _ => op_move (.plain rfl)) (.n (fun _ => op_call2 Try.call23 (.plain rfl) (.plain rfl) (Slots_fc _ _)) (.n (fun _ => op_move (.plain rfl)) (.n (fun _ => op_extract (.plain rfl) rfl) (.n (fun _ => op_extract (.plain rfl) rfl) (.n (fun _ => op_extract (.plain rfl) rfl) (.n (fun _ => op_assign (.plain rfl)) (.n (fun _ => op_assign (.plain rfl)) (.n (fun _ => op_assign (.plain rfl)) (.nil _))))))))))) ?_
          refine awp_seq ?_
          refine awp_ent (Ent.give 13 rfl rfl) ?_
          refine awp_region rfl (.n (fun _ => op_move (.plain rfl)) (.n (fun _ => op_move (.plain rfl)) (.n (fun _ => op_call2 Try.call23 (.plain rfl) (.plain rfl) (Slots_fc _ _)) (.n (fun _ => op_move (.plain rfl)) (.n (fun _ => op_extract (.plain rfl) rfl) (.n (fun _ => op_extract (.plain rfl) rfl) (.n (fun _ => op_extract (.plain rfl) rfl) (.n (fun _ => op_assign (.plain rfl)) (.n (fun _ => op_assign (.plain rfl)) (.n (fun _ => op_assign (.plain rfl)) (.nil _))))))))))) ?_
          refine awp_seq ?_
          refine awp_seq ?_
          simp only [hsoA.slotsE, hsoB.slotsE, ↓reduceIte]
          have hmA : (mapr A.length (payF A S)).length = A.length := mapr_length _ _
          have hmB : (mapr (A.set w ((a : Nat) : Int)).length (payF (A.set w ((a : Nat) : Int)) S)).length = (A.set w ((a : Nat) : Int)).length := mapr_length _ _
          refine awp_region rfl (.n (fun _ => op_move (.plain rfl)) (.n (fun _ => op_neq (.plain rfl) (.plain rfl)) (.n (fun _ => op_move (.plain rfl)) (.gn rfl rfl (fun hg _ => op_move (.plain rfl)) (.gn rfl rfl (fun hg _ => op_neq (.opt rfl fun h => h) (.plain rfl)) (.n (fun _ => op_or (.plain rfl) (.plain rfl) (.plain rfl) (fun h => eqF h)) (.n (fun _ => op_move (.plain rfl)) (.gn rfl rfl (fun hg _ => op_move (.plain rfl)) (.gn rfl rfl (fun hg _ => op_len (s := 0) Try.underlying27 (.opt rfl fun h => h)) (.gn rfl rfl (fun hg _ => op_move (.plain rfl)) (.gn rfl rfl (fun hg _ => op_neq (.opt rfl fun h => h) (.opt rfl fun h => h)) (.n (fun _ => op_or (.plain rfl) (.plain rfl) (.plain rfl) (fun h => eqF h)) (.n (fun _ => op_move (.plain rfl)) (.gn rfl rfl (fun hg _ => op_move (.plain rfl)) (.gn rfl rfl (fun hg _ => op_len (s := 0) Try.underlying27 (.opt rfl fun h => h)) (.gn rfl rfl (fun hg _ => op_move (.plain rfl)) (.gn rfl rfl (fun hg _ => op_neq (.opt rfl fun h => h) (.opt rfl fun h => h)) (.n (fun _ => op_or (.plain rfl) (.plain rfl) (.plain rfl) (fun h => eqF h)) (.nil _))))))))))))))))))) ?_
          refine awp_cond rfl (fun h => ?_) (fun h => ?_)
          · try simp only [decide_eq_true_eq, decide_eq_false_iff_not, Bool.and_eq_true, Bool.or_eq_true, Bool.and_eq_false_iff, Bool.or_eq_false_iff, Bool.not_eq_true', Bool.not_eq_false', Bool.not_eq_true, Bool.not_eq_false, Bool.true_eq_false, Bool.false_eq_true] at h
            exfalso
            simp at h
            omega
          · try simp only [decide_eq_true_eq, decide_eq_false_iff_not, Bool.and_eq_true, Bool.or_eq_true, Bool.and_eq_false_iff, Bool.or_eq_false_iff, Bool.not_eq_true', Bool.not_eq_false', Bool.not_eq_true, Bool.not_eq_false, Bool.true_eq_false, Bool.false_eq_true] at h
            refine awp_skip ?_
            refine awp_seq ?_
            have hpe : (1 : Int) * 2 ^ ((w : Nat) : Int).toNat = 2 ^ w := by rw [Int.one_mul, Int.toNat_natCast]
            have hpn := two_pow_nat w
            have hp4 := two_pow_bd (show w ≤ 4 by omega)
            have hp16 : (2 : Int) ^ 4 = 16 := rfl
            have hwA := hsoA.win
            have hwB := hsoB.win
            have hpl := pow16 hAv.len.2
            have hpl2 := pow16 hBv.len.2
            have hgA : (mapr A.length (payF A S)).getD w 0 = payF A S w := mapr_getD _ (by omega)
            have hgB : (mapr (A.set w ((a : Nat) : Int)).length (payF (A.set w ((a : Nat) : Int)) S)).getD w 0 = payF (A.set w ((a : Nat) : Int)) S w := mapr_getD _ (by omega)
            have hpA := pay_bd (s := S) hAv (show w < A.length by omega)
            have hpB := pay_bd (s := S) hBv (show w < (A.set w ((a : Nat) : Int)).length by omega)
            refine awp_region_draw mixed rfl (.n (fun _ => op_move (.plain rfl)) (.n (fun _ => op_move (.plain rfl)) (.n (fun _ => op_indexAddrN Try.underlying27 Try.sizeOf3 (.plain rfl) (.plain rfl) (fun _ => rfl) ?_) (.n (fun _ => op_load Try.isAgg3 (.plain rfl)) (.n (fun _ => op_move (.plain rfl)) (.n (fun _ => op_move (.plain rfl)) (.n (fun _ => op_shl (.plain rfl) (.plain rfl) ?_) (.n (fun _ => op_quo (.plain rfl) (.plain rfl) ?_) (.n (fun _ => op_rem (.plain rfl) (.plain rfl) ?_) (.n (fun _ => op_eql (.plain rfl) (.plain rfl)) (.n (fun _ => op_move (.plain rfl)) (.n (fun _ => op_move (.plain rfl)) (.n (fun _ => op_indexAddrN Try.underlying27 Try.sizeOf3 (.plain rfl) (.plain rfl) (fun _ => rfl) ?_) (.n (fun _ => op_load Try.isAgg3 (.plain rfl)) (.n (fun _ => op_call3 Try.call31 (.plain rfl) (.plain rfl) (.plain rfl) (profit_fc _ _ _ ?_)) (.n (fun _ => op_assign (.plain rfl)) (.nil _))))))))))))))))) ?d3 ?_
            · omega
            · unfold InR; rw [hpe]; omega
            · rw [hpe]; omega
            · exact ⟨Int.ediv_nonneg hwA.1 (by rw [hpe]; omega), by omega⟩
            · omega
            · omega
            · kernel_rfl
            refine awp_seq ?_
            refine awp_region_draw mixed rfl (.n (fun _ => op_move (.plain rfl)) (.n (fun _ => op_move (.plain rfl)) (.n (fun _ => op_move (.plain rfl)) (.n (fun _ => op_indexAddrN Try.underlying27 Try.sizeOf3 (.plain rfl) (.plain rfl) (fun _ => rfl) ?_) (.n (fun _ => op_load Try.isAgg3 (.plain rfl)) (.n (fun _ => op_move (.plain rfl)) (.n (fun _ => op_move (.plain rfl)) (.n (fun _ => op_shl (.plain rfl) (.plain rfl) ?_) (.n (fun _ => op_quo (.plain rfl) (.plain rfl) ?_) (.n (fun _ => op_rem (.plain rfl) (.plain rfl) ?_) (.n (fun _ => op_eql (.plain rfl) (.plain rfl)) (.n (fun _ => op_move (.plain rfl)) (.n (fun _ => op_move (.plain rfl)) (.n (fun _ => op_indexAddrN Try.underlying27 Try.sizeOf3 (.plain rfl) (.plain rfl) (fun _ => rfl) ?_) (.n (fun _ => op_load Try.isAgg3 (.plain rfl)) (.n (fun _ => op_call3 Try.call31 (.plain rfl) (.plain rfl) (.plain rfl) (profit_fc _ _ _ ?_)) (.n (fun _ => op_geq (.plain rfl) (.plain rfl)) (.n (fun _ => op_move (.plain rfl)) (.gn rfl rfl (fun hg _ => op_move (.plain rfl)) (.gn rfl rfl (fun hg _ => op_geq (.opt rfl fun h => h) (.plain rfl)) (.n (fun _ => op_and (.plain rfl) (.plain rfl) (.plain rfl) (fun h => eqT h)) (.n (fun _ => op_assign (.plain rfl)) (.nil _))))))))))))))))))))))) ?d4 ?_
            · omega
            · unfold InR; rw [hpe]; omega
            · rw [hpe]; omega
            · exact ⟨Int.ediv_nonneg hwB.1 (by rw [hpe]; omega), by omega⟩
            · omega
            · omega
            · kernel_rfl
            refine awp_ret ?_
            refine retQ.ret ?_
            refine ret1 rfl rfl rfl ?_
            have hst2 := slots_truth (a := a) hAv (show w < A.length by omega) hsoA.len.1
            rw [hpe, hgA, hgB]
            unfold bitF at hst2
            simp only [hst2.1, hst2.2, decide_true, Bool.and_self]

end Go.Proofs.Ytdllochcdcgaeaa

