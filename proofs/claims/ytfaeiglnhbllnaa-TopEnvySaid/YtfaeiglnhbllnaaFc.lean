/- What ShareSays says, first part: turns, the table of envy, levels, by both ways. Conditions: each theorem names its own. -/
import Derived.Test.YtfaeiglnhbllnaaProg
import Derived.Test.YtfaeiglnhbllnaaFb
namespace Go.Proofs.Ytfaeiglnhbllnaa
open Go.Abs
set_option linter.unusedVariables false
set_option linter.unusedSimpArgs false


theorem dn1 {A B C : Prop} (h : ¬ A ∧ (¬ B ∨ ¬ C)) : ¬ (A ∨ B ∧ C) := fun c => c.elim h.1 fun c => h.2.elim (fun n => n c.1) fun n => n c.2
theorem dn2 {A B C : Prop} (h : ¬ A ∨ ¬ B ∧ ¬ C) : ¬ (A ∧ (B ∨ C)) := fun c => h.elim (fun n => n c.1) fun n => c.2.elim n.1 n.2
theorem many_bd {n : Nat} {a : Int} (h0 : 0 ≤ a) (h : a ≤ 1100) (hn : n ≤ 4) : InR (a * (n : Int)) := by
  have h1 := Int.mul_le_mul h (show (n : Int) ≤ 4 by omega) (by omega) (by omega)
  have h2 := Int.mul_nonneg h0 (show (0 : Int) ≤ n by omega)
  unfold InR; omega
theorem mxI_in {v : List (List Int)} {give : List Int} {who g : Nat} : -1 ≤ mxI (frB give) (rowF v who) g ∧ mxI (frB give) (rowF v who) g < g := by
  rcases mxI_is (frB give) (rowF v who) g with ⟨h1, _⟩ | ⟨h1, h2, _⟩
  · omega
  · omega
theorem mxD_in {v : List (List Int)} {give : List Int} {who n c : Nat} (hc : c ≤ n) : -1 ≤ mxD (frB give) (rowF v who) n c ∧ mxD (frB give) (rowF v who) n c < n := by
  rcases mxD_is (frB give) (rowF v who) n c hc with ⟨h1, _⟩ | ⟨h1, h2, _⟩
  · omega
  · omega
theorem mxI_yes {v : List (List Int)} {give : List Int} {who g : Nat} (h : give.getD g 0 < 0 ∧ (mxI (frB give) (rowF v who) g < 0 ∨ (v.getD who []).getD (mxI (frB give) (rowF v who) g).toNat 0 < (v.getD who []).getD g 0)) : (g : Int) = mxI (frB give) (rowF v who) (g + 1) := by
  unfold mxI
  rw [if_pos ⟨decide_eq_true h.1, h.2⟩]
theorem mxI_no {v : List (List Int)} {give : List Int} {who g : Nat} (h : ¬ give.getD g 0 < 0 ∨ ¬ mxI (frB give) (rowF v who) g < 0 ∧ ¬ (v.getD who []).getD (mxI (frB give) (rowF v who) g).toNat 0 < (v.getD who []).getD g 0) : mxI (frB give) (rowF v who) g = mxI (frB give) (rowF v who) (g + 1) := by
  rw [mxI, if_neg fun c => h.elim (fun h => h (of_decide_eq_true c.1)) fun h => c.2.elim h.1 h.2]
theorem down_nat {n c : Nat} (hc : c < n) : ((n : Int) - 1 - (c : Nat)).toNat = n - 1 - c := by omega
theorem mxD_yes {v : List (List Int)} {give : List Int} {who n c : Nat} (hc : c < n) (h : give.getD ((n : Int) - 1 - (c : Nat)).toNat 0 < 0 ∧ (mxD (frB give) (rowF v who) n c < 0 ∨ (v.getD who []).getD (mxD (frB give) (rowF v who) n c).toNat 0 ≤ (v.getD who []).getD ((n : Int) - 1 - (c : Nat)).toNat 0)) : (n : Int) - 1 - (c : Nat) = mxD (frB give) (rowF v who) n (c + 1) := by
  rw [down_nat hc] at h
  unfold mxD
  rw [if_pos ⟨decide_eq_true h.1, h.2⟩]; omega
theorem mxD_no {v : List (List Int)} {give : List Int} {who n c : Nat} (hc : c < n) (h : ¬ give.getD ((n : Int) - 1 - (c : Nat)).toNat 0 < 0 ∨ ¬ mxD (frB give) (rowF v who) n c < 0 ∧ ¬ (v.getD who []).getD (mxD (frB give) (rowF v who) n c).toNat 0 ≤ (v.getD who []).getD ((n : Int) - 1 - (c : Nat)).toNat 0) : mxD (frB give) (rowF v who) n c = mxD (frB give) (rowF v who) n (c + 1) := by
  rw [down_nat hc] at h
  rw [mxD, if_neg fun c => h.elim (fun h => h (of_decide_eq_true c.1)) fun h => c.2.elim h.1 h.2]
theorem turnD_set {v : List (List Int)} {k : Nat} : (turnS v k).set (mxD (frB (turnS v k)) (rowF v (k % v.length)) (mL v) (mL v)).toNat ((k % v.length : Nat) : Int) = turnS v (k + 1) := by
  rw [mxD_eq]; rfl
theorem bestD_in {v : List (List Int)} {k : Nat} (hk : k < mL v) (who : Nat) : 0 ≤ mxD (frB (turnS v k)) (rowF v who) (mL v) (mL v) ∧ mxD (frB (turnS v k)) (rowF v who) (mL v) (mL v) < (mL v : Nat) := by
  rw [mxD_eq]; exact bestT_in hk who
theorem mostTo_bd {v : List (List Int)} (hV : Val v) {give : List Int} {i k : Nat} (hi : i < v.length) : ∀ g, g ≤ mL v → 0 ≤ mostTo v give i k g ∧ mostTo v give i k g ≤ 1000
  | 0, _ => by simp [mostTo]
  | g + 1, hg => by
    have ih := mostTo_bd hV (give := give) (k := k) hi g (by omega)
    have := hV.val i hi g (by omega)
    unfold mostTo; split <;> omega
theorem most_in {v : List (List Int)} {give : List Int} {i k g : Nat} (h : give.getD g 0 = (k : Int)) : max (mostTo v give i k g) ((v.getD i []).getD g 0) = mostTo v give i k (g + 1) := (if_pos h).symm
theorem most_out {v : List (List Int)} {give : List Int} {i k g : Nat} (h : ¬ give.getD g 0 = (k : Int)) : mostTo v give i k g = mostTo v give i k (g + 1) := (if_neg h).symm
theorem lv_in {v : List (List Int)} {give : List Int} {i : Nat} (h : 0 < hasF v give (i : Nat) (i : Nat)) : (lvTo v give i).1 + 1 = (lvTo v give (i + 1)).1 ∧ (lvTo v give i).2 * hasF v give (i : Nat) (i : Nat) = (lvTo v give (i + 1)).2 := by
  rw [lvTo, if_pos h]; exact ⟨rfl, rfl⟩
theorem lv_out {v : List (List Int)} {give : List Int} {i : Nat} (h : ¬ 0 < hasF v give (i : Nat) (i : Nat)) : lvTo v give i = lvTo v give (i + 1) := by
  rw [lvTo, if_neg h]
def evP (v : List (List Int)) (r : Nat) (p : List Int) (i : Nat) : PV := match evAcc v r p i with | none => .nil | some b => .ints b
def evM (v : List (List Int)) (r : Nat) (p : List Int) (i : Nat) : Int × Int := match evAcc v r p i with | none => (-1, 0) | some b => lv v b
theorem ev_yes {v : List (List Int)} {r : Nat} {p : List Int} {i : Nat} (hl : 0 ≤ (lv v (evR v r (p ++ [(i : Int)]))).1) (h : (evM v r p i).1 < (lv v (evR v r (p ++ [(i : Int)]))).1 ∨ ((lv v (evR v r (p ++ [(i : Int)]))).1 = (evM v r p i).1 ∧ (evM v r p i).2 < (lv v (evR v r (p ++ [(i : Int)]))).2)) : PV.ints (evR v r (p ++ [(i : Int)])) = evP v r p (i + 1) ∧ lv v (evR v r (p ++ [(i : Int)])) = evM v r p (i + 1) := by
  unfold evP evM
  rw [evAcc_succ]
  cases e : evAcc v r p i with
  | none => exact ⟨rfl, rfl⟩
  | some b =>
    unfold evM at h; rw [e] at h
    simp only [bstep]
    rw [if_pos (below_iff.2 (by simp only at h ⊢; omega))]
    exact ⟨rfl, rfl⟩
theorem ev_no {v : List (List Int)} {r : Nat} {p : List Int} {i : Nat} (hl : 0 ≤ (lv v (evR v r (p ++ [(i : Int)]))).1) (h : ¬ ((evM v r p i).1 < (lv v (evR v r (p ++ [(i : Int)]))).1 ∨ ((lv v (evR v r (p ++ [(i : Int)]))).1 = (evM v r p i).1 ∧ (evM v r p i).2 < (lv v (evR v r (p ++ [(i : Int)]))).2))) : evP v r p i = evP v r p (i + 1) ∧ evM v r p i = evM v r p (i + 1) := by
  unfold evP evM
  rw [evAcc_succ]
  cases e : evAcc v r p i with
  | none => unfold evM at h; rw [e] at h; simp only at h; omega
  | some b =>
    unfold evM at h; rw [e] at h
    simp only [bstep]
    rw [if_neg (fun c => h (by have := below_iff.1 c; simp only; omega))]
    exact ⟨rfl, rfl⟩
theorem ev_end {v : List (List Int)} {r : Nat} {p : List Int} (hn : 1 ≤ v.length) : evP v r p v.length = .ints (evR v (r + 1) p) := by
  obtain ⟨m, hm⟩ : ∃ m, v.length = m + 1 := ⟨v.length - 1, by omega⟩
  obtain ⟨y, hy⟩ := bstep_some v (evAcc v r p m) (evR v r (p ++ [(m : Int)]))
  have e : evAcc v r p v.length = some y := by rw [hm, evAcc_succ, hy]
  have e2 : evR v (r + 1) p = (evAcc v r p v.length).getD [] := rfl
  unfold evP; rw [e2, e]; rfl
theorem turns_err {v : List (List Int)} (h : ¬ mayE v = 0) : PV.tup [.ints [], .i (mayE v)] = .tup [.ints (turnsRes v), .i (mayE v)] := by unfold turnsRes; rw [if_neg h]
theorem turns_ok {v : List (List Int)} {k : Nat} (h : mayE v = 0) (hk : k = mL v) : PV.tup [.ints (turnS v k), .i 0] = .tup [.ints (turnsRes v), .i (mayE v)] := by subst hk; unfold turnsRes; rw [h, if_pos rfl]
theorem envy_err {v : List (List Int)} {give : List Int} (h : ¬ giftE v give = 0) {e : Int} (he : e = giftE v give) : PV.tup [.rows [], .i e] = .tup [.rows (envyRes v give), .i (giftE v give)] := by unfold envyRes; rw [if_neg h, he]
theorem envy_ok {v : List (List Int)} {give : List Int} {i : Nat} (h : giftE v give = 0) (hi : i ≤ v.length) (hi2 : ¬ (i : Int) < v.length) : PV.tup [.rows (mapr i fun i => mapr v.length fun k => envF v give i k), .i 0] = .tup [.rows (envyRes v give), .i (giftE v give)] := by
  obtain rfl : i = v.length := by omega
  unfold envyRes; rw [h, if_pos rfl]; rfl

theorem sameInts_fc (a b : List Int) : FC Try.prog 16 [.ints a, .ints b] (.bool (decide (a = b))) := by
  refine FC.intro Try.func16 rfl (Nat.le_of_ble_eq_true rfl) fun hfit => ?_
  obtain ⟨fitl0, fitr0⟩ := (hfit _ (.head _)).ints
  obtain ⟨fitl1, fitr1⟩ := (hfit _ (.tail _ (.head _))).ints
  refine awp_seq ?_
  refine awp_region rfl (.n (fun _ => op_assign (.plain rfl)) (.nil _)) ?_
  refine awp_seq ?_
  refine awp_seq ?_
  refine awp_region rfl (.n (fun _ => op_move (.plain rfl)) (.n (fun _ => op_len (s := 0) Try.underlying24 (.plain rfl)) (.n (fun _ => op_move (.plain rfl)) (.n (fun _ => op_len (s := 0) Try.underlying24 (.plain rfl)) (.n (fun _ => op_neq (.plain rfl) (.plain rfl)) (.nil _)))))) ?_
  refine awp_cond rfl (fun h => ?_) (fun h => ?_)
  · try simp only [decide_eq_true_eq, decide_eq_false_iff_not, Bool.and_eq_true, Bool.or_eq_true, Bool.and_eq_false_iff, Bool.or_eq_false_iff, Bool.not_eq_true', Bool.not_eq_false', Bool.not_eq_true, Bool.not_eq_false, Bool.true_eq_false, Bool.false_eq_true] at h
    refine awp_seq ?_
    refine awp_region rfl (.n (fun _ => op_assign (.plain rfl)) (.nil _)) ?_
    refine awp_ret ?_
    refine retQ.ret ?_
    refine ret1 rfl rfl rfl ?_
    rw [decide_eq_false (fun e => by subst e; simp at h)]
  · try simp only [decide_eq_true_eq, decide_eq_false_iff_not, Bool.and_eq_true, Bool.or_eq_true, Bool.and_eq_false_iff, Bool.or_eq_false_iff, Bool.not_eq_true', Bool.not_eq_false', Bool.not_eq_true, Bool.not_eq_false, Bool.true_eq_false, Bool.false_eq_true] at h
    refine awp_skip ?_
    refine awp_seq ?_
    refine awp_seq ?_
    refine awp_region rfl (.n (fun _ => op_assign (.plain rfl)) (.nil _)) ?_
    refine awp_block ?_
    refine awp_loop (σ := Nat) (fun (k : Nat) => k ≤ a.length ∧ ∀ j, j < k → a.getD j 0 = b.getD j 0) (fun (k : Nat) => ⟨[(5, .int (k : Nat)), (0, .pv (.ints a)), (1, .pv (.ints b))], []⟩) (fun (k : Nat) => a.length - k) 0 ?_ (Ent.kept ⟨rfl, rfl, rfl, trivial⟩ trivial) ?_
    · simp
    rintro k hp
    try dsimp only at hp
    obtain ⟨hk, hj⟩ := hp
    have hlen : a.length = b.length := by omega
    refine awp_seq ?_
    refine awp_seq ?_
    refine awp_region rfl (.n (fun _ => op_move (.plain rfl)) (.n (fun _ => op_move (.plain rfl)) (.n (fun _ => op_len (s := 0) Try.underlying24 (.plain rfl)) (.n (fun _ => op_lss (.plain rfl) (.plain rfl)) (.nil _))))) ?_
    refine awp_cond rfl (fun h => ?_) (fun h => ?_)
    · try simp only [decide_eq_true_eq, decide_eq_false_iff_not, Bool.and_eq_true, Bool.or_eq_true, Bool.and_eq_false_iff, Bool.or_eq_false_iff, Bool.not_eq_true', Bool.not_eq_false', Bool.not_eq_true, Bool.not_eq_false, Bool.true_eq_false, Bool.false_eq_true] at h
      refine awp_skip ?_
      refine awp_seq ?_
      refine awp_block ?_
      refine awp_seq ?_
      refine awp_region_draw mixed rfl (.n (fun _ => op_move (.plain rfl)) (.n (fun _ => op_move (.plain rfl)) (.n (fun _ => op_indexAddrN Try.underlying24 Try.sizeOf3 (.plain rfl) (.plain rfl) (fun _ => rfl) ?_) (.n (fun _ => op_load Try.isAgg3 (.plain rfl)) (.n (fun _ => op_move (.plain rfl)) (.n (fun _ => op_move (.plain rfl)) (.n (fun _ => op_indexAddrN Try.underlying24 Try.sizeOf3 (.plain rfl) (.plain rfl) (fun _ => rfl) ?_) (.n (fun _ => op_load Try.isAgg3 (.plain rfl)) (.n (fun _ => op_neq (.plain rfl) (.plain rfl)) (.nil _)))))))))) ?d1 ?_
      · omega
      · omega
      · kernel_rfl
      refine awp_cond rfl (fun h => ?_) (fun h => ?_)
      · try simp only [decide_eq_true_eq, decide_eq_false_iff_not, Bool.and_eq_true, Bool.or_eq_true, Bool.and_eq_false_iff, Bool.or_eq_false_iff, Bool.not_eq_true', Bool.not_eq_false', Bool.not_eq_true, Bool.not_eq_false, Bool.true_eq_false, Bool.false_eq_true] at h
        refine awp_seq ?_
        refine awp_region rfl (.n (fun _ => op_assign (.plain rfl)) (.nil _)) ?_
        refine awp_ret ?_
        refine retQ.ret ?_
        refine ret1 rfl rfl rfl ?_
        rw [decide_eq_false (fun e => by subst e; simp at h)]
      · try simp only [decide_eq_true_eq, decide_eq_false_iff_not, Bool.and_eq_true, Bool.or_eq_true, Bool.and_eq_false_iff, Bool.or_eq_false_iff, Bool.not_eq_true', Bool.not_eq_false', Bool.not_eq_true, Bool.not_eq_false, Bool.true_eq_false, Bool.false_eq_true] at h
        refine awp_skip ?_
        refine awp_region rfl (.n (fun _ => op_move (.plain rfl)) (.n (fun _ => op_add (.plain rfl) (.plain rfl) ?_) (.n (fun _ => op_assign (.plain rfl)) (.nil _)))) ?_
        · unfold InR; omega
        refine ⟨k + 1, ⟨by omega, fun j hjk => ?_⟩, by dsimp only; omega, Ent.kept ⟨rfl, rfl, rfl, trivial⟩ trivial⟩
        by_cases e : j = k
        · subst e; simpa using h
        · exact hj j (by omega)
    · try simp only [decide_eq_true_eq, decide_eq_false_iff_not, Bool.and_eq_true, Bool.or_eq_true, Bool.and_eq_false_iff, Bool.or_eq_false_iff, Bool.not_eq_true', Bool.not_eq_false', Bool.not_eq_true, Bool.not_eq_false, Bool.true_eq_false, Bool.false_eq_true] at h
      refine awp_exit ?_
      refine awp_seq ?_
      refine awp_region rfl (.n (fun _ => op_assign (.plain rfl)) (.nil _)) ?_
      refine awp_ret ?_
      refine retQ.ret ?_
      refine ret1 rfl rfl rfl ?_
      rw [decide_eq_true (List.ext_getElem hlen fun j h1 h2 => by have := hj j (by omega); simpa [List.getD_eq_getElem?_getD, h1, h2] using this)]

theorem sameLists_fc (a b : List (List Int)) : FC Try.prog 14 [.rows a, .rows b] (.bool (decide (a = b))) := by
  refine FC.intro Try.func14 rfl (Nat.le_of_ble_eq_true rfl) fun hfit => ?_
  obtain ⟨fitl0, fitr0⟩ := (hfit _ (.head _)).rows
  obtain ⟨fitl1, fitr1⟩ := (hfit _ (.tail _ (.head _))).rows
  refine awp_seq ?_
  refine awp_region rfl (.n (fun _ => op_assign (.plain rfl)) (.nil _)) ?_
  refine awp_seq ?_
  refine awp_seq ?_
  refine awp_region rfl (.n (fun _ => op_move (.plain rfl)) (.n (fun _ => op_len (s := 0) Try.underlying22 (.plain rfl)) (.n (fun _ => op_move (.plain rfl)) (.n (fun _ => op_len (s := 0) Try.underlying22 (.plain rfl)) (.n (fun _ => op_neq (.plain rfl) (.plain rfl)) (.nil _)))))) ?_
  refine awp_cond rfl (fun h => ?_) (fun h => ?_)
  · try simp only [decide_eq_true_eq, decide_eq_false_iff_not, Bool.and_eq_true, Bool.or_eq_true, Bool.and_eq_false_iff, Bool.or_eq_false_iff, Bool.not_eq_true', Bool.not_eq_false', Bool.not_eq_true, Bool.not_eq_false, Bool.true_eq_false, Bool.false_eq_true] at h
    refine awp_seq ?_
    refine awp_region rfl (.n (fun _ => op_assign (.plain rfl)) (.nil _)) ?_
    refine awp_ret ?_
    refine retQ.ret ?_
    refine ret1 rfl rfl rfl ?_
    rw [decide_eq_false (fun e => by subst e; simp at h)]
  · try simp only [decide_eq_true_eq, decide_eq_false_iff_not, Bool.and_eq_true, Bool.or_eq_true, Bool.and_eq_false_iff, Bool.or_eq_false_iff, Bool.not_eq_true', Bool.not_eq_false', Bool.not_eq_true, Bool.not_eq_false, Bool.true_eq_false, Bool.false_eq_true] at h
    refine awp_skip ?_
    refine awp_seq ?_
    refine awp_seq ?_
    refine awp_region rfl (.n (fun _ => op_assign (.plain rfl)) (.nil _)) ?_
    refine awp_block ?_
    refine awp_loop (σ := Nat) (fun (k : Nat) => k ≤ a.length ∧ ∀ j, j < k → a.getD j [] = b.getD j []) (fun (k : Nat) => ⟨[(5, .int (k : Nat)), (0, .pv (.rows a)), (1, .pv (.rows b))], []⟩) (fun (k : Nat) => a.length - k) 0 ?_ (Ent.kept ⟨rfl, rfl, rfl, trivial⟩ trivial) ?_
    · exact ⟨Nat.zero_le _, fun j hj => absurd hj (Nat.not_lt_zero _)⟩
    rintro k hp
    try dsimp only at hp
    obtain ⟨hk, hj⟩ := hp
    have hlen : a.length = b.length := by omega
    refine awp_seq ?_
    refine awp_seq ?_
    refine awp_region rfl (.n (fun _ => op_move (.plain rfl)) (.n (fun _ => op_move (.plain rfl)) (.n (fun _ => op_len (s := 0) Try.underlying22 (.plain rfl)) (.n (fun _ => op_lss (.plain rfl) (.plain rfl)) (.nil _))))) ?_
    refine awp_cond rfl (fun h => ?_) (fun h => ?_)
    · try simp only [decide_eq_true_eq, decide_eq_false_iff_not, Bool.and_eq_true, Bool.or_eq_true, Bool.and_eq_false_iff, Bool.or_eq_false_iff, Bool.not_eq_true', Bool.not_eq_false', Bool.not_eq_true, Bool.not_eq_false, Bool.true_eq_false, Bool.false_eq_true] at h
      refine awp_skip ?_
      refine awp_seq ?_
      refine awp_block ?_
      refine awp_seq ?_
      refine awp_region_draw mixed rfl (.n (fun _ => op_move (.plain rfl)) (.n (fun _ => op_move (.plain rfl)) (.n (fun _ => op_indexAddrN Try.underlying22 Try.sizeOf24 (.plain rfl) (.plain rfl) (fun _ => rfl) ?_) (.n (fun _ => op_load Try.isAgg24 (.plain rfl)) (.n (fun _ => op_move (.plain rfl)) (.n (fun _ => op_move (.plain rfl)) (.n (fun _ => op_indexAddrN Try.underlying22 Try.sizeOf24 (.plain rfl) (.plain rfl) (fun _ => rfl) ?_) (.n (fun _ => op_load Try.isAgg24 (.plain rfl)) (.n (fun _ => op_call2 Try.call16 (.plain rfl) (.plain rfl) (sameInts_fc _ _)) (.n (fun _ => op_not (.plain rfl)) (.nil _))))))))))) ?d2 ?_
      · omega
      · omega
      · kernel_rfl
      refine awp_cond rfl (fun h => ?_) (fun h => ?_)
      · try simp only [decide_eq_true_eq, decide_eq_false_iff_not, Bool.and_eq_true, Bool.or_eq_true, Bool.and_eq_false_iff, Bool.or_eq_false_iff, Bool.not_eq_true', Bool.not_eq_false', Bool.not_eq_true, Bool.not_eq_false, Bool.true_eq_false, Bool.false_eq_true] at h
        refine awp_seq ?_
        refine awp_region rfl (.n (fun _ => op_assign (.plain rfl)) (.nil _)) ?_
        refine awp_ret ?_
        refine retQ.ret ?_
        refine ret1 rfl rfl rfl ?_
        rw [decide_eq_false (fun e => by subst e; exact h rfl)]
      · try simp only [decide_eq_true_eq, decide_eq_false_iff_not, Bool.and_eq_true, Bool.or_eq_true, Bool.and_eq_false_iff, Bool.or_eq_false_iff, Bool.not_eq_true', Bool.not_eq_false', Bool.not_eq_true, Bool.not_eq_false, Bool.true_eq_false, Bool.false_eq_true] at h
        refine awp_skip ?_
        refine awp_region rfl (.n (fun _ => op_move (.plain rfl)) (.n (fun _ => op_add (.plain rfl) (.plain rfl) ?_) (.n (fun _ => op_assign (.plain rfl)) (.nil _)))) ?_
        · unfold InR; omega
        refine ⟨k + 1, ⟨by omega, fun j hjk => ?_⟩, by dsimp only; omega, Ent.kept ⟨rfl, rfl, rfl, trivial⟩ trivial⟩
        by_cases e : j = k
        · subst e; exact h
        · exact hj j (by omega)
    · try simp only [decide_eq_true_eq, decide_eq_false_iff_not, Bool.and_eq_true, Bool.or_eq_true, Bool.and_eq_false_iff, Bool.or_eq_false_iff, Bool.not_eq_true', Bool.not_eq_false', Bool.not_eq_true, Bool.not_eq_false, Bool.true_eq_false, Bool.false_eq_true] at h
      refine awp_exit ?_
      refine awp_seq ?_
      refine awp_region rfl (.n (fun _ => op_assign (.plain rfl)) (.nil _)) ?_
      refine awp_ret ?_
      refine retQ.ret ?_
      refine ret1 rfl rfl rfl ?_
      rw [decide_eq_true (List.ext_getElem hlen fun j h1 h2 => by have := hj j (by omega); simpa only [List.getD_eq_getElem?_getD, List.getElem?_eq_getElem h1, List.getElem?_eq_getElem h2, Option.getD_some] using this)]

theorem clone_fc (l : List Int) (hl : l.length ≤ 1000000) : FCO Try.prog 33 [.ints l] 3 1 Int 0 (fun n => [.int .i64 n]) (l) := by
  refine FCO.intro Try.func33 rfl (Nat.le_of_ble_eq_true rfl) fun hfit => ?_
  obtain ⟨fitl0, fitr0⟩ := (hfit _ (.head _)).ints
  refine awp_seq ?_
  refine awp_region rfl (.n (fun _ => op_assign (.plain rfl)) (.nil _)) ?_
  refine awp_seq ?_
  refine awp_seq ?_
  refine awp_nilsplit 0 rfl (fun hnil => ?_) ?_
  · have _hs := trivial
    refine awp_region rfl (.n (fun _ => op_move (.plain rfl)) (.n (fun _ => op_nil_nil Try.underlying24 (.plain rfl)) (.nil _))) ?_
    refine awp_cond rfl (fun h => ?_) (fun h => ?_)
    · clear h
      refine awp_seq ?_
      refine awp_region rfl (.n (fun _ => op_assign (.plain rfl)) (.nil _)) ?_
      refine awp_ent (Ent.begin 2 5002 3 1 Int 0 (fun n => [.int .i64 n]) rfl rfl rfl) ?_
      refine awp_ret ?_
      refine retO.ret ?_
      refine retO1 rfl rfl rfl ?_
      exact hnil.symm
    · first | cases h | exact absurd h (by decide)
  · have _hs := trivial
    refine awp_region rfl (.n (fun _ => op_move (.plain rfl)) (.n (fun _ => op_nn_nil Try.underlying24 (.plain rfl)) (.nil _))) ?_
    refine awp_ent (Ent.denn 0 rfl) ?_
    refine awp_cond rfl (fun h => ?_) (fun h => ?_)
    · first | cases h | exact absurd h (by decide)
    · clear h
      refine awp_skip ?_
      refine awp_seq ?_
      refine awp_region rfl (.e (op_slitO (pp := []) (α := Int) (d := 0) (f := (fun n => [.int .i64 n])) 5 [] ety24 rfl trivial rfl (by decide) rfl (fun _ => rfl) rfl) rfl (.n (fun _ => op_move (.plain rfl)) (.e (op_append (id' := 7) (α := Int) (d := 0) (f := (fun n => [.int .i64 n])) ety24 Try.underlying24 (fun _ => rfl) (fun _ => rfl) (.plain rfl) rfl (.plain rfl) rfl ?_) rfl (.n (fun _ => op_assign (.plain rfl)) (.nil _))))) ?_
      · first | omega | (simp; omega)
      refine awp_ret ?_
      refine retO.ret ?_
      refine retO1 rfl rfl rfl ?_
      simp

theorem Turns_fc (v : List (List Int)) : FC Try.prog 11 [.rows v] (.tup [.ints (turnsRes v), .i (mayE v)]) := by
  refine FC.intro Try.func11 rfl (Nat.le_of_ble_eq_true rfl) fun hfit => ?_
  obtain ⟨fitl0, fitr0⟩ := (hfit _ (.head _)).rows
  refine awp_seq ?_
  refine awp_region rfl (.n (fun _ => op_assign (.plain rfl)) (.n (fun _ => op_assign (.plain rfl)) (.nil _))) ?_
  refine awp_seq ?_
  refine awp_seq ?_
  refine awp_region rfl (.n (fun _ => op_move (.plain rfl)) (.n (fun _ => op_call1 Try.call13 (.plain rfl) (May_fc _)) (.n (fun _ => op_assign (.plain rfl)) (.nil _)))) ?_
  refine awp_seq ?_
  refine awp_region rfl (.n (fun _ => op_move (.plain rfl)) (.n (fun _ => op_neq (.plain rfl) (.plain rfl)) (.nil _))) ?_
  refine awp_cond rfl (fun h => ?_) (fun h => ?_)
  · try simp only [decide_eq_true_eq, decide_eq_false_iff_not, Bool.and_eq_true, Bool.or_eq_true, Bool.and_eq_false_iff, Bool.or_eq_false_iff, Bool.not_eq_true', Bool.not_eq_false', Bool.not_eq_true, Bool.not_eq_false, Bool.true_eq_false, Bool.false_eq_true] at h
    refine awp_seq ?_
    refine awp_region rfl (.n (fun _ => op_move (.plain rfl)) (.n (fun _ => op_assign (.plain rfl)) (.n (fun _ => op_assign (.plain rfl)) (.nil _)))) ?_
    refine awp_ent (Ent.nilseq 2 Int 0 (fun n => [.int .i64 n]) rfl) ?_
    refine awp_ret ?_
    refine retQ.ret ?_
    refine ret2 rfl rfl rfl rfl rfl ?_
    exact turns_err h
  · try simp only [decide_eq_true_eq, decide_eq_false_iff_not, Bool.and_eq_true, Bool.or_eq_true, Bool.and_eq_false_iff, Bool.or_eq_false_iff, Bool.not_eq_true', Bool.not_eq_false', Bool.not_eq_true, Bool.not_eq_false, Bool.true_eq_false, Bool.false_eq_true] at h
    have hM := h
    have hV := val_of hM
    have hn1 := hV.n1
    have hn4 := hV.n4
    have hm8 := hV.m8
    refine awp_skip ?_
    refine awp_seq ?_
    refine awp_region rfl (.n (fun _ => op_move (.plain rfl)) (.e (op_callO (vals := [_]) 17 Try.call24 ⟨⟨_, (.plain rfl), rfl⟩, trivial⟩ (free_fc _ ?_) (by simp [PV.flat]) rfl) rfl (.n (fun _ => op_assign (.plain rfl)) (.nil _)))) ?_
    · assumption
    refine awp_seq ?_
    refine awp_seq ?_
    refine awp_region rfl (.n (fun _ => op_move (.plain rfl)) (.r (op_lenO Try.underlying24 (.plain rfl) rfl) (.n (fun _ => op_move (.plain rfl)) (.nil _)))) ?_
    refine awp_block ?_
    refine awp_loop (σ := Nat) (fun (k : Nat) => k ≤ mL v) (fun (k : Nat) => ⟨[(0, .pv (.rows v)), (5, .own 17), (19, .int (mL v : Nat)), (20, .int (k : Nat))], [(17, .arr 3 1 Int 0 (fun n => [.int .i64 n]) (turnS v k))]⟩) (fun (k : Nat) => mL v - k) 0 ?_ (Ent.kept ⟨rfl, rfl, (congrArg (fun n : Nat => some (SV.int (n : Int))) (mapr_length _ _)), rfl, trivial⟩ ⟨rfl, trivial⟩) ?_
    · exact Nat.zero_le _
    rintro k hp
    try dsimp only at hp
    have hk := hp
    have htl := turnS_length v k
    have hmod := Nat.mod_lt k (show 0 < v.length by omega)
    have hrow := hV.row _ hmod
    have hrow2 : (v.getD ((k % v.length : Nat) : Int).toNat []).length = mL v := hrow
    refine awp_seq ?_
    refine awp_region rfl (.n (fun _ => op_lss (.plain rfl) (.plain rfl)) (.nil _)) ?_
    refine awp_seq ?_
    refine awp_cond rfl (fun h => ?_) (fun h => ?_)
    · try simp only [decide_eq_true_eq, decide_eq_false_iff_not, Bool.and_eq_true, Bool.or_eq_true, Bool.and_eq_false_iff, Bool.or_eq_false_iff, Bool.not_eq_true', Bool.not_eq_false', Bool.not_eq_true, Bool.not_eq_false, Bool.true_eq_false, Bool.false_eq_true] at h
      refine awp_skip ?_
      refine awp_seq ?_
      refine awp_block ?_
      refine awp_seq ?_
      refine awp_region rfl (.n (fun _ => op_move (.plain rfl)) (.n (fun _ => op_assign (.plain rfl)) (.nil _))) ?_
      refine awp_seq ?_
      refine awp_region rfl (.n (fun _ => op_move (.plain rfl)) (.n (fun _ => op_move (.plain rfl)) (.n (fun _ => op_len (s := 0) Try.underlying22 (.plain rfl)) (.n (fun _ => op_rem (.plain rfl) (.plain rfl) ?_) (.n (fun _ => op_assign (.plain rfl)) (.n (fun _ => op_assign (.plain rfl)) (.nil _))))))) ?_
      · omega
      refine awp_seq ?_
      refine awp_seq ?_
      refine awp_region rfl (.n (fun _ => op_move (.plain rfl)) (.n (fun _ => op_move (.plain rfl)) (.n (fun _ => op_indexAddr Try.underlying22 Try.sizeOf24 (.plain rfl) (.plain rfl) (fun _ => rfl) ?_) (.n (fun _ => op_load Try.isAgg24 (.plain rfl)) (.n (fun _ => op_len (s := 0) Try.underlying24 (.plain rfl)) (.n (fun _ => op_move (.plain rfl)) (.nil _))))))) ?_
      · have := Nat.mod_lt k (show 0 < v.length by omega); omega
      refine awp_block ?_
      refine awp_loop (σ := Nat) (fun (g : Nat) => g ≤ mL v) (fun (g : Nat) => ⟨[(0, .pv (.rows v)), (5, .own 17), (7, .int ((k % v.length : Nat) : Int)), (8, .int (mxI (frB (turnS v k)) (rowF v (k % v.length)) g)), (19, .int (mL v : Nat)), (20, .int (k : Nat)), (30, .pv (.ints (v.getD (k % v.length) []))), (31, .int (mL v : Nat)), (32, .int (g : Nat))], [(17, .arr 3 1 Int 0 (fun n => [.int .i64 n]) (turnS v k))]⟩) (fun (g : Nat) => mL v - g) 0 ?_ (Ent.kept ⟨rfl, rfl, rfl, rfl, rfl, rfl, rfl, (congrArg (fun n : Nat => some (SV.int (n : Int))) hrow), rfl, trivial⟩ ⟨rfl, trivial⟩) ?_
      · exact Nat.zero_le _
      rintro g hp
      try dsimp only at hp
      have hg := hp
      refine awp_seq ?_
      refine awp_region rfl (.n (fun _ => op_lss (.plain rfl) (.plain rfl)) (.nil _)) ?_
      refine awp_seq ?_
      refine awp_cond rfl (fun h => ?_) (fun h => ?_)
      · try simp only [decide_eq_true_eq, decide_eq_false_iff_not, Bool.and_eq_true, Bool.or_eq_true, Bool.and_eq_false_iff, Bool.or_eq_false_iff, Bool.not_eq_true', Bool.not_eq_false', Bool.not_eq_true, Bool.not_eq_false, Bool.true_eq_false, Bool.false_eq_true] at h
        refine awp_skip ?_
        refine awp_seq ?_
        refine awp_block ?_
        refine awp_seq ?_
        refine awp_region rfl (.n (fun _ => op_move (.plain rfl)) (.n (fun _ => op_indexAddrN Try.underlying24 Try.sizeOf3 (.plain rfl) (.plain rfl) (fun _ => rfl) ?_) (.n (fun _ => op_load Try.isAgg3 (.plain rfl)) (.n (fun _ => op_assign (.plain rfl)) (.n (fun _ => op_assign (.plain rfl)) (.nil _)))))) ?_
        · omega
        refine awp_seq ?_
        refine awp_region rfl (.n (fun _ => op_move (.plain rfl)) (.n (fun _ => op_move (.plain rfl)) (.r (op_indexAddrON Try.underlying24 Try.sizeOf3 (.plain rfl) rfl (.plain rfl) ?_) (.r (op_loadE Try.isAgg3 (.plain rfl) rfl (fun _ => rfl) ?_ rfl) (.n (fun _ => op_lss (.plain rfl) (.plain rfl)) (.n (fun _ => op_move (.plain rfl)) (.gn rfl rfl (fun hg _ => op_move (.plain rfl)) (.gn rfl rfl (fun hg _ => op_lss (.opt rfl fun h => h) (.plain rfl)) (.gn rfl rfl (fun hg _ => op_move (.opt rfl fun h => h)) (.ggn rfl rfl (fun hg _ => op_move (.plain rfl)) (.ggn rfl rfl (fun hg _ => op_move (.plain rfl)) (.ggn rfl rfl (fun hg _ => op_move (.plain rfl)) (.ggn rfl rfl (fun hg _ => op_indexAddr Try.underlying22 Try.sizeOf24 (.opt rfl fun h => h) (.opt rfl fun h => h) (fun _ => rfl) ?_) (.ggn rfl rfl (fun hg _ => op_load Try.isAgg24 (.opt rfl fun h => h)) (.ggn rfl rfl (fun hg _ => op_move (.plain rfl)) (.ggn rfl rfl (fun hg _ => op_indexAddr Try.underlying24 Try.sizeOf3 (.opt rfl fun h => h) (.opt rfl fun h => h) (fun _ => rfl) ?_) (.ggn rfl rfl (fun hg _ => op_load Try.isAgg3 (.opt rfl fun h => h)) (.ggn rfl rfl (fun hg _ => op_gtr (.opt rfl fun h => h) (.opt rfl fun h => h)) (.gn rfl rfl (fun hg _ => op_or (.opt rfl fun h => h) (.plain rfl) (.plain rfl) (fun h => andI hg (eqF h))) (.n (fun _ => op_and (.plain rfl) (.plain rfl) (.plain rfl) (fun h => eqT h)) (.nil _))))))))))))))))))))) ?_
        · first | omega | (simp; omega)
        · first | omega | (simp; omega)
        · try simp only [beq_iff_eq, beq_true, beq_false, Bool.and_eq_true, decide_eq_true_eq, decide_eq_false_iff_not, Bool.not_eq_true', Bool.or_eq_true, Bool.or_eq_false_iff] at hg
          have := Nat.mod_lt k (show 0 < v.length by omega); omega
        · try simp only [beq_iff_eq, beq_true, beq_false, Bool.and_eq_true, decide_eq_true_eq, decide_eq_false_iff_not, Bool.not_eq_true', Bool.or_eq_true, Bool.or_eq_false_iff] at hg
          have := mxI_in (v := v) (give := turnS v k) (who := k % v.length) (g := g); have hr := hV.row (k % v.length) (Nat.mod_lt _ (by omega)); omega
        refine awp_cond rfl (fun h => ?_) (fun h => ?_)
        · try simp only [decide_eq_true_eq, decide_eq_false_iff_not, Bool.and_eq_true, Bool.or_eq_true, Bool.and_eq_false_iff, Bool.or_eq_false_iff, Bool.not_eq_true', Bool.not_eq_false', Bool.not_eq_true, Bool.not_eq_false, Bool.true_eq_false, Bool.false_eq_true] at h
          refine awp_region rfl (.n (fun _ => op_move (.plain rfl)) (.n (fun _ => op_assign (.plain rfl)) (.nil _))) ?_
          refine awp_region rfl (.n (fun _ => op_add (.plain rfl) (.plain rfl) ?_) (.n (fun _ => op_move (.plain rfl)) (.nil _))) ?_
          · unfold InR; omega
          exact ⟨g + 1, by omega, by dsimp only; omega, (Ent.kept ⟨rfl, rfl, rfl, (by first | exact (congrArg (fun n => some (SV.int n)) (mxI_yes h)) | exact (congrArg (fun n => some (SV.int n)) (mxI_no h))), rfl, rfl, rfl, rfl, rfl, trivial⟩ ⟨rfl, trivial⟩)⟩
        · try simp only [decide_eq_true_eq, decide_eq_false_iff_not, Bool.and_eq_true, Bool.or_eq_true, Bool.and_eq_false_iff, Bool.or_eq_false_iff, Bool.not_eq_true', Bool.not_eq_false', Bool.not_eq_true, Bool.not_eq_false, Bool.true_eq_false, Bool.false_eq_true] at h
          refine awp_skip ?_
          refine awp_region rfl (.n (fun _ => op_add (.plain rfl) (.plain rfl) ?_) (.n (fun _ => op_move (.plain rfl)) (.nil _))) ?_
          · unfold InR; omega
          exact ⟨g + 1, by omega, by dsimp only; omega, (Ent.kept ⟨rfl, rfl, rfl, (by first | exact (congrArg (fun n => some (SV.int n)) (mxI_yes h)) | exact (congrArg (fun n => some (SV.int n)) (mxI_no h))), rfl, rfl, rfl, rfl, rfl, trivial⟩ ⟨rfl, trivial⟩)⟩
      · try simp only [decide_eq_true_eq, decide_eq_false_iff_not, Bool.and_eq_true, Bool.or_eq_true, Bool.and_eq_false_iff, Bool.or_eq_false_iff, Bool.not_eq_true', Bool.not_eq_false', Bool.not_eq_true, Bool.not_eq_false, Bool.true_eq_false, Bool.false_eq_true] at h
        refine awp_exit ?_
        obtain rfl : g = mL v := by omega
        refine awp_region rfl (.n (fun _ => op_move (.plain rfl)) (.n (fun _ => op_move (.plain rfl)) (.n (fun _ => op_move (.plain rfl)) (.r (op_indexAddrO Try.underlying24 Try.sizeOf3 (.plain rfl) rfl (.plain rfl) ?_) (.e (op_storeE _ Try.sizeOf3 (.plain rfl) (.plain rfl) rfl (fun _ => rfl) ?_ (by decide) rfl rfl) rfl (.nil _)))))) ?_
        · have hb := bestT_in (v := v) (k := k) (by omega) (k % v.length); unfold bestT at hb; have := turnS_length v k; omega
        · have hb := bestT_in (v := v) (k := k) (by omega) (k % v.length); unfold bestT at hb; have := turnS_length v k; omega
        refine awp_region rfl (.n (fun _ => op_add (.plain rfl) (.plain rfl) ?_) (.n (fun _ => op_move (.plain rfl)) (.nil _))) ?_
        · unfold InR; omega
        exact ⟨k + 1, by omega, by dsimp only; omega, (Ent.kept ⟨rfl, rfl, rfl, rfl, trivial⟩ ⟨rfl, trivial⟩)⟩
    · try simp only [decide_eq_true_eq, decide_eq_false_iff_not, Bool.and_eq_true, Bool.or_eq_true, Bool.and_eq_false_iff, Bool.or_eq_false_iff, Bool.not_eq_true', Bool.not_eq_false', Bool.not_eq_true, Bool.not_eq_false, Bool.true_eq_false, Bool.false_eq_true] at h
      refine awp_exit ?_
      refine awp_seq ?_
      refine awp_region rfl (.n (fun _ => op_move (.plain rfl)) (.n (fun _ => op_assign (.plain rfl)) (.n (fun _ => op_assign (.plain rfl)) (.nil _)))) ?_
      refine awp_ret ?_
      refine retQ.ret ?_
      refine ret2 rfl rfl rfl rfl rfl ?_
      exact turns_ok hM (by omega)

theorem ShareTurns_fc (v : List (List Int)) (hV : Val v) : FC Try.prog 17 [.rows v] (.ints (turnS v (mL v))) := by
  refine FC.intro Try.func17 rfl (Nat.le_of_ble_eq_true rfl) fun hfit => ?_
  obtain ⟨fitl0, fitr0⟩ := (hfit _ (.head _)).rows
  have hn1 := hV.n1
  have hn4 := hV.n4
  have hm8 := hV.m8
  refine awp_seq ?_
  refine awp_region rfl (.n (fun _ => op_assign (.plain rfl)) (.nil _)) ?_
  refine awp_seq ?_
  refine awp_region rfl (.n (fun _ => op_assign (.plain rfl)) (.nil _)) ?_
  refine awp_seq ?_
  refine awp_seq ?_
  refine awp_region rfl (.n (fun _ => op_assign (.plain rfl)) (.nil _)) ?_
  refine awp_block ?_
  refine awp_ent (Ent.begin 3 1003 3 1 Int 0 (fun n => [.int .i64 n]) rfl rfl rfl) ?_
  refine awp_loop (σ := Nat) (fun (k : Nat) => k ≤ mL v) (fun (k : Nat) => ⟨[(0, .pv (.rows v)), (3, .own 1003), (4, .int (k : Nat))], [(1003, .arr 3 1 Int 0 (fun n => [.int .i64 n]) (mapr k fun _ => -1))]⟩) (fun (k : Nat) => mL v - k) 0 ?_ (Ent.kept ⟨rfl, rfl, rfl, trivial⟩ ⟨rfl, trivial⟩) ?_
  · exact Nat.zero_le _
  rintro k hp
  try dsimp only at hp
  have hk := hp
  have e0 : (v.getD (Int.toNat 0) []).length = mL v := rfl
  refine awp_seq ?_
  refine awp_seq ?_
  refine awp_region rfl (.n (fun _ => op_move (.plain rfl)) (.n (fun _ => op_move (.plain rfl)) (.n (fun _ => op_indexAddr Try.underlying22 Try.sizeOf24 (.plain rfl) (.plain rfl) (fun _ => rfl) ?_) (.n (fun _ => op_load Try.isAgg24 (.plain rfl)) (.n (fun _ => op_len (s := 0) Try.underlying24 (.plain rfl)) (.n (fun _ => op_lss (.plain rfl) (.plain rfl)) (.nil _))))))) ?_
  · omega
  refine awp_cond rfl (fun h => ?_) (fun h => ?_)
  · try simp only [decide_eq_true_eq, decide_eq_false_iff_not, Bool.and_eq_true, Bool.or_eq_true, Bool.and_eq_false_iff, Bool.or_eq_false_iff, Bool.not_eq_true', Bool.not_eq_false', Bool.not_eq_true, Bool.not_eq_false, Bool.true_eq_false, Bool.false_eq_true] at h
    refine awp_skip ?_
    refine awp_seq ?_
    refine awp_block ?_
    refine awp_region rfl (.n (fun _ => op_move (.plain rfl)) (.n (fun _ => op_slit (pp := [(0, _)]) (α := Int) (d := 0) (f := (fun n => [.int .i64 n])) [_] ety24 rfl ⟨rfl, (.plain rfl), (by simp), trivial⟩ rfl (by decide) rfl) (.e (op_append (id' := 19) (α := Int) (d := 0) (f := (fun n => [.int .i64 n])) ety24 Try.underlying24 (fun _ => rfl) (fun _ => rfl) (.plain rfl) rfl (.plain rfl) rfl ?_) rfl (.n (fun _ => op_assign (.plain rfl)) (.nil _))))) ?_
    · first | omega | (simp; omega)
    refine awp_region rfl (.n (fun _ => op_move (.plain rfl)) (.n (fun _ => op_add (.plain rfl) (.plain rfl) ?_) (.n (fun _ => op_assign (.plain rfl)) (.nil _)))) ?_
    · unfold InR; omega
    exact ⟨k + 1, by omega, by dsimp only; omega, (Ent.round 19 1003 ⟨rfl, rfl, rfl, trivial⟩ ⟨(congrArg (fun l => some (Blk.arr 3 1 Int 0 (fun n => [.int .i64 n]) l)) ((mapr_succ k fun _ => (-1 : Int)).symm)), trivial⟩ rfl rfl rfl ⟨rfl, rfl, rfl, trivial⟩ ⟨rfl, trivial⟩)⟩
  · try simp only [decide_eq_true_eq, decide_eq_false_iff_not, Bool.and_eq_true, Bool.or_eq_true, Bool.and_eq_false_iff, Bool.or_eq_false_iff, Bool.not_eq_true', Bool.not_eq_false', Bool.not_eq_true, Bool.not_eq_false, Bool.true_eq_false, Bool.false_eq_true] at h
    refine awp_exit ?_
    refine awp_seq ?_
    refine awp_seq ?_
    obtain rfl : k = mL v := by have e : (v.getD (Int.toNat 0) []).length = mL v := rfl; omega
    refine awp_region rfl (.n (fun _ => op_assign (.plain rfl)) (.nil _)) ?_
    refine awp_block ?_
    refine awp_loop (σ := Nat) (fun (k : Nat) => k ≤ mL v) (fun (k : Nat) => ⟨[(0, .pv (.rows v)), (3, .own 1003), (5, .int (k : Nat))], [(1003, .arr 3 1 Int 0 (fun n => [.int .i64 n]) (turnS v k))]⟩) (fun (k : Nat) => mL v - k) 0 ?_ (Ent.kept ⟨rfl, rfl, rfl, trivial⟩ ⟨rfl, trivial⟩) ?_
    · exact Nat.zero_le _
    rintro k hp
    try dsimp only at hp
    have hk := hp
    have htl := turnS_length v k
    have hmod := Nat.mod_lt k (show 0 < v.length by omega)
    have hrow := hV.row _ hmod
    have hrow2 : (v.getD ((k % v.length : Nat) : Int).toNat []).length = mL v := hrow
    refine awp_seq ?_
    refine awp_seq ?_
    refine awp_region rfl (.n (fun _ => op_move (.plain rfl)) (.n (fun _ => op_move (.plain rfl)) (.r (op_lenO Try.underlying24 (.plain rfl) rfl) (.n (fun _ => op_lss (.plain rfl) (.plain rfl)) (.nil _))))) ?_
    refine awp_cond rfl (fun h => ?_) (fun h => ?_)
    · try simp only [decide_eq_true_eq, decide_eq_false_iff_not, Bool.and_eq_true, Bool.or_eq_true, Bool.and_eq_false_iff, Bool.or_eq_false_iff, Bool.not_eq_true', Bool.not_eq_false', Bool.not_eq_true, Bool.not_eq_false, Bool.true_eq_false, Bool.false_eq_true] at h
      refine awp_skip ?_
      refine awp_seq ?_
      refine awp_block ?_
      refine awp_seq ?_
      refine awp_region rfl (.n (fun _ => op_move (.plain rfl)) (.n (fun _ => op_move (.plain rfl)) (.n (fun _ => op_len (s := 0) Try.underlying22 (.plain rfl)) (.n (fun _ => op_rem (.plain rfl) (.plain rfl) ?_) (.n (fun _ => op_assign (.plain rfl)) (.nil _)))))) ?_
      · omega
      refine awp_seq ?_
      refine awp_region rfl (.n (fun _ => op_assign (.plain rfl)) (.nil _)) ?_
      refine awp_seq ?_
      refine awp_seq ?_
      refine awp_region rfl (.n (fun _ => op_move (.plain rfl)) (.r (op_lenO Try.underlying24 (.plain rfl) rfl) (.n (fun _ => op_sub (.plain rfl) (.plain rfl) ?_) (.n (fun _ => op_assign (.plain rfl)) (.nil _))))) ?_
      · have := turnS_length v k; unfold InR; omega
      refine awp_block ?_
      refine awp_loop (σ := Nat) (fun (c : Nat) => c ≤ mL v) (fun (c : Nat) => ⟨[(0, .pv (.rows v)), (3, .own 1003), (5, .int (k : Nat)), (6, .int ((k % v.length : Nat) : Int)), (7, .int (mxD (frB (turnS v k)) (rowF v (k % v.length)) (mL v) c)), (8, .int ((mL v : Nat) - 1 - (c : Nat)))], [(1003, .arr 3 1 Int 0 (fun n => [.int .i64 n]) (turnS v k))]⟩) (fun (c : Nat) => mL v - c) 0 ?_ (Ent.kept ⟨rfl, rfl, rfl, rfl, rfl, (congrArg (fun n => some (SV.int n)) (by have := turnS_length v k; omega)), trivial⟩ ⟨rfl, trivial⟩) ?_
      · exact Nat.zero_le _
      rintro c hp
      try dsimp only at hp
      have hc := hp
      refine awp_seq ?_
      refine awp_seq ?_
      refine awp_region rfl (.n (fun _ => op_move (.plain rfl)) (.n (fun _ => op_geq (.plain rfl) (.plain rfl)) (.nil _))) ?_
      refine awp_cond rfl (fun h => ?_) (fun h => ?_)
      · try simp only [decide_eq_true_eq, decide_eq_false_iff_not, Bool.and_eq_true, Bool.or_eq_true, Bool.and_eq_false_iff, Bool.or_eq_false_iff, Bool.not_eq_true', Bool.not_eq_false', Bool.not_eq_true, Bool.not_eq_false, Bool.true_eq_false, Bool.false_eq_true] at h
        refine awp_skip ?_
        refine awp_seq ?_
        refine awp_block ?_
        refine awp_seq ?_
        refine awp_region_draw mixed rfl (.n (fun _ => op_move (.plain rfl)) (.n (fun _ => op_move (.plain rfl)) (.r (op_indexAddrO Try.underlying24 Try.sizeOf3 (.plain rfl) rfl (.plain rfl) ?_) (.r (op_loadE Try.isAgg3 (.plain rfl) rfl (fun _ => rfl) ?_ rfl) (.n (fun _ => op_lss (.plain rfl) (.plain rfl)) (.n (fun _ => op_move (.plain rfl)) (.gn rfl rfl (fun hg _ => op_move (.plain rfl)) (.gn rfl rfl (fun hg _ => op_lss (.opt rfl fun h => h) (.plain rfl)) (.gn rfl rfl (fun hg _ => op_move (.opt rfl fun h => h)) (.ggn rfl rfl (fun hg _ => op_move (.plain rfl)) (.ggn rfl rfl (fun hg _ => op_move (.plain rfl)) (.ggn rfl rfl (fun hg _ => op_indexAddr Try.underlying22 Try.sizeOf24 (.opt rfl fun h => h) (.opt rfl fun h => h) (fun _ => rfl) ?_) (.ggn rfl rfl (fun hg _ => op_load Try.isAgg24 (.opt rfl fun h => h)) (.ggn rfl rfl (fun hg _ => op_move (.plain rfl)) (.ggn rfl rfl (fun hg _ => op_indexAddr Try.underlying24 Try.sizeOf3 (.opt rfl fun h => h) (.opt rfl fun h => h) (fun _ => rfl) ?_) (.ggn rfl rfl (fun hg _ => op_load Try.isAgg3 (.opt rfl fun h => h)) (.ggn rfl rfl (fun hg _ => op_move (.plain rfl)) (.ggn rfl rfl (fun hg _ => op_move (.plain rfl)) (.ggn rfl rfl (fun hg _ => op_indexAddr Try.underlying22 Try.sizeOf24 (.opt rfl fun h => h) (.opt rfl fun h => h) (fun _ => rfl) ?_) (.ggn rfl rfl (fun hg _ => op_load Try.isAgg24 (.opt rfl fun h => h)) (.ggn rfl rfl (fun hg _ => op_move (.plain rfl)) (.ggn rfl rfl (fun hg _ => op_indexAddr Try.underlying24 Try.sizeOf3 (.opt rfl fun h => h) (.opt rfl fun h => h) (fun _ => rfl) ?_) (.ggn rfl rfl (fun hg _ => op_load Try.isAgg3 (.opt rfl fun h => h)) (.ggn rfl rfl (fun hg _ => op_geq (.opt rfl fun h => h) (.opt rfl fun h => h)) (.gn rfl rfl (fun hg _ => op_or (.opt rfl fun h => h) (.plain rfl) (.plain rfl) (fun h => andI hg (eqF h))) (.n (fun _ => op_and (.plain rfl) (.plain rfl) (.plain rfl) (fun h => eqT h)) (.nil _))))))))))))))))))))))))))) ?d3 ?_
        · have := turnS_length v k; omega
        · first | omega | (simp; omega)
        · try simp only [beq_iff_eq, beq_true, beq_false, Bool.and_eq_true, decide_eq_true_eq, decide_eq_false_iff_not, Bool.not_eq_true', Bool.or_eq_true, Bool.or_eq_false_iff] at hg
          omega
        · try simp only [beq_iff_eq, beq_true, beq_false, Bool.and_eq_true, decide_eq_true_eq, decide_eq_false_iff_not, Bool.not_eq_true', Bool.or_eq_true, Bool.or_eq_false_iff] at hg
          omega
        · try simp only [beq_iff_eq, beq_true, beq_false, Bool.and_eq_true, decide_eq_true_eq, decide_eq_false_iff_not, Bool.not_eq_true', Bool.or_eq_true, Bool.or_eq_false_iff] at hg
          omega
        · try simp only [beq_iff_eq, beq_true, beq_false, Bool.and_eq_true, decide_eq_true_eq, decide_eq_false_iff_not, Bool.not_eq_true', Bool.or_eq_true, Bool.or_eq_false_iff] at hg
          have := mxD_in (v := v) (give := turnS v k) (who := k % v.length) (n := mL v) (c := c) (by omega); omega
        · kernel_rfl
        refine awp_cond rfl (fun h => ?_) (fun h => ?_)
        · try simp only [decide_eq_true_eq, decide_eq_false_iff_not, Bool.and_eq_true, Bool.or_eq_true, Bool.and_eq_false_iff, Bool.or_eq_false_iff, Bool.not_eq_true', Bool.not_eq_false', Bool.not_eq_true, Bool.not_eq_false, Bool.true_eq_false, Bool.false_eq_true] at h
          refine awp_region rfl (.n (fun _ => op_move (.plain rfl)) (.n (fun _ => op_assign (.plain rfl)) (.nil _))) ?_
          refine awp_region rfl (.n (fun _ => op_move (.plain rfl)) (.n (fun _ => op_sub (.plain rfl) (.plain rfl) ?_) (.n (fun _ => op_assign (.plain rfl)) (.nil _)))) ?_
          · unfold InR; omega
          exact ⟨c + 1, by omega, by dsimp only; omega, (Ent.kept ⟨rfl, rfl, rfl, rfl, (by first | exact (congrArg (fun n => some (SV.int n)) (mxD_yes (by omega) h)) | exact (congrArg (fun n => some (SV.int n)) (mxD_no (by omega) h))), (congrArg (fun n => some (SV.int n)) (by omega)), trivial⟩ ⟨rfl, trivial⟩)⟩
        · try simp only [decide_eq_true_eq, decide_eq_false_iff_not, Bool.and_eq_true, Bool.or_eq_true, Bool.and_eq_false_iff, Bool.or_eq_false_iff, Bool.not_eq_true', Bool.not_eq_false', Bool.not_eq_true, Bool.not_eq_false, Bool.true_eq_false, Bool.false_eq_true] at h
          refine awp_skip ?_
          refine awp_region rfl (.n (fun _ => op_move (.plain rfl)) (.n (fun _ => op_sub (.plain rfl) (.plain rfl) ?_) (.n (fun _ => op_assign (.plain rfl)) (.nil _)))) ?_
          · unfold InR; omega
          exact ⟨c + 1, by omega, by dsimp only; omega, (Ent.kept ⟨rfl, rfl, rfl, rfl, (by first | exact (congrArg (fun n => some (SV.int n)) (mxD_yes (by omega) h)) | exact (congrArg (fun n => some (SV.int n)) (mxD_no (by omega) h))), (congrArg (fun n => some (SV.int n)) (by omega)), trivial⟩ ⟨rfl, trivial⟩)⟩
      · try simp only [decide_eq_true_eq, decide_eq_false_iff_not, Bool.and_eq_true, Bool.or_eq_true, Bool.and_eq_false_iff, Bool.or_eq_false_iff, Bool.not_eq_true', Bool.not_eq_false', Bool.not_eq_true, Bool.not_eq_false, Bool.true_eq_false, Bool.false_eq_true] at h
        refine awp_exit ?_
        obtain rfl : c = mL v := by omega
        refine awp_region rfl (.n (fun _ => op_move (.plain rfl)) (.n (fun _ => op_move (.plain rfl)) (.n (fun _ => op_move (.plain rfl)) (.r (op_indexAddrO Try.underlying24 Try.sizeOf3 (.plain rfl) rfl (.plain rfl) ?_) (.e (op_storeE _ Try.sizeOf3 (.plain rfl) (.plain rfl) rfl (fun _ => rfl) ?_ (by decide) rfl rfl) rfl (.nil _)))))) ?_
        · have hb := bestD_in (v := v) (k := k) (by omega) (k % v.length); have := turnS_length v k; omega
        · have hb := bestD_in (v := v) (k := k) (by omega) (k % v.length); have := turnS_length v k; omega
        refine awp_region rfl (.n (fun _ => op_move (.plain rfl)) (.n (fun _ => op_add (.plain rfl) (.plain rfl) ?_) (.n (fun _ => op_assign (.plain rfl)) (.nil _)))) ?_
        · unfold InR; omega
        exact ⟨k + 1, by omega, by dsimp only; omega, (Ent.kept ⟨rfl, rfl, rfl, trivial⟩ ⟨(congrArg (fun l => some (Blk.arr 3 1 Int 0 (fun n => [.int .i64 n]) l)) (turnD_set)), trivial⟩)⟩
    · try simp only [decide_eq_true_eq, decide_eq_false_iff_not, Bool.and_eq_true, Bool.or_eq_true, Bool.and_eq_false_iff, Bool.or_eq_false_iff, Bool.not_eq_true', Bool.not_eq_false', Bool.not_eq_true, Bool.not_eq_false, Bool.true_eq_false, Bool.false_eq_true] at h
      refine awp_exit ?_
      refine awp_seq ?_
      refine awp_region rfl (.n (fun _ => op_move (.plain rfl)) (.n (fun _ => op_assign (.plain rfl)) (.nil _))) ?_
      refine awp_ret ?_
      refine retQ.ret ?_
      refine ret1 rfl rfl rfl ?_
      obtain rfl : k = mL v := by omega
      rfl

theorem gift_fc (v : List (List Int)) (give : List Int) : FC Try.prog 28 [.rows v, .ints give] (.i (giftE v give)) := by
  refine FC.intro Try.func28 rfl (Nat.le_of_ble_eq_true rfl) fun hfit => ?_
  obtain ⟨fitl0, fitr0⟩ := (hfit _ (.head _)).rows
  obtain ⟨fitl1, fitr1⟩ := (hfit _ (.tail _ (.head _))).ints
  have hgl := fitl1
  refine awp_seq ?_
  refine awp_region rfl (.n (fun _ => op_assign (.plain rfl)) (.nil _)) ?_
  refine awp_seq ?_
  refine awp_seq ?_
  refine awp_region rfl (.n (fun _ => op_move (.plain rfl)) (.n (fun _ => op_call1 Try.call13 (.plain rfl) (May_fc _)) (.n (fun _ => op_assign (.plain rfl)) (.nil _)))) ?_
  refine awp_seq ?_
  refine awp_region rfl (.n (fun _ => op_move (.plain rfl)) (.n (fun _ => op_neq (.plain rfl) (.plain rfl)) (.nil _))) ?_
  refine awp_cond rfl (fun h => ?_) (fun h => ?_)
  · try simp only [decide_eq_true_eq, decide_eq_false_iff_not, Bool.and_eq_true, Bool.or_eq_true, Bool.and_eq_false_iff, Bool.or_eq_false_iff, Bool.not_eq_true', Bool.not_eq_false', Bool.not_eq_true, Bool.not_eq_false, Bool.true_eq_false, Bool.false_eq_true] at h
    refine awp_seq ?_
    refine awp_region rfl (.n (fun _ => op_move (.plain rfl)) (.n (fun _ => op_assign (.plain rfl)) (.nil _))) ?_
    refine awp_ret ?_
    refine retQ.ret ?_
    refine ret1 rfl rfl rfl ?_
    exact congrArg PV.i ((giftE_m h).symm)
  · try simp only [decide_eq_true_eq, decide_eq_false_iff_not, Bool.and_eq_true, Bool.or_eq_true, Bool.and_eq_false_iff, Bool.or_eq_false_iff, Bool.not_eq_true', Bool.not_eq_false', Bool.not_eq_true, Bool.not_eq_false, Bool.true_eq_false, Bool.false_eq_true] at h
    have hM := h
    have hV := val_of hM
    have hn1 := hV.n1
    have hn4 := hV.n4
    have hm8 := hV.m8
    refine awp_skip ?_
    refine awp_seq ?_
    refine awp_seq ?_
    refine awp_region rfl (.n (fun _ => op_move (.plain rfl)) (.n (fun _ => op_len (s := 0) Try.underlying24 (.plain rfl)) (.n (fun _ => op_move (.plain rfl)) (.n (fun _ => op_indexAddr Try.underlying22 Try.sizeOf24 (.plain rfl) (.plain rfl) (fun _ => rfl) ?_) (.n (fun _ => op_load Try.isAgg24 (.plain rfl)) (.n (fun _ => op_len (s := 0) Try.underlying24 (.plain rfl)) (.n (fun _ => op_neq (.plain rfl) (.plain rfl)) (.nil _)))))))) ?_
    · omega
    refine awp_cond rfl (fun h => ?_) (fun h => ?_)
    · try simp only [decide_eq_true_eq, decide_eq_false_iff_not, Bool.and_eq_true, Bool.or_eq_true, Bool.and_eq_false_iff, Bool.or_eq_false_iff, Bool.not_eq_true', Bool.not_eq_false', Bool.not_eq_true, Bool.not_eq_false, Bool.true_eq_false, Bool.false_eq_true] at h
      have h7 : ¬ (give.length : Int) = (mL v : Nat) := fun c => h c
      refine awp_seq ?_
      refine awp_region rfl (.n (fun _ => op_assign (.plain rfl)) (.nil _)) ?_
      refine awp_ret ?_
      refine retQ.ret ?_
      refine ret1 rfl rfl rfl ?_
      exact congrArg PV.i ((giftE_7 hM h7).symm)
    · try simp only [decide_eq_true_eq, decide_eq_false_iff_not, Bool.and_eq_true, Bool.or_eq_true, Bool.and_eq_false_iff, Bool.or_eq_false_iff, Bool.not_eq_true', Bool.not_eq_false', Bool.not_eq_true, Bool.not_eq_false, Bool.true_eq_false, Bool.false_eq_true] at h
      have hGl : (give.length : Int) = (mL v : Nat) := h
      refine awp_skip ?_
      refine awp_seq ?_
      refine awp_seq ?_
      refine awp_region rfl (.n (fun _ => op_move (.plain rfl)) (.n (fun _ => op_len (s := 0) Try.underlying24 (.plain rfl)) (.n (fun _ => op_move (.plain rfl)) (.nil _)))) ?_
      refine awp_block ?_
      refine awp_loop (σ := Nat) (fun (j : Nat) => j ≤ give.length ∧ firstE (giB v give) j = 0) (fun (j : Nat) => ⟨[(0, .pv (.rows v)), (20, .pv (.ints give)), (21, .int (give.length : Nat)), (22, .int (j : Nat))], []⟩) (fun (j : Nat) => give.length - j) 0 ?_ (Ent.kept ⟨rfl, rfl, rfl, rfl, trivial⟩ trivial) ?_
      · exact ⟨Nat.zero_le _, rfl⟩
      rintro j hp
      try dsimp only at hp
      obtain ⟨hj, hE⟩ := hp
      refine awp_seq ?_
      refine awp_region rfl (.n (fun _ => op_lss (.plain rfl) (.plain rfl)) (.nil _)) ?_
      refine awp_seq ?_
      refine awp_cond rfl (fun h => ?_) (fun h => ?_)
      · try simp only [decide_eq_true_eq, decide_eq_false_iff_not, Bool.and_eq_true, Bool.or_eq_true, Bool.and_eq_false_iff, Bool.or_eq_false_iff, Bool.not_eq_true', Bool.not_eq_false', Bool.not_eq_true, Bool.not_eq_false, Bool.true_eq_false, Bool.false_eq_true] at h
        refine awp_skip ?_
        refine awp_seq ?_
        refine awp_block ?_
        refine awp_seq ?_
        refine awp_region rfl (.n (fun _ => op_indexAddrN Try.underlying24 Try.sizeOf3 (.plain rfl) (.plain rfl) (fun _ => rfl) ?_) (.n (fun _ => op_load Try.isAgg3 (.plain rfl)) (.n (fun _ => op_assign (.plain rfl)) (.nil _)))) ?_
        · omega
        refine awp_seq ?_
        refine awp_region rfl (.n (fun _ => op_move (.plain rfl)) (.n (fun _ => op_lss (.plain rfl) (.plain rfl)) (.n (fun _ => op_move (.plain rfl)) (.gn rfl rfl (fun hg _ => op_move (.plain rfl)) (.gn rfl rfl (fun hg _ => op_move (.plain rfl)) (.gn rfl rfl (fun hg _ => op_len (s := 0) Try.underlying22 (.opt rfl fun h => h)) (.gn rfl rfl (fun hg _ => op_geq (.opt rfl fun h => h) (.opt rfl fun h => h)) (.n (fun _ => op_or (.plain rfl) (.plain rfl) (.plain rfl) (fun h => eqF h)) (.nil _))))))))) ?_
        refine awp_cond rfl (fun h => ?_) (fun h => ?_)
        · try simp only [decide_eq_true_eq, decide_eq_false_iff_not, Bool.and_eq_true, Bool.or_eq_true, Bool.and_eq_false_iff, Bool.or_eq_false_iff, Bool.not_eq_true', Bool.not_eq_false', Bool.not_eq_true, Bool.not_eq_false, Bool.true_eq_false, Bool.false_eq_true] at h
          refine awp_seq ?_
          refine awp_region rfl (.n (fun _ => op_assign (.plain rfl)) (.nil _)) ?_
          refine awp_ret ?_
          refine retQ.ret ?_
          refine ret1 rfl rfl rfl ?_
          exact congrArg PV.i ((giftE_8 hM hGl hE (by omega) (by omega)).symm)
        · try simp only [decide_eq_true_eq, decide_eq_false_iff_not, Bool.and_eq_true, Bool.or_eq_true, Bool.and_eq_false_iff, Bool.or_eq_false_iff, Bool.not_eq_true', Bool.not_eq_false', Bool.not_eq_true, Bool.not_eq_false, Bool.true_eq_false, Bool.false_eq_true] at h
          refine awp_skip ?_
          refine awp_region rfl (.n (fun _ => op_add (.plain rfl) (.plain rfl) ?_) (.n (fun _ => op_move (.plain rfl)) (.nil _))) ?_
          · unfold InR; omega
          exact ⟨j + 1, ⟨by omega, firstE_succ hE (if_neg (by omega))⟩, by dsimp only; omega, (Ent.kept ⟨rfl, rfl, rfl, rfl, trivial⟩ trivial)⟩
      · try simp only [decide_eq_true_eq, decide_eq_false_iff_not, Bool.and_eq_true, Bool.or_eq_true, Bool.and_eq_false_iff, Bool.or_eq_false_iff, Bool.not_eq_true', Bool.not_eq_false', Bool.not_eq_true, Bool.not_eq_false, Bool.true_eq_false, Bool.false_eq_true] at h
        refine awp_exit ?_
        refine awp_seq ?_
        refine awp_region rfl (.n (fun _ => op_assign (.plain rfl)) (.nil _)) ?_
        refine awp_ret ?_
        refine retQ.ret ?_
        refine ret1 rfl rfl rfl ?_
        exact congrArg PV.i ((giftE_0 hM hGl hE (by omega) (by omega)).symm)

theorem Envy2_fc (v : List (List Int)) (give : List Int) : FC Try.prog 12 [.rows v, .ints give] (.tup [.rows (envyRes v give), .i (giftE v give)]) := by
  refine FC.intro Try.func12 rfl (Nat.le_of_ble_eq_true rfl) fun hfit => ?_
  obtain ⟨fitl0, fitr0⟩ := (hfit _ (.head _)).rows
  obtain ⟨fitl1, fitr1⟩ := (hfit _ (.tail _ (.head _))).ints
  have hgl := fitl1
  refine awp_seq ?_
  refine awp_region rfl (.n (fun _ => op_assign (.plain rfl)) (.n (fun _ => op_assign (.plain rfl)) (.nil _))) ?_
  refine awp_seq ?_
  refine awp_seq ?_
  refine awp_region rfl (.n (fun _ => op_move (.plain rfl)) (.n (fun _ => op_move (.plain rfl)) (.n (fun _ => op_call2 Try.call28 (.plain rfl) (.plain rfl) (gift_fc _ _)) (.n (fun _ => op_assign (.plain rfl)) (.nil _))))) ?_
  refine awp_seq ?_
  refine awp_region rfl (.n (fun _ => op_move (.plain rfl)) (.n (fun _ => op_neq (.plain rfl) (.plain rfl)) (.nil _))) ?_
  refine awp_cond rfl (fun h => ?_) (fun h => ?_)
  · try simp only [decide_eq_true_eq, decide_eq_false_iff_not, Bool.and_eq_true, Bool.or_eq_true, Bool.and_eq_false_iff, Bool.or_eq_false_iff, Bool.not_eq_true', Bool.not_eq_false', Bool.not_eq_true, Bool.not_eq_false, Bool.true_eq_false, Bool.false_eq_true] at h
    refine awp_seq ?_
    refine awp_region rfl (.n (fun _ => op_move (.plain rfl)) (.n (fun _ => op_assign (.plain rfl)) (.n (fun _ => op_assign (.plain rfl)) (.nil _)))) ?_
    refine awp_ent (Ent.nilseq 4 (List Int) [] (fun r => [.seq Int 0 (fun n => [.int .i64 n]) r]) rfl) ?_
    refine awp_ret ?_
    refine retQ.ret ?_
    refine ret2 rfl rfl rfl rfl rfl ?_
    exact envy_err h rfl
  · try simp only [decide_eq_true_eq, decide_eq_false_iff_not, Bool.and_eq_true, Bool.or_eq_true, Bool.and_eq_false_iff, Bool.or_eq_false_iff, Bool.not_eq_true', Bool.not_eq_false', Bool.not_eq_true, Bool.not_eq_false, Bool.true_eq_false, Bool.false_eq_true] at h
    have hG := h
    obtain ⟨hM, hg, hin⟩ := gift_ok hG
    have hV := val_of hM
    have hn1 := hV.n1
    have hn4 := hV.n4
    have hm8 := hV.m8
    refine awp_skip ?_
    refine awp_seq ?_
    refine awp_region rfl (.n (fun _ => op_assign (.plain rfl)) (.nil _)) ?_
    refine awp_seq ?_
    refine awp_seq ?_
    refine awp_region rfl (.n (fun _ => op_move (.plain rfl)) (.n (fun _ => op_len (s := 0) Try.underlying22 (.plain rfl)) (.n (fun _ => op_move (.plain rfl)) (.nil _)))) ?_
    refine awp_block ?_
    refine awp_ent (Ent.begin 7 1007 24 1 (List Int) [] (fun r => [.seq Int 0 (fun n => [.int .i64 n]) r]) rfl rfl rfl) ?_
    refine awp_loop (σ := Nat) (fun (i : Nat) => i ≤ v.length) (fun (i : Nat) => ⟨[(0, .pv (.rows v)), (1, .pv (.ints give)), (7, .own 1007), (23, .int (v.length : Nat)), (24, .int (i : Nat))], [(1007, .arr 24 1 (List Int) [] (fun r => [.seq Int 0 (fun n => [.int .i64 n]) r]) (mapr i fun i => mapr v.length fun k => envF v give i k))]⟩) (fun (i : Nat) => v.length - i) 0 ?_ (Ent.kept ⟨rfl, rfl, rfl, rfl, rfl, trivial⟩ ⟨rfl, trivial⟩) ?_
    · exact Nat.zero_le _
    rintro i hp
    try dsimp only at hp
    have hi := hp
    refine awp_seq ?_
    refine awp_region rfl (.n (fun _ => op_lss (.plain rfl) (.plain rfl)) (.nil _)) ?_
    refine awp_seq ?_
    refine awp_cond rfl (fun h => ?_) (fun h => ?_)
    · try simp only [decide_eq_true_eq, decide_eq_false_iff_not, Bool.and_eq_true, Bool.or_eq_true, Bool.and_eq_false_iff, Bool.or_eq_false_iff, Bool.not_eq_true', Bool.not_eq_false', Bool.not_eq_true, Bool.not_eq_false, Bool.true_eq_false, Bool.false_eq_true] at h
      refine awp_skip ?_
      refine awp_seq ?_
      refine awp_block ?_
      refine awp_seq ?_
      refine awp_region rfl (.n (fun _ => op_move (.plain rfl)) (.n (fun _ => op_assign (.plain rfl)) (.nil _))) ?_
      refine awp_seq ?_
      refine awp_region rfl (.n (fun _ => op_assign (.plain rfl)) (.nil _)) ?_
      refine awp_seq ?_
      refine awp_seq ?_
      refine awp_region rfl (.n (fun _ => op_move (.plain rfl)) (.n (fun _ => op_len (s := 0) Try.underlying22 (.plain rfl)) (.n (fun _ => op_move (.plain rfl)) (.nil _)))) ?_
      refine awp_block ?_
      refine awp_ent (Ent.begin 9 1009 3 1 Int 0 (fun n => [.int .i64 n]) rfl rfl rfl) ?_
      refine awp_loop (σ := Nat) (fun (k : Nat) => k ≤ v.length) (fun (k : Nat) => ⟨[(0, .pv (.rows v)), (1, .pv (.ints give)), (7, .own 1007), (23, .int (v.length : Nat)), (24, .int (i : Nat)), (8, .int (i : Nat)), (9, .own 1009), (28, .int (v.length : Nat)), (29, .int (k : Nat))], [(1007, .arr 24 1 (List Int) [] (fun r => [.seq Int 0 (fun n => [.int .i64 n]) r]) (mapr i fun i => mapr v.length fun k => envF v give i k)), (1009, .arr 3 1 Int 0 (fun n => [.int .i64 n]) (mapr k fun k => envF v give i k))]⟩) (fun (k : Nat) => v.length - k) 0 ?_ (Ent.kept ⟨rfl, rfl, rfl, rfl, rfl, rfl, rfl, rfl, rfl, trivial⟩ ⟨rfl, rfl, trivial⟩) ?_
      · exact Nat.zero_le _
      rintro k hp
      try dsimp only at hp
      have hk := hp
      have hrow := hV.row i (by omega)
      refine awp_seq ?_
      refine awp_region rfl (.n (fun _ => op_lss (.plain rfl) (.plain rfl)) (.nil _)) ?_
      refine awp_seq ?_
      refine awp_cond rfl (fun h => ?_) (fun h => ?_)
      · try simp only [decide_eq_true_eq, decide_eq_false_iff_not, Bool.and_eq_true, Bool.or_eq_true, Bool.and_eq_false_iff, Bool.or_eq_false_iff, Bool.not_eq_true', Bool.not_eq_false', Bool.not_eq_true, Bool.not_eq_false, Bool.true_eq_false, Bool.false_eq_true] at h
        refine awp_skip ?_
        refine awp_seq ?_
        refine awp_block ?_
        refine awp_seq ?_
        refine awp_region rfl (.n (fun _ => op_move (.plain rfl)) (.n (fun _ => op_assign (.plain rfl)) (.nil _))) ?_
        refine awp_seq ?_
        refine awp_region rfl (.n (fun _ => op_move (.plain rfl)) (.n (fun _ => op_move (.plain rfl)) (.n (fun _ => op_move (.plain rfl)) (.n (fun _ => op_move (.plain rfl)) (.n (fun _ => op_call4 Try.call29 (.plain rfl) (.plain rfl) (.plain rfl) (.plain rfl) (has_fc _ _ _ _ ?_ ?_ ?_)) (.n (fun _ => op_move (.plain rfl)) (.n (fun _ => op_move (.plain rfl)) (.n (fun _ => op_move (.plain rfl)) (.n (fun _ => op_move (.plain rfl)) (.n (fun _ => op_call4 Try.call29 (.plain rfl) (.plain rfl) (.plain rfl) (.plain rfl) (has_fc _ _ _ _ ?_ ?_ ?_)) (.n (fun _ => op_assign (.plain rfl)) (.n (fun _ => op_assign (.plain rfl)) (.n (fun _ => op_assign (.plain rfl)) (.nil _)))))))))))))) ?_
        · assumption
        · assumption
        · omega
        · assumption
        · assumption
        · omega
        refine awp_seq ?_
        refine awp_seq ?_
        refine awp_region rfl (.n (fun _ => op_move (.plain rfl)) (.n (fun _ => op_len (s := 0) Try.underlying24 (.plain rfl)) (.n (fun _ => op_move (.plain rfl)) (.nil _)))) ?_
        refine awp_block ?_
        refine awp_loop (σ := Nat) (fun (g : Nat) => g ≤ give.length) (fun (g : Nat) => ⟨[(0, .pv (.rows v)), (1, .pv (.ints give)), (7, .own 1007), (23, .int (v.length : Nat)), (24, .int (i : Nat)), (8, .int (i : Nat)), (9, .own 1009), (10, .int (k : Nat)), (11, .int (hasF v give i i)), (12, .int (hasF v give i k)), (13, .int (mostTo v give i k g)), (28, .int (v.length : Nat)), (29, .int (k : Nat)), (42, .pv (.ints give)), (43, .int (give.length : Nat)), (44, .int (g : Nat))], [(1007, .arr 24 1 (List Int) [] (fun r => [.seq Int 0 (fun n => [.int .i64 n]) r]) (mapr i fun i => mapr v.length fun k => envF v give i k)), (1009, .arr 3 1 Int 0 (fun n => [.int .i64 n]) (mapr k fun k => envF v give i k))]⟩) (fun (g : Nat) => give.length - g) 0 ?_ (Ent.kept ⟨rfl, rfl, rfl, rfl, rfl, rfl, rfl, rfl, rfl, rfl, rfl, rfl, rfl, rfl, rfl, rfl, trivial⟩ ⟨rfl, rfl, trivial⟩) ?_
        · exact Nat.zero_le _
        rintro g hp
        try dsimp only at hp
        have hgl := hp
        refine awp_seq ?_
        refine awp_region rfl (.n (fun _ => op_lss (.plain rfl) (.plain rfl)) (.nil _)) ?_
        refine awp_seq ?_
        refine awp_cond rfl (fun h => ?_) (fun h => ?_)
        · try simp only [decide_eq_true_eq, decide_eq_false_iff_not, Bool.and_eq_true, Bool.or_eq_true, Bool.and_eq_false_iff, Bool.or_eq_false_iff, Bool.not_eq_true', Bool.not_eq_false', Bool.not_eq_true, Bool.not_eq_false, Bool.true_eq_false, Bool.false_eq_true] at h
          refine awp_skip ?_
          refine awp_seq ?_
          refine awp_block ?_
          refine awp_seq ?_
          refine awp_region rfl (.n (fun _ => op_move (.plain rfl)) (.n (fun _ => op_indexAddrN Try.underlying24 Try.sizeOf3 (.plain rfl) (.plain rfl) (fun _ => rfl) ?_) (.n (fun _ => op_load Try.isAgg3 (.plain rfl)) (.n (fun _ => op_assign (.plain rfl)) (.n (fun _ => op_assign (.plain rfl)) (.nil _)))))) ?_
          · omega
          refine awp_seq ?_
          refine awp_region rfl (.n (fun _ => op_move (.plain rfl)) (.n (fun _ => op_move (.plain rfl)) (.n (fun _ => op_eql (.plain rfl) (.plain rfl)) (.nil _)))) ?_
          refine awp_cond rfl (fun h => ?_) (fun h => ?_)
          · try simp only [decide_eq_true_eq, decide_eq_false_iff_not, Bool.and_eq_true, Bool.or_eq_true, Bool.and_eq_false_iff, Bool.or_eq_false_iff, Bool.not_eq_true', Bool.not_eq_false', Bool.not_eq_true, Bool.not_eq_false, Bool.true_eq_false, Bool.false_eq_true] at h
            refine awp_region rfl (.n (fun _ => op_move (.plain rfl)) (.n (fun _ => op_move (.plain rfl)) (.n (fun _ => op_move (.plain rfl)) (.n (fun _ => op_indexAddrN Try.underlying22 Try.sizeOf24 (.plain rfl) (.plain rfl) (fun _ => rfl) ?_) (.n (fun _ => op_load Try.isAgg24 (.plain rfl)) (.n (fun _ => op_move (.plain rfl)) (.n (fun _ => op_indexAddrN Try.underlying24 Try.sizeOf3 (.plain rfl) (.plain rfl) (fun _ => rfl) ?_) (.n (fun _ => op_load Try.isAgg3 (.plain rfl)) (.n (fun _ => op_max (.plain rfl) (.plain rfl)) (.n (fun _ => op_assign (.plain rfl)) (.nil _))))))))))) ?_
            · omega
            · omega
            refine awp_region rfl (.n (fun _ => op_add (.plain rfl) (.plain rfl) ?_) (.n (fun _ => op_move (.plain rfl)) (.nil _))) ?_
            · unfold InR; omega
            exact ⟨g + 1, by omega, by dsimp only; omega, (Ent.kept ⟨rfl, rfl, rfl, rfl, rfl, rfl, rfl, rfl, rfl, rfl, (by first | exact (congrArg (fun n => some (SV.int n)) (most_in h)) | exact (congrArg (fun n => some (SV.int n)) (most_out h))), rfl, rfl, rfl, rfl, rfl, trivial⟩ ⟨rfl, rfl, trivial⟩)⟩
          · try simp only [decide_eq_true_eq, decide_eq_false_iff_not, Bool.and_eq_true, Bool.or_eq_true, Bool.and_eq_false_iff, Bool.or_eq_false_iff, Bool.not_eq_true', Bool.not_eq_false', Bool.not_eq_true, Bool.not_eq_false, Bool.true_eq_false, Bool.false_eq_true] at h
            refine awp_skip ?_
            refine awp_region rfl (.n (fun _ => op_add (.plain rfl) (.plain rfl) ?_) (.n (fun _ => op_move (.plain rfl)) (.nil _))) ?_
            · unfold InR; omega
            exact ⟨g + 1, by omega, by dsimp only; omega, (Ent.kept ⟨rfl, rfl, rfl, rfl, rfl, rfl, rfl, rfl, rfl, rfl, (by first | exact (congrArg (fun n => some (SV.int n)) (most_in h)) | exact (congrArg (fun n => some (SV.int n)) (most_out h))), rfl, rfl, rfl, rfl, rfl, trivial⟩ ⟨rfl, rfl, trivial⟩)⟩
        · try simp only [decide_eq_true_eq, decide_eq_false_iff_not, Bool.and_eq_true, Bool.or_eq_true, Bool.and_eq_false_iff, Bool.or_eq_false_iff, Bool.not_eq_true', Bool.not_eq_false', Bool.not_eq_true, Bool.not_eq_false, Bool.true_eq_false, Bool.false_eq_true] at h
          refine awp_exit ?_
          refine awp_block ?_
          refine awp_seq ?_
          obtain rfl : g = give.length := by omega
          refine awp_region rfl (.n (fun _ => op_move (.plain rfl)) (.n (fun _ => op_move (.plain rfl)) (.n (fun _ => op_eql (.plain rfl) (.plain rfl)) (.n (fun _ => op_move (.plain rfl)) (.gn rfl rfl (fun hg _ => op_move (.plain rfl)) (.gn rfl rfl (fun hg _ => op_move (.plain rfl)) (.gn rfl rfl (fun hg _ => op_leq (.opt rfl fun h => h) (.opt rfl fun h => h)) (.n (fun _ => op_or (.plain rfl) (.plain rfl) (.plain rfl) (fun h => eqF h)) (.n (fun _ => op_assign (.plain rfl)) (.nil _)))))))))) ?_
          refine awp_cond rfl (fun h => ?_) (fun h => ?_)
          · try simp only [decide_eq_true_eq, decide_eq_false_iff_not, Bool.and_eq_true, Bool.or_eq_true, Bool.and_eq_false_iff, Bool.or_eq_false_iff, Bool.not_eq_true', Bool.not_eq_false', Bool.not_eq_true, Bool.not_eq_false, Bool.true_eq_false, Bool.false_eq_true] at h
            have h1 := h
            refine awp_region rfl (.n (fun _ => op_move (.plain rfl)) (.n (fun _ => op_slit (pp := [(0, _)]) (α := Int) (d := 0) (f := (fun n => [.int .i64 n])) [_] ety24 rfl ⟨rfl, (.plain rfl), (by simp), trivial⟩ rfl (by decide) rfl) (.e (op_append (id' := 76) (α := Int) (d := 0) (f := (fun n => [.int .i64 n])) ety24 Try.underlying24 (fun _ => rfl) (fun _ => rfl) (.plain rfl) rfl (.plain rfl) rfl ?_) rfl (.n (fun _ => op_assign (.plain rfl)) (.nil _))))) ?_
            · first | omega | (simp; omega)
            refine awp_region rfl (.n (fun _ => op_add (.plain rfl) (.plain rfl) ?_) (.n (fun _ => op_move (.plain rfl)) (.nil _))) ?_
            · unfold InR; omega
            exact ⟨k + 1, by omega, by dsimp only; omega, (Ent.round 76 1009 ⟨rfl, rfl, rfl, rfl, rfl, rfl, rfl, rfl, rfl, trivial⟩ ⟨rfl, (congrArg (fun l => some (Blk.arr 3 1 Int 0 (fun n => [.int .i64 n]) l)) (env_snoc (by first | exact envP0 h1 | exact envP1 (fun c => c.elim h1.1 h1.2) h2 | exact envP2 (fun c => c.elim h1.1 h1.2) h2))), trivial⟩ rfl rfl rfl ⟨rfl, rfl, rfl, rfl, rfl, rfl, rfl, rfl, rfl, trivial⟩ ⟨rfl, rfl, trivial⟩)⟩
          · try simp only [decide_eq_true_eq, decide_eq_false_iff_not, Bool.and_eq_true, Bool.or_eq_true, Bool.and_eq_false_iff, Bool.or_eq_false_iff, Bool.not_eq_true', Bool.not_eq_false', Bool.not_eq_true, Bool.not_eq_false, Bool.true_eq_false, Bool.false_eq_true] at h
            have h1 := h
            refine awp_seq ?_
            refine awp_region rfl (.n (fun _ => op_move (.plain rfl)) (.n (fun _ => op_move (.plain rfl)) (.n (fun _ => op_sub (.plain rfl) (.plain rfl) ?_) (.n (fun _ => op_move (.plain rfl)) (.n (fun _ => op_leq (.plain rfl) (.plain rfl)) (.n (fun _ => op_assign (.plain rfl)) (.nil _))))))) ?_
            · have hb := hasF_bd hV hg (who := (i : Int)) (other := (k : Int)) (by omega); have hb2 := mostTo_bd hV (give := give) (i := i) (k := k) (by omega) give.length (by omega); unfold InR; omega
            refine awp_cond rfl (fun h => ?_) (fun h => ?_)
            · try simp only [decide_eq_true_eq, decide_eq_false_iff_not, Bool.and_eq_true, Bool.or_eq_true, Bool.and_eq_false_iff, Bool.or_eq_false_iff, Bool.not_eq_true', Bool.not_eq_false', Bool.not_eq_true, Bool.not_eq_false, Bool.true_eq_false, Bool.false_eq_true] at h
              have h2 := h
              refine awp_region rfl (.n (fun _ => op_move (.plain rfl)) (.n (fun _ => op_slit (pp := [(0, _)]) (α := Int) (d := 0) (f := (fun n => [.int .i64 n])) [_] ety24 rfl ⟨rfl, (.plain rfl), (by simp), trivial⟩ rfl (by decide) rfl) (.e (op_append (id' := 85) (α := Int) (d := 0) (f := (fun n => [.int .i64 n])) ety24 Try.underlying24 (fun _ => rfl) (fun _ => rfl) (.plain rfl) rfl (.plain rfl) rfl ?_) rfl (.n (fun _ => op_assign (.plain rfl)) (.nil _))))) ?_
              · first | omega | (simp; omega)
              refine awp_region rfl (.n (fun _ => op_add (.plain rfl) (.plain rfl) ?_) (.n (fun _ => op_move (.plain rfl)) (.nil _))) ?_
              · unfold InR; omega
              exact ⟨k + 1, by omega, by dsimp only; omega, (Ent.round 85 1009 ⟨rfl, rfl, rfl, rfl, rfl, rfl, rfl, rfl, rfl, trivial⟩ ⟨rfl, (congrArg (fun l => some (Blk.arr 3 1 Int 0 (fun n => [.int .i64 n]) l)) (env_snoc (by first | exact envP0 h1 | exact envP1 (fun c => c.elim h1.1 h1.2) h2 | exact envP2 (fun c => c.elim h1.1 h1.2) h2))), trivial⟩ rfl rfl rfl ⟨rfl, rfl, rfl, rfl, rfl, rfl, rfl, rfl, rfl, trivial⟩ ⟨rfl, rfl, trivial⟩)⟩
            · try simp only [decide_eq_true_eq, decide_eq_false_iff_not, Bool.and_eq_true, Bool.or_eq_true, Bool.and_eq_false_iff, Bool.or_eq_false_iff, Bool.not_eq_true', Bool.not_eq_false', Bool.not_eq_true, Bool.not_eq_false, Bool.true_eq_false, Bool.false_eq_true] at h
              have h2 := h
              refine awp_region rfl (.n (fun _ => op_move (.plain rfl)) (.n (fun _ => op_slit (pp := [(0, _)]) (α := Int) (d := 0) (f := (fun n => [.int .i64 n])) [_] ety24 rfl ⟨rfl, (.plain rfl), (by simp), trivial⟩ rfl (by decide) rfl) (.e (op_append (id' := 64) (α := Int) (d := 0) (f := (fun n => [.int .i64 n])) ety24 Try.underlying24 (fun _ => rfl) (fun _ => rfl) (.plain rfl) rfl (.plain rfl) rfl ?_) rfl (.n (fun _ => op_assign (.plain rfl)) (.nil _))))) ?_
              · first | omega | (simp; omega)
              refine awp_region rfl (.n (fun _ => op_add (.plain rfl) (.plain rfl) ?_) (.n (fun _ => op_move (.plain rfl)) (.nil _))) ?_
              · unfold InR; omega
              exact ⟨k + 1, by omega, by dsimp only; omega, (Ent.round 64 1009 ⟨rfl, rfl, rfl, rfl, rfl, rfl, rfl, rfl, rfl, trivial⟩ ⟨rfl, (congrArg (fun l => some (Blk.arr 3 1 Int 0 (fun n => [.int .i64 n]) l)) (env_snoc (by first | exact envP0 h1 | exact envP1 (fun c => c.elim h1.1 h1.2) h2 | exact envP2 (fun c => c.elim h1.1 h1.2) h2))), trivial⟩ rfl rfl rfl ⟨rfl, rfl, rfl, rfl, rfl, rfl, rfl, rfl, rfl, trivial⟩ ⟨rfl, rfl, trivial⟩)⟩
      · try simp only [decide_eq_true_eq, decide_eq_false_iff_not, Bool.and_eq_true, Bool.or_eq_true, Bool.and_eq_false_iff, Bool.or_eq_false_iff, Bool.not_eq_true', Bool.not_eq_false', Bool.not_eq_true, Bool.not_eq_false, Bool.true_eq_false, Bool.false_eq_true] at h
        refine awp_exit ?_
        obtain rfl : k = v.length := by omega
        refine awp_ent (Ent.give 9 rfl rfl) ?_
        refine awp_region rfl (.n (fun _ => op_move (.plain rfl)) (.n (fun _ => op_move (.plain rfl)) (.n (fun _ => op_slit (pp := [(0, _)]) (α := (List Int)) (d := []) (f := (fun r => [.seq Int 0 (fun n => [.int .i64 n]) r])) [_] ety22 rfl ⟨rfl, (.plain rfl), (by simp), trivial⟩ rfl (by decide) rfl) (.e (op_append (id' := 90) (α := (List Int)) (d := []) (f := (fun r => [.seq Int 0 (fun n => [.int .i64 n]) r])) ety22 Try.underlying22 (fun _ => rfl) (fun _ => rfl) (.plain rfl) rfl (.plain rfl) rfl ?_) rfl (.n (fun _ => op_assign (.plain rfl)) (.nil _)))))) ?_
        · first | omega | (simp; omega)
        refine awp_region rfl (.n (fun _ => op_add (.plain rfl) (.plain rfl) ?_) (.n (fun _ => op_move (.plain rfl)) (.nil _))) ?_
        · unfold InR; omega
        exact ⟨i + 1, by omega, by dsimp only; omega, (Ent.round 90 1007 ⟨rfl, rfl, rfl, rfl, rfl, trivial⟩ ⟨(congrArg (fun l => some (Blk.arr 24 1 (List Int) [] (fun r => [.seq Int 0 (fun n => [.int .i64 n]) r]) l)) ((mapr_succ i fun i => mapr v.length fun k => envF v give i k).symm)), trivial⟩ rfl rfl rfl ⟨rfl, rfl, rfl, rfl, rfl, trivial⟩ ⟨rfl, trivial⟩)⟩
    · try simp only [decide_eq_true_eq, decide_eq_false_iff_not, Bool.and_eq_true, Bool.or_eq_true, Bool.and_eq_false_iff, Bool.or_eq_false_iff, Bool.not_eq_true', Bool.not_eq_false', Bool.not_eq_true, Bool.not_eq_false, Bool.true_eq_false, Bool.false_eq_true] at h
      refine awp_exit ?_
      refine awp_seq ?_
      refine awp_region rfl (.n (fun _ => op_move (.plain rfl)) (.n (fun _ => op_assign (.plain rfl)) (.n (fun _ => op_assign (.plain rfl)) (.nil _)))) ?_
      refine awp_ret ?_
      refine retQ.ret ?_
      refine ret2 rfl rfl rfl rfl rfl ?_
      exact envy_ok hG (by omega) (by omega)

theorem REnvy_fc (v : List (List Int)) (give : List Int) : FC Try.prog 9 [.rows v, .ints give] (.tup [.rows (envyRes v give), .i (giftE v give)]) := by
  refine FC.intro Try.func9 rfl (Nat.le_of_ble_eq_true rfl) fun hfit => ?_
  obtain ⟨fitl0, fitr0⟩ := (hfit _ (.head _)).rows
  obtain ⟨fitl1, fitr1⟩ := (hfit _ (.tail _ (.head _))).ints
  have hgl0 := fitl1
  refine awp_seq ?_
  refine awp_region rfl (.n (fun _ => op_assign (.plain rfl)) (.n (fun _ => op_assign (.plain rfl)) (.nil _))) ?_
  refine awp_seq ?_
  refine awp_region rfl (.n (fun _ => op_move (.plain rfl)) (.n (fun _ => op_call1 Try.call8 (.plain rfl) (ShareMay_fc _)) (.n (fun _ => op_assign (.plain rfl)) (.nil _)))) ?_
  refine awp_seq ?_
  refine awp_seq ?_
  refine awp_region rfl (.n (fun _ => op_move (.plain rfl)) (.n (fun _ => op_neq (.plain rfl) (.plain rfl)) (.nil _))) ?_
  refine awp_cond rfl (fun h => ?_) (fun h => ?_)
  · try simp only [decide_eq_true_eq, decide_eq_false_iff_not, Bool.and_eq_true, Bool.or_eq_true, Bool.and_eq_false_iff, Bool.or_eq_false_iff, Bool.not_eq_true', Bool.not_eq_false', Bool.not_eq_true, Bool.not_eq_false, Bool.true_eq_false, Bool.false_eq_true] at h
    refine awp_seq ?_
    refine awp_region rfl (.n (fun _ => op_move (.plain rfl)) (.n (fun _ => op_assign (.plain rfl)) (.n (fun _ => op_assign (.plain rfl)) (.nil _)))) ?_
    refine awp_ent (Ent.nilseq 4 (List Int) [] (fun r => [.seq Int 0 (fun n => [.int .i64 n]) r]) rfl) ?_
    refine awp_ret ?_
    refine retQ.ret ?_
    refine ret2 rfl rfl rfl rfl rfl ?_
    exact envy_err (by rw [giftE_m (give := give) h]; exact h) (giftE_m h).symm
  · try simp only [decide_eq_true_eq, decide_eq_false_iff_not, Bool.and_eq_true, Bool.or_eq_true, Bool.and_eq_false_iff, Bool.or_eq_false_iff, Bool.not_eq_true', Bool.not_eq_false', Bool.not_eq_true, Bool.not_eq_false, Bool.true_eq_false, Bool.false_eq_true] at h
    have hM := h
    have hV := val_of hM
    have hn1 := hV.n1
    have hn4 := hV.n4
    have hm8 := hV.m8
    refine awp_skip ?_
    refine awp_seq ?_
    refine awp_seq ?_
    refine awp_region rfl (.n (fun _ => op_move (.plain rfl)) (.n (fun _ => op_len (s := 0) Try.underlying24 (.plain rfl)) (.n (fun _ => op_move (.plain rfl)) (.n (fun _ => op_indexAddr Try.underlying22 Try.sizeOf24 (.plain rfl) (.plain rfl) (fun _ => rfl) ?_) (.n (fun _ => op_load Try.isAgg24 (.plain rfl)) (.n (fun _ => op_len (s := 0) Try.underlying24 (.plain rfl)) (.n (fun _ => op_neq (.plain rfl) (.plain rfl)) (.nil _)))))))) ?_
    · omega
    refine awp_cond rfl (fun h => ?_) (fun h => ?_)
    · try simp only [decide_eq_true_eq, decide_eq_false_iff_not, Bool.and_eq_true, Bool.or_eq_true, Bool.and_eq_false_iff, Bool.or_eq_false_iff, Bool.not_eq_true', Bool.not_eq_false', Bool.not_eq_true, Bool.not_eq_false, Bool.true_eq_false, Bool.false_eq_true] at h
      have h7 : ¬ (give.length : Int) = (mL v : Nat) := fun c => h c
      refine awp_seq ?_
      refine awp_region rfl (.n (fun _ => op_assign (.plain rfl)) (.n (fun _ => op_assign (.plain rfl)) (.nil _))) ?_
      refine awp_ent (Ent.nilseq 4 (List Int) [] (fun r => [.seq Int 0 (fun n => [.int .i64 n]) r]) rfl) ?_
      refine awp_ret ?_
      refine retQ.ret ?_
      refine ret2 rfl rfl rfl rfl rfl ?_
      exact envy_err (by rw [giftE_7 hM h7]; simp) (giftE_7 hM h7).symm
    · try simp only [decide_eq_true_eq, decide_eq_false_iff_not, Bool.and_eq_true, Bool.or_eq_true, Bool.and_eq_false_iff, Bool.or_eq_false_iff, Bool.not_eq_true', Bool.not_eq_false', Bool.not_eq_true, Bool.not_eq_false, Bool.true_eq_false, Bool.false_eq_true] at h
      have hg : give.length = mL v := by have e0 : (v.getD (Int.toNat 0) []).length = mL v := rfl; omega
      have hgl0 := hg
      have hGl : (give.length : Int) = (mL v : Nat) := by omega
      refine awp_skip ?_
      refine awp_seq ?_
      refine awp_seq ?_
      refine awp_region rfl (.n (fun _ => op_assign (.plain rfl)) (.nil _)) ?_
      refine awp_block ?_
      refine awp_loop (σ := Nat) (fun (g : Nat) => g ≤ give.length ∧ firstE (giB v give) g = 0) (fun (g : Nat) => ⟨[(0, .pv (.rows v)), (1, .pv (.ints give)), (7, .int (g : Nat))], []⟩) (fun (g : Nat) => give.length - g) 0 ?_ (Ent.kept ⟨rfl, rfl, rfl, trivial⟩ trivial) ?_
      · exact ⟨Nat.zero_le _, rfl⟩
      rintro g hp
      try dsimp only at hp
      obtain ⟨hgl, hE⟩ := hp
      refine awp_seq ?_
      refine awp_seq ?_
      refine awp_region rfl (.n (fun _ => op_move (.plain rfl)) (.n (fun _ => op_move (.plain rfl)) (.n (fun _ => op_len (s := 0) Try.underlying24 (.plain rfl)) (.n (fun _ => op_lss (.plain rfl) (.plain rfl)) (.nil _))))) ?_
      refine awp_cond rfl (fun h => ?_) (fun h => ?_)
      · try simp only [decide_eq_true_eq, decide_eq_false_iff_not, Bool.and_eq_true, Bool.or_eq_true, Bool.and_eq_false_iff, Bool.or_eq_false_iff, Bool.not_eq_true', Bool.not_eq_false', Bool.not_eq_true, Bool.not_eq_false, Bool.true_eq_false, Bool.false_eq_true] at h
        refine awp_skip ?_
        refine awp_seq ?_
        refine awp_block ?_
        refine awp_seq ?_
        refine awp_region rfl (.n (fun _ => op_move (.plain rfl)) (.n (fun _ => op_move (.plain rfl)) (.n (fun _ => op_indexAddrN Try.underlying24 Try.sizeOf3 (.plain rfl) (.plain rfl) (fun _ => rfl) ?_) (.n (fun _ => op_load Try.isAgg3 (.plain rfl)) (.n (fun _ => op_lss (.plain rfl) (.plain rfl)) (.n (fun _ => op_move (.plain rfl)) (.gn rfl rfl (fun hg _ => op_move (.plain rfl)) (.gn rfl rfl (fun hg _ => op_move (.plain rfl)) (.gn rfl rfl (fun hg _ => op_indexAddrN Try.underlying24 Try.sizeOf3 (.opt rfl fun h => h) (.opt rfl fun h => h) (fun _ => rfl) ?_) (.gn rfl rfl (fun hg _ => op_load Try.isAgg3 (.opt rfl fun h => h)) (.gn rfl rfl (fun hg _ => op_move (.plain rfl)) (.gn rfl rfl (fun hg _ => op_len (s := 0) Try.underlying22 (.opt rfl fun h => h)) (.gn rfl rfl (fun hg _ => op_geq (.opt rfl fun h => h) (.opt rfl fun h => h)) (.n (fun _ => op_or (.plain rfl) (.plain rfl) (.plain rfl) (fun h => eqF h)) (.nil _))))))))))))))) ?_
        · omega
        · try simp only [beq_iff_eq, beq_true, beq_false, Bool.and_eq_true, decide_eq_true_eq, decide_eq_false_iff_not, Bool.not_eq_true', Bool.or_eq_true, Bool.or_eq_false_iff] at hg
          omega
        refine awp_cond rfl (fun h => ?_) (fun h => ?_)
        · try simp only [decide_eq_true_eq, decide_eq_false_iff_not, Bool.and_eq_true, Bool.or_eq_true, Bool.and_eq_false_iff, Bool.or_eq_false_iff, Bool.not_eq_true', Bool.not_eq_false', Bool.not_eq_true, Bool.not_eq_false, Bool.true_eq_false, Bool.false_eq_true] at h
          refine awp_seq ?_
          refine awp_region rfl (.n (fun _ => op_assign (.plain rfl)) (.n (fun _ => op_assign (.plain rfl)) (.nil _))) ?_
          refine awp_ent (Ent.nilseq 4 (List Int) [] (fun r => [.seq Int 0 (fun n => [.int .i64 n]) r]) rfl) ?_
          refine awp_ret ?_
          refine retQ.ret ?_
          refine ret2 rfl rfl rfl rfl rfl ?_
          have e8 := giftE_8 hM hGl hE (by omega) (by omega)
          exact envy_err (by rw [e8]; simp) e8.symm
        · try simp only [decide_eq_true_eq, decide_eq_false_iff_not, Bool.and_eq_true, Bool.or_eq_true, Bool.and_eq_false_iff, Bool.or_eq_false_iff, Bool.not_eq_true', Bool.not_eq_false', Bool.not_eq_true, Bool.not_eq_false, Bool.true_eq_false, Bool.false_eq_true] at h
          refine awp_skip ?_
          refine awp_region rfl (.n (fun _ => op_move (.plain rfl)) (.n (fun _ => op_add (.plain rfl) (.plain rfl) ?_) (.n (fun _ => op_assign (.plain rfl)) (.nil _)))) ?_
          · unfold InR; omega
          exact ⟨g + 1, ⟨by omega, firstE_succ hE (if_neg (by omega))⟩, by dsimp only; omega, (Ent.kept ⟨rfl, rfl, rfl, trivial⟩ trivial)⟩
      · try simp only [decide_eq_true_eq, decide_eq_false_iff_not, Bool.and_eq_true, Bool.or_eq_true, Bool.and_eq_false_iff, Bool.or_eq_false_iff, Bool.not_eq_true', Bool.not_eq_false', Bool.not_eq_true, Bool.not_eq_false, Bool.true_eq_false, Bool.false_eq_true] at h
        refine awp_exit ?_
        refine awp_seq ?_
        refine awp_region rfl (.n (fun _ => op_assign (.plain rfl)) (.nil _)) ?_
        refine awp_seq ?_
        refine awp_seq ?_
        refine awp_region rfl (.n (fun _ => op_assign (.plain rfl)) (.nil _)) ?_
        refine awp_block ?_
        refine awp_ent (Ent.begin 8 1008 24 1 (List Int) [] (fun r => [.seq Int 0 (fun n => [.int .i64 n]) r]) rfl rfl rfl) ?_
        refine awp_loop (σ := Nat) (fun (i : Nat) => i ≤ v.length) (fun (i : Nat) => ⟨[(0, .pv (.rows v)), (1, .pv (.ints give)), (8, .own 1008), (9, .int (i : Nat))], [(1008, .arr 24 1 (List Int) [] (fun r => [.seq Int 0 (fun n => [.int .i64 n]) r]) (mapr i fun i => mapr v.length fun k => envF v give i k))]⟩) (fun (i : Nat) => v.length - i) 0 ?_ (Ent.kept ⟨rfl, rfl, rfl, rfl, trivial⟩ ⟨rfl, trivial⟩) ?_
        · exact Nat.zero_le _
        rintro i hp
        try dsimp only at hp
        have hi := hp
        refine awp_seq ?_
        refine awp_seq ?_
        refine awp_region rfl (.n (fun _ => op_move (.plain rfl)) (.n (fun _ => op_move (.plain rfl)) (.n (fun _ => op_len (s := 0) Try.underlying22 (.plain rfl)) (.n (fun _ => op_lss (.plain rfl) (.plain rfl)) (.nil _))))) ?_
        refine awp_cond rfl (fun h => ?_) (fun h => ?_)
        · try simp only [decide_eq_true_eq, decide_eq_false_iff_not, Bool.and_eq_true, Bool.or_eq_true, Bool.and_eq_false_iff, Bool.or_eq_false_iff, Bool.not_eq_true', Bool.not_eq_false', Bool.not_eq_true, Bool.not_eq_false, Bool.true_eq_false, Bool.false_eq_true] at h
          refine awp_skip ?_
          refine awp_seq ?_
          refine awp_block ?_
          refine awp_seq ?_
          refine awp_region rfl (.n (fun _ => op_assign (.plain rfl)) (.nil _)) ?_
          refine awp_seq ?_
          refine awp_seq ?_
          refine awp_region rfl (.n (fun _ => op_assign (.plain rfl)) (.nil _)) ?_
          refine awp_block ?_
          refine awp_ent (Ent.begin 10 1010 3 1 Int 0 (fun n => [.int .i64 n]) rfl rfl rfl) ?_
          refine awp_loop (σ := Nat) (fun (k : Nat) => k ≤ v.length) (fun (k : Nat) => ⟨[(0, .pv (.rows v)), (1, .pv (.ints give)), (8, .own 1008), (9, .int (i : Nat)), (10, .own 1010), (11, .int (k : Nat))], [(1008, .arr 24 1 (List Int) [] (fun r => [.seq Int 0 (fun n => [.int .i64 n]) r]) (mapr i fun i => mapr v.length fun k => envF v give i k)), (1010, .arr 3 1 Int 0 (fun n => [.int .i64 n]) (mapr k fun k => envF v give i k))]⟩) (fun (k : Nat) => v.length - k) 0 ?_ (Ent.kept ⟨rfl, rfl, rfl, rfl, rfl, rfl, trivial⟩ ⟨rfl, rfl, trivial⟩) ?_
          · exact Nat.zero_le _
          rintro k hp
          try dsimp only at hp
          have hk := hp
          have hrow := hV.row i (by omega)
          refine awp_seq ?_
          refine awp_seq ?_
          refine awp_region rfl (.n (fun _ => op_move (.plain rfl)) (.n (fun _ => op_move (.plain rfl)) (.n (fun _ => op_len (s := 0) Try.underlying22 (.plain rfl)) (.n (fun _ => op_lss (.plain rfl) (.plain rfl)) (.nil _))))) ?_
          refine awp_cond rfl (fun h => ?_) (fun h => ?_)
          · try simp only [decide_eq_true_eq, decide_eq_false_iff_not, Bool.and_eq_true, Bool.or_eq_true, Bool.and_eq_false_iff, Bool.or_eq_false_iff, Bool.not_eq_true', Bool.not_eq_false', Bool.not_eq_true, Bool.not_eq_false, Bool.true_eq_false, Bool.false_eq_true] at h
            refine awp_skip ?_
            refine awp_seq ?_
            refine awp_block ?_
            refine awp_seq ?_
            refine awp_region rfl (.n (fun _ => op_move (.plain rfl)) (.n (fun _ => op_move (.plain rfl)) (.n (fun _ => op_move (.plain rfl)) (.n (fun _ => op_move (.plain rfl)) (.n (fun _ => op_call4 Try.call23 (.plain rfl) (.plain rfl) (.plain rfl) (.plain rfl) (Has_fc _ _ _ _ ?_ ?_ ?_)) (.n (fun _ => op_assign (.plain rfl)) (.nil _))))))) ?_
            · assumption
            · assumption
            · omega
            refine awp_seq ?_
            refine awp_region rfl (.n (fun _ => op_move (.plain rfl)) (.n (fun _ => op_move (.plain rfl)) (.n (fun _ => op_move (.plain rfl)) (.n (fun _ => op_move (.plain rfl)) (.n (fun _ => op_call4 Try.call23 (.plain rfl) (.plain rfl) (.plain rfl) (.plain rfl) (Has_fc _ _ _ _ ?_ ?_ ?_)) (.n (fun _ => op_assign (.plain rfl)) (.nil _))))))) ?_
            · assumption
            · assumption
            · omega
            refine awp_seq ?_
            refine awp_region rfl (.n (fun _ => op_move (.plain rfl)) (.n (fun _ => op_assign (.plain rfl)) (.nil _))) ?_
            refine awp_seq ?_
            refine awp_seq ?_
            refine awp_region rfl (.n (fun _ => op_assign (.plain rfl)) (.nil _)) ?_
            refine awp_block ?_
            refine awp_loop (σ := Nat) (fun (g : Nat) => g ≤ give.length) (fun (g : Nat) => ⟨[(0, .pv (.rows v)), (1, .pv (.ints give)), (8, .own 1008), (9, .int (i : Nat)), (10, .own 1010), (11, .int (k : Nat)), (12, .int (hasF v give i i)), (13, .int (hasF v give i k)), (14, .int (lessTo v give i k g)), (15, .int (g : Nat))], [(1008, .arr 24 1 (List Int) [] (fun r => [.seq Int 0 (fun n => [.int .i64 n]) r]) (mapr i fun i => mapr v.length fun k => envF v give i k)), (1010, .arr 3 1 Int 0 (fun n => [.int .i64 n]) (mapr k fun k => envF v give i k))]⟩) (fun (g : Nat) => give.length - g) 0 ?_ (Ent.kept ⟨rfl, rfl, rfl, rfl, rfl, rfl, rfl, rfl, rfl, rfl, trivial⟩ ⟨rfl, rfl, trivial⟩) ?_
            · exact Nat.zero_le _
            rintro g hp
            try dsimp only at hp
            have hgl := hp
            refine awp_seq ?_
            refine awp_seq ?_
            refine awp_region rfl (.n (fun _ => op_move (.plain rfl)) (.n (fun _ => op_move (.plain rfl)) (.n (fun _ => op_len (s := 0) Try.underlying24 (.plain rfl)) (.n (fun _ => op_lss (.plain rfl) (.plain rfl)) (.nil _))))) ?_
            refine awp_cond rfl (fun h => ?_) (fun h => ?_)
            · try simp only [decide_eq_true_eq, decide_eq_false_iff_not, Bool.and_eq_true, Bool.or_eq_true, Bool.and_eq_false_iff, Bool.or_eq_false_iff, Bool.not_eq_true', Bool.not_eq_false', Bool.not_eq_true, Bool.not_eq_false, Bool.true_eq_false, Bool.false_eq_true] at h
              refine awp_skip ?_
              refine awp_seq ?_
              refine awp_block ?_
              refine awp_seq ?_
              refine awp_region rfl (.n (fun _ => op_move (.plain rfl)) (.n (fun _ => op_move (.plain rfl)) (.n (fun _ => op_indexAddrN Try.underlying24 Try.sizeOf3 (.plain rfl) (.plain rfl) (fun _ => rfl) ?_) (.n (fun _ => op_load Try.isAgg3 (.plain rfl)) (.n (fun _ => op_move (.plain rfl)) (.n (fun _ => op_eql (.plain rfl) (.plain rfl)) (.n (fun _ => op_move (.plain rfl)) (.gn rfl rfl (fun hg _ => op_move (.plain rfl)) (.gn rfl rfl (fun hg _ => op_move (.plain rfl)) (.gn rfl rfl (fun hg _ => op_move (.plain rfl)) (.gn rfl rfl (fun hg _ => op_indexAddrN Try.underlying22 Try.sizeOf24 (.opt rfl fun h => h) (.opt rfl fun h => h) (fun _ => rfl) ?_) (.gn rfl rfl (fun hg _ => op_load Try.isAgg24 (.opt rfl fun h => h)) (.gn rfl rfl (fun hg _ => op_move (.plain rfl)) (.gn rfl rfl (fun hg _ => op_indexAddrN Try.underlying24 Try.sizeOf3 (.opt rfl fun h => h) (.opt rfl fun h => h) (fun _ => rfl) ?_) (.gn rfl rfl (fun hg _ => op_load Try.isAgg3 (.opt rfl fun h => h)) (.gn rfl rfl (fun hg _ => op_sub (.opt rfl fun h => h) (.opt rfl fun h => h) ?_) (.gn rfl rfl (fun hg _ => op_move (.plain rfl)) (.gn rfl rfl (fun hg _ => op_lss (.opt rfl fun h => h) (.opt rfl fun h => h)) (.n (fun _ => op_and (.plain rfl) (.plain rfl) (.plain rfl) (fun h => eqT h)) (.nil _)))))))))))))))))))) ?_
              · omega
              · try simp only [beq_iff_eq, beq_true, beq_false, Bool.and_eq_true, decide_eq_true_eq, decide_eq_false_iff_not, Bool.not_eq_true', Bool.or_eq_true, Bool.or_eq_false_iff] at hg
                omega
              · try simp only [beq_iff_eq, beq_true, beq_false, Bool.and_eq_true, decide_eq_true_eq, decide_eq_false_iff_not, Bool.not_eq_true', Bool.or_eq_true, Bool.or_eq_false_iff] at hg
                omega
              · try simp only [beq_iff_eq, beq_true, beq_false, Bool.and_eq_true, decide_eq_true_eq, decide_eq_false_iff_not, Bool.not_eq_true', Bool.or_eq_true, Bool.or_eq_false_iff] at hg
                have hval := hV.val i (by omega) g (by omega); have hb := hasF_bd hV hgl0 (who := (i : Int)) (other := (k : Int)) (by omega); unfold InR; omega
              refine awp_cond rfl (fun h => ?_) (fun h => ?_)
              · try simp only [decide_eq_true_eq, decide_eq_false_iff_not, Bool.and_eq_true, Bool.or_eq_true, Bool.and_eq_false_iff, Bool.or_eq_false_iff, Bool.not_eq_true', Bool.not_eq_false', Bool.not_eq_true, Bool.not_eq_false, Bool.true_eq_false, Bool.false_eq_true] at h
                refine awp_region rfl (.n (fun _ => op_move (.plain rfl)) (.n (fun _ => op_move (.plain rfl)) (.n (fun _ => op_move (.plain rfl)) (.n (fun _ => op_indexAddrN Try.underlying22 Try.sizeOf24 (.plain rfl) (.plain rfl) (fun _ => rfl) ?_) (.n (fun _ => op_load Try.isAgg24 (.plain rfl)) (.n (fun _ => op_move (.plain rfl)) (.n (fun _ => op_indexAddrN Try.underlying24 Try.sizeOf3 (.plain rfl) (.plain rfl) (fun _ => rfl) ?_) (.n (fun _ => op_load Try.isAgg3 (.plain rfl)) (.n (fun _ => op_sub (.plain rfl) (.plain rfl) ?_) (.n (fun _ => op_assign (.plain rfl)) (.nil _))))))))))) ?_
                · omega
                · omega
                · have hval := hV.val i (by omega) g (by omega); have hb := hasF_bd hV hg (who := (i : Int)) (other := (k : Int)) (by omega); unfold InR; omega
                refine awp_region rfl (.n (fun _ => op_move (.plain rfl)) (.n (fun _ => op_add (.plain rfl) (.plain rfl) ?_) (.n (fun _ => op_assign (.plain rfl)) (.nil _)))) ?_
                · unfold InR; omega
                exact ⟨g + 1, by omega, by dsimp only; omega, (Ent.kept ⟨rfl, rfl, rfl, rfl, rfl, rfl, rfl, rfl, (by first | (exact congrArg (fun n => some (SV.int n)) (less_in h)) | (exact congrArg (fun n => some (SV.int n)) (less_out (by omega)))), rfl, trivial⟩ ⟨rfl, rfl, trivial⟩)⟩
              · try simp only [decide_eq_true_eq, decide_eq_false_iff_not, Bool.and_eq_true, Bool.or_eq_true, Bool.and_eq_false_iff, Bool.or_eq_false_iff, Bool.not_eq_true', Bool.not_eq_false', Bool.not_eq_true, Bool.not_eq_false, Bool.true_eq_false, Bool.false_eq_true] at h
                refine awp_skip ?_
                refine awp_region rfl (.n (fun _ => op_move (.plain rfl)) (.n (fun _ => op_add (.plain rfl) (.plain rfl) ?_) (.n (fun _ => op_assign (.plain rfl)) (.nil _)))) ?_
                · unfold InR; omega
                exact ⟨g + 1, by omega, by dsimp only; omega, (Ent.kept ⟨rfl, rfl, rfl, rfl, rfl, rfl, rfl, rfl, (by first | (exact congrArg (fun n => some (SV.int n)) (less_in h)) | (exact congrArg (fun n => some (SV.int n)) (less_out (by omega)))), rfl, trivial⟩ ⟨rfl, rfl, trivial⟩)⟩
            · try simp only [decide_eq_true_eq, decide_eq_false_iff_not, Bool.and_eq_true, Bool.or_eq_true, Bool.and_eq_false_iff, Bool.or_eq_false_iff, Bool.not_eq_true', Bool.not_eq_false', Bool.not_eq_true, Bool.not_eq_false, Bool.true_eq_false, Bool.false_eq_true] at h
              refine awp_exit ?_
              refine awp_seq ?_
              obtain rfl : g = give.length := by omega
              refine awp_region rfl (.n (fun _ => op_assign (.plain rfl)) (.nil _)) ?_
              refine awp_seq ?_
              refine awp_seq ?_
              refine awp_region rfl (.n (fun _ => op_move (.plain rfl)) (.n (fun _ => op_move (.plain rfl)) (.n (fun _ => op_gtr (.plain rfl) (.plain rfl)) (.nil _)))) ?_
              refine awp_cond rfl (fun h => ?_) (fun h => ?_)
              · try simp only [decide_eq_true_eq, decide_eq_false_iff_not, Bool.and_eq_true, Bool.or_eq_true, Bool.and_eq_false_iff, Bool.or_eq_false_iff, Bool.not_eq_true', Bool.not_eq_false', Bool.not_eq_true, Bool.not_eq_false, Bool.true_eq_false, Bool.false_eq_true] at h
                have h1 := h
                refine awp_region rfl (.n (fun _ => op_assign (.plain rfl)) (.nil _)) ?_
                refine awp_seq ?_
                refine awp_seq ?_
                refine awp_region rfl (.n (fun _ => op_move (.plain rfl)) (.n (fun _ => op_move (.plain rfl)) (.n (fun _ => op_gtr (.plain rfl) (.plain rfl)) (.nil _)))) ?_
                refine awp_cond rfl (fun h => ?_) (fun h => ?_)
                · try simp only [decide_eq_true_eq, decide_eq_false_iff_not, Bool.and_eq_true, Bool.or_eq_true, Bool.and_eq_false_iff, Bool.or_eq_false_iff, Bool.not_eq_true', Bool.not_eq_false', Bool.not_eq_true, Bool.not_eq_false, Bool.true_eq_false, Bool.false_eq_true] at h
                  have h2 := h
                  refine awp_region rfl (.n (fun _ => op_assign (.plain rfl)) (.nil _)) ?_
                  refine awp_seq ?_
                  refine awp_seq ?_
                  refine awp_region rfl (.n (fun _ => op_move (.plain rfl)) (.n (fun _ => op_move (.plain rfl)) (.n (fun _ => op_eql (.plain rfl) (.plain rfl)) (.nil _)))) ?_
                  refine awp_cond rfl (fun h => ?_) (fun h => ?_)
                  · try simp only [decide_eq_true_eq, decide_eq_false_iff_not, Bool.and_eq_true, Bool.or_eq_true, Bool.and_eq_false_iff, Bool.or_eq_false_iff, Bool.not_eq_true', Bool.not_eq_false', Bool.not_eq_true, Bool.not_eq_false, Bool.true_eq_false, Bool.false_eq_true] at h
                    have h3 := h
                    refine awp_region rfl (.n (fun _ => op_assign (.plain rfl)) (.nil _)) ?_
                    refine awp_region rfl (.n (fun _ => op_move (.plain rfl)) (.n (fun _ => op_move (.plain rfl)) (.n (fun _ => op_slit (pp := [(0, _)]) (α := Int) (d := 0) (f := (fun n => [.int .i64 n])) [_] ety24 rfl ⟨rfl, (.plain rfl), (by simp), trivial⟩ rfl (by decide) rfl) (.e (op_append (id' := 118) (α := Int) (d := 0) (f := (fun n => [.int .i64 n])) ety24 Try.underlying24 (fun _ => rfl) (fun _ => rfl) (.plain rfl) rfl (.plain rfl) rfl ?_) rfl (.n (fun _ => op_assign (.plain rfl)) (.nil _)))))) ?_
                    · first | omega | (simp; omega)
                    refine awp_region rfl (.n (fun _ => op_move (.plain rfl)) (.n (fun _ => op_add (.plain rfl) (.plain rfl) ?_) (.n (fun _ => op_assign (.plain rfl)) (.nil _)))) ?_
                    · unfold InR; omega
                    exact ⟨k + 1, by omega, by dsimp only; omega, (Ent.round 118 1010 ⟨rfl, rfl, rfl, rfl, rfl, rfl, trivial⟩ ⟨rfl, (congrArg (fun l => some (Blk.arr 3 1 Int 0 (fun n => [.int .i64 n]) l)) (env_snoc (by first | exact env0 h3 | exact env2 h3 h2 | exact env1 h3 h2 h1 | exact env00 h3 h2 h1))), trivial⟩ rfl rfl rfl ⟨rfl, rfl, rfl, rfl, rfl, rfl, trivial⟩ ⟨rfl, rfl, trivial⟩)⟩
                  · try simp only [decide_eq_true_eq, decide_eq_false_iff_not, Bool.and_eq_true, Bool.or_eq_true, Bool.and_eq_false_iff, Bool.or_eq_false_iff, Bool.not_eq_true', Bool.not_eq_false', Bool.not_eq_true, Bool.not_eq_false, Bool.true_eq_false, Bool.false_eq_true] at h
                    have h3 := h
                    refine awp_skip ?_
                    refine awp_region rfl (.n (fun _ => op_move (.plain rfl)) (.n (fun _ => op_move (.plain rfl)) (.n (fun _ => op_slit (pp := [(0, _)]) (α := Int) (d := 0) (f := (fun n => [.int .i64 n])) [_] ety24 rfl ⟨rfl, (.plain rfl), (by simp), trivial⟩ rfl (by decide) rfl) (.e (op_append (id' := 118) (α := Int) (d := 0) (f := (fun n => [.int .i64 n])) ety24 Try.underlying24 (fun _ => rfl) (fun _ => rfl) (.plain rfl) rfl (.plain rfl) rfl ?_) rfl (.n (fun _ => op_assign (.plain rfl)) (.nil _)))))) ?_
                    · first | omega | (simp; omega)
                    refine awp_region rfl (.n (fun _ => op_move (.plain rfl)) (.n (fun _ => op_add (.plain rfl) (.plain rfl) ?_) (.n (fun _ => op_assign (.plain rfl)) (.nil _)))) ?_
                    · unfold InR; omega
                    exact ⟨k + 1, by omega, by dsimp only; omega, (Ent.round 118 1010 ⟨rfl, rfl, rfl, rfl, rfl, rfl, trivial⟩ ⟨rfl, (congrArg (fun l => some (Blk.arr 3 1 Int 0 (fun n => [.int .i64 n]) l)) (env_snoc (by first | exact env0 h3 | exact env2 h3 h2 | exact env1 h3 h2 h1 | exact env00 h3 h2 h1))), trivial⟩ rfl rfl rfl ⟨rfl, rfl, rfl, rfl, rfl, rfl, trivial⟩ ⟨rfl, rfl, trivial⟩)⟩
                · try simp only [decide_eq_true_eq, decide_eq_false_iff_not, Bool.and_eq_true, Bool.or_eq_true, Bool.and_eq_false_iff, Bool.or_eq_false_iff, Bool.not_eq_true', Bool.not_eq_false', Bool.not_eq_true, Bool.not_eq_false, Bool.true_eq_false, Bool.false_eq_true] at h
                  have h2 := h
                  refine awp_skip ?_
                  refine awp_seq ?_
                  refine awp_seq ?_
                  refine awp_region rfl (.n (fun _ => op_move (.plain rfl)) (.n (fun _ => op_move (.plain rfl)) (.n (fun _ => op_eql (.plain rfl) (.plain rfl)) (.nil _)))) ?_
                  refine awp_cond rfl (fun h => ?_) (fun h => ?_)
                  · try simp only [decide_eq_true_eq, decide_eq_false_iff_not, Bool.and_eq_true, Bool.or_eq_true, Bool.and_eq_false_iff, Bool.or_eq_false_iff, Bool.not_eq_true', Bool.not_eq_false', Bool.not_eq_true, Bool.not_eq_false, Bool.true_eq_false, Bool.false_eq_true] at h
                    have h3 := h
                    refine awp_region rfl (.n (fun _ => op_assign (.plain rfl)) (.nil _)) ?_
                    refine awp_region rfl (.n (fun _ => op_move (.plain rfl)) (.n (fun _ => op_move (.plain rfl)) (.n (fun _ => op_slit (pp := [(0, _)]) (α := Int) (d := 0) (f := (fun n => [.int .i64 n])) [_] ety24 rfl ⟨rfl, (.plain rfl), (by simp), trivial⟩ rfl (by decide) rfl) (.e (op_append (id' := 118) (α := Int) (d := 0) (f := (fun n => [.int .i64 n])) ety24 Try.underlying24 (fun _ => rfl) (fun _ => rfl) (.plain rfl) rfl (.plain rfl) rfl ?_) rfl (.n (fun _ => op_assign (.plain rfl)) (.nil _)))))) ?_
                    · first | omega | (simp; omega)
                    refine awp_region rfl (.n (fun _ => op_move (.plain rfl)) (.n (fun _ => op_add (.plain rfl) (.plain rfl) ?_) (.n (fun _ => op_assign (.plain rfl)) (.nil _)))) ?_
                    · unfold InR; omega
                    exact ⟨k + 1, by omega, by dsimp only; omega, (Ent.round 118 1010 ⟨rfl, rfl, rfl, rfl, rfl, rfl, trivial⟩ ⟨rfl, (congrArg (fun l => some (Blk.arr 3 1 Int 0 (fun n => [.int .i64 n]) l)) (env_snoc (by first | exact env0 h3 | exact env2 h3 h2 | exact env1 h3 h2 h1 | exact env00 h3 h2 h1))), trivial⟩ rfl rfl rfl ⟨rfl, rfl, rfl, rfl, rfl, rfl, trivial⟩ ⟨rfl, rfl, trivial⟩)⟩
                  · try simp only [decide_eq_true_eq, decide_eq_false_iff_not, Bool.and_eq_true, Bool.or_eq_true, Bool.and_eq_false_iff, Bool.or_eq_false_iff, Bool.not_eq_true', Bool.not_eq_false', Bool.not_eq_true, Bool.not_eq_false, Bool.true_eq_false, Bool.false_eq_true] at h
                    have h3 := h
                    refine awp_skip ?_
                    refine awp_region rfl (.n (fun _ => op_move (.plain rfl)) (.n (fun _ => op_move (.plain rfl)) (.n (fun _ => op_slit (pp := [(0, _)]) (α := Int) (d := 0) (f := (fun n => [.int .i64 n])) [_] ety24 rfl ⟨rfl, (.plain rfl), (by simp), trivial⟩ rfl (by decide) rfl) (.e (op_append (id' := 118) (α := Int) (d := 0) (f := (fun n => [.int .i64 n])) ety24 Try.underlying24 (fun _ => rfl) (fun _ => rfl) (.plain rfl) rfl (.plain rfl) rfl ?_) rfl (.n (fun _ => op_assign (.plain rfl)) (.nil _)))))) ?_
                    · first | omega | (simp; omega)
                    refine awp_region rfl (.n (fun _ => op_move (.plain rfl)) (.n (fun _ => op_add (.plain rfl) (.plain rfl) ?_) (.n (fun _ => op_assign (.plain rfl)) (.nil _)))) ?_
                    · unfold InR; omega
                    exact ⟨k + 1, by omega, by dsimp only; omega, (Ent.round 118 1010 ⟨rfl, rfl, rfl, rfl, rfl, rfl, trivial⟩ ⟨rfl, (congrArg (fun l => some (Blk.arr 3 1 Int 0 (fun n => [.int .i64 n]) l)) (env_snoc (by first | exact env0 h3 | exact env2 h3 h2 | exact env1 h3 h2 h1 | exact env00 h3 h2 h1))), trivial⟩ rfl rfl rfl ⟨rfl, rfl, rfl, rfl, rfl, rfl, trivial⟩ ⟨rfl, rfl, trivial⟩)⟩
              · try simp only [decide_eq_true_eq, decide_eq_false_iff_not, Bool.and_eq_true, Bool.or_eq_true, Bool.and_eq_false_iff, Bool.or_eq_false_iff, Bool.not_eq_true', Bool.not_eq_false', Bool.not_eq_true, Bool.not_eq_false, Bool.true_eq_false, Bool.false_eq_true] at h
                have h1 := h
                refine awp_skip ?_
                refine awp_seq ?_
                refine awp_seq ?_
                refine awp_region rfl (.n (fun _ => op_move (.plain rfl)) (.n (fun _ => op_move (.plain rfl)) (.n (fun _ => op_gtr (.plain rfl) (.plain rfl)) (.nil _)))) ?_
                refine awp_cond rfl (fun h => ?_) (fun h => ?_)
                · try simp only [decide_eq_true_eq, decide_eq_false_iff_not, Bool.and_eq_true, Bool.or_eq_true, Bool.and_eq_false_iff, Bool.or_eq_false_iff, Bool.not_eq_true', Bool.not_eq_false', Bool.not_eq_true, Bool.not_eq_false, Bool.true_eq_false, Bool.false_eq_true] at h
                  have h2 := h
                  refine awp_region rfl (.n (fun _ => op_assign (.plain rfl)) (.nil _)) ?_
                  refine awp_seq ?_
                  refine awp_seq ?_
                  refine awp_region rfl (.n (fun _ => op_move (.plain rfl)) (.n (fun _ => op_move (.plain rfl)) (.n (fun _ => op_eql (.plain rfl) (.plain rfl)) (.nil _)))) ?_
                  refine awp_cond rfl (fun h => ?_) (fun h => ?_)
                  · try simp only [decide_eq_true_eq, decide_eq_false_iff_not, Bool.and_eq_true, Bool.or_eq_true, Bool.and_eq_false_iff, Bool.or_eq_false_iff, Bool.not_eq_true', Bool.not_eq_false', Bool.not_eq_true, Bool.not_eq_false, Bool.true_eq_false, Bool.false_eq_true] at h
                    have h3 := h
                    refine awp_region rfl (.n (fun _ => op_assign (.plain rfl)) (.nil _)) ?_
                    refine awp_region rfl (.n (fun _ => op_move (.plain rfl)) (.n (fun _ => op_move (.plain rfl)) (.n (fun _ => op_slit (pp := [(0, _)]) (α := Int) (d := 0) (f := (fun n => [.int .i64 n])) [_] ety24 rfl ⟨rfl, (.plain rfl), (by simp), trivial⟩ rfl (by decide) rfl) (.e (op_append (id' := 118) (α := Int) (d := 0) (f := (fun n => [.int .i64 n])) ety24 Try.underlying24 (fun _ => rfl) (fun _ => rfl) (.plain rfl) rfl (.plain rfl) rfl ?_) rfl (.n (fun _ => op_assign (.plain rfl)) (.nil _)))))) ?_
                    · first | omega | (simp; omega)
                    refine awp_region rfl (.n (fun _ => op_move (.plain rfl)) (.n (fun _ => op_add (.plain rfl) (.plain rfl) ?_) (.n (fun _ => op_assign (.plain rfl)) (.nil _)))) ?_
                    · unfold InR; omega
                    exact ⟨k + 1, by omega, by dsimp only; omega, (Ent.round 118 1010 ⟨rfl, rfl, rfl, rfl, rfl, rfl, trivial⟩ ⟨rfl, (congrArg (fun l => some (Blk.arr 3 1 Int 0 (fun n => [.int .i64 n]) l)) (env_snoc (by first | exact env0 h3 | exact env2 h3 h2 | exact env1 h3 h2 h1 | exact env00 h3 h2 h1))), trivial⟩ rfl rfl rfl ⟨rfl, rfl, rfl, rfl, rfl, rfl, trivial⟩ ⟨rfl, rfl, trivial⟩)⟩
                  · try simp only [decide_eq_true_eq, decide_eq_false_iff_not, Bool.and_eq_true, Bool.or_eq_true, Bool.and_eq_false_iff, Bool.or_eq_false_iff, Bool.not_eq_true', Bool.not_eq_false', Bool.not_eq_true, Bool.not_eq_false, Bool.true_eq_false, Bool.false_eq_true] at h
                    have h3 := h
                    refine awp_skip ?_
                    refine awp_region rfl (.n (fun _ => op_move (.plain rfl)) (.n (fun _ => op_move (.plain rfl)) (.n (fun _ => op_slit (pp := [(0, _)]) (α := Int) (d := 0) (f := (fun n => [.int .i64 n])) [_] ety24 rfl ⟨rfl, (.plain rfl), (by simp), trivial⟩ rfl (by decide) rfl) (.e (op_append (id' := 118) (α := Int) (d := 0) (f := (fun n => [.int .i64 n])) ety24 Try.underlying24 (fun _ => rfl) (fun _ => rfl) (.plain rfl) rfl (.plain rfl) rfl ?_) rfl (.n (fun _ => op_assign (.plain rfl)) (.nil _)))))) ?_
                    · first | omega | (simp; omega)
                    refine awp_region rfl (.n (fun _ => op_move (.plain rfl)) (.n (fun _ => op_add (.plain rfl) (.plain rfl) ?_) (.n (fun _ => op_assign (.plain rfl)) (.nil _)))) ?_
                    · unfold InR; omega
                    exact ⟨k + 1, by omega, by dsimp only; omega, (Ent.round 118 1010 ⟨rfl, rfl, rfl, rfl, rfl, rfl, trivial⟩ ⟨rfl, (congrArg (fun l => some (Blk.arr 3 1 Int 0 (fun n => [.int .i64 n]) l)) (env_snoc (by first | exact env0 h3 | exact env2 h3 h2 | exact env1 h3 h2 h1 | exact env00 h3 h2 h1))), trivial⟩ rfl rfl rfl ⟨rfl, rfl, rfl, rfl, rfl, rfl, trivial⟩ ⟨rfl, rfl, trivial⟩)⟩
                · try simp only [decide_eq_true_eq, decide_eq_false_iff_not, Bool.and_eq_true, Bool.or_eq_true, Bool.and_eq_false_iff, Bool.or_eq_false_iff, Bool.not_eq_true', Bool.not_eq_false', Bool.not_eq_true, Bool.not_eq_false, Bool.true_eq_false, Bool.false_eq_true] at h
                  have h2 := h
                  refine awp_skip ?_
                  refine awp_seq ?_
                  refine awp_seq ?_
                  refine awp_region rfl (.n (fun _ => op_move (.plain rfl)) (.n (fun _ => op_move (.plain rfl)) (.n (fun _ => op_eql (.plain rfl) (.plain rfl)) (.nil _)))) ?_
                  refine awp_cond rfl (fun h => ?_) (fun h => ?_)
                  · try simp only [decide_eq_true_eq, decide_eq_false_iff_not, Bool.and_eq_true, Bool.or_eq_true, Bool.and_eq_false_iff, Bool.or_eq_false_iff, Bool.not_eq_true', Bool.not_eq_false', Bool.not_eq_true, Bool.not_eq_false, Bool.true_eq_false, Bool.false_eq_true] at h
                    have h3 := h
                    refine awp_region rfl (.n (fun _ => op_assign (.plain rfl)) (.nil _)) ?_
                    refine awp_region rfl (.n (fun _ => op_move (.plain rfl)) (.n (fun _ => op_move (.plain rfl)) (.n (fun _ => op_slit (pp := [(0, _)]) (α := Int) (d := 0) (f := (fun n => [.int .i64 n])) [_] ety24 rfl ⟨rfl, (.plain rfl), (by simp), trivial⟩ rfl (by decide) rfl) (.e (op_append (id' := 118) (α := Int) (d := 0) (f := (fun n => [.int .i64 n])) ety24 Try.underlying24 (fun _ => rfl) (fun _ => rfl) (.plain rfl) rfl (.plain rfl) rfl ?_) rfl (.n (fun _ => op_assign (.plain rfl)) (.nil _)))))) ?_
                    · first | omega | (simp; omega)
                    refine awp_region rfl (.n (fun _ => op_move (.plain rfl)) (.n (fun _ => op_add (.plain rfl) (.plain rfl) ?_) (.n (fun _ => op_assign (.plain rfl)) (.nil _)))) ?_
                    · unfold InR; omega
                    exact ⟨k + 1, by omega, by dsimp only; omega, (Ent.round 118 1010 ⟨rfl, rfl, rfl, rfl, rfl, rfl, trivial⟩ ⟨rfl, (congrArg (fun l => some (Blk.arr 3 1 Int 0 (fun n => [.int .i64 n]) l)) (env_snoc (by first | exact env0 h3 | exact env2 h3 h2 | exact env1 h3 h2 h1 | exact env00 h3 h2 h1))), trivial⟩ rfl rfl rfl ⟨rfl, rfl, rfl, rfl, rfl, rfl, trivial⟩ ⟨rfl, rfl, trivial⟩)⟩
                  · try simp only [decide_eq_true_eq, decide_eq_false_iff_not, Bool.and_eq_true, Bool.or_eq_true, Bool.and_eq_false_iff, Bool.or_eq_false_iff, Bool.not_eq_true', Bool.not_eq_false', Bool.not_eq_true, Bool.not_eq_false, Bool.true_eq_false, Bool.false_eq_true] at h
                    have h3 := h
                    refine awp_skip ?_
                    refine awp_region rfl (.n (fun _ => op_move (.plain rfl)) (.n (fun _ => op_move (.plain rfl)) (.n (fun _ => op_slit (pp := [(0, _)]) (α := Int) (d := 0) (f := (fun n => [.int .i64 n])) [_] ety24 rfl ⟨rfl, (.plain rfl), (by simp), trivial⟩ rfl (by decide) rfl) (.e (op_append (id' := 118) (α := Int) (d := 0) (f := (fun n => [.int .i64 n])) ety24 Try.underlying24 (fun _ => rfl) (fun _ => rfl) (.plain rfl) rfl (.plain rfl) rfl ?_) rfl (.n (fun _ => op_assign (.plain rfl)) (.nil _)))))) ?_
                    · first | omega | (simp; omega)
                    refine awp_region rfl (.n (fun _ => op_move (.plain rfl)) (.n (fun _ => op_add (.plain rfl) (.plain rfl) ?_) (.n (fun _ => op_assign (.plain rfl)) (.nil _)))) ?_
                    · unfold InR; omega
                    exact ⟨k + 1, by omega, by dsimp only; omega, (Ent.round 118 1010 ⟨rfl, rfl, rfl, rfl, rfl, rfl, trivial⟩ ⟨rfl, (congrArg (fun l => some (Blk.arr 3 1 Int 0 (fun n => [.int .i64 n]) l)) (env_snoc (by first | exact env0 h3 | exact env2 h3 h2 | exact env1 h3 h2 h1 | exact env00 h3 h2 h1))), trivial⟩ rfl rfl rfl ⟨rfl, rfl, rfl, rfl, rfl, rfl, trivial⟩ ⟨rfl, rfl, trivial⟩)⟩
          · try simp only [decide_eq_true_eq, decide_eq_false_iff_not, Bool.and_eq_true, Bool.or_eq_true, Bool.and_eq_false_iff, Bool.or_eq_false_iff, Bool.not_eq_true', Bool.not_eq_false', Bool.not_eq_true, Bool.not_eq_false, Bool.true_eq_false, Bool.false_eq_true] at h
            refine awp_exit ?_
            obtain rfl : k = v.length := by omega
            refine awp_ent (Ent.give 10 rfl rfl) ?_
            refine awp_region rfl (.n (fun _ => op_move (.plain rfl)) (.n (fun _ => op_move (.plain rfl)) (.n (fun _ => op_slit (pp := [(0, _)]) (α := (List Int)) (d := []) (f := (fun r => [.seq Int 0 (fun n => [.int .i64 n]) r])) [_] ety22 rfl ⟨rfl, (.plain rfl), (by simp), trivial⟩ rfl (by decide) rfl) (.e (op_append (id' := 122) (α := (List Int)) (d := []) (f := (fun r => [.seq Int 0 (fun n => [.int .i64 n]) r])) ety22 Try.underlying22 (fun _ => rfl) (fun _ => rfl) (.plain rfl) rfl (.plain rfl) rfl ?_) rfl (.n (fun _ => op_assign (.plain rfl)) (.nil _)))))) ?_
            · first | omega | (simp; omega)
            refine awp_region rfl (.n (fun _ => op_move (.plain rfl)) (.n (fun _ => op_add (.plain rfl) (.plain rfl) ?_) (.n (fun _ => op_assign (.plain rfl)) (.nil _)))) ?_
            · unfold InR; omega
            exact ⟨i + 1, by omega, by dsimp only; omega, (Ent.round 122 1008 ⟨rfl, rfl, rfl, rfl, trivial⟩ ⟨(congrArg (fun l => some (Blk.arr 24 1 (List Int) [] (fun r => [.seq Int 0 (fun n => [.int .i64 n]) r]) l)) ((mapr_succ i fun i => mapr v.length fun k => envF v give i k).symm)), trivial⟩ rfl rfl rfl ⟨rfl, rfl, rfl, rfl, trivial⟩ ⟨rfl, trivial⟩)⟩
        · try simp only [decide_eq_true_eq, decide_eq_false_iff_not, Bool.and_eq_true, Bool.or_eq_true, Bool.and_eq_false_iff, Bool.or_eq_false_iff, Bool.not_eq_true', Bool.not_eq_false', Bool.not_eq_true, Bool.not_eq_false, Bool.true_eq_false, Bool.false_eq_true] at h
          refine awp_exit ?_
          refine awp_seq ?_
          refine awp_region rfl (.n (fun _ => op_move (.plain rfl)) (.n (fun _ => op_assign (.plain rfl)) (.n (fun _ => op_assign (.plain rfl)) (.nil _)))) ?_
          refine awp_ret ?_
          refine retQ.ret ?_
          refine ret2 rfl rfl rfl rfl rfl ?_
          exact envy_ok (giftE_0 hM hGl hE (by omega) (by omega)) hi (by omega)

theorem Quality_fc (v : List (List Int)) (give : List Int) (hV : Val v) (hg : give.length = mL v) : FC Try.prog 34 [.rows v, .ints give] (.tup [.i (lv v give).1, .i (lv v give).2]) := by
  refine FC.intro Try.func34 rfl (Nat.le_of_ble_eq_true rfl) fun hfit => ?_
  obtain ⟨fitl0, fitr0⟩ := (hfit _ (.head _)).rows
  obtain ⟨fitl1, fitr1⟩ := (hfit _ (.tail _ (.head _))).ints
  have hn1 := hV.n1
  have hn4 := hV.n4
  have hm8 := hV.m8
  refine awp_seq ?_
  refine awp_region rfl (.n (fun _ => op_assign (.plain rfl)) (.n (fun _ => op_assign (.plain rfl)) (.nil _))) ?_
  refine awp_seq ?_
  refine awp_region rfl (.n (fun _ => op_assign (.plain rfl)) (.nil _)) ?_
  refine awp_seq ?_
  refine awp_region rfl (.n (fun _ => op_assign (.plain rfl)) (.nil _)) ?_
  refine awp_seq ?_
  refine awp_seq ?_
  refine awp_region rfl (.n (fun _ => op_assign (.plain rfl)) (.nil _)) ?_
  refine awp_block ?_
  refine awp_loop (σ := Nat) (fun (i : Nat) => i ≤ v.length) (fun (i : Nat) => ⟨[(0, .pv (.rows v)), (1, .pv (.ints give)), (6, .int (lvTo v give i).1), (7, .int (lvTo v give i).2), (8, .int (i : Nat))], []⟩) (fun (i : Nat) => v.length - i) 0 ?_ (Ent.kept ⟨rfl, rfl, rfl, rfl, rfl, trivial⟩ trivial) ?_
  · exact Nat.zero_le _
  rintro i hp
  try dsimp only at hp
  have hi := hp
  have hbd := lvTo_bd hV hg i hi
  refine awp_seq ?_
  refine awp_seq ?_
  refine awp_region rfl (.n (fun _ => op_move (.plain rfl)) (.n (fun _ => op_move (.plain rfl)) (.n (fun _ => op_len (s := 0) Try.underlying22 (.plain rfl)) (.n (fun _ => op_lss (.plain rfl) (.plain rfl)) (.nil _))))) ?_
  refine awp_cond rfl (fun h => ?_) (fun h => ?_)
  · try simp only [decide_eq_true_eq, decide_eq_false_iff_not, Bool.and_eq_true, Bool.or_eq_true, Bool.and_eq_false_iff, Bool.or_eq_false_iff, Bool.not_eq_true', Bool.not_eq_false', Bool.not_eq_true, Bool.not_eq_false, Bool.true_eq_false, Bool.false_eq_true] at h
    refine awp_skip ?_
    refine awp_seq ?_
    refine awp_block ?_
    refine awp_seq ?_
    refine awp_region rfl (.n (fun _ => op_move (.plain rfl)) (.n (fun _ => op_move (.plain rfl)) (.n (fun _ => op_move (.plain rfl)) (.n (fun _ => op_move (.plain rfl)) (.n (fun _ => op_call4 Try.call23 (.plain rfl) (.plain rfl) (.plain rfl) (.plain rfl) (Has_fc _ _ _ _ ?_ ?_ ?_)) (.n (fun _ => op_assign (.plain rfl)) (.nil _))))))) ?_
    · assumption
    · assumption
    · omega
    refine awp_seq ?_
    refine awp_region rfl (.n (fun _ => op_move (.plain rfl)) (.n (fun _ => op_gtr (.plain rfl) (.plain rfl)) (.nil _))) ?_
    refine awp_cond rfl (fun h => ?_) (fun h => ?_)
    · try simp only [decide_eq_true_eq, decide_eq_false_iff_not, Bool.and_eq_true, Bool.or_eq_true, Bool.and_eq_false_iff, Bool.or_eq_false_iff, Bool.not_eq_true', Bool.not_eq_false', Bool.not_eq_true, Bool.not_eq_false, Bool.true_eq_false, Bool.false_eq_true] at h
      refine awp_seq ?_
      refine awp_region rfl (.n (fun _ => op_move (.plain rfl)) (.n (fun _ => op_add (.plain rfl) (.plain rfl) ?_) (.n (fun _ => op_assign (.plain rfl)) (.nil _)))) ?_
      · unfold InR; omega
      refine awp_region rfl (.n (fun _ => op_move (.plain rfl)) (.n (fun _ => op_move (.plain rfl)) (.n (fun _ => op_mul (.plain rfl) (.plain rfl) ?_) (.n (fun _ => op_assign (.plain rfl)) (.nil _))))) ?_
      · exact lvMul_bd hV hg (by omega)
      refine awp_region rfl (.n (fun _ => op_move (.plain rfl)) (.n (fun _ => op_add (.plain rfl) (.plain rfl) ?_) (.n (fun _ => op_assign (.plain rfl)) (.nil _)))) ?_
      · unfold InR; omega
      exact ⟨i + 1, by omega, by dsimp only; omega, (Ent.kept ⟨rfl, rfl, (by first | exact (congrArg (fun n => some (SV.int n)) ((lv_in h).1)) | exact (congrArg (fun n => some (SV.int n)) (congrArg Prod.fst (lv_out h)))), (by first | exact (congrArg (fun n => some (SV.int n)) ((lv_in h).2)) | exact (congrArg (fun n => some (SV.int n)) (congrArg Prod.snd (lv_out h)))), rfl, trivial⟩ trivial)⟩
    · try simp only [decide_eq_true_eq, decide_eq_false_iff_not, Bool.and_eq_true, Bool.or_eq_true, Bool.and_eq_false_iff, Bool.or_eq_false_iff, Bool.not_eq_true', Bool.not_eq_false', Bool.not_eq_true, Bool.not_eq_false, Bool.true_eq_false, Bool.false_eq_true] at h
      refine awp_skip ?_
      refine awp_region rfl (.n (fun _ => op_move (.plain rfl)) (.n (fun _ => op_add (.plain rfl) (.plain rfl) ?_) (.n (fun _ => op_assign (.plain rfl)) (.nil _)))) ?_
      · unfold InR; omega
      exact ⟨i + 1, by omega, by dsimp only; omega, (Ent.kept ⟨rfl, rfl, (by first | exact (congrArg (fun n => some (SV.int n)) ((lv_in h).1)) | exact (congrArg (fun n => some (SV.int n)) (congrArg Prod.fst (lv_out h)))), (by first | exact (congrArg (fun n => some (SV.int n)) ((lv_in h).2)) | exact (congrArg (fun n => some (SV.int n)) (congrArg Prod.snd (lv_out h)))), rfl, trivial⟩ trivial)⟩
  · try simp only [decide_eq_true_eq, decide_eq_false_iff_not, Bool.and_eq_true, Bool.or_eq_true, Bool.and_eq_false_iff, Bool.or_eq_false_iff, Bool.not_eq_true', Bool.not_eq_false', Bool.not_eq_true, Bool.not_eq_false, Bool.true_eq_false, Bool.false_eq_true] at h
    refine awp_exit ?_
    refine awp_seq ?_
    refine awp_region rfl (.n (fun _ => op_move (.plain rfl)) (.n (fun _ => op_move (.plain rfl)) (.n (fun _ => op_assign (.plain rfl)) (.n (fun _ => op_assign (.plain rfl)) (.nil _))))) ?_
    refine awp_ret ?_
    refine retQ.ret ?_
    refine ret2 rfl rfl rfl rfl rfl ?_
    obtain rfl : i = v.length := by omega
    rfl

theorem REven_fc (v : List (List Int)) (hV : Val v) (r : Nat) (give : List Int) (hp0 : give.length + r = mL v) : FC Try.prog 18 [.rows v, .ints give] (.ints (evR v r give)) := by
  induction r using Nat.strongRecOn generalizing give
  rename_i r ih
  refine FC.intro Try.func18 rfl (Nat.le_of_ble_eq_true rfl) fun hfit => ?_
  obtain ⟨fitl0, fitr0⟩ := (hfit _ (.head _)).rows
  obtain ⟨fitl1, fitr1⟩ := (hfit _ (.tail _ (.head _))).ints
  have hn1 := hV.n1
  have hn4 := hV.n4
  have hm8 := hV.m8
  refine awp_seq ?_
  refine awp_region rfl (.n (fun _ => op_assign (.plain rfl)) (.nil _)) ?_
  refine awp_seq ?_
  refine awp_seq ?_
  refine awp_region rfl (.n (fun _ => op_move (.plain rfl)) (.n (fun _ => op_len (s := 0) Try.underlying24 (.plain rfl)) (.n (fun _ => op_move (.plain rfl)) (.n (fun _ => op_indexAddr Try.underlying22 Try.sizeOf24 (.plain rfl) (.plain rfl) (fun _ => rfl) ?_) (.n (fun _ => op_load Try.isAgg24 (.plain rfl)) (.n (fun _ => op_len (s := 0) Try.underlying24 (.plain rfl)) (.n (fun _ => op_eql (.plain rfl) (.plain rfl)) (.nil _)))))))) ?_
  · omega
  refine awp_cond rfl (fun h => ?_) (fun h => ?_)
  · try simp only [decide_eq_true_eq, decide_eq_false_iff_not, Bool.and_eq_true, Bool.or_eq_true, Bool.and_eq_false_iff, Bool.or_eq_false_iff, Bool.not_eq_true', Bool.not_eq_false', Bool.not_eq_true, Bool.not_eq_false, Bool.true_eq_false, Bool.false_eq_true] at h
    obtain rfl : r = 0 := by have e0 : (v.getD (Int.toNat 0) []).length = mL v := rfl; omega
    refine awp_seq ?_
    refine awp_region rfl (.n (fun _ => op_move (.plain rfl)) (.n (fun _ => op_assign (.plain rfl)) (.nil _))) ?_
    refine awp_ret ?_
    refine retQ.ret ?_
    refine ret1 rfl rfl rfl ?_
    rfl
  · try simp only [decide_eq_true_eq, decide_eq_false_iff_not, Bool.and_eq_true, Bool.or_eq_true, Bool.and_eq_false_iff, Bool.or_eq_false_iff, Bool.not_eq_true', Bool.not_eq_false', Bool.not_eq_true, Bool.not_eq_false, Bool.true_eq_false, Bool.false_eq_true] at h
    obtain ⟨q, rfl⟩ : ∃ q, r = q + 1 := ⟨r - 1, by have e0 : (v.getD (Int.toNat 0) []).length = mL v := rfl; omega⟩
    refine awp_skip ?_
    refine awp_seq ?_
    refine awp_region rfl (.n (fun _ => op_assign (.plain rfl)) (.nil _)) ?_
    refine awp_seq ?_
    refine awp_region rfl (.n (fun _ => op_assign (.plain rfl)) (.nil _)) ?_
    refine awp_seq ?_
    refine awp_region rfl (.n (fun _ => op_assign (.plain rfl)) (.nil _)) ?_
    refine awp_seq ?_
    refine awp_seq ?_
    refine awp_region rfl (.n (fun _ => op_assign (.plain rfl)) (.nil _)) ?_
    refine awp_block ?_
    refine awp_loop (σ := Nat) (fun (i : Nat) => i ≤ v.length) (fun (i : Nat) => ⟨[(0, .pv (.rows v)), (1, .pv (.ints give)), (5, .pv (evP v q give i)), (6, .int (evM v q give i).1), (7, .int (evM v q give i).2), (8, .int (i : Nat))], []⟩) (fun (i : Nat) => v.length - i) 0 ?_ (Ent.kept ⟨rfl, rfl, rfl, rfl, rfl, rfl, trivial⟩ trivial) ?_
    · exact Nat.zero_le _
    rintro i hp
    try dsimp only at hp
    have hi := hp
    have hl0 : i < v.length → 0 ≤ (lv v (evR v q (give ++ [(i : Int)]))).1 := fun _ => (lvTo_bd hV (by rw [evR_len v _ _ hn1]; simp; omega) v.length (Nat.le_refl _)).1
    refine awp_seq ?_
    refine awp_seq ?_
    refine awp_region rfl (.n (fun _ => op_move (.plain rfl)) (.n (fun _ => op_move (.plain rfl)) (.n (fun _ => op_len (s := 0) Try.underlying22 (.plain rfl)) (.n (fun _ => op_lss (.plain rfl) (.plain rfl)) (.nil _))))) ?_
    refine awp_cond rfl (fun h => ?_) (fun h => ?_)
    · try simp only [decide_eq_true_eq, decide_eq_false_iff_not, Bool.and_eq_true, Bool.or_eq_true, Bool.and_eq_false_iff, Bool.or_eq_false_iff, Bool.not_eq_true', Bool.not_eq_false', Bool.not_eq_true, Bool.not_eq_false, Bool.true_eq_false, Bool.false_eq_true] at h
      refine awp_skip ?_
      refine awp_seq ?_
      refine awp_block ?_
      refine awp_seq ?_
      refine awp_region rfl (.n (fun _ => op_move (.plain rfl)) (.e (op_slitO (pp := []) (α := Int) (d := 0) (f := (fun n => [.int .i64 n])) 27 [] ety24 rfl trivial rfl (by decide) rfl (fun _ => rfl) rfl) rfl (.n (fun _ => op_move (.plain rfl)) (.e (op_append (id' := 29) (α := Int) (d := 0) (f := (fun n => [.int .i64 n])) ety24 Try.underlying24 (fun _ => rfl) (fun _ => rfl) (.plain rfl) rfl (.plain rfl) rfl ?_) rfl (.n (fun _ => op_move (.plain rfl)) (.n (fun _ => op_slit (pp := [(0, _)]) (α := Int) (d := 0) (f := (fun n => [.int .i64 n])) [_] ety24 rfl ⟨rfl, (.plain rfl), (by simp), trivial⟩ rfl (by decide) rfl) (.e ((op_append (id' := 32) (α := Int) (d := 0) (f := (fun n => [.int .i64 n])) ety24 Try.underlying24 (fun _ => rfl) (fun _ => rfl) (.plain rfl) rfl (.plain rfl) rfl ?_).given rfl) rfl (.n (fun _ => op_call2 Try.call18 (.plain rfl) (.plain rfl) (ih q ?_ _ ?_)) (.n (fun _ => op_assign (.plain rfl)) (.nil _)))))))))) ?_
      · first | omega | (simp; omega)
      · first | omega | (simp; omega)
      · omega
      · simp; omega
      refine awp_seq ?_
      refine awp_region rfl (.n (fun _ => op_move (.plain rfl)) (.n (fun _ => op_move (.plain rfl)) (.n (fun _ => op_call2 Try.call34 (.plain rfl) (.plain rfl) (Quality_fc _ _ ?_ ?_)) (.n (fun _ => op_move (.plain rfl)) (.n (fun _ => op_extract (.plain rfl) rfl) (.n (fun _ => op_extract (.plain rfl) rfl) (.n (fun _ => op_assign (.plain rfl)) (.n (fun _ => op_assign (.plain rfl)) (.nil _))))))))) ?_
      · assumption
      · rw [evR_len v _ _ hn1]; simp; omega
      refine awp_seq ?_
      refine awp_region rfl (.n (fun _ => op_move (.plain rfl)) (.n (fun _ => op_move (.plain rfl)) (.n (fun _ => op_gtr (.plain rfl) (.plain rfl)) (.n (fun _ => op_move (.plain rfl)) (.gn rfl rfl (fun hg _ => op_move (.plain rfl)) (.gn rfl rfl (fun hg _ => op_move (.plain rfl)) (.gn rfl rfl (fun hg _ => op_eql (.opt rfl fun h => h) (.opt rfl fun h => h)) (.gn rfl rfl (fun hg _ => op_move (.opt rfl fun h => h)) (.ggn rfl rfl (fun hg _ => op_move (.plain rfl)) (.ggn rfl rfl (fun hg _ => op_move (.plain rfl)) (.ggn rfl rfl (fun hg _ => op_gtr (.opt rfl fun h => h) (.opt rfl fun h => h)) (.gn rfl rfl (fun hg _ => op_and (.opt rfl fun h => h) (.plain rfl) (.plain rfl) (fun h => andI hg (eqT h))) (.n (fun _ => op_or (.plain rfl) (.plain rfl) (.plain rfl) (fun h => eqF h)) (.nil _)))))))))))))) ?_
      refine awp_cond rfl (fun h => ?_) (fun h => ?_)
      · try simp only [decide_eq_true_eq, decide_eq_false_iff_not, Bool.and_eq_true, Bool.or_eq_true, Bool.and_eq_false_iff, Bool.or_eq_false_iff, Bool.not_eq_true', Bool.not_eq_false', Bool.not_eq_true, Bool.not_eq_false, Bool.true_eq_false, Bool.false_eq_true] at h
        refine awp_seq ?_
        refine awp_region rfl (.n (fun _ => op_move (.plain rfl)) (.n (fun _ => op_assign (.plain rfl)) (.nil _))) ?_
        refine awp_seq ?_
        refine awp_region rfl (.n (fun _ => op_move (.plain rfl)) (.n (fun _ => op_assign (.plain rfl)) (.nil _))) ?_
        refine awp_region rfl (.n (fun _ => op_move (.plain rfl)) (.n (fun _ => op_assign (.plain rfl)) (.nil _))) ?_
        refine awp_region rfl (.n (fun _ => op_move (.plain rfl)) (.n (fun _ => op_add (.plain rfl) (.plain rfl) ?_) (.n (fun _ => op_assign (.plain rfl)) (.nil _)))) ?_
        · unfold InR; omega
        exact ⟨i + 1, by omega, by dsimp only; omega, (Ent.kept ⟨rfl, rfl, (by first | exact congrArg (fun p => some (SV.pv p)) (ev_yes (hl0 (by omega)) h).1 | exact congrArg (fun p => some (SV.pv p)) (ev_no (hl0 (by omega)) (dn1 h)).1), (by first | exact (congrArg (fun n => some (SV.int n)) (congrArg Prod.fst (ev_yes (hl0 (by omega)) h).2)) | exact (congrArg (fun n => some (SV.int n)) (congrArg Prod.fst (ev_no (hl0 (by omega)) (dn1 h)).2))), (by first | exact (congrArg (fun n => some (SV.int n)) (congrArg Prod.snd (ev_yes (hl0 (by omega)) h).2)) | exact (congrArg (fun n => some (SV.int n)) (congrArg Prod.snd (ev_no (hl0 (by omega)) (dn1 h)).2))), rfl, trivial⟩ trivial)⟩
      · try simp only [decide_eq_true_eq, decide_eq_false_iff_not, Bool.and_eq_true, Bool.or_eq_true, Bool.and_eq_false_iff, Bool.or_eq_false_iff, Bool.not_eq_true', Bool.not_eq_false', Bool.not_eq_true, Bool.not_eq_false, Bool.true_eq_false, Bool.false_eq_true] at h
        refine awp_skip ?_
        refine awp_region rfl (.n (fun _ => op_move (.plain rfl)) (.n (fun _ => op_add (.plain rfl) (.plain rfl) ?_) (.n (fun _ => op_assign (.plain rfl)) (.nil _)))) ?_
        · unfold InR; omega
        exact ⟨i + 1, by omega, by dsimp only; omega, (Ent.kept ⟨rfl, rfl, (by first | exact congrArg (fun p => some (SV.pv p)) (ev_yes (hl0 (by omega)) h).1 | exact congrArg (fun p => some (SV.pv p)) (ev_no (hl0 (by omega)) (dn1 h)).1), (by first | exact (congrArg (fun n => some (SV.int n)) (congrArg Prod.fst (ev_yes (hl0 (by omega)) h).2)) | exact (congrArg (fun n => some (SV.int n)) (congrArg Prod.fst (ev_no (hl0 (by omega)) (dn1 h)).2))), (by first | exact (congrArg (fun n => some (SV.int n)) (congrArg Prod.snd (ev_yes (hl0 (by omega)) h).2)) | exact (congrArg (fun n => some (SV.int n)) (congrArg Prod.snd (ev_no (hl0 (by omega)) (dn1 h)).2))), rfl, trivial⟩ trivial)⟩
    · try simp only [decide_eq_true_eq, decide_eq_false_iff_not, Bool.and_eq_true, Bool.or_eq_true, Bool.and_eq_false_iff, Bool.or_eq_false_iff, Bool.not_eq_true', Bool.not_eq_false', Bool.not_eq_true, Bool.not_eq_false, Bool.true_eq_false, Bool.false_eq_true] at h
      refine awp_exit ?_
      refine awp_seq ?_
      refine awp_region rfl (.n (fun _ => op_move (.plain rfl)) (.n (fun _ => op_assign (.plain rfl)) (.nil _))) ?_
      refine awp_ret ?_
      refine retQ.ret ?_
      refine ret1 rfl rfl rfl ?_
      obtain rfl : i = v.length := by omega
      exact ev_end hn1

end Go.Proofs.Ytfaeiglnhbllnaa

