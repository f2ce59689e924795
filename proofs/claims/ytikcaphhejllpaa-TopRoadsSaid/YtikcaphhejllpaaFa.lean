/- The functions that RoadsSay and TopRoads reach, on plain values. Conditions: each theorem names its own. -/
import Derived.Test.YtikcaphhejllpaaProg
import Derived.Test.YtikcaphhejllpaaAbsD
namespace Go.Proofs.Ytikcaphhejllpaa
open Go.Abs
set_option linter.unusedVariables false
set_option linter.unusedSimpArgs false

theorem mixed : Try.prog.follows .mixedOrders = true := by kernel_rfl
theorem ety22 : ElemTy Try.prog 22 25 1 24 (.slice none 0 0) := ⟨Try.underlying22, ⟨Try.t25, by kernel_rfl, by kernel_rfl, by kernel_rfl, by kernel_rfl⟩, by kernel_rfl, by decide, by decide⟩
theorem ety25 : ElemTy Try.prog 25 3 1 8 (.int .i64 0) := ⟨Try.underlying25, ⟨Try.t3, by kernel_rfl, by kernel_rfl, by kernel_rfl, by kernel_rfl⟩, by kernel_rfl, by decide, by decide⟩

theorem sameInts_fc (a b : List Int) : FC Try.prog 13 [.ints a, .ints b] (.bool (decide (a = b))) := by
  refine FC.intro Try.func13 rfl (Nat.le_of_ble_eq_true rfl) fun hfit => ?_
  obtain ⟨fitl0, fitr0⟩ := (hfit _ (.head _)).ints
  obtain ⟨fitl1, fitr1⟩ := (hfit _ (.tail _ (.head _))).ints
  refine awp_seq ?_
  refine awp_region rfl (.n (fun _ => op_assign (.plain rfl)) (.nil _)) ?_
  refine awp_seq ?_
  refine awp_seq ?_
  refine awp_region rfl (.n (fun _ => op_move (.plain rfl)) (.n (fun _ => op_len (s := 0) Try.underlying25 (.plain rfl)) (.n (fun _ => op_move (.plain rfl)) (.n (fun _ => op_len (s := 0) Try.underlying25 (.plain rfl)) (.n (fun _ => op_neq (.plain rfl) (.plain rfl)) (.nil _)))))) ?_
  refine awp_cond rfl (fun h => ?_) (fun h => ?_)
  · try simp only [decide_eq_true_eq, decide_eq_false_iff_not, Bool.and_eq_true, Bool.or_eq_true, Bool.and_eq_false_iff, Bool.or_eq_false_iff, Bool.not_eq_true', Bool.not_eq_false', Bool.not_eq_true, Bool.not_eq_false, Bool.true_eq_false, Bool.false_eq_true] at h
    refine awp_seq ?_
    refine awp_region rfl (.n (fun _ => op_assign (.plain rfl)) (.nil _)) ?_
    refine awp_ret ?_
    refine retQ.ret ?_
    refine ret1 rfl rfl rfl ?_
    rw [decide_eq_false (fun e => by subst e; simp at h)]
  · try simp only [decide_eq_true_eq, decide_eq_false_iff_not, Bool.and_eq_true, Bool.or_eq_true, Bool.and_eq_false_iff, Bool.or_eq_false_iff, Bool.not_eq_true', Bool.not_eq_false', Bool.not_eq_true, Bool.not_eq_false, Bool.true_eq_false, Bool.false_eq_true] at h
    refine awp_skip ?_
    refine awp_seq ?_
    refine awp_seq ?_
    refine awp_region rfl (.n (fun _ => op_assign (.plain rfl)) (.nil _)) ?_
    refine awp_block ?_
    refine awp_loop (σ := Nat) (fun (k : Nat) => k ≤ a.length ∧ ∀ j, j < k → a.getD j 0 = b.getD j 0) (fun (k : Nat) => ⟨[(5, .int (k : Nat)), (0, .pv (.ints a)), (1, .pv (.ints b))], []⟩) (fun (k : Nat) => a.length - k) 0 ?_ (Ent.kept ⟨rfl, rfl, rfl, trivial⟩ trivial) ?_
    · simp
    rintro k hp
    try dsimp only at hp
    obtain ⟨hk, hj⟩ := hp
    have hlen : a.length = b.length := by omega
    refine awp_seq ?_
    refine awp_seq ?_
    refine awp_region rfl (.n (fun _ => op_move (.plain rfl)) (.n (fun _ => op_move (.plain rfl)) (.n (fun _ => op_len (s := 0) Try.underlying25 (.plain rfl)) (.n (fun _ => op_lss (.plain rfl) (.plain rfl)) (.nil _))))) ?_
    refine awp_cond rfl (fun h => ?_) (fun h => ?_)
    · try simp only [decide_eq_true_eq, decide_eq_false_iff_not, Bool.and_eq_true, Bool.or_eq_true, Bool.and_eq_false_iff, Bool.or_eq_false_iff, Bool.not_eq_true', Bool.not_eq_false', Bool.not_eq_true, Bool.not_eq_false, Bool.true_eq_false, Bool.false_eq_true] at h
      refine awp_skip ?_
      refine awp_seq ?_
      refine awp_block ?_
      refine awp_seq ?_
      refine awp_region_draw mixed rfl (.n (fun _ => op_move (.plain rfl)) (.n (fun _ => op_move (.plain rfl)) (.n (fun _ => op_indexAddrN Try.underlying25 Try.sizeOf3 (.plain rfl) (.plain rfl) (fun _ => rfl) ?_) (.n (fun _ => op_load Try.isAgg3 (.plain rfl)) (.n (fun _ => op_move (.plain rfl)) (.n (fun _ => op_move (.plain rfl)) (.n (fun _ => op_indexAddrN Try.underlying25 Try.sizeOf3 (.plain rfl) (.plain rfl) (fun _ => rfl) ?_) (.n (fun _ => op_load Try.isAgg3 (.plain rfl)) (.n (fun _ => op_neq (.plain rfl) (.plain rfl)) (.nil _)))))))))) ?d1 ?_
      · omega
      · omega
      · kernel_rfl
      refine awp_cond rfl (fun h => ?_) (fun h => ?_)
      · try simp only [decide_eq_true_eq, decide_eq_false_iff_not, Bool.and_eq_true, Bool.or_eq_true, Bool.and_eq_false_iff, Bool.or_eq_false_iff, Bool.not_eq_true', Bool.not_eq_false', Bool.not_eq_true, Bool.not_eq_false, Bool.true_eq_false, Bool.false_eq_true] at h
        refine awp_seq ?_
        refine awp_region rfl (.n (fun _ => op_assign (.plain rfl)) (.nil _)) ?_
        refine awp_ret ?_
        refine retQ.ret ?_
        refine ret1 rfl rfl rfl ?_
        rw [decide_eq_false (fun e => by subst e; simp at h)]
      · try simp only [decide_eq_true_eq, decide_eq_false_iff_not, Bool.and_eq_true, Bool.or_eq_true, Bool.and_eq_false_iff, Bool.or_eq_false_iff, Bool.not_eq_true', Bool.not_eq_false', Bool.not_eq_true, Bool.not_eq_false, Bool.true_eq_false, Bool.false_eq_true] at h
        refine awp_skip ?_
        refine awp_region rfl (.n (fun _ => op_move (.plain rfl)) (.n (fun _ => op_add (.plain rfl) (.plain rfl) ?_) (.n (fun _ => op_assign (.plain rfl)) (.nil _)))) ?_
        · unfold InR; omega
        refine ⟨k + 1, ⟨by omega, fun j hjk => ?_⟩, by dsimp only; omega, Ent.kept ⟨rfl, rfl, rfl, trivial⟩ trivial⟩
        by_cases e : j = k
        · subst e; simpa using h
        · exact hj j (by omega)
    · try simp only [decide_eq_true_eq, decide_eq_false_iff_not, Bool.and_eq_true, Bool.or_eq_true, Bool.and_eq_false_iff, Bool.or_eq_false_iff, Bool.not_eq_true', Bool.not_eq_false', Bool.not_eq_true, Bool.not_eq_false, Bool.true_eq_false, Bool.false_eq_true] at h
      refine awp_exit ?_
      refine awp_seq ?_
      refine awp_region rfl (.n (fun _ => op_assign (.plain rfl)) (.nil _)) ?_
      refine awp_ret ?_
      refine retQ.ret ?_
      refine ret1 rfl rfl rfl ?_
      rw [decide_eq_true (List.ext_getElem hlen fun j h1 h2 => by have := hj j (by omega); simpa [List.getD_eq_getElem?_getD, h1, h2] using this)]


/-- How long all rows are together, with the rows themselves. -/
def heavyTo (l : List (List Int)) (k : Nat) : Nat := l.length + ((l.take k).map List.length).sum
def heavyF (l : List (List Int)) : Bool := decide (1024 < heavyTo l l.length)
theorem heavyTo_succ {l : List (List Int)} {k : Nat} (h : k < l.length) : heavyTo l (k + 1) = heavyTo l k + (l.getD k []).length := by
  unfold heavyTo
  rw [List.take_succ_eq_append_getElem h, List.map_append, List.sum_append]
  simp [h, Nat.add_assoc]
theorem heavyTo_le {l : List (List Int)} (k : Nat) : heavyTo l k ≤ heavyTo l l.length := by
  unfold heavyTo
  have := List.take_append_drop k l
  have h2 : ((l.take l.length).map List.length).sum = ((l.take k).map List.length).sum + ((l.drop k).map List.length).sum := by
    rw [List.take_length, ← List.sum_append, ← List.map_append, this]
  omega
theorem getD_mem {α : Type} {l : List α} {k : Nat} (d : α) (h : k < l.length) : l.getD k d ∈ l := by
  rw [List.getD_eq_getElem?_getD, List.getElem?_eq_getElem h]; exact List.getElem_mem h

theorem heavy_fc (l : List (List Int)) : FC Try.prog 21 [.rows l] (.bool (heavyF l)) := by
  refine FC.intro Try.func21 rfl (Nat.le_of_ble_eq_true rfl) fun hfit => ?_
  obtain ⟨fitl0, fitr0⟩ := (hfit _ (.head _)).rows
  refine awp_seq ?_
  refine awp_region rfl (.n (fun _ => op_assign (.plain rfl)) (.nil _)) ?_
  refine awp_seq ?_
  refine awp_region rfl (.n (fun _ => op_move (.plain rfl)) (.n (fun _ => op_len (s := 0) Try.underlying22 (.plain rfl)) (.n (fun _ => op_assign (.plain rfl)) (.nil _)))) ?_
  refine awp_seq ?_
  refine awp_seq ?_
  refine awp_region rfl (.n (fun _ => op_assign (.plain rfl)) (.nil _)) ?_
  refine awp_block ?_
  refine awp_loop (σ := Nat) (fun (k : Nat) => k ≤ l.length) (fun (k : Nat) => ⟨[(3, .int (heavyTo l k : Nat)), (4, .int (k : Nat)), (0, .pv (.rows l))], []⟩) (fun (k : Nat) => l.length - k) 0 ?_ (Ent.kept ⟨by simp [heavyTo]; rfl, rfl, rfl, trivial⟩ trivial) ?_
  · simp
  rintro k hp
  try dsimp only at hp
  refine awp_seq ?_
  refine awp_seq ?_
  refine awp_region rfl (.n (fun _ => op_move (.plain rfl)) (.n (fun _ => op_move (.plain rfl)) (.n (fun _ => op_len (s := 0) Try.underlying22 (.plain rfl)) (.n (fun _ => op_lss (.plain rfl) (.plain rfl)) (.n (fun _ => op_move (.plain rfl)) (.gn rfl rfl (fun hg _ => op_move (.plain rfl)) (.gn rfl rfl (fun hg _ => op_leq (.opt rfl fun h => h) (.plain rfl)) (.n (fun _ => op_and (.plain rfl) (.plain rfl) (.plain rfl) (fun h => eqT h)) (.nil _))))))))) ?_
  refine awp_cond rfl (fun h => ?_) (fun h => ?_)
  · try simp only [decide_eq_true_eq, decide_eq_false_iff_not, Bool.and_eq_true, Bool.or_eq_true, Bool.and_eq_false_iff, Bool.or_eq_false_iff, Bool.not_eq_true', Bool.not_eq_false', Bool.not_eq_true, Bool.not_eq_false, Bool.true_eq_false, Bool.false_eq_true] at h
    have hb := (fitr0 _ (getD_mem [] (show k < l.length by omega))).1
    refine awp_skip ?_
    refine awp_seq ?_
    refine awp_block ?_
    refine awp_region rfl (.n (fun _ => op_move (.plain rfl)) (.n (fun _ => op_move (.plain rfl)) (.n (fun _ => op_move (.plain rfl)) (.n (fun _ => op_indexAddrN Try.underlying22 Try.sizeOf25 (.plain rfl) (.plain rfl) (fun _ => rfl) ?_) (.n (fun _ => op_load Try.isAgg25 (.plain rfl)) (.n (fun _ => op_len (s := 0) Try.underlying25 (.plain rfl)) (.n (fun _ => op_add (.plain rfl) (.plain rfl) ?_) (.n (fun _ => op_assign (.plain rfl)) (.nil _))))))))) ?_
    · omega
    · unfold InR; omega
    refine awp_region rfl (.n (fun _ => op_move (.plain rfl)) (.n (fun _ => op_add (.plain rfl) (.plain rfl) ?_) (.n (fun _ => op_assign (.plain rfl)) (.nil _)))) ?_
    · unfold InR; omega
    refine ⟨k + 1, by omega, by dsimp only; omega, Ent.kept ⟨?_, rfl, rfl, trivial⟩ trivial⟩
    rw [heavyTo_succ (by omega)]; rfl
  · try simp only [decide_eq_true_eq, decide_eq_false_iff_not, Bool.and_eq_true, Bool.or_eq_true, Bool.and_eq_false_iff, Bool.or_eq_false_iff, Bool.not_eq_true', Bool.not_eq_false', Bool.not_eq_true, Bool.not_eq_false, Bool.true_eq_false, Bool.false_eq_true] at h
    refine awp_exit ?_
    refine awp_seq ?_
    refine awp_region rfl (.n (fun _ => op_move (.plain rfl)) (.n (fun _ => op_gtr (.plain rfl) (.plain rfl)) (.n (fun _ => op_assign (.plain rfl)) (.nil _)))) ?_
    refine awp_ret ?_
    refine retQ.ret ?_
    refine ret1 rfl rfl rfl ?_
    have := heavyTo_le (l := l) k
    unfold heavyF
    congr 1
    rw [Bool.eq_iff_iff]
    simp only [decide_eq_true_eq]
    rcases Nat.lt_or_ge k l.length with h1 | h1
    · omega
    · obtain rfl : k = l.length := by omega
      omega


def pickF (c n : Int) : Int := (if c < 0 then -(c + 1) else c) % n
theorem pickF_range (c n : Int) (h : 1 ≤ n) : 0 ≤ pickF c n ∧ pickF c n < n := by
  unfold pickF
  exact ⟨Int.emod_nonneg _ (by omega), Int.emod_lt_of_pos _ (by omega)⟩
def atF (raw : List Int) (k : Nat) : Int := if raw.length = 0 then 0 else raw.getD (k % raw.length) 0
def upF (n : Nat) : List Int := (List.range n).map fun (i : Nat) => (i : Int)
theorem upF_succ (n : Nat) : upF (n + 1) = upF n ++ [(n : Int)] := by simp [upF, List.range_succ]
@[simp] theorem upF_length (n : Nat) : (upF n).length = n := by simp [upF]

theorem Pick_fc (c n : Int) (hn : 1 ≤ n) : FC Try.prog 17 [.i c, .i n] (.i (pickF c n)) := by
  refine FC.intro Try.func17 rfl (Nat.le_of_ble_eq_true rfl) fun hfit => ?_
  have fit0 : -9223372036854775808 ≤ (c : Int) ∧ (c : Int) ≤ 9223372036854775807 := (hfit _ (.head _)).int64
  have fit1 : -9223372036854775808 ≤ (n : Int) ∧ (n : Int) ≤ 9223372036854775807 := (hfit _ (.tail _ (.head _))).int64
  refine awp_seq ?_
  refine awp_region rfl (.n (fun _ => op_assign (.plain rfl)) (.nil _)) ?_
  refine awp_seq ?_
  refine awp_seq ?_
  refine awp_region rfl (.n (fun _ => op_move (.plain rfl)) (.n (fun _ => op_lss (.plain rfl) (.plain rfl)) (.nil _))) ?_
  refine awp_cond rfl (fun h => ?_) (fun h => ?_)
  · try simp only [decide_eq_true_eq, decide_eq_false_iff_not, Bool.and_eq_true, Bool.or_eq_true, Bool.and_eq_false_iff, Bool.or_eq_false_iff, Bool.not_eq_true', Bool.not_eq_false', Bool.not_eq_true, Bool.not_eq_false, Bool.true_eq_false, Bool.false_eq_true] at h
    refine awp_region rfl (.n (fun _ => op_move (.plain rfl)) (.n (fun _ => op_add (.plain rfl) (.plain rfl) ?_) (.n (fun _ => op_neg (.plain rfl) ?_) (.n (fun _ => op_assign (.plain rfl)) (.nil _))))) ?_
    · unfold InR; omega
    · unfold InR; omega
    refine awp_seq ?_
    refine awp_region rfl (.n (fun _ => op_move (.plain rfl)) (.n (fun _ => op_move (.plain rfl)) (.n (fun _ => op_rem (.plain rfl) (.plain rfl) ?_) (.n (fun _ => op_assign (.plain rfl)) (.nil _))))) ?_
    · omega
    refine awp_ret ?_
    refine retQ.ret ?_
    refine ret1 rfl rfl rfl ?_
    unfold pickF; rw [if_pos h]
  · try simp only [decide_eq_true_eq, decide_eq_false_iff_not, Bool.and_eq_true, Bool.or_eq_true, Bool.and_eq_false_iff, Bool.or_eq_false_iff, Bool.not_eq_true', Bool.not_eq_false', Bool.not_eq_true, Bool.not_eq_false, Bool.true_eq_false, Bool.false_eq_true] at h
    refine awp_skip ?_
    refine awp_seq ?_
    refine awp_region rfl (.n (fun _ => op_move (.plain rfl)) (.n (fun _ => op_move (.plain rfl)) (.n (fun _ => op_rem (.plain rfl) (.plain rfl) ?_) (.n (fun _ => op_assign (.plain rfl)) (.nil _))))) ?_
    · omega
    refine awp_ret ?_
    refine retQ.ret ?_
    refine ret1 rfl rfl rfl ?_
    unfold pickF; rw [if_neg h]

theorem At_fc (raw : List Int) (k : Nat) : FC Try.prog 19 [.ints raw, .i (k : Nat)] (.i (atF raw k)) := by
  refine FC.intro Try.func19 rfl (Nat.le_of_ble_eq_true rfl) fun hfit => ?_
  obtain ⟨fitl0, fitr0⟩ := (hfit _ (.head _)).ints
  have fit1 : -9223372036854775808 ≤ ((k : Nat) : Int) ∧ ((k : Nat) : Int) ≤ 9223372036854775807 := (hfit _ (.tail _ (.head _))).int64
  refine awp_seq ?_
  refine awp_region rfl (.n (fun _ => op_assign (.plain rfl)) (.nil _)) ?_
  refine awp_seq ?_
  refine awp_seq ?_
  refine awp_region rfl (.n (fun _ => op_move (.plain rfl)) (.n (fun _ => op_len (s := 0) Try.underlying25 (.plain rfl)) (.n (fun _ => op_eql (.plain rfl) (.plain rfl)) (.nil _)))) ?_
  refine awp_cond rfl (fun h => ?_) (fun h => ?_)
  · try simp only [decide_eq_true_eq, decide_eq_false_iff_not, Bool.and_eq_true, Bool.or_eq_true, Bool.and_eq_false_iff, Bool.or_eq_false_iff, Bool.not_eq_true', Bool.not_eq_false', Bool.not_eq_true, Bool.not_eq_false, Bool.true_eq_false, Bool.false_eq_true] at h
    refine awp_seq ?_
    refine awp_region rfl (.n (fun _ => op_assign (.plain rfl)) (.nil _)) ?_
    refine awp_ret ?_
    refine retQ.ret ?_
    refine ret1 rfl rfl rfl ?_
    unfold atF; rw [if_pos (by omega)]
  · try simp only [decide_eq_true_eq, decide_eq_false_iff_not, Bool.and_eq_true, Bool.or_eq_true, Bool.and_eq_false_iff, Bool.or_eq_false_iff, Bool.not_eq_true', Bool.not_eq_false', Bool.not_eq_true, Bool.not_eq_false, Bool.true_eq_false, Bool.false_eq_true] at h
    refine awp_skip ?_
    refine awp_seq ?_
    refine awp_region rfl (.n (fun _ => op_move (.plain rfl)) (.n (fun _ => op_move (.plain rfl)) (.n (fun _ => op_move (.plain rfl)) (.n (fun _ => op_len (s := 0) Try.underlying25 (.plain rfl)) (.n (fun _ => op_rem (.plain rfl) (.plain rfl) ?_) (.n (fun _ => op_indexAddr Try.underlying25 Try.sizeOf3 (.plain rfl) (.plain rfl) (fun _ => rfl) ?_) (.n (fun _ => op_load Try.isAgg3 (.plain rfl)) (.n (fun _ => op_assign (.plain rfl)) (.nil _))))))))) ?_
    · omega
    · exact ⟨Int.emod_nonneg _ (by omega), Int.emod_lt_of_pos _ (by omega)⟩
    refine awp_ret ?_
    refine retQ.ret ?_
    refine ret1 rfl rfl rfl ?_
    unfold atF; rw [if_neg (by omega), ← Int.natCast_emod, Int.toNat_natCast]

theorem clone_fc (l : List Int) (hl : l.length ≤ 1000000) : FCO Try.prog 25 [.ints l] 3 1 Int 0 (fun n => [.int .i64 n]) (l) := by
  refine FCO.intro Try.func25 rfl (Nat.le_of_ble_eq_true rfl) fun hfit => ?_
  obtain ⟨fitl0, fitr0⟩ := (hfit _ (.head _)).ints
  refine awp_seq ?_
  refine awp_region rfl (.n (fun _ => op_assign (.plain rfl)) (.nil _)) ?_
  refine awp_seq ?_
  refine awp_seq ?_
  refine awp_nilsplit 0 rfl (fun hnil => ?_) ?_
  · have _hs := trivial
    refine awp_region rfl (.n (fun _ => op_move (.plain rfl)) (.n (fun _ => op_nil_nil Try.underlying25 (.plain rfl)) (.nil _))) ?_
    refine awp_cond rfl (fun h => ?_) (fun h => ?_)
    · clear h
      refine awp_seq ?_
      refine awp_region rfl (.n (fun _ => op_assign (.plain rfl)) (.nil _)) ?_
      refine awp_ent (Ent.begin 2 5002 3 1 Int 0 (fun n => [.int .i64 n]) rfl rfl rfl) ?_
      refine awp_ret ?_
      refine retO.ret ?_
      refine retO1 rfl rfl rfl ?_
      exact hnil.symm
    · cases h
  · have _hs := trivial
    refine awp_region rfl (.n (fun _ => op_move (.plain rfl)) (.n (fun _ => op_nn_nil Try.underlying25 (.plain rfl)) (.nil _))) ?_
    refine awp_ent (Ent.denn 0 rfl) ?_
    refine awp_cond rfl (fun h => ?_) (fun h => ?_)
    · cases h
    · clear h
      refine awp_skip ?_
      refine awp_seq ?_
      refine awp_region rfl (.e (op_slitO (pp := []) (α := Int) (d := 0) (f := (fun n => [.int .i64 n])) 5 [] ety25 rfl trivial rfl (by decide) rfl (fun _ => rfl) rfl) rfl (.n (fun _ => op_move (.plain rfl)) (.e (op_append (id' := 7) (α := Int) (d := 0) (f := (fun n => [.int .i64 n])) ety25 Try.underlying25 (fun _ => rfl) (fun _ => rfl) (.plain rfl) rfl (.plain rfl) rfl ?_) rfl (.n (fun _ => op_assign (.plain rfl)) (.nil _))))) ?_
      · first | omega | (simp; omega)
      refine awp_ret ?_
      refine retO.ret ?_
      refine retO1 rfl rfl rfl ?_
      simp


/-- The first of n that is not 0. -/
def firstE (f : Nat → Int) : Nat → Int
  | 0 => 0
  | n + 1 => if firstE f n = 0 then f n else firstE f n
theorem firstE_succ {f : Nat → Int} {n : Nat} (h : firstE f n = 0) (h' : f n = 0) : firstE f (n + 1) = 0 := by simp [firstE, h, h']
theorem firstE_stop {f : Nat → Int} {k n : Nat} {c : Int} (h : firstE f k = 0) (hc : f k = c) (h0 : c ≠ 0) (hk : k < n) : firstE f n = c := by
  have h1 : firstE f (k + 1) = c := by simp [firstE, h, hc]
  have : ∀ d, firstE f (k + 1 + d) = c := by
    intro d
    induction d with
    | zero => exact h1
    | succ d ih => rw [← Nat.add_assoc, firstE, ih, if_neg h0]
  have := this (n - (k + 1))
  rwa [show k + 1 + (n - (k + 1)) = n by omega] at this
theorem firstE_zero {f : Nat → Int} : ∀ {n : Nat}, firstE f n = 0 → ∀ j, j < n → f j = 0
  | 0, _, j, hj => by omega
  | n + 1, h, j, hj => by
    simp only [firstE] at h
    split at h
    · rename_i h0
      by_cases e : j = n
      · subst e; exact h
      · exact firstE_zero h0 j (by omega)
    · rename_i h0; exact absurd h h0
theorem firstE_same {f g : Nat → Int} : ∀ {n : Nat}, (∀ j, j < n → f j = g j) → firstE f n = firstE g n
  | 0, _ => rfl
  | n + 1, h => by simp only [firstE, firstE_same (fun j hj => h j (by omega) : ∀ j, j < n → _), h n (by omega)]

def sumTo (f : Nat → Int) : Nat → Int
  | 0 => 0
  | n + 1 => sumTo f n + f n
theorem sumTo_bd {f : Nat → Int} {A B : Int} : ∀ {n : Nat}, (∀ j, j < n → A ≤ f j ∧ f j ≤ B) → n * A ≤ sumTo f n ∧ sumTo f n ≤ n * B
  | 0, _ => by simp [sumTo]
  | n + 1, h => by
    have h1 := sumTo_bd (fun j hj => h j (by omega) : ∀ j, j < n → _)
    have h2 := h n (by omega)
    simp only [sumTo, Int.natCast_succ, Int.add_mul]
    omega
theorem sumTo_same {f g : Nat → Int} : ∀ {n : Nat}, (∀ j, j < n → f j = g j) → sumTo f n = sumTo g n
  | 0, _ => rfl
  | n + 1, h => by simp only [sumTo, sumTo_same (fun j hj => h j (by omega) : ∀ j, j < n → _), h n (by omega)]

/-- n values by their places. -/
def mapr {α : Type} (n : Nat) (f : Nat → α) : List α := (List.range n).map f
@[simp] theorem mapr_length {α : Type} (n : Nat) (f : Nat → α) : (mapr n f).length = n := by simp [mapr]
theorem mapr_succ {α : Type} (n : Nat) (f : Nat → α) : mapr (n + 1) f = mapr n f ++ [f n] := by simp [mapr, List.range_succ]
theorem mapr_getD {α : Type} {n : Nat} {f : Nat → α} {i : Nat} (d : α) (h : i < n) : (mapr n f).getD i d = f i := by
  simp [mapr, List.getD_eq_getElem?_getD, h]
theorem mapr_same {α : Type} {n : Nat} {f g : Nat → α} (h : ∀ j, j < n → f j = g j) : mapr n f = mapr n g := by
  unfold mapr
  exact List.map_congr_left fun j hj => h j (List.mem_range.1 hj)
theorem mapr_set {α : Type} {n : Nat} {f g : Nat → α} {i : Nat} {v : α} (hv : i < n → g i = v) (h : ∀ j, j < n → j ≠ i → g j = f j) : (mapr n f).set i v = mapr n g := by
  refine List.ext_getElem (by simp) fun j h1 h2 => ?_
  rw [List.getElem_set]
  split
  · rename_i e; subst e; simp [mapr]; exact (hv (by simpa using h2)).symm
  · rename_i e; simp [mapr]; exact (h j (by simpa using h2) fun e' => e e'.symm).symm
theorem replicate_mapr {α : Type} (n : Nat) (a : α) : List.replicate n a = mapr n fun _ => a :=
  List.ext_getElem (by simp) fun j h1 h2 => by simp [mapr]

/-- The first of n places at which p holds. -/
def firstI (p : Nat → Bool) : Nat → Option Nat
  | 0 => none
  | n + 1 => match firstI p n with | some i => some i | none => if p n then some n else none
theorem firstI_succ {p : Nat → Bool} {n : Nat} (h : firstI p n = none) (h' : p n = false) : firstI p (n + 1) = none := by simp [firstI, h, h']
theorem firstI_stop {p : Nat → Bool} {k n : Nat} (h : firstI p k = none) (hc : p k = true) (hk : k < n) : firstI p n = some k := by
  have h1 : firstI p (k + 1) = some k := by simp [firstI, h, hc]
  have : ∀ d, firstI p (k + 1 + d) = some k := by
    intro d
    induction d with
    | zero => exact h1
    | succ d ih => rw [← Nat.add_assoc, firstI, ih]
  have := this (n - (k + 1))
  rwa [show k + 1 + (n - (k + 1)) = n by omega] at this
theorem firstI_none {p : Nat → Bool} : ∀ {n : Nat}, firstI p n = none → ∀ j, j < n → p j = false
  | n + 1, h, j, hj => by
    simp only [firstI] at h
    split at h
    · cases h
    · rename_i h0
      split at h
      · cases h
      · rename_i h1
        by_cases e : j = n
        · subst e; simpa using h1
        · exact firstI_none h0 j (by omega)
theorem firstI_spec {p : Nat → Bool} : ∀ {n i : Nat}, firstI p n = some i → i < n ∧ p i = true ∧ ∀ j, j < i → p j = false
  | n + 1, i, h => by
    simp only [firstI] at h
    split at h
    · rename_i k hk
      simp only [Option.some.injEq] at h
      subst h
      have := firstI_spec hk
      exact ⟨by omega, this.2⟩
    · rename_i hk
      split at h
      · rename_i hp
        simp only [Option.some.injEq] at h
        subst h
        exact ⟨by omega, hp, firstI_none hk⟩
      · cases h
theorem firstI_same {p q : Nat → Bool} : ∀ {n : Nat}, (∀ j, j < n → p j = q j) → firstI p n = firstI q n
  | 0, _ => rfl
  | n + 1, h => by simp only [firstI, firstI_same (fun j hj => h j (by omega) : ∀ j, j < n → _), h n (by omega)]

theorem two_pow_nat (k : Nat) : (1 : Int) ≤ 2 ^ k := by
  have : (0 : Int) < 2 ^ k := Int.pow_pos (by omega)
  omega
theorem two_pow_bd {k m : Nat} (h : k ≤ m) : (2 : Int) ^ k ≤ 2 ^ m := by
  have h1 : (2 : Nat) ^ k ≤ 2 ^ m := Nat.pow_le_pow_right (by omega) h
  have h2 : ((2 ^ k : Nat) : Int) = 2 ^ k := by simp
  have h3 : ((2 ^ m : Nat) : Int) = 2 ^ m := by simp
  omega

def bitF (s : Int) (e : Nat) : Int := s / 2 ^ e % 2
theorem bitF_bd (s : Int) (e : Nat) : 0 ≤ bitF s e ∧ bitF s e ≤ 1 := by unfold bitF; omega
def costRowE (n : Nat) (l : List Int) : Int := if l.length ≠ n then 7 else firstE (fun k => if l.getD k 0 < -999 ∨ 999 < l.getD k 0 then 9 else 0) l.length
def chRowE (m : Nat) (l : List Int) : Int := if l.length < 1 ∨ 5 < l.length then 7 else firstE (fun k => if l.getD k 0 < 0 ∨ 2 ^ m ≤ l.getD k 0 then 8 else 0) l.length
def countE (ch co : List (List Int)) : Int := if (ch.length < 1 ∨ 5 < ch.length) ∨ 6 < co.length then 7 else 0
def costsE (ch co : List (List Int)) : Int := firstE (fun e => costRowE ch.length (co.getD e [])) co.length
def chsE (ch co : List (List Int)) : Int := firstE (fun e => chRowE co.length (ch.getD e [])) ch.length
def roadsE (ch co : List (List Int)) : Int := if countE ch co ≠ 0 then countE ch co else if costsE ch co ≠ 0 then costsE ch co else chsE ch co
def atB (ch : List (List Int)) (at' : List Int) (i : Nat) : Int := if at'.getD i 0 < 0 ∨ (ch.getD i []).length ≤ at'.getD i 0 then 9 else 0
def atE (ch co : List (List Int)) (at' : List Int) : Int := if roadsE ch co ≠ 0 then roadsE ch co else if at'.length ≠ ch.length then 7 else firstE (atB ch at') at'.length
theorem roadsE_count {ch co : List (List Int)} (h : ((ch.length : Int) < 1 ∨ 5 < (ch.length : Int)) ∨ 6 < (co.length : Int)) : 7 = roadsE ch co := by
  have : countE ch co = 7 := if_pos (by omega)
  simp [roadsE, this]
theorem roadsE_cost {ch co : List (List Int)} {k : Nat} {c : Int} (h : (¬ (ch.length : Int) < 1 ∧ ¬ 5 < (ch.length : Int)) ∧ ¬ 6 < (co.length : Int)) (hE : firstE (fun e => costRowE ch.length (co.getD e [])) k = 0) (hk : (k : Int) < (co.length : Int))
    (hc : costRowE ch.length (co.getD k []) = c) (h0 : c ≠ 0) : c = roadsE ch co := by
  have h1 : countE ch co = 0 := if_neg (by omega)
  have h2 : costsE ch co = c := firstE_stop hE hc h0 (by omega)
  simp [roadsE, h1, h2, h0]
theorem roadsE_ch {ch co : List (List Int)} {k' k : Nat} {c : Int} (h : (¬ (ch.length : Int) < 1 ∧ ¬ 5 < (ch.length : Int)) ∧ ¬ 6 < (co.length : Int)) (hk' : k' ≤ co.length) (hE' : firstE (fun e => costRowE ch.length (co.getD e [])) k' = 0) (hn : ¬ (k' : Int) < (co.length : Int))
    (hE : firstE (fun e => chRowE co.length (ch.getD e [])) k = 0) (hk : (k : Int) < (ch.length : Int)) (hc : chRowE co.length (ch.getD k []) = c) (h0 : c ≠ 0) : c = roadsE ch co := by
  obtain rfl : k' = co.length := by omega
  have h1 : countE ch co = 0 := if_neg (by omega)
  have h2 : costsE ch co = 0 := hE'
  have h3 : chsE ch co = c := firstE_stop hE hc h0 (by omega)
  simp [roadsE, h1, h2, h3]
theorem roadsE_ok {ch co : List (List Int)} {k' k : Nat} (h : (¬ (ch.length : Int) < 1 ∧ ¬ 5 < (ch.length : Int)) ∧ ¬ 6 < (co.length : Int)) (hk' : k' ≤ co.length) (hE' : firstE (fun e => costRowE ch.length (co.getD e [])) k' = 0) (hn : ¬ (k' : Int) < (co.length : Int))
    (hk : k ≤ ch.length) (hE : firstE (fun e => chRowE co.length (ch.getD e [])) k = 0) (hn' : ¬ (k : Int) < (ch.length : Int)) : 0 = roadsE ch co := by
  obtain rfl : k' = co.length := by omega
  obtain rfl : k = ch.length := by omega
  have h1 : countE ch co = 0 := if_neg (by omega)
  have h2 : costsE ch co = 0 := hE'
  have h3 : chsE ch co = 0 := hE
  simp [roadsE, h1, h2, h3]
theorem costRowE_len {n : Nat} {l : List Int} (h : ¬ (l.length : Int) = n) : costRowE n l = 7 := if_pos (by omega)
theorem costRowE_val {n : Nat} {l : List Int} {j : Nat} (h : (l.length : Int) = n) (hF : firstE (fun j => if l.getD j 0 < -999 ∨ 999 < l.getD j 0 then 9 else 0) j = 0) (hj : (j : Int) < l.length) (hb : l.getD j 0 < -999 ∨ 999 < l.getD j 0) : costRowE n l = 9 := by
  unfold costRowE
  rw [if_neg (by omega)]
  exact firstE_stop hF (if_pos hb) (by omega) (by omega)
theorem costRowE_ok {n : Nat} {l : List Int} {j : Nat} (h : (l.length : Int) = n) (hj : j ≤ l.length) (hF : firstE (fun j => if l.getD j 0 < -999 ∨ 999 < l.getD j 0 then 9 else 0) j = 0) (hn : ¬ (j : Int) < l.length) : costRowE n l = 0 := by
  obtain rfl : j = l.length := by omega
  unfold costRowE
  rw [if_neg (by omega)]
  exact hF
theorem chRowE_len {m : Nat} {l : List Int} (h : (l.length : Int) < 1 ∨ 5 < (l.length : Int)) : chRowE m l = 7 := if_pos (by omega)
theorem chRowE_val {m : Nat} {l : List Int} {j : Nat} (h : ¬ (l.length : Int) < 1 ∧ ¬ 5 < (l.length : Int)) (hF : firstE (fun j => if l.getD j 0 < 0 ∨ 2 ^ m ≤ l.getD j 0 then 8 else 0) j = 0) (hj : (j : Int) < l.length) (hb : l.getD j 0 < 0 ∨ 2 ^ m ≤ l.getD j 0) : chRowE m l = 8 := by
  unfold chRowE
  rw [if_neg (by omega)]
  exact firstE_stop hF (if_pos hb) (by omega) (by omega)
theorem chRowE_ok {m : Nat} {l : List Int} {j : Nat} (h : ¬ (l.length : Int) < 1 ∧ ¬ 5 < (l.length : Int)) (hj : j ≤ l.length) (hF : firstE (fun j => if l.getD j 0 < 0 ∨ 2 ^ m ≤ l.getD j 0 then 8 else 0) j = 0) (hn : ¬ (j : Int) < l.length) : chRowE m l = 0 := by
  obtain rfl : j = l.length := by omega
  unfold chRowE
  rw [if_neg (by omega)]
  exact hF

theorem Roads_fc (ch co : List (List Int)) : FC Try.prog 10 [.agg [.rows ch, .rows co]] (.i (roadsE ch co)) := by
  refine FC.intro Try.func10 rfl (Nat.le_of_ble_eq_true rfl) fun hfit => ?_
  have fit0 := hfit _ (.head _)
  have fch := ((hfit _ (.head _)).mem (.head _)).rows
  have fco := ((hfit _ (.head _)).mem (.tail _ (.head _))).rows
  refine awp_seq ?_
  refine awp_region rfl (.n (fun _ => op_box (.plain rfl) (by simp)) (.n (fun _ => op_assign (.plain rfl)) (.nil _))) ?_
  refine awp_seq ?_
  refine awp_region rfl (.n (fun _ => op_fieldAddr Try.underlying24 rfl rfl Try.sizeOf22 (.plain rfl)) (.n (fun _ => op_load Try.isAgg22 (.plain rfl)) (.n (fun _ => op_len (s := 0) Try.underlying22 (.plain rfl)) (.n (fun _ => op_assign (.plain rfl)) (.nil _))))) ?_
  refine awp_seq ?_
  refine awp_seq ?_
  refine awp_region rfl (.n (fun _ => op_move (.plain rfl)) (.n (fun _ => op_lss (.plain rfl) (.plain rfl)) (.n (fun _ => op_move (.plain rfl)) (.gn rfl rfl (fun hg _ => op_move (.plain rfl)) (.gn rfl rfl (fun hg _ => op_gtr (.opt rfl fun h => h) (.plain rfl)) (.n (fun _ => op_or (.plain rfl) (.plain rfl) (.plain rfl) (fun h => eqF h)) (.n (fun _ => op_move (.plain rfl)) (.gn rfl rfl (fun hg _ => op_fieldAddr Try.underlying24 rfl rfl Try.sizeOf22 (.plain rfl)) (.gn rfl rfl (fun hg _ => op_load Try.isAgg22 (.opt rfl fun h => h)) (.gn rfl rfl (fun hg _ => op_len (s := 0) Try.underlying22 (.opt rfl fun h => h)) (.gn rfl rfl (fun hg _ => op_gtr (.opt rfl fun h => h) (.plain rfl)) (.n (fun _ => op_or (.plain rfl) (.plain rfl) (.plain rfl) (fun h => eqF h)) (.nil _))))))))))))) ?_
  refine awp_cond rfl (fun h => ?_) (fun h => ?_)
  · try simp only [decide_eq_true_eq, decide_eq_false_iff_not, Bool.and_eq_true, Bool.or_eq_true, Bool.and_eq_false_iff, Bool.or_eq_false_iff, Bool.not_eq_true', Bool.not_eq_false', Bool.not_eq_true, Bool.not_eq_false, Bool.true_eq_false, Bool.false_eq_true] at h
    refine awp_seq ?_
    refine awp_region rfl (.n (fun _ => op_assign (.plain rfl)) (.nil _)) ?_
    refine awp_ret ?_
    refine retQ.ret ?_
    refine ret1 rfl rfl rfl ?_
    exact congrArg PV.i (roadsE_count h)
  · try simp only [decide_eq_true_eq, decide_eq_false_iff_not, Bool.and_eq_true, Bool.or_eq_true, Bool.and_eq_false_iff, Bool.or_eq_false_iff, Bool.not_eq_true', Bool.not_eq_false', Bool.not_eq_true, Bool.not_eq_false, Bool.true_eq_false, Bool.false_eq_true] at h
    refine awp_skip ?_
    refine awp_seq ?_
    refine awp_seq ?_
    refine awp_region rfl (.n (fun _ => op_fieldAddr Try.underlying24 rfl rfl Try.sizeOf22 (.plain rfl)) (.n (fun _ => op_load Try.isAgg22 (.plain rfl)) (.n (fun _ => op_len (s := 0) Try.underlying22 (.plain rfl)) (.n (fun _ => op_move (.plain rfl)) (.nil _))))) ?_
    refine awp_block ?_
    refine awp_loop (σ := Nat) (fun (k : Nat) => k ≤ co.length ∧ firstE (fun e => costRowE ch.length (co.getD e [])) k = 0) (fun (k : Nat) => ⟨[(1, .pv (.rd [.rows ch, .rows co])), (3, .int (ch.length : Nat)), (28, .pv (.rows co)), (29, .int (co.length : Nat)), (30, .int (k : Nat))], []⟩) (fun (k : Nat) => co.length - k) 0 ?_ (Ent.kept ⟨rfl, rfl, rfl, rfl, rfl, trivial⟩ trivial) ?_
    · exact ⟨Nat.zero_le _, rfl⟩
    rintro k hp
    try dsimp only at hp
    obtain ⟨hk, hE⟩ := hp
    refine awp_seq ?_
    refine awp_region rfl (.n (fun _ => op_lss (.plain rfl) (.plain rfl)) (.nil _)) ?_
    refine awp_seq ?_
    refine awp_cond rfl (fun h => ?_) (fun h => ?_)
    · try simp only [decide_eq_true_eq, decide_eq_false_iff_not, Bool.and_eq_true, Bool.or_eq_true, Bool.and_eq_false_iff, Bool.or_eq_false_iff, Bool.not_eq_true', Bool.not_eq_false', Bool.not_eq_true, Bool.not_eq_false, Bool.true_eq_false, Bool.false_eq_true] at h
      refine awp_skip ?_
      refine awp_seq ?_
      refine awp_block ?_
      refine awp_seq ?_
      refine awp_region rfl (.n (fun _ => op_indexAddrN Try.underlying22 Try.sizeOf25 (.plain rfl) (.plain rfl) (fun _ => rfl) ?_) (.n (fun _ => op_load Try.isAgg25 (.plain rfl)) (.n (fun _ => op_assign (.plain rfl)) (.nil _)))) ?_
      · omega
      refine awp_seq ?_
      refine awp_seq ?_
      refine awp_region rfl (.n (fun _ => op_move (.plain rfl)) (.n (fun _ => op_len (s := 0) Try.underlying25 (.plain rfl)) (.n (fun _ => op_move (.plain rfl)) (.n (fun _ => op_neq (.plain rfl) (.plain rfl)) (.nil _))))) ?_
      refine awp_cond rfl (fun h => ?_) (fun h => ?_)
      · try simp only [decide_eq_true_eq, decide_eq_false_iff_not, Bool.and_eq_true, Bool.or_eq_true, Bool.and_eq_false_iff, Bool.or_eq_false_iff, Bool.not_eq_true', Bool.not_eq_false', Bool.not_eq_true, Bool.not_eq_false, Bool.true_eq_false, Bool.false_eq_true] at h
        refine awp_seq ?_
        refine awp_region rfl (.n (fun _ => op_assign (.plain rfl)) (.nil _)) ?_
        refine awp_ret ?_
        refine retQ.ret ?_
        refine ret1 rfl rfl rfl ?_
        exact congrArg PV.i (roadsE_cost (by omega) hE (by omega) (costRowE_len h) (by omega))
      · try simp only [decide_eq_true_eq, decide_eq_false_iff_not, Bool.and_eq_true, Bool.or_eq_true, Bool.and_eq_false_iff, Bool.or_eq_false_iff, Bool.not_eq_true', Bool.not_eq_false', Bool.not_eq_true, Bool.not_eq_false, Bool.true_eq_false, Bool.false_eq_true] at h
        refine awp_skip ?_
        refine awp_seq ?_
        refine awp_region rfl (.n (fun _ => op_move (.plain rfl)) (.n (fun _ => op_len (s := 0) Try.underlying25 (.plain rfl)) (.n (fun _ => op_move (.plain rfl)) (.nil _)))) ?_
        refine awp_block ?_
        refine awp_loop (σ := Nat) (fun (j : Nat) => j ≤ (co.getD k []).length ∧ firstE (fun j => if (co.getD k []).getD j 0 < -999 ∨ 999 < (co.getD k []).getD j 0 then 9 else 0) j = 0) (fun (j : Nat) => ⟨[(1, .pv (.rd [.rows ch, .rows co])), (3, .int (ch.length : Nat)), (28, .pv (.rows co)), (29, .int (co.length : Nat)), (30, .int (k : Nat)), (38, .pv (.ints (co.getD k []))), (39, .int ((co.getD k []).length : Nat)), (40, .int (j : Nat))], []⟩) (fun (j : Nat) => (co.getD k []).length - j) 0 ?_ (Ent.kept ⟨rfl, rfl, rfl, rfl, rfl, rfl, rfl, rfl, trivial⟩ trivial) ?_
        · exact ⟨Nat.zero_le _, rfl⟩
        rintro j hp
        try dsimp only at hp
        obtain ⟨hj, hF⟩ := hp
        refine awp_seq ?_
        refine awp_region rfl (.n (fun _ => op_lss (.plain rfl) (.plain rfl)) (.nil _)) ?_
        refine awp_seq ?_
        refine awp_cond rfl (fun h => ?_) (fun h => ?_)
        · try simp only [decide_eq_true_eq, decide_eq_false_iff_not, Bool.and_eq_true, Bool.or_eq_true, Bool.and_eq_false_iff, Bool.or_eq_false_iff, Bool.not_eq_true', Bool.not_eq_false', Bool.not_eq_true, Bool.not_eq_false, Bool.true_eq_false, Bool.false_eq_true] at h
          refine awp_skip ?_
          refine awp_seq ?_
          refine awp_block ?_
          refine awp_seq ?_
          refine awp_region rfl (.n (fun _ => op_indexAddrN Try.underlying25 Try.sizeOf3 (.plain rfl) (.plain rfl) (fun _ => rfl) ?_) (.n (fun _ => op_load Try.isAgg3 (.plain rfl)) (.n (fun _ => op_assign (.plain rfl)) (.nil _)))) ?_
          · omega
          refine awp_seq ?_
          refine awp_region rfl (.n (fun _ => op_move (.plain rfl)) (.n (fun _ => op_lss (.plain rfl) (.plain rfl)) (.n (fun _ => op_move (.plain rfl)) (.gn rfl rfl (fun hg _ => op_move (.plain rfl)) (.gn rfl rfl (fun hg _ => op_gtr (.opt rfl fun h => h) (.plain rfl)) (.n (fun _ => op_or (.plain rfl) (.plain rfl) (.plain rfl) (fun h => eqF h)) (.nil _))))))) ?_
          refine awp_cond rfl (fun h => ?_) (fun h => ?_)
          · try simp only [decide_eq_true_eq, decide_eq_false_iff_not, Bool.and_eq_true, Bool.or_eq_true, Bool.and_eq_false_iff, Bool.or_eq_false_iff, Bool.not_eq_true', Bool.not_eq_false', Bool.not_eq_true, Bool.not_eq_false, Bool.true_eq_false, Bool.false_eq_true] at h
            refine awp_seq ?_
            refine awp_region rfl (.n (fun _ => op_assign (.plain rfl)) (.nil _)) ?_
            refine awp_ret ?_
            refine retQ.ret ?_
            refine ret1 rfl rfl rfl ?_
            exact congrArg PV.i (roadsE_cost (by omega) hE (by omega) (costRowE_val (by omega) hF (by omega) h) (by omega))
          · try simp only [decide_eq_true_eq, decide_eq_false_iff_not, Bool.and_eq_true, Bool.or_eq_true, Bool.and_eq_false_iff, Bool.or_eq_false_iff, Bool.not_eq_true', Bool.not_eq_false', Bool.not_eq_true, Bool.not_eq_false, Bool.true_eq_false, Bool.false_eq_true] at h
            refine awp_skip ?_
            refine awp_region rfl (.n (fun _ => op_add (.plain rfl) (.plain rfl) ?_) (.n (fun _ => op_move (.plain rfl)) (.nil _))) ?_
            · unfold InR; omega
            exact ⟨j + 1, ⟨by omega, firstE_succ hF (if_neg (by omega))⟩, by dsimp only; omega, (Ent.kept ⟨rfl, rfl, rfl, rfl, rfl, rfl, rfl, rfl, trivial⟩ trivial)⟩
        · try simp only [decide_eq_true_eq, decide_eq_false_iff_not, Bool.and_eq_true, Bool.or_eq_true, Bool.and_eq_false_iff, Bool.or_eq_false_iff, Bool.not_eq_true', Bool.not_eq_false', Bool.not_eq_true, Bool.not_eq_false, Bool.true_eq_false, Bool.false_eq_true] at h
          refine awp_exit ?_
          refine awp_region rfl (.n (fun _ => op_add (.plain rfl) (.plain rfl) ?_) (.n (fun _ => op_move (.plain rfl)) (.nil _))) ?_
          · unfold InR; omega
          exact ⟨k + 1, ⟨by omega, firstE_succ hE (costRowE_ok (by omega) hj hF (by omega))⟩, by dsimp only; omega, (Ent.kept ⟨rfl, rfl, rfl, rfl, rfl, trivial⟩ trivial)⟩
    · try simp only [decide_eq_true_eq, decide_eq_false_iff_not, Bool.and_eq_true, Bool.or_eq_true, Bool.and_eq_false_iff, Bool.or_eq_false_iff, Bool.not_eq_true', Bool.not_eq_false', Bool.not_eq_true, Bool.not_eq_false, Bool.true_eq_false, Bool.false_eq_true] at h
      refine awp_exit ?_
      refine awp_seq ?_
      refine awp_seq ?_
      refine awp_region rfl (.n (fun _ => op_fieldAddr Try.underlying24 rfl rfl Try.sizeOf22 (.plain rfl)) (.n (fun _ => op_load Try.isAgg22 (.plain rfl)) (.n (fun _ => op_len (s := 0) Try.underlying22 (.plain rfl)) (.n (fun _ => op_move (.plain rfl)) (.nil _))))) ?_
      refine awp_block ?_
      refine awp_loop (σ := Nat) (fun (k : Nat) => k ≤ ch.length ∧ firstE (fun e => chRowE co.length (ch.getD e [])) k = 0) (fun (k : Nat) => ⟨[(1, .pv (.rd [.rows ch, .rows co])), (53, .pv (.rows ch)), (54, .int (ch.length : Nat)), (55, .int (k : Nat))], []⟩) (fun (k : Nat) => ch.length - k) 0 ?_ (Ent.kept ⟨rfl, rfl, rfl, rfl, trivial⟩ trivial) ?_
      · exact ⟨Nat.zero_le _, rfl⟩
      rintro k hp
      try dsimp only at hp
      obtain ⟨hk, hE⟩ := hp
      refine awp_seq ?_
      refine awp_region rfl (.n (fun _ => op_lss (.plain rfl) (.plain rfl)) (.nil _)) ?_
      refine awp_seq ?_
      refine awp_cond rfl (fun h => ?_) (fun h => ?_)
      · try simp only [decide_eq_true_eq, decide_eq_false_iff_not, Bool.and_eq_true, Bool.or_eq_true, Bool.and_eq_false_iff, Bool.or_eq_false_iff, Bool.not_eq_true', Bool.not_eq_false', Bool.not_eq_true, Bool.not_eq_false, Bool.true_eq_false, Bool.false_eq_true] at h
        refine awp_skip ?_
        refine awp_seq ?_
        refine awp_block ?_
        refine awp_seq ?_
        refine awp_region rfl (.n (fun _ => op_indexAddrN Try.underlying22 Try.sizeOf25 (.plain rfl) (.plain rfl) (fun _ => rfl) ?_) (.n (fun _ => op_load Try.isAgg25 (.plain rfl)) (.n (fun _ => op_assign (.plain rfl)) (.nil _)))) ?_
        · omega
        refine awp_seq ?_
        refine awp_seq ?_
        refine awp_region rfl (.n (fun _ => op_move (.plain rfl)) (.n (fun _ => op_len (s := 0) Try.underlying25 (.plain rfl)) (.n (fun _ => op_lss (.plain rfl) (.plain rfl)) (.n (fun _ => op_move (.plain rfl)) (.gn rfl rfl (fun hg _ => op_move (.plain rfl)) (.gn rfl rfl (fun hg _ => op_len (s := 0) Try.underlying25 (.opt rfl fun h => h)) (.gn rfl rfl (fun hg _ => op_gtr (.opt rfl fun h => h) (.plain rfl)) (.n (fun _ => op_or (.plain rfl) (.plain rfl) (.plain rfl) (fun h => eqF h)) (.nil _))))))))) ?_
        refine awp_cond rfl (fun h => ?_) (fun h => ?_)
        · try simp only [decide_eq_true_eq, decide_eq_false_iff_not, Bool.and_eq_true, Bool.or_eq_true, Bool.and_eq_false_iff, Bool.or_eq_false_iff, Bool.not_eq_true', Bool.not_eq_false', Bool.not_eq_true, Bool.not_eq_false, Bool.true_eq_false, Bool.false_eq_true] at h
          refine awp_seq ?_
          refine awp_region rfl (.n (fun _ => op_assign (.plain rfl)) (.nil _)) ?_
          refine awp_ret ?_
          refine retQ.ret ?_
          refine ret1 rfl rfl rfl ?_
          exact congrArg PV.i (roadsE_ch (by omega) (by assumption) (by assumption) (by omega) hE (by omega) (chRowE_len h) (by omega))
        · try simp only [decide_eq_true_eq, decide_eq_false_iff_not, Bool.and_eq_true, Bool.or_eq_true, Bool.and_eq_false_iff, Bool.or_eq_false_iff, Bool.not_eq_true', Bool.not_eq_false', Bool.not_eq_true, Bool.not_eq_false, Bool.true_eq_false, Bool.false_eq_true] at h
          refine awp_skip ?_
          refine awp_seq ?_
          refine awp_region rfl (.n (fun _ => op_move (.plain rfl)) (.n (fun _ => op_len (s := 0) Try.underlying25 (.plain rfl)) (.n (fun _ => op_move (.plain rfl)) (.nil _)))) ?_
          refine awp_block ?_
          refine awp_loop (σ := Nat) (fun (j : Nat) => j ≤ (ch.getD k []).length ∧ firstE (fun j => if (ch.getD k []).getD j 0 < 0 ∨ 2 ^ co.length ≤ (ch.getD k []).getD j 0 then 8 else 0) j = 0) (fun (j : Nat) => ⟨[(1, .pv (.rd [.rows ch, .rows co])), (53, .pv (.rows ch)), (54, .int (ch.length : Nat)), (55, .int (k : Nat)), (67, .pv (.ints (ch.getD k []))), (68, .int ((ch.getD k []).length : Nat)), (69, .int (j : Nat))], []⟩) (fun (j : Nat) => (ch.getD k []).length - j) 0 ?_ (Ent.kept ⟨rfl, rfl, rfl, rfl, rfl, rfl, rfl, trivial⟩ trivial) ?_
          · exact ⟨Nat.zero_le _, rfl⟩
          rintro j hp
          try dsimp only at hp
          obtain ⟨hj, hF⟩ := hp
          have hp2 : (2 : Int) ^ ((co.length : Nat) : Int).toNat = 2 ^ co.length := by rw [Int.toNat_natCast]
          have hp3 := two_pow_nat co.length
          have hp4 := two_pow_bd (show co.length ≤ 6 by omega)
          refine awp_seq ?_
          refine awp_region rfl (.n (fun _ => op_lss (.plain rfl) (.plain rfl)) (.nil _)) ?_
          refine awp_seq ?_
          refine awp_cond rfl (fun h => ?_) (fun h => ?_)
          · try simp only [decide_eq_true_eq, decide_eq_false_iff_not, Bool.and_eq_true, Bool.or_eq_true, Bool.and_eq_false_iff, Bool.or_eq_false_iff, Bool.not_eq_true', Bool.not_eq_false', Bool.not_eq_true, Bool.not_eq_false, Bool.true_eq_false, Bool.false_eq_true] at h
            refine awp_skip ?_
            refine awp_seq ?_
            refine awp_block ?_
            refine awp_seq ?_
            refine awp_region rfl (.n (fun _ => op_indexAddrN Try.underlying25 Try.sizeOf3 (.plain rfl) (.plain rfl) (fun _ => rfl) ?_) (.n (fun _ => op_load Try.isAgg3 (.plain rfl)) (.n (fun _ => op_assign (.plain rfl)) (.nil _)))) ?_
            · omega
            refine awp_seq ?_
            refine awp_region rfl (.n (fun _ => op_move (.plain rfl)) (.n (fun _ => op_lss (.plain rfl) (.plain rfl)) (.n (fun _ => op_move (.plain rfl)) (.gn rfl rfl (fun hg _ => op_move (.plain rfl)) (.gn rfl rfl (fun hg _ => op_fieldAddr Try.underlying24 rfl rfl Try.sizeOf22 (.plain rfl)) (.gn rfl rfl (fun hg _ => op_load Try.isAgg22 (.opt rfl fun h => h)) (.gn rfl rfl (fun hg _ => op_len (s := 0) Try.underlying22 (.opt rfl fun h => h)) (.gn rfl rfl (fun hg _ => op_shl (.plain rfl) (.opt rfl fun h => h) ?_) (.gn rfl rfl (fun hg _ => op_geq (.opt rfl fun h => h) (.opt rfl fun h => h)) (.n (fun _ => op_or (.plain rfl) (.plain rfl) (.plain rfl) (fun h => eqF h)) (.nil _))))))))))) ?_
            · try simp only [beq_iff_eq, beq_true, beq_false, Bool.and_eq_true, decide_eq_true_eq, decide_eq_false_iff_not, Bool.not_eq_true', Bool.or_eq_true, Bool.or_eq_false_iff] at hg
              unfold InR; omega
            refine awp_cond rfl (fun h => ?_) (fun h => ?_)
            · try simp only [decide_eq_true_eq, decide_eq_false_iff_not, Bool.and_eq_true, Bool.or_eq_true, Bool.and_eq_false_iff, Bool.or_eq_false_iff, Bool.not_eq_true', Bool.not_eq_false', Bool.not_eq_true, Bool.not_eq_false, Bool.true_eq_false, Bool.false_eq_true] at h
              refine awp_seq ?_
              refine awp_region rfl (.n (fun _ => op_assign (.plain rfl)) (.nil _)) ?_
              refine awp_ret ?_
              refine retQ.ret ?_
              refine ret1 rfl rfl rfl ?_
              exact congrArg PV.i (roadsE_ch (by omega) (by assumption) (by assumption) (by omega) hE (by omega) (chRowE_val (by omega) hF (by omega) (by omega)) (by omega))
            · try simp only [decide_eq_true_eq, decide_eq_false_iff_not, Bool.and_eq_true, Bool.or_eq_true, Bool.and_eq_false_iff, Bool.or_eq_false_iff, Bool.not_eq_true', Bool.not_eq_false', Bool.not_eq_true, Bool.not_eq_false, Bool.true_eq_false, Bool.false_eq_true] at h
              refine awp_skip ?_
              refine awp_region rfl (.n (fun _ => op_add (.plain rfl) (.plain rfl) ?_) (.n (fun _ => op_move (.plain rfl)) (.nil _))) ?_
              · unfold InR; omega
              exact ⟨j + 1, ⟨by omega, firstE_succ hF (if_neg (by omega))⟩, by dsimp only; omega, (Ent.kept ⟨rfl, rfl, rfl, rfl, rfl, rfl, rfl, trivial⟩ trivial)⟩
          · try simp only [decide_eq_true_eq, decide_eq_false_iff_not, Bool.and_eq_true, Bool.or_eq_true, Bool.and_eq_false_iff, Bool.or_eq_false_iff, Bool.not_eq_true', Bool.not_eq_false', Bool.not_eq_true, Bool.not_eq_false, Bool.true_eq_false, Bool.false_eq_true] at h
            refine awp_exit ?_
            refine awp_region rfl (.n (fun _ => op_add (.plain rfl) (.plain rfl) ?_) (.n (fun _ => op_move (.plain rfl)) (.nil _))) ?_
            · unfold InR; omega
            exact ⟨k + 1, ⟨by omega, firstE_succ hE (chRowE_ok (by omega) hj hF (by omega))⟩, by dsimp only; omega, (Ent.kept ⟨rfl, rfl, rfl, rfl, trivial⟩ trivial)⟩
      · try simp only [decide_eq_true_eq, decide_eq_false_iff_not, Bool.and_eq_true, Bool.or_eq_true, Bool.and_eq_false_iff, Bool.or_eq_false_iff, Bool.not_eq_true', Bool.not_eq_false', Bool.not_eq_true, Bool.not_eq_false, Bool.true_eq_false, Bool.false_eq_true] at h
        refine awp_exit ?_
        refine awp_seq ?_
        refine awp_region rfl (.n (fun _ => op_assign (.plain rfl)) (.nil _)) ?_
        refine awp_ret ?_
        refine retQ.ret ?_
        refine ret1 rfl rfl rfl ?_
        exact congrArg PV.i (roadsE_ok (by omega) (by assumption) (by assumption) (by omega) hk hE (by omega))

theorem RoadsMay_fc (ch co : List (List Int)) : FC Try.prog 11 [.agg [.rows ch, .rows co]] (.i (roadsE ch co)) := by
  refine FC.intro Try.func11 rfl (Nat.le_of_ble_eq_true rfl) fun hfit => ?_
  have fit0 := hfit _ (.head _)
  have fch := ((hfit _ (.head _)).mem (.head _)).rows
  have fco := ((hfit _ (.head _)).mem (.tail _ (.head _))).rows
  refine awp_seq ?_
  refine awp_region rfl (.n (fun _ => op_box (.plain rfl) (by simp)) (.n (fun _ => op_assign (.plain rfl)) (.nil _))) ?_
  refine awp_seq ?_
  refine awp_region rfl (.n (fun _ => op_fieldAddr Try.underlying24 rfl rfl Try.sizeOf22 (.plain rfl)) (.n (fun _ => op_load Try.isAgg22 (.plain rfl)) (.n (fun _ => op_len (s := 0) Try.underlying22 (.plain rfl)) (.n (fun _ => op_assign (.plain rfl)) (.nil _))))) ?_
  refine awp_seq ?_
  refine awp_seq ?_
  refine awp_region rfl (.n (fun _ => op_move (.plain rfl)) (.n (fun _ => op_lss (.plain rfl) (.plain rfl)) (.n (fun _ => op_move (.plain rfl)) (.gn rfl rfl (fun hg _ => op_move (.plain rfl)) (.gn rfl rfl (fun hg _ => op_gtr (.opt rfl fun h => h) (.plain rfl)) (.n (fun _ => op_or (.plain rfl) (.plain rfl) (.plain rfl) (fun h => eqF h)) (.n (fun _ => op_move (.plain rfl)) (.gn rfl rfl (fun hg _ => op_fieldAddr Try.underlying24 rfl rfl Try.sizeOf22 (.plain rfl)) (.gn rfl rfl (fun hg _ => op_load Try.isAgg22 (.opt rfl fun h => h)) (.gn rfl rfl (fun hg _ => op_len (s := 0) Try.underlying22 (.opt rfl fun h => h)) (.gn rfl rfl (fun hg _ => op_gtr (.opt rfl fun h => h) (.plain rfl)) (.n (fun _ => op_or (.plain rfl) (.plain rfl) (.plain rfl) (fun h => eqF h)) (.nil _))))))))))))) ?_
  refine awp_cond rfl (fun h => ?_) (fun h => ?_)
  · try simp only [decide_eq_true_eq, decide_eq_false_iff_not, Bool.and_eq_true, Bool.or_eq_true, Bool.and_eq_false_iff, Bool.or_eq_false_iff, Bool.not_eq_true', Bool.not_eq_false', Bool.not_eq_true, Bool.not_eq_false, Bool.true_eq_false, Bool.false_eq_true] at h
    refine awp_seq ?_
    refine awp_region rfl (.n (fun _ => op_assign (.plain rfl)) (.nil _)) ?_
    refine awp_ret ?_
    refine retQ.ret ?_
    refine ret1 rfl rfl rfl ?_
    exact congrArg PV.i (roadsE_count h)
  · try simp only [decide_eq_true_eq, decide_eq_false_iff_not, Bool.and_eq_true, Bool.or_eq_true, Bool.and_eq_false_iff, Bool.or_eq_false_iff, Bool.not_eq_true', Bool.not_eq_false', Bool.not_eq_true, Bool.not_eq_false, Bool.true_eq_false, Bool.false_eq_true] at h
    refine awp_skip ?_
    refine awp_seq ?_
    refine awp_seq ?_
    refine awp_region rfl (.n (fun _ => op_assign (.plain rfl)) (.nil _)) ?_
    refine awp_block ?_
    refine awp_loop (σ := Nat) (fun (k : Nat) => k ≤ co.length ∧ firstE (fun e => costRowE ch.length (co.getD e [])) k = 0) (fun (k : Nat) => ⟨[(1, .pv (.rd [.rows ch, .rows co])), (3, .int (ch.length : Nat)), (4, .int (k : Nat))], []⟩) (fun (k : Nat) => co.length - k) 0 ?_ (Ent.kept ⟨rfl, rfl, rfl, trivial⟩ trivial) ?_
    · exact ⟨Nat.zero_le _, rfl⟩
    rintro k hp
    try dsimp only at hp
    obtain ⟨hk, hE⟩ := hp
    refine awp_seq ?_
    refine awp_seq ?_
    refine awp_region rfl (.n (fun _ => op_move (.plain rfl)) (.n (fun _ => op_fieldAddr Try.underlying24 rfl rfl Try.sizeOf22 (.plain rfl)) (.n (fun _ => op_load Try.isAgg22 (.plain rfl)) (.n (fun _ => op_len (s := 0) Try.underlying22 (.plain rfl)) (.n (fun _ => op_lss (.plain rfl) (.plain rfl)) (.nil _)))))) ?_
    refine awp_cond rfl (fun h => ?_) (fun h => ?_)
    · try simp only [decide_eq_true_eq, decide_eq_false_iff_not, Bool.and_eq_true, Bool.or_eq_true, Bool.and_eq_false_iff, Bool.or_eq_false_iff, Bool.not_eq_true', Bool.not_eq_false', Bool.not_eq_true, Bool.not_eq_false, Bool.true_eq_false, Bool.false_eq_true] at h
      refine awp_skip ?_
      refine awp_seq ?_
      refine awp_block ?_
      refine awp_seq ?_
      refine awp_seq ?_
      refine awp_region rfl (.n (fun _ => op_fieldAddr Try.underlying24 rfl rfl Try.sizeOf22 (.plain rfl)) (.n (fun _ => op_load Try.isAgg22 (.plain rfl)) (.n (fun _ => op_move (.plain rfl)) (.n (fun _ => op_indexAddrN Try.underlying22 Try.sizeOf25 (.plain rfl) (.plain rfl) (fun _ => rfl) ?_) (.n (fun _ => op_load Try.isAgg25 (.plain rfl)) (.n (fun _ => op_len (s := 0) Try.underlying25 (.plain rfl)) (.n (fun _ => op_move (.plain rfl)) (.n (fun _ => op_neq (.plain rfl) (.plain rfl)) (.nil _))))))))) ?_
      · omega
      refine awp_cond rfl (fun h => ?_) (fun h => ?_)
      · try simp only [decide_eq_true_eq, decide_eq_false_iff_not, Bool.and_eq_true, Bool.or_eq_true, Bool.and_eq_false_iff, Bool.or_eq_false_iff, Bool.not_eq_true', Bool.not_eq_false', Bool.not_eq_true, Bool.not_eq_false, Bool.true_eq_false, Bool.false_eq_true] at h
        refine awp_seq ?_
        refine awp_region rfl (.n (fun _ => op_assign (.plain rfl)) (.nil _)) ?_
        refine awp_ret ?_
        refine retQ.ret ?_
        refine ret1 rfl rfl rfl ?_
        exact congrArg PV.i (roadsE_cost (by omega) hE (by omega) (costRowE_len h) (by omega))
      · try simp only [decide_eq_true_eq, decide_eq_false_iff_not, Bool.and_eq_true, Bool.or_eq_true, Bool.and_eq_false_iff, Bool.or_eq_false_iff, Bool.not_eq_true', Bool.not_eq_false', Bool.not_eq_true, Bool.not_eq_false, Bool.true_eq_false, Bool.false_eq_true] at h
        refine awp_skip ?_
        refine awp_seq ?_
        refine awp_region rfl (.n (fun _ => op_assign (.plain rfl)) (.nil _)) ?_
        refine awp_block ?_
        refine awp_loop (σ := Nat) (fun (j : Nat) => j ≤ (co.getD k []).length ∧ firstE (fun j => if (co.getD k []).getD j 0 < -999 ∨ 999 < (co.getD k []).getD j 0 then 9 else 0) j = 0) (fun (j : Nat) => ⟨[(1, .pv (.rd [.rows ch, .rows co])), (3, .int (ch.length : Nat)), (4, .int (k : Nat)), (5, .int (j : Nat))], []⟩) (fun (j : Nat) => (co.getD k []).length - j) 0 ?_ (Ent.kept ⟨rfl, rfl, rfl, rfl, trivial⟩ trivial) ?_
        · exact ⟨Nat.zero_le _, rfl⟩
        rintro j hp
        try dsimp only at hp
        obtain ⟨hj, hF⟩ := hp
        refine awp_seq ?_
        refine awp_seq ?_
        refine awp_region rfl (.n (fun _ => op_move (.plain rfl)) (.n (fun _ => op_move (.plain rfl)) (.n (fun _ => op_lss (.plain rfl) (.plain rfl)) (.nil _)))) ?_
        refine awp_cond rfl (fun h => ?_) (fun h => ?_)
        · try simp only [decide_eq_true_eq, decide_eq_false_iff_not, Bool.and_eq_true, Bool.or_eq_true, Bool.and_eq_false_iff, Bool.or_eq_false_iff, Bool.not_eq_true', Bool.not_eq_false', Bool.not_eq_true, Bool.not_eq_false, Bool.true_eq_false, Bool.false_eq_true] at h
          refine awp_skip ?_
          refine awp_seq ?_
          refine awp_block ?_
          refine awp_seq ?_
          refine awp_region rfl (.n (fun _ => op_fieldAddr Try.underlying24 rfl rfl Try.sizeOf22 (.plain rfl)) (.n (fun _ => op_load Try.isAgg22 (.plain rfl)) (.n (fun _ => op_move (.plain rfl)) (.n (fun _ => op_indexAddrN Try.underlying22 Try.sizeOf25 (.plain rfl) (.plain rfl) (fun _ => rfl) ?_) (.n (fun _ => op_load Try.isAgg25 (.plain rfl)) (.n (fun _ => op_move (.plain rfl)) (.n (fun _ => op_indexAddrN Try.underlying25 Try.sizeOf3 (.plain rfl) (.plain rfl) (fun _ => rfl) ?_) (.n (fun _ => op_load Try.isAgg3 (.plain rfl)) (.n (fun _ => op_lss (.plain rfl) (.plain rfl)) (.n (fun _ => op_move (.plain rfl)) (.gn rfl rfl (fun hg _ => op_fieldAddr Try.underlying24 rfl rfl Try.sizeOf22 (.plain rfl)) (.gn rfl rfl (fun hg _ => op_load Try.isAgg22 (.opt rfl fun h => h)) (.gn rfl rfl (fun hg _ => op_move (.plain rfl)) (.gn rfl rfl (fun hg _ => op_indexAddrN Try.underlying22 Try.sizeOf25 (.opt rfl fun h => h) (.opt rfl fun h => h) (fun _ => rfl) ?_) (.gn rfl rfl (fun hg _ => op_load Try.isAgg25 (.opt rfl fun h => h)) (.gn rfl rfl (fun hg _ => op_move (.plain rfl)) (.gn rfl rfl (fun hg _ => op_indexAddrN Try.underlying25 Try.sizeOf3 (.opt rfl fun h => h) (.opt rfl fun h => h) (fun _ => rfl) ?_) (.gn rfl rfl (fun hg _ => op_load Try.isAgg3 (.opt rfl fun h => h)) (.gn rfl rfl (fun hg _ => op_gtr (.opt rfl fun h => h) (.plain rfl)) (.n (fun _ => op_or (.plain rfl) (.plain rfl) (.plain rfl) (fun h => eqF h)) (.nil _))))))))))))))))))))) ?_
          · omega
          · omega
          · try simp only [beq_iff_eq, beq_true, beq_false, Bool.and_eq_true, decide_eq_true_eq, decide_eq_false_iff_not, Bool.not_eq_true', Bool.or_eq_true, Bool.or_eq_false_iff] at hg
            omega
          · try simp only [beq_iff_eq, beq_true, beq_false, Bool.and_eq_true, decide_eq_true_eq, decide_eq_false_iff_not, Bool.not_eq_true', Bool.or_eq_true, Bool.or_eq_false_iff] at hg
            omega
          refine awp_cond rfl (fun h => ?_) (fun h => ?_)
          · try simp only [decide_eq_true_eq, decide_eq_false_iff_not, Bool.and_eq_true, Bool.or_eq_true, Bool.and_eq_false_iff, Bool.or_eq_false_iff, Bool.not_eq_true', Bool.not_eq_false', Bool.not_eq_true, Bool.not_eq_false, Bool.true_eq_false, Bool.false_eq_true] at h
            refine awp_seq ?_
            refine awp_region rfl (.n (fun _ => op_assign (.plain rfl)) (.nil _)) ?_
            refine awp_ret ?_
            refine retQ.ret ?_
            refine ret1 rfl rfl rfl ?_
            exact congrArg PV.i (roadsE_cost (by omega) hE (by omega) (costRowE_val (by omega) hF (by omega) h) (by omega))
          · try simp only [decide_eq_true_eq, decide_eq_false_iff_not, Bool.and_eq_true, Bool.or_eq_true, Bool.and_eq_false_iff, Bool.or_eq_false_iff, Bool.not_eq_true', Bool.not_eq_false', Bool.not_eq_true, Bool.not_eq_false, Bool.true_eq_false, Bool.false_eq_true] at h
            refine awp_skip ?_
            refine awp_region rfl (.n (fun _ => op_move (.plain rfl)) (.n (fun _ => op_add (.plain rfl) (.plain rfl) ?_) (.n (fun _ => op_assign (.plain rfl)) (.nil _)))) ?_
            · unfold InR; omega
            exact ⟨j + 1, ⟨by omega, firstE_succ hF (if_neg (by omega))⟩, by dsimp only; omega, (Ent.kept ⟨rfl, rfl, rfl, rfl, trivial⟩ trivial)⟩
        · try simp only [decide_eq_true_eq, decide_eq_false_iff_not, Bool.and_eq_true, Bool.or_eq_true, Bool.and_eq_false_iff, Bool.or_eq_false_iff, Bool.not_eq_true', Bool.not_eq_false', Bool.not_eq_true, Bool.not_eq_false, Bool.true_eq_false, Bool.false_eq_true] at h
          refine awp_exit ?_
          refine awp_region rfl (.n (fun _ => op_move (.plain rfl)) (.n (fun _ => op_add (.plain rfl) (.plain rfl) ?_) (.n (fun _ => op_assign (.plain rfl)) (.nil _)))) ?_
          · unfold InR; omega
          exact ⟨k + 1, ⟨by omega, firstE_succ hE (costRowE_ok (by omega) (by omega) hF (by omega))⟩, by dsimp only; omega, (Ent.kept ⟨rfl, rfl, rfl, trivial⟩ trivial)⟩
    · try simp only [decide_eq_true_eq, decide_eq_false_iff_not, Bool.and_eq_true, Bool.or_eq_true, Bool.and_eq_false_iff, Bool.or_eq_false_iff, Bool.not_eq_true', Bool.not_eq_false', Bool.not_eq_true, Bool.not_eq_false, Bool.true_eq_false, Bool.false_eq_true] at h
      refine awp_exit ?_
      refine awp_seq ?_
      refine awp_seq ?_
      refine awp_region rfl (.n (fun _ => op_assign (.plain rfl)) (.nil _)) ?_
      refine awp_block ?_
      refine awp_loop (σ := Nat) (fun (k : Nat) => k ≤ ch.length ∧ firstE (fun e => chRowE co.length (ch.getD e [])) k = 0) (fun (k : Nat) => ⟨[(1, .pv (.rd [.rows ch, .rows co])), (3, .int (ch.length : Nat)), (6, .int (k : Nat))], []⟩) (fun (k : Nat) => ch.length - k) 0 ?_ (Ent.kept ⟨rfl, rfl, rfl, trivial⟩ trivial) ?_
      · exact ⟨Nat.zero_le _, rfl⟩
      rintro k hp
      try dsimp only at hp
      obtain ⟨hk, hE⟩ := hp
      refine awp_seq ?_
      refine awp_seq ?_
      refine awp_region rfl (.n (fun _ => op_move (.plain rfl)) (.n (fun _ => op_move (.plain rfl)) (.n (fun _ => op_lss (.plain rfl) (.plain rfl)) (.nil _)))) ?_
      refine awp_cond rfl (fun h => ?_) (fun h => ?_)
      · try simp only [decide_eq_true_eq, decide_eq_false_iff_not, Bool.and_eq_true, Bool.or_eq_true, Bool.and_eq_false_iff, Bool.or_eq_false_iff, Bool.not_eq_true', Bool.not_eq_false', Bool.not_eq_true, Bool.not_eq_false, Bool.true_eq_false, Bool.false_eq_true] at h
        refine awp_skip ?_
        refine awp_seq ?_
        refine awp_block ?_
        refine awp_seq ?_
        refine awp_seq ?_
        refine awp_region rfl (.n (fun _ => op_fieldAddr Try.underlying24 rfl rfl Try.sizeOf22 (.plain rfl)) (.n (fun _ => op_load Try.isAgg22 (.plain rfl)) (.n (fun _ => op_move (.plain rfl)) (.n (fun _ => op_indexAddrN Try.underlying22 Try.sizeOf25 (.plain rfl) (.plain rfl) (fun _ => rfl) ?_) (.n (fun _ => op_load Try.isAgg25 (.plain rfl)) (.n (fun _ => op_len (s := 0) Try.underlying25 (.plain rfl)) (.n (fun _ => op_lss (.plain rfl) (.plain rfl)) (.n (fun _ => op_move (.plain rfl)) (.gn rfl rfl (fun hg _ => op_fieldAddr Try.underlying24 rfl rfl Try.sizeOf22 (.plain rfl)) (.gn rfl rfl (fun hg _ => op_load Try.isAgg22 (.opt rfl fun h => h)) (.gn rfl rfl (fun hg _ => op_move (.plain rfl)) (.gn rfl rfl (fun hg _ => op_indexAddrN Try.underlying22 Try.sizeOf25 (.opt rfl fun h => h) (.opt rfl fun h => h) (fun _ => rfl) ?_) (.gn rfl rfl (fun hg _ => op_load Try.isAgg25 (.opt rfl fun h => h)) (.gn rfl rfl (fun hg _ => op_len (s := 0) Try.underlying25 (.opt rfl fun h => h)) (.gn rfl rfl (fun hg _ => op_gtr (.opt rfl fun h => h) (.plain rfl)) (.n (fun _ => op_or (.plain rfl) (.plain rfl) (.plain rfl) (fun h => eqF h)) (.nil _))))))))))))))))) ?_
        · omega
        · try simp only [beq_iff_eq, beq_true, beq_false, Bool.and_eq_true, decide_eq_true_eq, decide_eq_false_iff_not, Bool.not_eq_true', Bool.or_eq_true, Bool.or_eq_false_iff] at hg
          omega
        refine awp_cond rfl (fun h => ?_) (fun h => ?_)
        · try simp only [decide_eq_true_eq, decide_eq_false_iff_not, Bool.and_eq_true, Bool.or_eq_true, Bool.and_eq_false_iff, Bool.or_eq_false_iff, Bool.not_eq_true', Bool.not_eq_false', Bool.not_eq_true, Bool.not_eq_false, Bool.true_eq_false, Bool.false_eq_true] at h
          refine awp_seq ?_
          refine awp_region rfl (.n (fun _ => op_assign (.plain rfl)) (.nil _)) ?_
          refine awp_ret ?_
          refine retQ.ret ?_
          refine ret1 rfl rfl rfl ?_
          exact congrArg PV.i (roadsE_ch (by omega) (by assumption) (by assumption) (by omega) hE (by omega) (chRowE_len h) (by omega))
        · try simp only [decide_eq_true_eq, decide_eq_false_iff_not, Bool.and_eq_true, Bool.or_eq_true, Bool.and_eq_false_iff, Bool.or_eq_false_iff, Bool.not_eq_true', Bool.not_eq_false', Bool.not_eq_true, Bool.not_eq_false, Bool.true_eq_false, Bool.false_eq_true] at h
          refine awp_skip ?_
          refine awp_seq ?_
          refine awp_region rfl (.n (fun _ => op_assign (.plain rfl)) (.nil _)) ?_
          refine awp_block ?_
          refine awp_loop (σ := Nat) (fun (j : Nat) => j ≤ (ch.getD k []).length ∧ firstE (fun j => if (ch.getD k []).getD j 0 < 0 ∨ 2 ^ co.length ≤ (ch.getD k []).getD j 0 then 8 else 0) j = 0) (fun (j : Nat) => ⟨[(1, .pv (.rd [.rows ch, .rows co])), (3, .int (ch.length : Nat)), (6, .int (k : Nat)), (7, .int (j : Nat))], []⟩) (fun (j : Nat) => (ch.getD k []).length - j) 0 ?_ (Ent.kept ⟨rfl, rfl, rfl, rfl, trivial⟩ trivial) ?_
          · exact ⟨Nat.zero_le _, rfl⟩
          rintro j hp
          try dsimp only at hp
          obtain ⟨hj, hF⟩ := hp
          have hp2 : (2 : Int) ^ ((co.length : Nat) : Int).toNat = 2 ^ co.length := by rw [Int.toNat_natCast]
          have hp3 := two_pow_nat co.length
          have hp4 := two_pow_bd (show co.length ≤ 6 by omega)
          refine awp_seq ?_
          refine awp_seq ?_
          refine awp_region rfl (.n (fun _ => op_move (.plain rfl)) (.n (fun _ => op_fieldAddr Try.underlying24 rfl rfl Try.sizeOf22 (.plain rfl)) (.n (fun _ => op_load Try.isAgg22 (.plain rfl)) (.n (fun _ => op_move (.plain rfl)) (.n (fun _ => op_indexAddrN Try.underlying22 Try.sizeOf25 (.plain rfl) (.plain rfl) (fun _ => rfl) ?_) (.n (fun _ => op_load Try.isAgg25 (.plain rfl)) (.n (fun _ => op_len (s := 0) Try.underlying25 (.plain rfl)) (.n (fun _ => op_lss (.plain rfl) (.plain rfl)) (.nil _))))))))) ?_
          · omega
          refine awp_cond rfl (fun h => ?_) (fun h => ?_)
          · try simp only [decide_eq_true_eq, decide_eq_false_iff_not, Bool.and_eq_true, Bool.or_eq_true, Bool.and_eq_false_iff, Bool.or_eq_false_iff, Bool.not_eq_true', Bool.not_eq_false', Bool.not_eq_true, Bool.not_eq_false, Bool.true_eq_false, Bool.false_eq_true] at h
            refine awp_skip ?_
            refine awp_seq ?_
            refine awp_block ?_
            refine awp_seq ?_
            refine awp_region_draw mixed rfl (.n (fun _ => op_fieldAddr Try.underlying24 rfl rfl Try.sizeOf22 (.plain rfl)) (.n (fun _ => op_load Try.isAgg22 (.plain rfl)) (.n (fun _ => op_move (.plain rfl)) (.n (fun _ => op_indexAddrN Try.underlying22 Try.sizeOf25 (.plain rfl) (.plain rfl) (fun _ => rfl) ?_) (.n (fun _ => op_load Try.isAgg25 (.plain rfl)) (.n (fun _ => op_move (.plain rfl)) (.n (fun _ => op_indexAddrN Try.underlying25 Try.sizeOf3 (.plain rfl) (.plain rfl) (fun _ => rfl) ?_) (.n (fun _ => op_load Try.isAgg3 (.plain rfl)) (.n (fun _ => op_lss (.plain rfl) (.plain rfl)) (.n (fun _ => op_move (.plain rfl)) (.gn rfl rfl (fun hg _ => op_fieldAddr Try.underlying24 rfl rfl Try.sizeOf22 (.plain rfl)) (.gn rfl rfl (fun hg _ => op_load Try.isAgg22 (.opt rfl fun h => h)) (.gn rfl rfl (fun hg _ => op_move (.plain rfl)) (.gn rfl rfl (fun hg _ => op_indexAddrN Try.underlying22 Try.sizeOf25 (.opt rfl fun h => h) (.opt rfl fun h => h) (fun _ => rfl) ?_) (.gn rfl rfl (fun hg _ => op_load Try.isAgg25 (.opt rfl fun h => h)) (.gn rfl rfl (fun hg _ => op_move (.plain rfl)) (.gn rfl rfl (fun hg _ => op_indexAddrN Try.underlying25 Try.sizeOf3 (.opt rfl fun h => h) (.opt rfl fun h => h) (fun _ => rfl) ?_) (.gn rfl rfl (fun hg _ => op_load Try.isAgg3 (.opt rfl fun h => h)) (.gn rfl rfl (fun hg _ => op_fieldAddr Try.underlying24 rfl rfl Try.sizeOf22 (.plain rfl)) (.gn rfl rfl (fun hg _ => op_load Try.isAgg22 (.opt rfl fun h => h)) (.gn rfl rfl (fun hg _ => op_len (s := 0) Try.underlying22 (.opt rfl fun h => h)) (.gn rfl rfl (fun hg _ => op_shl (.plain rfl) (.opt rfl fun h => h) ?_) (.gn rfl rfl (fun hg _ => op_geq (.opt rfl fun h => h) (.opt rfl fun h => h)) (.n (fun _ => op_or (.plain rfl) (.plain rfl) (.plain rfl) (fun h => eqF h)) (.nil _))))))))))))))))))))))))) ?d2 ?_
            · omega
            · omega
            · try simp only [beq_iff_eq, beq_true, beq_false, Bool.and_eq_true, decide_eq_true_eq, decide_eq_false_iff_not, Bool.not_eq_true', Bool.or_eq_true, Bool.or_eq_false_iff] at hg
              omega
            · try simp only [beq_iff_eq, beq_true, beq_false, Bool.and_eq_true, decide_eq_true_eq, decide_eq_false_iff_not, Bool.not_eq_true', Bool.or_eq_true, Bool.or_eq_false_iff] at hg
              omega
            · try simp only [beq_iff_eq, beq_true, beq_false, Bool.and_eq_true, decide_eq_true_eq, decide_eq_false_iff_not, Bool.not_eq_true', Bool.or_eq_true, Bool.or_eq_false_iff] at hg
              unfold InR; omega
            · kernel_rfl
            refine awp_cond rfl (fun h => ?_) (fun h => ?_)
            · try simp only [decide_eq_true_eq, decide_eq_false_iff_not, Bool.and_eq_true, Bool.or_eq_true, Bool.and_eq_false_iff, Bool.or_eq_false_iff, Bool.not_eq_true', Bool.not_eq_false', Bool.not_eq_true, Bool.not_eq_false, Bool.true_eq_false, Bool.false_eq_true] at h
              refine awp_seq ?_
              refine awp_region rfl (.n (fun _ => op_assign (.plain rfl)) (.nil _)) ?_
              refine awp_ret ?_
              refine retQ.ret ?_
              refine ret1 rfl rfl rfl ?_
              exact congrArg PV.i (roadsE_ch (by omega) (by assumption) (by assumption) (by omega) hE (by omega) (chRowE_val (by omega) hF (by omega) (by omega)) (by omega))
            · try simp only [decide_eq_true_eq, decide_eq_false_iff_not, Bool.and_eq_true, Bool.or_eq_true, Bool.and_eq_false_iff, Bool.or_eq_false_iff, Bool.not_eq_true', Bool.not_eq_false', Bool.not_eq_true, Bool.not_eq_false, Bool.true_eq_false, Bool.false_eq_true] at h
              refine awp_skip ?_
              refine awp_region rfl (.n (fun _ => op_move (.plain rfl)) (.n (fun _ => op_add (.plain rfl) (.plain rfl) ?_) (.n (fun _ => op_assign (.plain rfl)) (.nil _)))) ?_
              · unfold InR; omega
              exact ⟨j + 1, ⟨by omega, firstE_succ hF (if_neg (by omega))⟩, by dsimp only; omega, (Ent.kept ⟨rfl, rfl, rfl, rfl, trivial⟩ trivial)⟩
          · try simp only [decide_eq_true_eq, decide_eq_false_iff_not, Bool.and_eq_true, Bool.or_eq_true, Bool.and_eq_false_iff, Bool.or_eq_false_iff, Bool.not_eq_true', Bool.not_eq_false', Bool.not_eq_true, Bool.not_eq_false, Bool.true_eq_false, Bool.false_eq_true] at h
            refine awp_exit ?_
            refine awp_region rfl (.n (fun _ => op_move (.plain rfl)) (.n (fun _ => op_add (.plain rfl) (.plain rfl) ?_) (.n (fun _ => op_assign (.plain rfl)) (.nil _)))) ?_
            · unfold InR; omega
            exact ⟨k + 1, ⟨by omega, firstE_succ hE (chRowE_ok (by omega) hj hF (by omega))⟩, by dsimp only; omega, (Ent.kept ⟨rfl, rfl, rfl, trivial⟩ trivial)⟩
      · try simp only [decide_eq_true_eq, decide_eq_false_iff_not, Bool.and_eq_true, Bool.or_eq_true, Bool.and_eq_false_iff, Bool.or_eq_false_iff, Bool.not_eq_true', Bool.not_eq_false', Bool.not_eq_true, Bool.not_eq_false, Bool.true_eq_false, Bool.false_eq_true] at h
        refine awp_exit ?_
        refine awp_seq ?_
        refine awp_region rfl (.n (fun _ => op_assign (.plain rfl)) (.nil _)) ?_
        refine awp_ret ?_
        refine retQ.ret ?_
        refine ret1 rfl rfl rfl ?_
        exact congrArg PV.i (roadsE_ok (by omega) (by assumption) (by assumption) (by omega) hk hE (by omega))


structure AtOk (ch co : List (List Int)) (at' : List Int) : Prop where
  nch : 1 ≤ ch.length ∧ ch.length ≤ 5
  nco : co.length ≤ 6
  hco : ∀ e, e < co.length → (co.getD e []).length = ch.length ∧ ∀ k, k < ch.length → -999 ≤ (co.getD e []).getD k 0 ∧ (co.getD e []).getD k 0 ≤ 999
  hch : ∀ i, i < ch.length → (1 ≤ (ch.getD i []).length ∧ (ch.getD i []).length ≤ 5) ∧ ∀ k, k < (ch.getD i []).length → 0 ≤ (ch.getD i []).getD k 0 ∧ (ch.getD i []).getD k 0 < 2 ^ co.length
  nat' : at'.length = ch.length
  hat : ∀ i, i < at'.length → 0 ≤ at'.getD i 0 ∧ at'.getD i 0 < (ch.getD i []).length
theorem AtOk.of {ch co : List (List Int)} {at' : List Int} (h : atE ch co at' = 0) : AtOk ch co at' := by
  unfold atE at h
  split at h
  · rename_i h0; exact absurd h h0
  · rename_i h0
    have h0 : roadsE ch co = 0 := Decidable.not_not.1 h0
    split at h
    · omega
    · rename_i h1
      unfold roadsE at h0
      split at h0
      · rename_i h2; exact absurd h0 h2
      · rename_i h2
        have h2 : countE ch co = 0 := Decidable.not_not.1 h2
        split at h0
        · rename_i h3; exact absurd h0 h3
        · rename_i h3
          have h3 : costsE ch co = 0 := Decidable.not_not.1 h3
          have hc : 1 ≤ ch.length ∧ ch.length ≤ 5 ∧ co.length ≤ 6 := by
            unfold countE at h2
            split at h2
            · omega
            · omega
          refine ⟨⟨hc.1, hc.2.1⟩, hc.2.2, fun e he => ?_, fun i hi => ?_, by omega, fun i hi => ?_⟩
          · have h4 := firstE_zero h3 e he
            unfold costRowE at h4
            split at h4
            · omega
            · refine ⟨by omega, fun k hk => ?_⟩
              have h5 := firstE_zero h4 k (by omega)
              try simp only at h5
              split at h5 <;> omega
          · have h4 := firstE_zero h0 i hi
            unfold chRowE at h4
            split at h4
            · omega
            · refine ⟨by omega, fun k hk => ?_⟩
              have h5 := firstE_zero h4 k (by omega)
              try simp only at h5
              split at h5 <;> omega
          · have h4 := firstE_zero h i hi
            unfold atB at h4
            split at h4 <;> omega
theorem atE_roads {ch co : List (List Int)} {at' : List Int} (h : ¬ roadsE ch co = 0) : roadsE ch co = atE ch co at' := by simp [atE, h]
theorem atE_len {ch co : List (List Int)} {at' : List Int} (h : roadsE ch co = 0) (h' : ¬ (at'.length : Int) = ch.length) : 7 = atE ch co at' := by
  have : ¬ at'.length = ch.length := by omega
  simp [atE, h, this]
theorem atE_at {ch co : List (List Int)} {at' : List Int} {k : Nat} (h : roadsE ch co = 0) (h' : (at'.length : Int) = ch.length) (hE : firstE (atB ch at') k = 0) (hk : (k : Int) < at'.length) (hb : at'.getD k 0 < 0 ∨ ((ch.getD k []).length : Int) ≤ at'.getD k 0) : 9 = atE ch co at' := by
  have h1 : at'.length = ch.length := by omega
  have := firstE_stop hE (show atB ch at' k = 9 from if_pos hb) (by omega) (show k < at'.length by omega)
  rw [h1] at this
  simp [atE, h, h1, this]
theorem atE_ok {ch co : List (List Int)} {at' : List Int} {k : Nat} (h : roadsE ch co = 0) (h' : (at'.length : Int) = ch.length) (hk : k ≤ at'.length) (hE : firstE (atB ch at') k = 0) (hn : ¬ (k : Int) < at'.length) : 0 = atE ch co at' := by
  have h1 : at'.length = ch.length := by omega
  obtain rfl : k = at'.length := by omega
  rw [h1] at hE
  simp [atE, h, h1, hE]

theorem taken_fc (ch co : List (List Int)) (at' : List Int) : FC Try.prog 22 [.agg [.rows ch, .rows co], .ints at'] (.i (atE ch co at')) := by
  refine FC.intro Try.func22 rfl (Nat.le_of_ble_eq_true rfl) fun hfit => ?_
  have fit0 := hfit _ (.head _)
  obtain ⟨fitl1, fitr1⟩ := (hfit _ (.tail _ (.head _))).ints
  refine awp_seq ?_
  refine awp_region rfl (.n (fun _ => op_box (.plain rfl) (by simp)) (.n (fun _ => op_assign (.plain rfl)) (.nil _))) ?_
  refine awp_seq ?_
  refine awp_seq ?_
  refine awp_region rfl (.n (fun _ => op_load_agg Try.isAgg24 Try.sizeOf24 (.plain rfl) (Nat.le_of_ble_eq_true rfl)) (.n (fun _ => op_call1 Try.call10 (.plain rfl) (Roads_fc _ _)) (.n (fun _ => op_assign (.plain rfl)) (.nil _)))) ?_
  refine awp_seq ?_
  refine awp_region rfl (.n (fun _ => op_move (.plain rfl)) (.n (fun _ => op_neq (.plain rfl) (.plain rfl)) (.nil _))) ?_
  refine awp_cond rfl (fun h => ?_) (fun h => ?_)
  · try simp only [decide_eq_true_eq, decide_eq_false_iff_not, Bool.and_eq_true, Bool.or_eq_true, Bool.and_eq_false_iff, Bool.or_eq_false_iff, Bool.not_eq_true', Bool.not_eq_false', Bool.not_eq_true, Bool.not_eq_false, Bool.true_eq_false, Bool.false_eq_true] at h
    refine awp_seq ?_
    refine awp_region rfl (.n (fun _ => op_move (.plain rfl)) (.n (fun _ => op_assign (.plain rfl)) (.nil _))) ?_
    refine awp_ret ?_
    refine retQ.ret ?_
    refine ret1 rfl rfl rfl ?_
    exact congrArg PV.i (atE_roads h)
  · try simp only [decide_eq_true_eq, decide_eq_false_iff_not, Bool.and_eq_true, Bool.or_eq_true, Bool.and_eq_false_iff, Bool.or_eq_false_iff, Bool.not_eq_true', Bool.not_eq_false', Bool.not_eq_true, Bool.not_eq_false, Bool.true_eq_false, Bool.false_eq_true] at h
    refine awp_skip ?_
    refine awp_seq ?_
    refine awp_seq ?_
    refine awp_region rfl (.n (fun _ => op_move (.plain rfl)) (.n (fun _ => op_len (s := 0) Try.underlying25 (.plain rfl)) (.n (fun _ => op_fieldAddr Try.underlying24 rfl rfl Try.sizeOf22 (.plain rfl)) (.n (fun _ => op_load Try.isAgg22 (.plain rfl)) (.n (fun _ => op_len (s := 0) Try.underlying22 (.plain rfl)) (.n (fun _ => op_neq (.plain rfl) (.plain rfl)) (.nil _))))))) ?_
    refine awp_cond rfl (fun h => ?_) (fun h => ?_)
    · try simp only [decide_eq_true_eq, decide_eq_false_iff_not, Bool.and_eq_true, Bool.or_eq_true, Bool.and_eq_false_iff, Bool.or_eq_false_iff, Bool.not_eq_true', Bool.not_eq_false', Bool.not_eq_true, Bool.not_eq_false, Bool.true_eq_false, Bool.false_eq_true] at h
      refine awp_seq ?_
      refine awp_region rfl (.n (fun _ => op_assign (.plain rfl)) (.nil _)) ?_
      refine awp_ret ?_
      refine retQ.ret ?_
      refine ret1 rfl rfl rfl ?_
      exact congrArg PV.i (atE_len (by omega) h)
    · try simp only [decide_eq_true_eq, decide_eq_false_iff_not, Bool.and_eq_true, Bool.or_eq_true, Bool.and_eq_false_iff, Bool.or_eq_false_iff, Bool.not_eq_true', Bool.not_eq_false', Bool.not_eq_true, Bool.not_eq_false, Bool.true_eq_false, Bool.false_eq_true] at h
      refine awp_skip ?_
      refine awp_seq ?_
      refine awp_seq ?_
      refine awp_region rfl (.n (fun _ => op_move (.plain rfl)) (.n (fun _ => op_len (s := 0) Try.underlying25 (.plain rfl)) (.n (fun _ => op_move (.plain rfl)) (.nil _)))) ?_
      refine awp_block ?_
      refine awp_loop (σ := Nat) (fun (k : Nat) => k ≤ at'.length ∧ firstE (atB ch at') k = 0) (fun (k : Nat) => ⟨[(2, .pv (.rd [.rows ch, .rows co])), (19, .pv (.ints at')), (20, .int (at'.length : Nat)), (21, .int (k : Nat))], []⟩) (fun (k : Nat) => at'.length - k) 0 ?_ (Ent.kept ⟨rfl, rfl, rfl, rfl, trivial⟩ trivial) ?_
      · exact ⟨Nat.zero_le _, rfl⟩
      rintro k hp
      try dsimp only at hp
      obtain ⟨hk, hE⟩ := hp
      refine awp_seq ?_
      refine awp_region rfl (.n (fun _ => op_lss (.plain rfl) (.plain rfl)) (.nil _)) ?_
      refine awp_seq ?_
      refine awp_cond rfl (fun h => ?_) (fun h => ?_)
      · try simp only [decide_eq_true_eq, decide_eq_false_iff_not, Bool.and_eq_true, Bool.or_eq_true, Bool.and_eq_false_iff, Bool.or_eq_false_iff, Bool.not_eq_true', Bool.not_eq_false', Bool.not_eq_true, Bool.not_eq_false, Bool.true_eq_false, Bool.false_eq_true] at h
        refine awp_skip ?_
        refine awp_seq ?_
        refine awp_block ?_
        refine awp_seq ?_
        refine awp_region rfl (.n (fun _ => op_move (.plain rfl)) (.n (fun _ => op_indexAddrN Try.underlying25 Try.sizeOf3 (.plain rfl) (.plain rfl) (fun _ => rfl) ?_) (.n (fun _ => op_load Try.isAgg3 (.plain rfl)) (.n (fun _ => op_assign (.plain rfl)) (.n (fun _ => op_assign (.plain rfl)) (.nil _)))))) ?_
        · omega
        refine awp_seq ?_
        refine awp_region rfl (.n (fun _ => op_move (.plain rfl)) (.n (fun _ => op_lss (.plain rfl) (.plain rfl)) (.n (fun _ => op_move (.plain rfl)) (.gn rfl rfl (fun hg _ => op_move (.plain rfl)) (.gn rfl rfl (fun hg _ => op_fieldAddr Try.underlying24 rfl rfl Try.sizeOf22 (.plain rfl)) (.gn rfl rfl (fun hg _ => op_load Try.isAgg22 (.opt rfl fun h => h)) (.gn rfl rfl (fun hg _ => op_move (.plain rfl)) (.gn rfl rfl (fun hg _ => op_indexAddrN Try.underlying22 Try.sizeOf25 (.opt rfl fun h => h) (.opt rfl fun h => h) (fun _ => rfl) ?_) (.gn rfl rfl (fun hg _ => op_load Try.isAgg25 (.opt rfl fun h => h)) (.gn rfl rfl (fun hg _ => op_len (s := 0) Try.underlying25 (.opt rfl fun h => h)) (.gn rfl rfl (fun hg _ => op_geq (.opt rfl fun h => h) (.opt rfl fun h => h)) (.n (fun _ => op_or (.plain rfl) (.plain rfl) (.plain rfl) (fun h => eqF h)) (.nil _))))))))))))) ?_
        · try simp only [beq_iff_eq, beq_true, beq_false, Bool.and_eq_true, decide_eq_true_eq, decide_eq_false_iff_not, Bool.not_eq_true', Bool.or_eq_true, Bool.or_eq_false_iff] at hg
          omega
        refine awp_cond rfl (fun h => ?_) (fun h => ?_)
        · try simp only [decide_eq_true_eq, decide_eq_false_iff_not, Bool.and_eq_true, Bool.or_eq_true, Bool.and_eq_false_iff, Bool.or_eq_false_iff, Bool.not_eq_true', Bool.not_eq_false', Bool.not_eq_true, Bool.not_eq_false, Bool.true_eq_false, Bool.false_eq_true] at h
          refine awp_seq ?_
          refine awp_region rfl (.n (fun _ => op_assign (.plain rfl)) (.nil _)) ?_
          refine awp_ret ?_
          refine retQ.ret ?_
          refine ret1 rfl rfl rfl ?_
          exact congrArg PV.i (atE_at (by omega) (by omega) hE (by omega) h)
        · try simp only [decide_eq_true_eq, decide_eq_false_iff_not, Bool.and_eq_true, Bool.or_eq_true, Bool.and_eq_false_iff, Bool.or_eq_false_iff, Bool.not_eq_true', Bool.not_eq_false', Bool.not_eq_true, Bool.not_eq_false, Bool.true_eq_false, Bool.false_eq_true] at h
          refine awp_skip ?_
          refine awp_region rfl (.n (fun _ => op_add (.plain rfl) (.plain rfl) ?_) (.n (fun _ => op_move (.plain rfl)) (.nil _))) ?_
          · unfold InR; omega
          exact ⟨k + 1, ⟨by omega, firstE_succ hE (if_neg (by omega))⟩, by dsimp only; omega, (Ent.kept ⟨rfl, rfl, rfl, rfl, trivial⟩ trivial)⟩
      · try simp only [decide_eq_true_eq, decide_eq_false_iff_not, Bool.and_eq_true, Bool.or_eq_true, Bool.and_eq_false_iff, Bool.or_eq_false_iff, Bool.not_eq_true', Bool.not_eq_false', Bool.not_eq_true, Bool.not_eq_false, Bool.true_eq_false, Bool.false_eq_true] at h
        refine awp_exit ?_
        refine awp_seq ?_
        refine awp_region rfl (.n (fun _ => op_assign (.plain rfl)) (.nil _)) ?_
        refine awp_ret ?_
        refine retQ.ret ?_
        refine ret1 rfl rfl rfl ?_
        exact congrArg PV.i (atE_ok (by omega) (by omega) hk hE (by omega))

theorem AtMay_fc (ch co : List (List Int)) (at' : List Int) : FC Try.prog 6 [.agg [.rows ch, .rows co], .ints at'] (.i (atE ch co at')) := by
  refine FC.intro Try.func6 rfl (Nat.le_of_ble_eq_true rfl) fun hfit => ?_
  have fit0 := hfit _ (.head _)
  obtain ⟨fitl1, fitr1⟩ := (hfit _ (.tail _ (.head _))).ints
  refine awp_seq ?_
  refine awp_region rfl (.n (fun _ => op_box (.plain rfl) (by simp)) (.n (fun _ => op_assign (.plain rfl)) (.nil _))) ?_
  refine awp_seq ?_
  refine awp_region rfl (.n (fun _ => op_load_agg Try.isAgg24 Try.sizeOf24 (.plain rfl) (Nat.le_of_ble_eq_true rfl)) (.n (fun _ => op_call1 Try.call11 (.plain rfl) (RoadsMay_fc _ _)) (.n (fun _ => op_assign (.plain rfl)) (.nil _)))) ?_
  refine awp_seq ?_
  refine awp_seq ?_
  refine awp_region rfl (.n (fun _ => op_move (.plain rfl)) (.n (fun _ => op_neq (.plain rfl) (.plain rfl)) (.nil _))) ?_
  refine awp_cond rfl (fun h => ?_) (fun h => ?_)
  · try simp only [decide_eq_true_eq, decide_eq_false_iff_not, Bool.and_eq_true, Bool.or_eq_true, Bool.and_eq_false_iff, Bool.or_eq_false_iff, Bool.not_eq_true', Bool.not_eq_false', Bool.not_eq_true, Bool.not_eq_false, Bool.true_eq_false, Bool.false_eq_true] at h
    refine awp_seq ?_
    refine awp_region rfl (.n (fun _ => op_move (.plain rfl)) (.n (fun _ => op_assign (.plain rfl)) (.nil _))) ?_
    refine awp_ret ?_
    refine retQ.ret ?_
    refine ret1 rfl rfl rfl ?_
    exact congrArg PV.i (atE_roads h)
  · try simp only [decide_eq_true_eq, decide_eq_false_iff_not, Bool.and_eq_true, Bool.or_eq_true, Bool.and_eq_false_iff, Bool.or_eq_false_iff, Bool.not_eq_true', Bool.not_eq_false', Bool.not_eq_true, Bool.not_eq_false, Bool.true_eq_false, Bool.false_eq_true] at h
    refine awp_skip ?_
    refine awp_seq ?_
    refine awp_seq ?_
    refine awp_region rfl (.n (fun _ => op_move (.plain rfl)) (.n (fun _ => op_len (s := 0) Try.underlying25 (.plain rfl)) (.n (fun _ => op_fieldAddr Try.underlying24 rfl rfl Try.sizeOf22 (.plain rfl)) (.n (fun _ => op_load Try.isAgg22 (.plain rfl)) (.n (fun _ => op_len (s := 0) Try.underlying22 (.plain rfl)) (.n (fun _ => op_neq (.plain rfl) (.plain rfl)) (.nil _))))))) ?_
    refine awp_cond rfl (fun h => ?_) (fun h => ?_)
    · try simp only [decide_eq_true_eq, decide_eq_false_iff_not, Bool.and_eq_true, Bool.or_eq_true, Bool.and_eq_false_iff, Bool.or_eq_false_iff, Bool.not_eq_true', Bool.not_eq_false', Bool.not_eq_true, Bool.not_eq_false, Bool.true_eq_false, Bool.false_eq_true] at h
      refine awp_seq ?_
      refine awp_region rfl (.n (fun _ => op_assign (.plain rfl)) (.nil _)) ?_
      refine awp_ret ?_
      refine retQ.ret ?_
      refine ret1 rfl rfl rfl ?_
      exact congrArg PV.i (atE_len (by omega) h)
    · try simp only [decide_eq_true_eq, decide_eq_false_iff_not, Bool.and_eq_true, Bool.or_eq_true, Bool.and_eq_false_iff, Bool.or_eq_false_iff, Bool.not_eq_true', Bool.not_eq_false', Bool.not_eq_true, Bool.not_eq_false, Bool.true_eq_false, Bool.false_eq_true] at h
      refine awp_skip ?_
      refine awp_seq ?_
      refine awp_seq ?_
      refine awp_region rfl (.n (fun _ => op_assign (.plain rfl)) (.nil _)) ?_
      refine awp_block ?_
      refine awp_loop (σ := Nat) (fun (k : Nat) => k ≤ at'.length ∧ firstE (atB ch at') k = 0) (fun (k : Nat) => ⟨[(2, .pv (.rd [.rows ch, .rows co])), (1, .pv (.ints at')), (6, .int (k : Nat))], []⟩) (fun (k : Nat) => at'.length - k) 0 ?_ (Ent.kept ⟨rfl, rfl, rfl, trivial⟩ trivial) ?_
      · exact ⟨Nat.zero_le _, rfl⟩
      rintro k hp
      try dsimp only at hp
      obtain ⟨hk, hE⟩ := hp
      refine awp_seq ?_
      refine awp_seq ?_
      refine awp_region rfl (.n (fun _ => op_move (.plain rfl)) (.n (fun _ => op_move (.plain rfl)) (.n (fun _ => op_len (s := 0) Try.underlying25 (.plain rfl)) (.n (fun _ => op_lss (.plain rfl) (.plain rfl)) (.nil _))))) ?_
      refine awp_cond rfl (fun h => ?_) (fun h => ?_)
      · try simp only [decide_eq_true_eq, decide_eq_false_iff_not, Bool.and_eq_true, Bool.or_eq_true, Bool.and_eq_false_iff, Bool.or_eq_false_iff, Bool.not_eq_true', Bool.not_eq_false', Bool.not_eq_true, Bool.not_eq_false, Bool.true_eq_false, Bool.false_eq_true] at h
        refine awp_skip ?_
        refine awp_seq ?_
        refine awp_block ?_
        refine awp_seq ?_
        refine awp_region_draw mixed rfl (.n (fun _ => op_move (.plain rfl)) (.n (fun _ => op_move (.plain rfl)) (.n (fun _ => op_indexAddrN Try.underlying25 Try.sizeOf3 (.plain rfl) (.plain rfl) (fun _ => rfl) ?_) (.n (fun _ => op_load Try.isAgg3 (.plain rfl)) (.n (fun _ => op_lss (.plain rfl) (.plain rfl)) (.n (fun _ => op_move (.plain rfl)) (.gn rfl rfl (fun hg _ => op_move (.plain rfl)) (.gn rfl rfl (fun hg _ => op_move (.plain rfl)) (.gn rfl rfl (fun hg _ => op_indexAddrN Try.underlying25 Try.sizeOf3 (.opt rfl fun h => h) (.opt rfl fun h => h) (fun _ => rfl) ?_) (.gn rfl rfl (fun hg _ => op_load Try.isAgg3 (.opt rfl fun h => h)) (.gn rfl rfl (fun hg _ => op_fieldAddr Try.underlying24 rfl rfl Try.sizeOf22 (.plain rfl)) (.gn rfl rfl (fun hg _ => op_load Try.isAgg22 (.opt rfl fun h => h)) (.gn rfl rfl (fun hg _ => op_move (.plain rfl)) (.gn rfl rfl (fun hg _ => op_indexAddrN Try.underlying22 Try.sizeOf25 (.opt rfl fun h => h) (.opt rfl fun h => h) (fun _ => rfl) ?_) (.gn rfl rfl (fun hg _ => op_load Try.isAgg25 (.opt rfl fun h => h)) (.gn rfl rfl (fun hg _ => op_len (s := 0) Try.underlying25 (.opt rfl fun h => h)) (.gn rfl rfl (fun hg _ => op_geq (.opt rfl fun h => h) (.opt rfl fun h => h)) (.n (fun _ => op_or (.plain rfl) (.plain rfl) (.plain rfl) (fun h => eqF h)) (.nil _))))))))))))))))))) ?d3 ?_
        · omega
        · try simp only [beq_iff_eq, beq_true, beq_false, Bool.and_eq_true, decide_eq_true_eq, decide_eq_false_iff_not, Bool.not_eq_true', Bool.or_eq_true, Bool.or_eq_false_iff] at hg
          omega
        · try simp only [beq_iff_eq, beq_true, beq_false, Bool.and_eq_true, decide_eq_true_eq, decide_eq_false_iff_not, Bool.not_eq_true', Bool.or_eq_true, Bool.or_eq_false_iff] at hg
          omega
        · kernel_rfl
        refine awp_cond rfl (fun h => ?_) (fun h => ?_)
        · try simp only [decide_eq_true_eq, decide_eq_false_iff_not, Bool.and_eq_true, Bool.or_eq_true, Bool.and_eq_false_iff, Bool.or_eq_false_iff, Bool.not_eq_true', Bool.not_eq_false', Bool.not_eq_true, Bool.not_eq_false, Bool.true_eq_false, Bool.false_eq_true] at h
          refine awp_seq ?_
          refine awp_region rfl (.n (fun _ => op_assign (.plain rfl)) (.nil _)) ?_
          refine awp_ret ?_
          refine retQ.ret ?_
          refine ret1 rfl rfl rfl ?_
          exact congrArg PV.i (atE_at (by omega) (by omega) hE (by omega) h)
        · try simp only [decide_eq_true_eq, decide_eq_false_iff_not, Bool.and_eq_true, Bool.or_eq_true, Bool.and_eq_false_iff, Bool.or_eq_false_iff, Bool.not_eq_true', Bool.not_eq_false', Bool.not_eq_true, Bool.not_eq_false, Bool.true_eq_false, Bool.false_eq_true] at h
          refine awp_skip ?_
          refine awp_region rfl (.n (fun _ => op_move (.plain rfl)) (.n (fun _ => op_add (.plain rfl) (.plain rfl) ?_) (.n (fun _ => op_assign (.plain rfl)) (.nil _)))) ?_
          · unfold InR; omega
          exact ⟨k + 1, ⟨by omega, firstE_succ hE (if_neg (by omega))⟩, by dsimp only; omega, (Ent.kept ⟨rfl, rfl, rfl, trivial⟩ trivial)⟩
      · try simp only [decide_eq_true_eq, decide_eq_false_iff_not, Bool.and_eq_true, Bool.or_eq_true, Bool.and_eq_false_iff, Bool.or_eq_false_iff, Bool.not_eq_true', Bool.not_eq_false', Bool.not_eq_true, Bool.not_eq_false, Bool.true_eq_false, Bool.false_eq_true] at h
        refine awp_exit ?_
        refine awp_seq ?_
        refine awp_region rfl (.n (fun _ => op_assign (.plain rfl)) (.nil _)) ?_
        refine awp_ret ?_
        refine retQ.ret ?_
        refine ret1 rfl rfl rfl ?_
        exact congrArg PV.i (atE_ok (by omega) (by omega) hk hE (by omega))

theorem heavyRoads_fc (ch co : List (List Int)) : FC Try.prog 5 [.agg [.rows ch, .rows co]] (.bool (heavyF ch || heavyF co)) := by
  refine FC.intro Try.func5 rfl (Nat.le_of_ble_eq_true rfl) fun hfit => ?_
  have fit0 := hfit _ (.head _)
  refine awp_seq ?_
  refine awp_region rfl (.n (fun _ => op_box (.plain rfl) (by simp)) (.n (fun _ => op_assign (.plain rfl)) (.nil _))) ?_
  refine awp_seq ?_
  refine awp_region rfl (.n (fun _ => op_fieldAddr Try.underlying24 rfl rfl Try.sizeOf22 (.plain rfl)) (.n (fun _ => op_load Try.isAgg22 (.plain rfl)) (.n (fun _ => op_call1 Try.call21 (.plain rfl) (heavy_fc _)) (.n (fun _ => op_move (.plain rfl)) (.gn rfl rfl (fun hg _ => op_fieldAddr Try.underlying24 rfl rfl Try.sizeOf22 (.plain rfl)) (.gn rfl rfl (fun hg _ => op_load Try.isAgg22 (.opt rfl fun h => h)) (.gn rfl rfl (fun hg _ => op_call1 Try.call21 (.opt rfl fun h => h) (heavy_fc _)) (.n (fun _ => op_or (.plain rfl) (.plain rfl) (.plain rfl) (fun h => eqF h)) (.n (fun _ => op_assign (.plain rfl)) (.nil _)))))))))) ?_
  refine awp_ret ?_
  refine retQ.ret ?_
  refine ret1 rfl rfl rfl ?_
  rfl


def chose (ch : List (List Int)) (at' : List Int) (i : Nat) : Int := (ch.getD i []).getD (at'.getD i 0).toNat 0
theorem chose_bd {ch co : List (List Int)} {at' : List Int} (h : AtOk ch co at') {i : Nat} (hi : i < at'.length) : 0 ≤ chose ch at' i ∧ chose ch at' i < 2 ^ co.length := by
  have h1 := h.hat i hi
  exact (h.hch i (by have := h.nat'; omega)).2 _ (by omega)
def usersF (ch : List (List Int)) (at' : List Int) (e : Nat) : Int := sumTo (fun i => bitF (chose ch at' i) e) at'.length

theorem usersOf_fc (ch co : List (List Int)) (at' : List Int) (e : Nat) (hok : AtOk ch co at') (he : e < co.length) : FC Try.prog 27 [.agg [.rows ch, .rows co], .ints at', .i (e : Nat)] (.i (usersF ch at' e)) := by
  refine FC.intro Try.func27 rfl (Nat.le_of_ble_eq_true rfl) fun hfit => ?_
  have fit0 := hfit _ (.head _)
  obtain ⟨fitl1, fitr1⟩ := (hfit _ (.tail _ (.head _))).ints
  have fit2 : -9223372036854775808 ≤ ((e : Nat) : Int) ∧ ((e : Nat) : Int) ≤ 9223372036854775807 := (hfit _ (.tail _ (.tail _ (.head _)))).int64
  refine awp_seq ?_
  refine awp_region rfl (.n (fun _ => op_box (.plain rfl) (by simp)) (.n (fun _ => op_assign (.plain rfl)) (.nil _))) ?_
  refine awp_seq ?_
  refine awp_region rfl (.n (fun _ => op_assign (.plain rfl)) (.nil _)) ?_
  refine awp_seq ?_
  refine awp_seq ?_
  refine awp_region rfl (.n (fun _ => op_assign (.plain rfl)) (.nil _)) ?_
  refine awp_block ?_
  refine awp_loop (σ := Nat) (fun (k : Nat) => k ≤ at'.length) (fun (k : Nat) => ⟨[(3, .pv (.rd [.rows ch, .rows co])), (1, .pv (.ints at')), (2, .int (e : Nat)), (7, .int (sumTo (fun i => bitF (chose ch at' i) e) k)), (8, .int (k : Nat))], []⟩) (fun (k : Nat) => at'.length - k) 0 ?_ (Ent.kept ⟨rfl, rfl, rfl, rfl, rfl, trivial⟩ trivial) ?_
  · simp
  rintro k hp
  try dsimp only at hp
  have hnco := hok.nco
  have hnat := hok.nat'
  have hnch := hok.nch
  have hab := hok.hat k
  have hcb : k < at'.length → 0 ≤ (ch.getD k []).getD (at'.getD k 0).toNat 0 ∧ (ch.getD k []).getD (at'.getD k 0).toNat 0 < 2 ^ co.length := chose_bd hok
  have hpc := two_pow_bd hok.nco
  have hpe : (2 : Int) ^ ((e : Nat) : Int).toNat = 2 ^ e := by rw [Int.toNat_natCast]
  have hpl := two_pow_nat e
  have hpb := two_pow_bd (show e ≤ 6 by omega)
  have hsb := sumTo_bd (n := k) (fun j _ => bitF_bd (chose ch at' j) e)
  refine awp_seq ?_
  refine awp_seq ?_
  refine awp_region rfl (.n (fun _ => op_move (.plain rfl)) (.n (fun _ => op_move (.plain rfl)) (.n (fun _ => op_len (s := 0) Try.underlying25 (.plain rfl)) (.n (fun _ => op_lss (.plain rfl) (.plain rfl)) (.nil _))))) ?_
  refine awp_cond rfl (fun h => ?_) (fun h => ?_)
  · try simp only [decide_eq_true_eq, decide_eq_false_iff_not, Bool.and_eq_true, Bool.or_eq_true, Bool.and_eq_false_iff, Bool.or_eq_false_iff, Bool.not_eq_true', Bool.not_eq_false', Bool.not_eq_true, Bool.not_eq_false, Bool.true_eq_false, Bool.false_eq_true] at h
    refine awp_skip ?_
    refine awp_seq ?_
    refine awp_block ?_
    refine awp_region_draw mixed rfl (.n (fun _ => op_move (.plain rfl)) (.n (fun _ => op_fieldAddr Try.underlying24 rfl rfl Try.sizeOf22 (.plain rfl)) (.n (fun _ => op_load Try.isAgg22 (.plain rfl)) (.n (fun _ => op_move (.plain rfl)) (.n (fun _ => op_indexAddrN Try.underlying22 Try.sizeOf25 (.plain rfl) (.plain rfl) (fun _ => rfl) ?_) (.n (fun _ => op_load Try.isAgg25 (.plain rfl)) (.n (fun _ => op_move (.plain rfl)) (.n (fun _ => op_move (.plain rfl)) (.n (fun _ => op_indexAddrN Try.underlying25 Try.sizeOf3 (.plain rfl) (.plain rfl) (fun _ => rfl) ?_) (.n (fun _ => op_load Try.isAgg3 (.plain rfl)) (.n (fun _ => op_indexAddr Try.underlying25 Try.sizeOf3 (.plain rfl) (.plain rfl) (fun _ => rfl) ?_) (.n (fun _ => op_load Try.isAgg3 (.plain rfl)) (.n (fun _ => op_move (.plain rfl)) (.n (fun _ => op_shl (.plain rfl) (.plain rfl) ?_) (.n (fun _ => op_quo (.plain rfl) (.plain rfl) ?_) (.n (fun _ => op_rem (.plain rfl) (.plain rfl) ?_) (.n (fun _ => op_add (.plain rfl) (.plain rfl) ?_) (.n (fun _ => op_assign (.plain rfl)) (.nil _))))))))))))))))))) ?d4 ?_
    · omega
    · omega
    · omega
    · unfold InR; omega
    · omega
    · exact ⟨Int.ediv_nonneg (hcb (by omega)).1 (by omega), by omega⟩
    · unfold InR; omega
    · kernel_rfl
    refine awp_region rfl (.n (fun _ => op_move (.plain rfl)) (.n (fun _ => op_add (.plain rfl) (.plain rfl) ?_) (.n (fun _ => op_assign (.plain rfl)) (.nil _)))) ?_
    · unfold InR; omega
    exact ⟨k + 1, by omega, by dsimp only; omega, (Ent.kept ⟨rfl, rfl, rfl, (by rw [show (1 : Int) * 2 ^ ((e : Nat) : Int).toNat = 2 ^ e by rw [Int.one_mul, Int.toNat_natCast]]; rfl), rfl, trivial⟩ trivial)⟩
  · try simp only [decide_eq_true_eq, decide_eq_false_iff_not, Bool.and_eq_true, Bool.or_eq_true, Bool.and_eq_false_iff, Bool.or_eq_false_iff, Bool.not_eq_true', Bool.not_eq_false', Bool.not_eq_true, Bool.not_eq_false, Bool.true_eq_false, Bool.false_eq_true] at h
    refine awp_exit ?_
    refine awp_seq ?_
    refine awp_region rfl (.n (fun _ => op_move (.plain rfl)) (.n (fun _ => op_assign (.plain rfl)) (.nil _))) ?_
    refine awp_ret ?_
    refine retQ.ret ?_
    refine ret1 rfl rfl rfl ?_
    obtain rfl : k = at'.length := by omega
    rfl

theorem users_fc (ch co : List (List Int)) (at' : List Int) (hok : AtOk ch co at') : FC Try.prog 24 [.agg [.rows ch, .rows co], .ints at'] (.ints (mapr co.length (usersF ch at'))) := by
  refine FC.intro Try.func24 rfl (Nat.le_of_ble_eq_true rfl) fun hfit => ?_
  have fit0 := hfit _ (.head _)
  obtain ⟨fitl1, fitr1⟩ := (hfit _ (.tail _ (.head _))).ints
  have hnco := hok.nco
  have hnat := hok.nat'
  have hnch := hok.nch
  refine awp_seq ?_
  refine awp_region rfl (.n (fun _ => op_box (.plain rfl) (by simp)) (.n (fun _ => op_assign (.plain rfl)) (.nil _))) ?_
  refine awp_seq ?_
  refine awp_region rfl (.n (fun _ => op_fieldAddr Try.underlying24 rfl rfl Try.sizeOf22 (.plain rfl)) (.n (fun _ => op_load Try.isAgg22 (.plain rfl)) (.n (fun _ => op_len (s := 0) Try.underlying22 (.plain rfl)) (.e (op_make (α := Int) (d := 0) (f := (fun n => [.int .i64 n])) 12 0 ety25 (.plain rfl) (.plain rfl) (fun _ => rfl) rfl rfl ?_) rfl (.n (fun _ => op_assign (.plain rfl)) (.nil _)))))) ?_
  · omega
  refine awp_seq ?_
  refine awp_seq ?_
  refine awp_region rfl (.n (fun _ => op_move (.plain rfl)) (.n (fun _ => op_len (s := 0) Try.underlying25 (.plain rfl)) (.n (fun _ => op_move (.plain rfl)) (.nil _)))) ?_
  refine awp_block ?_
  refine awp_ent (Ent.ren 12 1005 rfl rfl rfl) ?_
  refine awp_loop (σ := Nat) (fun (k : Nat) => k ≤ at'.length) (fun (k : Nat) => ⟨[(2, .pv (.rd [.rows ch, .rows co])), (5, .own 1005), (13, .pv (.ints at')), (14, .int (at'.length : Nat)), (15, .int (k : Nat))], [(1005, .arr 3 1 Int 0 (fun n => [.int .i64 n]) (mapr co.length fun e => sumTo (fun i => bitF (chose ch at' i) e) k))]⟩) (fun (k : Nat) => at'.length - k) 0 ?_ (Ent.kept ⟨rfl, rfl, rfl, rfl, rfl, trivial⟩ ⟨(congrArg (fun l => some (Blk.arr 3 1 Int 0 (fun n => [.int .i64 n]) l)) (replicate_mapr _ _)), trivial⟩) ?_
  · simp
  rintro k hp
  try dsimp only at hp
  have hnco := hok.nco
  have hnat := hok.nat'
  have hnch := hok.nch
  have hab := hok.hat k
  have hcb : k < at'.length → 0 ≤ (ch.getD k []).getD (at'.getD k 0).toNat 0 ∧ (ch.getD k []).getD (at'.getD k 0).toNat 0 < 2 ^ co.length := chose_bd hok
  have hpc := two_pow_bd hok.nco
  refine awp_seq ?_
  refine awp_region rfl (.n (fun _ => op_lss (.plain rfl) (.plain rfl)) (.nil _)) ?_
  refine awp_seq ?_
  refine awp_cond rfl (fun h => ?_) (fun h => ?_)
  · try simp only [decide_eq_true_eq, decide_eq_false_iff_not, Bool.and_eq_true, Bool.or_eq_true, Bool.and_eq_false_iff, Bool.or_eq_false_iff, Bool.not_eq_true', Bool.not_eq_false', Bool.not_eq_true, Bool.not_eq_false, Bool.true_eq_false, Bool.false_eq_true] at h
    refine awp_skip ?_
    refine awp_seq ?_
    refine awp_block ?_
    refine awp_seq ?_
    refine awp_region rfl (.n (fun _ => op_move (.plain rfl)) (.n (fun _ => op_indexAddrN Try.underlying25 Try.sizeOf3 (.plain rfl) (.plain rfl) (fun _ => rfl) ?_) (.n (fun _ => op_load Try.isAgg3 (.plain rfl)) (.n (fun _ => op_assign (.plain rfl)) (.n (fun _ => op_assign (.plain rfl)) (.nil _)))))) ?_
    · omega
    refine awp_seq ?_
    refine awp_region rfl (.n (fun _ => op_move (.plain rfl)) (.r (op_lenO Try.underlying25 (.plain rfl) rfl) (.n (fun _ => op_move (.plain rfl)) (.nil _)))) ?_
    refine awp_block ?_
    refine awp_loop (σ := Nat) (fun (j : Nat) => j ≤ co.length) (fun (j : Nat) => ⟨[(2, .pv (.rd [.rows ch, .rows co])), (5, .own 1005), (13, .pv (.ints at')), (14, .int (at'.length : Nat)), (15, .int (k : Nat)), (6, .int (k : Nat)), (7, .int (at'.getD k 0)), (21, .int ((mapr co.length fun e => sumTo (fun i => bitF (chose ch at' i) e) k).length : Nat)), (22, .int (j : Nat))], [(1005, .arr 3 1 Int 0 (fun n => [.int .i64 n]) (mapr co.length fun e => sumTo (fun i => bitF (chose ch at' i) e) (if e < j then k + 1 else k)))]⟩) (fun (j : Nat) => co.length - j) 0 ?_ (Ent.kept ⟨rfl, rfl, rfl, rfl, rfl, rfl, rfl, rfl, rfl, trivial⟩ ⟨(congrArg (fun l => some (Blk.arr 3 1 Int 0 (fun n => [.int .i64 n]) l)) (mapr_same fun e he => by rw [if_neg (by omega)])), trivial⟩) ?_
    · simp
    rintro j hp
    try dsimp only at hp
    have hml : (mapr co.length fun e => sumTo (fun i => bitF (chose ch at' i) e) k).length = co.length := mapr_length _ _
    have hml2 : (mapr co.length fun e => sumTo (fun i => bitF (chose ch at' i) e) (if e < j then k + 1 else k)).length = co.length := mapr_length _ _
    have hpe : (2 : Int) ^ ((j : Nat) : Int).toNat = 2 ^ j := by rw [Int.toNat_natCast]
    have hpl := two_pow_nat j
    have hsb := sumTo_bd (n := k) (fun i _ => bitF_bd (chose ch at' i) j)
    have hgd : j < co.length → (mapr co.length fun e => sumTo (fun i => bitF (chose ch at' i) e) (if e < j then k + 1 else k)).getD j 0 = sumTo (fun i => bitF (chose ch at' i) j) k := fun hj => by rw [mapr_getD _ hj, if_neg (by omega)]
    refine awp_seq ?_
    refine awp_region rfl (.n (fun _ => op_lss (.plain rfl) (.plain rfl)) (.nil _)) ?_
    refine awp_seq ?_
    refine awp_cond rfl (fun h => ?_) (fun h => ?_)
    · try simp only [decide_eq_true_eq, decide_eq_false_iff_not, Bool.and_eq_true, Bool.or_eq_true, Bool.and_eq_false_iff, Bool.or_eq_false_iff, Bool.not_eq_true', Bool.not_eq_false', Bool.not_eq_true, Bool.not_eq_false, Bool.true_eq_false, Bool.false_eq_true] at h
      refine awp_skip ?_
      refine awp_seq ?_
      refine awp_block ?_
      refine awp_seq ?_
      refine awp_region rfl (.n (fun _ => op_move (.plain rfl)) (.n (fun _ => op_assign (.plain rfl)) (.nil _))) ?_
      refine awp_region_draw mixed rfl (.n (fun _ => op_move (.plain rfl)) (.n (fun _ => op_move (.plain rfl)) (.r (op_indexAddrON Try.underlying25 Try.sizeOf3 (.plain rfl) rfl (.plain rfl) ?_) (.r (op_loadE Try.isAgg3 (.plain rfl) rfl (fun _ => rfl) ?_ rfl) (.n (fun _ => op_fieldAddr Try.underlying24 rfl rfl Try.sizeOf22 (.plain rfl)) (.n (fun _ => op_load Try.isAgg22 (.plain rfl)) (.n (fun _ => op_move (.plain rfl)) (.n (fun _ => op_indexAddrN Try.underlying22 Try.sizeOf25 (.plain rfl) (.plain rfl) (fun _ => rfl) ?_) (.n (fun _ => op_load Try.isAgg25 (.plain rfl)) (.n (fun _ => op_move (.plain rfl)) (.n (fun _ => op_indexAddr Try.underlying25 Try.sizeOf3 (.plain rfl) (.plain rfl) (fun _ => rfl) ?_) (.n (fun _ => op_load Try.isAgg3 (.plain rfl)) (.n (fun _ => op_move (.plain rfl)) (.n (fun _ => op_shr (.plain rfl) (.plain rfl) ?_) (.n (fun _ => op_bit (.plain rfl) ?_) (.n (fun _ => op_add (.plain rfl) (.plain rfl) ?_) (.r (op_indexAddrON Try.underlying25 Try.sizeOf3 (.plain rfl) rfl (.plain rfl) ?_) (.e (op_storeE _ Try.sizeOf3 (.plain rfl) (.plain rfl) rfl (fun _ => rfl) ?_ (by decide) rfl rfl) rfl (.nil _))))))))))))))))))) ?d5 ?_
      · first | omega | (simp; omega)
      · first | omega | (simp; omega)
      · omega
      · omega
      · omega
      · exact Int.ediv_nonneg (hcb (by omega)).1 (by omega)
      · unfold InR; rw [hgd (by omega)]; omega
      · first | omega | (simp; omega)
      · first | omega | (simp; omega)
      · kernel_rfl
      refine awp_region rfl (.n (fun _ => op_add (.plain rfl) (.plain rfl) ?_) (.n (fun _ => op_move (.plain rfl)) (.nil _))) ?_
      · unfold InR; omega
      exact ⟨j + 1, by omega, by dsimp only; omega, (Ent.kept ⟨rfl, rfl, rfl, rfl, rfl, rfl, rfl, rfl, rfl, trivial⟩ ⟨(congrArg (fun l => some (Blk.arr 3 1 Int 0 (fun n => [.int .i64 n]) l)) (mapr_set (fun hj => by rw [if_pos (by omega), hgd (by omega)]; rfl) (fun e he hne => if h1 : e < j then (by rw [if_pos h1, if_pos (by omega)]) else (by rw [if_neg h1, if_neg (by omega)])))), trivial⟩)⟩
    · try simp only [decide_eq_true_eq, decide_eq_false_iff_not, Bool.and_eq_true, Bool.or_eq_true, Bool.and_eq_false_iff, Bool.or_eq_false_iff, Bool.not_eq_true', Bool.not_eq_false', Bool.not_eq_true, Bool.not_eq_false, Bool.true_eq_false, Bool.false_eq_true] at h
      refine awp_exit ?_
      refine awp_region rfl (.n (fun _ => op_add (.plain rfl) (.plain rfl) ?_) (.n (fun _ => op_move (.plain rfl)) (.nil _))) ?_
      · unfold InR; omega
      have hml : (mapr co.length fun e => sumTo (fun i => bitF (chose ch at' i) e) k).length = co.length := mapr_length _ _
      exact ⟨k + 1, by omega, by dsimp only; omega, (Ent.kept ⟨rfl, rfl, rfl, rfl, rfl, trivial⟩ ⟨(congrArg (fun l => some (Blk.arr 3 1 Int 0 (fun n => [.int .i64 n]) l)) (mapr_same fun e he => by rw [if_pos (by omega)])), trivial⟩)⟩
  · try simp only [decide_eq_true_eq, decide_eq_false_iff_not, Bool.and_eq_true, Bool.or_eq_true, Bool.and_eq_false_iff, Bool.or_eq_false_iff, Bool.not_eq_true', Bool.not_eq_false', Bool.not_eq_true, Bool.not_eq_false, Bool.true_eq_false, Bool.false_eq_true] at h
    refine awp_exit ?_
    refine awp_seq ?_
    refine awp_region rfl (.n (fun _ => op_move (.plain rfl)) (.n (fun _ => op_assign (.plain rfl)) (.nil _))) ?_
    refine awp_ret ?_
    refine retQ.ret ?_
    refine ret1 rfl rfl rfl ?_
    obtain rfl : k = at'.length := by omega
    rfl


theorem sumTo_ge {f : Nat → Int} : ∀ {n i : Nat}, (∀ j, j < n → 0 ≤ f j) → i < n → f i ≤ sumTo f n
  | n + 1, i, h, hi => by
    have h1 := (sumTo_bd (A := 0) (B := 0) (f := fun _ => 0) (n := n) (by simp))
    have h2 : 0 ≤ sumTo f n := by
      clear h1 hi
      induction n with
      | zero => simp [sumTo]
      | succ n ih =>
        have h3 := ih fun j hj => h j (by omega)
        have h4 := h n (by omega)
        simp only [sumTo]; omega
    have h5 := h n (by omega)
    simp only [sumTo]
    by_cases e : i = n
    · subst e; omega
    · have := sumTo_ge (fun j hj => h j (by omega) : ∀ j, j < n → _) (show i < n by omega)
      omega
def roadF (ch co : List (List Int)) (at' : List Int) (i e : Nat) : Int := if bitF (chose ch at' i) e = 1 then (co.getD e []).getD (usersF ch at' e - 1).toNat 0 else 0
def costF (ch co : List (List Int)) (at' : List Int) (i : Nat) : Int := sumTo (roadF ch co at' i) co.length
def heightF (ch co : List (List Int)) (at' : List Int) : Int := sumTo (fun e => sumTo (fun k => (co.getD e []).getD k 0) (usersF ch at' e).toNat) co.length
theorem usersF_bd (ch : List (List Int)) (at' : List Int) (e : Nat) : 0 ≤ usersF ch at' e ∧ usersF ch at' e ≤ at'.length := by
  have := sumTo_bd (n := at'.length) (fun j _ => bitF_bd (chose ch at' j) e)
  unfold usersF; omega
theorem usersF_pos {ch : List (List Int)} {at' : List Int} {e i : Nat} (hi : i < at'.length) (hb : bitF (chose ch at' i) e = 1) : 1 ≤ usersF ch at' e := by
  have := sumTo_ge (f := fun i => bitF (chose ch at' i) e) (fun j _ => (bitF_bd _ _).1) hi
  unfold usersF; omega
theorem roadF_bd {ch co : List (List Int)} {at' : List Int} (h : AtOk ch co at') (i e : Nat) (hi : i < at'.length) (he : e < co.length) : -999 ≤ roadF ch co at' i e ∧ roadF ch co at' i e ≤ 999 := by
  unfold roadF
  split
  · rename_i hb
    have h1 := usersF_pos hi hb
    have h2 := usersF_bd ch at' e
    have h3 := h.nat'
    exact (h.hco e he).2 _ (by omega)
  · omega
theorem costF_bd {ch co : List (List Int)} {at' : List Int} (h : AtOk ch co at') (i : Nat) (hi : i < at'.length) (n : Nat) (hn : n ≤ co.length) : -10000 ≤ sumTo (roadF ch co at' i) n ∧ sumTo (roadF ch co at' i) n ≤ 10000 := by
  have := sumTo_bd (f := roadF ch co at' i) (n := n) (fun e he => roadF_bd h i e hi (by omega))
  have := h.nco
  omega

theorem CostOf_fc (ch co : List (List Int)) (at' : List Int) (i : Nat) (hok : AtOk ch co at') (hi : i < at'.length) : FC Try.prog 12 [.agg [.rows ch, .rows co], .ints at', .i (i : Nat)] (.i (costF ch co at' i)) := by
  refine FC.intro Try.func12 rfl (Nat.le_of_ble_eq_true rfl) fun hfit => ?_
  have fit0 := hfit _ (.head _)
  obtain ⟨fitl1, fitr1⟩ := (hfit _ (.tail _ (.head _))).ints
  have fit2 : -9223372036854775808 ≤ ((i : Nat) : Int) ∧ ((i : Nat) : Int) ≤ 9223372036854775807 := (hfit _ (.tail _ (.tail _ (.head _)))).int64
  refine awp_seq ?_
  refine awp_region rfl (.n (fun _ => op_box (.plain rfl) (by simp)) (.n (fun _ => op_assign (.plain rfl)) (.nil _))) ?_
  refine awp_seq ?_
  refine awp_region rfl (.n (fun _ => op_assign (.plain rfl)) (.nil _)) ?_
  refine awp_seq ?_
  refine awp_seq ?_
  refine awp_region rfl (.n (fun _ => op_assign (.plain rfl)) (.nil _)) ?_
  refine awp_block ?_
  refine awp_loop (σ := Nat) (fun (e : Nat) => e ≤ co.length) (fun (e : Nat) => ⟨[(3, .pv (.rd [.rows ch, .rows co])), (1, .pv (.ints at')), (2, .int (i : Nat)), (7, .int (sumTo (roadF ch co at' i) e)), (8, .int (e : Nat))], []⟩) (fun (e : Nat) => co.length - e) 0 ?_ (Ent.kept ⟨rfl, rfl, rfl, rfl, rfl, trivial⟩ trivial) ?_
  · simp
  rintro e hp
  try dsimp only at hp
  have hnco := hok.nco
  have hnat := hok.nat'
  have hnch := hok.nch
  have hab := hok.hat i
  have hcb : i < at'.length → 0 ≤ (ch.getD i []).getD (at'.getD i 0).toNat 0 ∧ (ch.getD i []).getD (at'.getD i 0).toNat 0 < 2 ^ co.length := chose_bd hok
  have hpc := two_pow_bd hok.nco
  have hpe : (2 : Int) ^ ((e : Nat) : Int).toNat = 2 ^ e := by rw [Int.toNat_natCast]
  have hpl := two_pow_nat e
  have hpb : e ≤ 6 → _ := two_pow_bd (k := e) (m := 6)
  have hub := usersF_bd ch at' e
  have hup := usersF_pos (ch := ch) (e := e) hi
  have hlc : e < co.length → (co.getD e []).length = ch.length := fun h => (hok.hco e h).1
  have hvc := fun h => (hok.hco e h).2 (usersF ch at' e - 1).toNat
  have hsb := costF_bd hok i hi e
  have hbt : (ch.getD i []).getD (at'.getD i 0).toNat 0 / (1 * 2 ^ ((e : Nat) : Int).toNat) % 2 = bitF (chose ch at' i) e := by rw [Int.one_mul]; rfl
  refine awp_seq ?_
  refine awp_seq ?_
  refine awp_region rfl (.n (fun _ => op_move (.plain rfl)) (.n (fun _ => op_fieldAddr Try.underlying24 rfl rfl Try.sizeOf22 (.plain rfl)) (.n (fun _ => op_load Try.isAgg22 (.plain rfl)) (.n (fun _ => op_len (s := 0) Try.underlying22 (.plain rfl)) (.n (fun _ => op_lss (.plain rfl) (.plain rfl)) (.nil _)))))) ?_
  refine awp_cond rfl (fun h => ?_) (fun h => ?_)
  · try simp only [decide_eq_true_eq, decide_eq_false_iff_not, Bool.and_eq_true, Bool.or_eq_true, Bool.and_eq_false_iff, Bool.or_eq_false_iff, Bool.not_eq_true', Bool.not_eq_false', Bool.not_eq_true, Bool.not_eq_false, Bool.true_eq_false, Bool.false_eq_true] at h
    refine awp_skip ?_
    refine awp_seq ?_
    refine awp_block ?_
    refine awp_seq ?_
    refine awp_region rfl (.n (fun _ => op_load_agg Try.isAgg24 Try.sizeOf24 (.plain rfl) (Nat.le_of_ble_eq_true rfl)) (.n (fun _ => op_move (.plain rfl)) (.n (fun _ => op_move (.plain rfl)) (.n (fun _ => op_call3 Try.call27 (.plain rfl) (.plain rfl) (.plain rfl) (usersOf_fc _ _ _ _ ?_ ?_)) (.n (fun _ => op_assign (.plain rfl)) (.nil _)))))) ?_
    · assumption
    · omega
    refine awp_seq ?_
    refine awp_region_draw mixed rfl (.n (fun _ => op_fieldAddr Try.underlying24 rfl rfl Try.sizeOf22 (.plain rfl)) (.n (fun _ => op_load Try.isAgg22 (.plain rfl)) (.n (fun _ => op_move (.plain rfl)) (.n (fun _ => op_indexAddrN Try.underlying22 Try.sizeOf25 (.plain rfl) (.plain rfl) (fun _ => rfl) ?_) (.n (fun _ => op_load Try.isAgg25 (.plain rfl)) (.n (fun _ => op_move (.plain rfl)) (.n (fun _ => op_move (.plain rfl)) (.n (fun _ => op_indexAddrN Try.underlying25 Try.sizeOf3 (.plain rfl) (.plain rfl) (fun _ => rfl) ?_) (.n (fun _ => op_load Try.isAgg3 (.plain rfl)) (.n (fun _ => op_indexAddr Try.underlying25 Try.sizeOf3 (.plain rfl) (.plain rfl) (fun _ => rfl) ?_) (.n (fun _ => op_load Try.isAgg3 (.plain rfl)) (.n (fun _ => op_move (.plain rfl)) (.n (fun _ => op_shl (.plain rfl) (.plain rfl) ?_) (.n (fun _ => op_quo (.plain rfl) (.plain rfl) ?_) (.n (fun _ => op_rem (.plain rfl) (.plain rfl) ?_) (.n (fun _ => op_eql (.plain rfl) (.plain rfl)) (.nil _))))))))))))))))) ?d6 ?_
    · omega
    · omega
    · omega
    · unfold InR; omega
    · omega
    · exact ⟨Int.ediv_nonneg (hcb (by omega)).1 (by omega), by omega⟩
    · kernel_rfl
    refine awp_cond rfl (fun h => ?_) (fun h => ?_)
    · try simp only [decide_eq_true_eq, decide_eq_false_iff_not, Bool.and_eq_true, Bool.or_eq_true, Bool.and_eq_false_iff, Bool.or_eq_false_iff, Bool.not_eq_true', Bool.not_eq_false', Bool.not_eq_true, Bool.not_eq_false, Bool.true_eq_false, Bool.false_eq_true] at h
      have hup' := hup (hbt.symm.trans h)
      refine awp_region rfl (.n (fun _ => op_move (.plain rfl)) (.n (fun _ => op_fieldAddr Try.underlying24 rfl rfl Try.sizeOf22 (.plain rfl)) (.n (fun _ => op_load Try.isAgg22 (.plain rfl)) (.n (fun _ => op_move (.plain rfl)) (.n (fun _ => op_indexAddrN Try.underlying22 Try.sizeOf25 (.plain rfl) (.plain rfl) (fun _ => rfl) ?_) (.n (fun _ => op_load Try.isAgg25 (.plain rfl)) (.n (fun _ => op_move (.plain rfl)) (.n (fun _ => op_sub (.plain rfl) (.plain rfl) ?_) (.n (fun _ => op_indexAddr Try.underlying25 Try.sizeOf3 (.plain rfl) (.plain rfl) (fun _ => rfl) ?_) (.n (fun _ => op_load Try.isAgg3 (.plain rfl)) (.n (fun _ => op_add (.plain rfl) (.plain rfl) ?_) (.n (fun _ => op_assign (.plain rfl)) (.nil _))))))))))))) ?_
      · omega
      · unfold InR; omega
      · omega
      · unfold InR; omega
      refine awp_region rfl (.n (fun _ => op_move (.plain rfl)) (.n (fun _ => op_add (.plain rfl) (.plain rfl) ?_) (.n (fun _ => op_assign (.plain rfl)) (.nil _)))) ?_
      · unfold InR; omega
      exact ⟨e + 1, by omega, by dsimp only; omega, (Ent.kept ⟨rfl, rfl, rfl, (by simp only [sumTo, roadF]; first | (rw [if_pos (hbt.symm.trans h)]; rfl) | (rw [if_neg (fun hc => h (hbt.trans hc)), Int.add_zero]; rfl)), rfl, trivial⟩ trivial)⟩
    · try simp only [decide_eq_true_eq, decide_eq_false_iff_not, Bool.and_eq_true, Bool.or_eq_true, Bool.and_eq_false_iff, Bool.or_eq_false_iff, Bool.not_eq_true', Bool.not_eq_false', Bool.not_eq_true, Bool.not_eq_false, Bool.true_eq_false, Bool.false_eq_true] at h
      refine awp_skip ?_
      refine awp_region rfl (.n (fun _ => op_move (.plain rfl)) (.n (fun _ => op_add (.plain rfl) (.plain rfl) ?_) (.n (fun _ => op_assign (.plain rfl)) (.nil _)))) ?_
      · unfold InR; omega
      exact ⟨e + 1, by omega, by dsimp only; omega, (Ent.kept ⟨rfl, rfl, rfl, (by simp only [sumTo, roadF]; first | (rw [if_pos (hbt.symm.trans h)]; rfl) | (rw [if_neg (fun hc => h (hbt.trans hc)), Int.add_zero]; rfl)), rfl, trivial⟩ trivial)⟩
  · try simp only [decide_eq_true_eq, decide_eq_false_iff_not, Bool.and_eq_true, Bool.or_eq_true, Bool.and_eq_false_iff, Bool.or_eq_false_iff, Bool.not_eq_true', Bool.not_eq_false', Bool.not_eq_true, Bool.not_eq_false, Bool.true_eq_false, Bool.false_eq_true] at h
    refine awp_exit ?_
    refine awp_seq ?_
    refine awp_region rfl (.n (fun _ => op_move (.plain rfl)) (.n (fun _ => op_assign (.plain rfl)) (.nil _))) ?_
    refine awp_ret ?_
    refine retQ.ret ?_
    refine ret1 rfl rfl rfl ?_
    obtain rfl : e = co.length := by omega
    rfl

theorem cost_fc (ch co : List (List Int)) (at' : List Int) (hok : AtOk ch co at') : FC Try.prog 23 [.agg [.rows ch, .rows co], .ints at'] (.ints (mapr at'.length (costF ch co at'))) := by
  refine FC.intro Try.func23 rfl (Nat.le_of_ble_eq_true rfl) fun hfit => ?_
  have fit0 := hfit _ (.head _)
  obtain ⟨fitl1, fitr1⟩ := (hfit _ (.tail _ (.head _))).ints
  have hnco := hok.nco
  have hnat := hok.nat'
  have hnch := hok.nch
  refine awp_seq ?_
  refine awp_region rfl (.n (fun _ => op_box (.plain rfl) (by simp)) (.n (fun _ => op_assign (.plain rfl)) (.nil _))) ?_
  refine awp_seq ?_
  refine awp_region rfl (.n (fun _ => op_load_agg Try.isAgg24 Try.sizeOf24 (.plain rfl) (Nat.le_of_ble_eq_true rfl)) (.n (fun _ => op_move (.plain rfl)) (.n (fun _ => op_call2 Try.call24 (.plain rfl) (.plain rfl) (users_fc _ _ _ ?_)) (.n (fun _ => op_assign (.plain rfl)) (.nil _))))) ?_
  · assumption
  refine awp_seq ?_
  refine awp_region rfl (.n (fun _ => op_move (.plain rfl)) (.n (fun _ => op_len (s := 0) Try.underlying25 (.plain rfl)) (.e (op_make (α := Int) (d := 0) (f := (fun n => [.int .i64 n])) 16 0 ety25 (.plain rfl) (.plain rfl) (fun _ => rfl) rfl rfl ?_) rfl (.n (fun _ => op_assign (.plain rfl)) (.nil _))))) ?_
  · omega
  refine awp_seq ?_
  refine awp_seq ?_
  refine awp_region rfl (.n (fun _ => op_move (.plain rfl)) (.n (fun _ => op_len (s := 0) Try.underlying25 (.plain rfl)) (.n (fun _ => op_move (.plain rfl)) (.nil _)))) ?_
  refine awp_block ?_
  refine awp_ent (Ent.ren 16 1006 rfl rfl rfl) ?_
  refine awp_loop (σ := Nat) (fun (k : Nat) => k ≤ at'.length) (fun (k : Nat) => ⟨[(2, .pv (.rd [.rows ch, .rows co])), (5, .pv (.ints (mapr co.length (usersF ch at')))), (6, .own 1006), (17, .pv (.ints at')), (18, .int (at'.length : Nat)), (19, .int (k : Nat))], [(1006, .arr 3 1 Int 0 (fun n => [.int .i64 n]) (mapr at'.length fun j => if j < k then costF ch co at' j else 0))]⟩) (fun (k : Nat) => at'.length - k) 0 ?_ (Ent.kept ⟨rfl, rfl, rfl, rfl, rfl, rfl, trivial⟩ ⟨(congrArg (fun l => some (Blk.arr 3 1 Int 0 (fun n => [.int .i64 n]) l)) ((replicate_mapr _ _).trans (mapr_same fun j hj => by rw [if_neg (by omega)]))), trivial⟩) ?_
  · simp
  rintro k hp
  try dsimp only at hp
  have hnco := hok.nco
  have hnat := hok.nat'
  have hnch := hok.nch
  have hab := hok.hat k
  have hcb : k < at'.length → 0 ≤ (ch.getD k []).getD (at'.getD k 0).toNat 0 ∧ (ch.getD k []).getD (at'.getD k 0).toNat 0 < 2 ^ co.length := chose_bd hok
  have hpc := two_pow_bd hok.nco
  refine awp_seq ?_
  refine awp_region rfl (.n (fun _ => op_lss (.plain rfl) (.plain rfl)) (.nil _)) ?_
  refine awp_seq ?_
  refine awp_cond rfl (fun h => ?_) (fun h => ?_)
  · try simp only [decide_eq_true_eq, decide_eq_false_iff_not, Bool.and_eq_true, Bool.or_eq_true, Bool.and_eq_false_iff, Bool.or_eq_false_iff, Bool.not_eq_true', Bool.not_eq_false', Bool.not_eq_true, Bool.not_eq_false, Bool.true_eq_false, Bool.false_eq_true] at h
    refine awp_skip ?_
    refine awp_seq ?_
    refine awp_block ?_
    refine awp_seq ?_
    refine awp_region rfl (.n (fun _ => op_move (.plain rfl)) (.n (fun _ => op_indexAddrN Try.underlying25 Try.sizeOf3 (.plain rfl) (.plain rfl) (fun _ => rfl) ?_) (.n (fun _ => op_load Try.isAgg3 (.plain rfl)) (.n (fun _ => op_assign (.plain rfl)) (.n (fun _ => op_assign (.plain rfl)) (.nil _)))))) ?_
    · omega
    refine awp_seq ?_
    refine awp_region rfl (.n (fun _ => op_fieldAddr Try.underlying24 rfl rfl Try.sizeOf22 (.plain rfl)) (.n (fun _ => op_load Try.isAgg22 (.plain rfl)) (.n (fun _ => op_len (s := 0) Try.underlying22 (.plain rfl)) (.n (fun _ => op_move (.plain rfl)) (.nil _))))) ?_
    refine awp_block ?_
    refine awp_loop (σ := Nat) (fun (e : Nat) => e ≤ co.length) (fun (e : Nat) => ⟨[(2, .pv (.rd [.rows ch, .rows co])), (5, .pv (.ints (mapr co.length (usersF ch at')))), (6, .own 1006), (17, .pv (.ints at')), (18, .int (at'.length : Nat)), (19, .int (k : Nat)), (7, .int (k : Nat)), (8, .int (at'.getD k 0)), (25, .pv (.rows co)), (26, .int (co.length : Nat)), (27, .int (e : Nat))], [(1006, .arr 3 1 Int 0 (fun n => [.int .i64 n]) (mapr at'.length fun j => if j < k then costF ch co at' j else if j = k then sumTo (roadF ch co at' k) e else 0))]⟩) (fun (e : Nat) => co.length - e) 0 ?_ (Ent.kept ⟨rfl, rfl, rfl, rfl, rfl, rfl, rfl, rfl, rfl, rfl, rfl, trivial⟩ ⟨(congrArg (fun l => some (Blk.arr 3 1 Int 0 (fun n => [.int .i64 n]) l)) (mapr_same fun j hj => if h1 : j < k then (by rw [if_pos h1, if_pos h1]) else if h2 : j = k then (by rw [if_neg h1, if_neg h1, if_pos h2]; rfl) else (by rw [if_neg h1, if_neg h1, if_neg h2]))), trivial⟩) ?_
    · simp
    rintro e hp
    try dsimp only at hp
    have hml : (mapr at'.length fun j => if j < k then costF ch co at' j else if j = k then sumTo (roadF ch co at' k) e else 0).length = at'.length := mapr_length _ _
    have hmu : (mapr co.length (usersF ch at')).length = co.length := mapr_length _ _
    have hpl := two_pow_nat e
    have hpe : (2 : Int) ^ ((e : Nat) : Int).toNat = 2 ^ e := by rw [Int.toNat_natCast]
    have hub := usersF_bd ch at' e
    have hup : k < at'.length → _ → _ := usersF_pos (ch := ch) (at' := at') (e := e)
    have hlc : e < co.length → (co.getD e []).length = ch.length := fun h => (hok.hco e h).1
    have hgu : e < co.length → (mapr co.length (usersF ch at')).getD e 0 = usersF ch at' e := fun h => mapr_getD _ h
    have hvc : e < co.length → (usersF ch at' e - 1).toNat < ch.length → _ ∧ _ := fun h => (hok.hco e h).2 (usersF ch at' e - 1).toNat
    have hsb : k < at'.length → e ≤ co.length → _ := fun h => costF_bd hok k h e
    have hgk : k < at'.length → (mapr at'.length fun j => if j < k then costF ch co at' j else if j = k then sumTo (roadF ch co at' k) e else 0).getD k 0 = sumTo (roadF ch co at' k) e := fun hj => by rw [mapr_getD _ hj, if_neg (by omega), if_pos rfl]
    have hbt : (ch.getD k []).getD (at'.getD k 0).toNat 0 / 2 ^ ((e : Nat) : Int).toNat % 2 = bitF (chose ch at' k) e := rfl
    refine awp_seq ?_
    refine awp_region rfl (.n (fun _ => op_lss (.plain rfl) (.plain rfl)) (.nil _)) ?_
    refine awp_seq ?_
    refine awp_cond rfl (fun h => ?_) (fun h => ?_)
    · try simp only [decide_eq_true_eq, decide_eq_false_iff_not, Bool.and_eq_true, Bool.or_eq_true, Bool.and_eq_false_iff, Bool.or_eq_false_iff, Bool.not_eq_true', Bool.not_eq_false', Bool.not_eq_true, Bool.not_eq_false, Bool.true_eq_false, Bool.false_eq_true] at h
      refine awp_skip ?_
      refine awp_seq ?_
      refine awp_block ?_
      refine awp_seq ?_
      refine awp_region rfl (.n (fun _ => op_move (.plain rfl)) (.n (fun _ => op_indexAddrN Try.underlying22 Try.sizeOf25 (.plain rfl) (.plain rfl) (fun _ => rfl) ?_) (.n (fun _ => op_load Try.isAgg25 (.plain rfl)) (.n (fun _ => op_assign (.plain rfl)) (.n (fun _ => op_assign (.plain rfl)) (.nil _)))))) ?_
      · omega
      refine awp_seq ?_
      refine awp_region rfl (.n (fun _ => op_fieldAddr Try.underlying24 rfl rfl Try.sizeOf22 (.plain rfl)) (.n (fun _ => op_load Try.isAgg22 (.plain rfl)) (.n (fun _ => op_move (.plain rfl)) (.n (fun _ => op_indexAddrN Try.underlying22 Try.sizeOf25 (.plain rfl) (.plain rfl) (fun _ => rfl) ?_) (.n (fun _ => op_load Try.isAgg25 (.plain rfl)) (.n (fun _ => op_move (.plain rfl)) (.n (fun _ => op_indexAddr Try.underlying25 Try.sizeOf3 (.plain rfl) (.plain rfl) (fun _ => rfl) ?_) (.n (fun _ => op_load Try.isAgg3 (.plain rfl)) (.n (fun _ => op_move (.plain rfl)) (.n (fun _ => op_shr (.plain rfl) (.plain rfl) ?_) (.n (fun _ => op_bit (.plain rfl) ?_) (.n (fun _ => op_eql (.plain rfl) (.plain rfl)) (.nil _))))))))))))) ?_
      · omega
      · omega
      · omega
      · exact Int.ediv_nonneg (hcb (by omega)).1 (by omega)
      refine awp_cond rfl (fun h => ?_) (fun h => ?_)
      · try simp only [decide_eq_true_eq, decide_eq_false_iff_not, Bool.and_eq_true, Bool.or_eq_true, Bool.and_eq_false_iff, Bool.or_eq_false_iff, Bool.not_eq_true', Bool.not_eq_false', Bool.not_eq_true, Bool.not_eq_false, Bool.true_eq_false, Bool.false_eq_true] at h
        have hup' := hup (by omega) (hbt.symm.trans h)
        refine awp_region_draw mixed rfl (.n (fun _ => op_move (.plain rfl)) (.n (fun _ => op_move (.plain rfl)) (.r (op_indexAddrON Try.underlying25 Try.sizeOf3 (.plain rfl) rfl (.plain rfl) ?_) (.r (op_loadE Try.isAgg3 (.plain rfl) rfl (fun _ => rfl) ?_ rfl) (.n (fun _ => op_move (.plain rfl)) (.n (fun _ => op_move (.plain rfl)) (.n (fun _ => op_move (.plain rfl)) (.n (fun _ => op_indexAddrN Try.underlying25 Try.sizeOf3 (.plain rfl) (.plain rfl) (fun _ => rfl) ?_) (.n (fun _ => op_load Try.isAgg3 (.plain rfl)) (.n (fun _ => op_sub (.plain rfl) (.plain rfl) ?_) (.n (fun _ => op_indexAddr Try.underlying25 Try.sizeOf3 (.plain rfl) (.plain rfl) (fun _ => rfl) ?_) (.n (fun _ => op_load Try.isAgg3 (.plain rfl)) (.n (fun _ => op_add (.plain rfl) (.plain rfl) ?_) (.r (op_indexAddrON Try.underlying25 Try.sizeOf3 (.plain rfl) rfl (.plain rfl) ?_) (.e (op_storeE _ Try.sizeOf3 (.plain rfl) (.plain rfl) rfl (fun _ => rfl) ?_ (by decide) rfl rfl) rfl (.nil _)))))))))))))))) ?d7 ?_
        · first | omega | (simp; omega)
        · first | omega | (simp; omega)
        · omega
        · unfold InR; rw [hgu (by omega)]; omega
        · rw [hgu (by omega)]; omega
        · unfold InR; rw [hgk (by omega), hgu (by omega)]; omega
        · first | omega | (simp; omega)
        · first | omega | (simp; omega)
        · kernel_rfl
        refine awp_region rfl (.n (fun _ => op_add (.plain rfl) (.plain rfl) ?_) (.n (fun _ => op_move (.plain rfl)) (.nil _))) ?_
        · unfold InR; omega
        exact ⟨e + 1, by omega, by dsimp only; omega, (Ent.kept ⟨rfl, rfl, rfl, rfl, rfl, rfl, rfl, rfl, rfl, rfl, rfl, trivial⟩ ⟨(by first | exact (congrArg (fun l => some (Blk.arr 3 1 Int 0 (fun n => [.int .i64 n]) l)) (mapr_set (fun hj => by rw [hgk (by omega), hgu (by omega), if_neg (by omega), if_pos rfl]; simp only [sumTo]; unfold roadF; rw [if_pos (hbt.symm.trans h)]) (fun j hj hne => if h1 : j < k then (by rw [if_pos h1, if_pos h1]) else (by rw [if_neg h1, if_neg h1, if_neg (by omega), if_neg (by omega)])))) | exact (congrArg (fun l => some (Blk.arr 3 1 Int 0 (fun n => [.int .i64 n]) l)) (mapr_same fun j hj => if h1 : j < k then (by rw [if_pos h1, if_pos h1]) else if h2 : j = k then (by rw [if_neg h1, if_neg h1, if_pos h2, if_pos h2]; simp only [sumTo]; unfold roadF; rw [if_neg (fun hc => h (hbt.trans hc)), Int.add_zero]) else (by rw [if_neg h1, if_neg h1, if_neg h2, if_neg h2])))), trivial⟩)⟩
      · try simp only [decide_eq_true_eq, decide_eq_false_iff_not, Bool.and_eq_true, Bool.or_eq_true, Bool.and_eq_false_iff, Bool.or_eq_false_iff, Bool.not_eq_true', Bool.not_eq_false', Bool.not_eq_true, Bool.not_eq_false, Bool.true_eq_false, Bool.false_eq_true] at h
        refine awp_skip ?_
        refine awp_region rfl (.n (fun _ => op_add (.plain rfl) (.plain rfl) ?_) (.n (fun _ => op_move (.plain rfl)) (.nil _))) ?_
        · unfold InR; omega
        exact ⟨e + 1, by omega, by dsimp only; omega, (Ent.kept ⟨rfl, rfl, rfl, rfl, rfl, rfl, rfl, rfl, rfl, rfl, rfl, trivial⟩ ⟨(by first | exact (congrArg (fun l => some (Blk.arr 3 1 Int 0 (fun n => [.int .i64 n]) l)) (mapr_set (fun hj => by rw [hgk (by omega), hgu (by omega), if_neg (by omega), if_pos rfl]; simp only [sumTo]; unfold roadF; rw [if_pos (hbt.symm.trans h)]) (fun j hj hne => if h1 : j < k then (by rw [if_pos h1, if_pos h1]) else (by rw [if_neg h1, if_neg h1, if_neg (by omega), if_neg (by omega)])))) | exact (congrArg (fun l => some (Blk.arr 3 1 Int 0 (fun n => [.int .i64 n]) l)) (mapr_same fun j hj => if h1 : j < k then (by rw [if_pos h1, if_pos h1]) else if h2 : j = k then (by rw [if_neg h1, if_neg h1, if_pos h2, if_pos h2]; simp only [sumTo]; unfold roadF; rw [if_neg (fun hc => h (hbt.trans hc)), Int.add_zero]) else (by rw [if_neg h1, if_neg h1, if_neg h2, if_neg h2])))), trivial⟩)⟩
    · try simp only [decide_eq_true_eq, decide_eq_false_iff_not, Bool.and_eq_true, Bool.or_eq_true, Bool.and_eq_false_iff, Bool.or_eq_false_iff, Bool.not_eq_true', Bool.not_eq_false', Bool.not_eq_true, Bool.not_eq_false, Bool.true_eq_false, Bool.false_eq_true] at h
      refine awp_exit ?_
      refine awp_region rfl (.n (fun _ => op_add (.plain rfl) (.plain rfl) ?_) (.n (fun _ => op_move (.plain rfl)) (.nil _))) ?_
      · unfold InR; omega
      obtain rfl : e = co.length := by omega
      exact ⟨k + 1, by omega, by dsimp only; omega, (Ent.kept ⟨rfl, rfl, rfl, rfl, rfl, rfl, trivial⟩ ⟨(congrArg (fun l => some (Blk.arr 3 1 Int 0 (fun n => [.int .i64 n]) l)) (mapr_same fun j hj => if h1 : j < k then (by rw [if_pos h1, if_pos (by omega)]) else if h2 : j = k then (by subst h2; rw [if_neg h1, if_pos rfl, if_pos (by omega)]; rfl) else (by rw [if_neg h1, if_neg h2, if_neg (by omega)]))), trivial⟩)⟩
  · try simp only [decide_eq_true_eq, decide_eq_false_iff_not, Bool.and_eq_true, Bool.or_eq_true, Bool.and_eq_false_iff, Bool.or_eq_false_iff, Bool.not_eq_true', Bool.not_eq_false', Bool.not_eq_true, Bool.not_eq_false, Bool.true_eq_false, Bool.false_eq_true] at h
    refine awp_exit ?_
    refine awp_seq ?_
    refine awp_region rfl (.n (fun _ => op_move (.plain rfl)) (.n (fun _ => op_assign (.plain rfl)) (.nil _))) ?_
    refine awp_ret ?_
    refine retQ.ret ?_
    refine ret1 rfl rfl rfl ?_
    obtain rfl : k = at'.length := by omega
    exact congrArg PV.ints (mapr_same fun j hj => by rw [if_pos hj])


def colTo (co : List (List Int)) (e n : Nat) : Int := sumTo (fun k => (co.getD e []).getD k 0) n
def colF (ch co : List (List Int)) (at' : List Int) (e : Nat) : Int := colTo co e (usersF ch at' e).toNat
theorem colTo_bd {ch co : List (List Int)} {at' : List Int} (h : AtOk ch co at') {e n : Nat} (he : e < co.length) (hn : n ≤ at'.length) : -5000 ≤ colTo co e n ∧ colTo co e n ≤ 5000 := by
  have := sumTo_bd (f := fun k => (co.getD e []).getD k 0) (n := n) (A := -999) (B := 999) (fun k hk => (h.hco e he).2 k (by have := h.nat'; omega))
  have := h.nat'
  have := h.nch
  unfold colTo; omega
theorem heightF_bd {ch co : List (List Int)} {at' : List Int} (h : AtOk ch co at') {n : Nat} (hn : n ≤ co.length) : -30000 ≤ sumTo (colF ch co at') n ∧ sumTo (colF ch co at') n ≤ 30000 := by
  have := sumTo_bd (f := colF ch co at') (n := n) (A := -5000) (B := 5000) (fun e he => colTo_bd h (by omega) (by have := usersF_bd ch at' e; omega))
  have := h.nco
  omega
theorem heightF_eq (ch co : List (List Int)) (at' : List Int) : heightF ch co at' = sumTo (colF ch co at') co.length := rfl
theorem getD_take {l : List Int} {n k : Nat} (h : k < n) : (l.take n).getD k 0 = l.getD k 0 := by
  simp [List.getD_eq_getElem?_getD, List.getElem?_take, h]

theorem HeightOf_fc (ch co : List (List Int)) (at' : List Int) (hok : AtOk ch co at') : FC Try.prog 14 [.agg [.rows ch, .rows co], .ints at'] (.i (heightF ch co at')) := by
  refine FC.intro Try.func14 rfl (Nat.le_of_ble_eq_true rfl) fun hfit => ?_
  have fit0 := hfit _ (.head _)
  obtain ⟨fitl1, fitr1⟩ := (hfit _ (.tail _ (.head _))).ints
  have hnco := hok.nco
  refine awp_seq ?_
  refine awp_region rfl (.n (fun _ => op_box (.plain rfl) (by simp)) (.n (fun _ => op_assign (.plain rfl)) (.nil _))) ?_
  refine awp_seq ?_
  refine awp_region rfl (.n (fun _ => op_assign (.plain rfl)) (.nil _)) ?_
  refine awp_seq ?_
  refine awp_seq ?_
  refine awp_region rfl (.n (fun _ => op_assign (.plain rfl)) (.nil _)) ?_
  refine awp_block ?_
  refine awp_loop (σ := Nat) (fun (e : Nat) => e ≤ co.length) (fun (e : Nat) => ⟨[(2, .pv (.rd [.rows ch, .rows co])), (1, .pv (.ints at')), (5, .int (sumTo (colF ch co at') e)), (6, .int (e : Nat))], []⟩) (fun (e : Nat) => co.length - e) 0 ?_ (Ent.kept ⟨rfl, rfl, rfl, rfl, trivial⟩ trivial) ?_
  · simp
  rintro e hp
  try dsimp only at hp
  have hsb := fun h => heightF_bd hok (n := e) h
  have hub := usersF_bd ch at' e
  refine awp_seq ?_
  refine awp_seq ?_
  refine awp_region rfl (.n (fun _ => op_move (.plain rfl)) (.n (fun _ => op_fieldAddr Try.underlying24 rfl rfl Try.sizeOf22 (.plain rfl)) (.n (fun _ => op_load Try.isAgg22 (.plain rfl)) (.n (fun _ => op_len (s := 0) Try.underlying22 (.plain rfl)) (.n (fun _ => op_lss (.plain rfl) (.plain rfl)) (.nil _)))))) ?_
  refine awp_cond rfl (fun h => ?_) (fun h => ?_)
  · try simp only [decide_eq_true_eq, decide_eq_false_iff_not, Bool.and_eq_true, Bool.or_eq_true, Bool.and_eq_false_iff, Bool.or_eq_false_iff, Bool.not_eq_true', Bool.not_eq_false', Bool.not_eq_true, Bool.not_eq_false, Bool.true_eq_false, Bool.false_eq_true] at h
    refine awp_skip ?_
    refine awp_seq ?_
    refine awp_block ?_
    refine awp_seq ?_
    refine awp_region rfl (.n (fun _ => op_load_agg Try.isAgg24 Try.sizeOf24 (.plain rfl) (Nat.le_of_ble_eq_true rfl)) (.n (fun _ => op_move (.plain rfl)) (.n (fun _ => op_move (.plain rfl)) (.n (fun _ => op_call3 Try.call27 (.plain rfl) (.plain rfl) (.plain rfl) (usersOf_fc _ _ _ _ ?_ ?_)) (.n (fun _ => op_assign (.plain rfl)) (.nil _)))))) ?_
    · assumption
    · omega
    refine awp_seq ?_
    refine awp_region rfl (.n (fun _ => op_assign (.plain rfl)) (.nil _)) ?_
    refine awp_block ?_
    refine awp_loop (σ := Nat) (fun (k : Nat) => k ≤ (usersF ch at' e).toNat) (fun (k : Nat) => ⟨[(2, .pv (.rd [.rows ch, .rows co])), (1, .pv (.ints at')), (5, .int (sumTo (colF ch co at') e + colTo co e k)), (6, .int (e : Nat)), (7, .int (usersF ch at' e)), (8, .int (k : Nat))], []⟩) (fun (k : Nat) => (usersF ch at' e).toNat - k) 0 ?_ (Ent.kept ⟨rfl, rfl, (by rw [show colTo co e 0 = 0 from rfl, Int.add_zero]; rfl), rfl, rfl, rfl, trivial⟩ trivial) ?_
    · simp
    rintro k hp
    try dsimp only at hp
    have hcb := fun h1 h2 => colTo_bd hok (e := e) (n := k) h1 h2
    have hnat := hok.nat'
    have hlc : e < co.length → (co.getD e []).length = ch.length := fun h => (hok.hco e h).1
    have hvc := fun h => (hok.hco e h).2 k
    refine awp_seq ?_
    refine awp_seq ?_
    refine awp_region rfl (.n (fun _ => op_move (.plain rfl)) (.n (fun _ => op_move (.plain rfl)) (.n (fun _ => op_lss (.plain rfl) (.plain rfl)) (.nil _)))) ?_
    refine awp_cond rfl (fun h => ?_) (fun h => ?_)
    · try simp only [decide_eq_true_eq, decide_eq_false_iff_not, Bool.and_eq_true, Bool.or_eq_true, Bool.and_eq_false_iff, Bool.or_eq_false_iff, Bool.not_eq_true', Bool.not_eq_false', Bool.not_eq_true, Bool.not_eq_false, Bool.true_eq_false, Bool.false_eq_true] at h
      refine awp_skip ?_
      refine awp_seq ?_
      refine awp_block ?_
      refine awp_region rfl (.n (fun _ => op_move (.plain rfl)) (.n (fun _ => op_fieldAddr Try.underlying24 rfl rfl Try.sizeOf22 (.plain rfl)) (.n (fun _ => op_load Try.isAgg22 (.plain rfl)) (.n (fun _ => op_move (.plain rfl)) (.n (fun _ => op_indexAddrN Try.underlying22 Try.sizeOf25 (.plain rfl) (.plain rfl) (fun _ => rfl) ?_) (.n (fun _ => op_load Try.isAgg25 (.plain rfl)) (.n (fun _ => op_move (.plain rfl)) (.n (fun _ => op_indexAddrN Try.underlying25 Try.sizeOf3 (.plain rfl) (.plain rfl) (fun _ => rfl) ?_) (.n (fun _ => op_load Try.isAgg3 (.plain rfl)) (.n (fun _ => op_add (.plain rfl) (.plain rfl) ?_) (.n (fun _ => op_assign (.plain rfl)) (.nil _)))))))))))) ?_
      · omega
      · omega
      · unfold InR; omega
      refine awp_region rfl (.n (fun _ => op_move (.plain rfl)) (.n (fun _ => op_add (.plain rfl) (.plain rfl) ?_) (.n (fun _ => op_assign (.plain rfl)) (.nil _)))) ?_
      · unfold InR; omega
      exact ⟨k + 1, by omega, by dsimp only; omega, (Ent.kept ⟨rfl, rfl, (by simp only [colTo, sumTo]; rw [← Int.add_assoc]; rfl), rfl, rfl, rfl, trivial⟩ trivial)⟩
    · try simp only [decide_eq_true_eq, decide_eq_false_iff_not, Bool.and_eq_true, Bool.or_eq_true, Bool.and_eq_false_iff, Bool.or_eq_false_iff, Bool.not_eq_true', Bool.not_eq_false', Bool.not_eq_true, Bool.not_eq_false, Bool.true_eq_false, Bool.false_eq_true] at h
      refine awp_exit ?_
      refine awp_region rfl (.n (fun _ => op_move (.plain rfl)) (.n (fun _ => op_add (.plain rfl) (.plain rfl) ?_) (.n (fun _ => op_assign (.plain rfl)) (.nil _)))) ?_
      · unfold InR; omega
      exact ⟨e + 1, by omega, by dsimp only; omega, (Ent.kept ⟨rfl, rfl, (by simp only [sumTo]; rw [show colF ch co at' e = colTo co e k by unfold colF; rw [show (usersF ch at' e).toNat = k by omega]]; rfl), rfl, trivial⟩ trivial)⟩
  · try simp only [decide_eq_true_eq, decide_eq_false_iff_not, Bool.and_eq_true, Bool.or_eq_true, Bool.and_eq_false_iff, Bool.or_eq_false_iff, Bool.not_eq_true', Bool.not_eq_false', Bool.not_eq_true, Bool.not_eq_false, Bool.true_eq_false, Bool.false_eq_true] at h
    refine awp_exit ?_
    refine awp_seq ?_
    refine awp_region rfl (.n (fun _ => op_move (.plain rfl)) (.n (fun _ => op_assign (.plain rfl)) (.nil _))) ?_
    refine awp_ret ?_
    refine retQ.ret ?_
    refine ret1 rfl rfl rfl ?_
    obtain rfl : e = co.length := by omega
    rfl

theorem Height_fc (ch co : List (List Int)) (at' : List Int) : FC Try.prog 8 [.agg [.rows ch, .rows co], .ints at'] (.tup [.i (if atE ch co at' = 0 then heightF ch co at' else 0), .i (atE ch co at')]) := by
  refine FC.intro Try.func8 rfl (Nat.le_of_ble_eq_true rfl) fun hfit => ?_
  have fit0 := hfit _ (.head _)
  obtain ⟨fitl1, fitr1⟩ := (hfit _ (.tail _ (.head _))).ints
  refine awp_seq ?_
  refine awp_region rfl (.n (fun _ => op_box (.plain rfl) (by simp)) (.n (fun _ => op_assign (.plain rfl)) (.n (fun _ => op_assign (.plain rfl)) (.nil _)))) ?_
  refine awp_seq ?_
  refine awp_seq ?_
  refine awp_region rfl (.n (fun _ => op_load_agg Try.isAgg24 Try.sizeOf24 (.plain rfl) (Nat.le_of_ble_eq_true rfl)) (.n (fun _ => op_move (.plain rfl)) (.n (fun _ => op_call2 Try.call22 (.plain rfl) (.plain rfl) (taken_fc _ _ _)) (.n (fun _ => op_assign (.plain rfl)) (.nil _))))) ?_
  refine awp_seq ?_
  refine awp_region rfl (.n (fun _ => op_move (.plain rfl)) (.n (fun _ => op_neq (.plain rfl) (.plain rfl)) (.nil _))) ?_
  refine awp_cond rfl (fun h => ?_) (fun h => ?_)
  · try simp only [decide_eq_true_eq, decide_eq_false_iff_not, Bool.and_eq_true, Bool.or_eq_true, Bool.and_eq_false_iff, Bool.or_eq_false_iff, Bool.not_eq_true', Bool.not_eq_false', Bool.not_eq_true, Bool.not_eq_false, Bool.true_eq_false, Bool.false_eq_true] at h
    refine awp_seq ?_
    refine awp_region rfl (.n (fun _ => op_move (.plain rfl)) (.n (fun _ => op_assign (.plain rfl)) (.n (fun _ => op_assign (.plain rfl)) (.nil _)))) ?_
    refine awp_ret ?_
    refine retQ.ret ?_
    refine ret2 rfl rfl rfl rfl rfl ?_
    rw [if_neg h]
  · try simp only [decide_eq_true_eq, decide_eq_false_iff_not, Bool.and_eq_true, Bool.or_eq_true, Bool.and_eq_false_iff, Bool.or_eq_false_iff, Bool.not_eq_true', Bool.not_eq_false', Bool.not_eq_true, Bool.not_eq_false, Bool.true_eq_false, Bool.false_eq_true] at h
    have hok := AtOk.of h
    have hnat := hok.nat'
    have hnco := hok.nco
    refine awp_skip ?_
    refine awp_seq ?_
    refine awp_region rfl (.n (fun _ => op_assign (.plain rfl)) (.nil _)) ?_
    refine awp_seq ?_
    refine awp_seq ?_
    refine awp_region rfl (.n (fun _ => op_load_agg Try.isAgg24 Try.sizeOf24 (.plain rfl) (Nat.le_of_ble_eq_true rfl)) (.n (fun _ => op_move (.plain rfl)) (.n (fun _ => op_call2 Try.call24 (.plain rfl) (.plain rfl) (users_fc _ _ _ ?_)) (.n (fun _ => op_len (s := 0) Try.underlying25 (.plain rfl)) (.n (fun _ => op_move (.plain rfl)) (.nil _)))))) ?_
    · assumption
    refine awp_block ?_
    refine awp_loop (σ := Nat) (fun (e : Nat) => e ≤ co.length) (fun (e : Nat) => ⟨[(2, .pv (.rd [.rows ch, .rows co])), (7, .int (sumTo (colF ch co at') e)), (20, .pv (.ints (mapr co.length (usersF ch at')))), (21, .int ((mapr co.length (usersF ch at')).length : Nat)), (22, .int (e : Nat))], []⟩) (fun (e : Nat) => co.length - e) 0 ?_ (Ent.kept ⟨rfl, rfl, rfl, rfl, rfl, trivial⟩ trivial) ?_
    · simp
    rintro e hp
    try dsimp only at hp
    have hml : (mapr co.length (usersF ch at')).length = co.length := mapr_length _ _
    have hsb := fun h => heightF_bd hok (n := e) h
    have hub := usersF_bd ch at' e
    have hgu : e < co.length → (mapr co.length (usersF ch at')).getD e 0 = usersF ch at' e := fun h => mapr_getD _ h
    have hlc : e < co.length → (co.getD e []).length = ch.length := fun h => (hok.hco e h).1
    refine awp_seq ?_
    refine awp_region rfl (.n (fun _ => op_lss (.plain rfl) (.plain rfl)) (.nil _)) ?_
    refine awp_seq ?_
    refine awp_cond rfl (fun h => ?_) (fun h => ?_)
    · try simp only [decide_eq_true_eq, decide_eq_false_iff_not, Bool.and_eq_true, Bool.or_eq_true, Bool.and_eq_false_iff, Bool.or_eq_false_iff, Bool.not_eq_true', Bool.not_eq_false', Bool.not_eq_true, Bool.not_eq_false, Bool.true_eq_false, Bool.false_eq_true] at h
      refine awp_skip ?_
      refine awp_seq ?_
      refine awp_block ?_
      refine awp_seq ?_
      refine awp_region rfl (.n (fun _ => op_move (.plain rfl)) (.n (fun _ => op_indexAddrN Try.underlying25 Try.sizeOf3 (.plain rfl) (.plain rfl) (fun _ => rfl) ?_) (.n (fun _ => op_load Try.isAgg3 (.plain rfl)) (.n (fun _ => op_assign (.plain rfl)) (.n (fun _ => op_assign (.plain rfl)) (.nil _)))))) ?_
      · omega
      refine awp_seq ?_
      refine awp_region rfl (.n (fun _ => op_fieldAddr Try.underlying24 rfl rfl Try.sizeOf22 (.plain rfl)) (.n (fun _ => op_load Try.isAgg22 (.plain rfl)) (.n (fun _ => op_move (.plain rfl)) (.n (fun _ => op_indexAddrN Try.underlying22 Try.sizeOf25 (.plain rfl) (.plain rfl) (fun _ => rfl) ?_) (.n (fun _ => op_load Try.isAgg25 (.plain rfl)) (.n (fun _ => op_move (.plain rfl)) (.n (fun _ => op_sliceI (kl := .i64) Try.underlying25 Try.sizeOf3 (fun _ => rfl) (.plain rfl) rfl (.plain rfl) ?_) (.n (fun _ => op_len (s := 0) Try.underlying25 (.plain rfl)) (.n (fun _ => op_move (.plain rfl)) (.nil _)))))))))) ?_
      · omega
      · rw [hgu (by omega)]; omega
      refine awp_block ?_
      refine awp_loop (σ := Nat) (fun (k : Nat) => k ≤ (usersF ch at' e).toNat) (fun (k : Nat) => ⟨[(2, .pv (.rd [.rows ch, .rows co])), (7, .int (sumTo (colF ch co at') e + colTo co e k)), (20, .pv (.ints (mapr co.length (usersF ch at')))), (21, .int ((mapr co.length (usersF ch at')).length : Nat)), (22, .int (e : Nat)), (33, .pv (.ints (((co.getD e []).take (usersF ch at' e).toNat).drop 0))), (34, .int ((((co.getD e []).take (usersF ch at' e).toNat).drop 0).length : Nat)), (35, .int (k : Nat))], []⟩) (fun (k : Nat) => (usersF ch at' e).toNat - k) 0 ?_ (Ent.kept ⟨rfl, (by rw [show colTo co e 0 = 0 from rfl, Int.add_zero]; rfl), rfl, rfl, rfl, (by rw [← hgu (by omega)]; rfl), (by rw [← hgu (by omega)]; rfl), rfl, trivial⟩ trivial) ?_
      · simp
      rintro k hp
      try dsimp only at hp
      have hcb := fun h1 h2 => colTo_bd hok (e := e) (n := k) h1 h2
      have hlt : (((co.getD e []).take (usersF ch at' e).toNat).drop 0).length = (usersF ch at' e).toNat := by rw [List.drop_zero, List.length_take]; omega
      have hgt : k < (usersF ch at' e).toNat → (((co.getD e []).take (usersF ch at' e).toNat).drop 0).getD k 0 = (co.getD e []).getD k 0 := fun h => by rw [List.drop_zero, getD_take h]
      have hvc := fun h => (hok.hco e h).2 k
      refine awp_seq ?_
      refine awp_region rfl (.n (fun _ => op_lss (.plain rfl) (.plain rfl)) (.nil _)) ?_
      refine awp_seq ?_
      refine awp_cond rfl (fun h => ?_) (fun h => ?_)
      · try simp only [decide_eq_true_eq, decide_eq_false_iff_not, Bool.and_eq_true, Bool.or_eq_true, Bool.and_eq_false_iff, Bool.or_eq_false_iff, Bool.not_eq_true', Bool.not_eq_false', Bool.not_eq_true, Bool.not_eq_false, Bool.true_eq_false, Bool.false_eq_true] at h
        refine awp_skip ?_
        refine awp_seq ?_
        refine awp_block ?_
        refine awp_seq ?_
        refine awp_region rfl (.n (fun _ => op_indexAddrN Try.underlying25 Try.sizeOf3 (.plain rfl) (.plain rfl) (fun _ => rfl) ?_) (.n (fun _ => op_load Try.isAgg3 (.plain rfl)) (.n (fun _ => op_assign (.plain rfl)) (.nil _)))) ?_
        · omega
        refine awp_region rfl (.n (fun _ => op_move (.plain rfl)) (.n (fun _ => op_move (.plain rfl)) (.n (fun _ => op_add (.plain rfl) (.plain rfl) ?_) (.n (fun _ => op_assign (.plain rfl)) (.nil _))))) ?_
        · unfold InR; rw [hgt (by omega)]; omega
        refine awp_region rfl (.n (fun _ => op_add (.plain rfl) (.plain rfl) ?_) (.n (fun _ => op_move (.plain rfl)) (.nil _))) ?_
        · unfold InR; omega
        exact ⟨k + 1, by omega, by dsimp only; omega, (Ent.kept ⟨rfl, (by simp only [colTo, sumTo]; rw [← Int.add_assoc, ← hgt (by omega)]; rfl), rfl, rfl, rfl, rfl, rfl, rfl, trivial⟩ trivial)⟩
      · try simp only [decide_eq_true_eq, decide_eq_false_iff_not, Bool.and_eq_true, Bool.or_eq_true, Bool.and_eq_false_iff, Bool.or_eq_false_iff, Bool.not_eq_true', Bool.not_eq_false', Bool.not_eq_true, Bool.not_eq_false, Bool.true_eq_false, Bool.false_eq_true] at h
        refine awp_exit ?_
        refine awp_region rfl (.n (fun _ => op_add (.plain rfl) (.plain rfl) ?_) (.n (fun _ => op_move (.plain rfl)) (.nil _))) ?_
        · unfold InR; omega
        exact ⟨e + 1, by omega, by dsimp only; omega, (Ent.kept ⟨rfl, (by simp only [sumTo]; rw [show colF ch co at' e = colTo co e k by unfold colF; rw [show (usersF ch at' e).toNat = k by omega]]; rfl), rfl, rfl, rfl, trivial⟩ trivial)⟩
    · try simp only [decide_eq_true_eq, decide_eq_false_iff_not, Bool.and_eq_true, Bool.or_eq_true, Bool.and_eq_false_iff, Bool.or_eq_false_iff, Bool.not_eq_true', Bool.not_eq_false', Bool.not_eq_true, Bool.not_eq_false, Bool.true_eq_false, Bool.false_eq_true] at h
      refine awp_exit ?_
      refine awp_seq ?_
      refine awp_region rfl (.n (fun _ => op_move (.plain rfl)) (.n (fun _ => op_assign (.plain rfl)) (.n (fun _ => op_assign (.plain rfl)) (.nil _)))) ?_
      refine awp_ret ?_
      refine retQ.ret ?_
      refine ret2 rfl rfl rfl rfl rfl ?_
      obtain rfl : e = co.length := by omega
      rw [if_pos (by omega)]
      rw [show atE ch co at' = 0 by omega]
      rfl

theorem Cost_fc (ch co : List (List Int)) (at' : List Int) : FC Try.prog 7 [.agg [.rows ch, .rows co], .ints at'] (.tup [.ints (if atE ch co at' = 0 then mapr at'.length (costF ch co at') else []), .i (atE ch co at')]) := by
  refine FC.intro Try.func7 rfl (Nat.le_of_ble_eq_true rfl) fun hfit => ?_
  have fit0 := hfit _ (.head _)
  obtain ⟨fitl1, fitr1⟩ := (hfit _ (.tail _ (.head _))).ints
  refine awp_seq ?_
  refine awp_region rfl (.n (fun _ => op_box (.plain rfl) (by simp)) (.n (fun _ => op_assign (.plain rfl)) (.n (fun _ => op_assign (.plain rfl)) (.nil _)))) ?_
  refine awp_seq ?_
  refine awp_seq ?_
  refine awp_region rfl (.n (fun _ => op_load_agg Try.isAgg24 Try.sizeOf24 (.plain rfl) (Nat.le_of_ble_eq_true rfl)) (.n (fun _ => op_move (.plain rfl)) (.n (fun _ => op_call2 Try.call22 (.plain rfl) (.plain rfl) (taken_fc _ _ _)) (.n (fun _ => op_assign (.plain rfl)) (.nil _))))) ?_
  refine awp_seq ?_
  refine awp_region rfl (.n (fun _ => op_move (.plain rfl)) (.n (fun _ => op_neq (.plain rfl) (.plain rfl)) (.nil _))) ?_
  refine awp_cond rfl (fun h => ?_) (fun h => ?_)
  · try simp only [decide_eq_true_eq, decide_eq_false_iff_not, Bool.and_eq_true, Bool.or_eq_true, Bool.and_eq_false_iff, Bool.or_eq_false_iff, Bool.not_eq_true', Bool.not_eq_false', Bool.not_eq_true, Bool.not_eq_false, Bool.true_eq_false, Bool.false_eq_true] at h
    refine awp_seq ?_
    refine awp_region rfl (.n (fun _ => op_move (.plain rfl)) (.n (fun _ => op_assign (.plain rfl)) (.n (fun _ => op_assign (.plain rfl)) (.nil _)))) ?_
    refine awp_ent (Ent.nilseq 4 Int 0 (fun n => [.int .i64 n]) rfl) ?_
    refine awp_ret ?_
    refine retQ.ret ?_
    refine ret2 rfl rfl rfl rfl rfl ?_
    rw [if_neg h]
  · try simp only [decide_eq_true_eq, decide_eq_false_iff_not, Bool.and_eq_true, Bool.or_eq_true, Bool.and_eq_false_iff, Bool.or_eq_false_iff, Bool.not_eq_true', Bool.not_eq_false', Bool.not_eq_true, Bool.not_eq_false, Bool.true_eq_false, Bool.false_eq_true] at h
    have hok := AtOk.of h
    refine awp_skip ?_
    refine awp_seq ?_
    refine awp_region rfl (.n (fun _ => op_load_agg Try.isAgg24 Try.sizeOf24 (.plain rfl) (Nat.le_of_ble_eq_true rfl)) (.n (fun _ => op_move (.plain rfl)) (.n (fun _ => op_call2 Try.call23 (.plain rfl) (.plain rfl) (cost_fc _ _ _ ?_)) (.n (fun _ => op_assign (.plain rfl)) (.n (fun _ => op_assign (.plain rfl)) (.nil _)))))) ?_
    · assumption
    refine awp_ret ?_
    refine retQ.ret ?_
    refine ret2 rfl rfl rfl rfl rfl ?_
    rw [if_pos (by omega)]
    rw [show atE ch co at' = 0 by omega]

theorem sameLists_fc (a b : List (List Int)) : FC Try.prog 15 [.rows a, .rows b] (.bool (decide (a = b))) := by
  refine FC.intro Try.func15 rfl (Nat.le_of_ble_eq_true rfl) fun hfit => ?_
  obtain ⟨fitl0, fitr0⟩ := (hfit _ (.head _)).rows
  obtain ⟨fitl1, fitr1⟩ := (hfit _ (.tail _ (.head _))).rows
  refine awp_seq ?_
  refine awp_region rfl (.n (fun _ => op_assign (.plain rfl)) (.nil _)) ?_
  refine awp_seq ?_
  refine awp_seq ?_
  refine awp_region rfl (.n (fun _ => op_move (.plain rfl)) (.n (fun _ => op_len (s := 0) Try.underlying22 (.plain rfl)) (.n (fun _ => op_move (.plain rfl)) (.n (fun _ => op_len (s := 0) Try.underlying22 (.plain rfl)) (.n (fun _ => op_neq (.plain rfl) (.plain rfl)) (.nil _)))))) ?_
  refine awp_cond rfl (fun h => ?_) (fun h => ?_)
  · try simp only [decide_eq_true_eq, decide_eq_false_iff_not, Bool.and_eq_true, Bool.or_eq_true, Bool.and_eq_false_iff, Bool.or_eq_false_iff, Bool.not_eq_true', Bool.not_eq_false', Bool.not_eq_true, Bool.not_eq_false, Bool.true_eq_false, Bool.false_eq_true] at h
    refine awp_seq ?_
    refine awp_region rfl (.n (fun _ => op_assign (.plain rfl)) (.nil _)) ?_
    refine awp_ret ?_
    refine retQ.ret ?_
    refine ret1 rfl rfl rfl ?_
    rw [decide_eq_false (fun e => by subst e; simp at h)]
  · try simp only [decide_eq_true_eq, decide_eq_false_iff_not, Bool.and_eq_true, Bool.or_eq_true, Bool.and_eq_false_iff, Bool.or_eq_false_iff, Bool.not_eq_true', Bool.not_eq_false', Bool.not_eq_true, Bool.not_eq_false, Bool.true_eq_false, Bool.false_eq_true] at h
    refine awp_skip ?_
    refine awp_seq ?_
    refine awp_seq ?_
    refine awp_region rfl (.n (fun _ => op_assign (.plain rfl)) (.nil _)) ?_
    refine awp_block ?_
    refine awp_loop (σ := Nat) (fun (k : Nat) => k ≤ a.length ∧ ∀ j, j < k → a.getD j [] = b.getD j []) (fun (k : Nat) => ⟨[(5, .int (k : Nat)), (0, .pv (.rows a)), (1, .pv (.rows b))], []⟩) (fun (k : Nat) => a.length - k) 0 ?_ (Ent.kept ⟨rfl, rfl, rfl, trivial⟩ trivial) ?_
    · exact ⟨Nat.zero_le _, fun j hj => absurd hj (Nat.not_lt_zero _)⟩
    rintro k hp
    try dsimp only at hp
    obtain ⟨hk, hj⟩ := hp
    have hlen : a.length = b.length := by omega
    refine awp_seq ?_
    refine awp_seq ?_
    refine awp_region rfl (.n (fun _ => op_move (.plain rfl)) (.n (fun _ => op_move (.plain rfl)) (.n (fun _ => op_len (s := 0) Try.underlying22 (.plain rfl)) (.n (fun _ => op_lss (.plain rfl) (.plain rfl)) (.nil _))))) ?_
    refine awp_cond rfl (fun h => ?_) (fun h => ?_)
    · try simp only [decide_eq_true_eq, decide_eq_false_iff_not, Bool.and_eq_true, Bool.or_eq_true, Bool.and_eq_false_iff, Bool.or_eq_false_iff, Bool.not_eq_true', Bool.not_eq_false', Bool.not_eq_true, Bool.not_eq_false, Bool.true_eq_false, Bool.false_eq_true] at h
      refine awp_skip ?_
      refine awp_seq ?_
      refine awp_block ?_
      refine awp_seq ?_
      refine awp_region_draw mixed rfl (.n (fun _ => op_move (.plain rfl)) (.n (fun _ => op_move (.plain rfl)) (.n (fun _ => op_indexAddrN Try.underlying22 Try.sizeOf25 (.plain rfl) (.plain rfl) (fun _ => rfl) ?_) (.n (fun _ => op_load Try.isAgg25 (.plain rfl)) (.n (fun _ => op_move (.plain rfl)) (.n (fun _ => op_move (.plain rfl)) (.n (fun _ => op_indexAddrN Try.underlying22 Try.sizeOf25 (.plain rfl) (.plain rfl) (fun _ => rfl) ?_) (.n (fun _ => op_load Try.isAgg25 (.plain rfl)) (.n (fun _ => op_call2 Try.call13 (.plain rfl) (.plain rfl) (sameInts_fc _ _)) (.n (fun _ => op_not (.plain rfl)) (.nil _))))))))))) ?d8 ?_
      · omega
      · omega
      · kernel_rfl
      refine awp_cond rfl (fun h => ?_) (fun h => ?_)
      · try simp only [decide_eq_true_eq, decide_eq_false_iff_not, Bool.and_eq_true, Bool.or_eq_true, Bool.and_eq_false_iff, Bool.or_eq_false_iff, Bool.not_eq_true', Bool.not_eq_false', Bool.not_eq_true, Bool.not_eq_false, Bool.true_eq_false, Bool.false_eq_true] at h
        refine awp_seq ?_
        refine awp_region rfl (.n (fun _ => op_assign (.plain rfl)) (.nil _)) ?_
        refine awp_ret ?_
        refine retQ.ret ?_
        refine ret1 rfl rfl rfl ?_
        rw [decide_eq_false (fun e => by subst e; exact h rfl)]
      · try simp only [decide_eq_true_eq, decide_eq_false_iff_not, Bool.and_eq_true, Bool.or_eq_true, Bool.and_eq_false_iff, Bool.or_eq_false_iff, Bool.not_eq_true', Bool.not_eq_false', Bool.not_eq_true, Bool.not_eq_false, Bool.true_eq_false, Bool.false_eq_true] at h
        refine awp_skip ?_
        refine awp_region rfl (.n (fun _ => op_move (.plain rfl)) (.n (fun _ => op_add (.plain rfl) (.plain rfl) ?_) (.n (fun _ => op_assign (.plain rfl)) (.nil _)))) ?_
        · unfold InR; omega
        refine ⟨k + 1, ⟨by omega, fun j hjk => ?_⟩, by dsimp only; omega, Ent.kept ⟨rfl, rfl, rfl, trivial⟩ trivial⟩
        by_cases e : j = k
        · subst e; exact h
        · exact hj j (by omega)
    · try simp only [decide_eq_true_eq, decide_eq_false_iff_not, Bool.and_eq_true, Bool.or_eq_true, Bool.and_eq_false_iff, Bool.or_eq_false_iff, Bool.not_eq_true', Bool.not_eq_false', Bool.not_eq_true, Bool.not_eq_false, Bool.true_eq_false, Bool.false_eq_true] at h
      refine awp_exit ?_
      refine awp_seq ?_
      refine awp_region rfl (.n (fun _ => op_assign (.plain rfl)) (.nil _)) ?_
      refine awp_ret ?_
      refine retQ.ret ?_
      refine ret1 rfl rfl rfl ?_
      rw [decide_eq_true (List.ext_getElem hlen fun j h1 h2 => by have := hj j (by omega); simpa only [List.getD_eq_getElem?_getD, List.getElem?_eq_getElem h1, List.getElem?_eq_getElem h2, Option.getD_some] using this)]


theorem getD_set' (l : List Int) (i j : Nat) (a : Int) (h : i < l.length) : (l.set i a).getD j 0 = if i = j then a else l.getD j 0 := by
  simp only [List.getD_eq_getElem?_getD, List.getElem?_set]
  by_cases e : i = j
  · subst e; simp [h]
  · simp [e]
theorem set_self (l : List Int) (i : Nat) (h : i < l.length) : l.set i (l.getD i 0) = l := by
  refine List.ext_getElem (by simp) fun j h1 h2 => ?_
  rw [List.getElem_set]
  split
  · rename_i e; subst e; simp [List.getD_eq_getElem?_getD, h]
  · rfl
theorem AtOk.set {ch co : List (List Int)} {at' : List Int} (h : AtOk ch co at') {i : Nat} {k : Int} (hi : i < at'.length) (hk : 0 ≤ k ∧ k < (ch.getD i []).length) : AtOk ch co (at'.set i k) :=
  ⟨h.nch, h.nco, h.hco, h.hch, by simp [h.nat'], fun j hj => by
    rw [getD_set' _ _ _ _ hi]
    split
    · rename_i e; subst e; exact hk
    · exact h.hat j (by simpa using hj)⟩
theorem sumTo_one {f g : Nat → Int} {i : Nat} : ∀ {n : Nat}, (∀ j, j < n → j ≠ i → g j = f j) → i < n → sumTo g n = sumTo f n - f i + g i
  | n + 1, h, hi => by
    simp only [sumTo]
    by_cases e : i = n
    · subst e
      rw [sumTo_same fun j hj => h j (by omega) (by omega)]; omega
    · rw [sumTo_one (fun j hj => h j (by omega)) (show i < n by omega), h n (by omega) (fun e' => e e'.symm)]; omega
theorem usersF_set (ch : List (List Int)) (at' : List Int) (e : Nat) {i : Nat} (k : Int) (hi : i < at'.length) : usersF ch (at'.set i k) e = usersF ch at' e - bitF (chose ch at' i) e + bitF (chose ch (at'.set i k) i) e := by
  unfold usersF
  rw [List.length_set]
  refine sumTo_one (f := fun i => bitF (chose ch at' i) e) (g := fun j => bitF (chose ch (at'.set i k) j) e) (fun j hj hne => ?_) hi
  simp only [chose, getD_set' _ _ _ _ hi, if_neg (fun e => hne e.symm : ¬ i = j)]
theorem colTo_succ (co : List (List Int)) (e n : Nat) : colTo co e (n + 1) = colTo co e n + (co.getD e []).getD n 0 := rfl
/-- ROSENTHAL. -/
theorem rosenthal_road {ch co : List (List Int)} {at' : List Int} {i : Nat} (k : Int) (hi : i < at'.length) (e : Nat) : colF ch co (at'.set i k) e - colF ch co at' e = roadF ch co (at'.set i k) i e - roadF ch co at' i e := by
  have h1 := usersF_set ch at' e k hi
  have h2 := bitF_bd (chose ch at' i) e
  have h3 := bitF_bd (chose ch (at'.set i k) i) e
  have h4 := fun h => usersF_pos (ch := ch) (e := e) hi h
  have h5 := fun h => usersF_pos (ch := ch) (e := e) (at' := at'.set i k) (i := i) (by simpa using hi) h
  have h6 := (usersF_bd ch at' e).1
  have h7 := (usersF_bd ch (at'.set i k) e).1
  unfold roadF colF
  generalize usersF ch (at'.set i k) e = U at *
  generalize usersF ch at' e = u at *
  generalize bitF (chose ch (at'.set i k) i) e = B at *
  generalize bitF (chose ch at' i) e = b at *
  by_cases hb : b = 1 <;> by_cases hB : B = 1
  · obtain rfl : U = u := by omega
    simp [hb, hB]
  · have h8 := h4 hb
    obtain rfl : u = U + 1 := by omega
    rw [if_neg hB, if_pos hb, show (U + 1).toNat = U.toNat + 1 by omega, colTo_succ, show U + 1 - 1 = U by omega]
    omega
  · have h8 := h5 hB
    obtain rfl : U = u + 1 := by omega
    rw [if_pos hB, if_neg hb, show (u + 1).toNat = u.toNat + 1 by omega, colTo_succ, show u + 1 - 1 = u by omega]
    omega
  · obtain rfl : U = u := by omega
    simp [hb, hB]
theorem sumTo_sub {f g f' g' : Nat → Int} : ∀ {n : Nat}, (∀ j, j < n → f j - g j = f' j - g' j) → sumTo f n - sumTo g n = sumTo f' n - sumTo g' n
  | 0, _ => rfl
  | n + 1, h => by
    have h1 := sumTo_sub (fun j hj => h j (by omega) : ∀ j, j < n → _)
    have h2 := h n (by omega)
    simp only [sumTo]; omega
theorem rosenthal {ch co : List (List Int)} {at' : List Int} {i : Nat} (k : Int) (hi : i < at'.length) : heightF ch co (at'.set i k) - heightF ch co at' = costF ch co (at'.set i k) i - costF ch co at' i :=
  sumTo_sub fun e _ => rosenthal_road k hi e

def bestTo (ch co : List (List Int)) (at' : List Int) (i : Nat) : Nat → Int × Int
  | 0 => (at'.getD i 0, costF ch co at' i)
  | k + 1 => if costF ch co (at'.set i (k : Nat)) i < (bestTo ch co at' i k).2 then (((k : Nat) : Int), costF ch co (at'.set i (k : Nat)) i) else bestTo ch co at' i k
theorem bestTo_spec (ch co : List (List Int)) (at' : List Int) (i : Nat) (hi : i < at'.length) : ∀ k, (bestTo ch co at' i k).2 ≤ costF ch co at' i ∧ ((bestTo ch co at' i k).1 = at'.getD i 0 ∧ (bestTo ch co at' i k).2 = costF ch co at' i ∨
    ((bestTo ch co at' i k).1 ≠ at'.getD i 0 ∧ (0 ≤ (bestTo ch co at' i k).1 ∧ (bestTo ch co at' i k).1 < k) ∧ (bestTo ch co at' i k).2 = costF ch co (at'.set i (bestTo ch co at' i k).1) i ∧ (bestTo ch co at' i k).2 < costF ch co at' i)) ∧
    ∀ j : Nat, j < k → (bestTo ch co at' i k).2 ≤ costF ch co (at'.set i (j : Nat)) i
  | 0 => ⟨Int.le_refl _, .inl ⟨rfl, rfl⟩, fun j hj => by omega⟩
  | k + 1 => by
    obtain ⟨h1, h2, h3⟩ := bestTo_spec ch co at' i hi k
    simp only [bestTo]
    split
    · rename_i h
      refine ⟨by dsimp only; omega, .inr ⟨fun e => ?_, by dsimp only; omega, rfl, by dsimp only; omega⟩, fun j hj => ?_⟩
      · dsimp only at e
        rw [e, set_self _ _ hi] at h
        omega
      · dsimp only
        by_cases e : j = k
        · subst e; exact Int.le_refl _
        · have := h3 j (by omega); omega
    · rename_i h
      refine ⟨h1, h2.imp id fun h2 => ⟨h2.1, by omega, h2.2.2⟩, fun j hj => ?_⟩
      by_cases e : j = k
      · subst e; omega
      · exact h3 j (by omega)
def moveF (ch co : List (List Int)) (at' : List Int) (i : Nat) : Int := (bestTo ch co at' i (ch.getD i []).length).1
def movesF (ch co : List (List Int)) (at' : List Int) (i : Nat) : Bool := !decide (moveF ch co at' i = at'.getD i 0)
def stepF (ch co : List (List Int)) (at' : List Int) : Option (List Int) := (firstI (movesF ch co at') at'.length).map fun i => at'.set i (moveF ch co at' i)
def optV (o : Option (List Int)) : PV := match o with | none => .nil | some l => .ints l
theorem stepF_some {ch co : List (List Int)} {at' : List Int} {i : Nat} (h : firstI (movesF ch co at') i = none) (hm : ¬ moveF ch co at' i = at'.getD i 0) (hi : i < at'.length) : stepF ch co at' = some (at'.set i (moveF ch co at' i)) := by
  unfold stepF
  rw [firstI_stop h (by unfold movesF; rw [decide_eq_false hm]; rfl) hi]; rfl
theorem stepF_spec {ch co : List (List Int)} {at' l : List Int} (hok : AtOk ch co at') (h : stepF ch co at' = some l) : AtOk ch co l ∧ heightF ch co l < heightF ch co at' ∧ l ≠ [] := by
  unfold stepF at h
  obtain ⟨i, h1, rfl⟩ := Option.map_eq_some_iff.1 h
  obtain ⟨h2, h3, _⟩ := firstI_spec h1
  have h4 : moveF ch co at' i ≠ at'.getD i 0 := by simpa [movesF] using h3
  have h5 := (bestTo_spec ch co at' i h2 (ch.getD i []).length).2.1
  rcases h5 with h5 | h5
  · exact absurd h5.1 h4
  · refine ⟨hok.set h2 h5.2.1, ?_, fun e => ?_⟩
    · have := rosenthal (ch := ch) (co := co) (moveF ch co at' i) h2
      have h6 : (bestTo ch co at' i (ch.getD i []).length).2 = costF ch co (at'.set i (moveF ch co at' i)) i := h5.2.2.1
      omega
    · have := congrArg List.length e
      simp at this
      subst this
      simp at h2
def pathF (ch co : List (List Int)) (at' : List Int) : Nat → List Int
  | 0 => at'
  | m + 1 => (stepF ch co (pathF ch co at' m)).getD (pathF ch co at' m)
def endsF (ch co : List (List Int)) (at' : List Int) (m : Nat) : Bool := (stepF ch co (pathF ch co at' m)).isNone
def stopF (ch co : List (List Int)) (at' : List Int) : Nat := (firstI (endsF ch co at') 60002).getD 0
def settleF (ch co : List (List Int)) (at' : List Int) : List (List Int) := mapr (stopF ch co at' + 1) (pathF ch co at')
theorem path_spec {ch co : List (List Int)} {at' : List Int} (hok : AtOk ch co at') : ∀ {m : Nat}, firstI (endsF ch co at') m = none → AtOk ch co (pathF ch co at' m) ∧ heightF ch co (pathF ch co at' m) + m ≤ heightF ch co at'
  | 0, _ => ⟨hok, by simp [pathF]⟩
  | m + 1, h => by
    have h0 : firstI (endsF ch co at') m = none := by
      simp only [firstI] at h
      split at h
      · cases h
      · assumption
    obtain ⟨h1, h2⟩ := path_spec hok h0
    have h3 := firstI_none h m (by omega)
    unfold endsF at h3
    cases hs : stepF ch co (pathF ch co at' m) with
    | none => rw [hs] at h3; cases h3
    | some l =>
      obtain ⟨h4, h5, _⟩ := stepF_spec h1 hs
      have : pathF ch co at' (m + 1) = l := by simp [pathF, hs]
      rw [this]
      exact ⟨h4, by omega⟩
theorem path_len {ch co : List (List Int)} {at' : List Int} (hok : AtOk ch co at') {m : Nat} (h : firstI (endsF ch co at') m = none) : m ≤ 60000 := by
  obtain ⟨h1, h2⟩ := path_spec hok h
  have h3 := (heightF_bd h1 (Nat.le_refl _)).1
  have h4 := (heightF_bd hok (Nat.le_refl _)).2
  rw [← heightF_eq] at h3 h4
  omega

end Go.Proofs.Ytikcaphhejllpaa

