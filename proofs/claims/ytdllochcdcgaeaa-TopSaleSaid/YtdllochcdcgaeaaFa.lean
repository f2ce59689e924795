/- The functions that AuctionSays and TopBids reach, on plain values. Conditions: each theorem names its own. -/
import Derived.Test.YtdllochcdcgaeaaProg
import Derived.Test.YtdllochcdcgaeaaAbsF
import Derived.Test.YtdllochcdcgaeaaLenF
namespace Go.Proofs.Ytdllochcdcgaeaa
open Go.Abs
set_option linter.unusedVariables false
set_option linter.unusedSimpArgs false

theorem mixed : Try.prog.follows .mixedOrders = true := by kernel_rfl
theorem ety23 : ElemTy Try.prog 23 27 1 24 (.slice none 0 0) := ⟨Try.underlying23, ⟨Try.t27, by kernel_rfl, by kernel_rfl, by kernel_rfl, by kernel_rfl⟩, by kernel_rfl, by decide, by decide⟩
theorem ety27 : ElemTy Try.prog 27 3 1 8 (.int .i64 0) := ⟨Try.underlying27, ⟨Try.t3, by kernel_rfl, by kernel_rfl, by kernel_rfl, by kernel_rfl⟩, by kernel_rfl, by decide, by decide⟩


def pickF (c n : Int) : Int := (if c < 0 then -(c + 1) else c) % n
theorem pickF_range (c n : Int) (h : 1 ≤ n) : 0 ≤ pickF c n ∧ pickF c n < n := by
  unfold pickF
  exact ⟨Int.emod_nonneg _ (by omega), Int.emod_lt_of_pos _ (by omega)⟩
def atF (raw : List Int) (k : Nat) : Int := if raw.length = 0 then 0 else raw.getD (k % raw.length) 0
def upF (n : Nat) : List Int := (List.range n).map fun (i : Nat) => (i : Int)
theorem upF_succ (n : Nat) : upF (n + 1) = upF n ++ [(n : Int)] := by simp [upF, List.range_succ]
@[simp] theorem upF_length (n : Nat) : (upF n).length = n := by simp [upF]

theorem Pick_fc (c n : Int) (hn : 1 ≤ n) : FC Try.prog 16 [.i c, .i n] (.i (pickF c n)) := by
  refine FC.intro Try.func16 rfl (Nat.le_of_ble_eq_true rfl) fun hfit => ?_
  have fit0 : -9223372036854775808 ≤ (c : Int) ∧ (c : Int) ≤ 9223372036854775807 := (hfit _ (.head _)).int64
  have fit1 : -9223372036854775808 ≤ (n : Int) ∧ (n : Int) ≤ 9223372036854775807 := (hfit _ (.tail _ (.head _))).int64
  refine awp_seq ?_
  refine awp_region rfl (.n (fun _ => op_assign (.plain rfl)) (.nil _)) ?_
  refine awp_seq ?_
  refine awp_seq ?_
  refine awp_region rfl (.n (fun _ => op_move (.plain rfl)) (.n (fun _ => op_lss (.plain rfl) (.plain rfl)) (.nil _))) ?_
  refine awp_cond rfl (fun h => ?_) (fun h => ?_)
  · try simp only [decide_eq_true_eq, decide_eq_false_iff_not, Bool.and_eq_true, Bool.or_eq_true, Bool.and_eq_false_iff, Bool.or_eq_false_iff, Bool.not_eq_true', Bool.not_eq_false', Bool.not_eq_true, Bool.not_eq_false, Bool.true_eq_false, Bool.false_eq_true] at h
    refine awp_region rfl (.n (fun _ => op_move (.plain rfl)) (.n (fun _ => op_add (.plain rfl) (.plain rfl) ?_) (.n (fun _ => op_neg (.plain rfl) ?_) (.n (fun _ => op_assign (.plain rfl)) (.nil _))))) ?_
    · unfold InR; omega
    · unfold InR; omega
    refine awp_seq ?_
    refine awp_region rfl (.n (fun _ => op_move (.plain rfl)) (.n (fun _ => op_move (.plain rfl)) (.n (fun _ => op_rem (.plain rfl) (.plain rfl) ?_) (.n (fun _ => op_assign (.plain rfl)) (.nil _))))) ?_
    · omega
    refine awp_ret ?_
    refine retQ.ret ?_
    refine ret1 rfl rfl rfl ?_
    unfold pickF; rw [if_pos h]
  · try simp only [decide_eq_true_eq, decide_eq_false_iff_not, Bool.and_eq_true, Bool.or_eq_true, Bool.and_eq_false_iff, Bool.or_eq_false_iff, Bool.not_eq_true', Bool.not_eq_false', Bool.not_eq_true, Bool.not_eq_false, Bool.true_eq_false, Bool.false_eq_true] at h
    refine awp_skip ?_
    refine awp_seq ?_
    refine awp_region rfl (.n (fun _ => op_move (.plain rfl)) (.n (fun _ => op_move (.plain rfl)) (.n (fun _ => op_rem (.plain rfl) (.plain rfl) ?_) (.n (fun _ => op_assign (.plain rfl)) (.nil _))))) ?_
    · omega
    refine awp_ret ?_
    refine retQ.ret ?_
    refine ret1 rfl rfl rfl ?_
    unfold pickF; rw [if_neg h]

theorem At_fc (raw : List Int) (k : Nat) : FC Try.prog 30 [.ints raw, .i (k : Nat)] (.i (atF raw k)) := by
  refine FC.intro Try.func30 rfl (Nat.le_of_ble_eq_true rfl) fun hfit => ?_
  obtain ⟨fitl0, fitr0⟩ := (hfit _ (.head _)).ints
  have fit1 : -9223372036854775808 ≤ ((k : Nat) : Int) ∧ ((k : Nat) : Int) ≤ 9223372036854775807 := (hfit _ (.tail _ (.head _))).int64
  refine awp_seq ?_
  refine awp_region rfl (.n (fun _ => op_assign (.plain rfl)) (.nil _)) ?_
  refine awp_seq ?_
  refine awp_seq ?_
  refine awp_region rfl (.n (fun _ => op_move (.plain rfl)) (.n (fun _ => op_len (s := 0) Try.underlying27 (.plain rfl)) (.n (fun _ => op_eql (.plain rfl) (.plain rfl)) (.nil _)))) ?_
  refine awp_cond rfl (fun h => ?_) (fun h => ?_)
  · try simp only [decide_eq_true_eq, decide_eq_false_iff_not, Bool.and_eq_true, Bool.or_eq_true, Bool.and_eq_false_iff, Bool.or_eq_false_iff, Bool.not_eq_true', Bool.not_eq_false', Bool.not_eq_true, Bool.not_eq_false, Bool.true_eq_false, Bool.false_eq_true] at h
    refine awp_seq ?_
    refine awp_region rfl (.n (fun _ => op_assign (.plain rfl)) (.nil _)) ?_
    refine awp_ret ?_
    refine retQ.ret ?_
    refine ret1 rfl rfl rfl ?_
    unfold atF; rw [if_pos (by omega)]
  · try simp only [decide_eq_true_eq, decide_eq_false_iff_not, Bool.and_eq_true, Bool.or_eq_true, Bool.and_eq_false_iff, Bool.or_eq_false_iff, Bool.not_eq_true', Bool.not_eq_false', Bool.not_eq_true, Bool.not_eq_false, Bool.true_eq_false, Bool.false_eq_true] at h
    refine awp_skip ?_
    refine awp_seq ?_
    refine awp_region rfl (.n (fun _ => op_move (.plain rfl)) (.n (fun _ => op_move (.plain rfl)) (.n (fun _ => op_move (.plain rfl)) (.n (fun _ => op_len (s := 0) Try.underlying27 (.plain rfl)) (.n (fun _ => op_rem (.plain rfl) (.plain rfl) ?_) (.n (fun _ => op_indexAddr Try.underlying27 Try.sizeOf3 (.plain rfl) (.plain rfl) (fun _ => rfl) ?_) (.n (fun _ => op_load Try.isAgg3 (.plain rfl)) (.n (fun _ => op_assign (.plain rfl)) (.nil _))))))))) ?_
    · omega
    · exact ⟨Int.emod_nonneg _ (by omega), Int.emod_lt_of_pos _ (by omega)⟩
    refine awp_ret ?_
    refine retQ.ret ?_
    refine ret1 rfl rfl rfl ?_
    unfold atF; rw [if_neg (by omega), ← Int.natCast_emod, Int.toNat_natCast]

theorem upTo_fc (n : Nat) (hn : n ≤ 1000000) : FC Try.prog 36 [.i (n : Nat)] (.ints (upF n)) := by
  refine FC.intro Try.func36 rfl (Nat.le_of_ble_eq_true rfl) fun hfit => ?_
  have fit0 : -9223372036854775808 ≤ ((n : Nat) : Int) ∧ ((n : Nat) : Int) ≤ 9223372036854775807 := (hfit _ (.head _)).int64
  refine awp_seq ?_
  refine awp_region rfl (.n (fun _ => op_assign (.plain rfl)) (.nil _)) ?_
  refine awp_seq ?_
  refine awp_region rfl (.n (fun _ => op_assign (.plain rfl)) (.nil _)) ?_
  refine awp_seq ?_
  refine awp_seq ?_
  refine awp_region rfl (.n (fun _ => op_assign (.plain rfl)) (.nil _)) ?_
  refine awp_block ?_
  refine awp_ent (Ent.begin 3 1003 3 1 Int 0 (fun n => [.int .i64 n]) rfl rfl rfl) ?_
  refine awp_loop (σ := Nat) (fun (k : Nat) => k ≤ n) (fun (k : Nat) => ⟨[(3, .own 1003), (4, .int (k : Nat)), (0, .pv (.i (n : Nat)))], [(1003, .arr 3 1 Int 0 (fun n => [.int .i64 n]) (upF k))]⟩) (fun (k : Nat) => n - k) 0 ?_ (Ent.kept ⟨rfl, rfl, rfl, trivial⟩ ⟨rfl, trivial⟩) ?_
  · simp
  rintro k hp
  try dsimp only at hp
  refine awp_seq ?_
  refine awp_seq ?_
  refine awp_region rfl (.n (fun _ => op_move (.plain rfl)) (.n (fun _ => op_move (.plain rfl)) (.n (fun _ => op_lss (.plain rfl) (.plain rfl)) (.nil _)))) ?_
  refine awp_cond rfl (fun h => ?_) (fun h => ?_)
  · try simp only [decide_eq_true_eq, decide_eq_false_iff_not, Bool.and_eq_true, Bool.or_eq_true, Bool.and_eq_false_iff, Bool.or_eq_false_iff, Bool.not_eq_true', Bool.not_eq_false', Bool.not_eq_true, Bool.not_eq_false, Bool.true_eq_false, Bool.false_eq_true] at h
    refine awp_skip ?_
    refine awp_seq ?_
    refine awp_block ?_
    refine awp_region rfl (.n (fun _ => op_move (.plain rfl)) (.n (fun _ => op_move (.plain rfl)) (.n (fun _ => op_slit (pp := [(0, _)]) (α := Int) (d := 0) (f := (fun n => [.int .i64 n])) [_] ety27 rfl ⟨rfl, (.plain rfl), (by simp), trivial⟩ rfl (by decide) rfl) (.e (op_append (id' := 13) (α := Int) (d := 0) (f := (fun n => [.int .i64 n])) ety27 Try.underlying27 (fun _ => rfl) (fun _ => rfl) (.plain rfl) rfl (.plain rfl) rfl ?_) rfl (.n (fun _ => op_assign (.plain rfl)) (.nil _)))))) ?_
    · first | omega | (simp; omega)
    refine awp_region rfl (.n (fun _ => op_move (.plain rfl)) (.n (fun _ => op_add (.plain rfl) (.plain rfl) ?_) (.n (fun _ => op_assign (.plain rfl)) (.nil _)))) ?_
    · unfold InR; omega
    exact ⟨k + 1, by omega, by dsimp only; omega, (Ent.round 13 1003 ⟨rfl, rfl, rfl, trivial⟩ ⟨(by rw [upF_succ]; rfl), trivial⟩ rfl rfl rfl ⟨rfl, rfl, rfl, trivial⟩ ⟨rfl, trivial⟩)⟩
  · try simp only [decide_eq_true_eq, decide_eq_false_iff_not, Bool.and_eq_true, Bool.or_eq_true, Bool.and_eq_false_iff, Bool.or_eq_false_iff, Bool.not_eq_true', Bool.not_eq_false', Bool.not_eq_true, Bool.not_eq_false, Bool.true_eq_false, Bool.false_eq_true] at h
    refine awp_exit ?_
    refine awp_seq ?_
    refine awp_region rfl (.n (fun _ => op_move (.plain rfl)) (.n (fun _ => op_assign (.plain rfl)) (.nil _))) ?_
    refine awp_ret ?_
    refine retQ.ret ?_
    refine ret1 rfl rfl rfl ?_
    obtain rfl : k = n := by omega
    rfl

theorem sameInts_fc (a b : List Int) : FC Try.prog 14 [.ints a, .ints b] (.bool (decide (a = b))) := by
  refine FC.intro Try.func14 rfl (Nat.le_of_ble_eq_true rfl) fun hfit => ?_
  obtain ⟨fitl0, fitr0⟩ := (hfit _ (.head _)).ints
  obtain ⟨fitl1, fitr1⟩ := (hfit _ (.tail _ (.head _))).ints
  refine awp_seq ?_
  refine awp_region rfl (.n (fun _ => op_assign (.plain rfl)) (.nil _)) ?_
  refine awp_seq ?_
  refine awp_seq ?_
  refine awp_region rfl (.n (fun _ => op_move (.plain rfl)) (.n (fun _ => op_len (s := 0) Try.underlying27 (.plain rfl)) (.n (fun _ => op_move (.plain rfl)) (.n (fun _ => op_len (s := 0) Try.underlying27 (.plain rfl)) (.n (fun _ => op_neq (.plain rfl) (.plain rfl)) (.nil _)))))) ?_
  refine awp_cond rfl (fun h => ?_) (fun h => ?_)
  · try simp only [decide_eq_true_eq, decide_eq_false_iff_not, Bool.and_eq_true, Bool.or_eq_true, Bool.and_eq_false_iff, Bool.or_eq_false_iff, Bool.not_eq_true', Bool.not_eq_false', Bool.not_eq_true, Bool.not_eq_false, Bool.true_eq_false, Bool.false_eq_true] at h
    refine awp_seq ?_
    refine awp_region rfl (.n (fun _ => op_assign (.plain rfl)) (.nil _)) ?_
    refine awp_ret ?_
    refine retQ.ret ?_
    refine ret1 rfl rfl rfl ?_
    rw [decide_eq_false (fun e => by subst e; simp at h)]
  · try simp only [decide_eq_true_eq, decide_eq_false_iff_not, Bool.and_eq_true, Bool.or_eq_true, Bool.and_eq_false_iff, Bool.or_eq_false_iff, Bool.not_eq_true', Bool.not_eq_false', Bool.not_eq_true, Bool.not_eq_false, Bool.true_eq_false, Bool.false_eq_true] at h
    refine awp_skip ?_
    refine awp_seq ?_
    refine awp_seq ?_
    refine awp_region rfl (.n (fun _ => op_assign (.plain rfl)) (.nil _)) ?_
    refine awp_block ?_
    refine awp_loop (σ := Nat) (fun (k : Nat) => k ≤ a.length ∧ ∀ j, j < k → a.getD j 0 = b.getD j 0) (fun (k : Nat) => ⟨[(5, .int (k : Nat)), (0, .pv (.ints a)), (1, .pv (.ints b))], []⟩) (fun (k : Nat) => a.length - k) 0 ?_ (Ent.kept ⟨rfl, rfl, rfl, trivial⟩ trivial) ?_
    · simp
    rintro k hp
    try dsimp only at hp
    obtain ⟨hk, hj⟩ := hp
    have hlen : a.length = b.length := by omega
    refine awp_seq ?_
    refine awp_seq ?_
    refine awp_region rfl (.n (fun _ => op_move (.plain rfl)) (.n (fun _ => op_move (.plain rfl)) (.n (fun _ => op_len (s := 0) Try.underlying27 (.plain rfl)) (.n (fun _ => op_lss (.plain rfl) (.plain rfl)) (.nil _))))) ?_
    refine awp_cond rfl (fun h => ?_) (fun h => ?_)
    · try simp only [decide_eq_true_eq, decide_eq_false_iff_not, Bool.and_eq_true, Bool.or_eq_true, Bool.and_eq_false_iff, Bool.or_eq_false_iff, Bool.not_eq_true', Bool.not_eq_false', Bool.not_eq_true, Bool.not_eq_false, Bool.true_eq_false, Bool.false_eq_true] at h
      refine awp_skip ?_
      refine awp_seq ?_
      refine awp_block ?_
      refine awp_seq ?_
      refine awp_region_draw mixed rfl (.n (fun _ => op_move (.plain rfl)) (.n (fun _ => op_move (.plain rfl)) (.n (fun _ => op_indexAddrN Try.underlying27 Try.sizeOf3 (.plain rfl) (.plain rfl) (fun _ => rfl) ?_) (.n (fun _ => op_load Try.isAgg3 (.plain rfl)) (.n (fun _ => op_move (.plain rfl)) (.n (fun _ => op_move (.plain rfl)) (.n (fun _ => op_indexAddrN Try.underlying27 Try.sizeOf3 (.plain rfl) (.plain rfl) (fun _ => rfl) ?_) (.n (fun _ => op_load Try.isAgg3 (.plain rfl)) (.n (fun _ => op_neq (.plain rfl) (.plain rfl)) (.nil _)))))))))) ?d1 ?_
      · omega
      · omega
      · kernel_rfl
      refine awp_cond rfl (fun h => ?_) (fun h => ?_)
      · try simp only [decide_eq_true_eq, decide_eq_false_iff_not, Bool.and_eq_true, Bool.or_eq_true, Bool.and_eq_false_iff, Bool.or_eq_false_iff, Bool.not_eq_true', Bool.not_eq_false', Bool.not_eq_true, Bool.not_eq_false, Bool.true_eq_false, Bool.false_eq_true] at h
        refine awp_seq ?_
        refine awp_region rfl (.n (fun _ => op_assign (.plain rfl)) (.nil _)) ?_
        refine awp_ret ?_
        refine retQ.ret ?_
        refine ret1 rfl rfl rfl ?_
        rw [decide_eq_false (fun e => by subst e; simp at h)]
      · try simp only [decide_eq_true_eq, decide_eq_false_iff_not, Bool.and_eq_true, Bool.or_eq_true, Bool.and_eq_false_iff, Bool.or_eq_false_iff, Bool.not_eq_true', Bool.not_eq_false', Bool.not_eq_true, Bool.not_eq_false, Bool.true_eq_false, Bool.false_eq_true] at h
        refine awp_skip ?_
        refine awp_region rfl (.n (fun _ => op_move (.plain rfl)) (.n (fun _ => op_add (.plain rfl) (.plain rfl) ?_) (.n (fun _ => op_assign (.plain rfl)) (.nil _)))) ?_
        · unfold InR; omega
        refine ⟨k + 1, ⟨by omega, fun j hjk => ?_⟩, by dsimp only; omega, Ent.kept ⟨rfl, rfl, rfl, trivial⟩ trivial⟩
        by_cases e : j = k
        · subst e; simpa using h
        · exact hj j (by omega)
    · try simp only [decide_eq_true_eq, decide_eq_false_iff_not, Bool.and_eq_true, Bool.or_eq_true, Bool.and_eq_false_iff, Bool.or_eq_false_iff, Bool.not_eq_true', Bool.not_eq_false', Bool.not_eq_true, Bool.not_eq_false, Bool.true_eq_false, Bool.false_eq_true] at h
      refine awp_exit ?_
      refine awp_seq ?_
      refine awp_region rfl (.n (fun _ => op_assign (.plain rfl)) (.nil _)) ?_
      refine awp_ret ?_
      refine retQ.ret ?_
      refine ret1 rfl rfl rfl ?_
      rw [decide_eq_true (List.ext_getElem hlen fun j h1 h2 => by have := hj j (by omega); simpa [List.getD_eq_getElem?_getD, h1, h2] using this)]


/-- How long all rows are together, with the rows themselves. -/
def heavyTo (l : List (List Int)) (k : Nat) : Nat := l.length + ((l.take k).map List.length).sum
def heavyF (l : List (List Int)) : Bool := decide (1024 < heavyTo l l.length)
theorem heavyTo_succ {l : List (List Int)} {k : Nat} (h : k < l.length) : heavyTo l (k + 1) = heavyTo l k + (l.getD k []).length := by
  unfold heavyTo
  rw [List.take_succ_eq_append_getElem h, List.map_append, List.sum_append]
  simp [h, Nat.add_assoc]
theorem heavyTo_le {l : List (List Int)} (k : Nat) : heavyTo l k ≤ heavyTo l l.length := by
  unfold heavyTo
  have := List.take_append_drop k l
  have h2 : ((l.take l.length).map List.length).sum = ((l.take k).map List.length).sum + ((l.drop k).map List.length).sum := by
    rw [List.take_length, ← List.sum_append, ← List.map_append, this]
  omega
theorem getD_mem {α : Type} {l : List α} {k : Nat} (d : α) (h : k < l.length) : l.getD k d ∈ l := by
  rw [List.getD_eq_getElem?_getD, List.getElem?_eq_getElem h]; exact List.getElem_mem h

theorem clone_fc (l : List Int) (hl : l.length ≤ 1000000) : FCO Try.prog 39 [.ints l] 3 1 Int 0 (fun n => [.int .i64 n]) (l) := by
  refine FCO.intro Try.func39 rfl (Nat.le_of_ble_eq_true rfl) fun hfit => ?_
  obtain ⟨fitl0, fitr0⟩ := (hfit _ (.head _)).ints
  refine awp_seq ?_
  refine awp_region rfl (.n (fun _ => op_assign (.plain rfl)) (.nil _)) ?_
  refine awp_seq ?_
  refine awp_seq ?_
  refine awp_nilsplit 0 rfl (fun hnil => ?_) ?_
  · have _hs := trivial
    refine awp_region rfl (.n (fun _ => op_move (.plain rfl)) (.n (fun _ => op_nil_nil Try.underlying27 (.plain rfl)) (.nil _))) ?_
    refine awp_cond rfl (fun h => ?_) (fun h => ?_)
    · clear h
      refine awp_seq ?_
      refine awp_region rfl (.n (fun _ => op_assign (.plain rfl)) (.nil _)) ?_
      refine awp_ent (Ent.begin 2 5002 3 1 Int 0 (fun n => [.int .i64 n]) rfl rfl rfl) ?_
      refine awp_ret ?_
      refine retO.ret ?_
      refine retO1 rfl rfl rfl ?_
      exact hnil.symm
    · cases h
  · have _hs := trivial
    refine awp_region rfl (.n (fun _ => op_move (.plain rfl)) (.n (fun _ => op_nn_nil Try.underlying27 (.plain rfl)) (.nil _))) ?_
    refine awp_ent (Ent.denn 0 rfl) ?_
    refine awp_cond rfl (fun h => ?_) (fun h => ?_)
    · cases h
    · clear h
      refine awp_skip ?_
      refine awp_seq ?_
      refine awp_region rfl (.e (op_slitO (pp := []) (α := Int) (d := 0) (f := (fun n => [.int .i64 n])) 5 [] ety27 rfl trivial rfl (by decide) rfl (fun _ => rfl) rfl) rfl (.n (fun _ => op_move (.plain rfl)) (.e (op_append (id' := 7) (α := Int) (d := 0) (f := (fun n => [.int .i64 n])) ety27 Try.underlying27 (fun _ => rfl) (fun _ => rfl) (.plain rfl) rfl (.plain rfl) rfl ?_) rfl (.n (fun _ => op_assign (.plain rfl)) (.nil _))))) ?_
      · first | omega | (simp; omega)
      refine awp_ret ?_
      refine retO.ret ?_
      refine retO1 rfl rfl rfl ?_
      simp


/-- The first of n that is not 0. -/
def firstE (f : Nat → Int) : Nat → Int
  | 0 => 0
  | n + 1 => if firstE f n = 0 then f n else firstE f n
theorem firstE_succ {f : Nat → Int} {n : Nat} (h : firstE f n = 0) (h' : f n = 0) : firstE f (n + 1) = 0 := by simp [firstE, h, h']
theorem firstE_stop {f : Nat → Int} {k n : Nat} {c : Int} (h : firstE f k = 0) (hc : f k = c) (h0 : c ≠ 0) (hk : k < n) : firstE f n = c := by
  have h1 : firstE f (k + 1) = c := by simp [firstE, h, hc]
  have : ∀ d, firstE f (k + 1 + d) = c := by
    intro d
    induction d with
    | zero => exact h1
    | succ d ih => rw [← Nat.add_assoc, firstE, ih, if_neg h0]
  have := this (n - (k + 1))
  rwa [show k + 1 + (n - (k + 1)) = n by omega] at this
theorem firstE_zero {f : Nat → Int} : ∀ {n : Nat}, firstE f n = 0 → ∀ j, j < n → f j = 0
  | 0, _, j, hj => by omega
  | n + 1, h, j, hj => by
    simp only [firstE] at h
    split at h
    · rename_i h0
      by_cases e : j = n
      · subst e; exact h
      · exact firstE_zero h0 j (by omega)
    · rename_i h0; exact absurd h h0
theorem firstE_same {f g : Nat → Int} : ∀ {n : Nat}, (∀ j, j < n → f j = g j) → firstE f n = firstE g n
  | 0, _ => rfl
  | n + 1, h => by simp only [firstE, firstE_same (fun j hj => h j (by omega) : ∀ j, j < n → _), h n (by omega)]

def sumTo (f : Nat → Int) : Nat → Int
  | 0 => 0
  | n + 1 => sumTo f n + f n
theorem sumTo_bd {f : Nat → Int} {A B : Int} : ∀ {n : Nat}, (∀ j, j < n → A ≤ f j ∧ f j ≤ B) → n * A ≤ sumTo f n ∧ sumTo f n ≤ n * B
  | 0, _ => by simp [sumTo]
  | n + 1, h => by
    have h1 := sumTo_bd (fun j hj => h j (by omega) : ∀ j, j < n → _)
    have h2 := h n (by omega)
    simp only [sumTo, Int.natCast_succ, Int.add_mul]
    omega
theorem sumTo_same {f g : Nat → Int} : ∀ {n : Nat}, (∀ j, j < n → f j = g j) → sumTo f n = sumTo g n
  | 0, _ => rfl
  | n + 1, h => by simp only [sumTo, sumTo_same (fun j hj => h j (by omega) : ∀ j, j < n → _), h n (by omega)]

/-- n values by their places. -/
def mapr {α : Type} (n : Nat) (f : Nat → α) : List α := (List.range n).map f
@[simp] theorem mapr_length {α : Type} (n : Nat) (f : Nat → α) : (mapr n f).length = n := by simp [mapr]
theorem mapr_succ {α : Type} (n : Nat) (f : Nat → α) : mapr (n + 1) f = mapr n f ++ [f n] := by simp [mapr, List.range_succ]
theorem mapr_getD {α : Type} {n : Nat} {f : Nat → α} {i : Nat} (d : α) (h : i < n) : (mapr n f).getD i d = f i := by
  simp [mapr, List.getD_eq_getElem?_getD, h]
theorem mapr_same {α : Type} {n : Nat} {f g : Nat → α} (h : ∀ j, j < n → f j = g j) : mapr n f = mapr n g := by
  unfold mapr
  exact List.map_congr_left fun j hj => h j (List.mem_range.1 hj)
theorem mapr_set {α : Type} {n : Nat} {f g : Nat → α} {i : Nat} {v : α} (hv : i < n → g i = v) (h : ∀ j, j < n → j ≠ i → g j = f j) : (mapr n f).set i v = mapr n g := by
  refine List.ext_getElem (by simp) fun j h1 h2 => ?_
  rw [List.getElem_set]
  split
  · rename_i e; subst e; simp [mapr]; exact (hv (by simpa using h2)).symm
  · rename_i e; simp [mapr]; exact (h j (by simpa using h2) fun e' => e e'.symm).symm
theorem replicate_mapr {α : Type} (n : Nat) (a : α) : List.replicate n a = mapr n fun _ => a :=
  List.ext_getElem (by simp) fun j h1 h2 => by simp [mapr]

/-- The first of n places at which p holds. -/
def firstI (p : Nat → Bool) : Nat → Option Nat
  | 0 => none
  | n + 1 => match firstI p n with | some i => some i | none => if p n then some n else none
theorem firstI_succ {p : Nat → Bool} {n : Nat} (h : firstI p n = none) (h' : p n = false) : firstI p (n + 1) = none := by simp [firstI, h, h']
theorem firstI_stop {p : Nat → Bool} {k n : Nat} (h : firstI p k = none) (hc : p k = true) (hk : k < n) : firstI p n = some k := by
  have h1 : firstI p (k + 1) = some k := by simp [firstI, h, hc]
  have : ∀ d, firstI p (k + 1 + d) = some k := by
    intro d
    induction d with
    | zero => exact h1
    | succ d ih => rw [← Nat.add_assoc, firstI, ih]
  have := this (n - (k + 1))
  rwa [show k + 1 + (n - (k + 1)) = n by omega] at this
theorem firstI_none {p : Nat → Bool} : ∀ {n : Nat}, firstI p n = none → ∀ j, j < n → p j = false
  | n + 1, h, j, hj => by
    simp only [firstI] at h
    split at h
    · cases h
    · rename_i h0
      split at h
      · cases h
      · rename_i h1
        by_cases e : j = n
        · subst e; simpa using h1
        · exact firstI_none h0 j (by omega)
theorem firstI_spec {p : Nat → Bool} : ∀ {n i : Nat}, firstI p n = some i → i < n ∧ p i = true ∧ ∀ j, j < i → p j = false
  | n + 1, i, h => by
    simp only [firstI] at h
    split at h
    · rename_i k hk
      simp only [Option.some.injEq] at h
      subst h
      have := firstI_spec hk
      exact ⟨by omega, this.2⟩
    · rename_i hk
      split at h
      · rename_i hp
        simp only [Option.some.injEq] at h
        subst h
        exact ⟨by omega, hp, firstI_none hk⟩
      · cases h
theorem firstI_same {p q : Nat → Bool} : ∀ {n : Nat}, (∀ j, j < n → p j = q j) → firstI p n = firstI q n
  | 0, _ => rfl
  | n + 1, h => by simp only [firstI, firstI_same (fun j hj => h j (by omega) : ∀ j, j < n → _), h n (by omega)]

theorem two_pow_nat (k : Nat) : (1 : Int) ≤ 2 ^ k := by
  have : (0 : Int) < 2 ^ k := Int.pow_pos (by omega)
  omega
theorem two_pow_bd {k m : Nat} (h : k ≤ m) : (2 : Int) ^ k ≤ 2 ^ m := by
  have h1 : (2 : Nat) ^ k ≤ 2 ^ m := Nat.pow_le_pow_right (by omega) h
  have h2 : ((2 ^ k : Nat) : Int) = 2 ^ k := by simp
  have h3 : ((2 ^ m : Nat) : Int) = 2 ^ m := by simp
  omega

theorem mapr_snoc {α : Type} (n : Nat) (f : Nat → α) : mapr n f ++ [f n] = mapr (n + 1) f := (mapr_succ n f).symm
/-- The first of the greatest among the first k. -/
def topTo (l : List Int) : Nat → Nat
  | 0 => 0
  | k + 1 => if l.getD (topTo l k) 0 < l.getD k 0 then k else topTo l k
theorem topTo_yes {l : List Int} {k : Nat} (h : l.getD (topTo l k) 0 < l.getD k 0) : topTo l (k + 1) = k := if_pos h
theorem topTo_no {l : List Int} {k : Nat} (h : ¬ l.getD (topTo l k) 0 < l.getD k 0) : topTo l (k + 1) = topTo l k := if_neg h
theorem topTo_one (l : List Int) : topTo l 1 = 0 := by unfold topTo; split <;> rfl
theorem topTo_max {l : List Int} {k : Nat} : max (l.getD (topTo l k) 0) (l.getD k 0) = l.getD (topTo l (k + 1)) 0 := by
  by_cases h : l.getD (topTo l k) 0 < l.getD k 0
  · rw [topTo_yes h]; omega
  · rw [topTo_no h]; omega
theorem topTo_spec {l : List Int} : ∀ {k : Nat}, 1 ≤ k → topTo l k < k ∧ (∀ j, j < k → l.getD j 0 ≤ l.getD (topTo l k) 0) ∧ ∀ j, j < topTo l k → l.getD j 0 < l.getD (topTo l k) 0
  | 0, h => by omega
  | 1, _ => by rw [topTo_one]; exact ⟨by omega, fun j hj => by rw [show j = 0 by omega]; exact Int.le_refl _, fun j hj => by omega⟩
  | k + 2, _ => by
    have ih := topTo_spec (l := l) (k := k + 1) (by omega)
    by_cases h : l.getD (topTo l (k + 1)) 0 < l.getD (k + 1) 0
    · rw [topTo_yes h]
      refine ⟨by omega, fun j hj => ?_, fun j hj => ?_⟩
      · by_cases e : j = k + 1
        · rw [e]; exact Int.le_refl _
        · have := ih.2.1 j (by omega); omega
      · have := ih.2.1 j hj; omega
    · rw [topTo_no h]
      refine ⟨by omega, fun j hj => ?_, ih.2.2⟩
      by_cases e : j = k + 1
      · rw [e]; omega
      · exact ih.2.1 j (by omega)
theorem top_uniq {l : List Int} {w : Nat} (hw : w < l.length) (h1 : ∀ j, j < l.length → l.getD j 0 ≤ l.getD w 0) (h2 : ∀ j, j < w → l.getD j 0 < l.getD w 0) : topTo l l.length = w := by
  have h := topTo_spec (l := l) (k := l.length) (by omega)
  have a1 := h1 _ h.1
  have a2 := h.2.1 w hw
  rcases Nat.lt_trichotomy (topTo l l.length) w with c | c | c
  · have := h2 _ c; omega
  · exact c
  · have := h.2.2 _ c; omega
def topF (l : List Int) : Nat := topTo l l.length
/-- The most that one of the first k but w bids; 0. -/
def secTo (l : List Int) (w : Nat) : Nat → Int
  | 0 => 0
  | k + 1 => if k ≠ w ∧ secTo l w k < l.getD k 0 then l.getD k 0 else secTo l w k
theorem secTo_yes {l : List Int} {w k : Nat} (h : k ≠ w ∧ secTo l w k < l.getD k 0) : secTo l w (k + 1) = l.getD k 0 := if_pos h
theorem secTo_no {l : List Int} {w k : Nat} (h : ¬ (k ≠ w ∧ secTo l w k < l.getD k 0)) : secTo l w (k + 1) = secTo l w k := if_neg h
theorem secTo_max {l : List Int} {w k : Nat} (h : k ≠ w) : max (secTo l w k) (l.getD k 0) = secTo l w (k + 1) := by
  by_cases c : secTo l w k < l.getD k 0
  · rw [secTo_yes ⟨h, c⟩]; omega
  · rw [secTo_no fun a => c a.2]; omega
theorem secTo_spec {l : List Int} {w : Nat} : ∀ {k : Nat}, 0 ≤ secTo l w k ∧ (∀ j, j < k → j ≠ w → l.getD j 0 ≤ secTo l w k) ∧ (secTo l w k = 0 ∨ ∃ j, j < k ∧ j ≠ w ∧ l.getD j 0 = secTo l w k)
  | 0 => ⟨Int.le_refl _, fun j h => by omega, .inl rfl⟩
  | k + 1 => by
    have ih := secTo_spec (l := l) (w := w) (k := k)
    by_cases c : k ≠ w ∧ secTo l w k < l.getD k 0
    · rw [secTo_yes c]
      refine ⟨by omega, fun j hj hjw => ?_, .inr ⟨k, by omega, c.1, rfl⟩⟩
      by_cases e : j = k
      · rw [e]; exact Int.le_refl _
      · have := ih.2.1 j (by omega) hjw; omega
    · rw [secTo_no c]
      refine ⟨ih.1, fun j hj hjw => ?_, ?_⟩
      · by_cases e : j = k
        · subst e; have : ¬ secTo l w j < l.getD j 0 := fun x => c ⟨hjw, x⟩
          omega
        · exact ih.2.1 j (by omega) hjw
      · rcases ih.2.2 with h | ⟨j, h1, h2, h3⟩
        · exact .inl h
        · exact .inr ⟨j, by omega, h2, h3⟩
theorem sec_uniq {l : List Int} {w : Nat} {q : Int} (h0 : 0 ≤ q) (h1 : ∀ j, j < l.length → j ≠ w → l.getD j 0 ≤ q) (h2 : q = 0 ∨ ∃ j, j < l.length ∧ j ≠ w ∧ l.getD j 0 = q) : secTo l w l.length = q := by
  have h := secTo_spec (l := l) (w := w) (k := l.length)
  have a : secTo l w l.length ≤ q := by
    rcases h.2.2 with e | ⟨j, j1, j2, j3⟩
    · omega
    · have := h1 j j1 j2; omega
  have b : q ≤ secTo l w l.length := by
    rcases h2 with e | ⟨j, j1, j2, j3⟩
    · omega
    · have := h.2.1 j j1 j2; omega
  omega
def secF (l : List Int) : Int := secTo l (topF l) l.length

def bidB (l : List Int) (k : Nat) : Int := if l.getD k 0 < 0 ∨ 1000 < l.getD k 0 then 9 else 0
def bidsE (l : List Int) : Int := if l.length < 1 ∨ 4 < l.length then 7 else firstE (bidB l) l.length
structure BidsOk (l : List Int) : Prop where
  len : 1 ≤ l.length ∧ l.length ≤ 4
  val : ∀ j, j < l.length → 0 ≤ l.getD j 0 ∧ l.getD j 0 ≤ 1000
theorem BidsOk.of {l : List Int} (h : bidsE l = 0) : BidsOk l := by
  unfold bidsE at h
  split at h
  · omega
  · refine ⟨by omega, fun j hj => ?_⟩
    have h1 := firstE_zero h j hj
    unfold bidB at h1
    split at h1 <;> omega
theorem BidsOk.bidsE {l : List Int} (h : BidsOk l) : bidsE l = 0 := by
  have h1 := h.len
  unfold Go.Proofs.Ytdllochcdcgaeaa.bidsE
  rw [if_neg (by omega)]
  have : ∀ k, k ≤ l.length → firstE (bidB l) k = 0 := by
    intro k
    induction k with
    | zero => exact fun _ => rfl
    | succ k ih => exact fun hk => firstE_succ (ih (by omega)) (if_neg (by have := h.val k (by omega); omega))
  exact this _ (Nat.le_refl _)
theorem bidsE_len {l : List Int} (h : (l.length : Int) < 1 ∨ 4 < (l.length : Int)) : 7 = bidsE l := (if_pos (by omega)).symm
theorem bidsE_val {l : List Int} {k : Nat} (h : ¬ (l.length : Int) < 1 ∧ ¬ 4 < (l.length : Int)) (hE : firstE (bidB l) k = 0) (hk : (k : Int) < l.length) (hb : l.getD k 0 < 0 ∨ 1000 < l.getD k 0) : 9 = bidsE l := by
  unfold bidsE
  rw [if_neg (by omega)]
  exact (firstE_stop hE (if_pos hb) (by omega) (by omega)).symm
theorem bidsE_ok {l : List Int} {k : Nat} (h : ¬ (l.length : Int) < 1 ∧ ¬ 4 < (l.length : Int)) (hk : k ≤ l.length) (hE : firstE (bidB l) k = 0) (hn : ¬ (k : Int) < l.length) : 0 = bidsE l := by
  obtain rfl : k = l.length := by omega
  unfold bidsE
  rw [if_neg (by omega)]
  exact hE.symm

/-! The clock -/
def stN (l : List Int) (p : Nat) : List Nat := (List.range l.length).filter fun i => decide ((p : Int) ≤ l.getD i 0)
def stF (l : List Int) (p : Nat) : List Int := (stN l p).map fun (i : Nat) => (i : Int)
def stayF (l : List Int) (p : Nat) (k : Nat) : List Int := ((stF l p).take k).filter fun i => decide ((p : Int) < l.getD i.toNat 0)
theorem stN_mem {l : List Int} {p i : Nat} : i ∈ stN l p ↔ i < l.length ∧ (p : Int) ≤ l.getD i 0 := by simp [stN]
theorem stF_length (l : List Int) (p : Nat) : (stF l p).length = (stN l p).length := by simp [stF]
theorem stF_getD {l : List Int} {p k : Nat} (h : k < (stF l p).length) : ∃ i, i < l.length ∧ (p : Int) ≤ l.getD i 0 ∧ (stF l p).getD k 0 = (i : Int) := by
  rw [stF_length] at h
  refine ⟨(stN l p)[k], (stN_mem.1 (List.getElem_mem h)).1, (stN_mem.1 (List.getElem_mem h)).2, ?_⟩
  simp [stF, List.getD_eq_getElem?_getD, h]
theorem stF_zero {l : List Int} (h : BidsOk l) : stF l 0 = upF l.length := by
  unfold stF upF stN
  congr 1
  exact List.filter_eq_self.2 fun i hi => by
    have := h.val i (List.mem_range.1 hi)
    simp only [decide_eq_true_eq]; omega
theorem stayF_succ {l : List Int} {p k : Nat} (h : k < (stF l p).length) : stayF l p (k + 1) = stayF l p k ++ (if (p : Int) < l.getD ((stF l p).getD k 0).toNat 0 then [(stF l p).getD k 0] else []) := by
  unfold stayF
  rw [List.take_succ_eq_append_getElem h, List.filter_append]
  have e : (stF l p).getD k 0 = (stF l p)[k] := by simp [List.getD_eq_getElem?_getD, h]
  rw [e]
  congr 1
  simp only [List.filter_cons, List.filter_nil, decide_eq_true_eq]
theorem stayF_all (l : List Int) (p : Nat) : stayF l p (stF l p).length = stF l (p + 1) := by
  unfold stayF
  rw [List.take_length]
  unfold stF
  rw [List.filter_map]
  congr 1
  unfold stN
  rw [List.filter_filter]
  congr 1
  funext i
  show (decide ((p : Int) < l.getD ((i : Int)).toNat 0) && decide ((p : Int) ≤ l.getD i 0)) = decide (((p + 1 : Nat) : Int) ≤ l.getD i 0)
  rw [Int.toNat_natCast, Bool.eq_iff_iff]
  simp only [Bool.and_eq_true, decide_eq_true_eq]
  omega
theorem stF_le (l : List Int) (p : Nat) : (stF l p).length ≤ l.length := by
  rw [stF_length]
  have := List.length_filter_le (fun i => decide ((p : Int) ≤ l.getD i 0)) (List.range l.length)
  simpa [stN] using this
theorem stayF_le (l : List Int) (p k : Nat) : (stayF l p k).length ≤ k := by
  unfold stayF
  refine Nat.le_trans (List.length_filter_le _ _) ?_
  rw [List.length_take]
  omega
theorem stF_head {l : List Int} {p : Nat} (h : 1 ≤ (stF l p).length) : ∃ i, i < l.length ∧ (p : Int) ≤ l.getD i 0 ∧ (∀ j, j < i → l.getD j 0 < p) ∧ (stF l p).getD 0 0 = (i : Int) := by
  rw [stF_length] at h
  cases hs : stN l p with
  | nil => rw [hs] at h; simp at h
  | cons i r =>
    have h1 : (stN l p).head? = some i := by rw [hs]; rfl
    unfold stN at h1
    rw [List.head?_filter, List.find?_range_eq_some] at h1
    have h2 : i < l.length := List.mem_range.1 h1.2.1
    refine ⟨i, h2, by simpa using h1.1, fun j hj => ?_, by simp [stF, hs]⟩
    have := h1.2.2 j hj
    simp at this
    simpa [List.getD_eq_getElem?_getD] using this
theorem st_two {l : List Int} {p : Nat} (h : 2 ≤ (stF l p).length) (w : Nat) : ∃ j, j < l.length ∧ j ≠ w ∧ (p : Int) ≤ l.getD j 0 := by
  rw [stF_length] at h
  have hn : (stN l p).Nodup := List.Nodup.sublist List.filter_sublist List.nodup_range
  match hs : stN l p, h with
  | a :: b :: r, _ =>
    rw [hs] at hn
    have ha := stN_mem.1 (show a ∈ stN l p by rw [hs]; simp)
    have hb := stN_mem.1 (show b ∈ stN l p by rw [hs]; simp)
    have hab : a ≠ b := by
      intro e; subst e
      simp at hn
    by_cases e : a = w
    · exact ⟨b, hb.1, fun e' => hab (e.trans e'.symm), hb.2⟩
    · exact ⟨a, ha.1, e, ha.2⟩
theorem clock_top {l : List Int} {p : Nat} (hok : BidsOk l) (hp : p = 0 ∨ 2 ≤ (stF l p).length) (h1 : 1 ≤ (stF l p).length) (h0 : (stF l (p + 1)).length = 0) : (stF l p).getD 0 0 = (topF l : Nat) ∧ (p : Int) = secF l := by
  obtain ⟨i, hi, hpi, hlt, e⟩ := stF_head h1
  have hall : ∀ j, j < l.length → l.getD j 0 ≤ p := by
    intro j hj
    rcases Int.lt_or_le (p : Int) (l.getD j 0) with c | c
    · have : j ∈ stN l (p + 1) := stN_mem.2 ⟨hj, by omega⟩
      rw [stF_length, List.length_eq_zero_iff] at h0
      rw [h0] at this
      simp at this
    · exact c
  have ht : topF l = i := top_uniq hi (fun j hj => by have := hall j hj; omega) fun j hj => by have := hlt j hj; omega
  refine ⟨by rw [e, ht], (sec_uniq (by omega) (fun j hj _ => hall j hj) ?_).symm⟩
  rcases hp with rfl | hp
  · exact .inl rfl
  · obtain ⟨j, hj, hjw, hpj⟩ := st_two hp (topF l)
    exact .inr ⟨j, hj, hjw, by have := hall j hj; omega⟩
theorem clock_one {l : List Int} {p : Nat} (hok : BidsOk l) (hp : p = 0 ∨ 2 ≤ (stF l p).length) (h1 : (stF l (p + 1)).length = 1) : (stF l (p + 1)).getD 0 0 = (topF l : Nat) ∧ (p : Int) = secF l := by
  obtain ⟨i, hi, hpi, hlt, e⟩ := stF_head (Nat.le_of_eq h1.symm)
  have hall : ∀ j, j < l.length → j ≠ i → l.getD j 0 ≤ p := by
    intro j hj hne
    rcases Int.lt_or_le (p : Int) (l.getD j 0) with c | c
    · have hj2 : j ∈ stN l (p + 1) := stN_mem.2 ⟨hj, by omega⟩
      have hi2 : i ∈ stN l (p + 1) := stN_mem.2 ⟨hi, hpi⟩
      rw [stF_length, List.length_eq_one_iff] at h1
      obtain ⟨x, hx⟩ := h1
      rw [hx] at hj2 hi2
      simp at hj2 hi2
      omega
    · exact c
  have ht : topF l = i := top_uniq hi (fun j hj => by
      by_cases c : j = i
      · rw [c]; exact Int.le_refl _
      · have := hall j hj c; omega) fun j hj => by have := hlt j hj; omega
  refine ⟨by rw [e, ht], (sec_uniq (by omega) (fun j hj hjw => hall j hj (ht ▸ hjw)) ?_).symm⟩
  rcases hp with rfl | hp
  · exact .inl rfl
  · obtain ⟨j, hj, hjw, hpj⟩ := st_two hp (topF l)
    exact .inr ⟨j, hj, hjw, by have := hall j hj (ht ▸ hjw); omega⟩

/-! Sets that may win -/
def bitF (s : Int) (e : Nat) : Int := s / 2 ^ e % 2
theorem bitF_bd (s : Int) (e : Nat) : 0 ≤ bitF s e ∧ bitF s e ≤ 1 := by unfold bitF; omega
def wTo (l : List Int) (s : Int) : Nat → Int
  | 0 => 0
  | n + 1 => wTo l s n + l.getD n 0 * bitF s n
def wF (l : List Int) (s : Int) : Int := wTo l s l.length
theorem wmul {x : Int} (s : Int) (e : Nat) (h : 0 ≤ x ∧ x ≤ 1000) : 0 ≤ x * bitF s e ∧ x * bitF s e ≤ 1000 := by
  have := bitF_bd s e
  have : bitF s e = 0 ∨ bitF s e = 1 := by omega
  rcases this with h | h <;> rw [h] <;> omega
theorem wTo_bd {l : List Int} (h : BidsOk l) (s : Int) : ∀ n, n ≤ l.length → 0 ≤ wTo l s n ∧ wTo l s n ≤ n * 1000
  | 0, _ => by simp [wTo]
  | n + 1, hn => by
    have ih := wTo_bd h s n (by omega)
    have := wmul s n (h.val n (by omega))
    simp only [wTo]
    omega
theorem wTo_set {l : List Int} {s a : Int} {i : Nat} (hi : i < l.length) : ∀ n, wTo (l.set i a) s n = wTo l s n + (if i < n then (a - l.getD i 0) * bitF s i else 0)
  | 0 => by simp [wTo]
  | n + 1 => by
    simp only [wTo]
    rw [wTo_set hi n]
    have e : (l.set i a).getD n 0 = if i = n then a else l.getD n 0 := by
      simp only [List.getD_eq_getElem?_getD, List.getElem?_set]
      split
      · rename_i e; subst e; simp [hi]
      · rfl
    rw [e]
    rcases Nat.lt_trichotomy i n with c | c | c
    · rw [if_pos c, if_pos (show i < n + 1 by omega), if_neg (show ¬ i = n by omega)]; omega
    · subst c; rw [if_neg (show ¬ i < i by omega), if_pos rfl, if_pos (show i < i + 1 by omega), Int.sub_mul]; omega
    · rw [if_neg (show ¬ i < n by omega), if_neg (show ¬ i = n by omega), if_neg (show ¬ i < n + 1 by omega)]; omega
theorem wF_set {l : List Int} {s a : Int} {i : Nat} (hi : i < l.length) : wF (l.set i a) s = wF l s + (a - l.getD i 0) * bitF s i := by
  unfold wF
  rw [List.length_set, wTo_set hi, if_pos hi]
theorem wF_bd {l : List Int} (h : BidsOk l) (s : Int) : 0 ≤ wF l s ∧ wF l s ≤ 4000 := by
  have := wTo_bd h s l.length (Nat.le_refl _)
  have := h.len
  unfold wF
  omega
theorem BidsOk.set {l : List Int} (h : BidsOk l) {i : Nat} {a : Int} (ha : 0 ≤ a ∧ a ≤ 1000) : BidsOk (l.set i a) := by
  refine ⟨by rw [List.length_set]; exact h.len, fun j hj => ?_⟩
  rw [List.length_set] at hj
  simp only [List.getD_eq_getElem?_getD, List.getElem?_set]
  split
  · rename_i e
    subst e
    rw [if_pos hj]
    exact ha
  · simpa [List.getD_eq_getElem?_getD] using h.val j hj
/-- The first place of a greatest value among k. -/
def bigTo (f : Nat → Int) : Nat → Nat
  | 0 => 0
  | k + 1 => if f (bigTo f k) < f k then k else bigTo f k
theorem bigTo_yes {f : Nat → Int} {k : Nat} (h : f (bigTo f k) < f k) : bigTo f (k + 1) = k := if_pos h
theorem bigTo_no {f : Nat → Int} {k : Nat} (h : ¬ f (bigTo f k) < f k) : bigTo f (k + 1) = bigTo f k := if_neg h
theorem bigTo_one (f : Nat → Int) : bigTo f 1 = 0 := by unfold bigTo; split <;> rfl
theorem bigTo_spec {f : Nat → Int} : ∀ {k : Nat}, 1 ≤ k → bigTo f k < k ∧ (∀ j, j < k → f j ≤ f (bigTo f k)) ∧ ∀ j, j < bigTo f k → f j < f (bigTo f k)
  | 0, h => by omega
  | 1, _ => by rw [bigTo_one]; exact ⟨by omega, fun j hj => by rw [show j = 0 by omega]; exact Int.le_refl _, fun j hj => by omega⟩
  | k + 2, _ => by
    have ih := bigTo_spec (f := f) (k := k + 1) (by omega)
    by_cases h : f (bigTo f (k + 1)) < f (k + 1)
    · rw [bigTo_yes h]
      refine ⟨by omega, fun j hj => ?_, fun j hj => ?_⟩
      · by_cases e : j = k + 1
        · rw [e]; exact Int.le_refl _
        · have := ih.2.1 j (by omega); omega
      · have := ih.2.1 j hj; omega
    · rw [bigTo_no h]
      refine ⟨by omega, fun j hj => ?_, ih.2.2⟩
      by_cases e : j = k + 1
      · rw [e]; omega
      · exact ih.2.1 j (by omega)
theorem big_uniq {f : Nat → Int} {n w : Nat} (hw : w < n) (h1 : ∀ j, j < n → f j ≤ f w) (h2 : ∀ j, j < w → f j < f w) : bigTo f n = w := by
  have h := bigTo_spec (f := f) (k := n) (by omega)
  have a1 := h1 _ h.1
  have a2 := h.2.1 w hw
  rcases Nat.lt_trichotomy (bigTo f n) w with c | c | c
  · have := h2 _ c; omega
  · exact c
  · have := h.2.2 _ c; omega
def winTo (l sets : List Int) (k : Nat) : Nat := bigTo (fun k => wF l (sets.getD k 0)) k
def winF (l sets : List Int) : Int := sets.getD (winTo l sets sets.length) 0
def hasF (l sets : List Int) (i m : Nat) : Bool := decide (bitF (winF (l.set i (m : Nat)) sets) i = 1)
theorem bit01 {x : Int} {i : Nat} (h : ¬ bitF x i = 1) : bitF x i = 0 := by have := bitF_bd x i; omega
theorem has_mono {l sets : List Int} {i m m' : Nat} (hi : i < l.length) (hs : 1 ≤ sets.length) (hm : m ≤ m') (h : hasF l sets i m = true) : hasF l sets i m' = true := by
  unfold hasF winF winTo at *
  simp only [decide_eq_true_eq] at *
  have sp := bigTo_spec (f := fun k => wF (l.set i (m : Nat)) (sets.getD k 0)) hs
  generalize hw : bigTo (fun k => wF (l.set i (m : Nat)) (sets.getD k 0)) sets.length = w at *
  have e : bigTo (fun k => wF (l.set i (m' : Nat)) (sets.getD k 0)) sets.length = w := by
    refine big_uniq sp.1 (fun j hj => ?_) fun j hj => ?_
    · have a := sp.2.1 j hj
      simp only [wF_set hi] at a ⊢
      rw [h] at a ⊢
      rcases (by have := bitF_bd (sets.getD j 0) i; omega : bitF (sets.getD j 0) i = 0 ∨ bitF (sets.getD j 0) i = 1) with b | b <;> rw [b] at a ⊢ <;> omega
    · have a := sp.2.2 j hj
      simp only [wF_set hi] at a ⊢
      rw [h] at a ⊢
      rcases (by have := bitF_bd (sets.getD j 0) i; omega : bitF (sets.getD j 0) i = 0 ∨ bitF (sets.getD j 0) i = 1) with b | b <;> rw [b] at a ⊢ <;> omega
  rw [e]
  exact h
/-- The first number below n at which p holds; n. -/
def leastF (p : Nat → Bool) (n : Nat) : Nat := match firstI p n with | some i => i | none => n
theorem least_uniq {p : Nat → Bool} {n m : Nat} (hm : m ≤ n) (h1 : ∀ j, j < m → p j = false) (h2 : m < n → p m = true) : leastF p n = m := by
  unfold leastF
  cases h : firstI p n with
  | some i =>
    have := firstI_spec h
    rcases Nat.lt_trichotomy i m with c | c | c
    · have := h1 i c; simp_all
    · exact c
    · have := this.2.2 m c; have := h2 (by omega); simp_all
  | none =>
    rcases Nat.lt_or_ge m n with c | c
    · have := firstI_none h m c; have := h2 c; simp_all
    · show n = m
      omega
theorem set_same (l : List Int) (i : Nat) (h : i < l.length) : l.set i (l.getD i 0) = l := by
  refine List.ext_getElem (by simp) fun j h1 h2 => ?_
  rw [List.getElem_set]
  split
  · rename_i e; subst e; simp [List.getD_eq_getElem?_getD, h]
  · rfl
def payF (l sets : List Int) (i : Nat) : Int := if bitF (winF l sets) i = 1 then (leastF (hasF l sets i) (l.getD i 0).toNat : Nat) else 0
def slotB (l sets : List Int) (k : Nat) : Int := if sets.getD k 0 < 0 ∨ 2 ^ l.length ≤ sets.getD k 0 then 8 else 0
def slotsE (l sets : List Int) : Int := if bidsE l ≠ 0 then bidsE l else if sets.length < 1 ∨ 16 < sets.length then 2 else firstE (slotB l sets) sets.length
theorem slotsE_bids {l sets : List Int} (h : ¬ bidsE l = 0) : bidsE l = slotsE l sets := by simp [slotsE, h]
theorem slotsE_len {l sets : List Int} (h : bidsE l = 0) (h' : (sets.length : Int) < 1 ∨ 16 < (sets.length : Int)) : 2 = slotsE l sets := by
  unfold slotsE
  rw [if_neg (fun c => c h), if_pos (by omega)]
theorem slotsE_val {l sets : List Int} {k : Nat} (h : bidsE l = 0) (h' : ¬ (sets.length : Int) < 1 ∧ ¬ 16 < (sets.length : Int)) (hE : firstE (slotB l sets) k = 0) (hk : (k : Int) < sets.length) (hb : sets.getD k 0 < 0 ∨ 2 ^ l.length ≤ sets.getD k 0) : 8 = slotsE l sets := by
  unfold slotsE
  rw [if_neg (fun c => c h), if_neg (by omega)]
  exact (firstE_stop hE (if_pos hb) (by omega) (by omega)).symm
theorem slotsE_ok {l sets : List Int} {k : Nat} (h : bidsE l = 0) (h' : ¬ (sets.length : Int) < 1 ∧ ¬ 16 < (sets.length : Int)) (hk : k ≤ sets.length) (hE : firstE (slotB l sets) k = 0) (hn : ¬ (k : Int) < sets.length) : 0 = slotsE l sets := by
  obtain rfl : k = sets.length := by omega
  unfold slotsE
  rw [if_neg (fun c => c h), if_neg (by omega)]
  exact hE.symm
structure SlotsOk (l sets : List Int) : Prop where
  bids : BidsOk l
  len : 1 ≤ sets.length ∧ sets.length ≤ 16
  val : ∀ j, j < sets.length → 0 ≤ sets.getD j 0 ∧ sets.getD j 0 < 2 ^ l.length
theorem SlotsOk.of {l sets : List Int} (h : slotsE l sets = 0) : SlotsOk l sets := by
  unfold slotsE at h
  split at h
  · rename_i c; exact absurd h c
  · rename_i c
    have c : bidsE l = 0 := Decidable.not_not.1 c
    split at h
    · omega
    · refine ⟨.of c, by omega, fun j hj => ?_⟩
      have h1 := firstE_zero h j hj
      unfold slotB at h1
      split at h1 <;> omega
theorem SlotsOk.slotsE {l sets : List Int} (h : SlotsOk l sets) : slotsE l sets = 0 := by
  have h1 := h.len
  unfold Go.Proofs.Ytdllochcdcgaeaa.slotsE
  rw [if_neg (fun c => c h.bids.bidsE), if_neg (by omega)]
  have : ∀ k, k ≤ sets.length → firstE (slotB l sets) k = 0 := by
    intro k
    induction k with
    | zero => exact fun _ => rfl
    | succ k ih => exact fun hk => firstE_succ (ih (by omega)) (if_neg (by have := h.val k (by omega); omega))
  exact this _ (Nat.le_refl _)
theorem SlotsOk.win {l sets : List Int} (h : SlotsOk l sets) : 0 ≤ winF l sets ∧ winF l sets < 2 ^ l.length :=
  h.val _ (bigTo_spec h.len.1).1
theorem SlotsOk.set {l sets : List Int} (h : SlotsOk l sets) {i : Nat} {a : Int} (ha : 0 ≤ a ∧ a ≤ 1000) : SlotsOk (l.set i a) sets :=
  ⟨h.bids.set ha, h.len, by rw [List.length_set]; exact h.val⟩
theorem pow16 {n : Nat} (h : n ≤ 4) : (2 : Int) ^ n ≤ 16 := by
  have := two_pow_bd h
  omega
theorem winTo_step {l sets : List Int} {k : Nat} : winTo l sets (k + 1) = if wF l (sets.getD (winTo l sets k) 0) < wF l (sets.getD k 0) then k else winTo l sets k := rfl
theorem winTo_lt {l sets : List Int} {k : Nat} (h : 1 ≤ k) : winTo l sets k < k := (bigTo_spec h).1

theorem slot_len {x : Int} {n : Nat} (hx : x ≤ 9223372036854775807) (h : x < 0 ∨ (n : Int) < (Lib.bitLen x.toNat : Nat)) : x < 0 ∨ 2 ^ n ≤ x := by
  rcases Int.lt_or_le x 0 with c | c
  · exact .inl c
  · refine .inr ?_
    have h1 := bitLenAux_iff 64 x.toNat n (by omega)
    have h2 : ¬ Lib.bitLen x.toNat ≤ n := by omega
    unfold Lib.bitLen at h2
    rw [h1] at h2
    have h3 : ((2 ^ n : Nat) : Int) = 2 ^ n := by simp
    omega
theorem slot_len' {x : Int} {n : Nat} (hx : x ≤ 9223372036854775807) (h : 0 ≤ x ∧ (Lib.bitLen x.toNat : Nat) ≤ (n : Int)) : ¬ (x < 0 ∨ 2 ^ n ≤ x) := by
  have h1 := bitLenAux_iff 64 x.toNat n (by omega)
  have h2 : Lib.bitLen x.toNat ≤ n := by omega
  unfold Lib.bitLen at h2
  rw [h1] at h2
  have h3 : ((2 ^ n : Nat) : Int) = 2 ^ n := by simp
  omega
theorem shr_nonneg {x : Int} (h : 0 ≤ x) (n : Nat) : 0 ≤ x / 2 ^ n := Int.ediv_nonneg h (by have := two_pow_nat n; omega)
theorem win_yes {l sets : List Int} {k : Nat} {b m : Int} (hp : (k = 0 ∧ b = -1 ∧ m = 0) ∨ (1 ≤ k ∧ b = (winTo l sets k : Nat) ∧ m = wF l (sets.getD (winTo l sets k) 0))) (h : b < 0 ∨ m < wF l (sets.getD k 0)) :
    winTo l sets (k + 1) = k := by
  rcases hp with ⟨rfl, _⟩ | ⟨h1, h2, h3⟩
  · exact bigTo_one _
  · exact bigTo_yes (by show wF l (sets.getD (winTo l sets k) 0) < _; omega)
theorem win_no {l sets : List Int} {k : Nat} {b m : Int} (hp : (k = 0 ∧ b = -1 ∧ m = 0) ∨ (1 ≤ k ∧ b = (winTo l sets k : Nat) ∧ m = wF l (sets.getD (winTo l sets k) 0))) (h : ¬ b < 0 ∧ ¬ m < wF l (sets.getD k 0)) :
    1 ≤ k ∧ winTo l sets (k + 1) = winTo l sets k := by
  rcases hp with ⟨rfl, h2, _⟩ | ⟨h1, h2, h3⟩
  · omega
  · exact ⟨h1, bigTo_no (by show ¬ wF l (sets.getD (winTo l sets k) 0) < _; omega)⟩
theorem sw_yes {l sets : List Int} {k : Nat} {b m : Int} (hp : (k = 0 ∧ b = -1 ∧ m = 0) ∨ (1 ≤ k ∧ b = wF l (sets.getD (winTo l sets k) 0) ∧ m = sets.getD (winTo l sets k) 0)) (h : b < wF l (sets.getD k 0)) :
    winTo l sets (k + 1) = k := by
  rcases hp with ⟨rfl, _⟩ | ⟨h1, h2, h3⟩
  · exact bigTo_one _
  · exact bigTo_yes (by show wF l (sets.getD (winTo l sets k) 0) < _; omega)
theorem sw_no {l sets : List Int} {k : Nat} {b m : Int} (hb : 0 ≤ wF l (sets.getD k 0)) (hp : (k = 0 ∧ b = -1 ∧ m = 0) ∨ (1 ≤ k ∧ b = wF l (sets.getD (winTo l sets k) 0) ∧ m = sets.getD (winTo l sets k) 0)) (h : ¬ b < wF l (sets.getD k 0)) :
    1 ≤ k ∧ winTo l sets (k + 1) = winTo l sets k := by
  rcases hp with ⟨rfl, h2, _⟩ | ⟨h1, h2, h3⟩
  · omega
  · exact ⟨h1, bigTo_no (by show ¬ wF l (sets.getD (winTo l sets k) 0) < _; omega)⟩

theorem bids_fc (l : List Int) : FC Try.prog 33 [.ints l] (.i (bidsE l)) := by
  refine FC.intro Try.func33 rfl (Nat.le_of_ble_eq_true rfl) fun hfit => ?_
  obtain ⟨fitl0, fitr0⟩ := (hfit _ (.head _)).ints
  refine awp_seq ?_
  refine awp_region rfl (.n (fun _ => op_assign (.plain rfl)) (.nil _)) ?_
  refine awp_seq ?_
  refine awp_seq ?_
  refine awp_region rfl (.n (fun _ => op_move (.plain rfl)) (.n (fun _ => op_len (s := 0) Try.underlying27 (.plain rfl)) (.n (fun _ => op_lss (.plain rfl) (.plain rfl)) (.n (fun _ => op_move (.plain rfl)) (.gn rfl rfl (fun hg _ => op_move (.plain rfl)) (.gn rfl rfl (fun hg _ => op_len (s := 0) Try.underlying27 (.opt rfl fun h => h)) (.gn rfl rfl (fun hg _ => op_gtr (.opt rfl fun h => h) (.plain rfl)) (.n (fun _ => op_or (.plain rfl) (.plain rfl) (.plain rfl) (fun h => eqF h)) (.nil _))))))))) ?_
  refine awp_cond rfl (fun h => ?_) (fun h => ?_)
  · try simp only [decide_eq_true_eq, decide_eq_false_iff_not, Bool.and_eq_true, Bool.or_eq_true, Bool.and_eq_false_iff, Bool.or_eq_false_iff, Bool.not_eq_true', Bool.not_eq_false', Bool.not_eq_true, Bool.not_eq_false, Bool.true_eq_false, Bool.false_eq_true] at h
    refine awp_seq ?_
    refine awp_region rfl (.n (fun _ => op_assign (.plain rfl)) (.nil _)) ?_
    refine awp_ret ?_
    refine retQ.ret ?_
    refine ret1 rfl rfl rfl ?_
    exact congrArg PV.i (bidsE_len h)
  · try simp only [decide_eq_true_eq, decide_eq_false_iff_not, Bool.and_eq_true, Bool.or_eq_true, Bool.and_eq_false_iff, Bool.or_eq_false_iff, Bool.not_eq_true', Bool.not_eq_false', Bool.not_eq_true, Bool.not_eq_false, Bool.true_eq_false, Bool.false_eq_true] at h
    refine awp_skip ?_
    refine awp_seq ?_
    refine awp_seq ?_
    refine awp_region rfl (.n (fun _ => op_move (.plain rfl)) (.n (fun _ => op_len (s := 0) Try.underlying27 (.plain rfl)) (.n (fun _ => op_move (.plain rfl)) (.nil _)))) ?_
    refine awp_block ?_
    refine awp_loop (σ := Nat) (fun (k : Nat) => k ≤ l.length ∧ firstE (bidB l) k = 0) (fun (k : Nat) => ⟨[(13, .pv (.ints l)), (14, .int (l.length : Nat)), (15, .int (k : Nat))], []⟩) (fun (k : Nat) => l.length - k) 0 ?_ (Ent.kept ⟨rfl, rfl, rfl, trivial⟩ trivial) ?_
    · exact ⟨Nat.zero_le _, rfl⟩
    rintro k hp
    try dsimp only at hp
    obtain ⟨hk, hE⟩ := hp
    refine awp_seq ?_
    refine awp_region rfl (.n (fun _ => op_lss (.plain rfl) (.plain rfl)) (.nil _)) ?_
    refine awp_seq ?_
    refine awp_cond rfl (fun h => ?_) (fun h => ?_)
    · try simp only [decide_eq_true_eq, decide_eq_false_iff_not, Bool.and_eq_true, Bool.or_eq_true, Bool.and_eq_false_iff, Bool.or_eq_false_iff, Bool.not_eq_true', Bool.not_eq_false', Bool.not_eq_true, Bool.not_eq_false, Bool.true_eq_false, Bool.false_eq_true] at h
      refine awp_skip ?_
      refine awp_seq ?_
      refine awp_block ?_
      refine awp_seq ?_
      refine awp_region rfl (.n (fun _ => op_indexAddrN Try.underlying27 Try.sizeOf3 (.plain rfl) (.plain rfl) (fun _ => rfl) ?_) (.n (fun _ => op_load Try.isAgg3 (.plain rfl)) (.n (fun _ => op_assign (.plain rfl)) (.nil _)))) ?_
      · omega
      refine awp_seq ?_
      refine awp_region rfl (.n (fun _ => op_move (.plain rfl)) (.n (fun _ => op_lss (.plain rfl) (.plain rfl)) (.n (fun _ => op_move (.plain rfl)) (.gn rfl rfl (fun hg _ => op_move (.plain rfl)) (.gn rfl rfl (fun hg _ => op_gtr (.opt rfl fun h => h) (.plain rfl)) (.n (fun _ => op_or (.plain rfl) (.plain rfl) (.plain rfl) (fun h => eqF h)) (.nil _))))))) ?_
      refine awp_cond rfl (fun h => ?_) (fun h => ?_)
      · try simp only [decide_eq_true_eq, decide_eq_false_iff_not, Bool.and_eq_true, Bool.or_eq_true, Bool.and_eq_false_iff, Bool.or_eq_false_iff, Bool.not_eq_true', Bool.not_eq_false', Bool.not_eq_true, Bool.not_eq_false, Bool.true_eq_false, Bool.false_eq_true] at h
        refine awp_seq ?_
        refine awp_region rfl (.n (fun _ => op_assign (.plain rfl)) (.nil _)) ?_
        refine awp_ret ?_
        refine retQ.ret ?_
        refine ret1 rfl rfl rfl ?_
        exact congrArg PV.i (bidsE_val (by omega) hE (by omega) h)
      · try simp only [decide_eq_true_eq, decide_eq_false_iff_not, Bool.and_eq_true, Bool.or_eq_true, Bool.and_eq_false_iff, Bool.or_eq_false_iff, Bool.not_eq_true', Bool.not_eq_false', Bool.not_eq_true, Bool.not_eq_false, Bool.true_eq_false, Bool.false_eq_true] at h
        refine awp_skip ?_
        refine awp_region rfl (.n (fun _ => op_add (.plain rfl) (.plain rfl) ?_) (.n (fun _ => op_move (.plain rfl)) (.nil _))) ?_
        · unfold InR; omega
        exact ⟨k + 1, ⟨by omega, firstE_succ hE (if_neg (by omega))⟩, by dsimp only; omega, (Ent.kept ⟨rfl, rfl, rfl, trivial⟩ trivial)⟩
    · try simp only [decide_eq_true_eq, decide_eq_false_iff_not, Bool.and_eq_true, Bool.or_eq_true, Bool.and_eq_false_iff, Bool.or_eq_false_iff, Bool.not_eq_true', Bool.not_eq_false', Bool.not_eq_true, Bool.not_eq_false, Bool.true_eq_false, Bool.false_eq_true] at h
      refine awp_exit ?_
      refine awp_seq ?_
      refine awp_region rfl (.n (fun _ => op_assign (.plain rfl)) (.nil _)) ?_
      refine awp_ret ?_
      refine retQ.ret ?_
      refine ret1 rfl rfl rfl ?_
      exact congrArg PV.i (bidsE_ok (by omega) hk hE (by omega))

theorem BidsMay_fc (l : List Int) : FC Try.prog 17 [.ints l] (.i (bidsE l)) := by
  refine FC.intro Try.func17 rfl (Nat.le_of_ble_eq_true rfl) fun hfit => ?_
  obtain ⟨fitl0, fitr0⟩ := (hfit _ (.head _)).ints
  refine awp_seq ?_
  refine awp_region rfl (.n (fun _ => op_assign (.plain rfl)) (.nil _)) ?_
  refine awp_seq ?_
  refine awp_seq ?_
  refine awp_region rfl (.n (fun _ => op_move (.plain rfl)) (.n (fun _ => op_len (s := 0) Try.underlying27 (.plain rfl)) (.n (fun _ => op_lss (.plain rfl) (.plain rfl)) (.n (fun _ => op_move (.plain rfl)) (.gn rfl rfl (fun hg _ => op_move (.plain rfl)) (.gn rfl rfl (fun hg _ => op_len (s := 0) Try.underlying27 (.opt rfl fun h => h)) (.gn rfl rfl (fun hg _ => op_gtr (.opt rfl fun h => h) (.plain rfl)) (.n (fun _ => op_or (.plain rfl) (.plain rfl) (.plain rfl) (fun h => eqF h)) (.nil _))))))))) ?_
  refine awp_cond rfl (fun h => ?_) (fun h => ?_)
  · try simp only [decide_eq_true_eq, decide_eq_false_iff_not, Bool.and_eq_true, Bool.or_eq_true, Bool.and_eq_false_iff, Bool.or_eq_false_iff, Bool.not_eq_true', Bool.not_eq_false', Bool.not_eq_true, Bool.not_eq_false, Bool.true_eq_false, Bool.false_eq_true] at h
    refine awp_seq ?_
    refine awp_region rfl (.n (fun _ => op_assign (.plain rfl)) (.nil _)) ?_
    refine awp_ret ?_
    refine retQ.ret ?_
    refine ret1 rfl rfl rfl ?_
    exact congrArg PV.i (bidsE_len h)
  · try simp only [decide_eq_true_eq, decide_eq_false_iff_not, Bool.and_eq_true, Bool.or_eq_true, Bool.and_eq_false_iff, Bool.or_eq_false_iff, Bool.not_eq_true', Bool.not_eq_false', Bool.not_eq_true, Bool.not_eq_false, Bool.true_eq_false, Bool.false_eq_true] at h
    refine awp_skip ?_
    refine awp_seq ?_
    refine awp_seq ?_
    refine awp_region rfl (.n (fun _ => op_assign (.plain rfl)) (.nil _)) ?_
    refine awp_block ?_
    refine awp_loop (σ := Nat) (fun (k : Nat) => k ≤ l.length ∧ firstE (bidB l) k = 0) (fun (k : Nat) => ⟨[(0, .pv (.ints l)), (3, .int (k : Nat))], []⟩) (fun (k : Nat) => l.length - k) 0 ?_ (Ent.kept ⟨rfl, rfl, trivial⟩ trivial) ?_
    · exact ⟨Nat.zero_le _, rfl⟩
    rintro k hp
    try dsimp only at hp
    obtain ⟨hk, hE⟩ := hp
    refine awp_seq ?_
    refine awp_seq ?_
    refine awp_region rfl (.n (fun _ => op_move (.plain rfl)) (.n (fun _ => op_move (.plain rfl)) (.n (fun _ => op_len (s := 0) Try.underlying27 (.plain rfl)) (.n (fun _ => op_lss (.plain rfl) (.plain rfl)) (.nil _))))) ?_
    refine awp_cond rfl (fun h => ?_) (fun h => ?_)
    · try simp only [decide_eq_true_eq, decide_eq_false_iff_not, Bool.and_eq_true, Bool.or_eq_true, Bool.and_eq_false_iff, Bool.or_eq_false_iff, Bool.not_eq_true', Bool.not_eq_false', Bool.not_eq_true, Bool.not_eq_false, Bool.true_eq_false, Bool.false_eq_true] at h
      refine awp_skip ?_
      refine awp_seq ?_
      refine awp_block ?_
      refine awp_seq ?_
      refine awp_region rfl (.n (fun _ => op_move (.plain rfl)) (.n (fun _ => op_move (.plain rfl)) (.n (fun _ => op_indexAddrN Try.underlying27 Try.sizeOf3 (.plain rfl) (.plain rfl) (fun _ => rfl) ?_) (.n (fun _ => op_load Try.isAgg3 (.plain rfl)) (.n (fun _ => op_lss (.plain rfl) (.plain rfl)) (.n (fun _ => op_move (.plain rfl)) (.gn rfl rfl (fun hg _ => op_move (.plain rfl)) (.gn rfl rfl (fun hg _ => op_move (.plain rfl)) (.gn rfl rfl (fun hg _ => op_indexAddrN Try.underlying27 Try.sizeOf3 (.opt rfl fun h => h) (.opt rfl fun h => h) (fun _ => rfl) ?_) (.gn rfl rfl (fun hg _ => op_load Try.isAgg3 (.opt rfl fun h => h)) (.gn rfl rfl (fun hg _ => op_gtr (.opt rfl fun h => h) (.plain rfl)) (.n (fun _ => op_or (.plain rfl) (.plain rfl) (.plain rfl) (fun h => eqF h)) (.nil _))))))))))))) ?_
      · omega
      · try simp only [beq_iff_eq, beq_true, beq_false, Bool.and_eq_true, decide_eq_true_eq, decide_eq_false_iff_not, Bool.not_eq_true', Bool.or_eq_true, Bool.or_eq_false_iff] at hg
        omega
      refine awp_cond rfl (fun h => ?_) (fun h => ?_)
      · try simp only [decide_eq_true_eq, decide_eq_false_iff_not, Bool.and_eq_true, Bool.or_eq_true, Bool.and_eq_false_iff, Bool.or_eq_false_iff, Bool.not_eq_true', Bool.not_eq_false', Bool.not_eq_true, Bool.not_eq_false, Bool.true_eq_false, Bool.false_eq_true] at h
        refine awp_seq ?_
        refine awp_region rfl (.n (fun _ => op_assign (.plain rfl)) (.nil _)) ?_
        refine awp_ret ?_
        refine retQ.ret ?_
        refine ret1 rfl rfl rfl ?_
        exact congrArg PV.i (bidsE_val (by omega) hE (by omega) h)
      · try simp only [decide_eq_true_eq, decide_eq_false_iff_not, Bool.and_eq_true, Bool.or_eq_true, Bool.and_eq_false_iff, Bool.or_eq_false_iff, Bool.not_eq_true', Bool.not_eq_false', Bool.not_eq_true, Bool.not_eq_false, Bool.true_eq_false, Bool.false_eq_true] at h
        refine awp_skip ?_
        refine awp_region rfl (.n (fun _ => op_move (.plain rfl)) (.n (fun _ => op_add (.plain rfl) (.plain rfl) ?_) (.n (fun _ => op_assign (.plain rfl)) (.nil _)))) ?_
        · unfold InR; omega
        exact ⟨k + 1, ⟨by omega, firstE_succ hE (if_neg (by omega))⟩, by dsimp only; omega, (Ent.kept ⟨rfl, rfl, trivial⟩ trivial)⟩
    · try simp only [decide_eq_true_eq, decide_eq_false_iff_not, Bool.and_eq_true, Bool.or_eq_true, Bool.and_eq_false_iff, Bool.or_eq_false_iff, Bool.not_eq_true', Bool.not_eq_false', Bool.not_eq_true, Bool.not_eq_false, Bool.true_eq_false, Bool.false_eq_true] at h
      refine awp_exit ?_
      refine awp_seq ?_
      refine awp_region rfl (.n (fun _ => op_assign (.plain rfl)) (.nil _)) ?_
      refine awp_ret ?_
      refine retQ.ret ?_
      refine ret1 rfl rfl rfl ?_
      exact congrArg PV.i (bidsE_ok (by omega) hk hE (by omega))

theorem Max_fc (l : List Int) (h1 : 1 ≤ l.length) : FC Try.prog 35 [.ints l] (.i (l.getD (topF l) 0)) := by
  refine FC.intro Try.func35 rfl (Nat.le_of_ble_eq_true rfl) fun hfit => ?_
  obtain ⟨fitl0, fitr0⟩ := (hfit _ (.head _)).ints
  refine awp_seq ?_
  refine awp_region rfl (.n (fun _ => op_assign (.plain rfl)) (.nil _)) ?_
  refine awp_seq ?_
  refine awp_seq ?_
  refine awp_region rfl (.n (fun _ => op_move (.plain rfl)) (.n (fun _ => op_len (s := 0) Try.underlying27 (.plain rfl)) (.n (fun _ => op_lss (.plain rfl) (.plain rfl)) (.nil _)))) ?_
  refine awp_cond rfl (fun h => ?_) (fun h => ?_)
  · try simp only [decide_eq_true_eq, decide_eq_false_iff_not, Bool.and_eq_true, Bool.or_eq_true, Bool.and_eq_false_iff, Bool.or_eq_false_iff, Bool.not_eq_true', Bool.not_eq_false', Bool.not_eq_true, Bool.not_eq_false, Bool.true_eq_false, Bool.false_eq_true] at h
    exfalso
    omega
  · try simp only [decide_eq_true_eq, decide_eq_false_iff_not, Bool.and_eq_true, Bool.or_eq_true, Bool.and_eq_false_iff, Bool.or_eq_false_iff, Bool.not_eq_true', Bool.not_eq_false', Bool.not_eq_true, Bool.not_eq_false, Bool.true_eq_false, Bool.false_eq_true] at h
    refine awp_skip ?_
    refine awp_seq ?_
    refine awp_region rfl (.n (fun _ => op_move (.plain rfl)) (.n (fun _ => op_indexAddr Try.underlying27 Try.sizeOf3 (.plain rfl) (.plain rfl) (fun _ => rfl) ?_) (.n (fun _ => op_load Try.isAgg3 (.plain rfl)) (.n (fun _ => op_assign (.plain rfl)) (.nil _))))) ?_
    · omega
    refine awp_seq ?_
    refine awp_seq ?_
    refine awp_region rfl (.n (fun _ => op_assign (.plain rfl)) (.nil _)) ?_
    refine awp_block ?_
    refine awp_loop (σ := Nat) (fun (i : Nat) => 1 ≤ i ∧ i ≤ l.length) (fun (i : Nat) => ⟨[(0, .pv (.ints l)), (3, .int (l.getD (topTo l i) 0)), (4, .int (i : Nat))], []⟩) (fun (i : Nat) => l.length - i) 1 ?_ (Ent.kept ⟨rfl, (congrArg (fun n => some (SV.int n)) (by rw [topTo_one]; rfl)), rfl, trivial⟩ trivial) ?_
    · exact ⟨Nat.le_refl _, by omega⟩
    rintro i hp
    try dsimp only at hp
    refine awp_seq ?_
    refine awp_seq ?_
    refine awp_region rfl (.n (fun _ => op_move (.plain rfl)) (.n (fun _ => op_move (.plain rfl)) (.n (fun _ => op_len (s := 0) Try.underlying27 (.plain rfl)) (.n (fun _ => op_lss (.plain rfl) (.plain rfl)) (.nil _))))) ?_
    refine awp_cond rfl (fun h => ?_) (fun h => ?_)
    · try simp only [decide_eq_true_eq, decide_eq_false_iff_not, Bool.and_eq_true, Bool.or_eq_true, Bool.and_eq_false_iff, Bool.or_eq_false_iff, Bool.not_eq_true', Bool.not_eq_false', Bool.not_eq_true, Bool.not_eq_false, Bool.true_eq_false, Bool.false_eq_true] at h
      refine awp_skip ?_
      refine awp_seq ?_
      refine awp_block ?_
      refine awp_region rfl (.n (fun _ => op_move (.plain rfl)) (.n (fun _ => op_move (.plain rfl)) (.n (fun _ => op_move (.plain rfl)) (.n (fun _ => op_indexAddrN Try.underlying27 Try.sizeOf3 (.plain rfl) (.plain rfl) (fun _ => rfl) ?_) (.n (fun _ => op_load Try.isAgg3 (.plain rfl)) (.n (fun _ => op_max (.plain rfl) (.plain rfl)) (.n (fun _ => op_assign (.plain rfl)) (.nil _)))))))) ?_
      · omega
      refine awp_region rfl (.n (fun _ => op_move (.plain rfl)) (.n (fun _ => op_add (.plain rfl) (.plain rfl) ?_) (.n (fun _ => op_assign (.plain rfl)) (.nil _)))) ?_
      · unfold InR; omega
      exact ⟨i + 1, by dsimp only; omega, by dsimp only; omega, (Ent.kept ⟨rfl, (congrArg (fun n => some (SV.int n)) (topTo_max)), rfl, trivial⟩ trivial)⟩
    · try simp only [decide_eq_true_eq, decide_eq_false_iff_not, Bool.and_eq_true, Bool.or_eq_true, Bool.and_eq_false_iff, Bool.or_eq_false_iff, Bool.not_eq_true', Bool.not_eq_false', Bool.not_eq_true, Bool.not_eq_false, Bool.true_eq_false, Bool.false_eq_true] at h
      refine awp_exit ?_
      refine awp_seq ?_
      refine awp_region rfl (.n (fun _ => op_move (.plain rfl)) (.n (fun _ => op_assign (.plain rfl)) (.nil _))) ?_
      refine awp_ret ?_
      refine retQ.ret ?_
      refine ret1 rfl rfl rfl ?_
      obtain rfl : i = l.length := by omega
      rfl

theorem Index_fc (l : List Int) (v : Int) (w : Nat) (hw : w < l.length) (hv : l.getD w 0 = v) (hf : ∀ j, j < w → l.getD j 0 ≠ v) : FC Try.prog 41 [.ints l, .i v] (.i (w : Nat)) := by
  refine FC.intro Try.func41 rfl (Nat.le_of_ble_eq_true rfl) fun hfit => ?_
  obtain ⟨fitl0, fitr0⟩ := (hfit _ (.head _)).ints
  have fit1 : -9223372036854775808 ≤ (v : Int) ∧ (v : Int) ≤ 9223372036854775807 := (hfit _ (.tail _ (.head _))).int64
  refine awp_seq ?_
  refine awp_region rfl (.n (fun _ => op_assign (.plain rfl)) (.nil _)) ?_
  refine awp_seq ?_
  refine awp_seq ?_
  refine awp_region rfl (.n (fun _ => op_move (.plain rfl)) (.n (fun _ => op_len (s := 0) Try.underlying27 (.plain rfl)) (.n (fun _ => op_move (.plain rfl)) (.nil _)))) ?_
  refine awp_block ?_
  refine awp_loop (σ := Nat) (fun (k : Nat) => k ≤ w) (fun (k : Nat) => ⟨[(0, .pv (.ints l)), (1, .int v), (6, .pv (.ints l)), (7, .int (l.length : Nat)), (8, .int (k : Nat))], []⟩) (fun (k : Nat) => l.length - k) 0 ?_ (Ent.kept ⟨rfl, rfl, rfl, rfl, rfl, trivial⟩ trivial) ?_
  · simp
  rintro k hp
  try dsimp only at hp
  refine awp_seq ?_
  refine awp_region rfl (.n (fun _ => op_lss (.plain rfl) (.plain rfl)) (.nil _)) ?_
  refine awp_seq ?_
  refine awp_cond rfl (fun h => ?_) (fun h => ?_)
  · try simp only [decide_eq_true_eq, decide_eq_false_iff_not, Bool.and_eq_true, Bool.or_eq_true, Bool.and_eq_false_iff, Bool.or_eq_false_iff, Bool.not_eq_true', Bool.not_eq_false', Bool.not_eq_true, Bool.not_eq_false, Bool.true_eq_false, Bool.false_eq_true] at h
    refine awp_skip ?_
    refine awp_seq ?_
    refine awp_block ?_
    refine awp_seq ?_
    refine awp_region rfl (.n (fun _ => op_move (.plain rfl)) (.n (fun _ => op_assign (.plain rfl)) (.nil _))) ?_
    refine awp_seq ?_
    refine awp_region rfl (.n (fun _ => op_move (.plain rfl)) (.n (fun _ => op_move (.plain rfl)) (.n (fun _ => op_move (.plain rfl)) (.n (fun _ => op_indexAddrN Try.underlying27 Try.sizeOf3 (.plain rfl) (.plain rfl) (fun _ => rfl) ?_) (.n (fun _ => op_load Try.isAgg3 (.plain rfl)) (.n (fun _ => op_eql (.plain rfl) (.plain rfl)) (.nil _))))))) ?_
    · omega
    refine awp_cond rfl (fun h => ?_) (fun h => ?_)
    · try simp only [decide_eq_true_eq, decide_eq_false_iff_not, Bool.and_eq_true, Bool.or_eq_true, Bool.and_eq_false_iff, Bool.or_eq_false_iff, Bool.not_eq_true', Bool.not_eq_false', Bool.not_eq_true, Bool.not_eq_false, Bool.true_eq_false, Bool.false_eq_true] at h
      refine awp_seq ?_
      refine awp_region rfl (.n (fun _ => op_move (.plain rfl)) (.n (fun _ => op_assign (.plain rfl)) (.nil _))) ?_
      refine awp_ret ?_
      refine retQ.ret ?_
      refine ret1 rfl rfl rfl ?_
      rcases Nat.lt_or_ge k w with c | c
      · exact absurd h.symm (hf k c)
      · obtain rfl : k = w := by omega
        rfl
    · try simp only [decide_eq_true_eq, decide_eq_false_iff_not, Bool.and_eq_true, Bool.or_eq_true, Bool.and_eq_false_iff, Bool.or_eq_false_iff, Bool.not_eq_true', Bool.not_eq_false', Bool.not_eq_true, Bool.not_eq_false, Bool.true_eq_false, Bool.false_eq_true] at h
      refine awp_skip ?_
      refine awp_region rfl (.n (fun _ => op_add (.plain rfl) (.plain rfl) ?_) (.n (fun _ => op_move (.plain rfl)) (.nil _))) ?_
      · unfold InR; omega
      have hkw : k ≠ w := fun e => h (e ▸ hv.symm)
      exact ⟨k + 1, by omega, by dsimp only; omega, (Ent.kept ⟨rfl, rfl, rfl, rfl, rfl, trivial⟩ trivial)⟩
  · try simp only [decide_eq_true_eq, decide_eq_false_iff_not, Bool.and_eq_true, Bool.or_eq_true, Bool.and_eq_false_iff, Bool.or_eq_false_iff, Bool.not_eq_true', Bool.not_eq_false', Bool.not_eq_true, Bool.not_eq_false, Bool.true_eq_false, Bool.false_eq_true] at h
    refine awp_exit ?_
    refine awp_seq ?_
    refine awp_region rfl (.n (fun _ => op_assign (.plain rfl)) (.nil _)) ?_
    refine awp_ret ?_
    refine retQ.ret ?_
    refine ret1 rfl rfl rfl ?_
    exfalso; omega

theorem top_fc (l : List Int) (h1 : 1 ≤ l.length) : FC Try.prog 34 [.ints l] (.i (topF l : Nat)) := by
  refine FC.intro Try.func34 rfl (Nat.le_of_ble_eq_true rfl) fun hfit => ?_
  obtain ⟨fitl0, fitr0⟩ := (hfit _ (.head _)).ints
  refine awp_seq ?_
  refine awp_region rfl (.n (fun _ => op_assign (.plain rfl)) (.nil _)) ?_
  refine awp_seq ?_
  refine awp_region rfl (.n (fun _ => op_move (.plain rfl)) (.n (fun _ => op_move (.plain rfl)) (.n (fun _ => op_call1 Try.call35 (.plain rfl) (Max_fc _ ?_)) (.n (fun _ => op_call2 Try.call41 (.plain rfl) (.plain rfl) (Index_fc _ _ (topF l) ?_ ?_ ?_)) (.n (fun _ => op_assign (.plain rfl)) (.nil _)))))) ?_
  · omega
  · exact (topTo_spec h1).1
  · rfl
  · exact fun j hj => Int.ne_of_lt ((topTo_spec h1).2.2 j hj)
  refine awp_ret ?_
  refine retQ.ret ?_
  refine ret1 rfl rfl rfl ?_
  rfl

theorem First_fc (l : List Int) : FC Try.prog 18 [.ints l] (.tup [.i (if bidsE l = 0 then (topF l : Nat) else 0), .i (if bidsE l = 0 then l.getD (topF l) 0 else 0), .i (bidsE l)]) := by
  refine FC.intro Try.func18 rfl (Nat.le_of_ble_eq_true rfl) fun hfit => ?_
  obtain ⟨fitl0, fitr0⟩ := (hfit _ (.head _)).ints
  refine awp_seq ?_
  refine awp_region rfl (.n (fun _ => op_assign (.plain rfl)) (.n (fun _ => op_assign (.plain rfl)) (.n (fun _ => op_assign (.plain rfl)) (.nil _)))) ?_
  refine awp_seq ?_
  refine awp_seq ?_
  refine awp_region rfl (.n (fun _ => op_move (.plain rfl)) (.n (fun _ => op_call1 Try.call33 (.plain rfl) (bids_fc _)) (.n (fun _ => op_assign (.plain rfl)) (.nil _)))) ?_
  refine awp_seq ?_
  refine awp_region rfl (.n (fun _ => op_move (.plain rfl)) (.n (fun _ => op_neq (.plain rfl) (.plain rfl)) (.nil _))) ?_
  refine awp_cond rfl (fun h => ?_) (fun h => ?_)
  · try simp only [decide_eq_true_eq, decide_eq_false_iff_not, Bool.and_eq_true, Bool.or_eq_true, Bool.and_eq_false_iff, Bool.or_eq_false_iff, Bool.not_eq_true', Bool.not_eq_false', Bool.not_eq_true, Bool.not_eq_false, Bool.true_eq_false, Bool.false_eq_true] at h
    simp only [if_neg h]
    refine awp_seq ?_
    refine awp_region rfl (.n (fun _ => op_move (.plain rfl)) (.n (fun _ => op_assign (.plain rfl)) (.n (fun _ => op_assign (.plain rfl)) (.n (fun _ => op_assign (.plain rfl)) (.nil _))))) ?_
    refine awp_ret ?_
    refine retQ.ret ?_
    refine ret3 rfl rfl rfl rfl rfl rfl rfl ?_
    rfl
  · try simp only [decide_eq_true_eq, decide_eq_false_iff_not, Bool.and_eq_true, Bool.or_eq_true, Bool.and_eq_false_iff, Bool.or_eq_false_iff, Bool.not_eq_true', Bool.not_eq_false', Bool.not_eq_true, Bool.not_eq_false, Bool.true_eq_false, Bool.false_eq_true] at h
    simp only [if_pos h]
    have hl := (BidsOk.of h).len
    refine awp_skip ?_
    refine awp_seq ?_
    refine awp_region rfl (.n (fun _ => op_move (.plain rfl)) (.n (fun _ => op_call1 Try.call34 (.plain rfl) (top_fc _ ?_)) (.n (fun _ => op_move (.plain rfl)) (.n (fun _ => op_call1 Try.call35 (.plain rfl) (Max_fc _ ?_)) (.n (fun _ => op_assign (.plain rfl)) (.n (fun _ => op_assign (.plain rfl)) (.n (fun _ => op_assign (.plain rfl)) (.nil _)))))))) ?_
    · omega
    · omega
    refine awp_ret ?_
    refine retQ.ret ?_
    refine ret3 rfl rfl rfl rfl rfl rfl rfl ?_
    rw [h]

theorem Second_fc (l : List Int) : FC Try.prog 19 [.ints l] (.tup [.i (if bidsE l = 0 then (topF l : Nat) else 0), .i (if bidsE l = 0 then secF l else 0), .i (bidsE l)]) := by
  refine FC.intro Try.func19 rfl (Nat.le_of_ble_eq_true rfl) fun hfit => ?_
  obtain ⟨fitl0, fitr0⟩ := (hfit _ (.head _)).ints
  refine awp_seq ?_
  refine awp_region rfl (.n (fun _ => op_assign (.plain rfl)) (.n (fun _ => op_assign (.plain rfl)) (.n (fun _ => op_assign (.plain rfl)) (.nil _)))) ?_
  refine awp_seq ?_
  refine awp_seq ?_
  refine awp_region rfl (.n (fun _ => op_move (.plain rfl)) (.n (fun _ => op_call1 Try.call33 (.plain rfl) (bids_fc _)) (.n (fun _ => op_assign (.plain rfl)) (.nil _)))) ?_
  refine awp_seq ?_
  refine awp_region rfl (.n (fun _ => op_move (.plain rfl)) (.n (fun _ => op_neq (.plain rfl) (.plain rfl)) (.nil _))) ?_
  refine awp_cond rfl (fun h => ?_) (fun h => ?_)
  · try simp only [decide_eq_true_eq, decide_eq_false_iff_not, Bool.and_eq_true, Bool.or_eq_true, Bool.and_eq_false_iff, Bool.or_eq_false_iff, Bool.not_eq_true', Bool.not_eq_false', Bool.not_eq_true, Bool.not_eq_false, Bool.true_eq_false, Bool.false_eq_true] at h
    simp only [if_neg h]
    refine awp_seq ?_
    refine awp_region rfl (.n (fun _ => op_move (.plain rfl)) (.n (fun _ => op_assign (.plain rfl)) (.n (fun _ => op_assign (.plain rfl)) (.n (fun _ => op_assign (.plain rfl)) (.nil _))))) ?_
    refine awp_ret ?_
    refine retQ.ret ?_
    refine ret3 rfl rfl rfl rfl rfl rfl rfl ?_
    rfl
  · try simp only [decide_eq_true_eq, decide_eq_false_iff_not, Bool.and_eq_true, Bool.or_eq_true, Bool.and_eq_false_iff, Bool.or_eq_false_iff, Bool.not_eq_true', Bool.not_eq_false', Bool.not_eq_true, Bool.not_eq_false, Bool.true_eq_false, Bool.false_eq_true] at h
    simp only [if_pos h]
    have hb0 := h
    have hl := (BidsOk.of h).len
    refine awp_skip ?_
    refine awp_seq ?_
    refine awp_region rfl (.n (fun _ => op_move (.plain rfl)) (.n (fun _ => op_call1 Try.call34 (.plain rfl) (top_fc _ ?_)) (.n (fun _ => op_assign (.plain rfl)) (.nil _)))) ?_
    · omega
    refine awp_seq ?_
    refine awp_seq ?_
    refine awp_region rfl (.n (fun _ => op_move (.plain rfl)) (.n (fun _ => op_len (s := 0) Try.underlying27 (.plain rfl)) (.n (fun _ => op_move (.plain rfl)) (.nil _)))) ?_
    refine awp_block ?_
    refine awp_loop (σ := Nat) (fun (k : Nat) => k ≤ l.length) (fun (k : Nat) => ⟨[(2, .int (topF l : Nat)), (3, .int (secTo l (topF l) k)), (15, .pv (.ints l)), (16, .int (l.length : Nat)), (17, .int (k : Nat))], []⟩) (fun (k : Nat) => l.length - k) 0 ?_ (Ent.kept ⟨rfl, rfl, rfl, rfl, rfl, trivial⟩ trivial) ?_
    · simp
    rintro k hp
    try dsimp only at hp
    refine awp_seq ?_
    refine awp_region rfl (.n (fun _ => op_lss (.plain rfl) (.plain rfl)) (.nil _)) ?_
    refine awp_seq ?_
    refine awp_cond rfl (fun h => ?_) (fun h => ?_)
    · try simp only [decide_eq_true_eq, decide_eq_false_iff_not, Bool.and_eq_true, Bool.or_eq_true, Bool.and_eq_false_iff, Bool.or_eq_false_iff, Bool.not_eq_true', Bool.not_eq_false', Bool.not_eq_true, Bool.not_eq_false, Bool.true_eq_false, Bool.false_eq_true] at h
      refine awp_skip ?_
      refine awp_seq ?_
      refine awp_block ?_
      refine awp_seq ?_
      refine awp_region rfl (.n (fun _ => op_move (.plain rfl)) (.n (fun _ => op_indexAddrN Try.underlying27 Try.sizeOf3 (.plain rfl) (.plain rfl) (fun _ => rfl) ?_) (.n (fun _ => op_load Try.isAgg3 (.plain rfl)) (.n (fun _ => op_assign (.plain rfl)) (.n (fun _ => op_assign (.plain rfl)) (.nil _)))))) ?_
      · omega
      refine awp_seq ?_
      refine awp_region rfl (.n (fun _ => op_move (.plain rfl)) (.n (fun _ => op_move (.plain rfl)) (.n (fun _ => op_neq (.plain rfl) (.plain rfl)) (.nil _)))) ?_
      refine awp_cond rfl (fun h => ?_) (fun h => ?_)
      · try simp only [decide_eq_true_eq, decide_eq_false_iff_not, Bool.and_eq_true, Bool.or_eq_true, Bool.and_eq_false_iff, Bool.or_eq_false_iff, Bool.not_eq_true', Bool.not_eq_false', Bool.not_eq_true, Bool.not_eq_false, Bool.true_eq_false, Bool.false_eq_true] at h
        refine awp_region rfl (.n (fun _ => op_move (.plain rfl)) (.n (fun _ => op_move (.plain rfl)) (.n (fun _ => op_max (.plain rfl) (.plain rfl)) (.n (fun _ => op_assign (.plain rfl)) (.nil _))))) ?_
        refine awp_region rfl (.n (fun _ => op_add (.plain rfl) (.plain rfl) ?_) (.n (fun _ => op_move (.plain rfl)) (.nil _))) ?_
        · unfold InR; omega
        exact ⟨k + 1, by omega, by dsimp only; omega, (Ent.kept ⟨rfl, (congrArg (fun n => some (SV.int n)) (by first | exact secTo_max (by omega) | exact (secTo_no fun c => c.1 (by omega)).symm)), rfl, rfl, rfl, trivial⟩ trivial)⟩
      · try simp only [decide_eq_true_eq, decide_eq_false_iff_not, Bool.and_eq_true, Bool.or_eq_true, Bool.and_eq_false_iff, Bool.or_eq_false_iff, Bool.not_eq_true', Bool.not_eq_false', Bool.not_eq_true, Bool.not_eq_false, Bool.true_eq_false, Bool.false_eq_true] at h
        refine awp_skip ?_
        refine awp_region rfl (.n (fun _ => op_add (.plain rfl) (.plain rfl) ?_) (.n (fun _ => op_move (.plain rfl)) (.nil _))) ?_
        · unfold InR; omega
        exact ⟨k + 1, by omega, by dsimp only; omega, (Ent.kept ⟨rfl, (congrArg (fun n => some (SV.int n)) (by first | exact secTo_max (by omega) | exact (secTo_no fun c => c.1 (by omega)).symm)), rfl, rfl, rfl, trivial⟩ trivial)⟩
    · try simp only [decide_eq_true_eq, decide_eq_false_iff_not, Bool.and_eq_true, Bool.or_eq_true, Bool.and_eq_false_iff, Bool.or_eq_false_iff, Bool.not_eq_true', Bool.not_eq_false', Bool.not_eq_true, Bool.not_eq_false, Bool.true_eq_false, Bool.false_eq_true] at h
      refine awp_exit ?_
      refine awp_seq ?_
      refine awp_region rfl (.n (fun _ => op_move (.plain rfl)) (.n (fun _ => op_move (.plain rfl)) (.n (fun _ => op_assign (.plain rfl)) (.n (fun _ => op_assign (.plain rfl)) (.n (fun _ => op_assign (.plain rfl)) (.nil _)))))) ?_
      refine awp_ret ?_
      refine retQ.ret ?_
      refine ret3 rfl rfl rfl rfl rfl rfl rfl ?_
      rw [hb0]
      obtain rfl : k = l.length := by omega
      rfl

theorem Clock_fc (l : List Int) : FC Try.prog 20 [.ints l] (.tup [.i (if bidsE l = 0 then (topF l : Nat) else 0), .i (if bidsE l = 0 then secF l else 0), .i (bidsE l)]) := by
  refine FC.intro Try.func20 rfl (Nat.le_of_ble_eq_true rfl) fun hfit => ?_
  obtain ⟨fitl0, fitr0⟩ := (hfit _ (.head _)).ints
  refine awp_seq ?_
  refine awp_region rfl (.n (fun _ => op_assign (.plain rfl)) (.n (fun _ => op_assign (.plain rfl)) (.n (fun _ => op_assign (.plain rfl)) (.nil _)))) ?_
  refine awp_seq ?_
  refine awp_seq ?_
  refine awp_region rfl (.n (fun _ => op_move (.plain rfl)) (.n (fun _ => op_call1 Try.call33 (.plain rfl) (bids_fc _)) (.n (fun _ => op_assign (.plain rfl)) (.nil _)))) ?_
  refine awp_seq ?_
  refine awp_region rfl (.n (fun _ => op_move (.plain rfl)) (.n (fun _ => op_neq (.plain rfl) (.plain rfl)) (.nil _))) ?_
  refine awp_cond rfl (fun h => ?_) (fun h => ?_)
  · try simp only [decide_eq_true_eq, decide_eq_false_iff_not, Bool.and_eq_true, Bool.or_eq_true, Bool.and_eq_false_iff, Bool.or_eq_false_iff, Bool.not_eq_true', Bool.not_eq_false', Bool.not_eq_true, Bool.not_eq_false, Bool.true_eq_false, Bool.false_eq_true] at h
    simp only [if_neg h]
    refine awp_seq ?_
    refine awp_region rfl (.n (fun _ => op_move (.plain rfl)) (.n (fun _ => op_assign (.plain rfl)) (.n (fun _ => op_assign (.plain rfl)) (.n (fun _ => op_assign (.plain rfl)) (.nil _))))) ?_
    refine awp_ret ?_
    refine retQ.ret ?_
    refine ret3 rfl rfl rfl rfl rfl rfl rfl ?_
    rfl
  · try simp only [decide_eq_true_eq, decide_eq_false_iff_not, Bool.and_eq_true, Bool.or_eq_true, Bool.and_eq_false_iff, Bool.or_eq_false_iff, Bool.not_eq_true', Bool.not_eq_false', Bool.not_eq_true, Bool.not_eq_false, Bool.true_eq_false, Bool.false_eq_true] at h
    simp only [if_pos h]
    have hb0 := h
    have hok := BidsOk.of h
    have hl := hok.len
    refine awp_skip ?_
    refine awp_seq ?_
    refine awp_region rfl (.n (fun _ => op_move (.plain rfl)) (.n (fun _ => op_len (s := 0) Try.underlying27 (.plain rfl)) (.e (op_make (α := Int) (d := 0) (f := (fun n => [.int .i64 n])) 18 0 ety27 (.plain rfl) (.plain rfl) (fun _ => rfl) rfl rfl ?_) rfl (.n (fun _ => op_assign (.plain rfl)) (.nil _))))) ?_
    · omega
    refine awp_seq ?_
    refine awp_seq ?_
    refine awp_region rfl (.n (fun _ => op_move (.plain rfl)) (.r (op_lenO Try.underlying27 (.plain rfl) rfl) (.n (fun _ => op_move (.plain rfl)) (.nil _)))) ?_
    refine awp_block ?_
    refine awp_ent (Ent.ren 18 1006 rfl rfl rfl) ?_
    refine awp_loop (σ := Nat) (fun (i : Nat) => i ≤ l.length) (fun (i : Nat) => ⟨[(0, .pv (.ints l)), (3, .int 0), (6, .own 1006), (20, .int (l.length : Nat)), (21, .int (i : Nat))], [(1006, .arr 3 1 Int 0 (fun n => [.int .i64 n]) (mapr l.length fun j => if j < i then ((j : Nat) : Int) else 0))]⟩) (fun (i : Nat) => l.length - i) 0 ?_ (Ent.kept ⟨rfl, rfl, rfl, (congrArg (fun n => some (SV.int n)) (by simp)), rfl, trivial⟩ ⟨(congrArg (fun l => some (Blk.arr 3 1 Int 0 (fun n => [.int .i64 n]) l)) (by rw [show ((l.length : Nat) : Int).toNat = l.length from rfl, replicate_mapr]; exact mapr_same fun j _ => by simp)), trivial⟩) ?_
    · simp
    rintro i hp
    try dsimp only at hp
    have hml : (mapr l.length fun j => if j < i then ((j : Nat) : Int) else 0).length = l.length := mapr_length _ _
    refine awp_seq ?_
    refine awp_region rfl (.n (fun _ => op_lss (.plain rfl) (.plain rfl)) (.nil _)) ?_
    refine awp_seq ?_
    refine awp_cond rfl (fun h => ?_) (fun h => ?_)
    · try simp only [decide_eq_true_eq, decide_eq_false_iff_not, Bool.and_eq_true, Bool.or_eq_true, Bool.and_eq_false_iff, Bool.or_eq_false_iff, Bool.not_eq_true', Bool.not_eq_false', Bool.not_eq_true, Bool.not_eq_false, Bool.true_eq_false, Bool.false_eq_true] at h
      refine awp_skip ?_
      refine awp_seq ?_
      refine awp_block ?_
      refine awp_seq ?_
      refine awp_region rfl (.n (fun _ => op_move (.plain rfl)) (.n (fun _ => op_assign (.plain rfl)) (.nil _))) ?_
      refine awp_region rfl (.n (fun _ => op_move (.plain rfl)) (.n (fun _ => op_move (.plain rfl)) (.n (fun _ => op_move (.plain rfl)) (.r (op_indexAddrON Try.underlying27 Try.sizeOf3 (.plain rfl) rfl (.plain rfl) ?_) (.e (op_storeE _ Try.sizeOf3 (.plain rfl) (.plain rfl) rfl (fun _ => rfl) ?_ (by decide) rfl rfl) rfl (.nil _)))))) ?_
      · first | omega | (simp; omega)
      · first | omega | (simp; omega)
      refine awp_region rfl (.n (fun _ => op_add (.plain rfl) (.plain rfl) ?_) (.n (fun _ => op_move (.plain rfl)) (.nil _))) ?_
      · unfold InR; omega
      exact ⟨i + 1, by omega, by dsimp only; omega, (Ent.kept ⟨rfl, rfl, rfl, rfl, rfl, trivial⟩ ⟨(congrArg (fun l => some (Blk.arr 3 1 Int 0 (fun n => [.int .i64 n]) l)) (mapr_set (fun _ => if_pos (by omega)) fun j _ hj => by by_cases c : j < i; rw [if_pos c, if_pos (by omega)]; rw [if_neg c, if_neg (by omega)])), trivial⟩)⟩
    · try simp only [decide_eq_true_eq, decide_eq_false_iff_not, Bool.and_eq_true, Bool.or_eq_true, Bool.and_eq_false_iff, Bool.or_eq_false_iff, Bool.not_eq_true', Bool.not_eq_false', Bool.not_eq_true, Bool.not_eq_false, Bool.true_eq_false, Bool.false_eq_true] at h
      obtain rfl : i = l.length := by omega
      have hfill : (mapr l.length fun j => if j < l.length then ((j : Nat) : Int) else 0) = stF l 0 := by
        rw [stF_zero hok]
        exact mapr_same fun j hj => if_pos hj
      rw [hfill]
      refine awp_exit ?_
      refine awp_block ?_
      refine awp_loop (σ := Nat) (fun (p : Nat) => p ≤ 1000 ∧ (p = 0 ∨ 2 ≤ (stF l p).length) ∧ 1 ≤ (stF l p).length) (fun (p : Nat) => ⟨[(0, .pv (.ints l)), (3, .int (p : Nat)), (6, .own 1006)], [(1006, .arr 3 1 Int 0 (fun n => [.int .i64 n]) (stF l p))]⟩) (fun (p : Nat) => 1001 - p) 0 ?_ (Ent.kept ⟨rfl, rfl, rfl, trivial⟩ ⟨rfl, trivial⟩) ?_
      · exact ⟨Nat.zero_le _, .inl rfl, by rw [stF_zero hok, upF_length]; exact hl.1⟩
      rintro p hp
      try dsimp only at hp
      obtain ⟨hp0, hp1, hp2⟩ := hp
      refine awp_block ?_
      refine awp_seq ?_
      refine awp_region rfl (.n (fun _ => op_assign (.plain rfl)) (.nil _)) ?_
      refine awp_seq ?_
      refine awp_seq ?_
      refine awp_region rfl (.n (fun _ => op_move (.plain rfl)) (.r (op_lenO Try.underlying27 (.plain rfl) rfl) (.n (fun _ => op_move (.plain rfl)) (.nil _)))) ?_
      refine awp_block ?_
      refine awp_ent (Ent.begin 8 1008 3 1 Int 0 (fun n => [.int .i64 n]) rfl rfl rfl) ?_
      refine awp_loop (σ := Nat) (fun (k : Nat) => k ≤ (stF l p).length) (fun (k : Nat) => ⟨[(0, .pv (.ints l)), (3, .int (p : Nat)), (6, .own 1006), (8, .own 1008), (29, .own 1006), (30, .int ((stF l p).length : Nat)), (31, .int (k : Nat))], [(1006, .arr 3 1 Int 0 (fun n => [.int .i64 n]) (stF l p)), (1008, .arr 3 1 Int 0 (fun n => [.int .i64 n]) (stayF l p k))]⟩) (fun (k : Nat) => (stF l p).length - k) 0 ?_ (Ent.kept ⟨rfl, rfl, rfl, rfl, rfl, rfl, rfl, trivial⟩ ⟨rfl, rfl, trivial⟩) ?_
      · simp
      rintro k hp
      try dsimp only at hp
      refine awp_seq ?_
      refine awp_region rfl (.n (fun _ => op_lss (.plain rfl) (.plain rfl)) (.nil _)) ?_
      refine awp_seq ?_
      refine awp_cond rfl (fun h => ?_) (fun h => ?_)
      · try simp only [decide_eq_true_eq, decide_eq_false_iff_not, Bool.and_eq_true, Bool.or_eq_true, Bool.and_eq_false_iff, Bool.or_eq_false_iff, Bool.not_eq_true', Bool.not_eq_false', Bool.not_eq_true, Bool.not_eq_false, Bool.true_eq_false, Bool.false_eq_true] at h
        obtain ⟨i, hi, hpi, he⟩ := stF_getD (l := l) (p := p) (show k < (stF l p).length by omega)
        have hc1 := stF_le l p
        have hc2 := stayF_le l p k
        refine awp_skip ?_
        refine awp_seq ?_
        refine awp_block ?_
        refine awp_seq ?_
        refine awp_region rfl (.r (op_indexAddrON Try.underlying27 Try.sizeOf3 (.plain rfl) rfl (.plain rfl) ?_) (.r (op_loadE Try.isAgg3 (.plain rfl) rfl (fun _ => rfl) ?_ rfl) (.n (fun _ => op_assign (.plain rfl)) (.nil _)))) ?_
        · first | omega | (simp; omega)
        · first | omega | (simp; omega)
        refine awp_seq ?_
        refine awp_region rfl (.n (fun _ => op_move (.plain rfl)) (.n (fun _ => op_move (.plain rfl)) (.n (fun _ => op_indexAddr Try.underlying27 Try.sizeOf3 (.plain rfl) (.plain rfl) (fun _ => rfl) ?_) (.n (fun _ => op_load Try.isAgg3 (.plain rfl)) (.n (fun _ => op_move (.plain rfl)) (.n (fun _ => op_gtr (.plain rfl) (.plain rfl)) (.nil _))))))) ?_
        · omega
        refine awp_cond rfl (fun h => ?_) (fun h => ?_)
        · try simp only [decide_eq_true_eq, decide_eq_false_iff_not, Bool.and_eq_true, Bool.or_eq_true, Bool.and_eq_false_iff, Bool.or_eq_false_iff, Bool.not_eq_true', Bool.not_eq_false', Bool.not_eq_true, Bool.not_eq_false, Bool.true_eq_false, Bool.false_eq_true] at h
          refine awp_region rfl (.n (fun _ => op_move (.plain rfl)) (.n (fun _ => op_move (.plain rfl)) (.n (fun _ => op_slit (pp := [(0, _)]) (α := Int) (d := 0) (f := (fun n => [.int .i64 n])) [_] ety27 rfl ⟨rfl, (.plain rfl), (by simp), trivial⟩ rfl (by decide) rfl) (.e (op_append (id' := 44) (α := Int) (d := 0) (f := (fun n => [.int .i64 n])) ety27 Try.underlying27 (fun _ => rfl) (fun _ => rfl) (.plain rfl) rfl (.plain rfl) rfl ?_) rfl (.n (fun _ => op_assign (.plain rfl)) (.nil _)))))) ?_
          · first | omega | (simp; omega)
          refine awp_region rfl (.n (fun _ => op_add (.plain rfl) (.plain rfl) ?_) (.n (fun _ => op_move (.plain rfl)) (.nil _))) ?_
          · unfold InR; omega
          exact ⟨k + 1, by omega, by dsimp only; omega, (Ent.round 44 1008 ⟨rfl, rfl, rfl, rfl, rfl, rfl, rfl, trivial⟩ ⟨rfl, (congrArg (fun l => some (Blk.arr 3 1 Int 0 (fun n => [.int .i64 n]) l)) (by first | (rw [stayF_succ (by omega), if_pos h]; done) | (rw [stayF_succ (by omega), if_neg h, List.append_nil]))), trivial⟩ rfl rfl rfl ⟨rfl, rfl, rfl, rfl, rfl, rfl, rfl, trivial⟩ ⟨rfl, rfl, trivial⟩)⟩
        · try simp only [decide_eq_true_eq, decide_eq_false_iff_not, Bool.and_eq_true, Bool.or_eq_true, Bool.and_eq_false_iff, Bool.or_eq_false_iff, Bool.not_eq_true', Bool.not_eq_false', Bool.not_eq_true, Bool.not_eq_false, Bool.true_eq_false, Bool.false_eq_true] at h
          refine awp_skip ?_
          refine awp_region rfl (.n (fun _ => op_add (.plain rfl) (.plain rfl) ?_) (.n (fun _ => op_move (.plain rfl)) (.nil _))) ?_
          · unfold InR; omega
          exact ⟨k + 1, by omega, by dsimp only; omega, (Ent.kept ⟨rfl, rfl, rfl, rfl, rfl, rfl, rfl, trivial⟩ ⟨rfl, (congrArg (fun l => some (Blk.arr 3 1 Int 0 (fun n => [.int .i64 n]) l)) (by first | (rw [stayF_succ (by omega), if_pos h]; done) | (rw [stayF_succ (by omega), if_neg h, List.append_nil]))), trivial⟩)⟩
      · try simp only [decide_eq_true_eq, decide_eq_false_iff_not, Bool.and_eq_true, Bool.or_eq_true, Bool.and_eq_false_iff, Bool.or_eq_false_iff, Bool.not_eq_true', Bool.not_eq_false', Bool.not_eq_true, Bool.not_eq_false, Bool.true_eq_false, Bool.false_eq_true] at h
        obtain rfl : k = (stF l p).length := by omega
        rw [stayF_all]
        refine awp_exit ?_
        refine awp_seq ?_
        refine awp_seq ?_
        refine awp_region rfl (.n (fun _ => op_move (.plain rfl)) (.r (op_lenO Try.underlying27 (.plain rfl) rfl) (.nil _))) ?_
        refine awp_block ?_
        refine awp_seq ?_
        refine awp_region rfl (.n (fun _ => op_eql (.plain rfl) (.plain rfl)) (.n (fun _ => op_assign (.plain rfl)) (.nil _))) ?_
        refine awp_cond rfl (fun h => ?_) (fun h => ?_)
        · try simp only [decide_eq_true_eq, decide_eq_false_iff_not, Bool.and_eq_true, Bool.or_eq_true, Bool.and_eq_false_iff, Bool.or_eq_false_iff, Bool.not_eq_true', Bool.not_eq_false', Bool.not_eq_true, Bool.not_eq_false, Bool.true_eq_false, Bool.false_eq_true] at h
          refine awp_seq ?_
          refine awp_region rfl (.n (fun _ => op_move (.plain rfl)) (.r (op_indexAddrO Try.underlying27 Try.sizeOf3 (.plain rfl) rfl (.plain rfl) ?_) (.r (op_loadE Try.isAgg3 (.plain rfl) rfl (fun _ => rfl) ?_ rfl) (.n (fun _ => op_move (.plain rfl)) (.n (fun _ => op_assign (.plain rfl)) (.n (fun _ => op_assign (.plain rfl)) (.n (fun _ => op_assign (.plain rfl)) (.nil _)))))))) ?_
          · first | omega | (simp; omega)
          · first | omega | (simp; omega)
          refine awp_ret ?_
          refine retQ.ret ?_
          refine ret3 rfl rfl rfl rfl rfl rfl rfl ?_
          obtain ⟨c1, c2⟩ := clock_top hok hp1 hp2 (by omega)
          rw [hb0, ← c2, ← c1]
          rfl
        · try simp only [decide_eq_true_eq, decide_eq_false_iff_not, Bool.and_eq_true, Bool.or_eq_true, Bool.and_eq_false_iff, Bool.or_eq_false_iff, Bool.not_eq_true', Bool.not_eq_false', Bool.not_eq_true, Bool.not_eq_false, Bool.true_eq_false, Bool.false_eq_true] at h
          refine awp_seq ?_
          refine awp_region rfl (.n (fun _ => op_eql (.plain rfl) (.plain rfl)) (.n (fun _ => op_assign (.plain rfl)) (.nil _))) ?_
          refine awp_cond rfl (fun h => ?_) (fun h => ?_)
          · try simp only [decide_eq_true_eq, decide_eq_false_iff_not, Bool.and_eq_true, Bool.or_eq_true, Bool.and_eq_false_iff, Bool.or_eq_false_iff, Bool.not_eq_true', Bool.not_eq_false', Bool.not_eq_true, Bool.not_eq_false, Bool.true_eq_false, Bool.false_eq_true] at h
            refine awp_seq ?_
            refine awp_region rfl (.n (fun _ => op_move (.plain rfl)) (.r (op_indexAddrO Try.underlying27 Try.sizeOf3 (.plain rfl) rfl (.plain rfl) ?_) (.r (op_loadE Try.isAgg3 (.plain rfl) rfl (fun _ => rfl) ?_ rfl) (.n (fun _ => op_move (.plain rfl)) (.n (fun _ => op_assign (.plain rfl)) (.n (fun _ => op_assign (.plain rfl)) (.n (fun _ => op_assign (.plain rfl)) (.nil _)))))))) ?_
            · first | omega | (simp; omega)
            · first | omega | (simp; omega)
            refine awp_ret ?_
            refine retQ.ret ?_
            refine ret3 rfl rfl rfl rfl rfl rfl rfl ?_
            obtain ⟨c1, c2⟩ := clock_one hok hp1 (by omega)
            rw [hb0, ← c2, ← c1]
            rfl
          · try simp only [decide_eq_true_eq, decide_eq_false_iff_not, Bool.and_eq_true, Bool.or_eq_true, Bool.and_eq_false_iff, Bool.or_eq_false_iff, Bool.not_eq_true', Bool.not_eq_false', Bool.not_eq_true, Bool.not_eq_false, Bool.true_eq_false, Bool.false_eq_true] at h
            obtain ⟨i, hi, hpi, he⟩ := stF_getD (l := l) (p := p + 1) (show 0 < (stF l (p + 1)).length by omega)
            have hv := hok.val i hi
            refine awp_skip ?_
            refine awp_seq ?_
            refine awp_region rfl (.n (fun _ => op_move (.plain rfl)) (.n (fun _ => op_assign (.plain rfl)) (.nil _))) ?_
            refine awp_region rfl (.n (fun _ => op_move (.plain rfl)) (.n (fun _ => op_add (.plain rfl) (.plain rfl) ?_) (.n (fun _ => op_assign (.plain rfl)) (.nil _)))) ?_
            · unfold InR; omega
            exact ⟨p + 1, by dsimp only; omega, by dsimp only; omega, (Ent.round 1008 1006 ⟨rfl, rfl, rfl, trivial⟩ ⟨rfl, trivial⟩ rfl rfl rfl ⟨rfl, rfl, rfl, trivial⟩ ⟨rfl, trivial⟩)⟩

theorem ClockR_fc (l : List Int) (hok : BidsOk l) : FC Try.prog 22 [.ints l] (.tup [.i (topF l : Nat), .i (secF l)]) := by
  refine FC.intro Try.func22 rfl (Nat.le_of_ble_eq_true rfl) fun hfit => ?_
  obtain ⟨fitl0, fitr0⟩ := (hfit _ (.head _)).ints
  have hl := hok.len
  refine awp_seq ?_
  refine awp_region rfl (.n (fun _ => op_assign (.plain rfl)) (.n (fun _ => op_assign (.plain rfl)) (.nil _))) ?_
  refine awp_seq ?_
  refine awp_region rfl (.n (fun _ => op_move (.plain rfl)) (.n (fun _ => op_len (s := 0) Try.underlying27 (.plain rfl)) (.n (fun _ => op_call1 Try.call36 (.plain rfl) (upTo_fc _ ?_)) (.n (fun _ => op_assign (.plain rfl)) (.nil _))))) ?_
  · omega
  refine awp_seq ?_
  refine awp_region rfl (.n (fun _ => op_assign (.plain rfl)) (.nil _)) ?_
  refine awp_block ?_
  refine awp_loop (σ := Nat) (fun (p : Nat) => p ≤ 1000 ∧ (p = 0 ∨ 2 ≤ (stF l p).length) ∧ 1 ≤ (stF l p).length) (fun (p : Nat) => ⟨[(0, .pv (.ints l)), (4, .pv (.ints (stF l p))), (5, .int (p : Nat))], []⟩) (fun (p : Nat) => 1001 - p) 0 ?_ (Ent.kept ⟨rfl, (congrArg (fun l => some (SV.pv (.ints l))) (stF_zero hok).symm), rfl, trivial⟩ trivial) ?_
  · exact ⟨Nat.zero_le _, .inl rfl, by rw [stF_zero hok, upF_length]; exact hl.1⟩
  rintro p hp
  try dsimp only at hp
  obtain ⟨hp0, hp1, hp2⟩ := hp
  refine awp_seq ?_
  refine awp_block ?_
  refine awp_seq ?_
  refine awp_region rfl (.n (fun _ => op_assign (.plain rfl)) (.nil _)) ?_
  refine awp_seq ?_
  refine awp_seq ?_
  refine awp_region rfl (.n (fun _ => op_assign (.plain rfl)) (.nil _)) ?_
  refine awp_block ?_
  refine awp_ent (Ent.begin 6 1006 3 1 Int 0 (fun n => [.int .i64 n]) rfl rfl rfl) ?_
  refine awp_loop (σ := Nat) (fun (k : Nat) => k ≤ (stF l p).length) (fun (k : Nat) => ⟨[(0, .pv (.ints l)), (4, .pv (.ints (stF l p))), (5, .int (p : Nat)), (6, .own 1006), (7, .int (k : Nat))], [(1006, .arr 3 1 Int 0 (fun n => [.int .i64 n]) (stayF l p k))]⟩) (fun (k : Nat) => (stF l p).length - k) 0 ?_ (Ent.kept ⟨rfl, rfl, rfl, rfl, rfl, trivial⟩ ⟨rfl, trivial⟩) ?_
  · simp
  rintro k hp
  try dsimp only at hp
  refine awp_seq ?_
  refine awp_seq ?_
  refine awp_region rfl (.n (fun _ => op_move (.plain rfl)) (.n (fun _ => op_move (.plain rfl)) (.n (fun _ => op_len (s := 0) Try.underlying27 (.plain rfl)) (.n (fun _ => op_lss (.plain rfl) (.plain rfl)) (.nil _))))) ?_
  refine awp_cond rfl (fun h => ?_) (fun h => ?_)
  · try simp only [decide_eq_true_eq, decide_eq_false_iff_not, Bool.and_eq_true, Bool.or_eq_true, Bool.and_eq_false_iff, Bool.or_eq_false_iff, Bool.not_eq_true', Bool.not_eq_false', Bool.not_eq_true, Bool.not_eq_false, Bool.true_eq_false, Bool.false_eq_true] at h
    obtain ⟨i, hi, hpi, he⟩ := stF_getD (l := l) (p := p) (show k < (stF l p).length by omega)
    have hc1 := stF_le l p
    have hc2 := stayF_le l p k
    refine awp_skip ?_
    refine awp_seq ?_
    refine awp_block ?_
    refine awp_seq ?_
    refine awp_region rfl (.n (fun _ => op_move (.plain rfl)) (.n (fun _ => op_move (.plain rfl)) (.n (fun _ => op_move (.plain rfl)) (.n (fun _ => op_indexAddrN Try.underlying27 Try.sizeOf3 (.plain rfl) (.plain rfl) (fun _ => rfl) ?_) (.n (fun _ => op_load Try.isAgg3 (.plain rfl)) (.n (fun _ => op_indexAddr Try.underlying27 Try.sizeOf3 (.plain rfl) (.plain rfl) (fun _ => rfl) ?_) (.n (fun _ => op_load Try.isAgg3 (.plain rfl)) (.n (fun _ => op_move (.plain rfl)) (.n (fun _ => op_gtr (.plain rfl) (.plain rfl)) (.nil _)))))))))) ?_
    · omega
    · omega
    refine awp_cond rfl (fun h => ?_) (fun h => ?_)
    · try simp only [decide_eq_true_eq, decide_eq_false_iff_not, Bool.and_eq_true, Bool.or_eq_true, Bool.and_eq_false_iff, Bool.or_eq_false_iff, Bool.not_eq_true', Bool.not_eq_false', Bool.not_eq_true, Bool.not_eq_false, Bool.true_eq_false, Bool.false_eq_true] at h
      refine awp_region rfl (.n (fun _ => op_move (.plain rfl)) (.n (fun _ => op_move (.plain rfl)) (.n (fun _ => op_move (.plain rfl)) (.n (fun _ => op_indexAddrN Try.underlying27 Try.sizeOf3 (.plain rfl) (.plain rfl) (fun _ => rfl) ?_) (.n (fun _ => op_load Try.isAgg3 (.plain rfl)) (.n (fun _ => op_slit (pp := [(0, _)]) (α := Int) (d := 0) (f := (fun n => [.int .i64 n])) [_] ety27 rfl ⟨rfl, (.plain rfl), (by simp), trivial⟩ rfl (by decide) rfl) (.e (op_append (id' := 34) (α := Int) (d := 0) (f := (fun n => [.int .i64 n])) ety27 Try.underlying27 (fun _ => rfl) (fun _ => rfl) (.plain rfl) rfl (.plain rfl) rfl ?_) rfl (.n (fun _ => op_assign (.plain rfl)) (.nil _))))))))) ?_
      · omega
      · first | omega | (simp; omega)
      refine awp_region rfl (.n (fun _ => op_move (.plain rfl)) (.n (fun _ => op_add (.plain rfl) (.plain rfl) ?_) (.n (fun _ => op_assign (.plain rfl)) (.nil _)))) ?_
      · unfold InR; omega
      exact ⟨k + 1, by omega, by dsimp only; omega, (Ent.round 34 1006 ⟨rfl, rfl, rfl, rfl, rfl, trivial⟩ ⟨(congrArg (fun l => some (Blk.arr 3 1 Int 0 (fun n => [.int .i64 n]) l)) (by first | (rw [stayF_succ (by omega), if_pos h]; done) | (rw [stayF_succ (by omega), if_neg h, List.append_nil]))), trivial⟩ rfl rfl rfl ⟨rfl, rfl, rfl, rfl, rfl, trivial⟩ ⟨rfl, trivial⟩)⟩
    · try simp only [decide_eq_true_eq, decide_eq_false_iff_not, Bool.and_eq_true, Bool.or_eq_true, Bool.and_eq_false_iff, Bool.or_eq_false_iff, Bool.not_eq_true', Bool.not_eq_false', Bool.not_eq_true, Bool.not_eq_false, Bool.true_eq_false, Bool.false_eq_true] at h
      refine awp_skip ?_
      refine awp_region rfl (.n (fun _ => op_move (.plain rfl)) (.n (fun _ => op_add (.plain rfl) (.plain rfl) ?_) (.n (fun _ => op_assign (.plain rfl)) (.nil _)))) ?_
      · unfold InR; omega
      exact ⟨k + 1, by omega, by dsimp only; omega, (Ent.kept ⟨rfl, rfl, rfl, rfl, rfl, trivial⟩ ⟨(congrArg (fun l => some (Blk.arr 3 1 Int 0 (fun n => [.int .i64 n]) l)) (by first | (rw [stayF_succ (by omega), if_pos h]; done) | (rw [stayF_succ (by omega), if_neg h, List.append_nil]))), trivial⟩)⟩
  · try simp only [decide_eq_true_eq, decide_eq_false_iff_not, Bool.and_eq_true, Bool.or_eq_true, Bool.and_eq_false_iff, Bool.or_eq_false_iff, Bool.not_eq_true', Bool.not_eq_false', Bool.not_eq_true, Bool.not_eq_false, Bool.true_eq_false, Bool.false_eq_true] at h
    obtain rfl : k = (stF l p).length := by omega
    rw [stayF_all]
    refine awp_exit ?_
    refine awp_seq ?_
    refine awp_seq ?_
    refine awp_region rfl (.n (fun _ => op_move (.plain rfl)) (.r (op_lenO Try.underlying27 (.plain rfl) rfl) (.n (fun _ => op_eql (.plain rfl) (.plain rfl)) (.nil _)))) ?_
    refine awp_cond rfl (fun h => ?_) (fun h => ?_)
    · try simp only [decide_eq_true_eq, decide_eq_false_iff_not, Bool.and_eq_true, Bool.or_eq_true, Bool.and_eq_false_iff, Bool.or_eq_false_iff, Bool.not_eq_true', Bool.not_eq_false', Bool.not_eq_true, Bool.not_eq_false, Bool.true_eq_false, Bool.false_eq_true] at h
      refine awp_seq ?_
      refine awp_region rfl (.n (fun _ => op_move (.plain rfl)) (.r (op_indexAddrO Try.underlying27 Try.sizeOf3 (.plain rfl) rfl (.plain rfl) ?_) (.r (op_loadE Try.isAgg3 (.plain rfl) rfl (fun _ => rfl) ?_ rfl) (.n (fun _ => op_move (.plain rfl)) (.n (fun _ => op_assign (.plain rfl)) (.n (fun _ => op_assign (.plain rfl)) (.nil _))))))) ?_
      · first | omega | (simp; omega)
      · first | omega | (simp; omega)
      refine awp_ret ?_
      refine retQ.ret ?_
      refine ret2 rfl rfl rfl rfl rfl ?_
      obtain ⟨c1, c2⟩ := clock_one hok hp1 (by omega)
      rw [← c2, ← c1]
      rfl
    · try simp only [decide_eq_true_eq, decide_eq_false_iff_not, Bool.and_eq_true, Bool.or_eq_true, Bool.and_eq_false_iff, Bool.or_eq_false_iff, Bool.not_eq_true', Bool.not_eq_false', Bool.not_eq_true, Bool.not_eq_false, Bool.true_eq_false, Bool.false_eq_true] at h
      refine awp_skip ?_
      refine awp_seq ?_
      refine awp_seq ?_
      refine awp_region rfl (.n (fun _ => op_move (.plain rfl)) (.r (op_lenO Try.underlying27 (.plain rfl) rfl) (.n (fun _ => op_eql (.plain rfl) (.plain rfl)) (.nil _)))) ?_
      refine awp_cond rfl (fun h => ?_) (fun h => ?_)
      · try simp only [decide_eq_true_eq, decide_eq_false_iff_not, Bool.and_eq_true, Bool.or_eq_true, Bool.and_eq_false_iff, Bool.or_eq_false_iff, Bool.not_eq_true', Bool.not_eq_false', Bool.not_eq_true, Bool.not_eq_false, Bool.true_eq_false, Bool.false_eq_true] at h
        refine awp_seq ?_
        refine awp_region rfl (.n (fun _ => op_move (.plain rfl)) (.n (fun _ => op_indexAddr Try.underlying27 Try.sizeOf3 (.plain rfl) (.plain rfl) (fun _ => rfl) ?_) (.n (fun _ => op_load Try.isAgg3 (.plain rfl)) (.n (fun _ => op_move (.plain rfl)) (.n (fun _ => op_assign (.plain rfl)) (.n (fun _ => op_assign (.plain rfl)) (.nil _))))))) ?_
        · omega
        refine awp_ret ?_
        refine retQ.ret ?_
        refine ret2 rfl rfl rfl rfl rfl ?_
        obtain ⟨c1, c2⟩ := clock_top hok hp1 hp2 (by omega)
        rw [← c2, ← c1]
        rfl
      · try simp only [decide_eq_true_eq, decide_eq_false_iff_not, Bool.and_eq_true, Bool.or_eq_true, Bool.and_eq_false_iff, Bool.or_eq_false_iff, Bool.not_eq_true', Bool.not_eq_false', Bool.not_eq_true, Bool.not_eq_false, Bool.true_eq_false, Bool.false_eq_true] at h
        obtain ⟨i, hi, hpi, he⟩ := stF_getD (l := l) (p := p + 1) (show 0 < (stF l (p + 1)).length by omega)
        have hv := hok.val i hi
        refine awp_skip ?_
        refine awp_ent (Ent.give 6 rfl rfl) ?_
        refine awp_region rfl (.n (fun _ => op_move (.plain rfl)) (.n (fun _ => op_assign (.plain rfl)) (.nil _))) ?_
        refine awp_region rfl (.n (fun _ => op_move (.plain rfl)) (.n (fun _ => op_add (.plain rfl) (.plain rfl) ?_) (.n (fun _ => op_assign (.plain rfl)) (.nil _)))) ?_
        · unfold InR; omega
        exact ⟨p + 1, by dsimp only; omega, by dsimp only; omega, (Ent.kept ⟨rfl, rfl, rfl, trivial⟩ trivial)⟩

theorem Winner_fc (l : List Int) (h1 : 1 ≤ l.length) : FC Try.prog 21 [.ints l] (.tup [.i (topF l : Nat), .i (l.getD (topF l) 0), .i (secF l)]) := by
  refine FC.intro Try.func21 rfl (Nat.le_of_ble_eq_true rfl) fun hfit => ?_
  obtain ⟨fitl0, fitr0⟩ := (hfit _ (.head _)).ints
  refine awp_seq ?_
  refine awp_region rfl (.n (fun _ => op_assign (.plain rfl)) (.n (fun _ => op_assign (.plain rfl)) (.n (fun _ => op_assign (.plain rfl)) (.nil _)))) ?_
  refine awp_seq ?_
  refine awp_region rfl (.n (fun _ => op_assign (.plain rfl)) (.nil _)) ?_
  refine awp_seq ?_
  refine awp_seq ?_
  refine awp_region rfl (.n (fun _ => op_assign (.plain rfl)) (.nil _)) ?_
  refine awp_block ?_
  refine awp_loop (σ := Nat) (fun (i : Nat) => 1 ≤ i ∧ i ≤ l.length) (fun (i : Nat) => ⟨[(0, .pv (.ints l)), (5, .int (topTo l i : Nat)), (6, .int (i : Nat))], []⟩) (fun (i : Nat) => l.length - i) 1 ?_ (Ent.kept ⟨rfl, (congrArg (fun n => some (SV.int n)) (by rw [topTo_one]; rfl)), rfl, trivial⟩ trivial) ?_
  · exact ⟨Nat.le_refl _, by omega⟩
  rintro i hp
  try dsimp only at hp
  have hts := (topTo_spec (l := l) hp.1).1
  refine awp_seq ?_
  refine awp_seq ?_
  refine awp_region rfl (.n (fun _ => op_move (.plain rfl)) (.n (fun _ => op_move (.plain rfl)) (.n (fun _ => op_len (s := 0) Try.underlying27 (.plain rfl)) (.n (fun _ => op_lss (.plain rfl) (.plain rfl)) (.nil _))))) ?_
  refine awp_cond rfl (fun h => ?_) (fun h => ?_)
  · try simp only [decide_eq_true_eq, decide_eq_false_iff_not, Bool.and_eq_true, Bool.or_eq_true, Bool.and_eq_false_iff, Bool.or_eq_false_iff, Bool.not_eq_true', Bool.not_eq_false', Bool.not_eq_true, Bool.not_eq_false, Bool.true_eq_false, Bool.false_eq_true] at h
    refine awp_skip ?_
    refine awp_seq ?_
    refine awp_block ?_
    refine awp_seq ?_
    refine awp_region_draw mixed rfl (.n (fun _ => op_move (.plain rfl)) (.n (fun _ => op_move (.plain rfl)) (.n (fun _ => op_indexAddrN Try.underlying27 Try.sizeOf3 (.plain rfl) (.plain rfl) (fun _ => rfl) ?_) (.n (fun _ => op_load Try.isAgg3 (.plain rfl)) (.n (fun _ => op_move (.plain rfl)) (.n (fun _ => op_move (.plain rfl)) (.n (fun _ => op_indexAddrN Try.underlying27 Try.sizeOf3 (.plain rfl) (.plain rfl) (fun _ => rfl) ?_) (.n (fun _ => op_load Try.isAgg3 (.plain rfl)) (.n (fun _ => op_gtr (.plain rfl) (.plain rfl)) (.nil _)))))))))) ?d2 ?_
    · omega
    · omega
    · kernel_rfl
    refine awp_cond rfl (fun h => ?_) (fun h => ?_)
    · try simp only [decide_eq_true_eq, decide_eq_false_iff_not, Bool.and_eq_true, Bool.or_eq_true, Bool.and_eq_false_iff, Bool.or_eq_false_iff, Bool.not_eq_true', Bool.not_eq_false', Bool.not_eq_true, Bool.not_eq_false, Bool.true_eq_false, Bool.false_eq_true] at h
      refine awp_region rfl (.n (fun _ => op_move (.plain rfl)) (.n (fun _ => op_assign (.plain rfl)) (.nil _))) ?_
      refine awp_region rfl (.n (fun _ => op_move (.plain rfl)) (.n (fun _ => op_add (.plain rfl) (.plain rfl) ?_) (.n (fun _ => op_assign (.plain rfl)) (.nil _)))) ?_
      · unfold InR; omega
      exact ⟨i + 1, by dsimp only; omega, by dsimp only; omega, (Ent.kept ⟨rfl, (congrArg (fun n => some (SV.int n)) (by first | (rw [topTo_yes h]; done) | (rw [topTo_no h]; done))), rfl, trivial⟩ trivial)⟩
    · try simp only [decide_eq_true_eq, decide_eq_false_iff_not, Bool.and_eq_true, Bool.or_eq_true, Bool.and_eq_false_iff, Bool.or_eq_false_iff, Bool.not_eq_true', Bool.not_eq_false', Bool.not_eq_true, Bool.not_eq_false, Bool.true_eq_false, Bool.false_eq_true] at h
      refine awp_skip ?_
      refine awp_region rfl (.n (fun _ => op_move (.plain rfl)) (.n (fun _ => op_add (.plain rfl) (.plain rfl) ?_) (.n (fun _ => op_assign (.plain rfl)) (.nil _)))) ?_
      · unfold InR; omega
      exact ⟨i + 1, by dsimp only; omega, by dsimp only; omega, (Ent.kept ⟨rfl, (congrArg (fun n => some (SV.int n)) (by first | (rw [topTo_yes h]; done) | (rw [topTo_no h]; done))), rfl, trivial⟩ trivial)⟩
  · try simp only [decide_eq_true_eq, decide_eq_false_iff_not, Bool.and_eq_true, Bool.or_eq_true, Bool.and_eq_false_iff, Bool.or_eq_false_iff, Bool.not_eq_true', Bool.not_eq_false', Bool.not_eq_true, Bool.not_eq_false, Bool.true_eq_false, Bool.false_eq_true] at h
    obtain rfl : i = l.length := by omega
    refine awp_exit ?_
    refine awp_seq ?_
    refine awp_region rfl (.n (fun _ => op_assign (.plain rfl)) (.nil _)) ?_
    refine awp_seq ?_
    refine awp_seq ?_
    refine awp_region rfl (.n (fun _ => op_assign (.plain rfl)) (.nil _)) ?_
    refine awp_block ?_
    refine awp_loop (σ := Nat) (fun (j : Nat) => j ≤ l.length) (fun (j : Nat) => ⟨[(0, .pv (.ints l)), (5, .int (topTo l l.length : Nat)), (7, .int (secTo l (topTo l l.length) j)), (8, .int (j : Nat))], []⟩) (fun (j : Nat) => l.length - j) 0 ?_ (Ent.kept ⟨rfl, rfl, rfl, rfl, trivial⟩ trivial) ?_
    · simp
    rintro j hp
    try dsimp only at hp
    refine awp_seq ?_
    refine awp_seq ?_
    refine awp_region rfl (.n (fun _ => op_move (.plain rfl)) (.n (fun _ => op_move (.plain rfl)) (.n (fun _ => op_len (s := 0) Try.underlying27 (.plain rfl)) (.n (fun _ => op_lss (.plain rfl) (.plain rfl)) (.nil _))))) ?_
    refine awp_cond rfl (fun h => ?_) (fun h => ?_)
    · try simp only [decide_eq_true_eq, decide_eq_false_iff_not, Bool.and_eq_true, Bool.or_eq_true, Bool.and_eq_false_iff, Bool.or_eq_false_iff, Bool.not_eq_true', Bool.not_eq_false', Bool.not_eq_true, Bool.not_eq_false, Bool.true_eq_false, Bool.false_eq_true] at h
      refine awp_skip ?_
      refine awp_seq ?_
      refine awp_block ?_
      refine awp_seq ?_
      refine awp_region rfl (.n (fun _ => op_move (.plain rfl)) (.n (fun _ => op_move (.plain rfl)) (.n (fun _ => op_neq (.plain rfl) (.plain rfl)) (.n (fun _ => op_move (.plain rfl)) (.gn rfl rfl (fun hg _ => op_move (.plain rfl)) (.gn rfl rfl (fun hg _ => op_move (.plain rfl)) (.gn rfl rfl (fun hg _ => op_indexAddrN Try.underlying27 Try.sizeOf3 (.opt rfl fun h => h) (.opt rfl fun h => h) (fun _ => rfl) ?_) (.gn rfl rfl (fun hg _ => op_load Try.isAgg3 (.opt rfl fun h => h)) (.gn rfl rfl (fun hg _ => op_move (.plain rfl)) (.gn rfl rfl (fun hg _ => op_gtr (.opt rfl fun h => h) (.opt rfl fun h => h)) (.n (fun _ => op_and (.plain rfl) (.plain rfl) (.plain rfl) (fun h => eqT h)) (.nil _)))))))))))) ?_
      · try simp only [beq_iff_eq, beq_true, beq_false, Bool.and_eq_true, decide_eq_true_eq, decide_eq_false_iff_not, Bool.not_eq_true', Bool.or_eq_true, Bool.or_eq_false_iff] at hg
        omega
      refine awp_cond rfl (fun h => ?_) (fun h => ?_)
      · try simp only [decide_eq_true_eq, decide_eq_false_iff_not, Bool.and_eq_true, Bool.or_eq_true, Bool.and_eq_false_iff, Bool.or_eq_false_iff, Bool.not_eq_true', Bool.not_eq_false', Bool.not_eq_true, Bool.not_eq_false, Bool.true_eq_false, Bool.false_eq_true] at h
        refine awp_region rfl (.n (fun _ => op_move (.plain rfl)) (.n (fun _ => op_move (.plain rfl)) (.n (fun _ => op_indexAddrN Try.underlying27 Try.sizeOf3 (.plain rfl) (.plain rfl) (fun _ => rfl) ?_) (.n (fun _ => op_load Try.isAgg3 (.plain rfl)) (.n (fun _ => op_assign (.plain rfl)) (.nil _)))))) ?_
        · omega
        refine awp_region rfl (.n (fun _ => op_move (.plain rfl)) (.n (fun _ => op_add (.plain rfl) (.plain rfl) ?_) (.n (fun _ => op_assign (.plain rfl)) (.nil _)))) ?_
        · unfold InR; omega
        exact ⟨j + 1, by omega, by dsimp only; omega, (Ent.kept ⟨rfl, rfl, (congrArg (fun n => some (SV.int n)) (by first | exact (secTo_yes ⟨by omega, h.2⟩).symm | exact (secTo_no (by omega)).symm)), rfl, trivial⟩ trivial)⟩
      · try simp only [decide_eq_true_eq, decide_eq_false_iff_not, Bool.and_eq_true, Bool.or_eq_true, Bool.and_eq_false_iff, Bool.or_eq_false_iff, Bool.not_eq_true', Bool.not_eq_false', Bool.not_eq_true, Bool.not_eq_false, Bool.true_eq_false, Bool.false_eq_true] at h
        refine awp_skip ?_
        refine awp_region rfl (.n (fun _ => op_move (.plain rfl)) (.n (fun _ => op_add (.plain rfl) (.plain rfl) ?_) (.n (fun _ => op_assign (.plain rfl)) (.nil _)))) ?_
        · unfold InR; omega
        exact ⟨j + 1, by omega, by dsimp only; omega, (Ent.kept ⟨rfl, rfl, (congrArg (fun n => some (SV.int n)) (by first | exact (secTo_yes ⟨by omega, h.2⟩).symm | exact (secTo_no (by omega)).symm)), rfl, trivial⟩ trivial)⟩
    · try simp only [decide_eq_true_eq, decide_eq_false_iff_not, Bool.and_eq_true, Bool.or_eq_true, Bool.and_eq_false_iff, Bool.or_eq_false_iff, Bool.not_eq_true', Bool.not_eq_false', Bool.not_eq_true, Bool.not_eq_false, Bool.true_eq_false, Bool.false_eq_true] at h
      obtain rfl : j = l.length := by omega
      refine awp_exit ?_
      refine awp_seq ?_
      refine awp_region_draw mixed rfl (.n (fun _ => op_move (.plain rfl)) (.n (fun _ => op_move (.plain rfl)) (.n (fun _ => op_move (.plain rfl)) (.n (fun _ => op_indexAddrN Try.underlying27 Try.sizeOf3 (.plain rfl) (.plain rfl) (fun _ => rfl) ?_) (.n (fun _ => op_load Try.isAgg3 (.plain rfl)) (.n (fun _ => op_move (.plain rfl)) (.n (fun _ => op_assign (.plain rfl)) (.n (fun _ => op_assign (.plain rfl)) (.n (fun _ => op_assign (.plain rfl)) (.nil _)))))))))) ?d3 ?_
      · omega
      · kernel_rfl
      refine awp_ret ?_
      refine retQ.ret ?_
      refine ret3 rfl rfl rfl rfl rfl rfl rfl ?_
      rfl

theorem SlotsMay_fc (l sets : List Int) : FC Try.prog 24 [.ints l, .ints sets] (.i (slotsE l sets)) := by
  refine FC.intro Try.func24 rfl (Nat.le_of_ble_eq_true rfl) fun hfit => ?_
  obtain ⟨fitl0, fitr0⟩ := (hfit _ (.head _)).ints
  obtain ⟨fitl1, fitr1⟩ := (hfit _ (.tail _ (.head _))).ints
  refine awp_seq ?_
  refine awp_region rfl (.n (fun _ => op_assign (.plain rfl)) (.nil _)) ?_
  refine awp_seq ?_
  refine awp_region rfl (.n (fun _ => op_move (.plain rfl)) (.n (fun _ => op_call1 Try.call17 (.plain rfl) (BidsMay_fc _)) (.n (fun _ => op_assign (.plain rfl)) (.nil _)))) ?_
  refine awp_seq ?_
  refine awp_seq ?_
  refine awp_region rfl (.n (fun _ => op_move (.plain rfl)) (.n (fun _ => op_neq (.plain rfl) (.plain rfl)) (.nil _))) ?_
  refine awp_cond rfl (fun h => ?_) (fun h => ?_)
  · try simp only [decide_eq_true_eq, decide_eq_false_iff_not, Bool.and_eq_true, Bool.or_eq_true, Bool.and_eq_false_iff, Bool.or_eq_false_iff, Bool.not_eq_true', Bool.not_eq_false', Bool.not_eq_true, Bool.not_eq_false, Bool.true_eq_false, Bool.false_eq_true] at h
    refine awp_seq ?_
    refine awp_region rfl (.n (fun _ => op_move (.plain rfl)) (.n (fun _ => op_assign (.plain rfl)) (.nil _))) ?_
    refine awp_ret ?_
    refine retQ.ret ?_
    refine ret1 rfl rfl rfl ?_
    exact congrArg PV.i (slotsE_bids h)
  · try simp only [decide_eq_true_eq, decide_eq_false_iff_not, Bool.and_eq_true, Bool.or_eq_true, Bool.and_eq_false_iff, Bool.or_eq_false_iff, Bool.not_eq_true', Bool.not_eq_false', Bool.not_eq_true, Bool.not_eq_false, Bool.true_eq_false, Bool.false_eq_true] at h
    have hb0 := h
    have hok := BidsOk.of h
    have hl := hok.len
    have hp2 : (1 : Int) * 2 ^ ((l.length : Nat) : Int).toNat = 2 ^ l.length := by rw [Int.one_mul, Int.toNat_natCast]
    have hp3 := pow16 hl.2
    refine awp_skip ?_
    refine awp_seq ?_
    refine awp_seq ?_
    refine awp_region rfl (.n (fun _ => op_move (.plain rfl)) (.n (fun _ => op_len (s := 0) Try.underlying27 (.plain rfl)) (.n (fun _ => op_lss (.plain rfl) (.plain rfl)) (.n (fun _ => op_move (.plain rfl)) (.gn rfl rfl (fun hg _ => op_move (.plain rfl)) (.gn rfl rfl (fun hg _ => op_len (s := 0) Try.underlying27 (.opt rfl fun h => h)) (.gn rfl rfl (fun hg _ => op_gtr (.opt rfl fun h => h) (.plain rfl)) (.n (fun _ => op_or (.plain rfl) (.plain rfl) (.plain rfl) (fun h => eqF h)) (.nil _))))))))) ?_
    refine awp_cond rfl (fun h => ?_) (fun h => ?_)
    · try simp only [decide_eq_true_eq, decide_eq_false_iff_not, Bool.and_eq_true, Bool.or_eq_true, Bool.and_eq_false_iff, Bool.or_eq_false_iff, Bool.not_eq_true', Bool.not_eq_false', Bool.not_eq_true, Bool.not_eq_false, Bool.true_eq_false, Bool.false_eq_true] at h
      refine awp_seq ?_
      refine awp_region rfl (.n (fun _ => op_assign (.plain rfl)) (.nil _)) ?_
      refine awp_ret ?_
      refine retQ.ret ?_
      refine ret1 rfl rfl rfl ?_
      exact congrArg PV.i (slotsE_len (by omega) h)
    · try simp only [decide_eq_true_eq, decide_eq_false_iff_not, Bool.and_eq_true, Bool.or_eq_true, Bool.and_eq_false_iff, Bool.or_eq_false_iff, Bool.not_eq_true', Bool.not_eq_false', Bool.not_eq_true, Bool.not_eq_false, Bool.true_eq_false, Bool.false_eq_true] at h
      refine awp_skip ?_
      refine awp_seq ?_
      refine awp_seq ?_
      refine awp_region rfl (.n (fun _ => op_assign (.plain rfl)) (.nil _)) ?_
      refine awp_block ?_
      refine awp_loop (σ := Nat) (fun (k : Nat) => k ≤ sets.length ∧ firstE (slotB l sets) k = 0) (fun (k : Nat) => ⟨[(0, .pv (.ints l)), (1, .pv (.ints sets)), (6, .int (k : Nat))], []⟩) (fun (k : Nat) => sets.length - k) 0 ?_ (Ent.kept ⟨rfl, rfl, rfl, trivial⟩ trivial) ?_
      · exact ⟨Nat.zero_le _, rfl⟩
      rintro k hp
      try dsimp only at hp
      obtain ⟨hk, hE⟩ := hp
      have hp4 := two_pow_nat l.length
      refine awp_seq ?_
      refine awp_seq ?_
      refine awp_region rfl (.n (fun _ => op_move (.plain rfl)) (.n (fun _ => op_move (.plain rfl)) (.n (fun _ => op_len (s := 0) Try.underlying27 (.plain rfl)) (.n (fun _ => op_lss (.plain rfl) (.plain rfl)) (.nil _))))) ?_
      refine awp_cond rfl (fun h => ?_) (fun h => ?_)
      · try simp only [decide_eq_true_eq, decide_eq_false_iff_not, Bool.and_eq_true, Bool.or_eq_true, Bool.and_eq_false_iff, Bool.or_eq_false_iff, Bool.not_eq_true', Bool.not_eq_false', Bool.not_eq_true, Bool.not_eq_false, Bool.true_eq_false, Bool.false_eq_true] at h
        refine awp_skip ?_
        refine awp_seq ?_
        refine awp_block ?_
        refine awp_seq ?_
        refine awp_region_draw mixed rfl (.n (fun _ => op_move (.plain rfl)) (.n (fun _ => op_move (.plain rfl)) (.n (fun _ => op_indexAddrN Try.underlying27 Try.sizeOf3 (.plain rfl) (.plain rfl) (fun _ => rfl) ?_) (.n (fun _ => op_load Try.isAgg3 (.plain rfl)) (.n (fun _ => op_lss (.plain rfl) (.plain rfl)) (.n (fun _ => op_move (.plain rfl)) (.gn rfl rfl (fun hg _ => op_move (.plain rfl)) (.gn rfl rfl (fun hg _ => op_move (.plain rfl)) (.gn rfl rfl (fun hg _ => op_indexAddrN Try.underlying27 Try.sizeOf3 (.opt rfl fun h => h) (.opt rfl fun h => h) (fun _ => rfl) ?_) (.gn rfl rfl (fun hg _ => op_load Try.isAgg3 (.opt rfl fun h => h)) (.gn rfl rfl (fun hg _ => op_move (.plain rfl)) (.gn rfl rfl (fun hg _ => op_len (s := 0) Try.underlying27 (.opt rfl fun h => h)) (.gn rfl rfl (fun hg _ => op_shl (.plain rfl) (.opt rfl fun h => h) ?_) (.gn rfl rfl (fun hg _ => op_geq (.opt rfl fun h => h) (.opt rfl fun h => h)) (.n (fun _ => op_or (.plain rfl) (.plain rfl) (.plain rfl) (fun h => eqF h)) (.nil _)))))))))))))))) ?d4 ?_
        · omega
        · try simp only [beq_iff_eq, beq_true, beq_false, Bool.and_eq_true, decide_eq_true_eq, decide_eq_false_iff_not, Bool.not_eq_true', Bool.or_eq_true, Bool.or_eq_false_iff] at hg
          omega
        · try simp only [beq_iff_eq, beq_true, beq_false, Bool.and_eq_true, decide_eq_true_eq, decide_eq_false_iff_not, Bool.not_eq_true', Bool.or_eq_true, Bool.or_eq_false_iff] at hg
          unfold InR; rw [hp2]; omega
        · kernel_rfl
        refine awp_cond rfl (fun h => ?_) (fun h => ?_)
        · try simp only [decide_eq_true_eq, decide_eq_false_iff_not, Bool.and_eq_true, Bool.or_eq_true, Bool.and_eq_false_iff, Bool.or_eq_false_iff, Bool.not_eq_true', Bool.not_eq_false', Bool.not_eq_true, Bool.not_eq_false, Bool.true_eq_false, Bool.false_eq_true] at h
          rw [hp2] at h
          refine awp_seq ?_
          refine awp_region rfl (.n (fun _ => op_assign (.plain rfl)) (.nil _)) ?_
          refine awp_ret ?_
          refine retQ.ret ?_
          refine ret1 rfl rfl rfl ?_
          exact congrArg PV.i (slotsE_val (by omega) (by omega) hE (by omega) h)
        · try simp only [decide_eq_true_eq, decide_eq_false_iff_not, Bool.and_eq_true, Bool.or_eq_true, Bool.and_eq_false_iff, Bool.or_eq_false_iff, Bool.not_eq_true', Bool.not_eq_false', Bool.not_eq_true, Bool.not_eq_false, Bool.true_eq_false, Bool.false_eq_true] at h
          rw [hp2] at h
          refine awp_skip ?_
          refine awp_region rfl (.n (fun _ => op_move (.plain rfl)) (.n (fun _ => op_add (.plain rfl) (.plain rfl) ?_) (.n (fun _ => op_assign (.plain rfl)) (.nil _)))) ?_
          · unfold InR; omega
          exact ⟨k + 1, ⟨by omega, firstE_succ hE (if_neg (by omega))⟩, by dsimp only; omega, (Ent.kept ⟨rfl, rfl, rfl, trivial⟩ trivial)⟩
      · try simp only [decide_eq_true_eq, decide_eq_false_iff_not, Bool.and_eq_true, Bool.or_eq_true, Bool.and_eq_false_iff, Bool.or_eq_false_iff, Bool.not_eq_true', Bool.not_eq_false', Bool.not_eq_true, Bool.not_eq_false, Bool.true_eq_false, Bool.false_eq_true] at h
        refine awp_exit ?_
        refine awp_seq ?_
        refine awp_region rfl (.n (fun _ => op_assign (.plain rfl)) (.nil _)) ?_
        refine awp_ret ?_
        refine retQ.ret ?_
        refine ret1 rfl rfl rfl ?_
        exact congrArg PV.i (slotsE_ok (by omega) (by omega) hk hE (by omega))

theorem wins_fc (l sets : List Int) (hso : SlotsOk l sets) : FC Try.prog 38 [.ints l, .ints sets] (.i (winF l sets)) := by
  refine FC.intro Try.func38 rfl (Nat.le_of_ble_eq_true rfl) fun hfit => ?_
  obtain ⟨fitl0, fitr0⟩ := (hfit _ (.head _)).ints
  obtain ⟨fitl1, fitr1⟩ := (hfit _ (.tail _ (.head _))).ints
  have hl := hso.bids.len
  have hs := hso.len
  refine awp_seq ?_
  refine awp_region rfl (.n (fun _ => op_assign (.plain rfl)) (.nil _)) ?_
  refine awp_seq ?_
  refine awp_region rfl (.n (fun _ => op_assign (.plain rfl)) (.n (fun _ => op_assign (.plain rfl)) (.nil _))) ?_
  refine awp_seq ?_
  refine awp_seq ?_
  refine awp_region rfl (.n (fun _ => op_move (.plain rfl)) (.n (fun _ => op_len (s := 0) Try.underlying27 (.plain rfl)) (.n (fun _ => op_move (.plain rfl)) (.nil _)))) ?_
  refine awp_block ?_
  refine awp_loop (σ := Nat × Int × Int) (fun (s : Nat × Int × Int) => s.1 ≤ sets.length ∧ ((s.1 = 0 ∧ s.2.1 = -1 ∧ s.2.2 = 0) ∨ (1 ≤ s.1 ∧ s.2.1 = (winTo l sets s.1 : Nat) ∧ s.2.2 = wF l (sets.getD (winTo l sets s.1) 0)))) (fun (s : Nat × Int × Int) => ⟨[(0, .pv (.ints l)), (1, .pv (.ints sets)), (5, .int s.2.1), (6, .int s.2.2), (12, .pv (.ints sets)), (13, .int (sets.length : Nat)), (14, .int (s.1 : Nat))], []⟩) (fun (s : Nat × Int × Int) => sets.length - s.1) (0, -1, 0) ?_ (Ent.kept ⟨rfl, rfl, rfl, rfl, rfl, rfl, rfl, trivial⟩ trivial) ?_
  · exact ⟨Nat.zero_le _, .inl ⟨rfl, rfl, rfl⟩⟩
  rintro ⟨k, b, m⟩ hp
  try dsimp only at hp
  obtain ⟨hk, hq⟩ := hp
  refine awp_seq ?_
  refine awp_region rfl (.n (fun _ => op_lss (.plain rfl) (.plain rfl)) (.nil _)) ?_
  refine awp_seq ?_
  refine awp_cond rfl (fun h => ?_) (fun h => ?_)
  · try simp only [decide_eq_true_eq, decide_eq_false_iff_not, Bool.and_eq_true, Bool.or_eq_true, Bool.and_eq_false_iff, Bool.or_eq_false_iff, Bool.not_eq_true', Bool.not_eq_false', Bool.not_eq_true, Bool.not_eq_false, Bool.true_eq_false, Bool.false_eq_true] at h
    refine awp_skip ?_
    refine awp_seq ?_
    refine awp_block ?_
    refine awp_seq ?_
    refine awp_region rfl (.n (fun _ => op_move (.plain rfl)) (.n (fun _ => op_indexAddrN Try.underlying27 Try.sizeOf3 (.plain rfl) (.plain rfl) (fun _ => rfl) ?_) (.n (fun _ => op_load Try.isAgg3 (.plain rfl)) (.n (fun _ => op_assign (.plain rfl)) (.n (fun _ => op_assign (.plain rfl)) (.nil _)))))) ?_
    · omega
    refine awp_seq ?_
    refine awp_region rfl (.n (fun _ => op_assign (.plain rfl)) (.nil _)) ?_
    refine awp_seq ?_
    refine awp_seq ?_
    refine awp_region rfl (.n (fun _ => op_move (.plain rfl)) (.n (fun _ => op_len (s := 0) Try.underlying27 (.plain rfl)) (.n (fun _ => op_move (.plain rfl)) (.nil _)))) ?_
    refine awp_block ?_
    refine awp_loop (σ := Nat) (fun (i : Nat) => i ≤ l.length) (fun (i : Nat) => ⟨[(0, .pv (.ints l)), (1, .pv (.ints sets)), (5, .int b), (6, .int m), (12, .pv (.ints sets)), (13, .int (sets.length : Nat)), (14, .int (k : Nat)), (7, .int (k : Nat)), (8, .int (sets.getD k 0)), (9, .int (wTo l (sets.getD k 0) i)), (19, .pv (.ints l)), (20, .int (l.length : Nat)), (21, .int (i : Nat))], []⟩) (fun (i : Nat) => l.length - i) 0 ?_ (Ent.kept ⟨rfl, rfl, rfl, rfl, rfl, rfl, rfl, rfl, rfl, rfl, rfl, rfl, rfl, trivial⟩ trivial) ?_
    · simp
    rintro i hp
    try dsimp only at hp
    have hsv := hso.val k (by omega)
    refine awp_seq ?_
    refine awp_region rfl (.n (fun _ => op_lss (.plain rfl) (.plain rfl)) (.nil _)) ?_
    refine awp_seq ?_
    refine awp_cond rfl (fun h => ?_) (fun h => ?_)
    · try simp only [decide_eq_true_eq, decide_eq_false_iff_not, Bool.and_eq_true, Bool.or_eq_true, Bool.and_eq_false_iff, Bool.or_eq_false_iff, Bool.not_eq_true', Bool.not_eq_false', Bool.not_eq_true, Bool.not_eq_false, Bool.true_eq_false, Bool.false_eq_true] at h
      have hb := wTo_bd hso.bids (sets.getD k 0) i (by omega)
      have hm : 0 ≤ l.getD i 0 * (sets.getD k 0 / 2 ^ ((i : Nat) : Int).toNat % 2) ∧ l.getD i 0 * (sets.getD k 0 / 2 ^ ((i : Nat) : Int).toNat % 2) ≤ 1000 := wmul (sets.getD k 0) i (hso.bids.val i (by omega))
      refine awp_skip ?_
      refine awp_seq ?_
      refine awp_block ?_
      refine awp_seq ?_
      refine awp_region rfl (.n (fun _ => op_move (.plain rfl)) (.n (fun _ => op_indexAddrN Try.underlying27 Try.sizeOf3 (.plain rfl) (.plain rfl) (fun _ => rfl) ?_) (.n (fun _ => op_load Try.isAgg3 (.plain rfl)) (.n (fun _ => op_assign (.plain rfl)) (.n (fun _ => op_assign (.plain rfl)) (.nil _)))))) ?_
      · omega
      refine awp_region rfl (.n (fun _ => op_move (.plain rfl)) (.n (fun _ => op_move (.plain rfl)) (.n (fun _ => op_move (.plain rfl)) (.n (fun _ => op_move (.plain rfl)) (.n (fun _ => op_shr (.plain rfl) (.plain rfl) ?_) (.n (fun _ => op_bit (.plain rfl) ?_) (.n (fun _ => op_mul (.plain rfl) (.plain rfl) ?_) (.n (fun _ => op_add (.plain rfl) (.plain rfl) ?_) (.n (fun _ => op_assign (.plain rfl)) (.nil _)))))))))) ?_
      · omega
      · exact shr_nonneg hsv.1 _
      · unfold InR; omega
      · unfold InR; omega
      refine awp_region rfl (.n (fun _ => op_add (.plain rfl) (.plain rfl) ?_) (.n (fun _ => op_move (.plain rfl)) (.nil _))) ?_
      · unfold InR; omega
      exact ⟨i + 1, by omega, by dsimp only; omega, (Ent.kept ⟨rfl, rfl, rfl, rfl, rfl, rfl, rfl, rfl, rfl, rfl, rfl, rfl, rfl, trivial⟩ trivial)⟩
    · try simp only [decide_eq_true_eq, decide_eq_false_iff_not, Bool.and_eq_true, Bool.or_eq_true, Bool.and_eq_false_iff, Bool.or_eq_false_iff, Bool.not_eq_true', Bool.not_eq_false', Bool.not_eq_true, Bool.not_eq_false, Bool.true_eq_false, Bool.false_eq_true] at h
      obtain rfl : i = l.length := by omega
      refine awp_exit ?_
      refine awp_seq ?_
      refine awp_region rfl (.n (fun _ => op_move (.plain rfl)) (.n (fun _ => op_lss (.plain rfl) (.plain rfl)) (.n (fun _ => op_move (.plain rfl)) (.gn rfl rfl (fun hg _ => op_move (.plain rfl)) (.gn rfl rfl (fun hg _ => op_move (.plain rfl)) (.gn rfl rfl (fun hg _ => op_gtr (.opt rfl fun h => h) (.opt rfl fun h => h)) (.n (fun _ => op_or (.plain rfl) (.plain rfl) (.plain rfl) (fun h => eqF h)) (.nil _)))))))) ?_
      refine awp_cond rfl (fun h => ?_) (fun h => ?_)
      · try simp only [decide_eq_true_eq, decide_eq_false_iff_not, Bool.and_eq_true, Bool.or_eq_true, Bool.and_eq_false_iff, Bool.or_eq_false_iff, Bool.not_eq_true', Bool.not_eq_false', Bool.not_eq_true, Bool.not_eq_false, Bool.true_eq_false, Bool.false_eq_true] at h
        refine awp_region rfl (.n (fun _ => op_move (.plain rfl)) (.n (fun _ => op_move (.plain rfl)) (.n (fun _ => op_assign (.plain rfl)) (.n (fun _ => op_assign (.plain rfl)) (.nil _))))) ?_
        refine awp_region rfl (.n (fun _ => op_add (.plain rfl) (.plain rfl) ?_) (.n (fun _ => op_move (.plain rfl)) (.nil _))) ?_
        · unfold InR; omega
        exact ⟨(k + 1, (k : Nat), wF l (sets.getD k 0)), ⟨by dsimp only; omega, .inr ⟨by dsimp only; omega, by dsimp only; rw [win_yes hq h], by dsimp only; rw [win_yes hq h]⟩⟩, by dsimp only; omega, (Ent.kept ⟨rfl, rfl, rfl, rfl, rfl, rfl, rfl, trivial⟩ trivial)⟩
      · try simp only [decide_eq_true_eq, decide_eq_false_iff_not, Bool.and_eq_true, Bool.or_eq_true, Bool.and_eq_false_iff, Bool.or_eq_false_iff, Bool.not_eq_true', Bool.not_eq_false', Bool.not_eq_true, Bool.not_eq_false, Bool.true_eq_false, Bool.false_eq_true] at h
        refine awp_skip ?_
        refine awp_region rfl (.n (fun _ => op_add (.plain rfl) (.plain rfl) ?_) (.n (fun _ => op_move (.plain rfl)) (.nil _))) ?_
        · unfold InR; omega
        have hw := win_no hq h
        rcases hq with hp | hp
        · omega
        exact ⟨(k + 1, b, m), ⟨by dsimp only; omega, .inr ⟨by dsimp only; omega, by dsimp only; rw [hw.2]; exact hp.2.1, by dsimp only; rw [hw.2]; exact hp.2.2⟩⟩, by dsimp only; omega, (Ent.kept ⟨rfl, rfl, rfl, rfl, rfl, rfl, rfl, trivial⟩ trivial)⟩
  · try simp only [decide_eq_true_eq, decide_eq_false_iff_not, Bool.and_eq_true, Bool.or_eq_true, Bool.and_eq_false_iff, Bool.or_eq_false_iff, Bool.not_eq_true', Bool.not_eq_false', Bool.not_eq_true, Bool.not_eq_false, Bool.true_eq_false, Bool.false_eq_true] at h
    obtain rfl : k = sets.length := by omega
    have hwl := winTo_lt (l := l) (sets := sets) hs.1
    refine awp_exit ?_
    refine awp_seq ?_
    refine awp_region rfl (.n (fun _ => op_move (.plain rfl)) (.n (fun _ => op_move (.plain rfl)) (.n (fun _ => op_indexAddr Try.underlying27 Try.sizeOf3 (.plain rfl) (.plain rfl) (fun _ => rfl) ?_) (.n (fun _ => op_load Try.isAgg3 (.plain rfl)) (.n (fun _ => op_assign (.plain rfl)) (.nil _)))))) ?_
    · dsimp only; omega
    refine awp_ret ?_
    refine retQ.ret ?_
    refine ret1 rfl rfl rfl ?_
    rcases hq with hp | hp
    · omega
    rw [hp.2.1]
    rfl

theorem SlotsWin_fc (l sets : List Int) (hso : SlotsOk l sets) : FC Try.prog 25 [.ints l, .ints sets] (.i (winF l sets)) := by
  refine FC.intro Try.func25 rfl (Nat.le_of_ble_eq_true rfl) fun hfit => ?_
  obtain ⟨fitl0, fitr0⟩ := (hfit _ (.head _)).ints
  obtain ⟨fitl1, fitr1⟩ := (hfit _ (.tail _ (.head _))).ints
  have hl := hso.bids.len
  have hs := hso.len
  refine awp_seq ?_
  refine awp_region rfl (.n (fun _ => op_assign (.plain rfl)) (.nil _)) ?_
  refine awp_seq ?_
  refine awp_region rfl (.n (fun _ => op_assign (.plain rfl)) (.nil _)) ?_
  refine awp_seq ?_
  refine awp_region rfl (.n (fun _ => op_assign (.plain rfl)) (.nil _)) ?_
  refine awp_seq ?_
  refine awp_seq ?_
  refine awp_region rfl (.n (fun _ => op_assign (.plain rfl)) (.nil _)) ?_
  refine awp_block ?_
  refine awp_loop (σ := Nat × Int × Int) (fun (s : Nat × Int × Int) => s.1 ≤ sets.length ∧ ((s.1 = 0 ∧ s.2.1 = -1 ∧ s.2.2 = 0) ∨ (1 ≤ s.1 ∧ s.2.1 = wF l (sets.getD (winTo l sets s.1) 0) ∧ s.2.2 = sets.getD (winTo l sets s.1) 0))) (fun (s : Nat × Int × Int) => ⟨[(0, .pv (.ints l)), (1, .pv (.ints sets)), (5, .int s.2.1), (6, .int s.2.2), (7, .int (s.1 : Nat))], []⟩) (fun (s : Nat × Int × Int) => sets.length - s.1) (0, -1, 0) ?_ (Ent.kept ⟨rfl, rfl, rfl, rfl, rfl, trivial⟩ trivial) ?_
  · exact ⟨Nat.zero_le _, .inl ⟨rfl, rfl, rfl⟩⟩
  rintro ⟨k, b, m⟩ hp
  try dsimp only at hp
  obtain ⟨hk, hq⟩ := hp
  refine awp_seq ?_
  refine awp_seq ?_
  refine awp_region rfl (.n (fun _ => op_move (.plain rfl)) (.n (fun _ => op_move (.plain rfl)) (.n (fun _ => op_len (s := 0) Try.underlying27 (.plain rfl)) (.n (fun _ => op_lss (.plain rfl) (.plain rfl)) (.nil _))))) ?_
  refine awp_cond rfl (fun h => ?_) (fun h => ?_)
  · try simp only [decide_eq_true_eq, decide_eq_false_iff_not, Bool.and_eq_true, Bool.or_eq_true, Bool.and_eq_false_iff, Bool.or_eq_false_iff, Bool.not_eq_true', Bool.not_eq_false', Bool.not_eq_true, Bool.not_eq_false, Bool.true_eq_false, Bool.false_eq_true] at h
    refine awp_skip ?_
    refine awp_seq ?_
    refine awp_block ?_
    refine awp_seq ?_
    refine awp_region rfl (.n (fun _ => op_assign (.plain rfl)) (.nil _)) ?_
    refine awp_seq ?_
    refine awp_seq ?_
    refine awp_region rfl (.n (fun _ => op_assign (.plain rfl)) (.nil _)) ?_
    refine awp_block ?_
    refine awp_loop (σ := Nat) (fun (i : Nat) => i ≤ l.length) (fun (i : Nat) => ⟨[(0, .pv (.ints l)), (1, .pv (.ints sets)), (5, .int b), (6, .int m), (7, .int (k : Nat)), (8, .int (wTo l (sets.getD k 0) i)), (9, .int (i : Nat))], []⟩) (fun (i : Nat) => l.length - i) 0 ?_ (Ent.kept ⟨rfl, rfl, rfl, rfl, rfl, rfl, rfl, trivial⟩ trivial) ?_
    · simp
    rintro i hp
    try dsimp only at hp
    have hsv := hso.val k (by omega)
    have hpe : (1 : Int) * 2 ^ ((i : Nat) : Int).toNat = 2 ^ i := by rw [Int.one_mul, Int.toNat_natCast]
    have hpn := two_pow_nat i
    refine awp_seq ?_
    refine awp_seq ?_
    refine awp_region rfl (.n (fun _ => op_move (.plain rfl)) (.n (fun _ => op_move (.plain rfl)) (.n (fun _ => op_len (s := 0) Try.underlying27 (.plain rfl)) (.n (fun _ => op_lss (.plain rfl) (.plain rfl)) (.nil _))))) ?_
    refine awp_cond rfl (fun h => ?_) (fun h => ?_)
    · try simp only [decide_eq_true_eq, decide_eq_false_iff_not, Bool.and_eq_true, Bool.or_eq_true, Bool.and_eq_false_iff, Bool.or_eq_false_iff, Bool.not_eq_true', Bool.not_eq_false', Bool.not_eq_true, Bool.not_eq_false, Bool.true_eq_false, Bool.false_eq_true] at h
      have hb := wTo_bd hso.bids (sets.getD k 0) i (by omega)
      have hp4 := two_pow_bd (show i ≤ 4 by omega)
      have hm := wmul (sets.getD k 0) i (hso.bids.val i (by omega))
      unfold bitF at hm
      rw [← hpe] at hm hp4 hpn
      have hp16 : (2 : Int) ^ 4 = 16 := rfl
      refine awp_skip ?_
      refine awp_seq ?_
      refine awp_block ?_
      refine awp_region_draw mixed rfl (.n (fun _ => op_move (.plain rfl)) (.n (fun _ => op_move (.plain rfl)) (.n (fun _ => op_move (.plain rfl)) (.n (fun _ => op_indexAddrN Try.underlying27 Try.sizeOf3 (.plain rfl) (.plain rfl) (fun _ => rfl) ?_) (.n (fun _ => op_load Try.isAgg3 (.plain rfl)) (.n (fun _ => op_move (.plain rfl)) (.n (fun _ => op_move (.plain rfl)) (.n (fun _ => op_indexAddrN Try.underlying27 Try.sizeOf3 (.plain rfl) (.plain rfl) (fun _ => rfl) ?_) (.n (fun _ => op_load Try.isAgg3 (.plain rfl)) (.n (fun _ => op_move (.plain rfl)) (.n (fun _ => op_shl (.plain rfl) (.plain rfl) ?_) (.n (fun _ => op_quo (.plain rfl) (.plain rfl) ?_) (.n (fun _ => op_rem (.plain rfl) (.plain rfl) ?_) (.n (fun _ => op_mul (.plain rfl) (.plain rfl) ?_) (.n (fun _ => op_add (.plain rfl) (.plain rfl) ?_) (.n (fun _ => op_assign (.plain rfl)) (.nil _))))))))))))))))) ?d5 ?_
      · omega
      · omega
      · unfold InR; omega
      · exact ⟨hsv.1, by have := pow16 hl.2; omega, by omega⟩
      · exact ⟨Int.ediv_nonneg hsv.1 (by omega), by omega⟩
      · unfold InR; omega
      · unfold InR; omega
      · kernel_rfl
      refine awp_region rfl (.n (fun _ => op_move (.plain rfl)) (.n (fun _ => op_add (.plain rfl) (.plain rfl) ?_) (.n (fun _ => op_assign (.plain rfl)) (.nil _)))) ?_
      · unfold InR; omega
      exact ⟨i + 1, by omega, by dsimp only; omega, (Ent.kept ⟨rfl, rfl, rfl, rfl, rfl, (congrArg (fun n => some (SV.int n)) (by rw [hpe]; rfl)), rfl, trivial⟩ trivial)⟩
    · try simp only [decide_eq_true_eq, decide_eq_false_iff_not, Bool.and_eq_true, Bool.or_eq_true, Bool.and_eq_false_iff, Bool.or_eq_false_iff, Bool.not_eq_true', Bool.not_eq_false', Bool.not_eq_true, Bool.not_eq_false, Bool.true_eq_false, Bool.false_eq_true] at h
      obtain rfl : i = l.length := by omega
      refine awp_exit ?_
      refine awp_seq ?_
      refine awp_region rfl (.n (fun _ => op_move (.plain rfl)) (.n (fun _ => op_move (.plain rfl)) (.n (fun _ => op_gtr (.plain rfl) (.plain rfl)) (.nil _)))) ?_
      refine awp_cond rfl (fun h => ?_) (fun h => ?_)
      · try simp only [decide_eq_true_eq, decide_eq_false_iff_not, Bool.and_eq_true, Bool.or_eq_true, Bool.and_eq_false_iff, Bool.or_eq_false_iff, Bool.not_eq_true', Bool.not_eq_false', Bool.not_eq_true, Bool.not_eq_false, Bool.true_eq_false, Bool.false_eq_true] at h
        refine awp_seq ?_
        refine awp_region rfl (.n (fun _ => op_move (.plain rfl)) (.n (fun _ => op_assign (.plain rfl)) (.nil _))) ?_
        refine awp_region rfl (.n (fun _ => op_move (.plain rfl)) (.n (fun _ => op_move (.plain rfl)) (.n (fun _ => op_indexAddrN Try.underlying27 Try.sizeOf3 (.plain rfl) (.plain rfl) (fun _ => rfl) ?_) (.n (fun _ => op_load Try.isAgg3 (.plain rfl)) (.n (fun _ => op_assign (.plain rfl)) (.nil _)))))) ?_
        · omega
        refine awp_region rfl (.n (fun _ => op_move (.plain rfl)) (.n (fun _ => op_add (.plain rfl) (.plain rfl) ?_) (.n (fun _ => op_assign (.plain rfl)) (.nil _)))) ?_
        · unfold InR; omega
        exact ⟨(k + 1, wF l (sets.getD k 0), sets.getD k 0), ⟨by dsimp only; omega, .inr ⟨by dsimp only; omega, by dsimp only; rw [sw_yes hq h], by dsimp only; rw [sw_yes hq h]⟩⟩, by dsimp only; omega, (Ent.kept ⟨rfl, rfl, rfl, rfl, rfl, trivial⟩ trivial)⟩
      · try simp only [decide_eq_true_eq, decide_eq_false_iff_not, Bool.and_eq_true, Bool.or_eq_true, Bool.and_eq_false_iff, Bool.or_eq_false_iff, Bool.not_eq_true', Bool.not_eq_false', Bool.not_eq_true, Bool.not_eq_false, Bool.true_eq_false, Bool.false_eq_true] at h
        refine awp_skip ?_
        refine awp_region rfl (.n (fun _ => op_move (.plain rfl)) (.n (fun _ => op_add (.plain rfl) (.plain rfl) ?_) (.n (fun _ => op_assign (.plain rfl)) (.nil _)))) ?_
        · unfold InR; omega
        have hw := sw_no (wF_bd hso.bids _).1 hq h
        rcases hq with hp | hp
        · omega
        exact ⟨(k + 1, b, m), ⟨by dsimp only; omega, .inr ⟨by dsimp only; omega, by dsimp only; rw [hw.2]; exact hp.2.1, by dsimp only; rw [hw.2]; exact hp.2.2⟩⟩, by dsimp only; omega, (Ent.kept ⟨rfl, rfl, rfl, rfl, rfl, trivial⟩ trivial)⟩
  · try simp only [decide_eq_true_eq, decide_eq_false_iff_not, Bool.and_eq_true, Bool.or_eq_true, Bool.and_eq_false_iff, Bool.or_eq_false_iff, Bool.not_eq_true', Bool.not_eq_false', Bool.not_eq_true, Bool.not_eq_false, Bool.true_eq_false, Bool.false_eq_true] at h
    obtain rfl : k = sets.length := by omega
    refine awp_exit ?_
    refine awp_seq ?_
    refine awp_region rfl (.n (fun _ => op_move (.plain rfl)) (.n (fun _ => op_assign (.plain rfl)) (.nil _))) ?_
    refine awp_ret ?_
    refine retQ.ret ?_
    refine ret1 rfl rfl rfl ?_
    rcases hq with hp | hp
    · omega
    rw [hp.2.2]
    rfl


theorem pay_no {l sets : List Int} {i : Nat} (h : ¬ bitF (winF l sets) i = 1) : (0 : Int) = payF l sets i := (if_neg h).symm
theorem pay_yes {l sets : List Int} {i m : Nat} (h : bitF (winF l sets) i = 1) (hm : (m : Int) ≤ l.getD i 0) (h1 : ∀ j, j < m → hasF l sets i j = false) (h2 : (m : Int) < l.getD i 0 → hasF l sets i m = true) : ((m : Nat) : Int) = payF l sets i := by
  unfold payF
  rw [if_pos h, least_uniq (by omega) h1 fun c => h2 (by omega)]
theorem has_top {l sets : List Int} {i m : Nat} (hi : i < l.length) (h : bitF (winF l sets) i = 1) (hm : (m : Int) = l.getD i 0) : hasF l sets i m = true := by
  unfold hasF
  rw [hm, set_same l i hi]
  exact decide_eq_true h
theorem has_below {l sets : List Int} {i m : Nat} (hi : i < l.length) (hs : 1 ≤ sets.length) (h : hasF l sets i m = false) {j : Nat} (hj : j ≤ m) : hasF l sets i j = false :=
  Bool.eq_false_iff.2 fun c => by rw [has_mono hi hs hj c] at h; cases h

theorem SlotsPay_fc (l sets : List Int) (i : Nat) (hso : SlotsOk l sets) (hi : i < l.length) : FC Try.prog 26 [.ints l, .ints sets, .i (i : Nat)] (.i (payF l sets i)) := by
  refine FC.intro Try.func26 rfl (Nat.le_of_ble_eq_true rfl) fun hfit => ?_
  obtain ⟨fitl0, fitr0⟩ := (hfit _ (.head _)).ints
  obtain ⟨fitl1, fitr1⟩ := (hfit _ (.tail _ (.head _))).ints
  have fit2 : -9223372036854775808 ≤ ((i : Nat) : Int) ∧ ((i : Nat) : Int) ≤ 9223372036854775807 := (hfit _ (.tail _ (.tail _ (.head _)))).int64
  have hl := hso.bids.len
  have hs := hso.len
  have hpe : (1 : Int) * 2 ^ ((i : Nat) : Int).toNat = 2 ^ i := by rw [Int.one_mul, Int.toNat_natCast]
  have hpn := two_pow_nat i
  have hp4 := two_pow_bd (show i ≤ 4 by omega)
  have hp16 : (2 : Int) ^ 4 = 16 := rfl
  have hw := hso.win
  have hpl := pow16 hl.2
  have hli := hso.bids.val i hi
  refine awp_seq ?_
  refine awp_region rfl (.n (fun _ => op_assign (.plain rfl)) (.nil _)) ?_
  refine awp_seq ?_
  refine awp_region rfl (.n (fun _ => op_move (.plain rfl)) (.n (fun _ => op_move (.plain rfl)) (.n (fun _ => op_call2 Try.call25 (.plain rfl) (.plain rfl) (SlotsWin_fc _ _ ?_)) (.n (fun _ => op_assign (.plain rfl)) (.nil _))))) ?_
  · assumption
  refine awp_seq ?_
  refine awp_seq ?_
  refine awp_region rfl (.n (fun _ => op_move (.plain rfl)) (.n (fun _ => op_move (.plain rfl)) (.n (fun _ => op_shl (.plain rfl) (.plain rfl) ?_) (.n (fun _ => op_quo (.plain rfl) (.plain rfl) ?_) (.n (fun _ => op_rem (.plain rfl) (.plain rfl) ?_) (.n (fun _ => op_eql (.plain rfl) (.plain rfl)) (.nil _))))))) ?_
  · unfold InR; rw [hpe]; omega
  · rw [hpe]; omega
  · exact ⟨Int.ediv_nonneg hw.1 (by rw [hpe]; omega), by omega⟩
  refine awp_cond rfl (fun h => ?_) (fun h => ?_)
  · try simp only [decide_eq_true_eq, decide_eq_false_iff_not, Bool.and_eq_true, Bool.or_eq_true, Bool.and_eq_false_iff, Bool.or_eq_false_iff, Bool.not_eq_true', Bool.not_eq_false', Bool.not_eq_true, Bool.not_eq_false, Bool.true_eq_false, Bool.false_eq_true] at h
    rw [hpe] at h
    have h0 : ¬ bitF (winF l sets) i = 1 := fun c => by unfold bitF at c; omega
    refine awp_seq ?_
    refine awp_region rfl (.n (fun _ => op_assign (.plain rfl)) (.nil _)) ?_
    refine awp_ret ?_
    refine retQ.ret ?_
    refine ret1 rfl rfl rfl ?_
    exact congrArg PV.i (pay_no h0)
  · try simp only [decide_eq_true_eq, decide_eq_false_iff_not, Bool.and_eq_true, Bool.or_eq_true, Bool.and_eq_false_iff, Bool.or_eq_false_iff, Bool.not_eq_true', Bool.not_eq_false', Bool.not_eq_true, Bool.not_eq_false, Bool.true_eq_false, Bool.false_eq_true] at h
    rw [hpe] at h
    have h1 : bitF (winF l sets) i = 1 := by have := bitF_bd (winF l sets) i; unfold bitF at this ⊢; omega
    refine awp_skip ?_
    refine awp_seq ?_
    refine awp_seq ?_
    refine awp_region rfl (.n (fun _ => op_assign (.plain rfl)) (.nil _)) ?_
    refine awp_block ?_
    refine awp_loop (σ := Nat) (fun (b : Nat) => (b : Int) ≤ l.getD i 0 ∧ ∀ j, j < b → hasF l sets i j = false) (fun (b : Nat) => ⟨[(0, .pv (.ints l)), (1, .pv (.ints sets)), (2, .int (i : Nat)), (8, .int (b : Nat))], []⟩) (fun (b : Nat) => (l.getD i 0).toNat - b) 0 ?_ (Ent.kept ⟨rfl, rfl, rfl, rfl, trivial⟩ trivial) ?_
    · exact ⟨hli.1, fun j hj => by omega⟩
    rintro b hp
    try dsimp only at hp
    obtain ⟨hb, hj⟩ := hp
    refine awp_seq ?_
    refine awp_seq ?_
    refine awp_region rfl (.n (fun _ => op_move (.plain rfl)) (.n (fun _ => op_move (.plain rfl)) (.n (fun _ => op_move (.plain rfl)) (.n (fun _ => op_indexAddrN Try.underlying27 Try.sizeOf3 (.plain rfl) (.plain rfl) (fun _ => rfl) ?_) (.n (fun _ => op_load Try.isAgg3 (.plain rfl)) (.n (fun _ => op_lss (.plain rfl) (.plain rfl)) (.nil _))))))) ?_
    · omega
    refine awp_cond rfl (fun h => ?_) (fun h => ?_)
    · try simp only [decide_eq_true_eq, decide_eq_false_iff_not, Bool.and_eq_true, Bool.or_eq_true, Bool.and_eq_false_iff, Bool.or_eq_false_iff, Bool.not_eq_true', Bool.not_eq_false', Bool.not_eq_true, Bool.not_eq_false, Bool.true_eq_false, Bool.false_eq_true] at h
      have hbv : 0 ≤ ((b : Nat) : Int) ∧ ((b : Nat) : Int) ≤ 1000 := by omega
      refine awp_skip ?_
      refine awp_seq ?_
      refine awp_block ?_
      refine awp_seq ?_
      refine awp_region rfl (.e (op_slitO (pp := []) (α := Int) (d := 0) (f := (fun n => [.int .i64 n])) 28 [] ety27 rfl trivial rfl (by decide) rfl (fun _ => rfl) rfl) rfl (.n (fun _ => op_move (.plain rfl)) (.e (op_append (id' := 30) (α := Int) (d := 0) (f := (fun n => [.int .i64 n])) ety27 Try.underlying27 (fun _ => rfl) (fun _ => rfl) (.plain rfl) rfl (.plain rfl) rfl ?_) rfl (.n (fun _ => op_assign (.plain rfl)) (.nil _))))) ?_
      · first | omega | (simp; omega)
      refine awp_seq ?_
      refine awp_region rfl (.n (fun _ => op_move (.plain rfl)) (.n (fun _ => op_move (.plain rfl)) (.n (fun _ => op_move (.plain rfl)) (.r (op_indexAddrON Try.underlying27 Try.sizeOf3 (.plain rfl) rfl (.plain rfl) ?_) (.e (op_storeE _ Try.sizeOf3 (.plain rfl) (.plain rfl) rfl (fun _ => rfl) ?_ (by decide) rfl rfl) rfl (.nil _)))))) ?_
      · first | omega | (simp; omega)
      · first | omega | (simp; omega)
      refine awp_seq ?_
      refine awp_region rfl (.n (fun _ => op_move (.plain rfl)) (.n (fun _ => op_move (.plain rfl)) (.r (op_callL (vals := [_, _]) Try.call25 ⟨⟨_, (.plain rfl), rfl⟩, ⟨_, (.plain rfl), rfl⟩, trivial⟩ (SlotsWin_fc _ _ ?_) rfl) (.n (fun _ => op_assign (.plain rfl)) (.nil _))))) ?_
      · exact hso.set hbv
      refine awp_seq ?_
      refine awp_region rfl (.n (fun _ => op_move (.plain rfl)) (.n (fun _ => op_move (.plain rfl)) (.n (fun _ => op_shl (.plain rfl) (.plain rfl) ?_) (.n (fun _ => op_quo (.plain rfl) (.plain rfl) ?_) (.n (fun _ => op_rem (.plain rfl) (.plain rfl) ?_) (.n (fun _ => op_eql (.plain rfl) (.plain rfl)) (.nil _))))))) ?_
      · unfold InR; rw [hpe]; omega
      · rw [hpe]; exact ⟨(hso.set hbv).win.1, by have := (hso.set (i := i) hbv).win; rw [List.length_set] at this; show winF (l.set i ((b : Nat) : Int)) sets ≤ _; omega, by omega⟩
      · exact ⟨Int.ediv_nonneg (hso.set hbv).win.1 (by rw [hpe]; omega), by omega⟩
      refine awp_cond rfl (fun h => ?_) (fun h => ?_)
      · try simp only [decide_eq_true_eq, decide_eq_false_iff_not, Bool.and_eq_true, Bool.or_eq_true, Bool.and_eq_false_iff, Bool.or_eq_false_iff, Bool.not_eq_true', Bool.not_eq_false', Bool.not_eq_true, Bool.not_eq_false, Bool.true_eq_false, Bool.false_eq_true] at h
        rw [hpe] at h
        have hh : hasF l sets i b = true := decide_eq_true h
        refine awp_seq ?_
        refine awp_region rfl (.n (fun _ => op_move (.plain rfl)) (.n (fun _ => op_assign (.plain rfl)) (.nil _))) ?_
        refine awp_ret ?_
        refine retQ.ret ?_
        refine ret1 rfl rfl rfl ?_
        exact congrArg PV.i (pay_yes h1 (by omega) hj fun _ => hh)
      · try simp only [decide_eq_true_eq, decide_eq_false_iff_not, Bool.and_eq_true, Bool.or_eq_true, Bool.and_eq_false_iff, Bool.or_eq_false_iff, Bool.not_eq_true', Bool.not_eq_false', Bool.not_eq_true, Bool.not_eq_false, Bool.true_eq_false, Bool.false_eq_true] at h
        rw [hpe] at h
        have hh : hasF l sets i b = false := decide_eq_false h
        refine awp_skip ?_
        refine awp_region rfl (.n (fun _ => op_move (.plain rfl)) (.n (fun _ => op_add (.plain rfl) (.plain rfl) ?_) (.n (fun _ => op_assign (.plain rfl)) (.nil _)))) ?_
        · unfold InR; omega
        exact ⟨b + 1, ⟨by omega, fun j hjb => has_below hi hs.1 hh (by omega)⟩, by dsimp only; omega, (Ent.kept ⟨rfl, rfl, rfl, rfl, trivial⟩ trivial)⟩
    · try simp only [decide_eq_true_eq, decide_eq_false_iff_not, Bool.and_eq_true, Bool.or_eq_true, Bool.and_eq_false_iff, Bool.or_eq_false_iff, Bool.not_eq_true', Bool.not_eq_false', Bool.not_eq_true, Bool.not_eq_false, Bool.true_eq_false, Bool.false_eq_true] at h
      refine awp_exit ?_
      refine awp_seq ?_
      refine awp_region rfl (.n (fun _ => op_move (.plain rfl)) (.n (fun _ => op_move (.plain rfl)) (.n (fun _ => op_indexAddrN Try.underlying27 Try.sizeOf3 (.plain rfl) (.plain rfl) (fun _ => rfl) ?_) (.n (fun _ => op_load Try.isAgg3 (.plain rfl)) (.n (fun _ => op_assign (.plain rfl)) (.nil _)))))) ?_
      · omega
      refine awp_ret ?_
      refine retQ.ret ?_
      refine ret1 rfl rfl rfl ?_
      exact congrArg PV.i ((show l.getD i 0 = ((b : Nat) : Int) by omega).trans (pay_yes h1 (by omega) hj fun c => by omega))

theorem Slots_fc (l sets : List Int) : FC Try.prog 23 [.ints l, .ints sets] (.tup [.i (if slotsE l sets = 0 then winF l sets else 0), .ints (if slotsE l sets = 0 then mapr l.length (payF l sets) else []), .i (slotsE l sets)]) := by
  refine FC.intro Try.func23 rfl (Nat.le_of_ble_eq_true rfl) fun hfit => ?_
  obtain ⟨fitl0, fitr0⟩ := (hfit _ (.head _)).ints
  obtain ⟨fitl1, fitr1⟩ := (hfit _ (.tail _ (.head _))).ints
  refine awp_seq ?_
  refine awp_region rfl (.n (fun _ => op_assign (.plain rfl)) (.n (fun _ => op_assign (.plain rfl)) (.n (fun _ => op_assign (.plain rfl)) (.nil _)))) ?_
  refine awp_seq ?_
  refine awp_seq ?_
  refine awp_region rfl (.n (fun _ => op_move (.plain rfl)) (.n (fun _ => op_call1 Try.call33 (.plain rfl) (bids_fc _)) (.n (fun _ => op_assign (.plain rfl)) (.nil _)))) ?_
  refine awp_seq ?_
  refine awp_region rfl (.n (fun _ => op_move (.plain rfl)) (.n (fun _ => op_neq (.plain rfl) (.plain rfl)) (.nil _))) ?_
  refine awp_cond rfl (fun h => ?_) (fun h => ?_)
  · try simp only [decide_eq_true_eq, decide_eq_false_iff_not, Bool.and_eq_true, Bool.or_eq_true, Bool.and_eq_false_iff, Bool.or_eq_false_iff, Bool.not_eq_true', Bool.not_eq_false', Bool.not_eq_true, Bool.not_eq_false, Bool.true_eq_false, Bool.false_eq_true] at h
    have he := slotsE_bids (sets := sets) h
    simp only [if_neg (show ¬ slotsE l sets = 0 by omega)]
    refine awp_seq ?_
    refine awp_region rfl (.n (fun _ => op_move (.plain rfl)) (.n (fun _ => op_assign (.plain rfl)) (.n (fun _ => op_assign (.plain rfl)) (.n (fun _ => op_assign (.plain rfl)) (.nil _))))) ?_
    refine awp_ent (Ent.nilseq 5 Int 0 (fun n => [.int .i64 n]) rfl) ?_
    refine awp_ret ?_
    refine retQ.ret ?_
    refine ret3 rfl rfl rfl rfl rfl rfl rfl ?_
    rw [he]
  · try simp only [decide_eq_true_eq, decide_eq_false_iff_not, Bool.and_eq_true, Bool.or_eq_true, Bool.and_eq_false_iff, Bool.or_eq_false_iff, Bool.not_eq_true', Bool.not_eq_false', Bool.not_eq_true, Bool.not_eq_false, Bool.true_eq_false, Bool.false_eq_true] at h
    have hb0 := h
    have hok := BidsOk.of h
    have hl := hok.len
    refine awp_skip ?_
    refine awp_seq ?_
    refine awp_seq ?_
    refine awp_region rfl (.n (fun _ => op_move (.plain rfl)) (.n (fun _ => op_len (s := 0) Try.underlying27 (.plain rfl)) (.n (fun _ => op_lss (.plain rfl) (.plain rfl)) (.n (fun _ => op_move (.plain rfl)) (.gn rfl rfl (fun hg _ => op_move (.plain rfl)) (.gn rfl rfl (fun hg _ => op_len (s := 0) Try.underlying27 (.opt rfl fun h => h)) (.gn rfl rfl (fun hg _ => op_gtr (.opt rfl fun h => h) (.plain rfl)) (.n (fun _ => op_or (.plain rfl) (.plain rfl) (.plain rfl) (fun h => eqF h)) (.nil _))))))))) ?_
    refine awp_cond rfl (fun h => ?_) (fun h => ?_)
    · try simp only [decide_eq_true_eq, decide_eq_false_iff_not, Bool.and_eq_true, Bool.or_eq_true, Bool.and_eq_false_iff, Bool.or_eq_false_iff, Bool.not_eq_true', Bool.not_eq_false', Bool.not_eq_true, Bool.not_eq_false, Bool.true_eq_false, Bool.false_eq_true] at h
      have he := slotsE_len hb0 h
      simp only [if_neg (show ¬ slotsE l sets = 0 by omega)]
      refine awp_seq ?_
      refine awp_region rfl (.n (fun _ => op_assign (.plain rfl)) (.n (fun _ => op_assign (.plain rfl)) (.n (fun _ => op_assign (.plain rfl)) (.nil _)))) ?_
      refine awp_ent (Ent.nilseq 5 Int 0 (fun n => [.int .i64 n]) rfl) ?_
      refine awp_ret ?_
      refine retQ.ret ?_
      refine ret3 rfl rfl rfl rfl rfl rfl rfl ?_
      rw [he]
    · try simp only [decide_eq_true_eq, decide_eq_false_iff_not, Bool.and_eq_true, Bool.or_eq_true, Bool.and_eq_false_iff, Bool.or_eq_false_iff, Bool.not_eq_true', Bool.not_eq_false', Bool.not_eq_true, Bool.not_eq_false, Bool.true_eq_false, Bool.false_eq_true] at h
      have hs := h
      refine awp_skip ?_
      refine awp_seq ?_
      refine awp_seq ?_
      refine awp_region rfl (.n (fun _ => op_move (.plain rfl)) (.n (fun _ => op_len (s := 0) Try.underlying27 (.plain rfl)) (.n (fun _ => op_move (.plain rfl)) (.nil _)))) ?_
      refine awp_block ?_
      refine awp_loop (σ := Nat) (fun (k : Nat) => k ≤ sets.length ∧ firstE (slotB l sets) k = 0) (fun (k : Nat) => ⟨[(0, .pv (.ints l)), (1, .pv (.ints sets)), (5, .pv .nil), (30, .pv (.ints sets)), (31, .int (sets.length : Nat)), (32, .int (k : Nat))], []⟩) (fun (k : Nat) => sets.length - k) 0 ?_ (Ent.kept ⟨rfl, rfl, rfl, rfl, rfl, rfl, trivial⟩ trivial) ?_
      · exact ⟨Nat.zero_le _, rfl⟩
      rintro k hp
      try dsimp only at hp
      obtain ⟨hk, hE⟩ := hp
      refine awp_seq ?_
      refine awp_region rfl (.n (fun _ => op_lss (.plain rfl) (.plain rfl)) (.nil _)) ?_
      refine awp_seq ?_
      refine awp_cond rfl (fun h => ?_) (fun h => ?_)
      · try simp only [decide_eq_true_eq, decide_eq_false_iff_not, Bool.and_eq_true, Bool.or_eq_true, Bool.and_eq_false_iff, Bool.or_eq_false_iff, Bool.not_eq_true', Bool.not_eq_false', Bool.not_eq_true, Bool.not_eq_false, Bool.true_eq_false, Bool.false_eq_true] at h
        have hsb : InR (sets.getD k 0) := fitr1 _ (getD_mem 0 (show k < sets.length by omega))
        unfold InR at hsb
        refine awp_skip ?_
        refine awp_seq ?_
        refine awp_block ?_
        refine awp_seq ?_
        refine awp_region rfl (.n (fun _ => op_indexAddrN Try.underlying27 Try.sizeOf3 (.plain rfl) (.plain rfl) (fun _ => rfl) ?_) (.n (fun _ => op_load Try.isAgg3 (.plain rfl)) (.n (fun _ => op_assign (.plain rfl)) (.nil _)))) ?_
        · omega
        refine awp_seq ?_
        refine awp_region rfl (.n (fun _ => op_move (.plain rfl)) (.n (fun _ => op_lss (.plain rfl) (.plain rfl)) (.n (fun _ => op_move (.plain rfl)) (.gn rfl rfl (fun hg _ => op_move (.plain rfl)) (.gn rfl rfl (fun hg _ => op_uint Try.underlying3 Try.underlying64 (.opt rfl fun h => h) ?_) (.gn rfl rfl (fun hg _ => op_call1 Try.call37 (.opt rfl fun h => h) (Len_fc _ ?_ ?_)) (.gn rfl rfl (fun hg _ => op_move (.plain rfl)) (.gn rfl rfl (fun hg _ => op_len (s := 0) Try.underlying27 (.opt rfl fun h => h)) (.gn rfl rfl (fun hg _ => op_gtr (.opt rfl fun h => h) (.opt rfl fun h => h)) (.n (fun _ => op_or (.plain rfl) (.plain rfl) (.plain rfl) (fun h => eqF h)) (.nil _))))))))))) ?_
        · try simp only [beq_iff_eq, beq_true, beq_false, Bool.and_eq_true, decide_eq_true_eq, decide_eq_false_iff_not, Bool.not_eq_true', Bool.or_eq_true, Bool.or_eq_false_iff] at hg
          omega
        · try simp only [beq_iff_eq, beq_true, beq_false, Bool.and_eq_true, decide_eq_true_eq, decide_eq_false_iff_not, Bool.not_eq_true', Bool.or_eq_true, Bool.or_eq_false_iff] at hg
          omega
        · try simp only [beq_iff_eq, beq_true, beq_false, Bool.and_eq_true, decide_eq_true_eq, decide_eq_false_iff_not, Bool.not_eq_true', Bool.or_eq_true, Bool.or_eq_false_iff] at hg
          omega
        refine awp_cond rfl (fun h => ?_) (fun h => ?_)
        · try simp only [decide_eq_true_eq, decide_eq_false_iff_not, Bool.and_eq_true, Bool.or_eq_true, Bool.and_eq_false_iff, Bool.or_eq_false_iff, Bool.not_eq_true', Bool.not_eq_false', Bool.not_eq_true, Bool.not_eq_false, Bool.true_eq_false, Bool.false_eq_true] at h
          have he := slotsE_val hb0 hs hE (by omega) (slot_len hsb.2 h)
          simp only [if_neg (show ¬ slotsE l sets = 0 by omega)]
          refine awp_seq ?_
          refine awp_region rfl (.n (fun _ => op_assign (.plain rfl)) (.n (fun _ => op_assign (.plain rfl)) (.n (fun _ => op_assign (.plain rfl)) (.nil _)))) ?_
          refine awp_ent (Ent.nilseq 5 Int 0 (fun n => [.int .i64 n]) rfl) ?_
          refine awp_ret ?_
          refine retQ.ret ?_
          refine ret3 rfl rfl rfl rfl rfl rfl rfl ?_
          rw [he]
        · try simp only [decide_eq_true_eq, decide_eq_false_iff_not, Bool.and_eq_true, Bool.or_eq_true, Bool.and_eq_false_iff, Bool.or_eq_false_iff, Bool.not_eq_true', Bool.not_eq_false', Bool.not_eq_true, Bool.not_eq_false, Bool.true_eq_false, Bool.false_eq_true] at h
          have hnb := slot_len' (n := l.length) hsb.2 (by omega)
          refine awp_skip ?_
          refine awp_region rfl (.n (fun _ => op_add (.plain rfl) (.plain rfl) ?_) (.n (fun _ => op_move (.plain rfl)) (.nil _))) ?_
          · unfold InR; omega
          exact ⟨k + 1, ⟨by omega, firstE_succ hE (if_neg hnb)⟩, by dsimp only; omega, (Ent.kept ⟨rfl, rfl, rfl, rfl, rfl, rfl, trivial⟩ trivial)⟩
      · try simp only [decide_eq_true_eq, decide_eq_false_iff_not, Bool.and_eq_true, Bool.or_eq_true, Bool.and_eq_false_iff, Bool.or_eq_false_iff, Bool.not_eq_true', Bool.not_eq_false', Bool.not_eq_true, Bool.not_eq_false, Bool.true_eq_false, Bool.false_eq_true] at h
        have he := slotsE_ok hb0 hs hk hE (by omega)
        have hso := SlotsOk.of he.symm
        have hw := hso.win
        have hs1 := hso.len
        simp only [if_pos he.symm]
        refine awp_exit ?_
        refine awp_seq ?_
        refine awp_region rfl (.n (fun _ => op_move (.plain rfl)) (.n (fun _ => op_move (.plain rfl)) (.n (fun _ => op_call2 Try.call38 (.plain rfl) (.plain rfl) (wins_fc _ _ ?_)) (.n (fun _ => op_assign (.plain rfl)) (.nil _))))) ?_
        · assumption
        refine awp_seq ?_
        refine awp_seq ?_
        refine awp_region rfl (.n (fun _ => op_move (.plain rfl)) (.n (fun _ => op_len (s := 0) Try.underlying27 (.plain rfl)) (.n (fun _ => op_move (.plain rfl)) (.nil _)))) ?_
        refine awp_block ?_
        refine awp_ent (Ent.begin 5 1005 3 1 Int 0 (fun n => [.int .i64 n]) rfl rfl rfl) ?_
        refine awp_loop (σ := Nat) (fun (i : Nat) => i ≤ l.length) (fun (i : Nat) => ⟨[(0, .pv (.ints l)), (1, .pv (.ints sets)), (4, .int (winF l sets)), (5, .own 1005), (50, .pv (.ints l)), (51, .int (l.length : Nat)), (52, .int (i : Nat))], [(1005, .arr 3 1 Int 0 (fun n => [.int .i64 n]) (mapr i (payF l sets)))]⟩) (fun (i : Nat) => l.length - i) 0 ?_ (Ent.kept ⟨rfl, rfl, rfl, rfl, rfl, rfl, rfl, trivial⟩ ⟨rfl, trivial⟩) ?_
        · simp
        rintro i hp
        try dsimp only at hp
        refine awp_seq ?_
        refine awp_region rfl (.n (fun _ => op_lss (.plain rfl) (.plain rfl)) (.nil _)) ?_
        refine awp_seq ?_
        refine awp_cond rfl (fun h => ?_) (fun h => ?_)
        · try simp only [decide_eq_true_eq, decide_eq_false_iff_not, Bool.and_eq_true, Bool.or_eq_true, Bool.and_eq_false_iff, Bool.or_eq_false_iff, Bool.not_eq_true', Bool.not_eq_false', Bool.not_eq_true, Bool.not_eq_false, Bool.true_eq_false, Bool.false_eq_true] at h
          refine awp_skip ?_
          refine awp_seq ?_
          refine awp_block ?_
          refine awp_seq ?_
          refine awp_region rfl (.n (fun _ => op_move (.plain rfl)) (.n (fun _ => op_indexAddrN Try.underlying27 Try.sizeOf3 (.plain rfl) (.plain rfl) (fun _ => rfl) ?_) (.n (fun _ => op_load Try.isAgg3 (.plain rfl)) (.n (fun _ => op_assign (.plain rfl)) (.n (fun _ => op_assign (.plain rfl)) (.nil _)))))) ?_
          · omega
          refine awp_seq ?_
          refine awp_region rfl (.n (fun _ => op_assign (.plain rfl)) (.nil _)) ?_
          refine awp_seq ?_
          refine awp_seq ?_
          refine awp_region rfl (.n (fun _ => op_move (.plain rfl)) (.n (fun _ => op_move (.plain rfl)) (.n (fun _ => op_shr (.plain rfl) (.plain rfl) ?_) (.n (fun _ => op_bit (.plain rfl) ?_) (.n (fun _ => op_eql (.plain rfl) (.plain rfl)) (.nil _)))))) ?_
          · omega
          · exact shr_nonneg hw.1 _
          refine awp_cond rfl (fun h => ?_) (fun h => ?_)
          · try simp only [decide_eq_true_eq, decide_eq_false_iff_not, Bool.and_eq_true, Bool.or_eq_true, Bool.and_eq_false_iff, Bool.or_eq_false_iff, Bool.not_eq_true', Bool.not_eq_false', Bool.not_eq_true, Bool.not_eq_false, Bool.true_eq_false, Bool.false_eq_true] at h
            have hlv := hok.val i (by omega)
            have h1 : bitF (winF l sets) i = 1 := h
            refine awp_seq ?_
            refine awp_region rfl (.n (fun _ => op_move (.plain rfl)) (.n (fun _ => op_assign (.plain rfl)) (.n (fun _ => op_assign (.plain rfl)) (.nil _)))) ?_
            refine awp_seq ?_
            refine awp_block ?_
            refine awp_loop (σ := Nat × Nat) (fun (s : Nat × Nat) => s.1 ≤ s.2 ∧ (s.2 : Int) ≤ l.getD i 0 ∧ (∀ j, j < s.1 → hasF l sets i j = false) ∧ hasF l sets i s.2 = true) (fun (s : Nat × Nat) => ⟨[(0, .pv (.ints l)), (1, .pv (.ints sets)), (4, .int (winF l sets)), (5, .own 1005), (50, .pv (.ints l)), (51, .int (l.length : Nat)), (52, .int (i : Nat)), (10, .int (i : Nat)), (13, .int (s.1 : Nat)), (14, .int (s.2 : Nat))], [(1005, .arr 3 1 Int 0 (fun n => [.int .i64 n]) (mapr i (payF l sets)))]⟩) (fun (s : Nat × Nat) => s.2 - s.1) (0, (l.getD i 0).toNat) ?_ (Ent.kept ⟨rfl, rfl, rfl, rfl, rfl, rfl, rfl, rfl, rfl, (congrArg (fun n => some (SV.int n)) (by dsimp only; omega)), trivial⟩ ⟨rfl, trivial⟩) ?_
            · exact ⟨Nat.zero_le _, by dsimp only; omega, fun j hj => absurd hj (Nat.not_lt_zero _), has_top (by omega) h1 (by dsimp only; omega)⟩
            rintro ⟨lo, hi⟩ hp
            try dsimp only at hp
            obtain ⟨hlh, hhi, hlo, hhas⟩ := hp
            refine awp_seq ?_
            refine awp_seq ?_
            refine awp_region rfl (.n (fun _ => op_move (.plain rfl)) (.n (fun _ => op_move (.plain rfl)) (.n (fun _ => op_lss (.plain rfl) (.plain rfl)) (.nil _)))) ?_
            refine awp_cond rfl (fun h => ?_) (fun h => ?_)
            · try simp only [decide_eq_true_eq, decide_eq_false_iff_not, Bool.and_eq_true, Bool.or_eq_true, Bool.and_eq_false_iff, Bool.or_eq_false_iff, Bool.not_eq_true', Bool.not_eq_false', Bool.not_eq_true, Bool.not_eq_false, Bool.true_eq_false, Bool.false_eq_true] at h
              obtain ⟨m, hm⟩ : ∃ m : Nat, ((lo : Nat) + (hi : Nat) : Int) / 2 = m := ⟨(lo + hi) / 2, by omega⟩
              have hmv : 0 ≤ ((m : Nat) : Int) ∧ ((m : Nat) : Int) ≤ 1000 := by omega
              refine awp_skip ?_
              refine awp_block ?_
              refine awp_seq ?_
              refine awp_region rfl (.n (fun _ => op_move (.plain rfl)) (.n (fun _ => op_move (.plain rfl)) (.n (fun _ => op_add (.plain rfl) (.plain rfl) ?_) (.n (fun _ => op_quo (.plain rfl) (.plain rfl) ?_) (.n (fun _ => op_assign (.plain rfl)) (.nil _)))))) ?_
              · unfold InR; omega
              · omega
              refine awp_seq ?_
              rw [hm]
              refine awp_region rfl (.n (fun _ => op_move (.plain rfl)) (.e (op_callO (vals := [_]) 71 Try.call39 ⟨⟨_, (.plain rfl), rfl⟩, trivial⟩ (clone_fc _ ?_) (by simp [PV.flat]) rfl) rfl (.n (fun _ => op_assign (.plain rfl)) (.nil _)))) ?_
              · first | omega | (simp; omega)
              refine awp_seq ?_
              refine awp_region rfl (.n (fun _ => op_move (.plain rfl)) (.n (fun _ => op_move (.plain rfl)) (.n (fun _ => op_move (.plain rfl)) (.r (op_indexAddrON Try.underlying27 Try.sizeOf3 (.plain rfl) rfl (.plain rfl) ?_) (.e (op_storeE _ Try.sizeOf3 (.plain rfl) (.plain rfl) rfl (fun _ => rfl) ?_ (by decide) rfl rfl) rfl (.nil _)))))) ?_
              · first | omega | (simp; omega)
              · first | omega | (simp; omega)
              refine awp_seq ?_
              refine awp_region rfl (.n (fun _ => op_move (.plain rfl)) (.n (fun _ => op_move (.plain rfl)) (.r (op_callL (vals := [_, _]) Try.call38 ⟨⟨_, (.plain rfl), rfl⟩, ⟨_, (.plain rfl), rfl⟩, trivial⟩ (wins_fc _ _ ?_) rfl) (.n (fun _ => op_move (.plain rfl)) (.n (fun _ => op_shr (.plain rfl) (.plain rfl) ?_) (.n (fun _ => op_bit (.plain rfl) ?_) (.n (fun _ => op_eql (.plain rfl) (.plain rfl)) (.nil _)))))))) ?_
              · exact hso.set hmv
              · omega
              · exact shr_nonneg (hso.set hmv).win.1 _
              refine awp_cond rfl (fun h => ?_) (fun h => ?_)
              · try simp only [decide_eq_true_eq, decide_eq_false_iff_not, Bool.and_eq_true, Bool.or_eq_true, Bool.and_eq_false_iff, Bool.or_eq_false_iff, Bool.not_eq_true', Bool.not_eq_false', Bool.not_eq_true, Bool.not_eq_false, Bool.true_eq_false, Bool.false_eq_true] at h
                have hh : hasF l sets i m = true := decide_eq_true h
                refine awp_region rfl (.n (fun _ => op_move (.plain rfl)) (.n (fun _ => op_assign (.plain rfl)) (.nil _))) ?_
                exact ⟨(lo, m), ⟨by dsimp only; omega, by dsimp only; omega, hlo, hh⟩, by dsimp only; omega, (Ent.kept ⟨rfl, rfl, rfl, rfl, rfl, rfl, rfl, rfl, rfl, rfl, trivial⟩ ⟨rfl, trivial⟩)⟩
              · try simp only [decide_eq_true_eq, decide_eq_false_iff_not, Bool.and_eq_true, Bool.or_eq_true, Bool.and_eq_false_iff, Bool.or_eq_false_iff, Bool.not_eq_true', Bool.not_eq_false', Bool.not_eq_true, Bool.not_eq_false, Bool.true_eq_false, Bool.false_eq_true] at h
                have hh : hasF l sets i m = false := decide_eq_false h
                refine awp_region rfl (.n (fun _ => op_move (.plain rfl)) (.n (fun _ => op_add (.plain rfl) (.plain rfl) ?_) (.n (fun _ => op_assign (.plain rfl)) (.nil _)))) ?_
                · unfold InR; omega
                exact ⟨(m + 1, hi), ⟨by dsimp only; omega, hhi, fun j hj => has_below (by omega) hs1.1 hh (show j ≤ m by dsimp only at hj; omega), hhas⟩, by dsimp only; omega, (Ent.kept ⟨rfl, rfl, rfl, rfl, rfl, rfl, rfl, rfl, rfl, rfl, trivial⟩ ⟨rfl, trivial⟩)⟩
            · try simp only [decide_eq_true_eq, decide_eq_false_iff_not, Bool.and_eq_true, Bool.or_eq_true, Bool.and_eq_false_iff, Bool.or_eq_false_iff, Bool.not_eq_true', Bool.not_eq_false', Bool.not_eq_true, Bool.not_eq_false, Bool.true_eq_false, Bool.false_eq_true] at h
              obtain rfl : lo = hi := by omega
              have hpay : ((lo : Nat) : Int) = payF l sets i := pay_yes h1 hhi hlo fun _ => hhas
              refine awp_exit ?_
              refine awp_region rfl (.n (fun _ => op_move (.plain rfl)) (.n (fun _ => op_assign (.plain rfl)) (.nil _))) ?_
              refine awp_region rfl (.n (fun _ => op_move (.plain rfl)) (.n (fun _ => op_move (.plain rfl)) (.n (fun _ => op_slit (pp := [(0, _)]) (α := Int) (d := 0) (f := (fun n => [.int .i64 n])) [_] ety27 rfl ⟨rfl, (.plain rfl), (by simp), trivial⟩ rfl (by decide) rfl) (.e (op_append (id' := 90) (α := Int) (d := 0) (f := (fun n => [.int .i64 n])) ety27 Try.underlying27 (fun _ => rfl) (fun _ => rfl) (.plain rfl) rfl (.plain rfl) rfl ?_) rfl (.n (fun _ => op_assign (.plain rfl)) (.nil _)))))) ?_
              · first | omega | (simp; omega)
              refine awp_region rfl (.n (fun _ => op_add (.plain rfl) (.plain rfl) ?_) (.n (fun _ => op_move (.plain rfl)) (.nil _))) ?_
              · unfold InR; omega
              exact ⟨i + 1, by omega, by dsimp only; omega, (Ent.round 90 1005 ⟨rfl, rfl, rfl, rfl, rfl, rfl, rfl, trivial⟩ ⟨(congrArg (fun l => some (Blk.arr 3 1 Int 0 (fun n => [.int .i64 n]) l)) ((congrArg (fun x => mapr i (payF l sets) ++ [x]) hpay).trans (mapr_snoc _ _))), trivial⟩ rfl rfl rfl ⟨rfl, rfl, rfl, rfl, rfl, rfl, rfl, trivial⟩ ⟨rfl, trivial⟩)⟩
          · try simp only [decide_eq_true_eq, decide_eq_false_iff_not, Bool.and_eq_true, Bool.or_eq_true, Bool.and_eq_false_iff, Bool.or_eq_false_iff, Bool.not_eq_true', Bool.not_eq_false', Bool.not_eq_true, Bool.not_eq_false, Bool.true_eq_false, Bool.false_eq_true] at h
            have hpay : (0 : Int) = payF l sets i := pay_no h
            refine awp_skip ?_
            refine awp_region rfl (.n (fun _ => op_move (.plain rfl)) (.n (fun _ => op_move (.plain rfl)) (.n (fun _ => op_slit (pp := [(0, _)]) (α := Int) (d := 0) (f := (fun n => [.int .i64 n])) [_] ety27 rfl ⟨rfl, (.plain rfl), (by simp), trivial⟩ rfl (by decide) rfl) (.e (op_append (id' := 90) (α := Int) (d := 0) (f := (fun n => [.int .i64 n])) ety27 Try.underlying27 (fun _ => rfl) (fun _ => rfl) (.plain rfl) rfl (.plain rfl) rfl ?_) rfl (.n (fun _ => op_assign (.plain rfl)) (.nil _)))))) ?_
            · first | omega | (simp; omega)
            refine awp_region rfl (.n (fun _ => op_add (.plain rfl) (.plain rfl) ?_) (.n (fun _ => op_move (.plain rfl)) (.nil _))) ?_
            · unfold InR; omega
            exact ⟨i + 1, by omega, by dsimp only; omega, (Ent.round 90 1005 ⟨rfl, rfl, rfl, rfl, rfl, rfl, rfl, trivial⟩ ⟨(congrArg (fun l => some (Blk.arr 3 1 Int 0 (fun n => [.int .i64 n]) l)) ((congrArg (fun x => mapr i (payF l sets) ++ [x]) hpay).trans (mapr_snoc _ _))), trivial⟩ rfl rfl rfl ⟨rfl, rfl, rfl, rfl, rfl, rfl, rfl, trivial⟩ ⟨rfl, trivial⟩)⟩
        · try simp only [decide_eq_true_eq, decide_eq_false_iff_not, Bool.and_eq_true, Bool.or_eq_true, Bool.and_eq_false_iff, Bool.or_eq_false_iff, Bool.not_eq_true', Bool.not_eq_false', Bool.not_eq_true, Bool.not_eq_false, Bool.true_eq_false, Bool.false_eq_true] at h
          refine awp_exit ?_
          refine awp_seq ?_
          refine awp_region rfl (.n (fun _ => op_move (.plain rfl)) (.n (fun _ => op_move (.plain rfl)) (.n (fun _ => op_assign (.plain rfl)) (.n (fun _ => op_assign (.plain rfl)) (.n (fun _ => op_assign (.plain rfl)) (.nil _)))))) ?_
          refine awp_ret ?_
          refine retQ.ret ?_
          refine ret3 rfl rfl rfl rfl rfl rfl rfl ?_
          obtain rfl : i = l.length := by omega
          rw [← he]

theorem AuctionSays_fc (l sets : List Int) : FC Try.prog 6 [.ints l, .ints sets] (.bool true) := by
  refine FC.intro Try.func6 rfl (Nat.le_of_ble_eq_true rfl) fun hfit => ?_
  obtain ⟨fitl0, fitr0⟩ := (hfit _ (.head _)).ints
  obtain ⟨fitl1, fitr1⟩ := (hfit _ (.tail _ (.head _))).ints
  refine awp_seq ?_
  refine awp_region rfl (.n (fun _ => op_assign (.plain rfl)) (.nil _)) ?_
  refine awp_seq ?_
  refine awp_seq ?_
  refine awp_region rfl (.n (fun _ => op_move (.plain rfl)) (.n (fun _ => op_len (s := 0) Try.underlying27 (.plain rfl)) (.n (fun _ => op_move (.plain rfl)) (.n (fun _ => op_len (s := 0) Try.underlying27 (.plain rfl)) (.n (fun _ => op_add (.plain rfl) (.plain rfl) ?_) (.n (fun _ => op_gtr (.plain rfl) (.plain rfl)) (.nil _))))))) ?_
  · unfold InR; omega
  refine awp_cond rfl (fun h => ?_) (fun h => ?_)
  · try simp only [decide_eq_true_eq, decide_eq_false_iff_not, Bool.and_eq_true, Bool.or_eq_true, Bool.and_eq_false_iff, Bool.or_eq_false_iff, Bool.not_eq_true', Bool.not_eq_false', Bool.not_eq_true, Bool.not_eq_false, Bool.true_eq_false, Bool.false_eq_true] at h
    refine awp_seq ?_
    refine awp_region rfl (.n (fun _ => op_assign (.plain rfl)) (.nil _)) ?_
    refine awp_ret ?_
    refine retQ.ret ?_
    refine ret1 rfl rfl rfl ?_
    first | rfl | simp
  · try simp only [decide_eq_true_eq, decide_eq_false_iff_not, Bool.and_eq_true, Bool.or_eq_true, Bool.and_eq_false_iff, Bool.or_eq_false_iff, Bool.not_eq_true', Bool.not_eq_false', Bool.not_eq_true, Bool.not_eq_false, Bool.true_eq_false, Bool.false_eq_true] at h
    refine awp_skip ?_
    refine awp_seq ?_
    refine awp_region rfl (.n (fun _ => op_move (.plain rfl)) (.n (fun _ => op_call1 Try.call17 (.plain rfl) (BidsMay_fc _)) (.n (fun _ => op_assign (.plain rfl)) (.nil _)))) ?_
    refine awp_seq ?_
    refine awp_region rfl (.n (fun _ => op_move (.plain rfl)) (.n (fun _ => op_call1 Try.call18 (.plain rfl) (First_fc _)) (.n (fun _ => op_move (.plain rfl)) (.n (fun _ => op_extract (.plain rfl) rfl) (.n (fun _ => op_extract (.plain rfl) rfl) (.n (fun _ => op_extract (.plain rfl) rfl) (.n (fun _ => op_assign (.plain rfl)) (.n (fun _ => op_assign (.plain rfl)) (.n (fun _ => op_assign (.plain rfl)) (.nil _)))))))))) ?_
    refine awp_seq ?_
    refine awp_region rfl (.n (fun _ => op_move (.plain rfl)) (.n (fun _ => op_call1 Try.call19 (.plain rfl) (Second_fc _)) (.n (fun _ => op_move (.plain rfl)) (.n (fun _ => op_extract (.plain rfl) rfl) (.n (fun _ => op_extract (.plain rfl) rfl) (.n (fun _ => op_extract (.plain rfl) rfl) (.n (fun _ => op_assign (.plain rfl)) (.n (fun _ => op_assign (.plain rfl)) (.n (fun _ => op_assign (.plain rfl)) (.nil _)))))))))) ?_
    refine awp_seq ?_
    refine awp_region rfl (.n (fun _ => op_move (.plain rfl)) (.n (fun _ => op_call1 Try.call20 (.plain rfl) (Clock_fc _)) (.n (fun _ => op_move (.plain rfl)) (.n (fun _ => op_extract (.plain rfl) rfl) (.n (fun _ => op_extract (.plain rfl) rfl) (.n (fun _ => op_extract (.plain rfl) rfl) (.n (fun _ => op_assign (.plain rfl)) (.n (fun _ => op_assign (.plain rfl)) (.n (fun _ => op_assign (.plain rfl)) (.nil _)))))))))) ?_
    refine awp_seq ?_
    refine awp_seq ?_
    refine awp_region rfl (.n (fun _ => op_move (.plain rfl)) (.n (fun _ => op_neq (.plain rfl) (.plain rfl)) (.nil _))) ?_
    refine awp_cond rfl (fun h => ?_) (fun h => ?_)
    · try simp only [decide_eq_true_eq, decide_eq_false_iff_not, Bool.and_eq_true, Bool.or_eq_true, Bool.and_eq_false_iff, Bool.or_eq_false_iff, Bool.not_eq_true', Bool.not_eq_false', Bool.not_eq_true, Bool.not_eq_false, Bool.true_eq_false, Bool.false_eq_true] at h
      simp only [if_neg h]
      refine awp_seq ?_
      refine awp_region rfl (.n (fun _ => op_move (.plain rfl)) (.n (fun _ => op_move (.plain rfl)) (.n (fun _ => op_neq (.plain rfl) (.plain rfl)) (.n (fun _ => op_move (.plain rfl)) (.gn rfl rfl (fun hg _ => op_move (.plain rfl)) (.gn rfl rfl (fun hg _ => op_move (.plain rfl)) (.gn rfl rfl (fun hg _ => op_neq (.opt rfl fun h => h) (.opt rfl fun h => h)) (.n (fun _ => op_or (.plain rfl) (.plain rfl) (.plain rfl) (fun h => eqF h)) (.n (fun _ => op_move (.plain rfl)) (.gn rfl rfl (fun hg _ => op_move (.plain rfl)) (.gn rfl rfl (fun hg _ => op_move (.plain rfl)) (.gn rfl rfl (fun hg _ => op_neq (.opt rfl fun h => h) (.opt rfl fun h => h)) (.n (fun _ => op_or (.plain rfl) (.plain rfl) (.plain rfl) (fun h => eqF h)) (.n (fun _ => op_move (.plain rfl)) (.gn rfl rfl (fun hg _ => op_move (.plain rfl)) (.gn rfl rfl (fun hg _ => op_move (.plain rfl)) (.gn rfl rfl (fun hg _ => op_add (.opt rfl fun h => h) (.opt rfl fun h => h) ?_) (.gn rfl rfl (fun hg _ => op_move (.plain rfl)) (.gn rfl rfl (fun hg _ => op_add (.opt rfl fun h => h) (.opt rfl fun h => h) ?_) (.gn rfl rfl (fun hg _ => op_move (.plain rfl)) (.gn rfl rfl (fun hg _ => op_add (.opt rfl fun h => h) (.opt rfl fun h => h) ?_) (.gn rfl rfl (fun hg _ => op_move (.plain rfl)) (.gn rfl rfl (fun hg _ => op_add (.opt rfl fun h => h) (.opt rfl fun h => h) ?_) (.gn rfl rfl (fun hg _ => op_move (.plain rfl)) (.gn rfl rfl (fun hg _ => op_add (.opt rfl fun h => h) (.opt rfl fun h => h) ?_) (.gn rfl rfl (fun hg _ => op_neq (.opt rfl fun h => h) (.plain rfl)) (.n (fun _ => op_or (.plain rfl) (.plain rfl) (.plain rfl) (fun h => eqF h)) (.nil _)))))))))))))))))))))))))))) ?_
      · try simp only [beq_iff_eq, beq_true, beq_false, Bool.and_eq_true, decide_eq_true_eq, decide_eq_false_iff_not, Bool.not_eq_true', Bool.or_eq_true, Bool.or_eq_false_iff] at hg
        unfold InR; omega
      · try simp only [beq_iff_eq, beq_true, beq_false, Bool.and_eq_true, decide_eq_true_eq, decide_eq_false_iff_not, Bool.not_eq_true', Bool.or_eq_true, Bool.or_eq_false_iff] at hg
        unfold InR; omega
      · try simp only [beq_iff_eq, beq_true, beq_false, Bool.and_eq_true, decide_eq_true_eq, decide_eq_false_iff_not, Bool.not_eq_true', Bool.or_eq_true, Bool.or_eq_false_iff] at hg
        unfold InR; omega
      · try simp only [beq_iff_eq, beq_true, beq_false, Bool.and_eq_true, decide_eq_true_eq, decide_eq_false_iff_not, Bool.not_eq_true', Bool.or_eq_true, Bool.or_eq_false_iff] at hg
        unfold InR; omega
      · try simp only [beq_iff_eq, beq_true, beq_false, Bool.and_eq_true, decide_eq_true_eq, decide_eq_false_iff_not, Bool.not_eq_true', Bool.or_eq_true, Bool.or_eq_false_iff] at hg
        unfold InR; omega
      refine awp_cond rfl (fun h => ?_) (fun h => ?_)
      · try simp only [decide_eq_true_eq, decide_eq_false_iff_not, Bool.and_eq_true, Bool.or_eq_true, Bool.and_eq_false_iff, Bool.or_eq_false_iff, Bool.not_eq_true', Bool.not_eq_false', Bool.not_eq_true, Bool.not_eq_false, Bool.true_eq_false, Bool.false_eq_true] at h
        exfalso
        simp at h
      · try simp only [decide_eq_true_eq, decide_eq_false_iff_not, Bool.and_eq_true, Bool.or_eq_true, Bool.and_eq_false_iff, Bool.or_eq_false_iff, Bool.not_eq_true', Bool.not_eq_false', Bool.not_eq_true, Bool.not_eq_false, Bool.true_eq_false, Bool.false_eq_true] at h
        refine awp_skip ?_
        refine awp_seq ?_
        refine awp_region rfl (.n (fun _ => op_move (.plain rfl)) (.n (fun _ => op_move (.plain rfl)) (.n (fun _ => op_call2 Try.call23 (.plain rfl) (.plain rfl) (Slots_fc _ _)) (.n (fun _ => op_move (.plain rfl)) (.n (fun _ => op_extract (.plain rfl) rfl) (.n (fun _ => op_extract (.plain rfl) rfl) (.n (fun _ => op_extract (.plain rfl) rfl) (.n (fun _ => op_assign (.plain rfl)) (.n (fun _ => op_assign (.plain rfl)) (.n (fun _ => op_assign (.plain rfl)) (.nil _))))))))))) ?_
        refine awp_seq ?_
        refine awp_region rfl (.n (fun _ => op_move (.plain rfl)) (.n (fun _ => op_move (.plain rfl)) (.n (fun _ => op_call2 Try.call24 (.plain rfl) (.plain rfl) (SlotsMay_fc _ _)) (.n (fun _ => op_assign (.plain rfl)) (.nil _))))) ?_
        refine awp_seq ?_
        refine awp_seq ?_
        refine awp_region rfl (.n (fun _ => op_move (.plain rfl)) (.n (fun _ => op_neq (.plain rfl) (.plain rfl)) (.nil _))) ?_
        refine awp_cond rfl (fun h => ?_) (fun h => ?_)
        · try simp only [decide_eq_true_eq, decide_eq_false_iff_not, Bool.and_eq_true, Bool.or_eq_true, Bool.and_eq_false_iff, Bool.or_eq_false_iff, Bool.not_eq_true', Bool.not_eq_false', Bool.not_eq_true, Bool.not_eq_false, Bool.true_eq_false, Bool.false_eq_true] at h
          simp only [if_neg h]
          refine awp_seq ?_
          refine awp_region rfl (.n (fun _ => op_move (.plain rfl)) (.n (fun _ => op_move (.plain rfl)) (.n (fun _ => op_eql (.plain rfl) (.plain rfl)) (.n (fun _ => op_move (.plain rfl)) (.gn rfl rfl (fun hg _ => op_move (.plain rfl)) (.gn rfl rfl (fun hg _ => op_eql (.opt rfl fun h => h) (.plain rfl)) (.n (fun _ => op_and (.plain rfl) (.plain rfl) (.plain rfl) (fun h => eqT h)) (.n (fun _ => op_move (.plain rfl)) (.gn rfl rfl (fun hg _ => op_move (.plain rfl)) (.gn rfl rfl (fun hg _ => op_len (s := 0) Try.underlying27 (.opt rfl fun h => h)) (.gn rfl rfl (fun hg _ => op_eql (.opt rfl fun h => h) (.plain rfl)) (.n (fun _ => op_and (.plain rfl) (.plain rfl) (.plain rfl) (fun h => eqT h)) (.n (fun _ => op_assign (.plain rfl)) (.nil _)))))))))))))) ?_
          refine awp_ret ?_
          refine retQ.ret ?_
          refine ret1 rfl rfl rfl ?_
          first | rfl | simp
        · try simp only [decide_eq_true_eq, decide_eq_false_iff_not, Bool.and_eq_true, Bool.or_eq_true, Bool.and_eq_false_iff, Bool.or_eq_false_iff, Bool.not_eq_true', Bool.not_eq_false', Bool.not_eq_true, Bool.not_eq_false, Bool.true_eq_false, Bool.false_eq_true] at h
          have hso := SlotsOk.of h
          simp only [if_pos h]
          have hse := h
          refine awp_skip ?_
          refine awp_seq ?_
          refine awp_seq ?_
          refine awp_region rfl (.n (fun _ => op_move (.plain rfl)) (.n (fun _ => op_neq (.plain rfl) (.plain rfl)) (.n (fun _ => op_move (.plain rfl)) (.gn rfl rfl (fun hg _ => op_move (.plain rfl)) (.gn rfl rfl (fun hg _ => op_move (.plain rfl)) (.gn rfl rfl (fun hg _ => op_move (.plain rfl)) (.gn rfl rfl (fun hg _ => op_call2 Try.call25 (.opt rfl fun h => h) (.opt rfl fun h => h) (SlotsWin_fc _ _ ?_)) (.gn rfl rfl (fun hg _ => op_neq (.opt rfl fun h => h) (.opt rfl fun h => h)) (.n (fun _ => op_or (.plain rfl) (.plain rfl) (.plain rfl) (fun h => eqF h)) (.n (fun _ => op_move (.plain rfl)) (.gn rfl rfl (fun hg _ => op_move (.plain rfl)) (.gn rfl rfl (fun hg _ => op_len (s := 0) Try.underlying27 (.opt rfl fun h => h)) (.gn rfl rfl (fun hg _ => op_move (.plain rfl)) (.gn rfl rfl (fun hg _ => op_len (s := 0) Try.underlying27 (.opt rfl fun h => h)) (.gn rfl rfl (fun hg _ => op_neq (.opt rfl fun h => h) (.opt rfl fun h => h)) (.n (fun _ => op_or (.plain rfl) (.plain rfl) (.plain rfl) (fun h => eqF h)) (.nil _))))))))))))))))) ?_
          · try simp only [beq_iff_eq, beq_true, beq_false, Bool.and_eq_true, decide_eq_true_eq, decide_eq_false_iff_not, Bool.not_eq_true', Bool.or_eq_true, Bool.or_eq_false_iff] at hg
            assumption
          refine awp_cond rfl (fun h => ?_) (fun h => ?_)
          · try simp only [decide_eq_true_eq, decide_eq_false_iff_not, Bool.and_eq_true, Bool.or_eq_true, Bool.and_eq_false_iff, Bool.or_eq_false_iff, Bool.not_eq_true', Bool.not_eq_false', Bool.not_eq_true, Bool.not_eq_false, Bool.true_eq_false, Bool.false_eq_true] at h
            exfalso
            rw [hse] at h
            simp at h
          · try simp only [decide_eq_true_eq, decide_eq_false_iff_not, Bool.and_eq_true, Bool.or_eq_true, Bool.and_eq_false_iff, Bool.or_eq_false_iff, Bool.not_eq_true', Bool.not_eq_false', Bool.not_eq_true, Bool.not_eq_false, Bool.true_eq_false, Bool.false_eq_true] at h
            refine awp_skip ?_
            refine awp_seq ?_
            refine awp_seq ?_
            refine awp_region rfl (.n (fun _ => op_assign (.plain rfl)) (.nil _)) ?_
            refine awp_block ?_
            refine awp_loop (σ := Nat) (fun (k : Nat) => k ≤ l.length) (fun (k : Nat) => ⟨[(0, .pv (.ints l)), (1, .pv (.ints sets)), (21, .pv (.ints (mapr l.length (payF l sets)))), (22, .int (k : Nat))], []⟩) (fun (k : Nat) => l.length - k) 0 ?_ (Ent.kept ⟨rfl, rfl, rfl, rfl, trivial⟩ trivial) ?_
            · simp
            rintro k hp
            try dsimp only at hp
            have hml : (mapr l.length (payF l sets)).length = l.length := mapr_length _ _
            refine awp_seq ?_
            refine awp_seq ?_
            refine awp_region rfl (.n (fun _ => op_move (.plain rfl)) (.n (fun _ => op_move (.plain rfl)) (.n (fun _ => op_len (s := 0) Try.underlying27 (.plain rfl)) (.n (fun _ => op_lss (.plain rfl) (.plain rfl)) (.nil _))))) ?_
            refine awp_cond rfl (fun h => ?_) (fun h => ?_)
            · try simp only [decide_eq_true_eq, decide_eq_false_iff_not, Bool.and_eq_true, Bool.or_eq_true, Bool.and_eq_false_iff, Bool.or_eq_false_iff, Bool.not_eq_true', Bool.not_eq_false', Bool.not_eq_true, Bool.not_eq_false, Bool.true_eq_false, Bool.false_eq_true] at h
              refine awp_skip ?_
              refine awp_seq ?_
              refine awp_block ?_
              refine awp_seq ?_
              refine awp_region_draw mixed rfl (.n (fun _ => op_move (.plain rfl)) (.n (fun _ => op_move (.plain rfl)) (.n (fun _ => op_indexAddrN Try.underlying27 Try.sizeOf3 (.plain rfl) (.plain rfl) (fun _ => rfl) ?_) (.n (fun _ => op_load Try.isAgg3 (.plain rfl)) (.n (fun _ => op_move (.plain rfl)) (.n (fun _ => op_move (.plain rfl)) (.n (fun _ => op_move (.plain rfl)) (.n (fun _ => op_call3 Try.call26 (.plain rfl) (.plain rfl) (.plain rfl) (SlotsPay_fc _ _ _ ?_ ?_)) (.n (fun _ => op_neq (.plain rfl) (.plain rfl)) (.nil _)))))))))) ?d6 ?_
              · omega
              · assumption
              · omega
              · kernel_rfl
              refine awp_cond rfl (fun h => ?_) (fun h => ?_)
              · try simp only [decide_eq_true_eq, decide_eq_false_iff_not, Bool.and_eq_true, Bool.or_eq_true, Bool.and_eq_false_iff, Bool.or_eq_false_iff, Bool.not_eq_true', Bool.not_eq_false', Bool.not_eq_true, Bool.not_eq_false, Bool.true_eq_false, Bool.false_eq_true] at h
                exfalso
                rw [mapr_getD _ (by omega)] at h
                exact h rfl
              · try simp only [decide_eq_true_eq, decide_eq_false_iff_not, Bool.and_eq_true, Bool.or_eq_true, Bool.and_eq_false_iff, Bool.or_eq_false_iff, Bool.not_eq_true', Bool.not_eq_false', Bool.not_eq_true, Bool.not_eq_false, Bool.true_eq_false, Bool.false_eq_true] at h
                refine awp_skip ?_
                refine awp_region rfl (.n (fun _ => op_move (.plain rfl)) (.n (fun _ => op_add (.plain rfl) (.plain rfl) ?_) (.n (fun _ => op_assign (.plain rfl)) (.nil _)))) ?_
                · unfold InR; omega
                exact ⟨k + 1, by omega, by dsimp only; omega, (Ent.kept ⟨rfl, rfl, rfl, rfl, trivial⟩ trivial)⟩
            · try simp only [decide_eq_true_eq, decide_eq_false_iff_not, Bool.and_eq_true, Bool.or_eq_true, Bool.and_eq_false_iff, Bool.or_eq_false_iff, Bool.not_eq_true', Bool.not_eq_false', Bool.not_eq_true, Bool.not_eq_false, Bool.true_eq_false, Bool.false_eq_true] at h
              refine awp_exit ?_
              refine awp_seq ?_
              refine awp_region rfl (.n (fun _ => op_assign (.plain rfl)) (.nil _)) ?_
              refine awp_ret ?_
              refine retQ.ret ?_
              refine ret1 rfl rfl rfl ?_
              first | rfl | simp
    · try simp only [decide_eq_true_eq, decide_eq_false_iff_not, Bool.and_eq_true, Bool.or_eq_true, Bool.and_eq_false_iff, Bool.or_eq_false_iff, Bool.not_eq_true', Bool.not_eq_false', Bool.not_eq_true, Bool.not_eq_false, Bool.true_eq_false, Bool.false_eq_true] at h
      simp only [if_pos h]
      have hb0 := h
      have hok := BidsOk.of h
      have hl := hok.len
      have htl := (topTo_spec (l := l) hl.1).1
      have hsec : 0 ≤ secF l := secTo_spec.1
      refine awp_seq ?_
      refine awp_region rfl (.n (fun _ => op_move (.plain rfl)) (.n (fun _ => op_call1 Try.call21 (.plain rfl) (Winner_fc _ ?_)) (.n (fun _ => op_move (.plain rfl)) (.n (fun _ => op_extract (.plain rfl) rfl) (.n (fun _ => op_extract (.plain rfl) rfl) (.n (fun _ => op_extract (.plain rfl) rfl) (.n (fun _ => op_assign (.plain rfl)) (.n (fun _ => op_assign (.plain rfl)) (.n (fun _ => op_assign (.plain rfl)) (.nil _)))))))))) ?_
      · omega
      refine awp_seq ?_
      refine awp_region rfl (.n (fun _ => op_move (.plain rfl)) (.n (fun _ => op_call1 Try.call22 (.plain rfl) (ClockR_fc _ ?_)) (.n (fun _ => op_move (.plain rfl)) (.n (fun _ => op_extract (.plain rfl) rfl) (.n (fun _ => op_extract (.plain rfl) rfl) (.n (fun _ => op_assign (.plain rfl)) (.n (fun _ => op_assign (.plain rfl)) (.nil _)))))))) ?_
      · assumption
      refine awp_seq ?_
      refine awp_region rfl (.n (fun _ => op_move (.plain rfl)) (.n (fun _ => op_neq (.plain rfl) (.plain rfl)) (.n (fun _ => op_move (.plain rfl)) (.gn rfl rfl (fun hg _ => op_move (.plain rfl)) (.gn rfl rfl (fun hg _ => op_neq (.opt rfl fun h => h) (.plain rfl)) (.n (fun _ => op_or (.plain rfl) (.plain rfl) (.plain rfl) (fun h => eqF h)) (.n (fun _ => op_move (.plain rfl)) (.gn rfl rfl (fun hg _ => op_move (.plain rfl)) (.gn rfl rfl (fun hg _ => op_neq (.opt rfl fun h => h) (.plain rfl)) (.n (fun _ => op_or (.plain rfl) (.plain rfl) (.plain rfl) (fun h => eqF h)) (.n (fun _ => op_move (.plain rfl)) (.gn rfl rfl (fun hg _ => op_move (.plain rfl)) (.gn rfl rfl (fun hg _ => op_move (.plain rfl)) (.gn rfl rfl (fun hg _ => op_neq (.opt rfl fun h => h) (.opt rfl fun h => h)) (.n (fun _ => op_or (.plain rfl) (.plain rfl) (.plain rfl) (fun h => eqF h)) (.n (fun _ => op_move (.plain rfl)) (.gn rfl rfl (fun hg _ => op_move (.plain rfl)) (.gn rfl rfl (fun hg _ => op_move (.plain rfl)) (.gn rfl rfl (fun hg _ => op_neq (.opt rfl fun h => h) (.opt rfl fun h => h)) (.n (fun _ => op_or (.plain rfl) (.plain rfl) (.plain rfl) (fun h => eqF h)) (.n (fun _ => op_move (.plain rfl)) (.gn rfl rfl (fun hg _ => op_move (.plain rfl)) (.gn rfl rfl (fun hg _ => op_move (.plain rfl)) (.gn rfl rfl (fun hg _ => op_neq (.opt rfl fun h => h) (.opt rfl fun h => h)) (.n (fun _ => op_or (.plain rfl) (.plain rfl) (.plain rfl) (fun h => eqF h)) (.n (fun _ => op_move (.plain rfl)) (.gn rfl rfl (fun hg _ => op_move (.plain rfl)) (.gn rfl rfl (fun hg _ => op_move (.plain rfl)) (.gn rfl rfl (fun hg _ => op_neq (.opt rfl fun h => h) (.opt rfl fun h => h)) (.n (fun _ => op_or (.plain rfl) (.plain rfl) (.plain rfl) (fun h => eqF h)) (.n (fun _ => op_move (.plain rfl)) (.gn rfl rfl (fun hg _ => op_move (.plain rfl)) (.gn rfl rfl (fun hg _ => op_move (.plain rfl)) (.gn rfl rfl (fun hg _ => op_neq (.opt rfl fun h => h) (.opt rfl fun h => h)) (.n (fun _ => op_or (.plain rfl) (.plain rfl) (.plain rfl) (fun h => eqF h)) (.n (fun _ => op_move (.plain rfl)) (.gn rfl rfl (fun hg _ => op_move (.plain rfl)) (.gn rfl rfl (fun hg _ => op_move (.plain rfl)) (.gn rfl rfl (fun hg _ => op_neq (.opt rfl fun h => h) (.opt rfl fun h => h)) (.n (fun _ => op_or (.plain rfl) (.plain rfl) (.plain rfl) (fun h => eqF h)) (.nil _))))))))))))))))))))))))))))))))))))))))) ?_
      refine awp_cond rfl (fun h => ?_) (fun h => ?_)
      · try simp only [decide_eq_true_eq, decide_eq_false_iff_not, Bool.and_eq_true, Bool.or_eq_true, Bool.and_eq_false_iff, Bool.or_eq_false_iff, Bool.not_eq_true', Bool.not_eq_false', Bool.not_eq_true, Bool.not_eq_false, Bool.true_eq_false, Bool.false_eq_true] at h
        exfalso
        rw [hb0] at h
        simp at h
      · try simp only [decide_eq_true_eq, decide_eq_false_iff_not, Bool.and_eq_true, Bool.or_eq_true, Bool.and_eq_false_iff, Bool.or_eq_false_iff, Bool.not_eq_true', Bool.not_eq_false', Bool.not_eq_true, Bool.not_eq_false, Bool.true_eq_false, Bool.false_eq_true] at h
        refine awp_skip ?_
        refine awp_seq ?_
        refine awp_region rfl (.n (fun _ => op_move (.plain rfl)) (.n (fun _ => op_move (.plain rfl)) (.n (fun _ => op_call2 Try.call23 (.plain rfl) (.plain rfl) (Slots_fc _ _)) (.n (fun _ => op_move (.plain rfl)) (.n (fun _ => op_extract (.plain rfl) rfl) (.n (fun _ => op_extract (.plain rfl) rfl) (.n (fun _ => op_extract (.plain rfl) rfl) (.n (fun _ => op_assign (.plain rfl)) (.n (fun _ => op_assign (.plain rfl)) (.n (fun _ => op_assign (.plain rfl)) (.nil _))))))))))) ?_
        refine awp_seq ?_
        refine awp_region rfl (.n (fun _ => op_move (.plain rfl)) (.n (fun _ => op_move (.plain rfl)) (.n (fun _ => op_call2 Try.call24 (.plain rfl) (.plain rfl) (SlotsMay_fc _ _)) (.n (fun _ => op_assign (.plain rfl)) (.nil _))))) ?_
        refine awp_seq ?_
        refine awp_seq ?_
        refine awp_region rfl (.n (fun _ => op_move (.plain rfl)) (.n (fun _ => op_neq (.plain rfl) (.plain rfl)) (.nil _))) ?_
        refine awp_cond rfl (fun h => ?_) (fun h => ?_)
        · try simp only [decide_eq_true_eq, decide_eq_false_iff_not, Bool.and_eq_true, Bool.or_eq_true, Bool.and_eq_false_iff, Bool.or_eq_false_iff, Bool.not_eq_true', Bool.not_eq_false', Bool.not_eq_true, Bool.not_eq_false, Bool.true_eq_false, Bool.false_eq_true] at h
          simp only [if_neg h]
          refine awp_seq ?_
          refine awp_region rfl (.n (fun _ => op_move (.plain rfl)) (.n (fun _ => op_move (.plain rfl)) (.n (fun _ => op_eql (.plain rfl) (.plain rfl)) (.n (fun _ => op_move (.plain rfl)) (.gn rfl rfl (fun hg _ => op_move (.plain rfl)) (.gn rfl rfl (fun hg _ => op_eql (.opt rfl fun h => h) (.plain rfl)) (.n (fun _ => op_and (.plain rfl) (.plain rfl) (.plain rfl) (fun h => eqT h)) (.n (fun _ => op_move (.plain rfl)) (.gn rfl rfl (fun hg _ => op_move (.plain rfl)) (.gn rfl rfl (fun hg _ => op_len (s := 0) Try.underlying27 (.opt rfl fun h => h)) (.gn rfl rfl (fun hg _ => op_eql (.opt rfl fun h => h) (.plain rfl)) (.n (fun _ => op_and (.plain rfl) (.plain rfl) (.plain rfl) (fun h => eqT h)) (.n (fun _ => op_assign (.plain rfl)) (.nil _)))))))))))))) ?_
          refine awp_ret ?_
          refine retQ.ret ?_
          refine ret1 rfl rfl rfl ?_
          first | rfl | simp
        · try simp only [decide_eq_true_eq, decide_eq_false_iff_not, Bool.and_eq_true, Bool.or_eq_true, Bool.and_eq_false_iff, Bool.or_eq_false_iff, Bool.not_eq_true', Bool.not_eq_false', Bool.not_eq_true, Bool.not_eq_false, Bool.true_eq_false, Bool.false_eq_true] at h
          have hso := SlotsOk.of h
          simp only [if_pos h]
          have hse := h
          refine awp_skip ?_
          refine awp_seq ?_
          refine awp_seq ?_
          refine awp_region rfl (.n (fun _ => op_move (.plain rfl)) (.n (fun _ => op_neq (.plain rfl) (.plain rfl)) (.n (fun _ => op_move (.plain rfl)) (.gn rfl rfl (fun hg _ => op_move (.plain rfl)) (.gn rfl rfl (fun hg _ => op_move (.plain rfl)) (.gn rfl rfl (fun hg _ => op_move (.plain rfl)) (.gn rfl rfl (fun hg _ => op_call2 Try.call25 (.opt rfl fun h => h) (.opt rfl fun h => h) (SlotsWin_fc _ _ ?_)) (.gn rfl rfl (fun hg _ => op_neq (.opt rfl fun h => h) (.opt rfl fun h => h)) (.n (fun _ => op_or (.plain rfl) (.plain rfl) (.plain rfl) (fun h => eqF h)) (.n (fun _ => op_move (.plain rfl)) (.gn rfl rfl (fun hg _ => op_move (.plain rfl)) (.gn rfl rfl (fun hg _ => op_len (s := 0) Try.underlying27 (.opt rfl fun h => h)) (.gn rfl rfl (fun hg _ => op_move (.plain rfl)) (.gn rfl rfl (fun hg _ => op_len (s := 0) Try.underlying27 (.opt rfl fun h => h)) (.gn rfl rfl (fun hg _ => op_neq (.opt rfl fun h => h) (.opt rfl fun h => h)) (.n (fun _ => op_or (.plain rfl) (.plain rfl) (.plain rfl) (fun h => eqF h)) (.nil _))))))))))))))))) ?_
          · try simp only [beq_iff_eq, beq_true, beq_false, Bool.and_eq_true, decide_eq_true_eq, decide_eq_false_iff_not, Bool.not_eq_true', Bool.or_eq_true, Bool.or_eq_false_iff] at hg
            assumption
          refine awp_cond rfl (fun h => ?_) (fun h => ?_)
          · try simp only [decide_eq_true_eq, decide_eq_false_iff_not, Bool.and_eq_true, Bool.or_eq_true, Bool.and_eq_false_iff, Bool.or_eq_false_iff, Bool.not_eq_true', Bool.not_eq_false', Bool.not_eq_true, Bool.not_eq_false, Bool.true_eq_false, Bool.false_eq_true] at h
            exfalso
            rw [hse] at h
            simp at h
          · try simp only [decide_eq_true_eq, decide_eq_false_iff_not, Bool.and_eq_true, Bool.or_eq_true, Bool.and_eq_false_iff, Bool.or_eq_false_iff, Bool.not_eq_true', Bool.not_eq_false', Bool.not_eq_true, Bool.not_eq_false, Bool.true_eq_false, Bool.false_eq_true] at h
            refine awp_skip ?_
            refine awp_seq ?_
            refine awp_seq ?_
            refine awp_region rfl (.n (fun _ => op_assign (.plain rfl)) (.nil _)) ?_
            refine awp_block ?_
            refine awp_loop (σ := Nat) (fun (k : Nat) => k ≤ l.length) (fun (k : Nat) => ⟨[(0, .pv (.ints l)), (1, .pv (.ints sets)), (21, .pv (.ints (mapr l.length (payF l sets)))), (22, .int (k : Nat))], []⟩) (fun (k : Nat) => l.length - k) 0 ?_ (Ent.kept ⟨rfl, rfl, rfl, rfl, trivial⟩ trivial) ?_
            · simp
            rintro k hp
            try dsimp only at hp
            have hml : (mapr l.length (payF l sets)).length = l.length := mapr_length _ _
            refine awp_seq ?_
            refine awp_seq ?_
            refine awp_region rfl (.n (fun _ => op_move (.plain rfl)) (.n (fun _ => op_move (.plain rfl)) (.n (fun _ => op_len (s := 0) Try.underlying27 (.plain rfl)) (.n (fun _ => op_lss (.plain rfl) (.plain rfl)) (.nil _))))) ?_
            refine awp_cond rfl (fun h => ?_) (fun h => ?_)
            · try simp only [decide_eq_true_eq, decide_eq_false_iff_not, Bool.and_eq_true, Bool.or_eq_true, Bool.and_eq_false_iff, Bool.or_eq_false_iff, Bool.not_eq_true', Bool.not_eq_false', Bool.not_eq_true, Bool.not_eq_false, Bool.true_eq_false, Bool.false_eq_true] at h
              refine awp_skip ?_
              refine awp_seq ?_
              refine awp_block ?_
              refine awp_seq ?_
              refine awp_region_draw mixed rfl (.n (fun _ => op_move (.plain rfl)) (.n (fun _ => op_move (.plain rfl)) (.n (fun _ => op_indexAddrN Try.underlying27 Try.sizeOf3 (.plain rfl) (.plain rfl) (fun _ => rfl) ?_) (.n (fun _ => op_load Try.isAgg3 (.plain rfl)) (.n (fun _ => op_move (.plain rfl)) (.n (fun _ => op_move (.plain rfl)) (.n (fun _ => op_move (.plain rfl)) (.n (fun _ => op_call3 Try.call26 (.plain rfl) (.plain rfl) (.plain rfl) (SlotsPay_fc _ _ _ ?_ ?_)) (.n (fun _ => op_neq (.plain rfl) (.plain rfl)) (.nil _)))))))))) ?d7 ?_
              · omega
              · assumption
              · omega
              · kernel_rfl
              refine awp_cond rfl (fun h => ?_) (fun h => ?_)
              · try simp only [decide_eq_true_eq, decide_eq_false_iff_not, Bool.and_eq_true, Bool.or_eq_true, Bool.and_eq_false_iff, Bool.or_eq_false_iff, Bool.not_eq_true', Bool.not_eq_false', Bool.not_eq_true, Bool.not_eq_false, Bool.true_eq_false, Bool.false_eq_true] at h
                exfalso
                rw [mapr_getD _ (by omega)] at h
                exact h rfl
              · try simp only [decide_eq_true_eq, decide_eq_false_iff_not, Bool.and_eq_true, Bool.or_eq_true, Bool.and_eq_false_iff, Bool.or_eq_false_iff, Bool.not_eq_true', Bool.not_eq_false', Bool.not_eq_true, Bool.not_eq_false, Bool.true_eq_false, Bool.false_eq_true] at h
                refine awp_skip ?_
                refine awp_region rfl (.n (fun _ => op_move (.plain rfl)) (.n (fun _ => op_add (.plain rfl) (.plain rfl) ?_) (.n (fun _ => op_assign (.plain rfl)) (.nil _)))) ?_
                · unfold InR; omega
                exact ⟨k + 1, by omega, by dsimp only; omega, (Ent.kept ⟨rfl, rfl, rfl, rfl, trivial⟩ trivial)⟩
            · try simp only [decide_eq_true_eq, decide_eq_false_iff_not, Bool.and_eq_true, Bool.or_eq_true, Bool.and_eq_false_iff, Bool.or_eq_false_iff, Bool.not_eq_true', Bool.not_eq_false', Bool.not_eq_true, Bool.not_eq_false, Bool.true_eq_false, Bool.false_eq_true] at h
              refine awp_exit ?_
              refine awp_seq ?_
              refine awp_region rfl (.n (fun _ => op_assign (.plain rfl)) (.nil _)) ?_
              refine awp_ret ?_
              refine retQ.ret ?_
              refine ret1 rfl rfl rfl ?_
              first | rfl | simp

end Go.Proofs.Ytdllochcdcgaeaa

