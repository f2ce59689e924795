/- The functions that TopHouse reaches, on plain values. Conditions: each theorem names its own. -/
import Derived.Test.YtjefdibmfhbifaaProg
import Derived.Test.YtjefdibmfhbifaaAbsC
namespace Go.Proofs.Ytjefdibmfhbifaa
open Go.Abs
set_option linter.unusedVariables false
set_option linter.unusedSimpArgs false

theorem mixed : Try.prog.follows .mixedOrders = true := by kernel_rfl
theorem ety22 : ElemTy Try.prog 22 3 1 8 (.int .i64 0) := ⟨Try.underlying22, ⟨Try.t3, by kernel_rfl, by kernel_rfl, by kernel_rfl, by kernel_rfl⟩, by kernel_rfl, by decide, by decide⟩

def pickF (c n : Int) : Int := (if c < 0 then -(c + 1) else c) % n
theorem pickF_range (c n : Int) (h : 1 ≤ n) : 0 ≤ pickF c n ∧ pickF c n < n := by
  unfold pickF
  exact ⟨Int.emod_nonneg _ (by omega), Int.emod_lt_of_pos _ (by omega)⟩
def atF (raw : List Int) (k : Nat) : Int := if raw.length = 0 then 0 else raw.getD (k % raw.length) 0
def upF (n : Nat) : List Int := (List.range n).map fun (i : Nat) => (i : Int)
theorem upF_succ (n : Nat) : upF (n + 1) = upF n ++ [(n : Int)] := by simp [upF, List.range_succ]
@[simp] theorem upF_length (n : Nat) : (upF n).length = n := by simp [upF]

theorem mul_bd {a b A B : Int} (h1 : 0 ≤ a) (h2 : a ≤ A) (h3 : 0 ≤ b) (h4 : b ≤ B) : 0 ≤ a * b ∧ a * b ≤ A * B :=
  ⟨Int.mul_nonneg h1 h3, Int.mul_le_mul h2 h4 h3 (by omega)⟩
def voteF (raw : List Int) (k : Nat) : Int := pickF (atF raw k) 3000 * pickF (atF raw (k + 1)) 30
theorem voteF_bd (raw : List Int) (k : Nat) : 0 ≤ voteF raw k ∧ voteF raw k ≤ 100000 := by
  have h1 := pickF_range (atF raw k) 3000 (by omega)
  have h2 := pickF_range (atF raw (k + 1)) 30 (by omega)
  have := mul_bd h1.1 (show _ ≤ 2999 by omega) h2.1 (show _ ≤ 29 by omega)
  unfold voteF; omega
def votesTo (raw : List Int) (n : Nat) : List Int := (List.range n).map (voteF raw)
theorem votesTo_succ (raw : List Int) (n : Nat) : votesTo raw (n + 1) = votesTo raw n ++ [voteF raw n] := by simp [votesTo, List.range_succ]
@[simp] theorem votesTo_length (raw : List Int) (n : Nat) : (votesTo raw n).length = n := by simp [votesTo]
theorem votesTo_getD {raw : List Int} {n : Nat} (h : 1 ≤ n) : (votesTo raw n).getD (Int.toNat 0) 0 = voteF raw 0 := by
  simp [votesTo, List.getD_eq_getElem?_getD, show 0 < n by omega]
def votesN (raw : List Int) : Nat := (1 + pickF raw.length 6).toNat
def votesF (raw : List Int) : List Int := (votesTo raw (votesN raw)).set 0 (voteF raw 0 + 1)
theorem votesN_bd (raw : List Int) : 1 ≤ votesN raw ∧ votesN raw ≤ 6 := by
  have := pickF_range raw.length 6 (by omega)
  unfold votesN; omega
theorem votesF_ok (raw : List Int) : (1 ≤ (votesF raw).length ∧ (votesF raw).length ≤ 8) ∧ (∀ x, x ∈ votesF raw → 0 ≤ x ∧ x ≤ 1000000) ∧ 0 < (votesF raw).getD 0 0 := by
  have hn := votesN_bd raw
  refine ⟨by simp [votesF]; omega, fun x hx => ?_, ?_⟩
  · unfold votesF at hx
    rcases List.mem_or_eq_of_mem_set hx with h | h
    · obtain ⟨k, _, rfl⟩ := List.mem_map.1 (show x ∈ (List.range (votesN raw)).map (voteF raw) from h)
      have := voteF_bd raw k; omega
    · have := voteF_bd raw 0; omega
  · have h0 : 0 < (votesTo raw (votesN raw)).length := by simp; omega
    have : (votesF raw).getD 0 0 = voteF raw 0 + 1 := by
      simp [votesF, List.getD_eq_getElem?_getD, List.getElem?_set, h0, show 0 < votesN raw by omega]
    have := voteF_bd raw 0; omega

def weightF (rule s : Int) : Int := if rule = 1 then 2 * s else if rule = 2 then s * (s + 1) else if rule = 3 then 2 * s + 1 else 2 * (s + 1)
def squareF (rule v : Int) : Int := if rule = 2 then v * v else v
def beforeF (rule v s v' s' : Int) : Bool :=
  if weightF rule s = 0 ∧ weightF rule s' = 0 then decide (v' < v) else decide (squareF rule v' * weightF rule s < squareF rule v * weightF rule s')
theorem weightF_bd (rule s : Int) (h : 0 ≤ s ∧ s ≤ 1000) : 0 ≤ weightF rule s ∧ weightF rule s ≤ 2000000 := by
  have := mul_bd h.1 h.2 (show 0 ≤ s + 1 by omega) (show s + 1 ≤ 1001 by omega)
  unfold weightF
  split
  · omega
  · split
    · omega
    · split <;> omega
theorem squareF_bd (rule v : Int) (h : 0 ≤ v ∧ v ≤ 1000000) : 0 ≤ squareF rule v ∧ squareF rule v ≤ 1000000000000 := by
  have := mul_bd h.1 h.2 h.1 h.2
  unfold squareF
  split <;> omega

def bestF (rule : Int) (v out : List Int) : Nat → Int
  | 0 => -1
  | k + 1 => if 0 < v.getD k 0 ∧ (bestF rule v out k < 0 ∨ beforeF rule (v.getD k 0) (out.getD k 0) (v.getD (bestF rule v out k).toNat 0) (out.getD (bestF rule v out k).toNat 0) = true) then (k : Int) else bestF rule v out k
theorem bestF_bd (rule : Int) (v out : List Int) : ∀ k, (bestF rule v out k = -1 ∨ (0 ≤ bestF rule v out k ∧ bestF rule v out k < k)) ∧ (0 ≤ bestF rule v out k → 0 < v.getD (bestF rule v out k).toNat 0) ∧ ((∃ j, j < k ∧ 0 < v.getD j 0) → 0 ≤ bestF rule v out k)
  | 0 => ⟨.inl rfl, fun h => by simp [bestF] at h, fun ⟨j, h, _⟩ => by omega⟩
  | k + 1 => by
    obtain ⟨h1, h2, h3⟩ := bestF_bd rule v out k
    simp only [bestF]
    split
    · rename_i h
      exact ⟨by omega, fun _ => by simpa using h.1, fun _ => by omega⟩
    · rename_i h
      refine ⟨by omega, h2, fun ⟨j, hj, hv⟩ => ?_⟩
      by_cases e : j = k
      · subst e
        rcases h1 with h1 | h1
        · exact absurd ⟨hv, .inl (by omega)⟩ h
        · exact h1.1
      · exact h3 ⟨j, by omega, hv⟩
def stepF (rule : Int) (v out : List Int) : List Int := out.set (bestF rule v out v.length).toNat (out.getD (bestF rule v out v.length).toNat 0 + 1)
def divF (rule : Int) (v : List Int) : Nat → List Int
  | 0 => List.replicate v.length 0
  | k + 1 => stepF rule v (divF rule v k)
theorem getD_set (l : List Int) (i j : Nat) (a : Int) (h : i < l.length) : (l.set i a).getD j 0 = if i = j then a else l.getD j 0 := by
  simp only [List.getD_eq_getElem?_getD, List.getElem?_set]
  by_cases e : i = j
  · subst e; simp [h]
  · simp [e]
theorem divF_ok (rule : Int) (v : List Int) : ∀ k, (divF rule v k).length = v.length ∧ ∀ j, 0 ≤ (divF rule v k).getD j 0 ∧ (divF rule v k).getD j 0 ≤ k
  | 0 => ⟨by simp [divF], fun j => by
    simp only [divF, List.getD_eq_getElem?_getD, List.getElem?_replicate]
    split <;> simp⟩
  | k + 1 => by
    obtain ⟨h1, h2⟩ := divF_ok rule v k
    refine ⟨by simp [divF, stepF, h1], fun j => ?_⟩
    have h3 := h2 (bestF rule v (divF rule v k) v.length).toNat
    have h4 := h2 j
    simp only [divF, stepF]
    by_cases hb : (bestF rule v (divF rule v k) v.length).toNat < (divF rule v k).length
    · rw [getD_set _ _ _ _ hb]
      split <;> omega
    · rw [List.set_eq_of_length_le (by omega)]; omega
theorem getD_bd {v : List Int} {B : Int} (hB : 0 ≤ B) (h : ∀ x, x ∈ v → 0 ≤ x ∧ x ≤ B) (j : Nat) : 0 ≤ v.getD j 0 ∧ v.getD j 0 ≤ B := by
  rw [List.getD_eq_getElem?_getD]
  cases hj : v[j]? with
  | none => simp; omega
  | some x => simpa using h x (List.mem_of_getElem? hj)
theorem sum_bd {v : List Int} {B : Int} (h : ∀ x, x ∈ v → 0 ≤ x ∧ x ≤ B) : 0 ≤ v.sum ∧ v.sum ≤ v.length * B := by
  induction v with
  | nil => simp
  | cons x v ih =>
    have h1 := h x List.mem_cons_self
    have h2 := ih fun y hy => h y (List.mem_cons_of_mem _ hy)
    simp only [List.sum_cons, List.length_cons, Int.natCast_succ, Int.add_mul]
    omega
theorem sum_take_succ (v : List Int) (k : Nat) (h : k < v.length) : (v.take (k + 1)).sum = (v.take k).sum + v.getD k 0 := by
  rw [List.take_succ_eq_append_getElem h, List.sum_append]
  simp [List.getD_eq_getElem?_getD, h]
theorem sum_pos {v : List Int} (h : ∀ x, x ∈ v → 0 ≤ x ∧ x ≤ 1000000) (j : Nat) (hj : 0 < v.getD j 0) : 0 < v.sum := by
  induction v generalizing j with
  | nil => simp at hj
  | cons x v ih =>
    have h1 := h x List.mem_cons_self
    have h2 := (sum_bd (fun y hy => h y (List.mem_cons_of_mem x hy))).1
    simp only [List.sum_cons]
    cases j with
    | zero => simp at hj; omega
    | succ j => have := ih (fun y hy => h y (List.mem_cons_of_mem x hy)) j (by simpa using hj); omega

theorem bestF_ok (rule : Int) {v : List Int} (out : List Int) (hl : 1 ≤ v.length) (h0 : 0 < v.getD 0 0) : 0 ≤ bestF rule v out v.length ∧ (bestF rule v out v.length).toNat < v.length ∧ 0 < v.getD (bestF rule v out v.length).toNat 0 := by
  obtain ⟨h1, h2, h3⟩ := bestF_bd rule v out v.length
  have h4 := h3 ⟨0, by omega, h0⟩
  exact ⟨h4, by omega, h2 h4⟩
theorem divF_step (rule : Int) {v : List Int} (hl : 1 ≤ v.length) (h0 : 0 < v.getD 0 0) (k j : Nat) : (divF rule v (k + 1)).getD j 0 = (divF rule v k).getD j 0 ∨ (divF rule v (k + 1)).getD j 0 = (divF rule v k).getD j 0 + 1 := by
  have h1 := bestF_ok rule (divF rule v k) hl h0
  have h2 := (divF_ok rule v k).1
  simp only [divF, stepF]
  rw [getD_set _ _ _ _ (by omega)]
  split
  · rename_i e; subst e; exact .inr rfl
  · exact .inl rfl
theorem divF_zero (rule : Int) {v : List Int} (hl : 1 ≤ v.length) (h0 : 0 < v.getD 0 0) (j : Nat) (hj : v.getD j 0 = 0) : ∀ k, (divF rule v k).getD j 0 = 0
  | 0 => by simp only [divF, List.getD_eq_getElem?_getD, List.getElem?_replicate]; split <;> simp
  | k + 1 => by
    have h1 := bestF_ok rule (divF rule v k) hl h0
    have h2 := (divF_ok rule v k).1
    simp only [divF, stepF]
    rw [getD_set _ _ _ _ (by omega), if_neg (fun e => by rw [e] at h1; omega)]
    exact divF_zero rule hl h0 j hj k
theorem sum_set (l : List Int) (i : Nat) (a : Int) (h : i < l.length) : (l.set i a).sum = l.sum - l.getD i 0 + a := by
  induction l generalizing i with
  | nil => simp at h
  | cons x l ih =>
    cases i with
    | zero => simp; omega
    | succ i =>
      have := ih i (by simpa using h)
      simp only [List.set_cons_succ, List.sum_cons, this, List.getD_cons_succ]
      omega
theorem divF_sum (rule : Int) {v : List Int} (hl : 1 ≤ v.length) (h0 : 0 < v.getD 0 0) : ∀ k, (divF rule v k).sum = k
  | 0 => by
    simp only [divF]
    generalize v.length = n
    induction n with
    | zero => rfl
    | succ n ih => rw [List.replicate_succ, List.sum_cons, ih]; rfl
  | k + 1 => by
    have h1 := bestF_ok rule (divF rule v k) hl h0
    have h2 := (divF_ok rule v k).1
    have h3 := divF_sum rule hl h0 k
    simp only [divF, stepF]
    rw [sum_set _ _ _ (by omega), h3]
    omega

theorem Pick_fc (c n : Int) (hn : 1 ≤ n) : FC Try.prog 5 [.i c, .i n] (.i (pickF c n)) := by
  refine FC.intro Try.func5 rfl (Nat.le_of_ble_eq_true rfl) fun hfit => ?_
  have fit0 : -9223372036854775808 ≤ (c : Int) ∧ (c : Int) ≤ 9223372036854775807 := (hfit _ (.head _)).int64
  have fit1 : -9223372036854775808 ≤ (n : Int) ∧ (n : Int) ≤ 9223372036854775807 := (hfit _ (.tail _ (.head _))).int64
  refine awp_seq ?_
  refine awp_region rfl (.n (fun _ => op_assign (.plain rfl)) (.nil _)) ?_
  refine awp_seq ?_
  refine awp_seq ?_
  refine awp_region rfl (.n (fun _ => op_move (.plain rfl)) (.n (fun _ => op_lss (.plain rfl) (.plain rfl)) (.nil _))) ?_
  refine awp_cond rfl (fun h => ?_) (fun h => ?_)
  · simp only [decide_eq_true_eq, decide_eq_false_iff_not, Bool.and_eq_true, Bool.or_eq_true, Bool.and_eq_false_iff, Bool.or_eq_false_iff, Bool.not_eq_true', Bool.not_eq_false', Bool.not_eq_true, Bool.not_eq_false, Bool.true_eq_false, Bool.false_eq_true] at h
    refine awp_region rfl (.n (fun _ => op_move (.plain rfl)) (.n (fun _ => op_add (.plain rfl) (.plain rfl) ?_) (.n (fun _ => op_neg (.plain rfl) ?_) (.n (fun _ => op_assign (.plain rfl)) (.nil _))))) ?_
    · unfold InR; omega
    · unfold InR; omega
    refine awp_seq ?_
    refine awp_region rfl (.n (fun _ => op_move (.plain rfl)) (.n (fun _ => op_move (.plain rfl)) (.n (fun _ => op_rem (.plain rfl) (.plain rfl) ?_) (.n (fun _ => op_assign (.plain rfl)) (.nil _))))) ?_
    · omega
    refine awp_ret ?_
    refine retQ.ret ?_
    refine ret1 rfl rfl rfl ?_
    unfold pickF; rw [if_pos h]
  · simp only [decide_eq_true_eq, decide_eq_false_iff_not, Bool.and_eq_true, Bool.or_eq_true, Bool.and_eq_false_iff, Bool.or_eq_false_iff, Bool.not_eq_true', Bool.not_eq_false', Bool.not_eq_true, Bool.not_eq_false, Bool.true_eq_false, Bool.false_eq_true] at h
    refine awp_skip ?_
    refine awp_seq ?_
    refine awp_region rfl (.n (fun _ => op_move (.plain rfl)) (.n (fun _ => op_move (.plain rfl)) (.n (fun _ => op_rem (.plain rfl) (.plain rfl) ?_) (.n (fun _ => op_assign (.plain rfl)) (.nil _))))) ?_
    · omega
    refine awp_ret ?_
    refine retQ.ret ?_
    refine ret1 rfl rfl rfl ?_
    unfold pickF; rw [if_neg h]

theorem At_fc (raw : List Int) (k : Nat) : FC Try.prog 7 [.ints raw, .i (k : Nat)] (.i (atF raw k)) := by
  refine FC.intro Try.func7 rfl (Nat.le_of_ble_eq_true rfl) fun hfit => ?_
  obtain ⟨fitl0, fitr0⟩ := (hfit _ (.head _)).ints
  have fit1 : -9223372036854775808 ≤ ((k : Nat) : Int) ∧ ((k : Nat) : Int) ≤ 9223372036854775807 := (hfit _ (.tail _ (.head _))).int64
  refine awp_seq ?_
  refine awp_region rfl (.n (fun _ => op_assign (.plain rfl)) (.nil _)) ?_
  refine awp_seq ?_
  refine awp_seq ?_
  refine awp_region rfl (.n (fun _ => op_move (.plain rfl)) (.n (fun _ => op_len (s := 0) Try.underlying22 (.plain rfl)) (.n (fun _ => op_eql (.plain rfl) (.plain rfl)) (.nil _)))) ?_
  refine awp_cond rfl (fun h => ?_) (fun h => ?_)
  · simp only [decide_eq_true_eq, decide_eq_false_iff_not, Bool.and_eq_true, Bool.or_eq_true, Bool.and_eq_false_iff, Bool.or_eq_false_iff, Bool.not_eq_true', Bool.not_eq_false', Bool.not_eq_true, Bool.not_eq_false, Bool.true_eq_false, Bool.false_eq_true] at h
    refine awp_seq ?_
    refine awp_region rfl (.n (fun _ => op_assign (.plain rfl)) (.nil _)) ?_
    refine awp_ret ?_
    refine retQ.ret ?_
    refine ret1 rfl rfl rfl ?_
    unfold atF; rw [if_pos (by omega)]
  · simp only [decide_eq_true_eq, decide_eq_false_iff_not, Bool.and_eq_true, Bool.or_eq_true, Bool.and_eq_false_iff, Bool.or_eq_false_iff, Bool.not_eq_true', Bool.not_eq_false', Bool.not_eq_true, Bool.not_eq_false, Bool.true_eq_false, Bool.false_eq_true] at h
    refine awp_skip ?_
    refine awp_seq ?_
    refine awp_region rfl (.n (fun _ => op_move (.plain rfl)) (.n (fun _ => op_move (.plain rfl)) (.n (fun _ => op_move (.plain rfl)) (.n (fun _ => op_len (s := 0) Try.underlying22 (.plain rfl)) (.n (fun _ => op_rem (.plain rfl) (.plain rfl) ?_) (.n (fun _ => op_indexAddr Try.underlying22 Try.sizeOf3 (.plain rfl) (.plain rfl) (fun _ => rfl) ?_) (.n (fun _ => op_load Try.isAgg3 (.plain rfl)) (.n (fun _ => op_assign (.plain rfl)) (.nil _))))))))) ?_
    · omega
    · exact ⟨Int.emod_nonneg _ (by omega), Int.emod_lt_of_pos _ (by omega)⟩
    refine awp_ret ?_
    refine retQ.ret ?_
    refine ret1 rfl rfl rfl ?_
    unfold atF; rw [if_neg (by omega), ← Int.natCast_emod, Int.toNat_natCast]

theorem votesOf_fc (raw : List Int) : FC Try.prog 4 [.ints raw] (.ints (votesF raw)) := by
  refine FC.intro Try.func4 rfl (Nat.le_of_ble_eq_true rfl) fun hfit => ?_
  obtain ⟨fitl0, fitr0⟩ := (hfit _ (.head _)).ints
  refine awp_seq ?_
  refine awp_region rfl (.n (fun _ => op_assign (.plain rfl)) (.nil _)) ?_
  refine awp_seq ?_
  refine awp_region rfl (.n (fun _ => op_assign (.plain rfl)) (.nil _)) ?_
  refine awp_seq ?_
  refine awp_seq ?_
  refine awp_region rfl (.n (fun _ => op_assign (.plain rfl)) (.nil _)) ?_
  refine awp_block ?_
  refine awp_ent (Ent.begin 3 1003 3 1 Int 0 (fun n => [.int .i64 n]) rfl rfl rfl) ?_
  refine awp_loop (σ := Nat) (fun (k : Nat) => k ≤ votesN raw) (fun (k : Nat) => ⟨[(3, .own 1003), (4, .int (k : Nat)), (0, .pv (.ints raw))], [(1003, .arr 3 1 Int 0 (fun n => [.int .i64 n]) (votesTo raw k))]⟩) (fun (k : Nat) => votesN raw - k) 0 ?_ (Ent.kept ⟨rfl, rfl, rfl, trivial⟩ ⟨rfl, trivial⟩) ?_
  · simp
  rintro k hp
  try dsimp only at hp
  have hp1 := pickF_range raw.length 6 (by omega)
  have hvn : (votesN raw : Int) = 1 + pickF raw.length 6 := by unfold votesN; omega
  have hvb := votesN_bd raw
  have hq1 := pickF_range (atF raw k) 3000 (by omega)
  have hq2 := pickF_range (atF raw (k + 1)) 30 (by omega)
  have hq3 := mul_bd hq1.1 (show _ ≤ 2999 by omega) hq2.1 (show _ ≤ 29 by omega)
  have hvt := voteF_bd raw 0
  refine awp_seq ?_
  refine awp_seq ?_
  refine awp_region rfl (.n (fun _ => op_move (.plain rfl)) (.n (fun _ => op_move (.plain rfl)) (.n (fun _ => op_len (s := 0) Try.underlying22 (.plain rfl)) (.n (fun _ => op_call2 Try.call5 (.plain rfl) (.plain rfl) (Pick_fc _ _ ?_)) (.n (fun _ => op_add (.plain rfl) (.plain rfl) ?_) (.n (fun _ => op_lss (.plain rfl) (.plain rfl)) (.nil _))))))) ?_
  · omega
  · unfold InR; omega
  refine awp_cond rfl (fun h => ?_) (fun h => ?_)
  · simp only [decide_eq_true_eq, decide_eq_false_iff_not, Bool.and_eq_true, Bool.or_eq_true, Bool.and_eq_false_iff, Bool.or_eq_false_iff, Bool.not_eq_true', Bool.not_eq_false', Bool.not_eq_true, Bool.not_eq_false, Bool.true_eq_false, Bool.false_eq_true] at h
    refine awp_skip ?_
    refine awp_seq ?_
    refine awp_block ?_
    refine awp_region rfl (.n (fun _ => op_move (.plain rfl)) (.n (fun _ => op_move (.plain rfl)) (.n (fun _ => op_move (.plain rfl)) (.n (fun _ => op_call2 Try.call7 (.plain rfl) (.plain rfl) (At_fc _ _)) (.n (fun _ => op_call2 Try.call5 (.plain rfl) (.plain rfl) (Pick_fc _ _ ?_)) (.n (fun _ => op_move (.plain rfl)) (.n (fun _ => op_move (.plain rfl)) (.n (fun _ => op_add (.plain rfl) (.plain rfl) ?_) (.n (fun _ => op_call2 Try.call7 (.plain rfl) (.plain rfl) (At_fc _ (k + 1))) (.n (fun _ => op_call2 Try.call5 (.plain rfl) (.plain rfl) (Pick_fc _ _ ?_)) (.n (fun _ => op_mul (.plain rfl) (.plain rfl) ?_) (.n (fun _ => op_slit (pp := [(0, _)]) (α := Int) (d := 0) (f := (fun n => [.int .i64 n])) [_] ety22 rfl ⟨rfl, (.plain rfl), (by simp), trivial⟩ rfl (by decide) rfl) (.e (op_append (id' := 25) (α := Int) (d := 0) (f := (fun n => [.int .i64 n])) ety22 Try.underlying22 (fun _ => rfl) (fun _ => rfl) (.plain rfl) rfl (.plain rfl) rfl ?_) rfl (.n (fun _ => op_assign (.plain rfl)) (.nil _))))))))))))))) ?_
    · omega
    · unfold InR; omega
    · omega
    · unfold InR; omega
    · first | omega | (simp; omega)
    refine awp_region rfl (.n (fun _ => op_move (.plain rfl)) (.n (fun _ => op_add (.plain rfl) (.plain rfl) ?_) (.n (fun _ => op_assign (.plain rfl)) (.nil _)))) ?_
    · unfold InR; omega
    exact ⟨k + 1, by omega, by dsimp only; omega, (Ent.round 25 1003 ⟨rfl, rfl, rfl, trivial⟩ ⟨(by rw [votesTo_succ]; rfl), trivial⟩ rfl rfl rfl ⟨rfl, rfl, rfl, trivial⟩ ⟨rfl, trivial⟩)⟩
  · simp only [decide_eq_true_eq, decide_eq_false_iff_not, Bool.and_eq_true, Bool.or_eq_true, Bool.and_eq_false_iff, Bool.or_eq_false_iff, Bool.not_eq_true', Bool.not_eq_false', Bool.not_eq_true, Bool.not_eq_false, Bool.true_eq_false, Bool.false_eq_true] at h
    refine awp_exit ?_
    refine awp_seq ?_
    refine awp_region rfl (.n (fun _ => op_move (.plain rfl)) (.n (fun _ => op_move (.plain rfl)) (.r (op_indexAddrO Try.underlying22 Try.sizeOf3 (.plain rfl) rfl (.plain rfl) ?_) (.r (op_loadE Try.isAgg3 (.plain rfl) rfl (fun _ => rfl) ?_ rfl) (.n (fun _ => op_add (.plain rfl) (.plain rfl) ?_) (.r (op_indexAddrO Try.underlying22 Try.sizeOf3 (.plain rfl) rfl (.plain rfl) ?_) (.e (op_storeE _ Try.sizeOf3 (.plain rfl) (.plain rfl) rfl (fun _ => rfl) ?_ (by decide) rfl rfl) rfl (.nil _)))))))) ?_
    · first | omega | (simp; omega)
    · first | omega | (simp; omega)
    · rw [votesTo_getD (by omega)]; unfold InR; omega
    · first | omega | (simp; omega)
    · first | omega | (simp; omega)
    refine awp_seq ?_
    refine awp_region rfl (.n (fun _ => op_move (.plain rfl)) (.n (fun _ => op_assign (.plain rfl)) (.nil _))) ?_
    refine awp_ret ?_
    refine retQ.ret ?_
    refine ret1 rfl rfl rfl ?_
    obtain rfl : k = votesN raw := by omega
    rw [votesTo_getD (by omega)]
    rfl

theorem square_fc (rule v s : Int) (hv : 0 ≤ v ∧ v ≤ 1000000) : FC Try.prog 11 [.agg [.i v, .i s], .i rule] (.i (squareF rule v)) := by
  refine FC.intro Try.func11 rfl (Nat.le_of_ble_eq_true rfl) fun hfit => ?_
  have fit0 := hfit _ (.head _)
  have fit1 : -9223372036854775808 ≤ (rule : Int) ∧ (rule : Int) ≤ 9223372036854775807 := (hfit _ (.tail _ (.head _))).int64
  refine awp_seq ?_
  refine awp_region rfl (.n (fun _ => op_box (.plain rfl) (by simp)) (.n (fun _ => op_assign (.plain rfl)) (.nil _))) ?_
  refine awp_seq ?_
  refine awp_seq ?_
  refine awp_region rfl (.n (fun _ => op_move (.plain rfl)) (.n (fun _ => op_eql (.plain rfl) (.plain rfl)) (.nil _))) ?_
  refine awp_cond rfl (fun h => ?_) (fun h => ?_)
  · simp only [decide_eq_true_eq, decide_eq_false_iff_not, Bool.and_eq_true, Bool.or_eq_true, Bool.and_eq_false_iff, Bool.or_eq_false_iff, Bool.not_eq_true', Bool.not_eq_false', Bool.not_eq_true, Bool.not_eq_false, Bool.true_eq_false, Bool.false_eq_true] at h
    refine awp_seq ?_
    refine awp_region rfl (.n (fun _ => op_fieldAddr Try.underlying32 rfl rfl Try.sizeOf3 (.plain rfl)) (.n (fun _ => op_load Try.isAgg3 (.plain rfl)) (.n (fun _ => op_fieldAddr Try.underlying32 rfl rfl Try.sizeOf3 (.plain rfl)) (.n (fun _ => op_load Try.isAgg3 (.plain rfl)) (.n (fun _ => op_mul (.plain rfl) (.plain rfl) ?_) (.n (fun _ => op_assign (.plain rfl)) (.nil _))))))) ?_
    · have := mul_bd hv.1 hv.2 hv.1 hv.2; unfold InR; omega
    refine awp_ret ?_
    refine retQ.ret ?_
    refine ret1 rfl rfl rfl ?_
    unfold squareF; rw [if_pos h]
  · simp only [decide_eq_true_eq, decide_eq_false_iff_not, Bool.and_eq_true, Bool.or_eq_true, Bool.and_eq_false_iff, Bool.or_eq_false_iff, Bool.not_eq_true', Bool.not_eq_false', Bool.not_eq_true, Bool.not_eq_false, Bool.true_eq_false, Bool.false_eq_true] at h
    refine awp_skip ?_
    refine awp_seq ?_
    refine awp_region rfl (.n (fun _ => op_fieldAddr Try.underlying32 rfl rfl Try.sizeOf3 (.plain rfl)) (.n (fun _ => op_load Try.isAgg3 (.plain rfl)) (.n (fun _ => op_assign (.plain rfl)) (.nil _)))) ?_
    refine awp_ret ?_
    refine retQ.ret ?_
    refine ret1 rfl rfl rfl ?_
    unfold squareF; rw [if_neg h]

theorem weight_fc (rule v s : Int) (hs : 0 ≤ s ∧ s ≤ 1000) : FC Try.prog 10 [.agg [.i v, .i s], .i rule] (.i (weightF rule s)) := by
  refine FC.intro Try.func10 rfl (Nat.le_of_ble_eq_true rfl) fun hfit => ?_
  have fit0 := hfit _ (.head _)
  have fit1 : -9223372036854775808 ≤ (rule : Int) ∧ (rule : Int) ≤ 9223372036854775807 := (hfit _ (.tail _ (.head _))).int64
  have hm := mul_bd hs.1 hs.2 (show 0 ≤ s + 1 by omega) (show s + 1 ≤ 1001 by omega)
  refine awp_seq ?_
  refine awp_region rfl (.n (fun _ => op_box (.plain rfl) (by simp)) (.n (fun _ => op_assign (.plain rfl)) (.nil _))) ?_
  refine awp_seq ?_
  refine awp_seq ?_
  refine awp_region rfl (.n (fun _ => op_move (.plain rfl)) (.nil _)) ?_
  refine awp_block ?_
  refine awp_seq ?_
  refine awp_region rfl (.n (fun _ => op_eql (.plain rfl) (.plain rfl)) (.n (fun _ => op_assign (.plain rfl)) (.nil _))) ?_
  refine awp_cond rfl (fun h => ?_) (fun h => ?_)
  · simp only [decide_eq_true_eq, decide_eq_false_iff_not, Bool.and_eq_true, Bool.or_eq_true, Bool.and_eq_false_iff, Bool.or_eq_false_iff, Bool.not_eq_true', Bool.not_eq_false', Bool.not_eq_true, Bool.not_eq_false, Bool.true_eq_false, Bool.false_eq_true] at h
    refine awp_seq ?_
    refine awp_region rfl (.n (fun _ => op_fieldAddr Try.underlying32 rfl rfl Try.sizeOf3 (.plain rfl)) (.n (fun _ => op_load Try.isAgg3 (.plain rfl)) (.n (fun _ => op_mul (.plain rfl) (.plain rfl) ?_) (.n (fun _ => op_assign (.plain rfl)) (.nil _))))) ?_
    · unfold InR; omega
    refine awp_ret ?_
    refine retQ.ret ?_
    refine ret1 rfl rfl rfl ?_
    simp [weightF, *]
  · simp only [decide_eq_true_eq, decide_eq_false_iff_not, Bool.and_eq_true, Bool.or_eq_true, Bool.and_eq_false_iff, Bool.or_eq_false_iff, Bool.not_eq_true', Bool.not_eq_false', Bool.not_eq_true, Bool.not_eq_false, Bool.true_eq_false, Bool.false_eq_true] at h
    refine awp_seq ?_
    refine awp_region rfl (.n (fun _ => op_eql (.plain rfl) (.plain rfl)) (.n (fun _ => op_assign (.plain rfl)) (.nil _))) ?_
    refine awp_cond rfl (fun h => ?_) (fun h => ?_)
    · simp only [decide_eq_true_eq, decide_eq_false_iff_not, Bool.and_eq_true, Bool.or_eq_true, Bool.and_eq_false_iff, Bool.or_eq_false_iff, Bool.not_eq_true', Bool.not_eq_false', Bool.not_eq_true, Bool.not_eq_false, Bool.true_eq_false, Bool.false_eq_true] at h
      refine awp_seq ?_
      refine awp_region rfl (.n (fun _ => op_fieldAddr Try.underlying32 rfl rfl Try.sizeOf3 (.plain rfl)) (.n (fun _ => op_load Try.isAgg3 (.plain rfl)) (.n (fun _ => op_fieldAddr Try.underlying32 rfl rfl Try.sizeOf3 (.plain rfl)) (.n (fun _ => op_load Try.isAgg3 (.plain rfl)) (.n (fun _ => op_add (.plain rfl) (.plain rfl) ?_) (.n (fun _ => op_mul (.plain rfl) (.plain rfl) ?_) (.n (fun _ => op_assign (.plain rfl)) (.nil _)))))))) ?_
      · unfold InR; omega
      · unfold InR; omega
      refine awp_ret ?_
      refine retQ.ret ?_
      refine ret1 rfl rfl rfl ?_
      simp [weightF, *]
    · simp only [decide_eq_true_eq, decide_eq_false_iff_not, Bool.and_eq_true, Bool.or_eq_true, Bool.and_eq_false_iff, Bool.or_eq_false_iff, Bool.not_eq_true', Bool.not_eq_false', Bool.not_eq_true, Bool.not_eq_false, Bool.true_eq_false, Bool.false_eq_true] at h
      refine awp_seq ?_
      refine awp_region rfl (.n (fun _ => op_eql (.plain rfl) (.plain rfl)) (.n (fun _ => op_assign (.plain rfl)) (.nil _))) ?_
      refine awp_cond rfl (fun h => ?_) (fun h => ?_)
      · simp only [decide_eq_true_eq, decide_eq_false_iff_not, Bool.and_eq_true, Bool.or_eq_true, Bool.and_eq_false_iff, Bool.or_eq_false_iff, Bool.not_eq_true', Bool.not_eq_false', Bool.not_eq_true, Bool.not_eq_false, Bool.true_eq_false, Bool.false_eq_true] at h
        refine awp_seq ?_
        refine awp_region rfl (.n (fun _ => op_fieldAddr Try.underlying32 rfl rfl Try.sizeOf3 (.plain rfl)) (.n (fun _ => op_load Try.isAgg3 (.plain rfl)) (.n (fun _ => op_mul (.plain rfl) (.plain rfl) ?_) (.n (fun _ => op_add (.plain rfl) (.plain rfl) ?_) (.n (fun _ => op_assign (.plain rfl)) (.nil _)))))) ?_
        · unfold InR; omega
        · unfold InR; omega
        refine awp_ret ?_
        refine retQ.ret ?_
        refine ret1 rfl rfl rfl ?_
        simp [weightF, *]
      · simp only [decide_eq_true_eq, decide_eq_false_iff_not, Bool.and_eq_true, Bool.or_eq_true, Bool.and_eq_false_iff, Bool.or_eq_false_iff, Bool.not_eq_true', Bool.not_eq_false', Bool.not_eq_true, Bool.not_eq_false, Bool.true_eq_false, Bool.false_eq_true] at h
        refine awp_skip ?_
        refine awp_seq ?_
        refine awp_region rfl (.n (fun _ => op_fieldAddr Try.underlying32 rfl rfl Try.sizeOf3 (.plain rfl)) (.n (fun _ => op_load Try.isAgg3 (.plain rfl)) (.n (fun _ => op_add (.plain rfl) (.plain rfl) ?_) (.n (fun _ => op_mul (.plain rfl) (.plain rfl) ?_) (.n (fun _ => op_assign (.plain rfl)) (.nil _)))))) ?_
        · unfold InR; omega
        · unfold InR; omega
        refine awp_ret ?_
        refine retQ.ret ?_
        refine ret1 rfl rfl rfl ?_
        simp [weightF, *]

theorem before_fc (rule v s v' s' : Int) (hv : 0 ≤ v ∧ v ≤ 1000000) (hs : 0 ≤ s ∧ s ≤ 1000) (hv' : 0 ≤ v' ∧ v' ≤ 1000000) (hs' : 0 ≤ s' ∧ s' ≤ 1000) : FC Try.prog 9 [.agg [.i v, .i s], .agg [.i v', .i s'], .i rule] ((.bool (beforeF rule v s v' s'))) := by
  refine FC.intro Try.func9 rfl (Nat.le_of_ble_eq_true rfl) fun hfit => ?_
  have fit0 := hfit _ (.head _)
  have fit1 := hfit _ (.tail _ (.head _))
  have fit2 : -9223372036854775808 ≤ (rule : Int) ∧ (rule : Int) ≤ 9223372036854775807 := (hfit _ (.tail _ (.tail _ (.head _)))).int64
  have hm1 := mul_bd (squareF_bd rule v hv).1 (squareF_bd rule v hv).2 (weightF_bd rule s' hs').1 (weightF_bd rule s' hs').2
  have hm2 := mul_bd (squareF_bd rule v' hv').1 (squareF_bd rule v' hv').2 (weightF_bd rule s hs).1 (weightF_bd rule s hs).2
  refine awp_seq ?_
  refine awp_region rfl (.n (fun _ => op_box (.plain rfl) (by simp)) (.n (fun _ => op_box (.plain rfl) (by simp)) (.n (fun _ => op_assign (.plain rfl)) (.nil _)))) ?_
  refine awp_seq ?_
  refine awp_region_draw mixed rfl (.n (fun _ => op_load_agg Try.isAgg32 Try.sizeOf32 (.plain rfl) (Nat.le_of_ble_eq_true rfl)) (.n (fun _ => op_move (.plain rfl)) (.n (fun _ => op_call2 Try.call10 (.plain rfl) (.plain rfl) (weight_fc _ _ _ ?_)) (.n (fun _ => op_load_agg Try.isAgg32 Try.sizeOf32 (.plain rfl) (Nat.le_of_ble_eq_true rfl)) (.n (fun _ => op_move (.plain rfl)) (.n (fun _ => op_call2 Try.call10 (.plain rfl) (.plain rfl) (weight_fc _ _ _ ?_)) (.n (fun _ => op_assign (.plain rfl)) (.n (fun _ => op_assign (.plain rfl)) (.nil _))))))))) ?d1 ?_
  · first | assumption | omega
  · first | assumption | omega
  · kernel_rfl
  refine awp_seq ?_
  refine awp_region_draw mixed rfl (.n (fun _ => op_load_agg Try.isAgg32 Try.sizeOf32 (.plain rfl) (Nat.le_of_ble_eq_true rfl)) (.n (fun _ => op_move (.plain rfl)) (.n (fun _ => op_call2 Try.call11 (.plain rfl) (.plain rfl) (square_fc _ _ _ ?_)) (.n (fun _ => op_move (.plain rfl)) (.n (fun _ => op_mul (.plain rfl) (.plain rfl) ?_) (.n (fun _ => op_load_agg Try.isAgg32 Try.sizeOf32 (.plain rfl) (Nat.le_of_ble_eq_true rfl)) (.n (fun _ => op_move (.plain rfl)) (.n (fun _ => op_call2 Try.call11 (.plain rfl) (.plain rfl) (square_fc _ _ _ ?_)) (.n (fun _ => op_move (.plain rfl)) (.n (fun _ => op_mul (.plain rfl) (.plain rfl) ?_) (.n (fun _ => op_assign (.plain rfl)) (.n (fun _ => op_assign (.plain rfl)) (.nil _))))))))))))) ?d2 ?_
  · first | assumption | omega
  · unfold InR; omega
  · first | assumption | omega
  · unfold InR; omega
  · kernel_rfl
  refine awp_seq ?_
  refine awp_seq ?_
  refine awp_region rfl (.n (fun _ => op_move (.plain rfl)) (.n (fun _ => op_eql (.plain rfl) (.plain rfl)) (.n (fun _ => op_move (.plain rfl)) (.gn rfl rfl (fun hg _ => op_move (.plain rfl)) (.gn rfl rfl (fun hg _ => op_eql (.opt rfl fun h => h) (.plain rfl)) (.n (fun _ => op_and (.plain rfl) (.plain rfl) (.plain rfl) (fun h => eqT h)) (.nil _))))))) ?_
  refine awp_cond rfl (fun h => ?_) (fun h => ?_)
  · simp only [decide_eq_true_eq, decide_eq_false_iff_not, Bool.and_eq_true, Bool.or_eq_true, Bool.and_eq_false_iff, Bool.or_eq_false_iff, Bool.not_eq_true', Bool.not_eq_false', Bool.not_eq_true, Bool.not_eq_false, Bool.true_eq_false, Bool.false_eq_true] at h
    refine awp_seq ?_
    refine awp_region rfl (.n (fun _ => op_fieldAddr Try.underlying32 rfl rfl Try.sizeOf3 (.plain rfl)) (.n (fun _ => op_load Try.isAgg3 (.plain rfl)) (.n (fun _ => op_fieldAddr Try.underlying32 rfl rfl Try.sizeOf3 (.plain rfl)) (.n (fun _ => op_load Try.isAgg3 (.plain rfl)) (.n (fun _ => op_gtr (.plain rfl) (.plain rfl)) (.n (fun _ => op_assign (.plain rfl)) (.nil _))))))) ?_
    refine awp_ret ?_
    refine retQ.ret ?_
    refine ret1 rfl rfl rfl ?_
    unfold beforeF; rw [if_pos h]
  · simp only [decide_eq_true_eq, decide_eq_false_iff_not, Bool.and_eq_true, Bool.or_eq_true, Bool.and_eq_false_iff, Bool.or_eq_false_iff, Bool.not_eq_true', Bool.not_eq_false', Bool.not_eq_true, Bool.not_eq_false, Bool.true_eq_false, Bool.false_eq_true] at h
    refine awp_skip ?_
    refine awp_seq ?_
    refine awp_region rfl (.n (fun _ => op_move (.plain rfl)) (.n (fun _ => op_move (.plain rfl)) (.n (fun _ => op_gtr (.plain rfl) (.plain rfl)) (.n (fun _ => op_assign (.plain rfl)) (.nil _))))) ?_
    refine awp_ret ?_
    refine retQ.ret ?_
    refine ret1 rfl rfl rfl ?_
    unfold beforeF; rw [if_neg (by omega)]

theorem May_fc (v : List Int) (house : Int) (hl : 1 ≤ v.length ∧ v.length ≤ 8) (hv : ∀ x, x ∈ v → 0 ≤ x ∧ x ≤ 1000000) (h0 : 0 < v.getD 0 0) (hh : 0 ≤ house ∧ house ≤ 200) : FC Try.prog 8 [.ints v, .i house] (.i 0) := by
  refine FC.intro Try.func8 rfl (Nat.le_of_ble_eq_true rfl) fun hfit => ?_
  obtain ⟨fitl0, fitr0⟩ := (hfit _ (.head _)).ints
  have fit1 : -9223372036854775808 ≤ (house : Int) ∧ (house : Int) ≤ 9223372036854775807 := (hfit _ (.tail _ (.head _))).int64
  refine awp_seq ?_
  refine awp_region rfl (.n (fun _ => op_assign (.plain rfl)) (.nil _)) ?_
  refine awp_seq ?_
  refine awp_seq ?_
  refine awp_region rfl (.n (fun _ => op_move (.plain rfl)) (.n (fun _ => op_len (s := 0) Try.underlying22 (.plain rfl)) (.n (fun _ => op_lss (.plain rfl) (.plain rfl)) (.n (fun _ => op_move (.plain rfl)) (.gn rfl rfl (fun hg _ => op_move (.plain rfl)) (.gn rfl rfl (fun hg _ => op_len (s := 0) Try.underlying22 (.opt rfl fun h => h)) (.gn rfl rfl (fun hg _ => op_gtr (.opt rfl fun h => h) (.plain rfl)) (.n (fun _ => op_or (.plain rfl) (.plain rfl) (.plain rfl) (fun h => eqF h)) (.nil _))))))))) ?_
  refine awp_cond rfl (fun h => ?_) (fun h => ?_)
  · simp only [decide_eq_true_eq, decide_eq_false_iff_not, Bool.and_eq_true, Bool.or_eq_true, Bool.and_eq_false_iff, Bool.or_eq_false_iff, Bool.not_eq_true', Bool.not_eq_false', Bool.not_eq_true, Bool.not_eq_false, Bool.true_eq_false, Bool.false_eq_true] at h
    exfalso
    omega
  · simp only [decide_eq_true_eq, decide_eq_false_iff_not, Bool.and_eq_true, Bool.or_eq_true, Bool.and_eq_false_iff, Bool.or_eq_false_iff, Bool.not_eq_true', Bool.not_eq_false', Bool.not_eq_true, Bool.not_eq_false, Bool.true_eq_false, Bool.false_eq_true] at h
    refine awp_skip ?_
    refine awp_seq ?_
    refine awp_region rfl (.n (fun _ => op_assign (.plain rfl)) (.nil _)) ?_
    refine awp_seq ?_
    refine awp_seq ?_
    refine awp_region rfl (.n (fun _ => op_move (.plain rfl)) (.n (fun _ => op_len (s := 0) Try.underlying22 (.plain rfl)) (.n (fun _ => op_move (.plain rfl)) (.nil _)))) ?_
    refine awp_block ?_
    refine awp_loop (σ := Nat) (fun (k : Nat) => k ≤ v.length) (fun (k : Nat) => ⟨[(0, .pv (.ints v)), (1, .pv (.i house)), (5, .int (v.take k).sum), (16, .pv (.ints v)), (17, .int (v.length : Nat)), (18, .int (k : Nat))], []⟩) (fun (k : Nat) => v.length - k) 0 ?_ (Ent.kept ⟨rfl, rfl, rfl, rfl, rfl, rfl, trivial⟩ trivial) ?_
    · simp
    rintro k hp
    try dsimp only at hp
    have hg := getD_bd (show (0 : Int) ≤ 1000000 by omega) hv k
    have hsm := sum_bd (fun x hx => hv x (List.mem_of_mem_take hx) : ∀ x, x ∈ v.take k → _)
    have hsl : (v.take k).length ≤ 8 := by simp; omega
    refine awp_seq ?_
    refine awp_region rfl (.n (fun _ => op_lss (.plain rfl) (.plain rfl)) (.nil _)) ?_
    refine awp_seq ?_
    refine awp_cond rfl (fun h => ?_) (fun h => ?_)
    · simp only [decide_eq_true_eq, decide_eq_false_iff_not, Bool.and_eq_true, Bool.or_eq_true, Bool.and_eq_false_iff, Bool.or_eq_false_iff, Bool.not_eq_true', Bool.not_eq_false', Bool.not_eq_true, Bool.not_eq_false, Bool.true_eq_false, Bool.false_eq_true] at h
      refine awp_skip ?_
      refine awp_seq ?_
      refine awp_block ?_
      refine awp_seq ?_
      refine awp_region rfl (.n (fun _ => op_indexAddrN Try.underlying22 Try.sizeOf3 (.plain rfl) (.plain rfl) (fun _ => rfl) ?_) (.n (fun _ => op_load Try.isAgg3 (.plain rfl)) (.n (fun _ => op_assign (.plain rfl)) (.nil _)))) ?_
      · omega
      refine awp_seq ?_
      refine awp_seq ?_
      refine awp_region rfl (.n (fun _ => op_move (.plain rfl)) (.n (fun _ => op_lss (.plain rfl) (.plain rfl)) (.n (fun _ => op_move (.plain rfl)) (.gn rfl rfl (fun hg _ => op_move (.plain rfl)) (.gn rfl rfl (fun hg _ => op_gtr (.opt rfl fun h => h) (.plain rfl)) (.n (fun _ => op_or (.plain rfl) (.plain rfl) (.plain rfl) (fun h => eqF h)) (.nil _))))))) ?_
      refine awp_cond rfl (fun h => ?_) (fun h => ?_)
      · simp only [decide_eq_true_eq, decide_eq_false_iff_not, Bool.and_eq_true, Bool.or_eq_true, Bool.and_eq_false_iff, Bool.or_eq_false_iff, Bool.not_eq_true', Bool.not_eq_false', Bool.not_eq_true, Bool.not_eq_false, Bool.true_eq_false, Bool.false_eq_true] at h
        exfalso
        omega
      · simp only [decide_eq_true_eq, decide_eq_false_iff_not, Bool.and_eq_true, Bool.or_eq_true, Bool.and_eq_false_iff, Bool.or_eq_false_iff, Bool.not_eq_true', Bool.not_eq_false', Bool.not_eq_true, Bool.not_eq_false, Bool.true_eq_false, Bool.false_eq_true] at h
        refine awp_skip ?_
        refine awp_region rfl (.n (fun _ => op_move (.plain rfl)) (.n (fun _ => op_move (.plain rfl)) (.n (fun _ => op_add (.plain rfl) (.plain rfl) ?_) (.n (fun _ => op_assign (.plain rfl)) (.nil _))))) ?_
        · unfold InR; omega
        refine awp_region rfl (.n (fun _ => op_add (.plain rfl) (.plain rfl) ?_) (.n (fun _ => op_move (.plain rfl)) (.nil _))) ?_
        · unfold InR; omega
        exact ⟨k + 1, by omega, by dsimp only; omega, (Ent.kept ⟨rfl, rfl, (by rw [sum_take_succ v k (by omega)]; rfl), rfl, rfl, rfl, trivial⟩ trivial)⟩
    · simp only [decide_eq_true_eq, decide_eq_false_iff_not, Bool.and_eq_true, Bool.or_eq_true, Bool.and_eq_false_iff, Bool.or_eq_false_iff, Bool.not_eq_true', Bool.not_eq_false', Bool.not_eq_true, Bool.not_eq_false, Bool.true_eq_false, Bool.false_eq_true] at h
      refine awp_exit ?_
      refine awp_seq ?_
      refine awp_block ?_
      refine awp_seq ?_
      refine awp_region rfl (.n (fun _ => op_move (.plain rfl)) (.n (fun _ => op_lss (.plain rfl) (.plain rfl)) (.n (fun _ => op_move (.plain rfl)) (.gn rfl rfl (fun hg _ => op_move (.plain rfl)) (.gn rfl rfl (fun hg _ => op_gtr (.opt rfl fun h => h) (.plain rfl)) (.n (fun _ => op_or (.plain rfl) (.plain rfl) (.plain rfl) (fun h => eqF h)) (.n (fun _ => op_assign (.plain rfl)) (.nil _)))))))) ?_
      refine awp_cond rfl (fun h => ?_) (fun h => ?_)
      · simp only [decide_eq_true_eq, decide_eq_false_iff_not, Bool.and_eq_true, Bool.or_eq_true, Bool.and_eq_false_iff, Bool.or_eq_false_iff, Bool.not_eq_true', Bool.not_eq_false', Bool.not_eq_true, Bool.not_eq_false, Bool.true_eq_false, Bool.false_eq_true] at h
        exfalso
        omega
      · simp only [decide_eq_true_eq, decide_eq_false_iff_not, Bool.and_eq_true, Bool.or_eq_true, Bool.and_eq_false_iff, Bool.or_eq_false_iff, Bool.not_eq_true', Bool.not_eq_false', Bool.not_eq_true, Bool.not_eq_false, Bool.true_eq_false, Bool.false_eq_true] at h
        refine awp_seq ?_
        refine awp_region rfl (.n (fun _ => op_move (.plain rfl)) (.n (fun _ => op_eql (.plain rfl) (.plain rfl)) (.n (fun _ => op_assign (.plain rfl)) (.nil _)))) ?_
        refine awp_cond rfl (fun h => ?_) (fun h => ?_)
        · simp only [decide_eq_true_eq, decide_eq_false_iff_not, Bool.and_eq_true, Bool.or_eq_true, Bool.and_eq_false_iff, Bool.or_eq_false_iff, Bool.not_eq_true', Bool.not_eq_false', Bool.not_eq_true, Bool.not_eq_false, Bool.true_eq_false, Bool.false_eq_true] at h
          exfalso
          obtain rfl : k = v.length := by omega
          rw [List.take_length] at h
          have := sum_pos hv 0 h0
          omega
        · simp only [decide_eq_true_eq, decide_eq_false_iff_not, Bool.and_eq_true, Bool.or_eq_true, Bool.and_eq_false_iff, Bool.or_eq_false_iff, Bool.not_eq_true', Bool.not_eq_false', Bool.not_eq_true, Bool.not_eq_false, Bool.true_eq_false, Bool.false_eq_true] at h
          refine awp_skip ?_
          refine awp_seq ?_
          refine awp_region rfl (.n (fun _ => op_assign (.plain rfl)) (.nil _)) ?_
          refine awp_ret ?_
          refine retQ.ret ?_
          refine ret1 rfl rfl rfl ?_
          first | rfl | simp [*]

theorem Divide_fc (rule : Int) (v : List Int) (house : Int) (hr : 1 ≤ rule ∧ rule ≤ 4) (hl : 1 ≤ v.length ∧ v.length ≤ 8) (hv : ∀ x, x ∈ v → 0 ≤ x ∧ x ≤ 1000000) (h0 : 0 < v.getD 0 0) (hh : 0 ≤ house ∧ house ≤ 200) : FC Try.prog 6 [.i rule, .ints v, .i house] (.tup [.ints (divF rule v house.toNat), .i 0]) := by
  refine FC.intro Try.func6 rfl (Nat.le_of_ble_eq_true rfl) fun hfit => ?_
  have fit0 : -9223372036854775808 ≤ (rule : Int) ∧ (rule : Int) ≤ 9223372036854775807 := (hfit _ (.head _)).int64
  obtain ⟨fitl1, fitr1⟩ := (hfit _ (.tail _ (.head _))).ints
  have fit2 : -9223372036854775808 ≤ (house : Int) ∧ (house : Int) ≤ 9223372036854775807 := (hfit _ (.tail _ (.tail _ (.head _)))).int64
  refine awp_seq ?_
  refine awp_region rfl (.n (fun _ => op_assign (.plain rfl)) (.n (fun _ => op_assign (.plain rfl)) (.nil _))) ?_
  refine awp_seq ?_
  refine awp_seq ?_
  refine awp_region rfl (.n (fun _ => op_move (.plain rfl)) (.n (fun _ => op_move (.plain rfl)) (.n (fun _ => op_call2 Try.call8 (.plain rfl) (.plain rfl) (May_fc _ _ ?_ ?_ ?_ ?_)) (.n (fun _ => op_assign (.plain rfl)) (.nil _))))) ?_
  · assumption
  · assumption
  · assumption
  · assumption
  refine awp_seq ?_
  refine awp_region rfl (.n (fun _ => op_move (.plain rfl)) (.n (fun _ => op_neq (.plain rfl) (.plain rfl)) (.nil _))) ?_
  refine awp_cond rfl (fun h => ?_) (fun h => ?_)
  · simp only [decide_eq_true_eq, decide_eq_false_iff_not, Bool.and_eq_true, Bool.or_eq_true, Bool.and_eq_false_iff, Bool.or_eq_false_iff, Bool.not_eq_true', Bool.not_eq_false', Bool.not_eq_true, Bool.not_eq_false, Bool.true_eq_false, Bool.false_eq_true] at h
    exfalso
    exact absurd trivial h
  · simp only [decide_eq_true_eq, decide_eq_false_iff_not, Bool.and_eq_true, Bool.or_eq_true, Bool.and_eq_false_iff, Bool.or_eq_false_iff, Bool.not_eq_true', Bool.not_eq_false', Bool.not_eq_true, Bool.not_eq_false, Bool.true_eq_false, Bool.false_eq_true] at h
    refine awp_skip ?_
    refine awp_seq ?_
    refine awp_seq ?_
    refine awp_region rfl (.n (fun _ => op_move (.plain rfl)) (.n (fun _ => op_lss (.plain rfl) (.plain rfl)) (.n (fun _ => op_move (.plain rfl)) (.gn rfl rfl (fun hg _ => op_move (.plain rfl)) (.gn rfl rfl (fun hg _ => op_gtr (.opt rfl fun h => h) (.plain rfl)) (.n (fun _ => op_or (.plain rfl) (.plain rfl) (.plain rfl) (fun h => eqF h)) (.nil _))))))) ?_
    refine awp_cond rfl (fun h => ?_) (fun h => ?_)
    · simp only [decide_eq_true_eq, decide_eq_false_iff_not, Bool.and_eq_true, Bool.or_eq_true, Bool.and_eq_false_iff, Bool.or_eq_false_iff, Bool.not_eq_true', Bool.not_eq_false', Bool.not_eq_true, Bool.not_eq_false, Bool.true_eq_false, Bool.false_eq_true] at h
      exfalso
      omega
    · simp only [decide_eq_true_eq, decide_eq_false_iff_not, Bool.and_eq_true, Bool.or_eq_true, Bool.and_eq_false_iff, Bool.or_eq_false_iff, Bool.not_eq_true', Bool.not_eq_false', Bool.not_eq_true, Bool.not_eq_false, Bool.true_eq_false, Bool.false_eq_true] at h
      refine awp_skip ?_
      refine awp_seq ?_
      refine awp_region rfl (.n (fun _ => op_move (.plain rfl)) (.n (fun _ => op_len (s := 0) Try.underlying22 (.plain rfl)) (.e (op_make (α := Int) (d := 0) (f := (fun n => [.int .i64 n])) 27 0 ety22 (.plain rfl) (.plain rfl) (fun _ => rfl) rfl rfl ?_) rfl (.n (fun _ => op_assign (.plain rfl)) (.nil _))))) ?_
      · omega
      refine awp_seq ?_
      refine awp_seq ?_
      refine awp_region rfl (.n (fun _ => op_move (.plain rfl)) (.n (fun _ => op_move (.plain rfl)) (.nil _))) ?_
      refine awp_block ?_
      refine awp_ent (Ent.ren 27 1009 rfl rfl rfl) ?_
      refine awp_loop (σ := Nat) (fun (k : Nat) => k ≤ house.toNat) (fun (k : Nat) => ⟨[(0, .pv (.i rule)), (1, .pv (.ints v)), (9, .own 1009), (28, .int house), (29, .int (k : Nat))], [(1009, .arr 3 1 Int 0 (fun n => [.int .i64 n]) (divF rule v k))]⟩) (fun (k : Nat) => house.toNat - k) 0 ?_ (Ent.kept ⟨rfl, rfl, rfl, rfl, rfl, trivial⟩ ⟨rfl, trivial⟩) ?_
      · simp
      rintro k hp
      try dsimp only at hp
      have hdl := (divF_ok rule v k).1
      have hdb := (divF_ok rule v k).2
      refine awp_seq ?_
      refine awp_region rfl (.n (fun _ => op_lss (.plain rfl) (.plain rfl)) (.nil _)) ?_
      refine awp_seq ?_
      refine awp_cond rfl (fun h => ?_) (fun h => ?_)
      · simp only [decide_eq_true_eq, decide_eq_false_iff_not, Bool.and_eq_true, Bool.or_eq_true, Bool.and_eq_false_iff, Bool.or_eq_false_iff, Bool.not_eq_true', Bool.not_eq_false', Bool.not_eq_true, Bool.not_eq_false, Bool.true_eq_false, Bool.false_eq_true] at h
        refine awp_skip ?_
        refine awp_seq ?_
        refine awp_block ?_
        refine awp_seq ?_
        refine awp_region rfl (.n (fun _ => op_assign (.plain rfl)) (.nil _)) ?_
        refine awp_seq ?_
        refine awp_seq ?_
        refine awp_region rfl (.n (fun _ => op_move (.plain rfl)) (.n (fun _ => op_len (s := 0) Try.underlying22 (.plain rfl)) (.n (fun _ => op_move (.plain rfl)) (.nil _)))) ?_
        refine awp_block ?_
        refine awp_loop (σ := Nat) (fun (j : Nat) => j ≤ v.length) (fun (j : Nat) => ⟨[(0, .pv (.i rule)), (1, .pv (.ints v)), (9, .own 1009), (28, .int house), (29, .int (k : Nat)), (10, .int (bestF rule v (divF rule v k) j)), (31, .pv (.ints v)), (32, .int (v.length : Nat)), (33, .int (j : Nat))], [(1009, .arr 3 1 Int 0 (fun n => [.int .i64 n]) (divF rule v k))]⟩) (fun (j : Nat) => v.length - j) 0 ?_ (Ent.kept ⟨rfl, rfl, rfl, rfl, rfl, rfl, rfl, rfl, rfl, trivial⟩ ⟨rfl, trivial⟩) ?_
        · simp
        rintro j hp
        try dsimp only at hp
        have hbb := bestF_bd rule v (divF rule v k) j
        have hb0 : 0 < j → 0 ≤ bestF rule v (divF rule v k) j := fun hj => hbb.2.2 ⟨0, hj, h0⟩
        have hgj := getD_bd (show (0 : Int) ≤ 1000000 by omega) hv j
        have hgb := getD_bd (show (0 : Int) ≤ 1000000 by omega) hv (bestF rule v (divF rule v k) j).toNat
        have hdj := hdb j
        have hdd := hdb (bestF rule v (divF rule v k) j).toNat
        refine awp_seq ?_
        refine awp_region rfl (.n (fun _ => op_lss (.plain rfl) (.plain rfl)) (.nil _)) ?_
        refine awp_seq ?_
        refine awp_cond rfl (fun h => ?_) (fun h => ?_)
        · simp only [decide_eq_true_eq, decide_eq_false_iff_not, Bool.and_eq_true, Bool.or_eq_true, Bool.and_eq_false_iff, Bool.or_eq_false_iff, Bool.not_eq_true', Bool.not_eq_false', Bool.not_eq_true, Bool.not_eq_false, Bool.true_eq_false, Bool.false_eq_true] at h
          refine awp_skip ?_
          refine awp_seq ?_
          refine awp_block ?_
          refine awp_seq ?_
          refine awp_region rfl (.n (fun _ => op_move (.plain rfl)) (.n (fun _ => op_indexAddrN Try.underlying22 Try.sizeOf3 (.plain rfl) (.plain rfl) (fun _ => rfl) ?_) (.n (fun _ => op_load Try.isAgg3 (.plain rfl)) (.n (fun _ => op_assign (.plain rfl)) (.n (fun _ => op_assign (.plain rfl)) (.nil _)))))) ?_
          · omega
          refine awp_seq ?_
          refine awp_region_draw mixed rfl (.n (fun _ => op_move (.plain rfl)) (.n (fun _ => op_gtr (.plain rfl) (.plain rfl)) (.n (fun _ => op_move (.plain rfl)) (.gn rfl rfl (fun hg _ => op_move (.plain rfl)) (.gn rfl rfl (fun hg _ => op_lss (.opt rfl fun h => h) (.plain rfl)) (.gn rfl rfl (fun hg _ => op_move (.opt rfl fun h => h)) (.ggn rfl rfl (fun hg _ => op_move (.plain rfl)) (.ggn rfl rfl (fun hg _ => op_move (.plain rfl)) (.ggn rfl rfl (fun hg _ => op_move (.plain rfl)) (.ggr rfl rfl (fun hg => op_indexAddrON Try.underlying22 Try.sizeOf3 (.opt rfl fun h => h) rfl (.opt rfl fun h => h) ?_) (.ggr rfl rfl (fun hg => op_loadE Try.isAgg3 (.opt rfl fun h => h) rfl (fun _ => rfl) ?_ rfl) (.ggn rfl rfl (fun hg _ => op_build (pp := [(0, _), (1, _)]) (places := #[(0, 1), (1, 1)]) Try.underlying32 Try.zeroValue32 rfl (by intro w; kernel_rfl) ⟨rfl, (.opt rfl fun h => h), (by simp), rfl, (.opt rfl fun h => h), (by simp), trivial⟩ rfl) (.ggn rfl rfl (fun hg _ => op_move (.plain rfl)) (.ggn rfl rfl (fun hg _ => op_move (.plain rfl)) (.ggn rfl rfl (fun hg _ => op_indexAddr Try.underlying22 Try.sizeOf3 (.opt rfl fun h => h) (.opt rfl fun h => h) (fun _ => rfl) ?_) (.ggn rfl rfl (fun hg _ => op_load Try.isAgg3 (.opt rfl fun h => h)) (.ggn rfl rfl (fun hg _ => op_move (.plain rfl)) (.ggn rfl rfl (fun hg _ => op_move (.plain rfl)) (.ggr rfl rfl (fun hg => op_indexAddrO Try.underlying22 Try.sizeOf3 (.opt rfl fun h => h) rfl (.opt rfl fun h => h) ?_) (.ggr rfl rfl (fun hg => op_loadE Try.isAgg3 (.opt rfl fun h => h) rfl (fun _ => rfl) ?_ rfl) (.ggn rfl rfl (fun hg _ => op_build (pp := [(0, _), (1, _)]) (places := #[(0, 1), (1, 1)]) Try.underlying32 Try.zeroValue32 rfl (by intro w; kernel_rfl) ⟨rfl, (.opt rfl fun h => h), (by simp), rfl, (.opt rfl fun h => h), (by simp), trivial⟩ rfl) (.ggn rfl rfl (fun hg _ => op_move (.plain rfl)) (.ggn rfl rfl (fun hg _ => op_call3 Try.call9 (.opt rfl fun h => h) (.opt rfl fun h => h) (.opt rfl fun h => h) (before_fc _ _ _ _ _ ?_ ?_ ?_ ?_)) (.gn rfl rfl (fun hg _ => op_or (.opt rfl fun h => h) (.plain rfl) (.plain rfl) (fun h => andI hg (eqF h))) (.n (fun _ => op_and (.plain rfl) (.plain rfl) (.plain rfl) (fun h => eqT h)) (.nil _)))))))))))))))))))))))))) ?d3 ?_
          · try simp only [beq_iff_eq, beq_true, beq_false, Bool.and_eq_true, decide_eq_true_eq, decide_eq_false_iff_not, Bool.not_eq_true', Bool.or_eq_true, Bool.or_eq_false_iff] at hg
            first | omega | (simp; omega)
          · try simp only [beq_iff_eq, beq_true, beq_false, Bool.and_eq_true, decide_eq_true_eq, decide_eq_false_iff_not, Bool.not_eq_true', Bool.or_eq_true, Bool.or_eq_false_iff] at hg
            first | omega | (simp; omega)
          · try simp only [beq_iff_eq, beq_true, beq_false, Bool.and_eq_true, decide_eq_true_eq, decide_eq_false_iff_not, Bool.not_eq_true', Bool.or_eq_true, Bool.or_eq_false_iff] at hg
            omega
          · try simp only [beq_iff_eq, beq_true, beq_false, Bool.and_eq_true, decide_eq_true_eq, decide_eq_false_iff_not, Bool.not_eq_true', Bool.or_eq_true, Bool.or_eq_false_iff] at hg
            first | omega | (simp; omega)
          · try simp only [beq_iff_eq, beq_true, beq_false, Bool.and_eq_true, decide_eq_true_eq, decide_eq_false_iff_not, Bool.not_eq_true', Bool.or_eq_true, Bool.or_eq_false_iff] at hg
            first | omega | (simp; omega)
          · try simp only [beq_iff_eq, beq_true, beq_false, Bool.and_eq_true, decide_eq_true_eq, decide_eq_false_iff_not, Bool.not_eq_true', Bool.or_eq_true, Bool.or_eq_false_iff] at hg
            omega
          · try simp only [beq_iff_eq, beq_true, beq_false, Bool.and_eq_true, decide_eq_true_eq, decide_eq_false_iff_not, Bool.not_eq_true', Bool.or_eq_true, Bool.or_eq_false_iff] at hg
            omega
          · try simp only [beq_iff_eq, beq_true, beq_false, Bool.and_eq_true, decide_eq_true_eq, decide_eq_false_iff_not, Bool.not_eq_true', Bool.or_eq_true, Bool.or_eq_false_iff] at hg
            omega
          · try simp only [beq_iff_eq, beq_true, beq_false, Bool.and_eq_true, decide_eq_true_eq, decide_eq_false_iff_not, Bool.not_eq_true', Bool.or_eq_true, Bool.or_eq_false_iff] at hg
            omega
          · kernel_rfl
          refine awp_cond rfl (fun h => ?_) (fun h => ?_)
          · simp only [decide_eq_true_eq, decide_eq_false_iff_not, Bool.and_eq_true, Bool.or_eq_true, Bool.and_eq_false_iff, Bool.or_eq_false_iff, Bool.not_eq_true', Bool.not_eq_false', Bool.not_eq_true, Bool.not_eq_false, Bool.true_eq_false, Bool.false_eq_true] at h
            refine awp_region rfl (.n (fun _ => op_move (.plain rfl)) (.n (fun _ => op_assign (.plain rfl)) (.nil _))) ?_
            refine awp_region rfl (.n (fun _ => op_add (.plain rfl) (.plain rfl) ?_) (.n (fun _ => op_move (.plain rfl)) (.nil _))) ?_
            · unfold InR; omega
            exact ⟨j + 1, by omega, by dsimp only; omega, (Ent.kept ⟨rfl, rfl, rfl, rfl, rfl, (by simp only [bestF]; first | (rw [if_pos h]; rfl) | (rw [if_neg (fun hc => h.elim (fun h => h hc.1) (fun h => hc.2.elim h.1 (fun e => Bool.noConfusion (e.symm.trans h.2))))]; rfl)), rfl, rfl, rfl, trivial⟩ ⟨rfl, trivial⟩)⟩
          · simp only [decide_eq_true_eq, decide_eq_false_iff_not, Bool.and_eq_true, Bool.or_eq_true, Bool.and_eq_false_iff, Bool.or_eq_false_iff, Bool.not_eq_true', Bool.not_eq_false', Bool.not_eq_true, Bool.not_eq_false, Bool.true_eq_false, Bool.false_eq_true] at h
            refine awp_skip ?_
            refine awp_region rfl (.n (fun _ => op_add (.plain rfl) (.plain rfl) ?_) (.n (fun _ => op_move (.plain rfl)) (.nil _))) ?_
            · unfold InR; omega
            exact ⟨j + 1, by omega, by dsimp only; omega, (Ent.kept ⟨rfl, rfl, rfl, rfl, rfl, (by simp only [bestF]; first | (rw [if_pos h]; rfl) | (rw [if_neg (fun hc => h.elim (fun h => h hc.1) (fun h => hc.2.elim h.1 (fun e => Bool.noConfusion (e.symm.trans h.2))))]; rfl)), rfl, rfl, rfl, trivial⟩ ⟨rfl, trivial⟩)⟩
        · simp only [decide_eq_true_eq, decide_eq_false_iff_not, Bool.and_eq_true, Bool.or_eq_true, Bool.and_eq_false_iff, Bool.or_eq_false_iff, Bool.not_eq_true', Bool.not_eq_false', Bool.not_eq_true, Bool.not_eq_false, Bool.true_eq_false, Bool.false_eq_true] at h
          refine awp_exit ?_
          refine awp_region rfl (.n (fun _ => op_move (.plain rfl)) (.n (fun _ => op_move (.plain rfl)) (.r (op_indexAddrO Try.underlying22 Try.sizeOf3 (.plain rfl) rfl (.plain rfl) ?_) (.r (op_loadE Try.isAgg3 (.plain rfl) rfl (fun _ => rfl) ?_ rfl) (.n (fun _ => op_add (.plain rfl) (.plain rfl) ?_) (.r (op_indexAddrO Try.underlying22 Try.sizeOf3 (.plain rfl) rfl (.plain rfl) ?_) (.e (op_storeE _ Try.sizeOf3 (.plain rfl) (.plain rfl) rfl (fun _ => rfl) ?_ (by decide) rfl rfl) rfl (.nil _)))))))) ?_
          · first | omega | (simp; omega)
          · first | omega | (simp; omega)
          · unfold InR; omega
          · first | omega | (simp; omega)
          · first | omega | (simp; omega)
          refine awp_region rfl (.n (fun _ => op_add (.plain rfl) (.plain rfl) ?_) (.n (fun _ => op_move (.plain rfl)) (.nil _))) ?_
          · unfold InR; omega
          obtain rfl : j = v.length := by omega
          exact ⟨k + 1, by omega, by dsimp only; omega, (Ent.kept ⟨rfl, rfl, rfl, rfl, rfl, trivial⟩ ⟨rfl, trivial⟩)⟩
      · simp only [decide_eq_true_eq, decide_eq_false_iff_not, Bool.and_eq_true, Bool.or_eq_true, Bool.and_eq_false_iff, Bool.or_eq_false_iff, Bool.not_eq_true', Bool.not_eq_false', Bool.not_eq_true, Bool.not_eq_false, Bool.true_eq_false, Bool.false_eq_true] at h
        refine awp_exit ?_
        refine awp_seq ?_
        refine awp_region rfl (.n (fun _ => op_move (.plain rfl)) (.n (fun _ => op_assign (.plain rfl)) (.n (fun _ => op_assign (.plain rfl)) (.nil _)))) ?_
        refine awp_ret ?_
        refine retQ.ret ?_
        refine ret2 rfl rfl rfl rfl rfl ?_
        obtain rfl : k = house.toNat := by omega
        rfl

theorem TopHouse_fc (raw : List Int) (house rule : Int) : FC Try.prog 3 [.ints raw, .i house, .i rule] (.bool true) := by
  refine FC.intro Try.func3 rfl (Nat.le_of_ble_eq_true rfl) fun hfit => ?_
  obtain ⟨fitl0, fitr0⟩ := (hfit _ (.head _)).ints
  have fit1 : -9223372036854775808 ≤ (house : Int) ∧ (house : Int) ≤ 9223372036854775807 := (hfit _ (.tail _ (.head _))).int64
  have fit2 : -9223372036854775808 ≤ (rule : Int) ∧ (rule : Int) ≤ 9223372036854775807 := (hfit _ (.tail _ (.tail _ (.head _)))).int64
  obtain ⟨hl, hv, h0⟩ := votesF_ok raw
  have hq1 := pickF_range house 200 (by omega)
  have hq2 := pickF_range rule 4 (by omega)
  have hh : 0 ≤ pickF house 200 ∧ pickF house 200 ≤ 200 := by omega
  have hh' : 0 ≤ pickF house 200 + 1 ∧ pickF house 200 + 1 ≤ 200 := by omega
  have hrr : 1 ≤ 1 + pickF rule 4 ∧ 1 + pickF rule 4 ≤ 4 := by omega
  obtain ⟨al, ab⟩ := divF_ok (1 + pickF rule 4) (votesF raw) (pickF house 200).toNat
  obtain ⟨bl, bb⟩ := divF_ok (1 + pickF rule 4) (votesF raw) (pickF house 200 + 1).toNat
  have hbe : (pickF house 200 + 1).toNat = (pickF house 200).toNat + 1 := by omega
  refine awp_seq ?_
  refine awp_region rfl (.n (fun _ => op_assign (.plain rfl)) (.nil _)) ?_
  refine awp_seq ?_
  refine awp_seq ?_
  refine awp_region rfl (.n (fun _ => op_move (.plain rfl)) (.n (fun _ => op_len (s := 0) Try.underlying22 (.plain rfl)) (.n (fun _ => op_gtr (.plain rfl) (.plain rfl)) (.nil _)))) ?_
  refine awp_cond rfl (fun h => ?_) (fun h => ?_)
  · simp only [decide_eq_true_eq, decide_eq_false_iff_not, Bool.and_eq_true, Bool.or_eq_true, Bool.and_eq_false_iff, Bool.or_eq_false_iff, Bool.not_eq_true', Bool.not_eq_false', Bool.not_eq_true, Bool.not_eq_false, Bool.true_eq_false, Bool.false_eq_true] at h
    refine awp_seq ?_
    refine awp_region rfl (.n (fun _ => op_assign (.plain rfl)) (.nil _)) ?_
    refine awp_ret ?_
    refine retQ.ret ?_
    refine ret1 rfl rfl rfl ?_
    rfl
  · simp only [decide_eq_true_eq, decide_eq_false_iff_not, Bool.and_eq_true, Bool.or_eq_true, Bool.and_eq_false_iff, Bool.or_eq_false_iff, Bool.not_eq_true', Bool.not_eq_false', Bool.not_eq_true, Bool.not_eq_false, Bool.true_eq_false, Bool.false_eq_true] at h
    refine awp_skip ?_
    refine awp_seq ?_
    refine awp_region rfl (.n (fun _ => op_move (.plain rfl)) (.n (fun _ => op_call1 Try.call4 (.plain rfl) (votesOf_fc _)) (.n (fun _ => op_assign (.plain rfl)) (.nil _)))) ?_
    refine awp_seq ?_
    refine awp_region rfl (.n (fun _ => op_move (.plain rfl)) (.n (fun _ => op_call2 Try.call5 (.plain rfl) (.plain rfl) (Pick_fc _ _ ?_)) (.n (fun _ => op_assign (.plain rfl)) (.nil _)))) ?_
    · omega
    refine awp_seq ?_
    refine awp_region rfl (.n (fun _ => op_move (.plain rfl)) (.n (fun _ => op_call2 Try.call5 (.plain rfl) (.plain rfl) (Pick_fc _ _ ?_)) (.n (fun _ => op_add (.plain rfl) (.plain rfl) ?_) (.n (fun _ => op_assign (.plain rfl)) (.nil _))))) ?_
    · omega
    · unfold InR; omega
    refine awp_seq ?_
    refine awp_region rfl (.n (fun _ => op_move (.plain rfl)) (.n (fun _ => op_move (.plain rfl)) (.n (fun _ => op_move (.plain rfl)) (.n (fun _ => op_call3 Try.call6 (.plain rfl) (.plain rfl) (.plain rfl) (Divide_fc _ _ _ ?_ ?_ ?_ ?_ ?_)) (.n (fun _ => op_move (.plain rfl)) (.n (fun _ => op_extract (.plain rfl) rfl) (.n (fun _ => op_extract (.plain rfl) rfl) (.n (fun _ => op_assign (.plain rfl)) (.n (fun _ => op_assign (.plain rfl)) (.nil _)))))))))) ?_
    · assumption
    · assumption
    · assumption
    · assumption
    · assumption
    refine awp_seq ?_
    refine awp_region rfl (.n (fun _ => op_move (.plain rfl)) (.n (fun _ => op_move (.plain rfl)) (.n (fun _ => op_move (.plain rfl)) (.n (fun _ => op_add (.plain rfl) (.plain rfl) ?_) (.n (fun _ => op_call3 Try.call6 (.plain rfl) (.plain rfl) (.plain rfl) (Divide_fc _ _ _ ?_ ?_ ?_ ?_ ?_)) (.n (fun _ => op_move (.plain rfl)) (.n (fun _ => op_extract (.plain rfl) rfl) (.n (fun _ => op_extract (.plain rfl) rfl) (.n (fun _ => op_assign (.plain rfl)) (.n (fun _ => op_assign (.plain rfl)) (.nil _))))))))))) ?_
    · unfold InR; omega
    · assumption
    · assumption
    · assumption
    · assumption
    · assumption
    refine awp_seq ?_
    refine awp_seq ?_
    refine awp_region rfl (.n (fun _ => op_move (.plain rfl)) (.n (fun _ => op_neq (.plain rfl) (.plain rfl)) (.n (fun _ => op_move (.plain rfl)) (.gn rfl rfl (fun hg _ => op_move (.plain rfl)) (.gn rfl rfl (fun hg _ => op_neq (.opt rfl fun h => h) (.plain rfl)) (.n (fun _ => op_or (.plain rfl) (.plain rfl) (.plain rfl) (fun h => eqF h)) (.n (fun _ => op_move (.plain rfl)) (.gn rfl rfl (fun hg _ => op_move (.plain rfl)) (.gn rfl rfl (fun hg _ => op_len (s := 0) Try.underlying22 (.opt rfl fun h => h)) (.gn rfl rfl (fun hg _ => op_move (.plain rfl)) (.gn rfl rfl (fun hg _ => op_len (s := 0) Try.underlying22 (.opt rfl fun h => h)) (.gn rfl rfl (fun hg _ => op_neq (.opt rfl fun h => h) (.opt rfl fun h => h)) (.n (fun _ => op_or (.plain rfl) (.plain rfl) (.plain rfl) (fun h => eqF h)) (.n (fun _ => op_move (.plain rfl)) (.gn rfl rfl (fun hg _ => op_move (.plain rfl)) (.gn rfl rfl (fun hg _ => op_len (s := 0) Try.underlying22 (.opt rfl fun h => h)) (.gn rfl rfl (fun hg _ => op_move (.plain rfl)) (.gn rfl rfl (fun hg _ => op_len (s := 0) Try.underlying22 (.opt rfl fun h => h)) (.gn rfl rfl (fun hg _ => op_neq (.opt rfl fun h => h) (.opt rfl fun h => h)) (.n (fun _ => op_or (.plain rfl) (.plain rfl) (.plain rfl) (fun h => eqF h)) (.nil _))))))))))))))))))))) ?_
    refine awp_cond rfl (fun h => ?_) (fun h => ?_)
    · simp only [decide_eq_true_eq, decide_eq_false_iff_not, Bool.and_eq_true, Bool.or_eq_true, Bool.and_eq_false_iff, Bool.or_eq_false_iff, Bool.not_eq_true', Bool.not_eq_false', Bool.not_eq_true, Bool.not_eq_false, Bool.true_eq_false, Bool.false_eq_true] at h
      exfalso
      rcases h with ((h | h) | h) | h
      · exact h trivial
      · exact h trivial
      · omega
      · omega
    · simp only [decide_eq_true_eq, decide_eq_false_iff_not, Bool.and_eq_true, Bool.or_eq_true, Bool.and_eq_false_iff, Bool.or_eq_false_iff, Bool.not_eq_true', Bool.not_eq_false', Bool.not_eq_true, Bool.not_eq_false, Bool.true_eq_false, Bool.false_eq_true] at h
      refine awp_skip ?_
      refine awp_seq ?_
      refine awp_region rfl (.n (fun _ => op_assign (.plain rfl)) (.nil _)) ?_
      refine awp_seq ?_
      refine awp_seq ?_
      refine awp_region rfl (.n (fun _ => op_assign (.plain rfl)) (.nil _)) ?_
      refine awp_block ?_
      refine awp_loop (σ := Nat) (fun (k : Nat) => k ≤ (votesF raw).length) (fun (k : Nat) => ⟨[(7, .pv (.ints (votesF raw))), (1, .int (pickF house 200)), (8, .pv (.ints (divF (1 + pickF rule 4) (votesF raw) (pickF house 200).toNat))), (10, .pv (.ints (divF (1 + pickF rule 4) (votesF raw) (pickF house 200 + 1).toNat))), (12, .int ((divF (1 + pickF rule 4) (votesF raw) (pickF house 200).toNat).take k).sum), (13, .int (k : Nat))], []⟩) (fun (k : Nat) => (votesF raw).length - k) 0 ?_ (Ent.kept ⟨rfl, rfl, rfl, rfl, rfl, rfl, trivial⟩ trivial) ?_
      · simp
      rintro k hp
      try dsimp only at hp
      have hst := divF_step (1 + pickF rule 4) hl.1 h0 (pickF house 200).toNat k
      rw [← hbe] at hst
      have hak := ab k
      have hbk := bb k
      have hsm := sum_bd (B := 200) (v := (divF (1 + pickF rule 4) (votesF raw) (pickF house 200).toNat).take k) (fun x hx => by
      obtain ⟨i, hi, rfl⟩ := List.getElem_of_mem (List.mem_of_mem_take hx)
      have := ab i
      simp only [List.getD_eq_getElem?_getD, List.getElem?_eq_getElem hi, Option.getD_some] at this
      omega)
      have hsl : ((divF (1 + pickF rule 4) (votesF raw) (pickF house 200).toNat).take k).length ≤ 8 := by simp; omega
      refine awp_seq ?_
      refine awp_seq ?_
      refine awp_region rfl (.n (fun _ => op_move (.plain rfl)) (.n (fun _ => op_move (.plain rfl)) (.n (fun _ => op_len (s := 0) Try.underlying22 (.plain rfl)) (.n (fun _ => op_lss (.plain rfl) (.plain rfl)) (.nil _))))) ?_
      refine awp_cond rfl (fun h => ?_) (fun h => ?_)
      · simp only [decide_eq_true_eq, decide_eq_false_iff_not, Bool.and_eq_true, Bool.or_eq_true, Bool.and_eq_false_iff, Bool.or_eq_false_iff, Bool.not_eq_true', Bool.not_eq_false', Bool.not_eq_true, Bool.not_eq_false, Bool.true_eq_false, Bool.false_eq_true] at h
        refine awp_skip ?_
        refine awp_seq ?_
        refine awp_block ?_
        refine awp_seq ?_
        refine awp_region rfl (.n (fun _ => op_move (.plain rfl)) (.n (fun _ => op_move (.plain rfl)) (.n (fun _ => op_move (.plain rfl)) (.n (fun _ => op_indexAddrN Try.underlying22 Try.sizeOf3 (.plain rfl) (.plain rfl) (fun _ => rfl) ?_) (.n (fun _ => op_load Try.isAgg3 (.plain rfl)) (.n (fun _ => op_add (.plain rfl) (.plain rfl) ?_) (.n (fun _ => op_assign (.plain rfl)) (.nil _)))))))) ?_
        · omega
        · unfold InR; omega
        refine awp_seq ?_
        refine awp_region_draw mixed rfl (.n (fun _ => op_move (.plain rfl)) (.n (fun _ => op_move (.plain rfl)) (.n (fun _ => op_indexAddrN Try.underlying22 Try.sizeOf3 (.plain rfl) (.plain rfl) (fun _ => rfl) ?_) (.n (fun _ => op_load Try.isAgg3 (.plain rfl)) (.n (fun _ => op_move (.plain rfl)) (.n (fun _ => op_move (.plain rfl)) (.n (fun _ => op_indexAddrN Try.underlying22 Try.sizeOf3 (.plain rfl) (.plain rfl) (fun _ => rfl) ?_) (.n (fun _ => op_load Try.isAgg3 (.plain rfl)) (.n (fun _ => op_lss (.plain rfl) (.plain rfl)) (.n (fun _ => op_move (.plain rfl)) (.gn rfl rfl (fun hg _ => op_move (.plain rfl)) (.gn rfl rfl (fun hg _ => op_move (.plain rfl)) (.gn rfl rfl (fun hg _ => op_indexAddrN Try.underlying22 Try.sizeOf3 (.opt rfl fun h => h) (.opt rfl fun h => h) (fun _ => rfl) ?_) (.gn rfl rfl (fun hg _ => op_load Try.isAgg3 (.opt rfl fun h => h)) (.gn rfl rfl (fun hg _ => op_move (.plain rfl)) (.gn rfl rfl (fun hg _ => op_move (.plain rfl)) (.gn rfl rfl (fun hg _ => op_indexAddrN Try.underlying22 Try.sizeOf3 (.opt rfl fun h => h) (.opt rfl fun h => h) (fun _ => rfl) ?_) (.gn rfl rfl (fun hg _ => op_load Try.isAgg3 (.opt rfl fun h => h)) (.gn rfl rfl (fun hg _ => op_add (.opt rfl fun h => h) (.plain rfl) ?_) (.gn rfl rfl (fun hg _ => op_gtr (.opt rfl fun h => h) (.opt rfl fun h => h)) (.n (fun _ => op_or (.plain rfl) (.plain rfl) (.plain rfl) (fun h => eqF h)) (.n (fun _ => op_move (.plain rfl)) (.gn rfl rfl (fun hg _ => op_move (.plain rfl)) (.gn rfl rfl (fun hg _ => op_move (.plain rfl)) (.gn rfl rfl (fun hg _ => op_indexAddrN Try.underlying22 Try.sizeOf3 (.opt rfl fun h => h) (.opt rfl fun h => h) (fun _ => rfl) ?_) (.gn rfl rfl (fun hg _ => op_load Try.isAgg3 (.opt rfl fun h => h)) (.gn rfl rfl (fun hg _ => op_eql (.opt rfl fun h => h) (.plain rfl)) (.gn rfl rfl (fun hg _ => op_move (.opt rfl fun h => h)) (.ggn rfl rfl (fun hg _ => op_move (.plain rfl)) (.ggn rfl rfl (fun hg _ => op_move (.plain rfl)) (.ggn rfl rfl (fun hg _ => op_indexAddrN Try.underlying22 Try.sizeOf3 (.opt rfl fun h => h) (.opt rfl fun h => h) (fun _ => rfl) ?_) (.ggn rfl rfl (fun hg _ => op_load Try.isAgg3 (.opt rfl fun h => h)) (.ggn rfl rfl (fun hg _ => op_gtr (.opt rfl fun h => h) (.plain rfl)) (.gn rfl rfl (fun hg _ => op_and (.opt rfl fun h => h) (.plain rfl) (.plain rfl) (fun h => andI hg (eqT h))) (.n (fun _ => op_or (.plain rfl) (.plain rfl) (.plain rfl) (fun h => eqF h)) (.nil _)))))))))))))))))))))))))))))))))))) ?d4 ?_
        · omega
        · omega
        · try simp only [beq_iff_eq, beq_true, beq_false, Bool.and_eq_true, decide_eq_true_eq, decide_eq_false_iff_not, Bool.not_eq_true', Bool.or_eq_true, Bool.or_eq_false_iff] at hg
          omega
        · try simp only [beq_iff_eq, beq_true, beq_false, Bool.and_eq_true, decide_eq_true_eq, decide_eq_false_iff_not, Bool.not_eq_true', Bool.or_eq_true, Bool.or_eq_false_iff] at hg
          omega
        · try simp only [beq_iff_eq, beq_true, beq_false, Bool.and_eq_true, decide_eq_true_eq, decide_eq_false_iff_not, Bool.not_eq_true', Bool.or_eq_true, Bool.or_eq_false_iff] at hg
          unfold InR; omega
        · try simp only [beq_iff_eq, beq_true, beq_false, Bool.and_eq_true, decide_eq_true_eq, decide_eq_false_iff_not, Bool.not_eq_true', Bool.or_eq_true, Bool.or_eq_false_iff] at hg
          omega
        · try simp only [beq_iff_eq, beq_true, beq_false, Bool.and_eq_true, decide_eq_true_eq, decide_eq_false_iff_not, Bool.not_eq_true', Bool.or_eq_true, Bool.or_eq_false_iff] at hg
          omega
        · kernel_rfl
        refine awp_cond rfl (fun h => ?_) (fun h => ?_)
        · simp only [decide_eq_true_eq, decide_eq_false_iff_not, Bool.and_eq_true, Bool.or_eq_true, Bool.and_eq_false_iff, Bool.or_eq_false_iff, Bool.not_eq_true', Bool.not_eq_false', Bool.not_eq_true, Bool.not_eq_false, Bool.true_eq_false, Bool.false_eq_true] at h
          exfalso
          rcases h with (h | h) | h
          · omega
          · omega
          · have := divF_zero (1 + pickF rule 4) hl.1 h0 k h.1 (pickF house 200 + 1).toNat
            omega
        · simp only [decide_eq_true_eq, decide_eq_false_iff_not, Bool.and_eq_true, Bool.or_eq_true, Bool.and_eq_false_iff, Bool.or_eq_false_iff, Bool.not_eq_true', Bool.not_eq_false', Bool.not_eq_true, Bool.not_eq_false, Bool.true_eq_false, Bool.false_eq_true] at h
          refine awp_skip ?_
          refine awp_region rfl (.n (fun _ => op_move (.plain rfl)) (.n (fun _ => op_add (.plain rfl) (.plain rfl) ?_) (.n (fun _ => op_assign (.plain rfl)) (.nil _)))) ?_
          · unfold InR; omega
          exact ⟨k + 1, by omega, by dsimp only; omega, (Ent.kept ⟨rfl, rfl, rfl, rfl, (by rw [sum_take_succ _ k (by omega)]; rfl), rfl, trivial⟩ trivial)⟩
      · simp only [decide_eq_true_eq, decide_eq_false_iff_not, Bool.and_eq_true, Bool.or_eq_true, Bool.and_eq_false_iff, Bool.or_eq_false_iff, Bool.not_eq_true', Bool.not_eq_false', Bool.not_eq_true, Bool.not_eq_false, Bool.true_eq_false, Bool.false_eq_true] at h
        refine awp_exit ?_
        refine awp_seq ?_
        refine awp_region rfl (.n (fun _ => op_move (.plain rfl)) (.n (fun _ => op_move (.plain rfl)) (.n (fun _ => op_eql (.plain rfl) (.plain rfl)) (.n (fun _ => op_assign (.plain rfl)) (.nil _))))) ?_
        refine awp_ret ?_
        refine retQ.ret ?_
        refine ret1 rfl rfl rfl ?_
        obtain rfl : k = (votesF raw).length := by omega
        rw [← al, List.take_length, divF_sum _ hl.1 h0]
        rw [decide_eq_true (by omega)]

end Go.Proofs.Ytjefdibmfhbifaa

