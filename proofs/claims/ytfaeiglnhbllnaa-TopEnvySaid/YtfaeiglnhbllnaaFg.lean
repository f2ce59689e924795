/- What TopEnvy says, on plain values. Conditions: each theorem names its own. -/
import Derived.Test.YtfaeiglnhbllnaaProg
import Derived.Test.YtfaeiglnhbllnaaFf
namespace Go.Proofs.Ytfaeiglnhbllnaa
open Go.Abs
set_option linter.unusedVariables false
set_option linter.unusedSimpArgs false


def pickF (c n : Int) : Int := (if c < 0 then -(c + 1) else c) % n
theorem pickF_range (c n : Int) (h : 1 ≤ n) : 0 ≤ pickF c n ∧ pickF c n < n := by
  unfold pickF
  exact ⟨Int.emod_nonneg _ (by omega), Int.emod_lt_of_pos _ (by omega)⟩
def atR (raw : List Int) (k : Nat) : Int := if raw.length = 0 then 0 else raw.getD (k % raw.length) 0
def upF (n : Nat) : List Int := (List.range n).map fun (i : Nat) => (i : Int)
theorem upF_succ (n : Nat) : upF (n + 1) = upF n ++ [(n : Int)] := by simp [upF, List.range_succ]
@[simp] theorem upF_length (n : Nat) : (upF n).length = n := by simp [upF]

def valF (raw : List Int) (n m : Nat) : List (List Int) := mapr n fun i => mapr m fun k => pickF (atR raw (i * m + k)) 12
@[simp] theorem valF_length (raw : List Int) (n m : Nat) : (valF raw n m).length = n := by simp [valF]
theorem valF_row {raw : List Int} {n m i : Nat} (h : i < n) : (valF raw n m).getD i [] = mapr m fun k => pickF (atR raw (i * m + k)) 12 := mapr_getD [] h
theorem firstE_all {f : Nat → Int} : ∀ {n : Nat}, (∀ j, j < n → f j = 0) → firstE f n = 0
  | 0, _ => rfl
  | n + 1, h => firstE_succ (firstE_all fun j hj => h j (by omega)) (h n (by omega))
theorem may_of {v : List (List Int)} (h1 : 1 ≤ v.length) (h4 : v.length ≤ 4) (m : Nat) (hm : m ≤ 8) (hr : ∀ i, i < v.length → (v.getD i []).length = m) (hx : ∀ i, i < v.length → ∀ g, g < m → 0 ≤ (v.getD i []).getD g 0 ∧ (v.getD i []).getD g 0 ≤ 1000) : mayE v = 0 := by
  have e1 : firstE (lenB v) v.length = 0 := firstE_all fun j hj => by
    have := hr j hj; have := hr 0 (by omega)
    unfold lenB; rw [if_neg (by omega)]
  unfold mayE
  rw [if_neg (by omega), e1, if_neg (by simp)]
  refine firstE_all fun i hi => firstE_all fun g hg => ?_
  have := hx i hi g (by rw [← hr i hi]; exact hg)
  unfold valB; rw [if_neg (by omega)]
theorem valF_may {raw : List Int} {n m : Nat} (h1 : 1 ≤ n) (h4 : n ≤ 4) (hm : m ≤ 8) : mayE (valF raw n m) = 0 := by
  refine may_of (by simpa using h1) (by simpa using h4) m hm (fun i hi => ?_) fun i hi g hg => ?_
  · rw [valF_row (by simpa using hi)]; simp
  · rw [valF_row (by simpa using hi), mapr_getD 0 hg]
    have := pickF_range (atR raw (i * m + g)) 12 (by omega); omega
def gN (c : Int) : Nat := (1 + pickF c 3).toNat
def mN (c : Int) : Nat := (pickF c 7).toNat
theorem gN_eq (c : Int) : 1 + pickF c 3 = (gN c : Nat) ∧ 1 ≤ gN c ∧ gN c ≤ 3 := by
  have := pickF_range c 3 (by omega); unfold gN; omega
theorem mN_eq (c : Int) : pickF c 7 = (mN c : Nat) ∧ mN c ≤ 6 := by
  have := pickF_range c 7 (by omega); unfold mN; omega
theorem valF_mL {raw : List Int} {n m : Nat} (h : 1 ≤ n) : mL (valF raw n m) = m := by
  unfold mL; rw [valF_row (by omega)]; simp
structure Calm (v : List (List Int)) (give : List Int) : Prop where
  may : mayE v = 0
  len : give.length = mL v
  inn : ∀ j, j < mL v → 0 ≤ give.getD j 0 ∧ give.getD j 0 < (v.length : Int)
  ef1 : EF1 v give
theorem calm_gift {v : List (List Int)} {give : List Int} (h : Calm v give) : giftE v give = 0 := by
  rw [giftE_f h.may (by rw [h.len])]
  refine firstE_all fun j hj => ?_
  have := h.inn j (by rw [← h.len]; exact hj)
  unfold giB; rw [if_neg (by omega)]
theorem calm_no {v : List (List Int)} {give : List Int} (h : Calm v give) : ¬ 0 ≤ placeF give (-1) := fun c => by
  obtain ⟨j, hj, e⟩ := mem_at (place_mem.1 c)
  have := h.inn j (by rw [← h.len]; exact hj)
  omega
theorem calm_env {v : List (List Int)} {give : List Int} (h : Calm v give) : envyRes v give = envT v give := if_pos (calm_gift h)
theorem calm_row {v : List (List Int)} {give : List Int} (h : Calm v give) {i : Nat} (hi : i < v.length) : ((envT v give).getD i []).length = v.length ∧ ¬ 0 ≤ placeF ((envT v give).getD i []) 2 := by
  have e : (envT v give).getD i [] = mapr v.length fun k => envF v give i k := mapr_getD [] hi
  rw [e]
  refine ⟨by simp, fun c => ?_⟩
  obtain ⟨j, hj, e⟩ := mem_at (place_mem.1 c)
  rw [mapr_length] at hj
  rw [mapr_getD 0 hj] at e
  exact envF_ne2 h.ef1 hi hj e
theorem inn_of {v : List (List Int)} {l : List Int} (hl : l.length = mL v) (h : InW v.length l) : ∀ j, j < mL v → 0 ≤ l.getD j 0 ∧ l.getD j 0 < (v.length : Int) := fun j hj => h _ (getD_mem 0 (by omega))
theorem calm_turns {v : List (List Int)} (h : mayE v = 0) : Calm v (turnsRes v) := by
  have e : turnsRes v = turnS v (mL v) := if_pos h
  have hV := val_of h
  rw [e]
  refine ⟨h, turnS_length v _, fun j hj => ?_, turn_ef1b hV⟩
  have h0 := turnS_no (v := v) (getD_mem (l := turnS v (mL v)) (k := j) 0 (by rw [turnS_length]; exact hj))
  have := turnS_val (v := v) (Nat.le_refl _) j hj hV.n1
  omega
theorem calm_circ {v : List (List Int)} (h : mayE v = 0) : Calm v (circF v) := by
  have e : circF v = circTo v (mL v) := if_neg fun c => c h
  have hC := circ_good (val_of h) (mL v) (Nat.le_refl _)
  rw [e]
  exact ⟨h, hC.len, hC.done, hC.ef1⟩
theorem calm_even {v : List (List Int)} (h : mayE v = 0) : Calm v (evenRes v) := by
  have e : evenRes v = evR v (mL v) [] := if_pos h
  have hV := val_of h
  obtain ⟨h1, h2, _⟩ := even_best hV.n1
  rw [e]
  exact ⟨h, h1, inn_of h1 h2, even_ef1 hV⟩
def dF (other : List Int) (c : Int) (n : Nat) : List Int := mapr n fun j => pickF (atR other j) (1 + pickF c 3)
theorem dF_in {other : List Int} {c : Int} {n : Nat} : InW (gN c) (dF other c n) := fun x hx => by
  unfold dF mapr at hx
  obtain ⟨j, _, rfl⟩ := List.mem_map.1 hx
  have h1 := gN_eq c
  have := pickF_range (atR other j) (1 + pickF c 3) (by omega)
  omega
theorem any_cond {a b : Int} {p : Bool} {P : Nat → Bool} {i : Nat} (hp : p = anyTo P i) (h : P i = decide (a < b)) : (p || decide (a < b)) = anyTo P (i + 1) := by rw [anyTo, hp, h]
theorem envy_end {v : List (List Int)} (h : mayE v = 0) {d : List Int} (hd : d.length = mL v) (hin : InW v.length d) {i : Nat} (hi : i ≤ v.length) (hi2 : ¬ (i : Int) < v.length) (hle : ∀ j : Nat, j < i → hasF v (evenRes v) j j ≤ hasF v d j j) : (!anyTo (fun j => decide (hasF v (evenRes v) (j : Nat) (j : Nat) < hasF v d (j : Nat) (j : Nat))) i) = true := by
  obtain rfl : i = v.length := by omega
  have e : evenRes v = evR v (mL v) [] := if_pos h
  rw [e] at hle ⊢
  cases ha : anyTo (fun j => decide (hasF v (evR v (mL v) []) (j : Nat) (j : Nat) < hasF v d (j : Nat) (j : Nat))) v.length with
  | false => rfl
  | true =>
    obtain ⟨j, hj, hlt⟩ := anyTo_true ha
    exact absurd (of_decide_eq_true hlt) (even_pareto (val_of h) hd hin hle j hj)

theorem Pick_fc (c n : Int) (hn : 1 ≤ n) : FC Try.prog 19 [.i c, .i n] (.i (pickF c n)) := by
  refine FC.intro Try.func19 rfl (Nat.le_of_ble_eq_true rfl) fun hfit => ?_
  have fit0 : -9223372036854775808 ≤ (c : Int) ∧ (c : Int) ≤ 9223372036854775807 := (hfit _ (.head _)).int64
  have fit1 : -9223372036854775808 ≤ (n : Int) ∧ (n : Int) ≤ 9223372036854775807 := (hfit _ (.tail _ (.head _))).int64
  refine awp_seq ?_
  refine awp_region rfl (.n (fun _ => op_assign (.plain rfl)) (.nil _)) ?_
  refine awp_seq ?_
  refine awp_seq ?_
  refine awp_region rfl (.n (fun _ => op_move (.plain rfl)) (.n (fun _ => op_lss (.plain rfl) (.plain rfl)) (.nil _))) ?_
  refine awp_cond rfl (fun h => ?_) (fun h => ?_)
  · try simp only [decide_eq_true_eq, decide_eq_false_iff_not, Bool.and_eq_true, Bool.or_eq_true, Bool.and_eq_false_iff, Bool.or_eq_false_iff, Bool.not_eq_true', Bool.not_eq_false', Bool.not_eq_true, Bool.not_eq_false, Bool.true_eq_false, Bool.false_eq_true] at h
    refine awp_region rfl (.n (fun _ => op_move (.plain rfl)) (.n (fun _ => op_add (.plain rfl) (.plain rfl) ?_) (.n (fun _ => op_neg (.plain rfl) ?_) (.n (fun _ => op_assign (.plain rfl)) (.nil _))))) ?_
    · unfold InR; omega
    · unfold InR; omega
    refine awp_seq ?_
    refine awp_region rfl (.n (fun _ => op_move (.plain rfl)) (.n (fun _ => op_move (.plain rfl)) (.n (fun _ => op_rem (.plain rfl) (.plain rfl) ?_) (.n (fun _ => op_assign (.plain rfl)) (.nil _))))) ?_
    · omega
    refine awp_ret ?_
    refine retQ.ret ?_
    refine ret1 rfl rfl rfl ?_
    unfold pickF; rw [if_pos h]
  · try simp only [decide_eq_true_eq, decide_eq_false_iff_not, Bool.and_eq_true, Bool.or_eq_true, Bool.and_eq_false_iff, Bool.or_eq_false_iff, Bool.not_eq_true', Bool.not_eq_false', Bool.not_eq_true, Bool.not_eq_false, Bool.true_eq_false, Bool.false_eq_true] at h
    refine awp_skip ?_
    refine awp_seq ?_
    refine awp_region rfl (.n (fun _ => op_move (.plain rfl)) (.n (fun _ => op_move (.plain rfl)) (.n (fun _ => op_rem (.plain rfl) (.plain rfl) ?_) (.n (fun _ => op_assign (.plain rfl)) (.nil _))))) ?_
    · omega
    refine awp_ret ?_
    refine retQ.ret ?_
    refine ret1 rfl rfl rfl ?_
    unfold pickF; rw [if_neg h]

theorem At_fc (raw : List Int) (k : Nat) : FC Try.prog 22 [.ints raw, .i (k : Nat)] (.i (atR raw k)) := by
  refine FC.intro Try.func22 rfl (Nat.le_of_ble_eq_true rfl) fun hfit => ?_
  obtain ⟨fitl0, fitr0⟩ := (hfit _ (.head _)).ints
  have fit1 : -9223372036854775808 ≤ ((k : Nat) : Int) ∧ ((k : Nat) : Int) ≤ 9223372036854775807 := (hfit _ (.tail _ (.head _))).int64
  refine awp_seq ?_
  refine awp_region rfl (.n (fun _ => op_assign (.plain rfl)) (.nil _)) ?_
  refine awp_seq ?_
  refine awp_seq ?_
  refine awp_region rfl (.n (fun _ => op_move (.plain rfl)) (.n (fun _ => op_len (s := 0) Try.underlying24 (.plain rfl)) (.n (fun _ => op_eql (.plain rfl) (.plain rfl)) (.nil _)))) ?_
  refine awp_cond rfl (fun h => ?_) (fun h => ?_)
  · try simp only [decide_eq_true_eq, decide_eq_false_iff_not, Bool.and_eq_true, Bool.or_eq_true, Bool.and_eq_false_iff, Bool.or_eq_false_iff, Bool.not_eq_true', Bool.not_eq_false', Bool.not_eq_true, Bool.not_eq_false, Bool.true_eq_false, Bool.false_eq_true] at h
    refine awp_seq ?_
    refine awp_region rfl (.n (fun _ => op_assign (.plain rfl)) (.nil _)) ?_
    refine awp_ret ?_
    refine retQ.ret ?_
    refine ret1 rfl rfl rfl ?_
    unfold atR; rw [if_pos (by omega)]
  · try simp only [decide_eq_true_eq, decide_eq_false_iff_not, Bool.and_eq_true, Bool.or_eq_true, Bool.and_eq_false_iff, Bool.or_eq_false_iff, Bool.not_eq_true', Bool.not_eq_false', Bool.not_eq_true, Bool.not_eq_false, Bool.true_eq_false, Bool.false_eq_true] at h
    refine awp_skip ?_
    refine awp_seq ?_
    refine awp_region rfl (.n (fun _ => op_move (.plain rfl)) (.n (fun _ => op_move (.plain rfl)) (.n (fun _ => op_move (.plain rfl)) (.n (fun _ => op_len (s := 0) Try.underlying24 (.plain rfl)) (.n (fun _ => op_rem (.plain rfl) (.plain rfl) ?_) (.n (fun _ => op_indexAddr Try.underlying24 Try.sizeOf3 (.plain rfl) (.plain rfl) (fun _ => rfl) ?_) (.n (fun _ => op_load Try.isAgg3 (.plain rfl)) (.n (fun _ => op_assign (.plain rfl)) (.nil _))))))))) ?_
    · omega
    · exact ⟨Int.emod_nonneg _ (by omega), Int.emod_lt_of_pos _ (by omega)⟩
    refine awp_ret ?_
    refine retQ.ret ?_
    refine ret1 rfl rfl rfl ?_
    unfold atR; rw [if_neg (by omega), ← Int.natCast_emod, Int.toNat_natCast]

theorem valuesOf_fc (raw : List Int) (n m : Int) (hn : 0 ≤ n ∧ n ≤ 1000) (hm : 0 ≤ m ∧ m ≤ 1000) : FC Try.prog 20 [.ints raw, .i n, .i m] (.rows (valF raw n.toNat m.toNat)) := by
  obtain ⟨n, rfl⟩ : ∃ k : Nat, n = k := ⟨n.toNat, by omega⟩
  obtain ⟨m, rfl⟩ : ∃ k : Nat, m = k := ⟨m.toNat, by omega⟩
  refine FC.intro Try.func20 rfl (Nat.le_of_ble_eq_true rfl) fun hfit => ?_
  obtain ⟨fitl0, fitr0⟩ := (hfit _ (.head _)).ints
  have fit1 : -9223372036854775808 ≤ (n : Int) ∧ (n : Int) ≤ 9223372036854775807 := (hfit _ (.tail _ (.head _))).int64
  have fit2 : -9223372036854775808 ≤ (m : Int) ∧ (m : Int) ≤ 9223372036854775807 := (hfit _ (.tail _ (.tail _ (.head _)))).int64
  refine awp_seq ?_
  refine awp_region rfl (.n (fun _ => op_assign (.plain rfl)) (.nil _)) ?_
  refine awp_seq ?_
  refine awp_region rfl (.n (fun _ => op_assign (.plain rfl)) (.nil _)) ?_
  refine awp_seq ?_
  refine awp_seq ?_
  refine awp_region rfl (.n (fun _ => op_assign (.plain rfl)) (.nil _)) ?_
  refine awp_block ?_
  refine awp_ent (Ent.begin 7 1007 24 1 (List Int) [] (fun r => [.seq Int 0 (fun n => [.int .i64 n]) r]) rfl rfl rfl) ?_
  refine awp_loop (σ := Nat) (fun (i : Nat) => i ≤ n) (fun (i : Nat) => ⟨[(0, .pv (.ints raw)), (1, .int (n : Nat)), (2, .int (m : Nat)), (7, .own 1007), (8, .int (i : Nat))], [(1007, .arr 24 1 (List Int) [] (fun r => [.seq Int 0 (fun n => [.int .i64 n]) r]) (mapr i fun i => mapr m fun k => pickF (atR raw (i * m + k)) 12))]⟩) (fun (i : Nat) => n - i) 0 ?_ (Ent.kept ⟨rfl, rfl, rfl, rfl, rfl, trivial⟩ ⟨rfl, trivial⟩) ?_
  · exact Nat.zero_le _
  rintro i hp
  try dsimp only at hp
  have hi := hp
  refine awp_seq ?_
  refine awp_seq ?_
  refine awp_region rfl (.n (fun _ => op_move (.plain rfl)) (.n (fun _ => op_move (.plain rfl)) (.n (fun _ => op_lss (.plain rfl) (.plain rfl)) (.nil _)))) ?_
  refine awp_cond rfl (fun h => ?_) (fun h => ?_)
  · try simp only [decide_eq_true_eq, decide_eq_false_iff_not, Bool.and_eq_true, Bool.or_eq_true, Bool.and_eq_false_iff, Bool.or_eq_false_iff, Bool.not_eq_true', Bool.not_eq_false', Bool.not_eq_true, Bool.not_eq_false, Bool.true_eq_false, Bool.false_eq_true] at h
    refine awp_skip ?_
    refine awp_seq ?_
    refine awp_block ?_
    refine awp_seq ?_
    refine awp_region rfl (.n (fun _ => op_assign (.plain rfl)) (.nil _)) ?_
    refine awp_seq ?_
    refine awp_seq ?_
    refine awp_region rfl (.n (fun _ => op_assign (.plain rfl)) (.nil _)) ?_
    refine awp_block ?_
    refine awp_ent (Ent.begin 9 1009 3 1 Int 0 (fun n => [.int .i64 n]) rfl rfl rfl) ?_
    refine awp_loop (σ := Nat) (fun (k : Nat) => k ≤ m) (fun (k : Nat) => ⟨[(0, .pv (.ints raw)), (1, .int (n : Nat)), (2, .int (m : Nat)), (7, .own 1007), (8, .int (i : Nat)), (9, .own 1009), (10, .int (k : Nat))], [(1007, .arr 24 1 (List Int) [] (fun r => [.seq Int 0 (fun n => [.int .i64 n]) r]) (mapr i fun i => mapr m fun k => pickF (atR raw (i * m + k)) 12)), (1009, .arr 3 1 Int 0 (fun n => [.int .i64 n]) (mapr k fun k => pickF (atR raw (i * m + k)) 12))]⟩) (fun (k : Nat) => m - k) 0 ?_ (Ent.kept ⟨rfl, rfl, rfl, rfl, rfl, rfl, rfl, trivial⟩ ⟨rfl, rfl, trivial⟩) ?_
    · exact Nat.zero_le _
    rintro k hp
    try dsimp only at hp
    have hk := hp
    refine awp_seq ?_
    refine awp_seq ?_
    refine awp_region rfl (.n (fun _ => op_move (.plain rfl)) (.n (fun _ => op_move (.plain rfl)) (.n (fun _ => op_lss (.plain rfl) (.plain rfl)) (.nil _)))) ?_
    refine awp_cond rfl (fun h => ?_) (fun h => ?_)
    · try simp only [decide_eq_true_eq, decide_eq_false_iff_not, Bool.and_eq_true, Bool.or_eq_true, Bool.and_eq_false_iff, Bool.or_eq_false_iff, Bool.not_eq_true', Bool.not_eq_false', Bool.not_eq_true, Bool.not_eq_false, Bool.true_eq_false, Bool.false_eq_true] at h
      refine awp_skip ?_
      refine awp_seq ?_
      refine awp_block ?_
      refine awp_region rfl (.n (fun _ => op_move (.plain rfl)) (.n (fun _ => op_move (.plain rfl)) (.n (fun _ => op_move (.plain rfl)) (.n (fun _ => op_move (.plain rfl)) (.n (fun _ => op_mul (.plain rfl) (.plain rfl) ?_) (.n (fun _ => op_move (.plain rfl)) (.n (fun _ => op_add (.plain rfl) (.plain rfl) ?_) (.n (fun _ => op_call2 Try.call22 (.plain rfl) (.plain rfl) (At_fc _ (i * m + k))) (.n (fun _ => op_call2 Try.call19 (.plain rfl) (.plain rfl) (Pick_fc _ _ ?_)) (.n (fun _ => op_slit (pp := [(0, _)]) (α := Int) (d := 0) (f := (fun n => [.int .i64 n])) [_] ety24 rfl ⟨rfl, (.plain rfl), (by simp), trivial⟩ rfl (by decide) rfl) (.e (op_append (id' := 31) (α := Int) (d := 0) (f := (fun n => [.int .i64 n])) ety24 Try.underlying24 (fun _ => rfl) (fun _ => rfl) (.plain rfl) rfl (.plain rfl) rfl ?_) rfl (.n (fun _ => op_assign (.plain rfl)) (.nil _))))))))))))) ?_
      · have := Nat.mul_le_mul (show i ≤ 1000 by omega) (show m ≤ 1000 by omega); have e : ((i * m : Nat) : Int) = (i : Int) * (m : Int) := by simp
        unfold InR; omega
      · have := Nat.mul_le_mul (show i ≤ 1000 by omega) (show m ≤ 1000 by omega); have e : ((i * m : Nat) : Int) = (i : Int) * (m : Int) := by simp
        unfold InR; omega
      · omega
      · first | omega | (simp; omega)
      refine awp_region rfl (.n (fun _ => op_move (.plain rfl)) (.n (fun _ => op_add (.plain rfl) (.plain rfl) ?_) (.n (fun _ => op_assign (.plain rfl)) (.nil _)))) ?_
      · unfold InR; omega
      exact ⟨k + 1, by omega, by dsimp only; omega, (Ent.round 31 1009 ⟨rfl, rfl, rfl, rfl, rfl, rfl, rfl, trivial⟩ ⟨rfl, (congrArg (fun l => some (Blk.arr 3 1 Int 0 (fun n => [.int .i64 n]) l)) ((mapr_succ k fun k => pickF (atR raw (i * m + k)) 12).symm)), trivial⟩ rfl rfl rfl ⟨rfl, rfl, rfl, rfl, rfl, rfl, rfl, trivial⟩ ⟨rfl, rfl, trivial⟩)⟩
    · try simp only [decide_eq_true_eq, decide_eq_false_iff_not, Bool.and_eq_true, Bool.or_eq_true, Bool.and_eq_false_iff, Bool.or_eq_false_iff, Bool.not_eq_true', Bool.not_eq_false', Bool.not_eq_true, Bool.not_eq_false, Bool.true_eq_false, Bool.false_eq_true] at h
      refine awp_exit ?_
      obtain rfl : m = k := by omega
      refine awp_ent (Ent.give 9 rfl rfl) ?_
      refine awp_region rfl (.n (fun _ => op_move (.plain rfl)) (.n (fun _ => op_move (.plain rfl)) (.n (fun _ => op_slit (pp := [(0, _)]) (α := (List Int)) (d := []) (f := (fun r => [.seq Int 0 (fun n => [.int .i64 n]) r])) [_] ety22 rfl ⟨rfl, (.plain rfl), (by simp), trivial⟩ rfl (by decide) rfl) (.e (op_append (id' := 35) (α := (List Int)) (d := []) (f := (fun r => [.seq Int 0 (fun n => [.int .i64 n]) r])) ety22 Try.underlying22 (fun _ => rfl) (fun _ => rfl) (.plain rfl) rfl (.plain rfl) rfl ?_) rfl (.n (fun _ => op_assign (.plain rfl)) (.nil _)))))) ?_
      · first | omega | (simp; omega)
      refine awp_region rfl (.n (fun _ => op_move (.plain rfl)) (.n (fun _ => op_add (.plain rfl) (.plain rfl) ?_) (.n (fun _ => op_assign (.plain rfl)) (.nil _)))) ?_
      · unfold InR; omega
      exact ⟨i + 1, by omega, by dsimp only; omega, (Ent.round 35 1007 ⟨rfl, rfl, rfl, rfl, rfl, trivial⟩ ⟨(congrArg (fun l => some (Blk.arr 24 1 (List Int) [] (fun r => [.seq Int 0 (fun n => [.int .i64 n]) r]) l)) ((mapr_succ i fun i => mapr m fun j => pickF (atR raw (i * m + j)) 12).symm)), trivial⟩ rfl rfl rfl ⟨rfl, rfl, rfl, rfl, rfl, trivial⟩ ⟨rfl, trivial⟩)⟩
  · try simp only [decide_eq_true_eq, decide_eq_false_iff_not, Bool.and_eq_true, Bool.or_eq_true, Bool.and_eq_false_iff, Bool.or_eq_false_iff, Bool.not_eq_true', Bool.not_eq_false', Bool.not_eq_true, Bool.not_eq_false, Bool.true_eq_false, Bool.false_eq_true] at h
    refine awp_exit ?_
    refine awp_seq ?_
    refine awp_region rfl (.n (fun _ => op_move (.plain rfl)) (.n (fun _ => op_assign (.plain rfl)) (.nil _))) ?_
    refine awp_ret ?_
    refine retQ.ret ?_
    refine ret1 rfl rfl rfl ?_
    obtain rfl : i = n := by omega
    rfl

theorem calm_fc (v : List (List Int)) (give : List Int) (hC : Calm v give) : FC Try.prog 21 [.rows v, .ints give] (.bool true) := by
  refine FC.intro Try.func21 rfl (Nat.le_of_ble_eq_true rfl) fun hfit => ?_
  obtain ⟨fitl0, fitr0⟩ := (hfit _ (.head _)).rows
  obtain ⟨fitl1, fitr1⟩ := (hfit _ (.tail _ (.head _))).ints
  have hG := calm_gift hC
  have hV := val_of hC.may
  have hn4 := hV.n4
  have hno := calm_no hC
  have hel : (envT v give).length = v.length := by simp [envT]
  have hev := calm_env hC
  refine awp_seq ?_
  refine awp_region rfl (.n (fun _ => op_assign (.plain rfl)) (.nil _)) ?_
  refine awp_seq ?_
  refine awp_region rfl (.n (fun _ => op_move (.plain rfl)) (.n (fun _ => op_move (.plain rfl)) (.n (fun _ => op_call2 Try.call12 (.plain rfl) (.plain rfl) (Envy2_fc _ _)) (.n (fun _ => op_move (.plain rfl)) (.n (fun _ => op_extract (.plain rfl) rfl) (.n (fun _ => op_extract (.plain rfl) rfl) (.n (fun _ => op_assign (.plain rfl)) (.n (fun _ => op_assign (.plain rfl)) (.nil _))))))))) ?_
  refine awp_seq ?_
  refine awp_seq ?_
  refine awp_region rfl (.n (fun _ => op_move (.plain rfl)) (.n (fun _ => op_neq (.plain rfl) (.plain rfl)) (.n (fun _ => op_move (.plain rfl)) (.gn rfl rfl (fun hg _ => op_move (.plain rfl)) (.gn rfl rfl (fun hg _ => op_len (s := 0) Try.underlying22 (.opt rfl fun h => h)) (.gn rfl rfl (fun hg _ => op_move (.plain rfl)) (.gn rfl rfl (fun hg _ => op_len (s := 0) Try.underlying22 (.opt rfl fun h => h)) (.gn rfl rfl (fun hg _ => op_neq (.opt rfl fun h => h) (.opt rfl fun h => h)) (.n (fun _ => op_or (.plain rfl) (.plain rfl) (.plain rfl) (fun h => eqF h)) (.n (fun _ => op_move (.plain rfl)) (.gn rfl rfl (fun hg _ => op_move (.plain rfl)) (.gn rfl rfl (fun hg _ => op_call2 Try.call10 (.plain rfl) (.opt rfl fun h => h) (In_fc _ _)) (.n (fun _ => op_or (.plain rfl) (.plain rfl) (.plain rfl) (fun h => eqF h)) (.nil _)))))))))))))) ?_
  refine awp_cond rfl (fun h => ?_) (fun h => ?_)
  · try simp only [decide_eq_true_eq, decide_eq_false_iff_not, Bool.and_eq_true, Bool.or_eq_true, Bool.and_eq_false_iff, Bool.or_eq_false_iff, Bool.not_eq_true', Bool.not_eq_false', Bool.not_eq_true, Bool.not_eq_false, Bool.true_eq_false, Bool.false_eq_true] at h
    exfalso
    rw [hev, hel] at h
    rcases h with (h | h) | h
    · exact h hG
    · exact h rfl
    · exact hno h
  · try simp only [decide_eq_true_eq, decide_eq_false_iff_not, Bool.and_eq_true, Bool.or_eq_true, Bool.and_eq_false_iff, Bool.or_eq_false_iff, Bool.not_eq_true', Bool.not_eq_false', Bool.not_eq_true, Bool.not_eq_false, Bool.true_eq_false, Bool.false_eq_true] at h
    refine awp_skip ?_
    refine awp_seq ?_
    refine awp_seq ?_
    refine awp_region rfl (.n (fun _ => op_assign (.plain rfl)) (.nil _)) ?_
    refine awp_block ?_
    refine awp_loop (σ := Nat) (fun (i : Nat) => i ≤ v.length) (fun (i : Nat) => ⟨[(0, .pv (.rows v)), (5, .pv (.rows (envT v give))), (7, .int (i : Nat))], []⟩) (fun (i : Nat) => v.length - i) 0 ?_ (Ent.kept ⟨rfl, (congrArg (fun l => some (SV.pv (PV.rows l))) hev), rfl, trivial⟩ trivial) ?_
    · exact Nat.zero_le _
    rintro i hp
    try dsimp only at hp
    have hi := hp
    refine awp_seq ?_
    refine awp_seq ?_
    refine awp_region rfl (.n (fun _ => op_move (.plain rfl)) (.n (fun _ => op_move (.plain rfl)) (.n (fun _ => op_len (s := 0) Try.underlying22 (.plain rfl)) (.n (fun _ => op_lss (.plain rfl) (.plain rfl)) (.nil _))))) ?_
    refine awp_cond rfl (fun h => ?_) (fun h => ?_)
    · try simp only [decide_eq_true_eq, decide_eq_false_iff_not, Bool.and_eq_true, Bool.or_eq_true, Bool.and_eq_false_iff, Bool.or_eq_false_iff, Bool.not_eq_true', Bool.not_eq_false', Bool.not_eq_true, Bool.not_eq_false, Bool.true_eq_false, Bool.false_eq_true] at h
      refine awp_skip ?_
      refine awp_seq ?_
      refine awp_block ?_
      refine awp_seq ?_
      refine awp_region rfl (.n (fun _ => op_move (.plain rfl)) (.n (fun _ => op_move (.plain rfl)) (.n (fun _ => op_indexAddrN Try.underlying22 Try.sizeOf24 (.plain rfl) (.plain rfl) (fun _ => rfl) ?_) (.n (fun _ => op_load Try.isAgg24 (.plain rfl)) (.n (fun _ => op_len (s := 0) Try.underlying24 (.plain rfl)) (.n (fun _ => op_move (.plain rfl)) (.n (fun _ => op_len (s := 0) Try.underlying22 (.plain rfl)) (.n (fun _ => op_neq (.plain rfl) (.plain rfl)) (.n (fun _ => op_move (.plain rfl)) (.gn rfl rfl (fun hg _ => op_move (.plain rfl)) (.gn rfl rfl (fun hg _ => op_move (.plain rfl)) (.gn rfl rfl (fun hg _ => op_indexAddrN Try.underlying22 Try.sizeOf24 (.opt rfl fun h => h) (.opt rfl fun h => h) (fun _ => rfl) ?_) (.gn rfl rfl (fun hg _ => op_load Try.isAgg24 (.opt rfl fun h => h)) (.gn rfl rfl (fun hg _ => op_call2 Try.call10 (.plain rfl) (.opt rfl fun h => h) (In_fc _ _)) (.n (fun _ => op_or (.plain rfl) (.plain rfl) (.plain rfl) (fun h => eqF h)) (.nil _)))))))))))))))) ?_
      · omega
      · try simp only [beq_iff_eq, beq_true, beq_false, Bool.and_eq_true, decide_eq_true_eq, decide_eq_false_iff_not, Bool.not_eq_true', Bool.or_eq_true, Bool.or_eq_false_iff] at hg
        omega
      refine awp_cond rfl (fun h => ?_) (fun h => ?_)
      · try simp only [decide_eq_true_eq, decide_eq_false_iff_not, Bool.and_eq_true, Bool.or_eq_true, Bool.and_eq_false_iff, Bool.or_eq_false_iff, Bool.not_eq_true', Bool.not_eq_false', Bool.not_eq_true, Bool.not_eq_false, Bool.true_eq_false, Bool.false_eq_true] at h
        exfalso
        have hr := calm_row hC (i := i) (by omega)
        rcases h with h | h
        · rw [hr.1] at h; exact h rfl
        · exact hr.2 h
      · try simp only [decide_eq_true_eq, decide_eq_false_iff_not, Bool.and_eq_true, Bool.or_eq_true, Bool.and_eq_false_iff, Bool.or_eq_false_iff, Bool.not_eq_true', Bool.not_eq_false', Bool.not_eq_true, Bool.not_eq_false, Bool.true_eq_false, Bool.false_eq_true] at h
        refine awp_skip ?_
        refine awp_region rfl (.n (fun _ => op_move (.plain rfl)) (.n (fun _ => op_add (.plain rfl) (.plain rfl) ?_) (.n (fun _ => op_assign (.plain rfl)) (.nil _)))) ?_
        · unfold InR; omega
        exact ⟨i + 1, by omega, by dsimp only; omega, (Ent.kept ⟨rfl, rfl, rfl, trivial⟩ trivial)⟩
    · try simp only [decide_eq_true_eq, decide_eq_false_iff_not, Bool.and_eq_true, Bool.or_eq_true, Bool.and_eq_false_iff, Bool.or_eq_false_iff, Bool.not_eq_true', Bool.not_eq_false', Bool.not_eq_true, Bool.not_eq_false, Bool.true_eq_false, Bool.false_eq_true] at h
      refine awp_exit ?_
      refine awp_seq ?_
      refine awp_region rfl (.n (fun _ => op_assign (.plain rfl)) (.nil _)) ?_
      refine awp_ret ?_
      refine retQ.ret ?_
      refine ret1 rfl rfl rfl ?_
      rfl

theorem TopEnvy_fc (raw : List Int) (guests goods : Int) (other : List Int) : FC Try.prog 5 [.ints raw, .i guests, .i goods, .ints other] (.bool true) := by
  refine FC.intro Try.func5 rfl (Nat.le_of_ble_eq_true rfl) fun hfit => ?_
  obtain ⟨fitl0, fitr0⟩ := (hfit _ (.head _)).ints
  have fit1 : -9223372036854775808 ≤ (guests : Int) ∧ (guests : Int) ≤ 9223372036854775807 := (hfit _ (.tail _ (.head _))).int64
  have fit2 : -9223372036854775808 ≤ (goods : Int) ∧ (goods : Int) ≤ 9223372036854775807 := (hfit _ (.tail _ (.tail _ (.head _)))).int64
  obtain ⟨fitl3, fitr3⟩ := (hfit _ (.tail _ (.tail _ (.tail _ (.head _))))).ints
  have hr := pickF_range guests 3 (by omega)
  have hr7 := pickF_range goods 7 (by omega)
  have hg := gN_eq guests
  have hm := mN_eq goods
  have hM : mayE (valF raw (gN guests) (mN goods)) = 0 := valF_may (by omega) (by omega) (by omega)
  have hV := val_of hM
  have hmL : mL (valF raw (gN guests) (mN goods)) = mN goods := valF_mL (by omega)
  have hvl : (valF raw (gN guests) (mN goods)).length = gN guests := valF_length _ _ _
  have hc1 := calm_turns hM
  have hc2 := calm_circ hM
  have hc3 := calm_even hM
  have hevl := hc3.len
  refine awp_seq ?_
  refine awp_region rfl (.n (fun _ => op_assign (.plain rfl)) (.nil _)) ?_
  refine awp_seq ?_
  refine awp_seq ?_
  refine awp_region rfl (.n (fun _ => op_move (.plain rfl)) (.n (fun _ => op_len (s := 0) Try.underlying24 (.plain rfl)) (.n (fun _ => op_move (.plain rfl)) (.n (fun _ => op_len (s := 0) Try.underlying24 (.plain rfl)) (.n (fun _ => op_add (.plain rfl) (.plain rfl) ?_) (.n (fun _ => op_gtr (.plain rfl) (.plain rfl)) (.nil _))))))) ?_
  · unfold InR; omega
  refine awp_cond rfl (fun h => ?_) (fun h => ?_)
  · try simp only [decide_eq_true_eq, decide_eq_false_iff_not, Bool.and_eq_true, Bool.or_eq_true, Bool.and_eq_false_iff, Bool.or_eq_false_iff, Bool.not_eq_true', Bool.not_eq_false', Bool.not_eq_true, Bool.not_eq_false, Bool.true_eq_false, Bool.false_eq_true] at h
    refine awp_seq ?_
    refine awp_region rfl (.n (fun _ => op_assign (.plain rfl)) (.nil _)) ?_
    refine awp_ret ?_
    refine retQ.ret ?_
    refine ret1 rfl rfl rfl ?_
    rfl
  · try simp only [decide_eq_true_eq, decide_eq_false_iff_not, Bool.and_eq_true, Bool.or_eq_true, Bool.and_eq_false_iff, Bool.or_eq_false_iff, Bool.not_eq_true', Bool.not_eq_false', Bool.not_eq_true, Bool.not_eq_false, Bool.true_eq_false, Bool.false_eq_true] at h
    refine awp_skip ?_
    refine awp_seq ?_
    refine awp_region rfl (.n (fun _ => op_move (.plain rfl)) (.n (fun _ => op_call2 Try.call19 (.plain rfl) (.plain rfl) (Pick_fc _ _ ?_)) (.n (fun _ => op_add (.plain rfl) (.plain rfl) ?_) (.n (fun _ => op_assign (.plain rfl)) (.nil _))))) ?_
    · omega
    · unfold InR; omega
    refine awp_seq ?_
    refine awp_region rfl (.n (fun _ => op_move (.plain rfl)) (.n (fun _ => op_move (.plain rfl)) (.n (fun _ => op_move (.plain rfl)) (.n (fun _ => op_call2 Try.call19 (.plain rfl) (.plain rfl) (Pick_fc _ _ ?_)) (.n (fun _ => op_call3 Try.call20 (.plain rfl) (.plain rfl) (.plain rfl) (valuesOf_fc _ _ _ ?_ ?_)) (.n (fun _ => op_assign (.plain rfl)) (.nil _))))))) ?_
    · omega
    · omega
    · omega
    refine awp_seq ?_
    refine awp_region rfl (.n (fun _ => op_move (.plain rfl)) (.n (fun _ => op_call1 Try.call11 (.plain rfl) (Turns_fc _)) (.n (fun _ => op_move (.plain rfl)) (.n (fun _ => op_extract (.plain rfl) rfl) (.n (fun _ => op_extract (.plain rfl) rfl) (.n (fun _ => op_assign (.plain rfl)) (.n (fun _ => op_assign (.plain rfl)) (.nil _)))))))) ?_
    refine awp_seq ?_
    refine awp_region rfl (.n (fun _ => op_move (.plain rfl)) (.n (fun _ => op_call1 Try.call7 (.plain rfl) (Circles_fc _)) (.n (fun _ => op_move (.plain rfl)) (.n (fun _ => op_extract (.plain rfl) rfl) (.n (fun _ => op_extract (.plain rfl) rfl) (.n (fun _ => op_assign (.plain rfl)) (.n (fun _ => op_assign (.plain rfl)) (.nil _)))))))) ?_
    refine awp_seq ?_
    refine awp_region rfl (.n (fun _ => op_move (.plain rfl)) (.n (fun _ => op_call1 Try.call15 (.plain rfl) (Even_fc _)) (.n (fun _ => op_move (.plain rfl)) (.n (fun _ => op_extract (.plain rfl) rfl) (.n (fun _ => op_extract (.plain rfl) rfl) (.n (fun _ => op_assign (.plain rfl)) (.n (fun _ => op_assign (.plain rfl)) (.nil _)))))))) ?_
    refine awp_seq ?_
    refine awp_seq ?_
    refine awp_region rfl (.n (fun _ => op_move (.plain rfl)) (.n (fun _ => op_neq (.plain rfl) (.plain rfl)) (.n (fun _ => op_move (.plain rfl)) (.gn rfl rfl (fun hg _ => op_move (.plain rfl)) (.gn rfl rfl (fun hg _ => op_neq (.opt rfl fun h => h) (.plain rfl)) (.n (fun _ => op_or (.plain rfl) (.plain rfl) (.plain rfl) (fun h => eqF h)) (.n (fun _ => op_move (.plain rfl)) (.gn rfl rfl (fun hg _ => op_move (.plain rfl)) (.gn rfl rfl (fun hg _ => op_neq (.opt rfl fun h => h) (.plain rfl)) (.n (fun _ => op_or (.plain rfl) (.plain rfl) (.plain rfl) (fun h => eqF h)) (.n (fun _ => op_move (.plain rfl)) (.gn rfl rfl (fun hg _ => op_move (.plain rfl)) (.gn rfl rfl (fun hg _ => op_move (.plain rfl)) (.gn rfl rfl (fun hg _ => op_call2 Try.call21 (.opt rfl fun h => h) (.opt rfl fun h => h) (calm_fc _ _ ?_)) (.gn rfl rfl (fun hg _ => op_not (.opt rfl fun h => h)) (.n (fun _ => op_or (.plain rfl) (.plain rfl) (.plain rfl) (fun h => eqF h)) (.n (fun _ => op_move (.plain rfl)) (.gn rfl rfl (fun hg _ => op_move (.plain rfl)) (.gn rfl rfl (fun hg _ => op_move (.plain rfl)) (.gn rfl rfl (fun hg _ => op_call2 Try.call21 (.opt rfl fun h => h) (.opt rfl fun h => h) (calm_fc _ _ ?_)) (.gn rfl rfl (fun hg _ => op_not (.opt rfl fun h => h)) (.n (fun _ => op_or (.plain rfl) (.plain rfl) (.plain rfl) (fun h => eqF h)) (.n (fun _ => op_move (.plain rfl)) (.gn rfl rfl (fun hg _ => op_move (.plain rfl)) (.gn rfl rfl (fun hg _ => op_move (.plain rfl)) (.gn rfl rfl (fun hg _ => op_call2 Try.call21 (.opt rfl fun h => h) (.opt rfl fun h => h) (calm_fc _ _ ?_)) (.gn rfl rfl (fun hg _ => op_not (.opt rfl fun h => h)) (.n (fun _ => op_or (.plain rfl) (.plain rfl) (.plain rfl) (fun h => eqF h)) (.nil _))))))))))))))))))))))))))))) ?_
    · try simp only [beq_iff_eq, beq_true, beq_false, Bool.and_eq_true, decide_eq_true_eq, decide_eq_false_iff_not, Bool.not_eq_true', Bool.or_eq_true, Bool.or_eq_false_iff] at hg
      assumption
    · try simp only [beq_iff_eq, beq_true, beq_false, Bool.and_eq_true, decide_eq_true_eq, decide_eq_false_iff_not, Bool.not_eq_true', Bool.or_eq_true, Bool.or_eq_false_iff] at hg
      assumption
    · try simp only [beq_iff_eq, beq_true, beq_false, Bool.and_eq_true, decide_eq_true_eq, decide_eq_false_iff_not, Bool.not_eq_true', Bool.or_eq_true, Bool.or_eq_false_iff] at hg
      assumption
    refine awp_cond rfl (fun h => ?_) (fun h => ?_)
    · try simp only [decide_eq_true_eq, decide_eq_false_iff_not, Bool.and_eq_true, Bool.or_eq_true, Bool.and_eq_false_iff, Bool.or_eq_false_iff, Bool.not_eq_true', Bool.not_eq_false', Bool.not_eq_true, Bool.not_eq_false, Bool.true_eq_false, Bool.false_eq_true] at h
      exfalso
      revert h
      have hM2 : mayE (valF raw (1 + pickF guests 3).toNat (pickF goods 7).toNat) = 0 := hM
      rw [hM2]
      simp
    · try simp only [decide_eq_true_eq, decide_eq_false_iff_not, Bool.and_eq_true, Bool.or_eq_true, Bool.and_eq_false_iff, Bool.or_eq_false_iff, Bool.not_eq_true', Bool.not_eq_false', Bool.not_eq_true, Bool.not_eq_false, Bool.true_eq_false, Bool.false_eq_true] at h
      refine awp_skip ?_
      refine awp_seq ?_
      refine awp_region rfl (.n (fun _ => op_assign (.plain rfl)) (.nil _)) ?_
      refine awp_seq ?_
      refine awp_seq ?_
      refine awp_region rfl (.n (fun _ => op_assign (.plain rfl)) (.nil _)) ?_
      refine awp_block ?_
      refine awp_ent (Ent.begin 16 1016 3 1 Int 0 (fun n => [.int .i64 n]) rfl rfl rfl) ?_
      refine awp_loop (σ := Nat) (fun (k : Nat) => k ≤ mN goods) (fun (k : Nat) => ⟨[(1, .int (1 + pickF guests 3)), (3, .pv (.ints other)), (9, .pv (.rows (valF raw (gN guests) (mN goods)))), (14, .pv (.ints (evenRes (valF raw (gN guests) (mN goods))))), (16, .own 1016), (17, .int (k : Nat))], [(1016, .arr 3 1 Int 0 (fun n => [.int .i64 n]) (dF other guests k))]⟩) (fun (k : Nat) => mN goods - k) 0 ?_ (Ent.kept ⟨rfl, rfl, rfl, rfl, rfl, rfl, trivial⟩ ⟨rfl, trivial⟩) ?_
      · exact Nat.zero_le _
      rintro k hp
      try dsimp only at hp
      have hk := hp
      have e0 : ((valF raw (gN guests) (mN goods)).getD (Int.toNat 0) []).length = mN goods := hmL
      have hdk : (dF other guests k).length = k := by simp [dF]
      refine awp_seq ?_
      refine awp_seq ?_
      refine awp_region rfl (.n (fun _ => op_move (.plain rfl)) (.n (fun _ => op_move (.plain rfl)) (.n (fun _ => op_indexAddr Try.underlying22 Try.sizeOf24 (.plain rfl) (.plain rfl) (fun _ => rfl) ?_) (.n (fun _ => op_load Try.isAgg24 (.plain rfl)) (.n (fun _ => op_len (s := 0) Try.underlying24 (.plain rfl)) (.n (fun _ => op_lss (.plain rfl) (.plain rfl)) (.nil _))))))) ?_
      · omega
      refine awp_cond rfl (fun h => ?_) (fun h => ?_)
      · try simp only [decide_eq_true_eq, decide_eq_false_iff_not, Bool.and_eq_true, Bool.or_eq_true, Bool.and_eq_false_iff, Bool.or_eq_false_iff, Bool.not_eq_true', Bool.not_eq_false', Bool.not_eq_true, Bool.not_eq_false, Bool.true_eq_false, Bool.false_eq_true] at h
        refine awp_skip ?_
        refine awp_seq ?_
        refine awp_block ?_
        refine awp_region rfl (.n (fun _ => op_move (.plain rfl)) (.n (fun _ => op_move (.plain rfl)) (.n (fun _ => op_move (.plain rfl)) (.n (fun _ => op_call2 Try.call22 (.plain rfl) (.plain rfl) (At_fc _ k)) (.n (fun _ => op_move (.plain rfl)) (.n (fun _ => op_call2 Try.call19 (.plain rfl) (.plain rfl) (Pick_fc _ _ ?_)) (.n (fun _ => op_slit (pp := [(0, _)]) (α := Int) (d := 0) (f := (fun n => [.int .i64 n])) [_] ety24 rfl ⟨rfl, (.plain rfl), (by simp), trivial⟩ rfl (by decide) rfl) (.e (op_append (id' := 94) (α := Int) (d := 0) (f := (fun n => [.int .i64 n])) ety24 Try.underlying24 (fun _ => rfl) (fun _ => rfl) (.plain rfl) rfl (.plain rfl) rfl ?_) rfl (.n (fun _ => op_assign (.plain rfl)) (.nil _)))))))))) ?_
        · omega
        · first | omega | (simp; omega)
        refine awp_region rfl (.n (fun _ => op_move (.plain rfl)) (.n (fun _ => op_add (.plain rfl) (.plain rfl) ?_) (.n (fun _ => op_assign (.plain rfl)) (.nil _)))) ?_
        · unfold InR; omega
        exact ⟨k + 1, by omega, by dsimp only; omega, (Ent.round 94 1016 ⟨rfl, rfl, rfl, rfl, rfl, rfl, trivial⟩ ⟨(congrArg (fun l => some (Blk.arr 3 1 Int 0 (fun n => [.int .i64 n]) l)) ((mapr_succ k fun j => pickF (atR other j) (1 + pickF guests 3)).symm)), trivial⟩ rfl rfl rfl ⟨rfl, rfl, rfl, rfl, rfl, rfl, trivial⟩ ⟨rfl, trivial⟩)⟩
      · try simp only [decide_eq_true_eq, decide_eq_false_iff_not, Bool.and_eq_true, Bool.or_eq_true, Bool.and_eq_false_iff, Bool.or_eq_false_iff, Bool.not_eq_true', Bool.not_eq_false', Bool.not_eq_true, Bool.not_eq_false, Bool.true_eq_false, Bool.false_eq_true] at h
        refine awp_exit ?_
        refine awp_seq ?_
        obtain rfl : k = mN goods := by omega
        have hdl : (dF other guests (mN goods)).length = mL (valF raw (gN guests) (mN goods)) := by rw [hmL]; simp [dF]
        have hdi : InW (valF raw (gN guests) (mN goods)).length (dF other guests (mN goods)) := by rw [hvl]; exact dF_in
        refine awp_ent (Ent.give 16 rfl rfl) ?_
        refine awp_region rfl (.n (fun _ => op_assign (.plain rfl)) (.nil _)) ?_
        refine awp_seq ?_
        refine awp_seq ?_
        refine awp_region rfl (.n (fun _ => op_assign (.plain rfl)) (.nil _)) ?_
        refine awp_block ?_
        refine awp_loop (σ := Nat) (fun (i : Nat) => i ≤ (valF raw (gN guests) (mN goods)).length ∧ ∀ j : Nat, j < i → hasF (valF raw (gN guests) (mN goods)) (evenRes (valF raw (gN guests) (mN goods))) j j ≤ hasF (valF raw (gN guests) (mN goods)) (dF other guests (mN goods)) j j) (fun (i : Nat) => ⟨[(1, .int (1 + pickF guests 3)), (9, .pv (.rows (valF raw (gN guests) (mN goods)))), (14, .pv (.ints (evenRes (valF raw (gN guests) (mN goods))))), (16, .pv (.ints (dF other guests (mN goods)))), (18, .bool (anyTo (fun j => decide (hasF (valF raw (gN guests) (mN goods)) (evenRes (valF raw (gN guests) (mN goods))) (j : Nat) (j : Nat) < hasF (valF raw (gN guests) (mN goods)) (dF other guests (mN goods)) (j : Nat) (j : Nat))) i)), (19, .int (i : Nat))], []⟩) (fun (i : Nat) => (valF raw (gN guests) (mN goods)).length - i) 0 ?_ (Ent.kept ⟨rfl, rfl, rfl, rfl, rfl, rfl, trivial⟩ trivial) ?_
        · exact ⟨Nat.zero_le _, fun j hj => by omega⟩
        rintro i hp
        try dsimp only at hp
        obtain ⟨hi, hle⟩ := hp
        refine awp_seq ?_
        refine awp_seq ?_
        refine awp_region rfl (.n (fun _ => op_move (.plain rfl)) (.n (fun _ => op_move (.plain rfl)) (.n (fun _ => op_lss (.plain rfl) (.plain rfl)) (.nil _)))) ?_
        refine awp_cond rfl (fun h => ?_) (fun h => ?_)
        · try simp only [decide_eq_true_eq, decide_eq_false_iff_not, Bool.and_eq_true, Bool.or_eq_true, Bool.and_eq_false_iff, Bool.or_eq_false_iff, Bool.not_eq_true', Bool.not_eq_false', Bool.not_eq_true, Bool.not_eq_false, Bool.true_eq_false, Bool.false_eq_true] at h
          refine awp_skip ?_
          refine awp_seq ?_
          refine awp_block ?_
          refine awp_seq ?_
          refine awp_region rfl (.n (fun _ => op_move (.plain rfl)) (.n (fun _ => op_move (.plain rfl)) (.n (fun _ => op_move (.plain rfl)) (.n (fun _ => op_move (.plain rfl)) (.n (fun _ => op_call4 Try.call23 (.plain rfl) (.plain rfl) (.plain rfl) (.plain rfl) (Has_fc _ _ _ _ ?_ ?_ ?_)) (.n (fun _ => op_assign (.plain rfl)) (.nil _))))))) ?_
          · exact hV
          · exact hevl
          · omega
          refine awp_seq ?_
          refine awp_region rfl (.n (fun _ => op_move (.plain rfl)) (.n (fun _ => op_move (.plain rfl)) (.n (fun _ => op_move (.plain rfl)) (.n (fun _ => op_move (.plain rfl)) (.n (fun _ => op_call4 Try.call23 (.plain rfl) (.plain rfl) (.plain rfl) (.plain rfl) (Has_fc _ _ _ _ ?_ ?_ ?_)) (.n (fun _ => op_assign (.plain rfl)) (.nil _))))))) ?_
          · exact hV
          · exact hdl
          · omega
          refine awp_seq ?_
          refine awp_seq ?_
          refine awp_region rfl (.n (fun _ => op_move (.plain rfl)) (.n (fun _ => op_move (.plain rfl)) (.n (fun _ => op_lss (.plain rfl) (.plain rfl)) (.nil _)))) ?_
          refine awp_cond rfl (fun h => ?_) (fun h => ?_)
          · try simp only [decide_eq_true_eq, decide_eq_false_iff_not, Bool.and_eq_true, Bool.or_eq_true, Bool.and_eq_false_iff, Bool.or_eq_false_iff, Bool.not_eq_true', Bool.not_eq_false', Bool.not_eq_true, Bool.not_eq_false, Bool.true_eq_false, Bool.false_eq_true] at h
            refine awp_seq ?_
            refine awp_region rfl (.n (fun _ => op_assign (.plain rfl)) (.nil _)) ?_
            refine awp_ret ?_
            refine retQ.ret ?_
            refine ret1 rfl rfl rfl ?_
            rfl
          · try simp only [decide_eq_true_eq, decide_eq_false_iff_not, Bool.and_eq_true, Bool.or_eq_true, Bool.and_eq_false_iff, Bool.or_eq_false_iff, Bool.not_eq_true', Bool.not_eq_false', Bool.not_eq_true, Bool.not_eq_false, Bool.true_eq_false, Bool.false_eq_true] at h
            have hle2 := h
            refine awp_skip ?_
            refine awp_region rfl (.n (fun _ => op_move (.plain rfl)) (.n (fun _ => op_move (.plain rfl)) (.gn rfl rfl (fun hg _ => op_move (.plain rfl)) (.gn rfl rfl (fun hg _ => op_move (.plain rfl)) (.gn rfl rfl (fun hg _ => op_gtr (.opt rfl fun h => h) (.opt rfl fun h => h)) (.n (fun _ => op_or (.plain rfl) (.plain rfl) (.plain rfl) (fun h => eqF h)) (.n (fun _ => op_assign (.plain rfl)) (.nil _)))))))) ?_
            refine awp_region rfl (.n (fun _ => op_move (.plain rfl)) (.n (fun _ => op_add (.plain rfl) (.plain rfl) ?_) (.n (fun _ => op_assign (.plain rfl)) (.nil _)))) ?_
            · unfold InR; omega
            exact ⟨i + 1, ⟨by omega, fun j hj => by rcases Nat.lt_or_ge j i with h3 | h3 <;> first | exact hle j h3 | (have e : j = i := (by omega); subst e; omega)⟩, by dsimp only; omega, (Ent.kept ⟨rfl, rfl, rfl, rfl, rfl, rfl, trivial⟩ trivial)⟩
        · try simp only [decide_eq_true_eq, decide_eq_false_iff_not, Bool.and_eq_true, Bool.or_eq_true, Bool.and_eq_false_iff, Bool.or_eq_false_iff, Bool.not_eq_true', Bool.not_eq_false', Bool.not_eq_true, Bool.not_eq_false, Bool.true_eq_false, Bool.false_eq_true] at h
          refine awp_exit ?_
          refine awp_seq ?_
          refine awp_region rfl (.n (fun _ => op_move (.plain rfl)) (.n (fun _ => op_not (.plain rfl)) (.n (fun _ => op_assign (.plain rfl)) (.nil _)))) ?_
          refine awp_ret ?_
          refine retQ.ret ?_
          refine ret1 rfl rfl rfl ?_
          exact congrArg PV.bool (envy_end hM hdl hdi hi (by omega) hle)

end Go.Proofs.Ytfaeiglnhbllnaa

