/- Two sides that are made of raw numbers. Conditions: each theorem names its own. -/
import Derived.Test.YtpapnkphlmickaaDoorProg
import Derived.Test.YtpapnkphlmickaaDoorFi
namespace Go.Proofs.YtpapnkphlmickaaDoor
open Go.Abs
set_option linter.unusedVariables false
set_option linter.unusedSimpArgs false


def restF (l : List Int) (i : Nat) : List Int := l.take i ++ l.drop (i + 1)
theorem restF_len {l : List Int} {i : Nat} (h : i < l.length) : (restF l i).length = l.length - 1 := by simp [restF]; omega
theorem perm_rest {l : List Int} {i : Nat} (h : i < l.length) : (l.getD i 0 :: restF l i).Perm l := by
  have e : l.take i ++ l.getD i 0 :: l.drop (i + 1) = l := by
    have h1 : l.getD i 0 :: l.drop (i + 1) = l.drop i := by rw [List.drop_eq_getElem_cons h]; simp [List.getD_eq_getElem?_getD, h]
    rw [h1, List.take_append_drop]
  have := (List.perm_middle (a := l.getD i 0) (l₁ := l.take i) (l₂ := l.drop (i + 1))).symm
  rw [e] at this
  exact this

def pickN (raw : List Int) (k len : Nat) : Nat := (pickF (atF raw k) len).toNat
def pS (raw : List Int) (fr n : Nat) : Nat → List Int × List Int
  | 0 => (upF n, [])
  | k + 1 => (restF (pS raw fr n k).1 (pickN raw (fr + k) (pS raw fr n k).1.length), (pS raw fr n k).2 ++ [(pS raw fr n k).1.getD (pickN raw (fr + k) (pS raw fr n k).1.length) 0])
def permOf (raw : List Int) (fr n : Nat) : List Int := (pS raw fr n n).2
theorem pickN_lt {raw : List Int} {k len : Nat} (h : 1 ≤ len) : pickF (atF raw k) len = (pickN raw k len : Nat) ∧ pickN raw k len < len := by
  have := pickF_range (atF raw k) len (by omega)
  unfold pickN; omega
theorem pS_len (raw : List Int) (fr n : Nat) : ∀ k, k ≤ n → (pS raw fr n k).1.length = n - k ∧ (pS raw fr n k).2.length = k ∧ ((pS raw fr n k).2 ++ (pS raw fr n k).1).Perm (upF n)
  | 0, _ => by simp [pS]
  | k + 1, hk => by
    have ih := pS_len raw fr n k (by omega)
    have hp := pickN_lt (raw := raw) (k := fr + k) (len := (pS raw fr n k).1.length) (by omega)
    simp only [pS]
    refine ⟨by rw [restF_len hp.2]; omega, by simp [ih.2.1], ?_⟩
    rw [List.append_assoc, List.singleton_append]
    exact ((perm_rest hp.2).append_left _).trans ih.2.2
theorem permOf_perm (raw : List Int) (fr n : Nat) : (permOf raw fr n).Perm (upF n) := by
  have h := pS_len raw fr n n (Nat.le_refl _)
  have h0 : (pS raw fr n n).1 = [] := List.eq_nil_of_length_eq_zero (by omega)
  have h1 := h.2.2
  rw [h0, List.append_nil] at h1
  exact h1
@[simp] theorem permOf_length (raw : List Int) (fr n : Nat) : (permOf raw fr n).length = n := (pS_len raw fr n n (Nat.le_refl _)).2.1
theorem ordE_perm {n : Nat} {l : List Int} (h : l.Perm (upF n)) : ordE n l = 0 := by
  have hl : l.length = n := by rw [h.length_eq]; simp
  have hd : l.Nodup := h.nodup_iff.2 (by
    unfold upF
    rw [List.Nodup, List.pairwise_map]
    exact List.nodup_range.imp fun h e => h (by omega))
  have hin : ∀ x, x ∈ l → 0 ≤ x ∧ x < (n : Int) := fun x hx => by
    have := h.subset hx
    unfold upF at this
    obtain ⟨y, hy, rfl⟩ := List.mem_map.1 this
    have := List.mem_range.1 hy
    omega
  unfold ordE
  rw [if_neg (by omega)]
  unfold someE
  have key : ∀ k, k ≤ l.length → firstE (someB n l) k = 0 := by
    intro k
    induction k with
    | zero => intro _; rfl
    | succ k ih =>
      intro hk
      refine firstE_succ (ih (by omega)) ?_
      have h1 := hin _ (getD_mem 0 (show k < l.length by omega))
      refine someB_0 (by omega) fun c => ?_
      unfold placeF at c
      cases hf : firstI (fun i => decide (l.getD i 0 = l.getD k 0)) l.length with
      | none => have := firstI_none hf k (by omega); simp at this
      | some i =>
        rw [hf] at c
        simp only at c
        have h2 := firstI_spec hf
        simp only [decide_eq_true_eq] at h2
        have hik : i < k := by omega
        have h3 := List.pairwise_iff_getElem.1 hd i k (by omega) (by omega) hik
        simp only [List.getD_eq_getElem?_getD, List.getElem?_eq_getElem (show i < l.length by omega), List.getElem?_eq_getElem (show k < l.length by omega), Option.getD_some] at h2
        exact h3 h2.2.1
  exact key _ (Nat.le_refl _)
theorem permOf_ord (raw : List Int) (fr n : Nat) : ordE n (permOf raw fr n) = 0 := ordE_perm (permOf_perm raw fr n)
theorem rest_eqI {l : List Int} {i : Int} (h : 0 ≤ i) : ([] ++ (l.take i.toNat).drop (0 : Int).toNat) ++ (l.take ((l.length : Nat) : Int).toNat).drop (i + 1).toNat = restF l i.toNat := by
  have e : (i + 1).toNat = i.toNat + 1 := by omega
  rw [e]; simp [restF]

def cutF (o : List Int) (n m : Int) : List Int := if n < m then o.take n.toNat else o
theorem cut_yes {o : List Int} {n m : Int} (h : n < m) : (o.take n.toNat).drop (0 : Int).toNat = cutF o n m := by unfold cutF; rw [if_pos h]; rfl
theorem cut_no {o : List Int} {n m : Int} (h : ¬ n < m) : o = cutF o n m := (if_neg h).symm
def sL : ByteArray := ⟨#[108]⟩
def sR : ByteArray := ⟨#[114]⟩
def leftA (raw : List Int) (rn i : Nat) : Ag := (sL ++ byteS (48 + (i : Int)), 1, cutF (permOf raw (i * (rn + 1)) rn) (pickF (atF raw (i * (rn + 1) + rn)) (2 * (rn : Int))) rn, ())
def rK (ln rn i : Nat) : Nat := ln * (rn + 1) + i * (ln + 2)
def roomV (raw : List Int) (ln rn : Nat) (one : Bool) (i : Nat) : Int := if one = true then 1 else 1 + pickF (atF raw (rK ln rn i + ln + 1)) 2
def rightA (raw : List Int) (ln rn : Nat) (one : Bool) (i : Nat) : Ag := (sR ++ byteS (48 + (i : Int)), roomV raw ln rn one i, cutF (permOf raw (rK ln rn i) ln) (pickF (atF raw (rK ln rn i + ln)) (2 * (ln : Int))) ln, ())
def sideN (x most : Int) : Nat := (1 + pickF x most).toNat
theorem sideN_in {x most : Int} (h : 1 ≤ most ∧ most ≤ 6) : 1 + pickF x most = (sideN x most : Nat) ∧ 1 ≤ sideN x most ∧ sideN x most ≤ 6 ∧ (sideN x most : Int) ≤ most := by
  have := pickF_range x most h.1
  unfold sideN; omega
def sidesL (raw : List Int) (l r most : Int) : List Ag := mapr (sideN l most) (leftA raw (sideN r most))
def sidesR (raw : List Int) (l r most : Int) (one : Bool) : List Ag := mapr (sideN r most) (rightA raw (sideN l most) (sideN r most) one)
theorem mul_le36 {a b : Nat} (ha : a ≤ 6) (hb : b ≤ 8) : a * b ≤ 48 := Nat.le_trans (Nat.mul_le_mul ha hb) (by decide)

set_option maxRecDepth 1000000 in
set_option maxHeartbeats 1000000 in
theorem Pick_fc (c n : Int) (hn : 1 ≤ n) : FC Tryd.prog 26 [.i c, .i n] (.i (pickF c n)) := by
  refine FC.intro Tryd.func26 rfl (Nat.le_of_ble_eq_true rfl) fun hfit => ?_
  have fit0 : -9223372036854775808 ≤ (c : Int) ∧ (c : Int) ≤ 9223372036854775807 := (hfit _ (.head _)).int64
  have fit1 : -9223372036854775808 ≤ (n : Int) ∧ (n : Int) ≤ 9223372036854775807 := (hfit _ (.tail _ (.head _))).int64
  refine awp_seq ?_
  refine awp_region rfl (.n (fun _ => op_assign (.plain rfl)) (.nil _)) ?_
  refine awp_seq ?_
  refine awp_seq ?_
  refine awp_region rfl (.n (fun _ => op_move (.plain rfl)) (.n (fun _ => op_lss (.plain rfl) (.plain rfl)) (.nil _))) ?_
  refine awp_cond rfl (fun h => ?_) (fun h => ?_)
  · (try simp only [decide_eq_true_eq, decide_eq_false_iff_not, Bool.and_eq_true, Bool.or_eq_true, Bool.and_eq_false_iff, Bool.or_eq_false_iff, Bool.not_eq_true', Bool.not_eq_false', Bool.not_eq_true, Bool.not_eq_false, Bool.true_eq_false, Bool.false_eq_true] at h); (try simp only [foldN, foldR, foldL, Int.toNat_natCast] at h)
    refine awp_region rfl (.n (fun _ => op_move (.plain rfl)) (.n (fun _ => op_add (.plain rfl) (.plain rfl) ?_) (.n (fun _ => op_neg (.plain rfl) ?_) (.n (fun _ => op_assign (.plain rfl)) (.nil _))))) ?_
    · (try simp only [foldN, foldR, foldL, Int.toNat_natCast])
      unfold InR; omega
    · (try simp only [foldN, foldR, foldL, Int.toNat_natCast])
      unfold InR; omega
    refine awp_seq ?_
    refine awp_region rfl (.n (fun _ => op_move (.plain rfl)) (.n (fun _ => op_move (.plain rfl)) (.n (fun _ => op_rem (.plain rfl) (.plain rfl) ?_) (.n (fun _ => op_assign (.plain rfl)) (.nil _))))) ?_
    · (try simp only [foldN, foldR, foldL, Int.toNat_natCast])
      omega
    refine awp_ret ?_
    refine retQ.ret ?_
    refine ret1 rfl rfl rfl ?_
    unfold pickF; rw [if_pos h]
  · (try simp only [decide_eq_true_eq, decide_eq_false_iff_not, Bool.and_eq_true, Bool.or_eq_true, Bool.and_eq_false_iff, Bool.or_eq_false_iff, Bool.not_eq_true', Bool.not_eq_false', Bool.not_eq_true, Bool.not_eq_false, Bool.true_eq_false, Bool.false_eq_true] at h); (try simp only [foldN, foldR, foldL, Int.toNat_natCast] at h)
    refine awp_skip ?_
    refine awp_seq ?_
    refine awp_region rfl (.n (fun _ => op_move (.plain rfl)) (.n (fun _ => op_move (.plain rfl)) (.n (fun _ => op_rem (.plain rfl) (.plain rfl) ?_) (.n (fun _ => op_assign (.plain rfl)) (.nil _))))) ?_
    · (try simp only [foldN, foldR, foldL, Int.toNat_natCast])
      omega
    refine awp_ret ?_
    refine retQ.ret ?_
    refine ret1 rfl rfl rfl ?_
    unfold pickF; rw [if_neg h]

set_option maxRecDepth 1000000 in
set_option maxHeartbeats 1000000 in
theorem At_fc (raw : List Int) (k : Nat) : FC Tryd.prog 28 [.ints raw, .i (k : Nat)] (.i (atF raw k)) := by
  refine FC.intro Tryd.func28 rfl (Nat.le_of_ble_eq_true rfl) fun hfit => ?_
  obtain ⟨fitl0, fitr0⟩ := (hfit _ (.head _)).ints
  have fit1 : -9223372036854775808 ≤ ((k : Nat) : Int) ∧ ((k : Nat) : Int) ≤ 9223372036854775807 := (hfit _ (.tail _ (.head _))).int64
  refine awp_seq ?_
  refine awp_region rfl (.n (fun _ => op_assign (.plain rfl)) (.nil _)) ?_
  refine awp_seq ?_
  refine awp_seq ?_
  refine awp_region rfl (.n (fun _ => op_move (.plain rfl)) (.n (fun _ => op_len (s := 0) Tryd.underlying25 (.plain rfl)) (.n (fun _ => op_eql (.plain rfl) (.plain rfl)) (.nil _)))) ?_
  refine awp_cond rfl (fun h => ?_) (fun h => ?_)
  · (try simp only [decide_eq_true_eq, decide_eq_false_iff_not, Bool.and_eq_true, Bool.or_eq_true, Bool.and_eq_false_iff, Bool.or_eq_false_iff, Bool.not_eq_true', Bool.not_eq_false', Bool.not_eq_true, Bool.not_eq_false, Bool.true_eq_false, Bool.false_eq_true] at h); (try simp only [foldN, foldR, foldL, Int.toNat_natCast] at h)
    refine awp_seq ?_
    refine awp_region rfl (.n (fun _ => op_assign (.plain rfl)) (.nil _)) ?_
    refine awp_ret ?_
    refine retQ.ret ?_
    refine ret1 rfl rfl rfl ?_
    unfold atF; rw [if_pos (by omega)]
  · (try simp only [decide_eq_true_eq, decide_eq_false_iff_not, Bool.and_eq_true, Bool.or_eq_true, Bool.and_eq_false_iff, Bool.or_eq_false_iff, Bool.not_eq_true', Bool.not_eq_false', Bool.not_eq_true, Bool.not_eq_false, Bool.true_eq_false, Bool.false_eq_true] at h); (try simp only [foldN, foldR, foldL, Int.toNat_natCast] at h)
    refine awp_skip ?_
    refine awp_seq ?_
    refine awp_region rfl (.n (fun _ => op_move (.plain rfl)) (.n (fun _ => op_move (.plain rfl)) (.n (fun _ => op_move (.plain rfl)) (.n (fun _ => op_len (s := 0) Tryd.underlying25 (.plain rfl)) (.n (fun _ => op_rem (.plain rfl) (.plain rfl) ?_) (.n (fun _ => op_indexAddr Tryd.underlying25 Tryd.sizeOf3 (.plain rfl) (.plain rfl) (fun _ => rfl) ?_) (.n (fun _ => op_load Tryd.isAgg3 (.plain rfl)) (.n (fun _ => op_assign (.plain rfl)) (.nil _))))))))) ?_
    · (try simp only [foldN, foldR, foldL, Int.toNat_natCast])
      omega
    · (try simp only [foldN, foldR, foldL, Int.toNat_natCast])
      exact ⟨Int.emod_nonneg _ (by omega), Int.emod_lt_of_pos _ (by omega)⟩
    refine awp_ret ?_
    refine retQ.ret ?_
    refine ret1 rfl rfl rfl ?_
    unfold atF; rw [if_neg (by omega), ← Int.natCast_emod, Int.toNat_natCast]

set_option maxRecDepth 1000000 in
set_option maxHeartbeats 1000000 in
theorem upTo_fc (n : Nat) (hn : n ≤ 1000000) : FC Tryd.prog 52 [.i (n : Nat)] (.ints (upF n)) := by
  refine FC.intro Tryd.func52 rfl (Nat.le_of_ble_eq_true rfl) fun hfit => ?_
  have fit0 : -9223372036854775808 ≤ ((n : Nat) : Int) ∧ ((n : Nat) : Int) ≤ 9223372036854775807 := (hfit _ (.head _)).int64
  refine awp_seq ?_
  refine awp_region rfl (.n (fun _ => op_assign (.plain rfl)) (.nil _)) ?_
  refine awp_seq ?_
  refine awp_region rfl (.n (fun _ => op_assign (.plain rfl)) (.nil _)) ?_
  refine awp_seq ?_
  refine awp_seq ?_
  refine awp_region rfl (.n (fun _ => op_assign (.plain rfl)) (.nil _)) ?_
  refine awp_block ?_
  refine awp_ent (Ent.begin 3 1003 3 1 Int 0 (fun n => [.int .i64 n]) rfl rfl rfl) ?_
  refine awp_loop (σ := Nat) (fun (k : Nat) => k ≤ n) (fun (k : Nat) => ⟨[(3, .own 1003), (4, .int (k : Nat)), (0, .pv (.i (n : Nat)))], [(1003, .arr 3 1 Int 0 (fun n => [.int .i64 n]) (upF k))]⟩) (fun (k : Nat) => n - k) 0 ?_ (Ent.kept ⟨rfl, rfl, rfl, trivial⟩ ⟨rfl, trivial⟩) ?_
  · simp
  rintro k hp
  try dsimp only at hp
  refine awp_seq ?_
  refine awp_seq ?_
  refine awp_region rfl (.n (fun _ => op_move (.plain rfl)) (.n (fun _ => op_move (.plain rfl)) (.n (fun _ => op_lss (.plain rfl) (.plain rfl)) (.nil _)))) ?_
  refine awp_cond rfl (fun h => ?_) (fun h => ?_)
  · (try simp only [decide_eq_true_eq, decide_eq_false_iff_not, Bool.and_eq_true, Bool.or_eq_true, Bool.and_eq_false_iff, Bool.or_eq_false_iff, Bool.not_eq_true', Bool.not_eq_false', Bool.not_eq_true, Bool.not_eq_false, Bool.true_eq_false, Bool.false_eq_true] at h); (try simp only [foldN, foldR, foldL, Int.toNat_natCast] at h)
    refine awp_skip ?_
    refine awp_seq ?_
    refine awp_block ?_
    refine awp_region rfl (.n (fun _ => op_move (.plain rfl)) (.n (fun _ => op_move (.plain rfl)) (.n (fun _ => op_slit (pp := [(0, _)]) (α := Int) (d := 0) (f := (fun n => [.int .i64 n])) [_] ety25 rfl ⟨rfl, (.plain rfl), (by simp), trivial⟩ rfl (by decide) rfl) (.e (op_append (id' := 13) (α := Int) (d := 0) (f := (fun n => [.int .i64 n])) ety25 Tryd.underlying25 (fun _ => rfl) (fun _ => rfl) (.plain rfl) rfl (.plain rfl) rfl ?_) rfl (.n (fun _ => op_assign (.plain rfl)) (.nil _)))))) ?_
    · (try simp only [foldN, foldR, foldL, Int.toNat_natCast])
      first | omega | (simp; omega)
    refine awp_region rfl (.n (fun _ => op_move (.plain rfl)) (.n (fun _ => op_add (.plain rfl) (.plain rfl) ?_) (.n (fun _ => op_assign (.plain rfl)) (.nil _)))) ?_
    · (try simp only [foldN, foldR, foldL, Int.toNat_natCast])
      unfold InR; omega
    exact ⟨k + 1, by omega, by dsimp only; omega, (Ent.round 13 1003 ⟨rfl, rfl, rfl, trivial⟩ ⟨(by rw [upF_succ]; rfl), trivial⟩ rfl rfl rfl ⟨rfl, rfl, rfl, trivial⟩ ⟨rfl, trivial⟩)⟩
  · (try simp only [decide_eq_true_eq, decide_eq_false_iff_not, Bool.and_eq_true, Bool.or_eq_true, Bool.and_eq_false_iff, Bool.or_eq_false_iff, Bool.not_eq_true', Bool.not_eq_false', Bool.not_eq_true, Bool.not_eq_false, Bool.true_eq_false, Bool.false_eq_true] at h); (try simp only [foldN, foldR, foldL, Int.toNat_natCast] at h)
    refine awp_exit ?_
    refine awp_seq ?_
    refine awp_region rfl (.n (fun _ => op_move (.plain rfl)) (.n (fun _ => op_assign (.plain rfl)) (.nil _))) ?_
    refine awp_ret ?_
    refine retQ.ret ?_
    refine ret1 rfl rfl rfl ?_
    obtain rfl : k = n := by omega
    rfl

set_option maxRecDepth 1000000 in
set_option maxHeartbeats 2000000 in
theorem Perm_fc (raw : List Int) (fr n : Nat) (hn : n ≤ 1000) (hfr : fr ≤ 1000000) : FC Tryd.prog 27 [.ints raw, .i (fr : Nat), .i (n : Nat)] (.ints (permOf raw fr n)) := by
  refine FC.intro Tryd.func27 rfl (Nat.le_of_ble_eq_true rfl) fun hfit => ?_
  obtain ⟨fitl0, fitr0⟩ := (hfit _ (.head _)).ints
  have fit1 : -9223372036854775808 ≤ ((fr : Nat) : Int) ∧ ((fr : Nat) : Int) ≤ 9223372036854775807 := (hfit _ (.tail _ (.head _))).int64
  have fit2 : -9223372036854775808 ≤ ((n : Nat) : Int) ∧ ((n : Nat) : Int) ≤ 9223372036854775807 := (hfit _ (.tail _ (.tail _ (.head _)))).int64
  refine awp_seq ?_
  refine awp_region rfl (.n (fun _ => op_assign (.plain rfl)) (.nil _)) ?_
  refine awp_seq ?_
  refine awp_region rfl (.n (fun _ => op_move (.plain rfl)) (.n (fun _ => op_call1 Tryd.call52 (.plain rfl) (upTo_fc _ ?_)) (.n (fun _ => op_assign (.plain rfl)) (.nil _)))) ?_
  · (try simp only [foldN, foldR, foldL, Int.toNat_natCast])
    omega
  refine awp_seq ?_
  refine awp_region rfl (.n (fun _ => op_assign (.plain rfl)) (.nil _)) ?_
  refine awp_seq ?_
  refine awp_seq ?_
  refine awp_region rfl (.n (fun _ => op_assign (.plain rfl)) (.nil _)) ?_
  refine awp_block ?_
  refine awp_ent (Ent.begin 8 1008 3 1 Int 0 (fun n => [.int .i64 n]) rfl rfl rfl) ?_
  refine awp_loop (σ := Nat) (fun (k : Nat) => k ≤ n) (fun (k : Nat) => ⟨[(0, .pv (.ints raw)), (1, .pv (.i (fr : Nat))), (2, .pv (.i (n : Nat))), (7, .pv (.ints (pS raw fr n k).1)), (8, .own 1008), (9, .int (k : Nat))], [(1008, .arr 3 1 Int 0 (fun n => [.int .i64 n]) (pS raw fr n k).2)]⟩) (fun (k : Nat) => n - k) 0 ?_ (Ent.kept ⟨rfl, rfl, rfl, rfl, rfl, rfl, trivial⟩ ⟨rfl, trivial⟩) ?_
  · simp
  rintro k hp
  try dsimp only at hp
  refine awp_seq ?_
  refine awp_seq ?_
  refine awp_region rfl (.n (fun _ => op_move (.plain rfl)) (.n (fun _ => op_move (.plain rfl)) (.n (fun _ => op_lss (.plain rfl) (.plain rfl)) (.nil _)))) ?_
  refine awp_cond rfl (fun h => ?_) (fun h => ?_)
  · (try simp only [decide_eq_true_eq, decide_eq_false_iff_not, Bool.and_eq_true, Bool.or_eq_true, Bool.and_eq_false_iff, Bool.or_eq_false_iff, Bool.not_eq_true', Bool.not_eq_false', Bool.not_eq_true, Bool.not_eq_false, Bool.true_eq_false, Bool.false_eq_true] at h); (try simp only [foldN, foldR, foldL, Int.toNat_natCast] at h)
    have hS := pS_len raw fr n k (by omega)
    have hpk := pickN_lt (raw := raw) (k := fr + k) (len := (pS raw fr n k).1.length) (by omega)
    refine awp_skip ?_
    refine awp_seq ?_
    refine awp_block ?_
    refine awp_seq ?_
    refine awp_region rfl (.n (fun _ => op_move (.plain rfl)) (.n (fun _ => op_move (.plain rfl)) (.n (fun _ => op_move (.plain rfl)) (.n (fun _ => op_add (.plain rfl) (.plain rfl) ?_) (.n (fun _ => op_call2 Tryd.call28 (.plain rfl) (.plain rfl) (At_fc raw (fr + k))) (.n (fun _ => op_move (.plain rfl)) (.n (fun _ => op_len (s := 0) Tryd.underlying25 (.plain rfl)) (.n (fun _ => op_call2 Tryd.call26 (.plain rfl) (.plain rfl) (Pick_fc _ _ ?_)) (.n (fun _ => op_assign (.plain rfl)) (.nil _)))))))))) ?_
    · (try simp only [foldN, foldR, foldL, Int.toNat_natCast])
      unfold InR; omega
    · (try simp only [foldN, foldR, foldL, Int.toNat_natCast])
      omega
    refine awp_seq ?_
    refine awp_region rfl (.n (fun _ => op_move (.plain rfl)) (.n (fun _ => op_move (.plain rfl)) (.n (fun _ => op_move (.plain rfl)) (.n (fun _ => op_indexAddr Tryd.underlying25 Tryd.sizeOf3 (.plain rfl) (.plain rfl) (fun _ => rfl) ?_) (.n (fun _ => op_load Tryd.isAgg3 (.plain rfl)) (.n (fun _ => op_slit (pp := [(0, _)]) (α := Int) (d := 0) (f := (fun n => [.int .i64 n])) [_] ety25 rfl ⟨rfl, (.plain rfl), (by simp), trivial⟩ rfl (by decide) rfl) (.e (op_append (id' := 32) (α := Int) (d := 0) (f := (fun n => [.int .i64 n])) ety25 Tryd.underlying25 (fun _ => rfl) (fun _ => rfl) (.plain rfl) rfl (.plain rfl) rfl ?_) rfl (.n (fun _ => op_assign (.plain rfl)) (.nil _))))))))) ?_
    · (try simp only [foldN, foldR, foldL, Int.toNat_natCast])
      omega
    · (try simp only [foldN, foldR, foldL, Int.toNat_natCast])
      simp; omega
    refine awp_region_draw mixed rfl (.e (op_slitO (pp := []) (α := Int) (d := 0) (f := (fun n => [.int .i64 n])) 33 [] ety25 rfl trivial rfl (by decide) rfl (fun _ => rfl) rfl) rfl (.n (fun _ => op_move (.plain rfl)) (.n (fun _ => op_move (.plain rfl)) (.n (fun _ => op_sliceI (kl := .i64) Tryd.underlying25 Tryd.sizeOf3 (fun _ => rfl) (.plain rfl) rfl (.plain rfl) ?_) (.e (op_append (id' := 37) (α := Int) (d := 0) (f := (fun n => [.int .i64 n])) ety25 Tryd.underlying25 (fun _ => rfl) (fun _ => rfl) (.plain rfl) rfl (.plain rfl) rfl ?_) rfl (.n (fun _ => op_move (.plain rfl)) (.n (fun _ => op_move (.plain rfl)) (.n (fun _ => op_add (.plain rfl) (.plain rfl) ?_) (.n (fun _ => op_sliceI (kh := .i64) Tryd.underlying25 Tryd.sizeOf3 (fun _ => rfl) (.plain rfl) (.plain rfl) rfl ?_) (.e (op_append (id' := 42) (α := Int) (d := 0) (f := (fun n => [.int .i64 n])) ety25 Tryd.underlying25 (fun _ => rfl) (fun _ => rfl) (.plain rfl) rfl (.plain rfl) rfl ?_) rfl (.n (fun _ => op_assign (.plain rfl)) (.nil _)))))))))))) ?d1 ?_
    · (try simp only [foldN, foldR, foldL, Int.toNat_natCast])
      omega
    · (try simp only [foldN, foldR, foldL, Int.toNat_natCast])
      simp; omega
    · (try simp only [foldN, foldR, foldL, Int.toNat_natCast])
      unfold InR; omega
    · (try simp only [foldN, foldR, foldL, Int.toNat_natCast])
      omega
    · (try simp only [foldN, foldR, foldL, Int.toNat_natCast])
      simp; omega
    · kernel_rfl
    refine awp_ent (Ent.give 7 rfl rfl) ?_
    refine awp_region rfl (.n (fun _ => op_move (.plain rfl)) (.n (fun _ => op_add (.plain rfl) (.plain rfl) ?_) (.n (fun _ => op_assign (.plain rfl)) (.nil _)))) ?_
    · (try simp only [foldN, foldR, foldL, Int.toNat_natCast])
      unfold InR; omega
    exact ⟨k + 1, by omega, by dsimp only; omega, (Ent.round 32 1008 ⟨rfl, rfl, rfl, (congrArg (fun l => some (SV.pv (.ints l))) (rest_eqI (by omega))), rfl, rfl, trivial⟩ ⟨(congrArg (fun l => some (Blk.arr 3 1 Int 0 (fun n => [.int .i64 n]) l)) (rfl)), trivial⟩ rfl rfl rfl ⟨rfl, rfl, rfl, rfl, rfl, rfl, trivial⟩ ⟨rfl, trivial⟩)⟩
  · (try simp only [decide_eq_true_eq, decide_eq_false_iff_not, Bool.and_eq_true, Bool.or_eq_true, Bool.and_eq_false_iff, Bool.or_eq_false_iff, Bool.not_eq_true', Bool.not_eq_false', Bool.not_eq_true, Bool.not_eq_false, Bool.true_eq_false, Bool.false_eq_true] at h); (try simp only [foldN, foldR, foldL, Int.toNat_natCast] at h)
    refine awp_exit ?_
    refine awp_seq ?_
    refine awp_region rfl (.n (fun _ => op_move (.plain rfl)) (.n (fun _ => op_assign (.plain rfl)) (.nil _))) ?_
    refine awp_ret ?_
    refine retQ.ret ?_
    refine ret1 rfl rfl rfl ?_
    obtain rfl : k = n := by omega
    rfl

set_option maxRecDepth 1000000 in
set_option maxHeartbeats 1000000 in
theorem Sides_fc (raw : List Int) (l r most : Int) (one : Bool) (hm : 1 ≤ most ∧ most ≤ 6) : FC Tryd.prog 25 [.ints raw, .i l, .i r, .i most, .bool one] (.agg [.seq (ByteArray × Int × List Int × Unit) (ByteArray.empty, 0, [], ()) (fun p => [.str p.1, .i p.2.1, .ints p.2.2.1]) (sidesL raw l r most), .seq (ByteArray × Int × List Int × Unit) (ByteArray.empty, 0, [], ()) (fun p => [.str p.1, .i p.2.1, .ints p.2.2.1]) (sidesR raw l r most one)]) := by
  refine FC.intro Tryd.func25 rfl (Nat.le_of_ble_eq_true rfl) fun hfit => ?_
  obtain ⟨fitl0, fitr0⟩ := (hfit _ (.head _)).ints
  have fit1 : -9223372036854775808 ≤ (l : Int) ∧ (l : Int) ≤ 9223372036854775807 := (hfit _ (.tail _ (.head _))).int64
  have fit2 : -9223372036854775808 ≤ (r : Int) ∧ (r : Int) ≤ 9223372036854775807 := (hfit _ (.tail _ (.tail _ (.head _)))).int64
  have fit3 : -9223372036854775808 ≤ (most : Int) ∧ (most : Int) ≤ 9223372036854775807 := (hfit _ (.tail _ (.tail _ (.tail _ (.head _))))).int64
  have fit4 := hfit _ (.tail _ (.tail _ (.tail _ (.tail _ (.head _)))))
  have hL := sideN_in (x := l) hm
  have hR := sideN_in (x := r) hm
  have p1 := pickF_range l most hm.1
  have p2 := pickF_range r most hm.1
  refine awp_seq ?_
  refine awp_region rfl (.e (op_alloc 10 Tryd.zeroValue24 rfl rfl rfl) rfl (.nil _)) ?_
  refine awp_seq ?_
  refine awp_region rfl (.n (fun _ => op_move (.plain rfl)) (.n (fun _ => op_move (.plain rfl)) (.n (fun _ => op_call2 Tryd.call26 (.plain rfl) (.plain rfl) (Pick_fc _ _ ?_)) (.n (fun _ => op_add (.plain rfl) (.plain rfl) ?_) (.n (fun _ => op_assign (.plain rfl)) (.nil _)))))) ?_
  · (try simp only [foldN, foldR, foldL, Int.toNat_natCast])
    omega
  · (try simp only [foldN, foldR, foldL, Int.toNat_natCast])
    unfold InR; omega
  refine awp_seq ?_
  refine awp_region rfl (.n (fun _ => op_move (.plain rfl)) (.n (fun _ => op_move (.plain rfl)) (.n (fun _ => op_call2 Tryd.call26 (.plain rfl) (.plain rfl) (Pick_fc _ _ ?_)) (.n (fun _ => op_add (.plain rfl) (.plain rfl) ?_) (.n (fun _ => op_assign (.plain rfl)) (.nil _)))))) ?_
  · (try simp only [foldN, foldR, foldL, Int.toNat_natCast])
    omega
  · (try simp only [foldN, foldR, foldL, Int.toNat_natCast])
    unfold InR; omega
  refine awp_seq ?_
  refine awp_region rfl (.n (fun _ => op_build (pp := []) (places := #[(0, 1), (1, 1)]) Tryd.underlying24 Tryd.zeroValue24 rfl (by intro w; kernel_rfl) trivial rfl) (.e (op_alloc 11 Tryd.zeroValue24 rfl rfl rfl) rfl (.e (op_storeRA Tryd.sizeOf24 (.plain rfl) (.plain rfl) rfl rfl (Nat.le_of_ble_eq_true rfl) rfl) rfl (.nil _)))) ?_
  refine awp_seq ?_
  refine awp_region rfl (.n (fun _ => op_assign (.plain rfl)) (.nil _)) ?_
  refine awp_seq ?_
  refine awp_seq ?_
  refine awp_region rfl (.n (fun _ => op_assign (.plain rfl)) (.nil _)) ?_
  refine awp_block ?_
  refine awp_ent (Ent.beginB 11 0 2001 48 3 (ByteArray × Int × List Int × Unit) (ByteArray.empty, 0, [], ()) (fun p => [.str p.1, .i p.2.1, .ints p.2.2.1]) rfl rfl (by decide) rfl rfl) ?_
  refine awp_ent (Ent.beginB 11 1 2002 48 3 (ByteArray × Int × List Int × Unit) (ByteArray.empty, 0, [], ()) (fun p => [.str p.1, .i p.2.1, .ints p.2.2.1]) rfl rfl (by decide) rfl rfl) ?_
  refine awp_loop (σ := Nat) (fun (i : Nat) => i ≤ (sideN l most)) (fun (i : Nat) => ⟨[(0, .pv (.ints raw)), (1, .int ((sideN l most) : Nat)), (2, .int ((sideN r most) : Nat)), (4, .bool one), (10, .ref 10 0), (11, .ref 11 0), (12, .int ((i * ((sideN r most) + 1)) : Nat)), (13, .int (i : Nat))], [(11, .box [.own 2001, .own 2002]), (2001, .arr 48 3 (ByteArray × Int × List Int × Unit) (ByteArray.empty, 0, [], ()) (fun p => [.str p.1, .i p.2.1, .ints p.2.2.1]) (mapr i (leftA raw (sideN r most)))), (2002, .arr 48 3 (ByteArray × Int × List Int × Unit) (ByteArray.empty, 0, [], ()) (fun p => [.str p.1, .i p.2.1, .ints p.2.2.1]) ([])), (10, .box [.pv .nil, .pv .nil])]⟩) (fun (i : Nat) => (sideN l most) - i) 0 ?_ (Ent.kept ⟨rfl, (congrArg (fun n : Int => some (SV.int n)) (hL.1)), (congrArg (fun n : Int => some (SV.int n)) (hR.1)), rfl, rfl, rfl, (congrArg (fun n : Int => some (SV.int n)) (by simp)), rfl, trivial⟩ ⟨rfl, rfl, rfl, rfl, trivial⟩) ?_
  · exact Nat.zero_le _
  rintro i hp
  try dsimp only at hp
  have hi := hp
  have hk1 := mul_le36 (show i ≤ 6 by omega) (show (sideN r most) + 1 ≤ 8 by omega)
  refine awp_seq ?_
  refine awp_seq ?_
  refine awp_region rfl (.n (fun _ => op_move (.plain rfl)) (.n (fun _ => op_move (.plain rfl)) (.n (fun _ => op_lss (.plain rfl) (.plain rfl)) (.nil _)))) ?_
  refine awp_cond rfl (fun h => ?_) (fun h => ?_)
  · (try simp only [decide_eq_true_eq, decide_eq_false_iff_not, Bool.and_eq_true, Bool.or_eq_true, Bool.and_eq_false_iff, Bool.or_eq_false_iff, Bool.not_eq_true', Bool.not_eq_false', Bool.not_eq_true, Bool.not_eq_false, Bool.true_eq_false, Bool.false_eq_true] at h); (try simp only [foldN, foldR, foldL, Int.toNat_natCast] at h)
    refine awp_skip ?_
    refine awp_seq ?_
    refine awp_block ?_
    refine awp_seq ?_
    refine awp_region rfl (.n (fun _ => op_move (.plain rfl)) (.n (fun _ => op_move (.plain rfl)) (.n (fun _ => op_move (.plain rfl)) (.n (fun _ => op_call3 Tryd.call27 (.plain rfl) (.plain rfl) (.plain rfl) (Perm_fc _ _ _ ?_ ?_)) (.n (fun _ => op_assign (.plain rfl)) (.nil _)))))) ?_
    · (try simp only [foldN, foldR, foldL, Int.toNat_natCast])
      omega
    · (try simp only [foldN, foldR, foldL, Int.toNat_natCast])
      omega
    refine awp_seq ?_
    refine awp_region rfl (.n (fun _ => op_move (.plain rfl)) (.n (fun _ => op_move (.plain rfl)) (.n (fun _ => op_move (.plain rfl)) (.n (fun _ => op_add (.plain rfl) (.plain rfl) ?_) (.n (fun _ => op_call2 Tryd.call28 (.plain rfl) (.plain rfl) (At_fc raw ((i * ((sideN r most) + 1)) + (sideN r most)))) (.n (fun _ => op_move (.plain rfl)) (.n (fun _ => op_mul (.plain rfl) (.plain rfl) ?_) (.n (fun _ => op_call2 Tryd.call26 (.plain rfl) (.plain rfl) (Pick_fc _ _ ?_)) (.n (fun _ => op_assign (.plain rfl)) (.nil _)))))))))) ?_
    · (try simp only [foldN, foldR, foldL, Int.toNat_natCast])
      unfold InR; omega
    · (try simp only [foldN, foldR, foldL, Int.toNat_natCast])
      unfold InR; omega
    · (try simp only [foldN, foldR, foldL, Int.toNat_natCast])
      omega
    refine awp_seq ?_
    refine awp_seq ?_
    refine awp_region rfl (.n (fun _ => op_move (.plain rfl)) (.n (fun _ => op_move (.plain rfl)) (.n (fun _ => op_lss (.plain rfl) (.plain rfl)) (.nil _)))) ?_
    refine awp_cond rfl (fun h => ?_) (fun h => ?_)
    · (try simp only [decide_eq_true_eq, decide_eq_false_iff_not, Bool.and_eq_true, Bool.or_eq_true, Bool.and_eq_false_iff, Bool.or_eq_false_iff, Bool.not_eq_true', Bool.not_eq_false', Bool.not_eq_true, Bool.not_eq_false, Bool.true_eq_false, Bool.false_eq_true] at h); (try simp only [foldN, foldR, foldL, Int.toNat_natCast] at h)
      have h1 := h
      refine awp_region rfl (.n (fun _ => op_move (.plain rfl)) (.n (fun _ => op_move (.plain rfl)) (.n (fun _ => op_sliceI (kl := .i64) Tryd.underlying25 Tryd.sizeOf3 (fun _ => rfl) (.plain rfl) rfl (.plain rfl) ?_) (.n (fun _ => op_assign (.plain rfl)) (.nil _))))) ?_
      · (try simp only [foldN, foldR, foldL, Int.toNat_natCast])
        have hpk := pickF_range (atF raw ((i * ((sideN r most) + 1)) + (sideN r most))) (2 * ((sideN r most) : Int)) (by omega)
        have := permOf_length raw (i * ((sideN r most) + 1)) (sideN r most)
        omega
      refine awp_seq ?_
      refine awp_region rfl (.n (fun _ => op_move (.plain rfl)) (.n (fun _ => op_call1 Tryd.call51 (.plain rfl) (Of_fc i _ ?_ ?_)) (.n (fun _ => op_call1 Tryd.call50 (.plain rfl) (Text_fc i ?_)) (.n (fun _ => op_assign (.plain rfl)) (.nil _))))) ?_
      · (try simp only [foldN, foldR, foldL, Int.toNat_natCast])
        try (first | rfl | omega)
      · (try simp only [foldN, foldR, foldL, Int.toNat_natCast])
        omega
      · (try simp only [foldN, foldR, foldL, Int.toNat_natCast])
        omega
      refine awp_seq ?_
      refine awp_region rfl (.n (fun _ => op_fieldAddrR Tryd.underlying24 rfl rfl Tryd.sizeOf22 (.plain rfl)) (.r (op_loadR Tryd.isAgg22 (.plain rfl) rfl rfl) (.n (fun _ => op_move (.plain rfl)) (.n (fun _ => op_addS (.plain rfl) (.plain rfl) ?_) (.n (fun _ => op_move (.plain rfl)) (.n (fun _ => op_build (pp := [(0, _), (1, _), (2, _)]) (places := #[(0, 1), (1, 1), (2, 1)]) Tryd.underlying48 Tryd.zeroValue48 rfl (by intro w; kernel_rfl) ⟨rfl, (.plain rfl), (by simp), rfl, (.plain rfl), (by simp), rfl, (.plain rfl), (by simp), trivial⟩ rfl) (.n (fun _ => op_slit1 (pp := [(0, _)]) (α := (ByteArray × Int × List Int × Unit)) (d := (ByteArray.empty, 0, [], ())) (f := (fun p => [.str p.1, .i p.2.1, .ints p.2.2.1])) (_, _, _, ()) ety22 rfl ⟨rfl, (.plain rfl), (by simp), trivial⟩ rfl (by decide)) (.e (op_append (id' := 64) (α := (ByteArray × Int × List Int × Unit)) (d := (ByteArray.empty, 0, [], ())) (f := (fun p => [.str p.1, .i p.2.1, .ints p.2.2.1])) ety22 Tryd.underlying22 (fun _ => rfl) (fun _ => rfl) (.plain rfl) rfl (.plain rfl) rfl ?_) rfl (.n (fun _ => op_fieldAddrR Tryd.underlying24 rfl rfl Tryd.sizeOf22 (.plain rfl)) (.e (op_storeR Tryd.sizeOf22 (.plain rfl) (.plain rfl) rfl (by first | decide | exact Nat.le_of_ble_eq_true rfl) rfl (by simp) (fun i h => by cases h; exact ⟨_, _, _, _, _, _, rfl⟩)) rfl (.nil _))))))))))) ?_
      · (try simp only [foldN, foldR, foldL, Int.toNat_natCast])
        show 1 + 1 ≤ _
        omega
      · (try simp only [foldN, foldR, foldL, Int.toNat_natCast])
        first | omega | (simp; omega)
      refine awp_region rfl (.n (fun _ => op_move (.plain rfl)) (.n (fun _ => op_move (.plain rfl)) (.n (fun _ => op_add (.plain rfl) (.plain rfl) ?_) (.n (fun _ => op_add (.plain rfl) (.plain rfl) ?_) (.n (fun _ => op_assign (.plain rfl)) (.nil _)))))) ?_
      · (try simp only [foldN, foldR, foldL, Int.toNat_natCast])
        unfold InR; omega
      · (try simp only [foldN, foldR, foldL, Int.toNat_natCast])
        unfold InR; omega
      refine awp_region rfl (.n (fun _ => op_move (.plain rfl)) (.n (fun _ => op_add (.plain rfl) (.plain rfl) ?_) (.n (fun _ => op_assign (.plain rfl)) (.nil _)))) ?_
      · (try simp only [foldN, foldR, foldL, Int.toNat_natCast])
        unfold InR; omega
      exact ⟨i + 1, by omega, by dsimp only; omega, (Ent.round 64 2001 ⟨rfl, rfl, rfl, rfl, rfl, rfl, (congrArg (fun n : Int => some (SV.int n)) (by rw [Nat.succ_mul]; omega)), rfl, trivial⟩ ⟨rfl, (congrArg (fun l => some (Blk.arr 48 3 (ByteArray × Int × List Int × Unit) (ByteArray.empty, 0, [], ()) (fun p => [.str p.1, .i p.2.1, .ints p.2.2.1]) l)) (by rw [mapr_succ]; unfold leftA; first | rw [← cut_yes h1] <;> rfl | rw [← cut_no h1] <;> rfl)), rfl, rfl, trivial⟩ rfl rfl rfl ⟨rfl, rfl, rfl, rfl, rfl, rfl, rfl, rfl, trivial⟩ ⟨rfl, rfl, rfl, rfl, trivial⟩)⟩
    · (try simp only [decide_eq_true_eq, decide_eq_false_iff_not, Bool.and_eq_true, Bool.or_eq_true, Bool.and_eq_false_iff, Bool.or_eq_false_iff, Bool.not_eq_true', Bool.not_eq_false', Bool.not_eq_true, Bool.not_eq_false, Bool.true_eq_false, Bool.false_eq_true] at h); (try simp only [foldN, foldR, foldL, Int.toNat_natCast] at h)
      have h1 := h
      refine awp_skip ?_
      refine awp_seq ?_
      refine awp_region rfl (.n (fun _ => op_move (.plain rfl)) (.n (fun _ => op_call1 Tryd.call51 (.plain rfl) (Of_fc i _ ?_ ?_)) (.n (fun _ => op_call1 Tryd.call50 (.plain rfl) (Text_fc i ?_)) (.n (fun _ => op_assign (.plain rfl)) (.nil _))))) ?_
      · (try simp only [foldN, foldR, foldL, Int.toNat_natCast])
        try (first | rfl | omega)
      · (try simp only [foldN, foldR, foldL, Int.toNat_natCast])
        omega
      · (try simp only [foldN, foldR, foldL, Int.toNat_natCast])
        omega
      refine awp_seq ?_
      refine awp_region rfl (.n (fun _ => op_fieldAddrR Tryd.underlying24 rfl rfl Tryd.sizeOf22 (.plain rfl)) (.r (op_loadR Tryd.isAgg22 (.plain rfl) rfl rfl) (.n (fun _ => op_move (.plain rfl)) (.n (fun _ => op_addS (.plain rfl) (.plain rfl) ?_) (.n (fun _ => op_move (.plain rfl)) (.n (fun _ => op_build (pp := [(0, _), (1, _), (2, _)]) (places := #[(0, 1), (1, 1), (2, 1)]) Tryd.underlying48 Tryd.zeroValue48 rfl (by intro w; kernel_rfl) ⟨rfl, (.plain rfl), (by simp), rfl, (.plain rfl), (by simp), rfl, (.plain rfl), (by simp), trivial⟩ rfl) (.n (fun _ => op_slit1 (pp := [(0, _)]) (α := (ByteArray × Int × List Int × Unit)) (d := (ByteArray.empty, 0, [], ())) (f := (fun p => [.str p.1, .i p.2.1, .ints p.2.2.1])) (_, _, _, ()) ety22 rfl ⟨rfl, (.plain rfl), (by simp), trivial⟩ rfl (by decide)) (.e (op_append (id' := 64) (α := (ByteArray × Int × List Int × Unit)) (d := (ByteArray.empty, 0, [], ())) (f := (fun p => [.str p.1, .i p.2.1, .ints p.2.2.1])) ety22 Tryd.underlying22 (fun _ => rfl) (fun _ => rfl) (.plain rfl) rfl (.plain rfl) rfl ?_) rfl (.n (fun _ => op_fieldAddrR Tryd.underlying24 rfl rfl Tryd.sizeOf22 (.plain rfl)) (.e (op_storeR Tryd.sizeOf22 (.plain rfl) (.plain rfl) rfl (by first | decide | exact Nat.le_of_ble_eq_true rfl) rfl (by simp) (fun i h => by cases h; exact ⟨_, _, _, _, _, _, rfl⟩)) rfl (.nil _))))))))))) ?_
      · (try simp only [foldN, foldR, foldL, Int.toNat_natCast])
        show 1 + 1 ≤ _
        omega
      · (try simp only [foldN, foldR, foldL, Int.toNat_natCast])
        first | omega | (simp; omega)
      refine awp_region rfl (.n (fun _ => op_move (.plain rfl)) (.n (fun _ => op_move (.plain rfl)) (.n (fun _ => op_add (.plain rfl) (.plain rfl) ?_) (.n (fun _ => op_add (.plain rfl) (.plain rfl) ?_) (.n (fun _ => op_assign (.plain rfl)) (.nil _)))))) ?_
      · (try simp only [foldN, foldR, foldL, Int.toNat_natCast])
        unfold InR; omega
      · (try simp only [foldN, foldR, foldL, Int.toNat_natCast])
        unfold InR; omega
      refine awp_region rfl (.n (fun _ => op_move (.plain rfl)) (.n (fun _ => op_add (.plain rfl) (.plain rfl) ?_) (.n (fun _ => op_assign (.plain rfl)) (.nil _)))) ?_
      · (try simp only [foldN, foldR, foldL, Int.toNat_natCast])
        unfold InR; omega
      exact ⟨i + 1, by omega, by dsimp only; omega, (Ent.round 64 2001 ⟨rfl, rfl, rfl, rfl, rfl, rfl, (congrArg (fun n : Int => some (SV.int n)) (by rw [Nat.succ_mul]; omega)), rfl, trivial⟩ ⟨rfl, (congrArg (fun l => some (Blk.arr 48 3 (ByteArray × Int × List Int × Unit) (ByteArray.empty, 0, [], ()) (fun p => [.str p.1, .i p.2.1, .ints p.2.2.1]) l)) (by rw [mapr_succ]; unfold leftA; first | rw [← cut_yes h1] <;> rfl | rw [← cut_no h1] <;> rfl)), rfl, rfl, trivial⟩ rfl rfl rfl ⟨rfl, rfl, rfl, rfl, rfl, rfl, rfl, rfl, trivial⟩ ⟨rfl, rfl, rfl, rfl, trivial⟩)⟩
  · (try simp only [decide_eq_true_eq, decide_eq_false_iff_not, Bool.and_eq_true, Bool.or_eq_true, Bool.and_eq_false_iff, Bool.or_eq_false_iff, Bool.not_eq_true', Bool.not_eq_false', Bool.not_eq_true, Bool.not_eq_false, Bool.true_eq_false, Bool.false_eq_true] at h); (try simp only [foldN, foldR, foldL, Int.toNat_natCast] at h)
    refine awp_exit ?_
    refine awp_seq ?_
    refine awp_seq ?_
    refine awp_region rfl (.n (fun _ => op_assign (.plain rfl)) (.nil _)) ?_
    refine awp_block ?_
    refine awp_loop (σ := Nat) (fun (i : Nat) => i ≤ (sideN r most)) (fun (i : Nat) => ⟨[(0, .pv (.ints raw)), (1, .int ((sideN l most) : Nat)), (2, .int ((sideN r most) : Nat)), (4, .bool one), (10, .ref 10 0), (11, .ref 11 0), (12, .int ((rK (sideN l most) (sideN r most) i) : Nat)), (17, .int (i : Nat))], [(11, .box [.own 2001, .own 2002]), (2001, .arr 48 3 (ByteArray × Int × List Int × Unit) (ByteArray.empty, 0, [], ()) (fun p => [.str p.1, .i p.2.1, .ints p.2.2.1]) (sidesL raw l r most)), (2002, .arr 48 3 (ByteArray × Int × List Int × Unit) (ByteArray.empty, 0, [], ()) (fun p => [.str p.1, .i p.2.1, .ints p.2.2.1]) (mapr i (rightA raw (sideN l most) (sideN r most) one))), (10, .box [.pv .nil, .pv .nil])]⟩) (fun (i : Nat) => (sideN r most) - i) 0 ?_ (Ent.kept ⟨rfl, rfl, rfl, rfl, rfl, rfl, (congrArg (fun n : Int => some (SV.int n)) (by unfold rK; rw [show i = (sideN l most) by omega]; simp)), rfl, trivial⟩ ⟨rfl, (congrArg (fun l => some (Blk.arr 48 3 (ByteArray × Int × List Int × Unit) (ByteArray.empty, 0, [], ()) (fun p => [.str p.1, .i p.2.1, .ints p.2.2.1]) l)) (by unfold sidesL; rw [show i = (sideN l most) by omega])), rfl, rfl, trivial⟩) ?_
    · exact Nat.zero_le _
    rintro i hp
    try dsimp only at hp
    have hi := hp
    have hk1 : (rK (sideN l most) (sideN r most) i) ≤ 100 := by have := mul_le36 (show (sideN l most) ≤ 6 by omega) (show (sideN r most) + 1 ≤ 8 by omega); have := mul_le36 (show i ≤ 6 by omega) (show (sideN l most) + 2 ≤ 8 by omega); unfold rK; omega
    refine awp_seq ?_
    refine awp_seq ?_
    refine awp_region rfl (.n (fun _ => op_move (.plain rfl)) (.n (fun _ => op_move (.plain rfl)) (.n (fun _ => op_lss (.plain rfl) (.plain rfl)) (.nil _)))) ?_
    refine awp_cond rfl (fun h => ?_) (fun h => ?_)
    · (try simp only [decide_eq_true_eq, decide_eq_false_iff_not, Bool.and_eq_true, Bool.or_eq_true, Bool.and_eq_false_iff, Bool.or_eq_false_iff, Bool.not_eq_true', Bool.not_eq_false', Bool.not_eq_true, Bool.not_eq_false, Bool.true_eq_false, Bool.false_eq_true] at h); (try simp only [foldN, foldR, foldL, Int.toNat_natCast] at h)
      refine awp_skip ?_
      refine awp_seq ?_
      refine awp_block ?_
      refine awp_seq ?_
      refine awp_region rfl (.n (fun _ => op_move (.plain rfl)) (.n (fun _ => op_move (.plain rfl)) (.n (fun _ => op_move (.plain rfl)) (.n (fun _ => op_call3 Tryd.call27 (.plain rfl) (.plain rfl) (.plain rfl) (Perm_fc _ _ _ ?_ ?_)) (.n (fun _ => op_assign (.plain rfl)) (.nil _)))))) ?_
      · (try simp only [foldN, foldR, foldL, Int.toNat_natCast])
        omega
      · (try simp only [foldN, foldR, foldL, Int.toNat_natCast])
        omega
      refine awp_seq ?_
      refine awp_region rfl (.n (fun _ => op_move (.plain rfl)) (.n (fun _ => op_move (.plain rfl)) (.n (fun _ => op_move (.plain rfl)) (.n (fun _ => op_add (.plain rfl) (.plain rfl) ?_) (.n (fun _ => op_call2 Tryd.call28 (.plain rfl) (.plain rfl) (At_fc raw ((rK (sideN l most) (sideN r most) i) + (sideN l most)))) (.n (fun _ => op_move (.plain rfl)) (.n (fun _ => op_mul (.plain rfl) (.plain rfl) ?_) (.n (fun _ => op_call2 Tryd.call26 (.plain rfl) (.plain rfl) (Pick_fc _ _ ?_)) (.n (fun _ => op_assign (.plain rfl)) (.nil _)))))))))) ?_
      · (try simp only [foldN, foldR, foldL, Int.toNat_natCast])
        unfold InR; omega
      · (try simp only [foldN, foldR, foldL, Int.toNat_natCast])
        unfold InR; omega
      · (try simp only [foldN, foldR, foldL, Int.toNat_natCast])
        omega
      refine awp_seq ?_
      refine awp_seq ?_
      refine awp_region rfl (.n (fun _ => op_move (.plain rfl)) (.n (fun _ => op_move (.plain rfl)) (.n (fun _ => op_lss (.plain rfl) (.plain rfl)) (.nil _)))) ?_
      refine awp_cond rfl (fun h => ?_) (fun h => ?_)
      · (try simp only [decide_eq_true_eq, decide_eq_false_iff_not, Bool.and_eq_true, Bool.or_eq_true, Bool.and_eq_false_iff, Bool.or_eq_false_iff, Bool.not_eq_true', Bool.not_eq_false', Bool.not_eq_true, Bool.not_eq_false, Bool.true_eq_false, Bool.false_eq_true] at h); (try simp only [foldN, foldR, foldL, Int.toNat_natCast] at h)
        have h1 := h
        clear h
        refine awp_region rfl (.n (fun _ => op_move (.plain rfl)) (.n (fun _ => op_move (.plain rfl)) (.n (fun _ => op_sliceI (kl := .i64) Tryd.underlying25 Tryd.sizeOf3 (fun _ => rfl) (.plain rfl) rfl (.plain rfl) ?_) (.n (fun _ => op_assign (.plain rfl)) (.nil _))))) ?_
        · (try simp only [foldN, foldR, foldL, Int.toNat_natCast])
          have hpk := pickF_range (atF raw ((rK (sideN l most) (sideN r most) i) + (sideN l most))) (2 * ((sideN l most) : Int)) (by omega)
          have := permOf_length raw (rK (sideN l most) (sideN r most) i) (sideN l most)
          omega
        refine awp_seq ?_
        refine awp_region rfl (.n (fun _ => op_move (.plain rfl)) (.n (fun _ => op_move (.plain rfl)) (.n (fun _ => op_move (.plain rfl)) (.n (fun _ => op_add (.plain rfl) (.plain rfl) ?_) (.n (fun _ => op_add (.plain rfl) (.plain rfl) ?_) (.n (fun _ => op_call2 Tryd.call28 (.plain rfl) (.plain rfl) (At_fc raw ((rK (sideN l most) (sideN r most) i) + (sideN l most) + 1))) (.n (fun _ => op_call2 Tryd.call26 (.plain rfl) (.plain rfl) (Pick_fc _ _ ?_)) (.n (fun _ => op_add (.plain rfl) (.plain rfl) ?_) (.n (fun _ => op_assign (.plain rfl)) (.nil _)))))))))) ?_
        · (try simp only [foldN, foldR, foldL, Int.toNat_natCast])
          unfold InR; omega
        · (try simp only [foldN, foldR, foldL, Int.toNat_natCast])
          unfold InR; omega
        · (try simp only [foldN, foldR, foldL, Int.toNat_natCast])
          omega
        · (try simp only [foldN, foldR, foldL, Int.toNat_natCast])
          have hpk := pickF_range (atF raw ((rK (sideN l most) (sideN r most) i) + (sideN l most) + 1)) 2 (by omega)
          unfold InR; omega
        refine awp_seq ?_
        refine awp_seq ?_
        refine awp_region rfl (.n (fun _ => op_move (.plain rfl)) (.nil _)) ?_
        refine awp_cond rfl (fun h => ?_) (fun h => ?_)
        · (try simp only [decide_eq_true_eq, decide_eq_false_iff_not, Bool.and_eq_true, Bool.or_eq_true, Bool.and_eq_false_iff, Bool.or_eq_false_iff, Bool.not_eq_true', Bool.not_eq_false', Bool.not_eq_true, Bool.not_eq_false, Bool.true_eq_false, Bool.false_eq_true] at h); (try simp only [foldN, foldR, foldL, Int.toNat_natCast] at h)
          subst h
          refine awp_region rfl (.n (fun _ => op_assign (.plain rfl)) (.nil _)) ?_
          refine awp_seq ?_
          refine awp_region rfl (.n (fun _ => op_move (.plain rfl)) (.n (fun _ => op_call1 Tryd.call51 (.plain rfl) (Of_fc i _ ?_ ?_)) (.n (fun _ => op_call1 Tryd.call50 (.plain rfl) (Text_fc i ?_)) (.n (fun _ => op_assign (.plain rfl)) (.nil _))))) ?_
          · (try simp only [foldN, foldR, foldL, Int.toNat_natCast])
            try (first | rfl | omega)
          · (try simp only [foldN, foldR, foldL, Int.toNat_natCast])
            omega
          · (try simp only [foldN, foldR, foldL, Int.toNat_natCast])
            omega
          refine awp_seq ?_
          refine awp_region rfl (.n (fun _ => op_fieldAddrR Tryd.underlying24 rfl rfl Tryd.sizeOf22 (.plain rfl)) (.r (op_loadR Tryd.isAgg22 (.plain rfl) rfl rfl) (.n (fun _ => op_move (.plain rfl)) (.n (fun _ => op_addS (.plain rfl) (.plain rfl) ?_) (.n (fun _ => op_move (.plain rfl)) (.n (fun _ => op_move (.plain rfl)) (.n (fun _ => op_build (pp := [(0, _), (1, _), (2, _)]) (places := #[(0, 1), (1, 1), (2, 1)]) Tryd.underlying48 Tryd.zeroValue48 rfl (by intro w; kernel_rfl) ⟨rfl, (.plain rfl), (by simp), rfl, (.plain rfl), (by simp), rfl, (.plain rfl), (by simp), trivial⟩ rfl) (.n (fun _ => op_slit1 (pp := [(0, _)]) (α := (ByteArray × Int × List Int × Unit)) (d := (ByteArray.empty, 0, [], ())) (f := (fun p => [.str p.1, .i p.2.1, .ints p.2.2.1])) (_, _, _, ()) ety22 rfl ⟨rfl, (.plain rfl), (by simp), trivial⟩ rfl (by decide)) (.e (op_append (id' := 113) (α := (ByteArray × Int × List Int × Unit)) (d := (ByteArray.empty, 0, [], ())) (f := (fun p => [.str p.1, .i p.2.1, .ints p.2.2.1])) ety22 Tryd.underlying22 (fun _ => rfl) (fun _ => rfl) (.plain rfl) rfl (.plain rfl) rfl ?_) rfl (.n (fun _ => op_fieldAddrR Tryd.underlying24 rfl rfl Tryd.sizeOf22 (.plain rfl)) (.e (op_storeR Tryd.sizeOf22 (.plain rfl) (.plain rfl) rfl (by first | decide | exact Nat.le_of_ble_eq_true rfl) rfl (by simp) (fun i h => by cases h; exact ⟨_, _, _, _, _, _, rfl⟩)) rfl (.nil _)))))))))))) ?_
          · (try simp only [foldN, foldR, foldL, Int.toNat_natCast])
            show 1 + 1 ≤ _
            omega
          · (try simp only [foldN, foldR, foldL, Int.toNat_natCast])
            first | omega | (simp; omega)
          refine awp_region rfl (.n (fun _ => op_move (.plain rfl)) (.n (fun _ => op_move (.plain rfl)) (.n (fun _ => op_add (.plain rfl) (.plain rfl) ?_) (.n (fun _ => op_add (.plain rfl) (.plain rfl) ?_) (.n (fun _ => op_assign (.plain rfl)) (.nil _)))))) ?_
          · (try simp only [foldN, foldR, foldL, Int.toNat_natCast])
            unfold InR; omega
          · (try simp only [foldN, foldR, foldL, Int.toNat_natCast])
            unfold InR; omega
          refine awp_region rfl (.n (fun _ => op_move (.plain rfl)) (.n (fun _ => op_add (.plain rfl) (.plain rfl) ?_) (.n (fun _ => op_assign (.plain rfl)) (.nil _)))) ?_
          · (try simp only [foldN, foldR, foldL, Int.toNat_natCast])
            unfold InR; omega
          exact ⟨i + 1, by omega, by dsimp only; omega, (Ent.round 113 2002 ⟨rfl, rfl, rfl, rfl, rfl, rfl, (congrArg (fun n : Int => some (SV.int n)) (by unfold rK; rw [Nat.succ_mul]; omega)), rfl, trivial⟩ ⟨rfl, rfl, (congrArg (fun l => some (Blk.arr 48 3 (ByteArray × Int × List Int × Unit) (ByteArray.empty, 0, [], ()) (fun p => [.str p.1, .i p.2.1, .ints p.2.2.1]) l)) (by rw [mapr_succ]; unfold rightA roomV; first | (rw [← cut_yes h1, if_pos rfl]; done) | (rw [← cut_no h1, if_pos rfl]; done) | (rw [← cut_yes h1, if_neg Bool.false_ne_true]; done) | (rw [← cut_no h1, if_neg Bool.false_ne_true]; done) | (rw [← cut_yes h1, if_pos rfl]; rfl) | (rw [← cut_no h1, if_pos rfl]; rfl) | (rw [← cut_yes h1, if_neg Bool.false_ne_true]; rfl) | (rw [← cut_no h1, if_neg Bool.false_ne_true]; rfl))), rfl, trivial⟩ rfl rfl rfl ⟨rfl, rfl, rfl, rfl, rfl, rfl, rfl, rfl, trivial⟩ ⟨rfl, rfl, rfl, rfl, trivial⟩)⟩
        · (try simp only [decide_eq_true_eq, decide_eq_false_iff_not, Bool.and_eq_true, Bool.or_eq_true, Bool.and_eq_false_iff, Bool.or_eq_false_iff, Bool.not_eq_true', Bool.not_eq_false', Bool.not_eq_true, Bool.not_eq_false, Bool.true_eq_false, Bool.false_eq_true] at h); (try simp only [foldN, foldR, foldL, Int.toNat_natCast] at h)
          subst h
          refine awp_skip ?_
          refine awp_seq ?_
          refine awp_region rfl (.n (fun _ => op_move (.plain rfl)) (.n (fun _ => op_call1 Tryd.call51 (.plain rfl) (Of_fc i _ ?_ ?_)) (.n (fun _ => op_call1 Tryd.call50 (.plain rfl) (Text_fc i ?_)) (.n (fun _ => op_assign (.plain rfl)) (.nil _))))) ?_
          · (try simp only [foldN, foldR, foldL, Int.toNat_natCast])
            try (first | rfl | omega)
          · (try simp only [foldN, foldR, foldL, Int.toNat_natCast])
            omega
          · (try simp only [foldN, foldR, foldL, Int.toNat_natCast])
            omega
          refine awp_seq ?_
          refine awp_region rfl (.n (fun _ => op_fieldAddrR Tryd.underlying24 rfl rfl Tryd.sizeOf22 (.plain rfl)) (.r (op_loadR Tryd.isAgg22 (.plain rfl) rfl rfl) (.n (fun _ => op_move (.plain rfl)) (.n (fun _ => op_addS (.plain rfl) (.plain rfl) ?_) (.n (fun _ => op_move (.plain rfl)) (.n (fun _ => op_move (.plain rfl)) (.n (fun _ => op_build (pp := [(0, _), (1, _), (2, _)]) (places := #[(0, 1), (1, 1), (2, 1)]) Tryd.underlying48 Tryd.zeroValue48 rfl (by intro w; kernel_rfl) ⟨rfl, (.plain rfl), (by simp), rfl, (.plain rfl), (by simp), rfl, (.plain rfl), (by simp), trivial⟩ rfl) (.n (fun _ => op_slit1 (pp := [(0, _)]) (α := (ByteArray × Int × List Int × Unit)) (d := (ByteArray.empty, 0, [], ())) (f := (fun p => [.str p.1, .i p.2.1, .ints p.2.2.1])) (_, _, _, ()) ety22 rfl ⟨rfl, (.plain rfl), (by simp), trivial⟩ rfl (by decide)) (.e (op_append (id' := 113) (α := (ByteArray × Int × List Int × Unit)) (d := (ByteArray.empty, 0, [], ())) (f := (fun p => [.str p.1, .i p.2.1, .ints p.2.2.1])) ety22 Tryd.underlying22 (fun _ => rfl) (fun _ => rfl) (.plain rfl) rfl (.plain rfl) rfl ?_) rfl (.n (fun _ => op_fieldAddrR Tryd.underlying24 rfl rfl Tryd.sizeOf22 (.plain rfl)) (.e (op_storeR Tryd.sizeOf22 (.plain rfl) (.plain rfl) rfl (by first | decide | exact Nat.le_of_ble_eq_true rfl) rfl (by simp) (fun i h => by cases h; exact ⟨_, _, _, _, _, _, rfl⟩)) rfl (.nil _)))))))))))) ?_
          · (try simp only [foldN, foldR, foldL, Int.toNat_natCast])
            show 1 + 1 ≤ _
            omega
          · (try simp only [foldN, foldR, foldL, Int.toNat_natCast])
            first | omega | (simp; omega)
          refine awp_region rfl (.n (fun _ => op_move (.plain rfl)) (.n (fun _ => op_move (.plain rfl)) (.n (fun _ => op_add (.plain rfl) (.plain rfl) ?_) (.n (fun _ => op_add (.plain rfl) (.plain rfl) ?_) (.n (fun _ => op_assign (.plain rfl)) (.nil _)))))) ?_
          · (try simp only [foldN, foldR, foldL, Int.toNat_natCast])
            unfold InR; omega
          · (try simp only [foldN, foldR, foldL, Int.toNat_natCast])
            unfold InR; omega
          refine awp_region rfl (.n (fun _ => op_move (.plain rfl)) (.n (fun _ => op_add (.plain rfl) (.plain rfl) ?_) (.n (fun _ => op_assign (.plain rfl)) (.nil _)))) ?_
          · (try simp only [foldN, foldR, foldL, Int.toNat_natCast])
            unfold InR; omega
          exact ⟨i + 1, by omega, by dsimp only; omega, (Ent.round 113 2002 ⟨rfl, rfl, rfl, rfl, rfl, rfl, (congrArg (fun n : Int => some (SV.int n)) (by unfold rK; rw [Nat.succ_mul]; omega)), rfl, trivial⟩ ⟨rfl, rfl, (congrArg (fun l => some (Blk.arr 48 3 (ByteArray × Int × List Int × Unit) (ByteArray.empty, 0, [], ()) (fun p => [.str p.1, .i p.2.1, .ints p.2.2.1]) l)) (by rw [mapr_succ]; unfold rightA roomV; first | (rw [← cut_yes h1, if_pos rfl]; done) | (rw [← cut_no h1, if_pos rfl]; done) | (rw [← cut_yes h1, if_neg Bool.false_ne_true]; done) | (rw [← cut_no h1, if_neg Bool.false_ne_true]; done) | (rw [← cut_yes h1, if_pos rfl]; rfl) | (rw [← cut_no h1, if_pos rfl]; rfl) | (rw [← cut_yes h1, if_neg Bool.false_ne_true]; rfl) | (rw [← cut_no h1, if_neg Bool.false_ne_true]; rfl))), rfl, trivial⟩ rfl rfl rfl ⟨rfl, rfl, rfl, rfl, rfl, rfl, rfl, rfl, trivial⟩ ⟨rfl, rfl, rfl, rfl, trivial⟩)⟩
      · (try simp only [decide_eq_true_eq, decide_eq_false_iff_not, Bool.and_eq_true, Bool.or_eq_true, Bool.and_eq_false_iff, Bool.or_eq_false_iff, Bool.not_eq_true', Bool.not_eq_false', Bool.not_eq_true, Bool.not_eq_false, Bool.true_eq_false, Bool.false_eq_true] at h); (try simp only [foldN, foldR, foldL, Int.toNat_natCast] at h)
        have h1 := h
        clear h
        refine awp_skip ?_
        refine awp_seq ?_
        refine awp_region rfl (.n (fun _ => op_move (.plain rfl)) (.n (fun _ => op_move (.plain rfl)) (.n (fun _ => op_move (.plain rfl)) (.n (fun _ => op_add (.plain rfl) (.plain rfl) ?_) (.n (fun _ => op_add (.plain rfl) (.plain rfl) ?_) (.n (fun _ => op_call2 Tryd.call28 (.plain rfl) (.plain rfl) (At_fc raw ((rK (sideN l most) (sideN r most) i) + (sideN l most) + 1))) (.n (fun _ => op_call2 Tryd.call26 (.plain rfl) (.plain rfl) (Pick_fc _ _ ?_)) (.n (fun _ => op_add (.plain rfl) (.plain rfl) ?_) (.n (fun _ => op_assign (.plain rfl)) (.nil _)))))))))) ?_
        · (try simp only [foldN, foldR, foldL, Int.toNat_natCast])
          unfold InR; omega
        · (try simp only [foldN, foldR, foldL, Int.toNat_natCast])
          unfold InR; omega
        · (try simp only [foldN, foldR, foldL, Int.toNat_natCast])
          omega
        · (try simp only [foldN, foldR, foldL, Int.toNat_natCast])
          have hpk := pickF_range (atF raw ((rK (sideN l most) (sideN r most) i) + (sideN l most) + 1)) 2 (by omega)
          unfold InR; omega
        refine awp_seq ?_
        refine awp_seq ?_
        refine awp_region rfl (.n (fun _ => op_move (.plain rfl)) (.nil _)) ?_
        refine awp_cond rfl (fun h => ?_) (fun h => ?_)
        · (try simp only [decide_eq_true_eq, decide_eq_false_iff_not, Bool.and_eq_true, Bool.or_eq_true, Bool.and_eq_false_iff, Bool.or_eq_false_iff, Bool.not_eq_true', Bool.not_eq_false', Bool.not_eq_true, Bool.not_eq_false, Bool.true_eq_false, Bool.false_eq_true] at h); (try simp only [foldN, foldR, foldL, Int.toNat_natCast] at h)
          subst h
          refine awp_region rfl (.n (fun _ => op_assign (.plain rfl)) (.nil _)) ?_
          refine awp_seq ?_
          refine awp_region rfl (.n (fun _ => op_move (.plain rfl)) (.n (fun _ => op_call1 Tryd.call51 (.plain rfl) (Of_fc i _ ?_ ?_)) (.n (fun _ => op_call1 Tryd.call50 (.plain rfl) (Text_fc i ?_)) (.n (fun _ => op_assign (.plain rfl)) (.nil _))))) ?_
          · (try simp only [foldN, foldR, foldL, Int.toNat_natCast])
            try (first | rfl | omega)
          · (try simp only [foldN, foldR, foldL, Int.toNat_natCast])
            omega
          · (try simp only [foldN, foldR, foldL, Int.toNat_natCast])
            omega
          refine awp_seq ?_
          refine awp_region rfl (.n (fun _ => op_fieldAddrR Tryd.underlying24 rfl rfl Tryd.sizeOf22 (.plain rfl)) (.r (op_loadR Tryd.isAgg22 (.plain rfl) rfl rfl) (.n (fun _ => op_move (.plain rfl)) (.n (fun _ => op_addS (.plain rfl) (.plain rfl) ?_) (.n (fun _ => op_move (.plain rfl)) (.n (fun _ => op_move (.plain rfl)) (.n (fun _ => op_build (pp := [(0, _), (1, _), (2, _)]) (places := #[(0, 1), (1, 1), (2, 1)]) Tryd.underlying48 Tryd.zeroValue48 rfl (by intro w; kernel_rfl) ⟨rfl, (.plain rfl), (by simp), rfl, (.plain rfl), (by simp), rfl, (.plain rfl), (by simp), trivial⟩ rfl) (.n (fun _ => op_slit1 (pp := [(0, _)]) (α := (ByteArray × Int × List Int × Unit)) (d := (ByteArray.empty, 0, [], ())) (f := (fun p => [.str p.1, .i p.2.1, .ints p.2.2.1])) (_, _, _, ()) ety22 rfl ⟨rfl, (.plain rfl), (by simp), trivial⟩ rfl (by decide)) (.e (op_append (id' := 113) (α := (ByteArray × Int × List Int × Unit)) (d := (ByteArray.empty, 0, [], ())) (f := (fun p => [.str p.1, .i p.2.1, .ints p.2.2.1])) ety22 Tryd.underlying22 (fun _ => rfl) (fun _ => rfl) (.plain rfl) rfl (.plain rfl) rfl ?_) rfl (.n (fun _ => op_fieldAddrR Tryd.underlying24 rfl rfl Tryd.sizeOf22 (.plain rfl)) (.e (op_storeR Tryd.sizeOf22 (.plain rfl) (.plain rfl) rfl (by first | decide | exact Nat.le_of_ble_eq_true rfl) rfl (by simp) (fun i h => by cases h; exact ⟨_, _, _, _, _, _, rfl⟩)) rfl (.nil _)))))))))))) ?_
          · (try simp only [foldN, foldR, foldL, Int.toNat_natCast])
            show 1 + 1 ≤ _
            omega
          · (try simp only [foldN, foldR, foldL, Int.toNat_natCast])
            first | omega | (simp; omega)
          refine awp_region rfl (.n (fun _ => op_move (.plain rfl)) (.n (fun _ => op_move (.plain rfl)) (.n (fun _ => op_add (.plain rfl) (.plain rfl) ?_) (.n (fun _ => op_add (.plain rfl) (.plain rfl) ?_) (.n (fun _ => op_assign (.plain rfl)) (.nil _)))))) ?_
          · (try simp only [foldN, foldR, foldL, Int.toNat_natCast])
            unfold InR; omega
          · (try simp only [foldN, foldR, foldL, Int.toNat_natCast])
            unfold InR; omega
          refine awp_region rfl (.n (fun _ => op_move (.plain rfl)) (.n (fun _ => op_add (.plain rfl) (.plain rfl) ?_) (.n (fun _ => op_assign (.plain rfl)) (.nil _)))) ?_
          · (try simp only [foldN, foldR, foldL, Int.toNat_natCast])
            unfold InR; omega
          exact ⟨i + 1, by omega, by dsimp only; omega, (Ent.round 113 2002 ⟨rfl, rfl, rfl, rfl, rfl, rfl, (congrArg (fun n : Int => some (SV.int n)) (by unfold rK; rw [Nat.succ_mul]; omega)), rfl, trivial⟩ ⟨rfl, rfl, (congrArg (fun l => some (Blk.arr 48 3 (ByteArray × Int × List Int × Unit) (ByteArray.empty, 0, [], ()) (fun p => [.str p.1, .i p.2.1, .ints p.2.2.1]) l)) (by rw [mapr_succ]; unfold rightA roomV; first | (rw [← cut_yes h1, if_pos rfl]; done) | (rw [← cut_no h1, if_pos rfl]; done) | (rw [← cut_yes h1, if_neg Bool.false_ne_true]; done) | (rw [← cut_no h1, if_neg Bool.false_ne_true]; done) | (rw [← cut_yes h1, if_pos rfl]; rfl) | (rw [← cut_no h1, if_pos rfl]; rfl) | (rw [← cut_yes h1, if_neg Bool.false_ne_true]; rfl) | (rw [← cut_no h1, if_neg Bool.false_ne_true]; rfl))), rfl, trivial⟩ rfl rfl rfl ⟨rfl, rfl, rfl, rfl, rfl, rfl, rfl, rfl, trivial⟩ ⟨rfl, rfl, rfl, rfl, trivial⟩)⟩
        · (try simp only [decide_eq_true_eq, decide_eq_false_iff_not, Bool.and_eq_true, Bool.or_eq_true, Bool.and_eq_false_iff, Bool.or_eq_false_iff, Bool.not_eq_true', Bool.not_eq_false', Bool.not_eq_true, Bool.not_eq_false, Bool.true_eq_false, Bool.false_eq_true] at h); (try simp only [foldN, foldR, foldL, Int.toNat_natCast] at h)
          subst h
          refine awp_skip ?_
          refine awp_seq ?_
          refine awp_region rfl (.n (fun _ => op_move (.plain rfl)) (.n (fun _ => op_call1 Tryd.call51 (.plain rfl) (Of_fc i _ ?_ ?_)) (.n (fun _ => op_call1 Tryd.call50 (.plain rfl) (Text_fc i ?_)) (.n (fun _ => op_assign (.plain rfl)) (.nil _))))) ?_
          · (try simp only [foldN, foldR, foldL, Int.toNat_natCast])
            try (first | rfl | omega)
          · (try simp only [foldN, foldR, foldL, Int.toNat_natCast])
            omega
          · (try simp only [foldN, foldR, foldL, Int.toNat_natCast])
            omega
          refine awp_seq ?_
          refine awp_region rfl (.n (fun _ => op_fieldAddrR Tryd.underlying24 rfl rfl Tryd.sizeOf22 (.plain rfl)) (.r (op_loadR Tryd.isAgg22 (.plain rfl) rfl rfl) (.n (fun _ => op_move (.plain rfl)) (.n (fun _ => op_addS (.plain rfl) (.plain rfl) ?_) (.n (fun _ => op_move (.plain rfl)) (.n (fun _ => op_move (.plain rfl)) (.n (fun _ => op_build (pp := [(0, _), (1, _), (2, _)]) (places := #[(0, 1), (1, 1), (2, 1)]) Tryd.underlying48 Tryd.zeroValue48 rfl (by intro w; kernel_rfl) ⟨rfl, (.plain rfl), (by simp), rfl, (.plain rfl), (by simp), rfl, (.plain rfl), (by simp), trivial⟩ rfl) (.n (fun _ => op_slit1 (pp := [(0, _)]) (α := (ByteArray × Int × List Int × Unit)) (d := (ByteArray.empty, 0, [], ())) (f := (fun p => [.str p.1, .i p.2.1, .ints p.2.2.1])) (_, _, _, ()) ety22 rfl ⟨rfl, (.plain rfl), (by simp), trivial⟩ rfl (by decide)) (.e (op_append (id' := 113) (α := (ByteArray × Int × List Int × Unit)) (d := (ByteArray.empty, 0, [], ())) (f := (fun p => [.str p.1, .i p.2.1, .ints p.2.2.1])) ety22 Tryd.underlying22 (fun _ => rfl) (fun _ => rfl) (.plain rfl) rfl (.plain rfl) rfl ?_) rfl (.n (fun _ => op_fieldAddrR Tryd.underlying24 rfl rfl Tryd.sizeOf22 (.plain rfl)) (.e (op_storeR Tryd.sizeOf22 (.plain rfl) (.plain rfl) rfl (by first | decide | exact Nat.le_of_ble_eq_true rfl) rfl (by simp) (fun i h => by cases h; exact ⟨_, _, _, _, _, _, rfl⟩)) rfl (.nil _)))))))))))) ?_
          · (try simp only [foldN, foldR, foldL, Int.toNat_natCast])
            show 1 + 1 ≤ _
            omega
          · (try simp only [foldN, foldR, foldL, Int.toNat_natCast])
            first | omega | (simp; omega)
          refine awp_region rfl (.n (fun _ => op_move (.plain rfl)) (.n (fun _ => op_move (.plain rfl)) (.n (fun _ => op_add (.plain rfl) (.plain rfl) ?_) (.n (fun _ => op_add (.plain rfl) (.plain rfl) ?_) (.n (fun _ => op_assign (.plain rfl)) (.nil _)))))) ?_
          · (try simp only [foldN, foldR, foldL, Int.toNat_natCast])
            unfold InR; omega
          · (try simp only [foldN, foldR, foldL, Int.toNat_natCast])
            unfold InR; omega
          refine awp_region rfl (.n (fun _ => op_move (.plain rfl)) (.n (fun _ => op_add (.plain rfl) (.plain rfl) ?_) (.n (fun _ => op_assign (.plain rfl)) (.nil _)))) ?_
          · (try simp only [foldN, foldR, foldL, Int.toNat_natCast])
            unfold InR; omega
          exact ⟨i + 1, by omega, by dsimp only; omega, (Ent.round 113 2002 ⟨rfl, rfl, rfl, rfl, rfl, rfl, (congrArg (fun n : Int => some (SV.int n)) (by unfold rK; rw [Nat.succ_mul]; omega)), rfl, trivial⟩ ⟨rfl, rfl, (congrArg (fun l => some (Blk.arr 48 3 (ByteArray × Int × List Int × Unit) (ByteArray.empty, 0, [], ()) (fun p => [.str p.1, .i p.2.1, .ints p.2.2.1]) l)) (by rw [mapr_succ]; unfold rightA roomV; first | (rw [← cut_yes h1, if_pos rfl]; done) | (rw [← cut_no h1, if_pos rfl]; done) | (rw [← cut_yes h1, if_neg Bool.false_ne_true]; done) | (rw [← cut_no h1, if_neg Bool.false_ne_true]; done) | (rw [← cut_yes h1, if_pos rfl]; rfl) | (rw [← cut_no h1, if_pos rfl]; rfl) | (rw [← cut_yes h1, if_neg Bool.false_ne_true]; rfl) | (rw [← cut_no h1, if_neg Bool.false_ne_true]; rfl))), rfl, trivial⟩ rfl rfl rfl ⟨rfl, rfl, rfl, rfl, rfl, rfl, rfl, rfl, trivial⟩ ⟨rfl, rfl, rfl, rfl, trivial⟩)⟩
    · (try simp only [decide_eq_true_eq, decide_eq_false_iff_not, Bool.and_eq_true, Bool.or_eq_true, Bool.and_eq_false_iff, Bool.or_eq_false_iff, Bool.not_eq_true', Bool.not_eq_false', Bool.not_eq_true, Bool.not_eq_false, Bool.true_eq_false, Bool.false_eq_true] at h); (try simp only [foldN, foldR, foldL, Int.toNat_natCast] at h)
      refine awp_exit ?_
      refine awp_seq ?_
      refine awp_ent (Ent.giveB 11 0 2001 rfl rfl rfl) ?_
      refine awp_ent (Ent.giveB 11 1 2002 rfl rfl rfl) ?_
      refine awp_region rfl (.r (op_loadRA Tryd.isAgg24 Tryd.sizeOf24 (.plain rfl) rfl (by first | (simp; done) | exact Nat.le_of_ble_eq_true rfl) rfl) (.e (op_storeRA Tryd.sizeOf24 (.plain rfl) (.plain rfl) rfl rfl (Nat.le_of_ble_eq_true rfl) rfl) rfl (.nil _))) ?_
      refine awp_ret ?_
      refine retQ.ret ?_
      refine retC rfl rfl Tryd.isAgg24 Tryd.sizeOf24 ?_
      have e : i = (sideN r most) := by omega
      subst e
      rfl

set_option maxRecDepth 1000000 in
set_option maxHeartbeats 1000000 in
theorem MatchMade_fc (raw : List Int) (l r : Int) : FC Tryd.prog 5 [.ints raw, .i l, .i r] (.bool true) := by
  refine FC.intro Tryd.func5 rfl (Nat.le_of_ble_eq_true rfl) fun hfit => ?_
  obtain ⟨fitl0, fitr0⟩ := (hfit _ (.head _)).ints
  have fit1 : -9223372036854775808 ≤ (l : Int) ∧ (l : Int) ≤ 9223372036854775807 := (hfit _ (.tail _ (.head _))).int64
  have fit2 : -9223372036854775808 ≤ (r : Int) ∧ (r : Int) ≤ 9223372036854775807 := (hfit _ (.tail _ (.tail _ (.head _)))).int64
  refine awp_seq ?_
  refine awp_region rfl (.n (fun _ => op_assign (.plain rfl)) (.nil _)) ?_
  refine awp_seq ?_
  refine awp_seq ?_
  refine awp_region rfl (.n (fun _ => op_move (.plain rfl)) (.n (fun _ => op_len (s := 0) Tryd.underlying25 (.plain rfl)) (.n (fun _ => op_gtr (.plain rfl) (.plain rfl)) (.nil _)))) ?_
  refine awp_cond rfl (fun h => ?_) (fun h => ?_)
  · (try simp only [decide_eq_true_eq, decide_eq_false_iff_not, Bool.and_eq_true, Bool.or_eq_true, Bool.and_eq_false_iff, Bool.or_eq_false_iff, Bool.not_eq_true', Bool.not_eq_false', Bool.not_eq_true, Bool.not_eq_false, Bool.true_eq_false, Bool.false_eq_true] at h); (try simp only [foldN, foldR, foldL, Int.toNat_natCast] at h)
    refine awp_seq ?_
    refine awp_region rfl (.n (fun _ => op_assign (.plain rfl)) (.nil _)) ?_
    refine awp_ret ?_
    refine retQ.ret ?_
    refine ret1 rfl rfl rfl ?_
    rfl
  · (try simp only [decide_eq_true_eq, decide_eq_false_iff_not, Bool.and_eq_true, Bool.or_eq_true, Bool.and_eq_false_iff, Bool.or_eq_false_iff, Bool.not_eq_true', Bool.not_eq_false', Bool.not_eq_true, Bool.not_eq_false, Bool.true_eq_false, Bool.false_eq_true] at h); (try simp only [foldN, foldR, foldL, Int.toNat_natCast] at h)
    refine awp_skip ?_
    refine awp_seq ?_
    refine awp_region rfl (.n (fun _ => op_move (.plain rfl)) (.n (fun _ => op_move (.plain rfl)) (.n (fun _ => op_move (.plain rfl)) (.n (fun _ => op_call5 Tryd.call25 (.plain rfl) (.plain rfl) (.plain rfl) (.plain rfl) (.plain rfl) (Sides_fc _ _ _ _ _ ?_)) (.n (fun _ => op_call1 Tryd.call4 (.plain rfl) (MatchFinds_fc _ _)) (.n (fun _ => op_assign (.plain rfl)) (.nil _))))))) ?_
    · (try simp only [foldN, foldR, foldL, Int.toNat_natCast])
      omega
    refine awp_ret ?_
    refine retQ.ret ?_
    refine ret1 rfl rfl rfl ?_
    rfl

end Go.Proofs.YtpapnkphlmickaaDoor

