/- Trees and choices that are made of raw numbers; what TreeMade says. Conditions: each theorem names its own. -/
import Derived.Test.YtamdkclkmijfgaaProg
import Derived.Test.YtamdkclkmijfgaaFi
namespace Go.Proofs.Ytamdkclkmijfgaa
open Go.Abs
set_option linter.unusedVariables false
set_option linter.unusedSimpArgs false


section
def kF (raw : List Int) (i : Nat) : Nat := (1 + pickF (atF raw (3 * i)) 3).toNat
theorem kF_eq (raw : List Int) (i : Nat) : 1 + pickF (atF raw (3 * i)) 3 = (kF raw i : Nat) ∧ 1 ≤ kF raw i ∧ kF raw i ≤ 3 := by
  have := pickF_range (atF raw (3 * i)) 3 (by omega); unfold kF; omega
def toS (raw : List Int) (P inner : Int) : Nat → Nat × List Nd
  | 0 => (1, [])
  | i + 1 => if (i : Int) < inner ∧ ((toS raw P inner i).1 : Int) + (kF raw i : Nat) ≤ 40 then
      ((toS raw P inner i).1 + kF raw i, (toS raw P inner i).2 ++ [(pickF (atF raw (3 * i + 1)) P, mapr (kF raw i) fun j => (((toS raw P inner i).1 + j : Nat) : Int), [], ())])
    else ((toS raw P inner i).1, (toS raw P inner i).2 ++ [(0, [], mapr P.toNat fun j => pickF (atF raw (3 * i + j)) 9 - 4, ())])
variable {raw : List Int} {P inner : Int}
def toP (raw : List Int) (P inner : Int) (i : Nat) : Bool := decide ((toS raw P inner i).1 ≤ i)
def toE (raw : List Int) (P inner : Int) : Nat := (firstI (toP raw P inner) 50).getD 0
def toN (raw : List Int) (P inner : Int) : List Nd := (toS raw P inner (toE raw P inner)).2
theorem toS_len : ∀ i, (toS raw P inner i).2.length = i
  | 0 => rfl
  | i + 1 => by unfold toS; split <;> simp [toS_len i]
theorem toS_next : ∀ i, 1 ≤ (toS raw P inner i).1 ∧ (toS raw P inner i).1 ≤ 40
  | 0 => by simp [toS]
  | i + 1 => by
    have := toS_next i
    unfold toS; split
    · rename_i h; simp only; omega
    · exact this
theorem to_i {i : Nat} (h : firstI (toP raw P inner) i = none) : i ≤ 40 ∧ i ≤ (toS raw P inner i).1 := by
  cases i with
  | zero => omega
  | succ i =>
    have h1 := firstI_none h i (by omega)
    have h2 : ¬ (toS raw P inner i).1 ≤ i := by unfold toP at h1; simpa using h1
    have h3 := (toS_next (raw := raw) (P := P) (inner := inner) i).2
    have h4 : (toS raw P inner i).1 ≤ (toS raw P inner (i + 1)).1 := by
      rw [toS]; split <;> simp
    omega
theorem to_at {i : Nat} (h : firstI (toP raw P inner) i = none) (hi : ¬ (i : Int) < (toS raw P inner i).1) : (toS raw P inner i).2 = toN raw P inner := by
  have := to_i h
  unfold toN toE
  rw [firstI_stop (k := i) h (by unfold toP; simp; omega) (by omega)]; rfl
theorem to_end (raw : List Int) (P inner : Int) : ∃ i, firstI (toP raw P inner) i = none ∧ (toS raw P inner i).1 = i ∧ toN raw P inner = (toS raw P inner i).2 := by
  have : ∃ i, firstI (toP raw P inner) 50 = some i := by
    cases e : firstI (toP raw P inner) 50 with
    | some i => exact ⟨i, rfl⟩
    | none => have := to_i e; omega
  obtain ⟨i, hi⟩ := this
  have hs := firstI_spec hi
  have hn := firstI_of hs.2.2
  have h1 := to_i hn
  have h2 : (toS raw P inner i).1 ≤ i := by have := hs.2.1; unfold toP at this; simpa using this
  refine ⟨i, hn, by omega, ?_⟩
  unfold toN toE; rw [hi]; rfl
theorem toN_len (raw : List Int) (P inner : Int) : 1 ≤ (toN raw P inner).length ∧ (toN raw P inner).length ≤ 40 := by
  obtain ⟨i, _, h2, h3⟩ := to_end raw P inner
  have := toS_next (raw := raw) (P := P) (inner := inner) i
  rw [h3, toS_len]; omega
theorem to_in {i : Nat} (h : (i : Int) < inner ∧ ((toS raw P inner i).1 : Int) + (1 + pickF (atF raw (3 * i)) 3) ≤ 40) {j : Nat} (hj : j ≤ kF raw i) (hj2 : ¬ (j : Int) < 1 + pickF (atF raw (3 * i)) 3) :
    (toS raw P inner i).2 ++ [(pickF (atF raw (3 * i + 1)) P, mapr j fun j => (((toS raw P inner i).1 + j : Nat) : Int), [], ())] = (toS raw P inner (i + 1)).2 ∧ (((toS raw P inner i).1 + j : Nat) : Int) = ((toS raw P inner (i + 1)).1 : Nat) := by
  have hk := kF_eq raw i
  obtain rfl : j = kF raw i := by omega
  rw [toS, if_pos ⟨h.1, by omega⟩]; exact ⟨rfl, rfl⟩
theorem to_out {i : Nat} (h : ¬ ((i : Int) < inner ∧ ((toS raw P inner i).1 : Int) + (1 + pickF (atF raw (3 * i)) 3) ≤ 40)) {j : Nat} (hj : (j : Nat) = P.toNat) :
    (toS raw P inner i).2 ++ [(0, [], mapr j fun j => pickF (atF raw (3 * i + j)) 9 - 4, ())] = (toS raw P inner (i + 1)).2 ∧ (((toS raw P inner i).1 : Nat) : Int) = ((toS raw P inner (i + 1)).1 : Nat) := by
  have hk := kF_eq raw i
  subst hj
  rw [toS, if_neg fun c => h ⟨c.1, by omega⟩]; exact ⟨rfl, rfl⟩
def coF (N : List Nd) (raw : List Int) (i : Nat) : Int := if 0 < ((kidsF N i).length : Int) then pickF (atF raw i) ((kidsF N i).length : Nat) else 0
def coL (N : List Nd) (raw : List Int) : List Int := mapr N.length (coF N raw)
theorem co_in {N : List Nd} {i : Nat} (h : 0 < ((kidsF N i).length : Int)) : (mapr i (coF N raw)) ++ [pickF (atF raw i) ((kidsF N i).length : Nat)] = mapr (i + 1) (coF N raw) := by rw [mapr_succ]; unfold coF; rw [if_pos h]
theorem co_out {N : List Nd} {i : Nat} (h : ¬ 0 < ((kidsF N i).length : Int)) : (mapr i (coF N raw)) ++ [0] = mapr (i + 1) (coF N raw) := by
  rw [mapr_succ]
  have : coF N raw i = 0 := if_neg h
  rw [this]
end

theorem Pick_fc (c n : Int) (hn : 1 ≤ n) : FC Try.prog 21 [.i c, .i n] (.i (pickF c n)) := by
  refine FC.intro Try.func21 rfl (Nat.le_of_ble_eq_true rfl) fun hfit => ?_
  have fit0 : -9223372036854775808 ≤ (c : Int) ∧ (c : Int) ≤ 9223372036854775807 := (hfit _ (.head _)).int64
  have fit1 : -9223372036854775808 ≤ (n : Int) ∧ (n : Int) ≤ 9223372036854775807 := (hfit _ (.tail _ (.head _))).int64
  refine awp_seq ?_
  refine awp_region rfl (.n (fun _ => op_assign (.plain rfl)) (.nil _)) ?_
  refine awp_seq ?_
  refine awp_seq ?_
  refine awp_region rfl (.n (fun _ => op_move (.plain rfl)) (.n (fun _ => op_lss (.plain rfl) (.plain rfl)) (.nil _))) ?_
  refine awp_cond rfl (fun h => ?_) (fun h => ?_)
  · (try simp only [decide_eq_true_eq, decide_eq_false_iff_not, Bool.and_eq_true, Bool.or_eq_true, Bool.and_eq_false_iff, Bool.or_eq_false_iff, Bool.not_eq_true', Bool.not_eq_false', Bool.not_eq_true, Bool.not_eq_false, Bool.true_eq_false, Bool.false_eq_true] at h); (try simp only [foldK, foldP, foldL] at h)
    refine awp_region rfl (.n (fun _ => op_move (.plain rfl)) (.n (fun _ => op_add (.plain rfl) (.plain rfl) ?_) (.n (fun _ => op_neg (.plain rfl) ?_) (.n (fun _ => op_assign (.plain rfl)) (.nil _))))) ?_
    · (try simp only [foldK, foldP, foldL, Int.toNat_natCast])
      unfold InR; omega
    · (try simp only [foldK, foldP, foldL, Int.toNat_natCast])
      unfold InR; omega
    refine awp_seq ?_
    refine awp_region rfl (.n (fun _ => op_move (.plain rfl)) (.n (fun _ => op_move (.plain rfl)) (.n (fun _ => op_rem (.plain rfl) (.plain rfl) ?_) (.n (fun _ => op_assign (.plain rfl)) (.nil _))))) ?_
    · (try simp only [foldK, foldP, foldL, Int.toNat_natCast])
      omega
    refine awp_ret ?_
    refine retQ.ret ?_
    refine ret1 rfl rfl rfl ?_
    unfold pickF; rw [if_pos h]
  · (try simp only [decide_eq_true_eq, decide_eq_false_iff_not, Bool.and_eq_true, Bool.or_eq_true, Bool.and_eq_false_iff, Bool.or_eq_false_iff, Bool.not_eq_true', Bool.not_eq_false', Bool.not_eq_true, Bool.not_eq_false, Bool.true_eq_false, Bool.false_eq_true] at h); (try simp only [foldK, foldP, foldL] at h)
    refine awp_skip ?_
    refine awp_seq ?_
    refine awp_region rfl (.n (fun _ => op_move (.plain rfl)) (.n (fun _ => op_move (.plain rfl)) (.n (fun _ => op_rem (.plain rfl) (.plain rfl) ?_) (.n (fun _ => op_assign (.plain rfl)) (.nil _))))) ?_
    · (try simp only [foldK, foldP, foldL, Int.toNat_natCast])
      omega
    refine awp_ret ?_
    refine retQ.ret ?_
    refine ret1 rfl rfl rfl ?_
    unfold pickF; rw [if_neg h]

theorem At_fc (raw : List Int) (k : Nat) : FC Try.prog 39 [.ints raw, .i (k : Nat)] (.i (atF raw k)) := by
  refine FC.intro Try.func39 rfl (Nat.le_of_ble_eq_true rfl) fun hfit => ?_
  obtain ⟨fitl0, fitr0⟩ := (hfit _ (.head _)).ints
  have fit1 : -9223372036854775808 ≤ ((k : Nat) : Int) ∧ ((k : Nat) : Int) ≤ 9223372036854775807 := (hfit _ (.tail _ (.head _))).int64
  refine awp_seq ?_
  refine awp_region rfl (.n (fun _ => op_assign (.plain rfl)) (.nil _)) ?_
  refine awp_seq ?_
  refine awp_seq ?_
  refine awp_region rfl (.n (fun _ => op_move (.plain rfl)) (.n (fun _ => op_len (s := 0) Try.underlying25 (.plain rfl)) (.n (fun _ => op_eql (.plain rfl) (.plain rfl)) (.nil _)))) ?_
  refine awp_cond rfl (fun h => ?_) (fun h => ?_)
  · (try simp only [decide_eq_true_eq, decide_eq_false_iff_not, Bool.and_eq_true, Bool.or_eq_true, Bool.and_eq_false_iff, Bool.or_eq_false_iff, Bool.not_eq_true', Bool.not_eq_false', Bool.not_eq_true, Bool.not_eq_false, Bool.true_eq_false, Bool.false_eq_true] at h); (try simp only [foldK, foldP, foldL] at h)
    refine awp_seq ?_
    refine awp_region rfl (.n (fun _ => op_assign (.plain rfl)) (.nil _)) ?_
    refine awp_ret ?_
    refine retQ.ret ?_
    refine ret1 rfl rfl rfl ?_
    unfold atF; rw [if_pos (by omega)]
  · (try simp only [decide_eq_true_eq, decide_eq_false_iff_not, Bool.and_eq_true, Bool.or_eq_true, Bool.and_eq_false_iff, Bool.or_eq_false_iff, Bool.not_eq_true', Bool.not_eq_false', Bool.not_eq_true, Bool.not_eq_false, Bool.true_eq_false, Bool.false_eq_true] at h); (try simp only [foldK, foldP, foldL] at h)
    refine awp_skip ?_
    refine awp_seq ?_
    refine awp_region rfl (.n (fun _ => op_move (.plain rfl)) (.n (fun _ => op_move (.plain rfl)) (.n (fun _ => op_move (.plain rfl)) (.n (fun _ => op_len (s := 0) Try.underlying25 (.plain rfl)) (.n (fun _ => op_rem (.plain rfl) (.plain rfl) ?_) (.n (fun _ => op_indexAddr Try.underlying25 Try.sizeOf3 (.plain rfl) (.plain rfl) (fun _ => rfl) ?_) (.n (fun _ => op_load Try.isAgg3 (.plain rfl)) (.n (fun _ => op_assign (.plain rfl)) (.nil _))))))))) ?_
    · (try simp only [foldK, foldP, foldL, Int.toNat_natCast])
      omega
    · (try simp only [foldK, foldP, foldL, Int.toNat_natCast])
      exact ⟨Int.emod_nonneg _ (by omega), Int.emod_lt_of_pos _ (by omega)⟩
    refine awp_ret ?_
    refine retQ.ret ?_
    refine ret1 rfl rfl rfl ?_
    unfold atF; rw [if_neg (by omega), ← Int.natCast_emod, Int.toNat_natCast]

theorem TreeOf_fc (raw : List Int) (P inner : Int) (hP : 1 ≤ P ∧ P ≤ 5) : FC Try.prog 22 [.ints raw, .i P, .i inner] (.agg [.i P, .seq (Int × List Int × List Int × Unit) (0, [], [], ()) (fun p => [.i p.1, .ints p.2.1, .ints p.2.2.1]) (toN raw P inner)]) := by
  refine FC.intro Try.func22 rfl (Nat.le_of_ble_eq_true rfl) fun hfit => ?_
  obtain ⟨fitl0, fitr0⟩ := (hfit _ (.head _)).ints
  have fit1 : -9223372036854775808 ≤ (P : Int) ∧ (P : Int) ≤ 9223372036854775807 := (hfit _ (.tail _ (.head _))).int64
  have fit2 : -9223372036854775808 ≤ (inner : Int) ∧ (inner : Int) ≤ 9223372036854775807 := (hfit _ (.tail _ (.tail _ (.head _)))).int64
  refine awp_seq ?_
  refine awp_region rfl (.e (op_alloc 6 Try.zeroValue24 rfl rfl rfl) rfl (.nil _)) ?_
  refine awp_seq ?_
  refine awp_region rfl (.n (fun _ => op_move (.plain rfl)) (.n (fun _ => op_build (pp := [(0, _)]) (places := #[(0, 1), (1, 1)]) Try.underlying24 Try.zeroValue24 rfl (by intro w; kernel_rfl) ⟨rfl, (.plain rfl), (by simp), trivial⟩ rfl) (.e (op_alloc 7 Try.zeroValue24 rfl rfl rfl) rfl (.e (op_storeRA Try.sizeOf24 (.plain rfl) (.plain rfl) rfl rfl (Nat.le_of_ble_eq_true rfl) rfl) rfl (.nil _))))) ?_
  refine awp_seq ?_
  refine awp_region rfl (.n (fun _ => op_assign (.plain rfl)) (.nil _)) ?_
  refine awp_seq ?_
  refine awp_seq ?_
  refine awp_region rfl (.n (fun _ => op_assign (.plain rfl)) (.nil _)) ?_
  refine awp_block ?_
  refine awp_ent (Ent.beginB 7 1 2007 51 3 (Int × List Int × List Int × Unit) (0, [], [], ()) (fun p => [.i p.1, .ints p.2.1, .ints p.2.2.1]) rfl rfl (by decide) rfl rfl) ?_
  refine awp_loop (σ := Nat) (fun (i : Nat) => firstI (toP raw P inner) i = none) (fun (i : Nat) => ⟨[(0, .pv (.ints raw)), (1, .int P), (2, .int inner), (6, .ref 6 0), (7, .ref 7 0), (8, .int ((toS raw P inner i).1 : Nat)), (9, .int (i : Nat))], [(6, .box [.int 0, .pv .nil]), (7, .box [.int P, .own 2007]), (2007, .arr 51 3 (Int × List Int × List Int × Unit) (0, [], [], ()) (fun p => [.i p.1, .ints p.2.1, .ints p.2.2.1]) (toS raw P inner i).2)]⟩) (fun (i : Nat) => 41 - i) 0 ?_ (Ent.kept ⟨rfl, rfl, rfl, rfl, rfl, rfl, rfl, trivial⟩ ⟨rfl, rfl, rfl, trivial⟩) ?_
  · exact rfl
  rintro i hp
  try dsimp only at hp
  have hE := hp
  have hti := to_i hE
  have hnx := toS_next (raw := raw) (P := P) (inner := inner) i
  refine awp_seq ?_
  refine awp_seq ?_
  refine awp_region rfl (.n (fun _ => op_move (.plain rfl)) (.n (fun _ => op_move (.plain rfl)) (.n (fun _ => op_lss (.plain rfl) (.plain rfl)) (.nil _)))) ?_
  refine awp_cond rfl (fun h => ?_) (fun h => ?_)
  · (try simp only [decide_eq_true_eq, decide_eq_false_iff_not, Bool.and_eq_true, Bool.or_eq_true, Bool.and_eq_false_iff, Bool.or_eq_false_iff, Bool.not_eq_true', Bool.not_eq_false', Bool.not_eq_true, Bool.not_eq_false, Bool.true_eq_false, Bool.false_eq_true] at h); (try simp only [foldK, foldP, foldL] at h)
    have hk := kF_eq raw i
    have hr1 := pickF_range (atF raw (3 * i)) 3 (by omega)
    refine awp_skip ?_
    refine awp_seq ?_
    refine awp_block ?_
    refine awp_seq ?_
    refine awp_region rfl (.n (fun _ => op_build (pp := []) (places := #[(0, 1), (1, 1), (2, 1)]) Try.underlying51 Try.zeroValue51 rfl (by intro w; kernel_rfl) trivial rfl) (.e (op_alloc 10 Try.zeroValue51 rfl rfl rfl) rfl (.e (op_storeRA Try.sizeOf51 (.plain rfl) (.plain rfl) rfl rfl (Nat.le_of_ble_eq_true rfl) rfl) rfl (.nil _)))) ?_
    refine awp_seq ?_
    refine awp_region rfl (.n (fun _ => op_move (.plain rfl)) (.n (fun _ => op_move (.plain rfl)) (.n (fun _ => op_mul (.plain rfl) (.plain rfl) ?_) (.n (fun _ => op_call2 Try.call39 (.plain rfl) (.plain rfl) (At_fc _ (3 * i))) (.n (fun _ => op_call2 Try.call21 (.plain rfl) (.plain rfl) (Pick_fc _ _ ?_)) (.n (fun _ => op_add (.plain rfl) (.plain rfl) ?_) (.n (fun _ => op_assign (.plain rfl)) (.nil _)))))))) ?_
    · (try simp only [foldK, foldP, foldL, Int.toNat_natCast])
      unfold InR; omega
    · (try simp only [foldK, foldP, foldL, Int.toNat_natCast])
      omega
    · (try simp only [foldK, foldP, foldL, Int.toNat_natCast])
      unfold InR; omega
    refine awp_seq ?_
    refine awp_seq ?_
    refine awp_region rfl (.n (fun _ => op_move (.plain rfl)) (.n (fun _ => op_move (.plain rfl)) (.n (fun _ => op_lss (.plain rfl) (.plain rfl)) (.n (fun _ => op_move (.plain rfl)) (.gn rfl rfl (fun hg _ => op_move (.plain rfl)) (.gn rfl rfl (fun hg _ => op_move (.plain rfl)) (.gn rfl rfl (fun hg _ => op_add (.opt rfl fun h => h) (.opt rfl fun h => h) ?_) (.gn rfl rfl (fun hg _ => op_leq (.opt rfl fun h => h) (.plain rfl)) (.n (fun _ => op_and (.plain rfl) (.plain rfl) (.plain rfl) (fun h => eqT h)) (.nil _)))))))))) ?_
    · try simp only [beq_iff_eq, beq_true, beq_false, Bool.and_eq_true, decide_eq_true_eq, decide_eq_false_iff_not, Bool.not_eq_true', Bool.or_eq_true, Bool.or_eq_false_iff] at hg
      (try simp only [foldK, foldP, foldL, Int.toNat_natCast])
      unfold InR; omega
    refine awp_cond rfl (fun h => ?_) (fun h => ?_)
    · (try simp only [decide_eq_true_eq, decide_eq_false_iff_not, Bool.and_eq_true, Bool.or_eq_true, Bool.and_eq_false_iff, Bool.or_eq_false_iff, Bool.not_eq_true', Bool.not_eq_false', Bool.not_eq_true, Bool.not_eq_false, Bool.true_eq_false, Bool.false_eq_true] at h); (try simp only [foldK, foldP, foldL] at h)
      have hb := h
      refine awp_seq ?_
      refine awp_region rfl (.n (fun _ => op_move (.plain rfl)) (.n (fun _ => op_move (.plain rfl)) (.n (fun _ => op_mul (.plain rfl) (.plain rfl) ?_) (.n (fun _ => op_add (.plain rfl) (.plain rfl) ?_) (.n (fun _ => op_call2 Try.call39 (.plain rfl) (.plain rfl) (At_fc _ (3 * i + 1))) (.n (fun _ => op_move (.plain rfl)) (.n (fun _ => op_call2 Try.call21 (.plain rfl) (.plain rfl) (Pick_fc _ _ ?_)) (.n (fun _ => op_fieldAddrR Try.underlying51 rfl rfl Try.sizeOf3 (.plain rfl)) (.e (op_storeR Try.sizeOf3 (.plain rfl) (.plain rfl) rfl (by first | decide | exact Nat.le_of_ble_eq_true rfl) rfl (by simp) (by simp)) rfl (.nil _)))))))))) ?_
      · (try simp only [foldK, foldP, foldL, Int.toNat_natCast])
        unfold InR; omega
      · (try simp only [foldK, foldP, foldL, Int.toNat_natCast])
        unfold InR; omega
      · (try simp only [foldK, foldP, foldL, Int.toNat_natCast])
        omega
      refine awp_seq ?_
      refine awp_region rfl (.n (fun _ => op_assign (.plain rfl)) (.nil _)) ?_
      refine awp_block ?_
      refine awp_ent (Ent.beginB 10 1 2010 3 1 Int 0 (fun n => [.int .i64 n]) rfl rfl (by decide) rfl rfl) ?_
      refine awp_loop (σ := Nat) (fun (j : Nat) => j ≤ kF raw i) (fun (j : Nat) => ⟨[(0, .pv (.ints raw)), (1, .int P), (2, .int inner), (6, .ref 6 0), (7, .ref 7 0), (8, .int ((toS raw P inner i).1 + j : Nat)), (9, .int (i : Nat)), (10, .ref 10 0), (11, .int (1 + pickF (atF raw (3 * i)) 3)), (12, .int (j : Nat))], [(6, .box [.int 0, .pv .nil]), (7, .box [.int P, .own 2007]), (2007, .arr 51 3 (Int × List Int × List Int × Unit) (0, [], [], ()) (fun p => [.i p.1, .ints p.2.1, .ints p.2.2.1]) (toS raw P inner i).2), (10, .box [.int (pickF (atF raw (3 * i + 1)) P), .own 2010, .pv .nil]), (2010, .arr 3 1 Int 0 (fun n => [.int .i64 n]) (mapr j fun j => (((toS raw P inner i).1 + j : Nat) : Int)))]⟩) (fun (j : Nat) => kF raw i - j) 0 ?_ (Ent.kept ⟨rfl, rfl, rfl, rfl, rfl, rfl, rfl, rfl, rfl, rfl, trivial⟩ ⟨rfl, rfl, rfl, rfl, rfl, trivial⟩) ?_
      · exact Nat.zero_le _
      rintro j hp
      try dsimp only at hp
      have hj := hp
      refine awp_seq ?_
      refine awp_seq ?_
      refine awp_region rfl (.n (fun _ => op_move (.plain rfl)) (.n (fun _ => op_move (.plain rfl)) (.n (fun _ => op_lss (.plain rfl) (.plain rfl)) (.nil _)))) ?_
      refine awp_cond rfl (fun h => ?_) (fun h => ?_)
      · (try simp only [decide_eq_true_eq, decide_eq_false_iff_not, Bool.and_eq_true, Bool.or_eq_true, Bool.and_eq_false_iff, Bool.or_eq_false_iff, Bool.not_eq_true', Bool.not_eq_false', Bool.not_eq_true, Bool.not_eq_false, Bool.true_eq_false, Bool.false_eq_true] at h); (try simp only [foldK, foldP, foldL] at h)
        refine awp_skip ?_
        refine awp_seq ?_
        refine awp_block ?_
        refine awp_seq ?_
        refine awp_region rfl (.n (fun _ => op_fieldAddrR Try.underlying51 rfl rfl Try.sizeOf25 (.plain rfl)) (.r (op_loadR Try.isAgg25 (.plain rfl) rfl rfl) (.n (fun _ => op_move (.plain rfl)) (.n (fun _ => op_slit (pp := [(0, _)]) (α := Int) (d := 0) (f := (fun n => [.int .i64 n])) [_] ety25 rfl ⟨rfl, (.plain rfl), (by simp), trivial⟩ rfl (by decide) rfl) (.e (op_append (id' := 55) (α := Int) (d := 0) (f := (fun n => [.int .i64 n])) ety25 Try.underlying25 (fun _ => rfl) (fun _ => rfl) (.plain rfl) rfl (.plain rfl) rfl ?_) rfl (.n (fun _ => op_fieldAddrR Try.underlying51 rfl rfl Try.sizeOf25 (.plain rfl)) (.e (op_storeR Try.sizeOf25 (.plain rfl) (.plain rfl) rfl (by first | decide | exact Nat.le_of_ble_eq_true rfl) rfl (by simp) (fun i h => by cases h; exact ⟨_, _, _, _, _, _, rfl⟩)) rfl (.nil _)))))))) ?_
        · (try simp only [foldK, foldP, foldL, Int.toNat_natCast])
          first | omega | (simp; omega)
        refine awp_region rfl (.n (fun _ => op_move (.plain rfl)) (.n (fun _ => op_add (.plain rfl) (.plain rfl) ?_) (.n (fun _ => op_assign (.plain rfl)) (.nil _)))) ?_
        · (try simp only [foldK, foldP, foldL, Int.toNat_natCast])
          unfold InR; omega
        refine awp_region rfl (.n (fun _ => op_move (.plain rfl)) (.n (fun _ => op_add (.plain rfl) (.plain rfl) ?_) (.n (fun _ => op_assign (.plain rfl)) (.nil _)))) ?_
        · (try simp only [foldK, foldP, foldL, Int.toNat_natCast])
          unfold InR; omega
        exact ⟨j + 1, by omega, by dsimp only; omega, (Ent.round 55 2010 ⟨rfl, rfl, rfl, rfl, rfl, (congrArg (fun n => some (SV.int n)) (by omega)), rfl, rfl, rfl, rfl, trivial⟩ ⟨rfl, rfl, rfl, rfl, (congrArg (fun l => some (Blk.arr 3 1 Int 0 (fun n => [.int .i64 n]) l)) ((mapr_succ j fun j => (((toS raw P inner i).1 + j : Nat) : Int)).symm)), trivial⟩ rfl rfl rfl ⟨rfl, rfl, rfl, rfl, rfl, rfl, rfl, rfl, rfl, rfl, trivial⟩ ⟨rfl, rfl, rfl, rfl, rfl, trivial⟩)⟩
      · (try simp only [decide_eq_true_eq, decide_eq_false_iff_not, Bool.and_eq_true, Bool.or_eq_true, Bool.and_eq_false_iff, Bool.or_eq_false_iff, Bool.not_eq_true', Bool.not_eq_false', Bool.not_eq_true, Bool.not_eq_false, Bool.true_eq_false, Bool.false_eq_true] at h); (try simp only [foldK, foldP, foldL] at h)
        refine awp_exit ?_
        first | (refine awp_ent (Ent.giveB 10 1 2010 rfl rfl rfl) ?_; refine awp_ent (Ent.beginB 10 2 7000 3 1 Int 0 (fun n => [.int .i64 n]) rfl rfl (by decide) rfl rfl) ?_; refine awp_ent (Ent.giveB 10 2 7000 rfl rfl rfl) ?_) | (refine awp_ent (Ent.giveB 10 2 2011 rfl rfl rfl) ?_; refine awp_ent (Ent.beginB 10 1 7000 3 1 Int 0 (fun n => [.int .i64 n]) rfl rfl (by decide) rfl rfl) ?_; refine awp_ent (Ent.giveB 10 1 7000 rfl rfl rfl) ?_)
        refine awp_region rfl (.n (fun _ => op_fieldAddrR Try.underlying24 rfl rfl Try.sizeOf22 (.plain rfl)) (.r (op_loadR Try.isAgg22 (.plain rfl) rfl rfl) (.r (op_loadRA Try.isAgg51 Try.sizeOf51 (.plain rfl) rfl (by simp) rfl) (.n (fun _ => op_slit1 (pp := [(0, _)]) (α := (Int × List Int × List Int × Unit)) (d := (0, [], [], ())) (f := (fun p => [.i p.1, .ints p.2.1, .ints p.2.2.1])) (_, _, _, ()) ety22 rfl ⟨rfl, (.plain rfl), (by simp), trivial⟩ rfl (by decide)) (.e (op_append (id' := 82) (α := (Int × List Int × List Int × Unit)) (d := (0, [], [], ())) (f := (fun p => [.i p.1, .ints p.2.1, .ints p.2.2.1])) ety22 Try.underlying22 (fun _ => rfl) (fun _ => rfl) (.plain rfl) rfl (.plain rfl) rfl ?_) rfl (.n (fun _ => op_fieldAddrR Try.underlying24 rfl rfl Try.sizeOf22 (.plain rfl)) (.e (op_storeR Try.sizeOf22 (.plain rfl) (.plain rfl) rfl (by first | decide | exact Nat.le_of_ble_eq_true rfl) rfl (by simp) (fun i h => by cases h; exact ⟨_, _, _, _, _, _, rfl⟩)) rfl (.nil _)))))))) ?_
        · (try simp only [foldK, foldP, foldL, Int.toNat_natCast])
          have := toS_len (raw := raw) (P := P) (inner := inner) i; simp only [List.length_cons, List.length_nil]; omega
        refine awp_region rfl (.n (fun _ => op_move (.plain rfl)) (.n (fun _ => op_add (.plain rfl) (.plain rfl) ?_) (.n (fun _ => op_assign (.plain rfl)) (.nil _)))) ?_
        · (try simp only [foldK, foldP, foldL, Int.toNat_natCast])
          unfold InR; omega
        exact ⟨i + 1, firstI_succ hE (decide_eq_false (by omega)), by dsimp only; omega, (Ent.round 82 2007 ⟨rfl, rfl, rfl, rfl, rfl, (by first | exact (congrArg (fun n => some (SV.int n)) ((to_in hb hj (by omega)).2)) | exact (congrArg (fun n => some (SV.int n)) ((to_out hb (j := j) (by omega)).2))), rfl, trivial⟩ ⟨rfl, rfl, (by first | exact (congrArg (fun l => some (Blk.arr 51 3 (Int × List Int × List Int × Unit) (0, [], [], ()) (fun p => [.i p.1, .ints p.2.1, .ints p.2.2.1]) l)) ((to_in hb hj (by omega)).1)) | exact (congrArg (fun l => some (Blk.arr 51 3 (Int × List Int × List Int × Unit) (0, [], [], ()) (fun p => [.i p.1, .ints p.2.1, .ints p.2.2.1]) l)) ((to_out hb (by omega)).1))), trivial⟩ rfl rfl rfl ⟨rfl, rfl, rfl, rfl, rfl, rfl, rfl, trivial⟩ ⟨rfl, rfl, rfl, trivial⟩)⟩
    · (try simp only [decide_eq_true_eq, decide_eq_false_iff_not, Bool.and_eq_true, Bool.or_eq_true, Bool.and_eq_false_iff, Bool.or_eq_false_iff, Bool.not_eq_true', Bool.not_eq_false', Bool.not_eq_true, Bool.not_eq_false, Bool.true_eq_false, Bool.false_eq_true] at h); (try simp only [foldK, foldP, foldL] at h)
      have hb : ¬ ((i : Int) < inner ∧ ((toS raw P inner i).1 : Int) + (1 + pickF (atF raw (3 * i)) 3) ≤ 40) := fun c => h.elim (fun n => n c.1) fun n => n c.2
      refine awp_seq ?_
      refine awp_region rfl (.n (fun _ => op_assign (.plain rfl)) (.nil _)) ?_
      refine awp_block ?_
      refine awp_ent (Ent.beginB 10 2 2011 3 1 Int 0 (fun n => [.int .i64 n]) rfl rfl (by decide) rfl rfl) ?_
      refine awp_loop (σ := Nat) (fun (j : Nat) => j ≤ P.toNat) (fun (j : Nat) => ⟨[(0, .pv (.ints raw)), (1, .int P), (2, .int inner), (6, .ref 6 0), (7, .ref 7 0), (8, .int ((toS raw P inner i).1 : Nat)), (9, .int (i : Nat)), (10, .ref 10 0), (13, .int (j : Nat))], [(6, .box [.int 0, .pv .nil]), (7, .box [.int P, .own 2007]), (2007, .arr 51 3 (Int × List Int × List Int × Unit) (0, [], [], ()) (fun p => [.i p.1, .ints p.2.1, .ints p.2.2.1]) (toS raw P inner i).2), (10, .box [.int 0, .pv .nil, .own 2011]), (2011, .arr 3 1 Int 0 (fun n => [.int .i64 n]) (mapr j fun j => pickF (atF raw (3 * i + j)) 9 - 4))]⟩) (fun (j : Nat) => P.toNat - j) 0 ?_ (Ent.kept ⟨rfl, rfl, rfl, rfl, rfl, rfl, rfl, rfl, rfl, trivial⟩ ⟨rfl, rfl, rfl, rfl, rfl, trivial⟩) ?_
      · exact Nat.zero_le _
      rintro j hp
      try dsimp only at hp
      have hj := hp
      refine awp_seq ?_
      refine awp_seq ?_
      refine awp_region rfl (.n (fun _ => op_move (.plain rfl)) (.n (fun _ => op_move (.plain rfl)) (.n (fun _ => op_lss (.plain rfl) (.plain rfl)) (.nil _)))) ?_
      refine awp_cond rfl (fun h => ?_) (fun h => ?_)
      · (try simp only [decide_eq_true_eq, decide_eq_false_iff_not, Bool.and_eq_true, Bool.or_eq_true, Bool.and_eq_false_iff, Bool.or_eq_false_iff, Bool.not_eq_true', Bool.not_eq_false', Bool.not_eq_true, Bool.not_eq_false, Bool.true_eq_false, Bool.false_eq_true] at h); (try simp only [foldK, foldP, foldL] at h)
        refine awp_skip ?_
        refine awp_seq ?_
        refine awp_block ?_
        refine awp_seq ?_
        refine awp_region rfl (.n (fun _ => op_move (.plain rfl)) (.n (fun _ => op_move (.plain rfl)) (.n (fun _ => op_mul (.plain rfl) (.plain rfl) ?_) (.n (fun _ => op_move (.plain rfl)) (.n (fun _ => op_add (.plain rfl) (.plain rfl) ?_) (.n (fun _ => op_call2 Try.call39 (.plain rfl) (.plain rfl) (At_fc _ (3 * i + j))) (.n (fun _ => op_call2 Try.call21 (.plain rfl) (.plain rfl) (Pick_fc _ _ ?_)) (.n (fun _ => op_assign (.plain rfl)) (.nil _))))))))) ?_
        · (try simp only [foldK, foldP, foldL, Int.toNat_natCast])
          unfold InR; omega
        · (try simp only [foldK, foldP, foldL, Int.toNat_natCast])
          unfold InR; omega
        · (try simp only [foldK, foldP, foldL, Int.toNat_natCast])
          omega
        refine awp_region rfl (.n (fun _ => op_fieldAddrR Try.underlying51 rfl rfl Try.sizeOf25 (.plain rfl)) (.r (op_loadR Try.isAgg25 (.plain rfl) rfl rfl) (.n (fun _ => op_move (.plain rfl)) (.n (fun _ => op_sub (.plain rfl) (.plain rfl) ?_) (.n (fun _ => op_slit (pp := [(0, _)]) (α := Int) (d := 0) (f := (fun n => [.int .i64 n])) [_] ety25 rfl ⟨rfl, (.plain rfl), (by simp), trivial⟩ rfl (by decide) rfl) (.e (op_append (id' := 76) (α := Int) (d := 0) (f := (fun n => [.int .i64 n])) ety25 Try.underlying25 (fun _ => rfl) (fun _ => rfl) (.plain rfl) rfl (.plain rfl) rfl ?_) rfl (.n (fun _ => op_fieldAddrR Try.underlying51 rfl rfl Try.sizeOf25 (.plain rfl)) (.e (op_storeR Try.sizeOf25 (.plain rfl) (.plain rfl) rfl (by first | decide | exact Nat.le_of_ble_eq_true rfl) rfl (by simp) (fun i h => by cases h; exact ⟨_, _, _, _, _, _, rfl⟩)) rfl (.nil _))))))))) ?_
        · (try simp only [foldK, foldP, foldL, Int.toNat_natCast])
          have := pickF_range (atF raw (3 * i + j)) 9 (by omega); unfold InR; omega
        · (try simp only [foldK, foldP, foldL, Int.toNat_natCast])
          first | omega | (simp; omega)
        refine awp_region rfl (.n (fun _ => op_move (.plain rfl)) (.n (fun _ => op_add (.plain rfl) (.plain rfl) ?_) (.n (fun _ => op_assign (.plain rfl)) (.nil _)))) ?_
        · (try simp only [foldK, foldP, foldL, Int.toNat_natCast])
          unfold InR; omega
        exact ⟨j + 1, by omega, by dsimp only; omega, (Ent.round 76 2011 ⟨rfl, rfl, rfl, rfl, rfl, rfl, rfl, rfl, rfl, trivial⟩ ⟨rfl, rfl, rfl, rfl, (congrArg (fun l => some (Blk.arr 3 1 Int 0 (fun n => [.int .i64 n]) l)) ((mapr_succ j fun j => pickF (atF raw (3 * i + j)) 9 - 4).symm)), trivial⟩ rfl rfl rfl ⟨rfl, rfl, rfl, rfl, rfl, rfl, rfl, rfl, rfl, trivial⟩ ⟨rfl, rfl, rfl, rfl, rfl, trivial⟩)⟩
      · (try simp only [decide_eq_true_eq, decide_eq_false_iff_not, Bool.and_eq_true, Bool.or_eq_true, Bool.and_eq_false_iff, Bool.or_eq_false_iff, Bool.not_eq_true', Bool.not_eq_false', Bool.not_eq_true, Bool.not_eq_false, Bool.true_eq_false, Bool.false_eq_true] at h); (try simp only [foldK, foldP, foldL] at h)
        refine awp_exit ?_
        first | (refine awp_ent (Ent.giveB 10 1 2010 rfl rfl rfl) ?_; refine awp_ent (Ent.beginB 10 2 7000 3 1 Int 0 (fun n => [.int .i64 n]) rfl rfl (by decide) rfl rfl) ?_; refine awp_ent (Ent.giveB 10 2 7000 rfl rfl rfl) ?_) | (refine awp_ent (Ent.giveB 10 2 2011 rfl rfl rfl) ?_; refine awp_ent (Ent.beginB 10 1 7000 3 1 Int 0 (fun n => [.int .i64 n]) rfl rfl (by decide) rfl rfl) ?_; refine awp_ent (Ent.giveB 10 1 7000 rfl rfl rfl) ?_)
        refine awp_region rfl (.n (fun _ => op_fieldAddrR Try.underlying24 rfl rfl Try.sizeOf22 (.plain rfl)) (.r (op_loadR Try.isAgg22 (.plain rfl) rfl rfl) (.r (op_loadRA Try.isAgg51 Try.sizeOf51 (.plain rfl) rfl (by simp) rfl) (.n (fun _ => op_slit1 (pp := [(0, _)]) (α := (Int × List Int × List Int × Unit)) (d := (0, [], [], ())) (f := (fun p => [.i p.1, .ints p.2.1, .ints p.2.2.1])) (_, _, _, ()) ety22 rfl ⟨rfl, (.plain rfl), (by simp), trivial⟩ rfl (by decide)) (.e (op_append (id' := 82) (α := (Int × List Int × List Int × Unit)) (d := (0, [], [], ())) (f := (fun p => [.i p.1, .ints p.2.1, .ints p.2.2.1])) ety22 Try.underlying22 (fun _ => rfl) (fun _ => rfl) (.plain rfl) rfl (.plain rfl) rfl ?_) rfl (.n (fun _ => op_fieldAddrR Try.underlying24 rfl rfl Try.sizeOf22 (.plain rfl)) (.e (op_storeR Try.sizeOf22 (.plain rfl) (.plain rfl) rfl (by first | decide | exact Nat.le_of_ble_eq_true rfl) rfl (by simp) (fun i h => by cases h; exact ⟨_, _, _, _, _, _, rfl⟩)) rfl (.nil _)))))))) ?_
        · (try simp only [foldK, foldP, foldL, Int.toNat_natCast])
          have := toS_len (raw := raw) (P := P) (inner := inner) i; simp only [List.length_cons, List.length_nil]; omega
        refine awp_region rfl (.n (fun _ => op_move (.plain rfl)) (.n (fun _ => op_add (.plain rfl) (.plain rfl) ?_) (.n (fun _ => op_assign (.plain rfl)) (.nil _)))) ?_
        · (try simp only [foldK, foldP, foldL, Int.toNat_natCast])
          unfold InR; omega
        exact ⟨i + 1, firstI_succ hE (decide_eq_false (by omega)), by dsimp only; omega, (Ent.round 82 2007 ⟨rfl, rfl, rfl, rfl, rfl, (by first | exact (congrArg (fun n => some (SV.int n)) ((to_in hb hj (by omega)).2)) | exact (congrArg (fun n => some (SV.int n)) ((to_out hb (j := j) (by omega)).2))), rfl, trivial⟩ ⟨rfl, rfl, (by first | exact (congrArg (fun l => some (Blk.arr 51 3 (Int × List Int × List Int × Unit) (0, [], [], ()) (fun p => [.i p.1, .ints p.2.1, .ints p.2.2.1]) l)) ((to_in hb hj (by omega)).1)) | exact (congrArg (fun l => some (Blk.arr 51 3 (Int × List Int × List Int × Unit) (0, [], [], ()) (fun p => [.i p.1, .ints p.2.1, .ints p.2.2.1]) l)) ((to_out hb (by omega)).1))), trivial⟩ rfl rfl rfl ⟨rfl, rfl, rfl, rfl, rfl, rfl, rfl, trivial⟩ ⟨rfl, rfl, rfl, trivial⟩)⟩
  · (try simp only [decide_eq_true_eq, decide_eq_false_iff_not, Bool.and_eq_true, Bool.or_eq_true, Bool.and_eq_false_iff, Bool.or_eq_false_iff, Bool.not_eq_true', Bool.not_eq_false', Bool.not_eq_true, Bool.not_eq_false, Bool.true_eq_false, Bool.false_eq_true] at h); (try simp only [foldK, foldP, foldL] at h)
    refine awp_exit ?_
    refine awp_seq ?_
    refine awp_ent (Ent.giveB 7 1 2007 rfl rfl rfl) ?_
    refine awp_region rfl (.r (op_loadRA Try.isAgg24 Try.sizeOf24 (.plain rfl) rfl (by simp) rfl) (.e (op_storeRA Try.sizeOf24 (.plain rfl) (.plain rfl) rfl rfl (Nat.le_of_ble_eq_true rfl) rfl) rfl (.nil _))) ?_
    refine awp_ret ?_
    refine retQ.ret ?_
    refine retC rfl rfl Try.isAgg24 Try.sizeOf24 ?_
    exact congrArg (fun l => PV.agg [.i P, .seq (Int × List Int × List Int × Unit) (0, [], [], ()) (fun p => [.i p.1, .ints p.2.1, .ints p.2.2.1]) l]) (to_at hE (by omega))

theorem ChoicesOf_fc (P : Int) (N : List Nd) (raw : List Int) (hn : N.length ≤ 40) : FC Try.prog 23 [.agg [.i P, .seq (Int × List Int × List Int × Unit) (0, [], [], ()) (fun p => [.i p.1, .ints p.2.1, .ints p.2.2.1]) N], .ints raw] (.ints (coL N raw)) := by
  refine FC.intro Try.func23 rfl (Nat.le_of_ble_eq_true rfl) fun hfit => ?_
  have fit0 := hfit _ (.head _)
  obtain ⟨fitl1, fitr1⟩ := (hfit _ (.tail _ (.head _))).ints
  have hfl : N.length ≤ 281474976710656 := by cases fit0 with | agg _ h => exact (h 1 (by simp)).len
  have hfp : ∀ i, i < N.length → (payF N i).length ≤ 281474976710656 ∧ (kidsF N i).length ≤ 281474976710656 := fun i hi => by cases fit0 with | agg _ h => exact ⟨((h 1 (by simp)).elem (getD_mem (0, [], [], ()) hi) (c := .ints (payF N i)) (List.mem_cons_of_mem _ (List.mem_cons_of_mem _ List.mem_cons_self))).len, ((h 1 (by simp)).elem (getD_mem (0, [], [], ()) hi) (c := .ints (kidsF N i)) (List.mem_cons_of_mem _ List.mem_cons_self)).len⟩
  refine awp_seq ?_
  refine awp_region rfl (.n (fun _ => op_box (.plain rfl) (by simp)) (.n (fun _ => op_assign (.plain rfl)) (.nil _))) ?_
  refine awp_seq ?_
  refine awp_region rfl (.n (fun _ => op_assign (.plain rfl)) (.nil _)) ?_
  refine awp_seq ?_
  refine awp_seq ?_
  refine awp_region rfl (.n (fun _ => op_assign (.plain rfl)) (.nil _)) ?_
  refine awp_block ?_
  refine awp_ent (Ent.begin 5 1005 3 1 Int 0 (fun n => [.int .i64 n]) rfl rfl rfl) ?_
  refine awp_loop (σ := Nat) (fun (i : Nat) => i ≤ N.length) (fun (i : Nat) => ⟨[(1, .pv (.ints raw)), (2, .pv (.rd [.i P, .seq (Int × List Int × List Int × Unit) (0, [], [], ()) (fun p => [.i p.1, .ints p.2.1, .ints p.2.2.1]) N])), (5, .own 1005), (6, .int (i : Nat))], [(1005, .arr 3 1 Int 0 (fun n => [.int .i64 n]) (mapr i (coF N raw)))]⟩) (fun (i : Nat) => N.length - i) 0 ?_ (Ent.kept ⟨rfl, rfl, rfl, rfl, trivial⟩ ⟨rfl, trivial⟩) ?_
  · exact Nat.zero_le _
  rintro i hp
  try dsimp only at hp
  have hi := hp
  refine awp_seq ?_
  refine awp_seq ?_
  refine awp_region rfl (.n (fun _ => op_move (.plain rfl)) (.n (fun _ => op_fieldAddr Try.underlying24 rfl rfl Try.sizeOf22 (.plain rfl)) (.n (fun _ => op_load Try.isAgg22 (.plain rfl)) (.n (fun _ => op_len (s := 0) Try.underlying22 (.plain rfl)) (.n (fun _ => op_lss (.plain rfl) (.plain rfl)) (.nil _)))))) ?_
  refine awp_cond rfl (fun h => ?_) (fun h => ?_)
  · (try simp only [decide_eq_true_eq, decide_eq_false_iff_not, Bool.and_eq_true, Bool.or_eq_true, Bool.and_eq_false_iff, Bool.or_eq_false_iff, Bool.not_eq_true', Bool.not_eq_false', Bool.not_eq_true, Bool.not_eq_false, Bool.true_eq_false, Bool.false_eq_true] at h); (try simp only [foldK, foldP, foldL] at h)
    have hfi := hfp i (by omega)
    refine awp_skip ?_
    refine awp_seq ?_
    refine awp_block ?_
    refine awp_seq ?_
    refine awp_region rfl (.n (fun _ => op_assign (.plain rfl)) (.nil _)) ?_
    refine awp_seq ?_
    refine awp_seq ?_
    refine awp_region rfl (.n (fun _ => op_fieldAddr Try.underlying24 rfl rfl Try.sizeOf22 (.plain rfl)) (.n (fun _ => op_load Try.isAgg22 (.plain rfl)) (.n (fun _ => op_move (.plain rfl)) (.n (fun _ => op_indexAddrN Try.underlying22 Try.sizeOf51 (.plain rfl) (.plain rfl) (fun _ => rfl) ?_) (.n (fun _ => op_fieldAddr Try.underlying51 rfl rfl Try.sizeOf25 (.plain rfl)) (.n (fun _ => op_load Try.isAgg25 (.plain rfl)) (.n (fun _ => op_len (s := 0) Try.underlying25 (.plain rfl)) (.n (fun _ => op_gtr (.plain rfl) (.plain rfl)) (.nil _))))))))) ?_
    · (try simp only [foldK, foldP, foldL, Int.toNat_natCast])
      omega
    refine awp_cond rfl (fun h => ?_) (fun h => ?_)
    · (try simp only [decide_eq_true_eq, decide_eq_false_iff_not, Bool.and_eq_true, Bool.or_eq_true, Bool.and_eq_false_iff, Bool.or_eq_false_iff, Bool.not_eq_true', Bool.not_eq_false', Bool.not_eq_true, Bool.not_eq_false, Bool.true_eq_false, Bool.false_eq_true] at h); (try simp only [foldK, foldP, foldL] at h)
      have hb : 0 < ((kidsF N i).length : Int) := h
      refine awp_region_draw mixed rfl (.n (fun _ => op_move (.plain rfl)) (.n (fun _ => op_move (.plain rfl)) (.n (fun _ => op_call2 Try.call39 (.plain rfl) (.plain rfl) (At_fc _ i)) (.n (fun _ => op_fieldAddr Try.underlying24 rfl rfl Try.sizeOf22 (.plain rfl)) (.n (fun _ => op_load Try.isAgg22 (.plain rfl)) (.n (fun _ => op_move (.plain rfl)) (.n (fun _ => op_indexAddrN Try.underlying22 Try.sizeOf51 (.plain rfl) (.plain rfl) (fun _ => rfl) ?_) (.n (fun _ => op_fieldAddr Try.underlying51 rfl rfl Try.sizeOf25 (.plain rfl)) (.n (fun _ => op_load Try.isAgg25 (.plain rfl)) (.n (fun _ => op_len (s := 0) Try.underlying25 (.plain rfl)) (.n (fun _ => op_call2 Try.call21 (.plain rfl) (.plain rfl) (Pick_fc _ _ ?_)) (.n (fun _ => op_assign (.plain rfl)) (.nil _))))))))))))) ?d1 ?_
      · (try simp only [foldK, foldP, foldL, Int.toNat_natCast])
        omega
      · (try simp only [foldK, foldP, foldL, Int.toNat_natCast])
        omega
      · kernel_rfl
      refine awp_region rfl (.n (fun _ => op_move (.plain rfl)) (.n (fun _ => op_move (.plain rfl)) (.n (fun _ => op_slit (pp := [(0, _)]) (α := Int) (d := 0) (f := (fun n => [.int .i64 n])) [_] ety25 rfl ⟨rfl, (.plain rfl), (by simp), trivial⟩ rfl (by decide) rfl) (.e (op_append (id' := 37) (α := Int) (d := 0) (f := (fun n => [.int .i64 n])) ety25 Try.underlying25 (fun _ => rfl) (fun _ => rfl) (.plain rfl) rfl (.plain rfl) rfl ?_) rfl (.n (fun _ => op_assign (.plain rfl)) (.nil _)))))) ?_
      · (try simp only [foldK, foldP, foldL, Int.toNat_natCast])
        first | omega | (simp; omega)
      refine awp_region rfl (.n (fun _ => op_move (.plain rfl)) (.n (fun _ => op_add (.plain rfl) (.plain rfl) ?_) (.n (fun _ => op_assign (.plain rfl)) (.nil _)))) ?_
      · (try simp only [foldK, foldP, foldL, Int.toNat_natCast])
        unfold InR; omega
      exact ⟨i + 1, by omega, by dsimp only; omega, (Ent.round 37 1005 ⟨rfl, rfl, rfl, rfl, trivial⟩ ⟨(by first | exact (congrArg (fun l => some (Blk.arr 3 1 Int 0 (fun n => [.int .i64 n]) l)) (co_in hb)) | exact (congrArg (fun l => some (Blk.arr 3 1 Int 0 (fun n => [.int .i64 n]) l)) (co_out hb))), trivial⟩ rfl rfl rfl ⟨rfl, rfl, rfl, rfl, trivial⟩ ⟨rfl, trivial⟩)⟩
    · (try simp only [decide_eq_true_eq, decide_eq_false_iff_not, Bool.and_eq_true, Bool.or_eq_true, Bool.and_eq_false_iff, Bool.or_eq_false_iff, Bool.not_eq_true', Bool.not_eq_false', Bool.not_eq_true, Bool.not_eq_false, Bool.true_eq_false, Bool.false_eq_true] at h); (try simp only [foldK, foldP, foldL] at h)
      have hb : ¬ 0 < ((kidsF N i).length : Int) := h
      refine awp_skip ?_
      refine awp_region rfl (.n (fun _ => op_move (.plain rfl)) (.n (fun _ => op_move (.plain rfl)) (.n (fun _ => op_slit (pp := [(0, _)]) (α := Int) (d := 0) (f := (fun n => [.int .i64 n])) [_] ety25 rfl ⟨rfl, (.plain rfl), (by simp), trivial⟩ rfl (by decide) rfl) (.e (op_append (id' := 37) (α := Int) (d := 0) (f := (fun n => [.int .i64 n])) ety25 Try.underlying25 (fun _ => rfl) (fun _ => rfl) (.plain rfl) rfl (.plain rfl) rfl ?_) rfl (.n (fun _ => op_assign (.plain rfl)) (.nil _)))))) ?_
      · (try simp only [foldK, foldP, foldL, Int.toNat_natCast])
        first | omega | (simp; omega)
      refine awp_region rfl (.n (fun _ => op_move (.plain rfl)) (.n (fun _ => op_add (.plain rfl) (.plain rfl) ?_) (.n (fun _ => op_assign (.plain rfl)) (.nil _)))) ?_
      · (try simp only [foldK, foldP, foldL, Int.toNat_natCast])
        unfold InR; omega
      exact ⟨i + 1, by omega, by dsimp only; omega, (Ent.round 37 1005 ⟨rfl, rfl, rfl, rfl, trivial⟩ ⟨(by first | exact (congrArg (fun l => some (Blk.arr 3 1 Int 0 (fun n => [.int .i64 n]) l)) (co_in hb)) | exact (congrArg (fun l => some (Blk.arr 3 1 Int 0 (fun n => [.int .i64 n]) l)) (co_out hb))), trivial⟩ rfl rfl rfl ⟨rfl, rfl, rfl, rfl, trivial⟩ ⟨rfl, trivial⟩)⟩
  · (try simp only [decide_eq_true_eq, decide_eq_false_iff_not, Bool.and_eq_true, Bool.or_eq_true, Bool.and_eq_false_iff, Bool.or_eq_false_iff, Bool.not_eq_true', Bool.not_eq_false', Bool.not_eq_true, Bool.not_eq_false, Bool.true_eq_false, Bool.false_eq_true] at h); (try simp only [foldK, foldP, foldL] at h)
    refine awp_exit ?_
    refine awp_seq ?_
    refine awp_region rfl (.n (fun _ => op_move (.plain rfl)) (.n (fun _ => op_assign (.plain rfl)) (.nil _))) ?_
    refine awp_ret ?_
    refine retQ.ret ?_
    refine ret1 rfl rfl rfl ?_
    obtain rfl : i = N.length := by omega
    rfl

theorem TreeMade_fc (raw : List Int) (players inner : Int) (choices : List Int) (a who : Int) : FC Try.prog 4 [.ints raw, .i players, .i inner, .ints choices, .i a, .i who] (.bool true) := by
  refine FC.intro Try.func4 rfl (Nat.le_of_ble_eq_true rfl) fun hfit => ?_
  obtain ⟨fitl0, fitr0⟩ := (hfit _ (.head _)).ints
  have fit1 : -9223372036854775808 ≤ (players : Int) ∧ (players : Int) ≤ 9223372036854775807 := (hfit _ (.tail _ (.head _))).int64
  have fit2 : -9223372036854775808 ≤ (inner : Int) ∧ (inner : Int) ≤ 9223372036854775807 := (hfit _ (.tail _ (.tail _ (.head _)))).int64
  obtain ⟨fitl3, fitr3⟩ := (hfit _ (.tail _ (.tail _ (.tail _ (.head _))))).ints
  have fit4 : -9223372036854775808 ≤ (a : Int) ∧ (a : Int) ≤ 9223372036854775807 := (hfit _ (.tail _ (.tail _ (.tail _ (.tail _ (.head _)))))).int64
  have fit5 : -9223372036854775808 ≤ (who : Int) ∧ (who : Int) ≤ 9223372036854775807 := (hfit _ (.tail _ (.tail _ (.tail _ (.tail _ (.tail _ (.head _))))))).int64
  have hr := pickF_range players 3 (by omega)
  have hr7 := pickF_range inner 7 (by omega)
  have hnl := toN_len raw (1 + pickF players 3) (pickF inner 7)
  refine awp_seq ?_
  refine awp_region rfl (.n (fun _ => op_assign (.plain rfl)) (.nil _)) ?_
  refine awp_seq ?_
  refine awp_seq ?_
  refine awp_region rfl (.n (fun _ => op_move (.plain rfl)) (.n (fun _ => op_len (s := 0) Try.underlying25 (.plain rfl)) (.n (fun _ => op_move (.plain rfl)) (.n (fun _ => op_len (s := 0) Try.underlying25 (.plain rfl)) (.n (fun _ => op_add (.plain rfl) (.plain rfl) ?_) (.n (fun _ => op_gtr (.plain rfl) (.plain rfl)) (.nil _))))))) ?_
  · (try simp only [foldK, foldP, foldL, Int.toNat_natCast])
    unfold InR; omega
  refine awp_cond rfl (fun h => ?_) (fun h => ?_)
  · (try simp only [decide_eq_true_eq, decide_eq_false_iff_not, Bool.and_eq_true, Bool.or_eq_true, Bool.and_eq_false_iff, Bool.or_eq_false_iff, Bool.not_eq_true', Bool.not_eq_false', Bool.not_eq_true, Bool.not_eq_false, Bool.true_eq_false, Bool.false_eq_true] at h); (try simp only [foldK, foldP, foldL] at h)
    refine awp_seq ?_
    refine awp_region rfl (.n (fun _ => op_assign (.plain rfl)) (.nil _)) ?_
    refine awp_ret ?_
    refine retQ.ret ?_
    refine ret1 rfl rfl rfl ?_
    rfl
  · (try simp only [decide_eq_true_eq, decide_eq_false_iff_not, Bool.and_eq_true, Bool.or_eq_true, Bool.and_eq_false_iff, Bool.or_eq_false_iff, Bool.not_eq_true', Bool.not_eq_false', Bool.not_eq_true, Bool.not_eq_false, Bool.true_eq_false, Bool.false_eq_true] at h); (try simp only [foldK, foldP, foldL] at h)
    refine awp_skip ?_
    refine awp_seq ?_
    refine awp_region rfl (.n (fun _ => op_move (.plain rfl)) (.n (fun _ => op_call2 Try.call21 (.plain rfl) (.plain rfl) (Pick_fc _ _ ?_)) (.n (fun _ => op_add (.plain rfl) (.plain rfl) ?_) (.n (fun _ => op_assign (.plain rfl)) (.nil _))))) ?_
    · (try simp only [foldK, foldP, foldL, Int.toNat_natCast])
      omega
    · (try simp only [foldK, foldP, foldL, Int.toNat_natCast])
      unfold InR; omega
    refine awp_seq ?_
    refine awp_region rfl (.n (fun _ => op_move (.plain rfl)) (.n (fun _ => op_move (.plain rfl)) (.n (fun _ => op_move (.plain rfl)) (.n (fun _ => op_call2 Try.call21 (.plain rfl) (.plain rfl) (Pick_fc _ _ ?_)) (.n (fun _ => op_call3 Try.call22 (.plain rfl) (.plain rfl) (.plain rfl) (TreeOf_fc _ _ _ ?_)) (.e (op_alloc 13 Try.zeroValue24 rfl rfl rfl) rfl (.e (op_storeRA Try.sizeOf24 (.plain rfl) (.plain rfl) rfl rfl (Nat.le_of_ble_eq_true rfl) rfl) rfl (.nil _)))))))) ?_
    · (try simp only [foldK, foldP, foldL, Int.toNat_natCast])
      omega
    · (try simp only [foldK, foldP, foldL, Int.toNat_natCast])
      omega
    refine awp_seq ?_
    refine awp_region_draw mixed rfl (.r (op_loadRA Try.isAgg24 Try.sizeOf24 (.plain rfl) rfl (by simp) rfl) (.r (op_loadRA Try.isAgg24 Try.sizeOf24 (.plain rfl) rfl (by simp) rfl) (.n (fun _ => op_move (.plain rfl)) (.n (fun _ => op_call2 Try.call23 (.plain rfl) (.plain rfl) (ChoicesOf_fc _ _ _ ?_)) (.n (fun _ => op_move (.plain rfl)) (.n (fun _ => op_fieldAddrR Try.underlying24 rfl rfl Try.sizeOf22 (.plain rfl)) (.r (op_loadR Try.isAgg22 (.plain rfl) rfl rfl) (.n (fun _ => op_len (s := 0) Try.underlying22 (.plain rfl)) (.n (fun _ => op_call2 Try.call21 (.plain rfl) (.plain rfl) (Pick_fc _ _ ?_)) (.n (fun _ => op_move (.plain rfl)) (.n (fun _ => op_move (.plain rfl)) (.n (fun _ => op_call2 Try.call21 (.plain rfl) (.plain rfl) (Pick_fc _ _ ?_)) (.n (fun _ => op_call4 Try.call3 (.plain rfl) (.plain rfl) (.plain rfl) (.plain rfl) (TreeSays_fc _ _ _ _ _)) (.n (fun _ => op_assign (.plain rfl)) (.nil _))))))))))))))) ?d2 ?_
    · (try simp only [foldK, foldP, foldL, Int.toNat_natCast])
      omega
    · (try simp only [foldK, foldP, foldL, Int.toNat_natCast])
      omega
    · (try simp only [foldK, foldP, foldL, Int.toNat_natCast])
      omega
    · kernel_rfl
    refine awp_ret ?_
    refine retQ.ret ?_
    refine ret1 rfl rfl rfl ?_
    rfl

end Go.Proofs.Ytamdkclkmijfgaa

