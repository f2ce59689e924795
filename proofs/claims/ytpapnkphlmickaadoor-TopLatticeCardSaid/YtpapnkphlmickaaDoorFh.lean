/- All that are stable, by both ways; MatchFinds. Conditions: each theorem names its own. -/
import Derived.Test.YtpapnkphlmickaaDoorProg
import Derived.Test.YtpapnkphlmickaaDoorFg
namespace Go.Proofs.YtpapnkphlmickaaDoor
open Go.Abs
set_option linter.unusedVariables false
set_option linter.unusedSimpArgs false


theorem allK_len {L R : List Ag} {g : List Int → List (List Int)} {w : List Int} {B : Nat} (h : ∀ v, (g v).length ≤ B) : ∀ n, (allK L R g w n).length ≤ n * B
  | 0 => by simp [allK]
  | n + 1 => by
    have ih := allK_len (L := L) (R := R) (w := w) h n
    have := h (w ++ [(n : Int) - 1])
    simp only [allK, List.length_append, Nat.add_mul, Nat.one_mul]
    split
    · omega
    · simp only [List.length_nil]; omega
theorem allR_len {L R : List Ag} (hr : R.length ≤ 4) : ∀ f w, (allR L R f w).length ≤ 5 ^ f
  | 0, w => by
    simp only [allR]
    split <;> simp
  | f + 1, w => by
    have := allK_len (L := L) (R := R) (w := w) (fun v => allR_len (L := L) hr f v) (R.length + 1)
    simp only [allR]
    refine Nat.le_trans this ?_
    rw [Nat.pow_succ, Nat.mul_comm]
    exact Nat.mul_le_mul_left _ (by omega)
theorem five_le {f : Nat} (h : f ≤ 4) : 5 ^ f ≤ 625 := Nat.le_trans (Nat.pow_le_pow_right (by omega) h) (by decide)
theorem stOk_no {L R : List Ag} {w : List Int} (h : stOk L R w = false ∨ ¬ withE L R w = 0) : ¬ stOk L R w = true := fun c => by
  rcases h with h | h
  · rw [c] at h; cases h
  · unfold stOk at c; rw [decide_eq_false h] at c; simp at c
theorem allK_skip {L R : List Ag} {w : List Int} {f k : Nat} (h0 : 0 < k) (hk : k - 1 < R.length) (h : likesF L R w.length (k - 1) = false ∨ ¬ (cntF w ((k - 1 : Nat) : Int) : Int) < rmF R (k - 1)) : allK L R (allR L R f) w k = allK L R (allR L R f) w (k + 1) := by
  by_cases e : likesF L R w.length (k - 1) = true
  · rw [← allK_yes (.inr e)]
    have h2 : ¬ (cntF w ((k - 1 : Nat) : Int) : Int) < rmF R (k - 1) := h.elim (fun c => by rw [e] at c; cases c) id
    have h3 := allR_full (L := L) (f := f) hk h2
    rw [show (k : Int) - 1 = ((k - 1 : Nat) : Int) by omega, h3, List.append_nil]
  · exact allK_no fun c => c.elim (fun c => by omega) e
def bestR (L R : List Ag) (bt : Bool) : List Int := if mMayE L R = 0 then bstF L R bt (allV L R) ((allV L R).length - 1) else []
theorem allR_succ {L R : List Ag} {f : Nat} {w : List Int} : allK L R (allR L R f) w (R.length + 1) = allR L R (f + 1) w := rfl

set_option maxRecDepth 1000000 in
set_option maxHeartbeats 1000000 in
theorem sameLists_fc (a b : List (List Int)) : FC Tryd.prog 21 [.rows a, .rows b] (.bool (decide (a = b))) := by
  refine FC.intro Tryd.func21 rfl (Nat.le_of_ble_eq_true rfl) fun hfit => ?_
  obtain ⟨fitl0, fitr0⟩ := (hfit _ (.head _)).rows
  obtain ⟨fitl1, fitr1⟩ := (hfit _ (.tail _ (.head _))).rows
  refine awp_seq ?_
  refine awp_region rfl (.n (fun _ => op_assign (.plain rfl)) (.nil _)) ?_
  refine awp_seq ?_
  refine awp_seq ?_
  refine awp_region rfl (.n (fun _ => op_move (.plain rfl)) (.n (fun _ => op_len (s := 0) Tryd.underlying36 (.plain rfl)) (.n (fun _ => op_move (.plain rfl)) (.n (fun _ => op_len (s := 0) Tryd.underlying36 (.plain rfl)) (.n (fun _ => op_neq (.plain rfl) (.plain rfl)) (.nil _)))))) ?_
  refine awp_cond rfl (fun h => ?_) (fun h => ?_)
  · (try simp only [decide_eq_true_eq, decide_eq_false_iff_not, Bool.and_eq_true, Bool.or_eq_true, Bool.and_eq_false_iff, Bool.or_eq_false_iff, Bool.not_eq_true', Bool.not_eq_false', Bool.not_eq_true, Bool.not_eq_false, Bool.true_eq_false, Bool.false_eq_true] at h); (try simp only [foldN, foldR, foldL, Int.toNat_natCast] at h)
    refine awp_seq ?_
    refine awp_region rfl (.n (fun _ => op_assign (.plain rfl)) (.nil _)) ?_
    refine awp_ret ?_
    refine retQ.ret ?_
    refine ret1 rfl rfl rfl ?_
    rw [decide_eq_false (fun e => by subst e; simp at h)]
  · (try simp only [decide_eq_true_eq, decide_eq_false_iff_not, Bool.and_eq_true, Bool.or_eq_true, Bool.and_eq_false_iff, Bool.or_eq_false_iff, Bool.not_eq_true', Bool.not_eq_false', Bool.not_eq_true, Bool.not_eq_false, Bool.true_eq_false, Bool.false_eq_true] at h); (try simp only [foldN, foldR, foldL, Int.toNat_natCast] at h)
    refine awp_skip ?_
    refine awp_seq ?_
    refine awp_seq ?_
    refine awp_region rfl (.n (fun _ => op_assign (.plain rfl)) (.nil _)) ?_
    refine awp_block ?_
    refine awp_loop (σ := Nat) (fun (k : Nat) => k ≤ a.length ∧ ∀ j, j < k → a.getD j [] = b.getD j []) (fun (k : Nat) => ⟨[(5, .int (k : Nat)), (0, .pv (.rows a)), (1, .pv (.rows b))], []⟩) (fun (k : Nat) => a.length - k) 0 ?_ (Ent.kept ⟨rfl, rfl, rfl, trivial⟩ trivial) ?_
    · exact ⟨Nat.zero_le _, fun j hj => absurd hj (Nat.not_lt_zero _)⟩
    rintro k hp
    try dsimp only at hp
    obtain ⟨hk, hj⟩ := hp
    have hlen : a.length = b.length := by omega
    refine awp_seq ?_
    refine awp_seq ?_
    refine awp_region rfl (.n (fun _ => op_move (.plain rfl)) (.n (fun _ => op_move (.plain rfl)) (.n (fun _ => op_len (s := 0) Tryd.underlying36 (.plain rfl)) (.n (fun _ => op_lss (.plain rfl) (.plain rfl)) (.nil _))))) ?_
    refine awp_cond rfl (fun h => ?_) (fun h => ?_)
    · (try simp only [decide_eq_true_eq, decide_eq_false_iff_not, Bool.and_eq_true, Bool.or_eq_true, Bool.and_eq_false_iff, Bool.or_eq_false_iff, Bool.not_eq_true', Bool.not_eq_false', Bool.not_eq_true, Bool.not_eq_false, Bool.true_eq_false, Bool.false_eq_true] at h); (try simp only [foldN, foldR, foldL, Int.toNat_natCast] at h)
      refine awp_skip ?_
      refine awp_seq ?_
      refine awp_block ?_
      refine awp_seq ?_
      refine awp_region_draw mixed rfl (.n (fun _ => op_move (.plain rfl)) (.n (fun _ => op_move (.plain rfl)) (.n (fun _ => op_indexAddrN Tryd.underlying36 Tryd.sizeOf25 (.plain rfl) (.plain rfl) (fun _ => rfl) ?_) (.n (fun _ => op_load Tryd.isAgg25 (.plain rfl)) (.n (fun _ => op_move (.plain rfl)) (.n (fun _ => op_move (.plain rfl)) (.n (fun _ => op_indexAddrN Tryd.underlying36 Tryd.sizeOf25 (.plain rfl) (.plain rfl) (fun _ => rfl) ?_) (.n (fun _ => op_load Tryd.isAgg25 (.plain rfl)) (.n (fun _ => op_call2 Tryd.call17 (.plain rfl) (.plain rfl) (sameInts_fc _ _)) (.n (fun _ => op_not (.plain rfl)) (.nil _))))))))))) ?d1 ?_
      · (try simp only [foldN, foldR, foldL, Int.toNat_natCast])
        omega
      · (try simp only [foldN, foldR, foldL, Int.toNat_natCast])
        omega
      · kernel_rfl
      refine awp_cond rfl (fun h => ?_) (fun h => ?_)
      · (try simp only [decide_eq_true_eq, decide_eq_false_iff_not, Bool.and_eq_true, Bool.or_eq_true, Bool.and_eq_false_iff, Bool.or_eq_false_iff, Bool.not_eq_true', Bool.not_eq_false', Bool.not_eq_true, Bool.not_eq_false, Bool.true_eq_false, Bool.false_eq_true] at h); (try simp only [foldN, foldR, foldL, Int.toNat_natCast] at h)
        refine awp_seq ?_
        refine awp_region rfl (.n (fun _ => op_assign (.plain rfl)) (.nil _)) ?_
        refine awp_ret ?_
        refine retQ.ret ?_
        refine ret1 rfl rfl rfl ?_
        rw [decide_eq_false (fun e => by subst e; exact h rfl)]
      · (try simp only [decide_eq_true_eq, decide_eq_false_iff_not, Bool.and_eq_true, Bool.or_eq_true, Bool.and_eq_false_iff, Bool.or_eq_false_iff, Bool.not_eq_true', Bool.not_eq_false', Bool.not_eq_true, Bool.not_eq_false, Bool.true_eq_false, Bool.false_eq_true] at h); (try simp only [foldN, foldR, foldL, Int.toNat_natCast] at h)
        refine awp_skip ?_
        refine awp_region rfl (.n (fun _ => op_move (.plain rfl)) (.n (fun _ => op_add (.plain rfl) (.plain rfl) ?_) (.n (fun _ => op_assign (.plain rfl)) (.nil _)))) ?_
        · (try simp only [foldN, foldR, foldL, Int.toNat_natCast])
          unfold InR; omega
        refine ⟨k + 1, ⟨by omega, fun j hjk => ?_⟩, by dsimp only; omega, Ent.kept ⟨rfl, rfl, rfl, trivial⟩ trivial⟩
        by_cases e : j = k
        · subst e; exact h
        · exact hj j (by omega)
    · (try simp only [decide_eq_true_eq, decide_eq_false_iff_not, Bool.and_eq_true, Bool.or_eq_true, Bool.and_eq_false_iff, Bool.or_eq_false_iff, Bool.not_eq_true', Bool.not_eq_false', Bool.not_eq_true, Bool.not_eq_false, Bool.true_eq_false, Bool.false_eq_true] at h); (try simp only [foldN, foldR, foldL, Int.toNat_natCast] at h)
      refine awp_exit ?_
      refine awp_seq ?_
      refine awp_region rfl (.n (fun _ => op_assign (.plain rfl)) (.nil _)) ?_
      refine awp_ret ?_
      refine retQ.ret ?_
      refine ret1 rfl rfl rfl ?_
      rw [decide_eq_true (List.ext_getElem hlen fun j h1 h2 => by have := hj j (by omega); simpa only [List.getD_eq_getElem?_getD, List.getElem?_eq_getElem h1, List.getElem?_eq_getElem h2, Option.getD_some] using this)]

set_option maxRecDepth 1000000 in
set_option maxHeartbeats 1000000 in
theorem stableFrom_fc (L R : List Ag) (f : Nat) (w : List Int) (hf : w.length + f = L.length) (hM : MOk L R) (h4 : R.length ≤ 4) (h4l : L.length ≤ 4) : FC Tryd.prog 47 [.agg [.seq (ByteArray × Int × List Int × Unit) (ByteArray.empty, 0, [], ()) (fun p => [.str p.1, .i p.2.1, .ints p.2.2.1]) L, .seq (ByteArray × Int × List Int × Unit) (ByteArray.empty, 0, [], ()) (fun p => [.str p.1, .i p.2.1, .ints p.2.2.1]) R], .ints w] (.rows (allR L R f w)) := by
  induction f using Nat.strongRecOn generalizing w
  rename_i f ih
  refine FC.intro Tryd.func47 rfl (Nat.le_of_ble_eq_true rfl) fun hfit => ?_
  have fit0 := hfit _ (.head _)
  obtain ⟨fitl1, fitr1⟩ := (hfit _ (.tail _ (.head _))).ints
  have hfl : L.length ≤ 281474976710656 := by cases fit0 with | agg _ h => exact (h 0 (by simp)).len
  have hfr : R.length ≤ 281474976710656 := by cases fit0 with | agg _ h => exact (h 1 (by simp)).len
  refine awp_seq ?_
  refine awp_region rfl (.n (fun _ => op_box (.plain rfl) (by simp)) (.n (fun _ => op_assign (.plain rfl)) (.nil _))) ?_
  refine awp_seq ?_
  refine awp_seq ?_
  refine awp_region rfl (.n (fun _ => op_move (.plain rfl)) (.n (fun _ => op_len (s := 0) Tryd.underlying25 (.plain rfl)) (.n (fun _ => op_fieldAddr Tryd.underlying24 rfl rfl Tryd.sizeOf22 (.plain rfl)) (.n (fun _ => op_load Tryd.isAgg22 (.plain rfl)) (.n (fun _ => op_len (s := 0) Tryd.underlying22 (.plain rfl)) (.n (fun _ => op_eql (.plain rfl) (.plain rfl)) (.nil _))))))) ?_
  refine awp_cond rfl (fun h => ?_) (fun h => ?_)
  · (try simp only [decide_eq_true_eq, decide_eq_false_iff_not, Bool.and_eq_true, Bool.or_eq_true, Bool.and_eq_false_iff, Bool.or_eq_false_iff, Bool.not_eq_true', Bool.not_eq_false', Bool.not_eq_true, Bool.not_eq_false] at h); (try simp only [foldN, foldR, foldL, Int.toNat_natCast] at h)
    obtain rfl : f = 0 := by omega
    clear h
    refine awp_seq ?_
    refine awp_region rfl (.n (fun _ => op_load_agg Tryd.isAgg24 Tryd.sizeOf24 (.plain rfl) (Nat.le_of_ble_eq_true rfl)) (.n (fun _ => op_move (.plain rfl)) (.n (fun _ => op_call2 Tryd.call12 (.plain rfl) (.plain rfl) (StableR_fc _ _ _)) (.n (fun _ => op_move (.plain rfl)) (.n (fun _ => op_extract (.plain rfl) rfl) (.n (fun _ => op_extract (.plain rfl) rfl) (.n (fun _ => op_extract (.plain rfl) rfl) (.n (fun _ => op_extract (.plain rfl) rfl) (.n (fun _ => op_assign (.plain rfl)) (.n (fun _ => op_assign (.plain rfl)) (.n (fun _ => op_assign (.plain rfl)) (.n (fun _ => op_assign (.plain rfl)) (.nil _))))))))))))) ?_
    refine awp_seq ?_
    refine awp_seq ?_
    refine awp_region rfl (.n (fun _ => op_move (.plain rfl)) (.n (fun _ => op_move (.plain rfl)) (.gn rfl rfl (fun hg _ => op_move (.plain rfl)) (.gn rfl rfl (fun hg _ => op_eql (.opt rfl fun h => h) (.plain rfl)) (.n (fun _ => op_and (.plain rfl) (.plain rfl) (.plain rfl) (fun h => eqT h)) (.nil _)))))) ?_
    refine awp_cond rfl (fun h => ?_) (fun h => ?_)
    · (try simp only [decide_eq_true_eq, decide_eq_false_iff_not, Bool.and_eq_true, Bool.or_eq_true, Bool.and_eq_false_iff, Bool.or_eq_false_iff, Bool.not_eq_true', Bool.not_eq_false', Bool.not_eq_true, Bool.not_eq_false] at h); (try simp only [foldN, foldR, foldL, Int.toNat_natCast] at h)
      have hs : stOk L R w = true := h.1
      refine awp_seq ?_
      refine awp_region rfl (.n (fun _ => op_move (.plain rfl)) (.n (fun _ => op_slit (pp := [(0, _)]) (α := (List Int)) (d := []) (f := (fun r => [.seq Int 0 (fun n => [.int .i64 n]) r])) [_] ety36 rfl ⟨rfl, (.plain rfl), (by simp), trivial⟩ rfl (by decide) rfl) (.n (fun _ => op_assign (.plain rfl)) (.nil _)))) ?_
      refine awp_ret ?_
      refine retQ.ret ?_
      refine ret1 rfl rfl rfl ?_
      exact congrArg PV.rows (if_pos hs).symm
    · (try simp only [decide_eq_true_eq, decide_eq_false_iff_not, Bool.and_eq_true, Bool.or_eq_true, Bool.and_eq_false_iff, Bool.or_eq_false_iff, Bool.not_eq_true', Bool.not_eq_false', Bool.not_eq_true, Bool.not_eq_false] at h); (try simp only [foldN, foldR, foldL, Int.toNat_natCast] at h)
      have hs : ¬ stOk L R w = true := stOk_no h
      refine awp_skip ?_
      refine awp_seq ?_
      refine awp_region rfl (.n (fun _ => op_assign (.plain rfl)) (.nil _)) ?_
      refine awp_ent (Ent.nilseq 4 (List Int) [] (fun r => [.seq Int 0 (fun n => [.int .i64 n]) r]) rfl) ?_
      refine awp_ret ?_
      refine retQ.ret ?_
      refine ret1 rfl rfl rfl ?_
      exact congrArg PV.rows (if_neg hs).symm
  · (try simp only [decide_eq_true_eq, decide_eq_false_iff_not, Bool.and_eq_true, Bool.or_eq_true, Bool.and_eq_false_iff, Bool.or_eq_false_iff, Bool.not_eq_true', Bool.not_eq_false', Bool.not_eq_true, Bool.not_eq_false] at h); (try simp only [foldN, foldR, foldL, Int.toNat_natCast] at h)
    obtain ⟨f, rfl⟩ : ∃ g, f = g + 1 := ⟨f - 1, by omega⟩
    clear h
    have hw4 : w.length ≤ 4 := by omega
    refine awp_skip ?_
    refine awp_seq ?_
    refine awp_region rfl (.n (fun _ => op_assign (.plain rfl)) (.nil _)) ?_
    refine awp_seq ?_
    refine awp_seq ?_
    refine awp_region rfl (.n (fun _ => op_assign (.plain rfl)) (.nil _)) ?_
    refine awp_block ?_
    refine awp_ent (Ent.begin 9 1009 25 1 (List Int) [] (fun r => [.seq Int 0 (fun n => [.int .i64 n]) r]) rfl rfl rfl) ?_
    refine awp_loop (σ := Nat) (fun (k : Nat) => k ≤ R.length + 1) (fun (k : Nat) => ⟨[(1, .pv (.ints w)), (2, .pv (.rd [.seq (ByteArray × Int × List Int × Unit) (ByteArray.empty, 0, [], ()) (fun p => [.str p.1, .i p.2.1, .ints p.2.2.1]) L, .seq (ByteArray × Int × List Int × Unit) (ByteArray.empty, 0, [], ()) (fun p => [.str p.1, .i p.2.1, .ints p.2.2.1]) R])), (9, .own 1009), (10, .int ((k : Int) - 1))], [(1009, .arr 25 1 (List Int) [] (fun r => [.seq Int 0 (fun n => [.int .i64 n]) r]) (allK L R (allR L R f) w k))]⟩) (fun (k : Nat) => R.length + 1 - k) 0 ?_ (Ent.kept ⟨rfl, rfl, rfl, rfl, trivial⟩ ⟨rfl, trivial⟩) ?_
    · exact Nat.zero_le _
    rintro k hp
    try dsimp only at hp
    have hk := hp
    refine awp_seq ?_
    refine awp_seq ?_
    refine awp_region rfl (.n (fun _ => op_move (.plain rfl)) (.n (fun _ => op_fieldAddr Tryd.underlying24 rfl rfl Tryd.sizeOf22 (.plain rfl)) (.n (fun _ => op_load Tryd.isAgg22 (.plain rfl)) (.n (fun _ => op_len (s := 0) Tryd.underlying22 (.plain rfl)) (.n (fun _ => op_lss (.plain rfl) (.plain rfl)) (.nil _)))))) ?_
    refine awp_cond rfl (fun h => ?_) (fun h => ?_)
    · (try simp only [decide_eq_true_eq, decide_eq_false_iff_not, Bool.and_eq_true, Bool.or_eq_true, Bool.and_eq_false_iff, Bool.or_eq_false_iff, Bool.not_eq_true', Bool.not_eq_false', Bool.not_eq_true, Bool.not_eq_false] at h); (try simp only [foldN, foldR, foldL, Int.toNat_natCast] at h)
      refine awp_skip ?_
      refine awp_seq ?_
      refine awp_block ?_
      refine awp_seq ?_
      refine awp_region rfl (.n (fun _ => op_assign (.plain rfl)) (.nil _)) ?_
      refine awp_seq ?_
      refine awp_seq ?_
      refine awp_region rfl (.n (fun _ => op_move (.plain rfl)) (.n (fun _ => op_geq (.plain rfl) (.plain rfl)) (.nil _))) ?_
      refine awp_cond rfl (fun h => ?_) (fun h => ?_)
      · (try simp only [decide_eq_true_eq, decide_eq_false_iff_not, Bool.and_eq_true, Bool.or_eq_true, Bool.and_eq_false_iff, Bool.or_eq_false_iff, Bool.not_eq_true', Bool.not_eq_false', Bool.not_eq_true, Bool.not_eq_false] at h); (try simp only [foldN, foldR, foldL, Int.toNat_natCast] at h)
        have hk0 : ¬ k = 0 := by omega
        refine awp_region rfl (.n (fun _ => op_load_agg Tryd.isAgg24 Tryd.sizeOf24 (.plain rfl) (Nat.le_of_ble_eq_true rfl)) (.n (fun _ => op_move (.plain rfl)) (.n (fun _ => op_len (s := 0) Tryd.underlying25 (.plain rfl)) (.n (fun _ => op_move (.plain rfl)) (.n (fun _ => op_call3 Tryd.call38 (.plain rfl) (.plain rfl) (.plain rfl) (Likes_fc L R w.length (k - 1) _ _ ?_ ?_ ?_ ?_)) (.n (fun _ => op_assign (.plain rfl)) (.nil _))))))) ?_
        · (try simp only [foldN, foldR, foldL, Int.toNat_natCast])
          try (first | rfl | omega)
        · (try simp only [foldN, foldR, foldL, Int.toNat_natCast])
          try (first | rfl | omega)
        · (try simp only [foldN, foldR, foldL, Int.toNat_natCast])
          omega
        · (try simp only [foldN, foldR, foldL, Int.toNat_natCast])
          omega
        refine awp_seq ?_
        refine awp_region rfl (.n (fun _ => op_move (.plain rfl)) (.nil _)) ?_
        refine awp_cond rfl (fun h => ?_) (fun h => ?_)
        · (try simp only [decide_eq_true_eq, decide_eq_false_iff_not, Bool.and_eq_true, Bool.or_eq_true, Bool.and_eq_false_iff, Bool.or_eq_false_iff, Bool.not_eq_true', Bool.not_eq_false', Bool.not_eq_true, Bool.not_eq_false] at h); (try simp only [foldN, foldR, foldL, Int.toNat_natCast] at h)
          have hok : k = 0 ∨ likesF L R w.length (k - 1) = true := by first | exact .inl hk0 | exact .inr h
          have hlen := allR_len (L := L) (R := R) h4 f (w ++ [(k : Int) - 1])
          have hf4 := five_le (f := f) (by omega)
          have hkl := allK_len (L := L) (R := R) (g := allR L R f) (w := w) (fun v => Nat.le_trans (allR_len (L := L) h4 f v) hf4) k
          have hkm := Nat.mul_le_mul_right 625 (show k ≤ 5 by omega)
          refine awp_seq ?_
          refine awp_region_draw mixed rfl (.n (fun _ => op_load_agg Tryd.isAgg24 Tryd.sizeOf24 (.plain rfl) (Nat.le_of_ble_eq_true rfl)) (.e (op_slitO (pp := []) (α := Int) (d := 0) (f := (fun n => [.int .i64 n])) 50 [] ety25 rfl trivial rfl (by decide) rfl (fun _ => rfl) rfl) rfl (.n (fun _ => op_move (.plain rfl)) (.e (op_append (id' := 52) (α := Int) (d := 0) (f := (fun n => [.int .i64 n])) ety25 Tryd.underlying25 (fun _ => rfl) (fun _ => rfl) (.plain rfl) rfl (.plain rfl) rfl ?_) rfl (.n (fun _ => op_move (.plain rfl)) (.n (fun _ => op_slit (pp := [(0, _)]) (α := Int) (d := 0) (f := (fun n => [.int .i64 n])) [_] ety25 rfl ⟨rfl, (.plain rfl), (by simp), trivial⟩ rfl (by decide) rfl) (.e ((op_append (id' := 55) (α := Int) (d := 0) (f := (fun n => [.int .i64 n])) ety25 Tryd.underlying25 (fun _ => rfl) (fun _ => rfl) (.plain rfl) rfl (.plain rfl) rfl ?_).given rfl) rfl (.n (fun _ => op_call2 Tryd.call47 (.plain rfl) (.plain rfl) (ih f (by omega) (w ++ [(k : Int) - 1]) ?_)) (.n (fun _ => op_assign (.plain rfl)) (.nil _)))))))))) ?d2 ?_
          · (try simp only [foldN, foldR, foldL, Int.toNat_natCast])
            first | omega | (simp; omega)
          · (try simp only [foldN, foldR, foldL, Int.toNat_natCast])
            first | omega | (simp; omega)
          · (try simp only [foldN, foldR, foldL, Int.toNat_natCast])
            first | omega | (simp; done) | (simp; omega)
          · kernel_rfl
          refine awp_region rfl (.n (fun _ => op_move (.plain rfl)) (.n (fun _ => op_move (.plain rfl)) (.e (op_append (id' := 59) (α := (List Int)) (d := []) (f := (fun r => [.seq Int 0 (fun n => [.int .i64 n]) r])) ety36 Tryd.underlying36 (fun _ => rfl) (fun _ => rfl) (.plain rfl) rfl (.plain rfl) rfl ?_) rfl (.n (fun _ => op_assign (.plain rfl)) (.nil _))))) ?_
          · (try simp only [foldN, foldR, foldL, Int.toNat_natCast])
            first | omega | (simp; omega)
          refine awp_region rfl (.n (fun _ => op_move (.plain rfl)) (.n (fun _ => op_add (.plain rfl) (.plain rfl) ?_) (.n (fun _ => op_assign (.plain rfl)) (.nil _)))) ?_
          · (try simp only [foldN, foldR, foldL, Int.toNat_natCast])
            unfold InR; omega
          exact ⟨k + 1, by omega, by dsimp only; omega, (Ent.round 59 1009 ⟨rfl, rfl, rfl, (congrArg (fun n : Int => some (SV.int n)) (by omega)), trivial⟩ ⟨(by first | exact (congrArg (fun l => some (Blk.arr 25 1 (List Int) [] (fun r => [.seq Int 0 (fun n => [.int .i64 n]) r]) l)) (allK_yes hok)) | exact (congrArg (fun l => some (Blk.arr 25 1 (List Int) [] (fun r => [.seq Int 0 (fun n => [.int .i64 n]) r]) l)) (allK_no hnk))), trivial⟩ rfl rfl rfl ⟨rfl, rfl, rfl, rfl, trivial⟩ ⟨rfl, trivial⟩)⟩
        · (try simp only [decide_eq_true_eq, decide_eq_false_iff_not, Bool.and_eq_true, Bool.or_eq_true, Bool.and_eq_false_iff, Bool.or_eq_false_iff, Bool.not_eq_true', Bool.not_eq_false', Bool.not_eq_true, Bool.not_eq_false] at h); (try simp only [foldN, foldR, foldL, Int.toNat_natCast] at h)
          have hnk : ¬ (k = 0 ∨ likesF L R w.length (k - 1) = true) := fun c => c.elim (fun c => by first | exact hk0 c | (simp at h)) (fun c => by first | (rw [h] at c; cases c) | (simp at h))
          refine awp_skip ?_
          refine awp_region rfl (.n (fun _ => op_move (.plain rfl)) (.n (fun _ => op_add (.plain rfl) (.plain rfl) ?_) (.n (fun _ => op_assign (.plain rfl)) (.nil _)))) ?_
          · (try simp only [foldN, foldR, foldL, Int.toNat_natCast])
            unfold InR; omega
          exact ⟨k + 1, by omega, by dsimp only; omega, (Ent.kept ⟨rfl, rfl, rfl, (congrArg (fun n : Int => some (SV.int n)) (by omega)), trivial⟩ ⟨(by first | exact (congrArg (fun l => some (Blk.arr 25 1 (List Int) [] (fun r => [.seq Int 0 (fun n => [.int .i64 n]) r]) l)) (allK_yes hok)) | exact (congrArg (fun l => some (Blk.arr 25 1 (List Int) [] (fun r => [.seq Int 0 (fun n => [.int .i64 n]) r]) l)) (allK_no hnk))), trivial⟩)⟩
      · (try simp only [decide_eq_true_eq, decide_eq_false_iff_not, Bool.and_eq_true, Bool.or_eq_true, Bool.and_eq_false_iff, Bool.or_eq_false_iff, Bool.not_eq_true', Bool.not_eq_false', Bool.not_eq_true, Bool.not_eq_false] at h); (try simp only [foldN, foldR, foldL, Int.toNat_natCast] at h)
        have hk0 : k = 0 := by omega
        refine awp_skip ?_
        refine awp_seq ?_
        refine awp_region rfl (.n (fun _ => op_move (.plain rfl)) (.nil _)) ?_
        refine awp_cond rfl (fun h => ?_) (fun h => ?_)
        · (try simp only [decide_eq_true_eq, decide_eq_false_iff_not, Bool.and_eq_true, Bool.or_eq_true, Bool.and_eq_false_iff, Bool.or_eq_false_iff, Bool.not_eq_true', Bool.not_eq_false', Bool.not_eq_true, Bool.not_eq_false] at h); (try simp only [foldN, foldR, foldL, Int.toNat_natCast] at h)
          have hok : k = 0 ∨ likesF L R w.length (k - 1) = true := by first | exact .inl hk0 | exact .inr h
          have hlen := allR_len (L := L) (R := R) h4 f (w ++ [(k : Int) - 1])
          have hf4 := five_le (f := f) (by omega)
          have hkl := allK_len (L := L) (R := R) (g := allR L R f) (w := w) (fun v => Nat.le_trans (allR_len (L := L) h4 f v) hf4) k
          have hkm := Nat.mul_le_mul_right 625 (show k ≤ 5 by omega)
          refine awp_seq ?_
          refine awp_region_draw mixed rfl (.n (fun _ => op_load_agg Tryd.isAgg24 Tryd.sizeOf24 (.plain rfl) (Nat.le_of_ble_eq_true rfl)) (.e (op_slitO (pp := []) (α := Int) (d := 0) (f := (fun n => [.int .i64 n])) 50 [] ety25 rfl trivial rfl (by decide) rfl (fun _ => rfl) rfl) rfl (.n (fun _ => op_move (.plain rfl)) (.e (op_append (id' := 52) (α := Int) (d := 0) (f := (fun n => [.int .i64 n])) ety25 Tryd.underlying25 (fun _ => rfl) (fun _ => rfl) (.plain rfl) rfl (.plain rfl) rfl ?_) rfl (.n (fun _ => op_move (.plain rfl)) (.n (fun _ => op_slit (pp := [(0, _)]) (α := Int) (d := 0) (f := (fun n => [.int .i64 n])) [_] ety25 rfl ⟨rfl, (.plain rfl), (by simp), trivial⟩ rfl (by decide) rfl) (.e ((op_append (id' := 55) (α := Int) (d := 0) (f := (fun n => [.int .i64 n])) ety25 Tryd.underlying25 (fun _ => rfl) (fun _ => rfl) (.plain rfl) rfl (.plain rfl) rfl ?_).given rfl) rfl (.n (fun _ => op_call2 Tryd.call47 (.plain rfl) (.plain rfl) (ih f (by omega) (w ++ [(k : Int) - 1]) ?_)) (.n (fun _ => op_assign (.plain rfl)) (.nil _)))))))))) ?d3 ?_
          · (try simp only [foldN, foldR, foldL, Int.toNat_natCast])
            first | omega | (simp; omega)
          · (try simp only [foldN, foldR, foldL, Int.toNat_natCast])
            first | omega | (simp; omega)
          · (try simp only [foldN, foldR, foldL, Int.toNat_natCast])
            first | omega | (simp; done) | (simp; omega)
          · kernel_rfl
          refine awp_region rfl (.n (fun _ => op_move (.plain rfl)) (.n (fun _ => op_move (.plain rfl)) (.e (op_append (id' := 59) (α := (List Int)) (d := []) (f := (fun r => [.seq Int 0 (fun n => [.int .i64 n]) r])) ety36 Tryd.underlying36 (fun _ => rfl) (fun _ => rfl) (.plain rfl) rfl (.plain rfl) rfl ?_) rfl (.n (fun _ => op_assign (.plain rfl)) (.nil _))))) ?_
          · (try simp only [foldN, foldR, foldL, Int.toNat_natCast])
            first | omega | (simp; omega)
          refine awp_region rfl (.n (fun _ => op_move (.plain rfl)) (.n (fun _ => op_add (.plain rfl) (.plain rfl) ?_) (.n (fun _ => op_assign (.plain rfl)) (.nil _)))) ?_
          · (try simp only [foldN, foldR, foldL, Int.toNat_natCast])
            unfold InR; omega
          exact ⟨k + 1, by omega, by dsimp only; omega, (Ent.round 59 1009 ⟨rfl, rfl, rfl, (congrArg (fun n : Int => some (SV.int n)) (by omega)), trivial⟩ ⟨(by first | exact (congrArg (fun l => some (Blk.arr 25 1 (List Int) [] (fun r => [.seq Int 0 (fun n => [.int .i64 n]) r]) l)) (allK_yes hok)) | exact (congrArg (fun l => some (Blk.arr 25 1 (List Int) [] (fun r => [.seq Int 0 (fun n => [.int .i64 n]) r]) l)) (allK_no hnk))), trivial⟩ rfl rfl rfl ⟨rfl, rfl, rfl, rfl, trivial⟩ ⟨rfl, trivial⟩)⟩
        · (try simp only [decide_eq_true_eq, decide_eq_false_iff_not, Bool.and_eq_true, Bool.or_eq_true, Bool.and_eq_false_iff, Bool.or_eq_false_iff, Bool.not_eq_true', Bool.not_eq_false', Bool.not_eq_true, Bool.not_eq_false] at h); (try simp only [foldN, foldR, foldL, Int.toNat_natCast] at h)
          have hnk : ¬ (k = 0 ∨ likesF L R w.length (k - 1) = true) := fun c => c.elim (fun c => by first | exact hk0 c | (simp at h)) (fun c => by first | (rw [h] at c; cases c) | (simp at h))
          refine awp_skip ?_
          refine awp_region rfl (.n (fun _ => op_move (.plain rfl)) (.n (fun _ => op_add (.plain rfl) (.plain rfl) ?_) (.n (fun _ => op_assign (.plain rfl)) (.nil _)))) ?_
          · (try simp only [foldN, foldR, foldL, Int.toNat_natCast])
            unfold InR; omega
          exact ⟨k + 1, by omega, by dsimp only; omega, (Ent.kept ⟨rfl, rfl, rfl, (congrArg (fun n : Int => some (SV.int n)) (by omega)), trivial⟩ ⟨(by first | exact (congrArg (fun l => some (Blk.arr 25 1 (List Int) [] (fun r => [.seq Int 0 (fun n => [.int .i64 n]) r]) l)) (allK_yes hok)) | exact (congrArg (fun l => some (Blk.arr 25 1 (List Int) [] (fun r => [.seq Int 0 (fun n => [.int .i64 n]) r]) l)) (allK_no hnk))), trivial⟩)⟩
    · (try simp only [decide_eq_true_eq, decide_eq_false_iff_not, Bool.and_eq_true, Bool.or_eq_true, Bool.and_eq_false_iff, Bool.or_eq_false_iff, Bool.not_eq_true', Bool.not_eq_false', Bool.not_eq_true, Bool.not_eq_false] at h); (try simp only [foldN, foldR, foldL, Int.toNat_natCast] at h)
      have hk5 : k = R.length + 1 := by omega
      subst hk5
      refine awp_exit ?_
      refine awp_seq ?_
      refine awp_region rfl (.n (fun _ => op_move (.plain rfl)) (.n (fun _ => op_assign (.plain rfl)) (.nil _))) ?_
      refine awp_ret ?_
      refine retQ.ret ?_
      refine ret1 rfl rfl rfl ?_
      rfl

set_option maxRecDepth 1000000 in
set_option maxHeartbeats 1000000 in
theorem AllStable_fc (L R : List Ag) (h4 : R.length ≤ 4) (h4l : L.length ≤ 4) : FC Tryd.prog 20 [.agg [.seq (ByteArray × Int × List Int × Unit) (ByteArray.empty, 0, [], ()) (fun p => [.str p.1, .i p.2.1, .ints p.2.2.1]) L, .seq (ByteArray × Int × List Int × Unit) (ByteArray.empty, 0, [], ()) (fun p => [.str p.1, .i p.2.1, .ints p.2.2.1]) R]] (.tup [.rows (allV L R), .i (mMayE L R)]) := by
  refine FC.intro Tryd.func20 rfl (Nat.le_of_ble_eq_true rfl) fun hfit => ?_
  have fit0 := hfit _ (.head _)
  have hfl : L.length ≤ 281474976710656 := by cases fit0 with | agg _ h => exact (h 0 (by simp)).len
  have hfr : R.length ≤ 281474976710656 := by cases fit0 with | agg _ h => exact (h 1 (by simp)).len
  refine awp_seq ?_
  refine awp_region rfl (.n (fun _ => op_box (.plain rfl) (by simp)) (.n (fun _ => op_assign (.plain rfl)) (.n (fun _ => op_assign (.plain rfl)) (.nil _)))) ?_
  refine awp_seq ?_
  refine awp_region rfl (.n (fun _ => op_load_agg Tryd.isAgg24 Tryd.sizeOf24 (.plain rfl) (Nat.le_of_ble_eq_true rfl)) (.n (fun _ => op_call1 Tryd.call14 (.plain rfl) (MatchMay_fc _ _)) (.n (fun _ => op_assign (.plain rfl)) (.nil _)))) ?_
  refine awp_seq ?_
  refine awp_seq ?_
  refine awp_region rfl (.n (fun _ => op_move (.plain rfl)) (.n (fun _ => op_neq (.plain rfl) (.plain rfl)) (.nil _))) ?_
  refine awp_cond rfl (fun h => ?_) (fun h => ?_)
  · (try simp only [decide_eq_true_eq, decide_eq_false_iff_not, Bool.and_eq_true, Bool.or_eq_true, Bool.and_eq_false_iff, Bool.or_eq_false_iff, Bool.not_eq_true', Bool.not_eq_false', Bool.not_eq_true, Bool.not_eq_false, Bool.true_eq_false, Bool.false_eq_true] at h); (try simp only [foldN, foldR, foldL, Int.toNat_natCast] at h)
    refine awp_seq ?_
    refine awp_region rfl (.n (fun _ => op_move (.plain rfl)) (.n (fun _ => op_assign (.plain rfl)) (.n (fun _ => op_assign (.plain rfl)) (.nil _)))) ?_
    refine awp_ent (Ent.nilseq 2 (List Int) [] (fun r => [.seq Int 0 (fun n => [.int .i64 n]) r]) rfl) ?_
    refine awp_ret ?_
    refine retQ.ret ?_
    refine ret2 rfl rfl rfl rfl rfl ?_
    rw [← allV_no h]
  · (try simp only [decide_eq_true_eq, decide_eq_false_iff_not, Bool.and_eq_true, Bool.or_eq_true, Bool.and_eq_false_iff, Bool.or_eq_false_iff, Bool.not_eq_true', Bool.not_eq_false', Bool.not_eq_true, Bool.not_eq_false, Bool.true_eq_false, Bool.false_eq_true] at h); (try simp only [foldN, foldR, foldL, Int.toNat_natCast] at h)
    have hM0 : mMayE L R = 0 := by omega
    clear h
    refine awp_skip ?_
    refine awp_seq ?_
    refine awp_region rfl (.n (fun _ => op_load_agg Tryd.isAgg24 Tryd.sizeOf24 (.plain rfl) (Nat.le_of_ble_eq_true rfl)) (.n (fun _ => op_call2 Tryd.call47 (.plain rfl) (.nilS rfl) (stableFrom_fc L R L.length [] ?_ ?_ ?_ ?_)) (.n (fun _ => op_assign (.plain rfl)) (.n (fun _ => op_assign (.plain rfl)) (.nil _))))) ?_
    · (try simp only [foldN, foldR, foldL, Int.toNat_natCast])
      simp
    · (try simp only [foldN, foldR, foldL, Int.toNat_natCast])
      exact mok hM0
    · (try simp only [foldN, foldR, foldL, Int.toNat_natCast])
      exact h4
    · (try simp only [foldN, foldR, foldL, Int.toNat_natCast])
      exact h4l
    refine awp_ret ?_
    refine retQ.ret ?_
    refine ret2 rfl rfl rfl rfl rfl ?_
    rw [← allV_ok hM0, hM0]

set_option maxRecDepth 1000000 in
set_option maxHeartbeats 4000000 in
theorem all1_fch (L R : List Ag) (f : Nat) (w : List Int) (hf : w.length + f = L.length) (hM : MOk L R) (h4 : R.length ≤ 4) (h4l : L.length ≤ 4) (acc : List (List Int)) (ha : acc.length + 5 ^ f ≤ 1000) : FCH Tryd.prog 44 [.pv (.ints w), .pv (.rd [.seq (ByteArray × Int × List Int × Unit) (ByteArray.empty, 0, [], ()) (fun p => [.str p.1, .i p.2.1, .ints p.2.2.1]) L, .seq (ByteArray × Int × List Int × Unit) (ByteArray.empty, 0, [], ()) (fun p => [.str p.1, .i p.2.1, .ints p.2.2.1]) R]), .ref 1 0, .ref 0 0] [(0, .box [.clo (.func 44) [.pv (.rd [.seq (ByteArray × Int × List Int × Unit) (ByteArray.empty, 0, [], ()) (fun p => [.str p.1, .i p.2.1, .ints p.2.2.1]) L, .seq (ByteArray × Int × List Int × Unit) (ByteArray.empty, 0, [], ()) (fun p => [.str p.1, .i p.2.1, .ints p.2.2.1]) R]), .ref 1 0, .ref 0 0]]), (1, .box [.own 2]), (2, .arr 25 1 (List Int) [] (fun r => [.seq Int 0 (fun n => [.int .i64 n]) r]) acc)] [(0, .box [.clo (.func 44) [.pv (.rd [.seq (ByteArray × Int × List Int × Unit) (ByteArray.empty, 0, [], ()) (fun p => [.str p.1, .i p.2.1, .ints p.2.2.1]) L, .seq (ByteArray × Int × List Int × Unit) (ByteArray.empty, 0, [], ()) (fun p => [.str p.1, .i p.2.1, .ints p.2.2.1]) R]), .ref 1 0, .ref 0 0]]), (1, .box [.own 2]), (2, .arr 25 1 (List Int) [] (fun r => [.seq Int 0 (fun n => [.int .i64 n]) r]) (acc ++ allR L R f w))] (.pv (.tup [])) (some 2) := by
  induction f using Nat.strongRecOn generalizing w acc
  rename_i f ih
  refine FCH.intro Tryd.func44 rfl (Nat.le_of_ble_eq_true rfl) (Nat.le_of_ble_eq_true rfl) fun hfit ι0 => ?_
  change awp _ _ _ _ ⟨[(0, .pv (.ints w)), (1, .pv (.rd [.seq (ByteArray × Int × List Int × Unit) (ByteArray.empty, 0, [], ()) (fun p => [.str p.1, .i p.2.1, .ints p.2.2.1]) L, .seq (ByteArray × Int × List Int × Unit) (ByteArray.empty, 0, [], ()) (fun p => [.str p.1, .i p.2.1, .ints p.2.2.1]) R])), (2, .ref 1 0), (3, .ref 0 0), (1000000, .pin 0 (ι0 0)), (1000001, .pin 1 (ι0 1)), (1000002, .pin 2 (ι0 2))], [(0, .box [.clo (.func 44) [.pv (.rd [.seq (ByteArray × Int × List Int × Unit) (ByteArray.empty, 0, [], ()) (fun p => [.str p.1, .i p.2.1, .ints p.2.2.1]) L, .seq (ByteArray × Int × List Int × Unit) (ByteArray.empty, 0, [], ()) (fun p => [.str p.1, .i p.2.1, .ints p.2.2.1]) R]), .ref 1 0, .ref 0 0]]), (1, .box [.own 2]), (2, .arr 25 1 (List Int) [] (fun r => [.seq Int 0 (fun n => [.int .i64 n]) r]) acc)]⟩
  have fit1 := hfit _ (.tail _ (.head _))
  have hlm := allR_len (L := L) (R := R) h4
  refine awp_seq ?_
  refine awp_seq ?_
  refine awp_region rfl (.n (fun _ => op_move (.plain rfl)) (.n (fun _ => op_len (s := 0) Tryd.underlying25 (.plain rfl)) (.n (fun _ => op_fieldAddr Tryd.underlying24 rfl rfl Tryd.sizeOf22 (.plain rfl)) (.n (fun _ => op_load Tryd.isAgg22 (.plain rfl)) (.n (fun _ => op_len (s := 0) Tryd.underlying22 (.plain rfl)) (.n (fun _ => op_eql (.plain rfl) (.plain rfl)) (.nil _))))))) ?_
  refine awp_cond rfl (fun h => ?_) (fun h => ?_)
  · (try simp only [decide_eq_true_eq, decide_eq_false_iff_not, Bool.and_eq_true, Bool.or_eq_true, Bool.and_eq_false_iff, Bool.or_eq_false_iff, Bool.not_eq_true', Bool.not_eq_false', Bool.not_eq_true, Bool.not_eq_false] at h); (try simp only [foldN, foldR, foldL, Int.toNat_natCast] at h)
    obtain rfl : f = 0 := by omega
    clear h
    refine awp_seq ?_
    refine awp_seq ?_
    refine awp_region rfl (.n (fun _ => op_load_agg Tryd.isAgg24 Tryd.sizeOf24 (.plain rfl) (Nat.le_of_ble_eq_true rfl)) (.n (fun _ => op_move (.plain rfl)) (.n (fun _ => op_call2 Tryd.call11 (.plain rfl) (.plain rfl) (Stable_fc _ _ _)) (.n (fun _ => op_move (.plain rfl)) (.n (fun _ => op_extract (.plain rfl) rfl) (.n (fun _ => op_extract (.plain rfl) rfl) (.n (fun _ => op_extract (.plain rfl) rfl) (.n (fun _ => op_extract (.plain rfl) rfl) (.n (fun _ => op_assign (.plain rfl)) (.n (fun _ => op_assign (.plain rfl)) (.n (fun _ => op_assign (.plain rfl)) (.n (fun _ => op_assign (.plain rfl)) (.nil _))))))))))))) ?_
    refine awp_seq ?_
    refine awp_region rfl (.n (fun _ => op_move (.plain rfl)) (.n (fun _ => op_move (.plain rfl)) (.gn rfl rfl (fun hg _ => op_move (.plain rfl)) (.gn rfl rfl (fun hg _ => op_eql (.opt rfl fun h => h) (.plain rfl)) (.n (fun _ => op_and (.plain rfl) (.plain rfl) (.plain rfl) (fun h => eqT h)) (.nil _)))))) ?_
    refine awp_cond rfl (fun h => ?_) (fun h => ?_)
    · (try simp only [decide_eq_true_eq, decide_eq_false_iff_not, Bool.and_eq_true, Bool.or_eq_true, Bool.and_eq_false_iff, Bool.or_eq_false_iff, Bool.not_eq_true', Bool.not_eq_false', Bool.not_eq_true, Bool.not_eq_false] at h); (try simp only [foldN, foldR, foldL, Int.toNat_natCast] at h)
      have hs : stOk L R w = true := h.1
      refine awp_region_draw mixed rfl (.r (op_loadR Tryd.isAgg36 (.plain rfl) rfl rfl) (.n (fun _ => op_move (.plain rfl)) (.n (fun _ => op_call1 Tryd.call45 (.plain rfl) ((clone_fc _ ?_).fc)) (.n (fun _ => op_slit (pp := [(0, _)]) (α := (List Int)) (d := []) (f := (fun r => [.seq Int 0 (fun n => [.int .i64 n]) r])) [_] ety36 rfl ⟨rfl, (.plain rfl), (by simp), trivial⟩ rfl (by decide) rfl) (.e (op_append (id' := 33) (α := (List Int)) (d := []) (f := (fun r => [.seq Int 0 (fun n => [.int .i64 n]) r])) ety36 Tryd.underlying36 (fun _ => rfl) (fun _ => rfl) (.plain rfl) rfl (.plain rfl) rfl ?_) rfl (.e (op_storeR Tryd.sizeOf36 (.plain rfl) (.plain rfl) rfl (by first | decide | exact Nat.le_of_ble_eq_true rfl) rfl (by simp) (fun i h => by cases h; exact ⟨_, _, _, _, _, _, rfl⟩)) rfl (.nil _))))))) ?d4 ?_
      · (try simp only [foldN, foldR, foldL, Int.toNat_natCast])
        first | omega | (simp; omega)
      · (try simp only [foldN, foldR, foldL, Int.toNat_natCast])
        first | omega | (simp; omega)
      · kernel_rfl
      refine awp_ent (show Ent _ ⟨[(1000000, .pin 0 (ι0 0)), (1000001, .pin 1 (ι0 1))], [(0, .box [.clo (.func 44) [.pv (.rd [.seq (ByteArray × Int × List Int × Unit) (ByteArray.empty, 0, [], ()) (fun p => [.str p.1, .i p.2.1, .ints p.2.2.1]) L, .seq (ByteArray × Int × List Int × Unit) (ByteArray.empty, 0, [], ()) (fun p => [.str p.1, .i p.2.1, .ints p.2.2.1]) R]), .ref 1 0, .ref 0 0]]), (1, .box [.own 2]), (2, .arr 25 1 (List Int) [] (fun r => [.seq Int 0 (fun n => [.int .i64 n]) r]) (acc ++ [w]))]⟩ from Ent.round 33 2 ⟨rfl, rfl, trivial⟩ ⟨rfl, rfl, rfl, trivial⟩ rfl rfl rfl ⟨rfl, rfl, trivial⟩ ⟨rfl, rfl, rfl, trivial⟩) ?_
      refine awp_ret ?_
      refine retH.ret ?_
      refine retH0 rfl ⟨rfl, rfl, (congrArg (fun l => some (Blk.arr 25 1 (List Int) [] (fun r => [.seq Int 0 (fun n => [.int .i64 n]) r]) l)) (congrArg (acc ++ ·) (if_pos hs).symm)), trivial⟩ ⟨.inr rfl, .inr rfl, .inl rfl, trivial⟩ ?_
      rfl
    · (try simp only [decide_eq_true_eq, decide_eq_false_iff_not, Bool.and_eq_true, Bool.or_eq_true, Bool.and_eq_false_iff, Bool.or_eq_false_iff, Bool.not_eq_true', Bool.not_eq_false', Bool.not_eq_true, Bool.not_eq_false] at h); (try simp only [foldN, foldR, foldL, Int.toNat_natCast] at h)
      have hs : ¬ stOk L R w = true := stOk_no h
      refine awp_skip ?_
      refine awp_ret ?_
      refine retH.ret ?_
      refine retH0 rfl ⟨rfl, rfl, (congrArg (fun l => some (Blk.arr 25 1 (List Int) [] (fun r => [.seq Int 0 (fun n => [.int .i64 n]) r]) l)) ((List.append_nil acc).symm.trans (congrArg (acc ++ ·) (if_neg hs).symm))), trivial⟩ ⟨.inr rfl, .inr rfl, .inl rfl, trivial⟩ ?_
      rfl
  · (try simp only [decide_eq_true_eq, decide_eq_false_iff_not, Bool.and_eq_true, Bool.or_eq_true, Bool.and_eq_false_iff, Bool.or_eq_false_iff, Bool.not_eq_true', Bool.not_eq_false', Bool.not_eq_true, Bool.not_eq_false] at h); (try simp only [foldN, foldR, foldL, Int.toNat_natCast] at h)
    obtain ⟨f, rfl⟩ : ∃ g, f = g + 1 := ⟨f - 1, by omega⟩
    clear h
    have hw4 : w.length ≤ 4 := by omega
    refine awp_skip ?_
    refine awp_seq ?_
    refine awp_region rfl (.n (fun _ => op_assign (.plain rfl)) (.nil _)) ?_
    refine awp_block ?_
    refine awp_loop (σ := Nat) (fun (k : Nat) => k ≤ R.length + 1) (fun (k : Nat) => ⟨[(0, .pv (.ints w)), (1, .pv (.rd [.seq (ByteArray × Int × List Int × Unit) (ByteArray.empty, 0, [], ()) (fun p => [.str p.1, .i p.2.1, .ints p.2.2.1]) L, .seq (ByteArray × Int × List Int × Unit) (ByteArray.empty, 0, [], ()) (fun p => [.str p.1, .i p.2.1, .ints p.2.2.1]) R])), (2, .ref 1 0), (3, .ref 0 0), (9, .int ((k : Int) - 1)), (1000000, .pin 0 (ι0 0)), (1000001, .pin 1 (ι0 1))], [(0, .box [.clo (.func 44) [.pv (.rd [.seq (ByteArray × Int × List Int × Unit) (ByteArray.empty, 0, [], ()) (fun p => [.str p.1, .i p.2.1, .ints p.2.2.1]) L, .seq (ByteArray × Int × List Int × Unit) (ByteArray.empty, 0, [], ()) (fun p => [.str p.1, .i p.2.1, .ints p.2.2.1]) R]), .ref 1 0, .ref 0 0]]), (1, .box [.own 2]), (2, .arr 25 1 (List Int) [] (fun r => [.seq Int 0 (fun n => [.int .i64 n]) r]) (acc ++ allK L R (allR L R f) w k))]⟩) (fun (k : Nat) => R.length + 1 - k) 0 ?_ (Ent.kept ⟨rfl, rfl, rfl, rfl, rfl, rfl, rfl, trivial⟩ ⟨rfl, rfl, (congrArg (fun l => some (Blk.arr 25 1 (List Int) [] (fun r => [.seq Int 0 (fun n => [.int .i64 n]) r]) l)) ((List.append_nil _).symm)), trivial⟩) ?_
    · exact Nat.zero_le _
    rintro k hp
    try dsimp only at hp
    have hk := hp
    refine awp_seq ?_
    refine awp_seq ?_
    refine awp_region rfl (.n (fun _ => op_move (.plain rfl)) (.n (fun _ => op_fieldAddr Tryd.underlying24 rfl rfl Tryd.sizeOf22 (.plain rfl)) (.n (fun _ => op_load Tryd.isAgg22 (.plain rfl)) (.n (fun _ => op_len (s := 0) Tryd.underlying22 (.plain rfl)) (.n (fun _ => op_lss (.plain rfl) (.plain rfl)) (.nil _)))))) ?_
    refine awp_cond rfl (fun h => ?_) (fun h => ?_)
    · (try simp only [decide_eq_true_eq, decide_eq_false_iff_not, Bool.and_eq_true, Bool.or_eq_true, Bool.and_eq_false_iff, Bool.or_eq_false_iff, Bool.not_eq_true', Bool.not_eq_false', Bool.not_eq_true, Bool.not_eq_false] at h); (try simp only [foldN, foldR, foldL, Int.toNat_natCast] at h)
      refine awp_skip ?_
      refine awp_seq ?_
      refine awp_block ?_
      refine awp_seq ?_
      refine awp_region_draw mixed rfl (.n (fun _ => op_move (.plain rfl)) (.n (fun _ => op_lss (.plain rfl) (.plain rfl)) (.n (fun _ => op_move (.plain rfl)) (.gn rfl rfl (fun hg _ => op_load_agg Tryd.isAgg24 Tryd.sizeOf24 (.plain rfl) (Nat.le_of_ble_eq_true rfl)) (.gn rfl rfl (fun hg _ => op_move (.plain rfl)) (.gn rfl rfl (fun hg _ => op_len (s := 0) Tryd.underlying25 (.opt rfl fun h => h)) (.gn rfl rfl (fun hg _ => op_move (.plain rfl)) (.gn rfl rfl (fun hg _ => op_call3 Tryd.call35 (.opt rfl fun h => h) (.opt rfl fun h => h) (.opt rfl fun h => h) (likes_fc L R w.length (k - 1) _ _ ?_ ?_ ?_ ?_)) (.gn rfl rfl (fun hg _ => op_move (.opt rfl fun h => h)) (.ggn rfl rfl (fun hg _ => op_move (.plain rfl)) (.ggn rfl rfl (fun hg _ => op_move (.plain rfl)) (.ggn rfl rfl (fun hg _ => op_call2 Tryd.call46 (.opt rfl fun h => h) (.opt rfl fun h => h) (count_fc _ _)) (.ggn rfl rfl (fun hg _ => op_fieldAddr Tryd.underlying24 rfl rfl Tryd.sizeOf22 (.plain rfl)) (.ggn rfl rfl (fun hg _ => op_load Tryd.isAgg22 (.opt rfl fun h => h)) (.ggn rfl rfl (fun hg _ => op_move (.plain rfl)) (.ggn rfl rfl (fun hg _ => op_indexAddr Tryd.underlying22 Tryd.sizeOf48 (.opt rfl fun h => h) (.opt rfl fun h => h) (fun _ => rfl) ?_) (.ggn rfl rfl (fun hg _ => op_fieldAddr Tryd.underlying48 rfl rfl Tryd.sizeOf3 (.opt rfl fun h => h)) (.ggn rfl rfl (fun hg _ => op_load Tryd.isAgg3 (.opt rfl fun h => h)) (.ggn rfl rfl (fun hg _ => op_lss (.opt rfl fun h => h) (.opt rfl fun h => h)) (.gn rfl rfl (fun hg _ => op_and (.opt rfl fun h => h) (.plain rfl) (.plain rfl) (fun h => andI hg (eqT h))) (.n (fun _ => op_or (.plain rfl) (.plain rfl) (.plain rfl) (fun h => eqF h)) (.nil _)))))))))))))))))))))) ?d5 ?_
      · try simp only [beq_iff_eq, beq_true, beq_false, Bool.and_eq_true, decide_eq_true_eq, decide_eq_false_iff_not, Bool.not_eq_true', Bool.or_eq_true, Bool.or_eq_false_iff] at hg
        (try simp only [foldN, foldR, foldL, Int.toNat_natCast])
        try (first | rfl | omega)
      · try simp only [beq_iff_eq, beq_true, beq_false, Bool.and_eq_true, decide_eq_true_eq, decide_eq_false_iff_not, Bool.not_eq_true', Bool.or_eq_true, Bool.or_eq_false_iff] at hg
        (try simp only [foldN, foldR, foldL, Int.toNat_natCast])
        try (first | rfl | omega)
      · try simp only [beq_iff_eq, beq_true, beq_false, Bool.and_eq_true, decide_eq_true_eq, decide_eq_false_iff_not, Bool.not_eq_true', Bool.or_eq_true, Bool.or_eq_false_iff] at hg
        (try simp only [foldN, foldR, foldL, Int.toNat_natCast])
        omega
      · try simp only [beq_iff_eq, beq_true, beq_false, Bool.and_eq_true, decide_eq_true_eq, decide_eq_false_iff_not, Bool.not_eq_true', Bool.or_eq_true, Bool.or_eq_false_iff] at hg
        (try simp only [foldN, foldR, foldL, Int.toNat_natCast])
        omega
      · try simp only [beq_iff_eq, beq_true, beq_false, Bool.and_eq_true, decide_eq_true_eq, decide_eq_false_iff_not, Bool.not_eq_true', Bool.or_eq_true, Bool.or_eq_false_iff] at hg
        (try simp only [foldN, foldR, foldL, Int.toNat_natCast])
        omega
      · kernel_rfl
      refine awp_cond rfl (fun h => ?_) (fun h => ?_)
      · (try simp only [decide_eq_true_eq, decide_eq_false_iff_not, Bool.and_eq_true, Bool.or_eq_true, Bool.and_eq_false_iff, Bool.or_eq_false_iff, Bool.not_eq_true', Bool.not_eq_false', Bool.not_eq_true, Bool.not_eq_false] at h); (try simp only [foldN, foldR, foldL, Int.toNat_natCast] at h)
        have hok : k = 0 ∨ likesF L R w.length (k - 1) = true := by
          rcases h with h | h
          · exact .inl (by omega)
          · exact .inr h.1
        refine awp_region_drawG mixed rfl (.look 0 rfl (fun _ hl => op_loadR Tryd.isAgg58 (.plain rfl)  hl rfl) (.n (fun _ => op_move (.plain rfl)) (.e (op_callO (vals := [_]) 64 Tryd.call45 ⟨⟨_, (.plain rfl), rfl⟩, trivial⟩ (clone_fc _ ?_) (by simp [PV.flat]) rfl) rfl (.n (fun _ => op_move (.plain rfl)) (.n (fun _ => op_slit (pp := [(0, _)]) (α := Int) (d := 0) (f := (fun n => [.int .i64 n])) [_] ety25 rfl ⟨rfl, (.plain rfl), (by simp), trivial⟩ rfl (by decide) rfl) (.e ((op_append (id' := 67) (α := Int) (d := 0) (f := (fun n => [.int .i64 n])) ety25 Tryd.underlying25 (fun _ => rfl) (fun _ => rfl) (.plain rfl) rfl (.plain rfl) rfl ?_).given rfl) rfl (.e (op_callVH (ags := [_]) (fun k => [0, 1, 2].getD k 0) Tryd.call44 (ih f (by omega) (w ++ [(k : Int) - 1]) ?_ _ ?_) (.plain rfl) ⟨(.plain rfl), trivial⟩ ⟨rfl, rfl, rfl, trivial⟩ (by kernel_rfl)) rfl (.nil _)))))))) ?d6 ?dg6 ?_
        · (try simp only [foldN, foldR, foldL, Int.toNat_natCast])
          first | omega | (simp; omega)
        · (try simp only [foldN, foldR, foldL, Int.toNat_natCast])
          first | omega | (simp; omega)
        · (try simp only [foldN, foldR, foldL, Int.toNat_natCast])
          first | omega | (simp; done) | (simp; omega)
        · (try simp only [foldN, foldR, foldL, Int.toNat_natCast])
          rw [List.length_append]
          have h1 := allK_len (L := L) (R := R) (w := w) (g := allR L R f) (fun v => hlm f v) k
          have h2 := Nat.mul_le_mul_right (5 ^ f) (show k ≤ 4 by omega)
          rw [Nat.pow_succ] at ha
          omega
        · kernel_rfl
        · exact gOk_one 0 0 _ [2, 5] rfl (by kernel_rfl) rfl (by kernel_rfl) (fun k hk => by simp only [List.mem_cons, List.not_mem_nil, or_false] at hk; first | (subst hk; rfl) | (rcases hk with hk | hk <;> subst hk <;> rfl))
        refine awp_region rfl (.n (fun _ => op_move (.plain rfl)) (.n (fun _ => op_add (.plain rfl) (.plain rfl) ?_) (.n (fun _ => op_assign (.plain rfl)) (.nil _)))) ?_
        · (try simp only [foldN, foldR, foldL, Int.toNat_natCast])
          unfold InR; omega
        exact ⟨k + 1, by omega, by dsimp only; omega, (Ent.kept ⟨rfl, rfl, rfl, rfl, (congrArg (fun n : Int => some (SV.int n)) (by omega)), rfl, rfl, trivial⟩ ⟨rfl, rfl, (by first | exact (congrArg (fun l => some (Blk.arr 25 1 (List Int) [] (fun r => [.seq Int 0 (fun n => [.int .i64 n]) r]) l)) (by rw [List.append_assoc, allK_yes hok])) | exact (congrArg (fun l => some (Blk.arr 25 1 (List Int) [] (fun r => [.seq Int 0 (fun n => [.int .i64 n]) r]) l)) (by rw [hsk]))), trivial⟩)⟩
      · (try simp only [decide_eq_true_eq, decide_eq_false_iff_not, Bool.and_eq_true, Bool.or_eq_true, Bool.and_eq_false_iff, Bool.or_eq_false_iff, Bool.not_eq_true', Bool.not_eq_false', Bool.not_eq_true, Bool.not_eq_false] at h); (try simp only [foldN, foldR, foldL, Int.toNat_natCast] at h)
        have e1 : (k : Int) - 1 = ((k - 1 : Nat) : Int) := by omega
        rw [e1] at h
        simp only [Int.toNat_natCast] at h
        have hsk := allK_skip (L := L) (R := R) (w := w) (f := f) (k := k) (by omega) (by omega) h.2
        refine awp_skip ?_
        refine awp_region rfl (.n (fun _ => op_move (.plain rfl)) (.n (fun _ => op_add (.plain rfl) (.plain rfl) ?_) (.n (fun _ => op_assign (.plain rfl)) (.nil _)))) ?_
        · (try simp only [foldN, foldR, foldL, Int.toNat_natCast])
          unfold InR; omega
        exact ⟨k + 1, by omega, by dsimp only; omega, (Ent.kept ⟨rfl, rfl, rfl, rfl, (congrArg (fun n : Int => some (SV.int n)) (by omega)), rfl, rfl, trivial⟩ ⟨rfl, rfl, (by first | exact (congrArg (fun l => some (Blk.arr 25 1 (List Int) [] (fun r => [.seq Int 0 (fun n => [.int .i64 n]) r]) l)) (by rw [List.append_assoc, allK_yes hok])) | exact (congrArg (fun l => some (Blk.arr 25 1 (List Int) [] (fun r => [.seq Int 0 (fun n => [.int .i64 n]) r]) l)) (by rw [hsk]))), trivial⟩)⟩
    · (try simp only [decide_eq_true_eq, decide_eq_false_iff_not, Bool.and_eq_true, Bool.or_eq_true, Bool.and_eq_false_iff, Bool.or_eq_false_iff, Bool.not_eq_true', Bool.not_eq_false', Bool.not_eq_true, Bool.not_eq_false] at h); (try simp only [foldN, foldR, foldL, Int.toNat_natCast] at h)
      refine awp_exit ?_
      refine retH0 rfl ⟨rfl, rfl, (congrArg (fun l => some (Blk.arr 25 1 (List Int) [] (fun r => [.seq Int 0 (fun n => [.int .i64 n]) r]) l)) (congrArg (acc ++ ·) (show allK L R (allR L R f) w k = _ by rw [show k = R.length + 1 by omega]; rfl))), trivial⟩ ⟨.inr rfl, .inr rfl, .inl rfl, trivial⟩ ?_
      rfl

set_option maxRecDepth 1000000 in
set_option maxHeartbeats 1000000 in
theorem All_fc (L R : List Ag) (h4 : R.length ≤ 4) (h4l : L.length ≤ 4) : FC Tryd.prog 19 [.agg [.seq (ByteArray × Int × List Int × Unit) (ByteArray.empty, 0, [], ()) (fun p => [.str p.1, .i p.2.1, .ints p.2.2.1]) L, .seq (ByteArray × Int × List Int × Unit) (ByteArray.empty, 0, [], ()) (fun p => [.str p.1, .i p.2.1, .ints p.2.2.1]) R]] (.tup [.rows (allV L R), .i (mMayE L R)]) := by
  refine FC.intro Tryd.func19 rfl (Nat.le_of_ble_eq_true rfl) fun hfit => ?_
  have fit0 := hfit _ (.head _)
  have hfl : L.length ≤ 281474976710656 := by cases fit0 with | agg _ h => exact (h 0 (by simp)).len
  have hfr : R.length ≤ 281474976710656 := by cases fit0 with | agg _ h => exact (h 1 (by simp)).len
  refine awp_seq ?_
  refine awp_region rfl (.n (fun _ => op_box (.plain rfl) (by simp)) (.n (fun _ => op_assign (.plain rfl)) (.n (fun _ => op_assign (.plain rfl)) (.nil _)))) ?_
  refine awp_seq ?_
  refine awp_seq ?_
  refine awp_region rfl (.n (fun _ => op_load_agg Tryd.isAgg24 Tryd.sizeOf24 (.plain rfl) (Nat.le_of_ble_eq_true rfl)) (.n (fun _ => op_call1 Tryd.call13 (.plain rfl) (mMay_fc _ _)) (.n (fun _ => op_assign (.plain rfl)) (.nil _)))) ?_
  refine awp_seq ?_
  refine awp_region rfl (.n (fun _ => op_move (.plain rfl)) (.n (fun _ => op_neq (.plain rfl) (.plain rfl)) (.nil _))) ?_
  refine awp_cond rfl (fun h => ?_) (fun h => ?_)
  · (try simp only [decide_eq_true_eq, decide_eq_false_iff_not, Bool.and_eq_true, Bool.or_eq_true, Bool.and_eq_false_iff, Bool.or_eq_false_iff, Bool.not_eq_true', Bool.not_eq_false', Bool.not_eq_true, Bool.not_eq_false, Bool.true_eq_false, Bool.false_eq_true] at h); (try simp only [foldN, foldR, foldL, Int.toNat_natCast] at h)
    refine awp_seq ?_
    refine awp_region rfl (.n (fun _ => op_move (.plain rfl)) (.n (fun _ => op_assign (.plain rfl)) (.n (fun _ => op_assign (.plain rfl)) (.nil _)))) ?_
    refine awp_ent (Ent.nilseq 2 (List Int) [] (fun r => [.seq Int 0 (fun n => [.int .i64 n]) r]) rfl) ?_
    refine awp_ret ?_
    refine retQ.ret ?_
    refine ret2 rfl rfl rfl rfl rfl ?_
    rw [← allV_no h]
  · (try simp only [decide_eq_true_eq, decide_eq_false_iff_not, Bool.and_eq_true, Bool.or_eq_true, Bool.and_eq_false_iff, Bool.or_eq_false_iff, Bool.not_eq_true', Bool.not_eq_false', Bool.not_eq_true, Bool.not_eq_false, Bool.true_eq_false, Bool.false_eq_true] at h); (try simp only [foldN, foldR, foldL, Int.toNat_natCast] at h)
    have hM0 : mMayE L R = 0 := by omega
    clear h
    refine awp_skip ?_
    refine awp_seq ?_
    refine awp_region rfl (.e (op_alloc 5 Tryd.zeroValue36 rfl rfl rfl) rfl (.nil _)) ?_
    refine awp_seq ?_
    refine awp_region rfl (.e (op_alloc 6 Tryd.zeroValue58 rfl rfl rfl) rfl (.nil _)) ?_
    refine awp_seq ?_
    refine awp_region rfl (.n (fun _ => op_makeFuncS (cs := [_, _, _]) ⟨(.plain rfl), (.plain rfl), (.plain rfl), trivial⟩) (.e (op_storeR Tryd.sizeOf58 (.plain rfl) (.plain rfl) rfl (by first | decide | exact Nat.le_of_ble_eq_true rfl) rfl (by simp) (by simp)) rfl (.nil _))) ?_
    refine awp_seq ?_
    refine awp_ent (Ent.beginB 5 0 2000 25 1 (List Int) [] (fun r => [.seq Int 0 (fun n => [.int .i64 n]) r]) rfl rfl (by decide) rfl rfl) ?_
    refine awp_region rfl (.r (op_loadR Tryd.isAgg58 (.plain rfl) rfl rfl) (.e (op_callVH (ags := [_]) (fun k => [6, 5, 2000].getD k 0) Tryd.call44 (all1_fch L R L.length [] ?_ ?_ ?_ ?_ [] ?_) (.plain rfl) ⟨(.nilS rfl), trivial⟩ ⟨rfl, rfl, rfl, trivial⟩ (by kernel_rfl)) rfl (.nil _))) ?_
    · (try simp only [foldN, foldR, foldL, Int.toNat_natCast])
      simp
    · (try simp only [foldN, foldR, foldL, Int.toNat_natCast])
      exact mok hM0
    · (try simp only [foldN, foldR, foldL, Int.toNat_natCast])
      exact h4
    · (try simp only [foldN, foldR, foldL, Int.toNat_natCast])
      exact h4l
    · (try simp only [foldN, foldR, foldL, Int.toNat_natCast])
      have := five_le h4l; simp; omega
    refine awp_seq ?_
    refine awp_region rfl (.r (op_loadR Tryd.isAgg36 (.plain rfl) rfl rfl) (.n (fun _ => op_assign (.plain rfl)) (.n (fun _ => op_assign (.plain rfl)) (.nil _)))) ?_
    refine awp_ret ?_
    refine retQ.ret ?_
    refine ret2 rfl rfl rfl rfl rfl ?_
    rw [← allV_ok hM0, hM0]; rfl

set_option maxRecDepth 1000000 in
set_option maxHeartbeats 1000000 in
theorem BestStable_fc (L R : List Ag) (h4 : R.length ≤ 4) (h4l : L.length ≤ 4) (bt : Bool) : FC Tryd.prog 24 [.agg [.seq (ByteArray × Int × List Int × Unit) (ByteArray.empty, 0, [], ()) (fun p => [.str p.1, .i p.2.1, .ints p.2.2.1]) L, .seq (ByteArray × Int × List Int × Unit) (ByteArray.empty, 0, [], ()) (fun p => [.str p.1, .i p.2.1, .ints p.2.2.1]) R], .bool bt] (.tup [.ints (bestR L R bt), .i (mMayE L R)]) := by
  refine FC.intro Tryd.func24 rfl (Nat.le_of_ble_eq_true rfl) fun hfit => ?_
  have fit0 := hfit _ (.head _)
  have fit1 := hfit _ (.tail _ (.head _))
  have hfl : L.length ≤ 281474976710656 := by cases fit0 with | agg _ h => exact (h 0 (by simp)).len
  have hfr : R.length ≤ 281474976710656 := by cases fit0 with | agg _ h => exact (h 1 (by simp)).len
  refine awp_seq ?_
  refine awp_region rfl (.n (fun _ => op_box (.plain rfl) (by simp)) (.n (fun _ => op_assign (.plain rfl)) (.n (fun _ => op_assign (.plain rfl)) (.nil _)))) ?_
  refine awp_seq ?_
  refine awp_region rfl (.n (fun _ => op_load_agg Tryd.isAgg24 Tryd.sizeOf24 (.plain rfl) (Nat.le_of_ble_eq_true rfl)) (.n (fun _ => op_call1 Tryd.call20 (.plain rfl) (AllStable_fc L R h4 h4l)) (.n (fun _ => op_move (.plain rfl)) (.n (fun _ => op_extract (.plain rfl) rfl) (.n (fun _ => op_extract (.plain rfl) rfl) (.n (fun _ => op_assign (.plain rfl)) (.n (fun _ => op_assign (.plain rfl)) (.nil _)))))))) ?_
  refine awp_seq ?_
  refine awp_seq ?_
  refine awp_region rfl (.n (fun _ => op_move (.plain rfl)) (.n (fun _ => op_neq (.plain rfl) (.plain rfl)) (.nil _))) ?_
  refine awp_cond rfl (fun h => ?_) (fun h => ?_)
  · (try simp only [decide_eq_true_eq, decide_eq_false_iff_not, Bool.and_eq_true, Bool.or_eq_true, Bool.and_eq_false_iff, Bool.or_eq_false_iff, Bool.not_eq_true', Bool.not_eq_false', Bool.not_eq_true, Bool.not_eq_false, Bool.true_eq_false, Bool.false_eq_true] at h); (try simp only [foldN, foldR, foldL, Int.toNat_natCast] at h)
    refine awp_seq ?_
    refine awp_region rfl (.n (fun _ => op_move (.plain rfl)) (.n (fun _ => op_assign (.plain rfl)) (.n (fun _ => op_assign (.plain rfl)) (.nil _)))) ?_
    refine awp_ent (Ent.nilseq 4 Int 0 (fun n => [.int .i64 n]) rfl) ?_
    refine awp_ret ?_
    refine retQ.ret ?_
    refine ret2 rfl rfl rfl rfl rfl ?_
    unfold bestR; rw [if_neg h]
  · (try simp only [decide_eq_true_eq, decide_eq_false_iff_not, Bool.and_eq_true, Bool.or_eq_true, Bool.and_eq_false_iff, Bool.or_eq_false_iff, Bool.not_eq_true', Bool.not_eq_false', Bool.not_eq_true, Bool.not_eq_false, Bool.true_eq_false, Bool.false_eq_true] at h); (try simp only [foldN, foldR, foldL, Int.toNat_natCast] at h)
    have hM0 : mMayE L R = 0 := by omega
    clear h
    have hpos := allV_pos hM0
    have hll : (allV L R).length ≤ 625 := by
      rw [← allV_ok hM0]
      exact Nat.le_trans (allR_len h4 _ _) (five_le h4l)
    refine awp_skip ?_
    refine awp_seq ?_
    refine awp_region rfl (.n (fun _ => op_move (.plain rfl)) (.n (fun _ => op_indexAddr Tryd.underlying36 Tryd.sizeOf25 (.plain rfl) (.plain rfl) (fun _ => rfl) ?_) (.n (fun _ => op_load Tryd.isAgg25 (.plain rfl)) (.n (fun _ => op_assign (.plain rfl)) (.nil _))))) ?_
    · (try simp only [foldN, foldR, foldL, Int.toNat_natCast])
      have := allV_pos hM0
      omega
    refine awp_seq ?_
    refine awp_seq ?_
    refine awp_region rfl (.n (fun _ => op_assign (.plain rfl)) (.nil _)) ?_
    refine awp_block ?_
    refine awp_loop (σ := Nat) (fun (k : Nat) => k < (allV L R).length) (fun (k : Nat) => ⟨[(1, .bool bt), (2, .pv (.rd [.seq (ByteArray × Int × List Int × Unit) (ByteArray.empty, 0, [], ()) (fun p => [.str p.1, .i p.2.1, .ints p.2.2.1]) L, .seq (ByteArray × Int × List Int × Unit) (ByteArray.empty, 0, [], ()) (fun p => [.str p.1, .i p.2.1, .ints p.2.2.1]) R])), (6, .pv (.rows (allV L R))), (8, .pv (.ints (bstF L R bt (allV L R) k))), (9, .int (k + 1 : Nat))], []⟩) (fun (k : Nat) => (allV L R).length - k) 0 ?_ (Ent.kept ⟨rfl, rfl, rfl, rfl, rfl, trivial⟩ trivial) ?_
    · exact hpos
    rintro k hp
    try dsimp only at hp
    have hk := hp
    refine awp_seq ?_
    refine awp_seq ?_
    refine awp_region rfl (.n (fun _ => op_move (.plain rfl)) (.n (fun _ => op_move (.plain rfl)) (.n (fun _ => op_len (s := 0) Tryd.underlying36 (.plain rfl)) (.n (fun _ => op_lss (.plain rfl) (.plain rfl)) (.nil _))))) ?_
    refine awp_cond rfl (fun h => ?_) (fun h => ?_)
    · (try simp only [decide_eq_true_eq, decide_eq_false_iff_not, Bool.and_eq_true, Bool.or_eq_true, Bool.and_eq_false_iff, Bool.or_eq_false_iff, Bool.not_eq_true', Bool.not_eq_false', Bool.not_eq_true, Bool.not_eq_false, Bool.true_eq_false, Bool.false_eq_true] at h); (try simp only [foldN, foldR, foldL, Int.toNat_natCast] at h)
      refine awp_skip ?_
      refine awp_seq ?_
      refine awp_block ?_
      refine awp_region_draw mixed rfl (.n (fun _ => op_load_agg Tryd.isAgg24 Tryd.sizeOf24 (.plain rfl) (Nat.le_of_ble_eq_true rfl)) (.n (fun _ => op_move (.plain rfl)) (.n (fun _ => op_move (.plain rfl)) (.n (fun _ => op_move (.plain rfl)) (.n (fun _ => op_indexAddrN Tryd.underlying36 Tryd.sizeOf25 (.plain rfl) (.plain rfl) (fun _ => rfl) ?_) (.n (fun _ => op_load Tryd.isAgg25 (.plain rfl)) (.n (fun _ => op_move (.plain rfl)) (.n (fun _ => op_call4 Tryd.call16 (.plain rfl) (.plain rfl) (.plain rfl) (.plain rfl) (Blend_fc _ _ _ _ _)) (.n (fun _ => op_move (.plain rfl)) (.n (fun _ => op_extract (.plain rfl) rfl) (.n (fun _ => op_extract (.plain rfl) rfl) (.n (fun _ => op_assign (.plain rfl)) (.nil _))))))))))))) ?d7 ?_
      · (try simp only [foldN, foldR, foldL, Int.toNat_natCast])
        omega
      · kernel_rfl
      refine awp_region rfl (.n (fun _ => op_move (.plain rfl)) (.n (fun _ => op_add (.plain rfl) (.plain rfl) ?_) (.n (fun _ => op_assign (.plain rfl)) (.nil _)))) ?_
      · (try simp only [foldN, foldR, foldL, Int.toNat_natCast])
        unfold InR; omega
      exact ⟨k + 1, by omega, by dsimp only; omega, (Ent.kept ⟨rfl, rfl, rfl, rfl, rfl, trivial⟩ trivial)⟩
    · (try simp only [decide_eq_true_eq, decide_eq_false_iff_not, Bool.and_eq_true, Bool.or_eq_true, Bool.and_eq_false_iff, Bool.or_eq_false_iff, Bool.not_eq_true', Bool.not_eq_false', Bool.not_eq_true, Bool.not_eq_false, Bool.true_eq_false, Bool.false_eq_true] at h); (try simp only [foldN, foldR, foldL, Int.toNat_natCast] at h)
      refine awp_exit ?_
      refine awp_seq ?_
      refine awp_region rfl (.n (fun _ => op_move (.plain rfl)) (.n (fun _ => op_assign (.plain rfl)) (.n (fun _ => op_assign (.plain rfl)) (.nil _)))) ?_
      refine awp_ret ?_
      refine retQ.ret ?_
      refine ret2 rfl rfl rfl rfl rfl ?_
      unfold bestR; rw [if_pos hM0, hM0, show (allV L R).length - 1 = k by omega]

set_option maxRecDepth 1000000 in
set_option maxHeartbeats 1000000 in
theorem MatchFinds_fc (L R : List Ag) : FC Tryd.prog 4 [.agg [.seq (ByteArray × Int × List Int × Unit) (ByteArray.empty, 0, [], ()) (fun p => [.str p.1, .i p.2.1, .ints p.2.2.1]) L, .seq (ByteArray × Int × List Int × Unit) (ByteArray.empty, 0, [], ()) (fun p => [.str p.1, .i p.2.1, .ints p.2.2.1]) R]] (.bool true) := by
  refine FC.intro Tryd.func4 rfl (Nat.le_of_ble_eq_true rfl) fun hfit => ?_
  have fit0 := hfit _ (.head _)
  have hfl : L.length ≤ 281474976710656 := by cases fit0 with | agg _ h => exact (h 0 (by simp)).len
  have hfr : R.length ≤ 281474976710656 := by cases fit0 with | agg _ h => exact (h 1 (by simp)).len
  refine awp_seq ?_
  refine awp_region rfl (.n (fun _ => op_box (.plain rfl) (by simp)) (.n (fun _ => op_assign (.plain rfl)) (.nil _))) ?_
  refine awp_seq ?_
  refine awp_seq ?_
  refine awp_region rfl (.n (fun _ => op_load_agg Tryd.isAgg24 Tryd.sizeOf24 (.plain rfl) (Nat.le_of_ble_eq_true rfl)) (.n (fun _ => op_call1 Tryd.call10 (.plain rfl) (heavyPairing_fc _ _)) (.n (fun _ => op_move (.plain rfl)) (.gn rfl rfl (fun hg _ => op_fieldAddr Tryd.underlying24 rfl rfl Tryd.sizeOf22 (.plain rfl)) (.gn rfl rfl (fun hg _ => op_load Tryd.isAgg22 (.opt rfl fun h => h)) (.gn rfl rfl (fun hg _ => op_len (s := 0) Tryd.underlying22 (.opt rfl fun h => h)) (.gn rfl rfl (fun hg _ => op_gtr (.opt rfl fun h => h) (.plain rfl)) (.n (fun _ => op_or (.plain rfl) (.plain rfl) (.plain rfl) (fun h => eqF h)) (.n (fun _ => op_move (.plain rfl)) (.gn rfl rfl (fun hg _ => op_fieldAddr Tryd.underlying24 rfl rfl Tryd.sizeOf22 (.plain rfl)) (.gn rfl rfl (fun hg _ => op_load Tryd.isAgg22 (.opt rfl fun h => h)) (.gn rfl rfl (fun hg _ => op_len (s := 0) Tryd.underlying22 (.opt rfl fun h => h)) (.gn rfl rfl (fun hg _ => op_gtr (.opt rfl fun h => h) (.plain rfl)) (.n (fun _ => op_or (.plain rfl) (.plain rfl) (.plain rfl) (fun h => eqF h)) (.nil _))))))))))))))) ?_
  refine awp_cond rfl (fun h => ?_) (fun h => ?_)
  · (try simp only [decide_eq_true_eq, decide_eq_false_iff_not, Bool.and_eq_true, Bool.or_eq_true, Bool.and_eq_false_iff, Bool.or_eq_false_iff, Bool.not_eq_true', Bool.not_eq_false', Bool.not_eq_true, Bool.not_eq_false, Bool.true_eq_false, Bool.false_eq_true] at h); (try simp only [foldN, foldR, foldL, Int.toNat_natCast] at h)
    refine awp_seq ?_
    refine awp_region rfl (.n (fun _ => op_assign (.plain rfl)) (.nil _)) ?_
    refine awp_ret ?_
    refine retQ.ret ?_
    refine ret1 rfl rfl rfl ?_
    rfl
  · (try simp only [decide_eq_true_eq, decide_eq_false_iff_not, Bool.and_eq_true, Bool.or_eq_true, Bool.and_eq_false_iff, Bool.or_eq_false_iff, Bool.not_eq_true', Bool.not_eq_false', Bool.not_eq_true, Bool.not_eq_false, Bool.true_eq_false, Bool.false_eq_true] at h); (try simp only [foldN, foldR, foldL, Int.toNat_natCast] at h)
    have h4l : L.length ≤ 4 := by omega
    have h4 : R.length ≤ 4 := by omega
    clear h
    refine awp_skip ?_
    refine awp_seq ?_
    refine awp_region rfl (.n (fun _ => op_load_agg Tryd.isAgg24 Tryd.sizeOf24 (.plain rfl) (Nat.le_of_ble_eq_true rfl)) (.n (fun _ => op_call1 Tryd.call19 (.plain rfl) (All_fc _ _ ?_ ?_)) (.n (fun _ => op_move (.plain rfl)) (.n (fun _ => op_extract (.plain rfl) rfl) (.n (fun _ => op_extract (.plain rfl) rfl) (.n (fun _ => op_assign (.plain rfl)) (.n (fun _ => op_assign (.plain rfl)) (.nil _)))))))) ?_
    · (try simp only [foldN, foldR, foldL, Int.toNat_natCast])
      omega
    · (try simp only [foldN, foldR, foldL, Int.toNat_natCast])
      omega
    refine awp_seq ?_
    refine awp_region rfl (.n (fun _ => op_load_agg Tryd.isAgg24 Tryd.sizeOf24 (.plain rfl) (Nat.le_of_ble_eq_true rfl)) (.n (fun _ => op_call1 Tryd.call20 (.plain rfl) (AllStable_fc _ _ ?_ ?_)) (.n (fun _ => op_move (.plain rfl)) (.n (fun _ => op_extract (.plain rfl) rfl) (.n (fun _ => op_extract (.plain rfl) rfl) (.n (fun _ => op_assign (.plain rfl)) (.n (fun _ => op_assign (.plain rfl)) (.nil _)))))))) ?_
    · (try simp only [foldN, foldR, foldL, Int.toNat_natCast])
      omega
    · (try simp only [foldN, foldR, foldL, Int.toNat_natCast])
      omega
    refine awp_seq ?_
    refine awp_seq ?_
    refine awp_region rfl (.n (fun _ => op_move (.plain rfl)) (.n (fun _ => op_move (.plain rfl)) (.n (fun _ => op_neq (.plain rfl) (.plain rfl)) (.n (fun _ => op_move (.plain rfl)) (.gn rfl rfl (fun hg _ => op_move (.plain rfl)) (.gn rfl rfl (fun hg _ => op_move (.plain rfl)) (.gn rfl rfl (fun hg _ => op_call2 Tryd.call21 (.opt rfl fun h => h) (.opt rfl fun h => h) (sameLists_fc _ _)) (.gn rfl rfl (fun hg _ => op_not (.opt rfl fun h => h)) (.n (fun _ => op_or (.plain rfl) (.plain rfl) (.plain rfl) (fun h => eqF h)) (.nil _)))))))))) ?_
    refine awp_cond rfl (fun h => ?_) (fun h => ?_)
    · (try simp only [decide_eq_true_eq, decide_eq_false_iff_not, Bool.and_eq_true, Bool.or_eq_true, Bool.and_eq_false_iff, Bool.or_eq_false_iff, Bool.not_eq_true', Bool.not_eq_false', Bool.not_eq_true, Bool.not_eq_false, Bool.true_eq_false, Bool.false_eq_true] at h); (try simp only [foldN, foldR, foldL, Int.toNat_natCast] at h)
      exfalso
      simp at h
    · (try simp only [decide_eq_true_eq, decide_eq_false_iff_not, Bool.and_eq_true, Bool.or_eq_true, Bool.and_eq_false_iff, Bool.or_eq_false_iff, Bool.not_eq_true', Bool.not_eq_false', Bool.not_eq_true, Bool.not_eq_false, Bool.true_eq_false, Bool.false_eq_true] at h); (try simp only [foldN, foldR, foldL, Int.toNat_natCast] at h)
      refine awp_skip ?_
      refine awp_seq ?_
      refine awp_seq ?_
      refine awp_region rfl (.n (fun _ => op_move (.plain rfl)) (.n (fun _ => op_neq (.plain rfl) (.plain rfl)) (.nil _))) ?_
      refine awp_cond rfl (fun h => ?_) (fun h => ?_)
      · (try simp only [decide_eq_true_eq, decide_eq_false_iff_not, Bool.and_eq_true, Bool.or_eq_true, Bool.and_eq_false_iff, Bool.or_eq_false_iff, Bool.not_eq_true', Bool.not_eq_false', Bool.not_eq_true, Bool.not_eq_false, Bool.true_eq_false, Bool.false_eq_true] at h); (try simp only [foldN, foldR, foldL, Int.toNat_natCast] at h)
        have hne := h
        refine awp_seq ?_
        refine awp_region rfl (.n (fun _ => op_load_agg Tryd.isAgg24 Tryd.sizeOf24 (.plain rfl) (Nat.le_of_ble_eq_true rfl)) (.n (fun _ => op_call1 Tryd.call22 (.plain rfl) (Left_fc _ _)) (.n (fun _ => op_move (.plain rfl)) (.n (fun _ => op_extract (.plain rfl) rfl) (.n (fun _ => op_extract (.plain rfl) rfl) (.n (fun _ => op_assign (.plain rfl)) (.n (fun _ => op_assign (.plain rfl)) (.nil _)))))))) ?_
        refine awp_seq ?_
        refine awp_region rfl (.n (fun _ => op_load_agg Tryd.isAgg24 Tryd.sizeOf24 (.plain rfl) (Nat.le_of_ble_eq_true rfl)) (.n (fun _ => op_call1 Tryd.call23 (.plain rfl) (Right_fc _ _)) (.n (fun _ => op_move (.plain rfl)) (.n (fun _ => op_extract (.plain rfl) rfl) (.n (fun _ => op_extract (.plain rfl) rfl) (.n (fun _ => op_assign (.plain rfl)) (.n (fun _ => op_assign (.plain rfl)) (.nil _)))))))) ?_
        refine awp_seq ?_
        refine awp_region rfl (.n (fun _ => op_move (.plain rfl)) (.n (fun _ => op_move (.plain rfl)) (.n (fun _ => op_eql (.plain rfl) (.plain rfl)) (.n (fun _ => op_move (.plain rfl)) (.gn rfl rfl (fun hg _ => op_move (.plain rfl)) (.gn rfl rfl (fun hg _ => op_move (.plain rfl)) (.gn rfl rfl (fun hg _ => op_eql (.opt rfl fun h => h) (.opt rfl fun h => h)) (.n (fun _ => op_and (.plain rfl) (.plain rfl) (.plain rfl) (fun h => eqT h)) (.n (fun _ => op_move (.plain rfl)) (.gn rfl rfl (fun hg _ => op_move (.plain rfl)) (.gn rfl rfl (fun hg _ => op_len (s := 0) Tryd.underlying25 (.opt rfl fun h => h)) (.gn rfl rfl (fun hg _ => op_move (.plain rfl)) (.gn rfl rfl (fun hg _ => op_len (s := 0) Tryd.underlying25 (.opt rfl fun h => h)) (.gn rfl rfl (fun hg _ => op_add (.opt rfl fun h => h) (.opt rfl fun h => h) ?_) (.gn rfl rfl (fun hg _ => op_eql (.opt rfl fun h => h) (.plain rfl)) (.n (fun _ => op_and (.plain rfl) (.plain rfl) (.plain rfl) (fun h => eqT h)) (.n (fun _ => op_assign (.plain rfl)) (.nil _)))))))))))))))))) ?_
        · try simp only [beq_iff_eq, beq_true, beq_false, Bool.and_eq_true, decide_eq_true_eq, decide_eq_false_iff_not, Bool.not_eq_true', Bool.or_eq_true, Bool.or_eq_false_iff] at hg
          (try simp only [foldN, foldR, foldL, Int.toNat_natCast])
          rw [leftV_no hne, rightV_no hne]
          unfold InR
          simp
        refine awp_ret ?_
        refine retQ.ret ?_
        refine ret1 rfl rfl rfl ?_
        rw [leftV_no hne, rightV_no hne]
        simp
      · (try simp only [decide_eq_true_eq, decide_eq_false_iff_not, Bool.and_eq_true, Bool.or_eq_true, Bool.and_eq_false_iff, Bool.or_eq_false_iff, Bool.not_eq_true', Bool.not_eq_false', Bool.not_eq_true, Bool.not_eq_false, Bool.true_eq_false, Bool.false_eq_true] at h); (try simp only [foldN, foldR, foldL, Int.toNat_natCast] at h)
        have hM0 : mMayE L R = 0 := by omega
        refine awp_skip ?_
        refine awp_seq ?_
        refine awp_region rfl (.n (fun _ => op_load_agg Tryd.isAgg24 Tryd.sizeOf24 (.plain rfl) (Nat.le_of_ble_eq_true rfl)) (.n (fun _ => op_call2 Tryd.call24 (.plain rfl) (.plain rfl) (BestStable_fc _ _ ?_ ?_ _)) (.n (fun _ => op_move (.plain rfl)) (.n (fun _ => op_extract (.plain rfl) rfl) (.n (fun _ => op_extract (.plain rfl) rfl) (.n (fun _ => op_assign (.plain rfl)) (.n (fun _ => op_assign (.plain rfl)) (.nil _)))))))) ?_
        · (try simp only [foldN, foldR, foldL, Int.toNat_natCast])
          omega
        · (try simp only [foldN, foldR, foldL, Int.toNat_natCast])
          omega
        refine awp_seq ?_
        refine awp_region rfl (.n (fun _ => op_load_agg Tryd.isAgg24 Tryd.sizeOf24 (.plain rfl) (Nat.le_of_ble_eq_true rfl)) (.n (fun _ => op_call2 Tryd.call24 (.plain rfl) (.plain rfl) (BestStable_fc _ _ ?_ ?_ _)) (.n (fun _ => op_move (.plain rfl)) (.n (fun _ => op_extract (.plain rfl) rfl) (.n (fun _ => op_extract (.plain rfl) rfl) (.n (fun _ => op_assign (.plain rfl)) (.n (fun _ => op_assign (.plain rfl)) (.nil _)))))))) ?_
        · (try simp only [foldN, foldR, foldL, Int.toNat_natCast])
          omega
        · (try simp only [foldN, foldR, foldL, Int.toNat_natCast])
          omega
        refine awp_seq ?_
        refine awp_region rfl (.n (fun _ => op_load_agg Tryd.isAgg24 Tryd.sizeOf24 (.plain rfl) (Nat.le_of_ble_eq_true rfl)) (.n (fun _ => op_call1 Tryd.call22 (.plain rfl) (Left_fc _ _)) (.n (fun _ => op_move (.plain rfl)) (.n (fun _ => op_extract (.plain rfl) rfl) (.n (fun _ => op_extract (.plain rfl) rfl) (.n (fun _ => op_assign (.plain rfl)) (.n (fun _ => op_assign (.plain rfl)) (.nil _)))))))) ?_
        refine awp_seq ?_
        refine awp_region rfl (.n (fun _ => op_load_agg Tryd.isAgg24 Tryd.sizeOf24 (.plain rfl) (Nat.le_of_ble_eq_true rfl)) (.n (fun _ => op_call1 Tryd.call23 (.plain rfl) (Right_fc _ _)) (.n (fun _ => op_move (.plain rfl)) (.n (fun _ => op_extract (.plain rfl) rfl) (.n (fun _ => op_extract (.plain rfl) rfl) (.n (fun _ => op_assign (.plain rfl)) (.n (fun _ => op_assign (.plain rfl)) (.nil _)))))))) ?_
        refine awp_seq ?_
        refine awp_region rfl (.n (fun _ => op_move (.plain rfl)) (.n (fun _ => op_eql (.plain rfl) (.plain rfl)) (.n (fun _ => op_move (.plain rfl)) (.gn rfl rfl (fun hg _ => op_move (.plain rfl)) (.gn rfl rfl (fun hg _ => op_eql (.opt rfl fun h => h) (.plain rfl)) (.n (fun _ => op_and (.plain rfl) (.plain rfl) (.plain rfl) (fun h => eqT h)) (.n (fun _ => op_move (.plain rfl)) (.gn rfl rfl (fun hg _ => op_move (.plain rfl)) (.gn rfl rfl (fun hg _ => op_move (.plain rfl)) (.gn rfl rfl (fun hg _ => op_call2 Tryd.call17 (.opt rfl fun h => h) (.opt rfl fun h => h) (sameInts_fc _ _)) (.n (fun _ => op_and (.plain rfl) (.plain rfl) (.plain rfl) (fun h => eqT h)) (.n (fun _ => op_move (.plain rfl)) (.gn rfl rfl (fun hg _ => op_move (.plain rfl)) (.gn rfl rfl (fun hg _ => op_move (.plain rfl)) (.gn rfl rfl (fun hg _ => op_call2 Tryd.call17 (.opt rfl fun h => h) (.opt rfl fun h => h) (sameInts_fc _ _)) (.n (fun _ => op_and (.plain rfl) (.plain rfl) (.plain rfl) (fun h => eqT h)) (.n (fun _ => op_assign (.plain rfl)) (.nil _)))))))))))))))))) ?_
        refine awp_ret ?_
        refine retQ.ret ?_
        refine ret1 rfl rfl rfl ?_
        unfold bestR
        rw [if_pos hM0, if_pos hM0, bs_left hM0, bs_right hM0, hM0]
        simp

end Go.Proofs.YtpapnkphlmickaaDoor

