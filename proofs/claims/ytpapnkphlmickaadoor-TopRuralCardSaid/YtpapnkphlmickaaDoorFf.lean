/- Left asks; the worst one goes: the walks. Conditions: each theorem names its own. -/
import Derived.Test.YtpapnkphlmickaaDoorProg
import Derived.Test.YtpapnkphlmickaaDoorFe
namespace Go.Proofs.YtpapnkphlmickaaDoor
open Go.Abs
set_option linter.unusedVariables false
set_option linter.unusedSimpArgs false


theorem neg_fill {n q : Nat} (h : q < n) : (mapr n fun j => if j < q then (-1 : Int) else 0).set q (-1) = mapr n fun j => if j < q + 1 then (-1 : Int) else 0 :=
  mapr_set (fun _ => if_pos (by omega)) (fun j _ hne => by simp only [Nat.lt_succ_iff]; split <;> split <;> first | rfl | omega)
theorem neg_start (n : Nat) : List.replicate n (0 : Int) = mapr n fun j => if j < 0 then (-1 : Int) else 0 := by
  rw [replicate_mapr]; exact mapr_same fun j _ => by simp
theorem neg_end (n : Nat) : (mapr n fun j => if j < n then (-1 : Int) else 0) = mapr n fun _ => -1 := mapr_same fun j hj => if_pos hj
theorem worst_in {R : List Ag} {w : List Int} {r : Nat} (h : 0 ≤ rmF R r) (h' : rmF R r < (cntF w (r : Int) : Nat)) : 0 ≤ worstF R w r w.length ∧ worstF R w r w.length < (w.length : Nat) := by
  obtain ⟨z, e, hz, _⟩ := worst_at (R := R) (w := w) (r := r) (by omega)
  omega

set_option maxRecDepth 1000000 in
set_option maxHeartbeats 1000000 in
theorem clone_fc (l : List Int) (hl : l.length ≤ 1000000) : FCO Tryd.prog 45 [.ints l] 3 1 Int 0 (fun n => [.int .i64 n]) (l) := by
  refine FCO.intro Tryd.func45 rfl (Nat.le_of_ble_eq_true rfl) fun hfit => ?_
  obtain ⟨fitl0, fitr0⟩ := (hfit _ (.head _)).ints
  refine awp_seq ?_
  refine awp_region rfl (.n (fun _ => op_assign (.plain rfl)) (.nil _)) ?_
  refine awp_seq ?_
  refine awp_seq ?_
  refine awp_nilsplit 0 rfl (fun hnil => ?_) ?_
  · have _hs := trivial
    refine awp_region rfl (.n (fun _ => op_move (.plain rfl)) (.n (fun _ => op_nil_nil Tryd.underlying25 (.plain rfl)) (.nil _))) ?_
    refine awp_cond rfl (fun h => ?_) (fun h => ?_)
    · clear h
      refine awp_seq ?_
      refine awp_region rfl (.n (fun _ => op_assign (.plain rfl)) (.nil _)) ?_
      refine awp_ent (Ent.begin 2 5002 3 1 Int 0 (fun n => [.int .i64 n]) rfl rfl rfl) ?_
      refine awp_ret ?_
      refine retO.ret ?_
      refine retO1 rfl rfl rfl ?_
      exact hnil.symm
    · first | cases h | exact absurd h (by decide)
  · have _hs := trivial
    refine awp_region rfl (.n (fun _ => op_move (.plain rfl)) (.n (fun _ => op_nn_nil Tryd.underlying25 (.plain rfl)) (.nil _))) ?_
    refine awp_ent (Ent.denn 0 rfl) ?_
    refine awp_cond rfl (fun h => ?_) (fun h => ?_)
    · first | cases h | exact absurd h (by decide)
    · clear h
      refine awp_skip ?_
      refine awp_seq ?_
      refine awp_region rfl (.e (op_slitO (pp := []) (α := Int) (d := 0) (f := (fun n => [.int .i64 n])) 5 [] ety25 rfl trivial rfl (by decide) rfl (fun _ => rfl) rfl) rfl (.n (fun _ => op_move (.plain rfl)) (.e (op_append (id' := 7) (α := Int) (d := 0) (f := (fun n => [.int .i64 n])) ety25 Tryd.underlying25 (fun _ => rfl) (fun _ => rfl) (.plain rfl) rfl (.plain rfl) rfl ?_) rfl (.n (fun _ => op_assign (.plain rfl)) (.nil _))))) ?_
      · (try simp only [foldN, foldR, foldL, Int.toNat_natCast])
        first | omega | (simp; omega)
      refine awp_ret ?_
      refine retO.ret ?_
      refine retO1 rfl rfl rfl ?_
      simp

set_option maxRecDepth 1000000 in
set_option maxHeartbeats 1000000 in
theorem refuse_fcm (L R : List Ag) (w : List Int) (c : Nat) (y : Int) (hy : y = c) (hc : c < R.length) (hq : 0 ≤ rmF R c) (hwn : w.length ≤ 1000000) : FCM Tryd.prog 48 [some (.agg [.seq (ByteArray × Int × List Int × Unit) (ByteArray.empty, 0, [], ()) (fun p => [.str p.1, .i p.2.1, .ints p.2.2.1]) L, .seq (ByteArray × Int × List Int × Unit) (ByteArray.empty, 0, [], ()) (fun p => [.str p.1, .i p.2.1, .ints p.2.2.1]) R]), none, some (.i y)] (.arr 3 1 Int 0 (fun n => [.int .i64 n]) w) (.arr 3 1 Int 0 (fun n => [.int .i64 n]) (refF R w c)) (.tup []) := by
  subst hy
  refine FCM.intro Tryd.func48 rfl (Nat.le_of_ble_eq_true rfl) rfl (by simp [Blk.flatB, PV.flat]) (by simp [Blk.flatB, PV.flat]) fun hfit r => ?_
  have fit0 := hfit _ (.head _)
  refine awp_seq ?_
  refine awp_region rfl (.n (fun _ => op_box (.plain rfl) (by simp)) (.nil _)) ?_
  refine awp_seq ?_
  refine awp_region rfl (.n (fun _ => op_assign (.plain rfl)) (.n (fun _ => op_assign (.plain rfl)) (.nil _))) ?_
  refine awp_seq ?_
  refine awp_seq ?_
  refine awp_region rfl (.n (fun _ => op_move (.plain rfl)) (.r (op_lenO Tryd.underlying25 (.ownS rfl) rfl) (.n (fun _ => op_move (.plain rfl)) (.nil _)))) ?_
  refine awp_block ?_
  refine awp_loop (σ := Nat) (fun (k : Nat) => k ≤ w.length) (fun (k : Nat) => ⟨[(1, .ownV 0 r), (2, .int (c : Nat)), (3, .pv (.rd [.seq (ByteArray × Int × List Int × Unit) (ByteArray.empty, 0, [], ()) (fun p => [.str p.1, .i p.2.1, .ints p.2.2.1]) L, .seq (ByteArray × Int × List Int × Unit) (ByteArray.empty, 0, [], ()) (fun p => [.str p.1, .i p.2.1, .ints p.2.2.1]) R])), (6, .int ((goesI w (c : Int) k).length : Nat)), (7, .int (worstF R w c k)), (10, .ownV 0 r), (11, .int (w.length : Nat)), (12, .int (k : Nat))], [(0, .arr 3 1 Int 0 (fun n => [.int .i64 n]) w)]⟩) (fun (k : Nat) => w.length - k) 0 ?_ (Ent.kept ⟨rfl, rfl, rfl, rfl, rfl, rfl, rfl, rfl, trivial⟩ ⟨rfl, trivial⟩) ?_
  · exact Nat.zero_le _
  rintro k hp
  try dsimp only at hp
  have hk := hp
  refine awp_seq ?_
  refine awp_region rfl (.n (fun _ => op_lss (.plain rfl) (.plain rfl)) (.nil _)) ?_
  refine awp_seq ?_
  refine awp_cond rfl (fun h => ?_) (fun h => ?_)
  · (try simp only [decide_eq_true_eq, decide_eq_false_iff_not, Bool.and_eq_true, Bool.or_eq_true, Bool.and_eq_false_iff, Bool.or_eq_false_iff, Bool.not_eq_true', Bool.not_eq_false', Bool.not_eq_true, Bool.not_eq_false, Bool.true_eq_false, Bool.false_eq_true] at h); (try simp only [foldN, foldR, foldL, Int.toNat_natCast] at h)
    refine awp_skip ?_
    refine awp_seq ?_
    refine awp_block ?_
    refine awp_seq ?_
    refine awp_region rfl (.n (fun _ => op_move (.plain rfl)) (.r (op_indexAddrON Tryd.underlying25 Tryd.sizeOf3 (.ownS rfl) rfl (.plain rfl) ?_) (.r (op_loadE Tryd.isAgg3 (.plain rfl) rfl (fun _ => rfl) ?_ rfl) (.n (fun _ => op_assign (.plain rfl)) (.n (fun _ => op_assign (.plain rfl)) (.nil _)))))) ?_
    · (try simp only [foldN, foldR, foldL, Int.toNat_natCast])
      first | omega | (simp; omega)
    · (try simp only [foldN, foldR, foldL, Int.toNat_natCast])
      first | omega | (simp; omega)
    refine awp_seq ?_
    refine awp_seq ?_
    refine awp_region rfl (.n (fun _ => op_move (.plain rfl)) (.n (fun _ => op_move (.plain rfl)) (.n (fun _ => op_neq (.plain rfl) (.plain rfl)) (.nil _)))) ?_
    refine awp_cond rfl (fun h => ?_) (fun h => ?_)
    · (try simp only [decide_eq_true_eq, decide_eq_false_iff_not, Bool.and_eq_true, Bool.or_eq_true, Bool.and_eq_false_iff, Bool.or_eq_false_iff, Bool.not_eq_true', Bool.not_eq_false', Bool.not_eq_true, Bool.not_eq_false, Bool.true_eq_false, Bool.false_eq_true] at h); (try simp only [foldN, foldR, foldL, Int.toNat_natCast] at h)
      have hno := h
      refine awp_exit ?_
      refine awp_region rfl (.n (fun _ => op_add (.plain rfl) (.plain rfl) ?_) (.n (fun _ => op_move (.plain rfl)) (.nil _))) ?_
      · (try simp only [foldN, foldR, foldL, Int.toNat_natCast])
        unfold InR; omega
      exact ⟨k + 1, by omega, by dsimp only; omega, (Ent.kept ⟨rfl, rfl, rfl, (congrArg (fun n : Int => some (SV.int n)) (by first | exact goes_len_yes hyes | exact goes_len_no hno)), (congrArg (fun n : Int => some (SV.int n)) (by first | exact worstF_no hno | exact worstF_new hyes hnew | exact worstF_old hyes hold)), rfl, rfl, rfl, trivial⟩ ⟨rfl, trivial⟩)⟩
    · (try simp only [decide_eq_true_eq, decide_eq_false_iff_not, Bool.and_eq_true, Bool.or_eq_true, Bool.and_eq_false_iff, Bool.or_eq_false_iff, Bool.not_eq_true', Bool.not_eq_false', Bool.not_eq_true, Bool.not_eq_false, Bool.true_eq_false, Bool.false_eq_true] at h); (try simp only [foldN, foldR, foldL, Int.toNat_natCast] at h)
      have hyes : w.getD k 0 = (c : Int) := by omega
      clear h
      have hlk := @worst_spec R w c k
      refine awp_skip ?_
      refine awp_seq ?_
      refine awp_region rfl (.n (fun _ => op_move (.plain rfl)) (.n (fun _ => op_add (.plain rfl) (.plain rfl) ?_) (.n (fun _ => op_assign (.plain rfl)) (.nil _)))) ?_
      · (try simp only [foldN, foldR, foldL, Int.toNat_natCast])
        have := goesI_le (w := w) (x := (c : Int)) k
        unfold InR; omega
      refine awp_seq ?_
      refine awp_region_draw mixed rfl (.n (fun _ => op_move (.plain rfl)) (.n (fun _ => op_lss (.plain rfl) (.plain rfl)) (.n (fun _ => op_move (.plain rfl)) (.gn rfl rfl (fun hg _ => op_fieldAddr Tryd.underlying24 rfl rfl Tryd.sizeOf22 (.plain rfl)) (.gn rfl rfl (fun hg _ => op_load Tryd.isAgg22 (.opt rfl fun h => h)) (.gn rfl rfl (fun hg _ => op_move (.plain rfl)) (.gn rfl rfl (fun hg _ => op_indexAddrN Tryd.underlying22 Tryd.sizeOf48 (.opt rfl fun h => h) (.opt rfl fun h => h) (fun _ => rfl) ?_) (.gn rfl rfl (fun hg _ => op_load_agg Tryd.isAgg48 Tryd.sizeOf48 (.opt rfl fun h => h) (Nat.le_of_ble_eq_true rfl)) (.gn rfl rfl (fun hg _ => op_move (.plain rfl)) (.gn rfl rfl (fun hg _ => op_call2 Tryd.call49 (.opt rfl fun h => h) (.opt rfl fun h => h) (Rank_fc _ _ _ _)) (.gn rfl rfl (fun hg _ => op_fieldAddr Tryd.underlying24 rfl rfl Tryd.sizeOf22 (.plain rfl)) (.gn rfl rfl (fun hg _ => op_load Tryd.isAgg22 (.opt rfl fun h => h)) (.gn rfl rfl (fun hg _ => op_move (.plain rfl)) (.gn rfl rfl (fun hg _ => op_indexAddrN Tryd.underlying22 Tryd.sizeOf48 (.opt rfl fun h => h) (.opt rfl fun h => h) (fun _ => rfl) ?_) (.gn rfl rfl (fun hg _ => op_load_agg Tryd.isAgg48 Tryd.sizeOf48 (.opt rfl fun h => h) (Nat.le_of_ble_eq_true rfl)) (.gn rfl rfl (fun hg _ => op_move (.plain rfl)) (.gn rfl rfl (fun hg _ => op_call2 Tryd.call49 (.opt rfl fun h => h) (.opt rfl fun h => h) (Rank_fc _ _ _ _)) (.gn rfl rfl (fun hg _ => op_gtr (.opt rfl fun h => h) (.opt rfl fun h => h)) (.n (fun _ => op_or (.plain rfl) (.plain rfl) (.plain rfl) (fun h => eqF h)) (.nil _)))))))))))))))))))) ?d1 ?_
      · try simp only [beq_iff_eq, beq_true, beq_false, Bool.and_eq_true, decide_eq_true_eq, decide_eq_false_iff_not, Bool.not_eq_true', Bool.or_eq_true, Bool.or_eq_false_iff] at hg
        (try simp only [foldN, foldR, foldL, Int.toNat_natCast])
        omega
      · try simp only [beq_iff_eq, beq_true, beq_false, Bool.and_eq_true, decide_eq_true_eq, decide_eq_false_iff_not, Bool.not_eq_true', Bool.or_eq_true, Bool.or_eq_false_iff] at hg
        (try simp only [foldN, foldR, foldL, Int.toNat_natCast])
        omega
      · kernel_rfl
      refine awp_cond rfl (fun h => ?_) (fun h => ?_)
      · (try simp only [decide_eq_true_eq, decide_eq_false_iff_not, Bool.and_eq_true, Bool.or_eq_true, Bool.and_eq_false_iff, Bool.or_eq_false_iff, Bool.not_eq_true', Bool.not_eq_false', Bool.not_eq_true, Bool.not_eq_false, Bool.true_eq_false, Bool.false_eq_true] at h); (try simp only [foldN, foldR, foldL, Int.toNat_natCast] at h)
        have hnew := h
        refine awp_region rfl (.n (fun _ => op_move (.plain rfl)) (.n (fun _ => op_assign (.plain rfl)) (.nil _))) ?_
        refine awp_region rfl (.n (fun _ => op_add (.plain rfl) (.plain rfl) ?_) (.n (fun _ => op_move (.plain rfl)) (.nil _))) ?_
        · (try simp only [foldN, foldR, foldL, Int.toNat_natCast])
          unfold InR; omega
        exact ⟨k + 1, by omega, by dsimp only; omega, (Ent.kept ⟨rfl, rfl, rfl, (congrArg (fun n : Int => some (SV.int n)) (by first | exact goes_len_yes hyes | exact goes_len_no hno)), (congrArg (fun n : Int => some (SV.int n)) (by first | exact worstF_no hno | exact worstF_new hyes hnew | exact worstF_old hyes hold)), rfl, rfl, rfl, trivial⟩ ⟨rfl, trivial⟩)⟩
      · (try simp only [decide_eq_true_eq, decide_eq_false_iff_not, Bool.and_eq_true, Bool.or_eq_true, Bool.and_eq_false_iff, Bool.or_eq_false_iff, Bool.not_eq_true', Bool.not_eq_false', Bool.not_eq_true, Bool.not_eq_false, Bool.true_eq_false, Bool.false_eq_true] at h); (try simp only [foldN, foldR, foldL, Int.toNat_natCast] at h)
        have hold : ¬ (worstF R w c k < 0 ∨ placeF (lkF R c) (worstF R w c k) < placeF (lkF R c) (k : Int)) := by omega
        refine awp_skip ?_
        refine awp_region rfl (.n (fun _ => op_add (.plain rfl) (.plain rfl) ?_) (.n (fun _ => op_move (.plain rfl)) (.nil _))) ?_
        · (try simp only [foldN, foldR, foldL, Int.toNat_natCast])
          unfold InR; omega
        exact ⟨k + 1, by omega, by dsimp only; omega, (Ent.kept ⟨rfl, rfl, rfl, (congrArg (fun n : Int => some (SV.int n)) (by first | exact goes_len_yes hyes | exact goes_len_no hno)), (congrArg (fun n : Int => some (SV.int n)) (by first | exact worstF_no hno | exact worstF_new hyes hnew | exact worstF_old hyes hold)), rfl, rfl, rfl, trivial⟩ ⟨rfl, trivial⟩)⟩
  · (try simp only [decide_eq_true_eq, decide_eq_false_iff_not, Bool.and_eq_true, Bool.or_eq_true, Bool.and_eq_false_iff, Bool.or_eq_false_iff, Bool.not_eq_true', Bool.not_eq_false', Bool.not_eq_true, Bool.not_eq_false, Bool.true_eq_false, Bool.false_eq_true] at h); (try simp only [foldN, foldR, foldL, Int.toNat_natCast] at h)
    have hk1 : k = w.length := by omega
    subst hk1
    refine awp_exit ?_
    refine awp_seq ?_
    refine awp_region rfl (.n (fun _ => op_move (.plain rfl)) (.n (fun _ => op_fieldAddr Tryd.underlying24 rfl rfl Tryd.sizeOf22 (.plain rfl)) (.n (fun _ => op_load Tryd.isAgg22 (.plain rfl)) (.n (fun _ => op_move (.plain rfl)) (.n (fun _ => op_indexAddrN Tryd.underlying22 Tryd.sizeOf48 (.plain rfl) (.plain rfl) (fun _ => rfl) ?_) (.n (fun _ => op_fieldAddr Tryd.underlying48 rfl rfl Tryd.sizeOf3 (.plain rfl)) (.n (fun _ => op_load Tryd.isAgg3 (.plain rfl)) (.n (fun _ => op_gtr (.plain rfl) (.plain rfl)) (.nil _))))))))) ?_
    · (try simp only [foldN, foldR, foldL, Int.toNat_natCast])
      omega
    refine awp_cond rfl (fun h => ?_) (fun h => ?_)
    · (try simp only [decide_eq_true_eq, decide_eq_false_iff_not, Bool.and_eq_true, Bool.or_eq_true, Bool.and_eq_false_iff, Bool.or_eq_false_iff, Bool.not_eq_true', Bool.not_eq_false', Bool.not_eq_true, Bool.not_eq_false, Bool.true_eq_false, Bool.false_eq_true] at h); (try simp only [foldN, foldR, foldL, Int.toNat_natCast] at h)
      have hov : rmF R c < (cntF w (c : Int) : Nat) := h
      have hwi := worst_in hq hov
      refine awp_region rfl (.n (fun _ => op_move (.plain rfl)) (.n (fun _ => op_move (.plain rfl)) (.r (op_indexAddrO Tryd.underlying25 Tryd.sizeOf3 (.ownS rfl) rfl (.plain rfl) ?_) (.e (op_storeE _ Tryd.sizeOf3 (.plain rfl) (.plain rfl) rfl (fun _ => rfl) ?_ (by decide) rfl rfl) rfl (.nil _))))) ?_
      · (try simp only [foldN, foldR, foldL, Int.toNat_natCast])
        first | omega | (simp; omega)
      · (try simp only [foldN, foldR, foldL, Int.toNat_natCast])
        first | omega | (simp; omega)
      refine retW0 rfl (t := 1) rfl ?_ ?_
      · exact (congrArg (fun l => some (Blk.arr 3 1 Int 0 (fun n => [.int .i64 n]) l)) (by unfold refF; rw [if_pos hov]))
      · rfl
    · (try simp only [decide_eq_true_eq, decide_eq_false_iff_not, Bool.and_eq_true, Bool.or_eq_true, Bool.and_eq_false_iff, Bool.or_eq_false_iff, Bool.not_eq_true', Bool.not_eq_false', Bool.not_eq_true, Bool.not_eq_false, Bool.true_eq_false, Bool.false_eq_true] at h); (try simp only [foldN, foldR, foldL, Int.toNat_natCast] at h)
      have hnov : ¬ rmF R c < (cntF w (c : Int) : Nat) := h
      refine awp_skip ?_
      refine retW0 rfl (t := 1) rfl ?_ ?_
      · exact (congrArg (fun l => some (Blk.arr 3 1 Int 0 (fun n => [.int .i64 n]) l)) (by unfold refF; rw [if_neg hnov]))
      · rfl

set_option maxRecDepth 1000000 in
set_option maxHeartbeats 1000000 in
theorem Left_fc (L R : List Ag) : FC Tryd.prog 22 [.agg [.seq (ByteArray × Int × List Int × Unit) (ByteArray.empty, 0, [], ()) (fun p => [.str p.1, .i p.2.1, .ints p.2.2.1]) L, .seq (ByteArray × Int × List Int × Unit) (ByteArray.empty, 0, [], ()) (fun p => [.str p.1, .i p.2.1, .ints p.2.2.1]) R]] (.tup [.ints (leftV L R), .i (mMayE L R)]) := by
  refine FC.intro Tryd.func22 rfl (Nat.le_of_ble_eq_true rfl) fun hfit => ?_
  have fit0 := hfit _ (.head _)
  have hfl : L.length ≤ 281474976710656 := by cases fit0 with | agg _ h => exact (h 0 (by simp)).len
  have hfr : R.length ≤ 281474976710656 := by cases fit0 with | agg _ h => exact (h 1 (by simp)).len
  have hfa : ∀ i, i < L.length → (lkF L i).length ≤ 281474976710656 ∧ (nmF L i).size ≤ 281474976710656 := fun i hi => by cases fit0 with | agg _ h => exact ⟨((h 0 (by simp)).elem (getD_mem (ByteArray.empty, 0, [], ()) hi) (c := .ints (lkF L i)) (List.mem_cons_of_mem _ (List.mem_cons_of_mem _ List.mem_cons_self))).len, ((h 0 (by simp)).elem (getD_mem (ByteArray.empty, 0, [], ()) hi) (c := .str (nmF L i)) List.mem_cons_self).str_len⟩
  have hfb : ∀ i, i < R.length → (lkF R i).length ≤ 281474976710656 ∧ (nmF R i).size ≤ 281474976710656 := fun i hi => by cases fit0 with | agg _ h => exact ⟨((h 1 (by simp)).elem (getD_mem (ByteArray.empty, 0, [], ()) hi) (c := .ints (lkF R i)) (List.mem_cons_of_mem _ (List.mem_cons_of_mem _ List.mem_cons_self))).len, ((h 1 (by simp)).elem (getD_mem (ByteArray.empty, 0, [], ()) hi) (c := .str (nmF R i)) List.mem_cons_self).str_len⟩
  refine awp_seq ?_
  refine awp_region rfl (.n (fun _ => op_box (.plain rfl) (by simp)) (.n (fun _ => op_assign (.plain rfl)) (.n (fun _ => op_assign (.plain rfl)) (.nil _)))) ?_
  refine awp_seq ?_
  refine awp_seq ?_
  refine awp_region rfl (.n (fun _ => op_load_agg Tryd.isAgg24 Tryd.sizeOf24 (.plain rfl) (Nat.le_of_ble_eq_true rfl)) (.n (fun _ => op_call1 Tryd.call13 (.plain rfl) (mMay_fc _ _)) (.n (fun _ => op_assign (.plain rfl)) (.nil _)))) ?_
  refine awp_seq ?_
  refine awp_region rfl (.n (fun _ => op_move (.plain rfl)) (.n (fun _ => op_neq (.plain rfl) (.plain rfl)) (.nil _))) ?_
  refine awp_cond rfl (fun h => ?_) (fun h => ?_)
  · (try simp only [decide_eq_true_eq, decide_eq_false_iff_not, Bool.and_eq_true, Bool.or_eq_true, Bool.and_eq_false_iff, Bool.or_eq_false_iff, Bool.not_eq_true', Bool.not_eq_false', Bool.not_eq_true, Bool.not_eq_false, Bool.true_eq_false, Bool.false_eq_true] at h); (try simp only [foldN, foldR, foldL, Int.toNat_natCast] at h)
    refine awp_seq ?_
    refine awp_region rfl (.n (fun _ => op_move (.plain rfl)) (.n (fun _ => op_assign (.plain rfl)) (.n (fun _ => op_assign (.plain rfl)) (.nil _)))) ?_
    refine awp_ent (Ent.nilseq 2 Int 0 (fun n => [.int .i64 n]) rfl) ?_
    refine awp_ret ?_
    refine retQ.ret ?_
    refine ret2 rfl rfl rfl rfl rfl ?_
    rw [leftV_no h]
  · (try simp only [decide_eq_true_eq, decide_eq_false_iff_not, Bool.and_eq_true, Bool.or_eq_true, Bool.and_eq_false_iff, Bool.or_eq_false_iff, Bool.not_eq_true', Bool.not_eq_false', Bool.not_eq_true, Bool.not_eq_false, Bool.true_eq_false, Bool.false_eq_true] at h); (try simp only [foldN, foldR, foldL, Int.toNat_natCast] at h)
    have hM0 : mMayE L R = 0 := by omega
    clear h
    have hM := mok hM0
    have hl6 := hM.l6
    refine awp_skip ?_
    refine awp_seq ?_
    refine awp_region_draw mixed rfl (.n (fun _ => op_fieldAddr Tryd.underlying24 rfl rfl Tryd.sizeOf22 (.plain rfl)) (.n (fun _ => op_load Tryd.isAgg22 (.plain rfl)) (.n (fun _ => op_len (s := 0) Tryd.underlying22 (.plain rfl)) (.a (fun _ hm => op_make (α := Int) (d := 0) (f := (fun n => [.int .i64 n])) 20 0 ety25 (.plain rfl) (.plain rfl) (fun _ => rfl) rfl hm ?_) rfl (fun _ => rfl) rfl (.n (fun _ => op_fieldAddr Tryd.underlying24 rfl rfl Tryd.sizeOf22 (.plain rfl)) (.n (fun _ => op_load Tryd.isAgg22 (.plain rfl)) (.n (fun _ => op_len (s := 0) Tryd.underlying22 (.plain rfl)) (.a (fun _ hm => op_make (α := Int) (d := 0) (f := (fun n => [.int .i64 n])) 24 0 ety25 (.plain rfl) (.plain rfl) (fun _ => rfl) rfl hm ?_) rfl (fun _ => rfl) rfl (.n (fun _ => op_assign (.plain rfl)) (.n (fun _ => op_assign (.plain rfl)) (.nil _))))))))))) ?d2 ?_
    · (try simp only [foldN, foldR, foldL, Int.toNat_natCast])
      omega
    · (try simp only [foldN, foldR, foldL, Int.toNat_natCast])
      omega
    · kernel_rfl
    refine awp_seq ?_
    refine awp_seq ?_
    refine awp_region rfl (.n (fun _ => op_move (.plain rfl)) (.r (op_lenO Tryd.underlying25 (.plain rfl) rfl) (.n (fun _ => op_move (.plain rfl)) (.nil _)))) ?_
    refine awp_block ?_
    refine awp_loop (σ := Nat) (fun (q : Nat) => q ≤ L.length) (fun (q : Nat) => ⟨[(1, .pv (.rd [.seq (ByteArray × Int × List Int × Unit) (ByteArray.empty, 0, [], ()) (fun p => [.str p.1, .i p.2.1, .ints p.2.2.1]) L, .seq (ByteArray × Int × List Int × Unit) (ByteArray.empty, 0, [], ()) (fun p => [.str p.1, .i p.2.1, .ints p.2.2.1]) R])), (5, .own 20), (6, .own 24), (26, .int (L.length : Nat)), (27, .int (q : Nat))], [(20, .arr 3 1 Int 0 (fun n => [.int .i64 n]) (mapr L.length fun j => if j < q then (-1 : Int) else 0)), (24, .arr 3 1 Int 0 (fun n => [.int .i64 n]) (List.replicate L.length 0))]⟩) (fun (q : Nat) => L.length - q) 0 ?_ (Ent.kept ⟨rfl, rfl, rfl, (congrArg (fun n : Nat => some (SV.int (n : Int))) List.length_replicate), rfl, trivial⟩ ⟨(congrArg (fun l => some (Blk.arr 3 1 Int 0 (fun n => [.int .i64 n]) l)) (neg_start _)), rfl, trivial⟩) ?_
    · exact Nat.zero_le _
    rintro q hp
    try dsimp only at hp
    have hq := hp
    refine awp_seq ?_
    refine awp_region rfl (.n (fun _ => op_lss (.plain rfl) (.plain rfl)) (.nil _)) ?_
    refine awp_seq ?_
    refine awp_cond rfl (fun h => ?_) (fun h => ?_)
    · (try simp only [decide_eq_true_eq, decide_eq_false_iff_not, Bool.and_eq_true, Bool.or_eq_true, Bool.and_eq_false_iff, Bool.or_eq_false_iff, Bool.not_eq_true', Bool.not_eq_false', Bool.not_eq_true, Bool.not_eq_false, Bool.true_eq_false, Bool.false_eq_true] at h); (try simp only [foldN, foldR, foldL, Int.toNat_natCast] at h)
      refine awp_skip ?_
      refine awp_seq ?_
      refine awp_block ?_
      refine awp_seq ?_
      refine awp_region rfl (.n (fun _ => op_move (.plain rfl)) (.n (fun _ => op_assign (.plain rfl)) (.nil _))) ?_
      refine awp_region rfl (.n (fun _ => op_move (.plain rfl)) (.n (fun _ => op_move (.plain rfl)) (.r (op_indexAddrON Tryd.underlying25 Tryd.sizeOf3 (.plain rfl) rfl (.plain rfl) ?_) (.e (op_storeE _ Tryd.sizeOf3 (.plain rfl) (.plain rfl) rfl (fun _ => rfl) ?_ (by decide) rfl rfl) rfl (.nil _))))) ?_
      · (try simp only [foldN, foldR, foldL, Int.toNat_natCast])
        first | omega | (simp; omega)
      · (try simp only [foldN, foldR, foldL, Int.toNat_natCast])
        first | omega | (simp; omega)
      refine awp_region rfl (.n (fun _ => op_add (.plain rfl) (.plain rfl) ?_) (.n (fun _ => op_move (.plain rfl)) (.nil _))) ?_
      · (try simp only [foldN, foldR, foldL, Int.toNat_natCast])
        unfold InR; omega
      exact ⟨q + 1, by omega, by dsimp only; omega, (Ent.kept ⟨rfl, rfl, rfl, rfl, rfl, trivial⟩ ⟨(congrArg (fun l => some (Blk.arr 3 1 Int 0 (fun n => [.int .i64 n]) l)) (neg_fill (by omega))), rfl, trivial⟩)⟩
    · (try simp only [decide_eq_true_eq, decide_eq_false_iff_not, Bool.and_eq_true, Bool.or_eq_true, Bool.and_eq_false_iff, Bool.or_eq_false_iff, Bool.not_eq_true', Bool.not_eq_false', Bool.not_eq_true, Bool.not_eq_false, Bool.true_eq_false, Bool.false_eq_true] at h); (try simp only [foldN, foldR, foldL, Int.toNat_natCast] at h)
      have hq0 : q = L.length := by omega
      subst hq0
      clear h
      refine awp_exit ?_
      refine awp_seq ?_
      refine awp_seq ?_
      refine awp_region rfl (.n (fun _ => op_assign (.plain rfl)) (.nil _)) ?_
      refine awp_block ?_
      refine awp_loop (σ := List Int × List Int × Bool) (fun (s : List Int × List Int × Bool) => LInv L R s.1 s.2.1 ∧ (s.2.2 = false → ∀ l, l < L.length → stuckL L s.1 s.2.1 l)) (fun (s : List Int × List Int × Bool) => ⟨[(1, .pv (.rd [.seq (ByteArray × Int × List Int × Unit) (ByteArray.empty, 0, [], ()) (fun p => [.str p.1, .i p.2.1, .ints p.2.2.1]) L, .seq (ByteArray × Int × List Int × Unit) (ByteArray.empty, 0, [], ()) (fun p => [.str p.1, .i p.2.1, .ints p.2.2.1]) R])), (5, .own 20), (6, .own 24), (8, .bool s.2.2)], [(20, .arr 3 1 Int 0 (fun n => [.int .i64 n]) s.1), (24, .arr 3 1 Int 0 (fun n => [.int .i64 n]) s.2.1)]⟩) (fun (s : List Int × List Int × Bool) => 2 * remL L s.2.1 + (if s.2.2 = true then 1 else 0)) (mapr L.length fun _ => -1, List.replicate L.length 0, true) ?_ (Ent.kept ⟨rfl, rfl, rfl, rfl, trivial⟩ ⟨(congrArg (fun l => some (Blk.arr 3 1 Int 0 (fun n => [.int .i64 n]) l)) (neg_end _)), rfl, trivial⟩) ?_
      · exact ⟨LInv.start hM, fun c => by cases c⟩
      rintro ⟨w0, k0, ag⟩ hp
      try dsimp only at hp
      obtain ⟨hI, hS⟩ := hp
      have hwl := hI.wl
      have hkl := hI.kl
      refine awp_seq ?_
      refine awp_seq ?_
      refine awp_region rfl (.n (fun _ => op_move (.plain rfl)) (.nil _)) ?_
      refine awp_cond rfl (fun h => ?_) (fun h => ?_)
      · (try simp only [decide_eq_true_eq, decide_eq_false_iff_not, Bool.and_eq_true, Bool.or_eq_true, Bool.and_eq_false_iff, Bool.or_eq_false_iff, Bool.not_eq_true', Bool.not_eq_false', Bool.not_eq_true, Bool.not_eq_false, Bool.true_eq_false, Bool.false_eq_true] at h); (try simp only [foldN, foldR, foldL, Int.toNat_natCast] at h)
        subst h
        refine awp_skip ?_
        refine awp_block ?_
        refine awp_seq ?_
        refine awp_region rfl (.n (fun _ => op_assign (.plain rfl)) (.nil _)) ?_
        refine awp_seq ?_
        refine awp_region rfl (.n (fun _ => op_fieldAddr Tryd.underlying24 rfl rfl Tryd.sizeOf22 (.plain rfl)) (.n (fun _ => op_load Tryd.isAgg22 (.plain rfl)) (.n (fun _ => op_len (s := 0) Tryd.underlying22 (.plain rfl)) (.n (fun _ => op_move (.plain rfl)) (.nil _))))) ?_
        refine awp_block ?_
        refine awp_loop (σ := List Int × List Int × Bool × Nat) (fun (s : List Int × List Int × Bool × Nat) => LInv L R s.1 s.2.1 ∧ s.2.2.2 ≤ L.length ∧ (s.2.2.1 = false → s.1 = w0 ∧ s.2.1 = k0 ∧ ∀ j, j < s.2.2.2 → stuckL L w0 k0 j) ∧ remL L s.2.1 ≤ remL L k0 ∧ (s.2.2.1 = true → remL L s.2.1 < remL L k0)) (fun (s : List Int × List Int × Bool × Nat) => ⟨[(1, .pv (.rd [.seq (ByteArray × Int × List Int × Unit) (ByteArray.empty, 0, [], ()) (fun p => [.str p.1, .i p.2.1, .ints p.2.2.1]) L, .seq (ByteArray × Int × List Int × Unit) (ByteArray.empty, 0, [], ()) (fun p => [.str p.1, .i p.2.1, .ints p.2.2.1]) R])), (5, .own 20), (6, .own 24), (8, .bool s.2.2.1), (36, .pv (.seq (ByteArray × Int × List Int × Unit) (ByteArray.empty, 0, [], ()) (fun p => [.str p.1, .i p.2.1, .ints p.2.2.1]) L)), (37, .int (L.length : Nat)), (38, .int (s.2.2.2 : Nat))], [(20, .arr 3 1 Int 0 (fun n => [.int .i64 n]) s.1), (24, .arr 3 1 Int 0 (fun n => [.int .i64 n]) s.2.1)]⟩) (fun (s : List Int × List Int × Bool × Nat) => L.length - s.2.2.2) (w0, k0, false, 0) ?_ (Ent.kept ⟨rfl, rfl, rfl, rfl, rfl, rfl, rfl, trivial⟩ ⟨rfl, rfl, trivial⟩) ?_
        · exact ⟨hI, Nat.zero_le _, fun _ => ⟨rfl, rfl, fun j hj => absurd hj (Nat.not_lt_zero _)⟩, Nat.le_refl _, fun c => by cases c⟩
        rintro ⟨w1, k1, ag1, l⟩ hp
        try dsimp only at hp
        obtain ⟨hI1, hl, hst, hrm, hrl⟩ := hp
        have hwl1 := hI1.wl
        have hkl1 := hI1.kl
        refine awp_seq ?_
        refine awp_region rfl (.n (fun _ => op_lss (.plain rfl) (.plain rfl)) (.nil _)) ?_
        refine awp_seq ?_
        refine awp_cond rfl (fun h => ?_) (fun h => ?_)
        · (try simp only [decide_eq_true_eq, decide_eq_false_iff_not, Bool.and_eq_true, Bool.or_eq_true, Bool.and_eq_false_iff, Bool.or_eq_false_iff, Bool.not_eq_true', Bool.not_eq_false', Bool.not_eq_true, Bool.not_eq_false, Bool.true_eq_false, Bool.false_eq_true] at h); (try simp only [foldN, foldR, foldL, Int.toNat_natCast] at h)
          refine awp_skip ?_
          refine awp_seq ?_
          refine awp_block ?_
          refine awp_seq ?_
          refine awp_region rfl (.n (fun _ => op_move (.plain rfl)) (.n (fun _ => op_indexAddrN Tryd.underlying22 Tryd.sizeOf48 (.plain rfl) (.plain rfl) (fun _ => rfl) ?_) (.n (fun _ => op_load_agg Tryd.isAgg48 Tryd.sizeOf48 (.plain rfl) (Nat.le_of_ble_eq_true rfl)) (.e (op_alloc 10 Tryd.zeroValue48 rfl rfl rfl) rfl (.n (fun _ => op_assign (.plain rfl)) (.e (op_storeRA Tryd.sizeOf48 (.plain rfl) (.plain rfl) rfl rfl (Nat.le_of_ble_eq_true rfl) rfl) rfl (.nil _))))))) ?_
          · (try simp only [foldN, foldR, foldL, Int.toNat_natCast])
            omega
          refine awp_seq ?_
          refine awp_seq ?_
          refine awp_region_draw mixed rfl (.n (fun _ => op_move (.plain rfl)) (.n (fun _ => op_move (.plain rfl)) (.r (op_indexAddrON Tryd.underlying25 Tryd.sizeOf3 (.plain rfl) rfl (.plain rfl) ?_) (.r (op_loadE Tryd.isAgg3 (.plain rfl) rfl (fun _ => rfl) ?_ rfl) (.n (fun _ => op_geq (.plain rfl) (.plain rfl)) (.n (fun _ => op_move (.plain rfl)) (.gn rfl rfl (fun hg _ => op_move (.plain rfl)) (.gn rfl rfl (fun hg _ => op_move (.plain rfl)) (.gr rfl rfl (fun hg => op_indexAddrON Tryd.underlying25 Tryd.sizeOf3 (.opt rfl fun h => h) rfl (.opt rfl fun h => h) ?_) (.gr rfl rfl (fun hg => op_loadE Tryd.isAgg3 (.opt rfl fun h => h) rfl (fun _ => rfl) ?_ rfl) (.gn rfl rfl (fun hg _ => op_fieldAddrR Tryd.underlying48 rfl rfl Tryd.sizeOf25 (.plain rfl)) (.gr rfl rfl (fun hg => op_loadR Tryd.isAgg25 (.opt rfl fun h => h) rfl rfl) (.gn rfl rfl (fun hg _ => op_len (s := 0) Tryd.underlying25 (.opt rfl fun h => h)) (.gn rfl rfl (fun hg _ => op_eql (.opt rfl fun h => h) (.opt rfl fun h => h)) (.n (fun _ => op_or (.plain rfl) (.plain rfl) (.plain rfl) (fun h => eqF h)) (.nil _)))))))))))))))) ?d3 ?_
          · (try simp only [foldN, foldR, foldL, Int.toNat_natCast])
            first | omega | (simp; omega)
          · (try simp only [foldN, foldR, foldL, Int.toNat_natCast])
            first | omega | (simp; omega)
          · try simp only [beq_iff_eq, beq_true, beq_false, Bool.and_eq_true, decide_eq_true_eq, decide_eq_false_iff_not, Bool.not_eq_true', Bool.or_eq_true, Bool.or_eq_false_iff] at hg
            (try simp only [foldN, foldR, foldL, Int.toNat_natCast])
            first | omega | (simp; omega)
          · try simp only [beq_iff_eq, beq_true, beq_false, Bool.and_eq_true, decide_eq_true_eq, decide_eq_false_iff_not, Bool.not_eq_true', Bool.or_eq_true, Bool.or_eq_false_iff] at hg
            (try simp only [foldN, foldR, foldL, Int.toNat_natCast])
            first | omega | (simp; omega)
          · kernel_rfl
          refine awp_cond rfl (fun h => ?_) (fun h => ?_)
          · (try simp only [decide_eq_true_eq, decide_eq_false_iff_not, Bool.and_eq_true, Bool.or_eq_true, Bool.and_eq_false_iff, Bool.or_eq_false_iff, Bool.not_eq_true', Bool.not_eq_false', Bool.not_eq_true, Bool.not_eq_false, Bool.true_eq_false, Bool.false_eq_true] at h); (try simp only [foldN, foldR, foldL, Int.toNat_natCast] at h)
            have hs0 : stuckL L w1 k1 l := h
            clear h
            refine awp_exit ?_
            refine awp_region rfl (.n (fun _ => op_add (.plain rfl) (.plain rfl) ?_) (.n (fun _ => op_move (.plain rfl)) (.nil _))) ?_
            · (try simp only [foldN, foldR, foldL, Int.toNat_natCast])
              unfold InR; omega
            refine ⟨(w1, k1, ag1, l + 1), ⟨hI1, by dsimp only; omega, fun c => ⟨(hst c).1, (hst c).2.1, fun j hj => ?_⟩, hrm, hrl⟩, by dsimp only; omega, (Ent.kept ⟨rfl, rfl, rfl, rfl, rfl, rfl, rfl, trivial⟩ ⟨rfl, rfl, trivial⟩)⟩
            by_cases e : j = l
            · subst e; rw [← (hst c).1, ← (hst c).2.1]; exact hs0
            · exact (hst c).2.2 j (by dsimp only at hj; omega)
          · (try simp only [decide_eq_true_eq, decide_eq_false_iff_not, Bool.and_eq_true, Bool.or_eq_true, Bool.and_eq_false_iff, Bool.or_eq_false_iff, Bool.not_eq_true', Bool.not_eq_false', Bool.not_eq_true, Bool.not_eq_false, Bool.true_eq_false, Bool.false_eq_true] at h); (try simp only [foldN, foldR, foldL, Int.toNat_natCast] at h)
            have hn0 : ¬ 0 ≤ w1.getD l 0 := fun c => by omega
            have hk : ¬ k1.getD l 0 = ((lkF L l).length : Nat) := fun c => by omega
            have hp := hI1.pk hM (show l < L.length by omega) hk
            have hkin := hI1.kin l (by omega)
            have hfal := hfa l (by omega)
            clear h
            refine awp_skip ?_
            refine awp_seq ?_
            refine awp_region_draw mixed rfl (.n (fun _ => op_fieldAddrR Tryd.underlying48 rfl rfl Tryd.sizeOf25 (.plain rfl)) (.r (op_loadR Tryd.isAgg25 (.plain rfl) rfl rfl) (.n (fun _ => op_move (.plain rfl)) (.n (fun _ => op_move (.plain rfl)) (.r (op_indexAddrON Tryd.underlying25 Tryd.sizeOf3 (.plain rfl) rfl (.plain rfl) ?_) (.r (op_loadE Tryd.isAgg3 (.plain rfl) rfl (fun _ => rfl) ?_ rfl) (.n (fun _ => op_indexAddr Tryd.underlying25 Tryd.sizeOf3 (.plain rfl) (.plain rfl) (fun _ => rfl) ?_) (.n (fun _ => op_load Tryd.isAgg3 (.plain rfl)) (.n (fun _ => op_assign (.plain rfl)) (.nil _)))))))))) ?d4 ?_
            · (try simp only [foldN, foldR, foldL, Int.toNat_natCast])
              first | omega | (simp; omega)
            · (try simp only [foldN, foldR, foldL, Int.toNat_natCast])
              first | omega | (simp; omega)
            · (try simp only [foldN, foldR, foldL, Int.toNat_natCast])
              omega
            · kernel_rfl
            refine awp_seq ?_
            refine awp_region rfl (.n (fun _ => op_move (.plain rfl)) (.n (fun _ => op_move (.plain rfl)) (.r (op_indexAddrON Tryd.underlying25 Tryd.sizeOf3 (.plain rfl) rfl (.plain rfl) ?_) (.r (op_loadE Tryd.isAgg3 (.plain rfl) rfl (fun _ => rfl) ?_ rfl) (.n (fun _ => op_add (.plain rfl) (.plain rfl) ?_) (.r (op_indexAddrON Tryd.underlying25 Tryd.sizeOf3 (.plain rfl) rfl (.plain rfl) ?_) (.e (op_storeE _ Tryd.sizeOf3 (.plain rfl) (.plain rfl) rfl (fun _ => rfl) ?_ (by decide) rfl rfl) rfl (.nil _)))))))) ?_
            · (try simp only [foldN, foldR, foldL, Int.toNat_natCast])
              first | omega | (simp; omega)
            · (try simp only [foldN, foldR, foldL, Int.toNat_natCast])
              first | omega | (simp; omega)
            · (try simp only [foldN, foldR, foldL, Int.toNat_natCast])
              unfold InR; omega
            · (try simp only [foldN, foldR, foldL, Int.toNat_natCast])
              first | omega | (simp; omega)
            · (try simp only [foldN, foldR, foldL, Int.toNat_natCast])
              first | omega | (simp; omega)
            refine awp_seq ?_
            refine awp_region rfl (.n (fun _ => op_assign (.plain rfl)) (.nil _)) ?_
            refine awp_seq ?_
            refine awp_region rfl (.n (fun _ => op_load_agg Tryd.isAgg24 Tryd.sizeOf24 (.plain rfl) (Nat.le_of_ble_eq_true rfl)) (.n (fun _ => op_move (.plain rfl)) (.n (fun _ => op_move (.plain rfl)) (.n (fun _ => op_call3 Tryd.call35 (.plain rfl) (.plain rfl) (.plain rfl) (likes_fc L R l (pkF L k1 l).toNat _ _ ?_ ?_ ?_ ?_)) (.nil _))))) ?_
            · (try simp only [foldN, foldR, foldL, Int.toNat_natCast])
              try (first | rfl | omega)
            · (try simp only [foldN, foldR, foldL, Int.toNat_natCast])
              try (show pkF L k1 l = ((pkF L k1 l).toNat : Int))
              try omega
            · (try simp only [foldN, foldR, foldL, Int.toNat_natCast])
              omega
            · (try simp only [foldN, foldR, foldL, Int.toNat_natCast])
              omega
            refine awp_cond rfl (fun h => ?_) (fun h => ?_)
            · (try simp only [decide_eq_true_eq, decide_eq_false_iff_not, Bool.and_eq_true, Bool.or_eq_true, Bool.and_eq_false_iff, Bool.or_eq_false_iff, Bool.not_eq_true', Bool.not_eq_false', Bool.not_eq_true, Bool.not_eq_false, Bool.true_eq_false, Bool.false_eq_true] at h); (try simp only [foldN, foldR, foldL, Int.toNat_natCast] at h)
              have hlk : likesF L R l (pkF L k1 l).toNat = true := h
              have hI2 := hI1.yes hM (show l < L.length by omega) hk hn0 hlk
              have hr2 := remL_lt hI1 (show l < L.length by omega) hk
              refine awp_seq ?_
              refine awp_region rfl (.n (fun _ => op_move (.plain rfl)) (.n (fun _ => op_move (.plain rfl)) (.n (fun _ => op_move (.plain rfl)) (.r (op_indexAddrON Tryd.underlying25 Tryd.sizeOf3 (.plain rfl) rfl (.plain rfl) ?_) (.e (op_storeE _ Tryd.sizeOf3 (.plain rfl) (.plain rfl) rfl (fun _ => rfl) ?_ (by decide) rfl rfl) rfl (.nil _)))))) ?_
              · (try simp only [foldN, foldR, foldL, Int.toNat_natCast])
                first | omega | (simp; omega)
              · (try simp only [foldN, foldR, foldL, Int.toNat_natCast])
                first | omega | (simp; omega)
              refine awp_region rfl (.n (fun _ => op_load_agg Tryd.isAgg24 Tryd.sizeOf24 (.plain rfl) (Nat.le_of_ble_eq_true rfl)) (.n (fun _ => op_move (.plain rfl)) (.n (fun _ => op_move (.plain rfl)) (.e (op_callM (vals := [some _, none, some _]) 20 Tryd.call48 ⟨(.plain rfl), (.plain rfl), (.plain rfl), trivial⟩ rfl (refuse_fcm L R (w1.set l (pkF L k1 l)) (pkF L k1 l).toNat _ ?_ ?_ ?_ ?_) rfl (by simp [Blk.flatB, PV.flat]) (by simp [Blk.flatB, PV.flat])) rfl (.nil _))))) ?_
              · (try simp only [foldN, foldR, foldL, Int.toNat_natCast])
                try (show pkF L k1 l = ((pkF L k1 l).toNat : Int))
                try omega
              · (try simp only [foldN, foldR, foldL, Int.toNat_natCast])
                omega
              · (try simp only [foldN, foldR, foldL, Int.toNat_natCast])
                have := (hM.rroom _ (show (pkF L k1 l).toNat < R.length by omega)).1
                omega
              · (try simp only [foldN, foldR, foldL, Int.toNat_natCast])
                rw [List.length_set]
                omega
              refine awp_region rfl (.n (fun _ => op_add (.plain rfl) (.plain rfl) ?_) (.n (fun _ => op_move (.plain rfl)) (.nil _))) ?_
              · (try simp only [foldN, foldR, foldL, Int.toNat_natCast])
                unfold InR; omega
              refine ⟨(refF R (w1.set l (pkF L k1 l)) (pkF L k1 l).toNat, k1.set l (k1.getD l 0 + 1), true, l + 1), ⟨hI2, by dsimp only; omega, (fun c => by cases c), by dsimp only; omega, (fun _ => by dsimp only; omega)⟩, by dsimp only; omega, (Ent.kept ⟨rfl, rfl, rfl, rfl, rfl, rfl, rfl, trivial⟩ ⟨rfl, rfl, trivial⟩)⟩
            · (try simp only [decide_eq_true_eq, decide_eq_false_iff_not, Bool.and_eq_true, Bool.or_eq_true, Bool.and_eq_false_iff, Bool.or_eq_false_iff, Bool.not_eq_true', Bool.not_eq_false', Bool.not_eq_true, Bool.not_eq_false, Bool.true_eq_false, Bool.false_eq_true] at h); (try simp only [foldN, foldR, foldL, Int.toNat_natCast] at h)
              have hI2 := hI1.no hM (show l < L.length by omega) hk h
              have hr2 := remL_lt hI1 (show l < L.length by omega) hk
              refine awp_skip ?_
              refine awp_region rfl (.n (fun _ => op_add (.plain rfl) (.plain rfl) ?_) (.n (fun _ => op_move (.plain rfl)) (.nil _))) ?_
              · (try simp only [foldN, foldR, foldL, Int.toNat_natCast])
                unfold InR; omega
              refine ⟨(w1, k1.set l (k1.getD l 0 + 1), true, l + 1), ⟨hI2, by dsimp only; omega, (fun c => by cases c), by dsimp only; omega, (fun _ => by dsimp only; omega)⟩, by dsimp only; omega, (Ent.kept ⟨rfl, rfl, rfl, rfl, rfl, rfl, rfl, trivial⟩ ⟨rfl, rfl, trivial⟩)⟩
        · (try simp only [decide_eq_true_eq, decide_eq_false_iff_not, Bool.and_eq_true, Bool.or_eq_true, Bool.and_eq_false_iff, Bool.or_eq_false_iff, Bool.not_eq_true', Bool.not_eq_false', Bool.not_eq_true, Bool.not_eq_false, Bool.true_eq_false, Bool.false_eq_true] at h); (try simp only [foldN, foldR, foldL, Int.toNat_natCast] at h)
          have hl0 : l = L.length := by omega
          subst hl0
          refine awp_exit ?_
          refine ⟨(w1, k1, ag1), ⟨hI1, fun c => by have := hst c; rw [this.1, this.2.1]; exact this.2.2⟩, ?_, (Ent.kept ⟨rfl, rfl, rfl, rfl, trivial⟩ ⟨rfl, rfl, trivial⟩)⟩
          dsimp only
          cases ag1 with
          | true => have := hrl rfl; simp; omega
          | false => simp; omega
      · (try simp only [decide_eq_true_eq, decide_eq_false_iff_not, Bool.and_eq_true, Bool.or_eq_true, Bool.and_eq_false_iff, Bool.or_eq_false_iff, Bool.not_eq_true', Bool.not_eq_false', Bool.not_eq_true, Bool.not_eq_false, Bool.true_eq_false, Bool.false_eq_true] at h); (try simp only [foldN, foldR, foldL, Int.toNat_natCast] at h)
        have hS2 := hS h
        refine awp_exit ?_
        refine awp_seq ?_
        refine awp_region rfl (.n (fun _ => op_move (.plain rfl)) (.n (fun _ => op_assign (.plain rfl)) (.n (fun _ => op_assign (.plain rfl)) (.nil _)))) ?_
        refine awp_ret ?_
        refine retQ.ret ?_
        refine ret2 rfl rfl rfl rfl rfl ?_
        rw [leftV_is hM0 (hI.done hS2), hM0]

set_option maxRecDepth 1000000 in
set_option maxHeartbeats 1000000 in
theorem Right_fc (L R : List Ag) : FC Tryd.prog 23 [.agg [.seq (ByteArray × Int × List Int × Unit) (ByteArray.empty, 0, [], ()) (fun p => [.str p.1, .i p.2.1, .ints p.2.2.1]) L, .seq (ByteArray × Int × List Int × Unit) (ByteArray.empty, 0, [], ()) (fun p => [.str p.1, .i p.2.1, .ints p.2.2.1]) R]] (.tup [.ints (rightV L R), .i (mMayE L R)]) := by
  refine FC.intro Tryd.func23 rfl (Nat.le_of_ble_eq_true rfl) fun hfit => ?_
  have fit0 := hfit _ (.head _)
  have hfl : L.length ≤ 281474976710656 := by cases fit0 with | agg _ h => exact (h 0 (by simp)).len
  have hfr : R.length ≤ 281474976710656 := by cases fit0 with | agg _ h => exact (h 1 (by simp)).len
  have hfa : ∀ i, i < L.length → (lkF L i).length ≤ 281474976710656 ∧ (nmF L i).size ≤ 281474976710656 := fun i hi => by cases fit0 with | agg _ h => exact ⟨((h 0 (by simp)).elem (getD_mem (ByteArray.empty, 0, [], ()) hi) (c := .ints (lkF L i)) (List.mem_cons_of_mem _ (List.mem_cons_of_mem _ List.mem_cons_self))).len, ((h 0 (by simp)).elem (getD_mem (ByteArray.empty, 0, [], ()) hi) (c := .str (nmF L i)) List.mem_cons_self).str_len⟩
  have hfb : ∀ i, i < R.length → (lkF R i).length ≤ 281474976710656 ∧ (nmF R i).size ≤ 281474976710656 := fun i hi => by cases fit0 with | agg _ h => exact ⟨((h 1 (by simp)).elem (getD_mem (ByteArray.empty, 0, [], ()) hi) (c := .ints (lkF R i)) (List.mem_cons_of_mem _ (List.mem_cons_of_mem _ List.mem_cons_self))).len, ((h 1 (by simp)).elem (getD_mem (ByteArray.empty, 0, [], ()) hi) (c := .str (nmF R i)) List.mem_cons_self).str_len⟩
  refine awp_seq ?_
  refine awp_region rfl (.n (fun _ => op_box (.plain rfl) (by simp)) (.n (fun _ => op_assign (.plain rfl)) (.n (fun _ => op_assign (.plain rfl)) (.nil _)))) ?_
  refine awp_seq ?_
  refine awp_seq ?_
  refine awp_region rfl (.n (fun _ => op_load_agg Tryd.isAgg24 Tryd.sizeOf24 (.plain rfl) (Nat.le_of_ble_eq_true rfl)) (.n (fun _ => op_call1 Tryd.call13 (.plain rfl) (mMay_fc _ _)) (.n (fun _ => op_assign (.plain rfl)) (.nil _)))) ?_
  refine awp_seq ?_
  refine awp_region rfl (.n (fun _ => op_move (.plain rfl)) (.n (fun _ => op_neq (.plain rfl) (.plain rfl)) (.nil _))) ?_
  refine awp_cond rfl (fun h => ?_) (fun h => ?_)
  · (try simp only [decide_eq_true_eq, decide_eq_false_iff_not, Bool.and_eq_true, Bool.or_eq_true, Bool.and_eq_false_iff, Bool.or_eq_false_iff, Bool.not_eq_true', Bool.not_eq_false', Bool.not_eq_true, Bool.not_eq_false, Bool.true_eq_false, Bool.false_eq_true] at h); (try simp only [foldN, foldR, foldL, Int.toNat_natCast] at h)
    refine awp_seq ?_
    refine awp_region rfl (.n (fun _ => op_move (.plain rfl)) (.n (fun _ => op_assign (.plain rfl)) (.n (fun _ => op_assign (.plain rfl)) (.nil _)))) ?_
    refine awp_ent (Ent.nilseq 2 Int 0 (fun n => [.int .i64 n]) rfl) ?_
    refine awp_ret ?_
    refine retQ.ret ?_
    refine ret2 rfl rfl rfl rfl rfl ?_
    rw [rightV_no h]
  · (try simp only [decide_eq_true_eq, decide_eq_false_iff_not, Bool.and_eq_true, Bool.or_eq_true, Bool.and_eq_false_iff, Bool.or_eq_false_iff, Bool.not_eq_true', Bool.not_eq_false', Bool.not_eq_true, Bool.not_eq_false, Bool.true_eq_false, Bool.false_eq_true] at h); (try simp only [foldN, foldR, foldL, Int.toNat_natCast] at h)
    have hM0 : mMayE L R = 0 := by omega
    clear h
    have hM := mok hM0
    have hl6 := hM.l6
    have hr6 := hM.r6
    refine awp_skip ?_
    refine awp_seq ?_
    refine awp_region_draw mixed rfl (.n (fun _ => op_fieldAddr Tryd.underlying24 rfl rfl Tryd.sizeOf22 (.plain rfl)) (.n (fun _ => op_load Tryd.isAgg22 (.plain rfl)) (.n (fun _ => op_len (s := 0) Tryd.underlying22 (.plain rfl)) (.a (fun _ hm => op_make (α := Int) (d := 0) (f := (fun n => [.int .i64 n])) 20 0 ety25 (.plain rfl) (.plain rfl) (fun _ => rfl) rfl hm ?_) rfl (fun _ => rfl) rfl (.n (fun _ => op_fieldAddr Tryd.underlying24 rfl rfl Tryd.sizeOf22 (.plain rfl)) (.n (fun _ => op_load Tryd.isAgg22 (.plain rfl)) (.n (fun _ => op_len (s := 0) Tryd.underlying22 (.plain rfl)) (.a (fun _ hm => op_make (α := Int) (d := 0) (f := (fun n => [.int .i64 n])) 24 0 ety25 (.plain rfl) (.plain rfl) (fun _ => rfl) rfl hm ?_) rfl (fun _ => rfl) rfl (.n (fun _ => op_assign (.plain rfl)) (.n (fun _ => op_assign (.plain rfl)) (.nil _))))))))))) ?d5 ?_
    · (try simp only [foldN, foldR, foldL, Int.toNat_natCast])
      omega
    · (try simp only [foldN, foldR, foldL, Int.toNat_natCast])
      omega
    · kernel_rfl
    refine awp_seq ?_
    refine awp_seq ?_
    refine awp_region rfl (.n (fun _ => op_move (.plain rfl)) (.r (op_lenO Tryd.underlying25 (.plain rfl) rfl) (.n (fun _ => op_move (.plain rfl)) (.nil _)))) ?_
    refine awp_block ?_
    refine awp_loop (σ := Nat) (fun (q : Nat) => q ≤ L.length) (fun (q : Nat) => ⟨[(1, .pv (.rd [.seq (ByteArray × Int × List Int × Unit) (ByteArray.empty, 0, [], ()) (fun p => [.str p.1, .i p.2.1, .ints p.2.2.1]) L, .seq (ByteArray × Int × List Int × Unit) (ByteArray.empty, 0, [], ()) (fun p => [.str p.1, .i p.2.1, .ints p.2.2.1]) R])), (5, .own 20), (6, .own 24), (26, .int (L.length : Nat)), (27, .int (q : Nat))], [(20, .arr 3 1 Int 0 (fun n => [.int .i64 n]) (mapr L.length fun j => if j < q then (-1 : Int) else 0)), (24, .arr 3 1 Int 0 (fun n => [.int .i64 n]) (List.replicate R.length 0))]⟩) (fun (q : Nat) => L.length - q) 0 ?_ (Ent.kept ⟨rfl, rfl, rfl, (congrArg (fun n : Nat => some (SV.int (n : Int))) List.length_replicate), rfl, trivial⟩ ⟨(congrArg (fun l => some (Blk.arr 3 1 Int 0 (fun n => [.int .i64 n]) l)) (neg_start _)), rfl, trivial⟩) ?_
    · exact Nat.zero_le _
    rintro q hp
    try dsimp only at hp
    have hq := hp
    refine awp_seq ?_
    refine awp_region rfl (.n (fun _ => op_lss (.plain rfl) (.plain rfl)) (.nil _)) ?_
    refine awp_seq ?_
    refine awp_cond rfl (fun h => ?_) (fun h => ?_)
    · (try simp only [decide_eq_true_eq, decide_eq_false_iff_not, Bool.and_eq_true, Bool.or_eq_true, Bool.and_eq_false_iff, Bool.or_eq_false_iff, Bool.not_eq_true', Bool.not_eq_false', Bool.not_eq_true, Bool.not_eq_false, Bool.true_eq_false, Bool.false_eq_true] at h); (try simp only [foldN, foldR, foldL, Int.toNat_natCast] at h)
      refine awp_skip ?_
      refine awp_seq ?_
      refine awp_block ?_
      refine awp_seq ?_
      refine awp_region rfl (.n (fun _ => op_move (.plain rfl)) (.n (fun _ => op_assign (.plain rfl)) (.nil _))) ?_
      refine awp_region rfl (.n (fun _ => op_move (.plain rfl)) (.n (fun _ => op_move (.plain rfl)) (.r (op_indexAddrON Tryd.underlying25 Tryd.sizeOf3 (.plain rfl) rfl (.plain rfl) ?_) (.e (op_storeE _ Tryd.sizeOf3 (.plain rfl) (.plain rfl) rfl (fun _ => rfl) ?_ (by decide) rfl rfl) rfl (.nil _))))) ?_
      · (try simp only [foldN, foldR, foldL, Int.toNat_natCast])
        first | omega | (simp; omega)
      · (try simp only [foldN, foldR, foldL, Int.toNat_natCast])
        first | omega | (simp; omega)
      refine awp_region rfl (.n (fun _ => op_add (.plain rfl) (.plain rfl) ?_) (.n (fun _ => op_move (.plain rfl)) (.nil _))) ?_
      · (try simp only [foldN, foldR, foldL, Int.toNat_natCast])
        unfold InR; omega
      exact ⟨q + 1, by omega, by dsimp only; omega, (Ent.kept ⟨rfl, rfl, rfl, rfl, rfl, trivial⟩ ⟨(congrArg (fun l => some (Blk.arr 3 1 Int 0 (fun n => [.int .i64 n]) l)) (neg_fill (by omega))), rfl, trivial⟩)⟩
    · (try simp only [decide_eq_true_eq, decide_eq_false_iff_not, Bool.and_eq_true, Bool.or_eq_true, Bool.and_eq_false_iff, Bool.or_eq_false_iff, Bool.not_eq_true', Bool.not_eq_false', Bool.not_eq_true, Bool.not_eq_false, Bool.true_eq_false, Bool.false_eq_true] at h); (try simp only [foldN, foldR, foldL, Int.toNat_natCast] at h)
      have hq0 : q = L.length := by omega
      subst hq0
      clear h
      refine awp_exit ?_
      refine awp_seq ?_
      refine awp_seq ?_
      refine awp_region rfl (.n (fun _ => op_assign (.plain rfl)) (.nil _)) ?_
      refine awp_block ?_
      refine awp_loop (σ := List Int × List Int × Bool) (fun (s : List Int × List Int × Bool) => RInv L R s.1 s.2.1 ∧ (s.2.2 = false → ∀ l, l < R.length → stuckR R s.1 s.2.1 l)) (fun (s : List Int × List Int × Bool) => ⟨[(1, .pv (.rd [.seq (ByteArray × Int × List Int × Unit) (ByteArray.empty, 0, [], ()) (fun p => [.str p.1, .i p.2.1, .ints p.2.2.1]) L, .seq (ByteArray × Int × List Int × Unit) (ByteArray.empty, 0, [], ()) (fun p => [.str p.1, .i p.2.1, .ints p.2.2.1]) R])), (5, .own 20), (6, .own 24), (8, .bool s.2.2)], [(20, .arr 3 1 Int 0 (fun n => [.int .i64 n]) s.1), (24, .arr 3 1 Int 0 (fun n => [.int .i64 n]) s.2.1)]⟩) (fun (s : List Int × List Int × Bool) => 2 * remL R s.2.1 + (if s.2.2 = true then 1 else 0)) (mapr L.length fun _ => -1, List.replicate R.length 0, true) ?_ (Ent.kept ⟨rfl, rfl, rfl, rfl, trivial⟩ ⟨(congrArg (fun l => some (Blk.arr 3 1 Int 0 (fun n => [.int .i64 n]) l)) (neg_end _)), rfl, trivial⟩) ?_
      · exact ⟨RInv.start, fun c => by cases c⟩
      rintro ⟨w0, k0, ag⟩ hp
      try dsimp only at hp
      obtain ⟨hI, hS⟩ := hp
      have hwl := hI.wl
      have hkl := hI.kl
      refine awp_seq ?_
      refine awp_seq ?_
      refine awp_region rfl (.n (fun _ => op_move (.plain rfl)) (.nil _)) ?_
      refine awp_cond rfl (fun h => ?_) (fun h => ?_)
      · (try simp only [decide_eq_true_eq, decide_eq_false_iff_not, Bool.and_eq_true, Bool.or_eq_true, Bool.and_eq_false_iff, Bool.or_eq_false_iff, Bool.not_eq_true', Bool.not_eq_false', Bool.not_eq_true, Bool.not_eq_false, Bool.true_eq_false, Bool.false_eq_true] at h); (try simp only [foldN, foldR, foldL, Int.toNat_natCast] at h)
        subst h
        refine awp_skip ?_
        refine awp_block ?_
        refine awp_seq ?_
        refine awp_region rfl (.n (fun _ => op_assign (.plain rfl)) (.nil _)) ?_
        refine awp_seq ?_
        refine awp_region rfl (.n (fun _ => op_fieldAddr Tryd.underlying24 rfl rfl Tryd.sizeOf22 (.plain rfl)) (.n (fun _ => op_load Tryd.isAgg22 (.plain rfl)) (.n (fun _ => op_len (s := 0) Tryd.underlying22 (.plain rfl)) (.n (fun _ => op_move (.plain rfl)) (.nil _))))) ?_
        refine awp_block ?_
        refine awp_loop (σ := List Int × List Int × Bool × Nat) (fun (s : List Int × List Int × Bool × Nat) => RInv L R s.1 s.2.1 ∧ s.2.2.2 ≤ R.length ∧ (s.2.2.1 = false → s.1 = w0 ∧ s.2.1 = k0 ∧ ∀ j, j < s.2.2.2 → stuckR R w0 k0 j) ∧ remL R s.2.1 ≤ remL R k0 ∧ (s.2.2.1 = true → remL R s.2.1 < remL R k0)) (fun (s : List Int × List Int × Bool × Nat) => ⟨[(1, .pv (.rd [.seq (ByteArray × Int × List Int × Unit) (ByteArray.empty, 0, [], ()) (fun p => [.str p.1, .i p.2.1, .ints p.2.2.1]) L, .seq (ByteArray × Int × List Int × Unit) (ByteArray.empty, 0, [], ()) (fun p => [.str p.1, .i p.2.1, .ints p.2.2.1]) R])), (5, .own 20), (6, .own 24), (8, .bool s.2.2.1), (36, .pv (.seq (ByteArray × Int × List Int × Unit) (ByteArray.empty, 0, [], ()) (fun p => [.str p.1, .i p.2.1, .ints p.2.2.1]) R)), (37, .int (R.length : Nat)), (38, .int (s.2.2.2 : Nat))], [(20, .arr 3 1 Int 0 (fun n => [.int .i64 n]) s.1), (24, .arr 3 1 Int 0 (fun n => [.int .i64 n]) s.2.1)]⟩) (fun (s : List Int × List Int × Bool × Nat) => R.length - s.2.2.2) (w0, k0, false, 0) ?_ (Ent.kept ⟨rfl, rfl, rfl, rfl, rfl, rfl, rfl, trivial⟩ ⟨rfl, rfl, trivial⟩) ?_
        · exact ⟨hI, Nat.zero_le _, fun _ => ⟨rfl, rfl, fun j hj => absurd hj (Nat.not_lt_zero _)⟩, Nat.le_refl _, fun c => by cases c⟩
        rintro ⟨w1, k1, ag1, r⟩ hp
        try dsimp only at hp
        obtain ⟨hI1, hl, hst, hrm, hrl⟩ := hp
        have hwl1 := hI1.wl
        have hkl1 := hI1.kl
        refine awp_seq ?_
        refine awp_region rfl (.n (fun _ => op_lss (.plain rfl) (.plain rfl)) (.nil _)) ?_
        refine awp_seq ?_
        refine awp_cond rfl (fun h => ?_) (fun h => ?_)
        · (try simp only [decide_eq_true_eq, decide_eq_false_iff_not, Bool.and_eq_true, Bool.or_eq_true, Bool.and_eq_false_iff, Bool.or_eq_false_iff, Bool.not_eq_true', Bool.not_eq_false', Bool.not_eq_true, Bool.not_eq_false, Bool.true_eq_false, Bool.false_eq_true] at h); (try simp only [foldN, foldR, foldL, Int.toNat_natCast] at h)
          refine awp_skip ?_
          refine awp_seq ?_
          refine awp_block ?_
          refine awp_seq ?_
          refine awp_region rfl (.n (fun _ => op_move (.plain rfl)) (.n (fun _ => op_indexAddrN Tryd.underlying22 Tryd.sizeOf48 (.plain rfl) (.plain rfl) (fun _ => rfl) ?_) (.n (fun _ => op_load_agg Tryd.isAgg48 Tryd.sizeOf48 (.plain rfl) (Nat.le_of_ble_eq_true rfl)) (.e (op_alloc 10 Tryd.zeroValue48 rfl rfl rfl) rfl (.n (fun _ => op_assign (.plain rfl)) (.e (op_storeRA Tryd.sizeOf48 (.plain rfl) (.plain rfl) rfl rfl (Nat.le_of_ble_eq_true rfl) rfl) rfl (.nil _))))))) ?_
          · (try simp only [foldN, foldR, foldL, Int.toNat_natCast])
            omega
          refine awp_seq ?_
          refine awp_seq ?_
          refine awp_region_draw mixed rfl (.n (fun _ => op_move (.plain rfl)) (.n (fun _ => op_move (.plain rfl)) (.r (op_indexAddrON Tryd.underlying25 Tryd.sizeOf3 (.plain rfl) rfl (.plain rfl) ?_) (.r (op_loadE Tryd.isAgg3 (.plain rfl) rfl (fun _ => rfl) ?_ rfl) (.n (fun _ => op_fieldAddrR Tryd.underlying48 rfl rfl Tryd.sizeOf25 (.plain rfl)) (.r (op_loadR Tryd.isAgg25 (.plain rfl) rfl rfl) (.n (fun _ => op_len (s := 0) Tryd.underlying25 (.plain rfl)) (.n (fun _ => op_eql (.plain rfl) (.plain rfl)) (.n (fun _ => op_move (.plain rfl)) (.gn rfl rfl (fun hg _ => op_move (.plain rfl)) (.gn rfl rfl (fun hg _ => op_move (.plain rfl)) (.gr rfl rfl (fun hg => op_callL (vals := [_, _]) Tryd.call46 ⟨⟨_, (.opt rfl fun h => h), rfl⟩, ⟨_, (.opt rfl fun h => h), rfl⟩, trivial⟩ (count_fc _ _) rfl) (.gn rfl rfl (fun hg _ => op_fieldAddrR Tryd.underlying48 rfl rfl Tryd.sizeOf3 (.plain rfl)) (.gr rfl rfl (fun hg => op_loadR Tryd.isAgg3 (.opt rfl fun h => h) rfl rfl) (.gn rfl rfl (fun hg _ => op_eql (.opt rfl fun h => h) (.opt rfl fun h => h)) (.n (fun _ => op_or (.plain rfl) (.plain rfl) (.plain rfl) (fun h => eqF h)) (.nil _))))))))))))))))) ?d6 ?_
          · (try simp only [foldN, foldR, foldL, Int.toNat_natCast])
            first | omega | (simp; omega)
          · (try simp only [foldN, foldR, foldL, Int.toNat_natCast])
            first | omega | (simp; omega)
          · kernel_rfl
          refine awp_cond rfl (fun h => ?_) (fun h => ?_)
          · (try simp only [decide_eq_true_eq, decide_eq_false_iff_not, Bool.and_eq_true, Bool.or_eq_true, Bool.and_eq_false_iff, Bool.or_eq_false_iff, Bool.not_eq_true', Bool.not_eq_false', Bool.not_eq_true, Bool.not_eq_false, Bool.true_eq_false, Bool.false_eq_true] at h); (try simp only [foldN, foldR, foldL, Int.toNat_natCast] at h)
            have hs0 : stuckR R w1 k1 r := h
            clear h
            refine awp_exit ?_
            refine awp_region rfl (.n (fun _ => op_add (.plain rfl) (.plain rfl) ?_) (.n (fun _ => op_move (.plain rfl)) (.nil _))) ?_
            · (try simp only [foldN, foldR, foldL, Int.toNat_natCast])
              unfold InR; omega
            refine ⟨(w1, k1, ag1, r + 1), ⟨hI1, by dsimp only; omega, fun c => ⟨(hst c).1, (hst c).2.1, fun j hj => ?_⟩, hrm, hrl⟩, by dsimp only; omega, (Ent.kept ⟨rfl, rfl, rfl, rfl, rfl, rfl, rfl, trivial⟩ ⟨rfl, rfl, trivial⟩)⟩
            by_cases e : j = r
            · subst e; rw [← (hst c).1, ← (hst c).2.1]; exact hs0
            · exact (hst c).2.2 j (by dsimp only at hj; omega)
          · (try simp only [decide_eq_true_eq, decide_eq_false_iff_not, Bool.and_eq_true, Bool.or_eq_true, Bool.and_eq_false_iff, Bool.or_eq_false_iff, Bool.not_eq_true', Bool.not_eq_false', Bool.not_eq_true, Bool.not_eq_false, Bool.true_eq_false, Bool.false_eq_true] at h); (try simp only [foldN, foldR, foldL, Int.toNat_natCast] at h)
            have hk : ¬ k1.getD r 0 = ((lkF R r).length : Nat) := h.1
            have hn0 : ¬ (cntF w1 (r : Int) : Int) = rmF R r := h.2
            have hp := hI1.pk hM (show r < R.length by omega) hk
            have hkin := hI1.kin r (by omega)
            have hfal := hfb r (by omega)
            clear h
            refine awp_skip ?_
            refine awp_seq ?_
            refine awp_region_draw mixed rfl (.n (fun _ => op_fieldAddrR Tryd.underlying48 rfl rfl Tryd.sizeOf25 (.plain rfl)) (.r (op_loadR Tryd.isAgg25 (.plain rfl) rfl rfl) (.n (fun _ => op_move (.plain rfl)) (.n (fun _ => op_move (.plain rfl)) (.r (op_indexAddrON Tryd.underlying25 Tryd.sizeOf3 (.plain rfl) rfl (.plain rfl) ?_) (.r (op_loadE Tryd.isAgg3 (.plain rfl) rfl (fun _ => rfl) ?_ rfl) (.n (fun _ => op_indexAddr Tryd.underlying25 Tryd.sizeOf3 (.plain rfl) (.plain rfl) (fun _ => rfl) ?_) (.n (fun _ => op_load Tryd.isAgg3 (.plain rfl)) (.n (fun _ => op_assign (.plain rfl)) (.nil _)))))))))) ?d7 ?_
            · (try simp only [foldN, foldR, foldL, Int.toNat_natCast])
              first | omega | (simp; omega)
            · (try simp only [foldN, foldR, foldL, Int.toNat_natCast])
              have := hI1.kin r (by omega)
              omega
            · (try simp only [foldN, foldR, foldL, Int.toNat_natCast])
              omega
            · kernel_rfl
            refine awp_seq ?_
            refine awp_region rfl (.n (fun _ => op_move (.plain rfl)) (.n (fun _ => op_move (.plain rfl)) (.r (op_indexAddrON Tryd.underlying25 Tryd.sizeOf3 (.plain rfl) rfl (.plain rfl) ?_) (.r (op_loadE Tryd.isAgg3 (.plain rfl) rfl (fun _ => rfl) ?_ rfl) (.n (fun _ => op_add (.plain rfl) (.plain rfl) ?_) (.r (op_indexAddrON Tryd.underlying25 Tryd.sizeOf3 (.plain rfl) rfl (.plain rfl) ?_) (.e (op_storeE _ Tryd.sizeOf3 (.plain rfl) (.plain rfl) rfl (fun _ => rfl) ?_ (by decide) rfl rfl) rfl (.nil _)))))))) ?_
            · (try simp only [foldN, foldR, foldL, Int.toNat_natCast])
              first | omega | (simp; omega)
            · (try simp only [foldN, foldR, foldL, Int.toNat_natCast])
              first | omega | (simp; omega)
            · (try simp only [foldN, foldR, foldL, Int.toNat_natCast])
              unfold InR; omega
            · (try simp only [foldN, foldR, foldL, Int.toNat_natCast])
              first | omega | (simp; omega)
            · (try simp only [foldN, foldR, foldL, Int.toNat_natCast])
              first | omega | (simp; omega)
            refine awp_seq ?_
            refine awp_region rfl (.n (fun _ => op_assign (.plain rfl)) (.nil _)) ?_
            refine awp_seq ?_
            refine awp_region_draw mixed rfl (.n (fun _ => op_load_agg Tryd.isAgg24 Tryd.sizeOf24 (.plain rfl) (Nat.le_of_ble_eq_true rfl)) (.n (fun _ => op_move (.plain rfl)) (.n (fun _ => op_move (.plain rfl)) (.n (fun _ => op_call3 Tryd.call35 (.plain rfl) (.plain rfl) (.plain rfl) (likes_fc L R (pkF R k1 r).toNat r _ _ ?_ ?_ ?_ ?_)) (.n (fun _ => op_move (.plain rfl)) (.gn rfl rfl (fun hg _ => op_move (.plain rfl)) (.gn rfl rfl (fun hg _ => op_move (.plain rfl)) (.gr rfl rfl (fun hg => op_indexAddrO Tryd.underlying25 Tryd.sizeOf3 (.opt rfl fun h => h) rfl (.opt rfl fun h => h) ?_) (.gr rfl rfl (fun hg => op_loadE Tryd.isAgg3 (.opt rfl fun h => h) rfl (fun _ => rfl) ?_ rfl) (.gn rfl rfl (fun hg _ => op_lss (.opt rfl fun h => h) (.plain rfl)) (.gn rfl rfl (fun hg _ => op_move (.opt rfl fun h => h)) (.ggn rfl rfl (fun hg _ => op_fieldAddr Tryd.underlying24 rfl rfl Tryd.sizeOf22 (.plain rfl)) (.ggn rfl rfl (fun hg _ => op_load Tryd.isAgg22 (.opt rfl fun h => h)) (.ggn rfl rfl (fun hg _ => op_move (.plain rfl)) (.ggn rfl rfl (fun hg _ => op_indexAddr Tryd.underlying22 Tryd.sizeOf48 (.opt rfl fun h => h) (.opt rfl fun h => h) (fun _ => rfl) ?_) (.ggn rfl rfl (fun hg _ => op_load_agg Tryd.isAgg48 Tryd.sizeOf48 (.opt rfl fun h => h) (Nat.le_of_ble_eq_true rfl)) (.ggn rfl rfl (fun hg _ => op_move (.plain rfl)) (.ggn rfl rfl (fun hg _ => op_call2 Tryd.call49 (.opt rfl fun h => h) (.opt rfl fun h => h) (Rank_fc _ _ _ _)) (.ggn rfl rfl (fun hg _ => op_fieldAddr Tryd.underlying24 rfl rfl Tryd.sizeOf22 (.plain rfl)) (.ggn rfl rfl (fun hg _ => op_load Tryd.isAgg22 (.opt rfl fun h => h)) (.ggn rfl rfl (fun hg _ => op_move (.plain rfl)) (.ggn rfl rfl (fun hg _ => op_indexAddr Tryd.underlying22 Tryd.sizeOf48 (.opt rfl fun h => h) (.opt rfl fun h => h) (fun _ => rfl) ?_) (.ggn rfl rfl (fun hg _ => op_load_agg Tryd.isAgg48 Tryd.sizeOf48 (.opt rfl fun h => h) (Nat.le_of_ble_eq_true rfl)) (.ggn rfl rfl (fun hg _ => op_move (.plain rfl)) (.ggn rfl rfl (fun hg _ => op_move (.plain rfl)) (.ggr rfl rfl (fun hg => op_indexAddrO Tryd.underlying25 Tryd.sizeOf3 (.opt rfl fun h => h) rfl (.opt rfl fun h => h) ?_) (.ggr rfl rfl (fun hg => op_loadE Tryd.isAgg3 (.opt rfl fun h => h) rfl (fun _ => rfl) ?_ rfl) (.ggn rfl rfl (fun hg _ => op_call2 Tryd.call49 (.opt rfl fun h => h) (.opt rfl fun h => h) (Rank_fc _ _ _ _)) (.ggn rfl rfl (fun hg _ => op_lss (.opt rfl fun h => h) (.opt rfl fun h => h)) (.gn rfl rfl (fun hg _ => op_or (.opt rfl fun h => h) (.plain rfl) (.plain rfl) (fun h => andI hg (eqF h))) (.n (fun _ => op_and (.plain rfl) (.plain rfl) (.plain rfl) (fun h => eqT h)) (.nil _)))))))))))))))))))))))))))))))) ?d8 ?_
            · (try simp only [foldN, foldR, foldL, Int.toNat_natCast])
              try (show pkF R k1 r = ((pkF R k1 r).toNat : Int))
              try omega
            · (try simp only [foldN, foldR, foldL, Int.toNat_natCast])
              try (first | rfl | omega)
            · (try simp only [foldN, foldR, foldL, Int.toNat_natCast])
              omega
            · (try simp only [foldN, foldR, foldL, Int.toNat_natCast])
              omega
            · try simp only [beq_iff_eq, beq_true, beq_false, Bool.and_eq_true, decide_eq_true_eq, decide_eq_false_iff_not, Bool.not_eq_true', Bool.or_eq_true, Bool.or_eq_false_iff] at hg
              (try simp only [foldN, foldR, foldL, Int.toNat_natCast])
              show 0 ≤ pkF R k1 r ∧ pkF R k1 r < _
              omega
            · try simp only [beq_iff_eq, beq_true, beq_false, Bool.and_eq_true, decide_eq_true_eq, decide_eq_false_iff_not, Bool.not_eq_true', Bool.or_eq_true, Bool.or_eq_false_iff] at hg
              (try simp only [foldN, foldR, foldL, Int.toNat_natCast])
              show (pkF R k1 r).toNat < w1.length
              omega
            · try simp only [beq_iff_eq, beq_true, beq_false, Bool.and_eq_true, decide_eq_true_eq, decide_eq_false_iff_not, Bool.not_eq_true', Bool.or_eq_true, Bool.or_eq_false_iff] at hg
              (try simp only [foldN, foldR, foldL, Int.toNat_natCast])
              show 0 ≤ pkF R k1 r ∧ pkF R k1 r < _
              omega
            · try simp only [beq_iff_eq, beq_true, beq_false, Bool.and_eq_true, decide_eq_true_eq, decide_eq_false_iff_not, Bool.not_eq_true', Bool.or_eq_true, Bool.or_eq_false_iff] at hg
              (try simp only [foldN, foldR, foldL, Int.toNat_natCast])
              show 0 ≤ pkF R k1 r ∧ pkF R k1 r < _
              omega
            · try simp only [beq_iff_eq, beq_true, beq_false, Bool.and_eq_true, decide_eq_true_eq, decide_eq_false_iff_not, Bool.not_eq_true', Bool.or_eq_true, Bool.or_eq_false_iff] at hg
              (try simp only [foldN, foldR, foldL, Int.toNat_natCast])
              show 0 ≤ pkF R k1 r ∧ pkF R k1 r < _
              omega
            · try simp only [beq_iff_eq, beq_true, beq_false, Bool.and_eq_true, decide_eq_true_eq, decide_eq_false_iff_not, Bool.not_eq_true', Bool.or_eq_true, Bool.or_eq_false_iff] at hg
              (try simp only [foldN, foldR, foldL, Int.toNat_natCast])
              show (pkF R k1 r).toNat < w1.length
              omega
            · kernel_rfl
            refine awp_cond rfl (fun h => ?_) (fun h => ?_)
            · (try simp only [decide_eq_true_eq, decide_eq_false_iff_not, Bool.and_eq_true, Bool.or_eq_true, Bool.and_eq_false_iff, Bool.or_eq_false_iff, Bool.not_eq_true', Bool.not_eq_false', Bool.not_eq_true, Bool.not_eq_false, Bool.true_eq_false, Bool.false_eq_true] at h); (try simp only [foldN, foldR, foldL, Int.toNat_natCast] at h)
              have hlk : likesF L R (pkF R k1 r).toNat r = true := h.1
              have hI2 := hI1.yes hM (show r < R.length by omega) hk hn0 hlk h.2
              have hr2 := remR_lt hI1 (show r < R.length by omega) hk
              refine awp_region rfl (.n (fun _ => op_move (.plain rfl)) (.n (fun _ => op_move (.plain rfl)) (.n (fun _ => op_move (.plain rfl)) (.r (op_indexAddrO Tryd.underlying25 Tryd.sizeOf3 (.plain rfl) rfl (.plain rfl) ?_) (.e (op_storeE _ Tryd.sizeOf3 (.plain rfl) (.plain rfl) rfl (fun _ => rfl) ?_ (by decide) rfl rfl) rfl (.nil _)))))) ?_
              · (try simp only [foldN, foldR, foldL, Int.toNat_natCast])
                show 0 ≤ pkF R k1 r ∧ pkF R k1 r < _
                omega
              · (try simp only [foldN, foldR, foldL, Int.toNat_natCast])
                show (pkF R k1 r).toNat < w1.length
                omega
              refine awp_region rfl (.n (fun _ => op_add (.plain rfl) (.plain rfl) ?_) (.n (fun _ => op_move (.plain rfl)) (.nil _))) ?_
              · (try simp only [foldN, foldR, foldL, Int.toNat_natCast])
                unfold InR; omega
              refine ⟨(w1.set (pkF R k1 r).toNat (r : Int), k1.set r (k1.getD r 0 + 1), true, r + 1), ⟨hI2, by dsimp only; omega, (fun c => by cases c), by dsimp only; omega, (fun _ => by dsimp only; omega)⟩, by dsimp only; omega, (Ent.kept ⟨rfl, rfl, rfl, rfl, rfl, rfl, rfl, trivial⟩ ⟨rfl, rfl, trivial⟩)⟩
            · (try simp only [decide_eq_true_eq, decide_eq_false_iff_not, Bool.and_eq_true, Bool.or_eq_true, Bool.and_eq_false_iff, Bool.or_eq_false_iff, Bool.not_eq_true', Bool.not_eq_false', Bool.not_eq_true, Bool.not_eq_false, Bool.true_eq_false, Bool.false_eq_true] at h); (try simp only [foldN, foldR, foldL, Int.toNat_natCast] at h)
              have hI2 := hI1.no hM (show r < R.length by omega) hk (fun c => h.elim (fun d => by have d : likesF L R (pkF R k1 r).toNat r = false := d; rw [c] at d; cases d) (fun d => d))
              have hr2 := remR_lt hI1 (show r < R.length by omega) hk
              refine awp_skip ?_
              refine awp_region rfl (.n (fun _ => op_add (.plain rfl) (.plain rfl) ?_) (.n (fun _ => op_move (.plain rfl)) (.nil _))) ?_
              · (try simp only [foldN, foldR, foldL, Int.toNat_natCast])
                unfold InR; omega
              refine ⟨(w1, k1.set r (k1.getD r 0 + 1), true, r + 1), ⟨hI2, by dsimp only; omega, (fun c => by cases c), by dsimp only; omega, (fun _ => by dsimp only; omega)⟩, by dsimp only; omega, (Ent.kept ⟨rfl, rfl, rfl, rfl, rfl, rfl, rfl, trivial⟩ ⟨rfl, rfl, trivial⟩)⟩
        · (try simp only [decide_eq_true_eq, decide_eq_false_iff_not, Bool.and_eq_true, Bool.or_eq_true, Bool.and_eq_false_iff, Bool.or_eq_false_iff, Bool.not_eq_true', Bool.not_eq_false', Bool.not_eq_true, Bool.not_eq_false, Bool.true_eq_false, Bool.false_eq_true] at h); (try simp only [foldN, foldR, foldL, Int.toNat_natCast] at h)
          have hl0 : r = R.length := by omega
          subst hl0
          refine awp_exit ?_
          refine ⟨(w1, k1, ag1), ⟨hI1, fun c => by have := hst c; rw [this.1, this.2.1]; exact this.2.2⟩, ?_, (Ent.kept ⟨rfl, rfl, rfl, rfl, trivial⟩ ⟨rfl, rfl, trivial⟩)⟩
          dsimp only
          cases ag1 with
          | true => have := hrl rfl; simp; omega
          | false => simp; omega
      · (try simp only [decide_eq_true_eq, decide_eq_false_iff_not, Bool.and_eq_true, Bool.or_eq_true, Bool.and_eq_false_iff, Bool.or_eq_false_iff, Bool.not_eq_true', Bool.not_eq_false', Bool.not_eq_true, Bool.not_eq_false, Bool.true_eq_false, Bool.false_eq_true] at h); (try simp only [foldN, foldR, foldL, Int.toNat_natCast] at h)
        have hS2 := hS h
        refine awp_exit ?_
        refine awp_seq ?_
        refine awp_region rfl (.n (fun _ => op_move (.plain rfl)) (.n (fun _ => op_assign (.plain rfl)) (.n (fun _ => op_assign (.plain rfl)) (.nil _)))) ?_
        refine awp_ret ?_
        refine retQ.ret ?_
        refine ret2 rfl rfl rfl rfl rfl ?_
        rw [rightV_is hM0 (hI.done hM hS2), hM0]

end Go.Proofs.YtpapnkphlmickaaDoor

