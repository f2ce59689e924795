/- Whether two sides may be, and whether a pairing may be: by both ways. Conditions: each theorem names its own. -/
import Derived.Test.YtolmcapbpliaiaaDoorProg
import Derived.Test.YtolmcapbpliaiaaDoorFa
namespace Go.Proofs.YtolmcapbpliaiaaDoor
open Go.Abs
set_option linter.unusedVariables false
set_option linter.unusedSimpArgs false


/-! ### Whether two sides may be -/
def namesF (L R : List Ag) (n : Nat) : List ByteArray := ((L ++ R).map (fun a => a.1)).take n
def nF (L R : List Ag) (i : Nat) : Nat := if i < L.length then R.length else L.length
def sideE (L R : List Ag) (i : Nat) : Int := agE (nmF (L ++ R) i) (rmF (L ++ R) i) (lkF (L ++ R) i) (nF L R i : Nat) (namesF L R i)
def rMayE (L R : List Ag) : Int := if 6 < (L.length : Int) ∨ 6 < (R.length : Int) then 2 else firstE (sideE L R) (L.length + R.length)
def sdF (L R : List Ag) (k : Nat) : List Ag := [L, R].getD k []
def otF (L R : List Ag) (k : Nat) : List Ag := [R, L].getD k []
def bsF (L R : List Ag) (k : Nat) : Nat := if k = 0 then 0 else if k = 1 then L.length else L.length + R.length
theorem namesF_length {L R : List Ag} {n : Nat} (h : n ≤ L.length + R.length) : (namesF L R n).length = n := by
  unfold namesF; rw [List.length_take, List.length_map, List.length_append]; omega
theorem namesF_succ {L R : List Ag} {n : Nat} (h : n < L.length + R.length) : namesF L R (n + 1) = namesF L R n ++ [nmF (L ++ R) n] := by
  unfold namesF nmF
  have h1 : n < (L ++ R).length := by rw [List.length_append]; exact h
  rw [List.take_succ_eq_append_getElem (by rw [List.length_map]; exact h1), List.getElem_map, List.getD_eq_getElem?_getD, List.getElem?_eq_getElem h1]
  rfl
theorem rMayE_2 {L R : List Ag} (h : 6 < (L.length : Int) ∨ 6 < (R.length : Int)) : 2 = rMayE L R := (if_pos h).symm
theorem rMayE_at {L R : List Ag} {i : Nat} {c : Int} (h : ¬ (6 < (L.length : Int) ∨ 6 < (R.length : Int))) (hE : firstE (sideE L R) i = 0) (hi : i < L.length + R.length) (hc : sideE L R i = c) (h0 : c ≠ 0) : c = rMayE L R := by
  unfold rMayE; rw [if_neg h]; exact (firstE_stop hE hc h0 hi).symm
theorem rMayE_ok {L R : List Ag} {i : Nat} (h : ¬ (6 < (L.length : Int) ∨ 6 < (R.length : Int))) (hE : firstE (sideE L R) i = 0) (hi : i = L.length + R.length) : 0 = rMayE L R := by
  unfold rMayE; rw [if_neg h, ← hi, hE]
theorem sd_at {L R : List Ag} {k j : Nat} (hk : k < 2) (hj : j < (sdF L R k).length) : (L ++ R).getD (bsF L R k + j) (ByteArray.empty, 0, [], ()) = (sdF L R k).getD j (ByteArray.empty, 0, [], ()) ∧ nF L R (bsF L R k + j) = (otF L R k).length ∧ bsF L R k + j < L.length + R.length := by
  rcases (show k = 0 ∨ k = 1 by omega) with rfl | rfl
  · have hj2 : j < L.length := hj
    refine ⟨?_, ?_, ?_⟩
    · show (L ++ R).getD (0 + j) _ = L.getD j _
      rw [Nat.zero_add, List.getD_eq_getElem?_getD, List.getD_eq_getElem?_getD, List.getElem?_append_left hj2]
    · show (if 0 + j < L.length then R.length else L.length) = R.length
      rw [if_pos (by omega)]
    · show 0 + j < _; omega
  · have hj2 : j < R.length := hj
    refine ⟨?_, ?_, ?_⟩
    · show (L ++ R).getD (L.length + j) _ = R.getD j _
      rw [List.getD_eq_getElem?_getD, List.getD_eq_getElem?_getD, List.getElem?_append_right (by omega)]
      congr 2; congr 1; omega
    · show (if L.length + j < L.length then R.length else L.length) = L.length
      rw [if_neg (by omega)]
    · show L.length + j < _; omega
theorem sideE_sd {L R : List Ag} {k j : Nat} (hk : k < 2) (hj : j < (sdF L R k).length) : sideE L R (bsF L R k + j) = agE (nmF (sdF L R k) j) (rmF (sdF L R k) j) (lkF (sdF L R k) j) ((otF L R k).length : Nat) (namesF L R (bsF L R k + j)) := by
  have := sd_at hk hj
  unfold sideE nmF rmF lkF
  rw [this.1, this.2.1]
theorem names_sd {L R : List Ag} {k j : Nat} (hk : k < 2) (hj : j < (sdF L R k).length) : namesF L R (bsF L R k + j) ++ [nmF (sdF L R k) j] = namesF L R (bsF L R k + (j + 1)) := by
  have := sd_at hk hj
  rw [← Nat.add_assoc, namesF_succ this.2.2]
  unfold nmF
  rw [this.1]
theorem bs_succ {L R : List Ag} {k : Nat} (hk : k < 2) : bsF L R k + (sdF L R k).length = bsF L R (k + 1) := by
  rcases (show k = 0 ∨ k = 1 by omega) with rfl | rfl
  · show 0 + L.length = L.length; omega
  · rfl
theorem bs_le {L R : List Ag} {k j : Nat} (hk : k < 2) (hj : j ≤ (sdF L R k).length) : bsF L R k + j ≤ L.length + R.length := by
  rcases (show k = 0 ∨ k = 1 by omega) with rfl | rfl
  · have : j ≤ L.length := hj
    show 0 + j ≤ _; omega
  · have : j ≤ R.length := hj
    show L.length + j ≤ _; omega
theorem big_sd {L R : List Ag} {k : Nat} (hk : k < 2) (h : 6 < ((sdF L R k).length : Int)) : 6 < (L.length : Int) ∨ 6 < (R.length : Int) := by
  rcases (show k = 0 ∨ k = 1 by omega) with rfl | rfl
  · exact .inl h
  · exact .inr h
theorem sm_sd {L R : List Ag} {k : Nat} (hk : k < 2) (h : ¬ 6 < ((sdF L R k).length : Int)) (h0 : (1 ≤ k → ¬ 6 < (L.length : Int)) ∧ (2 ≤ k → ¬ 6 < (R.length : Int))) : (1 ≤ k + 1 → ¬ 6 < (L.length : Int)) ∧ (2 ≤ k + 1 → ¬ 6 < (R.length : Int)) := by
  rcases (show k = 0 ∨ k = 1 by omega) with rfl | rfl
  · exact ⟨fun _ => h, fun c => by omega⟩
  · exact ⟨fun _ => h0.1 (Nat.le_refl _), fun _ => h⟩
theorem sd_le {L R : List Ag} {k : Nat} (h : ¬ (6 < (L.length : Int) ∨ 6 < (R.length : Int))) (hk : k < 2) : (sdF L R k).length ≤ 6 := by
  rcases (show k = 0 ∨ k = 1 by omega) with rfl | rfl
  · show L.length ≤ 6; omega
  · show R.length ≤ 6; omega
theorem nF_l {L R : List Ag} {i : Nat} (h : (i : Int) < L.length) : nF L R i = R.length := if_pos (by omega)
theorem nF_r {L R : List Ag} {i : Nat} (h : ¬ (i : Int) < L.length) : nF L R i = L.length := if_neg (by omega)
def roomB (L : List Ag) (i : Nat) : Int := if ¬ rmF L i = 1 then 9 else 0
def mMayE (L R : List Ag) : Int := if rMayE L R ≠ 0 then rMayE L R else firstE (roomB L) L.length
theorem mMayE_r {L R : List Ag} (h : ¬ rMayE L R = 0) : rMayE L R = mMayE L R := (if_pos h).symm
theorem mMayE_f {L R : List Ag} (h : rMayE L R = 0) : firstE (roomB L) L.length = mMayE L R := by unfold mMayE; rw [h]; rfl
theorem mMayE_9 {L R : List Ag} (h : rMayE L R = 0) {i : Nat} (hE : firstE (roomB L) i = 0) (hi : i < L.length) (hr : ¬ rmF L i = 1) : 9 = mMayE L R := by
  rw [← mMayE_f h]; exact (firstE_stop hE (if_pos hr) (by omega) hi).symm
theorem mMayE_ok {L R : List Ag} (h : rMayE L R = 0) {i : Nat} (hE : firstE (roomB L) i = 0) (hi : i = L.length) : 0 = mMayE L R := by
  rw [← mMayE_f h, ← hi, hE]
theorem roomB_0 {L : List Ag} {i : Nat} (h : rmF L i = 1) : roomB L i = 0 := if_neg (fun c => c h)
/-- How long all is together, while it is not too long. -/
def hvTo (l : List Ag) (n0 : Int) : Nat → Int
  | 0 => n0
  | k + 1 => if hvTo l n0 k ≤ 500 then hvTo l n0 k + ((lkF l k).length : Nat) + ((nmF l k).size : Nat) else hvTo l n0 k
theorem hvTo_succ {l : List Ag} {n0 : Int} {k : Nat} (h : hvTo l n0 k ≤ 500) : hvTo l n0 k + ((lkF l k).length : Nat) + ((nmF l k).size : Nat) = hvTo l n0 (k + 1) := by
  simp only [hvTo]; rw [if_pos h]
theorem hvTo_stop {l : List Ag} {n0 : Int} {k : Nat} (h : ¬ hvTo l n0 k ≤ 500) : ∀ n, k ≤ n → hvTo l n0 n = hvTo l n0 k
  | 0, hn => by obtain rfl : k = 0 := by omega
                rfl
  | n + 1, hn => by
    by_cases e : k = n + 1
    · rw [e]
    · have := hvTo_stop h n (by omega)
      simp only [hvTo]; rw [this, if_neg h]
theorem hvTo_ge {l : List Ag} {n0 : Int} (h : 0 ≤ n0) : ∀ k, 0 ≤ hvTo l n0 k
  | 0 => h
  | k + 1 => by
    have := hvTo_ge (l := l) h k
    simp only [hvTo]; split <;> omega
theorem lk_app {L R : List Ag} {n : Nat} (h1 : ∀ i, i < L.length → (lkF L i).length ≤ n ∧ (nmF L i).size ≤ n) (h2 : ∀ i, i < R.length → (lkF R i).length ≤ n ∧ (nmF R i).size ≤ n) (i : Nat) (h : i < L.length + R.length) : (lkF (L ++ R) i).length ≤ n := by
  unfold lkF at *
  rcases Nat.lt_or_ge i L.length with hi | hi
  · rw [List.getD_eq_getElem?_getD, List.getElem?_append_left hi, ← List.getD_eq_getElem?_getD]; exact (h1 i hi).1
  · rw [List.getD_eq_getElem?_getD, List.getElem?_append_right hi, ← List.getD_eq_getElem?_getD]; exact (h2 _ (by omega)).1
def hvyF (L R : List Ag) : Bool := decide (500 < hvTo R (hvTo L ((L.length : Int) + (R.length : Int)) L.length) R.length)
theorem hv_end {l : List Ag} {n0 : Int} {k : Nat} (hk : k ≤ l.length) (h : ¬ ((k : Int) < l.length ∧ hvTo l n0 k ≤ 500)) : hvTo l n0 k = hvTo l n0 l.length := by
  rcases Nat.lt_or_ge k l.length with h1 | h1
  · exact (hvTo_stop (fun c => h ⟨by omega, c⟩) _ hk).symm
  · obtain rfl : k = l.length := by omega
    rfl

set_option maxRecDepth 1000000 in
set_option maxHeartbeats 1000000 in
theorem heavyPairing_fc (L R : List Ag) : FC Tryd.prog 6 [.agg [.seq (ByteArray × Int × List Int × Unit) (ByteArray.empty, 0, [], ()) (fun p => [.str p.1, .i p.2.1, .ints p.2.2.1]) L, .seq (ByteArray × Int × List Int × Unit) (ByteArray.empty, 0, [], ()) (fun p => [.str p.1, .i p.2.1, .ints p.2.2.1]) R]] (.bool (hvyF L R)) := by
  refine FC.intro Tryd.func6 rfl (Nat.le_of_ble_eq_true rfl) fun hfit => ?_
  have fit0 := hfit _ (.head _)
  have hfl : L.length ≤ 281474976710656 := by cases fit0 with | agg _ h => exact (h 0 (by simp)).len
  have hfr : R.length ≤ 281474976710656 := by cases fit0 with | agg _ h => exact (h 1 (by simp)).len
  have hfa : ∀ i, i < L.length → (lkF L i).length ≤ 281474976710656 ∧ (nmF L i).size ≤ 281474976710656 := fun i hi => by cases fit0 with | agg _ h => exact ⟨((h 0 (by simp)).elem (getD_mem (ByteArray.empty, 0, [], ()) hi) (c := .ints (lkF L i)) (List.mem_cons_of_mem _ (List.mem_cons_of_mem _ List.mem_cons_self))).len, ((h 0 (by simp)).elem (getD_mem (ByteArray.empty, 0, [], ()) hi) (c := .str (nmF L i)) List.mem_cons_self).str_len⟩
  have hfb : ∀ i, i < R.length → (lkF R i).length ≤ 281474976710656 ∧ (nmF R i).size ≤ 281474976710656 := fun i hi => by cases fit0 with | agg _ h => exact ⟨((h 1 (by simp)).elem (getD_mem (ByteArray.empty, 0, [], ()) hi) (c := .ints (lkF R i)) (List.mem_cons_of_mem _ (List.mem_cons_of_mem _ List.mem_cons_self))).len, ((h 1 (by simp)).elem (getD_mem (ByteArray.empty, 0, [], ()) hi) (c := .str (nmF R i)) List.mem_cons_self).str_len⟩
  refine awp_seq ?_
  refine awp_region rfl (.n (fun _ => op_box (.plain rfl) (by simp)) (.n (fun _ => op_assign (.plain rfl)) (.nil _))) ?_
  refine awp_seq ?_
  refine awp_region rfl (.n (fun _ => op_fieldAddr Tryd.underlying24 rfl rfl Tryd.sizeOf22 (.plain rfl)) (.n (fun _ => op_load Tryd.isAgg22 (.plain rfl)) (.n (fun _ => op_len (s := 0) Tryd.underlying22 (.plain rfl)) (.n (fun _ => op_fieldAddr Tryd.underlying24 rfl rfl Tryd.sizeOf22 (.plain rfl)) (.n (fun _ => op_load Tryd.isAgg22 (.plain rfl)) (.n (fun _ => op_len (s := 0) Tryd.underlying22 (.plain rfl)) (.n (fun _ => op_add (.plain rfl) (.plain rfl) ?_) (.n (fun _ => op_assign (.plain rfl)) (.nil _))))))))) ?_
  · (try simp only [foldN, foldR, foldL, Int.toNat_natCast])
    unfold InR; omega
  refine awp_seq ?_
  refine awp_seq ?_
  refine awp_region rfl (.n (fun _ => op_assign (.plain rfl)) (.nil _)) ?_
  refine awp_block ?_
  refine awp_loop (σ := Nat) (fun (i : Nat) => i ≤ L.length) (fun (i : Nat) => ⟨[(1, .pv (.rd [.seq (ByteArray × Int × List Int × Unit) (ByteArray.empty, 0, [], ()) (fun p => [.str p.1, .i p.2.1, .ints p.2.2.1]) L, .seq (ByteArray × Int × List Int × Unit) (ByteArray.empty, 0, [], ()) (fun p => [.str p.1, .i p.2.1, .ints p.2.2.1]) R])), (3, .int (hvTo L ((L.length : Int) + (R.length : Int)) i)), (4, .int (i : Nat))], []⟩) (fun (i : Nat) => L.length - i) 0 ?_ (Ent.kept ⟨rfl, rfl, rfl, trivial⟩ trivial) ?_
  · exact Nat.zero_le _
  rintro i hp
  try dsimp only at hp
  have hi := hp
  refine awp_seq ?_
  refine awp_seq ?_
  refine awp_region rfl (.n (fun _ => op_move (.plain rfl)) (.n (fun _ => op_fieldAddr Tryd.underlying24 rfl rfl Tryd.sizeOf22 (.plain rfl)) (.n (fun _ => op_load Tryd.isAgg22 (.plain rfl)) (.n (fun _ => op_len (s := 0) Tryd.underlying22 (.plain rfl)) (.n (fun _ => op_lss (.plain rfl) (.plain rfl)) (.n (fun _ => op_move (.plain rfl)) (.gn rfl rfl (fun hg _ => op_move (.plain rfl)) (.gn rfl rfl (fun hg _ => op_leq (.opt rfl fun h => h) (.plain rfl)) (.n (fun _ => op_and (.plain rfl) (.plain rfl) (.plain rfl) (fun h => eqT h)) (.nil _)))))))))) ?_
  refine awp_cond rfl (fun h => ?_) (fun h => ?_)
  · (try simp only [decide_eq_true_eq, decide_eq_false_iff_not, Bool.and_eq_true, Bool.or_eq_true, Bool.and_eq_false_iff, Bool.or_eq_false_iff, Bool.not_eq_true', Bool.not_eq_false', Bool.not_eq_true, Bool.not_eq_false, Bool.true_eq_false, Bool.false_eq_true] at h); (try simp only [foldN, foldR, foldL] at h)
    refine awp_skip ?_
    refine awp_seq ?_
    refine awp_block ?_
    refine awp_region_draw mixed rfl (.n (fun _ => op_move (.plain rfl)) (.n (fun _ => op_fieldAddr Tryd.underlying24 rfl rfl Tryd.sizeOf22 (.plain rfl)) (.n (fun _ => op_load Tryd.isAgg22 (.plain rfl)) (.n (fun _ => op_move (.plain rfl)) (.n (fun _ => op_indexAddrN Tryd.underlying22 Tryd.sizeOf27 (.plain rfl) (.plain rfl) (fun _ => rfl) ?_) (.n (fun _ => op_fieldAddr Tryd.underlying27 rfl rfl Tryd.sizeOf25 (.plain rfl)) (.n (fun _ => op_load Tryd.isAgg25 (.plain rfl)) (.n (fun _ => op_len (s := 0) Tryd.underlying25 (.plain rfl)) (.n (fun _ => op_add (.plain rfl) (.plain rfl) ?_) (.n (fun _ => op_fieldAddr Tryd.underlying24 rfl rfl Tryd.sizeOf22 (.plain rfl)) (.n (fun _ => op_load Tryd.isAgg22 (.plain rfl)) (.n (fun _ => op_move (.plain rfl)) (.n (fun _ => op_indexAddrN Tryd.underlying22 Tryd.sizeOf27 (.plain rfl) (.plain rfl) (fun _ => rfl) ?_) (.n (fun _ => op_fieldAddr Tryd.underlying27 rfl rfl Tryd.sizeOf9 (.plain rfl)) (.n (fun _ => op_load Tryd.isAgg9 (.plain rfl)) (.n (fun _ => op_lenS Tryd.underlying9 (.plain rfl)) (.n (fun _ => op_add (.plain rfl) (.plain rfl) ?_) (.n (fun _ => op_assign (.plain rfl)) (.nil _))))))))))))))))))) ?d1 ?_
    · (try simp only [foldN, foldR, foldL, Int.toNat_natCast])
      omega
    · (try simp only [foldN, foldR, foldL, Int.toNat_natCast])
      (try simp only [foldN, foldR, foldL, Int.toNat_natCast])
      have hb := hfa i (by omega)
      have hg := hvTo_ge (l := L) (n0 := ((L.length : Int) + (R.length : Int))) (by omega) i
      unfold InR; omega
    · (try simp only [foldN, foldR, foldL, Int.toNat_natCast])
      omega
    · (try simp only [foldN, foldR, foldL, Int.toNat_natCast])
      (try simp only [foldN, foldR, foldL, Int.toNat_natCast])
      have hb := hfa i (by omega)
      have hg := hvTo_ge (l := L) (n0 := ((L.length : Int) + (R.length : Int))) (by omega) i
      unfold InR; omega
    · kernel_rfl
    refine awp_region rfl (.n (fun _ => op_move (.plain rfl)) (.n (fun _ => op_add (.plain rfl) (.plain rfl) ?_) (.n (fun _ => op_assign (.plain rfl)) (.nil _)))) ?_
    · (try simp only [foldN, foldR, foldL, Int.toNat_natCast])
      unfold InR; omega
    exact ⟨i + 1, by omega, by dsimp only; omega, (Ent.kept ⟨rfl, (congrArg (fun n => some (SV.int n)) (hvTo_succ h.2)), rfl, trivial⟩ trivial)⟩
  · (try simp only [decide_eq_true_eq, decide_eq_false_iff_not, Bool.and_eq_true, Bool.or_eq_true, Bool.and_eq_false_iff, Bool.or_eq_false_iff, Bool.not_eq_true', Bool.not_eq_false', Bool.not_eq_true, Bool.not_eq_false, Bool.true_eq_false, Bool.false_eq_true] at h); (try simp only [foldN, foldR, foldL] at h)
    have h0 : ¬ ((i : Int) < L.length ∧ hvTo L ((L.length : Int) + (R.length : Int)) i ≤ 500) := by omega
    have hi0 := hi
    refine awp_exit ?_
    refine awp_seq ?_
    refine awp_seq ?_
    refine awp_region rfl (.n (fun _ => op_assign (.plain rfl)) (.nil _)) ?_
    refine awp_block ?_
    refine awp_loop (σ := Nat) (fun (i : Nat) => i ≤ R.length) (fun (i : Nat) => ⟨[(1, .pv (.rd [.seq (ByteArray × Int × List Int × Unit) (ByteArray.empty, 0, [], ()) (fun p => [.str p.1, .i p.2.1, .ints p.2.2.1]) L, .seq (ByteArray × Int × List Int × Unit) (ByteArray.empty, 0, [], ()) (fun p => [.str p.1, .i p.2.1, .ints p.2.2.1]) R])), (3, .int (hvTo R (hvTo L ((L.length : Int) + (R.length : Int)) L.length) i)), (5, .int (i : Nat))], []⟩) (fun (i : Nat) => R.length - i) 0 ?_ (Ent.kept ⟨rfl, (congrArg (fun n => some (SV.int n)) (hv_end hi0 h0)), rfl, trivial⟩ trivial) ?_
    · exact Nat.zero_le _
    rintro i hp
    try dsimp only at hp
    have hi := hp
    refine awp_seq ?_
    refine awp_seq ?_
    refine awp_region rfl (.n (fun _ => op_move (.plain rfl)) (.n (fun _ => op_fieldAddr Tryd.underlying24 rfl rfl Tryd.sizeOf22 (.plain rfl)) (.n (fun _ => op_load Tryd.isAgg22 (.plain rfl)) (.n (fun _ => op_len (s := 0) Tryd.underlying22 (.plain rfl)) (.n (fun _ => op_lss (.plain rfl) (.plain rfl)) (.n (fun _ => op_move (.plain rfl)) (.gn rfl rfl (fun hg _ => op_move (.plain rfl)) (.gn rfl rfl (fun hg _ => op_leq (.opt rfl fun h => h) (.plain rfl)) (.n (fun _ => op_and (.plain rfl) (.plain rfl) (.plain rfl) (fun h => eqT h)) (.nil _)))))))))) ?_
    refine awp_cond rfl (fun h => ?_) (fun h => ?_)
    · (try simp only [decide_eq_true_eq, decide_eq_false_iff_not, Bool.and_eq_true, Bool.or_eq_true, Bool.and_eq_false_iff, Bool.or_eq_false_iff, Bool.not_eq_true', Bool.not_eq_false', Bool.not_eq_true, Bool.not_eq_false, Bool.true_eq_false, Bool.false_eq_true] at h); (try simp only [foldN, foldR, foldL] at h)
      refine awp_skip ?_
      refine awp_seq ?_
      refine awp_block ?_
      refine awp_region_draw mixed rfl (.n (fun _ => op_move (.plain rfl)) (.n (fun _ => op_fieldAddr Tryd.underlying24 rfl rfl Tryd.sizeOf22 (.plain rfl)) (.n (fun _ => op_load Tryd.isAgg22 (.plain rfl)) (.n (fun _ => op_move (.plain rfl)) (.n (fun _ => op_indexAddrN Tryd.underlying22 Tryd.sizeOf27 (.plain rfl) (.plain rfl) (fun _ => rfl) ?_) (.n (fun _ => op_fieldAddr Tryd.underlying27 rfl rfl Tryd.sizeOf25 (.plain rfl)) (.n (fun _ => op_load Tryd.isAgg25 (.plain rfl)) (.n (fun _ => op_len (s := 0) Tryd.underlying25 (.plain rfl)) (.n (fun _ => op_add (.plain rfl) (.plain rfl) ?_) (.n (fun _ => op_fieldAddr Tryd.underlying24 rfl rfl Tryd.sizeOf22 (.plain rfl)) (.n (fun _ => op_load Tryd.isAgg22 (.plain rfl)) (.n (fun _ => op_move (.plain rfl)) (.n (fun _ => op_indexAddrN Tryd.underlying22 Tryd.sizeOf27 (.plain rfl) (.plain rfl) (fun _ => rfl) ?_) (.n (fun _ => op_fieldAddr Tryd.underlying27 rfl rfl Tryd.sizeOf9 (.plain rfl)) (.n (fun _ => op_load Tryd.isAgg9 (.plain rfl)) (.n (fun _ => op_lenS Tryd.underlying9 (.plain rfl)) (.n (fun _ => op_add (.plain rfl) (.plain rfl) ?_) (.n (fun _ => op_assign (.plain rfl)) (.nil _))))))))))))))))))) ?d2 ?_
      · (try simp only [foldN, foldR, foldL, Int.toNat_natCast])
        omega
      · (try simp only [foldN, foldR, foldL, Int.toNat_natCast])
        (try simp only [foldN, foldR, foldL, Int.toNat_natCast])
        have hb := hfb i (by omega)
        have hg := hvTo_ge (l := R) (n0 := hvTo L ((L.length : Int) + (R.length : Int)) L.length) (hvTo_ge (by omega) _) i
        unfold InR; omega
      · (try simp only [foldN, foldR, foldL, Int.toNat_natCast])
        omega
      · (try simp only [foldN, foldR, foldL, Int.toNat_natCast])
        (try simp only [foldN, foldR, foldL, Int.toNat_natCast])
        have hb := hfb i (by omega)
        have hg := hvTo_ge (l := R) (n0 := hvTo L ((L.length : Int) + (R.length : Int)) L.length) (hvTo_ge (by omega) _) i
        unfold InR; omega
      · kernel_rfl
      refine awp_region rfl (.n (fun _ => op_move (.plain rfl)) (.n (fun _ => op_add (.plain rfl) (.plain rfl) ?_) (.n (fun _ => op_assign (.plain rfl)) (.nil _)))) ?_
      · (try simp only [foldN, foldR, foldL, Int.toNat_natCast])
        unfold InR; omega
      exact ⟨i + 1, by omega, by dsimp only; omega, (Ent.kept ⟨rfl, (congrArg (fun n => some (SV.int n)) (hvTo_succ h.2)), rfl, trivial⟩ trivial)⟩
    · (try simp only [decide_eq_true_eq, decide_eq_false_iff_not, Bool.and_eq_true, Bool.or_eq_true, Bool.and_eq_false_iff, Bool.or_eq_false_iff, Bool.not_eq_true', Bool.not_eq_false', Bool.not_eq_true, Bool.not_eq_false, Bool.true_eq_false, Bool.false_eq_true] at h); (try simp only [foldN, foldR, foldL] at h)
      have h1 := hv_end (l := R) (n0 := hvTo L ((L.length : Int) + (R.length : Int)) L.length) hi (by omega)
      refine awp_exit ?_
      refine awp_seq ?_
      refine awp_region rfl (.n (fun _ => op_move (.plain rfl)) (.n (fun _ => op_gtr (.plain rfl) (.plain rfl)) (.n (fun _ => op_assign (.plain rfl)) (.nil _)))) ?_
      refine awp_ret ?_
      refine retQ.ret ?_
      refine ret1 rfl rfl rfl ?_
      unfold hvyF
      rw [← h1]

set_option maxRecDepth 1000000 in
set_option maxHeartbeats 1000000 in
theorem rMay_fc (L R : List Ag) : FC Tryd.prog 9 [.agg [.seq (ByteArray × Int × List Int × Unit) (ByteArray.empty, 0, [], ()) (fun p => [.str p.1, .i p.2.1, .ints p.2.2.1]) L, .seq (ByteArray × Int × List Int × Unit) (ByteArray.empty, 0, [], ()) (fun p => [.str p.1, .i p.2.1, .ints p.2.2.1]) R]] (.i (rMayE L R)) := by
  refine FC.intro Tryd.func9 rfl (Nat.le_of_ble_eq_true rfl) fun hfit => ?_
  have fit0 := hfit _ (.head _)
  have hfl : L.length ≤ 281474976710656 := by cases fit0 with | agg _ h => exact (h 0 (by simp)).len
  have hfr : R.length ≤ 281474976710656 := by cases fit0 with | agg _ h => exact (h 1 (by simp)).len
  refine awp_seq ?_
  refine awp_region rfl (.n (fun _ => op_box (.plain rfl) (by simp)) (.n (fun _ => op_assign (.plain rfl)) (.nil _))) ?_
  refine awp_seq ?_
  refine awp_seq ?_
  refine awp_region rfl (.n (fun _ => op_fieldAddr Tryd.underlying24 rfl rfl Tryd.sizeOf22 (.plain rfl)) (.n (fun _ => op_load Tryd.isAgg22 (.plain rfl)) (.n (fun _ => op_fieldAddr Tryd.underlying24 rfl rfl Tryd.sizeOf22 (.plain rfl)) (.n (fun _ => op_load Tryd.isAgg22 (.plain rfl)) (.n (fun _ => op_slit (pp := [(0, _), (1, _)]) (α := (List (ByteArray × Int × List Int × Unit))) (d := []) (f := (fun r => [.seq (ByteArray × Int × List Int × Unit) (ByteArray.empty, 0, [], ()) (fun p => [.str p.1, .i p.2.1, .ints p.2.2.1]) r])) [_, _] ety44 rfl ⟨rfl, (.plain rfl), (by simp), rfl, (.plain rfl), (by simp), trivial⟩ rfl (by decide) rfl) (.n (fun _ => op_len (s := 0) Tryd.underlying44 (.plain rfl)) (.n (fun _ => op_move (.plain rfl)) (.nil _)))))))) ?_
  refine awp_block ?_
  refine awp_loop (σ := Nat) (fun (k : Nat) => k ≤ 2 ∧ (1 ≤ k → ¬ 6 < (L.length : Int)) ∧ (2 ≤ k → ¬ 6 < (R.length : Int))) (fun (k : Nat) => ⟨[(1, .pv (.rd [.seq (ByteArray × Int × List Int × Unit) (ByteArray.empty, 0, [], ()) (fun p => [.str p.1, .i p.2.1, .ints p.2.2.1]) L, .seq (ByteArray × Int × List Int × Unit) (ByteArray.empty, 0, [], ()) (fun p => [.str p.1, .i p.2.1, .ints p.2.2.1]) R])), (16, .pv (.seq (List (ByteArray × Int × List Int × Unit)) [] (fun r => [.seq (ByteArray × Int × List Int × Unit) (ByteArray.empty, 0, [], ()) (fun p => [.str p.1, .i p.2.1, .ints p.2.2.1]) r])  [L, R])), (17, .int (2 : Nat)), (18, .int (k : Nat))], []⟩) (fun (k : Nat) => 2 - k) 0 ?_ (Ent.kept ⟨rfl, rfl, rfl, rfl, trivial⟩ trivial) ?_
  · exact ⟨Nat.zero_le _, fun h => by omega, fun h => by omega⟩
  rintro k hp
  try dsimp only at hp
  obtain ⟨hk, hs⟩ := hp
  refine awp_seq ?_
  refine awp_region rfl (.n (fun _ => op_lss (.plain rfl) (.plain rfl)) (.nil _)) ?_
  refine awp_seq ?_
  refine awp_cond rfl (fun h => ?_) (fun h => ?_)
  · (try simp only [decide_eq_true_eq, decide_eq_false_iff_not, Bool.and_eq_true, Bool.or_eq_true, Bool.and_eq_false_iff, Bool.or_eq_false_iff, Bool.not_eq_true', Bool.not_eq_false', Bool.not_eq_true, Bool.not_eq_false, Bool.true_eq_false, Bool.false_eq_true] at h); (try simp only [foldN, foldR, foldL] at h)
    refine awp_skip ?_
    refine awp_seq ?_
    refine awp_block ?_
    refine awp_seq ?_
    refine awp_region rfl (.n (fun _ => op_indexAddrN Tryd.underlying44 Tryd.sizeOf22 (.plain rfl) (.plain rfl) (fun _ => rfl) ?_) (.n (fun _ => op_load Tryd.isAgg22 (.plain rfl)) (.n (fun _ => op_assign (.plain rfl)) (.nil _)))) ?_
    · (try simp only [foldN, foldR, foldL, Int.toNat_natCast])
      show k < 2
      omega
    refine awp_seq ?_
    refine awp_region rfl (.n (fun _ => op_move (.plain rfl)) (.n (fun _ => op_len (s := 0) Tryd.underlying22 (.plain rfl)) (.n (fun _ => op_gtr (.plain rfl) (.plain rfl)) (.nil _)))) ?_
    refine awp_cond rfl (fun h => ?_) (fun h => ?_)
    · (try simp only [decide_eq_true_eq, decide_eq_false_iff_not, Bool.and_eq_true, Bool.or_eq_true, Bool.and_eq_false_iff, Bool.or_eq_false_iff, Bool.not_eq_true', Bool.not_eq_false', Bool.not_eq_true, Bool.not_eq_false, Bool.true_eq_false, Bool.false_eq_true] at h); (try simp only [foldN, foldR, foldL] at h)
      refine awp_seq ?_
      refine awp_region rfl (.n (fun _ => op_assign (.plain rfl)) (.nil _)) ?_
      refine awp_ret ?_
      refine retQ.ret ?_
      refine ret1 rfl rfl rfl ?_
      exact congrArg PV.i (rMayE_2 (big_sd (by omega) h))
    · (try simp only [decide_eq_true_eq, decide_eq_false_iff_not, Bool.and_eq_true, Bool.or_eq_true, Bool.and_eq_false_iff, Bool.or_eq_false_iff, Bool.not_eq_true', Bool.not_eq_false', Bool.not_eq_true, Bool.not_eq_false, Bool.true_eq_false, Bool.false_eq_true] at h); (try simp only [foldN, foldR, foldL] at h)
      refine awp_skip ?_
      refine awp_region rfl (.n (fun _ => op_add (.plain rfl) (.plain rfl) ?_) (.n (fun _ => op_move (.plain rfl)) (.nil _))) ?_
      · (try simp only [foldN, foldR, foldL, Int.toNat_natCast])
        unfold InR; omega
      exact ⟨k + 1, ⟨by omega, sm_sd (by omega) h hs⟩, by dsimp only; omega, (Ent.kept ⟨rfl, rfl, rfl, rfl, trivial⟩ trivial)⟩
  · (try simp only [decide_eq_true_eq, decide_eq_false_iff_not, Bool.and_eq_true, Bool.or_eq_true, Bool.and_eq_false_iff, Bool.or_eq_false_iff, Bool.not_eq_true', Bool.not_eq_false', Bool.not_eq_true, Bool.not_eq_false, Bool.true_eq_false, Bool.false_eq_true] at h); (try simp only [foldN, foldR, foldL] at h)
    have hs2 : ¬ (6 < (L.length : Int) ∨ 6 < (R.length : Int)) := fun c => c.elim (hs.1 (by omega)) (hs.2 (by omega))
    clear h
    refine awp_exit ?_
    refine awp_seq ?_
    refine awp_region rfl (.n (fun _ => op_assign (.plain rfl)) (.nil _)) ?_
    refine awp_seq ?_
    refine awp_seq ?_
    refine awp_region rfl (.n (fun _ => op_fieldAddr Tryd.underlying24 rfl rfl Tryd.sizeOf22 (.plain rfl)) (.n (fun _ => op_load Tryd.isAgg22 (.plain rfl)) (.n (fun _ => op_fieldAddr Tryd.underlying24 rfl rfl Tryd.sizeOf22 (.plain rfl)) (.n (fun _ => op_load Tryd.isAgg22 (.plain rfl)) (.n (fun _ => op_slit (pp := [(0, _), (1, _)]) (α := (List (ByteArray × Int × List Int × Unit))) (d := []) (f := (fun r => [.seq (ByteArray × Int × List Int × Unit) (ByteArray.empty, 0, [], ()) (fun p => [.str p.1, .i p.2.1, .ints p.2.2.1]) r])) [_, _] ety44 rfl ⟨rfl, (.plain rfl), (by simp), rfl, (.plain rfl), (by simp), trivial⟩ rfl (by decide) rfl) (.n (fun _ => op_len (s := 0) Tryd.underlying44 (.plain rfl)) (.n (fun _ => op_move (.plain rfl)) (.nil _)))))))) ?_
    refine awp_block ?_
    refine awp_ent (Ent.begin 5 1005 9 1 ByteArray ByteArray.empty (fun s => [.str s]) rfl rfl rfl) ?_
    refine awp_loop (σ := Nat) (fun (k : Nat) => k ≤ 2 ∧ firstE (sideE L R) (bsF L R k) = 0) (fun (k : Nat) => ⟨[(1, .pv (.rd [.seq (ByteArray × Int × List Int × Unit) (ByteArray.empty, 0, [], ()) (fun p => [.str p.1, .i p.2.1, .ints p.2.2.1]) L, .seq (ByteArray × Int × List Int × Unit) (ByteArray.empty, 0, [], ()) (fun p => [.str p.1, .i p.2.1, .ints p.2.2.1]) R])), (5, .own 1005), (30, .pv (.seq (List (ByteArray × Int × List Int × Unit)) [] (fun r => [.seq (ByteArray × Int × List Int × Unit) (ByteArray.empty, 0, [], ()) (fun p => [.str p.1, .i p.2.1, .ints p.2.2.1]) r])  [L, R])), (31, .int (2 : Nat)), (32, .int (k : Nat))], [(1005, .arr 9 1 ByteArray ByteArray.empty (fun s => [.str s]) (namesF L R (bsF L R k)))]⟩) (fun (k : Nat) => 2 - k) 0 ?_ (Ent.kept ⟨rfl, rfl, rfl, rfl, rfl, trivial⟩ ⟨rfl, trivial⟩) ?_
    · exact ⟨Nat.zero_le _, rfl⟩
    rintro k hp
    try dsimp only at hp
    obtain ⟨hk, hE⟩ := hp
    refine awp_seq ?_
    refine awp_region rfl (.n (fun _ => op_lss (.plain rfl) (.plain rfl)) (.nil _)) ?_
    refine awp_seq ?_
    refine awp_cond rfl (fun h => ?_) (fun h => ?_)
    · (try simp only [decide_eq_true_eq, decide_eq_false_iff_not, Bool.and_eq_true, Bool.or_eq_true, Bool.and_eq_false_iff, Bool.or_eq_false_iff, Bool.not_eq_true', Bool.not_eq_false', Bool.not_eq_true, Bool.not_eq_false, Bool.true_eq_false, Bool.false_eq_true] at h); (try simp only [foldN, foldR, foldL] at h)
      refine awp_skip ?_
      refine awp_seq ?_
      refine awp_block ?_
      refine awp_seq ?_
      refine awp_region rfl (.n (fun _ => op_move (.plain rfl)) (.n (fun _ => op_indexAddrN Tryd.underlying44 Tryd.sizeOf22 (.plain rfl) (.plain rfl) (fun _ => rfl) ?_) (.n (fun _ => op_load Tryd.isAgg22 (.plain rfl)) (.n (fun _ => op_assign (.plain rfl)) (.n (fun _ => op_assign (.plain rfl)) (.nil _)))))) ?_
      · (try simp only [foldN, foldR, foldL, Int.toNat_natCast])
        show k < 2
        omega
      refine awp_seq ?_
      refine awp_region rfl (.n (fun _ => op_fieldAddr Tryd.underlying24 rfl rfl Tryd.sizeOf22 (.plain rfl)) (.n (fun _ => op_load Tryd.isAgg22 (.plain rfl)) (.n (fun _ => op_fieldAddr Tryd.underlying24 rfl rfl Tryd.sizeOf22 (.plain rfl)) (.n (fun _ => op_load Tryd.isAgg22 (.plain rfl)) (.n (fun _ => op_slit (pp := [(0, _), (1, _)]) (α := (List (ByteArray × Int × List Int × Unit))) (d := []) (f := (fun r => [.seq (ByteArray × Int × List Int × Unit) (ByteArray.empty, 0, [], ()) (fun p => [.str p.1, .i p.2.1, .ints p.2.2.1]) r])) [_, _] ety44 rfl ⟨rfl, (.plain rfl), (by simp), rfl, (.plain rfl), (by simp), trivial⟩ rfl (by decide) rfl) (.n (fun _ => op_move (.plain rfl)) (.n (fun _ => op_indexAddrN Tryd.underlying44 Tryd.sizeOf22 (.plain rfl) (.plain rfl) (fun _ => rfl) ?_) (.n (fun _ => op_load Tryd.isAgg22 (.plain rfl)) (.n (fun _ => op_len (s := 0) Tryd.underlying22 (.plain rfl)) (.n (fun _ => op_assign (.plain rfl)) (.nil _))))))))))) ?_
      · (try simp only [foldN, foldR, foldL, Int.toNat_natCast])
        show k < 2
        omega
      refine awp_seq ?_
      refine awp_region rfl (.n (fun _ => op_move (.plain rfl)) (.n (fun _ => op_len (s := 0) Tryd.underlying22 (.plain rfl)) (.n (fun _ => op_move (.plain rfl)) (.nil _)))) ?_
      refine awp_block ?_
      refine awp_ent (Ent.ren 1005 1006 rfl rfl rfl) ?_
      refine awp_loop (σ := Nat) (fun (j : Nat) => j ≤ (sdF L R k).length ∧ firstE (sideE L R) (bsF L R k + j) = 0) (fun (j : Nat) => ⟨[(1, .pv (.rd [.seq (ByteArray × Int × List Int × Unit) (ByteArray.empty, 0, [], ()) (fun p => [.str p.1, .i p.2.1, .ints p.2.2.1]) L, .seq (ByteArray × Int × List Int × Unit) (ByteArray.empty, 0, [], ()) (fun p => [.str p.1, .i p.2.1, .ints p.2.2.1]) R])), (5, .own 1006), (6, .int (k : Nat)), (7, .pv (.seq (ByteArray × Int × List Int × Unit) (ByteArray.empty, 0, [], ()) (fun p => [.str p.1, .i p.2.1, .ints p.2.2.1]) (sdF L R k))), (8, .int ((otF L R k).length : Nat)), (30, .pv (.seq (List (ByteArray × Int × List Int × Unit)) [] (fun r => [.seq (ByteArray × Int × List Int × Unit) (ByteArray.empty, 0, [], ()) (fun p => [.str p.1, .i p.2.1, .ints p.2.2.1]) r])  [L, R])), (31, .int (2 : Nat)), (32, .int (k : Nat)), (46, .pv (.seq (ByteArray × Int × List Int × Unit) (ByteArray.empty, 0, [], ()) (fun p => [.str p.1, .i p.2.1, .ints p.2.2.1]) (sdF L R k))), (47, .int ((sdF L R k).length : Nat)), (48, .int (j : Nat))], [(1006, .arr 9 1 ByteArray ByteArray.empty (fun s => [.str s]) (namesF L R (bsF L R k + j)))]⟩) (fun (j : Nat) => (sdF L R k).length - j) 0 ?_ (Ent.kept ⟨rfl, rfl, rfl, rfl, rfl, rfl, rfl, rfl, rfl, rfl, rfl, trivial⟩ ⟨rfl, trivial⟩) ?_
      · exact ⟨Nat.zero_le _, hE⟩
      rintro j hp
      try dsimp only at hp
      obtain ⟨hj, hE2⟩ := hp
      have hnl := namesF_length (bs_le (L := L) (R := R) (show k < 2 by omega) hj)
      have hbl := bs_le (L := L) (R := R) (show k < 2 by omega) hj
      refine awp_seq ?_
      refine awp_region rfl (.n (fun _ => op_lss (.plain rfl) (.plain rfl)) (.nil _)) ?_
      refine awp_seq ?_
      refine awp_cond rfl (fun h => ?_) (fun h => ?_)
      · (try simp only [decide_eq_true_eq, decide_eq_false_iff_not, Bool.and_eq_true, Bool.or_eq_true, Bool.and_eq_false_iff, Bool.or_eq_false_iff, Bool.not_eq_true', Bool.not_eq_false', Bool.not_eq_true, Bool.not_eq_false, Bool.true_eq_false, Bool.false_eq_true] at h); (try simp only [foldN, foldR, foldL] at h)
        refine awp_skip ?_
        refine awp_seq ?_
        refine awp_block ?_
        refine awp_seq ?_
        refine awp_region rfl (.n (fun _ => op_indexAddrN Tryd.underlying22 Tryd.sizeOf27 (.plain rfl) (.plain rfl) (fun _ => rfl) ?_) (.n (fun _ => op_load_agg Tryd.isAgg27 Tryd.sizeOf27 (.plain rfl) (Nat.le_of_ble_eq_true rfl)) (.e (op_alloc 10 Tryd.zeroValue27 rfl rfl rfl) rfl (.e (op_storeRA Tryd.sizeOf27 (.plain rfl) (.plain rfl) rfl rfl (Nat.le_of_ble_eq_true rfl) rfl) rfl (.nil _))))) ?_
        · (try simp only [foldN, foldR, foldL, Int.toNat_natCast])
          omega
        refine awp_seq ?_
        refine awp_seq ?_
        refine awp_region rfl (.r (op_loadRA Tryd.isAgg27 Tryd.sizeOf27 (.plain rfl) rfl (by first | (simp; done) | exact Nat.le_of_ble_eq_true rfl) rfl) (.n (fun _ => op_move (.plain rfl)) (.n (fun _ => op_move (.plain rfl)) (.r (op_callL (vals := [_, _, _]) Tryd.call20 ⟨⟨_, (.plain rfl), rfl⟩, ⟨_, (.plain rfl), rfl⟩, ⟨_, (.plain rfl), rfl⟩, trivial⟩ (agent_fc _ _ _ _ _) rfl) (.n (fun _ => op_assign (.plain rfl)) (.nil _)))))) ?_
        refine awp_seq ?_
        refine awp_region rfl (.n (fun _ => op_move (.plain rfl)) (.n (fun _ => op_neq (.plain rfl) (.plain rfl)) (.nil _))) ?_
        refine awp_cond rfl (fun h => ?_) (fun h => ?_)
        · (try simp only [decide_eq_true_eq, decide_eq_false_iff_not, Bool.and_eq_true, Bool.or_eq_true, Bool.and_eq_false_iff, Bool.or_eq_false_iff, Bool.not_eq_true', Bool.not_eq_false', Bool.not_eq_true, Bool.not_eq_false, Bool.true_eq_false, Bool.false_eq_true] at h); (try simp only [foldN, foldR, foldL] at h)
          refine awp_seq ?_
          refine awp_region rfl (.n (fun _ => op_move (.plain rfl)) (.n (fun _ => op_assign (.plain rfl)) (.nil _))) ?_
          refine awp_ret ?_
          refine retQ.ret ?_
          refine ret1 rfl rfl rfl ?_
          exact congrArg PV.i (rMayE_at hs2 hE2 (sd_at (by omega) (by omega)).2.2 (sideE_sd (by omega) (by omega)) h)
        · (try simp only [decide_eq_true_eq, decide_eq_false_iff_not, Bool.and_eq_true, Bool.or_eq_true, Bool.and_eq_false_iff, Bool.or_eq_false_iff, Bool.not_eq_true', Bool.not_eq_false', Bool.not_eq_true, Bool.not_eq_false, Bool.true_eq_false, Bool.false_eq_true] at h); (try simp only [foldN, foldR, foldL] at h)
          refine awp_skip ?_
          refine awp_region rfl (.n (fun _ => op_move (.plain rfl)) (.n (fun _ => op_fieldAddrR Tryd.underlying27 rfl rfl Tryd.sizeOf9 (.plain rfl)) (.r (op_loadR Tryd.isAgg9 (.plain rfl) rfl rfl) (.n (fun _ => op_slit (pp := [(0, _)]) (α := ByteArray) (d := ByteArray.empty) (f := (fun s => [.str s])) [_] ety49 rfl ⟨rfl, (.plain rfl), (by simp), trivial⟩ rfl (by decide) rfl) (.e (op_append (id' := 63) (α := ByteArray) (d := ByteArray.empty) (f := (fun s => [.str s])) ety49 Tryd.underlying49 (fun _ => rfl) (fun _ => rfl) (.plain rfl) rfl (.plain rfl) rfl ?_) rfl (.n (fun _ => op_assign (.plain rfl)) (.nil _))))))) ?_
          · (try simp only [foldN, foldR, foldL, Int.toNat_natCast])
            first | omega | (simp; omega)
          refine awp_region rfl (.n (fun _ => op_add (.plain rfl) (.plain rfl) ?_) (.n (fun _ => op_move (.plain rfl)) (.nil _))) ?_
          · (try simp only [foldN, foldR, foldL, Int.toNat_natCast])
            unfold InR; omega
          exact ⟨j + 1, ⟨by omega, firstE_succ hE2 ((sideE_sd (by omega) (by omega)).trans h)⟩, by dsimp only; omega, (Ent.round 63 1006 ⟨rfl, rfl, rfl, rfl, rfl, rfl, rfl, rfl, rfl, rfl, rfl, trivial⟩ ⟨(congrArg (fun l => some (Blk.arr 9 1 ByteArray ByteArray.empty (fun s => [.str s]) l)) (names_sd (by omega) (by omega))), trivial⟩ rfl rfl rfl ⟨rfl, rfl, rfl, rfl, rfl, rfl, rfl, rfl, rfl, rfl, rfl, trivial⟩ ⟨rfl, trivial⟩)⟩
      · (try simp only [decide_eq_true_eq, decide_eq_false_iff_not, Bool.and_eq_true, Bool.or_eq_true, Bool.and_eq_false_iff, Bool.or_eq_false_iff, Bool.not_eq_true', Bool.not_eq_false', Bool.not_eq_true, Bool.not_eq_false, Bool.true_eq_false, Bool.false_eq_true] at h); (try simp only [foldN, foldR, foldL] at h)
        have hj0 : j = (sdF L R k).length := by omega
        refine awp_exit ?_
        refine awp_region rfl (.n (fun _ => op_add (.plain rfl) (.plain rfl) ?_) (.n (fun _ => op_move (.plain rfl)) (.nil _))) ?_
        · (try simp only [foldN, foldR, foldL, Int.toNat_natCast])
          unfold InR; omega
        exact ⟨k + 1, ⟨by omega, by rw [← bs_succ (show k < 2 by omega), ← hj0]; exact hE2⟩, by dsimp only; omega, (Ent.round 1006 1005 ⟨rfl, rfl, rfl, rfl, rfl, trivial⟩ ⟨(congrArg (fun l => some (Blk.arr 9 1 ByteArray ByteArray.empty (fun s => [.str s]) l)) (congrArg (namesF L R) (by rw [hj0]; exact bs_succ (show k < 2 by omega)))), trivial⟩ rfl rfl rfl ⟨rfl, rfl, rfl, rfl, rfl, trivial⟩ ⟨rfl, trivial⟩)⟩
    · (try simp only [decide_eq_true_eq, decide_eq_false_iff_not, Bool.and_eq_true, Bool.or_eq_true, Bool.and_eq_false_iff, Bool.or_eq_false_iff, Bool.not_eq_true', Bool.not_eq_false', Bool.not_eq_true, Bool.not_eq_false, Bool.true_eq_false, Bool.false_eq_true] at h); (try simp only [foldN, foldR, foldL] at h)
      refine awp_exit ?_
      refine awp_seq ?_
      refine awp_region rfl (.n (fun _ => op_assign (.plain rfl)) (.nil _)) ?_
      refine awp_ret ?_
      refine retQ.ret ?_
      refine ret1 rfl rfl rfl ?_
      obtain rfl : k = 2 := by omega
      exact congrArg PV.i (rMayE_ok hs2 hE rfl)

set_option maxRecDepth 1000000 in
set_option maxHeartbeats 1000000 in
theorem RanksMay_fc (L R : List Ag) : FC Tryd.prog 10 [.agg [.seq (ByteArray × Int × List Int × Unit) (ByteArray.empty, 0, [], ()) (fun p => [.str p.1, .i p.2.1, .ints p.2.2.1]) L, .seq (ByteArray × Int × List Int × Unit) (ByteArray.empty, 0, [], ()) (fun p => [.str p.1, .i p.2.1, .ints p.2.2.1]) R]] (.i (rMayE L R)) := by
  refine FC.intro Tryd.func10 rfl (Nat.le_of_ble_eq_true rfl) fun hfit => ?_
  have fit0 := hfit _ (.head _)
  have hfl : L.length ≤ 281474976710656 := by cases fit0 with | agg _ h => exact (h 0 (by simp)).len
  have hfr : R.length ≤ 281474976710656 := by cases fit0 with | agg _ h => exact (h 1 (by simp)).len
  have hfa : ∀ i, i < L.length → (lkF L i).length ≤ 281474976710656 ∧ (nmF L i).size ≤ 281474976710656 := fun i hi => by cases fit0 with | agg _ h => exact ⟨((h 0 (by simp)).elem (getD_mem (ByteArray.empty, 0, [], ()) hi) (c := .ints (lkF L i)) (List.mem_cons_of_mem _ (List.mem_cons_of_mem _ List.mem_cons_self))).len, ((h 0 (by simp)).elem (getD_mem (ByteArray.empty, 0, [], ()) hi) (c := .str (nmF L i)) List.mem_cons_self).str_len⟩
  have hfb : ∀ i, i < R.length → (lkF R i).length ≤ 281474976710656 ∧ (nmF R i).size ≤ 281474976710656 := fun i hi => by cases fit0 with | agg _ h => exact ⟨((h 1 (by simp)).elem (getD_mem (ByteArray.empty, 0, [], ()) hi) (c := .ints (lkF R i)) (List.mem_cons_of_mem _ (List.mem_cons_of_mem _ List.mem_cons_self))).len, ((h 1 (by simp)).elem (getD_mem (ByteArray.empty, 0, [], ()) hi) (c := .str (nmF R i)) List.mem_cons_self).str_len⟩
  refine awp_seq ?_
  refine awp_region rfl (.n (fun _ => op_box (.plain rfl) (by simp)) (.n (fun _ => op_assign (.plain rfl)) (.nil _))) ?_
  refine awp_seq ?_
  refine awp_seq ?_
  refine awp_region rfl (.n (fun _ => op_fieldAddr Tryd.underlying24 rfl rfl Tryd.sizeOf22 (.plain rfl)) (.n (fun _ => op_load Tryd.isAgg22 (.plain rfl)) (.n (fun _ => op_len (s := 0) Tryd.underlying22 (.plain rfl)) (.n (fun _ => op_gtr (.plain rfl) (.plain rfl)) (.n (fun _ => op_move (.plain rfl)) (.gn rfl rfl (fun hg _ => op_fieldAddr Tryd.underlying24 rfl rfl Tryd.sizeOf22 (.plain rfl)) (.gn rfl rfl (fun hg _ => op_load Tryd.isAgg22 (.opt rfl fun h => h)) (.gn rfl rfl (fun hg _ => op_len (s := 0) Tryd.underlying22 (.opt rfl fun h => h)) (.gn rfl rfl (fun hg _ => op_gtr (.opt rfl fun h => h) (.plain rfl)) (.n (fun _ => op_or (.plain rfl) (.plain rfl) (.plain rfl) (fun h => eqF h)) (.nil _))))))))))) ?_
  refine awp_cond rfl (fun h => ?_) (fun h => ?_)
  · (try simp only [decide_eq_true_eq, decide_eq_false_iff_not, Bool.and_eq_true, Bool.or_eq_true, Bool.and_eq_false_iff, Bool.or_eq_false_iff, Bool.not_eq_true', Bool.not_eq_false', Bool.not_eq_true, Bool.not_eq_false, Bool.true_eq_false, Bool.false_eq_true] at h); (try simp only [foldN, foldR, foldL] at h)
    refine awp_seq ?_
    refine awp_region rfl (.n (fun _ => op_assign (.plain rfl)) (.nil _)) ?_
    refine awp_ret ?_
    refine retQ.ret ?_
    refine ret1 rfl rfl rfl ?_
    exact congrArg PV.i (rMayE_2 (by omega))
  · (try simp only [decide_eq_true_eq, decide_eq_false_iff_not, Bool.and_eq_true, Bool.or_eq_true, Bool.and_eq_false_iff, Bool.or_eq_false_iff, Bool.not_eq_true', Bool.not_eq_false', Bool.not_eq_true, Bool.not_eq_false, Bool.true_eq_false, Bool.false_eq_true] at h); (try simp only [foldN, foldR, foldL] at h)
    refine awp_skip ?_
    refine awp_seq ?_
    refine awp_region_draw mixed rfl (.e (op_slitE (α := (ByteArray × Int × List Int × Unit)) (d := (ByteArray.empty, 0, [], ())) (f := (fun p => [.str p.1, .i p.2.1, .ints p.2.2.1])) 22 ety22 (fun _ => rfl) rfl) rfl (.n (fun _ => op_fieldAddr Tryd.underlying24 rfl rfl Tryd.sizeOf22 (.plain rfl)) (.n (fun _ => op_load Tryd.isAgg22 (.plain rfl)) (.e (op_append (id' := 25) (α := (ByteArray × Int × List Int × Unit)) (d := (ByteArray.empty, 0, [], ())) (f := (fun p => [.str p.1, .i p.2.1, .ints p.2.2.1])) ety22 Tryd.underlying22 (fun _ => rfl) (fun _ => rfl) (.plain rfl) rfl (.plain rfl) rfl ?_) rfl (.n (fun _ => op_fieldAddr Tryd.underlying24 rfl rfl Tryd.sizeOf22 (.plain rfl)) (.n (fun _ => op_load Tryd.isAgg22 (.plain rfl)) (.e (op_append (id' := 28) (α := (ByteArray × Int × List Int × Unit)) (d := (ByteArray.empty, 0, [], ())) (f := (fun p => [.str p.1, .i p.2.1, .ints p.2.2.1])) ety22 Tryd.underlying22 (fun _ => rfl) (fun _ => rfl) (.plain rfl) rfl (.plain rfl) rfl ?_) rfl (.n (fun _ => op_assign (.plain rfl)) (.nil _))))))))) ?d3 ?_
    · (try simp only [foldN, foldR, foldL, Int.toNat_natCast])
      first | omega | (simp; omega)
    · (try simp only [foldN, foldR, foldL, Int.toNat_natCast])
      first | omega | (simp; omega)
    · kernel_rfl
    refine awp_seq ?_
    refine awp_ent (Ent.give 3 rfl rfl) ?_
    refine awp_region rfl (.n (fun _ => op_assign (.plain rfl)) (.nil _)) ?_
    refine awp_seq ?_
    refine awp_seq ?_
    refine awp_region rfl (.n (fun _ => op_assign (.plain rfl)) (.nil _)) ?_
    refine awp_block ?_
    refine awp_ent (Ent.begin 4 1004 9 1 ByteArray ByteArray.empty (fun s => [.str s]) rfl rfl rfl) ?_
    refine awp_loop (σ := Nat) (fun (i : Nat) => ¬ (6 < (L.length : Int) ∨ 6 < (R.length : Int)) ∧ i ≤ L.length + R.length ∧ firstE (sideE L R) i = 0) (fun (i : Nat) => ⟨[(1, .pv (.rd [.seq (ByteArray × Int × List Int × Unit) (ByteArray.empty, 0, [], ()) (fun p => [.str p.1, .i p.2.1, .ints p.2.2.1]) L, .seq (ByteArray × Int × List Int × Unit) (ByteArray.empty, 0, [], ()) (fun p => [.str p.1, .i p.2.1, .ints p.2.2.1]) R])), (3, .pv (.seq (ByteArray × Int × List Int × Unit) (ByteArray.empty, 0, [], ()) (fun p => [.str p.1, .i p.2.1, .ints p.2.2.1]) (L ++ R))), (4, .own 1004), (5, .int (i : Nat))], [(1004, .arr 9 1 ByteArray ByteArray.empty (fun s => [.str s]) (namesF L R i))]⟩) (fun (i : Nat) => L.length + R.length - i) 0 ?_ (Ent.kept ⟨rfl, rfl, rfl, rfl, trivial⟩ ⟨rfl, trivial⟩) ?_
    · exact ⟨by omega, Nat.zero_le _, rfl⟩
    rintro i hp
    try dsimp only at hp
    obtain ⟨hs2, hk, hE⟩ := hp
    have hal : (L ++ R).length = L.length + R.length := List.length_append
    have hnl := namesF_length hk
    refine awp_seq ?_
    refine awp_seq ?_
    refine awp_region rfl (.n (fun _ => op_move (.plain rfl)) (.n (fun _ => op_move (.plain rfl)) (.n (fun _ => op_len (s := 0) Tryd.underlying22 (.plain rfl)) (.n (fun _ => op_lss (.plain rfl) (.plain rfl)) (.nil _))))) ?_
    refine awp_cond rfl (fun h => ?_) (fun h => ?_)
    · (try simp only [decide_eq_true_eq, decide_eq_false_iff_not, Bool.and_eq_true, Bool.or_eq_true, Bool.and_eq_false_iff, Bool.or_eq_false_iff, Bool.not_eq_true', Bool.not_eq_false', Bool.not_eq_true, Bool.not_eq_false, Bool.true_eq_false, Bool.false_eq_true] at h); (try simp only [foldN, foldR, foldL] at h)
      refine awp_skip ?_
      refine awp_seq ?_
      refine awp_block ?_
      refine awp_seq ?_
      refine awp_region rfl (.n (fun _ => op_move (.plain rfl)) (.n (fun _ => op_move (.plain rfl)) (.n (fun _ => op_indexAddrN Tryd.underlying22 Tryd.sizeOf27 (.plain rfl) (.plain rfl) (fun _ => rfl) ?_) (.n (fun _ => op_load_agg Tryd.isAgg27 Tryd.sizeOf27 (.plain rfl) (Nat.le_of_ble_eq_true rfl)) (.e (op_alloc 6 Tryd.zeroValue27 rfl rfl rfl) rfl (.e (op_storeRA Tryd.sizeOf27 (.plain rfl) (.plain rfl) rfl rfl (Nat.le_of_ble_eq_true rfl) rfl) rfl (.nil _))))))) ?_
      · (try simp only [foldN, foldR, foldL, Int.toNat_natCast])
        omega
      refine awp_seq ?_
      refine awp_region rfl (.n (fun _ => op_fieldAddrR Tryd.underlying27 rfl rfl Tryd.sizeOf9 (.plain rfl)) (.r (op_loadR Tryd.isAgg9 (.plain rfl) rfl rfl) (.n (fun _ => op_call1 Tryd.call21 (.plain rfl) (Named_fc _)) (.n (fun _ => op_assign (.plain rfl)) (.nil _))))) ?_
      refine awp_seq ?_
      refine awp_region rfl (.n (fun _ => op_move (.plain rfl)) (.n (fun _ => op_fieldAddrR Tryd.underlying27 rfl rfl Tryd.sizeOf9 (.plain rfl)) (.r (op_loadR Tryd.isAgg9 (.plain rfl) rfl rfl) (.r (op_callL (vals := [_, _]) Tryd.call22 ⟨⟨_, (.plain rfl), rfl⟩, ⟨_, (.plain rfl), rfl⟩, trivial⟩ (hasText_fc _ _) rfl) (.n (fun _ => op_assign (.plain rfl)) (.nil _)))))) ?_
      refine awp_seq ?_
      refine awp_seq ?_
      refine awp_region rfl (.n (fun _ => op_move (.plain rfl)) (.n (fun _ => op_not (.plain rfl)) (.nil _))) ?_
      refine awp_cond rfl (fun h => ?_) (fun h => ?_)
      · (try simp only [decide_eq_true_eq, decide_eq_false_iff_not, Bool.and_eq_true, Bool.or_eq_true, Bool.and_eq_false_iff, Bool.or_eq_false_iff, Bool.not_eq_true', Bool.not_eq_false', Bool.not_eq_true, Bool.not_eq_false, Bool.true_eq_false, Bool.false_eq_true] at h); (try simp only [foldN, foldR, foldL] at h)
        refine awp_seq ?_
        refine awp_region rfl (.n (fun _ => op_assign (.plain rfl)) (.nil _)) ?_
        refine awp_ret ?_
        refine retQ.ret ?_
        refine ret1 rfl rfl rfl ?_
        exact congrArg PV.i (rMayE_at hs2 hE (by omega) (agE_1 (by simpa using h)).symm (by omega))
      · (try simp only [decide_eq_true_eq, decide_eq_false_iff_not, Bool.and_eq_true, Bool.or_eq_true, Bool.and_eq_false_iff, Bool.or_eq_false_iff, Bool.not_eq_true', Bool.not_eq_false', Bool.not_eq_true, Bool.not_eq_false, Bool.true_eq_false, Bool.false_eq_true] at h); (try simp only [foldN, foldR, foldL] at h)
        have h1 : ¬ namedF (nmF (L ++ R) i) = false := by simpa using h
        clear h
        refine awp_skip ?_
        refine awp_seq ?_
        refine awp_seq ?_
        refine awp_region rfl (.n (fun _ => op_move (.plain rfl)) (.n (fun _ => op_geq (.plain rfl) (.plain rfl)) (.nil _))) ?_
        refine awp_cond rfl (fun h => ?_) (fun h => ?_)
        · (try simp only [decide_eq_true_eq, decide_eq_false_iff_not, Bool.and_eq_true, Bool.or_eq_true, Bool.and_eq_false_iff, Bool.or_eq_false_iff, Bool.not_eq_true', Bool.not_eq_false', Bool.not_eq_true, Bool.not_eq_false, Bool.true_eq_false, Bool.false_eq_true] at h); (try simp only [foldN, foldR, foldL] at h)
          refine awp_seq ?_
          refine awp_region rfl (.n (fun _ => op_assign (.plain rfl)) (.nil _)) ?_
          refine awp_ret ?_
          refine retQ.ret ?_
          refine ret1 rfl rfl rfl ?_
          exact congrArg PV.i (rMayE_at hs2 hE (by omega) (agE_6 h1 (by omega)).symm (by omega))
        · (try simp only [decide_eq_true_eq, decide_eq_false_iff_not, Bool.and_eq_true, Bool.or_eq_true, Bool.and_eq_false_iff, Bool.or_eq_false_iff, Bool.not_eq_true', Bool.not_eq_false', Bool.not_eq_true, Bool.not_eq_false, Bool.true_eq_false, Bool.false_eq_true] at h); (try simp only [foldN, foldR, foldL] at h)
          have h2 : ¬ 0 ≤ txtF (namesF L R i) (nmF (L ++ R) i) := by omega
          clear h
          refine awp_skip ?_
          refine awp_seq ?_
          refine awp_seq ?_
          refine awp_region rfl (.n (fun _ => op_fieldAddrR Tryd.underlying27 rfl rfl Tryd.sizeOf3 (.plain rfl)) (.r (op_loadR Tryd.isAgg3 (.plain rfl) rfl rfl) (.n (fun _ => op_lss (.plain rfl) (.plain rfl)) (.n (fun _ => op_move (.plain rfl)) (.gn rfl rfl (fun hg _ => op_fieldAddrR Tryd.underlying27 rfl rfl Tryd.sizeOf3 (.plain rfl)) (.gr rfl rfl (fun hg => op_loadR Tryd.isAgg3 (.opt rfl fun h => h) rfl rfl) (.gn rfl rfl (fun hg _ => op_gtr (.opt rfl fun h => h) (.plain rfl)) (.n (fun _ => op_or (.plain rfl) (.plain rfl) (.plain rfl) (fun h => eqF h)) (.nil _))))))))) ?_
          refine awp_cond rfl (fun h => ?_) (fun h => ?_)
          · (try simp only [decide_eq_true_eq, decide_eq_false_iff_not, Bool.and_eq_true, Bool.or_eq_true, Bool.and_eq_false_iff, Bool.or_eq_false_iff, Bool.not_eq_true', Bool.not_eq_false', Bool.not_eq_true, Bool.not_eq_false, Bool.true_eq_false, Bool.false_eq_true] at h); (try simp only [foldN, foldR, foldL] at h)
            refine awp_seq ?_
            refine awp_region rfl (.n (fun _ => op_assign (.plain rfl)) (.nil _)) ?_
            refine awp_ret ?_
            refine retQ.ret ?_
            refine ret1 rfl rfl rfl ?_
            exact congrArg PV.i (rMayE_at hs2 hE (by omega) (agE_9 h1 h2 (by omega)).symm (by omega))
          · (try simp only [decide_eq_true_eq, decide_eq_false_iff_not, Bool.and_eq_true, Bool.or_eq_true, Bool.and_eq_false_iff, Bool.or_eq_false_iff, Bool.not_eq_true', Bool.not_eq_false', Bool.not_eq_true, Bool.not_eq_false, Bool.true_eq_false, Bool.false_eq_true] at h); (try simp only [foldN, foldR, foldL] at h)
            have h3 : ¬ (rmF (L ++ R) i < 1 ∨ 4 < rmF (L ++ R) i) := by omega
            clear h
            refine awp_skip ?_
            refine awp_seq ?_
            refine awp_region rfl (.n (fun _ => op_fieldAddr Tryd.underlying24 rfl rfl Tryd.sizeOf22 (.plain rfl)) (.n (fun _ => op_load Tryd.isAgg22 (.plain rfl)) (.n (fun _ => op_len (s := 0) Tryd.underlying22 (.plain rfl)) (.n (fun _ => op_assign (.plain rfl)) (.nil _))))) ?_
            refine awp_seq ?_
            refine awp_seq ?_
            refine awp_region rfl (.n (fun _ => op_move (.plain rfl)) (.n (fun _ => op_fieldAddr Tryd.underlying24 rfl rfl Tryd.sizeOf22 (.plain rfl)) (.n (fun _ => op_load Tryd.isAgg22 (.plain rfl)) (.n (fun _ => op_len (s := 0) Tryd.underlying22 (.plain rfl)) (.n (fun _ => op_lss (.plain rfl) (.plain rfl)) (.nil _)))))) ?_
            refine awp_cond rfl (fun h => ?_) (fun h => ?_)
            · (try simp only [decide_eq_true_eq, decide_eq_false_iff_not, Bool.and_eq_true, Bool.or_eq_true, Bool.and_eq_false_iff, Bool.or_eq_false_iff, Bool.not_eq_true', Bool.not_eq_false', Bool.not_eq_true, Bool.not_eq_false, Bool.true_eq_false, Bool.false_eq_true] at h); (try simp only [foldN, foldR, foldL] at h)
              refine awp_region rfl (.n (fun _ => op_fieldAddr Tryd.underlying24 rfl rfl Tryd.sizeOf22 (.plain rfl)) (.n (fun _ => op_load Tryd.isAgg22 (.plain rfl)) (.n (fun _ => op_len (s := 0) Tryd.underlying22 (.plain rfl)) (.n (fun _ => op_assign (.plain rfl)) (.nil _))))) ?_
              refine awp_seq ?_
              refine awp_seq ?_
              refine awp_region rfl (.n (fun _ => op_assign (.plain rfl)) (.nil _)) ?_
              refine awp_block ?_
              refine awp_loop (σ := Nat) (fun (q : Nat) => q ≤ (lkF (L ++ R) i).length ∧ firstE (someB (nF L R i : Nat) (lkF (L ++ R) i)) q = 0) (fun (q : Nat) => ⟨[(1, .pv (.rd [.seq (ByteArray × Int × List Int × Unit) (ByteArray.empty, 0, [], ()) (fun p => [.str p.1, .i p.2.1, .ints p.2.2.1]) L, .seq (ByteArray × Int × List Int × Unit) (ByteArray.empty, 0, [], ()) (fun p => [.str p.1, .i p.2.1, .ints p.2.2.1]) R])), (3, .pv (.seq (ByteArray × Int × List Int × Unit) (ByteArray.empty, 0, [], ()) (fun p => [.str p.1, .i p.2.1, .ints p.2.2.1]) (L ++ R))), (4, .own 1004), (5, .int (i : Nat)), (6, .ref 6 0), (9, .int (nF L R i : Nat)), (10, .int (q : Nat))], [(1004, .arr 9 1 ByteArray ByteArray.empty (fun s => [.str s]) (namesF L R i)), (6, .box [.pv (.str (nmF (L ++ R) i)), .pv (.i (rmF (L ++ R) i)), .pv (.ints (lkF (L ++ R) i))])]⟩) (fun (q : Nat) => (lkF (L ++ R) i).length - q) 0 ?_ (Ent.kept ⟨rfl, rfl, rfl, rfl, rfl, (congrArg (fun n : Nat => some (SV.int n)) (nF_l h).symm), rfl, trivial⟩ ⟨rfl, rfl, trivial⟩) ?_
              · exact ⟨Nat.zero_le _, rfl⟩
              rintro q hp
              try dsimp only at hp
              obtain ⟨hk1, hE1⟩ := hp
              have hlb := lk_app hfa hfb i (by omega)
              refine awp_seq ?_
              refine awp_seq ?_
              refine awp_region rfl (.n (fun _ => op_move (.plain rfl)) (.n (fun _ => op_fieldAddrR Tryd.underlying27 rfl rfl Tryd.sizeOf25 (.plain rfl)) (.r (op_loadR Tryd.isAgg25 (.plain rfl) rfl rfl) (.n (fun _ => op_len (s := 0) Tryd.underlying25 (.plain rfl)) (.n (fun _ => op_lss (.plain rfl) (.plain rfl)) (.nil _)))))) ?_
              refine awp_cond rfl (fun h => ?_) (fun h => ?_)
              · (try simp only [decide_eq_true_eq, decide_eq_false_iff_not, Bool.and_eq_true, Bool.or_eq_true, Bool.and_eq_false_iff, Bool.or_eq_false_iff, Bool.not_eq_true', Bool.not_eq_false', Bool.not_eq_true, Bool.not_eq_false, Bool.true_eq_false, Bool.false_eq_true] at h); (try simp only [foldN, foldR, foldL] at h)
                refine awp_skip ?_
                refine awp_seq ?_
                refine awp_block ?_
                refine awp_seq ?_
                refine awp_seq ?_
                refine awp_region rfl (.n (fun _ => op_fieldAddrR Tryd.underlying27 rfl rfl Tryd.sizeOf25 (.plain rfl)) (.r (op_loadR Tryd.isAgg25 (.plain rfl) rfl rfl) (.n (fun _ => op_move (.plain rfl)) (.n (fun _ => op_indexAddrN Tryd.underlying25 Tryd.sizeOf3 (.plain rfl) (.plain rfl) (fun _ => rfl) ?_) (.n (fun _ => op_load Tryd.isAgg3 (.plain rfl)) (.n (fun _ => op_lss (.plain rfl) (.plain rfl)) (.n (fun _ => op_move (.plain rfl)) (.gn rfl rfl (fun hg _ => op_fieldAddrR Tryd.underlying27 rfl rfl Tryd.sizeOf25 (.plain rfl)) (.gr rfl rfl (fun hg => op_loadR Tryd.isAgg25 (.opt rfl fun h => h) rfl rfl) (.gn rfl rfl (fun hg _ => op_move (.plain rfl)) (.gn rfl rfl (fun hg _ => op_indexAddrN Tryd.underlying25 Tryd.sizeOf3 (.opt rfl fun h => h) (.opt rfl fun h => h) (fun _ => rfl) ?_) (.gn rfl rfl (fun hg _ => op_load Tryd.isAgg3 (.opt rfl fun h => h)) (.gn rfl rfl (fun hg _ => op_move (.plain rfl)) (.gn rfl rfl (fun hg _ => op_geq (.opt rfl fun h => h) (.opt rfl fun h => h)) (.n (fun _ => op_or (.plain rfl) (.plain rfl) (.plain rfl) (fun h => eqF h)) (.nil _)))))))))))))))) ?_
                · (try simp only [foldN, foldR, foldL, Int.toNat_natCast])
                  omega
                · try simp only [beq_iff_eq, beq_true, beq_false, Bool.and_eq_true, decide_eq_true_eq, decide_eq_false_iff_not, Bool.not_eq_true', Bool.or_eq_true, Bool.or_eq_false_iff] at hg
                  (try simp only [foldN, foldR, foldL, Int.toNat_natCast])
                  omega
                refine awp_cond rfl (fun h => ?_) (fun h => ?_)
                · (try simp only [decide_eq_true_eq, decide_eq_false_iff_not, Bool.and_eq_true, Bool.or_eq_true, Bool.and_eq_false_iff, Bool.or_eq_false_iff, Bool.not_eq_true', Bool.not_eq_false', Bool.not_eq_true, Bool.not_eq_false, Bool.true_eq_false, Bool.false_eq_true] at h); (try simp only [foldN, foldR, foldL] at h)
                  refine awp_seq ?_
                  refine awp_region rfl (.n (fun _ => op_assign (.plain rfl)) (.nil _)) ?_
                  refine awp_ret ?_
                  refine retQ.ret ?_
                  refine ret1 rfl rfl rfl ?_
                  exact congrArg PV.i (rMayE_at hs2 hE (by omega) ((agE_f ⟨h1, h2, h3⟩).symm.trans (someE_at hE1 (by omega) (someB_8 (by omega)) (by omega)).symm) (by omega))
                · (try simp only [decide_eq_true_eq, decide_eq_false_iff_not, Bool.and_eq_true, Bool.or_eq_true, Bool.and_eq_false_iff, Bool.or_eq_false_iff, Bool.not_eq_true', Bool.not_eq_false', Bool.not_eq_true, Bool.not_eq_false, Bool.true_eq_false, Bool.false_eq_true] at h); (try simp only [foldN, foldR, foldL] at h)
                  have hno : ¬ ((lkF (L ++ R) i).getD q 0 < 0 ∨ (nF L R i : Int) ≤ (lkF (L ++ R) i).getD q 0) := by omega
                  clear h
                  refine awp_skip ?_
                  refine awp_seq ?_
                  refine awp_region_draw mixed rfl (.n (fun _ => op_fieldAddrR Tryd.underlying27 rfl rfl Tryd.sizeOf25 (.plain rfl)) (.r (op_loadR Tryd.isAgg25 (.plain rfl) rfl rfl) (.n (fun _ => op_fieldAddrR Tryd.underlying27 rfl rfl Tryd.sizeOf25 (.plain rfl)) (.r (op_loadR Tryd.isAgg25 (.plain rfl) rfl rfl) (.n (fun _ => op_move (.plain rfl)) (.n (fun _ => op_indexAddrN Tryd.underlying25 Tryd.sizeOf3 (.plain rfl) (.plain rfl) (fun _ => rfl) ?_) (.n (fun _ => op_load Tryd.isAgg3 (.plain rfl)) (.n (fun _ => op_call2 Tryd.call12 (.plain rfl) (.plain rfl) (Place_fc _ _)) (.n (fun _ => op_assign (.plain rfl)) (.nil _)))))))))) ?d4 ?_
                  · (try simp only [foldN, foldR, foldL, Int.toNat_natCast])
                    omega
                  · kernel_rfl
                  refine awp_seq ?_
                  refine awp_region rfl (.n (fun _ => op_move (.plain rfl)) (.n (fun _ => op_move (.plain rfl)) (.n (fun _ => op_lss (.plain rfl) (.plain rfl)) (.nil _)))) ?_
                  refine awp_cond rfl (fun h => ?_) (fun h => ?_)
                  · (try simp only [decide_eq_true_eq, decide_eq_false_iff_not, Bool.and_eq_true, Bool.or_eq_true, Bool.and_eq_false_iff, Bool.or_eq_false_iff, Bool.not_eq_true', Bool.not_eq_false', Bool.not_eq_true, Bool.not_eq_false, Bool.true_eq_false, Bool.false_eq_true] at h); (try simp only [foldN, foldR, foldL] at h)
                    refine awp_seq ?_
                    refine awp_region rfl (.n (fun _ => op_assign (.plain rfl)) (.nil _)) ?_
                    refine awp_ret ?_
                    refine retQ.ret ?_
                    refine ret1 rfl rfl rfl ?_
                    exact congrArg PV.i (rMayE_at hs2 hE (by omega) ((agE_f ⟨h1, h2, h3⟩).symm.trans (someE_at hE1 (by omega) (someB_6 hno (by omega)) (by omega)).symm) (by omega))
                  · (try simp only [decide_eq_true_eq, decide_eq_false_iff_not, Bool.and_eq_true, Bool.or_eq_true, Bool.and_eq_false_iff, Bool.or_eq_false_iff, Bool.not_eq_true', Bool.not_eq_false', Bool.not_eq_true, Bool.not_eq_false, Bool.true_eq_false, Bool.false_eq_true] at h); (try simp only [foldN, foldR, foldL] at h)
                    refine awp_skip ?_
                    refine awp_region rfl (.n (fun _ => op_move (.plain rfl)) (.n (fun _ => op_add (.plain rfl) (.plain rfl) ?_) (.n (fun _ => op_assign (.plain rfl)) (.nil _)))) ?_
                    · (try simp only [foldN, foldR, foldL, Int.toNat_natCast])
                      unfold InR; omega
                    exact ⟨q + 1, ⟨by omega, firstE_succ hE1 (someB_0 hno (by omega))⟩, by dsimp only; omega, (Ent.kept ⟨rfl, rfl, rfl, rfl, rfl, rfl, rfl, trivial⟩ ⟨rfl, rfl, trivial⟩)⟩
              · (try simp only [decide_eq_true_eq, decide_eq_false_iff_not, Bool.and_eq_true, Bool.or_eq_true, Bool.and_eq_false_iff, Bool.or_eq_false_iff, Bool.not_eq_true', Bool.not_eq_false', Bool.not_eq_true, Bool.not_eq_false, Bool.true_eq_false, Bool.false_eq_true] at h); (try simp only [foldN, foldR, foldL] at h)
                refine awp_exit ?_
                refine awp_region rfl (.n (fun _ => op_move (.plain rfl)) (.n (fun _ => op_fieldAddrR Tryd.underlying27 rfl rfl Tryd.sizeOf9 (.plain rfl)) (.r (op_loadR Tryd.isAgg9 (.plain rfl) rfl rfl) (.n (fun _ => op_slit (pp := [(0, _)]) (α := ByteArray) (d := ByteArray.empty) (f := (fun s => [.str s])) [_] ety49 rfl ⟨rfl, (.plain rfl), (by simp), trivial⟩ rfl (by decide) rfl) (.e (op_append (id' := 106) (α := ByteArray) (d := ByteArray.empty) (f := (fun s => [.str s])) ety49 Tryd.underlying49 (fun _ => rfl) (fun _ => rfl) (.plain rfl) rfl (.plain rfl) rfl ?_) rfl (.n (fun _ => op_assign (.plain rfl)) (.nil _))))))) ?_
                · (try simp only [foldN, foldR, foldL, Int.toNat_natCast])
                  first | omega | (simp; omega)
                refine awp_region rfl (.n (fun _ => op_move (.plain rfl)) (.n (fun _ => op_add (.plain rfl) (.plain rfl) ?_) (.n (fun _ => op_assign (.plain rfl)) (.nil _)))) ?_
                · (try simp only [foldN, foldR, foldL, Int.toNat_natCast])
                  unfold InR; omega
                exact ⟨i + 1, ⟨hs2, by omega, firstE_succ hE ((agE_f ⟨h1, h2, h3⟩).symm.trans (someE_ok hk1 hE1 (by omega)).symm)⟩, by dsimp only; omega, (Ent.round 106 1004 ⟨rfl, rfl, rfl, rfl, trivial⟩ ⟨(congrArg (fun l => some (Blk.arr 9 1 ByteArray ByteArray.empty (fun s => [.str s]) l)) ((namesF_succ (by omega)).symm)), trivial⟩ rfl rfl rfl ⟨rfl, rfl, rfl, rfl, trivial⟩ ⟨rfl, trivial⟩)⟩
            · (try simp only [decide_eq_true_eq, decide_eq_false_iff_not, Bool.and_eq_true, Bool.or_eq_true, Bool.and_eq_false_iff, Bool.or_eq_false_iff, Bool.not_eq_true', Bool.not_eq_false', Bool.not_eq_true, Bool.not_eq_false, Bool.true_eq_false, Bool.false_eq_true] at h); (try simp only [foldN, foldR, foldL] at h)
              refine awp_skip ?_
              refine awp_seq ?_
              refine awp_seq ?_
              refine awp_region rfl (.n (fun _ => op_assign (.plain rfl)) (.nil _)) ?_
              refine awp_block ?_
              refine awp_loop (σ := Nat) (fun (q : Nat) => q ≤ (lkF (L ++ R) i).length ∧ firstE (someB (nF L R i : Nat) (lkF (L ++ R) i)) q = 0) (fun (q : Nat) => ⟨[(1, .pv (.rd [.seq (ByteArray × Int × List Int × Unit) (ByteArray.empty, 0, [], ()) (fun p => [.str p.1, .i p.2.1, .ints p.2.2.1]) L, .seq (ByteArray × Int × List Int × Unit) (ByteArray.empty, 0, [], ()) (fun p => [.str p.1, .i p.2.1, .ints p.2.2.1]) R])), (3, .pv (.seq (ByteArray × Int × List Int × Unit) (ByteArray.empty, 0, [], ()) (fun p => [.str p.1, .i p.2.1, .ints p.2.2.1]) (L ++ R))), (4, .own 1004), (5, .int (i : Nat)), (6, .ref 6 0), (9, .int (nF L R i : Nat)), (10, .int (q : Nat))], [(1004, .arr 9 1 ByteArray ByteArray.empty (fun s => [.str s]) (namesF L R i)), (6, .box [.pv (.str (nmF (L ++ R) i)), .pv (.i (rmF (L ++ R) i)), .pv (.ints (lkF (L ++ R) i))])]⟩) (fun (q : Nat) => (lkF (L ++ R) i).length - q) 0 ?_ (Ent.kept ⟨rfl, rfl, rfl, rfl, rfl, (congrArg (fun n : Nat => some (SV.int n)) (nF_r h).symm), rfl, trivial⟩ ⟨rfl, rfl, trivial⟩) ?_
              · exact ⟨Nat.zero_le _, rfl⟩
              rintro q hp
              try dsimp only at hp
              obtain ⟨hk1, hE1⟩ := hp
              have hlb := lk_app hfa hfb i (by omega)
              refine awp_seq ?_
              refine awp_seq ?_
              refine awp_region rfl (.n (fun _ => op_move (.plain rfl)) (.n (fun _ => op_fieldAddrR Tryd.underlying27 rfl rfl Tryd.sizeOf25 (.plain rfl)) (.r (op_loadR Tryd.isAgg25 (.plain rfl) rfl rfl) (.n (fun _ => op_len (s := 0) Tryd.underlying25 (.plain rfl)) (.n (fun _ => op_lss (.plain rfl) (.plain rfl)) (.nil _)))))) ?_
              refine awp_cond rfl (fun h => ?_) (fun h => ?_)
              · (try simp only [decide_eq_true_eq, decide_eq_false_iff_not, Bool.and_eq_true, Bool.or_eq_true, Bool.and_eq_false_iff, Bool.or_eq_false_iff, Bool.not_eq_true', Bool.not_eq_false', Bool.not_eq_true, Bool.not_eq_false, Bool.true_eq_false, Bool.false_eq_true] at h); (try simp only [foldN, foldR, foldL] at h)
                refine awp_skip ?_
                refine awp_seq ?_
                refine awp_block ?_
                refine awp_seq ?_
                refine awp_seq ?_
                refine awp_region rfl (.n (fun _ => op_fieldAddrR Tryd.underlying27 rfl rfl Tryd.sizeOf25 (.plain rfl)) (.r (op_loadR Tryd.isAgg25 (.plain rfl) rfl rfl) (.n (fun _ => op_move (.plain rfl)) (.n (fun _ => op_indexAddrN Tryd.underlying25 Tryd.sizeOf3 (.plain rfl) (.plain rfl) (fun _ => rfl) ?_) (.n (fun _ => op_load Tryd.isAgg3 (.plain rfl)) (.n (fun _ => op_lss (.plain rfl) (.plain rfl)) (.n (fun _ => op_move (.plain rfl)) (.gn rfl rfl (fun hg _ => op_fieldAddrR Tryd.underlying27 rfl rfl Tryd.sizeOf25 (.plain rfl)) (.gr rfl rfl (fun hg => op_loadR Tryd.isAgg25 (.opt rfl fun h => h) rfl rfl) (.gn rfl rfl (fun hg _ => op_move (.plain rfl)) (.gn rfl rfl (fun hg _ => op_indexAddrN Tryd.underlying25 Tryd.sizeOf3 (.opt rfl fun h => h) (.opt rfl fun h => h) (fun _ => rfl) ?_) (.gn rfl rfl (fun hg _ => op_load Tryd.isAgg3 (.opt rfl fun h => h)) (.gn rfl rfl (fun hg _ => op_move (.plain rfl)) (.gn rfl rfl (fun hg _ => op_geq (.opt rfl fun h => h) (.opt rfl fun h => h)) (.n (fun _ => op_or (.plain rfl) (.plain rfl) (.plain rfl) (fun h => eqF h)) (.nil _)))))))))))))))) ?_
                · (try simp only [foldN, foldR, foldL, Int.toNat_natCast])
                  omega
                · try simp only [beq_iff_eq, beq_true, beq_false, Bool.and_eq_true, decide_eq_true_eq, decide_eq_false_iff_not, Bool.not_eq_true', Bool.or_eq_true, Bool.or_eq_false_iff] at hg
                  (try simp only [foldN, foldR, foldL, Int.toNat_natCast])
                  omega
                refine awp_cond rfl (fun h => ?_) (fun h => ?_)
                · (try simp only [decide_eq_true_eq, decide_eq_false_iff_not, Bool.and_eq_true, Bool.or_eq_true, Bool.and_eq_false_iff, Bool.or_eq_false_iff, Bool.not_eq_true', Bool.not_eq_false', Bool.not_eq_true, Bool.not_eq_false, Bool.true_eq_false, Bool.false_eq_true] at h); (try simp only [foldN, foldR, foldL] at h)
                  refine awp_seq ?_
                  refine awp_region rfl (.n (fun _ => op_assign (.plain rfl)) (.nil _)) ?_
                  refine awp_ret ?_
                  refine retQ.ret ?_
                  refine ret1 rfl rfl rfl ?_
                  exact congrArg PV.i (rMayE_at hs2 hE (by omega) ((agE_f ⟨h1, h2, h3⟩).symm.trans (someE_at hE1 (by omega) (someB_8 (by omega)) (by omega)).symm) (by omega))
                · (try simp only [decide_eq_true_eq, decide_eq_false_iff_not, Bool.and_eq_true, Bool.or_eq_true, Bool.and_eq_false_iff, Bool.or_eq_false_iff, Bool.not_eq_true', Bool.not_eq_false', Bool.not_eq_true, Bool.not_eq_false, Bool.true_eq_false, Bool.false_eq_true] at h); (try simp only [foldN, foldR, foldL] at h)
                  have hno : ¬ ((lkF (L ++ R) i).getD q 0 < 0 ∨ (nF L R i : Int) ≤ (lkF (L ++ R) i).getD q 0) := by omega
                  clear h
                  refine awp_skip ?_
                  refine awp_seq ?_
                  refine awp_region_draw mixed rfl (.n (fun _ => op_fieldAddrR Tryd.underlying27 rfl rfl Tryd.sizeOf25 (.plain rfl)) (.r (op_loadR Tryd.isAgg25 (.plain rfl) rfl rfl) (.n (fun _ => op_fieldAddrR Tryd.underlying27 rfl rfl Tryd.sizeOf25 (.plain rfl)) (.r (op_loadR Tryd.isAgg25 (.plain rfl) rfl rfl) (.n (fun _ => op_move (.plain rfl)) (.n (fun _ => op_indexAddrN Tryd.underlying25 Tryd.sizeOf3 (.plain rfl) (.plain rfl) (fun _ => rfl) ?_) (.n (fun _ => op_load Tryd.isAgg3 (.plain rfl)) (.n (fun _ => op_call2 Tryd.call12 (.plain rfl) (.plain rfl) (Place_fc _ _)) (.n (fun _ => op_assign (.plain rfl)) (.nil _)))))))))) ?d5 ?_
                  · (try simp only [foldN, foldR, foldL, Int.toNat_natCast])
                    omega
                  · kernel_rfl
                  refine awp_seq ?_
                  refine awp_region rfl (.n (fun _ => op_move (.plain rfl)) (.n (fun _ => op_move (.plain rfl)) (.n (fun _ => op_lss (.plain rfl) (.plain rfl)) (.nil _)))) ?_
                  refine awp_cond rfl (fun h => ?_) (fun h => ?_)
                  · (try simp only [decide_eq_true_eq, decide_eq_false_iff_not, Bool.and_eq_true, Bool.or_eq_true, Bool.and_eq_false_iff, Bool.or_eq_false_iff, Bool.not_eq_true', Bool.not_eq_false', Bool.not_eq_true, Bool.not_eq_false, Bool.true_eq_false, Bool.false_eq_true] at h); (try simp only [foldN, foldR, foldL] at h)
                    refine awp_seq ?_
                    refine awp_region rfl (.n (fun _ => op_assign (.plain rfl)) (.nil _)) ?_
                    refine awp_ret ?_
                    refine retQ.ret ?_
                    refine ret1 rfl rfl rfl ?_
                    exact congrArg PV.i (rMayE_at hs2 hE (by omega) ((agE_f ⟨h1, h2, h3⟩).symm.trans (someE_at hE1 (by omega) (someB_6 hno (by omega)) (by omega)).symm) (by omega))
                  · (try simp only [decide_eq_true_eq, decide_eq_false_iff_not, Bool.and_eq_true, Bool.or_eq_true, Bool.and_eq_false_iff, Bool.or_eq_false_iff, Bool.not_eq_true', Bool.not_eq_false', Bool.not_eq_true, Bool.not_eq_false, Bool.true_eq_false, Bool.false_eq_true] at h); (try simp only [foldN, foldR, foldL] at h)
                    refine awp_skip ?_
                    refine awp_region rfl (.n (fun _ => op_move (.plain rfl)) (.n (fun _ => op_add (.plain rfl) (.plain rfl) ?_) (.n (fun _ => op_assign (.plain rfl)) (.nil _)))) ?_
                    · (try simp only [foldN, foldR, foldL, Int.toNat_natCast])
                      unfold InR; omega
                    exact ⟨q + 1, ⟨by omega, firstE_succ hE1 (someB_0 hno (by omega))⟩, by dsimp only; omega, (Ent.kept ⟨rfl, rfl, rfl, rfl, rfl, rfl, rfl, trivial⟩ ⟨rfl, rfl, trivial⟩)⟩
              · (try simp only [decide_eq_true_eq, decide_eq_false_iff_not, Bool.and_eq_true, Bool.or_eq_true, Bool.and_eq_false_iff, Bool.or_eq_false_iff, Bool.not_eq_true', Bool.not_eq_false', Bool.not_eq_true, Bool.not_eq_false, Bool.true_eq_false, Bool.false_eq_true] at h); (try simp only [foldN, foldR, foldL] at h)
                refine awp_exit ?_
                refine awp_region rfl (.n (fun _ => op_move (.plain rfl)) (.n (fun _ => op_fieldAddrR Tryd.underlying27 rfl rfl Tryd.sizeOf9 (.plain rfl)) (.r (op_loadR Tryd.isAgg9 (.plain rfl) rfl rfl) (.n (fun _ => op_slit (pp := [(0, _)]) (α := ByteArray) (d := ByteArray.empty) (f := (fun s => [.str s])) [_] ety49 rfl ⟨rfl, (.plain rfl), (by simp), trivial⟩ rfl (by decide) rfl) (.e (op_append (id' := 106) (α := ByteArray) (d := ByteArray.empty) (f := (fun s => [.str s])) ety49 Tryd.underlying49 (fun _ => rfl) (fun _ => rfl) (.plain rfl) rfl (.plain rfl) rfl ?_) rfl (.n (fun _ => op_assign (.plain rfl)) (.nil _))))))) ?_
                · (try simp only [foldN, foldR, foldL, Int.toNat_natCast])
                  first | omega | (simp; omega)
                refine awp_region rfl (.n (fun _ => op_move (.plain rfl)) (.n (fun _ => op_add (.plain rfl) (.plain rfl) ?_) (.n (fun _ => op_assign (.plain rfl)) (.nil _)))) ?_
                · (try simp only [foldN, foldR, foldL, Int.toNat_natCast])
                  unfold InR; omega
                exact ⟨i + 1, ⟨hs2, by omega, firstE_succ hE ((agE_f ⟨h1, h2, h3⟩).symm.trans (someE_ok hk1 hE1 (by omega)).symm)⟩, by dsimp only; omega, (Ent.round 106 1004 ⟨rfl, rfl, rfl, rfl, trivial⟩ ⟨(congrArg (fun l => some (Blk.arr 9 1 ByteArray ByteArray.empty (fun s => [.str s]) l)) ((namesF_succ (by omega)).symm)), trivial⟩ rfl rfl rfl ⟨rfl, rfl, rfl, rfl, trivial⟩ ⟨rfl, trivial⟩)⟩
    · (try simp only [decide_eq_true_eq, decide_eq_false_iff_not, Bool.and_eq_true, Bool.or_eq_true, Bool.and_eq_false_iff, Bool.or_eq_false_iff, Bool.not_eq_true', Bool.not_eq_false', Bool.not_eq_true, Bool.not_eq_false, Bool.true_eq_false, Bool.false_eq_true] at h); (try simp only [foldN, foldR, foldL] at h)
      refine awp_exit ?_
      refine awp_seq ?_
      refine awp_region rfl (.n (fun _ => op_assign (.plain rfl)) (.nil _)) ?_
      refine awp_ret ?_
      refine retQ.ret ?_
      refine ret1 rfl rfl rfl ?_
      exact congrArg PV.i (rMayE_ok hs2 hE (by omega))

set_option maxRecDepth 1000000 in
set_option maxHeartbeats 1000000 in
theorem Rank_fc (nm : ByteArray) (rm : Int) (lk : List Int) (x : Int) : FC Tryd.prog 11 [.agg [.str nm, .i rm, .ints lk], .i x] (.i (placeF lk x)) := by
  refine FC.intro Tryd.func11 rfl (Nat.le_of_ble_eq_true rfl) fun hfit => ?_
  have fit0 := hfit _ (.head _)
  have fit1 : -9223372036854775808 ≤ (x : Int) ∧ (x : Int) ≤ 9223372036854775807 := (hfit _ (.tail _ (.head _))).int64
  refine awp_seq ?_
  refine awp_region rfl (.n (fun _ => op_box (.plain rfl) (by simp)) (.n (fun _ => op_assign (.plain rfl)) (.nil _))) ?_
  refine awp_seq ?_
  refine awp_region rfl (.n (fun _ => op_fieldAddr Tryd.underlying27 rfl rfl Tryd.sizeOf25 (.plain rfl)) (.n (fun _ => op_load Tryd.isAgg25 (.plain rfl)) (.n (fun _ => op_move (.plain rfl)) (.n (fun _ => op_call2 Tryd.call23 (.plain rfl) (.plain rfl) (Index_fc _ _)) (.n (fun _ => op_assign (.plain rfl)) (.nil _)))))) ?_
  refine awp_ret ?_
  refine retQ.ret ?_
  refine ret1 rfl rfl rfl ?_
  rfl

set_option maxRecDepth 1000000 in
set_option maxHeartbeats 1000000 in
theorem In_fc (x : Int) (l : List Int) : FC Tryd.prog 33 [.i x, .ints l] (.bool (decide (0 ≤ placeF l x))) := by
  refine FC.intro Tryd.func33 rfl (Nat.le_of_ble_eq_true rfl) fun hfit => ?_
  have fit0 : -9223372036854775808 ≤ (x : Int) ∧ (x : Int) ≤ 9223372036854775807 := (hfit _ (.head _)).int64
  obtain ⟨fitl1, fitr1⟩ := (hfit _ (.tail _ (.head _))).ints
  refine awp_seq ?_
  refine awp_region rfl (.n (fun _ => op_assign (.plain rfl)) (.nil _)) ?_
  refine awp_seq ?_
  refine awp_region rfl (.n (fun _ => op_move (.plain rfl)) (.n (fun _ => op_move (.plain rfl)) (.n (fun _ => op_call2 Tryd.call12 (.plain rfl) (.plain rfl) (Place_fc _ _)) (.n (fun _ => op_geq (.plain rfl) (.plain rfl)) (.n (fun _ => op_assign (.plain rfl)) (.nil _)))))) ?_
  refine awp_ret ?_
  refine retQ.ret ?_
  refine ret1 rfl rfl rfl ?_
  rfl

end Go.Proofs.YtolmcapbpliaiaaDoor

