/- Sides that are made of raw numbers may be; how far from best. Conditions: each theorem names its own. -/
import Derived.Test.YtpapnkphlmickaaDoorProg
import Derived.Test.YtpapnkphlmickaaDoorFj
namespace Go.Proofs.YtpapnkphlmickaaDoor
open Go.Abs
set_option linter.unusedVariables false
set_option linter.unusedSimpArgs false


theorem nameL_ok : ∀ i : Nat, i < 6 → namedF (sL ++ byteS (48 + (i : Int))) = true ∧ namedF (sR ++ byteS (48 + (i : Int))) = true := by
  have h : (List.range 6).all (fun i => namedF (sL ++ byteS (48 + (i : Int))) && namedF (sR ++ byteS (48 + (i : Int)))) = true := by decide +kernel
  intro i hi
  have := List.all_eq_true.1 h i (List.mem_range.2 hi)
  simpa using this
theorem takeD {l : List Int} {j k : Nat} (h : k < j) : (l.take j).getD k 0 = l.getD k 0 := take_getD h
theorem some_take {n : Int} {l : List Int} (h : someE n l = 0) (j : Nat) : someE n (l.take j) = 0 := by
  refine firstE_all fun k hk => ?_
  rw [List.length_take] at hk
  have h1 := someE_zero h (show k < l.length by omega)
  unfold someB
  rw [takeD (show k < j by omega), if_neg (by omega), if_neg fun c => ?_]
  have h2 := placeF_le (l := l.take j) (k := k) (by rw [List.length_take]; omega)
  rw [takeD (show k < j by omega)] at h2
  have h3 := placeF_at h2.2
  obtain ⟨i, hi⟩ : ∃ i : Nat, placeF (l.take j) (l.getD k 0) = (i : Int) := ⟨_, (Int.toNat_of_nonneg h2.2).symm⟩
  rw [hi, Int.toNat_natCast, List.length_take] at h3
  rw [takeD (show i < j by omega)] at h3
  have h4 := placeF_le (l := l) (k := i) (by omega)
  rw [h3.2] at h4
  omega
theorem some_cut {n : Int} {l : List Int} (h : someE n l = 0) (a b : Int) : someE n (cutF l a b) = 0 := by
  unfold cutF; split
  · exact some_take h _
  · exact h
theorem some_perm (raw : List Int) (fr n : Nat) : someE n (permOf raw fr n) = 0 := by
  have := permOf_ord raw fr n
  unfold ordE at this
  rwa [if_neg (by simp)] at this
def nmA (ln i : Nat) : ByteArray := if i < ln then sL ++ byteS (48 + (i : Int)) else sR ++ byteS (48 + ((i - ln : Nat) : Int))
theorem names_diff : ∀ a b : Nat, a < 6 → b < 6 → (sL ++ byteS (48 + (a : Int)) = sL ++ byteS (48 + (b : Int)) → a = b) ∧ (sR ++ byteS (48 + (a : Int)) = sR ++ byteS (48 + (b : Int)) → a = b) ∧ ¬ sL ++ byteS (48 + (a : Int)) = sR ++ byteS (48 + (b : Int)) := by
  have h : (List.range 6).all (fun a => (List.range 6).all fun b => (decide (sL ++ byteS (48 + (a : Int)) = sL ++ byteS (48 + (b : Int)) → a = b) && decide (sR ++ byteS (48 + (a : Int)) = sR ++ byteS (48 + (b : Int)) → a = b)) && !decide (sL ++ byteS (48 + (a : Int)) = sR ++ byteS (48 + (b : Int)))) = true := by decide +kernel
  intro a b ha hb
  have h1 := List.all_eq_true.1 (List.all_eq_true.1 h a (List.mem_range.2 ha)) b (List.mem_range.2 hb)
  simp only [Bool.and_eq_true, decide_eq_true_eq, Bool.not_eq_true', decide_eq_false_iff_not] at h1
  exact ⟨h1.1.1, h1.1.2, h1.2⟩
theorem nmA_inj {ln rn i j : Nat} (h1 : ln ≤ 6) (h2 : rn ≤ 6) (hi : i < ln + rn) (hj : j < ln + rn) (e : nmA ln i = nmA ln j) : i = j := by
  unfold nmA at e
  split at e <;> split at e
  · exact (names_diff i j (by omega) (by omega)).1 e
  · exact absurd e (names_diff i (j - ln) (by omega) (by omega)).2.2
  · exact absurd e.symm (names_diff j (i - ln) (by omega) (by omega)).2.2
  · have := (names_diff (i - ln) (j - ln) (by omega) (by omega)).2.1 e; omega
section
variable {raw : List Int} {l r most : Int} {one : Bool}
theorem sidesL_len : (sidesL raw l r most).length = sideN l most := by unfold sidesL; simp
theorem sidesR_len : (sidesR raw l r most one).length = sideN r most := by unfold sidesR; simp
theorem sidesL_at {i : Nat} (h : i < sideN l most) : (sidesL raw l r most).getD i (ByteArray.empty, 0, [], ()) = leftA raw (sideN r most) i := mapr_getD _ h
theorem sidesR_at {i : Nat} (h : i < sideN r most) : (sidesR raw l r most one).getD i (ByteArray.empty, 0, [], ()) = rightA raw (sideN l most) (sideN r most) one i := mapr_getD _ h
theorem names_at {i : Nat} (h : i < sideN l most + sideN r most) : nmF (sidesL raw l r most ++ sidesR raw l r most one) i = nmA (sideN l most) i := by
  unfold nmF nmA
  split
  · rename_i h1
    rw [List.getD_eq_getElem?_getD, List.getElem?_append_left (by rw [sidesL_len]; exact h1), ← List.getD_eq_getElem?_getD, sidesL_at h1]; rfl
  · rename_i h1
    rw [List.getD_eq_getElem?_getD, List.getElem?_append_right (by rw [sidesL_len]; omega), ← List.getD_eq_getElem?_getD, sidesL_len, sidesR_at (by omega)]; rfl
theorem names_new (h1 : sideN l most ≤ 6) (h2 : sideN r most ≤ 6) {i : Nat} (h : i < sideN l most + sideN r most) : ¬ 0 ≤ txtF (namesF (sidesL raw l r most) (sidesR raw l r most one) i) (nmF (sidesL raw l r most ++ sidesR raw l r most one) i) := by
  have hl : (namesF (sidesL raw l r most) (sidesR raw l r most one) i).length = i := namesF_length (by rw [sidesL_len, sidesR_len]; omega)
  unfold txtF
  have : firstI (fun j => decide ((namesF (sidesL raw l r most) (sidesR raw l r most one) i).getD j ByteArray.empty = nmF (sidesL raw l r most ++ sidesR raw l r most one) i)) (namesF (sidesL raw l r most) (sidesR raw l r most one) i).length = none := firstI_of fun j hj => by
    rw [hl] at hj
    refine decide_eq_false fun e => ?_
    have e1 : (namesF (sidesL raw l r most) (sidesR raw l r most one) i).getD j ByteArray.empty = nmF (sidesL raw l r most ++ sidesR raw l r most one) j := by
      unfold namesF nmF
      have hj2 : j < (sidesL raw l r most ++ sidesR raw l r most one).length := by rw [List.length_append, sidesL_len, sidesR_len]; omega
      rw [List.getD_eq_getElem?_getD, List.getElem?_take, if_pos hj, List.getElem?_map, List.getD_eq_getElem?_getD, List.getElem?_eq_getElem hj2]
      rfl
    rw [e1, names_at (by omega), names_at h] at e
    have := nmA_inj h1 h2 (by omega) h e
    omega
  rw [this]
  simp
theorem all_at {i : Nat} (h : i < sideN l most + sideN r most) : (sidesL raw l r most ++ sidesR raw l r most one).getD i (ByteArray.empty, 0, [], ()) = if i < sideN l most then leftA raw (sideN r most) i else rightA raw (sideN l most) (sideN r most) one (i - sideN l most) := by
  split
  · rename_i h1
    rw [List.getD_eq_getElem?_getD, List.getElem?_append_left (by rw [sidesL_len]; exact h1), ← List.getD_eq_getElem?_getD, sidesL_at h1]
  · rename_i h1
    rw [List.getD_eq_getElem?_getD, List.getElem?_append_right (by rw [sidesL_len]; omega), ← List.getD_eq_getElem?_getD, sidesL_len, sidesR_at (by omega)]
theorem roomV_in {ln rn i : Nat} : 1 ≤ roomV raw ln rn one i ∧ roomV raw ln rn one i ≤ 2 := by
  have := pickF_range (atF raw (rK ln rn i + ln + 1)) 2 (by omega)
  unfold roomV; split <;> omega
/-- Sides that are made of raw numbers may be. -/
theorem sides_may (hm : 1 ≤ most ∧ most ≤ 6) : mMayE (sidesL raw l r most) (sidesR raw l r most one) = 0 := by
  have hL := sideN_in (x := l) hm
  have hR := sideN_in (x := r) hm
  have e : rMayE (sidesL raw l r most) (sidesR raw l r most one) = 0 := by
    unfold rMayE
    rw [if_neg (by rw [sidesL_len, sidesR_len]; omega)]
    refine firstE_all fun i hi => ?_
    rw [sidesL_len, sidesR_len] at hi
    have hat := all_at (raw := raw) (l := l) (r := r) (most := most) (one := one) hi
    have hnm : namedF (nmF (sidesL raw l r most ++ sidesR raw l r most one) i) = true := by
      rw [names_at hi]; unfold nmA; split
      · exact (nameL_ok i (by omega)).1
      · exact (nameL_ok (i - sideN l most) (by omega)).2
    have hrm : ¬ (rmF (sidesL raw l r most ++ sidesR raw l r most one) i < 1 ∨ 4 < rmF (sidesL raw l r most ++ sidesR raw l r most one) i) := by
      unfold rmF; rw [hat]; split
      · show ¬ ((1 : Int) < 1 ∨ 4 < (1 : Int)); omega
      · have := roomV_in (raw := raw) (one := one) (ln := sideN l most) (rn := sideN r most) (i := i - sideN l most)
        show ¬ (roomV raw (sideN l most) (sideN r most) one (i - sideN l most) < 1 ∨ 4 < roomV raw (sideN l most) (sideN r most) one (i - sideN l most)); omega
    unfold sideE
    rw [← agE_f ⟨by rw [hnm]; simp, names_new hL.2.2.1 hR.2.2.1 hi, hrm⟩]
    unfold lkF nF
    rw [hat, sidesL_len, sidesR_len]
    split
    · exact some_cut (some_perm _ _ _) _ _
    · exact some_cut (some_perm _ _ _) _ _
  rw [← mMayE_f e]
  refine firstE_all fun i hi => roomB_0 ?_
  rw [sidesL_len] at hi
  unfold rmF; rw [sidesL_at hi]; rfl
end
/-- How far from best: nobody is behind all. -/
def gapF (lk : List Int) (x : Int) : Int := if placeF lk x < 0 then (lk.length : Nat) else placeF lk x

set_option maxRecDepth 1000000 in
set_option maxHeartbeats 1000000 in
theorem same_fc (a b : List Int) : FC Tryd.prog 33 [.ints a, .ints b] (.bool (decide (a = b))) := by
  refine FC.intro Tryd.func33 rfl (Nat.le_of_ble_eq_true rfl) fun hfit => ?_
  obtain ⟨fitl0, fitr0⟩ := (hfit _ (.head _)).ints
  obtain ⟨fitl1, fitr1⟩ := (hfit _ (.tail _ (.head _))).ints
  refine awp_seq ?_
  refine awp_region rfl (.n (fun _ => op_assign (.plain rfl)) (.nil _)) ?_
  refine awp_seq ?_
  refine awp_seq ?_
  refine awp_region rfl (.n (fun _ => op_move (.plain rfl)) (.n (fun _ => op_len (s := 0) Tryd.underlying25 (.plain rfl)) (.n (fun _ => op_move (.plain rfl)) (.n (fun _ => op_len (s := 0) Tryd.underlying25 (.plain rfl)) (.n (fun _ => op_neq (.plain rfl) (.plain rfl)) (.nil _)))))) ?_
  refine awp_cond rfl (fun h => ?_) (fun h => ?_)
  · (try simp only [decide_eq_true_eq, decide_eq_false_iff_not, Bool.and_eq_true, Bool.or_eq_true, Bool.and_eq_false_iff, Bool.or_eq_false_iff, Bool.not_eq_true', Bool.not_eq_false', Bool.not_eq_true, Bool.not_eq_false, Bool.true_eq_false, Bool.false_eq_true] at h); (try simp only [foldN, foldR, foldL, Int.toNat_natCast] at h)
    refine awp_seq ?_
    refine awp_region rfl (.n (fun _ => op_assign (.plain rfl)) (.nil _)) ?_
    refine awp_ret ?_
    refine retQ.ret ?_
    refine ret1 rfl rfl rfl ?_
    rw [decide_eq_false (fun e => by subst e; simp at h)]
  · (try simp only [decide_eq_true_eq, decide_eq_false_iff_not, Bool.and_eq_true, Bool.or_eq_true, Bool.and_eq_false_iff, Bool.or_eq_false_iff, Bool.not_eq_true', Bool.not_eq_false', Bool.not_eq_true, Bool.not_eq_false, Bool.true_eq_false, Bool.false_eq_true] at h); (try simp only [foldN, foldR, foldL, Int.toNat_natCast] at h)
    refine awp_skip ?_
    refine awp_seq ?_
    refine awp_seq ?_
    refine awp_region rfl (.n (fun _ => op_assign (.plain rfl)) (.nil _)) ?_
    refine awp_block ?_
    refine awp_loop (σ := Nat) (fun (k : Nat) => k ≤ a.length ∧ ∀ j, j < k → a.getD j 0 = b.getD j 0) (fun (k : Nat) => ⟨[(5, .int (k : Nat)), (0, .pv (.ints a)), (1, .pv (.ints b))], []⟩) (fun (k : Nat) => a.length - k) 0 ?_ (Ent.kept ⟨rfl, rfl, rfl, trivial⟩ trivial) ?_
    · simp
    rintro k hp
    try dsimp only at hp
    obtain ⟨hk, hj⟩ := hp
    have hlen : a.length = b.length := by omega
    refine awp_seq ?_
    refine awp_seq ?_
    refine awp_region rfl (.n (fun _ => op_move (.plain rfl)) (.n (fun _ => op_move (.plain rfl)) (.n (fun _ => op_len (s := 0) Tryd.underlying25 (.plain rfl)) (.n (fun _ => op_lss (.plain rfl) (.plain rfl)) (.nil _))))) ?_
    refine awp_cond rfl (fun h => ?_) (fun h => ?_)
    · (try simp only [decide_eq_true_eq, decide_eq_false_iff_not, Bool.and_eq_true, Bool.or_eq_true, Bool.and_eq_false_iff, Bool.or_eq_false_iff, Bool.not_eq_true', Bool.not_eq_false', Bool.not_eq_true, Bool.not_eq_false, Bool.true_eq_false, Bool.false_eq_true] at h); (try simp only [foldN, foldR, foldL, Int.toNat_natCast] at h)
      refine awp_skip ?_
      refine awp_seq ?_
      refine awp_block ?_
      refine awp_seq ?_
      refine awp_region_draw mixed rfl (.n (fun _ => op_move (.plain rfl)) (.n (fun _ => op_move (.plain rfl)) (.n (fun _ => op_indexAddrN Tryd.underlying25 Tryd.sizeOf3 (.plain rfl) (.plain rfl) (fun _ => rfl) ?_) (.n (fun _ => op_load Tryd.isAgg3 (.plain rfl)) (.n (fun _ => op_move (.plain rfl)) (.n (fun _ => op_move (.plain rfl)) (.n (fun _ => op_indexAddrN Tryd.underlying25 Tryd.sizeOf3 (.plain rfl) (.plain rfl) (fun _ => rfl) ?_) (.n (fun _ => op_load Tryd.isAgg3 (.plain rfl)) (.n (fun _ => op_neq (.plain rfl) (.plain rfl)) (.nil _)))))))))) ?d1 ?_
      · (try simp only [foldN, foldR, foldL, Int.toNat_natCast])
        omega
      · (try simp only [foldN, foldR, foldL, Int.toNat_natCast])
        omega
      · kernel_rfl
      refine awp_cond rfl (fun h => ?_) (fun h => ?_)
      · (try simp only [decide_eq_true_eq, decide_eq_false_iff_not, Bool.and_eq_true, Bool.or_eq_true, Bool.and_eq_false_iff, Bool.or_eq_false_iff, Bool.not_eq_true', Bool.not_eq_false', Bool.not_eq_true, Bool.not_eq_false, Bool.true_eq_false, Bool.false_eq_true] at h); (try simp only [foldN, foldR, foldL, Int.toNat_natCast] at h)
        refine awp_seq ?_
        refine awp_region rfl (.n (fun _ => op_assign (.plain rfl)) (.nil _)) ?_
        refine awp_ret ?_
        refine retQ.ret ?_
        refine ret1 rfl rfl rfl ?_
        rw [decide_eq_false (fun e => by subst e; simp at h)]
      · (try simp only [decide_eq_true_eq, decide_eq_false_iff_not, Bool.and_eq_true, Bool.or_eq_true, Bool.and_eq_false_iff, Bool.or_eq_false_iff, Bool.not_eq_true', Bool.not_eq_false', Bool.not_eq_true, Bool.not_eq_false, Bool.true_eq_false, Bool.false_eq_true] at h); (try simp only [foldN, foldR, foldL, Int.toNat_natCast] at h)
        refine awp_skip ?_
        refine awp_region rfl (.n (fun _ => op_move (.plain rfl)) (.n (fun _ => op_add (.plain rfl) (.plain rfl) ?_) (.n (fun _ => op_assign (.plain rfl)) (.nil _)))) ?_
        · (try simp only [foldN, foldR, foldL, Int.toNat_natCast])
          unfold InR; omega
        refine ⟨k + 1, ⟨by omega, fun j hjk => ?_⟩, by dsimp only; omega, Ent.kept ⟨rfl, rfl, rfl, trivial⟩ trivial⟩
        by_cases e : j = k
        · subst e; simpa using h
        · exact hj j (by omega)
    · (try simp only [decide_eq_true_eq, decide_eq_false_iff_not, Bool.and_eq_true, Bool.or_eq_true, Bool.and_eq_false_iff, Bool.or_eq_false_iff, Bool.not_eq_true', Bool.not_eq_false', Bool.not_eq_true, Bool.not_eq_false, Bool.true_eq_false, Bool.false_eq_true] at h); (try simp only [foldN, foldR, foldL, Int.toNat_natCast] at h)
      refine awp_exit ?_
      refine awp_seq ?_
      refine awp_region rfl (.n (fun _ => op_assign (.plain rfl)) (.nil _)) ?_
      refine awp_ret ?_
      refine retQ.ret ?_
      refine ret1 rfl rfl rfl ?_
      rw [decide_eq_true (List.ext_getElem hlen fun j h1 h2 => by have := hj j (by omega); simpa [List.getD_eq_getElem?_getD, h1, h2] using this)]

set_option maxRecDepth 1000000 in
set_option maxHeartbeats 1000000 in
theorem gap_fc (nm : ByteArray) (rm : Int) (lk : List Int) (x : Int) : FC Tryd.prog 30 [.agg [.str nm, .i rm, .ints lk], .i x] (.i (gapF lk x)) := by
  refine FC.intro Tryd.func30 rfl (Nat.le_of_ble_eq_true rfl) fun hfit => ?_
  have fit0 := hfit _ (.head _)
  have fit1 : -9223372036854775808 ≤ (x : Int) ∧ (x : Int) ≤ 9223372036854775807 := (hfit _ (.tail _ (.head _))).int64
  refine awp_seq ?_
  refine awp_region rfl (.n (fun _ => op_box (.plain rfl) (by simp)) (.n (fun _ => op_assign (.plain rfl)) (.nil _))) ?_
  refine awp_seq ?_
  refine awp_region rfl (.n (fun _ => op_fieldAddr Tryd.underlying48 rfl rfl Tryd.sizeOf25 (.plain rfl)) (.n (fun _ => op_load Tryd.isAgg25 (.plain rfl)) (.n (fun _ => op_move (.plain rfl)) (.n (fun _ => op_call2 Tryd.call29 (.plain rfl) (.plain rfl) (Place_fc _ _)) (.n (fun _ => op_assign (.plain rfl)) (.nil _)))))) ?_
  refine awp_seq ?_
  refine awp_seq ?_
  refine awp_region rfl (.n (fun _ => op_move (.plain rfl)) (.n (fun _ => op_lss (.plain rfl) (.plain rfl)) (.nil _))) ?_
  refine awp_cond rfl (fun h => ?_) (fun h => ?_)
  · (try simp only [decide_eq_true_eq, decide_eq_false_iff_not, Bool.and_eq_true, Bool.or_eq_true, Bool.and_eq_false_iff, Bool.or_eq_false_iff, Bool.not_eq_true', Bool.not_eq_false', Bool.not_eq_true, Bool.not_eq_false, Bool.true_eq_false, Bool.false_eq_true] at h); (try simp only [foldN, foldR, foldL, Int.toNat_natCast] at h)
    refine awp_seq ?_
    refine awp_region rfl (.n (fun _ => op_fieldAddr Tryd.underlying48 rfl rfl Tryd.sizeOf25 (.plain rfl)) (.n (fun _ => op_load Tryd.isAgg25 (.plain rfl)) (.n (fun _ => op_len (s := 0) Tryd.underlying25 (.plain rfl)) (.n (fun _ => op_assign (.plain rfl)) (.nil _))))) ?_
    refine awp_ret ?_
    refine retQ.ret ?_
    refine ret1 rfl rfl rfl ?_
    unfold gapF; rw [if_pos h]
  · (try simp only [decide_eq_true_eq, decide_eq_false_iff_not, Bool.and_eq_true, Bool.or_eq_true, Bool.and_eq_false_iff, Bool.or_eq_false_iff, Bool.not_eq_true', Bool.not_eq_false', Bool.not_eq_true, Bool.not_eq_false, Bool.true_eq_false, Bool.false_eq_true] at h); (try simp only [foldN, foldR, foldL, Int.toNat_natCast] at h)
    refine awp_skip ?_
    refine awp_seq ?_
    refine awp_region rfl (.n (fun _ => op_move (.plain rfl)) (.n (fun _ => op_assign (.plain rfl)) (.nil _))) ?_
    refine awp_ret ?_
    refine retQ.ret ?_
    refine ret1 rfl rfl rfl ?_
    unfold gapF; rw [if_neg h]

end Go.Proofs.YtpapnkphlmickaaDoor

