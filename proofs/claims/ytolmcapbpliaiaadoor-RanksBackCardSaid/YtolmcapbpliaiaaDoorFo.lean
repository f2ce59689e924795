/- The law RanksBack, walked. Conditions: each theorem names its own. -/
import Derived.Test.YtolmcapbpliaiaaDoorProg
import Derived.Test.YtolmcapbpliaiaaDoorFn
namespace Go.Proofs.YtolmcapbpliaiaaDoor
open Go.Abs
set_option linter.unusedVariables false
set_option linter.unusedSimpArgs false

set_option linter.unusedVariables false

/-! ### All agents, the left ones first -/
theorem al_len (L R : List Ag) : (alL L R).length = L.length + R.length := by simp [alL]
theorem al_names (L R : List Ag) : (alL L R).map (fun x => x.2.1) = (L ++ R).map (fun a => a.1) := by simp [alL, Function.comp_def]
theorem POk.ag {L R : List Ag} (h : POk L R) {k : Nat} (hk : k < 2) {j : Nat} (hj : j < (sdF L R k).length) : AgOk (otF L R k) ((sdF L R k)[j]) := by
  have e := getD_eq hj (ByteArray.empty, 0, [], ())
  have h1 := h.nm k hk j hj
  have h2 := h.rm k hk j hj
  have h3 := h.lk k hk j hj
  unfold nmF at h1
  unfold rmF at h2
  unfold lkF at h3
  rw [e] at h1 h2 h3
  refine ⟨h1, h2, fun q hq => ⟨(h3 q hq).1, (h3 q hq).2.1⟩, fun q hq => (h3 q hq).2.2, fun i hi => ?_⟩
  rw [ot_sd hk] at hi ⊢
  exact h.nm (1 - k) (by omega) i hi
theorem al_ok {L R : List Ag} (h : POk L R) : ∀ x, x ∈ alL L R → AgOk (othr L R x.1) x.2 := by
  intro x hx
  unfold alL at hx
  rcases List.mem_append.1 hx with hx | hx
  · obtain ⟨a, ha, rfl⟩ := List.mem_map.1 hx
    obtain ⟨j, hj, rfl⟩ := List.getElem_of_mem ha
    exact h.ag (k := 0) (by omega) hj
  · obtain ⟨a, ha, rfl⟩ := List.mem_map.1 hx
    obtain ⟨j, hj, rfl⟩ := List.getElem_of_mem ha
    exact h.ag (k := 1) (by omega) hj
theorem txt_mem {l : List ByteArray} {s : ByteArray} (h : s ∈ l) : 0 ≤ txtF l s := by
  obtain ⟨i, hi, e⟩ := List.getElem_of_mem h
  unfold txtF
  cases e2 : firstI (fun i => decide (l.getD i ByteArray.empty = s)) l.length with
  | some k => simp only; omega
  | none =>
    have := of_decide_eq_false (firstI_none e2 i hi)
    rw [getD_eq hi] at this
    exact absurd e this
theorem al_nodup {L R : List Ag} (h : POk L R) : ((L ++ R).map (fun a => a.1)).Nodup := by
  refine List.pairwise_iff_getElem.2 fun i j hi hj hij e => ?_
  rw [List.length_map] at hj
  have hjl : j < L.length + R.length := by simpa using hj
  obtain ⟨k, jj, hk, hjj, hb⟩ : ∃ k jj, k < 2 ∧ jj < (sdF L R k).length ∧ bsF L R k + jj = j := by
    rcases Nat.lt_or_ge j L.length with c | c
    · exact ⟨0, j, by omega, c, by simp [bsF]⟩
    · exact ⟨1, j - L.length, by omega, by show j - L.length < R.length; omega, by simp [bsF]; omega⟩
  have hu := h.un k hk jj hjj
  rw [hb] at hu
  refine hu (txt_mem ?_)
  have e2 : nmF (sdF L R k) jj = ((L ++ R).map (fun a => a.1))[j]'(by simpa using hj) := by
    have := (sd_at hk hjj).1
    rw [hb] at this
    unfold nmF
    rw [← this, getD_eq (by simpa using hj), List.getElem_map]
  rw [e2, ← e]
  unfold namesF
  exact List.mem_take_iff_getElem.2 ⟨i, by simp; simp at hi; omega, rfl⟩
theorem txt_nd {l : List ByteArray} (hn : l.Nodup) {i : Nat} (hi : i < l.length) : txtF l (l.getD i ByteArray.empty) = i := by
  refine txt_hit hi rfl fun j hj e => ?_
  rw [getD_eq hi, getD_eq (by omega)] at e
  exact List.pairwise_iff_getElem.1 hn j i (by omega) hi hj e

/-! ### Lines and agents -/
/-- The lines are those of A. -/
structure Tell (A : List (Bool × Ag)) (all : List Ln) : Prop where
  len : all.length = A.length
  l : ∀ i (h : i < A.length), lnL all i = A[i].1
  n : ∀ i (h : i < A.length), lnN all i = A[i].2.1
theorem filt_succ {α : Type} {p : α → Bool} {A : List α} {j : Nat} (hj : j < A.length) : (A.take (j + 1)).filter p = if p A[j] = true then (A.take j).filter p ++ [A[j]] else (A.take j).filter p := by
  rw [List.take_add_one, List.getElem?_eq_getElem hj, List.filter_append]
  simp only [Option.toList_some, List.filter_cons, List.filter_nil]
  split <;> simp
theorem Tell.cnt {A : List (Bool × Ag)} {all : List Ln} (h : Tell A all) (b : Bool) : ∀ j, j ≤ A.length → cntL all b j = (((A.take j).filter fun x => x.1 == b).length : Nat)
  | 0, _ => by simp [cntL]
  | j + 1, hj => by
    have ih := h.cnt b j (by omega)
    rw [filt_succ (show j < A.length by omega)]
    unfold cntL
    rw [h.l j (by omega), ih]
    split <;> simp
theorem Tell.nms {A : List (Bool × Ag)} {all : List Ln} (h : Tell A all) (b : Bool) : ∀ j, j ≤ A.length → nmS all b j = ((A.take j).filter fun x => x.1 == b).map fun x => x.2.1
  | 0, _ => by simp [nmS]
  | j + 1, hj => by
    have ih := h.nms b j (by omega)
    rw [filt_succ (show j < A.length by omega)]
    unfold nmS
    rw [h.l j (by omega), ih, h.n j (by omega)]
    by_cases c : A[j].1 = b
    · rw [if_pos c, if_pos (by simpa using c), List.map_append]; rfl
    · rw [if_neg c, if_neg (by simpa using c)]
theorem Tell.sds {A : List (Bool × Ag)} {all : List Ln} (h : Tell A all) (ha : ∀ i (hi : i < A.length), agP all i = A[i].2) (b : Bool) : ∀ j, j ≤ A.length → sdP all b j = ((A.take j).filter fun x => x.1 == b).map fun x => x.2
  | 0, _ => by simp [sdP]
  | j + 1, hj => by
    have ih := h.sds ha b j (by omega)
    rw [filt_succ (show j < A.length by omega)]
    unfold sdP
    rw [h.l j (by omega), ih, ha j (by omega)]
    by_cases c : A[j].1 = b
    · rw [if_pos c, if_pos (by simpa using c), List.map_append]; rfl
    · rw [if_neg c, if_neg (by simpa using c)]
theorem filt_t {α : Type} (l : List α) : l.filter (fun _ => true) = l := by
  induction l with
  | nil => rfl
  | cons a l ih => rw [List.filter_cons, if_pos rfl, ih]
theorem filt_f {α : Type} (l : List α) : l.filter (fun _ => false) = [] := by
  induction l with
  | nil => rfl
  | cons a l ih => rw [List.filter_cons, if_neg (by decide), ih]
theorem filt_al (L R : List Ag) (b : Bool) : ((alL L R).filter fun x => x.1 == b) = if b = true then L.map (fun a => (true, a)) else R.map (fun a => (false, a)) := by
  unfold alL
  rw [List.filter_append, List.filter_map, List.filter_map]
  cases b <;> simp [Function.comp_def, filt_t, filt_f]
def lnA (L R : List Ag) (A : List (Bool × Ag)) : List Ln := A.map fun x => lnOf x.1 (othr L R x.1) x.2
theorem lnA_at (L R : List Ag) (A : List (Bool × Ag)) {i : Nat} (hi : i < A.length) : (lnA L R A).getD i (false, ByteArray.empty, 0, [], []) = lnOf A[i].1 (othr L R A[i].1) A[i].2 := by
  unfold lnA
  rw [getD_eq (by simpa using hi), List.getElem_map]
theorem lnA_tell (L R : List Ag) (A : List (Bool × Ag)) : Tell A (lnA L R A) := by
  refine ⟨by simp [lnA], fun i hi => ?_, fun i hi => ?_⟩
  · unfold lnL; rw [lnA_at L R A hi]; rfl
  · unfold lnN; rw [lnA_at L R A hi]; rfl
theorem cut_print {L R : List Ag} (h : POk L R) : cutL (printS L R) = (alL L R).map (fun x => bs (lineB x.1 (othr L R x.1) x.2)) ++ [⟨#[]⟩] := by
  unfold cutL
  have e := print_bytes L R
  have e2 : ((alL L R).flatMap fun x => lineB x.1 (othr L R x.1) x.2 ++ [10]) = ((alL L R).map fun x => lineB x.1 (othr L R x.1) x.2).flatMap fun l => l ++ [10] := by rw [List.flatMap_map]
  rw [show (printS L R).data.toList = _ from e, e2, cutB_lines _ fun l hl => ?_]
  · simp [List.map_map, Function.comp_def]
  · obtain ⟨x, hx, rfl⟩ := List.mem_map.1 hl
    exact (al_ok h x hx).line10 x.1
theorem line_at {L R : List Ag} (h : POk L R) {i : Nat} (hi : i < (alL L R).length) : wordsL (lnE (cutL (printS L R)) i) = wsO (alL L R)[i].1 (othr L R (alL L R)[i].1) (alL L R)[i].2 := by
  have e : lnE (cutL (printS L R)) i = bs (lineB (alL L R)[i].1 (othr L R (alL L R)[i].1) (alL L R)[i].2) := by
    unfold lnE
    rw [cut_print h, List.getD_eq_getElem?_getD, List.getElem?_append_left (by simpa using hi), List.getElem?_map, List.getElem?_eq_getElem hi]
    rfl
  rw [e]
  exact (al_ok h _ (List.getElem_mem hi)).wordsL _
theorem line_end {L R : List Ag} (h : POk L R) : wordsL (lnE (cutL (printS L R)) (alL L R).length) = [] := by
  have e : lnE (cutL (printS L R)) (alL L R).length = ⟨#[]⟩ := by
    unfold lnE
    rw [cut_print h, List.getD_eq_getElem?_getD, List.getElem?_append_right (by simp)]
    simp
  rw [e]; rfl
theorem skip_ws (b : Bool) (O : List Ag) (a : Ag) : ¬ skipB (wsO b O a) = true := by
  have h1 : (((wsO b O a).length : Nat) : Int) ≠ 0 := by simp [wsO]; omega
  have h2 : byteAt ((wsO b O a).getD 0 ByteArray.empty) 0 ≠ 35 := by
    show byteAt (if b = true then sLeft else sRight) 0 ≠ 35
    cases b <;> decide
  unfold skipB
  simp only [Bool.or_eq_true, decide_eq_true_eq]
  intro h
  rcases h with h | h
  · exact h1 h
  · exact h2 h
theorem acc_ln {L R : List Ag} (h : POk L R) : ∀ i, i ≤ (alL L R).length → accP (cutL (printS L R)) i = lnA L R ((alL L R).take i) ∧ firstE (errP (cutL (printS L R))) i = 0
  | 0, _ => ⟨rfl, rfl⟩
  | i + 1, hi => by
    have hi' : i < (alL L R).length := by omega
    obtain ⟨ih1, ih2⟩ := acc_ln h i (by omega)
    have hok := al_ok h _ (List.getElem_mem hi')
    have hw := line_at h hi'
    have ht := lnA_tell L R ((alL L R).take i)
    have hlen : (lnA L R ((alL L R).take i)).length = i := by rw [ht.len, List.length_take]; omega
    have hnd := al_nodup h
    have hdi : ∀ q, q < (lnA L R ((alL L R).take i)).length → lnN (lnA L R ((alL L R).take i)) q ≠ (alL L R)[i].2.1 := fun q hq e => by
      rw [hlen] at hq
      rw [ht.n q (by rw [List.length_take]; omega), List.getElem_take] at e
      rw [← al_names] at hnd
      have := List.pairwise_iff_getElem.1 hnd q i (by simp; omega) (by simpa using hi') hq
      simp only [List.getElem_map] at this
      exact this e
    have hcn : cntL (lnA L R ((alL L R).take i)) (alL L R)[i].1 (lnA L R ((alL L R).take i)).length ≠ 6 := by
      rw [ht.cnt _ _ (by rw [ht.len]; exact Nat.le_refl _), ht.len, List.take_length]
      have h1 := filt_succ (p := fun x : Bool × Ag => x.1 == (alL L R)[i].1) hi'
      rw [if_pos (by simp)] at h1
      have h2 : (((alL L R).take (i + 1)).filter fun x => x.1 == (alL L R)[i].1).length ≤ ((alL L R).filter fun x => x.1 == (alL L R)[i].1).length := (List.Sublist.filter _ (List.take_sublist _ _)).length_le
      rw [h1, List.length_append, filt_al] at h2
      have h3 := h.small
      simp only [List.length_singleton] at h2
      split at h2 <;> (rw [List.length_map] at h2; omega)
    have hr := hok.read (alL L R)[i].1 hdi hcn
    have hsk := skip_ws (alL L R)[i].1 (othr L R (alL L R)[i].1) (alL L R)[i].2
    rw [← hw] at hr hsk
    refine ⟨?_, firstE_succ ih2 ?_⟩
    · unfold accP
      rw [if_neg hsk, ih1, hr.2]
      unfold lnA
      rw [take_getD_succ hi' (false, (ByteArray.empty, 0, [], ())), List.map_append, getD_eq hi']
      rfl
    · unfold errP
      rw [if_neg hsk, ih1]
      exact hr.1
theorem cut_len {L R : List Ag} (h : POk L R) : (cutL (printS L R)).length = (alL L R).length + 1 := by
  rw [cut_print h]; simp
theorem all_print {L R : List Ag} (h : POk L R) : allP (printS L R) = lnA L R (alL L R) ∧ firstE (errP (cutL (printS L R))) (cutL (printS L R)).length = 0 := by
  obtain ⟨h1, h2⟩ := acc_ln h _ (Nat.le_refl _)
  rw [List.take_length] at h1
  have hs : skipB (wordsL (lnE (cutL (printS L R)) (alL L R).length)) = true := by rw [line_end h]; rfl
  unfold allP
  rw [cut_len h]
  refine ⟨?_, firstE_succ h2 (if_pos hs)⟩
  unfold accP
  rw [if_pos hs, h1]

/-! ### Whom they like -/
theorem nms_al {L R : List Ag} (b : Bool) : nmS (lnA L R (alL L R)) (!b) (alL L R).length = (othr L R b).map fun a => a.1 := by
  rw [(lnA_tell L R (alL L R)).nms (!b) _ (Nat.le_refl _), List.take_length, filt_al]
  cases b <;> simp [othr, Function.comp_def]
theorem oth_nd {L R : List Ag} (h : POk L R) (b : Bool) : ((othr L R b).map fun a => a.1).Nodup := by
  have := al_nodup h
  rw [List.map_append, List.nodup_append] at this
  cases b
  · exact this.1
  · exact this.2.1
theorem dist_al {L R : List Ag} (h : POk L R) : Dist (lnA L R (alL L R)) := by
  intro i j hij hj
  have ht := lnA_tell L R (alL L R)
  rw [ht.len] at hj
  rw [ht.n i (by omega), ht.n j hj]
  have hnd := al_nodup h
  rw [← al_names] at hnd
  have := List.pairwise_iff_getElem.1 hnd i j (by simp; omega) (by simpa using hj) hij
  simpa only [List.getElem_map] using this
theorem likes_al {L R : List Ag} {j : Nat} (hj : j < (alL L R).length) : lnK (lnA L R (alL L R)) j = (alL L R)[j].2.2.2.1.map (fun q => nmF (othr L R (alL L R)[j].1) q.toNat) ∧ lnL (lnA L R (alL L R)) j = (alL L R)[j].1 := by
  refine ⟨?_, (lnA_tell L R (alL L R)).l j hj⟩
  unfold lnK
  rw [lnA_at L R _ hj]
  rfl
section
variable {L R : List Ag} (h : POk L R) {j : Nat} (hj : j < (alL L R).length)
include h hj
theorem fdN_al {q : Nat} (hq : q < (alL L R)[j].2.2.2.1.length) : fdN (lnA L R (alL L R)) (alL L R)[j].1 (lnK (lnA L R (alL L R)) j) q = (alL L R)[j].2.2.2.1.getD q 0 := by
  have hok := al_ok h _ (List.getElem_mem hj)
  have hl := hok.lk q hq
  have hk := (likes_al hj).1
  have e : (lnK (lnA L R (alL L R)) j).getD q ByteArray.empty = nmF (othr L R (alL L R)[j].1) ((alL L R)[j].2.2.2.1.getD q 0).toNat := by
    rw [hk, getD_eq (by simpa using hq), getD_eq hq, List.getElem_map]
  have hi : ((alL L R)[j].2.2.2.1.getD q 0).toNat < (othr L R (alL L R)[j].1).length := by omega
  have e2 : nmF (othr L R (alL L R)[j].1) ((alL L R)[j].2.2.2.1.getD q 0).toNat = ((othr L R (alL L R)[j].1).map fun a => a.1).getD ((alL L R)[j].2.2.2.1.getD q 0).toNat ByteArray.empty := by
    generalize ((alL L R)[j].2.2.2.1.getD q 0).toNat = m at hi ⊢
    unfold nmF
    rw [getD_eq hi, getD_eq (by simpa using hi), List.getElem_map]
  unfold fdN
  rw [e, fnd_txt (dist_al h) _ _ _ (Nat.le_refl _), (lnA_tell L R (alL L R)).len, nms_al, e2, txt_nd (oth_nd h _) (by simpa using hi)]
  omega
theorem lkOut_al {q : Nat} (hq : q ≤ (alL L R)[j].2.2.2.1.length) : lkOut (lnA L R (alL L R)) (alL L R)[j].1 (lnK (lnA L R (alL L R)) j) q = (alL L R)[j].2.2.2.1.take q := by
  unfold lkOut
  rw [mapr_same (g := fun i => (alL L R)[j].2.2.2.1.getD i 0) fun i hi => fdN_al h hj (by omega)]
  refine List.ext_getElem (by simp; omega) fun i h1 h2 => ?_
  simp only [mapr_length] at h1
  rw [List.getElem_take]
  have := mapr_getD (n := q) (f := fun i => (alL L R)[j].2.2.2.1.getD i 0) 0 h1
  rw [getD_eq (by simpa using h1)] at this
  rw [this, getD_eq (by omega)]
theorem lkP_al : lkP (lnA L R (alL L R)) j = 0 := by
  have hok := al_ok h _ (List.getElem_mem hj)
  have hk := likes_al hj
  have hlen : (lnK (lnA L R (alL L R)) j).length = (alL L R)[j].2.2.2.1.length := by rw [hk.1, List.length_map]
  unfold lkP
  rw [hk.2]
  refine firstE_zero' fun q hq => ?_
  rw [hlen] at hq
  have hf := fdN_al h hj hq
  have hl := hok.lk q hq
  unfold likE
  rw [hf, if_neg (by omega), lkOut_al h hj (by omega), if_neg ?_]
  intro c
  exact hok.pl q hq ((place_take hq).1 c)
theorem agP_al : agP (lnA L R (alL L R)) j = (alL L R)[j].2 := by
  have hk := likes_al hj
  have hlen : (lnK (lnA L R (alL L R)) j).length = (alL L R)[j].2.2.2.1.length := by rw [hk.1, List.length_map]
  unfold agP
  rw [hk.2, hlen, lkOut_al h hj (Nat.le_refl _), List.take_length]
  have h1 : lnN (lnA L R (alL L R)) j = (alL L R)[j].2.1 := (lnA_tell L R (alL L R)).n j hj
  have h2 : lnR (lnA L R (alL L R)) j = (alL L R)[j].2.2.1 := by unfold lnR; rw [lnA_at L R _ hj]; rfl
  rw [h1, h2]
end
theorem parse_print {L R : List Ag} (h : POk L R) : parseE (printS L R) = 0 ∧ parseL (printS L R) = L ∧ parseR (printS L R) = R := by
  obtain ⟨ha, he⟩ := all_print h
  have ht := lnA_tell L R (alL L R)
  have hs := fun b => ht.sds (fun i hi => agP_al h hi) b (alL L R).length (Nat.le_refl _)
  refine ⟨parseE_0 he ?_, ?_, ?_⟩
  · rw [ha, ht.len]
    exact firstE_zero' fun j hj => lkP_al h hj
  · unfold parseL
    rw [ha, ht.len, hs true, List.take_length, filt_al]
    simp [Function.comp_def]
  · unfold parseR
    rw [ha, ht.len, hs false, List.take_length, filt_al]
    simp [Function.comp_def]
theorem print_size {L R : List Ag} (h : POk L R) : L.length + R.length ≤ (printS L R).size ∧ (printS L R).size ≤ 1212 := by
  refine ⟨?_, acc_size h 2 (by omega)⟩
  have e := congrArg List.length (print_bytes L R)
  rw [bL_len] at e
  rw [e, ← al_len]
  have : ∀ A : List (Bool × Ag), A.length ≤ (A.flatMap fun x => lineB x.1 (othr L R x.1) x.2 ++ [10]).length := fun A => by
    induction A with
    | nil => simp
    | cons x A ih =>
      rw [List.flatMap_cons, List.length_append, List.length_append, List.length_cons]
      simp only [List.length_singleton]
      omega
  exact this _
theorem print_words {L R : List Ag} (h : POk L R) : ∀ l, l ∈ cutL (printS L R) → ∀ x, x ∈ wordsL l → x.size ≤ 18 := by
  intro l hl x hx
  rw [cut_print h] at hl
  rcases List.mem_append.1 hl with hl | hl
  · obtain ⟨y, hy, rfl⟩ := List.mem_map.1 hl
    have hok := al_ok h y hy
    rw [hok.wordsL y.1] at hx
    unfold wsO at hx
    simp only [List.mem_cons, List.mem_append, List.mem_map] at hx
    rcases hx with rfl | rfl | hx | rfl | ⟨q, hq, rfl⟩
    · cases y.1 <;> decide
    · have := (named_size hok.nm).2; omega
    · split at hx
      · simp at hx
      · simp only [List.mem_singleton] at hx
        subst hx
        show 1 ≤ 18
        omega
    · decide
    · obtain ⟨i, hi, rfl⟩ := List.getElem_of_mem hq
      have := hok.lk i hi
      rw [getD_eq hi] at this
      have := (named_size (hok.on _ (by omega : ((y.2.2.2.1)[i]).toNat < _))).2
      omega
  · simp only [List.mem_singleton] at hl
    subst hl
    have : wordsL ⟨#[]⟩ = [] := rfl
    rw [this] at hx
    simp at hx

/-- Parse of what Print gives. -/
theorem back_fx {L R : List Ag} (h0 : rMayE L R = 0) : FXH Tryd.prog [] 13 [.pv (.str (if rMayE L R = 0 then printS L R else ⟨#[]⟩))] [] (.ret (parseV 0 L R)) := by
  have hP := pok h0
  have hs := print_size hP
  obtain ⟨h1, h2, h3⟩ := parse_print hP
  have := parse_fx [] (printS L R) (by omega) (.inr (print_words hP))
  rw [h1, if_pos rfl, if_pos rfl, h2, h3] at this
  rw [if_pos h0]
  exact this
theorem FXH.fc {P : Program} {K : FuncId} {vals : List PV} {v : PV} (h : FXH P [] K (vals.map SV.pv) [] (.ret v)) : FC P K vals v := by
  intro w vs F hF hr
  have hno : ∀ (ι' : Nat → Value) (b : Nat), ¬ Owned ι' [] b := fun ι' b ⟨id, blk, hl, _⟩ => by simp at hl
  have hk : HeapOk (fun b => F b ∨ w.heap.size ≤ b) (fun _ => undef) [] w := ⟨fun id blk hl => by simp at hl, fun id id' blk blk' b hl => by simp at hl, fun b hb => absurd hb (hno _ b)⟩
  have := h (fun b => F b ∨ w.heap.size ≤ b) (fun _ => undef) w vs (fun g hg => by simp at hg) (fun b hb => .inr hb) hk (by simpa using hr.1) fun k h1 h2 => by
    rw [List.getElem_map]
    exact .pv _ _ ((hr.2 k h1 (by simpa using h2)).mono (fun _ _ => rfl) fun b hb => ⟨hF b hb, .inl hb, hno _ b⟩)
  refine Calls.mono (show Calls P K vs.toArray w _ from this) ?_
  rintro e w' ⟨ι', rv, rfl, hrv, _, hos, htape, hout, hsize, hkept, _⟩
  refine ⟨rv, rfl, ((show RepS _ _ _ rv (.pv v) from hrv).pv_inv).mono (fun _ _ => rfl) fun b hb => ?_, hos, htape, hout, hsize, fun b hb => hkept b hb (hno _ b)⟩
  rcases hb.2.1 with h1 | h1
  · exact .inl h1
  · exact .inr ⟨h1, hb.1⟩

set_option maxRecDepth 1000000 in
set_option maxHeartbeats 4000000 in
theorem RanksBack_fx (L R : List Ag) : FXH Tryd.prog [] 5 [.pv (.agg [.seq (ByteArray × Int × List Int × Unit) (ByteArray.empty, 0, [], ()) (fun p => [.str p.1, .i p.2.1, .ints p.2.2.1]) L, .seq (ByteArray × Int × List Int × Unit) (ByteArray.empty, 0, [], ()) (fun p => [.str p.1, .i p.2.1, .ints p.2.2.1]) R])] [] (.ret (.bool true)) := by
  refine FXH.intro Tryd.func5 rfl (Nat.le_of_ble_eq_true rfl) (Nat.le_of_ble_eq_true rfl) fun hfit ι0 => ?_
  change awp _ _ _ _ ⟨[(0, .pv (.agg [.seq (ByteArray × Int × List Int × Unit) (ByteArray.empty, 0, [], ()) (fun p => [.str p.1, .i p.2.1, .ints p.2.2.1]) L, .seq (ByteArray × Int × List Int × Unit) (ByteArray.empty, 0, [], ()) (fun p => [.str p.1, .i p.2.1, .ints p.2.2.1]) R]))], []⟩
  have fit0 := hfit _ (.head _)
  have hfl : L.length ≤ 281474976710656 := by cases fit0 with | agg _ h => exact (h 0 (by simp)).len
  have hfr : R.length ≤ 281474976710656 := by cases fit0 with | agg _ h => exact (h 1 (by simp)).len
  refine awp_seq ?_
  refine awp_region rfl (.n (fun _ => op_box (.plain rfl) (by simp)) (.n (fun _ => op_assign (.plain rfl)) (.nil _))) ?_
  refine awp_seq ?_
  refine awp_seq ?_
  refine awp_region rfl (.n (fun _ => op_load_agg Tryd.isAgg24 Tryd.sizeOf24 (.plain rfl) (Nat.le_of_ble_eq_true rfl)) (.n (fun _ => op_call1 Tryd.call6 (.plain rfl) (heavyPairing_fc _ _)) (.nil _))) ?_
  refine awp_cond rfl (fun h => ?_) (fun h => ?_)
  · skip
    refine awp_seq ?_
    refine awp_region rfl (.n (fun _ => op_assign (.plain rfl)) (.nil _)) ?_
    refine awp_ret ?_
    refine retX.ret ?_
    refine retX1 rfl rfl trivial trivial ?_
    rfl
  · skip
    refine awp_skip ?_
    refine awp_seq ?_
    refine awp_region rfl (.n (fun _ => op_load_agg Tryd.isAgg24 Tryd.sizeOf24 (.plain rfl) (Nat.le_of_ble_eq_true rfl)) (.n (fun _ => op_call1 Tryd.call7 (.plain rfl) (Print_fc _ _)) (.n (fun _ => op_move (.plain rfl)) (.n (fun _ => op_extract (.plain rfl) rfl) (.n (fun _ => op_extract (.plain rfl) rfl) (.n (fun _ => op_assign (.plain rfl)) (.n (fun _ => op_assign (.plain rfl)) (.nil _)))))))) ?_
    refine awp_seq ?_
    refine awp_seq ?_
    refine awp_region rfl (.n (fun _ => op_move (.plain rfl)) (.n (fun _ => op_neq (.plain rfl) (.plain rfl)) (.nil _))) ?_
    refine awp_cond rfl (fun h => ?_) (fun h => ?_)
    · skip
      have h15 : ¬ rMayE L R = 0 := by simpa using h
      refine awp_seq ?_
      refine awp_region rfl (.n (fun _ => op_load_agg Tryd.isAgg24 Tryd.sizeOf24 (.plain rfl) (Nat.le_of_ble_eq_true rfl)) (.n (fun _ => op_call1 Tryd.call10 (.plain rfl) (RanksMay_fc _ _)) (.n (fun _ => op_neq (.plain rfl) (.plain rfl)) (.n (fun _ => op_assign (.plain rfl)) (.nil _))))) ?_
      refine awp_ret ?_
      refine retX.ret ?_
      refine retX1 rfl rfl trivial trivial ?_
      simp [h15]
    · skip
      have h0 : rMayE L R = 0 := by simpa using h
      have hP := pok h0
      have hsm := hP.small
      have hz : L.length + R.length ≤ (if rMayE L R = 0 then printS L R else ⟨#[]⟩ : ByteArray).size := by rw [if_pos h0]; exact (print_size hP).1
      refine awp_skip ?_
      refine awp_seq ?_
      refine awp_callX (l1 := [_]) (l2 := [_, _, _, _, _, _]) (fun k => [].getD k 0) rfl (.n (fun _ => op_move (.plain rfl)) (.nil _)) Tryd.call13 (back_fx h0) ⟨(.plain rfl), trivial⟩ trivial (by kernel_rfl) (fun v hv => ?hret21) (fun u hu => ?hdie21)
      case hdie21 =>
        cases hu
      case hret21 =>
        obtain rfl := Out.ret.inj hv
        refine ⟨_, _, (.n (fun _ => op_move (.plain rfl)) (.n (fun _ => op_extract (.plain rfl) rfl) (.n (fun _ => op_extract (.plain rfl) rfl) (.e (op_alloc 5 Tryd.zeroValue24 rfl rfl rfl) rfl (.e (op_storeRA Tryd.sizeOf24 (.plain rfl) (.plain rfl) rfl rfl (Nat.le_of_ble_eq_true rfl) rfl) rfl (.n (fun _ => op_assign (.plain rfl)) (.nil _))))))), ?_⟩
        refine awp_seq ?_
        refine awp_region rfl (.n (fun _ => op_move (.plain rfl)) (.n (fun _ => op_eql (.plain rfl) (.plain rfl)) (.n (fun _ => op_move (.plain rfl)) (.gn rfl rfl (fun hg _ => op_load_agg Tryd.isAgg24 Tryd.sizeOf24 (.plain rfl) (Nat.le_of_ble_eq_true rfl)) (.gr rfl rfl (fun hg => op_loadRA Tryd.isAgg24 Tryd.sizeOf24 (.plain rfl) rfl (by first | (simp; done) | exact Nat.le_of_ble_eq_true rfl) rfl) (.gn rfl rfl (fun hg _ => op_call2 Tryd.call15 (.opt rfl fun h => h) (.opt rfl fun h => h) (samePairing_fc _ _)) (.n (fun _ => op_and (.plain rfl) (.plain rfl) (.plain rfl) (fun h => eqT h)) (.n (fun _ => op_move (.plain rfl)) (.gn rfl rfl (fun hg _ => op_move (.plain rfl)) (.gn rfl rfl (fun hg _ => op_lenS Tryd.underlying9 (.opt rfl fun h => h)) (.gn rfl rfl (fun hg _ => op_fieldAddr Tryd.underlying24 rfl rfl Tryd.sizeOf22 (.plain rfl)) (.gn rfl rfl (fun hg _ => op_load Tryd.isAgg22 (.opt rfl fun h => h)) (.gn rfl rfl (fun hg _ => op_len (s := 0) Tryd.underlying22 (.opt rfl fun h => h)) (.gn rfl rfl (fun hg _ => op_fieldAddr Tryd.underlying24 rfl rfl Tryd.sizeOf22 (.plain rfl)) (.gn rfl rfl (fun hg _ => op_load Tryd.isAgg22 (.opt rfl fun h => h)) (.gn rfl rfl (fun hg _ => op_len (s := 0) Tryd.underlying22 (.opt rfl fun h => h)) (.gn rfl rfl (fun hg _ => op_add (.opt rfl fun h => h) (.opt rfl fun h => h) ?_) (.gn rfl rfl (fun hg _ => op_geq (.opt rfl fun h => h) (.opt rfl fun h => h)) (.n (fun _ => op_and (.plain rfl) (.plain rfl) (.plain rfl) (fun h => eqT h)) (.n (fun _ => op_assign (.plain rfl)) (.nil _))))))))))))))))))))) ?_
        · try simp only [beq_iff_eq, beq_true, beq_false, Bool.and_eq_true, decide_eq_true_eq, decide_eq_false_iff_not, Bool.not_eq_true', Bool.or_eq_true, Bool.or_eq_false_iff] at hg
          unfold InR; omega
        refine awp_ret ?_
        refine retX.ret ?_
        refine retX1 rfl rfl trivial trivial ?_
        have hz2 : ((L.length : Int) + (R.length : Int)) ≤ ((if rMayE L R = 0 then printS L R else ⟨#[]⟩ : ByteArray).size : Nat) := by omega
        simp [hz2]

theorem RanksBack_fc (L R : List Ag) : FC Tryd.prog 5 [.agg [.seq (ByteArray × Int × List Int × Unit) (ByteArray.empty, 0, [], ()) (fun p => [.str p.1, .i p.2.1, .ints p.2.2.1]) L, .seq (ByteArray × Int × List Int × Unit) (ByteArray.empty, 0, [], ()) (fun p => [.str p.1, .i p.2.1, .ints p.2.2.1]) R]] (.bool true) := FXH.fc (vals := [.agg [.seq (ByteArray × Int × List Int × Unit) (ByteArray.empty, 0, [], ()) (fun p => [.str p.1, .i p.2.1, .ints p.2.2.1]) L, .seq (ByteArray × Int × List Int × Unit) (ByteArray.empty, 0, [], ()) (fun p => [.str p.1, .i p.2.1, .ints p.2.2.1]) R]]) (RanksBack_fx L R)

end Go.Proofs.YtolmcapbpliaiaaDoor

