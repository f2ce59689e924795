/- All that are stable; the best and the worst of them: mathematics. Conditions: each theorem names its own. -/
import Derived.Test.YtpapnkphlmickaaDoorProg
import Derived.Test.YtpapnkphlmickaaDoorFf
namespace Go.Proofs.YtpapnkphlmickaaDoor
open Go.Abs
set_option linter.unusedVariables false
set_option linter.unusedSimpArgs false

open Mkt (St Le InvL InvR)
/-! ### There is one -/
theorem exists_L {L R : List Ag} (hM0 : mMayE L R = 0) : ∃ w, IsL L R w := by
  have hM := mok hM0
  have key : ∀ n w k, LInv L R w k → remL L k ≤ n → ∃ w, IsL L R w := fun n => by
    induction n with
    | zero =>
      intro w k h hn
      refine ⟨w, h.done fun l hl => Classical.byContradiction fun c => ?_⟩
      unfold stuckL at c
      have := remL_lt h hl (fun e => c (.inr e))
      omega
    | succ n ih =>
      intro w k h hn
      by_cases hs : ∀ l, l < L.length → stuckL L w k l
      · exact ⟨w, h.done hs⟩
      · simp only [Classical.not_forall] at hs
        obtain ⟨l, hl, c⟩ := hs
        have hk : ¬ k.getD l 0 = ((lkF L l).length : Nat) := fun e => c (.inr e)
        have h0 : ¬ 0 ≤ w.getD l 0 := fun e => c (.inl e)
        have hr := remL_lt h hl hk
        cases e : likesF L R l (pkF L k l).toNat with
        | true => exact ih _ _ (h.yes hM hl hk h0 e) (by omega)
        | false => exact ih _ _ (h.no hM hl hk e) (by omega)
  exact key _ _ _ (LInv.start hM) (Nat.le_refl _)
theorem exists_R {L R : List Ag} (hM0 : mMayE L R = 0) : ∃ w, IsR L R w := by
  have hM := mok hM0
  have key : ∀ n w k, RInv L R w k → remL R k ≤ n → ∃ w, IsR L R w := fun n => by
    induction n with
    | zero =>
      intro w k h hn
      refine ⟨w, h.done hM fun l hl => Classical.byContradiction fun c => ?_⟩
      unfold stuckR at c
      have := remR_lt h hl (fun e => c (.inl e))
      omega
    | succ n ih =>
      intro w k h hn
      by_cases hs : ∀ l, l < R.length → stuckR R w k l
      · exact ⟨w, h.done hM hs⟩
      · simp only [Classical.not_forall] at hs
        obtain ⟨r, hr0, c⟩ := hs
        have hk : ¬ k.getD r 0 = ((lkF R r).length : Nat) := fun e => c (.inl e)
        have h0 : ¬ (cntF w (r : Int) : Int) = rmF R r := fun e => c (.inr e)
        have hr := remR_lt h hr0 hk
        by_cases e : likesF L R (pkF R k r).toNat r = true ∧ (w.getD (pkF R k r).toNat 0 < 0 ∨ placeF (lkF L (pkF R k r).toNat) (r : Int) < placeF (lkF L (pkF R k r).toNat) (w.getD (pkF R k r).toNat 0))
        · exact ih _ _ (h.yes hM hr0 hk h0 e.1 e.2) (by omega)
        · exact ih _ _ (h.no hM hr0 hk fun c => not_or.1 fun d => e ⟨c, d⟩) (by omega)
  exact key _ _ _ RInv.start (Nat.le_refl _)
theorem leftV_spec {L R : List Ag} (hM0 : mMayE L R = 0) : IsL L R (leftV L R) := by
  obtain ⟨w, h⟩ := exists_L hM0
  rw [leftV_is hM0 h]; exact h
theorem rightV_spec {L R : List Ag} (hM0 : mMayE L R = 0) : IsR L R (rightV L R) := by
  obtain ⟨w, h⟩ := exists_R hM0
  rw [rightV_is hM0 h]; exact h
/-! ### All of them -/
def allK (L R : List Ag) (g : List Int → List (List Int)) (w : List Int) : Nat → List (List Int)
  | 0 => []
  | k + 1 => allK L R g w k ++ (if k = 0 ∨ likesF L R w.length (k - 1) = true then g (w ++ [(k : Int) - 1]) else [])
def allR (L R : List Ag) : Nat → List Int → List (List Int)
  | 0, w => if stOk L R w = true then [w] else []
  | f + 1, w => allK L R (allR L R f) w (R.length + 1)
section
variable {L R : List Ag} {g : List Int → List (List Int)} {w : List Int}
theorem allK_yes {k : Nat} (h : k = 0 ∨ likesF L R w.length (k - 1) = true) : allK L R g w k ++ g (w ++ [(k : Int) - 1]) = allK L R g w (k + 1) := by simp only [allK]; rw [if_pos h]
theorem allK_no {k : Nat} (h : ¬ (k = 0 ∨ likesF L R w.length (k - 1) = true)) : allK L R g w k = allK L R g w (k + 1) := by simp only [allK]; rw [if_neg h, List.append_nil]
theorem allK_mem {v : List Int} : ∀ {n : Nat}, v ∈ allK L R g w n ↔ ∃ k, k < n ∧ (k = 0 ∨ likesF L R w.length (k - 1) = true) ∧ v ∈ g (w ++ [(k : Int) - 1])
  | 0 => by simp [allK]
  | n + 1 => by
    simp only [allK, List.mem_append, allK_mem (n := n)]
    constructor
    · rintro (⟨k, h1, h2⟩ | h)
      · exact ⟨k, by omega, h2⟩
      · split at h
        · rename_i h3; exact ⟨n, by omega, h3, h⟩
        · simp at h
    · rintro ⟨k, h1, h2, h3⟩
      by_cases e : k = n
      · subst e; right; rw [if_pos h2]; exact h3
      · exact .inl ⟨k, by omega, h2, h3⟩
theorem allR_st {v : List Int} : ∀ {f : Nat} {w : List Int}, v ∈ allR L R f w → stOk L R v = true ∧ ∃ t, v = w ++ t ∧ t.length = f
  | 0, w, h => by
    simp only [allR] at h
    split at h
    · rename_i h1; simp only [List.mem_singleton] at h; subst h; exact ⟨h1, [], by simp, rfl⟩
    · simp at h
  | f + 1, w, h => by
    simp only [allR] at h
    obtain ⟨k, _, _, h3⟩ := allK_mem.1 h
    obtain ⟨h4, t, h5, h6⟩ := allR_st h3
    exact ⟨h4, ((k : Int) - 1) :: t, by rw [h5]; simp, by simp [h6]⟩
theorem st_all {t : List Int} : ∀ {f : Nat} {w : List Int}, t.length = f → stOk L R (w ++ t) = true → (w ++ t) ∈ allR L R f w := by
  induction t with
  | nil =>
    rintro f w rfl h
    simp only [List.append_nil] at h ⊢
    show w ∈ allR L R 0 w
    simp only [allR]; rw [if_pos h]; simp
  | cons c t ih =>
    rintro f w rfl h
    show _ ∈ allR L R (t.length + 1) w
    simp only [allR]
    have hst := st_of h
    have hl : w.length < L.length := by have := hst.1; simp at this; omega
    have e0 : (w ++ c :: t).getD w.length 0 = c := by simp [List.getD_eq_getElem?_getD]
    have hi : atW (w ++ c :: t) w.length = -1 ∨ ∃ r : Nat, atW (w ++ c :: t) w.length = (r : Int) ∧ r < R.length ∧ likesF L R w.length r = true := hst.2.ind w.length hl
    unfold atW at hi
    rw [e0] at hi
    have e1 : w ++ c :: t = (w ++ [c]) ++ t := by simp
    have h3 := ih (f := t.length) (w := w ++ [c]) rfl (by rw [← e1]; exact h)
    rw [e1]
    rcases hi with e | ⟨r, e, hr, hA⟩
    · refine allK_mem.2 ⟨0, by omega, .inl rfl, ?_⟩
      rw [show ((0 : Nat) : Int) - 1 = c by omega]; exact h3
    · refine allK_mem.2 ⟨r + 1, by omega, .inr (by simpa using hA), ?_⟩
      rw [show ((r + 1 : Nat) : Int) - 1 = c by omega]; exact h3
/-- Where there is no room nobody comes. -/
theorem allR_full {f r : Nat} (hr : r < R.length) (h : ¬ (cntF w (r : Int) : Int) < rmF R r) : allR L R f (w ++ [(r : Int)]) = [] := by
  cases e : allR L R f (w ++ [(r : Int)]) with
  | nil => rfl
  | cons v l =>
    exfalso
    obtain ⟨h1, t, h2, _⟩ := allR_st (L := L) (R := R) (f := f) (w := w ++ [(r : Int)]) (v := v) (by rw [e]; simp)
    have hst := st_of h1
    have hroom : cnt (atW v) L.length r ≤ (rmF R r).toNat := hst.2.room r hr
    have hvl := hst.1
    have hl : w.length + 1 ≤ L.length := by rw [← hvl, h2]; simp
    have hpre : ∀ i, i < w.length → atW v i = atW w i := fun i hi => by
      unfold atW; rw [h2]
      simp [List.getD_eq_getElem?_getD, List.getElem?_append, hi]
    have hat : atW v w.length = (r : Int) := by unfold atW; rw [h2]; simp [List.getD_eq_getElem?_getD]
    have hmono : ∀ n m, n ≤ m → cnt (atW v) n r ≤ cnt (atW v) m r := fun n m hnm => by
      induction m with
      | zero => obtain rfl : n = 0 := by omega
                exact Nat.le_refl _
      | succ m ih =>
        by_cases e : n = m + 1
        · subst e; exact Nat.le_refl _
        · have := ih (by omega)
          refine Nat.le_trans this ?_
          unfold cnt; simp only [cntB]; omega
    have h5 := hmono _ _ hl
    have h6 : cnt (atW v) (w.length + 1) r = cntF w (r : Int) + 1 := by
      have h7 : cntF w (r : Int) = cnt (atW w) w.length r := goesI_cnt _
      have h8 : cnt (atW v) w.length r = cnt (atW w) w.length r := cntB_same fun i hi => by rw [hpre i hi]
      rw [h7, ← h8]
      unfold cnt
      simp only [cntB]
      simp [hat]
    omega
end
def allV (L R : List Ag) : List (List Int) := if mMayE L R = 0 then allR L R L.length [] else []
theorem allV_ok {L R : List Ag} (h : mMayE L R = 0) : allR L R L.length [] = allV L R := (if_pos h).symm
theorem allV_no {L R : List Ag} (h : ¬ mMayE L R = 0) : [] = allV L R := (if_neg h).symm
theorem allV_mem {L R : List Ag} (hM : mMayE L R = 0) {v : List Int} : v ∈ allV L R ↔ v.length = L.length ∧ St (mkt L R) (atW v) := by
  rw [← allV_ok hM]
  constructor
  · intro h; exact st_of (allR_st h).1
  · rintro ⟨h1, h2⟩
    have := st_all (L := L) (R := R) (t := v) (w := []) h1 (by simpa using of_st hM h1 h2)
    simpa using this
/-! ### The best of all -/
def bstF (L R : List Ag) (bt : Bool) (l : List (List Int)) : Nat → List Int
  | 0 => l.getD 0 []
  | i + 1 => bothF L R (bstF L R bt l i) (l.getD (i + 1) []) bt
theorem Mkt.St.congr {K : Mkt} {μ ν : Nat → Int} (h : St K μ) (e : ∀ l, l < K.n → μ l = ν l) : St K ν := by
  have ec : ∀ r, cnt ν K.n r = cnt μ K.n r := fun r => Mkt.cnt_same fun l hl => (e l hl).symm
  refine ⟨fun l hl => by rw [← e l hl]; exact h.ind l hl, fun r hr => by rw [ec]; exact h.room r hr, fun l hl r hr hA hlt => ?_⟩
  rw [← e l hl] at hlt
  have := h.nob l hl r hr hA hlt
  exact ⟨by rw [ec]; exact this.1, fun x hx ex => this.2 x hx (by rw [e x hx]; exact ex)⟩
section
variable {L R : List Ag} {a b : List Int}
theorem st_with (hM : mMayE L R = 0) (hl : a.length = L.length) (h : St (mkt L R) (atW a)) : withE L R a = 0 := by
  have := of_st hM hl h
  unfold stOk at this
  simp only [Bool.and_eq_true, decide_eq_true_eq] at this
  exact this.1
theorem both_at (hM : mMayE L R = 0) (ha : a.length = L.length) (hA : St (mkt L R) (atW a)) (hb : b.length = L.length) (hB : St (mkt L R) (atW b)) (bt : Bool) : (bothF L R a b bt).length = L.length ∧ ∀ l, l < L.length → atW (bothF L R a b bt) l = if bt = true then Mkt.join (mkt L R) (atW a) (atW b) l else Mkt.meet (mkt L R) (atW a) (atW b) l := by
  have e : bothE L R a b = 0 := by rw [bothE_b (st_with hM ha hA)]; exact st_with hM hb hB
  unfold bothF
  rw [if_pos e]
  refine ⟨by simp [ha], fun l hl => ?_⟩
  unfold atW
  rw [mapr_getD 0 (by omega)]
  unfold pickB Mkt.join Mkt.meet
  show _ = if bt = true then (if levF (lkF L l) (a.getD l 0) ≤ levF (lkF L l) (b.getD l 0) then a.getD l 0 else b.getD l 0) else (if levF (lkF L l) (a.getD l 0) ≤ levF (lkF L l) (b.getD l 0) then b.getD l 0 else a.getD l 0)
  generalize a.getD l 0 = x
  generalize b.getD l 0 = y
  by_cases h : levF (lkF L l) x ≤ levF (lkF L l) y
  · rw [decide_eq_true h, if_pos h, if_pos h]; cases bt <;> rfl
  · rw [decide_eq_false h, if_neg h, if_neg h]; cases bt <;> rfl
/-- The better (the worse) one of two that are stable is stable. -/
theorem both_st (hM : mMayE L R = 0) (ha : a.length = L.length) (hA : St (mkt L R) (atW a)) (hb : b.length = L.length) (hB : St (mkt L R) (atW b)) (bt : Bool) : (bothF L R a b bt).length = L.length ∧ St (mkt L R) (atW (bothF L R a b bt)) := by
  have h := both_at hM ha hA hb hB bt
  have hL := leftV_spec hM
  have hR := Mkt.rural_two hL.2.1 hL.2.2 hA hB
  refine ⟨h.1, ?_⟩
  cases bt with
  | true => exact (Mkt.join_st hA hB hR).congr fun l hl => by rw [h.2 l hl]; rfl
  | false => exact (Mkt.meet_st hA hB hR).congr fun l hl => by rw [h.2 l hl]; rfl
theorem both_le (hM : mMayE L R = 0) (ha : a.length = L.length) (hA : St (mkt L R) (atW a)) (hb : b.length = L.length) (hB : St (mkt L R) (atW b)) : (Le (mkt L R) (atW (bothF L R a b true)) (atW a) ∧ Le (mkt L R) (atW (bothF L R a b true)) (atW b)) ∧ Le (mkt L R) (atW a) (atW (bothF L R a b false)) ∧ Le (mkt L R) (atW b) (atW (bothF L R a b false)) := by
  have h1 := both_at hM ha hA hb hB true
  have h2 := both_at hM ha hA hb hB false
  have hj := Mkt.join_lv (mkt L R) (atW a) (atW b)
  refine ⟨⟨fun l hl => ?_, fun l hl => ?_⟩, fun l hl => ?_, fun l hl => ?_⟩
  · rw [h1.2 l hl]; exact (hj l).1
  · rw [h1.2 l hl]; exact (hj l).2.1
  · rw [h2.2 l hl]; exact (hj l).2.2.1
  · rw [h2.2 l hl]; exact (hj l).2.2.2
end
theorem bs_spec {L R : List Ag} (hM : mMayE L R = 0) (bt : Bool) : ∀ i, i < (allV L R).length → ((bstF L R bt (allV L R) i).length = L.length ∧ St (mkt L R) (atW (bstF L R bt (allV L R) i))) ∧
    ∀ j, j ≤ i → if bt = true then Le (mkt L R) (atW (bstF L R bt (allV L R) i)) (atW ((allV L R).getD j [])) else Le (mkt L R) (atW ((allV L R).getD j [])) (atW (bstF L R bt (allV L R) i))
  | 0, hi => by
    have := (allV_mem hM).1 (getD_mem (l := allV L R) [] hi)
    refine ⟨this, fun j hj => ?_⟩
    obtain rfl : j = 0 := by omega
    split
    · exact fun l _ => Int.le_refl _
    · exact fun l _ => Int.le_refl _
  | i + 1, hi => by
    have ih := bs_spec hM bt i (by omega)
    have hn := (allV_mem hM).1 (getD_mem (l := allV L R) [] hi)
    have hb := both_st hM ih.1.1 ih.1.2 hn.1 hn.2 bt
    have hle := both_le hM ih.1.1 ih.1.2 hn.1 hn.2
    refine ⟨hb, fun j hj => ?_⟩
    cases bt with
    | true =>
      rw [if_pos rfl]
      by_cases e : j = i + 1
      · subst e; exact hle.1.2
      · have := ih.2 j (by omega)
        rw [if_pos rfl] at this
        exact fun l hl => Int.le_trans (hle.1.1 l hl) (this l hl)
    | false =>
      rw [if_neg (by simp)]
      by_cases e : j = i + 1
      · subst e; exact hle.2.2
      · have := ih.2 j (by omega)
        rw [if_neg (by simp)] at this
        exact fun l hl => Int.le_trans (this l hl) (hle.2.1 l hl)
theorem allV_pos {L R : List Ag} (hM : mMayE L R = 0) : 0 < (allV L R).length := by
  have := leftV_spec hM
  exact List.length_pos_of_mem ((allV_mem hM).2 ⟨this.1, this.2.1⟩)
theorem bs_left {L R : List Ag} (hM : mMayE L R = 0) : bstF L R true (allV L R) ((allV L R).length - 1) = leftV L R := by
  have hp := allV_pos hM
  have h := bs_spec hM true ((allV L R).length - 1) (by omega)
  have hL := leftV_spec hM
  obtain ⟨j, hj, e⟩ := List.getElem_of_mem ((allV_mem hM).2 ⟨hL.1, hL.2.1⟩)
  have h2 := h.2 j (by omega)
  rw [if_pos rfl, List.getD_eq_getElem?_getD, List.getElem?_eq_getElem hj, Option.getD_some, e] at h2
  exact same_le h.1.1 hL.1 h.1.2 hL.2.1 h2 (hL.2.2 _ h.1.2)
theorem bs_right {L R : List Ag} (hM : mMayE L R = 0) : bstF L R false (allV L R) ((allV L R).length - 1) = rightV L R := by
  have hp := allV_pos hM
  have h := bs_spec hM false ((allV L R).length - 1) (by omega)
  have hL := rightV_spec hM
  obtain ⟨j, hj, e⟩ := List.getElem_of_mem ((allV_mem hM).2 ⟨hL.1, hL.2.1⟩)
  have h2 := h.2 j (by omega)
  rw [if_neg (by simp), List.getD_eq_getElem?_getD, List.getElem?_eq_getElem hj, Option.getD_some, e] at h2
  exact same_le h.1.1 hL.1 h.1.2 hL.2.1 (hL.2.2 _ h.1.2) h2

end Go.Proofs.YtpapnkphlmickaaDoor

