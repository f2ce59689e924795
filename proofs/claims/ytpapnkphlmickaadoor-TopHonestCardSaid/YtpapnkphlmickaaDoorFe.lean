/- The market of two sides; the left asks: mathematics. Conditions: each theorem names its own. -/
import Derived.Test.YtpapnkphlmickaaDoorProg
import Derived.Test.YtpapnkphlmickaaDoorFd
namespace Go.Proofs.YtpapnkphlmickaaDoor
open Go.Abs
set_option linter.unusedVariables false
set_option linter.unusedSimpArgs false


theorem firstE_all {f : Nat → Int} : ∀ {n : Nat}, (∀ j, j < n → f j = 0) → firstE f n = 0
  | 0, _ => rfl
  | n + 1, h => firstE_succ (firstE_all fun j hj => h j (by omega)) (h n (by omega))
/-! ### The market of two sides -/
open Mkt (St Le InvL InvR)
theorem levF_at {l : List Int} {r : Nat} (h : 0 ≤ placeF l (r : Int)) : levF l (r : Int) = placeF l (r : Int) := by
  unfold levF; rw [if_neg (by omega), if_neg (by omega)]
theorem levF_no (l : List Int) : levF l (-1) = (l.length : Nat) := by unfold levF; rw [if_pos (by omega)]
def mkt (L R : List Ag) : Mkt := {
  n := L.length
  m := R.length
  A l r := likesF L R l r = true
  lv l x := levF (lkF L l) x
  rp r l := placeF (lkF R r) (l : Nat)
  q r := (rmF R r).toNat
  linj l r r' h h' e := by
    have h1 := (likes_l h).1
    have h2 := (likes_l h').1
    rw [levF_at h1, levF_at h2] at e
    have := placeF_inj h1 e
    omega
  rinj r l l' h h' e := by
    have := placeF_inj (likes_l h).2 e
    omega
  lbot l r h := by
    have h1 := (likes_l h).1
    rw [levF_at h1, levF_no]
    exact placeF_lt.1 }
def atW (w : List Int) (l : Nat) : Int := w.getD l 0
theorem goesI_cnt {w : List Int} {r : Nat} : ∀ n, (goesI w (r : Int) n).length = cnt (atW w) n r
  | 0 => rfl
  | n + 1 => by
    have ih := goesI_cnt (w := w) (r := r) n
    unfold cnt at ih ⊢
    simp only [goesI, cntB]
    by_cases h : w.getD n 0 = (r : Int)
    · rw [if_pos h, List.length_append, ih]; simp [show atW w n = (r : Int) from h]
    · rw [if_neg h, ih]; simp [show ¬ atW w n = (r : Int) from h]
theorem cntF_cnt {L : List Ag} {w : List Int} (h : w.length = L.length) (r : Nat) : cntF w (r : Int) = cnt (atW w) L.length r := by unfold cntF; rw [goesI_cnt, h]
section
variable {L R : List Ag} {w : List Int}
theorem st_of (h : stOk L R w = true) : w.length = L.length ∧ St (mkt L R) (atW w) := by
  unfold stOk at h
  simp only [Bool.and_eq_true, decide_eq_true_eq, Option.isNone_iff_eq_none] at h
  obtain ⟨hE, hb⟩ := h
  have hW := wok hE
  have h1 : firstI (badL L R w) w.length = none := by
    cases e : firstI (badL L R w) w.length with
    | none => rfl
    | some l => unfold stBad at hb; rw [e] at hb; simp at hb
  have h2 : firstI (rowB L R w) L.length = none := by
    cases e : firstI (rowB L R w) L.length with
    | none => rfl
    | some l =>
      unfold stBad at hb
      rw [h1, e] at hb
      simp only at hb
      have h3 := (firstI_spec e).2.1
      unfold rowB at h3
      cases e2 : firstI (wouldF L R w l) R.length with
      | none => rw [e2] at h3; simp at h3
      | some r => rw [e2] at hb; simp at hb
  have hF := fond hW h1
  refine ⟨hW.len, fun l hl => ?_, fun r hr => ?_, fun l hl r hr hA hlt => ?_⟩
  · have hl : l < L.length := hl
    have hi := hW.ins l (by rw [hW.len]; exact hl)
    rcases Int.lt_or_le (w.getD l 0) 0 with h0 | h0
    · exact .inl (show w.getD l 0 = -1 by omega)
    · exact .inr ⟨(w.getD l 0).toNat, (show w.getD l 0 = _ by omega), (show _ < R.length by omega), hF l (by rw [hW.len]; exact hl) h0⟩
  · have := hW.full r hr
    rw [cntF_cnt hW.len] at this
    show cnt (atW w) L.length r ≤ (rmF R r).toNat
    omega
  · have hl : l < L.length := hl
    have hr : r < R.length := hr
    have hA : likesF L R l r = true := hA
    have hlt : levF (lkF L l) (r : Int) < levF (lkF L l) (w.getD l 0) := hlt
    have hlp := likes_l hA
    have hno : wouldF L R w l r = false := by
      have h3 := firstI_none h2 l hl
      unfold rowB at h3
      cases e2 : firstI (wouldF L R w l) R.length with
      | none => exact firstI_none e2 r hr
      | some r => rw [e2] at h3; simp at h3
    rw [levF_at hlp.1] at hlt
    have hbf : beforeF L w l r = false := by
      unfold beforeF
      rcases Int.lt_or_le (w.getD l 0) 0 with h0 | h0
      · rw [decide_eq_false (by omega)]; rfl
      · have h4 := (likes_l (hF l (by rw [hW.len]; exact hl) h0)).1
        obtain ⟨s, hs⟩ : ∃ s : Nat, w.getD l 0 = (s : Int) := ⟨(w.getD l 0).toNat, by omega⟩
        rw [hs] at hlt h4 ⊢
        rw [Int.toNat_natCast] at h4
        rw [levF_at h4] at hlt
        rw [decide_eq_false (show ¬ placeF (lkF L l) (s : Int) ≤ placeF (lkF L l) (r : Int) by omega)]; simp
    have hn0 : ¬ (!likesF L R l r || beforeF L w l r) = true := by rw [hA, hbf]; simp
    have hfull := hW.full r hr
    have hcc : ¬ (cntF w (r : Nat) : Int) < rmF R r := fun c => by have := wouldF_cnt hn0 c; rw [hno] at this; cases this
    have haft : ¬ (0 ≤ idxF (aftF R l r) fun x => decide (w.getD x.toNat 0 = (r : Nat))) := fun c => by
      have := wouldF_aft hn0 hcc
      rw [decide_eq_true c, hno] at this; cases this
    rw [aft_is hW hr hlp.2] at haft
    refine ⟨?_, fun x hx e => ?_⟩
    · show cnt (atW w) L.length r = (rmF R r).toNat
      rw [← cntF_cnt hW.len]
      omega
    · show placeF (lkF R r) (x : Int) < placeF (lkF R r) (l : Int)
      have hx : x < L.length := hx
      have e : w.getD x 0 = (r : Int) := e
      have h5 : ¬ placeF (lkF R r) (l : Int) < placeF (lkF R r) (x : Int) := fun c => haft ⟨(x : Int), (goesI_mem _).2 ⟨x, by rw [hW.len]; exact hx, rfl, e⟩, c⟩
      have h6 : ¬ placeF (lkF R r) (l : Int) = placeF (lkF R r) (x : Int) := fun c => by
        have := placeF_inj hlp.2 c
        have : l = x := by omega
        subst this
        rw [e, levF_at hlp.1] at hlt
        omega
      omega
theorem of_st (hM : mMayE L R = 0) (hl0 : w.length = L.length) (hs : St (mkt L R) (atW w)) : stOk L R w = true := by
  have hK := mok hM
  have hin : ∀ l, l < L.length → w.getD l 0 = -1 ∨ ∃ r : Nat, w.getD l 0 = (r : Int) ∧ r < R.length ∧ likesF L R l r = true := hs.ind
  have hE : withE L R w = 0 := by
    refine (withE_ok hM (by omega) (firstE_all fun l hl => if_neg ?_) (firstE_all fun r hr => if_neg ?_)).symm
    · rcases hin l (by omega) with e | ⟨r, e, h1, _⟩ <;> rw [e] <;> omega
    · have h1 : cnt (atW w) L.length r ≤ (rmF R r).toNat := hs.room r hr
      have h2 := (hK.rroom r hr).1
      rw [cntF_cnt hl0]
      omega
  have hW := wok hE
  have h1 : firstI (badL L R w) w.length = none := firstI_of fun l hl => by
    unfold badL
    rcases hin l (by omega) with e | ⟨r, e, _, h2⟩
    · rw [e, decide_eq_false (by omega)]; rfl
    · rw [e, Int.toNat_natCast, h2]; simp
  have hF := fond hW h1
  have h2 : firstI (rowB L R w) L.length = none := firstI_of fun l hl => rowB_no (firstI_of fun r hr => by
    unfold wouldF
    by_cases h3 : (!likesF L R l r || beforeF L w l r) = true
    · rw [if_pos h3]
    · rw [if_neg h3]
      simp only [Bool.or_eq_true, Bool.not_eq_true', not_or, Bool.not_eq_false, Bool.not_eq_true] at h3
      obtain ⟨hA, hbf⟩ := h3
      have hlp := likes_l hA
      have hlt : levF (lkF L l) (r : Int) < levF (lkF L l) (w.getD l 0) := by
        rw [levF_at hlp.1]
        rcases hin l hl with e | ⟨s, e, _, h5⟩
        · rw [e, levF_no]; exact placeF_lt.1
        · have h6 := (likes_l h5).1
          rw [e, levF_at h6]
          unfold beforeF at hbf
          rw [e, decide_eq_true (show 0 ≤ (s : Int) by omega)] at hbf
          simpa using hbf
      have hn := hs.nob l hl r hr hA hlt
      have h7 : (cntF w (r : Nat) : Int) = rmF R r := by
        have : cnt (atW w) L.length r = (rmF R r).toNat := hn.1
        rw [cntF_cnt hl0]; have := (hK.rroom r hr).1; omega
      rw [if_neg (by omega)]
      refine decide_eq_false fun c => ?_
      obtain ⟨y, hy, hy2⟩ := (aft_is hW hr hlp.2).1 c
      obtain ⟨x, hx, rfl, e⟩ := (goesI_mem _).1 hy
      have : placeF (lkF R r) (x : Int) < placeF (lkF R r) (l : Int) := hn.2 x (show x < L.length by omega) e
      omega)
  unfold stOk stBad
  rw [hE, h1, h2]; rfl
end
/-- Stable, and best for each of the left of all that are. -/
def IsL (L R : List Ag) (w : List Int) : Prop := w.length = L.length ∧ St (mkt L R) (atW w) ∧ ∀ μ, St (mkt L R) μ → Le (mkt L R) (atW w) μ
def IsR (L R : List Ag) (w : List Int) : Prop := w.length = L.length ∧ St (mkt L R) (atW w) ∧ ∀ μ, St (mkt L R) μ → Le (mkt L R) μ (atW w)
theorem same_le {L R : List Ag} {w v : List Int} (h1 : w.length = L.length) (h2 : v.length = L.length) (hw : St (mkt L R) (atW w)) (hv : St (mkt L R) (atW v)) (a : Le (mkt L R) (atW w) (atW v)) (b : Le (mkt L R) (atW v) (atW w)) : w = v := by
  refine List.ext_getElem (by omega) fun j h3 h4 => ?_
  have hj : j < (mkt L R).n := show j < L.length by omega
  have := hw.inj hv hj (Int.le_antisymm (a j hj) (b j hj))
  unfold atW at this
  rw [List.getD_eq_getElem?_getD, List.getD_eq_getElem?_getD, List.getElem?_eq_getElem h3, List.getElem?_eq_getElem h4] at this
  exact this
theorem isL_one {L R : List Ag} {w v : List Int} (h : IsL L R w) (h' : IsL L R v) : w = v := same_le h.1 h'.1 h.2.1 h'.2.1 (h.2.2 _ h'.2.1) (h'.2.2 _ h.2.1)
theorem isR_one {L R : List Ag} {w v : List Int} (h : IsR L R w) (h' : IsR L R v) : w = v := same_le h.1 h'.1 h.2.1 h'.2.1 (h'.2.2 _ h.2.1) (h.2.2 _ h'.2.1)
open Classical in
noncomputable def leftV (L R : List Ag) : List Int := if h : mMayE L R = 0 ∧ ∃ w, IsL L R w then Classical.choose h.2 else []
open Classical in
noncomputable def rightV (L R : List Ag) : List Int := if h : mMayE L R = 0 ∧ ∃ w, IsR L R w then Classical.choose h.2 else []
theorem leftV_is {L R : List Ag} {w : List Int} (hM : mMayE L R = 0) (h : IsL L R w) : leftV L R = w := by
  unfold leftV
  rw [dif_pos ⟨hM, w, h⟩]
  exact isL_one (Classical.choose_spec (⟨w, h⟩ : ∃ w, IsL L R w)) h
theorem rightV_is {L R : List Ag} {w : List Int} (hM : mMayE L R = 0) (h : IsR L R w) : rightV L R = w := by
  unfold rightV
  rw [dif_pos ⟨hM, w, h⟩]
  exact isR_one (Classical.choose_spec (⟨w, h⟩ : ∃ w, IsR L R w)) h
theorem leftV_no {L R : List Ag} (h : ¬ mMayE L R = 0) : leftV L R = [] := dif_neg fun c => h c.1
theorem rightV_no {L R : List Ag} (h : ¬ mMayE L R = 0) : rightV L R = [] := dif_neg fun c => h c.1
/-! ### The worst one goes -/
def worstF (R : List Ag) (w : List Int) (r : Nat) : Nat → Int
  | 0 => -1
  | n + 1 => if w.getD n 0 = (r : Int) then (if worstF R w r n < 0 ∨ placeF (lkF R r) (worstF R w r n) < placeF (lkF R r) (n : Int) then (n : Int) else worstF R w r n) else worstF R w r n
section
variable {R : List Ag} {w : List Int} {r n : Nat}
theorem worstF_no (h : ¬ w.getD n 0 = (r : Int)) : worstF R w r n = worstF R w r (n + 1) := by simp only [worstF]; rw [if_neg h]
theorem worstF_new (h : w.getD n 0 = (r : Int)) (h' : worstF R w r n < 0 ∨ placeF (lkF R r) (worstF R w r n) < placeF (lkF R r) (n : Int)) : (n : Int) = worstF R w r (n + 1) := by simp only [worstF]; rw [if_pos h, if_pos h']
theorem worstF_old (h : w.getD n 0 = (r : Int)) (h' : ¬ (worstF R w r n < 0 ∨ placeF (lkF R r) (worstF R w r n) < placeF (lkF R r) (n : Int))) : worstF R w r n = worstF R w r (n + 1) := by simp only [worstF]; rw [if_pos h, if_neg h']
theorem worst_spec : ∀ n, (worstF R w r n = -1 ∧ ∀ x, x < n → ¬ w.getD x 0 = (r : Int)) ∨ ∃ z : Nat, worstF R w r n = (z : Int) ∧ z < n ∧ w.getD z 0 = (r : Int) ∧ ∀ x, x < n → w.getD x 0 = (r : Int) → placeF (lkF R r) (x : Int) ≤ placeF (lkF R r) (z : Int)
  | 0 => .inl ⟨rfl, fun x hx => by omega⟩
  | n + 1 => by
    have ih := worst_spec n
    by_cases h : w.getD n 0 = (r : Int)
    · by_cases h' : worstF R w r n < 0 ∨ placeF (lkF R r) (worstF R w r n) < placeF (lkF R r) (n : Int)
      · refine .inr ⟨n, (worstF_new h h').symm, by omega, h, fun x hx e => ?_⟩
        by_cases ex : x = n
        · subst ex; exact Int.le_refl _
        · rcases ih with ⟨_, i2⟩ | ⟨z, i1, i2, i3, i4⟩
          · exact absurd e (i2 x (by omega))
          · have := i4 x (by omega) e
            rw [i1] at h'
            omega
      · rw [← worstF_old h h']
        rcases ih with ⟨i1, _⟩ | ⟨z, i1, i2, i3, i4⟩
        · rw [i1] at h'; omega
        · refine .inr ⟨z, i1, by omega, i3, fun x hx e => ?_⟩
          by_cases ex : x = n
          · subst ex; rw [i1] at h'; omega
          · exact i4 x (by omega) e
    · rw [← worstF_no h]
      rcases ih with ⟨i1, i2⟩ | ⟨z, i1, i2, i3, i4⟩
      · refine .inl ⟨i1, fun x hx => ?_⟩
        by_cases ex : x = n
        · subst ex; exact h
        · exact i2 x (by omega)
      · refine .inr ⟨z, i1, by omega, i3, fun x hx e => ?_⟩
        by_cases ex : x = n
        · subst ex; exact absurd e h
        · exact i4 x (by omega) e
theorem goes_len_yes (h : w.getD n 0 = (r : Int)) : ((goesI w (r : Int) n).length : Int) + 1 = ((goesI w (r : Int) (n + 1)).length : Nat) := by
  have := congrArg List.length (goesI_yes h)
  simp only [List.length_append, List.length_cons, List.length_nil] at this
  omega
theorem goes_len_no (h : ¬ w.getD n 0 = (r : Int)) : ((goesI w (r : Int) n).length : Int) = ((goesI w (r : Int) (n + 1)).length : Nat) := by
  rw [goesI_no h]
theorem worst_at (h : (0 : Int) < (cntF w (r : Int) : Nat)) : ∃ z : Nat, worstF R w r w.length = (z : Int) ∧ z < w.length ∧ w.getD z 0 = (r : Int) ∧ ∀ x, x < w.length → w.getD x 0 = (r : Int) → placeF (lkF R r) (x : Int) ≤ placeF (lkF R r) (z : Int) := by
  rcases worst_spec (R := R) (w := w) (r := r) w.length with ⟨_, i2⟩ | h1
  · exfalso
    unfold cntF at h
    cases e : goesI w (r : Int) w.length with
    | nil => rw [e] at h; simp at h
    | cons y l =>
      obtain ⟨i, h1, _, h3⟩ := (goesI_mem (w := w) (x := (r : Int)) (y := y) w.length).1 (by rw [e]; simp)
      exact i2 i h1 h3
  · exact h1
end
def refF (R : List Ag) (w : List Int) (r : Nat) : List Int := if rmF R r < (cntF w (r : Int) : Nat) then w.set (worstF R w r w.length).toNat (-1) else w
theorem refF_length {R : List Ag} {w : List Int} {r : Nat} : (refF R w r).length = w.length := by unfold refF; split <;> simp
theorem getD_setW {w : List Int} {l : Nat} (h : l < w.length) (v : Int) (i : Nat) : atW (w.set l v) i = Mkt.upd (atW w) l v i := by
  unfold atW Mkt.upd
  rw [List.getD_eq_getElem?_getD, List.getElem?_set]
  by_cases e : l = i
  · subst e; simp [h]
  · rw [if_neg e, if_neg (fun c => e c.symm)]; exact (List.getD_eq_getElem?_getD ..).symm
theorem atW_set {w : List Int} {l : Nat} (h : l < w.length) (v : Int) : atW (w.set l v) = Mkt.upd (atW w) l v := funext (getD_setW h v)
/-! ### The left asks -/
def AsL (L : List Ag) (k : List Int) (l r : Nat) : Prop := 0 ≤ placeF (lkF L l) (r : Int) ∧ placeF (lkF L l) (r : Int) < k.getD l 0
structure LInv (L R : List Ag) (w k : List Int) : Prop where
  wl : w.length = L.length
  kl : k.length = L.length
  kin : ∀ l, l < L.length → 0 ≤ k.getD l 0 ∧ k.getD l 0 ≤ ((lkF L l).length : Nat)
  inv : InvL (mkt L R) (atW w) (AsL L k)
def pkF (L : List Ag) (k : List Int) (l : Nat) : Int := (lkF L l).getD (k.getD l 0).toNat 0
section
variable {L R : List Ag} {w k : List Int} {l : Nat}
theorem LInv.start (hM : MOk L R) : LInv L R (mapr L.length fun _ => -1) (List.replicate L.length 0) := by
  have hw : ∀ l, l < L.length → atW (mapr L.length fun _ => -1) l = -1 := fun l hl => by unfold atW; rw [mapr_getD 0 hl]
  have hk : ∀ l, l < L.length → (List.replicate L.length (0 : Int)).getD l 0 = 0 := fun l hl => by simp [List.getD_eq_getElem?_getD, hl]
  have hna : ∀ l r, l < L.length → ¬ AsL L (List.replicate L.length 0) l r := fun l r hl c => by unfold AsL at c; rw [hk l hl] at c; omega
  refine ⟨by simp, by simp, fun l hl => by rw [hk l hl]; omega, ⟨fun l hl => .inl (hw l hl), fun r hr => ?_, fun l r s hl h => absurd h (hna l r hl), fun l r hl _ _ h => absurd h (hna l r hl), fun μ _ l r hl _ _ h => absurd h (hna l r hl)⟩⟩
  have : cnt (atW (mapr L.length fun _ => -1)) L.length r = 0 := by
    have h0 : ∀ n, cntB (fun _ => false) n = 0 := fun n => by
      induction n with
      | zero => rfl
      | succ n ih => simp only [cntB, ih]; rfl
    rw [← h0 L.length]
    exact cntB_same fun i hi => by rw [hw i hi]; exact decide_eq_false (by omega)
  show cnt _ L.length r ≤ _
  omega
theorem LInv.pk (h : LInv L R w k) (hM : MOk L R) (hl : l < L.length) (hk : ¬ k.getD l 0 = ((lkF L l).length : Nat)) : 0 ≤ pkF L k l ∧ pkF L k l < (R.length : Nat) ∧ (k.getD l 0).toNat < (lkF L l).length ∧ placeF (lkF L l) (pkF L k l) = k.getD l 0 := by
  have h1 := h.kin l hl
  have h2 : (k.getD l 0).toNat < (lkF L l).length := by omega
  have h3 := hM.lin l hl _ h2
  have h4 := hM.lone l hl _ h2
  unfold pkF
  exact ⟨h3.1, h3.2, h2, by rw [h4]; omega⟩
theorem LInv.asked (h : LInv L R w k) (hM : MOk L R) (hl : l < L.length) (hk : ¬ k.getD l 0 = ((lkF L l).length : Nat)) (i j : Nat) : AsL L (k.set l (k.getD l 0 + 1)) i j ↔ AsL L k i j ∨ (i = l ∧ j = (pkF L k l).toNat) := by
  have hp := h.pk hM hl hk
  have hkl := h.kl
  have e := getD_setW (w := k) (l := l) (by omega) (k.getD l 0 + 1) i
  unfold AsL
  unfold atW Mkt.upd at e
  rw [e]
  by_cases ei : i = l
  · subst ei
    rw [if_pos rfl]
    constructor
    · rintro ⟨h1, h2⟩
      by_cases e1 : placeF (lkF L i) (j : Int) < k.getD i 0
      · exact .inl ⟨h1, e1⟩
      · have := placeF_inj h1 (show placeF (lkF L i) (j : Int) = placeF (lkF L i) (pkF L k i) by omega)
        exact .inr ⟨rfl, by omega⟩
    · rintro (⟨h1, h2⟩ | ⟨_, h2⟩)
      · exact ⟨h1, by omega⟩
      · have e3 : (j : Int) = pkF L k i := by omega
        rw [e3, hp.2.2.2]
        have := h.kin i hl
        omega
  · rw [if_neg ei]
    exact ⟨fun c => .inl c, fun c => c.elim id fun d => absurd d.1 ei⟩
theorem LInv.ahead (h : LInv L R w k) (hM : MOk L R) (hl : l < L.length) (hk : ¬ k.getD l 0 = ((lkF L l).length : Nat)) (s : Nat) (hA : (mkt L R).A l s) (hlt : (mkt L R).lv l (s : Int) < (mkt L R).lv l ((pkF L k l).toNat : Int)) : AsL L k l s := by
  have hp := h.pk hM hl hk
  have h1 := (likes_l hA).1
  have e : ((pkF L k l).toNat : Int) = pkF L k l := by omega
  have hlt : levF (lkF L l) (s : Int) < levF (lkF L l) ((pkF L k l).toNat : Int) := hlt
  have h2 : 0 ≤ placeF (lkF L l) ((pkF L k l).toNat : Int) := by rw [e, hp.2.2.2]; exact (h.kin l hl).1
  rw [levF_at h1, levF_at h2, e, hp.2.2.2] at hlt
  exact ⟨h1, hlt⟩
theorem LInv.kin' (h : LInv L R w k) (hl : l < L.length) (hk : ¬ k.getD l 0 = ((lkF L l).length : Nat)) : ∀ i, i < L.length → 0 ≤ (k.set l (k.getD l 0 + 1)).getD i 0 ∧ (k.set l (k.getD l 0 + 1)).getD i 0 ≤ ((lkF L i).length : Nat) := fun i hi => by
  have hkl := h.kl
  have e := getD_setW (w := k) (l := l) (by omega) (k.getD l 0 + 1) i
  unfold atW Mkt.upd at e
  rw [e]
  have := h.kin i hi
  split
  · rename_i ei; subst ei; omega
  · exact this
theorem LInv.no (h : LInv L R w k) (hM : MOk L R) (hl : l < L.length) (hk : ¬ k.getD l 0 = ((lkF L l).length : Nat)) (hA : likesF L R l (pkF L k l).toNat = false) : LInv L R w (k.set l (k.getD l 0 + 1)) :=
  ⟨h.wl, by rw [List.length_set]; exact h.kl, h.kin' hl hk, h.inv.skip (h.asked hM hl hk) (h.ahead hM hl hk) (fun c => by have : likesF L R l (pkF L k l).toNat = true := c; rw [hA] at this; cases this)⟩
theorem LInv.yes (h : LInv L R w k) (hM : MOk L R) (hl : l < L.length) (hk : ¬ k.getD l 0 = ((lkF L l).length : Nat)) (h0 : ¬ 0 ≤ w.getD l 0) (hA : likesF L R l (pkF L k l).toNat = true) : LInv L R (refF R (w.set l (pkF L k l)) (pkF L k l).toNat) (k.set l (k.getD l 0 + 1)) := by
  have hp := h.pk hM hl hk
  obtain ⟨r, hr⟩ : ∃ r : Nat, pkF L k l = (r : Int) := ⟨(pkF L k l).toNat, by omega⟩
  have hasked := h.asked hM hl hk
  have hahead := h.ahead hM hl hk
  rw [hr] at hp hA hasked hahead ⊢
  rw [Int.toNat_natCast] at hA hasked hahead ⊢
  have hrm : r < R.length := by omega
  have hwl := h.wl
  have hlw : l < w.length := by omega
  have e0 : atW w l = -1 := by
    rcases h.inv.ind l hl with e | ⟨s, e, _⟩
    · exact e
    · unfold atW at e; omega
  have hq := hM.rroom r hrm
  have hset := atW_set hlw (r : Int)
  have hcs : cntF (w.set l (r : Int)) (r : Int) = cnt (Mkt.upd (atW w) l (r : Int)) L.length r := by rw [cntF_cnt (L := L) (by rw [List.length_set]; exact hwl), hset]
  have hin : cnt (Mkt.upd (atW w) l (r : Int)) L.length r = cnt (atW w) L.length r + 1 := Mkt.cnt_upd_in hl (by omega)
  have hroom : cnt (atW w) L.length r ≤ (rmF R r).toNat := h.inv.room r hrm
  refine ⟨by rw [refF_length, List.length_set]; exact hwl, by rw [List.length_set]; exact h.kl, h.kin' hl hk, ?_⟩
  unfold refF
  by_cases hc : rmF R r < (cntF (w.set l (r : Int)) (r : Int) : Nat)
  · rw [if_pos hc]
    obtain ⟨z, z1, z2, z3, z4⟩ := worst_at (R := R) (w := w.set l (r : Int)) (r := r) (by omega)
    have hzl : z < L.length := by rw [List.length_set] at z2; omega
    rw [z1, Int.toNat_natCast, atW_set z2, hset]
    refine h.inv.push hl hrm e0 hasked hahead hA ?_ hzl (by rw [← hset]; exact z3) fun x hx e hne => ?_
    · show cnt (atW w) L.length r = (rmF R r).toNat
      omega
    · rw [← hset] at e
      have hx : x < L.length := hx
      have h1 : placeF (lkF R r) (x : Int) ≤ placeF (lkF R r) (z : Int) := z4 x (by rw [List.length_set]; omega) e
      show placeF (lkF R r) (x : Int) < placeF (lkF R r) (z : Int)
      have hlx : ∀ y, y < L.length → atW (w.set l (r : Int)) y = (r : Int) → likesF L R y r = true := fun y hy ey => by
        by_cases e : y = l
        · subst e; exact hA
        · rw [hset, Mkt.upd_ne e] at ey; exact (h.inv.acc hy ey).2.1
      have h2 : ¬ placeF (lkF R r) (x : Int) = placeF (lkF R r) (z : Int) := fun c => by
        have := placeF_inj (likes_l (hlx x hx e)).2 c
        omega
      omega
  · rw [if_neg hc, hset]
    exact h.inv.take hl hrm e0 hasked hahead hA (show cnt (atW w) L.length r < (rmF R r).toNat by omega)
/-- What is still to be asked. -/
def remL (L : List Ag) (k : List Int) : Nat := sumN (fun l => (lkF L l).length - (k.getD l 0).toNat) L.length
theorem sumN_lt {f g : Nat → Nat} {n i : Nat} (h : ∀ j, j < n → f j ≤ g j) (hi : i < n) (hlt : f i < g i) : sumN f n < sumN g n := by
  have h1 := sumN_le h
  refine Nat.lt_of_le_of_ne h1 fun e => ?_
  have := sumN_eq h (by omega) i hi
  omega
theorem remL_lt (h : LInv L R w k) (hl : l < L.length) (hk : ¬ k.getD l 0 = ((lkF L l).length : Nat)) : remL L (k.set l (k.getD l 0 + 1)) < remL L k := by
  have hkl := h.kl
  have h1 := h.kin l hl
  have e : ∀ i, (k.set l (k.getD l 0 + 1)).getD i 0 = if i = l then k.getD l 0 + 1 else k.getD i 0 := fun i => getD_setW (w := k) (l := l) (by omega) (k.getD l 0 + 1) i
  unfold remL
  refine sumN_lt (fun j hj => ?_) hl ?_
  · simp only [e]; split
    · rename_i c; subst c; omega
    · exact Nat.le_refl _
  · simp only [e, if_true]; omega
def stuckL (L : List Ag) (w k : List Int) (l : Nat) : Prop := 0 ≤ w.getD l 0 ∨ k.getD l 0 = ((lkF L l).length : Nat)
theorem LInv.done (h : LInv L R w k) (hs : ∀ l, l < L.length → stuckL L w k l) : IsL L R w := by
  have := h.inv.done fun l hl e r hr hA => by
    have hl : l < L.length := hl
    have e : w.getD l 0 = -1 := e
    rcases hs l hl with c | c
    · omega
    · have h1 := (likes_l hA).1
      refine ⟨h1, ?_⟩
      rw [c]; exact placeF_lt.1
  exact ⟨h.wl, this.1, this.2⟩
end

/-! ### The right asks -/
def AsR (R : List Ag) (k : List Int) (r l : Nat) : Prop := 0 ≤ placeF (lkF R r) (l : Int) ∧ placeF (lkF R r) (l : Int) < k.getD r 0
structure RInv (L R : List Ag) (w k : List Int) : Prop where
  wl : w.length = L.length
  kl : k.length = R.length
  kin : ∀ r, r < R.length → 0 ≤ k.getD r 0 ∧ k.getD r 0 ≤ ((lkF R r).length : Nat)
  inv : InvR (mkt L R) (atW w) (AsR R k)
section
variable {L R : List Ag} {w k : List Int} {r : Nat}
theorem cnt_none {n r : Nat} {w : Nat → Int} (h : ∀ l, l < n → w l = -1) : cnt w n r = 0 := by
  have h0 : ∀ n, cntB (fun _ => false) n = 0 := fun n => by
    induction n with
    | zero => rfl
    | succ n ih => simp only [cntB, ih]; rfl
  rw [← h0 n]
  exact cntB_same fun i hi => by rw [h i hi]; exact decide_eq_false (by omega)
theorem RInv.start : RInv L R (mapr L.length fun _ => -1) (List.replicate R.length 0) := by
  have hw : ∀ l, l < L.length → atW (mapr L.length fun _ => -1) l = -1 := fun l hl => by unfold atW; rw [mapr_getD 0 hl]
  have hk : ∀ l, l < R.length → (List.replicate R.length (0 : Int)).getD l 0 = 0 := fun l hl => by simp [List.getD_eq_getElem?_getD, hl]
  have hna : ∀ r l, r < R.length → ¬ AsR R (List.replicate R.length 0) r l := fun r l hl c => by unfold AsR at c; rw [hk r hl] at c; omega
  refine ⟨by simp, by simp, fun l hl => by rw [hk l hl]; omega, ⟨fun l hl => .inl (hw l hl), fun r hr => ?_, fun r l x hr _ _ h => absurd h (hna r l hr), fun r l hr _ h => absurd h (hna r l hr), fun μ _ r l hr _ h => absurd h (hna r l hr)⟩⟩
  have : cnt (atW (mapr L.length fun _ => -1)) L.length r = 0 := cnt_none hw
  show cnt _ L.length r ≤ _
  omega
theorem RInv.pk (h : RInv L R w k) (hM : MOk L R) (hr : r < R.length) (hk : ¬ k.getD r 0 = ((lkF R r).length : Nat)) : 0 ≤ pkF R k r ∧ pkF R k r < (L.length : Nat) ∧ (k.getD r 0).toNat < (lkF R r).length ∧ placeF (lkF R r) (pkF R k r) = k.getD r 0 := by
  have h1 := h.kin r hr
  have h2 : (k.getD r 0).toNat < (lkF R r).length := by omega
  have h3 := hM.rin r hr _ h2
  have h4 := hM.rone r hr _ h2
  unfold pkF
  exact ⟨h3.1, h3.2, h2, by rw [h4]; omega⟩
theorem RInv.asked (h : RInv L R w k) (hM : MOk L R) (hr : r < R.length) (hk : ¬ k.getD r 0 = ((lkF R r).length : Nat)) (i j : Nat) : AsR R (k.set r (k.getD r 0 + 1)) i j ↔ AsR R k i j ∨ (i = r ∧ j = (pkF R k r).toNat) := by
  have hp := h.pk hM hr hk
  have hkl := h.kl
  have e := getD_setW (w := k) (l := r) (by omega) (k.getD r 0 + 1) i
  unfold AsR
  unfold atW Mkt.upd at e
  rw [e]
  by_cases ei : i = r
  · subst ei
    rw [if_pos rfl]
    constructor
    · rintro ⟨h1, h2⟩
      by_cases e1 : placeF (lkF R i) (j : Int) < k.getD i 0
      · exact .inl ⟨h1, e1⟩
      · have := placeF_inj h1 (show placeF (lkF R i) (j : Int) = placeF (lkF R i) (pkF R k i) by omega)
        exact .inr ⟨rfl, by omega⟩
    · rintro (⟨h1, h2⟩ | ⟨_, h2⟩)
      · exact ⟨h1, by omega⟩
      · have e3 : (j : Int) = pkF R k i := by omega
        rw [e3, hp.2.2.2]
        have := h.kin i hr
        omega
  · rw [if_neg ei]
    exact ⟨fun c => .inl c, fun c => c.elim id fun d => absurd d.1 ei⟩
theorem RInv.ahead (h : RInv L R w k) (hM : MOk L R) (hr : r < R.length) (hk : ¬ k.getD r 0 = ((lkF R r).length : Nat)) (x : Nat) (hA : (mkt L R).A x r) (hlt : (mkt L R).rp r x < (mkt L R).rp r (pkF R k r).toNat) : AsR R k r x := by
  have hp := h.pk hM hr hk
  have h1 := (likes_l hA).2
  have e : ((pkF R k r).toNat : Int) = pkF R k r := by omega
  have hlt : placeF (lkF R r) (x : Int) < placeF (lkF R r) ((pkF R k r).toNat : Int) := hlt
  rw [e, hp.2.2.2] at hlt
  exact ⟨h1, hlt⟩
theorem RInv.fresh (h : RInv L R w k) (hM : MOk L R) (hr : r < R.length) (hk : ¬ k.getD r 0 = ((lkF R r).length : Nat)) : ¬ AsR R k r (pkF R k r).toNat := fun c => by
  have hp := h.pk hM hr hk
  have e : ((pkF R k r).toNat : Int) = pkF R k r := by omega
  unfold AsR at c
  rw [e, hp.2.2.2] at c
  omega
theorem RInv.kin' (h : RInv L R w k) (hr : r < R.length) (hk : ¬ k.getD r 0 = ((lkF R r).length : Nat)) : ∀ i, i < R.length → 0 ≤ (k.set r (k.getD r 0 + 1)).getD i 0 ∧ (k.set r (k.getD r 0 + 1)).getD i 0 ≤ ((lkF R i).length : Nat) := fun i hi => by
  have hkl := h.kl
  have e := getD_setW (w := k) (l := r) (by omega) (k.getD r 0 + 1) i
  unfold atW Mkt.upd at e
  rw [e]
  have := h.kin i hi
  split
  · rename_i ei; subst ei; omega
  · exact this
/-- How good somebody is whom one has. -/
theorem RInv.lv (h : RInv L R w k) {l : Nat} (hl : l < L.length) : (w.getD l 0 = -1 ∧ levF (lkF L l) (w.getD l 0) = ((lkF L l).length : Nat)) ∨ (0 ≤ w.getD l 0 ∧ 0 ≤ placeF (lkF L l) (w.getD l 0) ∧ levF (lkF L l) (w.getD l 0) = placeF (lkF L l) (w.getD l 0)) := by
  rcases h.inv.ind l hl with e | ⟨s, e, _, hA, _⟩
  · have e : w.getD l 0 = -1 := e
    exact .inl ⟨e, by rw [e, levF_no]⟩
  · have e : w.getD l 0 = (s : Int) := e
    have h1 := (likes_l hA).1
    rw [e]
    exact .inr ⟨by omega, h1, levF_at h1⟩
theorem RInv.no (h : RInv L R w k) (hM : MOk L R) (hr : r < R.length) (hk : ¬ k.getD r 0 = ((lkF R r).length : Nat))
    (hc : likesF L R (pkF R k r).toNat r = true → ¬ w.getD (pkF R k r).toNat 0 < 0 ∧ ¬ placeF (lkF L (pkF R k r).toNat) (r : Int) < placeF (lkF L (pkF R k r).toNat) (w.getD (pkF R k r).toNat 0)) : RInv L R w (k.set r (k.getD r 0 + 1)) := by
  have hp := h.pk hM hr hk
  refine ⟨h.wl, by rw [List.length_set]; exact h.kl, h.kin' hr hk, h.inv.keep (show (pkF R k r).toNat < L.length by omega) hr (h.fresh hM hr hk) (h.asked hM hr hk) (fun x _ hA hb => h.ahead hM hr hk x hA hb) fun hA => ?_⟩
  have h1 := hc hA
  have h2 := (likes_l hA).1
  show levF (lkF L (pkF R k r).toNat) (w.getD (pkF R k r).toNat 0) ≤ levF (lkF L (pkF R k r).toNat) (r : Int)
  rw [levF_at h2]
  rcases h.lv (l := (pkF R k r).toNat) (by omega) with ⟨e, _⟩ | ⟨_, _, e⟩
  · omega
  · rw [e]; omega
theorem RInv.yes (h : RInv L R w k) (hM : MOk L R) (hr : r < R.length) (hk : ¬ k.getD r 0 = ((lkF R r).length : Nat)) (hn : ¬ (cntF w (r : Int) : Int) = rmF R r) (hA : likesF L R (pkF R k r).toNat r = true)
    (hc : w.getD (pkF R k r).toNat 0 < 0 ∨ placeF (lkF L (pkF R k r).toNat) (r : Int) < placeF (lkF L (pkF R k r).toNat) (w.getD (pkF R k r).toNat 0)) : RInv L R (w.set (pkF R k r).toNat (r : Int)) (k.set r (k.getD r 0 + 1)) := by
  have hp := h.pk hM hr hk
  have hwl := h.wl
  have h2 := (likes_l hA).1
  have hroom : cnt (atW w) L.length r ≤ (rmF R r).toNat := h.inv.room r hr
  have hq := hM.rroom r hr
  rw [cntF_cnt hwl] at hn
  have e := atW_set (w := w) (l := (pkF R k r).toNat) (by omega) (r : Int)
  refine ⟨by rw [List.length_set]; exact hwl, by rw [List.length_set]; exact h.kl, h.kin' hr hk, ?_⟩
  rw [e]
  refine h.inv.take (show (pkF R k r).toNat < L.length by omega) hr (h.fresh hM hr hk) (h.asked hM hr hk) (fun x _ hA hb => h.ahead hM hr hk x hA hb) hA (show cnt (atW w) L.length r < (rmF R r).toNat by omega) ?_
  show levF (lkF L (pkF R k r).toNat) (r : Int) < levF (lkF L (pkF R k r).toNat) (w.getD (pkF R k r).toNat 0)
  rw [levF_at h2]
  rcases h.lv (l := (pkF R k r).toNat) (by omega) with ⟨_, e⟩ | ⟨e0, _, e⟩
  · rw [e]; exact placeF_lt.1
  · rw [e]; omega
theorem remR_lt (h : RInv L R w k) (hr : r < R.length) (hk : ¬ k.getD r 0 = ((lkF R r).length : Nat)) : remL R (k.set r (k.getD r 0 + 1)) < remL R k := by
  have hkl := h.kl
  have h1 := h.kin r hr
  have e : ∀ i, (k.set r (k.getD r 0 + 1)).getD i 0 = if i = r then k.getD r 0 + 1 else k.getD i 0 := fun i => getD_setW (w := k) (l := r) (by omega) (k.getD r 0 + 1) i
  unfold remL
  refine sumN_lt (fun j hj => ?_) hr ?_
  · simp only [e]; split
    · rename_i c; subst c; omega
    · exact Nat.le_refl _
  · simp only [e, if_true]; omega
def stuckR (R : List Ag) (w k : List Int) (r : Nat) : Prop := k.getD r 0 = ((lkF R r).length : Nat) ∨ (cntF w (r : Int) : Int) = rmF R r
theorem RInv.done (h : RInv L R w k) (hM : MOk L R) (hs : ∀ r, r < R.length → stuckR R w k r) : IsR L R w := by
  have := h.inv.done fun r hr hc l hl hA => by
    have hr : r < R.length := hr
    have hc : cnt (atW w) L.length r < (rmF R r).toNat := hc
    have hq := hM.rroom r hr
    rcases hs r hr with c | c
    · have h1 := (likes_l hA).2
      refine ⟨h1, ?_⟩
      rw [c]; exact placeF_lt.1
    · rw [cntF_cnt h.wl] at c; omega
  exact ⟨h.wl, this.1, this.2⟩
end

end Go.Proofs.YtpapnkphlmickaaDoor

