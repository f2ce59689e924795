/- Gale and Shapley, the rural hospitals, the lattice, honesty. Conditions: each theorem names its own. -/
import Derived.Test.YtpapnkphlmickaaDoorProg
import Derived.Test.YtpapnkphlmickaaDoorFk
import Derived.Test.YtpapnkphlmickaaDoorAbsS
namespace Go.Proofs.YtpapnkphlmickaaDoor
open Go.Abs
set_option linter.unusedVariables false
set_option linter.unusedSimpArgs false

open Mkt (St Le)
/-! ### Some way to go with each other -/
def withV (L : List Ag) (raw : List Int) (i : Nat) : Int := if 0 < ((lkF L i).length : Int) ∧ 0 < pickF (atF raw (2 * i)) 5 then (lkF L i).getD (pickF (atF raw (2 * i + 1)) ((lkF L i).length : Nat)).toNat 0 else -1
theorem withV_yes {L : List Ag} {raw : List Int} {i : Nat} (h : 0 < ((lkF L i).length : Int) ∧ 0 < pickF (atF raw (2 * i)) 5) : withV L raw i = (lkF L i).getD (pickF (atF raw (2 * i + 1)) ((lkF L i).length : Nat)).toNat 0 := if_pos h
theorem withV_no {L : List Ag} {raw : List Int} {i : Nat} (h : ¬ 0 < ((lkF L i).length : Int) ∨ ¬ 0 < pickF (atF raw (2 * i)) 5) : withV L raw i = -1 := if_neg fun c => h.elim (fun d => d c.1) (fun d => d c.2)
def withF (L : List Ag) (raw : List Int) : List Int := mapr L.length (withV L raw)
/-! ### Nobody gets a better one by telling other likes -/
/-- Two markets that are the same but for what one of the left likes. -/
structure SameBut (K K' : Mkt) (w : Nat) : Prop where
  n : K'.n = K.n
  m : K'.m = K.m
  q : ∀ r, K'.q r = K.q r
  rp : ∀ r l, K'.rp r l = K.rp r l
  A : ∀ l, l ≠ w → ∀ r, K'.A l r ↔ K.A l r
  lv : ∀ l, l ≠ w → ∀ x, K'.lv l x = K.lv l x
theorem SameBut.st {K K' : Mkt} {w : Nat} {μ : Nat → Int} (h : SameBut K K' w) (hm : St K μ)
    (hind : μ w = -1 ∨ ∃ r : Nat, μ w = (r : Int) ∧ r < K.m ∧ K'.A w r)
    (hnob : ∀ r, r < K.m → K'.A w r → K'.lv w (r : Int) < K'.lv w (μ w) → K.A w r ∧ K.lv w (r : Int) < K.lv w (μ w)) : St K' μ := {
  ind l hl := by
    rw [h.n] at hl; rw [h.m]
    by_cases e : l = w
    · subst e; exact hind
    · rcases hm.ind l hl with c | ⟨r, a, b, c⟩
      · exact .inl c
      · exact .inr ⟨r, a, b, (h.A l e r).2 c⟩
  room r hr := by rw [h.m] at hr; rw [h.n, h.q]; exact hm.room r hr
  nob l hl r hr hA hlt := by
    rw [h.n] at hl; rw [h.m] at hr
    have h0 : K.A l r ∧ K.lv l (r : Int) < K.lv l (μ l) := by
      by_cases e : l = w
      · subst e; exact hnob r hr hA hlt
      · rw [h.lv l e, h.lv l e] at hlt
        exact ⟨(h.A l e r).1 hA, hlt⟩
    have h1 := hm.nob l hl r hr h0.1 h0.2
    rw [h.n, h.q]
    exact ⟨h1.1, fun x hx e => by rw [h.rp, h.rp]; exact h1.2 x hx e⟩ }
theorem placeF_of {l : List Int} {x : Int} {k : Nat} (h : k < l.length) (e : l.getD k 0 = x) (hb : ∀ j, j < k → ¬ l.getD j 0 = x) : placeF l x = (k : Nat) := by
  unfold placeF
  rw [firstI_stop (k := k) (firstI_of fun j hj => decide_eq_false (hb j hj)) (decide_eq_true e) h]
theorem placeF_before {l : List Int} {x : Int} (h : 0 ≤ placeF l x) : ∀ j, j < (placeF l x).toNat → ¬ l.getD j 0 = x := by
  unfold placeF at *
  cases e : firstI (fun i => decide (l.getD i 0 = x)) l.length with
  | none => rw [e] at h; simp at h
  | some i => intro j hj; simp only [Int.toNat_natCast] at hj; exact of_decide_eq_false ((firstI_spec e).2.2 j hj)
theorem place_in {l : List Int} {x : Int} {j : Nat} (h : 0 ≤ placeF l x) (hj : placeF l x < (j : Nat)) : placeF (l.take j) x = placeF l x := by
  have h1 := placeF_at h
  rw [placeF_of (k := (placeF l x).toNat) (by rw [List.length_take]; omega) (by rw [take_getD (by omega)]; exact h1.2) fun i hi => by rw [take_getD (by omega)]; exact placeF_before h i hi]
  omega
theorem place_out {l : List Int} {x : Int} {j : Nat} (h : 0 ≤ placeF (l.take j) x) : placeF l x = placeF (l.take j) x ∧ placeF l x < (j : Nat) := by
  have h1 := placeF_at h
  have h2 := h1.1
  rw [List.length_take] at h2
  have e : placeF l x = placeF (l.take j) x := by
    rw [placeF_of (l := l) (k := (placeF (l.take j) x).toNat) (by omega) (by have h4 := h1.2; rwa [take_getD (by omega)] at h4) fun i hi => by
      have := placeF_before h i hi
      rwa [take_getD (by omega)] at this]
    omega
  exact ⟨e, by omega⟩
def setLk (L : List Ag) (w : Nat) (lk : List Int) : List Ag := L.set w (nmF L w, rmF L w, lk, ())
section
variable {L R : List Ag} {w : Nat} {lk : List Int}
@[simp] theorem setLk_len : (setLk L w lk).length = L.length := by unfold setLk; simp
theorem setLk_at (h : w < L.length) (i : Nat) : (setLk L w lk).getD i (ByteArray.empty, 0, [], ()) = if i = w then (nmF L w, rmF L w, lk, ()) else L.getD i (ByteArray.empty, 0, [], ()) := by
  unfold setLk
  simp only [List.getD_eq_getElem?_getD, List.getElem?_set]
  by_cases e : w = i
  · subst e; simp [h]
  · rw [if_neg e, if_neg fun c => e c.symm]
theorem lkF_set (h : w < L.length) (i : Nat) : lkF (setLk L w lk) i = if i = w then lk else lkF L i := by
  unfold lkF; rw [setLk_at h]; split <;> rfl
theorem nmF_set (h : w < L.length) (i : Nat) : nmF (setLk L w lk) i = nmF L i := by
  unfold nmF; rw [setLk_at h]
  split
  · rename_i e; subst e; rfl
  · rfl
theorem rmF_set (h : w < L.length) (i : Nat) : rmF (setLk L w lk) i = rmF L i := by
  unfold rmF; rw [setLk_at h]
  split
  · rename_i e; subst e; rfl
  · rfl
theorem setLk_app (h : w < L.length) : setLk L w lk ++ R = setLk (L ++ R) w lk := by
  unfold setLk
  have e : (L ++ R).getD w (ByteArray.empty, 0, [], ()) = L.getD w (ByteArray.empty, 0, [], ()) := by
    rw [List.getD_eq_getElem?_getD, List.getElem?_append_left h, ← List.getD_eq_getElem?_getD]
  have e1 : nmF (L ++ R) w = nmF L w := by unfold nmF; rw [e]
  have e2 : rmF (L ++ R) w = rmF L w := by unfold rmF; rw [e]
  rw [e1, e2, List.set_append_left _ _ h]
theorem map_names {A : List Ag} (h : w < A.length) : (setLk A w lk).map (fun a => a.1) = A.map (fun a => a.1) := by
  refine List.ext_getElem (by simp) fun i h1 h2 => ?_
  have h3 : i < A.length := by simpa using h2
  have := nmF_set (L := A) (w := w) (lk := lk) h i
  unfold nmF at this
  simp only [List.getElem_map]
  rw [List.getD_eq_getElem?_getD, List.getD_eq_getElem?_getD, List.getElem?_eq_getElem (by simpa using h3), List.getElem?_eq_getElem h3] at this
  exact this
theorem agE_lk {nm : ByteArray} {rm n : Int} {lk lk' : List Int} {N : List ByteArray} (h : agE nm rm lk n N = 0) (h' : someE n lk' = 0) : agE nm rm lk' n N = 0 := by
  unfold agE at h ⊢
  split at h
  · omega
  · rename_i h1
    rw [if_neg h1]
    split at h
    · omega
    · rename_i h2
      rw [if_neg h2]
      split at h
      · omega
      · rename_i h3; rw [if_neg h3]; exact h'
theorem setLk_may (h : mMayE L R = 0) (hw : w < L.length) (hs : someE (R.length : Nat) lk = 0) : mMayE (setLk L w lk) R = 0 := by
  have h1 : rMayE L R = 0 := by
    by_cases e : rMayE L R = 0
    · exact e
    · rw [mMayE_r e]; exact h
  have h2 : firstE (roomB L) L.length = 0 := (mMayE_f h1).trans h
  have hwA : w < (L ++ R).length := by rw [List.length_append]; omega
  have h3 : rMayE (setLk L w lk) R = 0 := by
    unfold rMayE at h1 ⊢
    rw [setLk_len]
    split at h1
    · omega
    · rename_i h0
      rw [if_neg h0]
      refine firstE_all fun i hi => ?_
      have h4 := firstE_zero h1 i hi
      have hN : namesF (setLk L w lk) R i = namesF L R i := by unfold namesF; rw [setLk_app hw, map_names hwA]
      have hn : nF (setLk L w lk) R i = nF L R i := by unfold nF; rw [setLk_len]
      unfold sideE at h4 ⊢
      rw [hN, hn, setLk_app hw, nmF_set hwA, rmF_set hwA, lkF_set hwA]
      by_cases e : i = w
      · subst e; rw [if_pos rfl]; refine agE_lk h4 ?_
        rw [show nF L R i = R.length from if_pos hw]; exact hs
      · rw [if_neg e]; exact h4
  rw [← mMayE_f h3, setLk_len]
  refine firstE_all fun i hi => ?_
  have := firstE_zero h2 i hi
  unfold roomB at this ⊢
  rw [rmF_set hw]; exact this
theorem sameBut {L' : List Ag} (hn : L'.length = L.length) (hl : ∀ l, l ≠ w → lkF L' l = lkF L l) : SameBut (mkt L R) (mkt L' R) w := {
  n := hn
  m := rfl
  q _ := rfl
  rp _ _ := rfl
  A l e r := by show likesF L' R l r = true ↔ likesF L R l r = true; unfold likesF; rw [hl l e]
  lv l e x := by show levF _ _ = levF _ _; rw [hl l e] }
theorem set_set (hw : w < L.length) {a b : List Int} : ∀ l, l ≠ w → lkF (setLk L w a) l = lkF (setLk L w b) l := fun l e => by rw [lkF_set hw, lkF_set hw, if_neg e, if_neg e]
theorem set_self (hw : w < L.length) {a : List Int} : ∀ l, l ≠ w → lkF (setLk L w a) l = lkF L l := fun l e => by rw [lkF_set hw, if_neg e]
theorem some_one {n : Int} {r : Nat} (h : (r : Int) < n) : someE n [(r : Int)] = 0 := by
  unfold someE
  refine firstE_all fun k hk => ?_
  have hk0 : k = 0 := by simpa using hk
  subst hk0
  unfold someB
  rw [if_neg (by simp; omega), if_neg fun c => ?_]
  have := placeF_le (l := [(r : Int)]) (k := 0) (by simp)
  simp only [List.getD_cons_zero] at this c
  omega
theorem place_one {r s : Int} (h : 0 ≤ placeF [r] s) : s = r := by
  have := placeF_at h
  have h0 : (placeF [r] s).toNat = 0 := by have := this.1; simp at this; omega
  rw [h0] at this; exact this.2.symm
/-- Who tells other likes than its own gets no better one. -/
theorem honest (hM : mMayE L R = 0) (hw : w < L.length) (hs : someE (R.length : Nat) lk = 0) {r : Nat} (e : (leftV (setLk L w lk) R).getD w 0 = (r : Int)) (hp : 0 ≤ placeF (lkF L w) (r : Int)) :
    levF (lkF L w) ((leftV L R).getD w 0) ≤ placeF (lkF L w) (r : Int) := by
  have hb := (leftV_spec (setLk_may hM hw hs)).2.1
  generalize hbE : leftV (setLk L w lk) R = b at hb e
  have hA := hb.acc (l := w) (r := r) (by show w < (setLk L w lk).length; rw [setLk_len]; exact hw) e
  have hr : r < R.length := hA.1
  have hR : 0 ≤ placeF (lkF R r) (w : Nat) := (likes_l hA.2).2
  have acc : ∀ {a : List Int} {s : Nat}, 0 ≤ placeF a (s : Int) → 0 ≤ placeF (lkF R s) (w : Nat) → (mkt (setLk L w a) R).A w s := fun {a s} h1 h2 => by
    show likesF (setLk L w a) R w s = true
    unfold likesF; rw [lkF_set hw, if_pos rfl]; simp [h1, h2]
  have acc' : ∀ {a : List Int} {s : Nat}, (mkt (setLk L w a) R).A w s → 0 ≤ placeF a (s : Int) ∧ 0 ≤ placeF (lkF R s) (w : Nat) := fun {a s} h => by
    have := likes_l h
    rwa [lkF_set hw, if_pos rfl] at this
  have lev : ∀ {a : List Int} {x : Int}, (mkt (setLk L w a) R).lv w x = levF a x := fun {a x} => by
    show levF (lkF (setLk L w a) w) x = _
    rw [lkF_set hw, if_pos rfl]
  have hM1 := setLk_may (lk := [(r : Int)]) hM hw (some_one (by omega))
  have hlen : ∀ a : List Int, (setLk L w a).length = L.length := fun a => setLk_len
  have p1 : placeF [(r : Int)] (r : Int) = 0 := by have := placeF_le (l := [(r : Int)]) (k := 0) (by simp); simp only [List.getD_cons_zero] at this; omega
  have b1 : St (mkt (setLk L w [(r : Int)]) R) (atW b) := by
    refine (sameBut (by simp) (set_set hw)).st hb (.inr ⟨r, e, hr, acc (by rw [p1]; omega) hR⟩) fun s hsR hAs hlt => ?_
    have : (s : Int) = (r : Int) := place_one (acc' hAs).1
    rw [show atW b w = (r : Int) from e, this] at hlt
    omega
  obtain ⟨k, hk⟩ : ∃ k : Nat, placeF (lkF L w) (r : Int) = (k : Nat) := ⟨_, (Int.toNat_of_nonneg hp).symm⟩
  have hsw : someE (R.length : Nat) (lkF L w) = 0 := by
    have h1 : rMayE L R = 0 := by
      by_cases e : rMayE L R = 0
      · exact e
      · rw [mMayE_r e]; exact hM
    unfold rMayE at h1
    split at h1
    · omega
    · have h4 := firstE_zero h1 w (by omega)
      unfold sideE at h4
      rw [show nF L R w = R.length from if_pos hw] at h4
      have h5 := (agE_zero h4).2.2
      rwa [show lkF (L ++ R) w = lkF L w by unfold lkF; rw [List.getD_eq_getElem?_getD, List.getElem?_append_left hw, ← List.getD_eq_getElem?_getD]] at h5
  have hM2 := setLk_may (lk := (lkF L w).take (k + 1)) hM hw (some_take hsw _)
  obtain ⟨w2, hw2⟩ := exists_L hM2
  have hS2 := hw2.2.1
  have hwn : w < (mkt (setLk L w ((lkF L w).take (k + 1))) R).n := by show w < (setLk L w _).length; rw [hlen]; exact hw
  have pr : placeF ((lkF L w).take (k + 1)) (r : Int) = (k : Nat) := by rw [place_in hp (by omega), hk]
  have hne : ¬ atW w2 w = -1 := fun c => by
    have m1 : St (mkt (setLk L w [(r : Int)]) R) (atW w2) := by
      refine (sameBut (by simp) (set_set hw)).st hS2 (.inl c) fun s hsR hAs hlt => ?_
      have es : (s : Int) = (r : Int) := place_one (acc' hAs).1
      have hA2 : (mkt (setLk L w ((lkF L w).take (k + 1))) R).A w s := acc (by rw [es, pr]; omega) (acc' hAs).2
      refine ⟨hA2, ?_⟩
      rw [c]
      exact (mkt (setLk L w ((lkF L w).take (k + 1))) R).lbot w s hA2
    have hl1 := leftV_spec hM1
    have := ((Mkt.rural_two hl1.2.1 hl1.2.2 b1 m1).2 w (by show w < (setLk L w _).length; rw [hlen]; exact hw)).2 c
    rw [show atW b w = (r : Int) from e] at this
    omega
  obtain ⟨s, es, hsm, hAs⟩ := (hS2.ind w hwn).resolve_left hne
  have hs2 := acc' hAs
  have ho := place_out hs2.1
  have m0 : St (mkt L R) (atW w2) := by
    refine (sameBut (by simp) (fun l e => (set_self hw l e).symm)).st hS2 (.inr ⟨s, es, hsm, ?_⟩) fun t ht hAt hlt => ?_
    · show likesF L R w s = true
      unfold likesF
      rw [decide_eq_true (show 0 ≤ placeF (lkF L w) (s : Nat) by omega), decide_eq_true hs2.2]; rfl
    · have h6 := likes_l (show likesF L R w t = true from hAt)
      rw [es] at hlt ⊢
      have h7 : levF (lkF L w) (t : Int) < levF (lkF L w) (s : Int) := hlt
      rw [levF_at h6.1, levF_at (by omega)] at h7
      have h8 := place_in (j := k + 1) h6.1 (by omega)
      refine ⟨acc (by omega) h6.2, ?_⟩
      rw [lev, lev, levF_at (by omega), levF_at hs2.1]
      omega
  have hle : levF (lkF L w) (atW (leftV L R) w) ≤ levF (lkF L w) (atW w2 w) := (leftV_spec hM).2.2 _ m0 w hw
  rw [es, levF_at (by omega)] at hle
  have : levF (lkF L w) ((leftV L R).getD w 0) ≤ placeF (lkF L w) (s : Int) := hle
  omega
/-! ### How far from best -/
theorem gapF_le {l : List Int} {x : Int} : gapF l x ≤ (l.length : Nat) := by
  have := placeF_lt (l := l) (x := x)
  unfold gapF; split <;> omega
theorem gapF_at {l : List Int} {x : Int} (h : 0 ≤ placeF l x) : gapF l x = placeF l x := by unfold gapF; rw [if_neg (by omega)]
theorem gap_lev (hM : MOk L R) {v : List Int} (hS : St (mkt L R) (atW v)) {i : Nat} (hi : i < L.length) : gapF (lkF L i) (v.getD i 0) = levF (lkF L i) (v.getD i 0) := by
  rcases hS.ind i hi with e | ⟨r, e, _, hA⟩
  · have e' : v.getD i 0 = -1 := e
    rw [e', levF_no]
    unfold gapF
    rw [if_pos]
    rcases Int.lt_or_le (placeF (lkF L i) (-1)) 0 with h | h
    · exact h
    · have h1 := placeF_at h
      have := (hM.lin i hi _ h1.1).1
      omega
  · have e' : v.getD i 0 = (r : Int) := e
    have h1 := (likes_l (show likesF L R i r = true from hA)).1
    rw [e', levF_at h1, gapF_at h1]
theorem gap_le (hM : MOk L R) {v u : List Int} (hS : St (mkt L R) (atW v)) (hU : St (mkt L R) (atW u)) (hle : Le (mkt L R) (atW v) (atW u)) {i : Nat} (hi : i < L.length) : gapF (lkF L i) (v.getD i 0) ≤ gapF (lkF L i) (u.getD i 0) := by
  rw [gap_lev hM hS hi, gap_lev hM hU hi]; exact hle i hi
theorem honest_gap (hM : mMayE L R = 0) (hw : w < L.length) (hs : someE (R.length : Nat) lk = 0) :
    ((0 ≤ (leftV (setLk L w lk) R).getD w 0 ∧ placeF (lkF L w) ((leftV (setLk L w lk) R).getD w 0) < 0) ∨ gapF (lkF L w) ((leftV L R).getD w 0) ≤ gapF (lkF L w) ((leftV (setLk L w lk) R).getD w 0)) := by
  rcases Int.lt_or_le (placeF (lkF L w) ((leftV (setLk L w lk) R).getD w 0)) 0 with h | h
  · right
    have : gapF (lkF L w) ((leftV (setLk L w lk) R).getD w 0) = ((lkF L w).length : Nat) := by unfold gapF; rw [if_pos h]
    rw [this]; exact gapF_le
  · right
    have h1 := placeF_at h
    have h2 := ((mok hM).lin w hw _ h1.1).1
    obtain ⟨r, e⟩ : ∃ r : Nat, (leftV (setLk L w lk) R).getD w 0 = (r : Int) := ⟨_, (Int.toNat_of_nonneg (by omega)).symm⟩
    rw [e] at h ⊢
    have := honest hM hw hs e h
    rw [gapF_at h, gap_lev (mok hM) (leftV_spec hM).2.1 hw]
    exact this
theorem rural_neg {a v : List Int} (ha : St (mkt L R) (atW a)) (hv : St (mkt L R) (atW v)) (hL : Le (mkt L R) (atW a) (atW v)) {i : Nat} (hi : i < L.length) : decide (a.getD i 0 < 0) = decide (v.getD i 0 < 0) := by
  have h := (Mkt.rural_cnt ha hv hL).2 i hi
  have neg : ∀ {u : List Int}, St (mkt L R) (atW u) → (u.getD i 0 < 0 ↔ atW u i = -1) := fun {u} hu => by
    rcases hu.ind i hi with e | ⟨r, e, _, _⟩
    · have e' : u.getD i 0 = -1 := e
      rw [e', e]; simp
    · have e' : u.getD i 0 = (r : Int) := e
      rw [e', e]; constructor <;> intro <;> omega
  rw [Bool.eq_iff_iff, decide_eq_true_eq, decide_eq_true_eq, neg ha, neg hv, h]
theorem goesI_same {a v : List Int} {x : Int} : ∀ n, (∀ l, l < n → (a.getD l 0 = x ↔ v.getD l 0 = x)) → goesI a x n = goesI v x n
  | 0, _ => rfl
  | n + 1, h => by
    have ih := goesI_same n fun l hl => h l (by omega)
    have := h n (by omega)
    simp only [goesI]
    by_cases e : a.getD n 0 = x
    · rw [if_pos e, if_pos (this.1 e), ih]
    · rw [if_neg e, if_neg fun c => e (this.2 c), ih]
theorem rural_goes {a v : List Int} (hM : MOk L R) (ha : St (mkt L R) (atW a)) (hv : St (mkt L R) (atW v)) (hL : Le (mkt L R) (atW a) (atW v)) (hla : a.length = L.length) (hlv : v.length = L.length) {j : Nat} (hj : j < R.length) :
    (goesI a (j : Nat) a.length).length = (goesI v (j : Nat) v.length).length ∧ (((goesI a (j : Nat) a.length).length : Int) < rmF R j → goesI a (j : Nat) a.length = goesI v (j : Nat) v.length) := by
  have h := (Mkt.rural_cnt ha hv hL).1 j hj
  rw [goesI_cnt, goesI_cnt, hla, hlv]
  refine ⟨h, fun hr => goesI_same _ fun l hl => Mkt.rural_same ha hv hL hj ?_ hl⟩
  show cnt (atW a) L.length j < (rmF R j).toNat
  omega
end

set_option maxRecDepth 1000000 in
set_option maxHeartbeats 1000000 in
theorem withOf_fc (L R : List Ag) (raw : List Int) (hl6 : L.length ≤ 6) : FC Tryd.prog 31 [.agg [.seq (ByteArray × Int × List Int × Unit) (ByteArray.empty, 0, [], ()) (fun p => [.str p.1, .i p.2.1, .ints p.2.2.1]) L, .seq (ByteArray × Int × List Int × Unit) (ByteArray.empty, 0, [], ()) (fun p => [.str p.1, .i p.2.1, .ints p.2.2.1]) R], .ints raw] (.ints (withF L raw)) := by
  refine FC.intro Tryd.func31 rfl (Nat.le_of_ble_eq_true rfl) fun hfit => ?_
  have fit0 := hfit _ (.head _)
  obtain ⟨fitl1, fitr1⟩ := (hfit _ (.tail _ (.head _))).ints
  have hfl : L.length ≤ 281474976710656 := by cases fit0 with | agg _ h => exact (h 0 (by simp)).len
  have hfr : R.length ≤ 281474976710656 := by cases fit0 with | agg _ h => exact (h 1 (by simp)).len
  have hfa : ∀ i, i < L.length → (lkF L i).length ≤ 281474976710656 ∧ (nmF L i).size ≤ 281474976710656 := fun i hi => by cases fit0 with | agg _ h => exact ⟨((h 0 (by simp)).elem (getD_mem (ByteArray.empty, 0, [], ()) hi) (c := .ints (lkF L i)) (List.mem_cons_of_mem _ (List.mem_cons_of_mem _ List.mem_cons_self))).len, ((h 0 (by simp)).elem (getD_mem (ByteArray.empty, 0, [], ()) hi) (c := .str (nmF L i)) List.mem_cons_self).str_len⟩
  have hfb : ∀ i, i < R.length → (lkF R i).length ≤ 281474976710656 ∧ (nmF R i).size ≤ 281474976710656 := fun i hi => by cases fit0 with | agg _ h => exact ⟨((h 1 (by simp)).elem (getD_mem (ByteArray.empty, 0, [], ()) hi) (c := .ints (lkF R i)) (List.mem_cons_of_mem _ (List.mem_cons_of_mem _ List.mem_cons_self))).len, ((h 1 (by simp)).elem (getD_mem (ByteArray.empty, 0, [], ()) hi) (c := .str (nmF R i)) List.mem_cons_self).str_len⟩
  refine awp_seq ?_
  refine awp_region rfl (.n (fun _ => op_box (.plain rfl) (by simp)) (.n (fun _ => op_assign (.plain rfl)) (.nil _))) ?_
  refine awp_seq ?_
  refine awp_region rfl (.n (fun _ => op_assign (.plain rfl)) (.nil _)) ?_
  refine awp_seq ?_
  refine awp_seq ?_
  refine awp_region rfl (.n (fun _ => op_assign (.plain rfl)) (.nil _)) ?_
  refine awp_block ?_
  refine awp_ent (Ent.begin 5 1005 3 1 Int 0 (fun n => [.int .i64 n]) rfl rfl rfl) ?_
  refine awp_loop (σ := Nat) (fun (i : Nat) => i ≤ L.length) (fun (i : Nat) => ⟨[(1, .pv (.ints raw)), (2, .pv (.rd [.seq (ByteArray × Int × List Int × Unit) (ByteArray.empty, 0, [], ()) (fun p => [.str p.1, .i p.2.1, .ints p.2.2.1]) L, .seq (ByteArray × Int × List Int × Unit) (ByteArray.empty, 0, [], ()) (fun p => [.str p.1, .i p.2.1, .ints p.2.2.1]) R])), (5, .own 1005), (6, .int (i : Nat))], [(1005, .arr 3 1 Int 0 (fun n => [.int .i64 n]) (mapr i (withV L raw)))]⟩) (fun (i : Nat) => L.length - i) 0 ?_ (Ent.kept ⟨rfl, rfl, rfl, rfl, trivial⟩ ⟨rfl, trivial⟩) ?_
  · exact Nat.zero_le _
  rintro i hp
  try dsimp only at hp
  have hi := hp
  refine awp_seq ?_
  refine awp_seq ?_
  refine awp_region rfl (.n (fun _ => op_move (.plain rfl)) (.n (fun _ => op_fieldAddr Tryd.underlying24 rfl rfl Tryd.sizeOf22 (.plain rfl)) (.n (fun _ => op_load Tryd.isAgg22 (.plain rfl)) (.n (fun _ => op_len (s := 0) Tryd.underlying22 (.plain rfl)) (.n (fun _ => op_lss (.plain rfl) (.plain rfl)) (.nil _)))))) ?_
  refine awp_cond rfl (fun h => ?_) (fun h => ?_)
  · (try simp only [decide_eq_true_eq, decide_eq_false_iff_not, Bool.and_eq_true, Bool.or_eq_true, Bool.and_eq_false_iff, Bool.or_eq_false_iff, Bool.not_eq_true', Bool.not_eq_false', Bool.not_eq_true, Bool.not_eq_false, Bool.true_eq_false, Bool.false_eq_true] at h); (try simp only [foldN, foldR, foldL, Int.toNat_natCast] at h)
    refine awp_skip ?_
    refine awp_seq ?_
    refine awp_block ?_
    refine awp_seq ?_
    refine awp_region rfl (.n (fun _ => op_assign (.plain rfl)) (.nil _)) ?_
    refine awp_seq ?_
    refine awp_seq ?_
    refine awp_region rfl (.n (fun _ => op_fieldAddr Tryd.underlying24 rfl rfl Tryd.sizeOf22 (.plain rfl)) (.n (fun _ => op_load Tryd.isAgg22 (.plain rfl)) (.n (fun _ => op_move (.plain rfl)) (.n (fun _ => op_indexAddrN Tryd.underlying22 Tryd.sizeOf48 (.plain rfl) (.plain rfl) (fun _ => rfl) ?_) (.n (fun _ => op_fieldAddr Tryd.underlying48 rfl rfl Tryd.sizeOf25 (.plain rfl)) (.n (fun _ => op_load Tryd.isAgg25 (.plain rfl)) (.n (fun _ => op_len (s := 0) Tryd.underlying25 (.plain rfl)) (.n (fun _ => op_gtr (.plain rfl) (.plain rfl)) (.n (fun _ => op_move (.plain rfl)) (.gn rfl rfl (fun hg _ => op_move (.plain rfl)) (.gn rfl rfl (fun hg _ => op_move (.plain rfl)) (.gn rfl rfl (fun hg _ => op_mul (.plain rfl) (.opt rfl fun h => h) ?_) (.gn rfl rfl (fun hg _ => op_call2 Tryd.call28 (.opt rfl fun h => h) (.opt rfl fun h => h) (At_fc raw (2 * i))) (.gn rfl rfl (fun hg _ => op_call2 Tryd.call26 (.opt rfl fun h => h) (.plain rfl) (Pick_fc _ _ ?_)) (.gn rfl rfl (fun hg _ => op_gtr (.opt rfl fun h => h) (.plain rfl)) (.n (fun _ => op_and (.plain rfl) (.plain rfl) (.plain rfl) (fun h => eqT h)) (.nil _))))))))))))))))) ?_
    · (try simp only [foldN, foldR, foldL, Int.toNat_natCast])
      omega
    · try simp only [beq_iff_eq, beq_true, beq_false, Bool.and_eq_true, decide_eq_true_eq, decide_eq_false_iff_not, Bool.not_eq_true', Bool.or_eq_true, Bool.or_eq_false_iff] at hg
      (try simp only [foldN, foldR, foldL, Int.toNat_natCast])
      unfold InR; omega
    · try simp only [beq_iff_eq, beq_true, beq_false, Bool.and_eq_true, decide_eq_true_eq, decide_eq_false_iff_not, Bool.not_eq_true', Bool.or_eq_true, Bool.or_eq_false_iff] at hg
      (try simp only [foldN, foldR, foldL, Int.toNat_natCast])
      omega
    refine awp_cond rfl (fun h => ?_) (fun h => ?_)
    · (try simp only [decide_eq_true_eq, decide_eq_false_iff_not, Bool.and_eq_true, Bool.or_eq_true, Bool.and_eq_false_iff, Bool.or_eq_false_iff, Bool.not_eq_true', Bool.not_eq_false', Bool.not_eq_true, Bool.not_eq_false, Bool.true_eq_false, Bool.false_eq_true] at h); (try simp only [foldN, foldR, foldL, Int.toNat_natCast] at h)
      have hw := withV_yes h
      refine awp_region_draw mixed rfl (.n (fun _ => op_fieldAddr Tryd.underlying24 rfl rfl Tryd.sizeOf22 (.plain rfl)) (.n (fun _ => op_load Tryd.isAgg22 (.plain rfl)) (.n (fun _ => op_move (.plain rfl)) (.n (fun _ => op_indexAddrN Tryd.underlying22 Tryd.sizeOf48 (.plain rfl) (.plain rfl) (fun _ => rfl) ?_) (.n (fun _ => op_fieldAddr Tryd.underlying48 rfl rfl Tryd.sizeOf25 (.plain rfl)) (.n (fun _ => op_load Tryd.isAgg25 (.plain rfl)) (.n (fun _ => op_move (.plain rfl)) (.n (fun _ => op_move (.plain rfl)) (.n (fun _ => op_mul (.plain rfl) (.plain rfl) ?_) (.n (fun _ => op_add (.plain rfl) (.plain rfl) ?_) (.n (fun _ => op_call2 Tryd.call28 (.plain rfl) (.plain rfl) (At_fc raw (2 * i + 1))) (.n (fun _ => op_fieldAddr Tryd.underlying24 rfl rfl Tryd.sizeOf22 (.plain rfl)) (.n (fun _ => op_load Tryd.isAgg22 (.plain rfl)) (.n (fun _ => op_move (.plain rfl)) (.n (fun _ => op_indexAddrN Tryd.underlying22 Tryd.sizeOf48 (.plain rfl) (.plain rfl) (fun _ => rfl) ?_) (.n (fun _ => op_fieldAddr Tryd.underlying48 rfl rfl Tryd.sizeOf25 (.plain rfl)) (.n (fun _ => op_load Tryd.isAgg25 (.plain rfl)) (.n (fun _ => op_len (s := 0) Tryd.underlying25 (.plain rfl)) (.n (fun _ => op_call2 Tryd.call26 (.plain rfl) (.plain rfl) (Pick_fc _ _ ?_)) (.n (fun _ => op_indexAddr Tryd.underlying25 Tryd.sizeOf3 (.plain rfl) (.plain rfl) (fun _ => rfl) ?_) (.n (fun _ => op_load Tryd.isAgg3 (.plain rfl)) (.n (fun _ => op_assign (.plain rfl)) (.nil _))))))))))))))))))))))) ?d1 ?_
      · (try simp only [foldN, foldR, foldL, Int.toNat_natCast])
        omega
      · (try simp only [foldN, foldR, foldL, Int.toNat_natCast])
        unfold InR; omega
      · (try simp only [foldN, foldR, foldL, Int.toNat_natCast])
        unfold InR; omega
      · (try simp only [foldN, foldR, foldL, Int.toNat_natCast])
        omega
      · (try simp only [foldN, foldR, foldL, Int.toNat_natCast])
        omega
      · (try simp only [foldN, foldR, foldL, Int.toNat_natCast])
        have := pickF_range (atF raw (2 * i + 1)) ((lkF L i).length : Nat) (by omega)
        omega
      · kernel_rfl
      refine awp_region rfl (.n (fun _ => op_move (.plain rfl)) (.n (fun _ => op_move (.plain rfl)) (.n (fun _ => op_slit (pp := [(0, _)]) (α := Int) (d := 0) (f := (fun n => [.int .i64 n])) [_] ety25 rfl ⟨rfl, (.plain rfl), (by simp), trivial⟩ rfl (by decide) rfl) (.e (op_append (id' := 55) (α := Int) (d := 0) (f := (fun n => [.int .i64 n])) ety25 Tryd.underlying25 (fun _ => rfl) (fun _ => rfl) (.plain rfl) rfl (.plain rfl) rfl ?_) rfl (.n (fun _ => op_assign (.plain rfl)) (.nil _)))))) ?_
      · (try simp only [foldN, foldR, foldL, Int.toNat_natCast])
        first | omega | (simp; omega)
      refine awp_region rfl (.n (fun _ => op_move (.plain rfl)) (.n (fun _ => op_add (.plain rfl) (.plain rfl) ?_) (.n (fun _ => op_assign (.plain rfl)) (.nil _)))) ?_
      · (try simp only [foldN, foldR, foldL, Int.toNat_natCast])
        unfold InR; omega
      exact ⟨i + 1, by omega, by dsimp only; omega, (Ent.round 55 1005 ⟨rfl, rfl, rfl, rfl, trivial⟩ ⟨(congrArg (fun l => some (Blk.arr 3 1 Int 0 (fun n => [.int .i64 n]) l)) (by rw [mapr_succ, hw]; try rfl)), trivial⟩ rfl rfl rfl ⟨rfl, rfl, rfl, rfl, trivial⟩ ⟨rfl, trivial⟩)⟩
    · (try simp only [decide_eq_true_eq, decide_eq_false_iff_not, Bool.and_eq_true, Bool.or_eq_true, Bool.and_eq_false_iff, Bool.or_eq_false_iff, Bool.not_eq_true', Bool.not_eq_false', Bool.not_eq_true, Bool.not_eq_false, Bool.true_eq_false, Bool.false_eq_true] at h); (try simp only [foldN, foldR, foldL, Int.toNat_natCast] at h)
      have hw := withV_no h
      refine awp_skip ?_
      refine awp_region rfl (.n (fun _ => op_move (.plain rfl)) (.n (fun _ => op_move (.plain rfl)) (.n (fun _ => op_slit (pp := [(0, _)]) (α := Int) (d := 0) (f := (fun n => [.int .i64 n])) [_] ety25 rfl ⟨rfl, (.plain rfl), (by simp), trivial⟩ rfl (by decide) rfl) (.e (op_append (id' := 55) (α := Int) (d := 0) (f := (fun n => [.int .i64 n])) ety25 Tryd.underlying25 (fun _ => rfl) (fun _ => rfl) (.plain rfl) rfl (.plain rfl) rfl ?_) rfl (.n (fun _ => op_assign (.plain rfl)) (.nil _)))))) ?_
      · (try simp only [foldN, foldR, foldL, Int.toNat_natCast])
        first | omega | (simp; omega)
      refine awp_region rfl (.n (fun _ => op_move (.plain rfl)) (.n (fun _ => op_add (.plain rfl) (.plain rfl) ?_) (.n (fun _ => op_assign (.plain rfl)) (.nil _)))) ?_
      · (try simp only [foldN, foldR, foldL, Int.toNat_natCast])
        unfold InR; omega
      exact ⟨i + 1, by omega, by dsimp only; omega, (Ent.round 55 1005 ⟨rfl, rfl, rfl, rfl, trivial⟩ ⟨(congrArg (fun l => some (Blk.arr 3 1 Int 0 (fun n => [.int .i64 n]) l)) (by rw [mapr_succ, hw]; try rfl)), trivial⟩ rfl rfl rfl ⟨rfl, rfl, rfl, rfl, trivial⟩ ⟨rfl, trivial⟩)⟩
  · (try simp only [decide_eq_true_eq, decide_eq_false_iff_not, Bool.and_eq_true, Bool.or_eq_true, Bool.and_eq_false_iff, Bool.or_eq_false_iff, Bool.not_eq_true', Bool.not_eq_false', Bool.not_eq_true, Bool.not_eq_false, Bool.true_eq_false, Bool.false_eq_true] at h); (try simp only [foldN, foldR, foldL, Int.toNat_natCast] at h)
    refine awp_exit ?_
    refine awp_seq ?_
    refine awp_region rfl (.n (fun _ => op_move (.plain rfl)) (.n (fun _ => op_assign (.plain rfl)) (.nil _))) ?_
    refine awp_ret ?_
    refine retQ.ret ?_
    refine ret1 rfl rfl rfl ?_
    obtain rfl : i = L.length := by omega
    rfl

set_option maxRecDepth 1000000 in
set_option maxHeartbeats 1000000 in
theorem TopStable_fc (raw : List Int) (l r : Int) (other : List Int) : FC Tryd.prog 8 [.ints raw, .i l, .i r, .ints other] (.bool true) := by
  refine FC.intro Tryd.func8 rfl (Nat.le_of_ble_eq_true rfl) fun hfit => ?_
  obtain ⟨fitl0, fitr0⟩ := (hfit _ (.head _)).ints
  have fit1 : -9223372036854775808 ≤ (l : Int) ∧ (l : Int) ≤ 9223372036854775807 := (hfit _ (.tail _ (.head _))).int64
  have fit2 : -9223372036854775808 ≤ (r : Int) ∧ (r : Int) ≤ 9223372036854775807 := (hfit _ (.tail _ (.tail _ (.head _)))).int64
  obtain ⟨fitl3, fitr3⟩ := (hfit _ (.tail _ (.tail _ (.tail _ (.head _))))).ints
  refine awp_seq ?_
  refine awp_region rfl (.n (fun _ => op_assign (.plain rfl)) (.nil _)) ?_
  refine awp_seq ?_
  refine awp_seq ?_
  refine awp_region rfl (.n (fun _ => op_move (.plain rfl)) (.n (fun _ => op_len (s := 0) Tryd.underlying25 (.plain rfl)) (.n (fun _ => op_move (.plain rfl)) (.n (fun _ => op_len (s := 0) Tryd.underlying25 (.plain rfl)) (.n (fun _ => op_add (.plain rfl) (.plain rfl) ?_) (.n (fun _ => op_gtr (.plain rfl) (.plain rfl)) (.nil _))))))) ?_
  · (try simp only [foldN, foldR, foldL, Int.toNat_natCast])
    unfold InR; omega
  refine awp_cond rfl (fun h => ?_) (fun h => ?_)
  · (try simp only [decide_eq_true_eq, decide_eq_false_iff_not, Bool.and_eq_true, Bool.or_eq_true, Bool.and_eq_false_iff, Bool.or_eq_false_iff, Bool.not_eq_true', Bool.not_eq_false', Bool.not_eq_true, Bool.not_eq_false, Bool.true_eq_false, Bool.false_eq_true] at h); (try simp only [foldN, foldR, foldL, Int.toNat_natCast] at h)
    refine awp_seq ?_
    refine awp_region rfl (.n (fun _ => op_assign (.plain rfl)) (.nil _)) ?_
    refine awp_ret ?_
    refine retQ.ret ?_
    refine ret1 rfl rfl rfl ?_
    rfl
  · (try simp only [decide_eq_true_eq, decide_eq_false_iff_not, Bool.and_eq_true, Bool.or_eq_true, Bool.and_eq_false_iff, Bool.or_eq_false_iff, Bool.not_eq_true', Bool.not_eq_false', Bool.not_eq_true, Bool.not_eq_false, Bool.true_eq_false, Bool.false_eq_true] at h); (try simp only [foldN, foldR, foldL, Int.toNat_natCast] at h)
    refine awp_skip ?_
    refine awp_seq ?_
    refine awp_region rfl (.n (fun _ => op_move (.plain rfl)) (.n (fun _ => op_move (.plain rfl)) (.n (fun _ => op_move (.plain rfl)) (.n (fun _ => op_call5 Tryd.call25 (.plain rfl) (.plain rfl) (.plain rfl) (.plain rfl) (.plain rfl) (Sides_fc _ _ _ _ _ ?_)) (.e (op_alloc 9 Tryd.zeroValue24 rfl rfl rfl) rfl (.e (op_storeRA Tryd.sizeOf24 (.plain rfl) (.plain rfl) rfl rfl (Nat.le_of_ble_eq_true rfl) rfl) rfl (.nil _))))))) ?_
    · (try simp only [foldN, foldR, foldL, Int.toNat_natCast])
      omega
    refine awp_seq ?_
    have hM0 : mMayE (sidesL raw l r 6) (sidesR raw l r 6 false) = 0 := sides_may (by omega)
    have hLl := sidesL_len (raw := raw) (l := l) (r := r) (most := 6)
    have hRl := sidesR_len (raw := raw) (l := l) (r := r) (most := 6) (one := false)
    have hLn := sideN_in (x := l) (most := 6) (by omega)
    have hRn := sideN_in (x := r) (most := 6) (by omega)
    have hM := mok hM0
    have hA := leftV_spec hM0
    have hB := rightV_spec hM0
    have hal := hA.1
    have hbl := hB.1
    have sA := of_st hM0 hal hA.2.1
    have sB := of_st hM0 hbl hB.2.1
    have wA := st_with hM0 hal hA.2.1
    have wB := st_with hM0 hbl hB.2.1
    have hcl : (withF (sidesL raw l r 6) other).length = (sidesL raw l r 6).length := by unfold withF; simp
    refine awp_region rfl (.r (op_loadRA Tryd.isAgg24 Tryd.sizeOf24 (.plain rfl) rfl (by first | (simp; done) | exact Nat.le_of_ble_eq_true rfl) rfl) (.n (fun _ => op_call1 Tryd.call22 (.plain rfl) (Left_fc _ _)) (.n (fun _ => op_move (.plain rfl)) (.n (fun _ => op_extract (.plain rfl) rfl) (.n (fun _ => op_extract (.plain rfl) rfl) (.n (fun _ => op_assign (.plain rfl)) (.n (fun _ => op_assign (.plain rfl)) (.nil _)))))))) ?_
    refine awp_seq ?_
    refine awp_region rfl (.r (op_loadRA Tryd.isAgg24 Tryd.sizeOf24 (.plain rfl) rfl (by first | (simp; done) | exact Nat.le_of_ble_eq_true rfl) rfl) (.n (fun _ => op_call1 Tryd.call23 (.plain rfl) (Right_fc _ _)) (.n (fun _ => op_move (.plain rfl)) (.n (fun _ => op_extract (.plain rfl) rfl) (.n (fun _ => op_extract (.plain rfl) rfl) (.n (fun _ => op_assign (.plain rfl)) (.n (fun _ => op_assign (.plain rfl)) (.nil _)))))))) ?_
    refine awp_seq ?_
    refine awp_seq ?_
    refine awp_region rfl (.n (fun _ => op_move (.plain rfl)) (.n (fun _ => op_neq (.plain rfl) (.plain rfl)) (.n (fun _ => op_move (.plain rfl)) (.gn rfl rfl (fun hg _ => op_move (.plain rfl)) (.gn rfl rfl (fun hg _ => op_neq (.opt rfl fun h => h) (.plain rfl)) (.n (fun _ => op_or (.plain rfl) (.plain rfl) (.plain rfl) (fun h => eqF h)) (.n (fun _ => op_move (.plain rfl)) (.gn rfl rfl (fun hg _ => op_move (.plain rfl)) (.gn rfl rfl (fun hg _ => op_len (s := 0) Tryd.underlying25 (.opt rfl fun h => h)) (.gn rfl rfl (fun hg _ => op_fieldAddrR Tryd.underlying24 rfl rfl Tryd.sizeOf22 (.plain rfl)) (.gr rfl rfl (fun hg => op_loadR Tryd.isAgg22 (.opt rfl fun h => h) rfl rfl) (.gn rfl rfl (fun hg _ => op_len (s := 0) Tryd.underlying22 (.opt rfl fun h => h)) (.gn rfl rfl (fun hg _ => op_neq (.opt rfl fun h => h) (.opt rfl fun h => h)) (.n (fun _ => op_or (.plain rfl) (.plain rfl) (.plain rfl) (fun h => eqF h)) (.n (fun _ => op_move (.plain rfl)) (.gn rfl rfl (fun hg _ => op_move (.plain rfl)) (.gn rfl rfl (fun hg _ => op_len (s := 0) Tryd.underlying25 (.opt rfl fun h => h)) (.gn rfl rfl (fun hg _ => op_fieldAddrR Tryd.underlying24 rfl rfl Tryd.sizeOf22 (.plain rfl)) (.gr rfl rfl (fun hg => op_loadR Tryd.isAgg22 (.opt rfl fun h => h) rfl rfl) (.gn rfl rfl (fun hg _ => op_len (s := 0) Tryd.underlying22 (.opt rfl fun h => h)) (.gn rfl rfl (fun hg _ => op_neq (.opt rfl fun h => h) (.opt rfl fun h => h)) (.n (fun _ => op_or (.plain rfl) (.plain rfl) (.plain rfl) (fun h => eqF h)) (.nil _))))))))))))))))))))))) ?_
    refine awp_cond rfl (fun h => ?_) (fun h => ?_)
    · (try simp only [decide_eq_true_eq, decide_eq_false_iff_not, Bool.and_eq_true, Bool.or_eq_true, Bool.and_eq_false_iff, Bool.or_eq_false_iff, Bool.not_eq_true', Bool.not_eq_false', Bool.not_eq_true, Bool.not_eq_false, Bool.true_eq_false, Bool.false_eq_true] at h); (try simp only [foldN, foldR, foldL, Int.toNat_natCast] at h)
      exfalso
      simp [hM0, hal, hbl] at h
    · (try simp only [decide_eq_true_eq, decide_eq_false_iff_not, Bool.and_eq_true, Bool.or_eq_true, Bool.and_eq_false_iff, Bool.or_eq_false_iff, Bool.not_eq_true', Bool.not_eq_false', Bool.not_eq_true, Bool.not_eq_false, Bool.true_eq_false, Bool.false_eq_true] at h); (try simp only [foldN, foldR, foldL, Int.toNat_natCast] at h)
      refine awp_skip ?_
      refine awp_seq ?_
      refine awp_region rfl (.r (op_loadRA Tryd.isAgg24 Tryd.sizeOf24 (.plain rfl) rfl (by first | (simp; done) | exact Nat.le_of_ble_eq_true rfl) rfl) (.n (fun _ => op_move (.plain rfl)) (.n (fun _ => op_call2 Tryd.call11 (.plain rfl) (.plain rfl) (Stable_fc _ _ _)) (.n (fun _ => op_move (.plain rfl)) (.n (fun _ => op_extract (.plain rfl) rfl) (.n (fun _ => op_extract (.plain rfl) rfl) (.n (fun _ => op_extract (.plain rfl) rfl) (.n (fun _ => op_extract (.plain rfl) rfl) (.n (fun _ => op_assign (.plain rfl)) (.n (fun _ => op_assign (.plain rfl)) (.n (fun _ => op_assign (.plain rfl)) (.n (fun _ => op_assign (.plain rfl)) (.nil _))))))))))))) ?_
      refine awp_seq ?_
      refine awp_region rfl (.r (op_loadRA Tryd.isAgg24 Tryd.sizeOf24 (.plain rfl) rfl (by first | (simp; done) | exact Nat.le_of_ble_eq_true rfl) rfl) (.n (fun _ => op_move (.plain rfl)) (.n (fun _ => op_call2 Tryd.call11 (.plain rfl) (.plain rfl) (Stable_fc _ _ _)) (.n (fun _ => op_move (.plain rfl)) (.n (fun _ => op_extract (.plain rfl) rfl) (.n (fun _ => op_extract (.plain rfl) rfl) (.n (fun _ => op_extract (.plain rfl) rfl) (.n (fun _ => op_extract (.plain rfl) rfl) (.n (fun _ => op_assign (.plain rfl)) (.n (fun _ => op_assign (.plain rfl)) (.n (fun _ => op_assign (.plain rfl)) (.n (fun _ => op_assign (.plain rfl)) (.nil _))))))))))))) ?_
      refine awp_seq ?_
      refine awp_seq ?_
      refine awp_region rfl (.n (fun _ => op_move (.plain rfl)) (.n (fun _ => op_not (.plain rfl)) (.n (fun _ => op_move (.plain rfl)) (.gn rfl rfl (fun hg _ => op_move (.plain rfl)) (.gn rfl rfl (fun hg _ => op_not (.opt rfl fun h => h)) (.n (fun _ => op_or (.plain rfl) (.plain rfl) (.plain rfl) (fun h => eqF h)) (.n (fun _ => op_move (.plain rfl)) (.gn rfl rfl (fun hg _ => op_move (.plain rfl)) (.gn rfl rfl (fun hg _ => op_neq (.opt rfl fun h => h) (.plain rfl)) (.n (fun _ => op_or (.plain rfl) (.plain rfl) (.plain rfl) (fun h => eqF h)) (.n (fun _ => op_move (.plain rfl)) (.gn rfl rfl (fun hg _ => op_move (.plain rfl)) (.gn rfl rfl (fun hg _ => op_neq (.opt rfl fun h => h) (.plain rfl)) (.n (fun _ => op_or (.plain rfl) (.plain rfl) (.plain rfl) (fun h => eqF h)) (.nil _))))))))))))))) ?_
      refine awp_cond rfl (fun h => ?_) (fun h => ?_)
      · (try simp only [decide_eq_true_eq, decide_eq_false_iff_not, Bool.and_eq_true, Bool.or_eq_true, Bool.and_eq_false_iff, Bool.or_eq_false_iff, Bool.not_eq_true', Bool.not_eq_false', Bool.not_eq_true, Bool.not_eq_false, Bool.true_eq_false, Bool.false_eq_true] at h); (try simp only [foldN, foldR, foldL, Int.toNat_natCast] at h)
        exfalso
        simp [sA, sB, wA, wB] at h
      · (try simp only [decide_eq_true_eq, decide_eq_false_iff_not, Bool.and_eq_true, Bool.or_eq_true, Bool.and_eq_false_iff, Bool.or_eq_false_iff, Bool.not_eq_true', Bool.not_eq_false', Bool.not_eq_true, Bool.not_eq_false, Bool.true_eq_false, Bool.false_eq_true] at h); (try simp only [foldN, foldR, foldL, Int.toNat_natCast] at h)
        refine awp_skip ?_
        refine awp_seq ?_
        refine awp_region rfl (.r (op_loadRA Tryd.isAgg24 Tryd.sizeOf24 (.plain rfl) rfl (by first | (simp; done) | exact Nat.le_of_ble_eq_true rfl) rfl) (.n (fun _ => op_move (.plain rfl)) (.n (fun _ => op_call2 Tryd.call31 (.plain rfl) (.plain rfl) (withOf_fc _ _ _ ?_)) (.n (fun _ => op_assign (.plain rfl)) (.nil _))))) ?_
        · (try simp only [foldN, foldR, foldL, Int.toNat_natCast])
          omega
        refine awp_seq ?_
        refine awp_region rfl (.r (op_loadRA Tryd.isAgg24 Tryd.sizeOf24 (.plain rfl) rfl (by first | (simp; done) | exact Nat.le_of_ble_eq_true rfl) rfl) (.n (fun _ => op_move (.plain rfl)) (.n (fun _ => op_call2 Tryd.call11 (.plain rfl) (.plain rfl) (Stable_fc _ _ _)) (.n (fun _ => op_move (.plain rfl)) (.n (fun _ => op_extract (.plain rfl) rfl) (.n (fun _ => op_extract (.plain rfl) rfl) (.n (fun _ => op_extract (.plain rfl) rfl) (.n (fun _ => op_extract (.plain rfl) rfl) (.n (fun _ => op_assign (.plain rfl)) (.n (fun _ => op_assign (.plain rfl)) (.n (fun _ => op_assign (.plain rfl)) (.n (fun _ => op_assign (.plain rfl)) (.nil _))))))))))))) ?_
        refine awp_seq ?_
        refine awp_seq ?_
        refine awp_region rfl (.n (fun _ => op_assign (.plain rfl)) (.nil _)) ?_
        refine awp_block ?_
        refine awp_loop (σ := Nat) (fun (i : Nat) => i ≤ (sidesL raw l r 6).length) (fun (i : Nat) => ⟨[(9, .ref 9 0), (10, .pv (.ints (leftV (sidesL raw l r 6) (sidesR raw l r 6 false)))), (12, .pv (.ints (rightV (sidesL raw l r 6) (sidesR raw l r 6 false)))), (20, .pv (.ints (withF (sidesL raw l r 6) other))), (21, .bool (stOk (sidesL raw l r 6) (sidesR raw l r 6 false) (withF (sidesL raw l r 6) other))), (11, .int (withE (sidesL raw l r 6) (sidesR raw l r 6 false) (withF (sidesL raw l r 6) other))), (24, .int (i : Nat))], [(9, .box [.pv (.seq (ByteArray × Int × List Int × Unit) (ByteArray.empty, 0, [], ()) (fun p => [.str p.1, .i p.2.1, .ints p.2.2.1]) (sidesL raw l r 6)), .pv (.seq (ByteArray × Int × List Int × Unit) (ByteArray.empty, 0, [], ()) (fun p => [.str p.1, .i p.2.1, .ints p.2.2.1]) (sidesR raw l r 6 false))])]⟩) (fun (i : Nat) => (sidesL raw l r 6).length - i) 0 ?_ (Ent.kept ⟨rfl, rfl, rfl, rfl, rfl, rfl, rfl, trivial⟩ ⟨rfl, trivial⟩) ?_
        · exact Nat.zero_le _
        rintro i hp
        try dsimp only at hp
        have hi := hp
        refine awp_seq ?_
        refine awp_seq ?_
        refine awp_region rfl (.n (fun _ => op_move (.plain rfl)) (.n (fun _ => op_fieldAddrR Tryd.underlying24 rfl rfl Tryd.sizeOf22 (.plain rfl)) (.r (op_loadR Tryd.isAgg22 (.plain rfl) rfl rfl) (.n (fun _ => op_len (s := 0) Tryd.underlying22 (.plain rfl)) (.n (fun _ => op_lss (.plain rfl) (.plain rfl)) (.nil _)))))) ?_
        refine awp_cond rfl (fun h => ?_) (fun h => ?_)
        · (try simp only [decide_eq_true_eq, decide_eq_false_iff_not, Bool.and_eq_true, Bool.or_eq_true, Bool.and_eq_false_iff, Bool.or_eq_false_iff, Bool.not_eq_true', Bool.not_eq_false', Bool.not_eq_true, Bool.not_eq_false, Bool.true_eq_false, Bool.false_eq_true] at h); (try simp only [foldN, foldR, foldL, Int.toNat_natCast] at h)
          refine awp_skip ?_
          refine awp_seq ?_
          refine awp_block ?_
          refine awp_seq ?_
          refine awp_seq ?_
          refine awp_region_draw mixed rfl (.n (fun _ => op_fieldAddrR Tryd.underlying24 rfl rfl Tryd.sizeOf22 (.plain rfl)) (.r (op_loadR Tryd.isAgg22 (.plain rfl) rfl rfl) (.n (fun _ => op_move (.plain rfl)) (.n (fun _ => op_indexAddrN Tryd.underlying22 Tryd.sizeOf48 (.plain rfl) (.plain rfl) (fun _ => rfl) ?_) (.n (fun _ => op_load_agg Tryd.isAgg48 Tryd.sizeOf48 (.plain rfl) (Nat.le_of_ble_eq_true rfl)) (.n (fun _ => op_move (.plain rfl)) (.n (fun _ => op_move (.plain rfl)) (.n (fun _ => op_indexAddrN Tryd.underlying25 Tryd.sizeOf3 (.plain rfl) (.plain rfl) (fun _ => rfl) ?_) (.n (fun _ => op_load Tryd.isAgg3 (.plain rfl)) (.n (fun _ => op_call2 Tryd.call30 (.plain rfl) (.plain rfl) (gap_fc _ _ _ _)) (.n (fun _ => op_fieldAddrR Tryd.underlying24 rfl rfl Tryd.sizeOf22 (.plain rfl)) (.r (op_loadR Tryd.isAgg22 (.plain rfl) rfl rfl) (.n (fun _ => op_move (.plain rfl)) (.n (fun _ => op_indexAddrN Tryd.underlying22 Tryd.sizeOf48 (.plain rfl) (.plain rfl) (fun _ => rfl) ?_) (.n (fun _ => op_load_agg Tryd.isAgg48 Tryd.sizeOf48 (.plain rfl) (Nat.le_of_ble_eq_true rfl)) (.n (fun _ => op_move (.plain rfl)) (.n (fun _ => op_move (.plain rfl)) (.n (fun _ => op_indexAddrN Tryd.underlying25 Tryd.sizeOf3 (.plain rfl) (.plain rfl) (fun _ => rfl) ?_) (.n (fun _ => op_load Tryd.isAgg3 (.plain rfl)) (.n (fun _ => op_call2 Tryd.call30 (.plain rfl) (.plain rfl) (gap_fc _ _ _ _)) (.n (fun _ => op_gtr (.plain rfl) (.plain rfl)) (.nil _)))))))))))))))))))))) ?d2 ?_
          · (try simp only [foldN, foldR, foldL, Int.toNat_natCast])
            omega
          · (try simp only [foldN, foldR, foldL, Int.toNat_natCast])
            omega
          · (try simp only [foldN, foldR, foldL, Int.toNat_natCast])
            omega
          · (try simp only [foldN, foldR, foldL, Int.toNat_natCast])
            omega
          · kernel_rfl
          refine awp_cond rfl (fun h => ?_) (fun h => ?_)
          · (try simp only [decide_eq_true_eq, decide_eq_false_iff_not, Bool.and_eq_true, Bool.or_eq_true, Bool.and_eq_false_iff, Bool.or_eq_false_iff, Bool.not_eq_true', Bool.not_eq_false', Bool.not_eq_true, Bool.not_eq_false, Bool.true_eq_false, Bool.false_eq_true] at h); (try simp only [foldN, foldR, foldL, Int.toNat_natCast] at h)
            exfalso
            have hg := gap_le hM hA.2.1 hB.2.1 (hA.2.2 _ hB.2.1) (show i < (sidesL raw l r 6).length by omega)
            exact Int.not_le.2 h hg
          · (try simp only [decide_eq_true_eq, decide_eq_false_iff_not, Bool.and_eq_true, Bool.or_eq_true, Bool.and_eq_false_iff, Bool.or_eq_false_iff, Bool.not_eq_true', Bool.not_eq_false', Bool.not_eq_true, Bool.not_eq_false, Bool.true_eq_false, Bool.false_eq_true] at h); (try simp only [foldN, foldR, foldL, Int.toNat_natCast] at h)
            refine awp_skip ?_
            refine awp_seq ?_
            refine awp_region_draw mixed rfl (.n (fun _ => op_move (.plain rfl)) (.n (fun _ => op_eql (.plain rfl) (.plain rfl)) (.n (fun _ => op_move (.plain rfl)) (.gn rfl rfl (fun hg _ => op_move (.plain rfl)) (.n (fun _ => op_and (.plain rfl) (.plain rfl) (.plain rfl) (fun h => eqT h)) (.n (fun _ => op_move (.plain rfl)) (.gn rfl rfl (fun hg _ => op_fieldAddrR Tryd.underlying24 rfl rfl Tryd.sizeOf22 (.plain rfl)) (.gr rfl rfl (fun hg => op_loadR Tryd.isAgg22 (.opt rfl fun h => h) rfl rfl) (.gn rfl rfl (fun hg _ => op_move (.plain rfl)) (.gn rfl rfl (fun hg _ => op_indexAddrN Tryd.underlying22 Tryd.sizeOf48 (.opt rfl fun h => h) (.opt rfl fun h => h) (fun _ => rfl) ?_) (.gn rfl rfl (fun hg _ => op_load_agg Tryd.isAgg48 Tryd.sizeOf48 (.opt rfl fun h => h) (Nat.le_of_ble_eq_true rfl)) (.gn rfl rfl (fun hg _ => op_move (.plain rfl)) (.gn rfl rfl (fun hg _ => op_move (.plain rfl)) (.gn rfl rfl (fun hg _ => op_indexAddrN Tryd.underlying25 Tryd.sizeOf3 (.opt rfl fun h => h) (.opt rfl fun h => h) (fun _ => rfl) ?_) (.gn rfl rfl (fun hg _ => op_load Tryd.isAgg3 (.opt rfl fun h => h)) (.gn rfl rfl (fun hg _ => op_call2 Tryd.call30 (.opt rfl fun h => h) (.opt rfl fun h => h) (gap_fc _ _ _ _)) (.gn rfl rfl (fun hg _ => op_fieldAddrR Tryd.underlying24 rfl rfl Tryd.sizeOf22 (.plain rfl)) (.gr rfl rfl (fun hg => op_loadR Tryd.isAgg22 (.opt rfl fun h => h) rfl rfl) (.gn rfl rfl (fun hg _ => op_move (.plain rfl)) (.gn rfl rfl (fun hg _ => op_indexAddrN Tryd.underlying22 Tryd.sizeOf48 (.opt rfl fun h => h) (.opt rfl fun h => h) (fun _ => rfl) ?_) (.gn rfl rfl (fun hg _ => op_load_agg Tryd.isAgg48 Tryd.sizeOf48 (.opt rfl fun h => h) (Nat.le_of_ble_eq_true rfl)) (.gn rfl rfl (fun hg _ => op_move (.plain rfl)) (.gn rfl rfl (fun hg _ => op_move (.plain rfl)) (.gn rfl rfl (fun hg _ => op_indexAddrN Tryd.underlying25 Tryd.sizeOf3 (.opt rfl fun h => h) (.opt rfl fun h => h) (fun _ => rfl) ?_) (.gn rfl rfl (fun hg _ => op_load Tryd.isAgg3 (.opt rfl fun h => h)) (.gn rfl rfl (fun hg _ => op_call2 Tryd.call30 (.opt rfl fun h => h) (.opt rfl fun h => h) (gap_fc _ _ _ _)) (.gn rfl rfl (fun hg _ => op_gtr (.opt rfl fun h => h) (.opt rfl fun h => h)) (.gn rfl rfl (fun hg _ => op_move (.opt rfl fun h => h)) (.ggn rfl rfl (fun hg _ => op_fieldAddrR Tryd.underlying24 rfl rfl Tryd.sizeOf22 (.plain rfl)) (.ggr rfl rfl (fun hg => op_loadR Tryd.isAgg22 (.opt rfl fun h => h) rfl rfl) (.ggn rfl rfl (fun hg _ => op_move (.plain rfl)) (.ggn rfl rfl (fun hg _ => op_indexAddrN Tryd.underlying22 Tryd.sizeOf48 (.opt rfl fun h => h) (.opt rfl fun h => h) (fun _ => rfl) ?_) (.ggn rfl rfl (fun hg _ => op_load_agg Tryd.isAgg48 Tryd.sizeOf48 (.opt rfl fun h => h) (Nat.le_of_ble_eq_true rfl)) (.ggn rfl rfl (fun hg _ => op_move (.plain rfl)) (.ggn rfl rfl (fun hg _ => op_move (.plain rfl)) (.ggn rfl rfl (fun hg _ => op_indexAddrN Tryd.underlying25 Tryd.sizeOf3 (.opt rfl fun h => h) (.opt rfl fun h => h) (fun _ => rfl) ?_) (.ggn rfl rfl (fun hg _ => op_load Tryd.isAgg3 (.opt rfl fun h => h)) (.ggn rfl rfl (fun hg _ => op_call2 Tryd.call30 (.opt rfl fun h => h) (.opt rfl fun h => h) (gap_fc _ _ _ _)) (.ggn rfl rfl (fun hg _ => op_fieldAddrR Tryd.underlying24 rfl rfl Tryd.sizeOf22 (.plain rfl)) (.ggr rfl rfl (fun hg => op_loadR Tryd.isAgg22 (.opt rfl fun h => h) rfl rfl) (.ggn rfl rfl (fun hg _ => op_move (.plain rfl)) (.ggn rfl rfl (fun hg _ => op_indexAddrN Tryd.underlying22 Tryd.sizeOf48 (.opt rfl fun h => h) (.opt rfl fun h => h) (fun _ => rfl) ?_) (.ggn rfl rfl (fun hg _ => op_load_agg Tryd.isAgg48 Tryd.sizeOf48 (.opt rfl fun h => h) (Nat.le_of_ble_eq_true rfl)) (.ggn rfl rfl (fun hg _ => op_move (.plain rfl)) (.ggn rfl rfl (fun hg _ => op_move (.plain rfl)) (.ggn rfl rfl (fun hg _ => op_indexAddrN Tryd.underlying25 Tryd.sizeOf3 (.opt rfl fun h => h) (.opt rfl fun h => h) (fun _ => rfl) ?_) (.ggn rfl rfl (fun hg _ => op_load Tryd.isAgg3 (.opt rfl fun h => h)) (.ggn rfl rfl (fun hg _ => op_call2 Tryd.call30 (.opt rfl fun h => h) (.opt rfl fun h => h) (gap_fc _ _ _ _)) (.ggn rfl rfl (fun hg _ => op_gtr (.opt rfl fun h => h) (.opt rfl fun h => h)) (.gn rfl rfl (fun hg _ => op_or (.opt rfl fun h => h) (.plain rfl) (.plain rfl) (fun h => andI hg (eqF h))) (.n (fun _ => op_and (.plain rfl) (.plain rfl) (.plain rfl) (fun h => eqT h)) (.nil _)))))))))))))))))))))))))))))))))))))))))))))))))))) ?d3 ?_
            · try simp only [beq_iff_eq, beq_true, beq_false, Bool.and_eq_true, decide_eq_true_eq, decide_eq_false_iff_not, Bool.not_eq_true', Bool.or_eq_true, Bool.or_eq_false_iff] at hg
              (try simp only [foldN, foldR, foldL, Int.toNat_natCast])
              omega
            · try simp only [beq_iff_eq, beq_true, beq_false, Bool.and_eq_true, decide_eq_true_eq, decide_eq_false_iff_not, Bool.not_eq_true', Bool.or_eq_true, Bool.or_eq_false_iff] at hg
              (try simp only [foldN, foldR, foldL, Int.toNat_natCast])
              omega
            · try simp only [beq_iff_eq, beq_true, beq_false, Bool.and_eq_true, decide_eq_true_eq, decide_eq_false_iff_not, Bool.not_eq_true', Bool.or_eq_true, Bool.or_eq_false_iff] at hg
              (try simp only [foldN, foldR, foldL, Int.toNat_natCast])
              omega
            · try simp only [beq_iff_eq, beq_true, beq_false, Bool.and_eq_true, decide_eq_true_eq, decide_eq_false_iff_not, Bool.not_eq_true', Bool.or_eq_true, Bool.or_eq_false_iff] at hg
              (try simp only [foldN, foldR, foldL, Int.toNat_natCast])
              omega
            · try simp only [beq_iff_eq, beq_true, beq_false, Bool.and_eq_true, decide_eq_true_eq, decide_eq_false_iff_not, Bool.not_eq_true', Bool.or_eq_true, Bool.or_eq_false_iff] at hg
              (try simp only [foldN, foldR, foldL, Int.toNat_natCast])
              omega
            · try simp only [beq_iff_eq, beq_true, beq_false, Bool.and_eq_true, decide_eq_true_eq, decide_eq_false_iff_not, Bool.not_eq_true', Bool.or_eq_true, Bool.or_eq_false_iff] at hg
              (try simp only [foldN, foldR, foldL, Int.toNat_natCast])
              omega
            · try simp only [beq_iff_eq, beq_true, beq_false, Bool.and_eq_true, decide_eq_true_eq, decide_eq_false_iff_not, Bool.not_eq_true', Bool.or_eq_true, Bool.or_eq_false_iff] at hg
              (try simp only [foldN, foldR, foldL, Int.toNat_natCast])
              omega
            · try simp only [beq_iff_eq, beq_true, beq_false, Bool.and_eq_true, decide_eq_true_eq, decide_eq_false_iff_not, Bool.not_eq_true', Bool.or_eq_true, Bool.or_eq_false_iff] at hg
              (try simp only [foldN, foldR, foldL, Int.toNat_natCast])
              omega
            · kernel_rfl
            refine awp_cond rfl (fun h => ?_) (fun h => ?_)
            · (try simp only [decide_eq_true_eq, decide_eq_false_iff_not, Bool.and_eq_true, Bool.or_eq_true, Bool.and_eq_false_iff, Bool.or_eq_false_iff, Bool.not_eq_true', Bool.not_eq_false', Bool.not_eq_true, Bool.not_eq_false, Bool.true_eq_false, Bool.false_eq_true] at h); (try simp only [foldN, foldR, foldL, Int.toNat_natCast] at h)
              exfalso
              have hc := st_of h.1.2
              exact h.2.elim (fun c => Int.not_le.2 c (gap_le hM hA.2.1 hc.2 (hA.2.2 _ hc.2) (show i < (sidesL raw l r 6).length by omega))) (fun c => Int.not_le.2 c (gap_le hM hc.2 hB.2.1 (hB.2.2 _ hc.2) (show i < (sidesL raw l r 6).length by omega)))
            · (try simp only [decide_eq_true_eq, decide_eq_false_iff_not, Bool.and_eq_true, Bool.or_eq_true, Bool.and_eq_false_iff, Bool.or_eq_false_iff, Bool.not_eq_true', Bool.not_eq_false', Bool.not_eq_true, Bool.not_eq_false, Bool.true_eq_false, Bool.false_eq_true] at h); (try simp only [foldN, foldR, foldL, Int.toNat_natCast] at h)
              refine awp_skip ?_
              refine awp_region rfl (.n (fun _ => op_move (.plain rfl)) (.n (fun _ => op_add (.plain rfl) (.plain rfl) ?_) (.n (fun _ => op_assign (.plain rfl)) (.nil _)))) ?_
              · (try simp only [foldN, foldR, foldL, Int.toNat_natCast])
                unfold InR; omega
              exact ⟨i + 1, by omega, by dsimp only; omega, (Ent.kept ⟨rfl, rfl, rfl, rfl, rfl, rfl, rfl, trivial⟩ ⟨rfl, trivial⟩)⟩
        · (try simp only [decide_eq_true_eq, decide_eq_false_iff_not, Bool.and_eq_true, Bool.or_eq_true, Bool.and_eq_false_iff, Bool.or_eq_false_iff, Bool.not_eq_true', Bool.not_eq_false', Bool.not_eq_true, Bool.not_eq_false, Bool.true_eq_false, Bool.false_eq_true] at h); (try simp only [foldN, foldR, foldL, Int.toNat_natCast] at h)
          refine awp_exit ?_
          refine awp_seq ?_
          refine awp_region rfl (.n (fun _ => op_assign (.plain rfl)) (.nil _)) ?_
          refine awp_ret ?_
          refine retQ.ret ?_
          refine ret1 rfl rfl rfl ?_
          rfl

set_option maxRecDepth 1000000 in
set_option maxHeartbeats 1000000 in
theorem TopRural_fc (raw : List Int) (l r : Int) : FC Tryd.prog 9 [.ints raw, .i l, .i r] (.bool true) := by
  refine FC.intro Tryd.func9 rfl (Nat.le_of_ble_eq_true rfl) fun hfit => ?_
  obtain ⟨fitl0, fitr0⟩ := (hfit _ (.head _)).ints
  have fit1 : -9223372036854775808 ≤ (l : Int) ∧ (l : Int) ≤ 9223372036854775807 := (hfit _ (.tail _ (.head _))).int64
  have fit2 : -9223372036854775808 ≤ (r : Int) ∧ (r : Int) ≤ 9223372036854775807 := (hfit _ (.tail _ (.tail _ (.head _)))).int64
  refine awp_seq ?_
  refine awp_region rfl (.n (fun _ => op_assign (.plain rfl)) (.nil _)) ?_
  refine awp_seq ?_
  refine awp_seq ?_
  refine awp_region rfl (.n (fun _ => op_move (.plain rfl)) (.n (fun _ => op_len (s := 0) Tryd.underlying25 (.plain rfl)) (.n (fun _ => op_gtr (.plain rfl) (.plain rfl)) (.nil _)))) ?_
  refine awp_cond rfl (fun h => ?_) (fun h => ?_)
  · (try simp only [decide_eq_true_eq, decide_eq_false_iff_not, Bool.and_eq_true, Bool.or_eq_true, Bool.and_eq_false_iff, Bool.or_eq_false_iff, Bool.not_eq_true', Bool.not_eq_false', Bool.not_eq_true, Bool.not_eq_false, Bool.true_eq_false, Bool.false_eq_true] at h); (try simp only [foldN, foldR, foldL, Int.toNat_natCast] at h)
    refine awp_seq ?_
    refine awp_region rfl (.n (fun _ => op_assign (.plain rfl)) (.nil _)) ?_
    refine awp_ret ?_
    refine retQ.ret ?_
    refine ret1 rfl rfl rfl ?_
    rfl
  · (try simp only [decide_eq_true_eq, decide_eq_false_iff_not, Bool.and_eq_true, Bool.or_eq_true, Bool.and_eq_false_iff, Bool.or_eq_false_iff, Bool.not_eq_true', Bool.not_eq_false', Bool.not_eq_true, Bool.not_eq_false, Bool.true_eq_false, Bool.false_eq_true] at h); (try simp only [foldN, foldR, foldL, Int.toNat_natCast] at h)
    refine awp_skip ?_
    refine awp_seq ?_
    refine awp_region rfl (.n (fun _ => op_move (.plain rfl)) (.n (fun _ => op_move (.plain rfl)) (.n (fun _ => op_move (.plain rfl)) (.n (fun _ => op_call5 Tryd.call25 (.plain rfl) (.plain rfl) (.plain rfl) (.plain rfl) (.plain rfl) (Sides_fc _ _ _ _ _ ?_)) (.e (op_alloc 7 Tryd.zeroValue24 rfl rfl rfl) rfl (.e (op_storeRA Tryd.sizeOf24 (.plain rfl) (.plain rfl) rfl rfl (Nat.le_of_ble_eq_true rfl) rfl) rfl (.nil _))))))) ?_
    · (try simp only [foldN, foldR, foldL, Int.toNat_natCast])
      omega
    refine awp_seq ?_
    have hM0 : mMayE (sidesL raw l r 4) (sidesR raw l r 4 false) = 0 := sides_may (by omega)
    have hLl := sidesL_len (raw := raw) (l := l) (r := r) (most := 4)
    have hRl := sidesR_len (raw := raw) (l := l) (r := r) (most := 4) (one := false)
    have hLn := sideN_in (x := l) (most := 4) (by omega)
    have hRn := sideN_in (x := r) (most := 4) (by omega)
    have hM := mok hM0
    have hA := leftV_spec hM0
    have hal := hA.1
    have hpos := allV_pos hM0
    have hin := fun k (hk : k < (allV (sidesL raw l r 4) (sidesR raw l r 4 false)).length) => (allV_mem hM0).1 (getD_mem [] hk)
    have hll : (allV (sidesL raw l r 4) (sidesR raw l r 4 false)).length ≤ 625 := by rw [← allV_ok hM0]; exact Nat.le_trans (allR_len (by omega) _ _) (five_le (by omega))
    refine awp_region rfl (.r (op_loadRA Tryd.isAgg24 Tryd.sizeOf24 (.plain rfl) rfl (by first | (simp; done) | exact Nat.le_of_ble_eq_true rfl) rfl) (.n (fun _ => op_call1 Tryd.call19 (.plain rfl) (All_fc _ _ ?_ ?_)) (.n (fun _ => op_move (.plain rfl)) (.n (fun _ => op_extract (.plain rfl) rfl) (.n (fun _ => op_extract (.plain rfl) rfl) (.n (fun _ => op_assign (.plain rfl)) (.n (fun _ => op_assign (.plain rfl)) (.nil _)))))))) ?_
    · (try simp only [foldN, foldR, foldL, Int.toNat_natCast])
      omega
    · (try simp only [foldN, foldR, foldL, Int.toNat_natCast])
      omega
    refine awp_seq ?_
    refine awp_region rfl (.r (op_loadRA Tryd.isAgg24 Tryd.sizeOf24 (.plain rfl) rfl (by first | (simp; done) | exact Nat.le_of_ble_eq_true rfl) rfl) (.n (fun _ => op_call1 Tryd.call22 (.plain rfl) (Left_fc _ _)) (.n (fun _ => op_move (.plain rfl)) (.n (fun _ => op_extract (.plain rfl) rfl) (.n (fun _ => op_extract (.plain rfl) rfl) (.n (fun _ => op_assign (.plain rfl)) (.n (fun _ => op_assign (.plain rfl)) (.nil _)))))))) ?_
    refine awp_seq ?_
    refine awp_seq ?_
    refine awp_region rfl (.n (fun _ => op_move (.plain rfl)) (.n (fun _ => op_neq (.plain rfl) (.plain rfl)) (.n (fun _ => op_move (.plain rfl)) (.gn rfl rfl (fun hg _ => op_move (.plain rfl)) (.gn rfl rfl (fun hg _ => op_neq (.opt rfl fun h => h) (.plain rfl)) (.n (fun _ => op_or (.plain rfl) (.plain rfl) (.plain rfl) (fun h => eqF h)) (.n (fun _ => op_move (.plain rfl)) (.gn rfl rfl (fun hg _ => op_move (.plain rfl)) (.gn rfl rfl (fun hg _ => op_len (s := 0) Tryd.underlying36 (.opt rfl fun h => h)) (.gn rfl rfl (fun hg _ => op_eql (.opt rfl fun h => h) (.plain rfl)) (.n (fun _ => op_or (.plain rfl) (.plain rfl) (.plain rfl) (fun h => eqF h)) (.nil _)))))))))))) ?_
    refine awp_cond rfl (fun h => ?_) (fun h => ?_)
    · (try simp only [decide_eq_true_eq, decide_eq_false_iff_not, Bool.and_eq_true, Bool.or_eq_true, Bool.and_eq_false_iff, Bool.or_eq_false_iff, Bool.not_eq_true', Bool.not_eq_false', Bool.not_eq_true, Bool.not_eq_false, Bool.true_eq_false, Bool.false_eq_true] at h); (try simp only [foldN, foldR, foldL, Int.toNat_natCast] at h)
      exfalso
      exact h.elim (fun c => c.elim (fun d => d hM0) (fun d => d hM0)) (fun c => by omega)
    · (try simp only [decide_eq_true_eq, decide_eq_false_iff_not, Bool.and_eq_true, Bool.or_eq_true, Bool.and_eq_false_iff, Bool.or_eq_false_iff, Bool.not_eq_true', Bool.not_eq_false', Bool.not_eq_true, Bool.not_eq_false, Bool.true_eq_false, Bool.false_eq_true] at h); (try simp only [foldN, foldR, foldL, Int.toNat_natCast] at h)
      refine awp_skip ?_
      refine awp_seq ?_
      refine awp_seq ?_
      refine awp_region rfl (.n (fun _ => op_assign (.plain rfl)) (.nil _)) ?_
      refine awp_block ?_
      refine awp_loop (σ := Nat) (fun (k : Nat) => k ≤ (allV (sidesL raw l r 4) (sidesR raw l r 4 false)).length) (fun (k : Nat) => ⟨[(7, .ref 7 0), (8, .pv (.rows (allV (sidesL raw l r 4) (sidesR raw l r 4 false)))), (10, .pv (.ints (leftV (sidesL raw l r 4) (sidesR raw l r 4 false)))), (12, .int (k : Nat))], [(7, .box [.pv (.seq (ByteArray × Int × List Int × Unit) (ByteArray.empty, 0, [], ()) (fun p => [.str p.1, .i p.2.1, .ints p.2.2.1]) (sidesL raw l r 4)), .pv (.seq (ByteArray × Int × List Int × Unit) (ByteArray.empty, 0, [], ()) (fun p => [.str p.1, .i p.2.1, .ints p.2.2.1]) (sidesR raw l r 4 false))])]⟩) (fun (k : Nat) => (allV (sidesL raw l r 4) (sidesR raw l r 4 false)).length - k) 0 ?_ (Ent.kept ⟨rfl, rfl, rfl, rfl, trivial⟩ ⟨rfl, trivial⟩) ?_
      · exact Nat.zero_le _
      rintro k hp
      try dsimp only at hp
      have hk := hp
      refine awp_seq ?_
      refine awp_seq ?_
      refine awp_region rfl (.n (fun _ => op_move (.plain rfl)) (.n (fun _ => op_move (.plain rfl)) (.n (fun _ => op_len (s := 0) Tryd.underlying36 (.plain rfl)) (.n (fun _ => op_lss (.plain rfl) (.plain rfl)) (.nil _))))) ?_
      refine awp_cond rfl (fun h => ?_) (fun h => ?_)
      · (try simp only [decide_eq_true_eq, decide_eq_false_iff_not, Bool.and_eq_true, Bool.or_eq_true, Bool.and_eq_false_iff, Bool.or_eq_false_iff, Bool.not_eq_true', Bool.not_eq_false', Bool.not_eq_true, Bool.not_eq_false, Bool.true_eq_false, Bool.false_eq_true] at h); (try simp only [foldN, foldR, foldL, Int.toNat_natCast] at h)
        refine awp_skip ?_
        refine awp_seq ?_
        refine awp_block ?_
        refine awp_seq ?_
        refine awp_seq ?_
        refine awp_region rfl (.n (fun _ => op_move (.plain rfl)) (.n (fun _ => op_move (.plain rfl)) (.n (fun _ => op_indexAddrN Tryd.underlying36 Tryd.sizeOf25 (.plain rfl) (.plain rfl) (fun _ => rfl) ?_) (.n (fun _ => op_load Tryd.isAgg25 (.plain rfl)) (.n (fun _ => op_len (s := 0) Tryd.underlying25 (.plain rfl)) (.n (fun _ => op_move (.plain rfl)) (.n (fun _ => op_len (s := 0) Tryd.underlying25 (.plain rfl)) (.n (fun _ => op_neq (.plain rfl) (.plain rfl)) (.nil _))))))))) ?_
        · (try simp only [foldN, foldR, foldL, Int.toNat_natCast])
          omega
        refine awp_cond rfl (fun h => ?_) (fun h => ?_)
        · (try simp only [decide_eq_true_eq, decide_eq_false_iff_not, Bool.and_eq_true, Bool.or_eq_true, Bool.and_eq_false_iff, Bool.or_eq_false_iff, Bool.not_eq_true', Bool.not_eq_false', Bool.not_eq_true, Bool.not_eq_false, Bool.true_eq_false, Bool.false_eq_true] at h); (try simp only [foldN, foldR, foldL, Int.toNat_natCast] at h)
          exfalso
          have hh := (hin k (by omega)).1
          omega
        · (try simp only [decide_eq_true_eq, decide_eq_false_iff_not, Bool.and_eq_true, Bool.or_eq_true, Bool.and_eq_false_iff, Bool.or_eq_false_iff, Bool.not_eq_true', Bool.not_eq_false', Bool.not_eq_true, Bool.not_eq_false, Bool.true_eq_false, Bool.false_eq_true] at h); (try simp only [foldN, foldR, foldL, Int.toNat_natCast] at h)
          refine awp_skip ?_
          refine awp_seq ?_
          refine awp_seq ?_
          refine awp_region rfl (.n (fun _ => op_assign (.plain rfl)) (.nil _)) ?_
          refine awp_block ?_
          refine awp_loop (σ := Nat) (fun (i : Nat) => i ≤ (leftV (sidesL raw l r 4) (sidesR raw l r 4 false)).length) (fun (i : Nat) => ⟨[(7, .ref 7 0), (8, .pv (.rows (allV (sidesL raw l r 4) (sidesR raw l r 4 false)))), (10, .pv (.ints (leftV (sidesL raw l r 4) (sidesR raw l r 4 false)))), (12, .int (k : Nat)), (13, .int (i : Nat))], [(7, .box [.pv (.seq (ByteArray × Int × List Int × Unit) (ByteArray.empty, 0, [], ()) (fun p => [.str p.1, .i p.2.1, .ints p.2.2.1]) (sidesL raw l r 4)), .pv (.seq (ByteArray × Int × List Int × Unit) (ByteArray.empty, 0, [], ()) (fun p => [.str p.1, .i p.2.1, .ints p.2.2.1]) (sidesR raw l r 4 false))])]⟩) (fun (i : Nat) => (leftV (sidesL raw l r 4) (sidesR raw l r 4 false)).length - i) 0 ?_ (Ent.kept ⟨rfl, rfl, rfl, rfl, rfl, trivial⟩ ⟨rfl, trivial⟩) ?_
          · exact Nat.zero_le _
          rintro i hp
          try dsimp only at hp
          have hi := hp
          refine awp_seq ?_
          refine awp_seq ?_
          refine awp_region rfl (.n (fun _ => op_move (.plain rfl)) (.n (fun _ => op_move (.plain rfl)) (.n (fun _ => op_len (s := 0) Tryd.underlying25 (.plain rfl)) (.n (fun _ => op_lss (.plain rfl) (.plain rfl)) (.nil _))))) ?_
          refine awp_cond rfl (fun h => ?_) (fun h => ?_)
          · (try simp only [decide_eq_true_eq, decide_eq_false_iff_not, Bool.and_eq_true, Bool.or_eq_true, Bool.and_eq_false_iff, Bool.or_eq_false_iff, Bool.not_eq_true', Bool.not_eq_false', Bool.not_eq_true, Bool.not_eq_false, Bool.true_eq_false, Bool.false_eq_true] at h); (try simp only [foldN, foldR, foldL, Int.toNat_natCast] at h)
            refine awp_skip ?_
            refine awp_seq ?_
            refine awp_block ?_
            refine awp_seq ?_
            refine awp_region_draw mixed rfl (.n (fun _ => op_move (.plain rfl)) (.n (fun _ => op_move (.plain rfl)) (.n (fun _ => op_indexAddrN Tryd.underlying25 Tryd.sizeOf3 (.plain rfl) (.plain rfl) (fun _ => rfl) ?_) (.n (fun _ => op_load Tryd.isAgg3 (.plain rfl)) (.n (fun _ => op_lss (.plain rfl) (.plain rfl)) (.n (fun _ => op_move (.plain rfl)) (.n (fun _ => op_move (.plain rfl)) (.n (fun _ => op_indexAddrN Tryd.underlying36 Tryd.sizeOf25 (.plain rfl) (.plain rfl) (fun _ => rfl) ?_) (.n (fun _ => op_load Tryd.isAgg25 (.plain rfl)) (.n (fun _ => op_move (.plain rfl)) (.n (fun _ => op_indexAddrN Tryd.underlying25 Tryd.sizeOf3 (.plain rfl) (.plain rfl) (fun _ => rfl) ?_) (.n (fun _ => op_load Tryd.isAgg3 (.plain rfl)) (.n (fun _ => op_lss (.plain rfl) (.plain rfl)) (.n (fun _ => op_neb Tryd.underlying4 (.plain rfl) (.plain rfl)) (.nil _))))))))))))))) ?d4 ?_
            · (try simp only [foldN, foldR, foldL, Int.toNat_natCast])
              omega
            · (try simp only [foldN, foldR, foldL, Int.toNat_natCast])
              omega
            · (try simp only [foldN, foldR, foldL, Int.toNat_natCast])
              have := (hin k (by omega)).1
              omega
            · kernel_rfl
            refine awp_cond rfl (fun h => ?_) (fun h => ?_)
            · (try simp only [decide_eq_true_eq, decide_eq_false_iff_not, Bool.and_eq_true, Bool.or_eq_true, Bool.and_eq_false_iff, Bool.or_eq_false_iff, Bool.not_eq_true', Bool.not_eq_false', Bool.not_eq_true, Bool.not_eq_false, Bool.true_eq_false, Bool.false_eq_true] at h); (try simp only [foldN, foldR, foldL, Int.toNat_natCast] at h)
              exfalso
              have hh := hin k (by omega)
              have h9 := rural_neg hA.2.1 hh.2 (hA.2.2 _ hh.2) (show i < (sidesL raw l r 4).length by omega)
              rw [h9] at h
              simp at h
            · (try simp only [decide_eq_true_eq, decide_eq_false_iff_not, Bool.and_eq_true, Bool.or_eq_true, Bool.and_eq_false_iff, Bool.or_eq_false_iff, Bool.not_eq_true', Bool.not_eq_false', Bool.not_eq_true, Bool.not_eq_false, Bool.true_eq_false, Bool.false_eq_true] at h); (try simp only [foldN, foldR, foldL, Int.toNat_natCast] at h)
              refine awp_skip ?_
              refine awp_region rfl (.n (fun _ => op_move (.plain rfl)) (.n (fun _ => op_add (.plain rfl) (.plain rfl) ?_) (.n (fun _ => op_assign (.plain rfl)) (.nil _)))) ?_
              · (try simp only [foldN, foldR, foldL, Int.toNat_natCast])
                unfold InR; omega
              exact ⟨i + 1, by omega, by dsimp only; omega, (Ent.kept ⟨rfl, rfl, rfl, rfl, rfl, trivial⟩ ⟨rfl, trivial⟩)⟩
          · (try simp only [decide_eq_true_eq, decide_eq_false_iff_not, Bool.and_eq_true, Bool.or_eq_true, Bool.and_eq_false_iff, Bool.or_eq_false_iff, Bool.not_eq_true', Bool.not_eq_false', Bool.not_eq_true, Bool.not_eq_false, Bool.true_eq_false, Bool.false_eq_true] at h); (try simp only [foldN, foldR, foldL, Int.toNat_natCast] at h)
            refine awp_exit ?_
            refine awp_seq ?_
            refine awp_region rfl (.n (fun _ => op_assign (.plain rfl)) (.nil _)) ?_
            refine awp_block ?_
            refine awp_loop (σ := Nat) (fun (j : Nat) => j ≤ (sidesR raw l r 4 false).length) (fun (j : Nat) => ⟨[(7, .ref 7 0), (8, .pv (.rows (allV (sidesL raw l r 4) (sidesR raw l r 4 false)))), (10, .pv (.ints (leftV (sidesL raw l r 4) (sidesR raw l r 4 false)))), (12, .int (k : Nat)), (14, .int (j : Nat))], [(7, .box [.pv (.seq (ByteArray × Int × List Int × Unit) (ByteArray.empty, 0, [], ()) (fun p => [.str p.1, .i p.2.1, .ints p.2.2.1]) (sidesL raw l r 4)), .pv (.seq (ByteArray × Int × List Int × Unit) (ByteArray.empty, 0, [], ()) (fun p => [.str p.1, .i p.2.1, .ints p.2.2.1]) (sidesR raw l r 4 false))])]⟩) (fun (j : Nat) => (sidesR raw l r 4 false).length - j) 0 ?_ (Ent.kept ⟨rfl, rfl, rfl, rfl, rfl, trivial⟩ ⟨rfl, trivial⟩) ?_
            · exact Nat.zero_le _
            rintro j hp
            try dsimp only at hp
            have hj := hp
            refine awp_seq ?_
            refine awp_seq ?_
            refine awp_region rfl (.n (fun _ => op_move (.plain rfl)) (.n (fun _ => op_fieldAddrR Tryd.underlying24 rfl rfl Tryd.sizeOf22 (.plain rfl)) (.r (op_loadR Tryd.isAgg22 (.plain rfl) rfl rfl) (.n (fun _ => op_len (s := 0) Tryd.underlying22 (.plain rfl)) (.n (fun _ => op_lss (.plain rfl) (.plain rfl)) (.nil _)))))) ?_
            refine awp_cond rfl (fun h => ?_) (fun h => ?_)
            · (try simp only [decide_eq_true_eq, decide_eq_false_iff_not, Bool.and_eq_true, Bool.or_eq_true, Bool.and_eq_false_iff, Bool.or_eq_false_iff, Bool.not_eq_true', Bool.not_eq_false', Bool.not_eq_true, Bool.not_eq_false, Bool.true_eq_false, Bool.false_eq_true] at h); (try simp only [foldN, foldR, foldL, Int.toNat_natCast] at h)
              refine awp_skip ?_
              refine awp_seq ?_
              refine awp_block ?_
              refine awp_seq ?_
              refine awp_region rfl (.n (fun _ => op_move (.plain rfl)) (.n (fun _ => op_move (.plain rfl)) (.n (fun _ => op_call2 Tryd.call32 (.plain rfl) (.plain rfl) (Goes_fc _ (j : Nat) ?_)) (.n (fun _ => op_assign (.plain rfl)) (.nil _))))) ?_
              · (try simp only [foldN, foldR, foldL, Int.toNat_natCast])
                omega
              refine awp_seq ?_
              refine awp_region rfl (.n (fun _ => op_move (.plain rfl)) (.n (fun _ => op_move (.plain rfl)) (.n (fun _ => op_indexAddrN Tryd.underlying36 Tryd.sizeOf25 (.plain rfl) (.plain rfl) (fun _ => rfl) ?_) (.n (fun _ => op_load Tryd.isAgg25 (.plain rfl)) (.n (fun _ => op_move (.plain rfl)) (.n (fun _ => op_call2 Tryd.call32 (.plain rfl) (.plain rfl) (Goes_fc _ (j : Nat) ?_)) (.n (fun _ => op_assign (.plain rfl)) (.nil _)))))))) ?_
              · (try simp only [foldN, foldR, foldL, Int.toNat_natCast])
                omega
              · (try simp only [foldN, foldR, foldL, Int.toNat_natCast])
                have := (hin k (by omega)).1
                omega
              refine awp_seq ?_
              refine awp_region rfl (.n (fun _ => op_move (.plain rfl)) (.n (fun _ => op_len (s := 0) Tryd.underlying25 (.plain rfl)) (.n (fun _ => op_move (.plain rfl)) (.n (fun _ => op_len (s := 0) Tryd.underlying25 (.plain rfl)) (.n (fun _ => op_neq (.plain rfl) (.plain rfl)) (.n (fun _ => op_move (.plain rfl)) (.gn rfl rfl (fun hg _ => op_move (.plain rfl)) (.gn rfl rfl (fun hg _ => op_len (s := 0) Tryd.underlying25 (.opt rfl fun h => h)) (.gn rfl rfl (fun hg _ => op_fieldAddrR Tryd.underlying24 rfl rfl Tryd.sizeOf22 (.plain rfl)) (.gr rfl rfl (fun hg => op_loadR Tryd.isAgg22 (.opt rfl fun h => h) rfl rfl) (.gn rfl rfl (fun hg _ => op_move (.plain rfl)) (.gn rfl rfl (fun hg _ => op_indexAddrN Tryd.underlying22 Tryd.sizeOf48 (.opt rfl fun h => h) (.opt rfl fun h => h) (fun _ => rfl) ?_) (.gn rfl rfl (fun hg _ => op_fieldAddr Tryd.underlying48 rfl rfl Tryd.sizeOf3 (.opt rfl fun h => h)) (.gn rfl rfl (fun hg _ => op_load Tryd.isAgg3 (.opt rfl fun h => h)) (.gn rfl rfl (fun hg _ => op_lss (.opt rfl fun h => h) (.opt rfl fun h => h)) (.gn rfl rfl (fun hg _ => op_move (.opt rfl fun h => h)) (.ggn rfl rfl (fun hg _ => op_move (.plain rfl)) (.ggn rfl rfl (fun hg _ => op_move (.plain rfl)) (.ggn rfl rfl (fun hg _ => op_call2 Tryd.call33 (.opt rfl fun h => h) (.opt rfl fun h => h) (same_fc _ _)) (.ggn rfl rfl (fun hg _ => op_not (.opt rfl fun h => h)) (.gn rfl rfl (fun hg _ => op_and (.opt rfl fun h => h) (.plain rfl) (.plain rfl) (fun h => andI hg (eqT h))) (.n (fun _ => op_or (.plain rfl) (.plain rfl) (.plain rfl) (fun h => eqF h)) (.nil _))))))))))))))))))))))) ?_
              · try simp only [beq_iff_eq, beq_true, beq_false, Bool.and_eq_true, decide_eq_true_eq, decide_eq_false_iff_not, Bool.not_eq_true', Bool.or_eq_true, Bool.or_eq_false_iff] at hg
                (try simp only [foldN, foldR, foldL, Int.toNat_natCast])
                omega
              refine awp_cond rfl (fun h => ?_) (fun h => ?_)
              · (try simp only [decide_eq_true_eq, decide_eq_false_iff_not, Bool.and_eq_true, Bool.or_eq_true, Bool.and_eq_false_iff, Bool.or_eq_false_iff, Bool.not_eq_true', Bool.not_eq_false', Bool.not_eq_true, Bool.not_eq_false, Bool.true_eq_false, Bool.false_eq_true] at h); (try simp only [foldN, foldR, foldL, Int.toNat_natCast] at h)
                exfalso
                have hh := hin k (by omega)
                have h9 := rural_goes hM hA.2.1 hh.2 (hA.2.2 _ hh.2) hal hh.1 (show j < (sidesR raw l r 4 false).length by omega)
                exact h.elim (fun c => c (congrArg Nat.cast h9.1)) (fun c => c.2 (h9.2 c.1))
              · (try simp only [decide_eq_true_eq, decide_eq_false_iff_not, Bool.and_eq_true, Bool.or_eq_true, Bool.and_eq_false_iff, Bool.or_eq_false_iff, Bool.not_eq_true', Bool.not_eq_false', Bool.not_eq_true, Bool.not_eq_false, Bool.true_eq_false, Bool.false_eq_true] at h); (try simp only [foldN, foldR, foldL, Int.toNat_natCast] at h)
                refine awp_skip ?_
                refine awp_region rfl (.n (fun _ => op_move (.plain rfl)) (.n (fun _ => op_add (.plain rfl) (.plain rfl) ?_) (.n (fun _ => op_assign (.plain rfl)) (.nil _)))) ?_
                · (try simp only [foldN, foldR, foldL, Int.toNat_natCast])
                  unfold InR; omega
                exact ⟨j + 1, by omega, by dsimp only; omega, (Ent.kept ⟨rfl, rfl, rfl, rfl, rfl, trivial⟩ ⟨rfl, trivial⟩)⟩
            · (try simp only [decide_eq_true_eq, decide_eq_false_iff_not, Bool.and_eq_true, Bool.or_eq_true, Bool.and_eq_false_iff, Bool.or_eq_false_iff, Bool.not_eq_true', Bool.not_eq_false', Bool.not_eq_true, Bool.not_eq_false, Bool.true_eq_false, Bool.false_eq_true] at h); (try simp only [foldN, foldR, foldL, Int.toNat_natCast] at h)
              refine awp_exit ?_
              refine awp_region rfl (.n (fun _ => op_move (.plain rfl)) (.n (fun _ => op_add (.plain rfl) (.plain rfl) ?_) (.n (fun _ => op_assign (.plain rfl)) (.nil _)))) ?_
              · (try simp only [foldN, foldR, foldL, Int.toNat_natCast])
                unfold InR; omega
              exact ⟨k + 1, by omega, by dsimp only; omega, (Ent.kept ⟨rfl, rfl, rfl, rfl, trivial⟩ ⟨rfl, trivial⟩)⟩
      · (try simp only [decide_eq_true_eq, decide_eq_false_iff_not, Bool.and_eq_true, Bool.or_eq_true, Bool.and_eq_false_iff, Bool.or_eq_false_iff, Bool.not_eq_true', Bool.not_eq_false', Bool.not_eq_true, Bool.not_eq_false, Bool.true_eq_false, Bool.false_eq_true] at h); (try simp only [foldN, foldR, foldL, Int.toNat_natCast] at h)
        refine awp_exit ?_
        refine awp_seq ?_
        refine awp_region rfl (.n (fun _ => op_assign (.plain rfl)) (.nil _)) ?_
        refine awp_ret ?_
        refine retQ.ret ?_
        refine ret1 rfl rfl rfl ?_
        rfl

set_option maxRecDepth 1000000 in
set_option maxHeartbeats 1000000 in
theorem TopLattice_fc (raw : List Int) (l r i k : Int) : FC Tryd.prog 7 [.ints raw, .i l, .i r, .i i, .i k] (.bool true) := by
  refine FC.intro Tryd.func7 rfl (Nat.le_of_ble_eq_true rfl) fun hfit => ?_
  obtain ⟨fitl0, fitr0⟩ := (hfit _ (.head _)).ints
  have fit1 : -9223372036854775808 ≤ (l : Int) ∧ (l : Int) ≤ 9223372036854775807 := (hfit _ (.tail _ (.head _))).int64
  have fit2 : -9223372036854775808 ≤ (r : Int) ∧ (r : Int) ≤ 9223372036854775807 := (hfit _ (.tail _ (.tail _ (.head _)))).int64
  have fit3 : -9223372036854775808 ≤ (i : Int) ∧ (i : Int) ≤ 9223372036854775807 := (hfit _ (.tail _ (.tail _ (.tail _ (.head _))))).int64
  have fit4 : -9223372036854775808 ≤ (k : Int) ∧ (k : Int) ≤ 9223372036854775807 := (hfit _ (.tail _ (.tail _ (.tail _ (.tail _ (.head _)))))).int64
  refine awp_seq ?_
  refine awp_region rfl (.n (fun _ => op_assign (.plain rfl)) (.nil _)) ?_
  refine awp_seq ?_
  refine awp_seq ?_
  refine awp_region rfl (.n (fun _ => op_move (.plain rfl)) (.n (fun _ => op_len (s := 0) Tryd.underlying25 (.plain rfl)) (.n (fun _ => op_gtr (.plain rfl) (.plain rfl)) (.nil _)))) ?_
  refine awp_cond rfl (fun h => ?_) (fun h => ?_)
  · (try simp only [decide_eq_true_eq, decide_eq_false_iff_not, Bool.and_eq_true, Bool.or_eq_true, Bool.and_eq_false_iff, Bool.or_eq_false_iff, Bool.not_eq_true', Bool.not_eq_false', Bool.not_eq_true, Bool.not_eq_false, Bool.true_eq_false, Bool.false_eq_true] at h); (try simp only [foldN, foldR, foldL, Int.toNat_natCast] at h)
    refine awp_seq ?_
    refine awp_region rfl (.n (fun _ => op_assign (.plain rfl)) (.nil _)) ?_
    refine awp_ret ?_
    refine retQ.ret ?_
    refine ret1 rfl rfl rfl ?_
    rfl
  · (try simp only [decide_eq_true_eq, decide_eq_false_iff_not, Bool.and_eq_true, Bool.or_eq_true, Bool.and_eq_false_iff, Bool.or_eq_false_iff, Bool.not_eq_true', Bool.not_eq_false', Bool.not_eq_true, Bool.not_eq_false, Bool.true_eq_false, Bool.false_eq_true] at h); (try simp only [foldN, foldR, foldL, Int.toNat_natCast] at h)
    refine awp_skip ?_
    refine awp_seq ?_
    refine awp_region rfl (.n (fun _ => op_move (.plain rfl)) (.n (fun _ => op_move (.plain rfl)) (.n (fun _ => op_move (.plain rfl)) (.n (fun _ => op_call5 Tryd.call25 (.plain rfl) (.plain rfl) (.plain rfl) (.plain rfl) (.plain rfl) (Sides_fc _ _ _ _ _ ?_)) (.e (op_alloc 11 Tryd.zeroValue24 rfl rfl rfl) rfl (.e (op_storeRA Tryd.sizeOf24 (.plain rfl) (.plain rfl) rfl rfl (Nat.le_of_ble_eq_true rfl) rfl) rfl (.nil _))))))) ?_
    · (try simp only [foldN, foldR, foldL, Int.toNat_natCast])
      omega
    refine awp_seq ?_
    have hM0 : mMayE (sidesL raw l r 4) (sidesR raw l r 4 true) = 0 := sides_may (by omega)
    have hLl := sidesL_len (raw := raw) (l := l) (r := r) (most := 4)
    have hRl := sidesR_len (raw := raw) (l := l) (r := r) (most := 4) (one := true)
    have hLn := sideN_in (x := l) (most := 4) (by omega)
    have hRn := sideN_in (x := r) (most := 4) (by omega)
    have hM := mok hM0
    have hpos := allV_pos hM0
    have hin := fun k (hk : k < (allV (sidesL raw l r 4) (sidesR raw l r 4 true)).length) => (allV_mem hM0).1 (getD_mem [] hk)
    have hll : (allV (sidesL raw l r 4) (sidesR raw l r 4 true)).length ≤ 625 := by rw [← allV_ok hM0]; exact Nat.le_trans (allR_len (by omega) _ _) (five_le (by omega))
    refine awp_region rfl (.r (op_loadRA Tryd.isAgg24 Tryd.sizeOf24 (.plain rfl) rfl (by first | (simp; done) | exact Nat.le_of_ble_eq_true rfl) rfl) (.n (fun _ => op_call1 Tryd.call19 (.plain rfl) (All_fc _ _ ?_ ?_)) (.n (fun _ => op_move (.plain rfl)) (.n (fun _ => op_extract (.plain rfl) rfl) (.n (fun _ => op_extract (.plain rfl) rfl) (.n (fun _ => op_assign (.plain rfl)) (.n (fun _ => op_assign (.plain rfl)) (.nil _)))))))) ?_
    · (try simp only [foldN, foldR, foldL, Int.toNat_natCast])
      omega
    · (try simp only [foldN, foldR, foldL, Int.toNat_natCast])
      omega
    refine awp_seq ?_
    refine awp_seq ?_
    refine awp_region rfl (.n (fun _ => op_move (.plain rfl)) (.n (fun _ => op_neq (.plain rfl) (.plain rfl)) (.n (fun _ => op_move (.plain rfl)) (.gn rfl rfl (fun hg _ => op_move (.plain rfl)) (.gn rfl rfl (fun hg _ => op_len (s := 0) Tryd.underlying36 (.opt rfl fun h => h)) (.gn rfl rfl (fun hg _ => op_eql (.opt rfl fun h => h) (.plain rfl)) (.n (fun _ => op_or (.plain rfl) (.plain rfl) (.plain rfl) (fun h => eqF h)) (.nil _)))))))) ?_
    refine awp_cond rfl (fun h => ?_) (fun h => ?_)
    · (try simp only [decide_eq_true_eq, decide_eq_false_iff_not, Bool.and_eq_true, Bool.or_eq_true, Bool.and_eq_false_iff, Bool.or_eq_false_iff, Bool.not_eq_true', Bool.not_eq_false', Bool.not_eq_true, Bool.not_eq_false, Bool.true_eq_false, Bool.false_eq_true] at h); (try simp only [foldN, foldR, foldL, Int.toNat_natCast] at h)
      exfalso
      exact h.elim (fun d => d hM0) (fun c => by omega)
    · (try simp only [decide_eq_true_eq, decide_eq_false_iff_not, Bool.and_eq_true, Bool.or_eq_true, Bool.and_eq_false_iff, Bool.or_eq_false_iff, Bool.not_eq_true', Bool.not_eq_false', Bool.not_eq_true, Bool.not_eq_false, Bool.true_eq_false, Bool.false_eq_true] at h); (try simp only [foldN, foldR, foldL, Int.toNat_natCast] at h)
      refine awp_skip ?_
      refine awp_seq ?_
      refine awp_region rfl (.n (fun _ => op_move (.plain rfl)) (.n (fun _ => op_move (.plain rfl)) (.n (fun _ => op_move (.plain rfl)) (.n (fun _ => op_len (s := 0) Tryd.underlying36 (.plain rfl)) (.n (fun _ => op_call2 Tryd.call26 (.plain rfl) (.plain rfl) (Pick_fc _ _ ?_)) (.n (fun _ => op_indexAddr Tryd.underlying36 Tryd.sizeOf25 (.plain rfl) (.plain rfl) (fun _ => rfl) ?_) (.n (fun _ => op_load Tryd.isAgg25 (.plain rfl)) (.n (fun _ => op_assign (.plain rfl)) (.nil _))))))))) ?_
      · (try simp only [foldN, foldR, foldL, Int.toNat_natCast])
        omega
      · (try simp only [foldN, foldR, foldL, Int.toNat_natCast])
        have hpi := pickF_range i ((allV (sidesL raw l r 4) (sidesR raw l r 4 true)).length : Nat) (by omega)
        omega
      refine awp_seq ?_
      refine awp_region rfl (.n (fun _ => op_move (.plain rfl)) (.n (fun _ => op_move (.plain rfl)) (.n (fun _ => op_move (.plain rfl)) (.n (fun _ => op_len (s := 0) Tryd.underlying36 (.plain rfl)) (.n (fun _ => op_call2 Tryd.call26 (.plain rfl) (.plain rfl) (Pick_fc _ _ ?_)) (.n (fun _ => op_indexAddr Tryd.underlying36 Tryd.sizeOf25 (.plain rfl) (.plain rfl) (fun _ => rfl) ?_) (.n (fun _ => op_load Tryd.isAgg25 (.plain rfl)) (.n (fun _ => op_assign (.plain rfl)) (.nil _))))))))) ?_
      · (try simp only [foldN, foldR, foldL, Int.toNat_natCast])
        omega
      · (try simp only [foldN, foldR, foldL, Int.toNat_natCast])
        have hpi := pickF_range k ((allV (sidesL raw l r 4) (sidesR raw l r 4 true)).length : Nat) (by omega)
        omega
      refine awp_seq ?_
      have hpi := pickF_range i ((allV (sidesL raw l r 4) (sidesR raw l r 4 true)).length : Nat) (by omega)
      have hpk := pickF_range k ((allV (sidesL raw l r 4) (sidesR raw l r 4 true)).length : Nat) (by omega)
      generalize ha : (allV (sidesL raw l r 4) (sidesR raw l r 4 true)).getD (pickF i ((allV (sidesL raw l r 4) (sidesR raw l r 4 true)).length : Nat)).toNat [] = a
      generalize hb : (allV (sidesL raw l r 4) (sidesR raw l r 4 true)).getD (pickF k ((allV (sidesL raw l r 4) (sidesR raw l r 4 true)).length : Nat)).toNat [] = b
      have hA := ha ▸ hin (pickF i ((allV (sidesL raw l r 4) (sidesR raw l r 4 true)).length : Nat)).toNat (by omega)
      have hB := hb ▸ hin (pickF k ((allV (sidesL raw l r 4) (sidesR raw l r 4 true)).length : Nat)).toNat (by omega)
      have hJ := both_st hM0 hA.1 hA.2 hB.1 hB.2 true
      have hK := both_st hM0 hA.1 hA.2 hB.1 hB.2 false
      have wJ := st_with hM0 hJ.1 hJ.2
      have wK := st_with hM0 hK.1 hK.2
      have sJ := of_st hM0 hJ.1 hJ.2
      have sK := of_st hM0 hK.1 hK.2
      have hE : bothE (sidesL raw l r 4) (sidesR raw l r 4 true) a b = 0 := (bothE_b (st_with hM0 hA.1 hA.2)).trans (st_with hM0 hB.1 hB.2)
      refine awp_region rfl (.r (op_loadRA Tryd.isAgg24 Tryd.sizeOf24 (.plain rfl) rfl (by first | (simp; done) | exact Nat.le_of_ble_eq_true rfl) rfl) (.n (fun _ => op_move (.plain rfl)) (.n (fun _ => op_move (.plain rfl)) (.n (fun _ => op_call3 Tryd.call15 (.plain rfl) (.plain rfl) (.plain rfl) (Join_fc _ _ _ _)) (.n (fun _ => op_move (.plain rfl)) (.n (fun _ => op_extract (.plain rfl) rfl) (.n (fun _ => op_extract (.plain rfl) rfl) (.n (fun _ => op_assign (.plain rfl)) (.n (fun _ => op_assign (.plain rfl)) (.nil _)))))))))) ?_
      refine awp_seq ?_
      refine awp_region rfl (.r (op_loadRA Tryd.isAgg24 Tryd.sizeOf24 (.plain rfl) rfl (by first | (simp; done) | exact Nat.le_of_ble_eq_true rfl) rfl) (.n (fun _ => op_move (.plain rfl)) (.n (fun _ => op_move (.plain rfl)) (.n (fun _ => op_call3 Tryd.call18 (.plain rfl) (.plain rfl) (.plain rfl) (Meet_fc _ _ _ _)) (.n (fun _ => op_move (.plain rfl)) (.n (fun _ => op_extract (.plain rfl) rfl) (.n (fun _ => op_extract (.plain rfl) rfl) (.n (fun _ => op_assign (.plain rfl)) (.n (fun _ => op_assign (.plain rfl)) (.nil _)))))))))) ?_
      refine awp_seq ?_
      refine awp_seq ?_
      refine awp_region rfl (.n (fun _ => op_move (.plain rfl)) (.n (fun _ => op_neq (.plain rfl) (.plain rfl)) (.n (fun _ => op_move (.plain rfl)) (.gn rfl rfl (fun hg _ => op_move (.plain rfl)) (.gn rfl rfl (fun hg _ => op_neq (.opt rfl fun h => h) (.plain rfl)) (.n (fun _ => op_or (.plain rfl) (.plain rfl) (.plain rfl) (fun h => eqF h)) (.nil _))))))) ?_
      refine awp_cond rfl (fun h => ?_) (fun h => ?_)
      · (try simp only [decide_eq_true_eq, decide_eq_false_iff_not, Bool.and_eq_true, Bool.or_eq_true, Bool.and_eq_false_iff, Bool.or_eq_false_iff, Bool.not_eq_true', Bool.not_eq_false', Bool.not_eq_true, Bool.not_eq_false, Bool.true_eq_false, Bool.false_eq_true] at h); (try simp only [foldN, foldR, foldL, Int.toNat_natCast] at h)
        exfalso
        simp [hE] at h
      · (try simp only [decide_eq_true_eq, decide_eq_false_iff_not, Bool.and_eq_true, Bool.or_eq_true, Bool.and_eq_false_iff, Bool.or_eq_false_iff, Bool.not_eq_true', Bool.not_eq_false', Bool.not_eq_true, Bool.not_eq_false, Bool.true_eq_false, Bool.false_eq_true] at h); (try simp only [foldN, foldR, foldL, Int.toNat_natCast] at h)
        refine awp_skip ?_
        refine awp_seq ?_
        refine awp_region rfl (.r (op_loadRA Tryd.isAgg24 Tryd.sizeOf24 (.plain rfl) rfl (by first | (simp; done) | exact Nat.le_of_ble_eq_true rfl) rfl) (.n (fun _ => op_move (.plain rfl)) (.n (fun _ => op_call2 Tryd.call11 (.plain rfl) (.plain rfl) (Stable_fc _ _ _)) (.n (fun _ => op_move (.plain rfl)) (.n (fun _ => op_extract (.plain rfl) rfl) (.n (fun _ => op_extract (.plain rfl) rfl) (.n (fun _ => op_extract (.plain rfl) rfl) (.n (fun _ => op_extract (.plain rfl) rfl) (.n (fun _ => op_assign (.plain rfl)) (.n (fun _ => op_assign (.plain rfl)) (.n (fun _ => op_assign (.plain rfl)) (.n (fun _ => op_assign (.plain rfl)) (.nil _))))))))))))) ?_
        refine awp_seq ?_
        refine awp_region rfl (.r (op_loadRA Tryd.isAgg24 Tryd.sizeOf24 (.plain rfl) rfl (by first | (simp; done) | exact Nat.le_of_ble_eq_true rfl) rfl) (.n (fun _ => op_move (.plain rfl)) (.n (fun _ => op_call2 Tryd.call11 (.plain rfl) (.plain rfl) (Stable_fc _ _ _)) (.n (fun _ => op_move (.plain rfl)) (.n (fun _ => op_extract (.plain rfl) rfl) (.n (fun _ => op_extract (.plain rfl) rfl) (.n (fun _ => op_extract (.plain rfl) rfl) (.n (fun _ => op_extract (.plain rfl) rfl) (.n (fun _ => op_assign (.plain rfl)) (.n (fun _ => op_assign (.plain rfl)) (.n (fun _ => op_assign (.plain rfl)) (.n (fun _ => op_assign (.plain rfl)) (.nil _))))))))))))) ?_
        refine awp_seq ?_
        refine awp_region rfl (.n (fun _ => op_move (.plain rfl)) (.n (fun _ => op_move (.plain rfl)) (.gn rfl rfl (fun hg _ => op_move (.plain rfl)) (.n (fun _ => op_and (.plain rfl) (.plain rfl) (.plain rfl) (fun h => eqT h)) (.n (fun _ => op_move (.plain rfl)) (.gn rfl rfl (fun hg _ => op_move (.plain rfl)) (.gn rfl rfl (fun hg _ => op_eql (.opt rfl fun h => h) (.plain rfl)) (.n (fun _ => op_and (.plain rfl) (.plain rfl) (.plain rfl) (fun h => eqT h)) (.n (fun _ => op_move (.plain rfl)) (.gn rfl rfl (fun hg _ => op_move (.plain rfl)) (.gn rfl rfl (fun hg _ => op_eql (.opt rfl fun h => h) (.plain rfl)) (.n (fun _ => op_and (.plain rfl) (.plain rfl) (.plain rfl) (fun h => eqT h)) (.n (fun _ => op_assign (.plain rfl)) (.nil _)))))))))))))) ?_
        refine awp_ret ?_
        refine retQ.ret ?_
        refine ret1 rfl rfl rfl ?_
        simp [wJ, wK, sJ, sK]

set_option maxRecDepth 1000000 in
set_option maxHeartbeats 1000000 in
theorem TopHonest_fc (raw : List Int) (l r who : Int) (lie : List Int) : FC Tryd.prog 6 [.ints raw, .i l, .i r, .i who, .ints lie] (.bool true) := by
  refine FC.intro Tryd.func6 rfl (Nat.le_of_ble_eq_true rfl) fun hfit => ?_
  obtain ⟨fitl0, fitr0⟩ := (hfit _ (.head _)).ints
  have fit1 : -9223372036854775808 ≤ (l : Int) ∧ (l : Int) ≤ 9223372036854775807 := (hfit _ (.tail _ (.head _))).int64
  have fit2 : -9223372036854775808 ≤ (r : Int) ∧ (r : Int) ≤ 9223372036854775807 := (hfit _ (.tail _ (.tail _ (.head _)))).int64
  have fit3 : -9223372036854775808 ≤ (who : Int) ∧ (who : Int) ≤ 9223372036854775807 := (hfit _ (.tail _ (.tail _ (.tail _ (.head _))))).int64
  obtain ⟨fitl4, fitr4⟩ := (hfit _ (.tail _ (.tail _ (.tail _ (.tail _ (.head _)))))).ints
  refine awp_seq ?_
  refine awp_region rfl (.n (fun _ => op_assign (.plain rfl)) (.nil _)) ?_
  refine awp_seq ?_
  refine awp_seq ?_
  refine awp_region rfl (.n (fun _ => op_move (.plain rfl)) (.n (fun _ => op_len (s := 0) Tryd.underlying25 (.plain rfl)) (.n (fun _ => op_move (.plain rfl)) (.n (fun _ => op_len (s := 0) Tryd.underlying25 (.plain rfl)) (.n (fun _ => op_add (.plain rfl) (.plain rfl) ?_) (.n (fun _ => op_gtr (.plain rfl) (.plain rfl)) (.nil _))))))) ?_
  · (try simp only [foldN, foldR, foldL, Int.toNat_natCast])
    unfold InR; omega
  refine awp_cond rfl (fun h => ?_) (fun h => ?_)
  · (try simp only [decide_eq_true_eq, decide_eq_false_iff_not, Bool.and_eq_true, Bool.or_eq_true, Bool.and_eq_false_iff, Bool.or_eq_false_iff, Bool.not_eq_true', Bool.not_eq_false', Bool.not_eq_true, Bool.not_eq_false, Bool.true_eq_false, Bool.false_eq_true] at h); (try simp only [foldN, foldR, foldL, Int.toNat_natCast] at h)
    refine awp_seq ?_
    refine awp_region rfl (.n (fun _ => op_assign (.plain rfl)) (.nil _)) ?_
    refine awp_ret ?_
    refine retQ.ret ?_
    refine ret1 rfl rfl rfl ?_
    rfl
  · (try simp only [decide_eq_true_eq, decide_eq_false_iff_not, Bool.and_eq_true, Bool.or_eq_true, Bool.and_eq_false_iff, Bool.or_eq_false_iff, Bool.not_eq_true', Bool.not_eq_false', Bool.not_eq_true, Bool.not_eq_false, Bool.true_eq_false, Bool.false_eq_true] at h); (try simp only [foldN, foldR, foldL, Int.toNat_natCast] at h)
    refine awp_skip ?_
    refine awp_seq ?_
    refine awp_region rfl (.n (fun _ => op_move (.plain rfl)) (.n (fun _ => op_move (.plain rfl)) (.n (fun _ => op_move (.plain rfl)) (.n (fun _ => op_call5 Tryd.call25 (.plain rfl) (.plain rfl) (.plain rfl) (.plain rfl) (.plain rfl) (Sides_fc _ _ _ _ _ ?_)) (.e (op_alloc 11 Tryd.zeroValue24 rfl rfl rfl) rfl (.e (op_storeRA Tryd.sizeOf24 (.plain rfl) (.plain rfl) rfl rfl (Nat.le_of_ble_eq_true rfl) rfl) rfl (.nil _))))))) ?_
    · (try simp only [foldN, foldR, foldL, Int.toNat_natCast])
      omega
    refine awp_seq ?_
    have hM0 : mMayE (sidesL raw l r 6) (sidesR raw l r 6 false) = 0 := sides_may (by omega)
    have hLl := sidesL_len (raw := raw) (l := l) (r := r) (most := 6)
    have hRl := sidesR_len (raw := raw) (l := l) (r := r) (most := 6) (one := false)
    have hLn := sideN_in (x := l) (most := 6) (by omega)
    have hRn := sideN_in (x := r) (most := 6) (by omega)
    have hM := mok hM0
    obtain ⟨w, hw⟩ : ∃ w : Nat, pickF who ((sidesL raw l r 6).length : Nat) = (w : Nat) := ⟨(pickF who ((sidesL raw l r 6).length : Nat)).toNat, by have := pickF_range who ((sidesL raw l r 6).length : Nat) (by omega); omega⟩
    have hwm := pickF_range who ((sidesL raw l r 6).length : Nat) (by omega)
    refine awp_region rfl (.n (fun _ => op_move (.plain rfl)) (.n (fun _ => op_fieldAddrR Tryd.underlying24 rfl rfl Tryd.sizeOf22 (.plain rfl)) (.r (op_loadR Tryd.isAgg22 (.plain rfl) rfl rfl) (.n (fun _ => op_len (s := 0) Tryd.underlying22 (.plain rfl)) (.n (fun _ => op_call2 Tryd.call26 (.plain rfl) (.plain rfl) (Pick_fc _ _ ?_)) (.n (fun _ => op_assign (.plain rfl)) (.nil _))))))) ?_
    · (try simp only [foldN, foldR, foldL, Int.toNat_natCast])
      omega
    refine awp_seq ?_
    refine awp_ent (Ent.giveBox 11 rfl rfl rfl) ?_
    rw [hw]
    have hwn : w < (sidesL raw l r 6).length := by omega
    have hlie : someE ((sidesR raw l r 6 false).length : Nat) ((permOf lie 1 (sidesR raw l r 6 false).length).take (pickF (atF lie 0) (((permOf lie 1 (sidesR raw l r 6 false).length).length : Nat) + 1 : Int)).toNat) = 0 := some_take (some_perm _ _ _) _
    have hM2 := setLk_may hM0 hwn hlie
    have hA := leftV_spec hM0
    have hB := leftV_spec hM2
    have hal := hA.1
    have hbl := hB.1
    rw [setLk_len] at hbl
    have hh := honest_gap hM0 hwn hlie
    generalize hb : leftV (setLk (sidesL raw l r 6) w ((permOf lie 1 (sidesR raw l r 6 false).length).take (pickF (atF lie 0) (((permOf lie 1 (sidesR raw l r 6 false).length).length : Nat) + 1 : Int)).toNat)) (sidesR raw l r 6 false) = b at hbl hh
    refine awp_region rfl (.n (fun _ => op_load_agg Tryd.isAgg24 Tryd.sizeOf24 (.plain rfl) (Nat.le_of_ble_eq_true rfl)) (.n (fun _ => op_call1 Tryd.call22 (.plain rfl) (Left_fc _ _)) (.n (fun _ => op_move (.plain rfl)) (.n (fun _ => op_extract (.plain rfl) rfl) (.n (fun _ => op_extract (.plain rfl) rfl) (.n (fun _ => op_assign (.plain rfl)) (.n (fun _ => op_assign (.plain rfl)) (.nil _)))))))) ?_
    refine awp_seq ?_
    refine awp_region_drawG mixed rfl (.n (fun _ => op_slit0 ety22) (.n (fun _ => op_fieldAddr Tryd.underlying24 rfl rfl Tryd.sizeOf22 (.plain rfl)) (.n (fun _ => op_load Tryd.isAgg22 (.plain rfl)) (.a (fun _ hm => op_appendC (id' := 41) (α := (ByteArray × Int × List Int × Unit)) (d := (ByteArray.empty, 0, [], ())) (f := (fun p => [.str p.1, .i p.2.1, .ints p.2.2.1])) ety22 Tryd.underlying22 (fun _ => rfl) (fun _ => rfl) (.plain rfl) (.plain rfl) hm ?_) rfl (fun _ => rfl) rfl (.n (fun _ => op_fieldAddr Tryd.underlying24 rfl rfl Tryd.sizeOf22 (.plain rfl)) (.n (fun _ => op_load Tryd.isAgg22 (.plain rfl)) (.look 41 rfl (fun _ hl => op_buildS (ss := [_, _] ) (xs := [.tmp 41, .tmp 43]) (n := 2) (places := #[(0, 1), (1, 1)]) Tryd.underlying24 Tryd.zeroValue24 rfl (by intro w; kernel_rfl) (fun i h => by match i, h with | 0, _ => rfl | 1, _ => rfl) rfl ⟨(.plain rfl), (.plain rfl), trivial⟩ ⟨rfl, (fun _ h => by cases h), (fun _ h => by cases h; first | exact .inl ⟨_, _, _, _, _, _, hl⟩ | exact .inr ⟨_, rfl⟩), rfl, (fun _ h => by cases h), (fun _ h => by cases h), trivial⟩) (.a (fun _ hm => op_alloc 14 Tryd.zeroValue24 rfl hm rfl) rfl (fun _ => rfl) rfl (.e (op_storeSA Tryd.sizeOf24 (.plain rfl) (.plain rfl) rfl rfl (Nat.le_of_ble_eq_true rfl) (fun k h => by match k, h with | 0, _ => exact ⟨rfl, (fun _ h => by cases h), (fun _ h => by cases h; exact ⟨_, _, _, _, _, _, rfl⟩)⟩ | 1, _ => exact ⟨rfl, (fun _ h => by cases h), (fun _ h => by cases h)⟩)) rfl (.nil _)))))))))) ?d5 ?dg5 ?_
    · (try simp only [foldN, foldR, foldL, Int.toNat_natCast])
      first | omega | (simp; omega)
    · kernel_rfl
    · exact gOk_new 6 41 _ 3 rfl (by kernel_rfl) (by kernel_rfl) rfl (by kernel_rfl)
    refine awp_seq ?_
    refine awp_region rfl (.n (fun _ => op_move (.plain rfl)) (.n (fun _ => op_fieldAddr Tryd.underlying24 rfl rfl Tryd.sizeOf22 (.plain rfl)) (.n (fun _ => op_load Tryd.isAgg22 (.plain rfl)) (.n (fun _ => op_len (s := 0) Tryd.underlying22 (.plain rfl)) (.n (fun _ => op_call3 Tryd.call27 (.plain rfl) (.plain rfl) (.plain rfl) (Perm_fc lie 1 (sidesR raw l r 6 false).length ?_ ?_)) (.n (fun _ => op_assign (.plain rfl)) (.nil _))))))) ?_
    · (try simp only [foldN, foldR, foldL, Int.toNat_natCast])
      omega
    · (try simp only [foldN, foldR, foldL, Int.toNat_natCast])
      omega
    refine awp_seq ?_
    refine awp_region_draw mixed rfl (.n (fun _ => op_fieldAddrR Tryd.underlying24 rfl rfl Tryd.sizeOf22 (.plain rfl)) (.r (op_loadR Tryd.isAgg22 (.plain rfl) rfl rfl) (.n (fun _ => op_move (.plain rfl)) (.n (fun _ => op_move (.plain rfl)) (.n (fun _ => op_move (.plain rfl)) (.n (fun _ => op_call2 Tryd.call28 (.plain rfl) (.plain rfl) (At_fc lie 0)) (.n (fun _ => op_move (.plain rfl)) (.n (fun _ => op_len (s := 0) Tryd.underlying25 (.plain rfl)) (.n (fun _ => op_add (.plain rfl) (.plain rfl) ?_) (.n (fun _ => op_call2 Tryd.call26 (.plain rfl) (.plain rfl) (Pick_fc _ _ ?_)) (.n (fun _ => op_sliceI (kl := .i64) Tryd.underlying25 Tryd.sizeOf3 (fun _ => rfl) (.plain rfl) rfl (.plain rfl) ?_) (.r (op_indexAddrO Tryd.underlying22 Tryd.sizeOf48 (.plain rfl) rfl (.plain rfl) ?_) (.n (fun _ => op_fieldAddrE Tryd.underlying48 rfl rfl Tryd.sizeOf25 (.plain rfl)) (.e (op_storeE (nmF (sidesL raw l r 6) w, rmF (sidesL raw l r 6) w, ((permOf lie 1 (sidesR raw l r 6 false).length).take (pickF (atF lie 0) (((permOf lie 1 (sidesR raw l r 6 false).length).length : Nat) + 1 : Int)).toNat), ()) Tryd.sizeOf25 (.plain rfl) (.plain rfl) rfl (fun _ => rfl) ?_ (by decide) rfl rfl) rfl (.nil _))))))))))))))) ?d6 ?_
    · (try simp only [foldN, foldR, foldL, Int.toNat_natCast])
      have hpl := permOf_length lie 1 (sidesR raw l r 6 false).length
      unfold InR; omega
    · (try simp only [foldN, foldR, foldL, Int.toNat_natCast])
      omega
    · (try simp only [foldN, foldR, foldL, Int.toNat_natCast])
      have hpl := permOf_length lie 1 (sidesR raw l r 6 false).length
      have hp0 := pickF_range (atF lie 0) (((permOf lie 1 (sidesR raw l r 6 false).length).length : Nat) + 1 : Int) (by omega)
      omega
    · (try simp only [foldN, foldR, foldL, Int.toNat_natCast])
      first | omega | (simp; omega)
    · (try simp only [foldN, foldR, foldL, Int.toNat_natCast])
      first | omega | (simp; omega)
    · kernel_rfl
    refine awp_seq ?_
    refine awp_ent (Ent.giveB 14 0 41 rfl rfl rfl) ?_
    refine awp_region rfl (.r (op_loadRA Tryd.isAgg24 Tryd.sizeOf24 (.plain rfl) rfl (by first | (simp; done) | exact Nat.le_of_ble_eq_true rfl) rfl) (.n (fun _ => op_call1 Tryd.call22 (.plain rfl) (hb ▸ Left_fc (setLk (sidesL raw l r 6) w ((permOf lie 1 (sidesR raw l r 6 false).length).take (pickF (atF lie 0) (((permOf lie 1 (sidesR raw l r 6 false).length).length : Nat) + 1 : Int)).toNat)) (sidesR raw l r 6 false))) (.n (fun _ => op_move (.plain rfl)) (.n (fun _ => op_extract (.plain rfl) rfl) (.n (fun _ => op_extract (.plain rfl) rfl) (.n (fun _ => op_assign (.plain rfl)) (.n (fun _ => op_assign (.plain rfl)) (.nil _)))))))) ?_
    refine awp_seq ?_
    refine awp_seq ?_
    refine awp_region rfl (.n (fun _ => op_move (.plain rfl)) (.n (fun _ => op_neq (.plain rfl) (.plain rfl)) (.n (fun _ => op_move (.plain rfl)) (.gn rfl rfl (fun hg _ => op_move (.plain rfl)) (.gn rfl rfl (fun hg _ => op_neq (.opt rfl fun h => h) (.plain rfl)) (.n (fun _ => op_or (.plain rfl) (.plain rfl) (.plain rfl) (fun h => eqF h)) (.n (fun _ => op_move (.plain rfl)) (.gn rfl rfl (fun hg _ => op_move (.plain rfl)) (.gn rfl rfl (fun hg _ => op_len (s := 0) Tryd.underlying25 (.opt rfl fun h => h)) (.gn rfl rfl (fun hg _ => op_fieldAddr Tryd.underlying24 rfl rfl Tryd.sizeOf22 (.plain rfl)) (.gn rfl rfl (fun hg _ => op_load Tryd.isAgg22 (.opt rfl fun h => h)) (.gn rfl rfl (fun hg _ => op_len (s := 0) Tryd.underlying22 (.opt rfl fun h => h)) (.gn rfl rfl (fun hg _ => op_neq (.opt rfl fun h => h) (.opt rfl fun h => h)) (.n (fun _ => op_or (.plain rfl) (.plain rfl) (.plain rfl) (fun h => eqF h)) (.n (fun _ => op_move (.plain rfl)) (.gn rfl rfl (fun hg _ => op_move (.plain rfl)) (.gn rfl rfl (fun hg _ => op_len (s := 0) Tryd.underlying25 (.opt rfl fun h => h)) (.gn rfl rfl (fun hg _ => op_fieldAddr Tryd.underlying24 rfl rfl Tryd.sizeOf22 (.plain rfl)) (.gn rfl rfl (fun hg _ => op_load Tryd.isAgg22 (.opt rfl fun h => h)) (.gn rfl rfl (fun hg _ => op_len (s := 0) Tryd.underlying22 (.opt rfl fun h => h)) (.gn rfl rfl (fun hg _ => op_neq (.opt rfl fun h => h) (.opt rfl fun h => h)) (.n (fun _ => op_or (.plain rfl) (.plain rfl) (.plain rfl) (fun h => eqF h)) (.nil _))))))))))))))))))))))) ?_
    refine awp_cond rfl (fun h => ?_) (fun h => ?_)
    · (try simp only [decide_eq_true_eq, decide_eq_false_iff_not, Bool.and_eq_true, Bool.or_eq_true, Bool.and_eq_false_iff, Bool.or_eq_false_iff, Bool.not_eq_true', Bool.not_eq_false', Bool.not_eq_true, Bool.not_eq_false, Bool.true_eq_false, Bool.false_eq_true] at h); (try simp only [foldN, foldR, foldL, Int.toNat_natCast] at h)
      exfalso
      exact h.elim (fun c => c.elim (fun c => c.elim (fun c => c hM0) (fun c => c hM2)) (fun c => c (congrArg Nat.cast hal))) (fun c => c (congrArg Nat.cast hbl))
    · (try simp only [decide_eq_true_eq, decide_eq_false_iff_not, Bool.and_eq_true, Bool.or_eq_true, Bool.and_eq_false_iff, Bool.or_eq_false_iff, Bool.not_eq_true', Bool.not_eq_false', Bool.not_eq_true, Bool.not_eq_false, Bool.true_eq_false, Bool.false_eq_true] at h); (try simp only [foldN, foldR, foldL, Int.toNat_natCast] at h)
      refine awp_skip ?_
      refine awp_seq ?_
      refine awp_region_draw mixed rfl (.n (fun _ => op_move (.plain rfl)) (.n (fun _ => op_move (.plain rfl)) (.n (fun _ => op_indexAddr Tryd.underlying25 Tryd.sizeOf3 (.plain rfl) (.plain rfl) (fun _ => rfl) ?_) (.n (fun _ => op_load Tryd.isAgg3 (.plain rfl)) (.n (fun _ => op_geq (.plain rfl) (.plain rfl)) (.n (fun _ => op_move (.plain rfl)) (.gn rfl rfl (fun hg _ => op_fieldAddr Tryd.underlying24 rfl rfl Tryd.sizeOf22 (.plain rfl)) (.gn rfl rfl (fun hg _ => op_load Tryd.isAgg22 (.opt rfl fun h => h)) (.gn rfl rfl (fun hg _ => op_move (.plain rfl)) (.gn rfl rfl (fun hg _ => op_indexAddr Tryd.underlying22 Tryd.sizeOf48 (.opt rfl fun h => h) (.opt rfl fun h => h) (fun _ => rfl) ?_) (.gn rfl rfl (fun hg _ => op_fieldAddr Tryd.underlying48 rfl rfl Tryd.sizeOf25 (.opt rfl fun h => h)) (.gn rfl rfl (fun hg _ => op_load Tryd.isAgg25 (.opt rfl fun h => h)) (.gn rfl rfl (fun hg _ => op_move (.plain rfl)) (.gn rfl rfl (fun hg _ => op_move (.plain rfl)) (.gn rfl rfl (fun hg _ => op_indexAddr Tryd.underlying25 Tryd.sizeOf3 (.opt rfl fun h => h) (.opt rfl fun h => h) (fun _ => rfl) ?_) (.gn rfl rfl (fun hg _ => op_load Tryd.isAgg3 (.opt rfl fun h => h)) (.gn rfl rfl (fun hg _ => op_call2 Tryd.call29 (.opt rfl fun h => h) (.opt rfl fun h => h) (Place_fc _ _)) (.gn rfl rfl (fun hg _ => op_lss (.opt rfl fun h => h) (.plain rfl)) (.n (fun _ => op_and (.plain rfl) (.plain rfl) (.plain rfl) (fun h => eqT h)) (.n (fun _ => op_move (.plain rfl)) (.gn rfl rfl (fun hg _ => op_fieldAddr Tryd.underlying24 rfl rfl Tryd.sizeOf22 (.plain rfl)) (.gn rfl rfl (fun hg _ => op_load Tryd.isAgg22 (.opt rfl fun h => h)) (.gn rfl rfl (fun hg _ => op_move (.plain rfl)) (.gn rfl rfl (fun hg _ => op_indexAddr Tryd.underlying22 Tryd.sizeOf48 (.opt rfl fun h => h) (.opt rfl fun h => h) (fun _ => rfl) ?_) (.gn rfl rfl (fun hg _ => op_load_agg Tryd.isAgg48 Tryd.sizeOf48 (.opt rfl fun h => h) (Nat.le_of_ble_eq_true rfl)) (.gn rfl rfl (fun hg _ => op_move (.plain rfl)) (.gn rfl rfl (fun hg _ => op_move (.plain rfl)) (.gn rfl rfl (fun hg _ => op_indexAddr Tryd.underlying25 Tryd.sizeOf3 (.opt rfl fun h => h) (.opt rfl fun h => h) (fun _ => rfl) ?_) (.gn rfl rfl (fun hg _ => op_load Tryd.isAgg3 (.opt rfl fun h => h)) (.gn rfl rfl (fun hg _ => op_call2 Tryd.call30 (.opt rfl fun h => h) (.opt rfl fun h => h) (gap_fc _ _ _ _)) (.gn rfl rfl (fun hg _ => op_fieldAddr Tryd.underlying24 rfl rfl Tryd.sizeOf22 (.plain rfl)) (.gn rfl rfl (fun hg _ => op_load Tryd.isAgg22 (.opt rfl fun h => h)) (.gn rfl rfl (fun hg _ => op_move (.plain rfl)) (.gn rfl rfl (fun hg _ => op_indexAddr Tryd.underlying22 Tryd.sizeOf48 (.opt rfl fun h => h) (.opt rfl fun h => h) (fun _ => rfl) ?_) (.gn rfl rfl (fun hg _ => op_load_agg Tryd.isAgg48 Tryd.sizeOf48 (.opt rfl fun h => h) (Nat.le_of_ble_eq_true rfl)) (.gn rfl rfl (fun hg _ => op_move (.plain rfl)) (.gn rfl rfl (fun hg _ => op_move (.plain rfl)) (.gn rfl rfl (fun hg _ => op_indexAddr Tryd.underlying25 Tryd.sizeOf3 (.opt rfl fun h => h) (.opt rfl fun h => h) (fun _ => rfl) ?_) (.gn rfl rfl (fun hg _ => op_load Tryd.isAgg3 (.opt rfl fun h => h)) (.gn rfl rfl (fun hg _ => op_call2 Tryd.call30 (.opt rfl fun h => h) (.opt rfl fun h => h) (gap_fc _ _ _ _)) (.gn rfl rfl (fun hg _ => op_leq (.opt rfl fun h => h) (.opt rfl fun h => h)) (.n (fun _ => op_or (.plain rfl) (.plain rfl) (.plain rfl) (fun h => eqF h)) (.n (fun _ => op_assign (.plain rfl)) (.nil _)))))))))))))))))))))))))))))))))))))))))))) ?d7 ?_
      · (try simp only [foldN, foldR, foldL, Int.toNat_natCast])
        omega
      · try simp only [beq_iff_eq, beq_true, beq_false, Bool.and_eq_true, decide_eq_true_eq, decide_eq_false_iff_not, Bool.not_eq_true', Bool.or_eq_true, Bool.or_eq_false_iff] at hg
        (try simp only [foldN, foldR, foldL, Int.toNat_natCast])
        omega
      · try simp only [beq_iff_eq, beq_true, beq_false, Bool.and_eq_true, decide_eq_true_eq, decide_eq_false_iff_not, Bool.not_eq_true', Bool.or_eq_true, Bool.or_eq_false_iff] at hg
        (try simp only [foldN, foldR, foldL, Int.toNat_natCast])
        omega
      · try simp only [beq_iff_eq, beq_true, beq_false, Bool.and_eq_true, decide_eq_true_eq, decide_eq_false_iff_not, Bool.not_eq_true', Bool.or_eq_true, Bool.or_eq_false_iff] at hg
        (try simp only [foldN, foldR, foldL, Int.toNat_natCast])
        omega
      · try simp only [beq_iff_eq, beq_true, beq_false, Bool.and_eq_true, decide_eq_true_eq, decide_eq_false_iff_not, Bool.not_eq_true', Bool.or_eq_true, Bool.or_eq_false_iff] at hg
        (try simp only [foldN, foldR, foldL, Int.toNat_natCast])
        omega
      · try simp only [beq_iff_eq, beq_true, beq_false, Bool.and_eq_true, decide_eq_true_eq, decide_eq_false_iff_not, Bool.not_eq_true', Bool.or_eq_true, Bool.or_eq_false_iff] at hg
        (try simp only [foldN, foldR, foldL, Int.toNat_natCast])
        omega
      · try simp only [beq_iff_eq, beq_true, beq_false, Bool.and_eq_true, decide_eq_true_eq, decide_eq_false_iff_not, Bool.not_eq_true', Bool.or_eq_true, Bool.or_eq_false_iff] at hg
        (try simp only [foldN, foldR, foldL, Int.toNat_natCast])
        omega
      · kernel_rfl
      refine awp_ret ?_
      refine retQ.ret ?_
      refine ret1 rfl rfl rfl ?_
      refine congrArg PV.bool ?_
      simp only [foldN, foldR, foldL, Int.toNat_natCast]
      rw [Bool.or_eq_true, Bool.and_eq_true]
      first | exact hh.elim (fun c => .inl ⟨decide_eq_true c.1, decide_eq_true c.2⟩) (fun c => .inr (decide_eq_true c)) | exact hh.elim (fun c => .inl ⟨c.1, decide_eq_true c.2⟩) (fun c => .inr (decide_eq_true c))

end Go.Proofs.YtpapnkphlmickaaDoor

