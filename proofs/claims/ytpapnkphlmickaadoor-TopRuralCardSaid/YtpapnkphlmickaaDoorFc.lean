/- Who goes with whom: stability, by both ways; the better and the worse of two. Conditions: each theorem names its own. -/
import Derived.Test.YtpapnkphlmickaaDoorProg
import Derived.Test.YtpapnkphlmickaaDoorFb
namespace Go.Proofs.YtpapnkphlmickaaDoor
open Go.Abs
set_option linter.unusedVariables false
set_option linter.unusedSimpArgs false


theorem getD_memC {l : List Int} {k : Nat} (h : k < l.length) : l.getD k 0 ∈ l := getD_mem 0 h
/-! ### What a pairing that may be is like -/
structure MOk (L R : List Ag) : Prop where
  l6 : L.length ≤ 6
  r6 : R.length ≤ 6
  lin : ∀ i, i < L.length → ∀ k, k < (lkF L i).length → 0 ≤ (lkF L i).getD k 0 ∧ (lkF L i).getD k 0 < (R.length : Nat)
  rin : ∀ i, i < R.length → ∀ k, k < (lkF R i).length → 0 ≤ (lkF R i).getD k 0 ∧ (lkF R i).getD k 0 < (L.length : Nat)
  lone : ∀ i, i < L.length → ∀ k, k < (lkF L i).length → placeF (lkF L i) ((lkF L i).getD k 0) = (k : Nat)
  rone : ∀ i, i < R.length → ∀ k, k < (lkF R i).length → placeF (lkF R i) ((lkF R i).getD k 0) = (k : Nat)
  lroom : ∀ i, i < L.length → rmF L i = 1
  rroom : ∀ i, i < R.length → 1 ≤ rmF R i ∧ rmF R i ≤ 4
theorem placeF_le {l : List Int} {k : Nat} (h : k < l.length) : placeF l (l.getD k 0) ≤ (k : Nat) ∧ 0 ≤ placeF l (l.getD k 0) := by
  unfold placeF
  cases e : firstI (fun i => decide (l.getD i 0 = l.getD k 0)) l.length with
  | none => exact absurd (firstI_none e k h) (by simp)
  | some i =>
    have h1 := firstI_spec e
    simp only
    rcases Nat.lt_or_ge k i with h2 | h2
    · exact absurd (h1.2.2 k h2) (by simp)
    · omega
theorem placeF_at {l : List Int} {x : Int} (h : 0 ≤ placeF l x) : (placeF l x).toNat < l.length ∧ l.getD (placeF l x).toNat 0 = x := by
  unfold placeF at *
  cases e : firstI (fun i => decide (l.getD i 0 = x)) l.length with
  | none => rw [e] at h; simp at h
  | some i =>
    have h1 := firstI_spec e
    simp only [Int.toNat_natCast]
    exact ⟨h1.1, of_decide_eq_true h1.2.1⟩
theorem placeF_lt {l : List Int} {x : Int} : placeF l x < (l.length : Nat) ∧ -1 ≤ placeF l x := by
  unfold placeF
  cases e : firstI (fun i => decide (l.getD i 0 = x)) l.length with
  | none => simp only; omega
  | some i => have h1 := firstI_spec e; simp only; omega
theorem placeF_inj {l : List Int} {x y : Int} (h : 0 ≤ placeF l x) (e : placeF l x = placeF l y) : x = y := by
  rw [← (placeF_at h).2, e, (placeF_at (e ▸ h)).2]
theorem someE_zero {n : Int} {l : List Int} (h : someE n l = 0) {k : Nat} (hk : k < l.length) : 0 ≤ l.getD k 0 ∧ l.getD k 0 < n ∧ placeF l (l.getD k 0) = (k : Nat) := by
  have h1 := firstE_zero h k hk
  have h2 := placeF_le hk
  unfold someB at h1
  split at h1
  · omega
  · split at h1
    · omega
    · omega
theorem agE_zero {nm : ByteArray} {rm n : Int} {lk : List Int} {N : List ByteArray} (h : agE nm rm lk n N = 0) : 1 ≤ rm ∧ rm ≤ 4 ∧ someE n lk = 0 := by
  unfold agE at h
  split at h
  · omega
  · split at h
    · omega
    · split at h
      · omega
      · exact ⟨by omega, by omega, h⟩
theorem mok {L R : List Ag} (h : mMayE L R = 0) : MOk L R := by
  unfold mMayE at h
  split at h
  · rename_i h1; exact absurd h h1
  · rename_i h1
    have h1 : rMayE L R = 0 := by simpa using h1
    have hr := firstE_zero h
    unfold rMayE at h1
    split at h1
    · omega
    · rename_i h2
      have hz := firstE_zero h1
      have side : ∀ k, k < 2 → ∀ j, j < (sdF L R k).length → 1 ≤ rmF (sdF L R k) j ∧ rmF (sdF L R k) j ≤ 4 ∧ someE ((otF L R k).length : Nat) (lkF (sdF L R k) j) = 0 := fun k hk j hj => by
        have := hz _ (sd_at hk hj).2.2
        rw [sideE_sd hk hj] at this
        exact agE_zero this
      refine ⟨by omega, by omega, fun i hi k hk => ?_, fun i hi k hk => ?_, fun i hi k hk => ?_, fun i hi k hk => ?_, fun i hi => ?_, fun i hi => ?_⟩
      · have := someE_zero (side 0 (by omega) i hi).2.2 hk; exact ⟨this.1, this.2.1⟩
      · have := someE_zero (side 1 (by omega) i hi).2.2 hk; exact ⟨this.1, this.2.1⟩
      · exact (someE_zero (side 0 (by omega) i hi).2.2 hk).2.2
      · exact (someE_zero (side 1 (by omega) i hi).2.2 hk).2.2
      · have := hr i hi
        unfold roomB at this
        split at this
        · omega
        · rename_i h3; simpa using h3
      · have := side 1 (by omega) i hi; exact ⟨this.1, this.2.1⟩
/-! ### Who goes with whom -/
def goesI (w : List Int) (x : Int) : Nat → List Int
  | 0 => []
  | n + 1 => if w.getD n 0 = x then goesI w x n ++ [(n : Int)] else goesI w x n
theorem goesI_yes {w : List Int} {x : Int} {n : Nat} (h : w.getD n 0 = x) : goesI w x n ++ [(n : Int)] = goesI w x (n + 1) := by simp only [goesI]; rw [if_pos h]
theorem goesI_no {w : List Int} {x : Int} {n : Nat} (h : ¬ w.getD n 0 = x) : goesI w x n = goesI w x (n + 1) := by simp only [goesI]; rw [if_neg h]
theorem goesI_le {w : List Int} {x : Int} : ∀ n, (goesI w x n).length ≤ n
  | 0 => Nat.le_refl _
  | n + 1 => by
    have := goesI_le (w := w) (x := x) n
    simp only [goesI]
    split <;> (try simp only [List.length_append, List.length_cons, List.length_nil]) <;> omega
theorem goesI_mem {w : List Int} {x : Int} {y : Int} : ∀ n, y ∈ goesI w x n ↔ ∃ i : Nat, i < n ∧ y = (i : Int) ∧ w.getD i 0 = x
  | 0 => by simp [goesI]
  | n + 1 => by
    simp only [goesI]
    have ih := goesI_mem (w := w) (x := x) (y := y) n
    split
    · rename_i h
      simp only [List.mem_append, List.mem_singleton, ih]
      constructor
      · rintro (⟨i, h1, h2⟩ | h1)
        · exact ⟨i, by omega, h2⟩
        · exact ⟨n, by omega, h1, h⟩
      · rintro ⟨i, h1, h2, h3⟩
        by_cases e : i = n
        · subst e; exact .inr h2
        · exact .inl ⟨i, by omega, h2, h3⟩
    · rename_i h
      rw [ih]
      constructor
      · rintro ⟨i, h1, h2⟩; exact ⟨i, by omega, h2⟩
      · rintro ⟨i, h1, h2, h3⟩
        by_cases e : i = n
        · subst e; exact absurd h3 h
        · exact ⟨i, by omega, h2, h3⟩
def cntF (w : List Int) (x : Int) : Nat := (goesI w x w.length).length
def likesF (L R : List Ag) (l r : Nat) : Bool := decide (0 ≤ placeF (lkF L l) (r : Nat)) && decide (0 ≤ placeF (lkF R r) (l : Nat))
def inB (R : List Ag) (w : List Int) (i : Nat) : Int := if w.getD i 0 < -1 ∨ (R.length : Int) ≤ w.getD i 0 then 8 else 0
def fullB (R : List Ag) (w : List Int) (r : Nat) : Int := if rmF R r < (cntF w (r : Nat) : Nat) then 2 else 0
def withE (L R : List Ag) (w : List Int) : Int :=
  if mMayE L R ≠ 0 then mMayE L R else if (w.length : Int) ≠ L.length then 7 else if firstE (inB R w) w.length ≠ 0 then firstE (inB R w) w.length else firstE (fullB R w) R.length
section
variable {L R : List Ag} {w : List Int}
theorem withE_m (h : ¬ mMayE L R = 0) : mMayE L R = withE L R w := (if_pos h).symm
theorem withE_7 (h : mMayE L R = 0) (h' : ¬ (w.length : Int) = L.length) : 7 = withE L R w := by unfold withE; rw [if_neg (fun c => c h), if_pos h']
theorem withE_i (h : mMayE L R = 0) (h' : (w.length : Int) = L.length) {i : Nat} (hE : firstE (inB R w) i = 0) (hi : i < w.length) (hb : w.getD i 0 < -1 ∨ (R.length : Int) ≤ w.getD i 0) : 8 = withE L R w := by
  have := firstE_stop hE (if_pos hb) (show (8 : Int) ≠ 0 by omega) hi
  unfold withE; rw [if_neg (fun c => c h), if_neg (fun c => c h'), this, if_pos (by omega)]
theorem withE_f (h : mMayE L R = 0) (h' : (w.length : Int) = L.length) (hE : firstE (inB R w) w.length = 0) : firstE (fullB R w) R.length = withE L R w := by
  unfold withE; rw [if_neg (fun c => c h), if_neg (fun c => c h'), hE, if_neg (fun c => c rfl)]
theorem withE_2 (h : mMayE L R = 0) (h' : (w.length : Int) = L.length) (hE : firstE (inB R w) w.length = 0) {r : Nat} (hF : firstE (fullB R w) r = 0) (hr : r < R.length) (hb : rmF R r < (cntF w (r : Nat) : Nat)) : 2 = withE L R w := by
  rw [← withE_f h h' hE]; exact (firstE_stop hF (if_pos hb) (by omega) hr).symm
theorem withE_ok (h : mMayE L R = 0) (h' : (w.length : Int) = L.length) (hE : firstE (inB R w) w.length = 0) (hF : firstE (fullB R w) R.length = 0) : 0 = withE L R w := by rw [← withE_f h h' hE]; exact hF.symm
end
structure WOk (L R : List Ag) (w : List Int) : Prop where
  m : MOk L R
  len : w.length = L.length
  ins : ∀ i, i < w.length → -1 ≤ w.getD i 0 ∧ w.getD i 0 < (R.length : Nat)
  full : ∀ r, r < R.length → (cntF w (r : Nat) : Int) ≤ rmF R r
theorem wok {L R : List Ag} {w : List Int} (h : withE L R w = 0) : WOk L R w := by
  unfold withE at h
  split at h
  · rename_i h1; exact absurd h h1
  · rename_i h1
    split at h
    · omega
    · rename_i h2
      split at h
      · rename_i h3; exact absurd h h3
      · rename_i h3
        have h3 : firstE (inB R w) w.length = 0 := by simpa using h3
        have hi := firstE_zero h3
        have hf := firstE_zero h
        refine ⟨mok (by simpa using h1), by omega, fun i hi2 => ?_, fun r hr => ?_⟩
        · have := hi i hi2
          unfold inB at this
          split at this <;> omega
        · have := hf r hr
          unfold fullB at this
          split at this <;> omega
def idxF (l : List Int) (p : Int → Bool) : Int := match firstI (fun i => p (l.getD i 0)) l.length with | some i => (i : Int) | none => -1
/-- Whom one likes less than another one. -/
def aftF (R : List Ag) (l r : Nat) : List Int := ((lkF R r).take (lkF R r).length).drop (placeF (lkF R r) (l : Nat) + 1).toNat
def beforeF (L : List Ag) (w : List Int) (l r : Nat) : Bool := decide (0 ≤ w.getD l 0) && decide (placeF (lkF L l) (w.getD l 0) ≤ placeF (lkF L l) (r : Nat))
def wouldF (L R : List Ag) (w : List Int) (l r : Nat) : Bool :=
  if (!likesF L R l r || beforeF L w l r) = true then false else if (cntF w (r : Nat) : Int) < rmF R r then true else decide (0 ≤ idxF (aftF R l r) fun x => decide (w.getD x.toNat 0 = (r : Nat)))
section
variable {L R : List Ag} {w : List Int} {l r : Nat}
theorem wouldF_no (h : (!likesF L R l r || beforeF L w l r) = true) : false = wouldF L R w l r := (if_pos h).symm
theorem wouldF_cnt (h : ¬ (!likesF L R l r || beforeF L w l r) = true) (h' : (cntF w (r : Nat) : Int) < rmF R r) : true = wouldF L R w l r := by unfold wouldF; rw [if_neg h, if_pos h']
theorem wouldF_aft (h : ¬ (!likesF L R l r || beforeF L w l r) = true) (h' : ¬ (cntF w (r : Nat) : Int) < rmF R r) : decide (0 ≤ idxF (aftF R l r) fun x => decide (w.getD x.toNat 0 = (r : Nat))) = wouldF L R w l r := by unfold wouldF; rw [if_neg h, if_neg h']
theorem aft_mem {x : Int} (h : x ∈ aftF R l r) (hl : 0 ≤ placeF (lkF R r) (l : Nat)) : ∃ k : Nat, k < (lkF R r).length ∧ (lkF R r).getD k 0 = x ∧ placeF (lkF R r) (l : Nat) < (k : Nat) := by
  unfold aftF at h
  rw [List.take_length] at h
  obtain ⟨j, hj, e⟩ := List.getElem_of_mem h
  rw [List.getElem_drop] at e
  have hj2 : (placeF (lkF R r) (l : Nat) + 1).toNat + j < (lkF R r).length := by rw [List.length_drop] at hj; omega
  exact ⟨_, hj2, by rw [List.getD_eq_getElem?_getD, List.getElem?_eq_getElem hj2, ← e]; rfl, by omega⟩
theorem mem_aft {k : Nat} (hk : k < (lkF R r).length) (h : placeF (lkF R r) (l : Nat) < (k : Nat)) (hl : 0 ≤ placeF (lkF R r) (l : Nat)) : (lkF R r).getD k 0 ∈ aftF R l r := by
  unfold aftF
  rw [List.take_length]
  have : (lkF R r).getD k 0 = ((lkF R r).drop (placeF (lkF R r) (l : Nat) + 1).toNat)[k - (placeF (lkF R r) (l : Nat) + 1).toNat]'(by rw [List.length_drop]; omega) := by
    rw [List.getElem_drop, List.getD_eq_getElem?_getD, List.getElem?_eq_getElem hk]
    simp only [Option.getD_some]
    congr 1
    omega
  rw [this]
  exact List.getElem_mem _
theorem idxF_iff {l : List Int} {p : Int → Bool} : 0 ≤ idxF l p ↔ ∃ x, x ∈ l ∧ p x = true := by
  unfold idxF
  cases e : firstI (fun i => p (l.getD i 0)) l.length with
  | some i =>
    have h1 := firstI_spec e
    exact ⟨fun _ => ⟨_, getD_memC h1.1, h1.2.1⟩, fun _ => by simp only; omega⟩
  | none =>
    have h1 := firstI_none e
    refine ⟨fun h => by simp only at h; omega, fun ⟨x, hx, hp⟩ => ?_⟩
    obtain ⟨j, hj, ex⟩ := List.getElem_of_mem hx
    have := h1 j hj
    simp only [List.getD_eq_getElem?_getD, List.getElem?_eq_getElem hj, Option.getD_some, ex, hp] at this
    cases this
/-- The document's way: one of those that go with it is liked less. -/
theorem aft_is (hW : WOk L R w) (hr : r < R.length) (hl : 0 ≤ placeF (lkF R r) (l : Nat)) : (0 ≤ idxF (aftF R l r) fun x => decide (w.getD x.toNat 0 = (r : Nat))) ↔ ∃ y, y ∈ goesI w (r : Nat) w.length ∧ placeF (lkF R r) (l : Nat) < placeF (lkF R r) y := by
  rw [idxF_iff]
  constructor
  · rintro ⟨x, hx, hp⟩
    obtain ⟨k, hk, e, h1⟩ := aft_mem hx hl
    have h2 := hW.m.rin r hr k hk
    have h3 := hW.m.rone r hr k hk
    rw [e] at h2 h3
    refine ⟨x, (goesI_mem _).2 ⟨x.toNat, by have := hW.len; omega, by omega, of_decide_eq_true hp⟩, by omega⟩
  · rintro ⟨y, hy, h1⟩
    obtain ⟨i, hi, e, hw⟩ := (goesI_mem _).1 hy
    have h2 := placeF_at (l := lkF R r) (x := y) (by omega)
    refine ⟨y, ?_, by rw [e, Int.toNat_natCast]; exact decide_eq_true hw⟩
    rw [← h2.2]
    exact mem_aft h2.1 (by omega) hl
theorem aft_in {x : Int} (hW : WOk L R w) (hr : r < R.length) (hl : 0 ≤ placeF (lkF R r) (l : Nat)) (h : x ∈ aftF R l r) : 0 ≤ x ∧ x < (w.length : Nat) := by
  obtain ⟨k, hk, e, _⟩ := aft_mem h hl
  have := hW.m.rin r hr k hk
  have := hW.len
  omega
theorem likes_l (h : likesF L R l r = true) : 0 ≤ placeF (lkF L l) (r : Nat) ∧ 0 ≤ placeF (lkF R r) (l : Nat) := by
  unfold likesF at h; simpa using h
/-- Those that go together like each other. -/
def Fond (L R : List Ag) (w : List Int) : Prop := ∀ l, l < w.length → 0 ≤ w.getD l 0 → likesF L R l (w.getD l 0).toNat = true
theorem before_same (hF : Fond L R w) (hl : l < w.length) (h : w.getD l 0 = (r : Nat)) : beforeF L w l r = true := by
  unfold beforeF
  rw [h]
  simp
theorem before_lt (h0 : 0 ≤ w.getD l 0) (h : placeF (lkF L l) (w.getD l 0) < placeF (lkF L l) (r : Nat)) : beforeF L w l r = true := by
  unfold beforeF
  simp only [Bool.and_eq_true, decide_eq_true_eq]; omega
theorem before_no (hF : Fond L R w) (hl : l < w.length) (h : ¬ w.getD l 0 = (r : Nat)) (h' : 0 ≤ w.getD l 0 → ¬ placeF (lkF L l) (w.getD l 0) < placeF (lkF L l) (r : Nat)) : beforeF L w l r = false := by
  unfold beforeF
  rcases Int.lt_or_le (w.getD l 0) 0 with h0 | h0
  · rw [decide_eq_false (by omega)]; rfl
  · have h1 := (likes_l (hF l hl h0)).1
    have e : ((w.getD l 0).toNat : Int) = w.getD l 0 := by omega
    rw [e] at h1
    have h2 := h' h0
    have h3 : ¬ placeF (lkF L l) (w.getD l 0) = placeF (lkF L l) (r : Nat) := fun c => h (placeF_inj h1 c)
    rw [decide_eq_false (show ¬ placeF (lkF L l) (w.getD l 0) ≤ placeF (lkF L l) (r : Nat) by omega)]
    simp
end
/-! ### Stability -/
def badL (L R : List Ag) (w : List Int) (l : Nat) : Bool := decide (0 ≤ w.getD l 0) && !likesF L R l (w.getD l 0).toNat
def rowB (L R : List Ag) (w : List Int) (l : Nat) : Bool := (firstI (wouldF L R w l) R.length).isSome
def stBad (L R : List Ag) (w : List Int) : Option (Int × Int) :=
  match firstI (badL L R w) w.length with
  | some l => some ((l : Int), -1)
  | none => match firstI (rowB L R w) L.length with
    | some l => match firstI (wouldF L R w l) R.length with
      | some r => some ((l : Int), (r : Int))
      | none => none
    | none => none
def stOk (L R : List Ag) (w : List Int) : Bool := decide (withE L R w = 0) && (stBad L R w).isNone
def stL (L R : List Ag) (w : List Int) : Int := if withE L R w = 0 then ((stBad L R w).getD (0, 0)).1 else 0
def stR (L R : List Ag) (w : List Int) : Int := if withE L R w = 0 then ((stBad L R w).getD (0, 0)).2 else 0
def stT (L R : List Ag) (w : List Int) : List PV := [.bool (stOk L R w), .i (stL L R w), .i (stR L R w), .i (withE L R w)]
section
variable {L R : List Ag} {w : List Int}
theorem stT_e (h : ¬ withE L R w = 0) : [.bool false, .i 0, .i 0, .i (withE L R w)] = stT L R w := by
  unfold stT stOk stL stR; rw [if_neg h, if_neg h, decide_eq_false h]; rfl
theorem stT_of (h : withE L R w = 0) {a b : Int} (e : stBad L R w = some (a, b)) : [.bool false, .i a, .i b, .i 0] = stT L R w := by
  unfold stT stOk stL stR; rw [h, e]; rfl
theorem stT_bad (h : withE L R w = 0) {l : Nat} (hE : firstI (badL L R w) l = none) (hl : l < w.length) (hb : badL L R w l = true) : [.bool false, .i (l : Nat), .i (-1), .i 0] = stT L R w := by
  refine stT_of h ?_
  unfold stBad; rw [firstI_stop hE hb hl]
theorem stT_pair (h : withE L R w = 0) (hE : firstI (badL L R w) w.length = none) {l r : Nat} (hl : l < L.length) (hr : r < R.length) (h1 : firstI (rowB L R w) l = none) (h2 : firstI (wouldF L R w l) r = none) (hb : wouldF L R w l r = true) : [.bool false, .i (l : Nat), .i (r : Nat), .i 0] = stT L R w := by
  refine stT_of h ?_
  have h3 := firstI_stop h2 hb hr
  have h4 := firstI_stop h1 (show rowB L R w l = true by unfold rowB; rw [h3]; rfl) hl
  unfold stBad; rw [hE, h4]; simp only; rw [h3]
theorem stT_ok (h : withE L R w = 0) (hE : firstI (badL L R w) w.length = none) (h1 : firstI (rowB L R w) L.length = none) : [.bool true, .i 0, .i 0, .i 0] = stT L R w := by
  have e : stBad L R w = none := by unfold stBad; rw [hE, h1]
  unfold stT stOk stL stR; rw [h, e]; rfl
theorem rowB_no {l : Nat} (h : firstI (wouldF L R w l) R.length = none) : rowB L R w l = false := by unfold rowB; rw [h]; rfl
theorem fond (hW : WOk L R w) (hE : firstI (badL L R w) w.length = none) : Fond L R w := fun l hl h0 => by
  have := firstI_none hE l hl
  unfold badL at this
  rw [decide_eq_true h0] at this
  simpa using this
end
/-! ### The better and the worse of two -/
def levF (lk : List Int) (x : Int) : Int := if x < 0 then (lk.length : Nat) else if placeF lk x < 0 then (lk.length : Nat) + 1 else placeF lk x
def bothE (L R : List Ag) (a b : List Int) : Int := if withE L R a ≠ 0 then withE L R a else withE L R b
def pickB (L : List Ag) (a b : List Int) (bt : Bool) (l : Nat) : Int := if (decide (levF (lkF L l) (a.getD l 0) ≤ levF (lkF L l) (b.getD l 0)) == bt) = true then a.getD l 0 else b.getD l 0
theorem pickB_a {L : List Ag} {a b : List Int} {bt : Bool} {l : Nat} (h : bt = decide (levF (lkF L l) (a.getD l 0) ≤ levF (lkF L l) (b.getD l 0))) : a.getD l 0 = pickB L a b bt l := by
  unfold pickB; rw [if_pos (by rw [h]; simp)]
theorem pickB_b {L : List Ag} {a b : List Int} {bt : Bool} {l : Nat} (h : bt = !decide (levF (lkF L l) (a.getD l 0) ≤ levF (lkF L l) (b.getD l 0))) : b.getD l 0 = pickB L a b bt l := by
  unfold pickB; rw [if_neg (by rw [h]; simp)]
def bothF (L R : List Ag) (a b : List Int) (bt : Bool) : List Int := if bothE L R a b = 0 then mapr a.length (pickB L a b bt) else []
section
variable {L R : List Ag} {a b : List Int} {bt : Bool}
theorem bothE_a (h : ¬ withE L R a = 0) : bothE L R a b = withE L R a := if_pos h
theorem bothE_b (h : withE L R a = 0) : bothE L R a b = withE L R b := if_neg (fun c => c h)
theorem both_e {c : Int} (e : bothE L R a b = c) (h : ¬ c = 0) : [PV.ints [], .i c] = [PV.ints (bothF L R a b bt), .i (bothE L R a b)] := by
  unfold bothF; rw [e, if_neg h]
theorem both_ok (h : withE L R a = 0) (h' : withE L R b = 0) : [PV.ints (mapr a.length (pickB L a b bt)), .i 0] = [PV.ints (bothF L R a b bt), .i (bothE L R a b)] := by
  have e : bothE L R a b = 0 := by rw [bothE_b h, h']
  unfold bothF; rw [e, if_pos rfl]
end

set_option maxRecDepth 1000000 in
set_option maxHeartbeats 1000000 in
theorem Rank_fc (nm : ByteArray) (rm : Int) (lk : List Int) (x : Int) : FC Tryd.prog 49 [.agg [.str nm, .i rm, .ints lk], .i x] (.i (placeF lk x)) := by
  refine FC.intro Tryd.func49 rfl (Nat.le_of_ble_eq_true rfl) fun hfit => ?_
  have fit0 := hfit _ (.head _)
  have fit1 : -9223372036854775808 ≤ (x : Int) ∧ (x : Int) ≤ 9223372036854775807 := (hfit _ (.tail _ (.head _))).int64
  refine awp_seq ?_
  refine awp_region rfl (.n (fun _ => op_box (.plain rfl) (by simp)) (.n (fun _ => op_assign (.plain rfl)) (.nil _))) ?_
  refine awp_seq ?_
  refine awp_region rfl (.n (fun _ => op_fieldAddr Tryd.underlying48 rfl rfl Tryd.sizeOf25 (.plain rfl)) (.n (fun _ => op_load Tryd.isAgg25 (.plain rfl)) (.n (fun _ => op_move (.plain rfl)) (.n (fun _ => op_call2 Tryd.call60 (.plain rfl) (.plain rfl) (Index_fc _ _)) (.n (fun _ => op_assign (.plain rfl)) (.nil _)))))) ?_
  refine awp_ret ?_
  refine retQ.ret ?_
  refine ret1 rfl rfl rfl ?_
  rfl

set_option maxRecDepth 1000000 in
set_option maxHeartbeats 1000000 in
theorem In_fc (x : Int) (l : List Int) : FC Tryd.prog 55 [.i x, .ints l] (.bool (decide (0 ≤ placeF l x))) := by
  refine FC.intro Tryd.func55 rfl (Nat.le_of_ble_eq_true rfl) fun hfit => ?_
  have fit0 : -9223372036854775808 ≤ (x : Int) ∧ (x : Int) ≤ 9223372036854775807 := (hfit _ (.head _)).int64
  obtain ⟨fitl1, fitr1⟩ := (hfit _ (.tail _ (.head _))).ints
  refine awp_seq ?_
  refine awp_region rfl (.n (fun _ => op_assign (.plain rfl)) (.nil _)) ?_
  refine awp_seq ?_
  refine awp_region rfl (.n (fun _ => op_move (.plain rfl)) (.n (fun _ => op_move (.plain rfl)) (.n (fun _ => op_call2 Tryd.call29 (.plain rfl) (.plain rfl) (Place_fc _ _)) (.n (fun _ => op_geq (.plain rfl) (.plain rfl)) (.n (fun _ => op_assign (.plain rfl)) (.nil _)))))) ?_
  refine awp_ret ?_
  refine retQ.ret ?_
  refine ret1 rfl rfl rfl ?_
  rfl

set_option maxRecDepth 1000000 in
set_option maxHeartbeats 1000000 in
theorem count_fc (w : List Int) (x : Int) : FC Tryd.prog 46 [.ints w, .i x] (.i (cntF w x : Nat)) := by
  refine FC.intro Tryd.func46 rfl (Nat.le_of_ble_eq_true rfl) fun hfit => ?_
  obtain ⟨fitl0, fitr0⟩ := (hfit _ (.head _)).ints
  have fit1 : -9223372036854775808 ≤ (x : Int) ∧ (x : Int) ≤ 9223372036854775807 := (hfit _ (.tail _ (.head _))).int64
  refine awp_seq ?_
  refine awp_region rfl (.n (fun _ => op_assign (.plain rfl)) (.nil _)) ?_
  refine awp_seq ?_
  refine awp_region rfl (.n (fun _ => op_assign (.plain rfl)) (.nil _)) ?_
  refine awp_seq ?_
  refine awp_seq ?_
  refine awp_region rfl (.n (fun _ => op_move (.plain rfl)) (.n (fun _ => op_len (s := 0) Tryd.underlying25 (.plain rfl)) (.n (fun _ => op_move (.plain rfl)) (.nil _)))) ?_
  refine awp_block ?_
  refine awp_loop (σ := Nat) (fun (k : Nat) => k ≤ w.length) (fun (k : Nat) => ⟨[(1, .int x), (5, .int ((goesI w x k).length : Nat)), (8, .pv (.ints w)), (9, .int (w.length : Nat)), (10, .int (k : Nat))], []⟩) (fun (k : Nat) => w.length - k) 0 ?_ (Ent.kept ⟨rfl, rfl, rfl, rfl, rfl, trivial⟩ trivial) ?_
  · exact Nat.zero_le _
  rintro k hp
  try dsimp only at hp
  have hk := hp
  refine awp_seq ?_
  refine awp_region rfl (.n (fun _ => op_lss (.plain rfl) (.plain rfl)) (.nil _)) ?_
  refine awp_seq ?_
  refine awp_cond rfl (fun h => ?_) (fun h => ?_)
  · (try simp only [decide_eq_true_eq, decide_eq_false_iff_not, Bool.and_eq_true, Bool.or_eq_true, Bool.and_eq_false_iff, Bool.or_eq_false_iff, Bool.not_eq_true', Bool.not_eq_false', Bool.not_eq_true, Bool.not_eq_false, Bool.true_eq_false, Bool.false_eq_true] at h); (try simp only [foldN, foldR, foldL, Int.toNat_natCast] at h)
    refine awp_skip ?_
    refine awp_seq ?_
    refine awp_block ?_
    refine awp_seq ?_
    refine awp_region rfl (.n (fun _ => op_indexAddrN Tryd.underlying25 Tryd.sizeOf3 (.plain rfl) (.plain rfl) (fun _ => rfl) ?_) (.n (fun _ => op_load Tryd.isAgg3 (.plain rfl)) (.n (fun _ => op_assign (.plain rfl)) (.nil _)))) ?_
    · (try simp only [foldN, foldR, foldL, Int.toNat_natCast])
      omega
    refine awp_seq ?_
    refine awp_region rfl (.n (fun _ => op_move (.plain rfl)) (.n (fun _ => op_move (.plain rfl)) (.n (fun _ => op_eql (.plain rfl) (.plain rfl)) (.nil _)))) ?_
    refine awp_cond rfl (fun h => ?_) (fun h => ?_)
    · (try simp only [decide_eq_true_eq, decide_eq_false_iff_not, Bool.and_eq_true, Bool.or_eq_true, Bool.and_eq_false_iff, Bool.or_eq_false_iff, Bool.not_eq_true', Bool.not_eq_false', Bool.not_eq_true, Bool.not_eq_false, Bool.true_eq_false, Bool.false_eq_true] at h); (try simp only [foldN, foldR, foldL, Int.toNat_natCast] at h)
      refine awp_region rfl (.n (fun _ => op_move (.plain rfl)) (.n (fun _ => op_add (.plain rfl) (.plain rfl) ?_) (.n (fun _ => op_assign (.plain rfl)) (.nil _)))) ?_
      · (try simp only [foldN, foldR, foldL, Int.toNat_natCast])
        have := goesI_le (w := w) (x := x) k
        unfold InR; omega
      refine awp_region rfl (.n (fun _ => op_add (.plain rfl) (.plain rfl) ?_) (.n (fun _ => op_move (.plain rfl)) (.nil _))) ?_
      · (try simp only [foldN, foldR, foldL, Int.toNat_natCast])
        unfold InR; omega
      exact ⟨k + 1, by omega, by dsimp only; omega, (Ent.kept ⟨rfl, (congrArg (fun n : Int => some (SV.int n)) (by first | (have := congrArg List.length (goesI_yes h); simp only [List.length_append, List.length_cons, List.length_nil] at this; omega) | (have := congrArg List.length (goesI_no h); omega))), rfl, rfl, rfl, trivial⟩ trivial)⟩
    · (try simp only [decide_eq_true_eq, decide_eq_false_iff_not, Bool.and_eq_true, Bool.or_eq_true, Bool.and_eq_false_iff, Bool.or_eq_false_iff, Bool.not_eq_true', Bool.not_eq_false', Bool.not_eq_true, Bool.not_eq_false, Bool.true_eq_false, Bool.false_eq_true] at h); (try simp only [foldN, foldR, foldL, Int.toNat_natCast] at h)
      refine awp_skip ?_
      refine awp_region rfl (.n (fun _ => op_add (.plain rfl) (.plain rfl) ?_) (.n (fun _ => op_move (.plain rfl)) (.nil _))) ?_
      · (try simp only [foldN, foldR, foldL, Int.toNat_natCast])
        unfold InR; omega
      exact ⟨k + 1, by omega, by dsimp only; omega, (Ent.kept ⟨rfl, (congrArg (fun n : Int => some (SV.int n)) (by first | (have := congrArg List.length (goesI_yes h); simp only [List.length_append, List.length_cons, List.length_nil] at this; omega) | (have := congrArg List.length (goesI_no h); omega))), rfl, rfl, rfl, trivial⟩ trivial)⟩
  · (try simp only [decide_eq_true_eq, decide_eq_false_iff_not, Bool.and_eq_true, Bool.or_eq_true, Bool.and_eq_false_iff, Bool.or_eq_false_iff, Bool.not_eq_true', Bool.not_eq_false', Bool.not_eq_true, Bool.not_eq_false, Bool.true_eq_false, Bool.false_eq_true] at h); (try simp only [foldN, foldR, foldL, Int.toNat_natCast] at h)
    refine awp_exit ?_
    refine awp_seq ?_
    refine awp_region rfl (.n (fun _ => op_move (.plain rfl)) (.n (fun _ => op_assign (.plain rfl)) (.nil _))) ?_
    refine awp_ret ?_
    refine retQ.ret ?_
    refine ret1 rfl rfl rfl ?_
    obtain rfl : k = w.length := by omega
    rfl

set_option maxRecDepth 1000000 in
set_option maxHeartbeats 1000000 in
theorem Goes_fc (w : List Int) (x : Int) (hw : w.length ≤ 1000000) : FC Tryd.prog 32 [.ints w, .i x] (.ints (goesI w x w.length)) := by
  refine FC.intro Tryd.func32 rfl (Nat.le_of_ble_eq_true rfl) fun hfit => ?_
  obtain ⟨fitl0, fitr0⟩ := (hfit _ (.head _)).ints
  have fit1 : -9223372036854775808 ≤ (x : Int) ∧ (x : Int) ≤ 9223372036854775807 := (hfit _ (.tail _ (.head _))).int64
  refine awp_seq ?_
  refine awp_region rfl (.n (fun _ => op_assign (.plain rfl)) (.nil _)) ?_
  refine awp_seq ?_
  refine awp_region rfl (.n (fun _ => op_assign (.plain rfl)) (.nil _)) ?_
  refine awp_seq ?_
  refine awp_seq ?_
  refine awp_region rfl (.n (fun _ => op_assign (.plain rfl)) (.nil _)) ?_
  refine awp_block ?_
  refine awp_ent (Ent.begin 5 1005 3 1 Int 0 (fun n => [.int .i64 n]) rfl rfl rfl) ?_
  refine awp_loop (σ := Nat) (fun (k : Nat) => k ≤ w.length) (fun (k : Nat) => ⟨[(0, .pv (.ints w)), (1, .int x), (5, .own 1005), (6, .int (k : Nat))], [(1005, .arr 3 1 Int 0 (fun n => [.int .i64 n]) (goesI w x k))]⟩) (fun (k : Nat) => w.length - k) 0 ?_ (Ent.kept ⟨rfl, rfl, rfl, rfl, trivial⟩ ⟨rfl, trivial⟩) ?_
  · exact Nat.zero_le _
  rintro k hp
  try dsimp only at hp
  have hk := hp
  refine awp_seq ?_
  refine awp_seq ?_
  refine awp_region rfl (.n (fun _ => op_move (.plain rfl)) (.n (fun _ => op_move (.plain rfl)) (.n (fun _ => op_len (s := 0) Tryd.underlying25 (.plain rfl)) (.n (fun _ => op_lss (.plain rfl) (.plain rfl)) (.nil _))))) ?_
  refine awp_cond rfl (fun h => ?_) (fun h => ?_)
  · (try simp only [decide_eq_true_eq, decide_eq_false_iff_not, Bool.and_eq_true, Bool.or_eq_true, Bool.and_eq_false_iff, Bool.or_eq_false_iff, Bool.not_eq_true', Bool.not_eq_false', Bool.not_eq_true, Bool.not_eq_false, Bool.true_eq_false, Bool.false_eq_true] at h); (try simp only [foldN, foldR, foldL, Int.toNat_natCast] at h)
    refine awp_skip ?_
    refine awp_seq ?_
    refine awp_block ?_
    refine awp_seq ?_
    refine awp_region rfl (.n (fun _ => op_move (.plain rfl)) (.n (fun _ => op_move (.plain rfl)) (.n (fun _ => op_indexAddrN Tryd.underlying25 Tryd.sizeOf3 (.plain rfl) (.plain rfl) (fun _ => rfl) ?_) (.n (fun _ => op_load Tryd.isAgg3 (.plain rfl)) (.n (fun _ => op_move (.plain rfl)) (.n (fun _ => op_eql (.plain rfl) (.plain rfl)) (.nil _))))))) ?_
    · (try simp only [foldN, foldR, foldL, Int.toNat_natCast])
      omega
    refine awp_cond rfl (fun h => ?_) (fun h => ?_)
    · (try simp only [decide_eq_true_eq, decide_eq_false_iff_not, Bool.and_eq_true, Bool.or_eq_true, Bool.and_eq_false_iff, Bool.or_eq_false_iff, Bool.not_eq_true', Bool.not_eq_false', Bool.not_eq_true, Bool.not_eq_false, Bool.true_eq_false, Bool.false_eq_true] at h); (try simp only [foldN, foldR, foldL, Int.toNat_natCast] at h)
      refine awp_region rfl (.n (fun _ => op_move (.plain rfl)) (.n (fun _ => op_move (.plain rfl)) (.n (fun _ => op_slit (pp := [(0, _)]) (α := Int) (d := 0) (f := (fun n => [.int .i64 n])) [_] ety25 rfl ⟨rfl, (.plain rfl), (by simp), trivial⟩ rfl (by decide) rfl) (.e (op_append (id' := 22) (α := Int) (d := 0) (f := (fun n => [.int .i64 n])) ety25 Tryd.underlying25 (fun _ => rfl) (fun _ => rfl) (.plain rfl) rfl (.plain rfl) rfl ?_) rfl (.n (fun _ => op_assign (.plain rfl)) (.nil _)))))) ?_
      · (try simp only [foldN, foldR, foldL, Int.toNat_natCast])
        have := goesI_le (w := w) (x := x) k
        first | omega | (simp; omega)
      refine awp_region rfl (.n (fun _ => op_move (.plain rfl)) (.n (fun _ => op_add (.plain rfl) (.plain rfl) ?_) (.n (fun _ => op_assign (.plain rfl)) (.nil _)))) ?_
      · (try simp only [foldN, foldR, foldL, Int.toNat_natCast])
        unfold InR; omega
      exact ⟨k + 1, by omega, by dsimp only; omega, (Ent.round 22 1005 ⟨rfl, rfl, rfl, rfl, trivial⟩ ⟨(congrArg (fun l => some (Blk.arr 3 1 Int 0 (fun n => [.int .i64 n]) l)) (by first | exact goesI_yes h | exact goesI_no h)), trivial⟩ rfl rfl rfl ⟨rfl, rfl, rfl, rfl, trivial⟩ ⟨rfl, trivial⟩)⟩
    · (try simp only [decide_eq_true_eq, decide_eq_false_iff_not, Bool.and_eq_true, Bool.or_eq_true, Bool.and_eq_false_iff, Bool.or_eq_false_iff, Bool.not_eq_true', Bool.not_eq_false', Bool.not_eq_true, Bool.not_eq_false, Bool.true_eq_false, Bool.false_eq_true] at h); (try simp only [foldN, foldR, foldL, Int.toNat_natCast] at h)
      refine awp_skip ?_
      refine awp_region rfl (.n (fun _ => op_move (.plain rfl)) (.n (fun _ => op_add (.plain rfl) (.plain rfl) ?_) (.n (fun _ => op_assign (.plain rfl)) (.nil _)))) ?_
      · (try simp only [foldN, foldR, foldL, Int.toNat_natCast])
        unfold InR; omega
      exact ⟨k + 1, by omega, by dsimp only; omega, (Ent.kept ⟨rfl, rfl, rfl, rfl, trivial⟩ ⟨(congrArg (fun l => some (Blk.arr 3 1 Int 0 (fun n => [.int .i64 n]) l)) (by first | exact goesI_yes h | exact goesI_no h)), trivial⟩)⟩
  · (try simp only [decide_eq_true_eq, decide_eq_false_iff_not, Bool.and_eq_true, Bool.or_eq_true, Bool.and_eq_false_iff, Bool.or_eq_false_iff, Bool.not_eq_true', Bool.not_eq_false', Bool.not_eq_true, Bool.not_eq_false, Bool.true_eq_false, Bool.false_eq_true] at h); (try simp only [foldN, foldR, foldL, Int.toNat_natCast] at h)
    refine awp_exit ?_
    refine awp_seq ?_
    refine awp_region rfl (.n (fun _ => op_move (.plain rfl)) (.n (fun _ => op_assign (.plain rfl)) (.nil _))) ?_
    refine awp_ret ?_
    refine retQ.ret ?_
    refine ret1 rfl rfl rfl ?_
    obtain rfl : k = w.length := by omega
    rfl

set_option maxRecDepth 1000000 in
set_option maxHeartbeats 1000000 in
theorem likes_fc (L R : List Ag) (l r : Nat) (x y : Int) (hx : x = l) (hy : y = r) (hl : l < L.length) (hr : r < R.length) : FC Tryd.prog 35 [.agg [.seq (ByteArray × Int × List Int × Unit) (ByteArray.empty, 0, [], ()) (fun p => [.str p.1, .i p.2.1, .ints p.2.2.1]) L, .seq (ByteArray × Int × List Int × Unit) (ByteArray.empty, 0, [], ()) (fun p => [.str p.1, .i p.2.1, .ints p.2.2.1]) R], .i x, .i y] (.bool (likesF L R l r)) := by
  subst hx; subst hy
  refine FC.intro Tryd.func35 rfl (Nat.le_of_ble_eq_true rfl) fun hfit => ?_
  have fit0 := hfit _ (.head _)
  refine awp_seq ?_
  refine awp_region rfl (.n (fun _ => op_box (.plain rfl) (by simp)) (.n (fun _ => op_assign (.plain rfl)) (.nil _))) ?_
  refine awp_seq ?_
  refine awp_region rfl (.n (fun _ => op_fieldAddr Tryd.underlying24 rfl rfl Tryd.sizeOf22 (.plain rfl)) (.n (fun _ => op_load Tryd.isAgg22 (.plain rfl)) (.n (fun _ => op_move (.plain rfl)) (.n (fun _ => op_indexAddrN Tryd.underlying22 Tryd.sizeOf48 (.plain rfl) (.plain rfl) (fun _ => rfl) ?_) (.n (fun _ => op_load_agg Tryd.isAgg48 Tryd.sizeOf48 (.plain rfl) (Nat.le_of_ble_eq_true rfl)) (.n (fun _ => op_move (.plain rfl)) (.n (fun _ => op_call2 Tryd.call49 (.plain rfl) (.plain rfl) (Rank_fc _ _ _ _)) (.n (fun _ => op_geq (.plain rfl) (.plain rfl)) (.n (fun _ => op_move (.plain rfl)) (.gn rfl rfl (fun hg _ => op_fieldAddr Tryd.underlying24 rfl rfl Tryd.sizeOf22 (.plain rfl)) (.gn rfl rfl (fun hg _ => op_load Tryd.isAgg22 (.opt rfl fun h => h)) (.gn rfl rfl (fun hg _ => op_move (.plain rfl)) (.gn rfl rfl (fun hg _ => op_indexAddrN Tryd.underlying22 Tryd.sizeOf48 (.opt rfl fun h => h) (.opt rfl fun h => h) (fun _ => rfl) ?_) (.gn rfl rfl (fun hg _ => op_load_agg Tryd.isAgg48 Tryd.sizeOf48 (.opt rfl fun h => h) (Nat.le_of_ble_eq_true rfl)) (.gn rfl rfl (fun hg _ => op_move (.plain rfl)) (.gn rfl rfl (fun hg _ => op_call2 Tryd.call49 (.opt rfl fun h => h) (.opt rfl fun h => h) (Rank_fc _ _ _ _)) (.gn rfl rfl (fun hg _ => op_geq (.opt rfl fun h => h) (.plain rfl)) (.n (fun _ => op_and (.plain rfl) (.plain rfl) (.plain rfl) (fun h => eqT h)) (.n (fun _ => op_assign (.plain rfl)) (.nil _)))))))))))))))))))) ?_
  · (try simp only [foldN, foldR, foldL, Int.toNat_natCast])
    omega
  · try simp only [beq_iff_eq, beq_true, beq_false, Bool.and_eq_true, decide_eq_true_eq, decide_eq_false_iff_not, Bool.not_eq_true', Bool.or_eq_true, Bool.or_eq_false_iff] at hg
    (try simp only [foldN, foldR, foldL, Int.toNat_natCast])
    omega
  refine awp_ret ?_
  refine retQ.ret ?_
  refine ret1 rfl rfl rfl ?_
  rfl

set_option maxRecDepth 1000000 in
set_option maxHeartbeats 1000000 in
theorem Likes_fc (L R : List Ag) (l r : Nat) (x y : Int) (hx : x = l) (hy : y = r) (hl : l < L.length) (hr : r < R.length) : FC Tryd.prog 38 [.agg [.seq (ByteArray × Int × List Int × Unit) (ByteArray.empty, 0, [], ()) (fun p => [.str p.1, .i p.2.1, .ints p.2.2.1]) L, .seq (ByteArray × Int × List Int × Unit) (ByteArray.empty, 0, [], ()) (fun p => [.str p.1, .i p.2.1, .ints p.2.2.1]) R], .i x, .i y] (.bool (likesF L R l r)) := by
  subst hx; subst hy
  refine FC.intro Tryd.func38 rfl (Nat.le_of_ble_eq_true rfl) fun hfit => ?_
  have fit0 := hfit _ (.head _)
  refine awp_seq ?_
  refine awp_region rfl (.n (fun _ => op_box (.plain rfl) (by simp)) (.n (fun _ => op_assign (.plain rfl)) (.nil _))) ?_
  refine awp_seq ?_
  refine awp_region rfl (.n (fun _ => op_move (.plain rfl)) (.n (fun _ => op_fieldAddr Tryd.underlying24 rfl rfl Tryd.sizeOf22 (.plain rfl)) (.n (fun _ => op_load Tryd.isAgg22 (.plain rfl)) (.n (fun _ => op_move (.plain rfl)) (.n (fun _ => op_indexAddrN Tryd.underlying22 Tryd.sizeOf48 (.plain rfl) (.plain rfl) (fun _ => rfl) ?_) (.n (fun _ => op_fieldAddr Tryd.underlying48 rfl rfl Tryd.sizeOf25 (.plain rfl)) (.n (fun _ => op_load Tryd.isAgg25 (.plain rfl)) (.n (fun _ => op_call2 Tryd.call55 (.plain rfl) (.plain rfl) (In_fc _ _)) (.n (fun _ => op_assign (.plain rfl)) (.nil _)))))))))) ?_
  · (try simp only [foldN, foldR, foldL, Int.toNat_natCast])
    omega
  refine awp_seq ?_
  refine awp_region rfl (.n (fun _ => op_move (.plain rfl)) (.n (fun _ => op_fieldAddr Tryd.underlying24 rfl rfl Tryd.sizeOf22 (.plain rfl)) (.n (fun _ => op_load Tryd.isAgg22 (.plain rfl)) (.n (fun _ => op_move (.plain rfl)) (.n (fun _ => op_indexAddrN Tryd.underlying22 Tryd.sizeOf48 (.plain rfl) (.plain rfl) (fun _ => rfl) ?_) (.n (fun _ => op_fieldAddr Tryd.underlying48 rfl rfl Tryd.sizeOf25 (.plain rfl)) (.n (fun _ => op_load Tryd.isAgg25 (.plain rfl)) (.n (fun _ => op_call2 Tryd.call55 (.plain rfl) (.plain rfl) (In_fc _ _)) (.n (fun _ => op_assign (.plain rfl)) (.nil _)))))))))) ?_
  · (try simp only [foldN, foldR, foldL, Int.toNat_natCast])
    omega
  refine awp_seq ?_
  refine awp_region rfl (.n (fun _ => op_move (.plain rfl)) (.n (fun _ => op_move (.plain rfl)) (.gn rfl rfl (fun hg _ => op_move (.plain rfl)) (.n (fun _ => op_and (.plain rfl) (.plain rfl) (.plain rfl) (fun h => eqT h)) (.n (fun _ => op_assign (.plain rfl)) (.nil _)))))) ?_
  refine awp_ret ?_
  refine retQ.ret ?_
  refine ret1 rfl rfl rfl ?_
  rfl

set_option maxRecDepth 1000000 in
set_option maxHeartbeats 1000000 in
theorem IndexFunc_fc (l : List Int) (K : FuncId) (caps : List PV) (p : Int → Bool) (hc : ∀ vs w, (callFunc K vs).run Tryd.prog w = .ok (.enter K vs) w) (hf : ∀ x, x ∈ l → FC Tryd.prog K (.i x :: caps) (.bool (p x))) : FC Tryd.prog 65 [.ints l, .clo K caps] (.i (idxF l p)) := by
  refine FC.intro Tryd.func65 rfl (Nat.le_of_ble_eq_true rfl) fun hfit => ?_
  obtain ⟨fitl0, fitr0⟩ := (hfit _ (.head _)).ints
  have fit1 := hfit _ (.tail _ (.head _))
  refine awp_seq ?_
  refine awp_region rfl (.n (fun _ => op_assign (.plain rfl)) (.nil _)) ?_
  refine awp_seq ?_
  refine awp_seq ?_
  refine awp_region rfl (.n (fun _ => op_move (.plain rfl)) (.n (fun _ => op_len (s := 0) Tryd.underlying25 (.plain rfl)) (.n (fun _ => op_move (.plain rfl)) (.nil _)))) ?_
  refine awp_block ?_
  refine awp_loop (σ := Nat) (fun (k : Nat) => k ≤ l.length ∧ firstI (fun i => p (l.getD i 0)) k = none) (fun (k : Nat) => ⟨[(0, .pv (.ints l)), (1, .pv (.clo K caps)), (6, .pv (.ints l)), (7, .int (l.length : Nat)), (8, .int (k : Nat))], []⟩) (fun (k : Nat) => l.length - k) 0 ?_ (Ent.kept ⟨rfl, rfl, rfl, rfl, rfl, trivial⟩ trivial) ?_
  · exact ⟨Nat.zero_le _, rfl⟩
  rintro k hp
  try dsimp only at hp
  obtain ⟨hk, hE⟩ := hp
  refine awp_seq ?_
  refine awp_region rfl (.n (fun _ => op_lss (.plain rfl) (.plain rfl)) (.nil _)) ?_
  refine awp_seq ?_
  refine awp_cond rfl (fun h => ?_) (fun h => ?_)
  · (try simp only [decide_eq_true_eq, decide_eq_false_iff_not, Bool.and_eq_true, Bool.or_eq_true, Bool.and_eq_false_iff, Bool.or_eq_false_iff, Bool.not_eq_true', Bool.not_eq_false', Bool.not_eq_true, Bool.not_eq_false, Bool.true_eq_false, Bool.false_eq_true] at h); (try simp only [foldN, foldR, foldL, Int.toNat_natCast] at h)
    refine awp_skip ?_
    refine awp_seq ?_
    refine awp_block ?_
    refine awp_seq ?_
    refine awp_region rfl (.n (fun _ => op_move (.plain rfl)) (.n (fun _ => op_assign (.plain rfl)) (.nil _))) ?_
    refine awp_seq ?_
    refine awp_region rfl (.n (fun _ => op_move (.plain rfl)) (.n (fun _ => op_move (.plain rfl)) (.n (fun _ => op_move (.plain rfl)) (.n (fun _ => op_indexAddrN Tryd.underlying25 Tryd.sizeOf3 (.plain rfl) (.plain rfl) (fun _ => rfl) ?_) (.n (fun _ => op_load Tryd.isAgg3 (.plain rfl)) (.n (fun _ => op_callV1 hc (.plain rfl) (.plain rfl) (hf _ ?_)) (.nil _))))))) ?_
    · (try simp only [foldN, foldR, foldL, Int.toNat_natCast])
      omega
    · (try simp only [foldN, foldR, foldL, Int.toNat_natCast])
      exact getD_memC (by omega)
    refine awp_cond rfl (fun h => ?_) (fun h => ?_)
    · (try simp only [decide_eq_true_eq, decide_eq_false_iff_not, Bool.and_eq_true, Bool.or_eq_true, Bool.and_eq_false_iff, Bool.or_eq_false_iff, Bool.not_eq_true', Bool.not_eq_false', Bool.not_eq_true, Bool.not_eq_false, Bool.true_eq_false, Bool.false_eq_true] at h); (try simp only [foldN, foldR, foldL, Int.toNat_natCast] at h)
      refine awp_seq ?_
      refine awp_region rfl (.n (fun _ => op_move (.plain rfl)) (.n (fun _ => op_assign (.plain rfl)) (.nil _))) ?_
      refine awp_ret ?_
      refine retQ.ret ?_
      refine ret1 rfl rfl rfl ?_
      unfold idxF
      rw [firstI_stop hE h (by omega)]
    · (try simp only [decide_eq_true_eq, decide_eq_false_iff_not, Bool.and_eq_true, Bool.or_eq_true, Bool.and_eq_false_iff, Bool.or_eq_false_iff, Bool.not_eq_true', Bool.not_eq_false', Bool.not_eq_true, Bool.not_eq_false, Bool.true_eq_false, Bool.false_eq_true] at h); (try simp only [foldN, foldR, foldL, Int.toNat_natCast] at h)
      refine awp_skip ?_
      refine awp_region rfl (.n (fun _ => op_add (.plain rfl) (.plain rfl) ?_) (.n (fun _ => op_move (.plain rfl)) (.nil _))) ?_
      · (try simp only [foldN, foldR, foldL, Int.toNat_natCast])
        unfold InR; omega
      exact ⟨k + 1, ⟨by omega, firstI_succ hE h⟩, by dsimp only; omega, (Ent.kept ⟨rfl, rfl, rfl, rfl, rfl, trivial⟩ trivial)⟩
  · (try simp only [decide_eq_true_eq, decide_eq_false_iff_not, Bool.and_eq_true, Bool.or_eq_true, Bool.and_eq_false_iff, Bool.or_eq_false_iff, Bool.not_eq_true', Bool.not_eq_false', Bool.not_eq_true, Bool.not_eq_false, Bool.true_eq_false, Bool.false_eq_true] at h); (try simp only [foldN, foldR, foldL, Int.toNat_natCast] at h)
    refine awp_exit ?_
    refine awp_seq ?_
    refine awp_region rfl (.n (fun _ => op_assign (.plain rfl)) (.nil _)) ?_
    refine awp_ret ?_
    refine retQ.ret ?_
    refine ret1 rfl rfl rfl ?_
    obtain rfl : k = l.length := by omega
    unfold idxF
    rw [hE]

set_option maxRecDepth 1000000 in
set_option maxHeartbeats 1000000 in
theorem ContainsFunc_fc (l : List Int) (K : FuncId) (caps : List PV) (p : Int → Bool) (hc : ∀ vs w, (callFunc K vs).run Tryd.prog w = .ok (.enter K vs) w) (hf : ∀ x, x ∈ l → FC Tryd.prog K (.i x :: caps) (.bool (p x))) : FC Tryd.prog 53 [.ints l, .clo K caps] (.bool (decide (0 ≤ idxF l p))) := by
  refine FC.intro Tryd.func53 rfl (Nat.le_of_ble_eq_true rfl) fun hfit => ?_
  obtain ⟨fitl0, fitr0⟩ := (hfit _ (.head _)).ints
  have fit1 := hfit _ (.tail _ (.head _))
  refine awp_seq ?_
  refine awp_region rfl (.n (fun _ => op_assign (.plain rfl)) (.nil _)) ?_
  refine awp_seq ?_
  refine awp_region rfl (.n (fun _ => op_move (.plain rfl)) (.n (fun _ => op_move (.plain rfl)) (.n (fun _ => op_call2 Tryd.call65 (.plain rfl) (.plain rfl) (IndexFunc_fc l K caps p hc hf)) (.n (fun _ => op_geq (.plain rfl) (.plain rfl)) (.n (fun _ => op_assign (.plain rfl)) (.nil _)))))) ?_
  refine awp_ret ?_
  refine retQ.ret ?_
  refine ret1 rfl rfl rfl ?_
  rfl

set_option maxRecDepth 1000000 in
set_option maxHeartbeats 1000000 in
theorem would1_fc (w : List Int) (r : Nat) (x : Int) (hx : 0 ≤ x ∧ x < (w.length : Nat)) : FC Tryd.prog 54 [.i x, .rd [.ints w], .rd [.i (r : Nat)]] (.bool (decide (w.getD x.toNat 0 = (r : Nat)))) := by
  refine FC.intro Tryd.func54 rfl (Nat.le_of_ble_eq_true rfl) fun hfit => ?_
  have fit0 : -9223372036854775808 ≤ (x : Int) ∧ (x : Int) ≤ 9223372036854775807 := (hfit _ (.head _)).int64
  have fit1 := hfit _ (.tail _ (.head _))
  have fit2 := hfit _ (.tail _ (.tail _ (.head _)))
  refine awp_seq ?_
  refine awp_region rfl (.n (fun _ => op_assign (.plain rfl)) (.nil _)) ?_
  refine awp_seq ?_
  refine awp_region_draw mixed rfl (.n (fun _ => op_load Tryd.isAgg25 (.plain rfl)) (.n (fun _ => op_move (.plain rfl)) (.n (fun _ => op_indexAddr Tryd.underlying25 Tryd.sizeOf3 (.plain rfl) (.plain rfl) (fun _ => rfl) ?_) (.n (fun _ => op_load Tryd.isAgg3 (.plain rfl)) (.n (fun _ => op_load Tryd.isAgg3 (.plain rfl)) (.n (fun _ => op_eql (.plain rfl) (.plain rfl)) (.n (fun _ => op_assign (.plain rfl)) (.nil _)))))))) ?d1 ?_
  · (try simp only [foldN, foldR, foldL, Int.toNat_natCast])
    omega
  · kernel_rfl
  refine awp_ret ?_
  refine retQ.ret ?_
  refine ret1 rfl rfl rfl ?_
  rfl

set_option maxRecDepth 1000000 in
set_option maxHeartbeats 1000000 in
theorem fits_fc (L R : List Ag) (w : List Int) : FC Tryd.prog 34 [.agg [.seq (ByteArray × Int × List Int × Unit) (ByteArray.empty, 0, [], ()) (fun p => [.str p.1, .i p.2.1, .ints p.2.2.1]) L, .seq (ByteArray × Int × List Int × Unit) (ByteArray.empty, 0, [], ()) (fun p => [.str p.1, .i p.2.1, .ints p.2.2.1]) R], .ints w] (.i (withE L R w)) := by
  refine FC.intro Tryd.func34 rfl (Nat.le_of_ble_eq_true rfl) fun hfit => ?_
  have fit0 := hfit _ (.head _)
  obtain ⟨fitl1, fitr1⟩ := (hfit _ (.tail _ (.head _))).ints
  have hfl : L.length ≤ 281474976710656 := by cases fit0 with | agg _ h => exact (h 0 (by simp)).len
  have hfr : R.length ≤ 281474976710656 := by cases fit0 with | agg _ h => exact (h 1 (by simp)).len
  refine awp_seq ?_
  refine awp_region rfl (.n (fun _ => op_box (.plain rfl) (by simp)) (.n (fun _ => op_assign (.plain rfl)) (.nil _))) ?_
  refine awp_seq ?_
  refine awp_seq ?_
  refine awp_region rfl (.n (fun _ => op_load_agg Tryd.isAgg24 Tryd.sizeOf24 (.plain rfl) (Nat.le_of_ble_eq_true rfl)) (.n (fun _ => op_call1 Tryd.call13 (.plain rfl) (mMay_fc _ _)) (.n (fun _ => op_assign (.plain rfl)) (.nil _)))) ?_
  refine awp_seq ?_
  refine awp_region rfl (.n (fun _ => op_move (.plain rfl)) (.n (fun _ => op_neq (.plain rfl) (.plain rfl)) (.nil _))) ?_
  refine awp_cond rfl (fun h => ?_) (fun h => ?_)
  · (try simp only [decide_eq_true_eq, decide_eq_false_iff_not, Bool.and_eq_true, Bool.or_eq_true, Bool.and_eq_false_iff, Bool.or_eq_false_iff, Bool.not_eq_true', Bool.not_eq_false', Bool.not_eq_true, Bool.not_eq_false, Bool.true_eq_false, Bool.false_eq_true] at h); (try simp only [foldN, foldR, foldL, Int.toNat_natCast] at h)
    refine awp_seq ?_
    refine awp_region rfl (.n (fun _ => op_move (.plain rfl)) (.n (fun _ => op_assign (.plain rfl)) (.nil _))) ?_
    refine awp_ret ?_
    refine retQ.ret ?_
    refine ret1 rfl rfl rfl ?_
    exact congrArg PV.i (withE_m h)
  · (try simp only [decide_eq_true_eq, decide_eq_false_iff_not, Bool.and_eq_true, Bool.or_eq_true, Bool.and_eq_false_iff, Bool.or_eq_false_iff, Bool.not_eq_true', Bool.not_eq_false', Bool.not_eq_true, Bool.not_eq_false, Bool.true_eq_false, Bool.false_eq_true] at h); (try simp only [foldN, foldR, foldL, Int.toNat_natCast] at h)
    have h1 : mMayE L R = 0 := by omega
    clear h
    refine awp_skip ?_
    refine awp_seq ?_
    refine awp_seq ?_
    refine awp_region rfl (.n (fun _ => op_move (.plain rfl)) (.n (fun _ => op_len (s := 0) Tryd.underlying25 (.plain rfl)) (.n (fun _ => op_fieldAddr Tryd.underlying24 rfl rfl Tryd.sizeOf22 (.plain rfl)) (.n (fun _ => op_load Tryd.isAgg22 (.plain rfl)) (.n (fun _ => op_len (s := 0) Tryd.underlying22 (.plain rfl)) (.n (fun _ => op_neq (.plain rfl) (.plain rfl)) (.nil _))))))) ?_
    refine awp_cond rfl (fun h => ?_) (fun h => ?_)
    · (try simp only [decide_eq_true_eq, decide_eq_false_iff_not, Bool.and_eq_true, Bool.or_eq_true, Bool.and_eq_false_iff, Bool.or_eq_false_iff, Bool.not_eq_true', Bool.not_eq_false', Bool.not_eq_true, Bool.not_eq_false, Bool.true_eq_false, Bool.false_eq_true] at h); (try simp only [foldN, foldR, foldL, Int.toNat_natCast] at h)
      refine awp_seq ?_
      refine awp_region rfl (.n (fun _ => op_assign (.plain rfl)) (.nil _)) ?_
      refine awp_ret ?_
      refine retQ.ret ?_
      refine ret1 rfl rfl rfl ?_
      exact congrArg PV.i (withE_7 h1 (by omega))
    · (try simp only [decide_eq_true_eq, decide_eq_false_iff_not, Bool.and_eq_true, Bool.or_eq_true, Bool.and_eq_false_iff, Bool.or_eq_false_iff, Bool.not_eq_true', Bool.not_eq_false', Bool.not_eq_true, Bool.not_eq_false, Bool.true_eq_false, Bool.false_eq_true] at h); (try simp only [foldN, foldR, foldL, Int.toNat_natCast] at h)
      have h2 : (w.length : Int) = L.length := by omega
      clear h
      refine awp_skip ?_
      refine awp_seq ?_
      refine awp_seq ?_
      refine awp_region rfl (.n (fun _ => op_move (.plain rfl)) (.n (fun _ => op_len (s := 0) Tryd.underlying25 (.plain rfl)) (.n (fun _ => op_move (.plain rfl)) (.nil _)))) ?_
      refine awp_block ?_
      refine awp_loop (σ := Nat) (fun (i : Nat) => i ≤ w.length ∧ firstE (inB R w) i = 0) (fun (i : Nat) => ⟨[(1, .pv (.ints w)), (2, .pv (.rd [.seq (ByteArray × Int × List Int × Unit) (ByteArray.empty, 0, [], ()) (fun p => [.str p.1, .i p.2.1, .ints p.2.2.1]) L, .seq (ByteArray × Int × List Int × Unit) (ByteArray.empty, 0, [], ()) (fun p => [.str p.1, .i p.2.1, .ints p.2.2.1]) R])), (21, .pv (.ints w)), (22, .int (w.length : Nat)), (23, .int (i : Nat))], []⟩) (fun (i : Nat) => w.length - i) 0 ?_ (Ent.kept ⟨rfl, rfl, rfl, rfl, rfl, trivial⟩ trivial) ?_
      · exact ⟨Nat.zero_le _, rfl⟩
      rintro i hp
      try dsimp only at hp
      obtain ⟨hk, hE⟩ := hp
      refine awp_seq ?_
      refine awp_region rfl (.n (fun _ => op_lss (.plain rfl) (.plain rfl)) (.nil _)) ?_
      refine awp_seq ?_
      refine awp_cond rfl (fun h => ?_) (fun h => ?_)
      · (try simp only [decide_eq_true_eq, decide_eq_false_iff_not, Bool.and_eq_true, Bool.or_eq_true, Bool.and_eq_false_iff, Bool.or_eq_false_iff, Bool.not_eq_true', Bool.not_eq_false', Bool.not_eq_true, Bool.not_eq_false, Bool.true_eq_false, Bool.false_eq_true] at h); (try simp only [foldN, foldR, foldL, Int.toNat_natCast] at h)
        refine awp_skip ?_
        refine awp_seq ?_
        refine awp_block ?_
        refine awp_seq ?_
        refine awp_region rfl (.n (fun _ => op_indexAddrN Tryd.underlying25 Tryd.sizeOf3 (.plain rfl) (.plain rfl) (fun _ => rfl) ?_) (.n (fun _ => op_load Tryd.isAgg3 (.plain rfl)) (.n (fun _ => op_assign (.plain rfl)) (.nil _)))) ?_
        · (try simp only [foldN, foldR, foldL, Int.toNat_natCast])
          omega
        refine awp_seq ?_
        refine awp_region rfl (.n (fun _ => op_move (.plain rfl)) (.n (fun _ => op_lss (.plain rfl) (.plain rfl)) (.n (fun _ => op_move (.plain rfl)) (.gn rfl rfl (fun hg _ => op_move (.plain rfl)) (.gn rfl rfl (fun hg _ => op_fieldAddr Tryd.underlying24 rfl rfl Tryd.sizeOf22 (.plain rfl)) (.gn rfl rfl (fun hg _ => op_load Tryd.isAgg22 (.opt rfl fun h => h)) (.gn rfl rfl (fun hg _ => op_len (s := 0) Tryd.underlying22 (.opt rfl fun h => h)) (.gn rfl rfl (fun hg _ => op_geq (.opt rfl fun h => h) (.opt rfl fun h => h)) (.n (fun _ => op_or (.plain rfl) (.plain rfl) (.plain rfl) (fun h => eqF h)) (.nil _)))))))))) ?_
        refine awp_cond rfl (fun h => ?_) (fun h => ?_)
        · (try simp only [decide_eq_true_eq, decide_eq_false_iff_not, Bool.and_eq_true, Bool.or_eq_true, Bool.and_eq_false_iff, Bool.or_eq_false_iff, Bool.not_eq_true', Bool.not_eq_false', Bool.not_eq_true, Bool.not_eq_false, Bool.true_eq_false, Bool.false_eq_true] at h); (try simp only [foldN, foldR, foldL, Int.toNat_natCast] at h)
          refine awp_seq ?_
          refine awp_region rfl (.n (fun _ => op_assign (.plain rfl)) (.nil _)) ?_
          refine awp_ret ?_
          refine retQ.ret ?_
          refine ret1 rfl rfl rfl ?_
          exact congrArg PV.i (withE_i h1 h2 hE (by omega) (by omega))
        · (try simp only [decide_eq_true_eq, decide_eq_false_iff_not, Bool.and_eq_true, Bool.or_eq_true, Bool.and_eq_false_iff, Bool.or_eq_false_iff, Bool.not_eq_true', Bool.not_eq_false', Bool.not_eq_true, Bool.not_eq_false, Bool.true_eq_false, Bool.false_eq_true] at h); (try simp only [foldN, foldR, foldL, Int.toNat_natCast] at h)
          have h5 : inB R w i = 0 := if_neg (by omega)
          refine awp_skip ?_
          refine awp_region rfl (.n (fun _ => op_add (.plain rfl) (.plain rfl) ?_) (.n (fun _ => op_move (.plain rfl)) (.nil _))) ?_
          · (try simp only [foldN, foldR, foldL, Int.toNat_natCast])
            unfold InR; omega
          exact ⟨i + 1, ⟨by omega, firstE_succ hE h5⟩, by dsimp only; omega, (Ent.kept ⟨rfl, rfl, rfl, rfl, rfl, trivial⟩ trivial)⟩
      · (try simp only [decide_eq_true_eq, decide_eq_false_iff_not, Bool.and_eq_true, Bool.or_eq_true, Bool.and_eq_false_iff, Bool.or_eq_false_iff, Bool.not_eq_true', Bool.not_eq_false', Bool.not_eq_true, Bool.not_eq_false, Bool.true_eq_false, Bool.false_eq_true] at h); (try simp only [foldN, foldR, foldL, Int.toNat_natCast] at h)
        have hE1 : firstE (inB R w) w.length = 0 := (show i = w.length by omega) ▸ hE
        clear h
        refine awp_exit ?_
        refine awp_seq ?_
        refine awp_seq ?_
        refine awp_region rfl (.n (fun _ => op_fieldAddr Tryd.underlying24 rfl rfl Tryd.sizeOf22 (.plain rfl)) (.n (fun _ => op_load Tryd.isAgg22 (.plain rfl)) (.n (fun _ => op_len (s := 0) Tryd.underlying22 (.plain rfl)) (.n (fun _ => op_move (.plain rfl)) (.nil _))))) ?_
        refine awp_block ?_
        refine awp_loop (σ := Nat) (fun (r : Nat) => r ≤ R.length ∧ firstE (fullB R w) r = 0) (fun (r : Nat) => ⟨[(1, .pv (.ints w)), (2, .pv (.rd [.seq (ByteArray × Int × List Int × Unit) (ByteArray.empty, 0, [], ()) (fun p => [.str p.1, .i p.2.1, .ints p.2.2.1]) L, .seq (ByteArray × Int × List Int × Unit) (ByteArray.empty, 0, [], ()) (fun p => [.str p.1, .i p.2.1, .ints p.2.2.1]) R])), (38, .pv (.seq (ByteArray × Int × List Int × Unit) (ByteArray.empty, 0, [], ()) (fun p => [.str p.1, .i p.2.1, .ints p.2.2.1]) R)), (39, .int (R.length : Nat)), (40, .int (r : Nat))], []⟩) (fun (r : Nat) => R.length - r) 0 ?_ (Ent.kept ⟨rfl, rfl, rfl, rfl, rfl, trivial⟩ trivial) ?_
        · exact ⟨Nat.zero_le _, rfl⟩
        rintro r hp
        try dsimp only at hp
        obtain ⟨hkr, hF⟩ := hp
        refine awp_seq ?_
        refine awp_region rfl (.n (fun _ => op_lss (.plain rfl) (.plain rfl)) (.nil _)) ?_
        refine awp_seq ?_
        refine awp_cond rfl (fun h => ?_) (fun h => ?_)
        · (try simp only [decide_eq_true_eq, decide_eq_false_iff_not, Bool.and_eq_true, Bool.or_eq_true, Bool.and_eq_false_iff, Bool.or_eq_false_iff, Bool.not_eq_true', Bool.not_eq_false', Bool.not_eq_true, Bool.not_eq_false, Bool.true_eq_false, Bool.false_eq_true] at h); (try simp only [foldN, foldR, foldL, Int.toNat_natCast] at h)
          refine awp_skip ?_
          refine awp_seq ?_
          refine awp_block ?_
          refine awp_seq ?_
          refine awp_region rfl (.n (fun _ => op_move (.plain rfl)) (.n (fun _ => op_indexAddrN Tryd.underlying22 Tryd.sizeOf48 (.plain rfl) (.plain rfl) (fun _ => rfl) ?_) (.n (fun _ => op_load_agg Tryd.isAgg48 Tryd.sizeOf48 (.plain rfl) (Nat.le_of_ble_eq_true rfl)) (.e (op_alloc 9 Tryd.zeroValue48 rfl rfl rfl) rfl (.n (fun _ => op_assign (.plain rfl)) (.e (op_storeRA Tryd.sizeOf48 (.plain rfl) (.plain rfl) rfl rfl (Nat.le_of_ble_eq_true rfl) rfl) rfl (.nil _))))))) ?_
          · (try simp only [foldN, foldR, foldL, Int.toNat_natCast])
            omega
          refine awp_seq ?_
          refine awp_region_draw mixed rfl (.n (fun _ => op_move (.plain rfl)) (.n (fun _ => op_move (.plain rfl)) (.n (fun _ => op_call2 Tryd.call46 (.plain rfl) (.plain rfl) (count_fc _ _)) (.n (fun _ => op_fieldAddrR Tryd.underlying48 rfl rfl Tryd.sizeOf3 (.plain rfl)) (.r (op_loadR Tryd.isAgg3 (.plain rfl) rfl rfl) (.n (fun _ => op_gtr (.plain rfl) (.plain rfl)) (.nil _))))))) ?d2 ?_
          · kernel_rfl
          refine awp_cond rfl (fun h => ?_) (fun h => ?_)
          · (try simp only [decide_eq_true_eq, decide_eq_false_iff_not, Bool.and_eq_true, Bool.or_eq_true, Bool.and_eq_false_iff, Bool.or_eq_false_iff, Bool.not_eq_true', Bool.not_eq_false', Bool.not_eq_true, Bool.not_eq_false, Bool.true_eq_false, Bool.false_eq_true] at h); (try simp only [foldN, foldR, foldL, Int.toNat_natCast] at h)
            refine awp_seq ?_
            refine awp_region rfl (.n (fun _ => op_assign (.plain rfl)) (.nil _)) ?_
            refine awp_ret ?_
            refine retQ.ret ?_
            refine ret1 rfl rfl rfl ?_
            exact congrArg PV.i (withE_2 h1 h2 hE1 hF (by omega) (by omega))
          · (try simp only [decide_eq_true_eq, decide_eq_false_iff_not, Bool.and_eq_true, Bool.or_eq_true, Bool.and_eq_false_iff, Bool.or_eq_false_iff, Bool.not_eq_true', Bool.not_eq_false', Bool.not_eq_true, Bool.not_eq_false, Bool.true_eq_false, Bool.false_eq_true] at h); (try simp only [foldN, foldR, foldL, Int.toNat_natCast] at h)
            refine awp_skip ?_
            refine awp_region rfl (.n (fun _ => op_add (.plain rfl) (.plain rfl) ?_) (.n (fun _ => op_move (.plain rfl)) (.nil _))) ?_
            · (try simp only [foldN, foldR, foldL, Int.toNat_natCast])
              unfold InR; omega
            exact ⟨r + 1, ⟨by omega, firstE_succ hF (if_neg (by omega))⟩, by dsimp only; omega, (Ent.kept ⟨rfl, rfl, rfl, rfl, rfl, trivial⟩ trivial)⟩
        · (try simp only [decide_eq_true_eq, decide_eq_false_iff_not, Bool.and_eq_true, Bool.or_eq_true, Bool.and_eq_false_iff, Bool.or_eq_false_iff, Bool.not_eq_true', Bool.not_eq_false', Bool.not_eq_true, Bool.not_eq_false, Bool.true_eq_false, Bool.false_eq_true] at h); (try simp only [foldN, foldR, foldL, Int.toNat_natCast] at h)
          refine awp_exit ?_
          refine awp_seq ?_
          refine awp_region rfl (.n (fun _ => op_assign (.plain rfl)) (.nil _)) ?_
          refine awp_ret ?_
          refine retQ.ret ?_
          refine ret1 rfl rfl rfl ?_
          obtain rfl : r = R.length := by omega
          exact congrArg PV.i (withE_ok h1 h2 hE1 hF)

set_option maxRecDepth 1000000 in
set_option maxHeartbeats 1000000 in
theorem WithMay_fc (L R : List Ag) (w : List Int) : FC Tryd.prog 37 [.agg [.seq (ByteArray × Int × List Int × Unit) (ByteArray.empty, 0, [], ()) (fun p => [.str p.1, .i p.2.1, .ints p.2.2.1]) L, .seq (ByteArray × Int × List Int × Unit) (ByteArray.empty, 0, [], ()) (fun p => [.str p.1, .i p.2.1, .ints p.2.2.1]) R], .ints w] (.i (withE L R w)) := by
  refine FC.intro Tryd.func37 rfl (Nat.le_of_ble_eq_true rfl) fun hfit => ?_
  have fit0 := hfit _ (.head _)
  obtain ⟨fitl1, fitr1⟩ := (hfit _ (.tail _ (.head _))).ints
  have hfl : L.length ≤ 281474976710656 := by cases fit0 with | agg _ h => exact (h 0 (by simp)).len
  have hfr : R.length ≤ 281474976710656 := by cases fit0 with | agg _ h => exact (h 1 (by simp)).len
  refine awp_seq ?_
  refine awp_region rfl (.n (fun _ => op_box (.plain rfl) (by simp)) (.n (fun _ => op_assign (.plain rfl)) (.nil _))) ?_
  refine awp_seq ?_
  refine awp_region rfl (.n (fun _ => op_load_agg Tryd.isAgg24 Tryd.sizeOf24 (.plain rfl) (Nat.le_of_ble_eq_true rfl)) (.n (fun _ => op_call1 Tryd.call14 (.plain rfl) (MatchMay_fc _ _)) (.n (fun _ => op_assign (.plain rfl)) (.nil _)))) ?_
  refine awp_seq ?_
  refine awp_seq ?_
  refine awp_region rfl (.n (fun _ => op_move (.plain rfl)) (.n (fun _ => op_neq (.plain rfl) (.plain rfl)) (.nil _))) ?_
  refine awp_cond rfl (fun h => ?_) (fun h => ?_)
  · (try simp only [decide_eq_true_eq, decide_eq_false_iff_not, Bool.and_eq_true, Bool.or_eq_true, Bool.and_eq_false_iff, Bool.or_eq_false_iff, Bool.not_eq_true', Bool.not_eq_false', Bool.not_eq_true, Bool.not_eq_false, Bool.true_eq_false, Bool.false_eq_true] at h); (try simp only [foldN, foldR, foldL, Int.toNat_natCast] at h)
    refine awp_seq ?_
    refine awp_region rfl (.n (fun _ => op_move (.plain rfl)) (.n (fun _ => op_assign (.plain rfl)) (.nil _))) ?_
    refine awp_ret ?_
    refine retQ.ret ?_
    refine ret1 rfl rfl rfl ?_
    exact congrArg PV.i (withE_m h)
  · (try simp only [decide_eq_true_eq, decide_eq_false_iff_not, Bool.and_eq_true, Bool.or_eq_true, Bool.and_eq_false_iff, Bool.or_eq_false_iff, Bool.not_eq_true', Bool.not_eq_false', Bool.not_eq_true, Bool.not_eq_false, Bool.true_eq_false, Bool.false_eq_true] at h); (try simp only [foldN, foldR, foldL, Int.toNat_natCast] at h)
    have h1 : mMayE L R = 0 := by omega
    clear h
    have hM := mok h1
    have hl6 := hM.l6
    refine awp_skip ?_
    refine awp_seq ?_
    refine awp_seq ?_
    refine awp_region rfl (.n (fun _ => op_move (.plain rfl)) (.n (fun _ => op_len (s := 0) Tryd.underlying25 (.plain rfl)) (.n (fun _ => op_fieldAddr Tryd.underlying24 rfl rfl Tryd.sizeOf22 (.plain rfl)) (.n (fun _ => op_load Tryd.isAgg22 (.plain rfl)) (.n (fun _ => op_len (s := 0) Tryd.underlying22 (.plain rfl)) (.n (fun _ => op_neq (.plain rfl) (.plain rfl)) (.nil _))))))) ?_
    refine awp_cond rfl (fun h => ?_) (fun h => ?_)
    · (try simp only [decide_eq_true_eq, decide_eq_false_iff_not, Bool.and_eq_true, Bool.or_eq_true, Bool.and_eq_false_iff, Bool.or_eq_false_iff, Bool.not_eq_true', Bool.not_eq_false', Bool.not_eq_true, Bool.not_eq_false, Bool.true_eq_false, Bool.false_eq_true] at h); (try simp only [foldN, foldR, foldL, Int.toNat_natCast] at h)
      refine awp_seq ?_
      refine awp_region rfl (.n (fun _ => op_assign (.plain rfl)) (.nil _)) ?_
      refine awp_ret ?_
      refine retQ.ret ?_
      refine ret1 rfl rfl rfl ?_
      exact congrArg PV.i (withE_7 h1 (by omega))
    · (try simp only [decide_eq_true_eq, decide_eq_false_iff_not, Bool.and_eq_true, Bool.or_eq_true, Bool.and_eq_false_iff, Bool.or_eq_false_iff, Bool.not_eq_true', Bool.not_eq_false', Bool.not_eq_true, Bool.not_eq_false, Bool.true_eq_false, Bool.false_eq_true] at h); (try simp only [foldN, foldR, foldL, Int.toNat_natCast] at h)
      have h2 : (w.length : Int) = L.length := by omega
      clear h
      refine awp_skip ?_
      refine awp_seq ?_
      refine awp_seq ?_
      refine awp_region rfl (.n (fun _ => op_assign (.plain rfl)) (.nil _)) ?_
      refine awp_block ?_
      refine awp_loop (σ := Nat) (fun (i : Nat) => i ≤ w.length ∧ firstE (inB R w) i = 0) (fun (i : Nat) => ⟨[(1, .pv (.ints w)), (2, .pv (.rd [.seq (ByteArray × Int × List Int × Unit) (ByteArray.empty, 0, [], ()) (fun p => [.str p.1, .i p.2.1, .ints p.2.2.1]) L, .seq (ByteArray × Int × List Int × Unit) (ByteArray.empty, 0, [], ()) (fun p => [.str p.1, .i p.2.1, .ints p.2.2.1]) R])), (6, .int (i : Nat))], []⟩) (fun (i : Nat) => w.length - i) 0 ?_ (Ent.kept ⟨rfl, rfl, rfl, trivial⟩ trivial) ?_
      · exact ⟨Nat.zero_le _, rfl⟩
      rintro i hp
      try dsimp only at hp
      obtain ⟨hk, hE⟩ := hp
      refine awp_seq ?_
      refine awp_seq ?_
      refine awp_region rfl (.n (fun _ => op_move (.plain rfl)) (.n (fun _ => op_move (.plain rfl)) (.n (fun _ => op_len (s := 0) Tryd.underlying25 (.plain rfl)) (.n (fun _ => op_lss (.plain rfl) (.plain rfl)) (.nil _))))) ?_
      refine awp_cond rfl (fun h => ?_) (fun h => ?_)
      · (try simp only [decide_eq_true_eq, decide_eq_false_iff_not, Bool.and_eq_true, Bool.or_eq_true, Bool.and_eq_false_iff, Bool.or_eq_false_iff, Bool.not_eq_true', Bool.not_eq_false', Bool.not_eq_true, Bool.not_eq_false, Bool.true_eq_false, Bool.false_eq_true] at h); (try simp only [foldN, foldR, foldL, Int.toNat_natCast] at h)
        refine awp_skip ?_
        refine awp_seq ?_
        refine awp_block ?_
        refine awp_seq ?_
        refine awp_region_draw mixed rfl (.n (fun _ => op_move (.plain rfl)) (.n (fun _ => op_move (.plain rfl)) (.n (fun _ => op_indexAddrN Tryd.underlying25 Tryd.sizeOf3 (.plain rfl) (.plain rfl) (fun _ => rfl) ?_) (.n (fun _ => op_load Tryd.isAgg3 (.plain rfl)) (.n (fun _ => op_lss (.plain rfl) (.plain rfl)) (.n (fun _ => op_move (.plain rfl)) (.gn rfl rfl (fun hg _ => op_move (.plain rfl)) (.gn rfl rfl (fun hg _ => op_move (.plain rfl)) (.gn rfl rfl (fun hg _ => op_indexAddrN Tryd.underlying25 Tryd.sizeOf3 (.opt rfl fun h => h) (.opt rfl fun h => h) (fun _ => rfl) ?_) (.gn rfl rfl (fun hg _ => op_load Tryd.isAgg3 (.opt rfl fun h => h)) (.gn rfl rfl (fun hg _ => op_fieldAddr Tryd.underlying24 rfl rfl Tryd.sizeOf22 (.plain rfl)) (.gn rfl rfl (fun hg _ => op_load Tryd.isAgg22 (.opt rfl fun h => h)) (.gn rfl rfl (fun hg _ => op_len (s := 0) Tryd.underlying22 (.opt rfl fun h => h)) (.gn rfl rfl (fun hg _ => op_geq (.opt rfl fun h => h) (.opt rfl fun h => h)) (.n (fun _ => op_or (.plain rfl) (.plain rfl) (.plain rfl) (fun h => eqF h)) (.nil _)))))))))))))))) ?d3 ?_
        · (try simp only [foldN, foldR, foldL, Int.toNat_natCast])
          omega
        · try simp only [beq_iff_eq, beq_true, beq_false, Bool.and_eq_true, decide_eq_true_eq, decide_eq_false_iff_not, Bool.not_eq_true', Bool.or_eq_true, Bool.or_eq_false_iff] at hg
          (try simp only [foldN, foldR, foldL, Int.toNat_natCast])
          omega
        · kernel_rfl
        refine awp_cond rfl (fun h => ?_) (fun h => ?_)
        · (try simp only [decide_eq_true_eq, decide_eq_false_iff_not, Bool.and_eq_true, Bool.or_eq_true, Bool.and_eq_false_iff, Bool.or_eq_false_iff, Bool.not_eq_true', Bool.not_eq_false', Bool.not_eq_true, Bool.not_eq_false, Bool.true_eq_false, Bool.false_eq_true] at h); (try simp only [foldN, foldR, foldL, Int.toNat_natCast] at h)
          refine awp_seq ?_
          refine awp_region rfl (.n (fun _ => op_assign (.plain rfl)) (.nil _)) ?_
          refine awp_ret ?_
          refine retQ.ret ?_
          refine ret1 rfl rfl rfl ?_
          exact congrArg PV.i (withE_i h1 h2 hE (by omega) (by omega))
        · (try simp only [decide_eq_true_eq, decide_eq_false_iff_not, Bool.and_eq_true, Bool.or_eq_true, Bool.and_eq_false_iff, Bool.or_eq_false_iff, Bool.not_eq_true', Bool.not_eq_false', Bool.not_eq_true, Bool.not_eq_false, Bool.true_eq_false, Bool.false_eq_true] at h); (try simp only [foldN, foldR, foldL, Int.toNat_natCast] at h)
          have h5 : inB R w i = 0 := if_neg (by omega)
          refine awp_skip ?_
          refine awp_region rfl (.n (fun _ => op_move (.plain rfl)) (.n (fun _ => op_add (.plain rfl) (.plain rfl) ?_) (.n (fun _ => op_assign (.plain rfl)) (.nil _)))) ?_
          · (try simp only [foldN, foldR, foldL, Int.toNat_natCast])
            unfold InR; omega
          exact ⟨i + 1, ⟨by omega, firstE_succ hE h5⟩, by dsimp only; omega, (Ent.kept ⟨rfl, rfl, rfl, trivial⟩ trivial)⟩
      · (try simp only [decide_eq_true_eq, decide_eq_false_iff_not, Bool.and_eq_true, Bool.or_eq_true, Bool.and_eq_false_iff, Bool.or_eq_false_iff, Bool.not_eq_true', Bool.not_eq_false', Bool.not_eq_true, Bool.not_eq_false, Bool.true_eq_false, Bool.false_eq_true] at h); (try simp only [foldN, foldR, foldL, Int.toNat_natCast] at h)
        have hE1 : firstE (inB R w) w.length = 0 := (show i = w.length by omega) ▸ hE
        clear h
        refine awp_exit ?_
        refine awp_seq ?_
        refine awp_seq ?_
        refine awp_region rfl (.n (fun _ => op_assign (.plain rfl)) (.nil _)) ?_
        refine awp_block ?_
        refine awp_loop (σ := Nat) (fun (r : Nat) => r ≤ R.length ∧ firstE (fullB R w) r = 0) (fun (r : Nat) => ⟨[(1, .pv (.ints w)), (2, .pv (.rd [.seq (ByteArray × Int × List Int × Unit) (ByteArray.empty, 0, [], ()) (fun p => [.str p.1, .i p.2.1, .ints p.2.2.1]) L, .seq (ByteArray × Int × List Int × Unit) (ByteArray.empty, 0, [], ()) (fun p => [.str p.1, .i p.2.1, .ints p.2.2.1]) R])), (7, .int (r : Nat))], []⟩) (fun (r : Nat) => R.length - r) 0 ?_ (Ent.kept ⟨rfl, rfl, rfl, trivial⟩ trivial) ?_
        · exact ⟨Nat.zero_le _, rfl⟩
        rintro r hp
        try dsimp only at hp
        obtain ⟨hkr, hF⟩ := hp
        refine awp_seq ?_
        refine awp_seq ?_
        refine awp_region rfl (.n (fun _ => op_move (.plain rfl)) (.n (fun _ => op_fieldAddr Tryd.underlying24 rfl rfl Tryd.sizeOf22 (.plain rfl)) (.n (fun _ => op_load Tryd.isAgg22 (.plain rfl)) (.n (fun _ => op_len (s := 0) Tryd.underlying22 (.plain rfl)) (.n (fun _ => op_lss (.plain rfl) (.plain rfl)) (.nil _)))))) ?_
        refine awp_cond rfl (fun h => ?_) (fun h => ?_)
        · (try simp only [decide_eq_true_eq, decide_eq_false_iff_not, Bool.and_eq_true, Bool.or_eq_true, Bool.and_eq_false_iff, Bool.or_eq_false_iff, Bool.not_eq_true', Bool.not_eq_false', Bool.not_eq_true, Bool.not_eq_false, Bool.true_eq_false, Bool.false_eq_true] at h); (try simp only [foldN, foldR, foldL, Int.toNat_natCast] at h)
          refine awp_skip ?_
          refine awp_seq ?_
          refine awp_block ?_
          refine awp_seq ?_
          refine awp_region rfl (.n (fun _ => op_move (.plain rfl)) (.n (fun _ => op_move (.plain rfl)) (.n (fun _ => op_call2 Tryd.call32 (.plain rfl) (.plain rfl) (Goes_fc _ _ ?_)) (.n (fun _ => op_assign (.plain rfl)) (.nil _))))) ?_
          · (try simp only [foldN, foldR, foldL, Int.toNat_natCast])
            omega
          refine awp_seq ?_
          refine awp_region rfl (.n (fun _ => op_move (.plain rfl)) (.n (fun _ => op_len (s := 0) Tryd.underlying25 (.plain rfl)) (.n (fun _ => op_fieldAddr Tryd.underlying24 rfl rfl Tryd.sizeOf22 (.plain rfl)) (.n (fun _ => op_load Tryd.isAgg22 (.plain rfl)) (.n (fun _ => op_move (.plain rfl)) (.n (fun _ => op_indexAddrN Tryd.underlying22 Tryd.sizeOf48 (.plain rfl) (.plain rfl) (fun _ => rfl) ?_) (.n (fun _ => op_fieldAddr Tryd.underlying48 rfl rfl Tryd.sizeOf3 (.plain rfl)) (.n (fun _ => op_load Tryd.isAgg3 (.plain rfl)) (.n (fun _ => op_gtr (.plain rfl) (.plain rfl)) (.nil _)))))))))) ?_
          · (try simp only [foldN, foldR, foldL, Int.toNat_natCast])
            omega
          refine awp_cond rfl (fun h => ?_) (fun h => ?_)
          · (try simp only [decide_eq_true_eq, decide_eq_false_iff_not, Bool.and_eq_true, Bool.or_eq_true, Bool.and_eq_false_iff, Bool.or_eq_false_iff, Bool.not_eq_true', Bool.not_eq_false', Bool.not_eq_true, Bool.not_eq_false, Bool.true_eq_false, Bool.false_eq_true] at h); (try simp only [foldN, foldR, foldL, Int.toNat_natCast] at h)
            have h6 : rmF R r < (cntF w (r : Nat) : Nat) := by unfold cntF; omega
            refine awp_seq ?_
            refine awp_region rfl (.n (fun _ => op_assign (.plain rfl)) (.nil _)) ?_
            refine awp_ret ?_
            refine retQ.ret ?_
            refine ret1 rfl rfl rfl ?_
            exact congrArg PV.i (withE_2 h1 h2 hE1 hF (by omega) h6)
          · (try simp only [decide_eq_true_eq, decide_eq_false_iff_not, Bool.and_eq_true, Bool.or_eq_true, Bool.and_eq_false_iff, Bool.or_eq_false_iff, Bool.not_eq_true', Bool.not_eq_false', Bool.not_eq_true, Bool.not_eq_false, Bool.true_eq_false, Bool.false_eq_true] at h); (try simp only [foldN, foldR, foldL, Int.toNat_natCast] at h)
            have h6 : ¬ rmF R r < (cntF w (r : Nat) : Nat) := by unfold cntF; omega
            refine awp_skip ?_
            refine awp_region rfl (.n (fun _ => op_move (.plain rfl)) (.n (fun _ => op_add (.plain rfl) (.plain rfl) ?_) (.n (fun _ => op_assign (.plain rfl)) (.nil _)))) ?_
            · (try simp only [foldN, foldR, foldL, Int.toNat_natCast])
              unfold InR; omega
            exact ⟨r + 1, ⟨by omega, firstE_succ hF (if_neg h6)⟩, by dsimp only; omega, (Ent.kept ⟨rfl, rfl, rfl, trivial⟩ trivial)⟩
        · (try simp only [decide_eq_true_eq, decide_eq_false_iff_not, Bool.and_eq_true, Bool.or_eq_true, Bool.and_eq_false_iff, Bool.or_eq_false_iff, Bool.not_eq_true', Bool.not_eq_false', Bool.not_eq_true, Bool.not_eq_false, Bool.true_eq_false, Bool.false_eq_true] at h); (try simp only [foldN, foldR, foldL, Int.toNat_natCast] at h)
          refine awp_exit ?_
          refine awp_seq ?_
          refine awp_region rfl (.n (fun _ => op_assign (.plain rfl)) (.nil _)) ?_
          refine awp_ret ?_
          refine retQ.ret ?_
          refine ret1 rfl rfl rfl ?_
          obtain rfl : r = R.length := by omega
          exact congrArg PV.i (withE_ok h1 h2 hE1 hF)

set_option maxRecDepth 1000000 in
set_option maxHeartbeats 1000000 in
theorem would_fc (L R : List Ag) (w : List Int) (l r : Nat) (x y : Int) (hx : x = l) (hy : y = r) (hl : l < L.length) (hr : r < R.length) (hW : WOk L R w) : FC Tryd.prog 36 [.agg [.seq (ByteArray × Int × List Int × Unit) (ByteArray.empty, 0, [], ()) (fun p => [.str p.1, .i p.2.1, .ints p.2.2.1]) L, .seq (ByteArray × Int × List Int × Unit) (ByteArray.empty, 0, [], ()) (fun p => [.str p.1, .i p.2.1, .ints p.2.2.1]) R], .ints w, .i x, .i y] (.bool (wouldF L R w l r)) := by
  subst hx; subst hy
  refine FC.intro Tryd.func36 rfl (Nat.le_of_ble_eq_true rfl) fun hfit => ?_
  have fit0 := hfit _ (.head _)
  obtain ⟨fitl1, fitr1⟩ := (hfit _ (.tail _ (.head _))).ints
  have hfa : ∀ i, i < L.length → (lkF L i).length ≤ 281474976710656 ∧ (nmF L i).size ≤ 281474976710656 := fun i hi => by cases fit0 with | agg _ h => exact ⟨((h 0 (by simp)).elem (getD_mem (ByteArray.empty, 0, [], ()) hi) (c := .ints (lkF L i)) (List.mem_cons_of_mem _ (List.mem_cons_of_mem _ List.mem_cons_self))).len, ((h 0 (by simp)).elem (getD_mem (ByteArray.empty, 0, [], ()) hi) (c := .str (nmF L i)) List.mem_cons_self).str_len⟩
  have hfb : ∀ i, i < R.length → (lkF R i).length ≤ 281474976710656 ∧ (nmF R i).size ≤ 281474976710656 := fun i hi => by cases fit0 with | agg _ h => exact ⟨((h 1 (by simp)).elem (getD_mem (ByteArray.empty, 0, [], ()) hi) (c := .ints (lkF R i)) (List.mem_cons_of_mem _ (List.mem_cons_of_mem _ List.mem_cons_self))).len, ((h 1 (by simp)).elem (getD_mem (ByteArray.empty, 0, [], ()) hi) (c := .str (nmF R i)) List.mem_cons_self).str_len⟩
  have hwl := hW.len
  have hpl := @placeF_lt (lkF R r) (l : Nat)
  refine awp_seq ?_
  refine awp_region rfl (.n (fun _ => op_box (.plain rfl) (by simp)) (.n (fun _ => op_box (.plain rfl) (by simp)) (.n (fun _ => op_box (.plain rfl) (by simp)) (.n (fun _ => op_assign (.plain rfl)) (.nil _))))) ?_
  refine awp_seq ?_
  refine awp_seq ?_
  refine awp_region_draw mixed rfl (.n (fun _ => op_load_agg Tryd.isAgg24 Tryd.sizeOf24 (.plain rfl) (Nat.le_of_ble_eq_true rfl)) (.n (fun _ => op_move (.plain rfl)) (.n (fun _ => op_load Tryd.isAgg3 (.plain rfl)) (.n (fun _ => op_call3 Tryd.call35 (.plain rfl) (.plain rfl) (.plain rfl) (likes_fc L R l r _ _ ?_ ?_ ?_ ?_)) (.n (fun _ => op_not (.plain rfl)) (.n (fun _ => op_move (.plain rfl)) (.gn rfl rfl (fun hg _ => op_load Tryd.isAgg25 (.plain rfl)) (.gn rfl rfl (fun hg _ => op_move (.plain rfl)) (.gn rfl rfl (fun hg _ => op_indexAddrN Tryd.underlying25 Tryd.sizeOf3 (.opt rfl fun h => h) (.opt rfl fun h => h) (fun _ => rfl) ?_) (.gn rfl rfl (fun hg _ => op_load Tryd.isAgg3 (.opt rfl fun h => h)) (.gn rfl rfl (fun hg _ => op_geq (.opt rfl fun h => h) (.plain rfl)) (.gn rfl rfl (fun hg _ => op_move (.opt rfl fun h => h)) (.ggn rfl rfl (fun hg _ => op_fieldAddr Tryd.underlying24 rfl rfl Tryd.sizeOf22 (.plain rfl)) (.ggn rfl rfl (fun hg _ => op_load Tryd.isAgg22 (.opt rfl fun h => h)) (.ggn rfl rfl (fun hg _ => op_move (.plain rfl)) (.ggn rfl rfl (fun hg _ => op_indexAddrN Tryd.underlying22 Tryd.sizeOf48 (.opt rfl fun h => h) (.opt rfl fun h => h) (fun _ => rfl) ?_) (.ggn rfl rfl (fun hg _ => op_load_agg Tryd.isAgg48 Tryd.sizeOf48 (.opt rfl fun h => h) (Nat.le_of_ble_eq_true rfl)) (.ggn rfl rfl (fun hg _ => op_load Tryd.isAgg25 (.plain rfl)) (.ggn rfl rfl (fun hg _ => op_move (.plain rfl)) (.ggn rfl rfl (fun hg _ => op_indexAddrN Tryd.underlying25 Tryd.sizeOf3 (.opt rfl fun h => h) (.opt rfl fun h => h) (fun _ => rfl) ?_) (.ggn rfl rfl (fun hg _ => op_load Tryd.isAgg3 (.opt rfl fun h => h)) (.ggn rfl rfl (fun hg _ => op_call2 Tryd.call49 (.opt rfl fun h => h) (.opt rfl fun h => h) (Rank_fc _ _ _ _)) (.ggn rfl rfl (fun hg _ => op_fieldAddr Tryd.underlying24 rfl rfl Tryd.sizeOf22 (.plain rfl)) (.ggn rfl rfl (fun hg _ => op_load Tryd.isAgg22 (.opt rfl fun h => h)) (.ggn rfl rfl (fun hg _ => op_move (.plain rfl)) (.ggn rfl rfl (fun hg _ => op_indexAddrN Tryd.underlying22 Tryd.sizeOf48 (.opt rfl fun h => h) (.opt rfl fun h => h) (fun _ => rfl) ?_) (.ggn rfl rfl (fun hg _ => op_load_agg Tryd.isAgg48 Tryd.sizeOf48 (.opt rfl fun h => h) (Nat.le_of_ble_eq_true rfl)) (.ggn rfl rfl (fun hg _ => op_load Tryd.isAgg3 (.plain rfl)) (.ggn rfl rfl (fun hg _ => op_call2 Tryd.call49 (.opt rfl fun h => h) (.opt rfl fun h => h) (Rank_fc _ _ _ _)) (.ggn rfl rfl (fun hg _ => op_leq (.opt rfl fun h => h) (.opt rfl fun h => h)) (.gn rfl rfl (fun hg _ => op_and (.opt rfl fun h => h) (.plain rfl) (.plain rfl) (fun h => andI hg (eqT h))) (.n (fun _ => op_or (.plain rfl) (.plain rfl) (.plain rfl) (fun h => eqF h)) (.nil _))))))))))))))))))))))))))))))))) ?d4 ?_
  · (try simp only [foldN, foldR, foldL, Int.toNat_natCast])
    try (first | rfl | omega)
  · (try simp only [foldN, foldR, foldL, Int.toNat_natCast])
    try (first | rfl | omega)
  · (try simp only [foldN, foldR, foldL, Int.toNat_natCast])
    omega
  · (try simp only [foldN, foldR, foldL, Int.toNat_natCast])
    omega
  · try simp only [beq_iff_eq, beq_true, beq_false, Bool.and_eq_true, decide_eq_true_eq, decide_eq_false_iff_not, Bool.not_eq_true', Bool.or_eq_true, Bool.or_eq_false_iff] at hg
    (try simp only [foldN, foldR, foldL, Int.toNat_natCast])
    omega
  · try simp only [beq_iff_eq, beq_true, beq_false, Bool.and_eq_true, decide_eq_true_eq, decide_eq_false_iff_not, Bool.not_eq_true', Bool.or_eq_true, Bool.or_eq_false_iff] at hg
    (try simp only [foldN, foldR, foldL, Int.toNat_natCast])
    omega
  · try simp only [beq_iff_eq, beq_true, beq_false, Bool.and_eq_true, decide_eq_true_eq, decide_eq_false_iff_not, Bool.not_eq_true', Bool.or_eq_true, Bool.or_eq_false_iff] at hg
    (try simp only [foldN, foldR, foldL, Int.toNat_natCast])
    omega
  · try simp only [beq_iff_eq, beq_true, beq_false, Bool.and_eq_true, decide_eq_true_eq, decide_eq_false_iff_not, Bool.not_eq_true', Bool.or_eq_true, Bool.or_eq_false_iff] at hg
    (try simp only [foldN, foldR, foldL, Int.toNat_natCast])
    omega
  · kernel_rfl
  refine awp_cond rfl (fun h => ?_) (fun h => ?_)
  · (try simp only [decide_eq_true_eq, decide_eq_false_iff_not, Bool.and_eq_true, Bool.or_eq_true, Bool.and_eq_false_iff, Bool.or_eq_false_iff, Bool.not_eq_true', Bool.not_eq_false', Bool.not_eq_true, Bool.not_eq_false, Bool.true_eq_false, Bool.false_eq_true] at h); (try simp only [foldN, foldR, foldL, Int.toNat_natCast] at h)
    have h0 : (!likesF L R l r || beforeF L w l r) = true := by
      unfold beforeF
      simp only [Bool.or_eq_true, Bool.not_eq_true', Bool.and_eq_true, decide_eq_true_eq]
      exact h
    refine awp_seq ?_
    refine awp_region rfl (.n (fun _ => op_assign (.plain rfl)) (.nil _)) ?_
    refine awp_ret ?_
    refine retQ.ret ?_
    refine ret1 rfl rfl rfl ?_
    exact congrArg PV.bool (wouldF_no h0)
  · (try simp only [decide_eq_true_eq, decide_eq_false_iff_not, Bool.and_eq_true, Bool.or_eq_true, Bool.and_eq_false_iff, Bool.or_eq_false_iff, Bool.not_eq_true', Bool.not_eq_false', Bool.not_eq_true, Bool.not_eq_false, Bool.true_eq_false, Bool.false_eq_true] at h); (try simp only [foldN, foldR, foldL, Int.toNat_natCast] at h)
    have h0 : ¬ (!likesF L R l r || beforeF L w l r) = true := by
      unfold beforeF
      simp only [Bool.or_eq_true, Bool.not_eq_true', Bool.and_eq_true, decide_eq_true_eq]
      rintro (c | c)
      · rw [h.1] at c; cases c
      · exact h.2.elim (fun d => d c.1) (fun d => d c.2)
    have hlk : likesF L R l r = true := h.1
    have hlp := (likes_l hlk).2
    clear h
    refine awp_skip ?_
    refine awp_seq ?_
    refine awp_seq ?_
    refine awp_region_draw mixed rfl (.n (fun _ => op_load Tryd.isAgg25 (.plain rfl)) (.n (fun _ => op_load Tryd.isAgg3 (.plain rfl)) (.n (fun _ => op_call2 Tryd.call46 (.plain rfl) (.plain rfl) (count_fc _ _)) (.n (fun _ => op_fieldAddr Tryd.underlying24 rfl rfl Tryd.sizeOf22 (.plain rfl)) (.n (fun _ => op_load Tryd.isAgg22 (.plain rfl)) (.n (fun _ => op_load Tryd.isAgg3 (.plain rfl)) (.n (fun _ => op_indexAddr Tryd.underlying22 Tryd.sizeOf48 (.plain rfl) (.plain rfl) (fun _ => rfl) ?_) (.n (fun _ => op_fieldAddr Tryd.underlying48 rfl rfl Tryd.sizeOf3 (.plain rfl)) (.n (fun _ => op_load Tryd.isAgg3 (.plain rfl)) (.n (fun _ => op_lss (.plain rfl) (.plain rfl)) (.nil _))))))))))) ?d5 ?_
    · (try simp only [foldN, foldR, foldL, Int.toNat_natCast])
      omega
    · kernel_rfl
    refine awp_cond rfl (fun h => ?_) (fun h => ?_)
    · (try simp only [decide_eq_true_eq, decide_eq_false_iff_not, Bool.and_eq_true, Bool.or_eq_true, Bool.and_eq_false_iff, Bool.or_eq_false_iff, Bool.not_eq_true', Bool.not_eq_false', Bool.not_eq_true, Bool.not_eq_false, Bool.true_eq_false, Bool.false_eq_true] at h); (try simp only [foldN, foldR, foldL, Int.toNat_natCast] at h)
      refine awp_seq ?_
      refine awp_region rfl (.n (fun _ => op_assign (.plain rfl)) (.nil _)) ?_
      refine awp_ret ?_
      refine retQ.ret ?_
      refine ret1 rfl rfl rfl ?_
      exact congrArg PV.bool (wouldF_cnt h0 h)
    · (try simp only [decide_eq_true_eq, decide_eq_false_iff_not, Bool.and_eq_true, Bool.or_eq_true, Bool.and_eq_false_iff, Bool.or_eq_false_iff, Bool.not_eq_true', Bool.not_eq_false', Bool.not_eq_true, Bool.not_eq_false, Bool.true_eq_false, Bool.false_eq_true] at h); (try simp only [foldN, foldR, foldL, Int.toNat_natCast] at h)
      refine awp_skip ?_
      refine awp_seq ?_
      refine awp_region_draw mixed rfl (.n (fun _ => op_fieldAddr Tryd.underlying24 rfl rfl Tryd.sizeOf22 (.plain rfl)) (.n (fun _ => op_load Tryd.isAgg22 (.plain rfl)) (.n (fun _ => op_load Tryd.isAgg3 (.plain rfl)) (.n (fun _ => op_indexAddr Tryd.underlying22 Tryd.sizeOf48 (.plain rfl) (.plain rfl) (fun _ => rfl) ?_) (.n (fun _ => op_fieldAddr Tryd.underlying48 rfl rfl Tryd.sizeOf25 (.plain rfl)) (.n (fun _ => op_load Tryd.isAgg25 (.plain rfl)) (.n (fun _ => op_fieldAddr Tryd.underlying24 rfl rfl Tryd.sizeOf22 (.plain rfl)) (.n (fun _ => op_load Tryd.isAgg22 (.plain rfl)) (.n (fun _ => op_load Tryd.isAgg3 (.plain rfl)) (.n (fun _ => op_indexAddr Tryd.underlying22 Tryd.sizeOf48 (.plain rfl) (.plain rfl) (fun _ => rfl) ?_) (.n (fun _ => op_load_agg Tryd.isAgg48 Tryd.sizeOf48 (.plain rfl) (Nat.le_of_ble_eq_true rfl)) (.n (fun _ => op_move (.plain rfl)) (.n (fun _ => op_call2 Tryd.call49 (.plain rfl) (.plain rfl) (Rank_fc _ _ _ _)) (.n (fun _ => op_add (.plain rfl) (.plain rfl) ?_) (.n (fun _ => op_sliceI (kh := .i64) Tryd.underlying25 Tryd.sizeOf3 (fun _ => rfl) (.plain rfl) (.plain rfl) rfl ?_) (.n (fun _ => op_makeFunc2 (.plain rfl) (.plain rfl)) (.n (fun _ => op_call2 Tryd.call53 (.plain rfl) (.plain rfl) (ContainsFunc_fc _ 54 [.rd [.ints w], .rd [.i (r : Nat)]] (fun x => decide (w.getD x.toNat 0 = (r : Nat))) Tryd.call54 (fun x hx => would1_fc w r x (aft_in hW hr hlp hx)))) (.n (fun _ => op_assign (.plain rfl)) (.nil _))))))))))))))))))) ?d6 ?_
      · (try simp only [foldN, foldR, foldL, Int.toNat_natCast])
        omega
      · (try simp only [foldN, foldR, foldL, Int.toNat_natCast])
        omega
      · (try simp only [foldN, foldR, foldL, Int.toNat_natCast])
        have hlb := (hfb r hr).1
        unfold InR; omega
      · (try simp only [foldN, foldR, foldL, Int.toNat_natCast])
        omega
      · kernel_rfl
      refine awp_ret ?_
      refine retQ.ret ?_
      refine ret1 rfl rfl rfl ?_
      exact congrArg PV.bool (wouldF_aft h0 h)

set_option maxRecDepth 1000000 in
set_option maxHeartbeats 1000000 in
theorem Would_fc (L R : List Ag) (w : List Int) (l r : Nat) (x y : Int) (hx : x = l) (hy : y = r) (hl : l < L.length) (hr : r < R.length) (hW : WOk L R w) (hF : Fond L R w) (hlw : l < w.length) : FC Tryd.prog 39 [.agg [.seq (ByteArray × Int × List Int × Unit) (ByteArray.empty, 0, [], ()) (fun p => [.str p.1, .i p.2.1, .ints p.2.2.1]) L, .seq (ByteArray × Int × List Int × Unit) (ByteArray.empty, 0, [], ()) (fun p => [.str p.1, .i p.2.1, .ints p.2.2.1]) R], .ints w, .i x, .i y] (.bool (wouldF L R w l r)) := by
  subst hx; subst hy
  refine FC.intro Tryd.func39 rfl (Nat.le_of_ble_eq_true rfl) fun hfit => ?_
  have fit0 := hfit _ (.head _)
  obtain ⟨fitl1, fitr1⟩ := (hfit _ (.tail _ (.head _))).ints
  have hfa : ∀ i, i < L.length → (lkF L i).length ≤ 281474976710656 ∧ (nmF L i).size ≤ 281474976710656 := fun i hi => by cases fit0 with | agg _ h => exact ⟨((h 0 (by simp)).elem (getD_mem (ByteArray.empty, 0, [], ()) hi) (c := .ints (lkF L i)) (List.mem_cons_of_mem _ (List.mem_cons_of_mem _ List.mem_cons_self))).len, ((h 0 (by simp)).elem (getD_mem (ByteArray.empty, 0, [], ()) hi) (c := .str (nmF L i)) List.mem_cons_self).str_len⟩
  have hfb : ∀ i, i < R.length → (lkF R i).length ≤ 281474976710656 ∧ (nmF R i).size ≤ 281474976710656 := fun i hi => by cases fit0 with | agg _ h => exact ⟨((h 1 (by simp)).elem (getD_mem (ByteArray.empty, 0, [], ()) hi) (c := .ints (lkF R i)) (List.mem_cons_of_mem _ (List.mem_cons_of_mem _ List.mem_cons_self))).len, ((h 1 (by simp)).elem (getD_mem (ByteArray.empty, 0, [], ()) hi) (c := .str (nmF R i)) List.mem_cons_self).str_len⟩
  have hwl := hW.len
  have hpl := @placeF_lt (lkF R r) (l : Nat)
  have hl6 := hW.m.l6
  refine awp_seq ?_
  refine awp_region rfl (.n (fun _ => op_box (.plain rfl) (by simp)) (.n (fun _ => op_assign (.plain rfl)) (.nil _))) ?_
  refine awp_seq ?_
  refine awp_region rfl (.n (fun _ => op_load_agg Tryd.isAgg24 Tryd.sizeOf24 (.plain rfl) (Nat.le_of_ble_eq_true rfl)) (.n (fun _ => op_move (.plain rfl)) (.n (fun _ => op_move (.plain rfl)) (.n (fun _ => op_call3 Tryd.call38 (.plain rfl) (.plain rfl) (.plain rfl) (Likes_fc L R l r _ _ ?_ ?_ ?_ ?_)) (.n (fun _ => op_assign (.plain rfl)) (.nil _)))))) ?_
  · (try simp only [foldN, foldR, foldL, Int.toNat_natCast])
    try (first | rfl | omega)
  · (try simp only [foldN, foldR, foldL, Int.toNat_natCast])
    try (first | rfl | omega)
  · (try simp only [foldN, foldR, foldL, Int.toNat_natCast])
    omega
  · (try simp only [foldN, foldR, foldL, Int.toNat_natCast])
    omega
  refine awp_seq ?_
  refine awp_seq ?_
  refine awp_region rfl (.n (fun _ => op_move (.plain rfl)) (.n (fun _ => op_not (.plain rfl)) (.n (fun _ => op_move (.plain rfl)) (.gn rfl rfl (fun hg _ => op_move (.plain rfl)) (.gn rfl rfl (fun hg _ => op_move (.plain rfl)) (.gn rfl rfl (fun hg _ => op_indexAddrN Tryd.underlying25 Tryd.sizeOf3 (.opt rfl fun h => h) (.opt rfl fun h => h) (fun _ => rfl) ?_) (.gn rfl rfl (fun hg _ => op_load Tryd.isAgg3 (.opt rfl fun h => h)) (.gn rfl rfl (fun hg _ => op_move (.plain rfl)) (.gn rfl rfl (fun hg _ => op_eql (.opt rfl fun h => h) (.opt rfl fun h => h)) (.n (fun _ => op_or (.plain rfl) (.plain rfl) (.plain rfl) (fun h => eqF h)) (.nil _))))))))))) ?_
  · try simp only [beq_iff_eq, beq_true, beq_false, Bool.and_eq_true, decide_eq_true_eq, decide_eq_false_iff_not, Bool.not_eq_true', Bool.or_eq_true, Bool.or_eq_false_iff] at hg
    (try simp only [foldN, foldR, foldL, Int.toNat_natCast])
    omega
  refine awp_cond rfl (fun h => ?_) (fun h => ?_)
  · (try simp only [decide_eq_true_eq, decide_eq_false_iff_not, Bool.and_eq_true, Bool.or_eq_true, Bool.and_eq_false_iff, Bool.or_eq_false_iff, Bool.not_eq_true', Bool.not_eq_false', Bool.not_eq_true, Bool.not_eq_false, Bool.true_eq_false, Bool.false_eq_true] at h); (try simp only [foldN, foldR, foldL, Int.toNat_natCast] at h)
    refine awp_seq ?_
    refine awp_region rfl (.n (fun _ => op_assign (.plain rfl)) (.nil _)) ?_
    refine awp_ret ?_
    refine retQ.ret ?_
    refine ret1 rfl rfl rfl ?_
    refine congrArg PV.bool (wouldF_no ?_)
    rcases h with h | h
    · rw [h]; rfl
    · rw [before_same hF hlw h]; simp
  · (try simp only [decide_eq_true_eq, decide_eq_false_iff_not, Bool.and_eq_true, Bool.or_eq_true, Bool.and_eq_false_iff, Bool.or_eq_false_iff, Bool.not_eq_true', Bool.not_eq_false', Bool.not_eq_true, Bool.not_eq_false, Bool.true_eq_false, Bool.false_eq_true] at h); (try simp only [foldN, foldR, foldL, Int.toNat_natCast] at h)
    have hlk : likesF L R l r = true := h.1
    have hne : ¬ w.getD l 0 = (r : Nat) := h.2
    have hlp := (likes_l hlk).2
    clear h
    refine awp_skip ?_
    refine awp_seq ?_
    refine awp_seq ?_
    refine awp_region rfl (.n (fun _ => op_move (.plain rfl)) (.n (fun _ => op_move (.plain rfl)) (.n (fun _ => op_indexAddrN Tryd.underlying25 Tryd.sizeOf3 (.plain rfl) (.plain rfl) (fun _ => rfl) ?_) (.n (fun _ => op_load Tryd.isAgg3 (.plain rfl)) (.n (fun _ => op_geq (.plain rfl) (.plain rfl)) (.nil _)))))) ?_
    · (try simp only [foldN, foldR, foldL, Int.toNat_natCast])
      omega
    refine awp_cond rfl (fun h => ?_) (fun h => ?_)
    · (try simp only [decide_eq_true_eq, decide_eq_false_iff_not, Bool.and_eq_true, Bool.or_eq_true, Bool.and_eq_false_iff, Bool.or_eq_false_iff, Bool.not_eq_true', Bool.not_eq_false', Bool.not_eq_true, Bool.not_eq_false, Bool.true_eq_false, Bool.false_eq_true] at h); (try simp only [foldN, foldR, foldL, Int.toNat_natCast] at h)
      have hpos := h
      clear h
      refine awp_seq ?_
      refine awp_region_draw mixed rfl (.n (fun _ => op_fieldAddr Tryd.underlying24 rfl rfl Tryd.sizeOf22 (.plain rfl)) (.n (fun _ => op_load Tryd.isAgg22 (.plain rfl)) (.n (fun _ => op_move (.plain rfl)) (.n (fun _ => op_indexAddrN Tryd.underlying22 Tryd.sizeOf48 (.plain rfl) (.plain rfl) (fun _ => rfl) ?_) (.n (fun _ => op_fieldAddr Tryd.underlying48 rfl rfl Tryd.sizeOf25 (.plain rfl)) (.n (fun _ => op_load Tryd.isAgg25 (.plain rfl)) (.n (fun _ => op_move (.plain rfl)) (.n (fun _ => op_move (.plain rfl)) (.n (fun _ => op_indexAddrN Tryd.underlying25 Tryd.sizeOf3 (.plain rfl) (.plain rfl) (fun _ => rfl) ?_) (.n (fun _ => op_load Tryd.isAgg3 (.plain rfl)) (.n (fun _ => op_call2 Tryd.call29 (.plain rfl) (.plain rfl) (Place_fc _ _)) (.n (fun _ => op_assign (.plain rfl)) (.nil _))))))))))))) ?d7 ?_
      · (try simp only [foldN, foldR, foldL, Int.toNat_natCast])
        omega
      · (try simp only [foldN, foldR, foldL, Int.toNat_natCast])
        omega
      · kernel_rfl
      refine awp_seq ?_
      refine awp_region rfl (.n (fun _ => op_fieldAddr Tryd.underlying24 rfl rfl Tryd.sizeOf22 (.plain rfl)) (.n (fun _ => op_load Tryd.isAgg22 (.plain rfl)) (.n (fun _ => op_move (.plain rfl)) (.n (fun _ => op_indexAddrN Tryd.underlying22 Tryd.sizeOf48 (.plain rfl) (.plain rfl) (fun _ => rfl) ?_) (.n (fun _ => op_fieldAddr Tryd.underlying48 rfl rfl Tryd.sizeOf25 (.plain rfl)) (.n (fun _ => op_load Tryd.isAgg25 (.plain rfl)) (.n (fun _ => op_move (.plain rfl)) (.n (fun _ => op_call2 Tryd.call29 (.plain rfl) (.plain rfl) (Place_fc _ _)) (.n (fun _ => op_assign (.plain rfl)) (.nil _)))))))))) ?_
      · (try simp only [foldN, foldR, foldL, Int.toNat_natCast])
        omega
      refine awp_seq ?_
      refine awp_region rfl (.n (fun _ => op_move (.plain rfl)) (.n (fun _ => op_move (.plain rfl)) (.n (fun _ => op_lss (.plain rfl) (.plain rfl)) (.nil _)))) ?_
      refine awp_cond rfl (fun h => ?_) (fun h => ?_)
      · (try simp only [decide_eq_true_eq, decide_eq_false_iff_not, Bool.and_eq_true, Bool.or_eq_true, Bool.and_eq_false_iff, Bool.or_eq_false_iff, Bool.not_eq_true', Bool.not_eq_false', Bool.not_eq_true, Bool.not_eq_false, Bool.true_eq_false, Bool.false_eq_true] at h); (try simp only [foldN, foldR, foldL, Int.toNat_natCast] at h)
        refine awp_seq ?_
        refine awp_region rfl (.n (fun _ => op_assign (.plain rfl)) (.nil _)) ?_
        refine awp_ret ?_
        refine retQ.ret ?_
        refine ret1 rfl rfl rfl ?_
        refine congrArg PV.bool (wouldF_no ?_)
        rw [before_lt hpos h]; simp
      · (try simp only [decide_eq_true_eq, decide_eq_false_iff_not, Bool.and_eq_true, Bool.or_eq_true, Bool.and_eq_false_iff, Bool.or_eq_false_iff, Bool.not_eq_true', Bool.not_eq_false', Bool.not_eq_true, Bool.not_eq_false, Bool.true_eq_false, Bool.false_eq_true] at h); (try simp only [foldN, foldR, foldL, Int.toNat_natCast] at h)
        have hnb := before_no hF hlw hne (fun _ => h)
        have h0 : ¬ (!likesF L R l r || beforeF L w l r) = true := by rw [hlk, hnb]; simp
        clear h
        refine awp_skip ?_
        refine awp_seq ?_
        refine awp_region rfl (.n (fun _ => op_move (.plain rfl)) (.n (fun _ => op_move (.plain rfl)) (.n (fun _ => op_call2 Tryd.call32 (.plain rfl) (.plain rfl) (Goes_fc _ _ ?_)) (.n (fun _ => op_assign (.plain rfl)) (.nil _))))) ?_
        · (try simp only [foldN, foldR, foldL, Int.toNat_natCast])
          omega
        refine awp_seq ?_
        refine awp_seq ?_
        refine awp_region rfl (.n (fun _ => op_move (.plain rfl)) (.n (fun _ => op_len (s := 0) Tryd.underlying25 (.plain rfl)) (.n (fun _ => op_fieldAddr Tryd.underlying24 rfl rfl Tryd.sizeOf22 (.plain rfl)) (.n (fun _ => op_load Tryd.isAgg22 (.plain rfl)) (.n (fun _ => op_move (.plain rfl)) (.n (fun _ => op_indexAddrN Tryd.underlying22 Tryd.sizeOf48 (.plain rfl) (.plain rfl) (fun _ => rfl) ?_) (.n (fun _ => op_fieldAddr Tryd.underlying48 rfl rfl Tryd.sizeOf3 (.plain rfl)) (.n (fun _ => op_load Tryd.isAgg3 (.plain rfl)) (.n (fun _ => op_lss (.plain rfl) (.plain rfl)) (.nil _)))))))))) ?_
        · (try simp only [foldN, foldR, foldL, Int.toNat_natCast])
          omega
        refine awp_cond rfl (fun h => ?_) (fun h => ?_)
        · (try simp only [decide_eq_true_eq, decide_eq_false_iff_not, Bool.and_eq_true, Bool.or_eq_true, Bool.and_eq_false_iff, Bool.or_eq_false_iff, Bool.not_eq_true', Bool.not_eq_false', Bool.not_eq_true, Bool.not_eq_false, Bool.true_eq_false, Bool.false_eq_true] at h); (try simp only [foldN, foldR, foldL, Int.toNat_natCast] at h)
          have hc : (cntF w (r : Nat) : Int) < rmF R r := h
          clear h
          refine awp_seq ?_
          refine awp_region rfl (.n (fun _ => op_assign (.plain rfl)) (.nil _)) ?_
          refine awp_ret ?_
          refine retQ.ret ?_
          refine ret1 rfl rfl rfl ?_
          exact congrArg PV.bool (wouldF_cnt h0 hc)
        · (try simp only [decide_eq_true_eq, decide_eq_false_iff_not, Bool.and_eq_true, Bool.or_eq_true, Bool.and_eq_false_iff, Bool.or_eq_false_iff, Bool.not_eq_true', Bool.not_eq_false', Bool.not_eq_true, Bool.not_eq_false, Bool.true_eq_false, Bool.false_eq_true] at h); (try simp only [foldN, foldR, foldL, Int.toNat_natCast] at h)
          have hc : ¬ (cntF w (r : Nat) : Int) < rmF R r := h
          clear h
          have hgl := goesI_le (w := w) (x := (r : Nat)) w.length
          refine awp_skip ?_
          refine awp_seq ?_
          refine awp_region rfl (.n (fun _ => op_fieldAddr Tryd.underlying24 rfl rfl Tryd.sizeOf22 (.plain rfl)) (.n (fun _ => op_load Tryd.isAgg22 (.plain rfl)) (.n (fun _ => op_move (.plain rfl)) (.n (fun _ => op_indexAddrN Tryd.underlying22 Tryd.sizeOf48 (.plain rfl) (.plain rfl) (fun _ => rfl) ?_) (.n (fun _ => op_fieldAddr Tryd.underlying48 rfl rfl Tryd.sizeOf25 (.plain rfl)) (.n (fun _ => op_load Tryd.isAgg25 (.plain rfl)) (.n (fun _ => op_move (.plain rfl)) (.n (fun _ => op_call2 Tryd.call29 (.plain rfl) (.plain rfl) (Place_fc _ _)) (.n (fun _ => op_assign (.plain rfl)) (.nil _)))))))))) ?_
          · (try simp only [foldN, foldR, foldL, Int.toNat_natCast])
            omega
          refine awp_seq ?_
          refine awp_seq ?_
          refine awp_region rfl (.n (fun _ => op_assign (.plain rfl)) (.nil _)) ?_
          refine awp_block ?_
          refine awp_loop (σ := Nat) (fun (k : Nat) => k ≤ (goesI w (r : Nat) w.length).length ∧ firstI (fun i => decide (placeF (lkF R r) (l : Nat) < placeF (lkF R r) ((goesI w (r : Nat) w.length).getD i 0))) k = none) (fun (k : Nat) => ⟨[(3, .int (r : Nat)), (4, .pv (.rd [.seq (ByteArray × Int × List Int × Unit) (ByteArray.empty, 0, [], ()) (fun p => [.str p.1, .i p.2.1, .ints p.2.2.1]) L, .seq (ByteArray × Int × List Int × Unit) (ByteArray.empty, 0, [], ()) (fun p => [.str p.1, .i p.2.1, .ints p.2.2.1]) R])), (12, .pv (.ints (goesI w (r : Nat) w.length))), (13, .int (placeF (lkF R r) (l : Nat))), (14, .int (k : Nat))], []⟩) (fun (k : Nat) => (goesI w (r : Nat) w.length).length - k) 0 ?_ (Ent.kept ⟨rfl, rfl, rfl, rfl, rfl, trivial⟩ trivial) ?_
          · exact ⟨Nat.zero_le _, rfl⟩
          rintro k hp
          try dsimp only at hp
          obtain ⟨hk, hE⟩ := hp
          refine awp_seq ?_
          refine awp_seq ?_
          refine awp_region rfl (.n (fun _ => op_move (.plain rfl)) (.n (fun _ => op_move (.plain rfl)) (.n (fun _ => op_len (s := 0) Tryd.underlying25 (.plain rfl)) (.n (fun _ => op_lss (.plain rfl) (.plain rfl)) (.nil _))))) ?_
          refine awp_cond rfl (fun h => ?_) (fun h => ?_)
          · (try simp only [decide_eq_true_eq, decide_eq_false_iff_not, Bool.and_eq_true, Bool.or_eq_true, Bool.and_eq_false_iff, Bool.or_eq_false_iff, Bool.not_eq_true', Bool.not_eq_false', Bool.not_eq_true, Bool.not_eq_false, Bool.true_eq_false, Bool.false_eq_true] at h); (try simp only [foldN, foldR, foldL, Int.toNat_natCast] at h)
            refine awp_skip ?_
            refine awp_seq ?_
            refine awp_block ?_
            refine awp_seq ?_
            refine awp_region_draw mixed rfl (.n (fun _ => op_fieldAddr Tryd.underlying24 rfl rfl Tryd.sizeOf22 (.plain rfl)) (.n (fun _ => op_load Tryd.isAgg22 (.plain rfl)) (.n (fun _ => op_move (.plain rfl)) (.n (fun _ => op_indexAddrN Tryd.underlying22 Tryd.sizeOf48 (.plain rfl) (.plain rfl) (fun _ => rfl) ?_) (.n (fun _ => op_fieldAddr Tryd.underlying48 rfl rfl Tryd.sizeOf25 (.plain rfl)) (.n (fun _ => op_load Tryd.isAgg25 (.plain rfl)) (.n (fun _ => op_move (.plain rfl)) (.n (fun _ => op_move (.plain rfl)) (.n (fun _ => op_indexAddrN Tryd.underlying25 Tryd.sizeOf3 (.plain rfl) (.plain rfl) (fun _ => rfl) ?_) (.n (fun _ => op_load Tryd.isAgg3 (.plain rfl)) (.n (fun _ => op_call2 Tryd.call29 (.plain rfl) (.plain rfl) (Place_fc _ _)) (.n (fun _ => op_assign (.plain rfl)) (.nil _))))))))))))) ?d8 ?_
            · (try simp only [foldN, foldR, foldL, Int.toNat_natCast])
              omega
            · (try simp only [foldN, foldR, foldL, Int.toNat_natCast])
              omega
            · kernel_rfl
            refine awp_seq ?_
            refine awp_region rfl (.n (fun _ => op_move (.plain rfl)) (.n (fun _ => op_move (.plain rfl)) (.n (fun _ => op_gtr (.plain rfl) (.plain rfl)) (.nil _)))) ?_
            refine awp_cond rfl (fun h => ?_) (fun h => ?_)
            · (try simp only [decide_eq_true_eq, decide_eq_false_iff_not, Bool.and_eq_true, Bool.or_eq_true, Bool.and_eq_false_iff, Bool.or_eq_false_iff, Bool.not_eq_true', Bool.not_eq_false', Bool.not_eq_true, Bool.not_eq_false, Bool.true_eq_false, Bool.false_eq_true] at h); (try simp only [foldN, foldR, foldL, Int.toNat_natCast] at h)
              refine awp_seq ?_
              refine awp_region rfl (.n (fun _ => op_assign (.plain rfl)) (.nil _)) ?_
              refine awp_ret ?_
              refine retQ.ret ?_
              refine ret1 rfl rfl rfl ?_
              refine congrArg PV.bool ?_
              rw [← wouldF_aft h0 hc]
              refine (decide_eq_true ((aft_is hW hr hlp).2 ⟨_, getD_memC (k := k) (by omega), by omega⟩)).symm
            · (try simp only [decide_eq_true_eq, decide_eq_false_iff_not, Bool.and_eq_true, Bool.or_eq_true, Bool.and_eq_false_iff, Bool.or_eq_false_iff, Bool.not_eq_true', Bool.not_eq_false', Bool.not_eq_true, Bool.not_eq_false, Bool.true_eq_false, Bool.false_eq_true] at h); (try simp only [foldN, foldR, foldL, Int.toNat_natCast] at h)
              refine awp_skip ?_
              refine awp_region rfl (.n (fun _ => op_move (.plain rfl)) (.n (fun _ => op_add (.plain rfl) (.plain rfl) ?_) (.n (fun _ => op_assign (.plain rfl)) (.nil _)))) ?_
              · (try simp only [foldN, foldR, foldL, Int.toNat_natCast])
                unfold InR; omega
              exact ⟨k + 1, ⟨by omega, firstI_succ hE (decide_eq_false (by omega))⟩, by dsimp only; omega, (Ent.kept ⟨rfl, rfl, rfl, rfl, rfl, trivial⟩ trivial)⟩
          · (try simp only [decide_eq_true_eq, decide_eq_false_iff_not, Bool.and_eq_true, Bool.or_eq_true, Bool.and_eq_false_iff, Bool.or_eq_false_iff, Bool.not_eq_true', Bool.not_eq_false', Bool.not_eq_true, Bool.not_eq_false, Bool.true_eq_false, Bool.false_eq_true] at h); (try simp only [foldN, foldR, foldL, Int.toNat_natCast] at h)
            refine awp_exit ?_
            refine awp_seq ?_
            refine awp_region rfl (.n (fun _ => op_assign (.plain rfl)) (.nil _)) ?_
            refine awp_ret ?_
            refine retQ.ret ?_
            refine ret1 rfl rfl rfl ?_
            refine congrArg PV.bool ?_
            rw [← wouldF_aft h0 hc]
            refine (decide_eq_false fun c => ?_).symm
            obtain ⟨y, hy, hy2⟩ := (aft_is hW hr hlp).1 c
            obtain ⟨q, hq, e⟩ := List.getElem_of_mem hy
            have h3 := firstI_none hE q (by omega)
            rw [List.getD_eq_getElem?_getD, List.getElem?_eq_getElem hq, Option.getD_some, e] at h3
            exact absurd hy2 (of_decide_eq_false h3)
    · (try simp only [decide_eq_true_eq, decide_eq_false_iff_not, Bool.and_eq_true, Bool.or_eq_true, Bool.and_eq_false_iff, Bool.or_eq_false_iff, Bool.not_eq_true', Bool.not_eq_false', Bool.not_eq_true, Bool.not_eq_false, Bool.true_eq_false, Bool.false_eq_true] at h); (try simp only [foldN, foldR, foldL, Int.toNat_natCast] at h)
      have hnb := before_no hF hlw hne (fun c => absurd c h)
      have h0 : ¬ (!likesF L R l r || beforeF L w l r) = true := by rw [hlk, hnb]; simp
      clear h
      refine awp_skip ?_
      refine awp_seq ?_
      refine awp_region rfl (.n (fun _ => op_move (.plain rfl)) (.n (fun _ => op_move (.plain rfl)) (.n (fun _ => op_call2 Tryd.call32 (.plain rfl) (.plain rfl) (Goes_fc _ _ ?_)) (.n (fun _ => op_assign (.plain rfl)) (.nil _))))) ?_
      · (try simp only [foldN, foldR, foldL, Int.toNat_natCast])
        omega
      refine awp_seq ?_
      refine awp_seq ?_
      refine awp_region rfl (.n (fun _ => op_move (.plain rfl)) (.n (fun _ => op_len (s := 0) Tryd.underlying25 (.plain rfl)) (.n (fun _ => op_fieldAddr Tryd.underlying24 rfl rfl Tryd.sizeOf22 (.plain rfl)) (.n (fun _ => op_load Tryd.isAgg22 (.plain rfl)) (.n (fun _ => op_move (.plain rfl)) (.n (fun _ => op_indexAddrN Tryd.underlying22 Tryd.sizeOf48 (.plain rfl) (.plain rfl) (fun _ => rfl) ?_) (.n (fun _ => op_fieldAddr Tryd.underlying48 rfl rfl Tryd.sizeOf3 (.plain rfl)) (.n (fun _ => op_load Tryd.isAgg3 (.plain rfl)) (.n (fun _ => op_lss (.plain rfl) (.plain rfl)) (.nil _)))))))))) ?_
      · (try simp only [foldN, foldR, foldL, Int.toNat_natCast])
        omega
      refine awp_cond rfl (fun h => ?_) (fun h => ?_)
      · (try simp only [decide_eq_true_eq, decide_eq_false_iff_not, Bool.and_eq_true, Bool.or_eq_true, Bool.and_eq_false_iff, Bool.or_eq_false_iff, Bool.not_eq_true', Bool.not_eq_false', Bool.not_eq_true, Bool.not_eq_false, Bool.true_eq_false, Bool.false_eq_true] at h); (try simp only [foldN, foldR, foldL, Int.toNat_natCast] at h)
        have hc : (cntF w (r : Nat) : Int) < rmF R r := h
        clear h
        refine awp_seq ?_
        refine awp_region rfl (.n (fun _ => op_assign (.plain rfl)) (.nil _)) ?_
        refine awp_ret ?_
        refine retQ.ret ?_
        refine ret1 rfl rfl rfl ?_
        exact congrArg PV.bool (wouldF_cnt h0 hc)
      · (try simp only [decide_eq_true_eq, decide_eq_false_iff_not, Bool.and_eq_true, Bool.or_eq_true, Bool.and_eq_false_iff, Bool.or_eq_false_iff, Bool.not_eq_true', Bool.not_eq_false', Bool.not_eq_true, Bool.not_eq_false, Bool.true_eq_false, Bool.false_eq_true] at h); (try simp only [foldN, foldR, foldL, Int.toNat_natCast] at h)
        have hc : ¬ (cntF w (r : Nat) : Int) < rmF R r := h
        clear h
        have hgl := goesI_le (w := w) (x := (r : Nat)) w.length
        refine awp_skip ?_
        refine awp_seq ?_
        refine awp_region rfl (.n (fun _ => op_fieldAddr Tryd.underlying24 rfl rfl Tryd.sizeOf22 (.plain rfl)) (.n (fun _ => op_load Tryd.isAgg22 (.plain rfl)) (.n (fun _ => op_move (.plain rfl)) (.n (fun _ => op_indexAddrN Tryd.underlying22 Tryd.sizeOf48 (.plain rfl) (.plain rfl) (fun _ => rfl) ?_) (.n (fun _ => op_fieldAddr Tryd.underlying48 rfl rfl Tryd.sizeOf25 (.plain rfl)) (.n (fun _ => op_load Tryd.isAgg25 (.plain rfl)) (.n (fun _ => op_move (.plain rfl)) (.n (fun _ => op_call2 Tryd.call29 (.plain rfl) (.plain rfl) (Place_fc _ _)) (.n (fun _ => op_assign (.plain rfl)) (.nil _)))))))))) ?_
        · (try simp only [foldN, foldR, foldL, Int.toNat_natCast])
          omega
        refine awp_seq ?_
        refine awp_seq ?_
        refine awp_region rfl (.n (fun _ => op_assign (.plain rfl)) (.nil _)) ?_
        refine awp_block ?_
        refine awp_loop (σ := Nat) (fun (k : Nat) => k ≤ (goesI w (r : Nat) w.length).length ∧ firstI (fun i => decide (placeF (lkF R r) (l : Nat) < placeF (lkF R r) ((goesI w (r : Nat) w.length).getD i 0))) k = none) (fun (k : Nat) => ⟨[(3, .int (r : Nat)), (4, .pv (.rd [.seq (ByteArray × Int × List Int × Unit) (ByteArray.empty, 0, [], ()) (fun p => [.str p.1, .i p.2.1, .ints p.2.2.1]) L, .seq (ByteArray × Int × List Int × Unit) (ByteArray.empty, 0, [], ()) (fun p => [.str p.1, .i p.2.1, .ints p.2.2.1]) R])), (12, .pv (.ints (goesI w (r : Nat) w.length))), (13, .int (placeF (lkF R r) (l : Nat))), (14, .int (k : Nat))], []⟩) (fun (k : Nat) => (goesI w (r : Nat) w.length).length - k) 0 ?_ (Ent.kept ⟨rfl, rfl, rfl, rfl, rfl, trivial⟩ trivial) ?_
        · exact ⟨Nat.zero_le _, rfl⟩
        rintro k hp
        try dsimp only at hp
        obtain ⟨hk, hE⟩ := hp
        refine awp_seq ?_
        refine awp_seq ?_
        refine awp_region rfl (.n (fun _ => op_move (.plain rfl)) (.n (fun _ => op_move (.plain rfl)) (.n (fun _ => op_len (s := 0) Tryd.underlying25 (.plain rfl)) (.n (fun _ => op_lss (.plain rfl) (.plain rfl)) (.nil _))))) ?_
        refine awp_cond rfl (fun h => ?_) (fun h => ?_)
        · (try simp only [decide_eq_true_eq, decide_eq_false_iff_not, Bool.and_eq_true, Bool.or_eq_true, Bool.and_eq_false_iff, Bool.or_eq_false_iff, Bool.not_eq_true', Bool.not_eq_false', Bool.not_eq_true, Bool.not_eq_false, Bool.true_eq_false, Bool.false_eq_true] at h); (try simp only [foldN, foldR, foldL, Int.toNat_natCast] at h)
          refine awp_skip ?_
          refine awp_seq ?_
          refine awp_block ?_
          refine awp_seq ?_
          refine awp_region_draw mixed rfl (.n (fun _ => op_fieldAddr Tryd.underlying24 rfl rfl Tryd.sizeOf22 (.plain rfl)) (.n (fun _ => op_load Tryd.isAgg22 (.plain rfl)) (.n (fun _ => op_move (.plain rfl)) (.n (fun _ => op_indexAddrN Tryd.underlying22 Tryd.sizeOf48 (.plain rfl) (.plain rfl) (fun _ => rfl) ?_) (.n (fun _ => op_fieldAddr Tryd.underlying48 rfl rfl Tryd.sizeOf25 (.plain rfl)) (.n (fun _ => op_load Tryd.isAgg25 (.plain rfl)) (.n (fun _ => op_move (.plain rfl)) (.n (fun _ => op_move (.plain rfl)) (.n (fun _ => op_indexAddrN Tryd.underlying25 Tryd.sizeOf3 (.plain rfl) (.plain rfl) (fun _ => rfl) ?_) (.n (fun _ => op_load Tryd.isAgg3 (.plain rfl)) (.n (fun _ => op_call2 Tryd.call29 (.plain rfl) (.plain rfl) (Place_fc _ _)) (.n (fun _ => op_assign (.plain rfl)) (.nil _))))))))))))) ?d9 ?_
          · (try simp only [foldN, foldR, foldL, Int.toNat_natCast])
            omega
          · (try simp only [foldN, foldR, foldL, Int.toNat_natCast])
            omega
          · kernel_rfl
          refine awp_seq ?_
          refine awp_region rfl (.n (fun _ => op_move (.plain rfl)) (.n (fun _ => op_move (.plain rfl)) (.n (fun _ => op_gtr (.plain rfl) (.plain rfl)) (.nil _)))) ?_
          refine awp_cond rfl (fun h => ?_) (fun h => ?_)
          · (try simp only [decide_eq_true_eq, decide_eq_false_iff_not, Bool.and_eq_true, Bool.or_eq_true, Bool.and_eq_false_iff, Bool.or_eq_false_iff, Bool.not_eq_true', Bool.not_eq_false', Bool.not_eq_true, Bool.not_eq_false, Bool.true_eq_false, Bool.false_eq_true] at h); (try simp only [foldN, foldR, foldL, Int.toNat_natCast] at h)
            refine awp_seq ?_
            refine awp_region rfl (.n (fun _ => op_assign (.plain rfl)) (.nil _)) ?_
            refine awp_ret ?_
            refine retQ.ret ?_
            refine ret1 rfl rfl rfl ?_
            refine congrArg PV.bool ?_
            rw [← wouldF_aft h0 hc]
            refine (decide_eq_true ((aft_is hW hr hlp).2 ⟨_, getD_memC (k := k) (by omega), by omega⟩)).symm
          · (try simp only [decide_eq_true_eq, decide_eq_false_iff_not, Bool.and_eq_true, Bool.or_eq_true, Bool.and_eq_false_iff, Bool.or_eq_false_iff, Bool.not_eq_true', Bool.not_eq_false', Bool.not_eq_true, Bool.not_eq_false, Bool.true_eq_false, Bool.false_eq_true] at h); (try simp only [foldN, foldR, foldL, Int.toNat_natCast] at h)
            refine awp_skip ?_
            refine awp_region rfl (.n (fun _ => op_move (.plain rfl)) (.n (fun _ => op_add (.plain rfl) (.plain rfl) ?_) (.n (fun _ => op_assign (.plain rfl)) (.nil _)))) ?_
            · (try simp only [foldN, foldR, foldL, Int.toNat_natCast])
              unfold InR; omega
            exact ⟨k + 1, ⟨by omega, firstI_succ hE (decide_eq_false (by omega))⟩, by dsimp only; omega, (Ent.kept ⟨rfl, rfl, rfl, rfl, rfl, trivial⟩ trivial)⟩
        · (try simp only [decide_eq_true_eq, decide_eq_false_iff_not, Bool.and_eq_true, Bool.or_eq_true, Bool.and_eq_false_iff, Bool.or_eq_false_iff, Bool.not_eq_true', Bool.not_eq_false', Bool.not_eq_true, Bool.not_eq_false, Bool.true_eq_false, Bool.false_eq_true] at h); (try simp only [foldN, foldR, foldL, Int.toNat_natCast] at h)
          refine awp_exit ?_
          refine awp_seq ?_
          refine awp_region rfl (.n (fun _ => op_assign (.plain rfl)) (.nil _)) ?_
          refine awp_ret ?_
          refine retQ.ret ?_
          refine ret1 rfl rfl rfl ?_
          refine congrArg PV.bool ?_
          rw [← wouldF_aft h0 hc]
          refine (decide_eq_false fun c => ?_).symm
          obtain ⟨y, hy, hy2⟩ := (aft_is hW hr hlp).1 c
          obtain ⟨q, hq, e⟩ := List.getElem_of_mem hy
          have h3 := firstI_none hE q (by omega)
          rw [List.getD_eq_getElem?_getD, List.getElem?_eq_getElem hq, Option.getD_some, e] at h3
          exact absurd hy2 (of_decide_eq_false h3)

set_option maxRecDepth 1000000 in
set_option maxHeartbeats 1000000 in
theorem Stable_fc (L R : List Ag) (w : List Int) : FC Tryd.prog 11 [.agg [.seq (ByteArray × Int × List Int × Unit) (ByteArray.empty, 0, [], ()) (fun p => [.str p.1, .i p.2.1, .ints p.2.2.1]) L, .seq (ByteArray × Int × List Int × Unit) (ByteArray.empty, 0, [], ()) (fun p => [.str p.1, .i p.2.1, .ints p.2.2.1]) R], .ints w] (.tup (stT L R w)) := by
  refine FC.intro Tryd.func11 rfl (Nat.le_of_ble_eq_true rfl) fun hfit => ?_
  have fit0 := hfit _ (.head _)
  obtain ⟨fitl1, fitr1⟩ := (hfit _ (.tail _ (.head _))).ints
  have hfl : L.length ≤ 281474976710656 := by cases fit0 with | agg _ h => exact (h 0 (by simp)).len
  have hfr : R.length ≤ 281474976710656 := by cases fit0 with | agg _ h => exact (h 1 (by simp)).len
  refine awp_seq ?_
  refine awp_region rfl (.n (fun _ => op_box (.plain rfl) (by simp)) (.n (fun _ => op_assign (.plain rfl)) (.n (fun _ => op_assign (.plain rfl)) (.n (fun _ => op_assign (.plain rfl)) (.n (fun _ => op_assign (.plain rfl)) (.nil _)))))) ?_
  refine awp_seq ?_
  refine awp_seq ?_
  refine awp_region rfl (.n (fun _ => op_load_agg Tryd.isAgg24 Tryd.sizeOf24 (.plain rfl) (Nat.le_of_ble_eq_true rfl)) (.n (fun _ => op_move (.plain rfl)) (.n (fun _ => op_call2 Tryd.call34 (.plain rfl) (.plain rfl) (fits_fc _ _ _)) (.n (fun _ => op_assign (.plain rfl)) (.nil _))))) ?_
  refine awp_seq ?_
  refine awp_region rfl (.n (fun _ => op_move (.plain rfl)) (.n (fun _ => op_neq (.plain rfl) (.plain rfl)) (.nil _))) ?_
  refine awp_cond rfl (fun h => ?_) (fun h => ?_)
  · (try simp only [decide_eq_true_eq, decide_eq_false_iff_not, Bool.and_eq_true, Bool.or_eq_true, Bool.and_eq_false_iff, Bool.or_eq_false_iff, Bool.not_eq_true', Bool.not_eq_false', Bool.not_eq_true, Bool.not_eq_false, Bool.true_eq_false, Bool.false_eq_true] at h); (try simp only [foldN, foldR, foldL, Int.toNat_natCast] at h)
    refine awp_seq ?_
    refine awp_region rfl (.n (fun _ => op_move (.plain rfl)) (.n (fun _ => op_assign (.plain rfl)) (.n (fun _ => op_assign (.plain rfl)) (.n (fun _ => op_assign (.plain rfl)) (.n (fun _ => op_assign (.plain rfl)) (.nil _)))))) ?_
    refine awp_ret ?_
    refine retQ.ret ?_
    refine ret4 rfl rfl rfl rfl rfl rfl rfl rfl rfl ?_
    exact congrArg PV.tup (stT_e h)
  · (try simp only [decide_eq_true_eq, decide_eq_false_iff_not, Bool.and_eq_true, Bool.or_eq_true, Bool.and_eq_false_iff, Bool.or_eq_false_iff, Bool.not_eq_true', Bool.not_eq_false', Bool.not_eq_true, Bool.not_eq_false, Bool.true_eq_false, Bool.false_eq_true] at h); (try simp only [foldN, foldR, foldL, Int.toNat_natCast] at h)
    have h1 : withE L R w = 0 := by omega
    clear h
    have hW := wok h1
    have hwl := hW.len
    refine awp_skip ?_
    refine awp_seq ?_
    refine awp_seq ?_
    refine awp_region rfl (.n (fun _ => op_move (.plain rfl)) (.n (fun _ => op_len (s := 0) Tryd.underlying25 (.plain rfl)) (.n (fun _ => op_move (.plain rfl)) (.nil _)))) ?_
    refine awp_block ?_
    refine awp_loop (σ := Nat) (fun (l : Nat) => l ≤ w.length ∧ firstI (badL L R w) l = none) (fun (l : Nat) => ⟨[(1, .pv (.ints w)), (2, .pv (.rd [.seq (ByteArray × Int × List Int × Unit) (ByteArray.empty, 0, [], ()) (fun p => [.str p.1, .i p.2.1, .ints p.2.2.1]) L, .seq (ByteArray × Int × List Int × Unit) (ByteArray.empty, 0, [], ()) (fun p => [.str p.1, .i p.2.1, .ints p.2.2.1]) R])), (19, .pv (.ints w)), (20, .int (w.length : Nat)), (21, .int (l : Nat))], []⟩) (fun (l : Nat) => w.length - l) 0 ?_ (Ent.kept ⟨rfl, rfl, rfl, rfl, rfl, trivial⟩ trivial) ?_
    · exact ⟨Nat.zero_le _, rfl⟩
    rintro l hp
    try dsimp only at hp
    obtain ⟨hk, hE⟩ := hp
    refine awp_seq ?_
    refine awp_region rfl (.n (fun _ => op_lss (.plain rfl) (.plain rfl)) (.nil _)) ?_
    refine awp_seq ?_
    refine awp_cond rfl (fun h => ?_) (fun h => ?_)
    · (try simp only [decide_eq_true_eq, decide_eq_false_iff_not, Bool.and_eq_true, Bool.or_eq_true, Bool.and_eq_false_iff, Bool.or_eq_false_iff, Bool.not_eq_true', Bool.not_eq_false', Bool.not_eq_true, Bool.not_eq_false, Bool.true_eq_false, Bool.false_eq_true] at h); (try simp only [foldN, foldR, foldL, Int.toNat_natCast] at h)
      refine awp_skip ?_
      refine awp_seq ?_
      refine awp_block ?_
      refine awp_seq ?_
      refine awp_region rfl (.n (fun _ => op_move (.plain rfl)) (.n (fun _ => op_indexAddrN Tryd.underlying25 Tryd.sizeOf3 (.plain rfl) (.plain rfl) (fun _ => rfl) ?_) (.n (fun _ => op_load Tryd.isAgg3 (.plain rfl)) (.n (fun _ => op_assign (.plain rfl)) (.n (fun _ => op_assign (.plain rfl)) (.nil _)))))) ?_
      · (try simp only [foldN, foldR, foldL, Int.toNat_natCast])
        (try have hin := hW.ins l (by omega))
        (try have hwl := hW.len)
        omega
      refine awp_seq ?_
      refine awp_region rfl (.n (fun _ => op_move (.plain rfl)) (.n (fun _ => op_geq (.plain rfl) (.plain rfl)) (.n (fun _ => op_move (.plain rfl)) (.gn rfl rfl (fun hg _ => op_load_agg Tryd.isAgg24 Tryd.sizeOf24 (.plain rfl) (Nat.le_of_ble_eq_true rfl)) (.gn rfl rfl (fun hg _ => op_move (.plain rfl)) (.gn rfl rfl (fun hg _ => op_move (.plain rfl)) (.gn rfl rfl (fun hg _ => op_call3 Tryd.call35 (.opt rfl fun h => h) (.opt rfl fun h => h) (.opt rfl fun h => h) (likes_fc L R l (w.getD l 0).toNat _ _ ?_ ?_ ?_ ?_)) (.gn rfl rfl (fun hg _ => op_not (.opt rfl fun h => h)) (.n (fun _ => op_and (.plain rfl) (.plain rfl) (.plain rfl) (fun h => eqT h)) (.nil _)))))))))) ?_
      · try simp only [beq_iff_eq, beq_true, beq_false, Bool.and_eq_true, decide_eq_true_eq, decide_eq_false_iff_not, Bool.not_eq_true', Bool.or_eq_true, Bool.or_eq_false_iff] at hg
        (try simp only [foldN, foldR, foldL, Int.toNat_natCast])
        (try have hin := hW.ins l (by omega))
        (try have hwl := hW.len)
        try (first | rfl | omega)
      · try simp only [beq_iff_eq, beq_true, beq_false, Bool.and_eq_true, decide_eq_true_eq, decide_eq_false_iff_not, Bool.not_eq_true', Bool.or_eq_true, Bool.or_eq_false_iff] at hg
        (try simp only [foldN, foldR, foldL, Int.toNat_natCast])
        (try have hin := hW.ins l (by omega))
        (try have hwl := hW.len)
        try (first | rfl | omega)
      · try simp only [beq_iff_eq, beq_true, beq_false, Bool.and_eq_true, decide_eq_true_eq, decide_eq_false_iff_not, Bool.not_eq_true', Bool.or_eq_true, Bool.or_eq_false_iff] at hg
        (try simp only [foldN, foldR, foldL, Int.toNat_natCast])
        (try have hin := hW.ins l (by omega))
        (try have hwl := hW.len)
        try omega
      · try simp only [beq_iff_eq, beq_true, beq_false, Bool.and_eq_true, decide_eq_true_eq, decide_eq_false_iff_not, Bool.not_eq_true', Bool.or_eq_true, Bool.or_eq_false_iff] at hg
        (try simp only [foldN, foldR, foldL, Int.toNat_natCast])
        (try have hin := hW.ins l (by omega))
        (try have hwl := hW.len)
        try omega
      refine awp_cond rfl (fun h => ?_) (fun h => ?_)
      · (try simp only [decide_eq_true_eq, decide_eq_false_iff_not, Bool.and_eq_true, Bool.or_eq_true, Bool.and_eq_false_iff, Bool.or_eq_false_iff, Bool.not_eq_true', Bool.not_eq_false', Bool.not_eq_true, Bool.not_eq_false, Bool.true_eq_false, Bool.false_eq_true] at h); (try simp only [foldN, foldR, foldL, Int.toNat_natCast] at h)
        have h3 : badL L R w l = true := by unfold badL; simpa using h
        clear h
        refine awp_seq ?_
        refine awp_region rfl (.n (fun _ => op_move (.plain rfl)) (.n (fun _ => op_assign (.plain rfl)) (.n (fun _ => op_assign (.plain rfl)) (.n (fun _ => op_assign (.plain rfl)) (.n (fun _ => op_assign (.plain rfl)) (.nil _)))))) ?_
        refine awp_ret ?_
        refine retQ.ret ?_
        refine ret4 rfl rfl rfl rfl rfl rfl rfl rfl rfl ?_
        exact congrArg PV.tup (stT_bad h1 hE (by omega) h3)
      · (try simp only [decide_eq_true_eq, decide_eq_false_iff_not, Bool.and_eq_true, Bool.or_eq_true, Bool.and_eq_false_iff, Bool.or_eq_false_iff, Bool.not_eq_true', Bool.not_eq_false', Bool.not_eq_true, Bool.not_eq_false, Bool.true_eq_false, Bool.false_eq_true] at h); (try simp only [foldN, foldR, foldL, Int.toNat_natCast] at h)
        have h3 : badL L R w l = false := by
          unfold badL
          rcases h with h | h
          · rw [decide_eq_false h]; rfl
          · rw [h]; simp
        clear h
        refine awp_skip ?_
        refine awp_region rfl (.n (fun _ => op_add (.plain rfl) (.plain rfl) ?_) (.n (fun _ => op_move (.plain rfl)) (.nil _))) ?_
        · (try simp only [foldN, foldR, foldL, Int.toNat_natCast])
          (try have hin := hW.ins l (by omega))
          (try have hwl := hW.len)
          unfold InR; omega
        exact ⟨l + 1, ⟨by omega, firstI_succ hE h3⟩, by dsimp only; omega, (Ent.kept ⟨rfl, rfl, rfl, rfl, rfl, trivial⟩ trivial)⟩
    · (try simp only [decide_eq_true_eq, decide_eq_false_iff_not, Bool.and_eq_true, Bool.or_eq_true, Bool.and_eq_false_iff, Bool.or_eq_false_iff, Bool.not_eq_true', Bool.not_eq_false', Bool.not_eq_true, Bool.not_eq_false, Bool.true_eq_false, Bool.false_eq_true] at h); (try simp only [foldN, foldR, foldL, Int.toNat_natCast] at h)
      have hE1 : firstI (badL L R w) w.length = none := (show l = w.length by omega) ▸ hE
      clear h
      refine awp_exit ?_
      refine awp_seq ?_
      refine awp_seq ?_
      refine awp_region rfl (.n (fun _ => op_fieldAddr Tryd.underlying24 rfl rfl Tryd.sizeOf22 (.plain rfl)) (.n (fun _ => op_load Tryd.isAgg22 (.plain rfl)) (.n (fun _ => op_len (s := 0) Tryd.underlying22 (.plain rfl)) (.n (fun _ => op_move (.plain rfl)) (.nil _))))) ?_
      refine awp_block ?_
      refine awp_loop (σ := Nat) (fun (l : Nat) => l ≤ L.length ∧ firstI (rowB L R w) l = none) (fun (l : Nat) => ⟨[(1, .pv (.ints w)), (2, .pv (.rd [.seq (ByteArray × Int × List Int × Unit) (ByteArray.empty, 0, [], ()) (fun p => [.str p.1, .i p.2.1, .ints p.2.2.1]) L, .seq (ByteArray × Int × List Int × Unit) (ByteArray.empty, 0, [], ()) (fun p => [.str p.1, .i p.2.1, .ints p.2.2.1]) R])), (39, .int (L.length : Nat)), (40, .int (l : Nat))], []⟩) (fun (l : Nat) => L.length - l) 0 ?_ (Ent.kept ⟨rfl, rfl, rfl, rfl, trivial⟩ trivial) ?_
      · exact ⟨Nat.zero_le _, rfl⟩
      rintro l hp
      try dsimp only at hp
      obtain ⟨hkl, hE2⟩ := hp
      refine awp_seq ?_
      refine awp_region rfl (.n (fun _ => op_lss (.plain rfl) (.plain rfl)) (.nil _)) ?_
      refine awp_seq ?_
      refine awp_cond rfl (fun h => ?_) (fun h => ?_)
      · (try simp only [decide_eq_true_eq, decide_eq_false_iff_not, Bool.and_eq_true, Bool.or_eq_true, Bool.and_eq_false_iff, Bool.or_eq_false_iff, Bool.not_eq_true', Bool.not_eq_false', Bool.not_eq_true, Bool.not_eq_false, Bool.true_eq_false, Bool.false_eq_true] at h); (try simp only [foldN, foldR, foldL, Int.toNat_natCast] at h)
        refine awp_skip ?_
        refine awp_seq ?_
        refine awp_block ?_
        refine awp_seq ?_
        refine awp_region rfl (.n (fun _ => op_move (.plain rfl)) (.n (fun _ => op_assign (.plain rfl)) (.nil _))) ?_
        refine awp_seq ?_
        refine awp_region rfl (.n (fun _ => op_fieldAddr Tryd.underlying24 rfl rfl Tryd.sizeOf22 (.plain rfl)) (.n (fun _ => op_load Tryd.isAgg22 (.plain rfl)) (.n (fun _ => op_len (s := 0) Tryd.underlying22 (.plain rfl)) (.n (fun _ => op_move (.plain rfl)) (.nil _))))) ?_
        refine awp_block ?_
        refine awp_loop (σ := Nat) (fun (r : Nat) => r ≤ R.length ∧ firstI (wouldF L R w l) r = none) (fun (r : Nat) => ⟨[(1, .pv (.ints w)), (2, .pv (.rd [.seq (ByteArray × Int × List Int × Unit) (ByteArray.empty, 0, [], ()) (fun p => [.str p.1, .i p.2.1, .ints p.2.2.1]) L, .seq (ByteArray × Int × List Int × Unit) (ByteArray.empty, 0, [], ()) (fun p => [.str p.1, .i p.2.1, .ints p.2.2.1]) R])), (11, .int (l : Nat)), (39, .int (L.length : Nat)), (40, .int (l : Nat)), (45, .int (R.length : Nat)), (46, .int (r : Nat))], []⟩) (fun (r : Nat) => R.length - r) 0 ?_ (Ent.kept ⟨rfl, rfl, rfl, rfl, rfl, rfl, rfl, trivial⟩ trivial) ?_
        · exact ⟨Nat.zero_le _, rfl⟩
        rintro r hp
        try dsimp only at hp
        obtain ⟨hkr, hE4⟩ := hp
        refine awp_seq ?_
        refine awp_region rfl (.n (fun _ => op_lss (.plain rfl) (.plain rfl)) (.nil _)) ?_
        refine awp_seq ?_
        refine awp_cond rfl (fun h => ?_) (fun h => ?_)
        · (try simp only [decide_eq_true_eq, decide_eq_false_iff_not, Bool.and_eq_true, Bool.or_eq_true, Bool.and_eq_false_iff, Bool.or_eq_false_iff, Bool.not_eq_true', Bool.not_eq_false', Bool.not_eq_true, Bool.not_eq_false, Bool.true_eq_false, Bool.false_eq_true] at h); (try simp only [foldN, foldR, foldL, Int.toNat_natCast] at h)
          refine awp_skip ?_
          refine awp_seq ?_
          refine awp_block ?_
          refine awp_seq ?_
          refine awp_region rfl (.n (fun _ => op_move (.plain rfl)) (.n (fun _ => op_assign (.plain rfl)) (.nil _))) ?_
          refine awp_seq ?_
          refine awp_region rfl (.n (fun _ => op_load_agg Tryd.isAgg24 Tryd.sizeOf24 (.plain rfl) (Nat.le_of_ble_eq_true rfl)) (.n (fun _ => op_move (.plain rfl)) (.n (fun _ => op_move (.plain rfl)) (.n (fun _ => op_move (.plain rfl)) (.n (fun _ => op_call4 Tryd.call36 (.plain rfl) (.plain rfl) (.plain rfl) (.plain rfl) (would_fc L R w l r _ _ ?_ ?_ ?_ ?_ hW)) (.nil _)))))) ?_
          · (try simp only [foldN, foldR, foldL, Int.toNat_natCast])
            (try have hin := hW.ins l (by omega))
            (try have hwl := hW.len)
            try (first | rfl | omega)
          · (try simp only [foldN, foldR, foldL, Int.toNat_natCast])
            (try have hin := hW.ins l (by omega))
            (try have hwl := hW.len)
            try (first | rfl | omega)
          · (try simp only [foldN, foldR, foldL, Int.toNat_natCast])
            (try have hin := hW.ins l (by omega))
            (try have hwl := hW.len)
            omega
          · (try simp only [foldN, foldR, foldL, Int.toNat_natCast])
            (try have hin := hW.ins l (by omega))
            (try have hwl := hW.len)
            omega
          refine awp_cond rfl (fun h => ?_) (fun h => ?_)
          · (try simp only [decide_eq_true_eq, decide_eq_false_iff_not, Bool.and_eq_true, Bool.or_eq_true, Bool.and_eq_false_iff, Bool.or_eq_false_iff, Bool.not_eq_true', Bool.not_eq_false', Bool.not_eq_true, Bool.not_eq_false, Bool.true_eq_false, Bool.false_eq_true] at h); (try simp only [foldN, foldR, foldL, Int.toNat_natCast] at h)
            refine awp_seq ?_
            refine awp_region rfl (.n (fun _ => op_move (.plain rfl)) (.n (fun _ => op_move (.plain rfl)) (.n (fun _ => op_assign (.plain rfl)) (.n (fun _ => op_assign (.plain rfl)) (.n (fun _ => op_assign (.plain rfl)) (.n (fun _ => op_assign (.plain rfl)) (.nil _))))))) ?_
            refine awp_ret ?_
            refine retQ.ret ?_
            refine ret4 rfl rfl rfl rfl rfl rfl rfl rfl rfl ?_
            exact congrArg PV.tup (stT_pair h1 hE1 (by omega) (by omega) hE2 hE4 h)
          · (try simp only [decide_eq_true_eq, decide_eq_false_iff_not, Bool.and_eq_true, Bool.or_eq_true, Bool.and_eq_false_iff, Bool.or_eq_false_iff, Bool.not_eq_true', Bool.not_eq_false', Bool.not_eq_true, Bool.not_eq_false, Bool.true_eq_false, Bool.false_eq_true] at h); (try simp only [foldN, foldR, foldL, Int.toNat_natCast] at h)
            refine awp_skip ?_
            refine awp_region rfl (.n (fun _ => op_add (.plain rfl) (.plain rfl) ?_) (.n (fun _ => op_move (.plain rfl)) (.nil _))) ?_
            · (try simp only [foldN, foldR, foldL, Int.toNat_natCast])
              (try have hin := hW.ins l (by omega))
              (try have hwl := hW.len)
              unfold InR; omega
            exact ⟨r + 1, ⟨by omega, firstI_succ hE4 h⟩, by dsimp only; omega, (Ent.kept ⟨rfl, rfl, rfl, rfl, rfl, rfl, rfl, trivial⟩ trivial)⟩
        · (try simp only [decide_eq_true_eq, decide_eq_false_iff_not, Bool.and_eq_true, Bool.or_eq_true, Bool.and_eq_false_iff, Bool.or_eq_false_iff, Bool.not_eq_true', Bool.not_eq_false', Bool.not_eq_true, Bool.not_eq_false, Bool.true_eq_false, Bool.false_eq_true] at h); (try simp only [foldN, foldR, foldL, Int.toNat_natCast] at h)
          have h4 := rowB_no ((show r = R.length by omega) ▸ hE4)
          clear h
          refine awp_exit ?_
          refine awp_region rfl (.n (fun _ => op_add (.plain rfl) (.plain rfl) ?_) (.n (fun _ => op_move (.plain rfl)) (.nil _))) ?_
          · (try simp only [foldN, foldR, foldL, Int.toNat_natCast])
            (try have hin := hW.ins l (by omega))
            (try have hwl := hW.len)
            unfold InR; omega
          exact ⟨l + 1, ⟨by omega, firstI_succ hE2 h4⟩, by dsimp only; omega, (Ent.kept ⟨rfl, rfl, rfl, rfl, trivial⟩ trivial)⟩
      · (try simp only [decide_eq_true_eq, decide_eq_false_iff_not, Bool.and_eq_true, Bool.or_eq_true, Bool.and_eq_false_iff, Bool.or_eq_false_iff, Bool.not_eq_true', Bool.not_eq_false', Bool.not_eq_true, Bool.not_eq_false, Bool.true_eq_false, Bool.false_eq_true] at h); (try simp only [foldN, foldR, foldL, Int.toNat_natCast] at h)
        have hE3 : firstI (rowB L R w) L.length = none := (show l = L.length by omega) ▸ hE2
        clear h
        refine awp_exit ?_
        refine awp_seq ?_
        refine awp_region rfl (.n (fun _ => op_assign (.plain rfl)) (.n (fun _ => op_assign (.plain rfl)) (.n (fun _ => op_assign (.plain rfl)) (.n (fun _ => op_assign (.plain rfl)) (.nil _))))) ?_
        refine awp_ret ?_
        refine retQ.ret ?_
        refine ret4 rfl rfl rfl rfl rfl rfl rfl rfl rfl ?_
        exact congrArg PV.tup (stT_ok h1 hE1 hE3)

set_option maxRecDepth 1000000 in
set_option maxHeartbeats 1000000 in
theorem StableR_fc (L R : List Ag) (w : List Int) : FC Tryd.prog 12 [.agg [.seq (ByteArray × Int × List Int × Unit) (ByteArray.empty, 0, [], ()) (fun p => [.str p.1, .i p.2.1, .ints p.2.2.1]) L, .seq (ByteArray × Int × List Int × Unit) (ByteArray.empty, 0, [], ()) (fun p => [.str p.1, .i p.2.1, .ints p.2.2.1]) R], .ints w] (.tup (stT L R w)) := by
  refine FC.intro Tryd.func12 rfl (Nat.le_of_ble_eq_true rfl) fun hfit => ?_
  have fit0 := hfit _ (.head _)
  obtain ⟨fitl1, fitr1⟩ := (hfit _ (.tail _ (.head _))).ints
  have hfl : L.length ≤ 281474976710656 := by cases fit0 with | agg _ h => exact (h 0 (by simp)).len
  have hfr : R.length ≤ 281474976710656 := by cases fit0 with | agg _ h => exact (h 1 (by simp)).len
  refine awp_seq ?_
  refine awp_region rfl (.n (fun _ => op_box (.plain rfl) (by simp)) (.n (fun _ => op_assign (.plain rfl)) (.n (fun _ => op_assign (.plain rfl)) (.n (fun _ => op_assign (.plain rfl)) (.n (fun _ => op_assign (.plain rfl)) (.nil _)))))) ?_
  refine awp_seq ?_
  refine awp_region rfl (.n (fun _ => op_load_agg Tryd.isAgg24 Tryd.sizeOf24 (.plain rfl) (Nat.le_of_ble_eq_true rfl)) (.n (fun _ => op_move (.plain rfl)) (.n (fun _ => op_call2 Tryd.call37 (.plain rfl) (.plain rfl) (WithMay_fc _ _ _)) (.n (fun _ => op_assign (.plain rfl)) (.nil _))))) ?_
  refine awp_seq ?_
  refine awp_seq ?_
  refine awp_region rfl (.n (fun _ => op_move (.plain rfl)) (.n (fun _ => op_neq (.plain rfl) (.plain rfl)) (.nil _))) ?_
  refine awp_cond rfl (fun h => ?_) (fun h => ?_)
  · (try simp only [decide_eq_true_eq, decide_eq_false_iff_not, Bool.and_eq_true, Bool.or_eq_true, Bool.and_eq_false_iff, Bool.or_eq_false_iff, Bool.not_eq_true', Bool.not_eq_false', Bool.not_eq_true, Bool.not_eq_false, Bool.true_eq_false, Bool.false_eq_true] at h); (try simp only [foldN, foldR, foldL, Int.toNat_natCast] at h)
    refine awp_seq ?_
    refine awp_region rfl (.n (fun _ => op_move (.plain rfl)) (.n (fun _ => op_assign (.plain rfl)) (.n (fun _ => op_assign (.plain rfl)) (.n (fun _ => op_assign (.plain rfl)) (.n (fun _ => op_assign (.plain rfl)) (.nil _)))))) ?_
    refine awp_ret ?_
    refine retQ.ret ?_
    refine ret4 rfl rfl rfl rfl rfl rfl rfl rfl rfl ?_
    exact congrArg PV.tup (stT_e h)
  · (try simp only [decide_eq_true_eq, decide_eq_false_iff_not, Bool.and_eq_true, Bool.or_eq_true, Bool.and_eq_false_iff, Bool.or_eq_false_iff, Bool.not_eq_true', Bool.not_eq_false', Bool.not_eq_true, Bool.not_eq_false, Bool.true_eq_false, Bool.false_eq_true] at h); (try simp only [foldN, foldR, foldL, Int.toNat_natCast] at h)
    have h1 : withE L R w = 0 := by omega
    clear h
    have hW := wok h1
    have hwl := hW.len
    refine awp_skip ?_
    refine awp_seq ?_
    refine awp_seq ?_
    refine awp_region rfl (.n (fun _ => op_assign (.plain rfl)) (.nil _)) ?_
    refine awp_block ?_
    refine awp_loop (σ := Nat) (fun (l : Nat) => l ≤ w.length ∧ firstI (badL L R w) l = none) (fun (l : Nat) => ⟨[(1, .pv (.ints w)), (2, .pv (.rd [.seq (ByteArray × Int × List Int × Unit) (ByteArray.empty, 0, [], ()) (fun p => [.str p.1, .i p.2.1, .ints p.2.2.1]) L, .seq (ByteArray × Int × List Int × Unit) (ByteArray.empty, 0, [], ()) (fun p => [.str p.1, .i p.2.1, .ints p.2.2.1]) R])), (9, .int (l : Nat))], []⟩) (fun (l : Nat) => w.length - l) 0 ?_ (Ent.kept ⟨rfl, rfl, rfl, trivial⟩ trivial) ?_
    · exact ⟨Nat.zero_le _, rfl⟩
    rintro l hp
    try dsimp only at hp
    obtain ⟨hk, hE⟩ := hp
    refine awp_seq ?_
    refine awp_seq ?_
    refine awp_region rfl (.n (fun _ => op_move (.plain rfl)) (.n (fun _ => op_move (.plain rfl)) (.n (fun _ => op_len (s := 0) Tryd.underlying25 (.plain rfl)) (.n (fun _ => op_lss (.plain rfl) (.plain rfl)) (.nil _))))) ?_
    refine awp_cond rfl (fun h => ?_) (fun h => ?_)
    · (try simp only [decide_eq_true_eq, decide_eq_false_iff_not, Bool.and_eq_true, Bool.or_eq_true, Bool.and_eq_false_iff, Bool.or_eq_false_iff, Bool.not_eq_true', Bool.not_eq_false', Bool.not_eq_true, Bool.not_eq_false, Bool.true_eq_false, Bool.false_eq_true] at h); (try simp only [foldN, foldR, foldL, Int.toNat_natCast] at h)
      refine awp_skip ?_
      refine awp_seq ?_
      refine awp_block ?_
      refine awp_seq ?_
      refine awp_region rfl (.n (fun _ => op_move (.plain rfl)) (.n (fun _ => op_move (.plain rfl)) (.n (fun _ => op_indexAddrN Tryd.underlying25 Tryd.sizeOf3 (.plain rfl) (.plain rfl) (fun _ => rfl) ?_) (.n (fun _ => op_load Tryd.isAgg3 (.plain rfl)) (.n (fun _ => op_geq (.plain rfl) (.plain rfl)) (.nil _)))))) ?_
      · (try simp only [foldN, foldR, foldL, Int.toNat_natCast])
        (try have hin := hW.ins l (by omega))
        (try have hwl := hW.len)
        omega
      refine awp_cond rfl (fun h => ?_) (fun h => ?_)
      · (try simp only [decide_eq_true_eq, decide_eq_false_iff_not, Bool.and_eq_true, Bool.or_eq_true, Bool.and_eq_false_iff, Bool.or_eq_false_iff, Bool.not_eq_true', Bool.not_eq_false', Bool.not_eq_true, Bool.not_eq_false, Bool.true_eq_false, Bool.false_eq_true] at h); (try simp only [foldN, foldR, foldL, Int.toNat_natCast] at h)
        have hpos := h
        clear h
        refine awp_seq ?_
        refine awp_region_draw mixed rfl (.n (fun _ => op_load_agg Tryd.isAgg24 Tryd.sizeOf24 (.plain rfl) (Nat.le_of_ble_eq_true rfl)) (.n (fun _ => op_move (.plain rfl)) (.n (fun _ => op_move (.plain rfl)) (.n (fun _ => op_move (.plain rfl)) (.n (fun _ => op_indexAddrN Tryd.underlying25 Tryd.sizeOf3 (.plain rfl) (.plain rfl) (fun _ => rfl) ?_) (.n (fun _ => op_load Tryd.isAgg3 (.plain rfl)) (.n (fun _ => op_call3 Tryd.call38 (.plain rfl) (.plain rfl) (.plain rfl) (Likes_fc L R l (w.getD l 0).toNat _ _ ?_ ?_ ?_ ?_)) (.n (fun _ => op_assign (.plain rfl)) (.nil _))))))))) ?d10 ?_
        · (try simp only [foldN, foldR, foldL, Int.toNat_natCast])
          (try have hin := hW.ins l (by omega))
          (try have hwl := hW.len)
          omega
        · (try simp only [foldN, foldR, foldL, Int.toNat_natCast])
          (try have hin := hW.ins l (by omega))
          (try have hwl := hW.len)
          try (first | rfl | omega)
        · (try simp only [foldN, foldR, foldL, Int.toNat_natCast])
          (try have hin := hW.ins l (by omega))
          (try have hwl := hW.len)
          try (first | rfl | omega)
        · (try simp only [foldN, foldR, foldL, Int.toNat_natCast])
          (try have hin := hW.ins l (by omega))
          (try have hwl := hW.len)
          try omega
        · (try simp only [foldN, foldR, foldL, Int.toNat_natCast])
          (try have hin := hW.ins l (by omega))
          (try have hwl := hW.len)
          try omega
        · kernel_rfl
        refine awp_seq ?_
        refine awp_region rfl (.n (fun _ => op_move (.plain rfl)) (.n (fun _ => op_not (.plain rfl)) (.nil _))) ?_
        refine awp_cond rfl (fun h => ?_) (fun h => ?_)
        · (try simp only [decide_eq_true_eq, decide_eq_false_iff_not, Bool.and_eq_true, Bool.or_eq_true, Bool.and_eq_false_iff, Bool.or_eq_false_iff, Bool.not_eq_true', Bool.not_eq_false', Bool.not_eq_true, Bool.not_eq_false, Bool.true_eq_false, Bool.false_eq_true] at h); (try simp only [foldN, foldR, foldL, Int.toNat_natCast] at h)
          have h3 : badL L R w l = true := by unfold badL; rw [h, decide_eq_true hpos]; rfl
          clear h
          refine awp_seq ?_
          refine awp_region rfl (.n (fun _ => op_move (.plain rfl)) (.n (fun _ => op_assign (.plain rfl)) (.n (fun _ => op_assign (.plain rfl)) (.n (fun _ => op_assign (.plain rfl)) (.n (fun _ => op_assign (.plain rfl)) (.nil _)))))) ?_
          refine awp_ret ?_
          refine retQ.ret ?_
          refine ret4 rfl rfl rfl rfl rfl rfl rfl rfl rfl ?_
          exact congrArg PV.tup (stT_bad h1 hE (by omega) h3)
        · (try simp only [decide_eq_true_eq, decide_eq_false_iff_not, Bool.and_eq_true, Bool.or_eq_true, Bool.and_eq_false_iff, Bool.or_eq_false_iff, Bool.not_eq_true', Bool.not_eq_false', Bool.not_eq_true, Bool.not_eq_false, Bool.true_eq_false, Bool.false_eq_true] at h); (try simp only [foldN, foldR, foldL, Int.toNat_natCast] at h)
          have h3 : badL L R w l = false := by unfold badL; rw [h]; simp
          clear h
          refine awp_skip ?_
          refine awp_region rfl (.n (fun _ => op_move (.plain rfl)) (.n (fun _ => op_add (.plain rfl) (.plain rfl) ?_) (.n (fun _ => op_assign (.plain rfl)) (.nil _)))) ?_
          · (try simp only [foldN, foldR, foldL, Int.toNat_natCast])
            (try have hin := hW.ins l (by omega))
            (try have hwl := hW.len)
            unfold InR; omega
          exact ⟨l + 1, ⟨by omega, firstI_succ hE h3⟩, by dsimp only; omega, (Ent.kept ⟨rfl, rfl, rfl, trivial⟩ trivial)⟩
      · (try simp only [decide_eq_true_eq, decide_eq_false_iff_not, Bool.and_eq_true, Bool.or_eq_true, Bool.and_eq_false_iff, Bool.or_eq_false_iff, Bool.not_eq_true', Bool.not_eq_false', Bool.not_eq_true, Bool.not_eq_false, Bool.true_eq_false, Bool.false_eq_true] at h); (try simp only [foldN, foldR, foldL, Int.toNat_natCast] at h)
        have h3 : badL L R w l = false := by unfold badL; rw [decide_eq_false h]; rfl
        clear h
        refine awp_skip ?_
        refine awp_region rfl (.n (fun _ => op_move (.plain rfl)) (.n (fun _ => op_add (.plain rfl) (.plain rfl) ?_) (.n (fun _ => op_assign (.plain rfl)) (.nil _)))) ?_
        · (try simp only [foldN, foldR, foldL, Int.toNat_natCast])
          (try have hin := hW.ins l (by omega))
          (try have hwl := hW.len)
          unfold InR; omega
        exact ⟨l + 1, ⟨by omega, firstI_succ hE h3⟩, by dsimp only; omega, (Ent.kept ⟨rfl, rfl, rfl, trivial⟩ trivial)⟩
    · (try simp only [decide_eq_true_eq, decide_eq_false_iff_not, Bool.and_eq_true, Bool.or_eq_true, Bool.and_eq_false_iff, Bool.or_eq_false_iff, Bool.not_eq_true', Bool.not_eq_false', Bool.not_eq_true, Bool.not_eq_false, Bool.true_eq_false, Bool.false_eq_true] at h); (try simp only [foldN, foldR, foldL, Int.toNat_natCast] at h)
      have hE1 : firstI (badL L R w) w.length = none := (show l = w.length by omega) ▸ hE
      clear h
      have hFo := fond hW hE1
      refine awp_exit ?_
      refine awp_seq ?_
      refine awp_seq ?_
      refine awp_region rfl (.n (fun _ => op_assign (.plain rfl)) (.nil _)) ?_
      refine awp_block ?_
      refine awp_loop (σ := Nat) (fun (l : Nat) => l ≤ L.length ∧ firstI (rowB L R w) l = none) (fun (l : Nat) => ⟨[(1, .pv (.ints w)), (2, .pv (.rd [.seq (ByteArray × Int × List Int × Unit) (ByteArray.empty, 0, [], ()) (fun p => [.str p.1, .i p.2.1, .ints p.2.2.1]) L, .seq (ByteArray × Int × List Int × Unit) (ByteArray.empty, 0, [], ()) (fun p => [.str p.1, .i p.2.1, .ints p.2.2.1]) R])), (11, .int (l : Nat))], []⟩) (fun (l : Nat) => L.length - l) 0 ?_ (Ent.kept ⟨rfl, rfl, rfl, trivial⟩ trivial) ?_
      · exact ⟨Nat.zero_le _, rfl⟩
      rintro l hp
      try dsimp only at hp
      obtain ⟨hkl, hE2⟩ := hp
      refine awp_seq ?_
      refine awp_seq ?_
      refine awp_region rfl (.n (fun _ => op_move (.plain rfl)) (.n (fun _ => op_move (.plain rfl)) (.n (fun _ => op_len (s := 0) Tryd.underlying25 (.plain rfl)) (.n (fun _ => op_lss (.plain rfl) (.plain rfl)) (.nil _))))) ?_
      refine awp_cond rfl (fun h => ?_) (fun h => ?_)
      · (try simp only [decide_eq_true_eq, decide_eq_false_iff_not, Bool.and_eq_true, Bool.or_eq_true, Bool.and_eq_false_iff, Bool.or_eq_false_iff, Bool.not_eq_true', Bool.not_eq_false', Bool.not_eq_true, Bool.not_eq_false, Bool.true_eq_false, Bool.false_eq_true] at h); (try simp only [foldN, foldR, foldL, Int.toNat_natCast] at h)
        refine awp_skip ?_
        refine awp_seq ?_
        refine awp_block ?_
        refine awp_seq ?_
        refine awp_region rfl (.n (fun _ => op_assign (.plain rfl)) (.nil _)) ?_
        refine awp_block ?_
        refine awp_loop (σ := Nat) (fun (r : Nat) => r ≤ R.length ∧ firstI (wouldF L R w l) r = none) (fun (r : Nat) => ⟨[(1, .pv (.ints w)), (2, .pv (.rd [.seq (ByteArray × Int × List Int × Unit) (ByteArray.empty, 0, [], ()) (fun p => [.str p.1, .i p.2.1, .ints p.2.2.1]) L, .seq (ByteArray × Int × List Int × Unit) (ByteArray.empty, 0, [], ()) (fun p => [.str p.1, .i p.2.1, .ints p.2.2.1]) R])), (11, .int (l : Nat)), (12, .int (r : Nat))], []⟩) (fun (r : Nat) => R.length - r) 0 ?_ (Ent.kept ⟨rfl, rfl, rfl, rfl, trivial⟩ trivial) ?_
        · exact ⟨Nat.zero_le _, rfl⟩
        rintro r hp
        try dsimp only at hp
        obtain ⟨hkr, hE4⟩ := hp
        refine awp_seq ?_
        refine awp_seq ?_
        refine awp_region rfl (.n (fun _ => op_move (.plain rfl)) (.n (fun _ => op_fieldAddr Tryd.underlying24 rfl rfl Tryd.sizeOf22 (.plain rfl)) (.n (fun _ => op_load Tryd.isAgg22 (.plain rfl)) (.n (fun _ => op_len (s := 0) Tryd.underlying22 (.plain rfl)) (.n (fun _ => op_lss (.plain rfl) (.plain rfl)) (.nil _)))))) ?_
        refine awp_cond rfl (fun h => ?_) (fun h => ?_)
        · (try simp only [decide_eq_true_eq, decide_eq_false_iff_not, Bool.and_eq_true, Bool.or_eq_true, Bool.and_eq_false_iff, Bool.or_eq_false_iff, Bool.not_eq_true', Bool.not_eq_false', Bool.not_eq_true, Bool.not_eq_false, Bool.true_eq_false, Bool.false_eq_true] at h); (try simp only [foldN, foldR, foldL, Int.toNat_natCast] at h)
          refine awp_skip ?_
          refine awp_seq ?_
          refine awp_block ?_
          refine awp_seq ?_
          refine awp_region rfl (.n (fun _ => op_load_agg Tryd.isAgg24 Tryd.sizeOf24 (.plain rfl) (Nat.le_of_ble_eq_true rfl)) (.n (fun _ => op_move (.plain rfl)) (.n (fun _ => op_move (.plain rfl)) (.n (fun _ => op_move (.plain rfl)) (.n (fun _ => op_call4 Tryd.call39 (.plain rfl) (.plain rfl) (.plain rfl) (.plain rfl) (Would_fc L R w l r _ _ ?_ ?_ ?_ ?_ hW hFo ?_)) (.n (fun _ => op_assign (.plain rfl)) (.nil _))))))) ?_
          · (try simp only [foldN, foldR, foldL, Int.toNat_natCast])
            (try have hin := hW.ins l (by omega))
            (try have hwl := hW.len)
            try (first | rfl | omega)
          · (try simp only [foldN, foldR, foldL, Int.toNat_natCast])
            (try have hin := hW.ins l (by omega))
            (try have hwl := hW.len)
            try (first | rfl | omega)
          · (try simp only [foldN, foldR, foldL, Int.toNat_natCast])
            (try have hin := hW.ins l (by omega))
            (try have hwl := hW.len)
            omega
          · (try simp only [foldN, foldR, foldL, Int.toNat_natCast])
            (try have hin := hW.ins l (by omega))
            (try have hwl := hW.len)
            omega
          · (try simp only [foldN, foldR, foldL, Int.toNat_natCast])
            (try have hin := hW.ins l (by omega))
            (try have hwl := hW.len)
            omega
          refine awp_seq ?_
          refine awp_region rfl (.n (fun _ => op_move (.plain rfl)) (.nil _)) ?_
          refine awp_cond rfl (fun h => ?_) (fun h => ?_)
          · (try simp only [decide_eq_true_eq, decide_eq_false_iff_not, Bool.and_eq_true, Bool.or_eq_true, Bool.and_eq_false_iff, Bool.or_eq_false_iff, Bool.not_eq_true', Bool.not_eq_false', Bool.not_eq_true, Bool.not_eq_false, Bool.true_eq_false, Bool.false_eq_true] at h); (try simp only [foldN, foldR, foldL, Int.toNat_natCast] at h)
            refine awp_seq ?_
            refine awp_region rfl (.n (fun _ => op_move (.plain rfl)) (.n (fun _ => op_move (.plain rfl)) (.n (fun _ => op_assign (.plain rfl)) (.n (fun _ => op_assign (.plain rfl)) (.n (fun _ => op_assign (.plain rfl)) (.n (fun _ => op_assign (.plain rfl)) (.nil _))))))) ?_
            refine awp_ret ?_
            refine retQ.ret ?_
            refine ret4 rfl rfl rfl rfl rfl rfl rfl rfl rfl ?_
            exact congrArg PV.tup (stT_pair h1 hE1 (by omega) (by omega) hE2 hE4 h)
          · (try simp only [decide_eq_true_eq, decide_eq_false_iff_not, Bool.and_eq_true, Bool.or_eq_true, Bool.and_eq_false_iff, Bool.or_eq_false_iff, Bool.not_eq_true', Bool.not_eq_false', Bool.not_eq_true, Bool.not_eq_false, Bool.true_eq_false, Bool.false_eq_true] at h); (try simp only [foldN, foldR, foldL, Int.toNat_natCast] at h)
            refine awp_skip ?_
            refine awp_region rfl (.n (fun _ => op_move (.plain rfl)) (.n (fun _ => op_add (.plain rfl) (.plain rfl) ?_) (.n (fun _ => op_assign (.plain rfl)) (.nil _)))) ?_
            · (try simp only [foldN, foldR, foldL, Int.toNat_natCast])
              (try have hin := hW.ins l (by omega))
              (try have hwl := hW.len)
              unfold InR; omega
            exact ⟨r + 1, ⟨by omega, firstI_succ hE4 h⟩, by dsimp only; omega, (Ent.kept ⟨rfl, rfl, rfl, rfl, trivial⟩ trivial)⟩
        · (try simp only [decide_eq_true_eq, decide_eq_false_iff_not, Bool.and_eq_true, Bool.or_eq_true, Bool.and_eq_false_iff, Bool.or_eq_false_iff, Bool.not_eq_true', Bool.not_eq_false', Bool.not_eq_true, Bool.not_eq_false, Bool.true_eq_false, Bool.false_eq_true] at h); (try simp only [foldN, foldR, foldL, Int.toNat_natCast] at h)
          have h4 := rowB_no ((show r = R.length by omega) ▸ hE4)
          clear h
          refine awp_exit ?_
          refine awp_region rfl (.n (fun _ => op_move (.plain rfl)) (.n (fun _ => op_add (.plain rfl) (.plain rfl) ?_) (.n (fun _ => op_assign (.plain rfl)) (.nil _)))) ?_
          · (try simp only [foldN, foldR, foldL, Int.toNat_natCast])
            (try have hin := hW.ins l (by omega))
            (try have hwl := hW.len)
            unfold InR; omega
          exact ⟨l + 1, ⟨by omega, firstI_succ hE2 h4⟩, by dsimp only; omega, (Ent.kept ⟨rfl, rfl, rfl, trivial⟩ trivial)⟩
      · (try simp only [decide_eq_true_eq, decide_eq_false_iff_not, Bool.and_eq_true, Bool.or_eq_true, Bool.and_eq_false_iff, Bool.or_eq_false_iff, Bool.not_eq_true', Bool.not_eq_false', Bool.not_eq_true, Bool.not_eq_false, Bool.true_eq_false, Bool.false_eq_true] at h); (try simp only [foldN, foldR, foldL, Int.toNat_natCast] at h)
        have hE3 : firstI (rowB L R w) L.length = none := (show l = L.length by omega) ▸ hE2
        clear h
        refine awp_exit ?_
        refine awp_seq ?_
        refine awp_region rfl (.n (fun _ => op_assign (.plain rfl)) (.n (fun _ => op_assign (.plain rfl)) (.n (fun _ => op_assign (.plain rfl)) (.n (fun _ => op_assign (.plain rfl)) (.nil _))))) ?_
        refine awp_ret ?_
        refine retQ.ret ?_
        refine ret4 rfl rfl rfl rfl rfl rfl rfl rfl rfl ?_
        exact congrArg PV.tup (stT_ok h1 hE1 hE3)

set_option maxRecDepth 1000000 in
set_option maxHeartbeats 1000000 in
theorem level_fc (nm : ByteArray) (rm : Int) (lk : List Int) (x : Int) : FC Tryd.prog 71 [.agg [.str nm, .i rm, .ints lk], .i x] (.i (levF lk x)) := by
  refine FC.intro Tryd.func71 rfl (Nat.le_of_ble_eq_true rfl) fun hfit => ?_
  have fit0 := hfit _ (.head _)
  have fit1 : -9223372036854775808 ≤ (x : Int) ∧ (x : Int) ≤ 9223372036854775807 := (hfit _ (.tail _ (.head _))).int64
  have hlk : lk.length ≤ 281474976710656 := by cases fit0 with | agg _ h => exact (h 2 (by simp)).len
  refine awp_seq ?_
  refine awp_region rfl (.n (fun _ => op_box (.plain rfl) (by simp)) (.n (fun _ => op_assign (.plain rfl)) (.nil _))) ?_
  refine awp_seq ?_
  refine awp_region rfl (.n (fun _ => op_load_agg Tryd.isAgg48 Tryd.sizeOf48 (.plain rfl) (Nat.le_of_ble_eq_true rfl)) (.n (fun _ => op_move (.plain rfl)) (.n (fun _ => op_call2 Tryd.call49 (.plain rfl) (.plain rfl) (Rank_fc _ _ _ _)) (.n (fun _ => op_assign (.plain rfl)) (.nil _))))) ?_
  refine awp_block ?_
  refine awp_seq ?_
  refine awp_region rfl (.n (fun _ => op_move (.plain rfl)) (.n (fun _ => op_lss (.plain rfl) (.plain rfl)) (.n (fun _ => op_assign (.plain rfl)) (.nil _)))) ?_
  refine awp_cond rfl (fun h => ?_) (fun h => ?_)
  · (try simp only [decide_eq_true_eq, decide_eq_false_iff_not, Bool.and_eq_true, Bool.or_eq_true, Bool.and_eq_false_iff, Bool.or_eq_false_iff, Bool.not_eq_true', Bool.not_eq_false', Bool.not_eq_true, Bool.not_eq_false, Bool.true_eq_false, Bool.false_eq_true] at h); (try simp only [foldN, foldR, foldL, Int.toNat_natCast] at h)
    refine awp_seq ?_
    refine awp_region rfl (.n (fun _ => op_fieldAddr Tryd.underlying48 rfl rfl Tryd.sizeOf25 (.plain rfl)) (.n (fun _ => op_load Tryd.isAgg25 (.plain rfl)) (.n (fun _ => op_len (s := 0) Tryd.underlying25 (.plain rfl)) (.n (fun _ => op_assign (.plain rfl)) (.nil _))))) ?_
    refine awp_ret ?_
    refine retQ.ret ?_
    refine ret1 rfl rfl rfl ?_
    unfold levF
    rw [if_pos h]
  · (try simp only [decide_eq_true_eq, decide_eq_false_iff_not, Bool.and_eq_true, Bool.or_eq_true, Bool.and_eq_false_iff, Bool.or_eq_false_iff, Bool.not_eq_true', Bool.not_eq_false', Bool.not_eq_true, Bool.not_eq_false, Bool.true_eq_false, Bool.false_eq_true] at h); (try simp only [foldN, foldR, foldL, Int.toNat_natCast] at h)
    refine awp_seq ?_
    refine awp_region rfl (.n (fun _ => op_move (.plain rfl)) (.n (fun _ => op_lss (.plain rfl) (.plain rfl)) (.n (fun _ => op_assign (.plain rfl)) (.nil _)))) ?_
    refine awp_cond rfl (fun h => ?_) (fun h => ?_)
    · (try simp only [decide_eq_true_eq, decide_eq_false_iff_not, Bool.and_eq_true, Bool.or_eq_true, Bool.and_eq_false_iff, Bool.or_eq_false_iff, Bool.not_eq_true', Bool.not_eq_false', Bool.not_eq_true, Bool.not_eq_false, Bool.true_eq_false, Bool.false_eq_true] at h); (try simp only [foldN, foldR, foldL, Int.toNat_natCast] at h)
      refine awp_seq ?_
      refine awp_region rfl (.n (fun _ => op_fieldAddr Tryd.underlying48 rfl rfl Tryd.sizeOf25 (.plain rfl)) (.n (fun _ => op_load Tryd.isAgg25 (.plain rfl)) (.n (fun _ => op_len (s := 0) Tryd.underlying25 (.plain rfl)) (.n (fun _ => op_add (.plain rfl) (.plain rfl) ?_) (.n (fun _ => op_assign (.plain rfl)) (.nil _)))))) ?_
      · (try simp only [foldN, foldR, foldL, Int.toNat_natCast])
        unfold InR; omega
      refine awp_ret ?_
      refine retQ.ret ?_
      refine ret1 rfl rfl rfl ?_
      unfold levF
      rw [if_neg (by omega), if_pos h]
    · (try simp only [decide_eq_true_eq, decide_eq_false_iff_not, Bool.and_eq_true, Bool.or_eq_true, Bool.and_eq_false_iff, Bool.or_eq_false_iff, Bool.not_eq_true', Bool.not_eq_false', Bool.not_eq_true, Bool.not_eq_false, Bool.true_eq_false, Bool.false_eq_true] at h); (try simp only [foldN, foldR, foldL, Int.toNat_natCast] at h)
      refine awp_seq ?_
      refine awp_region rfl (.n (fun _ => op_move (.plain rfl)) (.n (fun _ => op_assign (.plain rfl)) (.nil _))) ?_
      refine awp_ret ?_
      refine retQ.ret ?_
      refine ret1 rfl rfl rfl ?_
      unfold levF
      rw [if_neg (by omega), if_neg h]

set_option maxRecDepth 1000000 in
set_option maxHeartbeats 1000000 in
theorem levelR_fc (nm : ByteArray) (rm : Int) (lk : List Int) (x : Int) : FC Tryd.prog 43 [.agg [.str nm, .i rm, .ints lk], .i x] (.i (levF lk x)) := by
  refine FC.intro Tryd.func43 rfl (Nat.le_of_ble_eq_true rfl) fun hfit => ?_
  have fit0 := hfit _ (.head _)
  have fit1 : -9223372036854775808 ≤ (x : Int) ∧ (x : Int) ≤ 9223372036854775807 := (hfit _ (.tail _ (.head _))).int64
  have hlk : lk.length ≤ 281474976710656 := by cases fit0 with | agg _ h => exact (h 2 (by simp)).len
  refine awp_seq ?_
  refine awp_region rfl (.n (fun _ => op_box (.plain rfl) (by simp)) (.n (fun _ => op_assign (.plain rfl)) (.nil _))) ?_
  refine awp_seq ?_
  refine awp_region rfl (.n (fun _ => op_fieldAddr Tryd.underlying48 rfl rfl Tryd.sizeOf25 (.plain rfl)) (.n (fun _ => op_load Tryd.isAgg25 (.plain rfl)) (.n (fun _ => op_move (.plain rfl)) (.n (fun _ => op_call2 Tryd.call29 (.plain rfl) (.plain rfl) (Place_fc _ _)) (.n (fun _ => op_assign (.plain rfl)) (.nil _)))))) ?_
  refine awp_seq ?_
  refine awp_seq ?_
  refine awp_region rfl (.n (fun _ => op_move (.plain rfl)) (.n (fun _ => op_lss (.plain rfl) (.plain rfl)) (.nil _))) ?_
  refine awp_cond rfl (fun h => ?_) (fun h => ?_)
  · (try simp only [decide_eq_true_eq, decide_eq_false_iff_not, Bool.and_eq_true, Bool.or_eq_true, Bool.and_eq_false_iff, Bool.or_eq_false_iff, Bool.not_eq_true', Bool.not_eq_false', Bool.not_eq_true, Bool.not_eq_false, Bool.true_eq_false, Bool.false_eq_true] at h); (try simp only [foldN, foldR, foldL, Int.toNat_natCast] at h)
    refine awp_seq ?_
    refine awp_region rfl (.n (fun _ => op_fieldAddr Tryd.underlying48 rfl rfl Tryd.sizeOf25 (.plain rfl)) (.n (fun _ => op_load Tryd.isAgg25 (.plain rfl)) (.n (fun _ => op_len (s := 0) Tryd.underlying25 (.plain rfl)) (.n (fun _ => op_assign (.plain rfl)) (.nil _))))) ?_
    refine awp_ret ?_
    refine retQ.ret ?_
    refine ret1 rfl rfl rfl ?_
    unfold levF
    rw [if_pos h]
  · (try simp only [decide_eq_true_eq, decide_eq_false_iff_not, Bool.and_eq_true, Bool.or_eq_true, Bool.and_eq_false_iff, Bool.or_eq_false_iff, Bool.not_eq_true', Bool.not_eq_false', Bool.not_eq_true, Bool.not_eq_false, Bool.true_eq_false, Bool.false_eq_true] at h); (try simp only [foldN, foldR, foldL, Int.toNat_natCast] at h)
    refine awp_skip ?_
    refine awp_seq ?_
    refine awp_seq ?_
    refine awp_region rfl (.n (fun _ => op_move (.plain rfl)) (.n (fun _ => op_lss (.plain rfl) (.plain rfl)) (.nil _))) ?_
    refine awp_cond rfl (fun h => ?_) (fun h => ?_)
    · (try simp only [decide_eq_true_eq, decide_eq_false_iff_not, Bool.and_eq_true, Bool.or_eq_true, Bool.and_eq_false_iff, Bool.or_eq_false_iff, Bool.not_eq_true', Bool.not_eq_false', Bool.not_eq_true, Bool.not_eq_false, Bool.true_eq_false, Bool.false_eq_true] at h); (try simp only [foldN, foldR, foldL, Int.toNat_natCast] at h)
      refine awp_seq ?_
      refine awp_region rfl (.n (fun _ => op_fieldAddr Tryd.underlying48 rfl rfl Tryd.sizeOf25 (.plain rfl)) (.n (fun _ => op_load Tryd.isAgg25 (.plain rfl)) (.n (fun _ => op_len (s := 0) Tryd.underlying25 (.plain rfl)) (.n (fun _ => op_add (.plain rfl) (.plain rfl) ?_) (.n (fun _ => op_assign (.plain rfl)) (.nil _)))))) ?_
      · (try simp only [foldN, foldR, foldL, Int.toNat_natCast])
        unfold InR; omega
      refine awp_ret ?_
      refine retQ.ret ?_
      refine ret1 rfl rfl rfl ?_
      unfold levF
      rw [if_neg (by omega), if_pos h]
    · (try simp only [decide_eq_true_eq, decide_eq_false_iff_not, Bool.and_eq_true, Bool.or_eq_true, Bool.and_eq_false_iff, Bool.or_eq_false_iff, Bool.not_eq_true', Bool.not_eq_false', Bool.not_eq_true, Bool.not_eq_false, Bool.true_eq_false, Bool.false_eq_true] at h); (try simp only [foldN, foldR, foldL, Int.toNat_natCast] at h)
      refine awp_skip ?_
      refine awp_seq ?_
      refine awp_region rfl (.n (fun _ => op_move (.plain rfl)) (.n (fun _ => op_assign (.plain rfl)) (.nil _))) ?_
      refine awp_ret ?_
      refine retQ.ret ?_
      refine ret1 rfl rfl rfl ?_
      unfold levF
      rw [if_neg (by omega), if_neg h]

set_option maxRecDepth 1000000 in
set_option maxHeartbeats 1000000 in
theorem above_fc (nm : ByteArray) (rm : Int) (lk : List Int) (x y : Int) : FC Tryd.prog 59 [.agg [.str nm, .i rm, .ints lk], .i x, .i y] (.bool (decide (levF lk x ≤ levF lk y))) := by
  refine FC.intro Tryd.func59 rfl (Nat.le_of_ble_eq_true rfl) fun hfit => ?_
  have fit0 := hfit _ (.head _)
  have fit1 : -9223372036854775808 ≤ (x : Int) ∧ (x : Int) ≤ 9223372036854775807 := (hfit _ (.tail _ (.head _))).int64
  have fit2 : -9223372036854775808 ≤ (y : Int) ∧ (y : Int) ≤ 9223372036854775807 := (hfit _ (.tail _ (.tail _ (.head _)))).int64
  refine awp_seq ?_
  refine awp_region rfl (.n (fun _ => op_box (.plain rfl) (by simp)) (.n (fun _ => op_assign (.plain rfl)) (.nil _))) ?_
  refine awp_seq ?_
  refine awp_region_draw mixed rfl (.n (fun _ => op_load_agg Tryd.isAgg48 Tryd.sizeOf48 (.plain rfl) (Nat.le_of_ble_eq_true rfl)) (.n (fun _ => op_move (.plain rfl)) (.n (fun _ => op_call2 Tryd.call71 (.plain rfl) (.plain rfl) (level_fc _ _ _ _)) (.n (fun _ => op_load_agg Tryd.isAgg48 Tryd.sizeOf48 (.plain rfl) (Nat.le_of_ble_eq_true rfl)) (.n (fun _ => op_move (.plain rfl)) (.n (fun _ => op_call2 Tryd.call71 (.plain rfl) (.plain rfl) (level_fc _ _ _ _)) (.n (fun _ => op_leq (.plain rfl) (.plain rfl)) (.n (fun _ => op_assign (.plain rfl)) (.nil _))))))))) ?d11 ?_
  · kernel_rfl
  refine awp_ret ?_
  refine retQ.ret ?_
  refine ret1 rfl rfl rfl ?_
  rfl

set_option maxRecDepth 1000000 in
set_option maxHeartbeats 1000000 in
theorem both_fc (L R : List Ag) (a b : List Int) (bt : Bool) : FC Tryd.prog 42 [.agg [.seq (ByteArray × Int × List Int × Unit) (ByteArray.empty, 0, [], ()) (fun p => [.str p.1, .i p.2.1, .ints p.2.2.1]) L, .seq (ByteArray × Int × List Int × Unit) (ByteArray.empty, 0, [], ()) (fun p => [.str p.1, .i p.2.1, .ints p.2.2.1]) R], .ints a, .ints b, .bool bt] (.tup [.ints (bothF L R a b bt), .i (bothE L R a b)]) := by
  refine FC.intro Tryd.func42 rfl (Nat.le_of_ble_eq_true rfl) fun hfit => ?_
  have fit0 := hfit _ (.head _)
  obtain ⟨fitl1, fitr1⟩ := (hfit _ (.tail _ (.head _))).ints
  obtain ⟨fitl2, fitr2⟩ := (hfit _ (.tail _ (.tail _ (.head _)))).ints
  have fit3 := hfit _ (.tail _ (.tail _ (.tail _ (.head _))))
  have hfl : L.length ≤ 281474976710656 := by cases fit0 with | agg _ h => exact (h 0 (by simp)).len
  have hfr : R.length ≤ 281474976710656 := by cases fit0 with | agg _ h => exact (h 1 (by simp)).len
  refine awp_seq ?_
  refine awp_region rfl (.n (fun _ => op_box (.plain rfl) (by simp)) (.n (fun _ => op_assign (.plain rfl)) (.n (fun _ => op_assign (.plain rfl)) (.nil _)))) ?_
  refine awp_seq ?_
  refine awp_seq ?_
  refine awp_region rfl (.n (fun _ => op_load_agg Tryd.isAgg24 Tryd.sizeOf24 (.plain rfl) (Nat.le_of_ble_eq_true rfl)) (.n (fun _ => op_move (.plain rfl)) (.n (fun _ => op_call2 Tryd.call34 (.plain rfl) (.plain rfl) (fits_fc _ _ _)) (.n (fun _ => op_assign (.plain rfl)) (.nil _))))) ?_
  refine awp_seq ?_
  refine awp_region rfl (.n (fun _ => op_move (.plain rfl)) (.n (fun _ => op_neq (.plain rfl) (.plain rfl)) (.nil _))) ?_
  refine awp_cond rfl (fun h => ?_) (fun h => ?_)
  · (try simp only [decide_eq_true_eq, decide_eq_false_iff_not, Bool.and_eq_true, Bool.or_eq_true, Bool.and_eq_false_iff, Bool.or_eq_false_iff, Bool.not_eq_true', Bool.not_eq_false', Bool.not_eq_true, Bool.not_eq_false, Bool.true_eq_false, Bool.false_eq_true] at h); (try simp only [foldN, foldR, foldL, Int.toNat_natCast] at h)
    refine awp_seq ?_
    refine awp_region rfl (.n (fun _ => op_move (.plain rfl)) (.n (fun _ => op_assign (.plain rfl)) (.n (fun _ => op_assign (.plain rfl)) (.nil _)))) ?_
    refine awp_ent (Ent.nilseq 8 Int 0 (fun n => [.int .i64 n]) rfl) ?_
    refine awp_ret ?_
    refine retQ.ret ?_
    refine ret2 rfl rfl rfl rfl rfl ?_
    exact congrArg PV.tup (both_e (bothE_a h) h)
  · (try simp only [decide_eq_true_eq, decide_eq_false_iff_not, Bool.and_eq_true, Bool.or_eq_true, Bool.and_eq_false_iff, Bool.or_eq_false_iff, Bool.not_eq_true', Bool.not_eq_false', Bool.not_eq_true, Bool.not_eq_false, Bool.true_eq_false, Bool.false_eq_true] at h); (try simp only [foldN, foldR, foldL, Int.toNat_natCast] at h)
    have h1 : withE L R a = 0 := by omega
    clear h
    have hA := wok h1
    have hal := hA.len
    have hl6 := hA.m.l6
    refine awp_skip ?_
    refine awp_seq ?_
    refine awp_seq ?_
    refine awp_region rfl (.n (fun _ => op_load_agg Tryd.isAgg24 Tryd.sizeOf24 (.plain rfl) (Nat.le_of_ble_eq_true rfl)) (.n (fun _ => op_move (.plain rfl)) (.n (fun _ => op_call2 Tryd.call34 (.plain rfl) (.plain rfl) (fits_fc _ _ _)) (.n (fun _ => op_assign (.plain rfl)) (.nil _))))) ?_
    refine awp_seq ?_
    refine awp_region rfl (.n (fun _ => op_move (.plain rfl)) (.n (fun _ => op_neq (.plain rfl) (.plain rfl)) (.nil _))) ?_
    refine awp_cond rfl (fun h => ?_) (fun h => ?_)
    · (try simp only [decide_eq_true_eq, decide_eq_false_iff_not, Bool.and_eq_true, Bool.or_eq_true, Bool.and_eq_false_iff, Bool.or_eq_false_iff, Bool.not_eq_true', Bool.not_eq_false', Bool.not_eq_true, Bool.not_eq_false, Bool.true_eq_false, Bool.false_eq_true] at h); (try simp only [foldN, foldR, foldL, Int.toNat_natCast] at h)
      refine awp_seq ?_
      refine awp_region rfl (.n (fun _ => op_move (.plain rfl)) (.n (fun _ => op_assign (.plain rfl)) (.n (fun _ => op_assign (.plain rfl)) (.nil _)))) ?_
      refine awp_ent (Ent.nilseq 8 Int 0 (fun n => [.int .i64 n]) rfl) ?_
      refine awp_ret ?_
      refine retQ.ret ?_
      refine ret2 rfl rfl rfl rfl rfl ?_
      exact congrArg PV.tup (both_e (bothE_b h1) h)
    · (try simp only [decide_eq_true_eq, decide_eq_false_iff_not, Bool.and_eq_true, Bool.or_eq_true, Bool.and_eq_false_iff, Bool.or_eq_false_iff, Bool.not_eq_true', Bool.not_eq_false', Bool.not_eq_true, Bool.not_eq_false, Bool.true_eq_false, Bool.false_eq_true] at h); (try simp only [foldN, foldR, foldL, Int.toNat_natCast] at h)
      have h2 : withE L R b = 0 := by omega
      clear h
      have hB := wok h2
      have hbl := hB.len
      refine awp_skip ?_
      refine awp_seq ?_
      refine awp_region rfl (.n (fun _ => op_assign (.plain rfl)) (.nil _)) ?_
      refine awp_seq ?_
      refine awp_seq ?_
      refine awp_region rfl (.n (fun _ => op_move (.plain rfl)) (.n (fun _ => op_len (s := 0) Tryd.underlying25 (.plain rfl)) (.n (fun _ => op_move (.plain rfl)) (.nil _)))) ?_
      refine awp_block ?_
      refine awp_ent (Ent.begin 12 1012 3 1 Int 0 (fun n => [.int .i64 n]) rfl rfl rfl) ?_
      refine awp_loop (σ := Nat) (fun (i : Nat) => i ≤ a.length) (fun (i : Nat) => ⟨[(1, .pv (.ints a)), (2, .pv (.ints b)), (3, .bool bt), (4, .pv (.rd [.seq (ByteArray × Int × List Int × Unit) (ByteArray.empty, 0, [], ()) (fun p => [.str p.1, .i p.2.1, .ints p.2.2.1]) L, .seq (ByteArray × Int × List Int × Unit) (ByteArray.empty, 0, [], ()) (fun p => [.str p.1, .i p.2.1, .ints p.2.2.1]) R])), (12, .own 1012), (27, .pv (.ints a)), (28, .int (a.length : Nat)), (29, .int (i : Nat))], [(1012, .arr 3 1 Int 0 (fun n => [.int .i64 n]) (mapr i (pickB L a b bt)))]⟩) (fun (i : Nat) => a.length - i) 0 ?_ (Ent.kept ⟨rfl, rfl, rfl, rfl, rfl, rfl, rfl, rfl, trivial⟩ ⟨rfl, trivial⟩) ?_
      · exact Nat.zero_le _
      rintro i hp
      try dsimp only at hp
      have hi := hp
      refine awp_seq ?_
      refine awp_region rfl (.n (fun _ => op_lss (.plain rfl) (.plain rfl)) (.nil _)) ?_
      refine awp_seq ?_
      refine awp_cond rfl (fun h => ?_) (fun h => ?_)
      · (try simp only [decide_eq_true_eq, decide_eq_false_iff_not, Bool.and_eq_true, Bool.or_eq_true, Bool.and_eq_false_iff, Bool.or_eq_false_iff, Bool.not_eq_true', Bool.not_eq_false', Bool.not_eq_true, Bool.not_eq_false, Bool.true_eq_false, Bool.false_eq_true] at h); (try simp only [foldN, foldR, foldL, Int.toNat_natCast] at h)
        refine awp_skip ?_
        refine awp_seq ?_
        refine awp_block ?_
        refine awp_seq ?_
        refine awp_region rfl (.n (fun _ => op_move (.plain rfl)) (.n (fun _ => op_assign (.plain rfl)) (.nil _))) ?_
        refine awp_seq ?_
        refine awp_region_draw mixed rfl (.n (fun _ => op_fieldAddr Tryd.underlying24 rfl rfl Tryd.sizeOf22 (.plain rfl)) (.n (fun _ => op_load Tryd.isAgg22 (.plain rfl)) (.n (fun _ => op_move (.plain rfl)) (.n (fun _ => op_indexAddrN Tryd.underlying22 Tryd.sizeOf48 (.plain rfl) (.plain rfl) (fun _ => rfl) ?_) (.n (fun _ => op_load_agg Tryd.isAgg48 Tryd.sizeOf48 (.plain rfl) (Nat.le_of_ble_eq_true rfl)) (.n (fun _ => op_move (.plain rfl)) (.n (fun _ => op_move (.plain rfl)) (.n (fun _ => op_indexAddrN Tryd.underlying25 Tryd.sizeOf3 (.plain rfl) (.plain rfl) (fun _ => rfl) ?_) (.n (fun _ => op_load Tryd.isAgg3 (.plain rfl)) (.n (fun _ => op_move (.plain rfl)) (.n (fun _ => op_move (.plain rfl)) (.n (fun _ => op_indexAddrN Tryd.underlying25 Tryd.sizeOf3 (.plain rfl) (.plain rfl) (fun _ => rfl) ?_) (.n (fun _ => op_load Tryd.isAgg3 (.plain rfl)) (.n (fun _ => op_call3 Tryd.call59 (.plain rfl) (.plain rfl) (.plain rfl) (above_fc _ _ _ _ _)) (.n (fun _ => op_assign (.plain rfl)) (.nil _)))))))))))))))) ?d12 ?_
        · (try simp only [foldN, foldR, foldL, Int.toNat_natCast])
          omega
        · (try simp only [foldN, foldR, foldL, Int.toNat_natCast])
          omega
        · (try simp only [foldN, foldR, foldL, Int.toNat_natCast])
          omega
        · kernel_rfl
        refine awp_seq ?_
        refine awp_region rfl (.n (fun _ => op_move (.plain rfl)) (.n (fun _ => op_move (.plain rfl)) (.n (fun _ => op_eqb Tryd.underlying4 (.plain rfl) (.plain rfl)) (.nil _)))) ?_
        refine awp_cond rfl (fun h => ?_) (fun h => ?_)
        · (try simp only [decide_eq_true_eq, decide_eq_false_iff_not, Bool.and_eq_true, Bool.or_eq_true, Bool.and_eq_false_iff, Bool.or_eq_false_iff, Bool.not_eq_true', Bool.not_eq_false', Bool.not_eq_true, Bool.not_eq_false, Bool.true_eq_false, Bool.false_eq_true] at h); (try simp only [foldN, foldR, foldL, Int.toNat_natCast] at h)
          have hp1 : a.getD i 0 = pickB L a b bt i := (if_pos h).symm
          refine awp_region rfl (.n (fun _ => op_move (.plain rfl)) (.n (fun _ => op_move (.plain rfl)) (.n (fun _ => op_move (.plain rfl)) (.n (fun _ => op_indexAddrN Tryd.underlying25 Tryd.sizeOf3 (.plain rfl) (.plain rfl) (fun _ => rfl) ?_) (.n (fun _ => op_load Tryd.isAgg3 (.plain rfl)) (.n (fun _ => op_slit (pp := [(0, _)]) (α := Int) (d := 0) (f := (fun n => [.int .i64 n])) [_] ety25 rfl ⟨rfl, (.plain rfl), (by simp), trivial⟩ rfl (by decide) rfl) (.e (op_append (id' := 55) (α := Int) (d := 0) (f := (fun n => [.int .i64 n])) ety25 Tryd.underlying25 (fun _ => rfl) (fun _ => rfl) (.plain rfl) rfl (.plain rfl) rfl ?_) rfl (.n (fun _ => op_assign (.plain rfl)) (.nil _))))))))) ?_
          · (try simp only [foldN, foldR, foldL, Int.toNat_natCast])
            omega
          · (try simp only [foldN, foldR, foldL, Int.toNat_natCast])
            first | omega | (simp; omega)
          refine awp_region rfl (.n (fun _ => op_add (.plain rfl) (.plain rfl) ?_) (.n (fun _ => op_move (.plain rfl)) (.nil _))) ?_
          · (try simp only [foldN, foldR, foldL, Int.toNat_natCast])
            unfold InR; omega
          exact ⟨i + 1, by omega, by dsimp only; omega, (Ent.round 55 1012 ⟨rfl, rfl, rfl, rfl, rfl, rfl, rfl, rfl, trivial⟩ ⟨(congrArg (fun l => some (Blk.arr 3 1 Int 0 (fun n => [.int .i64 n]) l)) (by rw [mapr_succ, ← hp1])), trivial⟩ rfl rfl rfl ⟨rfl, rfl, rfl, rfl, rfl, rfl, rfl, rfl, trivial⟩ ⟨rfl, trivial⟩)⟩
        · (try simp only [decide_eq_true_eq, decide_eq_false_iff_not, Bool.and_eq_true, Bool.or_eq_true, Bool.and_eq_false_iff, Bool.or_eq_false_iff, Bool.not_eq_true', Bool.not_eq_false', Bool.not_eq_true, Bool.not_eq_false, Bool.true_eq_false, Bool.false_eq_true] at h); (try simp only [foldN, foldR, foldL, Int.toNat_natCast] at h)
          have hp1 : b.getD i 0 = pickB L a b bt i := (if_neg (fun c => Bool.false_ne_true (h.symm.trans c))).symm
          refine awp_region rfl (.n (fun _ => op_move (.plain rfl)) (.n (fun _ => op_move (.plain rfl)) (.n (fun _ => op_move (.plain rfl)) (.n (fun _ => op_indexAddrN Tryd.underlying25 Tryd.sizeOf3 (.plain rfl) (.plain rfl) (fun _ => rfl) ?_) (.n (fun _ => op_load Tryd.isAgg3 (.plain rfl)) (.n (fun _ => op_slit (pp := [(0, _)]) (α := Int) (d := 0) (f := (fun n => [.int .i64 n])) [_] ety25 rfl ⟨rfl, (.plain rfl), (by simp), trivial⟩ rfl (by decide) rfl) (.e (op_append (id' := 62) (α := Int) (d := 0) (f := (fun n => [.int .i64 n])) ety25 Tryd.underlying25 (fun _ => rfl) (fun _ => rfl) (.plain rfl) rfl (.plain rfl) rfl ?_) rfl (.n (fun _ => op_assign (.plain rfl)) (.nil _))))))))) ?_
          · (try simp only [foldN, foldR, foldL, Int.toNat_natCast])
            omega
          · (try simp only [foldN, foldR, foldL, Int.toNat_natCast])
            first | omega | (simp; omega)
          refine awp_region rfl (.n (fun _ => op_add (.plain rfl) (.plain rfl) ?_) (.n (fun _ => op_move (.plain rfl)) (.nil _))) ?_
          · (try simp only [foldN, foldR, foldL, Int.toNat_natCast])
            unfold InR; omega
          exact ⟨i + 1, by omega, by dsimp only; omega, (Ent.round 62 1012 ⟨rfl, rfl, rfl, rfl, rfl, rfl, rfl, rfl, trivial⟩ ⟨(congrArg (fun l => some (Blk.arr 3 1 Int 0 (fun n => [.int .i64 n]) l)) (by rw [mapr_succ, ← hp1])), trivial⟩ rfl rfl rfl ⟨rfl, rfl, rfl, rfl, rfl, rfl, rfl, rfl, trivial⟩ ⟨rfl, trivial⟩)⟩
      · (try simp only [decide_eq_true_eq, decide_eq_false_iff_not, Bool.and_eq_true, Bool.or_eq_true, Bool.and_eq_false_iff, Bool.or_eq_false_iff, Bool.not_eq_true', Bool.not_eq_false', Bool.not_eq_true, Bool.not_eq_false, Bool.true_eq_false, Bool.false_eq_true] at h); (try simp only [foldN, foldR, foldL, Int.toNat_natCast] at h)
        refine awp_exit ?_
        refine awp_seq ?_
        refine awp_region rfl (.n (fun _ => op_move (.plain rfl)) (.n (fun _ => op_assign (.plain rfl)) (.n (fun _ => op_assign (.plain rfl)) (.nil _)))) ?_
        refine awp_ret ?_
        refine retQ.ret ?_
        refine ret2 rfl rfl rfl rfl rfl ?_
        obtain rfl : i = a.length := by omega
        exact congrArg PV.tup (both_ok h1 h2)

set_option maxRecDepth 1000000 in
set_option maxHeartbeats 1000000 in
theorem Blend_fc (L R : List Ag) (a b : List Int) (bt : Bool) : FC Tryd.prog 16 [.agg [.seq (ByteArray × Int × List Int × Unit) (ByteArray.empty, 0, [], ()) (fun p => [.str p.1, .i p.2.1, .ints p.2.2.1]) L, .seq (ByteArray × Int × List Int × Unit) (ByteArray.empty, 0, [], ()) (fun p => [.str p.1, .i p.2.1, .ints p.2.2.1]) R], .ints a, .ints b, .bool bt] (.tup [.ints (bothF L R a b bt), .i (bothE L R a b)]) := by
  refine FC.intro Tryd.func16 rfl (Nat.le_of_ble_eq_true rfl) fun hfit => ?_
  have fit0 := hfit _ (.head _)
  obtain ⟨fitl1, fitr1⟩ := (hfit _ (.tail _ (.head _))).ints
  obtain ⟨fitl2, fitr2⟩ := (hfit _ (.tail _ (.tail _ (.head _)))).ints
  have fit3 := hfit _ (.tail _ (.tail _ (.tail _ (.head _))))
  have hfl : L.length ≤ 281474976710656 := by cases fit0 with | agg _ h => exact (h 0 (by simp)).len
  have hfr : R.length ≤ 281474976710656 := by cases fit0 with | agg _ h => exact (h 1 (by simp)).len
  refine awp_seq ?_
  refine awp_region rfl (.n (fun _ => op_box (.plain rfl) (by simp)) (.n (fun _ => op_assign (.plain rfl)) (.n (fun _ => op_assign (.plain rfl)) (.nil _)))) ?_
  refine awp_seq ?_
  refine awp_region rfl (.n (fun _ => op_load_agg Tryd.isAgg24 Tryd.sizeOf24 (.plain rfl) (Nat.le_of_ble_eq_true rfl)) (.n (fun _ => op_move (.plain rfl)) (.n (fun _ => op_call2 Tryd.call37 (.plain rfl) (.plain rfl) (WithMay_fc _ _ _)) (.n (fun _ => op_assign (.plain rfl)) (.nil _))))) ?_
  refine awp_seq ?_
  refine awp_seq ?_
  refine awp_region rfl (.n (fun _ => op_move (.plain rfl)) (.n (fun _ => op_neq (.plain rfl) (.plain rfl)) (.nil _))) ?_
  refine awp_cond rfl (fun h => ?_) (fun h => ?_)
  · (try simp only [decide_eq_true_eq, decide_eq_false_iff_not, Bool.and_eq_true, Bool.or_eq_true, Bool.and_eq_false_iff, Bool.or_eq_false_iff, Bool.not_eq_true', Bool.not_eq_false', Bool.not_eq_true, Bool.not_eq_false, Bool.true_eq_false, Bool.false_eq_true] at h); (try simp only [foldN, foldR, foldL, Int.toNat_natCast] at h)
    refine awp_seq ?_
    refine awp_region rfl (.n (fun _ => op_move (.plain rfl)) (.n (fun _ => op_assign (.plain rfl)) (.n (fun _ => op_assign (.plain rfl)) (.nil _)))) ?_
    refine awp_ent (Ent.nilseq 8 Int 0 (fun n => [.int .i64 n]) rfl) ?_
    refine awp_ret ?_
    refine retQ.ret ?_
    refine ret2 rfl rfl rfl rfl rfl ?_
    exact congrArg PV.tup (both_e (bothE_a h) h)
  · (try simp only [decide_eq_true_eq, decide_eq_false_iff_not, Bool.and_eq_true, Bool.or_eq_true, Bool.and_eq_false_iff, Bool.or_eq_false_iff, Bool.not_eq_true', Bool.not_eq_false', Bool.not_eq_true, Bool.not_eq_false, Bool.true_eq_false, Bool.false_eq_true] at h); (try simp only [foldN, foldR, foldL, Int.toNat_natCast] at h)
    have h1 : withE L R a = 0 := by omega
    clear h
    have hA := wok h1
    have hal := hA.len
    have hl6 := hA.m.l6
    refine awp_skip ?_
    refine awp_seq ?_
    refine awp_region rfl (.n (fun _ => op_load_agg Tryd.isAgg24 Tryd.sizeOf24 (.plain rfl) (Nat.le_of_ble_eq_true rfl)) (.n (fun _ => op_move (.plain rfl)) (.n (fun _ => op_call2 Tryd.call37 (.plain rfl) (.plain rfl) (WithMay_fc _ _ _)) (.n (fun _ => op_assign (.plain rfl)) (.nil _))))) ?_
    refine awp_seq ?_
    refine awp_seq ?_
    refine awp_region rfl (.n (fun _ => op_move (.plain rfl)) (.n (fun _ => op_neq (.plain rfl) (.plain rfl)) (.nil _))) ?_
    refine awp_cond rfl (fun h => ?_) (fun h => ?_)
    · (try simp only [decide_eq_true_eq, decide_eq_false_iff_not, Bool.and_eq_true, Bool.or_eq_true, Bool.and_eq_false_iff, Bool.or_eq_false_iff, Bool.not_eq_true', Bool.not_eq_false', Bool.not_eq_true, Bool.not_eq_false, Bool.true_eq_false, Bool.false_eq_true] at h); (try simp only [foldN, foldR, foldL, Int.toNat_natCast] at h)
      refine awp_seq ?_
      refine awp_region rfl (.n (fun _ => op_move (.plain rfl)) (.n (fun _ => op_assign (.plain rfl)) (.n (fun _ => op_assign (.plain rfl)) (.nil _)))) ?_
      refine awp_ent (Ent.nilseq 8 Int 0 (fun n => [.int .i64 n]) rfl) ?_
      refine awp_ret ?_
      refine retQ.ret ?_
      refine ret2 rfl rfl rfl rfl rfl ?_
      exact congrArg PV.tup (both_e (bothE_b h1) h)
    · (try simp only [decide_eq_true_eq, decide_eq_false_iff_not, Bool.and_eq_true, Bool.or_eq_true, Bool.and_eq_false_iff, Bool.or_eq_false_iff, Bool.not_eq_true', Bool.not_eq_false', Bool.not_eq_true, Bool.not_eq_false, Bool.true_eq_false, Bool.false_eq_true] at h); (try simp only [foldN, foldR, foldL, Int.toNat_natCast] at h)
      have h2 : withE L R b = 0 := by omega
      clear h
      have hB := wok h2
      have hbl := hB.len
      refine awp_skip ?_
      refine awp_seq ?_
      refine awp_region rfl (.n (fun _ => op_assign (.plain rfl)) (.nil _)) ?_
      refine awp_seq ?_
      refine awp_seq ?_
      refine awp_region rfl (.n (fun _ => op_assign (.plain rfl)) (.nil _)) ?_
      refine awp_block ?_
      refine awp_ent (Ent.begin 11 1011 3 1 Int 0 (fun n => [.int .i64 n]) rfl rfl rfl) ?_
      refine awp_loop (σ := Nat) (fun (i : Nat) => i ≤ a.length) (fun (i : Nat) => ⟨[(1, .pv (.ints a)), (2, .pv (.ints b)), (3, .bool bt), (4, .pv (.rd [.seq (ByteArray × Int × List Int × Unit) (ByteArray.empty, 0, [], ()) (fun p => [.str p.1, .i p.2.1, .ints p.2.2.1]) L, .seq (ByteArray × Int × List Int × Unit) (ByteArray.empty, 0, [], ()) (fun p => [.str p.1, .i p.2.1, .ints p.2.2.1]) R])), (11, .own 1011), (12, .int (i : Nat))], [(1011, .arr 3 1 Int 0 (fun n => [.int .i64 n]) (mapr i (pickB L a b bt)))]⟩) (fun (i : Nat) => a.length - i) 0 ?_ (Ent.kept ⟨rfl, rfl, rfl, rfl, rfl, rfl, trivial⟩ ⟨rfl, trivial⟩) ?_
      · exact Nat.zero_le _
      rintro i hp
      try dsimp only at hp
      have hi := hp
      refine awp_seq ?_
      refine awp_seq ?_
      refine awp_region rfl (.n (fun _ => op_move (.plain rfl)) (.n (fun _ => op_move (.plain rfl)) (.n (fun _ => op_len (s := 0) Tryd.underlying25 (.plain rfl)) (.n (fun _ => op_lss (.plain rfl) (.plain rfl)) (.nil _))))) ?_
      refine awp_cond rfl (fun h => ?_) (fun h => ?_)
      · (try simp only [decide_eq_true_eq, decide_eq_false_iff_not, Bool.and_eq_true, Bool.or_eq_true, Bool.and_eq_false_iff, Bool.or_eq_false_iff, Bool.not_eq_true', Bool.not_eq_false', Bool.not_eq_true, Bool.not_eq_false, Bool.true_eq_false, Bool.false_eq_true] at h); (try simp only [foldN, foldR, foldL, Int.toNat_natCast] at h)
        refine awp_skip ?_
        refine awp_seq ?_
        refine awp_block ?_
        refine awp_seq ?_
        refine awp_region_draw mixed rfl (.n (fun _ => op_fieldAddr Tryd.underlying24 rfl rfl Tryd.sizeOf22 (.plain rfl)) (.n (fun _ => op_load Tryd.isAgg22 (.plain rfl)) (.n (fun _ => op_move (.plain rfl)) (.n (fun _ => op_indexAddrN Tryd.underlying22 Tryd.sizeOf48 (.plain rfl) (.plain rfl) (fun _ => rfl) ?_) (.n (fun _ => op_load_agg Tryd.isAgg48 Tryd.sizeOf48 (.plain rfl) (Nat.le_of_ble_eq_true rfl)) (.n (fun _ => op_move (.plain rfl)) (.n (fun _ => op_move (.plain rfl)) (.n (fun _ => op_indexAddrN Tryd.underlying25 Tryd.sizeOf3 (.plain rfl) (.plain rfl) (fun _ => rfl) ?_) (.n (fun _ => op_load Tryd.isAgg3 (.plain rfl)) (.n (fun _ => op_call2 Tryd.call43 (.plain rfl) (.plain rfl) (levelR_fc _ _ _ _)) (.n (fun _ => op_assign (.plain rfl)) (.nil _)))))))))))) ?d13 ?_
        · (try simp only [foldN, foldR, foldL, Int.toNat_natCast])
          omega
        · (try simp only [foldN, foldR, foldL, Int.toNat_natCast])
          omega
        · kernel_rfl
        refine awp_seq ?_
        refine awp_region_draw mixed rfl (.n (fun _ => op_fieldAddr Tryd.underlying24 rfl rfl Tryd.sizeOf22 (.plain rfl)) (.n (fun _ => op_load Tryd.isAgg22 (.plain rfl)) (.n (fun _ => op_move (.plain rfl)) (.n (fun _ => op_indexAddrN Tryd.underlying22 Tryd.sizeOf48 (.plain rfl) (.plain rfl) (fun _ => rfl) ?_) (.n (fun _ => op_load_agg Tryd.isAgg48 Tryd.sizeOf48 (.plain rfl) (Nat.le_of_ble_eq_true rfl)) (.n (fun _ => op_move (.plain rfl)) (.n (fun _ => op_move (.plain rfl)) (.n (fun _ => op_indexAddrN Tryd.underlying25 Tryd.sizeOf3 (.plain rfl) (.plain rfl) (fun _ => rfl) ?_) (.n (fun _ => op_load Tryd.isAgg3 (.plain rfl)) (.n (fun _ => op_call2 Tryd.call43 (.plain rfl) (.plain rfl) (levelR_fc _ _ _ _)) (.n (fun _ => op_assign (.plain rfl)) (.nil _)))))))))))) ?d14 ?_
        · (try simp only [foldN, foldR, foldL, Int.toNat_natCast])
          omega
        · (try simp only [foldN, foldR, foldL, Int.toNat_natCast])
          omega
        · kernel_rfl
        refine awp_seq ?_
        refine awp_region rfl (.n (fun _ => op_move (.plain rfl)) (.n (fun _ => op_move (.plain rfl)) (.n (fun _ => op_indexAddrN Tryd.underlying25 Tryd.sizeOf3 (.plain rfl) (.plain rfl) (fun _ => rfl) ?_) (.n (fun _ => op_load Tryd.isAgg3 (.plain rfl)) (.n (fun _ => op_assign (.plain rfl)) (.nil _)))))) ?_
        · (try simp only [foldN, foldR, foldL, Int.toNat_natCast])
          omega
        refine awp_seq ?_
        refine awp_seq ?_
        refine awp_region rfl (.n (fun _ => op_move (.plain rfl)) (.n (fun _ => op_move (.plain rfl)) (.gn rfl rfl (fun hg _ => op_move (.plain rfl)) (.gn rfl rfl (fun hg _ => op_move (.plain rfl)) (.gn rfl rfl (fun hg _ => op_leq (.opt rfl fun h => h) (.opt rfl fun h => h)) (.n (fun _ => op_and (.plain rfl) (.plain rfl) (.plain rfl) (fun h => eqT h)) (.n (fun _ => op_move (.plain rfl)) (.gn rfl rfl (fun hg _ => op_move (.plain rfl)) (.gn rfl rfl (fun hg _ => op_not (.opt rfl fun h => h)) (.gn rfl rfl (fun hg _ => op_move (.opt rfl fun h => h)) (.ggn rfl rfl (fun hg _ => op_move (.plain rfl)) (.ggn rfl rfl (fun hg _ => op_move (.plain rfl)) (.ggn rfl rfl (fun hg _ => op_gtr (.opt rfl fun h => h) (.opt rfl fun h => h)) (.gn rfl rfl (fun hg _ => op_and (.opt rfl fun h => h) (.plain rfl) (.plain rfl) (fun h => andI hg (eqT h))) (.n (fun _ => op_or (.plain rfl) (.plain rfl) (.plain rfl) (fun h => eqF h)) (.nil _)))))))))))))))) ?_
        refine awp_cond rfl (fun h => ?_) (fun h => ?_)
        · (try simp only [decide_eq_true_eq, decide_eq_false_iff_not, Bool.and_eq_true, Bool.or_eq_true, Bool.and_eq_false_iff, Bool.or_eq_false_iff, Bool.not_eq_true', Bool.not_eq_false', Bool.not_eq_true, Bool.not_eq_false, Bool.true_eq_false, Bool.false_eq_true] at h); (try simp only [foldN, foldR, foldL, Int.toNat_natCast] at h)
          have hp1 : a.getD i 0 = pickB L a b bt i := pickB_a (by cases bt <;> simp_all)
          refine awp_region rfl (.n (fun _ => op_move (.plain rfl)) (.n (fun _ => op_move (.plain rfl)) (.n (fun _ => op_indexAddrN Tryd.underlying25 Tryd.sizeOf3 (.plain rfl) (.plain rfl) (fun _ => rfl) ?_) (.n (fun _ => op_load Tryd.isAgg3 (.plain rfl)) (.n (fun _ => op_assign (.plain rfl)) (.nil _)))))) ?_
          · (try simp only [foldN, foldR, foldL, Int.toNat_natCast])
            omega
          refine awp_region rfl (.n (fun _ => op_move (.plain rfl)) (.n (fun _ => op_move (.plain rfl)) (.n (fun _ => op_slit (pp := [(0, _)]) (α := Int) (d := 0) (f := (fun n => [.int .i64 n])) [_] ety25 rfl ⟨rfl, (.plain rfl), (by simp), trivial⟩ rfl (by decide) rfl) (.e (op_append (id' := 80) (α := Int) (d := 0) (f := (fun n => [.int .i64 n])) ety25 Tryd.underlying25 (fun _ => rfl) (fun _ => rfl) (.plain rfl) rfl (.plain rfl) rfl ?_) rfl (.n (fun _ => op_assign (.plain rfl)) (.nil _)))))) ?_
          · (try simp only [foldN, foldR, foldL, Int.toNat_natCast])
            first | omega | (simp; omega)
          refine awp_region rfl (.n (fun _ => op_move (.plain rfl)) (.n (fun _ => op_add (.plain rfl) (.plain rfl) ?_) (.n (fun _ => op_assign (.plain rfl)) (.nil _)))) ?_
          · (try simp only [foldN, foldR, foldL, Int.toNat_natCast])
            unfold InR; omega
          exact ⟨i + 1, by omega, by dsimp only; omega, (Ent.round 80 1011 ⟨rfl, rfl, rfl, rfl, rfl, rfl, trivial⟩ ⟨(congrArg (fun l => some (Blk.arr 3 1 Int 0 (fun n => [.int .i64 n]) l)) (by rw [mapr_succ, ← hp1])), trivial⟩ rfl rfl rfl ⟨rfl, rfl, rfl, rfl, rfl, rfl, trivial⟩ ⟨rfl, trivial⟩)⟩
        · (try simp only [decide_eq_true_eq, decide_eq_false_iff_not, Bool.and_eq_true, Bool.or_eq_true, Bool.and_eq_false_iff, Bool.or_eq_false_iff, Bool.not_eq_true', Bool.not_eq_false', Bool.not_eq_true, Bool.not_eq_false, Bool.true_eq_false, Bool.false_eq_true] at h); (try simp only [foldN, foldR, foldL, Int.toNat_natCast] at h)
          have hp1 : b.getD i 0 = pickB L a b bt i := pickB_b (by cases bt <;> simp_all)
          refine awp_skip ?_
          refine awp_region rfl (.n (fun _ => op_move (.plain rfl)) (.n (fun _ => op_move (.plain rfl)) (.n (fun _ => op_slit (pp := [(0, _)]) (α := Int) (d := 0) (f := (fun n => [.int .i64 n])) [_] ety25 rfl ⟨rfl, (.plain rfl), (by simp), trivial⟩ rfl (by decide) rfl) (.e (op_append (id' := 80) (α := Int) (d := 0) (f := (fun n => [.int .i64 n])) ety25 Tryd.underlying25 (fun _ => rfl) (fun _ => rfl) (.plain rfl) rfl (.plain rfl) rfl ?_) rfl (.n (fun _ => op_assign (.plain rfl)) (.nil _)))))) ?_
          · (try simp only [foldN, foldR, foldL, Int.toNat_natCast])
            first | omega | (simp; omega)
          refine awp_region rfl (.n (fun _ => op_move (.plain rfl)) (.n (fun _ => op_add (.plain rfl) (.plain rfl) ?_) (.n (fun _ => op_assign (.plain rfl)) (.nil _)))) ?_
          · (try simp only [foldN, foldR, foldL, Int.toNat_natCast])
            unfold InR; omega
          exact ⟨i + 1, by omega, by dsimp only; omega, (Ent.round 80 1011 ⟨rfl, rfl, rfl, rfl, rfl, rfl, trivial⟩ ⟨(congrArg (fun l => some (Blk.arr 3 1 Int 0 (fun n => [.int .i64 n]) l)) (by rw [mapr_succ, ← hp1])), trivial⟩ rfl rfl rfl ⟨rfl, rfl, rfl, rfl, rfl, rfl, trivial⟩ ⟨rfl, trivial⟩)⟩
      · (try simp only [decide_eq_true_eq, decide_eq_false_iff_not, Bool.and_eq_true, Bool.or_eq_true, Bool.and_eq_false_iff, Bool.or_eq_false_iff, Bool.not_eq_true', Bool.not_eq_false', Bool.not_eq_true, Bool.not_eq_false, Bool.true_eq_false, Bool.false_eq_true] at h); (try simp only [foldN, foldR, foldL, Int.toNat_natCast] at h)
        refine awp_exit ?_
        refine awp_seq ?_
        refine awp_region rfl (.n (fun _ => op_move (.plain rfl)) (.n (fun _ => op_assign (.plain rfl)) (.n (fun _ => op_assign (.plain rfl)) (.nil _)))) ?_
        refine awp_ret ?_
        refine retQ.ret ?_
        refine ret2 rfl rfl rfl rfl rfl ?_
        obtain rfl : i = a.length := by omega
        exact congrArg PV.tup (both_ok h1 h2)

set_option maxRecDepth 1000000 in
set_option maxHeartbeats 1000000 in
theorem Join_fc (L R : List Ag) (a b : List Int) : FC Tryd.prog 15 [.agg [.seq (ByteArray × Int × List Int × Unit) (ByteArray.empty, 0, [], ()) (fun p => [.str p.1, .i p.2.1, .ints p.2.2.1]) L, .seq (ByteArray × Int × List Int × Unit) (ByteArray.empty, 0, [], ()) (fun p => [.str p.1, .i p.2.1, .ints p.2.2.1]) R], .ints a, .ints b] (.tup [.ints (bothF L R a b true), .i (bothE L R a b)]) := by
  refine FC.intro Tryd.func15 rfl (Nat.le_of_ble_eq_true rfl) fun hfit => ?_
  have fit0 := hfit _ (.head _)
  obtain ⟨fitl1, fitr1⟩ := (hfit _ (.tail _ (.head _))).ints
  obtain ⟨fitl2, fitr2⟩ := (hfit _ (.tail _ (.tail _ (.head _)))).ints
  refine awp_seq ?_
  refine awp_region rfl (.n (fun _ => op_box (.plain rfl) (by simp)) (.n (fun _ => op_assign (.plain rfl)) (.n (fun _ => op_assign (.plain rfl)) (.nil _)))) ?_
  refine awp_seq ?_
  refine awp_region rfl (.n (fun _ => op_load_agg Tryd.isAgg24 Tryd.sizeOf24 (.plain rfl) (Nat.le_of_ble_eq_true rfl)) (.n (fun _ => op_move (.plain rfl)) (.n (fun _ => op_move (.plain rfl)) (.n (fun _ => op_call4 Tryd.call42 (.plain rfl) (.plain rfl) (.plain rfl) (.plain rfl) (both_fc _ _ _ _ _)) (.n (fun _ => op_extract (.plain rfl) rfl) (.n (fun _ => op_extract (.plain rfl) rfl) (.n (fun _ => op_assign (.plain rfl)) (.n (fun _ => op_assign (.plain rfl)) (.nil _))))))))) ?_
  refine awp_ret ?_
  refine retQ.ret ?_
  refine ret2 rfl rfl rfl rfl rfl ?_
  rfl

set_option maxRecDepth 1000000 in
set_option maxHeartbeats 1000000 in
theorem Meet_fc (L R : List Ag) (a b : List Int) : FC Tryd.prog 18 [.agg [.seq (ByteArray × Int × List Int × Unit) (ByteArray.empty, 0, [], ()) (fun p => [.str p.1, .i p.2.1, .ints p.2.2.1]) L, .seq (ByteArray × Int × List Int × Unit) (ByteArray.empty, 0, [], ()) (fun p => [.str p.1, .i p.2.1, .ints p.2.2.1]) R], .ints a, .ints b] (.tup [.ints (bothF L R a b false), .i (bothE L R a b)]) := by
  refine FC.intro Tryd.func18 rfl (Nat.le_of_ble_eq_true rfl) fun hfit => ?_
  have fit0 := hfit _ (.head _)
  obtain ⟨fitl1, fitr1⟩ := (hfit _ (.tail _ (.head _))).ints
  obtain ⟨fitl2, fitr2⟩ := (hfit _ (.tail _ (.tail _ (.head _)))).ints
  refine awp_seq ?_
  refine awp_region rfl (.n (fun _ => op_box (.plain rfl) (by simp)) (.n (fun _ => op_assign (.plain rfl)) (.n (fun _ => op_assign (.plain rfl)) (.nil _)))) ?_
  refine awp_seq ?_
  refine awp_region rfl (.n (fun _ => op_load_agg Tryd.isAgg24 Tryd.sizeOf24 (.plain rfl) (Nat.le_of_ble_eq_true rfl)) (.n (fun _ => op_move (.plain rfl)) (.n (fun _ => op_move (.plain rfl)) (.n (fun _ => op_call4 Tryd.call42 (.plain rfl) (.plain rfl) (.plain rfl) (.plain rfl) (both_fc _ _ _ _ _)) (.n (fun _ => op_extract (.plain rfl) rfl) (.n (fun _ => op_extract (.plain rfl) rfl) (.n (fun _ => op_assign (.plain rfl)) (.n (fun _ => op_assign (.plain rfl)) (.nil _))))))))) ?_
  refine awp_ret ?_
  refine retQ.ret ?_
  refine ret2 rfl rfl rfl rfl rfl ?_
  rfl

set_option maxRecDepth 1000000 in
set_option maxHeartbeats 1000000 in
theorem MatchSays_fc (L R : List Ag) (a b : List Int) : FC Tryd.prog 3 [.agg [.seq (ByteArray × Int × List Int × Unit) (ByteArray.empty, 0, [], ()) (fun p => [.str p.1, .i p.2.1, .ints p.2.2.1]) L, .seq (ByteArray × Int × List Int × Unit) (ByteArray.empty, 0, [], ()) (fun p => [.str p.1, .i p.2.1, .ints p.2.2.1]) R], .ints a, .ints b] (.bool true) := by
  refine FC.intro Tryd.func3 rfl (Nat.le_of_ble_eq_true rfl) fun hfit => ?_
  have fit0 := hfit _ (.head _)
  obtain ⟨fitl1, fitr1⟩ := (hfit _ (.tail _ (.head _))).ints
  obtain ⟨fitl2, fitr2⟩ := (hfit _ (.tail _ (.tail _ (.head _)))).ints
  refine awp_seq ?_
  refine awp_region rfl (.n (fun _ => op_box (.plain rfl) (by simp)) (.n (fun _ => op_assign (.plain rfl)) (.nil _))) ?_
  refine awp_seq ?_
  refine awp_seq ?_
  refine awp_region rfl (.n (fun _ => op_load_agg Tryd.isAgg24 Tryd.sizeOf24 (.plain rfl) (Nat.le_of_ble_eq_true rfl)) (.n (fun _ => op_call1 Tryd.call10 (.plain rfl) (heavyPairing_fc _ _)) (.n (fun _ => op_move (.plain rfl)) (.gn rfl rfl (fun hg _ => op_move (.plain rfl)) (.gn rfl rfl (fun hg _ => op_len (s := 0) Tryd.underlying25 (.opt rfl fun h => h)) (.gn rfl rfl (fun hg _ => op_move (.plain rfl)) (.gn rfl rfl (fun hg _ => op_len (s := 0) Tryd.underlying25 (.opt rfl fun h => h)) (.gn rfl rfl (fun hg _ => op_add (.opt rfl fun h => h) (.opt rfl fun h => h) ?_) (.gn rfl rfl (fun hg _ => op_gtr (.opt rfl fun h => h) (.plain rfl)) (.n (fun _ => op_or (.plain rfl) (.plain rfl) (.plain rfl) (fun h => eqF h)) (.nil _))))))))))) ?_
  · try simp only [beq_iff_eq, beq_true, beq_false, Bool.and_eq_true, decide_eq_true_eq, decide_eq_false_iff_not, Bool.not_eq_true', Bool.or_eq_true, Bool.or_eq_false_iff] at hg
    (try simp only [foldN, foldR, foldL, Int.toNat_natCast])
    unfold InR; omega
  refine awp_cond rfl (fun h => ?_) (fun h => ?_)
  · (try simp only [decide_eq_true_eq, decide_eq_false_iff_not, Bool.and_eq_true, Bool.or_eq_true, Bool.and_eq_false_iff, Bool.or_eq_false_iff, Bool.not_eq_true', Bool.not_eq_false', Bool.not_eq_true, Bool.not_eq_false, Bool.true_eq_false, Bool.false_eq_true] at h); (try simp only [foldN, foldR, foldL, Int.toNat_natCast] at h)
    refine awp_seq ?_
    refine awp_region rfl (.n (fun _ => op_assign (.plain rfl)) (.nil _)) ?_
    refine awp_ret ?_
    refine retQ.ret ?_
    refine ret1 rfl rfl rfl ?_
    rfl
  · (try simp only [decide_eq_true_eq, decide_eq_false_iff_not, Bool.and_eq_true, Bool.or_eq_true, Bool.and_eq_false_iff, Bool.or_eq_false_iff, Bool.not_eq_true', Bool.not_eq_false', Bool.not_eq_true, Bool.not_eq_false, Bool.true_eq_false, Bool.false_eq_true] at h); (try simp only [foldN, foldR, foldL, Int.toNat_natCast] at h)
    refine awp_skip ?_
    refine awp_seq ?_
    refine awp_region rfl (.n (fun _ => op_load_agg Tryd.isAgg24 Tryd.sizeOf24 (.plain rfl) (Nat.le_of_ble_eq_true rfl)) (.n (fun _ => op_move (.plain rfl)) (.n (fun _ => op_call2 Tryd.call11 (.plain rfl) (.plain rfl) (Stable_fc _ _ _)) (.n (fun _ => op_move (.plain rfl)) (.n (fun _ => op_extract (.plain rfl) rfl) (.n (fun _ => op_extract (.plain rfl) rfl) (.n (fun _ => op_extract (.plain rfl) rfl) (.n (fun _ => op_extract (.plain rfl) rfl) (.n (fun _ => op_assign (.plain rfl)) (.n (fun _ => op_assign (.plain rfl)) (.n (fun _ => op_assign (.plain rfl)) (.n (fun _ => op_assign (.plain rfl)) (.nil _))))))))))))) ?_
    refine awp_seq ?_
    refine awp_region rfl (.n (fun _ => op_load_agg Tryd.isAgg24 Tryd.sizeOf24 (.plain rfl) (Nat.le_of_ble_eq_true rfl)) (.n (fun _ => op_move (.plain rfl)) (.n (fun _ => op_call2 Tryd.call12 (.plain rfl) (.plain rfl) (StableR_fc _ _ _)) (.n (fun _ => op_move (.plain rfl)) (.n (fun _ => op_extract (.plain rfl) rfl) (.n (fun _ => op_extract (.plain rfl) rfl) (.n (fun _ => op_extract (.plain rfl) rfl) (.n (fun _ => op_extract (.plain rfl) rfl) (.n (fun _ => op_assign (.plain rfl)) (.n (fun _ => op_assign (.plain rfl)) (.n (fun _ => op_assign (.plain rfl)) (.n (fun _ => op_assign (.plain rfl)) (.nil _))))))))))))) ?_
    refine awp_seq ?_
    refine awp_seq ?_
    refine awp_region_draw mixed rfl (.n (fun _ => op_load_agg Tryd.isAgg24 Tryd.sizeOf24 (.plain rfl) (Nat.le_of_ble_eq_true rfl)) (.n (fun _ => op_call1 Tryd.call13 (.plain rfl) (mMay_fc _ _)) (.n (fun _ => op_load_agg Tryd.isAgg24 Tryd.sizeOf24 (.plain rfl) (Nat.le_of_ble_eq_true rfl)) (.n (fun _ => op_call1 Tryd.call14 (.plain rfl) (MatchMay_fc _ _)) (.n (fun _ => op_neq (.plain rfl) (.plain rfl)) (.n (fun _ => op_move (.plain rfl)) (.gn rfl rfl (fun hg _ => op_move (.plain rfl)) (.gn rfl rfl (fun hg _ => op_move (.plain rfl)) (.gn rfl rfl (fun hg _ => op_neb Tryd.underlying4 (.opt rfl fun h => h) (.opt rfl fun h => h)) (.n (fun _ => op_or (.plain rfl) (.plain rfl) (.plain rfl) (fun h => eqF h)) (.n (fun _ => op_move (.plain rfl)) (.gn rfl rfl (fun hg _ => op_move (.plain rfl)) (.gn rfl rfl (fun hg _ => op_move (.plain rfl)) (.gn rfl rfl (fun hg _ => op_neq (.opt rfl fun h => h) (.opt rfl fun h => h)) (.n (fun _ => op_or (.plain rfl) (.plain rfl) (.plain rfl) (fun h => eqF h)) (.n (fun _ => op_move (.plain rfl)) (.gn rfl rfl (fun hg _ => op_move (.plain rfl)) (.gn rfl rfl (fun hg _ => op_move (.plain rfl)) (.gn rfl rfl (fun hg _ => op_neq (.opt rfl fun h => h) (.opt rfl fun h => h)) (.n (fun _ => op_or (.plain rfl) (.plain rfl) (.plain rfl) (fun h => eqF h)) (.n (fun _ => op_move (.plain rfl)) (.gn rfl rfl (fun hg _ => op_move (.plain rfl)) (.gn rfl rfl (fun hg _ => op_move (.plain rfl)) (.gn rfl rfl (fun hg _ => op_neq (.opt rfl fun h => h) (.opt rfl fun h => h)) (.n (fun _ => op_or (.plain rfl) (.plain rfl) (.plain rfl) (fun h => eqF h)) (.nil _)))))))))))))))))))))))))) ?d15 ?_
    · kernel_rfl
    refine awp_cond rfl (fun h => ?_) (fun h => ?_)
    · (try simp only [decide_eq_true_eq, decide_eq_false_iff_not, Bool.and_eq_true, Bool.or_eq_true, Bool.and_eq_false_iff, Bool.or_eq_false_iff, Bool.not_eq_true', Bool.not_eq_false', Bool.not_eq_true, Bool.not_eq_false, Bool.true_eq_false, Bool.false_eq_true] at h); (try simp only [foldN, foldR, foldL, Int.toNat_natCast] at h)
      refine awp_seq ?_
      refine awp_region rfl (.n (fun _ => op_assign (.plain rfl)) (.nil _)) ?_
      refine awp_ret ?_
      refine retQ.ret ?_
      refine ret1 rfl rfl rfl ?_
      exfalso
      simp at h
    · (try simp only [decide_eq_true_eq, decide_eq_false_iff_not, Bool.and_eq_true, Bool.or_eq_true, Bool.and_eq_false_iff, Bool.or_eq_false_iff, Bool.not_eq_true', Bool.not_eq_false', Bool.not_eq_true, Bool.not_eq_false, Bool.true_eq_false, Bool.false_eq_true] at h); (try simp only [foldN, foldR, foldL, Int.toNat_natCast] at h)
      refine awp_skip ?_
      refine awp_seq ?_
      refine awp_region rfl (.n (fun _ => op_load_agg Tryd.isAgg24 Tryd.sizeOf24 (.plain rfl) (Nat.le_of_ble_eq_true rfl)) (.n (fun _ => op_move (.plain rfl)) (.n (fun _ => op_move (.plain rfl)) (.n (fun _ => op_call3 Tryd.call15 (.plain rfl) (.plain rfl) (.plain rfl) (Join_fc _ _ _ _)) (.n (fun _ => op_move (.plain rfl)) (.n (fun _ => op_extract (.plain rfl) rfl) (.n (fun _ => op_extract (.plain rfl) rfl) (.n (fun _ => op_assign (.plain rfl)) (.n (fun _ => op_assign (.plain rfl)) (.nil _)))))))))) ?_
      refine awp_seq ?_
      refine awp_region rfl (.n (fun _ => op_load_agg Tryd.isAgg24 Tryd.sizeOf24 (.plain rfl) (Nat.le_of_ble_eq_true rfl)) (.n (fun _ => op_move (.plain rfl)) (.n (fun _ => op_move (.plain rfl)) (.n (fun _ => op_call4 Tryd.call16 (.plain rfl) (.plain rfl) (.plain rfl) (.plain rfl) (Blend_fc _ _ _ _ _)) (.n (fun _ => op_move (.plain rfl)) (.n (fun _ => op_extract (.plain rfl) rfl) (.n (fun _ => op_extract (.plain rfl) rfl) (.n (fun _ => op_assign (.plain rfl)) (.n (fun _ => op_assign (.plain rfl)) (.nil _)))))))))) ?_
      refine awp_seq ?_
      refine awp_seq ?_
      refine awp_region rfl (.n (fun _ => op_move (.plain rfl)) (.n (fun _ => op_move (.plain rfl)) (.n (fun _ => op_neq (.plain rfl) (.plain rfl)) (.n (fun _ => op_move (.plain rfl)) (.gn rfl rfl (fun hg _ => op_move (.plain rfl)) (.gn rfl rfl (fun hg _ => op_move (.plain rfl)) (.gn rfl rfl (fun hg _ => op_call2 Tryd.call17 (.opt rfl fun h => h) (.opt rfl fun h => h) (sameInts_fc _ _)) (.gn rfl rfl (fun hg _ => op_not (.opt rfl fun h => h)) (.n (fun _ => op_or (.plain rfl) (.plain rfl) (.plain rfl) (fun h => eqF h)) (.nil _)))))))))) ?_
      refine awp_cond rfl (fun h => ?_) (fun h => ?_)
      · (try simp only [decide_eq_true_eq, decide_eq_false_iff_not, Bool.and_eq_true, Bool.or_eq_true, Bool.and_eq_false_iff, Bool.or_eq_false_iff, Bool.not_eq_true', Bool.not_eq_false', Bool.not_eq_true, Bool.not_eq_false, Bool.true_eq_false, Bool.false_eq_true] at h); (try simp only [foldN, foldR, foldL, Int.toNat_natCast] at h)
        refine awp_seq ?_
        refine awp_region rfl (.n (fun _ => op_assign (.plain rfl)) (.nil _)) ?_
        refine awp_ret ?_
        refine retQ.ret ?_
        refine ret1 rfl rfl rfl ?_
        exfalso
        simp at h
      · (try simp only [decide_eq_true_eq, decide_eq_false_iff_not, Bool.and_eq_true, Bool.or_eq_true, Bool.and_eq_false_iff, Bool.or_eq_false_iff, Bool.not_eq_true', Bool.not_eq_false', Bool.not_eq_true, Bool.not_eq_false, Bool.true_eq_false, Bool.false_eq_true] at h); (try simp only [foldN, foldR, foldL, Int.toNat_natCast] at h)
        refine awp_skip ?_
        refine awp_seq ?_
        refine awp_region rfl (.n (fun _ => op_load_agg Tryd.isAgg24 Tryd.sizeOf24 (.plain rfl) (Nat.le_of_ble_eq_true rfl)) (.n (fun _ => op_move (.plain rfl)) (.n (fun _ => op_move (.plain rfl)) (.n (fun _ => op_call3 Tryd.call18 (.plain rfl) (.plain rfl) (.plain rfl) (Meet_fc _ _ _ _)) (.n (fun _ => op_move (.plain rfl)) (.n (fun _ => op_extract (.plain rfl) rfl) (.n (fun _ => op_extract (.plain rfl) rfl) (.n (fun _ => op_assign (.plain rfl)) (.n (fun _ => op_assign (.plain rfl)) (.nil _)))))))))) ?_
        refine awp_seq ?_
        refine awp_region rfl (.n (fun _ => op_load_agg Tryd.isAgg24 Tryd.sizeOf24 (.plain rfl) (Nat.le_of_ble_eq_true rfl)) (.n (fun _ => op_move (.plain rfl)) (.n (fun _ => op_move (.plain rfl)) (.n (fun _ => op_call4 Tryd.call16 (.plain rfl) (.plain rfl) (.plain rfl) (.plain rfl) (Blend_fc _ _ _ _ _)) (.n (fun _ => op_move (.plain rfl)) (.n (fun _ => op_extract (.plain rfl) rfl) (.n (fun _ => op_extract (.plain rfl) rfl) (.n (fun _ => op_assign (.plain rfl)) (.n (fun _ => op_assign (.plain rfl)) (.nil _)))))))))) ?_
        refine awp_seq ?_
        refine awp_region rfl (.n (fun _ => op_move (.plain rfl)) (.n (fun _ => op_move (.plain rfl)) (.n (fun _ => op_eql (.plain rfl) (.plain rfl)) (.n (fun _ => op_move (.plain rfl)) (.gn rfl rfl (fun hg _ => op_move (.plain rfl)) (.gn rfl rfl (fun hg _ => op_move (.plain rfl)) (.gn rfl rfl (fun hg _ => op_call2 Tryd.call17 (.opt rfl fun h => h) (.opt rfl fun h => h) (sameInts_fc _ _)) (.n (fun _ => op_and (.plain rfl) (.plain rfl) (.plain rfl) (fun h => eqT h)) (.n (fun _ => op_assign (.plain rfl)) (.nil _)))))))))) ?_
        refine awp_ret ?_
        refine retQ.ret ?_
        refine ret1 rfl rfl rfl ?_
        simp

end Go.Proofs.YtpapnkphlmickaaDoor

