/- What is chosen from the end back, by both ways. Conditions: each theorem names its own. -/
import Derived.Test.YtamdkclkmijfgaaProg
import Derived.Test.YtamdkclkmijfgaaFc
namespace Go.Proofs.Ytamdkclkmijfgaa
open Go.Abs
set_option linter.unusedVariables false
set_option linter.unusedSimpArgs false


/-- The first of the first k at which g is greatest. -/
def amF (g : Nat → Int) : Nat → Nat
  | 0 => 0
  | k + 1 => if g (amF g k) < g k then k else amF g k
theorem amF_lt {g : Nat → Int} : ∀ {k : Nat}, 0 < k → amF g k < k
  | 0, h => by omega
  | k + 1, _ => by
    unfold amF; split
    · omega
    · by_cases e : k = 0
      · subst e; simp [amF]
      · have := amF_lt (g := g) (k := k) (by omega); omega
theorem amF_same {g g' : Nat → Int} : ∀ {k : Nat}, (∀ j, j < k → g j = g' j) → amF g k = amF g' k
  | 0, _ => rfl
  | k + 1, h => by
    have ih := amF_same (g := g) (g' := g') (k := k) fun j hj => h j (by omega)
    unfold amF
    rw [ih, h k (by omega)]
    by_cases e : k = 0
    · subst e; simp only [amF]; by_cases e2 : g 0 < g' 0 <;> by_cases e3 : g' 0 < g' 0 <;> simp [e2, e3]
    · rw [h (amF g' k) (by have := amF_lt (g := g') (k := k) (by omega); omega)]
theorem amF_ge {g : Nat → Int} : ∀ {k : Nat}, ∀ j, j < k → g j ≤ g (amF g k)
  | k + 1, j, hj => by
    unfold amF
    split
    · rename_i h
      by_cases e : j = k
      · subst e; omega
      · have := amF_ge (g := g) (k := k) j (by omega); omega
    · rename_i h
      by_cases e : j = k
      · subst e; omega
      · exact amF_ge (g := g) (k := k) j (by omega)
def bkV (N : List Nd) (c : List Int) (a k : Nat) : Int := (wF N c (kidN N a k)).getD (plF N a).toNat 0
def bkI (N : List Nd) (a : Nat) : Nat → List Int → List Int
  | 0, c => c
  | k + 1, c => if bkV N (bkI N a k c) a ((bkI N a k c).getD a 0).toNat < bkV N (bkI N a k c) a k then (bkI N a k c).set a (k : Int) else bkI N a k c
def bkC (N : List Nd) : Nat → List Int
  | 0 => List.replicate N.length 0
  | t + 1 => bkI N (N.length - 1 - t) (kidsF N (N.length - 1 - t)).length (bkC N t)
def bkA (N : List Nd) : List Int := bkC N N.length
theorem getD_setI {l : List Int} {g : Nat} (w : Int) (hg : g < l.length) (j : Nat) : (l.set g w).getD j 0 = if j = g then w else l.getD j 0 := by
  simp only [List.getD_eq_getElem?_getD, List.getElem?_set]
  by_cases e : j = g
  · subst e; simp [hg]
  · simp [e, show ¬ g = j from fun c => e c.symm]
theorem list_eqI {l m : List Int} (hl : l.length = m.length) (h : ∀ j, j < l.length → l.getD j 0 = m.getD j 0) : l = m := List.ext_getElem hl fun j h1 h2 => by
  have := h j h1
  simpa [List.getD_eq_getElem?_getD, h1, h2] using this
section
variable {P : Int} {N : List Nd}
theorem ch_set (hT : TrOk P N) {c : List Int} (hC : ChOk N c) {a k : Nat} (ha : a < N.length) (hk : k < (kidsF N a).length) : ChOk N (c.set a (k : Int)) := by
  refine ⟨by rw [List.length_set]; exact hC.len, fun i hi => ?_⟩
  rw [getD_setI _ (by rw [hC.len]; exact ha)]
  split
  · rename_i e; subst e; exact ⟨by omega, .inr (by omega)⟩
  · exact hC.ok i hi
theorem bkI_ok (hT : TrOk P N) {a : Nat} (ha : a < N.length) {c : List Int} (hC : ChOk N c) : ∀ {k : Nat}, k ≤ (kidsF N a).length → ChOk N (bkI N a k c)
  | 0, _ => hC
  | k + 1, hk => by
    have ih := bkI_ok hT ha hC (k := k) (by omega)
    unfold bkI; split
    · exact ch_set hT ih ha (by omega)
    · exact ih
theorem bkI_eq (hT : TrOk P N) {a : Nat} (ha : a < N.length) {c : List Int} (hC : ChOk N c) (h0 : c.getD a 0 = 0) : ∀ {k : Nat}, k ≤ (kidsF N a).length → bkI N a k c = c.set a ((amF (bkV N c a) k : Nat) : Int)
  | 0, _ => by
    refine (list_eqI (by simp [bkI]) fun j hj => ?_)
    show c.getD j 0 = _
    rw [getD_setI _ (by rw [hC.len]; exact ha)]
    split
    · rename_i e; subst e; exact h0
    · rfl
  | k + 1, hk => by
    have ih := bkI_eq hT ha hC h0 (k := k) (by omega)
    have hl : a < c.length := by rw [hC.len]; exact ha
    have ho := bkI_ok hT ha hC (k := k) (by omega)
    have hv : ∀ j, j < (kidsF N a).length → bkV N (bkI N a k c) a j = bkV N c a j := fun j hj => by
      have hkk := kid_in hT ha hj
      unfold bkV
      rw [wF_congr hT ho hC hkk.2.2 fun i hi hi2 => ?_]
      rw [ih, getD_setI _ hl, if_neg (by omega)]
    have hg : (bkI N a k c).getD a 0 = (amF (bkV N c a) k : Nat) := by rw [ih, getD_setI _ hl, if_pos rfl]
    have hlt : amF (bkV N c a) k < (kidsF N a).length := by
      by_cases e : k = 0
      · subst e; simp only [amF]; omega
      · have := amF_lt (g := bkV N c a) (k := k) (by omega); omega
    unfold bkI amF
    rw [hg, Int.toNat_natCast, hv _ hlt, hv k (by omega)]
    split
    · rw [ih, List.set_set]
    · rw [ih]
theorem bkC_ok (hT : TrOk P N) : ∀ {t : Nat}, t ≤ N.length → ChOk N (bkC N t) ∧ ∀ j, j < N.length - t → (bkC N t).getD j 0 = 0
  | 0, _ => by
    have h : ∀ i, i < N.length → (bkC N 0).getD i 0 = 0 := fun i hi => by unfold bkC; simp [List.getD_eq_getElem?_getD, hi]
    exact ⟨⟨by simp [bkC], fun i hi => by rw [h i hi]; exact ⟨by omega, .inl rfl⟩⟩, fun j hj => h j (by omega)⟩
  | t + 1, ht => by
    obtain ⟨h1, h2⟩ := bkC_ok hT (t := t) (by omega)
    have ha : N.length - 1 - t < N.length := by omega
    refine ⟨bkI_ok hT ha h1 (Nat.le_refl _), fun j hj => ?_⟩
    show (bkI N (N.length - 1 - t) (kidsF N (N.length - 1 - t)).length (bkC N t)).getD j 0 = 0
    rw [bkI_eq hT ha h1 (h2 _ (by omega)) (Nat.le_refl _), getD_setI _ (by rw [h1.len]; exact ha), if_neg (by omega)]
    exact h2 j (by omega)
theorem bkC_step (hT : TrOk P N) {t : Nat} (ht : t < N.length) (j : Nat) : (bkC N (t + 1)).getD j 0 = if j = N.length - 1 - t then ((amF (bkV N (bkC N t) (N.length - 1 - t)) (kidsF N (N.length - 1 - t)).length : Nat) : Int) else (bkC N t).getD j 0 := by
  obtain ⟨h1, h2⟩ := bkC_ok hT (t := t) (by omega)
  have ha : N.length - 1 - t < N.length := by omega
  show (bkI N (N.length - 1 - t) (kidsF N (N.length - 1 - t)).length (bkC N t)).getD j 0 = _
  rw [bkI_eq hT ha h1 (h2 _ (by omega)) (Nat.le_refl _), getD_setI _ (by rw [h1.len]; exact ha)]
theorem bkC_keep (hT : TrOk P N) {t : Nat} : ∀ d, t + d ≤ N.length → ∀ j, N.length - t ≤ j → j < N.length → (bkC N (t + d)).getD j 0 = (bkC N t).getD j 0
  | 0, _, j, _, _ => rfl
  | d + 1, h, j, hj, hj2 => by
    rw [← Nat.add_assoc, bkC_step hT (by omega), if_neg (by omega)]
    exact bkC_keep hT d (by omega) j hj hj2
theorem bkA_ok (hT : TrOk P N) : ChOk N (bkA N) := (bkC_ok hT (Nat.le_refl _)).1
/-- WHAT IS CHOSEN: the first of the best, all that comes behind being so. -/
theorem bkA_at (hT : TrOk P N) {a : Nat} (ha : a < N.length) : (bkA N).getD a 0 = (amF (bkV N (bkA N) a) (kidsF N a).length : Nat) := by
  have hk1 := bkC_keep hT (t := N.length - a) a (by omega) a (by omega) ha
  rw [show N.length - a + a = N.length by omega] at hk1
  have hs := bkC_step hT (t := N.length - 1 - a) (by omega) a
  rw [show N.length - 1 - a + 1 = N.length - a by omega, show N.length - 1 - (N.length - 1 - a) = a by omega, if_pos rfl] at hs
  show (bkC N N.length).getD a 0 = _
  rw [hk1, hs]
  congr 1
  refine amF_same fun j hj => ?_
  have hkk := kid_in hT ha hj
  unfold bkV
  rw [wF_congr hT (bkC_ok hT (t := N.length - 1 - a) (by omega)).1 (bkA_ok hT) hkk.2.2 fun i hi hi2 => ?_]
  have := bkC_keep hT (t := N.length - 1 - a) (a + 1) (by omega) i (by omega) hi2
  rw [show N.length - 1 - a + (a + 1) = N.length by omega] at this
  exact this.symm
/-! ### The same, from the beginning on -/
def bfK (N : List Nd) (F : Nat → List Int → List Int × List Int) (a : Nat) : Nat → List Int → List Int × List Int
  | 0, c => F (kidN N a 0) c
  | k + 1, c => if (bfK N F a k c).2.getD (plF N a).toNat 0 < (F (kidN N a (k + 1)) (bfK N F a k c).1).2.getD (plF N a).toNat 0 then ((F (kidN N a (k + 1)) (bfK N F a k c).1).1.set a ((k + 1 : Nat) : Int), (F (kidN N a (k + 1)) (bfK N F a k c).1).2) else ((F (kidN N a (k + 1)) (bfK N F a k c).1).1, (bfK N F a k c).2)
def bf (N : List Nd) : Nat → Nat → List Int → List Int × List Int
  | 0, _, c => (c, [])
  | f + 1, a, c => if (kidsF N a).length = 0 then (c, payF N a) else bfK N (bf N f) a ((kidsF N a).length - 1) c
inductive Rch (N : List Nd) : Nat → Nat → Prop
  | refl (a : Nat) : Rch N a a
  | step (a k j : Nat) (hk : k < (kidsF N a).length) (h : Rch N (kidN N a k) j) : Rch N a j
theorem Rch.snoc {a b k : Nat} (h : Rch N a b) (hk : k < (kidsF N b).length) : Rch N a (kidN N b k) := by
  induction h with
  | refl a => exact .step a k _ hk (.refl _)
  | step a k' j hk' h ih => exact .step a k' _ hk' (ih hk)
structure BfOk (N : List Nd) (a : Nat) (c c' : List Int) : Prop where
  len : c'.length = N.length
  low : ∀ j, j < a → c'.getD j 0 = c.getD j 0
  mix : ∀ j, a ≤ j → j < N.length → c'.getD j 0 = 0 ∨ c'.getD j 0 = (bkA N).getD j 0
  keep : ∀ j, a ≤ j → j < N.length → c.getD j 0 = (bkA N).getD j 0 → c'.getD j 0 = (bkA N).getD j 0
  all : ∀ j, j < N.length → Rch N a j → c'.getD j 0 = (bkA N).getD j 0
theorem bf_ok (hT : TrOk P N) : ∀ (f a : Nat) (c : List Int), a < N.length → N.length - a ≤ f → c.length = N.length → (∀ j, a ≤ j → j < N.length → c.getD j 0 = 0 ∨ c.getD j 0 = (bkA N).getD j 0) → (bf N f a c).2 = wF N (bkA N) a ∧ BfOk N a c (bf N f a c).1
  | 0, a, c, ha, hf, _, _ => by omega
  | f + 1, a, c, ha, hf, hl, hm => by
    have hB := bkA_at hT ha
    by_cases h : (kidsF N a).length = 0
    · have e : bf N (f + 1) a c = (c, payF N a) := by rw [bf, if_pos h]
      rw [e]
      refine ⟨(wF_leaf hT ha h).symm, hl, fun _ _ => rfl, hm, fun j _ _ hj => hj, fun j hj hr => ?_⟩
      cases hr with
      | refl =>
        rw [h] at hB
        rcases hm a (Nat.le_refl _) ha with h1 | h1
        · rw [h1, hB]; rfl
        · exact h1
      | step _ k _ hk _ => omega
    · have e : bf N (f + 1) a c = bfK N (bf N f) a ((kidsF N a).length - 1) c := by rw [bf, if_neg h]
      -- after so many kids
      have key : ∀ k, k < (kidsF N a).length → (bfK N (bf N f) a k c).2 = wF N (bkA N) (kidN N a (amF (bkV N (bkA N) a) (k + 1))) ∧ (bfK N (bf N f) a k c).1.length = N.length ∧ (∀ j, j < a → (bfK N (bf N f) a k c).1.getD j 0 = c.getD j 0) ∧
          (bfK N (bf N f) a k c).1.getD a 0 = (if amF (bkV N (bkA N) a) (k + 1) = 0 then c.getD a 0 else ((amF (bkV N (bkA N) a) (k + 1) : Nat) : Int)) ∧
          (∀ j, a < j → j < N.length → (bfK N (bf N f) a k c).1.getD j 0 = 0 ∨ (bfK N (bf N f) a k c).1.getD j 0 = (bkA N).getD j 0) ∧ (∀ j, a < j → j < N.length → c.getD j 0 = (bkA N).getD j 0 → (bfK N (bf N f) a k c).1.getD j 0 = (bkA N).getD j 0) ∧
          ∀ q, q ≤ k → ∀ j, j < N.length → Rch N (kidN N a q) j → (bfK N (bf N f) a k c).1.getD j 0 = (bkA N).getD j 0 := by
        intro k
        induction k with
        | zero =>
          intro hk
          have hkk := kid_in hT ha hk
          obtain ⟨g1, g2⟩ := bf_ok hT f (kidN N a 0) c hkk.2.2 (by omega) hl fun j hj hj2 => hm j (by omega) hj2
          have e1 : amF (bkV N (bkA N) a) (0 + 1) = 0 := by simp [amF]
          rw [e1]
          refine ⟨g1, g2.len, fun j hj => g2.low j (by omega), by rw [if_pos rfl]; exact g2.low a hkk.2.1, fun j hj hj2 => ?_, fun j hj hj2 hc => ?_, fun q hq j hj hr => ?_⟩
          · show (bf N f (kidN N a 0) c).1.getD j 0 = 0 ∨ (bf N f (kidN N a 0) c).1.getD j 0 = _
            rcases Nat.lt_or_ge j (kidN N a 0) with h1 | h1
            · rw [g2.low j h1]; exact hm j (by omega) hj2
            · exact g2.mix j h1 hj2
          · show (bf N f (kidN N a 0) c).1.getD j 0 = _
            rcases Nat.lt_or_ge j (kidN N a 0) with h1 | h1
            · rw [g2.low j h1]; exact hc
            · exact g2.keep j h1 hj2 hc
          · obtain rfl : q = 0 := by omega
            exact g2.all j hj hr
        | succ k ih =>
          intro hk
          obtain ⟨i1, i2, i3, i4, i5, i6, i7⟩ := ih (by omega)
          have hkk := kid_in hT ha hk
          obtain ⟨g1, g2⟩ := bf_ok hT f (kidN N a (k + 1)) (bfK N (bf N f) a k c).1 hkk.2.2 (by omega) i2 fun j hj hj2 => i5 j (by omega) hj2
          have hlow : ∀ j, j < a → (bf N f (kidN N a (k + 1)) (bfK N (bf N f) a k c).1).1.getD j 0 = c.getD j 0 := fun j hj => by rw [g2.low j (by omega)]; exact i3 j hj
          have hat : (bf N f (kidN N a (k + 1)) (bfK N (bf N f) a k c).1).1.getD a 0 = (if amF (bkV N (bkA N) a) (k + 1) = 0 then c.getD a 0 else ((amF (bkV N (bkA N) a) (k + 1) : Nat) : Int)) := by rw [g2.low a hkk.2.1]; exact i4
          have hmix : ∀ j, a < j → j < N.length → (bf N f (kidN N a (k + 1)) (bfK N (bf N f) a k c).1).1.getD j 0 = 0 ∨ (bf N f (kidN N a (k + 1)) (bfK N (bf N f) a k c).1).1.getD j 0 = (bkA N).getD j 0 := fun j hj hj2 => by
            rcases Nat.lt_or_ge j (kidN N a (k + 1)) with h1 | h1
            · rw [g2.low j h1]; exact i5 j hj hj2
            · exact g2.mix j h1 hj2
          have hkeep : ∀ j, a < j → j < N.length → (bfK N (bf N f) a k c).1.getD j 0 = (bkA N).getD j 0 → (bf N f (kidN N a (k + 1)) (bfK N (bf N f) a k c).1).1.getD j 0 = (bkA N).getD j 0 := fun j hj hj2 hc => by
            rcases Nat.lt_or_ge j (kidN N a (k + 1)) with h1 | h1
            · rw [g2.low j h1]; exact hc
            · exact g2.keep j h1 hj2 hc
          have hgt : ∀ q j, q ≤ k + 1 → Rch N (kidN N a q) j → j < N.length → a < j := by
            have : ∀ b j, Rch N b j → b < N.length → b ≤ j := by
              intro b j hr
              induction hr with
              | refl => intro _; omega
              | step b k j hk hr ih => intro hb; have := kid_in hT hb hk; have := ih this.2.2; omega
            intro q j hq hr hj
            have hq2 := kid_in hT ha (k := q) (by omega)
            have := this _ _ hr hq2.2.2; omega
          have hall : ∀ q, q ≤ k + 1 → ∀ j, j < N.length → Rch N (kidN N a q) j → (bf N f (kidN N a (k + 1)) (bfK N (bf N f) a k c).1).1.getD j 0 = (bkA N).getD j 0 := fun q hq j hj hr => by
            by_cases e2 : q = k + 1
            · subst e2; exact g2.all j hj hr
            · exact hkeep j (hgt q j hq hr hj) hj (i7 q (by omega) j hj hr)
          have hcmp : ((bfK N (bf N f) a k c).2.getD (plF N a).toNat 0 < (bf N f (kidN N a (k + 1)) (bfK N (bf N f) a k c).1).2.getD (plF N a).toNat 0) ↔ bkV N (bkA N) a (amF (bkV N (bkA N) a) (k + 1)) < bkV N (bkA N) a (k + 1) := by rw [i1, g1]; rfl
          have ea : amF (bkV N (bkA N) a) (k + 1 + 1) = if bkV N (bkA N) a (amF (bkV N (bkA N) a) (k + 1)) < bkV N (bkA N) a (k + 1) then k + 1 else amF (bkV N (bkA N) a) (k + 1) := rfl
          by_cases hlt : bkV N (bkA N) a (amF (bkV N (bkA N) a) (k + 1)) < bkV N (bkA N) a (k + 1)
          · have eb : bfK N (bf N f) a (k + 1) c = ((bf N f (kidN N a (k + 1)) (bfK N (bf N f) a k c).1).1.set a ((k + 1 : Nat) : Int), (bf N f (kidN N a (k + 1)) (bfK N (bf N f) a k c).1).2) := by rw [bfK, if_pos (hcmp.2 hlt)]
            rw [eb, ea, if_pos hlt]
            have hal : a < (bf N f (kidN N a (k + 1)) (bfK N (bf N f) a k c).1).1.length := by rw [g2.len]; exact ha
            refine ⟨g1, by rw [List.length_set]; exact g2.len, fun j hj => ?_, ?_, fun j hj hj2 => ?_, fun j hj hj2 hc => ?_, fun q hq j hj hr => ?_⟩
            · show (List.set _ _ _).getD j 0 = _
              rw [getD_setI _ hal, if_neg (by omega)]; exact hlow j hj
            · show (List.set _ _ _).getD a 0 = _
              rw [getD_setI _ hal, if_pos rfl, if_neg (by omega)]
            · show (List.set _ _ _).getD j 0 = 0 ∨ (List.set _ _ _).getD j 0 = _
              rw [getD_setI _ hal, if_neg (by omega)]; exact hmix j hj hj2
            · show (List.set _ _ _).getD j 0 = _
              rw [getD_setI _ hal, if_neg (by omega)]; exact hkeep j hj hj2 (i6 j hj hj2 hc)
            · have := hgt q j hq hr hj
              show (List.set _ _ _).getD j 0 = _
              rw [getD_setI _ hal, if_neg (by omega)]; exact hall q hq j hj hr
          · have eb : bfK N (bf N f) a (k + 1) c = ((bf N f (kidN N a (k + 1)) (bfK N (bf N f) a k c).1).1, (bfK N (bf N f) a k c).2) := by rw [bfK, if_neg fun c => hlt (hcmp.1 c)]
            rw [eb, ea, if_neg hlt]
            exact ⟨i1, g2.len, hlow, hat, hmix, fun j hj hj2 hc => hkeep j hj hj2 (i6 j hj hj2 hc), hall⟩
      obtain ⟨k1, k2, k3, k4, k5, k6, k7⟩ := key ((kidsF N a).length - 1) (by omega)
      rw [show (kidsF N a).length - 1 + 1 = (kidsF N a).length by omega] at k1 k4
      rw [e]
      have hBa : (bfK N (bf N f) a ((kidsF N a).length - 1) c).1.getD a 0 = (bkA N).getD a 0 := by
        rw [k4, hB]
        split
        · rename_i h0
          rw [h0] at hB ⊢
          rcases hm a (Nat.le_refl _) ha with h1 | h1
          · rw [h1]; rfl
          · rw [h1, hB]
        · rfl
      refine ⟨?_, k2, k3, fun j hj hj2 => ?_, fun j hj hj2 hc => ?_, fun j hj hr => ?_⟩
      · rw [k1, wF_step hT (bkA_ok hT) ha h]
        unfold nxF
        rw [hB, Int.toNat_natCast]; rfl
      · by_cases e2 : j = a
        · subst e2; exact .inr hBa
        · exact k5 j (by omega) hj2
      · by_cases e2 : j = a
        · subst e2; exact hBa
        · exact k6 j (by omega) hj2 hc
      · cases hr with
        | refl => exact hBa
        | step _ k _ hk hr => exact k7 k (by omega) j hj hr
theorem rch_all (hT : TrOk P N) : ∀ j, j < N.length → Rch N 0 j := by
  intro j
  induction j using Nat.strongRecOn with
  | _ j ih =>
    intro hj
    by_cases e : j = 0
    · subst e; exact .refl 0
    · have h1 := hT.par j (by omega) hj
      have : ∃ i, i < N.length ∧ 0 ≤ placeF (kidsF N i) (j : Nat) := by
        apply Classical.byContradiction
        intro hno
        have hz : sumTo (overF N j) N.length = sumTo (fun _ => 0) N.length := sumTo_same fun i hi => if_neg fun c => hno ⟨i, hi, c⟩
        have hz2 : ∀ n, sumTo (fun _ => 0) n = 0 := fun n => by induction n with | zero => rfl | succ n ih => simp [sumTo, ih]
        rw [hz2] at hz; omega
      obtain ⟨i, hi, hp⟩ := this
      obtain ⟨p, _, hlt, hx⟩ := place_at (place_mem.1 hp)
      have hk := kid_in hT hi hlt
      have e2 : kidN N i p = j := by omega
      rw [← e2]
      exact (ih i (by omega) hi).snoc hlt
theorem bf_all (hT : TrOk P N) : (bf N N.length 0 (List.replicate N.length 0)).1 = bkA N := by
  have hn := hT.n1
  have h0 : ∀ j, j < N.length → (List.replicate N.length (0 : Int)).getD j 0 = 0 := fun j hj => by simp [List.getD_eq_getElem?_getD, hj]
  obtain ⟨_, h⟩ := bf_ok hT N.length 0 (List.replicate N.length 0) (by omega) (by omega) (by simp) fun j _ hj => .inl (h0 j hj)
  exact list_eqI (h.len.trans (bkA_ok hT).len.symm) fun j hj => h.all j (by rw [← h.len]; exact hj) (rch_all hT j (by rw [← h.len]; exact hj))
theorem bf_len (hT : TrOk P N) : ∀ (f a : Nat) (c : List Int), a < N.length → N.length - a ≤ f → c.length = N.length → (bf N f a c).1.length = N.length ∧ ((bf N f a c).2.length : Int) = P
  | 0, a, c, ha, hf, _ => by omega
  | f + 1, a, c, ha, hf, hl => by
    by_cases h : (kidsF N a).length = 0
    · rw [bf, if_pos h]; exact ⟨hl, (hT.leaf a ha h).2.1⟩
    · rw [bf, if_neg h]
      have key : ∀ k, k < (kidsF N a).length → (bfK N (bf N f) a k c).1.length = N.length ∧ ((bfK N (bf N f) a k c).2.length : Int) = P := by
        intro k
        induction k with
        | zero => intro hk; have hkk := kid_in hT ha hk; exact bf_len hT f _ c hkk.2.2 (by omega) hl
        | succ k ih =>
          intro hk
          have hkk := kid_in hT ha hk
          have i := ih (by omega)
          have g := bf_len hT f (kidN N a (k + 1)) _ hkk.2.2 (by omega) i.1
          unfold bfK; split
          · exact ⟨by rw [List.length_set]; exact g.1, g.2⟩
          · exact ⟨g.1, i.2⟩
      exact key _ (by omega)
theorem bfK_len (hT : TrOk P N) {f a : Nat} (ha : a < N.length) (hf : N.length - a ≤ f + 1) {c : List Int} (hl : c.length = N.length) : ∀ {k : Nat}, k < (kidsF N a).length → (bfK N (bf N f) a k c).1.length = N.length ∧ ((bfK N (bf N f) a k c).2.length : Int) = P
  | 0, hk => by have hkk := kid_in hT ha hk; exact bf_len hT f _ c hkk.2.2 (by omega) hl
  | k + 1, hk => by
    have hkk := kid_in hT ha hk
    have i := bfK_len hT ha hf hl (k := k) (by omega)
    have g := bf_len hT f (kidN N a (k + 1)) _ hkk.2.2 (by omega) i.1
    unfold bfK; split
    · exact ⟨by rw [List.length_set]; exact g.1, g.2⟩
    · exact ⟨g.1, i.2⟩
theorem bfK_in {F : Nat → List Int → List Int × List Int} {a k : Nat} {c : List Int} (h : (bfK N F a k c).2.getD (plF N a).toNat 0 < (F (kidN N a (k + 1)) (bfK N F a k c).1).2.getD (plF N a).toNat 0) : (F (kidN N a (k + 1)) (bfK N F a k c).1).1.set a ((k + 1 : Nat) : Int) = (bfK N F a (k + 1) c).1 ∧ (F (kidN N a (k + 1)) (bfK N F a k c).1).2 = (bfK N F a (k + 1) c).2 := by
  rw [bfK, if_pos h]; exact ⟨rfl, rfl⟩
theorem bfK_out {F : Nat → List Int → List Int × List Int} {a k : Nat} {c : List Int} (h : ¬ (bfK N F a k c).2.getD (plF N a).toNat 0 < (F (kidN N a (k + 1)) (bfK N F a k c).1).2.getD (plF N a).toNat 0) : (F (kidN N a (k + 1)) (bfK N F a k c).1).1 = (bfK N F a (k + 1) c).1 ∧ (bfK N F a k c).2 = (bfK N F a (k + 1) c).2 := by
  rw [bfK, if_neg h]; exact ⟨rfl, rfl⟩
theorem bf_leaf {f a : Nat} {c : List Int} (h : (kidsF N a).length = 0) : bf N (f + 1) a c = (c, payF N a) := by rw [bf, if_pos h]
theorem bf_in {f a : Nat} {c : List Int} (h : (kidsF N a).length ≠ 0) : bf N (f + 1) a c = bfK N (bf N f) a ((kidsF N a).length - 1) c := by rw [bf, if_neg h]
theorem bkI_in {a k : Nat} {c : List Int} (h : (wF N (bkI N a k c) (kidN N a ((bkI N a k c).getD a 0).toNat)).getD (plF N a).toNat 0 < (wF N (bkI N a k c) (kidN N a k)).getD (plF N a).toNat 0) : (bkI N a k c).set a (k : Int) = bkI N a (k + 1) c := (if_pos h).symm
theorem bkI_out {a k : Nat} {c : List Int} (h : ¬ (wF N (bkI N a k c) (kidN N a ((bkI N a k c).getD a 0).toNat)).getD (plF N a).toNat 0 < (wF N (bkI N a k c) (kidN N a k)).getD (plF N a).toNat 0) : bkI N a k c = bkI N a (k + 1) c := (if_neg h).symm
theorem bkC_end {i k q : Nat} (hi : i = N.length - 1 - k) (hq : q ≤ (kidsF N i).length) (hq2 : ¬ (q : Int) < (kidsF N i).length) : bkI N i q (bkC N k) = bkC N (k + 1) := by
  obtain rfl : q = (kidsF N i).length := by omega
  subst hi; rfl
def bwR (P : Int) (N : List Nd) : List Int := if treeE P N = 0 then bkA N else []
end

theorem SBackward_fc (N : List Nd) : FC Try.prog 25 [.seq (Int × List Int × List Int × Unit) (0, [], [], ()) (fun p => [.i p.1, .ints p.2.1, .ints p.2.2.1]) N] (.clo 41 [.rd [.seq (Int × List Int × List Int × Unit) (0, [], [], ()) (fun p => [.i p.1, .ints p.2.1, .ints p.2.2.1]) N]]) := by
  refine FC.intro Try.func25 rfl (Nat.le_of_ble_eq_true rfl) fun hfit => ?_
  have fit0 := hfit _ (.head _)
  refine awp_seq ?_
  refine awp_region rfl (.n (fun _ => op_box (.plain rfl) (by simp)) (.n (fun _ => op_assign (.plain rfl)) (.nil _))) ?_
  refine awp_seq ?_
  refine awp_region rfl (.n (fun _ => op_makeFunc1 (.plain rfl)) (.n (fun _ => op_assign (.plain rfl)) (.nil _))) ?_
  refine awp_ret ?_
  refine retQ.ret ?_
  refine ret1 rfl rfl rfl ?_
  rfl

theorem back1_fch (P : Int) (N : List Nd) (hn : N.length ≤ 1000) (ps : Array Tmp) (asg bd : Code) (X : Nat → List Int) (hy : ∀ k, k < N.length → YH Try.prog 900 (.yld ps asg bd [.pv .any, .pv (.rd [.i P, .seq (Int × List Int × List Int × Unit) (0, [], [], ()) (fun p => [.i p.1, .ints p.2.1, .ints p.2.2.1]) N]), .pv .any, .pv .any, .pv .any, .ref 5 0, .pv .any, .pv .any, .pv .any, .pv .any, .pv .any, .pv .any, .pv .any, .pv .any, .pv .any, .pv .any, .pv .any, .pv .any, .pv .any, .pv .any, .pv .any, .clo (.func 41) [.pv (.rd [.seq (Int × List Int × List Int × Unit) (0, [], [], ()) (fun p => [.i p.1, .ints p.2.1, .ints p.2.2.1]) N])], .pv .any, .pv .any, .pv .any, .pv .any, .pv .any, .pv .any, .pv .any, .pv .any, .pv .any, .pv .any, .pv .any, .pv .any, .pv .any, .pv .any, .pv .any, .pv .any, .pv .any, .pv .any, .pv .any, .pv .any, .pv .any, .pv .any, .pv .any, .pv .any, .pv .any, .pv .any, .pv .any, .pv .any, .pv .any, .pv .any, .pv .any, .pv .any, .pv .any, .pv .any, .pv .any, .pv .any, .pv .any, .pv .any, .pv .any, .pv .any]) [.int ((N.length - 1 - k : Nat) : Int), .pv (.agg [.i (plF N (N.length - 1 - k)), .ints (kidsF N (N.length - 1 - k)), .ints (payF N (N.length - 1 - k))])] [(5, .box [.own 18]), (18, .arr 3 1 Int 0 (fun n => [.int .i64 n]) (X (k)))] [(5, .box [.own 18]), (18, .arr 3 1 Int 0 (fun n => [.int .i64 n]) (X (k + 1)))]) : FCH Try.prog 41 [.own 900, .pv (.rd [.seq (Int × List Int × List Int × Unit) (0, [], [], ()) (fun p => [.i p.1, .ints p.2.1, .ints p.2.2.1]) N])] [(900, .yld ps asg bd [.pv .any, .pv (.rd [.i P, .seq (Int × List Int × List Int × Unit) (0, [], [], ()) (fun p => [.i p.1, .ints p.2.1, .ints p.2.2.1]) N]), .pv .any, .pv .any, .pv .any, .ref 5 0, .pv .any, .pv .any, .pv .any, .pv .any, .pv .any, .pv .any, .pv .any, .pv .any, .pv .any, .pv .any, .pv .any, .pv .any, .pv .any, .pv .any, .pv .any, .clo (.func 41) [.pv (.rd [.seq (Int × List Int × List Int × Unit) (0, [], [], ()) (fun p => [.i p.1, .ints p.2.1, .ints p.2.2.1]) N])], .pv .any, .pv .any, .pv .any, .pv .any, .pv .any, .pv .any, .pv .any, .pv .any, .pv .any, .pv .any, .pv .any, .pv .any, .pv .any, .pv .any, .pv .any, .pv .any, .pv .any, .pv .any, .pv .any, .pv .any, .pv .any, .pv .any, .pv .any, .pv .any, .pv .any, .pv .any, .pv .any, .pv .any, .pv .any, .pv .any, .pv .any, .pv .any, .pv .any, .pv .any, .pv .any, .pv .any, .pv .any, .pv .any, .pv .any, .pv .any]), (5, .box [.own 18]), (18, .arr 3 1 Int 0 (fun n => [.int .i64 n]) (X (0)))] [(900, .yld ps asg bd [.pv .any, .pv (.rd [.i P, .seq (Int × List Int × List Int × Unit) (0, [], [], ()) (fun p => [.i p.1, .ints p.2.1, .ints p.2.2.1]) N]), .pv .any, .pv .any, .pv .any, .ref 5 0, .pv .any, .pv .any, .pv .any, .pv .any, .pv .any, .pv .any, .pv .any, .pv .any, .pv .any, .pv .any, .pv .any, .pv .any, .pv .any, .pv .any, .pv .any, .clo (.func 41) [.pv (.rd [.seq (Int × List Int × List Int × Unit) (0, [], [], ()) (fun p => [.i p.1, .ints p.2.1, .ints p.2.2.1]) N])], .pv .any, .pv .any, .pv .any, .pv .any, .pv .any, .pv .any, .pv .any, .pv .any, .pv .any, .pv .any, .pv .any, .pv .any, .pv .any, .pv .any, .pv .any, .pv .any, .pv .any, .pv .any, .pv .any, .pv .any, .pv .any, .pv .any, .pv .any, .pv .any, .pv .any, .pv .any, .pv .any, .pv .any, .pv .any, .pv .any, .pv .any, .pv .any, .pv .any, .pv .any, .pv .any, .pv .any, .pv .any, .pv .any, .pv .any, .pv .any]), (5, .box [.own 18]), (18, .arr 3 1 Int 0 (fun n => [.int .i64 n]) (X (N.length)))] (.pv (.tup [])) none := by
  refine FCH.intro Try.func41 rfl (Nat.le_of_ble_eq_true rfl) (Nat.le_of_ble_eq_true rfl) fun hfit ι0 => ?_
  change awp _ _ _ _ ⟨[(0, .own 900), (1, .pv (.rd [.seq (Int × List Int × List Int × Unit) (0, [], [], ()) (fun p => [.i p.1, .ints p.2.1, .ints p.2.2.1]) N])), (1000900, .pin 900 (ι0 900)), (1000005, .pin 5 (ι0 5)), (1000018, .pin 18 (ι0 18))], [(900, .yld ps asg bd [.pv .any, .pv (.rd [.i P, .seq (Int × List Int × List Int × Unit) (0, [], [], ()) (fun p => [.i p.1, .ints p.2.1, .ints p.2.2.1]) N]), .pv .any, .pv .any, .pv .any, .ref 5 0, .pv .any, .pv .any, .pv .any, .pv .any, .pv .any, .pv .any, .pv .any, .pv .any, .pv .any, .pv .any, .pv .any, .pv .any, .pv .any, .pv .any, .pv .any, .clo (.func 41) [.pv (.rd [.seq (Int × List Int × List Int × Unit) (0, [], [], ()) (fun p => [.i p.1, .ints p.2.1, .ints p.2.2.1]) N])], .pv .any, .pv .any, .pv .any, .pv .any, .pv .any, .pv .any, .pv .any, .pv .any, .pv .any, .pv .any, .pv .any, .pv .any, .pv .any, .pv .any, .pv .any, .pv .any, .pv .any, .pv .any, .pv .any, .pv .any, .pv .any, .pv .any, .pv .any, .pv .any, .pv .any, .pv .any, .pv .any, .pv .any, .pv .any, .pv .any, .pv .any, .pv .any, .pv .any, .pv .any, .pv .any, .pv .any, .pv .any, .pv .any, .pv .any, .pv .any]), (5, .box [.own 18]), (18, .arr 3 1 Int 0 (fun n => [.int .i64 n]) (X (0)))]⟩
  have fit1 := hfit _ (.tail _ (.head _))
  refine awp_seq ?_
  refine awp_region rfl (.n (fun _ => op_load Try.isAgg22 (.plain rfl)) (.n (fun _ => op_len (s := 0) Try.underlying22 (.plain rfl)) (.n (fun _ => op_sub (.plain rfl) (.plain rfl) ?_) (.n (fun _ => op_assign (.plain rfl)) (.nil _))))) ?_
  · (try simp only [foldK, foldP, foldL, Int.toNat_natCast])
    unfold InR; omega
  refine awp_block ?_
  refine awp_loop (σ := Nat) (fun (k : Nat) => k ≤ N.length) (fun (k : Nat) => ⟨[(0, .own 900), (1, .pv (.rd [.seq (Int × List Int × List Int × Unit) (0, [], [], ()) (fun p => [.i p.1, .ints p.2.1, .ints p.2.2.1]) N])), (3, .int ((N.length : Nat) - 1 - (k : Nat))), (1000900, .pin 900 (ι0 900)), (1000005, .pin 5 (ι0 5)), (1000018, .pin 18 (ι0 18))], [(900, .yld ps asg bd [.pv .any, .pv (.rd [.i P, .seq (Int × List Int × List Int × Unit) (0, [], [], ()) (fun p => [.i p.1, .ints p.2.1, .ints p.2.2.1]) N]), .pv .any, .pv .any, .pv .any, .ref 5 0, .pv .any, .pv .any, .pv .any, .pv .any, .pv .any, .pv .any, .pv .any, .pv .any, .pv .any, .pv .any, .pv .any, .pv .any, .pv .any, .pv .any, .pv .any, .clo (.func 41) [.pv (.rd [.seq (Int × List Int × List Int × Unit) (0, [], [], ()) (fun p => [.i p.1, .ints p.2.1, .ints p.2.2.1]) N])], .pv .any, .pv .any, .pv .any, .pv .any, .pv .any, .pv .any, .pv .any, .pv .any, .pv .any, .pv .any, .pv .any, .pv .any, .pv .any, .pv .any, .pv .any, .pv .any, .pv .any, .pv .any, .pv .any, .pv .any, .pv .any, .pv .any, .pv .any, .pv .any, .pv .any, .pv .any, .pv .any, .pv .any, .pv .any, .pv .any, .pv .any, .pv .any, .pv .any, .pv .any, .pv .any, .pv .any, .pv .any, .pv .any, .pv .any, .pv .any]), (5, .box [.own 18]), (18, .arr 3 1 Int 0 (fun n => [.int .i64 n]) (X (k)))]⟩) (fun (k : Nat) => N.length - k) 0 ?_ (Ent.kept ⟨rfl, rfl, (congrArg (fun n => some (SV.int n)) (by omega)), rfl, rfl, rfl, trivial⟩ ⟨rfl, rfl, rfl, trivial⟩) ?_
  · exact Nat.zero_le _
  rintro k hp
  try dsimp only at hp
  have hk := hp
  refine awp_seq ?_
  refine awp_seq ?_
  refine awp_region rfl (.n (fun _ => op_move (.plain rfl)) (.n (fun _ => op_geq (.plain rfl) (.plain rfl)) (.nil _))) ?_
  refine awp_cond rfl (fun h => ?_) (fun h => ?_)
  · (try simp only [decide_eq_true_eq, decide_eq_false_iff_not, Bool.and_eq_true, Bool.or_eq_true, Bool.and_eq_false_iff, Bool.or_eq_false_iff, Bool.not_eq_true', Bool.not_eq_false', Bool.not_eq_true, Bool.not_eq_false, Bool.true_eq_false, Bool.false_eq_true] at h); (try simp only [foldK, foldP, foldL] at h)
    refine awp_skip ?_
    refine awp_seq ?_
    refine awp_block ?_
    refine awp_seq ?_
    refine awp_ent (show Ent _ ⟨[(0, .own 900), (1, .pv (.rd [.seq (Int × List Int × List Int × Unit) (0, [], [], ()) (fun p => [.i p.1, .ints p.2.1, .ints p.2.2.1]) N])), (3, .int ((N.length - 1 - k : Nat) : Int)), (1000900, .pin 900 (ι0 900)), (1000005, .pin 5 (ι0 5)), (1000018, .pin 18 (ι0 18))], [(900, .yld ps asg bd [.pv .any, .pv (.rd [.i P, .seq (Int × List Int × List Int × Unit) (0, [], [], ()) (fun p => [.i p.1, .ints p.2.1, .ints p.2.2.1]) N]), .pv .any, .pv .any, .pv .any, .ref 5 0, .pv .any, .pv .any, .pv .any, .pv .any, .pv .any, .pv .any, .pv .any, .pv .any, .pv .any, .pv .any, .pv .any, .pv .any, .pv .any, .pv .any, .pv .any, .clo (.func 41) [.pv (.rd [.seq (Int × List Int × List Int × Unit) (0, [], [], ()) (fun p => [.i p.1, .ints p.2.1, .ints p.2.2.1]) N])], .pv .any, .pv .any, .pv .any, .pv .any, .pv .any, .pv .any, .pv .any, .pv .any, .pv .any, .pv .any, .pv .any, .pv .any, .pv .any, .pv .any, .pv .any, .pv .any, .pv .any, .pv .any, .pv .any, .pv .any, .pv .any, .pv .any, .pv .any, .pv .any, .pv .any, .pv .any, .pv .any, .pv .any, .pv .any, .pv .any, .pv .any, .pv .any, .pv .any, .pv .any, .pv .any, .pv .any, .pv .any, .pv .any, .pv .any, .pv .any]), (5, .box [.own 18]), (18, .arr 3 1 Int 0 (fun n => [.int .i64 n]) (X (k)))]⟩ from Ent.kept ⟨rfl, rfl, (congrArg (fun n => some (SV.int n)) (by omega)), rfl, rfl, rfl, trivial⟩ ⟨rfl, rfl, rfl, trivial⟩) ?_
    refine awp_region rfl (.n (fun _ => op_move (.plain rfl)) (.n (fun _ => op_move (.plain rfl)) (.n (fun _ => op_load Try.isAgg22 (.plain rfl)) (.n (fun _ => op_move (.plain rfl)) (.n (fun _ => op_indexAddr Try.underlying22 Try.sizeOf51 (.plain rfl) (.plain rfl) (fun _ => rfl) ?_) (.n (fun _ => op_load_agg Try.isAgg51 Try.sizeOf51 (.plain rfl) (Nat.le_of_ble_eq_true rfl)) (.ey (op_yield (y := 900) (ags := [_, _]) (fun k => k) (hy k (by omega)) (.plain rfl) ⟨(.plain rfl), (.plain rfl), trivial⟩ ⟨rfl, rfl, rfl, trivial⟩ (by kernel_rfl)) rfl (.n (fun _ => op_not (.plain rfl)) (.nil _))))))))) ?_
    · (try simp only [foldK, foldP, foldL, Int.toNat_natCast])
      omega
    refine awp_cond rfl (fun h => ?_) (fun h => ?_)
    · first | cases h | exact absurd h (by decide)
    · clear h
      refine awp_skip ?_
      refine awp_region rfl (.n (fun _ => op_move (.plain rfl)) (.n (fun _ => op_sub (.plain rfl) (.plain rfl) ?_) (.n (fun _ => op_assign (.plain rfl)) (.nil _)))) ?_
      · (try simp only [foldK, foldP, foldL, Int.toNat_natCast])
        unfold InR; omega
      exact ⟨k + 1, by omega, by dsimp only; omega, (Ent.kept ⟨rfl, rfl, (congrArg (fun n => some (SV.int n)) (by omega)), rfl, rfl, rfl, trivial⟩ ⟨rfl, rfl, rfl, trivial⟩)⟩
  · (try simp only [decide_eq_true_eq, decide_eq_false_iff_not, Bool.and_eq_true, Bool.or_eq_true, Bool.and_eq_false_iff, Bool.or_eq_false_iff, Bool.not_eq_true', Bool.not_eq_false', Bool.not_eq_true, Bool.not_eq_false, Bool.true_eq_false, Bool.false_eq_true] at h); (try simp only [foldK, foldP, foldL] at h)
    refine awp_exit ?_
    refine retH0 rfl ⟨rfl, rfl, (congrArg (fun q => some (Blk.arr 3 1 Int 0 (fun n => [.int .i64 n]) (X q))) (show k = N.length by omega)), trivial⟩ ⟨.inr rfl, .inr rfl, .inr rfl, trivial⟩ ?_
    rfl

theorem Backward_fc (P : Int) (N : List Nd) : FC Try.prog 10 [.agg [.i P, .seq (Int × List Int × List Int × Unit) (0, [], [], ()) (fun p => [.i p.1, .ints p.2.1, .ints p.2.2.1]) N]] (.tup [.ints (bwR P N), .i (treeE P N)]) := by
  refine FC.intro Try.func10 rfl (Nat.le_of_ble_eq_true rfl) fun hfit => ?_
  have fit0 := hfit _ (.head _)
  refine awp_seq ?_
  refine awp_region rfl (.n (fun _ => op_box (.plain rfl) (by simp)) (.n (fun _ => op_assign (.plain rfl)) (.n (fun _ => op_assign (.plain rfl)) (.nil _)))) ?_
  refine awp_seq ?_
  refine awp_seq ?_
  refine awp_region rfl (.n (fun _ => op_load_agg Try.isAgg24 Try.sizeOf24 (.plain rfl) (Nat.le_of_ble_eq_true rfl)) (.n (fun _ => op_call1 Try.call11 (.plain rfl) (May_fc _ _)) (.n (fun _ => op_assign (.plain rfl)) (.nil _)))) ?_
  refine awp_seq ?_
  refine awp_region rfl (.n (fun _ => op_move (.plain rfl)) (.n (fun _ => op_neq (.plain rfl) (.plain rfl)) (.nil _))) ?_
  refine awp_cond rfl (fun h => ?_) (fun h => ?_)
  · (try simp only [decide_eq_true_eq, decide_eq_false_iff_not, Bool.and_eq_true, Bool.or_eq_true, Bool.and_eq_false_iff, Bool.or_eq_false_iff, Bool.not_eq_true', Bool.not_eq_false', Bool.not_eq_true, Bool.not_eq_false, Bool.true_eq_false, Bool.false_eq_true] at h); (try simp only [foldK, foldP, foldL] at h)
    have hM := h
    refine awp_seq ?_
    refine awp_region rfl (.n (fun _ => op_move (.plain rfl)) (.n (fun _ => op_assign (.plain rfl)) (.n (fun _ => op_assign (.plain rfl)) (.nil _)))) ?_
    refine awp_ent (Ent.nilseq 2 Int 0 (fun n => [.int .i64 n]) rfl) ?_
    refine awp_ret ?_
    refine retQ.ret ?_
    refine ret2 rfl rfl rfl rfl rfl ?_
    unfold bwR
    rw [if_neg hM]
  · (try simp only [decide_eq_true_eq, decide_eq_false_iff_not, Bool.and_eq_true, Bool.or_eq_true, Bool.and_eq_false_iff, Bool.or_eq_false_iff, Bool.not_eq_true', Bool.not_eq_false', Bool.not_eq_true, Bool.not_eq_false, Bool.true_eq_false, Bool.false_eq_true] at h); (try simp only [foldK, foldP, foldL] at h)
    have hM := h
    have hT := tr_of hM
    have hp1 := hT.p1
    have hp5 := hT.p5
    have hn1 := hT.n1
    have hn40 := hT.n40
    refine awp_skip ?_
    refine awp_seq ?_
    refine awp_region rfl (.n (fun _ => op_fieldAddr Try.underlying24 rfl rfl Try.sizeOf22 (.plain rfl)) (.n (fun _ => op_load Try.isAgg22 (.plain rfl)) (.n (fun _ => op_len (s := 0) Try.underlying22 (.plain rfl)) (.e (op_make (α := Int) (d := 0) (f := (fun n => [.int .i64 n])) 18 0 ety25 (.plain rfl) (.plain rfl) (fun _ => rfl) rfl rfl ?_) rfl (.e (op_alloc 5 Try.zeroValue25 rfl rfl rfl) rfl (.e (op_storeR Try.sizeOf25 (.plain rfl) (.plain rfl) rfl (by first | decide | exact Nat.le_of_ble_eq_true rfl) rfl (by simp) (fun i h => by cases h; exact ⟨_, _, _, _, _, _, rfl⟩)) rfl (.nil _))))))) ?_
    · (try simp only [foldK, foldP, foldL, Int.toNat_natCast])
      omega
    refine awp_seq ?_
    refine awp_seq ?_
    refine awp_region rfl (.n (fun _ => op_fieldAddr Try.underlying24 rfl rfl Try.sizeOf22 (.plain rfl)) (.n (fun _ => op_load Try.isAgg22 (.plain rfl)) (.n (fun _ => op_call1 Try.call25 (.plain rfl) (SBackward_fc _)) (.nil _)))) ?_
    refine awp_block ?_
    refine awp_ent (Ent.clo 21 rfl) ?_
    refine awp_ent (show Ent _ ⟨[(1, .pv (.rd [.i P, .seq (Int × List Int × List Int × Unit) (0, [], [], ()) (fun p => [.i p.1, .ints p.2.1, .ints p.2.2.1]) N])), (5, .ref 5 0), (21, .clo (.func 41) [.pv (.rd [.seq (Int × List Int × List Int × Unit) (0, [], [], ()) (fun p => [.i p.1, .ints p.2.1, .ints p.2.2.1]) N])])], [(5, .box [.own 18]), (18, .arr 3 1 Int 0 (fun n => [.int .i64 n]) (bkC N (0)))]⟩ from Ent.kept ⟨rfl, rfl, rfl, trivial⟩ ⟨rfl, rfl, trivial⟩) ?_
    refine awp_rangeFunc (y := 900) (cs := [.pv .any, .pv (.rd [.i P, .seq (Int × List Int × List Int × Unit) (0, [], [], ()) (fun p => [.i p.1, .ints p.2.1, .ints p.2.2.1]) N]), .pv .any, .pv .any, .pv .any, .ref 5 0, .pv .any, .pv .any, .pv .any, .pv .any, .pv .any, .pv .any, .pv .any, .pv .any, .pv .any, .pv .any, .pv .any, .pv .any, .pv .any, .pv .any, .pv .any, .clo (.func 41) [.pv (.rd [.seq (Int × List Int × List Int × Unit) (0, [], [], ()) (fun p => [.i p.1, .ints p.2.1, .ints p.2.2.1]) N])], .pv .any, .pv .any, .pv .any, .pv .any, .pv .any, .pv .any, .pv .any, .pv .any, .pv .any, .pv .any, .pv .any, .pv .any, .pv .any, .pv .any, .pv .any, .pv .any, .pv .any, .pv .any, .pv .any, .pv .any, .pv .any, .pv .any, .pv .any, .pv .any, .pv .any, .pv .any, .pv .any, .pv .any, .pv .any, .pv .any, .pv .any, .pv .any, .pv .any, .pv .any, .pv .any, .pv .any, .pv .any, .pv .any, .pv .any, .pv .any]) (H0 := [(5, .box [.own 18]), (18, .arr 3 1 Int 0 (fun n => [.int .i64 n]) (bkC N (0)))]) (H0' := [(5, .box [.own 18]), (18, .arr 3 1 Int 0 (fun n => [.int .i64 n]) (bkC N (N.length)))]) (v := .pv (.tup [])) (fun k => k) rfl Try.call41 (back1_fch P N (by omega) _ _ _ (bkC N) (fun k hk => (YH.intro rfl fun hfit ι0 l => ?_))) rfl rfl rfl rfl rfl ⟨rfl, rfl, rfl, trivial⟩ (by kernel_rfl) ?_
    · obtain ⟨i, hi⟩ : ∃ i, i = N.length - 1 - k := ⟨_, rfl⟩
      rw [← hi]
      have hil : i < N.length := by omega
      have hC0 := (bkC_ok hT (t := k) (by omega)).1
      change awp _ _ _ _ ⟨[(22, .int (i : Nat)), (23, .pv (.agg [.i (plF N i), .ints (kidsF N i), .ints (payF N i)])), (0, .pv .any), (1, .pv (.rd [.i P, .seq (Int × List Int × List Int × Unit) (0, [], [], ()) (fun p => [.i p.1, .ints p.2.1, .ints p.2.2.1]) N])), (2, .pv .any), (3, .pv .any), (4, .pv .any), (5, .ref 5 0), (6, .pv .any), (7, .pv .any), (8, .pv .any), (9, .pv .any), (10, .pv .any), (11, .pv .any), (12, .pv .any), (13, .pv .any), (14, .pv .any), (15, .pv .any), (16, .pv .any), (17, .pv .any), (18, .pv .any), (19, .pv .any), (20, .pv .any), (21, .clo (.func 41) [.pv (.rd [.seq (Int × List Int × List Int × Unit) (0, [], [], ()) (fun p => [.i p.1, .ints p.2.1, .ints p.2.2.1]) N])]), (22, .pv .any), (23, .pv .any), (24, .pv .any), (25, .pv .any), (26, .pv .any), (27, .pv .any), (28, .pv .any), (29, .pv .any), (30, .pv .any), (31, .pv .any), (32, .pv .any), (33, .pv .any), (34, .pv .any), (35, .pv .any), (36, .pv .any), (37, .pv .any), (38, .pv .any), (39, .pv .any), (40, .pv .any), (41, .pv .any), (42, .pv .any), (43, .pv .any), (44, .pv .any), (45, .pv .any), (46, .pv .any), (47, .pv .any), (48, .pv .any), (49, .pv .any), (50, .pv .any), (51, .pv .any), (52, .pv .any), (53, .pv .any), (54, .pv .any), (55, .pv .any), (56, .pv .any), (57, .pv .any), (58, .pv .any), (59, .pv .any), (60, .pv .any), (61, .pv .any), (1000900, .pin 900 (ι0 900)), (1000005, .pin 5 (ι0 5)), (1000018, .pin 18 (ι0 18))], [(5, .box [.own 18]), (18, .arr 3 1 Int 0 (fun n => [.int .i64 n]) (bkC N (k)))]⟩
      refine awp_ent (show Ent _ ⟨[(22, .int (i : Nat)), (23, .pv (.agg [.i (plF N i), .ints (kidsF N i), .ints (payF N i)])), (1, .pv (.rd [.i P, .seq (Int × List Int × List Int × Unit) (0, [], [], ()) (fun p => [.i p.1, .ints p.2.1, .ints p.2.2.1]) N])), (5, .ref 5 0), (1000900, .pin 900 (ι0 900)), (1000005, .pin 5 (ι0 5)), (1000018, .pin 18 (ι0 18))], [(5, .box [.own 18]), (18, .arr 3 1 Int 0 (fun n => [.int .i64 n]) (bkC N (k)))]⟩ from Ent.kept ⟨rfl, rfl, rfl, rfl, rfl, rfl, rfl, trivial⟩ ⟨rfl, rfl, trivial⟩) ?_
      refine awp_seq ?_
      refine awp_region rfl (.n (fun _ => op_assign (.plain rfl)) (.nil _)) ?_
      refine awp_region rfl (.e (op_alloc 7 Try.zeroValue51 rfl rfl rfl) rfl (.e (op_storeRA Try.sizeOf51 (.plain rfl) (.plain rfl) rfl rfl (Nat.le_of_ble_eq_true rfl) rfl) rfl (.nil _))) ?_
      refine awp_block ?_
      refine awp_seq ?_
      refine awp_region rfl (.n (fun _ => op_fieldAddrR Try.underlying51 rfl rfl Try.sizeOf25 (.plain rfl)) (.r (op_loadR Try.isAgg25 (.plain rfl) rfl rfl) (.n (fun _ => op_len (s := 0) Try.underlying25 (.plain rfl)) (.n (fun _ => op_move (.plain rfl)) (.nil _))))) ?_
      refine awp_block ?_
      refine awp_loop (σ := Nat) (fun (q : Nat) => q ≤ (kidsF N i).length) (fun (q : Nat) => ⟨[(1, .pv (.rd [.i P, .seq (Int × List Int × List Int × Unit) (0, [], [], ()) (fun p => [.i p.1, .ints p.2.1, .ints p.2.2.1]) N])), (5, .ref 5 0), (6, .int (i : Nat)), (7, .ref 7 0), (25, .pv (.ints (kidsF N i))), (26, .int ((kidsF N i).length : Nat)), (27, .int (q : Nat)), (1000900, .pin 900 (ι0 900)), (1000005, .pin 5 (ι0 5)), (1000018, .pin 18 (ι0 18))], [(5, .box [.own 18]), (18, .arr 3 1 Int 0 (fun n => [.int .i64 n]) (bkI N i q (bkC N k))), (7, .box [.int (plF N i), .pv (.ints (kidsF N i)), .pv (.ints (payF N i))])]⟩) (fun (q : Nat) => (kidsF N i).length - q) 0 ?_ (Ent.kept ⟨rfl, rfl, rfl, rfl, rfl, rfl, rfl, rfl, rfl, rfl, trivial⟩ ⟨rfl, rfl, rfl, trivial⟩) ?_
      · exact Nat.zero_le _
      rintro q hp
      try dsimp only at hp
      have hq := hp
      have hC2 := bkI_ok hT hil hC0 (k := q) hq
      have hc2l := hC2.len
      refine awp_seq ?_
      refine awp_region rfl (.n (fun _ => op_lss (.plain rfl) (.plain rfl)) (.nil _)) ?_
      refine awp_seq ?_
      refine awp_cond rfl (fun h => ?_) (fun h => ?_)
      · (try simp only [decide_eq_true_eq, decide_eq_false_iff_not, Bool.and_eq_true, Bool.or_eq_true, Bool.and_eq_false_iff, Bool.or_eq_false_iff, Bool.not_eq_true', Bool.not_eq_false', Bool.not_eq_true, Bool.not_eq_false, Bool.true_eq_false, Bool.false_eq_true] at h); (try simp only [foldK, foldP, foldL] at h)
        have hkk := kid_in hT hil (k := q) (by omega)
        have hin := hT.inn i hil (by omega)
        have hco := hC2.ok i hil
        have hkc := kid_in hT hil (k := ((bkI N i q (bkC N k)).getD i 0).toNat) (by omega)
        have hw1 := (wF_len hT hC2 hkk.2.2).1
        have hw2 := (wF_len hT hC2 hkc.2.2).1
        refine awp_skip ?_
        refine awp_seq ?_
        refine awp_block ?_
        refine awp_seq ?_
        refine awp_region rfl (.n (fun _ => op_move (.plain rfl)) (.n (fun _ => op_indexAddrN Try.underlying25 Try.sizeOf3 (.plain rfl) (.plain rfl) (fun _ => rfl) ?_) (.n (fun _ => op_load Try.isAgg3 (.plain rfl)) (.n (fun _ => op_assign (.plain rfl)) (.n (fun _ => op_assign (.plain rfl)) (.nil _)))))) ?_
        · (try simp only [foldK, foldP, foldL, Int.toNat_natCast])
          omega
        refine awp_seq ?_
        refine awp_region_draw mixed rfl (.n (fun _ => op_load_agg Try.isAgg24 Try.sizeOf24 (.plain rfl) (Nat.le_of_ble_eq_true rfl)) (.r (op_loadR Try.isAgg25 (.plain rfl) rfl rfl) (.n (fun _ => op_move (.plain rfl)) (.r (op_callHR (fun k => [18].getD k 0) Try.call26 (walk_fch P N ?_ _ ?_ (kidN N i q) _ ?_ ?_) ⟨(.plain rfl), (.plain rfl), (.plain rfl), trivial⟩ ⟨rfl, trivial⟩ (by kernel_rfl)) (.n (fun _ => op_fieldAddrR Try.underlying51 rfl rfl Try.sizeOf3 (.plain rfl)) (.r (op_loadR Try.isAgg3 (.plain rfl) rfl rfl) (.n (fun _ => op_indexAddr Try.underlying25 Try.sizeOf3 (.plain rfl) (.plain rfl) (fun _ => rfl) ?_) (.n (fun _ => op_load Try.isAgg3 (.plain rfl)) (.n (fun _ => op_load_agg Try.isAgg24 Try.sizeOf24 (.plain rfl) (Nat.le_of_ble_eq_true rfl)) (.r (op_loadR Try.isAgg25 (.plain rfl) rfl rfl) (.n (fun _ => op_fieldAddrR Try.underlying51 rfl rfl Try.sizeOf25 (.plain rfl)) (.r (op_loadR Try.isAgg25 (.plain rfl) rfl rfl) (.r (op_loadR Try.isAgg25 (.plain rfl) rfl rfl) (.n (fun _ => op_move (.plain rfl)) (.r (op_indexAddrON Try.underlying25 Try.sizeOf3 (.plain rfl) rfl (.plain rfl) ?_) (.r (op_loadE Try.isAgg3 (.plain rfl) rfl (fun _ => rfl) ?_ rfl) (.n (fun _ => op_indexAddr Try.underlying25 Try.sizeOf3 (.plain rfl) (.plain rfl) (fun _ => rfl) ?_) (.n (fun _ => op_load Try.isAgg3 (.plain rfl)) (.r (op_callHR (fun k => [18].getD k 0) Try.call26 (walk_fch P N ?_ _ ?_ (kidN N i ((bkI N i q (bkC N k)).getD i 0).toNat) _ ?_ ?_) ⟨(.plain rfl), (.plain rfl), (.plain rfl), trivial⟩ ⟨rfl, trivial⟩ (by kernel_rfl)) (.n (fun _ => op_fieldAddrR Try.underlying51 rfl rfl Try.sizeOf3 (.plain rfl)) (.r (op_loadR Try.isAgg3 (.plain rfl) rfl rfl) (.n (fun _ => op_indexAddr Try.underlying25 Try.sizeOf3 (.plain rfl) (.plain rfl) (fun _ => rfl) ?_) (.n (fun _ => op_load Try.isAgg3 (.plain rfl)) (.n (fun _ => op_gtr (.plain rfl) (.plain rfl)) (.nil _))))))))))))))))))))))))) ?d1 ?_
        · (try simp only [foldK, foldP, foldL, Int.toNat_natCast])
          exact hT
        · (try simp only [foldK, foldP, foldL, Int.toNat_natCast])
          exact hC2
        · (try simp only [foldK, foldP, foldL, Int.toNat_natCast])
          exact hkk.1
        · (try simp only [foldK, foldP, foldL, Int.toNat_natCast])
          exact hkk.2.2
        · (try simp only [foldK, foldP, foldL, Int.toNat_natCast])
          omega
        · (try simp only [foldK, foldP, foldL, Int.toNat_natCast])
          omega
        · (try simp only [foldK, foldP, foldL, Int.toNat_natCast])
          omega
        · (try simp only [foldK, foldP, foldL, Int.toNat_natCast])
          exact ⟨hco.1, by omega⟩
        · (try simp only [foldK, foldP, foldL, Int.toNat_natCast])
          exact hT
        · (try simp only [foldK, foldP, foldL, Int.toNat_natCast])
          exact hC2
        · (try simp only [foldK, foldP, foldL, Int.toNat_natCast])
          exact hkc.1
        · (try simp only [foldK, foldP, foldL, Int.toNat_natCast])
          exact hkc.2.2
        · (try simp only [foldK, foldP, foldL, Int.toNat_natCast])
          omega
        · kernel_rfl
        refine awp_cond rfl (fun h => ?_) (fun h => ?_)
        · (try simp only [decide_eq_true_eq, decide_eq_false_iff_not, Bool.and_eq_true, Bool.or_eq_true, Bool.and_eq_false_iff, Bool.or_eq_false_iff, Bool.not_eq_true', Bool.not_eq_false', Bool.not_eq_true, Bool.not_eq_false, Bool.true_eq_false, Bool.false_eq_true] at h); (try simp only [foldK, foldP, foldL] at h)
          refine awp_region rfl (.r (op_loadR Try.isAgg25 (.plain rfl) rfl rfl) (.n (fun _ => op_move (.plain rfl)) (.n (fun _ => op_move (.plain rfl)) (.r (op_indexAddrON Try.underlying25 Try.sizeOf3 (.plain rfl) rfl (.plain rfl) ?_) (.e (op_storeE _ Try.sizeOf3 (.plain rfl) (.plain rfl) rfl (fun _ => rfl) ?_ (by decide) rfl rfl) rfl (.nil _)))))) ?_
          · (try simp only [foldK, foldP, foldL, Int.toNat_natCast])
            omega
          · (try simp only [foldK, foldP, foldL, Int.toNat_natCast])
            omega
          refine awp_region rfl (.n (fun _ => op_add (.plain rfl) (.plain rfl) ?_) (.n (fun _ => op_move (.plain rfl)) (.nil _))) ?_
          · (try simp only [foldK, foldP, foldL, Int.toNat_natCast])
            unfold InR; omega
          exact ⟨q + 1, by omega, by dsimp only; omega, (Ent.kept ⟨rfl, rfl, rfl, rfl, rfl, rfl, rfl, rfl, rfl, rfl, trivial⟩ ⟨rfl, (by first | exact (congrArg (fun l => some (Blk.arr 3 1 Int 0 (fun n => [.int .i64 n]) l)) (bkI_in h)) | exact (congrArg (fun l => some (Blk.arr 3 1 Int 0 (fun n => [.int .i64 n]) l)) (bkI_out h))), rfl, trivial⟩)⟩
        · (try simp only [decide_eq_true_eq, decide_eq_false_iff_not, Bool.and_eq_true, Bool.or_eq_true, Bool.and_eq_false_iff, Bool.or_eq_false_iff, Bool.not_eq_true', Bool.not_eq_false', Bool.not_eq_true, Bool.not_eq_false, Bool.true_eq_false, Bool.false_eq_true] at h); (try simp only [foldK, foldP, foldL] at h)
          refine awp_skip ?_
          refine awp_region rfl (.n (fun _ => op_add (.plain rfl) (.plain rfl) ?_) (.n (fun _ => op_move (.plain rfl)) (.nil _))) ?_
          · (try simp only [foldK, foldP, foldL, Int.toNat_natCast])
            unfold InR; omega
          exact ⟨q + 1, by omega, by dsimp only; omega, (Ent.kept ⟨rfl, rfl, rfl, rfl, rfl, rfl, rfl, rfl, rfl, rfl, trivial⟩ ⟨rfl, (by first | exact (congrArg (fun l => some (Blk.arr 3 1 Int 0 (fun n => [.int .i64 n]) l)) (bkI_in h)) | exact (congrArg (fun l => some (Blk.arr 3 1 Int 0 (fun n => [.int .i64 n]) l)) (bkI_out h))), rfl, trivial⟩)⟩
      · (try simp only [decide_eq_true_eq, decide_eq_false_iff_not, Bool.and_eq_true, Bool.or_eq_true, Bool.and_eq_false_iff, Bool.or_eq_false_iff, Bool.not_eq_true', Bool.not_eq_false', Bool.not_eq_true, Bool.not_eq_false, Bool.true_eq_false, Bool.false_eq_true] at h); (try simp only [foldK, foldP, foldL] at h)
        refine awp_exit ?_
        exact retYe ⟨rfl, (congrArg (fun l => some (Blk.arr 3 1 Int 0 (fun n => [.int .i64 n]) l)) (bkC_end hi hq h)), trivial⟩ ⟨.inr rfl, .inr rfl, .inr rfl, trivial⟩
    refine awp_seq ?_
    refine awp_region rfl (.r (op_loadR Try.isAgg25 (.plain rfl) rfl rfl) (.n (fun _ => op_assign (.plain rfl)) (.n (fun _ => op_assign (.plain rfl)) (.nil _)))) ?_
    refine awp_ret ?_
    refine retQ.ret ?_
    refine ret2 rfl rfl rfl rfl rfl ?_
    unfold bwR
    rw [hM, if_pos rfl]; rfl

theorem backFrom_fch (P : Int) (N : List Nd) (hT : TrOk P N) (f : Nat) (c : List Int) (hc : c.length = N.length) (a : Nat) (x : Int) (hx : x = (a : Nat)) (ha : a < N.length) (hf : N.length - a ≤ f) : FCH Try.prog 28 [.pv (.agg [.i P, .seq (Int × List Int × List Int × Unit) (0, [], [], ()) (fun p => [.i p.1, .ints p.2.1, .ints p.2.2.1]) N]), .int x, .own 0] [(0, .arr 3 1 Int 0 (fun n => [.int .i64 n]) c)] [(0, .arr 3 1 Int 0 (fun n => [.int .i64 n]) (bf N f a c).1)] (.pv (.ints (bf N f a c).2)) none := by
  induction f using Nat.strongRecOn generalizing c a x
  rename_i f ih
  subst hx
  obtain ⟨f, rfl⟩ : ∃ g, f = g + 1 := ⟨f - 1, by omega⟩
  refine FCH.intro Try.func28 rfl (Nat.le_of_ble_eq_true rfl) (Nat.le_of_ble_eq_true rfl) fun hfit ι0 => ?_
  change awp _ _ _ _ ⟨[(0, .pv (.agg [.i P, .seq (Int × List Int × List Int × Unit) (0, [], [], ()) (fun p => [.i p.1, .ints p.2.1, .ints p.2.2.1]) N])), (1, .int (a : Nat)), (2, .own 0), (1000000, .pin 0 (ι0 0))], [(0, .arr 3 1 Int 0 (fun n => [.int .i64 n]) c)]⟩
  have fit0 := hfit _ (.head _)
  have hp1 := hT.p1
  have hp5 := hT.p5
  have hn1 := hT.n1
  have hn40 := hT.n40
  refine awp_seq ?_
  refine awp_region rfl (.n (fun _ => op_box (.plain rfl) (by simp)) (.n (fun _ => op_assign (.plain rfl)) (.nil _))) ?_
  refine awp_seq ?_
  refine awp_region rfl (.n (fun _ => op_fieldAddr Try.underlying24 rfl rfl Try.sizeOf22 (.plain rfl)) (.n (fun _ => op_load Try.isAgg22 (.plain rfl)) (.n (fun _ => op_move (.plain rfl)) (.n (fun _ => op_indexAddrN Try.underlying22 Try.sizeOf51 (.plain rfl) (.plain rfl) (fun _ => rfl) ?_) (.n (fun _ => op_load_agg Try.isAgg51 Try.sizeOf51 (.plain rfl) (Nat.le_of_ble_eq_true rfl)) (.e (op_alloc 7 Try.zeroValue51 rfl rfl rfl) rfl (.e (op_storeRA Try.sizeOf51 (.plain rfl) (.plain rfl) rfl rfl (Nat.le_of_ble_eq_true rfl) rfl) rfl (.nil _)))))))) ?_
  · (try simp only [foldK, foldP, foldL, Int.toNat_natCast])
    omega
  refine awp_seq ?_
  refine awp_seq ?_
  refine awp_region rfl (.n (fun _ => op_fieldAddrR Try.underlying51 rfl rfl Try.sizeOf25 (.plain rfl)) (.r (op_loadR Try.isAgg25 (.plain rfl) rfl rfl) (.n (fun _ => op_len (s := 0) Try.underlying25 (.plain rfl)) (.n (fun _ => op_eql (.plain rfl) (.plain rfl)) (.nil _))))) ?_
  refine awp_cond rfl (fun h => ?_) (fun h => ?_)
  · (try simp only [decide_eq_true_eq, decide_eq_false_iff_not, Bool.and_eq_true, Bool.or_eq_true, Bool.and_eq_false_iff, Bool.or_eq_false_iff, Bool.not_eq_true', Bool.not_eq_false', Bool.not_eq_true, Bool.not_eq_false, Bool.true_eq_false, Bool.false_eq_true] at h); (try simp only [foldK, foldP, foldL] at h)
    have hl : (kidsF N a).length = 0 := by omega
    refine awp_seq ?_
    refine awp_region rfl (.n (fun _ => op_fieldAddrR Try.underlying51 rfl rfl Try.sizeOf25 (.plain rfl)) (.r (op_loadR Try.isAgg25 (.plain rfl) rfl rfl) (.n (fun _ => op_assign (.plain rfl)) (.nil _)))) ?_
    refine awp_ret ?_
    refine retH.ret ?_
    refine retH1 rfl rfl ⟨(congrArg (fun l => some (Blk.arr 3 1 Int 0 (fun n => [.int .i64 n]) l)) (by rw [bf_leaf hl])), trivial⟩ ⟨.inr rfl, trivial⟩ ?_
    rw [bf_leaf hl]; rfl
  · (try simp only [decide_eq_true_eq, decide_eq_false_iff_not, Bool.and_eq_true, Bool.or_eq_true, Bool.and_eq_false_iff, Bool.or_eq_false_iff, Bool.not_eq_true', Bool.not_eq_false', Bool.not_eq_true, Bool.not_eq_false, Bool.true_eq_false, Bool.false_eq_true] at h); (try simp only [foldK, foldP, foldL] at h)
    have hl : (kidsF N a).length ≠ 0 := by omega
    have hin := hT.inn a ha hl
    have hk0 := kid_in hT ha (k := 0) (by omega)
    refine awp_skip ?_
    refine awp_seq ?_
    refine awp_region_draw mixed rfl (.n (fun _ => op_load_agg Try.isAgg24 Try.sizeOf24 (.plain rfl) (Nat.le_of_ble_eq_true rfl)) (.n (fun _ => op_fieldAddrR Try.underlying51 rfl rfl Try.sizeOf25 (.plain rfl)) (.r (op_loadR Try.isAgg25 (.plain rfl) rfl rfl) (.n (fun _ => op_indexAddr Try.underlying25 Try.sizeOf3 (.plain rfl) (.plain rfl) (fun _ => rfl) ?_) (.n (fun _ => op_load Try.isAgg3 (.plain rfl)) (.n (fun _ => op_move (.plain rfl)) (.e (op_callH (fun k => [0].getD k 0) Try.call28 (ih f (by omega) _ ?_ (kidN N a 0) _ ?_ ?_ ?_) ⟨(.plain rfl), (.plain rfl), (.plain rfl), trivial⟩ ⟨rfl, trivial⟩ (by kernel_rfl)) rfl (.n (fun _ => op_assign (.plain rfl)) (.nil _))))))))) ?d2 ?_
    · (try simp only [foldK, foldP, foldL, Int.toNat_natCast])
      omega
    · (try simp only [foldK, foldP, foldL, Int.toNat_natCast])
      exact hc
    · (try simp only [foldK, foldP, foldL, Int.toNat_natCast])
      exact hk0.1
    · (try simp only [foldK, foldP, foldL, Int.toNat_natCast])
      exact hk0.2.2
    · (try simp only [foldK, foldP, foldL, Int.toNat_natCast])
      omega
    · kernel_rfl
    refine awp_seq ?_
    refine awp_seq ?_
    refine awp_region rfl (.n (fun _ => op_assign (.plain rfl)) (.nil _)) ?_
    refine awp_block ?_
    refine awp_loop (σ := Nat) (fun (k : Nat) => k < (kidsF N a).length) (fun (k : Nat) => ⟨[(1, .int (a : Nat)), (2, .own 0), (3, .pv (.rd [.i P, .seq (Int × List Int × List Int × Unit) (0, [], [], ()) (fun p => [.i p.1, .ints p.2.1, .ints p.2.2.1]) N])), (7, .ref 7 0), (8, .pv (.ints (bfK N (bf N f) a k c).2)), (9, .int (k + 1 : Nat)), (1000000, .pin 0 (ι0 0))], [(7, .box [.int (plF N a), .pv (.ints (kidsF N a)), .pv (.ints (payF N a))]), (0, .arr 3 1 Int 0 (fun n => [.int .i64 n]) (bfK N (bf N f) a k c).1)]⟩) (fun (k : Nat) => (kidsF N a).length - 1 - k) 0 ?_ (Ent.kept ⟨rfl, rfl, rfl, rfl, rfl, rfl, rfl, trivial⟩ ⟨rfl, rfl, trivial⟩) ?_
    · omega
    rintro k hp
    try dsimp only at hp
    have hkk0 := hp
    have hbl := bfK_len hT ha hf hc hkk0
    refine awp_seq ?_
    refine awp_seq ?_
    refine awp_region rfl (.n (fun _ => op_move (.plain rfl)) (.n (fun _ => op_fieldAddrR Try.underlying51 rfl rfl Try.sizeOf25 (.plain rfl)) (.r (op_loadR Try.isAgg25 (.plain rfl) rfl rfl) (.n (fun _ => op_len (s := 0) Try.underlying25 (.plain rfl)) (.n (fun _ => op_lss (.plain rfl) (.plain rfl)) (.nil _)))))) ?_
    refine awp_cond rfl (fun h => ?_) (fun h => ?_)
    · (try simp only [decide_eq_true_eq, decide_eq_false_iff_not, Bool.and_eq_true, Bool.or_eq_true, Bool.and_eq_false_iff, Bool.or_eq_false_iff, Bool.not_eq_true', Bool.not_eq_false', Bool.not_eq_true, Bool.not_eq_false, Bool.true_eq_false, Bool.false_eq_true] at h); (try simp only [foldK, foldP, foldL] at h)
      have hkk := kid_in hT ha (k := k + 1) (by omega)
      have hgl := bf_len hT f (kidN N a (k + 1)) _ hkk.2.2 (by omega) hbl.1
      refine awp_skip ?_
      refine awp_seq ?_
      refine awp_block ?_
      refine awp_seq ?_
      refine awp_region_draw mixed rfl (.n (fun _ => op_load_agg Try.isAgg24 Try.sizeOf24 (.plain rfl) (Nat.le_of_ble_eq_true rfl)) (.n (fun _ => op_fieldAddrR Try.underlying51 rfl rfl Try.sizeOf25 (.plain rfl)) (.r (op_loadR Try.isAgg25 (.plain rfl) rfl rfl) (.n (fun _ => op_move (.plain rfl)) (.n (fun _ => op_indexAddrN Try.underlying25 Try.sizeOf3 (.plain rfl) (.plain rfl) (fun _ => rfl) ?_) (.n (fun _ => op_load Try.isAgg3 (.plain rfl)) (.n (fun _ => op_move (.plain rfl)) (.e (op_callH (fun k => [0].getD k 0) Try.call28 (ih f (by omega) _ ?_ (kidN N a (k + 1)) _ ?_ ?_ ?_) ⟨(.plain rfl), (.plain rfl), (.plain rfl), trivial⟩ ⟨rfl, trivial⟩ (by kernel_rfl)) rfl (.n (fun _ => op_assign (.plain rfl)) (.nil _)))))))))) ?d3 ?_
      · (try simp only [foldK, foldP, foldL, Int.toNat_natCast])
        omega
      · (try simp only [foldK, foldP, foldL, Int.toNat_natCast])
        exact hbl.1
      · (try simp only [foldK, foldP, foldL, Int.toNat_natCast])
        exact hkk.1
      · (try simp only [foldK, foldP, foldL, Int.toNat_natCast])
        exact hkk.2.2
      · (try simp only [foldK, foldP, foldL, Int.toNat_natCast])
        omega
      · kernel_rfl
      refine awp_seq ?_
      refine awp_region_draw mixed rfl (.n (fun _ => op_move (.plain rfl)) (.n (fun _ => op_fieldAddrR Try.underlying51 rfl rfl Try.sizeOf3 (.plain rfl)) (.r (op_loadR Try.isAgg3 (.plain rfl) rfl rfl) (.n (fun _ => op_indexAddr Try.underlying25 Try.sizeOf3 (.plain rfl) (.plain rfl) (fun _ => rfl) ?_) (.n (fun _ => op_load Try.isAgg3 (.plain rfl)) (.n (fun _ => op_move (.plain rfl)) (.n (fun _ => op_fieldAddrR Try.underlying51 rfl rfl Try.sizeOf3 (.plain rfl)) (.r (op_loadR Try.isAgg3 (.plain rfl) rfl rfl) (.n (fun _ => op_indexAddr Try.underlying25 Try.sizeOf3 (.plain rfl) (.plain rfl) (fun _ => rfl) ?_) (.n (fun _ => op_load Try.isAgg3 (.plain rfl)) (.n (fun _ => op_gtr (.plain rfl) (.plain rfl)) (.nil _)))))))))))) ?d4 ?_
      · (try simp only [foldK, foldP, foldL, Int.toNat_natCast])
        omega
      · (try simp only [foldK, foldP, foldL, Int.toNat_natCast])
        omega
      · kernel_rfl
      refine awp_cond rfl (fun h => ?_) (fun h => ?_)
      · (try simp only [decide_eq_true_eq, decide_eq_false_iff_not, Bool.and_eq_true, Bool.or_eq_true, Bool.and_eq_false_iff, Bool.or_eq_false_iff, Bool.not_eq_true', Bool.not_eq_false', Bool.not_eq_true, Bool.not_eq_false, Bool.true_eq_false, Bool.false_eq_true] at h); (try simp only [foldK, foldP, foldL] at h)
        refine awp_seq ?_
        refine awp_region rfl (.n (fun _ => op_move (.plain rfl)) (.n (fun _ => op_assign (.plain rfl)) (.nil _))) ?_
        refine awp_region rfl (.n (fun _ => op_move (.plain rfl)) (.n (fun _ => op_move (.plain rfl)) (.n (fun _ => op_move (.plain rfl)) (.r (op_indexAddrON Try.underlying25 Try.sizeOf3 (.plain rfl) rfl (.plain rfl) ?_) (.e (op_storeE _ Try.sizeOf3 (.plain rfl) (.plain rfl) rfl (fun _ => rfl) ?_ (by decide) rfl rfl) rfl (.nil _)))))) ?_
        · (try simp only [foldK, foldP, foldL, Int.toNat_natCast])
          omega
        · (try simp only [foldK, foldP, foldL, Int.toNat_natCast])
          omega
        refine awp_region rfl (.n (fun _ => op_move (.plain rfl)) (.n (fun _ => op_add (.plain rfl) (.plain rfl) ?_) (.n (fun _ => op_assign (.plain rfl)) (.nil _)))) ?_
        · (try simp only [foldK, foldP, foldL, Int.toNat_natCast])
          unfold InR; omega
        exact ⟨k + 1, by omega, by dsimp only; omega, (Ent.kept ⟨rfl, rfl, rfl, rfl, (by first | exact (congrArg (fun p => some (SV.pv p)) (congrArg PV.ints (bfK_in h).2)) | exact (congrArg (fun p => some (SV.pv p)) (congrArg PV.ints (bfK_out h).2))), rfl, rfl, trivial⟩ ⟨rfl, (by first | exact (congrArg (fun l => some (Blk.arr 3 1 Int 0 (fun n => [.int .i64 n]) l)) ((bfK_in h).1)) | exact (congrArg (fun l => some (Blk.arr 3 1 Int 0 (fun n => [.int .i64 n]) l)) ((bfK_out h).1))), trivial⟩)⟩
      · (try simp only [decide_eq_true_eq, decide_eq_false_iff_not, Bool.and_eq_true, Bool.or_eq_true, Bool.and_eq_false_iff, Bool.or_eq_false_iff, Bool.not_eq_true', Bool.not_eq_false', Bool.not_eq_true, Bool.not_eq_false, Bool.true_eq_false, Bool.false_eq_true] at h); (try simp only [foldK, foldP, foldL] at h)
        refine awp_skip ?_
        refine awp_region rfl (.n (fun _ => op_move (.plain rfl)) (.n (fun _ => op_add (.plain rfl) (.plain rfl) ?_) (.n (fun _ => op_assign (.plain rfl)) (.nil _)))) ?_
        · (try simp only [foldK, foldP, foldL, Int.toNat_natCast])
          unfold InR; omega
        exact ⟨k + 1, by omega, by dsimp only; omega, (Ent.kept ⟨rfl, rfl, rfl, rfl, (by first | exact (congrArg (fun p => some (SV.pv p)) (congrArg PV.ints (bfK_in h).2)) | exact (congrArg (fun p => some (SV.pv p)) (congrArg PV.ints (bfK_out h).2))), rfl, rfl, trivial⟩ ⟨rfl, (by first | exact (congrArg (fun l => some (Blk.arr 3 1 Int 0 (fun n => [.int .i64 n]) l)) ((bfK_in h).1)) | exact (congrArg (fun l => some (Blk.arr 3 1 Int 0 (fun n => [.int .i64 n]) l)) ((bfK_out h).1))), trivial⟩)⟩
    · (try simp only [decide_eq_true_eq, decide_eq_false_iff_not, Bool.and_eq_true, Bool.or_eq_true, Bool.and_eq_false_iff, Bool.or_eq_false_iff, Bool.not_eq_true', Bool.not_eq_false', Bool.not_eq_true, Bool.not_eq_false, Bool.true_eq_false, Bool.false_eq_true] at h); (try simp only [foldK, foldP, foldL] at h)
      refine awp_exit ?_
      refine awp_seq ?_
      refine awp_region rfl (.n (fun _ => op_move (.plain rfl)) (.n (fun _ => op_assign (.plain rfl)) (.nil _))) ?_
      refine awp_ret ?_
      refine retH.ret ?_
      refine retH1 rfl rfl ⟨(congrArg (fun l => some (Blk.arr 3 1 Int 0 (fun n => [.int .i64 n]) l)) (by rw [bf_in hl, show (kidsF N a).length - 1 = k by omega])), trivial⟩ ⟨.inr rfl, trivial⟩ ?_
      rw [bf_in hl, show (kidsF N a).length - 1 = k by omega]

theorem RBackward_fc (P : Int) (N : List Nd) (hT : TrOk P N) : FC Try.prog 13 [.agg [.i P, .seq (Int × List Int × List Int × Unit) (0, [], [], ()) (fun p => [.i p.1, .ints p.2.1, .ints p.2.2.1]) N]] (.ints (bkA N)) := by
  refine FC.intro Try.func13 rfl (Nat.le_of_ble_eq_true rfl) fun hfit => ?_
  have fit0 := hfit _ (.head _)
  have hp1 := hT.p1
  have hp5 := hT.p5
  have hn1 := hT.n1
  have hn40 := hT.n40
  refine awp_seq ?_
  refine awp_region rfl (.n (fun _ => op_box (.plain rfl) (by simp)) (.n (fun _ => op_assign (.plain rfl)) (.nil _))) ?_
  refine awp_seq ?_
  refine awp_region rfl (.n (fun _ => op_fieldAddr Try.underlying24 rfl rfl Try.sizeOf22 (.plain rfl)) (.n (fun _ => op_load Try.isAgg22 (.plain rfl)) (.n (fun _ => op_len (s := 0) Try.underlying22 (.plain rfl)) (.e (op_make (α := Int) (d := 0) (f := (fun n => [.int .i64 n])) 7 0 ety25 (.plain rfl) (.plain rfl) (fun _ => rfl) rfl rfl ?_) rfl (.n (fun _ => op_assign (.plain rfl)) (.nil _)))))) ?_
  · (try simp only [foldK, foldP, foldL, Int.toNat_natCast])
    omega
  refine awp_seq ?_
  refine awp_region rfl (.n (fun _ => op_load_agg Try.isAgg24 Try.sizeOf24 (.plain rfl) (Nat.le_of_ble_eq_true rfl)) (.n (fun _ => op_move (.plain rfl)) (.e (op_callH (fun k => [7].getD k 0) Try.call28 (backFrom_fch P N ?_ N.length _ ?_ 0 _ ?_ ?_ ?_) ⟨(.plain rfl), (.plain rfl), (.plain rfl), trivial⟩ ⟨rfl, trivial⟩ (by kernel_rfl)) rfl (.nil _)))) ?_
  · (try simp only [foldK, foldP, foldL, Int.toNat_natCast])
    exact hT
  · (try simp only [foldK, foldP, foldL, Int.toNat_natCast])
    simp
  · (try simp only [foldK, foldP, foldL, Int.toNat_natCast])
    rfl
  · (try simp only [foldK, foldP, foldL, Int.toNat_natCast])
    omega
  · (try simp only [foldK, foldP, foldL, Int.toNat_natCast])
    omega
  refine awp_seq ?_
  refine awp_region rfl (.n (fun _ => op_move (.plain rfl)) (.n (fun _ => op_assign (.plain rfl)) (.nil _))) ?_
  refine awp_ret ?_
  refine retQ.ret ?_
  refine ret1 rfl rfl rfl ?_
  exact congrArg PV.ints (bf_all hT)

end Go.Proofs.Ytamdkclkmijfgaa

