/- A plan with the most gifts. Conditions: each theorem names its own. -/
import Derived.Test.YtnkhlgkcohpahaaProg
import Derived.Test.YtnkhlgkcohpahaaFd
namespace Go.Proofs.Ytnkhlgkcohpahaa
open Go.Abs
set_option linter.unusedVariables false
set_option linter.unusedSimpArgs false

/-! ### The plan that the finder's memory holds -/
def planF (m : List (Int × List Int)) : Nat → Nat → List (List Int)
  | 0, _ => []
  | f + 1, u => match List.lookup (u : Int) m with
    | none => []
    | some [] => []
    | some (x :: l) => (x :: l) :: planF m f (nextM u x.toNat (x :: l))
theorem orTo_or {u b : Nat} {l : List Int} : ∀ k, orTo (u ||| b) l k = orTo u l k ||| b
  | 0 => rfl
  | k + 1 => by
    simp only [orTo]
    rw [orTo_or k, Nat.or_assoc, Nat.or_comm b, ← Nat.or_assoc]
theorem next_alt {u q : Nat} {l : List Int} : orTo u l l.length ||| (2 ^ q - 1) = nextM u q l := by unfold nextM; rw [orTo_or]
/-! ### The best of all plans, by sets -/
def optF (G : Int) (F : List (List Int)) (Rd Rw : Int) : Nat → Nat → Int
  | 0, _ => 0
  | m + 1, u => if u.testBit (F.length - (m + 1)) = true then optF G F Rd Rw m u
    else mxTo (optF G F Rd Rw m u) (fun l => giftL G ((F.length - (m + 1) : Nat) : Int) l + optF G F Rd Rw m (orTo u l l.length)) (linA G F Rd Rw u (F.length - (m + 1))) (linA G F Rd Rw u (F.length - (m + 1))).length
section
variable {G : Int} {F : List (List Int)} {Rd Rw : Int}
theorem mxTo_same {b b' : Int} {g h : List Int → Int} {ls : List (List Int)} (hb : b = b') (hg : ∀ l, l ∈ ls → g l = h l) : ∀ k, k ≤ ls.length → mxTo b g ls k = mxTo b' h ls k
  | 0, _ => hb
  | k + 1, hk => by
    simp only [mxTo]
    rw [mxTo_same hb hg k (by omega), hg _ (getD_mem (l := ls) [] (show k < ls.length by omega))]
/-- The search depends on the numbers behind the first one alone. -/
theorem linD_bits (hS : SOk G F Rd Rw) {q : Nat} : ∀ (f : Nat) (l : List Int) (u w : Nat), (∀ x, q < x → u.testBit x = w.testBit x) → linD G F Rd Rw q f l u = linD G F Rd Rw q f l w
  | 0, _, _, _, _ => rfl
  | f + 1, l, u, w, h => by
    simp only [linD]
    congr 1
    split
    · rfl
    · refine goTo_same fun i hi => ?_
      have hx : ((q : Nat) : Int) < G → (q : Int) < (F.getD (lastF l).toNat []).getD i 0 := fun hq => by
        rcases Nat.lt_or_ge (lastF l).toNat F.length with c | c
        · have := hS.fit _ c i hi; omega
        · rw [show F.getD (lastF l).toNat [] = [] by simp [List.getD_eq_getElem?_getD, c]] at hi; simp at hi
      refine ⟨?_, fun _ => linD_bits hS f _ _ _ fun x hqx => by rw [Nat.testBit_or, Nat.testBit_or, h x hqx]⟩
      unfold dgo
      generalize (F.getD (lastF l).toNat []).getD i 0 = x at *
      by_cases c : (q : Int) < x
      · rw [h x.toNat (by omega)]
      · rw [decide_eq_false c, decide_eq_false fun c2 => c (hx c2)]; simp
theorem linA_bits (hS : SOk G F Rd Rw) {q u w : Nat} (h : ∀ x, q < x → u.testBit x = w.testBit x) : linA G F Rd Rw u q = linA G F Rd Rw w q :=
  linD_bits hS _ _ _ _ fun x hx => by rw [Nat.testBit_or, Nat.testBit_or, h x hx]
theorem orTo_same {u w x : Nat} {l : List Int} (h : u.testBit x = w.testBit x) (k : Nat) : (orTo u l k).testBit x = (orTo w l k).testBit x := by
  rw [Bool.eq_iff_iff, orTo_bit, orTo_bit, h]
theorem optF_bits (hS : SOk G F Rd Rw) : ∀ (m u w : Nat), m ≤ F.length → (∀ x, F.length - m ≤ x → u.testBit x = w.testBit x) → optF G F Rd Rw m u = optF G F Rd Rw m w
  | 0, _, _, _, _ => rfl
  | m + 1, u, w, hm, h => by
    have ih := fun u w h => optF_bits hS m u w (by omega) h
    have h2 : ∀ x, F.length - m ≤ x → u.testBit x = w.testBit x := fun x hx => h x (by omega)
    simp only [optF]
    rw [h _ (Nat.le_refl _), ih u w h2, linA_bits hS (q := F.length - (m + 1)) (u := u) (w := w) fun x hx => h x (by omega)]
    split
    · rfl
    · refine mxTo_same rfl (fun l _ => ?_) _ (Nat.le_refl _)
      rw [ih (orTo u l l.length) (orTo w l l.length) fun x hx => orTo_same (h2 x hx) _]
theorem optF_skip : ∀ (d m u : Nat), m + d ≤ F.length → (∀ x, F.length - (m + d) ≤ x → x < F.length - m → u.testBit x = true) → optF G F Rd Rw (m + d) u = optF G F Rd Rw m u
  | 0, _, _, _, _ => rfl
  | d + 1, m, u, hm, h => by
    show optF G F Rd Rw (m + d + 1) u = _
    simp only [optF]
    rw [if_pos (h _ (by omega) (by omega)), optF_skip d m u (by omega) fun x h1 h2 => h x (by omega) h2]
theorem mxTo_ge {b : Int} {g : List Int → Int} {ls : List (List Int)} : ∀ k, k ≤ ls.length → b ≤ mxTo b g ls k ∧ ∀ j, j < k → g (ls.getD j []) ≤ mxTo b g ls k
  | 0, _ => ⟨Int.le_refl _, fun j hj => absurd hj (Nat.not_lt_zero _)⟩
  | k + 1, hk => by
    obtain ⟨h1, h2⟩ := mxTo_ge (b := b) (g := g) (ls := ls) k (by omega)
    simp only [mxTo]
    split
    · refine ⟨by omega, fun j hj => ?_⟩
      by_cases e : j = k
      · subst e; exact Int.le_refl _
      · have := h2 j (by omega); omega
    · refine ⟨h1, fun j hj => ?_⟩
      by_cases e : j = k
      · subst e; omega
      · exact h2 j (by omega)
theorem mxTo_ex {b : Int} {g : List Int → Int} {ls : List (List Int)} : ∀ k, k ≤ ls.length → mxTo b g ls k = b ∨ ∃ l, l ∈ ls ∧ mxTo b g ls k = g l
  | 0, _ => .inl rfl
  | k + 1, hk => by
    simp only [mxTo]
    split
    · exact .inr ⟨_, getD_mem (l := ls) [] (show k < ls.length by omega), rfl⟩
    · exact mxTo_ex k (by omega)
/-- Each first line leads to no more than the best. -/
theorem opt_le : ∀ (m u : Nat), m ≤ F.length → ∀ q, F.length - m ≤ q → q < F.length → u.testBit q = false → ∀ l, l ∈ linA G F Rd Rw u q → giftL G (q : Int) l + optF G F Rd Rw (F.length - (q + 1)) (orTo u l l.length) ≤ optF G F Rd Rw m u
  | 0, _, _, q, h1, h2, _, _, _ => by omega
  | m + 1, u, hm, q, h1, h2, hb, l, hl => by
    by_cases e : q = F.length - (m + 1)
    · subst e
      simp only [optF]
      rw [if_neg (by rw [hb]; decide), show F.length - (F.length - (m + 1) + 1) = m by omega]
      obtain ⟨j, hj, rfl⟩ := List.getElem_of_mem hl
      have := (mxTo_ge (b := optF G F Rd Rw m u) (g := fun l => giftL G ((F.length - (m + 1) : Nat) : Int) l + optF G F Rd Rw m (orTo u l l.length)) (ls := linA G F Rd Rw u (F.length - (m + 1))) _ (Nat.le_refl _)).2 j hj
      simpa [List.getD_eq_getElem?_getD, hj] using this
    · have ih := opt_le m u (by omega) q (by omega) h2 hb l hl
      refine Int.le_trans ih ?_
      simp only [optF]
      split
      · exact Int.le_refl _
      · exact (mxTo_ge _ (Nat.le_refl _)).1
theorem opt_ex : ∀ (m u : Nat), m ≤ F.length → optF G F Rd Rw m u = 0 ∨ ∃ q, F.length - m ≤ q ∧ q < F.length ∧ u.testBit q = false ∧ ∃ l, l ∈ linA G F Rd Rw u q ∧ optF G F Rd Rw m u = giftL G (q : Int) l + optF G F Rd Rw (F.length - (q + 1)) (orTo u l l.length)
  | 0, _, _ => .inl rfl
  | m + 1, u, hm => by
    have ih := opt_ex m u (by omega)
    have up : optF G F Rd Rw (m + 1) u = optF G F Rd Rw m u → (optF G F Rd Rw (m + 1) u = 0 ∨ ∃ q, F.length - (m + 1) ≤ q ∧ q < F.length ∧ u.testBit q = false ∧ ∃ l, l ∈ linA G F Rd Rw u q ∧ optF G F Rd Rw (m + 1) u = giftL G (q : Int) l + optF G F Rd Rw (F.length - (q + 1)) (orTo u l l.length)) := fun e => by
      rw [e]
      rcases ih with h | ⟨q, h1, h2, h3⟩
      · exact .inl h
      · exact .inr ⟨q, by omega, h2, h3⟩
    by_cases hb : u.testBit (F.length - (m + 1)) = true
    · exact up (by simp only [optF]; rw [if_pos hb])
    · rcases mxTo_ex (b := optF G F Rd Rw m u) (g := fun l => giftL G ((F.length - (m + 1) : Nat) : Int) l + optF G F Rd Rw m (orTo u l l.length)) (ls := linA G F Rd Rw u (F.length - (m + 1))) _ (Nat.le_refl _) with h | ⟨l, hl, h⟩
      · exact up (by simp only [optF]; rw [if_neg hb]; exact h)
      · refine .inr ⟨F.length - (m + 1), Nat.le_refl _, by omega, by simpa using hb, l, hl, ?_⟩
        simp only [optF]
        rw [if_neg hb, h, show F.length - (F.length - (m + 1) + 1) = m by omega]
end
/-! ### What is remembered is right -/
section
variable {G : Int} {F : List (List Int)} {Rd Rw : Int}
def bestD (G : Int) (F : List (List Int)) (Rd Rw : Int) (u : Nat) : Int := optF G F Rd Rw F.length u
theorem best_next (hS : SOk G F Rd Rw) {u q : Nat} {l : List Int} (hq : q < F.length) (hl : l ∈ linA G F Rd Rw u q) : bestD G F Rd Rw (nextM u q l) = optF G F Rd Rw (F.length - (q + 1)) (orTo u l l.length) := by
  obtain ⟨h1, h2, _, _⟩ := linA_in hS hq hl
  have e := optF_skip (G := G) (F := F) (Rd := Rd) (Rw := Rw) (q + 1) (F.length - (q + 1)) (nextM u q l) (by omega) fun x _ hx => (orTo_bit _).2 (by
    by_cases c : x = q
    · exact .inr ⟨0, by omega, by rw [h1, c]; simp⟩
    · left; rw [Nat.testBit_or, Nat.testBit_two_pow_sub_one, decide_eq_true (show x < q by omega)]; simp)
  unfold bestD
  rw [show F.length - (q + 1) + (q + 1) = F.length by omega] at e
  rw [e]
  refine optF_bits hS _ _ _ (by omega) fun x hx => orTo_same ?_ _
  rw [Nat.testBit_or, Nat.testBit_two_pow_sub_one, decide_eq_false (show ¬ x < q by omega), Bool.or_false]
theorem best_le (hS : SOk G F Rd Rw) {u q : Nat} {l : List Int} (hq : q < F.length) (hb : u.testBit q = false) (hl : l ∈ linA G F Rd Rw u q) : giftL G (q : Int) l + bestD G F Rd Rw (nextM u q l) ≤ bestD G F Rd Rw u := by
  rw [best_next hS hq hl]; exact opt_le _ _ (Nat.le_refl _) q (by omega) hq hb l hl
theorem best_ex (hS : SOk G F Rd Rw) (u : Nat) : bestD G F Rd Rw u = 0 ∨ ∃ q, q < F.length ∧ u.testBit q = false ∧ ∃ l, l ∈ linA G F Rd Rw u q ∧ bestD G F Rd Rw u = giftL G (q : Int) l + bestD G F Rd Rw (nextM u q l) := by
  rcases opt_ex (G := G) (F := F) (Rd := Rd) (Rw := Rw) F.length u (Nat.le_refl _) with h | ⟨q, _, h2, h3, l, h4, h5⟩
  · exact .inl h
  · exact .inr ⟨q, h2, h3, l, h4, by rw [best_next hS h2 h4]; exact h5⟩
/-- A value is reached by this line. -/
def ByOk (G : Int) (F : List (List Int)) (Rd Rw : Int) (M : Memo) (u : Nat) (v : Int) (l : List Int) : Prop :=
  (l = [] ∧ v = 0) ∨ ∃ q, q < F.length ∧ u.testBit q = false ∧ l ∈ linA G F Rd Rw u q ∧ v = giftL G (q : Int) l + bestD G F Rd Rw (nextM u q l) ∧ ((nextM u q l : Nat) : Int) ∈ M.1.map (·.1)
def Good (G : Int) (F : List (List Int)) (Rd Rw : Int) (M : Memo) : Prop := ∀ (u : Nat) (v : Int), List.lookup (u : Int) M.1 = some v → v = bestD G F Rd Rw u ∧ ∃ l, List.lookup (u : Int) M.2 = some l ∧ ByOk G F Rd Rw M u v l
theorem ByOk.mono {M M' : Memo} {u : Nat} {v : Int} {l : List Int} (h : ByOk G F Rd Rw M u v l) (hk : ∀ k, k ∈ M.1.map (·.1) → k ∈ M'.1.map (·.1)) : ByOk G F Rd Rw M' u v l := by
  rcases h with h | ⟨q, h1, h2, h3, h4, h5⟩
  · exact .inl h
  · exact .inr ⟨q, h1, h2, h3, h4, hk _ h5⟩
structure RGood (G : Int) (F : List (List Int)) (Rd Rw : Int) (u : Nat) (M : Memo) (r : Int × Memo) : Prop where
  val : r.1 = bestD G F Rd Rw u
  good : Good G F Rd Rw r.2
  more : ∀ k, k ∈ M.1.map (·.1) → k ∈ r.2.1.map (·.1)
  key : (u : Int) ∈ r.2.1.map (·.1)
structure SGood (G : Int) (F : List (List Int)) (Rd Rw : Int) (u : Nat) (M : Memo) (s : MSt) : Prop where
  good : Good G F Rd Rw s.2.2
  more : ∀ k, k ∈ M.1.map (·.1) → k ∈ s.2.2.1.map (·.1)
  reach : ByOk G F Rd Rw s.2.2 u s.1 s.2.1
  pos : 0 ≤ s.1
theorem lineM_good (hS : SOk G F Rd Rw) {rc : Nat → Memo → Int × Memo} {u q : Nat} {M : Memo} {s : MSt} (hu : u < 2 ^ 8) (hq : q < F.length) (hb : u.testBit q = false) (hs : SMk u M s) (hg : SGood G F Rd Rw u M s)
    (hrc : ∀ u2 M2, u < u2 → u2 < 2 ^ 8 → MOk M2 → ROk u2 M2 (rc u2 M2)) (hrg : ∀ u2 M2, u < u2 → u2 < 2 ^ 8 → MOk M2 → Good G F Rd Rw M2 → RGood G F Rd Rw u2 M2 (rc u2 M2)) :
    ∀ k, k ≤ (linA G F Rd Rw u q).length → SGood G F Rd Rw u M (lineM rc G u q (linA G F Rd Rw u q) s k) ∧ s.1 ≤ (lineM rc G u q (linA G F Rd Rw u q) s k).1 ∧
      ∀ j, j < k → giftL G (q : Int) ((linA G F Rd Rw u q).getD j []) + bestD G F Rd Rw (nextM u q ((linA G F Rd Rw u q).getD j [])) ≤ (lineM rc G u q (linA G F Rd Rw u q) s k).1
  | 0, _ => ⟨hg, Int.le_refl _, fun j hj => absurd hj (Nat.not_lt_zero _)⟩
  | k + 1, hk => by
    obtain ⟨ih, ih2, ih3⟩ := lineM_good hS hu hq hb hs hg hrc hrg k (by omega)
    have hok := lineM_ok hS hu hq hb hs hrc k (by omega)
    have hm := getD_mem (l := linA G F Rd Rw u q) [] (show k < (linA G F Rd Rw u q).length by omega)
    have hnx := next_in hS hq hu hb hm
    have hr := hrg _ _ hnx.1 hnx.2 hok.ok ih.good
    have hp := ih.pos
    simp only [lineM]
    split
    · rename_i hlt
      refine ⟨⟨hr.good, fun k2 h => hr.more _ (ih.more _ h), .inr ⟨q, hq, hb, hm, by dsimp only; rw [hr.val], hr.key⟩, by dsimp only; omega⟩, by dsimp only; omega, fun j hj => ?_⟩
      by_cases e : j = k
      · subst e; dsimp only; rw [hr.val]; exact Int.le_refl _
      · have := ih3 j (by omega); dsimp only; omega
    · rename_i hlt
      refine ⟨⟨hr.good, fun k2 h => hr.more _ (ih.more _ h), ih.reach.mono hr.more, hp⟩, ih2, fun j hj => ?_⟩
      by_cases e : j = k
      · subst e; rw [hr.val] at hlt; dsimp only; omega
      · exact ih3 j (by omega)
theorem firstM_good (hS : SOk G F Rd Rw) {rc : Nat → Memo → Int × Memo} {u : Nat} {M : Memo} (hu : u < 2 ^ 8) (hM : MOk M) (hG : Good G F Rd Rw M)
    (hrc : ∀ u2 M2, u < u2 → u2 < 2 ^ 8 → MOk M2 → ROk u2 M2 (rc u2 M2)) (hrg : ∀ u2 M2, u < u2 → u2 < 2 ^ 8 → MOk M2 → Good G F Rd Rw M2 → RGood G F Rd Rw u2 M2 (rc u2 M2)) :
    ∀ q, q ≤ F.length → SGood G F Rd Rw u M (firstM rc G F Rd Rw u M q) ∧ ∀ p, p < q → u.testBit p = false → ∀ l, l ∈ linA G F Rd Rw u p → giftL G (p : Int) l + bestD G F Rd Rw (nextM u p l) ≤ (firstM rc G F Rd Rw u M q).1
  | 0, _ => ⟨⟨hG, fun k h => h, .inl ⟨rfl, rfl⟩, Int.le_refl _⟩, fun p hp => absurd hp (Nat.not_lt_zero _)⟩
  | q + 1, hq => by
    obtain ⟨ih, ih2⟩ := firstM_good hS hu hM hG hrc hrg q (by omega)
    have hok := firstM_ok hS hu hM hrc q (by omega)
    simp only [firstM]
    split
    · rename_i hb
      refine ⟨ih, fun p hp hbp l hl => ?_⟩
      by_cases e : p = q
      · subst e; rw [hb] at hbp; exact absurd hbp (by decide)
      · exact ih2 p (by omega) hbp l hl
    · rename_i hb
      obtain ⟨h1, h2, h3⟩ := lineM_good hS hu (show q < F.length by omega) (by simpa using hb) hok ih hrc hrg _ (Nat.le_refl _)
      refine ⟨h1, fun p hp hbp l hl => ?_⟩
      by_cases e : p = q
      · subst e
        obtain ⟨j, hj, rfl⟩ := List.getElem_of_mem hl
        have := h3 j hj
        rwa [List.getD_eq_getElem?_getD, List.getElem?_eq_getElem hj, Option.getD_some] at this
      · exact Int.le_trans (ih2 p (by omega) hbp l hl) h2
end
theorem lookup_snocA {α : Type} {k a : Int} {p : α} : ∀ {m : List (Int × α)}, List.lookup a (m ++ [(k, p)]) = (List.lookup a m).or (if a = k then some p else none)
  | [] => by
    rw [List.nil_append, List.lookup_cons]
    by_cases e : a = k
    · subst e; simp
    · rw [beq_eq_false_iff_ne.2 e, if_neg e]; rfl
  | (b, q) :: m => by
    rw [List.cons_append, List.lookup_cons, List.lookup_cons]
    cases (a == b) with
    | true => rfl
    | false => exact lookup_snocA
section
variable {G : Int} {F : List (List Int)} {Rd Rw : Int}
theorem optF_pos : ∀ (m u : Nat), 0 ≤ optF G F Rd Rw m u
  | 0, _ => Int.le_refl _
  | m + 1, u => by
    have ih := optF_pos m u
    simp only [optF]
    split
    · exact ih
    · exact Int.le_trans ih (mxTo_ge _ (Nat.le_refl _)).1
theorem mostM_good (hS : SOk G F Rd Rw) : ∀ (f u : Nat) (M : Memo), u < 2 ^ 8 → 2 ^ 8 ≤ f + u → MOk M → Good G F Rd Rw M → RGood G F Rd Rw u M (mostM G F Rd Rw f u M)
  | 0, u, M, hu, hf, _, _ => by omega
  | f + 1, u, M, hu, hf, hM, hG => by
    have hrc : ∀ u2 M2, u < u2 → u2 < 2 ^ 8 → MOk M2 → ROk u2 M2 (mostM G F Rd Rw f u2 M2) := fun u2 M2 h1 h2 h3 => mostM_ok hS f u2 M2 h2 (by omega) h3
    have hrg : ∀ u2 M2, u < u2 → u2 < 2 ^ 8 → MOk M2 → Good G F Rd Rw M2 → RGood G F Rd Rw u2 M2 (mostM G F Rd Rw f u2 M2) := fun u2 M2 h1 h2 h3 h4 => mostM_good hS f u2 M2 h2 (by omega) h3 h4
    cases hL : List.lookup (u : Int) M.1 with
    | some v =>
      rw [mostM_hit hL]
      have hk : (u : Int) ∈ M.1.map (·.1) := Classical.byContradiction fun c => by rw [lookup_noneQ.2 c] at hL; cases hL
      exact ⟨(hG u v hL).1, hG, fun k h => h, hk⟩
    | none =>
      rw [mostM_new hL]
      obtain ⟨h1, h2⟩ := firstM_good hS hu hM hG hrc hrg F.length (Nat.le_refl _)
      have h3 := firstM_ok hS hu hM hrc F.length (Nat.le_refl _)
      generalize firstM (mostM G F Rd Rw f) G F Rd Rw u M F.length = s at *
      have hval : s.1 = bestD G F Rd Rw u := by
        refine Int.le_antisymm ?_ ?_
        · rcases h1.reach with ⟨_, h⟩ | ⟨q, a, b, c, d, _⟩
          · rw [h]; exact optF_pos _ _
          · rw [d]; exact best_le hS a b c
        · rcases best_ex (G := G) (Rd := Rd) (Rw := Rw) hS u with h | ⟨q, a, b, l, c, d⟩
          · rw [h]; exact h1.pos
          · rw [d]; exact h2 q a b l c
      have hn : List.lookup (u : Int) s.2.2.1 = none := lookup_noneQ.2 fun c => by
        rcases h3.new _ c with c | c
        · exact lookup_noneQ.1 hL c
        · omega
      have hmore : ∀ k, k ∈ s.2.2.1.map (·.1) → k ∈ (s.2.2.1 ++ [((u : Int), s.1)]).map (·.1) := fun k h => by rw [List.map_append]; exact List.mem_append_left _ h
      refine ⟨hval, fun u2 v hv => ?_, fun k h => hmore _ (h1.more k h), by simp⟩
      dsimp only at hv ⊢
      rw [lookup_snocA] at hv
      by_cases e : (u2 : Int) = (u : Int)
      · have e2 : u2 = u := by omega
        subst e2
        rw [hn, if_pos rfl, Option.none_or, Option.some.injEq] at hv
        subst hv
        refine ⟨hval, s.2.1, ?_, h1.reach.mono hmore⟩
        rw [lookup_snocA, lookup_noneQ.2 (by rw [h3.ok.keys]; exact lookup_noneQ.1 hn), if_pos rfl]; rfl
      · rw [if_neg e, Option.or_none] at hv
        obtain ⟨a, l, b, c⟩ := h1.good u2 v hv
        refine ⟨a, l, ?_, c.mono hmore⟩
        rw [lookup_snocA, if_neg e, Option.or_none]; exact b
theorem Good.nil : Good G F Rd Rw ([], []) := fun u v h => by simp at h
end
/-! ### The plan -/
def rowP (G : Int) (P : List (List Int)) : List (List Int) := P.filter fun l => decide (l.getD 0 0 < G)
def rndP (G : Int) (P : List (List Int)) : List (List Int) := P.filter fun l => !decide (l.getD 0 0 < G)
theorem rowP_yes {G : Int} {P : List (List Int)} {l : List Int} (h : l.getD 0 0 < G) : rowP G P ++ [l] = rowP G (P ++ [l]) ∧ rndP G P = rndP G (P ++ [l]) := by
  unfold rowP rndP
  rw [List.filter_append, List.filter_append, List.filter_cons, List.filter_cons, decide_eq_true h]
  simp
theorem rowP_no {G : Int} {P : List (List Int)} {l : List Int} (h : ¬ l.getD 0 0 < G) : rowP G P = rowP G (P ++ [l]) ∧ rndP G P ++ [l] = rndP G (P ++ [l]) := by
  unfold rowP rndP
  rw [List.filter_append, List.filter_append, List.filter_cons, List.filter_cons, decide_eq_false h]
  simp
def mmF (G : Int) (F : List (List Int)) (Rd Rw : Int) : Memo := (mostM G F Rd Rw 256 0 ([], [])).2
def planL (G : Int) (F : List (List Int)) (Rd Rw : Int) : List (List Int) := planF (mmF G F Rd Rw).2 256 0
theorem planF_nil {m : List (Int × List Int)} {g u : Nat} (h : List.lookup (u : Int) m = some []) : planF m g u = [] := by
  cases g with
  | zero => rfl
  | succ g => simp only [planF]; rw [h]
theorem planF_go {m : List (Int × List Int)} {g u q : Nat} {l : List Int} (h : List.lookup (u : Int) m = some l) (hl : 0 < l.length) (hq : l.getD 0 0 = (q : Int)) : planF m (g + 1) u = l :: planF m g (nextM u q l) := by
  cases l with
  | nil => simp at hl
  | cons x t =>
    have : x = (q : Int) := hq
    subst this
    simp only [planF]; rw [h]; simp
theorem mm_facts {G : Int} {F : List (List Int)} {Rd Rw : Int} (hS : SOk G F Rd Rw) : MOk (mmF G F Rd Rw) ∧ RGood G F Rd Rw 0 ([], []) (mostM G F Rd Rw 256 0 ([], [])) :=
  ⟨(mostM_ok hS 256 0 ([], []) (by omega) (by omega) MOk.nil).ok, mostM_good hS 256 0 ([], []) (by omega) (by omega) MOk.nil Good.nil⟩
theorem mm_at {G : Int} {F : List (List Int)} {Rd Rw : Int} (hS : SOk G F Rd Rw) {u : Nat} (h : (u : Int) ∈ (mmF G F Rd Rw).1.map (·.1)) : ∃ l, List.lookup (u : Int) (mmF G F Rd Rw).2 = some l ∧ ByOk G F Rd Rw (mmF G F Rd Rw) u (bestD G F Rd Rw u) l := by
  cases e : List.lookup (u : Int) (mmF G F Rd Rw).1 with
  | none => exact absurd h (lookup_noneQ.1 e)
  | some v =>
    obtain ⟨h1, l, h2, h3⟩ := (mm_facts hS).2.good u v e
    rw [h1] at h3
    exact ⟨l, h2, h3⟩

set_option maxRecDepth 1000000 in
set_option maxHeartbeats 4000000 in
theorem Most_fc (G : Int) (F : List (List Int)) (Rd Rw : Int) : FC Try.prog 11 [.agg [.i G, .rows F, .i Rd, .i Rw]] (if mayE G F Rd Rw = 0 then .tup [.rows (rndP G (planL G F Rd Rw)), .rows (rowP G (planL G F Rd Rw)), .i 0] else .tup [.rows [], .rows [], .i (mayE G F Rd Rw)]) := by
  refine FC.intro Try.func11 rfl (Nat.le_of_ble_eq_true rfl) fun hfit => ?_
  have fit0 := hfit _ (.head _)
  have hFl := (fit0.mem (p := .rows F) (by simp)).rows
  have hGi := (fit0.mem (p := .i G) (by simp)).int64
  have hRi := (fit0.mem (p := .i Rd) (by simp)).int64
  have hWi := (fit0.mem (p := .i Rw) (by simp)).int64
  unfold InR at hGi hRi hWi
  refine awp_seq ?_
  refine awp_region rfl (.n (fun _ => op_box (.plain rfl) (by simp)) (.n (fun _ => op_assign (.plain rfl)) (.n (fun _ => op_assign (.plain rfl)) (.n (fun _ => op_assign (.plain rfl)) (.nil _))))) ?_
  refine awp_seq ?_
  refine awp_seq ?_
  refine awp_region rfl (.n (fun _ => op_load_agg Try.isAgg24 Try.sizeOf24 (.plain rfl) (Nat.le_of_ble_eq_true rfl)) (.n (fun _ => op_call1 Try.call9 (.plain rfl) (May_fc _ _ _ _)) (.n (fun _ => op_assign (.plain rfl)) (.nil _)))) ?_
  refine awp_seq ?_
  refine awp_region rfl (.n (fun _ => op_move (.plain rfl)) (.n (fun _ => op_neq (.plain rfl) (.plain rfl)) (.nil _))) ?_
  refine awp_cond rfl (fun h => ?_) (fun h => ?_)
  · try simp only [decide_eq_true_eq, decide_eq_false_iff_not, Bool.and_eq_true, Bool.or_eq_true, Bool.and_eq_false_iff, Bool.or_eq_false_iff, Bool.not_eq_true', Bool.not_eq_false', Bool.not_eq_true, Bool.not_eq_false, Bool.true_eq_false, Bool.false_eq_true] at h
    refine awp_seq ?_
    refine awp_region rfl (.n (fun _ => op_move (.plain rfl)) (.n (fun _ => op_assign (.plain rfl)) (.n (fun _ => op_assign (.plain rfl)) (.n (fun _ => op_assign (.plain rfl)) (.nil _))))) ?_
    refine awp_ent (Ent.nilseq 2 (List Int) [] (fun r => [.seq Int 0 (fun n => [.int .i64 n]) r]) rfl) ?_
    refine awp_ent (Ent.nilseq 3 (List Int) [] (fun r => [.seq Int 0 (fun n => [.int .i64 n]) r]) rfl) ?_
    refine awp_ret ?_
    refine retQ.ret ?_
    refine ret3 rfl rfl rfl rfl rfl rfl rfl ?_
    rw [if_neg h]
  · try simp only [decide_eq_true_eq, decide_eq_false_iff_not, Bool.and_eq_true, Bool.or_eq_true, Bool.and_eq_false_iff, Bool.or_eq_false_iff, Bool.not_eq_true', Bool.not_eq_false', Bool.not_eq_true, Bool.not_eq_false, Bool.true_eq_false, Bool.false_eq_true] at h
    have hv : mayE G F Rd Rw = 0 := by omega
    have hS := sok hv
    have hn8 := hS.n8
    have hG := hS.g
    have hRd := hS.rd
    have hRw := hS.rw'
    have hmm := mm_facts hS
    refine awp_skip ?_
    refine awp_seq ?_
    refine awp_region rfl (.n (fun _ => op_load_agg Try.isAgg24 Try.sizeOf24 (.plain rfl) (Nat.le_of_ble_eq_true rfl)) (.e (op_makeMapQ 17 rfl) rfl (.e (op_makeMapQ 18 rfl) rfl (.r (op_buildF Try.underlying44 Try.zeroValue44 rfl (by intro w; kernel_rfl) (.plain rfl) (.plain rfl) rfl (.plain rfl) rfl) (.e (op_boxS 20 (.plain rfl) rfl rfl) rfl (.n (fun _ => op_assign (.plain rfl)) (.nil _))))))) ?_
    refine awp_seq ?_
    refine awp_region rfl (.n (fun _ => op_move (.plain rfl)) (.e (op_callH (fun k => [0, 0, 0, 0, 0, 0, 0, 0, 0, 0, 0, 0, 0, 0, 0, 0, 0, 0, 0, 0, 0, 0, 0, 0, 0, 0, 0, 0, 0, 0, 0, 0, 0, 0, 0, 0, 0, 0, 0, 0, 20, 17, 18].getD k 0) Try.call17 (most_fch G F Rd Rw hv 256 0 ([], []) ?_ ?_ ?_) ⟨(.plain rfl), (.plain rfl), trivial⟩ ⟨rfl, rfl, rfl, trivial⟩ (by kernel_rfl)) rfl (.nil _))) ?_
    · omega
    · omega
    · exact MOk.nil
    refine awp_seq ?_
    refine awp_seq ?_
    refine awp_region rfl (.n (fun _ => op_assign (.plain rfl)) (.nil _)) ?_
    refine awp_block ?_
    refine awp_ent (Ent.begin 2 1002 35 1 (List Int) [] (fun r => [.seq Int 0 (fun n => [.int .i64 n]) r]) rfl rfl rfl) ?_
    refine awp_ent (Ent.begin 3 1003 35 1 (List Int) [] (fun r => [.seq Int 0 (fun n => [.int .i64 n]) r]) rfl rfl rfl) ?_
    refine awp_loop (σ := Nat × List (List Int)) (fun (s : Nat × List (List Int)) => s.1 < 2 ^ 8 ∧ (s.1 : Int) ∈ (mmF G F Rd Rw).1.map (fun p => p.1) ∧ s.2.length ≤ s.1 ∧ ∃ g, 2 ^ 8 ≤ g + s.1 ∧ planF (mmF G F Rd Rw).2 256 0 = s.2 ++ planF (mmF G F Rd Rw).2 g s.1) (fun (s : Nat × List (List Int)) => ⟨[(1, .pv (.rd [.i G, .rows F, .i Rd, .i Rw])), (2, .own 1002), (3, .own 1003), (6, .ref 20 0), (7, .int (s.1 : Nat))], [(20, .box [.pv (.i G), .pv (.rows F), .pv (.i Rd), .pv (.i Rw), .own 17, .own 18]), (17, .mq (D1 (mmF G F Rd Rw).1)), (18, .mq (D2 (mmF G F Rd Rw).2)), (1002, .arr 35 1 (List Int) [] (fun r => [.seq Int 0 (fun n => [.int .i64 n]) r]) (rndP G s.2)), (1003, .arr 35 1 (List Int) [] (fun r => [.seq Int 0 (fun n => [.int .i64 n]) r]) (rowP G s.2))]⟩) (fun (s : Nat × List (List Int)) => 2 ^ 8 - s.1) (0, []) ?_ (Ent.kept ⟨rfl, rfl, rfl, rfl, rfl, trivial⟩ ⟨rfl, rfl, rfl, rfl, rfl, trivial⟩) ?_
    · exact ⟨by omega, hmm.2.key, Nat.zero_le _, 256, by omega, rfl⟩
    rintro ⟨u, P⟩ hp
    try dsimp only at hp
    obtain ⟨hu, hku, hPu, g, hg, hpl⟩ := hp
    obtain ⟨l, hl2, hby⟩ := mm_at hS hku
    refine awp_seq ?_
    refine awp_seq ?_
    refine awp_region rfl (.n (fun _ => op_move (.plain rfl)) (.n (fun _ => op_nilCheckR (.plain rfl)) (.n (fun _ => op_fieldAddrR Try.underlying44 rfl rfl Try.sizeOf42 (.plain rfl)) (.r (op_loadR Try.isAgg42 (.plain rfl) rfl rfl) (.n (fun _ => op_move (.plain rfl)) (.r (OpT.pvEq (q := .ints l) (by rw [D2_lookup, hl2]; rfl) (op_lookupQ Try.underlying42 Try.underlying3 Try.zeroValue35 rep_ints0 (.plain rfl) rfl (.plain rfl))) (.n (fun _ => op_len (s := 0) Try.underlying35 (.plain rfl)) (.n (fun _ => op_gtr (.plain rfl) (.plain rfl)) (.nil _))))))))) ?_
    refine awp_cond rfl (fun h => ?_) (fun h => ?_)
    · try simp only [decide_eq_true_eq, decide_eq_false_iff_not, Bool.and_eq_true, Bool.or_eq_true, Bool.and_eq_false_iff, Bool.or_eq_false_iff, Bool.not_eq_true', Bool.not_eq_false', Bool.not_eq_true, Bool.not_eq_false, Bool.true_eq_false, Bool.false_eq_true] at h
      obtain ⟨q, hq, hbq, hlq, _, hkey⟩ := hby.resolve_left (fun c => by rw [c.1] at h; simp at h)
      have hla := linA_in hS hq hlq
      have hnx := next_in hS hq hu hbq hlq
      obtain ⟨g, rfl⟩ : ∃ q, g = q + 1 := ⟨g - 1, by omega⟩
      rw [planF_go hl2 (by omega) hla.1] at hpl
      refine awp_skip ?_
      refine awp_block ?_
      refine awp_seq ?_
      refine awp_region rfl (.n (fun _ => op_move (.plain rfl)) (.n (fun _ => op_nilCheckR (.plain rfl)) (.n (fun _ => op_fieldAddrR Try.underlying44 rfl rfl Try.sizeOf42 (.plain rfl)) (.r (op_loadR Try.isAgg42 (.plain rfl) rfl rfl) (.n (fun _ => op_move (.plain rfl)) (.r (OpT.pvEq (q := .ints l) (by rw [D2_lookup, hl2]; rfl) (op_lookupQ Try.underlying42 Try.underlying3 Try.zeroValue35 rep_ints0 (.plain rfl) rfl (.plain rfl))) (.n (fun _ => op_assign (.plain rfl)) (.nil _)))))))) ?_
      refine awp_seq ?_
      refine awp_seq ?_
      refine awp_region_draw mixed rfl (.n (fun _ => op_move (.plain rfl)) (.n (fun _ => op_indexAddr Try.underlying35 Try.sizeOf3 (.plain rfl) (.plain rfl) (fun _ => rfl) ?_) (.n (fun _ => op_load Try.isAgg3 (.plain rfl)) (.n (fun _ => op_fieldAddr Try.underlying24 rfl rfl Try.sizeOf3 (.plain rfl)) (.n (fun _ => op_load Try.isAgg3 (.plain rfl)) (.n (fun _ => op_lss (.plain rfl) (.plain rfl)) (.nil _))))))) ?d1 ?_
      · omega
      · kernel_rfl
      refine awp_cond rfl (fun h => ?_) (fun h => ?_)
      · try simp only [decide_eq_true_eq, decide_eq_false_iff_not, Bool.and_eq_true, Bool.or_eq_true, Bool.and_eq_false_iff, Bool.or_eq_false_iff, Bool.not_eq_true', Bool.not_eq_false', Bool.not_eq_true, Bool.not_eq_false, Bool.true_eq_false, Bool.false_eq_true] at h
        have hrp := rowP_yes (P := P) (show l.getD 0 0 < G from h)
        refine awp_region rfl (.n (fun _ => op_move (.plain rfl)) (.n (fun _ => op_move (.plain rfl)) (.n (fun _ => op_slit (pp := [(0, _)]) (α := (List Int)) (d := []) (f := (fun r => [.seq Int 0 (fun n => [.int .i64 n]) r])) [_] ety22 rfl ⟨rfl, (.plain rfl), (by simp), trivial⟩ rfl (by decide) rfl) (.e (op_append (id' := 46) (α := (List Int)) (d := []) (f := (fun r => [.seq Int 0 (fun n => [.int .i64 n]) r])) ety22 Try.underlying22 (fun _ => rfl) (fun _ => rfl) (.plain rfl) rfl (.plain rfl) rfl ?_) rfl (.n (fun _ => op_assign (.plain rfl)) (.nil _)))))) ?_
        · have hfl := List.length_filter_le (fun l => decide (l.getD 0 0 < G)) P
          unfold rowP
          simp only [List.length_cons, List.length_nil]
          omega
        refine awp_seq ?_
        refine awp_seq ?_
        refine awp_region rfl (.n (fun _ => op_move (.plain rfl)) (.n (fun _ => op_len (s := 0) Try.underlying35 (.plain rfl)) (.n (fun _ => op_move (.plain rfl)) (.nil _)))) ?_
        refine awp_block ?_
        refine awp_ent (Ent.ren 1002 2002 rfl rfl rfl) ?_
        refine awp_ent (Ent.ren 46 2003 rfl rfl rfl) ?_
        refine awp_loop (σ := Nat) (fun (j : Nat) => j ≤ l.length) (fun (j : Nat) => ⟨[(1, .pv (.rd [.i G, .rows F, .i Rd, .i Rw])), (2, .own 2002), (3, .own 2003), (6, .ref 20 0), (7, .int (orTo u l j : Nat)), (8, .pv (.ints l)), (51, .pv (.ints l)), (52, .int (l.length : Nat)), (53, .int (j : Nat))], [(20, .box [.pv (.i G), .pv (.rows F), .pv (.i Rd), .pv (.i Rw), .own 17, .own 18]), (17, .mq (D1 (mmF G F Rd Rw).1)), (18, .mq (D2 (mmF G F Rd Rw).2)), (2002, .arr 35 1 (List Int) [] (fun r => [.seq Int 0 (fun n => [.int .i64 n]) r]) (rndP G (P ++ [l]))), (2003, .arr 35 1 (List Int) [] (fun r => [.seq Int 0 (fun n => [.int .i64 n]) r]) (rowP G (P ++ [l])))]⟩) (fun (j : Nat) => l.length - j) 0 ?_ (Ent.kept ⟨rfl, rfl, rfl, rfl, rfl, rfl, rfl, rfl, rfl, trivial⟩ ⟨rfl, rfl, rfl, (congrArg (fun l => some (Blk.arr 35 1 (List Int) [] (fun r => [.seq Int 0 (fun n => [.int .i64 n]) r]) l)) (hrp.2)), (congrArg (fun l => some (Blk.arr 35 1 (List Int) [] (fun r => [.seq Int 0 (fun n => [.int .i64 n]) r]) l)) (hrp.1)), trivial⟩) ?_
        · exact Nat.zero_le _
        rintro j hp
        try dsimp only at hp
        have hj := hp
        refine awp_seq ?_
        refine awp_region rfl (.n (fun _ => op_lss (.plain rfl) (.plain rfl)) (.nil _)) ?_
        refine awp_seq ?_
        refine awp_cond rfl (fun h => ?_) (fun h => ?_)
        · try simp only [decide_eq_true_eq, decide_eq_false_iff_not, Bool.and_eq_true, Bool.or_eq_true, Bool.and_eq_false_iff, Bool.or_eq_false_iff, Bool.not_eq_true', Bool.not_eq_false', Bool.not_eq_true, Bool.not_eq_false, Bool.true_eq_false, Bool.false_eq_true] at h
          have hxj := hla.2.2.2 j (by omega)
          refine awp_skip ?_
          refine awp_seq ?_
          refine awp_block ?_
          refine awp_seq ?_
          refine awp_region rfl (.n (fun _ => op_indexAddrN Try.underlying35 Try.sizeOf3 (.plain rfl) (.plain rfl) (fun _ => rfl) ?_) (.n (fun _ => op_load Try.isAgg3 (.plain rfl)) (.n (fun _ => op_assign (.plain rfl)) (.nil _)))) ?_
          · omega
          refine awp_region rfl (.n (fun _ => op_move (.plain rfl)) (.n (fun _ => op_move (.plain rfl)) (.n (fun _ => op_shl (.plain rfl) (.plain rfl) ?_) (.n (fun _ => OpT.intEq (or_shl _ _) (op_bor (.plain rfl) (.plain rfl) ?_)) (.n (fun _ => op_assign (.plain rfl)) (.nil _)))))) ?_
          · exact ⟨by omega, by omega, shl_in (by omega)⟩
          · exact ⟨by omega, by rw [shl_one]; exact Int.natCast_nonneg _⟩
          refine awp_region rfl (.n (fun _ => op_add (.plain rfl) (.plain rfl) ?_) (.n (fun _ => op_move (.plain rfl)) (.nil _))) ?_
          · unfold InR; omega
          exact ⟨j + 1, by omega, by dsimp only; omega, (Ent.kept ⟨rfl, rfl, rfl, rfl, rfl, rfl, rfl, rfl, rfl, trivial⟩ ⟨rfl, rfl, rfl, rfl, rfl, trivial⟩)⟩
        · try simp only [decide_eq_true_eq, decide_eq_false_iff_not, Bool.and_eq_true, Bool.or_eq_true, Bool.and_eq_false_iff, Bool.or_eq_false_iff, Bool.not_eq_true', Bool.not_eq_false', Bool.not_eq_true, Bool.not_eq_false, Bool.true_eq_false, Bool.false_eq_true] at h
          obtain rfl : j = l.length := by omega
          refine awp_exit ?_
          refine awp_region rfl (.n (fun _ => op_move (.plain rfl)) (.n (fun _ => op_move (.plain rfl)) (.n (fun _ => op_indexAddr Try.underlying35 Try.sizeOf3 (.plain rfl) (.plain rfl) (fun _ => rfl) ?_) (.n (fun _ => op_load Try.isAgg3 (.plain rfl)) (.n (fun _ => op_shl (.plain rfl) (.plain rfl) ?_) (.n (fun _ => op_sub (.plain rfl) (.plain rfl) ?_) (.n (fun _ => OpT.intEq (or_shl1 _ _) (op_bor (.plain rfl) (.plain rfl) ?_)) (.n (fun _ => op_assign (.plain rfl)) (.nil _))))))))) ?_
          · omega
          · exact ⟨by show 0 ≤ l.getD 0 0; omega, by show l.getD 0 0 ≤ 64; omega, shl_in (by show (l.getD 0 0).toNat ≤ 60; omega)⟩
          · exact shl_in1 (x := (l.getD 0 0).toNat) (by omega)
          · refine ⟨by omega, ?_⟩
            have := Nat.two_pow_pos (l.getD 0 0).toNat
            rw [shl_one]
            show (0 : Int) ≤ ((2 ^ (l.getD 0 0).toNat : Nat) : Int) - 1
            omega
          exact ⟨(nextM u q l, P ++ [l]), ⟨hnx.2, hkey, by rw [List.length_append, List.length_singleton]; have := hnx.1; omega, g, by have := hnx.1; omega, by rw [hpl, List.append_assoc]; rfl⟩, by have := hnx.1; have := hnx.2; dsimp only; omega, (Ent.round2 2002 1002 2003 1003 ⟨rfl, rfl, rfl, rfl, (congrArg (fun (n : Nat) => some (SV.int n)) (by show orTo u l l.length ||| (2 ^ (l.getD 0 0).toNat - 1) = nextM u q l; rw [← next_alt, hla.1]; rfl)), trivial⟩ ⟨rfl, rfl, rfl, rfl, rfl, trivial⟩ rfl rfl rfl ⟨rfl, rfl, rfl, rfl, rfl, trivial⟩ ⟨rfl, rfl, rfl, rfl, rfl, trivial⟩ rfl rfl rfl ⟨rfl, rfl, rfl, rfl, rfl, trivial⟩ ⟨rfl, rfl, rfl, rfl, rfl, trivial⟩)⟩
      · try simp only [decide_eq_true_eq, decide_eq_false_iff_not, Bool.and_eq_true, Bool.or_eq_true, Bool.and_eq_false_iff, Bool.or_eq_false_iff, Bool.not_eq_true', Bool.not_eq_false', Bool.not_eq_true, Bool.not_eq_false, Bool.true_eq_false, Bool.false_eq_true] at h
        have hrp := rowP_no (P := P) (show ¬ l.getD 0 0 < G from h)
        refine awp_region rfl (.n (fun _ => op_move (.plain rfl)) (.n (fun _ => op_move (.plain rfl)) (.n (fun _ => op_slit (pp := [(0, _)]) (α := (List Int)) (d := []) (f := (fun r => [.seq Int 0 (fun n => [.int .i64 n]) r])) [_] ety22 rfl ⟨rfl, (.plain rfl), (by simp), trivial⟩ rfl (by decide) rfl) (.e (op_append (id' := 50) (α := (List Int)) (d := []) (f := (fun r => [.seq Int 0 (fun n => [.int .i64 n]) r])) ety22 Try.underlying22 (fun _ => rfl) (fun _ => rfl) (.plain rfl) rfl (.plain rfl) rfl ?_) rfl (.n (fun _ => op_assign (.plain rfl)) (.nil _)))))) ?_
        · have hfl := List.length_filter_le (fun l => !decide (l.getD 0 0 < G)) P
          unfold rndP
          simp only [List.length_cons, List.length_nil]
          omega
        refine awp_seq ?_
        refine awp_seq ?_
        refine awp_region rfl (.n (fun _ => op_move (.plain rfl)) (.n (fun _ => op_len (s := 0) Try.underlying35 (.plain rfl)) (.n (fun _ => op_move (.plain rfl)) (.nil _)))) ?_
        refine awp_block ?_
        refine awp_ent (Ent.ren 50 2002 rfl rfl rfl) ?_
        refine awp_ent (Ent.ren 1003 2003 rfl rfl rfl) ?_
        refine awp_loop (σ := Nat) (fun (j : Nat) => j ≤ l.length) (fun (j : Nat) => ⟨[(1, .pv (.rd [.i G, .rows F, .i Rd, .i Rw])), (2, .own 2002), (3, .own 2003), (6, .ref 20 0), (7, .int (orTo u l j : Nat)), (8, .pv (.ints l)), (51, .pv (.ints l)), (52, .int (l.length : Nat)), (53, .int (j : Nat))], [(20, .box [.pv (.i G), .pv (.rows F), .pv (.i Rd), .pv (.i Rw), .own 17, .own 18]), (17, .mq (D1 (mmF G F Rd Rw).1)), (18, .mq (D2 (mmF G F Rd Rw).2)), (2002, .arr 35 1 (List Int) [] (fun r => [.seq Int 0 (fun n => [.int .i64 n]) r]) (rndP G (P ++ [l]))), (2003, .arr 35 1 (List Int) [] (fun r => [.seq Int 0 (fun n => [.int .i64 n]) r]) (rowP G (P ++ [l])))]⟩) (fun (j : Nat) => l.length - j) 0 ?_ (Ent.kept ⟨rfl, rfl, rfl, rfl, rfl, rfl, rfl, rfl, rfl, trivial⟩ ⟨rfl, rfl, rfl, (congrArg (fun l => some (Blk.arr 35 1 (List Int) [] (fun r => [.seq Int 0 (fun n => [.int .i64 n]) r]) l)) (hrp.2)), (congrArg (fun l => some (Blk.arr 35 1 (List Int) [] (fun r => [.seq Int 0 (fun n => [.int .i64 n]) r]) l)) (hrp.1)), trivial⟩) ?_
        · exact Nat.zero_le _
        rintro j hp
        try dsimp only at hp
        have hj := hp
        refine awp_seq ?_
        refine awp_region rfl (.n (fun _ => op_lss (.plain rfl) (.plain rfl)) (.nil _)) ?_
        refine awp_seq ?_
        refine awp_cond rfl (fun h => ?_) (fun h => ?_)
        · try simp only [decide_eq_true_eq, decide_eq_false_iff_not, Bool.and_eq_true, Bool.or_eq_true, Bool.and_eq_false_iff, Bool.or_eq_false_iff, Bool.not_eq_true', Bool.not_eq_false', Bool.not_eq_true, Bool.not_eq_false, Bool.true_eq_false, Bool.false_eq_true] at h
          have hxj := hla.2.2.2 j (by omega)
          refine awp_skip ?_
          refine awp_seq ?_
          refine awp_block ?_
          refine awp_seq ?_
          refine awp_region rfl (.n (fun _ => op_indexAddrN Try.underlying35 Try.sizeOf3 (.plain rfl) (.plain rfl) (fun _ => rfl) ?_) (.n (fun _ => op_load Try.isAgg3 (.plain rfl)) (.n (fun _ => op_assign (.plain rfl)) (.nil _)))) ?_
          · omega
          refine awp_region rfl (.n (fun _ => op_move (.plain rfl)) (.n (fun _ => op_move (.plain rfl)) (.n (fun _ => op_shl (.plain rfl) (.plain rfl) ?_) (.n (fun _ => OpT.intEq (or_shl _ _) (op_bor (.plain rfl) (.plain rfl) ?_)) (.n (fun _ => op_assign (.plain rfl)) (.nil _)))))) ?_
          · exact ⟨by omega, by omega, shl_in (by omega)⟩
          · exact ⟨by omega, by rw [shl_one]; exact Int.natCast_nonneg _⟩
          refine awp_region rfl (.n (fun _ => op_add (.plain rfl) (.plain rfl) ?_) (.n (fun _ => op_move (.plain rfl)) (.nil _))) ?_
          · unfold InR; omega
          exact ⟨j + 1, by omega, by dsimp only; omega, (Ent.kept ⟨rfl, rfl, rfl, rfl, rfl, rfl, rfl, rfl, rfl, trivial⟩ ⟨rfl, rfl, rfl, rfl, rfl, trivial⟩)⟩
        · try simp only [decide_eq_true_eq, decide_eq_false_iff_not, Bool.and_eq_true, Bool.or_eq_true, Bool.and_eq_false_iff, Bool.or_eq_false_iff, Bool.not_eq_true', Bool.not_eq_false', Bool.not_eq_true, Bool.not_eq_false, Bool.true_eq_false, Bool.false_eq_true] at h
          obtain rfl : j = l.length := by omega
          refine awp_exit ?_
          refine awp_region rfl (.n (fun _ => op_move (.plain rfl)) (.n (fun _ => op_move (.plain rfl)) (.n (fun _ => op_indexAddr Try.underlying35 Try.sizeOf3 (.plain rfl) (.plain rfl) (fun _ => rfl) ?_) (.n (fun _ => op_load Try.isAgg3 (.plain rfl)) (.n (fun _ => op_shl (.plain rfl) (.plain rfl) ?_) (.n (fun _ => op_sub (.plain rfl) (.plain rfl) ?_) (.n (fun _ => OpT.intEq (or_shl1 _ _) (op_bor (.plain rfl) (.plain rfl) ?_)) (.n (fun _ => op_assign (.plain rfl)) (.nil _))))))))) ?_
          · omega
          · exact ⟨by show 0 ≤ l.getD 0 0; omega, by show l.getD 0 0 ≤ 64; omega, shl_in (by show (l.getD 0 0).toNat ≤ 60; omega)⟩
          · exact shl_in1 (x := (l.getD 0 0).toNat) (by omega)
          · refine ⟨by omega, ?_⟩
            have := Nat.two_pow_pos (l.getD 0 0).toNat
            rw [shl_one]
            show (0 : Int) ≤ ((2 ^ (l.getD 0 0).toNat : Nat) : Int) - 1
            omega
          exact ⟨(nextM u q l, P ++ [l]), ⟨hnx.2, hkey, by rw [List.length_append, List.length_singleton]; have := hnx.1; omega, g, by have := hnx.1; omega, by rw [hpl, List.append_assoc]; rfl⟩, by have := hnx.1; have := hnx.2; dsimp only; omega, (Ent.round2 2002 1002 2003 1003 ⟨rfl, rfl, rfl, rfl, (congrArg (fun (n : Nat) => some (SV.int n)) (by show orTo u l l.length ||| (2 ^ (l.getD 0 0).toNat - 1) = nextM u q l; rw [← next_alt, hla.1]; rfl)), trivial⟩ ⟨rfl, rfl, rfl, rfl, rfl, trivial⟩ rfl rfl rfl ⟨rfl, rfl, rfl, rfl, rfl, trivial⟩ ⟨rfl, rfl, rfl, rfl, rfl, trivial⟩ rfl rfl rfl ⟨rfl, rfl, rfl, rfl, rfl, trivial⟩ ⟨rfl, rfl, rfl, rfl, rfl, trivial⟩)⟩
    · try simp only [decide_eq_true_eq, decide_eq_false_iff_not, Bool.and_eq_true, Bool.or_eq_true, Bool.and_eq_false_iff, Bool.or_eq_false_iff, Bool.not_eq_true', Bool.not_eq_false', Bool.not_eq_true, Bool.not_eq_false, Bool.true_eq_false, Bool.false_eq_true] at h
      obtain rfl : l = [] := List.eq_nil_of_length_eq_zero (by omega)
      rw [planF_nil hl2, List.append_nil] at hpl
      refine awp_exit ?_
      refine awp_seq ?_
      refine awp_ent (Ent.give 2 rfl rfl) ?_
      refine awp_ent (Ent.give 3 rfl rfl) ?_
      refine awp_region rfl (.n (fun _ => op_move (.plain rfl)) (.n (fun _ => op_move (.plain rfl)) (.n (fun _ => op_assign (.plain rfl)) (.n (fun _ => op_assign (.plain rfl)) (.n (fun _ => op_assign (.plain rfl)) (.nil _)))))) ?_
      refine awp_ret ?_
      refine retQ.ret ?_
      refine ret3 rfl rfl rfl rfl rfl rfl rfl ?_
      rw [if_pos hv]
      unfold planL
      rw [hpl]

end Go.Proofs.Ytnkhlgkcohpahaa

