/- No plan that may be has more gifts than Most. Conditions: each theorem names its own. -/
import Derived.Test.YtnkhlgkcohpahaaProg
import Derived.Test.YtnkhlgkcohpahaaFf
namespace Go.Proofs.Ytnkhlgkcohpahaa
open Go.Abs
set_option linter.unusedVariables false
set_option linter.unusedSimpArgs false

/-! ### What a line that may be is like -/
section
variable {G : Int} {F : List (List Int)} {Rd Rw : Int}
theorem lineB_all {l u : List Int} {i : Nat} (h : lineB F l u i = 0) : ¬ l.getD i 0 ∈ u ++ l.take i ∧ (0 < i → l.getD i 0 ∈ F.getD (l.getD (i - 1) 0).toNat []) := by
  unfold lineB at h
  split at h
  · omega
  · split at h
    · omega
    · rename_i h6
      split at h
      · omega
      · rename_i hb
        refine ⟨fun c => h6 (place_mem.2 c), fun h0 => ?_⟩
        by_cases c : 0 ≤ placeF (F.getD (l.getD (i - 1) 0).toNat []) (l.getD i 0)
        · exact place_mem.1 c
        · exact absurd ⟨h0, c⟩ hb
theorem line_facts {l u : List Int} (h : lineE F l u = 0) : l.Nodup ∧ (∀ x, x ∈ l → ¬ x ∈ u) ∧ Chn F l ∧ (∀ x, x ∈ l → 0 ≤ x ∧ x < (F.length : Int)) ∧ 2 ≤ l.length := by
  obtain ⟨h2, hE, _⟩ := lineE_zero h
  have H := fun i hi => lineB_all (firstE_zero hE i hi)
  refine ⟨List.pairwise_iff_getElem.2 fun j k hj hk hjk e => ?_, fun x hx hu => ?_, fun i hi => ?_, fun x hx => ?_, h2⟩
  · refine (H k hk).1 (List.mem_append.2 (.inr ?_))
    rw [List.getD_eq_getElem?_getD, List.getElem?_eq_getElem hk, Option.getD_some, ← e]
    exact List.mem_iff_getElem.2 ⟨j, by rw [List.length_take]; omega, by rw [List.getElem_take]⟩
  · obtain ⟨j, hj, rfl⟩ := List.getElem_of_mem hx
    refine (H j hj).1 (List.mem_append.2 (.inl ?_))
    rw [List.getD_eq_getElem?_getD, List.getElem?_eq_getElem hj, Option.getD_some]; exact hu
  · have := (H (i + 1) hi).2 (by omega)
    simpa using this
  · obtain ⟨j, hj, rfl⟩ := List.getElem_of_mem hx
    have := lineE_in h hj
    rwa [List.getD_eq_getElem?_getD, List.getElem?_eq_getElem hj, Option.getD_some] at this
theorem line_len {l u : List Int} (h : lineE F l u = 0) : l.length ≤ F.length :=
  nodup_lenI _ _ (line_facts h).1 (line_facts h).2.2.2.1
variable {rs ws : List (List Int)}
theorem item_facts {k : Nat} (h : itemB G F Rd Rw rs ws k = 0) : lineE F (lAt rs ws k) (usedTo rs ws k) = 0 ∧ (k < rs.length → ((lAt rs ws k).length : Int) ≤ Rd ∧ ¬ (lAt rs ws k).getD 0 0 < G ∧ (lAt rs ws k).getD 0 0 ∈ F.getD (lastF (lAt rs ws k)).toNat []) ∧ (¬ k < rs.length → ((lAt rs ws k).length : Int) - 1 ≤ Rw ∧ (lAt rs ws k).getD 0 0 < G) := by
  unfold itemB at h
  split at h
  · omega
  · rename_i h1
    refine ⟨by omega, fun c => ?_, fun c => ?_⟩
    · rw [if_pos c] at h
      split at h
      · omega
      · rename_i hb
        exact ⟨by omega, by omega, place_mem.1 (by omega)⟩
    · rw [if_neg c] at h
      split at h
      · omega
      · omega
theorem item_lok {k : Nat} (h : itemB G F Rd Rw rs ws k = 0) : LOk G F Rd Rw 0 (lAt rs ws k) := by
  obtain ⟨h1, h2, h3⟩ := item_facts h
  obtain ⟨a1, a2, a3, a4, a5⟩ := line_facts h1
  refine ⟨by omega, a4, a1, a3, fun x _ => Nat.zero_testBit _, fun c => ?_, fun c => ?_⟩
  · by_cases hk : k < rs.length
    · exact absurd c (h2 hk).2.1
    · exact (h3 hk).1
  · by_cases hk : k < rs.length
    · exact ⟨(h2 hk).1, (h2 hk).2.2⟩
    · exact absurd (h3 hk).2 c
theorem gift_bd2 (hv : mayE G F Rd Rw = 0) {k : Nat} (h : firstE (itemB G F Rd Rw rs ws) k = 0) : 0 ≤ sumTo (giftB rs ws) k ∧ sumTo (giftB rs ws) k ≤ 8 * k := by
  have h8 := mayE_len hv
  have := sumTo_bd (f := giftB rs ws) (A := 0) (B := 8) (n := k) fun j hj => by
    have hi := (item_facts (firstE_zero h j hj)).1
    have := line_len hi
    have := (line_facts hi).2.2.2.2
    unfold giftB
    split <;> omega
  omega
end
/-! ### Rounds are turned so that the least one is ahead -/
def Lk (R : Int → Int → Prop) : List Int → Prop
  | [] => True
  | x :: t => (∀ y, t.head? = some y → R x y) ∧ Lk R t
theorem lk_iff {R : Int → Int → Prop} : ∀ l : List Int, Lk R l ↔ ∀ i, i + 1 < l.length → R (l.getD i 0) (l.getD (i + 1) 0)
  | [] => by simp [Lk]
  | x :: t => by
    simp only [Lk, lk_iff t]
    constructor
    · rintro ⟨h1, h2⟩ i hi
      cases i with
      | zero =>
        cases t with
        | nil => simp at hi
        | cons y t => exact h1 y rfl
      | succ i => exact h2 i (by simpa using hi)
    · intro h
      refine ⟨fun y hy => ?_, fun i hi => ?_⟩
      · cases t with
        | nil => simp at hy
        | cons z t =>
          simp only [List.head?_cons, Option.some.injEq] at hy
          subst hy
          exact h 0 (by simp)
      · exact h (i + 1) (by simpa using hi)
theorem lk_snoc {R : Int → Int → Prop} {y z : Int} (hr : R y z) : ∀ s : List Int, Lk R (s ++ [y]) → Lk R (s ++ [y] ++ [z])
  | [], _ => by simp [Lk, hr]
  | w :: s, h => by
    simp only [List.cons_append, Lk] at h ⊢
    refine ⟨fun v hv => h.1 v ?_, lk_snoc hr s h.2⟩
    cases s <;> simpa using hv
def Rg (R : Int → Int → Prop) (l : List Int) : Prop := Lk R (l ++ l.take 1)
theorem rg_rot {R : Int → Int → Prop} {y : Int} {a : List Int} (h : Rg R (y :: a)) : Rg R (a ++ [y]) := by
  unfold Rg at *
  cases a with
  | nil => exact h
  | cons z a =>
    simp only [List.take_succ_cons, List.take_zero, List.cons_append, Lk] at h ⊢
    have := lk_snoc (h.1 z (by simp)) (z :: a) (by simpa [Lk] using h.2)
    simpa [Lk] using this
theorem rg_turn {R : Int → Int → Prop} {x : Int} : ∀ (a b : List Int), Rg R (a ++ x :: b) → Rg R (x :: b ++ a)
  | [], b, h => by simpa using h
  | y :: a, b, h => by
    have h1 := rg_rot (R := R) (y := y) (a := a ++ x :: b) h
    rw [List.append_assoc] at h1
    have h2 := rg_turn a (b ++ [y]) h1
    simpa [List.append_assoc] using h2
theorem min_ex {l : List Int} (h : l ≠ []) : ∃ x, x ∈ l ∧ ∀ y, y ∈ l → x ≤ y := by
  induction l with
  | nil => exact absurd rfl h
  | cons a l ih =>
    by_cases c : l = []
    · subst c; exact ⟨a, by simp, fun y hy => by simp at hy; omega⟩
    · obtain ⟨x, hx, hm⟩ := ih c
      by_cases e : a ≤ x
      · exact ⟨a, List.mem_cons_self, fun y hy => by
          rcases List.mem_cons.1 hy with rfl | hy
          · exact Int.le_refl _
          · have := hm y hy; omega⟩
      · exact ⟨x, List.mem_cons_of_mem _ hx, fun y hy => by
          rcases List.mem_cons.1 hy with rfl | hy
          · omega
          · exact hm y hy⟩
section
variable {G : Int} {F : List (List Int)} {Rd Rw : Int}
def Fr (F : List (List Int)) (x y : Int) : Prop := y ∈ F.getD x.toNat []
theorem rg_iff {l : List Int} (hl : 0 < l.length) : Rg (Fr F) l ↔ Chn F l ∧ l.getD 0 0 ∈ F.getD (lastF l).toNat [] := by
  have ht : l.take 1 = [l.getD 0 0] := by
    cases l with
    | nil => simp at hl
    | cons x t => simp
  unfold Rg
  rw [ht, lk_iff]
  have gl : ∀ i, i < l.length → (l ++ [l.getD 0 0]).getD i 0 = l.getD i 0 := fun i hi => by
    rw [List.getD_eq_getElem?_getD, List.getElem?_append_left hi, ← List.getD_eq_getElem?_getD]
  have ge : (l ++ [l.getD 0 0]).getD l.length 0 = l.getD 0 0 := by
    rw [List.getD_eq_getElem?_getD, List.getElem?_append_right (Nat.le_refl _)]; simp
  constructor
  · intro h
    refine ⟨fun i hi => ?_, ?_⟩
    · have := h i (by rw [List.length_append, List.length_singleton]; omega)
      rw [gl i (by omega), gl (i + 1) hi] at this
      exact this
    · have := h (l.length - 1) (by rw [List.length_append, List.length_singleton]; omega)
      rw [gl _ (by omega), show l.length - 1 + 1 = l.length by omega, ge] at this
      exact this
  · rintro ⟨h1, h2⟩ i hi
    rw [List.length_append, List.length_singleton] at hi
    by_cases c : i + 1 < l.length
    · rw [gl i (by omega), gl (i + 1) c]; exact h1 i c
    · obtain rfl : i = l.length - 1 := by omega
      rw [gl _ (by omega), show l.length - 1 + 1 = l.length by omega, ge]
      exact h2
def Least (l : List Int) : Prop := ∀ x, x ∈ l → l.getD 0 0 ≤ x
theorem fit_mem (hS : SOk G F Rd Rw) {i : Nat} {x : Int} (h : x ∈ F.getD i []) : G ≤ x := by
  rcases Nat.lt_or_ge i F.length with c | c
  · obtain ⟨j, hj, e⟩ := List.getElem_of_mem h
    have := (hS.fit i c j hj).1
    rwa [List.getD_eq_getElem?_getD, List.getElem?_eq_getElem hj, Option.getD_some, e] at this
  · rw [show F.getD i [] = [] by simp [List.getD_eq_getElem?_getD, c]] at h; simp at h
theorem tail_ge (hS : SOk G F Rd Rw) {l : List Int} (hc : Chn F l) {x : Int} (h : x ∈ l) : x = l.getD 0 0 ∨ G ≤ x := by
  obtain ⟨j, hj, rfl⟩ := List.getElem_of_mem h
  cases j with
  | zero => left; rw [List.getD_eq_getElem?_getD, List.getElem?_eq_getElem hj, Option.getD_some]
  | succ j =>
    right
    have := fit_mem hS (hc j hj)
    rwa [List.getD_eq_getElem?_getD, List.getElem?_eq_getElem hj, Option.getD_some] at this
theorem turned (hS : SOk G F Rd Rw) {l : List Int} (h : LOk G F Rd Rw 0 l) : ∃ m, LOk G F Rd Rw 0 m ∧ m.length = l.length ∧ (∀ x, x ∈ m ↔ x ∈ l) ∧ (m.getD 0 0 < G ↔ l.getD 0 0 < G) ∧ Least m := by
  by_cases hG : l.getD 0 0 < G
  · refine ⟨l, h, rfl, fun _ => .rfl, .rfl, fun x hx => ?_⟩
    rcases tail_ge hS h.chn hx with e | e
    · omega
    · omega
  · have h2 := h.two
    obtain ⟨x, hx, hm⟩ := min_ex (l := l) (by intro e; subst e; simp at h2)
    obtain ⟨a, b, e⟩ := List.append_of_mem hx
    have hp : (x :: b ++ a).Perm l := by rw [e]; exact List.perm_append_comm
    have hg : Rg (Fr F) (x :: b ++ a) := rg_turn a b (by rw [← e]; exact (rg_iff (by omega)).2 ⟨h.chn, (h.rnd hG).2⟩)
    have hlen := hp.length_eq
    have hc := (rg_iff (by omega)).1 hg
    have hxG : ¬ x < G := by
      rcases tail_ge hS h.chn hx with e | e
      · omega
      · omega
    refine ⟨x :: b ++ a, ⟨by omega, fun y hy => h.rng y (hp.mem_iff.1 hy), hp.nodup_iff.2 h.nd, hc.1, fun _ _ => Nat.zero_testBit _, fun c => absurd c hxG, fun _ => ⟨by rw [hlen]; exact (h.rnd hG).1, hc.2⟩⟩, hlen, fun y => hp.mem_iff, ⟨fun c => absurd c hxG, fun c => absurd c hG⟩, fun y hy => hm y (hp.mem_iff.1 hy)⟩
/-! ### Each such line is found -/
theorem linD_full (hS : SOk G F Rd Rw) {q u0 : Nat} {v : List Int} (h : LOk G F Rd Rw u0 v) (h0 : v.getD 0 0 = (q : Int)) (hL : Least v) : ∀ (f k u : Nat), 1 ≤ k → k ≤ v.length → v.length ≤ f + k →
    (∀ j, k ≤ j → j < v.length → u.testBit (v.getD j 0).toNat = false) → v ∈ linD G F Rd Rw q f (v.take k) u := by
  have h2 := h.two
  have hem : v ∈ emD G F q v := by
    unfold emD
    rw [if_pos]
    · simp
    · refine ⟨by omega, ?_⟩
      by_cases c : (q : Int) < G
      · exact .inl c
      · exact .inr (place_mem.2 (by have := (h.rnd (by rw [h0]; exact c)).2; rwa [h0] at this))
  have ne : ∀ i j, i < j → j < v.length → v.getD i 0 ≠ v.getD j 0 := fun i j hij hj => by
    have := List.pairwise_iff_getElem.1 h.nd i j (by omega) hj hij
    rwa [List.getD_eq_getElem?_getD, List.getElem?_eq_getElem (by omega), Option.getD_some, List.getD_eq_getElem?_getD, List.getElem?_eq_getElem hj, Option.getD_some]
  intro f
  induction f with
  | zero =>
    intro k u h1 hk hf _
    obtain rfl : k = v.length := by omega
    rw [List.take_length]; exact hem
  | succ f ih =>
    intro k u h1 hk hf hu
    by_cases e : k = v.length
    · subst e
      rw [List.take_length]
      simp only [linD]
      exact List.mem_append.2 (.inl hem)
    · have hlt : k < v.length := by omega
      have hkl : (v.take k).length = k := by rw [List.length_take]; omega
      have hns : ¬ stopD G Rd Rw q (v.take k) := by
        unfold stopD
        rw [hkl]
        rintro (⟨c, d⟩ | ⟨c, d⟩)
        · have := h.row (by rw [h0]; exact c); omega
        · have := (h.rnd (by rw [h0]; exact c)).1; omega
      have hla : lastF (v.take k) = v.getD (k - 1) 0 := by
        unfold lastF
        rw [hkl, List.getD_eq_getElem?_getD, List.getElem?_take_of_lt (by omega), ← List.getD_eq_getElem?_getD]
      rw [linD_go hns]
      refine List.mem_append.2 (.inr (goTo_mem.2 ?_))
      have hx := h.chn (k - 1) (by omega)
      rw [show k - 1 + 1 = k by omega] at hx
      obtain ⟨i, hi, hxi⟩ := List.getElem_of_mem hx
      rw [hla]
      have hxe : (F.getD (v.getD (k - 1) 0).toNat []).getD i 0 = v.getD k 0 := by
        rw [List.getD_eq_getElem?_getD, List.getElem?_eq_getElem hi, Option.getD_some, hxi]
      have hr := h.rng _ (getD_mem (l := v) 0 hlt)
      have hq := hL _ (getD_mem (l := v) 0 hlt)
      have hn := ne 0 k (by omega) hlt
      refine ⟨i, hi, ?_, ?_⟩
      · rw [hxe]
        exact dgo_yes (hu k (Nat.le_refl _) hlt) (.inr (decide_eq_true (by omega)))
      · rw [hxe, take_snoc hlt]
        refine ih (k + 1) _ (by omega) (by omega) (by omega) fun j hj hjl => ?_
        have hrj := h.rng _ (getD_mem (l := v) 0 hjl)
        have hnj := ne k j (by omega) hjl
        rw [Nat.testBit_or, hu j (by omega) hjl, Nat.testBit_two_pow, decide_eq_false (by omega)]; rfl
theorem linA_full (hS : SOk G F Rd Rw) {q u : Nat} {v : List Int} (h : LOk G F Rd Rw u v) (h0 : v.getD 0 0 = (q : Int)) (hL : Least v) : v ∈ linA G F Rd Rw u q := by
  have h2 := h.two
  have hlen := nodup_lenI _ _ h.nd h.rng
  have ht : v.take 1 = [(q : Int)] := by
    cases v with
    | nil => simp at h2
    | cons x t => simp only [List.getD_cons_zero] at h0; subst h0; simp
  have := linD_full hS h h0 hL F.length 1 (u ||| 2 ^ q) (Nat.le_refl _) (by omega) (by omega) fun j hj hjl => by
    have hm := getD_mem (l := v) 0 hjl
    have hr := h.rng _ hm
    have hne : v.getD 0 0 ≠ v.getD j 0 := by
      have := List.pairwise_iff_getElem.1 h.nd 0 j (by omega) hjl (by omega)
      rwa [List.getD_eq_getElem?_getD, List.getElem?_eq_getElem (by omega), Option.getD_some, List.getD_eq_getElem?_getD, List.getElem?_eq_getElem hjl, Option.getD_some]
    rw [Nat.testBit_or, h.off _ hm, Nat.testBit_two_pow, decide_eq_false (by omega)]; rfl
  rw [ht] at this
  exact this
/-! ### No plan has more than the best -/
theorem opt_nn : ∀ (m u : Nat), 0 ≤ optF G F Rd Rw m u
  | 0, _ => Int.le_refl _
  | m + 1, u => by
    have h := opt_nn m u
    simp only [optF]
    split
    · exact h
    · exact Int.le_trans h (mxTo_ge _ (Nat.le_refl _)).1
theorem sumG_perm {P Q : List (List Int)} (h : P.Perm Q) : sumG G P = sumG G Q := by
  induction h with
  | nil => rfl
  | cons x _ ih => simp only [sumG]; rw [ih]
  | swap x y l => simp only [sumG]; omega
  | trans _ _ h1 h2 => rw [h1, h2]
theorem least_line {P : List (List Int)} (h : P ≠ []) : ∃ l, l ∈ P ∧ ∀ m, m ∈ P → l.getD 0 0 ≤ m.getD 0 0 := by
  obtain ⟨x, hx, hm⟩ := min_ex (l := P.map fun l => l.getD 0 0) (by simpa using h)
  obtain ⟨l, hl, rfl⟩ := List.mem_map.1 hx
  exact ⟨l, hl, fun m hmm => hm _ (List.mem_map.2 ⟨m, hmm, rfl⟩)⟩
theorem best_bound (hS : SOk G F Rd Rw) : ∀ (n : Nat) (P : List (List Int)) (u : Nat), P.length = n → (∀ l, l ∈ P → LOk G F Rd Rw u l ∧ Least l) → Disj P → sumG G P ≤ bestD G F Rd Rw u
  | 0, P, u, hn, _, _ => by
    obtain rfl := List.eq_nil_of_length_eq_zero hn
    exact opt_nn _ _
  | n + 1, P, u, hn, hP, hd => by
    obtain ⟨l, hl, hm⟩ := least_line (P := P) (by intro e; subst e; simp at hn)
    have hp := List.perm_cons_erase hl
    have hd2 : Disj (l :: P.erase l) := (hp.pairwise_iff fun {a b} h x hx hxb => h x hxb hx).1 hd
    obtain ⟨hd3, hd4⟩ := List.pairwise_cons.1 hd2
    obtain ⟨hlk, hls⟩ := hP l hl
    have h2 := hlk.two
    have hhm := getD_mem (l := l) 0 (show 0 < l.length by omega)
    have hr := hlk.rng _ hhm
    have hoff := hlk.off _ hhm
    have h0 : l.getD 0 0 = (((l.getD 0 0).toNat : Nat) : Int) := by omega
    generalize hq : (l.getD 0 0).toNat = q at *
    have hla := linA_full hS hlk h0 hls
    have hb := best_le hS (by omega) hoff hla
    have ih := best_bound hS n (P.erase l) (nextM u q l) (by rw [List.length_erase_of_mem hl]; omega) (fun m hmm => by
      obtain ⟨hmk, hml⟩ := hP m (List.mem_of_mem_erase hmm)
      refine ⟨⟨hmk.two, hmk.rng, hmk.nd, hmk.chn, fun x hx => ?_, hmk.row, hmk.rnd⟩, hml⟩
      have hge := hml x hx
      have hlm := hm m (List.mem_of_mem_erase hmm)
      have hxr := hmk.rng x hx
      cases hbit : (nextM u q l).testBit x.toNat with
      | false => rfl
      | true =>
        exfalso
        rcases (orTo_bit _).1 hbit with c | ⟨j, hj, c⟩
        · rw [Nat.testBit_or, hmk.off x hx, Nat.testBit_two_pow_sub_one, decide_eq_false (by omega)] at c
          exact absurd c (by decide)
        · have hjm := getD_mem (l := l) 0 hj
          have hjr := hlk.rng _ hjm
          have e : l.getD j 0 = x := by omega
          rw [e] at hjm
          exact hd3 m hmm x hjm hx) hd4
    rw [sumG_perm hp]
    simp only [sumG]
    rw [h0]; omega
open Classical in
noncomputable def turnF (G : Int) (F : List (List Int)) (Rd Rw : Int) (l : List Int) : List Int := if h : ∃ m, LOk G F Rd Rw 0 m ∧ m.length = l.length ∧ (∀ x, x ∈ m ↔ x ∈ l) ∧ (m.getD 0 0 < G ↔ l.getD 0 0 < G) ∧ Least m then h.choose else l
theorem turnF_spec (hS : SOk G F Rd Rw) {l : List Int} (h : LOk G F Rd Rw 0 l) : LOk G F Rd Rw 0 (turnF G F Rd Rw l) ∧ (turnF G F Rd Rw l).length = l.length ∧ (∀ x, x ∈ turnF G F Rd Rw l ↔ x ∈ l) ∧ ((turnF G F Rd Rw l).getD 0 0 < G ↔ l.getD 0 0 < G) ∧ Least (turnF G F Rd Rw l) := by
  unfold turnF
  rw [dif_pos (turned hS h)]
  exact (turned hS h).choose_spec
theorem sumG_turn (hS : SOk G F Rd Rw) : ∀ P : List (List Int), (∀ l, l ∈ P → LOk G F Rd Rw 0 l) → sumG G (P.map (turnF G F Rd Rw)) = sumG G P
  | [], _ => rfl
  | l :: P, h => by
    have h1 := turnF_spec hS (h l List.mem_cons_self)
    simp only [List.map_cons, sumG, giftL, h1.2.2.2.1, h1.2.1, sumG_turn hS P fun m hm => h m (List.mem_cons_of_mem _ hm)]
theorem sumG_bound (hS : SOk G F Rd Rw) {P : List (List Int)} (h : ∀ l, l ∈ P → LOk G F Rd Rw 0 l) (hd : Disj P) : sumG G P ≤ bestD G F Rd Rw 0 := by
  rw [← sumG_turn hS P h]
  refine best_bound hS _ _ 0 rfl (fun l hl => ?_) (List.pairwise_map.2 (List.Pairwise.imp_of_mem (fun {a b} ha hb (hab : ∀ x, x ∈ a → ¬ x ∈ b) x hx hxb => ?_) hd))
  · obtain ⟨m, hm, rfl⟩ := List.mem_map.1 hl
    have h1 := turnF_spec hS (h m hm)
    exact ⟨h1.1, h1.2.2.2.2⟩
  · exact hab x (((turnF_spec hS (h a ha)).2.2.1 x).1 hx) (((turnF_spec hS (h b hb)).2.2.1 x).1 hxb)
theorem sumG_app : ∀ P Q : List (List Int), sumG G (P ++ Q) = sumG G P + sumG G Q
  | [], Q => by simp [sumG]
  | l :: P, Q => by simp only [List.cons_append, sumG, sumG_app P Q]; omega
theorem sumG_rnd : ∀ P : List (List Int), (∀ l, l ∈ P → ¬ l.getD 0 0 < G) → sumG G P = lenS 0 P
  | [], _ => rfl
  | l :: P, h => by simp only [sumG, lenS, giftL]; rw [if_neg (h l List.mem_cons_self), sumG_rnd P fun m hm => h m (List.mem_cons_of_mem _ hm)]; omega
theorem sumG_row : ∀ P : List (List Int), (∀ l, l ∈ P → l.getD 0 0 < G) → sumG G P = lenS 1 P
  | [], _ => rfl
  | l :: P, h => by simp only [sumG, lenS, giftL]; rw [if_pos (h l List.mem_cons_self), sumG_row P fun m hm => h m (List.mem_cons_of_mem _ hm)]
theorem plan_bound {rs ws : List (List Int)} (hc : checkE G F Rd Rw rs ws = 0) : giftF G F Rd Rw rs ws ≤ bestD G F Rd Rw 0 := by
  unfold giftF
  rw [if_neg (fun c => c hc)]
  unfold checkE at hc
  by_cases hv : mayE G F Rd Rw = 0
  · rw [if_neg (fun c => c hv)] at hc
    have hS := sok hv
    have H := fun k hk => firstE_zero hc k hk
    have hmem : ∀ l, l ∈ rs ++ ws → ∃ k, k < rs.length + ws.length ∧ lAt rs ws k = l := fun l hl => by
      obtain ⟨j, hj, e⟩ := List.getElem_of_mem hl
      rw [List.length_append] at hj
      refine ⟨j, hj, ?_⟩
      rw [← (lAt_mem hj).2, List.getD_eq_getElem?_getD, List.getElem?_eq_getElem (by rw [List.length_append]; exact hj), Option.getD_some, e]
    have h1 : ∀ l, l ∈ rs ++ ws → LOk G F Rd Rw 0 l := fun l hl => by
      obtain ⟨k, hk, rfl⟩ := hmem l hl
      exact item_lok (H k hk)
    have h2 : Disj (rs ++ ws) := List.pairwise_iff_getElem.2 fun j k hj hk hjk x hx hxk => by
      rw [List.length_append] at hj hk
      have hf := (line_facts (item_facts (H k hk)).1).2.1 x
      rw [← (lAt_mem hk).2, List.getD_eq_getElem?_getD, List.getElem?_eq_getElem (by rw [List.length_append]; exact hk), Option.getD_some] at hf
      refine hf hxk ((used_mem k).2 ⟨j, hjk, ?_⟩)
      rw [← (lAt_mem hj).2, List.getD_eq_getElem?_getD, List.getElem?_eq_getElem (by rw [List.length_append]; exact hj), Option.getD_some]; exact hx
    have h3 := sumG_bound hS h1 h2
    rw [sumG_app, sumG_rnd rs, sumG_row ws] at h3
    · rw [gift_sum]; exact h3
    · intro l hl
      obtain ⟨j, hj, rfl⟩ := List.getElem_of_mem hl
      have := ((item_facts (H (rs.length + j) (by omega))).2.2 (by omega)).2
      have e : ws.getD j [] = ws[j] := by rw [List.getD_eq_getElem?_getD, List.getElem?_eq_getElem hj, Option.getD_some]
      rwa [lAt_rw, e] at this
    · intro l hl
      obtain ⟨j, hj, rfl⟩ := List.getElem_of_mem hl
      have := ((item_facts (H j (by omega))).2.1 hj).2.1
      have e : rs.getD j [] = rs[j] := by rw [List.getD_eq_getElem?_getD, List.getElem?_eq_getElem hj, Option.getD_some]
      rwa [lAt_rd (by omega), e] at this
  · rw [if_pos hv] at hc; exact absurd hc hv
end

set_option maxRecDepth 1000000 in
set_option maxHeartbeats 2000000 in
theorem Check2_fc (G : Int) (F : List (List Int)) (Rd Rw : Int) (rs ws : List (List Int)) (hb : rs.length + ws.length ≤ 64) : FC Try.prog 7 [.agg [.i G, .rows F, .i Rd, .i Rw], .rows rs, .rows ws] (.tup [.i (giftF G F Rd Rw rs ws), .i (checkE G F Rd Rw rs ws)]) := by
  refine FC.intro Try.func7 rfl (Nat.le_of_ble_eq_true rfl) fun hfit => ?_
  have fit0 := hfit _ (.head _)
  obtain ⟨fitl1, fitr1⟩ := (hfit _ (.tail _ (.head _))).rows
  obtain ⟨fitl2, fitr2⟩ := (hfit _ (.tail _ (.tail _ (.head _)))).rows
  have hFl := (fit0.mem (p := .rows F) (by simp)).rows
  have hGi := (fit0.mem (p := .i G) (by simp)).int64
  have hRi := (fit0.mem (p := .i Rd) (by simp)).int64
  have hWi := (fit0.mem (p := .i Rw) (by simp)).int64
  unfold InR at hGi hRi hWi
  refine awp_seq ?_
  refine awp_region rfl (.n (fun _ => op_box (.plain rfl) (by simp)) (.n (fun _ => op_assign (.plain rfl)) (.n (fun _ => op_assign (.plain rfl)) (.nil _)))) ?_
  refine awp_seq ?_
  refine awp_seq ?_
  refine awp_region rfl (.n (fun _ => op_load_agg Try.isAgg24 Try.sizeOf24 (.plain rfl) (Nat.le_of_ble_eq_true rfl)) (.n (fun _ => op_call1 Try.call9 (.plain rfl) (May_fc _ _ _ _)) (.n (fun _ => op_assign (.plain rfl)) (.nil _)))) ?_
  refine awp_seq ?_
  refine awp_region rfl (.n (fun _ => op_move (.plain rfl)) (.n (fun _ => op_neq (.plain rfl) (.plain rfl)) (.nil _))) ?_
  refine awp_cond rfl (fun h => ?_) (fun h => ?_)
  · try simp only [decide_eq_true_eq, decide_eq_false_iff_not, Bool.and_eq_true, Bool.or_eq_true, Bool.and_eq_false_iff, Bool.or_eq_false_iff, Bool.not_eq_true', Bool.not_eq_false', Bool.not_eq_true, Bool.not_eq_false, Bool.true_eq_false, Bool.false_eq_true] at h
    refine awp_seq ?_
    refine awp_region rfl (.n (fun _ => op_move (.plain rfl)) (.n (fun _ => op_assign (.plain rfl)) (.n (fun _ => op_assign (.plain rfl)) (.nil _)))) ?_
    refine awp_ret ?_
    refine retQ.ret ?_
    refine ret2 rfl rfl rfl rfl rfl ?_
    exact res_may h
  · try simp only [decide_eq_true_eq, decide_eq_false_iff_not, Bool.and_eq_true, Bool.or_eq_true, Bool.and_eq_false_iff, Bool.or_eq_false_iff, Bool.not_eq_true', Bool.not_eq_false', Bool.not_eq_true, Bool.not_eq_false, Bool.true_eq_false, Bool.false_eq_true] at h
    have hM := h
    refine awp_skip ?_
    refine awp_seq ?_
    refine awp_region rfl (.e (op_makeMap 22 rfl) rfl (.n (fun _ => op_assign (.plain rfl)) (.n (fun _ => op_assign (.plain rfl)) (.nil _)))) ?_
    refine awp_seq ?_
    refine awp_seq ?_
    refine awp_region rfl (.n (fun _ => op_move (.plain rfl)) (.n (fun _ => op_len (s := 0) Try.underlying22 (.plain rfl)) (.n (fun _ => op_move (.plain rfl)) (.nil _)))) ?_
    refine awp_block ?_
    refine awp_loop (σ := Nat) (fun (k : Nat) => k ≤ rs.length ∧ firstE (itemB G F Rd Rw rs ws) k = 0) (fun (k : Nat) => ⟨[(2, .pv (.rows ws)), (3, .pv (.rd [.i G, .rows F, .i Rd, .i Rw])), (9, .own 22), (10, .int (sumTo (giftB rs ws) k)), (23, .pv (.rows rs)), (24, .int (rs.length : Nat)), (25, .int (k : Nat))], [(22, .mp (U (usedTo rs ws k)))]⟩) (fun (k : Nat) => rs.length - k) 0 ?_ (Ent.kept ⟨rfl, rfl, rfl, rfl, rfl, rfl, rfl, trivial⟩ ⟨rfl, trivial⟩) ?_
    · exact ⟨Nat.zero_le _, rfl⟩
    rintro k hp
    try dsimp only at hp
    obtain ⟨hk, hE⟩ := hp
    refine awp_seq ?_
    refine awp_region rfl (.n (fun _ => op_lss (.plain rfl) (.plain rfl)) (.nil _)) ?_
    refine awp_seq ?_
    refine awp_cond rfl (fun h => ?_) (fun h => ?_)
    · try simp only [decide_eq_true_eq, decide_eq_false_iff_not, Bool.and_eq_true, Bool.or_eq_true, Bool.and_eq_false_iff, Bool.or_eq_false_iff, Bool.not_eq_true', Bool.not_eq_false', Bool.not_eq_true, Bool.not_eq_false, Bool.true_eq_false, Bool.false_eq_true] at h
      have hl : lAt rs ws k = rs.getD k [] := lAt_rd (by omega)
      refine awp_skip ?_
      refine awp_seq ?_
      refine awp_block ?_
      refine awp_seq ?_
      refine awp_region rfl (.n (fun _ => op_indexAddrN Try.underlying22 Try.sizeOf35 (.plain rfl) (.plain rfl) (fun _ => rfl) ?_) (.n (fun _ => op_load Try.isAgg35 (.plain rfl)) (.n (fun _ => op_assign (.plain rfl)) (.nil _)))) ?_
      · omega
      refine awp_seq ?_
      refine awp_seq ?_
      refine awp_region rfl (.n (fun _ => op_load_agg Try.isAgg24 Try.sizeOf24 (.plain rfl) (Nat.le_of_ble_eq_true rfl)) (.n (fun _ => op_move (.plain rfl)) (.n (fun _ => op_move (.plain rfl)) (.e (op_callM (vals := [some _, some _, none]) 22 Try.call14 ⟨(.plain rfl), (.plain rfl), (.plain rfl), trivial⟩ rfl (line_fcm _ _ _ _ _ _) rfl trivial trivial) rfl (.n (fun _ => op_assign (.plain rfl)) (.nil _)))))) ?_
      refine awp_seq ?_
      refine awp_region rfl (.n (fun _ => op_move (.plain rfl)) (.n (fun _ => op_neq (.plain rfl) (.plain rfl)) (.nil _))) ?_
      refine awp_cond rfl (fun h => ?_) (fun h => ?_)
      · try simp only [decide_eq_true_eq, decide_eq_false_iff_not, Bool.and_eq_true, Bool.or_eq_true, Bool.and_eq_false_iff, Bool.or_eq_false_iff, Bool.not_eq_true', Bool.not_eq_false', Bool.not_eq_true, Bool.not_eq_false, Bool.true_eq_false, Bool.false_eq_true] at h
        refine awp_seq ?_
        refine awp_region rfl (.n (fun _ => op_move (.plain rfl)) (.n (fun _ => op_assign (.plain rfl)) (.n (fun _ => op_assign (.plain rfl)) (.nil _)))) ?_
        refine awp_ret ?_
        refine retQ.ret ?_
        refine ret2 rfl rfl rfl rfl rfl ?_
        rw [← hl] at h ⊢
        exact res_at hM hE (by omega) (itemB_line h) h
      · try simp only [decide_eq_true_eq, decide_eq_false_iff_not, Bool.and_eq_true, Bool.or_eq_true, Bool.and_eq_false_iff, Bool.or_eq_false_iff, Bool.not_eq_true', Bool.not_eq_false', Bool.not_eq_true, Bool.not_eq_false, Bool.true_eq_false, Bool.false_eq_true] at h
        have h0 := h
        have hz := lineE_zero h0
        have hin := fun j (hj : j < (rs.getD k []).length) => lineE_in h0 hj
        rw [← hl] at h0
        refine awp_skip ?_
        refine awp_seq ?_
        refine awp_seq ?_
        refine awp_region_draw mixed rfl (.n (fun _ => op_move (.plain rfl)) (.n (fun _ => op_len (s := 0) Try.underlying35 (.plain rfl)) (.n (fun _ => op_fieldAddr Try.underlying24 rfl rfl Try.sizeOf3 (.plain rfl)) (.n (fun _ => op_load Try.isAgg3 (.plain rfl)) (.n (fun _ => op_gtr (.plain rfl) (.plain rfl)) (.n (fun _ => op_move (.plain rfl)) (.gn rfl rfl (fun hg _ => op_move (.plain rfl)) (.gn rfl rfl (fun hg _ => op_indexAddr Try.underlying35 Try.sizeOf3 (.opt rfl fun h => h) (.plain rfl) (fun _ => rfl) ?_) (.gn rfl rfl (fun hg _ => op_load Try.isAgg3 (.opt rfl fun h => h)) (.gn rfl rfl (fun hg _ => op_fieldAddr Try.underlying24 rfl rfl Try.sizeOf3 (.plain rfl)) (.gn rfl rfl (fun hg _ => op_load Try.isAgg3 (.opt rfl fun h => h)) (.gn rfl rfl (fun hg _ => op_lss (.opt rfl fun h => h) (.opt rfl fun h => h)) (.n (fun _ => op_or (.plain rfl) (.plain rfl) (.plain rfl) (fun h => eqF h)) (.n (fun _ => op_move (.plain rfl)) (.gn rfl rfl (fun hg _ => op_load_agg Try.isAgg24 Try.sizeOf24 (.plain rfl) (Nat.le_of_ble_eq_true rfl)) (.gn rfl rfl (fun hg _ => op_move (.plain rfl)) (.gn rfl rfl (fun hg _ => op_move (.plain rfl)) (.gn rfl rfl (fun hg _ => op_len (s := 0) Try.underlying35 (.opt rfl fun h => h)) (.gn rfl rfl (fun hg _ => op_sub (.opt rfl fun h => h) (.plain rfl) ?_) (.gn rfl rfl (fun hg _ => op_indexAddr Try.underlying35 Try.sizeOf3 (.opt rfl fun h => h) (.opt rfl fun h => h) (fun _ => rfl) ?_) (.gn rfl rfl (fun hg _ => op_load Try.isAgg3 (.opt rfl fun h => h)) (.gn rfl rfl (fun hg _ => op_move (.plain rfl)) (.gn rfl rfl (fun hg _ => op_indexAddr Try.underlying35 Try.sizeOf3 (.opt rfl fun h => h) (.plain rfl) (fun _ => rfl) ?_) (.gn rfl rfl (fun hg _ => op_load Try.isAgg3 (.opt rfl fun h => h)) (.gn rfl rfl (fun hg _ => op_call3 Try.call15 (.opt rfl fun h => h) (.opt rfl fun h => h) (.opt rfl fun h => h) (gives_fc _ _ _ _ _ _ ?_)) (.gn rfl rfl (fun hg _ => op_not (.opt rfl fun h => h)) (.n (fun _ => op_or (.plain rfl) (.plain rfl) (.plain rfl) (fun h => eqF h)) (.nil _)))))))))))))))))))))))))))) ?d1 ?_
        · try simp only [beq_iff_eq, beq_true, beq_false, Bool.and_eq_true, decide_eq_true_eq, decide_eq_false_iff_not, Bool.not_eq_true', Bool.or_eq_true, Bool.or_eq_false_iff] at hg
          omega
        · try simp only [beq_iff_eq, beq_true, beq_false, Bool.and_eq_true, decide_eq_true_eq, decide_eq_false_iff_not, Bool.not_eq_true', Bool.or_eq_true, Bool.or_eq_false_iff] at hg
          unfold InR; omega
        · try simp only [beq_iff_eq, beq_true, beq_false, Bool.and_eq_true, decide_eq_true_eq, decide_eq_false_iff_not, Bool.not_eq_true', Bool.or_eq_true, Bool.or_eq_false_iff] at hg
          omega
        · try simp only [beq_iff_eq, beq_true, beq_false, Bool.and_eq_true, decide_eq_true_eq, decide_eq_false_iff_not, Bool.not_eq_true', Bool.or_eq_true, Bool.or_eq_false_iff] at hg
          omega
        · try simp only [beq_iff_eq, beq_true, beq_false, Bool.and_eq_true, decide_eq_true_eq, decide_eq_false_iff_not, Bool.not_eq_true', Bool.or_eq_true, Bool.or_eq_false_iff] at hg
          rw [show (((rs.getD k []).length : Int) - 1).toNat = (rs.getD k []).length - 1 by omega]; exact hin _ (by omega)
        · kernel_rfl
        refine awp_cond rfl (fun h => ?_) (fun h => ?_)
        · try simp only [decide_eq_true_eq, decide_eq_false_iff_not, Bool.and_eq_true, Bool.or_eq_true, Bool.and_eq_false_iff, Bool.or_eq_false_iff, Bool.not_eq_true', Bool.not_eq_false', Bool.not_eq_true, Bool.not_eq_false, Bool.true_eq_false, Bool.false_eq_true] at h
          rw [show (((rs.getD k []).length : Int) - 1).toNat = (rs.getD k []).length - 1 by omega] at h
          try simp only [Int.toNat_zero] at h
          refine awp_seq ?_
          refine awp_region rfl (.n (fun _ => op_assign (.plain rfl)) (.n (fun _ => op_assign (.plain rfl)) (.nil _))) ?_
          refine awp_ret ?_
          refine retQ.ret ?_
          refine ret2 rfl rfl rfl rfl rfl ?_
          exact res_at hM hE (by omega) (itemB_rd11 h0 (by omega) (by rw [hl]; unfold lastF; omega)) (by omega)
        · try simp only [decide_eq_true_eq, decide_eq_false_iff_not, Bool.and_eq_true, Bool.or_eq_true, Bool.and_eq_false_iff, Bool.or_eq_false_iff, Bool.not_eq_true', Bool.not_eq_false', Bool.not_eq_true, Bool.not_eq_false, Bool.true_eq_false, Bool.false_eq_true] at h
          rw [show (((rs.getD k []).length : Int) - 1).toNat = (rs.getD k []).length - 1 by omega] at h
          try simp only [Int.toNat_zero] at h
          refine awp_skip ?_
          refine awp_region rfl (.n (fun _ => op_move (.plain rfl)) (.n (fun _ => op_move (.plain rfl)) (.n (fun _ => op_len (s := 0) Try.underlying35 (.plain rfl)) (.n (fun _ => op_add (.plain rfl) (.plain rfl) ?_) (.n (fun _ => op_assign (.plain rfl)) (.nil _)))))) ?_
          · have := gift_bd2 hM hE; have := line_len (hl ▸ h0); have := mayE_len hM; unfold InR; omega
          refine awp_region rfl (.n (fun _ => op_add (.plain rfl) (.plain rfl) ?_) (.n (fun _ => op_move (.plain rfl)) (.nil _))) ?_
          · unfold InR; omega
          exact ⟨k + 1, ⟨by omega, firstE_succ hE (itemB_rd0 h0 (by omega) (by rw [hl]; unfold lastF; omega))⟩, by dsimp only; omega, (Ent.kept ⟨rfl, rfl, rfl, (congrArg (fun n => some (SV.int n)) (giftB_rd (by omega))), rfl, rfl, rfl, trivial⟩ ⟨(congrArg (fun m => some (Blk.mp m)) (used_U hl (by rw [← hl]; exact h0))), trivial⟩)⟩
    · try simp only [decide_eq_true_eq, decide_eq_false_iff_not, Bool.and_eq_true, Bool.or_eq_true, Bool.and_eq_false_iff, Bool.or_eq_false_iff, Bool.not_eq_true', Bool.not_eq_false', Bool.not_eq_true, Bool.not_eq_false, Bool.true_eq_false, Bool.false_eq_true] at h
      refine awp_exit ?_
      refine awp_seq ?_
      refine awp_seq ?_
      obtain rfl : k = rs.length := by omega
      refine awp_region rfl (.n (fun _ => op_move (.plain rfl)) (.n (fun _ => op_len (s := 0) Try.underlying22 (.plain rfl)) (.n (fun _ => op_move (.plain rfl)) (.nil _)))) ?_
      refine awp_block ?_
      refine awp_loop (σ := Nat) (fun (j : Nat) => j ≤ ws.length ∧ firstE (itemB G F Rd Rw rs ws) (rs.length + j) = 0) (fun (j : Nat) => ⟨[(3, .pv (.rd [.i G, .rows F, .i Rd, .i Rw])), (9, .own 22), (10, .int (sumTo (giftB rs ws) (rs.length + j))), (68, .pv (.rows ws)), (69, .int (ws.length : Nat)), (70, .int (j : Nat))], [(22, .mp (U (usedTo rs ws (rs.length + j))))]⟩) (fun (j : Nat) => ws.length - j) 0 ?_ (Ent.kept ⟨rfl, rfl, rfl, rfl, rfl, rfl, trivial⟩ ⟨rfl, trivial⟩) ?_
      · exact ⟨Nat.zero_le _, hE⟩
      rintro j hp
      try dsimp only at hp
      obtain ⟨hj, hF⟩ := hp
      have hl : lAt rs ws (rs.length + j) = ws.getD j [] := lAt_rw
      refine awp_seq ?_
      refine awp_region rfl (.n (fun _ => op_lss (.plain rfl) (.plain rfl)) (.nil _)) ?_
      refine awp_seq ?_
      refine awp_cond rfl (fun h => ?_) (fun h => ?_)
      · try simp only [decide_eq_true_eq, decide_eq_false_iff_not, Bool.and_eq_true, Bool.or_eq_true, Bool.and_eq_false_iff, Bool.or_eq_false_iff, Bool.not_eq_true', Bool.not_eq_false', Bool.not_eq_true, Bool.not_eq_false, Bool.true_eq_false, Bool.false_eq_true] at h
        refine awp_skip ?_
        refine awp_seq ?_
        refine awp_block ?_
        refine awp_seq ?_
        refine awp_region rfl (.n (fun _ => op_indexAddrN Try.underlying22 Try.sizeOf35 (.plain rfl) (.plain rfl) (fun _ => rfl) ?_) (.n (fun _ => op_load Try.isAgg35 (.plain rfl)) (.n (fun _ => op_assign (.plain rfl)) (.nil _)))) ?_
        · omega
        refine awp_seq ?_
        refine awp_seq ?_
        refine awp_region rfl (.n (fun _ => op_load_agg Try.isAgg24 Try.sizeOf24 (.plain rfl) (Nat.le_of_ble_eq_true rfl)) (.n (fun _ => op_move (.plain rfl)) (.n (fun _ => op_move (.plain rfl)) (.e (op_callM (vals := [some _, some _, none]) 22 Try.call14 ⟨(.plain rfl), (.plain rfl), (.plain rfl), trivial⟩ rfl (line_fcm _ _ _ _ _ _) rfl trivial trivial) rfl (.n (fun _ => op_assign (.plain rfl)) (.nil _)))))) ?_
        refine awp_seq ?_
        refine awp_region rfl (.n (fun _ => op_move (.plain rfl)) (.n (fun _ => op_neq (.plain rfl) (.plain rfl)) (.nil _))) ?_
        refine awp_cond rfl (fun h => ?_) (fun h => ?_)
        · try simp only [decide_eq_true_eq, decide_eq_false_iff_not, Bool.and_eq_true, Bool.or_eq_true, Bool.and_eq_false_iff, Bool.or_eq_false_iff, Bool.not_eq_true', Bool.not_eq_false', Bool.not_eq_true, Bool.not_eq_false, Bool.true_eq_false, Bool.false_eq_true] at h
          refine awp_seq ?_
          refine awp_region rfl (.n (fun _ => op_move (.plain rfl)) (.n (fun _ => op_assign (.plain rfl)) (.n (fun _ => op_assign (.plain rfl)) (.nil _)))) ?_
          refine awp_ret ?_
          refine retQ.ret ?_
          refine ret2 rfl rfl rfl rfl rfl ?_
          rw [← hl] at h ⊢
          exact res_at hM hF (by omega) (itemB_line h) h
        · try simp only [decide_eq_true_eq, decide_eq_false_iff_not, Bool.and_eq_true, Bool.or_eq_true, Bool.and_eq_false_iff, Bool.or_eq_false_iff, Bool.not_eq_true', Bool.not_eq_false', Bool.not_eq_true, Bool.not_eq_false, Bool.true_eq_false, Bool.false_eq_true] at h
          have h0 := h
          have hz := lineE_zero h0
          rw [← hl] at h0
          have hwj := line_len h0
          rw [hl] at hwj
          have h8 := mayE_len hM
          refine awp_skip ?_
          refine awp_seq ?_
          refine awp_seq ?_
          refine awp_region_draw mixed rfl (.n (fun _ => op_move (.plain rfl)) (.n (fun _ => op_len (s := 0) Try.underlying35 (.plain rfl)) (.n (fun _ => op_sub (.plain rfl) (.plain rfl) ?_) (.n (fun _ => op_fieldAddr Try.underlying24 rfl rfl Try.sizeOf3 (.plain rfl)) (.n (fun _ => op_load Try.isAgg3 (.plain rfl)) (.n (fun _ => op_gtr (.plain rfl) (.plain rfl)) (.n (fun _ => op_move (.plain rfl)) (.gn rfl rfl (fun hg _ => op_move (.plain rfl)) (.gn rfl rfl (fun hg _ => op_indexAddr Try.underlying35 Try.sizeOf3 (.opt rfl fun h => h) (.plain rfl) (fun _ => rfl) ?_) (.gn rfl rfl (fun hg _ => op_load Try.isAgg3 (.opt rfl fun h => h)) (.gn rfl rfl (fun hg _ => op_fieldAddr Try.underlying24 rfl rfl Try.sizeOf3 (.plain rfl)) (.gn rfl rfl (fun hg _ => op_load Try.isAgg3 (.opt rfl fun h => h)) (.gn rfl rfl (fun hg _ => op_geq (.opt rfl fun h => h) (.opt rfl fun h => h)) (.n (fun _ => op_or (.plain rfl) (.plain rfl) (.plain rfl) (fun h => eqF h)) (.nil _))))))))))))))) ?d2 ?_
          · unfold InR; omega
          · try simp only [beq_iff_eq, beq_true, beq_false, Bool.and_eq_true, decide_eq_true_eq, decide_eq_false_iff_not, Bool.not_eq_true', Bool.or_eq_true, Bool.or_eq_false_iff] at hg
            omega
          · kernel_rfl
          refine awp_cond rfl (fun h => ?_) (fun h => ?_)
          · try simp only [decide_eq_true_eq, decide_eq_false_iff_not, Bool.and_eq_true, Bool.or_eq_true, Bool.and_eq_false_iff, Bool.or_eq_false_iff, Bool.not_eq_true', Bool.not_eq_false', Bool.not_eq_true, Bool.not_eq_false, Bool.true_eq_false, Bool.false_eq_true] at h
            try simp only [Int.toNat_zero] at h
            refine awp_seq ?_
            refine awp_region rfl (.n (fun _ => op_assign (.plain rfl)) (.n (fun _ => op_assign (.plain rfl)) (.nil _))) ?_
            refine awp_ret ?_
            refine retQ.ret ?_
            refine ret2 rfl rfl rfl rfl rfl ?_
            exact res_at hM hF (by omega) (itemB_rw11 h0 (by omega) (by rw [hl]; omega)) (by omega)
          · try simp only [decide_eq_true_eq, decide_eq_false_iff_not, Bool.and_eq_true, Bool.or_eq_true, Bool.and_eq_false_iff, Bool.or_eq_false_iff, Bool.not_eq_true', Bool.not_eq_false', Bool.not_eq_true, Bool.not_eq_false, Bool.true_eq_false, Bool.false_eq_true] at h
            try simp only [Int.toNat_zero] at h
            refine awp_skip ?_
            refine awp_region rfl (.n (fun _ => op_move (.plain rfl)) (.n (fun _ => op_move (.plain rfl)) (.n (fun _ => op_len (s := 0) Try.underlying35 (.plain rfl)) (.n (fun _ => op_sub (.plain rfl) (.plain rfl) ?_) (.n (fun _ => op_add (.plain rfl) (.plain rfl) ?_) (.n (fun _ => op_assign (.plain rfl)) (.nil _))))))) ?_
            · have := line_len (hl ▸ h0); have := mayE_len hM; unfold InR; omega
            · have := gift_bd2 hM hF; have := line_len (hl ▸ h0); have := mayE_len hM; unfold InR; omega
            refine awp_region rfl (.n (fun _ => op_add (.plain rfl) (.plain rfl) ?_) (.n (fun _ => op_move (.plain rfl)) (.nil _))) ?_
            · unfold InR; omega
            exact ⟨j + 1, ⟨by omega, show firstE (itemB G F Rd Rw rs ws) (rs.length + j + 1) = 0 from firstE_succ hF (itemB_rw0 h0 (by omega) (by rw [hl]; omega))⟩, by dsimp only; omega, (Ent.kept ⟨rfl, rfl, (congrArg (fun n => some (SV.int n)) (giftB_rw)), rfl, rfl, rfl, trivial⟩ ⟨(congrArg (fun m => some (Blk.mp m)) (used_U hl (by rw [← hl]; exact h0))), trivial⟩)⟩
      · try simp only [decide_eq_true_eq, decide_eq_false_iff_not, Bool.and_eq_true, Bool.or_eq_true, Bool.and_eq_false_iff, Bool.or_eq_false_iff, Bool.not_eq_true', Bool.not_eq_false', Bool.not_eq_true, Bool.not_eq_false, Bool.true_eq_false, Bool.false_eq_true] at h
        refine awp_exit ?_
        refine awp_seq ?_
        refine awp_region rfl (.n (fun _ => op_move (.plain rfl)) (.n (fun _ => op_assign (.plain rfl)) (.n (fun _ => op_assign (.plain rfl)) (.nil _)))) ?_
        refine awp_ret ?_
        refine retQ.ret ?_
        refine ret2 rfl rfl rfl rfl rfl ?_
        exact res_ok hM hF (by omega)


def GFS : List (List Int) := [[1], [0]]
theorem gifts_v : mayE 0 GFS 2 0 = 0 ∧ bestD 0 GFS 2 0 0 = 2 := by decide +kernel
theorem flat_ge : ∀ P : List (List Int), (∀ l, l ∈ P → 1 < l.length) → P.length ≤ P.flatten.length
  | [], _ => by simp
  | a :: P, h => by
    have e1 := h a List.mem_cons_self
    have e2 := flat_ge P fun l hl => h l (List.mem_cons_of_mem _ hl)
    rw [List.flatten_cons, List.length_append, List.length_cons]; omega
theorem lens_v {G : Int} {F : List (List Int)} {Rd Rw : Int} : (rndV G F Rd Rw).length + (rowV G F Rd Rw).length ≤ 64 := by
  unfold rndV rowV
  split
  · rename_i hv
    have hS := sok hv
    obtain ⟨h1, h2, _⟩ := planL_ok hS
    have h8 := hS.n8
    have h3 := (split_perm (G := G) (planL G F Rd Rw)).length_eq
    rw [List.length_append] at h3
    have h4 := disj_flat h1 h2
    have h5 := flat_ge (planL G F Rd Rw) fun l h => (h1 l h).two
    omega
  · simp
theorem plan_nv {G : Int} {F : List (List Int)} {Rd Rw : Int} (hv : ¬ mayE G F Rd Rw = 0) (rs ws : List (List Int)) : checkE G F Rd Rw rs ws = mayE G F Rd Rw := if_pos hv
theorem plan_ve {G : Int} {F : List (List Int)} {Rd Rw : Int} : checkE G F Rd Rw (rndV G F Rd Rw) (rowV G F Rd Rw) = mayE G F Rd Rw := by
  by_cases hv : mayE G F Rd Rw = 0
  · rw [(plan_v hv).1, hv]
  · exact plan_nv hv _ _
theorem top_gifts {G : Int} {F : List (List Int)} {Rd Rw : Int} {rs ws : List (List Int)} (h : checkE G F Rd Rw rs ws = 0) : mayE G F Rd Rw = 0 ∧ giftF G F Rd Rw rs ws ≤ giftF G F Rd Rw (rndV G F Rd Rw) (rowV G F Rd Rw) := by
  by_cases hv : mayE G F Rd Rw = 0
  · rw [(plan_v hv).2]; exact ⟨hv, plan_bound h⟩
  · exact absurd ((plan_nv hv rs ws).symm.trans h) hv

set_option maxRecDepth 1000000 in
set_option maxHeartbeats 2000000 in
theorem gifts_fc  : FC Try.prog 13 [] (.bool true) := by
  refine FC.intro Try.func13 rfl (Nat.le_of_ble_eq_true rfl) fun hfit => ?_
  refine awp_seq ?_
  refine awp_region rfl (.n (fun _ => op_assign (.plain rfl)) (.nil _)) ?_
  refine awp_seq ?_
  refine awp_region rfl (.n (fun _ => op_slit (pp := [(0, _)]) (α := Int) (d := 0) (f := (fun n => [.int .i64 n])) [_] ety35 rfl ⟨rfl, (.plain rfl), (by simp), trivial⟩ rfl (by decide) rfl) (.n (fun _ => op_slit (pp := [(0, _)]) (α := Int) (d := 0) (f := (fun n => [.int .i64 n])) [_] ety35 rfl ⟨rfl, (.plain rfl), (by simp), trivial⟩ rfl (by decide) rfl) (.n (fun _ => op_slit (pp := [(0, _), (1, _)]) (α := (List Int)) (d := []) (f := (fun r => [.seq Int 0 (fun n => [.int .i64 n]) r])) [_, _] ety22 rfl ⟨rfl, (.plain rfl), (by simp), rfl, (.plain rfl), (by simp), trivial⟩ rfl (by decide) rfl) (.n (fun _ => op_build (pp := [(2, _), (1, _)]) (places := #[(0, 1), (1, 1), (2, 1), (3, 1)]) Try.underlying24 Try.zeroValue24 rfl (by intro w; kernel_rfl) ⟨rfl, (.plain rfl), (by simp), rfl, (.plain rfl), (by simp), trivial⟩ rfl) (.e (op_alloc 1 Try.zeroValue24 rfl rfl rfl) rfl (.e (op_storeRA Try.sizeOf24 (.plain rfl) (.plain rfl) rfl rfl (Nat.le_of_ble_eq_true rfl) rfl) rfl (.nil _))))))) ?_
  refine awp_seq ?_
  refine awp_region rfl (.r (op_loadRA Try.isAgg24 Try.sizeOf24 (.plain rfl) rfl (by first | (simp; done) | exact Nat.le_of_ble_eq_true rfl) rfl) (.n (fun _ => op_call1 Try.call11 (.plain rfl) (Most_fc2 0 GFS 2 0)) (.n (fun _ => op_move (.plain rfl)) (.n (fun _ => op_extract (.plain rfl) rfl) (.n (fun _ => op_extract (.plain rfl) rfl) (.n (fun _ => op_extract (.plain rfl) rfl) (.n (fun _ => op_assign (.plain rfl)) (.n (fun _ => op_assign (.plain rfl)) (.n (fun _ => op_assign (.plain rfl)) (.nil _)))))))))) ?_
  refine awp_seq ?_
  refine awp_region rfl (.r (op_loadRA Try.isAgg24 Try.sizeOf24 (.plain rfl) rfl (by first | (simp; done) | exact Nat.le_of_ble_eq_true rfl) rfl) (.n (fun _ => op_move (.plain rfl)) (.n (fun _ => op_move (.plain rfl)) (.n (fun _ => op_call3 Try.call7 (.plain rfl) (.plain rfl) (.plain rfl) (Check2_fc 0 GFS 2 0 _ _ ?_)) (.n (fun _ => op_move (.plain rfl)) (.n (fun _ => op_extract (.plain rfl) rfl) (.n (fun _ => op_extract (.plain rfl) rfl) (.n (fun _ => op_assign (.plain rfl)) (.n (fun _ => op_assign (.plain rfl)) (.nil _)))))))))) ?_
  · exact lens_v
  refine awp_seq ?_
  refine awp_region rfl (.n (fun _ => op_move (.plain rfl)) (.n (fun _ => op_eql (.plain rfl) (.plain rfl)) (.n (fun _ => op_move (.plain rfl)) (.gn rfl rfl (fun hg _ => op_move (.plain rfl)) (.gn rfl rfl (fun hg _ => op_eql (.opt rfl fun h => h) (.plain rfl)) (.n (fun _ => op_and (.plain rfl) (.plain rfl) (.plain rfl) (fun h => eqT h)) (.n (fun _ => op_move (.plain rfl)) (.gn rfl rfl (fun hg _ => op_move (.plain rfl)) (.gn rfl rfl (fun hg _ => op_eql (.opt rfl fun h => h) (.plain rfl)) (.n (fun _ => op_and (.plain rfl) (.plain rfl) (.plain rfl) (fun h => eqT h)) (.n (fun _ => op_assign (.plain rfl)) (.nil _)))))))))))) ?_
  refine awp_ret ?_
  refine retQ.ret ?_
  refine ret1 rfl rfl rfl ?_
  simp [plan_v gifts_v.1, gifts_v.1, gifts_v.2]

set_option maxRecDepth 1000000 in
set_option maxHeartbeats 2000000 in
theorem TopGifts_fc (G : Int) (F : List (List Int)) (Rd Rw : Int) (rs ws : List (List Int)) : FC Try.prog 5 [.agg [.i G, .rows F, .i Rd, .i Rw], .rows rs, .rows ws] (.bool true) := by
  refine FC.intro Try.func5 rfl (Nat.le_of_ble_eq_true rfl) fun hfit => ?_
  have fit0 := hfit _ (.head _)
  obtain ⟨fitl1, fitr1⟩ := (hfit _ (.tail _ (.head _))).rows
  obtain ⟨fitl2, fitr2⟩ := (hfit _ (.tail _ (.tail _ (.head _)))).rows
  have hFl := (fit0.mem (p := .rows F) (by simp)).rows
  have hGi := (fit0.mem (p := .i G) (by simp)).int64
  have hRi := (fit0.mem (p := .i Rd) (by simp)).int64
  have hWi := (fit0.mem (p := .i Rw) (by simp)).int64
  unfold InR at hGi hRi hWi
  refine awp_seq ?_
  refine awp_region rfl (.n (fun _ => op_box (.plain rfl) (by simp)) (.n (fun _ => op_assign (.plain rfl)) (.nil _))) ?_
  refine awp_seq ?_
  refine awp_seq ?_
  refine awp_region rfl (.n (fun _ => op_fieldAddr Try.underlying24 rfl rfl Try.sizeOf22 (.plain rfl)) (.n (fun _ => op_load Try.isAgg22 (.plain rfl)) (.n (fun _ => op_len (s := 0) Try.underlying22 (.plain rfl)) (.n (fun _ => op_gtr (.plain rfl) (.plain rfl)) (.nil _))))) ?_
  refine awp_cond rfl (fun h => ?_) (fun h => ?_)
  · try simp only [decide_eq_true_eq, decide_eq_false_iff_not, Bool.and_eq_true, Bool.or_eq_true, Bool.and_eq_false_iff, Bool.or_eq_false_iff, Bool.not_eq_true', Bool.not_eq_false', Bool.not_eq_true, Bool.not_eq_false, Bool.true_eq_false, Bool.false_eq_true] at h
    refine awp_seq ?_
    refine awp_region rfl (.n (fun _ => op_assign (.plain rfl)) (.nil _)) ?_
    refine awp_ret ?_
    refine retQ.ret ?_
    refine ret1 rfl rfl rfl ?_
    rfl
  · try simp only [decide_eq_true_eq, decide_eq_false_iff_not, Bool.and_eq_true, Bool.or_eq_true, Bool.and_eq_false_iff, Bool.or_eq_false_iff, Bool.not_eq_true', Bool.not_eq_false', Bool.not_eq_true, Bool.not_eq_false, Bool.true_eq_false, Bool.false_eq_true] at h
    refine awp_skip ?_
    refine awp_seq ?_
    refine awp_seq ?_
    refine awp_region rfl (.n (fun _ => op_assign (.plain rfl)) (.nil _)) ?_
    refine awp_block ?_
    refine awp_loop (σ := Nat) (fun (k : Nat) => k ≤ F.length) (fun (k : Nat) => ⟨[(1, .pv (.rows rs)), (2, .pv (.rows ws)), (3, .pv (.rd [.i G, .rows F, .i Rd, .i Rw])), (7, .int (k : Nat))], []⟩) (fun (k : Nat) => F.length - k) 0 ?_ (Ent.kept ⟨rfl, rfl, rfl, rfl, trivial⟩ trivial) ?_
    · exact Nat.zero_le _
    rintro k hp
    try dsimp only at hp
    refine awp_seq ?_
    refine awp_seq ?_
    refine awp_region rfl (.n (fun _ => op_move (.plain rfl)) (.n (fun _ => op_fieldAddr Try.underlying24 rfl rfl Try.sizeOf22 (.plain rfl)) (.n (fun _ => op_load Try.isAgg22 (.plain rfl)) (.n (fun _ => op_len (s := 0) Try.underlying22 (.plain rfl)) (.n (fun _ => op_lss (.plain rfl) (.plain rfl)) (.nil _)))))) ?_
    refine awp_cond rfl (fun h => ?_) (fun h => ?_)
    · try simp only [decide_eq_true_eq, decide_eq_false_iff_not, Bool.and_eq_true, Bool.or_eq_true, Bool.and_eq_false_iff, Bool.or_eq_false_iff, Bool.not_eq_true', Bool.not_eq_false', Bool.not_eq_true, Bool.not_eq_false, Bool.true_eq_false, Bool.false_eq_true] at h
      refine awp_skip ?_
      refine awp_seq ?_
      refine awp_block ?_
      refine awp_seq ?_
      refine awp_region rfl (.n (fun _ => op_fieldAddr Try.underlying24 rfl rfl Try.sizeOf22 (.plain rfl)) (.n (fun _ => op_load Try.isAgg22 (.plain rfl)) (.n (fun _ => op_move (.plain rfl)) (.n (fun _ => op_indexAddrN Try.underlying22 Try.sizeOf35 (.plain rfl) (.plain rfl) (fun _ => rfl) ?_) (.n (fun _ => op_load Try.isAgg35 (.plain rfl)) (.n (fun _ => op_len (s := 0) Try.underlying35 (.plain rfl)) (.n (fun _ => op_gtr (.plain rfl) (.plain rfl)) (.nil _)))))))) ?_
      · omega
      refine awp_cond rfl (fun h => ?_) (fun h => ?_)
      · try simp only [decide_eq_true_eq, decide_eq_false_iff_not, Bool.and_eq_true, Bool.or_eq_true, Bool.and_eq_false_iff, Bool.or_eq_false_iff, Bool.not_eq_true', Bool.not_eq_false', Bool.not_eq_true, Bool.not_eq_false, Bool.true_eq_false, Bool.false_eq_true] at h
        refine awp_seq ?_
        refine awp_region rfl (.n (fun _ => op_assign (.plain rfl)) (.nil _)) ?_
        refine awp_ret ?_
        refine retQ.ret ?_
        refine ret1 rfl rfl rfl ?_
        rfl
      · try simp only [decide_eq_true_eq, decide_eq_false_iff_not, Bool.and_eq_true, Bool.or_eq_true, Bool.and_eq_false_iff, Bool.or_eq_false_iff, Bool.not_eq_true', Bool.not_eq_false', Bool.not_eq_true, Bool.not_eq_false, Bool.true_eq_false, Bool.false_eq_true] at h
        refine awp_skip ?_
        refine awp_region rfl (.n (fun _ => op_move (.plain rfl)) (.n (fun _ => op_add (.plain rfl) (.plain rfl) ?_) (.n (fun _ => op_assign (.plain rfl)) (.nil _)))) ?_
        · unfold InR; omega
        exact ⟨k + 1, by omega, by dsimp only; omega, (Ent.kept ⟨rfl, rfl, rfl, rfl, trivial⟩ trivial)⟩
    · try simp only [decide_eq_true_eq, decide_eq_false_iff_not, Bool.and_eq_true, Bool.or_eq_true, Bool.and_eq_false_iff, Bool.or_eq_false_iff, Bool.not_eq_true', Bool.not_eq_false', Bool.not_eq_true, Bool.not_eq_false, Bool.true_eq_false, Bool.false_eq_true] at h
      refine awp_exit ?_
      refine awp_seq ?_
      refine awp_seq ?_
      refine awp_region rfl (.n (fun _ => op_move (.plain rfl)) (.n (fun _ => op_len (s := 0) Try.underlying22 (.plain rfl)) (.n (fun _ => op_move (.plain rfl)) (.n (fun _ => op_len (s := 0) Try.underlying22 (.plain rfl)) (.n (fun _ => op_add (.plain rfl) (.plain rfl) ?_) (.n (fun _ => op_gtr (.plain rfl) (.plain rfl)) (.nil _))))))) ?_
      · unfold InR; omega
      refine awp_cond rfl (fun h => ?_) (fun h => ?_)
      · try simp only [decide_eq_true_eq, decide_eq_false_iff_not, Bool.and_eq_true, Bool.or_eq_true, Bool.and_eq_false_iff, Bool.or_eq_false_iff, Bool.not_eq_true', Bool.not_eq_false', Bool.not_eq_true, Bool.not_eq_false, Bool.true_eq_false, Bool.false_eq_true] at h
        refine awp_seq ?_
        refine awp_region rfl (.n (fun _ => op_assign (.plain rfl)) (.nil _)) ?_
        refine awp_ret ?_
        refine retQ.ret ?_
        refine ret1 rfl rfl rfl ?_
        rfl
      · try simp only [decide_eq_true_eq, decide_eq_false_iff_not, Bool.and_eq_true, Bool.or_eq_true, Bool.and_eq_false_iff, Bool.or_eq_false_iff, Bool.not_eq_true', Bool.not_eq_false', Bool.not_eq_true, Bool.not_eq_false, Bool.true_eq_false, Bool.false_eq_true] at h
        refine awp_skip ?_
        refine awp_seq ?_
        refine awp_seq ?_
        refine awp_region rfl (.n (fun _ => op_call0 Try.call13  (gifts_fc)) (.n (fun _ => op_not (.plain rfl)) (.nil _))) ?_
        refine awp_cond rfl (fun h => ?_) (fun h => ?_)
        · exfalso; exact absurd h (by decide)
        · try simp only [decide_eq_true_eq, decide_eq_false_iff_not, Bool.and_eq_true, Bool.or_eq_true, Bool.and_eq_false_iff, Bool.or_eq_false_iff, Bool.not_eq_true', Bool.not_eq_false', Bool.not_eq_true, Bool.not_eq_false, Bool.true_eq_false, Bool.false_eq_true] at h
          refine awp_skip ?_
          refine awp_seq ?_
          refine awp_region rfl (.n (fun _ => op_load_agg Try.isAgg24 Try.sizeOf24 (.plain rfl) (Nat.le_of_ble_eq_true rfl)) (.n (fun _ => op_call1 Try.call11 (.plain rfl) (Most_fc2 _ _ _ _)) (.n (fun _ => op_move (.plain rfl)) (.n (fun _ => op_extract (.plain rfl) rfl) (.n (fun _ => op_extract (.plain rfl) rfl) (.n (fun _ => op_extract (.plain rfl) rfl) (.n (fun _ => op_assign (.plain rfl)) (.n (fun _ => op_assign (.plain rfl)) (.n (fun _ => op_assign (.plain rfl)) (.nil _)))))))))) ?_
          refine awp_seq ?_
          refine awp_region rfl (.n (fun _ => op_load_agg Try.isAgg24 Try.sizeOf24 (.plain rfl) (Nat.le_of_ble_eq_true rfl)) (.n (fun _ => op_move (.plain rfl)) (.n (fun _ => op_move (.plain rfl)) (.n (fun _ => op_call3 Try.call7 (.plain rfl) (.plain rfl) (.plain rfl) (Check2_fc G F Rd Rw _ _ ?_)) (.n (fun _ => op_move (.plain rfl)) (.n (fun _ => op_extract (.plain rfl) rfl) (.n (fun _ => op_extract (.plain rfl) rfl) (.n (fun _ => op_assign (.plain rfl)) (.n (fun _ => op_assign (.plain rfl)) (.nil _)))))))))) ?_
          · exact lens_v
          refine awp_seq ?_
          refine awp_seq ?_
          refine awp_region rfl (.n (fun _ => op_move (.plain rfl)) (.n (fun _ => op_load_agg Try.isAgg24 Try.sizeOf24 (.plain rfl) (Nat.le_of_ble_eq_true rfl)) (.n (fun _ => op_call1 Try.call9 (.plain rfl) (May_fc _ _ _ _)) (.n (fun _ => op_neq (.plain rfl) (.plain rfl)) (.n (fun _ => op_move (.plain rfl)) (.gn rfl rfl (fun hg _ => op_move (.plain rfl)) (.gn rfl rfl (fun hg _ => op_move (.plain rfl)) (.gn rfl rfl (fun hg _ => op_neq (.opt rfl fun h => h) (.opt rfl fun h => h)) (.n (fun _ => op_or (.plain rfl) (.plain rfl) (.plain rfl) (fun h => eqF h)) (.nil _)))))))))) ?_
          refine awp_cond rfl (fun h => ?_) (fun h => ?_)
          · try simp only [decide_eq_true_eq, decide_eq_false_iff_not, Bool.and_eq_true, Bool.or_eq_true, Bool.and_eq_false_iff, Bool.or_eq_false_iff, Bool.not_eq_true', Bool.not_eq_false', Bool.not_eq_true, Bool.not_eq_false, Bool.true_eq_false, Bool.false_eq_true] at h
            exfalso
            simp [plan_ve] at h
          · try simp only [decide_eq_true_eq, decide_eq_false_iff_not, Bool.and_eq_true, Bool.or_eq_true, Bool.and_eq_false_iff, Bool.or_eq_false_iff, Bool.not_eq_true', Bool.not_eq_false', Bool.not_eq_true, Bool.not_eq_false, Bool.true_eq_false, Bool.false_eq_true] at h
            refine awp_skip ?_
            refine awp_seq ?_
            refine awp_region rfl (.n (fun _ => op_load_agg Try.isAgg24 Try.sizeOf24 (.plain rfl) (Nat.le_of_ble_eq_true rfl)) (.n (fun _ => op_move (.plain rfl)) (.n (fun _ => op_move (.plain rfl)) (.n (fun _ => op_call3 Try.call7 (.plain rfl) (.plain rfl) (.plain rfl) (Check2_fc G F Rd Rw _ _ ?_)) (.n (fun _ => op_move (.plain rfl)) (.n (fun _ => op_extract (.plain rfl) rfl) (.n (fun _ => op_extract (.plain rfl) rfl) (.n (fun _ => op_assign (.plain rfl)) (.n (fun _ => op_assign (.plain rfl)) (.nil _)))))))))) ?_
            · omega
            refine awp_seq ?_
            refine awp_region rfl (.n (fun _ => op_move (.plain rfl)) (.n (fun _ => op_neq (.plain rfl) (.plain rfl)) (.n (fun _ => op_move (.plain rfl)) (.gn rfl rfl (fun hg _ => op_move (.plain rfl)) (.gn rfl rfl (fun hg _ => op_eql (.opt rfl fun h => h) (.plain rfl)) (.gn rfl rfl (fun hg _ => op_move (.opt rfl fun h => h)) (.ggn rfl rfl (fun hg _ => op_move (.plain rfl)) (.ggn rfl rfl (fun hg _ => op_move (.plain rfl)) (.ggn rfl rfl (fun hg _ => op_leq (.opt rfl fun h => h) (.opt rfl fun h => h)) (.gn rfl rfl (fun hg _ => op_and (.opt rfl fun h => h) (.plain rfl) (.plain rfl) (fun h => andI hg (eqT h))) (.n (fun _ => op_or (.plain rfl) (.plain rfl) (.plain rfl) (fun h => eqF h)) (.n (fun _ => op_assign (.plain rfl)) (.nil _))))))))))))) ?_
            refine awp_ret ?_
            refine retQ.ret ?_
            refine ret1 rfl rfl rfl ?_
            by_cases hc : checkE G F Rd Rw rs ws = 0
            · have := top_gifts hc
              simp [hc, this]
            · simp [hc]

end Go.Proofs.Ytnkhlgkcohpahaa

