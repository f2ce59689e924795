/- Most gives as many gifts as there can be. Conditions: each theorem names its own. -/
import Derived.Test.YtnkhlgkcohpahaaProg
import Derived.Test.YtnkhlgkcohpahaaFe
namespace Go.Proofs.Ytnkhlgkcohpahaa
open Go.Abs
set_option linter.unusedVariables false
set_option linter.unusedSimpArgs false

/-! ### The document's search and the finder's search are one -/
section
variable {G : Int} {F : List (List Int)} {Rd Rw : Int}
theorem linR_stop {used : List Int} {q : Nat} : ∀ (f : Nat) (l : List Int), l.getD 0 0 = (q : Int) → 1 ≤ l.length → (((q : Int) < G ∧ Rw < (l.length : Int) - 1) ∨ (¬ (q : Int) < G ∧ Rd < (l.length : Int))) → linR G F Rd Rw used f l = []
  | 0, l, h0, h1, h => by
    simp only [linR, emL]
    rw [if_neg]
    rintro ⟨_, c⟩
    rw [h0] at c
    omega
  | f + 1, l, h0, h1, h => by
    have e : emL G F Rd Rw l = [] := by
      unfold emL
      rw [if_neg]
      rintro ⟨_, c⟩
      rw [h0] at c
      omega
    simp only [linR]
    rw [e, List.nil_append]
    refine goTo_nil fun i hi _ => ?_
    have h0' : ∀ x : Int, (l ++ [x]).getD 0 0 = (q : Int) := fun x => by
      cases l with
      | nil => simp at h1
      | cons a l => exact h0
    refine linR_stop f _ (h0' _) (by simp) ?_
    rw [List.length_append, List.length_singleton]
    omega
theorem em_same {q : Nat} {l : List Int} (h0 : l.getD 0 0 = (q : Int)) (h1 : 1 ≤ l.length) (hlen : ((q : Int) < G ∧ (l.length : Int) - 1 ≤ Rw) ∨ (¬ (q : Int) < G ∧ ((l.length : Int) ≤ Rd ∨ l.length = 1))) : emL G F Rd Rw l = emD G F q l := by
  unfold emL emD
  have : emP G F Rd Rw l ↔ emDP G F q l := by
    unfold emP emDP
    rw [h0]
    by_cases c : (q : Int) < G
    · simp only [c, true_and, not_true_eq_false, false_and, or_false, true_or, and_true]
      constructor
      · exact fun h => h.1
      · intro h; exact ⟨h, by omega⟩
    · simp only [c, false_and, false_or, not_false_eq_true, true_and]
      constructor
      · exact fun h => ⟨h.1, h.2.1⟩
      · intro h; exact ⟨h.1, h.2, by omega⟩
  by_cases c : emP G F Rd Rw l
  · rw [if_pos c, if_pos (this.1 c)]
  · rw [if_neg c, if_neg fun d => c (this.2 d)]
theorem linR_linD (hS : SOk G F Rd Rw) {used : List Int} {q : Nat} (hq : q < F.length) : ∀ (f : Nat) (l : List Int) (u : Nat), l.getD 0 0 = (q : Int) → 1 ≤ l.length → f + l.length = F.length + 1 →
    (((q : Int) < G ∧ (l.length : Int) - 1 ≤ Rw) ∨ (¬ (q : Int) < G ∧ ((l.length : Int) ≤ Rd ∨ l.length = 1))) → (∀ x : Nat, q < x → x < F.length → (u.testBit x = true ↔ ((x : Int) ∈ used ∨ (x : Int) ∈ l))) → linR G F Rd Rw used f l = linD G F Rd Rw q f l u
  | 0, l, u, h0, h1, hf, hlen, hu => by
    exact em_same h0 h1 hlen
  | f + 1, l, u, h0, h1, hf, hlen, hu => by
    have e := em_same (F := F) h0 h1 hlen
    have h0' : ∀ x : Int, (l ++ [x]).getD 0 0 = (q : Int) := fun x => by
      cases l with
      | nil => simp at h1
      | cons a l => exact h0
    simp only [linR, linD]
    rw [e]
    congr 1
    split
    · rename_i hst
      refine goTo_nil fun i hi _ => linR_stop (q := q) f _ (h0' _) (by simp) ?_
      rw [List.length_append, List.length_singleton]
      unfold stopD at hst
      omega
    · rename_i hst
      refine goTo_same fun i hi => ?_
      have hx : ((q : Nat) : Int) < G → (q : Int) < (F.getD (lastF l).toNat []).getD i 0 := fun hq' => by
        rcases Nat.lt_or_ge (lastF l).toNat F.length with c | c
        · have := hS.fit _ c i hi; omega
        · rw [show F.getD (lastF l).toNat [] = [] by simp [List.getD_eq_getElem?_getD, c]] at hi; simp at hi
      have hxn : 0 ≤ (F.getD (lastF l).toNat []).getD i 0 ∧ (F.getD (lastF l).toNat []).getD i 0 < (F.length : Int) := by
        rcases Nat.lt_or_ge (lastF l).toNat F.length with c | c
        · have := hS.fit _ c i hi; have := hS.g; omega
        · rw [show F.getD (lastF l).toNat [] = [] by simp [List.getD_eq_getElem?_getD, c]] at hi; simp at hi
      generalize (F.getD (lastF l).toNat []).getD i 0 = x at *
      obtain ⟨x, rfl⟩ : ∃ y : Nat, x = (y : Int) := ⟨x.toNat, by omega⟩
      have hql : (q : Int) ∈ l := by rw [← h0]; exact getD_mem 0 (by omega)
      refine ⟨?_, fun hp => linR_linD hS hq f _ _ (h0' _) (by simp) (by simp; omega) ?_ fun y hy hyn => ?_⟩
      · unfold okR dgo
        rw [h0, Bool.eq_iff_iff, decide_eq_true_eq]
        simp only [Bool.and_eq_true, Bool.not_eq_true', Bool.or_eq_true, decide_eq_true_eq, place_mem, Int.toNat_natCast]
        by_cases c : q < x
        · have h5 := hu x c (by omega)
          constructor
          · intro h
            refine ⟨?_, .inr (by omega)⟩
            cases hb : u.testBit x with
            | false => rfl
            | true => exact absurd (.inl (h5.1 hb)) h
          · rintro ⟨hb, _⟩ (h | h)
            · rw [h5.2 h] at hb; exact absurd hb (by decide)
            · omega
        · constructor
          · intro h
            exfalso
            by_cases e2 : x = q
            · subst e2; exact h (.inl (.inr hql))
            · by_cases e3 : (q : Int) < G
              · have := hx e3; omega
              · exact h (.inr ⟨e3, by omega⟩)
          · rintro ⟨_, h | h⟩
            · have := hx h; omega
            · omega
      · rw [List.length_append, List.length_singleton]
        unfold stopD at hst
        omega
      · rw [Nat.testBit_or, Bool.or_eq_true, hu y hy hyn, Nat.testBit_two_pow, decide_eq_true_eq, List.mem_append, List.mem_singleton, Int.toNat_natCast, show ((y : Int) = (x : Int)) ↔ x = y by omega, or_assoc]
end
section
variable {G : Int} {F : List (List Int)} {Rd Rw : Int}
theorem ref_opt (hS : SOk G F Rd Rw) : ∀ (m u : Nat) (used : List Int), m ≤ F.length → (∀ x : Nat, x < F.length → (u.testBit x = true ↔ (x : Int) ∈ used)) → refF G F Rd Rw m used = optF G F Rd Rw m u
  | 0, _, _, _, _ => rfl
  | m + 1, u, used, hm, hu => by
    have hc : (F.length : Int) - (m + 1) = ((F.length - (m + 1) : Nat) : Int) := by omega
    have hq : F.length - (m + 1) < F.length := by omega
    have ih := ref_opt hS m
    simp only [refF, optF]
    rw [hc]
    generalize F.length - (m + 1) = q at *
    have hRw := hS.rw'
    have hL : linR G F Rd Rw used F.length [(q : Int)] = linA G F Rd Rw u q := linR_linD hS hq _ _ _ rfl (by simp) (by simp) (by
      by_cases c : (q : Int) < G
      · exact .inl ⟨c, by simp; omega⟩
      · exact .inr ⟨c, .inr rfl⟩) fun x hx hxn => by
        rw [Nat.testBit_or, Bool.or_eq_true, hu x hxn, Nat.testBit_two_pow, decide_eq_true_eq, List.mem_singleton]
        constructor
        · rintro (h | h)
          · exact .inl h
          · omega
        · rintro (h | h)
          · exact .inl h
          · omega
    by_cases hb : u.testBit q = true
    · rw [if_pos (place_mem.2 ((hu q hq).1 hb)), if_pos hb]
      exact ih u used (by omega) hu
    · rw [if_neg fun c => hb ((hu q hq).2 (place_mem.1 c)), if_neg hb, hL]
      refine mxTo_same (ih u used (by omega) hu) (fun l hl => ?_) _ (Nat.le_refl _)
      obtain ⟨_, _, _, h4⟩ := linA_in hS hq hl
      rw [ih (orTo u l l.length) (used ++ l) (by omega) fun x hx => ?_]
      rw [orTo_bit, hu x hx, List.mem_append]
      constructor
      · rintro (h | ⟨j, hj, h⟩)
        · exact .inl h
        · right
          have := h4 j hj
          have e : l.getD j 0 = (x : Int) := by omega
          rw [← e]; exact getD_mem 0 hj
      · rintro (h | h)
        · exact .inl h
        · right
          obtain ⟨j, hj, e⟩ := List.getElem_of_mem h
          exact ⟨j, hj, by rw [List.getD_eq_getElem?_getD, List.getElem?_eq_getElem hj, Option.getD_some, e]; simp⟩
theorem ref_best (hS : SOk G F Rd Rw) : refF G F Rd Rw F.length [] = bestD G F Rd Rw 0 := ref_opt hS _ _ _ (Nat.le_refl _) fun x _ => by simp
end
/-! ### What a line of the finder is like -/
theorem getD_left {l t : List Int} {j : Nat} (h : j < l.length) : (l ++ t).getD j 0 = l.getD j 0 := by
  rw [List.getD_eq_getElem?_getD, List.getElem?_append_left h, ← List.getD_eq_getElem?_getD]
/-- Each fits the one ahead of it. -/
def Chn (F : List (List Int)) (l : List Int) : Prop := ∀ i, i + 1 < l.length → l.getD (i + 1) 0 ∈ F.getD (l.getD i 0).toNat []
structure LOk (G : Int) (F : List (List Int)) (Rd Rw : Int) (u : Nat) (v : List Int) : Prop where
  two : 1 < v.length
  rng : ∀ x, x ∈ v → 0 ≤ x ∧ x < (F.length : Int)
  nd : v.Nodup
  chn : Chn F v
  off : ∀ x, x ∈ v → u.testBit x.toNat = false
  row : v.getD 0 0 < G → (v.length : Int) - 1 ≤ Rw
  rnd : ¬ v.getD 0 0 < G → (v.length : Int) ≤ Rd ∧ v.getD 0 0 ∈ F.getD (lastF v).toNat []
section
variable {G : Int} {F : List (List Int)} {Rd Rw : Int}
theorem linD_lok (hS : SOk G F Rd Rw) {q u0 : Nat} : ∀ (f : Nat) (l : List Int) (u : Nat) (v : List Int), l.getD 0 0 = (q : Int) → 1 ≤ l.length → f + l.length = F.length + 1 →
    (((q : Int) < G ∧ (l.length : Int) - 1 ≤ Rw) ∨ (¬ (q : Int) < G ∧ ((l.length : Int) ≤ Rd ∨ l.length = 1))) → (∀ x, x ∈ l → 0 ≤ x ∧ x < (F.length : Int)) → l.Nodup → Chn F l → (∀ x, x ∈ l → u0.testBit x.toNat = false) → (∀ x, x ∈ l → u.testBit x.toNat = true) →
    (∀ x : Nat, u0.testBit x = true → u.testBit x = true) → v ∈ linD G F Rd Rw q f l u → LOk G F Rd Rw u0 v := by
  have hem : ∀ (l v : List Int), l.getD 0 0 = (q : Int) → (((q : Int) < G ∧ (l.length : Int) - 1 ≤ Rw) ∨ (¬ (q : Int) < G ∧ ((l.length : Int) ≤ Rd ∨ l.length = 1))) → (∀ x, x ∈ l → 0 ≤ x ∧ x < (F.length : Int)) → l.Nodup → Chn F l → (∀ x, x ∈ l → u0.testBit x.toNat = false) → v ∈ emD G F q l → LOk G F Rd Rw u0 v := by
    intro l v h0 hlen hr hn hc ho hv
    unfold emD at hv
    split at hv
    · rename_i he
      simp only [List.mem_singleton] at hv
      subst hv
      have h2 := he.1
      refine ⟨by omega, hr, hn, hc, ho, fun h => by rw [h0] at h; omega, fun h => ?_⟩
      rw [h0] at h
      refine ⟨by omega, ?_⟩
      rw [h0]
      exact place_mem.1 (he.2.resolve_left h)
    · simp at hv
  intro f
  induction f with
  | zero => intro l u v h0 _ _ hlen hr hn hc ho _ _ hv; exact hem l v h0 hlen hr hn hc ho hv
  | succ f ih =>
    intro l u v h0 h1 hf hlen hr hn hc ho hu hu0 hv
    simp only [linD, List.mem_append] at hv
    rcases hv with hv | hv
    · exact hem l v h0 hlen hr hn hc ho hv
    · split at hv
      · simp at hv
      · rename_i hst
        obtain ⟨i, hi, hgo, hv⟩ := goTo_mem.1 hv
        have hla : lastF l ∈ l := getD_mem 0 (by omega)
        have hlr := hr _ hla
        have hfx := hS.fit (lastF l).toNat (by omega) i hi
        have hxm := getD_mem (l := F.getD (lastF l).toNat []) 0 hi
        generalize (F.getD (lastF l).toNat []).getD i 0 = x at *
        have hub : u.testBit x.toNat = false := by
          unfold dgo at hgo
          simp only [Bool.and_eq_true, Bool.not_eq_true'] at hgo
          exact hgo.1
        have hG := hS.g
        have hxl : ¬ x ∈ l := fun c => by rw [hu x c] at hub; exact absurd hub (by decide)
        have h0' : (l ++ [x]).getD 0 0 = (q : Int) := by
          cases l with
          | nil => simp at h1
          | cons a l => exact h0
        refine ih (l ++ [x]) (u ||| 2 ^ x.toNat) v h0' (by simp) (by simp; omega) ?_ ?_ ?_ ?_ ?_ ?_ ?_ hv
        · rw [List.length_append, List.length_singleton]; unfold stopD at hst; omega
        · intro y hy
          rcases List.mem_append.1 hy with h | h
          · exact hr y h
          · simp only [List.mem_singleton] at h; subst h; omega
        · exact List.nodup_append.2 ⟨hn, by simp, fun a ha b hb e => by simp only [List.mem_singleton] at hb; subst hb; subst e; exact hxl ha⟩
        · intro j hj
          rw [List.length_append, List.length_singleton] at hj
          by_cases c : j + 1 < l.length
          · have := hc j c
            rw [getD_left c, getD_left (show j < l.length by omega)]
            exact this
          · have hj2 : j = l.length - 1 := by omega
            subst hj2
            have e1 : (l ++ [x]).getD (l.length - 1 + 1) 0 = x := by rw [show l.length - 1 + 1 = l.length by omega]; simp [List.getD_eq_getElem?_getD]
            have e2 : (l ++ [x]).getD (l.length - 1) 0 = lastF l := by
              unfold lastF
              rw [List.getD_eq_getElem?_getD, List.getElem?_append_left (by omega), ← List.getD_eq_getElem?_getD]
            rw [e1, e2]; exact hxm
        · intro y hy
          rcases List.mem_append.1 hy with h | h
          · exact ho y h
          · simp only [List.mem_singleton] at h; subst h
            cases hb : u0.testBit y.toNat with
            | false => rfl
            | true => rw [hu0 _ hb] at hub; exact absurd hub (by decide)
        · intro y hy
          rw [Nat.testBit_or, Bool.or_eq_true]
          rcases List.mem_append.1 hy with h | h
          · exact .inl (hu y h)
          · simp only [List.mem_singleton] at h; subst h; right; rw [Nat.testBit_two_pow]; simp
        · intro y hy
          rw [Nat.testBit_or, Bool.or_eq_true]; exact .inl (hu0 y hy)
end
section
variable {G : Int} {F : List (List Int)} {Rd Rw : Int}
theorem linA_lok (hS : SOk G F Rd Rw) {q u : Nat} {v : List Int} (hq : q < F.length) (hb : u.testBit q = false) (h : v ∈ linA G F Rd Rw u q) : LOk G F Rd Rw u v := by
  have hRw := hS.rw'
  refine linD_lok hS (u0 := u) F.length [(q : Int)] (u ||| 2 ^ q) v rfl (by simp) (by simp) ?_ ?_ (by simp) ?_ ?_ ?_ ?_ h
  · by_cases c : (q : Int) < G
    · exact .inl ⟨c, by simp; omega⟩
    · exact .inr ⟨c, .inr rfl⟩
  · intro x hx; simp only [List.mem_singleton] at hx; omega
  · intro i hi; simp at hi
  · intro x hx; simp only [List.mem_singleton] at hx; subst hx; simpa using hb
  · intro x hx; simp only [List.mem_singleton] at hx; subst hx; simp
  · intro x hx; rw [Nat.testBit_or, Bool.or_eq_true]; exact .inl hx
end
/-! ### The finder's plan -/
def sumG (G : Int) : List (List Int) → Int
  | [] => 0
  | l :: P => giftL G (l.getD 0 0) l + sumG G P
def Disj (P : List (List Int)) : Prop := P.Pairwise fun a b => ∀ x, x ∈ a → ¬ x ∈ b
section
variable {G : Int} {F : List (List Int)} {Rd Rw : Int}
theorem LOk.less {u w : Nat} {v : List Int} (h : LOk G F Rd Rw w v) (hw : ∀ x : Nat, u.testBit x = true → w.testBit x = true) : LOk G F Rd Rw u v :=
  ⟨h.two, h.rng, h.nd, h.chn, fun x hx => by
    cases hb : u.testBit x.toNat with
    | false => rfl
    | true => have := h.off x hx; rw [hw _ hb] at this; exact absurd this (by decide), h.row, h.rnd⟩
theorem plan_ok (hS : SOk G F Rd Rw) : ∀ (g u : Nat), u < 2 ^ 8 → 2 ^ 8 ≤ g + u → (u : Int) ∈ (mmF G F Rd Rw).1.map (·.1) → (∀ l, l ∈ planF (mmF G F Rd Rw).2 g u → LOk G F Rd Rw u l) ∧ Disj (planF (mmF G F Rd Rw).2 g u) ∧ sumG G (planF (mmF G F Rd Rw).2 g u) = bestD G F Rd Rw u
  | 0, u, hu, hg, _ => by omega
  | g + 1, u, hu, hg, hk => by
    obtain ⟨l, hl2, hby⟩ := mm_at hS hk
    rcases hby with ⟨rfl, h0⟩ | ⟨q, hq, hbq, hlq, hv, hkey⟩
    · rw [planF_nil hl2]
      exact ⟨fun l h => by simp at h, List.Pairwise.nil, h0.symm⟩
    · have hla := linA_in hS hq hlq
      have hnx := next_in hS hq hu hbq hlq
      obtain ⟨h1, h2, h3⟩ := plan_ok hS g (nextM u q l) hnx.2 (by have := hnx.1; omega) hkey
      rw [planF_go hl2 (by omega) hla.1]
      have hsub : ∀ x : Nat, u.testBit x = true → (nextM u q l).testBit x = true := fun x hx => (orTo_bit _).2 (.inl (by rw [Nat.testBit_or, hx]; rfl))
      refine ⟨fun v hvm => ?_, List.pairwise_cons.2 ⟨fun v hvm x hx hxv => ?_, h2⟩, ?_⟩
      · rcases List.mem_cons.1 hvm with rfl | h
        · exact linA_lok hS hq hbq hlq
        · exact (h1 v h).less hsub
      · have a := (h1 v hvm).off x hxv
        obtain ⟨j, hj, e⟩ := List.getElem_of_mem hx
        have b : (nextM u q l).testBit x.toNat = true := (orTo_bit _).2 (.inr ⟨j, hj, by rw [List.getD_eq_getElem?_getD, List.getElem?_eq_getElem hj, Option.getD_some, e]⟩)
        rw [a] at b; exact absurd b (by decide)
      · simp only [sumG]
        rw [hla.1, h3, hv]
theorem planL_ok (hS : SOk G F Rd Rw) : (∀ l, l ∈ planL G F Rd Rw → LOk G F Rd Rw 0 l) ∧ Disj (planL G F Rd Rw) ∧ sumG G (planL G F Rd Rw) = bestD G F Rd Rw 0 :=
  plan_ok hS 256 0 (by omega) (by omega) (mm_facts hS).2.key
end
/-! ### The check of such a plan -/
section
variable {G : Int} {F : List (List Int)} {Rd Rw : Int}
theorem lok_line {u : Nat} {l used : List Int} (h : LOk G F Rd Rw u l) (hd : ∀ x, x ∈ l → ¬ x ∈ used) : lineE F l used = 0 := by
  have h2 := h.two
  unfold lineE
  rw [if_neg (by omega)]
  have key : ∀ k, k ≤ l.length → firstE (lineB F l used) k = 0 := by
    intro k
    induction k with
    | zero => intro _; rfl
    | succ k ih =>
      intro hk
      have hm := getD_mem (l := l) 0 (show k < l.length by omega)
      have hr := h.rng _ hm
      refine firstE_succ (ih (by omega)) (lineB_0 (by omega) ?_ ?_)
      · rw [place_mem, List.mem_append, not_or]
        refine ⟨hd _ hm, fun c => ?_⟩
        obtain ⟨j, hj, e⟩ := List.getElem_of_mem c
        rw [List.length_take] at hj
        have h3 := List.pairwise_iff_getElem.1 h.nd j k (by omega) (by omega) (by omega)
        rw [List.getElem_take] at e
        rw [List.getD_eq_getElem?_getD, List.getElem?_eq_getElem (show k < l.length by omega), Option.getD_some] at e
        exact h3 e
      · rintro ⟨h0, c⟩
        have := h.chn (k - 1) (by omega)
        rw [show k - 1 + 1 = k by omega] at this
        exact c (place_mem.2 this)
  exact key _ (Nat.le_refl _)
end
section
variable {G : Int} {F : List (List Int)} {Rd Rw : Int} {rs ws : List (List Int)}
theorem used_mem {x : Int} : ∀ k, x ∈ usedTo rs ws k ↔ ∃ j, j < k ∧ x ∈ lAt rs ws j
  | 0 => by simp [usedTo]
  | k + 1 => by
    simp only [usedTo, List.mem_append, used_mem k]
    constructor
    · rintro (⟨j, hj, h⟩ | h)
      · exact ⟨j, by omega, h⟩
      · exact ⟨k, by omega, h⟩
    · rintro ⟨j, hj, h⟩
      by_cases e : j = k
      · subst e; exact .inr h
      · exact .inl ⟨j, by omega, h⟩
theorem plan_check (hv : mayE G F Rd Rw = 0) (hl : ∀ k, k < rs.length + ws.length → LOk G F Rd Rw 0 (lAt rs ws k)) (hd : ∀ j k, j < k → k < rs.length + ws.length → ∀ x, x ∈ lAt rs ws j → ¬ x ∈ lAt rs ws k)
    (hr : ∀ k, k < rs.length → ¬ (lAt rs ws k).getD 0 0 < G) (hw : ∀ k, rs.length ≤ k → k < rs.length + ws.length → (lAt rs ws k).getD 0 0 < G) : checkE G F Rd Rw rs ws = 0 := by
  unfold checkE
  rw [if_neg fun c => c hv]
  have key : ∀ k, k ≤ rs.length + ws.length → firstE (itemB G F Rd Rw rs ws) k = 0 := by
    intro k
    induction k with
    | zero => intro _; rfl
    | succ k ih =>
      intro hk
      refine firstE_succ (ih (by omega)) ?_
      have h := hl k (by omega)
      have h0 := lok_line (used := usedTo rs ws k) h fun x hx hu => by
        obtain ⟨j, hj, hxj⟩ := (used_mem k).1 hu
        exact hd j k hj (by omega) x hxj hx
      by_cases c : k < rs.length
      · have h1 := h.rnd (hr k c)
        refine itemB_rd0 h0 (by omega) ?_
        rintro ((e | e) | e)
        · omega
        · exact hr k c e
        · exact e (place_mem.2 h1.2)
      · have h1 := h.row (hw k (by omega) (by omega))
        have h2 := hw k (by omega) (by omega)
        exact itemB_rw0 h0 (by omega) (by omega)
  exact key _ (Nat.le_refl _)
end
section
variable {G : Int} {rs ws : List (List Int)}
theorem sumTo_shift {f : Nat → Int} : ∀ n, sumTo f (n + 1) = f 0 + sumTo (fun i => f (i + 1)) n
  | 0 => by simp [sumTo]
  | n + 1 => by
    have := sumTo_shift (f := f) n
    simp only [sumTo] at *
    omega
def lenS (c : Int) : List (List Int) → Int
  | [] => 0
  | l :: P => (l.length : Int) - c + lenS c P
theorem lenS_eq {c : Int} : ∀ P : List (List Int), sumTo (fun k => ((P.getD k []).length : Int) - c) P.length = lenS c P
  | [] => rfl
  | l :: P => by
    rw [List.length_cons, sumTo_shift]
    have := lenS_eq (c := c) P
    simp only [List.getD_cons_zero, List.getD_cons_succ, lenS]
    omega
theorem sumG_split : ∀ P : List (List Int), sumG G P = lenS 0 (rndP G P) + lenS 1 (rowP G P)
  | [] => rfl
  | l :: P => by
    have ih := sumG_split P
    unfold rndP rowP at *
    by_cases h : l.getD 0 0 < G
    · rw [List.filter_cons, List.filter_cons, decide_eq_true h]
      simp only [sumG, giftL, if_pos h, Bool.not_true, if_true, lenS]
      rw [if_neg (by decide)]; omega
    · rw [List.filter_cons, List.filter_cons, decide_eq_false h]
      simp only [sumG, giftL, if_neg h, Bool.not_false, if_true, lenS]
      rw [if_neg (by decide)]; omega
end
theorem sumTo_plus {f : Nat → Int} (a : Nat) : ∀ b, sumTo f (a + b) = sumTo f a + sumTo (fun k => f (a + k)) b
  | 0 => by simp [sumTo]
  | b + 1 => by
    have := sumTo_plus (f := f) a b
    rw [← Nat.add_assoc]
    simp only [sumTo] at *
    omega
theorem sumTo_eqv {f g : Nat → Int} : ∀ n, (∀ k, k < n → f k = g k) → sumTo f n = sumTo g n
  | 0, _ => rfl
  | n + 1, h => by simp only [sumTo]; rw [sumTo_eqv n fun k hk => h k (by omega), h n (by omega)]
theorem gift_sum {rs ws : List (List Int)} : sumTo (giftB rs ws) (rs.length + ws.length) = lenS 0 rs + lenS 1 ws := by
  rw [sumTo_plus, ← lenS_eq, ← lenS_eq]
  congr 1
  · refine sumTo_eqv _ fun k hk => ?_
    unfold giftB
    rw [if_pos hk, lAt_rd (by omega)]; omega
  · refine sumTo_eqv _ fun k hk => ?_
    unfold giftB
    rw [if_neg (by omega), lAt_rw]
section
variable {G : Int} {F : List (List Int)} {Rd Rw : Int}
theorem lAt_mem {rs ws : List (List Int)} {k : Nat} (h : k < rs.length + ws.length) : lAt rs ws k ∈ rs ++ ws ∧ (rs ++ ws).getD k [] = lAt rs ws k := by
  have e : (rs ++ ws).getD k [] = lAt rs ws k := by
    unfold lAt
    by_cases c : k < rs.length
    · rw [if_pos c, List.getD_eq_getElem?_getD, List.getElem?_append_left c, ← List.getD_eq_getElem?_getD]
    · rw [if_neg c, List.getD_eq_getElem?_getD, List.getElem?_append_right (by omega), ← List.getD_eq_getElem?_getD]
  exact ⟨by rw [← e]; exact getD_mem [] (by rw [List.length_append]; exact h), e⟩
end
section
variable {G : Int} {F : List (List Int)} {Rd Rw : Int}
theorem split_perm (P : List (List Int)) : (rndP G P ++ rowP G P).Perm P := by
  unfold rndP rowP
  exact List.perm_append_comm.trans (List.filter_append_perm (fun l : List Int => decide (l.getD 0 0 < G)) P)
theorem plan_good (hv : mayE G F Rd Rw = 0) : checkE G F Rd Rw (rndP G (planL G F Rd Rw)) (rowP G (planL G F Rd Rw)) = 0 ∧ giftF G F Rd Rw (rndP G (planL G F Rd Rw)) (rowP G (planL G F Rd Rw)) = bestD G F Rd Rw 0 := by
  have hS := sok hv
  obtain ⟨h1, h2, h3⟩ := planL_ok hS
  have hp := split_perm (G := G) (planL G F Rd Rw)
  have hd : Disj (rndP G (planL G F Rd Rw) ++ rowP G (planL G F Rd Rw)) := (hp.pairwise_iff fun {a b} h x hx hxb => h x hxb hx).2 h2
  have hc : checkE G F Rd Rw (rndP G (planL G F Rd Rw)) (rowP G (planL G F Rd Rw)) = 0 := by
    refine plan_check hv (fun k hk => h1 _ (hp.mem_iff.1 (lAt_mem hk).1)) (fun j k hj hk x hx => ?_) (fun k hk => ?_) (fun k hk hk2 => ?_)
    · have a := lAt_mem (rs := rndP G (planL G F Rd Rw)) (ws := rowP G (planL G F Rd Rw)) (k := j) (by omega)
      have b := lAt_mem hk
      have := List.pairwise_iff_getElem.1 hd j k (by rw [List.length_append]; omega) (by rw [List.length_append]; omega) hj
      rw [← a.2, List.getD_eq_getElem?_getD, List.getElem?_eq_getElem (by rw [List.length_append]; omega), Option.getD_some] at hx
      rw [← b.2, List.getD_eq_getElem?_getD, List.getElem?_eq_getElem (by rw [List.length_append]; omega), Option.getD_some]
      exact this x hx
    · have hm := getD_mem (l := rndP G (planL G F Rd Rw)) [] hk
      rw [lAt_rd (by omega)]
      have := (List.mem_filter.1 hm).2
      simpa using this
    · have hm := getD_mem (l := rowP G (planL G F Rd Rw)) [] (show k - (rndP G (planL G F Rd Rw)).length < (rowP G (planL G F Rd Rw)).length by omega)
      have e : lAt (rndP G (planL G F Rd Rw)) (rowP G (planL G F Rd Rw)) k = (rowP G (planL G F Rd Rw)).getD (k - (rndP G (planL G F Rd Rw)).length) [] := by
        unfold lAt; rw [if_neg (by omega)]
      rw [e]
      have := (List.mem_filter.1 hm).2
      simpa using this
  refine ⟨hc, ?_⟩
  unfold giftF
  rw [if_neg fun c => c hc, gift_sum, ← sumG_split, h3]
end
section
variable {G : Int} {F : List (List Int)} {Rd Rw : Int}
theorem nodup_lenI : ∀ (n : Nat) (l : List Int), l.Nodup → (∀ k, k ∈ l → 0 ≤ k ∧ k < (n : Int)) → l.length ≤ n
  | 0, l, _, h => by
    cases l with
    | nil => simp
    | cons a l => have := h a List.mem_cons_self; omega
  | n + 1, l, hn, hr => by
    have := nodup_lenI n (l.erase (n : Int)) (hn.erase _) fun k hk => by
      have h1 := hr k (List.mem_of_mem_erase hk)
      have h2 := (hn.mem_erase_iff.1 hk).1
      omega
    rw [List.length_erase] at this
    split at this <;> omega
theorem disj_flat {P : List (List Int)} (hl : ∀ l, l ∈ P → LOk G F Rd Rw 0 l) (hd : Disj P) : P.flatten.length ≤ F.length := by
  refine nodup_lenI _ _ (List.pairwise_flatten.2 ⟨fun l h => (hl l h).nd, hd.imp fun {a b} (h : ∀ x, x ∈ a → ¬ x ∈ b) x hx y hy (e : x = y) => h x hx (e ▸ hy)⟩) fun k hk => ?_
  obtain ⟨l, h1, h2⟩ := List.mem_flatten.1 hk
  exact (hl l h1).rng k h2
theorem heavy_plan {P : List (List Int)} (hS : SOk G F Rd Rw) (hl : ∀ l, l ∈ P → LOk G F Rd Rw 0 l) (hd : Disj P) : heavyF P = false := by
  have h8 := hS.n8
  have h1 := disj_flat hl hd
  have h2 : P.length ≤ P.flatten.length := by
    clear h1 hd
    induction P with
    | nil => simp
    | cons a P ih =>
      have := (hl a List.mem_cons_self).two
      have := ih fun l h => hl l (List.mem_cons_of_mem _ h)
      rw [List.flatten_cons, List.length_append, List.length_cons]; omega
  unfold heavyF heavyTo
  rw [List.take_length, ← List.length_flatten]
  exact decide_eq_false (by omega)
theorem heavy_sub {P Q : List (List Int)} (hS : SOk G F Rd Rw) (hl : ∀ l, l ∈ P → LOk G F Rd Rw 0 l) (hd : Disj P) (h : Q.Sublist P) : heavyF Q = false :=
  heavy_plan hS (fun l hm => hl l (h.subset hm)) (hd.sublist h)
end

def rndV (G : Int) (F : List (List Int)) (Rd Rw : Int) : List (List Int) := if mayE G F Rd Rw = 0 then rndP G (planL G F Rd Rw) else []
def rowV (G : Int) (F : List (List Int)) (Rd Rw : Int) : List (List Int) := if mayE G F Rd Rw = 0 then rowP G (planL G F Rd Rw) else []
theorem Most_fc2 (G : Int) (F : List (List Int)) (Rd Rw : Int) : FC Try.prog 11 [.agg [.i G, .rows F, .i Rd, .i Rw]] (.tup [.rows (rndV G F Rd Rw), .rows (rowV G F Rd Rw), .i (mayE G F Rd Rw)]) := by
  have h := Most_fc G F Rd Rw
  unfold rndV rowV
  by_cases hv : mayE G F Rd Rw = 0
  · rw [if_pos hv] at h
    rw [if_pos hv, if_pos hv, hv]; exact h
  · rw [if_neg hv] at h
    rw [if_neg hv, if_neg hv]; exact h
theorem heavy_nil : heavyF [] = false := rfl
theorem rndV_heavy (G : Int) (F : List (List Int)) (Rd Rw : Int) : heavyF (rndV G F Rd Rw) = false := by
  unfold rndV
  split
  · rename_i hv
    have hS := sok hv
    obtain ⟨h1, h2, _⟩ := planL_ok hS
    exact heavy_sub hS h1 h2 List.filter_sublist
  · rfl
theorem rowV_heavy (G : Int) (F : List (List Int)) (Rd Rw : Int) : heavyF (rowV G F Rd Rw) = false := by
  unfold rowV
  split
  · rename_i hv
    have hS := sok hv
    obtain ⟨h1, h2, _⟩ := planL_ok hS
    exact heavy_sub hS h1 h2 List.filter_sublist
  · rfl
theorem plan_v {G : Int} {F : List (List Int)} {Rd Rw : Int} (hv : mayE G F Rd Rw = 0) : checkE G F Rd Rw (rndV G F Rd Rw) (rowV G F Rd Rw) = 0 ∧ giftF G F Rd Rw (rndV G F Rd Rw) (rowV G F Rd Rw) = bestD G F Rd Rw 0 := by
  unfold rndV rowV
  rw [if_pos hv, if_pos hv]; exact plan_good hv

set_option maxRecDepth 1000000 in
set_option maxHeartbeats 2000000 in
theorem SwapMost_fc (G : Int) (F : List (List Int)) (Rd Rw : Int) : FC Try.prog 4 [.agg [.i G, .rows F, .i Rd, .i Rw]] (.bool true) := by
  refine FC.intro Try.func4 rfl (Nat.le_of_ble_eq_true rfl) fun hfit => ?_
  have fit0 := hfit _ (.head _)
  have hFl := (fit0.mem (p := .rows F) (by simp)).rows
  have hGi := (fit0.mem (p := .i G) (by simp)).int64
  have hRi := (fit0.mem (p := .i Rd) (by simp)).int64
  have hWi := (fit0.mem (p := .i Rw) (by simp)).int64
  unfold InR at hGi hRi hWi
  refine awp_seq ?_
  refine awp_region rfl (.n (fun _ => op_box (.plain rfl) (by simp)) (.n (fun _ => op_assign (.plain rfl)) (.nil _))) ?_
  refine awp_seq ?_
  refine awp_seq ?_
  refine awp_region rfl (.n (fun _ => op_fieldAddr Try.underlying24 rfl rfl Try.sizeOf22 (.plain rfl)) (.n (fun _ => op_load Try.isAgg22 (.plain rfl)) (.n (fun _ => op_call1 Try.call6 (.plain rfl) (heavy_fc _)) (.n (fun _ => op_move (.plain rfl)) (.gn rfl rfl (fun hg _ => op_fieldAddr Try.underlying24 rfl rfl Try.sizeOf22 (.plain rfl)) (.gn rfl rfl (fun hg _ => op_load Try.isAgg22 (.opt rfl fun h => h)) (.gn rfl rfl (fun hg _ => op_len (s := 0) Try.underlying22 (.opt rfl fun h => h)) (.gn rfl rfl (fun hg _ => op_gtr (.opt rfl fun h => h) (.plain rfl)) (.gn rfl rfl (fun hg _ => op_move (.opt rfl fun h => h)) (.ggn rfl rfl (fun hg _ => op_fieldAddr Try.underlying24 rfl rfl Try.sizeOf22 (.plain rfl)) (.ggn rfl rfl (fun hg _ => op_load Try.isAgg22 (.opt rfl fun h => h)) (.ggn rfl rfl (fun hg _ => op_len (s := 0) Try.underlying22 (.opt rfl fun h => h)) (.ggn rfl rfl (fun hg _ => op_lss (.opt rfl fun h => h) (.plain rfl)) (.gn rfl rfl (fun hg _ => op_and (.opt rfl fun h => h) (.plain rfl) (.plain rfl) (fun h => andI hg (eqT h))) (.n (fun _ => op_or (.plain rfl) (.plain rfl) (.plain rfl) (fun h => eqF h)) (.nil _)))))))))))))))) ?_
  refine awp_cond rfl (fun h => ?_) (fun h => ?_)
  · try simp only [decide_eq_true_eq, decide_eq_false_iff_not, Bool.and_eq_true, Bool.or_eq_true, Bool.and_eq_false_iff, Bool.or_eq_false_iff, Bool.not_eq_true', Bool.not_eq_false', Bool.not_eq_true, Bool.not_eq_false, Bool.true_eq_false, Bool.false_eq_true] at h
    refine awp_seq ?_
    refine awp_region rfl (.n (fun _ => op_assign (.plain rfl)) (.nil _)) ?_
    refine awp_ret ?_
    refine retQ.ret ?_
    refine ret1 rfl rfl rfl ?_
    rfl
  · try simp only [decide_eq_true_eq, decide_eq_false_iff_not, Bool.and_eq_true, Bool.or_eq_true, Bool.and_eq_false_iff, Bool.or_eq_false_iff, Bool.not_eq_true', Bool.not_eq_false', Bool.not_eq_true, Bool.not_eq_false, Bool.true_eq_false, Bool.false_eq_true] at h
    refine awp_skip ?_
    refine awp_seq ?_
    refine awp_region rfl (.n (fun _ => op_load_agg Try.isAgg24 Try.sizeOf24 (.plain rfl) (Nat.le_of_ble_eq_true rfl)) (.n (fun _ => op_call1 Try.call11 (.plain rfl) (Most_fc2 _ _ _ _)) (.n (fun _ => op_move (.plain rfl)) (.n (fun _ => op_extract (.plain rfl) rfl) (.n (fun _ => op_extract (.plain rfl) rfl) (.n (fun _ => op_extract (.plain rfl) rfl) (.n (fun _ => op_assign (.plain rfl)) (.n (fun _ => op_assign (.plain rfl)) (.n (fun _ => op_assign (.plain rfl)) (.nil _)))))))))) ?_
    refine awp_seq ?_
    refine awp_region rfl (.n (fun _ => op_load_agg Try.isAgg24 Try.sizeOf24 (.plain rfl) (Nat.le_of_ble_eq_true rfl)) (.n (fun _ => op_call1 Try.call10 (.plain rfl) (SwapMay_fc _ _ _ _)) (.n (fun _ => op_assign (.plain rfl)) (.nil _)))) ?_
    refine awp_seq ?_
    refine awp_seq ?_
    refine awp_region rfl (.n (fun _ => op_move (.plain rfl)) (.n (fun _ => op_neq (.plain rfl) (.plain rfl)) (.nil _))) ?_
    refine awp_cond rfl (fun h => ?_) (fun h => ?_)
    · try simp only [decide_eq_true_eq, decide_eq_false_iff_not, Bool.and_eq_true, Bool.or_eq_true, Bool.and_eq_false_iff, Bool.or_eq_false_iff, Bool.not_eq_true', Bool.not_eq_false', Bool.not_eq_true, Bool.not_eq_false, Bool.true_eq_false, Bool.false_eq_true] at h
      have hn1 : rndV G F Rd Rw = [] := if_neg h
      have hn2 : rowV G F Rd Rw = [] := if_neg h
      have hb1 := (heavy_row (rndV_heavy G F Rd Rw)).1
      have hb2 := (heavy_row (rowV_heavy G F Rd Rw)).1
      refine awp_seq ?_
      refine awp_region rfl (.n (fun _ => op_move (.plain rfl)) (.n (fun _ => op_move (.plain rfl)) (.n (fun _ => op_eql (.plain rfl) (.plain rfl)) (.n (fun _ => op_move (.plain rfl)) (.gn rfl rfl (fun hg _ => op_move (.plain rfl)) (.gn rfl rfl (fun hg _ => op_len (s := 0) Try.underlying22 (.opt rfl fun h => h)) (.gn rfl rfl (fun hg _ => op_move (.plain rfl)) (.gn rfl rfl (fun hg _ => op_len (s := 0) Try.underlying22 (.opt rfl fun h => h)) (.gn rfl rfl (fun hg _ => op_add (.opt rfl fun h => h) (.opt rfl fun h => h) ?_) (.gn rfl rfl (fun hg _ => op_eql (.opt rfl fun h => h) (.plain rfl)) (.n (fun _ => op_and (.plain rfl) (.plain rfl) (.plain rfl) (fun h => eqT h)) (.n (fun _ => op_assign (.plain rfl)) (.nil _))))))))))))) ?_
      · try simp only [beq_iff_eq, beq_true, beq_false, Bool.and_eq_true, decide_eq_true_eq, decide_eq_false_iff_not, Bool.not_eq_true', Bool.or_eq_true, Bool.or_eq_false_iff] at hg
        unfold InR; omega
      refine awp_ret ?_
      refine retQ.ret ?_
      refine ret1 rfl rfl rfl ?_
      simp [hn1, hn2]
    · try simp only [decide_eq_true_eq, decide_eq_false_iff_not, Bool.and_eq_true, Bool.or_eq_true, Bool.and_eq_false_iff, Bool.or_eq_false_iff, Bool.not_eq_true', Bool.not_eq_false', Bool.not_eq_true, Bool.not_eq_false, Bool.true_eq_false, Bool.false_eq_true] at h
      have hv : mayE G F Rd Rw = 0 := by omega
      have hpv := plan_v hv
      have hrb := ref_best (sok hv)
      refine awp_skip ?_
      refine awp_seq ?_
      refine awp_region rfl (.n (fun _ => op_load_agg Try.isAgg24 Try.sizeOf24 (.plain rfl) (Nat.le_of_ble_eq_true rfl)) (.n (fun _ => op_move (.plain rfl)) (.n (fun _ => op_move (.plain rfl)) (.n (fun _ => op_call3 Try.call8 (.plain rfl) (.plain rfl) (.plain rfl) (SwapCheck_fc G F Rd Rw _ _ ?_ ?_)) (.n (fun _ => op_move (.plain rfl)) (.n (fun _ => op_extract (.plain rfl) rfl) (.n (fun _ => op_extract (.plain rfl) rfl) (.n (fun _ => op_assign (.plain rfl)) (.n (fun _ => op_assign (.plain rfl)) (.nil _)))))))))) ?_
      · exact rndV_heavy _ _ _ _
      · exact rowV_heavy _ _ _ _
      refine awp_seq ?_
      refine awp_region rfl (.n (fun _ => op_move (.plain rfl)) (.n (fun _ => op_eql (.plain rfl) (.plain rfl)) (.n (fun _ => op_move (.plain rfl)) (.gn rfl rfl (fun hg _ => op_move (.plain rfl)) (.gn rfl rfl (fun hg _ => op_eql (.opt rfl fun h => h) (.plain rfl)) (.n (fun _ => op_and (.plain rfl) (.plain rfl) (.plain rfl) (fun h => eqT h)) (.n (fun _ => op_move (.plain rfl)) (.gn rfl rfl (fun hg _ => op_move (.plain rfl)) (.gn rfl rfl (fun hg _ => op_load_agg Try.isAgg24 Try.sizeOf24 (.plain rfl) (Nat.le_of_ble_eq_true rfl)) (.gn rfl rfl (fun hg _ => op_call1 Try.call12 (.opt rfl fun h => h) (RSwapMost_fc _ _ _ _ hv)) (.gn rfl rfl (fun hg _ => op_eql (.opt rfl fun h => h) (.opt rfl fun h => h)) (.n (fun _ => op_and (.plain rfl) (.plain rfl) (.plain rfl) (fun h => eqT h)) (.n (fun _ => op_assign (.plain rfl)) (.nil _)))))))))))))) ?_
      refine awp_ret ?_
      refine retQ.ret ?_
      refine ret1 rfl rfl rfl ?_
      simp [hv, hpv, hrb]

end Go.Proofs.Ytnkhlgkcohpahaa

