/- What Rounds gives, by both ways. Conditions: each theorem names its own. -/
import Derived.Test.YtnbponopcbgndaaProg
import Derived.Test.YtnbponopcbgndaaFa
namespace Go.Proofs.Ytnbponopcbgndaa
open Go.Abs
set_option linter.unusedVariables false
set_option linter.unusedSimpArgs false


/-! ### Lists of numbers without doubles -/
theorem nodup_sub : ∀ (l m : List Nat), l.Nodup → (∀ x, x ∈ l → x ∈ m) → l.length ≤ m.length
  | [], m, _, _ => by simp
  | a :: l, m, hd, hs => by
    have ha := hs a List.mem_cons_self
    have h1 := nodup_sub l (m.erase a) (List.nodup_cons.1 hd).2 fun x hx => by
      have hne : x ≠ a := fun e => (List.nodup_cons.1 hd).1 (e ▸ hx)
      exact (List.mem_erase_of_ne hne).2 (hs x (List.mem_cons_of_mem _ hx))
    have h2 := List.length_erase_of_mem ha
    have h3 := List.length_pos_of_mem ha
    simp only [List.length_cons]; omega
theorem nodup_lt {n : Nat} {l : List Nat} (hd : l.Nodup) (h : ∀ x, x ∈ l → x < n) : l.length ≤ n := by
  have := nodup_sub l (List.range n) hd fun x hx => List.mem_range.2 (h x hx)
  simpa using this
theorem nodup_map_on {f : Nat → Nat} : ∀ {l : List Nat}, l.Nodup → (∀ x y, x ∈ l → y ∈ l → f x = f y → x = y) → (l.map f).Nodup
  | [], _, _ => by simp
  | a :: l, hd, hi => by
    rw [List.map_cons, List.nodup_cons]
    refine ⟨fun hm => ?_, nodup_map_on (List.nodup_cons.1 hd).2 fun x y hx hy => hi x y (List.mem_cons_of_mem _ hx) (List.mem_cons_of_mem _ hy)⟩
    obtain ⟨b, hb, e⟩ := List.mem_map.1 hm
    have := hi b a (List.mem_cons_of_mem _ hb) List.mem_cons_self e
    exact (List.nodup_cons.1 hd).1 (this ▸ hb)
/-- One to one on a part of the first n, into it: onto it. -/
theorem onto_of {n : Nat} {p : Nat → Bool} {f : Nat → Nat} (hn : ∀ x, p x = true → x < n) (hf : ∀ x, p x = true → p (f x) = true) (hi : ∀ x y, p x = true → p y = true → f x = f y → x = y) {y : Nat} (hy : p y = true) :
    ∃ x, p x = true ∧ f x = y := by
  have hd : ((List.range n).filter p).Nodup := List.Nodup.sublist List.filter_sublist List.nodup_range
  have hm : ∀ x, x ∈ (List.range n).filter p ↔ p x = true := fun x => by
    rw [List.mem_filter, List.mem_range]
    exact ⟨fun h => h.2, fun h => ⟨hn x h, h⟩⟩
  by_cases h : y ∈ ((List.range n).filter p).map f
  · obtain ⟨x, hx, e⟩ := List.mem_map.1 h
    exact ⟨x, (hm x).1 hx, e⟩
  · exfalso
    have h1 := nodup_sub (((List.range n).filter p).map f) (((List.range n).filter p).erase y) (nodup_map_on hd fun a b ha hb => hi a b ((hm a).1 ha) ((hm b).1 hb)) fun x hx => by
      obtain ⟨z, hz, e⟩ := List.mem_map.1 hx
      have hne : x ≠ y := fun e2 => h (e2 ▸ hx)
      exact (List.mem_erase_of_ne hne).2 ((hm x).2 (e ▸ hf z ((hm z).1 hz)))
    have h2 := List.length_erase_of_mem ((hm y).2 hy)
    have h3 := List.length_pos_of_mem ((hm y).2 hy)
    simp only [List.length_map] at h1
    omega
def iter (f : Nat → Nat) : Nat → Nat → Nat
  | 0, x => x
  | k + 1, x => f (iter f k x)
theorem iter_add (f : Nat → Nat) (x : Nat) (a : Nat) : ∀ b, iter f (a + b) x = iter f b (iter f a x)
  | 0 => rfl
  | b + 1 => by rw [← Nat.add_assoc]; simp only [iter, iter_add f x a b]
/-- After n steps among n places one is on a way that comes back. -/
theorem iter_back {n : Nat} {f : Nat → Nat} {i : Nat} (h : ∀ j, j ≤ n → iter f j i < n) : ∃ t, 1 ≤ t ∧ t ≤ n ∧ iter f t (iter f n i) = iter f n i := by
  by_cases hd : ((List.range (n + 1)).map fun j => iter f j i).Nodup
  · have := nodup_lt (n := n) hd fun x hx => by
      obtain ⟨j, hj, rfl⟩ := List.mem_map.1 hx
      exact h j (by have := List.mem_range.1 hj; omega)
    simp at this
    omega
  · have key : ∃ a b, a < b ∧ b ≤ n ∧ iter f a i = iter f b i := by
      apply Classical.byContradiction
      intro hno
      refine hd (nodup_map_on List.nodup_range fun x y hx hy e => ?_)
      have hx := List.mem_range.1 hx
      have hy := List.mem_range.1 hy
      rcases Nat.lt_trichotomy x y with h1 | h1 | h1
      · exact absurd ⟨x, y, h1, by omega, e⟩ hno
      · exact h1
      · exact absurd ⟨y, x, h1, by omega, e.symm⟩ hno
    obtain ⟨a, b, hab, hb, e⟩ := key
    refine ⟨b - a, by omega, by omega, ?_⟩
    have e1 : iter f n i = iter f (n - a) (iter f a i) := by rw [← iter_add]; congr 1; omega
    rw [← iter_add, show n + (b - a) = b + (n - a) by omega, iter_add, ← e, ← e1]
theorem iter_mul {f : Nat → Nat} {x t : Nat} (h : iter f t x = x) : ∀ k, iter f (k * t) x = x
  | 0 => by rw [Nat.zero_mul]; rfl
  | k + 1 => by rw [Nat.add_mul, Nat.one_mul, iter_add, iter_mul h k, h]
/-- On such a way, what was met twice was met first at its beginning. -/
theorem iter_first {f : Nat → Nat} {x t : Nat} (ht : 1 ≤ t) (h : iter f t x = x) {j k : Nat} (hjk : j < k) (e : iter f k x = iter f j x) : iter f (k - j) x = x := by
  have h1 := iter_mul h j
  have hj : j ≤ j * t := Nat.le_mul_of_pos_right j ht
  have h2 : iter f (k + (j * t - j)) x = iter f (j + (j * t - j)) x := by rw [iter_add, iter_add, e]
  rw [show j + (j * t - j) = j * t by omega, h1, show k + (j * t - j) = j * t + (k - j) by omega, iter_add, h1] at h2
  exact h2

/-! ### One end -/
inductive Star {σ : Type} (R : σ → σ → Prop) : σ → σ → Prop
  | refl (s : σ) : Star R s s
  | step {s t u : σ} (h : R s t) (r : Star R t u) : Star R s u
theorem Star.trans {σ : Type} {R : σ → σ → Prop} {s t u : σ} (h : Star R s t) (h' : Star R t u) : Star R s u := by
  induction h with
  | refl s => exact h'
  | step h r ih => exact .step h (ih h')
theorem Star.snoc {σ : Type} {R : σ → σ → Prop} {s t u : σ} (h : Star R s t) (h' : R t u) : Star R s u := h.trans (.step h' (.refl _))
section
variable {σ : Type} {R : σ → σ → Prop} {Q : σ → Prop} {μ : σ → Nat}
theorem some_end (hQ : ∀ s t, Q s → R s t → Q t) (hμ : ∀ s t, Q s → R s t → μ t < μ s) : ∀ n s, μ s ≤ n → Q s → ∃ e, Star R s e ∧ ∀ x, ¬ R e x := by
  intro n
  induction n with
  | zero => exact fun s hs hq => ⟨s, .refl s, fun x hx => by have := hμ s x hq hx; omega⟩
  | succ n ih =>
    intro s hs hq
    by_cases h : ∃ x, R s x
    · obtain ⟨x, hx⟩ := h
      obtain ⟨e, h1, h2⟩ := ih x (by have := hμ s x hq hx; omega) (hQ s x hq hx)
      exact ⟨e, .step hx h1, h2⟩
    · exact ⟨s, .refl s, fun x hx => h ⟨x, hx⟩⟩
theorem one_end (hQ : ∀ s t, Q s → R s t → Q t) (hμ : ∀ s t, Q s → R s t → μ t < μ s) (dia : ∀ s a b, Q s → R s a → R s b → ∃ x, (a = x ∨ R a x) ∧ (b = x ∨ R b x)) :
    ∀ n s t u, μ s ≤ n → Q s → Star R s t → Star R s u → (∀ x, ¬ R t x) → (∀ x, ¬ R u x) → t = u := by
  intro n
  induction n with
  | zero =>
    intro s t u hs hq h1 h2 _ _
    cases h1 with
    | step h r => have := hμ _ _ hq h; omega
    | refl =>
      cases h2 with
      | step h r => have := hμ _ _ hq h; omega
      | refl => rfl
  | succ n ih =>
    intro s t u hs hq h1 h2 ht hu
    cases h1 with
    | refl =>
      cases h2 with
      | refl => rfl
      | step h r => exact absurd h (ht _)
    | step ha ra =>
      cases h2 with
      | refl => exact absurd ha (hu _)
      | step hb rb =>
        obtain ⟨x, hax, hbx⟩ := dia _ _ _ hq ha hb
        have hqa := hQ _ _ hq ha
        have hqb := hQ _ _ hq hb
        have hma := hμ _ _ hq ha
        have hmb := hμ _ _ hq hb
        have hqx : Q x := by
          rcases hax with rfl | h
          · exact hqa
          · exact hQ _ _ hqa h
        obtain ⟨e, he1, he2⟩ := some_end hQ hμ (μ x) x (Nat.le_refl _) hqx
        have h3 := ih _ t e (by omega) hqa ra (by rcases hax with rfl | h; exact he1; exact .step h he1) ht he2
        have h4 := ih _ u e (by omega) hqb rb (by rcases hbx with rfl | h; exact he1; exact .step h he1) hu he2
        rw [h3, h4]
end

/-! ### Rings, and those who can have nothing -/
/-- What room there is, who is gone, what each one got. -/
abbrev Stt := List Int × List Bool × List Int
def sI (l room : List Int) : Option Nat := firstI (fun i => decide (0 < room.getD (l.getD i 0).toNat 0)) l.length
theorem sF_none {l room : List Int} (h : sI l room = none) : sF l room = -1 := by unfold sI at h; unfold sF; rw [h]
section sys
variable (W F : List (List Int)) (n m : Nat)
def sAt (S : Stt) (x : Nat) : Int := sF (W.getD x []) S.1
def nxt (S : Stt) (x : Nat) : Int := bestF (F.getD (sAt W S x).toNat []) S.2.1
def hits (S : Stt) (p : Nat → Bool) (k : Nat) : Bool := (List.range n).any fun x => p x && decide (sAt W S x = (k : Int))
def ringTo (S : Stt) (p : Nat → Bool) : Stt := (mapr m fun k => S.1.getD k 0 - if hits W n S p k then 1 else 0, mapr n fun x => S.2.1.getD x false || p x, mapr n fun x => if p x then sAt W S x else S.2.2.getD x 0)
def dropTo (S : Stt) (p : Nat → Bool) : Stt := (S.1, mapr n fun x => S.2.1.getD x false || p x, mapr n fun x => if p x then -1 else S.2.2.getD x 0)
structure IsRing (S : Stt) (p : Nat → Bool) : Prop where
  lt : ∀ x, p x = true → x < n
  here : ∀ x, p x = true → S.2.1.getD x false = false
  sc : ∀ x, p x = true → 0 ≤ sAt W S x ∧ sAt W S x < m
  nx : ∀ x, p x = true → 0 ≤ nxt W F S x ∧ p (nxt W F S x).toNat = true
  inj : ∀ x y, p x = true → p y = true → nxt W F S x = nxt W F S y → x = y
structure IsDrop (S : Stt) (p : Nat → Bool) : Prop where
  lt : ∀ x, p x = true → x < n
  here : ∀ x, p x = true → S.2.1.getD x false = false
  no : ∀ x, p x = true → sI (W.getD x []) S.1 = none
inductive Mv (S : Stt) : Stt → Prop
  | ring (p : Nat → Bool) (he : ∃ x, p x = true) (h : IsRing W F n m S p) : Mv S (ringTo W n m S p)
  | drop (p : Nat → Bool) (he : ∃ x, p x = true) (h : IsDrop W n S p) : Mv S (dropTo n S p)
def Lens (S : Stt) : Prop := S.1.length = m ∧ S.2.1.length = n ∧ S.2.2.length = n
end sys

theorem firstI_move {p q : Nat → Bool} {n i : Nat} (h : firstI p n = some i) (hi : q i = true) (hq : ∀ j, j < i → p j = false → q j = false) : firstI q n = some i := by
  have h1 := firstI_spec h
  refine firstI_stop (firstI_of fun j hj => hq j hj (h1.2.2 j hj)) hi h1.1
theorem sF_some {l room : List Int} (h : 0 ≤ sF l room) : ∃ i, sI l room = some i ∧ l.getD i 0 = sF l room ∧ 0 < room.getD (sF l room).toNat 0 ∧ i < l.length := by
  unfold sF at h ⊢
  unfold sI
  cases e : firstI (fun i => decide (0 < room.getD (l.getD i 0).toNat 0)) l.length with
  | none => rw [e] at h; simp only at h; omega
  | some i =>
    have := firstI_spec e
    exact ⟨i, rfl, rfl, by simpa using this.2.1, this.1⟩
theorem sF_of {l room : List Int} {i : Nat} (h : sI l room = some i) : sF l room = l.getD i 0 := by unfold sI at h; unfold sF; rw [h]
theorem sF_move {l room room' : List Int} (h : 0 ≤ sF l room) (hle : ∀ k, room'.getD k 0 ≤ room.getD k 0) (hp : 0 < room'.getD (sF l room).toNat 0) : sF l room' = sF l room := by
  obtain ⟨i, h1, h2, h3, h4⟩ := sF_some h
  have : sI l room' = some i := firstI_move h1 (by rw [h2]; exact decide_eq_true hp) fun j hj hf => by
    simp only [decide_eq_false_iff_not] at hf ⊢
    have := hle (l.getD j 0).toNat
    omega
  rw [sF_of this, h2]
theorem sI_move {l room room' : List Int} (h : sI l room = none) (hle : ∀ k, room'.getD k 0 ≤ room.getD k 0) : sI l room' = none := by
  refine firstI_of fun j hj => ?_
  have h1 := firstI_none h j hj
  simp only [decide_eq_false_iff_not] at h1 ⊢
  have := hle (l.getD j 0).toNat
  omega
theorem bestF_some {l : List Int} {gone : List Bool} (h : 0 ≤ bestF l gone) : ∃ i, bestI l gone = some i ∧ l.getD i 0 = bestF l gone ∧ gone.getD (bestF l gone).toNat false = false ∧ i < l.length := by
  unfold bestF at h ⊢
  cases e : bestI l gone with
  | none => rw [e] at h; simp only at h; omega
  | some i =>
    have := firstI_spec e
    exact ⟨i, rfl, rfl, by simpa using this.2.1, this.1⟩
theorem bestF_of {l : List Int} {gone : List Bool} {i : Nat} (h : bestI l gone = some i) : bestF l gone = l.getD i 0 := by unfold bestF; rw [h]
theorem bestF_move {l : List Int} {gone gone' : List Bool} (h : 0 ≤ bestF l gone) (hle : ∀ k, gone.getD k false = true → gone'.getD k false = true) (hp : gone'.getD (bestF l gone).toNat false = false) : bestF l gone' = bestF l gone := by
  obtain ⟨i, h1, h2, h3, h4⟩ := bestF_some h
  have : bestI l gone' = some i := firstI_move h1 (by rw [h2, hp]; rfl) fun j hj hf => by
    have := hle (l.getD j 0).toNat (by simpa using hf)
    rw [this]; rfl
  rw [bestF_of this, h2]
theorem list_ext {α : Type} {d : α} {l m : List α} (hl : l.length = m.length) (h : ∀ k, k < l.length → l.getD k d = m.getD k d) : l = m := by
  refine List.ext_getElem hl fun k h1 h2 => ?_
  have := h k h1
  simpa only [List.getD_eq_getElem?_getD, List.getElem?_eq_getElem h1, List.getElem?_eq_getElem h2, Option.getD_some] using this
theorem getD_out {α : Type} {d : α} {l : List α} {k : Nat} (h : l.length ≤ k) : l.getD k d = d := by
  rw [List.getD_eq_getElem?_getD, List.getElem?_eq_none h]; rfl

section sys
variable {W F : List (List Int)} {n m : Nat}
theorem Mv.lens {S T : Stt} (h : Mv W F n m S T) (hl : Lens n m S) : Lens n m T := by
  cases h with
  | ring p he h => exact ⟨by simp [ringTo], by simp [ringTo], by simp [ringTo]⟩
  | drop p he h => exact ⟨hl.1, by simp [dropTo], by simp [dropTo]⟩
def leftN (n : Nat) (gone : List Bool) : Nat := ((List.range n).filter fun x => !gone.getD x false).length
theorem filter_lt {α : Type} {p q : α → Bool} : ∀ {l : List α}, (∀ x, x ∈ l → q x = true → p x = true) → (∃ x, x ∈ l ∧ p x = true ∧ q x = false) → (l.filter q).length < (l.filter p).length
  | [], _, h => by obtain ⟨x, hx, _⟩ := h; simp at hx
  | a :: l, hs, h => by
    have hs' : ∀ x, x ∈ l → q x = true → p x = true := fun x hx => hs x (List.mem_cons_of_mem _ hx)
    have hle : ∀ {l : List α}, (∀ x, x ∈ l → q x = true → p x = true) → (l.filter q).length ≤ (l.filter p).length := by
      intro l
      induction l with
      | nil => simp
      | cons b l ih =>
        intro hs
        have h1 := ih fun x hx => hs x (List.mem_cons_of_mem _ hx)
        have h2 := hs b List.mem_cons_self
        simp only [List.filter_cons]
        cases hq : q b with
        | true => rw [h2 hq]; simpa using h1
        | false => cases p b <;> simp <;> omega
    by_cases hex : ∃ x, x ∈ l ∧ p x = true ∧ q x = false
    · have h1 := filter_lt hs' hex
      have h2 := hs a List.mem_cons_self
      simp only [List.filter_cons]
      cases hq : q a with
      | true => rw [h2 hq]; simpa using h1
      | false => cases p a <;> simp <;> omega
    · obtain ⟨x, hx, hp, hq⟩ := h
      rcases List.mem_cons.1 hx with rfl | hx
      · have := hle hs'
        simp only [List.filter_cons, hp, hq, ↓reduceIte, List.length_cons]
        simp only [Bool.false_eq_true, ↓reduceIte]; omega
      · exact absurd ⟨x, hx, hp, hq⟩ hex
theorem left_less {gone : List Bool} {p : Nat → Bool} (hlt : ∀ x, p x = true → x < n) (hh : ∀ x, p x = true → gone.getD x false = false) (he : ∃ x, p x = true) : leftN n (mapr n fun x => gone.getD x false || p x) < leftN n gone := by
  obtain ⟨x, hx⟩ := he
  refine filter_lt (fun y hy hq => ?_) ⟨x, List.mem_range.2 (hlt x hx), by rw [hh x hx]; rfl, by rw [mapr_getD _ (hlt x hx), hx]; simp⟩
  rw [mapr_getD _ (List.mem_range.1 hy)] at hq
  cases h : gone.getD y false with
  | false => rfl
  | true => rw [h] at hq; simp at hq
theorem Mv.less {S T : Stt} (h : Mv W F n m S T) : leftN n T.2.1 < leftN n S.2.1 := by
  cases h with
  | ring p he h => exact left_less h.lt h.here he
  | drop p he h => exact left_less h.lt h.here he

/-- Two rings: who is pointed at by one of the second, and is of the first, the one is of the first too. -/
theorem ring_meet {S : Stt} {p q : Nat → Bool} (hp : IsRing W F n m S p) (hq : IsRing W F n m S q) {y : Nat} (hy : q y = true) (h : p (nxt W F S y).toNat = true) : p y = true := by
  have := onto_of (n := n) (p := fun x => p x && q x) (f := fun x => (nxt W F S x).toNat) (fun x hx => hp.lt x (by simp at hx; exact hx.1)) (fun x hx => by
      simp only [Bool.and_eq_true] at hx ⊢
      exact ⟨(hp.nx x hx.1).2, (hq.nx x hx.2).2⟩) (fun x z hx hz e => by
      simp only [Bool.and_eq_true] at hx hz
      have h1 := hp.nx x hx.1
      have h2 := hp.nx z hz.1
      exact hp.inj x z hx.1 hz.1 (by omega)) (y := (nxt W F S y).toNat) (by simp only [Bool.and_eq_true]; exact ⟨h, (hq.nx y hy).2⟩)
  obtain ⟨z, hz, e⟩ := this
  simp only [Bool.and_eq_true] at hz
  have h1 := hq.nx z hz.2
  have h2 := hq.nx y hy
  rw [← hq.inj z y hz.2 hy (by omega)]
  exact hz.1
theorem hits_iff {S : Stt} {p : Nat → Bool} (hlt : ∀ x, p x = true → x < n) {k : Nat} : hits W n S p k = true ↔ ∃ x, p x = true ∧ sAt W S x = (k : Int) := by
  unfold hits
  rw [List.any_eq_true]
  constructor
  · rintro ⟨x, hx, h⟩
    simp only [Bool.and_eq_true, decide_eq_true_eq] at h
    exact ⟨x, h.1, h.2⟩
  · rintro ⟨x, h1, h2⟩
    exact ⟨x, List.mem_range.2 (hlt x h1), by simp [h1, h2]⟩
theorem ringTo_room {S : Stt} (hl : Lens n m S) {p : Nat → Bool} (k : Nat) : (ringTo W n m S p).1.getD k 0 = S.1.getD k 0 - if k < m ∧ hits W n S p k = true then 1 else 0 := by
  by_cases h : k < m
  · simp only [ringTo, mapr_getD _ h, h, true_and]
  · simp only [ringTo, h, false_and, ↓reduceIte]
    rw [getD_out (by simp; omega), getD_out (by rw [hl.1]; omega)]; rfl
theorem gone_or {gone : List Bool} {p : Nat → Bool} (hl : gone.length = n) (hlt : ∀ x, p x = true → x < n) (k : Nat) : (mapr n fun x => gone.getD x false || p x).getD k false = (gone.getD k false || p k) := by
  by_cases h : k < n
  · rw [mapr_getD _ h]
  · rw [getD_out (by simp; omega), getD_out (by omega)]
    cases hp : p k with
    | true => exact absurd (hlt k hp) h
    | false => rfl
/-- One of another ring points as it did. -/
theorem ring_after {S : Stt} (hl : Lens n m S) {p q : Nat → Bool} (hp : IsRing W F n m S p) (hq : IsRing W F n m S q) {y : Nat} (hy : q y = true) (hn : p y = false) :
    sAt W (ringTo W n m S p) y = sAt W S y ∧ nxt W F (ringTo W n m S p) y = nxt W F S y := by
  have hs := hq.sc y hy
  have hnx := hq.nx y hy
  have hno : p (nxt W F S y).toNat = false := by
    cases h : p (nxt W F S y).toNat with
    | false => rfl
    | true => rw [ring_meet hp hq hy h] at hn; cases hn
  have hnh : hits W n S p (sAt W S y).toNat = false := by
    cases h : hits W n S p (sAt W S y).toNat with
    | false => rfl
    | true =>
      obtain ⟨x, hx, e⟩ := (hits_iff hp.lt).1 h
      have e2 : sAt W S x = sAt W S y := by omega
      have e3 : nxt W F S x = nxt W F S y := by unfold nxt; rw [e2]
      rw [← e3, (hp.nx x hx).2] at hno
      cases hno
  have h1 : sAt W (ringTo W n m S p) y = sAt W S y := by
    refine sF_move hs.1 (fun k => by rw [ringTo_room hl]; split <;> omega) ?_
    obtain ⟨i, _, _, h3, _⟩ := sF_some (l := W.getD y []) (room := S.1) hs.1
    rw [ringTo_room hl, if_neg (by rw [show sF (W.getD y []) S.1 = sAt W S y from rfl, hnh]; simp)]
    show 0 < S.1.getD (sF (W.getD y []) S.1).toNat 0 - 0
    omega
  refine ⟨h1, ?_⟩
  unfold nxt
  rw [h1]
  refine bestF_move hnx.1 (fun k hk => ?_) ?_
  · show (mapr n fun x => S.2.1.getD x false || p x).getD k false = true
    rw [gone_or hl.2.1 hp.lt, hk]; rfl
  · show (mapr n fun x => S.2.1.getD x false || p x).getD _ false = false
    rw [gone_or hl.2.1 hp.lt, show bestF (F.getD (sAt W S y).toNat []) S.2.1 = nxt W F S y from rfl, hno, hq.here _ hnx.2]; rfl
def minus (q p : Nat → Bool) (x : Nat) : Bool := q x && !p x
def union (p q : Nat → Bool) (x : Nat) : Bool := p x || q x
theorem rings {S : Stt} (hl : Lens n m S) {p q : Nat → Bool} (hp : IsRing W F n m S p) (hq : IsRing W F n m S q) : ringTo W n m S p = ringTo W n m S (union p q) ∨ Mv W F n m (ringTo W n m S p) (ringTo W n m S (union p q)) := by
  by_cases he : ∃ y, minus q p y = true
  · right
    have hd : ∀ y, minus q p y = true → q y = true ∧ p y = false := fun y h => by simpa [minus] using h
    have hr : IsRing W F n m (ringTo W n m S p) (minus q p) := by
      refine ⟨fun x hx => hq.lt x (hd x hx).1, fun x hx => ?_, fun x hx => ?_, fun x hx => ?_, fun x y hx hy e => ?_⟩
      · show (mapr n fun x => S.2.1.getD x false || p x).getD x false = false
        rw [gone_or hl.2.1 hp.lt, (hd x hx).2, hq.here x (hd x hx).1]; rfl
      · rw [(ring_after hl hp hq (hd x hx).1 (hd x hx).2).1]; exact hq.sc x (hd x hx).1
      · rw [(ring_after hl hp hq (hd x hx).1 (hd x hx).2).2]
        have h1 := hq.nx x (hd x hx).1
        refine ⟨h1.1, ?_⟩
        unfold minus
        rw [h1.2]
        cases h : p (nxt W F S x).toNat with
        | false => rfl
        | true => have := ring_meet hp hq (hd x hx).1 h; rw [(hd x hx).2] at this; cases this
      · rw [(ring_after hl hp hq (hd x hx).1 (hd x hx).2).2, (ring_after hl hp hq (hd y hy).1 (hd y hy).2).2] at e
        exact hq.inj x y (hd x hx).1 (hd y hy).1 e
    have e : ringTo W n m (ringTo W n m S p) (minus q p) = ringTo W n m S (union p q) := by
      have hlu : ∀ x, union p q x = true → x < n := fun x h => by
        simp only [union, Bool.or_eq_true] at h
        rcases h with h | h
        · exact hp.lt x h
        · exact hq.lt x h
      refine Prod.ext ?_ (Prod.ext ?_ ?_)
      · refine mapr_same fun k hk => ?_
        rw [ringTo_room hl]
        have e1 : hits W n S (union p q) k = (hits W n S p k || hits W n (ringTo W n m S p) (minus q p) k) := by
          rw [Bool.eq_iff_iff, Bool.or_eq_true, hits_iff hlu, hits_iff hp.lt, hits_iff hr.lt]
          constructor
          · rintro ⟨x, hx, ex⟩
            by_cases hpx : p x = true
            · exact .inl ⟨x, hpx, ex⟩
            · simp only [union, Bool.or_eq_true] at hx
              have hqx := hx.resolve_left hpx
              exact .inr ⟨x, by simp [minus, hqx, hpx], by rw [(ring_after hl hp hq hqx (by simpa using hpx)).1]; exact ex⟩
          · rintro (⟨x, hx, ex⟩ | ⟨x, hx, ex⟩)
            · exact ⟨x, by simp [union, hx], ex⟩
            · rw [(ring_after hl hp hq (hd x hx).1 (hd x hx).2).1] at ex
              exact ⟨x, by simp [union, (hd x hx).1], ex⟩
        have e2 : hits W n S p k = true → hits W n (ringTo W n m S p) (minus q p) k = true → False := by
          intro h1 h2
          obtain ⟨x, hx, ex⟩ := (hits_iff hp.lt).1 h1
          obtain ⟨y, hy, ey⟩ := (hits_iff hr.lt).1 h2
          rw [(ring_after hl hp hq (hd y hy).1 (hd y hy).2).1] at ey
          have e3 : nxt W F S x = nxt W F S y := by unfold nxt; rw [ex, ey]
          have := ring_meet hp hq (hd y hy).1 (by rw [← e3]; exact (hp.nx x hx).2)
          rw [(hd y hy).2] at this
          cases this
        rw [e1]
        cases h1 : hits W n S p k <;> cases h2 : hits W n (ringTo W n m S p) (minus q p) k <;> simp [hk]
        exact (e2 h1 h2).elim
      · refine mapr_same fun x hx => ?_
        show ((mapr n fun x => S.2.1.getD x false || p x).getD x false || minus q p x) = _
        rw [mapr_getD _ hx]
        unfold minus union
        cases S.2.1.getD x false <;> cases p x <;> cases q x <;> rfl
      · refine mapr_same fun x hx => ?_
        show (if minus q p x = true then sAt W (ringTo W n m S p) x else (mapr n fun x => if p x = true then sAt W S x else S.2.2.getD x 0).getD x 0) = _
        rw [mapr_getD _ hx]
        by_cases h1 : minus q p x = true
        · rw [if_pos h1, (ring_after hl hp hq (hd x h1).1 (hd x h1).2).1, if_pos (by simp [union, (hd x h1).1])]
        · rw [if_neg h1]
          by_cases h2 : p x = true
          · rw [if_pos h2, if_pos (by simp [union, h2])]
          · rw [if_neg h2, if_neg]
            simp [minus, union] at h1 h2 ⊢
            exact ⟨h2, by cases h3 : q x with | false => rfl | true => rw [h1 h3] at h2; cases h2⟩
    rw [← e]
    exact .ring _ he hr
  · left
    have e : union p q = p := funext fun x => by
      unfold union
      cases h1 : p x with
      | true => rfl
      | false =>
        cases h2 : q x with
        | false => rfl
        | true => exact absurd ⟨x, by simp [minus, h1, h2]⟩ he
    rw [e]
theorem drops {S : Stt} (hl : Lens n m S) {p q : Nat → Bool} (hp : IsDrop W n S p) (hq : IsDrop W n S q) : dropTo n S p = dropTo n S (union p q) ∨ Mv W F n m (dropTo n S p) (dropTo n S (union p q)) := by
  by_cases he : ∃ y, minus q p y = true
  · right
    have hd : ∀ y, minus q p y = true → q y = true ∧ p y = false := fun y h => by simpa [minus] using h
    have e : dropTo n (dropTo n S p) (minus q p) = dropTo n S (union p q) := by
      refine Prod.ext rfl (Prod.ext ?_ ?_)
      · refine mapr_same fun x hx => ?_
        show ((mapr n fun x => S.2.1.getD x false || p x).getD x false || minus q p x) = _
        rw [mapr_getD _ hx]
        unfold minus union
        cases S.2.1.getD x false <;> cases p x <;> cases q x <;> rfl
      · refine mapr_same fun x hx => ?_
        show (if minus q p x = true then -1 else (mapr n fun x => if p x = true then -1 else S.2.2.getD x 0).getD x 0) = _
        rw [mapr_getD _ hx]
        unfold minus union
        cases p x <;> cases q x <;> rfl
    rw [← e]
    refine .drop _ he ⟨fun x hx => hq.lt x (hd x hx).1, fun x hx => ?_, fun x hx => hq.no x (hd x hx).1⟩
    show (mapr n fun x => S.2.1.getD x false || p x).getD x false = false
    rw [gone_or hl.2.1 hp.lt, (hd x hx).2, hq.here x (hd x hx).1]; rfl
  · left
    have e : union p q = p := funext fun x => by
      unfold union
      cases h1 : p x with
      | true => rfl
      | false =>
        cases h2 : q x with
        | false => rfl
        | true => exact absurd ⟨x, by simp [minus, h1, h2]⟩ he
    rw [e]
theorem union_comm (p q : Nat → Bool) : union p q = union q p := funext fun x => by unfold union; cases p x <;> cases q x <;> rfl
theorem ring_drop {S : Stt} (hl : Lens n m S) {p q : Nat → Bool} (hep : ∃ x, p x = true) (hp : IsRing W F n m S p) (heq : ∃ x, q x = true) (hq : IsDrop W n S q) :
    ∃ T, Mv W F n m (ringTo W n m S p) T ∧ Mv W F n m (dropTo n S q) T := by
  have apart : ∀ x, p x = true → q x = false := fun x hx => by
    cases h : q x with
    | false => rfl
    | true =>
      have h1 := (hp.sc x hx).1
      have h2 := sF_none (hq.no x h)
      unfold sAt at h1
      omega
  have hs : ∀ x, p x = true → sAt W (dropTo n S q) x = sAt W S x := fun x _ => rfl
  have hn : ∀ x, p x = true → nxt W F (dropTo n S q) x = nxt W F S x := fun x hx => by
    have h1 := hp.nx x hx
    unfold nxt
    rw [hs x hx]
    refine bestF_move h1.1 (fun k hk => ?_) ?_
    · show (mapr n fun x => S.2.1.getD x false || q x).getD k false = true
      rw [gone_or hl.2.1 hq.lt, hk]; rfl
    · show (mapr n fun x => S.2.1.getD x false || q x).getD _ false = false
      rw [gone_or hl.2.1 hq.lt, show bestF (F.getD (sAt W S x).toNat []) S.2.1 = nxt W F S x from rfl, apart _ h1.2, hp.here _ h1.2]; rfl
  have hr : IsRing W F n m (dropTo n S q) p := by
    refine ⟨hp.lt, fun x hx => ?_, hp.sc, fun x hx => by rw [hn x hx]; exact hp.nx x hx, fun x y hx hy e => by rw [hn x hx, hn y hy] at e; exact hp.inj x y hx hy e⟩
    show (mapr n fun x => S.2.1.getD x false || q x).getD x false = false
    rw [gone_or hl.2.1 hq.lt, apart x hx, hp.here x hx]; rfl
  have hd : IsDrop W n (ringTo W n m S p) q := by
    refine ⟨hq.lt, fun x hx => ?_, fun x hx => sI_move (hq.no x hx) fun k => by rw [ringTo_room hl]; split <;> omega⟩
    show (mapr n fun x => S.2.1.getD x false || p x).getD x false = false
    rw [gone_or hl.2.1 hp.lt, hq.here x hx]
    cases h : p x with
    | false => rfl
    | true => have := apart x h; rw [hx] at this; cases this
  have e : dropTo n (ringTo W n m S p) q = ringTo W n m (dropTo n S q) p := by
    refine Prod.ext rfl (Prod.ext ?_ ?_)
    · refine mapr_same fun x hx => ?_
      show ((mapr n fun x => S.2.1.getD x false || p x).getD x false || q x) = ((mapr n fun x => S.2.1.getD x false || q x).getD x false || p x)
      rw [mapr_getD _ hx, mapr_getD _ hx]
      cases S.2.1.getD x false <;> cases p x <;> cases q x <;> rfl
    · refine mapr_same fun x hx => ?_
      show (if q x = true then -1 else (mapr n fun x => if p x = true then sAt W S x else S.2.2.getD x 0).getD x 0) = if p x = true then sAt W S x else (mapr n fun x => if q x = true then -1 else S.2.2.getD x 0).getD x 0
      rw [mapr_getD _ hx, mapr_getD _ hx]
      cases h1 : p x with
      | false => cases q x <;> rfl
      | true => rw [apart x h1]; rfl
  exact ⟨_, .drop q heq hd, by rw [e]; exact .ring p hep hr⟩
theorem mv_dia {S A B : Stt} (hl : Lens n m S) (ha : Mv W F n m S A) (hb : Mv W F n m S B) : ∃ X, (A = X ∨ Mv W F n m A X) ∧ (B = X ∨ Mv W F n m B X) := by
  cases ha with
  | ring p hep hp =>
    cases hb with
    | ring q heq hq => exact ⟨_, rings hl hp hq, by rw [union_comm]; exact rings hl hq hp⟩
    | drop q heq hq =>
      obtain ⟨T, h1, h2⟩ := ring_drop hl hep hp heq hq
      exact ⟨T, .inr h1, .inr h2⟩
  | drop p hep hp =>
    cases hb with
    | ring q heq hq =>
      obtain ⟨T, h1, h2⟩ := ring_drop hl heq hq hep hp
      exact ⟨T, .inr h2, .inr h1⟩
    | drop q heq hq => exact ⟨_, drops hl hp hq, by rw [union_comm]; exact drops hl hq hp⟩
def AllGone (n : Nat) (S : Stt) : Prop := ∀ x, x < n → S.2.1.getD x false = true
theorem AllGone.stop {S : Stt} (h : AllGone n S) (T : Stt) : ¬ Mv W F n m S T := fun hm => by
  cases hm with
  | ring p he hp => obtain ⟨x, hx⟩ := he; have h1 := hp.here x hx; rw [h x (hp.lt x hx)] at h1; cases h1
  | drop p he hp => obtain ⟨x, hx⟩ := he; have h1 := hp.here x hx; rw [h x (hp.lt x hx)] at h1; cases h1
theorem mv_one {S A B : Stt} (hl : Lens n m S) (ha : Star (Mv W F n m) S A) (hb : Star (Mv W F n m) S B) (hA : AllGone n A) (hB : AllGone n B) : A = B :=
  one_end (Q := Lens n m) (μ := fun S => leftN n S.2.1) (fun s t hs h => h.lens hs) (fun s t _ h => h.less) (fun s a b hs h1 h2 => mv_dia hs h1 h2) _ S A B (Nat.le_refl _) hl ha hb hA.stop hB.stop
theorem star_lens {S T : Stt} (h : Star (Mv W F n m) S T) (hl : Lens n m S) : Lens n m T := by
  induction h with
  | refl s => exact hl
  | step h r ih => exact ih (h.lens hl)
/-- What all get in the end. -/
noncomputable def endF (W F : List (List Int)) (n m : Nat) (S : Stt) : List Int := open Classical in if h : ∃ T, Star (Mv W F n m) S T ∧ AllGone n T then (Classical.choose h).2.2 else []
theorem endF_of {S T : Stt} (hl : Lens n m S) (h : Star (Mv W F n m) S T) (hT : AllGone n T) : T.2.2 = endF W F n m S := by
  unfold endF
  have hex : ∃ T, Star (Mv W F n m) S T ∧ AllGone n T := ⟨T, h, hT⟩
  rw [dif_pos hex]
  have h1 := Classical.choose_spec hex
  rw [mv_one hl h h1.1 hT h1.2]
end sys

/-! ### The ring that a way of n steps leads into; all that come back to themselves -/
def orb (f : Nat → Nat) (n i t x : Nat) : Bool := (List.range t).any fun j => iter f (n + j) i == x
theorem orb_iff {f : Nat → Nat} {n i t x : Nat} : orb f n i t x = true ↔ ∃ j, j < t ∧ iter f (n + j) i = x := by
  unfold orb
  rw [List.any_eq_true]
  constructor
  · rintro ⟨j, hj, e⟩
    exact ⟨j, List.mem_range.1 hj, by simpa using e⟩
  · rintro ⟨j, hj, e⟩
    exact ⟨j, List.mem_range.2 hj, by simpa using e⟩
def ringI (N : List Nat) : List Int := N.map fun (x : Nat) => (x : Int)
def orbM (f : Nat → Nat) (n i t : Nat) : List Nat := mapr t fun j => iter f (n + j) i
def orbL (f : Nat → Nat) (n i t : Nat) : List Int := ringI (orbM f n i t)
def orbN (f : Nat → Nat) (n i t : Nat) : Prop := ∀ a b, a < t → b < t → iter f (n + a) i = iter f (n + b) i → a = b
theorem placeF_mem {l : List Int} {x : Int} : 0 ≤ placeF l x ↔ x ∈ l := by
  unfold placeF
  cases e : firstI (fun i => decide (l.getD i 0 = x)) l.length with
  | some i =>
    have h := firstI_spec e
    simp only [decide_eq_true_eq] at h
    refine ⟨fun _ => ?_, fun _ => by simp⟩
    rw [← h.2.1]; exact getD_mem 0 h.1
  | none =>
    have h := firstI_none e
    simp only [decide_eq_false_iff_not] at h
    refine ⟨fun c => absurd c (by simp), fun hm => ?_⟩
    obtain ⟨j, hj, hx⟩ := List.getElem_of_mem hm
    exact absurd (by rw [List.getD_eq_getElem?_getD, List.getElem?_eq_getElem hj]; exact hx) (h j hj)
theorem orbL_mem {f : Nat → Nat} {n i t x : Nat} : (x : Int) ∈ orbL f n i t ↔ orb f n i t x = true := by
  rw [orb_iff]
  unfold orbL orbM ringI mapr
  rw [List.mem_map]
  constructor
  · rintro ⟨y, hy, e⟩
    obtain ⟨j, hj, e2⟩ := List.mem_map.1 hy
    exact ⟨j, List.mem_range.1 hj, by omega⟩
  · rintro ⟨j, hj, e⟩
    exact ⟨x, List.mem_map.2 ⟨j, List.mem_range.2 hj, e⟩, rfl⟩
theorem orbM_mem {f : Nat → Nat} {n i t x : Nat} : x ∈ orbM f n i t ↔ orb f n i t x = true := by
  rw [← orbL_mem]
  unfold orbL ringI
  rw [List.mem_map]
  exact ⟨fun h => ⟨x, h, rfl⟩, fun ⟨y, hy, e⟩ => by rw [show x = y by omega]; exact hy⟩
@[simp] theorem orbM_length (f : Nat → Nat) (n i t : Nat) : (orbM f n i t).length = t := by simp [orbM]
@[simp] theorem ringI_length (N : List Nat) : (ringI N).length = N.length := by simp [ringI]
@[simp] theorem orbL_length (f : Nat → Nat) (n i t : Nat) : (orbL f n i t).length = t := by simp [orbL]
theorem ringI_getD {N : List Nat} {j : Nat} (h : j < N.length) : (ringI N).getD j 0 = ((N.getD j 0 : Nat) : Int) := by
  unfold ringI; simp [List.getD_eq_getElem?_getD, h]
theorem ringI_snoc (N : List Nat) (x : Nat) : ringI N ++ [(x : Int)] = ringI (N ++ [x]) := by simp [ringI]
theorem orbM_succ (f : Nat → Nat) (n i t : Nat) : orbM f n i t ++ [iter f (n + t) i] = orbM f n i (t + 1) := (mapr_succ t _).symm
theorem orbN_succ {f : Nat → Nat} {n i t : Nat} (h : orbN f n i t) (hn : orb f n i t (iter f (n + t) i) = false) : orbN f n i (t + 1) := by
  have hne : ∀ j, j < t → iter f (n + j) i ≠ iter f (n + t) i := fun j hj e => by
    rw [orb_iff.2 ⟨j, hj, e⟩] at hn; cases hn
  intro a b ha hb e
  rcases Nat.lt_or_ge a t with h1 | h1 <;> rcases Nat.lt_or_ge b t with h2 | h2
  · exact h a b h1 h2 e
  · obtain rfl : b = t := by omega
    exact absurd e (hne a h1)
  · obtain rfl : a = t := by omega
    exact absurd e.symm (hne b h2)
  · omega
theorem orbN_le {f : Nat → Nat} {n i t : Nat} (h : orbN f n i t) (hlt : ∀ j, iter f j i < n) : t ≤ n := by
  have := nodup_lt (n := n) (l := (List.range t).map fun j => iter f (n + j) i) (nodup_map_on List.nodup_range fun x y hx hy => h x y (List.mem_range.1 hx) (List.mem_range.1 hy)) fun x hx => by
    obtain ⟨j, _, rfl⟩ := List.mem_map.1 hx
    exact hlt _
  simpa using this
theorem orb_close {f : Nat → Nat} {n i t : Nat} (hlt : ∀ j, iter f j i < n) (hN : orbN f n i t) (hin : orb f n i t (iter f (n + t) i) = true) :
    0 < t ∧ (∀ x, orb f n i t x = true → orb f n i t (f x) = true) ∧ ∀ x y, orb f n i t x = true → orb f n i t y = true → f x = f y → x = y := by
  obtain ⟨j, hj, e⟩ := orb_iff.1 hin
  obtain ⟨u, hu1, hu2, hu⟩ := iter_back (f := f) (i := i) (n := n) fun j _ => hlt j
  have e0 : iter f t (iter f n i) = iter f j (iter f n i) := by rw [← iter_add, ← iter_add]; exact e.symm
  have h1 := iter_first hu1 hu hj e0
  have hj0 : j = 0 := by
    have h2 : iter f (n + (t - j)) i = iter f (n + 0) i := by rw [iter_add, h1]; rfl
    rcases Nat.eq_zero_or_pos j with h | h
    · exact h
    · have := hN (t - j) 0 (by omega) (by omega) h2
      omega
  subst hj0
  have hback : iter f (n + t) i = iter f n i := e.symm
  refine ⟨hj, fun x hx => ?_, fun x y hx hy e2 => ?_⟩
  · obtain ⟨a, ha, rfl⟩ := orb_iff.1 hx
    rcases Nat.lt_or_ge (a + 1) t with h2 | h2
    · exact orb_iff.2 ⟨a + 1, h2, rfl⟩
    · exact orb_iff.2 ⟨0, hj, by obtain rfl : a + 1 = t := by omega
                                 exact hback.symm⟩
  · obtain ⟨a, ha, rfl⟩ := orb_iff.1 hx
    obtain ⟨b, hb, rfl⟩ := orb_iff.1 hy
    have e3 : iter f (n + (a + 1)) i = iter f (n + (b + 1)) i := e2
    rcases Nat.lt_or_ge (a + 1) t with h2 | h2 <;> rcases Nat.lt_or_ge (b + 1) t with h3 | h3
    · have := hN _ _ h2 h3 e3
      rw [show a = b by omega]
    · obtain rfl : t = b + 1 := by omega
      rw [hback] at e3
      have := hN (a + 1) 0 h2 hj e3
      omega
    · obtain rfl : t = a + 1 := by omega
      rw [hback] at e3
      have := hN 0 (b + 1) hj h3 e3
      omega
    · rw [show a = b by omega]
/-- Who comes back to itself within n + 1 steps. -/
def cyc (f : Nat → Nat) (n : Nat) (gone : List Bool) (x : Nat) : Bool := decide (x < n) && !gone.getD x false && (List.range (n + 1)).any fun j => iter f (j + 1) x == x
theorem cyc_iff {f : Nat → Nat} {n : Nat} {gone : List Bool} {x : Nat} : cyc f n gone x = true ↔ x < n ∧ gone.getD x false = false ∧ ∃ j, j ≤ n ∧ iter f (j + 1) x = x := by
  unfold cyc
  rw [Bool.and_eq_true, Bool.and_eq_true, List.any_eq_true]
  simp only [decide_eq_true_eq, Bool.not_eq_true', and_assoc]
  refine and_congr_right fun _ => and_congr_right fun _ => ?_
  constructor
  · rintro ⟨j, hj, e⟩
    exact ⟨j, by have := List.mem_range.1 hj; omega, by simpa using e⟩
  · rintro ⟨j, hj, e⟩
    exact ⟨j, List.mem_range.2 (by omega), by simpa using e⟩
theorem iter_comm {f : Nat → Nat} (x : Nat) : ∀ k, iter f k (f x) = f (iter f k x)
  | 0 => rfl
  | k + 1 => by simp only [iter, iter_comm x k]
theorem cyc_inj {f : Nat → Nat} {x y a b : Nat} (hx : iter f (a + 1) x = x) (hy : iter f (b + 1) y = y) (e : f x = f y) : x = y := by
  have h1 := iter_mul hx (b + 1)
  have h2 := iter_mul hy (a + 1)
  rw [Nat.mul_comm] at h2
  obtain ⟨k, hk⟩ : ∃ k, (b + 1) * (a + 1) = k + 1 := ⟨(b + 1) * (a + 1) - 1, by have := Nat.mul_pos (Nat.succ_pos b) (Nat.succ_pos a); simp only [Nat.succ_eq_add_one] at this; omega⟩
  rw [hk] at h1 h2
  simp only [iter] at h1 h2
  rw [← iter_comm (f := f) x k, e, iter_comm (f := f) y k, h2] at h1
  exact h1.symm
theorem cyc_close {f : Nat → Nat} {n : Nat} {gone : List Bool} (hf : ∀ x, x < n → gone.getD x false = false → f x < n ∧ gone.getD (f x) false = false) :
    (∀ x, cyc f n gone x = true → cyc f n gone (f x) = true) ∧ (∀ x y, cyc f n gone x = true → cyc f n gone y = true → f x = f y → x = y) := by
  refine ⟨fun x hx => ?_, fun x y hx hy e => ?_⟩
  · obtain ⟨h1, h2, j, hj, e⟩ := cyc_iff.1 hx
    have := hf x h1 h2
    exact cyc_iff.2 ⟨this.1, this.2, j, hj, by rw [iter_comm, e]⟩
  · obtain ⟨_, _, j, _, e1⟩ := cyc_iff.1 hx
    obtain ⟨_, _, k, _, e2⟩ := cyc_iff.1 hy
    exact cyc_inj e1 e2 e
theorem iter_in {f : Nat → Nat} {n : Nat} {gone : List Bool} (hf : ∀ x, x < n → gone.getD x false = false → f x < n ∧ gone.getD (f x) false = false) {i : Nat} (hi : i < n) (hg : gone.getD i false = false) : ∀ j, iter f j i < n ∧ gone.getD (iter f j i) false = false
  | 0 => ⟨hi, hg⟩
  | j + 1 => hf _ (iter_in hf hi hg j).1 (iter_in hf hi hg j).2
theorem cyc_some {f : Nat → Nat} {n : Nat} {gone : List Bool} (hf : ∀ x, x < n → gone.getD x false = false → f x < n ∧ gone.getD (f x) false = false) {i : Nat} (hi : i < n) (hg : gone.getD i false = false) : ∃ x, cyc f n gone x = true := by
  obtain ⟨u, hu1, hu2, hu⟩ := iter_back (f := f) (i := i) (n := n) fun j _ => (iter_in hf hi hg j).1
  refine ⟨iter f n i, cyc_iff.2 ⟨(iter_in hf hi hg n).1, (iter_in hf hi hg n).2, u - 1, by omega, ?_⟩⟩
  rw [show u - 1 + 1 = u by omega]; exact hu

/-! ### Traders: each thing is a school with room for one, whose only pupil is its owner -/
def Fi (n : Nat) : List (List Int) := mapr n fun k => [((k : Nat) : Int)]
def roomOf (n : Nat) (gone : List Bool) : List Int := mapr n fun k => if gone.getD k false then 0 else 1
/-- Whom one points at. -/
def fR (W : List (List Int)) (gone : List Bool) (x : Nat) : Nat := (bestF (W.getD x []) gone).toNat
theorem someE_in {n : Int} {l : List Int} (h : someE n l = 0) {j : Nat} (hj : j < l.length) : 0 ≤ l.getD j 0 ∧ l.getD j 0 < n := by
  have h1 := firstE_zero h j hj
  unfold someB at h1
  split at h1 <;> omega
theorem ord_some {n : Int} {l : List Int} (h : ordE n l = 0) : (l.length : Int) = n ∧ someE n l = 0 := by
  unfold ordE at h
  split at h
  · omega
  · rename_i h1; exact ⟨by omega, h⟩
theorem some_inj {n : Int} {l : List Int} (h : someE n l = 0) {i j : Nat} (hi : i < l.length) (hj : j < l.length) (e : l.getD i 0 = l.getD j 0) : i = j := by
  have key : ∀ i j, i < j → j < l.length → l.getD i 0 ≠ l.getD j 0 := by
    intro i j hij hj e
    have h1 := firstE_zero h j hj
    unfold someB at h1
    split at h1
    · omega
    · split at h1
      · omega
      · rename_i h2
        have h3 : placeF l (l.getD j 0) ≤ i := by
          unfold placeF
          cases hf : firstI (fun k => decide (l.getD k 0 = l.getD j 0)) l.length with
          | none => simp only; omega
          | some k =>
            have h4 := firstI_spec hf
            simp only
            rcases Nat.lt_or_ge i k with h5 | h5
            · have := h4.2.2 i h5
              simp only [decide_eq_false_iff_not] at this
              exact absurd e this
            · omega
        omega
  rcases Nat.lt_trichotomy i j with h1 | h1 | h1
  · exact absurd e (key i j h1 hj)
  · exact h1
  · exact absurd e.symm (key j i h1 hi)
theorem ord_ins {n : Nat} {l : List Int} (h : ordE n l = 0) : Ins n l := fun x hx => by
  obtain ⟨j, hj, rfl⟩ := List.getElem_of_mem hx
  have := someE_in (ord_some h).2 hj
  rwa [List.getD_eq_getElem?_getD, List.getElem?_eq_getElem hj] at this
/-- Each of n is in an order of n. -/
theorem ord_has {n : Nat} {l : List Int} (h : ordE n l = 0) {v : Nat} (hv : v < n) : ∃ j, j < l.length ∧ l.getD j 0 = (v : Int) := by
  have h1 := ord_some h
  have hl : l.length = n := by omega
  obtain ⟨j, hj, e⟩ := onto_of (n := n) (p := fun x => decide (x < n)) (f := fun x => (l.getD x 0).toNat) (fun x hx => by simpa using hx) (fun x hx => by
      have := someE_in h1.2 (show x < l.length by rw [hl]; simpa using hx)
      simp only [decide_eq_true_eq]; omega) (fun x y hx hy e => by
      have hx := someE_in h1.2 (show x < l.length by rw [hl]; simpa using hx)
      have hy := someE_in h1.2 (show y < l.length by rw [hl]; simpa using hy)
      exact some_inj h1.2 (by rw [hl]; simpa using ‹decide (x < n) = true›) (by rw [hl]; simpa using ‹decide (y < n) = true›) (by omega)) (y := v) (by simpa using hv)
  have hj' : j < l.length := by rw [hl]; simpa using hj
  have := someE_in h1.2 hj'
  exact ⟨j, hj', by omega⟩
theorem best_good {n : Nat} {l : List Int} {gone : List Bool} (h : ordE n l = 0) {v : Nat} (hv : v < n) (hg : gone.getD v false = false) : 0 ≤ bestF l gone ∧ bestF l gone < n ∧ gone.getD (bestF l gone).toNat false = false := by
  obtain ⟨j, hj, e⟩ := ord_has h hv
  cases hb : bestI l gone with
  | none =>
    have := firstI_none hb j hj
    rw [e] at this
    simp only [Int.toNat_natCast, hg] at this
    cases this
  | some i =>
    have h2 := firstI_spec hb
    rw [bestF_of hb]
    have := someE_in (ord_some h).2 h2.1
    exact ⟨this.1, this.2, by simpa using h2.2.1⟩
theorem fR_good {W : List (List Int)} {gone : List Bool} (hW : mayE W = 0) {x : Nat} (hx : x < W.length) (hg : gone.getD x false = false) : fR W gone x < W.length ∧ gone.getD (fR W gone x) false = false ∧ bestF (W.getD x []) gone = (fR W gone x : Nat) := by
  have := best_good (mayE_row hW hx) hx hg
  unfold fR
  exact ⟨by omega, this.2.2, by omega⟩
theorem inst_sAt {W : List (List Int)} {gone : List Bool} {got : List Int} (hW : mayE W = 0) {x : Nat} (hx : x < W.length) : sAt W (roomOf W.length gone, gone, got) x = bestF (W.getD x []) gone := by
  unfold sAt sF bestF bestI
  have e : firstI (fun i => decide (0 < (roomOf W.length gone).getD ((W.getD x []).getD i 0).toNat 0)) (W.getD x []).length = firstI (fun i => !gone.getD ((W.getD x []).getD i 0).toNat false) (W.getD x []).length := by
    refine firstI_same fun j hj => ?_
    have h1 := (ord_ins (mayE_row hW hx)).at hj
    unfold roomOf
    rw [mapr_getD _ (by omega)]
    cases gone.getD ((W.getD x []).getD j 0).toNat false <;> rfl
  simp only [e]
theorem inst_nxt {W : List (List Int)} {gone : List Bool} {got : List Int} (hW : mayE W = 0) {x : Nat} (hx : x < W.length) (hg : gone.getD x false = false) : nxt W (Fi W.length) (roomOf W.length gone, gone, got) x = bestF (W.getD x []) gone := by
  have h1 := best_good (gone := gone) (mayE_row hW hx) hx hg
  unfold nxt
  rw [inst_sAt hW hx]
  unfold Fi
  rw [mapr_getD _ (by omega)]
  have e : bestI [(((bestF (W.getD x []) gone).toNat : Nat) : Int)] gone = some 0 := firstI_stop rfl (by
    show (!gone.getD (((bestF (W.getD x []) gone).toNat : Nat) : Int).toNat false) = true
    rw [Int.toNat_natCast, h1.2.2]; rfl) (by simp)
  rw [bestF_of e]
  show (((bestF (W.getD x []) gone).toNat : Nat) : Int) = _
  omega
def goneTo (n : Nat) (gone : List Bool) (p : Nat → Bool) : List Bool := mapr n fun x => gone.getD x false || p x
def gotTo (W : List (List Int)) (gone : List Bool) (got : List Int) (p : Nat → Bool) : List Int := mapr W.length fun x => if p x then bestF (W.getD x []) gone else got.getD x 0
/-- A ring of traders. -/
theorem trade_mv {W : List (List Int)} {gone : List Bool} {got : List Int} {p : Nat → Bool} (hW : mayE W = 0) (hl : gone.length = W.length) (he : ∃ x, p x = true) (hlt : ∀ x, p x = true → x < W.length ∧ gone.getD x false = false)
    (hf : ∀ x, p x = true → p (fR W gone x) = true) (hi : ∀ x y, p x = true → p y = true → fR W gone x = fR W gone y → x = y) :
    Mv W (Fi W.length) W.length W.length (roomOf W.length gone, gone, got) (roomOf W.length (goneTo W.length gone p), goneTo W.length gone p, gotTo W gone got p) := by
  have hs : ∀ x, p x = true → sAt W (roomOf W.length gone, gone, got) x = ((fR W gone x : Nat) : Int) := fun x hx => by rw [inst_sAt hW (hlt x hx).1]; exact (fR_good hW (hlt x hx).1 (hlt x hx).2).2.2
  have hn : ∀ x, p x = true → nxt W (Fi W.length) (roomOf W.length gone, gone, got) x = ((fR W gone x : Nat) : Int) := fun x hx => by rw [inst_nxt hW (hlt x hx).1 (hlt x hx).2]; exact (fR_good hW (hlt x hx).1 (hlt x hx).2).2.2
  have hr : IsRing W (Fi W.length) W.length W.length (roomOf W.length gone, gone, got) p := by
    refine ⟨fun x hx => (hlt x hx).1, fun x hx => (hlt x hx).2, fun x hx => ?_, fun x hx => ?_, fun x y hx hy e => ?_⟩
    · rw [hs x hx]
      have := (fR_good hW (hlt x hx).1 (hlt x hx).2).1
      omega
    · rw [hn x hx]
      exact ⟨by omega, by rw [Int.toNat_natCast]; exact hf x hx⟩
    · rw [hn x hx, hn y hy] at e
      exact hi x y hx hy (by omega)
  have e : ringTo W W.length W.length (roomOf W.length gone, gone, got) p = (roomOf W.length (goneTo W.length gone p), goneTo W.length gone p, gotTo W gone got p) := by
    refine Prod.ext ?_ (Prod.ext rfl ?_)
    · refine mapr_same fun k hk => ?_
      show (roomOf W.length gone).getD k 0 - _ = _
      unfold roomOf goneTo
      rw [mapr_getD _ hk, mapr_getD _ hk]
      have hh : hits W W.length (roomOf W.length gone, gone, got) p k = p k := by
        rw [Bool.eq_iff_iff, hits_iff fun x hx => (hlt x hx).1]
        constructor
        · rintro ⟨x, hx, ex⟩
          rw [hs x hx] at ex
          have : fR W gone x = k := by omega
          rw [← this]; exact hf x hx
        · intro hk'
          obtain ⟨x, hx, ex⟩ := onto_of (fun x hx => (hlt x hx).1) hf hi hk'
          exact ⟨x, hx, by rw [hs x hx, ex]⟩
      have hh' : hits W W.length (mapr W.length fun k => if gone.getD k false = true then 0 else 1, gone, got) p k = p k := hh
      simp only [hh']
      cases hp : p k with
      | true => rw [(hlt k hp).2]; rfl
      | false => cases gone.getD k false <;> rfl
    · refine mapr_same fun x hx => ?_
      by_cases hp : p x = true
      · rw [if_pos hp, if_pos hp, inst_sAt hW hx]
      · rw [if_neg hp, if_neg hp]
  rw [← e]
  exact .ring p he hr
/-- What Rounds gives. -/
noncomputable def roundsF (W : List (List Int)) : List Int := endF W (Fi W.length) W.length W.length (roomOf W.length (List.replicate W.length false), List.replicate W.length false, List.replicate W.length 0)
def RStar (W : List (List Int)) (gone : List Bool) (got : List Int) : Prop := gone.length = W.length ∧ got.length = W.length ∧ Star (Mv W (Fi W.length) W.length W.length) (roomOf W.length (List.replicate W.length false), List.replicate W.length false, List.replicate W.length 0) (roomOf W.length gone, gone, got)
theorem RStar.start (W : List (List Int)) : RStar W (List.replicate W.length false) (List.replicate W.length 0) := ⟨by simp, by simp, .refl _⟩
theorem RStar.done {W : List (List Int)} {gone : List Bool} {got : List Int} (h : RStar W gone got) (ha : ∀ x, x < W.length → gone.getD x false = true) : got = roundsF W :=
  endF_of (T := (roomOf W.length gone, gone, got)) ⟨by simp [roomOf], by simp, by simp⟩ h.2.2 ha
theorem RStar.ring {W : List (List Int)} {gone : List Bool} {got : List Int} {p : Nat → Bool} (h : RStar W gone got) (hW : mayE W = 0) (he : ∃ x, p x = true) (hlt : ∀ x, p x = true → x < W.length ∧ gone.getD x false = false)
    (hf : ∀ x, p x = true → p (fR W gone x) = true) (hi : ∀ x y, p x = true → p y = true → fR W gone x = fR W gone y → x = y) : RStar W (goneTo W.length gone p) (gotTo W gone got p) :=
  ⟨by simp [goneTo], by simp [gotTo], h.2.2.snoc (trade_mv hW h.1 he hlt hf hi)⟩
theorem idxB_some {gone : List Bool} (h : 0 ≤ idxB gone false) : (idxB gone false).toNat < gone.length ∧ gone.getD (idxB gone false).toNat false = false := by
  unfold idxB at h ⊢
  cases e : firstI (fun i => decide (gone.getD i false = false)) gone.length with
  | none => rw [e] at h; simp only at h; omega
  | some i =>
    have := firstI_spec e
    exact ⟨by simpa using this.1, by simpa using this.2.1⟩
theorem idxB_none {gone : List Bool} (h : ¬ 0 ≤ idxB gone false) : ∀ x, x < gone.length → gone.getD x false = true := by
  unfold idxB at h
  cases e : firstI (fun i => decide (gone.getD i false = false)) gone.length with
  | none => intro x hx; have := firstI_none e x hx; simpa using this
  | some i => rw [e] at h; simp only at h; omega
theorem leftN_zero {n : Nat} {gone : List Bool} : leftN n gone = 0 ↔ ∀ x, x < n → gone.getD x false = true := by
  unfold leftN
  rw [List.length_eq_zero_iff, List.filter_eq_nil_iff]
  constructor
  · intro h x hx
    have := h x (List.mem_range.2 hx)
    simpa using this
  · intro h x hx
    rw [h x (List.mem_range.1 hx)]; simp

def sel (N : List Nat) (j x : Nat) : Bool := (N.take j).contains x
theorem sel_zero {N : List Nat} {x : Nat} : sel N 0 x = false := by simp [sel]
theorem sel_all {N : List Nat} {x : Nat} : sel N N.length x = true ↔ x ∈ N := by simp [sel]
theorem sel_succ {N : List Nat} {j x : Nat} (h : j < N.length) : sel N (j + 1) x = (sel N j x || x == N.getD j 0) := by
  have e : N.take (j + 1) = N.take j ++ [N.getD j 0] := by rw [List.take_succ_eq_append_getElem h]; simp [List.getD_eq_getElem?_getD, h]
  unfold sel
  rw [e, List.contains_eq_mem, List.contains_eq_mem, Bool.eq_iff_iff]
  simp
theorem natD_mem {N : List Nat} {j : Nat} (h : j < N.length) : N.getD j 0 ∈ N := by
  rw [List.getD_eq_getElem?_getD, List.getElem?_eq_getElem h]; exact List.getElem_mem h
theorem gotTo_zero {W : List (List Int)} {gone : List Bool} {got : List Int} {N : List Nat} (h : got.length = W.length) : got = gotTo W gone got (sel N 0) := by
  refine list_ext (d := 0) (by simp [gotTo, h]) fun k hk => ?_
  unfold gotTo
  rw [mapr_getD _ (by omega), sel_zero]; rfl
theorem goneTo_zero {n : Nat} {gone : List Bool} {N : List Nat} (h : gone.length = n) : gone = goneTo n gone (sel N 0) := by
  refine list_ext (d := false) (by simp [goneTo, h]) fun k hk => ?_
  unfold goneTo
  rw [mapr_getD _ (by omega), sel_zero]; simp
theorem gotTo_set {W : List (List Int)} {gone : List Bool} {got : List Int} {N : List Nat} {j : Nat} (hj : j < N.length) : (gotTo W gone got (sel N j)).set (N.getD j 0) (bestF (W.getD (N.getD j 0) []) gone) = gotTo W gone got (sel N (j + 1)) := by
  refine mapr_set (fun _ => ?_) fun x hx hne => ?_
  · simp only [sel_succ hj, beq_self_eq_true, Bool.or_true, ↓reduceIte]
  · simp only [sel_succ hj, beq_eq_false_iff_ne.2 hne, Bool.or_false]
theorem goneTo_set {n : Nat} {gone : List Bool} {N : List Nat} {j : Nat} (hj : j < N.length) : (goneTo n gone (sel N j)).set (N.getD j 0) true = goneTo n gone (sel N (j + 1)) := by
  refine mapr_set (fun _ => ?_) fun x hx hne => ?_
  · simp only [sel_succ hj, beq_self_eq_true, Bool.or_true]
  · simp only [sel_succ hj, beq_eq_false_iff_ne.2 hne, Bool.or_false]
theorem goneTo_at {n : Nat} {gone : List Bool} {p : Nat → Bool} {x : Nat} (h : x < n) : (goneTo n gone p).getD x false = (gone.getD x false || p x) := by unfold goneTo; rw [mapr_getD _ h]
/-- How many are left goes down with each one. -/
theorem leftN_sel {n : Nat} {gone : List Bool} {N : List Nat} (hd : N.Nodup) (hN : ∀ x, x ∈ N → x < n ∧ gone.getD x false = false) : ∀ j, j ≤ N.length → leftN n (goneTo n gone (sel N j)) + j = leftN n gone
  | 0, _ => by
    have e : ∀ x, x ∈ List.range n → (!(goneTo n gone (sel N 0)).getD x false) = !gone.getD x false := fun x hx => by rw [goneTo_at (List.mem_range.1 hx), sel_zero, Bool.or_false]
    unfold leftN
    rw [List.filter_congr e]; rfl
  | j + 1, hj => by
    have ih := leftN_sel hd hN j (by omega)
    have hx := hN _ (natD_mem (show j < N.length by omega))
    have hns : sel N j (N.getD j 0) = false := by
      cases h : sel N j (N.getD j 0) with
      | false => rfl
      | true =>
        have h1 : N.getD j 0 ∈ N.take j := by simpa [sel] using h
        obtain ⟨k, hk, e⟩ := List.getElem_of_mem h1
        rw [List.getElem_take] at e
        rw [List.getD_eq_getElem?_getD, List.getElem?_eq_getElem (show j < N.length by omega), Option.getD_some] at e
        simp at hk
        have := (List.pairwise_iff_getElem.1 hd) k j (by omega) (by omega) (by omega)
        exact absurd e this
    have key : ∀ (l : List Nat) (x : Nat) (p q : Nat → Bool), l.Nodup → x ∈ l → p x = true → q x = false → (∀ y, y ≠ x → q y = p y) → (l.filter q).length + 1 = (l.filter p).length := by
      intro l x p q hl
      induction l with
      | nil => intro h; simp at h
      | cons a l ih =>
        intro hx hp hq hs
        have hal := List.nodup_cons.1 hl
        rcases List.mem_cons.1 hx with rfl | hx
        · have e : l.filter q = l.filter p := List.filter_congr fun y hy => hs y fun e => hal.1 (e ▸ hy)
          simp [List.filter_cons, hp, hq, e]
        · have := ih hal.2 hx hp hq hs
          have hne : a ≠ x := fun e => hal.1 (e ▸ hx)
          simp only [List.filter_cons, hs a hne]
          split <;> (try simp only [List.length_cons]) <;> omega
    have := key (List.range n) (N.getD j 0) (fun x => !(goneTo n gone (sel N j)).getD x false) (fun x => !(goneTo n gone (sel N (j + 1))).getD x false) List.nodup_range (List.mem_range.2 hx.1) (by
        show (!(goneTo n gone (sel N j)).getD (N.getD j 0) false) = true
        rw [goneTo_at hx.1, hx.2, hns]; rfl) (by
        show (!(goneTo n gone (sel N (j + 1))).getD (N.getD j 0) false) = false
        rw [goneTo_at hx.1, sel_succ (show j < N.length by omega)]; simp) fun y hy => by
        show (!(goneTo n gone (sel N (j + 1))).getD y false) = !(goneTo n gone (sel N j)).getD y false
        rw [← goneTo_set (show j < N.length by omega)]
        rw [List.getD_eq_getElem?_getD, List.getElem?_set_ne (fun e => hy e.symm), ← List.getD_eq_getElem?_getD]
    show ((List.range n).filter fun x => !(goneTo n gone (sel N (j + 1))).getD x false).length + (j + 1) = _
    unfold leftN at ih ⊢
    omega
theorem leftN_full (n : Nat) : leftN n (List.replicate n false) = n := by
  unfold leftN
  have : ∀ x, x ∈ List.range n → (!(List.replicate n false).getD x false) = true := fun x hx => by simp [List.getD_eq_getElem?_getD, List.mem_range.1 hx]
  rw [List.filter_eq_self.2 this]; simp
def cycN (f : Nat → Nat) (n : Nat) (gone : List Bool) (i : Nat) : List Nat := (List.range i).filter (cyc f n gone)
theorem cycN_yes {f : Nat → Nat} {n : Nat} {gone : List Bool} {i : Nat} (h : cyc f n gone i = true) : cycN f n gone i ++ [i] = cycN f n gone (i + 1) := by simp [cycN, List.range_succ, List.filter_append, h]
theorem cycN_no {f : Nat → Nat} {n : Nat} {gone : List Bool} {i : Nat} (h : cyc f n gone i = false) : cycN f n gone i = cycN f n gone (i + 1) := by simp [cycN, List.range_succ, List.filter_append, h]
theorem cycN_mem {f : Nat → Nat} {n : Nat} {gone : List Bool} {x : Nat} : x ∈ cycN f n gone n ↔ cyc f n gone x = true := by
  unfold cycN
  rw [List.mem_filter, List.mem_range]
  exact ⟨fun h => h.2, fun h => ⟨(cyc_iff.1 h).1, h⟩⟩
theorem cycN_nodup {f : Nat → Nat} {n : Nat} {gone : List Bool} {i : Nat} : (cycN f n gone i).Nodup := List.Nodup.sublist List.filter_sublist List.nodup_range
theorem cycN_le {f : Nat → Nat} {n : Nat} {gone : List Bool} (i : Nat) : (cycN f n gone i).length ≤ i := by
  unfold cycN; have := List.length_filter_le (cyc f n gone) (List.range i); simpa using this
theorem RStar.ringN {W : List (List Int)} {gone : List Bool} {got : List Int} {N : List Nat} (h : RStar W gone got) (hW : mayE W = 0) (he : 0 < N.length) (hlt : ∀ x, x ∈ N → x < W.length ∧ gone.getD x false = false)
    (hf : ∀ x, x ∈ N → fR W gone x ∈ N) (hi : ∀ x y, x ∈ N → y ∈ N → fR W gone x = fR W gone y → x = y) : RStar W (goneTo W.length gone (sel N N.length)) (gotTo W gone got (sel N N.length)) :=
  h.ring hW ⟨_, sel_all.2 (natD_mem he)⟩ (fun x hx => hlt x (sel_all.1 hx)) (fun x hx => sel_all.2 (hf x (sel_all.1 hx))) fun x y hx hy => hi x y (sel_all.1 hx) (sel_all.1 hy)
theorem left_lessN {n : Nat} {gone : List Bool} {N : List Nat} (he : 0 < N.length) (hlt : ∀ x, x ∈ N → x < n ∧ gone.getD x false = false) : leftN n (goneTo n gone (sel N N.length)) < leftN n gone :=
  left_less (fun x hx => (hlt x (sel_all.1 hx)).1) (fun x hx => (hlt x (sel_all.1 hx)).2) ⟨_, sel_all.2 (natD_mem he)⟩

set_option maxRecDepth 1000000 in
set_option maxHeartbeats 4000000 in
theorem Rounds_fc (W : List (List Int)) : FC Try.prog 11 [.rows W] (.tup [.ints (if mayE W = 0 then roundsF W else []), .i (mayE W)]) := by
  refine FC.intro Try.func11 rfl (Nat.le_of_ble_eq_true rfl) fun hfit => ?_
  obtain ⟨fitl0, fitr0⟩ := (hfit _ (.head _)).rows
  refine awp_seq ?_
  refine awp_region rfl (.n (fun _ => op_assign (.plain rfl)) (.n (fun _ => op_assign (.plain rfl)) (.nil _))) ?_
  refine awp_seq ?_
  refine awp_seq ?_
  refine awp_region rfl (.n (fun _ => op_move (.plain rfl)) (.n (fun _ => op_call1 Try.call13 (.plain rfl) (May_fc _)) (.n (fun _ => op_assign (.plain rfl)) (.nil _)))) ?_
  refine awp_seq ?_
  refine awp_region rfl (.n (fun _ => op_move (.plain rfl)) (.n (fun _ => op_neq (.plain rfl) (.plain rfl)) (.nil _))) ?_
  refine awp_cond rfl (fun h => ?_) (fun h => ?_)
  · try simp only [decide_eq_true_eq, decide_eq_false_iff_not, Bool.and_eq_true, Bool.or_eq_true, Bool.and_eq_false_iff, Bool.or_eq_false_iff, Bool.not_eq_true', Bool.not_eq_false', Bool.not_eq_true, Bool.not_eq_false, Bool.true_eq_false, Bool.false_eq_true] at h
    refine awp_seq ?_
    refine awp_region rfl (.n (fun _ => op_move (.plain rfl)) (.n (fun _ => op_assign (.plain rfl)) (.n (fun _ => op_assign (.plain rfl)) (.nil _)))) ?_
    refine awp_ent (Ent.nilseq 2 Int 0 (fun n => [.int .i64 n]) rfl) ?_
    refine awp_ret ?_
    refine retQ.ret ?_
    refine ret2 rfl rfl rfl rfl rfl ?_
    rw [if_neg h]
  · try simp only [decide_eq_true_eq, decide_eq_false_iff_not, Bool.and_eq_true, Bool.or_eq_true, Bool.and_eq_false_iff, Bool.or_eq_false_iff, Bool.not_eq_true', Bool.not_eq_false', Bool.not_eq_true, Bool.not_eq_false, Bool.true_eq_false, Bool.false_eq_true] at h
    have hW := h
    have hn6 := mayE_len hW
    refine awp_skip ?_
    refine awp_seq ?_
    refine awp_region_draw mixed rfl (.n (fun _ => op_move (.plain rfl)) (.n (fun _ => op_len (s := 0) Try.underlying22 (.plain rfl)) (.a (fun _ hm => op_make (α := Int) (d := 0) (f := (fun n => [.int .i64 n])) 21 0 ety23 (.plain rfl) (.plain rfl) (fun _ => rfl) rfl hm ?_) rfl (fun _ => rfl) rfl (.n (fun _ => op_move (.plain rfl)) (.n (fun _ => op_len (s := 0) Try.underlying22 (.plain rfl)) (.a (fun _ hm => op_make (α := Bool) (d := false) (f := (fun b => [.bool b])) 24 false ety45 (.plain rfl) (.plain rfl) (fun _ => rfl) rfl hm ?_) rfl (fun _ => rfl) rfl (.n (fun _ => op_assign (.plain rfl)) (.n (fun _ => op_assign (.plain rfl)) (.nil _))))))))) ?d1 ?_
    · omega
    · omega
    · kernel_rfl
    refine awp_seq ?_
    refine awp_seq ?_
    refine awp_region rfl (.n (fun _ => op_move (.plain rfl)) (.r (op_callL (vals := [_, _]) Try.call27 ⟨⟨_, (.plain rfl), rfl⟩, ⟨_, (.plain rfl), rfl⟩, trivial⟩ (IndexB_fc _ _) rfl) (.n (fun _ => op_assign (.plain rfl)) (.nil _)))) ?_
    refine awp_block ?_
    refine awp_ent (Ent.ren 21 1005 rfl rfl rfl) ?_
    refine awp_ent (Ent.ren 24 1006 rfl rfl rfl) ?_
    refine awp_loop (σ := List Int × List Bool) (fun (s : List Int × List Bool) => RStar W s.2 s.1) (fun (s : List Int × List Bool) => ⟨[(0, .pv (.rows W)), (5, .own 1005), (6, .own 1006), (7, .int (idxB s.2 false))], [(1005, .arr 3 1 Int 0 (fun n => [.int .i64 n]) (s.1)), (1006, .arr 4 1 Bool false (fun b => [.bool b]) (s.2))]⟩) (fun (s : List Int × List Bool) => leftN W.length s.2) (List.replicate W.length 0, List.replicate W.length false) ?_ (Ent.kept ⟨rfl, rfl, rfl, rfl, trivial⟩ ⟨rfl, rfl, trivial⟩) ?_
    · exact RStar.start W
    rintro ⟨got, gone⟩ hp
    try dsimp only at hp
    have hR := hp
    refine awp_seq ?_
    refine awp_seq ?_
    refine awp_region rfl (.n (fun _ => op_move (.plain rfl)) (.n (fun _ => op_geq (.plain rfl) (.plain rfl)) (.nil _))) ?_
    refine awp_cond rfl (fun h => ?_) (fun h => ?_)
    · try simp only [decide_eq_true_eq, decide_eq_false_iff_not, Bool.and_eq_true, Bool.or_eq_true, Bool.and_eq_false_iff, Bool.or_eq_false_iff, Bool.not_eq_true', Bool.not_eq_false', Bool.not_eq_true, Bool.not_eq_false, Bool.true_eq_false, Bool.false_eq_true] at h
      have hi2 := idxB_some h
      obtain ⟨i, hie⟩ : ∃ i : Nat, idxB gone false = (i : Nat) := ⟨(idxB gone false).toNat, by omega⟩
      have hgl : gone.length = W.length := hR.1
      rw [hie, Int.toNat_natCast, hgl] at hi2
      have hfg : ∀ x, x < W.length → gone.getD x false = false → fR W gone x < W.length ∧ gone.getD (fR W gone x) false = false := fun x hx hg => ⟨(fR_good hW hx hg).1, (fR_good hW hx hg).2.1⟩
      have hit := iter_in hfg hi2.1 hi2.2
      refine awp_skip ?_
      refine awp_seq ?_
      refine awp_block ?_
      refine awp_seq ?_
      refine awp_region rfl (.n (fun _ => op_move (.plain rfl)) (.n (fun _ => op_assign (.plain rfl)) (.nil _))) ?_
      refine awp_seq ?_
      refine awp_seq ?_
      refine awp_region rfl (.n (fun _ => op_move (.plain rfl)) (.n (fun _ => op_len (s := 0) Try.underlying22 (.plain rfl)) (.n (fun _ => op_move (.plain rfl)) (.nil _)))) ?_
      refine awp_block ?_
      refine awp_loop (σ := Nat) (fun (k : Nat) => k ≤ W.length) (fun (k : Nat) => ⟨[(0, .pv (.rows W)), (5, .own 1005), (6, .own 1006), (33, .int (W.length : Nat)), (34, .int (k : Nat)), (8, .int (iter (fR W gone) k i : Nat))], [(1005, .arr 3 1 Int 0 (fun n => [.int .i64 n]) (got)), (1006, .arr 4 1 Bool false (fun b => [.bool b]) (gone))]⟩) (fun (k : Nat) => W.length - k) 0 ?_ (Ent.kept ⟨rfl, rfl, rfl, rfl, rfl, (congrArg (fun n => some (SV.int n)) (hie)), trivial⟩ ⟨rfl, rfl, trivial⟩) ?_
      · simp
      rintro k hp
      try dsimp only at hp
      refine awp_seq ?_
      refine awp_region rfl (.n (fun _ => op_lss (.plain rfl) (.plain rfl)) (.nil _)) ?_
      refine awp_seq ?_
      refine awp_cond rfl (fun h => ?_) (fun h => ?_)
      · try simp only [decide_eq_true_eq, decide_eq_false_iff_not, Bool.and_eq_true, Bool.or_eq_true, Bool.and_eq_false_iff, Bool.or_eq_false_iff, Bool.not_eq_true', Bool.not_eq_false', Bool.not_eq_true, Bool.not_eq_false, Bool.true_eq_false, Bool.false_eq_true] at h
        refine awp_skip ?_
        refine awp_seq ?_
        refine awp_block ?_
        refine awp_region rfl (.n (fun _ => op_move (.plain rfl)) (.n (fun _ => op_move (.plain rfl)) (.n (fun _ => op_indexAddrN Try.underlying22 Try.sizeOf23 (.plain rfl) (.plain rfl) (fun _ => rfl) ?_) (.n (fun _ => op_load Try.isAgg23 (.plain rfl)) (.n (fun _ => op_move (.plain rfl)) (.r (op_callL (vals := [_, _]) Try.call33 ⟨⟨_, (.plain rfl), rfl⟩, ⟨_, (.plain rfl), rfl⟩, trivial⟩ (best_fc _ _ ?_ ?_) rfl) (.n (fun _ => op_assign (.plain rfl)) (.nil _)))))))) ?_
        · exact (hit _).1
        · rw [hgl]; exact ord_ins (mayE_row hW (hit (k)).1)
        · have hgd := (fR_good hW (hit (k)).1 (hit (k)).2).2.2; first | omega | (simp only [Int.toNat_natCast]; omega)
        refine awp_region rfl (.n (fun _ => op_add (.plain rfl) (.plain rfl) ?_) (.n (fun _ => op_move (.plain rfl)) (.nil _))) ?_
        · unfold InR; omega
        exact ⟨k + 1, by omega, by dsimp only; omega, (Ent.kept ⟨rfl, rfl, rfl, rfl, rfl, (congrArg (fun n => some (SV.int n)) ((fR_good hW (hit (k)).1 (hit (k)).2).2.2)), trivial⟩ ⟨rfl, rfl, trivial⟩)⟩
      · try simp only [decide_eq_true_eq, decide_eq_false_iff_not, Bool.and_eq_true, Bool.or_eq_true, Bool.and_eq_false_iff, Bool.or_eq_false_iff, Bool.not_eq_true', Bool.not_eq_false', Bool.not_eq_true, Bool.not_eq_false, Bool.true_eq_false, Bool.false_eq_true] at h
        obtain rfl : k = W.length := by omega
        refine awp_exit ?_
        refine awp_seq ?_
        refine awp_region rfl (.n (fun _ => op_assign (.plain rfl)) (.nil _)) ?_
        refine awp_seq ?_
        refine awp_block ?_
        refine awp_ent (Ent.begin 9 1009 3 1 Int 0 (fun n => [.int .i64 n]) rfl rfl rfl) ?_
        refine awp_loop (σ := Nat) (fun (t : Nat) => orbN (fR W gone) W.length i t) (fun (t : Nat) => ⟨[(0, .pv (.rows W)), (5, .own 1005), (6, .own 1006), (8, .int (iter (fR W gone) (W.length + t) i : Nat)), (9, .own 1009)], [(1005, .arr 3 1 Int 0 (fun n => [.int .i64 n]) (got)), (1006, .arr 4 1 Bool false (fun b => [.bool b]) (gone)), (1009, .arr 3 1 Int 0 (fun n => [.int .i64 n]) ((orbL (fR W gone) W.length i t)))]⟩) (fun (t : Nat) => W.length + 1 - t) 0 ?_ (Ent.kept ⟨rfl, rfl, rfl, rfl, rfl, trivial⟩ ⟨rfl, rfl, rfl, trivial⟩) ?_
        · exact fun a b ha => absurd ha (Nat.not_lt_zero _)
        rintro t hp
        try dsimp only at hp
        have hN := hp
        refine awp_seq ?_
        refine awp_seq ?_
        refine awp_region rfl (.n (fun _ => op_move (.plain rfl)) (.n (fun _ => op_move (.plain rfl)) (.r (op_callL (vals := [_, _]) Try.call34 ⟨⟨_, (.plain rfl), rfl⟩, ⟨_, (.plain rfl), rfl⟩, trivial⟩ (Contains_fc _ _) rfl) (.n (fun _ => op_not (.plain rfl)) (.nil _))))) ?_
        refine awp_cond rfl (fun h => ?_) (fun h => ?_)
        · try simp only [decide_eq_true_eq, decide_eq_false_iff_not, Bool.and_eq_true, Bool.or_eq_true, Bool.and_eq_false_iff, Bool.or_eq_false_iff, Bool.not_eq_true', Bool.not_eq_false', Bool.not_eq_true, Bool.not_eq_false, Bool.true_eq_false, Bool.false_eq_true] at h
          have hno : orb (fR W gone) W.length i t (iter (fR W gone) (W.length + t) i) = false := Bool.eq_false_iff.2 fun c => h (placeF_mem.2 (orbL_mem.2 c))
          refine awp_skip ?_
          refine awp_block ?_
          refine awp_seq ?_
          refine awp_region rfl (.n (fun _ => op_move (.plain rfl)) (.n (fun _ => op_move (.plain rfl)) (.n (fun _ => op_slit (pp := [(0, _)]) (α := Int) (d := 0) (f := (fun n => [.int .i64 n])) [_] ety23 rfl ⟨rfl, (.plain rfl), (by simp), trivial⟩ rfl (by decide) rfl) (.e (op_append (id' := 50) (α := Int) (d := 0) (f := (fun n => [.int .i64 n])) ety23 Try.underlying23 (fun _ => rfl) (fun _ => rfl) (.plain rfl) rfl (.plain rfl) rfl ?_) rfl (.n (fun _ => op_assign (.plain rfl)) (.nil _)))))) ?_
          · simp only [orbL, ringI_length, orbM_length]; have := orbN_le hN fun j => (hit j).1; have := mayE_len hW; simp; omega
          refine awp_region rfl (.n (fun _ => op_move (.plain rfl)) (.n (fun _ => op_move (.plain rfl)) (.n (fun _ => op_indexAddrN Try.underlying22 Try.sizeOf23 (.plain rfl) (.plain rfl) (fun _ => rfl) ?_) (.n (fun _ => op_load Try.isAgg23 (.plain rfl)) (.n (fun _ => op_move (.plain rfl)) (.r (op_callL (vals := [_, _]) Try.call33 ⟨⟨_, (.plain rfl), rfl⟩, ⟨_, (.plain rfl), rfl⟩, trivial⟩ (best_fc _ _ ?_ ?_) rfl) (.n (fun _ => op_assign (.plain rfl)) (.nil _)))))))) ?_
          · exact (hit _).1
          · rw [hgl]; exact ord_ins (mayE_row hW (hit (W.length + t)).1)
          · have hgd := (fR_good hW (hit (W.length + t)).1 (hit (W.length + t)).2).2.2; first | omega | (simp only [Int.toNat_natCast]; omega)
          exact ⟨t + 1, orbN_succ hN hno, by dsimp only; have := orbN_le hN fun j => (hit j).1; omega, (Ent.round 50 1009 ⟨rfl, rfl, rfl, (congrArg (fun n => some (SV.int n)) ((fR_good hW (hit (W.length + t)).1 (hit (W.length + t)).2).2.2)), rfl, trivial⟩ ⟨rfl, rfl, (congrArg (fun l => some (Blk.arr 3 1 Int 0 (fun n => [.int .i64 n]) l)) ((ringI_snoc _ _).trans (congrArg ringI (orbM_succ _ _ _ _)))), trivial⟩ rfl rfl rfl ⟨rfl, rfl, rfl, rfl, rfl, trivial⟩ ⟨rfl, rfl, rfl, trivial⟩)⟩
        · try simp only [decide_eq_true_eq, decide_eq_false_iff_not, Bool.and_eq_true, Bool.or_eq_true, Bool.and_eq_false_iff, Bool.or_eq_false_iff, Bool.not_eq_true', Bool.not_eq_false', Bool.not_eq_true, Bool.not_eq_false, Bool.true_eq_false, Bool.false_eq_true] at h
          have hin : orb (fR W gone) W.length i t (iter (fR W gone) (W.length + t) i) = true := orbL_mem.1 (placeF_mem.1 h)
          have hoc := orb_close (fun j => (hit j).1) hN hin
          have hmem : ∀ x, x ∈ orbM (fR W gone) W.length i t ↔ orb (fR W gone) W.length i t x = true := fun x => orbM_mem
          have hin2 : ∀ x, x ∈ orbM (fR W gone) W.length i t → x < W.length ∧ gone.getD x false = false := fun x hx => by
            obtain ⟨a, ha, rfl⟩ := orb_iff.1 ((hmem x).1 hx)
            exact hit _
          refine awp_exit ?_
          refine awp_seq ?_
          refine awp_seq ?_
          refine awp_region rfl (.n (fun _ => op_move (.plain rfl)) (.r (op_lenO Try.underlying23 (.plain rfl) rfl) (.n (fun _ => op_move (.plain rfl)) (.nil _)))) ?_
          refine awp_block ?_
          refine awp_loop (σ := Nat) (fun (j : Nat) => j ≤ t) (fun (j : Nat) => ⟨[(0, .pv (.rows W)), (5, .own 1005), (6, .own 1006), (9, .own 1009), (57, .own 1009), (58, .int (t : Nat)), (59, .int (j : Nat))], [(1005, .arr 3 1 Int 0 (fun n => [.int .i64 n]) (gotTo W gone got (sel (orbM (fR W gone) W.length i t) j))), (1006, .arr 4 1 Bool false (fun b => [.bool b]) (gone)), (1009, .arr 3 1 Int 0 (fun n => [.int .i64 n]) ((orbL (fR W gone) W.length i t)))]⟩) (fun (j : Nat) => t - j) 0 ?_ (Ent.kept ⟨rfl, rfl, rfl, rfl, rfl, (congrArg (fun n => some (SV.int n)) (congrArg (fun n : Nat => (n : Int)) (by simp [orbL]))), rfl, trivial⟩ ⟨(congrArg (fun l => some (Blk.arr 3 1 Int 0 (fun n => [.int .i64 n]) l)) (gotTo_zero hR.2.1)), rfl, rfl, trivial⟩) ?_
          · simp
          rintro j hp
          try dsimp only at hp
          refine awp_seq ?_
          refine awp_region rfl (.n (fun _ => op_lss (.plain rfl) (.plain rfl)) (.nil _)) ?_
          refine awp_seq ?_
          refine awp_cond rfl (fun h => ?_) (fun h => ?_)
          · try simp only [decide_eq_true_eq, decide_eq_false_iff_not, Bool.and_eq_true, Bool.or_eq_true, Bool.and_eq_false_iff, Bool.or_eq_false_iff, Bool.not_eq_true', Bool.not_eq_false', Bool.not_eq_true, Bool.not_eq_false, Bool.true_eq_false, Bool.false_eq_true] at h
            have hj2 : j < t := by omega
            have htn := orbN_le hN fun j => (hit j).1
            refine awp_skip ?_
            refine awp_seq ?_
            refine awp_block ?_
            refine awp_seq ?_
            refine awp_region rfl (.r (op_indexAddrON Try.underlying23 Try.sizeOf3 (.plain rfl) rfl (.plain rfl) ?_) (.r (op_loadE Try.isAgg3 (.plain rfl) rfl (fun _ => rfl) ?_ rfl) (.n (fun _ => op_assign (.plain rfl)) (.nil _)))) ?_
            · first | omega | (simp; omega)
            · first | omega | (simp; omega)
            have hrj : (orbL (fR W gone) W.length i t).getD j 0 = ((iter (fR W gone) (W.length + j) i : Nat) : Int) := by
              rw [show orbL (fR W gone) W.length i t = ringI (orbM (fR W gone) W.length i t) from rfl, ringI_getD (by simp; omega), show (orbM (fR W gone) W.length i t).getD j 0 = iter (fR W gone) (W.length + j) i from mapr_getD _ (by omega)]
            have hnj : (orbM (fR W gone) W.length i t).getD j 0 = iter (fR W gone) (W.length + j) i := mapr_getD _ (by omega)
            refine awp_region rfl (.n (fun _ => op_move (.plain rfl)) (.n (fun _ => op_move (.plain rfl)) (.n (fun _ => op_move (.plain rfl)) (.n (fun _ => op_move (.plain rfl)) (.n (fun _ => op_indexAddr Try.underlying22 Try.sizeOf23 (.plain rfl) (.plain rfl) (fun _ => rfl) ?_) (.n (fun _ => op_load Try.isAgg23 (.plain rfl)) (.n (fun _ => op_move (.plain rfl)) (.r (op_callL (vals := [_, _]) Try.call33 ⟨⟨_, (.plain rfl), rfl⟩, ⟨_, (.plain rfl), rfl⟩, trivial⟩ (best_fc _ _ ?_ ?_) rfl) (.r (op_indexAddrO Try.underlying23 Try.sizeOf3 (.plain rfl) rfl (.plain rfl) ?_) (.e (op_storeE _ Try.sizeOf3 (.plain rfl) (.plain rfl) rfl (fun _ => rfl) ?_ (by decide) rfl rfl) rfl (.nil _))))))))))) ?_
            · rw [hrj]; have := (hit (W.length + j)).1; omega
            · rw [hrj, hgl]; exact ord_ins (mayE_row hW (hit (W.length + j)).1)
            · rw [hrj]; have hgd := (fR_good hW (hit (W.length + j)).1 (hit (W.length + j)).2).2.2; simp only [Int.toNat_natCast]; omega
            · rw [hrj]; simp only [gotTo, mapr_length]; have := (hit (W.length + j)).1; omega
            · rw [hrj]; simp only [gotTo, mapr_length, Int.toNat_natCast]; exact (hit (W.length + j)).1
            refine awp_region rfl (.n (fun _ => op_add (.plain rfl) (.plain rfl) ?_) (.n (fun _ => op_move (.plain rfl)) (.nil _))) ?_
            · unfold InR; omega
            exact ⟨j + 1, by omega, by dsimp only; omega, (Ent.kept ⟨rfl, rfl, rfl, rfl, rfl, rfl, rfl, trivial⟩ ⟨(congrArg (fun l => some (Blk.arr 3 1 Int 0 (fun n => [.int .i64 n]) l)) (by rw [hrj, Int.toNat_natCast, ← hnj]; exact gotTo_set (by simp; omega))), rfl, rfl, trivial⟩)⟩
          · try simp only [decide_eq_true_eq, decide_eq_false_iff_not, Bool.and_eq_true, Bool.or_eq_true, Bool.and_eq_false_iff, Bool.or_eq_false_iff, Bool.not_eq_true', Bool.not_eq_false', Bool.not_eq_true, Bool.not_eq_false, Bool.true_eq_false, Bool.false_eq_true] at h
            obtain rfl : t = j := by omega
            refine awp_exit ?_
            refine awp_seq ?_
            refine awp_region rfl (.n (fun _ => op_move (.plain rfl)) (.r (op_lenO Try.underlying23 (.plain rfl) rfl) (.n (fun _ => op_move (.plain rfl)) (.nil _)))) ?_
            refine awp_block ?_
            refine awp_loop (σ := Nat) (fun (j : Nat) => j ≤ t) (fun (j : Nat) => ⟨[(0, .pv (.rows W)), (5, .own 1005), (6, .own 1006), (73, .own 1009), (74, .int (t : Nat)), (75, .int (j : Nat))], [(1005, .arr 3 1 Int 0 (fun n => [.int .i64 n]) (gotTo W gone got (sel (orbM (fR W gone) W.length i t) t))), (1006, .arr 4 1 Bool false (fun b => [.bool b]) (goneTo W.length gone (sel (orbM (fR W gone) W.length i t) j))), (1009, .arr 3 1 Int 0 (fun n => [.int .i64 n]) ((orbL (fR W gone) W.length i t)))]⟩) (fun (j : Nat) => t - j) 0 ?_ (Ent.kept ⟨rfl, rfl, rfl, rfl, (congrArg (fun n => some (SV.int n)) (congrArg (fun n : Nat => (n : Int)) (by simp [orbL]))), rfl, trivial⟩ ⟨rfl, (congrArg (fun l => some (Blk.arr 4 1 Bool false (fun b => [.bool b]) l)) (goneTo_zero hR.1)), rfl, trivial⟩) ?_
            · simp
            rintro j hp
            try dsimp only at hp
            refine awp_seq ?_
            refine awp_region rfl (.n (fun _ => op_lss (.plain rfl) (.plain rfl)) (.nil _)) ?_
            refine awp_seq ?_
            refine awp_cond rfl (fun h => ?_) (fun h => ?_)
            · try simp only [decide_eq_true_eq, decide_eq_false_iff_not, Bool.and_eq_true, Bool.or_eq_true, Bool.and_eq_false_iff, Bool.or_eq_false_iff, Bool.not_eq_true', Bool.not_eq_false', Bool.not_eq_true, Bool.not_eq_false, Bool.true_eq_false, Bool.false_eq_true] at h
              have hj2 : j < t := by omega
              have htn := orbN_le hN fun j => (hit j).1
              refine awp_skip ?_
              refine awp_seq ?_
              refine awp_block ?_
              refine awp_seq ?_
              refine awp_region rfl (.r (op_indexAddrON Try.underlying23 Try.sizeOf3 (.plain rfl) rfl (.plain rfl) ?_) (.r (op_loadE Try.isAgg3 (.plain rfl) rfl (fun _ => rfl) ?_ rfl) (.n (fun _ => op_assign (.plain rfl)) (.nil _)))) ?_
              · first | omega | (simp; omega)
              · first | omega | (simp; omega)
              have hrj : (orbL (fR W gone) W.length i t).getD j 0 = ((iter (fR W gone) (W.length + j) i : Nat) : Int) := by
                rw [show orbL (fR W gone) W.length i t = ringI (orbM (fR W gone) W.length i t) from rfl, ringI_getD (by simp; omega), show (orbM (fR W gone) W.length i t).getD j 0 = iter (fR W gone) (W.length + j) i from mapr_getD _ (by omega)]
              have hnj : (orbM (fR W gone) W.length i t).getD j 0 = iter (fR W gone) (W.length + j) i := mapr_getD _ (by omega)
              refine awp_region rfl (.n (fun _ => op_move (.plain rfl)) (.n (fun _ => op_move (.plain rfl)) (.r (op_indexAddrO Try.underlying45 Try.sizeOf4 (.plain rfl) rfl (.plain rfl) ?_) (.e (op_storeE _ Try.sizeOf4 (.plain rfl) (.plain rfl) rfl (fun _ => rfl) ?_ (by decide) rfl rfl) rfl (.nil _))))) ?_
              · rw [hrj]; simp only [goneTo, mapr_length]; have := (hit (W.length + j)).1; omega
              · rw [hrj]; simp only [goneTo, mapr_length, Int.toNat_natCast]; exact (hit (W.length + j)).1
              refine awp_region rfl (.n (fun _ => op_add (.plain rfl) (.plain rfl) ?_) (.n (fun _ => op_move (.plain rfl)) (.nil _))) ?_
              · unfold InR; omega
              exact ⟨j + 1, by omega, by dsimp only; omega, (Ent.kept ⟨rfl, rfl, rfl, rfl, rfl, rfl, trivial⟩ ⟨rfl, (congrArg (fun l => some (Blk.arr 4 1 Bool false (fun b => [.bool b]) l)) (by rw [hrj, Int.toNat_natCast, ← hnj]; exact goneTo_set (by simp; omega))), rfl, trivial⟩)⟩
            · try simp only [decide_eq_true_eq, decide_eq_false_iff_not, Bool.and_eq_true, Bool.or_eq_true, Bool.and_eq_false_iff, Bool.or_eq_false_iff, Bool.not_eq_true', Bool.not_eq_false', Bool.not_eq_true, Bool.not_eq_false, Bool.true_eq_false, Bool.false_eq_true] at h
              obtain rfl : t = j := by omega
              refine awp_exit ?_
              refine awp_region rfl (.n (fun _ => op_move (.plain rfl)) (.r (op_callL (vals := [_, _]) Try.call27 ⟨⟨_, (.plain rfl), rfl⟩, ⟨_, (.plain rfl), rfl⟩, trivial⟩ (IndexB_fc _ _) rfl) (.n (fun _ => op_assign (.plain rfl)) (.nil _)))) ?_
              refine ⟨(gotTo W gone got (sel (orbM (fR W gone) W.length i t) t), goneTo W.length gone (sel (orbM (fR W gone) W.length i t) t)), ?_, ?_, (Ent.kept ⟨rfl, rfl, rfl, rfl, trivial⟩ ⟨rfl, rfl, trivial⟩)⟩
              · have := hR.ringN (N := (orbM (fR W gone) W.length i t)) hW (by simp; exact hoc.1) hin2 (fun x hx => (hmem _).2 (hoc.2.1 x ((hmem x).1 hx))) (fun x y hx hy => hoc.2.2 x y ((hmem x).1 hx) ((hmem y).1 hy))
                simpa using this
              · have := left_lessN (n := W.length) (gone := gone) (N := (orbM (fR W gone) W.length i t)) (by simp; exact hoc.1) hin2
                simpa using this
    · try simp only [decide_eq_true_eq, decide_eq_false_iff_not, Bool.and_eq_true, Bool.or_eq_true, Bool.and_eq_false_iff, Bool.or_eq_false_iff, Bool.not_eq_true', Bool.not_eq_false', Bool.not_eq_true, Bool.not_eq_false, Bool.true_eq_false, Bool.false_eq_true] at h
      have hdone := hR.done (fun x hx => idxB_none h x (by rw [hR.1]; exact hx))
      refine awp_exit ?_
      refine awp_seq ?_
      refine awp_region rfl (.n (fun _ => op_move (.plain rfl)) (.n (fun _ => op_assign (.plain rfl)) (.n (fun _ => op_assign (.plain rfl)) (.nil _)))) ?_
      refine awp_ret ?_
      refine retQ.ret ?_
      refine ret2 rfl rfl rfl rfl rfl ?_
      rw [if_pos hW, hW, ← hdone]

end Go.Proofs.Ytnbponopcbgndaa

