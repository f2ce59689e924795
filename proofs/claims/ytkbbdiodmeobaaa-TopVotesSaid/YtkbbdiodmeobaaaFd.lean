/- Smith's set, by both ways. Conditions: each theorem names its own. -/
import Derived.Test.YtkbbdiodmeobaaaProg
import Derived.Test.YtkbbdiodmeobaaaFc
namespace Go.Proofs.Ytkbbdiodmeobaaa
open Go.Abs
set_option linter.unusedVariables false
set_option linter.unusedSimpArgs false

theorem getD_mem {α : Type} {l : List α} {k : Nat} (d : α) (h : k < l.length) : l.getD k d ∈ l := by
  rw [List.getD_eq_getElem?_getD, List.getElem?_eq_getElem h]; exact List.getElem_mem h
/-! ### Which of n -/
def whereTo (p : Nat → Bool) : Nat → List Int
  | 0 => []
  | k + 1 => whereTo p k ++ if p k = true then [(k : Int)] else []
section
variable {p q : Nat → Bool}
theorem where_yes {k : Nat} (h : p k = true) : whereTo p k ++ [(k : Int)] = whereTo p (k + 1) := by simp only [whereTo]; rw [if_pos h]
theorem where_no {k : Nat} (h : ¬ p k = true) : whereTo p k = whereTo p (k + 1) := by simp only [whereTo]; rw [if_neg h, List.append_nil]
theorem where_len (p : Nat → Bool) : ∀ n, (whereTo p n).length ≤ n
  | 0 => by simp [whereTo]
  | n + 1 => by
    have := where_len p n
    simp only [whereTo, List.length_append]
    split
    · simp; omega
    · simp; omega
theorem where_mem {x : Int} : ∀ {n : Nat}, x ∈ whereTo p n ↔ ∃ k : Nat, k < n ∧ x = (k : Int) ∧ p k = true
  | 0 => by simp [whereTo]
  | n + 1 => by
    simp only [whereTo, List.mem_append, where_mem (n := n)]
    constructor
    · rintro (⟨k, hk, e, h⟩ | h)
      · exact ⟨k, by omega, e, h⟩
      · split at h
        · rename_i hp
          simp only [List.mem_singleton] at h
          exact ⟨n, by omega, h, hp⟩
        · simp at h
    · rintro ⟨k, hk, e, h⟩
      by_cases ek : k = n
      · subst ek; right; rw [if_pos h]; simp [e]
      · exact .inl ⟨k, by omega, e, h⟩
theorem where_same : ∀ {n : Nat}, (∀ k, k < n → p k = q k) → whereTo p n = whereTo q n
  | 0, _ => rfl
  | n + 1, h => by simp only [whereTo]; rw [where_same fun k hk => h k (by omega), h n (by omega)]
theorem where_le : ∀ {n : Nat}, (∀ k, k < n → p k = true → q k = true) → (whereTo p n).length ≤ (whereTo q n).length ∧ ((whereTo p n).length = (whereTo q n).length → ∀ k, k < n → p k = q k)
  | 0, _ => by simp [whereTo]
  | n + 1, h => by
    obtain ⟨h1, h2⟩ := where_le (n := n) fun k hk => h k (by omega)
    have h3 := h n (by omega)
    simp only [whereTo, List.length_append]
    cases hp : p n <;> cases hq : q n
    · refine ⟨by simpa using h1, fun e k hk => ?_⟩
      by_cases ek : k = n
      · subst ek; rw [hp, hq]
      · exact h2 (by simpa using e) k (by omega)
    · refine ⟨by simp; omega, fun e => ?_⟩
      simp at e; omega
    · rw [h3 hp] at hq; cases hq
    · refine ⟨by simpa using h1, fun e k hk => ?_⟩
      by_cases ek : k = n
      · subst ek; rw [hp, hq]
      · exact h2 (by simpa using e) k (by omega)
end
theorem place_mem {l : List Int} {x : Int} : 0 ≤ placeF l x ↔ x ∈ l := by
  constructor
  · intro h
    have := placeF_at h
    rw [← this.2]; exact getD_mem 0 this.1
  · intro h
    obtain ⟨k, hk, e⟩ := List.getElem_of_mem h
    have := (placeF_le hk).2
    rwa [List.getD_eq_getElem?_getD, List.getElem?_eq_getElem hk, Option.getD_some, e] at this
theorem where_place {p : Nat → Bool} {n y : Nat} (hy : y < n) : decide (0 ≤ placeF (whereTo p n) (y : Nat)) = p y := by
  rw [Bool.eq_iff_iff, decide_eq_true_eq, place_mem, where_mem]
  constructor
  · rintro ⟨k, _, e, h⟩
    have : k = y := by omega
    subst this; exact h
  · exact fun h => ⟨y, hy, rfl, h⟩
/-! ### Sets of numbers as numbers -/
def maskF (p : Nat → Bool) : Nat → Nat
  | 0 => 0
  | i + 1 => (if p i = true then 2 ^ i else 0) + maskF p i
theorem mask_lt (p : Nat → Bool) : ∀ n, maskF p n < 2 ^ n
  | 0 => by simp [maskF]
  | n + 1 => by
    have := mask_lt p n
    simp only [maskF, Nat.pow_succ]
    split <;> omega
theorem mask_bit (p : Nat → Bool) : ∀ (n i : Nat), i < n → (maskF p n).testBit i = p i
  | n + 1, i, hi => by
    simp only [maskF]
    have h1 := mask_lt p n
    by_cases e : i = n
    · subst e
      split
      · rename_i h; rw [Nat.testBit_two_pow_add_eq, Nat.testBit_lt_two_pow h1, h]; rfl
      · rename_i h; rw [Nat.zero_add, Nat.testBit_lt_two_pow h1]; cases hp : p i <;> simp_all
    · have ih := mask_bit p n i (by omega)
      split
      · rw [Nat.testBit_two_pow_add_gt (by omega)]; exact ih
      · rw [Nat.zero_add]; exact ih
theorem bits_inj {n a b : Nat} (ha : a < 2 ^ n) (hb : b < 2 ^ n) (h : ∀ i, i < n → a.testBit i = b.testBit i) : a = b := by
  refine Nat.eq_of_testBit_eq fun i => ?_
  rcases Nat.lt_or_ge i n with hi | hi
  · exact h i hi
  · rw [Nat.testBit_lt_two_pow (Nat.lt_of_lt_of_le ha (Nat.pow_le_pow_right (by omega) hi)), Nat.testBit_lt_two_pow (Nat.lt_of_lt_of_le hb (Nat.pow_le_pow_right (by omega) hi))]
theorem bit_div (a i : Nat) : (((a : Int) / 2 ^ i) % 2 = 1) ↔ a.testBit i = true := by
  have e : ((a : Int) / 2 ^ i) = ((a / 2 ^ i : Nat) : Int) := by simp
  rw [e, Nat.testBit_eq_decide_div_mod_eq, decide_eq_true_eq]
  omega
/-! ### Smith's set -/
section
variable {n : Nat} {L : List (Int × List Int × Unit)}
/-- Each of it beats each that is not of it. -/
def Dom (n : Nat) (L : List (Int × List Int × Unit)) (D : Nat → Bool) : Prop := ∀ x, x < n → D x = true → ∀ y, y < n → D y = false → prefF L (y : Nat) (x : Nat) < prefF L (x : Nat) (y : Nat)
open Classical in
noncomputable def smB (n : Nat) (L : List (Int × List Int × Unit)) (x : Nat) : Bool := decide (∀ D, Dom n L D → (∃ y, y < n ∧ D y = true) → D x = true)
noncomputable def smithF (n : Nat) (L : List (Int × List Int × Unit)) : List Int := whereTo (smB n L) n
open Classical in
theorem sm_in {x : Nat} (h : smB n L x = true) {D : Nat → Bool} (hD : Dom n L D) (hy : ∃ y, y < n ∧ D y = true) : D x = true := by
  unfold smB at h; exact (of_decide_eq_true h) D hD hy
open Classical in
theorem sm_of {x : Nat} (h : ∀ D, Dom n L D → (∃ y, y < n ∧ D y = true) → D x = true) : smB n L x = true := decide_eq_true h
theorem sumTo_lt {f g : Nat → Int} : ∀ {n : Nat}, (∀ j, j < n → f j ≤ g j) → sumTo f n ≤ sumTo g n ∧ ∀ k, k < n → f k < g k → sumTo f n < sumTo g n
  | 0, _ => ⟨Int.le_refl _, fun k hk => absurd hk (Nat.not_lt_zero _)⟩
  | n + 1, h => by
    obtain ⟨h1, h2⟩ := sumTo_lt (n := n) fun j hj => h j (by omega)
    have h3 := h n (by omega)
    simp only [sumTo]
    refine ⟨by omega, fun k hk hlt => ?_⟩
    by_cases e : k = n
    · subst e; omega
    · have := h2 k (by omega) hlt; omega
theorem copT_win {x y : Int} (h : prefF L y x < prefF L x y) : copT L x y = 1 ∧ copT L y x = -1 := by
  unfold copT; rw [if_pos h, if_neg (by omega), if_pos h]; exact ⟨rfl, rfl⟩
/-- Who has the most of Copeland's points is in each such set. -/
theorem top_in {c : Nat} (hc : c < n) (hmax : ∀ x, x < n → copF n L (x : Nat) ≤ copF n L (c : Nat)) {D : Nat → Bool} (hD : Dom n L D) (hy : ∃ y, y < n ∧ D y = true) : D c = true := by
  obtain ⟨x, hx, hDx⟩ := hy
  cases hDc : D c with
  | true => rfl
  | false =>
    have h1 : copF n L (c : Nat) < copF n L (x : Nat) := by
      refine (sumTo_lt (f := fun y => copT L (c : Nat) (y : Nat)) (g := fun y => copT L (x : Nat) (y : Nat)) fun y hy => ?_).2 x hx ?_
      · cases hDy : D y with
        | true => rw [(copT_win (hD y hy hDy c hc hDc)).2]; exact (copT_in _ _).1
        | false => rw [(copT_win (hD x hx hDx y hy hDy)).1]; exact (copT_in _ _).2
      · show copT L (c : Nat) (x : Nat) < copT L (x : Nat) (x : Nat)
        rw [(copT_win (hD x hx hDx c hc hDc)).2, copT_self]; omega
    have := hmax x hx
    omega
theorem maxTo_ge {l : List Int} : ∀ {i k : Nat}, k ≤ i → l.getD k 0 ≤ maxTo l i
  | 0, k, h => by rw [show k = 0 by omega]; exact Int.le_refl _
  | i + 1, k, h => by
    simp only [maxTo]
    by_cases e : k = i + 1
    · subst e; omega
    · have := maxTo_ge (l := l) (i := i) (k := k) (by omega); omega
theorem maxTo_at {l : List Int} : ∀ i, ∃ k, k ≤ i ∧ maxTo l i = l.getD k 0
  | 0 => ⟨0, Nat.le_refl _, rfl⟩
  | i + 1 => by
    obtain ⟨k, hk, e⟩ := maxTo_at (l := l) i
    simp only [maxTo]
    rcases Int.le_total (maxTo l i) (l.getD (i + 1) 0) with h | h
    · exact ⟨i + 1, Nat.le_refl _, by omega⟩
    · exact ⟨k, by omega, by omega⟩
def topF (n : Nat) (L : List (Int × List Int × Unit)) : Int := placeF (copL n L) (maxTo (copL n L) ((copL n L).length - 1))
@[simp] theorem copL_length : (copL n L).length = n := by simp [copL]
theorem topF_is (hn : 1 ≤ n) : ∃ c : Nat, topF n L = (c : Nat) ∧ c < n ∧ ∀ x, x < n → copF n L (x : Nat) ≤ copF n L (c : Nat) := by
  obtain ⟨k, hk, e⟩ := maxTo_at (l := copL n L) ((copL n L).length - 1)
  rw [copL_length] at hk
  have h1 : 0 ≤ topF n L := by
    unfold topF; rw [e]
    exact (placeF_le (by rw [copL_length]; omega)).2
  have h2 : (topF n L).toNat < (copL n L).length ∧ (copL n L).getD (topF n L).toNat 0 = maxTo (copL n L) ((copL n L).length - 1) := placeF_at h1
  obtain ⟨c, hc⟩ : ∃ c : Nat, topF n L = (c : Nat) := ⟨_, (Int.toNat_of_nonneg h1).symm⟩
  have h3 : c < n := by have := h2.1; rw [copL_length] at this; omega
  refine ⟨c, hc, h3, fun x hx => ?_⟩
  have h4 := h2.2
  rw [hc, Int.toNat_natCast, show (copL n L).getD c 0 = copF n L (c : Nat) from mapr_getD _ h3] at h4
  rw [h4, ← show (copL n L).getD x 0 = copF n L (x : Nat) from mapr_getD _ hx]
  exact maxTo_ge (by rw [copL_length]; omega)
/-- What grows into Smith's set. -/
structure SmI (n : Nat) (L : List (Int × List Int × Unit)) (l : List Bool) : Prop where
  len : l.length = n
  top : ∃ c, c < n ∧ l.getD c false = true
  sub : ∀ D, Dom n L D → (∃ y, y < n ∧ D y = true) → ∀ x, x < n → l.getD x false = true → D x = true
def stuckS (L : List (Int × List Int × Unit)) (l : List Bool) (i k : Nat) : Prop := ¬ ((l.getD i false = true ∧ l.getD k false = false) ∧ prefF L (i : Nat) (k : Nat) ≤ prefF L (k : Nat) (i : Nat))
theorem getD_setB {l : List Bool} {k x : Nat} {v : Bool} (hk : k < l.length) : (l.set k v).getD x false = if x = k then v else l.getD x false := by
  simp only [List.getD_eq_getElem?_getD, List.getElem?_set]
  by_cases e : k = x
  · subst e; simp [hk]
  · rw [if_neg e, if_neg fun c => e c.symm]
theorem SmI.start (hn : 1 ≤ n) : SmI n L ((List.replicate n false).set (topF n L).toNat true) := by
  obtain ⟨c, hc, hcn, hmax⟩ := topF_is (L := L) hn
  rw [hc, Int.toNat_natCast]
  refine ⟨by simp, ⟨c, hcn, by rw [getD_setB (by simpa using hcn), if_pos rfl]⟩, fun D hD hy x hx h => ?_⟩
  rw [getD_setB (by simpa using hcn)] at h
  split at h
  · rename_i e; subst e; exact top_in hcn hmax hD hy
  · simp [List.getD_eq_getElem?_getD, List.getElem?_replicate, hx] at h
theorem SmI.add {l : List Bool} (h : SmI n L l) {i k : Nat} (hi : i < n) (hk : k < n) (h1 : l.getD i false = true) (h2 : prefF L (i : Nat) (k : Nat) ≤ prefF L (k : Nat) (i : Nat)) : SmI n L (l.set k true) := by
  have hkl : k < l.length := by rw [h.len]; exact hk
  refine ⟨by rw [List.length_set]; exact h.len, ?_, fun D hD hy x hx h3 => ?_⟩
  · obtain ⟨c, hc, h4⟩ := h.top
    exact ⟨c, hc, by
      rw [getD_setB hkl]
      split
      · rfl
      · exact h4⟩
  · rw [getD_setB hkl] at h3
    split at h3
    · rename_i e; subst e
      cases hDx : D x with
      | true => rfl
      | false =>
        have := hD i hi (h.sub D hD hy i hi h1) x hx hDx
        omega
    · exact h.sub D hD hy x hx h3
theorem SmI.done {l : List Bool} (h : SmI n L l) (hs : ∀ i, i < n → ∀ k, k < n → stuckS L l i k) : whereTo (fun i => l.getD i false) l.length = smithF n L := by
  rw [h.len]
  refine where_same fun x hx => ?_
  have hdom : Dom n L fun i => l.getD i false := fun x hx h1 y hy h2 => by
    have := hs x hx y hy
    unfold stuckS at this
    rcases Int.lt_or_le (prefF L (y : Nat) (x : Nat)) (prefF L (x : Nat) (y : Nat)) with h3 | h3
    · exact h3
    · exact absurd ⟨⟨h1, h2⟩, h3⟩ this
  cases hb : l.getD x false with
  | true => exact (sm_of fun D hD hy => h.sub D hD hy x hx hb).symm
  | false =>
    cases hs2 : smB n L x with
    | false => rfl
    | true =>
      have := sm_in hs2 hdom h.top
      rw [hb] at this; cases this
def remB (l : List Bool) : Nat := l.count false
theorem remB_set : ∀ {l : List Bool} {k : Nat}, k < l.length → l.getD k false = false → remB (l.set k true) + 1 = remB l
  | [], k, h, _ => absurd h (by simp)
  | b :: l, 0, _, h => by
    have : b = false := by simpa using h
    subst this
    simp [remB]
  | b :: l, k + 1, h, h2 => by
    have ih := remB_set (l := l) (k := k) (by simpa using h) (by simpa using h2)
    unfold remB at *
    simp only [List.set_cons_succ, List.count_cons]
    omega
/-! ### Smith's set, of all sets -/
def rulB (n : Nat) (L : List (Int × List Int × Unit)) (s : List Int) (i : Nat) : Bool := (firstI (fun y => !decide (0 ≤ placeF s (y : Nat)) && !beatsF L (s.getD i 0) (y : Nat)) n).isSome
def rulesF (n : Nat) (L : List (Int × List Int × Unit)) (s : List Int) : Bool := (firstI (rulB n L s) s.length).isNone
theorem rulB_yes {s : List Int} {i y : Nat} (hE : firstI (fun y => !decide (0 ≤ placeF s (y : Nat)) && !beatsF L (s.getD i 0) (y : Nat)) y = none) (hy : y < n) (h : ¬ 0 ≤ placeF s (y : Nat)) (h' : beatsF L (s.getD i 0) (y : Nat) = false) : rulB n L s i = true := by
  unfold rulB; rw [firstI_stop hE (by rw [decide_eq_false h, h']; rfl) hy]; rfl
theorem rulB_no {s : List Int} {i : Nat} (hE : firstI (fun y => !decide (0 ≤ placeF s (y : Nat)) && !beatsF L (s.getD i 0) (y : Nat)) n = none) : rulB n L s i = false := by unfold rulB; rw [hE]; rfl
theorem rules_no {s : List Int} {i : Nat} (hE : firstI (rulB n L s) i = none) (hi : i < s.length) (h : rulB n L s i = true) : false = rulesF n L s := by unfold rulesF; rw [firstI_stop hE h hi]; rfl
theorem rules_yes {s : List Int} (hE : firstI (rulB n L s) s.length = none) : true = rulesF n L s := by unfold rulesF; rw [hE]; rfl
theorem rules_iff {p : Nat → Bool} : rulesF n L (whereTo p n) = true ↔ Dom n L p := by
  have row : ∀ i, i < (whereTo p n).length → (rulB n L (whereTo p n) i = false ↔ ∀ y, y < n → p y = false → prefF L (y : Nat) ((whereTo p n).getD i 0) < prefF L ((whereTo p n).getD i 0) (y : Nat)) := fun i hi => by
    unfold rulB
    constructor
    · intro h y hy hp
      have h1 : firstI (fun y => !decide (0 ≤ placeF (whereTo p n) (y : Nat)) && !beatsF L ((whereTo p n).getD i 0) (y : Nat)) n = none := by
        cases e : firstI (fun y => !decide (0 ≤ placeF (whereTo p n) (y : Nat)) && !beatsF L ((whereTo p n).getD i 0) (y : Nat)) n with
        | none => rfl
        | some k => rw [e] at h; cases h
      have h2 := firstI_none h1 y hy
      rw [where_place hy, hp] at h2
      simp only [Bool.not_false, Bool.true_and, Bool.not_eq_false'] at h2
      exact of_decide_eq_true h2
    · intro h
      rw [firstI_of fun y hy => ?_]; rfl
      rw [where_place hy]
      cases hp : p y with
      | true => rfl
      | false =>
        have : beatsF L ((whereTo p n).getD i 0) (y : Nat) = true := decide_eq_true (h y hy hp)
        rw [this]; rfl
  unfold rulesF
  constructor
  · intro h x hx hpx y hy hpy
    have h1 : firstI (rulB n L (whereTo p n)) (whereTo p n).length = none := by
      cases e : firstI (rulB n L (whereTo p n)) (whereTo p n).length with
      | none => rfl
      | some k => rw [e] at h; cases h
    have hm : ((x : Nat) : Int) ∈ whereTo p n := where_mem.2 ⟨x, hx, rfl, hpx⟩
    obtain ⟨i, hi, e⟩ := List.getElem_of_mem hm
    have h3 := (row i hi).1 (firstI_none h1 i hi) y hy hpy
    rwa [List.getD_eq_getElem?_getD, List.getElem?_eq_getElem hi, Option.getD_some, e] at h3
  · intro h
    rw [firstI_of fun i hi => (row i hi).2 fun y hy hpy => ?_]; rfl
    have hm := getD_mem 0 hi
    obtain ⟨k, hk, e, hpk⟩ := where_mem.1 hm
    rw [e]; exact h k hk hpk y hy hpy
noncomputable def smM (n : Nat) (L : List (Int × List Int × Unit)) : Nat := maskF (smB n L) n
theorem sm_dom (hn : 1 ≤ n) : Dom n L (smB n L) ∧ ∃ y, y < n ∧ smB n L y = true := by
  obtain ⟨c, hc, hcn, hmax⟩ := topF_is (L := L) hn
  refine ⟨fun x hx h1 y hy h2 => ?_, c, hcn, sm_of fun D hD hy => top_in hcn hmax hD hy⟩
  rcases Int.lt_or_le (prefF L (y : Nat) (x : Nat)) (prefF L (x : Nat) (y : Nat)) with h3 | h3
  · exact h3
  · have : smB n L y = true := sm_of fun D hD hD2 => by
      cases hDy : D y with
      | true => rfl
      | false =>
        have := hD x hx (sm_in h1 hD hD2) y hy hDy
        omega
    rw [this] at h2; cases h2
/-- The first smallest one, of the first sets. -/
structure SmR (n : Nat) (L : List (Int × List Int × Unit)) (k : Nat) (best : List Int) : Prop where
  len : best.length ≤ n
  ahead : k ≤ smM n L → best = [] ∨ (smithF n L).length < best.length
  there : smM n L < k → best = smithF n L

theorem smM_in (hn : 1 ≤ n) : 1 ≤ smM n L ∧ smM n L < 2 ^ n := by
  refine ⟨?_, mask_lt _ _⟩
  obtain ⟨_, y, hy, h⟩ := sm_dom (L := L) hn
  rcases Nat.eq_zero_or_pos (smM n L) with e | e
  · have := mask_bit (smB n L) n y hy
    rw [show maskF (smB n L) n = 0 from e, h] at this
    simp at this
  · exact e
theorem SmR.start (hn : 1 ≤ n) : SmR n L 1 [] := ⟨by simp, fun _ => .inl rfl, fun h => by have := (smM_in (L := L) hn).1; omega⟩
theorem smith_ne (hn : 1 ≤ n) : 0 < (smithF n L).length := by
  obtain ⟨_, y, hy, h⟩ := sm_dom (L := L) hn
  exact List.length_pos_of_mem (where_mem.2 ⟨y, hy, rfl, h⟩)
theorem sm_less {k : Nat} (hk : 1 ≤ k ∧ k < 2 ^ n) (h : rulesF n L (whereTo k.testBit n) = true) : (smithF n L).length ≤ (whereTo k.testBit n).length ∧ ((smithF n L).length = (whereTo k.testBit n).length → k = smM n L) := by
  have hD := rules_iff.1 h
  have hy : ∃ y, y < n ∧ k.testBit y = true := by
    by_cases c : ∃ y, y < n ∧ k.testBit y = true
    · exact c
    · have : k = 0 := bits_inj (n := n) hk.2 (Nat.two_pow_pos n) fun i hi => by
        cases hb : k.testBit i with
        | true => exact absurd ⟨i, hi, hb⟩ c
        | false => simp
      omega
  obtain ⟨h1, h2⟩ := where_le (p := smB n L) (q := k.testBit) (n := n) fun x hx hx2 => sm_in hx2 hD hy
  refine ⟨h1, fun e => bits_inj hk.2 (mask_lt _ _) fun i hi => ?_⟩
  rw [← h2 e i hi]; exact (mask_bit _ _ _ hi).symm
theorem sm_self (hn : 1 ≤ n) : whereTo (smM n L).testBit n = smithF n L ∧ rulesF n L (whereTo (smM n L).testBit n) = true := by
  have e : whereTo (smM n L).testBit n = smithF n L := where_same fun k hk => mask_bit _ _ _ hk
  exact ⟨e, by rw [e]; exact rules_iff.2 (sm_dom hn).1⟩
theorem SmR.take (hn : 1 ≤ n) {k : Nat} {best : List Int} (hR : SmR n L k best) (hk : 1 ≤ k ∧ k < 2 ^ n) (h : rulesF n L (whereTo k.testBit n) = true) (h' : best.length = 0 ∨ (whereTo k.testBit n).length < best.length) : SmR n L (k + 1) (whereTo k.testBit n) := by
  have h1 := sm_less hk h
  have h0 := smith_ne (L := L) hn
  refine ⟨where_len _ _, fun hle => .inr ?_, fun hlt => ?_⟩
  · rcases Nat.lt_or_ge (smithF n L).length (whereTo k.testBit n).length with h2 | h2
    · exact h2
    · have := h1.2 (by omega); omega
  · by_cases e : k = smM n L
    · rw [e]; exact (sm_self hn).1
    · have := hR.there (by omega)
      rw [this] at h'
      omega
theorem SmR.leave (hn : 1 ≤ n) {k : Nat} {best : List Int} (hR : SmR n L k best) (hk : 1 ≤ k ∧ k < 2 ^ n) (h : rulesF n L (whereTo k.testBit n) = false ∨ (¬ best.length = 0 ∧ ¬ (whereTo k.testBit n).length < best.length)) : SmR n L (k + 1) best := by
  refine ⟨hR.len, fun hle => hR.ahead (by omega), fun hlt => ?_⟩
  by_cases e : k = smM n L
  · subst e
    have h1 := sm_self (L := L) hn
    rcases h with h | h
    · rw [h1.2] at h; cases h
    · rw [h1.1] at h
      rcases hR.ahead (Nat.le_refl _) with c | c
      · rw [c] at h; simp at h
      · exact absurd c h.2
  · exact hR.there (by omega)
end
theorem shl_nat (k : Nat) : (1 : Int) * 2 ^ ((k : Nat) : Int).toNat = ((2 ^ k : Nat) : Int) := by simp
theorem shl_bd {k : Nat} (h : k ≤ 6) : (1 : Int) * 2 ^ ((k : Nat) : Int).toNat ≤ 64 ∧ 1 ≤ (1 : Int) * 2 ^ ((k : Nat) : Int).toNat := by
  rw [shl_nat]
  have h1 : (2 : Nat) ^ k ≤ 64 := Nat.le_trans (Nat.pow_le_pow_right (by omega) h) (by decide)
  have h2 := Nat.two_pow_pos k
  omega
theorem bit_quo (s k : Nat) : ((s : Nat) : Int) / (1 * 2 ^ ((k : Nat) : Int).toNat) % 2 = if s.testBit k then 1 else 0 := by
  rw [Int.one_mul, Int.toNat_natCast]
  have := bit_div s k
  have h2 : ((s : Nat) : Int) / 2 ^ k % 2 = 0 ∨ ((s : Nat) : Int) / 2 ^ k % 2 = 1 := by omega
  split
  · rename_i h; exact this.2 h
  · rename_i h; exact h2.resolve_right fun c => h (this.1 c)
theorem rul_skip {b : Bool} {P : Prop} [Decidable P] (h : P ∨ b = true) : (!decide P && !b) = false := by
  rcases h with h | h
  · rw [decide_eq_true h]; rfl
  · rw [h]; simp
theorem bit_quo2 (s k : Nat) : ((s : Nat) : Int) / (1 * 2 ^ k) % 2 = if s.testBit k then 1 else 0 := bit_quo s k

set_option maxRecDepth 1000000 in
set_option maxHeartbeats 1000000 in
theorem where_fc (l : List Bool) (hl : l.length ≤ 1000) : FC Try.prog 49 [.bools l] (.ints (whereTo (fun i => l.getD i false) l.length)) := by
  refine FC.intro Try.func49 rfl (Nat.le_of_ble_eq_true rfl) fun hfit => ?_
  have fit0 := hfit _ (.head _)
  refine awp_seq ?_
  refine awp_region rfl (.n (fun _ => op_assign (.plain rfl)) (.nil _)) ?_
  refine awp_seq ?_
  refine awp_region rfl (.n (fun _ => op_assign (.plain rfl)) (.nil _)) ?_
  refine awp_seq ?_
  refine awp_seq ?_
  refine awp_region rfl (.n (fun _ => op_move (.plain rfl)) (.n (fun _ => op_len (s := 0) Try.underlying57 (.plain rfl)) (.n (fun _ => op_move (.plain rfl)) (.nil _)))) ?_
  refine awp_block ?_
  refine awp_ent (Ent.begin 3 1003 3 1 Int 0 (fun n => [.int .i64 n]) rfl rfl rfl) ?_
  refine awp_loop (σ := Nat) (fun (i : Nat) => i ≤ l.length) (fun (i : Nat) => ⟨[(3, .own 1003), (6, .pv (.bools l)), (7, .int (l.length : Nat)), (8, .int (i : Nat))], [(1003, .arr 3 1 Int 0 (fun n => [.int .i64 n]) (whereTo (fun i => l.getD i false) i))]⟩) (fun (i : Nat) => l.length - i) 0 ?_ (Ent.kept ⟨rfl, rfl, rfl, rfl, trivial⟩ ⟨rfl, trivial⟩) ?_
  · exact Nat.zero_le _
  rintro i hp
  try dsimp only at hp
  have hi := hp
  refine awp_seq ?_
  refine awp_region rfl (.n (fun _ => op_lss (.plain rfl) (.plain rfl)) (.nil _)) ?_
  refine awp_seq ?_
  refine awp_cond rfl (fun h => ?_) (fun h => ?_)
  · (try simp only [decide_eq_true_eq, decide_eq_false_iff_not, Bool.and_eq_true, Bool.or_eq_true, Bool.and_eq_false_iff, Bool.or_eq_false_iff, Bool.not_eq_true', Bool.not_eq_false', Bool.not_eq_true, Bool.not_eq_false, Bool.true_eq_false, Bool.false_eq_true] at h); (try simp only [fold_c, fold_o, Int.toNat_natCast] at h)
    refine awp_skip ?_
    refine awp_seq ?_
    refine awp_block ?_
    refine awp_seq ?_
    refine awp_region rfl (.n (fun _ => op_move (.plain rfl)) (.n (fun _ => op_indexAddrN Try.underlying57 Try.sizeOf4 (.plain rfl) (.plain rfl) (fun _ => rfl) ?_) (.n (fun _ => op_load Try.isAgg4 (.plain rfl)) (.n (fun _ => op_assign (.plain rfl)) (.n (fun _ => op_assign (.plain rfl)) (.nil _)))))) ?_
    · omega
    refine awp_seq ?_
    refine awp_region rfl (.n (fun _ => op_move (.plain rfl)) (.nil _)) ?_
    refine awp_cond rfl (fun h => ?_) (fun h => ?_)
    · (try simp only [decide_eq_true_eq, decide_eq_false_iff_not, Bool.and_eq_true, Bool.or_eq_true, Bool.and_eq_false_iff, Bool.or_eq_false_iff, Bool.not_eq_true', Bool.not_eq_false', Bool.not_eq_true, Bool.not_eq_false, Bool.true_eq_false, Bool.false_eq_true] at h); (try simp only [fold_c, fold_o, Int.toNat_natCast] at h)
      refine awp_region rfl (.n (fun _ => op_move (.plain rfl)) (.n (fun _ => op_move (.plain rfl)) (.n (fun _ => op_slit (pp := [(0, _)]) (α := Int) (d := 0) (f := (fun n => [.int .i64 n])) [_] ety23 rfl ⟨rfl, (.plain rfl), (by simp), trivial⟩ rfl (by decide) rfl) (.e (op_append (id' := 17) (α := Int) (d := 0) (f := (fun n => [.int .i64 n])) ety23 Try.underlying23 (fun _ => rfl) (fun _ => rfl) (.plain rfl) rfl (.plain rfl) rfl ?_) rfl (.n (fun _ => op_assign (.plain rfl)) (.nil _)))))) ?_
      · have := where_len (fun i => l.getD i false) i
        simp only [List.length_cons, List.length_nil]
        omega
      refine awp_region rfl (.n (fun _ => op_add (.plain rfl) (.plain rfl) ?_) (.n (fun _ => op_move (.plain rfl)) (.nil _))) ?_
      · unfold InR; omega
      exact ⟨i + 1, by omega, by dsimp only; omega, (Ent.round 17 1003 ⟨rfl, rfl, rfl, rfl, trivial⟩ ⟨(congrArg (fun l => some (Blk.arr 3 1 Int 0 (fun n => [.int .i64 n]) l)) (by first | exact where_yes (p := fun i => l.getD i false) h | exact where_no (p := fun i => l.getD i false) (by rw [h]; simp))), trivial⟩ rfl rfl rfl ⟨rfl, rfl, rfl, rfl, trivial⟩ ⟨rfl, trivial⟩)⟩
    · (try simp only [decide_eq_true_eq, decide_eq_false_iff_not, Bool.and_eq_true, Bool.or_eq_true, Bool.and_eq_false_iff, Bool.or_eq_false_iff, Bool.not_eq_true', Bool.not_eq_false', Bool.not_eq_true, Bool.not_eq_false, Bool.true_eq_false, Bool.false_eq_true] at h); (try simp only [fold_c, fold_o, Int.toNat_natCast] at h)
      refine awp_skip ?_
      refine awp_region rfl (.n (fun _ => op_add (.plain rfl) (.plain rfl) ?_) (.n (fun _ => op_move (.plain rfl)) (.nil _))) ?_
      · unfold InR; omega
      exact ⟨i + 1, by omega, by dsimp only; omega, (Ent.kept ⟨rfl, rfl, rfl, rfl, trivial⟩ ⟨(congrArg (fun l => some (Blk.arr 3 1 Int 0 (fun n => [.int .i64 n]) l)) (by first | exact where_yes (p := fun i => l.getD i false) h | exact where_no (p := fun i => l.getD i false) (by rw [h]; simp))), trivial⟩)⟩
  · (try simp only [decide_eq_true_eq, decide_eq_false_iff_not, Bool.and_eq_true, Bool.or_eq_true, Bool.and_eq_false_iff, Bool.or_eq_false_iff, Bool.not_eq_true', Bool.not_eq_false', Bool.not_eq_true, Bool.not_eq_false, Bool.true_eq_false, Bool.false_eq_true] at h); (try simp only [fold_c, fold_o, Int.toNat_natCast] at h)
    refine awp_exit ?_
    refine awp_seq ?_
    refine awp_region rfl (.n (fun _ => op_move (.plain rfl)) (.n (fun _ => op_assign (.plain rfl)) (.nil _))) ?_
    refine awp_ret ?_
    refine retQ.ret ?_
    refine ret1 rfl rfl rfl ?_
    rw [show i = l.length by omega]

set_option maxRecDepth 1000000 in
set_option maxHeartbeats 1000000 in
theorem Smith_fc (n : Nat) (L : List (Int × List Int × Unit)) (hv : voteE n L = 0) : FC Try.prog 15 [.i (n : Nat), .seq (Int × List Int × Unit) (0, [], ()) (fun b => [.i b.1, .ints b.2.1]) L] (.tup [.ints (smithF n L), .i 0]) := by
  refine FC.intro Try.func15 rfl (Nat.le_of_ble_eq_true rfl) fun hfit => ?_
  have fit0 : -9223372036854775808 ≤ ((n : Nat) : Int) ∧ ((n : Nat) : Int) ≤ 9223372036854775807 := (hfit _ (.head _)).int64
  have fit1 := hfit _ (.tail _ (.head _))
  have hV := vok hv
  have hL30 := hV.len
  have hn := hV.n6
  have hn1 := hV.n1
  obtain ⟨tc, htc, htcn, htm⟩ := topF_is (L := L) hn1
  refine awp_seq ?_
  refine awp_region rfl (.n (fun _ => op_assign (.plain rfl)) (.n (fun _ => op_assign (.plain rfl)) (.nil _))) ?_
  refine awp_seq ?_
  refine awp_region rfl (.n (fun _ => op_move (.plain rfl)) (.n (fun _ => op_move (.plain rfl)) (.n (fun _ => op_call2 Try.call19 (.plain rfl) (.plain rfl) (Pairs_fc n L hv)) (.n (fun _ => op_move (.plain rfl)) (.n (fun _ => op_extract (.plain rfl) rfl) (.n (fun _ => op_extract (.plain rfl) rfl) (.n (fun _ => op_assign (.plain rfl)) (.n (fun _ => op_assign (.plain rfl)) (.nil _))))))))) ?_
  refine awp_seq ?_
  refine awp_seq ?_
  refine awp_region rfl (.n (fun _ => op_move (.plain rfl)) (.n (fun _ => op_neq (.plain rfl) (.plain rfl)) (.nil _))) ?_
  refine awp_cond rfl (fun h => ?_) (fun h => ?_)
  · (try simp only [decide_eq_true_eq, decide_eq_false_iff_not, Bool.and_eq_true, Bool.or_eq_true, Bool.and_eq_false_iff, Bool.or_eq_false_iff, Bool.not_eq_true', Bool.not_eq_false', Bool.not_eq_true, Bool.not_eq_false, Bool.true_eq_false, Bool.false_eq_true] at h); (try simp only [fold_c, fold_o, Int.toNat_natCast] at h)
    exfalso
    simp at h
  · (try simp only [decide_eq_true_eq, decide_eq_false_iff_not, Bool.and_eq_true, Bool.or_eq_true, Bool.and_eq_false_iff, Bool.or_eq_false_iff, Bool.not_eq_true', Bool.not_eq_false', Bool.not_eq_true, Bool.not_eq_false, Bool.true_eq_false, Bool.false_eq_true] at h); (try simp only [fold_c, fold_o, Int.toNat_natCast] at h)
    refine awp_skip ?_
    refine awp_seq ?_
    refine awp_region rfl (.n (fun _ => op_move (.plain rfl)) (.e (op_make (α := Bool) (d := false) (f := (fun b => [.bool b])) 24 false ety57 (.plain rfl) (.plain rfl) (fun _ => rfl) rfl rfl ?_) rfl (.n (fun _ => op_assign (.plain rfl)) (.nil _)))) ?_
    · (try simp only [Int.toNat_natCast, prM_length])
      (try have hsl := hS1.len)
      (try rw [prM_row (show iq < n by omega)])
      (try rw [prM_row (show kq < n by omega)])
      omega
    refine awp_seq ?_
    refine awp_region rfl (.n (fun _ => op_move (.plain rfl)) (.n (fun _ => op_move (.plain rfl)) (.n (fun _ => op_call2 Try.call14 (.plain rfl) (.plain rfl) (Copeland_fc n L hv)) (.n (fun _ => op_move (.plain rfl)) (.n (fun _ => op_extract (.plain rfl) rfl) (.n (fun _ => op_extract (.plain rfl) rfl) (.n (fun _ => op_assign (.plain rfl)) (.n (fun _ => op_assign (.plain rfl)) (.nil _))))))))) ?_
    refine awp_seq ?_
    refine awp_region rfl (.n (fun _ => op_move (.plain rfl)) (.n (fun _ => op_move (.plain rfl)) (.n (fun _ => op_move (.plain rfl)) (.n (fun _ => op_call1 Try.call48 (.plain rfl) (Max_fc (copL n L) ?_)) (.n (fun _ => op_call2 Try.call47 (.plain rfl) (.plain rfl) (Index_fc _ _)) (.r (op_indexAddrO Try.underlying57 Try.sizeOf4 (.plain rfl) rfl (.plain rfl) ?_) (.e (op_storeE _ Try.sizeOf4 (.plain rfl) (.plain rfl) rfl (fun _ => rfl) ?_ (by decide) rfl rfl) rfl (.nil _)))))))) ?_
    · (try simp only [Int.toNat_natCast, prM_length])
      (try have hsl := hS1.len)
      (try rw [prM_row (show iq < n by omega)])
      (try rw [prM_row (show kq < n by omega)])
      rw [copL_length]; exact hn1
    · (try simp only [Int.toNat_natCast, prM_length])
      (try have hsl := hS1.len)
      (try rw [prM_row (show iq < n by omega)])
      (try rw [prM_row (show kq < n by omega)])
      show 0 ≤ topF n L ∧ topF n L < _
      rw [htc]; simp; omega
    · (try simp only [Int.toNat_natCast, prM_length])
      (try have hsl := hS1.len)
      (try rw [prM_row (show iq < n by omega)])
      (try rw [prM_row (show kq < n by omega)])
      show (topF n L).toNat < _
      rw [htc]; simp; omega
    refine awp_seq ?_
    refine awp_seq ?_
    refine awp_region rfl (.n (fun _ => op_assign (.plain rfl)) (.nil _)) ?_
    refine awp_block ?_
    refine awp_loop (σ := List Bool × Bool) (fun (s : List Bool × Bool) => SmI n L s.1 ∧ (s.2 = false → ∀ j2, j2 < n → ∀ m2, m2 < n → stuckS L s.1 j2 m2)) (fun (s : List Bool × Bool) => ⟨[(0, .pv (.i (n : Nat))), (6, .pv (.rows (prM n L))), (8, .own 24), (11, .bool s.2)], [(24, .arr 4 1 Bool false (fun b => [.bool b]) s.1)]⟩) (fun (s : List Bool × Bool) => 2 * remB s.1 + (if s.2 = true then 1 else 0)) ((List.replicate n false).set (topF n L).toNat true, true) ?_ (Ent.kept ⟨rfl, rfl, rfl, rfl, trivial⟩ ⟨rfl, trivial⟩) ?_
    · exact ⟨SmI.start hn1, fun c => by cases c⟩
    rintro ⟨l0, ag⟩ hp
    try dsimp only at hp
    obtain ⟨hS, hs⟩ := hp
    refine awp_seq ?_
    refine awp_seq ?_
    refine awp_region rfl (.n (fun _ => op_move (.plain rfl)) (.nil _)) ?_
    refine awp_cond rfl (fun h => ?_) (fun h => ?_)
    · (try simp only [decide_eq_true_eq, decide_eq_false_iff_not, Bool.and_eq_true, Bool.or_eq_true, Bool.and_eq_false_iff, Bool.or_eq_false_iff, Bool.not_eq_true', Bool.not_eq_false', Bool.not_eq_true, Bool.not_eq_false, Bool.true_eq_false, Bool.false_eq_true] at h); (try simp only [fold_c, fold_o, Int.toNat_natCast] at h)
      subst h
      refine awp_skip ?_
      refine awp_block ?_
      refine awp_seq ?_
      refine awp_region rfl (.n (fun _ => op_assign (.plain rfl)) (.nil _)) ?_
      refine awp_seq ?_
      refine awp_region rfl (.n (fun _ => op_move (.plain rfl)) (.n (fun _ => op_move (.plain rfl)) (.nil _))) ?_
      refine awp_block ?_
      refine awp_loop (σ := List Bool × Bool × Nat) (fun (s : List Bool × Bool × Nat) => SmI n L s.1 ∧ s.2.2 ≤ n ∧ (s.2.1 = false → s.1 = l0 ∧ ∀ j, j < s.2.2 → ∀ m2, m2 < n → stuckS L l0 j m2) ∧ remB s.1 ≤ remB l0 ∧ (s.2.1 = true → remB s.1 < remB l0)) (fun (s : List Bool × Bool × Nat) => ⟨[(0, .pv (.i (n : Nat))), (6, .pv (.rows (prM n L))), (8, .own 24), (11, .bool s.2.1), (38, .int (n : Nat)), (39, .int (s.2.2 : Nat))], [(24, .arr 4 1 Bool false (fun b => [.bool b]) s.1)]⟩) (fun (s : List Bool × Bool × Nat) => n - s.2.2) (l0, false, 0) ?_ (Ent.kept ⟨rfl, rfl, rfl, rfl, rfl, rfl, trivial⟩ ⟨rfl, trivial⟩) ?_
      · exact ⟨hS, Nat.zero_le _, fun _ => ⟨rfl, fun j hj => absurd hj (Nat.not_lt_zero _)⟩, Nat.le_refl _, fun c => by cases c⟩
      rintro ⟨l1, ag1, iq⟩ hp
      try dsimp only at hp
      obtain ⟨hS1, hi, hst, hrm, hrl⟩ := hp
      refine awp_seq ?_
      refine awp_region rfl (.n (fun _ => op_lss (.plain rfl) (.plain rfl)) (.nil _)) ?_
      refine awp_seq ?_
      refine awp_cond rfl (fun h => ?_) (fun h => ?_)
      · (try simp only [decide_eq_true_eq, decide_eq_false_iff_not, Bool.and_eq_true, Bool.or_eq_true, Bool.and_eq_false_iff, Bool.or_eq_false_iff, Bool.not_eq_true', Bool.not_eq_false', Bool.not_eq_true, Bool.not_eq_false, Bool.true_eq_false, Bool.false_eq_true] at h); (try simp only [fold_c, fold_o, Int.toNat_natCast] at h)
        refine awp_skip ?_
        refine awp_seq ?_
        refine awp_block ?_
        refine awp_seq ?_
        refine awp_region rfl (.n (fun _ => op_move (.plain rfl)) (.n (fun _ => op_assign (.plain rfl)) (.nil _))) ?_
        refine awp_seq ?_
        refine awp_region rfl (.n (fun _ => op_move (.plain rfl)) (.n (fun _ => op_move (.plain rfl)) (.nil _))) ?_
        refine awp_block ?_
        refine awp_loop (σ := List Bool × Bool × Nat) (fun (s : List Bool × Bool × Nat) => SmI n L s.1 ∧ s.2.2 ≤ n ∧ (s.2.1 = false → s.1 = l0 ∧ (∀ j, j < iq → ∀ m2, m2 < n → stuckS L l0 j m2) ∧ ∀ z, z < s.2.2 → stuckS L l0 iq z) ∧ remB s.1 ≤ remB l0 ∧ (s.2.1 = true → remB s.1 < remB l0)) (fun (s : List Bool × Bool × Nat) => ⟨[(0, .pv (.i (n : Nat))), (6, .pv (.rows (prM n L))), (8, .own 24), (11, .bool s.2.1), (12, .int (iq : Nat)), (38, .int (n : Nat)), (39, .int (iq : Nat)), (42, .int (n : Nat)), (43, .int (s.2.2 : Nat))], [(24, .arr 4 1 Bool false (fun b => [.bool b]) s.1)]⟩) (fun (s : List Bool × Bool × Nat) => n - s.2.2) (l1, ag1, 0) ?_ (Ent.kept ⟨rfl, rfl, rfl, rfl, rfl, rfl, rfl, rfl, rfl, trivial⟩ ⟨rfl, trivial⟩) ?_
        · exact ⟨hS1, Nat.zero_le _, fun c => ⟨(hst c).1, (hst c).2, fun z hz => absurd hz (Nat.not_lt_zero _)⟩, hrm, hrl⟩
        rintro ⟨l2, ag2, kq⟩ hp
        try dsimp only at hp
        obtain ⟨hS2, hk, hst2, hrm2, hrl2⟩ := hp
        have hsl2 := hS2.len
        refine awp_seq ?_
        refine awp_region rfl (.n (fun _ => op_lss (.plain rfl) (.plain rfl)) (.nil _)) ?_
        refine awp_seq ?_
        refine awp_cond rfl (fun h => ?_) (fun h => ?_)
        · (try simp only [decide_eq_true_eq, decide_eq_false_iff_not, Bool.and_eq_true, Bool.or_eq_true, Bool.and_eq_false_iff, Bool.or_eq_false_iff, Bool.not_eq_true', Bool.not_eq_false', Bool.not_eq_true, Bool.not_eq_false, Bool.true_eq_false, Bool.false_eq_true] at h); (try simp only [fold_c, fold_o, Int.toNat_natCast] at h)
          refine awp_skip ?_
          refine awp_seq ?_
          refine awp_block ?_
          refine awp_seq ?_
          refine awp_region rfl (.n (fun _ => op_move (.plain rfl)) (.n (fun _ => op_assign (.plain rfl)) (.nil _))) ?_
          refine awp_seq ?_
          refine awp_region_draw mixed rfl (.n (fun _ => op_move (.plain rfl)) (.n (fun _ => op_move (.plain rfl)) (.r (op_indexAddrON Try.underlying57 Try.sizeOf4 (.plain rfl) rfl (.plain rfl) ?_) (.r (op_loadE Try.isAgg4 (.plain rfl) rfl (fun _ => rfl) ?_ rfl) (.n (fun _ => op_move (.plain rfl)) (.gn rfl rfl (fun hg _ => op_move (.plain rfl)) (.gn rfl rfl (fun hg _ => op_move (.plain rfl)) (.gr rfl rfl (fun hg => op_indexAddrON Try.underlying57 Try.sizeOf4 (.opt rfl fun h => h) rfl (.opt rfl fun h => h) ?_) (.gr rfl rfl (fun hg => op_loadE Try.isAgg4 (.opt rfl fun h => h) rfl (fun _ => rfl) ?_ rfl) (.gn rfl rfl (fun hg _ => op_not (.opt rfl fun h => h)) (.n (fun _ => op_and (.plain rfl) (.plain rfl) (.plain rfl) (fun h => eqT h)) (.n (fun _ => op_move (.plain rfl)) (.gn rfl rfl (fun hg _ => op_move (.plain rfl)) (.gn rfl rfl (fun hg _ => op_move (.plain rfl)) (.gn rfl rfl (fun hg _ => op_indexAddrN Try.underlying31 Try.sizeOf23 (.opt rfl fun h => h) (.opt rfl fun h => h) (fun _ => rfl) ?_) (.gn rfl rfl (fun hg _ => op_load Try.isAgg23 (.opt rfl fun h => h)) (.gn rfl rfl (fun hg _ => op_move (.plain rfl)) (.gn rfl rfl (fun hg _ => op_indexAddrN Try.underlying23 Try.sizeOf3 (.opt rfl fun h => h) (.opt rfl fun h => h) (fun _ => rfl) ?_) (.gn rfl rfl (fun hg _ => op_load Try.isAgg3 (.opt rfl fun h => h)) (.gn rfl rfl (fun hg _ => op_move (.plain rfl)) (.gn rfl rfl (fun hg _ => op_move (.plain rfl)) (.gn rfl rfl (fun hg _ => op_indexAddrN Try.underlying31 Try.sizeOf23 (.opt rfl fun h => h) (.opt rfl fun h => h) (fun _ => rfl) ?_) (.gn rfl rfl (fun hg _ => op_load Try.isAgg23 (.opt rfl fun h => h)) (.gn rfl rfl (fun hg _ => op_move (.plain rfl)) (.gn rfl rfl (fun hg _ => op_indexAddrN Try.underlying23 Try.sizeOf3 (.opt rfl fun h => h) (.opt rfl fun h => h) (fun _ => rfl) ?_) (.gn rfl rfl (fun hg _ => op_load Try.isAgg3 (.opt rfl fun h => h)) (.gn rfl rfl (fun hg _ => op_leq (.opt rfl fun h => h) (.opt rfl fun h => h)) (.n (fun _ => op_and (.plain rfl) (.plain rfl) (.plain rfl) (fun h => eqT h)) (.nil _))))))))))))))))))))))))))))) ?d1 ?_
          · (try simp only [Int.toNat_natCast, prM_length])
            (try have hsl := hS1.len)
            (try rw [prM_row (show iq < n by omega)])
            (try rw [prM_row (show kq < n by omega)])
            first | omega | (simp; omega)
          · (try simp only [Int.toNat_natCast, prM_length])
            (try have hsl := hS1.len)
            (try rw [prM_row (show iq < n by omega)])
            (try rw [prM_row (show kq < n by omega)])
            first | omega | (simp; omega)
          · try simp only [beq_iff_eq, beq_true, beq_false, Bool.and_eq_true, decide_eq_true_eq, decide_eq_false_iff_not, Bool.not_eq_true', Bool.or_eq_true, Bool.or_eq_false_iff] at hg
            (try simp only [Int.toNat_natCast, prM_length])
            (try have hsl := hS1.len)
            (try rw [prM_row (show iq < n by omega)])
            (try rw [prM_row (show kq < n by omega)])
            first | omega | (simp; omega)
          · try simp only [beq_iff_eq, beq_true, beq_false, Bool.and_eq_true, decide_eq_true_eq, decide_eq_false_iff_not, Bool.not_eq_true', Bool.or_eq_true, Bool.or_eq_false_iff] at hg
            (try simp only [Int.toNat_natCast, prM_length])
            (try have hsl := hS1.len)
            (try rw [prM_row (show iq < n by omega)])
            (try rw [prM_row (show kq < n by omega)])
            first | omega | (simp; omega)
          · try simp only [beq_iff_eq, beq_true, beq_false, Bool.and_eq_true, decide_eq_true_eq, decide_eq_false_iff_not, Bool.not_eq_true', Bool.or_eq_true, Bool.or_eq_false_iff] at hg
            (try simp only [Int.toNat_natCast, prM_length])
            (try have hsl := hS1.len)
            (try rw [prM_row (show iq < n by omega)])
            (try rw [prM_row (show kq < n by omega)])
            omega
          · try simp only [beq_iff_eq, beq_true, beq_false, Bool.and_eq_true, decide_eq_true_eq, decide_eq_false_iff_not, Bool.not_eq_true', Bool.or_eq_true, Bool.or_eq_false_iff] at hg
            (try simp only [Int.toNat_natCast, prM_length])
            (try have hsl := hS1.len)
            (try rw [prM_row (show iq < n by omega)])
            (try rw [prM_row (show kq < n by omega)])
            omega
          · try simp only [beq_iff_eq, beq_true, beq_false, Bool.and_eq_true, decide_eq_true_eq, decide_eq_false_iff_not, Bool.not_eq_true', Bool.or_eq_true, Bool.or_eq_false_iff] at hg
            (try simp only [Int.toNat_natCast, prM_length])
            (try have hsl := hS1.len)
            (try rw [prM_row (show iq < n by omega)])
            (try rw [prM_row (show kq < n by omega)])
            omega
          · try simp only [beq_iff_eq, beq_true, beq_false, Bool.and_eq_true, decide_eq_true_eq, decide_eq_false_iff_not, Bool.not_eq_true', Bool.or_eq_true, Bool.or_eq_false_iff] at hg
            (try simp only [Int.toNat_natCast, prM_length])
            (try have hsl := hS1.len)
            (try rw [prM_row (show iq < n by omega)])
            (try rw [prM_row (show kq < n by omega)])
            omega
          · kernel_rfl
          refine awp_cond rfl (fun h => ?_) (fun h => ?_)
          · (try simp only [decide_eq_true_eq, decide_eq_false_iff_not, Bool.and_eq_true, Bool.or_eq_true, Bool.and_eq_false_iff, Bool.or_eq_false_iff, Bool.not_eq_true', Bool.not_eq_false', Bool.not_eq_true, Bool.not_eq_false, Bool.true_eq_false, Bool.false_eq_true] at h); (try simp only [fold_c, fold_o, Int.toNat_natCast] at h)
            rw [prM_two (show iq < n by omega) (show kq < n by omega), prM_two (show kq < n by omega) (show iq < n by omega)] at h
            have hS3 := hS2.add (show iq < n by omega) (show kq < n by omega) h.1.1 h.2
            have hr2 := remB_set (show kq < l2.length by omega) h.1.2
            refine awp_region rfl (.n (fun _ => op_move (.plain rfl)) (.n (fun _ => op_move (.plain rfl)) (.r (op_indexAddrON Try.underlying57 Try.sizeOf4 (.plain rfl) rfl (.plain rfl) ?_) (.e (op_storeE _ Try.sizeOf4 (.plain rfl) (.plain rfl) rfl (fun _ => rfl) ?_ (by decide) rfl rfl) rfl (.n (fun _ => op_assign (.plain rfl)) (.nil _)))))) ?_
            · (try simp only [Int.toNat_natCast, prM_length])
              (try have hsl := hS1.len)
              (try rw [prM_row (show iq < n by omega)])
              (try rw [prM_row (show kq < n by omega)])
              first | omega | (simp; omega)
            · (try simp only [Int.toNat_natCast, prM_length])
              (try have hsl := hS1.len)
              (try rw [prM_row (show iq < n by omega)])
              (try rw [prM_row (show kq < n by omega)])
              first | omega | (simp; omega)
            refine awp_region rfl (.n (fun _ => op_add (.plain rfl) (.plain rfl) ?_) (.n (fun _ => op_move (.plain rfl)) (.nil _))) ?_
            · (try simp only [Int.toNat_natCast, prM_length])
              (try have hsl := hS1.len)
              (try rw [prM_row (show iq < n by omega)])
              (try rw [prM_row (show kq < n by omega)])
              unfold InR; omega
            exact ⟨(l2.set kq true, true, kq + 1), ⟨hS3, by dsimp only; omega, (fun c => by cases c), by dsimp only; omega, (fun _ => by dsimp only; omega)⟩, by dsimp only; omega, (Ent.kept ⟨rfl, rfl, rfl, rfl, rfl, rfl, rfl, rfl, rfl, trivial⟩ ⟨rfl, trivial⟩)⟩
          · (try simp only [decide_eq_true_eq, decide_eq_false_iff_not, Bool.and_eq_true, Bool.or_eq_true, Bool.and_eq_false_iff, Bool.or_eq_false_iff, Bool.not_eq_true', Bool.not_eq_false', Bool.not_eq_true, Bool.not_eq_false, Bool.true_eq_false, Bool.false_eq_true] at h); (try simp only [fold_c, fold_o, Int.toNat_natCast] at h)
            rw [prM_two (show iq < n by omega) (show kq < n by omega), prM_two (show kq < n by omega) (show iq < n by omega)] at h
            have hst0 : stuckS L l2 iq kq := fun c => by
              rcases h with (h | h) | h
              · rw [c.1.1] at h; cases h
              · rw [c.1.2] at h; cases h
              · exact h c.2
            refine awp_skip ?_
            refine awp_region rfl (.n (fun _ => op_add (.plain rfl) (.plain rfl) ?_) (.n (fun _ => op_move (.plain rfl)) (.nil _))) ?_
            · (try simp only [Int.toNat_natCast, prM_length])
              (try have hsl := hS1.len)
              (try rw [prM_row (show iq < n by omega)])
              (try rw [prM_row (show kq < n by omega)])
              unfold InR; omega
            refine ⟨(l2, ag2, kq + 1), ⟨hS2, by dsimp only; omega, fun c => ⟨(hst2 c).1, (hst2 c).2.1, fun z hz => ?_⟩, hrm2, hrl2⟩, by dsimp only; omega, (Ent.kept ⟨rfl, rfl, rfl, rfl, rfl, rfl, rfl, rfl, rfl, trivial⟩ ⟨rfl, trivial⟩)⟩
            by_cases e : z = kq
            · subst e; rw [← (hst2 c).1]; exact hst0
            · exact (hst2 c).2.2 z (by dsimp only at hz; omega)
        · (try simp only [decide_eq_true_eq, decide_eq_false_iff_not, Bool.and_eq_true, Bool.or_eq_true, Bool.and_eq_false_iff, Bool.or_eq_false_iff, Bool.not_eq_true', Bool.not_eq_false', Bool.not_eq_true, Bool.not_eq_false, Bool.true_eq_false, Bool.false_eq_true] at h); (try simp only [fold_c, fold_o, Int.toNat_natCast] at h)
          refine awp_exit ?_
          refine awp_region rfl (.n (fun _ => op_add (.plain rfl) (.plain rfl) ?_) (.n (fun _ => op_move (.plain rfl)) (.nil _))) ?_
          · (try simp only [Int.toNat_natCast, prM_length])
            (try have hsl := hS1.len)
            (try rw [prM_row (show iq < n by omega)])
            (try rw [prM_row (show kq < n by omega)])
            unfold InR; omega
          refine ⟨(l2, ag2, iq + 1), ⟨hS2, by dsimp only; omega, fun c => ⟨(hst2 c).1, fun j hj kq hk => ?_⟩, hrm2, hrl2⟩, by dsimp only; omega, (Ent.kept ⟨rfl, rfl, rfl, rfl, rfl, rfl, trivial⟩ ⟨rfl, trivial⟩)⟩
          by_cases e : j = iq
          · subst e; exact (hst2 c).2.2 kq (by omega)
          · exact (hst2 c).2.1 j (by dsimp only at hj; omega) kq hk
      · (try simp only [decide_eq_true_eq, decide_eq_false_iff_not, Bool.and_eq_true, Bool.or_eq_true, Bool.and_eq_false_iff, Bool.or_eq_false_iff, Bool.not_eq_true', Bool.not_eq_false', Bool.not_eq_true, Bool.not_eq_false, Bool.true_eq_false, Bool.false_eq_true] at h); (try simp only [fold_c, fold_o, Int.toNat_natCast] at h)
        refine awp_exit ?_
        refine ⟨(l1, ag1), ⟨hS1, fun c => by have := hst c; rw [this.1]; exact fun i2 hi2 kq hk => this.2 i2 (by omega) kq hk⟩, ?_, (Ent.kept ⟨rfl, rfl, rfl, rfl, trivial⟩ ⟨rfl, trivial⟩)⟩
        dsimp only
        cases ag1 with
        | true => have := hrl rfl; simp; omega
        | false => simp; omega
    · (try simp only [decide_eq_true_eq, decide_eq_false_iff_not, Bool.and_eq_true, Bool.or_eq_true, Bool.and_eq_false_iff, Bool.or_eq_false_iff, Bool.not_eq_true', Bool.not_eq_false', Bool.not_eq_true, Bool.not_eq_false, Bool.true_eq_false, Bool.false_eq_true] at h); (try simp only [fold_c, fold_o, Int.toNat_natCast] at h)
      have hS2 := hs h
      refine awp_exit ?_
      refine awp_seq ?_
      refine awp_ent (Ent.give 8 rfl rfl) ?_
      refine awp_region rfl (.n (fun _ => op_move (.plain rfl)) (.n (fun _ => op_call1 Try.call49 (.plain rfl) (where_fc _ ?_)) (.n (fun _ => op_assign (.plain rfl)) (.n (fun _ => op_assign (.plain rfl)) (.nil _))))) ?_
      · (try simp only [Int.toNat_natCast, prM_length])
        (try have hsl := hS1.len)
        (try rw [prM_row (show iq < n by omega)])
        (try rw [prM_row (show kq < n by omega)])
        have := hS.len
        omega
      refine awp_ret ?_
      refine retQ.ret ?_
      refine ret2 rfl rfl rfl rfl rfl ?_
      rw [hS.done hS2]

set_option maxRecDepth 1000000 in
set_option maxHeartbeats 1000000 in
theorem Bits_fc (s n : Nat) (hn : n ≤ 6) : FC Try.prog 63 [.i (s : Nat), .i (n : Nat)] (.ints (whereTo s.testBit n)) := by
  refine FC.intro Try.func63 rfl (Nat.le_of_ble_eq_true rfl) fun hfit => ?_
  have fit0 : -9223372036854775808 ≤ ((s : Nat) : Int) ∧ ((s : Nat) : Int) ≤ 9223372036854775807 := (hfit _ (.head _)).int64
  have fit1 : -9223372036854775808 ≤ ((n : Nat) : Int) ∧ ((n : Nat) : Int) ≤ 9223372036854775807 := (hfit _ (.tail _ (.head _))).int64
  refine awp_seq ?_
  refine awp_region rfl (.n (fun _ => op_assign (.plain rfl)) (.nil _)) ?_
  refine awp_seq ?_
  refine awp_region rfl (.n (fun _ => op_assign (.plain rfl)) (.nil _)) ?_
  refine awp_seq ?_
  refine awp_seq ?_
  refine awp_region rfl (.n (fun _ => op_assign (.plain rfl)) (.nil _)) ?_
  refine awp_block ?_
  refine awp_ent (Ent.begin 5 1005 3 1 Int 0 (fun n => [.int .i64 n]) rfl rfl rfl) ?_
  refine awp_loop (σ := Nat) (fun (i : Nat) => i ≤ n) (fun (i : Nat) => ⟨[(0, .pv (.i (s : Nat))), (1, .pv (.i (n : Nat))), (5, .own 1005), (6, .int (i : Nat))], [(1005, .arr 3 1 Int 0 (fun n => [.int .i64 n]) (whereTo s.testBit i))]⟩) (fun (i : Nat) => n - i) 0 ?_ (Ent.kept ⟨rfl, rfl, rfl, rfl, trivial⟩ ⟨rfl, trivial⟩) ?_
  · exact Nat.zero_le _
  rintro i hp
  try dsimp only at hp
  have hi := hp
  refine awp_seq ?_
  refine awp_seq ?_
  refine awp_region rfl (.n (fun _ => op_move (.plain rfl)) (.n (fun _ => op_move (.plain rfl)) (.n (fun _ => op_lss (.plain rfl) (.plain rfl)) (.nil _)))) ?_
  refine awp_cond rfl (fun h => ?_) (fun h => ?_)
  · (try simp only [decide_eq_true_eq, decide_eq_false_iff_not, Bool.and_eq_true, Bool.or_eq_true, Bool.and_eq_false_iff, Bool.or_eq_false_iff, Bool.not_eq_true', Bool.not_eq_false', Bool.not_eq_true, Bool.not_eq_false, Bool.true_eq_false, Bool.false_eq_true] at h); (try simp only [fold_c, fold_o, Int.toNat_natCast] at h)
    refine awp_skip ?_
    refine awp_seq ?_
    refine awp_block ?_
    refine awp_seq ?_
    refine awp_region rfl (.n (fun _ => op_move (.plain rfl)) (.n (fun _ => op_move (.plain rfl)) (.n (fun _ => op_shl (.plain rfl) (.plain rfl) ?_) (.n (fun _ => op_quo (.plain rfl) (.plain rfl) ?_) (.n (fun _ => op_rem (.plain rfl) (.plain rfl) ?_) (.n (fun _ => op_eql (.plain rfl) (.plain rfl)) (.nil _))))))) ?_
    · have h6 := shl_bd (show i ≤ 6 by omega)
      exact ⟨by omega, by omega, by unfold InR; omega⟩
    · have h6 := (shl_bd (show i ≤ 6 by omega)).2; omega
    · have h6 := (shl_bd (show i ≤ 6 by omega)).2; exact ⟨Int.ediv_nonneg (by omega) (by omega), by omega⟩
    refine awp_cond rfl (fun h => ?_) (fun h => ?_)
    · (try simp only [decide_eq_true_eq, decide_eq_false_iff_not, Bool.and_eq_true, Bool.or_eq_true, Bool.and_eq_false_iff, Bool.or_eq_false_iff, Bool.not_eq_true', Bool.not_eq_false', Bool.not_eq_true, Bool.not_eq_false, Bool.true_eq_false, Bool.false_eq_true] at h); (try simp only [fold_c, fold_o, Int.toNat_natCast] at h)
      rw [bit_quo2] at h
      have hb : s.testBit i = true := by cases e : s.testBit i with | false => rw [e] at h; simp at h | true => rfl
      refine awp_region rfl (.n (fun _ => op_move (.plain rfl)) (.n (fun _ => op_move (.plain rfl)) (.n (fun _ => op_slit (pp := [(0, _)]) (α := Int) (d := 0) (f := (fun n => [.int .i64 n])) [_] ety23 rfl ⟨rfl, (.plain rfl), (by simp), trivial⟩ rfl (by decide) rfl) (.e (op_append (id' := 21) (α := Int) (d := 0) (f := (fun n => [.int .i64 n])) ety23 Try.underlying23 (fun _ => rfl) (fun _ => rfl) (.plain rfl) rfl (.plain rfl) rfl ?_) rfl (.n (fun _ => op_assign (.plain rfl)) (.nil _)))))) ?_
      · have := where_len s.testBit i
        simp only [List.length_cons, List.length_nil]
        omega
      refine awp_region rfl (.n (fun _ => op_move (.plain rfl)) (.n (fun _ => op_add (.plain rfl) (.plain rfl) ?_) (.n (fun _ => op_assign (.plain rfl)) (.nil _)))) ?_
      · unfold InR; omega
      exact ⟨i + 1, by omega, by dsimp only; omega, (Ent.round 21 1005 ⟨rfl, rfl, rfl, rfl, trivial⟩ ⟨(congrArg (fun l => some (Blk.arr 3 1 Int 0 (fun n => [.int .i64 n]) l)) (by first | exact where_yes hb | exact where_no hb)), trivial⟩ rfl rfl rfl ⟨rfl, rfl, rfl, rfl, trivial⟩ ⟨rfl, trivial⟩)⟩
    · (try simp only [decide_eq_true_eq, decide_eq_false_iff_not, Bool.and_eq_true, Bool.or_eq_true, Bool.and_eq_false_iff, Bool.or_eq_false_iff, Bool.not_eq_true', Bool.not_eq_false', Bool.not_eq_true, Bool.not_eq_false, Bool.true_eq_false, Bool.false_eq_true] at h); (try simp only [fold_c, fold_o, Int.toNat_natCast] at h)
      rw [bit_quo2] at h
      have hb : ¬ s.testBit i = true := by cases e : s.testBit i with | true => rw [e] at h; simp at h | false => simp
      refine awp_skip ?_
      refine awp_region rfl (.n (fun _ => op_move (.plain rfl)) (.n (fun _ => op_add (.plain rfl) (.plain rfl) ?_) (.n (fun _ => op_assign (.plain rfl)) (.nil _)))) ?_
      · unfold InR; omega
      exact ⟨i + 1, by omega, by dsimp only; omega, (Ent.kept ⟨rfl, rfl, rfl, rfl, trivial⟩ ⟨(congrArg (fun l => some (Blk.arr 3 1 Int 0 (fun n => [.int .i64 n]) l)) (by first | exact where_yes hb | exact where_no hb)), trivial⟩)⟩
  · (try simp only [decide_eq_true_eq, decide_eq_false_iff_not, Bool.and_eq_true, Bool.or_eq_true, Bool.and_eq_false_iff, Bool.or_eq_false_iff, Bool.not_eq_true', Bool.not_eq_false', Bool.not_eq_true, Bool.not_eq_false, Bool.true_eq_false, Bool.false_eq_true] at h); (try simp only [fold_c, fold_o, Int.toNat_natCast] at h)
    refine awp_exit ?_
    refine awp_seq ?_
    refine awp_region rfl (.n (fun _ => op_move (.plain rfl)) (.n (fun _ => op_assign (.plain rfl)) (.nil _))) ?_
    refine awp_ret ?_
    refine retQ.ret ?_
    refine ret1 rfl rfl rfl ?_
    rw [show i = n by omega]

set_option maxRecDepth 1000000 in
set_option maxHeartbeats 1000000 in
theorem In_fc (x : Int) (l : List Int) : FC Try.prog 26 [.i x, .ints l] (.bool (decide (0 ≤ placeF l x))) := by
  refine FC.intro Try.func26 rfl (Nat.le_of_ble_eq_true rfl) fun hfit => ?_
  have fit0 : -9223372036854775808 ≤ (x : Int) ∧ (x : Int) ≤ 9223372036854775807 := (hfit _ (.head _)).int64
  obtain ⟨fitl1, fitr1⟩ := (hfit _ (.tail _ (.head _))).ints
  refine awp_seq ?_
  refine awp_region rfl (.n (fun _ => op_assign (.plain rfl)) (.nil _)) ?_
  refine awp_seq ?_
  refine awp_region rfl (.n (fun _ => op_move (.plain rfl)) (.n (fun _ => op_move (.plain rfl)) (.n (fun _ => op_call2 Try.call25 (.plain rfl) (.plain rfl) (Place_fc _ _)) (.n (fun _ => op_geq (.plain rfl) (.plain rfl)) (.n (fun _ => op_assign (.plain rfl)) (.nil _)))))) ?_
  refine awp_ret ?_
  refine retQ.ret ?_
  refine ret1 rfl rfl rfl ?_
  rfl

set_option maxRecDepth 1000000 in
set_option maxHeartbeats 1000000 in
theorem rules_fc (n : Nat) (L : List (Int × List Int × Unit)) (hv : voteE n L = 0) (s : List Int) : FC Try.prog 64 [.i (n : Nat), .seq (Int × List Int × Unit) (0, [], ()) (fun b => [.i b.1, .ints b.2.1]) L, .ints s] (.bool (rulesF n L s)) := by
  refine FC.intro Try.func64 rfl (Nat.le_of_ble_eq_true rfl) fun hfit => ?_
  have fit0 : -9223372036854775808 ≤ ((n : Nat) : Int) ∧ ((n : Nat) : Int) ≤ 9223372036854775807 := (hfit _ (.head _)).int64
  have fit1 := hfit _ (.tail _ (.head _))
  obtain ⟨fitl2, fitr2⟩ := (hfit _ (.tail _ (.tail _ (.head _)))).ints
  have hV := vok hv
  have hL30 := hV.len
  have hn := hV.n6
  have hn1 := hV.n1
  refine awp_seq ?_
  refine awp_region rfl (.n (fun _ => op_assign (.plain rfl)) (.nil _)) ?_
  refine awp_seq ?_
  refine awp_seq ?_
  refine awp_region rfl (.n (fun _ => op_assign (.plain rfl)) (.nil _)) ?_
  refine awp_block ?_
  refine awp_loop (σ := Nat) (fun (i : Nat) => i ≤ s.length ∧ firstI (rulB n L s) i = none) (fun (i : Nat) => ⟨[(0, .pv (.i (n : Nat))), (1, .pv (.seq (Int × List Int × Unit) (0, [], ()) (fun b => [.i b.1, .ints b.2.1]) L)), (2, .pv (.ints s)), (7, .int (i : Nat))], []⟩) (fun (i : Nat) => s.length - i) 0 ?_ (Ent.kept ⟨rfl, rfl, rfl, rfl, trivial⟩ trivial) ?_
  · exact ⟨Nat.zero_le _, rfl⟩
  rintro i hp
  try dsimp only at hp
  obtain ⟨hi, hE⟩ := hp
  refine awp_seq ?_
  refine awp_seq ?_
  refine awp_region rfl (.n (fun _ => op_move (.plain rfl)) (.n (fun _ => op_move (.plain rfl)) (.n (fun _ => op_len (s := 0) Try.underlying23 (.plain rfl)) (.n (fun _ => op_lss (.plain rfl) (.plain rfl)) (.nil _))))) ?_
  refine awp_cond rfl (fun h => ?_) (fun h => ?_)
  · (try simp only [decide_eq_true_eq, decide_eq_false_iff_not, Bool.and_eq_true, Bool.or_eq_true, Bool.and_eq_false_iff, Bool.or_eq_false_iff, Bool.not_eq_true', Bool.not_eq_false', Bool.not_eq_true, Bool.not_eq_false, Bool.true_eq_false, Bool.false_eq_true] at h); (try simp only [fold_c, fold_o, Int.toNat_natCast] at h)
    refine awp_skip ?_
    refine awp_seq ?_
    refine awp_block ?_
    refine awp_seq ?_
    refine awp_region rfl (.n (fun _ => op_assign (.plain rfl)) (.nil _)) ?_
    refine awp_block ?_
    refine awp_loop (σ := Nat) (fun (y : Nat) => y ≤ n ∧ firstI (fun y => !decide (0 ≤ placeF s (y : Nat)) && !beatsF L (s.getD i 0) (y : Nat)) y = none) (fun (y : Nat) => ⟨[(0, .pv (.i (n : Nat))), (1, .pv (.seq (Int × List Int × Unit) (0, [], ()) (fun b => [.i b.1, .ints b.2.1]) L)), (2, .pv (.ints s)), (7, .int (i : Nat)), (8, .int (y : Nat))], []⟩) (fun (y : Nat) => n - y) 0 ?_ (Ent.kept ⟨rfl, rfl, rfl, rfl, rfl, trivial⟩ trivial) ?_
    · exact ⟨Nat.zero_le _, rfl⟩
    rintro y hp
    try dsimp only at hp
    obtain ⟨hy, hF⟩ := hp
    refine awp_seq ?_
    refine awp_seq ?_
    refine awp_region rfl (.n (fun _ => op_move (.plain rfl)) (.n (fun _ => op_move (.plain rfl)) (.n (fun _ => op_lss (.plain rfl) (.plain rfl)) (.nil _)))) ?_
    refine awp_cond rfl (fun h => ?_) (fun h => ?_)
    · (try simp only [decide_eq_true_eq, decide_eq_false_iff_not, Bool.and_eq_true, Bool.or_eq_true, Bool.and_eq_false_iff, Bool.or_eq_false_iff, Bool.not_eq_true', Bool.not_eq_false', Bool.not_eq_true, Bool.not_eq_false, Bool.true_eq_false, Bool.false_eq_true] at h); (try simp only [fold_c, fold_o, Int.toNat_natCast] at h)
      refine awp_skip ?_
      refine awp_seq ?_
      refine awp_block ?_
      refine awp_seq ?_
      refine awp_region rfl (.n (fun _ => op_move (.plain rfl)) (.n (fun _ => op_move (.plain rfl)) (.n (fun _ => op_call2 Try.call26 (.plain rfl) (.plain rfl) (In_fc _ _)) (.n (fun _ => op_assign (.plain rfl)) (.nil _))))) ?_
      refine awp_seq ?_
      refine awp_region rfl (.n (fun _ => op_move (.plain rfl)) (.n (fun _ => op_move (.plain rfl)) (.n (fun _ => op_move (.plain rfl)) (.n (fun _ => op_indexAddrN Try.underlying23 Try.sizeOf3 (.plain rfl) (.plain rfl) (fun _ => rfl) ?_) (.n (fun _ => op_load Try.isAgg3 (.plain rfl)) (.n (fun _ => op_move (.plain rfl)) (.n (fun _ => op_call3 Try.call62 (.plain rfl) (.plain rfl) (.plain rfl) (Beats_fc n L hv _ _)) (.n (fun _ => op_assign (.plain rfl)) (.nil _))))))))) ?_
      · omega
      refine awp_seq ?_
      refine awp_region rfl (.n (fun _ => op_move (.plain rfl)) (.n (fun _ => op_not (.plain rfl)) (.n (fun _ => op_move (.plain rfl)) (.gn rfl rfl (fun hg _ => op_move (.plain rfl)) (.gn rfl rfl (fun hg _ => op_not (.opt rfl fun h => h)) (.n (fun _ => op_and (.plain rfl) (.plain rfl) (.plain rfl) (fun h => eqT h)) (.nil _))))))) ?_
      refine awp_cond rfl (fun h => ?_) (fun h => ?_)
      · (try simp only [decide_eq_true_eq, decide_eq_false_iff_not, Bool.and_eq_true, Bool.or_eq_true, Bool.and_eq_false_iff, Bool.or_eq_false_iff, Bool.not_eq_true', Bool.not_eq_false', Bool.not_eq_true, Bool.not_eq_false, Bool.true_eq_false, Bool.false_eq_true] at h); (try simp only [fold_c, fold_o, Int.toNat_natCast] at h)
        refine awp_seq ?_
        refine awp_region rfl (.n (fun _ => op_assign (.plain rfl)) (.nil _)) ?_
        refine awp_ret ?_
        refine retQ.ret ?_
        refine ret1 rfl rfl rfl ?_
        exact congrArg PV.bool (rules_no hE (by omega) (rulB_yes hF (by omega) h.1 h.2))
      · (try simp only [decide_eq_true_eq, decide_eq_false_iff_not, Bool.and_eq_true, Bool.or_eq_true, Bool.and_eq_false_iff, Bool.or_eq_false_iff, Bool.not_eq_true', Bool.not_eq_false', Bool.not_eq_true, Bool.not_eq_false, Bool.true_eq_false, Bool.false_eq_true] at h); (try simp only [fold_c, fold_o, Int.toNat_natCast] at h)
        refine awp_skip ?_
        refine awp_region rfl (.n (fun _ => op_move (.plain rfl)) (.n (fun _ => op_add (.plain rfl) (.plain rfl) ?_) (.n (fun _ => op_assign (.plain rfl)) (.nil _)))) ?_
        · unfold InR; omega
        exact ⟨y + 1, ⟨by omega, firstI_succ hF (rul_skip h)⟩, by dsimp only; omega, (Ent.kept ⟨rfl, rfl, rfl, rfl, rfl, trivial⟩ trivial)⟩
    · (try simp only [decide_eq_true_eq, decide_eq_false_iff_not, Bool.and_eq_true, Bool.or_eq_true, Bool.and_eq_false_iff, Bool.or_eq_false_iff, Bool.not_eq_true', Bool.not_eq_false', Bool.not_eq_true, Bool.not_eq_false, Bool.true_eq_false, Bool.false_eq_true] at h); (try simp only [fold_c, fold_o, Int.toNat_natCast] at h)
      refine awp_exit ?_
      refine awp_region rfl (.n (fun _ => op_move (.plain rfl)) (.n (fun _ => op_add (.plain rfl) (.plain rfl) ?_) (.n (fun _ => op_assign (.plain rfl)) (.nil _)))) ?_
      · unfold InR; omega
      exact ⟨i + 1, ⟨by omega, firstI_succ hE (rulB_no ((show y = n by omega) ▸ hF))⟩, by dsimp only; omega, (Ent.kept ⟨rfl, rfl, rfl, rfl, trivial⟩ trivial)⟩
  · (try simp only [decide_eq_true_eq, decide_eq_false_iff_not, Bool.and_eq_true, Bool.or_eq_true, Bool.and_eq_false_iff, Bool.or_eq_false_iff, Bool.not_eq_true', Bool.not_eq_false', Bool.not_eq_true, Bool.not_eq_false, Bool.true_eq_false, Bool.false_eq_true] at h); (try simp only [fold_c, fold_o, Int.toNat_natCast] at h)
    refine awp_exit ?_
    refine awp_seq ?_
    refine awp_region rfl (.n (fun _ => op_assign (.plain rfl)) (.nil _)) ?_
    refine awp_ret ?_
    refine retQ.ret ?_
    refine ret1 rfl rfl rfl ?_
    exact congrArg PV.bool (rules_yes ((show i = s.length by omega) ▸ hE))

set_option maxRecDepth 1000000 in
set_option maxHeartbeats 1000000 in
theorem RSmith_fc (n : Nat) (L : List (Int × List Int × Unit)) (hv : voteE n L = 0) : FC Try.prog 35 [.i (n : Nat), .seq (Int × List Int × Unit) (0, [], ()) (fun b => [.i b.1, .ints b.2.1]) L] (.ints (smithF n L)) := by
  refine FC.intro Try.func35 rfl (Nat.le_of_ble_eq_true rfl) fun hfit => ?_
  have fit0 : -9223372036854775808 ≤ ((n : Nat) : Int) ∧ ((n : Nat) : Int) ≤ 9223372036854775807 := (hfit _ (.head _)).int64
  have fit1 := hfit _ (.tail _ (.head _))
  have hV := vok hv
  have hL30 := hV.len
  have hn := hV.n6
  have hn1 := hV.n1
  have hp64 : (2 : Nat) ^ n ≤ 64 := Nat.le_trans (Nat.pow_le_pow_right (by omega) hn) (by decide)
  have hm := smM_in (L := L) hn1
  refine awp_seq ?_
  refine awp_region rfl (.n (fun _ => op_assign (.plain rfl)) (.nil _)) ?_
  refine awp_seq ?_
  refine awp_region rfl (.n (fun _ => op_assign (.plain rfl)) (.nil _)) ?_
  refine awp_seq ?_
  refine awp_seq ?_
  refine awp_ent (Ent.nilseq 5 Int 0 (fun n => [.int .i64 n]) rfl) ?_
  refine awp_region rfl (.n (fun _ => op_assign (.plain rfl)) (.nil _)) ?_
  refine awp_block ?_
  refine awp_loop (σ := Nat × List Int) (fun (s : Nat × List Int) => 1 ≤ s.1 ∧ s.1 ≤ 2 ^ n ∧ SmR n L s.1 s.2) (fun (s : Nat × List Int) => ⟨[(0, .pv (.i (n : Nat))), (1, .pv (.seq (Int × List Int × Unit) (0, [], ()) (fun b => [.i b.1, .ints b.2.1]) L)), (5, .pv (.ints s.2)), (6, .int (s.1 : Nat))], []⟩) (fun (s : Nat × List Int) => 2 ^ n - s.1) (1, []) ?_ (Ent.kept ⟨rfl, rfl, rfl, rfl, trivial⟩ trivial) ?_
  · exact ⟨Nat.le_refl _, by dsimp only; omega, SmR.start hn1⟩
  rintro ⟨s, best⟩ hp
  try dsimp only at hp
  obtain ⟨hs, hs2, hR⟩ := hp
  have hbl := hR.len
  refine awp_seq ?_
  refine awp_seq ?_
  refine awp_region rfl (.n (fun _ => op_move (.plain rfl)) (.n (fun _ => op_move (.plain rfl)) (.n (fun _ => op_shl (.plain rfl) (.plain rfl) ?_) (.n (fun _ => op_lss (.plain rfl) (.plain rfl)) (.nil _))))) ?_
  · have h6 := shl_bd (show n ≤ 6 by omega)
    exact ⟨by omega, by omega, by unfold InR; omega⟩
  refine awp_cond rfl (fun h => ?_) (fun h => ?_)
  · (try simp only [decide_eq_true_eq, decide_eq_false_iff_not, Bool.and_eq_true, Bool.or_eq_true, Bool.and_eq_false_iff, Bool.or_eq_false_iff, Bool.not_eq_true', Bool.not_eq_false', Bool.not_eq_true, Bool.not_eq_false, Bool.true_eq_false, Bool.false_eq_true] at h); (try simp only [fold_c, fold_o, Int.toNat_natCast] at h)
    have hlt : s < 2 ^ n := by
      have h8 : ((2 ^ n : Nat) : Int) = 2 ^ n := by simp
      rw [Int.one_mul, ← h8] at h
      exact Int.ofNat_lt.1 h
    clear h
    refine awp_skip ?_
    refine awp_seq ?_
    refine awp_block ?_
    refine awp_seq ?_
    refine awp_region rfl (.n (fun _ => op_move (.plain rfl)) (.n (fun _ => op_move (.plain rfl)) (.n (fun _ => op_call2 Try.call63 (.plain rfl) (.plain rfl) (Bits_fc s n ?_)) (.n (fun _ => op_assign (.plain rfl)) (.nil _))))) ?_
    · omega
    refine awp_seq ?_
    refine awp_region rfl (.n (fun _ => op_move (.plain rfl)) (.n (fun _ => op_move (.plain rfl)) (.n (fun _ => op_move (.plain rfl)) (.n (fun _ => op_call3 Try.call64 (.plain rfl) (.plain rfl) (.plain rfl) (rules_fc n L hv _)) (.n (fun _ => op_assign (.plain rfl)) (.nil _)))))) ?_
    refine awp_seq ?_
    refine awp_region rfl (.n (fun _ => op_move (.plain rfl)) (.n (fun _ => op_move (.plain rfl)) (.gn rfl rfl (fun hg _ => op_move (.plain rfl)) (.gn rfl rfl (fun hg _ => op_len (s := 0) Try.underlying23 (.opt rfl fun h => h)) (.gn rfl rfl (fun hg _ => op_eql (.opt rfl fun h => h) (.plain rfl)) (.gn rfl rfl (fun hg _ => op_move (.opt rfl fun h => h)) (.ggn rfl rfl (fun hg _ => op_move (.plain rfl)) (.ggn rfl rfl (fun hg _ => op_len (s := 0) Try.underlying23 (.opt rfl fun h => h)) (.ggn rfl rfl (fun hg _ => op_move (.plain rfl)) (.ggn rfl rfl (fun hg _ => op_len (s := 0) Try.underlying23 (.opt rfl fun h => h)) (.ggn rfl rfl (fun hg _ => op_lss (.opt rfl fun h => h) (.opt rfl fun h => h)) (.gn rfl rfl (fun hg _ => op_or (.opt rfl fun h => h) (.plain rfl) (.plain rfl) (fun h => andI hg (eqF h))) (.n (fun _ => op_and (.plain rfl) (.plain rfl) (.plain rfl) (fun h => eqT h)) (.nil _)))))))))))))) ?_
    refine awp_cond rfl (fun h => ?_) (fun h => ?_)
    · (try simp only [decide_eq_true_eq, decide_eq_false_iff_not, Bool.and_eq_true, Bool.or_eq_true, Bool.and_eq_false_iff, Bool.or_eq_false_iff, Bool.not_eq_true', Bool.not_eq_false', Bool.not_eq_true, Bool.not_eq_false, Bool.true_eq_false, Bool.false_eq_true] at h); (try simp only [fold_c, fold_o, Int.toNat_natCast] at h)
      have hT := hR.take hn1 ⟨hs, by omega⟩ h.1 (h.2.imp (fun c => by omega) (fun c => by omega))
      refine awp_region rfl (.n (fun _ => op_move (.plain rfl)) (.n (fun _ => op_assign (.plain rfl)) (.nil _))) ?_
      refine awp_region rfl (.n (fun _ => op_move (.plain rfl)) (.n (fun _ => op_add (.plain rfl) (.plain rfl) ?_) (.n (fun _ => op_assign (.plain rfl)) (.nil _)))) ?_
      · unfold InR; omega
      exact ⟨(s + 1, _), ⟨by dsimp only; omega, by dsimp only; omega, hT⟩, by dsimp only; omega, (Ent.kept ⟨rfl, rfl, rfl, rfl, trivial⟩ trivial)⟩
    · (try simp only [decide_eq_true_eq, decide_eq_false_iff_not, Bool.and_eq_true, Bool.or_eq_true, Bool.and_eq_false_iff, Bool.or_eq_false_iff, Bool.not_eq_true', Bool.not_eq_false', Bool.not_eq_true, Bool.not_eq_false, Bool.true_eq_false, Bool.false_eq_true] at h); (try simp only [fold_c, fold_o, Int.toNat_natCast] at h)
      have hT := hR.leave hn1 ⟨hs, by omega⟩ (h.imp id fun c => ⟨by omega, by omega⟩)
      refine awp_skip ?_
      refine awp_region rfl (.n (fun _ => op_move (.plain rfl)) (.n (fun _ => op_add (.plain rfl) (.plain rfl) ?_) (.n (fun _ => op_assign (.plain rfl)) (.nil _)))) ?_
      · unfold InR; omega
      exact ⟨(s + 1, best), ⟨by dsimp only; omega, by dsimp only; omega, hT⟩, by dsimp only; omega, (Ent.kept ⟨rfl, rfl, rfl, rfl, trivial⟩ trivial)⟩
  · (try simp only [decide_eq_true_eq, decide_eq_false_iff_not, Bool.and_eq_true, Bool.or_eq_true, Bool.and_eq_false_iff, Bool.or_eq_false_iff, Bool.not_eq_true', Bool.not_eq_false', Bool.not_eq_true, Bool.not_eq_false, Bool.true_eq_false, Bool.false_eq_true] at h); (try simp only [fold_c, fold_o, Int.toNat_natCast] at h)
    have hlt : ¬ s < 2 ^ n := by
      have h8 : ((2 ^ n : Nat) : Int) = 2 ^ n := by simp
      rw [Int.one_mul, ← h8] at h
      exact fun c => h (Int.ofNat_lt.2 c)
    clear h
    refine awp_exit ?_
    refine awp_seq ?_
    refine awp_region rfl (.n (fun _ => op_move (.plain rfl)) (.n (fun _ => op_assign (.plain rfl)) (.nil _))) ?_
    refine awp_ret ?_
    refine retQ.ret ?_
    refine ret1 rfl rfl rfl ?_
    rw [hR.there (by omega)]

end Go.Proofs.Ytkbbdiodmeobaaa

