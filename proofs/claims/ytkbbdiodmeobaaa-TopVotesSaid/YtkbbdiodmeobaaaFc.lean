/- Points, pairs, who beats all others, what is said against an order. Conditions: each theorem names its own. -/
import Derived.Test.YtkbbdiodmeobaaaProg
import Derived.Test.YtkbbdiodmeobaaaFb
namespace Go.Proofs.Ytkbbdiodmeobaaa
open Go.Abs
set_option linter.unusedVariables false
set_option linter.unusedSimpArgs false

/-! ### Sums -/
theorem sumTo_zero {f : Nat → Int} {n : Nat} (h : ∀ j, j < n → f j = 0) : sumTo f n = 0 := by
  have := sumTo_bd (f := f) (A := 0) (B := 0) (n := n) fun j hj => by rw [h j hj]; omega
  omega
theorem sumTo_add {f g : Nat → Int} : ∀ n, sumTo (fun j => f j + g j) n = sumTo f n + sumTo g n
  | 0 => rfl
  | n + 1 => by simp only [sumTo, sumTo_add n]; omega
theorem sumTo_swap {f : Nat → Nat → Int} {m : Nat} : ∀ n, sumTo (fun y => sumTo (fun b => f y b) m) n = sumTo (fun b => sumTo (fun y => f y b) n) m
  | 0 => (sumTo_zero fun _ _ => rfl).symm
  | n + 1 => by
    simp only [sumTo]
    rw [sumTo_swap n, ← sumTo_add]
theorem sumTo_only {f : Nat → Int} {k : Nat} : ∀ {n : Nat}, k < n → (∀ j, j < n → j ≠ k → f j = 0) → sumTo f n = f k
  | n + 1, hk, h => by
    simp only [sumTo]
    by_cases e : k = n
    · subst e
      rw [sumTo_zero fun j hj => h j (by omega) (by omega)]; omega
    · rw [sumTo_only (show k < n by omega) fun j hj hne => h j (by omega) hne, h n (by omega) (fun c => e c.symm)]; omega
theorem sumTo_gt {k : Nat} {c : Int} : ∀ n, sumTo (fun j => if (k : Int) < (j : Nat) then c else 0) n = c * ((n : Int) - 1 - (k : Nat)) ∨ n ≤ k
  | 0 => .inr (Nat.zero_le _)
  | n + 1 => by
    simp only [sumTo]
    by_cases e : k < n
    · rcases sumTo_gt (k := k) (c := c) n with h | h
      · left
        rw [h, if_pos (by omega), Int.natCast_succ, show (n : Int) + 1 - 1 - (k : Int) = ((n : Int) - 1 - k) + 1 by omega, Int.mul_add, Int.mul_one]
      · omega
    · by_cases e2 : k = n
      · left
        subst e2
        rw [sumTo_zero fun j hj => if_neg (by omega), if_neg (by omega), Int.natCast_succ, show (k : Int) + 1 - 1 - (k : Int) = 0 by omega, Int.mul_zero]; rfl
      · right; omega
theorem sum_place {n : Nat} {O : List Int} (hO : ordE n O = 0) (g : Int → Int) : sumTo (fun y => g (placeF O (y : Nat))) n = sumTo (fun j => g (j : Nat)) n := by
  have h1 : sumTo (fun y => g (placeF O (y : Nat))) n = sumTo (fun y => sumTo (fun j => if O.getD j 0 = (y : Nat) then g (j : Nat) else 0) n) n := sumTo_same fun y hy => by
    have hp := ord_full hO (x := (y : Nat)) (by omega) (by omega)
    have hl := ord_lt hO (y : Nat)
    have ha := (placeF_at hp).2
    obtain ⟨k, hk⟩ : ∃ k : Nat, placeF O (y : Nat) = (k : Nat) := ⟨_, (Int.toNat_of_nonneg hp).symm⟩
    rw [hk, Int.toNat_natCast] at ha
    rw [hk, sumTo_only (f := fun j => if O.getD j 0 = (y : Nat) then g (j : Nat) else 0) (k := k) (by omega) fun j hj hne => if_neg fun c => by
      have := (ord_is hO hj (x := (y : Nat))).2 c.symm
      omega, if_pos ha]
  rw [h1, sumTo_swap]
  refine sumTo_same fun j hj => ?_
  have ha := ord_at hO hj
  rw [sumTo_only (f := fun y => if O.getD j 0 = ((y : Nat) : Int) then g (j : Nat) else 0) (k := (O.getD j 0).toNat) (by omega) fun y hy hne => if_neg (by omega), if_pos (by omega)]
/-! ### Points -/
def ptsTo (w : Int → Int) (L : List (Int × List Int × Unit)) (x : Int) : Nat → Int := sumTo fun b => cnF L b * w (placeF (orF L b) x)
def ptsF (w : Int → Int) (L : List (Int × List Int × Unit)) (x : Int) : Int := ptsTo w L x L.length
def addTo (w : Int → Int) (O : List Int) (c : Int) (i : Nat) (x : Int) : Int := if placeF O x < (i : Nat) then c * w (placeF O x) else 0
theorem mul_bd {c w : Int} (h : 0 ≤ c ∧ c ≤ 1000) (h' : 0 ≤ w ∧ w ≤ 10) : 0 ≤ c * w ∧ c * w ≤ 10000 :=
  ⟨Int.mul_nonneg h.1 h'.1, by have := Int.mul_le_mul h.2 h'.2 h'.1 (show (0 : Int) ≤ 1000 by omega); omega⟩
section
variable {n : Nat} {L : List (Int × List Int × Unit)} {w : Int → Int}
theorem ptsTo_bd (hV : VOk n L) (hw : ∀ p, 0 ≤ p ∧ p < (n : Int) → 0 ≤ w p ∧ w p ≤ 10) {x : Int} (hx : 0 ≤ x ∧ x < (n : Int)) {b : Nat} (hb : b ≤ L.length) : 0 ≤ ptsTo w L x b ∧ ptsTo w L x b ≤ 300000 := by
  have h30 := hV.len
  have := sumTo_bd (f := fun b => cnF L b * w (placeF (orF L b) x)) (A := 0) (B := 10000) (n := b) fun j hj => mul_bd (hV.cnt j (by omega)) (hw _ ⟨ord_full (hV.ord j (by omega)) hx.1 hx.2, by have := ord_lt (hV.ord j (by omega)) x; omega⟩)
  unfold ptsTo
  omega
theorem add_bd {O : List Int} {c : Int} (hO : ordE n O = 0) (hc : 0 ≤ c ∧ c ≤ 1000) (hw : ∀ p, 0 ≤ p ∧ p < (n : Int) → 0 ≤ w p ∧ w p ≤ 10) {x : Int} (hx : 0 ≤ x ∧ x < (n : Int)) (i : Nat) : 0 ≤ addTo w O c i x ∧ addTo w O c i x ≤ 10000 := by
  unfold addTo; split
  · exact mul_bd hc (hw _ ⟨ord_full hO hx.1 hx.2, by have := ord_lt hO x; omega⟩)
  · omega
theorem pts_start {O : List Int} {c : Int} (hO : ordE n O = 0) (p : Nat → Int) : (mapr n fun x => p x) = mapr n fun x => p x + addTo w O c 0 (x : Nat) := mapr_same fun x hx => by
  have := ord_full hO (x := (x : Nat)) (by omega) (by omega)
  unfold addTo; rw [if_neg (by omega)]; omega
theorem pts_set {O : List Int} {c : Int} (hO : ordE n O = 0) {i : Nat} (hi : i < n) (p : Nat → Int) (v : Int) (hv : v = (mapr n fun x => p x + addTo w O c i (x : Nat)).getD (O.getD i 0).toNat 0 + c * w (i : Nat)) :
    (mapr n fun x => p x + addTo w O c i (x : Nat)).set (O.getD i 0).toNat v = mapr n fun x => p x + addTo w O c (i + 1) (x : Nat) := by
  have ha := ord_at hO hi
  refine mapr_set (fun hlt => ?_) fun j hj hne => ?_
  · rw [hv, mapr_getD _ hlt]
    have e : (((O.getD i 0).toNat : Nat) : Int) = O.getD i 0 := Int.toNat_of_nonneg ha.1
    unfold addTo
    rw [e, ha.2.2, if_pos (by omega), if_neg (by omega)]; omega
  · have := ord_is hO hi (x := (j : Nat))
    unfold addTo
    by_cases e : placeF O (j : Nat) < (i : Nat)
    · rw [if_pos e, if_pos (by omega)]
    · rw [if_neg e, if_neg (by omega)]
theorem pts_end {b : Nat} (hO : ordE n (orF L b) = 0) : (mapr n fun x => ptsTo w L (x : Nat) b + addTo w (orF L b) (cnF L b) n (x : Nat)) = mapr n fun x => ptsTo w L (x : Nat) (b + 1) := mapr_same fun x hx => by
  have := ord_lt hO (x : Nat)
  unfold addTo; rw [if_pos this]; rfl
theorem pts_zero : List.replicate n 0 = mapr n fun x => ptsTo w L (x : Nat) 0 := replicate_mapr n 0
def wF (p : Int) : Int := if p = 0 then 1 else 0
def wB (n : Nat) (p : Int) : Int := (n : Int) - 1 - p
theorem first_set {b : Nat} (hO : ordE n (orF L b) = 0) (hn : 1 ≤ n) (v : Int) (hv : v = (mapr n fun x => ptsTo wF L (x : Nat) b).getD ((orF L b).getD 0 0).toNat 0 + cnF L b) :
    (mapr n fun x => ptsTo wF L (x : Nat) b).set ((orF L b).getD 0 0).toNat v = mapr n fun x => ptsTo wF L (x : Nat) (b + 1) := by
  have ha := ord_at hO (show 0 < n by omega)
  have hs : ∀ x : Int, ptsTo wF L x (b + 1) = ptsTo wF L x b + cnF L b * wF (placeF (orF L b) x) := fun _ => rfl
  refine mapr_set (fun hlt => ?_) fun j hj hne => ?_
  · rw [hv, mapr_getD _ hlt]
    have e : ((((orF L b).getD 0 0).toNat : Nat) : Int) = (orF L b).getD 0 0 := Int.toNat_of_nonneg ha.1
    rw [e, hs, ha.2.2]; simp [wF]
  · have := ord_is hO (show 0 < n by omega) (x := (j : Nat))
    rw [hs]
    have h2 : wF (placeF (orF L b) (j : Nat)) = 0 := if_neg fun c => by
      have := this.1 c
      omega
    rw [h2]; omega
theorem pref_self {x : Int} : prefF L x x = 0 := sumTo_zero fun b _ => if_neg (by omega)
/-- Borda's points, by pairs. -/
theorem borda_eq (hV : VOk n L) {x : Nat} (hx : x < n) : sumTo (fun y => if (x : Int) = (y : Nat) then 0 else prefF L (x : Nat) (y : Nat)) n = ptsF (wB n) L (x : Nat) := by
  have h1 : sumTo (fun y => if (x : Int) = (y : Nat) then 0 else prefF L (x : Nat) (y : Nat)) n = sumTo (fun y => sumTo (fun b => if placeF (orF L b) (x : Nat) < placeF (orF L b) (y : Nat) then cnF L b else 0) L.length) n := sumTo_same fun y hy => by
    split
    · rename_i e
      have : x = y := by omega
      subst this
      exact (pref_self (L := L)).symm
    · rfl
  rw [h1, sumTo_swap]
  refine sumTo_same fun b hb => ?_
  have hO := hV.ord b hb
  have hp := ord_full hO (x := (x : Nat)) (by omega) (by omega)
  have hl := ord_lt hO (x : Nat)
  rw [sum_place hO fun j => if placeF (orF L b) (x : Nat) < j then cnF L b else 0]
  obtain ⟨k, hk⟩ : ∃ k : Nat, placeF (orF L b) (x : Nat) = (k : Nat) := ⟨_, (Int.toNat_of_nonneg hp).symm⟩
  simp only [hk]
  rcases sumTo_gt (k := k) (c := cnF L b) n with h | h
  · rw [h]; rfl
  · omega
theorem prefF_bd (hV : VOk n L) (x y : Int) : 0 ≤ prefF L x y ∧ prefF L x y ≤ 30000 := prefTo_bd hV x y _ (Nat.le_refl _)
end
/-! ### Who beats whom -/
def beatsF (L : List (Int × List Int × Unit)) (x y : Int) : Bool := decide (prefF L y x < prefF L x y)
def copT (L : List (Int × List Int × Unit)) (x y : Int) : Int := if prefF L y x < prefF L x y then 1 else if prefF L x y < prefF L y x then -1 else 0
def copTo (L : List (Int × List Int × Unit)) (x : Int) : Nat → Int := sumTo fun y => copT L x (y : Nat)
def copF (n : Nat) (L : List (Int × List Int × Unit)) (x : Int) : Int := copTo L x n
def copL (n : Nat) (L : List (Int × List Int × Unit)) : List Int := mapr n fun x => copF n L (x : Nat)
section
variable {n : Nat} {L : List (Int × List Int × Unit)}
theorem copT_in (x y : Int) : -1 ≤ copT L x y ∧ copT L x y ≤ 1 := by unfold copT; split <;> (try split) <;> omega
theorem copTo_bd (x : Int) (b : Nat) : -(b : Int) ≤ copTo L x b ∧ copTo L x b ≤ b := by
  have := sumTo_bd (f := fun y => copT L x (y : Nat)) (A := -1) (B := 1) (n := b) fun j _ => copT_in x j
  unfold copTo; omega
theorem cop_up {x : Int} {y : Nat} (h : prefF L (y : Nat) x < prefF L x (y : Nat)) : copTo L x y + 1 = copTo L x (y + 1) := by
  show _ = copTo L x y + copT L x (y : Nat)
  unfold copT; rw [if_pos h]
theorem cop_down {x : Int} {y : Nat} (h : ¬ prefF L (y : Nat) x < prefF L x (y : Nat)) (h' : prefF L x (y : Nat) < prefF L (y : Nat) x) : copTo L x y - 1 = copTo L x (y + 1) := by
  show _ = copTo L x y + copT L x (y : Nat)
  unfold copT; rw [if_neg h, if_pos h']; rfl
theorem cop_eq {x : Int} {y : Nat} (h : ¬ prefF L (y : Nat) x < prefF L x (y : Nat)) (h' : ¬ prefF L x (y : Nat) < prefF L (y : Nat) x) : copTo L x y = copTo L x (y + 1) := by
  show _ = copTo L x y + copT L x (y : Nat)
  unfold copT; rw [if_neg h, if_neg h']; omega
/-- The list while the i-th is reckoned. -/
def copS (n : Nat) (L : List (Int × List Int × Unit)) (i k : Nat) : List Int := mapr n fun x => if x < i then copF n L (x : Nat) else if x = i then copTo L (x : Nat) k else 0
theorem copS_zero : List.replicate n 0 = copS n L 0 0 := by
  rw [replicate_mapr]; exact mapr_same fun x _ => by
    rw [if_neg (by omega)]; split
    · rename_i e; subst e; rfl
    · rfl
theorem copS_at {i k : Nat} (h : i < n) : (copS n L i k).getD i 0 = copTo L (i : Nat) k := by
  unfold copS; rw [mapr_getD _ h, if_neg (by omega), if_pos rfl]
@[simp] theorem copS_length {i k : Nat} : (copS n L i k).length = n := by simp [copS]
theorem copS_set {i k : Nat} {v : Int} (hv : v = copTo L (i : Nat) (k + 1)) : (copS n L i k).set i v = copS n L i (k + 1) :=
  mapr_set (fun _ => by rw [if_neg (by omega), if_pos rfl, hv]) fun j hj hne => by
    by_cases e : j < i
    · rw [if_pos e, if_pos e]
    · rw [if_neg e, if_neg e, if_neg hne, if_neg hne]
theorem copS_same {i k : Nat} (hv : copTo L (i : Nat) k = copTo L (i : Nat) (k + 1)) : copS n L i k = copS n L i (k + 1) := mapr_same fun j hj => by
  by_cases e : j < i
  · rw [if_pos e, if_pos e]
  · rw [if_neg e, if_neg e]
    by_cases e2 : j = i
    · subst e2; rw [if_pos rfl, if_pos rfl, hv]
    · rw [if_neg e2, if_neg e2]
theorem copS_next {i : Nat} : copS n L i n = copS n L (i + 1) 0 := mapr_same fun j hj => by
  by_cases e : j < i
  · rw [if_pos e, if_pos (by omega)]
  · rw [if_neg e]
    by_cases e2 : j = i
    · subst e2; rw [if_pos rfl, if_pos (by omega)]; rfl
    · rw [if_neg e2, if_neg (by omega)]; split <;> rfl
theorem copS_end : copS n L n 0 = copL n L := mapr_same fun j hj => by rw [if_pos hj]
def allTo (L : List (Int × List Int × Unit)) (x : Nat) : Nat → Bool
  | 0 => true
  | y + 1 => allTo L x y && (decide ((x : Int) = (y : Nat)) || beatsF L (x : Nat) (y : Nat))
theorem allTo_iff {x : Nat} : ∀ {m : Nat}, allTo L x m = true ↔ ∀ y, y < m → x = y ∨ beatsF L (x : Nat) (y : Nat) = true
  | 0 => by simp [allTo]
  | m + 1 => by
    simp only [allTo, Bool.and_eq_true, Bool.or_eq_true, decide_eq_true_eq, allTo_iff (m := m)]
    constructor
    · rintro ⟨h1, h2⟩ y hy
      by_cases e : y = m
      · subst e; exact h2.imp (fun c => by omega) id
      · exact h1 y (by omega)
    · exact fun h => ⟨fun y hy => h y (by omega), (h m (by omega)).imp (fun c => by omega) id⟩
def condF (n : Nat) (L : List (Int × List Int × Unit)) : Int := match firstI (fun x => allTo L x n) n with | some x => (x : Int) | none => -1
theorem sum_full {f : Nat → Int} : ∀ {n : Nat}, (∀ j, j < n → f j ≤ 1) → (sumTo f n ≤ n ∧ (sumTo f n = n ↔ ∀ j, j < n → f j = 1))
  | 0, _ => by simp [sumTo]
  | n + 1, h => by
    obtain ⟨h1, h2⟩ := sum_full (n := n) fun j hj => h j (by omega)
    have h3 := h n (by omega)
    simp only [sumTo]
    refine ⟨by omega, fun e j hj => ?_, fun e => ?_⟩
    · by_cases ej : j = n
      · subst ej; omega
      · exact h2.1 (by omega) j (by omega)
    · have := h2.2 fun j hj => e j (by omega)
      have := e n (by omega)
      omega
theorem copT_self {x : Int} : copT L x x = 0 := by unfold copT; rw [if_neg (by omega), if_neg (by omega)]
theorem copF_top {x : Nat} (hx : x < n) : copF n L (x : Nat) ≤ (n : Int) - 1 ∧ (copF n L (x : Nat) = (n : Int) - 1 ↔ allTo L x n = true) := by
  have key : sumTo (fun y => if y = x then 1 else copT L (x : Nat) (y : Nat)) n = copF n L (x : Nat) + 1 := by
    have e : sumTo (fun y => if y = x then (1 : Int) else copT L (x : Nat) (y : Nat)) n = sumTo (fun y => copT L (x : Nat) (y : Nat) + if y = x then 1 else 0) n := sumTo_same fun y hy => by
      split
      · rename_i e; subst e; rw [copT_self]; rfl
      · omega
    rw [e, sumTo_add, sumTo_only (f := fun y => if y = x then (1 : Int) else 0) hx fun j _ hne => if_neg hne, if_pos rfl]; rfl
  obtain ⟨h1, h2⟩ := sum_full (f := fun y => if y = x then 1 else copT L (x : Nat) (y : Nat)) (n := n) fun j _ => by
    split
    · omega
    · exact (copT_in (x : Nat) (j : Nat)).2
  rw [key] at h1 h2
  refine ⟨by omega, ?_⟩
  rw [allTo_iff]
  constructor
  · intro e y hy
    have := h2.1 (by omega) y hy
    by_cases ey : x = y
    · exact .inl ey
    · right
      rw [if_neg fun c => ey c.symm] at this
      unfold copT at this
      unfold beatsF
      split at this
      · rename_i h; exact decide_eq_true h
      · split at this <;> omega
  · intro h
    have := h2.2 fun j hj => by
      by_cases ej : j = x
      · rw [if_pos ej]
      · rw [if_neg ej]
        have := (h j hj).resolve_left fun c => ej c.symm
        unfold beatsF at this
        unfold copT
        rw [if_pos (of_decide_eq_true this)]
    omega
theorem cond_eq : placeF (copL n L) ((n : Int) - 1) = condF n L := by
  unfold placeF condF
  rw [show (copL n L).length = n by simp [copL]]
  rw [firstI_same (p := fun i => decide ((copL n L).getD i 0 = (n : Int) - 1)) (q := fun x => allTo L x n) fun j hj => by
    show decide ((copL n L).getD j 0 = (n : Int) - 1) = allTo L j n
    rw [show (copL n L).getD j 0 = copF n L (j : Nat) from mapr_getD _ hj, Bool.eq_iff_iff, decide_eq_true_eq]
    exact (copF_top hj).2]
  cases firstI (fun x => allTo L x n) n <;> rfl
end
/-! ### What is said against an order -/
def agTo (L : List (Int × List Int × Unit)) (o : List Int) (i : Nat) : Nat → Int := sumTo fun z => prefF L (o.getD (i + 1 + z) 0) (o.getD i 0)
def agS (L : List (Int × List Int × Unit)) (o : List Int) : Nat → Int := sumTo fun i => agTo L o i (o.length - (i + 1))
def agF (L : List (Int × List Int × Unit)) (o : List Int) : Int := agS L o o.length
theorem agTo_bd {n : Nat} {L : List (Int × List Int × Unit)} {o : List Int} (hV : VOk n L) {i b : Nat} (hb : b ≤ 1000) : 0 ≤ agTo L o i b ∧ agTo L o i b ≤ 30000000 := by
  have := sumTo_bd (f := fun z => prefF L (o.getD (i + 1 + z) 0) (o.getD i 0)) (A := 0) (B := 30000) (n := b) fun j _ => prefF_bd hV _ _
  unfold agTo; omega
theorem agS_bd {n : Nat} {L : List (Int × List Int × Unit)} {o : List Int} (hV : VOk n L) (ho : o.length ≤ 1000) {b : Nat} (hb : b ≤ 1000) : 0 ≤ agS L o b ∧ agS L o b ≤ 30000000000 := by
  have := sumTo_bd (f := fun i => agTo L o i (o.length - (i + 1))) (A := 0) (B := 30000000) (n := b) fun j _ => agTo_bd hV (by omega)
  unfold agS; omega
theorem prM_row {n : Nat} {L : List (Int × List Int × Unit)} {x : Nat} (h : x < n) : ((prM n L).getD x []).length = n := by unfold prM; rw [mkM_row h]; simp
theorem prM_two {n : Nat} {L : List (Int × List Int × Unit)} {x y : Nat} (hx : x < n) (hy : y < n) : ((prM n L).getD x []).getD y 0 = prefF L (x : Nat) (y : Nat) := by unfold prM; rw [mkM_row hx, mapr_getD _ hy]
@[simp] theorem prM_length {n : Nat} {L : List (Int × List Int × Unit)} : (prM n L).length = n := by simp [prM]
theorem rcop {L : List (Int × List Int × Unit)} {x y : Nat} {a b : Bool} (h1 : beatsF L (x : Nat) (y : Nat) = a) (h2 : beatsF L (y : Nat) (x : Nat) = b) : copTo L (x : Nat) y + (if a = true then 1 else 0) - (if b = true then 1 else 0) = copTo L (x : Nat) (y + 1) := by
  subst h1; subst h2
  show _ = copTo L (x : Nat) y + copT L (x : Nat) (y : Nat)
  unfold copT beatsF
  simp only [decide_eq_true_eq]
  split <;> split <;> (try split) <;> omega
def maxTo (l : List Int) : Nat → Int
  | 0 => l.getD 0 0
  | i + 1 => max (maxTo l i) (l.getD (i + 1) 0)

set_option maxRecDepth 1000000 in
set_option maxHeartbeats 1000000 in
theorem Pairs_fc (n : Nat) (L : List (Int × List Int × Unit)) (hv : voteE n L = 0) : FC Try.prog 19 [.i (n : Nat), .seq (Int × List Int × Unit) (0, [], ()) (fun b => [.i b.1, .ints b.2.1]) L] (.tup [.rows (prM n L), .i 0]) := by
  refine FC.intro Try.func19 rfl (Nat.le_of_ble_eq_true rfl) fun hfit => ?_
  have fit0 : -9223372036854775808 ≤ ((n : Nat) : Int) ∧ ((n : Nat) : Int) ≤ 9223372036854775807 := (hfit _ (.head _)).int64
  have fit1 := hfit _ (.tail _ (.head _))
  have hV := vok hv
  have hL30 := hV.len
  have hn := hV.n6
  have hn1 := hV.n1
  refine awp_seq ?_
  refine awp_region rfl (.n (fun _ => op_assign (.plain rfl)) (.n (fun _ => op_assign (.plain rfl)) (.nil _))) ?_
  refine awp_seq ?_
  refine awp_seq ?_
  refine awp_region rfl (.n (fun _ => op_move (.plain rfl)) (.n (fun _ => op_move (.plain rfl)) (.n (fun _ => op_call2 Try.call9 (.plain rfl) (.plain rfl) (May_fc _ _)) (.n (fun _ => op_assign (.plain rfl)) (.nil _))))) ?_
  refine awp_seq ?_
  refine awp_region rfl (.n (fun _ => op_move (.plain rfl)) (.n (fun _ => op_neq (.plain rfl) (.plain rfl)) (.nil _))) ?_
  refine awp_cond rfl (fun h => ?_) (fun h => ?_)
  · (try simp only [decide_eq_true_eq, decide_eq_false_iff_not, Bool.and_eq_true, Bool.or_eq_true, Bool.and_eq_false_iff, Bool.or_eq_false_iff, Bool.not_eq_true', Bool.not_eq_false', Bool.not_eq_true, Bool.not_eq_false, Bool.true_eq_false, Bool.false_eq_true] at h); (try simp only [fold_c, fold_o, Int.toNat_natCast] at h)
    exfalso
    exact h hv
  · (try simp only [decide_eq_true_eq, decide_eq_false_iff_not, Bool.and_eq_true, Bool.or_eq_true, Bool.and_eq_false_iff, Bool.or_eq_false_iff, Bool.not_eq_true', Bool.not_eq_false', Bool.not_eq_true, Bool.not_eq_false, Bool.true_eq_false, Bool.false_eq_true] at h); (try simp only [fold_c, fold_o, Int.toNat_natCast] at h)
    refine awp_skip ?_
    refine awp_seq ?_
    refine awp_region rfl (.n (fun _ => op_move (.plain rfl)) (.n (fun _ => op_move (.plain rfl)) (.n (fun _ => op_call2 Try.call56 (.plain rfl) (.plain rfl) (pairs_fc n L hv)) (.n (fun _ => op_assign (.plain rfl)) (.n (fun _ => op_assign (.plain rfl)) (.nil _)))))) ?_
    refine awp_ret ?_
    refine retQ.ret ?_
    refine ret2 rfl rfl rfl rfl rfl ?_
    rfl

set_option maxRecDepth 1000000 in
set_option maxHeartbeats 1000000 in
theorem RPairs_fc (n : Nat) (L : List (Int × List Int × Unit)) (hv : voteE n L = 0) : FC Try.prog 40 [.i (n : Nat), .seq (Int × List Int × Unit) (0, [], ()) (fun b => [.i b.1, .ints b.2.1]) L] (.rows (prM n L)) := by
  refine FC.intro Try.func40 rfl (Nat.le_of_ble_eq_true rfl) fun hfit => ?_
  have fit0 : -9223372036854775808 ≤ ((n : Nat) : Int) ∧ ((n : Nat) : Int) ≤ 9223372036854775807 := (hfit _ (.head _)).int64
  have fit1 := hfit _ (.tail _ (.head _))
  have hV := vok hv
  have hL30 := hV.len
  have hn := hV.n6
  have hn1 := hV.n1
  refine awp_seq ?_
  refine awp_region rfl (.n (fun _ => op_assign (.plain rfl)) (.nil _)) ?_
  refine awp_seq ?_
  refine awp_region rfl (.n (fun _ => op_assign (.plain rfl)) (.nil _)) ?_
  refine awp_seq ?_
  refine awp_seq ?_
  refine awp_region rfl (.n (fun _ => op_assign (.plain rfl)) (.nil _)) ?_
  refine awp_block ?_
  refine awp_ent (Ent.begin 5 1005 23 1 (List Int) [] (fun r => [.seq Int 0 (fun n => [.int .i64 n]) r]) rfl rfl rfl) ?_
  refine awp_loop (σ := Nat) (fun (x : Nat) => x ≤ n) (fun (x : Nat) => ⟨[(0, .pv (.i (n : Nat))), (1, .pv (.seq (Int × List Int × Unit) (0, [], ()) (fun b => [.i b.1, .ints b.2.1]) L)), (5, .own 1005), (6, .int (x : Nat))], [(1005, .arr 23 1 (List Int) [] (fun r => [.seq Int 0 (fun n => [.int .i64 n]) r]) (mapr x fun x => mapr n fun y => prefF L x y))]⟩) (fun (x : Nat) => n - x) 0 ?_ (Ent.kept ⟨rfl, rfl, rfl, rfl, trivial⟩ ⟨rfl, trivial⟩) ?_
  · exact Nat.zero_le _
  rintro x hp
  try dsimp only at hp
  have hx := hp
  refine awp_seq ?_
  refine awp_seq ?_
  refine awp_region rfl (.n (fun _ => op_move (.plain rfl)) (.n (fun _ => op_move (.plain rfl)) (.n (fun _ => op_lss (.plain rfl) (.plain rfl)) (.nil _)))) ?_
  refine awp_cond rfl (fun h => ?_) (fun h => ?_)
  · (try simp only [decide_eq_true_eq, decide_eq_false_iff_not, Bool.and_eq_true, Bool.or_eq_true, Bool.and_eq_false_iff, Bool.or_eq_false_iff, Bool.not_eq_true', Bool.not_eq_false', Bool.not_eq_true, Bool.not_eq_false, Bool.true_eq_false, Bool.false_eq_true] at h); (try simp only [fold_c, fold_o, Int.toNat_natCast] at h)
    refine awp_skip ?_
    refine awp_seq ?_
    refine awp_block ?_
    refine awp_seq ?_
    refine awp_region rfl (.n (fun _ => op_assign (.plain rfl)) (.nil _)) ?_
    refine awp_seq ?_
    refine awp_seq ?_
    refine awp_region rfl (.n (fun _ => op_assign (.plain rfl)) (.nil _)) ?_
    refine awp_block ?_
    refine awp_ent (Ent.begin 7 1007 3 1 Int 0 (fun n => [.int .i64 n]) rfl rfl rfl) ?_
    refine awp_loop (σ := Nat) (fun (y : Nat) => y ≤ n) (fun (y : Nat) => ⟨[(0, .pv (.i (n : Nat))), (1, .pv (.seq (Int × List Int × Unit) (0, [], ()) (fun b => [.i b.1, .ints b.2.1]) L)), (5, .own 1005), (6, .int (x : Nat)), (7, .own 1007), (8, .int (y : Nat))], [(1005, .arr 23 1 (List Int) [] (fun r => [.seq Int 0 (fun n => [.int .i64 n]) r]) (mapr x fun x => mapr n fun y => prefF L x y)), (1007, .arr 3 1 Int 0 (fun n => [.int .i64 n]) (mapr y fun y => prefF L x y))]⟩) (fun (y : Nat) => n - y) 0 ?_ (Ent.kept ⟨rfl, rfl, rfl, rfl, rfl, rfl, trivial⟩ ⟨rfl, rfl, trivial⟩) ?_
    · exact Nat.zero_le _
    rintro y hp
    try dsimp only at hp
    have hy := hp
    refine awp_seq ?_
    refine awp_seq ?_
    refine awp_region rfl (.n (fun _ => op_move (.plain rfl)) (.n (fun _ => op_move (.plain rfl)) (.n (fun _ => op_lss (.plain rfl) (.plain rfl)) (.nil _)))) ?_
    refine awp_cond rfl (fun h => ?_) (fun h => ?_)
    · (try simp only [decide_eq_true_eq, decide_eq_false_iff_not, Bool.and_eq_true, Bool.or_eq_true, Bool.and_eq_false_iff, Bool.or_eq_false_iff, Bool.not_eq_true', Bool.not_eq_false', Bool.not_eq_true, Bool.not_eq_false, Bool.true_eq_false, Bool.false_eq_true] at h); (try simp only [fold_c, fold_o, Int.toNat_natCast] at h)
      refine awp_skip ?_
      refine awp_seq ?_
      refine awp_block ?_
      refine awp_seq ?_
      refine awp_region rfl (.n (fun _ => op_move (.plain rfl)) (.n (fun _ => op_move (.plain rfl)) (.n (fun _ => op_move (.plain rfl)) (.n (fun _ => op_call3 Try.call61 (.plain rfl) (.plain rfl) (.plain rfl) (Prefer_fc n L hv _ _)) (.n (fun _ => op_assign (.plain rfl)) (.nil _)))))) ?_
      refine awp_region rfl (.n (fun _ => op_move (.plain rfl)) (.n (fun _ => op_move (.plain rfl)) (.n (fun _ => op_slit (pp := [(0, _)]) (α := Int) (d := 0) (f := (fun n => [.int .i64 n])) [_] ety23 rfl ⟨rfl, (.plain rfl), (by simp), trivial⟩ rfl (by decide) rfl) (.e (op_append (id' := 27) (α := Int) (d := 0) (f := (fun n => [.int .i64 n])) ety23 Try.underlying23 (fun _ => rfl) (fun _ => rfl) (.plain rfl) rfl (.plain rfl) rfl ?_) rfl (.n (fun _ => op_assign (.plain rfl)) (.nil _)))))) ?_
      · first | omega | (simp; omega)
      refine awp_region rfl (.n (fun _ => op_move (.plain rfl)) (.n (fun _ => op_add (.plain rfl) (.plain rfl) ?_) (.n (fun _ => op_assign (.plain rfl)) (.nil _)))) ?_
      · unfold InR; omega
      exact ⟨y + 1, by omega, by dsimp only; omega, (Ent.round 27 1007 ⟨rfl, rfl, rfl, rfl, rfl, rfl, trivial⟩ ⟨rfl, (congrArg (fun l => some (Blk.arr 3 1 Int 0 (fun n => [.int .i64 n]) l)) (by rw [mapr_succ])), trivial⟩ rfl rfl rfl ⟨rfl, rfl, rfl, rfl, rfl, rfl, trivial⟩ ⟨rfl, rfl, trivial⟩)⟩
    · (try simp only [decide_eq_true_eq, decide_eq_false_iff_not, Bool.and_eq_true, Bool.or_eq_true, Bool.and_eq_false_iff, Bool.or_eq_false_iff, Bool.not_eq_true', Bool.not_eq_false', Bool.not_eq_true, Bool.not_eq_false, Bool.true_eq_false, Bool.false_eq_true] at h); (try simp only [fold_c, fold_o, Int.toNat_natCast] at h)
      refine awp_exit ?_
      refine awp_ent (Ent.give 7 rfl rfl) ?_
      refine awp_region rfl (.n (fun _ => op_move (.plain rfl)) (.n (fun _ => op_move (.plain rfl)) (.n (fun _ => op_slit (pp := [(0, _)]) (α := (List Int)) (d := []) (f := (fun r => [.seq Int 0 (fun n => [.int .i64 n]) r])) [_] ety31 rfl ⟨rfl, (.plain rfl), (by simp), trivial⟩ rfl (by decide) rfl) (.e (op_append (id' := 31) (α := (List Int)) (d := []) (f := (fun r => [.seq Int 0 (fun n => [.int .i64 n]) r])) ety31 Try.underlying31 (fun _ => rfl) (fun _ => rfl) (.plain rfl) rfl (.plain rfl) rfl ?_) rfl (.n (fun _ => op_assign (.plain rfl)) (.nil _)))))) ?_
      · first | omega | (simp; omega)
      refine awp_region rfl (.n (fun _ => op_move (.plain rfl)) (.n (fun _ => op_add (.plain rfl) (.plain rfl) ?_) (.n (fun _ => op_assign (.plain rfl)) (.nil _)))) ?_
      · unfold InR; omega
      exact ⟨x + 1, by omega, by dsimp only; omega, (Ent.round 31 1005 ⟨rfl, rfl, rfl, rfl, trivial⟩ ⟨(congrArg (fun l => some (Blk.arr 23 1 (List Int) [] (fun r => [.seq Int 0 (fun n => [.int .i64 n]) r]) l)) (by rw [mapr_succ, show y = n by omega])), trivial⟩ rfl rfl rfl ⟨rfl, rfl, rfl, rfl, trivial⟩ ⟨rfl, trivial⟩)⟩
  · (try simp only [decide_eq_true_eq, decide_eq_false_iff_not, Bool.and_eq_true, Bool.or_eq_true, Bool.and_eq_false_iff, Bool.or_eq_false_iff, Bool.not_eq_true', Bool.not_eq_false', Bool.not_eq_true, Bool.not_eq_false, Bool.true_eq_false, Bool.false_eq_true] at h); (try simp only [fold_c, fold_o, Int.toNat_natCast] at h)
    refine awp_exit ?_
    refine awp_seq ?_
    refine awp_region rfl (.n (fun _ => op_move (.plain rfl)) (.n (fun _ => op_assign (.plain rfl)) (.nil _))) ?_
    refine awp_ret ?_
    refine retQ.ret ?_
    refine ret1 rfl rfl rfl ?_
    rw [show x = n by omega]
    rfl

set_option maxRecDepth 1000000 in
set_option maxHeartbeats 1000000 in
theorem Beats_fc (n : Nat) (L : List (Int × List Int × Unit)) (hv : voteE n L = 0) (x y : Int) : FC Try.prog 62 [.seq (Int × List Int × Unit) (0, [], ()) (fun b => [.i b.1, .ints b.2.1]) L, .i x, .i y] (.bool (beatsF L x y)) := by
  refine FC.intro Try.func62 rfl (Nat.le_of_ble_eq_true rfl) fun hfit => ?_
  have fit0 := hfit _ (.head _)
  have fit1 : -9223372036854775808 ≤ (x : Int) ∧ (x : Int) ≤ 9223372036854775807 := (hfit _ (.tail _ (.head _))).int64
  have fit2 : -9223372036854775808 ≤ (y : Int) ∧ (y : Int) ≤ 9223372036854775807 := (hfit _ (.tail _ (.tail _ (.head _)))).int64
  have hV := vok hv
  have hL30 := hV.len
  have hn := hV.n6
  have hn1 := hV.n1
  refine awp_seq ?_
  refine awp_region rfl (.n (fun _ => op_assign (.plain rfl)) (.nil _)) ?_
  refine awp_seq ?_
  refine awp_region rfl (.n (fun _ => op_move (.plain rfl)) (.n (fun _ => op_move (.plain rfl)) (.n (fun _ => op_move (.plain rfl)) (.n (fun _ => op_call3 Try.call61 (.plain rfl) (.plain rfl) (.plain rfl) (Prefer_fc n L hv _ _)) (.n (fun _ => op_assign (.plain rfl)) (.nil _)))))) ?_
  refine awp_seq ?_
  refine awp_region rfl (.n (fun _ => op_move (.plain rfl)) (.n (fun _ => op_move (.plain rfl)) (.n (fun _ => op_move (.plain rfl)) (.n (fun _ => op_call3 Try.call61 (.plain rfl) (.plain rfl) (.plain rfl) (Prefer_fc n L hv _ _)) (.n (fun _ => op_assign (.plain rfl)) (.nil _)))))) ?_
  refine awp_seq ?_
  refine awp_region rfl (.n (fun _ => op_move (.plain rfl)) (.n (fun _ => op_move (.plain rfl)) (.n (fun _ => op_gtr (.plain rfl) (.plain rfl)) (.n (fun _ => op_assign (.plain rfl)) (.nil _))))) ?_
  refine awp_ret ?_
  refine retQ.ret ?_
  refine ret1 rfl rfl rfl ?_
  rfl

set_option maxRecDepth 1000000 in
set_option maxHeartbeats 1000000 in
theorem points_fc (n : Nat) (L : List (Int × List Int × Unit)) (hv : voteE n L = 0) (K : FuncId) (caps : List PV) (w : Int → Int) (hc : ∀ vs w, (callFunc K vs).run Try.prog w = .ok (.enter K vs) w) (hf : ∀ p, 0 ≤ p ∧ p < (n : Int) → FC Try.prog K (.i p :: caps) (.i (w p))) (hw : ∀ p, 0 ≤ p ∧ p < (n : Int) → 0 ≤ w p ∧ w p ≤ 10) : FC Try.prog 44 [.i (n : Nat), .seq (Int × List Int × Unit) (0, [], ()) (fun b => [.i b.1, .ints b.2.1]) L, .clo K caps] (.tup [.ints (mapr n fun x => ptsF w L (x : Nat)), .i 0]) := by
  refine FC.intro Try.func44 rfl (Nat.le_of_ble_eq_true rfl) fun hfit => ?_
  have fit0 : -9223372036854775808 ≤ ((n : Nat) : Int) ∧ ((n : Nat) : Int) ≤ 9223372036854775807 := (hfit _ (.head _)).int64
  have fit1 := hfit _ (.tail _ (.head _))
  have fit2 := hfit _ (.tail _ (.tail _ (.head _)))
  have hV := vok hv
  have hL30 := hV.len
  have hn := hV.n6
  have hn1 := hV.n1
  refine awp_seq ?_
  refine awp_region rfl (.n (fun _ => op_assign (.plain rfl)) (.n (fun _ => op_assign (.plain rfl)) (.nil _))) ?_
  refine awp_seq ?_
  refine awp_seq ?_
  refine awp_region rfl (.n (fun _ => op_move (.plain rfl)) (.n (fun _ => op_move (.plain rfl)) (.n (fun _ => op_call2 Try.call9 (.plain rfl) (.plain rfl) (May_fc _ _)) (.n (fun _ => op_assign (.plain rfl)) (.nil _))))) ?_
  refine awp_seq ?_
  refine awp_region rfl (.n (fun _ => op_move (.plain rfl)) (.n (fun _ => op_neq (.plain rfl) (.plain rfl)) (.nil _))) ?_
  refine awp_cond rfl (fun h => ?_) (fun h => ?_)
  · (try simp only [decide_eq_true_eq, decide_eq_false_iff_not, Bool.and_eq_true, Bool.or_eq_true, Bool.and_eq_false_iff, Bool.or_eq_false_iff, Bool.not_eq_true', Bool.not_eq_false', Bool.not_eq_true, Bool.not_eq_false, Bool.true_eq_false, Bool.false_eq_true] at h); (try simp only [fold_c, fold_o, Int.toNat_natCast] at h)
    exfalso
    exact h hv
  · (try simp only [decide_eq_true_eq, decide_eq_false_iff_not, Bool.and_eq_true, Bool.or_eq_true, Bool.and_eq_false_iff, Bool.or_eq_false_iff, Bool.not_eq_true', Bool.not_eq_false', Bool.not_eq_true, Bool.not_eq_false, Bool.true_eq_false, Bool.false_eq_true] at h); (try simp only [fold_c, fold_o, Int.toNat_natCast] at h)
    refine awp_skip ?_
    refine awp_seq ?_
    refine awp_region rfl (.n (fun _ => op_move (.plain rfl)) (.e (op_make (α := Int) (d := 0) (f := (fun n => [.int .i64 n])) 21 0 ety23 (.plain rfl) (.plain rfl) (fun _ => rfl) rfl rfl ?_) rfl (.n (fun _ => op_assign (.plain rfl)) (.nil _)))) ?_
    · omega
    refine awp_seq ?_
    refine awp_seq ?_
    refine awp_region rfl (.n (fun _ => op_move (.plain rfl)) (.n (fun _ => op_len (s := 0) Try.underlying22 (.plain rfl)) (.n (fun _ => op_move (.plain rfl)) (.nil _)))) ?_
    refine awp_block ?_
    refine awp_loop (σ := Nat) (fun (bq : Nat) => bq ≤ L.length) (fun (bq : Nat) => ⟨[(2, .pv (.clo K caps)), (9, .own 21), (22, .pv (.seq (Int × List Int × Unit) (0, [], ()) (fun b => [.i b.1, .ints b.2.1]) L)), (23, .int (L.length : Nat)), (24, .int (bq : Nat))], [(21, .arr 3 1 Int 0 (fun n => [.int .i64 n]) (mapr n fun x => ptsTo w L (x : Nat) bq))]⟩) (fun (bq : Nat) => L.length - bq) 0 ?_ (Ent.kept ⟨rfl, rfl, rfl, rfl, rfl, trivial⟩ ⟨(congrArg (fun l => some (Blk.arr 3 1 Int 0 (fun n => [.int .i64 n]) l)) (pts_zero)), trivial⟩) ?_
    · exact Nat.zero_le _
    rintro bq hp
    try dsimp only at hp
    have hbq := hp
    refine awp_seq ?_
    refine awp_region rfl (.n (fun _ => op_lss (.plain rfl) (.plain rfl)) (.nil _)) ?_
    refine awp_seq ?_
    refine awp_cond rfl (fun h => ?_) (fun h => ?_)
    · (try simp only [decide_eq_true_eq, decide_eq_false_iff_not, Bool.and_eq_true, Bool.or_eq_true, Bool.and_eq_false_iff, Bool.or_eq_false_iff, Bool.not_eq_true', Bool.not_eq_false', Bool.not_eq_true, Bool.not_eq_false, Bool.true_eq_false, Bool.false_eq_true] at h); (try simp only [fold_c, fold_o, Int.toNat_natCast] at h)
      have hO := hV.ord bq (by omega)
      have hOl := hV.olen bq (by omega)
      have hcb := hV.cnt bq (by omega)
      refine awp_skip ?_
      refine awp_seq ?_
      refine awp_block ?_
      refine awp_seq ?_
      refine awp_region rfl (.n (fun _ => op_indexAddrN Try.underlying22 Try.sizeOf40 (.plain rfl) (.plain rfl) (fun _ => rfl) ?_) (.n (fun _ => op_load_agg Try.isAgg40 Try.sizeOf40 (.plain rfl) (Nat.le_of_ble_eq_true rfl)) (.e (op_alloc 11 Try.zeroValue40 rfl rfl rfl) rfl (.e (op_storeRA Try.sizeOf40 (.plain rfl) (.plain rfl) rfl rfl (Nat.le_of_ble_eq_true rfl) rfl) rfl (.nil _))))) ?_
      · omega
      refine awp_seq ?_
      refine awp_region rfl (.n (fun _ => op_fieldAddrR Try.underlying40 rfl rfl Try.sizeOf23 (.plain rfl)) (.r (op_loadR Try.isAgg23 (.plain rfl) rfl rfl) (.n (fun _ => op_len (s := 0) Try.underlying23 (.plain rfl)) (.n (fun _ => op_move (.plain rfl)) (.nil _))))) ?_
      refine awp_block ?_
      refine awp_loop (σ := Nat) (fun (i : Nat) => i ≤ n) (fun (i : Nat) => ⟨[(2, .pv (.clo K caps)), (9, .own 21), (11, .ref 11 0), (22, .pv (.seq (Int × List Int × Unit) (0, [], ()) (fun b => [.i b.1, .ints b.2.1]) L)), (23, .int (L.length : Nat)), (24, .int (bq : Nat)), (29, .pv (.ints (orF L bq))), (30, .int (n : Nat)), (31, .int (i : Nat))], [(21, .arr 3 1 Int 0 (fun n => [.int .i64 n]) (mapr n fun x => ptsTo w L (x : Nat) bq + addTo w (orF L bq) (cnF L bq) i (x : Nat))), (11, .box [.pv (.i (cnF L bq)), .pv (.ints (orF L bq))])]⟩) (fun (i : Nat) => n - i) 0 ?_ (Ent.kept ⟨rfl, rfl, rfl, rfl, rfl, rfl, rfl, (congrArg (fun n : Int => some (SV.int n)) (hOl)), rfl, trivial⟩ ⟨(congrArg (fun l => some (Blk.arr 3 1 Int 0 (fun n => [.int .i64 n]) l)) (pts_start hO _)), rfl, trivial⟩) ?_
      · exact Nat.zero_le _
      rintro i hp
      try dsimp only at hp
      have hi := hp
      refine awp_seq ?_
      refine awp_region rfl (.n (fun _ => op_lss (.plain rfl) (.plain rfl)) (.nil _)) ?_
      refine awp_seq ?_
      refine awp_cond rfl (fun h => ?_) (fun h => ?_)
      · (try simp only [decide_eq_true_eq, decide_eq_false_iff_not, Bool.and_eq_true, Bool.or_eq_true, Bool.and_eq_false_iff, Bool.or_eq_false_iff, Bool.not_eq_true', Bool.not_eq_false', Bool.not_eq_true, Bool.not_eq_false, Bool.true_eq_false, Bool.false_eq_true] at h); (try simp only [fold_c, fold_o, Int.toNat_natCast] at h)
        have hxo := ord_at hO (show i < n by omega)
        have hpb := ptsTo_bd hV hw ⟨hxo.1, hxo.2.1⟩ (show bq ≤ L.length by omega)
        have hab := add_bd hO hcb hw ⟨hxo.1, hxo.2.1⟩ i
        have hmb := mul_bd hcb (hw (i : Nat) (by omega))
        have hat : (mapr n fun x => ptsTo w L (x : Nat) bq + addTo w (orF L bq) (cnF L bq) i (x : Nat)).getD ((orF L bq).getD i 0).toNat 0 = ptsTo w L ((orF L bq).getD i 0) bq + addTo w (orF L bq) (cnF L bq) i ((orF L bq).getD i 0) := by rw [mapr_getD _ (by omega), Int.toNat_of_nonneg hxo.1]
        refine awp_skip ?_
        refine awp_seq ?_
        refine awp_block ?_
        refine awp_seq ?_
        refine awp_region rfl (.n (fun _ => op_move (.plain rfl)) (.n (fun _ => op_indexAddrN Try.underlying23 Try.sizeOf3 (.plain rfl) (.plain rfl) (fun _ => rfl) ?_) (.n (fun _ => op_load Try.isAgg3 (.plain rfl)) (.n (fun _ => op_assign (.plain rfl)) (.n (fun _ => op_assign (.plain rfl)) (.nil _)))))) ?_
        · omega
        refine awp_region_draw mixed rfl (.n (fun _ => op_move (.plain rfl)) (.n (fun _ => op_move (.plain rfl)) (.r (op_indexAddrO Try.underlying23 Try.sizeOf3 (.plain rfl) rfl (.plain rfl) ?_) (.r (op_loadE Try.isAgg3 (.plain rfl) rfl (fun _ => rfl) ?_ rfl) (.n (fun _ => op_fieldAddrR Try.underlying40 rfl rfl Try.sizeOf3 (.plain rfl)) (.r (op_loadR Try.isAgg3 (.plain rfl) rfl rfl) (.n (fun _ => op_move (.plain rfl)) (.n (fun _ => op_move (.plain rfl)) (.n (fun _ => op_callV1 hc (.plain rfl) (.plain rfl) (hf _ ?_)) (.n (fun _ => op_mul (.plain rfl) (.plain rfl) ?_) (.n (fun _ => op_add (.plain rfl) (.plain rfl) ?_) (.r (op_indexAddrO Try.underlying23 Try.sizeOf3 (.plain rfl) rfl (.plain rfl) ?_) (.e (op_storeE _ Try.sizeOf3 (.plain rfl) (.plain rfl) rfl (fun _ => rfl) ?_ (by decide) rfl rfl) rfl (.nil _)))))))))))))) ?d1 ?_
        · simp only [fold_c, fold_o, Int.toNat_natCast, mapr_length]
          omega
        · simp only [fold_c, fold_o, Int.toNat_natCast, mapr_length]
          omega
        · omega
        · show InR (cnF L bq * w (i : Nat))
          unfold InR; omega
        · show InR ((mapr n fun x => ptsTo w L (x : Nat) bq + addTo w (orF L bq) (cnF L bq) i (x : Nat)).getD ((orF L bq).getD i 0).toNat 0 + cnF L bq * w (i : Nat))
          rw [hat]
          unfold InR; omega
        · simp only [fold_c, fold_o, Int.toNat_natCast, mapr_length]
          omega
        · simp only [fold_c, fold_o, Int.toNat_natCast, mapr_length]
          omega
        · kernel_rfl
        refine awp_region rfl (.n (fun _ => op_add (.plain rfl) (.plain rfl) ?_) (.n (fun _ => op_move (.plain rfl)) (.nil _))) ?_
        · unfold InR; omega
        exact ⟨i + 1, by omega, by dsimp only; omega, (Ent.kept ⟨rfl, rfl, rfl, rfl, rfl, rfl, rfl, rfl, rfl, trivial⟩ ⟨(congrArg (fun l => some (Blk.arr 3 1 Int 0 (fun n => [.int .i64 n]) l)) (pts_set hO (by omega) _ _ rfl)), rfl, trivial⟩)⟩
      · (try simp only [decide_eq_true_eq, decide_eq_false_iff_not, Bool.and_eq_true, Bool.or_eq_true, Bool.and_eq_false_iff, Bool.or_eq_false_iff, Bool.not_eq_true', Bool.not_eq_false', Bool.not_eq_true, Bool.not_eq_false, Bool.true_eq_false, Bool.false_eq_true] at h); (try simp only [fold_c, fold_o, Int.toNat_natCast] at h)
        refine awp_exit ?_
        refine awp_region rfl (.n (fun _ => op_add (.plain rfl) (.plain rfl) ?_) (.n (fun _ => op_move (.plain rfl)) (.nil _))) ?_
        · unfold InR; omega
        exact ⟨bq + 1, by omega, by dsimp only; omega, (Ent.kept ⟨rfl, rfl, rfl, rfl, rfl, trivial⟩ ⟨(congrArg (fun l => some (Blk.arr 3 1 Int 0 (fun n => [.int .i64 n]) l)) (by rw [show i = n by omega]; exact pts_end hO)), trivial⟩)⟩
    · (try simp only [decide_eq_true_eq, decide_eq_false_iff_not, Bool.and_eq_true, Bool.or_eq_true, Bool.and_eq_false_iff, Bool.or_eq_false_iff, Bool.not_eq_true', Bool.not_eq_false', Bool.not_eq_true, Bool.not_eq_false, Bool.true_eq_false, Bool.false_eq_true] at h); (try simp only [fold_c, fold_o, Int.toNat_natCast] at h)
      refine awp_exit ?_
      refine awp_seq ?_
      refine awp_region rfl (.n (fun _ => op_move (.plain rfl)) (.n (fun _ => op_assign (.plain rfl)) (.n (fun _ => op_assign (.plain rfl)) (.nil _)))) ?_
      refine awp_ret ?_
      refine retQ.ret ?_
      refine ret2 rfl rfl rfl rfl rfl ?_
      rw [show bq = L.length by omega]
      rfl

set_option maxRecDepth 1000000 in
set_option maxHeartbeats 1000000 in
theorem first1_fc (p : Int) : FC Try.prog 45 [.i p] (.i (wF p)) := by
  refine FC.intro Try.func45 rfl (Nat.le_of_ble_eq_true rfl) fun hfit => ?_
  have fit0 : -9223372036854775808 ≤ (p : Int) ∧ (p : Int) ≤ 9223372036854775807 := (hfit _ (.head _)).int64
  refine awp_seq ?_
  refine awp_region rfl (.n (fun _ => op_assign (.plain rfl)) (.nil _)) ?_
  refine awp_seq ?_
  refine awp_seq ?_
  refine awp_region rfl (.n (fun _ => op_move (.plain rfl)) (.n (fun _ => op_eql (.plain rfl) (.plain rfl)) (.nil _))) ?_
  refine awp_cond rfl (fun h => ?_) (fun h => ?_)
  · (try simp only [decide_eq_true_eq, decide_eq_false_iff_not, Bool.and_eq_true, Bool.or_eq_true, Bool.and_eq_false_iff, Bool.or_eq_false_iff, Bool.not_eq_true', Bool.not_eq_false', Bool.not_eq_true, Bool.not_eq_false, Bool.true_eq_false, Bool.false_eq_true] at h); (try simp only [fold_c, fold_o, Int.toNat_natCast] at h)
    refine awp_seq ?_
    refine awp_region rfl (.n (fun _ => op_assign (.plain rfl)) (.nil _)) ?_
    refine awp_ret ?_
    refine retQ.ret ?_
    refine ret1 rfl rfl rfl ?_
    unfold wF; rw [if_pos h]
  · (try simp only [decide_eq_true_eq, decide_eq_false_iff_not, Bool.and_eq_true, Bool.or_eq_true, Bool.and_eq_false_iff, Bool.or_eq_false_iff, Bool.not_eq_true', Bool.not_eq_false', Bool.not_eq_true, Bool.not_eq_false, Bool.true_eq_false, Bool.false_eq_true] at h); (try simp only [fold_c, fold_o, Int.toNat_natCast] at h)
    refine awp_skip ?_
    refine awp_seq ?_
    refine awp_region rfl (.n (fun _ => op_assign (.plain rfl)) (.nil _)) ?_
    refine awp_ret ?_
    refine retQ.ret ?_
    refine ret1 rfl rfl rfl ?_
    unfold wF; rw [if_neg h]

set_option maxRecDepth 1000000 in
set_option maxHeartbeats 1000000 in
theorem borda1_fc (n : Nat) (p : Int) (hp : 0 ≤ p ∧ p < (n : Int)) (hn : n ≤ 6) : FC Try.prog 46 [.i p, .rd [.i (n : Nat)]] (.i (wB n p)) := by
  refine FC.intro Try.func46 rfl (Nat.le_of_ble_eq_true rfl) fun hfit => ?_
  have fit0 : -9223372036854775808 ≤ (p : Int) ∧ (p : Int) ≤ 9223372036854775807 := (hfit _ (.head _)).int64
  have fit1 := hfit _ (.tail _ (.head _))
  refine awp_seq ?_
  refine awp_region rfl (.n (fun _ => op_assign (.plain rfl)) (.nil _)) ?_
  refine awp_seq ?_
  refine awp_region rfl (.n (fun _ => op_load Try.isAgg3 (.plain rfl)) (.n (fun _ => op_sub (.plain rfl) (.plain rfl) ?_) (.n (fun _ => op_move (.plain rfl)) (.n (fun _ => op_sub (.plain rfl) (.plain rfl) ?_) (.n (fun _ => op_assign (.plain rfl)) (.nil _)))))) ?_
  · unfold InR; omega
  · unfold InR; omega
  refine awp_ret ?_
  refine retQ.ret ?_
  refine ret1 rfl rfl rfl ?_
  rfl

set_option maxRecDepth 1000000 in
set_option maxHeartbeats 1000000 in
theorem Firsts_fc (n : Nat) (L : List (Int × List Int × Unit)) (hv : voteE n L = 0) : FC Try.prog 12 [.i (n : Nat), .seq (Int × List Int × Unit) (0, [], ()) (fun b => [.i b.1, .ints b.2.1]) L] (.tup [.ints (mapr n fun x => ptsF wF L (x : Nat)), .i 0]) := by
  refine FC.intro Try.func12 rfl (Nat.le_of_ble_eq_true rfl) fun hfit => ?_
  have fit0 : -9223372036854775808 ≤ ((n : Nat) : Int) ∧ ((n : Nat) : Int) ≤ 9223372036854775807 := (hfit _ (.head _)).int64
  have fit1 := hfit _ (.tail _ (.head _))
  have hV := vok hv
  have hL30 := hV.len
  have hn := hV.n6
  have hn1 := hV.n1
  refine awp_seq ?_
  refine awp_region rfl (.n (fun _ => op_assign (.plain rfl)) (.n (fun _ => op_assign (.plain rfl)) (.nil _))) ?_
  refine awp_seq ?_
  refine awp_region rfl (.n (fun _ => op_move (.plain rfl)) (.n (fun _ => op_move (.plain rfl)) (.n (fun _ => op_call3 Try.call44 (.plain rfl) (.plain rfl) (.plain rfl) (points_fc n L hv 45 [] wF Try.call45 (fun p hp => first1_fc p) fun p hp => by unfold wF; split <;> omega)) (.n (fun _ => op_extract (.plain rfl) rfl) (.n (fun _ => op_extract (.plain rfl) rfl) (.n (fun _ => op_assign (.plain rfl)) (.n (fun _ => op_assign (.plain rfl)) (.nil _)))))))) ?_
  refine awp_ret ?_
  refine retQ.ret ?_
  refine ret2 rfl rfl rfl rfl rfl ?_
  rfl

set_option maxRecDepth 1000000 in
set_option maxHeartbeats 1000000 in
theorem Borda_fc (n : Nat) (L : List (Int × List Int × Unit)) (hv : voteE n L = 0) : FC Try.prog 13 [.i (n : Nat), .seq (Int × List Int × Unit) (0, [], ()) (fun b => [.i b.1, .ints b.2.1]) L] (.tup [.ints (mapr n fun x => ptsF (wB n) L (x : Nat)), .i 0]) := by
  refine FC.intro Try.func13 rfl (Nat.le_of_ble_eq_true rfl) fun hfit => ?_
  have fit0 : -9223372036854775808 ≤ ((n : Nat) : Int) ∧ ((n : Nat) : Int) ≤ 9223372036854775807 := (hfit _ (.head _)).int64
  have fit1 := hfit _ (.tail _ (.head _))
  have hV := vok hv
  have hL30 := hV.len
  have hn := hV.n6
  have hn1 := hV.n1
  refine awp_seq ?_
  refine awp_region rfl (.n (fun _ => op_box (.plain rfl) (by simp)) (.n (fun _ => op_assign (.plain rfl)) (.n (fun _ => op_assign (.plain rfl)) (.nil _)))) ?_
  refine awp_seq ?_
  refine awp_region rfl (.n (fun _ => op_load Try.isAgg3 (.plain rfl)) (.n (fun _ => op_move (.plain rfl)) (.n (fun _ => op_makeFunc1 (.plain rfl)) (.n (fun _ => op_call3 Try.call44 (.plain rfl) (.plain rfl) (.plain rfl) (points_fc n L hv 46 _ (wB n) Try.call46 (fun p hp => borda1_fc n p hp hn) fun p hp => by unfold wB; omega)) (.n (fun _ => op_extract (.plain rfl) rfl) (.n (fun _ => op_extract (.plain rfl) rfl) (.n (fun _ => op_assign (.plain rfl)) (.n (fun _ => op_assign (.plain rfl)) (.nil _))))))))) ?_
  refine awp_ret ?_
  refine retQ.ret ?_
  refine ret2 rfl rfl rfl rfl rfl ?_
  rfl

set_option maxRecDepth 1000000 in
set_option maxHeartbeats 1000000 in
theorem RFirsts_fc (n : Nat) (L : List (Int × List Int × Unit)) (hv : voteE n L = 0) : FC Try.prog 32 [.i (n : Nat), .seq (Int × List Int × Unit) (0, [], ()) (fun b => [.i b.1, .ints b.2.1]) L] (.ints (mapr n fun x => ptsF wF L (x : Nat))) := by
  refine FC.intro Try.func32 rfl (Nat.le_of_ble_eq_true rfl) fun hfit => ?_
  have fit0 : -9223372036854775808 ≤ ((n : Nat) : Int) ∧ ((n : Nat) : Int) ≤ 9223372036854775807 := (hfit _ (.head _)).int64
  have fit1 := hfit _ (.tail _ (.head _))
  have hV := vok hv
  have hL30 := hV.len
  have hn := hV.n6
  have hn1 := hV.n1
  refine awp_seq ?_
  refine awp_region rfl (.n (fun _ => op_assign (.plain rfl)) (.nil _)) ?_
  refine awp_seq ?_
  refine awp_region rfl (.n (fun _ => op_move (.plain rfl)) (.e (op_make (α := Int) (d := 0) (f := (fun n => [.int .i64 n])) 8 0 ety23 (.plain rfl) (.plain rfl) (fun _ => rfl) rfl rfl ?_) rfl (.n (fun _ => op_assign (.plain rfl)) (.nil _)))) ?_
  · (try simp only [fold_c, fold_o, Int.toNat_natCast, Int.toNat_zero, mapr_length])
    omega
  refine awp_seq ?_
  refine awp_seq ?_
  refine awp_region rfl (.n (fun _ => op_assign (.plain rfl)) (.nil _)) ?_
  refine awp_block ?_
  refine awp_loop (σ := Nat) (fun (bq : Nat) => bq ≤ L.length) (fun (bq : Nat) => ⟨[(1, .pv (.seq (Int × List Int × Unit) (0, [], ()) (fun b => [.i b.1, .ints b.2.1]) L)), (5, .own 8), (6, .int (bq : Nat))], [(8, .arr 3 1 Int 0 (fun n => [.int .i64 n]) (mapr n fun x => ptsTo wF L (x : Nat) bq))]⟩) (fun (bq : Nat) => L.length - bq) 0 ?_ (Ent.kept ⟨rfl, rfl, rfl, trivial⟩ ⟨(congrArg (fun l => some (Blk.arr 3 1 Int 0 (fun n => [.int .i64 n]) l)) (pts_zero)), trivial⟩) ?_
  · exact Nat.zero_le _
  rintro bq hp
  try dsimp only at hp
  have hbq := hp
  refine awp_seq ?_
  refine awp_seq ?_
  refine awp_region rfl (.n (fun _ => op_move (.plain rfl)) (.n (fun _ => op_move (.plain rfl)) (.n (fun _ => op_len (s := 0) Try.underlying22 (.plain rfl)) (.n (fun _ => op_lss (.plain rfl) (.plain rfl)) (.nil _))))) ?_
  refine awp_cond rfl (fun h => ?_) (fun h => ?_)
  · (try simp only [decide_eq_true_eq, decide_eq_false_iff_not, Bool.and_eq_true, Bool.or_eq_true, Bool.and_eq_false_iff, Bool.or_eq_false_iff, Bool.not_eq_true', Bool.not_eq_false', Bool.not_eq_true, Bool.not_eq_false, Bool.true_eq_false, Bool.false_eq_true] at h); (try simp only [fold_c, fold_o, Int.toNat_natCast] at h)
    have hO := hV.ord bq (by omega)
    have hOl := hV.olen bq (by omega)
    have hcb := hV.cnt bq (by omega)
    have hxo := ord_at hO (show 0 < n by omega)
    have hpb := ptsTo_bd (w := wF) hV (fun p hp => by unfold wF; split <;> omega) ⟨hxo.1, hxo.2.1⟩ (show bq ≤ L.length by omega)
    have hat : (mapr n fun x => ptsTo wF L (x : Nat) bq).getD ((orF L bq).getD 0 0).toNat 0 = ptsTo wF L ((orF L bq).getD 0 0) bq := by rw [mapr_getD _ (by omega), Int.toNat_of_nonneg hxo.1]
    refine awp_skip ?_
    refine awp_seq ?_
    refine awp_block ?_
    refine awp_region_draw mixed rfl (.n (fun _ => op_move (.plain rfl)) (.n (fun _ => op_move (.plain rfl)) (.n (fun _ => op_move (.plain rfl)) (.n (fun _ => op_indexAddrN Try.underlying22 Try.sizeOf40 (.plain rfl) (.plain rfl) (fun _ => rfl) ?_) (.n (fun _ => op_fieldAddr Try.underlying40 rfl rfl Try.sizeOf23 (.plain rfl)) (.n (fun _ => op_load Try.isAgg23 (.plain rfl)) (.n (fun _ => op_indexAddr Try.underlying23 Try.sizeOf3 (.plain rfl) (.plain rfl) (fun _ => rfl) ?_) (.n (fun _ => op_load Try.isAgg3 (.plain rfl)) (.n (fun _ => op_move (.plain rfl)) (.n (fun _ => op_move (.plain rfl)) (.n (fun _ => op_move (.plain rfl)) (.n (fun _ => op_indexAddrN Try.underlying22 Try.sizeOf40 (.plain rfl) (.plain rfl) (fun _ => rfl) ?_) (.n (fun _ => op_fieldAddr Try.underlying40 rfl rfl Try.sizeOf23 (.plain rfl)) (.n (fun _ => op_load Try.isAgg23 (.plain rfl)) (.n (fun _ => op_indexAddr Try.underlying23 Try.sizeOf3 (.plain rfl) (.plain rfl) (fun _ => rfl) ?_) (.n (fun _ => op_load Try.isAgg3 (.plain rfl)) (.r (op_indexAddrO Try.underlying23 Try.sizeOf3 (.plain rfl) rfl (.plain rfl) ?_) (.r (op_loadE Try.isAgg3 (.plain rfl) rfl (fun _ => rfl) ?_ rfl) (.n (fun _ => op_move (.plain rfl)) (.n (fun _ => op_move (.plain rfl)) (.n (fun _ => op_indexAddrN Try.underlying22 Try.sizeOf40 (.plain rfl) (.plain rfl) (fun _ => rfl) ?_) (.n (fun _ => op_fieldAddr Try.underlying40 rfl rfl Try.sizeOf3 (.plain rfl)) (.n (fun _ => op_load Try.isAgg3 (.plain rfl)) (.n (fun _ => op_add (.plain rfl) (.plain rfl) ?_) (.r (op_indexAddrO Try.underlying23 Try.sizeOf3 (.plain rfl) rfl (.plain rfl) ?_) (.e (op_storeE _ Try.sizeOf3 (.plain rfl) (.plain rfl) rfl (fun _ => rfl) ?_ (by decide) rfl rfl) rfl (.nil _))))))))))))))))))))))))))) ?d2 ?_
    · (try simp only [fold_c, fold_o, Int.toNat_natCast, Int.toNat_zero, mapr_length])
      omega
    · (try simp only [fold_c, fold_o, Int.toNat_natCast, Int.toNat_zero, mapr_length])
      omega
    · (try simp only [fold_c, fold_o, Int.toNat_natCast, Int.toNat_zero, mapr_length])
      omega
    · (try simp only [fold_c, fold_o, Int.toNat_natCast, Int.toNat_zero, mapr_length])
      omega
    · (try simp only [fold_c, fold_o, Int.toNat_natCast, Int.toNat_zero, mapr_length])
      first | omega | (simp; omega)
    · (try simp only [fold_c, fold_o, Int.toNat_natCast, Int.toNat_zero, mapr_length])
      first | omega | (simp; omega)
    · (try simp only [fold_c, fold_o, Int.toNat_natCast, Int.toNat_zero, mapr_length])
      omega
    · (try simp only [fold_c, fold_o, Int.toNat_natCast, Int.toNat_zero, mapr_length])
      show InR ((mapr n fun x => ptsTo wF L (x : Nat) bq).getD ((orF L bq).getD 0 0).toNat 0 + cnF L bq)
      rw [hat]
      unfold InR; omega
    · (try simp only [fold_c, fold_o, Int.toNat_natCast, Int.toNat_zero, mapr_length])
      first | omega | (simp; omega)
    · (try simp only [fold_c, fold_o, Int.toNat_natCast, Int.toNat_zero, mapr_length])
      first | omega | (simp; omega)
    · kernel_rfl
    refine awp_region rfl (.n (fun _ => op_move (.plain rfl)) (.n (fun _ => op_add (.plain rfl) (.plain rfl) ?_) (.n (fun _ => op_assign (.plain rfl)) (.nil _)))) ?_
    · (try simp only [fold_c, fold_o, Int.toNat_natCast, Int.toNat_zero, mapr_length])
      unfold InR; omega
    exact ⟨bq + 1, by omega, by dsimp only; omega, (Ent.kept ⟨rfl, rfl, rfl, trivial⟩ ⟨(congrArg (fun l => some (Blk.arr 3 1 Int 0 (fun n => [.int .i64 n]) l)) (first_set hO hn1 _ rfl)), trivial⟩)⟩
  · (try simp only [decide_eq_true_eq, decide_eq_false_iff_not, Bool.and_eq_true, Bool.or_eq_true, Bool.and_eq_false_iff, Bool.or_eq_false_iff, Bool.not_eq_true', Bool.not_eq_false', Bool.not_eq_true, Bool.not_eq_false, Bool.true_eq_false, Bool.false_eq_true] at h); (try simp only [fold_c, fold_o, Int.toNat_natCast] at h)
    refine awp_exit ?_
    refine awp_seq ?_
    refine awp_region rfl (.n (fun _ => op_move (.plain rfl)) (.n (fun _ => op_assign (.plain rfl)) (.nil _))) ?_
    refine awp_ret ?_
    refine retQ.ret ?_
    refine ret1 rfl rfl rfl ?_
    rw [show bq = L.length by omega]
    rfl

set_option maxRecDepth 1000000 in
set_option maxHeartbeats 1000000 in
theorem RBorda_fc (n : Nat) (L : List (Int × List Int × Unit)) (hv : voteE n L = 0) : FC Try.prog 33 [.i (n : Nat), .seq (Int × List Int × Unit) (0, [], ()) (fun b => [.i b.1, .ints b.2.1]) L] (.ints (mapr n fun x => ptsF (wB n) L (x : Nat))) := by
  refine FC.intro Try.func33 rfl (Nat.le_of_ble_eq_true rfl) fun hfit => ?_
  have fit0 : -9223372036854775808 ≤ ((n : Nat) : Int) ∧ ((n : Nat) : Int) ≤ 9223372036854775807 := (hfit _ (.head _)).int64
  have fit1 := hfit _ (.tail _ (.head _))
  have hV := vok hv
  have hL30 := hV.len
  have hn := hV.n6
  have hn1 := hV.n1
  refine awp_seq ?_
  refine awp_region rfl (.n (fun _ => op_assign (.plain rfl)) (.nil _)) ?_
  refine awp_seq ?_
  refine awp_region rfl (.n (fun _ => op_assign (.plain rfl)) (.nil _)) ?_
  refine awp_seq ?_
  refine awp_seq ?_
  refine awp_region rfl (.n (fun _ => op_assign (.plain rfl)) (.nil _)) ?_
  refine awp_block ?_
  refine awp_ent (Ent.begin 5 1005 3 1 Int 0 (fun n => [.int .i64 n]) rfl rfl rfl) ?_
  refine awp_loop (σ := Nat) (fun (x : Nat) => x ≤ n) (fun (x : Nat) => ⟨[(0, .pv (.i (n : Nat))), (1, .pv (.seq (Int × List Int × Unit) (0, [], ()) (fun b => [.i b.1, .ints b.2.1]) L)), (5, .own 1005), (6, .int (x : Nat))], [(1005, .arr 3 1 Int 0 (fun n => [.int .i64 n]) (mapr x fun x => ptsF (wB n) L (x : Nat)))]⟩) (fun (x : Nat) => n - x) 0 ?_ (Ent.kept ⟨rfl, rfl, rfl, rfl, trivial⟩ ⟨rfl, trivial⟩) ?_
  · exact Nat.zero_le _
  rintro x hp
  try dsimp only at hp
  have hx := hp
  refine awp_seq ?_
  refine awp_seq ?_
  refine awp_region rfl (.n (fun _ => op_move (.plain rfl)) (.n (fun _ => op_move (.plain rfl)) (.n (fun _ => op_lss (.plain rfl) (.plain rfl)) (.nil _)))) ?_
  refine awp_cond rfl (fun h => ?_) (fun h => ?_)
  · (try simp only [decide_eq_true_eq, decide_eq_false_iff_not, Bool.and_eq_true, Bool.or_eq_true, Bool.and_eq_false_iff, Bool.or_eq_false_iff, Bool.not_eq_true', Bool.not_eq_false', Bool.not_eq_true, Bool.not_eq_false, Bool.true_eq_false, Bool.false_eq_true] at h); (try simp only [fold_c, fold_o, Int.toNat_natCast] at h)
    refine awp_skip ?_
    refine awp_seq ?_
    refine awp_block ?_
    refine awp_seq ?_
    refine awp_region rfl (.n (fun _ => op_assign (.plain rfl)) (.nil _)) ?_
    refine awp_seq ?_
    refine awp_seq ?_
    refine awp_region rfl (.n (fun _ => op_assign (.plain rfl)) (.nil _)) ?_
    refine awp_block ?_
    refine awp_loop (σ := Nat) (fun (y : Nat) => y ≤ n) (fun (y : Nat) => ⟨[(0, .pv (.i (n : Nat))), (1, .pv (.seq (Int × List Int × Unit) (0, [], ()) (fun b => [.i b.1, .ints b.2.1]) L)), (5, .own 1005), (6, .int (x : Nat)), (7, .int (sumTo (fun y => if (x : Int) = (y : Nat) then 0 else prefF L (x : Nat) (y : Nat)) y)), (8, .int (y : Nat))], [(1005, .arr 3 1 Int 0 (fun n => [.int .i64 n]) (mapr x fun x => ptsF (wB n) L (x : Nat)))]⟩) (fun (y : Nat) => n - y) 0 ?_ (Ent.kept ⟨rfl, rfl, rfl, rfl, rfl, rfl, trivial⟩ ⟨rfl, trivial⟩) ?_
    · exact Nat.zero_le _
    rintro y hp
    try dsimp only at hp
    have hy := hp
    refine awp_seq ?_
    refine awp_seq ?_
    refine awp_region rfl (.n (fun _ => op_move (.plain rfl)) (.n (fun _ => op_move (.plain rfl)) (.n (fun _ => op_lss (.plain rfl) (.plain rfl)) (.nil _)))) ?_
    refine awp_cond rfl (fun h => ?_) (fun h => ?_)
    · (try simp only [decide_eq_true_eq, decide_eq_false_iff_not, Bool.and_eq_true, Bool.or_eq_true, Bool.and_eq_false_iff, Bool.or_eq_false_iff, Bool.not_eq_true', Bool.not_eq_false', Bool.not_eq_true, Bool.not_eq_false, Bool.true_eq_false, Bool.false_eq_true] at h); (try simp only [fold_c, fold_o, Int.toNat_natCast] at h)
      refine awp_skip ?_
      refine awp_seq ?_
      refine awp_block ?_
      refine awp_seq ?_
      refine awp_region rfl (.n (fun _ => op_move (.plain rfl)) (.n (fun _ => op_move (.plain rfl)) (.n (fun _ => op_move (.plain rfl)) (.n (fun _ => op_call3 Try.call61 (.plain rfl) (.plain rfl) (.plain rfl) (Prefer_fc n L hv _ _)) (.n (fun _ => op_assign (.plain rfl)) (.nil _)))))) ?_
      refine awp_seq ?_
      refine awp_region rfl (.n (fun _ => op_move (.plain rfl)) (.n (fun _ => op_move (.plain rfl)) (.n (fun _ => op_neq (.plain rfl) (.plain rfl)) (.nil _)))) ?_
      refine awp_cond rfl (fun h => ?_) (fun h => ?_)
      · (try simp only [decide_eq_true_eq, decide_eq_false_iff_not, Bool.and_eq_true, Bool.or_eq_true, Bool.and_eq_false_iff, Bool.or_eq_false_iff, Bool.not_eq_true', Bool.not_eq_false', Bool.not_eq_true, Bool.not_eq_false, Bool.true_eq_false, Bool.false_eq_true] at h); (try simp only [fold_c, fold_o, Int.toNat_natCast] at h)
        have hpk : sumTo (fun y => if (x : Int) = (y : Nat) then 0 else prefF L (x : Nat) (y : Nat)) y + prefF L (x : Nat) (y : Nat) = sumTo (fun y => if (x : Int) = (y : Nat) then 0 else prefF L (x : Nat) (y : Nat)) (y + 1) := by simp only [sumTo]; rw [if_neg h]
        have hb1 := prefF_bd hV (x : Nat) (y : Nat)
        have hb2 := sumTo_bd (f := fun y => if (x : Int) = (y : Nat) then 0 else prefF L (x : Nat) (y : Nat)) (A := 0) (B := 30000) (n := y) fun j _ => by have := prefF_bd hV (x : Nat) (j : Nat); split <;> omega
        refine awp_region rfl (.n (fun _ => op_move (.plain rfl)) (.n (fun _ => op_move (.plain rfl)) (.n (fun _ => op_add (.plain rfl) (.plain rfl) ?_) (.n (fun _ => op_assign (.plain rfl)) (.nil _))))) ?_
        · unfold InR; omega
        refine awp_region rfl (.n (fun _ => op_move (.plain rfl)) (.n (fun _ => op_add (.plain rfl) (.plain rfl) ?_) (.n (fun _ => op_assign (.plain rfl)) (.nil _)))) ?_
        · unfold InR; omega
        exact ⟨y + 1, by omega, by dsimp only; omega, (Ent.kept ⟨rfl, rfl, rfl, rfl, (congrArg (fun n : Int => some (SV.int n)) (hpk)), rfl, trivial⟩ ⟨rfl, trivial⟩)⟩
      · (try simp only [decide_eq_true_eq, decide_eq_false_iff_not, Bool.and_eq_true, Bool.or_eq_true, Bool.and_eq_false_iff, Bool.or_eq_false_iff, Bool.not_eq_true', Bool.not_eq_false', Bool.not_eq_true, Bool.not_eq_false, Bool.true_eq_false, Bool.false_eq_true] at h); (try simp only [fold_c, fold_o, Int.toNat_natCast] at h)
        have hpk : sumTo (fun y => if (x : Int) = (y : Nat) then 0 else prefF L (x : Nat) (y : Nat)) y = sumTo (fun y => if (x : Int) = (y : Nat) then 0 else prefF L (x : Nat) (y : Nat)) (y + 1) := by simp only [sumTo]; rw [if_pos (by omega), Int.add_zero]
        refine awp_skip ?_
        refine awp_region rfl (.n (fun _ => op_move (.plain rfl)) (.n (fun _ => op_add (.plain rfl) (.plain rfl) ?_) (.n (fun _ => op_assign (.plain rfl)) (.nil _)))) ?_
        · unfold InR; omega
        exact ⟨y + 1, by omega, by dsimp only; omega, (Ent.kept ⟨rfl, rfl, rfl, rfl, (congrArg (fun n : Int => some (SV.int n)) (hpk)), rfl, trivial⟩ ⟨rfl, trivial⟩)⟩
    · (try simp only [decide_eq_true_eq, decide_eq_false_iff_not, Bool.and_eq_true, Bool.or_eq_true, Bool.and_eq_false_iff, Bool.or_eq_false_iff, Bool.not_eq_true', Bool.not_eq_false', Bool.not_eq_true, Bool.not_eq_false, Bool.true_eq_false, Bool.false_eq_true] at h); (try simp only [fold_c, fold_o, Int.toNat_natCast] at h)
      refine awp_exit ?_
      refine awp_region rfl (.n (fun _ => op_move (.plain rfl)) (.n (fun _ => op_move (.plain rfl)) (.n (fun _ => op_slit (pp := [(0, _)]) (α := Int) (d := 0) (f := (fun n => [.int .i64 n])) [_] ety23 rfl ⟨rfl, (.plain rfl), (by simp), trivial⟩ rfl (by decide) rfl) (.e (op_append (id' := 33) (α := Int) (d := 0) (f := (fun n => [.int .i64 n])) ety23 Try.underlying23 (fun _ => rfl) (fun _ => rfl) (.plain rfl) rfl (.plain rfl) rfl ?_) rfl (.n (fun _ => op_assign (.plain rfl)) (.nil _)))))) ?_
      · first | omega | (simp; omega)
      refine awp_region rfl (.n (fun _ => op_move (.plain rfl)) (.n (fun _ => op_add (.plain rfl) (.plain rfl) ?_) (.n (fun _ => op_assign (.plain rfl)) (.nil _)))) ?_
      · unfold InR; omega
      exact ⟨x + 1, by omega, by dsimp only; omega, (Ent.round 33 1005 ⟨rfl, rfl, rfl, rfl, trivial⟩ ⟨(congrArg (fun l => some (Blk.arr 3 1 Int 0 (fun n => [.int .i64 n]) l)) (by rw [mapr_succ, show y = n by omega, borda_eq hV (by omega)])), trivial⟩ rfl rfl rfl ⟨rfl, rfl, rfl, rfl, trivial⟩ ⟨rfl, trivial⟩)⟩
  · (try simp only [decide_eq_true_eq, decide_eq_false_iff_not, Bool.and_eq_true, Bool.or_eq_true, Bool.and_eq_false_iff, Bool.or_eq_false_iff, Bool.not_eq_true', Bool.not_eq_false', Bool.not_eq_true, Bool.not_eq_false, Bool.true_eq_false, Bool.false_eq_true] at h); (try simp only [fold_c, fold_o, Int.toNat_natCast] at h)
    refine awp_exit ?_
    refine awp_seq ?_
    refine awp_region rfl (.n (fun _ => op_move (.plain rfl)) (.n (fun _ => op_assign (.plain rfl)) (.nil _))) ?_
    refine awp_ret ?_
    refine retQ.ret ?_
    refine ret1 rfl rfl rfl ?_
    rw [show x = n by omega]

set_option maxRecDepth 1000000 in
set_option maxHeartbeats 1000000 in
theorem Copeland_fc (n : Nat) (L : List (Int × List Int × Unit)) (hv : voteE n L = 0) : FC Try.prog 14 [.i (n : Nat), .seq (Int × List Int × Unit) (0, [], ()) (fun b => [.i b.1, .ints b.2.1]) L] (.tup [.ints (copL n L), .i 0]) := by
  refine FC.intro Try.func14 rfl (Nat.le_of_ble_eq_true rfl) fun hfit => ?_
  have fit0 : -9223372036854775808 ≤ ((n : Nat) : Int) ∧ ((n : Nat) : Int) ≤ 9223372036854775807 := (hfit _ (.head _)).int64
  have fit1 := hfit _ (.tail _ (.head _))
  have hV := vok hv
  have hL30 := hV.len
  have hn := hV.n6
  have hn1 := hV.n1
  refine awp_seq ?_
  refine awp_region rfl (.n (fun _ => op_assign (.plain rfl)) (.n (fun _ => op_assign (.plain rfl)) (.nil _))) ?_
  refine awp_seq ?_
  refine awp_region rfl (.n (fun _ => op_move (.plain rfl)) (.n (fun _ => op_move (.plain rfl)) (.n (fun _ => op_call2 Try.call19 (.plain rfl) (.plain rfl) (Pairs_fc n L hv)) (.n (fun _ => op_move (.plain rfl)) (.n (fun _ => op_extract (.plain rfl) rfl) (.n (fun _ => op_extract (.plain rfl) rfl) (.n (fun _ => op_assign (.plain rfl)) (.n (fun _ => op_assign (.plain rfl)) (.nil _))))))))) ?_
  refine awp_seq ?_
  refine awp_seq ?_
  refine awp_region rfl (.n (fun _ => op_move (.plain rfl)) (.n (fun _ => op_neq (.plain rfl) (.plain rfl)) (.nil _))) ?_
  refine awp_cond rfl (fun h => ?_) (fun h => ?_)
  · (try simp only [decide_eq_true_eq, decide_eq_false_iff_not, Bool.and_eq_true, Bool.or_eq_true, Bool.and_eq_false_iff, Bool.or_eq_false_iff, Bool.not_eq_true', Bool.not_eq_false', Bool.not_eq_true, Bool.not_eq_false, Bool.true_eq_false, Bool.false_eq_true] at h); (try simp only [fold_c, fold_o, Int.toNat_natCast] at h); (try simp only [pr_fold] at h)
    exfalso
    simp at h
  · (try simp only [decide_eq_true_eq, decide_eq_false_iff_not, Bool.and_eq_true, Bool.or_eq_true, Bool.and_eq_false_iff, Bool.or_eq_false_iff, Bool.not_eq_true', Bool.not_eq_false', Bool.not_eq_true, Bool.not_eq_false, Bool.true_eq_false, Bool.false_eq_true] at h); (try simp only [fold_c, fold_o, Int.toNat_natCast] at h); (try simp only [pr_fold] at h)
    refine awp_skip ?_
    refine awp_seq ?_
    refine awp_region rfl (.n (fun _ => op_move (.plain rfl)) (.e (op_make (α := Int) (d := 0) (f := (fun n => [.int .i64 n])) 21 0 ety23 (.plain rfl) (.plain rfl) (fun _ => rfl) rfl rfl ?_) rfl (.n (fun _ => op_assign (.plain rfl)) (.nil _)))) ?_
    · (try simp only [Int.toNat_natCast, copS_length, prM_length, copS_at (show i < n by omega)])
      (try rw [prM_row (show i < n by omega)])
      (try rw [prM_row (show k < n by omega)])
      (try have hcb := copTo_bd (L := L) (i : Nat) k)
      omega
    refine awp_seq ?_
    refine awp_seq ?_
    refine awp_region rfl (.n (fun _ => op_move (.plain rfl)) (.n (fun _ => op_move (.plain rfl)) (.nil _))) ?_
    refine awp_block ?_
    refine awp_loop (σ := Nat) (fun (i : Nat) => i ≤ n) (fun (i : Nat) => ⟨[(0, .pv (.i (n : Nat))), (6, .pv (.rows (prM n L))), (8, .own 21), (22, .int (n : Nat)), (23, .int (i : Nat))], [(21, .arr 3 1 Int 0 (fun n => [.int .i64 n]) (copS n L i 0))]⟩) (fun (i : Nat) => n - i) 0 ?_ (Ent.kept ⟨rfl, rfl, rfl, rfl, rfl, trivial⟩ ⟨(congrArg (fun l => some (Blk.arr 3 1 Int 0 (fun n => [.int .i64 n]) l)) (copS_zero)), trivial⟩) ?_
    · exact Nat.zero_le _
    rintro i hp
    try dsimp only at hp
    have hi := hp
    refine awp_seq ?_
    refine awp_region rfl (.n (fun _ => op_lss (.plain rfl) (.plain rfl)) (.nil _)) ?_
    refine awp_seq ?_
    refine awp_cond rfl (fun h => ?_) (fun h => ?_)
    · (try simp only [decide_eq_true_eq, decide_eq_false_iff_not, Bool.and_eq_true, Bool.or_eq_true, Bool.and_eq_false_iff, Bool.or_eq_false_iff, Bool.not_eq_true', Bool.not_eq_false', Bool.not_eq_true, Bool.not_eq_false, Bool.true_eq_false, Bool.false_eq_true] at h); (try simp only [fold_c, fold_o, Int.toNat_natCast] at h); (try simp only [pr_fold] at h)
      refine awp_skip ?_
      refine awp_seq ?_
      refine awp_block ?_
      refine awp_seq ?_
      refine awp_region rfl (.n (fun _ => op_move (.plain rfl)) (.n (fun _ => op_assign (.plain rfl)) (.nil _))) ?_
      refine awp_seq ?_
      refine awp_region rfl (.n (fun _ => op_move (.plain rfl)) (.n (fun _ => op_move (.plain rfl)) (.nil _))) ?_
      refine awp_block ?_
      refine awp_loop (σ := Nat) (fun (k : Nat) => k ≤ n) (fun (k : Nat) => ⟨[(0, .pv (.i (n : Nat))), (6, .pv (.rows (prM n L))), (8, .own 21), (9, .int (i : Nat)), (22, .int (n : Nat)), (23, .int (i : Nat)), (26, .int (n : Nat)), (27, .int (k : Nat))], [(21, .arr 3 1 Int 0 (fun n => [.int .i64 n]) (copS n L i k))]⟩) (fun (k : Nat) => n - k) 0 ?_ (Ent.kept ⟨rfl, rfl, rfl, rfl, rfl, rfl, rfl, rfl, trivial⟩ ⟨rfl, trivial⟩) ?_
      · exact Nat.zero_le _
      rintro k hp
      try dsimp only at hp
      have hk := hp
      refine awp_seq ?_
      refine awp_region rfl (.n (fun _ => op_lss (.plain rfl) (.plain rfl)) (.nil _)) ?_
      refine awp_seq ?_
      refine awp_cond rfl (fun h => ?_) (fun h => ?_)
      · (try simp only [decide_eq_true_eq, decide_eq_false_iff_not, Bool.and_eq_true, Bool.or_eq_true, Bool.and_eq_false_iff, Bool.or_eq_false_iff, Bool.not_eq_true', Bool.not_eq_false', Bool.not_eq_true, Bool.not_eq_false, Bool.true_eq_false, Bool.false_eq_true] at h); (try simp only [fold_c, fold_o, Int.toNat_natCast] at h); (try simp only [pr_fold] at h)
        refine awp_skip ?_
        refine awp_seq ?_
        refine awp_block ?_
        refine awp_seq ?_
        refine awp_region rfl (.n (fun _ => op_move (.plain rfl)) (.n (fun _ => op_assign (.plain rfl)) (.nil _))) ?_
        refine awp_block ?_
        refine awp_seq ?_
        refine awp_region_draw mixed rfl (.n (fun _ => op_move (.plain rfl)) (.n (fun _ => op_move (.plain rfl)) (.n (fun _ => op_indexAddrN Try.underlying31 Try.sizeOf23 (.plain rfl) (.plain rfl) (fun _ => rfl) ?_) (.n (fun _ => op_load Try.isAgg23 (.plain rfl)) (.n (fun _ => op_move (.plain rfl)) (.n (fun _ => op_indexAddrN Try.underlying23 Try.sizeOf3 (.plain rfl) (.plain rfl) (fun _ => rfl) ?_) (.n (fun _ => op_load Try.isAgg3 (.plain rfl)) (.n (fun _ => op_move (.plain rfl)) (.n (fun _ => op_move (.plain rfl)) (.n (fun _ => op_indexAddrN Try.underlying31 Try.sizeOf23 (.plain rfl) (.plain rfl) (fun _ => rfl) ?_) (.n (fun _ => op_load Try.isAgg23 (.plain rfl)) (.n (fun _ => op_move (.plain rfl)) (.n (fun _ => op_indexAddrN Try.underlying23 Try.sizeOf3 (.plain rfl) (.plain rfl) (fun _ => rfl) ?_) (.n (fun _ => op_load Try.isAgg3 (.plain rfl)) (.n (fun _ => op_gtr (.plain rfl) (.plain rfl)) (.n (fun _ => op_assign (.plain rfl)) (.nil _))))))))))))))))) ?d3 ?_
        · (try simp only [Int.toNat_natCast, copS_length, prM_length, copS_at (show i < n by omega)])
          (try rw [prM_row (show i < n by omega)])
          (try rw [prM_row (show k < n by omega)])
          (try have hcb := copTo_bd (L := L) (i : Nat) k)
          omega
        · (try simp only [Int.toNat_natCast, copS_length, prM_length, copS_at (show i < n by omega)])
          (try rw [prM_row (show i < n by omega)])
          (try rw [prM_row (show k < n by omega)])
          (try have hcb := copTo_bd (L := L) (i : Nat) k)
          omega
        · (try simp only [Int.toNat_natCast, copS_length, prM_length, copS_at (show i < n by omega)])
          (try rw [prM_row (show i < n by omega)])
          (try rw [prM_row (show k < n by omega)])
          (try have hcb := copTo_bd (L := L) (i : Nat) k)
          omega
        · (try simp only [Int.toNat_natCast, copS_length, prM_length, copS_at (show i < n by omega)])
          (try rw [prM_row (show i < n by omega)])
          (try rw [prM_row (show k < n by omega)])
          (try have hcb := copTo_bd (L := L) (i : Nat) k)
          omega
        · kernel_rfl
        refine awp_cond rfl (fun h => ?_) (fun h => ?_)
        · (try simp only [decide_eq_true_eq, decide_eq_false_iff_not, Bool.and_eq_true, Bool.or_eq_true, Bool.and_eq_false_iff, Bool.or_eq_false_iff, Bool.not_eq_true', Bool.not_eq_false', Bool.not_eq_true, Bool.not_eq_false, Bool.true_eq_false, Bool.false_eq_true] at h); (try simp only [fold_c, fold_o, Int.toNat_natCast] at h); (try simp only [pr_fold] at h)
          rw [prM_two (show i < n by omega) (show k < n by omega), prM_two (show k < n by omega) (show i < n by omega)] at h
          have hc := cop_up h
          refine awp_region rfl (.n (fun _ => op_move (.plain rfl)) (.n (fun _ => op_move (.plain rfl)) (.r (op_indexAddrON Try.underlying23 Try.sizeOf3 (.plain rfl) rfl (.plain rfl) ?_) (.r (op_loadE Try.isAgg3 (.plain rfl) rfl (fun _ => rfl) ?_ rfl) (.n (fun _ => op_add (.plain rfl) (.plain rfl) ?_) (.r (op_indexAddrON Try.underlying23 Try.sizeOf3 (.plain rfl) rfl (.plain rfl) ?_) (.e (op_storeE _ Try.sizeOf3 (.plain rfl) (.plain rfl) rfl (fun _ => rfl) ?_ (by decide) rfl rfl) rfl (.nil _)))))))) ?_
          · (try simp only [Int.toNat_natCast, copS_length, prM_length, copS_at (show i < n by omega)])
            (try rw [prM_row (show i < n by omega)])
            (try rw [prM_row (show k < n by omega)])
            (try have hcb := copTo_bd (L := L) (i : Nat) k)
            first | omega | (simp; omega)
          · (try simp only [Int.toNat_natCast, copS_length, prM_length, copS_at (show i < n by omega)])
            (try rw [prM_row (show i < n by omega)])
            (try rw [prM_row (show k < n by omega)])
            (try have hcb := copTo_bd (L := L) (i : Nat) k)
            first | omega | (simp; omega)
          · (try simp only [Int.toNat_natCast, copS_length, prM_length, copS_at (show i < n by omega)])
            (try rw [prM_row (show i < n by omega)])
            (try rw [prM_row (show k < n by omega)])
            (try have hcb := copTo_bd (L := L) (i : Nat) k)
            unfold InR; omega
          · (try simp only [Int.toNat_natCast, copS_length, prM_length, copS_at (show i < n by omega)])
            (try rw [prM_row (show i < n by omega)])
            (try rw [prM_row (show k < n by omega)])
            (try have hcb := copTo_bd (L := L) (i : Nat) k)
            first | omega | (simp; omega)
          · (try simp only [Int.toNat_natCast, copS_length, prM_length, copS_at (show i < n by omega)])
            (try rw [prM_row (show i < n by omega)])
            (try rw [prM_row (show k < n by omega)])
            (try have hcb := copTo_bd (L := L) (i : Nat) k)
            first | omega | (simp; omega)
          refine awp_region rfl (.n (fun _ => op_add (.plain rfl) (.plain rfl) ?_) (.n (fun _ => op_move (.plain rfl)) (.nil _))) ?_
          · (try simp only [Int.toNat_natCast, copS_length, prM_length, copS_at (show i < n by omega)])
            (try rw [prM_row (show i < n by omega)])
            (try rw [prM_row (show k < n by omega)])
            (try have hcb := copTo_bd (L := L) (i : Nat) k)
            unfold InR; omega
          exact ⟨k + 1, by omega, by dsimp only; omega, (Ent.kept ⟨rfl, rfl, rfl, rfl, rfl, rfl, rfl, rfl, trivial⟩ ⟨(by first | exact (congrArg (fun l => some (Blk.arr 3 1 Int 0 (fun n => [.int .i64 n]) l)) (copS_set (by rw [← hc]; exact congrArg (· + 1) (copS_at (show i < n by omega))))) | exact (congrArg (fun l => some (Blk.arr 3 1 Int 0 (fun n => [.int .i64 n]) l)) (copS_set (by rw [← hc]; exact congrArg (· - 1) (copS_at (show i < n by omega))))) | exact (congrArg (fun l => some (Blk.arr 3 1 Int 0 (fun n => [.int .i64 n]) l)) (copS_same hc))), trivial⟩)⟩
        · (try simp only [decide_eq_true_eq, decide_eq_false_iff_not, Bool.and_eq_true, Bool.or_eq_true, Bool.and_eq_false_iff, Bool.or_eq_false_iff, Bool.not_eq_true', Bool.not_eq_false', Bool.not_eq_true, Bool.not_eq_false, Bool.true_eq_false, Bool.false_eq_true] at h); (try simp only [fold_c, fold_o, Int.toNat_natCast] at h); (try simp only [pr_fold] at h)
          rw [prM_two (show i < n by omega) (show k < n by omega), prM_two (show k < n by omega) (show i < n by omega)] at h
          have hc1 := h
          refine awp_seq ?_
          refine awp_region_draw mixed rfl (.n (fun _ => op_move (.plain rfl)) (.n (fun _ => op_move (.plain rfl)) (.n (fun _ => op_indexAddrN Try.underlying31 Try.sizeOf23 (.plain rfl) (.plain rfl) (fun _ => rfl) ?_) (.n (fun _ => op_load Try.isAgg23 (.plain rfl)) (.n (fun _ => op_move (.plain rfl)) (.n (fun _ => op_indexAddrN Try.underlying23 Try.sizeOf3 (.plain rfl) (.plain rfl) (fun _ => rfl) ?_) (.n (fun _ => op_load Try.isAgg3 (.plain rfl)) (.n (fun _ => op_move (.plain rfl)) (.n (fun _ => op_move (.plain rfl)) (.n (fun _ => op_indexAddrN Try.underlying31 Try.sizeOf23 (.plain rfl) (.plain rfl) (fun _ => rfl) ?_) (.n (fun _ => op_load Try.isAgg23 (.plain rfl)) (.n (fun _ => op_move (.plain rfl)) (.n (fun _ => op_indexAddrN Try.underlying23 Try.sizeOf3 (.plain rfl) (.plain rfl) (fun _ => rfl) ?_) (.n (fun _ => op_load Try.isAgg3 (.plain rfl)) (.n (fun _ => op_lss (.plain rfl) (.plain rfl)) (.n (fun _ => op_assign (.plain rfl)) (.nil _))))))))))))))))) ?d4 ?_
          · (try simp only [Int.toNat_natCast, copS_length, prM_length, copS_at (show i < n by omega)])
            (try rw [prM_row (show i < n by omega)])
            (try rw [prM_row (show k < n by omega)])
            (try have hcb := copTo_bd (L := L) (i : Nat) k)
            omega
          · (try simp only [Int.toNat_natCast, copS_length, prM_length, copS_at (show i < n by omega)])
            (try rw [prM_row (show i < n by omega)])
            (try rw [prM_row (show k < n by omega)])
            (try have hcb := copTo_bd (L := L) (i : Nat) k)
            omega
          · (try simp only [Int.toNat_natCast, copS_length, prM_length, copS_at (show i < n by omega)])
            (try rw [prM_row (show i < n by omega)])
            (try rw [prM_row (show k < n by omega)])
            (try have hcb := copTo_bd (L := L) (i : Nat) k)
            omega
          · (try simp only [Int.toNat_natCast, copS_length, prM_length, copS_at (show i < n by omega)])
            (try rw [prM_row (show i < n by omega)])
            (try rw [prM_row (show k < n by omega)])
            (try have hcb := copTo_bd (L := L) (i : Nat) k)
            omega
          · kernel_rfl
          refine awp_cond rfl (fun h => ?_) (fun h => ?_)
          · (try simp only [decide_eq_true_eq, decide_eq_false_iff_not, Bool.and_eq_true, Bool.or_eq_true, Bool.and_eq_false_iff, Bool.or_eq_false_iff, Bool.not_eq_true', Bool.not_eq_false', Bool.not_eq_true, Bool.not_eq_false, Bool.true_eq_false, Bool.false_eq_true] at h); (try simp only [fold_c, fold_o, Int.toNat_natCast] at h); (try simp only [pr_fold] at h)
            rw [prM_two (show i < n by omega) (show k < n by omega), prM_two (show k < n by omega) (show i < n by omega)] at h
            have hc := cop_down hc1 h
            refine awp_region rfl (.n (fun _ => op_move (.plain rfl)) (.n (fun _ => op_move (.plain rfl)) (.r (op_indexAddrON Try.underlying23 Try.sizeOf3 (.plain rfl) rfl (.plain rfl) ?_) (.r (op_loadE Try.isAgg3 (.plain rfl) rfl (fun _ => rfl) ?_ rfl) (.n (fun _ => op_sub (.plain rfl) (.plain rfl) ?_) (.r (op_indexAddrON Try.underlying23 Try.sizeOf3 (.plain rfl) rfl (.plain rfl) ?_) (.e (op_storeE _ Try.sizeOf3 (.plain rfl) (.plain rfl) rfl (fun _ => rfl) ?_ (by decide) rfl rfl) rfl (.nil _)))))))) ?_
            · (try simp only [Int.toNat_natCast, copS_length, prM_length, copS_at (show i < n by omega)])
              (try rw [prM_row (show i < n by omega)])
              (try rw [prM_row (show k < n by omega)])
              (try have hcb := copTo_bd (L := L) (i : Nat) k)
              first | omega | (simp; omega)
            · (try simp only [Int.toNat_natCast, copS_length, prM_length, copS_at (show i < n by omega)])
              (try rw [prM_row (show i < n by omega)])
              (try rw [prM_row (show k < n by omega)])
              (try have hcb := copTo_bd (L := L) (i : Nat) k)
              first | omega | (simp; omega)
            · (try simp only [Int.toNat_natCast, copS_length, prM_length, copS_at (show i < n by omega)])
              (try rw [prM_row (show i < n by omega)])
              (try rw [prM_row (show k < n by omega)])
              (try have hcb := copTo_bd (L := L) (i : Nat) k)
              unfold InR; omega
            · (try simp only [Int.toNat_natCast, copS_length, prM_length, copS_at (show i < n by omega)])
              (try rw [prM_row (show i < n by omega)])
              (try rw [prM_row (show k < n by omega)])
              (try have hcb := copTo_bd (L := L) (i : Nat) k)
              first | omega | (simp; omega)
            · (try simp only [Int.toNat_natCast, copS_length, prM_length, copS_at (show i < n by omega)])
              (try rw [prM_row (show i < n by omega)])
              (try rw [prM_row (show k < n by omega)])
              (try have hcb := copTo_bd (L := L) (i : Nat) k)
              first | omega | (simp; omega)
            refine awp_region rfl (.n (fun _ => op_add (.plain rfl) (.plain rfl) ?_) (.n (fun _ => op_move (.plain rfl)) (.nil _))) ?_
            · (try simp only [Int.toNat_natCast, copS_length, prM_length, copS_at (show i < n by omega)])
              (try rw [prM_row (show i < n by omega)])
              (try rw [prM_row (show k < n by omega)])
              (try have hcb := copTo_bd (L := L) (i : Nat) k)
              unfold InR; omega
            exact ⟨k + 1, by omega, by dsimp only; omega, (Ent.kept ⟨rfl, rfl, rfl, rfl, rfl, rfl, rfl, rfl, trivial⟩ ⟨(by first | exact (congrArg (fun l => some (Blk.arr 3 1 Int 0 (fun n => [.int .i64 n]) l)) (copS_set (by rw [← hc]; exact congrArg (· + 1) (copS_at (show i < n by omega))))) | exact (congrArg (fun l => some (Blk.arr 3 1 Int 0 (fun n => [.int .i64 n]) l)) (copS_set (by rw [← hc]; exact congrArg (· - 1) (copS_at (show i < n by omega))))) | exact (congrArg (fun l => some (Blk.arr 3 1 Int 0 (fun n => [.int .i64 n]) l)) (copS_same hc))), trivial⟩)⟩
          · (try simp only [decide_eq_true_eq, decide_eq_false_iff_not, Bool.and_eq_true, Bool.or_eq_true, Bool.and_eq_false_iff, Bool.or_eq_false_iff, Bool.not_eq_true', Bool.not_eq_false', Bool.not_eq_true, Bool.not_eq_false, Bool.true_eq_false, Bool.false_eq_true] at h); (try simp only [fold_c, fold_o, Int.toNat_natCast] at h); (try simp only [pr_fold] at h)
            rw [prM_two (show i < n by omega) (show k < n by omega), prM_two (show k < n by omega) (show i < n by omega)] at h
            have hc := cop_eq hc1 h
            refine awp_skip ?_
            refine awp_region rfl (.n (fun _ => op_add (.plain rfl) (.plain rfl) ?_) (.n (fun _ => op_move (.plain rfl)) (.nil _))) ?_
            · (try simp only [Int.toNat_natCast, copS_length, prM_length, copS_at (show i < n by omega)])
              (try rw [prM_row (show i < n by omega)])
              (try rw [prM_row (show k < n by omega)])
              (try have hcb := copTo_bd (L := L) (i : Nat) k)
              unfold InR; omega
            exact ⟨k + 1, by omega, by dsimp only; omega, (Ent.kept ⟨rfl, rfl, rfl, rfl, rfl, rfl, rfl, rfl, trivial⟩ ⟨(by first | exact (congrArg (fun l => some (Blk.arr 3 1 Int 0 (fun n => [.int .i64 n]) l)) (copS_set (by rw [← hc]; exact congrArg (· + 1) (copS_at (show i < n by omega))))) | exact (congrArg (fun l => some (Blk.arr 3 1 Int 0 (fun n => [.int .i64 n]) l)) (copS_set (by rw [← hc]; exact congrArg (· - 1) (copS_at (show i < n by omega))))) | exact (congrArg (fun l => some (Blk.arr 3 1 Int 0 (fun n => [.int .i64 n]) l)) (copS_same hc))), trivial⟩)⟩
      · (try simp only [decide_eq_true_eq, decide_eq_false_iff_not, Bool.and_eq_true, Bool.or_eq_true, Bool.and_eq_false_iff, Bool.or_eq_false_iff, Bool.not_eq_true', Bool.not_eq_false', Bool.not_eq_true, Bool.not_eq_false, Bool.true_eq_false, Bool.false_eq_true] at h); (try simp only [fold_c, fold_o, Int.toNat_natCast] at h); (try simp only [pr_fold] at h)
        refine awp_exit ?_
        refine awp_region rfl (.n (fun _ => op_add (.plain rfl) (.plain rfl) ?_) (.n (fun _ => op_move (.plain rfl)) (.nil _))) ?_
        · (try simp only [Int.toNat_natCast, copS_length, prM_length, copS_at (show i < n by omega)])
          (try rw [prM_row (show i < n by omega)])
          (try rw [prM_row (show k < n by omega)])
          (try have hcb := copTo_bd (L := L) (i : Nat) k)
          unfold InR; omega
        exact ⟨i + 1, by omega, by dsimp only; omega, (Ent.kept ⟨rfl, rfl, rfl, rfl, rfl, trivial⟩ ⟨(congrArg (fun l => some (Blk.arr 3 1 Int 0 (fun n => [.int .i64 n]) l)) (by rw [show k = n by omega]; exact copS_next)), trivial⟩)⟩
    · (try simp only [decide_eq_true_eq, decide_eq_false_iff_not, Bool.and_eq_true, Bool.or_eq_true, Bool.and_eq_false_iff, Bool.or_eq_false_iff, Bool.not_eq_true', Bool.not_eq_false', Bool.not_eq_true, Bool.not_eq_false, Bool.true_eq_false, Bool.false_eq_true] at h); (try simp only [fold_c, fold_o, Int.toNat_natCast] at h); (try simp only [pr_fold] at h)
      refine awp_exit ?_
      refine awp_seq ?_
      refine awp_region rfl (.n (fun _ => op_move (.plain rfl)) (.n (fun _ => op_assign (.plain rfl)) (.n (fun _ => op_assign (.plain rfl)) (.nil _)))) ?_
      refine awp_ret ?_
      refine retQ.ret ?_
      refine ret2 rfl rfl rfl rfl rfl ?_
      rw [show i = n by omega, copS_end]

set_option maxRecDepth 1000000 in
set_option maxHeartbeats 1000000 in
theorem RCopeland_fc (n : Nat) (L : List (Int × List Int × Unit)) (hv : voteE n L = 0) : FC Try.prog 34 [.i (n : Nat), .seq (Int × List Int × Unit) (0, [], ()) (fun b => [.i b.1, .ints b.2.1]) L] (.ints (copL n L)) := by
  refine FC.intro Try.func34 rfl (Nat.le_of_ble_eq_true rfl) fun hfit => ?_
  have fit0 : -9223372036854775808 ≤ ((n : Nat) : Int) ∧ ((n : Nat) : Int) ≤ 9223372036854775807 := (hfit _ (.head _)).int64
  have fit1 := hfit _ (.tail _ (.head _))
  have hV := vok hv
  have hL30 := hV.len
  have hn := hV.n6
  have hn1 := hV.n1
  refine awp_seq ?_
  refine awp_region rfl (.n (fun _ => op_assign (.plain rfl)) (.nil _)) ?_
  refine awp_seq ?_
  refine awp_region rfl (.n (fun _ => op_assign (.plain rfl)) (.nil _)) ?_
  refine awp_seq ?_
  refine awp_seq ?_
  refine awp_region rfl (.n (fun _ => op_assign (.plain rfl)) (.nil _)) ?_
  refine awp_block ?_
  refine awp_ent (Ent.begin 5 1005 3 1 Int 0 (fun n => [.int .i64 n]) rfl rfl rfl) ?_
  refine awp_loop (σ := Nat) (fun (x : Nat) => x ≤ n) (fun (x : Nat) => ⟨[(0, .pv (.i (n : Nat))), (1, .pv (.seq (Int × List Int × Unit) (0, [], ()) (fun b => [.i b.1, .ints b.2.1]) L)), (5, .own 1005), (6, .int (x : Nat))], [(1005, .arr 3 1 Int 0 (fun n => [.int .i64 n]) (mapr x fun x => copF n L (x : Nat)))]⟩) (fun (x : Nat) => n - x) 0 ?_ (Ent.kept ⟨rfl, rfl, rfl, rfl, trivial⟩ ⟨rfl, trivial⟩) ?_
  · exact Nat.zero_le _
  rintro x hp
  try dsimp only at hp
  have hx := hp
  refine awp_seq ?_
  refine awp_seq ?_
  refine awp_region rfl (.n (fun _ => op_move (.plain rfl)) (.n (fun _ => op_move (.plain rfl)) (.n (fun _ => op_lss (.plain rfl) (.plain rfl)) (.nil _)))) ?_
  refine awp_cond rfl (fun h => ?_) (fun h => ?_)
  · (try simp only [decide_eq_true_eq, decide_eq_false_iff_not, Bool.and_eq_true, Bool.or_eq_true, Bool.and_eq_false_iff, Bool.or_eq_false_iff, Bool.not_eq_true', Bool.not_eq_false', Bool.not_eq_true, Bool.not_eq_false, Bool.true_eq_false, Bool.false_eq_true] at h); (try simp only [fold_c, fold_o, Int.toNat_natCast] at h)
    refine awp_skip ?_
    refine awp_seq ?_
    refine awp_block ?_
    refine awp_seq ?_
    refine awp_region rfl (.n (fun _ => op_assign (.plain rfl)) (.nil _)) ?_
    refine awp_seq ?_
    refine awp_seq ?_
    refine awp_region rfl (.n (fun _ => op_assign (.plain rfl)) (.nil _)) ?_
    refine awp_block ?_
    refine awp_loop (σ := Nat) (fun (y : Nat) => y ≤ n) (fun (y : Nat) => ⟨[(0, .pv (.i (n : Nat))), (1, .pv (.seq (Int × List Int × Unit) (0, [], ()) (fun b => [.i b.1, .ints b.2.1]) L)), (5, .own 1005), (6, .int (x : Nat)), (7, .int (copTo L (x : Nat) y)), (8, .int (y : Nat))], [(1005, .arr 3 1 Int 0 (fun n => [.int .i64 n]) (mapr x fun x => copF n L (x : Nat)))]⟩) (fun (y : Nat) => n - y) 0 ?_ (Ent.kept ⟨rfl, rfl, rfl, rfl, rfl, rfl, trivial⟩ ⟨rfl, trivial⟩) ?_
    · exact Nat.zero_le _
    rintro y hp
    try dsimp only at hp
    have hy := hp
    refine awp_seq ?_
    refine awp_seq ?_
    refine awp_region rfl (.n (fun _ => op_move (.plain rfl)) (.n (fun _ => op_move (.plain rfl)) (.n (fun _ => op_lss (.plain rfl) (.plain rfl)) (.nil _)))) ?_
    refine awp_cond rfl (fun h => ?_) (fun h => ?_)
    · (try simp only [decide_eq_true_eq, decide_eq_false_iff_not, Bool.and_eq_true, Bool.or_eq_true, Bool.and_eq_false_iff, Bool.or_eq_false_iff, Bool.not_eq_true', Bool.not_eq_false', Bool.not_eq_true, Bool.not_eq_false, Bool.true_eq_false, Bool.false_eq_true] at h); (try simp only [fold_c, fold_o, Int.toNat_natCast] at h)
      refine awp_skip ?_
      refine awp_seq ?_
      refine awp_block ?_
      refine awp_seq ?_
      refine awp_region rfl (.n (fun _ => op_move (.plain rfl)) (.n (fun _ => op_move (.plain rfl)) (.n (fun _ => op_move (.plain rfl)) (.n (fun _ => op_call3 Try.call62 (.plain rfl) (.plain rfl) (.plain rfl) (Beats_fc n L hv _ _)) (.n (fun _ => op_assign (.plain rfl)) (.nil _)))))) ?_
      refine awp_seq ?_
      refine awp_region rfl (.n (fun _ => op_move (.plain rfl)) (.n (fun _ => op_move (.plain rfl)) (.n (fun _ => op_move (.plain rfl)) (.n (fun _ => op_call3 Try.call62 (.plain rfl) (.plain rfl) (.plain rfl) (Beats_fc n L hv _ _)) (.n (fun _ => op_assign (.plain rfl)) (.nil _)))))) ?_
      refine awp_seq ?_
      refine awp_seq ?_
      refine awp_region rfl (.n (fun _ => op_move (.plain rfl)) (.nil _)) ?_
      refine awp_cond rfl (fun h => ?_) (fun h => ?_)
      · (try simp only [decide_eq_true_eq, decide_eq_false_iff_not, Bool.and_eq_true, Bool.or_eq_true, Bool.and_eq_false_iff, Bool.or_eq_false_iff, Bool.not_eq_true', Bool.not_eq_false', Bool.not_eq_true, Bool.not_eq_false, Bool.true_eq_false, Bool.false_eq_true] at h); (try simp only [fold_c, fold_o, Int.toNat_natCast] at h)
        have h1 := h
        have hcb := copTo_bd (L := L) (x : Int) y
        refine awp_region rfl (.n (fun _ => op_move (.plain rfl)) (.n (fun _ => op_add (.plain rfl) (.plain rfl) ?_) (.n (fun _ => op_assign (.plain rfl)) (.nil _)))) ?_
        · unfold InR; omega
        refine awp_seq ?_
        refine awp_region rfl (.n (fun _ => op_move (.plain rfl)) (.nil _)) ?_
        refine awp_cond rfl (fun h => ?_) (fun h => ?_)
        · (try simp only [decide_eq_true_eq, decide_eq_false_iff_not, Bool.and_eq_true, Bool.or_eq_true, Bool.and_eq_false_iff, Bool.or_eq_false_iff, Bool.not_eq_true', Bool.not_eq_false', Bool.not_eq_true, Bool.not_eq_false, Bool.true_eq_false, Bool.false_eq_true] at h); (try simp only [fold_c, fold_o, Int.toNat_natCast] at h)
          have hc := rcop h1 h
          refine awp_region rfl (.n (fun _ => op_move (.plain rfl)) (.n (fun _ => op_sub (.plain rfl) (.plain rfl) ?_) (.n (fun _ => op_assign (.plain rfl)) (.nil _)))) ?_
          · unfold InR; omega
          refine awp_region rfl (.n (fun _ => op_move (.plain rfl)) (.n (fun _ => op_add (.plain rfl) (.plain rfl) ?_) (.n (fun _ => op_assign (.plain rfl)) (.nil _)))) ?_
          · unfold InR; omega
          exact ⟨y + 1, by omega, by dsimp only; omega, (Ent.kept ⟨rfl, rfl, rfl, rfl, (congrArg (fun n : Int => some (SV.int n)) (by simp only [Bool.false_eq_true, if_true, if_false, ite_true, ite_false] at hc; omega)), rfl, trivial⟩ ⟨rfl, trivial⟩)⟩
        · (try simp only [decide_eq_true_eq, decide_eq_false_iff_not, Bool.and_eq_true, Bool.or_eq_true, Bool.and_eq_false_iff, Bool.or_eq_false_iff, Bool.not_eq_true', Bool.not_eq_false', Bool.not_eq_true, Bool.not_eq_false, Bool.true_eq_false, Bool.false_eq_true] at h); (try simp only [fold_c, fold_o, Int.toNat_natCast] at h)
          have hc := rcop h1 h
          refine awp_skip ?_
          refine awp_region rfl (.n (fun _ => op_move (.plain rfl)) (.n (fun _ => op_add (.plain rfl) (.plain rfl) ?_) (.n (fun _ => op_assign (.plain rfl)) (.nil _)))) ?_
          · unfold InR; omega
          exact ⟨y + 1, by omega, by dsimp only; omega, (Ent.kept ⟨rfl, rfl, rfl, rfl, (congrArg (fun n : Int => some (SV.int n)) (by simp only [Bool.false_eq_true, if_true, if_false, ite_true, ite_false] at hc; omega)), rfl, trivial⟩ ⟨rfl, trivial⟩)⟩
      · (try simp only [decide_eq_true_eq, decide_eq_false_iff_not, Bool.and_eq_true, Bool.or_eq_true, Bool.and_eq_false_iff, Bool.or_eq_false_iff, Bool.not_eq_true', Bool.not_eq_false', Bool.not_eq_true, Bool.not_eq_false, Bool.true_eq_false, Bool.false_eq_true] at h); (try simp only [fold_c, fold_o, Int.toNat_natCast] at h)
        have h1 := h
        have hcb := copTo_bd (L := L) (x : Int) y
        refine awp_skip ?_
        refine awp_seq ?_
        refine awp_region rfl (.n (fun _ => op_move (.plain rfl)) (.nil _)) ?_
        refine awp_cond rfl (fun h => ?_) (fun h => ?_)
        · (try simp only [decide_eq_true_eq, decide_eq_false_iff_not, Bool.and_eq_true, Bool.or_eq_true, Bool.and_eq_false_iff, Bool.or_eq_false_iff, Bool.not_eq_true', Bool.not_eq_false', Bool.not_eq_true, Bool.not_eq_false, Bool.true_eq_false, Bool.false_eq_true] at h); (try simp only [fold_c, fold_o, Int.toNat_natCast] at h)
          have hc := rcop h1 h
          refine awp_region rfl (.n (fun _ => op_move (.plain rfl)) (.n (fun _ => op_sub (.plain rfl) (.plain rfl) ?_) (.n (fun _ => op_assign (.plain rfl)) (.nil _)))) ?_
          · unfold InR; omega
          refine awp_region rfl (.n (fun _ => op_move (.plain rfl)) (.n (fun _ => op_add (.plain rfl) (.plain rfl) ?_) (.n (fun _ => op_assign (.plain rfl)) (.nil _)))) ?_
          · unfold InR; omega
          exact ⟨y + 1, by omega, by dsimp only; omega, (Ent.kept ⟨rfl, rfl, rfl, rfl, (congrArg (fun n : Int => some (SV.int n)) (by simp only [Bool.false_eq_true, if_true, if_false, ite_true, ite_false] at hc; omega)), rfl, trivial⟩ ⟨rfl, trivial⟩)⟩
        · (try simp only [decide_eq_true_eq, decide_eq_false_iff_not, Bool.and_eq_true, Bool.or_eq_true, Bool.and_eq_false_iff, Bool.or_eq_false_iff, Bool.not_eq_true', Bool.not_eq_false', Bool.not_eq_true, Bool.not_eq_false, Bool.true_eq_false, Bool.false_eq_true] at h); (try simp only [fold_c, fold_o, Int.toNat_natCast] at h)
          have hc := rcop h1 h
          refine awp_skip ?_
          refine awp_region rfl (.n (fun _ => op_move (.plain rfl)) (.n (fun _ => op_add (.plain rfl) (.plain rfl) ?_) (.n (fun _ => op_assign (.plain rfl)) (.nil _)))) ?_
          · unfold InR; omega
          exact ⟨y + 1, by omega, by dsimp only; omega, (Ent.kept ⟨rfl, rfl, rfl, rfl, (congrArg (fun n : Int => some (SV.int n)) (by simp only [Bool.false_eq_true, if_true, if_false, ite_true, ite_false] at hc; omega)), rfl, trivial⟩ ⟨rfl, trivial⟩)⟩
    · (try simp only [decide_eq_true_eq, decide_eq_false_iff_not, Bool.and_eq_true, Bool.or_eq_true, Bool.and_eq_false_iff, Bool.or_eq_false_iff, Bool.not_eq_true', Bool.not_eq_false', Bool.not_eq_true, Bool.not_eq_false, Bool.true_eq_false, Bool.false_eq_true] at h); (try simp only [fold_c, fold_o, Int.toNat_natCast] at h)
      refine awp_exit ?_
      refine awp_region rfl (.n (fun _ => op_move (.plain rfl)) (.n (fun _ => op_move (.plain rfl)) (.n (fun _ => op_slit (pp := [(0, _)]) (α := Int) (d := 0) (f := (fun n => [.int .i64 n])) [_] ety23 rfl ⟨rfl, (.plain rfl), (by simp), trivial⟩ rfl (by decide) rfl) (.e (op_append (id' := 38) (α := Int) (d := 0) (f := (fun n => [.int .i64 n])) ety23 Try.underlying23 (fun _ => rfl) (fun _ => rfl) (.plain rfl) rfl (.plain rfl) rfl ?_) rfl (.n (fun _ => op_assign (.plain rfl)) (.nil _)))))) ?_
      · first | omega | (simp; omega)
      refine awp_region rfl (.n (fun _ => op_move (.plain rfl)) (.n (fun _ => op_add (.plain rfl) (.plain rfl) ?_) (.n (fun _ => op_assign (.plain rfl)) (.nil _)))) ?_
      · unfold InR; omega
      exact ⟨x + 1, by omega, by dsimp only; omega, (Ent.round 38 1005 ⟨rfl, rfl, rfl, rfl, trivial⟩ ⟨(congrArg (fun l => some (Blk.arr 3 1 Int 0 (fun n => [.int .i64 n]) l)) (by rw [mapr_succ, show y = n by omega]; rfl)), trivial⟩ rfl rfl rfl ⟨rfl, rfl, rfl, rfl, trivial⟩ ⟨rfl, trivial⟩)⟩
  · (try simp only [decide_eq_true_eq, decide_eq_false_iff_not, Bool.and_eq_true, Bool.or_eq_true, Bool.and_eq_false_iff, Bool.or_eq_false_iff, Bool.not_eq_true', Bool.not_eq_false', Bool.not_eq_true, Bool.not_eq_false, Bool.true_eq_false, Bool.false_eq_true] at h); (try simp only [fold_c, fold_o, Int.toNat_natCast] at h)
    refine awp_exit ?_
    refine awp_seq ?_
    refine awp_region rfl (.n (fun _ => op_move (.plain rfl)) (.n (fun _ => op_assign (.plain rfl)) (.nil _))) ?_
    refine awp_ret ?_
    refine retQ.ret ?_
    refine ret1 rfl rfl rfl ?_
    rw [show x = n by omega]
    rfl

set_option maxRecDepth 1000000 in
set_option maxHeartbeats 1000000 in
theorem Condorcet_fc (n : Nat) (L : List (Int × List Int × Unit)) (hv : voteE n L = 0) : FC Try.prog 21 [.i (n : Nat), .seq (Int × List Int × Unit) (0, [], ()) (fun b => [.i b.1, .ints b.2.1]) L] (.tup [.i (condF n L), .i 0]) := by
  refine FC.intro Try.func21 rfl (Nat.le_of_ble_eq_true rfl) fun hfit => ?_
  have fit0 : -9223372036854775808 ≤ ((n : Nat) : Int) ∧ ((n : Nat) : Int) ≤ 9223372036854775807 := (hfit _ (.head _)).int64
  have fit1 := hfit _ (.tail _ (.head _))
  have hV := vok hv
  have hL30 := hV.len
  have hn := hV.n6
  have hn1 := hV.n1
  refine awp_seq ?_
  refine awp_region rfl (.n (fun _ => op_assign (.plain rfl)) (.n (fun _ => op_assign (.plain rfl)) (.nil _))) ?_
  refine awp_seq ?_
  refine awp_region rfl (.n (fun _ => op_move (.plain rfl)) (.n (fun _ => op_move (.plain rfl)) (.n (fun _ => op_call2 Try.call14 (.plain rfl) (.plain rfl) (Copeland_fc n L hv)) (.n (fun _ => op_move (.plain rfl)) (.n (fun _ => op_extract (.plain rfl) rfl) (.n (fun _ => op_extract (.plain rfl) rfl) (.n (fun _ => op_assign (.plain rfl)) (.n (fun _ => op_assign (.plain rfl)) (.nil _))))))))) ?_
  refine awp_seq ?_
  refine awp_seq ?_
  refine awp_region rfl (.n (fun _ => op_move (.plain rfl)) (.n (fun _ => op_neq (.plain rfl) (.plain rfl)) (.nil _))) ?_
  refine awp_cond rfl (fun h => ?_) (fun h => ?_)
  · (try simp only [decide_eq_true_eq, decide_eq_false_iff_not, Bool.and_eq_true, Bool.or_eq_true, Bool.and_eq_false_iff, Bool.or_eq_false_iff, Bool.not_eq_true', Bool.not_eq_false', Bool.not_eq_true, Bool.not_eq_false, Bool.true_eq_false, Bool.false_eq_true] at h); (try simp only [fold_c, fold_o, Int.toNat_natCast] at h)
    exfalso
    simp at h
  · (try simp only [decide_eq_true_eq, decide_eq_false_iff_not, Bool.and_eq_true, Bool.or_eq_true, Bool.and_eq_false_iff, Bool.or_eq_false_iff, Bool.not_eq_true', Bool.not_eq_false', Bool.not_eq_true, Bool.not_eq_false, Bool.true_eq_false, Bool.false_eq_true] at h); (try simp only [fold_c, fold_o, Int.toNat_natCast] at h)
    refine awp_skip ?_
    refine awp_seq ?_
    refine awp_region rfl (.n (fun _ => op_move (.plain rfl)) (.n (fun _ => op_move (.plain rfl)) (.n (fun _ => op_sub (.plain rfl) (.plain rfl) ?_) (.n (fun _ => op_call2 Try.call47 (.plain rfl) (.plain rfl) (Index_fc _ _)) (.n (fun _ => op_assign (.plain rfl)) (.n (fun _ => op_assign (.plain rfl)) (.nil _))))))) ?_
    · unfold InR; omega
    refine awp_ret ?_
    refine retQ.ret ?_
    refine ret2 rfl rfl rfl rfl rfl ?_
    rw [cond_eq]

set_option maxRecDepth 1000000 in
set_option maxHeartbeats 1000000 in
theorem RCondorcet_fc (n : Nat) (L : List (Int × List Int × Unit)) (hv : voteE n L = 0) : FC Try.prog 42 [.i (n : Nat), .seq (Int × List Int × Unit) (0, [], ()) (fun b => [.i b.1, .ints b.2.1]) L] (.i (condF n L)) := by
  refine FC.intro Try.func42 rfl (Nat.le_of_ble_eq_true rfl) fun hfit => ?_
  have fit0 : -9223372036854775808 ≤ ((n : Nat) : Int) ∧ ((n : Nat) : Int) ≤ 9223372036854775807 := (hfit _ (.head _)).int64
  have fit1 := hfit _ (.tail _ (.head _))
  have hV := vok hv
  have hL30 := hV.len
  have hn := hV.n6
  have hn1 := hV.n1
  refine awp_seq ?_
  refine awp_region rfl (.n (fun _ => op_assign (.plain rfl)) (.nil _)) ?_
  refine awp_seq ?_
  refine awp_seq ?_
  refine awp_region rfl (.n (fun _ => op_assign (.plain rfl)) (.nil _)) ?_
  refine awp_block ?_
  refine awp_loop (σ := Nat) (fun (x : Nat) => x ≤ n ∧ firstI (fun x => allTo L x n) x = none) (fun (x : Nat) => ⟨[(0, .pv (.i (n : Nat))), (1, .pv (.seq (Int × List Int × Unit) (0, [], ()) (fun b => [.i b.1, .ints b.2.1]) L)), (5, .int (x : Nat))], []⟩) (fun (x : Nat) => n - x) 0 ?_ (Ent.kept ⟨rfl, rfl, rfl, trivial⟩ trivial) ?_
  · exact ⟨Nat.zero_le _, rfl⟩
  rintro x hp
  try dsimp only at hp
  obtain ⟨hx, hE⟩ := hp
  refine awp_seq ?_
  refine awp_seq ?_
  refine awp_region rfl (.n (fun _ => op_move (.plain rfl)) (.n (fun _ => op_move (.plain rfl)) (.n (fun _ => op_lss (.plain rfl) (.plain rfl)) (.nil _)))) ?_
  refine awp_cond rfl (fun h => ?_) (fun h => ?_)
  · (try simp only [decide_eq_true_eq, decide_eq_false_iff_not, Bool.and_eq_true, Bool.or_eq_true, Bool.and_eq_false_iff, Bool.or_eq_false_iff, Bool.not_eq_true', Bool.not_eq_false', Bool.not_eq_true, Bool.not_eq_false, Bool.true_eq_false, Bool.false_eq_true] at h); (try simp only [fold_c, fold_o, Int.toNat_natCast] at h)
    refine awp_skip ?_
    refine awp_seq ?_
    refine awp_block ?_
    refine awp_seq ?_
    refine awp_region rfl (.n (fun _ => op_assign (.plain rfl)) (.nil _)) ?_
    refine awp_seq ?_
    refine awp_seq ?_
    refine awp_region rfl (.n (fun _ => op_assign (.plain rfl)) (.nil _)) ?_
    refine awp_block ?_
    refine awp_loop (σ := Nat) (fun (y : Nat) => y ≤ n) (fun (y : Nat) => ⟨[(0, .pv (.i (n : Nat))), (1, .pv (.seq (Int × List Int × Unit) (0, [], ()) (fun b => [.i b.1, .ints b.2.1]) L)), (5, .int (x : Nat)), (6, .bool (allTo L x y)), (7, .int (y : Nat))], []⟩) (fun (y : Nat) => n - y) 0 ?_ (Ent.kept ⟨rfl, rfl, rfl, rfl, rfl, trivial⟩ trivial) ?_
    · exact Nat.zero_le _
    rintro y hp
    try dsimp only at hp
    have hy := hp
    refine awp_seq ?_
    refine awp_seq ?_
    refine awp_region rfl (.n (fun _ => op_move (.plain rfl)) (.n (fun _ => op_move (.plain rfl)) (.n (fun _ => op_lss (.plain rfl) (.plain rfl)) (.nil _)))) ?_
    refine awp_cond rfl (fun h => ?_) (fun h => ?_)
    · (try simp only [decide_eq_true_eq, decide_eq_false_iff_not, Bool.and_eq_true, Bool.or_eq_true, Bool.and_eq_false_iff, Bool.or_eq_false_iff, Bool.not_eq_true', Bool.not_eq_false', Bool.not_eq_true, Bool.not_eq_false, Bool.true_eq_false, Bool.false_eq_true] at h); (try simp only [fold_c, fold_o, Int.toNat_natCast] at h)
      refine awp_skip ?_
      refine awp_seq ?_
      refine awp_block ?_
      refine awp_seq ?_
      refine awp_region rfl (.n (fun _ => op_move (.plain rfl)) (.n (fun _ => op_move (.plain rfl)) (.n (fun _ => op_move (.plain rfl)) (.n (fun _ => op_call3 Try.call62 (.plain rfl) (.plain rfl) (.plain rfl) (Beats_fc n L hv _ _)) (.n (fun _ => op_assign (.plain rfl)) (.nil _)))))) ?_
      refine awp_region rfl (.n (fun _ => op_move (.plain rfl)) (.n (fun _ => op_move (.plain rfl)) (.gn rfl rfl (fun hg _ => op_move (.plain rfl)) (.gn rfl rfl (fun hg _ => op_move (.plain rfl)) (.gn rfl rfl (fun hg _ => op_eql (.opt rfl fun h => h) (.opt rfl fun h => h)) (.gn rfl rfl (fun hg _ => op_move (.opt rfl fun h => h)) (.ggn rfl rfl (fun hg _ => op_move (.plain rfl)) (.gn rfl rfl (fun hg _ => op_or (.opt rfl fun h => h) (.plain rfl) (.plain rfl) (fun h => andI hg (eqF h))) (.n (fun _ => op_and (.plain rfl) (.plain rfl) (.plain rfl) (fun h => eqT h)) (.n (fun _ => op_assign (.plain rfl)) (.nil _))))))))))) ?_
      refine awp_region rfl (.n (fun _ => op_move (.plain rfl)) (.n (fun _ => op_add (.plain rfl) (.plain rfl) ?_) (.n (fun _ => op_assign (.plain rfl)) (.nil _)))) ?_
      · unfold InR; omega
      exact ⟨y + 1, by omega, by dsimp only; omega, (Ent.kept ⟨rfl, rfl, rfl, rfl, rfl, trivial⟩ trivial)⟩
    · (try simp only [decide_eq_true_eq, decide_eq_false_iff_not, Bool.and_eq_true, Bool.or_eq_true, Bool.and_eq_false_iff, Bool.or_eq_false_iff, Bool.not_eq_true', Bool.not_eq_false', Bool.not_eq_true, Bool.not_eq_false, Bool.true_eq_false, Bool.false_eq_true] at h); (try simp only [fold_c, fold_o, Int.toNat_natCast] at h)
      refine awp_exit ?_
      refine awp_seq ?_
      refine awp_region rfl (.n (fun _ => op_move (.plain rfl)) (.nil _)) ?_
      refine awp_cond rfl (fun h => ?_) (fun h => ?_)
      · (try simp only [decide_eq_true_eq, decide_eq_false_iff_not, Bool.and_eq_true, Bool.or_eq_true, Bool.and_eq_false_iff, Bool.or_eq_false_iff, Bool.not_eq_true', Bool.not_eq_false', Bool.not_eq_true, Bool.not_eq_false, Bool.true_eq_false, Bool.false_eq_true] at h); (try simp only [fold_c, fold_o, Int.toNat_natCast] at h)
        refine awp_seq ?_
        refine awp_region rfl (.n (fun _ => op_move (.plain rfl)) (.n (fun _ => op_assign (.plain rfl)) (.nil _))) ?_
        refine awp_ret ?_
        refine retQ.ret ?_
        refine ret1 rfl rfl rfl ?_
        unfold condF
        rw [firstI_stop hE ((show y = n by omega) ▸ h) (by omega)]
      · (try simp only [decide_eq_true_eq, decide_eq_false_iff_not, Bool.and_eq_true, Bool.or_eq_true, Bool.and_eq_false_iff, Bool.or_eq_false_iff, Bool.not_eq_true', Bool.not_eq_false', Bool.not_eq_true, Bool.not_eq_false, Bool.true_eq_false, Bool.false_eq_true] at h); (try simp only [fold_c, fold_o, Int.toNat_natCast] at h)
        refine awp_skip ?_
        refine awp_region rfl (.n (fun _ => op_move (.plain rfl)) (.n (fun _ => op_add (.plain rfl) (.plain rfl) ?_) (.n (fun _ => op_assign (.plain rfl)) (.nil _)))) ?_
        · unfold InR; omega
        exact ⟨x + 1, ⟨by omega, firstI_succ hE ((show y = n by omega) ▸ h)⟩, by dsimp only; omega, (Ent.kept ⟨rfl, rfl, rfl, trivial⟩ trivial)⟩
  · (try simp only [decide_eq_true_eq, decide_eq_false_iff_not, Bool.and_eq_true, Bool.or_eq_true, Bool.and_eq_false_iff, Bool.or_eq_false_iff, Bool.not_eq_true', Bool.not_eq_false', Bool.not_eq_true, Bool.not_eq_false, Bool.true_eq_false, Bool.false_eq_true] at h); (try simp only [fold_c, fold_o, Int.toNat_natCast] at h)
    refine awp_exit ?_
    refine awp_seq ?_
    refine awp_region rfl (.n (fun _ => op_assign (.plain rfl)) (.nil _)) ?_
    refine awp_ret ?_
    refine retQ.ret ?_
    refine ret1 rfl rfl rfl ?_
    unfold condF
    rw [show firstI (fun x => allTo L x n) n = none from (show x = n by omega) ▸ hE]

set_option maxRecDepth 1000000 in
set_option maxHeartbeats 1000000 in
theorem Max_fc (l : List Int) (hl : 1 ≤ l.length) : FC Try.prog 48 [.ints l] (.i (maxTo l (l.length - 1))) := by
  refine FC.intro Try.func48 rfl (Nat.le_of_ble_eq_true rfl) fun hfit => ?_
  obtain ⟨fitl0, fitr0⟩ := (hfit _ (.head _)).ints
  refine awp_seq ?_
  refine awp_region rfl (.n (fun _ => op_assign (.plain rfl)) (.nil _)) ?_
  refine awp_seq ?_
  refine awp_seq ?_
  refine awp_region rfl (.n (fun _ => op_move (.plain rfl)) (.n (fun _ => op_len (s := 0) Try.underlying23 (.plain rfl)) (.n (fun _ => op_lss (.plain rfl) (.plain rfl)) (.nil _)))) ?_
  refine awp_cond rfl (fun h => ?_) (fun h => ?_)
  · (try simp only [decide_eq_true_eq, decide_eq_false_iff_not, Bool.and_eq_true, Bool.or_eq_true, Bool.and_eq_false_iff, Bool.or_eq_false_iff, Bool.not_eq_true', Bool.not_eq_false', Bool.not_eq_true, Bool.not_eq_false, Bool.true_eq_false, Bool.false_eq_true] at h); (try simp only [fold_c, fold_o, Int.toNat_natCast] at h)
    exfalso
    omega
  · (try simp only [decide_eq_true_eq, decide_eq_false_iff_not, Bool.and_eq_true, Bool.or_eq_true, Bool.and_eq_false_iff, Bool.or_eq_false_iff, Bool.not_eq_true', Bool.not_eq_false', Bool.not_eq_true, Bool.not_eq_false, Bool.true_eq_false, Bool.false_eq_true] at h); (try simp only [fold_c, fold_o, Int.toNat_natCast] at h)
    refine awp_skip ?_
    refine awp_seq ?_
    refine awp_region rfl (.n (fun _ => op_move (.plain rfl)) (.n (fun _ => op_indexAddr Try.underlying23 Try.sizeOf3 (.plain rfl) (.plain rfl) (fun _ => rfl) ?_) (.n (fun _ => op_load Try.isAgg3 (.plain rfl)) (.n (fun _ => op_assign (.plain rfl)) (.nil _))))) ?_
    · omega
    refine awp_seq ?_
    refine awp_seq ?_
    refine awp_region rfl (.n (fun _ => op_assign (.plain rfl)) (.nil _)) ?_
    refine awp_block ?_
    refine awp_loop (σ := Nat) (fun (i : Nat) => i < l.length) (fun (i : Nat) => ⟨[(0, .pv (.ints l)), (3, .int (maxTo l i)), (4, .int (i + 1 : Nat))], []⟩) (fun (i : Nat) => l.length - i) 0 ?_ (Ent.kept ⟨rfl, rfl, rfl, trivial⟩ trivial) ?_
    · exact hl
    rintro i hp
    try dsimp only at hp
    have hi := hp
    refine awp_seq ?_
    refine awp_seq ?_
    refine awp_region rfl (.n (fun _ => op_move (.plain rfl)) (.n (fun _ => op_move (.plain rfl)) (.n (fun _ => op_len (s := 0) Try.underlying23 (.plain rfl)) (.n (fun _ => op_lss (.plain rfl) (.plain rfl)) (.nil _))))) ?_
    refine awp_cond rfl (fun h => ?_) (fun h => ?_)
    · (try simp only [decide_eq_true_eq, decide_eq_false_iff_not, Bool.and_eq_true, Bool.or_eq_true, Bool.and_eq_false_iff, Bool.or_eq_false_iff, Bool.not_eq_true', Bool.not_eq_false', Bool.not_eq_true, Bool.not_eq_false, Bool.true_eq_false, Bool.false_eq_true] at h); (try simp only [fold_c, fold_o, Int.toNat_natCast] at h)
      refine awp_skip ?_
      refine awp_seq ?_
      refine awp_block ?_
      refine awp_region rfl (.n (fun _ => op_move (.plain rfl)) (.n (fun _ => op_move (.plain rfl)) (.n (fun _ => op_move (.plain rfl)) (.n (fun _ => op_indexAddrN Try.underlying23 Try.sizeOf3 (.plain rfl) (.plain rfl) (fun _ => rfl) ?_) (.n (fun _ => op_load Try.isAgg3 (.plain rfl)) (.n (fun _ => op_max (.plain rfl) (.plain rfl)) (.n (fun _ => op_assign (.plain rfl)) (.nil _)))))))) ?_
      · omega
      refine awp_region rfl (.n (fun _ => op_move (.plain rfl)) (.n (fun _ => op_add (.plain rfl) (.plain rfl) ?_) (.n (fun _ => op_assign (.plain rfl)) (.nil _)))) ?_
      · unfold InR; omega
      exact ⟨i + 1, by omega, by dsimp only; omega, (Ent.kept ⟨rfl, rfl, rfl, trivial⟩ trivial)⟩
    · (try simp only [decide_eq_true_eq, decide_eq_false_iff_not, Bool.and_eq_true, Bool.or_eq_true, Bool.and_eq_false_iff, Bool.or_eq_false_iff, Bool.not_eq_true', Bool.not_eq_false', Bool.not_eq_true, Bool.not_eq_false, Bool.true_eq_false, Bool.false_eq_true] at h); (try simp only [fold_c, fold_o, Int.toNat_natCast] at h)
      refine awp_exit ?_
      refine awp_seq ?_
      refine awp_region rfl (.n (fun _ => op_move (.plain rfl)) (.n (fun _ => op_assign (.plain rfl)) (.nil _))) ?_
      refine awp_ret ?_
      refine retQ.ret ?_
      refine ret1 rfl rfl rfl ?_
      rw [show l.length - 1 = i by omega]

set_option maxRecDepth 1000000 in
set_option maxHeartbeats 1000000 in
theorem against_fc (n : Nat) (L : List (Int × List Int × Unit)) (hv : voteE n L = 0) (o : List Int) (ho : ordE n o = 0) : FC Try.prog 54 [.rows (prM n L), .ints o] (.i (agF L o)) := by
  refine FC.intro Try.func54 rfl (Nat.le_of_ble_eq_true rfl) fun hfit => ?_
  obtain ⟨fitl0, fitr0⟩ := (hfit _ (.head _)).rows
  obtain ⟨fitl1, fitr1⟩ := (hfit _ (.tail _ (.head _))).ints
  have hV := vok hv
  have hL30 := hV.len
  have hn := hV.n6
  have hn1 := hV.n1
  have hol := (ordE_zero ho).1
  refine awp_seq ?_
  refine awp_region rfl (.n (fun _ => op_assign (.plain rfl)) (.nil _)) ?_
  refine awp_seq ?_
  refine awp_region rfl (.n (fun _ => op_assign (.plain rfl)) (.nil _)) ?_
  refine awp_seq ?_
  refine awp_seq ?_
  refine awp_region rfl (.n (fun _ => op_move (.plain rfl)) (.n (fun _ => op_len (s := 0) Try.underlying23 (.plain rfl)) (.n (fun _ => op_move (.plain rfl)) (.nil _)))) ?_
  refine awp_block ?_
  refine awp_loop (σ := Nat) (fun (i : Nat) => i ≤ o.length) (fun (i : Nat) => ⟨[(0, .pv (.rows (prM n L))), (1, .pv (.ints o)), (5, .int (agS L o i)), (10, .pv (.ints o)), (11, .int (o.length : Nat)), (12, .int (i : Nat))], []⟩) (fun (i : Nat) => o.length - i) 0 ?_ (Ent.kept ⟨rfl, rfl, rfl, rfl, rfl, rfl, trivial⟩ trivial) ?_
  · exact Nat.zero_le _
  rintro i hp
  try dsimp only at hp
  have hi := hp
  refine awp_seq ?_
  refine awp_region rfl (.n (fun _ => op_lss (.plain rfl) (.plain rfl)) (.nil _)) ?_
  refine awp_seq ?_
  refine awp_cond rfl (fun h => ?_) (fun h => ?_)
  · (try simp only [decide_eq_true_eq, decide_eq_false_iff_not, Bool.and_eq_true, Bool.or_eq_true, Bool.and_eq_false_iff, Bool.or_eq_false_iff, Bool.not_eq_true', Bool.not_eq_false', Bool.not_eq_true, Bool.not_eq_false, Bool.true_eq_false, Bool.false_eq_true] at h); (try simp only [fold_c, fold_o, Int.toNat_natCast] at h)
    have hxo := ord_at ho (show i < n by omega)
    have hb2 := agS_bd hV (show o.length ≤ 1000 by omega) (show i ≤ 1000 by omega)
    have hdl : (o.drop (i + 1)).length = o.length - (i + 1) := by simp
    refine awp_skip ?_
    refine awp_seq ?_
    refine awp_block ?_
    refine awp_seq ?_
    refine awp_region rfl (.n (fun _ => op_move (.plain rfl)) (.n (fun _ => op_indexAddrN Try.underlying23 Try.sizeOf3 (.plain rfl) (.plain rfl) (fun _ => rfl) ?_) (.n (fun _ => op_load Try.isAgg3 (.plain rfl)) (.n (fun _ => op_assign (.plain rfl)) (.n (fun _ => op_assign (.plain rfl)) (.nil _)))))) ?_
    · (try simp only [Int.toNat_natCast, prM_length])
      (try rw [hdz])
      (try rw [prM_row (x := (o.getD (i + 1 + z) 0).toNat) (by omega)])
      (try rw [hpt])
      omega
    refine awp_seq ?_
    refine awp_region rfl (.n (fun _ => op_move (.plain rfl)) (.n (fun _ => op_move (.plain rfl)) (.n (fun _ => op_add (.plain rfl) (.plain rfl) ?_) (.n (fun _ => op_sliceI (kh := .i64) Try.underlying23 Try.sizeOf3 (fun _ => rfl) (.plain rfl) (.plain rfl) rfl ?_) (.n (fun _ => op_len (s := 0) Try.underlying23 (.plain rfl)) (.n (fun _ => op_move (.plain rfl)) (.nil _))))))) ?_
    · (try simp only [Int.toNat_natCast, prM_length])
      (try rw [hdz])
      (try rw [prM_row (x := (o.getD (i + 1 + z) 0).toNat) (by omega)])
      (try rw [hpt])
      unfold InR; omega
    · (try simp only [Int.toNat_natCast, prM_length])
      (try rw [hdz])
      (try rw [prM_row (x := (o.getD (i + 1 + z) 0).toNat) (by omega)])
      (try rw [hpt])
      omega
    refine awp_block ?_
    refine awp_loop (σ := Nat) (fun (z : Nat) => i + 1 + z ≤ o.length) (fun (z : Nat) => ⟨[(0, .pv (.rows (prM n L))), (1, .pv (.ints o)), (5, .int (agS L o i + agTo L o i z)), (7, .int (o.getD i 0)), (10, .pv (.ints o)), (11, .int (o.length : Nat)), (12, .int (i : Nat)), (20, .pv (.ints (o.drop (i + 1)))), (21, .int ((o.length - (i + 1) : Nat) : Nat)), (22, .int (z : Nat))], []⟩) (fun (z : Nat) => o.length - z) 0 ?_ (Ent.kept ⟨rfl, rfl, (congrArg (fun n : Int => some (SV.int n)) (by simp [agTo, sumTo])), rfl, rfl, rfl, rfl, (congrArg (fun l => some (SV.pv (.ints l))) (by rw [List.take_of_length_le (by omega)]; rfl)), (congrArg (fun n : Int => some (SV.int n)) (by simp only [List.length_drop, List.length_take]; omega)), rfl, trivial⟩ trivial) ?_
    · omega
    rintro z hp
    try dsimp only at hp
    have hz := hp
    refine awp_seq ?_
    refine awp_region rfl (.n (fun _ => op_lss (.plain rfl) (.plain rfl)) (.nil _)) ?_
    refine awp_seq ?_
    refine awp_cond rfl (fun h => ?_) (fun h => ?_)
    · (try simp only [decide_eq_true_eq, decide_eq_false_iff_not, Bool.and_eq_true, Bool.or_eq_true, Bool.and_eq_false_iff, Bool.or_eq_false_iff, Bool.not_eq_true', Bool.not_eq_false', Bool.not_eq_true, Bool.not_eq_false, Bool.true_eq_false, Bool.false_eq_true] at h); (try simp only [fold_c, fold_o, Int.toNat_natCast] at h)
      have hzn : i + 1 + z < n := by omega
      have hyo := ord_at ho hzn
      have hdz : (o.drop (i + 1)).getD z 0 = o.getD (i + 1 + z) 0 := by simp [List.getD_eq_getElem?_getD]
      have hb3 := agTo_bd (o := o) hV (i := i) (show z ≤ 1000 by omega)
      have hpb := prefF_bd hV (o.getD (i + 1 + z) 0) (o.getD i 0)
      have hpt : ((prM n L).getD (o.getD (i + 1 + z) 0).toNat []).getD (o.getD i 0).toNat 0 = prefF L (o.getD (i + 1 + z) 0) (o.getD i 0) := by rw [prM_two (by omega) (by omega), Int.toNat_of_nonneg hyo.1, Int.toNat_of_nonneg hxo.1]
      refine awp_skip ?_
      refine awp_seq ?_
      refine awp_block ?_
      refine awp_seq ?_
      refine awp_region rfl (.n (fun _ => op_indexAddrN Try.underlying23 Try.sizeOf3 (.plain rfl) (.plain rfl) (fun _ => rfl) ?_) (.n (fun _ => op_load Try.isAgg3 (.plain rfl)) (.n (fun _ => op_assign (.plain rfl)) (.nil _)))) ?_
      · (try simp only [Int.toNat_natCast, prM_length])
        (try rw [hdz])
        (try rw [prM_row (x := (o.getD (i + 1 + z) 0).toNat) (by omega)])
        (try rw [hpt])
        omega
      refine awp_region rfl (.n (fun _ => op_move (.plain rfl)) (.n (fun _ => op_move (.plain rfl)) (.n (fun _ => op_move (.plain rfl)) (.n (fun _ => op_indexAddr Try.underlying31 Try.sizeOf23 (.plain rfl) (.plain rfl) (fun _ => rfl) ?_) (.n (fun _ => op_load Try.isAgg23 (.plain rfl)) (.n (fun _ => op_move (.plain rfl)) (.n (fun _ => op_indexAddr Try.underlying23 Try.sizeOf3 (.plain rfl) (.plain rfl) (fun _ => rfl) ?_) (.n (fun _ => op_load Try.isAgg3 (.plain rfl)) (.n (fun _ => op_add (.plain rfl) (.plain rfl) ?_) (.n (fun _ => op_assign (.plain rfl)) (.nil _))))))))))) ?_
      · (try simp only [Int.toNat_natCast, prM_length])
        (try rw [hdz])
        (try rw [prM_row (x := (o.getD (i + 1 + z) 0).toNat) (by omega)])
        (try rw [hpt])
        omega
      · (try simp only [Int.toNat_natCast, prM_length])
        (try rw [hdz])
        (try rw [prM_row (x := (o.getD (i + 1 + z) 0).toNat) (by omega)])
        (try rw [hpt])
        omega
      · (try simp only [Int.toNat_natCast, prM_length])
        (try rw [hdz])
        (try rw [prM_row (x := (o.getD (i + 1 + z) 0).toNat) (by omega)])
        (try rw [hpt])
        unfold InR; omega
      refine awp_region rfl (.n (fun _ => op_add (.plain rfl) (.plain rfl) ?_) (.n (fun _ => op_move (.plain rfl)) (.nil _))) ?_
      · (try simp only [Int.toNat_natCast, prM_length])
        (try rw [hdz])
        (try rw [prM_row (x := (o.getD (i + 1 + z) 0).toNat) (by omega)])
        (try rw [hpt])
        unfold InR; omega
      exact ⟨z + 1, by omega, by dsimp only; omega, (Ent.kept ⟨rfl, rfl, (congrArg (fun n : Int => some (SV.int n)) (by rw [hdz, hpt, Int.add_assoc]; rfl)), rfl, rfl, rfl, rfl, rfl, rfl, rfl, trivial⟩ trivial)⟩
    · (try simp only [decide_eq_true_eq, decide_eq_false_iff_not, Bool.and_eq_true, Bool.or_eq_true, Bool.and_eq_false_iff, Bool.or_eq_false_iff, Bool.not_eq_true', Bool.not_eq_false', Bool.not_eq_true, Bool.not_eq_false, Bool.true_eq_false, Bool.false_eq_true] at h); (try simp only [fold_c, fold_o, Int.toNat_natCast] at h)
      refine awp_exit ?_
      refine awp_region rfl (.n (fun _ => op_add (.plain rfl) (.plain rfl) ?_) (.n (fun _ => op_move (.plain rfl)) (.nil _))) ?_
      · (try simp only [Int.toNat_natCast, prM_length])
        (try rw [hdz])
        (try rw [prM_row (x := (o.getD (i + 1 + z) 0).toNat) (by omega)])
        (try rw [hpt])
        unfold InR; omega
      exact ⟨i + 1, by omega, by dsimp only; omega, (Ent.kept ⟨rfl, rfl, (congrArg (fun n : Int => some (SV.int n)) (by rw [show z = o.length - (i + 1) by omega]; rfl)), rfl, rfl, rfl, trivial⟩ trivial)⟩
  · (try simp only [decide_eq_true_eq, decide_eq_false_iff_not, Bool.and_eq_true, Bool.or_eq_true, Bool.and_eq_false_iff, Bool.or_eq_false_iff, Bool.not_eq_true', Bool.not_eq_false', Bool.not_eq_true, Bool.not_eq_false, Bool.true_eq_false, Bool.false_eq_true] at h); (try simp only [fold_c, fold_o, Int.toNat_natCast] at h)
    refine awp_exit ?_
    refine awp_seq ?_
    refine awp_region rfl (.n (fun _ => op_move (.plain rfl)) (.n (fun _ => op_assign (.plain rfl)) (.nil _))) ?_
    refine awp_ret ?_
    refine retQ.ret ?_
    refine ret1 rfl rfl rfl ?_
    rw [show i = o.length by omega]
    rfl

set_option maxRecDepth 1000000 in
set_option maxHeartbeats 1000000 in
theorem Against_fc (n : Nat) (L : List (Int × List Int × Unit)) (hv : voteE n L = 0) (o : List Int) : FC Try.prog 22 [.i (n : Nat), .seq (Int × List Int × Unit) (0, [], ()) (fun b => [.i b.1, .ints b.2.1]) L, .ints o] (.tup [.i (if ordE n o = 0 then agF L o else 0), .i (ordE n o)]) := by
  refine FC.intro Try.func22 rfl (Nat.le_of_ble_eq_true rfl) fun hfit => ?_
  have fit0 : -9223372036854775808 ≤ ((n : Nat) : Int) ∧ ((n : Nat) : Int) ≤ 9223372036854775807 := (hfit _ (.head _)).int64
  have fit1 := hfit _ (.tail _ (.head _))
  obtain ⟨fitl2, fitr2⟩ := (hfit _ (.tail _ (.tail _ (.head _)))).ints
  have hV := vok hv
  have hL30 := hV.len
  have hn := hV.n6
  have hn1 := hV.n1
  refine awp_seq ?_
  refine awp_region rfl (.n (fun _ => op_assign (.plain rfl)) (.n (fun _ => op_assign (.plain rfl)) (.nil _))) ?_
  refine awp_seq ?_
  refine awp_region rfl (.n (fun _ => op_move (.plain rfl)) (.n (fun _ => op_move (.plain rfl)) (.n (fun _ => op_call2 Try.call19 (.plain rfl) (.plain rfl) (Pairs_fc n L hv)) (.n (fun _ => op_move (.plain rfl)) (.n (fun _ => op_extract (.plain rfl) rfl) (.n (fun _ => op_extract (.plain rfl) rfl) (.n (fun _ => op_assign (.plain rfl)) (.n (fun _ => op_assign (.plain rfl)) (.nil _))))))))) ?_
  refine awp_seq ?_
  refine awp_seq ?_
  refine awp_region rfl (.n (fun _ => op_move (.plain rfl)) (.n (fun _ => op_neq (.plain rfl) (.plain rfl)) (.nil _))) ?_
  refine awp_cond rfl (fun h => ?_) (fun h => ?_)
  · (try simp only [decide_eq_true_eq, decide_eq_false_iff_not, Bool.and_eq_true, Bool.or_eq_true, Bool.and_eq_false_iff, Bool.or_eq_false_iff, Bool.not_eq_true', Bool.not_eq_false', Bool.not_eq_true, Bool.not_eq_false, Bool.true_eq_false, Bool.false_eq_true] at h); (try simp only [fold_c, fold_o, Int.toNat_natCast] at h)
    exfalso
    simp at h
  · (try simp only [decide_eq_true_eq, decide_eq_false_iff_not, Bool.and_eq_true, Bool.or_eq_true, Bool.and_eq_false_iff, Bool.or_eq_false_iff, Bool.not_eq_true', Bool.not_eq_false', Bool.not_eq_true, Bool.not_eq_false, Bool.true_eq_false, Bool.false_eq_true] at h); (try simp only [fold_c, fold_o, Int.toNat_natCast] at h)
    refine awp_skip ?_
    refine awp_seq ?_
    refine awp_seq ?_
    refine awp_region rfl (.n (fun _ => op_move (.plain rfl)) (.n (fun _ => op_move (.plain rfl)) (.n (fun _ => op_call2 Try.call30 (.plain rfl) (.plain rfl) (order_fc _ _)) (.n (fun _ => op_assign (.plain rfl)) (.nil _))))) ?_
    refine awp_seq ?_
    refine awp_region rfl (.n (fun _ => op_move (.plain rfl)) (.n (fun _ => op_neq (.plain rfl) (.plain rfl)) (.nil _))) ?_
    refine awp_cond rfl (fun h => ?_) (fun h => ?_)
    · (try simp only [decide_eq_true_eq, decide_eq_false_iff_not, Bool.and_eq_true, Bool.or_eq_true, Bool.and_eq_false_iff, Bool.or_eq_false_iff, Bool.not_eq_true', Bool.not_eq_false', Bool.not_eq_true, Bool.not_eq_false, Bool.true_eq_false, Bool.false_eq_true] at h); (try simp only [fold_c, fold_o, Int.toNat_natCast] at h)
      refine awp_seq ?_
      refine awp_region rfl (.n (fun _ => op_move (.plain rfl)) (.n (fun _ => op_assign (.plain rfl)) (.n (fun _ => op_assign (.plain rfl)) (.nil _)))) ?_
      refine awp_ret ?_
      refine retQ.ret ?_
      refine ret2 rfl rfl rfl rfl rfl ?_
      rw [if_neg h]
    · (try simp only [decide_eq_true_eq, decide_eq_false_iff_not, Bool.and_eq_true, Bool.or_eq_true, Bool.and_eq_false_iff, Bool.or_eq_false_iff, Bool.not_eq_true', Bool.not_eq_false', Bool.not_eq_true, Bool.not_eq_false, Bool.true_eq_false, Bool.false_eq_true] at h); (try simp only [fold_c, fold_o, Int.toNat_natCast] at h)
      have ho : ordE n o = 0 := by omega
      refine awp_skip ?_
      refine awp_seq ?_
      refine awp_region rfl (.n (fun _ => op_move (.plain rfl)) (.n (fun _ => op_move (.plain rfl)) (.n (fun _ => op_call2 Try.call54 (.plain rfl) (.plain rfl) (against_fc n L hv _ ?_)) (.n (fun _ => op_assign (.plain rfl)) (.n (fun _ => op_assign (.plain rfl)) (.nil _)))))) ?_
      · assumption
      refine awp_ret ?_
      refine retQ.ret ?_
      refine ret2 rfl rfl rfl rfl rfl ?_
      rw [if_pos ho, ho]

set_option maxRecDepth 1000000 in
set_option maxHeartbeats 1000000 in
theorem RAgainst_fc (n : Nat) (L : List (Int × List Int × Unit)) (hv : voteE n L = 0) (o : List Int) (ho : o.length ≤ 1000) : FC Try.prog 43 [.seq (Int × List Int × Unit) (0, [], ()) (fun b => [.i b.1, .ints b.2.1]) L, .ints o] (.i (agF L o)) := by
  refine FC.intro Try.func43 rfl (Nat.le_of_ble_eq_true rfl) fun hfit => ?_
  have fit0 := hfit _ (.head _)
  obtain ⟨fitl1, fitr1⟩ := (hfit _ (.tail _ (.head _))).ints
  have hV := vok hv
  have hL30 := hV.len
  have hn := hV.n6
  have hn1 := hV.n1
  refine awp_seq ?_
  refine awp_region rfl (.n (fun _ => op_assign (.plain rfl)) (.nil _)) ?_
  refine awp_seq ?_
  refine awp_region rfl (.n (fun _ => op_assign (.plain rfl)) (.nil _)) ?_
  refine awp_seq ?_
  refine awp_seq ?_
  refine awp_region rfl (.n (fun _ => op_assign (.plain rfl)) (.nil _)) ?_
  refine awp_block ?_
  refine awp_loop (σ := Nat) (fun (i : Nat) => i ≤ o.length) (fun (i : Nat) => ⟨[(0, .pv (.seq (Int × List Int × Unit) (0, [], ()) (fun b => [.i b.1, .ints b.2.1]) L)), (1, .pv (.ints o)), (5, .int (agS L o i)), (6, .int (i : Nat))], []⟩) (fun (i : Nat) => o.length - i) 0 ?_ (Ent.kept ⟨rfl, rfl, rfl, rfl, trivial⟩ trivial) ?_
  · exact Nat.zero_le _
  rintro i hp
  try dsimp only at hp
  have hi := hp
  refine awp_seq ?_
  refine awp_seq ?_
  refine awp_region rfl (.n (fun _ => op_move (.plain rfl)) (.n (fun _ => op_move (.plain rfl)) (.n (fun _ => op_len (s := 0) Try.underlying23 (.plain rfl)) (.n (fun _ => op_lss (.plain rfl) (.plain rfl)) (.nil _))))) ?_
  refine awp_cond rfl (fun h => ?_) (fun h => ?_)
  · (try simp only [decide_eq_true_eq, decide_eq_false_iff_not, Bool.and_eq_true, Bool.or_eq_true, Bool.and_eq_false_iff, Bool.or_eq_false_iff, Bool.not_eq_true', Bool.not_eq_false', Bool.not_eq_true, Bool.not_eq_false, Bool.true_eq_false, Bool.false_eq_true] at h); (try simp only [fold_c, fold_o, Int.toNat_natCast] at h)
    have hb2 := agS_bd (o := o) hV ho (show i ≤ 1000 by omega)
    refine awp_skip ?_
    refine awp_seq ?_
    refine awp_block ?_
    refine awp_seq ?_
    refine awp_region rfl (.n (fun _ => op_move (.plain rfl)) (.n (fun _ => op_add (.plain rfl) (.plain rfl) ?_) (.n (fun _ => op_assign (.plain rfl)) (.nil _)))) ?_
    · unfold InR; omega
    refine awp_block ?_
    refine awp_loop (σ := Nat) (fun (z : Nat) => i + 1 + z ≤ o.length) (fun (z : Nat) => ⟨[(0, .pv (.seq (Int × List Int × Unit) (0, [], ()) (fun b => [.i b.1, .ints b.2.1]) L)), (1, .pv (.ints o)), (5, .int (agS L o i + agTo L o i z)), (6, .int (i : Nat)), (7, .int (i + 1 + z : Nat))], []⟩) (fun (z : Nat) => o.length - z) 0 ?_ (Ent.kept ⟨rfl, rfl, (congrArg (fun n : Int => some (SV.int n)) (by simp [agTo, sumTo])), rfl, rfl, trivial⟩ trivial) ?_
    · omega
    rintro z hp
    try dsimp only at hp
    have hz := hp
    refine awp_seq ?_
    refine awp_seq ?_
    refine awp_region rfl (.n (fun _ => op_move (.plain rfl)) (.n (fun _ => op_move (.plain rfl)) (.n (fun _ => op_len (s := 0) Try.underlying23 (.plain rfl)) (.n (fun _ => op_lss (.plain rfl) (.plain rfl)) (.nil _))))) ?_
    refine awp_cond rfl (fun h => ?_) (fun h => ?_)
    · (try simp only [decide_eq_true_eq, decide_eq_false_iff_not, Bool.and_eq_true, Bool.or_eq_true, Bool.and_eq_false_iff, Bool.or_eq_false_iff, Bool.not_eq_true', Bool.not_eq_false', Bool.not_eq_true, Bool.not_eq_false, Bool.true_eq_false, Bool.false_eq_true] at h); (try simp only [fold_c, fold_o, Int.toNat_natCast] at h)
      have hb3 := agTo_bd (o := o) hV (i := i) (show z ≤ 1000 by omega)
      have hpb := prefF_bd hV (o.getD (i + 1 + z) 0) (o.getD i 0)
      refine awp_skip ?_
      refine awp_seq ?_
      refine awp_block ?_
      refine awp_seq ?_
      refine awp_region_draw mixed rfl (.n (fun _ => op_move (.plain rfl)) (.n (fun _ => op_move (.plain rfl)) (.n (fun _ => op_move (.plain rfl)) (.n (fun _ => op_indexAddrN Try.underlying23 Try.sizeOf3 (.plain rfl) (.plain rfl) (fun _ => rfl) ?_) (.n (fun _ => op_load Try.isAgg3 (.plain rfl)) (.n (fun _ => op_move (.plain rfl)) (.n (fun _ => op_move (.plain rfl)) (.n (fun _ => op_indexAddrN Try.underlying23 Try.sizeOf3 (.plain rfl) (.plain rfl) (fun _ => rfl) ?_) (.n (fun _ => op_load Try.isAgg3 (.plain rfl)) (.n (fun _ => op_call3 Try.call61 (.plain rfl) (.plain rfl) (.plain rfl) (Prefer_fc n L hv _ _)) (.n (fun _ => op_assign (.plain rfl)) (.nil _)))))))))))) ?d5 ?_
      · omega
      · omega
      · kernel_rfl
      refine awp_region rfl (.n (fun _ => op_move (.plain rfl)) (.n (fun _ => op_move (.plain rfl)) (.n (fun _ => op_add (.plain rfl) (.plain rfl) ?_) (.n (fun _ => op_assign (.plain rfl)) (.nil _))))) ?_
      · unfold InR; omega
      refine awp_region rfl (.n (fun _ => op_move (.plain rfl)) (.n (fun _ => op_add (.plain rfl) (.plain rfl) ?_) (.n (fun _ => op_assign (.plain rfl)) (.nil _)))) ?_
      · unfold InR; omega
      exact ⟨z + 1, by omega, by dsimp only; omega, (Ent.kept ⟨rfl, rfl, (congrArg (fun n : Int => some (SV.int n)) (by rw [Int.add_assoc]; rfl)), rfl, rfl, trivial⟩ trivial)⟩
    · (try simp only [decide_eq_true_eq, decide_eq_false_iff_not, Bool.and_eq_true, Bool.or_eq_true, Bool.and_eq_false_iff, Bool.or_eq_false_iff, Bool.not_eq_true', Bool.not_eq_false', Bool.not_eq_true, Bool.not_eq_false, Bool.true_eq_false, Bool.false_eq_true] at h); (try simp only [fold_c, fold_o, Int.toNat_natCast] at h)
      refine awp_exit ?_
      refine awp_region rfl (.n (fun _ => op_move (.plain rfl)) (.n (fun _ => op_add (.plain rfl) (.plain rfl) ?_) (.n (fun _ => op_assign (.plain rfl)) (.nil _)))) ?_
      · unfold InR; omega
      exact ⟨i + 1, by omega, by dsimp only; omega, (Ent.kept ⟨rfl, rfl, (congrArg (fun n : Int => some (SV.int n)) (by rw [show z = o.length - (i + 1) by omega]; rfl)), rfl, trivial⟩ trivial)⟩
  · (try simp only [decide_eq_true_eq, decide_eq_false_iff_not, Bool.and_eq_true, Bool.or_eq_true, Bool.and_eq_false_iff, Bool.or_eq_false_iff, Bool.not_eq_true', Bool.not_eq_false', Bool.not_eq_true, Bool.not_eq_false, Bool.true_eq_false, Bool.false_eq_true] at h); (try simp only [fold_c, fold_o, Int.toNat_natCast] at h)
    refine awp_exit ?_
    refine awp_seq ?_
    refine awp_region rfl (.n (fun _ => op_move (.plain rfl)) (.n (fun _ => op_assign (.plain rfl)) (.nil _))) ?_
    refine awp_ret ?_
    refine retQ.ret ?_
    refine ret1 rfl rfl rfl ?_
    rw [show i = o.length by omega]
    rfl

end Go.Proofs.Ytkbbdiodmeobaaa

