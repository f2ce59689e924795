/- Whether trees and choices may be; where choices lead to, by both ways. Conditions: each theorem names its own. -/
import Derived.Test.YtamdkclkmijfgaaProg
import Derived.Test.YtamdkclkmijfgaaAbsP
namespace Go.Proofs.Ytamdkclkmijfgaa
open Go.Abs
set_option linter.unusedVariables false
set_option linter.unusedSimpArgs false

theorem mixed : Try.prog.follows .mixedOrders = true := by kernel_rfl
theorem ety22 : ElemTy Try.prog 22 51 3 56 (.agg #[.int .i64 0, .slice none 0 0, .slice none 0 0]) := ⟨Try.underlying22, ⟨Try.t51, by kernel_rfl, by kernel_rfl, by kernel_rfl, by kernel_rfl⟩, by kernel_rfl, by decide, by decide⟩
theorem ety25 : ElemTy Try.prog 25 3 1 8 (.int .i64 0) := ⟨Try.underlying25, ⟨Try.t3, by kernel_rfl, by kernel_rfl, by kernel_rfl, by kernel_rfl⟩, by kernel_rfl, by decide, by decide⟩
theorem ety60 : ElemTy Try.prog 60 25 1 24 (.slice none 0 0) := ⟨Try.underlying60, ⟨Try.t25, by kernel_rfl, by kernel_rfl, by kernel_rfl, by kernel_rfl⟩, by kernel_rfl, by decide, by decide⟩


/-- How long all rows are together, with the rows themselves. -/
def heavyTo (l : List (List Int)) (k : Nat) : Nat := l.length + ((l.take k).map List.length).sum
def heavyF (l : List (List Int)) : Bool := decide (1024 < heavyTo l l.length)
theorem heavyTo_succ {l : List (List Int)} {k : Nat} (h : k < l.length) : heavyTo l (k + 1) = heavyTo l k + (l.getD k []).length := by
  unfold heavyTo
  rw [List.take_succ_eq_append_getElem h, List.map_append, List.sum_append]
  simp [h, Nat.add_assoc]
theorem heavyTo_le {l : List (List Int)} (k : Nat) : heavyTo l k ≤ heavyTo l l.length := by
  unfold heavyTo
  have := List.take_append_drop k l
  have h2 : ((l.take l.length).map List.length).sum = ((l.take k).map List.length).sum + ((l.drop k).map List.length).sum := by
    rw [List.take_length, ← List.sum_append, ← List.map_append, this]
  omega
theorem getD_mem {α : Type} {l : List α} {k : Nat} (d : α) (h : k < l.length) : l.getD k d ∈ l := by
  rw [List.getD_eq_getElem?_getD, List.getElem?_eq_getElem h]; exact List.getElem_mem h

/-- The first of n that is not 0. -/
def firstE (f : Nat → Int) : Nat → Int
  | 0 => 0
  | n + 1 => if firstE f n = 0 then f n else firstE f n
theorem firstE_succ {f : Nat → Int} {n : Nat} (h : firstE f n = 0) (h' : f n = 0) : firstE f (n + 1) = 0 := by simp [firstE, h, h']
theorem firstE_stop {f : Nat → Int} {k n : Nat} {c : Int} (h : firstE f k = 0) (hc : f k = c) (h0 : c ≠ 0) (hk : k < n) : firstE f n = c := by
  have h1 : firstE f (k + 1) = c := by simp [firstE, h, hc]
  have : ∀ d, firstE f (k + 1 + d) = c := by
    intro d
    induction d with
    | zero => exact h1
    | succ d ih => rw [← Nat.add_assoc, firstE, ih, if_neg h0]
  have := this (n - (k + 1))
  rwa [show k + 1 + (n - (k + 1)) = n by omega] at this
theorem firstE_zero {f : Nat → Int} : ∀ {n : Nat}, firstE f n = 0 → ∀ j, j < n → f j = 0
  | 0, _, j, hj => by omega
  | n + 1, h, j, hj => by
    simp only [firstE] at h
    split at h
    · rename_i h0
      by_cases e : j = n
      · subst e; exact h
      · exact firstE_zero h0 j (by omega)
    · rename_i h0; exact absurd h h0
theorem firstE_same {f g : Nat → Int} : ∀ {n : Nat}, (∀ j, j < n → f j = g j) → firstE f n = firstE g n
  | 0, _ => rfl
  | n + 1, h => by simp only [firstE, firstE_same (fun j hj => h j (by omega) : ∀ j, j < n → _), h n (by omega)]

def sumTo (f : Nat → Int) : Nat → Int
  | 0 => 0
  | n + 1 => sumTo f n + f n
theorem sumTo_bd {f : Nat → Int} {A B : Int} : ∀ {n : Nat}, (∀ j, j < n → A ≤ f j ∧ f j ≤ B) → n * A ≤ sumTo f n ∧ sumTo f n ≤ n * B
  | 0, _ => by simp [sumTo]
  | n + 1, h => by
    have h1 := sumTo_bd (fun j hj => h j (by omega) : ∀ j, j < n → _)
    have h2 := h n (by omega)
    simp only [sumTo, Int.natCast_succ, Int.add_mul]
    omega
theorem sumTo_same {f g : Nat → Int} : ∀ {n : Nat}, (∀ j, j < n → f j = g j) → sumTo f n = sumTo g n
  | 0, _ => rfl
  | n + 1, h => by simp only [sumTo, sumTo_same (fun j hj => h j (by omega) : ∀ j, j < n → _), h n (by omega)]

/-- n values by their places. -/
def mapr {α : Type} (n : Nat) (f : Nat → α) : List α := (List.range n).map f
@[simp] theorem mapr_length {α : Type} (n : Nat) (f : Nat → α) : (mapr n f).length = n := by simp [mapr]
theorem mapr_succ {α : Type} (n : Nat) (f : Nat → α) : mapr (n + 1) f = mapr n f ++ [f n] := by simp [mapr, List.range_succ]
theorem mapr_getD {α : Type} {n : Nat} {f : Nat → α} {i : Nat} (d : α) (h : i < n) : (mapr n f).getD i d = f i := by
  simp [mapr, List.getD_eq_getElem?_getD, h]
theorem mapr_same {α : Type} {n : Nat} {f g : Nat → α} (h : ∀ j, j < n → f j = g j) : mapr n f = mapr n g := by
  unfold mapr
  exact List.map_congr_left fun j hj => h j (List.mem_range.1 hj)
theorem mapr_set {α : Type} {n : Nat} {f g : Nat → α} {i : Nat} {v : α} (hv : i < n → g i = v) (h : ∀ j, j < n → j ≠ i → g j = f j) : (mapr n f).set i v = mapr n g := by
  refine List.ext_getElem (by simp) fun j h1 h2 => ?_
  rw [List.getElem_set]
  split
  · rename_i e; subst e; simp [mapr]; exact (hv (by simpa using h2)).symm
  · rename_i e; simp [mapr]; exact (h j (by simpa using h2) fun e' => e e'.symm).symm
theorem replicate_mapr {α : Type} (n : Nat) (a : α) : List.replicate n a = mapr n fun _ => a :=
  List.ext_getElem (by simp) fun j h1 h2 => by simp [mapr]

/-- The first of n places at which p holds. -/
def firstI (p : Nat → Bool) : Nat → Option Nat
  | 0 => none
  | n + 1 => match firstI p n with | some i => some i | none => if p n then some n else none
theorem firstI_succ {p : Nat → Bool} {n : Nat} (h : firstI p n = none) (h' : p n = false) : firstI p (n + 1) = none := by simp [firstI, h, h']
theorem firstI_stop {p : Nat → Bool} {k n : Nat} (h : firstI p k = none) (hc : p k = true) (hk : k < n) : firstI p n = some k := by
  have h1 : firstI p (k + 1) = some k := by simp [firstI, h, hc]
  have : ∀ d, firstI p (k + 1 + d) = some k := by
    intro d
    induction d with
    | zero => exact h1
    | succ d ih => rw [← Nat.add_assoc, firstI, ih]
  have := this (n - (k + 1))
  rwa [show k + 1 + (n - (k + 1)) = n by omega] at this
theorem firstI_none {p : Nat → Bool} : ∀ {n : Nat}, firstI p n = none → ∀ j, j < n → p j = false
  | n + 1, h, j, hj => by
    simp only [firstI] at h
    split at h
    · cases h
    · rename_i h0
      split at h
      · cases h
      · rename_i h1
        by_cases e : j = n
        · subst e; simpa using h1
        · exact firstI_none h0 j (by omega)
theorem firstI_spec {p : Nat → Bool} : ∀ {n i : Nat}, firstI p n = some i → i < n ∧ p i = true ∧ ∀ j, j < i → p j = false
  | n + 1, i, h => by
    simp only [firstI] at h
    split at h
    · rename_i k hk
      simp only [Option.some.injEq] at h
      subst h
      have := firstI_spec hk
      exact ⟨by omega, this.2⟩
    · rename_i hk
      split at h
      · rename_i hp
        simp only [Option.some.injEq] at h
        subst h
        exact ⟨by omega, hp, firstI_none hk⟩
      · cases h
theorem firstI_same {p q : Nat → Bool} : ∀ {n : Nat}, (∀ j, j < n → p j = q j) → firstI p n = firstI q n
  | 0, _ => rfl
  | n + 1, h => by simp only [firstI, firstI_same (fun j hj => h j (by omega) : ∀ j, j < n → _), h n (by omega)]

theorem two_pow_nat (k : Nat) : (1 : Int) ≤ 2 ^ k := by
  have : (0 : Int) < 2 ^ k := Int.pow_pos (by omega)
  omega
theorem two_pow_bd {k m : Nat} (h : k ≤ m) : (2 : Int) ^ k ≤ 2 ^ m := by
  have h1 : (2 : Nat) ^ k ≤ 2 ^ m := Nat.pow_le_pow_right (by omega) h
  have h2 : ((2 ^ k : Nat) : Int) = 2 ^ k := by simp
  have h3 : ((2 ^ m : Nat) : Int) = 2 ^ m := by simp
  omega
def placeF (l : List Int) (x : Int) : Int := match firstI (fun i => decide (l.getD i 0 = x)) l.length with | some i => (i : Int) | none => -1
theorem firstI_of {p : Nat → Bool} : ∀ {n : Nat}, (∀ j, j < n → p j = false) → firstI p n = none
  | 0, _ => rfl
  | n + 1, h => firstI_succ (firstI_of fun j hj => h j (by omega)) (h n (by omega))
theorem place_mem {l : List Int} {x : Int} : 0 ≤ placeF l x ↔ x ∈ l := by
  unfold placeF
  cases e : firstI (fun i => decide (l.getD i 0 = x)) l.length with
  | some i =>
    have h := firstI_spec e
    simp only [decide_eq_true_eq] at h
    refine ⟨fun _ => ?_, fun _ => by simp⟩
    rw [← h.2.1]; exact getD_mem 0 h.1
  | none =>
    have h := firstI_none e
    simp only [decide_eq_false_iff_not] at h
    refine ⟨fun c => absurd c (by simp), fun hm => ?_⟩
    obtain ⟨j, hj, hx⟩ := List.getElem_of_mem hm
    exact absurd (by rw [List.getD_eq_getElem?_getD, List.getElem?_eq_getElem hj]; exact hx) (h j hj)
theorem place_at {l : List Int} {x : Int} (h : x ∈ l) : ∃ p : Nat, placeF l x = p ∧ p < l.length ∧ l.getD p 0 = x := by
  have h0 := place_mem.2 h
  unfold placeF at h0 ⊢
  cases e : firstI (fun i => decide (l.getD i 0 = x)) l.length with
  | some i =>
    have h := firstI_spec e
    simp only [decide_eq_true_eq] at h
    exact ⟨i, rfl, h.1, h.2.1⟩
  | none => rw [e] at h0; simp at h0
theorem sumTo_le {f g : Nat → Int} : ∀ {n : Nat}, (∀ j, j < n → f j ≤ g j) → sumTo f n ≤ sumTo g n
  | 0, _ => by simp [sumTo]
  | n + 1, h => by
    have := sumTo_le (f := f) (g := g) (n := n) fun j hj => h j (by omega)
    have := h n (by omega)
    simp only [sumTo]; omega
theorem sumTo_lt {f g : Nat → Int} : ∀ {n : Nat}, (∀ j, j < n → f j ≤ g j) → (∃ j, j < n ∧ f j < g j) → sumTo f n < sumTo g n
  | 0, _, ⟨j, hj, _⟩ => by omega
  | n + 1, h, ⟨j, hj, hlt⟩ => by
    simp only [sumTo]
    by_cases e : j = n
    · subst e
      have := sumTo_le (f := f) (g := g) (n := j) fun j hj => h j (by omega)
      omega
    · have := sumTo_lt (f := f) (g := g) (n := n) (fun j hj => h j (by omega)) ⟨j, by omega, hlt⟩
      have := h n (by omega)
      omega
theorem sumTo_one {f g : Nat → Int} {a : Nat} : ∀ {n : Nat}, a < n → (∀ j, j < n → j ≠ a → g j = f j) → sumTo g n = sumTo f n + (g a - f a)
  | n + 1, ha, h => by
    simp only [sumTo]
    by_cases e : a = n
    · subst e
      rw [sumTo_same (f := g) (g := f) fun j hj => h j (by omega) (by omega)]; omega
    · rw [sumTo_one (f := f) (g := g) (n := n) (by omega) fun j hj => h j (by omega), h n (by omega) (by omega)]; omega

abbrev Nd := Int × List Int × List Int × Unit
def kidsF (N : List Nd) (i : Nat) : List Int := (N.getD i (0, [], [], ())).2.1
def payF (N : List Nd) (i : Nat) : List Int := (N.getD i (0, [], [], ())).2.2.1
def plF (N : List Nd) (i : Nat) : Int := (N.getD i (0, [], [], ())).1
theorem foldK (N : List Nd) (i : Nat) : (N.getD i (0, [], [], ())).2.1 = kidsF N i := rfl
theorem foldP (N : List Nd) (i : Nat) : (N.getD i (0, [], [], ())).2.2.1 = payF N i := rfl
theorem foldL (N : List Nd) (i : Nat) : (N.getD i (0, [], [], ())).1 = plF N i := rfl
theorem firstE_all {f : Nat → Int} : ∀ {n : Nat}, (∀ j, j < n → f j = 0) → firstE f n = 0
  | 0, _ => rfl
  | n + 1, h => firstE_succ (firstE_all fun j hj => h j (by omega)) (h n (by omega))
/-! ### Whether a tree may be -/
def payB (l : List Int) (k : Nat) : Int := if l.getD k 0 < -999 ∨ 999 < l.getD k 0 then 9 else 0
def kidB (n i : Nat) (l : List Int) (k : Nat) : Int := if (l.getD k 0 ≤ i ∨ (n : Int) ≤ l.getD k 0) ∨ (0 < (k : Int) ∧ l.getD k 0 ≤ l.getD (k - 1) 0) then 8 else 0
def leafE (P : Int) (pl : Int) (pay : List Int) : Int := if ¬ pl = 0 ∨ ¬ (pay.length : Int) = P then 1 else firstE (payB pay) pay.length
def inE (P : Int) (n i : Nat) (pl : Int) (kids pay : List Int) : Int := if ((pl < 0 ∨ P ≤ pl) ∨ 0 < (pay.length : Int)) ∨ 5 < (kids.length : Int) then 1 else firstE (kidB n i kids) kids.length
def nodeE (P : Int) (n i : Nat) (pl : Int) (kids pay : List Int) : Int := if (kids.length : Int) = 0 then leafE P pl pay else inE P n i pl kids pay
def nE (P : Int) (N : List Nd) (i : Nat) : Int := nodeE P N.length i (plF N i) (kidsF N i) (payF N i)
def overF (N : List Nd) (x : Nat) (i : Nat) : Int := if 0 ≤ placeF (kidsF N i) (x : Nat) then 1 else 0
def ovB (N : List Nd) (x : Nat) : Int := if 0 < (x : Int) ∧ ¬ sumTo (overF N x) N.length = 1 then 11 else 0
def treeE (P : Int) (N : List Nd) : Int :=
  if P < 1 ∨ 5 < P then 7 else if (N.length : Int) < 1 ∨ 40 < (N.length : Int) then 2 else if firstE (nE P N) N.length ≠ 0 then firstE (nE P N) N.length else firstE (ovB N) N.length
section
variable {P : Int} {N : List Nd}
theorem treeE_7 (h : P < 1 ∨ 5 < P) : treeE P N = 7 := if_pos h
theorem treeE_2 (h : ¬ (P < 1 ∨ 5 < P)) (h' : (N.length : Int) < 1 ∨ 40 < (N.length : Int)) : treeE P N = 2 := by unfold treeE; rw [if_neg h, if_pos h']
theorem treeE_n (h : ¬ (P < 1 ∨ 5 < P)) (h' : ¬ ((N.length : Int) < 1 ∨ 40 < (N.length : Int))) {i : Nat} (hE : firstE (nE P N) i = 0) (hi : i < N.length) {c : Int} (hc : nE P N i = c) (h0 : c ≠ 0) : treeE P N = c := by
  have := firstE_stop hE hc h0 hi
  unfold treeE; rw [if_neg h, if_neg h', this, if_pos h0]
theorem treeE_f (h : ¬ (P < 1 ∨ 5 < P)) (h' : ¬ ((N.length : Int) < 1 ∨ 40 < (N.length : Int))) (hE : firstE (nE P N) N.length = 0) : treeE P N = firstE (ovB N) N.length := by
  unfold treeE; rw [if_neg h, if_neg h', hE, if_neg (fun c => c rfl)]
theorem treeE_11 (h : ¬ (P < 1 ∨ 5 < P)) (h' : ¬ ((N.length : Int) < 1 ∨ 40 < (N.length : Int))) (hE : firstE (nE P N) N.length = 0) {x : Nat} (hx : firstE (ovB N) x = 0) (hi : x < N.length) (hb : 0 < (x : Int) ∧ ¬ sumTo (overF N x) N.length = 1) : treeE P N = 11 := by
  rw [treeE_f h h' hE]; exact firstE_stop hx (if_pos hb) (by omega) hi
theorem nE_leaf {i : Nat} (h : ((kidsF N i).length : Int) = 0) : nE P N i = leafE P (plF N i) (payF N i) := if_pos h
theorem nE_in {i : Nat} (h : ¬ ((kidsF N i).length : Int) = 0) : nE P N i = inE P N.length i (plF N i) (kidsF N i) (payF N i) := if_neg h
theorem leafE_1 {pl : Int} {pay : List Int} (h : ¬ pl = 0 ∨ ¬ (pay.length : Int) = P) : leafE P pl pay = 1 := if_pos h
theorem leafE_f {pl : Int} {pay : List Int} (h : ¬ (¬ pl = 0 ∨ ¬ (pay.length : Int) = P)) : leafE P pl pay = firstE (payB pay) pay.length := if_neg h
theorem leafE_9 {pl : Int} {pay : List Int} (h : ¬ (¬ pl = 0 ∨ ¬ (pay.length : Int) = P)) {k : Nat} (hE : firstE (payB pay) k = 0) (hk : k < pay.length) (hb : pay.getD k 0 < -999 ∨ 999 < pay.getD k 0) : leafE P pl pay = 9 := by
  rw [leafE_f h]; exact firstE_stop hE (if_pos hb) (by omega) hk
theorem inE_1 {n i : Nat} {pl : Int} {kids pay : List Int} (h : ((pl < 0 ∨ P ≤ pl) ∨ 0 < (pay.length : Int)) ∨ 5 < (kids.length : Int)) : inE P n i pl kids pay = 1 := if_pos h
theorem inE_f {n i : Nat} {pl : Int} {kids pay : List Int} (h : ¬ (((pl < 0 ∨ P ≤ pl) ∨ 0 < (pay.length : Int)) ∨ 5 < (kids.length : Int))) : inE P n i pl kids pay = firstE (kidB n i kids) kids.length := if_neg h
theorem inE_8 {n i : Nat} {pl : Int} {kids pay : List Int} (h : ¬ (((pl < 0 ∨ P ≤ pl) ∨ 0 < (pay.length : Int)) ∨ 5 < (kids.length : Int))) {k : Nat} (hE : firstE (kidB n i kids) k = 0) (hk : k < kids.length) (hb : (kids.getD k 0 ≤ i ∨ (n : Int) ≤ kids.getD k 0) ∨ (0 < (k : Int) ∧ kids.getD k 0 ≤ kids.getD (k - 1) 0)) : inE P n i pl kids pay = 8 := by
  rw [inE_f h]; exact firstE_stop hE (if_pos hb) (by omega) hk
def lastF (i : Nat) (l : List Int) (k : Nat) : Int := if k = 0 then (i : Int) else l.getD (k - 1) 0
theorem last_ge {n i : Nat} {l : List Int} {k : Nat} (hE : firstE (kidB n i l) k = 0) : (i : Int) ≤ lastF i l k ∧ (0 < k → l.getD (k - 1) 0 < (n : Int)) := by
  unfold lastF
  split
  · exact ⟨Int.le_refl _, fun h => by omega⟩
  · have := firstE_zero hE (k - 1) (by omega)
    unfold kidB at this
    split at this <;> omega
theorem kid_bad {n i : Nat} {l : List Int} {k : Nat} (hE : firstE (kidB n i l) k = 0) (h : l.getD k 0 ≤ lastF i l k ∨ (n : Int) ≤ l.getD k 0) : (l.getD k 0 ≤ i ∨ (n : Int) ≤ l.getD k 0) ∨ (0 < (k : Int) ∧ l.getD k 0 ≤ l.getD (k - 1) 0) := by
  have := last_ge hE
  unfold lastF at *
  split at h <;> omega
theorem kid_ok {n i : Nat} {l : List Int} {k : Nat} (hE : firstE (kidB n i l) k = 0) (h : ¬ (l.getD k 0 ≤ lastF i l k ∨ (n : Int) ≤ l.getD k 0)) : kidB n i l k = 0 := by
  have := last_ge hE
  unfold kidB
  rw [if_neg]
  unfold lastF at *
  split at h <;> omega
theorem last_succ {i : Nat} {l : List Int} {k : Nat} : l.getD k 0 = lastF i l (k + 1) := by unfold lastF; rw [if_neg (by omega)]; simp
structure TrOk (P : Int) (N : List Nd) : Prop where
  p1 : 1 ≤ P
  p5 : P ≤ 5
  n1 : 1 ≤ N.length
  n40 : N.length ≤ 40
  leaf : ∀ i, i < N.length → (kidsF N i).length = 0 → plF N i = 0 ∧ ((payF N i).length : Int) = P ∧ ∀ k, k < (payF N i).length → -999 ≤ (payF N i).getD k 0 ∧ (payF N i).getD k 0 ≤ 999
  inn : ∀ i, i < N.length → (kidsF N i).length ≠ 0 → 0 ≤ plF N i ∧ plF N i < P ∧ (payF N i).length = 0 ∧ (kidsF N i).length ≤ 5
  kid : ∀ i, i < N.length → ∀ k, k < (kidsF N i).length → (i : Int) < (kidsF N i).getD k 0 ∧ (kidsF N i).getD k 0 < (N.length : Nat) ∧ (0 < k → (kidsF N i).getD (k - 1) 0 < (kidsF N i).getD k 0)
  par : ∀ x, 0 < x → x < N.length → sumTo (overF N x) N.length = 1
theorem node_zero {i : Nat} (h : nE P N i = 0) : ((kidsF N i).length = 0 → plF N i = 0 ∧ ((payF N i).length : Int) = P ∧ ∀ k, k < (payF N i).length → -999 ≤ (payF N i).getD k 0 ∧ (payF N i).getD k 0 ≤ 999) ∧
    ((kidsF N i).length ≠ 0 → 0 ≤ plF N i ∧ plF N i < P ∧ (payF N i).length = 0 ∧ (kidsF N i).length ≤ 5) ∧
    ∀ k, k < (kidsF N i).length → (i : Int) < (kidsF N i).getD k 0 ∧ (kidsF N i).getD k 0 < (N.length : Nat) ∧ (0 < k → (kidsF N i).getD (k - 1) 0 < (kidsF N i).getD k 0) := by
  by_cases e : ((kidsF N i).length : Int) = 0
  · rw [nE_leaf e] at h
    refine ⟨fun _ => ?_, fun c => by omega, fun k hk => by omega⟩
    unfold leafE at h
    split at h
    · omega
    · rename_i h1
      have h2 := firstE_zero h
      refine ⟨by omega, by omega, fun k hk => ?_⟩
      have := h2 k hk
      unfold payB at this
      split at this <;> omega
  · rw [nE_in e] at h
    unfold inE at h
    split at h
    · omega
    · rename_i h1
      have h2 := firstE_zero h
      refine ⟨fun c => by omega, fun _ => by omega, fun k hk => ?_⟩
      have := h2 k hk
      unfold kidB at this
      split at this
      · omega
      · refine ⟨by omega, by omega, fun _ => by omega⟩
theorem tr_of (h : treeE P N = 0) : TrOk P N := by
  unfold treeE at h
  split at h
  · omega
  · split at h
    · omega
    · split at h
      · rename_i h3; exact absurd h h3
      · rename_i h1 h2 h3
        have h3 : firstE (nE P N) N.length = 0 := Classical.not_not.1 h3
        have hn := fun i hi => node_zero (firstE_zero h3 i hi)
        have ho := firstE_zero h
        refine ⟨by omega, by omega, by omega, by omega, fun i hi => (hn i hi).1, fun i hi => (hn i hi).2.1, fun i hi => (hn i hi).2.2, fun x h0 hx => ?_⟩
        have := ho x hx
        unfold ovB at this
        split at this
        · omega
        · rename_i h4
          apply Classical.byContradiction
          intro c
          exact h4 ⟨by omega, c⟩
/-- How often x stands among the first n of a list. -/
def cntTo (l : List Int) (x : Int) (n : Nat) : Int := sumTo (fun k => if l.getD k 0 = x then 1 else 0) n
theorem cnt_rise {i n : Nat} {l : List Int} (h : ∀ k, k < l.length → (i : Int) < l.getD k 0 ∧ l.getD k 0 < (n : Nat) ∧ (0 < k → l.getD (k - 1) 0 < l.getD k 0)) (x : Int) : cntTo l x l.length = if 0 ≤ placeF l x then 1 else 0 := by
  have hr : ∀ d k, k + d + 1 < l.length → l.getD k 0 < l.getD (k + d + 1) 0 := by
    intro d
    induction d with
    | zero => intro k hk; have := (h (k + 1) hk).2.2 (by omega); simpa using this
    | succ d ih =>
      intro k hk
      have h1 := ih k (by omega)
      have h2 := (h (k + (d + 1) + 1) hk).2.2 (by omega)
      have e : k + (d + 1) + 1 - 1 = k + d + 1 := by omega
      rw [e] at h2; omega
  have hinj : ∀ a b, a < b → b < l.length → l.getD a 0 ≠ l.getD b 0 := fun a b hab hb => by
    have := hr (b - a - 1) a (by omega)
    rw [show a + (b - a - 1) + 1 = b by omega] at this; omega
  by_cases hm : x ∈ l
  · obtain ⟨p, hp, hlt, hx⟩ := place_at hm
    rw [if_pos (place_mem.2 hm)]
    unfold cntTo
    rw [sumTo_one (f := fun _ => 0) hlt fun j hj hne => if_neg fun c => by
      rcases Nat.lt_or_ge j p with h1 | h1
      · exact hinj j p h1 hlt (c.trans hx.symm)
      · exact hinj p j (by omega) hj (hx.trans c.symm)]
    rw [if_pos hx]
    have hz : ∀ n, sumTo (fun _ => 0) n = 0 := fun n => by induction n with | zero => rfl | succ n ih => simp [sumTo, ih]
    rw [hz]; rfl
  · rw [if_neg (fun c => hm (place_mem.1 c))]
    have hz : ∀ n, sumTo (fun _ => 0) n = 0 := fun n => by induction n with | zero => rfl | succ n ih => simp [sumTo, ih]
    rw [← hz l.length]
    refine sumTo_same fun k hk => if_neg fun c => hm ?_
    rw [← c]; exact getD_mem 0 hk
/-- How often each node is a kid of the first i. -/
def ovP (N : List Nd) (i : Nat) : List Int := mapr N.length fun x => sumTo (overF N x) i
def ovK (N : List Nd) (i k : Nat) : List Int := mapr N.length fun x => sumTo (overF N x) i + cntTo (kidsF N i) (x : Nat) k
theorem ovP_zero : List.replicate N.length (0 : Int) = ovP N 0 := by rw [replicate_mapr]; rfl
theorem ovK_zero {i : Nat} : ovP N i = ovK N i 0 := mapr_same fun x _ => by simp [cntTo, sumTo]
theorem ovK_end {i : Nat} (h : nE P N i = 0) : ovK N i (kidsF N i).length = ovP N (i + 1) := mapr_same fun x _ => by
  rw [cnt_rise (node_zero h).2.2 (x : Nat)]; rfl
theorem ovK_step {i k : Nat} (h : nE P N i = 0) (hk : k < (kidsF N i).length) : (ovK N i k).set ((kidsF N i).getD k 0).toNat ((ovK N i k).getD ((kidsF N i).getD k 0).toNat 0 + 1) = ovK N i (k + 1) := by
  have h1 := (node_zero h).2.2 k hk
  have h2 : ((kidsF N i).getD k 0).toNat < N.length := by omega
  unfold ovK
  rw [mapr_getD 0 h2]
  refine mapr_set (fun _ => ?_) fun j hj hne => ?_
  · show _ = sumTo (overF N ((kidsF N i).getD k 0).toNat) i + cntTo (kidsF N i) _ k + 1
    unfold cntTo; rw [sumTo, if_pos (by omega)]; omega
  · unfold cntTo; rw [sumTo, if_neg (by omega)]; omega
theorem ovP_get {x : Nat} (hx : x < N.length) : (ovP N N.length).getD x 0 = sumTo (overF N x) N.length := mapr_getD 0 hx
/-! ### Choices -/
def chB (N : List Nd) (c : List Int) (i : Nat) : Int := if c.getD i 0 < 0 ∨ (0 < c.getD i 0 ∧ ((kidsF N i).length : Int) ≤ c.getD i 0) then 9 else 0
def chE (P : Int) (N : List Nd) (c : List Int) : Int := if treeE P N ≠ 0 then treeE P N else if ¬ (c.length : Int) = N.length then 7 else firstE (chB N c) c.length
theorem chE_t {c : List Int} (h : ¬ treeE P N = 0) : chE P N c = treeE P N := if_pos h
theorem chE_7 {c : List Int} (h : treeE P N = 0) (h' : ¬ (c.length : Int) = N.length) : chE P N c = 7 := by unfold chE; rw [if_neg (fun c => c h), if_pos h']
theorem chE_f {c : List Int} (h : treeE P N = 0) (h' : (c.length : Int) = N.length) : chE P N c = firstE (chB N c) c.length := by unfold chE; rw [if_neg (fun c => c h), if_neg (fun c => c h')]
theorem chE_9 {c : List Int} (h : treeE P N = 0) (h' : (c.length : Int) = N.length) {i : Nat} (hE : firstE (chB N c) i = 0) (hi : i < c.length) (hb : c.getD i 0 < 0 ∨ (0 < c.getD i 0 ∧ ((kidsF N i).length : Int) ≤ c.getD i 0)) : chE P N c = 9 := by
  rw [chE_f h h']; exact firstE_stop hE (if_pos hb) (by omega) hi
theorem chE_0 {c : List Int} (h : treeE P N = 0) (h' : (c.length : Int) = N.length) {i : Nat} (hE : firstE (chB N c) i = 0) (hk : i ≤ c.length) (hi : ¬ (i : Int) < c.length) : chE P N c = 0 := by
  obtain rfl : i = c.length := by omega
  rw [chE_f h h', hE]
structure ChOk (N : List Nd) (c : List Int) : Prop where
  len : c.length = N.length
  ok : ∀ i, i < N.length → 0 ≤ c.getD i 0 ∧ (c.getD i 0 = 0 ∨ c.getD i 0 < ((kidsF N i).length : Int))
theorem ch_of {c : List Int} (h : chE P N c = 0) : treeE P N = 0 ∧ ChOk N c := by
  unfold chE at h
  split at h
  · rename_i h1; exact absurd h h1
  · rename_i h1
    split at h
    · omega
    · rename_i h2
      refine ⟨Classical.not_not.1 h1, by omega, fun i hi => ?_⟩
      have := firstE_zero h i (by omega)
      unfold chB at this
      split at this
      · omega
      · rename_i h3; refine ⟨by omega, ?_⟩; omega
theorem max_len {k : Nat} {x : Int} (h : 0 ≤ x) : max 1 (k : Int) ≤ x ↔ 0 < x ∧ (k : Int) ≤ x := by omega
/-! ### Where choices lead to -/
def nxF (N : List Nd) (c : List Int) (a : Nat) : Nat := ((kidsF N a).getD (c.getD a 0).toNat 0).toNat
def endF (N : List Nd) (c : List Int) : Nat → Nat → Nat
  | 0, a => a
  | f + 1, a => if (kidsF N a).length = 0 then a else endF N c f (nxF N c a)
def wF (N : List Nd) (c : List Int) (a : Nat) : List Int := payF N (endF N c N.length a)
theorem nx_in (hT : TrOk P N) {c : List Int} (hC : ChOk N c) {a : Nat} (ha : a < N.length) (h : (kidsF N a).length ≠ 0) : (c.getD a 0).toNat < (kidsF N a).length ∧ (kidsF N a).getD (c.getD a 0).toNat 0 = (nxF N c a : Nat) ∧ a < nxF N c a ∧ nxF N c a < N.length := by
  have h1 := hC.ok a ha
  have h2 : (c.getD a 0).toNat < (kidsF N a).length := by omega
  have h3 := hT.kid a ha _ h2
  unfold nxF
  refine ⟨h2, by omega, by omega, by omega⟩
theorem endF_more (hT : TrOk P N) {c : List Int} (hC : ChOk N c) : ∀ (f a : Nat), a < N.length → N.length - a ≤ f → ∀ d, endF N c (f + d) a = endF N c f a
  | 0, a, ha, hf, _ => by omega
  | f + 1, a, ha, hf, d => by
    rw [show f + 1 + d = (f + d) + 1 by omega]
    simp only [endF]
    split
    · rfl
    · rename_i h
      have := nx_in hT hC ha h
      exact endF_more hT hC f _ this.2.2.2 (by omega) d
theorem endF_same (hT : TrOk P N) {c : List Int} (hC : ChOk N c) {f a : Nat} (ha : a < N.length) (hf : N.length - a ≤ f) : payF N (endF N c f a) = wF N c a := by
  unfold wF
  rcases Nat.le_total f N.length with h | h
  · have := endF_more hT hC f a ha hf (N.length - f)
    rw [show f + (N.length - f) = N.length by omega] at this; rw [this]
  · have := endF_more hT hC N.length a ha (by omega) (f - N.length)
    rw [show N.length + (f - N.length) = f by omega] at this; rw [this]
theorem wF_leaf (hT : TrOk P N) {c : List Int} {a : Nat} (ha : a < N.length) (h : (kidsF N a).length = 0) : wF N c a = payF N a := by
  obtain ⟨m, hm⟩ : ∃ m, N.length = m + 1 := ⟨N.length - 1, by omega⟩
  unfold wF; rw [hm, endF, if_pos h]
theorem wF_step (hT : TrOk P N) {c : List Int} (hC : ChOk N c) {a : Nat} (ha : a < N.length) (h : (kidsF N a).length ≠ 0) : wF N c a = wF N c (nxF N c a) := by
  obtain ⟨m, hm⟩ : ∃ m, N.length = m + 1 := ⟨N.length - 1, by omega⟩
  have hn := nx_in hT hC ha h
  have : wF N c a = payF N (endF N c m (nxF N c a)) := by
    unfold wF; rw [hm, endF, if_neg h]
  rw [this, endF_same hT hC hn.2.2.2 (by omega)]
/-- Induction along choices. -/
theorem down {Q : Nat → Prop} (h : ∀ a, a < N.length → (∀ b, a < b → b < N.length → Q b) → Q a) : ∀ a, a < N.length → Q a := by
  have key : ∀ d a, a < N.length → N.length - a ≤ d → Q a := by
    intro d
    induction d with
    | zero => intro a ha hd; omega
    | succ d ih => intro a ha hd; exact h a ha fun b hb hb2 => ih b hb2 (by omega)
  exact fun a ha => key _ a ha (Nat.le_refl _)
theorem wF_len (hT : TrOk P N) {c : List Int} (hC : ChOk N c) {a : Nat} (ha : a < N.length) : ((wF N c a).length : Int) = P ∧ ∀ k, k < (wF N c a).length → -999 ≤ (wF N c a).getD k 0 ∧ (wF N c a).getD k 0 ≤ 999 := by
  refine down (N := N) (Q := fun a => ((wF N c a).length : Int) = P ∧ ∀ k, k < (wF N c a).length → -999 ≤ (wF N c a).getD k 0 ∧ (wF N c a).getD k 0 ≤ 999) (fun a ha ih => ?_) a ha
  by_cases h : (kidsF N a).length = 0
  · rw [wF_leaf hT ha h]; exact (hT.leaf a ha h).2
  · have hn := nx_in hT hC ha h
    rw [wF_step hT hC ha h]; exact ih _ hn.2.2.1 hn.2.2.2
theorem wF_congr (hT : TrOk P N) {c d : List Int} (hC : ChOk N c) (hD : ChOk N d) {a : Nat} (ha : a < N.length) (h : ∀ j, a ≤ j → j < N.length → c.getD j 0 = d.getD j 0) : wF N c a = wF N d a := by
  refine down (N := N) (Q := fun a => (∀ j, a ≤ j → j < N.length → c.getD j 0 = d.getD j 0) → wF N c a = wF N d a) (fun a ha ih h => ?_) a ha h
  by_cases hl : (kidsF N a).length = 0
  · rw [wF_leaf hT ha hl, wF_leaf hT ha hl]
  · have hn := nx_in hT hC ha hl
    have e : nxF N d a = nxF N c a := by unfold nxF; rw [h a (Nat.le_refl _) ha]
    rw [wF_step hT hC ha hl, wF_step hT hD ha hl, e]
    exact ih _ hn.2.2.1 hn.2.2.2 fun j hj hj2 => h j (by omega) hj2
end

theorem clone_fc (l : List Int) (hl : l.length ≤ 1000000) : FCO Try.prog 30 [.ints l] 3 1 Int 0 (fun n => [.int .i64 n]) (l) := by
  refine FCO.intro Try.func30 rfl (Nat.le_of_ble_eq_true rfl) fun hfit => ?_
  obtain ⟨fitl0, fitr0⟩ := (hfit _ (.head _)).ints
  refine awp_seq ?_
  refine awp_region rfl (.n (fun _ => op_assign (.plain rfl)) (.nil _)) ?_
  refine awp_seq ?_
  refine awp_seq ?_
  refine awp_nilsplit 0 rfl (fun hnil => ?_) ?_
  · have _hs := trivial
    refine awp_region rfl (.n (fun _ => op_move (.plain rfl)) (.n (fun _ => op_nil_nil Try.underlying25 (.plain rfl)) (.nil _))) ?_
    refine awp_cond rfl (fun h => ?_) (fun h => ?_)
    · clear h
      refine awp_seq ?_
      refine awp_region rfl (.n (fun _ => op_assign (.plain rfl)) (.nil _)) ?_
      refine awp_ent (Ent.begin 2 5002 3 1 Int 0 (fun n => [.int .i64 n]) rfl rfl rfl) ?_
      refine awp_ret ?_
      refine retO.ret ?_
      refine retO1 rfl rfl rfl ?_
      exact hnil.symm
    · first | cases h | exact absurd h (by decide)
  · have _hs := trivial
    refine awp_region rfl (.n (fun _ => op_move (.plain rfl)) (.n (fun _ => op_nn_nil Try.underlying25 (.plain rfl)) (.nil _))) ?_
    refine awp_ent (Ent.denn 0 rfl) ?_
    refine awp_cond rfl (fun h => ?_) (fun h => ?_)
    · first | cases h | exact absurd h (by decide)
    · clear h
      refine awp_skip ?_
      refine awp_seq ?_
      refine awp_region rfl (.e (op_slitO (pp := []) (α := Int) (d := 0) (f := (fun n => [.int .i64 n])) 5 [] ety25 rfl trivial rfl (by decide) rfl (fun _ => rfl) rfl) rfl (.n (fun _ => op_move (.plain rfl)) (.e (op_append (id' := 7) (α := Int) (d := 0) (f := (fun n => [.int .i64 n])) ety25 Try.underlying25 (fun _ => rfl) (fun _ => rfl) (.plain rfl) rfl (.plain rfl) rfl ?_) rfl (.n (fun _ => op_assign (.plain rfl)) (.nil _))))) ?_
      · (try simp only [foldK, foldP, foldL, Int.toNat_natCast])
        first | omega | (simp; omega)
      refine awp_ret ?_
      refine retO.ret ?_
      refine retO1 rfl rfl rfl ?_
      simp

theorem sameInts_fc (a b : List Int) : FC Try.prog 12 [.ints a, .ints b] (.bool (decide (a = b))) := by
  refine FC.intro Try.func12 rfl (Nat.le_of_ble_eq_true rfl) fun hfit => ?_
  obtain ⟨fitl0, fitr0⟩ := (hfit _ (.head _)).ints
  obtain ⟨fitl1, fitr1⟩ := (hfit _ (.tail _ (.head _))).ints
  refine awp_seq ?_
  refine awp_region rfl (.n (fun _ => op_assign (.plain rfl)) (.nil _)) ?_
  refine awp_seq ?_
  refine awp_seq ?_
  refine awp_region rfl (.n (fun _ => op_move (.plain rfl)) (.n (fun _ => op_len (s := 0) Try.underlying25 (.plain rfl)) (.n (fun _ => op_move (.plain rfl)) (.n (fun _ => op_len (s := 0) Try.underlying25 (.plain rfl)) (.n (fun _ => op_neq (.plain rfl) (.plain rfl)) (.nil _)))))) ?_
  refine awp_cond rfl (fun h => ?_) (fun h => ?_)
  · (try simp only [decide_eq_true_eq, decide_eq_false_iff_not, Bool.and_eq_true, Bool.or_eq_true, Bool.and_eq_false_iff, Bool.or_eq_false_iff, Bool.not_eq_true', Bool.not_eq_false', Bool.not_eq_true, Bool.not_eq_false, Bool.true_eq_false, Bool.false_eq_true] at h); (try simp only [foldK, foldP, foldL] at h)
    refine awp_seq ?_
    refine awp_region rfl (.n (fun _ => op_assign (.plain rfl)) (.nil _)) ?_
    refine awp_ret ?_
    refine retQ.ret ?_
    refine ret1 rfl rfl rfl ?_
    rw [decide_eq_false (fun e => by subst e; simp at h)]
  · (try simp only [decide_eq_true_eq, decide_eq_false_iff_not, Bool.and_eq_true, Bool.or_eq_true, Bool.and_eq_false_iff, Bool.or_eq_false_iff, Bool.not_eq_true', Bool.not_eq_false', Bool.not_eq_true, Bool.not_eq_false, Bool.true_eq_false, Bool.false_eq_true] at h); (try simp only [foldK, foldP, foldL] at h)
    refine awp_skip ?_
    refine awp_seq ?_
    refine awp_seq ?_
    refine awp_region rfl (.n (fun _ => op_assign (.plain rfl)) (.nil _)) ?_
    refine awp_block ?_
    refine awp_loop (σ := Nat) (fun (k : Nat) => k ≤ a.length ∧ ∀ j, j < k → a.getD j 0 = b.getD j 0) (fun (k : Nat) => ⟨[(5, .int (k : Nat)), (0, .pv (.ints a)), (1, .pv (.ints b))], []⟩) (fun (k : Nat) => a.length - k) 0 ?_ (Ent.kept ⟨rfl, rfl, rfl, trivial⟩ trivial) ?_
    · simp
    rintro k hp
    try dsimp only at hp
    obtain ⟨hk, hj⟩ := hp
    have hlen : a.length = b.length := by omega
    refine awp_seq ?_
    refine awp_seq ?_
    refine awp_region rfl (.n (fun _ => op_move (.plain rfl)) (.n (fun _ => op_move (.plain rfl)) (.n (fun _ => op_len (s := 0) Try.underlying25 (.plain rfl)) (.n (fun _ => op_lss (.plain rfl) (.plain rfl)) (.nil _))))) ?_
    refine awp_cond rfl (fun h => ?_) (fun h => ?_)
    · (try simp only [decide_eq_true_eq, decide_eq_false_iff_not, Bool.and_eq_true, Bool.or_eq_true, Bool.and_eq_false_iff, Bool.or_eq_false_iff, Bool.not_eq_true', Bool.not_eq_false', Bool.not_eq_true, Bool.not_eq_false, Bool.true_eq_false, Bool.false_eq_true] at h); (try simp only [foldK, foldP, foldL] at h)
      refine awp_skip ?_
      refine awp_seq ?_
      refine awp_block ?_
      refine awp_seq ?_
      refine awp_region_draw mixed rfl (.n (fun _ => op_move (.plain rfl)) (.n (fun _ => op_move (.plain rfl)) (.n (fun _ => op_indexAddrN Try.underlying25 Try.sizeOf3 (.plain rfl) (.plain rfl) (fun _ => rfl) ?_) (.n (fun _ => op_load Try.isAgg3 (.plain rfl)) (.n (fun _ => op_move (.plain rfl)) (.n (fun _ => op_move (.plain rfl)) (.n (fun _ => op_indexAddrN Try.underlying25 Try.sizeOf3 (.plain rfl) (.plain rfl) (fun _ => rfl) ?_) (.n (fun _ => op_load Try.isAgg3 (.plain rfl)) (.n (fun _ => op_neq (.plain rfl) (.plain rfl)) (.nil _)))))))))) ?d1 ?_
      · (try simp only [foldK, foldP, foldL, Int.toNat_natCast])
        omega
      · (try simp only [foldK, foldP, foldL, Int.toNat_natCast])
        omega
      · kernel_rfl
      refine awp_cond rfl (fun h => ?_) (fun h => ?_)
      · (try simp only [decide_eq_true_eq, decide_eq_false_iff_not, Bool.and_eq_true, Bool.or_eq_true, Bool.and_eq_false_iff, Bool.or_eq_false_iff, Bool.not_eq_true', Bool.not_eq_false', Bool.not_eq_true, Bool.not_eq_false, Bool.true_eq_false, Bool.false_eq_true] at h); (try simp only [foldK, foldP, foldL] at h)
        refine awp_seq ?_
        refine awp_region rfl (.n (fun _ => op_assign (.plain rfl)) (.nil _)) ?_
        refine awp_ret ?_
        refine retQ.ret ?_
        refine ret1 rfl rfl rfl ?_
        rw [decide_eq_false (fun e => by subst e; simp at h)]
      · (try simp only [decide_eq_true_eq, decide_eq_false_iff_not, Bool.and_eq_true, Bool.or_eq_true, Bool.and_eq_false_iff, Bool.or_eq_false_iff, Bool.not_eq_true', Bool.not_eq_false', Bool.not_eq_true, Bool.not_eq_false, Bool.true_eq_false, Bool.false_eq_true] at h); (try simp only [foldK, foldP, foldL] at h)
        refine awp_skip ?_
        refine awp_region rfl (.n (fun _ => op_move (.plain rfl)) (.n (fun _ => op_add (.plain rfl) (.plain rfl) ?_) (.n (fun _ => op_assign (.plain rfl)) (.nil _)))) ?_
        · (try simp only [foldK, foldP, foldL, Int.toNat_natCast])
          unfold InR; omega
        refine ⟨k + 1, ⟨by omega, fun j hjk => ?_⟩, by dsimp only; omega, Ent.kept ⟨rfl, rfl, rfl, trivial⟩ trivial⟩
        by_cases e : j = k
        · subst e; simpa using h
        · exact hj j (by omega)
    · (try simp only [decide_eq_true_eq, decide_eq_false_iff_not, Bool.and_eq_true, Bool.or_eq_true, Bool.and_eq_false_iff, Bool.or_eq_false_iff, Bool.not_eq_true', Bool.not_eq_false', Bool.not_eq_true, Bool.not_eq_false, Bool.true_eq_false, Bool.false_eq_true] at h); (try simp only [foldK, foldP, foldL] at h)
      refine awp_exit ?_
      refine awp_seq ?_
      refine awp_region rfl (.n (fun _ => op_assign (.plain rfl)) (.nil _)) ?_
      refine awp_ret ?_
      refine retQ.ret ?_
      refine ret1 rfl rfl rfl ?_
      rw [decide_eq_true (List.ext_getElem hlen fun j h1 h2 => by have := hj j (by omega); simpa [List.getD_eq_getElem?_getD, h1, h2] using this)]

theorem sameLists_fc (a b : List (List Int)) : FC Try.prog 37 [.rows a, .rows b] (.bool (decide (a = b))) := by
  refine FC.intro Try.func37 rfl (Nat.le_of_ble_eq_true rfl) fun hfit => ?_
  obtain ⟨fitl0, fitr0⟩ := (hfit _ (.head _)).rows
  obtain ⟨fitl1, fitr1⟩ := (hfit _ (.tail _ (.head _))).rows
  refine awp_seq ?_
  refine awp_region rfl (.n (fun _ => op_assign (.plain rfl)) (.nil _)) ?_
  refine awp_seq ?_
  refine awp_seq ?_
  refine awp_region rfl (.n (fun _ => op_move (.plain rfl)) (.n (fun _ => op_len (s := 0) Try.underlying60 (.plain rfl)) (.n (fun _ => op_move (.plain rfl)) (.n (fun _ => op_len (s := 0) Try.underlying60 (.plain rfl)) (.n (fun _ => op_neq (.plain rfl) (.plain rfl)) (.nil _)))))) ?_
  refine awp_cond rfl (fun h => ?_) (fun h => ?_)
  · (try simp only [decide_eq_true_eq, decide_eq_false_iff_not, Bool.and_eq_true, Bool.or_eq_true, Bool.and_eq_false_iff, Bool.or_eq_false_iff, Bool.not_eq_true', Bool.not_eq_false', Bool.not_eq_true, Bool.not_eq_false, Bool.true_eq_false, Bool.false_eq_true] at h); (try simp only [foldK, foldP, foldL] at h)
    refine awp_seq ?_
    refine awp_region rfl (.n (fun _ => op_assign (.plain rfl)) (.nil _)) ?_
    refine awp_ret ?_
    refine retQ.ret ?_
    refine ret1 rfl rfl rfl ?_
    rw [decide_eq_false (fun e => by subst e; simp at h)]
  · (try simp only [decide_eq_true_eq, decide_eq_false_iff_not, Bool.and_eq_true, Bool.or_eq_true, Bool.and_eq_false_iff, Bool.or_eq_false_iff, Bool.not_eq_true', Bool.not_eq_false', Bool.not_eq_true, Bool.not_eq_false, Bool.true_eq_false, Bool.false_eq_true] at h); (try simp only [foldK, foldP, foldL] at h)
    refine awp_skip ?_
    refine awp_seq ?_
    refine awp_seq ?_
    refine awp_region rfl (.n (fun _ => op_assign (.plain rfl)) (.nil _)) ?_
    refine awp_block ?_
    refine awp_loop (σ := Nat) (fun (k : Nat) => k ≤ a.length ∧ ∀ j, j < k → a.getD j [] = b.getD j []) (fun (k : Nat) => ⟨[(5, .int (k : Nat)), (0, .pv (.rows a)), (1, .pv (.rows b))], []⟩) (fun (k : Nat) => a.length - k) 0 ?_ (Ent.kept ⟨rfl, rfl, rfl, trivial⟩ trivial) ?_
    · exact ⟨Nat.zero_le _, fun j hj => absurd hj (Nat.not_lt_zero _)⟩
    rintro k hp
    try dsimp only at hp
    obtain ⟨hk, hj⟩ := hp
    have hlen : a.length = b.length := by omega
    refine awp_seq ?_
    refine awp_seq ?_
    refine awp_region rfl (.n (fun _ => op_move (.plain rfl)) (.n (fun _ => op_move (.plain rfl)) (.n (fun _ => op_len (s := 0) Try.underlying60 (.plain rfl)) (.n (fun _ => op_lss (.plain rfl) (.plain rfl)) (.nil _))))) ?_
    refine awp_cond rfl (fun h => ?_) (fun h => ?_)
    · (try simp only [decide_eq_true_eq, decide_eq_false_iff_not, Bool.and_eq_true, Bool.or_eq_true, Bool.and_eq_false_iff, Bool.or_eq_false_iff, Bool.not_eq_true', Bool.not_eq_false', Bool.not_eq_true, Bool.not_eq_false, Bool.true_eq_false, Bool.false_eq_true] at h); (try simp only [foldK, foldP, foldL] at h)
      refine awp_skip ?_
      refine awp_seq ?_
      refine awp_block ?_
      refine awp_seq ?_
      refine awp_region_draw mixed rfl (.n (fun _ => op_move (.plain rfl)) (.n (fun _ => op_move (.plain rfl)) (.n (fun _ => op_indexAddrN Try.underlying60 Try.sizeOf25 (.plain rfl) (.plain rfl) (fun _ => rfl) ?_) (.n (fun _ => op_load Try.isAgg25 (.plain rfl)) (.n (fun _ => op_move (.plain rfl)) (.n (fun _ => op_move (.plain rfl)) (.n (fun _ => op_indexAddrN Try.underlying60 Try.sizeOf25 (.plain rfl) (.plain rfl) (fun _ => rfl) ?_) (.n (fun _ => op_load Try.isAgg25 (.plain rfl)) (.n (fun _ => op_call2 Try.call12 (.plain rfl) (.plain rfl) (sameInts_fc _ _)) (.n (fun _ => op_not (.plain rfl)) (.nil _))))))))))) ?d2 ?_
      · (try simp only [foldK, foldP, foldL, Int.toNat_natCast])
        omega
      · (try simp only [foldK, foldP, foldL, Int.toNat_natCast])
        omega
      · kernel_rfl
      refine awp_cond rfl (fun h => ?_) (fun h => ?_)
      · (try simp only [decide_eq_true_eq, decide_eq_false_iff_not, Bool.and_eq_true, Bool.or_eq_true, Bool.and_eq_false_iff, Bool.or_eq_false_iff, Bool.not_eq_true', Bool.not_eq_false', Bool.not_eq_true, Bool.not_eq_false, Bool.true_eq_false, Bool.false_eq_true] at h); (try simp only [foldK, foldP, foldL] at h)
        refine awp_seq ?_
        refine awp_region rfl (.n (fun _ => op_assign (.plain rfl)) (.nil _)) ?_
        refine awp_ret ?_
        refine retQ.ret ?_
        refine ret1 rfl rfl rfl ?_
        rw [decide_eq_false (fun e => by subst e; exact h rfl)]
      · (try simp only [decide_eq_true_eq, decide_eq_false_iff_not, Bool.and_eq_true, Bool.or_eq_true, Bool.and_eq_false_iff, Bool.or_eq_false_iff, Bool.not_eq_true', Bool.not_eq_false', Bool.not_eq_true, Bool.not_eq_false, Bool.true_eq_false, Bool.false_eq_true] at h); (try simp only [foldK, foldP, foldL] at h)
        refine awp_skip ?_
        refine awp_region rfl (.n (fun _ => op_move (.plain rfl)) (.n (fun _ => op_add (.plain rfl) (.plain rfl) ?_) (.n (fun _ => op_assign (.plain rfl)) (.nil _)))) ?_
        · (try simp only [foldK, foldP, foldL, Int.toNat_natCast])
          unfold InR; omega
        refine ⟨k + 1, ⟨by omega, fun j hjk => ?_⟩, by dsimp only; omega, Ent.kept ⟨rfl, rfl, rfl, trivial⟩ trivial⟩
        by_cases e : j = k
        · subst e; exact h
        · exact hj j (by omega)
    · (try simp only [decide_eq_true_eq, decide_eq_false_iff_not, Bool.and_eq_true, Bool.or_eq_true, Bool.and_eq_false_iff, Bool.or_eq_false_iff, Bool.not_eq_true', Bool.not_eq_false', Bool.not_eq_true, Bool.not_eq_false, Bool.true_eq_false, Bool.false_eq_true] at h); (try simp only [foldK, foldP, foldL] at h)
      refine awp_exit ?_
      refine awp_seq ?_
      refine awp_region rfl (.n (fun _ => op_assign (.plain rfl)) (.nil _)) ?_
      refine awp_ret ?_
      refine retQ.ret ?_
      refine ret1 rfl rfl rfl ?_
      rw [decide_eq_true (List.ext_getElem hlen fun j h1 h2 => by have := hj j (by omega); simpa only [List.getD_eq_getElem?_getD, List.getElem?_eq_getElem h1, List.getElem?_eq_getElem h2, Option.getD_some] using this)]

theorem Place_fc (l : List Int) (x : Int) : FC Try.prog 40 [.ints l, .i x] (.i (placeF l x)) := by
  refine FC.intro Try.func40 rfl (Nat.le_of_ble_eq_true rfl) fun hfit => ?_
  obtain ⟨fitl0, fitr0⟩ := (hfit _ (.head _)).ints
  have fit1 : -9223372036854775808 ≤ (x : Int) ∧ (x : Int) ≤ 9223372036854775807 := (hfit _ (.tail _ (.head _))).int64
  refine awp_seq ?_
  refine awp_region rfl (.n (fun _ => op_assign (.plain rfl)) (.nil _)) ?_
  refine awp_seq ?_
  refine awp_seq ?_
  refine awp_region rfl (.n (fun _ => op_assign (.plain rfl)) (.nil _)) ?_
  refine awp_block ?_
  refine awp_loop (σ := Nat) (fun (k : Nat) => k ≤ l.length ∧ firstI (fun i => decide (l.getD i 0 = x)) k = none) (fun (k : Nat) => ⟨[(0, .pv (.ints l)), (1, .int x), (5, .int (k : Nat))], []⟩) (fun (k : Nat) => l.length - k) 0 ?_ (Ent.kept ⟨rfl, rfl, rfl, trivial⟩ trivial) ?_
  · exact ⟨Nat.zero_le _, rfl⟩
  rintro k hp
  try dsimp only at hp
  obtain ⟨hk, hE⟩ := hp
  refine awp_seq ?_
  refine awp_seq ?_
  refine awp_region rfl (.n (fun _ => op_move (.plain rfl)) (.n (fun _ => op_move (.plain rfl)) (.n (fun _ => op_len (s := 0) Try.underlying25 (.plain rfl)) (.n (fun _ => op_lss (.plain rfl) (.plain rfl)) (.nil _))))) ?_
  refine awp_cond rfl (fun h => ?_) (fun h => ?_)
  · (try simp only [decide_eq_true_eq, decide_eq_false_iff_not, Bool.and_eq_true, Bool.or_eq_true, Bool.and_eq_false_iff, Bool.or_eq_false_iff, Bool.not_eq_true', Bool.not_eq_false', Bool.not_eq_true, Bool.not_eq_false, Bool.true_eq_false, Bool.false_eq_true] at h); (try simp only [foldK, foldP, foldL] at h)
    refine awp_skip ?_
    refine awp_seq ?_
    refine awp_block ?_
    refine awp_seq ?_
    refine awp_region rfl (.n (fun _ => op_move (.plain rfl)) (.n (fun _ => op_move (.plain rfl)) (.n (fun _ => op_indexAddrN Try.underlying25 Try.sizeOf3 (.plain rfl) (.plain rfl) (fun _ => rfl) ?_) (.n (fun _ => op_load Try.isAgg3 (.plain rfl)) (.n (fun _ => op_move (.plain rfl)) (.n (fun _ => op_eql (.plain rfl) (.plain rfl)) (.nil _))))))) ?_
    · (try simp only [foldK, foldP, foldL, Int.toNat_natCast])
      omega
    refine awp_cond rfl (fun h => ?_) (fun h => ?_)
    · (try simp only [decide_eq_true_eq, decide_eq_false_iff_not, Bool.and_eq_true, Bool.or_eq_true, Bool.and_eq_false_iff, Bool.or_eq_false_iff, Bool.not_eq_true', Bool.not_eq_false', Bool.not_eq_true, Bool.not_eq_false, Bool.true_eq_false, Bool.false_eq_true] at h); (try simp only [foldK, foldP, foldL] at h)
      refine awp_seq ?_
      refine awp_region rfl (.n (fun _ => op_move (.plain rfl)) (.n (fun _ => op_assign (.plain rfl)) (.nil _))) ?_
      refine awp_ret ?_
      refine retQ.ret ?_
      refine ret1 rfl rfl rfl ?_
      unfold placeF
      rw [firstI_stop hE (decide_eq_true h) (by omega)]
    · (try simp only [decide_eq_true_eq, decide_eq_false_iff_not, Bool.and_eq_true, Bool.or_eq_true, Bool.and_eq_false_iff, Bool.or_eq_false_iff, Bool.not_eq_true', Bool.not_eq_false', Bool.not_eq_true, Bool.not_eq_false, Bool.true_eq_false, Bool.false_eq_true] at h); (try simp only [foldK, foldP, foldL] at h)
      refine awp_skip ?_
      refine awp_region rfl (.n (fun _ => op_move (.plain rfl)) (.n (fun _ => op_add (.plain rfl) (.plain rfl) ?_) (.n (fun _ => op_assign (.plain rfl)) (.nil _)))) ?_
      · (try simp only [foldK, foldP, foldL, Int.toNat_natCast])
        unfold InR; omega
      exact ⟨k + 1, ⟨by omega, firstI_succ hE (decide_eq_false h)⟩, by dsimp only; omega, (Ent.kept ⟨rfl, rfl, rfl, trivial⟩ trivial)⟩
  · (try simp only [decide_eq_true_eq, decide_eq_false_iff_not, Bool.and_eq_true, Bool.or_eq_true, Bool.and_eq_false_iff, Bool.or_eq_false_iff, Bool.not_eq_true', Bool.not_eq_false', Bool.not_eq_true, Bool.not_eq_false, Bool.true_eq_false, Bool.false_eq_true] at h); (try simp only [foldK, foldP, foldL] at h)
    refine awp_exit ?_
    refine awp_seq ?_
    refine awp_region rfl (.n (fun _ => op_assign (.plain rfl)) (.nil _)) ?_
    refine awp_ret ?_
    refine retQ.ret ?_
    refine ret1 rfl rfl rfl ?_
    obtain rfl : k = l.length := by omega
    unfold placeF
    rw [hE]

theorem In_fc (x : Int) (l : List Int) : FC Try.prog 24 [.i x, .ints l] (.bool (decide (0 ≤ placeF l x))) := by
  refine FC.intro Try.func24 rfl (Nat.le_of_ble_eq_true rfl) fun hfit => ?_
  have fit0 : -9223372036854775808 ≤ (x : Int) ∧ (x : Int) ≤ 9223372036854775807 := (hfit _ (.head _)).int64
  obtain ⟨fitl1, fitr1⟩ := (hfit _ (.tail _ (.head _))).ints
  refine awp_seq ?_
  refine awp_region rfl (.n (fun _ => op_assign (.plain rfl)) (.nil _)) ?_
  refine awp_seq ?_
  refine awp_region rfl (.n (fun _ => op_move (.plain rfl)) (.n (fun _ => op_move (.plain rfl)) (.n (fun _ => op_call2 Try.call40 (.plain rfl) (.plain rfl) (Place_fc _ _)) (.n (fun _ => op_geq (.plain rfl) (.plain rfl)) (.n (fun _ => op_assign (.plain rfl)) (.nil _)))))) ?_
  refine awp_ret ?_
  refine retQ.ret ?_
  refine ret1 rfl rfl rfl ?_
  rfl

theorem node_fc (P : Int) (N : List Nd) (i : Nat) (pl : Int) (kids pay : List Int) : FC Try.prog 27 [.agg [.i P, .seq (Int × List Int × List Int × Unit) (0, [], [], ()) (fun p => [.i p.1, .ints p.2.1, .ints p.2.2.1]) N], .i (i : Nat), .agg [.i pl, .ints kids, .ints pay]] (.i (nodeE P N.length i pl kids pay)) := by
  refine FC.intro Try.func27 rfl (Nat.le_of_ble_eq_true rfl) fun hfit => ?_
  have fit0 := hfit _ (.head _)
  have fit1 : -9223372036854775808 ≤ ((i : Nat) : Int) ∧ ((i : Nat) : Int) ≤ 9223372036854775807 := (hfit _ (.tail _ (.head _))).int64
  have fit2 := hfit _ (.tail _ (.tail _ (.head _)))
  have hkl : kids.length ≤ 281474976710656 := by cases fit2 with | agg _ h => exact (h 1 (by simp)).len
  have hpl : pay.length ≤ 281474976710656 := by cases fit2 with | agg _ h => exact (h 2 (by simp)).len
  refine awp_seq ?_
  refine awp_region rfl (.n (fun _ => op_box (.plain rfl) (by simp)) (.n (fun _ => op_box (.plain rfl) (by simp)) (.n (fun _ => op_assign (.plain rfl)) (.nil _)))) ?_
  refine awp_seq ?_
  refine awp_seq ?_
  refine awp_region rfl (.n (fun _ => op_fieldAddr Try.underlying51 rfl rfl Try.sizeOf25 (.plain rfl)) (.n (fun _ => op_load Try.isAgg25 (.plain rfl)) (.n (fun _ => op_len (s := 0) Try.underlying25 (.plain rfl)) (.n (fun _ => op_eql (.plain rfl) (.plain rfl)) (.nil _))))) ?_
  refine awp_cond rfl (fun h => ?_) (fun h => ?_)
  · (try simp only [decide_eq_true_eq, decide_eq_false_iff_not, Bool.and_eq_true, Bool.or_eq_true, Bool.and_eq_false_iff, Bool.or_eq_false_iff, Bool.not_eq_true', Bool.not_eq_false', Bool.not_eq_true, Bool.not_eq_false, Bool.true_eq_false, Bool.false_eq_true] at h); (try simp only [foldK, foldP, foldL] at h)
    have hk0 := h
    refine awp_seq ?_
    refine awp_seq ?_
    refine awp_region rfl (.n (fun _ => op_fieldAddr Try.underlying51 rfl rfl Try.sizeOf3 (.plain rfl)) (.n (fun _ => op_load Try.isAgg3 (.plain rfl)) (.n (fun _ => op_neq (.plain rfl) (.plain rfl)) (.n (fun _ => op_move (.plain rfl)) (.gn rfl rfl (fun hg _ => op_fieldAddr Try.underlying51 rfl rfl Try.sizeOf25 (.plain rfl)) (.gn rfl rfl (fun hg _ => op_load Try.isAgg25 (.opt rfl fun h => h)) (.gn rfl rfl (fun hg _ => op_len (s := 0) Try.underlying25 (.opt rfl fun h => h)) (.gn rfl rfl (fun hg _ => op_fieldAddr Try.underlying24 rfl rfl Try.sizeOf3 (.plain rfl)) (.gn rfl rfl (fun hg _ => op_load Try.isAgg3 (.opt rfl fun h => h)) (.gn rfl rfl (fun hg _ => op_neq (.opt rfl fun h => h) (.opt rfl fun h => h)) (.n (fun _ => op_or (.plain rfl) (.plain rfl) (.plain rfl) (fun h => eqF h)) (.nil _)))))))))))) ?_
    refine awp_cond rfl (fun h => ?_) (fun h => ?_)
    · (try simp only [decide_eq_true_eq, decide_eq_false_iff_not, Bool.and_eq_true, Bool.or_eq_true, Bool.and_eq_false_iff, Bool.or_eq_false_iff, Bool.not_eq_true', Bool.not_eq_false', Bool.not_eq_true, Bool.not_eq_false, Bool.true_eq_false, Bool.false_eq_true] at h); (try simp only [foldK, foldP, foldL] at h)
      refine awp_seq ?_
      refine awp_region rfl (.n (fun _ => op_assign (.plain rfl)) (.nil _)) ?_
      refine awp_ret ?_
      refine retQ.ret ?_
      refine ret1 rfl rfl rfl ?_
      unfold nodeE
      rw [if_pos hk0, leafE_1 (by omega)]
    · (try simp only [decide_eq_true_eq, decide_eq_false_iff_not, Bool.and_eq_true, Bool.or_eq_true, Bool.and_eq_false_iff, Bool.or_eq_false_iff, Bool.not_eq_true', Bool.not_eq_false', Bool.not_eq_true, Bool.not_eq_false, Bool.true_eq_false, Bool.false_eq_true] at h); (try simp only [foldK, foldP, foldL] at h)
      have h1 : ¬ (¬ pl = 0 ∨ ¬ (pay.length : Int) = P) := by omega
      refine awp_skip ?_
      refine awp_seq ?_
      refine awp_seq ?_
      refine awp_region rfl (.n (fun _ => op_fieldAddr Try.underlying51 rfl rfl Try.sizeOf25 (.plain rfl)) (.n (fun _ => op_load Try.isAgg25 (.plain rfl)) (.n (fun _ => op_len (s := 0) Try.underlying25 (.plain rfl)) (.n (fun _ => op_move (.plain rfl)) (.nil _))))) ?_
      refine awp_block ?_
      refine awp_loop (σ := Nat) (fun (k : Nat) => k ≤ pay.length ∧ firstE (payB pay) k = 0) (fun (k : Nat) => ⟨[(28, .pv (.ints pay)), (29, .int (pay.length : Nat)), (30, .int (k : Nat))], []⟩) (fun (k : Nat) => pay.length - k) 0 ?_ (Ent.kept ⟨rfl, rfl, rfl, trivial⟩ trivial) ?_
      · exact ⟨Nat.zero_le _, rfl⟩
      rintro k hp
      try dsimp only at hp
      obtain ⟨hk, hE⟩ := hp
      refine awp_seq ?_
      refine awp_region rfl (.n (fun _ => op_lss (.plain rfl) (.plain rfl)) (.nil _)) ?_
      refine awp_seq ?_
      refine awp_cond rfl (fun h => ?_) (fun h => ?_)
      · (try simp only [decide_eq_true_eq, decide_eq_false_iff_not, Bool.and_eq_true, Bool.or_eq_true, Bool.and_eq_false_iff, Bool.or_eq_false_iff, Bool.not_eq_true', Bool.not_eq_false', Bool.not_eq_true, Bool.not_eq_false, Bool.true_eq_false, Bool.false_eq_true] at h); (try simp only [foldK, foldP, foldL] at h)
        refine awp_skip ?_
        refine awp_seq ?_
        refine awp_block ?_
        refine awp_seq ?_
        refine awp_region rfl (.n (fun _ => op_indexAddrN Try.underlying25 Try.sizeOf3 (.plain rfl) (.plain rfl) (fun _ => rfl) ?_) (.n (fun _ => op_load Try.isAgg3 (.plain rfl)) (.n (fun _ => op_assign (.plain rfl)) (.nil _)))) ?_
        · (try simp only [foldK, foldP, foldL, Int.toNat_natCast])
          omega
        refine awp_seq ?_
        refine awp_region rfl (.n (fun _ => op_move (.plain rfl)) (.n (fun _ => op_lss (.plain rfl) (.plain rfl)) (.n (fun _ => op_move (.plain rfl)) (.gn rfl rfl (fun hg _ => op_move (.plain rfl)) (.gn rfl rfl (fun hg _ => op_gtr (.opt rfl fun h => h) (.plain rfl)) (.n (fun _ => op_or (.plain rfl) (.plain rfl) (.plain rfl) (fun h => eqF h)) (.nil _))))))) ?_
        refine awp_cond rfl (fun h => ?_) (fun h => ?_)
        · (try simp only [decide_eq_true_eq, decide_eq_false_iff_not, Bool.and_eq_true, Bool.or_eq_true, Bool.and_eq_false_iff, Bool.or_eq_false_iff, Bool.not_eq_true', Bool.not_eq_false', Bool.not_eq_true, Bool.not_eq_false, Bool.true_eq_false, Bool.false_eq_true] at h); (try simp only [foldK, foldP, foldL] at h)
          refine awp_seq ?_
          refine awp_region rfl (.n (fun _ => op_assign (.plain rfl)) (.nil _)) ?_
          refine awp_ret ?_
          refine retQ.ret ?_
          refine ret1 rfl rfl rfl ?_
          unfold nodeE
          rw [if_pos hk0, leafE_9 h1 hE (by omega) (by omega)]
        · (try simp only [decide_eq_true_eq, decide_eq_false_iff_not, Bool.and_eq_true, Bool.or_eq_true, Bool.and_eq_false_iff, Bool.or_eq_false_iff, Bool.not_eq_true', Bool.not_eq_false', Bool.not_eq_true, Bool.not_eq_false, Bool.true_eq_false, Bool.false_eq_true] at h); (try simp only [foldK, foldP, foldL] at h)
          refine awp_skip ?_
          refine awp_region rfl (.n (fun _ => op_add (.plain rfl) (.plain rfl) ?_) (.n (fun _ => op_move (.plain rfl)) (.nil _))) ?_
          · (try simp only [foldK, foldP, foldL, Int.toNat_natCast])
            unfold InR; omega
          exact ⟨k + 1, ⟨by omega, firstE_succ hE (if_neg (by omega))⟩, by dsimp only; omega, (Ent.kept ⟨rfl, rfl, rfl, trivial⟩ trivial)⟩
      · (try simp only [decide_eq_true_eq, decide_eq_false_iff_not, Bool.and_eq_true, Bool.or_eq_true, Bool.and_eq_false_iff, Bool.or_eq_false_iff, Bool.not_eq_true', Bool.not_eq_false', Bool.not_eq_true, Bool.not_eq_false, Bool.true_eq_false, Bool.false_eq_true] at h); (try simp only [foldK, foldP, foldL] at h)
        refine awp_exit ?_
        refine awp_seq ?_
        refine awp_region rfl (.n (fun _ => op_assign (.plain rfl)) (.nil _)) ?_
        refine awp_ret ?_
        refine retQ.ret ?_
        refine ret1 rfl rfl rfl ?_
        obtain rfl : k = pay.length := by omega
        unfold nodeE
        rw [if_pos hk0, leafE_f h1, hE]
  · (try simp only [decide_eq_true_eq, decide_eq_false_iff_not, Bool.and_eq_true, Bool.or_eq_true, Bool.and_eq_false_iff, Bool.or_eq_false_iff, Bool.not_eq_true', Bool.not_eq_false', Bool.not_eq_true, Bool.not_eq_false, Bool.true_eq_false, Bool.false_eq_true] at h); (try simp only [foldK, foldP, foldL] at h)
    have hk0 := h
    refine awp_skip ?_
    refine awp_seq ?_
    refine awp_seq ?_
    refine awp_region rfl (.n (fun _ => op_fieldAddr Try.underlying51 rfl rfl Try.sizeOf3 (.plain rfl)) (.n (fun _ => op_load Try.isAgg3 (.plain rfl)) (.n (fun _ => op_lss (.plain rfl) (.plain rfl)) (.n (fun _ => op_move (.plain rfl)) (.gn rfl rfl (fun hg _ => op_fieldAddr Try.underlying51 rfl rfl Try.sizeOf3 (.plain rfl)) (.gn rfl rfl (fun hg _ => op_load Try.isAgg3 (.opt rfl fun h => h)) (.gn rfl rfl (fun hg _ => op_fieldAddr Try.underlying24 rfl rfl Try.sizeOf3 (.plain rfl)) (.gn rfl rfl (fun hg _ => op_load Try.isAgg3 (.opt rfl fun h => h)) (.gn rfl rfl (fun hg _ => op_geq (.opt rfl fun h => h) (.opt rfl fun h => h)) (.n (fun _ => op_or (.plain rfl) (.plain rfl) (.plain rfl) (fun h => eqF h)) (.n (fun _ => op_move (.plain rfl)) (.gn rfl rfl (fun hg _ => op_fieldAddr Try.underlying51 rfl rfl Try.sizeOf25 (.plain rfl)) (.gn rfl rfl (fun hg _ => op_load Try.isAgg25 (.opt rfl fun h => h)) (.gn rfl rfl (fun hg _ => op_len (s := 0) Try.underlying25 (.opt rfl fun h => h)) (.gn rfl rfl (fun hg _ => op_gtr (.opt rfl fun h => h) (.plain rfl)) (.n (fun _ => op_or (.plain rfl) (.plain rfl) (.plain rfl) (fun h => eqF h)) (.n (fun _ => op_move (.plain rfl)) (.gn rfl rfl (fun hg _ => op_fieldAddr Try.underlying51 rfl rfl Try.sizeOf25 (.plain rfl)) (.gn rfl rfl (fun hg _ => op_load Try.isAgg25 (.opt rfl fun h => h)) (.gn rfl rfl (fun hg _ => op_len (s := 0) Try.underlying25 (.opt rfl fun h => h)) (.gn rfl rfl (fun hg _ => op_gtr (.opt rfl fun h => h) (.plain rfl)) (.n (fun _ => op_or (.plain rfl) (.plain rfl) (.plain rfl) (fun h => eqF h)) (.nil _))))))))))))))))))))))) ?_
    refine awp_cond rfl (fun h => ?_) (fun h => ?_)
    · (try simp only [decide_eq_true_eq, decide_eq_false_iff_not, Bool.and_eq_true, Bool.or_eq_true, Bool.and_eq_false_iff, Bool.or_eq_false_iff, Bool.not_eq_true', Bool.not_eq_false', Bool.not_eq_true, Bool.not_eq_false, Bool.true_eq_false, Bool.false_eq_true] at h); (try simp only [foldK, foldP, foldL] at h)
      refine awp_seq ?_
      refine awp_region rfl (.n (fun _ => op_assign (.plain rfl)) (.nil _)) ?_
      refine awp_ret ?_
      refine retQ.ret ?_
      refine ret1 rfl rfl rfl ?_
      unfold nodeE
      rw [if_neg hk0, inE_1 (by omega)]
    · (try simp only [decide_eq_true_eq, decide_eq_false_iff_not, Bool.and_eq_true, Bool.or_eq_true, Bool.and_eq_false_iff, Bool.or_eq_false_iff, Bool.not_eq_true', Bool.not_eq_false', Bool.not_eq_true, Bool.not_eq_false, Bool.true_eq_false, Bool.false_eq_true] at h); (try simp only [foldK, foldP, foldL] at h)
      have h1 : ¬ (((pl < 0 ∨ P ≤ pl) ∨ 0 < (pay.length : Int)) ∨ 5 < (kids.length : Int)) := by omega
      refine awp_skip ?_
      refine awp_seq ?_
      refine awp_region rfl (.n (fun _ => op_move (.plain rfl)) (.n (fun _ => op_assign (.plain rfl)) (.nil _))) ?_
      refine awp_seq ?_
      refine awp_seq ?_
      refine awp_region rfl (.n (fun _ => op_fieldAddr Try.underlying51 rfl rfl Try.sizeOf25 (.plain rfl)) (.n (fun _ => op_load Try.isAgg25 (.plain rfl)) (.n (fun _ => op_len (s := 0) Try.underlying25 (.plain rfl)) (.n (fun _ => op_move (.plain rfl)) (.nil _))))) ?_
      refine awp_block ?_
      refine awp_loop (σ := Nat) (fun (k : Nat) => k ≤ kids.length ∧ firstE (kidB N.length i kids) k = 0) (fun (k : Nat) => ⟨[(3, .pv (.rd [.i P, .seq (Int × List Int × List Int × Unit) (0, [], [], ()) (fun p => [.i p.1, .ints p.2.1, .ints p.2.2.1]) N])), (9, .int (lastF i kids k)), (65, .pv (.ints kids)), (66, .int (kids.length : Nat)), (67, .int (k : Nat))], []⟩) (fun (k : Nat) => kids.length - k) 0 ?_ (Ent.kept ⟨rfl, rfl, rfl, rfl, rfl, trivial⟩ trivial) ?_
      · exact ⟨Nat.zero_le _, rfl⟩
      rintro k hp
      try dsimp only at hp
      obtain ⟨hk, hE⟩ := hp
      refine awp_seq ?_
      refine awp_region rfl (.n (fun _ => op_lss (.plain rfl) (.plain rfl)) (.nil _)) ?_
      refine awp_seq ?_
      refine awp_cond rfl (fun h => ?_) (fun h => ?_)
      · (try simp only [decide_eq_true_eq, decide_eq_false_iff_not, Bool.and_eq_true, Bool.or_eq_true, Bool.and_eq_false_iff, Bool.or_eq_false_iff, Bool.not_eq_true', Bool.not_eq_false', Bool.not_eq_true, Bool.not_eq_false, Bool.true_eq_false, Bool.false_eq_true] at h); (try simp only [foldK, foldP, foldL] at h)
        refine awp_skip ?_
        refine awp_seq ?_
        refine awp_block ?_
        refine awp_seq ?_
        refine awp_region rfl (.n (fun _ => op_indexAddrN Try.underlying25 Try.sizeOf3 (.plain rfl) (.plain rfl) (fun _ => rfl) ?_) (.n (fun _ => op_load Try.isAgg3 (.plain rfl)) (.n (fun _ => op_assign (.plain rfl)) (.nil _)))) ?_
        · (try simp only [foldK, foldP, foldL, Int.toNat_natCast])
          omega
        refine awp_seq ?_
        refine awp_seq ?_
        refine awp_region rfl (.n (fun _ => op_move (.plain rfl)) (.n (fun _ => op_move (.plain rfl)) (.n (fun _ => op_leq (.plain rfl) (.plain rfl)) (.n (fun _ => op_move (.plain rfl)) (.gn rfl rfl (fun hg _ => op_move (.plain rfl)) (.gn rfl rfl (fun hg _ => op_fieldAddr Try.underlying24 rfl rfl Try.sizeOf22 (.plain rfl)) (.gn rfl rfl (fun hg _ => op_load Try.isAgg22 (.opt rfl fun h => h)) (.gn rfl rfl (fun hg _ => op_len (s := 0) Try.underlying22 (.opt rfl fun h => h)) (.gn rfl rfl (fun hg _ => op_geq (.opt rfl fun h => h) (.opt rfl fun h => h)) (.n (fun _ => op_or (.plain rfl) (.plain rfl) (.plain rfl) (fun h => eqF h)) (.nil _))))))))))) ?_
        refine awp_cond rfl (fun h => ?_) (fun h => ?_)
        · (try simp only [decide_eq_true_eq, decide_eq_false_iff_not, Bool.and_eq_true, Bool.or_eq_true, Bool.and_eq_false_iff, Bool.or_eq_false_iff, Bool.not_eq_true', Bool.not_eq_false', Bool.not_eq_true, Bool.not_eq_false, Bool.true_eq_false, Bool.false_eq_true] at h); (try simp only [foldK, foldP, foldL] at h)
          refine awp_seq ?_
          refine awp_region rfl (.n (fun _ => op_assign (.plain rfl)) (.nil _)) ?_
          refine awp_ret ?_
          refine retQ.ret ?_
          refine ret1 rfl rfl rfl ?_
          unfold nodeE
          rw [if_neg hk0, inE_8 h1 hE (by omega) (kid_bad hE (by omega))]
        · (try simp only [decide_eq_true_eq, decide_eq_false_iff_not, Bool.and_eq_true, Bool.or_eq_true, Bool.and_eq_false_iff, Bool.or_eq_false_iff, Bool.not_eq_true', Bool.not_eq_false', Bool.not_eq_true, Bool.not_eq_false, Bool.true_eq_false, Bool.false_eq_true] at h); (try simp only [foldK, foldP, foldL] at h)
          refine awp_skip ?_
          refine awp_region rfl (.n (fun _ => op_move (.plain rfl)) (.n (fun _ => op_assign (.plain rfl)) (.nil _))) ?_
          refine awp_region rfl (.n (fun _ => op_add (.plain rfl) (.plain rfl) ?_) (.n (fun _ => op_move (.plain rfl)) (.nil _))) ?_
          · (try simp only [foldK, foldP, foldL, Int.toNat_natCast])
            unfold InR; omega
          exact ⟨k + 1, ⟨by omega, firstE_succ hE (kid_ok hE (by omega))⟩, by dsimp only; omega, (Ent.kept ⟨rfl, (congrArg (fun n => some (SV.int n)) (last_succ)), rfl, rfl, rfl, trivial⟩ trivial)⟩
      · (try simp only [decide_eq_true_eq, decide_eq_false_iff_not, Bool.and_eq_true, Bool.or_eq_true, Bool.and_eq_false_iff, Bool.or_eq_false_iff, Bool.not_eq_true', Bool.not_eq_false', Bool.not_eq_true, Bool.not_eq_false, Bool.true_eq_false, Bool.false_eq_true] at h); (try simp only [foldK, foldP, foldL] at h)
        refine awp_exit ?_
        refine awp_seq ?_
        refine awp_region rfl (.n (fun _ => op_assign (.plain rfl)) (.nil _)) ?_
        refine awp_ret ?_
        refine retQ.ret ?_
        refine ret1 rfl rfl rfl ?_
        obtain rfl : k = kids.length := by omega
        unfold nodeE
        rw [if_neg hk0, inE_f h1, hE]

end Go.Proofs.Ytamdkclkmijfgaa

