/- What ShareSays says: turns, the table of envy, the most even way. Conditions: each theorem names its own. -/
import Derived.Test.YtfaeiglnhbllnaaProg
import Derived.Test.YtfaeiglnhbllnaaAbsO
import Derived.Test.YtfaeiglnhbllnaaFa
namespace Go.Proofs.Ytfaeiglnhbllnaa
open Go.Abs
set_option linter.unusedVariables false
set_option linter.unusedSimpArgs false


/-! ### Turns -/
/-- The first of n places at which p holds and f is greatest. -/
def mxI (p : Nat → Bool) (f : Nat → Int) : Nat → Int
  | 0 => -1
  | n + 1 => if p n = true ∧ (mxI p f n < 0 ∨ f (mxI p f n).toNat < f n) then (n : Int) else mxI p f n
/-- The same, from the end. -/
def mxD (p : Nat → Bool) (f : Nat → Int) (n : Nat) : Nat → Int
  | 0 => -1
  | c + 1 => if p (n - 1 - c) = true ∧ (mxD p f n c < 0 ∨ f (mxD p f n c).toNat ≤ f (n - 1 - c)) then ((n - 1 - c : Nat) : Int) else mxD p f n c
/-- b is the first of the places from a to n. -/
def IsMx (p : Nat → Bool) (f : Nat → Int) (a n : Nat) (b : Int) : Prop := (b = -1 ∧ ∀ j, a ≤ j → j < n → p j = false) ∨ ((a : Int) ≤ b ∧ b < n ∧ p b.toNat = true ∧ ∀ j, a ≤ j → j < n → p j = true → f j ≤ f b.toNat ∧ ((j : Int) < b → f j < f b.toNat))
theorem mxI_is (p : Nat → Bool) (f : Nat → Int) : ∀ n, IsMx p f 0 n (mxI p f n)
  | 0 => .inl ⟨rfl, fun j _ hj => by omega⟩
  | n + 1 => by
    have ih := mxI_is p f n
    unfold mxI
    split
    · rename_i h
      refine .inr ⟨by omega, by omega, by simpa using h.1, fun j _ hj hp => ?_⟩
      rw [Int.toNat_natCast]
      by_cases e : j = n
      · subst e; exact ⟨by omega, by omega⟩
      · rcases ih with ⟨h1, h2⟩ | ⟨h1, h2, h3, h4⟩
        · rw [h2 j (by omega) (by omega)] at hp; cases hp
        · have := h4 j (by omega) (by omega) hp
          rcases h.2 with h5 | h5
          · omega
          · exact ⟨by omega, fun _ => by omega⟩
    · rename_i h
      rcases ih with ⟨h1, h2⟩ | ⟨h1, h2, h3, h4⟩
      · refine .inl ⟨h1, fun j h5 hj => ?_⟩
        by_cases e : j = n
        · subst e
          cases hp : p j with
          | false => rfl
          | true => exact absurd ⟨hp, .inl (by omega)⟩ h
        · exact h2 j h5 (by omega)
      · refine .inr ⟨h1, by omega, h3, fun j h5 hj hp => ?_⟩
        by_cases e : j = n
        · subst e
          have : ¬ f (mxI p f j).toNat < f j := fun c => h ⟨hp, .inr c⟩
          exact ⟨by omega, by omega⟩
        · exact h4 j h5 (by omega) hp
theorem mxD_is (p : Nat → Bool) (f : Nat → Int) (n : Nat) : ∀ c, c ≤ n → IsMx p f (n - c) n (mxD p f n c)
  | 0, _ => .inl ⟨rfl, fun j h1 h2 => by omega⟩
  | c + 1, hc => by
    have ih := mxD_is p f n c (by omega)
    unfold mxD
    split
    · rename_i h
      refine .inr ⟨by omega, by omega, by rw [Int.toNat_natCast]; exact h.1, fun j h5 hj hp => ?_⟩
      rw [Int.toNat_natCast]
      by_cases e : j = n - 1 - c
      · subst e; exact ⟨by omega, by omega⟩
      · rcases ih with ⟨h1, h2⟩ | ⟨h1, h2, h3, h4⟩
        · rw [h2 j (by omega) (by omega)] at hp; cases hp
        · have := h4 j (by omega) (by omega) hp
          rcases h.2 with h6 | h6
          · omega
          · exact ⟨by omega, by omega⟩
    · rename_i h
      rcases ih with ⟨h1, h2⟩ | ⟨h1, h2, h3, h4⟩
      · refine .inl ⟨h1, fun j h5 hj => ?_⟩
        by_cases e : j = n - 1 - c
        · subst e
          cases hp : p (n - 1 - c) with
          | false => rfl
          | true => exact absurd ⟨hp, .inl (by omega)⟩ h
        · exact h2 j (by omega) (by omega)
      · refine .inr ⟨by omega, by omega, h3, fun j h5 hj hp => ?_⟩
        by_cases e : j = n - 1 - c
        · subst e
          have : ¬ f (mxD p f n c).toNat ≤ f (n - 1 - c) := fun c => h ⟨hp, .inr c⟩
          exact ⟨by omega, by omega⟩
        · exact h4 j (by omega) hj hp
theorem mx_one {p : Nat → Bool} {f : Nat → Int} {a n : Nat} {b c : Int} (h : IsMx p f a n b) (h' : IsMx p f a n c) : b = c := by
  rcases h with ⟨h1, h2⟩ | ⟨h1, h2, h3, h4⟩ <;> rcases h' with ⟨g1, g2⟩ | ⟨g1, g2, g3, g4⟩
  · omega
  · have := h2 c.toNat (by omega) (by omega); rw [g3] at this; cases this
  · have := g2 b.toNat (by omega) (by omega); rw [h3] at this; cases this
  · have h5 := h4 c.toNat (by omega) (by omega) g3
    have h6 := g4 b.toNat (by omega) (by omega) h3
    rcases Int.lt_trichotomy b c with h7 | h7 | h7
    · have := h6.2 (by omega); omega
    · exact h7
    · have := h5.2 (by omega); omega
theorem mxD_eq (p : Nat → Bool) (f : Nat → Int) (n : Nat) : mxD p f n n = mxI p f n := by
  have h1 := mxD_is p f n n (Nat.le_refl _)
  rw [Nat.sub_self] at h1
  exact mx_one h1 (mxI_is p f n)
def frB (give : List Int) (g : Nat) : Bool := decide (give.getD g 0 < 0)
def rowF (v : List (List Int)) (who : Nat) (g : Nat) : Int := (v.getD who []).getD g 0
def bestT (v : List (List Int)) (give : List Int) (who : Nat) : Int := mxI (frB give) (rowF v who) (mL v)
def turnS (v : List (List Int)) : Nat → List Int
  | 0 => mapr (mL v) fun _ => -1
  | k + 1 => (turnS v k).set (bestT v (turnS v k) (k % v.length)).toNat ((k % v.length : Nat) : Int)
@[simp] theorem turnS_length (v : List (List Int)) : ∀ k, (turnS v k).length = mL v
  | 0 => by simp [turnS]
  | k + 1 => by simp [turnS, turnS_length v k]
theorem countP_set_le {l : List Int} {p : Int → Bool} : ∀ {i : Nat} {a : Int}, (l.set i a).countP p ≤ l.countP p + 1 := by
  induction l with
  | nil => intro i a; simp
  | cons x l ih =>
    intro i a
    cases i with
    | zero => simp only [List.set_cons_zero, List.countP_cons]; split <;> split <;> omega
    | succ i => simp only [List.set_cons_succ, List.countP_cons]; have := ih (i := i) (a := a); omega
theorem turnS_count (v : List (List Int)) : ∀ k, (turnS v k).countP (fun x => decide (0 ≤ x)) ≤ k
  | 0 => by
    have : (turnS v 0).countP (fun x => decide (0 ≤ x)) = 0 := by
      rw [List.countP_eq_zero]; intro x hx; simp [turnS, mapr] at hx; simp [← hx.2]
    omega
  | k + 1 => by
    have h1 := turnS_count v k
    have h2 := countP_set_le (l := turnS v k) (p := fun x => decide (0 ≤ x)) (i := (bestT v (turnS v k) (k % v.length)).toNat) (a := ((k % v.length : Nat) : Int))
    unfold turnS; omega
theorem bestT_in {v : List (List Int)} {k : Nat} (hk : k < mL v) (who : Nat) : 0 ≤ bestT v (turnS v k) who ∧ bestT v (turnS v k) who < (mL v : Nat) := by
  rcases mxI_is (frB (turnS v k)) (rowF v who) (mL v) with ⟨h1, h2⟩ | ⟨h1, h2, _⟩
  · exfalso
    have hall : (turnS v k).countP (fun x => decide (0 ≤ x)) = (turnS v k).length := by
      rw [List.countP_eq_length]
      intro x hx
      obtain ⟨j, hj, e⟩ := List.getElem_of_mem hx
      have := h2 j (by omega) (by simpa using hj)
      unfold frB at this
      simp only [List.getD_eq_getElem?_getD, List.getElem?_eq_getElem hj, Option.getD_some, e, decide_eq_false_iff_not] at this
      simpa using this
    have := turnS_count v k
    rw [turnS_length] at hall
    omega
  · exact ⟨by unfold bestT; omega, h2⟩
def turnsRes (v : List (List Int)) : List Int := if mayE v = 0 then turnS v (mL v) else []
/-! ### Envy -/
def mostTo (v : List (List Int)) (give : List Int) (i k : Nat) : Nat → Int
  | 0 => 0
  | g + 1 => if give.getD g 0 = (k : Int) then max (mostTo v give i k g) ((v.getD i []).getD g 0) else mostTo v give i k g
theorem less_most {v : List (List Int)} {give : List Int} {i k : Nat} : ∀ g, lessTo v give i k g = hasF v give i k - mostTo v give i k g
  | 0 => by simp [lessTo, mostTo]
  | g + 1 => by
    have ih := less_most (v := v) (give := give) (i := i) (k := k) g
    unfold lessTo mostTo
    by_cases h : give.getD g 0 = (k : Int)
    · by_cases h2 : hasF v give i k - (v.getD i []).getD g 0 < lessTo v give i k g
      · rw [if_pos ⟨h, h2⟩, if_pos h]; omega
      · rw [if_neg (fun c => h2 c.2), if_pos h]; omega
    · rw [if_neg (fun c => h c.1), if_neg h]; exact ih
theorem envP0 {v : List (List Int)} {give : List Int} {i k : Nat} (h : (k : Int) = i ∨ hasF v give i k ≤ hasF v give i i) : 0 = envF v give i k := by
  have h1 := (lessTo_le (v := v) (give := give) (i := i) (k := k) give.length).1
  unfold envF
  by_cases e : (i : Int) = k
  · rw [if_pos e]
  · rw [if_neg e, if_neg (by omega), if_neg (by omega)]
theorem envP1 {v : List (List Int)} {give : List Int} {i k : Nat} (h : ¬ ((k : Int) = i ∨ hasF v give i k ≤ hasF v give i i)) (h' : hasF v give i k - mostTo v give i k give.length ≤ hasF v give i i) : 1 = envF v give i k := by
  have h1 := less_most (v := v) (give := give) (i := i) (k := k) give.length
  unfold envF
  rw [if_neg (by omega), if_neg (by omega), if_pos (by omega)]
theorem envP2 {v : List (List Int)} {give : List Int} {i k : Nat} (h : ¬ ((k : Int) = i ∨ hasF v give i k ≤ hasF v give i i)) (h' : ¬ hasF v give i k - mostTo v give i k give.length ≤ hasF v give i i) : 2 = envF v give i k := by
  have h1 := less_most (v := v) (give := give) (i := i) (k := k) give.length
  unfold envF
  rw [if_neg (by omega), if_pos (by omega)]
def giB (v : List (List Int)) (give : List Int) (j : Nat) : Int := if give.getD j 0 < -1 ∨ (v.length : Int) ≤ give.getD j 0 then 8 else 0
def giftE (v : List (List Int)) (give : List Int) : Int := if mayE v ≠ 0 then mayE v else if ¬ (give.length : Int) = (mL v : Nat) then 7 else firstE (giB v give) give.length
theorem giftE_m {v : List (List Int)} {give : List Int} (h : ¬ mayE v = 0) : giftE v give = mayE v := if_pos h
theorem giftE_7 {v : List (List Int)} {give : List Int} (h : mayE v = 0) (h' : ¬ (give.length : Int) = (mL v : Nat)) : giftE v give = 7 := by unfold giftE; rw [if_neg (fun c => c h), if_pos h']
theorem giftE_f {v : List (List Int)} {give : List Int} (h : mayE v = 0) (h' : (give.length : Int) = (mL v : Nat)) : giftE v give = firstE (giB v give) give.length := by unfold giftE; rw [if_neg (fun c => c h), if_neg (fun c => c h')]
theorem giftE_8 {v : List (List Int)} {give : List Int} (h : mayE v = 0) (h' : (give.length : Int) = (mL v : Nat)) {j : Nat} (hE : firstE (giB v give) j = 0) (hj : (j : Int) < give.length) (hb : give.getD j 0 < -1 ∨ (v.length : Int) ≤ give.getD j 0) : giftE v give = 8 := by
  rw [giftE_f h h']; exact firstE_stop hE (if_pos hb) (by omega) (by omega)
theorem giftE_0 {v : List (List Int)} {give : List Int} (h : mayE v = 0) (h' : (give.length : Int) = (mL v : Nat)) {j : Nat} (hE : firstE (giB v give) j = 0) (hk : j ≤ give.length) (hj : ¬ (j : Int) < give.length) : giftE v give = 0 := by
  obtain rfl : j = give.length := by omega
  rw [giftE_f h h']; exact hE
def envyRes (v : List (List Int)) (give : List Int) : List (List Int) := if giftE v give = 0 then envT v give else []
theorem gift_ok {v : List (List Int)} {give : List Int} (h : giftE v give = 0) : mayE v = 0 ∧ give.length = mL v ∧ ∀ j, j < give.length → -1 ≤ give.getD j 0 ∧ give.getD j 0 < (v.length : Int) := by
  unfold giftE at h
  split at h
  · rename_i h1; exact absurd h h1
  · rename_i h1
    have h1 : mayE v = 0 := Classical.not_not.1 h1
    split at h
    · omega
    · rename_i h2
      refine ⟨h1, by omega, fun j hj => ?_⟩
      have := firstE_zero h j hj
      unfold giB at this
      split at this <;> omega
/-! ### Levels -/
def lvTo (v : List (List Int)) (give : List Int) : Nat → Int × Int
  | 0 => (0, 1)
  | i + 1 => if 0 < hasF v give (i : Nat) (i : Nat) then ((lvTo v give i).1 + 1, (lvTo v give i).2 * hasF v give (i : Nat) (i : Nat)) else lvTo v give i
def lv (v : List (List Int)) (give : List Int) : Int × Int := lvTo v give v.length
theorem lvTo_bd {v : List (List Int)} (hV : Val v) {give : List Int} (hg : give.length = mL v) : ∀ i, i ≤ v.length → 0 ≤ (lvTo v give i).1 ∧ (lvTo v give i).1 ≤ i ∧ 1 ≤ (lvTo v give i).2 ∧ (lvTo v give i).2 ≤ 8000 ^ i
  | 0, _ => by simp [lvTo]
  | i + 1, hi => by
    obtain ⟨h1, h2, h3, h4⟩ := lvTo_bd hV hg i (by omega)
    have hb := hasF_bd hV hg (who := (i : Nat)) (other := (i : Nat)) (by omega)
    unfold lvTo
    split
    · rename_i h
      refine ⟨by dsimp only; omega, by dsimp only; omega, ?_, ?_⟩
      · show 1 ≤ (lvTo v give i).2 * hasF v give i i
        have := Int.mul_le_mul h3 (show 1 ≤ hasF v give i i by omega) (by omega) (by omega)
        omega
      · show (lvTo v give i).2 * hasF v give i i ≤ 8000 ^ (i + 1)
        rw [Int.pow_succ]
        exact Int.mul_le_mul h4 hb.2 hb.1 (by have : (0 : Int) < 8000 ^ i := Int.pow_pos (by omega); omega)
    · refine ⟨h1, by omega, h3, ?_⟩
      rw [Int.pow_succ]; have : (0 : Int) < 8000 ^ i := Int.pow_pos (by omega); omega
theorem pow8000 {i : Nat} (h : i ≤ 4) : (8000 : Int) ^ i ≤ 4096000000000000 := by
  match i, h with
  | 0, _ => decide
  | 1, _ => decide
  | 2, _ => decide
  | 3, _ => decide
  | 4, _ => decide
theorem lvMul_bd {v : List (List Int)} (hV : Val v) {give : List Int} (hg : give.length = mL v) {i : Nat} (hi : i < v.length) : InR ((lvTo v give i).2 * hasF v give (i : Nat) (i : Nat)) := by
  obtain ⟨h1, h2, h3, h4⟩ := lvTo_bd hV hg i (by omega)
  have hb := hasF_bd hV hg (who := (i : Nat)) (other := (i : Nat)) (by omega)
  have hp := pow8000 (i := i) (by have := hV.n4; omega)
  have h5 := Int.mul_le_mul (show (lvTo v give i).2 ≤ 4096000000000000 by omega) hb.2 hb.1 (by omega)
  have h6 := Int.mul_nonneg (show 0 ≤ (lvTo v give i).2 by omega) hb.1
  have h7 : (4096000000000000 : Int) * 8000 = 32768000000000000000 := by decide
  unfold InR
  by_cases e : i ≤ 3
  · have hp3 : (8000 : Int) ^ i ≤ 512000000000 := by
      match i, e with
      | 0, _ => decide
      | 1, _ => decide
      | 2, _ => decide
      | 3, _ => decide
    have h8 := Int.mul_le_mul (show (lvTo v give i).2 ≤ 512000000000 by omega) hb.2 hb.1 (by omega)
    omega
  · have := hV.n4; omega
def below (a b : Int × Int) : Bool := decide (a.1 < b.1) || (decide (a.1 = b.1) && decide (a.2 < b.2))
theorem below_iff {a b : Int × Int} : below a b = true ↔ a.1 < b.1 ∨ (a.1 = b.1 ∧ a.2 < b.2) := by simp [below]
/-! ### The first of the best -/
section
variable (v : List (List Int))
def bstep (acc : Option (List Int)) (x : List Int) : Option (List Int) := match acc with
  | none => some x
  | some b => if below (lv v b) (lv v x) = true then some x else some b
def bestL (L : List (List Int)) : Option (List Int) := L.foldl (bstep v) none
theorem bstep_assoc (acc : Option (List Int)) (b y : List Int) : bstep v (bstep v acc b) y = match bstep v (some b) y with | none => acc | some z => bstep v acc z := by
  cases acc with
  | none => simp only [bstep]; split <;> rfl
  | some a =>
    simp only [bstep]
    have h := @below_iff (lv v a) (lv v b)
    have h2 := @below_iff (lv v b) (lv v y)
    have h3 := @below_iff (lv v a) (lv v y)
    cases e1 : below (lv v a) (lv v b) <;> cases e2 : below (lv v b) (lv v y) <;> cases e3 : below (lv v a) (lv v y) <;> simp only [e1, e2, e3, Bool.false_eq_true, true_iff, false_iff, if_true, if_false] at h h2 h3 ⊢ <;> omega
theorem foldl_best : ∀ (B : List (List Int)) (acc : Option (List Int)), B.foldl (bstep v) acc = match bestL v B with | none => acc | some y => bstep v acc y
  | [], acc => rfl
  | b :: B, acc => by
    have h1 := foldl_best B (bstep v acc b)
    have h2 := foldl_best B (some b)
    have e : bestL v (b :: B) = B.foldl (bstep v) (some b) := rfl
    rw [List.foldl_cons, e, h1, h2]
    cases hB : bestL v B with
    | none => rfl
    | some y =>
      simp only
      rw [bstep_assoc]
theorem bestL_append (A B : List (List Int)) : bestL v (A ++ B) = match bestL v B with | none => bestL v A | some y => bstep v (bestL v A) y := by
  unfold bestL; rw [List.foldl_append]; exact foldl_best v B _
theorem bestL_snoc (A : List (List Int)) (x : List Int) : bestL v (A ++ [x]) = bstep v (bestL v A) x := by rw [bestL_append]; rfl
/-- The most even way to give r more goods. -/
def evR : Nat → List Int → List Int
  | 0, p => p
  | r + 1, p => ((List.range v.length).foldl (fun acc (i : Nat) => bstep v acc (evR r (p ++ [(i : Int)]))) none).getD []
def evAcc (r : Nat) (p : List Int) (i : Nat) : Option (List Int) := (List.range i).foldl (fun acc (i : Nat) => bstep v acc (evR v r (p ++ [(i : Int)]))) none
theorem evAcc_succ (r : Nat) (p : List Int) (i : Nat) : evAcc v r p (i + 1) = bstep v (evAcc v r p i) (evR v r (p ++ [(i : Int)])) := by simp [evAcc, List.range_succ]
def cmpW (g : Nat) : Nat → List Int → List (List Int)
  | 0, p => [p]
  | r + 1, p => (List.range g).flatMap fun (i : Nat) => cmpW g r (p ++ [(i : Int)])
theorem bstep_some (acc : Option (List Int)) (x : List Int) : ∃ y, bstep v acc x = some y := by
  cases acc with
  | none => exact ⟨x, rfl⟩
  | some b => simp only [bstep]; split <;> exact ⟨_, rfl⟩
theorem evR_best (hn : 1 ≤ v.length) : ∀ (r : Nat) (p : List Int), bestL v (cmpW v.length r p) = some (evR v r p)
  | 0, p => rfl
  | r + 1, p => by
    have key : ∀ i, bestL v ((List.range i).flatMap fun (i : Nat) => cmpW v.length r (p ++ [(i : Int)])) = evAcc v r p i := by
      intro i
      induction i with
      | zero => rfl
      | succ i ih =>
        rw [List.range_succ, List.flatMap_append, bestL_append, ih, evAcc_succ]
        simp only [List.flatMap_cons, List.flatMap_nil, List.append_nil]
        rw [evR_best hn r]
    have h1 := key v.length
    show bestL v ((List.range v.length).flatMap _) = some ((evAcc v r p v.length).getD [])
    rw [h1]
    obtain ⟨m, hm⟩ : ∃ m, v.length = m + 1 := ⟨v.length - 1, by omega⟩
    rw [hm, evAcc_succ]
    obtain ⟨y, hy⟩ := bstep_some v (evAcc v r p m) (evR v r (p ++ [(m : Int)]))
    rw [hy]; rfl
theorem evR_len : ∀ (r : Nat) (p : List Int), 1 ≤ v.length → (evR v r p).length = p.length + r
  | 0, p, _ => rfl
  | r + 1, p, hn => by
    have key : ∀ i y, evAcc v r p i = some y → y.length = p.length + (r + 1) := by
      intro i
      induction i with
      | zero => intro y hy; cases hy
      | succ i ih =>
        intro y hy
        rw [evAcc_succ] at hy
        have h0 : (evR v r (p ++ [(i : Int)])).length = p.length + (r + 1) := by rw [evR_len r _ hn]; simp; omega
        cases ha : evAcc v r p i with
        | none => rw [ha] at hy; simp only [bstep, Option.some.injEq] at hy; rw [← hy]; exact h0
        | some b =>
          rw [ha] at hy
          simp only [bstep] at hy
          split at hy
          · simp only [Option.some.injEq] at hy; rw [← hy]; exact h0
          · simp only [Option.some.injEq] at hy; rw [← hy]; exact ih b ha
    obtain ⟨m, hm⟩ : ∃ m, v.length = m + 1 := ⟨v.length - 1, by omega⟩
    obtain ⟨y, hy⟩ := bstep_some v (evAcc v r p m) (evR v r (p ++ [(m : Int)]))
    show ((evAcc v r p v.length).getD []).length = _
    rw [hm, evAcc_succ, hy]
    exact key (m + 1) y (by rw [evAcc_succ, hy])
end
/-! ### All ways, one by one -/
def wayN (g : Nat) : Nat → Nat → List Int
  | 0, _ => []
  | m + 1, k => ((k / g ^ m : Nat) : Int) :: wayN g m (k % g ^ m)
@[simp] theorem wayN_length (g : Nat) : ∀ m k, (wayN g m k).length = m
  | 0, _ => rfl
  | m + 1, k => by simp [wayN, wayN_length g m]
theorem wayN_zero (g : Nat) : ∀ m, wayN g m 0 = List.replicate m 0
  | 0 => rfl
  | m + 1 => by simp [wayN, wayN_zero g m, List.replicate_succ]
theorem pow_pos_of {g m k : Nat} (hk : k < g ^ (m + 1)) : 0 < g ^ m := by
  rcases Nat.eq_zero_or_pos (g ^ m) with h | h
  · rw [Nat.pow_succ, h] at hk; omega
  · exact h
theorem div_lt_of {g m k : Nat} (hk : k < g ^ (m + 1)) : k / g ^ m < g := by
  rw [Nat.div_lt_iff_lt_mul (pow_pos_of hk), Nat.mul_comm, ← Nat.pow_succ]; exact hk
theorem wayN_in {g : Nat} : ∀ {m k : Nat}, k < g ^ m → ∀ j, j < m → 0 ≤ (wayN g m k).getD j 0 ∧ (wayN g m k).getD j 0 < (g : Int)
  | m + 1, k, hk, j, hj => by
    have hg := pow_pos_of hk
    have hq := div_lt_of hk
    have ih := fun j hj => wayN_in (g := g) (m := m) (k := k % g ^ m) (Nat.mod_lt _ hg) j hj
    have e : wayN g (m + 1) k = ((k / g ^ m : Nat) : Int) :: wayN g m (k % g ^ m) := rfl
    rw [e]
    generalize k / g ^ m = q at *
    cases j with
    | zero => show 0 ≤ (q : Int) ∧ (q : Int) < g; omega
    | succ j => exact ih j (by omega)
/-- The next way: the last place that isn't at its end goes on, what is behind it begins anew. -/
theorem wayN_next {g : Nat} : ∀ {m k s : Nat}, k < g ^ m → s ≤ m → (∀ j, m - s ≤ j → j < m → (wayN g m k).getD j 0 = (g : Int) - 1) →
    (s = m → k + 1 = g ^ m) ∧ (s < m → (wayN g m k).getD (m - 1 - s) 0 ≠ (g : Int) - 1 → k + 1 < g ^ m ∧ wayN g m (k + 1) = (wayN g m k).take (m - 1 - s) ++ ((wayN g m k).getD (m - 1 - s) 0 + 1) :: List.replicate s 0)
  | 0, k, s, hk, hs, _ => ⟨fun _ => by simp at hk; subst hk; rfl, fun h => by omega⟩
  | m + 1, k, s, hk, hs, hall => by
    have hg := pow_pos_of hk
    have hq := div_lt_of hk
    have hr := Nat.mod_lt k hg
    have hdm := Nat.div_add_mod k (g ^ m)
    have hpow : g ^ (m + 1) = g ^ m * g := Nat.pow_succ ..
    have e : wayN g (m + 1) k = ((k / g ^ m : Nat) : Int) :: wayN g m (k % g ^ m) := rfl
    have e1 : wayN g (m + 1) (k + 1) = (((k + 1) / g ^ m : Nat) : Int) :: wayN g m ((k + 1) % g ^ m) := rfl
    have ih1 := fun s => wayN_next (g := g) (m := m) (k := k % g ^ m) (s := s) hr
    rw [e] at hall ⊢
    rw [e1]
    generalize hqe : k / g ^ m = q at *
    generalize hre : k % g ^ m = r at *
    rw [hpow] at hk ⊢
    have htl : ∀ j, m - s ≤ j → j < m → (wayN g m r).getD j 0 = (g : Int) - 1 := fun j h1 h2 => by
      have := hall (j + 1) (by omega) (by omega)
      exact this
    refine ⟨fun e => ?_, fun hlt hne => ?_⟩
    · subst e
      have ih := (ih1 m (Nat.le_refl _) fun j h1 h2 => htl j (by omega) h2).1 rfl
      have h0 : (q : Int) = (g : Int) - 1 := hall 0 (by omega) (by omega)
      have : g ^ m * q + g ^ m = g ^ m * g := by rw [← Nat.mul_succ, show q.succ = g by omega]
      omega
    · by_cases hsm : s = m
      · subst hsm
        have ih := (ih1 s (Nat.le_refl _) fun j h1 h2 => htl j (by omega) h2).1 rfl
        have hne0 : (q : Int) ≠ (g : Int) - 1 := by
          have e0 : s + 1 - 1 - s = 0 := by omega
          rw [e0] at hne; exact hne
        have hk1 : k + 1 = g ^ s * (q + 1) := by rw [Nat.mul_succ]; omega
        refine ⟨by rw [hk1]; exact Nat.mul_lt_mul_of_pos_left (by omega) hg, ?_⟩
        have hd : (k + 1) / g ^ s = q + 1 := by rw [hk1, Nat.mul_div_cancel_left _ hg]
        have hm : (k + 1) % g ^ s = 0 := by rw [hk1, Nat.mul_mod_right]
        have e0 : s + 1 - 1 - s = 0 := by omega
        rw [hd, hm, wayN_zero, e0]
        show _ = ((q : Int) + 1) :: List.replicate s 0
        rw [Int.natCast_succ]
      · have e0 : m + 1 - 1 - s = (m - 1 - s) + 1 := by omega
        rw [e0] at hne ⊢
        have ih := (ih1 s (by omega) htl).2 (by omega) hne
        have hk1 : k + 1 = g ^ m * q + (r + 1) := by omega
        have hd : (k + 1) / g ^ m = q := by rw [hk1, Nat.mul_add_div hg, Nat.div_eq_of_lt ih.1]; rfl
        have hm : (k + 1) % g ^ m = r + 1 := by rw [hk1, Nat.mul_add_mod, Nat.mod_eq_of_lt ih.1]
        refine ⟨?_, ?_⟩
        · have : g ^ m * (q + 1) ≤ g ^ m * g := Nat.mul_le_mul_left _ (by omega)
          rw [Nat.mul_succ] at this; omega
        · rw [hd, hm, ih.2]; rfl
theorem range_mul {α : Type} (F : Nat → Nat → α) (b : Nat) (hb : 0 < b) : ∀ a, ((List.range a).flatMap fun i => (List.range b).map (F i)) = (List.range (a * b)).map fun k => F (k / b) (k % b)
  | 0 => by simp
  | a + 1 => by
    rw [List.range_succ, List.flatMap_append, range_mul F b hb a, Nat.add_mul, Nat.one_mul, List.range_add, List.map_append]
    congr 1
    simp only [List.flatMap_cons, List.flatMap_nil, List.append_nil, List.map_map]
    refine List.map_congr_left fun j hj => ?_
    have hj := List.mem_range.1 hj
    simp only [Function.comp]
    rw [show a * b + j = b * a + j by rw [Nat.mul_comm], Nat.mul_add_div hb, Nat.div_eq_of_lt hj, Nat.mul_add_mod, Nat.mod_eq_of_lt hj, Nat.add_zero]
theorem cmpW_eq (g : Nat) (hg : 0 < g) : ∀ (r : Nat) (p : List Int), cmpW g r p = mapr (g ^ r) fun k => p ++ wayN g r k
  | 0, p => by simp [cmpW, mapr, wayN]
  | r + 1, p => by
    have hpos := Nat.pow_pos (n := r) hg
    have h1 : cmpW g (r + 1) p = (List.range g).flatMap fun i => (List.range (g ^ r)).map fun k => p ++ ((i : Nat) : Int) :: wayN g r k := by
      unfold cmpW
      congr 1
      funext i
      rw [cmpW_eq g hg r]
      unfold mapr
      refine List.map_congr_left fun k _ => ?_
      simp
    rw [h1, range_mul (fun i k => p ++ ((i : Nat) : Int) :: wayN g r k) _ hpos, Nat.pow_succ, Nat.mul_comm]
    rfl
/-- What is the best of the first k ways. -/
def bW (v : List (List Int)) (k : Nat) : Option (List Int) := bestL v (mapr k (wayN v.length (mL v)))
theorem bW_succ (v : List (List Int)) (k : Nat) : bW v (k + 1) = bstep v (bW v k) (wayN v.length (mL v) k) := by unfold bW; rw [mapr_succ, bestL_snoc]
theorem bW_all {v : List (List Int)} (hn : 1 ≤ v.length) : bW v (v.length ^ mL v) = some (evR v (mL v) []) := by
  have := evR_best v hn (mL v) []
  rw [cmpW_eq v.length (by omega)] at this
  simpa [bW] using this
theorem bW_some {v : List (List Int)} {k : Nat} (h : 0 < k) : ∃ b, bW v k = some b := by
  obtain ⟨m, rfl⟩ : ∃ m, k = m + 1 := ⟨k - 1, by omega⟩
  rw [bW_succ]; exact bstep_some v _ _
def bP (v : List (List Int)) (k : Nat) : PV := match bW v k with | none => .nil | some b => .ints b
def mP (v : List (List Int)) (k : Nat) : Int × Int := match bW v k with | none => (0, 0) | some b => lv v b
theorem bW_len {v : List (List Int)} : ∀ {k : Nat} {b : List Int}, bW v k = some b → b.length = mL v
  | 0, b, h => by cases h
  | k + 1, b, h => by
    rw [bW_succ] at h
    cases ha : bW v k with
    | none => rw [ha] at h; simp only [bstep, Option.some.injEq] at h; rw [← h]; simp
    | some a =>
      rw [ha] at h
      simp only [bstep] at h
      split at h
      · simp only [Option.some.injEq] at h; rw [← h]; simp
      · simp only [Option.some.injEq] at h; rw [← h]; exact bW_len ha
theorem bP_nil {v : List (List Int)} {k : Nat} (hk : k < v.length ^ mL v) : (decide (k = 0) = true ∧ bP v k = .nil) ∨ (decide (k = 0) = false ∧ ∃ (α : Type) (d : α) (f : α → List PV), ∃ l : List α, bP v k = .seq α d f l ∧ l ≠ []) := by
  by_cases h : k = 0
  · subst h; exact .inl ⟨rfl, rfl⟩
  · obtain ⟨b, hb⟩ := bW_some (v := v) (k := k) (by omega)
    refine .inr ⟨decide_eq_false h, Int, 0, _, b, by unfold bP; rw [hb], fun c => ?_⟩
    have h1 := bW_len hb
    rw [c] at h1
    have h2 : mL v = 0 := by simpa using h1.symm
    rw [h2] at hk
    simp at hk; omega
theorem take_yes {v : List (List Int)} {k : Nat} (h : k = 0 ∨ below (mP v k) (lv v (wayN v.length (mL v) k)) = true) : bW v (k + 1) = some (wayN v.length (mL v) k) := by
  rw [bW_succ]
  cases e : bW v k with
  | none => rfl
  | some b =>
    have : 0 < k := by
      rcases Nat.eq_zero_or_pos k with h0 | h0
      · subst h0; cases e
      · exact h0
    rcases h with h | h
    · omega
    · unfold mP at h; rw [e] at h
      simp only [bstep]
      rw [if_pos h]
theorem take_no {v : List (List Int)} {k : Nat} (h : ¬ k = 0) (h' : below (mP v k) (lv v (wayN v.length (mL v) k)) = false) : bW v (k + 1) = bW v k := by
  rw [bW_succ]
  obtain ⟨b, hb⟩ := bW_some (v := v) (k := k) (by omega)
  unfold mP at h'; rw [hb] at h' ⊢
  simp only [bstep]
  rw [if_neg (by rw [h']; simp)]
def evenRes (v : List (List Int)) : List Int := if mayE v = 0 then evR v (mL v) [] else []

end Go.Proofs.Ytfaeiglnhbllnaa

