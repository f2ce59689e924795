/- Nobody would rather have what another one has, but for one good: of turns, and of the most even way; nothing is better than that for one and worse for nobody. Conditions: each theorem names its own. -/
import Derived.Test.YtfaeiglnhbllnaaProg
import Derived.Test.YtfaeiglnhbllnaaFd
namespace Go.Proofs.Ytfaeiglnhbllnaa
open Go.Abs
set_option linter.unusedVariables false
set_option linter.unusedSimpArgs false


section turns
variable {v : List (List Int)}
def turnN (v : List (List Int)) (t : Nat) : Nat := (bestT v (turnS v t) (t % v.length)).toNat
theorem turnN_at {t : Nat} (ht : t < mL v) : bestT v (turnS v t) (t % v.length) = (turnN v t : Nat) ∧ turnN v t < mL v ∧ (turnS v t).getD (turnN v t) 0 < 0 := by
  have h := bestT_in ht (t % v.length)
  refine ⟨by unfold turnN; omega, by unfold turnN; omega, ?_⟩
  rcases mxI_is (frB (turnS v t)) (rowF v (t % v.length)) (mL v) with ⟨h1, _⟩ | ⟨_, _, h3, _⟩
  · unfold bestT at h; omega
  · exact of_decide_eq_true h3
theorem turnS_step {t : Nat} (ht : t < mL v) (j : Nat) : (turnS v (t + 1)).getD j 0 = if j = turnN v t then ((t % v.length : Nat) : Int) else (turnS v t).getD j 0 := by
  show ((turnS v t).set (turnN v t) _).getD j 0 = _
  exact getD_set _ (by rw [turnS_length]; exact (turnN_at ht).2.1) j
theorem turnS_val : ∀ {t : Nat}, t ≤ mL v → ∀ j, j < mL v → 1 ≤ v.length → (turnS v t).getD j 0 = -1 ∨ (0 ≤ (turnS v t).getD j 0 ∧ (turnS v t).getD j 0 < v.length)
  | 0, _, j, hj, _ => .inl (by unfold turnS; rw [mapr_getD 0 hj])
  | t + 1, ht, j, hj, hn => by
    rw [turnS_step (by omega)]
    split
    · have := Nat.mod_lt t (show 0 < v.length by omega); exact .inr (by omega)
    · exact turnS_val (by omega) j hj hn
theorem turnS_keep {t : Nat} : ∀ d, t + d ≤ mL v → ∀ j, 0 ≤ (turnS v t).getD j 0 → (turnS v (t + d)).getD j 0 = (turnS v t).getD j 0
  | 0, _, j, _ => rfl
  | d + 1, h, j, h0 => by
    have ih := turnS_keep d (by omega) j h0
    rw [← Nat.add_assoc, turnS_step (by omega)]
    split
    · rename_i e
      have := (turnN_at (v := v) (t := t + d) (by omega)).2.2
      rw [← e] at this; omega
    · exact ih
theorem turn_best {s t : Nat} (hst : s < t) (ht : t < mL v) : rowF v (s % v.length) (turnN v t) ≤ rowF v (s % v.length) (turnN v s) := by
  have h1 := turnN_at ht
  have hfree : (turnS v s).getD (turnN v t) 0 < 0 := by
    apply Classical.byContradiction
    intro c
    have := turnS_keep (v := v) (t := s) (t - s) (by omega) (turnN v t) (by omega)
    rw [show s + (t - s) = t by omega] at this
    omega
  have h2 := turnN_at (v := v) (t := s) (by omega)
  rcases mxI_is (frB (turnS v s)) (rowF v (s % v.length)) (mL v) with ⟨h3, _⟩ | ⟨_, _, _, h4⟩
  · have := h2.1; unfold bestT at this; omega
  · exact (h4 (turnN v t) (Nat.zero_le _) h1.2.1 (decide_eq_true hfree)).1
def xT (v : List (List Int)) (i t : Nat) : Int := rowF v i (turnN v t)
def selT (n k : Nat) (x : Nat → Int) (s : Nat) : Int := if s % n = k then x s else 0
theorem turn_has2 {i k : Nat} (hn : 1 ≤ v.length) : ∀ {t : Nat}, t ≤ mL v → hasF v (turnS v t) (i : Nat) (k : Nat) = sumTo (selT v.length k (xT v i)) t
  | 0, _ => by
    unfold hasF
    have : sumTo (hasB v (turnS v 0) (i : Nat) (k : Nat)) (turnS v 0).length = sumTo (fun _ => 0) (turnS v 0).length := sumTo_same fun j hj => by
      unfold hasB
      rw [if_neg]
      rw [turnS_length] at hj
      unfold turnS; rw [mapr_getD 0 hj]; omega
    rw [this]
    have h0 : ∀ n, sumTo (fun _ => 0) n = 0 := fun n => by induction n with | zero => rfl | succ n ih => simp [sumTo, ih]
    rw [h0]; rfl
  | t + 1, ht => by
    have h1 := turnN_at (v := v) (t := t) (by omega)
    have hf : (turnS v t).getD (turnN v t) 0 = -1 := by
      rcases turnS_val (v := v) (t := t) (by omega) _ h1.2.1 hn with h | h
      · exact h
      · omega
    have h2 := set_has (v := v) (by rw [turnS_length]; exact h1.2.1) hf ((t % v.length : Nat) : Int) (i : Nat) (k : Nat) (by omega)
    have e : turnS v (t + 1) = (turnS v t).set (turnN v t) ((t % v.length : Nat) : Int) := rfl
    rw [e, h2, turn_has2 hn (by omega)]
    have e2 : (((t % v.length : Nat) : Int) = (k : Int)) ↔ t % v.length = k := by omega
    simp only [sumTo, selT, e2, Int.toNat_natCast]
    rfl
theorem sumTo_shift (f : Nat → Int) (d : Nat) : ∀ T, sumTo (fun s => if d ≤ s then f (s - d) else 0) T = sumTo f (T - d)
  | 0 => by simp [sumTo]
  | T + 1 => by
    simp only [sumTo]
    rw [sumTo_shift f d T]
    by_cases h : d ≤ T
    · rw [if_pos h, show T + 1 - d = (T - d) + 1 by omega]; rfl
    · rw [if_neg h, show T + 1 - d = T - d by omega, Int.add_zero]
theorem sumTo_mono {f : Nat → Int} {a : Nat} (h : ∀ j, 0 ≤ f j) : ∀ d, sumTo f a ≤ sumTo f (a + d)
  | 0 => by simp
  | d + 1 => by have := sumTo_mono h d (a := a); have := h (a + d); rw [← Nat.add_assoc]; simp only [sumTo]; omega
theorem pair_sum {n m i k : Nat} {x : Nat → Int} (hi : i < n) (hk : k < n) (hne : i ≠ k) (hkm : k < m) (h0 : ∀ s, 0 ≤ x s) (hx : ∀ s t, s < t → t < m → s % n = i → x t ≤ x s) : sumTo (selT n k x) m - x k ≤ sumTo (selT n i x) m := by
  have hA : sumTo (selT n k x) m = sumTo (fun s => if n ≤ s then selT n k x s else 0) m + (selT n k x k - (if n ≤ k then selT n k x k else 0)) := sumTo_one (f := fun s => if n ≤ s then selT n k x s else 0) hkm fun j hj hjk => by
    (try dsimp only)
    split
    · rfl
    · unfold selT; rw [if_neg]; rw [Nat.mod_eq_of_lt (by omega)]; exact hjk
  have hk1 : selT n k x k = x k := if_pos (Nat.mod_eq_of_lt hk)
  rw [if_neg (by omega), hk1] at hA
  have hd : ∃ d, (i ≤ k → d = k - i) ∧ (k < i → d = n + k - i) ∧ 0 < d ∧ d ≤ n := ⟨if i ≤ k then k - i else n + k - i, by split <;> omega, by split <;> omega, by split <;> omega, by split <;> omega⟩
  obtain ⟨d, hd1, hd2, hd3, hd4⟩ := hd
  have hle : sumTo (fun s => if n ≤ s then selT n k x s else 0) m ≤ sumTo (fun s => if d ≤ s then selT n i x (s - d) else 0) m := sumTo_le fun s hs => by
    have hnn : ∀ s, 0 ≤ selT n i x s := fun s => by unfold selT; split <;> first | exact h0 s | omega
    (try dsimp only)
    split
    · rename_i hns
      rw [if_pos (by omega)]
      by_cases e : s % n = k
      · have hdm := Nat.div_add_mod s n
        have hq : 1 ≤ s / n := (Nat.one_le_div_iff (by omega)).2 hns
        obtain ⟨q, hq'⟩ : ∃ q, s / n = q + 1 := ⟨s / n - 1, by omega⟩
        rw [hq', e] at hdm
        have hmod : (s - d) % n = i := by
          rcases Nat.lt_or_ge k i with h | h
          · have : s - d = n * q + i := by rw [hd2 h]; rw [Nat.mul_succ] at hdm; omega
            rw [this, Nat.mul_add_mod, Nat.mod_eq_of_lt hi]
          · have : s - d = n * (q + 1) + i := by rw [hd1 h]; omega
            rw [this, Nat.mul_add_mod, Nat.mod_eq_of_lt hi]
        unfold selT
        rw [if_pos e, if_pos hmod]
        exact hx (s - d) s (by omega) hs hmod
      · have : selT n k x s = 0 := if_neg e
        rw [this]; exact hnn _
    · split
      · exact hnn _
      · omega
  rw [sumTo_shift] at hle
  have hmono := sumTo_mono (f := selT n i x) (a := m - d) (fun s => by unfold selT; split <;> first | exact h0 s | omega) (m - (m - d))
  rw [show m - d + (m - (m - d)) = m by omega] at hmono
  omega
theorem rowF_pos (hV : Val v) {i : Nat} (hi : i < v.length) {t : Nat} (ht : t < mL v) : 0 ≤ xT v i t := by
  have := hV.val i hi (turnN v t) (turnN_at ht).2.1
  unfold xT rowF; omega
theorem selT_cut {n k m : Nat} {x : Nat → Int} : sumTo (selT n k x) m = sumTo (selT n k fun s => if s < m then x s else 0) m := sumTo_same fun j hj => by
  show _ = if j % n = k then (if j < m then x j else 0) else 0
  rw [if_pos hj]; rfl
theorem turn_ef1b (hV : Val v) : EF1 v (turnS v (mL v)) := fun i k hi hk => by
  have hn := hV.n1
  have h1 := turn_has2 (v := v) (i := i) (k := k) hn (Nat.le_refl (mL v))
  have h2 := turn_has2 (v := v) (i := i) (k := i) hn (Nat.le_refl (mL v))
  by_cases e : i = k
  · subst e; exact .inl (Int.le_refl _)
  rcases Nat.lt_or_ge k (mL v) with hkm | hkm
  · refine .inr ⟨turnN v k, by rw [turnS_length]; exact (turnN_at hkm).2.1, ?_, ?_⟩
    · have h3 := turnS_keep (v := v) (t := k + 1) (mL v - (k + 1)) (by omega) (turnN v k) (by rw [turnS_step hkm, if_pos rfl]; omega)
      rw [show k + 1 + (mL v - (k + 1)) = mL v by omega] at h3
      rw [h3, turnS_step hkm, if_pos rfl, Nat.mod_eq_of_lt hk]
    · rw [h1, h2]
      have h4 := pair_sum (n := v.length) (m := mL v) (i := i) (k := k) (x := fun s => if s < mL v then xT v i s else 0) hi hk e hkm (fun s => by (try dsimp only); split <;> first | (exact rowF_pos hV hi (by assumption)) | omega) (fun s t hst ht hs => by
        (try dsimp only)
        rw [if_pos ht, if_pos (by omega)]
        have := turn_best (v := v) hst ht
        rw [hs] at this
        exact this)
      rw [← selT_cut, ← selT_cut, if_pos hkm] at h4
      exact h4
  · refine .inl ?_
    have h0 : sumTo (selT v.length k (xT v i)) (mL v) = sumTo (fun _ => 0) (mL v) := sumTo_same fun j hj => if_neg (by rw [Nat.mod_eq_of_lt (by omega)]; omega)
    have hz : ∀ n, sumTo (fun _ => 0) n = 0 := fun n => by induction n with | zero => rfl | succ n ih => simp [sumTo, ih]
    rw [h1, h0, hz]
    exact (hasF_bd hV (turnS_length v _) (who := (i : Nat)) (other := (i : Nat)) (by omega)).1
theorem countP_set_new {p : Int → Bool} : ∀ {l : List Int} {i : Nat} {a : Int}, i < l.length → p (l.getD i 0) = false → p a = true → (l.set i a).countP p = l.countP p + 1
  | x :: l, 0, a, _, h1, h2 => by
    have h1 : p x = false := h1
    simp [List.countP_cons, h1, h2]
  | x :: l, i + 1, a, hi, h1, h2 => by
    have := countP_set_new (p := p) (l := l) (i := i) (a := a) (by simpa using hi) h1 h2
    simp only [List.set_cons_succ, List.countP_cons, this]; omega
theorem turnS_full : ∀ t, t ≤ mL v → (turnS v t).countP (fun x => decide (0 ≤ x)) = t
  | 0, _ => by
    have := turnS_count v 0; omega
  | t + 1, ht => by
    have h1 := turnN_at (v := v) (t := t) (by omega)
    have e : turnS v (t + 1) = (turnS v t).set (turnN v t) ((t % v.length : Nat) : Int) := rfl
    rw [e, countP_set_new (by rw [turnS_length]; exact h1.2.1) (decide_eq_false (by omega)) (decide_eq_true (by omega)), turnS_full t (by omega)]
theorem turnS_no {x : Int} (h : x ∈ turnS v (mL v)) : 0 ≤ x := by
  have h1 := turnS_full (v := v) (mL v) (Nat.le_refl _)
  have h2 : (turnS v (mL v)).countP (fun x => decide (0 ≤ x)) = (turnS v (mL v)).length := by rw [h1, turnS_length]
  rw [List.countP_eq_length] at h2
  simpa using h2 x h
end turns
section even
/-! ### How many, and the product, of what each one has -/
def cntI (x : Int) : Int := if 0 < x then 1 else 0
def posI (x : Int) : Int := if 0 < x then x else 1
def prodTo (f : Nat → Int) : Nat → Int
  | 0 => 1
  | n + 1 => prodTo f n * f n
theorem posI_pos (x : Int) : 1 ≤ posI x := by unfold posI; split <;> omega
theorem prodTo_pos {f : Nat → Int} (h : ∀ j, 1 ≤ f j) : ∀ n, 1 ≤ prodTo f n
  | 0 => by simp [prodTo]
  | n + 1 => by
    have := Int.mul_le_mul (prodTo_pos h n) (h n) (by omega) (by have := prodTo_pos h n; omega)
    simpa [prodTo] using this
theorem lv_sum (v : List (List Int)) (give : List Int) : ∀ n, lvTo v give n = (sumTo (fun j => cntI (hasF v give (j : Nat) (j : Nat))) n, prodTo (fun j => posI (hasF v give (j : Nat) (j : Nat))) n)
  | 0 => rfl
  | n + 1 => by
    simp only [lvTo, lv_sum v give n, sumTo, prodTo, cntI, posI]
    split
    · rfl
    · simp
theorem prodTo_le {f g : Nat → Int} (hf : ∀ j, 1 ≤ f j) (h : ∀ j, f j ≤ g j) : ∀ n, prodTo f n ≤ prodTo g n
  | 0 => Int.le_refl _
  | n + 1 => Int.mul_le_mul (prodTo_le hf h n) (h n) (by have := hf n; omega) (by have := prodTo_pos hf n; have := prodTo_le hf h n; omega)
theorem prodTo_lt {f g : Nat → Int} (hf : ∀ j, 1 ≤ f j) (h : ∀ j, f j ≤ g j) {a : Nat} (ha : f a < g a) : ∀ n, a < n → prodTo f n < prodTo g n
  | n + 1, hn => by
    have h1 := prodTo_pos hf n
    have h2 := prodTo_le hf h n
    have h3 := hf n
    have h4 := h n
    simp only [prodTo]
    by_cases e : a = n
    · subst e
      have h5 := Int.mul_lt_mul_of_pos_left ha (show 0 < prodTo f a by omega)
      have h6 := Int.mul_le_mul_of_nonneg_right h2 (show 0 ≤ g a by omega)
      omega
    · have ih := prodTo_lt hf h ha n (by omega)
      have h5 := Int.mul_lt_mul_of_pos_right ih (show 0 < f n by omega)
      have h6 := Int.mul_le_mul_of_nonneg_left h4 (show 0 ≤ prodTo g n by omega)
      omega
theorem prodTo_same {f g : Nat → Int} : ∀ {n : Nat}, (∀ j, j < n → f j = g j) → prodTo f n = prodTo g n
  | 0, _ => rfl
  | n + 1, h => by simp only [prodTo, prodTo_same (fun j hj => h j (by omega) : ∀ j, j < n → _), h n (by omega)]
theorem prodTo_one {f g : Nat → Int} {a : Nat} (hf : ∀ j, 1 ≤ f j) : ∀ {n : Nat}, a < n → (∀ j, j ≠ a → g j = f j) → ∃ R, 1 ≤ R ∧ prodTo f n = R * f a ∧ prodTo g n = R * g a
  | n + 1, ha, h => by
    by_cases e : a = n
    · subst e
      exact ⟨prodTo f a, prodTo_pos hf a, rfl, by simp only [prodTo]; rw [prodTo_same (f := g) (g := f) fun j hj => h j (by omega)]⟩
    · obtain ⟨R, h1, h2, h3⟩ := prodTo_one hf (n := n) (g := g) (by omega) h
      refine ⟨R * f n, ?_, ?_, ?_⟩
      · have := Int.mul_le_mul h1 (hf n) (by omega) (by omega); simpa using this
      · simp only [prodTo]; rw [h2, Int.mul_right_comm]
      · simp only [prodTo]; rw [h3, h n (by omega), Int.mul_right_comm]
theorem prodTo_two {f g : Nat → Int} {a b n : Nat} (hf : ∀ j, 1 ≤ f j) (hg : ∀ j, 1 ≤ g j) (hab : a ≠ b) (ha : a < n) (hb : b < n) (h : ∀ j, j ≠ a → j ≠ b → g j = f j) (hlt : f a * f b < g a * g b) : prodTo f n < prodTo g n := by
  have hm1 : ∀ j, 1 ≤ (fun j => if j = a then g a else f j) j := fun j => by (try dsimp only); split <;> first | exact hg a | exact hf j
  obtain ⟨R, h1, h2, h3⟩ := prodTo_one (f := f) (g := fun j => if j = a then g a else f j) (a := a) hf ha fun j hj => if_neg hj
  obtain ⟨S, g1, g2, g3⟩ := prodTo_one (f := fun j => if j = a then g a else f j) (g := g) (a := b) hm1 hb fun j hj => by
    by_cases e : j = a
    · subst e; rw [if_pos rfl]
    · rw [if_neg e]; exact h j e hj
  (try dsimp only at h3 g2)
  rw [if_pos rfl] at h3
  rw [if_neg (fun c => hab c.symm)] at g2
  have e1 : prodTo f n * g a = S * (f a * f b) := by
    rw [h2]
    have e : R * g a = S * f b := by rw [← h3, g2]
    calc R * f a * g a = (R * g a) * f a := Int.mul_right_comm ..
      _ = (S * f b) * f a := by rw [e]
      _ = S * (f a * f b) := by rw [Int.mul_assoc, Int.mul_comm (f b)]
  have e2 : prodTo g n * g a = S * (g a * g b) := by rw [g3, Int.mul_assoc, Int.mul_comm (g b)]
  have h5 := Int.mul_lt_mul_of_pos_left hlt (show 0 < S by omega)
  rw [← e1, ← e2] at h5
  exact Int.lt_of_mul_lt_mul_right h5 (by have := hg a; omega)
variable {v : List (List Int)}
theorem best_foldl : ∀ (L : List (List Int)) (acc : Option (List Int)) (b : List Int), L.foldl (bstep v) acc = some b →
    (b ∈ L ∨ acc = some b) ∧ (∀ x, x ∈ L → below (lv v b) (lv v x) = false) ∧ ∀ a, acc = some a → below (lv v b) (lv v a) = false
  | [], acc, b, h => ⟨.inr h, fun x hx => by simp at hx, fun a ha => by
      have h : acc = some b := h
      rw [h] at ha; simp only [Option.some.injEq] at ha; subst ha
      have := @below_iff (lv v b) (lv v b)
      cases e : below (lv v b) (lv v b) with
      | false => rfl
      | true => rw [e] at this; simp only [true_iff] at this; omega⟩
  | y :: L, acc, b, h => by
    rw [List.foldl_cons] at h
    obtain ⟨h1, h2, h3⟩ := best_foldl L (bstep v acc y) b h
    have hb := fun x => @below_iff (lv v b) (lv v x)
    cases acc with
    | none =>
      have h4 := h3 y rfl
      refine ⟨?_, fun x hx => ?_, fun a ha => by simp at ha⟩
      · rcases h1 with h1 | h1
        · exact .inl (List.mem_cons_of_mem _ h1)
        · simp only [bstep, Option.some.injEq] at h1; subst h1; exact .inl List.mem_cons_self
      · rcases List.mem_cons.1 hx with rfl | hx
        · exact h4
        · exact h2 x hx
    | some a =>
      have hay := @below_iff (lv v a) (lv v y)
      simp only [bstep] at h1 h3
      cases e : below (lv v a) (lv v y) with
      | true =>
        rw [e] at h1 h3 hay
        simp only [if_true] at h1 h3
        have h4 := h3 y rfl
        refine ⟨?_, fun x hx => ?_, fun a' ha => ?_⟩
        · rcases h1 with h1 | h1
          · exact .inl (List.mem_cons_of_mem _ h1)
          · simp only [Option.some.injEq] at h1; subst h1; exact .inl List.mem_cons_self
        · rcases List.mem_cons.1 hx with rfl | hx
          · exact h4
          · exact h2 x hx
        · simp only [Option.some.injEq] at ha; subst ha
          have hy := hb y
          rw [h4] at hy
          have ha' := hb a
          cases e2 : below (lv v b) (lv v a) with
          | false => rfl
          | true => rw [e2] at ha'; simp only [true_iff, false_iff, Bool.false_eq_true] at *; omega
      | false =>
        rw [e] at h1 h3 hay
        simp only [Bool.false_eq_true, if_false] at h1 h3
        have h4 := h3 a rfl
        refine ⟨?_, fun x hx => ?_, fun a' ha => ?_⟩
        · rcases h1 with h1 | h1
          · exact .inl (List.mem_cons_of_mem _ h1)
          · exact .inr h1
        · rcases List.mem_cons.1 hx with rfl | hx
          · have hy := hb x
            have ha' := hb a
            rw [h4] at ha'
            cases e2 : below (lv v b) (lv v x) with
            | false => rfl
            | true => rw [e2] at hy; simp only [true_iff, false_iff, Bool.false_eq_true] at *; omega
          · exact h2 x hx
        · simp only [Option.some.injEq] at ha; subst ha; exact h4
def InW (g : Nat) (l : List Int) : Prop := ∀ x, x ∈ l → 0 ≤ x ∧ x < (g : Int)
theorem cmpW_all {g : Nat} : ∀ {r : Nat} {p q : List Int}, q.length = r → InW g q → p ++ q ∈ cmpW g r p
  | 0, p, q, hl, _ => by
    have : q = [] := List.eq_nil_of_length_eq_zero hl
    subst this; simp [cmpW]
  | r + 1, p, x :: q, hl, hq => by
    have hx := hq x List.mem_cons_self
    unfold cmpW
    refine List.mem_flatMap.2 ⟨x.toNat, List.mem_range.2 (by omega), ?_⟩
    have e : ((x.toNat : Nat) : Int) = x := by omega
    rw [e]
    have := cmpW_all (g := g) (r := r) (p := p ++ [x]) (q := q) (by simpa using hl) fun y hy => hq y (List.mem_cons_of_mem _ hy)
    simpa using this
theorem cmpW_in {g : Nat} : ∀ {r : Nat} {p l : List Int}, l ∈ cmpW g r p → ∃ q, l = p ++ q ∧ q.length = r ∧ InW g q
  | 0, p, l, h => ⟨[], by simpa [cmpW] using h, rfl, fun x hx => by simp at hx⟩
  | r + 1, p, l, h => by
    unfold cmpW at h
    obtain ⟨i, hi, h⟩ := List.mem_flatMap.1 h
    obtain ⟨q, rfl, hq, hin⟩ := cmpW_in h
    refine ⟨(i : Int) :: q, by simp, by simp [hq], fun x hx => ?_⟩
    rcases List.mem_cons.1 hx with rfl | hx
    · have := List.mem_range.1 hi; omega
    · exact hin x hx
/-- The most even way. -/
theorem even_best (hn : 1 ≤ v.length) : (evR v (mL v) []).length = mL v ∧ InW v.length (evR v (mL v) []) ∧ ∀ d : List Int, d.length = mL v → InW v.length d → below (lv v (evR v (mL v) [])) (lv v d) = false := by
  have h := evR_best v hn (mL v) []
  obtain ⟨h1, h2, _⟩ := best_foldl (v := v) (cmpW v.length (mL v) []) none _ h
  rcases h1 with h1 | h1
  · obtain ⟨q, hq, hl, hin⟩ := cmpW_in h1
    rw [List.nil_append] at hq
    refine ⟨by rw [hq]; exact hl, by rw [hq]; exact hin, fun d hd hin => h2 d ?_⟩
    have := cmpW_all (g := v.length) (r := mL v) (p := []) (q := d) hd hin
    simpa using this
  · cases h1
theorem set_has2 {give : List Int} {g : Nat} (hg : g < give.length) (w i k : Int) : hasF v (give.set g w) i k = hasF v give i k + (if w = k then (v.getD i.toNat []).getD g 0 else 0) - (if give.getD g 0 = k then (v.getD i.toNat []).getD g 0 else 0) := by
  unfold hasF
  rw [List.length_set]
  rw [sumTo_one (f := hasB v give i k) (g := hasB v (give.set g w) i k) hg fun j hj hne => by unfold hasB; rw [getD_set w hg, if_neg hne]]
  have e2 : hasB v (give.set g w) i k g = if w = k then (v.getD i.toNat []).getD g 0 else 0 := by unfold hasB; rw [getD_set w hg, if_pos rfl]
  have e1 : hasB v give i k g = if give.getD g 0 = k then (v.getD i.toNat []).getD g 0 else 0 := rfl
  rw [e1, e2]; omega
theorem sumTo_mul {f : Nat → Int} (c : Int) : ∀ n, sumTo (fun j => f j * c) n = sumTo f n * c
  | 0 => by simp [sumTo]
  | n + 1 => by simp only [sumTo, sumTo_mul c n, Int.add_mul]
theorem even_ef1 (hV : Val v) : EF1 v (evR v (mL v) []) := fun i k hi hk => by
  obtain ⟨hl, hin, hbest⟩ := even_best hV.n1
  generalize evR v (mL v) [] = c at *
  apply Classical.byContradiction
  intro hno
  have hgt : hasF v c i i < hasF v c i k := by
    apply Classical.byContradiction
    intro h
    exact hno (.inl (by omega))
  have hall : ∀ g, g < c.length → c.getD g 0 = (k : Int) → hasF v c i i < hasF v c i k - (v.getD i []).getD g 0 := fun g hg hgk => by
    apply Classical.byContradiction
    intro h
    exact hno (.inr ⟨g, hg, hgk, by omega⟩)
  have hne : i ≠ k := fun e => by subst e; omega
  have ha := (hasF_bd hV hl (who := (i : Nat)) (other := (i : Nat)) (by omega)).1
  have hb := (hasF_bd hV hl (who := (k : Nat)) (other := (k : Nat)) (by omega)).1
  -- a good that is worth much to i for what it is worth to k
  have hpick : ∃ g, g < c.length ∧ c.getD g 0 = (k : Int) ∧ 0 < (v.getD i []).getD g 0 ∧ (v.getD k []).getD g 0 * hasF v c i k ≤ (v.getD i []).getD g 0 * hasF v c k k := by
    apply Classical.byContradiction
    intro hn
    have hn : ∀ g, g < c.length → c.getD g 0 = (k : Int) → 0 < (v.getD i []).getD g 0 → (v.getD i []).getD g 0 * hasF v c k k < (v.getD k []).getD g 0 * hasF v c i k := fun g h1 h2 h3 => by
      apply Classical.byContradiction
      intro h4
      exact hn ⟨g, h1, h2, h3, by omega⟩
    have hle : ∀ g, g < c.length → hasB v c i k g * hasF v c k k ≤ hasB v c k k g * hasF v c i k := fun g hg => by
      have hvi := hV.val i hi g (by omega)
      have hvk := hV.val k hk g (by omega)
      unfold hasB
      by_cases e : c.getD g 0 = (k : Int)
      · rw [if_pos e, if_pos e, Int.toNat_natCast, Int.toNat_natCast]
        by_cases h0 : 0 < (v.getD i []).getD g 0
        · exact Int.le_of_lt (hn g hg e h0)
        · rw [show (v.getD i []).getD g 0 = 0 by omega, Int.zero_mul]
          exact Int.mul_nonneg hvk.1 (by omega)
      · rw [if_neg e, if_neg e]; simp
    have hsome : ∃ g, g < c.length ∧ 0 < hasB v c i k g := by
      apply Classical.byContradiction
      intro h
      have : sumTo (hasB v c i k) c.length ≤ sumTo (fun _ => 0) c.length := sumTo_le fun g hg => by
        apply Classical.byContradiction
        intro h2
        exact h ⟨g, hg, by (try dsimp only at h2); omega⟩
      have hz : ∀ n, sumTo (fun _ => 0) n = 0 := fun n => by induction n with | zero => rfl | succ n ih => simp [sumTo, ih]
      rw [hz] at this
      have e : hasF v c i k = sumTo (hasB v c i k) c.length := rfl
      omega
    obtain ⟨g, hg, hgp⟩ := hsome
    have hgk : c.getD g 0 = (k : Int) := by
      apply Classical.byContradiction
      intro e
      unfold hasB at hgp; rw [if_neg e] at hgp; omega
    have hstrict : hasB v c i k g * hasF v c k k < hasB v c k k g * hasF v c i k := by
      unfold hasB at hgp ⊢
      rw [if_pos hgk, Int.toNat_natCast] at hgp
      rw [if_pos hgk, if_pos hgk, Int.toNat_natCast, Int.toNat_natCast]
      exact hn g hg hgk hgp
    have := sumTo_lt (f := fun g => hasB v c i k g * hasF v c k k) (g := fun g => hasB v c k k g * hasF v c i k) (n := c.length) hle ⟨g, hg, hstrict⟩
    rw [sumTo_mul, sumTo_mul] at this
    have e1 : sumTo (hasB v c i k) c.length = hasF v c i k := rfl
    have e2 : sumTo (hasB v c k k) c.length = hasF v c k k := rfl
    rw [e1, e2, Int.mul_comm] at this
    omega
  obtain ⟨g, hg, hgk, hx0, hxy⟩ := hpick
  have hxV := hall g hg hgk
  have hvk := hV.val k hk g (by omega)
  have hin' : InW v.length (c.set g (i : Int)) := fun x hx => by
    rcases List.mem_or_eq_of_mem_set hx with h | h
    · exact hin x h
    · subst h; omega
  have hd := hbest (c.set g (i : Int)) (by rw [List.length_set]; exact hl) hin'
  have hi' := set_has2 (v := v) hg (i : Int) (i : Int) (i : Int)
  have hk' := set_has2 (v := v) hg (i : Int) (k : Int) (k : Int)
  have ho' : ∀ j : Nat, j ≠ i → j ≠ k → hasF v (c.set g (i : Int)) j j = hasF v c j j := fun j h1 h2 => by
    rw [set_has2 (v := v) hg (i : Int) (j : Int) (j : Int), if_neg (by omega), if_neg (by rw [hgk]; omega)]; omega
  rw [if_pos rfl, if_neg (by rw [hgk]; omega), Int.toNat_natCast] at hi'
  rw [if_neg (by omega), if_pos hgk, Int.toNat_natCast] at hk'
  have hbi := @below_iff (lv v c) (lv v (c.set g (i : Int)))
  rw [hd] at hbi
  simp only [Bool.false_eq_true, false_iff] at hbi
  unfold lv at hbi
  rw [lv_sum, lv_sum] at hbi
  generalize hA : hasF v c i i = A at *
  generalize hB : hasF v c k k = B at *
  generalize hVV : hasF v c i k = V at *
  generalize hX : (v.getD i []).getD g 0 = X at *
  generalize hY : (v.getD k []).getD g 0 = Y at *
  have hBY : (0 < B → 0 < B - Y) ∧ (B = 0 → Y = 0) := by
    refine ⟨fun hB0 => ?_, fun hB0 => ?_⟩
    · have h1 : X * B < V * B := Int.mul_lt_mul_of_pos_right (by omega) hB0
      have h2 : Y * V < B * V := by rw [Int.mul_comm B V]; omega
      have := Int.lt_of_mul_lt_mul_right h2 (by omega)
      omega
    · rw [hB0, Int.mul_zero] at hxy
      apply Classical.byContradiction
      intro h
      have := Int.mul_pos (show 0 < Y by omega) (show 0 < V by omega)
      omega
  have hcnt : sumTo (fun j => cntI (hasF v (c.set g (i : Int)) (j : Nat) (j : Nat))) v.length = sumTo (fun j => cntI (hasF v c (j : Nat) (j : Nat))) v.length + (1 - cntI A) := by
    have h1 := sumTo_one (f := fun j => cntI (hasF v c (j : Nat) (j : Nat))) (g := fun j => cntI (hasF v (c.set g (i : Int)) (j : Nat) (j : Nat))) (a := i) (n := v.length) hi fun j hj hji => by
      (try dsimp only)
      by_cases e : j = k
      · subst e
        rw [hk', hB]
        unfold cntI
        by_cases hB0 : 0 < B
        · rw [if_pos hB0, if_pos (by have := hBY.1 hB0; omega)]
        · rw [if_neg hB0, if_neg (by have := hBY.2 (by omega); omega)]
      · rw [ho' j hji e]
    rw [h1, hi', hA]
    have : cntI (A + X - 0) = 1 := if_pos (by omega)
    rw [this]
  by_cases hA0 : A = 0
  · have : cntI A = 0 := if_neg (by omega)
    omega
  · have hcA : cntI A = 1 := if_pos (by omega)
    rw [hcA] at hcnt
    refine hbi (.inr ⟨by (try dsimp only); omega, ?_⟩)
    (try dsimp only)
    refine prodTo_two (a := i) (b := k) (fun j => posI_pos _) (fun j => posI_pos _) hne hi hk (fun j h1 h2 => by (try dsimp only); rw [ho' j h1 h2]) ?_
    (try dsimp only)
    rw [hi', hk', hA, hB]
    have p1 : posI A = A := if_pos (by omega)
    have p2 : posI (A + X - 0) = A + X := by unfold posI; rw [if_pos (by omega)]; omega
    rw [p1, p2]
    by_cases hB0 : 0 < B
    · have hb1 := hBY.1 hB0
      have p3 : posI B = B := if_pos hB0
      have p4 : posI (B + 0 - Y) = B - Y := by unfold posI; rw [if_pos (by omega)]; omega
      rw [p3, p4]
      have e : (A + X) * (B - Y) = A * B + (X * B - Y * (A + X)) := by
        rw [Int.mul_sub, Int.add_mul, Int.mul_comm Y]; omega
      rw [e]
      have hkey : Y * (A + X) < X * B := by
        by_cases hY0 : Y = 0
        · rw [hY0, Int.zero_mul]; exact Int.mul_pos hx0 hB0
        · have := Int.mul_lt_mul_of_pos_left (show A + X < V by omega) (show 0 < Y by omega)
          omega
      omega
    · have hY0 := hBY.2 (by omega)
      have p3 : posI B = 1 := if_neg hB0
      have p4 : posI (B + 0 - Y) = 1 := if_neg (by omega)
      rw [p3, p4]; omega
theorem even_pareto (hV : Val v) {d : List Int} (hd : d.length = mL v) (hin : InW v.length d) (h : ∀ j : Nat, j < v.length → hasF v (evR v (mL v) []) j j ≤ hasF v d j j) : ∀ j : Nat, j < v.length → ¬ hasF v (evR v (mL v) []) j j < hasF v d j j := fun a ha hlt => by
  obtain ⟨hl, _, hbest⟩ := even_best hV.n1
  have hb := hbest d hd hin
  generalize evR v (mL v) [] = c at *
  have hbi := @below_iff (lv v c) (lv v d)
  rw [hb] at hbi
  simp only [Bool.false_eq_true, false_iff] at hbi
  unfold lv at hbi
  rw [lv_sum, lv_sum] at hbi
  (try dsimp only at hbi)
  have hc0 : ∀ j : Nat, j < v.length → 0 ≤ hasF v c j j := fun j hj => (hasF_bd hV hl (who := (j : Nat)) (other := (j : Nat)) (by omega)).1
  have hle : ∀ j, j < v.length → cntI (hasF v c (j : Nat) (j : Nat)) ≤ cntI (hasF v d (j : Nat) (j : Nat)) := fun j hj => by
    have := h j hj
    unfold cntI; split <;> split <;> omega
  have hs := sumTo_le (f := fun j => cntI (hasF v c (j : Nat) (j : Nat))) (g := fun j => cntI (hasF v d (j : Nat) (j : Nat))) (n := v.length) hle
  by_cases he : ∃ j, j < v.length ∧ cntI (hasF v c (j : Nat) (j : Nat)) < cntI (hasF v d (j : Nat) (j : Nat))
  · have := sumTo_lt (f := fun j => cntI (hasF v c (j : Nat) (j : Nat))) (g := fun j => cntI (hasF v d (j : Nat) (j : Nat))) (n := v.length) hle he
    exact hbi (.inl this)
  · have hcc : ∀ j, j < v.length → cntI (hasF v c (j : Nat) (j : Nat)) = cntI (hasF v d (j : Nat) (j : Nat)) := fun j hj => by
      have := hle j hj
      apply Classical.byContradiction
      intro c
      exact he ⟨j, hj, by omega⟩
    have hse := sumTo_same (f := fun j => cntI (hasF v c (j : Nat) (j : Nat))) (g := fun j => cntI (hasF v d (j : Nat) (j : Nat))) (n := v.length) hcc
    refine hbi (.inr ⟨hse, ?_⟩)
    have hp : ∀ j, j < v.length → posI (hasF v c (j : Nat) (j : Nat)) ≤ posI (hasF v d (j : Nat) (j : Nat)) := fun j hj => by
      have h1 := h j hj
      have h2 := hcc j hj
      have h3 := hc0 j hj
      unfold cntI at h2; unfold posI
      split at h2 <;> split at h2 <;> simp_all <;> omega
    have hpa : posI (hasF v c (a : Nat) (a : Nat)) < posI (hasF v d (a : Nat) (a : Nat)) := by
      have h2 := hcc a ha
      have h3 := hc0 a ha
      unfold cntI at h2; unfold posI
      rw [if_pos (show 0 < hasF v d a a by omega)] at h2 ⊢
      split at h2
      · rename_i h4; rw [if_pos h4]; exact hlt
      · omega
    have e1 : prodTo (fun j => posI (hasF v c (j : Nat) (j : Nat))) v.length = prodTo (fun j => if j < v.length then posI (hasF v c (j : Nat) (j : Nat)) else 1) v.length := prodTo_same fun j hj => (if_pos hj).symm
    have e2 : prodTo (fun j => posI (hasF v d (j : Nat) (j : Nat))) v.length = prodTo (fun j => if j < v.length then posI (hasF v d (j : Nat) (j : Nat)) else 1) v.length := prodTo_same fun j hj => (if_pos hj).symm
    rw [e1, e2]
    refine prodTo_lt (a := a) (fun j => ?_) (fun j => ?_) ?_ v.length ha
    · (try dsimp only); split <;> first | exact posI_pos _ | omega
    · (try dsimp only); split
      · exact hp j (by assumption)
      · omega
    · (try dsimp only); rw [if_pos ha, if_pos ha]; exact hpa
end even

end Go.Proofs.Ytfaeiglnhbllnaa

