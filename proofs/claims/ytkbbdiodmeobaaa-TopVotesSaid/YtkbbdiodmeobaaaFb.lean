/- How many rank each above each, by both ways. Conditions: each theorem names its own. -/
import Derived.Test.YtkbbdiodmeobaaaProg
import Derived.Test.YtkbbdiodmeobaaaFa
import Derived.Test.YtkbbdiodmeobaaaAbsT
namespace Go.Proofs.Ytkbbdiodmeobaaa
open Go.Abs
set_option linter.unusedVariables false
set_option linter.unusedSimpArgs false

def cnF (L : List (Int × List Int × Unit)) (b : Nat) : Int := (L.getD b (0, [], ())).1
def orF (L : List (Int × List Int × Unit)) (b : Nat) : List Int := (L.getD b (0, [], ())).2.1
theorem fold_c (L : List (Int × List Int × Unit)) (b : Nat) : (L.getD b (0, [], ())).1 = cnF L b := rfl
theorem fold_o (L : List (Int × List Int × Unit)) (b : Nat) : (L.getD b (0, [], ())).2.1 = orF L b := rfl
/-! ### Places in orders -/
theorem placeF_le {l : List Int} {k : Nat} (h : k < l.length) : placeF l (l.getD k 0) ≤ (k : Nat) ∧ 0 ≤ placeF l (l.getD k 0) := by
  unfold placeF
  cases e : firstI (fun i => decide (l.getD i 0 = l.getD k 0)) l.length with
  | none => exact absurd (firstI_none e k h) (by simp)
  | some i =>
    have h1 := firstI_spec e
    simp only
    rcases Nat.lt_or_ge k i with h2 | h2
    · exact absurd (h1.2.2 k h2) (by simp)
    · omega
theorem placeF_at {l : List Int} {x : Int} (h : 0 ≤ placeF l x) : (placeF l x).toNat < l.length ∧ l.getD (placeF l x).toNat 0 = x := by
  unfold placeF at *
  cases e : firstI (fun i => decide (l.getD i 0 = x)) l.length with
  | none => rw [e] at h; simp at h
  | some i =>
    have h1 := firstI_spec e
    simp only [Int.toNat_natCast]
    exact ⟨h1.1, of_decide_eq_true h1.2.1⟩
theorem placeF_lt {l : List Int} {x : Int} : placeF l x < (l.length : Nat) ∧ -1 ≤ placeF l x := by
  unfold placeF
  cases e : firstI (fun i => decide (l.getD i 0 = x)) l.length with
  | none => simp only; omega
  | some i => have h1 := firstI_spec e; simp only; omega
theorem placeF_inj {l : List Int} {x y : Int} (h : 0 ≤ placeF l x) (e : placeF l x = placeF l y) : x = y := by
  rw [← (placeF_at h).2, e, (placeF_at (e ▸ h)).2]
theorem someE_zero {n : Int} {l : List Int} (h : someE n l = 0) {k : Nat} (hk : k < l.length) : 0 ≤ l.getD k 0 ∧ l.getD k 0 < n ∧ placeF l (l.getD k 0) = (k : Nat) := by
  have h1 := firstE_zero h k hk
  have h2 := placeF_le hk
  unfold someB at h1
  split at h1
  · omega
  · split at h1
    · omega
    · omega
theorem ordE_zero {n : Int} {l : List Int} (h : ordE n l = 0) : (l.length : Int) = n ∧ someE n l = 0 := by
  unfold ordE at h
  split at h
  · omega
  · rename_i h1; exact ⟨by omega, h⟩
/-- n different numbers below n are all of them. -/
theorem full_of : ∀ (n : Nat) (f : Nat → Nat), (∀ k, k < n → f k < n) → (∀ i k, i < n → k < n → f i = f k → i = k) → ∀ x, x < n → ∃ k, k < n ∧ f k = x
  | 0, _, _, _, x, hx => absurd hx (Nat.not_lt_zero _)
  | n + 1, f, hf, hi, x, hx => by
    by_cases e : f n = x
    · exact ⟨n, by omega, e⟩
    -- swap the value n with f n
    let g : Nat → Nat := fun k => if f k = n then f n else f k
    have hg : ∀ k, k < n → g k < n := fun k hk => by
      have h1 := hf k (by omega)
      have h2 := hf n (by omega)
      show (if f k = n then f n else f k) < n
      split
      · rename_i h3
        rcases Nat.lt_or_ge (f n) n with h4 | h4
        · exact h4
        · have := hi k n (by omega) (by omega) (by omega); omega
      · omega
    have hgi : ∀ i k, i < n → k < n → g i = g k → i = k := fun i k h1 h2 h3 => by
      have h4 : (if f i = n then f n else f i) = (if f k = n then f n else f k) := h3
      split at h4 <;> split at h4
      · exact hi i k (by omega) (by omega) (by omega)
      · have := hi n k (by omega) (by omega) h4; omega
      · have := hi i n (by omega) (by omega) h4; omega
      · exact hi i k (by omega) (by omega) h4
    by_cases ex : x = n
    · subst ex
      -- f k = n for some k ≤ n: else f maps n + 1 numbers below n
      by_cases h0 : ∃ k, k < x ∧ f k = x
      · obtain ⟨k, hk, h1⟩ := h0; exact ⟨k, by omega, h1⟩
      · have h1 := hf x (by omega)
        obtain ⟨k, hk, h2⟩ := full_of x g hg hgi (f x) (by omega)
        have h3 : (if f k = x then f x else f k) = f x := h2
        rw [if_neg fun c => h0 ⟨k, hk, c⟩] at h3
        have := hi k x (by omega) (by omega) h3; omega
    · obtain ⟨k, hk, h1⟩ := full_of n g hg hgi x (by omega)
      have h2 : (if f k = n then f n else f k) = x := h1
      split at h2
      · exact absurd h2 e
      · exact ⟨k, by omega, h2⟩
theorem ord_full {n : Nat} {l : List Int} (h : ordE n l = 0) {x : Int} (h0 : 0 ≤ x) (hx : x < n) : 0 ≤ placeF l x := by
  obtain ⟨hl, hs⟩ := ordE_zero h
  have hl : l.length = n := by omega
  obtain ⟨k, hk, e⟩ := full_of n (fun k => (l.getD k 0).toNat) (fun k hk => by have := someE_zero hs (show k < l.length by omega); show (l.getD k 0).toNat < n; omega)
    (fun i k h1 h2 e => by
      have a := someE_zero hs (show i < l.length by omega)
      have b := someE_zero hs (show k < l.length by omega)
      have e' : (l.getD i 0).toNat = (l.getD k 0).toNat := e
      have : l.getD i 0 = l.getD k 0 := by omega
      rw [this] at a; omega) x.toNat (by omega)
  have e' : (l.getD k 0).toNat = x.toNat := e
  have a := someE_zero hs (show k < l.length by omega)
  have : l.getD k 0 = x := by omega
  rw [← this]; omega
structure VOk (n : Nat) (L : List (Int × List Int × Unit)) : Prop where
  n1 : 1 ≤ n
  n6 : n ≤ 6
  len : L.length ≤ 30
  ord : ∀ b, b < L.length → ordE n (orF L b) = 0
  cnt : ∀ b, b < L.length → 0 ≤ cnF L b ∧ cnF L b ≤ 1000
theorem vok {n : Nat} {L : List (Int × List Int × Unit)} (h : voteE n L = 0) : VOk n L := by
  unfold voteE at h
  split at h
  · omega
  · rename_i h1
    split at h
    · omega
    · rename_i h2
      have hb : ∀ b, b < L.length → balE n (L.getD b (0, [], ())) = 0 := fun b hb => firstE_zero h b hb
      have hb2 : ∀ b, b < L.length → ordE n (orF L b) = 0 ∧ 0 ≤ cnF L b ∧ cnF L b ≤ 1000 := fun b hb' => by
        have h3 := hb b hb'
        unfold balE at h3
        rw [fold_o, fold_c] at h3
        split at h3
        · rename_i h4; exact absurd h3 h4
        · rename_i h4
          split at h3
          · omega
          · exact ⟨by simpa using h4, by omega, by omega⟩
      exact ⟨by omega, by omega, by omega, fun b hb' => (hb2 b hb').1, fun b hb' => (hb2 b hb').2⟩
theorem VOk.olen {n : Nat} {L : List (Int × List Int × Unit)} (h : VOk n L) (b : Nat) (hb : b < L.length) : ((orF L b).length : Int) = (n : Nat) := (ordE_zero (h.ord b hb)).1
/-- How many rank x above y, of the first ballots. -/
def prefTo (L : List (Int × List Int × Unit)) (x y : Int) : Nat → Int := sumTo fun b => if placeF (orF L b) x < placeF (orF L b) y then cnF L b else 0
def prefF (L : List (Int × List Int × Unit)) (x y : Int) : Int := prefTo L x y L.length
section
variable {n : Nat} {L : List (Int × List Int × Unit)}
theorem prefTo_bd (h : VOk n L) (x y : Int) (b : Nat) (hb : b ≤ L.length) : 0 ≤ prefTo L x y b ∧ prefTo L x y b ≤ 30000 := by
  have h30 := h.len
  have := sumTo_bd (f := fun b => if placeF (orF L b) x < placeF (orF L b) y then cnF L b else 0) (A := 0) (B := 1000) (n := b) fun j hj => by
    have := h.cnt j (by omega)
    split <;> omega
  unfold prefTo
  omega
theorem pref_yes {x y : Int} {i : Nat} (h : placeF (orF L i) x < placeF (orF L i) y) : prefTo L x y i + cnF L i = prefTo L x y (i + 1) := by
  simp only [prefTo, sumTo]; rw [if_pos h]
theorem pref_no {x y : Int} {i : Nat} (h : ¬ placeF (orF L i) x < placeF (orF L i) y) : prefTo L x y i = prefTo L x y (i + 1) := by
  simp only [prefTo, sumTo]; rw [if_neg h, Int.add_zero]
end
/-! ### Rows of numbers -/
def SqM (n : Nat) (rows : List (List Int)) : Prop := rows.length = n ∧ ∀ k, k < n → (rows.getD k []).length = n
def atM (rows : List (List Int)) (x y : Int) : Int := (rows.getD x.toNat []).getD y.toNat 0
def setM (rows : List (List Int)) (x y v : Int) : List (List Int) := rows.set x.toNat ((rows.getD x.toNat []).set y.toNat v)
def mkM (n : Nat) (f : Int → Int → Int) : List (List Int) := mapr n fun x => mapr n fun y => f x y
theorem sq_zero (n : Nat) : SqM n (List.replicate n (List.replicate n 0)) := by
  refine ⟨by simp, fun k hk => ?_⟩
  simp [List.getD_eq_getElem?_getD, List.getElem?_replicate, hk]
theorem at_zero {n : Nat} {x y : Int} (hx : x < n) (hy : y < n) : atM (List.replicate n (List.replicate n 0)) x y = 0 := by
  unfold atM
  simp only [List.getD_eq_getElem?_getD, List.getElem?_replicate]
  split <;> simp [List.getElem?_replicate]
  split <;> rfl
theorem setM_sq {n : Nat} {rows : List (List Int)} {x y v : Int} (h : SqM n rows) (hx : 0 ≤ x ∧ x < n) : SqM n (setM rows x y v) := by
  refine ⟨by unfold setM; simpa using h.1, fun k hk => ?_⟩
  unfold setM
  rw [rows_set (by rw [h.1]; omega)]
  split
  · rw [List.length_set]; exact h.2 _ (by omega)
  · exact h.2 k hk
theorem setM_at {n : Nat} {rows : List (List Int)} {x y v a b : Int} (h : SqM n rows) (hx : 0 ≤ x ∧ x < n) (hy : 0 ≤ y ∧ y < n) (ha : 0 ≤ a) (hb : 0 ≤ b) : atM (setM rows x y v) a b = if a = x ∧ b = y then v else atM rows a b := by
  unfold setM atM
  rw [rows_set (by rw [h.1]; omega)]
  by_cases e : a.toNat = x.toNat
  · have e1 : a = x := by omega
    rw [if_pos e]
    subst e1
    by_cases e2 : b = y
    · subst e2
      rw [if_pos ⟨rfl, rfl⟩, List.getD_eq_getElem?_getD, List.getElem?_set, if_pos rfl, if_pos (by rw [h.2 _ (by omega)]; omega)]; rfl
    · rw [if_neg fun c => e2 c.2, List.getD_eq_getElem?_getD, List.getElem?_set, if_neg (by omega), ← List.getD_eq_getElem?_getD]
  · rw [if_neg e, if_neg fun c => e (by rw [c.1])]
@[simp] theorem mkM_length (n : Nat) (f : Int → Int → Int) : (mkM n f).length = n := by simp [mkM]
theorem mkM_row {n : Nat} {f : Int → Int → Int} {x : Nat} (h : x < n) : (mkM n f).getD x [] = mapr n fun y => f x y := mapr_getD _ h
theorem mkM_at {n : Nat} {f : Int → Int → Int} {x y : Int} (hx : 0 ≤ x ∧ x < n) (hy : 0 ≤ y ∧ y < n) : atM (mkM n f) x y = f x y := by
  unfold atM
  rw [mkM_row (by omega), mapr_getD _ (by omega), Int.toNat_of_nonneg hx.1, Int.toNat_of_nonneg hy.1]
theorem mkM_of {n : Nat} {f : Int → Int → Int} {rows : List (List Int)} (h : SqM n rows) (e : ∀ x, 0 ≤ x ∧ x < (n : Int) → ∀ y, 0 ≤ y ∧ y < (n : Int) → atM rows x y = f x y) : rows = mkM n f := by
  refine List.ext_getElem (by rw [mkM_length]; exact h.1) fun i h1 h2 => ?_
  have hi : i < n := by rw [← h.1]; exact h1
  have a : rows.getD i [] = rows[i] := by simp [List.getD_eq_getElem?_getD, h1]
  have b : (mkM n f).getD i [] = (mkM n f)[i] := by simp only [List.getD_eq_getElem?_getD, List.getElem?_eq_getElem h2, Option.getD_some]
  rw [← a, ← b, mkM_row hi]
  refine List.ext_getElem (by rw [mapr_length]; exact h.2 i hi) fun j h3 h4 => ?_
  have hj : j < n := by rw [mapr_length] at h4; exact h4
  have c : (rows.getD i []).getD j 0 = (rows.getD i [])[j] := by simp only [List.getD_eq_getElem?_getD (l := rows.getD i []), List.getElem?_eq_getElem h3, Option.getD_some]
  have d : (mapr n fun y => f i y).getD j 0 = (mapr n fun y => f i y)[j] := by simp only [List.getD_eq_getElem?_getD, List.getElem?_eq_getElem h4, Option.getD_some]
  rw [← c, ← d, mapr_getD _ hj]
  exact e i (by omega) j (by omega)
theorem mkM_same {n : Nat} {f g : Int → Int → Int} (e : ∀ x, 0 ≤ x ∧ x < (n : Int) → ∀ y, 0 ≤ y ∧ y < (n : Int) → f x y = g x y) : mkM n f = mkM n g := mapr_same fun x hx => mapr_same fun y hy => e x (by omega) y (by omega)
def prM (n : Nat) (L : List (Int × List Int × Unit)) : List (List Int) := mkM n (prefF L)
/-- What one ballot adds, so far. -/
def inv4 (O : List Int) (c : Int) (i z : Nat) (x y : Int) : Int := if (placeF O x < (i : Int) ∨ (placeF O x = (i : Int) ∧ placeF O y < (i + 1 + z : Nat))) ∧ placeF O x < placeF O y then c else 0
structure MatI (n : Nat) (rows : List (List Int)) (f : Int → Int → Int) : Prop where
  sq : SqM n rows
  at' : ∀ x, 0 ≤ x ∧ x < (n : Int) → ∀ y, 0 ≤ y ∧ y < (n : Int) → atM rows x y = f x y
section
variable {n : Nat} {rows : List (List Int)} {f g : Int → Int → Int}
theorem MatI.zero (n : Nat) : MatI n (List.replicate n (List.replicate n 0)) fun _ _ => 0 := ⟨sq_zero n, fun x hx y hy => at_zero hx.2 hy.2⟩
theorem MatI.congr (h : MatI n rows f) (e : ∀ x, 0 ≤ x ∧ x < (n : Int) → ∀ y, 0 ≤ y ∧ y < (n : Int) → f x y = g x y) : MatI n rows g := ⟨h.sq, fun x hx y hy => (h.at' x hx y hy).trans (e x hx y hy)⟩
theorem MatI.set (h : MatI n rows f) {x y : Int} (hx : 0 ≤ x ∧ x < (n : Int)) (hy : 0 ≤ y ∧ y < (n : Int)) (v : Int) : MatI n (setM rows x y v) fun a b => if a = x ∧ b = y then v else f a b :=
  ⟨setM_sq h.sq hx, fun a ha b hb => by
    rw [setM_at h.sq hx hy ha.1 hb.1]
    split
    · rfl
    · exact h.at' a ha b hb⟩
theorem MatI.eq (h : MatI n rows f) : rows = mkM n f := mkM_of h.sq h.at'
theorem MatI.row (h : MatI n rows f) {x : Int} (hx : 0 ≤ x ∧ x < (n : Int)) : (rows.getD x.toNat []).length = n := h.sq.2 _ (by omega)
end
section
variable {n : Nat} {O : List Int} {c : Int}
theorem ord_at (h : ordE n O = 0) {k : Nat} (hk : k < n) : 0 ≤ O.getD k 0 ∧ O.getD k 0 < (n : Int) ∧ placeF O (O.getD k 0) = (k : Nat) := by
  obtain ⟨hl, hs⟩ := ordE_zero h
  exact someE_zero hs (by omega)
theorem ord_is (h : ordE n O = 0) {k : Nat} (hk : k < n) {x : Int} : placeF O x = (k : Nat) ↔ x = O.getD k 0 := by
  have h1 := ord_at h hk
  constructor
  · intro e
    exact placeF_inj (by omega) (e.trans h1.2.2.symm)
  · rintro rfl; exact h1.2.2
theorem ord_lt (h : ordE n O = 0) (x : Int) : placeF O x < (n : Nat) := by
  have := (ordE_zero h).1
  have := (placeF_lt (l := O) (x := x)).1
  omega
theorem inv4_start {x y : Int} (hx : 0 ≤ placeF O x) : inv4 O c 0 0 x y = 0 := by
  unfold inv4; rw [if_neg]; rintro ⟨h1 | h1, h2⟩ <;> omega
theorem inv4_step (h : ordE n O = 0) {i z : Nat} (hz : i + 1 + z < n) {x y : Int} {p0 p : Int} (hp : x = O.getD i 0 ∧ y = O.getD (i + 1 + z) 0 → p0 = p) : (if x = O.getD i 0 ∧ y = O.getD (i + 1 + z) 0 then p0 + inv4 O c i z (O.getD i 0) (O.getD (i + 1 + z) 0) + c else p + inv4 O c i z x y) = p + inv4 O c i (z + 1) x y := by
  have h1 := ord_at h (show i < n by omega)
  have h2 := ord_at h hz
  have e1 := ord_is h (show i < n by omega) (x := x)
  have e2 := ord_is h hz (x := y)
  by_cases e : x = O.getD i 0 ∧ y = O.getD (i + 1 + z) 0
  · rw [if_pos e, hp e, e.1, e.2]
    unfold inv4
    rw [h1.2.2, h2.2.2, if_neg (by omega), if_pos (by omega)]; omega
  · rw [if_neg e]
    have : ¬ (placeF O x = (i : Nat) ∧ placeF O y = (i + 1 + z : Nat)) := fun c => e ⟨e1.1 c.1, e2.1 c.2⟩
    unfold inv4
    by_cases h3 : (placeF O x < (i : Int) ∨ (placeF O x = (i : Int) ∧ placeF O y < (i + 1 + z : Nat))) ∧ placeF O x < placeF O y
    · rw [if_pos h3, if_pos (by omega)]
    · rw [if_neg h3, if_neg (by omega)]
theorem inv4_next (h : ordE n O = 0) {i z : Nat} (hz : i + 1 + z = n) {x y : Int} : inv4 O c i z x y = inv4 O c (i + 1) 0 x y := by
  have h1 := ord_lt h x
  have h2 := ord_lt h y
  unfold inv4
  by_cases h3 : (placeF O x < (i : Int) ∨ (placeF O x = (i : Int) ∧ placeF O y < (i + 1 + z : Nat))) ∧ placeF O x < placeF O y
  · rw [if_pos h3, if_pos (by omega)]
  · rw [if_neg h3, if_neg (by omega)]
theorem inv4_end (h : ordE n O = 0) {x y : Int} : inv4 O c n 0 x y = if placeF O x < placeF O y then c else 0 := by
  have h1 := ord_lt h x
  unfold inv4
  by_cases h3 : placeF O x < placeF O y
  · rw [if_pos h3, if_pos (by omega)]
  · rw [if_neg h3, if_neg (by omega)]
end
theorem prefTo_succ {L : List (Int × List Int × Unit)} {x y : Int} {b : Nat} : prefTo L x y b + (if placeF (orF L b) x < placeF (orF L b) y then cnF L b else 0) = prefTo L x y (b + 1) := rfl
theorem inv4_bd {O : List Int} {c : Int} {i z : Nat} {x y : Int} (h : 0 ≤ c ∧ c ≤ 1000) : 0 ≤ inv4 O c i z x y ∧ inv4 O c i z x y ≤ 1000 := by unfold inv4; split <;> omega

set_option maxRecDepth 1000000 in
set_option maxHeartbeats 1000000 in
theorem Prefer_fc (n : Nat) (L : List (Int × List Int × Unit)) (hv : voteE n L = 0) (x y : Int) : FC Try.prog 61 [.seq (Int × List Int × Unit) (0, [], ()) (fun b => [.i b.1, .ints b.2.1]) L, .i x, .i y] (.i (prefF L x y)) := by
  refine FC.intro Try.func61 rfl (Nat.le_of_ble_eq_true rfl) fun hfit => ?_
  have fit0 := hfit _ (.head _)
  have fit1 : -9223372036854775808 ≤ (x : Int) ∧ (x : Int) ≤ 9223372036854775807 := (hfit _ (.tail _ (.head _))).int64
  have fit2 : -9223372036854775808 ≤ (y : Int) ∧ (y : Int) ≤ 9223372036854775807 := (hfit _ (.tail _ (.tail _ (.head _)))).int64
  have hV := vok hv
  have hL30 := hV.len
  refine awp_seq ?_
  refine awp_region rfl (.n (fun _ => op_assign (.plain rfl)) (.nil _)) ?_
  refine awp_seq ?_
  refine awp_region rfl (.n (fun _ => op_assign (.plain rfl)) (.nil _)) ?_
  refine awp_seq ?_
  refine awp_seq ?_
  refine awp_region rfl (.n (fun _ => op_assign (.plain rfl)) (.nil _)) ?_
  refine awp_block ?_
  refine awp_loop (σ := Nat) (fun (i : Nat) => i ≤ L.length) (fun (i : Nat) => ⟨[(0, .pv (.seq (Int × List Int × Unit) (0, [], ()) (fun b => [.i b.1, .ints b.2.1]) L)), (1, .pv (.i x)), (2, .pv (.i y)), (7, .int (prefTo L x y i)), (8, .int (i : Nat))], []⟩) (fun (i : Nat) => L.length - i) 0 ?_ (Ent.kept ⟨rfl, rfl, rfl, rfl, rfl, trivial⟩ trivial) ?_
  · exact Nat.zero_le _
  rintro i hp
  try dsimp only at hp
  have hi := hp
  refine awp_seq ?_
  refine awp_seq ?_
  refine awp_region rfl (.n (fun _ => op_move (.plain rfl)) (.n (fun _ => op_move (.plain rfl)) (.n (fun _ => op_len (s := 0) Try.underlying22 (.plain rfl)) (.n (fun _ => op_lss (.plain rfl) (.plain rfl)) (.nil _))))) ?_
  refine awp_cond rfl (fun h => ?_) (fun h => ?_)
  · (try simp only [decide_eq_true_eq, decide_eq_false_iff_not, Bool.and_eq_true, Bool.or_eq_true, Bool.and_eq_false_iff, Bool.or_eq_false_iff, Bool.not_eq_true', Bool.not_eq_false', Bool.not_eq_true, Bool.not_eq_false, Bool.true_eq_false, Bool.false_eq_true] at h); (try simp only [fold_c, fold_o, Int.toNat_natCast] at h)
    refine awp_skip ?_
    refine awp_seq ?_
    refine awp_block ?_
    refine awp_seq ?_
    refine awp_region rfl (.n (fun _ => op_move (.plain rfl)) (.n (fun _ => op_move (.plain rfl)) (.n (fun _ => op_indexAddrN Try.underlying22 Try.sizeOf40 (.plain rfl) (.plain rfl) (fun _ => rfl) ?_) (.n (fun _ => op_fieldAddr Try.underlying40 rfl rfl Try.sizeOf23 (.plain rfl)) (.n (fun _ => op_load Try.isAgg23 (.plain rfl)) (.n (fun _ => op_move (.plain rfl)) (.n (fun _ => op_call2 Try.call25 (.plain rfl) (.plain rfl) (Place_fc _ _)) (.n (fun _ => op_assign (.plain rfl)) (.nil _))))))))) ?_
    · omega
    refine awp_seq ?_
    refine awp_region rfl (.n (fun _ => op_move (.plain rfl)) (.n (fun _ => op_move (.plain rfl)) (.n (fun _ => op_indexAddrN Try.underlying22 Try.sizeOf40 (.plain rfl) (.plain rfl) (fun _ => rfl) ?_) (.n (fun _ => op_fieldAddr Try.underlying40 rfl rfl Try.sizeOf23 (.plain rfl)) (.n (fun _ => op_load Try.isAgg23 (.plain rfl)) (.n (fun _ => op_move (.plain rfl)) (.n (fun _ => op_call2 Try.call25 (.plain rfl) (.plain rfl) (Place_fc _ _)) (.n (fun _ => op_assign (.plain rfl)) (.nil _))))))))) ?_
    · omega
    refine awp_seq ?_
    refine awp_region rfl (.n (fun _ => op_move (.plain rfl)) (.n (fun _ => op_move (.plain rfl)) (.n (fun _ => op_lss (.plain rfl) (.plain rfl)) (.nil _)))) ?_
    refine awp_cond rfl (fun h => ?_) (fun h => ?_)
    · (try simp only [decide_eq_true_eq, decide_eq_false_iff_not, Bool.and_eq_true, Bool.or_eq_true, Bool.and_eq_false_iff, Bool.or_eq_false_iff, Bool.not_eq_true', Bool.not_eq_false', Bool.not_eq_true, Bool.not_eq_false, Bool.true_eq_false, Bool.false_eq_true] at h); (try simp only [fold_c, fold_o, Int.toNat_natCast] at h)
      have hpb := pref_yes h
      refine awp_region rfl (.n (fun _ => op_move (.plain rfl)) (.n (fun _ => op_move (.plain rfl)) (.n (fun _ => op_move (.plain rfl)) (.n (fun _ => op_indexAddrN Try.underlying22 Try.sizeOf40 (.plain rfl) (.plain rfl) (fun _ => rfl) ?_) (.n (fun _ => op_fieldAddr Try.underlying40 rfl rfl Try.sizeOf3 (.plain rfl)) (.n (fun _ => op_load Try.isAgg3 (.plain rfl)) (.n (fun _ => op_add (.plain rfl) (.plain rfl) ?_) (.n (fun _ => op_assign (.plain rfl)) (.nil _))))))))) ?_
      · omega
      · have h9 := prefTo_bd hV x y i (by omega)
        have h8 := hV.cnt i (by omega)
        try simp only [fold_c, fold_o, Int.toNat_natCast]
        unfold InR; omega
      refine awp_region rfl (.n (fun _ => op_move (.plain rfl)) (.n (fun _ => op_add (.plain rfl) (.plain rfl) ?_) (.n (fun _ => op_assign (.plain rfl)) (.nil _)))) ?_
      · unfold InR; omega
      exact ⟨i + 1, by omega, by dsimp only; omega, (Ent.kept ⟨rfl, rfl, rfl, (congrArg (fun n : Int => some (SV.int n)) (hpb)), rfl, trivial⟩ trivial)⟩
    · (try simp only [decide_eq_true_eq, decide_eq_false_iff_not, Bool.and_eq_true, Bool.or_eq_true, Bool.and_eq_false_iff, Bool.or_eq_false_iff, Bool.not_eq_true', Bool.not_eq_false', Bool.not_eq_true, Bool.not_eq_false, Bool.true_eq_false, Bool.false_eq_true] at h); (try simp only [fold_c, fold_o, Int.toNat_natCast] at h)
      have hpb := pref_no h
      refine awp_skip ?_
      refine awp_region rfl (.n (fun _ => op_move (.plain rfl)) (.n (fun _ => op_add (.plain rfl) (.plain rfl) ?_) (.n (fun _ => op_assign (.plain rfl)) (.nil _)))) ?_
      · unfold InR; omega
      exact ⟨i + 1, by omega, by dsimp only; omega, (Ent.kept ⟨rfl, rfl, rfl, (congrArg (fun n : Int => some (SV.int n)) (hpb)), rfl, trivial⟩ trivial)⟩
  · (try simp only [decide_eq_true_eq, decide_eq_false_iff_not, Bool.and_eq_true, Bool.or_eq_true, Bool.and_eq_false_iff, Bool.or_eq_false_iff, Bool.not_eq_true', Bool.not_eq_false', Bool.not_eq_true, Bool.not_eq_false, Bool.true_eq_false, Bool.false_eq_true] at h); (try simp only [fold_c, fold_o, Int.toNat_natCast] at h)
    refine awp_exit ?_
    refine awp_seq ?_
    refine awp_region rfl (.n (fun _ => op_move (.plain rfl)) (.n (fun _ => op_assign (.plain rfl)) (.nil _))) ?_
    refine awp_ret ?_
    refine retQ.ret ?_
    refine ret1 rfl rfl rfl ?_
    obtain rfl : i = L.length := by omega
    rfl

set_option maxRecDepth 1000000 in
set_option maxHeartbeats 4000000 in
theorem pairs_fc (n : Nat) (L : List (Int × List Int × Unit)) (hv : voteE n L = 0) : FC Try.prog 56 [.i (n : Nat), .seq (Int × List Int × Unit) (0, [], ()) (fun b => [.i b.1, .ints b.2.1]) L] (.rows (prM n L)) := by
  refine FC.intro Try.func56 rfl (Nat.le_of_ble_eq_true rfl) fun hfit => ?_
  have fit0 : -9223372036854775808 ≤ ((n : Nat) : Int) ∧ ((n : Nat) : Int) ≤ 9223372036854775807 := (hfit _ (.head _)).int64
  have fit1 := hfit _ (.tail _ (.head _))
  have hV := vok hv
  have hL30 := hV.len
  have hn := hV.n6
  have hn1 := hV.n1
  refine awp_seq ?_
  refine awp_region rfl (.n (fun _ => op_assign (.plain rfl)) (.nil _)) ?_
  refine awp_seq ?_
  refine awp_region rfl (.n (fun _ => op_move (.plain rfl)) (.e (op_makeSl 14 ety31 (.plain rfl) (.plain rfl) rfl ?_) rfl (.n (fun _ => op_assign (.plain rfl)) (.nil _)))) ?_
  · omega
  refine awp_seq ?_
  refine awp_seq ?_
  refine awp_region rfl (.n (fun _ => op_move (.plain rfl)) (.n (fun _ => op_lenSl Try.underlying31 (.plain rfl) ?_) (.n (fun _ => op_move (.plain rfl)) (.nil _)))) ?_
  · omega
  refine awp_block ?_
  refine awp_loop (σ := Nat) (fun (iq : Nat) => iq ≤ n) (fun (iq : Nat) => ⟨[(0, .pv (.i (n : Nat))), (1, .pv (.seq (Int × List Int × Unit) (0, [], ()) (fun b => [.i b.1, .ints b.2.1]) L)), (5, .sl 14 n), (16, .int (n : Nat)), (17, .int (iq : Nat))], (14, .box (rowC 200 n iq)) :: rowsH 3 200 (List.replicate iq (List.replicate n 0))⟩) (fun (iq : Nat) => n - iq) 0 ?_ (Ent.kept ⟨rfl, rfl, rfl, rfl, rfl, trivial⟩ ⟨(congrArg (fun cs => some (Blk.box cs)) (rowC_zero 200 n)), trivial⟩) ?_
  · exact Nat.zero_le _
  rintro iq hp
  try dsimp only at hp
  have hi := hp
  refine awp_seq ?_
  refine awp_region rfl (.n (fun _ => op_lss (.plain rfl) (.plain rfl)) (.nil _)) ?_
  refine awp_seq ?_
  refine awp_cond rfl (fun h => ?_) (fun h => ?_)
  · (try simp only [decide_eq_true_eq, decide_eq_false_iff_not, Bool.and_eq_true, Bool.or_eq_true, Bool.and_eq_false_iff, Bool.or_eq_false_iff, Bool.not_eq_true', Bool.not_eq_false', Bool.not_eq_true, Bool.not_eq_false, Bool.true_eq_false, Bool.false_eq_true] at h); (try simp only [fold_c, fold_o, Int.toNat_natCast] at h)
    refine awp_skip ?_
    refine awp_seq ?_
    refine awp_block ?_
    refine awp_seq ?_
    refine awp_region rfl (.n (fun _ => op_move (.plain rfl)) (.n (fun _ => op_assign (.plain rfl)) (.nil _))) ?_
    refine awp_region rfl (.n (fun _ => op_move (.plain rfl)) (.n (fun _ => op_move (.plain rfl)) (.n (fun _ => op_move (.plain rfl)) (.e (op_make (α := Int) (d := 0) (f := (fun n => [.int .i64 n])) (iq + 200) 0 ety23 (.plain rfl) (.plain rfl) (fun _ => rfl) rfl (men_mat (.inr (by omega))) ?_) (by simp [freshIn, upd, SV.men, SV.menL]) (.n (fun _ => op_indexAddrSl Try.underlying31 Try.sizeOf23 (.plain rfl) (.plain rfl) ?_) (.e (op_storeR Try.sizeOf23 (.plain rfl) (.plain rfl) (by rw [look_skip (by omega)]; exact look_here) (by simp; omega) rfl (by simp) (fun iq h => by cases h; exact ⟨_, _, _, _, _, _, look_here⟩)) rfl (.nil _))))))) ?_
    · omega
    · omega
    refine awp_region rfl (.n (fun _ => op_add (.plain rfl) (.plain rfl) ?_) (.n (fun _ => op_move (.plain rfl)) (.nil _))) ?_
    · unfold InR; omega
    exact ⟨iq + 1, by omega, by dsimp only; omega, (Ent.kept ⟨rfl, rfl, rfl, rfl, rfl, trivial⟩ ⟨(congrArg (fun cs => some (Blk.box cs)) (rowC_set (by omega))), (by rw [List.replicate_succ']; exact kept_push (by rw [List.length_replicate, look_skip (by omega)]; exact look_here) fun k hk => by (try dsimp only at hk); rw [List.length_replicate] at hk; rw [look_skip (by omega), look_skip (by omega), look_skip (by omega)]; exact rowsH_at (by simpa using hk))⟩)⟩
  · (try simp only [decide_eq_true_eq, decide_eq_false_iff_not, Bool.and_eq_true, Bool.or_eq_true, Bool.and_eq_false_iff, Bool.or_eq_false_iff, Bool.not_eq_true', Bool.not_eq_false', Bool.not_eq_true, Bool.not_eq_false, Bool.true_eq_false, Bool.false_eq_true] at h); (try simp only [fold_c, fold_o, Int.toNat_natCast] at h)
    refine awp_exit ?_
    refine awp_seq ?_
    refine awp_seq ?_
    refine awp_region rfl (.n (fun _ => op_move (.plain rfl)) (.n (fun _ => op_len (s := 0) Try.underlying22 (.plain rfl)) (.n (fun _ => op_move (.plain rfl)) (.nil _)))) ?_
    refine awp_block ?_
    refine awp_loop (σ := Nat × List (List Int)) (fun (s : Nat × List (List Int)) => s.1 ≤ L.length ∧ MatI n s.2 fun x y => prefTo L x y s.1) (fun (s : Nat × List (List Int)) => ⟨[(0, .pv (.i (n : Nat))), (5, .sl 14 n), (26, .pv (.seq (Int × List Int × Unit) (0, [], ()) (fun b => [.i b.1, .ints b.2.1]) L)), (27, .int (L.length : Nat)), (28, .int (s.1 : Nat))], (14, .box (rowC 200 n n)) :: rowsH 3 200 s.2⟩) (fun (s : Nat × List (List Int)) => L.length - s.1) (0, List.replicate n (List.replicate n 0)) ?_ (Ent.kept ⟨rfl, rfl, rfl, rfl, rfl, trivial⟩ ⟨(congrArg (fun cs => some (Blk.box cs)) (by rw [show iq = n by omega])), (by rw [show iq = n by omega]; exact kept_rows fun k hk => by (try dsimp only at hk); rw [look_skip (by simp at hk; omega)]; exact rowsH_at (by first | exact hk | omega))⟩) ?_
    · exact ⟨Nat.zero_le _, MatI.zero n⟩
    rintro ⟨bq, rows⟩ hp
    try dsimp only at hp
    obtain ⟨hb, hR⟩ := hp
    have hrl := hR.sq.1
    refine awp_seq ?_
    refine awp_region rfl (.n (fun _ => op_lss (.plain rfl) (.plain rfl)) (.nil _)) ?_
    refine awp_seq ?_
    refine awp_cond rfl (fun h => ?_) (fun h => ?_)
    · (try simp only [decide_eq_true_eq, decide_eq_false_iff_not, Bool.and_eq_true, Bool.or_eq_true, Bool.and_eq_false_iff, Bool.or_eq_false_iff, Bool.not_eq_true', Bool.not_eq_false', Bool.not_eq_true, Bool.not_eq_false, Bool.true_eq_false, Bool.false_eq_true] at h); (try simp only [fold_c, fold_o, Int.toNat_natCast] at h)
      have hO := hV.ord bq (by omega)
      have hOl := hV.olen bq (by omega)
      have hcb := hV.cnt bq (by omega)
      refine awp_skip ?_
      refine awp_seq ?_
      refine awp_block ?_
      refine awp_seq ?_
      refine awp_region rfl (.n (fun _ => op_indexAddrN Try.underlying22 Try.sizeOf40 (.plain rfl) (.plain rfl) (fun _ => rfl) ?_) (.n (fun _ => op_load_agg Try.isAgg40 Try.sizeOf40 (.plain rfl) (Nat.le_of_ble_eq_true rfl)) (.e (op_alloc 8 Try.zeroValue40 rfl (men_mat (.inl (by decide))) rfl) rfl (.e (op_storeRA Try.sizeOf40 (.plain rfl) (.plain rfl) rfl rfl (Nat.le_of_ble_eq_true rfl) rfl) rfl (.nil _))))) ?_
      · omega
      refine awp_seq ?_
      refine awp_region rfl (.n (fun _ => op_fieldAddrR Try.underlying40 rfl rfl Try.sizeOf23 (.plain rfl)) (.r (op_loadR Try.isAgg23 (.plain rfl) rfl rfl) (.n (fun _ => op_len (s := 0) Try.underlying23 (.plain rfl)) (.n (fun _ => op_move (.plain rfl)) (.nil _))))) ?_
      refine awp_block ?_
      refine awp_loop (σ := Nat × List (List Int)) (fun (s : Nat × List (List Int)) => s.1 ≤ n ∧ MatI n s.2 fun x y => prefTo L x y bq + inv4 (orF L bq) (cnF L bq) s.1 0 x y) (fun (s : Nat × List (List Int)) => ⟨[(0, .pv (.i (n : Nat))), (5, .sl 14 n), (8, .ref 8 0), (26, .pv (.seq (Int × List Int × Unit) (0, [], ()) (fun b => [.i b.1, .ints b.2.1]) L)), (27, .int (L.length : Nat)), (28, .int (bq : Nat)), (33, .pv (.ints (orF L bq))), (34, .int (n : Nat)), (35, .int (s.1 : Nat))], (8, .box [.pv (.i (cnF L bq)), .pv (.ints (orF L bq))]) :: (14, .box (rowC 200 n n)) :: rowsH 3 200 s.2⟩) (fun (s : Nat × List (List Int)) => n - s.1) (0, rows) ?_ (Ent.kept ⟨rfl, rfl, rfl, rfl, rfl, rfl, rfl, (congrArg (fun n : Int => some (SV.int n)) (hOl)), rfl, trivial⟩ ⟨rfl, rfl, (kept_rows fun k hk => by (try dsimp only at hk); rw [look_skip (by omega), look_skip (by omega), look_skip (by omega)]; exact rowsH_at (by first | exact hk | omega))⟩) ?_
      · exact ⟨Nat.zero_le _, hR.congr fun x hx y hy => by rw [inv4_start (ord_full hO hx.1 hx.2)]; omega⟩
      rintro ⟨iq, rows2⟩ hp
      try dsimp only at hp
      obtain ⟨hi2, hR2⟩ := hp
      have hrl2 := hR2.sq.1
      refine awp_seq ?_
      refine awp_region rfl (.n (fun _ => op_lss (.plain rfl) (.plain rfl)) (.nil _)) ?_
      refine awp_seq ?_
      refine awp_cond rfl (fun h => ?_) (fun h => ?_)
      · (try simp only [decide_eq_true_eq, decide_eq_false_iff_not, Bool.and_eq_true, Bool.or_eq_true, Bool.and_eq_false_iff, Bool.or_eq_false_iff, Bool.not_eq_true', Bool.not_eq_false', Bool.not_eq_true, Bool.not_eq_false, Bool.true_eq_false, Bool.false_eq_true] at h); (try simp only [fold_c, fold_o, Int.toNat_natCast] at h)
        have hxo := ord_at hO (show iq < n by omega)
        have hx := And.intro hxo.1 hxo.2.1
        refine awp_skip ?_
        refine awp_seq ?_
        refine awp_block ?_
        refine awp_seq ?_
        refine awp_region rfl (.n (fun _ => op_move (.plain rfl)) (.n (fun _ => op_indexAddrN Try.underlying23 Try.sizeOf3 (.plain rfl) (.plain rfl) (fun _ => rfl) ?_) (.n (fun _ => op_load Try.isAgg3 (.plain rfl)) (.n (fun _ => op_assign (.plain rfl)) (.n (fun _ => op_assign (.plain rfl)) (.nil _)))))) ?_
        · omega
        refine awp_seq ?_
        refine awp_region rfl (.n (fun _ => op_fieldAddrR Try.underlying40 rfl rfl Try.sizeOf23 (.plain rfl)) (.r (op_loadR Try.isAgg23 (.plain rfl) rfl rfl) (.n (fun _ => op_move (.plain rfl)) (.n (fun _ => op_add (.plain rfl) (.plain rfl) ?_) (.n (fun _ => op_sliceI (kh := .i64) Try.underlying23 Try.sizeOf3 (fun _ => rfl) (.plain rfl) (.plain rfl) rfl ?_) (.n (fun _ => op_len (s := 0) Try.underlying23 (.plain rfl)) (.n (fun _ => op_move (.plain rfl)) (.nil _)))))))) ?_
        · unfold InR; omega
        · omega
        refine awp_block ?_
        refine awp_loop (σ := Nat × List (List Int)) (fun (s : Nat × List (List Int)) => iq + 1 + s.1 ≤ n ∧ MatI n s.2 fun x y => prefTo L x y bq + inv4 (orF L bq) (cnF L bq) iq s.1 x y) (fun (s : Nat × List (List Int)) => ⟨[(0, .pv (.i (n : Nat))), (5, .sl 14 n), (8, .ref 8 0), (10, .int ((orF L bq).getD iq 0)), (26, .pv (.seq (Int × List Int × Unit) (0, [], ()) (fun b => [.i b.1, .ints b.2.1]) L)), (27, .int (L.length : Nat)), (28, .int (bq : Nat)), (33, .pv (.ints (orF L bq))), (34, .int (n : Nat)), (35, .int (iq : Nat)), (44, .pv (.ints ((orF L bq).drop (iq + 1)))), (45, .int ((n - (iq + 1) : Nat) : Nat)), (46, .int (s.1 : Nat))], (8, .box [.pv (.i (cnF L bq)), .pv (.ints (orF L bq))]) :: (14, .box (rowC 200 n n)) :: rowsH 3 200 s.2⟩) (fun (s : Nat × List (List Int)) => n - s.1) (0, rows2) ?_ (Ent.kept ⟨rfl, rfl, rfl, rfl, rfl, rfl, rfl, rfl, rfl, rfl, (congrArg (fun l => some (SV.pv (.ints l))) (by have := hOl; rw [List.take_of_length_le (by omega)]; rfl)), (congrArg (fun n : Int => some (SV.int n)) (by have := hOl; simp only [List.length_drop, List.length_take]; omega)), rfl, trivial⟩ ⟨rfl, rfl, (kept_rows fun k hk => by (try dsimp only at hk); rw [look_skip (by omega), look_skip (by omega)]; exact rowsH_at (by first | exact hk | omega))⟩) ?_
        · exact ⟨by dsimp only; omega, hR2⟩
        rintro ⟨z, rows3⟩ hp
        try dsimp only at hp
        obtain ⟨hz, hR3⟩ := hp
        have hrl3 := hR3.sq.1
        refine awp_seq ?_
        refine awp_region rfl (.n (fun _ => op_lss (.plain rfl) (.plain rfl)) (.nil _)) ?_
        refine awp_seq ?_
        refine awp_cond rfl (fun h => ?_) (fun h => ?_)
        · (try simp only [decide_eq_true_eq, decide_eq_false_iff_not, Bool.and_eq_true, Bool.or_eq_true, Bool.and_eq_false_iff, Bool.or_eq_false_iff, Bool.not_eq_true', Bool.not_eq_false', Bool.not_eq_true, Bool.not_eq_false, Bool.true_eq_false, Bool.false_eq_true] at h); (try simp only [fold_c, fold_o, Int.toNat_natCast] at h)
          have hzn : iq + 1 + z < n := by omega
          have hyo := ord_at hO (show iq + 1 + z < n by omega)
          have hy := And.intro hyo.1 hyo.2.1
          have hdl : ((orF L bq).drop (iq + 1)).length = n - (iq + 1) := by have := hOl; simp only [List.length_drop]; omega
          have hdz : ((orF L bq).drop (iq + 1)).getD z 0 = (orF L bq).getD (iq + 1 + z) 0 := by simp [List.getD_eq_getElem?_getD]
          have hpb := prefTo_bd hV ((orF L bq).getD iq 0) ((orF L bq).getD (iq + 1 + z) 0) bq (by omega)
          have hib := inv4_bd (O := orF L bq) (i := iq) (z := z) (x := (orF L bq).getD iq 0) (y := (orF L bq).getD (iq + 1 + z) 0) hcb
          have hat := hR3.at' _ hx _ hy
          refine awp_skip ?_
          refine awp_seq ?_
          refine awp_block ?_
          refine awp_seq ?_
          refine awp_region rfl (.n (fun _ => op_indexAddrN Try.underlying23 Try.sizeOf3 (.plain rfl) (.plain rfl) (fun _ => rfl) ?_) (.n (fun _ => op_load Try.isAgg3 (.plain rfl)) (.n (fun _ => op_assign (.plain rfl)) (.nil _)))) ?_
          · omega
          refine awp_region_draw mixed rfl (.n (fun _ => op_move (.plain rfl)) (.n (fun _ => op_move (.plain rfl)) (.n (fun _ => op_indexAddrSl Try.underlying31 Try.sizeOf23 (.plain rfl) (.plain rfl) ?_) (.r (op_loadR Try.isAgg23 (.plain rfl) rfl (rowC_at (x := ((orF L bq).getD iq 0).toNat) (by omega) (by omega))) (.n (fun _ => op_move (.plain rfl)) (.r (op_indexAddrO Try.underlying23 Try.sizeOf3 (.plain rfl) (by rw [look_skip (by omega), look_skip (by omega)]; exact rowsH_at (rows := rows3) (by omega)) (.plain rfl) ?_) (.r (op_loadE Try.isAgg3 (.plain rfl) (by rw [look_skip (by omega), look_skip (by omega)]; exact rowsH_at (rows := rows3) (by omega)) (fun _ => rfl) ?_ rfl) (.n (fun _ => op_fieldAddrR Try.underlying40 rfl rfl Try.sizeOf3 (.plain rfl)) (.r (op_loadR Try.isAgg3 (.plain rfl) rfl rfl) (.n (fun _ => op_add (.plain rfl) (.plain rfl) ?_) (.r (op_indexAddrO Try.underlying23 Try.sizeOf3 (.plain rfl) (by rw [look_skip (by omega), look_skip (by omega)]; exact rowsH_at (rows := rows3) (by omega)) (.plain rfl) ?_) (.e (op_storeE (id := ((orF L bq).getD iq 0).toNat + 200) (e := 3) (z := 1) (d := 0) (f := (fun n => [.int .i64 n])) (l := rows3.getD ((orF L bq).getD iq 0).toNat []) (atM rows3 ((orF L bq).getD iq 0) (((orF L bq).drop (iq + 1)).getD z 0) + cnF L bq) Try.sizeOf3 (.plain rfl) (.plain rfl) (by rw [look_skip (by omega), look_skip (by omega)]; exact rowsH_at (rows := rows3) (by omega)) (fun _ => rfl) ?_ (by decide) rfl rfl) rfl (.nil _))))))))))))) ?d1 ?_
          · exact hx
          · have := hR3.row hx
            try simp only [fold_c, fold_o, Int.toNat_natCast]
            omega
          · have := hR3.row hx
            try simp only [fold_c, fold_o, Int.toNat_natCast]
            omega
          · show InR (atM rows3 ((orF L bq).getD iq 0) (((orF L bq).drop (iq + 1)).getD z 0) + cnF L bq)
            rw [hdz]
            unfold InR; omega
          · have := hR3.row hx
            try simp only [fold_c, fold_o, Int.toNat_natCast]
            omega
          · have := hR3.row hx
            try simp only [fold_c, fold_o, Int.toNat_natCast]
            omega
          · kernel_rfl
          refine awp_region rfl (.n (fun _ => op_add (.plain rfl) (.plain rfl) ?_) (.n (fun _ => op_move (.plain rfl)) (.nil _))) ?_
          · unfold InR; omega
          have hst := (hR3.set hx hy (atM rows3 ((orF L bq).getD iq 0) ((orF L bq).getD (iq + 1 + z) 0) + cnF L bq)).congr (g := fun x y => prefTo L x y bq + inv4 (orF L bq) (cnF L bq) iq (z + 1) x y) fun x hx2 y hy2 => by rw [hR3.at' _ hx _ hy]; exact inv4_step hO hzn fun e => by rw [e.1, e.2]
          exact ⟨(z + 1, _), ⟨by dsimp only; omega, hst⟩, by dsimp only; omega, (Ent.kept ⟨rfl, rfl, rfl, rfl, rfl, rfl, rfl, rfl, rfl, rfl, rfl, rfl, rfl, trivial⟩ ⟨rfl, rfl, (kept_set (show _ < rows3.length by omega) (by rw [← hdz]; exact look_here) fun k hk hne => by (try dsimp only at hk); rw [look_skip (by omega), look_skip (by omega), look_skip (by omega)]; exact rowsH_at (by first | exact hk | omega))⟩)⟩
        · (try simp only [decide_eq_true_eq, decide_eq_false_iff_not, Bool.and_eq_true, Bool.or_eq_true, Bool.and_eq_false_iff, Bool.or_eq_false_iff, Bool.not_eq_true', Bool.not_eq_false', Bool.not_eq_true, Bool.not_eq_false, Bool.true_eq_false, Bool.false_eq_true] at h); (try simp only [fold_c, fold_o, Int.toNat_natCast] at h)
          refine awp_exit ?_
          refine awp_region rfl (.n (fun _ => op_add (.plain rfl) (.plain rfl) ?_) (.n (fun _ => op_move (.plain rfl)) (.nil _))) ?_
          · unfold InR; omega
          exact ⟨(iq + 1, rows3), ⟨by dsimp only; omega, hR3.congr fun x hx y hy => by rw [inv4_next hO (show iq + 1 + z = n by omega)]⟩, by dsimp only; omega, (Ent.kept ⟨rfl, rfl, rfl, rfl, rfl, rfl, rfl, rfl, rfl, trivial⟩ ⟨rfl, rfl, (kept_rows fun k hk => by (try dsimp only at hk); rw [look_skip (by omega), look_skip (by omega)]; exact rowsH_at (by first | exact hk | omega))⟩)⟩
      · (try simp only [decide_eq_true_eq, decide_eq_false_iff_not, Bool.and_eq_true, Bool.or_eq_true, Bool.and_eq_false_iff, Bool.or_eq_false_iff, Bool.not_eq_true', Bool.not_eq_false', Bool.not_eq_true, Bool.not_eq_false, Bool.true_eq_false, Bool.false_eq_true] at h); (try simp only [fold_c, fold_o, Int.toNat_natCast] at h)
        refine awp_exit ?_
        refine awp_region rfl (.n (fun _ => op_add (.plain rfl) (.plain rfl) ?_) (.n (fun _ => op_move (.plain rfl)) (.nil _))) ?_
        · unfold InR; omega
        have hi3 : iq = n := by omega
        subst hi3
        exact ⟨(bq + 1, rows2), ⟨by dsimp only; omega, hR2.congr fun x hx y hy => by rw [inv4_end hO]; exact prefTo_succ⟩, by dsimp only; omega, (Ent.kept ⟨rfl, rfl, rfl, rfl, rfl, trivial⟩ ⟨rfl, (kept_rows fun k hk => by (try dsimp only at hk); rw [look_skip (by omega), look_skip (by omega)]; exact rowsH_at (by first | exact hk | omega))⟩)⟩
    · (try simp only [decide_eq_true_eq, decide_eq_false_iff_not, Bool.and_eq_true, Bool.or_eq_true, Bool.and_eq_false_iff, Bool.or_eq_false_iff, Bool.not_eq_true', Bool.not_eq_false', Bool.not_eq_true, Bool.not_eq_false, Bool.true_eq_false, Bool.false_eq_true] at h); (try simp only [fold_c, fold_o, Int.toNat_natCast] at h)
      refine awp_exit ?_
      refine awp_seq ?_
      refine awp_ent (Ent.giveMat (H' := []) 5 rfl rfl hrl (by omega) (fun k hk => by (try dsimp only at hk); rw [look_skip (by omega)]; exact rowsH_at (rows := rows) (by omega)) (fun k blk hk => by simp at hk)) ?_
      refine awp_region rfl (.n (fun _ => op_move (.plain rfl)) (.n (fun _ => op_assign (.plain rfl)) (.nil _))) ?_
      refine awp_ret ?_
      refine retQ.ret ?_
      refine ret1 rfl rfl rfl ?_
      have hbe : bq = L.length := by omega
      subst hbe
      exact congrArg PV.rows hR.eq

end Go.Proofs.Ytkbbdiodmeobaaa

