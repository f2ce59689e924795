/- What ShareCircles says, on plain values. Conditions: each theorem names its own. -/
import Derived.Test.YtfaeiglnhbllnaaProg
import Derived.Test.YtfaeiglnhbllnaaAbsI
namespace Go.Proofs.Ytfaeiglnhbllnaa
open Go.Abs
set_option linter.unusedVariables false
set_option linter.unusedSimpArgs false

theorem mixed : Try.prog.follows .mixedOrders = true := by kernel_rfl
theorem ety22 : ElemTy Try.prog 22 24 1 24 (.slice none 0 0) := ⟨Try.underlying22, ⟨Try.t24, by kernel_rfl, by kernel_rfl, by kernel_rfl, by kernel_rfl⟩, by kernel_rfl, by decide, by decide⟩
theorem ety24 : ElemTy Try.prog 24 3 1 8 (.int .i64 0) := ⟨Try.underlying24, ⟨Try.t3, by kernel_rfl, by kernel_rfl, by kernel_rfl, by kernel_rfl⟩, by kernel_rfl, by decide, by decide⟩


/-- How long all rows are together, with the rows themselves. -/
def heavyTo (l : List (List Int)) (k : Nat) : Nat := l.length + ((l.take k).map List.length).sum
def heavyF (l : List (List Int)) : Bool := decide (1024 < heavyTo l l.length)
theorem heavyTo_succ {l : List (List Int)} {k : Nat} (h : k < l.length) : heavyTo l (k + 1) = heavyTo l k + (l.getD k []).length := by
  unfold heavyTo
  rw [List.take_succ_eq_append_getElem h, List.map_append, List.sum_append]
  simp [h, Nat.add_assoc]
theorem heavyTo_le {l : List (List Int)} (k : Nat) : heavyTo l k ≤ heavyTo l l.length := by
  unfold heavyTo
  have := List.take_append_drop k l
  have h2 : ((l.take l.length).map List.length).sum = ((l.take k).map List.length).sum + ((l.drop k).map List.length).sum := by
    rw [List.take_length, ← List.sum_append, ← List.map_append, this]
  omega
theorem getD_mem {α : Type} {l : List α} {k : Nat} (d : α) (h : k < l.length) : l.getD k d ∈ l := by
  rw [List.getD_eq_getElem?_getD, List.getElem?_eq_getElem h]; exact List.getElem_mem h

theorem heavy_fc (l : List (List Int)) : FC Try.prog 6 [.rows l] (.bool (heavyF l)) := by
  refine FC.intro Try.func6 rfl (Nat.le_of_ble_eq_true rfl) fun hfit => ?_
  obtain ⟨fitl0, fitr0⟩ := (hfit _ (.head _)).rows
  refine awp_seq ?_
  refine awp_region rfl (.n (fun _ => op_assign (.plain rfl)) (.nil _)) ?_
  refine awp_seq ?_
  refine awp_region rfl (.n (fun _ => op_move (.plain rfl)) (.n (fun _ => op_len (s := 0) Try.underlying22 (.plain rfl)) (.n (fun _ => op_assign (.plain rfl)) (.nil _)))) ?_
  refine awp_seq ?_
  refine awp_seq ?_
  refine awp_region rfl (.n (fun _ => op_assign (.plain rfl)) (.nil _)) ?_
  refine awp_block ?_
  refine awp_loop (σ := Nat) (fun (k : Nat) => k ≤ l.length) (fun (k : Nat) => ⟨[(3, .int (heavyTo l k : Nat)), (4, .int (k : Nat)), (0, .pv (.rows l))], []⟩) (fun (k : Nat) => l.length - k) 0 ?_ (Ent.kept ⟨by simp [heavyTo]; rfl, rfl, rfl, trivial⟩ trivial) ?_
  · simp
  rintro k hp
  try dsimp only at hp
  refine awp_seq ?_
  refine awp_seq ?_
  refine awp_region rfl (.n (fun _ => op_move (.plain rfl)) (.n (fun _ => op_move (.plain rfl)) (.n (fun _ => op_len (s := 0) Try.underlying22 (.plain rfl)) (.n (fun _ => op_lss (.plain rfl) (.plain rfl)) (.n (fun _ => op_move (.plain rfl)) (.gn rfl rfl (fun hg _ => op_move (.plain rfl)) (.gn rfl rfl (fun hg _ => op_leq (.opt rfl fun h => h) (.plain rfl)) (.n (fun _ => op_and (.plain rfl) (.plain rfl) (.plain rfl) (fun h => eqT h)) (.nil _))))))))) ?_
  refine awp_cond rfl (fun h => ?_) (fun h => ?_)
  · try simp only [decide_eq_true_eq, decide_eq_false_iff_not, Bool.and_eq_true, Bool.or_eq_true, Bool.and_eq_false_iff, Bool.or_eq_false_iff, Bool.not_eq_true', Bool.not_eq_false', Bool.not_eq_true, Bool.not_eq_false, Bool.true_eq_false, Bool.false_eq_true] at h
    have hb := (fitr0 _ (getD_mem [] (show k < l.length by omega))).1
    refine awp_skip ?_
    refine awp_seq ?_
    refine awp_block ?_
    refine awp_region rfl (.n (fun _ => op_move (.plain rfl)) (.n (fun _ => op_move (.plain rfl)) (.n (fun _ => op_move (.plain rfl)) (.n (fun _ => op_indexAddrN Try.underlying22 Try.sizeOf24 (.plain rfl) (.plain rfl) (fun _ => rfl) ?_) (.n (fun _ => op_load Try.isAgg24 (.plain rfl)) (.n (fun _ => op_len (s := 0) Try.underlying24 (.plain rfl)) (.n (fun _ => op_add (.plain rfl) (.plain rfl) ?_) (.n (fun _ => op_assign (.plain rfl)) (.nil _))))))))) ?_
    · omega
    · unfold InR; omega
    refine awp_region rfl (.n (fun _ => op_move (.plain rfl)) (.n (fun _ => op_add (.plain rfl) (.plain rfl) ?_) (.n (fun _ => op_assign (.plain rfl)) (.nil _)))) ?_
    · unfold InR; omega
    refine ⟨k + 1, by omega, by dsimp only; omega, Ent.kept ⟨?_, rfl, rfl, trivial⟩ trivial⟩
    rw [heavyTo_succ (by omega)]; rfl
  · try simp only [decide_eq_true_eq, decide_eq_false_iff_not, Bool.and_eq_true, Bool.or_eq_true, Bool.and_eq_false_iff, Bool.or_eq_false_iff, Bool.not_eq_true', Bool.not_eq_false', Bool.not_eq_true, Bool.not_eq_false, Bool.true_eq_false, Bool.false_eq_true] at h
    refine awp_exit ?_
    refine awp_seq ?_
    refine awp_region rfl (.n (fun _ => op_move (.plain rfl)) (.n (fun _ => op_gtr (.plain rfl) (.plain rfl)) (.n (fun _ => op_assign (.plain rfl)) (.nil _)))) ?_
    refine awp_ret ?_
    refine retQ.ret ?_
    refine ret1 rfl rfl rfl ?_
    have := heavyTo_le (l := l) k
    unfold heavyF
    congr 1
    rw [Bool.eq_iff_iff]
    simp only [decide_eq_true_eq]
    rcases Nat.lt_or_ge k l.length with h1 | h1
    · omega
    · obtain rfl : k = l.length := by omega
      omega


/-- The first of n that is not 0. -/
def firstE (f : Nat → Int) : Nat → Int
  | 0 => 0
  | n + 1 => if firstE f n = 0 then f n else firstE f n
theorem firstE_succ {f : Nat → Int} {n : Nat} (h : firstE f n = 0) (h' : f n = 0) : firstE f (n + 1) = 0 := by simp [firstE, h, h']
theorem firstE_stop {f : Nat → Int} {k n : Nat} {c : Int} (h : firstE f k = 0) (hc : f k = c) (h0 : c ≠ 0) (hk : k < n) : firstE f n = c := by
  have h1 : firstE f (k + 1) = c := by simp [firstE, h, hc]
  have : ∀ d, firstE f (k + 1 + d) = c := by
    intro d
    induction d with
    | zero => exact h1
    | succ d ih => rw [← Nat.add_assoc, firstE, ih, if_neg h0]
  have := this (n - (k + 1))
  rwa [show k + 1 + (n - (k + 1)) = n by omega] at this
theorem firstE_zero {f : Nat → Int} : ∀ {n : Nat}, firstE f n = 0 → ∀ j, j < n → f j = 0
  | 0, _, j, hj => by omega
  | n + 1, h, j, hj => by
    simp only [firstE] at h
    split at h
    · rename_i h0
      by_cases e : j = n
      · subst e; exact h
      · exact firstE_zero h0 j (by omega)
    · rename_i h0; exact absurd h h0
theorem firstE_same {f g : Nat → Int} : ∀ {n : Nat}, (∀ j, j < n → f j = g j) → firstE f n = firstE g n
  | 0, _ => rfl
  | n + 1, h => by simp only [firstE, firstE_same (fun j hj => h j (by omega) : ∀ j, j < n → _), h n (by omega)]

def sumTo (f : Nat → Int) : Nat → Int
  | 0 => 0
  | n + 1 => sumTo f n + f n
theorem sumTo_bd {f : Nat → Int} {A B : Int} : ∀ {n : Nat}, (∀ j, j < n → A ≤ f j ∧ f j ≤ B) → n * A ≤ sumTo f n ∧ sumTo f n ≤ n * B
  | 0, _ => by simp [sumTo]
  | n + 1, h => by
    have h1 := sumTo_bd (fun j hj => h j (by omega) : ∀ j, j < n → _)
    have h2 := h n (by omega)
    simp only [sumTo, Int.natCast_succ, Int.add_mul]
    omega
theorem sumTo_same {f g : Nat → Int} : ∀ {n : Nat}, (∀ j, j < n → f j = g j) → sumTo f n = sumTo g n
  | 0, _ => rfl
  | n + 1, h => by simp only [sumTo, sumTo_same (fun j hj => h j (by omega) : ∀ j, j < n → _), h n (by omega)]

/-- n values by their places. -/
def mapr {α : Type} (n : Nat) (f : Nat → α) : List α := (List.range n).map f
@[simp] theorem mapr_length {α : Type} (n : Nat) (f : Nat → α) : (mapr n f).length = n := by simp [mapr]
theorem mapr_succ {α : Type} (n : Nat) (f : Nat → α) : mapr (n + 1) f = mapr n f ++ [f n] := by simp [mapr, List.range_succ]
theorem mapr_getD {α : Type} {n : Nat} {f : Nat → α} {i : Nat} (d : α) (h : i < n) : (mapr n f).getD i d = f i := by
  simp [mapr, List.getD_eq_getElem?_getD, h]
theorem mapr_same {α : Type} {n : Nat} {f g : Nat → α} (h : ∀ j, j < n → f j = g j) : mapr n f = mapr n g := by
  unfold mapr
  exact List.map_congr_left fun j hj => h j (List.mem_range.1 hj)
theorem mapr_set {α : Type} {n : Nat} {f g : Nat → α} {i : Nat} {v : α} (hv : i < n → g i = v) (h : ∀ j, j < n → j ≠ i → g j = f j) : (mapr n f).set i v = mapr n g := by
  refine List.ext_getElem (by simp) fun j h1 h2 => ?_
  rw [List.getElem_set]
  split
  · rename_i e; subst e; simp [mapr]; exact (hv (by simpa using h2)).symm
  · rename_i e; simp [mapr]; exact (h j (by simpa using h2) fun e' => e e'.symm).symm
theorem replicate_mapr {α : Type} (n : Nat) (a : α) : List.replicate n a = mapr n fun _ => a :=
  List.ext_getElem (by simp) fun j h1 h2 => by simp [mapr]

/-- The first of n places at which p holds. -/
def firstI (p : Nat → Bool) : Nat → Option Nat
  | 0 => none
  | n + 1 => match firstI p n with | some i => some i | none => if p n then some n else none
theorem firstI_succ {p : Nat → Bool} {n : Nat} (h : firstI p n = none) (h' : p n = false) : firstI p (n + 1) = none := by simp [firstI, h, h']
theorem firstI_stop {p : Nat → Bool} {k n : Nat} (h : firstI p k = none) (hc : p k = true) (hk : k < n) : firstI p n = some k := by
  have h1 : firstI p (k + 1) = some k := by simp [firstI, h, hc]
  have : ∀ d, firstI p (k + 1 + d) = some k := by
    intro d
    induction d with
    | zero => exact h1
    | succ d ih => rw [← Nat.add_assoc, firstI, ih]
  have := this (n - (k + 1))
  rwa [show k + 1 + (n - (k + 1)) = n by omega] at this
theorem firstI_none {p : Nat → Bool} : ∀ {n : Nat}, firstI p n = none → ∀ j, j < n → p j = false
  | n + 1, h, j, hj => by
    simp only [firstI] at h
    split at h
    · cases h
    · rename_i h0
      split at h
      · cases h
      · rename_i h1
        by_cases e : j = n
        · subst e; simpa using h1
        · exact firstI_none h0 j (by omega)
theorem firstI_spec {p : Nat → Bool} : ∀ {n i : Nat}, firstI p n = some i → i < n ∧ p i = true ∧ ∀ j, j < i → p j = false
  | n + 1, i, h => by
    simp only [firstI] at h
    split at h
    · rename_i k hk
      simp only [Option.some.injEq] at h
      subst h
      have := firstI_spec hk
      exact ⟨by omega, this.2⟩
    · rename_i hk
      split at h
      · rename_i hp
        simp only [Option.some.injEq] at h
        subst h
        exact ⟨by omega, hp, firstI_none hk⟩
      · cases h
theorem firstI_same {p q : Nat → Bool} : ∀ {n : Nat}, (∀ j, j < n → p j = q j) → firstI p n = firstI q n
  | 0, _ => rfl
  | n + 1, h => by simp only [firstI, firstI_same (fun j hj => h j (by omega) : ∀ j, j < n → _), h n (by omega)]

theorem two_pow_nat (k : Nat) : (1 : Int) ≤ 2 ^ k := by
  have : (0 : Int) < 2 ^ k := Int.pow_pos (by omega)
  omega
theorem two_pow_bd {k m : Nat} (h : k ≤ m) : (2 : Int) ^ k ≤ 2 ^ m := by
  have h1 : (2 : Nat) ^ k ≤ 2 ^ m := Nat.pow_le_pow_right (by omega) h
  have h2 : ((2 ^ k : Nat) : Int) = 2 ^ k := by simp
  have h3 : ((2 ^ m : Nat) : Int) = 2 ^ m := by simp
  omega

def placeF (l : List Int) (x : Int) : Int := match firstI (fun i => decide (l.getD i 0 = x)) l.length with | some i => (i : Int) | none => -1
theorem firstI_of {p : Nat → Bool} : ∀ {n : Nat}, (∀ j, j < n → p j = false) → firstI p n = none
  | 0, _ => rfl
  | n + 1, h => firstI_succ (firstI_of fun j hj => h j (by omega)) (h n (by omega))
theorem place_mem {l : List Int} {x : Int} : 0 ≤ placeF l x ↔ x ∈ l := by
  unfold placeF
  cases e : firstI (fun i => decide (l.getD i 0 = x)) l.length with
  | some i =>
    have h := firstI_spec e
    simp only [decide_eq_true_eq] at h
    refine ⟨fun _ => ?_, fun _ => by simp⟩
    rw [← h.2.1]; exact getD_mem 0 h.1
  | none =>
    have h := firstI_none e
    simp only [decide_eq_false_iff_not] at h
    refine ⟨fun c => absurd c (by simp), fun hm => ?_⟩
    obtain ⟨j, hj, hx⟩ := List.getElem_of_mem hm
    exact absurd (by rw [List.getD_eq_getElem?_getD, List.getElem?_eq_getElem hj]; exact hx) (h j hj)
theorem place_at {l : List Int} {x : Int} (h : x ∈ l) : ∃ p : Nat, placeF l x = p ∧ p < l.length ∧ l.getD p 0 = x := by
  have h0 := place_mem.2 h
  unfold placeF at h0 ⊢
  cases e : firstI (fun i => decide (l.getD i 0 = x)) l.length with
  | some i =>
    have h := firstI_spec e
    simp only [decide_eq_true_eq] at h
    exact ⟨i, rfl, h.1, h.2.1⟩
  | none => rw [e] at h0; simp at h0
def anyTo (p : Nat → Bool) : Nat → Bool
  | 0 => false
  | n + 1 => anyTo p n || p n
theorem anyTo_false {p : Nat → Bool} : ∀ {n : Nat}, anyTo p n = false → ∀ j, j < n → p j = false
  | n + 1, h, j, hj => by
    simp only [anyTo, Bool.or_eq_false_iff] at h
    by_cases e : j = n
    · subst e; exact h.2
    · exact anyTo_false h.1 j (by omega)
theorem anyTo_true {p : Nat → Bool} : ∀ {n : Nat}, anyTo p n = true → ∃ j, j < n ∧ p j = true
  | n + 1, h => by
    simp only [anyTo, Bool.or_eq_true] at h
    rcases h with h | h
    · obtain ⟨j, h1, h2⟩ := anyTo_true h; exact ⟨j, by omega, h2⟩
    · exact ⟨n, by omega, h⟩

def mL (v : List (List Int)) : Nat := (v.getD 0 []).length
def lenB (v : List (List Int)) (i : Nat) : Int := if 8 < ((v.getD i []).length : Int) ∨ ¬ ((v.getD i []).length : Int) = ((v.getD 0 []).length : Int) then 7 else 0
def valB (r : List Int) (g : Nat) : Int := if r.getD g 0 < 0 ∨ 1000 < r.getD g 0 then 9 else 0
def valE (r : List Int) : Int := firstE (valB r) r.length
def mayE (v : List (List Int)) : Int := if (v.length : Int) < 1 ∨ 4 < (v.length : Int) then 7 else if firstE (lenB v) v.length ≠ 0 then firstE (lenB v) v.length else firstE (fun i => valE (v.getD i [])) v.length
theorem mayE_n {v : List (List Int)} (h : (v.length : Int) < 1 ∨ 4 < (v.length : Int)) : 7 = mayE v := (if_pos h).symm
theorem mayE_len {v : List (List Int)} {k : Nat} (h : ¬ ((v.length : Int) < 1 ∨ 4 < (v.length : Int))) (hE : firstE (lenB v) k = 0) (hk : (k : Int) < v.length) (hb : 8 < ((v.getD k []).length : Int) ∨ ¬ ((v.getD k []).length : Int) = ((v.getD 0 []).length : Int)) : 7 = mayE v := by
  have := firstE_stop (n := v.length) hE (if_pos hb) (by omega) (by omega)
  unfold mayE
  rw [if_neg h, this]; rfl
theorem mayE_val {v : List (List Int)} {k i j : Nat} (h : ¬ ((v.length : Int) < 1 ∨ 4 < (v.length : Int))) (hk : k ≤ v.length) (hE : firstE (lenB v) k = 0) (hn : ¬ (k : Int) < v.length) (hF : firstE (fun i => valE (v.getD i [])) i = 0) (hi : (i : Int) < v.length) (hG : firstE (valB (v.getD i [])) j = 0) (hj : (j : Int) < (v.getD i []).length)
    (hb : (v.getD i []).getD j 0 < 0 ∨ 1000 < (v.getD i []).getD j 0) : 9 = mayE v := by
  obtain rfl : k = v.length := by omega
  unfold mayE
  rw [if_neg h, hE, if_neg (by simp)]
  exact (firstE_stop hF (firstE_stop hG (if_pos hb) (by omega) (by omega)) (by omega) (by omega)).symm
theorem mayE_ok {v : List (List Int)} {k i : Nat} (h : ¬ ((v.length : Int) < 1 ∨ 4 < (v.length : Int))) (hk : k ≤ v.length) (hE : firstE (lenB v) k = 0) (hn : ¬ (k : Int) < v.length) (hi : i ≤ v.length) (hF : firstE (fun i => valE (v.getD i [])) i = 0) (hm : ¬ (i : Int) < v.length) : 0 = mayE v := by
  obtain rfl : k = v.length := by omega
  obtain rfl : i = v.length := by omega
  unfold mayE
  rw [if_neg h, hE, if_neg (by simp), hF]
structure Val (v : List (List Int)) : Prop where
  n1 : 1 ≤ v.length
  n4 : v.length ≤ 4
  m8 : mL v ≤ 8
  row : ∀ i, i < v.length → (v.getD i []).length = mL v
  val : ∀ i, i < v.length → ∀ g, g < mL v → 0 ≤ (v.getD i []).getD g 0 ∧ (v.getD i []).getD g 0 ≤ 1000
theorem val_of {v : List (List Int)} (h : mayE v = 0) : Val v := by
  unfold mayE at h
  split at h
  · omega
  · rename_i h1
    split at h
    · rename_i h2; exact absurd h h2
    · rename_i h2
      have h2 : firstE (lenB v) v.length = 0 := Classical.not_not.1 h2
      have hl := firstE_zero h2
      have hv := firstE_zero h
      have hl0 : ∀ i, i < v.length → ¬ (8 < ((v.getD i []).length : Int) ∨ ¬ ((v.getD i []).length : Int) = ((v.getD 0 []).length : Int)) := by
        intro i hi c
        have := hl i hi
        unfold lenB at this
        rw [if_pos c] at this; omega
      have hrow : ∀ i, i < v.length → (v.getD i []).length = mL v := fun i hi => by have := hl0 i hi; unfold mL; omega
      refine ⟨by omega, by omega, ?_, hrow, fun i hi g hg => ?_⟩
      · have := hl0 0 (by omega); unfold mL; omega
      · have := firstE_zero (hv i hi) g (by rw [hrow i hi]; exact hg)
        unfold valB at this
        split at this <;> omega

/-- What a guest thinks that another one has. -/
def hasB (v : List (List Int)) (give : List Int) (who other : Int) (g : Nat) : Int := if give.getD g 0 = other then (v.getD who.toNat []).getD g 0 else 0
def hasF (v : List (List Int)) (give : List Int) (who other : Int) : Int := sumTo (hasB v give who other) give.length
def envB (v : List (List Int)) (give : List Int) (who other : Int) : Bool := decide (hasF v give who who < hasF v give who other)
def envied (v : List (List Int)) (give : List Int) (i : Nat) : Bool := anyTo (fun k => envB v give (k : Nat) (i : Nat)) v.length
def aloneF (v : List (List Int)) (give : List Int) : Int := match firstI (fun i => !envied v give i) v.length with | some i => (i : Int) | none => -1
def envierF (v : List (List Int)) (give : List Int) (one : Int) : Int := match firstI (fun k => envB v give (k : Nat) one) v.length with | some k => (k : Int) | none => one
theorem hasB_bd {v : List (List Int)} (hV : Val v) {give : List Int} (hg : give.length = mL v) {who other : Int} (hw : 0 ≤ who ∧ who < v.length) {g : Nat} (h : g < mL v) : 0 ≤ hasB v give who other g ∧ hasB v give who other g ≤ 1000 := by
  have := hV.val who.toNat (by omega) g h
  unfold hasB
  split <;> omega
theorem hasTo_bd {v : List (List Int)} (hV : Val v) {give : List Int} (hg : give.length = mL v) {who other : Int} (hw : 0 ≤ who ∧ who < v.length) {k : Nat} (hk : k ≤ mL v) : 0 ≤ sumTo (hasB v give who other) k ∧ sumTo (hasB v give who other) k ≤ 8000 := by
  have := sumTo_bd (f := hasB v give who other) (A := 0) (B := 1000) (n := k) fun j hj => hasB_bd hV hg hw (by omega)
  have := hV.m8
  omega
theorem hasF_bd {v : List (List Int)} (hV : Val v) {give : List Int} (hg : give.length = mL v) {who other : Int} (hw : 0 ≤ who ∧ who < v.length) : 0 ≤ hasF v give who other ∧ hasF v give who other ≤ 8000 := by
  unfold hasF; exact hasTo_bd hV hg hw (by omega)
theorem envierF_in {v : List (List Int)} {give : List Int} {one : Int} (h : 0 ≤ one ∧ one < v.length) : 0 ≤ envierF v give one ∧ envierF v give one < v.length := by
  unfold envierF
  split
  · rename_i k e
    have := (firstI_spec e).1; omega
  · exact h
theorem aloneF_in {v : List (List Int)} {give : List Int} (h : 0 ≤ aloneF v give) : aloneF v give < v.length ∧ ∀ k : Nat, k < v.length → ¬ hasF v give k k < hasF v give k (aloneF v give) := by
  unfold aloneF at *
  cases e : firstI (fun i => !envied v give i) v.length with
  | none => rw [e] at h; simp at h
  | some i =>
    have h1 := firstI_spec e
    refine ⟨by simp only; omega, fun k hk => ?_⟩
    have h2 : envied v give i = false := by simpa using h1.2.1
    have := anyTo_false h2 k hk
    simpa [envB] using this
theorem aloneF_none {v : List (List Int)} {give : List Int} (h : aloneF v give < 0) {i : Int} (hi : 0 ≤ i ∧ i < v.length) : 0 ≤ envierF v give i ∧ envierF v give i < v.length ∧ hasF v give (envierF v give i) (envierF v give i) < hasF v give (envierF v give i) i := by
  obtain ⟨i, rfl⟩ : ∃ k : Nat, i = k := ⟨i.toNat, by omega⟩
  have h0 : firstI (fun i => !envied v give i) v.length = none := by
    unfold aloneF at h
    split at h
    · omega
    · assumption
  have h1 := firstI_none h0 i (by omega)
  have h2 : envied v give i = true := by simpa using h1
  obtain ⟨j, hj, hb⟩ := anyTo_true h2
  unfold envierF
  cases e : firstI (fun k => envB v give (k : Nat) (i : Nat)) v.length with
  | none => rw [firstI_none e j hj] at hb; cases hb
  | some k =>
    have := firstI_spec e
    refine ⟨by simp, by simp only; omega, ?_⟩
    simpa [envB] using this.2.1

/-! ### a turn -/

def atF (v : List (List Int)) (give : List Int) : Nat → Int
  | 0 => 0
  | t + 1 => envierF v give (atF v give t)
def wayF (v : List (List Int)) (give : List Int) (t : Nat) : List Int := mapr t (atF v give)
theorem atF_in {v : List (List Int)} {give : List Int} (h : 1 ≤ v.length) : ∀ t, 0 ≤ atF v give t ∧ atF v give t < v.length
  | 0 => by simp only [atF]; omega
  | t + 1 => envierF_in (atF_in h t)
theorem nodup_len : ∀ (n : Nat) (l : List Int), l.Nodup → (∀ x, x ∈ l → 0 ≤ x ∧ x < n) → l.length ≤ n
  | 0, l, _, h => by
    cases l with
    | nil => simp
    | cons a l => have := h a List.mem_cons_self; omega
  | n + 1, l, hd, h => by
    have h1 := nodup_len n (l.erase (n : Int)) (hd.erase _) fun x hx => by
      have h2 := (hd.mem_erase_iff).1 hx
      have := h x h2.2
      have : x ≠ n := h2.1
      omega
    by_cases hm : (n : Int) ∈ l
    · rw [List.length_erase_of_mem hm] at h1; omega
    · rw [List.erase_of_not_mem hm] at h1; omega
theorem way_nodup {v : List (List Int)} {give : List Int} : ∀ t, firstI (fun t => decide (0 ≤ placeF (wayF v give t) (atF v give t))) t = none → (wayF v give t).Nodup
  | 0, _ => by simp [wayF, mapr]
  | t + 1, h => by
    have h1 := firstI_none h
    have h2 := way_nodup t (firstI_of fun j hj => h1 j (by omega))
    have h3 := h1 t (by omega)
    simp only [decide_eq_false_iff_not, place_mem] at h3
    unfold wayF at *
    rw [mapr_succ, List.nodup_append]
    refine ⟨h2, by simp, fun a ha b hb => ?_⟩
    simp only [List.mem_singleton] at hb
    subst hb
    exact fun e => h3 (e ▸ ha)
theorem wayF_length {v : List (List Int)} {give : List Int} (t : Nat) : (wayF v give t).length = t := by simp [wayF]
theorem way_len {v : List (List Int)} (hV : Val v) {give : List Int} {t : Nat} (h : firstI (fun t => decide (0 ≤ placeF (wayF v give t) (atF v give t))) t = none) : t ≤ 4 := by
  have := nodup_len v.length (wayF v give t) (way_nodup t h) fun x hx => by
    unfold wayF mapr at hx
    obtain ⟨j, _, rfl⟩ := List.mem_map.1 hx
    exact atF_in hV.n1 j
  rw [wayF_length] at this
  have := hV.n4
  omega
def stopT (v : List (List Int)) (give : List Int) : Nat := (firstI (fun t => decide (0 ≤ placeF (wayF v give t) (atF v give t))) 10).getD 0
def ringF (v : List (List Int)) (give : List Int) : List Int := (wayF v give (stopT v give)).drop (placeF (wayF v give (stopT v give)) (atF v give (stopT v give))).toNat
theorem stop_spec {v : List (List Int)} (hV : Val v) (give : List Int) : atF v give (stopT v give) ∈ wayF v give (stopT v give) ∧ (wayF v give (stopT v give)).Nodup ∧ stopT v give ≤ 4 := by
  unfold stopT
  cases e : firstI (fun t => decide (0 ≤ placeF (wayF v give t) (atF v give t))) 10 with
  | none => have := way_len hV e; omega
  | some t =>
    have h := firstI_spec e
    have h1 := h.2.1
    simp only [decide_eq_true_eq, place_mem] at h1
    have h2 := way_nodup (v := v) (give := give) t (firstI_of h.2.2)
    exact ⟨h1, h2, way_len hV (firstI_of h.2.2)⟩
/-- The ring: its places, one behind the other. -/
theorem ring_spec {v : List (List Int)} (hV : Val v) (give : List Int) : ∃ p L : Nat, 0 < L ∧ (ringF v give).length = L ∧ (∀ j, j < L → (ringF v give).getD j 0 = atF v give (p + j)) ∧ atF v give (p + L) = atF v give p ∧ (ringF v give).Nodup ∧ L ≤ 4 := by
  obtain ⟨h1, h2, h3⟩ := stop_spec hV give
  obtain ⟨p, hp, hlt, hx⟩ := place_at h1
  rw [wayF_length] at hlt
  have hr : ringF v give = (wayF v give (stopT v give)).drop p := by unfold ringF; rw [hp]; rfl
  refine ⟨p, stopT v give - p, by omega, by rw [hr, List.length_drop, wayF_length], fun j hj => ?_, ?_, ?_, by omega⟩
  · rw [hr, List.getD_eq_getElem?_getD, List.getElem?_drop, ← List.getD_eq_getElem?_getD]
    unfold wayF
    rw [mapr_getD 0 (by omega)]
  · unfold wayF at hx
    rw [mapr_getD 0 hlt] at hx
    rw [show p + (stopT v give - p) = stopT v give by omega, hx]
  · rw [hr]; exact h2.sublist (List.drop_sublist _ _)
/-- Whom each of the ring hands what it has. -/
def toF (r : List Int) (n : Nat) : List (Int × Int) := mapr n fun j => (r.getD j 0, r.getD ((j + 1) % r.length) 0)
theorem lookup_toF {r : List Int} (hr : r.Nodup) : ∀ (n : Nat), n ≤ r.length → ∀ j, j < n → List.lookup (r.getD j 0) (toF r n) = some (r.getD ((j + 1) % r.length) 0)
  | 0, _, j, hj => by omega
  | n + 1, hn, j, hj => by
    unfold toF
    rw [mapr_succ, List.lookup_append]
    by_cases e : j = n
    · subst e
      have : List.lookup (r.getD j 0) (mapr j fun j => (r.getD j 0, r.getD ((j + 1) % r.length) 0)) = none := by
        rw [List.lookup_eq_none_iff]
        intro q hq
        unfold mapr at hq
        obtain ⟨i, hi, rfl⟩ := List.mem_map.1 hq
        have hi := List.mem_range.1 hi
        simp only [bne_iff_ne, ne_eq, List.getD_eq_getElem?_getD, List.getElem?_eq_getElem (show j < r.length by omega), List.getElem?_eq_getElem (show i < r.length by omega), Option.getD_some]
        intro c
        have := (List.getElem_inj hr).1 c
        omega
      rw [this]; simp
    · have := lookup_toF hr n (by omega) j (by omega)
      unfold toF at this
      rw [this]; rfl
theorem lookup_toF_none {r : List Int} {n : Nat} {x : Int} (h : x ∉ r) (hn : n ≤ r.length) : List.lookup x (toF r n) = none := by
  rw [List.lookup_eq_none_iff]
  intro q hq
  unfold toF mapr at hq
  obtain ⟨i, hi, rfl⟩ := List.mem_map.1 hq
  have hi := List.mem_range.1 hi
  simp only [bne_iff_ne, ne_eq]
  intro c
  exact h (c ▸ getD_mem 0 (by omega))
theorem lookup_new {r : List Int} (hr : r.Nodup) {i : Nat} (hi : i < r.length) : List.lookup (r.getD i 0) (toF r i) = none := by
  rw [List.lookup_eq_none_iff]
  intro q hq
  unfold toF mapr at hq
  obtain ⟨j, hj, rfl⟩ := List.mem_map.1 hq
  have hj := List.mem_range.1 hj
  simp only [bne_iff_ne, ne_eq, List.getD_eq_getElem?_getD, List.getElem?_eq_getElem (show i < r.length by omega), List.getElem?_eq_getElem (show j < r.length by omega), Option.getD_some]
  intro c
  have := (List.getElem_inj hr).1 c
  omega
def sigF (r : List Int) (x : Int) : Int := if (List.lookup x (toF r r.length)).isSome then mget (toF r r.length) x else x
def turnF (v : List (List Int)) (give : List Int) : List Int := mapr give.length fun g => sigF (ringF v give) (give.getD g 0)
theorem sig_in {r : List Int} (hr : r.Nodup) {j : Nat} (hj : j < r.length) : sigF r (r.getD j 0) = r.getD ((j + 1) % r.length) 0 := by
  have := lookup_toF hr r.length (Nat.le_refl _) j hj
  unfold sigF mget
  rw [this]; rfl
theorem sig_out {r : List Int} {x : Int} (h : x ∉ r) : sigF r x = x := by
  unfold sigF
  rw [lookup_toF_none h (Nat.le_refl _)]; rfl
theorem mem_at {r : List Int} {x : Int} (h : x ∈ r) : ∃ j, j < r.length ∧ r.getD j 0 = x := by
  obtain ⟨j, hj, e⟩ := List.getElem_of_mem h
  exact ⟨j, hj, by simp [List.getD_eq_getElem?_getD, hj, e]⟩
theorem getD_inj {r : List Int} (hr : r.Nodup) {i j : Nat} (hi : i < r.length) (hj : j < r.length) (h : r.getD i 0 = r.getD j 0) : i = j := by
  simp only [List.getD_eq_getElem?_getD, List.getElem?_eq_getElem hi, List.getElem?_eq_getElem hj, Option.getD_some] at h
  exact (List.getElem_inj hr).1 h
theorem sig_mem {r : List Int} (hr : r.Nodup) {x : Int} (h : x ∈ r) : sigF r x ∈ r := by
  obtain ⟨j, hj, rfl⟩ := mem_at h
  rw [sig_in hr hj]
  exact getD_mem 0 (Nat.mod_lt _ (by omega))
theorem mod_inj {L a b : Nat} (ha : a < L) (hb : b < L) (h : (a + 1) % L = (b + 1) % L) : a = b := by
  by_cases h1 : a + 1 = L
  · rw [h1, Nat.mod_self] at h
    by_cases h2 : b + 1 = L
    · omega
    · rw [Nat.mod_eq_of_lt (by omega)] at h; omega
  · rw [Nat.mod_eq_of_lt (by omega)] at h
    by_cases h2 : b + 1 = L
    · rw [h2, Nat.mod_self] at h; omega
    · rw [Nat.mod_eq_of_lt (by omega)] at h; omega
theorem sig_inj {r : List Int} (hr : r.Nodup) {x y : Int} (h : sigF r x = sigF r y) : x = y := by
  by_cases hx : x ∈ r <;> by_cases hy : y ∈ r
  · obtain ⟨i, hi, rfl⟩ := mem_at hx
    obtain ⟨j, hj, rfl⟩ := mem_at hy
    rw [sig_in hr hi, sig_in hr hj] at h
    have := getD_inj hr (Nat.mod_lt _ (by omega)) (Nat.mod_lt _ (by omega)) h
    rw [mod_inj hi hj this]
  · have := sig_mem hr hx
    rw [h, sig_out hy] at this; exact absurd this hy
  · have := sig_mem hr hy
    rw [← h, sig_out hx] at this; exact absurd this hx
  · rwa [sig_out hx, sig_out hy] at h
theorem sig_onto {r : List Int} (hr : r.Nodup) (y : Int) : ∃ x, sigF r x = y ∧ (y ∉ r → x = y) ∧ (y ∈ r → x ∈ r) := by
  by_cases hy : y ∈ r
  · obtain ⟨j, hj, rfl⟩ := mem_at hy
    by_cases h0 : j = 0
    · subst h0
      refine ⟨r.getD (r.length - 1) 0, ?_, fun h => absurd hy h, fun _ => getD_mem 0 (by omega)⟩
      rw [sig_in hr (by omega), show r.length - 1 + 1 = r.length by omega, Nat.mod_self]
    · refine ⟨r.getD (j - 1) 0, ?_, fun h => absurd hy h, fun _ => getD_mem 0 (by omega)⟩
      rw [sig_in hr (by omega), show j - 1 + 1 = j by omega, Nat.mod_eq_of_lt hj]
  · exact ⟨y, sig_out hy, fun _ => rfl, fun h => absurd h hy⟩
theorem ring_in {v : List (List Int)} (hV : Val v) {give : List Int} {x : Int} (h : x ∈ ringF v give) : 0 ≤ x ∧ x < v.length := by
  obtain ⟨p, L, hL, hlen, hat, _⟩ := ring_spec hV give
  obtain ⟨j, hj, rfl⟩ := mem_at h
  rw [hat j (by omega)]
  exact atF_in hV.n1 _
theorem sig_envier {v : List (List Int)} (hV : Val v) {give : List Int} {x : Int} (h : x ∈ ringF v give) : sigF (ringF v give) x = envierF v give x := by
  obtain ⟨p, L, hL, hlen, hat, hper, hnd, _⟩ := ring_spec hV give
  obtain ⟨j, hj, rfl⟩ := mem_at h
  rw [sig_in hnd hj, hat j (by omega), hlen]
  by_cases e : j + 1 = L
  · rw [e, Nat.mod_self, hat 0 hL, Nat.add_zero, ← hper]
    rw [show p + L = (p + j) + 1 by omega]; rfl
  · rw [Nat.mod_eq_of_lt (by omega), hat (j + 1) (by omega)]; rfl

/-! ### no envy but for one good -/

def EF1 (v : List (List Int)) (give : List Int) : Prop := ∀ i k : Nat, i < v.length → k < v.length →
  hasF v give i k ≤ hasF v give i i ∨ ∃ g, g < give.length ∧ give.getD g 0 = (k : Int) ∧ hasF v give i k - (v.getD i []).getD g 0 ≤ hasF v give i i
def potF (v : List (List Int)) (give : List Int) : Int := sumTo (fun i => hasF v give (i : Nat) (i : Nat)) v.length
theorem sumTo_le {f g : Nat → Int} : ∀ {n : Nat}, (∀ j, j < n → f j ≤ g j) → sumTo f n ≤ sumTo g n
  | 0, _ => by simp [sumTo]
  | n + 1, h => by
    have := sumTo_le (f := f) (g := g) (n := n) fun j hj => h j (by omega)
    have := h n (by omega)
    simp only [sumTo]; omega
theorem sumTo_lt {f g : Nat → Int} : ∀ {n : Nat}, (∀ j, j < n → f j ≤ g j) → (∃ j, j < n ∧ f j < g j) → sumTo f n < sumTo g n
  | 0, _, ⟨j, hj, _⟩ => by omega
  | n + 1, h, ⟨j, hj, hlt⟩ => by
    simp only [sumTo]
    by_cases e : j = n
    · subst e
      have := sumTo_le (f := f) (g := g) (n := j) fun j hj => h j (by omega)
      omega
    · have := sumTo_lt (f := f) (g := g) (n := n) (fun j hj => h j (by omega)) ⟨j, by omega, hlt⟩
      have := h n (by omega)
      omega
theorem sumTo_one {f g : Nat → Int} {a : Nat} : ∀ {n : Nat}, a < n → (∀ j, j < n → j ≠ a → g j = f j) → sumTo g n = sumTo f n + (g a - f a)
  | n + 1, ha, h => by
    simp only [sumTo]
    by_cases e : a = n
    · subst e
      rw [sumTo_same (f := g) (g := f) fun j hj => h j (by omega) (by omega)]; omega
    · rw [sumTo_one (f := f) (g := g) (n := n) (by omega) fun j hj => h j (by omega), h n (by omega) (by omega)]; omega
theorem turnF_length {v : List (List Int)} {give : List Int} : (turnF v give).length = give.length := by simp [turnF]
theorem turn_has {v : List (List Int)} (hV : Val v) {give : List Int} (i x : Int) : hasF v (turnF v give) i (sigF (ringF v give) x) = hasF v give i x := by
  obtain ⟨p, L, hL, hlen, hat, hper, hnd, _⟩ := ring_spec hV give
  unfold hasF
  rw [turnF_length]
  refine sumTo_same fun g hg => ?_
  unfold hasB turnF
  rw [mapr_getD 0 hg]
  by_cases e : give.getD g 0 = x
  · rw [if_pos (by rw [e]), if_pos e]
  · rw [if_neg (fun c => e (sig_inj hnd c)), if_neg e]
theorem turn_own {v : List (List Int)} (hV : Val v) {give : List Int} (hA : aloneF v give < 0) {i : Int} (hi : 0 ≤ i ∧ i < v.length) : hasF v give i i ≤ hasF v (turnF v give) i i ∧ (i ∈ ringF v give → hasF v give i i < hasF v (turnF v give) i i) := by
  obtain ⟨p, L, hL, hlen, hat, hper, hnd, _⟩ := ring_spec hV give
  obtain ⟨x, hx, h1, h2⟩ := sig_onto hnd i
  have e : hasF v (turnF v give) i i = hasF v give i x := by
    have := turn_has hV (give := give) i x
    rwa [hx] at this
  by_cases hr : i ∈ ringF v give
  · have hxr := h2 hr
    have hxe := sig_envier hV hxr
    rw [hx] at hxe
    have := (aloneF_none hA (ring_in hV hxr)).2.2
    rw [← hxe] at this
    rw [e]
    exact ⟨by omega, fun _ => this⟩
  · rw [h1 hr] at e
    exact ⟨by omega, fun h => absurd h hr⟩
theorem turn_pot {v : List (List Int)} (hV : Val v) {give : List Int} (hA : aloneF v give < 0) : potF v give < potF v (turnF v give) := by
  obtain ⟨p, L, hL, hlen, hat, hper, hnd, _⟩ := ring_spec hV give
  have hm : (ringF v give).getD 0 0 ∈ ringF v give := getD_mem 0 (by omega)
  have hin := ring_in hV hm
  refine sumTo_lt (fun j hj => (turn_own hV hA (by omega)).1) ⟨((ringF v give).getD 0 0).toNat, by omega, ?_⟩
  rw [Int.toNat_of_nonneg hin.1]
  exact (turn_own hV hA hin).2 hm
theorem turn_ef1 {v : List (List Int)} (hV : Val v) {give : List Int} (hA : aloneF v give < 0) (h : EF1 v give) : EF1 v (turnF v give) := by
  obtain ⟨p, L, hL, hlen, hat, hper, hnd, _⟩ := ring_spec hV give
  intro i k hi hk
  have ho := (turn_own hV hA (i := (i : Int)) (by omega)).1
  obtain ⟨x, hx, h1, h2⟩ := sig_onto hnd (k : Int)
  have hxin : 0 ≤ x ∧ x < v.length := by
    by_cases hr : (k : Int) ∈ ringF v give
    · exact ring_in hV (h2 hr)
    · rw [h1 hr]; omega
  obtain ⟨x, rfl⟩ : ∃ n : Nat, x = n := ⟨x.toNat, by omega⟩
  have e := turn_has hV (give := give) (i : Int) (x : Int)
  rw [hx] at e
  rcases h i x hi (by omega) with h3 | ⟨g, hg, hgx, h3⟩
  · exact .inl (by omega)
  · refine .inr ⟨g, by rw [turnF_length]; exact hg, ?_, by omega⟩
    unfold turnF
    rw [mapr_getD 0 hg, hgx, hx]
theorem getD_set {l : List Int} {g : Nat} (w : Int) (hg : g < l.length) (j : Nat) : (l.set g w).getD j 0 = if j = g then w else l.getD j 0 := by
  simp only [List.getD_eq_getElem?_getD, List.getElem?_set]
  by_cases e : j = g
  · subst e; simp [hg]
  · simp [e, show ¬ g = j from fun c => e c.symm]
theorem set_has {v : List (List Int)} {give : List Int} {g : Nat} (hg : g < give.length) (hf : give.getD g 0 = -1) (w : Int) (i k : Int) (hk : 0 ≤ k) : hasF v (give.set g w) i k = hasF v give i k + (if w = k then (v.getD i.toNat []).getD g 0 else 0) := by
  unfold hasF
  rw [List.length_set]
  rw [sumTo_one (f := hasB v give i k) (g := hasB v (give.set g w) i k) hg fun j hj hne => by unfold hasB; rw [getD_set w hg, if_neg hne]]
  have e1 : hasB v give i k g = 0 := by unfold hasB; rw [hf, if_neg (by omega)]
  have e2 : hasB v (give.set g w) i k g = if w = k then (v.getD i.toNat []).getD g 0 else 0 := by unfold hasB; rw [getD_set w hg, if_pos rfl]
  rw [e1, e2]; omega
structure Good (v : List (List Int)) (give : List Int) (g : Nat) : Prop where
  len : give.length = mL v
  done : ∀ j, j < g → 0 ≤ give.getD j 0 ∧ give.getD j 0 < v.length
  free : ∀ j, g ≤ j → j < mL v → give.getD j 0 = -1
  ef1 : EF1 v give
theorem turn_good {v : List (List Int)} (hV : Val v) {give : List Int} {g : Nat} (hg : g ≤ mL v) (hA : aloneF v give < 0) (h : Good v give g) : Good v (turnF v give) g := by
  obtain ⟨p, L, hL, hlen, hat, hper, hnd, _⟩ := ring_spec hV give
  have hget : ∀ j, j < mL v → (turnF v give).getD j 0 = sigF (ringF v give) (give.getD j 0) := fun j hj => by unfold turnF; rw [mapr_getD 0 (by rw [h.len]; exact hj)]
  refine ⟨turnF_length.trans h.len, fun j hj => ?_, fun j h1 h2 => ?_, turn_ef1 hV hA h.ef1⟩
  · rw [hget j (by omega)]
    have := h.done j hj
    by_cases hr : give.getD j 0 ∈ ringF v give
    · exact ring_in hV (sig_mem hnd hr)
    · rw [sig_out hr]; exact this
  · rw [hget j h2, h.free j h1 h2]
    exact sig_out fun c => by have := ring_in hV c; omega
theorem set_good {v : List (List Int)} (hV : Val v) {give : List Int} {g : Nat} (hg : g < mL v) (hA : 0 ≤ aloneF v give) (h : Good v give g) : Good v (give.set g (aloneF v give)) (g + 1) := by
  have ha := aloneF_in hA
  have hgl : g < give.length := by rw [h.len]; exact hg
  have hf := h.free g (Nat.le_refl _) hg
  have hs := fun (i k : Int) (hk : 0 ≤ k) => set_has (v := v) hgl hf (aloneF v give) i k hk
  refine ⟨by rw [List.length_set]; exact h.len, fun j hj => ?_, fun j h1 h2 => ?_, ?_⟩
  · rw [getD_set _ hgl]
    by_cases e : j = g
    · rw [if_pos e]; exact ⟨hA, ha.1⟩
    · rw [if_neg e]; exact h.done j (by omega)
  · rw [getD_set _ hgl, if_neg (by omega)]; exact h.free j (by omega) h2
  · intro i k hi hk
    have hval := hV.val i hi g hg
    have h1 := hs i k (by omega)
    have h2 := hs i i (by omega)
    have e0 : ((i : Int)).toNat = i := by simp
    rw [e0] at h1 h2
    by_cases e : aloneF v give = (k : Int)
    · rw [if_pos e] at h1
      refine .inr ⟨g, by rw [List.length_set]; exact hgl, by rw [getD_set _ hgl, if_pos rfl]; exact e, ?_⟩
      have := ha.2 i hi
      rw [e] at this
      have h3 : 0 ≤ (if aloneF v give = (i : Int) then (v.getD i []).getD g 0 else 0) := by split <;> omega
      omega
    · rw [if_neg e] at h1
      have h3 : 0 ≤ (if aloneF v give = (i : Int) then (v.getD i []).getD g 0 else 0) := by split <;> omega
      rcases h.ef1 i k hi hk with h4 | ⟨g0, hg0, hgk, h4⟩
      · exact .inl (by omega)
      · refine .inr ⟨g0, by rw [List.length_set]; exact hg0, ?_, by omega⟩
        rw [getD_set _ hgl, if_neg (fun c => by rw [c, hf] at hgk; omega)]; exact hgk
theorem free_good {v : List (List Int)} (hV : Val v) : Good v (mapr (mL v) fun _ => -1) 0 := by
  have hget : ∀ j, j < mL v → (mapr (mL v) fun _ => (-1 : Int)).getD j 0 = -1 := fun j hj => mapr_getD 0 hj
  have hz : ∀ (i k : Int), 0 ≤ k → hasF v (mapr (mL v) fun _ => -1) i k = 0 := by
    intro i k hk
    unfold hasF
    rw [mapr_length, sumTo_same (g := fun _ => 0) fun j hj => by unfold hasB; rw [hget j hj, if_neg (by omega)]]
    have := sumTo_bd (f := fun _ => (0 : Int)) (A := 0) (B := 0) (n := mL v) fun _ _ => by omega
    omega
  refine ⟨by simp, fun j hj => by omega, fun j _ hj => hget j hj, fun i k hi hk => .inl ?_⟩
  rw [hz _ _ (by omega), hz _ _ (by omega)]; omega

def turnsF (v : List (List Int)) (give : List Int) : Nat → List Int
  | 0 => give
  | t + 1 => turnF v (turnsF v give t)
def settleF (v : List (List Int)) (give : List Int) : List Int := turnsF v give ((firstI (fun t => decide (0 ≤ aloneF v (turnsF v give t))) 100000).getD 0)
def circTo (v : List (List Int)) : Nat → List Int
  | 0 => mapr (mL v) fun _ => -1
  | g + 1 => (settleF v (circTo v g)).set g (aloneF v (settleF v (circTo v g)))
theorem turns_good {v : List (List Int)} (hV : Val v) {give : List Int} {g : Nat} (hg : g ≤ mL v) (h : Good v give g) : ∀ t, firstI (fun t => decide (0 ≤ aloneF v (turnsF v give t))) t = none → Good v (turnsF v give t) g ∧ (t : Int) ≤ potF v (turnsF v give t)
  | 0, _ => by
    refine ⟨h, ?_⟩
    have := sumTo_bd (f := fun i => hasF v give (i : Nat) (i : Nat)) (A := 0) (B := 8000) (n := v.length) fun j hj => hasF_bd hV h.len (by omega)
    unfold turnsF potF
    omega
  | t + 1, hn => by
    have h1 := firstI_none hn
    obtain ⟨h2, h3⟩ := turns_good hV hg h t (firstI_of fun j hj => h1 j (by omega))
    have h4 := h1 t (by omega)
    simp only [decide_eq_false_iff_not] at h4
    exact ⟨turn_good hV hg (by omega) h2, by have := turn_pot hV (give := turnsF v give t) (by omega); simp only [turnsF]; omega⟩
theorem turns_end {v : List (List Int)} (hV : Val v) {give : List Int} {g : Nat} (hg : g ≤ mL v) (h : Good v give g) {t : Nat} (ht : firstI (fun t => decide (0 ≤ aloneF v (turnsF v give t))) t = none) : t ≤ 32000 := by
  obtain ⟨h1, h2⟩ := turns_good hV hg h t ht
  have := sumTo_bd (f := fun i => hasF v (turnsF v give t) (i : Nat) (i : Nat)) (A := 0) (B := 8000) (n := v.length) fun j hj => hasF_bd hV h1.len (by omega)
  have := hV.n4
  unfold potF at h2
  omega
theorem settle_at {v : List (List Int)} (hV : Val v) {give : List Int} {g : Nat} (hg : g ≤ mL v) (h : Good v give g) {t : Nat} (ht : firstI (fun t => decide (0 ≤ aloneF v (turnsF v give t))) t = none) (ha : 0 ≤ aloneF v (turnsF v give t)) : settleF v give = turnsF v give t := by
  have := turns_end hV hg h ht
  unfold settleF
  rw [firstI_stop (k := t) ht (by simpa using ha) (by omega)]; rfl
theorem settle_good {v : List (List Int)} (hV : Val v) {give : List Int} {g : Nat} (hg : g ≤ mL v) (h : Good v give g) : Good v (settleF v give) g ∧ 0 ≤ aloneF v (settleF v give) := by
  unfold settleF
  cases e : firstI (fun t => decide (0 ≤ aloneF v (turnsF v give t))) 100000 with
  | none => have := turns_end hV hg h e; omega
  | some t =>
    have h1 := firstI_spec e
    exact ⟨(turns_good hV hg h t (firstI_of h1.2.2)).1, by simpa using h1.2.1⟩
theorem circ_good {v : List (List Int)} (hV : Val v) : ∀ g, g ≤ mL v → Good v (circTo v g) g
  | 0, _ => free_good hV
  | g + 1, hg => by
    obtain ⟨h1, h2⟩ := settle_good hV (by omega : g ≤ mL v) (circ_good hV g (by omega))
    exact set_good hV (by omega) h2 h1
def circF (v : List (List Int)) : List Int := if mayE v ≠ 0 then [] else circTo v (mL v)

/-! ### the table of envy -/

def lessTo (v : List (List Int)) (give : List Int) (i k : Nat) : Nat → Int
  | 0 => hasF v give i k
  | g + 1 => if give.getD g 0 = (k : Int) ∧ hasF v give i k - (v.getD i []).getD g 0 < lessTo v give i k g then hasF v give i k - (v.getD i []).getD g 0 else lessTo v give i k g
def envF (v : List (List Int)) (give : List Int) (i k : Nat) : Int := if (i : Int) = k then 0 else if hasF v give i i < lessTo v give i k give.length then 2 else if hasF v give i i < hasF v give i k then 1 else 0
def envT (v : List (List Int)) (give : List Int) : List (List Int) := mapr v.length fun i => mapr v.length fun k => envF v give i k
theorem lessTo_le {v : List (List Int)} {give : List Int} {i k : Nat} : ∀ n, lessTo v give i k n ≤ hasF v give i k ∧ ∀ g, g < n → give.getD g 0 = (k : Int) → lessTo v give i k n ≤ hasF v give i k - (v.getD i []).getD g 0
  | 0 => ⟨by simp [lessTo], fun g hg => by omega⟩
  | n + 1 => by
    obtain ⟨h1, h2⟩ := lessTo_le (v := v) (give := give) (i := i) (k := k) n
    simp only [lessTo]
    split
    · rename_i h3
      refine ⟨by omega, fun g hg hk => ?_⟩
      by_cases e : g = n
      · subst e; omega
      · have := h2 g (by omega) hk; omega
    · rename_i h3
      refine ⟨h1, fun g hg hk => ?_⟩
      by_cases e : g = n
      · subst e
        have : ¬ hasF v give i k - (v.getD i []).getD g 0 < lessTo v give i k g := fun c => h3 ⟨hk, c⟩
        omega
      · exact h2 g (by omega) hk
theorem envF_ne2 {v : List (List Int)} {give : List Int} (h : EF1 v give) {i k : Nat} (hi : i < v.length) (hk : k < v.length) : envF v give i k ≠ 2 := by
  obtain ⟨h1, h2⟩ := lessTo_le (v := v) (give := give) (i := i) (k := k) give.length
  have h3 : ¬ hasF v give i i < lessTo v give i k give.length := by
    rcases h i k hi hk with h4 | ⟨g, hg, hgk, h4⟩
    · omega
    · have := h2 g hg hgk; omega
  unfold envF
  rw [if_neg h3]
  split
  · omega
  · split <;> omega

theorem valE_ok {r : List Int} {j : Nat} (hj : j ≤ r.length) (hG : firstE (valB r) j = 0) (hn : ¬ (j : Int) < r.length) : valE r = 0 := by
  obtain rfl : j = r.length := by omega
  exact hG
theorem alone_no {v : List (List Int)} {give : List Int} {i k : Nat} (hk : k ≤ v.length) (hn : ¬ (k : Int) < v.length) (h : anyTo (fun k => envB v give (k : Nat) (i : Nat)) k = true) : (!envied v give i) = false := by
  obtain rfl : k = v.length := by omega
  unfold envied; rw [h]; rfl
theorem alone_yes {v : List (List Int)} {give : List Int} {i k : Nat} (hk : k ≤ v.length) (hn : ¬ (k : Int) < v.length) (h : anyTo (fun k => envB v give (k : Nat) (i : Nat)) k = false) : (!envied v give i) = true := by
  obtain rfl : k = v.length := by omega
  unfold envied; rw [h]; rfl
theorem free_eq {v : List (List Int)} : List.replicate (((v.getD (Int.toNat 0) []).length : Nat) : Int).toNat (0 : Int) = mapr (mL v) fun j => if j < 0 then -1 else 0 := by
  rw [Int.toNat_natCast, replicate_mapr]
  exact mapr_same fun j _ => by simp
theorem free_len {v : List (List Int)} : (List.replicate (((v.getD (Int.toNat 0) []).length : Nat) : Int).toNat (0 : Int)).length = mL v := by
  rw [Int.toNat_natCast, List.length_replicate]; rfl
theorem stop_at {v : List (List Int)} (hV : Val v) {give : List Int} {t : Nat} (hp : firstI (fun t => decide (0 ≤ placeF (wayF v give t) (atF v give t))) t = none) (h : 0 ≤ placeF (wayF v give t) (atF v give t)) : stopT v give = t := by
  have := way_len hV hp
  unfold stopT
  rw [firstI_stop (k := t) hp (by simpa using h) (by omega)]; rfl
theorem ring_at {v : List (List Int)} {give : List Int} {t : Nat} (h : stopT v give = t) : ((wayF v give t).take (((wayF v give t).length : Nat) : Int).toNat).drop (placeF (wayF v give t) (atF v give t)).toNat = ringF v give := by
  subst h
  rw [Int.toNat_natCast, List.take_length]; rfl
theorem toF_snoc {r : List Int} {i : Nat} : toF r i ++ [(r.getD i 0, r.getD (((i : Int) + 1) % ((r.length : Nat) : Int)).toNat 0)] = toF r (i + 1) := by
  have e : (((i : Int) + 1) % ((r.length : Nat) : Int)).toNat = (i + 1) % r.length := by
    rw [show (i : Int) + 1 = ((i + 1 : Nat) : Int) by simp, ← Int.natCast_emod, Int.toNat_natCast]
  rw [e]; unfold toF; rw [mapr_succ]
def partF (r give : List Int) (g : Nat) : List Int := mapr give.length fun j => if j < g then sigF r (give.getD j 0) else give.getD j 0
@[simp] theorem partF_length {r give : List Int} {g : Nat} : (partF r give g).length = give.length := by simp [partF]
theorem partF_zero {r give : List Int} : give = partF r give 0 := by
  refine List.ext_getElem (by simp) fun j h1 h2 => ?_
  simp [partF, mapr, List.getD_eq_getElem?_getD, h1]
theorem partF_get {r give : List Int} {g : Nat} (hg : (g : Int) < give.length) : (partF r give g).getD g 0 = give.getD g 0 := by
  unfold partF
  rw [mapr_getD 0 (by omega), if_neg (by omega)]
theorem partF_set {r give : List Int} {g : Nat} (hg : (g : Int) < give.length) (h : (List.lookup ((partF r give g).getD g 0) (toF r r.length)).isSome = true) : (partF r give g).set g (mget (toF r r.length) ((partF r give g).getD g 0)) = partF r give (g + 1) := by
  rw [partF_get hg] at h ⊢
  unfold partF
  refine mapr_set (fun _ => ?_) fun j _ hne => ?_
  · rw [if_pos (by omega)]; unfold sigF; rw [if_pos h]
  · by_cases e : j < g
    · rw [if_pos e, if_pos (by omega)]
    · rw [if_neg e, if_neg (by omega)]
theorem partF_skip {r give : List Int} {g : Nat} (hg : (g : Int) < give.length) (h : (List.lookup ((partF r give g).getD g 0) (toF r r.length)).isSome = false) : partF r give g = partF r give (g + 1) := by
  rw [partF_get hg] at h
  unfold partF
  refine mapr_same fun j _ => ?_
  by_cases e : j < g
  · rw [if_pos e, if_pos (by omega)]
  · rw [if_neg e]
    by_cases e2 : j = g
    · subst e2; rw [if_pos (by omega)]; unfold sigF; rw [h]; rfl
    · rw [if_neg (by omega)]
theorem partF_end {v : List (List Int)} {give : List Int} : partF (ringF v give) give give.length = turnF v give := mapr_same fun j hj => if_pos hj
theorem circ_step {v : List (List Int)} (hV : Val v) {g t : Nat} (hg : g ≤ mL v) (hG : Good v (circTo v g) g) (ht : firstI (fun t => decide (0 ≤ aloneF v (turnsF v (circTo v g) t))) t = none) (ha : ¬ aloneF v (turnsF v (circTo v g) t) < 0) : (turnsF v (circTo v g) t).set g (aloneF v (turnsF v (circTo v g) t)) = circTo v (g + 1) := by
  rw [circTo, settle_at hV hg hG ht (by omega)]
theorem circ_err {v : List (List Int)} (h : ¬ mayE v = 0) : PV.tup [.ints [], .i (mayE v)] = .tup [.ints (circF v), .i (mayE v)] := by
  unfold circF; rw [if_pos h]
theorem circ_ok {v : List (List Int)} {g : Nat} (h : mayE v = 0) (hg : g = mL v) : PV.tup [.ints (circTo v g), .i 0] = .tup [.ints (circF v), .i (mayE v)] := by
  subst hg
  unfold circF; rw [h, if_neg (by simp)]
theorem less_in {v : List (List Int)} {give : List Int} {i k g : Nat} (h : give.getD g 0 = (k : Int) ∧ hasF v give i k - (v.getD i []).getD g 0 < lessTo v give i k g) : hasF v give i k - (v.getD i []).getD g 0 = lessTo v give i k (g + 1) := by
  rw [lessTo, if_pos h]
theorem less_out {v : List (List Int)} {give : List Int} {i k g : Nat} (h : ¬ (give.getD g 0 = (k : Int) ∧ hasF v give i k - (v.getD i []).getD g 0 < lessTo v give i k g)) : lessTo v give i k g = lessTo v give i k (g + 1) := by
  rw [lessTo, if_neg h]
theorem env0 {v : List (List Int)} {give : List Int} {i k : Nat} (h : (i : Int) = k) : 0 = envF v give i k := (if_pos h).symm
theorem env2 {v : List (List Int)} {give : List Int} {i k : Nat} (h : ¬ (i : Int) = k) (h2 : hasF v give i i < lessTo v give i k give.length) : 2 = envF v give i k := by unfold envF; rw [if_neg h, if_pos h2]
theorem env1 {v : List (List Int)} {give : List Int} {i k : Nat} (h : ¬ (i : Int) = k) (h2 : ¬ hasF v give i i < lessTo v give i k give.length) (h1 : hasF v give i i < hasF v give i k) : 1 = envF v give i k := by unfold envF; rw [if_neg h, if_neg h2, if_pos h1]
theorem env00 {v : List (List Int)} {give : List Int} {i k : Nat} (h : ¬ (i : Int) = k) (h2 : ¬ hasF v give i i < lessTo v give i k give.length) (h1 : ¬ hasF v give i i < hasF v give i k) : 0 = envF v give i k := by unfold envF; rw [if_neg h, if_neg h2, if_neg h1]
theorem env_snoc {v : List (List Int)} {give : List Int} {i k : Nat} {c : Int} (h : c = envF v give i k) : (mapr k fun k => envF v give i k) ++ [c] = mapr (k + 1) fun k => envF v give i k := by rw [mapr_succ, h]
theorem has_in {v : List (List Int)} {give : List Int} {who other : Int} {g : Nat} (h : give.getD g 0 = other) : sumTo (hasB v give who other) g + (v.getD who.toNat []).getD g 0 = sumTo (hasB v give who other) (g + 1) := by
  rw [sumTo, hasB, if_pos h]
theorem has_out {v : List (List Int)} {give : List Int} {who other : Int} {g : Nat} (h : ¬ give.getD g 0 = other) : sumTo (hasB v give who other) g = sumTo (hasB v give who other) (g + 1) := by
  rw [sumTo, hasB, if_neg h]; omega

theorem Index_fc (l : List Int) (x : Int) : FC Try.prog 38 [.ints l, .i x] (.i (placeF l x)) := by
  refine FC.intro Try.func38 rfl (Nat.le_of_ble_eq_true rfl) fun hfit => ?_
  obtain ⟨fitl0, fitr0⟩ := (hfit _ (.head _)).ints
  have fit1 : -9223372036854775808 ≤ (x : Int) ∧ (x : Int) ≤ 9223372036854775807 := (hfit _ (.tail _ (.head _))).int64
  refine awp_seq ?_
  refine awp_region rfl (.n (fun _ => op_assign (.plain rfl)) (.nil _)) ?_
  refine awp_seq ?_
  refine awp_seq ?_
  refine awp_region rfl (.n (fun _ => op_move (.plain rfl)) (.n (fun _ => op_len (s := 0) Try.underlying24 (.plain rfl)) (.n (fun _ => op_move (.plain rfl)) (.nil _)))) ?_
  refine awp_block ?_
  refine awp_loop (σ := Nat) (fun (k : Nat) => k ≤ l.length ∧ firstI (fun i => decide (l.getD i 0 = x)) k = none) (fun (k : Nat) => ⟨[(0, .pv (.ints l)), (1, .int x), (6, .pv (.ints l)), (7, .int (l.length : Nat)), (8, .int (k : Nat))], []⟩) (fun (k : Nat) => l.length - k) 0 ?_ (Ent.kept ⟨rfl, rfl, rfl, rfl, rfl, trivial⟩ trivial) ?_
  · exact ⟨Nat.zero_le _, rfl⟩
  rintro k hp
  try dsimp only at hp
  obtain ⟨hk, hE⟩ := hp
  refine awp_seq ?_
  refine awp_region rfl (.n (fun _ => op_lss (.plain rfl) (.plain rfl)) (.nil _)) ?_
  refine awp_seq ?_
  refine awp_cond rfl (fun h => ?_) (fun h => ?_)
  · try simp only [decide_eq_true_eq, decide_eq_false_iff_not, Bool.and_eq_true, Bool.or_eq_true, Bool.and_eq_false_iff, Bool.or_eq_false_iff, Bool.not_eq_true', Bool.not_eq_false', Bool.not_eq_true, Bool.not_eq_false, Bool.true_eq_false, Bool.false_eq_true] at h
    refine awp_skip ?_
    refine awp_seq ?_
    refine awp_block ?_
    refine awp_seq ?_
    refine awp_region rfl (.n (fun _ => op_move (.plain rfl)) (.n (fun _ => op_assign (.plain rfl)) (.nil _))) ?_
    refine awp_seq ?_
    refine awp_region rfl (.n (fun _ => op_move (.plain rfl)) (.n (fun _ => op_move (.plain rfl)) (.n (fun _ => op_move (.plain rfl)) (.n (fun _ => op_indexAddrN Try.underlying24 Try.sizeOf3 (.plain rfl) (.plain rfl) (fun _ => rfl) ?_) (.n (fun _ => op_load Try.isAgg3 (.plain rfl)) (.n (fun _ => op_eql (.plain rfl) (.plain rfl)) (.nil _))))))) ?_
    · omega
    refine awp_cond rfl (fun h => ?_) (fun h => ?_)
    · try simp only [decide_eq_true_eq, decide_eq_false_iff_not, Bool.and_eq_true, Bool.or_eq_true, Bool.and_eq_false_iff, Bool.or_eq_false_iff, Bool.not_eq_true', Bool.not_eq_false', Bool.not_eq_true, Bool.not_eq_false, Bool.true_eq_false, Bool.false_eq_true] at h
      refine awp_seq ?_
      refine awp_region rfl (.n (fun _ => op_move (.plain rfl)) (.n (fun _ => op_assign (.plain rfl)) (.nil _))) ?_
      refine awp_ret ?_
      refine retQ.ret ?_
      refine ret1 rfl rfl rfl ?_
      unfold placeF
      rw [firstI_stop hE (decide_eq_true h.symm) (by omega)]
    · try simp only [decide_eq_true_eq, decide_eq_false_iff_not, Bool.and_eq_true, Bool.or_eq_true, Bool.and_eq_false_iff, Bool.or_eq_false_iff, Bool.not_eq_true', Bool.not_eq_false', Bool.not_eq_true, Bool.not_eq_false, Bool.true_eq_false, Bool.false_eq_true] at h
      refine awp_skip ?_
      refine awp_region rfl (.n (fun _ => op_add (.plain rfl) (.plain rfl) ?_) (.n (fun _ => op_move (.plain rfl)) (.nil _))) ?_
      · unfold InR; omega
      exact ⟨k + 1, ⟨by omega, firstI_succ hE (decide_eq_false fun c => h c.symm)⟩, by dsimp only; omega, (Ent.kept ⟨rfl, rfl, rfl, rfl, rfl, trivial⟩ trivial)⟩
  · try simp only [decide_eq_true_eq, decide_eq_false_iff_not, Bool.and_eq_true, Bool.or_eq_true, Bool.and_eq_false_iff, Bool.or_eq_false_iff, Bool.not_eq_true', Bool.not_eq_false', Bool.not_eq_true, Bool.not_eq_false, Bool.true_eq_false, Bool.false_eq_true] at h
    refine awp_exit ?_
    refine awp_seq ?_
    refine awp_region rfl (.n (fun _ => op_assign (.plain rfl)) (.nil _)) ?_
    refine awp_ret ?_
    refine retQ.ret ?_
    refine ret1 rfl rfl rfl ?_
    obtain rfl : k = l.length := by omega
    unfold placeF
    rw [hE]

theorem Contains_fc (l : List Int) (x : Int) : FC Try.prog 36 [.ints l, .i x] (.bool (decide (0 ≤ placeF l x))) := by
  refine FC.intro Try.func36 rfl (Nat.le_of_ble_eq_true rfl) fun hfit => ?_
  obtain ⟨fitl0, fitr0⟩ := (hfit _ (.head _)).ints
  have fit1 : -9223372036854775808 ≤ (x : Int) ∧ (x : Int) ≤ 9223372036854775807 := (hfit _ (.tail _ (.head _))).int64
  refine awp_seq ?_
  refine awp_region rfl (.n (fun _ => op_assign (.plain rfl)) (.nil _)) ?_
  refine awp_seq ?_
  refine awp_region rfl (.n (fun _ => op_move (.plain rfl)) (.n (fun _ => op_move (.plain rfl)) (.n (fun _ => op_call2 Try.call38 (.plain rfl) (.plain rfl) (Index_fc _ _)) (.n (fun _ => op_geq (.plain rfl) (.plain rfl)) (.n (fun _ => op_assign (.plain rfl)) (.nil _)))))) ?_
  refine awp_ret ?_
  refine retQ.ret ?_
  refine ret1 rfl rfl rfl ?_
  rfl

theorem Place_fc (l : List Int) (x : Int) : FC Try.prog 27 [.ints l, .i x] (.i (placeF l x)) := by
  refine FC.intro Try.func27 rfl (Nat.le_of_ble_eq_true rfl) fun hfit => ?_
  obtain ⟨fitl0, fitr0⟩ := (hfit _ (.head _)).ints
  have fit1 : -9223372036854775808 ≤ (x : Int) ∧ (x : Int) ≤ 9223372036854775807 := (hfit _ (.tail _ (.head _))).int64
  refine awp_seq ?_
  refine awp_region rfl (.n (fun _ => op_assign (.plain rfl)) (.nil _)) ?_
  refine awp_seq ?_
  refine awp_seq ?_
  refine awp_region rfl (.n (fun _ => op_assign (.plain rfl)) (.nil _)) ?_
  refine awp_block ?_
  refine awp_loop (σ := Nat) (fun (k : Nat) => k ≤ l.length ∧ firstI (fun i => decide (l.getD i 0 = x)) k = none) (fun (k : Nat) => ⟨[(0, .pv (.ints l)), (1, .int x), (5, .int (k : Nat))], []⟩) (fun (k : Nat) => l.length - k) 0 ?_ (Ent.kept ⟨rfl, rfl, rfl, trivial⟩ trivial) ?_
  · exact ⟨Nat.zero_le _, rfl⟩
  rintro k hp
  try dsimp only at hp
  obtain ⟨hk, hE⟩ := hp
  refine awp_seq ?_
  refine awp_seq ?_
  refine awp_region rfl (.n (fun _ => op_move (.plain rfl)) (.n (fun _ => op_move (.plain rfl)) (.n (fun _ => op_len (s := 0) Try.underlying24 (.plain rfl)) (.n (fun _ => op_lss (.plain rfl) (.plain rfl)) (.nil _))))) ?_
  refine awp_cond rfl (fun h => ?_) (fun h => ?_)
  · try simp only [decide_eq_true_eq, decide_eq_false_iff_not, Bool.and_eq_true, Bool.or_eq_true, Bool.and_eq_false_iff, Bool.or_eq_false_iff, Bool.not_eq_true', Bool.not_eq_false', Bool.not_eq_true, Bool.not_eq_false, Bool.true_eq_false, Bool.false_eq_true] at h
    refine awp_skip ?_
    refine awp_seq ?_
    refine awp_block ?_
    refine awp_seq ?_
    refine awp_region rfl (.n (fun _ => op_move (.plain rfl)) (.n (fun _ => op_move (.plain rfl)) (.n (fun _ => op_indexAddrN Try.underlying24 Try.sizeOf3 (.plain rfl) (.plain rfl) (fun _ => rfl) ?_) (.n (fun _ => op_load Try.isAgg3 (.plain rfl)) (.n (fun _ => op_move (.plain rfl)) (.n (fun _ => op_eql (.plain rfl) (.plain rfl)) (.nil _))))))) ?_
    · omega
    refine awp_cond rfl (fun h => ?_) (fun h => ?_)
    · try simp only [decide_eq_true_eq, decide_eq_false_iff_not, Bool.and_eq_true, Bool.or_eq_true, Bool.and_eq_false_iff, Bool.or_eq_false_iff, Bool.not_eq_true', Bool.not_eq_false', Bool.not_eq_true, Bool.not_eq_false, Bool.true_eq_false, Bool.false_eq_true] at h
      refine awp_seq ?_
      refine awp_region rfl (.n (fun _ => op_move (.plain rfl)) (.n (fun _ => op_assign (.plain rfl)) (.nil _))) ?_
      refine awp_ret ?_
      refine retQ.ret ?_
      refine ret1 rfl rfl rfl ?_
      unfold placeF
      rw [firstI_stop hE (decide_eq_true h) (by omega)]
    · try simp only [decide_eq_true_eq, decide_eq_false_iff_not, Bool.and_eq_true, Bool.or_eq_true, Bool.and_eq_false_iff, Bool.or_eq_false_iff, Bool.not_eq_true', Bool.not_eq_false', Bool.not_eq_true, Bool.not_eq_false, Bool.true_eq_false, Bool.false_eq_true] at h
      refine awp_skip ?_
      refine awp_region rfl (.n (fun _ => op_move (.plain rfl)) (.n (fun _ => op_add (.plain rfl) (.plain rfl) ?_) (.n (fun _ => op_assign (.plain rfl)) (.nil _)))) ?_
      · unfold InR; omega
      exact ⟨k + 1, ⟨by omega, firstI_succ hE (decide_eq_false h)⟩, by dsimp only; omega, (Ent.kept ⟨rfl, rfl, rfl, trivial⟩ trivial)⟩
  · try simp only [decide_eq_true_eq, decide_eq_false_iff_not, Bool.and_eq_true, Bool.or_eq_true, Bool.and_eq_false_iff, Bool.or_eq_false_iff, Bool.not_eq_true', Bool.not_eq_false', Bool.not_eq_true, Bool.not_eq_false, Bool.true_eq_false, Bool.false_eq_true] at h
    refine awp_exit ?_
    refine awp_seq ?_
    refine awp_region rfl (.n (fun _ => op_assign (.plain rfl)) (.nil _)) ?_
    refine awp_ret ?_
    refine retQ.ret ?_
    refine ret1 rfl rfl rfl ?_
    obtain rfl : k = l.length := by omega
    unfold placeF
    rw [hE]

theorem In_fc (x : Int) (l : List Int) : FC Try.prog 10 [.i x, .ints l] (.bool (decide (0 ≤ placeF l x))) := by
  refine FC.intro Try.func10 rfl (Nat.le_of_ble_eq_true rfl) fun hfit => ?_
  have fit0 : -9223372036854775808 ≤ (x : Int) ∧ (x : Int) ≤ 9223372036854775807 := (hfit _ (.head _)).int64
  obtain ⟨fitl1, fitr1⟩ := (hfit _ (.tail _ (.head _))).ints
  refine awp_seq ?_
  refine awp_region rfl (.n (fun _ => op_assign (.plain rfl)) (.nil _)) ?_
  refine awp_seq ?_
  refine awp_region rfl (.n (fun _ => op_move (.plain rfl)) (.n (fun _ => op_move (.plain rfl)) (.n (fun _ => op_call2 Try.call27 (.plain rfl) (.plain rfl) (Place_fc _ _)) (.n (fun _ => op_geq (.plain rfl) (.plain rfl)) (.n (fun _ => op_assign (.plain rfl)) (.nil _)))))) ?_
  refine awp_ret ?_
  refine retQ.ret ?_
  refine ret1 rfl rfl rfl ?_
  rfl

theorem May_fc (v : List (List Int)) : FC Try.prog 13 [.rows v] (.i (mayE v)) := by
  refine FC.intro Try.func13 rfl (Nat.le_of_ble_eq_true rfl) fun hfit => ?_
  obtain ⟨fitl0, fitr0⟩ := (hfit _ (.head _)).rows
  have hvl := fitl0
  refine awp_seq ?_
  refine awp_region rfl (.n (fun _ => op_assign (.plain rfl)) (.nil _)) ?_
  refine awp_seq ?_
  refine awp_seq ?_
  refine awp_region rfl (.n (fun _ => op_move (.plain rfl)) (.n (fun _ => op_len (s := 0) Try.underlying22 (.plain rfl)) (.n (fun _ => op_lss (.plain rfl) (.plain rfl)) (.n (fun _ => op_move (.plain rfl)) (.gn rfl rfl (fun hg _ => op_move (.plain rfl)) (.gn rfl rfl (fun hg _ => op_len (s := 0) Try.underlying22 (.opt rfl fun h => h)) (.gn rfl rfl (fun hg _ => op_gtr (.opt rfl fun h => h) (.plain rfl)) (.n (fun _ => op_or (.plain rfl) (.plain rfl) (.plain rfl) (fun h => eqF h)) (.nil _))))))))) ?_
  refine awp_cond rfl (fun h => ?_) (fun h => ?_)
  · try simp only [decide_eq_true_eq, decide_eq_false_iff_not, Bool.and_eq_true, Bool.or_eq_true, Bool.and_eq_false_iff, Bool.or_eq_false_iff, Bool.not_eq_true', Bool.not_eq_false', Bool.not_eq_true, Bool.not_eq_false, Bool.true_eq_false, Bool.false_eq_true] at h
    refine awp_seq ?_
    refine awp_region rfl (.n (fun _ => op_assign (.plain rfl)) (.nil _)) ?_
    refine awp_ret ?_
    refine retQ.ret ?_
    refine ret1 rfl rfl rfl ?_
    exact congrArg PV.i (mayE_n h)
  · try simp only [decide_eq_true_eq, decide_eq_false_iff_not, Bool.and_eq_true, Bool.or_eq_true, Bool.and_eq_false_iff, Bool.or_eq_false_iff, Bool.not_eq_true', Bool.not_eq_false', Bool.not_eq_true, Bool.not_eq_false, Bool.true_eq_false, Bool.false_eq_true] at h
    have h7 : ¬ ((v.length : Int) < 1 ∨ 4 < (v.length : Int)) := by omega
    refine awp_skip ?_
    refine awp_seq ?_
    refine awp_seq ?_
    refine awp_region rfl (.n (fun _ => op_move (.plain rfl)) (.n (fun _ => op_len (s := 0) Try.underlying22 (.plain rfl)) (.n (fun _ => op_move (.plain rfl)) (.nil _)))) ?_
    refine awp_block ?_
    refine awp_loop (σ := Nat) (fun (k : Nat) => k ≤ v.length ∧ firstE (lenB v) k = 0) (fun (k : Nat) => ⟨[(0, .pv (.rows v)), (17, .pv (.rows v)), (18, .int (v.length : Nat)), (19, .int (k : Nat))], []⟩) (fun (k : Nat) => v.length - k) 0 ?_ (Ent.kept ⟨rfl, rfl, rfl, rfl, trivial⟩ trivial) ?_
    · exact ⟨Nat.zero_le _, rfl⟩
    rintro k hp
    try dsimp only at hp
    obtain ⟨hk, hE⟩ := hp
    refine awp_seq ?_
    refine awp_region rfl (.n (fun _ => op_lss (.plain rfl) (.plain rfl)) (.nil _)) ?_
    refine awp_seq ?_
    refine awp_cond rfl (fun h => ?_) (fun h => ?_)
    · try simp only [decide_eq_true_eq, decide_eq_false_iff_not, Bool.and_eq_true, Bool.or_eq_true, Bool.and_eq_false_iff, Bool.or_eq_false_iff, Bool.not_eq_true', Bool.not_eq_false', Bool.not_eq_true, Bool.not_eq_false, Bool.true_eq_false, Bool.false_eq_true] at h
      refine awp_skip ?_
      refine awp_seq ?_
      refine awp_block ?_
      refine awp_seq ?_
      refine awp_region rfl (.n (fun _ => op_indexAddrN Try.underlying22 Try.sizeOf24 (.plain rfl) (.plain rfl) (fun _ => rfl) ?_) (.n (fun _ => op_load Try.isAgg24 (.plain rfl)) (.n (fun _ => op_assign (.plain rfl)) (.nil _)))) ?_
      · omega
      refine awp_seq ?_
      refine awp_region rfl (.n (fun _ => op_move (.plain rfl)) (.n (fun _ => op_len (s := 0) Try.underlying24 (.plain rfl)) (.n (fun _ => op_gtr (.plain rfl) (.plain rfl)) (.n (fun _ => op_move (.plain rfl)) (.gn rfl rfl (fun hg _ => op_move (.plain rfl)) (.gn rfl rfl (fun hg _ => op_len (s := 0) Try.underlying24 (.opt rfl fun h => h)) (.gn rfl rfl (fun hg _ => op_move (.plain rfl)) (.gn rfl rfl (fun hg _ => op_indexAddr Try.underlying22 Try.sizeOf24 (.opt rfl fun h => h) (.plain rfl) (fun _ => rfl) ?_) (.gn rfl rfl (fun hg _ => op_load Try.isAgg24 (.opt rfl fun h => h)) (.gn rfl rfl (fun hg _ => op_len (s := 0) Try.underlying24 (.opt rfl fun h => h)) (.gn rfl rfl (fun hg _ => op_neq (.opt rfl fun h => h) (.opt rfl fun h => h)) (.n (fun _ => op_or (.plain rfl) (.plain rfl) (.plain rfl) (fun h => eqF h)) (.nil _))))))))))))) ?_
      · try simp only [beq_iff_eq, beq_true, beq_false, Bool.and_eq_true, decide_eq_true_eq, decide_eq_false_iff_not, Bool.not_eq_true', Bool.or_eq_true, Bool.or_eq_false_iff] at hg
        omega
      refine awp_cond rfl (fun h => ?_) (fun h => ?_)
      · try simp only [decide_eq_true_eq, decide_eq_false_iff_not, Bool.and_eq_true, Bool.or_eq_true, Bool.and_eq_false_iff, Bool.or_eq_false_iff, Bool.not_eq_true', Bool.not_eq_false', Bool.not_eq_true, Bool.not_eq_false, Bool.true_eq_false, Bool.false_eq_true] at h
        try simp only [Int.toNat_zero] at h
        refine awp_seq ?_
        refine awp_region rfl (.n (fun _ => op_assign (.plain rfl)) (.nil _)) ?_
        refine awp_ret ?_
        refine retQ.ret ?_
        refine ret1 rfl rfl rfl ?_
        exact congrArg PV.i (mayE_len h7 hE (by omega) (by omega))
      · try simp only [decide_eq_true_eq, decide_eq_false_iff_not, Bool.and_eq_true, Bool.or_eq_true, Bool.and_eq_false_iff, Bool.or_eq_false_iff, Bool.not_eq_true', Bool.not_eq_false', Bool.not_eq_true, Bool.not_eq_false, Bool.true_eq_false, Bool.false_eq_true] at h
        try simp only [Int.toNat_zero] at h
        refine awp_skip ?_
        refine awp_region rfl (.n (fun _ => op_add (.plain rfl) (.plain rfl) ?_) (.n (fun _ => op_move (.plain rfl)) (.nil _))) ?_
        · unfold InR; omega
        exact ⟨k + 1, ⟨by omega, firstE_succ hE (if_neg (by omega))⟩, by dsimp only; omega, (Ent.kept ⟨rfl, rfl, rfl, rfl, trivial⟩ trivial)⟩
    · try simp only [decide_eq_true_eq, decide_eq_false_iff_not, Bool.and_eq_true, Bool.or_eq_true, Bool.and_eq_false_iff, Bool.or_eq_false_iff, Bool.not_eq_true', Bool.not_eq_false', Bool.not_eq_true, Bool.not_eq_false, Bool.true_eq_false, Bool.false_eq_true] at h
      refine awp_exit ?_
      refine awp_seq ?_
      refine awp_seq ?_
      refine awp_region rfl (.n (fun _ => op_move (.plain rfl)) (.n (fun _ => op_len (s := 0) Try.underlying22 (.plain rfl)) (.n (fun _ => op_move (.plain rfl)) (.nil _)))) ?_
      refine awp_block ?_
      refine awp_loop (σ := Nat) (fun (i : Nat) => i ≤ v.length ∧ firstE (fun i => valE (v.getD i [])) i = 0) (fun (i : Nat) => ⟨[(36, .pv (.rows v)), (37, .int (v.length : Nat)), (38, .int (i : Nat))], []⟩) (fun (i : Nat) => v.length - i) 0 ?_ (Ent.kept ⟨rfl, rfl, rfl, trivial⟩ trivial) ?_
      · exact ⟨Nat.zero_le _, rfl⟩
      rintro i hp
      try dsimp only at hp
      obtain ⟨hi, hF⟩ := hp
      refine awp_seq ?_
      refine awp_region rfl (.n (fun _ => op_lss (.plain rfl) (.plain rfl)) (.nil _)) ?_
      refine awp_seq ?_
      refine awp_cond rfl (fun h => ?_) (fun h => ?_)
      · try simp only [decide_eq_true_eq, decide_eq_false_iff_not, Bool.and_eq_true, Bool.or_eq_true, Bool.and_eq_false_iff, Bool.or_eq_false_iff, Bool.not_eq_true', Bool.not_eq_false', Bool.not_eq_true, Bool.not_eq_false, Bool.true_eq_false, Bool.false_eq_true] at h
        refine awp_skip ?_
        refine awp_seq ?_
        refine awp_block ?_
        refine awp_seq ?_
        refine awp_region rfl (.n (fun _ => op_indexAddrN Try.underlying22 Try.sizeOf24 (.plain rfl) (.plain rfl) (fun _ => rfl) ?_) (.n (fun _ => op_load Try.isAgg24 (.plain rfl)) (.n (fun _ => op_assign (.plain rfl)) (.nil _)))) ?_
        · omega
        refine awp_seq ?_
        refine awp_region rfl (.n (fun _ => op_move (.plain rfl)) (.n (fun _ => op_len (s := 0) Try.underlying24 (.plain rfl)) (.n (fun _ => op_move (.plain rfl)) (.nil _)))) ?_
        refine awp_block ?_
        refine awp_loop (σ := Nat) (fun (j : Nat) => j ≤ (v.getD i []).length ∧ firstE (valB (v.getD i [])) j = 0) (fun (j : Nat) => ⟨[(36, .pv (.rows v)), (37, .int (v.length : Nat)), (38, .int (i : Nat)), (42, .pv (.ints (v.getD i []))), (43, .int ((v.getD i []).length : Nat)), (44, .int (j : Nat))], []⟩) (fun (j : Nat) => (v.getD i []).length - j) 0 ?_ (Ent.kept ⟨rfl, rfl, rfl, rfl, rfl, rfl, trivial⟩ trivial) ?_
        · exact ⟨Nat.zero_le _, rfl⟩
        rintro j hp
        try dsimp only at hp
        obtain ⟨hj, hG⟩ := hp
        have hrl := (fitr0 _ (getD_mem [] (show i < v.length by omega))).1
        refine awp_seq ?_
        refine awp_region rfl (.n (fun _ => op_lss (.plain rfl) (.plain rfl)) (.nil _)) ?_
        refine awp_seq ?_
        refine awp_cond rfl (fun h => ?_) (fun h => ?_)
        · try simp only [decide_eq_true_eq, decide_eq_false_iff_not, Bool.and_eq_true, Bool.or_eq_true, Bool.and_eq_false_iff, Bool.or_eq_false_iff, Bool.not_eq_true', Bool.not_eq_false', Bool.not_eq_true, Bool.not_eq_false, Bool.true_eq_false, Bool.false_eq_true] at h
          refine awp_skip ?_
          refine awp_seq ?_
          refine awp_block ?_
          refine awp_seq ?_
          refine awp_region rfl (.n (fun _ => op_indexAddrN Try.underlying24 Try.sizeOf3 (.plain rfl) (.plain rfl) (fun _ => rfl) ?_) (.n (fun _ => op_load Try.isAgg3 (.plain rfl)) (.n (fun _ => op_assign (.plain rfl)) (.nil _)))) ?_
          · omega
          refine awp_seq ?_
          refine awp_region rfl (.n (fun _ => op_move (.plain rfl)) (.n (fun _ => op_lss (.plain rfl) (.plain rfl)) (.n (fun _ => op_move (.plain rfl)) (.gn rfl rfl (fun hg _ => op_move (.plain rfl)) (.gn rfl rfl (fun hg _ => op_gtr (.opt rfl fun h => h) (.plain rfl)) (.n (fun _ => op_or (.plain rfl) (.plain rfl) (.plain rfl) (fun h => eqF h)) (.nil _))))))) ?_
          refine awp_cond rfl (fun h => ?_) (fun h => ?_)
          · try simp only [decide_eq_true_eq, decide_eq_false_iff_not, Bool.and_eq_true, Bool.or_eq_true, Bool.and_eq_false_iff, Bool.or_eq_false_iff, Bool.not_eq_true', Bool.not_eq_false', Bool.not_eq_true, Bool.not_eq_false, Bool.true_eq_false, Bool.false_eq_true] at h
            refine awp_seq ?_
            refine awp_region rfl (.n (fun _ => op_assign (.plain rfl)) (.nil _)) ?_
            refine awp_ret ?_
            refine retQ.ret ?_
            refine ret1 rfl rfl rfl ?_
            exact congrArg PV.i (mayE_val h7 hk hE (by omega) hF (by omega) hG (by omega) (by omega))
          · try simp only [decide_eq_true_eq, decide_eq_false_iff_not, Bool.and_eq_true, Bool.or_eq_true, Bool.and_eq_false_iff, Bool.or_eq_false_iff, Bool.not_eq_true', Bool.not_eq_false', Bool.not_eq_true, Bool.not_eq_false, Bool.true_eq_false, Bool.false_eq_true] at h
            refine awp_skip ?_
            refine awp_region rfl (.n (fun _ => op_add (.plain rfl) (.plain rfl) ?_) (.n (fun _ => op_move (.plain rfl)) (.nil _))) ?_
            · unfold InR; omega
            exact ⟨j + 1, ⟨by omega, firstE_succ hG (if_neg (by omega))⟩, by dsimp only; omega, (Ent.kept ⟨rfl, rfl, rfl, rfl, rfl, rfl, trivial⟩ trivial)⟩
        · try simp only [decide_eq_true_eq, decide_eq_false_iff_not, Bool.and_eq_true, Bool.or_eq_true, Bool.and_eq_false_iff, Bool.or_eq_false_iff, Bool.not_eq_true', Bool.not_eq_false', Bool.not_eq_true, Bool.not_eq_false, Bool.true_eq_false, Bool.false_eq_true] at h
          refine awp_exit ?_
          refine awp_region rfl (.n (fun _ => op_add (.plain rfl) (.plain rfl) ?_) (.n (fun _ => op_move (.plain rfl)) (.nil _))) ?_
          · unfold InR; omega
          exact ⟨i + 1, ⟨by omega, firstE_succ hF (valE_ok hj hG (by omega))⟩, by dsimp only; omega, (Ent.kept ⟨rfl, rfl, rfl, trivial⟩ trivial)⟩
      · try simp only [decide_eq_true_eq, decide_eq_false_iff_not, Bool.and_eq_true, Bool.or_eq_true, Bool.and_eq_false_iff, Bool.or_eq_false_iff, Bool.not_eq_true', Bool.not_eq_false', Bool.not_eq_true, Bool.not_eq_false, Bool.true_eq_false, Bool.false_eq_true] at h
        refine awp_exit ?_
        refine awp_seq ?_
        refine awp_region rfl (.n (fun _ => op_assign (.plain rfl)) (.nil _)) ?_
        refine awp_ret ?_
        refine retQ.ret ?_
        refine ret1 rfl rfl rfl ?_
        exact congrArg PV.i (mayE_ok h7 hk hE (by omega) hi hF (by omega))

theorem ShareMay_fc (v : List (List Int)) : FC Try.prog 8 [.rows v] (.i (mayE v)) := by
  refine FC.intro Try.func8 rfl (Nat.le_of_ble_eq_true rfl) fun hfit => ?_
  obtain ⟨fitl0, fitr0⟩ := (hfit _ (.head _)).rows
  have hvl := fitl0
  refine awp_seq ?_
  refine awp_region rfl (.n (fun _ => op_assign (.plain rfl)) (.nil _)) ?_
  refine awp_seq ?_
  refine awp_seq ?_
  refine awp_region rfl (.n (fun _ => op_move (.plain rfl)) (.n (fun _ => op_len (s := 0) Try.underlying22 (.plain rfl)) (.n (fun _ => op_lss (.plain rfl) (.plain rfl)) (.n (fun _ => op_move (.plain rfl)) (.gn rfl rfl (fun hg _ => op_move (.plain rfl)) (.gn rfl rfl (fun hg _ => op_len (s := 0) Try.underlying22 (.opt rfl fun h => h)) (.gn rfl rfl (fun hg _ => op_gtr (.opt rfl fun h => h) (.plain rfl)) (.n (fun _ => op_or (.plain rfl) (.plain rfl) (.plain rfl) (fun h => eqF h)) (.nil _))))))))) ?_
  refine awp_cond rfl (fun h => ?_) (fun h => ?_)
  · try simp only [decide_eq_true_eq, decide_eq_false_iff_not, Bool.and_eq_true, Bool.or_eq_true, Bool.and_eq_false_iff, Bool.or_eq_false_iff, Bool.not_eq_true', Bool.not_eq_false', Bool.not_eq_true, Bool.not_eq_false, Bool.true_eq_false, Bool.false_eq_true] at h
    refine awp_seq ?_
    refine awp_region rfl (.n (fun _ => op_assign (.plain rfl)) (.nil _)) ?_
    refine awp_ret ?_
    refine retQ.ret ?_
    refine ret1 rfl rfl rfl ?_
    exact congrArg PV.i (mayE_n h)
  · try simp only [decide_eq_true_eq, decide_eq_false_iff_not, Bool.and_eq_true, Bool.or_eq_true, Bool.and_eq_false_iff, Bool.or_eq_false_iff, Bool.not_eq_true', Bool.not_eq_false', Bool.not_eq_true, Bool.not_eq_false, Bool.true_eq_false, Bool.false_eq_true] at h
    have h7 : ¬ ((v.length : Int) < 1 ∨ 4 < (v.length : Int)) := by omega
    refine awp_skip ?_
    refine awp_seq ?_
    refine awp_seq ?_
    refine awp_region rfl (.n (fun _ => op_assign (.plain rfl)) (.nil _)) ?_
    refine awp_block ?_
    refine awp_loop (σ := Nat) (fun (k : Nat) => k ≤ v.length ∧ firstE (lenB v) k = 0) (fun (k : Nat) => ⟨[(0, .pv (.rows v)), (3, .int (k : Nat))], []⟩) (fun (k : Nat) => v.length - k) 0 ?_ (Ent.kept ⟨rfl, rfl, trivial⟩ trivial) ?_
    · exact ⟨Nat.zero_le _, rfl⟩
    rintro k hp
    try dsimp only at hp
    obtain ⟨hk, hE⟩ := hp
    refine awp_seq ?_
    refine awp_seq ?_
    refine awp_region rfl (.n (fun _ => op_move (.plain rfl)) (.n (fun _ => op_move (.plain rfl)) (.n (fun _ => op_len (s := 0) Try.underlying22 (.plain rfl)) (.n (fun _ => op_lss (.plain rfl) (.plain rfl)) (.nil _))))) ?_
    refine awp_cond rfl (fun h => ?_) (fun h => ?_)
    · try simp only [decide_eq_true_eq, decide_eq_false_iff_not, Bool.and_eq_true, Bool.or_eq_true, Bool.and_eq_false_iff, Bool.or_eq_false_iff, Bool.not_eq_true', Bool.not_eq_false', Bool.not_eq_true, Bool.not_eq_false, Bool.true_eq_false, Bool.false_eq_true] at h
      refine awp_skip ?_
      refine awp_seq ?_
      refine awp_block ?_
      refine awp_seq ?_
      refine awp_region_draw mixed rfl (.n (fun _ => op_move (.plain rfl)) (.n (fun _ => op_move (.plain rfl)) (.n (fun _ => op_indexAddrN Try.underlying22 Try.sizeOf24 (.plain rfl) (.plain rfl) (fun _ => rfl) ?_) (.n (fun _ => op_load Try.isAgg24 (.plain rfl)) (.n (fun _ => op_len (s := 0) Try.underlying24 (.plain rfl)) (.n (fun _ => op_gtr (.plain rfl) (.plain rfl)) (.n (fun _ => op_move (.plain rfl)) (.gn rfl rfl (fun hg _ => op_move (.plain rfl)) (.gn rfl rfl (fun hg _ => op_move (.plain rfl)) (.gn rfl rfl (fun hg _ => op_indexAddrN Try.underlying22 Try.sizeOf24 (.opt rfl fun h => h) (.opt rfl fun h => h) (fun _ => rfl) ?_) (.gn rfl rfl (fun hg _ => op_load Try.isAgg24 (.opt rfl fun h => h)) (.gn rfl rfl (fun hg _ => op_len (s := 0) Try.underlying24 (.opt rfl fun h => h)) (.gn rfl rfl (fun hg _ => op_move (.plain rfl)) (.gn rfl rfl (fun hg _ => op_indexAddr Try.underlying22 Try.sizeOf24 (.opt rfl fun h => h) (.plain rfl) (fun _ => rfl) ?_) (.gn rfl rfl (fun hg _ => op_load Try.isAgg24 (.opt rfl fun h => h)) (.gn rfl rfl (fun hg _ => op_len (s := 0) Try.underlying24 (.opt rfl fun h => h)) (.gn rfl rfl (fun hg _ => op_neq (.opt rfl fun h => h) (.opt rfl fun h => h)) (.n (fun _ => op_or (.plain rfl) (.plain rfl) (.plain rfl) (fun h => eqF h)) (.nil _))))))))))))))))))) ?d1 ?_
      · omega
      · try simp only [beq_iff_eq, beq_true, beq_false, Bool.and_eq_true, decide_eq_true_eq, decide_eq_false_iff_not, Bool.not_eq_true', Bool.or_eq_true, Bool.or_eq_false_iff] at hg
        omega
      · try simp only [beq_iff_eq, beq_true, beq_false, Bool.and_eq_true, decide_eq_true_eq, decide_eq_false_iff_not, Bool.not_eq_true', Bool.or_eq_true, Bool.or_eq_false_iff] at hg
        omega
      · kernel_rfl
      refine awp_cond rfl (fun h => ?_) (fun h => ?_)
      · try simp only [decide_eq_true_eq, decide_eq_false_iff_not, Bool.and_eq_true, Bool.or_eq_true, Bool.and_eq_false_iff, Bool.or_eq_false_iff, Bool.not_eq_true', Bool.not_eq_false', Bool.not_eq_true, Bool.not_eq_false, Bool.true_eq_false, Bool.false_eq_true] at h
        try simp only [Int.toNat_zero] at h
        refine awp_seq ?_
        refine awp_region rfl (.n (fun _ => op_assign (.plain rfl)) (.nil _)) ?_
        refine awp_ret ?_
        refine retQ.ret ?_
        refine ret1 rfl rfl rfl ?_
        exact congrArg PV.i (mayE_len h7 hE (by omega) (by omega))
      · try simp only [decide_eq_true_eq, decide_eq_false_iff_not, Bool.and_eq_true, Bool.or_eq_true, Bool.and_eq_false_iff, Bool.or_eq_false_iff, Bool.not_eq_true', Bool.not_eq_false', Bool.not_eq_true, Bool.not_eq_false, Bool.true_eq_false, Bool.false_eq_true] at h
        try simp only [Int.toNat_zero] at h
        refine awp_skip ?_
        refine awp_region rfl (.n (fun _ => op_move (.plain rfl)) (.n (fun _ => op_add (.plain rfl) (.plain rfl) ?_) (.n (fun _ => op_assign (.plain rfl)) (.nil _)))) ?_
        · unfold InR; omega
        exact ⟨k + 1, ⟨by omega, firstE_succ hE (if_neg (by omega))⟩, by dsimp only; omega, (Ent.kept ⟨rfl, rfl, trivial⟩ trivial)⟩
    · try simp only [decide_eq_true_eq, decide_eq_false_iff_not, Bool.and_eq_true, Bool.or_eq_true, Bool.and_eq_false_iff, Bool.or_eq_false_iff, Bool.not_eq_true', Bool.not_eq_false', Bool.not_eq_true, Bool.not_eq_false, Bool.true_eq_false, Bool.false_eq_true] at h
      refine awp_exit ?_
      refine awp_seq ?_
      refine awp_seq ?_
      refine awp_region rfl (.n (fun _ => op_assign (.plain rfl)) (.nil _)) ?_
      refine awp_block ?_
      refine awp_loop (σ := Nat) (fun (i : Nat) => i ≤ v.length ∧ firstE (fun i => valE (v.getD i [])) i = 0) (fun (i : Nat) => ⟨[(0, .pv (.rows v)), (4, .int (i : Nat))], []⟩) (fun (i : Nat) => v.length - i) 0 ?_ (Ent.kept ⟨rfl, rfl, trivial⟩ trivial) ?_
      · exact ⟨Nat.zero_le _, rfl⟩
      rintro i hp
      try dsimp only at hp
      obtain ⟨hi, hF⟩ := hp
      refine awp_seq ?_
      refine awp_seq ?_
      refine awp_region rfl (.n (fun _ => op_move (.plain rfl)) (.n (fun _ => op_move (.plain rfl)) (.n (fun _ => op_len (s := 0) Try.underlying22 (.plain rfl)) (.n (fun _ => op_lss (.plain rfl) (.plain rfl)) (.nil _))))) ?_
      refine awp_cond rfl (fun h => ?_) (fun h => ?_)
      · try simp only [decide_eq_true_eq, decide_eq_false_iff_not, Bool.and_eq_true, Bool.or_eq_true, Bool.and_eq_false_iff, Bool.or_eq_false_iff, Bool.not_eq_true', Bool.not_eq_false', Bool.not_eq_true, Bool.not_eq_false, Bool.true_eq_false, Bool.false_eq_true] at h
        refine awp_skip ?_
        refine awp_seq ?_
        refine awp_block ?_
        refine awp_seq ?_
        refine awp_region rfl (.n (fun _ => op_assign (.plain rfl)) (.nil _)) ?_
        refine awp_block ?_
        refine awp_loop (σ := Nat) (fun (j : Nat) => j ≤ (v.getD i []).length ∧ firstE (valB (v.getD i [])) j = 0) (fun (j : Nat) => ⟨[(0, .pv (.rows v)), (4, .int (i : Nat)), (5, .int (j : Nat))], []⟩) (fun (j : Nat) => (v.getD i []).length - j) 0 ?_ (Ent.kept ⟨rfl, rfl, rfl, trivial⟩ trivial) ?_
        · exact ⟨Nat.zero_le _, rfl⟩
        rintro j hp
        try dsimp only at hp
        obtain ⟨hj, hG⟩ := hp
        have hrl := (fitr0 _ (getD_mem [] (show i < v.length by omega))).1
        refine awp_seq ?_
        refine awp_seq ?_
        refine awp_region rfl (.n (fun _ => op_move (.plain rfl)) (.n (fun _ => op_move (.plain rfl)) (.n (fun _ => op_move (.plain rfl)) (.n (fun _ => op_indexAddrN Try.underlying22 Try.sizeOf24 (.plain rfl) (.plain rfl) (fun _ => rfl) ?_) (.n (fun _ => op_load Try.isAgg24 (.plain rfl)) (.n (fun _ => op_len (s := 0) Try.underlying24 (.plain rfl)) (.n (fun _ => op_lss (.plain rfl) (.plain rfl)) (.nil _)))))))) ?_
        · omega
        refine awp_cond rfl (fun h => ?_) (fun h => ?_)
        · try simp only [decide_eq_true_eq, decide_eq_false_iff_not, Bool.and_eq_true, Bool.or_eq_true, Bool.and_eq_false_iff, Bool.or_eq_false_iff, Bool.not_eq_true', Bool.not_eq_false', Bool.not_eq_true, Bool.not_eq_false, Bool.true_eq_false, Bool.false_eq_true] at h
          refine awp_skip ?_
          refine awp_seq ?_
          refine awp_block ?_
          refine awp_seq ?_
          refine awp_region rfl (.n (fun _ => op_move (.plain rfl)) (.n (fun _ => op_move (.plain rfl)) (.n (fun _ => op_indexAddrN Try.underlying22 Try.sizeOf24 (.plain rfl) (.plain rfl) (fun _ => rfl) ?_) (.n (fun _ => op_load Try.isAgg24 (.plain rfl)) (.n (fun _ => op_move (.plain rfl)) (.n (fun _ => op_indexAddrN Try.underlying24 Try.sizeOf3 (.plain rfl) (.plain rfl) (fun _ => rfl) ?_) (.n (fun _ => op_load Try.isAgg3 (.plain rfl)) (.n (fun _ => op_lss (.plain rfl) (.plain rfl)) (.n (fun _ => op_move (.plain rfl)) (.gn rfl rfl (fun hg _ => op_move (.plain rfl)) (.gn rfl rfl (fun hg _ => op_move (.plain rfl)) (.gn rfl rfl (fun hg _ => op_indexAddrN Try.underlying22 Try.sizeOf24 (.opt rfl fun h => h) (.opt rfl fun h => h) (fun _ => rfl) ?_) (.gn rfl rfl (fun hg _ => op_load Try.isAgg24 (.opt rfl fun h => h)) (.gn rfl rfl (fun hg _ => op_move (.plain rfl)) (.gn rfl rfl (fun hg _ => op_indexAddrN Try.underlying24 Try.sizeOf3 (.opt rfl fun h => h) (.opt rfl fun h => h) (fun _ => rfl) ?_) (.gn rfl rfl (fun hg _ => op_load Try.isAgg3 (.opt rfl fun h => h)) (.gn rfl rfl (fun hg _ => op_gtr (.opt rfl fun h => h) (.plain rfl)) (.n (fun _ => op_or (.plain rfl) (.plain rfl) (.plain rfl) (fun h => eqF h)) (.nil _))))))))))))))))))) ?_
          · omega
          · omega
          · try simp only [beq_iff_eq, beq_true, beq_false, Bool.and_eq_true, decide_eq_true_eq, decide_eq_false_iff_not, Bool.not_eq_true', Bool.or_eq_true, Bool.or_eq_false_iff] at hg
            omega
          · try simp only [beq_iff_eq, beq_true, beq_false, Bool.and_eq_true, decide_eq_true_eq, decide_eq_false_iff_not, Bool.not_eq_true', Bool.or_eq_true, Bool.or_eq_false_iff] at hg
            omega
          refine awp_cond rfl (fun h => ?_) (fun h => ?_)
          · try simp only [decide_eq_true_eq, decide_eq_false_iff_not, Bool.and_eq_true, Bool.or_eq_true, Bool.and_eq_false_iff, Bool.or_eq_false_iff, Bool.not_eq_true', Bool.not_eq_false', Bool.not_eq_true, Bool.not_eq_false, Bool.true_eq_false, Bool.false_eq_true] at h
            refine awp_seq ?_
            refine awp_region rfl (.n (fun _ => op_assign (.plain rfl)) (.nil _)) ?_
            refine awp_ret ?_
            refine retQ.ret ?_
            refine ret1 rfl rfl rfl ?_
            exact congrArg PV.i (mayE_val h7 hk hE (by omega) hF (by omega) hG (by omega) (by omega))
          · try simp only [decide_eq_true_eq, decide_eq_false_iff_not, Bool.and_eq_true, Bool.or_eq_true, Bool.and_eq_false_iff, Bool.or_eq_false_iff, Bool.not_eq_true', Bool.not_eq_false', Bool.not_eq_true, Bool.not_eq_false, Bool.true_eq_false, Bool.false_eq_true] at h
            refine awp_skip ?_
            refine awp_region rfl (.n (fun _ => op_move (.plain rfl)) (.n (fun _ => op_add (.plain rfl) (.plain rfl) ?_) (.n (fun _ => op_assign (.plain rfl)) (.nil _)))) ?_
            · unfold InR; omega
            exact ⟨j + 1, ⟨by omega, firstE_succ hG (if_neg (by omega))⟩, by dsimp only; omega, (Ent.kept ⟨rfl, rfl, rfl, trivial⟩ trivial)⟩
        · try simp only [decide_eq_true_eq, decide_eq_false_iff_not, Bool.and_eq_true, Bool.or_eq_true, Bool.and_eq_false_iff, Bool.or_eq_false_iff, Bool.not_eq_true', Bool.not_eq_false', Bool.not_eq_true, Bool.not_eq_false, Bool.true_eq_false, Bool.false_eq_true] at h
          refine awp_exit ?_
          refine awp_region rfl (.n (fun _ => op_move (.plain rfl)) (.n (fun _ => op_add (.plain rfl) (.plain rfl) ?_) (.n (fun _ => op_assign (.plain rfl)) (.nil _)))) ?_
          · unfold InR; omega
          exact ⟨i + 1, ⟨by omega, firstE_succ hF (valE_ok hj hG (by omega))⟩, by dsimp only; omega, (Ent.kept ⟨rfl, rfl, trivial⟩ trivial)⟩
      · try simp only [decide_eq_true_eq, decide_eq_false_iff_not, Bool.and_eq_true, Bool.or_eq_true, Bool.and_eq_false_iff, Bool.or_eq_false_iff, Bool.not_eq_true', Bool.not_eq_false', Bool.not_eq_true, Bool.not_eq_false, Bool.true_eq_false, Bool.false_eq_true] at h
        refine awp_exit ?_
        refine awp_seq ?_
        refine awp_region rfl (.n (fun _ => op_assign (.plain rfl)) (.nil _)) ?_
        refine awp_ret ?_
        refine retQ.ret ?_
        refine ret1 rfl rfl rfl ?_
        exact congrArg PV.i (mayE_ok h7 hk hE (by omega) hi hF (by omega))

theorem has_fc (v : List (List Int)) (give : List Int) (who other : Int) (hV : Val v) (hg : give.length = mL v) (hw : 0 ≤ who ∧ who < (v.length : Int)) : FC Try.prog 29 [.rows v, .ints give, .i who, .i other] (.i (hasF v give who other)) := by
  refine FC.intro Try.func29 rfl (Nat.le_of_ble_eq_true rfl) fun hfit => ?_
  obtain ⟨fitl0, fitr0⟩ := (hfit _ (.head _)).rows
  obtain ⟨fitl1, fitr1⟩ := (hfit _ (.tail _ (.head _))).ints
  have fit2 : -9223372036854775808 ≤ (who : Int) ∧ (who : Int) ≤ 9223372036854775807 := (hfit _ (.tail _ (.tail _ (.head _)))).int64
  have fit3 : -9223372036854775808 ≤ (other : Int) ∧ (other : Int) ≤ 9223372036854775807 := (hfit _ (.tail _ (.tail _ (.tail _ (.head _))))).int64
  have hn1 := hV.n1
  have hn4 := hV.n4
  have hm8 := hV.m8
  refine awp_seq ?_
  refine awp_region rfl (.n (fun _ => op_assign (.plain rfl)) (.nil _)) ?_
  refine awp_seq ?_
  refine awp_region rfl (.n (fun _ => op_assign (.plain rfl)) (.nil _)) ?_
  refine awp_seq ?_
  refine awp_seq ?_
  refine awp_region rfl (.n (fun _ => op_move (.plain rfl)) (.n (fun _ => op_len (s := 0) Try.underlying24 (.plain rfl)) (.n (fun _ => op_move (.plain rfl)) (.nil _)))) ?_
  refine awp_block ?_
  refine awp_loop (σ := Nat) (fun (g : Nat) => g ≤ give.length) (fun (g : Nat) => ⟨[(0, .pv (.rows v)), (2, .int who), (3, .int other), (9, .int (sumTo (hasB v give who other) g)), (12, .pv (.ints give)), (13, .int (give.length : Nat)), (14, .int (g : Nat))], []⟩) (fun (g : Nat) => give.length - g) 0 ?_ (Ent.kept ⟨rfl, rfl, rfl, rfl, rfl, rfl, rfl, trivial⟩ trivial) ?_
  · exact Nat.zero_le _
  rintro g hp
  try dsimp only at hp
  have hbd := hasTo_bd hV hg (other := other) hw (k := g) (by omega)
  have hrow := hV.row who.toNat (by omega)
  refine awp_seq ?_
  refine awp_region rfl (.n (fun _ => op_lss (.plain rfl) (.plain rfl)) (.nil _)) ?_
  refine awp_seq ?_
  refine awp_cond rfl (fun h => ?_) (fun h => ?_)
  · try simp only [decide_eq_true_eq, decide_eq_false_iff_not, Bool.and_eq_true, Bool.or_eq_true, Bool.and_eq_false_iff, Bool.or_eq_false_iff, Bool.not_eq_true', Bool.not_eq_false', Bool.not_eq_true, Bool.not_eq_false, Bool.true_eq_false, Bool.false_eq_true] at h
    refine awp_skip ?_
    refine awp_seq ?_
    refine awp_block ?_
    refine awp_seq ?_
    refine awp_region rfl (.n (fun _ => op_move (.plain rfl)) (.n (fun _ => op_indexAddrN Try.underlying24 Try.sizeOf3 (.plain rfl) (.plain rfl) (fun _ => rfl) ?_) (.n (fun _ => op_load Try.isAgg3 (.plain rfl)) (.n (fun _ => op_assign (.plain rfl)) (.n (fun _ => op_assign (.plain rfl)) (.nil _)))))) ?_
    · omega
    refine awp_seq ?_
    refine awp_region rfl (.n (fun _ => op_move (.plain rfl)) (.n (fun _ => op_move (.plain rfl)) (.n (fun _ => op_eql (.plain rfl) (.plain rfl)) (.nil _)))) ?_
    refine awp_cond rfl (fun h => ?_) (fun h => ?_)
    · try simp only [decide_eq_true_eq, decide_eq_false_iff_not, Bool.and_eq_true, Bool.or_eq_true, Bool.and_eq_false_iff, Bool.or_eq_false_iff, Bool.not_eq_true', Bool.not_eq_false', Bool.not_eq_true, Bool.not_eq_false, Bool.true_eq_false, Bool.false_eq_true] at h
      refine awp_region rfl (.n (fun _ => op_move (.plain rfl)) (.n (fun _ => op_move (.plain rfl)) (.n (fun _ => op_move (.plain rfl)) (.n (fun _ => op_indexAddr Try.underlying22 Try.sizeOf24 (.plain rfl) (.plain rfl) (fun _ => rfl) ?_) (.n (fun _ => op_load Try.isAgg24 (.plain rfl)) (.n (fun _ => op_move (.plain rfl)) (.n (fun _ => op_indexAddrN Try.underlying24 Try.sizeOf3 (.plain rfl) (.plain rfl) (fun _ => rfl) ?_) (.n (fun _ => op_load Try.isAgg3 (.plain rfl)) (.n (fun _ => op_add (.plain rfl) (.plain rfl) ?_) (.n (fun _ => op_assign (.plain rfl)) (.nil _))))))))))) ?_
      · omega
      · omega
      · have hval := hV.val who.toNat (by omega) g (by omega); unfold InR; omega
      refine awp_region rfl (.n (fun _ => op_add (.plain rfl) (.plain rfl) ?_) (.n (fun _ => op_move (.plain rfl)) (.nil _))) ?_
      · unfold InR; omega
      exact ⟨g + 1, by omega, by dsimp only; omega, (Ent.kept ⟨rfl, rfl, rfl, (by first | (exact congrArg (fun n => some (SV.int n)) (has_in h)) | (exact congrArg (fun n => some (SV.int n)) (has_out h))), rfl, rfl, rfl, trivial⟩ trivial)⟩
    · try simp only [decide_eq_true_eq, decide_eq_false_iff_not, Bool.and_eq_true, Bool.or_eq_true, Bool.and_eq_false_iff, Bool.or_eq_false_iff, Bool.not_eq_true', Bool.not_eq_false', Bool.not_eq_true, Bool.not_eq_false, Bool.true_eq_false, Bool.false_eq_true] at h
      refine awp_skip ?_
      refine awp_region rfl (.n (fun _ => op_add (.plain rfl) (.plain rfl) ?_) (.n (fun _ => op_move (.plain rfl)) (.nil _))) ?_
      · unfold InR; omega
      exact ⟨g + 1, by omega, by dsimp only; omega, (Ent.kept ⟨rfl, rfl, rfl, (by first | (exact congrArg (fun n => some (SV.int n)) (has_in h)) | (exact congrArg (fun n => some (SV.int n)) (has_out h))), rfl, rfl, rfl, trivial⟩ trivial)⟩
  · try simp only [decide_eq_true_eq, decide_eq_false_iff_not, Bool.and_eq_true, Bool.or_eq_true, Bool.and_eq_false_iff, Bool.or_eq_false_iff, Bool.not_eq_true', Bool.not_eq_false', Bool.not_eq_true, Bool.not_eq_false, Bool.true_eq_false, Bool.false_eq_true] at h
    refine awp_exit ?_
    refine awp_seq ?_
    refine awp_region rfl (.n (fun _ => op_move (.plain rfl)) (.n (fun _ => op_assign (.plain rfl)) (.nil _))) ?_
    refine awp_ret ?_
    refine retQ.ret ?_
    refine ret1 rfl rfl rfl ?_
    obtain rfl : g = give.length := by omega
    rfl

theorem Has_fc (v : List (List Int)) (give : List Int) (who other : Int) (hV : Val v) (hg : give.length = mL v) (hw : 0 ≤ who ∧ who < (v.length : Int)) : FC Try.prog 23 [.rows v, .ints give, .i who, .i other] (.i (hasF v give who other)) := by
  refine FC.intro Try.func23 rfl (Nat.le_of_ble_eq_true rfl) fun hfit => ?_
  obtain ⟨fitl0, fitr0⟩ := (hfit _ (.head _)).rows
  obtain ⟨fitl1, fitr1⟩ := (hfit _ (.tail _ (.head _))).ints
  have fit2 : -9223372036854775808 ≤ (who : Int) ∧ (who : Int) ≤ 9223372036854775807 := (hfit _ (.tail _ (.tail _ (.head _)))).int64
  have fit3 : -9223372036854775808 ≤ (other : Int) ∧ (other : Int) ≤ 9223372036854775807 := (hfit _ (.tail _ (.tail _ (.tail _ (.head _))))).int64
  have hn1 := hV.n1
  have hn4 := hV.n4
  have hm8 := hV.m8
  refine awp_seq ?_
  refine awp_region rfl (.n (fun _ => op_assign (.plain rfl)) (.nil _)) ?_
  refine awp_seq ?_
  refine awp_region rfl (.n (fun _ => op_assign (.plain rfl)) (.nil _)) ?_
  refine awp_seq ?_
  refine awp_seq ?_
  refine awp_region rfl (.n (fun _ => op_assign (.plain rfl)) (.nil _)) ?_
  refine awp_block ?_
  refine awp_loop (σ := Nat) (fun (g : Nat) => g ≤ give.length) (fun (g : Nat) => ⟨[(0, .pv (.rows v)), (2, .int who), (3, .int other), (9, .int (sumTo (hasB v give who other) g)), (1, .pv (.ints give)), (10, .int (g : Nat))], []⟩) (fun (g : Nat) => give.length - g) 0 ?_ (Ent.kept ⟨rfl, rfl, rfl, rfl, rfl, rfl, trivial⟩ trivial) ?_
  · exact Nat.zero_le _
  rintro g hp
  try dsimp only at hp
  have hbd := hasTo_bd hV hg (other := other) hw (k := g) (by omega)
  have hrow := hV.row who.toNat (by omega)
  refine awp_seq ?_
  refine awp_seq ?_
  refine awp_region rfl (.n (fun _ => op_move (.plain rfl)) (.n (fun _ => op_move (.plain rfl)) (.n (fun _ => op_len (s := 0) Try.underlying24 (.plain rfl)) (.n (fun _ => op_lss (.plain rfl) (.plain rfl)) (.nil _))))) ?_
  refine awp_cond rfl (fun h => ?_) (fun h => ?_)
  · try simp only [decide_eq_true_eq, decide_eq_false_iff_not, Bool.and_eq_true, Bool.or_eq_true, Bool.and_eq_false_iff, Bool.or_eq_false_iff, Bool.not_eq_true', Bool.not_eq_false', Bool.not_eq_true, Bool.not_eq_false, Bool.true_eq_false, Bool.false_eq_true] at h
    refine awp_skip ?_
    refine awp_seq ?_
    refine awp_block ?_
    refine awp_seq ?_
    refine awp_region rfl (.n (fun _ => op_move (.plain rfl)) (.n (fun _ => op_move (.plain rfl)) (.n (fun _ => op_indexAddrN Try.underlying24 Try.sizeOf3 (.plain rfl) (.plain rfl) (fun _ => rfl) ?_) (.n (fun _ => op_load Try.isAgg3 (.plain rfl)) (.n (fun _ => op_move (.plain rfl)) (.n (fun _ => op_eql (.plain rfl) (.plain rfl)) (.nil _))))))) ?_
    · omega
    refine awp_cond rfl (fun h => ?_) (fun h => ?_)
    · try simp only [decide_eq_true_eq, decide_eq_false_iff_not, Bool.and_eq_true, Bool.or_eq_true, Bool.and_eq_false_iff, Bool.or_eq_false_iff, Bool.not_eq_true', Bool.not_eq_false', Bool.not_eq_true, Bool.not_eq_false, Bool.true_eq_false, Bool.false_eq_true] at h
      refine awp_region rfl (.n (fun _ => op_move (.plain rfl)) (.n (fun _ => op_move (.plain rfl)) (.n (fun _ => op_move (.plain rfl)) (.n (fun _ => op_indexAddr Try.underlying22 Try.sizeOf24 (.plain rfl) (.plain rfl) (fun _ => rfl) ?_) (.n (fun _ => op_load Try.isAgg24 (.plain rfl)) (.n (fun _ => op_move (.plain rfl)) (.n (fun _ => op_indexAddrN Try.underlying24 Try.sizeOf3 (.plain rfl) (.plain rfl) (fun _ => rfl) ?_) (.n (fun _ => op_load Try.isAgg3 (.plain rfl)) (.n (fun _ => op_add (.plain rfl) (.plain rfl) ?_) (.n (fun _ => op_assign (.plain rfl)) (.nil _))))))))))) ?_
      · omega
      · omega
      · have hval := hV.val who.toNat (by omega) g (by omega); unfold InR; omega
      refine awp_region rfl (.n (fun _ => op_move (.plain rfl)) (.n (fun _ => op_add (.plain rfl) (.plain rfl) ?_) (.n (fun _ => op_assign (.plain rfl)) (.nil _)))) ?_
      · unfold InR; omega
      exact ⟨g + 1, by omega, by dsimp only; omega, (Ent.kept ⟨rfl, rfl, rfl, (by first | (exact congrArg (fun n => some (SV.int n)) (has_in h)) | (exact congrArg (fun n => some (SV.int n)) (has_out h))), rfl, rfl, trivial⟩ trivial)⟩
    · try simp only [decide_eq_true_eq, decide_eq_false_iff_not, Bool.and_eq_true, Bool.or_eq_true, Bool.and_eq_false_iff, Bool.or_eq_false_iff, Bool.not_eq_true', Bool.not_eq_false', Bool.not_eq_true, Bool.not_eq_false, Bool.true_eq_false, Bool.false_eq_true] at h
      refine awp_skip ?_
      refine awp_region rfl (.n (fun _ => op_move (.plain rfl)) (.n (fun _ => op_add (.plain rfl) (.plain rfl) ?_) (.n (fun _ => op_assign (.plain rfl)) (.nil _)))) ?_
      · unfold InR; omega
      exact ⟨g + 1, by omega, by dsimp only; omega, (Ent.kept ⟨rfl, rfl, rfl, (by first | (exact congrArg (fun n => some (SV.int n)) (has_in h)) | (exact congrArg (fun n => some (SV.int n)) (has_out h))), rfl, rfl, trivial⟩ trivial)⟩
  · try simp only [decide_eq_true_eq, decide_eq_false_iff_not, Bool.and_eq_true, Bool.or_eq_true, Bool.and_eq_false_iff, Bool.or_eq_false_iff, Bool.not_eq_true', Bool.not_eq_false', Bool.not_eq_true, Bool.not_eq_false, Bool.true_eq_false, Bool.false_eq_true] at h
    refine awp_exit ?_
    refine awp_seq ?_
    refine awp_region rfl (.n (fun _ => op_move (.plain rfl)) (.n (fun _ => op_assign (.plain rfl)) (.nil _))) ?_
    refine awp_ret ?_
    refine retQ.ret ?_
    refine ret1 rfl rfl rfl ?_
    obtain rfl : g = give.length := by omega
    rfl

theorem envies_fc (v : List (List Int)) (give : List Int) (who other : Int) (hV : Val v) (hg : give.length = mL v) (hw : 0 ≤ who ∧ who < (v.length : Int)) : FC Try.prog 35 [.rows v, .ints give, .i who, .i other] (.bool (envB v give who other)) := by
  refine FC.intro Try.func35 rfl (Nat.le_of_ble_eq_true rfl) fun hfit => ?_
  obtain ⟨fitl0, fitr0⟩ := (hfit _ (.head _)).rows
  obtain ⟨fitl1, fitr1⟩ := (hfit _ (.tail _ (.head _))).ints
  have fit2 : -9223372036854775808 ≤ (who : Int) ∧ (who : Int) ≤ 9223372036854775807 := (hfit _ (.tail _ (.tail _ (.head _)))).int64
  have fit3 : -9223372036854775808 ≤ (other : Int) ∧ (other : Int) ≤ 9223372036854775807 := (hfit _ (.tail _ (.tail _ (.tail _ (.head _))))).int64
  refine awp_seq ?_
  refine awp_region rfl (.n (fun _ => op_assign (.plain rfl)) (.nil _)) ?_
  refine awp_seq ?_
  refine awp_region rfl (.n (fun _ => op_move (.plain rfl)) (.n (fun _ => op_move (.plain rfl)) (.n (fun _ => op_move (.plain rfl)) (.n (fun _ => op_move (.plain rfl)) (.n (fun _ => op_call4 Try.call29 (.plain rfl) (.plain rfl) (.plain rfl) (.plain rfl) (has_fc _ _ _ _ ?_ ?_ ?_)) (.n (fun _ => op_move (.plain rfl)) (.n (fun _ => op_move (.plain rfl)) (.n (fun _ => op_move (.plain rfl)) (.n (fun _ => op_move (.plain rfl)) (.n (fun _ => op_call4 Try.call29 (.plain rfl) (.plain rfl) (.plain rfl) (.plain rfl) (has_fc _ _ _ _ ?_ ?_ ?_)) (.n (fun _ => op_gtr (.plain rfl) (.plain rfl)) (.n (fun _ => op_assign (.plain rfl)) (.nil _))))))))))))) ?_
  · assumption
  · assumption
  · omega
  · assumption
  · assumption
  · omega
  refine awp_ret ?_
  refine retQ.ret ?_
  refine ret1 rfl rfl rfl ?_
  rfl

theorem envier_fc (v : List (List Int)) (give : List Int) (one : Int) (hV : Val v) (hg : give.length = mL v) : FC Try.prog 37 [.rows v, .ints give, .i one] (.i (envierF v give one)) := by
  refine FC.intro Try.func37 rfl (Nat.le_of_ble_eq_true rfl) fun hfit => ?_
  obtain ⟨fitl0, fitr0⟩ := (hfit _ (.head _)).rows
  obtain ⟨fitl1, fitr1⟩ := (hfit _ (.tail _ (.head _))).ints
  have fit2 : -9223372036854775808 ≤ (one : Int) ∧ (one : Int) ≤ 9223372036854775807 := (hfit _ (.tail _ (.tail _ (.head _)))).int64
  have hn1 := hV.n1
  have hn4 := hV.n4
  have hm8 := hV.m8
  refine awp_seq ?_
  refine awp_region rfl (.n (fun _ => op_assign (.plain rfl)) (.nil _)) ?_
  refine awp_seq ?_
  refine awp_seq ?_
  refine awp_region rfl (.n (fun _ => op_move (.plain rfl)) (.n (fun _ => op_len (s := 0) Try.underlying22 (.plain rfl)) (.n (fun _ => op_move (.plain rfl)) (.nil _)))) ?_
  refine awp_block ?_
  refine awp_loop (σ := Nat) (fun (k : Nat) => k ≤ v.length ∧ firstI (fun k => envB v give (k : Nat) one) k = none) (fun (k : Nat) => ⟨[(0, .pv (.rows v)), (1, .pv (.ints give)), (2, .int one), (9, .int (v.length : Nat)), (10, .int (k : Nat))], []⟩) (fun (k : Nat) => v.length - k) 0 ?_ (Ent.kept ⟨rfl, rfl, rfl, rfl, rfl, trivial⟩ trivial) ?_
  · exact ⟨Nat.zero_le _, rfl⟩
  rintro k hp
  try dsimp only at hp
  obtain ⟨hk, hE⟩ := hp
  refine awp_seq ?_
  refine awp_region rfl (.n (fun _ => op_lss (.plain rfl) (.plain rfl)) (.nil _)) ?_
  refine awp_seq ?_
  refine awp_cond rfl (fun h => ?_) (fun h => ?_)
  · try simp only [decide_eq_true_eq, decide_eq_false_iff_not, Bool.and_eq_true, Bool.or_eq_true, Bool.and_eq_false_iff, Bool.or_eq_false_iff, Bool.not_eq_true', Bool.not_eq_false', Bool.not_eq_true, Bool.not_eq_false, Bool.true_eq_false, Bool.false_eq_true] at h
    refine awp_skip ?_
    refine awp_seq ?_
    refine awp_block ?_
    refine awp_seq ?_
    refine awp_region rfl (.n (fun _ => op_move (.plain rfl)) (.n (fun _ => op_assign (.plain rfl)) (.nil _))) ?_
    refine awp_seq ?_
    refine awp_region rfl (.n (fun _ => op_move (.plain rfl)) (.n (fun _ => op_move (.plain rfl)) (.n (fun _ => op_move (.plain rfl)) (.n (fun _ => op_move (.plain rfl)) (.n (fun _ => op_call4 Try.call35 (.plain rfl) (.plain rfl) (.plain rfl) (.plain rfl) (envies_fc _ _ _ _ ?_ ?_ ?_)) (.nil _)))))) ?_
    · assumption
    · assumption
    · omega
    refine awp_cond rfl (fun h => ?_) (fun h => ?_)
    · try simp only [decide_eq_true_eq, decide_eq_false_iff_not, Bool.and_eq_true, Bool.or_eq_true, Bool.and_eq_false_iff, Bool.or_eq_false_iff, Bool.not_eq_true', Bool.not_eq_false', Bool.not_eq_true, Bool.not_eq_false, Bool.true_eq_false, Bool.false_eq_true] at h
      refine awp_seq ?_
      refine awp_region rfl (.n (fun _ => op_move (.plain rfl)) (.n (fun _ => op_assign (.plain rfl)) (.nil _))) ?_
      refine awp_ret ?_
      refine retQ.ret ?_
      refine ret1 rfl rfl rfl ?_
      unfold envierF
      rw [firstI_stop hE h (by omega)]
    · try simp only [decide_eq_true_eq, decide_eq_false_iff_not, Bool.and_eq_true, Bool.or_eq_true, Bool.and_eq_false_iff, Bool.or_eq_false_iff, Bool.not_eq_true', Bool.not_eq_false', Bool.not_eq_true, Bool.not_eq_false, Bool.true_eq_false, Bool.false_eq_true] at h
      refine awp_skip ?_
      refine awp_region rfl (.n (fun _ => op_add (.plain rfl) (.plain rfl) ?_) (.n (fun _ => op_move (.plain rfl)) (.nil _))) ?_
      · unfold InR; omega
      exact ⟨k + 1, ⟨by omega, firstI_succ hE h⟩, by dsimp only; omega, (Ent.kept ⟨rfl, rfl, rfl, rfl, rfl, trivial⟩ trivial)⟩
  · try simp only [decide_eq_true_eq, decide_eq_false_iff_not, Bool.and_eq_true, Bool.or_eq_true, Bool.and_eq_false_iff, Bool.or_eq_false_iff, Bool.not_eq_true', Bool.not_eq_false', Bool.not_eq_true, Bool.not_eq_false, Bool.true_eq_false, Bool.false_eq_true] at h
    refine awp_exit ?_
    refine awp_seq ?_
    refine awp_region rfl (.n (fun _ => op_move (.plain rfl)) (.n (fun _ => op_assign (.plain rfl)) (.nil _))) ?_
    refine awp_ret ?_
    refine retQ.ret ?_
    refine ret1 rfl rfl rfl ?_
    obtain rfl : k = v.length := by omega
    unfold envierF
    rw [hE]

theorem alone_fc (v : List (List Int)) (give : List Int) (hV : Val v) (hg : give.length = mL v) : FC Try.prog 25 [.rows v, .ints give] (.i (aloneF v give)) := by
  refine FC.intro Try.func25 rfl (Nat.le_of_ble_eq_true rfl) fun hfit => ?_
  obtain ⟨fitl0, fitr0⟩ := (hfit _ (.head _)).rows
  obtain ⟨fitl1, fitr1⟩ := (hfit _ (.tail _ (.head _))).ints
  have hn1 := hV.n1
  have hn4 := hV.n4
  have hm8 := hV.m8
  refine awp_seq ?_
  refine awp_region rfl (.n (fun _ => op_assign (.plain rfl)) (.nil _)) ?_
  refine awp_seq ?_
  refine awp_seq ?_
  refine awp_region rfl (.n (fun _ => op_move (.plain rfl)) (.n (fun _ => op_len (s := 0) Try.underlying22 (.plain rfl)) (.n (fun _ => op_move (.plain rfl)) (.nil _)))) ?_
  refine awp_block ?_
  refine awp_loop (σ := Nat) (fun (i : Nat) => i ≤ v.length ∧ firstI (fun i => !envied v give i) i = none) (fun (i : Nat) => ⟨[(0, .pv (.rows v)), (1, .pv (.ints give)), (9, .int (v.length : Nat)), (10, .int (i : Nat))], []⟩) (fun (i : Nat) => v.length - i) 0 ?_ (Ent.kept ⟨rfl, rfl, rfl, rfl, trivial⟩ trivial) ?_
  · exact ⟨Nat.zero_le _, rfl⟩
  rintro i hp
  try dsimp only at hp
  obtain ⟨hi, hE⟩ := hp
  refine awp_seq ?_
  refine awp_region rfl (.n (fun _ => op_lss (.plain rfl) (.plain rfl)) (.nil _)) ?_
  refine awp_seq ?_
  refine awp_cond rfl (fun h => ?_) (fun h => ?_)
  · try simp only [decide_eq_true_eq, decide_eq_false_iff_not, Bool.and_eq_true, Bool.or_eq_true, Bool.and_eq_false_iff, Bool.or_eq_false_iff, Bool.not_eq_true', Bool.not_eq_false', Bool.not_eq_true, Bool.not_eq_false, Bool.true_eq_false, Bool.false_eq_true] at h
    refine awp_skip ?_
    refine awp_seq ?_
    refine awp_block ?_
    refine awp_seq ?_
    refine awp_region rfl (.n (fun _ => op_move (.plain rfl)) (.n (fun _ => op_assign (.plain rfl)) (.nil _))) ?_
    refine awp_seq ?_
    refine awp_region rfl (.n (fun _ => op_assign (.plain rfl)) (.nil _)) ?_
    refine awp_seq ?_
    refine awp_seq ?_
    refine awp_region rfl (.n (fun _ => op_move (.plain rfl)) (.n (fun _ => op_len (s := 0) Try.underlying22 (.plain rfl)) (.n (fun _ => op_move (.plain rfl)) (.nil _)))) ?_
    refine awp_block ?_
    refine awp_loop (σ := Nat) (fun (k : Nat) => k ≤ v.length) (fun (k : Nat) => ⟨[(0, .pv (.rows v)), (1, .pv (.ints give)), (9, .int (v.length : Nat)), (10, .int (i : Nat)), (5, .int (i : Nat)), (6, .bool (anyTo (fun k => envB v give (k : Nat) (i : Nat)) k)), (14, .int (v.length : Nat)), (15, .int (k : Nat))], []⟩) (fun (k : Nat) => v.length - k) 0 ?_ (Ent.kept ⟨rfl, rfl, rfl, rfl, rfl, rfl, rfl, rfl, trivial⟩ trivial) ?_
    · exact Nat.zero_le _
    rintro k hp
    try dsimp only at hp
    have hk := hp
    refine awp_seq ?_
    refine awp_region rfl (.n (fun _ => op_lss (.plain rfl) (.plain rfl)) (.nil _)) ?_
    refine awp_seq ?_
    refine awp_cond rfl (fun h => ?_) (fun h => ?_)
    · try simp only [decide_eq_true_eq, decide_eq_false_iff_not, Bool.and_eq_true, Bool.or_eq_true, Bool.and_eq_false_iff, Bool.or_eq_false_iff, Bool.not_eq_true', Bool.not_eq_false', Bool.not_eq_true, Bool.not_eq_false, Bool.true_eq_false, Bool.false_eq_true] at h
      refine awp_skip ?_
      refine awp_seq ?_
      refine awp_block ?_
      refine awp_seq ?_
      refine awp_region rfl (.n (fun _ => op_move (.plain rfl)) (.n (fun _ => op_assign (.plain rfl)) (.nil _))) ?_
      refine awp_region rfl (.n (fun _ => op_move (.plain rfl)) (.n (fun _ => op_move (.plain rfl)) (.gn rfl rfl (fun hg _ => op_move (.plain rfl)) (.gn rfl rfl (fun hg _ => op_move (.plain rfl)) (.gn rfl rfl (fun hg _ => op_move (.plain rfl)) (.gn rfl rfl (fun hg _ => op_move (.plain rfl)) (.gn rfl rfl (fun hg _ => op_call4 Try.call35 (.opt rfl fun h => h) (.opt rfl fun h => h) (.opt rfl fun h => h) (.opt rfl fun h => h) (envies_fc _ _ _ _ ?_ ?_ ?_)) (.n (fun _ => op_or (.plain rfl) (.plain rfl) (.plain rfl) (fun h => eqF h)) (.n (fun _ => op_assign (.plain rfl)) (.nil _)))))))))) ?_
      · try simp only [beq_iff_eq, beq_true, beq_false, Bool.and_eq_true, decide_eq_true_eq, decide_eq_false_iff_not, Bool.not_eq_true', Bool.or_eq_true, Bool.or_eq_false_iff] at hg
        assumption
      · try simp only [beq_iff_eq, beq_true, beq_false, Bool.and_eq_true, decide_eq_true_eq, decide_eq_false_iff_not, Bool.not_eq_true', Bool.or_eq_true, Bool.or_eq_false_iff] at hg
        assumption
      · try simp only [beq_iff_eq, beq_true, beq_false, Bool.and_eq_true, decide_eq_true_eq, decide_eq_false_iff_not, Bool.not_eq_true', Bool.or_eq_true, Bool.or_eq_false_iff] at hg
        omega
      refine awp_region rfl (.n (fun _ => op_add (.plain rfl) (.plain rfl) ?_) (.n (fun _ => op_move (.plain rfl)) (.nil _))) ?_
      · unfold InR; omega
      exact ⟨k + 1, by omega, by dsimp only; omega, (Ent.kept ⟨rfl, rfl, rfl, rfl, rfl, rfl, rfl, rfl, trivial⟩ trivial)⟩
    · try simp only [decide_eq_true_eq, decide_eq_false_iff_not, Bool.and_eq_true, Bool.or_eq_true, Bool.and_eq_false_iff, Bool.or_eq_false_iff, Bool.not_eq_true', Bool.not_eq_false', Bool.not_eq_true, Bool.not_eq_false, Bool.true_eq_false, Bool.false_eq_true] at h
      have h2 := h
      refine awp_exit ?_
      refine awp_seq ?_
      refine awp_region rfl (.n (fun _ => op_move (.plain rfl)) (.n (fun _ => op_not (.plain rfl)) (.nil _))) ?_
      refine awp_cond rfl (fun h => ?_) (fun h => ?_)
      · try simp only [decide_eq_true_eq, decide_eq_false_iff_not, Bool.and_eq_true, Bool.or_eq_true, Bool.and_eq_false_iff, Bool.or_eq_false_iff, Bool.not_eq_true', Bool.not_eq_false', Bool.not_eq_true, Bool.not_eq_false, Bool.true_eq_false, Bool.false_eq_true] at h
        refine awp_seq ?_
        refine awp_region rfl (.n (fun _ => op_move (.plain rfl)) (.n (fun _ => op_assign (.plain rfl)) (.nil _))) ?_
        refine awp_ret ?_
        refine retQ.ret ?_
        refine ret1 rfl rfl rfl ?_
        unfold aloneF
        rw [firstI_stop hE (alone_yes hk h2 h) (by omega)]
      · try simp only [decide_eq_true_eq, decide_eq_false_iff_not, Bool.and_eq_true, Bool.or_eq_true, Bool.and_eq_false_iff, Bool.or_eq_false_iff, Bool.not_eq_true', Bool.not_eq_false', Bool.not_eq_true, Bool.not_eq_false, Bool.true_eq_false, Bool.false_eq_true] at h
        refine awp_skip ?_
        refine awp_region rfl (.n (fun _ => op_add (.plain rfl) (.plain rfl) ?_) (.n (fun _ => op_move (.plain rfl)) (.nil _))) ?_
        · unfold InR; omega
        exact ⟨i + 1, ⟨by omega, firstI_succ hE (alone_no hk h2 h)⟩, by dsimp only; omega, (Ent.kept ⟨rfl, rfl, rfl, rfl, trivial⟩ trivial)⟩
  · try simp only [decide_eq_true_eq, decide_eq_false_iff_not, Bool.and_eq_true, Bool.or_eq_true, Bool.and_eq_false_iff, Bool.or_eq_false_iff, Bool.not_eq_true', Bool.not_eq_false', Bool.not_eq_true, Bool.not_eq_false, Bool.true_eq_false, Bool.false_eq_true] at h
    refine awp_exit ?_
    refine awp_seq ?_
    refine awp_region rfl (.n (fun _ => op_assign (.plain rfl)) (.nil _)) ?_
    refine awp_ret ?_
    refine retQ.ret ?_
    refine ret1 rfl rfl rfl ?_
    obtain rfl : i = v.length := by omega
    unfold aloneF
    rw [hE]

theorem free_fc (v : List (List Int)) (hV : Val v) : FCO Try.prog 24 [.rows v] 3 1 Int 0 (fun n => [.int .i64 n]) (mapr (mL v) fun _ => -1) := by
  refine FCO.intro Try.func24 rfl (Nat.le_of_ble_eq_true rfl) fun hfit => ?_
  obtain ⟨fitl0, fitr0⟩ := (hfit _ (.head _)).rows
  have hn1 := hV.n1
  have hn4 := hV.n4
  have hm8 := hV.m8
  refine awp_seq ?_
  refine awp_region rfl (.n (fun _ => op_assign (.plain rfl)) (.nil _)) ?_
  refine awp_seq ?_
  refine awp_region rfl (.n (fun _ => op_move (.plain rfl)) (.n (fun _ => op_indexAddr Try.underlying22 Try.sizeOf24 (.plain rfl) (.plain rfl) (fun _ => rfl) ?_) (.n (fun _ => op_load Try.isAgg24 (.plain rfl)) (.n (fun _ => op_len (s := 0) Try.underlying24 (.plain rfl)) (.e (op_make (α := Int) (d := 0) (f := (fun n => [.int .i64 n])) 9 0 ety24 (.plain rfl) (.plain rfl) (fun _ => rfl) rfl rfl ?_) rfl (.n (fun _ => op_assign (.plain rfl)) (.nil _))))))) ?_
  · omega
  · have e : (v.getD (Int.toNat 0) []).length = mL v := rfl
    omega
  refine awp_seq ?_
  refine awp_seq ?_
  refine awp_region rfl (.n (fun _ => op_move (.plain rfl)) (.r (op_lenO Try.underlying24 (.plain rfl) rfl) (.n (fun _ => op_move (.plain rfl)) (.nil _)))) ?_
  refine awp_block ?_
  refine awp_loop (σ := Nat) (fun (k : Nat) => k ≤ mL v) (fun (k : Nat) => ⟨[(3, .own 9), (11, .int (mL v : Nat)), (12, .int (k : Nat))], [(9, .arr 3 1 Int 0 (fun n => [.int .i64 n]) (mapr (mL v) fun j => if j < k then -1 else 0))]⟩) (fun (k : Nat) => mL v - k) 0 ?_ (Ent.kept ⟨rfl, (congrArg (fun n : Nat => some (SV.int (n : Int))) free_len), rfl, trivial⟩ ⟨(congrArg (fun l => some (Blk.arr 3 1 Int 0 (fun n => [.int .i64 n]) l)) (free_eq)), trivial⟩) ?_
  · exact Nat.zero_le _
  rintro k hp
  try dsimp only at hp
  have hk := hp
  refine awp_seq ?_
  refine awp_region rfl (.n (fun _ => op_lss (.plain rfl) (.plain rfl)) (.nil _)) ?_
  refine awp_seq ?_
  refine awp_cond rfl (fun h => ?_) (fun h => ?_)
  · try simp only [decide_eq_true_eq, decide_eq_false_iff_not, Bool.and_eq_true, Bool.or_eq_true, Bool.and_eq_false_iff, Bool.or_eq_false_iff, Bool.not_eq_true', Bool.not_eq_false', Bool.not_eq_true, Bool.not_eq_false, Bool.true_eq_false, Bool.false_eq_true] at h
    refine awp_skip ?_
    refine awp_seq ?_
    refine awp_block ?_
    refine awp_seq ?_
    refine awp_region rfl (.n (fun _ => op_move (.plain rfl)) (.n (fun _ => op_assign (.plain rfl)) (.nil _))) ?_
    refine awp_region rfl (.n (fun _ => op_move (.plain rfl)) (.n (fun _ => op_move (.plain rfl)) (.r (op_indexAddrON Try.underlying24 Try.sizeOf3 (.plain rfl) rfl (.plain rfl) ?_) (.e (op_storeE _ Try.sizeOf3 (.plain rfl) (.plain rfl) rfl (fun _ => rfl) ?_ (by decide) rfl rfl) rfl (.nil _))))) ?_
    · first | omega | (simp; omega)
    · first | omega | (simp; omega)
    refine awp_region rfl (.n (fun _ => op_add (.plain rfl) (.plain rfl) ?_) (.n (fun _ => op_move (.plain rfl)) (.nil _))) ?_
    · unfold InR; omega
    exact ⟨k + 1, by omega, by dsimp only; omega, (Ent.kept ⟨rfl, rfl, rfl, trivial⟩ ⟨(congrArg (fun l => some (Blk.arr 3 1 Int 0 (fun n => [.int .i64 n]) l)) (mapr_set (fun _ => if_pos (by omega)) (fun j _ hne => by simp only [Nat.lt_succ_iff]; split <;> split <;> first | rfl | omega))), trivial⟩)⟩
  · try simp only [decide_eq_true_eq, decide_eq_false_iff_not, Bool.and_eq_true, Bool.or_eq_true, Bool.and_eq_false_iff, Bool.or_eq_false_iff, Bool.not_eq_true', Bool.not_eq_false', Bool.not_eq_true, Bool.not_eq_false, Bool.true_eq_false, Bool.false_eq_true] at h
    refine awp_exit ?_
    refine awp_seq ?_
    refine awp_region rfl (.n (fun _ => op_move (.plain rfl)) (.n (fun _ => op_assign (.plain rfl)) (.nil _))) ?_
    refine awp_ret ?_
    refine retO.ret ?_
    refine retO1 rfl rfl rfl ?_
    obtain rfl : k = mL v := by omega
    exact mapr_same fun j hj => if_pos hj

theorem turn_fcm (v : List (List Int)) (give : List Int) (hV : Val v) (hg : give.length = mL v) : FCM Try.prog 26 [some (.rows v), none] (.arr 3 1 Int 0 (fun n => [.int .i64 n]) give) (.arr 3 1 Int 0 (fun n => [.int .i64 n]) (turnF v give)) (.tup []) := by
  refine FCM.intro Try.func26 rfl (Nat.le_of_ble_eq_true rfl) rfl (by simp [Blk.flatB, PV.flat]) (by simp [Blk.flatB, PV.flat]) fun hfit r => ?_
  obtain ⟨fitl0, fitr0⟩ := (hfit _ (.head _)).rows
  have hn1 := hV.n1
  have hn4 := hV.n4
  have hm8 := hV.m8
  refine awp_seq ?_
  refine awp_region rfl (.n (fun _ => op_assign (.plain rfl)) (.nil _)) ?_
  refine awp_seq ?_
  refine awp_region rfl (.n (fun _ => op_assign (.plain rfl)) (.nil _)) ?_
  refine awp_seq ?_
  refine awp_block ?_
  refine awp_ent (Ent.begin 4 1004 3 1 Int 0 (fun n => [.int .i64 n]) rfl rfl rfl) ?_
  refine awp_loop (σ := Nat) (fun (t : Nat) => firstI (fun t => decide (0 ≤ placeF (wayF v give t) (atF v give t))) t = none) (fun (t : Nat) => ⟨[(0, .pv (.rows v)), (1, .ownV 0 r), (4, .own 1004), (5, .int (atF v give t))], [(0, .arr 3 1 Int 0 (fun n => [.int .i64 n]) give), (1004, .arr 3 1 Int 0 (fun n => [.int .i64 n]) (wayF v give t))]⟩) (fun (t : Nat) => 10 - t) 0 ?_ (Ent.kept ⟨rfl, rfl, rfl, rfl, trivial⟩ ⟨rfl, rfl, trivial⟩) ?_
  · exact rfl
  rintro t hp
  try dsimp only at hp
  have hT := way_len hV hp
  have hin := atF_in (give := give) hV.n1 t
  refine awp_seq ?_
  refine awp_seq ?_
  refine awp_region rfl (.n (fun _ => op_move (.plain rfl)) (.n (fun _ => op_move (.plain rfl)) (.r (op_callL (vals := [_, _]) Try.call36 ⟨⟨_, (.plain rfl), rfl⟩, ⟨_, (.plain rfl), rfl⟩, trivial⟩ (Contains_fc _ _) rfl) (.n (fun _ => op_not (.plain rfl)) (.nil _))))) ?_
  refine awp_cond rfl (fun h => ?_) (fun h => ?_)
  · try simp only [decide_eq_true_eq, decide_eq_false_iff_not, Bool.and_eq_true, Bool.or_eq_true, Bool.and_eq_false_iff, Bool.or_eq_false_iff, Bool.not_eq_true', Bool.not_eq_false', Bool.not_eq_true, Bool.not_eq_false, Bool.true_eq_false, Bool.false_eq_true] at h
    refine awp_skip ?_
    refine awp_block ?_
    refine awp_seq ?_
    refine awp_region rfl (.n (fun _ => op_move (.plain rfl)) (.n (fun _ => op_move (.plain rfl)) (.n (fun _ => op_slit (pp := [(0, _)]) (α := Int) (d := 0) (f := (fun n => [.int .i64 n])) [_] ety24 rfl ⟨rfl, (.plain rfl), (by simp), trivial⟩ rfl (by decide) rfl) (.e (op_append (id' := 21) (α := Int) (d := 0) (f := (fun n => [.int .i64 n])) ety24 Try.underlying24 (fun _ => rfl) (fun _ => rfl) (.plain rfl) rfl (.plain rfl) rfl ?_) rfl (.n (fun _ => op_assign (.plain rfl)) (.nil _)))))) ?_
    · rw [wayF_length]; simp; omega
    refine awp_region rfl (.n (fun _ => op_move (.plain rfl)) (.n (fun _ => op_move (.plain rfl)) (.n (fun _ => op_move (.plain rfl)) (.r (op_callL (vals := [_, _, _]) Try.call37 ⟨⟨_, (.plain rfl), rfl⟩, ⟨_, (.ownS rfl), rfl⟩, ⟨_, (.plain rfl), rfl⟩, trivial⟩ (envier_fc _ _ _ ?_ ?_) rfl) (.n (fun _ => op_assign (.plain rfl)) (.nil _)))))) ?_
    · assumption
    · assumption
    exact ⟨t + 1, firstI_succ hp (decide_eq_false h), by dsimp only; omega, (Ent.round 21 1004 ⟨rfl, rfl, rfl, rfl, trivial⟩ ⟨rfl, (congrArg (fun l => some (Blk.arr 3 1 Int 0 (fun n => [.int .i64 n]) l)) (by unfold wayF; rw [mapr_succ])), trivial⟩ rfl rfl rfl ⟨rfl, rfl, rfl, rfl, trivial⟩ ⟨rfl, rfl, trivial⟩)⟩
  · try simp only [decide_eq_true_eq, decide_eq_false_iff_not, Bool.and_eq_true, Bool.or_eq_true, Bool.and_eq_false_iff, Bool.or_eq_false_iff, Bool.not_eq_true', Bool.not_eq_false', Bool.not_eq_true, Bool.not_eq_false, Bool.true_eq_false, Bool.false_eq_true] at h
    refine awp_exit ?_
    refine awp_seq ?_
    have hst := stop_at hV hp h
    obtain ⟨p0, hp0, hlt0, _⟩ := place_at (place_mem.1 h)
    have hring := ring_at hst
    obtain ⟨p, L, hL, hlen, hat, hper, hnd, hL4⟩ := ring_spec hV give
    refine awp_ent (Ent.give 4 rfl rfl) ?_
    refine awp_region rfl (.n (fun _ => op_move (.plain rfl)) (.n (fun _ => op_move (.plain rfl)) (.n (fun _ => op_move (.plain rfl)) (.n (fun _ => op_call2 Try.call38 (.plain rfl) (.plain rfl) (Index_fc _ _)) (.n (fun _ => op_sliceI (kh := .i64) Try.underlying24 Try.sizeOf3 (fun _ => rfl) (.plain rfl) (.plain rfl) rfl ?_) (.n (fun _ => op_assign (.plain rfl)) (.nil _))))))) ?_
    · omega
    refine awp_seq ?_
    refine awp_region rfl (.e (op_makeMap 31 rfl) rfl (.n (fun _ => op_assign (.plain rfl)) (.nil _))) ?_
    refine awp_seq ?_
    refine awp_seq ?_
    refine awp_region rfl (.n (fun _ => op_move (.plain rfl)) (.n (fun _ => op_len (s := 0) Try.underlying24 (.plain rfl)) (.n (fun _ => op_move (.plain rfl)) (.nil _)))) ?_
    refine awp_block ?_
    refine awp_loop (σ := Nat) (fun (i : Nat) => i ≤ (ringF v give).length) (fun (i : Nat) => ⟨[(1, .ownV 0 r), (7, .own 31), (6, .pv (.ints (ringF v give))), (32, .pv (.ints (ringF v give))), (33, .int ((ringF v give).length : Nat)), (34, .int (i : Nat))], [(0, .arr 3 1 Int 0 (fun n => [.int .i64 n]) give), (31, .mp (toF (ringF v give) i))]⟩) (fun (i : Nat) => (ringF v give).length - i) 0 ?_ (Ent.kept ⟨rfl, rfl, (congrArg (fun l => some (SV.pv (PV.ints l))) hring), (congrArg (fun l => some (SV.pv (PV.ints l))) hring), (congrArg (fun l : List Int => some (SV.int (l.length : Nat))) hring), rfl, trivial⟩ ⟨rfl, rfl, trivial⟩) ?_
    · exact Nat.zero_le _
    rintro i hp
    try dsimp only at hp
    have hi := hp
    refine awp_seq ?_
    refine awp_region rfl (.n (fun _ => op_lss (.plain rfl) (.plain rfl)) (.nil _)) ?_
    refine awp_seq ?_
    refine awp_cond rfl (fun h => ?_) (fun h => ?_)
    · try simp only [decide_eq_true_eq, decide_eq_false_iff_not, Bool.and_eq_true, Bool.or_eq_true, Bool.and_eq_false_iff, Bool.or_eq_false_iff, Bool.not_eq_true', Bool.not_eq_false', Bool.not_eq_true, Bool.not_eq_false, Bool.true_eq_false, Bool.false_eq_true] at h
      refine awp_skip ?_
      refine awp_seq ?_
      refine awp_block ?_
      refine awp_seq ?_
      refine awp_region rfl (.n (fun _ => op_move (.plain rfl)) (.n (fun _ => op_indexAddrN Try.underlying24 Try.sizeOf3 (.plain rfl) (.plain rfl) (fun _ => rfl) ?_) (.n (fun _ => op_load Try.isAgg3 (.plain rfl)) (.n (fun _ => op_assign (.plain rfl)) (.n (fun _ => op_assign (.plain rfl)) (.nil _)))))) ?_
      · omega
      refine awp_region rfl (.n (fun _ => op_move (.plain rfl)) (.n (fun _ => op_move (.plain rfl)) (.n (fun _ => op_move (.plain rfl)) (.n (fun _ => op_move (.plain rfl)) (.n (fun _ => op_add (.plain rfl) (.plain rfl) ?_) (.n (fun _ => op_move (.plain rfl)) (.n (fun _ => op_len (s := 0) Try.underlying24 (.plain rfl)) (.n (fun _ => op_rem (.plain rfl) (.plain rfl) ?_) (.n (fun _ => op_indexAddr Try.underlying24 Try.sizeOf3 (.plain rfl) (.plain rfl) (fun _ => rfl) ?_) (.n (fun _ => op_load Try.isAgg3 (.plain rfl)) (.e (op_mapSet Try.underlying57 Try.underlying3 (.plain rfl) rfl (.plain rfl) (.plain rfl) ?_) rfl (.nil _)))))))))))) ?_
      · unfold InR; omega
      · omega
      · exact ⟨Int.emod_nonneg _ (by omega), Int.emod_lt_of_pos _ (by omega)⟩
      · exact lookup_new hnd (by omega)
      refine awp_region rfl (.n (fun _ => op_add (.plain rfl) (.plain rfl) ?_) (.n (fun _ => op_move (.plain rfl)) (.nil _))) ?_
      · unfold InR; omega
      exact ⟨i + 1, by omega, by dsimp only; omega, (Ent.kept ⟨rfl, rfl, rfl, rfl, rfl, rfl, trivial⟩ ⟨rfl, (congrArg (fun m => some (Blk.mp m)) toF_snoc), trivial⟩)⟩
    · try simp only [decide_eq_true_eq, decide_eq_false_iff_not, Bool.and_eq_true, Bool.or_eq_true, Bool.and_eq_false_iff, Bool.or_eq_false_iff, Bool.not_eq_true', Bool.not_eq_false', Bool.not_eq_true, Bool.not_eq_false, Bool.true_eq_false, Bool.false_eq_true] at h
      refine awp_exit ?_
      refine awp_seq ?_
      obtain rfl : i = (ringF v give).length := by omega
      refine awp_region rfl (.n (fun _ => op_move (.plain rfl)) (.r (op_lenO Try.underlying24 (.ownS rfl) rfl) (.n (fun _ => op_move (.plain rfl)) (.nil _)))) ?_
      refine awp_block ?_
      refine awp_loop (σ := Nat) (fun (g : Nat) => g ≤ give.length) (fun (g : Nat) => ⟨[(1, .ownV 0 r), (7, .own 31), (50, .ownV 0 r), (51, .int (give.length : Nat)), (52, .int (g : Nat))], [(0, .arr 3 1 Int 0 (fun n => [.int .i64 n]) (partF (ringF v give) give g)), (31, .mp (toF (ringF v give) (ringF v give).length))]⟩) (fun (g : Nat) => give.length - g) 0 ?_ (Ent.kept ⟨rfl, rfl, rfl, rfl, rfl, trivial⟩ ⟨(congrArg (fun l => some (Blk.arr 3 1 Int 0 (fun n => [.int .i64 n]) l)) (partF_zero)), rfl, trivial⟩) ?_
      · exact Nat.zero_le _
      rintro g hp
      try dsimp only at hp
      have hgl := hp
      have hpl := partF_length (r := ringF v give) (give := give) (g := g)
      refine awp_seq ?_
      refine awp_region rfl (.n (fun _ => op_lss (.plain rfl) (.plain rfl)) (.nil _)) ?_
      refine awp_seq ?_
      refine awp_cond rfl (fun h => ?_) (fun h => ?_)
      · try simp only [decide_eq_true_eq, decide_eq_false_iff_not, Bool.and_eq_true, Bool.or_eq_true, Bool.and_eq_false_iff, Bool.or_eq_false_iff, Bool.not_eq_true', Bool.not_eq_false', Bool.not_eq_true, Bool.not_eq_false, Bool.true_eq_false, Bool.false_eq_true] at h
        refine awp_skip ?_
        refine awp_seq ?_
        refine awp_block ?_
        refine awp_seq ?_
        refine awp_region rfl (.n (fun _ => op_move (.plain rfl)) (.r (op_indexAddrON Try.underlying24 Try.sizeOf3 (.ownS rfl) rfl (.plain rfl) ?_) (.r (op_loadE Try.isAgg3 (.plain rfl) rfl (fun _ => rfl) ?_ rfl) (.n (fun _ => op_assign (.plain rfl)) (.n (fun _ => op_assign (.plain rfl)) (.nil _)))))) ?_
        · first | omega | (simp; omega)
        · first | omega | (simp; omega)
        refine awp_seq ?_
        refine awp_region rfl (.n (fun _ => op_move (.plain rfl)) (.n (fun _ => op_move (.plain rfl)) (.r (op_lookupM2 Try.underlying57 Try.underlying3 Try.zeroValue3 (.plain rfl) rfl (.plain rfl)) (.n (fun _ => op_move (.plain rfl)) (.n (fun _ => op_extract (.plain rfl) rfl) (.n (fun _ => op_extract (.plain rfl) rfl) (.n (fun _ => op_assign (.plain rfl)) (.n (fun _ => op_assign (.plain rfl)) (.nil _))))))))) ?_
        refine awp_seq ?_
        refine awp_region rfl (.n (fun _ => op_move (.plain rfl)) (.nil _)) ?_
        refine awp_cond rfl (fun h => ?_) (fun h => ?_)
        · try simp only [decide_eq_true_eq, decide_eq_false_iff_not, Bool.and_eq_true, Bool.or_eq_true, Bool.and_eq_false_iff, Bool.or_eq_false_iff, Bool.not_eq_true', Bool.not_eq_false', Bool.not_eq_true, Bool.not_eq_false, Bool.true_eq_false, Bool.false_eq_true] at h
          refine awp_region rfl (.n (fun _ => op_move (.plain rfl)) (.n (fun _ => op_move (.plain rfl)) (.n (fun _ => op_move (.plain rfl)) (.r (op_indexAddrON Try.underlying24 Try.sizeOf3 (.ownS rfl) rfl (.plain rfl) ?_) (.e (op_storeE _ Try.sizeOf3 (.plain rfl) (.plain rfl) rfl (fun _ => rfl) ?_ (by decide) rfl rfl) rfl (.nil _)))))) ?_
          · first | omega | (simp; omega)
          · first | omega | (simp; omega)
          refine awp_region rfl (.n (fun _ => op_add (.plain rfl) (.plain rfl) ?_) (.n (fun _ => op_move (.plain rfl)) (.nil _))) ?_
          · unfold InR; omega
          exact ⟨g + 1, by omega, by dsimp only; omega, (Ent.kept ⟨rfl, rfl, rfl, rfl, rfl, trivial⟩ ⟨(by first | (exact congrArg (fun l => some (Blk.arr 3 1 Int 0 (fun n => [.int .i64 n]) l)) (partF_set (by omega) h)) | (exact congrArg (fun l => some (Blk.arr 3 1 Int 0 (fun n => [.int .i64 n]) l)) (partF_skip (by omega) h))), rfl, trivial⟩)⟩
        · try simp only [decide_eq_true_eq, decide_eq_false_iff_not, Bool.and_eq_true, Bool.or_eq_true, Bool.and_eq_false_iff, Bool.or_eq_false_iff, Bool.not_eq_true', Bool.not_eq_false', Bool.not_eq_true, Bool.not_eq_false, Bool.true_eq_false, Bool.false_eq_true] at h
          refine awp_skip ?_
          refine awp_region rfl (.n (fun _ => op_add (.plain rfl) (.plain rfl) ?_) (.n (fun _ => op_move (.plain rfl)) (.nil _))) ?_
          · unfold InR; omega
          exact ⟨g + 1, by omega, by dsimp only; omega, (Ent.kept ⟨rfl, rfl, rfl, rfl, rfl, trivial⟩ ⟨(by first | (exact congrArg (fun l => some (Blk.arr 3 1 Int 0 (fun n => [.int .i64 n]) l)) (partF_set (by omega) h)) | (exact congrArg (fun l => some (Blk.arr 3 1 Int 0 (fun n => [.int .i64 n]) l)) (partF_skip (by omega) h))), rfl, trivial⟩)⟩
      · try simp only [decide_eq_true_eq, decide_eq_false_iff_not, Bool.and_eq_true, Bool.or_eq_true, Bool.and_eq_false_iff, Bool.or_eq_false_iff, Bool.not_eq_true', Bool.not_eq_false', Bool.not_eq_true, Bool.not_eq_false, Bool.true_eq_false, Bool.false_eq_true] at h
        refine awp_exit ?_
        refine retW0 rfl (t := 1) rfl ?_ ?_
        · obtain rfl : g = give.length := by omega
          exact (congrArg (fun l => some (Blk.arr 3 1 Int 0 (fun n => [.int .i64 n]) l)) (partF_end))
        · rfl

theorem Circles_fc (v : List (List Int)) : FC Try.prog 7 [.rows v] (.tup [.ints (circF v), .i (mayE v)]) := by
  refine FC.intro Try.func7 rfl (Nat.le_of_ble_eq_true rfl) fun hfit => ?_
  obtain ⟨fitl0, fitr0⟩ := (hfit _ (.head _)).rows
  refine awp_seq ?_
  refine awp_region rfl (.n (fun _ => op_assign (.plain rfl)) (.n (fun _ => op_assign (.plain rfl)) (.nil _))) ?_
  refine awp_seq ?_
  refine awp_seq ?_
  refine awp_region rfl (.n (fun _ => op_move (.plain rfl)) (.n (fun _ => op_call1 Try.call13 (.plain rfl) (May_fc _)) (.n (fun _ => op_assign (.plain rfl)) (.nil _)))) ?_
  refine awp_seq ?_
  refine awp_region rfl (.n (fun _ => op_move (.plain rfl)) (.n (fun _ => op_neq (.plain rfl) (.plain rfl)) (.nil _))) ?_
  refine awp_cond rfl (fun h => ?_) (fun h => ?_)
  · try simp only [decide_eq_true_eq, decide_eq_false_iff_not, Bool.and_eq_true, Bool.or_eq_true, Bool.and_eq_false_iff, Bool.or_eq_false_iff, Bool.not_eq_true', Bool.not_eq_false', Bool.not_eq_true, Bool.not_eq_false, Bool.true_eq_false, Bool.false_eq_true] at h
    refine awp_seq ?_
    refine awp_region rfl (.n (fun _ => op_move (.plain rfl)) (.n (fun _ => op_assign (.plain rfl)) (.n (fun _ => op_assign (.plain rfl)) (.nil _)))) ?_
    refine awp_ent (Ent.nilseq 2 Int 0 (fun n => [.int .i64 n]) rfl) ?_
    refine awp_ret ?_
    refine retQ.ret ?_
    refine ret2 rfl rfl rfl rfl rfl ?_
    exact circ_err h
  · try simp only [decide_eq_true_eq, decide_eq_false_iff_not, Bool.and_eq_true, Bool.or_eq_true, Bool.and_eq_false_iff, Bool.or_eq_false_iff, Bool.not_eq_true', Bool.not_eq_false', Bool.not_eq_true, Bool.not_eq_false, Bool.true_eq_false, Bool.false_eq_true] at h
    have hM := h
    have hV := val_of hM
    have hn1 := hV.n1
    have hn4 := hV.n4
    have hm8 := hV.m8
    refine awp_skip ?_
    refine awp_seq ?_
    refine awp_region rfl (.n (fun _ => op_move (.plain rfl)) (.e (op_callO (vals := [_]) 14 Try.call24 ⟨⟨_, (.plain rfl), rfl⟩, trivial⟩ (free_fc _ ?_) (by simp [PV.flat]) rfl) rfl (.n (fun _ => op_assign (.plain rfl)) (.nil _)))) ?_
    · assumption
    refine awp_seq ?_
    refine awp_seq ?_
    refine awp_region rfl (.n (fun _ => op_move (.plain rfl)) (.r (op_lenO Try.underlying24 (.plain rfl) rfl) (.n (fun _ => op_move (.plain rfl)) (.nil _)))) ?_
    refine awp_block ?_
    refine awp_loop (σ := Nat) (fun (g : Nat) => g ≤ mL v) (fun (g : Nat) => ⟨[(0, .pv (.rows v)), (5, .own 14), (16, .int (mL v : Nat)), (17, .int (g : Nat))], [(14, .arr 3 1 Int 0 (fun n => [.int .i64 n]) (circTo v g))]⟩) (fun (g : Nat) => mL v - g) 0 ?_ (Ent.kept ⟨rfl, rfl, (congrArg (fun n : Nat => some (SV.int (n : Int))) (mapr_length _ _)), rfl, trivial⟩ ⟨rfl, trivial⟩) ?_
    · exact Nat.zero_le _
    rintro g hp
    try dsimp only at hp
    have hk := hp
    have hG := circ_good hV g hk
    have hl := hG.len
    refine awp_seq ?_
    refine awp_region rfl (.n (fun _ => op_lss (.plain rfl) (.plain rfl)) (.nil _)) ?_
    refine awp_seq ?_
    refine awp_cond rfl (fun h => ?_) (fun h => ?_)
    · try simp only [decide_eq_true_eq, decide_eq_false_iff_not, Bool.and_eq_true, Bool.or_eq_true, Bool.and_eq_false_iff, Bool.or_eq_false_iff, Bool.not_eq_true', Bool.not_eq_false', Bool.not_eq_true, Bool.not_eq_false, Bool.true_eq_false, Bool.false_eq_true] at h
      refine awp_skip ?_
      refine awp_seq ?_
      refine awp_block ?_
      refine awp_seq ?_
      refine awp_region rfl (.n (fun _ => op_move (.plain rfl)) (.n (fun _ => op_assign (.plain rfl)) (.nil _))) ?_
      refine awp_seq ?_
      refine awp_region rfl (.n (fun _ => op_move (.plain rfl)) (.n (fun _ => op_move (.plain rfl)) (.r (op_callL (vals := [_, _]) Try.call25 ⟨⟨_, (.plain rfl), rfl⟩, ⟨_, (.plain rfl), rfl⟩, trivial⟩ (alone_fc _ _ ?_ ?_) rfl) (.n (fun _ => op_assign (.plain rfl)) (.nil _))))) ?_
      · assumption
      · assumption
      refine awp_seq ?_
      refine awp_block ?_
      refine awp_loop (σ := Nat) (fun (t : Nat) => firstI (fun t => decide (0 ≤ aloneF v (turnsF v (circTo v g) t))) t = none) (fun (t : Nat) => ⟨[(0, .pv (.rows v)), (5, .own 14), (6, .int (g : Nat)), (7, .int (aloneF v (turnsF v (circTo v g) t))), (16, .int (mL v : Nat)), (17, .int (g : Nat))], [(14, .arr 3 1 Int 0 (fun n => [.int .i64 n]) (turnsF v (circTo v g) t))]⟩) (fun (t : Nat) => 100000 - t) 0 ?_ (Ent.kept ⟨rfl, rfl, rfl, rfl, rfl, rfl, trivial⟩ ⟨rfl, trivial⟩) ?_
      · exact rfl
      rintro t hp
      try dsimp only at hp
      have ht := hp
      have hT := turns_end hV hk hG ht
      have hl2 := (turns_good hV hk hG t ht).1.len
      have hl3 : (turnF v (turnsF v (circTo v g) t)).length = mL v := turnF_length.trans hl2
      refine awp_seq ?_
      refine awp_seq ?_
      refine awp_region rfl (.n (fun _ => op_move (.plain rfl)) (.n (fun _ => op_lss (.plain rfl) (.plain rfl)) (.nil _))) ?_
      refine awp_cond rfl (fun h => ?_) (fun h => ?_)
      · try simp only [decide_eq_true_eq, decide_eq_false_iff_not, Bool.and_eq_true, Bool.or_eq_true, Bool.and_eq_false_iff, Bool.or_eq_false_iff, Bool.not_eq_true', Bool.not_eq_false', Bool.not_eq_true, Bool.not_eq_false, Bool.true_eq_false, Bool.false_eq_true] at h
        refine awp_skip ?_
        refine awp_seq ?_
        refine awp_block ?_
        refine awp_region rfl (.n (fun _ => op_move (.plain rfl)) (.n (fun _ => op_move (.plain rfl)) (.e (op_callM (vals := [some _, none]) 14 Try.call26 ⟨(.plain rfl), (.plain rfl), trivial⟩ rfl (turn_fcm _ _ ?_ ?_) rfl (by simp [Blk.flatB, PV.flat]) (by simp [Blk.flatB, PV.flat])) rfl (.nil _)))) ?_
        · assumption
        · assumption
        refine awp_region rfl (.n (fun _ => op_move (.plain rfl)) (.n (fun _ => op_move (.plain rfl)) (.r (op_callL (vals := [_, _]) Try.call25 ⟨⟨_, (.plain rfl), rfl⟩, ⟨_, (.plain rfl), rfl⟩, trivial⟩ (alone_fc _ _ ?_ ?_) rfl) (.n (fun _ => op_assign (.plain rfl)) (.nil _))))) ?_
        · assumption
        · assumption
        exact ⟨t + 1, firstI_succ ht (decide_eq_false (by omega)), by dsimp only; omega, (Ent.kept ⟨rfl, rfl, rfl, rfl, rfl, rfl, trivial⟩ ⟨rfl, trivial⟩)⟩
      · try simp only [decide_eq_true_eq, decide_eq_false_iff_not, Bool.and_eq_true, Bool.or_eq_true, Bool.and_eq_false_iff, Bool.or_eq_false_iff, Bool.not_eq_true', Bool.not_eq_false', Bool.not_eq_true, Bool.not_eq_false, Bool.true_eq_false, Bool.false_eq_true] at h
        refine awp_exit ?_
        refine awp_region rfl (.n (fun _ => op_move (.plain rfl)) (.n (fun _ => op_move (.plain rfl)) (.n (fun _ => op_move (.plain rfl)) (.r (op_indexAddrON Try.underlying24 Try.sizeOf3 (.plain rfl) rfl (.plain rfl) ?_) (.e (op_storeE _ Try.sizeOf3 (.plain rfl) (.plain rfl) rfl (fun _ => rfl) ?_ (by decide) rfl rfl) rfl (.nil _)))))) ?_
        · first | omega | (simp; omega)
        · first | omega | (simp; omega)
        refine awp_region rfl (.n (fun _ => op_add (.plain rfl) (.plain rfl) ?_) (.n (fun _ => op_move (.plain rfl)) (.nil _))) ?_
        · unfold InR; omega
        exact ⟨g + 1, by omega, by dsimp only; omega, (Ent.kept ⟨rfl, rfl, rfl, rfl, trivial⟩ ⟨(congrArg (fun l => some (Blk.arr 3 1 Int 0 (fun n => [.int .i64 n]) l)) (circ_step hV hk hG ht h)), trivial⟩)⟩
    · try simp only [decide_eq_true_eq, decide_eq_false_iff_not, Bool.and_eq_true, Bool.or_eq_true, Bool.and_eq_false_iff, Bool.or_eq_false_iff, Bool.not_eq_true', Bool.not_eq_false', Bool.not_eq_true, Bool.not_eq_false, Bool.true_eq_false, Bool.false_eq_true] at h
      refine awp_exit ?_
      refine awp_seq ?_
      refine awp_region rfl (.n (fun _ => op_move (.plain rfl)) (.n (fun _ => op_assign (.plain rfl)) (.n (fun _ => op_assign (.plain rfl)) (.nil _)))) ?_
      refine awp_ret ?_
      refine retQ.ret ?_
      refine ret2 rfl rfl rfl rfl rfl ?_
      exact circ_ok hM (by omega)

theorem Envy_fc (v : List (List Int)) (give : List Int) (hV : Val v) (hg : give.length = mL v) (hM : mayE v = 0) (hin : ∀ j, j < give.length → -1 ≤ give.getD j 0 ∧ give.getD j 0 < (v.length : Int)) : FC Try.prog 9 [.rows v, .ints give] (.tup [.rows (envT v give), .i 0]) := by
  refine FC.intro Try.func9 rfl (Nat.le_of_ble_eq_true rfl) fun hfit => ?_
  obtain ⟨fitl0, fitr0⟩ := (hfit _ (.head _)).rows
  obtain ⟨fitl1, fitr1⟩ := (hfit _ (.tail _ (.head _))).ints
  have hn1 := hV.n1
  have hn4 := hV.n4
  have hm8 := hV.m8
  have hgl0 := hg
  refine awp_seq ?_
  refine awp_region rfl (.n (fun _ => op_assign (.plain rfl)) (.n (fun _ => op_assign (.plain rfl)) (.nil _))) ?_
  refine awp_seq ?_
  refine awp_region rfl (.n (fun _ => op_move (.plain rfl)) (.n (fun _ => op_call1 Try.call8 (.plain rfl) (ShareMay_fc _)) (.n (fun _ => op_assign (.plain rfl)) (.nil _)))) ?_
  refine awp_seq ?_
  refine awp_seq ?_
  refine awp_region rfl (.n (fun _ => op_move (.plain rfl)) (.n (fun _ => op_neq (.plain rfl) (.plain rfl)) (.nil _))) ?_
  refine awp_cond rfl (fun h => ?_) (fun h => ?_)
  · try simp only [decide_eq_true_eq, decide_eq_false_iff_not, Bool.and_eq_true, Bool.or_eq_true, Bool.and_eq_false_iff, Bool.or_eq_false_iff, Bool.not_eq_true', Bool.not_eq_false', Bool.not_eq_true, Bool.not_eq_false, Bool.true_eq_false, Bool.false_eq_true] at h
    exfalso
    exact h hM
  · try simp only [decide_eq_true_eq, decide_eq_false_iff_not, Bool.and_eq_true, Bool.or_eq_true, Bool.and_eq_false_iff, Bool.or_eq_false_iff, Bool.not_eq_true', Bool.not_eq_false', Bool.not_eq_true, Bool.not_eq_false, Bool.true_eq_false, Bool.false_eq_true] at h
    refine awp_skip ?_
    refine awp_seq ?_
    refine awp_seq ?_
    refine awp_region rfl (.n (fun _ => op_move (.plain rfl)) (.n (fun _ => op_len (s := 0) Try.underlying24 (.plain rfl)) (.n (fun _ => op_move (.plain rfl)) (.n (fun _ => op_indexAddr Try.underlying22 Try.sizeOf24 (.plain rfl) (.plain rfl) (fun _ => rfl) ?_) (.n (fun _ => op_load Try.isAgg24 (.plain rfl)) (.n (fun _ => op_len (s := 0) Try.underlying24 (.plain rfl)) (.n (fun _ => op_neq (.plain rfl) (.plain rfl)) (.nil _)))))))) ?_
    · omega
    refine awp_cond rfl (fun h => ?_) (fun h => ?_)
    · try simp only [decide_eq_true_eq, decide_eq_false_iff_not, Bool.and_eq_true, Bool.or_eq_true, Bool.and_eq_false_iff, Bool.or_eq_false_iff, Bool.not_eq_true', Bool.not_eq_false', Bool.not_eq_true, Bool.not_eq_false, Bool.true_eq_false, Bool.false_eq_true] at h
      exfalso
      exact h (by rw [hg]; rfl)
    · try simp only [decide_eq_true_eq, decide_eq_false_iff_not, Bool.and_eq_true, Bool.or_eq_true, Bool.and_eq_false_iff, Bool.or_eq_false_iff, Bool.not_eq_true', Bool.not_eq_false', Bool.not_eq_true, Bool.not_eq_false, Bool.true_eq_false, Bool.false_eq_true] at h
      refine awp_skip ?_
      refine awp_seq ?_
      refine awp_seq ?_
      refine awp_region rfl (.n (fun _ => op_assign (.plain rfl)) (.nil _)) ?_
      refine awp_block ?_
      refine awp_loop (σ := Nat) (fun (g : Nat) => g ≤ give.length) (fun (g : Nat) => ⟨[(0, .pv (.rows v)), (1, .pv (.ints give)), (7, .int (g : Nat))], []⟩) (fun (g : Nat) => give.length - g) 0 ?_ (Ent.kept ⟨rfl, rfl, rfl, trivial⟩ trivial) ?_
      · exact Nat.zero_le _
      rintro g hp
      try dsimp only at hp
      have hgl := hp
      refine awp_seq ?_
      refine awp_seq ?_
      refine awp_region rfl (.n (fun _ => op_move (.plain rfl)) (.n (fun _ => op_move (.plain rfl)) (.n (fun _ => op_len (s := 0) Try.underlying24 (.plain rfl)) (.n (fun _ => op_lss (.plain rfl) (.plain rfl)) (.nil _))))) ?_
      refine awp_cond rfl (fun h => ?_) (fun h => ?_)
      · try simp only [decide_eq_true_eq, decide_eq_false_iff_not, Bool.and_eq_true, Bool.or_eq_true, Bool.and_eq_false_iff, Bool.or_eq_false_iff, Bool.not_eq_true', Bool.not_eq_false', Bool.not_eq_true, Bool.not_eq_false, Bool.true_eq_false, Bool.false_eq_true] at h
        refine awp_skip ?_
        refine awp_seq ?_
        refine awp_block ?_
        refine awp_seq ?_
        refine awp_region rfl (.n (fun _ => op_move (.plain rfl)) (.n (fun _ => op_move (.plain rfl)) (.n (fun _ => op_indexAddrN Try.underlying24 Try.sizeOf3 (.plain rfl) (.plain rfl) (fun _ => rfl) ?_) (.n (fun _ => op_load Try.isAgg3 (.plain rfl)) (.n (fun _ => op_lss (.plain rfl) (.plain rfl)) (.n (fun _ => op_move (.plain rfl)) (.gn rfl rfl (fun hg _ => op_move (.plain rfl)) (.gn rfl rfl (fun hg _ => op_move (.plain rfl)) (.gn rfl rfl (fun hg _ => op_indexAddrN Try.underlying24 Try.sizeOf3 (.opt rfl fun h => h) (.opt rfl fun h => h) (fun _ => rfl) ?_) (.gn rfl rfl (fun hg _ => op_load Try.isAgg3 (.opt rfl fun h => h)) (.gn rfl rfl (fun hg _ => op_move (.plain rfl)) (.gn rfl rfl (fun hg _ => op_len (s := 0) Try.underlying22 (.opt rfl fun h => h)) (.gn rfl rfl (fun hg _ => op_geq (.opt rfl fun h => h) (.opt rfl fun h => h)) (.n (fun _ => op_or (.plain rfl) (.plain rfl) (.plain rfl) (fun h => eqF h)) (.nil _))))))))))))))) ?_
        · omega
        · try simp only [beq_iff_eq, beq_true, beq_false, Bool.and_eq_true, decide_eq_true_eq, decide_eq_false_iff_not, Bool.not_eq_true', Bool.or_eq_true, Bool.or_eq_false_iff] at hg
          omega
        refine awp_cond rfl (fun h => ?_) (fun h => ?_)
        · try simp only [decide_eq_true_eq, decide_eq_false_iff_not, Bool.and_eq_true, Bool.or_eq_true, Bool.and_eq_false_iff, Bool.or_eq_false_iff, Bool.not_eq_true', Bool.not_eq_false', Bool.not_eq_true, Bool.not_eq_false, Bool.true_eq_false, Bool.false_eq_true] at h
          exfalso
          have := hin g (by omega)
          omega
        · try simp only [decide_eq_true_eq, decide_eq_false_iff_not, Bool.and_eq_true, Bool.or_eq_true, Bool.and_eq_false_iff, Bool.or_eq_false_iff, Bool.not_eq_true', Bool.not_eq_false', Bool.not_eq_true, Bool.not_eq_false, Bool.true_eq_false, Bool.false_eq_true] at h
          refine awp_skip ?_
          refine awp_region rfl (.n (fun _ => op_move (.plain rfl)) (.n (fun _ => op_add (.plain rfl) (.plain rfl) ?_) (.n (fun _ => op_assign (.plain rfl)) (.nil _)))) ?_
          · unfold InR; omega
          exact ⟨g + 1, by omega, by dsimp only; omega, (Ent.kept ⟨rfl, rfl, rfl, trivial⟩ trivial)⟩
      · try simp only [decide_eq_true_eq, decide_eq_false_iff_not, Bool.and_eq_true, Bool.or_eq_true, Bool.and_eq_false_iff, Bool.or_eq_false_iff, Bool.not_eq_true', Bool.not_eq_false', Bool.not_eq_true, Bool.not_eq_false, Bool.true_eq_false, Bool.false_eq_true] at h
        refine awp_exit ?_
        refine awp_seq ?_
        refine awp_region rfl (.n (fun _ => op_assign (.plain rfl)) (.nil _)) ?_
        refine awp_seq ?_
        refine awp_seq ?_
        refine awp_region rfl (.n (fun _ => op_assign (.plain rfl)) (.nil _)) ?_
        refine awp_block ?_
        refine awp_ent (Ent.begin 8 1008 24 1 (List Int) [] (fun r => [.seq Int 0 (fun n => [.int .i64 n]) r]) rfl rfl rfl) ?_
        refine awp_loop (σ := Nat) (fun (i : Nat) => i ≤ v.length) (fun (i : Nat) => ⟨[(0, .pv (.rows v)), (1, .pv (.ints give)), (8, .own 1008), (9, .int (i : Nat))], [(1008, .arr 24 1 (List Int) [] (fun r => [.seq Int 0 (fun n => [.int .i64 n]) r]) (mapr i fun i => mapr v.length fun k => envF v give i k))]⟩) (fun (i : Nat) => v.length - i) 0 ?_ (Ent.kept ⟨rfl, rfl, rfl, rfl, trivial⟩ ⟨rfl, trivial⟩) ?_
        · exact Nat.zero_le _
        rintro i hp
        try dsimp only at hp
        have hi := hp
        refine awp_seq ?_
        refine awp_seq ?_
        refine awp_region rfl (.n (fun _ => op_move (.plain rfl)) (.n (fun _ => op_move (.plain rfl)) (.n (fun _ => op_len (s := 0) Try.underlying22 (.plain rfl)) (.n (fun _ => op_lss (.plain rfl) (.plain rfl)) (.nil _))))) ?_
        refine awp_cond rfl (fun h => ?_) (fun h => ?_)
        · try simp only [decide_eq_true_eq, decide_eq_false_iff_not, Bool.and_eq_true, Bool.or_eq_true, Bool.and_eq_false_iff, Bool.or_eq_false_iff, Bool.not_eq_true', Bool.not_eq_false', Bool.not_eq_true, Bool.not_eq_false, Bool.true_eq_false, Bool.false_eq_true] at h
          refine awp_skip ?_
          refine awp_seq ?_
          refine awp_block ?_
          refine awp_seq ?_
          refine awp_region rfl (.n (fun _ => op_assign (.plain rfl)) (.nil _)) ?_
          refine awp_seq ?_
          refine awp_seq ?_
          refine awp_region rfl (.n (fun _ => op_assign (.plain rfl)) (.nil _)) ?_
          refine awp_block ?_
          refine awp_ent (Ent.begin 10 1010 3 1 Int 0 (fun n => [.int .i64 n]) rfl rfl rfl) ?_
          refine awp_loop (σ := Nat) (fun (k : Nat) => k ≤ v.length) (fun (k : Nat) => ⟨[(0, .pv (.rows v)), (1, .pv (.ints give)), (8, .own 1008), (9, .int (i : Nat)), (10, .own 1010), (11, .int (k : Nat))], [(1008, .arr 24 1 (List Int) [] (fun r => [.seq Int 0 (fun n => [.int .i64 n]) r]) (mapr i fun i => mapr v.length fun k => envF v give i k)), (1010, .arr 3 1 Int 0 (fun n => [.int .i64 n]) (mapr k fun k => envF v give i k))]⟩) (fun (k : Nat) => v.length - k) 0 ?_ (Ent.kept ⟨rfl, rfl, rfl, rfl, rfl, rfl, trivial⟩ ⟨rfl, rfl, trivial⟩) ?_
          · exact Nat.zero_le _
          rintro k hp
          try dsimp only at hp
          have hk := hp
          have hrow := hV.row i (by omega)
          refine awp_seq ?_
          refine awp_seq ?_
          refine awp_region rfl (.n (fun _ => op_move (.plain rfl)) (.n (fun _ => op_move (.plain rfl)) (.n (fun _ => op_len (s := 0) Try.underlying22 (.plain rfl)) (.n (fun _ => op_lss (.plain rfl) (.plain rfl)) (.nil _))))) ?_
          refine awp_cond rfl (fun h => ?_) (fun h => ?_)
          · try simp only [decide_eq_true_eq, decide_eq_false_iff_not, Bool.and_eq_true, Bool.or_eq_true, Bool.and_eq_false_iff, Bool.or_eq_false_iff, Bool.not_eq_true', Bool.not_eq_false', Bool.not_eq_true, Bool.not_eq_false, Bool.true_eq_false, Bool.false_eq_true] at h
            refine awp_skip ?_
            refine awp_seq ?_
            refine awp_block ?_
            refine awp_seq ?_
            refine awp_region rfl (.n (fun _ => op_move (.plain rfl)) (.n (fun _ => op_move (.plain rfl)) (.n (fun _ => op_move (.plain rfl)) (.n (fun _ => op_move (.plain rfl)) (.n (fun _ => op_call4 Try.call23 (.plain rfl) (.plain rfl) (.plain rfl) (.plain rfl) (Has_fc _ _ _ _ ?_ ?_ ?_)) (.n (fun _ => op_assign (.plain rfl)) (.nil _))))))) ?_
            · assumption
            · assumption
            · omega
            refine awp_seq ?_
            refine awp_region rfl (.n (fun _ => op_move (.plain rfl)) (.n (fun _ => op_move (.plain rfl)) (.n (fun _ => op_move (.plain rfl)) (.n (fun _ => op_move (.plain rfl)) (.n (fun _ => op_call4 Try.call23 (.plain rfl) (.plain rfl) (.plain rfl) (.plain rfl) (Has_fc _ _ _ _ ?_ ?_ ?_)) (.n (fun _ => op_assign (.plain rfl)) (.nil _))))))) ?_
            · assumption
            · assumption
            · omega
            refine awp_seq ?_
            refine awp_region rfl (.n (fun _ => op_move (.plain rfl)) (.n (fun _ => op_assign (.plain rfl)) (.nil _))) ?_
            refine awp_seq ?_
            refine awp_seq ?_
            refine awp_region rfl (.n (fun _ => op_assign (.plain rfl)) (.nil _)) ?_
            refine awp_block ?_
            refine awp_loop (σ := Nat) (fun (g : Nat) => g ≤ give.length) (fun (g : Nat) => ⟨[(0, .pv (.rows v)), (1, .pv (.ints give)), (8, .own 1008), (9, .int (i : Nat)), (10, .own 1010), (11, .int (k : Nat)), (12, .int (hasF v give i i)), (13, .int (hasF v give i k)), (14, .int (lessTo v give i k g)), (15, .int (g : Nat))], [(1008, .arr 24 1 (List Int) [] (fun r => [.seq Int 0 (fun n => [.int .i64 n]) r]) (mapr i fun i => mapr v.length fun k => envF v give i k)), (1010, .arr 3 1 Int 0 (fun n => [.int .i64 n]) (mapr k fun k => envF v give i k))]⟩) (fun (g : Nat) => give.length - g) 0 ?_ (Ent.kept ⟨rfl, rfl, rfl, rfl, rfl, rfl, rfl, rfl, rfl, rfl, trivial⟩ ⟨rfl, rfl, trivial⟩) ?_
            · exact Nat.zero_le _
            rintro g hp
            try dsimp only at hp
            have hgl := hp
            refine awp_seq ?_
            refine awp_seq ?_
            refine awp_region rfl (.n (fun _ => op_move (.plain rfl)) (.n (fun _ => op_move (.plain rfl)) (.n (fun _ => op_len (s := 0) Try.underlying24 (.plain rfl)) (.n (fun _ => op_lss (.plain rfl) (.plain rfl)) (.nil _))))) ?_
            refine awp_cond rfl (fun h => ?_) (fun h => ?_)
            · try simp only [decide_eq_true_eq, decide_eq_false_iff_not, Bool.and_eq_true, Bool.or_eq_true, Bool.and_eq_false_iff, Bool.or_eq_false_iff, Bool.not_eq_true', Bool.not_eq_false', Bool.not_eq_true, Bool.not_eq_false, Bool.true_eq_false, Bool.false_eq_true] at h
              refine awp_skip ?_
              refine awp_seq ?_
              refine awp_block ?_
              refine awp_seq ?_
              refine awp_region rfl (.n (fun _ => op_move (.plain rfl)) (.n (fun _ => op_move (.plain rfl)) (.n (fun _ => op_indexAddrN Try.underlying24 Try.sizeOf3 (.plain rfl) (.plain rfl) (fun _ => rfl) ?_) (.n (fun _ => op_load Try.isAgg3 (.plain rfl)) (.n (fun _ => op_move (.plain rfl)) (.n (fun _ => op_eql (.plain rfl) (.plain rfl)) (.n (fun _ => op_move (.plain rfl)) (.gn rfl rfl (fun hg _ => op_move (.plain rfl)) (.gn rfl rfl (fun hg _ => op_move (.plain rfl)) (.gn rfl rfl (fun hg _ => op_move (.plain rfl)) (.gn rfl rfl (fun hg _ => op_indexAddrN Try.underlying22 Try.sizeOf24 (.opt rfl fun h => h) (.opt rfl fun h => h) (fun _ => rfl) ?_) (.gn rfl rfl (fun hg _ => op_load Try.isAgg24 (.opt rfl fun h => h)) (.gn rfl rfl (fun hg _ => op_move (.plain rfl)) (.gn rfl rfl (fun hg _ => op_indexAddrN Try.underlying24 Try.sizeOf3 (.opt rfl fun h => h) (.opt rfl fun h => h) (fun _ => rfl) ?_) (.gn rfl rfl (fun hg _ => op_load Try.isAgg3 (.opt rfl fun h => h)) (.gn rfl rfl (fun hg _ => op_sub (.opt rfl fun h => h) (.opt rfl fun h => h) ?_) (.gn rfl rfl (fun hg _ => op_move (.plain rfl)) (.gn rfl rfl (fun hg _ => op_lss (.opt rfl fun h => h) (.opt rfl fun h => h)) (.n (fun _ => op_and (.plain rfl) (.plain rfl) (.plain rfl) (fun h => eqT h)) (.nil _)))))))))))))))))))) ?_
              · omega
              · try simp only [beq_iff_eq, beq_true, beq_false, Bool.and_eq_true, decide_eq_true_eq, decide_eq_false_iff_not, Bool.not_eq_true', Bool.or_eq_true, Bool.or_eq_false_iff] at hg
                omega
              · try simp only [beq_iff_eq, beq_true, beq_false, Bool.and_eq_true, decide_eq_true_eq, decide_eq_false_iff_not, Bool.not_eq_true', Bool.or_eq_true, Bool.or_eq_false_iff] at hg
                omega
              · try simp only [beq_iff_eq, beq_true, beq_false, Bool.and_eq_true, decide_eq_true_eq, decide_eq_false_iff_not, Bool.not_eq_true', Bool.or_eq_true, Bool.or_eq_false_iff] at hg
                have hval := hV.val i (by omega) g (by omega); have hb := hasF_bd hV hgl0 (who := (i : Int)) (other := (k : Int)) (by omega); unfold InR; omega
              refine awp_cond rfl (fun h => ?_) (fun h => ?_)
              · try simp only [decide_eq_true_eq, decide_eq_false_iff_not, Bool.and_eq_true, Bool.or_eq_true, Bool.and_eq_false_iff, Bool.or_eq_false_iff, Bool.not_eq_true', Bool.not_eq_false', Bool.not_eq_true, Bool.not_eq_false, Bool.true_eq_false, Bool.false_eq_true] at h
                refine awp_region rfl (.n (fun _ => op_move (.plain rfl)) (.n (fun _ => op_move (.plain rfl)) (.n (fun _ => op_move (.plain rfl)) (.n (fun _ => op_indexAddrN Try.underlying22 Try.sizeOf24 (.plain rfl) (.plain rfl) (fun _ => rfl) ?_) (.n (fun _ => op_load Try.isAgg24 (.plain rfl)) (.n (fun _ => op_move (.plain rfl)) (.n (fun _ => op_indexAddrN Try.underlying24 Try.sizeOf3 (.plain rfl) (.plain rfl) (fun _ => rfl) ?_) (.n (fun _ => op_load Try.isAgg3 (.plain rfl)) (.n (fun _ => op_sub (.plain rfl) (.plain rfl) ?_) (.n (fun _ => op_assign (.plain rfl)) (.nil _))))))))))) ?_
                · omega
                · omega
                · have hval := hV.val i (by omega) g (by omega); have hb := hasF_bd hV hg (who := (i : Int)) (other := (k : Int)) (by omega); unfold InR; omega
                refine awp_region rfl (.n (fun _ => op_move (.plain rfl)) (.n (fun _ => op_add (.plain rfl) (.plain rfl) ?_) (.n (fun _ => op_assign (.plain rfl)) (.nil _)))) ?_
                · unfold InR; omega
                exact ⟨g + 1, by omega, by dsimp only; omega, (Ent.kept ⟨rfl, rfl, rfl, rfl, rfl, rfl, rfl, rfl, (by first | (exact congrArg (fun n => some (SV.int n)) (less_in h)) | (exact congrArg (fun n => some (SV.int n)) (less_out (by omega)))), rfl, trivial⟩ ⟨rfl, rfl, trivial⟩)⟩
              · try simp only [decide_eq_true_eq, decide_eq_false_iff_not, Bool.and_eq_true, Bool.or_eq_true, Bool.and_eq_false_iff, Bool.or_eq_false_iff, Bool.not_eq_true', Bool.not_eq_false', Bool.not_eq_true, Bool.not_eq_false, Bool.true_eq_false, Bool.false_eq_true] at h
                refine awp_skip ?_
                refine awp_region rfl (.n (fun _ => op_move (.plain rfl)) (.n (fun _ => op_add (.plain rfl) (.plain rfl) ?_) (.n (fun _ => op_assign (.plain rfl)) (.nil _)))) ?_
                · unfold InR; omega
                exact ⟨g + 1, by omega, by dsimp only; omega, (Ent.kept ⟨rfl, rfl, rfl, rfl, rfl, rfl, rfl, rfl, (by first | (exact congrArg (fun n => some (SV.int n)) (less_in h)) | (exact congrArg (fun n => some (SV.int n)) (less_out (by omega)))), rfl, trivial⟩ ⟨rfl, rfl, trivial⟩)⟩
            · try simp only [decide_eq_true_eq, decide_eq_false_iff_not, Bool.and_eq_true, Bool.or_eq_true, Bool.and_eq_false_iff, Bool.or_eq_false_iff, Bool.not_eq_true', Bool.not_eq_false', Bool.not_eq_true, Bool.not_eq_false, Bool.true_eq_false, Bool.false_eq_true] at h
              refine awp_exit ?_
              refine awp_seq ?_
              obtain rfl : g = give.length := by omega
              refine awp_region rfl (.n (fun _ => op_assign (.plain rfl)) (.nil _)) ?_
              refine awp_seq ?_
              refine awp_seq ?_
              refine awp_region rfl (.n (fun _ => op_move (.plain rfl)) (.n (fun _ => op_move (.plain rfl)) (.n (fun _ => op_gtr (.plain rfl) (.plain rfl)) (.nil _)))) ?_
              refine awp_cond rfl (fun h => ?_) (fun h => ?_)
              · try simp only [decide_eq_true_eq, decide_eq_false_iff_not, Bool.and_eq_true, Bool.or_eq_true, Bool.and_eq_false_iff, Bool.or_eq_false_iff, Bool.not_eq_true', Bool.not_eq_false', Bool.not_eq_true, Bool.not_eq_false, Bool.true_eq_false, Bool.false_eq_true] at h
                have h1 := h
                refine awp_region rfl (.n (fun _ => op_assign (.plain rfl)) (.nil _)) ?_
                refine awp_seq ?_
                refine awp_seq ?_
                refine awp_region rfl (.n (fun _ => op_move (.plain rfl)) (.n (fun _ => op_move (.plain rfl)) (.n (fun _ => op_gtr (.plain rfl) (.plain rfl)) (.nil _)))) ?_
                refine awp_cond rfl (fun h => ?_) (fun h => ?_)
                · try simp only [decide_eq_true_eq, decide_eq_false_iff_not, Bool.and_eq_true, Bool.or_eq_true, Bool.and_eq_false_iff, Bool.or_eq_false_iff, Bool.not_eq_true', Bool.not_eq_false', Bool.not_eq_true, Bool.not_eq_false, Bool.true_eq_false, Bool.false_eq_true] at h
                  have h2 := h
                  refine awp_region rfl (.n (fun _ => op_assign (.plain rfl)) (.nil _)) ?_
                  refine awp_seq ?_
                  refine awp_seq ?_
                  refine awp_region rfl (.n (fun _ => op_move (.plain rfl)) (.n (fun _ => op_move (.plain rfl)) (.n (fun _ => op_eql (.plain rfl) (.plain rfl)) (.nil _)))) ?_
                  refine awp_cond rfl (fun h => ?_) (fun h => ?_)
                  · try simp only [decide_eq_true_eq, decide_eq_false_iff_not, Bool.and_eq_true, Bool.or_eq_true, Bool.and_eq_false_iff, Bool.or_eq_false_iff, Bool.not_eq_true', Bool.not_eq_false', Bool.not_eq_true, Bool.not_eq_false, Bool.true_eq_false, Bool.false_eq_true] at h
                    have h3 := h
                    refine awp_region rfl (.n (fun _ => op_assign (.plain rfl)) (.nil _)) ?_
                    refine awp_region rfl (.n (fun _ => op_move (.plain rfl)) (.n (fun _ => op_move (.plain rfl)) (.n (fun _ => op_slit (pp := [(0, _)]) (α := Int) (d := 0) (f := (fun n => [.int .i64 n])) [_] ety24 rfl ⟨rfl, (.plain rfl), (by simp), trivial⟩ rfl (by decide) rfl) (.e (op_append (id' := 118) (α := Int) (d := 0) (f := (fun n => [.int .i64 n])) ety24 Try.underlying24 (fun _ => rfl) (fun _ => rfl) (.plain rfl) rfl (.plain rfl) rfl ?_) rfl (.n (fun _ => op_assign (.plain rfl)) (.nil _)))))) ?_
                    · first | omega | (simp; omega)
                    refine awp_region rfl (.n (fun _ => op_move (.plain rfl)) (.n (fun _ => op_add (.plain rfl) (.plain rfl) ?_) (.n (fun _ => op_assign (.plain rfl)) (.nil _)))) ?_
                    · unfold InR; omega
                    exact ⟨k + 1, by omega, by dsimp only; omega, (Ent.round 118 1010 ⟨rfl, rfl, rfl, rfl, rfl, rfl, trivial⟩ ⟨rfl, (congrArg (fun l => some (Blk.arr 3 1 Int 0 (fun n => [.int .i64 n]) l)) (env_snoc (by first | exact env0 h3 | exact env2 h3 h2 | exact env1 h3 h2 h1 | exact env00 h3 h2 h1))), trivial⟩ rfl rfl rfl ⟨rfl, rfl, rfl, rfl, rfl, rfl, trivial⟩ ⟨rfl, rfl, trivial⟩)⟩
                  · try simp only [decide_eq_true_eq, decide_eq_false_iff_not, Bool.and_eq_true, Bool.or_eq_true, Bool.and_eq_false_iff, Bool.or_eq_false_iff, Bool.not_eq_true', Bool.not_eq_false', Bool.not_eq_true, Bool.not_eq_false, Bool.true_eq_false, Bool.false_eq_true] at h
                    have h3 := h
                    refine awp_skip ?_
                    refine awp_region rfl (.n (fun _ => op_move (.plain rfl)) (.n (fun _ => op_move (.plain rfl)) (.n (fun _ => op_slit (pp := [(0, _)]) (α := Int) (d := 0) (f := (fun n => [.int .i64 n])) [_] ety24 rfl ⟨rfl, (.plain rfl), (by simp), trivial⟩ rfl (by decide) rfl) (.e (op_append (id' := 118) (α := Int) (d := 0) (f := (fun n => [.int .i64 n])) ety24 Try.underlying24 (fun _ => rfl) (fun _ => rfl) (.plain rfl) rfl (.plain rfl) rfl ?_) rfl (.n (fun _ => op_assign (.plain rfl)) (.nil _)))))) ?_
                    · first | omega | (simp; omega)
                    refine awp_region rfl (.n (fun _ => op_move (.plain rfl)) (.n (fun _ => op_add (.plain rfl) (.plain rfl) ?_) (.n (fun _ => op_assign (.plain rfl)) (.nil _)))) ?_
                    · unfold InR; omega
                    exact ⟨k + 1, by omega, by dsimp only; omega, (Ent.round 118 1010 ⟨rfl, rfl, rfl, rfl, rfl, rfl, trivial⟩ ⟨rfl, (congrArg (fun l => some (Blk.arr 3 1 Int 0 (fun n => [.int .i64 n]) l)) (env_snoc (by first | exact env0 h3 | exact env2 h3 h2 | exact env1 h3 h2 h1 | exact env00 h3 h2 h1))), trivial⟩ rfl rfl rfl ⟨rfl, rfl, rfl, rfl, rfl, rfl, trivial⟩ ⟨rfl, rfl, trivial⟩)⟩
                · try simp only [decide_eq_true_eq, decide_eq_false_iff_not, Bool.and_eq_true, Bool.or_eq_true, Bool.and_eq_false_iff, Bool.or_eq_false_iff, Bool.not_eq_true', Bool.not_eq_false', Bool.not_eq_true, Bool.not_eq_false, Bool.true_eq_false, Bool.false_eq_true] at h
                  have h2 := h
                  refine awp_skip ?_
                  refine awp_seq ?_
                  refine awp_seq ?_
                  refine awp_region rfl (.n (fun _ => op_move (.plain rfl)) (.n (fun _ => op_move (.plain rfl)) (.n (fun _ => op_eql (.plain rfl) (.plain rfl)) (.nil _)))) ?_
                  refine awp_cond rfl (fun h => ?_) (fun h => ?_)
                  · try simp only [decide_eq_true_eq, decide_eq_false_iff_not, Bool.and_eq_true, Bool.or_eq_true, Bool.and_eq_false_iff, Bool.or_eq_false_iff, Bool.not_eq_true', Bool.not_eq_false', Bool.not_eq_true, Bool.not_eq_false, Bool.true_eq_false, Bool.false_eq_true] at h
                    have h3 := h
                    refine awp_region rfl (.n (fun _ => op_assign (.plain rfl)) (.nil _)) ?_
                    refine awp_region rfl (.n (fun _ => op_move (.plain rfl)) (.n (fun _ => op_move (.plain rfl)) (.n (fun _ => op_slit (pp := [(0, _)]) (α := Int) (d := 0) (f := (fun n => [.int .i64 n])) [_] ety24 rfl ⟨rfl, (.plain rfl), (by simp), trivial⟩ rfl (by decide) rfl) (.e (op_append (id' := 118) (α := Int) (d := 0) (f := (fun n => [.int .i64 n])) ety24 Try.underlying24 (fun _ => rfl) (fun _ => rfl) (.plain rfl) rfl (.plain rfl) rfl ?_) rfl (.n (fun _ => op_assign (.plain rfl)) (.nil _)))))) ?_
                    · first | omega | (simp; omega)
                    refine awp_region rfl (.n (fun _ => op_move (.plain rfl)) (.n (fun _ => op_add (.plain rfl) (.plain rfl) ?_) (.n (fun _ => op_assign (.plain rfl)) (.nil _)))) ?_
                    · unfold InR; omega
                    exact ⟨k + 1, by omega, by dsimp only; omega, (Ent.round 118 1010 ⟨rfl, rfl, rfl, rfl, rfl, rfl, trivial⟩ ⟨rfl, (congrArg (fun l => some (Blk.arr 3 1 Int 0 (fun n => [.int .i64 n]) l)) (env_snoc (by first | exact env0 h3 | exact env2 h3 h2 | exact env1 h3 h2 h1 | exact env00 h3 h2 h1))), trivial⟩ rfl rfl rfl ⟨rfl, rfl, rfl, rfl, rfl, rfl, trivial⟩ ⟨rfl, rfl, trivial⟩)⟩
                  · try simp only [decide_eq_true_eq, decide_eq_false_iff_not, Bool.and_eq_true, Bool.or_eq_true, Bool.and_eq_false_iff, Bool.or_eq_false_iff, Bool.not_eq_true', Bool.not_eq_false', Bool.not_eq_true, Bool.not_eq_false, Bool.true_eq_false, Bool.false_eq_true] at h
                    have h3 := h
                    refine awp_skip ?_
                    refine awp_region rfl (.n (fun _ => op_move (.plain rfl)) (.n (fun _ => op_move (.plain rfl)) (.n (fun _ => op_slit (pp := [(0, _)]) (α := Int) (d := 0) (f := (fun n => [.int .i64 n])) [_] ety24 rfl ⟨rfl, (.plain rfl), (by simp), trivial⟩ rfl (by decide) rfl) (.e (op_append (id' := 118) (α := Int) (d := 0) (f := (fun n => [.int .i64 n])) ety24 Try.underlying24 (fun _ => rfl) (fun _ => rfl) (.plain rfl) rfl (.plain rfl) rfl ?_) rfl (.n (fun _ => op_assign (.plain rfl)) (.nil _)))))) ?_
                    · first | omega | (simp; omega)
                    refine awp_region rfl (.n (fun _ => op_move (.plain rfl)) (.n (fun _ => op_add (.plain rfl) (.plain rfl) ?_) (.n (fun _ => op_assign (.plain rfl)) (.nil _)))) ?_
                    · unfold InR; omega
                    exact ⟨k + 1, by omega, by dsimp only; omega, (Ent.round 118 1010 ⟨rfl, rfl, rfl, rfl, rfl, rfl, trivial⟩ ⟨rfl, (congrArg (fun l => some (Blk.arr 3 1 Int 0 (fun n => [.int .i64 n]) l)) (env_snoc (by first | exact env0 h3 | exact env2 h3 h2 | exact env1 h3 h2 h1 | exact env00 h3 h2 h1))), trivial⟩ rfl rfl rfl ⟨rfl, rfl, rfl, rfl, rfl, rfl, trivial⟩ ⟨rfl, rfl, trivial⟩)⟩
              · try simp only [decide_eq_true_eq, decide_eq_false_iff_not, Bool.and_eq_true, Bool.or_eq_true, Bool.and_eq_false_iff, Bool.or_eq_false_iff, Bool.not_eq_true', Bool.not_eq_false', Bool.not_eq_true, Bool.not_eq_false, Bool.true_eq_false, Bool.false_eq_true] at h
                have h1 := h
                refine awp_skip ?_
                refine awp_seq ?_
                refine awp_seq ?_
                refine awp_region rfl (.n (fun _ => op_move (.plain rfl)) (.n (fun _ => op_move (.plain rfl)) (.n (fun _ => op_gtr (.plain rfl) (.plain rfl)) (.nil _)))) ?_
                refine awp_cond rfl (fun h => ?_) (fun h => ?_)
                · try simp only [decide_eq_true_eq, decide_eq_false_iff_not, Bool.and_eq_true, Bool.or_eq_true, Bool.and_eq_false_iff, Bool.or_eq_false_iff, Bool.not_eq_true', Bool.not_eq_false', Bool.not_eq_true, Bool.not_eq_false, Bool.true_eq_false, Bool.false_eq_true] at h
                  have h2 := h
                  refine awp_region rfl (.n (fun _ => op_assign (.plain rfl)) (.nil _)) ?_
                  refine awp_seq ?_
                  refine awp_seq ?_
                  refine awp_region rfl (.n (fun _ => op_move (.plain rfl)) (.n (fun _ => op_move (.plain rfl)) (.n (fun _ => op_eql (.plain rfl) (.plain rfl)) (.nil _)))) ?_
                  refine awp_cond rfl (fun h => ?_) (fun h => ?_)
                  · try simp only [decide_eq_true_eq, decide_eq_false_iff_not, Bool.and_eq_true, Bool.or_eq_true, Bool.and_eq_false_iff, Bool.or_eq_false_iff, Bool.not_eq_true', Bool.not_eq_false', Bool.not_eq_true, Bool.not_eq_false, Bool.true_eq_false, Bool.false_eq_true] at h
                    have h3 := h
                    refine awp_region rfl (.n (fun _ => op_assign (.plain rfl)) (.nil _)) ?_
                    refine awp_region rfl (.n (fun _ => op_move (.plain rfl)) (.n (fun _ => op_move (.plain rfl)) (.n (fun _ => op_slit (pp := [(0, _)]) (α := Int) (d := 0) (f := (fun n => [.int .i64 n])) [_] ety24 rfl ⟨rfl, (.plain rfl), (by simp), trivial⟩ rfl (by decide) rfl) (.e (op_append (id' := 118) (α := Int) (d := 0) (f := (fun n => [.int .i64 n])) ety24 Try.underlying24 (fun _ => rfl) (fun _ => rfl) (.plain rfl) rfl (.plain rfl) rfl ?_) rfl (.n (fun _ => op_assign (.plain rfl)) (.nil _)))))) ?_
                    · first | omega | (simp; omega)
                    refine awp_region rfl (.n (fun _ => op_move (.plain rfl)) (.n (fun _ => op_add (.plain rfl) (.plain rfl) ?_) (.n (fun _ => op_assign (.plain rfl)) (.nil _)))) ?_
                    · unfold InR; omega
                    exact ⟨k + 1, by omega, by dsimp only; omega, (Ent.round 118 1010 ⟨rfl, rfl, rfl, rfl, rfl, rfl, trivial⟩ ⟨rfl, (congrArg (fun l => some (Blk.arr 3 1 Int 0 (fun n => [.int .i64 n]) l)) (env_snoc (by first | exact env0 h3 | exact env2 h3 h2 | exact env1 h3 h2 h1 | exact env00 h3 h2 h1))), trivial⟩ rfl rfl rfl ⟨rfl, rfl, rfl, rfl, rfl, rfl, trivial⟩ ⟨rfl, rfl, trivial⟩)⟩
                  · try simp only [decide_eq_true_eq, decide_eq_false_iff_not, Bool.and_eq_true, Bool.or_eq_true, Bool.and_eq_false_iff, Bool.or_eq_false_iff, Bool.not_eq_true', Bool.not_eq_false', Bool.not_eq_true, Bool.not_eq_false, Bool.true_eq_false, Bool.false_eq_true] at h
                    have h3 := h
                    refine awp_skip ?_
                    refine awp_region rfl (.n (fun _ => op_move (.plain rfl)) (.n (fun _ => op_move (.plain rfl)) (.n (fun _ => op_slit (pp := [(0, _)]) (α := Int) (d := 0) (f := (fun n => [.int .i64 n])) [_] ety24 rfl ⟨rfl, (.plain rfl), (by simp), trivial⟩ rfl (by decide) rfl) (.e (op_append (id' := 118) (α := Int) (d := 0) (f := (fun n => [.int .i64 n])) ety24 Try.underlying24 (fun _ => rfl) (fun _ => rfl) (.plain rfl) rfl (.plain rfl) rfl ?_) rfl (.n (fun _ => op_assign (.plain rfl)) (.nil _)))))) ?_
                    · first | omega | (simp; omega)
                    refine awp_region rfl (.n (fun _ => op_move (.plain rfl)) (.n (fun _ => op_add (.plain rfl) (.plain rfl) ?_) (.n (fun _ => op_assign (.plain rfl)) (.nil _)))) ?_
                    · unfold InR; omega
                    exact ⟨k + 1, by omega, by dsimp only; omega, (Ent.round 118 1010 ⟨rfl, rfl, rfl, rfl, rfl, rfl, trivial⟩ ⟨rfl, (congrArg (fun l => some (Blk.arr 3 1 Int 0 (fun n => [.int .i64 n]) l)) (env_snoc (by first | exact env0 h3 | exact env2 h3 h2 | exact env1 h3 h2 h1 | exact env00 h3 h2 h1))), trivial⟩ rfl rfl rfl ⟨rfl, rfl, rfl, rfl, rfl, rfl, trivial⟩ ⟨rfl, rfl, trivial⟩)⟩
                · try simp only [decide_eq_true_eq, decide_eq_false_iff_not, Bool.and_eq_true, Bool.or_eq_true, Bool.and_eq_false_iff, Bool.or_eq_false_iff, Bool.not_eq_true', Bool.not_eq_false', Bool.not_eq_true, Bool.not_eq_false, Bool.true_eq_false, Bool.false_eq_true] at h
                  have h2 := h
                  refine awp_skip ?_
                  refine awp_seq ?_
                  refine awp_seq ?_
                  refine awp_region rfl (.n (fun _ => op_move (.plain rfl)) (.n (fun _ => op_move (.plain rfl)) (.n (fun _ => op_eql (.plain rfl) (.plain rfl)) (.nil _)))) ?_
                  refine awp_cond rfl (fun h => ?_) (fun h => ?_)
                  · try simp only [decide_eq_true_eq, decide_eq_false_iff_not, Bool.and_eq_true, Bool.or_eq_true, Bool.and_eq_false_iff, Bool.or_eq_false_iff, Bool.not_eq_true', Bool.not_eq_false', Bool.not_eq_true, Bool.not_eq_false, Bool.true_eq_false, Bool.false_eq_true] at h
                    have h3 := h
                    refine awp_region rfl (.n (fun _ => op_assign (.plain rfl)) (.nil _)) ?_
                    refine awp_region rfl (.n (fun _ => op_move (.plain rfl)) (.n (fun _ => op_move (.plain rfl)) (.n (fun _ => op_slit (pp := [(0, _)]) (α := Int) (d := 0) (f := (fun n => [.int .i64 n])) [_] ety24 rfl ⟨rfl, (.plain rfl), (by simp), trivial⟩ rfl (by decide) rfl) (.e (op_append (id' := 118) (α := Int) (d := 0) (f := (fun n => [.int .i64 n])) ety24 Try.underlying24 (fun _ => rfl) (fun _ => rfl) (.plain rfl) rfl (.plain rfl) rfl ?_) rfl (.n (fun _ => op_assign (.plain rfl)) (.nil _)))))) ?_
                    · first | omega | (simp; omega)
                    refine awp_region rfl (.n (fun _ => op_move (.plain rfl)) (.n (fun _ => op_add (.plain rfl) (.plain rfl) ?_) (.n (fun _ => op_assign (.plain rfl)) (.nil _)))) ?_
                    · unfold InR; omega
                    exact ⟨k + 1, by omega, by dsimp only; omega, (Ent.round 118 1010 ⟨rfl, rfl, rfl, rfl, rfl, rfl, trivial⟩ ⟨rfl, (congrArg (fun l => some (Blk.arr 3 1 Int 0 (fun n => [.int .i64 n]) l)) (env_snoc (by first | exact env0 h3 | exact env2 h3 h2 | exact env1 h3 h2 h1 | exact env00 h3 h2 h1))), trivial⟩ rfl rfl rfl ⟨rfl, rfl, rfl, rfl, rfl, rfl, trivial⟩ ⟨rfl, rfl, trivial⟩)⟩
                  · try simp only [decide_eq_true_eq, decide_eq_false_iff_not, Bool.and_eq_true, Bool.or_eq_true, Bool.and_eq_false_iff, Bool.or_eq_false_iff, Bool.not_eq_true', Bool.not_eq_false', Bool.not_eq_true, Bool.not_eq_false, Bool.true_eq_false, Bool.false_eq_true] at h
                    have h3 := h
                    refine awp_skip ?_
                    refine awp_region rfl (.n (fun _ => op_move (.plain rfl)) (.n (fun _ => op_move (.plain rfl)) (.n (fun _ => op_slit (pp := [(0, _)]) (α := Int) (d := 0) (f := (fun n => [.int .i64 n])) [_] ety24 rfl ⟨rfl, (.plain rfl), (by simp), trivial⟩ rfl (by decide) rfl) (.e (op_append (id' := 118) (α := Int) (d := 0) (f := (fun n => [.int .i64 n])) ety24 Try.underlying24 (fun _ => rfl) (fun _ => rfl) (.plain rfl) rfl (.plain rfl) rfl ?_) rfl (.n (fun _ => op_assign (.plain rfl)) (.nil _)))))) ?_
                    · first | omega | (simp; omega)
                    refine awp_region rfl (.n (fun _ => op_move (.plain rfl)) (.n (fun _ => op_add (.plain rfl) (.plain rfl) ?_) (.n (fun _ => op_assign (.plain rfl)) (.nil _)))) ?_
                    · unfold InR; omega
                    exact ⟨k + 1, by omega, by dsimp only; omega, (Ent.round 118 1010 ⟨rfl, rfl, rfl, rfl, rfl, rfl, trivial⟩ ⟨rfl, (congrArg (fun l => some (Blk.arr 3 1 Int 0 (fun n => [.int .i64 n]) l)) (env_snoc (by first | exact env0 h3 | exact env2 h3 h2 | exact env1 h3 h2 h1 | exact env00 h3 h2 h1))), trivial⟩ rfl rfl rfl ⟨rfl, rfl, rfl, rfl, rfl, rfl, trivial⟩ ⟨rfl, rfl, trivial⟩)⟩
          · try simp only [decide_eq_true_eq, decide_eq_false_iff_not, Bool.and_eq_true, Bool.or_eq_true, Bool.and_eq_false_iff, Bool.or_eq_false_iff, Bool.not_eq_true', Bool.not_eq_false', Bool.not_eq_true, Bool.not_eq_false, Bool.true_eq_false, Bool.false_eq_true] at h
            refine awp_exit ?_
            obtain rfl : k = v.length := by omega
            refine awp_ent (Ent.give 10 rfl rfl) ?_
            refine awp_region rfl (.n (fun _ => op_move (.plain rfl)) (.n (fun _ => op_move (.plain rfl)) (.n (fun _ => op_slit (pp := [(0, _)]) (α := (List Int)) (d := []) (f := (fun r => [.seq Int 0 (fun n => [.int .i64 n]) r])) [_] ety22 rfl ⟨rfl, (.plain rfl), (by simp), trivial⟩ rfl (by decide) rfl) (.e (op_append (id' := 122) (α := (List Int)) (d := []) (f := (fun r => [.seq Int 0 (fun n => [.int .i64 n]) r])) ety22 Try.underlying22 (fun _ => rfl) (fun _ => rfl) (.plain rfl) rfl (.plain rfl) rfl ?_) rfl (.n (fun _ => op_assign (.plain rfl)) (.nil _)))))) ?_
            · first | omega | (simp; omega)
            refine awp_region rfl (.n (fun _ => op_move (.plain rfl)) (.n (fun _ => op_add (.plain rfl) (.plain rfl) ?_) (.n (fun _ => op_assign (.plain rfl)) (.nil _)))) ?_
            · unfold InR; omega
            exact ⟨i + 1, by omega, by dsimp only; omega, (Ent.round 122 1008 ⟨rfl, rfl, rfl, rfl, trivial⟩ ⟨(congrArg (fun l => some (Blk.arr 24 1 (List Int) [] (fun r => [.seq Int 0 (fun n => [.int .i64 n]) r]) l)) ((mapr_succ i fun i => mapr v.length fun k => envF v give i k).symm)), trivial⟩ rfl rfl rfl ⟨rfl, rfl, rfl, rfl, trivial⟩ ⟨rfl, trivial⟩)⟩
        · try simp only [decide_eq_true_eq, decide_eq_false_iff_not, Bool.and_eq_true, Bool.or_eq_true, Bool.and_eq_false_iff, Bool.or_eq_false_iff, Bool.not_eq_true', Bool.not_eq_false', Bool.not_eq_true, Bool.not_eq_false, Bool.true_eq_false, Bool.false_eq_true] at h
          refine awp_exit ?_
          refine awp_seq ?_
          refine awp_region rfl (.n (fun _ => op_move (.plain rfl)) (.n (fun _ => op_assign (.plain rfl)) (.n (fun _ => op_assign (.plain rfl)) (.nil _)))) ?_
          refine awp_ret ?_
          refine retQ.ret ?_
          refine ret2 rfl rfl rfl rfl rfl ?_
          obtain rfl : i = v.length := by omega
          rfl

theorem ShareCircles_fc (v : List (List Int)) : FC Try.prog 3 [.rows v] (.bool true) := by
  refine FC.intro Try.func3 rfl (Nat.le_of_ble_eq_true rfl) fun hfit => ?_
  obtain ⟨fitl0, fitr0⟩ := (hfit _ (.head _)).rows
  refine awp_seq ?_
  refine awp_region rfl (.n (fun _ => op_assign (.plain rfl)) (.nil _)) ?_
  refine awp_seq ?_
  refine awp_seq ?_
  refine awp_region rfl (.n (fun _ => op_move (.plain rfl)) (.n (fun _ => op_call1 Try.call6 (.plain rfl) (heavy_fc _)) (.nil _))) ?_
  refine awp_cond rfl (fun h => ?_) (fun h => ?_)
  · try simp only [decide_eq_true_eq, decide_eq_false_iff_not, Bool.and_eq_true, Bool.or_eq_true, Bool.and_eq_false_iff, Bool.or_eq_false_iff, Bool.not_eq_true', Bool.not_eq_false', Bool.not_eq_true, Bool.not_eq_false, Bool.true_eq_false, Bool.false_eq_true] at h
    refine awp_seq ?_
    refine awp_region rfl (.n (fun _ => op_assign (.plain rfl)) (.nil _)) ?_
    refine awp_ret ?_
    refine retQ.ret ?_
    refine ret1 rfl rfl rfl ?_
    rfl
  · try simp only [decide_eq_true_eq, decide_eq_false_iff_not, Bool.and_eq_true, Bool.or_eq_true, Bool.and_eq_false_iff, Bool.or_eq_false_iff, Bool.not_eq_true', Bool.not_eq_false', Bool.not_eq_true, Bool.not_eq_false, Bool.true_eq_false, Bool.false_eq_true] at h
    refine awp_skip ?_
    refine awp_seq ?_
    refine awp_region rfl (.n (fun _ => op_move (.plain rfl)) (.n (fun _ => op_call1 Try.call7 (.plain rfl) (Circles_fc _)) (.n (fun _ => op_move (.plain rfl)) (.n (fun _ => op_extract (.plain rfl) rfl) (.n (fun _ => op_extract (.plain rfl) rfl) (.n (fun _ => op_assign (.plain rfl)) (.n (fun _ => op_assign (.plain rfl)) (.nil _)))))))) ?_
    refine awp_seq ?_
    refine awp_region rfl (.n (fun _ => op_move (.plain rfl)) (.n (fun _ => op_call1 Try.call8 (.plain rfl) (ShareMay_fc _)) (.n (fun _ => op_assign (.plain rfl)) (.nil _)))) ?_
    refine awp_seq ?_
    refine awp_seq ?_
    refine awp_region rfl (.n (fun _ => op_move (.plain rfl)) (.n (fun _ => op_neq (.plain rfl) (.plain rfl)) (.nil _))) ?_
    refine awp_cond rfl (fun h => ?_) (fun h => ?_)
    · try simp only [decide_eq_true_eq, decide_eq_false_iff_not, Bool.and_eq_true, Bool.or_eq_true, Bool.and_eq_false_iff, Bool.or_eq_false_iff, Bool.not_eq_true', Bool.not_eq_false', Bool.not_eq_true, Bool.not_eq_false, Bool.true_eq_false, Bool.false_eq_true] at h
      refine awp_seq ?_
      refine awp_region rfl (.n (fun _ => op_move (.plain rfl)) (.n (fun _ => op_move (.plain rfl)) (.n (fun _ => op_eql (.plain rfl) (.plain rfl)) (.n (fun _ => op_move (.plain rfl)) (.gn rfl rfl (fun hg _ => op_move (.plain rfl)) (.gn rfl rfl (fun hg _ => op_len (s := 0) Try.underlying24 (.opt rfl fun h => h)) (.gn rfl rfl (fun hg _ => op_eql (.opt rfl fun h => h) (.plain rfl)) (.n (fun _ => op_and (.plain rfl) (.plain rfl) (.plain rfl) (fun h => eqT h)) (.n (fun _ => op_assign (.plain rfl)) (.nil _)))))))))) ?_
      refine awp_ret ?_
      refine retQ.ret ?_
      refine ret1 rfl rfl rfl ?_
      simp [circF, h]
    · try simp only [decide_eq_true_eq, decide_eq_false_iff_not, Bool.and_eq_true, Bool.or_eq_true, Bool.and_eq_false_iff, Bool.or_eq_false_iff, Bool.not_eq_true', Bool.not_eq_false', Bool.not_eq_true, Bool.not_eq_false, Bool.true_eq_false, Bool.false_eq_true] at h
      have hM := h
      have hV := val_of hM
      have hn4 := hV.n4
      have hC := circ_good hV (mL v) (Nat.le_refl _)
      have hcF : circF v = circTo v (mL v) := if_neg (fun c => c hM)
      have hg : (circF v).length = mL v := by rw [hcF]; exact hC.len
      have hd : ∀ j, j < mL v → 0 ≤ (circF v).getD j 0 ∧ (circF v).getD j 0 < (v.length : Int) := by rw [hcF]; exact hC.done
      have hin : ∀ j, j < (circF v).length → -1 ≤ (circF v).getD j 0 ∧ (circF v).getD j 0 < (v.length : Int) := fun j hj => by have := hd j (by omega); omega
      have hef : EF1 v (circF v) := by rw [hcF]; exact hC.ef1
      have hel : (envT v (circF v)).length = v.length := by simp [envT]
      refine awp_skip ?_
      refine awp_seq ?_
      refine awp_region rfl (.n (fun _ => op_move (.plain rfl)) (.n (fun _ => op_move (.plain rfl)) (.n (fun _ => op_call2 Try.call9 (.plain rfl) (.plain rfl) (Envy_fc _ _ ?_ ?_ ?_ ?_)) (.n (fun _ => op_move (.plain rfl)) (.n (fun _ => op_extract (.plain rfl) rfl) (.n (fun _ => op_extract (.plain rfl) rfl) (.n (fun _ => op_assign (.plain rfl)) (.n (fun _ => op_assign (.plain rfl)) (.nil _))))))))) ?_
      · assumption
      · assumption
      · assumption
      · assumption
      refine awp_seq ?_
      refine awp_seq ?_
      refine awp_region rfl (.n (fun _ => op_move (.plain rfl)) (.n (fun _ => op_neq (.plain rfl) (.plain rfl)) (.n (fun _ => op_move (.plain rfl)) (.gn rfl rfl (fun hg _ => op_move (.plain rfl)) (.gn rfl rfl (fun hg _ => op_neq (.opt rfl fun h => h) (.plain rfl)) (.n (fun _ => op_or (.plain rfl) (.plain rfl) (.plain rfl) (fun h => eqF h)) (.n (fun _ => op_move (.plain rfl)) (.gn rfl rfl (fun hg _ => op_move (.plain rfl)) (.gn rfl rfl (fun hg _ => op_call2 Try.call10 (.plain rfl) (.opt rfl fun h => h) (In_fc _ _)) (.n (fun _ => op_or (.plain rfl) (.plain rfl) (.plain rfl) (fun h => eqF h)) (.nil _))))))))))) ?_
      refine awp_cond rfl (fun h => ?_) (fun h => ?_)
      · try simp only [decide_eq_true_eq, decide_eq_false_iff_not, Bool.and_eq_true, Bool.or_eq_true, Bool.and_eq_false_iff, Bool.or_eq_false_iff, Bool.not_eq_true', Bool.not_eq_false', Bool.not_eq_true, Bool.not_eq_false, Bool.true_eq_false, Bool.false_eq_true] at h
        exfalso
        have h' : 0 ≤ placeF (circF v) (-1) := by simpa [hM] using h
        obtain ⟨j, hj, e⟩ := mem_at (place_mem.1 h')
        have := hd j (by omega)
        omega
      · try simp only [decide_eq_true_eq, decide_eq_false_iff_not, Bool.and_eq_true, Bool.or_eq_true, Bool.and_eq_false_iff, Bool.or_eq_false_iff, Bool.not_eq_true', Bool.not_eq_false', Bool.not_eq_true, Bool.not_eq_false, Bool.true_eq_false, Bool.false_eq_true] at h
        refine awp_skip ?_
        refine awp_seq ?_
        refine awp_seq ?_
        refine awp_region rfl (.n (fun _ => op_assign (.plain rfl)) (.nil _)) ?_
        refine awp_block ?_
        refine awp_loop (σ := Nat) (fun (i : Nat) => i ≤ (envT v (circF v)).length) (fun (i : Nat) => ⟨[(6, .pv (.rows (envT v (circF v)))), (8, .int (i : Nat))], []⟩) (fun (i : Nat) => (envT v (circF v)).length - i) 0 ?_ (Ent.kept ⟨rfl, rfl, trivial⟩ trivial) ?_
        · exact Nat.zero_le _
        rintro i hp
        try dsimp only at hp
        have hi := hp
        refine awp_seq ?_
        refine awp_seq ?_
        refine awp_region rfl (.n (fun _ => op_move (.plain rfl)) (.n (fun _ => op_move (.plain rfl)) (.n (fun _ => op_len (s := 0) Try.underlying22 (.plain rfl)) (.n (fun _ => op_lss (.plain rfl) (.plain rfl)) (.nil _))))) ?_
        refine awp_cond rfl (fun h => ?_) (fun h => ?_)
        · try simp only [decide_eq_true_eq, decide_eq_false_iff_not, Bool.and_eq_true, Bool.or_eq_true, Bool.and_eq_false_iff, Bool.or_eq_false_iff, Bool.not_eq_true', Bool.not_eq_false', Bool.not_eq_true, Bool.not_eq_false, Bool.true_eq_false, Bool.false_eq_true] at h
          refine awp_skip ?_
          refine awp_seq ?_
          refine awp_block ?_
          refine awp_seq ?_
          refine awp_region rfl (.n (fun _ => op_move (.plain rfl)) (.n (fun _ => op_move (.plain rfl)) (.n (fun _ => op_indexAddrN Try.underlying22 Try.sizeOf24 (.plain rfl) (.plain rfl) (fun _ => rfl) ?_) (.n (fun _ => op_load Try.isAgg24 (.plain rfl)) (.n (fun _ => op_call2 Try.call10 (.plain rfl) (.plain rfl) (In_fc _ _)) (.nil _)))))) ?_
          · omega
          refine awp_cond rfl (fun h => ?_) (fun h => ?_)
          · try simp only [decide_eq_true_eq, decide_eq_false_iff_not, Bool.and_eq_true, Bool.or_eq_true, Bool.and_eq_false_iff, Bool.or_eq_false_iff, Bool.not_eq_true', Bool.not_eq_false', Bool.not_eq_true, Bool.not_eq_false, Bool.true_eq_false, Bool.false_eq_true] at h
            exfalso
            obtain ⟨j, hj, e⟩ := mem_at (place_mem.1 h)
            have hil : i < v.length := by omega
            unfold envT at hj e
            rw [mapr_getD [] hil] at hj e
            rw [mapr_length] at hj
            rw [mapr_getD 0 hj] at e
            exact envF_ne2 hef hil hj e
          · try simp only [decide_eq_true_eq, decide_eq_false_iff_not, Bool.and_eq_true, Bool.or_eq_true, Bool.and_eq_false_iff, Bool.or_eq_false_iff, Bool.not_eq_true', Bool.not_eq_false', Bool.not_eq_true, Bool.not_eq_false, Bool.true_eq_false, Bool.false_eq_true] at h
            refine awp_skip ?_
            refine awp_region rfl (.n (fun _ => op_move (.plain rfl)) (.n (fun _ => op_add (.plain rfl) (.plain rfl) ?_) (.n (fun _ => op_assign (.plain rfl)) (.nil _)))) ?_
            · unfold InR; omega
            exact ⟨i + 1, by omega, by dsimp only; omega, (Ent.kept ⟨rfl, rfl, trivial⟩ trivial)⟩
        · try simp only [decide_eq_true_eq, decide_eq_false_iff_not, Bool.and_eq_true, Bool.or_eq_true, Bool.and_eq_false_iff, Bool.or_eq_false_iff, Bool.not_eq_true', Bool.not_eq_false', Bool.not_eq_true, Bool.not_eq_false, Bool.true_eq_false, Bool.false_eq_true] at h
          refine awp_exit ?_
          refine awp_seq ?_
          refine awp_region rfl (.n (fun _ => op_assign (.plain rfl)) (.nil _)) ?_
          refine awp_ret ?_
          refine retQ.ret ?_
          refine ret1 rfl rfl rfl ?_
          rfl

end Go.Proofs.Ytfaeiglnhbllnaa

