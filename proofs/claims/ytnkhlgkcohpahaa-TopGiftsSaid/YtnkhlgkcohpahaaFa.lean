/- What SwapSays says, on plain values. Conditions: each theorem names its own. -/
import Derived.Test.YtnkhlgkcohpahaaProg
import Derived.Test.YtnkhlgkcohpahaaAbsI
namespace Go.Proofs.Ytnkhlgkcohpahaa
open Go.Abs
set_option linter.unusedVariables false
set_option linter.unusedSimpArgs false

theorem mixed : Try.prog.follows .mixedOrders = true := by kernel_rfl
theorem ety22 : ElemTy Try.prog 22 35 1 24 (.slice none 0 0) := ⟨Try.underlying22, ⟨Try.t35, by kernel_rfl, by kernel_rfl, by kernel_rfl, by kernel_rfl⟩, by kernel_rfl, by decide, by decide⟩
theorem ety35 : ElemTy Try.prog 35 3 1 8 (.int .i64 0) := ⟨Try.underlying35, ⟨Try.t3, by kernel_rfl, by kernel_rfl, by kernel_rfl, by kernel_rfl⟩, by kernel_rfl, by decide, by decide⟩


/-- How long all rows are together, with the rows themselves. -/
def heavyTo (l : List (List Int)) (k : Nat) : Nat := l.length + ((l.take k).map List.length).sum
def heavyF (l : List (List Int)) : Bool := decide (1024 < heavyTo l l.length)
theorem heavyTo_succ {l : List (List Int)} {k : Nat} (h : k < l.length) : heavyTo l (k + 1) = heavyTo l k + (l.getD k []).length := by
  unfold heavyTo
  rw [List.take_succ_eq_append_getElem h, List.map_append, List.sum_append]
  simp [h, Nat.add_assoc]
theorem heavyTo_le {l : List (List Int)} (k : Nat) : heavyTo l k ≤ heavyTo l l.length := by
  unfold heavyTo
  have := List.take_append_drop k l
  have h2 : ((l.take l.length).map List.length).sum = ((l.take k).map List.length).sum + ((l.drop k).map List.length).sum := by
    rw [List.take_length, ← List.sum_append, ← List.map_append, this]
  omega
theorem getD_mem {α : Type} {l : List α} {k : Nat} (d : α) (h : k < l.length) : l.getD k d ∈ l := by
  rw [List.getD_eq_getElem?_getD, List.getElem?_eq_getElem h]; exact List.getElem_mem h

theorem heavy_fc (l : List (List Int)) : FC Try.prog 6 [.rows l] (.bool (heavyF l)) := by
  refine FC.intro Try.func6 rfl (Nat.le_of_ble_eq_true rfl) fun hfit => ?_
  obtain ⟨fitl0, fitr0⟩ := (hfit _ (.head _)).rows
  refine awp_seq ?_
  refine awp_region rfl (.n (fun _ => op_assign (.plain rfl)) (.nil _)) ?_
  refine awp_seq ?_
  refine awp_region rfl (.n (fun _ => op_move (.plain rfl)) (.n (fun _ => op_len (s := 0) Try.underlying22 (.plain rfl)) (.n (fun _ => op_assign (.plain rfl)) (.nil _)))) ?_
  refine awp_seq ?_
  refine awp_seq ?_
  refine awp_region rfl (.n (fun _ => op_assign (.plain rfl)) (.nil _)) ?_
  refine awp_block ?_
  refine awp_loop (σ := Nat) (fun (k : Nat) => k ≤ l.length) (fun (k : Nat) => ⟨[(3, .int (heavyTo l k : Nat)), (4, .int (k : Nat)), (0, .pv (.rows l))], []⟩) (fun (k : Nat) => l.length - k) 0 ?_ (Ent.kept ⟨by simp [heavyTo]; rfl, rfl, rfl, trivial⟩ trivial) ?_
  · simp
  rintro k hp
  try dsimp only at hp
  refine awp_seq ?_
  refine awp_seq ?_
  refine awp_region rfl (.n (fun _ => op_move (.plain rfl)) (.n (fun _ => op_move (.plain rfl)) (.n (fun _ => op_len (s := 0) Try.underlying22 (.plain rfl)) (.n (fun _ => op_lss (.plain rfl) (.plain rfl)) (.n (fun _ => op_move (.plain rfl)) (.gn rfl rfl (fun hg _ => op_move (.plain rfl)) (.gn rfl rfl (fun hg _ => op_leq (.opt rfl fun h => h) (.plain rfl)) (.n (fun _ => op_and (.plain rfl) (.plain rfl) (.plain rfl) (fun h => eqT h)) (.nil _))))))))) ?_
  refine awp_cond rfl (fun h => ?_) (fun h => ?_)
  · try simp only [decide_eq_true_eq, decide_eq_false_iff_not, Bool.and_eq_true, Bool.or_eq_true, Bool.and_eq_false_iff, Bool.or_eq_false_iff, Bool.not_eq_true', Bool.not_eq_false', Bool.not_eq_true, Bool.not_eq_false, Bool.true_eq_false, Bool.false_eq_true] at h
    have hb := (fitr0 _ (getD_mem [] (show k < l.length by omega))).1
    refine awp_skip ?_
    refine awp_seq ?_
    refine awp_block ?_
    refine awp_region rfl (.n (fun _ => op_move (.plain rfl)) (.n (fun _ => op_move (.plain rfl)) (.n (fun _ => op_move (.plain rfl)) (.n (fun _ => op_indexAddrN Try.underlying22 Try.sizeOf35 (.plain rfl) (.plain rfl) (fun _ => rfl) ?_) (.n (fun _ => op_load Try.isAgg35 (.plain rfl)) (.n (fun _ => op_len (s := 0) Try.underlying35 (.plain rfl)) (.n (fun _ => op_add (.plain rfl) (.plain rfl) ?_) (.n (fun _ => op_assign (.plain rfl)) (.nil _))))))))) ?_
    · omega
    · unfold InR; omega
    refine awp_region rfl (.n (fun _ => op_move (.plain rfl)) (.n (fun _ => op_add (.plain rfl) (.plain rfl) ?_) (.n (fun _ => op_assign (.plain rfl)) (.nil _)))) ?_
    · unfold InR; omega
    refine ⟨k + 1, by omega, by dsimp only; omega, Ent.kept ⟨?_, rfl, rfl, trivial⟩ trivial⟩
    rw [heavyTo_succ (by omega)]; rfl
  · try simp only [decide_eq_true_eq, decide_eq_false_iff_not, Bool.and_eq_true, Bool.or_eq_true, Bool.and_eq_false_iff, Bool.or_eq_false_iff, Bool.not_eq_true', Bool.not_eq_false', Bool.not_eq_true, Bool.not_eq_false, Bool.true_eq_false, Bool.false_eq_true] at h
    refine awp_exit ?_
    refine awp_seq ?_
    refine awp_region rfl (.n (fun _ => op_move (.plain rfl)) (.n (fun _ => op_gtr (.plain rfl) (.plain rfl)) (.n (fun _ => op_assign (.plain rfl)) (.nil _)))) ?_
    refine awp_ret ?_
    refine retQ.ret ?_
    refine ret1 rfl rfl rfl ?_
    have := heavyTo_le (l := l) k
    unfold heavyF
    congr 1
    rw [Bool.eq_iff_iff]
    simp only [decide_eq_true_eq]
    rcases Nat.lt_or_ge k l.length with h1 | h1
    · omega
    · obtain rfl : k = l.length := by omega
      omega


/-- The first of n that is not 0. -/
def firstE (f : Nat → Int) : Nat → Int
  | 0 => 0
  | n + 1 => if firstE f n = 0 then f n else firstE f n
theorem firstE_succ {f : Nat → Int} {n : Nat} (h : firstE f n = 0) (h' : f n = 0) : firstE f (n + 1) = 0 := by simp [firstE, h, h']
theorem firstE_stop {f : Nat → Int} {k n : Nat} {c : Int} (h : firstE f k = 0) (hc : f k = c) (h0 : c ≠ 0) (hk : k < n) : firstE f n = c := by
  have h1 : firstE f (k + 1) = c := by simp [firstE, h, hc]
  have : ∀ d, firstE f (k + 1 + d) = c := by
    intro d
    induction d with
    | zero => exact h1
    | succ d ih => rw [← Nat.add_assoc, firstE, ih, if_neg h0]
  have := this (n - (k + 1))
  rwa [show k + 1 + (n - (k + 1)) = n by omega] at this
theorem firstE_zero {f : Nat → Int} : ∀ {n : Nat}, firstE f n = 0 → ∀ j, j < n → f j = 0
  | 0, _, j, hj => by omega
  | n + 1, h, j, hj => by
    simp only [firstE] at h
    split at h
    · rename_i h0
      by_cases e : j = n
      · subst e; exact h
      · exact firstE_zero h0 j (by omega)
    · rename_i h0; exact absurd h h0
theorem firstE_same {f g : Nat → Int} : ∀ {n : Nat}, (∀ j, j < n → f j = g j) → firstE f n = firstE g n
  | 0, _ => rfl
  | n + 1, h => by simp only [firstE, firstE_same (fun j hj => h j (by omega) : ∀ j, j < n → _), h n (by omega)]

def sumTo (f : Nat → Int) : Nat → Int
  | 0 => 0
  | n + 1 => sumTo f n + f n
theorem sumTo_bd {f : Nat → Int} {A B : Int} : ∀ {n : Nat}, (∀ j, j < n → A ≤ f j ∧ f j ≤ B) → n * A ≤ sumTo f n ∧ sumTo f n ≤ n * B
  | 0, _ => by simp [sumTo]
  | n + 1, h => by
    have h1 := sumTo_bd (fun j hj => h j (by omega) : ∀ j, j < n → _)
    have h2 := h n (by omega)
    simp only [sumTo, Int.natCast_succ, Int.add_mul]
    omega
theorem sumTo_same {f g : Nat → Int} : ∀ {n : Nat}, (∀ j, j < n → f j = g j) → sumTo f n = sumTo g n
  | 0, _ => rfl
  | n + 1, h => by simp only [sumTo, sumTo_same (fun j hj => h j (by omega) : ∀ j, j < n → _), h n (by omega)]

/-- n values by their places. -/
def mapr {α : Type} (n : Nat) (f : Nat → α) : List α := (List.range n).map f
@[simp] theorem mapr_length {α : Type} (n : Nat) (f : Nat → α) : (mapr n f).length = n := by simp [mapr]
theorem mapr_succ {α : Type} (n : Nat) (f : Nat → α) : mapr (n + 1) f = mapr n f ++ [f n] := by simp [mapr, List.range_succ]
theorem mapr_getD {α : Type} {n : Nat} {f : Nat → α} {i : Nat} (d : α) (h : i < n) : (mapr n f).getD i d = f i := by
  simp [mapr, List.getD_eq_getElem?_getD, h]
theorem mapr_same {α : Type} {n : Nat} {f g : Nat → α} (h : ∀ j, j < n → f j = g j) : mapr n f = mapr n g := by
  unfold mapr
  exact List.map_congr_left fun j hj => h j (List.mem_range.1 hj)
theorem mapr_set {α : Type} {n : Nat} {f g : Nat → α} {i : Nat} {v : α} (hv : i < n → g i = v) (h : ∀ j, j < n → j ≠ i → g j = f j) : (mapr n f).set i v = mapr n g := by
  refine List.ext_getElem (by simp) fun j h1 h2 => ?_
  rw [List.getElem_set]
  split
  · rename_i e; subst e; simp [mapr]; exact (hv (by simpa using h2)).symm
  · rename_i e; simp [mapr]; exact (h j (by simpa using h2) fun e' => e e'.symm).symm
theorem replicate_mapr {α : Type} (n : Nat) (a : α) : List.replicate n a = mapr n fun _ => a :=
  List.ext_getElem (by simp) fun j h1 h2 => by simp [mapr]

/-- The first of n places at which p holds. -/
def firstI (p : Nat → Bool) : Nat → Option Nat
  | 0 => none
  | n + 1 => match firstI p n with | some i => some i | none => if p n then some n else none
theorem firstI_succ {p : Nat → Bool} {n : Nat} (h : firstI p n = none) (h' : p n = false) : firstI p (n + 1) = none := by simp [firstI, h, h']
theorem firstI_stop {p : Nat → Bool} {k n : Nat} (h : firstI p k = none) (hc : p k = true) (hk : k < n) : firstI p n = some k := by
  have h1 : firstI p (k + 1) = some k := by simp [firstI, h, hc]
  have : ∀ d, firstI p (k + 1 + d) = some k := by
    intro d
    induction d with
    | zero => exact h1
    | succ d ih => rw [← Nat.add_assoc, firstI, ih]
  have := this (n - (k + 1))
  rwa [show k + 1 + (n - (k + 1)) = n by omega] at this
theorem firstI_none {p : Nat → Bool} : ∀ {n : Nat}, firstI p n = none → ∀ j, j < n → p j = false
  | n + 1, h, j, hj => by
    simp only [firstI] at h
    split at h
    · cases h
    · rename_i h0
      split at h
      · cases h
      · rename_i h1
        by_cases e : j = n
        · subst e; simpa using h1
        · exact firstI_none h0 j (by omega)
theorem firstI_spec {p : Nat → Bool} : ∀ {n i : Nat}, firstI p n = some i → i < n ∧ p i = true ∧ ∀ j, j < i → p j = false
  | n + 1, i, h => by
    simp only [firstI] at h
    split at h
    · rename_i k hk
      simp only [Option.some.injEq] at h
      subst h
      have := firstI_spec hk
      exact ⟨by omega, this.2⟩
    · rename_i hk
      split at h
      · rename_i hp
        simp only [Option.some.injEq] at h
        subst h
        exact ⟨by omega, hp, firstI_none hk⟩
      · cases h
theorem firstI_same {p q : Nat → Bool} : ∀ {n : Nat}, (∀ j, j < n → p j = q j) → firstI p n = firstI q n
  | 0, _ => rfl
  | n + 1, h => by simp only [firstI, firstI_same (fun j hj => h j (by omega) : ∀ j, j < n → _), h n (by omega)]

theorem two_pow_nat (k : Nat) : (1 : Int) ≤ 2 ^ k := by
  have : (0 : Int) < 2 ^ k := Int.pow_pos (by omega)
  omega
theorem two_pow_bd {k m : Nat} (h : k ≤ m) : (2 : Int) ^ k ≤ 2 ^ m := by
  have h1 : (2 : Nat) ^ k ≤ 2 ^ m := Nat.pow_le_pow_right (by omega) h
  have h2 : ((2 ^ k : Nat) : Int) = 2 ^ k := by simp
  have h3 : ((2 ^ m : Nat) : Int) = 2 ^ m := by simp
  omega

def placeF (l : List Int) (x : Int) : Int := match firstI (fun i => decide (l.getD i 0 = x)) l.length with | some i => (i : Int) | none => -1
theorem firstI_of {p : Nat → Bool} : ∀ {n : Nat}, (∀ j, j < n → p j = false) → firstI p n = none
  | 0, _ => rfl
  | n + 1, h => firstI_succ (firstI_of fun j hj => h j (by omega)) (h n (by omega))
theorem place_mem {l : List Int} {x : Int} : 0 ≤ placeF l x ↔ x ∈ l := by
  unfold placeF
  cases e : firstI (fun i => decide (l.getD i 0 = x)) l.length with
  | some i =>
    have h := firstI_spec e
    simp only [decide_eq_true_eq] at h
    refine ⟨fun _ => ?_, fun _ => by simp⟩
    rw [← h.2.1]; exact getD_mem 0 h.1
  | none =>
    have h := firstI_none e
    simp only [decide_eq_false_iff_not] at h
    refine ⟨fun c => absurd c (by simp), fun hm => ?_⟩
    obtain ⟨j, hj, hx⟩ := List.getElem_of_mem hm
    exact absurd (by rw [List.getD_eq_getElem?_getD, List.getElem?_eq_getElem hj]; exact hx) (h j hj)
def U (u : List Int) : List (Int × Int) := u.map fun k => (k, 1)
theorem U_snoc (u : List Int) (k : Int) : U u ++ [(k, 1)] = U (u ++ [k]) := by simp [U]
theorem lookup_U (k : Int) : ∀ u : List Int, List.lookup k (U u) = if k ∈ u then some 1 else none
  | [] => rfl
  | a :: u => by
    have ih := lookup_U k u
    unfold U at ih ⊢
    rw [List.map_cons, List.lookup_cons]
    by_cases e : k = a
    · subst e; simp
    · rw [beq_eq_false_iff_ne.2 e]; simp only [ih, List.mem_cons, e, false_or]
theorem mget_U {u : List Int} {k : Int} : 0 < mget (U u) k ↔ 0 ≤ placeF u k := by
  unfold mget
  rw [lookup_U, place_mem]
  by_cases h : k ∈ u <;> simp [h]
theorem lookup_U0 {u : List Int} {k : Int} (h : ¬ 0 < mget (U u) k) : List.lookup k (U u) = none := by
  rw [lookup_U, if_neg]
  rwa [mget_U, place_mem] at h
def lineB (F : List (List Int)) (l u : List Int) (i : Nat) : Int :=
  if l.getD i 0 < 0 ∨ (F.length : Int) ≤ l.getD i 0 then 8 else if 0 ≤ placeF (u ++ l.take i) (l.getD i 0) then 6 else if 0 < i ∧ ¬ 0 ≤ placeF (F.getD (l.getD (i - 1) 0).toNat []) (l.getD i 0) then 11 else 0
theorem lineB_8 {F : List (List Int)} {l u : List Int} {i : Nat} (h : l.getD i 0 < 0 ∨ (F.length : Int) ≤ l.getD i 0) : lineB F l u i = 8 := if_pos h
theorem lineB_6 {F : List (List Int)} {l u : List Int} {i : Nat} (h : ¬ (l.getD i 0 < 0 ∨ (F.length : Int) ≤ l.getD i 0)) (h6 : 0 ≤ placeF (u ++ l.take i) (l.getD i 0)) : lineB F l u i = 6 := by unfold lineB; rw [if_neg h, if_pos h6]
theorem lineB_11 {F : List (List Int)} {l u : List Int} {i : Nat} (h : ¬ (l.getD i 0 < 0 ∨ (F.length : Int) ≤ l.getD i 0)) (h6 : ¬ 0 ≤ placeF (u ++ l.take i) (l.getD i 0)) (hb : 0 < i ∧ ¬ 0 ≤ placeF (F.getD (l.getD (i - 1) 0).toNat []) (l.getD i 0)) : lineB F l u i = 11 := by unfold lineB; rw [if_neg h, if_neg h6, if_pos hb]
theorem lineB_0 {F : List (List Int)} {l u : List Int} {i : Nat} (h : ¬ (l.getD i 0 < 0 ∨ (F.length : Int) ≤ l.getD i 0)) (h6 : ¬ 0 ≤ placeF (u ++ l.take i) (l.getD i 0)) (hb : ¬ (0 < i ∧ ¬ 0 ≤ placeF (F.getD (l.getD (i - 1) 0).toNat []) (l.getD i 0))) : lineB F l u i = 0 := by unfold lineB; rw [if_neg h, if_neg h6, if_neg hb]
theorem lineB_in {F : List (List Int)} {l u : List Int} {i : Nat} (h : lineB F l u i = 0) : 0 ≤ l.getD i 0 ∧ l.getD i 0 < (F.length : Int) := by
  unfold lineB at h
  split at h
  · omega
  · omega
def lineE (F : List (List Int)) (l u : List Int) : Int := if (l.length : Int) < 2 then 7 else firstE (lineB F l u) l.length
def lineK (F : List (List Int)) (l u : List Int) : Nat := if (l.length : Int) < 2 then 0 else (firstI (fun i => decide (lineB F l u i ≠ 0)) l.length).getD l.length
theorem lineE_7 {F : List (List Int)} {l u : List Int} (h : (l.length : Int) < 2) : 7 = lineE F l u := (if_pos h).symm
theorem lineK_7 {F : List (List Int)} {l u : List Int} (h : (l.length : Int) < 2) : U u = U (u ++ l.take (lineK F l u)) := by unfold lineK; rw [if_pos h]; simp
theorem lineE_at {F : List (List Int)} {l u : List Int} {k : Nat} {c : Int} (h : ¬ (l.length : Int) < 2) (hE : firstE (lineB F l u) k = 0) (hk : (k : Int) < l.length) (hc : lineB F l u k = c) (h0 : c ≠ 0) : c = lineE F l u := by
  unfold lineE; rw [if_neg h]; exact (firstE_stop hE hc h0 (by omega)).symm
theorem lineK_at {F : List (List Int)} {l u : List Int} {k : Nat} {c : Int} (h : ¬ (l.length : Int) < 2) (hE : firstE (lineB F l u) k = 0) (hk : (k : Int) < l.length) (hc : lineB F l u k = c) (h0 : c ≠ 0) : U (u ++ l.take k) = U (u ++ l.take (lineK F l u)) := by
  unfold lineK
  rw [if_neg h, firstI_stop (k := k) (firstI_of fun j hj => by simp [firstE_zero hE j hj]) (by simp [hc, h0]) (by omega)]
  rfl
theorem lineE_ok {F : List (List Int)} {l u : List Int} {k : Nat} (h : ¬ (l.length : Int) < 2) (hk : k ≤ l.length) (hE : firstE (lineB F l u) k = 0) (hn : ¬ (k : Int) < l.length) : 0 = lineE F l u := by
  obtain rfl : k = l.length := by omega
  unfold lineE; rw [if_neg h, hE]
theorem lineK_ok {F : List (List Int)} {l u : List Int} {k : Nat} (h : ¬ (l.length : Int) < 2) (hk : k ≤ l.length) (hE : firstE (lineB F l u) k = 0) (hn : ¬ (k : Int) < l.length) : U (u ++ l.take k) = U (u ++ l.take (lineK F l u)) := by
  obtain rfl : k = l.length := by omega
  unfold lineK
  rw [if_neg h, firstI_of fun j hj => by simp [firstE_zero hE j hj]]
  rfl
theorem lineE_zero {F : List (List Int)} {l u : List Int} (h : lineE F l u = 0) : 2 ≤ l.length ∧ firstE (lineB F l u) l.length = 0 ∧ lineK F l u = l.length := by
  unfold lineE at h
  split at h
  · omega
  · rename_i h1
    refine ⟨by omega, h, ?_⟩
    unfold lineK
    rw [if_neg h1, firstI_of fun j hj => by simp [firstE_zero h j hj]]
    rfl
theorem lineE_in {F : List (List Int)} {l u : List Int} (h : lineE F l u = 0) {j : Nat} (hj : j < l.length) : 0 ≤ l.getD j 0 ∧ l.getD j 0 < (F.length : Int) := lineB_in (firstE_zero (lineE_zero h).2.1 j hj)
theorem take_snoc {l : List Int} {k : Nat} (h : k < l.length) : l.take k ++ [l.getD k 0] = l.take (k + 1) := by
  rw [List.take_succ_eq_append_getElem h]; simp [List.getD_eq_getElem?_getD, h]
theorem take_U {u l : List Int} {k : Nat} (h : (k : Int) < l.length) : U (u ++ l.take k) ++ [(l.getD k 0, 1)] = U (u ++ l.take (k + 1)) := by
  rw [U_snoc, List.append_assoc, take_snoc (by omega)]

/-! the rows, and then the rounds -/
def lAt (rs ws : List (List Int)) (k : Nat) : List Int := if k < rs.length then rs.getD k [] else ws.getD (k - rs.length) []
def usedTo (rs ws : List (List Int)) : Nat → List Int
  | 0 => []
  | k + 1 => usedTo rs ws k ++ lAt rs ws k
def giftB (rs ws : List (List Int)) (k : Nat) : Int := if k < rs.length then (lAt rs ws k).length else (lAt rs ws k).length - 1
def lastF (l : List Int) : Int := l.getD (l.length - 1) 0
def itemB (G : Int) (F : List (List Int)) (Rd Rw : Int) (rs ws : List (List Int)) (k : Nat) : Int :=
  if lineE F (lAt rs ws k) (usedTo rs ws k) ≠ 0 then lineE F (lAt rs ws k) (usedTo rs ws k)
  else if k < rs.length then (if (Rd < ((lAt rs ws k).length : Int) ∨ (lAt rs ws k).getD 0 0 < G) ∨ ¬ 0 ≤ placeF (F.getD (lastF (lAt rs ws k)).toNat []) ((lAt rs ws k).getD 0 0) then 11 else 0)
  else if Rw < ((lAt rs ws k).length : Int) - 1 ∨ G ≤ (lAt rs ws k).getD 0 0 then 11 else 0
theorem itemB_line {G : Int} {F : List (List Int)} {Rd Rw : Int} {rs ws : List (List Int)} {k : Nat} (h : ¬ lineE F (lAt rs ws k) (usedTo rs ws k) = 0) : itemB G F Rd Rw rs ws k = lineE F (lAt rs ws k) (usedTo rs ws k) := if_pos h
theorem itemB_rd11 {G : Int} {F : List (List Int)} {Rd Rw : Int} {rs ws : List (List Int)} {k : Nat} (h : lineE F (lAt rs ws k) (usedTo rs ws k) = 0) (hk : (k : Int) < rs.length) (hb : (Rd < ((lAt rs ws k).length : Int) ∨ (lAt rs ws k).getD 0 0 < G) ∨ ¬ 0 ≤ placeF (F.getD (lastF (lAt rs ws k)).toNat []) ((lAt rs ws k).getD 0 0)) : itemB G F Rd Rw rs ws k = 11 := by
  unfold itemB; rw [if_neg (fun c => c h), if_pos (by omega), if_pos hb]
theorem itemB_rd0 {G : Int} {F : List (List Int)} {Rd Rw : Int} {rs ws : List (List Int)} {k : Nat} (h : lineE F (lAt rs ws k) (usedTo rs ws k) = 0) (hk : (k : Int) < rs.length) (hb : ¬ ((Rd < ((lAt rs ws k).length : Int) ∨ (lAt rs ws k).getD 0 0 < G) ∨ ¬ 0 ≤ placeF (F.getD (lastF (lAt rs ws k)).toNat []) ((lAt rs ws k).getD 0 0))) : itemB G F Rd Rw rs ws k = 0 := by
  unfold itemB; rw [if_neg (fun c => c h), if_pos (by omega), if_neg hb]
theorem itemB_rw11 {G : Int} {F : List (List Int)} {Rd Rw : Int} {rs ws : List (List Int)} {k : Nat} (h : lineE F (lAt rs ws k) (usedTo rs ws k) = 0) (hk : ¬ (k : Int) < rs.length) (hb : Rw < ((lAt rs ws k).length : Int) - 1 ∨ G ≤ (lAt rs ws k).getD 0 0) : itemB G F Rd Rw rs ws k = 11 := by
  unfold itemB; rw [if_neg (fun c => c h), if_neg (by omega), if_pos hb]
theorem itemB_rw0 {G : Int} {F : List (List Int)} {Rd Rw : Int} {rs ws : List (List Int)} {k : Nat} (h : lineE F (lAt rs ws k) (usedTo rs ws k) = 0) (hk : ¬ (k : Int) < rs.length) (hb : ¬ (Rw < ((lAt rs ws k).length : Int) - 1 ∨ G ≤ (lAt rs ws k).getD 0 0)) : itemB G F Rd Rw rs ws k = 0 := by
  unfold itemB; rw [if_neg (fun c => c h), if_neg (by omega), if_neg hb]

def fitB (G n : Int) (i : Nat) (r : List Int) (k : Nat) : Int := if ((r.getD k 0 < G ∨ n ≤ r.getD k 0) ∨ r.getD k 0 = (i : Int)) ∨ 0 < k ∧ r.getD k 0 ≤ r.getD (k - 1) 0 then 8 else 0
def fitE (G n : Int) (i : Nat) (r : List Int) : Int := firstE (fitB G n i r) r.length
def mayE (G : Int) (F : List (List Int)) (Rd Rw : Int) : Int :=
  if 8 < (F.length : Int) then 2 else if G < 0 ∨ (F.length : Int) < G then 7 else if ((Rd < 0 ∨ Rw < 0) ∨ (F.length : Int) < Rd) ∨ (F.length : Int) < Rw then 9 else firstE (fun i => fitE G F.length i (F.getD i [])) F.length
theorem mayE_2 {G : Int} {F : List (List Int)} {Rd Rw : Int} (h : 8 < (F.length : Int)) : 2 = mayE G F Rd Rw := (if_pos h).symm
theorem mayE_7 {G : Int} {F : List (List Int)} {Rd Rw : Int} (h2 : ¬ 8 < (F.length : Int)) (h : G < 0 ∨ (F.length : Int) < G) : 7 = mayE G F Rd Rw := by unfold mayE; rw [if_neg h2, if_pos h]
theorem mayE_9 {G : Int} {F : List (List Int)} {Rd Rw : Int} (h2 : ¬ 8 < (F.length : Int)) (h7 : ¬ (G < 0 ∨ (F.length : Int) < G)) (h : ((Rd < 0 ∨ Rw < 0) ∨ (F.length : Int) < Rd) ∨ (F.length : Int) < Rw) : 9 = mayE G F Rd Rw := by unfold mayE; rw [if_neg h2, if_neg h7, if_pos h]
theorem mayE_8 {G : Int} {F : List (List Int)} {Rd Rw : Int} {i j : Nat} (h2 : ¬ 8 < (F.length : Int)) (h7 : ¬ (G < 0 ∨ (F.length : Int) < G)) (h9 : ¬ (((Rd < 0 ∨ Rw < 0) ∨ (F.length : Int) < Rd) ∨ (F.length : Int) < Rw)) (hE : firstE (fun i => fitE G F.length i (F.getD i [])) i = 0) (hi : (i : Int) < F.length)
    (hF : firstE (fitB G F.length i (F.getD i [])) j = 0) (hj : (j : Int) < (F.getD i []).length) (hc : fitB G F.length i (F.getD i []) j = 8) : 8 = mayE G F Rd Rw := by
  unfold mayE; rw [if_neg h2, if_neg h7, if_neg h9]
  exact (firstE_stop hE (firstE_stop hF hc (by omega) (by omega)) (by omega) (by omega)).symm
theorem mayE_0 {G : Int} {F : List (List Int)} {Rd Rw : Int} {i : Nat} (h2 : ¬ 8 < (F.length : Int)) (h7 : ¬ (G < 0 ∨ (F.length : Int) < G)) (h9 : ¬ (((Rd < 0 ∨ Rw < 0) ∨ (F.length : Int) < Rd) ∨ (F.length : Int) < Rw)) (hi : i ≤ F.length) (hE : firstE (fun i => fitE G F.length i (F.getD i [])) i = 0) (hn : ¬ (i : Int) < F.length) : 0 = mayE G F Rd Rw := by
  obtain rfl : i = F.length := by omega
  unfold mayE; rw [if_neg h2, if_neg h7, if_neg h9, hE]
theorem mayE_len {G : Int} {F : List (List Int)} {Rd Rw : Int} (h : mayE G F Rd Rw = 0) : (F.length : Int) ≤ 8 := by
  unfold mayE at h
  split at h
  · omega
  · omega
theorem fitE_ok {G n : Int} {i : Nat} {r : List Int} {j : Nat} (hj : j ≤ r.length) (hF : firstE (fitB G n i r) j = 0) (hn : ¬ (j : Int) < r.length) : fitE G n i r = 0 := by
  obtain rfl : j = r.length := by omega
  exact hF
/-- What is ahead of place k in a row, as May keeps it. -/
def lastAt (G : Int) (r : List Int) (k : Nat) : Int := if k = 0 then G - 1 else r.getD (k - 1) 0
theorem lastAt_ge {G n : Int} {i : Nat} {r : List Int} : ∀ {k : Nat}, firstE (fitB G n i r) k = 0 → G - 1 ≤ lastAt G r k
  | 0, _ => by simp [lastAt]
  | k + 1, h => by
    have h1 := firstE_zero h k (by omega)
    unfold fitB at h1
    split at h1
    · omega
    · simp only [lastAt, Nat.add_one_ne_zero, ↓reduceIte, Nat.add_sub_cancel]; omega
theorem fit_last {G n : Int} {i : Nat} {r : List Int} {k : Nat} (h : firstE (fitB G n i r) k = 0) : ((r.getD k 0 ≤ lastAt G r k ∨ n ≤ r.getD k 0) ∨ r.getD k 0 = (i : Int)) ↔ (((r.getD k 0 < G ∨ n ≤ r.getD k 0) ∨ r.getD k 0 = (i : Int)) ∨ 0 < k ∧ r.getD k 0 ≤ r.getD (k - 1) 0) := by
  have h1 := lastAt_ge h
  unfold lastAt at *
  by_cases e : k = 0
  · simp only [e, ↓reduceIte] at *; omega
  · have h0 : 0 < k := by omega
    simp only [e, ↓reduceIte] at h1 ⊢; omega

def checkE (G : Int) (F : List (List Int)) (Rd Rw : Int) (rs ws : List (List Int)) : Int := if mayE G F Rd Rw ≠ 0 then mayE G F Rd Rw else firstE (itemB G F Rd Rw rs ws) (rs.length + ws.length)
def giftF (G : Int) (F : List (List Int)) (Rd Rw : Int) (rs ws : List (List Int)) : Int := if checkE G F Rd Rw rs ws ≠ 0 then 0 else sumTo (giftB rs ws) (rs.length + ws.length)
theorem res_may {G : Int} {F : List (List Int)} {Rd Rw : Int} {rs ws : List (List Int)} (h : ¬ mayE G F Rd Rw = 0) : PV.tup [.i 0, .i (mayE G F Rd Rw)] = .tup [.i (giftF G F Rd Rw rs ws), .i (checkE G F Rd Rw rs ws)] := by
  have : checkE G F Rd Rw rs ws = mayE G F Rd Rw := if_pos h
  unfold giftF; rw [this, if_pos h]
theorem res_at {G : Int} {F : List (List Int)} {Rd Rw : Int} {rs ws : List (List Int)} {k : Nat} {c : Int} (hM : mayE G F Rd Rw = 0) (hE : firstE (itemB G F Rd Rw rs ws) k = 0) (hk : (k : Int) < (rs.length + ws.length : Nat)) (hc : itemB G F Rd Rw rs ws k = c) (h0 : c ≠ 0) : PV.tup [.i 0, .i c] = .tup [.i (giftF G F Rd Rw rs ws), .i (checkE G F Rd Rw rs ws)] := by
  have : checkE G F Rd Rw rs ws = c := by unfold checkE; rw [if_neg (fun h => h hM)]; exact firstE_stop hE hc h0 (by omega)
  unfold giftF; rw [this, if_pos h0]
theorem res_ok {G : Int} {F : List (List Int)} {Rd Rw : Int} {rs ws : List (List Int)} {k : Nat} (hM : mayE G F Rd Rw = 0) (hE : firstE (itemB G F Rd Rw rs ws) k = 0) (hk : k = rs.length + ws.length) : PV.tup [.i (sumTo (giftB rs ws) k), .i 0] = .tup [.i (giftF G F Rd Rw rs ws), .i (checkE G F Rd Rw rs ws)] := by
  subst hk
  have : checkE G F Rd Rw rs ws = 0 := by unfold checkE; rw [if_neg (fun h => h hM)]; exact hE
  unfold giftF; rw [this, if_neg (fun h => h rfl)]
theorem heavy_row {l : List (List Int)} (h : heavyF l = false) : l.length ≤ 1024 ∧ ∀ k, (l.getD k []).length ≤ 1024 := by
  unfold heavyF at h
  have h := of_decide_eq_false h
  refine ⟨by unfold heavyTo at h; omega, fun k => ?_⟩
  rcases Nat.lt_or_ge k l.length with hk | hk
  · have h1 := heavyTo_succ hk
    have h2 := heavyTo_le (l := l) (k + 1)
    omega
  · simp [List.getD_eq_getElem?_getD, hk]
theorem lAt_len {rs ws : List (List Int)} (h1 : heavyF rs = false) (h2 : heavyF ws = false) (k : Nat) : (lAt rs ws k).length ≤ 1024 := by
  unfold lAt
  split
  · exact (heavy_row h1).2 _
  · exact (heavy_row h2).2 _
theorem gift_bd {rs ws : List (List Int)} (h1 : heavyF rs = false) (h2 : heavyF ws = false) (k : Nat) (hk : k ≤ 2048) : -2048 ≤ sumTo (giftB rs ws) k ∧ sumTo (giftB rs ws) k ≤ 2097152 := by
  have := sumTo_bd (f := giftB rs ws) (A := -1) (B := 1024) (n := k) fun j _ => by
    have := lAt_len h1 h2 j
    unfold giftB
    split <;> omega
  omega
theorem lAt_rd {rs ws : List (List Int)} {k : Nat} (h : (k : Int) < rs.length) : lAt rs ws k = rs.getD k [] := if_pos (by omega)
theorem lAt_rw {rs ws : List (List Int)} {k : Nat} : lAt rs ws (rs.length + k) = ws.getD k [] := by
  unfold lAt; rw [if_neg (by omega), Nat.add_sub_cancel_left]
theorem lAt_rw' {rs ws : List (List Int)} {k : Nat} (h : (rs.length : Int) ≤ k) : lAt rs ws k = ws.getD ((k : Int) - rs.length).toNat [] := by
  unfold lAt; rw [if_neg (by omega)]; congr 1; omega
theorem used_U {F : List (List Int)} {rs ws : List (List Int)} {k : Nat} {l : List Int} (hl : lAt rs ws k = l) (h : lineE F l (usedTo rs ws k) = 0) : U (usedTo rs ws k ++ l.take (lineK F l (usedTo rs ws k))) = U (usedTo rs ws (k + 1)) := by
  subst hl
  rw [(lineE_zero h).2.2, List.take_length]; rfl
theorem giftB_rd {rs ws : List (List Int)} {k : Nat} (h : (k : Int) < rs.length) : sumTo (giftB rs ws) k + ((rs.getD k []).length : Int) = sumTo (giftB rs ws) (k + 1) := by
  rw [sumTo, giftB, if_pos (by omega), lAt_rd h]
theorem gift_rd {rs ws : List (List Int)} {k : Nat} (h : ¬ (rs.length : Int) ≤ k) : sumTo (giftB rs ws) k + ((lAt rs ws k).length : Int) = sumTo (giftB rs ws) (k + 1) := by
  rw [sumTo, giftB, if_pos (by omega)]
theorem gift_rw {rs ws : List (List Int)} {k : Nat} (h : (rs.length : Int) ≤ k) : sumTo (giftB rs ws) k + ((lAt rs ws k).length : Int) - 1 = sumTo (giftB rs ws) (k + 1) := by
  rw [sumTo, giftB, if_neg (by omega)]; omega
theorem used_len {rs ws : List (List Int)} (h1 : heavyF rs = false) (h2 : heavyF ws = false) : ∀ k, (usedTo rs ws k).length ≤ 1024 * k
  | 0 => by simp [usedTo]
  | k + 1 => by
    have := used_len h1 h2 k
    have := lAt_len h1 h2 k
    simp only [usedTo, List.length_append]; omega
theorem giftB_rw {rs ws : List (List Int)} {k : Nat} : sumTo (giftB rs ws) (rs.length + k) + (((ws.getD k []).length : Int) - 1) = sumTo (giftB rs ws) (rs.length + (k + 1)) := by
  rw [← Nat.add_assoc, sumTo, giftB, if_neg (by omega), lAt_rw]

theorem Index_fc (l : List Int) (x : Int) : FC Try.prog 23 [.ints l, .i x] (.i (placeF l x)) := by
  refine FC.intro Try.func23 rfl (Nat.le_of_ble_eq_true rfl) fun hfit => ?_
  obtain ⟨fitl0, fitr0⟩ := (hfit _ (.head _)).ints
  have fit1 : -9223372036854775808 ≤ (x : Int) ∧ (x : Int) ≤ 9223372036854775807 := (hfit _ (.tail _ (.head _))).int64
  refine awp_seq ?_
  refine awp_region rfl (.n (fun _ => op_assign (.plain rfl)) (.nil _)) ?_
  refine awp_seq ?_
  refine awp_seq ?_
  refine awp_region rfl (.n (fun _ => op_move (.plain rfl)) (.n (fun _ => op_len (s := 0) Try.underlying35 (.plain rfl)) (.n (fun _ => op_move (.plain rfl)) (.nil _)))) ?_
  refine awp_block ?_
  refine awp_loop (σ := Nat) (fun (k : Nat) => k ≤ l.length ∧ firstI (fun i => decide (l.getD i 0 = x)) k = none) (fun (k : Nat) => ⟨[(0, .pv (.ints l)), (1, .int x), (6, .pv (.ints l)), (7, .int (l.length : Nat)), (8, .int (k : Nat))], []⟩) (fun (k : Nat) => l.length - k) 0 ?_ (Ent.kept ⟨rfl, rfl, rfl, rfl, rfl, trivial⟩ trivial) ?_
  · exact ⟨Nat.zero_le _, rfl⟩
  rintro k hp
  try dsimp only at hp
  obtain ⟨hk, hE⟩ := hp
  refine awp_seq ?_
  refine awp_region rfl (.n (fun _ => op_lss (.plain rfl) (.plain rfl)) (.nil _)) ?_
  refine awp_seq ?_
  refine awp_cond rfl (fun h => ?_) (fun h => ?_)
  · try simp only [decide_eq_true_eq, decide_eq_false_iff_not, Bool.and_eq_true, Bool.or_eq_true, Bool.and_eq_false_iff, Bool.or_eq_false_iff, Bool.not_eq_true', Bool.not_eq_false', Bool.not_eq_true, Bool.not_eq_false, Bool.true_eq_false, Bool.false_eq_true] at h
    refine awp_skip ?_
    refine awp_seq ?_
    refine awp_block ?_
    refine awp_seq ?_
    refine awp_region rfl (.n (fun _ => op_move (.plain rfl)) (.n (fun _ => op_assign (.plain rfl)) (.nil _))) ?_
    refine awp_seq ?_
    refine awp_region rfl (.n (fun _ => op_move (.plain rfl)) (.n (fun _ => op_move (.plain rfl)) (.n (fun _ => op_move (.plain rfl)) (.n (fun _ => op_indexAddrN Try.underlying35 Try.sizeOf3 (.plain rfl) (.plain rfl) (fun _ => rfl) ?_) (.n (fun _ => op_load Try.isAgg3 (.plain rfl)) (.n (fun _ => op_eql (.plain rfl) (.plain rfl)) (.nil _))))))) ?_
    · omega
    refine awp_cond rfl (fun h => ?_) (fun h => ?_)
    · try simp only [decide_eq_true_eq, decide_eq_false_iff_not, Bool.and_eq_true, Bool.or_eq_true, Bool.and_eq_false_iff, Bool.or_eq_false_iff, Bool.not_eq_true', Bool.not_eq_false', Bool.not_eq_true, Bool.not_eq_false, Bool.true_eq_false, Bool.false_eq_true] at h
      refine awp_seq ?_
      refine awp_region rfl (.n (fun _ => op_move (.plain rfl)) (.n (fun _ => op_assign (.plain rfl)) (.nil _))) ?_
      refine awp_ret ?_
      refine retQ.ret ?_
      refine ret1 rfl rfl rfl ?_
      unfold placeF
      rw [firstI_stop hE (decide_eq_true h.symm) (by omega)]
    · try simp only [decide_eq_true_eq, decide_eq_false_iff_not, Bool.and_eq_true, Bool.or_eq_true, Bool.and_eq_false_iff, Bool.or_eq_false_iff, Bool.not_eq_true', Bool.not_eq_false', Bool.not_eq_true, Bool.not_eq_false, Bool.true_eq_false, Bool.false_eq_true] at h
      refine awp_skip ?_
      refine awp_region rfl (.n (fun _ => op_add (.plain rfl) (.plain rfl) ?_) (.n (fun _ => op_move (.plain rfl)) (.nil _))) ?_
      · unfold InR; omega
      exact ⟨k + 1, ⟨by omega, firstI_succ hE (decide_eq_false fun c => h c.symm)⟩, by dsimp only; omega, (Ent.kept ⟨rfl, rfl, rfl, rfl, rfl, trivial⟩ trivial)⟩
  · try simp only [decide_eq_true_eq, decide_eq_false_iff_not, Bool.and_eq_true, Bool.or_eq_true, Bool.and_eq_false_iff, Bool.or_eq_false_iff, Bool.not_eq_true', Bool.not_eq_false', Bool.not_eq_true, Bool.not_eq_false, Bool.true_eq_false, Bool.false_eq_true] at h
    refine awp_exit ?_
    refine awp_seq ?_
    refine awp_region rfl (.n (fun _ => op_assign (.plain rfl)) (.nil _)) ?_
    refine awp_ret ?_
    refine retQ.ret ?_
    refine ret1 rfl rfl rfl ?_
    obtain rfl : k = l.length := by omega
    unfold placeF
    rw [hE]

theorem Contains_fc (l : List Int) (x : Int) : FC Try.prog 19 [.ints l, .i x] (.bool (decide (0 ≤ placeF l x))) := by
  refine FC.intro Try.func19 rfl (Nat.le_of_ble_eq_true rfl) fun hfit => ?_
  obtain ⟨fitl0, fitr0⟩ := (hfit _ (.head _)).ints
  have fit1 : -9223372036854775808 ≤ (x : Int) ∧ (x : Int) ≤ 9223372036854775807 := (hfit _ (.tail _ (.head _))).int64
  refine awp_seq ?_
  refine awp_region rfl (.n (fun _ => op_assign (.plain rfl)) (.nil _)) ?_
  refine awp_seq ?_
  refine awp_region rfl (.n (fun _ => op_move (.plain rfl)) (.n (fun _ => op_move (.plain rfl)) (.n (fun _ => op_call2 Try.call23 (.plain rfl) (.plain rfl) (Index_fc _ _)) (.n (fun _ => op_geq (.plain rfl) (.plain rfl)) (.n (fun _ => op_assign (.plain rfl)) (.nil _)))))) ?_
  refine awp_ret ?_
  refine retQ.ret ?_
  refine ret1 rfl rfl rfl ?_
  rfl

theorem Place_fc (l : List Int) (x : Int) : FC Try.prog 20 [.ints l, .i x] (.i (placeF l x)) := by
  refine FC.intro Try.func20 rfl (Nat.le_of_ble_eq_true rfl) fun hfit => ?_
  obtain ⟨fitl0, fitr0⟩ := (hfit _ (.head _)).ints
  have fit1 : -9223372036854775808 ≤ (x : Int) ∧ (x : Int) ≤ 9223372036854775807 := (hfit _ (.tail _ (.head _))).int64
  refine awp_seq ?_
  refine awp_region rfl (.n (fun _ => op_assign (.plain rfl)) (.nil _)) ?_
  refine awp_seq ?_
  refine awp_seq ?_
  refine awp_region rfl (.n (fun _ => op_assign (.plain rfl)) (.nil _)) ?_
  refine awp_block ?_
  refine awp_loop (σ := Nat) (fun (k : Nat) => k ≤ l.length ∧ firstI (fun i => decide (l.getD i 0 = x)) k = none) (fun (k : Nat) => ⟨[(0, .pv (.ints l)), (1, .int x), (5, .int (k : Nat))], []⟩) (fun (k : Nat) => l.length - k) 0 ?_ (Ent.kept ⟨rfl, rfl, rfl, trivial⟩ trivial) ?_
  · exact ⟨Nat.zero_le _, rfl⟩
  rintro k hp
  try dsimp only at hp
  obtain ⟨hk, hE⟩ := hp
  refine awp_seq ?_
  refine awp_seq ?_
  refine awp_region rfl (.n (fun _ => op_move (.plain rfl)) (.n (fun _ => op_move (.plain rfl)) (.n (fun _ => op_len (s := 0) Try.underlying35 (.plain rfl)) (.n (fun _ => op_lss (.plain rfl) (.plain rfl)) (.nil _))))) ?_
  refine awp_cond rfl (fun h => ?_) (fun h => ?_)
  · try simp only [decide_eq_true_eq, decide_eq_false_iff_not, Bool.and_eq_true, Bool.or_eq_true, Bool.and_eq_false_iff, Bool.or_eq_false_iff, Bool.not_eq_true', Bool.not_eq_false', Bool.not_eq_true, Bool.not_eq_false, Bool.true_eq_false, Bool.false_eq_true] at h
    refine awp_skip ?_
    refine awp_seq ?_
    refine awp_block ?_
    refine awp_seq ?_
    refine awp_region rfl (.n (fun _ => op_move (.plain rfl)) (.n (fun _ => op_move (.plain rfl)) (.n (fun _ => op_indexAddrN Try.underlying35 Try.sizeOf3 (.plain rfl) (.plain rfl) (fun _ => rfl) ?_) (.n (fun _ => op_load Try.isAgg3 (.plain rfl)) (.n (fun _ => op_move (.plain rfl)) (.n (fun _ => op_eql (.plain rfl) (.plain rfl)) (.nil _))))))) ?_
    · omega
    refine awp_cond rfl (fun h => ?_) (fun h => ?_)
    · try simp only [decide_eq_true_eq, decide_eq_false_iff_not, Bool.and_eq_true, Bool.or_eq_true, Bool.and_eq_false_iff, Bool.or_eq_false_iff, Bool.not_eq_true', Bool.not_eq_false', Bool.not_eq_true, Bool.not_eq_false, Bool.true_eq_false, Bool.false_eq_true] at h
      refine awp_seq ?_
      refine awp_region rfl (.n (fun _ => op_move (.plain rfl)) (.n (fun _ => op_assign (.plain rfl)) (.nil _))) ?_
      refine awp_ret ?_
      refine retQ.ret ?_
      refine ret1 rfl rfl rfl ?_
      unfold placeF
      rw [firstI_stop hE (decide_eq_true h) (by omega)]
    · try simp only [decide_eq_true_eq, decide_eq_false_iff_not, Bool.and_eq_true, Bool.or_eq_true, Bool.and_eq_false_iff, Bool.or_eq_false_iff, Bool.not_eq_true', Bool.not_eq_false', Bool.not_eq_true, Bool.not_eq_false, Bool.true_eq_false, Bool.false_eq_true] at h
      refine awp_skip ?_
      refine awp_region rfl (.n (fun _ => op_move (.plain rfl)) (.n (fun _ => op_add (.plain rfl) (.plain rfl) ?_) (.n (fun _ => op_assign (.plain rfl)) (.nil _)))) ?_
      · unfold InR; omega
      exact ⟨k + 1, ⟨by omega, firstI_succ hE (decide_eq_false h)⟩, by dsimp only; omega, (Ent.kept ⟨rfl, rfl, rfl, trivial⟩ trivial)⟩
  · try simp only [decide_eq_true_eq, decide_eq_false_iff_not, Bool.and_eq_true, Bool.or_eq_true, Bool.and_eq_false_iff, Bool.or_eq_false_iff, Bool.not_eq_true', Bool.not_eq_false', Bool.not_eq_true, Bool.not_eq_false, Bool.true_eq_false, Bool.false_eq_true] at h
    refine awp_exit ?_
    refine awp_seq ?_
    refine awp_region rfl (.n (fun _ => op_assign (.plain rfl)) (.nil _)) ?_
    refine awp_ret ?_
    refine retQ.ret ?_
    refine ret1 rfl rfl rfl ?_
    obtain rfl : k = l.length := by omega
    unfold placeF
    rw [hE]

theorem In_fc (x : Int) (l : List Int) : FC Try.prog 16 [.i x, .ints l] (.bool (decide (0 ≤ placeF l x))) := by
  refine FC.intro Try.func16 rfl (Nat.le_of_ble_eq_true rfl) fun hfit => ?_
  have fit0 : -9223372036854775808 ≤ (x : Int) ∧ (x : Int) ≤ 9223372036854775807 := (hfit _ (.head _)).int64
  obtain ⟨fitl1, fitr1⟩ := (hfit _ (.tail _ (.head _))).ints
  refine awp_seq ?_
  refine awp_region rfl (.n (fun _ => op_assign (.plain rfl)) (.nil _)) ?_
  refine awp_seq ?_
  refine awp_region rfl (.n (fun _ => op_move (.plain rfl)) (.n (fun _ => op_move (.plain rfl)) (.n (fun _ => op_call2 Try.call20 (.plain rfl) (.plain rfl) (Place_fc _ _)) (.n (fun _ => op_geq (.plain rfl) (.plain rfl)) (.n (fun _ => op_assign (.plain rfl)) (.nil _)))))) ?_
  refine awp_ret ?_
  refine retQ.ret ?_
  refine ret1 rfl rfl rfl ?_
  rfl

theorem gives_fc (G : Int) (F : List (List Int)) (Rd Rw : Int) (i x : Int) (hi : 0 ≤ i ∧ i < (F.length : Int)) : FC Try.prog 15 [.agg [.i G, .rows F, .i Rd, .i Rw], .i i, .i x] (.bool (decide (0 ≤ placeF (F.getD i.toNat []) x))) := by
  refine FC.intro Try.func15 rfl (Nat.le_of_ble_eq_true rfl) fun hfit => ?_
  have fit0 := hfit _ (.head _)
  have fit1 : -9223372036854775808 ≤ (i : Int) ∧ (i : Int) ≤ 9223372036854775807 := (hfit _ (.tail _ (.head _))).int64
  have fit2 : -9223372036854775808 ≤ (x : Int) ∧ (x : Int) ≤ 9223372036854775807 := (hfit _ (.tail _ (.tail _ (.head _)))).int64
  refine awp_seq ?_
  refine awp_region rfl (.n (fun _ => op_box (.plain rfl) (by simp)) (.n (fun _ => op_assign (.plain rfl)) (.nil _))) ?_
  refine awp_seq ?_
  refine awp_region rfl (.n (fun _ => op_fieldAddr Try.underlying24 rfl rfl Try.sizeOf22 (.plain rfl)) (.n (fun _ => op_load Try.isAgg22 (.plain rfl)) (.n (fun _ => op_move (.plain rfl)) (.n (fun _ => op_indexAddr Try.underlying22 Try.sizeOf35 (.plain rfl) (.plain rfl) (fun _ => rfl) ?_) (.n (fun _ => op_load Try.isAgg35 (.plain rfl)) (.n (fun _ => op_move (.plain rfl)) (.n (fun _ => op_call2 Try.call19 (.plain rfl) (.plain rfl) (Contains_fc _ _)) (.n (fun _ => op_assign (.plain rfl)) (.nil _))))))))) ?_
  · omega
  refine awp_ret ?_
  refine retQ.ret ?_
  refine ret1 rfl rfl rfl ?_
  rfl

theorem line_fcm (G : Int) (F : List (List Int)) (Rd Rw : Int) (l u : List Int) : FCM Try.prog 14 [some (.agg [.i G, .rows F, .i Rd, .i Rw]), some (.ints l), none] (.mp (U u)) (.mp (U (u ++ l.take (lineK F l u)))) (.i (lineE F l u)) := by
  refine FCM.intro Try.func14 rfl (Nat.le_of_ble_eq_true rfl) rfl trivial trivial fun hfit r => ?_
  have fit0 := hfit _ (.head _)
  obtain ⟨fitl1, fitr1⟩ := (hfit _ (.tail _ (.head _))).ints
  have hFl := (fit0.mem (p := .rows F) (by simp)).rows
  have hGi := (fit0.mem (p := .i G) (by simp)).int64
  have hRi := (fit0.mem (p := .i Rd) (by simp)).int64
  have hWi := (fit0.mem (p := .i Rw) (by simp)).int64
  unfold InR at hGi hRi hWi
  have hl1 := fitl1
  refine awp_seq ?_
  refine awp_region rfl (.n (fun _ => op_box (.plain rfl) (by simp)) (.n (fun _ => op_assign (.plain rfl)) (.nil _))) ?_
  refine awp_seq ?_
  refine awp_seq ?_
  refine awp_region rfl (.n (fun _ => op_move (.plain rfl)) (.n (fun _ => op_len (s := 0) Try.underlying35 (.plain rfl)) (.n (fun _ => op_lss (.plain rfl) (.plain rfl)) (.nil _)))) ?_
  refine awp_cond rfl (fun h => ?_) (fun h => ?_)
  · try simp only [decide_eq_true_eq, decide_eq_false_iff_not, Bool.and_eq_true, Bool.or_eq_true, Bool.and_eq_false_iff, Bool.or_eq_false_iff, Bool.not_eq_true', Bool.not_eq_false', Bool.not_eq_true, Bool.not_eq_false, Bool.true_eq_false, Bool.false_eq_true] at h
    refine awp_seq ?_
    refine awp_region rfl (.n (fun _ => op_assign (.plain rfl)) (.nil _)) ?_
    refine awp_ret ?_
    refine retW.ret ?_
    refine retW1 rfl rfl rfl (t := 2) rfl ?_ ?_
    · exact (congrArg (fun m => some (Blk.mp m)) (lineK_7 h))
    · exact congrArg PV.i (lineE_7 h)
  · try simp only [decide_eq_true_eq, decide_eq_false_iff_not, Bool.and_eq_true, Bool.or_eq_true, Bool.and_eq_false_iff, Bool.or_eq_false_iff, Bool.not_eq_true', Bool.not_eq_false', Bool.not_eq_true, Bool.not_eq_false, Bool.true_eq_false, Bool.false_eq_true] at h
    have h2 := h
    refine awp_skip ?_
    refine awp_seq ?_
    refine awp_seq ?_
    refine awp_region rfl (.n (fun _ => op_move (.plain rfl)) (.n (fun _ => op_len (s := 0) Try.underlying35 (.plain rfl)) (.n (fun _ => op_move (.plain rfl)) (.nil _)))) ?_
    refine awp_block ?_
    refine awp_loop (σ := Nat) (fun (k : Nat) => k ≤ l.length ∧ firstE (lineB F l u) k = 0) (fun (k : Nat) => ⟨[(1, .pv (.ints l)), (2, .ownV 0 r), (3, .pv (.rd [.i G, .rows F, .i Rd, .i Rw])), (12, .pv (.ints l)), (13, .int (l.length : Nat)), (14, .int (k : Nat))], [(0, .mp (U (u ++ l.take k)))]⟩) (fun (k : Nat) => l.length - k) 0 ?_ (Ent.kept ⟨rfl, rfl, rfl, rfl, rfl, rfl, trivial⟩ ⟨(by rw [List.take_zero, List.append_nil]; rfl), trivial⟩) ?_
    · exact ⟨Nat.zero_le _, rfl⟩
    rintro k hp
    try dsimp only at hp
    obtain ⟨hk, hE⟩ := hp
    refine awp_seq ?_
    refine awp_region rfl (.n (fun _ => op_lss (.plain rfl) (.plain rfl)) (.nil _)) ?_
    refine awp_seq ?_
    refine awp_cond rfl (fun h => ?_) (fun h => ?_)
    · try simp only [decide_eq_true_eq, decide_eq_false_iff_not, Bool.and_eq_true, Bool.or_eq_true, Bool.and_eq_false_iff, Bool.or_eq_false_iff, Bool.not_eq_true', Bool.not_eq_false', Bool.not_eq_true, Bool.not_eq_false, Bool.true_eq_false, Bool.false_eq_true] at h
      refine awp_skip ?_
      refine awp_seq ?_
      refine awp_block ?_
      refine awp_seq ?_
      refine awp_region rfl (.n (fun _ => op_move (.plain rfl)) (.n (fun _ => op_indexAddrN Try.underlying35 Try.sizeOf3 (.plain rfl) (.plain rfl) (fun _ => rfl) ?_) (.n (fun _ => op_load Try.isAgg3 (.plain rfl)) (.n (fun _ => op_assign (.plain rfl)) (.n (fun _ => op_assign (.plain rfl)) (.nil _)))))) ?_
      · omega
      refine awp_seq ?_
      refine awp_block ?_
      refine awp_seq ?_
      refine awp_region rfl (.n (fun _ => op_move (.plain rfl)) (.n (fun _ => op_lss (.plain rfl) (.plain rfl)) (.n (fun _ => op_move (.plain rfl)) (.gn rfl rfl (fun hg _ => op_move (.plain rfl)) (.gn rfl rfl (fun hg _ => op_fieldAddr Try.underlying24 rfl rfl Try.sizeOf22 (.plain rfl)) (.gn rfl rfl (fun hg _ => op_load Try.isAgg22 (.opt rfl fun h => h)) (.gn rfl rfl (fun hg _ => op_len (s := 0) Try.underlying22 (.opt rfl fun h => h)) (.gn rfl rfl (fun hg _ => op_geq (.opt rfl fun h => h) (.opt rfl fun h => h)) (.n (fun _ => op_or (.plain rfl) (.plain rfl) (.plain rfl) (fun h => eqF h)) (.n (fun _ => op_assign (.plain rfl)) (.nil _))))))))))) ?_
      refine awp_cond rfl (fun h => ?_) (fun h => ?_)
      · try simp only [decide_eq_true_eq, decide_eq_false_iff_not, Bool.and_eq_true, Bool.or_eq_true, Bool.and_eq_false_iff, Bool.or_eq_false_iff, Bool.not_eq_true', Bool.not_eq_false', Bool.not_eq_true, Bool.not_eq_false, Bool.true_eq_false, Bool.false_eq_true] at h
        refine awp_seq ?_
        refine awp_region rfl (.n (fun _ => op_assign (.plain rfl)) (.nil _)) ?_
        refine awp_ret ?_
        refine retW.ret ?_
        refine retW1 rfl rfl rfl (t := 2) rfl ?_ ?_
        · exact (congrArg (fun m => some (Blk.mp m)) (lineK_at h2 hE (by omega) (lineB_8 h) (by omega)))
        · exact congrArg PV.i (lineE_at h2 hE (by omega) (lineB_8 h) (by omega))
      · try simp only [decide_eq_true_eq, decide_eq_false_iff_not, Bool.and_eq_true, Bool.or_eq_true, Bool.and_eq_false_iff, Bool.or_eq_false_iff, Bool.not_eq_true', Bool.not_eq_false', Bool.not_eq_true, Bool.not_eq_false, Bool.true_eq_false, Bool.false_eq_true] at h
        have h8 := h
        refine awp_seq ?_
        refine awp_region rfl (.n (fun _ => op_move (.plain rfl)) (.n (fun _ => op_move (.plain rfl)) (.r (op_lookupM Try.underlying37 Try.underlying3 Try.zeroValue3 (.ownS rfl) rfl (.plain rfl)) (.n (fun _ => op_gtr (.plain rfl) (.plain rfl)) (.n (fun _ => op_assign (.plain rfl)) (.nil _)))))) ?_
        refine awp_cond rfl (fun h => ?_) (fun h => ?_)
        · try simp only [decide_eq_true_eq, decide_eq_false_iff_not, Bool.and_eq_true, Bool.or_eq_true, Bool.and_eq_false_iff, Bool.or_eq_false_iff, Bool.not_eq_true', Bool.not_eq_false', Bool.not_eq_true, Bool.not_eq_false, Bool.true_eq_false, Bool.false_eq_true] at h
          refine awp_seq ?_
          refine awp_region rfl (.n (fun _ => op_assign (.plain rfl)) (.nil _)) ?_
          refine awp_ret ?_
          refine retW.ret ?_
          refine retW1 rfl rfl rfl (t := 2) rfl ?_ ?_
          · exact (congrArg (fun m => some (Blk.mp m)) (lineK_at h2 hE (by omega) (lineB_6 (by omega) (mget_U.1 h)) (by omega)))
          · exact congrArg PV.i (lineE_at h2 hE (by omega) (lineB_6 (by omega) (mget_U.1 h)) (by omega))
        · try simp only [decide_eq_true_eq, decide_eq_false_iff_not, Bool.and_eq_true, Bool.or_eq_true, Bool.and_eq_false_iff, Bool.or_eq_false_iff, Bool.not_eq_true', Bool.not_eq_false', Bool.not_eq_true, Bool.not_eq_false, Bool.true_eq_false, Bool.false_eq_true] at h
          have h6 := h
          refine awp_seq ?_
          refine awp_region_draw mixed rfl (.n (fun _ => op_move (.plain rfl)) (.n (fun _ => op_gtr (.plain rfl) (.plain rfl)) (.n (fun _ => op_move (.plain rfl)) (.gn rfl rfl (fun hg _ => op_load_agg Try.isAgg24 Try.sizeOf24 (.plain rfl) (Nat.le_of_ble_eq_true rfl)) (.gn rfl rfl (fun hg _ => op_move (.plain rfl)) (.gn rfl rfl (fun hg _ => op_move (.plain rfl)) (.gn rfl rfl (fun hg _ => op_sub (.opt rfl fun h => h) (.plain rfl) ?_) (.gn rfl rfl (fun hg _ => op_indexAddr Try.underlying35 Try.sizeOf3 (.opt rfl fun h => h) (.opt rfl fun h => h) (fun _ => rfl) ?_) (.gn rfl rfl (fun hg _ => op_load Try.isAgg3 (.opt rfl fun h => h)) (.gn rfl rfl (fun hg _ => op_move (.plain rfl)) (.gn rfl rfl (fun hg _ => op_call3 Try.call15 (.opt rfl fun h => h) (.opt rfl fun h => h) (.opt rfl fun h => h) (gives_fc _ _ _ _ _ _ ?_)) (.gn rfl rfl (fun hg _ => op_not (.opt rfl fun h => h)) (.n (fun _ => op_and (.plain rfl) (.plain rfl) (.plain rfl) (fun h => eqT h)) (.n (fun _ => op_assign (.plain rfl)) (.nil _))))))))))))))) ?d1 ?_
          · try simp only [beq_iff_eq, beq_true, beq_false, Bool.and_eq_true, decide_eq_true_eq, decide_eq_false_iff_not, Bool.not_eq_true', Bool.or_eq_true, Bool.or_eq_false_iff] at hg
            unfold InR; omega
          · try simp only [beq_iff_eq, beq_true, beq_false, Bool.and_eq_true, decide_eq_true_eq, decide_eq_false_iff_not, Bool.not_eq_true', Bool.or_eq_true, Bool.or_eq_false_iff] at hg
            omega
          · try simp only [beq_iff_eq, beq_true, beq_false, Bool.and_eq_true, decide_eq_true_eq, decide_eq_false_iff_not, Bool.not_eq_true', Bool.or_eq_true, Bool.or_eq_false_iff] at hg
            have := lineB_in (firstE_zero hE (k - 1) (by omega)); rw [show ((k : Int) - 1).toNat = k - 1 by omega]; exact this
          · kernel_rfl
          refine awp_cond rfl (fun h => ?_) (fun h => ?_)
          · try simp only [decide_eq_true_eq, decide_eq_false_iff_not, Bool.and_eq_true, Bool.or_eq_true, Bool.and_eq_false_iff, Bool.or_eq_false_iff, Bool.not_eq_true', Bool.not_eq_false', Bool.not_eq_true, Bool.not_eq_false, Bool.true_eq_false, Bool.false_eq_true] at h
            refine awp_seq ?_
            refine awp_region rfl (.n (fun _ => op_assign (.plain rfl)) (.nil _)) ?_
            refine awp_ret ?_
            refine retW.ret ?_
            refine retW1 rfl rfl rfl (t := 2) rfl ?_ ?_
            · rw [show ((k : Int) - 1).toNat = k - 1 by omega] at h
              exact (congrArg (fun m => some (Blk.mp m)) (lineK_at h2 hE (by omega) (lineB_11 (by omega) (fun c => h6 (mget_U.2 c)) (by omega)) (by omega)))
            · rw [show ((k : Int) - 1).toNat = k - 1 by omega] at h
              exact congrArg PV.i (lineE_at h2 hE (by omega) (lineB_11 (by omega) (fun c => h6 (mget_U.2 c)) (by omega)) (by omega))
          · try simp only [decide_eq_true_eq, decide_eq_false_iff_not, Bool.and_eq_true, Bool.or_eq_true, Bool.and_eq_false_iff, Bool.or_eq_false_iff, Bool.not_eq_true', Bool.not_eq_false', Bool.not_eq_true, Bool.not_eq_false, Bool.true_eq_false, Bool.false_eq_true] at h
            refine awp_skip ?_
            refine awp_region rfl (.n (fun _ => op_move (.plain rfl)) (.n (fun _ => op_move (.plain rfl)) (.e (op_mapSet Try.underlying37 Try.underlying3 (.ownS rfl) rfl (.plain rfl) (.plain rfl) ?_) rfl (.nil _)))) ?_
            · exact lookup_U0 h6
            refine awp_region rfl (.n (fun _ => op_add (.plain rfl) (.plain rfl) ?_) (.n (fun _ => op_move (.plain rfl)) (.nil _))) ?_
            · unfold InR; omega
            exact ⟨k + 1, ⟨by omega, firstE_succ hE (lineB_0 (by omega) (fun c => h6 (mget_U.2 c)) (by rw [show ((k : Int) - 1).toNat = k - 1 by omega] at h; omega))⟩, by dsimp only; omega, (Ent.kept ⟨rfl, rfl, rfl, rfl, rfl, rfl, trivial⟩ ⟨(congrArg (fun m => some (Blk.mp m)) (take_U (by omega))), trivial⟩)⟩
    · try simp only [decide_eq_true_eq, decide_eq_false_iff_not, Bool.and_eq_true, Bool.or_eq_true, Bool.and_eq_false_iff, Bool.or_eq_false_iff, Bool.not_eq_true', Bool.not_eq_false', Bool.not_eq_true, Bool.not_eq_false, Bool.true_eq_false, Bool.false_eq_true] at h
      refine awp_exit ?_
      refine awp_seq ?_
      refine awp_region rfl (.n (fun _ => op_assign (.plain rfl)) (.nil _)) ?_
      refine awp_ret ?_
      refine retW.ret ?_
      refine retW1 rfl rfl rfl (t := 2) rfl ?_ ?_
      · exact (congrArg (fun m => some (Blk.mp m)) (lineK_ok h2 hk hE (by omega)))
      · exact congrArg PV.i (lineE_ok h2 hk hE (by omega))

theorem May_fc (G : Int) (F : List (List Int)) (Rd Rw : Int) : FC Try.prog 9 [.agg [.i G, .rows F, .i Rd, .i Rw]] (.i (mayE G F Rd Rw)) := by
  refine FC.intro Try.func9 rfl (Nat.le_of_ble_eq_true rfl) fun hfit => ?_
  have fit0 := hfit _ (.head _)
  have hFl := (fit0.mem (p := .rows F) (by simp)).rows
  have hGi := (fit0.mem (p := .i G) (by simp)).int64
  have hRi := (fit0.mem (p := .i Rd) (by simp)).int64
  have hWi := (fit0.mem (p := .i Rw) (by simp)).int64
  unfold InR at hGi hRi hWi
  refine awp_seq ?_
  refine awp_region rfl (.n (fun _ => op_box (.plain rfl) (by simp)) (.n (fun _ => op_assign (.plain rfl)) (.nil _))) ?_
  refine awp_seq ?_
  refine awp_region rfl (.n (fun _ => op_fieldAddr Try.underlying24 rfl rfl Try.sizeOf22 (.plain rfl)) (.n (fun _ => op_load Try.isAgg22 (.plain rfl)) (.n (fun _ => op_len (s := 0) Try.underlying22 (.plain rfl)) (.n (fun _ => op_assign (.plain rfl)) (.nil _))))) ?_
  refine awp_seq ?_
  refine awp_block ?_
  refine awp_seq ?_
  refine awp_region rfl (.n (fun _ => op_move (.plain rfl)) (.n (fun _ => op_gtr (.plain rfl) (.plain rfl)) (.n (fun _ => op_assign (.plain rfl)) (.nil _)))) ?_
  refine awp_cond rfl (fun h => ?_) (fun h => ?_)
  · try simp only [decide_eq_true_eq, decide_eq_false_iff_not, Bool.and_eq_true, Bool.or_eq_true, Bool.and_eq_false_iff, Bool.or_eq_false_iff, Bool.not_eq_true', Bool.not_eq_false', Bool.not_eq_true, Bool.not_eq_false, Bool.true_eq_false, Bool.false_eq_true] at h
    refine awp_seq ?_
    refine awp_region rfl (.n (fun _ => op_assign (.plain rfl)) (.nil _)) ?_
    refine awp_ret ?_
    refine retQ.ret ?_
    refine ret1 rfl rfl rfl ?_
    exact congrArg PV.i (mayE_2 h)
  · try simp only [decide_eq_true_eq, decide_eq_false_iff_not, Bool.and_eq_true, Bool.or_eq_true, Bool.and_eq_false_iff, Bool.or_eq_false_iff, Bool.not_eq_true', Bool.not_eq_false', Bool.not_eq_true, Bool.not_eq_false, Bool.true_eq_false, Bool.false_eq_true] at h
    have h2 := h
    refine awp_seq ?_
    refine awp_region rfl (.n (fun _ => op_fieldAddr Try.underlying24 rfl rfl Try.sizeOf3 (.plain rfl)) (.n (fun _ => op_load Try.isAgg3 (.plain rfl)) (.n (fun _ => op_lss (.plain rfl) (.plain rfl)) (.n (fun _ => op_move (.plain rfl)) (.gn rfl rfl (fun hg _ => op_fieldAddr Try.underlying24 rfl rfl Try.sizeOf3 (.plain rfl)) (.gn rfl rfl (fun hg _ => op_load Try.isAgg3 (.opt rfl fun h => h)) (.gn rfl rfl (fun hg _ => op_move (.plain rfl)) (.gn rfl rfl (fun hg _ => op_gtr (.opt rfl fun h => h) (.opt rfl fun h => h)) (.n (fun _ => op_or (.plain rfl) (.plain rfl) (.plain rfl) (fun h => eqF h)) (.n (fun _ => op_assign (.plain rfl)) (.nil _))))))))))) ?_
    refine awp_cond rfl (fun h => ?_) (fun h => ?_)
    · try simp only [decide_eq_true_eq, decide_eq_false_iff_not, Bool.and_eq_true, Bool.or_eq_true, Bool.and_eq_false_iff, Bool.or_eq_false_iff, Bool.not_eq_true', Bool.not_eq_false', Bool.not_eq_true, Bool.not_eq_false, Bool.true_eq_false, Bool.false_eq_true] at h
      refine awp_seq ?_
      refine awp_region rfl (.n (fun _ => op_assign (.plain rfl)) (.nil _)) ?_
      refine awp_ret ?_
      refine retQ.ret ?_
      refine ret1 rfl rfl rfl ?_
      exact congrArg PV.i (mayE_7 h2 h)
    · try simp only [decide_eq_true_eq, decide_eq_false_iff_not, Bool.and_eq_true, Bool.or_eq_true, Bool.and_eq_false_iff, Bool.or_eq_false_iff, Bool.not_eq_true', Bool.not_eq_false', Bool.not_eq_true, Bool.not_eq_false, Bool.true_eq_false, Bool.false_eq_true] at h
      have h7 : ¬ (G < 0 ∨ (F.length : Int) < G) := by omega
      refine awp_seq ?_
      refine awp_region rfl (.n (fun _ => op_fieldAddr Try.underlying24 rfl rfl Try.sizeOf3 (.plain rfl)) (.n (fun _ => op_load Try.isAgg3 (.plain rfl)) (.n (fun _ => op_lss (.plain rfl) (.plain rfl)) (.n (fun _ => op_move (.plain rfl)) (.gn rfl rfl (fun hg _ => op_fieldAddr Try.underlying24 rfl rfl Try.sizeOf3 (.plain rfl)) (.gn rfl rfl (fun hg _ => op_load Try.isAgg3 (.opt rfl fun h => h)) (.gn rfl rfl (fun hg _ => op_lss (.opt rfl fun h => h) (.plain rfl)) (.n (fun _ => op_or (.plain rfl) (.plain rfl) (.plain rfl) (fun h => eqF h)) (.n (fun _ => op_move (.plain rfl)) (.gn rfl rfl (fun hg _ => op_fieldAddr Try.underlying24 rfl rfl Try.sizeOf3 (.plain rfl)) (.gn rfl rfl (fun hg _ => op_load Try.isAgg3 (.opt rfl fun h => h)) (.gn rfl rfl (fun hg _ => op_move (.plain rfl)) (.gn rfl rfl (fun hg _ => op_gtr (.opt rfl fun h => h) (.opt rfl fun h => h)) (.n (fun _ => op_or (.plain rfl) (.plain rfl) (.plain rfl) (fun h => eqF h)) (.n (fun _ => op_move (.plain rfl)) (.gn rfl rfl (fun hg _ => op_fieldAddr Try.underlying24 rfl rfl Try.sizeOf3 (.plain rfl)) (.gn rfl rfl (fun hg _ => op_load Try.isAgg3 (.opt rfl fun h => h)) (.gn rfl rfl (fun hg _ => op_move (.plain rfl)) (.gn rfl rfl (fun hg _ => op_gtr (.opt rfl fun h => h) (.opt rfl fun h => h)) (.n (fun _ => op_or (.plain rfl) (.plain rfl) (.plain rfl) (fun h => eqF h)) (.n (fun _ => op_assign (.plain rfl)) (.nil _)))))))))))))))))))))) ?_
      refine awp_cond rfl (fun h => ?_) (fun h => ?_)
      · try simp only [decide_eq_true_eq, decide_eq_false_iff_not, Bool.and_eq_true, Bool.or_eq_true, Bool.and_eq_false_iff, Bool.or_eq_false_iff, Bool.not_eq_true', Bool.not_eq_false', Bool.not_eq_true, Bool.not_eq_false, Bool.true_eq_false, Bool.false_eq_true] at h
        refine awp_seq ?_
        refine awp_region rfl (.n (fun _ => op_assign (.plain rfl)) (.nil _)) ?_
        refine awp_ret ?_
        refine retQ.ret ?_
        refine ret1 rfl rfl rfl ?_
        exact congrArg PV.i (mayE_9 h2 h7 h)
      · try simp only [decide_eq_true_eq, decide_eq_false_iff_not, Bool.and_eq_true, Bool.or_eq_true, Bool.and_eq_false_iff, Bool.or_eq_false_iff, Bool.not_eq_true', Bool.not_eq_false', Bool.not_eq_true, Bool.not_eq_false, Bool.true_eq_false, Bool.false_eq_true] at h
        have h9 : ¬ (((Rd < 0 ∨ Rw < 0) ∨ (F.length : Int) < Rd) ∨ (F.length : Int) < Rw) := by omega
        refine awp_skip ?_
        refine awp_seq ?_
        refine awp_seq ?_
        refine awp_region rfl (.n (fun _ => op_fieldAddr Try.underlying24 rfl rfl Try.sizeOf22 (.plain rfl)) (.n (fun _ => op_load Try.isAgg22 (.plain rfl)) (.n (fun _ => op_len (s := 0) Try.underlying22 (.plain rfl)) (.n (fun _ => op_move (.plain rfl)) (.nil _))))) ?_
        refine awp_block ?_
        refine awp_loop (σ := Nat) (fun (i : Nat) => i ≤ F.length ∧ firstE (fun i => fitE G F.length i (F.getD i [])) i = 0) (fun (i : Nat) => ⟨[(1, .pv (.rd [.i G, .rows F, .i Rd, .i Rw])), (3, .int (F.length : Nat)), (47, .pv (.rows F)), (48, .int (F.length : Nat)), (49, .int (i : Nat))], []⟩) (fun (i : Nat) => F.length - i) 0 ?_ (Ent.kept ⟨rfl, rfl, rfl, rfl, rfl, trivial⟩ trivial) ?_
        · exact ⟨Nat.zero_le _, rfl⟩
        rintro i hp
        try dsimp only at hp
        obtain ⟨hi, hE⟩ := hp
        refine awp_seq ?_
        refine awp_region rfl (.n (fun _ => op_lss (.plain rfl) (.plain rfl)) (.nil _)) ?_
        refine awp_seq ?_
        refine awp_cond rfl (fun h => ?_) (fun h => ?_)
        · try simp only [decide_eq_true_eq, decide_eq_false_iff_not, Bool.and_eq_true, Bool.or_eq_true, Bool.and_eq_false_iff, Bool.or_eq_false_iff, Bool.not_eq_true', Bool.not_eq_false', Bool.not_eq_true, Bool.not_eq_false, Bool.true_eq_false, Bool.false_eq_true] at h
          refine awp_skip ?_
          refine awp_seq ?_
          refine awp_block ?_
          refine awp_seq ?_
          refine awp_region rfl (.n (fun _ => op_move (.plain rfl)) (.n (fun _ => op_indexAddrN Try.underlying22 Try.sizeOf35 (.plain rfl) (.plain rfl) (fun _ => rfl) ?_) (.n (fun _ => op_load Try.isAgg35 (.plain rfl)) (.n (fun _ => op_assign (.plain rfl)) (.n (fun _ => op_assign (.plain rfl)) (.nil _)))))) ?_
          · omega
          refine awp_seq ?_
          refine awp_region rfl (.n (fun _ => op_fieldAddr Try.underlying24 rfl rfl Try.sizeOf3 (.plain rfl)) (.n (fun _ => op_load Try.isAgg3 (.plain rfl)) (.n (fun _ => op_sub (.plain rfl) (.plain rfl) ?_) (.n (fun _ => op_assign (.plain rfl)) (.nil _))))) ?_
          · unfold InR; omega
          refine awp_seq ?_
          refine awp_region rfl (.n (fun _ => op_move (.plain rfl)) (.n (fun _ => op_len (s := 0) Try.underlying35 (.plain rfl)) (.n (fun _ => op_move (.plain rfl)) (.nil _)))) ?_
          refine awp_block ?_
          refine awp_loop (σ := Nat) (fun (j : Nat) => j ≤ (F.getD i []).length ∧ firstE (fitB G F.length i (F.getD i [])) j = 0) (fun (j : Nat) => ⟨[(1, .pv (.rd [.i G, .rows F, .i Rd, .i Rw])), (3, .int (F.length : Nat)), (47, .pv (.rows F)), (48, .int (F.length : Nat)), (49, .int (i : Nat)), (4, .int (i : Nat)), (6, .int (lastAt G (F.getD i []) j)), (57, .pv (.ints (F.getD i []))), (58, .int ((F.getD i []).length : Nat)), (59, .int (j : Nat))], []⟩) (fun (j : Nat) => (F.getD i []).length - j) 0 ?_ (Ent.kept ⟨rfl, rfl, rfl, rfl, rfl, rfl, rfl, rfl, rfl, rfl, trivial⟩ trivial) ?_
          · exact ⟨Nat.zero_le _, rfl⟩
          rintro j hp
          try dsimp only at hp
          obtain ⟨hj, hF⟩ := hp
          have hrl := (hFl.2 _ (getD_mem [] (show i < F.length by omega))).1
          refine awp_seq ?_
          refine awp_region rfl (.n (fun _ => op_lss (.plain rfl) (.plain rfl)) (.nil _)) ?_
          refine awp_seq ?_
          refine awp_cond rfl (fun h => ?_) (fun h => ?_)
          · try simp only [decide_eq_true_eq, decide_eq_false_iff_not, Bool.and_eq_true, Bool.or_eq_true, Bool.and_eq_false_iff, Bool.or_eq_false_iff, Bool.not_eq_true', Bool.not_eq_false', Bool.not_eq_true, Bool.not_eq_false, Bool.true_eq_false, Bool.false_eq_true] at h
            refine awp_skip ?_
            refine awp_seq ?_
            refine awp_block ?_
            refine awp_seq ?_
            refine awp_region rfl (.n (fun _ => op_indexAddrN Try.underlying35 Try.sizeOf3 (.plain rfl) (.plain rfl) (fun _ => rfl) ?_) (.n (fun _ => op_load Try.isAgg3 (.plain rfl)) (.n (fun _ => op_assign (.plain rfl)) (.nil _)))) ?_
            · omega
            refine awp_seq ?_
            refine awp_seq ?_
            refine awp_region rfl (.n (fun _ => op_move (.plain rfl)) (.n (fun _ => op_move (.plain rfl)) (.n (fun _ => op_leq (.plain rfl) (.plain rfl)) (.n (fun _ => op_move (.plain rfl)) (.gn rfl rfl (fun hg _ => op_move (.plain rfl)) (.gn rfl rfl (fun hg _ => op_move (.plain rfl)) (.gn rfl rfl (fun hg _ => op_geq (.opt rfl fun h => h) (.opt rfl fun h => h)) (.n (fun _ => op_or (.plain rfl) (.plain rfl) (.plain rfl) (fun h => eqF h)) (.n (fun _ => op_move (.plain rfl)) (.gn rfl rfl (fun hg _ => op_move (.plain rfl)) (.gn rfl rfl (fun hg _ => op_move (.plain rfl)) (.gn rfl rfl (fun hg _ => op_eql (.opt rfl fun h => h) (.opt rfl fun h => h)) (.n (fun _ => op_or (.plain rfl) (.plain rfl) (.plain rfl) (fun h => eqF h)) (.nil _)))))))))))))) ?_
            refine awp_cond rfl (fun h => ?_) (fun h => ?_)
            · try simp only [decide_eq_true_eq, decide_eq_false_iff_not, Bool.and_eq_true, Bool.or_eq_true, Bool.and_eq_false_iff, Bool.or_eq_false_iff, Bool.not_eq_true', Bool.not_eq_false', Bool.not_eq_true, Bool.not_eq_false, Bool.true_eq_false, Bool.false_eq_true] at h
              have hf := (fit_last hF).1 (by omega)
              refine awp_seq ?_
              refine awp_region rfl (.n (fun _ => op_assign (.plain rfl)) (.nil _)) ?_
              refine awp_ret ?_
              refine retQ.ret ?_
              refine ret1 rfl rfl rfl ?_
              exact congrArg PV.i (mayE_8 h2 h7 h9 hE (by omega) hF (by omega) (if_pos hf))
            · try simp only [decide_eq_true_eq, decide_eq_false_iff_not, Bool.and_eq_true, Bool.or_eq_true, Bool.and_eq_false_iff, Bool.or_eq_false_iff, Bool.not_eq_true', Bool.not_eq_false', Bool.not_eq_true, Bool.not_eq_false, Bool.true_eq_false, Bool.false_eq_true] at h
              have hf := mt (fit_last hF).2 (by omega)
              refine awp_skip ?_
              refine awp_region rfl (.n (fun _ => op_move (.plain rfl)) (.n (fun _ => op_assign (.plain rfl)) (.nil _))) ?_
              refine awp_region rfl (.n (fun _ => op_add (.plain rfl) (.plain rfl) ?_) (.n (fun _ => op_move (.plain rfl)) (.nil _))) ?_
              · unfold InR; omega
              exact ⟨j + 1, ⟨by omega, firstE_succ hF (if_neg hf)⟩, by dsimp only; omega, (Ent.kept ⟨rfl, rfl, rfl, rfl, rfl, rfl, rfl, rfl, rfl, rfl, trivial⟩ trivial)⟩
          · try simp only [decide_eq_true_eq, decide_eq_false_iff_not, Bool.and_eq_true, Bool.or_eq_true, Bool.and_eq_false_iff, Bool.or_eq_false_iff, Bool.not_eq_true', Bool.not_eq_false', Bool.not_eq_true, Bool.not_eq_false, Bool.true_eq_false, Bool.false_eq_true] at h
            refine awp_exit ?_
            refine awp_region rfl (.n (fun _ => op_add (.plain rfl) (.plain rfl) ?_) (.n (fun _ => op_move (.plain rfl)) (.nil _))) ?_
            · unfold InR; omega
            exact ⟨i + 1, ⟨by omega, firstE_succ hE (fitE_ok hj hF (by omega))⟩, by dsimp only; omega, (Ent.kept ⟨rfl, rfl, rfl, rfl, rfl, trivial⟩ trivial)⟩
        · try simp only [decide_eq_true_eq, decide_eq_false_iff_not, Bool.and_eq_true, Bool.or_eq_true, Bool.and_eq_false_iff, Bool.or_eq_false_iff, Bool.not_eq_true', Bool.not_eq_false', Bool.not_eq_true, Bool.not_eq_false, Bool.true_eq_false, Bool.false_eq_true] at h
          refine awp_exit ?_
          refine awp_seq ?_
          refine awp_region rfl (.n (fun _ => op_assign (.plain rfl)) (.nil _)) ?_
          refine awp_ret ?_
          refine retQ.ret ?_
          refine ret1 rfl rfl rfl ?_
          exact congrArg PV.i (mayE_0 h2 h7 h9 hi hE (by omega))

theorem SwapMay_fc (G : Int) (F : List (List Int)) (Rd Rw : Int) : FC Try.prog 10 [.agg [.i G, .rows F, .i Rd, .i Rw]] (.i (mayE G F Rd Rw)) := by
  refine FC.intro Try.func10 rfl (Nat.le_of_ble_eq_true rfl) fun hfit => ?_
  have fit0 := hfit _ (.head _)
  have hFl := (fit0.mem (p := .rows F) (by simp)).rows
  have hGi := (fit0.mem (p := .i G) (by simp)).int64
  have hRi := (fit0.mem (p := .i Rd) (by simp)).int64
  have hWi := (fit0.mem (p := .i Rw) (by simp)).int64
  unfold InR at hGi hRi hWi
  refine awp_seq ?_
  refine awp_region rfl (.n (fun _ => op_box (.plain rfl) (by simp)) (.n (fun _ => op_assign (.plain rfl)) (.nil _))) ?_
  refine awp_seq ?_
  refine awp_region rfl (.n (fun _ => op_fieldAddr Try.underlying24 rfl rfl Try.sizeOf22 (.plain rfl)) (.n (fun _ => op_load Try.isAgg22 (.plain rfl)) (.n (fun _ => op_len (s := 0) Try.underlying22 (.plain rfl)) (.n (fun _ => op_assign (.plain rfl)) (.nil _))))) ?_
  refine awp_seq ?_
  refine awp_seq ?_
  refine awp_region rfl (.n (fun _ => op_move (.plain rfl)) (.n (fun _ => op_gtr (.plain rfl) (.plain rfl)) (.nil _))) ?_
  refine awp_cond rfl (fun h => ?_) (fun h => ?_)
  · try simp only [decide_eq_true_eq, decide_eq_false_iff_not, Bool.and_eq_true, Bool.or_eq_true, Bool.and_eq_false_iff, Bool.or_eq_false_iff, Bool.not_eq_true', Bool.not_eq_false', Bool.not_eq_true, Bool.not_eq_false, Bool.true_eq_false, Bool.false_eq_true] at h
    refine awp_seq ?_
    refine awp_region rfl (.n (fun _ => op_assign (.plain rfl)) (.nil _)) ?_
    refine awp_ret ?_
    refine retQ.ret ?_
    refine ret1 rfl rfl rfl ?_
    exact congrArg PV.i (mayE_2 h)
  · try simp only [decide_eq_true_eq, decide_eq_false_iff_not, Bool.and_eq_true, Bool.or_eq_true, Bool.and_eq_false_iff, Bool.or_eq_false_iff, Bool.not_eq_true', Bool.not_eq_false', Bool.not_eq_true, Bool.not_eq_false, Bool.true_eq_false, Bool.false_eq_true] at h
    have h2 := h
    refine awp_skip ?_
    refine awp_seq ?_
    refine awp_seq ?_
    refine awp_region rfl (.n (fun _ => op_fieldAddr Try.underlying24 rfl rfl Try.sizeOf3 (.plain rfl)) (.n (fun _ => op_load Try.isAgg3 (.plain rfl)) (.n (fun _ => op_lss (.plain rfl) (.plain rfl)) (.n (fun _ => op_move (.plain rfl)) (.gn rfl rfl (fun hg _ => op_fieldAddr Try.underlying24 rfl rfl Try.sizeOf3 (.plain rfl)) (.gn rfl rfl (fun hg _ => op_load Try.isAgg3 (.opt rfl fun h => h)) (.gn rfl rfl (fun hg _ => op_move (.plain rfl)) (.gn rfl rfl (fun hg _ => op_gtr (.opt rfl fun h => h) (.opt rfl fun h => h)) (.n (fun _ => op_or (.plain rfl) (.plain rfl) (.plain rfl) (fun h => eqF h)) (.nil _)))))))))) ?_
    refine awp_cond rfl (fun h => ?_) (fun h => ?_)
    · try simp only [decide_eq_true_eq, decide_eq_false_iff_not, Bool.and_eq_true, Bool.or_eq_true, Bool.and_eq_false_iff, Bool.or_eq_false_iff, Bool.not_eq_true', Bool.not_eq_false', Bool.not_eq_true, Bool.not_eq_false, Bool.true_eq_false, Bool.false_eq_true] at h
      refine awp_seq ?_
      refine awp_region rfl (.n (fun _ => op_assign (.plain rfl)) (.nil _)) ?_
      refine awp_ret ?_
      refine retQ.ret ?_
      refine ret1 rfl rfl rfl ?_
      exact congrArg PV.i (mayE_7 h2 h)
    · try simp only [decide_eq_true_eq, decide_eq_false_iff_not, Bool.and_eq_true, Bool.or_eq_true, Bool.and_eq_false_iff, Bool.or_eq_false_iff, Bool.not_eq_true', Bool.not_eq_false', Bool.not_eq_true, Bool.not_eq_false, Bool.true_eq_false, Bool.false_eq_true] at h
      have h7 : ¬ (G < 0 ∨ (F.length : Int) < G) := by omega
      refine awp_skip ?_
      refine awp_seq ?_
      refine awp_seq ?_
      refine awp_region rfl (.n (fun _ => op_fieldAddr Try.underlying24 rfl rfl Try.sizeOf3 (.plain rfl)) (.n (fun _ => op_load Try.isAgg3 (.plain rfl)) (.n (fun _ => op_lss (.plain rfl) (.plain rfl)) (.n (fun _ => op_move (.plain rfl)) (.gn rfl rfl (fun hg _ => op_fieldAddr Try.underlying24 rfl rfl Try.sizeOf3 (.plain rfl)) (.gn rfl rfl (fun hg _ => op_load Try.isAgg3 (.opt rfl fun h => h)) (.gn rfl rfl (fun hg _ => op_lss (.opt rfl fun h => h) (.plain rfl)) (.n (fun _ => op_or (.plain rfl) (.plain rfl) (.plain rfl) (fun h => eqF h)) (.n (fun _ => op_move (.plain rfl)) (.gn rfl rfl (fun hg _ => op_fieldAddr Try.underlying24 rfl rfl Try.sizeOf3 (.plain rfl)) (.gn rfl rfl (fun hg _ => op_load Try.isAgg3 (.opt rfl fun h => h)) (.gn rfl rfl (fun hg _ => op_move (.plain rfl)) (.gn rfl rfl (fun hg _ => op_gtr (.opt rfl fun h => h) (.opt rfl fun h => h)) (.n (fun _ => op_or (.plain rfl) (.plain rfl) (.plain rfl) (fun h => eqF h)) (.n (fun _ => op_move (.plain rfl)) (.gn rfl rfl (fun hg _ => op_fieldAddr Try.underlying24 rfl rfl Try.sizeOf3 (.plain rfl)) (.gn rfl rfl (fun hg _ => op_load Try.isAgg3 (.opt rfl fun h => h)) (.gn rfl rfl (fun hg _ => op_move (.plain rfl)) (.gn rfl rfl (fun hg _ => op_gtr (.opt rfl fun h => h) (.opt rfl fun h => h)) (.n (fun _ => op_or (.plain rfl) (.plain rfl) (.plain rfl) (fun h => eqF h)) (.nil _))))))))))))))))))))) ?_
      refine awp_cond rfl (fun h => ?_) (fun h => ?_)
      · try simp only [decide_eq_true_eq, decide_eq_false_iff_not, Bool.and_eq_true, Bool.or_eq_true, Bool.and_eq_false_iff, Bool.or_eq_false_iff, Bool.not_eq_true', Bool.not_eq_false', Bool.not_eq_true, Bool.not_eq_false, Bool.true_eq_false, Bool.false_eq_true] at h
        refine awp_seq ?_
        refine awp_region rfl (.n (fun _ => op_assign (.plain rfl)) (.nil _)) ?_
        refine awp_ret ?_
        refine retQ.ret ?_
        refine ret1 rfl rfl rfl ?_
        exact congrArg PV.i (mayE_9 h2 h7 h)
      · try simp only [decide_eq_true_eq, decide_eq_false_iff_not, Bool.and_eq_true, Bool.or_eq_true, Bool.and_eq_false_iff, Bool.or_eq_false_iff, Bool.not_eq_true', Bool.not_eq_false', Bool.not_eq_true, Bool.not_eq_false, Bool.true_eq_false, Bool.false_eq_true] at h
        have h9 : ¬ (((Rd < 0 ∨ Rw < 0) ∨ (F.length : Int) < Rd) ∨ (F.length : Int) < Rw) := by omega
        refine awp_skip ?_
        refine awp_seq ?_
        refine awp_seq ?_
        refine awp_region rfl (.n (fun _ => op_assign (.plain rfl)) (.nil _)) ?_
        refine awp_block ?_
        refine awp_loop (σ := Nat) (fun (i : Nat) => i ≤ F.length ∧ firstE (fun i => fitE G F.length i (F.getD i [])) i = 0) (fun (i : Nat) => ⟨[(1, .pv (.rd [.i G, .rows F, .i Rd, .i Rw])), (3, .int (F.length : Nat)), (4, .int (i : Nat))], []⟩) (fun (i : Nat) => F.length - i) 0 ?_ (Ent.kept ⟨rfl, rfl, rfl, trivial⟩ trivial) ?_
        · exact ⟨Nat.zero_le _, rfl⟩
        rintro i hp
        try dsimp only at hp
        obtain ⟨hi, hE⟩ := hp
        refine awp_seq ?_
        refine awp_seq ?_
        refine awp_region rfl (.n (fun _ => op_move (.plain rfl)) (.n (fun _ => op_move (.plain rfl)) (.n (fun _ => op_lss (.plain rfl) (.plain rfl)) (.nil _)))) ?_
        refine awp_cond rfl (fun h => ?_) (fun h => ?_)
        · try simp only [decide_eq_true_eq, decide_eq_false_iff_not, Bool.and_eq_true, Bool.or_eq_true, Bool.and_eq_false_iff, Bool.or_eq_false_iff, Bool.not_eq_true', Bool.not_eq_false', Bool.not_eq_true, Bool.not_eq_false, Bool.true_eq_false, Bool.false_eq_true] at h
          refine awp_skip ?_
          refine awp_seq ?_
          refine awp_block ?_
          refine awp_seq ?_
          refine awp_region rfl (.n (fun _ => op_assign (.plain rfl)) (.nil _)) ?_
          refine awp_block ?_
          refine awp_loop (σ := Nat) (fun (j : Nat) => j ≤ (F.getD i []).length ∧ firstE (fitB G F.length i (F.getD i [])) j = 0) (fun (j : Nat) => ⟨[(1, .pv (.rd [.i G, .rows F, .i Rd, .i Rw])), (3, .int (F.length : Nat)), (4, .int (i : Nat)), (5, .int (j : Nat))], []⟩) (fun (j : Nat) => (F.getD i []).length - j) 0 ?_ (Ent.kept ⟨rfl, rfl, rfl, rfl, trivial⟩ trivial) ?_
          · exact ⟨Nat.zero_le _, rfl⟩
          rintro j hp
          try dsimp only at hp
          obtain ⟨hj, hF⟩ := hp
          have hrl := (hFl.2 _ (getD_mem [] (show i < F.length by omega))).1
          refine awp_seq ?_
          refine awp_seq ?_
          refine awp_region rfl (.n (fun _ => op_move (.plain rfl)) (.n (fun _ => op_fieldAddr Try.underlying24 rfl rfl Try.sizeOf22 (.plain rfl)) (.n (fun _ => op_load Try.isAgg22 (.plain rfl)) (.n (fun _ => op_move (.plain rfl)) (.n (fun _ => op_indexAddrN Try.underlying22 Try.sizeOf35 (.plain rfl) (.plain rfl) (fun _ => rfl) ?_) (.n (fun _ => op_load Try.isAgg35 (.plain rfl)) (.n (fun _ => op_len (s := 0) Try.underlying35 (.plain rfl)) (.n (fun _ => op_lss (.plain rfl) (.plain rfl)) (.nil _))))))))) ?_
          · omega
          refine awp_cond rfl (fun h => ?_) (fun h => ?_)
          · try simp only [decide_eq_true_eq, decide_eq_false_iff_not, Bool.and_eq_true, Bool.or_eq_true, Bool.and_eq_false_iff, Bool.or_eq_false_iff, Bool.not_eq_true', Bool.not_eq_false', Bool.not_eq_true, Bool.not_eq_false, Bool.true_eq_false, Bool.false_eq_true] at h
            refine awp_skip ?_
            refine awp_seq ?_
            refine awp_block ?_
            refine awp_seq ?_
            refine awp_region rfl (.n (fun _ => op_fieldAddr Try.underlying24 rfl rfl Try.sizeOf22 (.plain rfl)) (.n (fun _ => op_load Try.isAgg22 (.plain rfl)) (.n (fun _ => op_move (.plain rfl)) (.n (fun _ => op_indexAddrN Try.underlying22 Try.sizeOf35 (.plain rfl) (.plain rfl) (fun _ => rfl) ?_) (.n (fun _ => op_load Try.isAgg35 (.plain rfl)) (.n (fun _ => op_move (.plain rfl)) (.n (fun _ => op_indexAddrN Try.underlying35 Try.sizeOf3 (.plain rfl) (.plain rfl) (fun _ => rfl) ?_) (.n (fun _ => op_load Try.isAgg3 (.plain rfl)) (.n (fun _ => op_assign (.plain rfl)) (.nil _)))))))))) ?_
            · omega
            · omega
            refine awp_seq ?_
            refine awp_region rfl (.n (fun _ => op_move (.plain rfl)) (.n (fun _ => op_fieldAddr Try.underlying24 rfl rfl Try.sizeOf3 (.plain rfl)) (.n (fun _ => op_load Try.isAgg3 (.plain rfl)) (.n (fun _ => op_lss (.plain rfl) (.plain rfl)) (.n (fun _ => op_move (.plain rfl)) (.gn rfl rfl (fun hg _ => op_move (.plain rfl)) (.gn rfl rfl (fun hg _ => op_move (.plain rfl)) (.gn rfl rfl (fun hg _ => op_geq (.opt rfl fun h => h) (.opt rfl fun h => h)) (.n (fun _ => op_or (.plain rfl) (.plain rfl) (.plain rfl) (fun h => eqF h)) (.n (fun _ => op_move (.plain rfl)) (.gn rfl rfl (fun hg _ => op_move (.plain rfl)) (.gn rfl rfl (fun hg _ => op_move (.plain rfl)) (.gn rfl rfl (fun hg _ => op_eql (.opt rfl fun h => h) (.opt rfl fun h => h)) (.n (fun _ => op_or (.plain rfl) (.plain rfl) (.plain rfl) (fun h => eqF h)) (.n (fun _ => op_move (.plain rfl)) (.gn rfl rfl (fun hg _ => op_move (.plain rfl)) (.gn rfl rfl (fun hg _ => op_gtr (.opt rfl fun h => h) (.plain rfl)) (.gn rfl rfl (fun hg _ => op_move (.opt rfl fun h => h)) (.ggn rfl rfl (fun hg _ => op_move (.plain rfl)) (.ggn rfl rfl (fun hg _ => op_fieldAddr Try.underlying24 rfl rfl Try.sizeOf22 (.plain rfl)) (.ggn rfl rfl (fun hg _ => op_load Try.isAgg22 (.opt rfl fun h => h)) (.ggn rfl rfl (fun hg _ => op_move (.plain rfl)) (.ggn rfl rfl (fun hg _ => op_indexAddrN Try.underlying22 Try.sizeOf35 (.opt rfl fun h => h) (.opt rfl fun h => h) (fun _ => rfl) ?_) (.ggn rfl rfl (fun hg _ => op_load Try.isAgg35 (.opt rfl fun h => h)) (.ggn rfl rfl (fun hg _ => op_move (.plain rfl)) (.ggn rfl rfl (fun hg _ => op_sub (.opt rfl fun h => h) (.plain rfl) ?_) (.ggn rfl rfl (fun hg _ => op_indexAddr Try.underlying35 Try.sizeOf3 (.opt rfl fun h => h) (.opt rfl fun h => h) (fun _ => rfl) ?_) (.ggn rfl rfl (fun hg _ => op_load Try.isAgg3 (.opt rfl fun h => h)) (.ggn rfl rfl (fun hg _ => op_leq (.opt rfl fun h => h) (.opt rfl fun h => h)) (.gn rfl rfl (fun hg _ => op_and (.opt rfl fun h => h) (.plain rfl) (.plain rfl) (fun h => andI hg (eqT h))) (.n (fun _ => op_or (.plain rfl) (.plain rfl) (.plain rfl) (fun h => eqF h)) (.nil _)))))))))))))))))))))))))))))))) ?_
            · try simp only [beq_iff_eq, beq_true, beq_false, Bool.and_eq_true, decide_eq_true_eq, decide_eq_false_iff_not, Bool.not_eq_true', Bool.or_eq_true, Bool.or_eq_false_iff] at hg
              omega
            · try simp only [beq_iff_eq, beq_true, beq_false, Bool.and_eq_true, decide_eq_true_eq, decide_eq_false_iff_not, Bool.not_eq_true', Bool.or_eq_true, Bool.or_eq_false_iff] at hg
              unfold InR; omega
            · try simp only [beq_iff_eq, beq_true, beq_false, Bool.and_eq_true, decide_eq_true_eq, decide_eq_false_iff_not, Bool.not_eq_true', Bool.or_eq_true, Bool.or_eq_false_iff] at hg
              omega
            refine awp_cond rfl (fun h => ?_) (fun h => ?_)
            · try simp only [decide_eq_true_eq, decide_eq_false_iff_not, Bool.and_eq_true, Bool.or_eq_true, Bool.and_eq_false_iff, Bool.or_eq_false_iff, Bool.not_eq_true', Bool.not_eq_false', Bool.not_eq_true, Bool.not_eq_false, Bool.true_eq_false, Bool.false_eq_true] at h
              rw [show ((j : Int) - 1).toNat = j - 1 by omega] at h
              refine awp_seq ?_
              refine awp_region rfl (.n (fun _ => op_assign (.plain rfl)) (.nil _)) ?_
              refine awp_ret ?_
              refine retQ.ret ?_
              refine ret1 rfl rfl rfl ?_
              exact congrArg PV.i (mayE_8 h2 h7 h9 hE (by omega) hF (by omega) (if_pos (by omega)))
            · try simp only [decide_eq_true_eq, decide_eq_false_iff_not, Bool.and_eq_true, Bool.or_eq_true, Bool.and_eq_false_iff, Bool.or_eq_false_iff, Bool.not_eq_true', Bool.not_eq_false', Bool.not_eq_true, Bool.not_eq_false, Bool.true_eq_false, Bool.false_eq_true] at h
              rw [show ((j : Int) - 1).toNat = j - 1 by omega] at h
              refine awp_skip ?_
              refine awp_region rfl (.n (fun _ => op_move (.plain rfl)) (.n (fun _ => op_add (.plain rfl) (.plain rfl) ?_) (.n (fun _ => op_assign (.plain rfl)) (.nil _)))) ?_
              · unfold InR; omega
              exact ⟨j + 1, ⟨by omega, firstE_succ hF (if_neg (by omega))⟩, by dsimp only; omega, (Ent.kept ⟨rfl, rfl, rfl, rfl, trivial⟩ trivial)⟩
          · try simp only [decide_eq_true_eq, decide_eq_false_iff_not, Bool.and_eq_true, Bool.or_eq_true, Bool.and_eq_false_iff, Bool.or_eq_false_iff, Bool.not_eq_true', Bool.not_eq_false', Bool.not_eq_true, Bool.not_eq_false, Bool.true_eq_false, Bool.false_eq_true] at h
            refine awp_exit ?_
            refine awp_region rfl (.n (fun _ => op_move (.plain rfl)) (.n (fun _ => op_add (.plain rfl) (.plain rfl) ?_) (.n (fun _ => op_assign (.plain rfl)) (.nil _)))) ?_
            · unfold InR; omega
            exact ⟨i + 1, ⟨by omega, firstE_succ hE (fitE_ok hj hF (by omega))⟩, by dsimp only; omega, (Ent.kept ⟨rfl, rfl, rfl, trivial⟩ trivial)⟩
        · try simp only [decide_eq_true_eq, decide_eq_false_iff_not, Bool.and_eq_true, Bool.or_eq_true, Bool.and_eq_false_iff, Bool.or_eq_false_iff, Bool.not_eq_true', Bool.not_eq_false', Bool.not_eq_true, Bool.not_eq_false, Bool.true_eq_false, Bool.false_eq_true] at h
          refine awp_exit ?_
          refine awp_seq ?_
          refine awp_region rfl (.n (fun _ => op_assign (.plain rfl)) (.nil _)) ?_
          refine awp_ret ?_
          refine retQ.ret ?_
          refine ret1 rfl rfl rfl ?_
          exact congrArg PV.i (mayE_0 h2 h7 h9 hi hE (by omega))

theorem Check_fc (G : Int) (F : List (List Int)) (Rd Rw : Int) (rs ws : List (List Int)) (hb1 : heavyF rs = false) (hb2 : heavyF ws = false) : FC Try.prog 7 [.agg [.i G, .rows F, .i Rd, .i Rw], .rows rs, .rows ws] (.tup [.i (giftF G F Rd Rw rs ws), .i (checkE G F Rd Rw rs ws)]) := by
  refine FC.intro Try.func7 rfl (Nat.le_of_ble_eq_true rfl) fun hfit => ?_
  have fit0 := hfit _ (.head _)
  obtain ⟨fitl1, fitr1⟩ := (hfit _ (.tail _ (.head _))).rows
  obtain ⟨fitl2, fitr2⟩ := (hfit _ (.tail _ (.tail _ (.head _)))).rows
  have hFl := (fit0.mem (p := .rows F) (by simp)).rows
  have hGi := (fit0.mem (p := .i G) (by simp)).int64
  have hRi := (fit0.mem (p := .i Rd) (by simp)).int64
  have hWi := (fit0.mem (p := .i Rw) (by simp)).int64
  unfold InR at hGi hRi hWi
  have hrs := heavy_row hb1
  have hws := heavy_row hb2
  refine awp_seq ?_
  refine awp_region rfl (.n (fun _ => op_box (.plain rfl) (by simp)) (.n (fun _ => op_assign (.plain rfl)) (.n (fun _ => op_assign (.plain rfl)) (.nil _)))) ?_
  refine awp_seq ?_
  refine awp_seq ?_
  refine awp_region rfl (.n (fun _ => op_load_agg Try.isAgg24 Try.sizeOf24 (.plain rfl) (Nat.le_of_ble_eq_true rfl)) (.n (fun _ => op_call1 Try.call9 (.plain rfl) (May_fc _ _ _ _)) (.n (fun _ => op_assign (.plain rfl)) (.nil _)))) ?_
  refine awp_seq ?_
  refine awp_region rfl (.n (fun _ => op_move (.plain rfl)) (.n (fun _ => op_neq (.plain rfl) (.plain rfl)) (.nil _))) ?_
  refine awp_cond rfl (fun h => ?_) (fun h => ?_)
  · try simp only [decide_eq_true_eq, decide_eq_false_iff_not, Bool.and_eq_true, Bool.or_eq_true, Bool.and_eq_false_iff, Bool.or_eq_false_iff, Bool.not_eq_true', Bool.not_eq_false', Bool.not_eq_true, Bool.not_eq_false, Bool.true_eq_false, Bool.false_eq_true] at h
    refine awp_seq ?_
    refine awp_region rfl (.n (fun _ => op_move (.plain rfl)) (.n (fun _ => op_assign (.plain rfl)) (.n (fun _ => op_assign (.plain rfl)) (.nil _)))) ?_
    refine awp_ret ?_
    refine retQ.ret ?_
    refine ret2 rfl rfl rfl rfl rfl ?_
    exact res_may h
  · try simp only [decide_eq_true_eq, decide_eq_false_iff_not, Bool.and_eq_true, Bool.or_eq_true, Bool.and_eq_false_iff, Bool.or_eq_false_iff, Bool.not_eq_true', Bool.not_eq_false', Bool.not_eq_true, Bool.not_eq_false, Bool.true_eq_false, Bool.false_eq_true] at h
    have hM := h
    refine awp_skip ?_
    refine awp_seq ?_
    refine awp_region rfl (.e (op_makeMap 22 rfl) rfl (.n (fun _ => op_assign (.plain rfl)) (.n (fun _ => op_assign (.plain rfl)) (.nil _)))) ?_
    refine awp_seq ?_
    refine awp_seq ?_
    refine awp_region rfl (.n (fun _ => op_move (.plain rfl)) (.n (fun _ => op_len (s := 0) Try.underlying22 (.plain rfl)) (.n (fun _ => op_move (.plain rfl)) (.nil _)))) ?_
    refine awp_block ?_
    refine awp_loop (σ := Nat) (fun (k : Nat) => k ≤ rs.length ∧ firstE (itemB G F Rd Rw rs ws) k = 0) (fun (k : Nat) => ⟨[(2, .pv (.rows ws)), (3, .pv (.rd [.i G, .rows F, .i Rd, .i Rw])), (9, .own 22), (10, .int (sumTo (giftB rs ws) k)), (23, .pv (.rows rs)), (24, .int (rs.length : Nat)), (25, .int (k : Nat))], [(22, .mp (U (usedTo rs ws k)))]⟩) (fun (k : Nat) => rs.length - k) 0 ?_ (Ent.kept ⟨rfl, rfl, rfl, rfl, rfl, rfl, rfl, trivial⟩ ⟨rfl, trivial⟩) ?_
    · exact ⟨Nat.zero_le _, rfl⟩
    rintro k hp
    try dsimp only at hp
    obtain ⟨hk, hE⟩ := hp
    refine awp_seq ?_
    refine awp_region rfl (.n (fun _ => op_lss (.plain rfl) (.plain rfl)) (.nil _)) ?_
    refine awp_seq ?_
    refine awp_cond rfl (fun h => ?_) (fun h => ?_)
    · try simp only [decide_eq_true_eq, decide_eq_false_iff_not, Bool.and_eq_true, Bool.or_eq_true, Bool.and_eq_false_iff, Bool.or_eq_false_iff, Bool.not_eq_true', Bool.not_eq_false', Bool.not_eq_true, Bool.not_eq_false, Bool.true_eq_false, Bool.false_eq_true] at h
      have hl : lAt rs ws k = rs.getD k [] := lAt_rd (by omega)
      refine awp_skip ?_
      refine awp_seq ?_
      refine awp_block ?_
      refine awp_seq ?_
      refine awp_region rfl (.n (fun _ => op_indexAddrN Try.underlying22 Try.sizeOf35 (.plain rfl) (.plain rfl) (fun _ => rfl) ?_) (.n (fun _ => op_load Try.isAgg35 (.plain rfl)) (.n (fun _ => op_assign (.plain rfl)) (.nil _)))) ?_
      · omega
      refine awp_seq ?_
      refine awp_seq ?_
      refine awp_region rfl (.n (fun _ => op_load_agg Try.isAgg24 Try.sizeOf24 (.plain rfl) (Nat.le_of_ble_eq_true rfl)) (.n (fun _ => op_move (.plain rfl)) (.n (fun _ => op_move (.plain rfl)) (.e (op_callM (vals := [some _, some _, none]) 22 Try.call14 ⟨(.plain rfl), (.plain rfl), (.plain rfl), trivial⟩ rfl (line_fcm _ _ _ _ _ _) rfl trivial trivial) rfl (.n (fun _ => op_assign (.plain rfl)) (.nil _)))))) ?_
      refine awp_seq ?_
      refine awp_region rfl (.n (fun _ => op_move (.plain rfl)) (.n (fun _ => op_neq (.plain rfl) (.plain rfl)) (.nil _))) ?_
      refine awp_cond rfl (fun h => ?_) (fun h => ?_)
      · try simp only [decide_eq_true_eq, decide_eq_false_iff_not, Bool.and_eq_true, Bool.or_eq_true, Bool.and_eq_false_iff, Bool.or_eq_false_iff, Bool.not_eq_true', Bool.not_eq_false', Bool.not_eq_true, Bool.not_eq_false, Bool.true_eq_false, Bool.false_eq_true] at h
        refine awp_seq ?_
        refine awp_region rfl (.n (fun _ => op_move (.plain rfl)) (.n (fun _ => op_assign (.plain rfl)) (.n (fun _ => op_assign (.plain rfl)) (.nil _)))) ?_
        refine awp_ret ?_
        refine retQ.ret ?_
        refine ret2 rfl rfl rfl rfl rfl ?_
        rw [← hl] at h ⊢
        exact res_at hM hE (by omega) (itemB_line h) h
      · try simp only [decide_eq_true_eq, decide_eq_false_iff_not, Bool.and_eq_true, Bool.or_eq_true, Bool.and_eq_false_iff, Bool.or_eq_false_iff, Bool.not_eq_true', Bool.not_eq_false', Bool.not_eq_true, Bool.not_eq_false, Bool.true_eq_false, Bool.false_eq_true] at h
        have h0 := h
        have hz := lineE_zero h0
        have hin := fun j (hj : j < (rs.getD k []).length) => lineE_in h0 hj
        rw [← hl] at h0
        refine awp_skip ?_
        refine awp_seq ?_
        refine awp_seq ?_
        refine awp_region_draw mixed rfl (.n (fun _ => op_move (.plain rfl)) (.n (fun _ => op_len (s := 0) Try.underlying35 (.plain rfl)) (.n (fun _ => op_fieldAddr Try.underlying24 rfl rfl Try.sizeOf3 (.plain rfl)) (.n (fun _ => op_load Try.isAgg3 (.plain rfl)) (.n (fun _ => op_gtr (.plain rfl) (.plain rfl)) (.n (fun _ => op_move (.plain rfl)) (.gn rfl rfl (fun hg _ => op_move (.plain rfl)) (.gn rfl rfl (fun hg _ => op_indexAddr Try.underlying35 Try.sizeOf3 (.opt rfl fun h => h) (.plain rfl) (fun _ => rfl) ?_) (.gn rfl rfl (fun hg _ => op_load Try.isAgg3 (.opt rfl fun h => h)) (.gn rfl rfl (fun hg _ => op_fieldAddr Try.underlying24 rfl rfl Try.sizeOf3 (.plain rfl)) (.gn rfl rfl (fun hg _ => op_load Try.isAgg3 (.opt rfl fun h => h)) (.gn rfl rfl (fun hg _ => op_lss (.opt rfl fun h => h) (.opt rfl fun h => h)) (.n (fun _ => op_or (.plain rfl) (.plain rfl) (.plain rfl) (fun h => eqF h)) (.n (fun _ => op_move (.plain rfl)) (.gn rfl rfl (fun hg _ => op_load_agg Try.isAgg24 Try.sizeOf24 (.plain rfl) (Nat.le_of_ble_eq_true rfl)) (.gn rfl rfl (fun hg _ => op_move (.plain rfl)) (.gn rfl rfl (fun hg _ => op_move (.plain rfl)) (.gn rfl rfl (fun hg _ => op_len (s := 0) Try.underlying35 (.opt rfl fun h => h)) (.gn rfl rfl (fun hg _ => op_sub (.opt rfl fun h => h) (.plain rfl) ?_) (.gn rfl rfl (fun hg _ => op_indexAddr Try.underlying35 Try.sizeOf3 (.opt rfl fun h => h) (.opt rfl fun h => h) (fun _ => rfl) ?_) (.gn rfl rfl (fun hg _ => op_load Try.isAgg3 (.opt rfl fun h => h)) (.gn rfl rfl (fun hg _ => op_move (.plain rfl)) (.gn rfl rfl (fun hg _ => op_indexAddr Try.underlying35 Try.sizeOf3 (.opt rfl fun h => h) (.plain rfl) (fun _ => rfl) ?_) (.gn rfl rfl (fun hg _ => op_load Try.isAgg3 (.opt rfl fun h => h)) (.gn rfl rfl (fun hg _ => op_call3 Try.call15 (.opt rfl fun h => h) (.opt rfl fun h => h) (.opt rfl fun h => h) (gives_fc _ _ _ _ _ _ ?_)) (.gn rfl rfl (fun hg _ => op_not (.opt rfl fun h => h)) (.n (fun _ => op_or (.plain rfl) (.plain rfl) (.plain rfl) (fun h => eqF h)) (.nil _)))))))))))))))))))))))))))) ?d2 ?_
        · try simp only [beq_iff_eq, beq_true, beq_false, Bool.and_eq_true, decide_eq_true_eq, decide_eq_false_iff_not, Bool.not_eq_true', Bool.or_eq_true, Bool.or_eq_false_iff] at hg
          omega
        · try simp only [beq_iff_eq, beq_true, beq_false, Bool.and_eq_true, decide_eq_true_eq, decide_eq_false_iff_not, Bool.not_eq_true', Bool.or_eq_true, Bool.or_eq_false_iff] at hg
          unfold InR; omega
        · try simp only [beq_iff_eq, beq_true, beq_false, Bool.and_eq_true, decide_eq_true_eq, decide_eq_false_iff_not, Bool.not_eq_true', Bool.or_eq_true, Bool.or_eq_false_iff] at hg
          omega
        · try simp only [beq_iff_eq, beq_true, beq_false, Bool.and_eq_true, decide_eq_true_eq, decide_eq_false_iff_not, Bool.not_eq_true', Bool.or_eq_true, Bool.or_eq_false_iff] at hg
          omega
        · try simp only [beq_iff_eq, beq_true, beq_false, Bool.and_eq_true, decide_eq_true_eq, decide_eq_false_iff_not, Bool.not_eq_true', Bool.or_eq_true, Bool.or_eq_false_iff] at hg
          rw [show (((rs.getD k []).length : Int) - 1).toNat = (rs.getD k []).length - 1 by omega]; exact hin _ (by omega)
        · kernel_rfl
        refine awp_cond rfl (fun h => ?_) (fun h => ?_)
        · try simp only [decide_eq_true_eq, decide_eq_false_iff_not, Bool.and_eq_true, Bool.or_eq_true, Bool.and_eq_false_iff, Bool.or_eq_false_iff, Bool.not_eq_true', Bool.not_eq_false', Bool.not_eq_true, Bool.not_eq_false, Bool.true_eq_false, Bool.false_eq_true] at h
          rw [show (((rs.getD k []).length : Int) - 1).toNat = (rs.getD k []).length - 1 by omega] at h
          try simp only [Int.toNat_zero] at h
          refine awp_seq ?_
          refine awp_region rfl (.n (fun _ => op_assign (.plain rfl)) (.n (fun _ => op_assign (.plain rfl)) (.nil _))) ?_
          refine awp_ret ?_
          refine retQ.ret ?_
          refine ret2 rfl rfl rfl rfl rfl ?_
          exact res_at hM hE (by omega) (itemB_rd11 h0 (by omega) (by rw [hl]; unfold lastF; omega)) (by omega)
        · try simp only [decide_eq_true_eq, decide_eq_false_iff_not, Bool.and_eq_true, Bool.or_eq_true, Bool.and_eq_false_iff, Bool.or_eq_false_iff, Bool.not_eq_true', Bool.not_eq_false', Bool.not_eq_true, Bool.not_eq_false, Bool.true_eq_false, Bool.false_eq_true] at h
          rw [show (((rs.getD k []).length : Int) - 1).toNat = (rs.getD k []).length - 1 by omega] at h
          try simp only [Int.toNat_zero] at h
          refine awp_skip ?_
          refine awp_region rfl (.n (fun _ => op_move (.plain rfl)) (.n (fun _ => op_move (.plain rfl)) (.n (fun _ => op_len (s := 0) Try.underlying35 (.plain rfl)) (.n (fun _ => op_add (.plain rfl) (.plain rfl) ?_) (.n (fun _ => op_assign (.plain rfl)) (.nil _)))))) ?_
          · have := gift_bd hb1 hb2 k (by omega); have := hrs.2 k; unfold InR; omega
          refine awp_region rfl (.n (fun _ => op_add (.plain rfl) (.plain rfl) ?_) (.n (fun _ => op_move (.plain rfl)) (.nil _))) ?_
          · unfold InR; omega
          exact ⟨k + 1, ⟨by omega, firstE_succ hE (itemB_rd0 h0 (by omega) (by rw [hl]; unfold lastF; omega))⟩, by dsimp only; omega, (Ent.kept ⟨rfl, rfl, rfl, (congrArg (fun n => some (SV.int n)) (giftB_rd (by omega))), rfl, rfl, rfl, trivial⟩ ⟨(congrArg (fun m => some (Blk.mp m)) (used_U hl (by rw [← hl]; exact h0))), trivial⟩)⟩
    · try simp only [decide_eq_true_eq, decide_eq_false_iff_not, Bool.and_eq_true, Bool.or_eq_true, Bool.and_eq_false_iff, Bool.or_eq_false_iff, Bool.not_eq_true', Bool.not_eq_false', Bool.not_eq_true, Bool.not_eq_false, Bool.true_eq_false, Bool.false_eq_true] at h
      refine awp_exit ?_
      refine awp_seq ?_
      refine awp_seq ?_
      obtain rfl : k = rs.length := by omega
      refine awp_region rfl (.n (fun _ => op_move (.plain rfl)) (.n (fun _ => op_len (s := 0) Try.underlying22 (.plain rfl)) (.n (fun _ => op_move (.plain rfl)) (.nil _)))) ?_
      refine awp_block ?_
      refine awp_loop (σ := Nat) (fun (j : Nat) => j ≤ ws.length ∧ firstE (itemB G F Rd Rw rs ws) (rs.length + j) = 0) (fun (j : Nat) => ⟨[(3, .pv (.rd [.i G, .rows F, .i Rd, .i Rw])), (9, .own 22), (10, .int (sumTo (giftB rs ws) (rs.length + j))), (68, .pv (.rows ws)), (69, .int (ws.length : Nat)), (70, .int (j : Nat))], [(22, .mp (U (usedTo rs ws (rs.length + j))))]⟩) (fun (j : Nat) => ws.length - j) 0 ?_ (Ent.kept ⟨rfl, rfl, rfl, rfl, rfl, rfl, trivial⟩ ⟨rfl, trivial⟩) ?_
      · exact ⟨Nat.zero_le _, hE⟩
      rintro j hp
      try dsimp only at hp
      obtain ⟨hj, hF⟩ := hp
      have hl : lAt rs ws (rs.length + j) = ws.getD j [] := lAt_rw
      refine awp_seq ?_
      refine awp_region rfl (.n (fun _ => op_lss (.plain rfl) (.plain rfl)) (.nil _)) ?_
      refine awp_seq ?_
      refine awp_cond rfl (fun h => ?_) (fun h => ?_)
      · try simp only [decide_eq_true_eq, decide_eq_false_iff_not, Bool.and_eq_true, Bool.or_eq_true, Bool.and_eq_false_iff, Bool.or_eq_false_iff, Bool.not_eq_true', Bool.not_eq_false', Bool.not_eq_true, Bool.not_eq_false, Bool.true_eq_false, Bool.false_eq_true] at h
        refine awp_skip ?_
        refine awp_seq ?_
        refine awp_block ?_
        refine awp_seq ?_
        refine awp_region rfl (.n (fun _ => op_indexAddrN Try.underlying22 Try.sizeOf35 (.plain rfl) (.plain rfl) (fun _ => rfl) ?_) (.n (fun _ => op_load Try.isAgg35 (.plain rfl)) (.n (fun _ => op_assign (.plain rfl)) (.nil _)))) ?_
        · omega
        refine awp_seq ?_
        refine awp_seq ?_
        refine awp_region rfl (.n (fun _ => op_load_agg Try.isAgg24 Try.sizeOf24 (.plain rfl) (Nat.le_of_ble_eq_true rfl)) (.n (fun _ => op_move (.plain rfl)) (.n (fun _ => op_move (.plain rfl)) (.e (op_callM (vals := [some _, some _, none]) 22 Try.call14 ⟨(.plain rfl), (.plain rfl), (.plain rfl), trivial⟩ rfl (line_fcm _ _ _ _ _ _) rfl trivial trivial) rfl (.n (fun _ => op_assign (.plain rfl)) (.nil _)))))) ?_
        refine awp_seq ?_
        refine awp_region rfl (.n (fun _ => op_move (.plain rfl)) (.n (fun _ => op_neq (.plain rfl) (.plain rfl)) (.nil _))) ?_
        refine awp_cond rfl (fun h => ?_) (fun h => ?_)
        · try simp only [decide_eq_true_eq, decide_eq_false_iff_not, Bool.and_eq_true, Bool.or_eq_true, Bool.and_eq_false_iff, Bool.or_eq_false_iff, Bool.not_eq_true', Bool.not_eq_false', Bool.not_eq_true, Bool.not_eq_false, Bool.true_eq_false, Bool.false_eq_true] at h
          refine awp_seq ?_
          refine awp_region rfl (.n (fun _ => op_move (.plain rfl)) (.n (fun _ => op_assign (.plain rfl)) (.n (fun _ => op_assign (.plain rfl)) (.nil _)))) ?_
          refine awp_ret ?_
          refine retQ.ret ?_
          refine ret2 rfl rfl rfl rfl rfl ?_
          rw [← hl] at h ⊢
          exact res_at hM hF (by omega) (itemB_line h) h
        · try simp only [decide_eq_true_eq, decide_eq_false_iff_not, Bool.and_eq_true, Bool.or_eq_true, Bool.and_eq_false_iff, Bool.or_eq_false_iff, Bool.not_eq_true', Bool.not_eq_false', Bool.not_eq_true, Bool.not_eq_false, Bool.true_eq_false, Bool.false_eq_true] at h
          have h0 := h
          have hwj := hws.2 j
          have hz := lineE_zero h0
          rw [← hl] at h0
          refine awp_skip ?_
          refine awp_seq ?_
          refine awp_seq ?_
          refine awp_region_draw mixed rfl (.n (fun _ => op_move (.plain rfl)) (.n (fun _ => op_len (s := 0) Try.underlying35 (.plain rfl)) (.n (fun _ => op_sub (.plain rfl) (.plain rfl) ?_) (.n (fun _ => op_fieldAddr Try.underlying24 rfl rfl Try.sizeOf3 (.plain rfl)) (.n (fun _ => op_load Try.isAgg3 (.plain rfl)) (.n (fun _ => op_gtr (.plain rfl) (.plain rfl)) (.n (fun _ => op_move (.plain rfl)) (.gn rfl rfl (fun hg _ => op_move (.plain rfl)) (.gn rfl rfl (fun hg _ => op_indexAddr Try.underlying35 Try.sizeOf3 (.opt rfl fun h => h) (.plain rfl) (fun _ => rfl) ?_) (.gn rfl rfl (fun hg _ => op_load Try.isAgg3 (.opt rfl fun h => h)) (.gn rfl rfl (fun hg _ => op_fieldAddr Try.underlying24 rfl rfl Try.sizeOf3 (.plain rfl)) (.gn rfl rfl (fun hg _ => op_load Try.isAgg3 (.opt rfl fun h => h)) (.gn rfl rfl (fun hg _ => op_geq (.opt rfl fun h => h) (.opt rfl fun h => h)) (.n (fun _ => op_or (.plain rfl) (.plain rfl) (.plain rfl) (fun h => eqF h)) (.nil _))))))))))))))) ?d3 ?_
          · unfold InR; omega
          · try simp only [beq_iff_eq, beq_true, beq_false, Bool.and_eq_true, decide_eq_true_eq, decide_eq_false_iff_not, Bool.not_eq_true', Bool.or_eq_true, Bool.or_eq_false_iff] at hg
            omega
          · kernel_rfl
          refine awp_cond rfl (fun h => ?_) (fun h => ?_)
          · try simp only [decide_eq_true_eq, decide_eq_false_iff_not, Bool.and_eq_true, Bool.or_eq_true, Bool.and_eq_false_iff, Bool.or_eq_false_iff, Bool.not_eq_true', Bool.not_eq_false', Bool.not_eq_true, Bool.not_eq_false, Bool.true_eq_false, Bool.false_eq_true] at h
            try simp only [Int.toNat_zero] at h
            refine awp_seq ?_
            refine awp_region rfl (.n (fun _ => op_assign (.plain rfl)) (.n (fun _ => op_assign (.plain rfl)) (.nil _))) ?_
            refine awp_ret ?_
            refine retQ.ret ?_
            refine ret2 rfl rfl rfl rfl rfl ?_
            exact res_at hM hF (by omega) (itemB_rw11 h0 (by omega) (by rw [hl]; omega)) (by omega)
          · try simp only [decide_eq_true_eq, decide_eq_false_iff_not, Bool.and_eq_true, Bool.or_eq_true, Bool.and_eq_false_iff, Bool.or_eq_false_iff, Bool.not_eq_true', Bool.not_eq_false', Bool.not_eq_true, Bool.not_eq_false, Bool.true_eq_false, Bool.false_eq_true] at h
            try simp only [Int.toNat_zero] at h
            refine awp_skip ?_
            refine awp_region rfl (.n (fun _ => op_move (.plain rfl)) (.n (fun _ => op_move (.plain rfl)) (.n (fun _ => op_len (s := 0) Try.underlying35 (.plain rfl)) (.n (fun _ => op_sub (.plain rfl) (.plain rfl) ?_) (.n (fun _ => op_add (.plain rfl) (.plain rfl) ?_) (.n (fun _ => op_assign (.plain rfl)) (.nil _))))))) ?_
            · have := hws.2 j; unfold InR; omega
            · have := gift_bd hb1 hb2 (rs.length + j) (by omega); have := hws.2 j; unfold InR; omega
            refine awp_region rfl (.n (fun _ => op_add (.plain rfl) (.plain rfl) ?_) (.n (fun _ => op_move (.plain rfl)) (.nil _))) ?_
            · unfold InR; omega
            exact ⟨j + 1, ⟨by omega, show firstE (itemB G F Rd Rw rs ws) (rs.length + j + 1) = 0 from firstE_succ hF (itemB_rw0 h0 (by omega) (by rw [hl]; omega))⟩, by dsimp only; omega, (Ent.kept ⟨rfl, rfl, (congrArg (fun n => some (SV.int n)) (giftB_rw)), rfl, rfl, rfl, trivial⟩ ⟨(congrArg (fun m => some (Blk.mp m)) (used_U hl (by rw [← hl]; exact h0))), trivial⟩)⟩
      · try simp only [decide_eq_true_eq, decide_eq_false_iff_not, Bool.and_eq_true, Bool.or_eq_true, Bool.and_eq_false_iff, Bool.or_eq_false_iff, Bool.not_eq_true', Bool.not_eq_false', Bool.not_eq_true, Bool.not_eq_false, Bool.true_eq_false, Bool.false_eq_true] at h
        refine awp_exit ?_
        refine awp_seq ?_
        refine awp_region rfl (.n (fun _ => op_move (.plain rfl)) (.n (fun _ => op_assign (.plain rfl)) (.n (fun _ => op_assign (.plain rfl)) (.nil _)))) ?_
        refine awp_ret ?_
        refine retQ.ret ?_
        refine ret2 rfl rfl rfl rfl rfl ?_
        exact res_ok hM hF (by omega)

theorem SwapCheck_fc (G : Int) (F : List (List Int)) (Rd Rw : Int) (rs ws : List (List Int)) (hb1 : heavyF rs = false) (hb2 : heavyF ws = false) : FC Try.prog 8 [.agg [.i G, .rows F, .i Rd, .i Rw], .rows rs, .rows ws] (.tup [.i (giftF G F Rd Rw rs ws), .i (checkE G F Rd Rw rs ws)]) := by
  refine FC.intro Try.func8 rfl (Nat.le_of_ble_eq_true rfl) fun hfit => ?_
  have fit0 := hfit _ (.head _)
  obtain ⟨fitl1, fitr1⟩ := (hfit _ (.tail _ (.head _))).rows
  obtain ⟨fitl2, fitr2⟩ := (hfit _ (.tail _ (.tail _ (.head _)))).rows
  have hFl := (fit0.mem (p := .rows F) (by simp)).rows
  have hGi := (fit0.mem (p := .i G) (by simp)).int64
  have hRi := (fit0.mem (p := .i Rd) (by simp)).int64
  have hWi := (fit0.mem (p := .i Rw) (by simp)).int64
  unfold InR at hGi hRi hWi
  have hrs := heavy_row hb1
  have hws := heavy_row hb2
  refine awp_seq ?_
  refine awp_region rfl (.n (fun _ => op_box (.plain rfl) (by simp)) (.n (fun _ => op_assign (.plain rfl)) (.n (fun _ => op_assign (.plain rfl)) (.nil _)))) ?_
  refine awp_seq ?_
  refine awp_region rfl (.n (fun _ => op_load_agg Try.isAgg24 Try.sizeOf24 (.plain rfl) (Nat.le_of_ble_eq_true rfl)) (.n (fun _ => op_call1 Try.call10 (.plain rfl) (SwapMay_fc _ _ _ _)) (.n (fun _ => op_assign (.plain rfl)) (.nil _)))) ?_
  refine awp_seq ?_
  refine awp_seq ?_
  refine awp_region rfl (.n (fun _ => op_move (.plain rfl)) (.n (fun _ => op_neq (.plain rfl) (.plain rfl)) (.nil _))) ?_
  refine awp_cond rfl (fun h => ?_) (fun h => ?_)
  · try simp only [decide_eq_true_eq, decide_eq_false_iff_not, Bool.and_eq_true, Bool.or_eq_true, Bool.and_eq_false_iff, Bool.or_eq_false_iff, Bool.not_eq_true', Bool.not_eq_false', Bool.not_eq_true, Bool.not_eq_false, Bool.true_eq_false, Bool.false_eq_true] at h
    refine awp_seq ?_
    refine awp_region rfl (.n (fun _ => op_move (.plain rfl)) (.n (fun _ => op_assign (.plain rfl)) (.n (fun _ => op_assign (.plain rfl)) (.nil _)))) ?_
    refine awp_ret ?_
    refine retQ.ret ?_
    refine ret2 rfl rfl rfl rfl rfl ?_
    exact res_may h
  · try simp only [decide_eq_true_eq, decide_eq_false_iff_not, Bool.and_eq_true, Bool.or_eq_true, Bool.and_eq_false_iff, Bool.or_eq_false_iff, Bool.not_eq_true', Bool.not_eq_false', Bool.not_eq_true, Bool.not_eq_false, Bool.true_eq_false, Bool.false_eq_true] at h
    have hM := h
    have hFl := mayE_len hM
    refine awp_skip ?_
    refine awp_seq ?_
    refine awp_region rfl (.n (fun _ => op_assign (.plain rfl)) (.nil _)) ?_
    refine awp_seq ?_
    refine awp_region rfl (.n (fun _ => op_assign (.plain rfl)) (.nil _)) ?_
    refine awp_seq ?_
    refine awp_seq ?_
    refine awp_region rfl (.n (fun _ => op_assign (.plain rfl)) (.nil _)) ?_
    refine awp_block ?_
    refine awp_ent (Ent.begin 9 1009 3 1 Int 0 (fun n => [.int .i64 n]) rfl rfl rfl) ?_
    refine awp_loop (σ := Nat) (fun (k : Nat) => k ≤ rs.length + ws.length ∧ firstE (itemB G F Rd Rw rs ws) k = 0) (fun (k : Nat) => ⟨[(1, .pv (.rows rs)), (2, .pv (.rows ws)), (3, .pv (.rd [.i G, .rows F, .i Rd, .i Rw])), (9, .own 1009), (10, .int (sumTo (giftB rs ws) k)), (11, .int (k : Nat))], [(1009, .arr 3 1 Int 0 (fun n => [.int .i64 n]) (usedTo rs ws k))]⟩) (fun (k : Nat) => rs.length + ws.length - k) 0 ?_ (Ent.kept ⟨rfl, rfl, rfl, rfl, rfl, rfl, trivial⟩ ⟨rfl, trivial⟩) ?_
    · exact ⟨Nat.zero_le _, rfl⟩
    rintro k hp
    try dsimp only at hp
    obtain ⟨hk, hE⟩ := hp
    refine awp_seq ?_
    refine awp_seq ?_
    refine awp_region rfl (.n (fun _ => op_move (.plain rfl)) (.n (fun _ => op_move (.plain rfl)) (.n (fun _ => op_len (s := 0) Try.underlying22 (.plain rfl)) (.n (fun _ => op_move (.plain rfl)) (.n (fun _ => op_len (s := 0) Try.underlying22 (.plain rfl)) (.n (fun _ => op_add (.plain rfl) (.plain rfl) ?_) (.n (fun _ => op_lss (.plain rfl) (.plain rfl)) (.nil _)))))))) ?_
    · unfold InR; omega
    refine awp_cond rfl (fun h => ?_) (fun h => ?_)
    · try simp only [decide_eq_true_eq, decide_eq_false_iff_not, Bool.and_eq_true, Bool.or_eq_true, Bool.and_eq_false_iff, Bool.or_eq_false_iff, Bool.not_eq_true', Bool.not_eq_false', Bool.not_eq_true, Bool.not_eq_false, Bool.true_eq_false, Bool.false_eq_true] at h
      refine awp_skip ?_
      refine awp_seq ?_
      refine awp_block ?_
      refine awp_seq ?_
      refine awp_region rfl (.n (fun _ => op_move (.plain rfl)) (.n (fun _ => op_move (.plain rfl)) (.n (fun _ => op_len (s := 0) Try.underlying22 (.plain rfl)) (.n (fun _ => op_geq (.plain rfl) (.plain rfl)) (.n (fun _ => op_assign (.plain rfl)) (.nil _)))))) ?_
      refine awp_seq ?_
      refine awp_region rfl (.n (fun _ => op_assign (.plain rfl)) (.nil _)) ?_
      refine awp_seq ?_
      refine awp_seq ?_
      refine awp_region rfl (.n (fun _ => op_move (.plain rfl)) (.nil _)) ?_
      refine awp_cond rfl (fun h => ?_) (fun h => ?_)
      · try simp only [decide_eq_true_eq, decide_eq_false_iff_not, Bool.and_eq_true, Bool.or_eq_true, Bool.and_eq_false_iff, Bool.or_eq_false_iff, Bool.not_eq_true', Bool.not_eq_false', Bool.not_eq_true, Bool.not_eq_false, Bool.true_eq_false, Bool.false_eq_true] at h
        have hrow := h
        have hl : lAt rs ws k = ws.getD ((k : Int) - rs.length).toNat [] := lAt_rw' hrow
        refine awp_region rfl (.n (fun _ => op_move (.plain rfl)) (.n (fun _ => op_move (.plain rfl)) (.n (fun _ => op_move (.plain rfl)) (.n (fun _ => op_len (s := 0) Try.underlying22 (.plain rfl)) (.n (fun _ => op_sub (.plain rfl) (.plain rfl) ?_) (.n (fun _ => op_indexAddr Try.underlying22 Try.sizeOf35 (.plain rfl) (.plain rfl) (fun _ => rfl) ?_) (.n (fun _ => op_load Try.isAgg35 (.plain rfl)) (.n (fun _ => op_assign (.plain rfl)) (.nil _))))))))) ?_
        · unfold InR; omega
        · omega
        refine awp_seq ?_
        refine awp_seq ?_
        refine awp_region rfl (.n (fun _ => op_move (.plain rfl)) (.n (fun _ => op_len (s := 0) Try.underlying35 (.plain rfl)) (.n (fun _ => op_lss (.plain rfl) (.plain rfl)) (.nil _)))) ?_
        refine awp_cond rfl (fun h => ?_) (fun h => ?_)
        · try simp only [decide_eq_true_eq, decide_eq_false_iff_not, Bool.and_eq_true, Bool.or_eq_true, Bool.and_eq_false_iff, Bool.or_eq_false_iff, Bool.not_eq_true', Bool.not_eq_false', Bool.not_eq_true, Bool.not_eq_false, Bool.true_eq_false, Bool.false_eq_true] at h
          refine awp_seq ?_
          refine awp_region rfl (.n (fun _ => op_assign (.plain rfl)) (.n (fun _ => op_assign (.plain rfl)) (.nil _))) ?_
          refine awp_ret ?_
          refine retQ.ret ?_
          refine ret2 rfl rfl rfl rfl rfl ?_
          rw [← hl] at h
          exact res_at hM hE (by omega) ((itemB_line (by rw [← lineE_7 h]; omega)).trans (lineE_7 h).symm) (by omega)
        · try simp only [decide_eq_true_eq, decide_eq_false_iff_not, Bool.and_eq_true, Bool.or_eq_true, Bool.and_eq_false_iff, Bool.or_eq_false_iff, Bool.not_eq_true', Bool.not_eq_false', Bool.not_eq_true, Bool.not_eq_false, Bool.true_eq_false, Bool.false_eq_true] at h
          have h2 : ¬ ((lAt rs ws k).length : Int) < 2 := by rw [hl]; exact h
          have hll := lAt_len hb1 hb2 k
          refine awp_skip ?_
          refine awp_seq ?_
          refine awp_seq ?_
          refine awp_region rfl (.n (fun _ => op_assign (.plain rfl)) (.nil _)) ?_
          refine awp_block ?_
          refine awp_loop (σ := Nat) (fun (i : Nat) => i ≤ (lAt rs ws k).length ∧ firstE (lineB F (lAt rs ws k) (usedTo rs ws k)) i = 0) (fun (i : Nat) => ⟨[(1, .pv (.rows rs)), (2, .pv (.rows ws)), (3, .pv (.rd [.i G, .rows F, .i Rd, .i Rw])), (9, .own 1009), (10, .int (sumTo (giftB rs ws) k)), (11, .int (k : Nat)), (12, .bool (decide ((rs.length : Int) ≤ (k : Int)))), (13, .pv (.ints (lAt rs ws k))), (14, .int (i : Nat))], [(1009, .arr 3 1 Int 0 (fun n => [.int .i64 n]) (usedTo rs ws k ++ (lAt rs ws k).take i))]⟩) (fun (i : Nat) => (lAt rs ws k).length - i) 0 ?_ (Ent.kept ⟨rfl, rfl, rfl, rfl, rfl, rfl, rfl, (congrArg (fun l => some (SV.pv (PV.ints l))) hl.symm), rfl, trivial⟩ ⟨(congrArg (fun l => some (Blk.arr 3 1 Int 0 (fun n => [.int .i64 n]) l)) (by rw [List.take_zero, List.append_nil])), trivial⟩) ?_
          · exact ⟨Nat.zero_le _, rfl⟩
          rintro i hp
          try dsimp only at hp
          obtain ⟨hi, hF⟩ := hp
          refine awp_seq ?_
          refine awp_seq ?_
          refine awp_region rfl (.n (fun _ => op_move (.plain rfl)) (.n (fun _ => op_move (.plain rfl)) (.n (fun _ => op_len (s := 0) Try.underlying35 (.plain rfl)) (.n (fun _ => op_lss (.plain rfl) (.plain rfl)) (.nil _))))) ?_
          refine awp_cond rfl (fun h => ?_) (fun h => ?_)
          · try simp only [decide_eq_true_eq, decide_eq_false_iff_not, Bool.and_eq_true, Bool.or_eq_true, Bool.and_eq_false_iff, Bool.or_eq_false_iff, Bool.not_eq_true', Bool.not_eq_false', Bool.not_eq_true, Bool.not_eq_false, Bool.true_eq_false, Bool.false_eq_true] at h
            refine awp_skip ?_
            refine awp_seq ?_
            refine awp_block ?_
            refine awp_seq ?_
            refine awp_seq ?_
            refine awp_region_draw mixed rfl (.n (fun _ => op_move (.plain rfl)) (.n (fun _ => op_move (.plain rfl)) (.n (fun _ => op_indexAddrN Try.underlying35 Try.sizeOf3 (.plain rfl) (.plain rfl) (fun _ => rfl) ?_) (.n (fun _ => op_load Try.isAgg3 (.plain rfl)) (.n (fun _ => op_lss (.plain rfl) (.plain rfl)) (.n (fun _ => op_move (.plain rfl)) (.gn rfl rfl (fun hg _ => op_move (.plain rfl)) (.gn rfl rfl (fun hg _ => op_move (.plain rfl)) (.gn rfl rfl (fun hg _ => op_indexAddrN Try.underlying35 Try.sizeOf3 (.opt rfl fun h => h) (.opt rfl fun h => h) (fun _ => rfl) ?_) (.gn rfl rfl (fun hg _ => op_load Try.isAgg3 (.opt rfl fun h => h)) (.gn rfl rfl (fun hg _ => op_fieldAddr Try.underlying24 rfl rfl Try.sizeOf22 (.plain rfl)) (.gn rfl rfl (fun hg _ => op_load Try.isAgg22 (.opt rfl fun h => h)) (.gn rfl rfl (fun hg _ => op_len (s := 0) Try.underlying22 (.opt rfl fun h => h)) (.gn rfl rfl (fun hg _ => op_geq (.opt rfl fun h => h) (.opt rfl fun h => h)) (.n (fun _ => op_or (.plain rfl) (.plain rfl) (.plain rfl) (fun h => eqF h)) (.nil _)))))))))))))))) ?d4 ?_
            · omega
            · try simp only [beq_iff_eq, beq_true, beq_false, Bool.and_eq_true, decide_eq_true_eq, decide_eq_false_iff_not, Bool.not_eq_true', Bool.or_eq_true, Bool.or_eq_false_iff] at hg
              omega
            · kernel_rfl
            refine awp_cond rfl (fun h => ?_) (fun h => ?_)
            · try simp only [decide_eq_true_eq, decide_eq_false_iff_not, Bool.and_eq_true, Bool.or_eq_true, Bool.and_eq_false_iff, Bool.or_eq_false_iff, Bool.not_eq_true', Bool.not_eq_false', Bool.not_eq_true, Bool.not_eq_false, Bool.true_eq_false, Bool.false_eq_true] at h
              refine awp_seq ?_
              refine awp_region rfl (.n (fun _ => op_assign (.plain rfl)) (.n (fun _ => op_assign (.plain rfl)) (.nil _))) ?_
              refine awp_ret ?_
              refine retQ.ret ?_
              refine ret2 rfl rfl rfl rfl rfl ?_
              have hc := lineE_at h2 hF (by omega) (lineB_8 h) (by omega)
              exact res_at hM hE (by omega) ((itemB_line (by omega)).trans hc.symm) (by omega)
            · try simp only [decide_eq_true_eq, decide_eq_false_iff_not, Bool.and_eq_true, Bool.or_eq_true, Bool.and_eq_false_iff, Bool.or_eq_false_iff, Bool.not_eq_true', Bool.not_eq_false', Bool.not_eq_true, Bool.not_eq_false, Bool.true_eq_false, Bool.false_eq_true] at h
              have h8 := h
              refine awp_skip ?_
              refine awp_seq ?_
              refine awp_region rfl (.n (fun _ => op_move (.plain rfl)) (.n (fun _ => op_move (.plain rfl)) (.n (fun _ => op_indexAddrN Try.underlying35 Try.sizeOf3 (.plain rfl) (.plain rfl) (fun _ => rfl) ?_) (.n (fun _ => op_load Try.isAgg3 (.plain rfl)) (.n (fun _ => op_move (.plain rfl)) (.r (op_callL (vals := [_, _]) Try.call16 ⟨⟨_, (.plain rfl), rfl⟩, ⟨_, (.plain rfl), rfl⟩, trivial⟩ (In_fc _ _) rfl) (.n (fun _ => op_assign (.plain rfl)) (.nil _)))))))) ?_
              · omega
              refine awp_seq ?_
              refine awp_seq ?_
              refine awp_region rfl (.n (fun _ => op_move (.plain rfl)) (.nil _)) ?_
              refine awp_cond rfl (fun h => ?_) (fun h => ?_)
              · try simp only [decide_eq_true_eq, decide_eq_false_iff_not, Bool.and_eq_true, Bool.or_eq_true, Bool.and_eq_false_iff, Bool.or_eq_false_iff, Bool.not_eq_true', Bool.not_eq_false', Bool.not_eq_true, Bool.not_eq_false, Bool.true_eq_false, Bool.false_eq_true] at h
                refine awp_seq ?_
                refine awp_region rfl (.n (fun _ => op_assign (.plain rfl)) (.n (fun _ => op_assign (.plain rfl)) (.nil _))) ?_
                refine awp_ret ?_
                refine retQ.ret ?_
                refine ret2 rfl rfl rfl rfl rfl ?_
                have hc := lineE_at h2 hF (by omega) (lineB_6 (by omega) h) (by omega)
                exact res_at hM hE (by omega) ((itemB_line (by omega)).trans hc.symm) (by omega)
              · try simp only [decide_eq_true_eq, decide_eq_false_iff_not, Bool.and_eq_true, Bool.or_eq_true, Bool.and_eq_false_iff, Bool.or_eq_false_iff, Bool.not_eq_true', Bool.not_eq_false', Bool.not_eq_true, Bool.not_eq_false, Bool.true_eq_false, Bool.false_eq_true] at h
                have h6 := h
                refine awp_skip ?_
                refine awp_seq ?_
                refine awp_seq ?_
                refine awp_region rfl (.n (fun _ => op_move (.plain rfl)) (.n (fun _ => op_gtr (.plain rfl) (.plain rfl)) (.nil _))) ?_
                refine awp_cond rfl (fun h => ?_) (fun h => ?_)
                · try simp only [decide_eq_true_eq, decide_eq_false_iff_not, Bool.and_eq_true, Bool.or_eq_true, Bool.and_eq_false_iff, Bool.or_eq_false_iff, Bool.not_eq_true', Bool.not_eq_false', Bool.not_eq_true, Bool.not_eq_false, Bool.true_eq_false, Bool.false_eq_true] at h
                  have hpos := h
                  refine awp_seq ?_
                  refine awp_region_draw mixed rfl (.n (fun _ => op_move (.plain rfl)) (.n (fun _ => op_move (.plain rfl)) (.n (fun _ => op_indexAddrN Try.underlying35 Try.sizeOf3 (.plain rfl) (.plain rfl) (fun _ => rfl) ?_) (.n (fun _ => op_load Try.isAgg3 (.plain rfl)) (.n (fun _ => op_fieldAddr Try.underlying24 rfl rfl Try.sizeOf22 (.plain rfl)) (.n (fun _ => op_load Try.isAgg22 (.plain rfl)) (.n (fun _ => op_move (.plain rfl)) (.n (fun _ => op_move (.plain rfl)) (.n (fun _ => op_sub (.plain rfl) (.plain rfl) ?_) (.n (fun _ => op_indexAddr Try.underlying35 Try.sizeOf3 (.plain rfl) (.plain rfl) (fun _ => rfl) ?_) (.n (fun _ => op_load Try.isAgg3 (.plain rfl)) (.n (fun _ => op_indexAddr Try.underlying22 Try.sizeOf35 (.plain rfl) (.plain rfl) (fun _ => rfl) ?_) (.n (fun _ => op_load Try.isAgg35 (.plain rfl)) (.n (fun _ => op_call2 Try.call16 (.plain rfl) (.plain rfl) (In_fc _ _)) (.n (fun _ => op_assign (.plain rfl)) (.nil _)))))))))))))))) ?d5 ?_
                  · omega
                  · unfold InR; omega
                  · omega
                  · have hp := lineB_in (firstE_zero hF (i - 1) (by omega)); rw [show ((i : Int) - 1).toNat = i - 1 by omega]; exact hp
                  · kernel_rfl
                  refine awp_seq ?_
                  refine awp_region rfl (.n (fun _ => op_move (.plain rfl)) (.n (fun _ => op_not (.plain rfl)) (.nil _))) ?_
                  refine awp_cond rfl (fun h => ?_) (fun h => ?_)
                  · try simp only [decide_eq_true_eq, decide_eq_false_iff_not, Bool.and_eq_true, Bool.or_eq_true, Bool.and_eq_false_iff, Bool.or_eq_false_iff, Bool.not_eq_true', Bool.not_eq_false', Bool.not_eq_true, Bool.not_eq_false, Bool.true_eq_false, Bool.false_eq_true] at h
                    try rw [show ((i : Int) - 1).toNat = i - 1 by omega] at h
                    refine awp_seq ?_
                    refine awp_region rfl (.n (fun _ => op_assign (.plain rfl)) (.n (fun _ => op_assign (.plain rfl)) (.nil _))) ?_
                    refine awp_ret ?_
                    refine retQ.ret ?_
                    refine ret2 rfl rfl rfl rfl rfl ?_
                    have hc := lineE_at h2 hF (by omega) (lineB_11 (by omega) (by omega) (by omega)) (by omega)
                    exact res_at hM hE (by omega) ((itemB_line (by omega)).trans hc.symm) (by omega)
                  · try simp only [decide_eq_true_eq, decide_eq_false_iff_not, Bool.and_eq_true, Bool.or_eq_true, Bool.and_eq_false_iff, Bool.or_eq_false_iff, Bool.not_eq_true', Bool.not_eq_false', Bool.not_eq_true, Bool.not_eq_false, Bool.true_eq_false, Bool.false_eq_true] at h
                    try rw [show ((i : Int) - 1).toNat = i - 1 by omega] at h
                    refine awp_skip ?_
                    refine awp_region rfl (.n (fun _ => op_move (.plain rfl)) (.n (fun _ => op_move (.plain rfl)) (.n (fun _ => op_move (.plain rfl)) (.n (fun _ => op_indexAddrN Try.underlying35 Try.sizeOf3 (.plain rfl) (.plain rfl) (fun _ => rfl) ?_) (.n (fun _ => op_load Try.isAgg3 (.plain rfl)) (.n (fun _ => op_slit (pp := [(0, _)]) (α := Int) (d := 0) (f := (fun n => [.int .i64 n])) [_] ety35 rfl ⟨rfl, (.plain rfl), (by simp), trivial⟩ rfl (by decide) rfl) (.e (op_append (id' := 103) (α := Int) (d := 0) (f := (fun n => [.int .i64 n])) ety35 Try.underlying35 (fun _ => rfl) (fun _ => rfl) (.plain rfl) rfl (.plain rfl) rfl ?_) rfl (.n (fun _ => op_assign (.plain rfl)) (.nil _))))))))) ?_
                    · omega
                    · have := used_len hb1 hb2 k; have := List.length_take_le i (lAt rs ws k); simp only [List.length_append]; simp; omega
                    refine awp_region rfl (.n (fun _ => op_move (.plain rfl)) (.n (fun _ => op_add (.plain rfl) (.plain rfl) ?_) (.n (fun _ => op_assign (.plain rfl)) (.nil _)))) ?_
                    · unfold InR; omega
                    exact ⟨i + 1, ⟨by omega, firstE_succ hF (lineB_0 (by omega) (by omega) (by omega))⟩, by dsimp only; omega, (Ent.round 103 1009 ⟨rfl, rfl, rfl, rfl, rfl, rfl, rfl, rfl, rfl, trivial⟩ ⟨(congrArg (fun l => some (Blk.arr 3 1 Int 0 (fun n => [.int .i64 n]) l)) (by rw [List.append_assoc, take_snoc (by omega)])), trivial⟩ rfl rfl rfl ⟨rfl, rfl, rfl, rfl, rfl, rfl, rfl, rfl, rfl, trivial⟩ ⟨rfl, trivial⟩)⟩
                · try simp only [decide_eq_true_eq, decide_eq_false_iff_not, Bool.and_eq_true, Bool.or_eq_true, Bool.and_eq_false_iff, Bool.or_eq_false_iff, Bool.not_eq_true', Bool.not_eq_false', Bool.not_eq_true, Bool.not_eq_false, Bool.true_eq_false, Bool.false_eq_true] at h
                  refine awp_skip ?_
                  refine awp_region rfl (.n (fun _ => op_move (.plain rfl)) (.n (fun _ => op_move (.plain rfl)) (.n (fun _ => op_move (.plain rfl)) (.n (fun _ => op_indexAddrN Try.underlying35 Try.sizeOf3 (.plain rfl) (.plain rfl) (fun _ => rfl) ?_) (.n (fun _ => op_load Try.isAgg3 (.plain rfl)) (.n (fun _ => op_slit (pp := [(0, _)]) (α := Int) (d := 0) (f := (fun n => [.int .i64 n])) [_] ety35 rfl ⟨rfl, (.plain rfl), (by simp), trivial⟩ rfl (by decide) rfl) (.e (op_append (id' := 103) (α := Int) (d := 0) (f := (fun n => [.int .i64 n])) ety35 Try.underlying35 (fun _ => rfl) (fun _ => rfl) (.plain rfl) rfl (.plain rfl) rfl ?_) rfl (.n (fun _ => op_assign (.plain rfl)) (.nil _))))))))) ?_
                  · omega
                  · have := used_len hb1 hb2 k; have := List.length_take_le i (lAt rs ws k); simp only [List.length_append]; simp; omega
                  refine awp_region rfl (.n (fun _ => op_move (.plain rfl)) (.n (fun _ => op_add (.plain rfl) (.plain rfl) ?_) (.n (fun _ => op_assign (.plain rfl)) (.nil _)))) ?_
                  · unfold InR; omega
                  exact ⟨i + 1, ⟨by omega, firstE_succ hF (lineB_0 (by omega) (by omega) (by omega))⟩, by dsimp only; omega, (Ent.round 103 1009 ⟨rfl, rfl, rfl, rfl, rfl, rfl, rfl, rfl, rfl, trivial⟩ ⟨(congrArg (fun l => some (Blk.arr 3 1 Int 0 (fun n => [.int .i64 n]) l)) (by rw [List.append_assoc, take_snoc (by omega)])), trivial⟩ rfl rfl rfl ⟨rfl, rfl, rfl, rfl, rfl, rfl, rfl, rfl, rfl, trivial⟩ ⟨rfl, trivial⟩)⟩
          · try simp only [decide_eq_true_eq, decide_eq_false_iff_not, Bool.and_eq_true, Bool.or_eq_true, Bool.and_eq_false_iff, Bool.or_eq_false_iff, Bool.not_eq_true', Bool.not_eq_false', Bool.not_eq_true, Bool.not_eq_false, Bool.true_eq_false, Bool.false_eq_true] at h
            refine awp_exit ?_
            refine awp_seq ?_
            obtain rfl : i = (lAt rs ws k).length := by omega
            have h0 := (lineE_ok h2 hi hF (by omega)).symm
            have hz := lineE_zero h0
            have hin := fun j (hj : j < (lAt rs ws k).length) => lineE_in h0 hj
            refine awp_region_draw mixed rfl (.n (fun _ => op_move (.plain rfl)) (.n (fun _ => op_indexAddr Try.underlying35 Try.sizeOf3 (.plain rfl) (.plain rfl) (fun _ => rfl) ?_) (.n (fun _ => op_load Try.isAgg3 (.plain rfl)) (.n (fun _ => op_fieldAddr Try.underlying24 rfl rfl Try.sizeOf22 (.plain rfl)) (.n (fun _ => op_load Try.isAgg22 (.plain rfl)) (.n (fun _ => op_move (.plain rfl)) (.n (fun _ => op_move (.plain rfl)) (.n (fun _ => op_len (s := 0) Try.underlying35 (.plain rfl)) (.n (fun _ => op_sub (.plain rfl) (.plain rfl) ?_) (.n (fun _ => op_indexAddr Try.underlying35 Try.sizeOf3 (.plain rfl) (.plain rfl) (fun _ => rfl) ?_) (.n (fun _ => op_load Try.isAgg3 (.plain rfl)) (.n (fun _ => op_indexAddr Try.underlying22 Try.sizeOf35 (.plain rfl) (.plain rfl) (fun _ => rfl) ?_) (.n (fun _ => op_load Try.isAgg35 (.plain rfl)) (.n (fun _ => op_call2 Try.call16 (.plain rfl) (.plain rfl) (In_fc _ _)) (.n (fun _ => op_assign (.plain rfl)) (.nil _)))))))))))))))) ?d6 ?_
            · omega
            · unfold InR; omega
            · omega
            · rw [show ((((lAt rs ws k).length : Nat) : Int) - 1).toNat = (lAt rs ws k).length - 1 by omega]; exact hin _ (by omega)
            · kernel_rfl
            refine awp_seq ?_
            refine awp_region rfl (.n (fun _ => op_move (.plain rfl)) (.nil _)) ?_
            refine awp_cond rfl (fun h => ?_) (fun h => ?_)
            · try simp only [decide_eq_true_eq, decide_eq_false_iff_not, Bool.and_eq_true, Bool.or_eq_true, Bool.and_eq_false_iff, Bool.or_eq_false_iff, Bool.not_eq_true', Bool.not_eq_false', Bool.not_eq_true, Bool.not_eq_false, Bool.true_eq_false, Bool.false_eq_true] at h
              refine awp_seq ?_
              refine awp_seq ?_
              refine awp_region_draw mixed rfl (.n (fun _ => op_move (.plain rfl)) (.n (fun _ => op_len (s := 0) Try.underlying35 (.plain rfl)) (.n (fun _ => op_sub (.plain rfl) (.plain rfl) ?_) (.n (fun _ => op_fieldAddr Try.underlying24 rfl rfl Try.sizeOf3 (.plain rfl)) (.n (fun _ => op_load Try.isAgg3 (.plain rfl)) (.n (fun _ => op_gtr (.plain rfl) (.plain rfl)) (.n (fun _ => op_move (.plain rfl)) (.gn rfl rfl (fun hg _ => op_move (.plain rfl)) (.gn rfl rfl (fun hg _ => op_indexAddr Try.underlying35 Try.sizeOf3 (.opt rfl fun h => h) (.plain rfl) (fun _ => rfl) ?_) (.gn rfl rfl (fun hg _ => op_load Try.isAgg3 (.opt rfl fun h => h)) (.gn rfl rfl (fun hg _ => op_fieldAddr Try.underlying24 rfl rfl Try.sizeOf3 (.plain rfl)) (.gn rfl rfl (fun hg _ => op_load Try.isAgg3 (.opt rfl fun h => h)) (.gn rfl rfl (fun hg _ => op_geq (.opt rfl fun h => h) (.opt rfl fun h => h)) (.n (fun _ => op_or (.plain rfl) (.plain rfl) (.plain rfl) (fun h => eqF h)) (.nil _))))))))))))))) ?d7 ?_
              · unfold InR; omega
              · try simp only [beq_iff_eq, beq_true, beq_false, Bool.and_eq_true, decide_eq_true_eq, decide_eq_false_iff_not, Bool.not_eq_true', Bool.or_eq_true, Bool.or_eq_false_iff] at hg
                omega
              · kernel_rfl
              refine awp_cond rfl (fun h => ?_) (fun h => ?_)
              · try simp only [decide_eq_true_eq, decide_eq_false_iff_not, Bool.and_eq_true, Bool.or_eq_true, Bool.and_eq_false_iff, Bool.or_eq_false_iff, Bool.not_eq_true', Bool.not_eq_false', Bool.not_eq_true, Bool.not_eq_false, Bool.true_eq_false, Bool.false_eq_true] at h
                try simp only [Int.toNat_zero] at h
                refine awp_seq ?_
                refine awp_region rfl (.n (fun _ => op_assign (.plain rfl)) (.n (fun _ => op_assign (.plain rfl)) (.nil _))) ?_
                refine awp_ret ?_
                refine retQ.ret ?_
                refine ret2 rfl rfl rfl rfl rfl ?_
                exact res_at hM hE (by omega) (itemB_rw11 h0 (by omega) (by omega)) (by omega)
              · try simp only [decide_eq_true_eq, decide_eq_false_iff_not, Bool.and_eq_true, Bool.or_eq_true, Bool.and_eq_false_iff, Bool.or_eq_false_iff, Bool.not_eq_true', Bool.not_eq_false', Bool.not_eq_true, Bool.not_eq_false, Bool.true_eq_false, Bool.false_eq_true] at h
                try simp only [Int.toNat_zero] at h
                refine awp_skip ?_
                refine awp_region rfl (.n (fun _ => op_move (.plain rfl)) (.n (fun _ => op_move (.plain rfl)) (.n (fun _ => op_len (s := 0) Try.underlying35 (.plain rfl)) (.n (fun _ => op_add (.plain rfl) (.plain rfl) ?_) (.n (fun _ => op_sub (.plain rfl) (.plain rfl) ?_) (.n (fun _ => op_assign (.plain rfl)) (.nil _))))))) ?_
                · have := gift_bd hb1 hb2 k (by omega); unfold InR; omega
                · have := gift_bd hb1 hb2 k (by omega); unfold InR; omega
                refine awp_region rfl (.n (fun _ => op_move (.plain rfl)) (.n (fun _ => op_add (.plain rfl) (.plain rfl) ?_) (.n (fun _ => op_assign (.plain rfl)) (.nil _)))) ?_
                · unfold InR; omega
                exact ⟨k + 1, ⟨by omega, firstE_succ hE (itemB_rw0 h0 (by omega) (by omega))⟩, by dsimp only; omega, (Ent.kept ⟨rfl, rfl, rfl, rfl, (by first | (exact congrArg (fun n => some (SV.int n)) (gift_rw (by omega))) | (exact congrArg (fun n => some (SV.int n)) (gift_rd (by omega)))), rfl, trivial⟩ ⟨(congrArg (fun l => some (Blk.arr 3 1 Int 0 (fun n => [.int .i64 n]) l)) (by rw [List.take_length]; rfl)), trivial⟩)⟩
            · try simp only [decide_eq_true_eq, decide_eq_false_iff_not, Bool.and_eq_true, Bool.or_eq_true, Bool.and_eq_false_iff, Bool.or_eq_false_iff, Bool.not_eq_true', Bool.not_eq_false', Bool.not_eq_true, Bool.not_eq_false, Bool.true_eq_false, Bool.false_eq_true] at h
              refine awp_seq ?_
              refine awp_seq ?_
              refine awp_region_draw mixed rfl (.n (fun _ => op_move (.plain rfl)) (.n (fun _ => op_len (s := 0) Try.underlying35 (.plain rfl)) (.n (fun _ => op_fieldAddr Try.underlying24 rfl rfl Try.sizeOf3 (.plain rfl)) (.n (fun _ => op_load Try.isAgg3 (.plain rfl)) (.n (fun _ => op_gtr (.plain rfl) (.plain rfl)) (.n (fun _ => op_move (.plain rfl)) (.gn rfl rfl (fun hg _ => op_move (.plain rfl)) (.gn rfl rfl (fun hg _ => op_indexAddr Try.underlying35 Try.sizeOf3 (.opt rfl fun h => h) (.plain rfl) (fun _ => rfl) ?_) (.gn rfl rfl (fun hg _ => op_load Try.isAgg3 (.opt rfl fun h => h)) (.gn rfl rfl (fun hg _ => op_fieldAddr Try.underlying24 rfl rfl Try.sizeOf3 (.plain rfl)) (.gn rfl rfl (fun hg _ => op_load Try.isAgg3 (.opt rfl fun h => h)) (.gn rfl rfl (fun hg _ => op_lss (.opt rfl fun h => h) (.opt rfl fun h => h)) (.n (fun _ => op_or (.plain rfl) (.plain rfl) (.plain rfl) (fun h => eqF h)) (.n (fun _ => op_move (.plain rfl)) (.gn rfl rfl (fun hg _ => op_move (.plain rfl)) (.gn rfl rfl (fun hg _ => op_not (.opt rfl fun h => h)) (.n (fun _ => op_or (.plain rfl) (.plain rfl) (.plain rfl) (fun h => eqF h)) (.nil _)))))))))))))))))) ?d8 ?_
              · try simp only [beq_iff_eq, beq_true, beq_false, Bool.and_eq_true, decide_eq_true_eq, decide_eq_false_iff_not, Bool.not_eq_true', Bool.or_eq_true, Bool.or_eq_false_iff] at hg
                omega
              · kernel_rfl
              refine awp_cond rfl (fun h => ?_) (fun h => ?_)
              · try simp only [decide_eq_true_eq, decide_eq_false_iff_not, Bool.and_eq_true, Bool.or_eq_true, Bool.and_eq_false_iff, Bool.or_eq_false_iff, Bool.not_eq_true', Bool.not_eq_false', Bool.not_eq_true, Bool.not_eq_false, Bool.true_eq_false, Bool.false_eq_true] at h
                try rw [show ((((lAt rs ws k).length : Nat) : Int) - 1).toNat = (lAt rs ws k).length - 1 by omega] at h
                try simp only [Int.toNat_zero] at h
                refine awp_seq ?_
                refine awp_region rfl (.n (fun _ => op_assign (.plain rfl)) (.n (fun _ => op_assign (.plain rfl)) (.nil _))) ?_
                refine awp_ret ?_
                refine retQ.ret ?_
                refine ret2 rfl rfl rfl rfl rfl ?_
                exfalso; omega
              · try simp only [decide_eq_true_eq, decide_eq_false_iff_not, Bool.and_eq_true, Bool.or_eq_true, Bool.and_eq_false_iff, Bool.or_eq_false_iff, Bool.not_eq_true', Bool.not_eq_false', Bool.not_eq_true, Bool.not_eq_false, Bool.true_eq_false, Bool.false_eq_true] at h
                try rw [show ((((lAt rs ws k).length : Nat) : Int) - 1).toNat = (lAt rs ws k).length - 1 by omega] at h
                try simp only [Int.toNat_zero] at h
                refine awp_skip ?_
                refine awp_region rfl (.n (fun _ => op_move (.plain rfl)) (.n (fun _ => op_move (.plain rfl)) (.n (fun _ => op_len (s := 0) Try.underlying35 (.plain rfl)) (.n (fun _ => op_add (.plain rfl) (.plain rfl) ?_) (.n (fun _ => op_assign (.plain rfl)) (.nil _)))))) ?_
                · have := gift_bd hb1 hb2 k (by omega); unfold InR; omega
                refine awp_region rfl (.n (fun _ => op_move (.plain rfl)) (.n (fun _ => op_add (.plain rfl) (.plain rfl) ?_) (.n (fun _ => op_assign (.plain rfl)) (.nil _)))) ?_
                · unfold InR; omega
                exfalso; omega
      · try simp only [decide_eq_true_eq, decide_eq_false_iff_not, Bool.and_eq_true, Bool.or_eq_true, Bool.and_eq_false_iff, Bool.or_eq_false_iff, Bool.not_eq_true', Bool.not_eq_false', Bool.not_eq_true, Bool.not_eq_false, Bool.true_eq_false, Bool.false_eq_true] at h
        have hrow := h
        have hl : lAt rs ws k = rs.getD k [] := lAt_rd (by omega)
        refine awp_region rfl (.n (fun _ => op_move (.plain rfl)) (.n (fun _ => op_move (.plain rfl)) (.n (fun _ => op_indexAddrN Try.underlying22 Try.sizeOf35 (.plain rfl) (.plain rfl) (fun _ => rfl) ?_) (.n (fun _ => op_load Try.isAgg35 (.plain rfl)) (.n (fun _ => op_assign (.plain rfl)) (.nil _)))))) ?_
        · omega
        refine awp_seq ?_
        refine awp_seq ?_
        refine awp_region rfl (.n (fun _ => op_move (.plain rfl)) (.n (fun _ => op_len (s := 0) Try.underlying35 (.plain rfl)) (.n (fun _ => op_lss (.plain rfl) (.plain rfl)) (.nil _)))) ?_
        refine awp_cond rfl (fun h => ?_) (fun h => ?_)
        · try simp only [decide_eq_true_eq, decide_eq_false_iff_not, Bool.and_eq_true, Bool.or_eq_true, Bool.and_eq_false_iff, Bool.or_eq_false_iff, Bool.not_eq_true', Bool.not_eq_false', Bool.not_eq_true, Bool.not_eq_false, Bool.true_eq_false, Bool.false_eq_true] at h
          refine awp_seq ?_
          refine awp_region rfl (.n (fun _ => op_assign (.plain rfl)) (.n (fun _ => op_assign (.plain rfl)) (.nil _))) ?_
          refine awp_ret ?_
          refine retQ.ret ?_
          refine ret2 rfl rfl rfl rfl rfl ?_
          rw [← hl] at h
          exact res_at hM hE (by omega) ((itemB_line (by rw [← lineE_7 h]; omega)).trans (lineE_7 h).symm) (by omega)
        · try simp only [decide_eq_true_eq, decide_eq_false_iff_not, Bool.and_eq_true, Bool.or_eq_true, Bool.and_eq_false_iff, Bool.or_eq_false_iff, Bool.not_eq_true', Bool.not_eq_false', Bool.not_eq_true, Bool.not_eq_false, Bool.true_eq_false, Bool.false_eq_true] at h
          have h2 : ¬ ((lAt rs ws k).length : Int) < 2 := by rw [hl]; exact h
          have hll := lAt_len hb1 hb2 k
          refine awp_skip ?_
          refine awp_seq ?_
          refine awp_seq ?_
          refine awp_region rfl (.n (fun _ => op_assign (.plain rfl)) (.nil _)) ?_
          refine awp_block ?_
          refine awp_loop (σ := Nat) (fun (i : Nat) => i ≤ (lAt rs ws k).length ∧ firstE (lineB F (lAt rs ws k) (usedTo rs ws k)) i = 0) (fun (i : Nat) => ⟨[(1, .pv (.rows rs)), (2, .pv (.rows ws)), (3, .pv (.rd [.i G, .rows F, .i Rd, .i Rw])), (9, .own 1009), (10, .int (sumTo (giftB rs ws) k)), (11, .int (k : Nat)), (12, .bool (decide ((rs.length : Int) ≤ (k : Int)))), (13, .pv (.ints (lAt rs ws k))), (14, .int (i : Nat))], [(1009, .arr 3 1 Int 0 (fun n => [.int .i64 n]) (usedTo rs ws k ++ (lAt rs ws k).take i))]⟩) (fun (i : Nat) => (lAt rs ws k).length - i) 0 ?_ (Ent.kept ⟨rfl, rfl, rfl, rfl, rfl, rfl, rfl, (congrArg (fun l => some (SV.pv (PV.ints l))) hl.symm), rfl, trivial⟩ ⟨(congrArg (fun l => some (Blk.arr 3 1 Int 0 (fun n => [.int .i64 n]) l)) (by rw [List.take_zero, List.append_nil])), trivial⟩) ?_
          · exact ⟨Nat.zero_le _, rfl⟩
          rintro i hp
          try dsimp only at hp
          obtain ⟨hi, hF⟩ := hp
          refine awp_seq ?_
          refine awp_seq ?_
          refine awp_region rfl (.n (fun _ => op_move (.plain rfl)) (.n (fun _ => op_move (.plain rfl)) (.n (fun _ => op_len (s := 0) Try.underlying35 (.plain rfl)) (.n (fun _ => op_lss (.plain rfl) (.plain rfl)) (.nil _))))) ?_
          refine awp_cond rfl (fun h => ?_) (fun h => ?_)
          · try simp only [decide_eq_true_eq, decide_eq_false_iff_not, Bool.and_eq_true, Bool.or_eq_true, Bool.and_eq_false_iff, Bool.or_eq_false_iff, Bool.not_eq_true', Bool.not_eq_false', Bool.not_eq_true, Bool.not_eq_false, Bool.true_eq_false, Bool.false_eq_true] at h
            refine awp_skip ?_
            refine awp_seq ?_
            refine awp_block ?_
            refine awp_seq ?_
            refine awp_seq ?_
            refine awp_region_draw mixed rfl (.n (fun _ => op_move (.plain rfl)) (.n (fun _ => op_move (.plain rfl)) (.n (fun _ => op_indexAddrN Try.underlying35 Try.sizeOf3 (.plain rfl) (.plain rfl) (fun _ => rfl) ?_) (.n (fun _ => op_load Try.isAgg3 (.plain rfl)) (.n (fun _ => op_lss (.plain rfl) (.plain rfl)) (.n (fun _ => op_move (.plain rfl)) (.gn rfl rfl (fun hg _ => op_move (.plain rfl)) (.gn rfl rfl (fun hg _ => op_move (.plain rfl)) (.gn rfl rfl (fun hg _ => op_indexAddrN Try.underlying35 Try.sizeOf3 (.opt rfl fun h => h) (.opt rfl fun h => h) (fun _ => rfl) ?_) (.gn rfl rfl (fun hg _ => op_load Try.isAgg3 (.opt rfl fun h => h)) (.gn rfl rfl (fun hg _ => op_fieldAddr Try.underlying24 rfl rfl Try.sizeOf22 (.plain rfl)) (.gn rfl rfl (fun hg _ => op_load Try.isAgg22 (.opt rfl fun h => h)) (.gn rfl rfl (fun hg _ => op_len (s := 0) Try.underlying22 (.opt rfl fun h => h)) (.gn rfl rfl (fun hg _ => op_geq (.opt rfl fun h => h) (.opt rfl fun h => h)) (.n (fun _ => op_or (.plain rfl) (.plain rfl) (.plain rfl) (fun h => eqF h)) (.nil _)))))))))))))))) ?d9 ?_
            · omega
            · try simp only [beq_iff_eq, beq_true, beq_false, Bool.and_eq_true, decide_eq_true_eq, decide_eq_false_iff_not, Bool.not_eq_true', Bool.or_eq_true, Bool.or_eq_false_iff] at hg
              omega
            · kernel_rfl
            refine awp_cond rfl (fun h => ?_) (fun h => ?_)
            · try simp only [decide_eq_true_eq, decide_eq_false_iff_not, Bool.and_eq_true, Bool.or_eq_true, Bool.and_eq_false_iff, Bool.or_eq_false_iff, Bool.not_eq_true', Bool.not_eq_false', Bool.not_eq_true, Bool.not_eq_false, Bool.true_eq_false, Bool.false_eq_true] at h
              refine awp_seq ?_
              refine awp_region rfl (.n (fun _ => op_assign (.plain rfl)) (.n (fun _ => op_assign (.plain rfl)) (.nil _))) ?_
              refine awp_ret ?_
              refine retQ.ret ?_
              refine ret2 rfl rfl rfl rfl rfl ?_
              have hc := lineE_at h2 hF (by omega) (lineB_8 h) (by omega)
              exact res_at hM hE (by omega) ((itemB_line (by omega)).trans hc.symm) (by omega)
            · try simp only [decide_eq_true_eq, decide_eq_false_iff_not, Bool.and_eq_true, Bool.or_eq_true, Bool.and_eq_false_iff, Bool.or_eq_false_iff, Bool.not_eq_true', Bool.not_eq_false', Bool.not_eq_true, Bool.not_eq_false, Bool.true_eq_false, Bool.false_eq_true] at h
              have h8 := h
              refine awp_skip ?_
              refine awp_seq ?_
              refine awp_region rfl (.n (fun _ => op_move (.plain rfl)) (.n (fun _ => op_move (.plain rfl)) (.n (fun _ => op_indexAddrN Try.underlying35 Try.sizeOf3 (.plain rfl) (.plain rfl) (fun _ => rfl) ?_) (.n (fun _ => op_load Try.isAgg3 (.plain rfl)) (.n (fun _ => op_move (.plain rfl)) (.r (op_callL (vals := [_, _]) Try.call16 ⟨⟨_, (.plain rfl), rfl⟩, ⟨_, (.plain rfl), rfl⟩, trivial⟩ (In_fc _ _) rfl) (.n (fun _ => op_assign (.plain rfl)) (.nil _)))))))) ?_
              · omega
              refine awp_seq ?_
              refine awp_seq ?_
              refine awp_region rfl (.n (fun _ => op_move (.plain rfl)) (.nil _)) ?_
              refine awp_cond rfl (fun h => ?_) (fun h => ?_)
              · try simp only [decide_eq_true_eq, decide_eq_false_iff_not, Bool.and_eq_true, Bool.or_eq_true, Bool.and_eq_false_iff, Bool.or_eq_false_iff, Bool.not_eq_true', Bool.not_eq_false', Bool.not_eq_true, Bool.not_eq_false, Bool.true_eq_false, Bool.false_eq_true] at h
                refine awp_seq ?_
                refine awp_region rfl (.n (fun _ => op_assign (.plain rfl)) (.n (fun _ => op_assign (.plain rfl)) (.nil _))) ?_
                refine awp_ret ?_
                refine retQ.ret ?_
                refine ret2 rfl rfl rfl rfl rfl ?_
                have hc := lineE_at h2 hF (by omega) (lineB_6 (by omega) h) (by omega)
                exact res_at hM hE (by omega) ((itemB_line (by omega)).trans hc.symm) (by omega)
              · try simp only [decide_eq_true_eq, decide_eq_false_iff_not, Bool.and_eq_true, Bool.or_eq_true, Bool.and_eq_false_iff, Bool.or_eq_false_iff, Bool.not_eq_true', Bool.not_eq_false', Bool.not_eq_true, Bool.not_eq_false, Bool.true_eq_false, Bool.false_eq_true] at h
                have h6 := h
                refine awp_skip ?_
                refine awp_seq ?_
                refine awp_seq ?_
                refine awp_region rfl (.n (fun _ => op_move (.plain rfl)) (.n (fun _ => op_gtr (.plain rfl) (.plain rfl)) (.nil _))) ?_
                refine awp_cond rfl (fun h => ?_) (fun h => ?_)
                · try simp only [decide_eq_true_eq, decide_eq_false_iff_not, Bool.and_eq_true, Bool.or_eq_true, Bool.and_eq_false_iff, Bool.or_eq_false_iff, Bool.not_eq_true', Bool.not_eq_false', Bool.not_eq_true, Bool.not_eq_false, Bool.true_eq_false, Bool.false_eq_true] at h
                  have hpos := h
                  refine awp_seq ?_
                  refine awp_region_draw mixed rfl (.n (fun _ => op_move (.plain rfl)) (.n (fun _ => op_move (.plain rfl)) (.n (fun _ => op_indexAddrN Try.underlying35 Try.sizeOf3 (.plain rfl) (.plain rfl) (fun _ => rfl) ?_) (.n (fun _ => op_load Try.isAgg3 (.plain rfl)) (.n (fun _ => op_fieldAddr Try.underlying24 rfl rfl Try.sizeOf22 (.plain rfl)) (.n (fun _ => op_load Try.isAgg22 (.plain rfl)) (.n (fun _ => op_move (.plain rfl)) (.n (fun _ => op_move (.plain rfl)) (.n (fun _ => op_sub (.plain rfl) (.plain rfl) ?_) (.n (fun _ => op_indexAddr Try.underlying35 Try.sizeOf3 (.plain rfl) (.plain rfl) (fun _ => rfl) ?_) (.n (fun _ => op_load Try.isAgg3 (.plain rfl)) (.n (fun _ => op_indexAddr Try.underlying22 Try.sizeOf35 (.plain rfl) (.plain rfl) (fun _ => rfl) ?_) (.n (fun _ => op_load Try.isAgg35 (.plain rfl)) (.n (fun _ => op_call2 Try.call16 (.plain rfl) (.plain rfl) (In_fc _ _)) (.n (fun _ => op_assign (.plain rfl)) (.nil _)))))))))))))))) ?d10 ?_
                  · omega
                  · unfold InR; omega
                  · omega
                  · have hp := lineB_in (firstE_zero hF (i - 1) (by omega)); rw [show ((i : Int) - 1).toNat = i - 1 by omega]; exact hp
                  · kernel_rfl
                  refine awp_seq ?_
                  refine awp_region rfl (.n (fun _ => op_move (.plain rfl)) (.n (fun _ => op_not (.plain rfl)) (.nil _))) ?_
                  refine awp_cond rfl (fun h => ?_) (fun h => ?_)
                  · try simp only [decide_eq_true_eq, decide_eq_false_iff_not, Bool.and_eq_true, Bool.or_eq_true, Bool.and_eq_false_iff, Bool.or_eq_false_iff, Bool.not_eq_true', Bool.not_eq_false', Bool.not_eq_true, Bool.not_eq_false, Bool.true_eq_false, Bool.false_eq_true] at h
                    try rw [show ((i : Int) - 1).toNat = i - 1 by omega] at h
                    refine awp_seq ?_
                    refine awp_region rfl (.n (fun _ => op_assign (.plain rfl)) (.n (fun _ => op_assign (.plain rfl)) (.nil _))) ?_
                    refine awp_ret ?_
                    refine retQ.ret ?_
                    refine ret2 rfl rfl rfl rfl rfl ?_
                    have hc := lineE_at h2 hF (by omega) (lineB_11 (by omega) (by omega) (by omega)) (by omega)
                    exact res_at hM hE (by omega) ((itemB_line (by omega)).trans hc.symm) (by omega)
                  · try simp only [decide_eq_true_eq, decide_eq_false_iff_not, Bool.and_eq_true, Bool.or_eq_true, Bool.and_eq_false_iff, Bool.or_eq_false_iff, Bool.not_eq_true', Bool.not_eq_false', Bool.not_eq_true, Bool.not_eq_false, Bool.true_eq_false, Bool.false_eq_true] at h
                    try rw [show ((i : Int) - 1).toNat = i - 1 by omega] at h
                    refine awp_skip ?_
                    refine awp_region rfl (.n (fun _ => op_move (.plain rfl)) (.n (fun _ => op_move (.plain rfl)) (.n (fun _ => op_move (.plain rfl)) (.n (fun _ => op_indexAddrN Try.underlying35 Try.sizeOf3 (.plain rfl) (.plain rfl) (fun _ => rfl) ?_) (.n (fun _ => op_load Try.isAgg3 (.plain rfl)) (.n (fun _ => op_slit (pp := [(0, _)]) (α := Int) (d := 0) (f := (fun n => [.int .i64 n])) [_] ety35 rfl ⟨rfl, (.plain rfl), (by simp), trivial⟩ rfl (by decide) rfl) (.e (op_append (id' := 103) (α := Int) (d := 0) (f := (fun n => [.int .i64 n])) ety35 Try.underlying35 (fun _ => rfl) (fun _ => rfl) (.plain rfl) rfl (.plain rfl) rfl ?_) rfl (.n (fun _ => op_assign (.plain rfl)) (.nil _))))))))) ?_
                    · omega
                    · have := used_len hb1 hb2 k; have := List.length_take_le i (lAt rs ws k); simp only [List.length_append]; simp; omega
                    refine awp_region rfl (.n (fun _ => op_move (.plain rfl)) (.n (fun _ => op_add (.plain rfl) (.plain rfl) ?_) (.n (fun _ => op_assign (.plain rfl)) (.nil _)))) ?_
                    · unfold InR; omega
                    exact ⟨i + 1, ⟨by omega, firstE_succ hF (lineB_0 (by omega) (by omega) (by omega))⟩, by dsimp only; omega, (Ent.round 103 1009 ⟨rfl, rfl, rfl, rfl, rfl, rfl, rfl, rfl, rfl, trivial⟩ ⟨(congrArg (fun l => some (Blk.arr 3 1 Int 0 (fun n => [.int .i64 n]) l)) (by rw [List.append_assoc, take_snoc (by omega)])), trivial⟩ rfl rfl rfl ⟨rfl, rfl, rfl, rfl, rfl, rfl, rfl, rfl, rfl, trivial⟩ ⟨rfl, trivial⟩)⟩
                · try simp only [decide_eq_true_eq, decide_eq_false_iff_not, Bool.and_eq_true, Bool.or_eq_true, Bool.and_eq_false_iff, Bool.or_eq_false_iff, Bool.not_eq_true', Bool.not_eq_false', Bool.not_eq_true, Bool.not_eq_false, Bool.true_eq_false, Bool.false_eq_true] at h
                  refine awp_skip ?_
                  refine awp_region rfl (.n (fun _ => op_move (.plain rfl)) (.n (fun _ => op_move (.plain rfl)) (.n (fun _ => op_move (.plain rfl)) (.n (fun _ => op_indexAddrN Try.underlying35 Try.sizeOf3 (.plain rfl) (.plain rfl) (fun _ => rfl) ?_) (.n (fun _ => op_load Try.isAgg3 (.plain rfl)) (.n (fun _ => op_slit (pp := [(0, _)]) (α := Int) (d := 0) (f := (fun n => [.int .i64 n])) [_] ety35 rfl ⟨rfl, (.plain rfl), (by simp), trivial⟩ rfl (by decide) rfl) (.e (op_append (id' := 103) (α := Int) (d := 0) (f := (fun n => [.int .i64 n])) ety35 Try.underlying35 (fun _ => rfl) (fun _ => rfl) (.plain rfl) rfl (.plain rfl) rfl ?_) rfl (.n (fun _ => op_assign (.plain rfl)) (.nil _))))))))) ?_
                  · omega
                  · have := used_len hb1 hb2 k; have := List.length_take_le i (lAt rs ws k); simp only [List.length_append]; simp; omega
                  refine awp_region rfl (.n (fun _ => op_move (.plain rfl)) (.n (fun _ => op_add (.plain rfl) (.plain rfl) ?_) (.n (fun _ => op_assign (.plain rfl)) (.nil _)))) ?_
                  · unfold InR; omega
                  exact ⟨i + 1, ⟨by omega, firstE_succ hF (lineB_0 (by omega) (by omega) (by omega))⟩, by dsimp only; omega, (Ent.round 103 1009 ⟨rfl, rfl, rfl, rfl, rfl, rfl, rfl, rfl, rfl, trivial⟩ ⟨(congrArg (fun l => some (Blk.arr 3 1 Int 0 (fun n => [.int .i64 n]) l)) (by rw [List.append_assoc, take_snoc (by omega)])), trivial⟩ rfl rfl rfl ⟨rfl, rfl, rfl, rfl, rfl, rfl, rfl, rfl, rfl, trivial⟩ ⟨rfl, trivial⟩)⟩
          · try simp only [decide_eq_true_eq, decide_eq_false_iff_not, Bool.and_eq_true, Bool.or_eq_true, Bool.and_eq_false_iff, Bool.or_eq_false_iff, Bool.not_eq_true', Bool.not_eq_false', Bool.not_eq_true, Bool.not_eq_false, Bool.true_eq_false, Bool.false_eq_true] at h
            refine awp_exit ?_
            refine awp_seq ?_
            obtain rfl : i = (lAt rs ws k).length := by omega
            have h0 := (lineE_ok h2 hi hF (by omega)).symm
            have hz := lineE_zero h0
            have hin := fun j (hj : j < (lAt rs ws k).length) => lineE_in h0 hj
            refine awp_region_draw mixed rfl (.n (fun _ => op_move (.plain rfl)) (.n (fun _ => op_indexAddr Try.underlying35 Try.sizeOf3 (.plain rfl) (.plain rfl) (fun _ => rfl) ?_) (.n (fun _ => op_load Try.isAgg3 (.plain rfl)) (.n (fun _ => op_fieldAddr Try.underlying24 rfl rfl Try.sizeOf22 (.plain rfl)) (.n (fun _ => op_load Try.isAgg22 (.plain rfl)) (.n (fun _ => op_move (.plain rfl)) (.n (fun _ => op_move (.plain rfl)) (.n (fun _ => op_len (s := 0) Try.underlying35 (.plain rfl)) (.n (fun _ => op_sub (.plain rfl) (.plain rfl) ?_) (.n (fun _ => op_indexAddr Try.underlying35 Try.sizeOf3 (.plain rfl) (.plain rfl) (fun _ => rfl) ?_) (.n (fun _ => op_load Try.isAgg3 (.plain rfl)) (.n (fun _ => op_indexAddr Try.underlying22 Try.sizeOf35 (.plain rfl) (.plain rfl) (fun _ => rfl) ?_) (.n (fun _ => op_load Try.isAgg35 (.plain rfl)) (.n (fun _ => op_call2 Try.call16 (.plain rfl) (.plain rfl) (In_fc _ _)) (.n (fun _ => op_assign (.plain rfl)) (.nil _)))))))))))))))) ?d11 ?_
            · omega
            · unfold InR; omega
            · omega
            · rw [show ((((lAt rs ws k).length : Nat) : Int) - 1).toNat = (lAt rs ws k).length - 1 by omega]; exact hin _ (by omega)
            · kernel_rfl
            refine awp_seq ?_
            refine awp_region rfl (.n (fun _ => op_move (.plain rfl)) (.nil _)) ?_
            refine awp_cond rfl (fun h => ?_) (fun h => ?_)
            · try simp only [decide_eq_true_eq, decide_eq_false_iff_not, Bool.and_eq_true, Bool.or_eq_true, Bool.and_eq_false_iff, Bool.or_eq_false_iff, Bool.not_eq_true', Bool.not_eq_false', Bool.not_eq_true, Bool.not_eq_false, Bool.true_eq_false, Bool.false_eq_true] at h
              refine awp_seq ?_
              refine awp_seq ?_
              refine awp_region_draw mixed rfl (.n (fun _ => op_move (.plain rfl)) (.n (fun _ => op_len (s := 0) Try.underlying35 (.plain rfl)) (.n (fun _ => op_sub (.plain rfl) (.plain rfl) ?_) (.n (fun _ => op_fieldAddr Try.underlying24 rfl rfl Try.sizeOf3 (.plain rfl)) (.n (fun _ => op_load Try.isAgg3 (.plain rfl)) (.n (fun _ => op_gtr (.plain rfl) (.plain rfl)) (.n (fun _ => op_move (.plain rfl)) (.gn rfl rfl (fun hg _ => op_move (.plain rfl)) (.gn rfl rfl (fun hg _ => op_indexAddr Try.underlying35 Try.sizeOf3 (.opt rfl fun h => h) (.plain rfl) (fun _ => rfl) ?_) (.gn rfl rfl (fun hg _ => op_load Try.isAgg3 (.opt rfl fun h => h)) (.gn rfl rfl (fun hg _ => op_fieldAddr Try.underlying24 rfl rfl Try.sizeOf3 (.plain rfl)) (.gn rfl rfl (fun hg _ => op_load Try.isAgg3 (.opt rfl fun h => h)) (.gn rfl rfl (fun hg _ => op_geq (.opt rfl fun h => h) (.opt rfl fun h => h)) (.n (fun _ => op_or (.plain rfl) (.plain rfl) (.plain rfl) (fun h => eqF h)) (.nil _))))))))))))))) ?d12 ?_
              · unfold InR; omega
              · try simp only [beq_iff_eq, beq_true, beq_false, Bool.and_eq_true, decide_eq_true_eq, decide_eq_false_iff_not, Bool.not_eq_true', Bool.or_eq_true, Bool.or_eq_false_iff] at hg
                omega
              · kernel_rfl
              refine awp_cond rfl (fun h => ?_) (fun h => ?_)
              · try simp only [decide_eq_true_eq, decide_eq_false_iff_not, Bool.and_eq_true, Bool.or_eq_true, Bool.and_eq_false_iff, Bool.or_eq_false_iff, Bool.not_eq_true', Bool.not_eq_false', Bool.not_eq_true, Bool.not_eq_false, Bool.true_eq_false, Bool.false_eq_true] at h
                try simp only [Int.toNat_zero] at h
                refine awp_seq ?_
                refine awp_region rfl (.n (fun _ => op_assign (.plain rfl)) (.n (fun _ => op_assign (.plain rfl)) (.nil _))) ?_
                refine awp_ret ?_
                refine retQ.ret ?_
                refine ret2 rfl rfl rfl rfl rfl ?_
                exfalso; omega
              · try simp only [decide_eq_true_eq, decide_eq_false_iff_not, Bool.and_eq_true, Bool.or_eq_true, Bool.and_eq_false_iff, Bool.or_eq_false_iff, Bool.not_eq_true', Bool.not_eq_false', Bool.not_eq_true, Bool.not_eq_false, Bool.true_eq_false, Bool.false_eq_true] at h
                try simp only [Int.toNat_zero] at h
                refine awp_skip ?_
                refine awp_region rfl (.n (fun _ => op_move (.plain rfl)) (.n (fun _ => op_move (.plain rfl)) (.n (fun _ => op_len (s := 0) Try.underlying35 (.plain rfl)) (.n (fun _ => op_add (.plain rfl) (.plain rfl) ?_) (.n (fun _ => op_sub (.plain rfl) (.plain rfl) ?_) (.n (fun _ => op_assign (.plain rfl)) (.nil _))))))) ?_
                · have := gift_bd hb1 hb2 k (by omega); unfold InR; omega
                · have := gift_bd hb1 hb2 k (by omega); unfold InR; omega
                refine awp_region rfl (.n (fun _ => op_move (.plain rfl)) (.n (fun _ => op_add (.plain rfl) (.plain rfl) ?_) (.n (fun _ => op_assign (.plain rfl)) (.nil _)))) ?_
                · unfold InR; omega
                exfalso; omega
            · try simp only [decide_eq_true_eq, decide_eq_false_iff_not, Bool.and_eq_true, Bool.or_eq_true, Bool.and_eq_false_iff, Bool.or_eq_false_iff, Bool.not_eq_true', Bool.not_eq_false', Bool.not_eq_true, Bool.not_eq_false, Bool.true_eq_false, Bool.false_eq_true] at h
              refine awp_seq ?_
              refine awp_seq ?_
              refine awp_region_draw mixed rfl (.n (fun _ => op_move (.plain rfl)) (.n (fun _ => op_len (s := 0) Try.underlying35 (.plain rfl)) (.n (fun _ => op_fieldAddr Try.underlying24 rfl rfl Try.sizeOf3 (.plain rfl)) (.n (fun _ => op_load Try.isAgg3 (.plain rfl)) (.n (fun _ => op_gtr (.plain rfl) (.plain rfl)) (.n (fun _ => op_move (.plain rfl)) (.gn rfl rfl (fun hg _ => op_move (.plain rfl)) (.gn rfl rfl (fun hg _ => op_indexAddr Try.underlying35 Try.sizeOf3 (.opt rfl fun h => h) (.plain rfl) (fun _ => rfl) ?_) (.gn rfl rfl (fun hg _ => op_load Try.isAgg3 (.opt rfl fun h => h)) (.gn rfl rfl (fun hg _ => op_fieldAddr Try.underlying24 rfl rfl Try.sizeOf3 (.plain rfl)) (.gn rfl rfl (fun hg _ => op_load Try.isAgg3 (.opt rfl fun h => h)) (.gn rfl rfl (fun hg _ => op_lss (.opt rfl fun h => h) (.opt rfl fun h => h)) (.n (fun _ => op_or (.plain rfl) (.plain rfl) (.plain rfl) (fun h => eqF h)) (.n (fun _ => op_move (.plain rfl)) (.gn rfl rfl (fun hg _ => op_move (.plain rfl)) (.gn rfl rfl (fun hg _ => op_not (.opt rfl fun h => h)) (.n (fun _ => op_or (.plain rfl) (.plain rfl) (.plain rfl) (fun h => eqF h)) (.nil _)))))))))))))))))) ?d13 ?_
              · try simp only [beq_iff_eq, beq_true, beq_false, Bool.and_eq_true, decide_eq_true_eq, decide_eq_false_iff_not, Bool.not_eq_true', Bool.or_eq_true, Bool.or_eq_false_iff] at hg
                omega
              · kernel_rfl
              refine awp_cond rfl (fun h => ?_) (fun h => ?_)
              · try simp only [decide_eq_true_eq, decide_eq_false_iff_not, Bool.and_eq_true, Bool.or_eq_true, Bool.and_eq_false_iff, Bool.or_eq_false_iff, Bool.not_eq_true', Bool.not_eq_false', Bool.not_eq_true, Bool.not_eq_false, Bool.true_eq_false, Bool.false_eq_true] at h
                try rw [show ((((lAt rs ws k).length : Nat) : Int) - 1).toNat = (lAt rs ws k).length - 1 by omega] at h
                try simp only [Int.toNat_zero] at h
                refine awp_seq ?_
                refine awp_region rfl (.n (fun _ => op_assign (.plain rfl)) (.n (fun _ => op_assign (.plain rfl)) (.nil _))) ?_
                refine awp_ret ?_
                refine retQ.ret ?_
                refine ret2 rfl rfl rfl rfl rfl ?_
                exact res_at hM hE (by omega) (itemB_rd11 h0 (by omega) (by unfold lastF; omega)) (by omega)
              · try simp only [decide_eq_true_eq, decide_eq_false_iff_not, Bool.and_eq_true, Bool.or_eq_true, Bool.and_eq_false_iff, Bool.or_eq_false_iff, Bool.not_eq_true', Bool.not_eq_false', Bool.not_eq_true, Bool.not_eq_false, Bool.true_eq_false, Bool.false_eq_true] at h
                try rw [show ((((lAt rs ws k).length : Nat) : Int) - 1).toNat = (lAt rs ws k).length - 1 by omega] at h
                try simp only [Int.toNat_zero] at h
                refine awp_skip ?_
                refine awp_region rfl (.n (fun _ => op_move (.plain rfl)) (.n (fun _ => op_move (.plain rfl)) (.n (fun _ => op_len (s := 0) Try.underlying35 (.plain rfl)) (.n (fun _ => op_add (.plain rfl) (.plain rfl) ?_) (.n (fun _ => op_assign (.plain rfl)) (.nil _)))))) ?_
                · have := gift_bd hb1 hb2 k (by omega); unfold InR; omega
                refine awp_region rfl (.n (fun _ => op_move (.plain rfl)) (.n (fun _ => op_add (.plain rfl) (.plain rfl) ?_) (.n (fun _ => op_assign (.plain rfl)) (.nil _)))) ?_
                · unfold InR; omega
                exact ⟨k + 1, ⟨by omega, firstE_succ hE (itemB_rd0 h0 (by omega) (by unfold lastF; omega))⟩, by dsimp only; omega, (Ent.kept ⟨rfl, rfl, rfl, rfl, (by first | (exact congrArg (fun n => some (SV.int n)) (gift_rw (by omega))) | (exact congrArg (fun n => some (SV.int n)) (gift_rd (by omega)))), rfl, trivial⟩ ⟨(congrArg (fun l => some (Blk.arr 3 1 Int 0 (fun n => [.int .i64 n]) l)) (by rw [List.take_length]; rfl)), trivial⟩)⟩
    · try simp only [decide_eq_true_eq, decide_eq_false_iff_not, Bool.and_eq_true, Bool.or_eq_true, Bool.and_eq_false_iff, Bool.or_eq_false_iff, Bool.not_eq_true', Bool.not_eq_false', Bool.not_eq_true, Bool.not_eq_false, Bool.true_eq_false, Bool.false_eq_true] at h
      refine awp_exit ?_
      refine awp_seq ?_
      refine awp_region rfl (.n (fun _ => op_move (.plain rfl)) (.n (fun _ => op_assign (.plain rfl)) (.n (fun _ => op_assign (.plain rfl)) (.nil _)))) ?_
      refine awp_ret ?_
      refine retQ.ret ?_
      refine ret2 rfl rfl rfl rfl rfl ?_
      exact res_ok hM hE (by omega)

theorem SwapSays_fc (G : Int) (F : List (List Int)) (Rd Rw : Int) (rs ws : List (List Int)) : FC Try.prog 3 [.agg [.i G, .rows F, .i Rd, .i Rw], .rows rs, .rows ws] (.bool true) := by
  refine FC.intro Try.func3 rfl (Nat.le_of_ble_eq_true rfl) fun hfit => ?_
  have fit0 := hfit _ (.head _)
  obtain ⟨fitl1, fitr1⟩ := (hfit _ (.tail _ (.head _))).rows
  obtain ⟨fitl2, fitr2⟩ := (hfit _ (.tail _ (.tail _ (.head _)))).rows
  have hFl := (fit0.mem (p := .rows F) (by simp)).rows
  have hGi := (fit0.mem (p := .i G) (by simp)).int64
  have hRi := (fit0.mem (p := .i Rd) (by simp)).int64
  have hWi := (fit0.mem (p := .i Rw) (by simp)).int64
  unfold InR at hGi hRi hWi
  refine awp_seq ?_
  refine awp_region rfl (.n (fun _ => op_box (.plain rfl) (by simp)) (.n (fun _ => op_assign (.plain rfl)) (.nil _))) ?_
  refine awp_seq ?_
  refine awp_seq ?_
  refine awp_region rfl (.n (fun _ => op_fieldAddr Try.underlying24 rfl rfl Try.sizeOf22 (.plain rfl)) (.n (fun _ => op_load Try.isAgg22 (.plain rfl)) (.n (fun _ => op_call1 Try.call6 (.plain rfl) (heavy_fc _)) (.n (fun _ => op_move (.plain rfl)) (.gn rfl rfl (fun hg _ => op_move (.plain rfl)) (.gn rfl rfl (fun hg _ => op_call1 Try.call6 (.opt rfl fun h => h) (heavy_fc _)) (.n (fun _ => op_or (.plain rfl) (.plain rfl) (.plain rfl) (fun h => eqF h)) (.n (fun _ => op_move (.plain rfl)) (.gn rfl rfl (fun hg _ => op_move (.plain rfl)) (.gn rfl rfl (fun hg _ => op_call1 Try.call6 (.opt rfl fun h => h) (heavy_fc _)) (.n (fun _ => op_or (.plain rfl) (.plain rfl) (.plain rfl) (fun h => eqF h)) (.nil _)))))))))))) ?_
  refine awp_cond rfl (fun h => ?_) (fun h => ?_)
  · try simp only [decide_eq_true_eq, decide_eq_false_iff_not, Bool.and_eq_true, Bool.or_eq_true, Bool.and_eq_false_iff, Bool.or_eq_false_iff, Bool.not_eq_true', Bool.not_eq_false', Bool.not_eq_true, Bool.not_eq_false, Bool.true_eq_false, Bool.false_eq_true] at h
    refine awp_seq ?_
    refine awp_region rfl (.n (fun _ => op_assign (.plain rfl)) (.nil _)) ?_
    refine awp_ret ?_
    refine retQ.ret ?_
    refine ret1 rfl rfl rfl ?_
    rfl
  · try simp only [decide_eq_true_eq, decide_eq_false_iff_not, Bool.and_eq_true, Bool.or_eq_true, Bool.and_eq_false_iff, Bool.or_eq_false_iff, Bool.not_eq_true', Bool.not_eq_false', Bool.not_eq_true, Bool.not_eq_false, Bool.true_eq_false, Bool.false_eq_true] at h
    have hb1 : heavyF rs = false := by first | exact h.1.2 | (revert h; cases heavyF rs <;> simp)
    have hb2 : heavyF ws = false := by first | exact h.2 | (revert h; cases heavyF ws <;> simp)
    refine awp_skip ?_
    refine awp_seq ?_
    refine awp_region rfl (.n (fun _ => op_load_agg Try.isAgg24 Try.sizeOf24 (.plain rfl) (Nat.le_of_ble_eq_true rfl)) (.n (fun _ => op_move (.plain rfl)) (.n (fun _ => op_move (.plain rfl)) (.n (fun _ => op_call3 Try.call7 (.plain rfl) (.plain rfl) (.plain rfl) (Check_fc _ _ _ _ _ _ ?_ ?_)) (.n (fun _ => op_move (.plain rfl)) (.n (fun _ => op_extract (.plain rfl) rfl) (.n (fun _ => op_extract (.plain rfl) rfl) (.n (fun _ => op_assign (.plain rfl)) (.n (fun _ => op_assign (.plain rfl)) (.nil _)))))))))) ?_
    · assumption
    · assumption
    refine awp_seq ?_
    refine awp_region rfl (.n (fun _ => op_load_agg Try.isAgg24 Try.sizeOf24 (.plain rfl) (Nat.le_of_ble_eq_true rfl)) (.n (fun _ => op_move (.plain rfl)) (.n (fun _ => op_move (.plain rfl)) (.n (fun _ => op_call3 Try.call8 (.plain rfl) (.plain rfl) (.plain rfl) (SwapCheck_fc _ _ _ _ _ _ ?_ ?_)) (.n (fun _ => op_move (.plain rfl)) (.n (fun _ => op_extract (.plain rfl) rfl) (.n (fun _ => op_extract (.plain rfl) rfl) (.n (fun _ => op_assign (.plain rfl)) (.n (fun _ => op_assign (.plain rfl)) (.nil _)))))))))) ?_
    · assumption
    · assumption
    refine awp_seq ?_
    refine awp_region_draw mixed rfl (.n (fun _ => op_load_agg Try.isAgg24 Try.sizeOf24 (.plain rfl) (Nat.le_of_ble_eq_true rfl)) (.n (fun _ => op_call1 Try.call9 (.plain rfl) (May_fc _ _ _ _)) (.n (fun _ => op_load_agg Try.isAgg24 Try.sizeOf24 (.plain rfl) (Nat.le_of_ble_eq_true rfl)) (.n (fun _ => op_call1 Try.call10 (.plain rfl) (SwapMay_fc _ _ _ _)) (.n (fun _ => op_eql (.plain rfl) (.plain rfl)) (.n (fun _ => op_move (.plain rfl)) (.gn rfl rfl (fun hg _ => op_move (.plain rfl)) (.gn rfl rfl (fun hg _ => op_move (.plain rfl)) (.gn rfl rfl (fun hg _ => op_eql (.opt rfl fun h => h) (.opt rfl fun h => h)) (.n (fun _ => op_and (.plain rfl) (.plain rfl) (.plain rfl) (fun h => eqT h)) (.n (fun _ => op_move (.plain rfl)) (.gn rfl rfl (fun hg _ => op_move (.plain rfl)) (.gn rfl rfl (fun hg _ => op_move (.plain rfl)) (.gn rfl rfl (fun hg _ => op_eql (.opt rfl fun h => h) (.opt rfl fun h => h)) (.n (fun _ => op_and (.plain rfl) (.plain rfl) (.plain rfl) (fun h => eqT h)) (.n (fun _ => op_assign (.plain rfl)) (.nil _))))))))))))))))) ?d14 ?_
    · kernel_rfl
    refine awp_ret ?_
    refine retQ.ret ?_
    refine ret1 rfl rfl rfl ?_
    simp

end Go.Proofs.Ytnkhlgkcohpahaa

