/- The order least spoken against. Conditions: each theorem names its own. -/
import Derived.Test.YtkbbdiodmeobaaaProg
import Derived.Test.YtkbbdiodmeobaaaFf
namespace Go.Proofs.Ytkbbdiodmeobaaa
open Go.Abs
set_option linter.unusedVariables false
set_option linter.unusedSimpArgs false


def pickF (c n : Int) : Int := (if c < 0 then -(c + 1) else c) % n
theorem pickF_range (c n : Int) (h : 1 ≤ n) : 0 ≤ pickF c n ∧ pickF c n < n := by
  unfold pickF
  exact ⟨Int.emod_nonneg _ (by omega), Int.emod_lt_of_pos _ (by omega)⟩
def atF (raw : List Int) (k : Nat) : Int := if raw.length = 0 then 0 else raw.getD (k % raw.length) 0
def upF (n : Nat) : List Int := (List.range n).map fun (i : Nat) => (i : Int)
theorem upF_succ (n : Nat) : upF (n + 1) = upF n ++ [(n : Int)] := by simp [upF, List.range_succ]
@[simp] theorem upF_length (n : Nat) : (upF n).length = n := by simp [upF]
/-! ### All orders -/
def ordTo (g : List Int → List (List Int)) (o : List Int) : Nat → List (List Int)
  | 0 => []
  | i + 1 => ordTo g o i ++ if ¬ (i : Int) ∈ o then g (o ++ [(i : Int)]) else []
def ordR (n : Nat) : Nat → List Int → List (List Int)
  | 0, o => [o]
  | f + 1, o => ordTo (ordR n f) o n
def ordL (n : Nat) : List (List Int) := ordR n n []
theorem ordTo_mem {g : List Int → List (List Int)} {o v : List Int} : ∀ {m : Nat}, v ∈ ordTo g o m ↔ ∃ i : Nat, i < m ∧ ¬ (i : Int) ∈ o ∧ v ∈ g (o ++ [(i : Int)])
  | 0 => by simp [ordTo]
  | m + 1 => by
    simp only [ordTo, List.mem_append, ordTo_mem (m := m)]
    constructor
    · rintro (⟨i, hi, h1, h2⟩ | h)
      · exact ⟨i, by omega, h1, h2⟩
      · split at h
        · rename_i h1; exact ⟨m, by omega, h1, h⟩
        · simp at h
    · rintro ⟨i, hi, h1, h2⟩
      by_cases e : i = m
      · subst e; right; rw [if_pos h1]; exact h2
      · exact .inl ⟨i, by omega, h1, h2⟩
theorem ord_of {n : Nat} {o : List Int} (h : GoneOk n 0 o) : ordE n o = 0 := by
  obtain ⟨l, e, hn, hl⟩ := h.nat
  have hlen := h.len
  unfold ordE
  rw [if_neg (by omega)]
  unfold someE
  have key : ∀ m, m ≤ o.length → firstE (someB n o) m = 0 := by
    intro m
    induction m with
    | zero => intro _; rfl
    | succ m ih =>
      intro hm
      refine firstE_succ (ih (by omega)) ?_
      have hml : m < l.length := by rw [e, List.length_map] at hm; omega
      have hg : ∀ k, k < l.length → o.getD k 0 = ((l.getD k 0 : Nat) : Int) := fun k hk => by rw [e]; simp [List.getD_eq_getElem?_getD, hk]
      have h1 := hl _ (getD_mem 0 hml)
      have h2 := hg m hml
      refine someB_0 (by omega) fun c => ?_
      have h3 := placeF_le (l := o) (k := m) (by omega)
      have h4 := placeF_at h3.2
      obtain ⟨k, hk⟩ : ∃ k : Nat, placeF o (o.getD m 0) = (k : Nat) := ⟨_, (Int.toNat_of_nonneg h3.2).symm⟩
      rw [hk, Int.toNat_natCast] at h4
      have hkl : k < l.length := by rw [e, List.length_map] at h4; exact h4.1
      rw [hg k hkl, h2] at h4
      have h5 : l[k] = l[m] := by
        have := h4.2
        simp only [List.getD_eq_getElem?_getD, List.getElem?_eq_getElem hkl, List.getElem?_eq_getElem hml, Option.getD_some] at this
        omega
      have := (List.getElem_inj hn).1 h5
      omega
  exact key _ (Nat.le_refl _)
theorem ordR_ok {n : Nat} : ∀ {f : Nat} {o v : List Int}, GoneOk n f o → v ∈ ordR n f o → GoneOk n 0 v
  | 0, o, v, h, hv => by
    have : v = o := by simpa [ordR] using hv
    subst this; exact h
  | f + 1, o, v, h, hv => by
    obtain ⟨i, hi, h1, h2⟩ := ordTo_mem.1 hv
    exact ordR_ok (h.add hi h1) h2
theorem ordL_ok {n k : Nat} (hk : k < (ordL n).length) : ordE n ((ordL n).getD k []) = 0 := by
  have : (ordL n).getD k [] ∈ ordL n := by rw [List.getD_eq_getElem?_getD, List.getElem?_eq_getElem hk]; exact List.getElem_mem hk
  exact ord_of (ordR_ok (GoneOk.nil n) this)
theorem ordTo_pos {g : List Int → List (List Int)} {o : List Int} (hg : ∀ v, 0 < (g v).length) : ∀ {m : Nat}, (∃ i : Nat, i < m ∧ ¬ (i : Int) ∈ o) → 0 < (ordTo g o m).length
  | 0, ⟨i, hi, _⟩ => absurd hi (Nat.not_lt_zero _)
  | m + 1, ⟨i, hi, h⟩ => by
    simp only [ordTo, List.length_append]
    by_cases e : i = m
    · subst e; rw [if_pos h]; have := hg (o ++ [(i : Int)]); omega
    · have := ordTo_pos hg (m := m) ⟨i, by omega, h⟩; omega
theorem ordTo_sub {g : List Int → List (List Int)} {o : List Int} {j m : Nat} (h : j ≤ m) : ∃ t, ordTo g o m = ordTo g o j ++ t := by
  induction m with
  | zero => obtain rfl : j = 0 := by omega
            exact ⟨[], by simp⟩
  | succ m ih =>
    by_cases e : j = m + 1
    · subst e; exact ⟨[], by simp⟩
    · obtain ⟨t, ht⟩ := ih (by omega)
      refine ⟨t ++ if ¬ (m : Int) ∈ o then g (o ++ [(m : Int)]) else [], ?_⟩
      simp only [ordTo]; rw [ht, List.append_assoc]
/-- Those that come from k0 on are these. -/
def Sub (A : List (List Int)) (k0 : Nat) (B : List (List Int)) : Prop := ∃ s t, A = s ++ B ++ t ∧ s.length = k0
theorem Sub.at' {A B : List (List Int)} {k0 j : Nat} (h : Sub A k0 B) (hj : j < B.length) : A.getD (k0 + j) [] = B.getD j [] ∧ k0 + j < A.length := by
  obtain ⟨s, t, e, hs⟩ := h
  subst e; subst hs
  refine ⟨?_, by simp; omega⟩
  rw [List.getD_eq_getElem?_getD, List.append_assoc, List.getElem?_append_right (by omega), Nat.add_sub_cancel_left, List.getElem?_append_left hj, ← List.getD_eq_getElem?_getD]
theorem Sub.len {A B : List (List Int)} {k0 : Nat} (h : Sub A k0 B) : k0 + B.length ≤ A.length := by
  obtain ⟨s, t, e, hs⟩ := h
  subst e; subst hs
  simp only [List.length_append]; omega
theorem Sub.step {n f : Nat} {o : List Int} {A : List (List Int)} {k0 i : Nat} (h : Sub A k0 (ordR n (f + 1) o)) (hi : i < n) (hio : ¬ (i : Int) ∈ o) : Sub A (k0 + (ordTo (ordR n f) o i).length) (ordR n f (o ++ [(i : Int)])) := by
  obtain ⟨s, t, e, hs⟩ := h
  obtain ⟨u, hu⟩ := ordTo_sub (g := ordR n f) (o := o) (j := i + 1) (m := n) (by omega)
  have e2 : ordR n (f + 1) o = ordTo (ordR n f) o i ++ ordR n f (o ++ [(i : Int)]) ++ u := by
    show ordTo (ordR n f) o n = _
    rw [hu]; simp only [ordTo]; rw [if_pos hio]
  refine ⟨s ++ ordTo (ordR n f) o i, u ++ t, ?_, by rw [List.length_append, hs]⟩
  rw [e, e2]; simp only [List.append_assoc]
theorem ordTo_yes {g : List Int → List (List Int)} {o : List Int} {i : Nat} (h : ¬ (i : Int) ∈ o) : (ordTo g o i).length + (g (o ++ [(i : Int)])).length = (ordTo g o (i + 1)).length := by
  simp only [ordTo, List.length_append]; rw [if_pos h]
theorem ordTo_no {g : List Int → List (List Int)} {o : List Int} {i : Nat} (h : (i : Int) ∈ o) : (ordTo g o i).length = (ordTo g o (i + 1)).length := by
  simp only [ordTo, List.length_append]; rw [if_neg fun c => c h]; rfl
/-! ### The first one least spoken against -/
def kemT (ag : List Int → Int) (l : List (List Int)) : Nat → List Int
  | 0 => []
  | k + 1 => if k = 0 ∨ ag (l.getD k []) < ag (kemT ag l k) then l.getD k [] else kemT ag l k
def kemF (n : Nat) (L : List (Int × List Int × Unit)) : List Int := kemT (agF L) (ordL n) (ordL n).length
def bPk (ag : List Int → Int) (l : List (List Int)) : Nat → PV
  | 0 => .nil
  | k + 1 => .ints (kemT ag l (k + 1))
def mPk (ag : List Int → Int) (l : List (List Int)) : Nat → Int
  | 0 => 0
  | k + 1 => ag (kemT ag l (k + 1))
section
variable {ag : List Int → Int} {l : List (List Int)} {k : Nat}
theorem kem_yes (h : k = 0 ∨ ag (l.getD k []) < mPk ag l k) : l.getD k [] = kemT ag l (k + 1) := by
  simp only [kemT]
  cases k with
  | zero => rw [if_pos (.inl rfl)]
  | succ k => rw [if_pos (.inr (h.resolve_left (by omega)))]
theorem kem_no (h : ¬ k = 0 ∧ ¬ ag (l.getD k []) < mPk ag l k) : bPk ag l k = bPk ag l (k + 1) ∧ mPk ag l k = mPk ag l (k + 1) := by
  cases k with
  | zero => exact absurd rfl h.1
  | succ k =>
    have : kemT ag l (k + 2) = kemT ag l (k + 1) := by
      show (if k + 1 = 0 ∨ ag (l.getD (k + 1) []) < ag (kemT ag l (k + 1)) then _ else _) = _
      rw [if_neg (by rintro (c | c); omega; exact h.2 c)]
    exact ⟨by show PV.ints _ = PV.ints _; rw [this], by show ag _ = ag _; rw [this]⟩
theorem kem_box (h : k = 0 ∨ ag (l.getD k []) < mPk ag l k) : some (Blk.box [SV.pv (.ints (l.getD k []))]) = some (Blk.box [SV.pv (bPk ag l (k + 1))]) := by rw [kem_yes h]; rfl
theorem kem_box2 (h : k = 0 ∨ ag (l.getD k []) < mPk ag l k) : some (Blk.box [SV.int (ag (l.getD k []))]) = some (Blk.box [SV.int (mPk ag l (k + 1))]) := by rw [kem_yes h]; rfl
theorem kem_box_no (h : ¬ k = 0 ∧ ¬ ag (l.getD k []) < mPk ag l k) : some (Blk.box [SV.pv (bPk ag l k)]) = some (Blk.box [SV.pv (bPk ag l (k + 1))]) := by rw [(kem_no h).1]
theorem kem_box2_no (h : ¬ k = 0 ∧ ¬ ag (l.getD k []) < mPk ag l k) : some (Blk.box [SV.int (mPk ag l k)]) = some (Blk.box [SV.int (mPk ag l (k + 1))]) := by rw [(kem_no h).2]
end
theorem ordL_pos {n : Nat} (hn : 1 ≤ n) : 0 < (ordL n).length := by
  have key : ∀ f o, GoneOk n f o → 0 < (ordR n f o).length := by
    intro f
    induction f with
    | zero => intro o _; simp [ordR]
    | succ f ih =>
      intro o h
      obtain ⟨y, hy, hyo⟩ := h.left
      have h1 := ih _ (h.add hy hyo)
      have h2 := ordTo_yes (g := ordR n f) (o := o) hyo
      obtain ⟨t, ht⟩ := ordTo_sub (g := ordR n f) (o := o) (j := y + 1) (m := n) (by omega)
      show 0 < (ordTo (ordR n f) o n).length
      rw [ht, List.length_append]; omega
  exact key n [] (GoneOk.nil n)
theorem kem_end {n : Nat} {L : List (Int × List Int × Unit)} (hn : 1 ≤ n) : bPk (agF L) (ordL n) (ordL n).length = .ints (kemF n L) := by
  have := ordL_pos hn
  unfold kemF
  cases h : (ordL n).length with
  | zero => omega
  | succ k => rfl
theorem kemR_no {ag : List Int → Int} {l : List (List Int)} {k : Nat} (h : ¬ ag (l.getD (k + 1) []) < ag (kemT ag l (k + 1))) : kemT ag l (k + 1) = kemT ag l (k + 1 + 1) := by
  show _ = if k + 1 = 0 ∨ ag (l.getD (k + 1) []) < ag (kemT ag l (k + 1)) then _ else _
  rw [if_neg (by rintro (c | c); omega; exact h c)]
theorem kem_len {n : Nat} {L : List (Int × List Int × Unit)} : ∀ k, k ≤ (ordL n).length → 0 < k → ∃ j, j < k ∧ kemT (agF L) (ordL n) k = (ordL n).getD j []
  | k + 1, hk, _ => by
    simp only [kemT]
    split
    · exact ⟨k, by omega, rfl⟩
    · rename_i h
      cases k with
      | zero => exact absurd (.inl rfl) h
      | succ k =>
        obtain ⟨j, hj, e⟩ := kem_len (n := n) (L := L) (k + 1) (by omega) (by omega)
        exact ⟨j, by omega, e⟩
theorem bPk_nil {n k : Nat} {L : List (Int × List Int × Unit)} (hn : 1 ≤ n) (hk : k < (ordL n).length) : (decide (k = 0) = true ∧ bPk (agF L) (ordL n) k = .nil) ∨ (decide (k = 0) = false ∧ ∃ (α : Type) (d : α) (f : α → List PV), ∃ l : List α, bPk (agF L) (ordL n) k = .seq α d f l ∧ l ≠ []) := by
  cases k with
  | zero => exact .inl ⟨rfl, rfl⟩
  | succ k =>
    refine .inr ⟨rfl, Int, 0, _, kemT (agF L) (ordL n) (k + 1), rfl, fun c => ?_⟩
    obtain ⟨j, hj, e⟩ := kem_len (n := n) (L := L) (k + 1) (by omega) (by omega)
    have := (ordE_zero (ordL_ok (show j < (ordL n).length by omega))).1
    rw [← e, c] at this
    simp at this; omega
theorem vote_nat {n : Int} {L : List (Int × List Int × Unit)} (h : voteE n L = 0) : ∃ m : Nat, n = (m : Int) := by
  unfold voteE at h
  split at h
  · omega
  · exact ⟨n.toNat, by omega⟩
def restF (l : List Int) (i : Nat) : List Int := l.take i ++ l.drop (i + 1)
theorem restF_len {l : List Int} {i : Nat} (h : i < l.length) : (restF l i).length = l.length - 1 := by simp [restF]; omega
def permsN : Nat → List Int → List (List Int)
  | 0, _ => [[]]
  | m + 1, l => (List.range (m + 1)).flatMap fun i => (permsN m (restF l i)).map fun p => l.getD i 0 :: p
def permsF (l : List Int) : List (List Int) := permsN l.length l
def permTo (l : List Int) (i : Nat) : List (List Int) := (List.range i).flatMap fun i => (permsF (restF l i)).map fun p => l.getD i 0 :: p
theorem permTo_succ (l : List Int) (i : Nat) : permTo l (i + 1) = permTo l i ++ (permsF (restF l i)).map fun p => l.getD i 0 :: p := by simp [permTo, List.range_succ]
theorem permTo_all {l : List Int} (h : l ≠ []) : permTo l l.length = permsF l := by
  unfold permsF
  obtain ⟨m, hm⟩ : ∃ m, l.length = m + 1 := ⟨l.length - 1, by have := List.length_pos_iff.2 h; omega⟩
  rw [hm]
  unfold permsN permTo permsF
  have key : ∀ (r : List Nat), (∀ i, i ∈ r → i < l.length) → (r.flatMap fun i => (permsN (restF l i).length (restF l i)).map fun p => l.getD i 0 :: p) = r.flatMap fun i => (permsN m (restF l i)).map fun p => l.getD i 0 :: p := by
    intro r
    induction r with
    | nil => intro _; rfl
    | cons a r ih =>
      intro hr
      rw [List.flatMap_cons, List.flatMap_cons, ih fun i hi => hr i (List.mem_cons_of_mem _ hi), restF_len (hr a List.mem_cons_self), hm]; rfl
  exact key _ fun i hi => by have := List.mem_range.1 hi; omega
def factN : Nat → Nat
  | 0 => 1
  | n + 1 => (n + 1) * factN n
theorem flat_len {α β : Type} {f : α → List β} {c : Nat} : ∀ {l : List α}, (∀ x, x ∈ l → (f x).length = c) → (l.flatMap f).length = l.length * c
  | [], _ => by simp
  | a :: l, h => by
    rw [List.flatMap_cons, List.length_append, h a List.mem_cons_self, flat_len fun x hx => h x (List.mem_cons_of_mem _ hx)]
    simp [Nat.add_mul, Nat.add_comm]
theorem permsN_len : ∀ (m : Nat) (l : List Int), l.length = m → (permsN m l).length = factN m
  | 0, l, _ => rfl
  | m + 1, l, h => by
    unfold permsN
    rw [flat_len (c := factN m) fun i hi => ?_]
    · simp [factN]
    · rw [List.length_map]
      exact permsN_len m _ (by rw [restF_len (by have := List.mem_range.1 hi; omega), h]; rfl)
theorem permTo_len {l : List Int} {i : Nat} (h : i ≤ l.length) (h6 : l.length ≤ 6) : (permTo l i).length ≤ 720 := by
  unfold permTo
  rw [flat_len (c := factN (l.length - 1)) fun j hj => ?_]
  · rw [List.length_range]
    have : ∀ n : Nat, n ≤ 6 → ∀ i, i ≤ n → i * factN (n - 1) ≤ 720 := by decide
    exact this _ h6 _ h
  · rw [List.length_map]
    have hjl : j < l.length := by have := List.mem_range.1 hj; omega
    unfold permsF
    rw [permsN_len _ _ rfl, restF_len hjl]
theorem permsF_len {l : List Int} (h6 : l.length ≤ 6) : (permsF l).length ≤ 720 := by
  by_cases h : l = []
  · subst h; decide
  · rw [← permTo_all h]; exact permTo_len (Nat.le_refl _) h6
theorem perm_rest {l : List Int} {i : Nat} (h : i < l.length) : (l.getD i 0 :: restF l i).Perm l := by
  have e : l.take i ++ l.getD i 0 :: l.drop (i + 1) = l := by
    have h1 : l.getD i 0 :: l.drop (i + 1) = l.drop i := by rw [List.drop_eq_getElem_cons h]; simp [List.getD_eq_getElem?_getD, h]
    rw [h1, List.take_append_drop]
  have := (List.perm_middle (a := l.getD i 0) (l₁ := l.take i) (l₂ := l.drop (i + 1))).symm
  rw [e] at this
  exact this
theorem permsN_mem : ∀ (m : Nat) (l p : List Int), l.length = m → (p ∈ permsN m l ↔ p.Perm l)
  | 0, l, p, h => by
    obtain rfl : l = [] := List.eq_nil_of_length_eq_zero h
    simp [permsN]
  | m + 1, l, p, h => by
    unfold permsN
    rw [List.mem_flatMap]
    constructor
    · rintro ⟨i, hi, hp⟩
      have hil : i < l.length := by have := List.mem_range.1 hi; omega
      obtain ⟨q, hq, rfl⟩ := List.mem_map.1 hp
      have := (permsN_mem m (restF l i) q (by rw [restF_len hil, h]; rfl)).1 hq
      exact (List.Perm.cons _ this).trans (perm_rest hil)
    · intro hp
      match p, hp with
      | [], hp => have := hp.length_eq; simp at this; omega
      | x :: q, hp =>
        have hx : x ∈ l := hp.subset List.mem_cons_self
        obtain ⟨i, hi, e⟩ := List.getElem_of_mem hx
        have e2 : l.getD i 0 = x := by simp [List.getD_eq_getElem?_getD, hi, e]
        refine ⟨i, List.mem_range.2 (by omega), List.mem_map.2 ⟨q, (permsN_mem m (restF l i) q (by rw [restF_len hi, h]; rfl)).2 ?_, by rw [e2]⟩⟩
        have h2 := hp.trans (perm_rest hi).symm
        rw [e2] at h2
        exact h2.cons_inv
theorem permsF_mem {l p : List Int} : p ∈ permsF l ↔ p.Perm l := permsN_mem _ _ _ rfl
theorem rest_eq (l : List Int) (i : Nat) : ([] ++ (l.take ((i : Nat) : Int).toNat).drop (0 : Int).toNat) ++ (l.take ((l.length : Nat) : Int).toNat).drop (((i : Nat) : Int) + 1).toNat = restF l i := by
  have e : (((i : Nat) : Int) + 1).toNat = i + 1 := by omega
  rw [e]; simp [restF]
theorem take_snocR {l : List (List Int)} {k : Nat} (h : k < l.length) : l.take (k + 1) = l.take k ++ [l.getD k []] := by
  rw [List.take_succ_eq_append_getElem h]; simp [List.getD_eq_getElem?_getD, h]
theorem permR_in {l : List Int} {i k : Nat} (h : (restF l i).length = l.length - 1) (hk : k < (permsF (restF l i)).length) : ((permsF (restF l i)).getD k []).length = l.length - 1 := by
  rw [← h]; exact (permsF_mem.1 (getD_mem [] hk)).length_eq

theorem where_filter (p : Nat → Bool) : ∀ n, whereTo p n = ((List.range n).filter p).map fun (i : Nat) => (i : Int)
  | 0 => rfl
  | n + 1 => by
    simp only [whereTo, where_filter p n, List.range_succ, List.filter_append, List.map_append]
    cases h : p n <;> simp [h]
theorem filter_rest : ∀ {l : List Nat} {k : Nat}, l.Nodup → k < l.length → l.filter (fun j => !decide (j = l.getD k 0)) = l.take k ++ l.drop (k + 1)
  | [], k, _, h => absurd h (by simp)
  | a :: l, 0, hn, _ => by
    simp only [List.getD_cons_zero, List.take_zero, List.nil_append, List.drop_succ_cons, List.drop_zero]
    rw [List.filter_cons, if_neg (by simp)]
    refine List.filter_eq_self.2 fun j hj => ?_
    have : ¬ j = a := fun c => (List.nodup_cons.1 hn).1 (c ▸ hj)
    simp [this]
  | a :: l, k + 1, hn, h => by
    have h2 : k < l.length := by simpa using h
    have hm : l.getD k 0 ∈ l := by rw [List.getD_eq_getElem?_getD, List.getElem?_eq_getElem h2]; exact List.getElem_mem h2
    have hne : ¬ a = l.getD k 0 := fun c => (List.nodup_cons.1 hn).1 (c ▸ hm)
    rw [List.getD_cons_succ, List.filter_cons, if_pos (by simpa using hne), filter_rest (List.nodup_cons.1 hn).2 h2]
    rfl
def remL (n : Nat) (o : List Int) : List Int := whereTo (fun i => !decide ((i : Int) ∈ o)) n
theorem rem_rest {n k : Nat} {o : List Int} (hk : k < (remL n o).length) : ∃ i : Nat, (remL n o).getD k 0 = (i : Int) ∧ remL n (o ++ [(i : Int)]) = restF (remL n o) k := by
  unfold remL at *
  rw [where_filter] at hk ⊢
  rw [List.length_map] at hk
  generalize hl : (List.range n).filter (fun i : Nat => !decide ((i : Int) ∈ o)) = l at hk ⊢
  have hnd : l.Nodup := by rw [← hl]; exact List.Nodup.sublist List.filter_sublist List.nodup_range
  refine ⟨l.getD k 0, by simp [List.getD_eq_getElem?_getD, hk], ?_⟩
  rw [where_filter]
  have e : (List.range n).filter (fun i : Nat => !decide ((i : Int) ∈ o ++ [((l.getD k 0 : Nat) : Int)])) = l.take k ++ l.drop (k + 1) := by
    rw [← filter_rest hnd hk]
    conv => rhs; rw [← hl]
    rw [List.filter_filter, hl]
    refine List.filter_congr fun j _ => ?_
    simp only [List.mem_append, List.mem_singleton]
    by_cases h1 : (j : Int) ∈ o
    · simp [h1]
    · by_cases h2 : j = l.getD k 0
      · simp [h1, h2]
      · have h3 : ¬ (j : Int) = ((l.getD k 0 : Nat) : Int) := fun c => h2 (by omega)
        simp only [h1, h2, h3, or_false, decide_false, Bool.not_false, Bool.and_self]
  rw [e]
  simp [restF]
theorem ordTo_flat {g : List Int → List (List Int)} {o : List Int} : ∀ m, ordTo g o m = (whereTo (fun i => !decide ((i : Int) ∈ o)) m).flatMap fun x => g (o ++ [x])
  | 0 => rfl
  | m + 1 => by
    simp only [ordTo, whereTo, List.flatMap_append, ordTo_flat m]
    by_cases h : (m : Int) ∈ o
    · rw [if_neg fun c => c h, if_neg (by simp [h])]; rfl
    · rw [if_pos h, if_pos (by simp [h])]; simp
theorem flat_congr {α β : Type} {f g : α → List β} : ∀ {l : List α}, (∀ x, x ∈ l → f x = g x) → l.flatMap f = l.flatMap g
  | [], _ => rfl
  | a :: l, h => by rw [List.flatMap_cons, List.flatMap_cons, h a List.mem_cons_self, flat_congr fun x hx => h x (List.mem_cons_of_mem _ hx)]
theorem list_range (l : List Int) : l = (List.range l.length).map fun k => l.getD k 0 := List.ext_getElem (by simp) fun i h1 h2 => by simp [List.getD_eq_getElem?_getD, h1]
/-- Both lists of all orders are the same. -/
theorem ord_perms {n : Nat} : ∀ (f : Nat) (o : List Int), (remL n o).length = f → ordR n f o = (permsN f (remL n o)).map fun p => o ++ p
  | 0, o, _ => by simp [ordR, permsN]
  | f + 1, o, h => by
    show ordTo (ordR n f) o n = _
    rw [ordTo_flat]
    have e : (remL n o).flatMap (fun x => ordR n f (o ++ [x])) = (List.range (f + 1)).flatMap fun k => ordR n f (o ++ [(remL n o).getD k 0]) := by
      conv => lhs; rw [list_range (remL n o)]
      rw [List.flatMap_map, h]
    have e2 : (whereTo (fun i => !decide ((i : Int) ∈ o)) n).flatMap (fun x => ordR n f (o ++ [x])) = (remL n o).flatMap fun x => ordR n f (o ++ [x]) := rfl
    rw [e2, e]
    simp only [permsN, List.map_flatMap]
    refine flat_congr fun k hk => ?_
    have hk2 : k < (remL n o).length := by rw [h]; exact List.mem_range.1 hk
    obtain ⟨i, hi, hr⟩ := rem_rest hk2
    rw [hi, ord_perms f (o ++ [(i : Int)]) (by rw [hr, restF_len hk2, h]; rfl), hr, List.map_map]
    refine List.map_congr_left fun p _ => ?_
    simp
theorem ordL_perms (n : Nat) : permsF (upF n) = ordL n := by
  have h : remL n [] = upF n := by unfold remL upF; rw [where_filter]; congr 1; exact List.filter_eq_self.2 fun j _ => by simp
  have := ord_perms (n := n) n [] (by rw [h]; simp [upF])
  unfold permsF ordL
  rw [this, h]
  simp [upF]

set_option maxRecDepth 1000000 in
set_option maxHeartbeats 1000000 in
theorem clone_fc (l : List Int) (hl : l.length ≤ 1000000) : FCO Try.prog 55 [.ints l] 3 1 Int 0 (fun n => [.int .i64 n]) (l) := by
  refine FCO.intro Try.func55 rfl (Nat.le_of_ble_eq_true rfl) fun hfit => ?_
  obtain ⟨fitl0, fitr0⟩ := (hfit _ (.head _)).ints
  refine awp_seq ?_
  refine awp_region rfl (.n (fun _ => op_assign (.plain rfl)) (.nil _)) ?_
  refine awp_seq ?_
  refine awp_seq ?_
  refine awp_nilsplit 0 rfl (fun hnil => ?_) ?_
  · have _hs := trivial
    refine awp_region rfl (.n (fun _ => op_move (.plain rfl)) (.n (fun _ => op_nil_nil Try.underlying23 (.plain rfl)) (.nil _))) ?_
    refine awp_cond rfl (fun h => ?_) (fun h => ?_)
    · clear h
      refine awp_seq ?_
      refine awp_region rfl (.n (fun _ => op_assign (.plain rfl)) (.nil _)) ?_
      refine awp_ent (Ent.begin 2 5002 3 1 Int 0 (fun n => [.int .i64 n]) rfl rfl rfl) ?_
      refine awp_ret ?_
      refine retO.ret ?_
      refine retO1 rfl rfl rfl ?_
      exact hnil.symm
    · first | cases h | exact absurd h (by decide)
  · have _hs := trivial
    refine awp_region rfl (.n (fun _ => op_move (.plain rfl)) (.n (fun _ => op_nn_nil Try.underlying23 (.plain rfl)) (.nil _))) ?_
    refine awp_ent (Ent.denn 0 rfl) ?_
    refine awp_cond rfl (fun h => ?_) (fun h => ?_)
    · first | cases h | exact absurd h (by decide)
    · clear h
      refine awp_skip ?_
      refine awp_seq ?_
      refine awp_region rfl (.e (op_slitO (pp := []) (α := Int) (d := 0) (f := (fun n => [.int .i64 n])) 5 [] ety23 rfl trivial rfl (by decide) rfl (fun _ => rfl) rfl) rfl (.n (fun _ => op_move (.plain rfl)) (.e (op_append (id' := 7) (α := Int) (d := 0) (f := (fun n => [.int .i64 n])) ety23 Try.underlying23 (fun _ => rfl) (fun _ => rfl) (.plain rfl) rfl (.plain rfl) rfl ?_) rfl (.n (fun _ => op_assign (.plain rfl)) (.nil _))))) ?_
      · first | omega | (simp; omega)
      refine awp_ret ?_
      refine retO.ret ?_
      refine retO1 rfl rfl rfl ?_
      simp

set_option maxRecDepth 1000000 in
set_option maxHeartbeats 1000000 in
theorem orders_fc (n : Int) : FC Try.prog 53 [.i n] (.clo 67 [.rd [.i n]]) := by
  refine FC.intro Try.func53 rfl (Nat.le_of_ble_eq_true rfl) fun hfit => ?_
  have fit0 : -9223372036854775808 ≤ (n : Int) ∧ (n : Int) ≤ 9223372036854775807 := (hfit _ (.head _)).int64
  refine awp_seq ?_
  refine awp_region rfl (.n (fun _ => op_box (.plain rfl) (by simp)) (.n (fun _ => op_assign (.plain rfl)) (.nil _))) ?_
  refine awp_seq ?_
  refine awp_region rfl (.n (fun _ => op_makeFunc1 (.plain rfl)) (.n (fun _ => op_assign (.plain rfl)) (.nil _))) ?_
  refine awp_ret ?_
  refine retQ.ret ?_
  refine ret1 rfl rfl rfl ?_
  rfl

set_option maxRecDepth 1000000 in
set_option maxHeartbeats 4000000 in
theorem orders11_fch (n : Nat) (L : List (Int × List Int × Unit)) (ps : Array Tmp) (asg bd : Code) (A : Nat → PV) (B : Nat → Int) (hy : ∀ k, k < (ordL n).length → YH Try.prog 900 (.yld ps asg bd [.pv .any, .pv .any, .pv .any, .pv .any, .pv .any, .pv .any, .pv (.rd [.rows (prM n L)]), .pv .any, .ref 8 0, .ref 9 0, .pv .any, .pv .any, .pv .any, .pv .any, .pv .any, .pv .any, .pv .any, .pv .any, .pv .any, .pv .any, .pv .any, .pv .any, .clo (.func 67) [.pv (.rd [.i (n : Nat)])], .pv .any, .pv .any, .pv .any, .pv .any, .pv .any, .pv .any, .pv .any, .pv .any, .pv .any, .pv .any, .pv .any, .pv .any, .pv .any, .pv .any, .pv .any]) [.pv (.ints ((ordL n).getD k []))] [(8, .box [.pv (A (k))]), (9, .box [.int (B (k))])] [(8, .box [.pv (A (k + 1))]), (9, .box [.int (B (k + 1))])]) (f : Nat) (o : List Int) (k0 : Nat) (ho : GoneOk n f o) (hs : Sub (ordL n) k0 (ordR n f o)) (hn : n ≤ 6) : FCH Try.prog 68 [.pv (.ints o), .pv (.rd [.i (n : Nat)]), .ref 2 0, .ref 3 0] [(900, .yld ps asg bd [.pv .any, .pv .any, .pv .any, .pv .any, .pv .any, .pv .any, .pv (.rd [.rows (prM n L)]), .pv .any, .ref 8 0, .ref 9 0, .pv .any, .pv .any, .pv .any, .pv .any, .pv .any, .pv .any, .pv .any, .pv .any, .pv .any, .pv .any, .pv .any, .pv .any, .clo (.func 67) [.pv (.rd [.i (n : Nat)])], .pv .any, .pv .any, .pv .any, .pv .any, .pv .any, .pv .any, .pv .any, .pv .any, .pv .any, .pv .any, .pv .any, .pv .any, .pv .any, .pv .any, .pv .any]), (2, .box [.own 900]), (3, .box [.clo (.func 68) [.pv (.rd [.i (n : Nat)]), .ref 2 0, .ref 3 0]]), (8, .box [.pv (A (k0))]), (9, .box [.int (B (k0))])] [(900, .yld ps asg bd [.pv .any, .pv .any, .pv .any, .pv .any, .pv .any, .pv .any, .pv (.rd [.rows (prM n L)]), .pv .any, .ref 8 0, .ref 9 0, .pv .any, .pv .any, .pv .any, .pv .any, .pv .any, .pv .any, .pv .any, .pv .any, .pv .any, .pv .any, .pv .any, .pv .any, .clo (.func 67) [.pv (.rd [.i (n : Nat)])], .pv .any, .pv .any, .pv .any, .pv .any, .pv .any, .pv .any, .pv .any, .pv .any, .pv .any, .pv .any, .pv .any, .pv .any, .pv .any, .pv .any, .pv .any]), (2, .box [.own 900]), (3, .box [.clo (.func 68) [.pv (.rd [.i (n : Nat)]), .ref 2 0, .ref 3 0]]), (8, .box [.pv (A (k0 + (ordR n f o).length))]), (9, .box [.int (B (k0 + (ordR n f o).length))])] (.pv (.bool true)) none := by
  have hf0 : f = f := rfl
  induction f using Nat.strongRecOn generalizing o k0
  rename_i f ih
  refine FCH.intro Try.func68 rfl (Nat.le_of_ble_eq_true rfl) (Nat.le_of_ble_eq_true rfl) fun hfit ι0 => ?_
  change awp _ _ _ _ ⟨[(0, .pv (.ints o)), (1, .pv (.rd [.i (n : Nat)])), (2, .ref 2 0), (3, .ref 3 0), (1000900, .pin 900 (ι0 900)), (1000002, .pin 2 (ι0 2)), (1000003, .pin 3 (ι0 3)), (1000008, .pin 8 (ι0 8)), (1000009, .pin 9 (ι0 9))], [(900, .yld ps asg bd [.pv .any, .pv .any, .pv .any, .pv .any, .pv .any, .pv .any, .pv (.rd [.rows (prM n L)]), .pv .any, .ref 8 0, .ref 9 0, .pv .any, .pv .any, .pv .any, .pv .any, .pv .any, .pv .any, .pv .any, .pv .any, .pv .any, .pv .any, .pv .any, .pv .any, .clo (.func 67) [.pv (.rd [.i (n : Nat)])], .pv .any, .pv .any, .pv .any, .pv .any, .pv .any, .pv .any, .pv .any, .pv .any, .pv .any, .pv .any, .pv .any, .pv .any, .pv .any, .pv .any, .pv .any]), (2, .box [.own 900]), (3, .box [.clo (.func 68) [.pv (.rd [.i (n : Nat)]), .ref 2 0, .ref 3 0]]), (8, .box [.pv (A (k0))]), (9, .box [.int (B (k0))])]⟩
  have fit1 := hfit _ (.tail _ (.head _))
  have hol := ho.len
  refine awp_seq ?_
  refine awp_region rfl (.n (fun _ => op_assign (.plain rfl)) (.nil _)) ?_
  refine awp_seq ?_
  refine awp_seq ?_
  refine awp_region rfl (.n (fun _ => op_move (.plain rfl)) (.n (fun _ => op_len (s := 0) Try.underlying23 (.plain rfl)) (.n (fun _ => op_load Try.isAgg3 (.plain rfl)) (.n (fun _ => op_eql (.plain rfl) (.plain rfl)) (.nil _))))) ?_
  refine awp_cond rfl (fun h => ?_) (fun h => ?_)
  · skip
    have h := of_decide_eq_true h
    obtain rfl : f = 0 := by omega
    have hs1 := hs.at' (j := 0) (by simp [ordR])
    have he : (ordL n).getD k0 [] = o := hs1.1
    have hk0 : k0 < (ordL n).length := hs1.2
    have hyo : YH Try.prog 900 (.yld ps asg bd [.pv .any, .pv .any, .pv .any, .pv .any, .pv .any, .pv .any, .pv (.rd [.rows (prM n L)]), .pv .any, .ref 8 0, .ref 9 0, .pv .any, .pv .any, .pv .any, .pv .any, .pv .any, .pv .any, .pv .any, .pv .any, .pv .any, .pv .any, .pv .any, .pv .any, .clo (.func 67) [.pv (.rd [.i (n : Nat)])], .pv .any, .pv .any, .pv .any, .pv .any, .pv .any, .pv .any, .pv .any, .pv .any, .pv .any, .pv .any, .pv .any, .pv .any, .pv .any, .pv .any, .pv .any]) [.pv (.ints o)] [(8, .box [.pv (A (k0))]), (9, .box [.int (B (k0))])] [(8, .box [.pv (A (k0 + 1))]), (9, .box [.int (B (k0 + 1))])] := by
      have h9 := hy k0 hk0
      rw [he] at h9
      exact h9
    refine awp_seq ?_
    refine awp_region rfl (.r (op_loadR Try.isAgg73 (.plain rfl) rfl rfl) (.n (fun _ => op_move (.plain rfl)) (.ey (op_yield (y := 900) (ags := [_]) (fun k => k) (hyo) (.plain rfl) ⟨(.plain rfl), trivial⟩ ⟨rfl, rfl, rfl, trivial⟩ (by kernel_rfl)) rfl (.n (fun _ => op_assign (.plain rfl)) (.nil _))))) ?_
    refine awp_ret ?_
    refine retH.ret ?_
    refine retH1 rfl rfl ⟨rfl, rfl, rfl, rfl, rfl, trivial⟩ ⟨.inr rfl, .inr rfl, .inr rfl, .inr rfl, .inr rfl, trivial⟩ ?_
    rfl
  · skip
    have h := of_decide_eq_false h
    obtain ⟨f, rfl⟩ : ∃ g, f = g + 1 := ⟨f - 1, by omega⟩
    refine awp_skip ?_
    refine awp_seq ?_
    refine awp_seq ?_
    refine awp_region rfl (.n (fun _ => op_load Try.isAgg3 (.plain rfl)) (.n (fun _ => op_move (.plain rfl)) (.nil _))) ?_
    refine awp_block ?_
    refine awp_loop (σ := Nat) (fun (i : Nat) => i ≤ n) (fun (i : Nat) => ⟨[(0, .pv (.ints o)), (1, .pv (.rd [.i (n : Nat)])), (2, .ref 2 0), (3, .ref 3 0), (14, .int (n : Nat)), (15, .int (i : Nat)), (1000900, .pin 900 (ι0 900)), (1000002, .pin 2 (ι0 2)), (1000003, .pin 3 (ι0 3)), (1000008, .pin 8 (ι0 8)), (1000009, .pin 9 (ι0 9))], [(900, .yld ps asg bd [.pv .any, .pv .any, .pv .any, .pv .any, .pv .any, .pv .any, .pv (.rd [.rows (prM n L)]), .pv .any, .ref 8 0, .ref 9 0, .pv .any, .pv .any, .pv .any, .pv .any, .pv .any, .pv .any, .pv .any, .pv .any, .pv .any, .pv .any, .pv .any, .pv .any, .clo (.func 67) [.pv (.rd [.i (n : Nat)])], .pv .any, .pv .any, .pv .any, .pv .any, .pv .any, .pv .any, .pv .any, .pv .any, .pv .any, .pv .any, .pv .any, .pv .any, .pv .any, .pv .any, .pv .any]), (2, .box [.own 900]), (3, .box [.clo (.func 68) [.pv (.rd [.i (n : Nat)]), .ref 2 0, .ref 3 0]]), (8, .box [.pv (A (k0 + (ordTo (ordR n f) o i).length))]), (9, .box [.int (B (k0 + (ordTo (ordR n f) o i).length))])]⟩) (fun (i : Nat) => n - i) 0 ?_ (Ent.kept ⟨rfl, rfl, rfl, rfl, rfl, rfl, rfl, rfl, rfl, rfl, rfl, trivial⟩ ⟨rfl, rfl, rfl, rfl, rfl, trivial⟩) ?_
    · exact Nat.zero_le _
    rintro i hp
    try dsimp only at hp
    have hi := hp
    refine awp_seq ?_
    refine awp_region rfl (.n (fun _ => op_lss (.plain rfl) (.plain rfl)) (.nil _)) ?_
    refine awp_seq ?_
    refine awp_cond rfl (fun h => ?_) (fun h => ?_)
    · skip
      have h := of_decide_eq_true h
      refine awp_skip ?_
      refine awp_seq ?_
      refine awp_block ?_
      refine awp_seq ?_
      refine awp_region rfl (.n (fun _ => op_move (.plain rfl)) (.n (fun _ => op_assign (.plain rfl)) (.nil _))) ?_
      refine awp_seq ?_
      refine (Classical.em (((i : Nat) : Int) ∈ o)).elim (fun hin => ?_) (fun hin => ?_)
      · have hc : decide (0 ≤ placeF o (i : Nat)) = true := decide_eq_true (place_mem.2 hin)
        have he : k0 + (ordTo (ordR n f) o i).length = k0 + (ordTo (ordR n f) o (i + 1)).length := by rw [ordTo_no hin]
        refine awp_region_draw mixed rfl (.n (fun _ => op_move (.plain rfl)) (.n (fun _ => op_move (.plain rfl)) (.n (fun _ => op_call2 Try.call52 (.plain rfl) (.plain rfl) (hc ▸ Contains_fc _ _)) (.n (fun _ => op_not (.plain rfl)) (.n (fun _ => op_move (.plain rfl)) (.no rfl rfl rfl (.no rfl rfl rfl (.no rfl rfl rfl (.no rfl rfl rfl (.no rfl rfl rfl (.no rfl rfl rfl (.no rfl rfl rfl (.no rfl rfl rfl (.n (fun _ => op_and (.plain rfl) (.plain rfl) (.plain rfl) (fun h => absurd h (by decide))) (.nil _))))))))))))))) ?d1 ?_
        · kernel_rfl
        refine awp_cond rfl (fun h => ?_) (fun h => ?_)
        · skip
          exfalso
          simp at h
        · skip
          refine awp_skip ?_
          refine awp_region rfl (.n (fun _ => op_add (.plain rfl) (.plain rfl) ?_) (.n (fun _ => op_move (.plain rfl)) (.nil _))) ?_
          · unfold InR; omega
          exact ⟨i + 1, by omega, by dsimp only; omega, (Ent.kept ⟨rfl, rfl, rfl, rfl, rfl, rfl, rfl, rfl, rfl, rfl, rfl, trivial⟩ ⟨rfl, rfl, rfl, (congrArg (fun q => some (Blk.box [SV.pv (A q)])) (he)), (congrArg (fun q => some (Blk.box [SV.int (B q)])) (he)), trivial⟩)⟩
      · have hc : decide (0 ≤ placeF o (i : Nat)) = false := decide_eq_false fun c => hin (place_mem.1 c)
        have hsn := hs.step (show i < n by omega) hin
        have hon := ho.add (show i < n by omega) hin
        have he : k0 + (ordTo (ordR n f) o i).length + (ordR n f (o ++ [(i : Int)])).length = k0 + (ordTo (ordR n f) o (i + 1)).length := by rw [← ordTo_yes hin]; omega
        refine awp_region_drawG mixed rfl (.n (fun _ => op_move (.plain rfl)) (.n (fun _ => op_move (.plain rfl)) (.n (fun _ => op_call2 Try.call52 (.plain rfl) (.plain rfl) (hc ▸ Contains_fc _ _)) (.n (fun _ => op_not (.plain rfl)) (.n (fun _ => op_move (.plain rfl)) (.klook rfl rfl 3 rfl (fun _ hl => op_loadR Try.isAgg73 (.plain rfl)  hl rfl) (.kn rfl rfl (fun _ => op_move (.plain rfl)) (.ke rfl rfl (op_callO (vals := [_]) 25 Try.call55 ⟨⟨_, (.plain rfl), rfl⟩, trivial⟩ (clone_fc _ ?_) (by simp [PV.flat]) rfl) rfl (.kn rfl rfl (fun _ => op_move (.plain rfl)) (.kn rfl rfl (fun _ => op_slit (pp := [(0, _)]) (α := Int) (d := 0) (f := (fun n => [.int .i64 n])) [_] ety23 rfl ⟨rfl, (.plain rfl), (by simp), trivial⟩ rfl (by decide) rfl) (.ke rfl rfl ((op_append (id' := 28) (α := Int) (d := 0) (f := (fun n => [.int .i64 n])) ety23 Try.underlying23 (fun _ => rfl) (fun _ => rfl) (.plain rfl) rfl (.plain rfl) rfl ?_).given rfl) rfl (.ke rfl rfl (op_callVH (ags := [_]) (fun k => [0, 0, 2, 3, 0, 0, 0, 0, 8, 9, 0, 0, 0, 0, 0, 0, 0, 0, 0, 0, 0, 0, 0, 0, 0, 0, 0, 0, 0, 0, 0, 0, 0, 0, 0, 0, 0, 0, 0, 0, 0, 0, 0, 0, 0, 0, 0, 0, 0, 0, 0, 0, 0, 0, 0, 0, 0, 0, 0, 0, 0, 0, 0, 0, 0, 0, 0, 0, 0, 0, 0, 0, 0, 0, 0, 0, 0, 0, 0, 0, 0, 0, 0, 0, 0, 0, 0, 0, 0, 0, 0, 0, 0, 0, 0, 0, 0, 0, 0, 0, 0, 0, 0, 0, 0, 0, 0, 0, 0, 0, 0, 0, 0, 0, 0, 0, 0, 0, 0, 0, 0, 0, 0, 0, 0, 0, 0, 0, 0, 0, 0, 0, 0, 0, 0, 0, 0, 0, 0, 0, 0, 0, 0, 0, 0, 0, 0, 0, 0, 0, 0, 0, 0, 0, 0, 0, 0, 0, 0, 0, 0, 0, 0, 0, 0, 0, 0, 0, 0, 0, 0, 0, 0, 0, 0, 0, 0, 0, 0, 0, 0, 0, 0, 0, 0, 0, 0, 0, 0, 0, 0, 0, 0, 0, 0, 0, 0, 0, 0, 0, 0, 0, 0, 0, 0, 0, 0, 0, 0, 0, 0, 0, 0, 0, 0, 0, 0, 0, 0, 0, 0, 0, 0, 0, 0, 0, 0, 0, 0, 0, 0, 0, 0, 0, 0, 0, 0, 0, 0, 0, 0, 0, 0, 0, 0, 0, 0, 0, 0, 0, 0, 0, 0, 0, 0, 0, 0, 0, 0, 0, 0, 0, 0, 0, 0, 0, 0, 0, 0, 0, 0, 0, 0, 0, 0, 0, 0, 0, 0, 0, 0, 0, 0, 0, 0, 0, 0, 0, 0, 0, 0, 0, 0, 0, 0, 0, 0, 0, 0, 0, 0, 0, 0, 0, 0, 0, 0, 0, 0, 0, 0, 0, 0, 0, 0, 0, 0, 0, 0, 0, 0, 0, 0, 0, 0, 0, 0, 0, 0, 0, 0, 0, 0, 0, 0, 0, 0, 0, 0, 0, 0, 0, 0, 0, 0, 0, 0, 0, 0, 0, 0, 0, 0, 0, 0, 0, 0, 0, 0, 0, 0, 0, 0, 0, 0, 0, 0, 0, 0, 0, 0, 0, 0, 0, 0, 0, 0, 0, 0, 0, 0, 0, 0, 0, 0, 0, 0, 0, 0, 0, 0, 0, 0, 0, 0, 0, 0, 0, 0, 0, 0, 0, 0, 0, 0, 0, 0, 0, 0, 0, 0, 0, 0, 0, 0, 0, 0, 0, 0, 0, 0, 0, 0, 0, 0, 0, 0, 0, 0, 0, 0, 0, 0, 0, 0, 0, 0, 0, 0, 0, 0, 0, 0, 0, 0, 0, 0, 0, 0, 0, 0, 0, 0, 0, 0, 0, 0, 0, 0, 0, 0, 0, 0, 0, 0, 0, 0, 0, 0, 0, 0, 0, 0, 0, 0, 0, 0, 0, 0, 0, 0, 0, 0, 0, 0, 0, 0, 0, 0, 0, 0, 0, 0, 0, 0, 0, 0, 0, 0, 0, 0, 0, 0, 0, 0, 0, 0, 0, 0, 0, 0, 0, 0, 0, 0, 0, 0, 0, 0, 0, 0, 0, 0, 0, 0, 0, 0, 0, 0, 0, 0, 0, 0, 0, 0, 0, 0, 0, 0, 0, 0, 0, 0, 0, 0, 0, 0, 0, 0, 0, 0, 0, 0, 0, 0, 0, 0, 0, 0, 0, 0, 0, 0, 0, 0, 0, 0, 0, 0, 0, 0, 0, 0, 0, 0, 0, 0, 0, 0, 0, 0, 0, 0, 0, 0, 0, 0, 0, 0, 0, 0, 0, 0, 0, 0, 0, 0, 0, 0, 0, 0, 0, 0, 0, 0, 0, 0, 0, 0, 0, 0, 0, 0, 0, 0, 0, 0, 0, 0, 0, 0, 0, 0, 0, 0, 0, 0, 0, 0, 0, 0, 0, 0, 0, 0, 0, 0, 0, 0, 0, 0, 0, 0, 0, 0, 0, 0, 0, 0, 0, 0, 0, 0, 0, 0, 0, 0, 0, 0, 0, 0, 0, 0, 0, 0, 0, 0, 0, 0, 0, 0, 0, 0, 0, 0, 0, 0, 0, 0, 0, 0, 0, 0, 0, 0, 0, 0, 0, 0, 0, 0, 0, 0, 0, 0, 0, 0, 0, 0, 0, 0, 0, 0, 0, 0, 0, 0, 0, 0, 0, 0, 0, 0, 0, 0, 0, 0, 0, 0, 0, 0, 0, 0, 0, 0, 0, 0, 0, 0, 0, 0, 0, 0, 0, 0, 0, 0, 0, 0, 0, 0, 0, 0, 0, 0, 0, 0, 0, 0, 0, 0, 0, 0, 0, 0, 0, 0, 0, 0, 0, 0, 0, 0, 0, 0, 0, 0, 0, 0, 0, 0, 0, 0, 0, 0, 0, 0, 0, 0, 0, 0, 0, 0, 0, 0, 0, 0, 0, 0, 0, 0, 0, 0, 0, 0, 0, 0, 0, 0, 0, 0, 0, 0, 0, 0, 0, 0, 0, 0, 0, 0, 0, 0, 0, 0, 0, 0, 0, 0, 0, 0, 0, 0, 0, 0, 0, 0, 0, 0, 0, 0, 0, 0, 0, 0, 0, 0, 0, 0, 0, 0, 0, 0, 0, 0, 0, 0, 0, 0, 0, 0, 0, 0, 0, 0, 0, 0, 0, 0, 0, 0, 0, 0, 0, 0, 0, 0, 0, 0, 0, 0, 0, 0, 0, 0, 0, 0, 0, 0, 0, 0, 0, 0, 0, 0, 0, 0, 0, 0, 0, 0, 0, 0, 0, 0, 0, 0, 0, 0, 0, 900].getD k 0) Try.call68 (ih f (by omega) (o ++ [(i : Int)]) (k0 + (ordTo (ordR n f) o i).length) ?_ ?_ rfl) (.plain rfl) ⟨(.plain rfl), trivial⟩ ⟨rfl, rfl, rfl, rfl, rfl, trivial⟩ (by kernel_rfl)) rfl (.kn rfl rfl (fun _ => op_not (.plain rfl)) (.n (fun _ => op_and0 (.plain rfl) (.plain rfl) (.plain rfl)) (.nil _))))))))))))))) ?d2 ?dg2 ?_
        · try simp only [beq_iff_eq, beq_true, beq_false, Bool.and_eq_true, decide_eq_true_eq, decide_eq_false_iff_not, Bool.not_eq_true', Bool.or_eq_true, Bool.or_eq_false_iff] at hg
          first | omega | (simp; omega)
        · try simp only [beq_iff_eq, beq_true, beq_false, Bool.and_eq_true, decide_eq_true_eq, decide_eq_false_iff_not, Bool.not_eq_true', Bool.or_eq_true, Bool.or_eq_false_iff] at hg
          first | omega | (simp; omega)
        · try simp only [beq_iff_eq, beq_true, beq_false, Bool.and_eq_true, decide_eq_true_eq, decide_eq_false_iff_not, Bool.not_eq_true', Bool.or_eq_true, Bool.or_eq_false_iff] at hg
          exact hon
        · try simp only [beq_iff_eq, beq_true, beq_false, Bool.and_eq_true, decide_eq_true_eq, decide_eq_false_iff_not, Bool.not_eq_true', Bool.or_eq_true, Bool.or_eq_false_iff] at hg
          exact hsn
        · kernel_rfl
        · exact gOk_one 5 3 _ [7, 10] rfl (by kernel_rfl) rfl (by kernel_rfl) (fun k hk => by simp only [List.mem_cons, List.not_mem_nil, or_false] at hk; first | (subst hk; rfl) | (rcases hk with hk | hk <;> subst hk <;> rfl))
        refine awp_cond rfl (fun h => ?_) (fun h => ?_)
        · skip
          exfalso
          simp at h
        · skip
          refine awp_skip ?_
          refine awp_region rfl (.n (fun _ => op_add (.plain rfl) (.plain rfl) ?_) (.n (fun _ => op_move (.plain rfl)) (.nil _))) ?_
          · unfold InR; omega
          exact ⟨i + 1, by omega, by dsimp only; omega, (Ent.kept ⟨rfl, rfl, rfl, rfl, rfl, rfl, rfl, rfl, rfl, rfl, rfl, trivial⟩ ⟨rfl, rfl, rfl, (congrArg (fun q => some (Blk.box [SV.pv (A q)])) (he)), (congrArg (fun q => some (Blk.box [SV.int (B q)])) (he)), trivial⟩)⟩
    · skip
      have h := of_decide_eq_false h
      refine awp_exit ?_
      refine awp_seq ?_
      refine awp_region rfl (.n (fun _ => op_assign (.plain rfl)) (.nil _)) ?_
      refine awp_ret ?_
      refine retH.ret ?_
      refine retH1 rfl rfl ⟨rfl, rfl, rfl, (congrArg (fun q => some (Blk.box [SV.pv (A q)])) (by rw [show i = n by omega]; rfl)), (congrArg (fun q => some (Blk.box [SV.int (B q)])) (by rw [show i = n by omega]; rfl)), trivial⟩ ⟨.inr rfl, .inr rfl, .inr rfl, .inr rfl, .inr rfl, trivial⟩ ?_
      rfl

set_option maxRecDepth 1000000 in
set_option maxHeartbeats 4000000 in
theorem orders1_fch (n : Nat) (L : List (Int × List Int × Unit)) (ps : Array Tmp) (asg bd : Code) (A : Nat → PV) (B : Nat → Int) (hy : ∀ k, k < (ordL n).length → YH Try.prog 900 (.yld ps asg bd [.pv .any, .pv .any, .pv .any, .pv .any, .pv .any, .pv .any, .pv (.rd [.rows (prM n L)]), .pv .any, .ref 8 0, .ref 9 0, .pv .any, .pv .any, .pv .any, .pv .any, .pv .any, .pv .any, .pv .any, .pv .any, .pv .any, .pv .any, .pv .any, .pv .any, .clo (.func 67) [.pv (.rd [.i (n : Nat)])], .pv .any, .pv .any, .pv .any, .pv .any, .pv .any, .pv .any, .pv .any, .pv .any, .pv .any, .pv .any, .pv .any, .pv .any, .pv .any, .pv .any, .pv .any]) [.pv (.ints ((ordL n).getD k []))] [(8, .box [.pv (A (k))]), (9, .box [.int (B (k))])] [(8, .box [.pv (A (k + 1))]), (9, .box [.int (B (k + 1))])]) (hn : n ≤ 6) : FCH Try.prog 67 [.own 900, .pv (.rd [.i (n : Nat)])] [(900, .yld ps asg bd [.pv .any, .pv .any, .pv .any, .pv .any, .pv .any, .pv .any, .pv (.rd [.rows (prM n L)]), .pv .any, .ref 8 0, .ref 9 0, .pv .any, .pv .any, .pv .any, .pv .any, .pv .any, .pv .any, .pv .any, .pv .any, .pv .any, .pv .any, .pv .any, .pv .any, .clo (.func 67) [.pv (.rd [.i (n : Nat)])], .pv .any, .pv .any, .pv .any, .pv .any, .pv .any, .pv .any, .pv .any, .pv .any, .pv .any, .pv .any, .pv .any, .pv .any, .pv .any, .pv .any, .pv .any]), (8, .box [.pv (A (0))]), (9, .box [.int (B (0))])] [(900, .yld ps asg bd [.pv .any, .pv .any, .pv .any, .pv .any, .pv .any, .pv .any, .pv (.rd [.rows (prM n L)]), .pv .any, .ref 8 0, .ref 9 0, .pv .any, .pv .any, .pv .any, .pv .any, .pv .any, .pv .any, .pv .any, .pv .any, .pv .any, .pv .any, .pv .any, .pv .any, .clo (.func 67) [.pv (.rd [.i (n : Nat)])], .pv .any, .pv .any, .pv .any, .pv .any, .pv .any, .pv .any, .pv .any, .pv .any, .pv .any, .pv .any, .pv .any, .pv .any, .pv .any, .pv .any, .pv .any]), (8, .box [.pv (A ((ordL n).length))]), (9, .box [.int (B ((ordL n).length))])] (.pv (.tup [])) none := by
  refine FCH.intro Try.func67 rfl (Nat.le_of_ble_eq_true rfl) (Nat.le_of_ble_eq_true rfl) fun hfit ι0 => ?_
  change awp _ _ _ _ ⟨[(0, .own 900), (1, .pv (.rd [.i (n : Nat)])), (1000900, .pin 900 (ι0 900)), (1000008, .pin 8 (ι0 8)), (1000009, .pin 9 (ι0 9))], [(900, .yld ps asg bd [.pv .any, .pv .any, .pv .any, .pv .any, .pv .any, .pv .any, .pv (.rd [.rows (prM n L)]), .pv .any, .ref 8 0, .ref 9 0, .pv .any, .pv .any, .pv .any, .pv .any, .pv .any, .pv .any, .pv .any, .pv .any, .pv .any, .pv .any, .pv .any, .pv .any, .clo (.func 67) [.pv (.rd [.i (n : Nat)])], .pv .any, .pv .any, .pv .any, .pv .any, .pv .any, .pv .any, .pv .any, .pv .any, .pv .any, .pv .any, .pv .any, .pv .any, .pv .any, .pv .any, .pv .any]), (8, .box [.pv (A (0))]), (9, .box [.int (B (0))])]⟩
  have fit1 := hfit _ (.tail _ (.head _))
  refine awp_seq ?_
  refine awp_region rfl (.e (op_boxY 2 (.plain rfl) rfl rfl rfl) rfl (.nil _)) ?_
  refine awp_seq ?_
  refine awp_region rfl (.e (op_alloc 3 Try.zeroValue73 rfl rfl rfl) rfl (.nil _)) ?_
  refine awp_seq ?_
  refine awp_region rfl (.n (fun _ => op_makeFuncS (cs := [_, _, _]) ⟨(.plain rfl), (.plain rfl), (.plain rfl), trivial⟩) (.e (op_storeR Try.sizeOf73 (.plain rfl) (.plain rfl) rfl (by first | decide | exact Nat.le_of_ble_eq_true rfl) rfl (by simp) (by simp)) rfl (.nil _))) ?_
  refine awp_region rfl (.r (op_loadR Try.isAgg73 (.plain rfl) rfl rfl) (.e (op_callVH (ags := [_]) (fun k => [0, 0, 2, 3, 0, 0, 0, 0, 8, 9, 0, 0, 0, 0, 0, 0, 0, 0, 0, 0, 0, 0, 0, 0, 0, 0, 0, 0, 0, 0, 0, 0, 0, 0, 0, 0, 0, 0, 0, 0, 0, 0, 0, 0, 0, 0, 0, 0, 0, 0, 0, 0, 0, 0, 0, 0, 0, 0, 0, 0, 0, 0, 0, 0, 0, 0, 0, 0, 0, 0, 0, 0, 0, 0, 0, 0, 0, 0, 0, 0, 0, 0, 0, 0, 0, 0, 0, 0, 0, 0, 0, 0, 0, 0, 0, 0, 0, 0, 0, 0, 0, 0, 0, 0, 0, 0, 0, 0, 0, 0, 0, 0, 0, 0, 0, 0, 0, 0, 0, 0, 0, 0, 0, 0, 0, 0, 0, 0, 0, 0, 0, 0, 0, 0, 0, 0, 0, 0, 0, 0, 0, 0, 0, 0, 0, 0, 0, 0, 0, 0, 0, 0, 0, 0, 0, 0, 0, 0, 0, 0, 0, 0, 0, 0, 0, 0, 0, 0, 0, 0, 0, 0, 0, 0, 0, 0, 0, 0, 0, 0, 0, 0, 0, 0, 0, 0, 0, 0, 0, 0, 0, 0, 0, 0, 0, 0, 0, 0, 0, 0, 0, 0, 0, 0, 0, 0, 0, 0, 0, 0, 0, 0, 0, 0, 0, 0, 0, 0, 0, 0, 0, 0, 0, 0, 0, 0, 0, 0, 0, 0, 0, 0, 0, 0, 0, 0, 0, 0, 0, 0, 0, 0, 0, 0, 0, 0, 0, 0, 0, 0, 0, 0, 0, 0, 0, 0, 0, 0, 0, 0, 0, 0, 0, 0, 0, 0, 0, 0, 0, 0, 0, 0, 0, 0, 0, 0, 0, 0, 0, 0, 0, 0, 0, 0, 0, 0, 0, 0, 0, 0, 0, 0, 0, 0, 0, 0, 0, 0, 0, 0, 0, 0, 0, 0, 0, 0, 0, 0, 0, 0, 0, 0, 0, 0, 0, 0, 0, 0, 0, 0, 0, 0, 0, 0, 0, 0, 0, 0, 0, 0, 0, 0, 0, 0, 0, 0, 0, 0, 0, 0, 0, 0, 0, 0, 0, 0, 0, 0, 0, 0, 0, 0, 0, 0, 0, 0, 0, 0, 0, 0, 0, 0, 0, 0, 0, 0, 0, 0, 0, 0, 0, 0, 0, 0, 0, 0, 0, 0, 0, 0, 0, 0, 0, 0, 0, 0, 0, 0, 0, 0, 0, 0, 0, 0, 0, 0, 0, 0, 0, 0, 0, 0, 0, 0, 0, 0, 0, 0, 0, 0, 0, 0, 0, 0, 0, 0, 0, 0, 0, 0, 0, 0, 0, 0, 0, 0, 0, 0, 0, 0, 0, 0, 0, 0, 0, 0, 0, 0, 0, 0, 0, 0, 0, 0, 0, 0, 0, 0, 0, 0, 0, 0, 0, 0, 0, 0, 0, 0, 0, 0, 0, 0, 0, 0, 0, 0, 0, 0, 0, 0, 0, 0, 0, 0, 0, 0, 0, 0, 0, 0, 0, 0, 0, 0, 0, 0, 0, 0, 0, 0, 0, 0, 0, 0, 0, 0, 0, 0, 0, 0, 0, 0, 0, 0, 0, 0, 0, 0, 0, 0, 0, 0, 0, 0, 0, 0, 0, 0, 0, 0, 0, 0, 0, 0, 0, 0, 0, 0, 0, 0, 0, 0, 0, 0, 0, 0, 0, 0, 0, 0, 0, 0, 0, 0, 0, 0, 0, 0, 0, 0, 0, 0, 0, 0, 0, 0, 0, 0, 0, 0, 0, 0, 0, 0, 0, 0, 0, 0, 0, 0, 0, 0, 0, 0, 0, 0, 0, 0, 0, 0, 0, 0, 0, 0, 0, 0, 0, 0, 0, 0, 0, 0, 0, 0, 0, 0, 0, 0, 0, 0, 0, 0, 0, 0, 0, 0, 0, 0, 0, 0, 0, 0, 0, 0, 0, 0, 0, 0, 0, 0, 0, 0, 0, 0, 0, 0, 0, 0, 0, 0, 0, 0, 0, 0, 0, 0, 0, 0, 0, 0, 0, 0, 0, 0, 0, 0, 0, 0, 0, 0, 0, 0, 0, 0, 0, 0, 0, 0, 0, 0, 0, 0, 0, 0, 0, 0, 0, 0, 0, 0, 0, 0, 0, 0, 0, 0, 0, 0, 0, 0, 0, 0, 0, 0, 0, 0, 0, 0, 0, 0, 0, 0, 0, 0, 0, 0, 0, 0, 0, 0, 0, 0, 0, 0, 0, 0, 0, 0, 0, 0, 0, 0, 0, 0, 0, 0, 0, 0, 0, 0, 0, 0, 0, 0, 0, 0, 0, 0, 0, 0, 0, 0, 0, 0, 0, 0, 0, 0, 0, 0, 0, 0, 0, 0, 0, 0, 0, 0, 0, 0, 0, 0, 0, 0, 0, 0, 0, 0, 0, 0, 0, 0, 0, 0, 0, 0, 0, 0, 0, 0, 0, 0, 0, 0, 0, 0, 0, 0, 0, 0, 0, 0, 0, 0, 0, 0, 0, 0, 0, 0, 0, 0, 0, 0, 0, 0, 0, 0, 0, 0, 0, 0, 0, 0, 0, 0, 0, 0, 0, 0, 0, 0, 0, 0, 0, 0, 0, 0, 0, 0, 0, 0, 0, 0, 0, 0, 0, 0, 0, 0, 0, 0, 0, 0, 0, 0, 0, 0, 0, 0, 0, 0, 0, 0, 0, 0, 0, 0, 0, 0, 0, 0, 0, 0, 0, 0, 0, 0, 0, 0, 0, 0, 0, 0, 0, 0, 0, 0, 0, 0, 0, 0, 0, 0, 0, 0, 0, 0, 0, 0, 0, 0, 0, 0, 0, 0, 0, 0, 0, 0, 0, 0, 0, 0, 0, 0, 0, 0, 0, 0, 900].getD k 0) Try.call68 (orders11_fch n L ps asg bd A B hy n [] 0 ?_ ?_ ?_) (.plain rfl) ⟨(.nilS rfl), trivial⟩ ⟨rfl, rfl, rfl, rfl, rfl, trivial⟩ (by kernel_rfl)) rfl (.nil _))) ?_
  · exact GoneOk.nil n
  · exact ⟨[], [], by simp [ordL], rfl⟩
  · exact hn
  refine retH0 rfl ⟨rfl, (congrArg (fun q => some (Blk.box [SV.pv (A q)])) (by rw [Nat.zero_add]; rfl)), (congrArg (fun q => some (Blk.box [SV.int (B q)])) (by rw [Nat.zero_add]; rfl)), trivial⟩ ⟨.inr rfl, .inr rfl, .inr rfl, trivial⟩ ?_
  rfl

set_option maxRecDepth 1000000 in
set_option maxHeartbeats 4000000 in
theorem Kemeny_fc (n : Nat) (L : List (Int × List Int × Unit)) (hv : voteE n L = 0) : FC Try.prog 18 [.i (n : Nat), .seq (Int × List Int × Unit) (0, [], ()) (fun b => [.i b.1, .ints b.2.1]) L] (.tup [.ints (kemF n L), .i 0]) := by
  refine FC.intro Try.func18 rfl (Nat.le_of_ble_eq_true rfl) fun hfit => ?_
  have fit0 : -9223372036854775808 ≤ ((n : Nat) : Int) ∧ ((n : Nat) : Int) ≤ 9223372036854775807 := (hfit _ (.head _)).int64
  have fit1 := hfit _ (.tail _ (.head _))
  have hV := vok hv
  have hL30 := hV.len
  have hn := hV.n6
  have hn1 := hV.n1
  refine awp_seq ?_
  refine awp_region rfl (.n (fun _ => op_assign (.plain rfl)) (.n (fun _ => op_assign (.plain rfl)) (.nil _))) ?_
  refine awp_seq ?_
  refine awp_region rfl (.n (fun _ => op_move (.plain rfl)) (.n (fun _ => op_move (.plain rfl)) (.n (fun _ => op_call2 Try.call19 (.plain rfl) (.plain rfl) (Pairs_fc n L hv)) (.n (fun _ => op_move (.plain rfl)) (.n (fun _ => op_extract (.plain rfl) rfl) (.n (fun _ => op_extract (.plain rfl) rfl) (.e (op_alloc 6 Try.zeroValue31 rfl rfl rfl) rfl (.e (op_storeR Try.sizeOf31 (.plain rfl) (.plain rfl) rfl (by first | decide | exact Nat.le_of_ble_eq_true rfl) rfl (by simp) (by simp)) rfl (.n (fun _ => op_assign (.plain rfl)) (.nil _)))))))))) ?_
  refine awp_seq ?_
  refine awp_seq ?_
  refine awp_region rfl (.n (fun _ => op_move (.plain rfl)) (.n (fun _ => op_neq (.plain rfl) (.plain rfl)) (.nil _))) ?_
  refine awp_cond rfl (fun h => ?_) (fun h => ?_)
  · (try simp only [decide_eq_true_eq, decide_eq_false_iff_not, Bool.and_eq_true, Bool.or_eq_true, Bool.and_eq_false_iff, Bool.or_eq_false_iff, Bool.not_eq_true', Bool.not_eq_false', Bool.not_eq_true, Bool.not_eq_false, Bool.true_eq_false, Bool.false_eq_true] at h); (try simp only [fold_c, fold_o, Int.toNat_natCast] at h)
    exfalso
    simp at h
  · (try simp only [decide_eq_true_eq, decide_eq_false_iff_not, Bool.and_eq_true, Bool.or_eq_true, Bool.and_eq_false_iff, Bool.or_eq_false_iff, Bool.not_eq_true', Bool.not_eq_false', Bool.not_eq_true, Bool.not_eq_false, Bool.true_eq_false, Bool.false_eq_true] at h); (try simp only [fold_c, fold_o, Int.toNat_natCast] at h)
    refine awp_skip ?_
    refine awp_seq ?_
    refine awp_ent (Ent.giveBox 6 rfl rfl rfl) ?_
    refine awp_region rfl (.e (op_alloc 8 Try.zeroValue23 rfl rfl rfl) rfl (.nil _)) ?_
    refine awp_seq ?_
    refine awp_region rfl (.e (op_alloc 9 Try.zeroValue3 rfl rfl rfl) rfl (.e (op_storeR Try.sizeOf3 (.plain rfl) (.plain rfl) rfl (by first | decide | exact Nat.le_of_ble_eq_true rfl) rfl (by simp) (by simp)) rfl (.nil _))) ?_
    refine awp_seq ?_
    refine awp_seq ?_
    refine awp_region rfl (.n (fun _ => op_move (.plain rfl)) (.n (fun _ => op_call1 Try.call53 (.plain rfl) (orders_fc _)) (.nil _))) ?_
    refine awp_block ?_
    refine awp_ent (Ent.clo 22 rfl) ?_
    refine awp_ent (show Ent _ ⟨[(6, .pv (.rd [.rows (prM n L)])), (8, .ref 8 0), (9, .ref 9 0), (22, .clo (.func 67) [.pv (.rd [.i (n : Nat)])])], [(8, .box [.pv (bPk (agF L) (ordL n) (0))]), (9, .box [.int (mPk (agF L) (ordL n) (0))])]⟩ from Ent.kept ⟨rfl, rfl, rfl, rfl, trivial⟩ ⟨rfl, rfl, trivial⟩) ?_
    refine awp_rangeFunc (y := 900) (cs := [.pv .any, .pv .any, .pv .any, .pv .any, .pv .any, .pv .any, .pv (.rd [.rows (prM n L)]), .pv .any, .ref 8 0, .ref 9 0, .pv .any, .pv .any, .pv .any, .pv .any, .pv .any, .pv .any, .pv .any, .pv .any, .pv .any, .pv .any, .pv .any, .pv .any, .clo (.func 67) [.pv (.rd [.i (n : Nat)])], .pv .any, .pv .any, .pv .any, .pv .any, .pv .any, .pv .any, .pv .any, .pv .any, .pv .any, .pv .any, .pv .any, .pv .any, .pv .any, .pv .any, .pv .any]) (H0 := [(8, .box [.pv (bPk (agF L) (ordL n) (0))]), (9, .box [.int (mPk (agF L) (ordL n) (0))])]) (H0' := [(8, .box [.pv (bPk (agF L) (ordL n) ((ordL n).length))]), (9, .box [.int (mPk (agF L) (ordL n) ((ordL n).length))])]) (v := .pv (.tup [])) (fun k => k) rfl Try.call67 (orders1_fch n L _ _ _ (bPk (agF L) (ordL n)) (mPk (agF L) (ordL n)) (fun k hk => (YH.intro rfl fun hfit ι0 l => ?_)) hn) rfl rfl rfl rfl rfl ⟨rfl, rfl, rfl, trivial⟩ (by kernel_rfl) ?_
    · have hko := ordL_ok hk
      have hkl := (ordE_zero hko).1
      change awp _ _ _ _ ⟨[(23, .pv (.ints ((ordL n).getD k []))), (0, .pv .any), (1, .pv .any), (2, .pv .any), (3, .pv .any), (4, .pv .any), (5, .pv .any), (6, .pv (.rd [.rows (prM n L)])), (7, .pv .any), (8, .ref 8 0), (9, .ref 9 0), (10, .pv .any), (11, .pv .any), (12, .pv .any), (13, .pv .any), (14, .pv .any), (15, .pv .any), (16, .pv .any), (17, .pv .any), (18, .pv .any), (19, .pv .any), (20, .pv .any), (21, .pv .any), (22, .clo (.func 67) [.pv (.rd [.i (n : Nat)])]), (23, .pv .any), (24, .pv .any), (25, .pv .any), (26, .pv .any), (27, .pv .any), (28, .pv .any), (29, .pv .any), (30, .pv .any), (31, .pv .any), (32, .pv .any), (33, .pv .any), (34, .pv .any), (35, .pv .any), (36, .pv .any), (37, .pv .any), (1000900, .pin 900 (ι0 900)), (1000008, .pin 8 (ι0 8)), (1000009, .pin 9 (ι0 9))], [(8, .box [.pv (bPk (agF L) (ordL n) (k))]), (9, .box [.int (mPk (agF L) (ordL n) (k))])]⟩
      refine awp_ent (show Ent _ ⟨[(23, .pv (.ints ((ordL n).getD k []))), (6, .pv (.rd [.rows (prM n L)])), (8, .ref 8 0), (9, .ref 9 0), (1000900, .pin 900 (ι0 900)), (1000008, .pin 8 (ι0 8)), (1000009, .pin 9 (ι0 9))], [(8, .box [.pv (bPk (agF L) (ordL n) (k))]), (9, .box [.int (mPk (agF L) (ordL n) (k))])]⟩ from Ent.kept ⟨rfl, rfl, rfl, rfl, rfl, rfl, rfl, trivial⟩ ⟨rfl, rfl, trivial⟩) ?_
      refine awp_region rfl (.n (fun _ => op_assign (.plain rfl)) (.nil _)) ?_
      refine awp_block ?_
      refine awp_seq ?_
      refine awp_region rfl (.n (fun _ => op_load Try.isAgg31 (.plain rfl)) (.n (fun _ => op_move (.plain rfl)) (.n (fun _ => op_call2 Try.call54 (.plain rfl) (.plain rfl) (against_fc n L hv ((ordL n).getD k []) ?_)) (.n (fun _ => op_assign (.plain rfl)) (.nil _))))) ?_
      · exact ordL_ok hk
      refine awp_seq ?_
      refine awp_region rfl (.r (op_loadR Try.isAgg23 (.plain rfl) rfl rfl) (.n (fun _ => op_is_nil (b := decide (k = 0)) Try.underlying23 (.plain rfl) ?_) (.n (fun _ => op_move (.plain rfl)) (.gn rfl rfl (fun hg _ => op_move (.plain rfl)) (.gr rfl rfl (fun hg => op_loadR Try.isAgg3 (.plain rfl) rfl rfl) (.gn rfl rfl (fun hg _ => op_lss (.opt rfl fun h => h) (.opt rfl fun h => h)) (.n (fun _ => op_or (.plain rfl) (.plain rfl) (.plain rfl) (fun h => eqF h)) (.nil _)))))))) ?_
      · exact bPk_nil hn1 hk
      refine awp_cond rfl (fun h => ?_) (fun h => ?_)
      · (try simp only [decide_eq_true_eq, decide_eq_false_iff_not, Bool.and_eq_true, Bool.or_eq_true, Bool.and_eq_false_iff, Bool.or_eq_false_iff, Bool.not_eq_true', Bool.not_eq_false', Bool.not_eq_true, Bool.not_eq_false, Bool.true_eq_false, Bool.false_eq_true] at h); (try simp only [fold_c, fold_o, Int.toNat_natCast] at h)
        refine awp_region rfl (.n (fun _ => op_move (.plain rfl)) (.n (fun _ => op_call1 Try.call55 (.plain rfl) ((clone_fc _ ?_).fc)) (.n (fun _ => op_move (.plain rfl)) (.e (op_storeR Try.sizeOf23 (.plain rfl) (.plain rfl) rfl (by first | decide | exact Nat.le_of_ble_eq_true rfl) rfl (by simp) (by simp)) rfl (.e (op_storeR Try.sizeOf3 (.plain rfl) (.plain rfl) rfl (by first | decide | exact Nat.le_of_ble_eq_true rfl) rfl (by simp) (by simp)) rfl (.nil _)))))) ?_
        · first | omega | (simp; omega)
        exact retYe ⟨(kem_box h), (kem_box2 h), trivial⟩ ⟨.inr rfl, .inr rfl, .inr rfl, trivial⟩
      · (try simp only [decide_eq_true_eq, decide_eq_false_iff_not, Bool.and_eq_true, Bool.or_eq_true, Bool.and_eq_false_iff, Bool.or_eq_false_iff, Bool.not_eq_true', Bool.not_eq_false', Bool.not_eq_true, Bool.not_eq_false, Bool.true_eq_false, Bool.false_eq_true] at h); (try simp only [fold_c, fold_o, Int.toNat_natCast] at h)
        refine awp_skip ?_
        exact retYe ⟨(kem_box_no h), (kem_box2_no h), trivial⟩ ⟨.inr rfl, .inr rfl, .inr rfl, trivial⟩
    refine awp_seq ?_
    refine awp_region rfl (.r (op_loadR Try.isAgg23 (.plain rfl) rfl rfl) (.n (fun _ => op_assign (.plain rfl)) (.n (fun _ => op_assign (.plain rfl)) (.nil _)))) ?_
    refine awp_ret ?_
    refine retQ.ret ?_
    refine ret2 rfl rfl rfl rfl rfl ?_
    rw [kem_end hn1]

set_option maxRecDepth 1000000 in
set_option maxHeartbeats 1000000 in
theorem upTo_fc (n : Nat) (hn : n ≤ 1000000) : FC Try.prog 58 [.i (n : Nat)] (.ints (upF n)) := by
  refine FC.intro Try.func58 rfl (Nat.le_of_ble_eq_true rfl) fun hfit => ?_
  have fit0 : -9223372036854775808 ≤ ((n : Nat) : Int) ∧ ((n : Nat) : Int) ≤ 9223372036854775807 := (hfit _ (.head _)).int64
  refine awp_seq ?_
  refine awp_region rfl (.n (fun _ => op_assign (.plain rfl)) (.nil _)) ?_
  refine awp_seq ?_
  refine awp_region rfl (.n (fun _ => op_assign (.plain rfl)) (.nil _)) ?_
  refine awp_seq ?_
  refine awp_seq ?_
  refine awp_region rfl (.n (fun _ => op_assign (.plain rfl)) (.nil _)) ?_
  refine awp_block ?_
  refine awp_ent (Ent.begin 3 1003 3 1 Int 0 (fun n => [.int .i64 n]) rfl rfl rfl) ?_
  refine awp_loop (σ := Nat) (fun (k : Nat) => k ≤ n) (fun (k : Nat) => ⟨[(3, .own 1003), (4, .int (k : Nat)), (0, .pv (.i (n : Nat)))], [(1003, .arr 3 1 Int 0 (fun n => [.int .i64 n]) (upF k))]⟩) (fun (k : Nat) => n - k) 0 ?_ (Ent.kept ⟨rfl, rfl, rfl, trivial⟩ ⟨rfl, trivial⟩) ?_
  · simp
  rintro k hp
  try dsimp only at hp
  refine awp_seq ?_
  refine awp_seq ?_
  refine awp_region rfl (.n (fun _ => op_move (.plain rfl)) (.n (fun _ => op_move (.plain rfl)) (.n (fun _ => op_lss (.plain rfl) (.plain rfl)) (.nil _)))) ?_
  refine awp_cond rfl (fun h => ?_) (fun h => ?_)
  · (try simp only [decide_eq_true_eq, decide_eq_false_iff_not, Bool.and_eq_true, Bool.or_eq_true, Bool.and_eq_false_iff, Bool.or_eq_false_iff, Bool.not_eq_true', Bool.not_eq_false', Bool.not_eq_true, Bool.not_eq_false, Bool.true_eq_false, Bool.false_eq_true] at h); (try simp only [fold_c, fold_o, Int.toNat_natCast] at h)
    refine awp_skip ?_
    refine awp_seq ?_
    refine awp_block ?_
    refine awp_region rfl (.n (fun _ => op_move (.plain rfl)) (.n (fun _ => op_move (.plain rfl)) (.n (fun _ => op_slit (pp := [(0, _)]) (α := Int) (d := 0) (f := (fun n => [.int .i64 n])) [_] ety23 rfl ⟨rfl, (.plain rfl), (by simp), trivial⟩ rfl (by decide) rfl) (.e (op_append (id' := 13) (α := Int) (d := 0) (f := (fun n => [.int .i64 n])) ety23 Try.underlying23 (fun _ => rfl) (fun _ => rfl) (.plain rfl) rfl (.plain rfl) rfl ?_) rfl (.n (fun _ => op_assign (.plain rfl)) (.nil _)))))) ?_
    · first | omega | (simp; omega)
    refine awp_region rfl (.n (fun _ => op_move (.plain rfl)) (.n (fun _ => op_add (.plain rfl) (.plain rfl) ?_) (.n (fun _ => op_assign (.plain rfl)) (.nil _)))) ?_
    · unfold InR; omega
    exact ⟨k + 1, by omega, by dsimp only; omega, (Ent.round 13 1003 ⟨rfl, rfl, rfl, trivial⟩ ⟨(by rw [upF_succ]; rfl), trivial⟩ rfl rfl rfl ⟨rfl, rfl, rfl, trivial⟩ ⟨rfl, trivial⟩)⟩
  · (try simp only [decide_eq_true_eq, decide_eq_false_iff_not, Bool.and_eq_true, Bool.or_eq_true, Bool.and_eq_false_iff, Bool.or_eq_false_iff, Bool.not_eq_true', Bool.not_eq_false', Bool.not_eq_true, Bool.not_eq_false, Bool.true_eq_false, Bool.false_eq_true] at h); (try simp only [fold_c, fold_o, Int.toNat_natCast] at h)
    refine awp_exit ?_
    refine awp_seq ?_
    refine awp_region rfl (.n (fun _ => op_move (.plain rfl)) (.n (fun _ => op_assign (.plain rfl)) (.nil _))) ?_
    refine awp_ret ?_
    refine retQ.ret ?_
    refine ret1 rfl rfl rfl ?_
    obtain rfl : k = n := by omega
    rfl

set_option maxRecDepth 1000000 in
set_option maxHeartbeats 4000000 in
theorem Perms_fc (m : Nat) (l : List Int) (hl : l.length = m) (hm : m ≤ 6) : FC Try.prog 65 [.ints l] (.rows (permsF l)) := by
  revert l hm
  refine Nat.strongRecOn m ?_
  clear m
  intro m ih l hl hm
  refine FC.intro Try.func65 rfl (Nat.le_of_ble_eq_true rfl) fun hfit => ?_
  obtain ⟨fitl0, fitr0⟩ := (hfit _ (.head _)).ints
  refine awp_seq ?_
  refine awp_region rfl (.n (fun _ => op_assign (.plain rfl)) (.nil _)) ?_
  refine awp_seq ?_
  refine awp_seq ?_
  refine awp_region rfl (.n (fun _ => op_move (.plain rfl)) (.n (fun _ => op_len (s := 0) Try.underlying23 (.plain rfl)) (.n (fun _ => op_eql (.plain rfl) (.plain rfl)) (.nil _)))) ?_
  refine awp_cond rfl (fun h => ?_) (fun h => ?_)
  · (try simp only [decide_eq_true_eq, decide_eq_false_iff_not, Bool.and_eq_true, Bool.or_eq_true, Bool.and_eq_false_iff, Bool.or_eq_false_iff, Bool.not_eq_true', Bool.not_eq_false', Bool.not_eq_true, Bool.not_eq_false, Bool.true_eq_false, Bool.false_eq_true] at h); (try simp only [fold_c, fold_o, Int.toNat_natCast] at h)
    obtain rfl : l = [] := List.eq_nil_of_length_eq_zero (by omega)
    refine awp_seq ?_
    refine awp_region rfl (.n (fun _ => op_slit (pp := [(0, _)]) (α := (List Int)) (d := []) (f := (fun r => [.seq Int 0 (fun n => [.int .i64 n]) r])) [_] ety31 rfl ⟨rfl, (.nilS rfl), (by simp), trivial⟩ rfl (by decide) rfl) (.n (fun _ => op_assign (.plain rfl)) (.nil _))) ?_
    refine awp_ret ?_
    refine retQ.ret ?_
    refine ret1 rfl rfl rfl ?_
    rfl
  · (try simp only [decide_eq_true_eq, decide_eq_false_iff_not, Bool.and_eq_true, Bool.or_eq_true, Bool.and_eq_false_iff, Bool.or_eq_false_iff, Bool.not_eq_true', Bool.not_eq_false', Bool.not_eq_true, Bool.not_eq_false, Bool.true_eq_false, Bool.false_eq_true] at h); (try simp only [fold_c, fold_o, Int.toNat_natCast] at h)
    have hne0 := h
    refine awp_skip ?_
    refine awp_seq ?_
    refine awp_region rfl (.n (fun _ => op_assign (.plain rfl)) (.nil _)) ?_
    refine awp_seq ?_
    refine awp_seq ?_
    refine awp_region rfl (.n (fun _ => op_assign (.plain rfl)) (.nil _)) ?_
    refine awp_block ?_
    refine awp_ent (Ent.begin 3 1003 23 1 (List Int) [] (fun r => [.seq Int 0 (fun n => [.int .i64 n]) r]) rfl rfl rfl) ?_
    refine awp_loop (σ := Nat) (fun (i : Nat) => i ≤ l.length) (fun (i : Nat) => ⟨[(0, .pv (.ints l)), (3, .own 1003), (4, .int (i : Nat))], [(1003, .arr 23 1 (List Int) [] (fun r => [.seq Int 0 (fun n => [.int .i64 n]) r]) (permTo l i))]⟩) (fun (i : Nat) => l.length - i) 0 ?_ (Ent.kept ⟨rfl, rfl, rfl, trivial⟩ ⟨rfl, trivial⟩) ?_
    · simp
    rintro i hp
    try dsimp only at hp
    refine awp_seq ?_
    refine awp_seq ?_
    refine awp_region rfl (.n (fun _ => op_move (.plain rfl)) (.n (fun _ => op_move (.plain rfl)) (.n (fun _ => op_len (s := 0) Try.underlying23 (.plain rfl)) (.n (fun _ => op_lss (.plain rfl) (.plain rfl)) (.nil _))))) ?_
    refine awp_cond rfl (fun h => ?_) (fun h => ?_)
    · (try simp only [decide_eq_true_eq, decide_eq_false_iff_not, Bool.and_eq_true, Bool.or_eq_true, Bool.and_eq_false_iff, Bool.or_eq_false_iff, Bool.not_eq_true', Bool.not_eq_false', Bool.not_eq_true, Bool.not_eq_false, Bool.true_eq_false, Bool.false_eq_true] at h); (try simp only [fold_c, fold_o, Int.toNat_natCast] at h)
      have hil : i < l.length := by omega
      have hir := restF_len hil
      refine awp_skip ?_
      refine awp_seq ?_
      refine awp_block ?_
      refine awp_seq ?_
      refine awp_region_draw mixed rfl (.e (op_slitO (pp := []) (α := Int) (d := 0) (f := (fun n => [.int .i64 n])) 18 [] ety23 rfl trivial rfl (by decide) rfl (fun _ => rfl) rfl) rfl (.n (fun _ => op_move (.plain rfl)) (.n (fun _ => op_move (.plain rfl)) (.n (fun _ => op_sliceI (kl := .i64) Try.underlying23 Try.sizeOf3 (fun _ => rfl) (.plain rfl) rfl (.plain rfl) ?_) (.e (op_append (id' := 22) (α := Int) (d := 0) (f := (fun n => [.int .i64 n])) ety23 Try.underlying23 (fun _ => rfl) (fun _ => rfl) (.plain rfl) rfl (.plain rfl) rfl ?_) rfl (.n (fun _ => op_move (.plain rfl)) (.n (fun _ => op_move (.plain rfl)) (.n (fun _ => op_add (.plain rfl) (.plain rfl) ?_) (.n (fun _ => op_sliceI (kh := .i64) Try.underlying23 Try.sizeOf3 (fun _ => rfl) (.plain rfl) (.plain rfl) rfl ?_) (.e (op_append (id' := 27) (α := Int) (d := 0) (f := (fun n => [.int .i64 n])) ety23 Try.underlying23 (fun _ => rfl) (fun _ => rfl) (.plain rfl) rfl (.plain rfl) rfl ?_) rfl (.n (fun _ => op_assign (.plain rfl)) (.nil _)))))))))))) ?d3 ?_
      · omega
      · simp; omega
      · unfold InR; omega
      · omega
      · simp; omega
      · kernel_rfl
      refine awp_seq ?_
      refine awp_ent (Ent.give 5 rfl rfl) ?_
      refine awp_region rfl (.n (fun _ => op_move (.plain rfl)) (.n (fun _ => op_call1 Try.call65 (.plain rfl) (ih (m - 1) ?_ _ ?_ ?_)) (.n (fun _ => op_assign (.plain rfl)) (.nil _)))) ?_
      · omega
      · simp; omega
      · omega
      refine awp_seq ?_
      refine awp_region rfl (.n (fun _ => op_assign (.plain rfl)) (.nil _)) ?_
      refine awp_block ?_
      refine awp_loop (σ := Nat) (fun (k : Nat) => k ≤ (permsF (restF l i)).length) (fun (k : Nat) => ⟨[(0, .pv (.ints l)), (3, .own 1003), (4, .int (i : Nat)), (6, .pv (.rows (permsF (restF l i)))), (7, .int (k : Nat))], [(1003, .arr 23 1 (List Int) [] (fun r => [.seq Int 0 (fun n => [.int .i64 n]) r]) (permTo l i ++ ((permsF (restF l i)).take k).map fun p => l.getD i 0 :: p))]⟩) (fun (k : Nat) => (permsF (restF l i)).length - k) 0 ?_ (Ent.kept ⟨rfl, rfl, rfl, (congrArg (fun r => some (SV.pv (.rows (permsF r)))) (rest_eq l i)), rfl, trivial⟩ ⟨(congrArg (fun l => some (Blk.arr 23 1 (List Int) [] (fun r => [.seq Int 0 (fun n => [.int .i64 n]) r]) l)) (by simp)), trivial⟩) ?_
      · simp
      rintro k hp
      try dsimp only at hp
      refine awp_seq ?_
      refine awp_seq ?_
      refine awp_region rfl (.n (fun _ => op_move (.plain rfl)) (.n (fun _ => op_move (.plain rfl)) (.n (fun _ => op_len (s := 0) Try.underlying31 (.plain rfl)) (.n (fun _ => op_lss (.plain rfl) (.plain rfl)) (.nil _))))) ?_
      refine awp_cond rfl (fun h => ?_) (fun h => ?_)
      · (try simp only [decide_eq_true_eq, decide_eq_false_iff_not, Bool.and_eq_true, Bool.or_eq_true, Bool.and_eq_false_iff, Bool.or_eq_false_iff, Bool.not_eq_true', Bool.not_eq_false', Bool.not_eq_true, Bool.not_eq_false, Bool.true_eq_false, Bool.false_eq_true] at h); (try simp only [fold_c, fold_o, Int.toNat_natCast] at h)
        have hk2 : k < (permsF (restF l i)).length := by omega
        have hpk := permsF_len (l := restF l i) (by omega)
        refine awp_skip ?_
        refine awp_seq ?_
        refine awp_block ?_
        refine awp_region_draw mixed rfl (.n (fun _ => op_move (.plain rfl)) (.n (fun _ => op_move (.plain rfl)) (.n (fun _ => op_move (.plain rfl)) (.n (fun _ => op_indexAddrN Try.underlying23 Try.sizeOf3 (.plain rfl) (.plain rfl) (fun _ => rfl) ?_) (.n (fun _ => op_load Try.isAgg3 (.plain rfl)) (.e (op_slitO (pp := [(0, _)]) (α := Int) (d := 0) (f := (fun n => [.int .i64 n])) 41 [_] ety23 rfl ⟨rfl, (.plain rfl), (by simp), trivial⟩ rfl (by decide) rfl (fun _ => rfl) rfl) rfl (.n (fun _ => op_move (.plain rfl)) (.n (fun _ => op_move (.plain rfl)) (.n (fun _ => op_indexAddrN Try.underlying31 Try.sizeOf23 (.plain rfl) (.plain rfl) (fun _ => rfl) ?_) (.n (fun _ => op_load Try.isAgg23 (.plain rfl)) (.e ((op_append (id' := 46) (α := Int) (d := 0) (f := (fun n => [.int .i64 n])) ety23 Try.underlying23 (fun _ => rfl) (fun _ => rfl) (.plain rfl) rfl (.plain rfl) rfl ?_).given rfl) rfl (.n (fun _ => op_slit (pp := [(0, _)]) (α := (List Int)) (d := []) (f := (fun r => [.seq Int 0 (fun n => [.int .i64 n]) r])) [_] ety31 rfl ⟨rfl, (.plain rfl), (by simp), trivial⟩ rfl (by decide) rfl) (.e (op_append (id' := 48) (α := (List Int)) (d := []) (f := (fun r => [.seq Int 0 (fun n => [.int .i64 n]) r])) ety31 Try.underlying31 (fun _ => rfl) (fun _ => rfl) (.plain rfl) rfl (.plain rfl) rfl ?_) rfl (.n (fun _ => op_assign (.plain rfl)) (.nil _))))))))))))))) ?d4 ?_
        · omega
        · omega
        · have h4 := permR_in hir hk2; simp only [List.length_cons, List.length_nil]; omega
        · have := permTo_len (show i ≤ l.length by omega) (by omega); have := permsF_len (l := restF l i) (by rw [restF_len hil]; omega); simp; omega
        · kernel_rfl
        refine awp_region rfl (.n (fun _ => op_move (.plain rfl)) (.n (fun _ => op_add (.plain rfl) (.plain rfl) ?_) (.n (fun _ => op_assign (.plain rfl)) (.nil _)))) ?_
        · unfold InR; omega
        exact ⟨k + 1, by omega, by dsimp only; omega, (Ent.round 48 1003 ⟨rfl, rfl, rfl, rfl, rfl, trivial⟩ ⟨(congrArg (fun l => some (Blk.arr 23 1 (List Int) [] (fun r => [.seq Int 0 (fun n => [.int .i64 n]) r]) l)) (by rw [List.append_assoc, take_snocR hk2, List.map_append]; rfl)), trivial⟩ rfl rfl rfl ⟨rfl, rfl, rfl, rfl, rfl, trivial⟩ ⟨rfl, trivial⟩)⟩
      · (try simp only [decide_eq_true_eq, decide_eq_false_iff_not, Bool.and_eq_true, Bool.or_eq_true, Bool.and_eq_false_iff, Bool.or_eq_false_iff, Bool.not_eq_true', Bool.not_eq_false', Bool.not_eq_true, Bool.not_eq_false, Bool.true_eq_false, Bool.false_eq_true] at h); (try simp only [fold_c, fold_o, Int.toNat_natCast] at h)
        obtain rfl : k = (permsF (restF l i)).length := by omega
        refine awp_exit ?_
        refine awp_region rfl (.n (fun _ => op_move (.plain rfl)) (.n (fun _ => op_add (.plain rfl) (.plain rfl) ?_) (.n (fun _ => op_assign (.plain rfl)) (.nil _)))) ?_
        · unfold InR; omega
        exact ⟨i + 1, by omega, by dsimp only; omega, (Ent.kept ⟨rfl, rfl, rfl, trivial⟩ ⟨(congrArg (fun l => some (Blk.arr 23 1 (List Int) [] (fun r => [.seq Int 0 (fun n => [.int .i64 n]) r]) l)) (by rw [permTo_succ, List.take_length])), trivial⟩)⟩
    · (try simp only [decide_eq_true_eq, decide_eq_false_iff_not, Bool.and_eq_true, Bool.or_eq_true, Bool.and_eq_false_iff, Bool.or_eq_false_iff, Bool.not_eq_true', Bool.not_eq_false', Bool.not_eq_true, Bool.not_eq_false, Bool.true_eq_false, Bool.false_eq_true] at h); (try simp only [fold_c, fold_o, Int.toNat_natCast] at h)
      obtain rfl : i = l.length := by omega
      refine awp_exit ?_
      refine awp_seq ?_
      refine awp_region rfl (.n (fun _ => op_move (.plain rfl)) (.n (fun _ => op_assign (.plain rfl)) (.nil _))) ?_
      refine awp_ret ?_
      refine retQ.ret ?_
      refine ret1 rfl rfl rfl ?_
      rw [permTo_all (fun c => hne0 (by rw [c]; rfl))]

set_option maxRecDepth 1000000 in
set_option maxHeartbeats 1000000 in
theorem RKemeny_fc (n : Nat) (L : List (Int × List Int × Unit)) (hv : voteE n L = 0) : FC Try.prog 38 [.i (n : Nat), .seq (Int × List Int × Unit) (0, [], ()) (fun b => [.i b.1, .ints b.2.1]) L] (.ints (kemF n L)) := by
  refine FC.intro Try.func38 rfl (Nat.le_of_ble_eq_true rfl) fun hfit => ?_
  have fit0 : -9223372036854775808 ≤ ((n : Nat) : Int) ∧ ((n : Nat) : Int) ≤ 9223372036854775807 := (hfit _ (.head _)).int64
  have fit1 := hfit _ (.tail _ (.head _))
  have hV := vok hv
  have hL30 := hV.len
  have hn := hV.n6
  have hn1 := hV.n1
  have hpm := ordL_perms n
  have hop := ordL_pos hn1
  have hol := permsF_len (l := upF n) (by simp; exact hn)
  rw [hpm] at hol
  refine awp_seq ?_
  refine awp_region rfl (.n (fun _ => op_assign (.plain rfl)) (.nil _)) ?_
  refine awp_seq ?_
  refine awp_region rfl (.n (fun _ => op_move (.plain rfl)) (.n (fun _ => op_call1 Try.call58 (.plain rfl) (upTo_fc _ ?_)) (.n (fun _ => op_call1 Try.call65 (.plain rfl) (hpm ▸ Perms_fc n (upF n) (by simp) hn)) (.n (fun _ => op_assign (.plain rfl)) (.nil _))))) ?_
  · omega
  refine awp_seq ?_
  refine awp_region rfl (.n (fun _ => op_move (.plain rfl)) (.n (fun _ => op_indexAddr Try.underlying31 Try.sizeOf23 (.plain rfl) (.plain rfl) (fun _ => rfl) ?_) (.n (fun _ => op_load Try.isAgg23 (.plain rfl)) (.n (fun _ => op_assign (.plain rfl)) (.nil _))))) ?_
  · omega
  refine awp_seq ?_
  refine awp_region rfl (.n (fun _ => op_move (.plain rfl)) (.n (fun _ => op_move (.plain rfl)) (.n (fun _ => op_call2 Try.call43 (.plain rfl) (.plain rfl) (RAgainst_fc n L hv _ ?_)) (.n (fun _ => op_assign (.plain rfl)) (.nil _))))) ?_
  · have := (ordE_zero (ordL_ok hop)).1
    show ((ordL n).getD 0 []).length ≤ 1000
    omega
  refine awp_seq ?_
  refine awp_seq ?_
  refine awp_region rfl (.n (fun _ => op_assign (.plain rfl)) (.nil _)) ?_
  refine awp_block ?_
  refine awp_loop (σ := Nat) (fun (i : Nat) => i < (ordL n).length) (fun (i : Nat) => ⟨[(1, .pv (.seq (Int × List Int × Unit) (0, [], ()) (fun b => [.i b.1, .ints b.2.1]) L)), (5, .pv (.rows (ordL n))), (6, .pv (.ints (kemT (agF L) (ordL n) (i + 1)))), (7, .int (agF L (kemT (agF L) (ordL n) (i + 1)))), (8, .int (i + 1 : Nat))], []⟩) (fun (i : Nat) => (ordL n).length - i) 0 ?_ (Ent.kept ⟨rfl, rfl, rfl, rfl, rfl, trivial⟩ trivial) ?_
  · exact hop
  rintro i hp
  try dsimp only at hp
  have hi := hp
  refine awp_seq ?_
  refine awp_seq ?_
  refine awp_region rfl (.n (fun _ => op_move (.plain rfl)) (.n (fun _ => op_move (.plain rfl)) (.n (fun _ => op_len (s := 0) Try.underlying31 (.plain rfl)) (.n (fun _ => op_lss (.plain rfl) (.plain rfl)) (.nil _))))) ?_
  refine awp_cond rfl (fun h => ?_) (fun h => ?_)
  · (try simp only [decide_eq_true_eq, decide_eq_false_iff_not, Bool.and_eq_true, Bool.or_eq_true, Bool.and_eq_false_iff, Bool.or_eq_false_iff, Bool.not_eq_true', Bool.not_eq_false', Bool.not_eq_true, Bool.not_eq_false, Bool.true_eq_false, Bool.false_eq_true] at h); (try simp only [fold_c, fold_o, Int.toNat_natCast] at h)
    refine awp_skip ?_
    refine awp_seq ?_
    refine awp_block ?_
    refine awp_seq ?_
    refine awp_region rfl (.n (fun _ => op_move (.plain rfl)) (.n (fun _ => op_move (.plain rfl)) (.n (fun _ => op_move (.plain rfl)) (.n (fun _ => op_indexAddrN Try.underlying31 Try.sizeOf23 (.plain rfl) (.plain rfl) (fun _ => rfl) ?_) (.n (fun _ => op_load Try.isAgg23 (.plain rfl)) (.n (fun _ => op_call2 Try.call43 (.plain rfl) (.plain rfl) (RAgainst_fc n L hv _ ?_)) (.n (fun _ => op_assign (.plain rfl)) (.nil _)))))))) ?_
    · omega
    · have := (ordE_zero (ordL_ok (show i + 1 < (ordL n).length by omega))).1
      omega
    refine awp_seq ?_
    refine awp_region rfl (.n (fun _ => op_move (.plain rfl)) (.n (fun _ => op_move (.plain rfl)) (.n (fun _ => op_lss (.plain rfl) (.plain rfl)) (.nil _)))) ?_
    refine awp_cond rfl (fun h => ?_) (fun h => ?_)
    · (try simp only [decide_eq_true_eq, decide_eq_false_iff_not, Bool.and_eq_true, Bool.or_eq_true, Bool.and_eq_false_iff, Bool.or_eq_false_iff, Bool.not_eq_true', Bool.not_eq_false', Bool.not_eq_true, Bool.not_eq_false, Bool.true_eq_false, Bool.false_eq_true] at h); (try simp only [fold_c, fold_o, Int.toNat_natCast] at h)
      have hk := kem_yes (ag := agF L) (l := ordL n) (k := i + 1) (.inr h)
      refine awp_seq ?_
      refine awp_region rfl (.n (fun _ => op_move (.plain rfl)) (.n (fun _ => op_move (.plain rfl)) (.n (fun _ => op_indexAddrN Try.underlying31 Try.sizeOf23 (.plain rfl) (.plain rfl) (fun _ => rfl) ?_) (.n (fun _ => op_load Try.isAgg23 (.plain rfl)) (.n (fun _ => op_assign (.plain rfl)) (.nil _)))))) ?_
      · omega
      refine awp_region rfl (.n (fun _ => op_move (.plain rfl)) (.n (fun _ => op_assign (.plain rfl)) (.nil _))) ?_
      refine awp_region rfl (.n (fun _ => op_move (.plain rfl)) (.n (fun _ => op_add (.plain rfl) (.plain rfl) ?_) (.n (fun _ => op_assign (.plain rfl)) (.nil _)))) ?_
      · unfold InR; omega
      exact ⟨i + 1, by omega, by dsimp only; omega, (Ent.kept ⟨rfl, rfl, (congrArg (fun l => some (SV.pv (.ints l))) hk), (congrArg (fun n : Int => some (SV.int n)) (congrArg (agF L) hk)), rfl, trivial⟩ trivial)⟩
    · (try simp only [decide_eq_true_eq, decide_eq_false_iff_not, Bool.and_eq_true, Bool.or_eq_true, Bool.and_eq_false_iff, Bool.or_eq_false_iff, Bool.not_eq_true', Bool.not_eq_false', Bool.not_eq_true, Bool.not_eq_false, Bool.true_eq_false, Bool.false_eq_true] at h); (try simp only [fold_c, fold_o, Int.toNat_natCast] at h)
      have hk := kemR_no h
      refine awp_skip ?_
      refine awp_region rfl (.n (fun _ => op_move (.plain rfl)) (.n (fun _ => op_add (.plain rfl) (.plain rfl) ?_) (.n (fun _ => op_assign (.plain rfl)) (.nil _)))) ?_
      · unfold InR; omega
      exact ⟨i + 1, by omega, by dsimp only; omega, (Ent.kept ⟨rfl, rfl, (congrArg (fun l => some (SV.pv (.ints l))) hk), (congrArg (fun n : Int => some (SV.int n)) (congrArg (agF L) hk)), rfl, trivial⟩ trivial)⟩
  · (try simp only [decide_eq_true_eq, decide_eq_false_iff_not, Bool.and_eq_true, Bool.or_eq_true, Bool.and_eq_false_iff, Bool.or_eq_false_iff, Bool.not_eq_true', Bool.not_eq_false', Bool.not_eq_true, Bool.not_eq_false, Bool.true_eq_false, Bool.false_eq_true] at h); (try simp only [fold_c, fold_o, Int.toNat_natCast] at h)
    refine awp_exit ?_
    refine awp_seq ?_
    refine awp_region rfl (.n (fun _ => op_move (.plain rfl)) (.n (fun _ => op_assign (.plain rfl)) (.nil _))) ?_
    refine awp_ret ?_
    refine retQ.ret ?_
    refine ret1 rfl rfl rfl ?_
    unfold kemF
    rw [show (ordL n).length = i + 1 by omega]

end Go.Proofs.Ytkbbdiodmeobaaa

