/- The laws of trade: Core by both ways, what Rounds gives is the core alone, and nobody gains by a lie. Conditions: each theorem names its own. -/
import Derived.Test.YtnbponopcbgndaaProg
import Derived.Test.YtnbponopcbgndaaFd
namespace Go.Proofs.Ytnbponopcbgndaa
open Go.Abs
set_option linter.unusedVariables false
set_option linter.unusedSimpArgs false


def pickN (raw : List Int) (k len : Nat) : Nat := (pickF (atF raw k) len).toNat
def pS (raw : List Int) (fr n : Nat) : Nat → List Int × List Int
  | 0 => (upF n, [])
  | k + 1 => (restF (pS raw fr n k).1 (pickN raw (fr + k) (pS raw fr n k).1.length), (pS raw fr n k).2 ++ [(pS raw fr n k).1.getD (pickN raw (fr + k) (pS raw fr n k).1.length) 0])
def permOf (raw : List Int) (fr n : Nat) : List Int := (pS raw fr n n).2
theorem pickN_lt {raw : List Int} {k len : Nat} (h : 1 ≤ len) : pickF (atF raw k) len = (pickN raw k len : Nat) ∧ pickN raw k len < len := by
  have := pickF_range (atF raw k) len (by omega)
  unfold pickN; omega
theorem pS_len (raw : List Int) (fr n : Nat) : ∀ k, k ≤ n → (pS raw fr n k).1.length = n - k ∧ (pS raw fr n k).2.length = k ∧ ((pS raw fr n k).2 ++ (pS raw fr n k).1).Perm (upF n)
  | 0, _ => by simp [pS]
  | k + 1, hk => by
    have ih := pS_len raw fr n k (by omega)
    have hp := pickN_lt (raw := raw) (k := fr + k) (len := (pS raw fr n k).1.length) (by omega)
    simp only [pS]
    refine ⟨by rw [restF_len hp.2]; omega, by simp [ih.2.1], ?_⟩
    rw [List.append_assoc, List.singleton_append]
    exact ((perm_rest hp.2).append_left _).trans ih.2.2
theorem permOf_perm (raw : List Int) (fr n : Nat) : (permOf raw fr n).Perm (upF n) := by
  have h := pS_len raw fr n n (Nat.le_refl _)
  have h0 : (pS raw fr n n).1 = [] := List.eq_nil_of_length_eq_zero (by omega)
  have h1 := h.2.2
  rw [h0, List.append_nil] at h1
  exact h1
@[simp] theorem permOf_length (raw : List Int) (fr n : Nat) : (permOf raw fr n).length = n := (pS_len raw fr n n (Nat.le_refl _)).2.1
theorem ordE_perm {n : Nat} {l : List Int} (h : l.Perm (upF n)) : ordE n l = 0 := by
  have hl : l.length = n := by rw [h.length_eq]; simp
  have hd : l.Nodup := h.nodup_iff.2 (by
    unfold upF
    rw [List.Nodup, List.pairwise_map]
    exact List.nodup_range.imp fun h e => h (by omega))
  have hin : ∀ x, x ∈ l → 0 ≤ x ∧ x < (n : Int) := fun x hx => by
    have := h.subset hx
    unfold upF at this
    obtain ⟨y, hy, rfl⟩ := List.mem_map.1 this
    have := List.mem_range.1 hy
    omega
  unfold ordE
  rw [if_neg (by omega)]
  unfold someE
  have key : ∀ k, k ≤ l.length → firstE (someB n l) k = 0 := by
    intro k
    induction k with
    | zero => intro _; rfl
    | succ k ih =>
      intro hk
      refine firstE_succ (ih (by omega)) ?_
      have h1 := hin _ (getD_mem 0 (show k < l.length by omega))
      refine someB_0 (by omega) fun c => ?_
      unfold placeF at c
      cases hf : firstI (fun i => decide (l.getD i 0 = l.getD k 0)) l.length with
      | none => have := firstI_none hf k (by omega); simp at this
      | some i =>
        rw [hf] at c
        simp only at c
        have h2 := firstI_spec hf
        simp only [decide_eq_true_eq] at h2
        have hik : i < k := by omega
        have h3 := List.pairwise_iff_getElem.1 hd i k (by omega) (by omega) hik
        simp only [List.getD_eq_getElem?_getD, List.getElem?_eq_getElem (show i < l.length by omega), List.getElem?_eq_getElem (show k < l.length by omega), Option.getD_some] at h2
        exact h3 h2.2.1
  exact key _ (Nat.le_refl _)
theorem permOf_ord (raw : List Int) (fr n : Nat) : ordE n (permOf raw fr n) = 0 := ordE_perm (permOf_perm raw fr n)
theorem rest_eqI {l : List Int} {i : Int} (h : 0 ≤ i) : ([] ++ (l.take i.toNat).drop (0 : Int).toNat) ++ (l.take ((l.length : Nat) : Int).toNat).drop (i + 1).toNat = restF l i.toNat := by
  have e : (i + 1).toNat = i.toNat + 1 := by omega
  rw [e]; simp [restF]

def Plan (W : List (List Int)) (got : List Int) (set i m used : Nat) (q : Nat → Nat) : Prop :=
  (∀ x, i ≤ x → x < i + m → set.testBit x = true → q x < W.length ∧ set.testBit (q x) = true ∧ used.testBit (q x) = false ∧ aR W x (q x : Nat) ≤ aR W x (got.getD x 0)) ∧
  ∀ x y, i ≤ x → x < i + m → set.testBit x = true → i ≤ y → y < i + m → set.testBit y = true → q x = q y → x = y
def Bett (W : List (List Int)) (got : List Int) (set i m : Nat) (q : Nat → Nat) : Prop := ∃ x, i ≤ x ∧ x < i + m ∧ set.testBit x = true ∧ aR W x (q x : Nat) < aR W x (got.getD x 0)
theorem bit_or2 (u k y : Nat) : (u ||| 2 ^ k).testBit y = (u.testBit y || decide (k = y)) := by rw [Nat.testBit_or, Nat.testBit_two_pow]
theorem tryF_iff {W : List (List Int)} {got : List Int} {set : Nat} : ∀ (m i used : Nat) (b : Bool), i + m = W.length → (tryF W got set m i used b = true ↔ ∃ q, Plan W got set i m used q ∧ (b = true ∨ Bett W got set i m q))
  | 0, i, used, b, _ => by
    unfold tryF
    constructor
    · exact fun h => ⟨fun x => x, ⟨fun x h1 h2 => by omega, fun x y h1 h2 => by omega⟩, .inl h⟩
    · rintro ⟨q, _, h | ⟨x, h1, h2, _⟩⟩
      · exact h
      · omega
  | m + 1, i, used, b, hl => by
    cases hb : set.testBit i with
    | false =>
      rw [tryF_skip hb, tryF_iff m (i + 1) used b (by omega)]
      have hne : ∀ x, set.testBit x = true → x ≠ i := fun x hx e => by rw [e, hb] at hx; cases hx
      constructor
      · rintro ⟨q, ⟨h1, h2⟩, h3⟩
        refine ⟨q, ⟨fun x a c d => h1 x (by have := hne x d; omega) (by omega) d, fun x y a c d a2 c2 d2 => h2 x y (by have := hne x d; omega) (by omega) d (by have := hne y d2; omega) (by omega) d2⟩, ?_⟩
        rcases h3 with h3 | ⟨x, a, c, d⟩
        · exact .inl h3
        · exact .inr ⟨x, by omega, by omega, d⟩
      · rintro ⟨q, ⟨h1, h2⟩, h3⟩
        refine ⟨q, ⟨fun x a c d => h1 x (by omega) (by omega) d, fun x y a c d a2 c2 d2 => h2 x y (by omega) (by omega) d (by omega) (by omega) d2⟩, ?_⟩
        rcases h3 with h3 | ⟨x, a, c, d, e⟩
        · exact .inl h3
        · exact .inr ⟨x, by have := hne x d; omega, by omega, d, e⟩
    | true =>
      rw [tryF_any hb, anyTo_iff]
      constructor
      · rintro ⟨k, hk, hs⟩
        simp only [stp, Bool.and_eq_true, Bool.not_eq_true', decide_eq_true_eq] at hs
        obtain ⟨⟨s1, s2⟩, s3, s4⟩ := hs
        obtain ⟨q, ⟨h1, h2⟩, h3⟩ := (tryF_iff m (i + 1) _ _ (by omega)).1 s4
        refine ⟨fun x => if x = i then k else q x, ⟨fun x a c d => ?_, fun x y a c d a2 c2 d2 e => ?_⟩, ?_⟩
        · dsimp only
          by_cases e : x = i
          · subst e; rw [if_pos rfl]; exact ⟨hk, s1, s2, s3⟩
          · rw [if_neg e]
            have := h1 x (by omega) (by omega) d
            rw [bit_or2, Bool.or_eq_false_iff] at this
            exact ⟨this.1, this.2.1, this.2.2.1.1, this.2.2.2⟩
        · dsimp only at e
          by_cases e1 : x = i <;> by_cases e2 : y = i
          · omega
          · rw [if_pos e1, if_neg e2] at e
            have := (h1 y (by omega) (by omega) d2).2.2.1
            rw [bit_or2, ← e] at this; simp at this
          · rw [if_neg e1, if_pos e2] at e
            have := (h1 x (by omega) (by omega) d).2.2.1
            rw [bit_or2, e] at this; simp at this
          · rw [if_neg e1, if_neg e2] at e
            exact h2 x y (by omega) (by omega) d (by omega) (by omega) d2 e
        · rcases h3 with h3 | ⟨x, a, c, d, e⟩
          · rw [Bool.or_eq_true, decide_eq_true_eq] at h3
            rcases h3 with h3 | h3
            · exact .inl h3
            · exact .inr ⟨i, Nat.le_refl _, by omega, hb, by dsimp only; rw [if_pos rfl]; exact h3⟩
          · exact .inr ⟨x, by omega, by omega, d, by dsimp only; rw [if_neg (by omega)]; exact e⟩
      · rintro ⟨q, ⟨h1, h2⟩, h3⟩
        have hi := h1 i (Nat.le_refl _) (by omega) hb
        refine ⟨q i, hi.1, ?_⟩
        simp only [stp, Bool.and_eq_true, Bool.not_eq_true', decide_eq_true_eq]
        refine ⟨⟨hi.2.1, hi.2.2.1⟩, hi.2.2.2, (tryF_iff m (i + 1) _ _ (by omega)).2 ⟨q, ⟨fun x a c d => ?_, fun x y a c d a2 c2 d2 => h2 x y (by omega) (by omega) d (by omega) (by omega) d2⟩, ?_⟩⟩
        · have hx := h1 x (by omega) (by omega) d
          refine ⟨hx.1, hx.2.1, ?_, hx.2.2.2⟩
          rw [bit_or2, Bool.or_eq_false_iff]
          exact ⟨hx.2.2.1, decide_eq_false fun e => by have := h2 i x (Nat.le_refl _) (by omega) hb (by omega) (by omega) d e; omega⟩
        · rcases h3 with h3 | ⟨x, a, c, d, e⟩
          · exact .inl (by rw [h3]; rfl)
          · by_cases ex : x = i
            · subst ex; exact .inl (by rw [decide_eq_true e]; simp)
            · exact .inr ⟨x, by omega, by omega, d, e⟩
theorem blkB_iff {W : List (List Int)} {got : List Int} {set : Nat} : blkB W got set = true ↔ ∃ q, Plan W got set 0 W.length 0 q ∧ Bett W got set 0 W.length q := by
  unfold blkB
  rw [tryF_iff _ _ _ _ (by omega)]
  exact ⟨fun ⟨q, h1, h2⟩ => ⟨q, h1, h2.resolve_left (by simp)⟩, fun ⟨q, h1, h2⟩ => ⟨q, h1, .inr h2⟩⟩
theorem perm_of : ∀ {l m : List Nat}, l.Nodup → m.Nodup → (∀ x, x ∈ l → x ∈ m) → l.length = m.length → l.Perm m
  | [], m, _, _, _, hl => by
    obtain rfl : m = [] := List.eq_nil_of_length_eq_zero (by simpa using hl.symm)
    exact .nil
  | a :: l, m, hd, hm, hs, hl => by
    have ha := hs a List.mem_cons_self
    have h1 : l.Perm (m.erase a) := perm_of (List.nodup_cons.1 hd).2 (hm.erase _) (fun x hx => by
      have hne : x ≠ a := fun e => (List.nodup_cons.1 hd).1 (e ▸ hx)
      exact (List.mem_erase_of_ne hne).2 (hs x (List.mem_cons_of_mem _ hx))) (by
      have := List.length_erase_of_mem ha
      simp only [List.length_cons] at hl
      omega)
    exact (h1.cons a).trans (List.perm_cons_erase ha).symm
theorem ring_perm {l m : List Nat} (h : l.Perm m) : (ringI l).Perm (ringI m) := h.map _
theorem ringI_nat {N : List Nat} {j : Nat} (h : j < N.length) : ((ringI N).getD j 0).toNat = N.getD j 0 := by rw [ringI_getD h]; simp
theorem ref_blk {W : List (List Int)} {got : List Int} {set : Nat} : refB W got set = blkB W got set := by
  rw [Bool.eq_iff_iff, blkB_iff]
  unfold refB
  rw [List.any_eq_true]
  have hN : ∀ x, x ∈ bitsN set W.length ↔ x < W.length ∧ set.testBit x = true := fun x => bitsN_mem
  constructor
  · rintro ⟨p, hp, hb⟩
    have hpp := permsF_mem.1 hp
    have hpl : p.length = (bitsN set W.length).length := by rw [hpp.length_eq]; simp
    have hnd : p.Nodup := hpp.nodup_iff.2 (by
      unfold ringI
      rw [List.Nodup, List.pairwise_map]
      exact bitsN_nodup.imp fun h e => h (by omega))
    have hpin : ∀ j, j < p.length → ∃ y, y ∈ bitsN set W.length ∧ p.getD j 0 = ((y : Nat) : Int) := fun j hj => by
      have := hpp.subset (getD_memI hj)
      unfold ringI at this
      obtain ⟨y, hy, e⟩ := List.mem_map.1 this
      exact ⟨y, hy, e.symm⟩
    let ix : Nat → Nat := fun x => (bitsN set W.length).idxOf x
    have hix : ∀ x, x ∈ bitsN set W.length → ix x < (bitsN set W.length).length ∧ (bitsN set W.length).getD (ix x) 0 = x := fun x hx => by
      have h1 := List.idxOf_lt_length_iff.2 hx
      exact ⟨h1, by rw [List.getD_eq_getElem?_getD, List.getElem?_eq_getElem h1]; exact List.getElem_idxOf h1⟩
    simp only [betF, Bool.and_eq_true] at hb
    have hfine : ∀ j, j < (bitsN set W.length).length → aR W ((bitsN set W.length).getD j 0) (p.getD j 0) ≤ aR W ((bitsN set W.length).getD j 0) (got.getD ((bitsN set W.length).getD j 0) 0) := fun j hj => by
      have h1 := hb.1
      unfold fineF at h1
      rw [Bool.not_eq_true', ← Bool.not_eq_true, anyTo_iff] at h1
      apply Int.not_lt.1
      intro c
      exact h1 ⟨j, by simpa using hj, decide_eq_true (by rw [ringI_nat hj]; exact c)⟩
    refine ⟨fun x => (p.getD (ix x) 0).toNat, ⟨fun x _ hx hs => ?_, fun x y _ hx hs _ hy hs2 e => ?_⟩, ?_⟩
    · have hm := (hN x).2 ⟨by omega, hs⟩
      have h1 := hix x hm
      obtain ⟨y, hy, e⟩ := hpin (ix x) (by omega)
      have h2 := (hN y).1 hy
      have h3 := hfine (ix x) h1.1
      rw [h1.2] at h3
      dsimp only
      rw [e, Int.toNat_natCast]
      rw [e] at h3
      exact ⟨h2.1, h2.2, by simp, h3⟩
    · have hmx := (hN x).2 ⟨by omega, hs⟩
      have hmy := (hN y).2 ⟨by omega, hs2⟩
      have h1 := hix x hmx
      have h2 := hix y hmy
      obtain ⟨u, hu, eu⟩ := hpin (ix x) (by omega)
      obtain ⟨v, hv, ev⟩ := hpin (ix y) (by omega)
      dsimp only at e
      rw [eu, ev, Int.toNat_natCast, Int.toNat_natCast] at e
      have e2 : p.getD (ix x) 0 = p.getD (ix y) 0 := by rw [eu, ev, e]
      have hx1 : ix x < p.length := by omega
      have hy1 : ix y < p.length := by omega
      have e3 : ix x = ix y := by
        simp only [List.getD_eq_getElem?_getD, List.getElem?_eq_getElem hx1, List.getElem?_eq_getElem hy1, Option.getD_some] at e2
        rcases Nat.lt_trichotomy (ix x) (ix y) with h | h | h
        · exact absurd e2 (List.pairwise_iff_getElem.1 hnd _ _ hx1 hy1 h)
        · exact h
        · exact absurd e2.symm (List.pairwise_iff_getElem.1 hnd _ _ hy1 hx1 h)
      rw [← h1.2, ← h2.2, e3]
    · have h1 := hb.2
      unfold moreF at h1
      obtain ⟨j, hj, h2⟩ := anyTo_iff.1 h1
      have hj' : j < (bitsN set W.length).length := by simpa using hj
      rw [decide_eq_true_eq, ringI_nat hj'] at h2
      have hmem := natD_mem hj'
      have h3 := hix _ hmem
      have e : ix ((bitsN set W.length).getD j 0) = j := by
        have h4 := h3.1
        rcases Nat.lt_trichotomy (ix ((bitsN set W.length).getD j 0)) j with h | h | h
        · have := List.pairwise_iff_getElem.1 (bitsN_nodup (set := set) (n := W.length)) _ _ h4 hj' h
          have e5 := h3.2
          simp only [List.getD_eq_getElem?_getD, List.getElem?_eq_getElem hj', Option.getD_some] at e5 this h4 ⊢
          rw [List.getElem?_eq_getElem h4, Option.getD_some] at e5
          exact absurd e5 this
        · exact h
        · have := List.pairwise_iff_getElem.1 (bitsN_nodup (set := set) (n := W.length)) _ _ hj' h4 h
          have e5 := h3.2
          simp only [List.getD_eq_getElem?_getD, List.getElem?_eq_getElem hj', Option.getD_some] at e5 this h4 ⊢
          rw [List.getElem?_eq_getElem h4, Option.getD_some] at e5
          exact absurd e5.symm this
      have h5 := (hN _).1 hmem
      refine ⟨(bitsN set W.length).getD j 0, Nat.zero_le _, by omega, h5.2, ?_⟩
      dsimp only
      rw [e]
      obtain ⟨y, _, ey⟩ := hpin j (by omega)
      rw [ey, Int.toNat_natCast, ← ey]
      exact h2
  · rintro ⟨q, ⟨h1, h2⟩, x, _, hx, hs, hlt⟩
    have hpos : ∀ {j : Nat} (hj : j < (bitsN set W.length).length), (((bitsN set W.length).map q).getD j 0) = q ((bitsN set W.length).getD j 0) := fun {j} hj => by
      simp [List.getD_eq_getElem?_getD, hj]
    refine ⟨ringI ((bitsN set W.length).map q), permsF_mem.2 (ring_perm (perm_of (nodup_map_on bitsN_nodup fun a b ha hb => ?_) bitsN_nodup (fun y hy => ?_) (by simp))), ?_⟩
    · have ha := (hN a).1 ha
      have hb := (hN b).1 hb
      exact h2 a b (Nat.zero_le _) (by omega) ha.2 (Nat.zero_le _) (by omega) hb.2
    · obtain ⟨z, hz, rfl⟩ := List.mem_map.1 hy
      have hz := (hN z).1 hz
      have := h1 z (Nat.zero_le _) (by omega) hz.2
      exact (hN _).2 ⟨this.1, this.2.1⟩
    · unfold betF
      rw [Bool.and_eq_true]
      constructor
      · unfold fineF
        rw [anyTo_none fun j hj => ?_]; rfl
        have hj' : j < (bitsN set W.length).length := by simpa using hj
        rw [ringI_nat hj', ringI_getD (by simpa using hj'), hpos hj']
        have hz := (hN _).1 (natD_mem hj')
        exact decide_eq_false (by have := (h1 _ (Nat.zero_le _) (by omega) hz.2).2.2.2; omega)
      · unfold moreF
        have hm := (hN x).2 ⟨by omega, hs⟩
        obtain ⟨j, hj, e⟩ := List.getElem_of_mem hm
        have e2 : (bitsN set W.length).getD j 0 = x := by simp [List.getD_eq_getElem?_getD, hj, e]
        refine anyTo_some (k := j) (by simpa using hj) (decide_eq_true ?_)
        rw [ringI_nat hj, ringI_getD (by simpa using hj), hpos hj, e2]
        exact hlt

/-! ### What Rounds gives, layer by layer -/
def gN (got : List Int) (x : Nat) : Nat := (got.getD x 0).toNat
structure Wit (W : List (List Int)) (got : List Int) (t : Nat → Nat) : Prop where
  len : got.length = W.length
  inr : ∀ x, x < W.length → got.getD x 0 = (gN got x : Nat) ∧ gN got x < W.length
  lay : ∀ x, x < W.length → t (gN got x) = t x
  best : ∀ x y, x < W.length → y < W.length → t x ≤ t y → aR W x (gN got x : Nat) ≤ aR W x (y : Nat)
  inj : ∀ x y, x < W.length → y < W.length → gN got x = gN got y → x = y
theorem aR_of {W : List (List Int)} (hW : mayE W = 0) {x i : Nat} (hx : x < W.length) (hi : i < (W.getD x []).length) : aR W x ((W.getD x []).getD i 0) = i := by
  unfold aR placeF
  have ho := mayE_row hW hx
  rw [firstI_stop (p := fun j => decide ((W.getD x []).getD j 0 = (W.getD x []).getD i 0)) (k := i) (firstI_of fun j hj => decide_eq_false fun e => by
    have := some_inj (ord_some ho).2 (show j < (W.getD x []).length by omega) hi e
    omega) (decide_eq_true rfl) hi]
theorem aR_at {W : List (List Int)} (hW : mayE W = 0) {x v : Nat} (hx : x < W.length) (hv : v < W.length) : ∃ i : Nat, i < (W.getD x []).length ∧ (W.getD x []).getD i 0 = (v : Int) ∧ aR W x (v : Nat) = i := by
  obtain ⟨i, hi, e⟩ := ord_has (mayE_row hW hx) hv
  exact ⟨i, hi, e, by rw [← e]; exact aR_of hW hx hi⟩
theorem aR_inj {W : List (List Int)} (hW : mayE W = 0) {x u v : Nat} (hx : x < W.length) (hu : u < W.length) (hv : v < W.length) (e : aR W x (u : Nat) = aR W x (v : Nat)) : u = v := by
  obtain ⟨i, hi, e1, e2⟩ := aR_at hW hx hu
  obtain ⟨j, hj, e3, e4⟩ := aR_at hW hx hv
  rw [e2, e4] at e
  have : i = j := by omega
  subst this
  omega
theorem best_min {W : List (List Int)} (hW : mayE W = 0) {gone : List Bool} {x y : Nat} (hx : x < W.length) (hy : y < W.length) (hg : gone.getD y false = false) : aR W x (bestF (W.getD x []) gone) ≤ aR W x (y : Nat) := by
  obtain ⟨j, hj, e1, e2⟩ := aR_at hW hx hy
  cases hb : bestI (W.getD x []) gone with
  | none =>
    have := firstI_none hb j hj
    rw [e1, Int.toNat_natCast, hg] at this
    cases this
  | some i =>
    have h2 := firstI_spec hb
    rw [bestF_of hb, aR_of hW hx h2.1, e2]
    rcases Nat.lt_or_ge j i with h3 | h3
    · have := h2.2.2 j h3
      rw [e1, Int.toNat_natCast, hg] at this
      cases this
    · omega
structure Inv (W : List (List Int)) (gone : List Bool) (got : List Int) (t : Nat → Nat) (T : Nat) : Prop where
  star : RStar W gone got
  lt : ∀ x, x < W.length → gone.getD x false = true → t x < T
  inr : ∀ x, x < W.length → gone.getD x false = true → got.getD x 0 = (gN got x : Nat) ∧ gN got x < W.length ∧ gone.getD (gN got x) false = true ∧ t (gN got x) = t x
  best : ∀ x y, x < W.length → gone.getD x false = true → y < W.length → (gone.getD y false = false ∨ t x ≤ t y) → aR W x (gN got x : Nat) ≤ aR W x (y : Nat)
  inj : ∀ x y, x < W.length → gone.getD x false = true → y < W.length → gone.getD y false = true → gN got x = gN got y → x = y
theorem Inv.next {W : List (List Int)} (hW : mayE W = 0) {gone : List Bool} {got : List Int} {t : Nat → Nat} {T : Nat} (h : Inv W gone got t T) (hl : 0 < leftN W.length gone) :
    ∃ gone' got' t' T', Inv W gone' got' t' T' ∧ leftN W.length gone' < leftN W.length gone := by
  have hfg : ∀ x, x < W.length → gone.getD x false = false → fR W gone x < W.length ∧ gone.getD (fR W gone x) false = false := fun x hx hg => ⟨(fR_good hW hx hg).1, (fR_good hW hx hg).2.1⟩
  let N := cycN (fR W gone) W.length gone W.length
  have hcc := cyc_close hfg
  have hpos : 0 < N.length := cycN_pos hfg hl
  have hNin : ∀ x, x ∈ N → x < W.length ∧ gone.getD x false = false := fun x hx => ⟨(cyc_iff.1 (cycN_mem.1 hx)).1, (cyc_iff.1 (cycN_mem.1 hx)).2.1⟩
  have hNf : ∀ x, x ∈ N → fR W gone x ∈ N := fun x hx => cycN_mem.2 (hcc.1 x (cycN_mem.1 hx))
  have hNi : ∀ x y, x ∈ N → y ∈ N → fR W gone x = fR W gone y → x = y := fun x y hx hy => hcc.2 x y (cycN_mem.1 hx) (cycN_mem.1 hy)
  have hs : ∀ x, sel N N.length x = true ↔ x ∈ N := fun x => sel_all
  have hgo : ∀ x, x < W.length → ((goneTo W.length gone (sel N N.length)).getD x false = true ↔ gone.getD x false = true ∨ x ∈ N) := fun x hx => by rw [goneTo_at hx, Bool.or_eq_true, hs]
  have hgf : ∀ x, x < W.length → ((goneTo W.length gone (sel N N.length)).getD x false = false ↔ gone.getD x false = false ∧ x ∉ N) := fun x hx => by
    rw [← Bool.not_eq_true, hgo x hx, not_or, Bool.not_eq_true]
  have hgt : ∀ x, x < W.length → (gotTo W gone got (sel N N.length)).getD x 0 = if x ∈ N then bestF (W.getD x []) gone else got.getD x 0 := fun x hx => by
    unfold gotTo
    rw [mapr_getD _ hx]
    by_cases e : x ∈ N
    · rw [if_pos ((hs x).2 e), if_pos e]
    · rw [if_neg (fun c => e ((hs x).1 c)), if_neg e]
  have hgN1 : ∀ x, x ∈ N → gN (gotTo W gone got (sel N N.length)) x = fR W gone x := fun x hx => by unfold gN fR; rw [hgt x (hNin x hx).1, if_pos hx]
  have hgN2 : ∀ x, x < W.length → x ∉ N → gN (gotTo W gone got (sel N N.length)) x = gN got x := fun x hx hn => by unfold gN; rw [hgt x hx, if_neg hn]
  have hno : ∀ x, gone.getD x false = true → x ∉ N := fun x hg hN => by rw [(hNin x hN).2] at hg; cases hg
  refine ⟨goneTo W.length gone (sel N N.length), gotTo W gone got (sel N N.length), fun x => if x ∈ N then T else t x, T + 1, ⟨h.star.ringN hW hpos hNin hNf hNi, fun x hx hg => ?_, fun x hx hg => ?_, fun x y hx hg hy hc => ?_, fun x y hx hg hy hg2 e => ?_⟩, left_lessN hpos hNin⟩
  · try dsimp only
    by_cases e : x ∈ N
    · rw [if_pos e]; omega
    · rw [if_neg e]
      have := h.lt x hx (((hgo x hx).1 hg).resolve_right e)
      omega
  · try dsimp only
    by_cases e : x ∈ N
    · rw [hgN1 x e, hgt x hx, if_pos e, if_pos (hNf x e), if_pos e]
      have h1 := fR_good hW hx (hNin x e).2
      exact ⟨h1.2.2, h1.1, (hgo _ h1.1).2 (.inr (hNf x e)), rfl⟩
    · have hgx := ((hgo x hx).1 hg).resolve_right e
      have h1 := h.inr x hx hgx
      have h2 := hno _ h1.2.2.1
      rw [hgN2 x hx e, hgt x hx, if_neg e, if_neg h2, if_neg e]
      exact ⟨h1.1, h1.2.1, (hgo _ h1.2.1).2 (.inl h1.2.2.1), h1.2.2.2⟩
  · try dsimp only at hc
    have hyg : ∀ {z : Nat}, z < W.length → (goneTo W.length gone (sel N N.length)).getD z false = false → gone.getD z false = false := fun hz hh => ((hgf _ hz).1 hh).1
    by_cases e : x ∈ N
    · rw [hgN1 x e, ← (fR_good hW hx (hNin x e).2).2.2]
      refine best_min hW hx hy ?_
      rcases hc with hc | hc
      · exact hyg hy hc
      · rw [if_pos e] at hc
        by_cases ey : y ∈ N
        · exact (hNin y ey).2
        · rw [if_neg ey] at hc
          cases hg2 : gone.getD y false with
          | false => rfl
          | true => have := h.lt y hy hg2; omega
    · have hgx := ((hgo x hx).1 hg).resolve_right e
      rw [hgN2 x hx e]
      refine h.best x y hx hgx hy ?_
      rcases hc with hc | hc
      · exact .inl (hyg hy hc)
      · rw [if_neg e] at hc
        by_cases ey : y ∈ N
        · exact .inl (hNin y ey).2
        · rw [if_neg ey] at hc; exact .inr hc
  · by_cases e1 : x ∈ N <;> by_cases e2 : y ∈ N
    · rw [hgN1 x e1, hgN1 y e2] at e; exact hNi x y e1 e2 e
    · exfalso
      have hgy := ((hgo y hy).1 hg2).resolve_right e2
      rw [hgN1 x e1, hgN2 y hy e2] at e
      exact hno _ (h.inr y hy hgy).2.2.1 (e ▸ hNf x e1)
    · exfalso
      have hgx := ((hgo x hx).1 hg).resolve_right e1
      rw [hgN2 x hx e1, hgN1 y e2] at e
      exact hno _ (h.inr x hx hgx).2.2.1 (e ▸ hNf y e2)
    · rw [hgN2 x hx e1, hgN2 y hy e2] at e
      exact h.inj x y hx (((hgo x hx).1 hg).resolve_right e1) hy (((hgo y hy).1 hg2).resolve_right e2) e
theorem inv_end {W : List (List Int)} (hW : mayE W = 0) : ∀ (k : Nat) (gone : List Bool) (got : List Int) (t : Nat → Nat) (T : Nat), leftN W.length gone ≤ k → Inv W gone got t T → ∃ gone' got' t' T', Inv W gone' got' t' T' ∧ leftN W.length gone' = 0
  | 0, gone, got, t, T, hk, h => ⟨gone, got, t, T, h, by omega⟩
  | k + 1, gone, got, t, T, hk, h => by
    rcases Nat.eq_zero_or_pos (leftN W.length gone) with h0 | h0
    · exact ⟨gone, got, t, T, h, h0⟩
    · obtain ⟨g1, g2, t1, T1, h1, h2⟩ := h.next hW h0
      exact inv_end hW k g1 g2 t1 T1 (by omega) h1
theorem rep_false {n x : Nat} : (List.replicate n false).getD x false = false := by
  simp only [List.getD_eq_getElem?_getD, List.getElem?_replicate]
  split <;> rfl
theorem rounds_wit {W : List (List Int)} (hW : mayE W = 0) : ∃ t, Wit W (roundsF W) t := by
  obtain ⟨gone, got, t, T, h, h0⟩ := inv_end hW W.length (List.replicate W.length false) (List.replicate W.length 0) (fun _ => 0) 0 (leftN_le _ _) ⟨RStar.start W, (fun x _ hg => by rw [rep_false] at hg; cases hg), (fun x _ hg => by rw [rep_false] at hg; cases hg), (fun x y _ hg => by rw [rep_false] at hg; cases hg), (fun x y _ hg => by rw [rep_false] at hg; cases hg)⟩
  have hall := leftN_zero.1 h0
  have e := h.star.done hall
  refine ⟨t, e ▸ ⟨h.star.2.1, fun x hx => ⟨(h.inr x hx (hall x hx)).1, (h.inr x hx (hall x hx)).2.1⟩, fun x hx => (h.inr x hx (hall x hx)).2.2.2, fun x y hx hy ht => h.best x y hx (hall x hx) hy (.inr ht), fun x y hx hy => h.inj x y hx (hall x hx) hy (hall y hy)⟩⟩
/-- Within a layer's part, what maps it into itself maps it onto itself. -/
theorem Wit.onto {W : List (List Int)} {got : List Int} {t : Nat → Nat} (h : Wit W got t) {p : Nat → Bool} (hn : ∀ x, p x = true → x < W.length) (hf : ∀ x, p x = true → p (gN got x) = true) {y : Nat} (hy : p y = true) : ∃ x, p x = true ∧ gN got x = y :=
  onto_of hn hf (fun x z hx hz e => h.inj x z (hn x hx) (hn z hz) e) hy
theorem least_nat {p : Nat → Prop} (f : Nat → Nat) (h : ∃ x, p x) : ∃ x, p x ∧ ∀ y, p y → f x ≤ f y := by
  have key : ∀ k, (∃ x, p x ∧ f x ≤ k) → ∃ x, p x ∧ ∀ y, p y → f x ≤ f y := by
    intro k
    induction k with
    | zero => rintro ⟨x, hx, h0⟩; exact ⟨x, hx, fun y _ => by omega⟩
    | succ k ih =>
      rintro ⟨x, hx, h0⟩
      by_cases hex : ∃ y, p y ∧ f y ≤ k
      · exact ih hex
      · exact ⟨x, hx, fun y hy => by
          rcases Nat.lt_or_ge (f y) (k + 1) with h1 | h1
          · exact absurd ⟨y, hy, by omega⟩ hex
          · omega⟩
  obtain ⟨x, hx⟩ := h
  exact key (f x) ⟨x, hx, Nat.le_refl _⟩
/-- Nobody can do better. -/
theorem wit_core {W : List (List Int)} (hW : mayE W = 0) {got : List Int} {t : Nat → Nat} (h : Wit W got t) (set : Nat) : blkB W got set = false := by
  rw [← Bool.not_eq_true, blkB_iff]
  rintro ⟨q, ⟨h1, h2⟩, x0, _, hx0, hs0, hlt0⟩
  have hq : ∀ x, x < W.length → set.testBit x = true → q x < W.length ∧ set.testBit (q x) = true ∧ aR W x (q x : Nat) ≤ aR W x (gN got x : Nat) := fun x hx hs => by
    have := h1 x (Nat.zero_le _) (by omega) hs
    rw [(h.inr x hx).1] at this
    exact ⟨this.1, this.2.1, this.2.2.2⟩
  have hqi : ∀ x y, x < W.length → set.testBit x = true → y < W.length → set.testBit y = true → q x = q y → x = y := fun x y hx hs hy hs2 => h2 x y (Nat.zero_le _) (by omega) hs (Nat.zero_le _) (by omega) hs2
  obtain ⟨x, ⟨hx, hs, hne⟩, hmin⟩ := least_nat (p := fun x => x < W.length ∧ set.testBit x = true ∧ q x ≠ gN got x) t ⟨x0, by omega, hs0, fun e => by
    rw [(h.inr x0 (by omega)).1, e] at hlt0; omega⟩
  have hqx := hq x hx hs
  have hstrict : aR W x (q x : Nat) < aR W x (gN got x : Nat) := by
    rcases Int.lt_or_eq_of_le hqx.2.2 with h3 | h3
    · exact h3
    · exact absurd (aR_inj hW hx hqx.1 (h.inr x hx).2 h3) hne
  have ht : t (q x) < t x := by
    rcases Nat.lt_or_ge (t (q x)) (t x) with h3 | h3
    · exact h3
    · have := h.best x (q x) hx hqx.1 h3; omega
  have hsame : ∀ z, z < W.length → set.testBit z = true → t z < t x → q z = gN got z := fun z hz hsz htz => by
    apply Classical.byContradiction
    intro hc
    have := hmin z ⟨hz, hsz, hc⟩
    omega
  obtain ⟨z, hz, e⟩ := onto_of (n := W.length) (p := fun z => decide (z < W.length ∧ set.testBit z = true ∧ t z = t (q x))) (f := q) (fun z hz => by simp at hz; exact hz.1) (fun z hz => by
      simp only [decide_eq_true_eq] at hz ⊢
      have h3 := hq z hz.1 hz.2.1
      refine ⟨h3.1, h3.2.1, ?_⟩
      rw [hsame z hz.1 hz.2.1 (by omega), h.lay z hz.1]; exact hz.2.2) (fun a b ha hb => by
      simp only [decide_eq_true_eq] at ha hb
      exact hqi a b ha.1 ha.2.1 hb.1 hb.2.1) (y := q x) (decide_eq_true ⟨hqx.1, hqx.2.1, rfl⟩)
  simp only [decide_eq_true_eq] at hz
  have := hqi z x hz.1 hz.2.1 hx hs e
  subst this
  omega
def setOf (p : Nat → Bool) : Nat → Nat
  | 0 => 0
  | n + 1 => setOf p n ||| (if p n then 2 ^ n else 0)
theorem setOf_bit (p : Nat → Bool) : ∀ (n x : Nat), (setOf p n).testBit x = (decide (x < n) && p x)
  | 0, x => by simp [setOf]
  | n + 1, x => by
    simp only [setOf]
    rw [Nat.testBit_or, setOf_bit p n x]
    have e : (if p n = true then 2 ^ n else 0).testBit x = (p n && decide (n = x)) := by
      cases p n
      · simp
      · simp [Nat.testBit_two_pow]
    rw [e]
    rcases Nat.lt_trichotomy x n with h | h | h
    · simp [h, show x < n + 1 by omega, show ¬ n = x by omega]
    · subst h; simp
    · simp [show ¬ x < n by omega, show ¬ x < n + 1 by omega, show ¬ n = x by omega]
theorem setOf_lt (p : Nat → Bool) : ∀ n, setOf p n < 2 ^ n
  | 0 => by simp [setOf]
  | n + 1 => by
    simp only [setOf]
    refine Nat.or_lt_two_pow (Nat.lt_trans (setOf_lt p n) (Nat.pow_lt_pow_right (by omega) (by omega))) ?_
    split
    · exact Nat.pow_lt_pow_right (by omega) (by omega)
    · exact Nat.pow_pos (by omega)
theorem ord_perm {n : Nat} {c : List Int} (hc : ordE n c = 0) : c.length = n ∧ (∀ x, x < n → c.getD x 0 = (gN c x : Nat) ∧ gN c x < n) ∧ ∀ x y, x < n → y < n → gN c x = gN c y → x = y := by
  have h1 := ord_some hc
  have hl : c.length = n := by omega
  have h2 : ∀ x, x < n → c.getD x 0 = (gN c x : Nat) ∧ gN c x < n := fun x hx => by
    have := someE_in h1.2 (show x < c.length by omega)
    unfold gN; omega
  exact ⟨hl, h2, fun x y hx hy e => some_inj h1.2 (by omega) (by omega) (by rw [(h2 x hx).1, (h2 y hy).1, e])⟩
/-- Whatever else is an order is blocked by somebody. -/
theorem wit_only {W : List (List Int)} (hW : mayE W = 0) {got c : List Int} {t : Nat → Nat} (h : Wit W got t) (hc : ordE W.length c = 0) (hne : c ≠ got) : ∃ set, 1 ≤ set ∧ set < 2 ^ W.length ∧ blkB W c set = true := by
  obtain ⟨hcl, hcr, hci⟩ := ord_perm hc
  have hex : ∃ x, x < W.length ∧ gN c x ≠ gN got x := by
    apply Classical.byContradiction
    intro hno
    refine hne (list_ext (d := 0) (by rw [hcl, h.len]) fun k hk => ?_)
    rw [(hcr k (by omega)).1, (h.inr k (by omega)).1]
    have : gN c k = gN got k := Classical.byContradiction fun hk2 => hno ⟨k, by omega, hk2⟩
    rw [this]
  obtain ⟨x, ⟨hx, hxn⟩, hmin⟩ := least_nat (p := fun x => x < W.length ∧ gN c x ≠ gN got x) t hex
  have hsame : ∀ z, z < W.length → t z < t x → gN c z = gN got z := fun z hz ht => Classical.byContradiction fun hk2 => by have := hmin z ⟨hz, hk2⟩; omega
  let p : Nat → Bool := fun z => decide (t z = t x)
  have hb : ∀ z, (setOf p W.length).testBit z = true ↔ z < W.length ∧ t z = t x := fun z => by rw [setOf_bit]; simp [p]
  refine ⟨setOf p W.length, ?_, setOf_lt _ _, blkB_iff.2 ⟨gN got, ⟨fun z _ hz hs => ?_, fun z y _ hz hs _ hy hs2 e => h.inj z y ((hb z).1 hs).1 ((hb y).1 hs2).1 e⟩, x, Nat.zero_le _, by omega, (hb x).2 ⟨hx, rfl⟩, ?_⟩⟩
  · rcases Nat.eq_zero_or_pos (setOf p W.length) with h0 | h0
    · have := (hb x).2 ⟨hx, rfl⟩
      rw [h0] at this; simp at this
    · exact h0
  all_goals
    have key : ∀ z, z < W.length → t z = t x → aR W z (gN got z : Nat) ≤ aR W z (gN c z : Nat) := fun z hz ht => by
      refine h.best z (gN c z) hz (hcr z hz).2 ?_
      rcases Nat.lt_or_ge (t (gN c z)) (t z) with h1 | h1
      · exfalso
        obtain ⟨u, hu, e⟩ := h.onto (p := fun u => decide (u < W.length ∧ t u = t (gN c z))) (fun u hu => by simp at hu; exact hu.1) (fun u hu => by
          simp only [decide_eq_true_eq] at hu ⊢
          exact ⟨(h.inr u hu.1).2, by rw [h.lay u hu.1]; exact hu.2⟩) (y := gN c z) (decide_eq_true ⟨(hcr z hz).2, rfl⟩)
        simp only [decide_eq_true_eq] at hu
        have h3 := hci u z hu.1 hz (by rw [hsame u hu.1 (by omega), e])
        subst h3
        omega
      · exact h1
  · have hz2 := (hb z).1 hs
    refine ⟨(h.inr z hz2.1).2, (hb _).2 ⟨(h.inr z hz2.1).2, by rw [h.lay z hz2.1]; exact hz2.2⟩, by simp, ?_⟩
    rw [(hcr z hz2.1).1]
    exact key z hz2.1 hz2.2
  · rw [(hcr x hx).1]
    rcases Int.lt_or_eq_of_le (key x hx rfl) with h1 | h1
    · exact h1
    · exact absurd (aR_inj hW hx (h.inr x hx).2 (hcr x hx).2 h1).symm hxn
/-- Nobody gets something better by telling other wishes. -/
theorem wit_honest {W V : List (List Int)} (hW : mayE W = 0) {got b : List Int} {t s : Nat → Nat} (h : Wit W got t) (h' : Wit V b s) (hlen : V.length = W.length) {k : Nat} (hk : k < W.length) (hrow : ∀ x, x ≠ k → V.getD x [] = W.getD x []) :
    aR W k (gN got k : Nat) ≤ aR W k (gN b k : Nat) := by
  have hb2 : ∀ x, x < W.length → gN b x < W.length := fun x hx => by have := (h'.inr x (by omega)).2; omega
  have early : ∀ x, x < W.length → t x < t k → gN b x = gN got x := by
    apply Classical.byContradiction
    intro hno
    have hex : ∃ x, x < W.length ∧ t x < t k ∧ gN b x ≠ gN got x := by
      apply Classical.byContradiction
      intro h2
      exact hno fun x hx ht => Classical.byContradiction fun h3 => h2 ⟨x, hx, ht, h3⟩
    obtain ⟨x1, ⟨hx1, ht1, hn1⟩, hmin1⟩ := least_nat (p := fun x => x < W.length ∧ t x < t k ∧ gN b x ≠ gN got x) t hex
    obtain ⟨x, ⟨⟨hx, ht, hn⟩, hxt⟩, hmin⟩ := least_nat (p := fun x => (x < W.length ∧ t x < t k ∧ gN b x ≠ gN got x) ∧ t x = t x1) s ⟨x1, ⟨hx1, ht1, hn1⟩, rfl⟩
    have hlow : ∀ z, z < W.length → t z < t x → gN b z = gN got z := fun z hz htz => Classical.byContradiction fun h2 => by have := hmin1 z ⟨hz, by omega, h2⟩; omega
    have hlow2 : ∀ z, z < W.length → t z = t x → s z < s x → gN b z = gN got z := fun z hz htz hsz => Classical.byContradiction fun h2 => by have := hmin z ⟨⟨hz, by omega, h2⟩, by omega⟩; omega
    have htb : t x ≤ t (gN b x) := by
      rcases Nat.lt_or_ge (t (gN b x)) (t x) with h1 | h1
      · exfalso
        obtain ⟨u, hu, e⟩ := h.onto (p := fun u => decide (u < W.length ∧ t u = t (gN b x))) (fun u hu => by simp at hu; exact hu.1) (fun u hu => by
          simp only [decide_eq_true_eq] at hu ⊢
          exact ⟨(h.inr u hu.1).2, by rw [h.lay u hu.1]; exact hu.2⟩) (y := gN b x) (decide_eq_true ⟨hb2 x hx, rfl⟩)
        simp only [decide_eq_true_eq] at hu
        have h3 := h'.inj u x (by omega) (by omega) (by rw [hlow u hu.1 (by omega), e])
        subst h3
        omega
      · exact h1
    have hxk : x ≠ k := fun e => by rw [e] at ht; omega
    have hle1 := h.best x (gN b x) hx (hb2 x hx) htb
    have hlt : s (gN got x) < s x := by
      rcases Nat.lt_or_ge (s (gN got x)) (s x) with h1 | h1
      · exact h1
      · exfalso
        have hle2 := h'.best x (gN got x) (by omega) (by have := (h.inr x hx).2; omega) h1
        have e1 : ∀ v : Int, aR V x v = aR W x v := fun v => by unfold aR; rw [hrow x hxk]
        rw [e1, e1] at hle2
        exact hn (aR_inj hW hx (hb2 x hx) (h.inr x hx).2 (by omega))
    have hgx := (h.inr x hx).2
    obtain ⟨u, hu, e⟩ := h.onto (p := fun u => decide (u < W.length ∧ t u = t x ∧ s u = s (gN got x))) (fun u hu => by simp at hu; exact hu.1) (fun u hu => by
      simp only [decide_eq_true_eq] at hu ⊢
      refine ⟨(h.inr u hu.1).2, by rw [h.lay u hu.1]; exact hu.2.1, ?_⟩
      rw [← hlow2 u hu.1 hu.2.1 (by omega), h'.lay u (by omega)]; exact hu.2.2) (y := gN got x) (decide_eq_true ⟨hgx, h.lay x hx, rfl⟩)
    simp only [decide_eq_true_eq] at hu
    have h3 := h.inj u x hu.1 hx e
    subst h3
    omega
  refine h.best k (gN b k) hk (hb2 k hk) ?_
  rcases Nat.lt_or_ge (t (gN b k)) (t k) with h1 | h1
  · exfalso
    obtain ⟨u, hu, e⟩ := h.onto (p := fun u => decide (u < W.length ∧ t u = t (gN b k))) (fun u hu => by simp at hu; exact hu.1) (fun u hu => by
      simp only [decide_eq_true_eq] at hu ⊢
      exact ⟨(h.inr u hu.1).2, by rw [h.lay u hu.1]; exact hu.2⟩) (y := gN b k) (decide_eq_true ⟨hb2 k hk, rfl⟩)
    simp only [decide_eq_true_eq] at hu
    have h3 := h'.inj u k (by omega) (by omega) (by rw [early u hu.1 (by omega), e])
    subst h3
    omega
  · exact h1

theorem Pick_fc (c n : Int) (hn : 1 ≤ n) : FC Try.prog 19 [.i c, .i n] (.i (pickF c n)) := by
  refine FC.intro Try.func19 rfl (Nat.le_of_ble_eq_true rfl) fun hfit => ?_
  have fit0 : -9223372036854775808 ≤ (c : Int) ∧ (c : Int) ≤ 9223372036854775807 := (hfit _ (.head _)).int64
  have fit1 : -9223372036854775808 ≤ (n : Int) ∧ (n : Int) ≤ 9223372036854775807 := (hfit _ (.tail _ (.head _))).int64
  refine awp_seq ?_
  refine awp_region rfl (.n (fun _ => op_assign (.plain rfl)) (.nil _)) ?_
  refine awp_seq ?_
  refine awp_seq ?_
  refine awp_region rfl (.n (fun _ => op_move (.plain rfl)) (.n (fun _ => op_lss (.plain rfl) (.plain rfl)) (.nil _))) ?_
  refine awp_cond rfl (fun h => ?_) (fun h => ?_)
  · try simp only [decide_eq_true_eq, decide_eq_false_iff_not, Bool.and_eq_true, Bool.or_eq_true, Bool.and_eq_false_iff, Bool.or_eq_false_iff, Bool.not_eq_true', Bool.not_eq_false', Bool.not_eq_true, Bool.not_eq_false, Bool.true_eq_false, Bool.false_eq_true] at h
    refine awp_region rfl (.n (fun _ => op_move (.plain rfl)) (.n (fun _ => op_add (.plain rfl) (.plain rfl) ?_) (.n (fun _ => op_neg (.plain rfl) ?_) (.n (fun _ => op_assign (.plain rfl)) (.nil _))))) ?_
    · unfold InR; omega
    · unfold InR; omega
    refine awp_seq ?_
    refine awp_region rfl (.n (fun _ => op_move (.plain rfl)) (.n (fun _ => op_move (.plain rfl)) (.n (fun _ => op_rem (.plain rfl) (.plain rfl) ?_) (.n (fun _ => op_assign (.plain rfl)) (.nil _))))) ?_
    · omega
    refine awp_ret ?_
    refine retQ.ret ?_
    refine ret1 rfl rfl rfl ?_
    unfold pickF; rw [if_pos h]
  · try simp only [decide_eq_true_eq, decide_eq_false_iff_not, Bool.and_eq_true, Bool.or_eq_true, Bool.and_eq_false_iff, Bool.or_eq_false_iff, Bool.not_eq_true', Bool.not_eq_false', Bool.not_eq_true, Bool.not_eq_false, Bool.true_eq_false, Bool.false_eq_true] at h
    refine awp_skip ?_
    refine awp_seq ?_
    refine awp_region rfl (.n (fun _ => op_move (.plain rfl)) (.n (fun _ => op_move (.plain rfl)) (.n (fun _ => op_rem (.plain rfl) (.plain rfl) ?_) (.n (fun _ => op_assign (.plain rfl)) (.nil _))))) ?_
    · omega
    refine awp_ret ?_
    refine retQ.ret ?_
    refine ret1 rfl rfl rfl ?_
    unfold pickF; rw [if_neg h]

theorem At_fc (raw : List Int) (k : Nat) : FC Try.prog 41 [.ints raw, .i (k : Nat)] (.i (atF raw k)) := by
  refine FC.intro Try.func41 rfl (Nat.le_of_ble_eq_true rfl) fun hfit => ?_
  obtain ⟨fitl0, fitr0⟩ := (hfit _ (.head _)).ints
  have fit1 : -9223372036854775808 ≤ ((k : Nat) : Int) ∧ ((k : Nat) : Int) ≤ 9223372036854775807 := (hfit _ (.tail _ (.head _))).int64
  refine awp_seq ?_
  refine awp_region rfl (.n (fun _ => op_assign (.plain rfl)) (.nil _)) ?_
  refine awp_seq ?_
  refine awp_seq ?_
  refine awp_region rfl (.n (fun _ => op_move (.plain rfl)) (.n (fun _ => op_len (s := 0) Try.underlying23 (.plain rfl)) (.n (fun _ => op_eql (.plain rfl) (.plain rfl)) (.nil _)))) ?_
  refine awp_cond rfl (fun h => ?_) (fun h => ?_)
  · try simp only [decide_eq_true_eq, decide_eq_false_iff_not, Bool.and_eq_true, Bool.or_eq_true, Bool.and_eq_false_iff, Bool.or_eq_false_iff, Bool.not_eq_true', Bool.not_eq_false', Bool.not_eq_true, Bool.not_eq_false, Bool.true_eq_false, Bool.false_eq_true] at h
    refine awp_seq ?_
    refine awp_region rfl (.n (fun _ => op_assign (.plain rfl)) (.nil _)) ?_
    refine awp_ret ?_
    refine retQ.ret ?_
    refine ret1 rfl rfl rfl ?_
    unfold atF; rw [if_pos (by omega)]
  · try simp only [decide_eq_true_eq, decide_eq_false_iff_not, Bool.and_eq_true, Bool.or_eq_true, Bool.and_eq_false_iff, Bool.or_eq_false_iff, Bool.not_eq_true', Bool.not_eq_false', Bool.not_eq_true, Bool.not_eq_false, Bool.true_eq_false, Bool.false_eq_true] at h
    refine awp_skip ?_
    refine awp_seq ?_
    refine awp_region rfl (.n (fun _ => op_move (.plain rfl)) (.n (fun _ => op_move (.plain rfl)) (.n (fun _ => op_move (.plain rfl)) (.n (fun _ => op_len (s := 0) Try.underlying23 (.plain rfl)) (.n (fun _ => op_rem (.plain rfl) (.plain rfl) ?_) (.n (fun _ => op_indexAddr Try.underlying23 Try.sizeOf3 (.plain rfl) (.plain rfl) (fun _ => rfl) ?_) (.n (fun _ => op_load Try.isAgg3 (.plain rfl)) (.n (fun _ => op_assign (.plain rfl)) (.nil _))))))))) ?_
    · omega
    · exact ⟨Int.emod_nonneg _ (by omega), Int.emod_lt_of_pos _ (by omega)⟩
    refine awp_ret ?_
    refine retQ.ret ?_
    refine ret1 rfl rfl rfl ?_
    unfold atF; rw [if_neg (by omega), ← Int.natCast_emod, Int.toNat_natCast]

theorem upTo_fc (n : Nat) (hn : n ≤ 1000000) : FC Try.prog 40 [.i (n : Nat)] (.ints (upF n)) := by
  refine FC.intro Try.func40 rfl (Nat.le_of_ble_eq_true rfl) fun hfit => ?_
  have fit0 : -9223372036854775808 ≤ ((n : Nat) : Int) ∧ ((n : Nat) : Int) ≤ 9223372036854775807 := (hfit _ (.head _)).int64
  refine awp_seq ?_
  refine awp_region rfl (.n (fun _ => op_assign (.plain rfl)) (.nil _)) ?_
  refine awp_seq ?_
  refine awp_region rfl (.n (fun _ => op_assign (.plain rfl)) (.nil _)) ?_
  refine awp_seq ?_
  refine awp_seq ?_
  refine awp_region rfl (.n (fun _ => op_assign (.plain rfl)) (.nil _)) ?_
  refine awp_block ?_
  refine awp_ent (Ent.begin 3 1003 3 1 Int 0 (fun n => [.int .i64 n]) rfl rfl rfl) ?_
  refine awp_loop (σ := Nat) (fun (k : Nat) => k ≤ n) (fun (k : Nat) => ⟨[(3, .own 1003), (4, .int (k : Nat)), (0, .pv (.i (n : Nat)))], [(1003, .arr 3 1 Int 0 (fun n => [.int .i64 n]) (upF k))]⟩) (fun (k : Nat) => n - k) 0 ?_ (Ent.kept ⟨rfl, rfl, rfl, trivial⟩ ⟨rfl, trivial⟩) ?_
  · simp
  rintro k hp
  try dsimp only at hp
  refine awp_seq ?_
  refine awp_seq ?_
  refine awp_region rfl (.n (fun _ => op_move (.plain rfl)) (.n (fun _ => op_move (.plain rfl)) (.n (fun _ => op_lss (.plain rfl) (.plain rfl)) (.nil _)))) ?_
  refine awp_cond rfl (fun h => ?_) (fun h => ?_)
  · try simp only [decide_eq_true_eq, decide_eq_false_iff_not, Bool.and_eq_true, Bool.or_eq_true, Bool.and_eq_false_iff, Bool.or_eq_false_iff, Bool.not_eq_true', Bool.not_eq_false', Bool.not_eq_true, Bool.not_eq_false, Bool.true_eq_false, Bool.false_eq_true] at h
    refine awp_skip ?_
    refine awp_seq ?_
    refine awp_block ?_
    refine awp_region rfl (.n (fun _ => op_move (.plain rfl)) (.n (fun _ => op_move (.plain rfl)) (.n (fun _ => op_slit (pp := [(0, _)]) (α := Int) (d := 0) (f := (fun n => [.int .i64 n])) [_] ety23 rfl ⟨rfl, (.plain rfl), (by simp), trivial⟩ rfl (by decide) rfl) (.e (op_append (id' := 13) (α := Int) (d := 0) (f := (fun n => [.int .i64 n])) ety23 Try.underlying23 (fun _ => rfl) (fun _ => rfl) (.plain rfl) rfl (.plain rfl) rfl ?_) rfl (.n (fun _ => op_assign (.plain rfl)) (.nil _)))))) ?_
    · first | omega | (simp; omega)
    refine awp_region rfl (.n (fun _ => op_move (.plain rfl)) (.n (fun _ => op_add (.plain rfl) (.plain rfl) ?_) (.n (fun _ => op_assign (.plain rfl)) (.nil _)))) ?_
    · unfold InR; omega
    exact ⟨k + 1, by omega, by dsimp only; omega, (Ent.round 13 1003 ⟨rfl, rfl, rfl, trivial⟩ ⟨(by rw [upF_succ]; rfl), trivial⟩ rfl rfl rfl ⟨rfl, rfl, rfl, trivial⟩ ⟨rfl, trivial⟩)⟩
  · try simp only [decide_eq_true_eq, decide_eq_false_iff_not, Bool.and_eq_true, Bool.or_eq_true, Bool.and_eq_false_iff, Bool.or_eq_false_iff, Bool.not_eq_true', Bool.not_eq_false', Bool.not_eq_true, Bool.not_eq_false, Bool.true_eq_false, Bool.false_eq_true] at h
    refine awp_exit ?_
    refine awp_seq ?_
    refine awp_region rfl (.n (fun _ => op_move (.plain rfl)) (.n (fun _ => op_assign (.plain rfl)) (.nil _))) ?_
    refine awp_ret ?_
    refine retQ.ret ?_
    refine ret1 rfl rfl rfl ?_
    obtain rfl : k = n := by omega
    rfl

set_option maxRecDepth 1000000 in
set_option maxHeartbeats 2000000 in
theorem Perm_fc (raw : List Int) (fr n : Nat) (hn : n ≤ 1000) (hfr : fr ≤ 1000000) : FC Try.prog 21 [.ints raw, .i (fr : Nat), .i (n : Nat)] (.ints (permOf raw fr n)) := by
  refine FC.intro Try.func21 rfl (Nat.le_of_ble_eq_true rfl) fun hfit => ?_
  obtain ⟨fitl0, fitr0⟩ := (hfit _ (.head _)).ints
  have fit1 : -9223372036854775808 ≤ ((fr : Nat) : Int) ∧ ((fr : Nat) : Int) ≤ 9223372036854775807 := (hfit _ (.tail _ (.head _))).int64
  have fit2 : -9223372036854775808 ≤ ((n : Nat) : Int) ∧ ((n : Nat) : Int) ≤ 9223372036854775807 := (hfit _ (.tail _ (.tail _ (.head _)))).int64
  refine awp_seq ?_
  refine awp_region rfl (.n (fun _ => op_assign (.plain rfl)) (.nil _)) ?_
  refine awp_seq ?_
  refine awp_region rfl (.n (fun _ => op_move (.plain rfl)) (.n (fun _ => op_call1 Try.call40 (.plain rfl) (upTo_fc _ ?_)) (.n (fun _ => op_assign (.plain rfl)) (.nil _)))) ?_
  · omega
  refine awp_seq ?_
  refine awp_region rfl (.n (fun _ => op_assign (.plain rfl)) (.nil _)) ?_
  refine awp_seq ?_
  refine awp_seq ?_
  refine awp_region rfl (.n (fun _ => op_assign (.plain rfl)) (.nil _)) ?_
  refine awp_block ?_
  refine awp_ent (Ent.begin 8 1008 3 1 Int 0 (fun n => [.int .i64 n]) rfl rfl rfl) ?_
  refine awp_loop (σ := Nat) (fun (k : Nat) => k ≤ n) (fun (k : Nat) => ⟨[(0, .pv (.ints raw)), (1, .pv (.i (fr : Nat))), (2, .pv (.i (n : Nat))), (7, .pv (.ints (pS raw fr n k).1)), (8, .own 1008), (9, .int (k : Nat))], [(1008, .arr 3 1 Int 0 (fun n => [.int .i64 n]) (pS raw fr n k).2)]⟩) (fun (k : Nat) => n - k) 0 ?_ (Ent.kept ⟨rfl, rfl, rfl, rfl, rfl, rfl, trivial⟩ ⟨rfl, trivial⟩) ?_
  · simp
  rintro k hp
  try dsimp only at hp
  refine awp_seq ?_
  refine awp_seq ?_
  refine awp_region rfl (.n (fun _ => op_move (.plain rfl)) (.n (fun _ => op_move (.plain rfl)) (.n (fun _ => op_lss (.plain rfl) (.plain rfl)) (.nil _)))) ?_
  refine awp_cond rfl (fun h => ?_) (fun h => ?_)
  · try simp only [decide_eq_true_eq, decide_eq_false_iff_not, Bool.and_eq_true, Bool.or_eq_true, Bool.and_eq_false_iff, Bool.or_eq_false_iff, Bool.not_eq_true', Bool.not_eq_false', Bool.not_eq_true, Bool.not_eq_false, Bool.true_eq_false, Bool.false_eq_true] at h
    have hS := pS_len raw fr n k (by omega)
    have hpk := pickN_lt (raw := raw) (k := fr + k) (len := (pS raw fr n k).1.length) (by omega)
    refine awp_skip ?_
    refine awp_seq ?_
    refine awp_block ?_
    refine awp_seq ?_
    refine awp_region rfl (.n (fun _ => op_move (.plain rfl)) (.n (fun _ => op_move (.plain rfl)) (.n (fun _ => op_move (.plain rfl)) (.n (fun _ => op_add (.plain rfl) (.plain rfl) ?_) (.n (fun _ => op_call2 Try.call41 (.plain rfl) (.plain rfl) (At_fc raw (fr + k))) (.n (fun _ => op_move (.plain rfl)) (.n (fun _ => op_len (s := 0) Try.underlying23 (.plain rfl)) (.n (fun _ => op_call2 Try.call19 (.plain rfl) (.plain rfl) (Pick_fc _ _ ?_)) (.n (fun _ => op_assign (.plain rfl)) (.nil _)))))))))) ?_
    · unfold InR; omega
    · omega
    refine awp_seq ?_
    refine awp_region rfl (.n (fun _ => op_move (.plain rfl)) (.n (fun _ => op_move (.plain rfl)) (.n (fun _ => op_move (.plain rfl)) (.n (fun _ => op_indexAddr Try.underlying23 Try.sizeOf3 (.plain rfl) (.plain rfl) (fun _ => rfl) ?_) (.n (fun _ => op_load Try.isAgg3 (.plain rfl)) (.n (fun _ => op_slit (pp := [(0, _)]) (α := Int) (d := 0) (f := (fun n => [.int .i64 n])) [_] ety23 rfl ⟨rfl, (.plain rfl), (by simp), trivial⟩ rfl (by decide) rfl) (.e (op_append (id' := 32) (α := Int) (d := 0) (f := (fun n => [.int .i64 n])) ety23 Try.underlying23 (fun _ => rfl) (fun _ => rfl) (.plain rfl) rfl (.plain rfl) rfl ?_) rfl (.n (fun _ => op_assign (.plain rfl)) (.nil _))))))))) ?_
    · omega
    · simp; omega
    refine awp_region_draw mixed rfl (.e (op_slitO (pp := []) (α := Int) (d := 0) (f := (fun n => [.int .i64 n])) 33 [] ety23 rfl trivial rfl (by decide) rfl (fun _ => rfl) rfl) rfl (.n (fun _ => op_move (.plain rfl)) (.n (fun _ => op_move (.plain rfl)) (.n (fun _ => op_sliceI (kl := .i64) Try.underlying23 Try.sizeOf3 (fun _ => rfl) (.plain rfl) rfl (.plain rfl) ?_) (.e (op_append (id' := 37) (α := Int) (d := 0) (f := (fun n => [.int .i64 n])) ety23 Try.underlying23 (fun _ => rfl) (fun _ => rfl) (.plain rfl) rfl (.plain rfl) rfl ?_) rfl (.n (fun _ => op_move (.plain rfl)) (.n (fun _ => op_move (.plain rfl)) (.n (fun _ => op_add (.plain rfl) (.plain rfl) ?_) (.n (fun _ => op_sliceI (kh := .i64) Try.underlying23 Try.sizeOf3 (fun _ => rfl) (.plain rfl) (.plain rfl) rfl ?_) (.e (op_append (id' := 42) (α := Int) (d := 0) (f := (fun n => [.int .i64 n])) ety23 Try.underlying23 (fun _ => rfl) (fun _ => rfl) (.plain rfl) rfl (.plain rfl) rfl ?_) rfl (.n (fun _ => op_assign (.plain rfl)) (.nil _)))))))))))) ?d1 ?_
    · omega
    · simp; omega
    · unfold InR; omega
    · omega
    · simp; omega
    · kernel_rfl
    refine awp_ent (Ent.give 7 rfl rfl) ?_
    refine awp_region rfl (.n (fun _ => op_move (.plain rfl)) (.n (fun _ => op_add (.plain rfl) (.plain rfl) ?_) (.n (fun _ => op_assign (.plain rfl)) (.nil _)))) ?_
    · unfold InR; omega
    exact ⟨k + 1, by omega, by dsimp only; omega, (Ent.round 32 1008 ⟨rfl, rfl, rfl, (congrArg (fun l => some (SV.pv (.ints l))) (rest_eqI (by omega))), rfl, rfl, trivial⟩ ⟨(congrArg (fun l => some (Blk.arr 3 1 Int 0 (fun n => [.int .i64 n]) l)) (rfl)), trivial⟩ rfl rfl rfl ⟨rfl, rfl, rfl, rfl, rfl, rfl, trivial⟩ ⟨rfl, trivial⟩)⟩
  · try simp only [decide_eq_true_eq, decide_eq_false_iff_not, Bool.and_eq_true, Bool.or_eq_true, Bool.and_eq_false_iff, Bool.or_eq_false_iff, Bool.not_eq_true', Bool.not_eq_false', Bool.not_eq_true, Bool.not_eq_false, Bool.true_eq_false, Bool.false_eq_true] at h
    refine awp_exit ?_
    refine awp_seq ?_
    refine awp_region rfl (.n (fun _ => op_move (.plain rfl)) (.n (fun _ => op_assign (.plain rfl)) (.nil _))) ?_
    refine awp_ret ?_
    refine retQ.ret ?_
    refine ret1 rfl rfl rfl ?_
    obtain rfl : k = n := by omega
    rfl


theorem firstE_all {f : Nat → Int} : ∀ {n : Nat}, (∀ j, j < n → f j = 0) → firstE f n = 0
  | 0, _ => rfl
  | n + 1, h => firstE_succ (firstE_all fun j hj => h j (by omega)) (h n (by omega))
theorem mayE_of {W : List (List Int)} (h6 : W.length ≤ 6) (h : ∀ i, i < W.length → ordE W.length (W.getD i []) = 0) : mayE W = 0 := by
  unfold mayE; rw [if_neg (by omega)]; exact firstE_all h
def wishF (raw : List Int) (n : Nat) : List (List Int) := mapr n fun i => permOf raw (i * n) n
@[simp] theorem wishF_length (raw : List Int) (n : Nat) : (wishF raw n).length = n := by simp [wishF]
theorem wishF_may {raw : List Int} {n : Nat} (h : n ≤ 6) : mayE (wishF raw n) = 0 := mayE_of (by simpa using h) fun i hi => by
  have hi' : i < n := by simpa using hi
  rw [show (wishF raw n).getD i [] = permOf raw (i * n) n from mapr_getD _ hi', wishF_length]
  exact permOf_ord _ _ _
theorem roundsF_len {W : List (List Int)} (hW : mayE W = 0) : (roundsF W).length = W.length := by
  obtain ⟨t, h⟩ := rounds_wit hW; exact h.len
theorem wit_ord {W : List (List Int)} {got : List Int} {t : Nat → Nat} (h : Wit W got t) : ordE W.length got = 0 := by
  have hp : got.Perm (upF W.length) := by
    have e : got = ringI ((List.range W.length).map (gN got)) := by
      refine list_ext (d := 0) (by simp [h.len]) fun k hk => ?_
      rw [(h.inr k (by rw [← h.len]; exact hk)).1, ringI_getD (by simpa [h.len] using hk)]
      simp [List.getD_eq_getElem?_getD, show k < W.length by rw [← h.len]; exact hk]
    rw [e]
    have e2 : upF W.length = ringI (List.range W.length) := rfl
    rw [e2]
    refine ring_perm (perm_of (nodup_map_on List.nodup_range fun x y hx hy => h.inj x y (List.mem_range.1 hx) (List.mem_range.1 hy)) List.nodup_range (fun x hx => ?_) (by simp))
    obtain ⟨y, hy, rfl⟩ := List.mem_map.1 hx
    exact List.mem_range.2 (h.inr y (List.mem_range.1 hy)).2
  exact ordE_perm hp
theorem rounds_ord {W : List (List Int)} (hW : mayE W = 0) : ordE W.length (roundsF W) = 0 := by
  obtain ⟨t, h⟩ := rounds_wit hW; exact wit_ord h
theorem core_rounds {W : List (List Int)} (hW : mayE W = 0) : coreS (blkB W (roundsF W)) W.length = 0 := by
  obtain ⟨t, h⟩ := rounds_wit hW
  exact coreS_none fun s _ _ => wit_core hW h s
theorem core_only {W : List (List Int)} (hW : mayE W = 0) {c : List Int} (hc : ordE W.length c = 0) : decide (coreS (blkB W c) W.length = 0) = decide (roundsF W = c) := by
  by_cases e : roundsF W = c
  · rw [decide_eq_true e, ← e, core_rounds hW]; rfl
  · rw [decide_eq_false e]
    obtain ⟨t, h⟩ := rounds_wit hW
    obtain ⟨s, h1, h2, h3⟩ := wit_only hW h hc fun e2 => e e2.symm
    refine decide_eq_false fun h0 => ?_
    unfold coreS at h0
    cases hf : firstI (fun s => blkB W c (s + 1)) (2 ^ W.length - 1) with
    | some s => rw [hf] at h0; simp at h0
    | none =>
      have := firstI_none hf (s - 1) (by omega)
      simp only [show s - 1 + 1 = s by omega, h3] at this
      cases this
theorem set_getD {α : Type} {d : α} {l : List α} {k j : Nat} {v : α} (h : j ≠ k) : (l.set k v).getD j d = l.getD j d := by
  simp [List.getD_eq_getElem?_getD, List.getElem?_set, show ¬ k = j from fun e => h e.symm]
theorem honest_law {W : List (List Int)} (hW : mayE W = 0) {k : Nat} (hk : k < W.length) {v : List Int} (hv : ordE W.length v = 0) : mayE (W.set k v) = 0 ∧
    aR W k ((roundsF W).getD k 0) ≤ aR W k ((roundsF (W.set k v)).getD k 0) := by
  have hV : mayE (W.set k v) = 0 := mayE_of (by simpa using mayE_len hW) fun i hi => by
    rw [List.length_set]
    by_cases e : i = k
    · subst e; rw [getD_set_self hk]; exact hv
    · rw [set_getD e]; exact mayE_row hW (by simpa using hi)
  obtain ⟨t, h⟩ := rounds_wit hW
  obtain ⟨s, h'⟩ := rounds_wit hV
  have := wit_honest hW h h' (by simp) hk fun x hx => set_getD hx
  rw [← (h.inr k hk).1, ← (h'.inr k (by simpa using hk)).1] at this
  exact ⟨hV, this⟩
theorem Rounds_ok (W : List (List Int)) (hW : mayE W = 0) : FC Try.prog 11 [.rows W] (.tup [.ints (roundsF W), .i 0]) := by
  have := Rounds_fc W
  rwa [if_pos hW, hW] at this
theorem Core_ok (W : List (List Int)) (c : List Int) (hW : mayE W = 0) (hc : ordE W.length c = 0) : FC Try.prog 17 [.rows W, .ints c] (.tup [.bool (decide (coreS (blkB W c) W.length = 0)), .i (coreS (blkB W c) W.length : Nat), .i 0]) := by
  have := Core_fc W c
  have hE : turnsE W c = 0 := by unfold turnsE; rw [if_neg (fun h => h hW), hc]
  rw [if_pos hE, hE] at this
  simpa using this

theorem Wishes_fc (raw : List Int) (n : Nat) (hn : n ≤ 6) : FC Try.prog 20 [.ints raw, .i (n : Nat)] (.rows (wishF raw n)) := by
  refine FC.intro Try.func20 rfl (Nat.le_of_ble_eq_true rfl) fun hfit => ?_
  obtain ⟨fitl0, fitr0⟩ := (hfit _ (.head _)).ints
  have fit1 : -9223372036854775808 ≤ ((n : Nat) : Int) ∧ ((n : Nat) : Int) ≤ 9223372036854775807 := (hfit _ (.tail _ (.head _))).int64
  refine awp_seq ?_
  refine awp_region rfl (.n (fun _ => op_assign (.plain rfl)) (.nil _)) ?_
  refine awp_seq ?_
  refine awp_region rfl (.n (fun _ => op_assign (.plain rfl)) (.nil _)) ?_
  refine awp_seq ?_
  refine awp_seq ?_
  refine awp_region rfl (.n (fun _ => op_assign (.plain rfl)) (.nil _)) ?_
  refine awp_block ?_
  refine awp_ent (Ent.begin 5 1005 23 1 (List Int) [] (fun r => [.seq Int 0 (fun n => [.int .i64 n]) r]) rfl rfl rfl) ?_
  refine awp_loop (σ := Nat) (fun (i : Nat) => i ≤ n) (fun (i : Nat) => ⟨[(0, .pv (.ints raw)), (1, .pv (.i (n : Nat))), (5, .own 1005), (6, .int (i : Nat))], [(1005, .arr 23 1 (List Int) [] (fun r => [.seq Int 0 (fun n => [.int .i64 n]) r]) (mapr i fun i => permOf raw (i * n) n))]⟩) (fun (i : Nat) => n - i) 0 ?_ (Ent.kept ⟨rfl, rfl, rfl, rfl, trivial⟩ ⟨rfl, trivial⟩) ?_
  · simp
  rintro i hp
  try dsimp only at hp
  refine awp_seq ?_
  refine awp_seq ?_
  refine awp_region rfl (.n (fun _ => op_move (.plain rfl)) (.n (fun _ => op_move (.plain rfl)) (.n (fun _ => op_lss (.plain rfl) (.plain rfl)) (.nil _)))) ?_
  refine awp_cond rfl (fun h => ?_) (fun h => ?_)
  · try simp only [decide_eq_true_eq, decide_eq_false_iff_not, Bool.and_eq_true, Bool.or_eq_true, Bool.and_eq_false_iff, Bool.or_eq_false_iff, Bool.not_eq_true', Bool.not_eq_false', Bool.not_eq_true, Bool.not_eq_false, Bool.true_eq_false, Bool.false_eq_true] at h
    have h8 : i * n ≤ 6 * 6 := Nat.mul_le_mul (by omega) hn
    refine awp_skip ?_
    refine awp_seq ?_
    refine awp_block ?_
    refine awp_seq ?_
    refine awp_region rfl (.n (fun _ => op_move (.plain rfl)) (.n (fun _ => op_move (.plain rfl)) (.n (fun _ => op_move (.plain rfl)) (.n (fun _ => op_mul (.plain rfl) (.plain rfl) ?_) (.n (fun _ => op_move (.plain rfl)) (.n (fun _ => op_call3 Try.call21 (.plain rfl) (.plain rfl) (.plain rfl) (Perm_fc raw (i * n) n ?_ ?_)) (.n (fun _ => op_assign (.plain rfl)) (.nil _)))))))) ?_
    · have h9 : ((i : Nat) : Int) * (n : Nat) = ((i * n : Nat) : Int) := by simp
      unfold InR; omega
    · omega
    · omega
    refine awp_region rfl (.n (fun _ => op_move (.plain rfl)) (.n (fun _ => op_move (.plain rfl)) (.n (fun _ => op_slit (pp := [(0, _)]) (α := (List Int)) (d := []) (f := (fun r => [.seq Int 0 (fun n => [.int .i64 n]) r])) [_] ety22 rfl ⟨rfl, (.plain rfl), (by simp), trivial⟩ rfl (by decide) rfl) (.e (op_append (id' := 22) (α := (List Int)) (d := []) (f := (fun r => [.seq Int 0 (fun n => [.int .i64 n]) r])) ety22 Try.underlying22 (fun _ => rfl) (fun _ => rfl) (.plain rfl) rfl (.plain rfl) rfl ?_) rfl (.n (fun _ => op_assign (.plain rfl)) (.nil _)))))) ?_
    · simp; omega
    refine awp_region rfl (.n (fun _ => op_move (.plain rfl)) (.n (fun _ => op_add (.plain rfl) (.plain rfl) ?_) (.n (fun _ => op_assign (.plain rfl)) (.nil _)))) ?_
    · unfold InR; omega
    exact ⟨i + 1, by omega, by dsimp only; omega, (Ent.round 22 1005 ⟨rfl, rfl, rfl, rfl, trivial⟩ ⟨(congrArg (fun l => some (Blk.arr 23 1 (List Int) [] (fun r => [.seq Int 0 (fun n => [.int .i64 n]) r]) l)) ((mapr_succ _ _).symm)), trivial⟩ rfl rfl rfl ⟨rfl, rfl, rfl, rfl, trivial⟩ ⟨rfl, trivial⟩)⟩
  · try simp only [decide_eq_true_eq, decide_eq_false_iff_not, Bool.and_eq_true, Bool.or_eq_true, Bool.and_eq_false_iff, Bool.or_eq_false_iff, Bool.not_eq_true', Bool.not_eq_false', Bool.not_eq_true, Bool.not_eq_false, Bool.true_eq_false, Bool.false_eq_true] at h
    refine awp_exit ?_
    refine awp_seq ?_
    refine awp_region rfl (.n (fun _ => op_move (.plain rfl)) (.n (fun _ => op_assign (.plain rfl)) (.nil _))) ?_
    refine awp_ret ?_
    refine retQ.ret ?_
    refine ret1 rfl rfl rfl ?_
    obtain rfl : i = n := by omega
    rfl

theorem same_fc (a b : List Int) : FC Try.prog 22 [.ints a, .ints b] (.bool (decide (a = b))) := by
  refine FC.intro Try.func22 rfl (Nat.le_of_ble_eq_true rfl) fun hfit => ?_
  obtain ⟨fitl0, fitr0⟩ := (hfit _ (.head _)).ints
  obtain ⟨fitl1, fitr1⟩ := (hfit _ (.tail _ (.head _))).ints
  refine awp_seq ?_
  refine awp_region rfl (.n (fun _ => op_assign (.plain rfl)) (.nil _)) ?_
  refine awp_seq ?_
  refine awp_seq ?_
  refine awp_region rfl (.n (fun _ => op_move (.plain rfl)) (.n (fun _ => op_len (s := 0) Try.underlying23 (.plain rfl)) (.n (fun _ => op_move (.plain rfl)) (.n (fun _ => op_len (s := 0) Try.underlying23 (.plain rfl)) (.n (fun _ => op_neq (.plain rfl) (.plain rfl)) (.nil _)))))) ?_
  refine awp_cond rfl (fun h => ?_) (fun h => ?_)
  · try simp only [decide_eq_true_eq, decide_eq_false_iff_not, Bool.and_eq_true, Bool.or_eq_true, Bool.and_eq_false_iff, Bool.or_eq_false_iff, Bool.not_eq_true', Bool.not_eq_false', Bool.not_eq_true, Bool.not_eq_false, Bool.true_eq_false, Bool.false_eq_true] at h
    refine awp_seq ?_
    refine awp_region rfl (.n (fun _ => op_assign (.plain rfl)) (.nil _)) ?_
    refine awp_ret ?_
    refine retQ.ret ?_
    refine ret1 rfl rfl rfl ?_
    rw [decide_eq_false (fun e => by subst e; simp at h)]
  · try simp only [decide_eq_true_eq, decide_eq_false_iff_not, Bool.and_eq_true, Bool.or_eq_true, Bool.and_eq_false_iff, Bool.or_eq_false_iff, Bool.not_eq_true', Bool.not_eq_false', Bool.not_eq_true, Bool.not_eq_false, Bool.true_eq_false, Bool.false_eq_true] at h
    refine awp_skip ?_
    refine awp_seq ?_
    refine awp_seq ?_
    refine awp_region rfl (.n (fun _ => op_assign (.plain rfl)) (.nil _)) ?_
    refine awp_block ?_
    refine awp_loop (σ := Nat) (fun (k : Nat) => k ≤ a.length ∧ ∀ j, j < k → a.getD j 0 = b.getD j 0) (fun (k : Nat) => ⟨[(5, .int (k : Nat)), (0, .pv (.ints a)), (1, .pv (.ints b))], []⟩) (fun (k : Nat) => a.length - k) 0 ?_ (Ent.kept ⟨rfl, rfl, rfl, trivial⟩ trivial) ?_
    · simp
    rintro k hp
    try dsimp only at hp
    obtain ⟨hk, hj⟩ := hp
    have hlen : a.length = b.length := by omega
    refine awp_seq ?_
    refine awp_seq ?_
    refine awp_region rfl (.n (fun _ => op_move (.plain rfl)) (.n (fun _ => op_move (.plain rfl)) (.n (fun _ => op_len (s := 0) Try.underlying23 (.plain rfl)) (.n (fun _ => op_lss (.plain rfl) (.plain rfl)) (.nil _))))) ?_
    refine awp_cond rfl (fun h => ?_) (fun h => ?_)
    · try simp only [decide_eq_true_eq, decide_eq_false_iff_not, Bool.and_eq_true, Bool.or_eq_true, Bool.and_eq_false_iff, Bool.or_eq_false_iff, Bool.not_eq_true', Bool.not_eq_false', Bool.not_eq_true, Bool.not_eq_false, Bool.true_eq_false, Bool.false_eq_true] at h
      refine awp_skip ?_
      refine awp_seq ?_
      refine awp_block ?_
      refine awp_seq ?_
      refine awp_region_draw mixed rfl (.n (fun _ => op_move (.plain rfl)) (.n (fun _ => op_move (.plain rfl)) (.n (fun _ => op_indexAddrN Try.underlying23 Try.sizeOf3 (.plain rfl) (.plain rfl) (fun _ => rfl) ?_) (.n (fun _ => op_load Try.isAgg3 (.plain rfl)) (.n (fun _ => op_move (.plain rfl)) (.n (fun _ => op_move (.plain rfl)) (.n (fun _ => op_indexAddrN Try.underlying23 Try.sizeOf3 (.plain rfl) (.plain rfl) (fun _ => rfl) ?_) (.n (fun _ => op_load Try.isAgg3 (.plain rfl)) (.n (fun _ => op_neq (.plain rfl) (.plain rfl)) (.nil _)))))))))) ?d2 ?_
      · omega
      · omega
      · kernel_rfl
      refine awp_cond rfl (fun h => ?_) (fun h => ?_)
      · try simp only [decide_eq_true_eq, decide_eq_false_iff_not, Bool.and_eq_true, Bool.or_eq_true, Bool.and_eq_false_iff, Bool.or_eq_false_iff, Bool.not_eq_true', Bool.not_eq_false', Bool.not_eq_true, Bool.not_eq_false, Bool.true_eq_false, Bool.false_eq_true] at h
        refine awp_seq ?_
        refine awp_region rfl (.n (fun _ => op_assign (.plain rfl)) (.nil _)) ?_
        refine awp_ret ?_
        refine retQ.ret ?_
        refine ret1 rfl rfl rfl ?_
        rw [decide_eq_false (fun e => by subst e; simp at h)]
      · try simp only [decide_eq_true_eq, decide_eq_false_iff_not, Bool.and_eq_true, Bool.or_eq_true, Bool.and_eq_false_iff, Bool.or_eq_false_iff, Bool.not_eq_true', Bool.not_eq_false', Bool.not_eq_true, Bool.not_eq_false, Bool.true_eq_false, Bool.false_eq_true] at h
        refine awp_skip ?_
        refine awp_region rfl (.n (fun _ => op_move (.plain rfl)) (.n (fun _ => op_add (.plain rfl) (.plain rfl) ?_) (.n (fun _ => op_assign (.plain rfl)) (.nil _)))) ?_
        · unfold InR; omega
        refine ⟨k + 1, ⟨by omega, fun j hjk => ?_⟩, by dsimp only; omega, Ent.kept ⟨rfl, rfl, rfl, trivial⟩ trivial⟩
        by_cases e : j = k
        · subst e; simpa using h
        · exact hj j (by omega)
    · try simp only [decide_eq_true_eq, decide_eq_false_iff_not, Bool.and_eq_true, Bool.or_eq_true, Bool.and_eq_false_iff, Bool.or_eq_false_iff, Bool.not_eq_true', Bool.not_eq_false', Bool.not_eq_true, Bool.not_eq_false, Bool.true_eq_false, Bool.false_eq_true] at h
      refine awp_exit ?_
      refine awp_seq ?_
      refine awp_region rfl (.n (fun _ => op_assign (.plain rfl)) (.nil _)) ?_
      refine awp_ret ?_
      refine retQ.ret ?_
      refine ret1 rfl rfl rfl ?_
      rw [decide_eq_true (List.ext_getElem hlen fun j h1 h2 => by have := hj j (by omega); simpa [List.getD_eq_getElem?_getD, h1, h2] using this)]

set_option maxRecDepth 1000000 in
set_option maxHeartbeats 2000000 in
theorem TradeSays_fc (W : List (List Int)) (turn got : List Int) : FC Try.prog 4 [.rows W, .ints turn, .ints got] (.bool true) := by
  refine FC.intro Try.func4 rfl (Nat.le_of_ble_eq_true rfl) fun hfit => ?_
  obtain ⟨fitl0, fitr0⟩ := (hfit _ (.head _)).rows
  obtain ⟨fitl1, fitr1⟩ := (hfit _ (.tail _ (.head _))).ints
  obtain ⟨fitl2, fitr2⟩ := (hfit _ (.tail _ (.tail _ (.head _)))).ints
  refine awp_seq ?_
  refine awp_region rfl (.n (fun _ => op_assign (.plain rfl)) (.nil _)) ?_
  refine awp_seq ?_
  refine awp_seq ?_
  refine awp_region rfl (.n (fun _ => op_move (.plain rfl)) (.n (fun _ => op_call1 Try.call7 (.plain rfl) (heavy_fc _)) (.n (fun _ => op_move (.plain rfl)) (.gn rfl rfl (fun hg _ => op_move (.plain rfl)) (.gn rfl rfl (fun hg _ => op_len (s := 0) Try.underlying23 (.opt rfl fun h => h)) (.gn rfl rfl (fun hg _ => op_move (.plain rfl)) (.gn rfl rfl (fun hg _ => op_len (s := 0) Try.underlying23 (.opt rfl fun h => h)) (.gn rfl rfl (fun hg _ => op_add (.opt rfl fun h => h) (.opt rfl fun h => h) ?_) (.gn rfl rfl (fun hg _ => op_gtr (.opt rfl fun h => h) (.plain rfl)) (.n (fun _ => op_or (.plain rfl) (.plain rfl) (.plain rfl) (fun h => eqF h)) (.n (fun _ => op_move (.plain rfl)) (.gn rfl rfl (fun hg _ => op_move (.plain rfl)) (.gn rfl rfl (fun hg _ => op_len (s := 0) Try.underlying22 (.opt rfl fun h => h)) (.gn rfl rfl (fun hg _ => op_gtr (.opt rfl fun h => h) (.plain rfl)) (.gn rfl rfl (fun hg _ => op_move (.opt rfl fun h => h)) (.ggn rfl rfl (fun hg _ => op_move (.plain rfl)) (.ggn rfl rfl (fun hg _ => op_len (s := 0) Try.underlying22 (.opt rfl fun h => h)) (.ggn rfl rfl (fun hg _ => op_lss (.opt rfl fun h => h) (.plain rfl)) (.gn rfl rfl (fun hg _ => op_and (.opt rfl fun h => h) (.plain rfl) (.plain rfl) (fun h => andI hg (eqT h))) (.n (fun _ => op_or (.plain rfl) (.plain rfl) (.plain rfl) (fun h => eqF h)) (.nil _))))))))))))))))))))) ?_
  · try simp only [beq_iff_eq, beq_true, beq_false, Bool.and_eq_true, decide_eq_true_eq, decide_eq_false_iff_not, Bool.not_eq_true', Bool.or_eq_true, Bool.or_eq_false_iff] at hg
    unfold InR; omega
  refine awp_cond rfl (fun h => ?_) (fun h => ?_)
  · try simp only [decide_eq_true_eq, decide_eq_false_iff_not, Bool.and_eq_true, Bool.or_eq_true, Bool.and_eq_false_iff, Bool.or_eq_false_iff, Bool.not_eq_true', Bool.not_eq_false', Bool.not_eq_true, Bool.not_eq_false, Bool.true_eq_false, Bool.false_eq_true] at h
    refine awp_seq ?_
    refine awp_region rfl (.n (fun _ => op_assign (.plain rfl)) (.nil _)) ?_
    refine awp_ret ?_
    refine retQ.ret ?_
    refine ret1 rfl rfl rfl ?_
    rfl
  · try simp only [decide_eq_true_eq, decide_eq_false_iff_not, Bool.and_eq_true, Bool.or_eq_true, Bool.and_eq_false_iff, Bool.or_eq_false_iff, Bool.not_eq_true', Bool.not_eq_false', Bool.not_eq_true, Bool.not_eq_false, Bool.true_eq_false, Bool.false_eq_true] at h
    refine awp_skip ?_
    refine awp_seq ?_
    refine awp_region rfl (.n (fun _ => op_move (.plain rfl)) (.n (fun _ => op_call1 Try.call11 (.plain rfl) (Rounds_fc _)) (.n (fun _ => op_move (.plain rfl)) (.n (fun _ => op_extract (.plain rfl) rfl) (.n (fun _ => op_extract (.plain rfl) rfl) (.n (fun _ => op_assign (.plain rfl)) (.n (fun _ => op_assign (.plain rfl)) (.nil _)))))))) ?_
    refine awp_seq ?_
    refine awp_region rfl (.n (fun _ => op_move (.plain rfl)) (.n (fun _ => op_call1 Try.call12 (.plain rfl) (RRounds_fc _)) (.n (fun _ => op_move (.plain rfl)) (.n (fun _ => op_extract (.plain rfl) rfl) (.n (fun _ => op_extract (.plain rfl) rfl) (.n (fun _ => op_assign (.plain rfl)) (.n (fun _ => op_assign (.plain rfl)) (.nil _)))))))) ?_
    refine awp_seq ?_
    refine awp_seq ?_
    refine awp_region rfl (.n (fun _ => op_move (.plain rfl)) (.n (fun _ => op_call1 Try.call13 (.plain rfl) (May_fc _)) (.n (fun _ => op_move (.plain rfl)) (.n (fun _ => op_call1 Try.call14 (.plain rfl) (TradeMay_fc _)) (.n (fun _ => op_neq (.plain rfl) (.plain rfl)) (.n (fun _ => op_move (.plain rfl)) (.gn rfl rfl (fun hg _ => op_move (.plain rfl)) (.gn rfl rfl (fun hg _ => op_move (.plain rfl)) (.gn rfl rfl (fun hg _ => op_neq (.opt rfl fun h => h) (.opt rfl fun h => h)) (.n (fun _ => op_or (.plain rfl) (.plain rfl) (.plain rfl) (fun h => eqF h)) (.n (fun _ => op_move (.plain rfl)) (.gn rfl rfl (fun hg _ => op_move (.plain rfl)) (.gn rfl rfl (fun hg _ => op_move (.plain rfl)) (.gn rfl rfl (fun hg _ => op_call2 Try.call10 (.opt rfl fun h => h) (.opt rfl fun h => h) (sameInts_fc _ _)) (.gn rfl rfl (fun hg _ => op_not (.opt rfl fun h => h)) (.n (fun _ => op_or (.plain rfl) (.plain rfl) (.plain rfl) (fun h => eqF h)) (.nil _))))))))))))))))) ?_
    refine awp_cond rfl (fun h => ?_) (fun h => ?_)
    · try simp only [decide_eq_true_eq, decide_eq_false_iff_not, Bool.and_eq_true, Bool.or_eq_true, Bool.and_eq_false_iff, Bool.or_eq_false_iff, Bool.not_eq_true', Bool.not_eq_false', Bool.not_eq_true, Bool.not_eq_false, Bool.true_eq_false, Bool.false_eq_true] at h
      exfalso
      simp at h
    · try simp only [decide_eq_true_eq, decide_eq_false_iff_not, Bool.and_eq_true, Bool.or_eq_true, Bool.and_eq_false_iff, Bool.or_eq_false_iff, Bool.not_eq_true', Bool.not_eq_false', Bool.not_eq_true, Bool.not_eq_false, Bool.true_eq_false, Bool.false_eq_true] at h
      refine awp_skip ?_
      refine awp_seq ?_
      refine awp_region rfl (.n (fun _ => op_move (.plain rfl)) (.n (fun _ => op_move (.plain rfl)) (.n (fun _ => op_call2 Try.call15 (.plain rfl) (.plain rfl) (Turns_fc _ _)) (.n (fun _ => op_move (.plain rfl)) (.n (fun _ => op_extract (.plain rfl) rfl) (.n (fun _ => op_extract (.plain rfl) rfl) (.n (fun _ => op_assign (.plain rfl)) (.n (fun _ => op_assign (.plain rfl)) (.nil _))))))))) ?_
      refine awp_seq ?_
      refine awp_region rfl (.n (fun _ => op_move (.plain rfl)) (.n (fun _ => op_move (.plain rfl)) (.n (fun _ => op_call2 Try.call16 (.plain rfl) (.plain rfl) (RTurns_fc _ _)) (.n (fun _ => op_move (.plain rfl)) (.n (fun _ => op_extract (.plain rfl) rfl) (.n (fun _ => op_extract (.plain rfl) rfl) (.n (fun _ => op_assign (.plain rfl)) (.n (fun _ => op_assign (.plain rfl)) (.nil _))))))))) ?_
      refine awp_seq ?_
      refine awp_seq ?_
      refine awp_region rfl (.n (fun _ => op_move (.plain rfl)) (.n (fun _ => op_move (.plain rfl)) (.n (fun _ => op_neq (.plain rfl) (.plain rfl)) (.n (fun _ => op_move (.plain rfl)) (.gn rfl rfl (fun hg _ => op_move (.plain rfl)) (.gn rfl rfl (fun hg _ => op_move (.plain rfl)) (.gn rfl rfl (fun hg _ => op_call2 Try.call10 (.opt rfl fun h => h) (.opt rfl fun h => h) (sameInts_fc _ _)) (.gn rfl rfl (fun hg _ => op_not (.opt rfl fun h => h)) (.n (fun _ => op_or (.plain rfl) (.plain rfl) (.plain rfl) (fun h => eqF h)) (.nil _)))))))))) ?_
      refine awp_cond rfl (fun h => ?_) (fun h => ?_)
      · try simp only [decide_eq_true_eq, decide_eq_false_iff_not, Bool.and_eq_true, Bool.or_eq_true, Bool.and_eq_false_iff, Bool.or_eq_false_iff, Bool.not_eq_true', Bool.not_eq_false', Bool.not_eq_true, Bool.not_eq_false, Bool.true_eq_false, Bool.false_eq_true] at h
        exfalso
        simp at h
      · try simp only [decide_eq_true_eq, decide_eq_false_iff_not, Bool.and_eq_true, Bool.or_eq_true, Bool.and_eq_false_iff, Bool.or_eq_false_iff, Bool.not_eq_true', Bool.not_eq_false', Bool.not_eq_true, Bool.not_eq_false, Bool.true_eq_false, Bool.false_eq_true] at h
        refine awp_skip ?_
        refine awp_seq ?_
        refine awp_region rfl (.n (fun _ => op_move (.plain rfl)) (.n (fun _ => op_move (.plain rfl)) (.n (fun _ => op_call2 Try.call17 (.plain rfl) (.plain rfl) (Core_fc _ _)) (.n (fun _ => op_move (.plain rfl)) (.n (fun _ => op_extract (.plain rfl) rfl) (.n (fun _ => op_extract (.plain rfl) rfl) (.n (fun _ => op_extract (.plain rfl) rfl) (.n (fun _ => op_assign (.plain rfl)) (.n (fun _ => op_assign (.plain rfl)) (.n (fun _ => op_assign (.plain rfl)) (.nil _))))))))))) ?_
        refine awp_seq ?_
        refine awp_region rfl (.n (fun _ => op_move (.plain rfl)) (.n (fun _ => op_move (.plain rfl)) (.n (fun _ => op_call2 Try.call18 (.plain rfl) (.plain rfl) (RCore_fc _ _)) (.n (fun _ => op_move (.plain rfl)) (.n (fun _ => op_extract (.plain rfl) rfl) (.n (fun _ => op_extract (.plain rfl) rfl) (.n (fun _ => op_extract (.plain rfl) rfl) (.n (fun _ => op_assign (.plain rfl)) (.n (fun _ => op_assign (.plain rfl)) (.n (fun _ => op_assign (.plain rfl)) (.nil _))))))))))) ?_
        refine awp_seq ?_
        refine awp_region rfl (.n (fun _ => op_move (.plain rfl)) (.n (fun _ => op_move (.plain rfl)) (.n (fun _ => op_eqb Try.underlying4 (.plain rfl) (.plain rfl)) (.n (fun _ => op_move (.plain rfl)) (.gn rfl rfl (fun hg _ => op_move (.plain rfl)) (.gn rfl rfl (fun hg _ => op_move (.plain rfl)) (.gn rfl rfl (fun hg _ => op_eql (.opt rfl fun h => h) (.opt rfl fun h => h)) (.n (fun _ => op_and (.plain rfl) (.plain rfl) (.plain rfl) (fun h => eqT h)) (.n (fun _ => op_move (.plain rfl)) (.gn rfl rfl (fun hg _ => op_move (.plain rfl)) (.gn rfl rfl (fun hg _ => op_move (.plain rfl)) (.gn rfl rfl (fun hg _ => op_eql (.opt rfl fun h => h) (.opt rfl fun h => h)) (.n (fun _ => op_and (.plain rfl) (.plain rfl) (.plain rfl) (fun h => eqT h)) (.n (fun _ => op_assign (.plain rfl)) (.nil _))))))))))))))) ?_
        refine awp_ret ?_
        refine retQ.ret ?_
        refine ret1 rfl rfl rfl ?_
        have hrb : refB W got = blkB W got := funext fun _ => ref_blk
        rw [hrb]
        simp

theorem TradeMade_fc (raw : List Int) (n : Int) : FC Try.prog 5 [.ints raw, .i n] (.bool true) := by
  refine FC.intro Try.func5 rfl (Nat.le_of_ble_eq_true rfl) fun hfit => ?_
  obtain ⟨fitl0, fitr0⟩ := (hfit _ (.head _)).ints
  have fit1 : -9223372036854775808 ≤ (n : Int) ∧ (n : Int) ≤ 9223372036854775807 := (hfit _ (.tail _ (.head _))).int64
  refine awp_seq ?_
  refine awp_region rfl (.n (fun _ => op_assign (.plain rfl)) (.nil _)) ?_
  refine awp_seq ?_
  refine awp_seq ?_
  refine awp_region rfl (.n (fun _ => op_move (.plain rfl)) (.n (fun _ => op_len (s := 0) Try.underlying23 (.plain rfl)) (.n (fun _ => op_gtr (.plain rfl) (.plain rfl)) (.nil _)))) ?_
  refine awp_cond rfl (fun h => ?_) (fun h => ?_)
  · try simp only [decide_eq_true_eq, decide_eq_false_iff_not, Bool.and_eq_true, Bool.or_eq_true, Bool.and_eq_false_iff, Bool.or_eq_false_iff, Bool.not_eq_true', Bool.not_eq_false', Bool.not_eq_true, Bool.not_eq_false, Bool.true_eq_false, Bool.false_eq_true] at h
    refine awp_seq ?_
    refine awp_region rfl (.n (fun _ => op_assign (.plain rfl)) (.nil _)) ?_
    refine awp_ret ?_
    refine retQ.ret ?_
    refine ret1 rfl rfl rfl ?_
    rfl
  · try simp only [decide_eq_true_eq, decide_eq_false_iff_not, Bool.and_eq_true, Bool.or_eq_true, Bool.and_eq_false_iff, Bool.or_eq_false_iff, Bool.not_eq_true', Bool.not_eq_false', Bool.not_eq_true, Bool.not_eq_false, Bool.true_eq_false, Bool.false_eq_true] at h
    refine awp_skip ?_
    refine awp_seq ?_
    refine awp_region rfl (.n (fun _ => op_move (.plain rfl)) (.n (fun _ => op_call2 Try.call19 (.plain rfl) (.plain rfl) (Pick_fc _ _ ?_)) (.n (fun _ => op_add (.plain rfl) (.plain rfl) ?_) (.n (fun _ => op_assign (.plain rfl)) (.nil _))))) ?_
    · omega
    · have := pickF_range n 5 (by omega); unfold InR; omega
    refine awp_seq ?_
    obtain ⟨m, hm⟩ : ∃ m : Nat, 1 + pickF n 5 = (m : Nat) := ⟨(1 + pickF n 5).toNat, by have := pickF_range n 5 (by omega); omega⟩
    have hm5 := pickF_range n 5 (by omega)
    rw [hm]
    have hm6 : 1 ≤ m ∧ m ≤ 5 := by omega
    refine awp_region rfl (.n (fun _ => op_move (.plain rfl)) (.n (fun _ => op_move (.plain rfl)) (.n (fun _ => op_call2 Try.call20 (.plain rfl) (.plain rfl) (Wishes_fc raw m ?_)) (.n (fun _ => op_move (.plain rfl)) (.n (fun _ => op_move (.plain rfl)) (.n (fun _ => op_call3 Try.call21 (.plain rfl) (.plain rfl) (.plain rfl) (Perm_fc raw 3 m ?_ ?_)) (.n (fun _ => op_move (.plain rfl)) (.n (fun _ => op_move (.plain rfl)) (.n (fun _ => op_call3 Try.call21 (.plain rfl) (.plain rfl) (.plain rfl) (Perm_fc raw 7 m ?_ ?_)) (.n (fun _ => op_call3 Try.call4 (.plain rfl) (.plain rfl) (.plain rfl) (TradeSays_fc _ _ _)) (.n (fun _ => op_assign (.plain rfl)) (.nil _)))))))))))) ?_
    · omega
    · omega
    · omega
    · omega
    · omega
    refine awp_ret ?_
    refine retQ.ret ?_
    refine ret1 rfl rfl rfl ?_
    rfl

set_option maxRecDepth 1000000 in
set_option maxHeartbeats 4000000 in
theorem TopCore_fc (raw : List Int) (n : Int) (other : List Int) (who : Int) : FC Try.prog 6 [.ints raw, .i n, .ints other, .i who] (.bool true) := by
  refine FC.intro Try.func6 rfl (Nat.le_of_ble_eq_true rfl) fun hfit => ?_
  obtain ⟨fitl0, fitr0⟩ := (hfit _ (.head _)).ints
  have fit1 : -9223372036854775808 ≤ (n : Int) ∧ (n : Int) ≤ 9223372036854775807 := (hfit _ (.tail _ (.head _))).int64
  obtain ⟨fitl2, fitr2⟩ := (hfit _ (.tail _ (.tail _ (.head _)))).ints
  have fit3 : -9223372036854775808 ≤ (who : Int) ∧ (who : Int) ≤ 9223372036854775807 := (hfit _ (.tail _ (.tail _ (.tail _ (.head _))))).int64
  refine awp_seq ?_
  refine awp_region rfl (.n (fun _ => op_assign (.plain rfl)) (.nil _)) ?_
  refine awp_seq ?_
  refine awp_seq ?_
  refine awp_region rfl (.n (fun _ => op_move (.plain rfl)) (.n (fun _ => op_len (s := 0) Try.underlying23 (.plain rfl)) (.n (fun _ => op_move (.plain rfl)) (.n (fun _ => op_len (s := 0) Try.underlying23 (.plain rfl)) (.n (fun _ => op_add (.plain rfl) (.plain rfl) ?_) (.n (fun _ => op_gtr (.plain rfl) (.plain rfl)) (.nil _))))))) ?_
  · unfold InR; omega
  refine awp_cond rfl (fun h => ?_) (fun h => ?_)
  · try simp only [decide_eq_true_eq, decide_eq_false_iff_not, Bool.and_eq_true, Bool.or_eq_true, Bool.and_eq_false_iff, Bool.or_eq_false_iff, Bool.not_eq_true', Bool.not_eq_false', Bool.not_eq_true, Bool.not_eq_false, Bool.true_eq_false, Bool.false_eq_true] at h
    refine awp_seq ?_
    refine awp_region rfl (.n (fun _ => op_assign (.plain rfl)) (.nil _)) ?_
    refine awp_ret ?_
    refine retQ.ret ?_
    refine ret1 rfl rfl rfl ?_
    rfl
  · try simp only [decide_eq_true_eq, decide_eq_false_iff_not, Bool.and_eq_true, Bool.or_eq_true, Bool.and_eq_false_iff, Bool.or_eq_false_iff, Bool.not_eq_true', Bool.not_eq_false', Bool.not_eq_true, Bool.not_eq_false, Bool.true_eq_false, Bool.false_eq_true] at h
    refine awp_skip ?_
    refine awp_seq ?_
    refine awp_region rfl (.n (fun _ => op_move (.plain rfl)) (.n (fun _ => op_call2 Try.call19 (.plain rfl) (.plain rfl) (Pick_fc _ _ ?_)) (.n (fun _ => op_add (.plain rfl) (.plain rfl) ?_) (.n (fun _ => op_assign (.plain rfl)) (.nil _))))) ?_
    · omega
    · have := pickF_range n 5 (by omega); unfold InR; omega
    refine awp_seq ?_
    obtain ⟨m, hm⟩ : ∃ m : Nat, 1 + pickF n 5 = (m : Nat) := ⟨(1 + pickF n 5).toNat, by have := pickF_range n 5 (by omega); omega⟩
    have hm5 := pickF_range n 5 (by omega)
    rw [hm]
    have hm6 : 1 ≤ m ∧ m ≤ 5 := by omega
    have hW := wishF_may (raw := raw) (show m ≤ 6 by omega)
    have hwl := wishF_length raw m
    have hro := rounds_ord hW
    have hrl := roundsF_len hW
    have hcr := core_rounds hW
    have hc0 := permOf_ord other 0 m
    have hco := decide_eq_decide.1 (core_only hW (c := permOf other 0 m) (by rw [hwl]; exact hc0))
    rw [hwl] at hcr hco
    refine awp_region rfl (.n (fun _ => op_move (.plain rfl)) (.n (fun _ => op_move (.plain rfl)) (.n (fun _ => op_call2 Try.call20 (.plain rfl) (.plain rfl) (Wishes_fc raw m ?_)) (.n (fun _ => op_assign (.plain rfl)) (.nil _))))) ?_
    · omega
    refine awp_seq ?_
    refine awp_region rfl (.n (fun _ => op_move (.plain rfl)) (.n (fun _ => op_call1 Try.call11 (.plain rfl) (Rounds_ok _ ?_)) (.n (fun _ => op_move (.plain rfl)) (.n (fun _ => op_extract (.plain rfl) rfl) (.n (fun _ => op_extract (.plain rfl) rfl) (.n (fun _ => op_assign (.plain rfl)) (.n (fun _ => op_assign (.plain rfl)) (.nil _)))))))) ?_
    · exact hW
    refine awp_seq ?_
    refine awp_region rfl (.n (fun _ => op_move (.plain rfl)) (.n (fun _ => op_move (.plain rfl)) (.n (fun _ => op_call2 Try.call17 (.plain rfl) (.plain rfl) (Core_ok _ _ ?_ ?_)) (.n (fun _ => op_move (.plain rfl)) (.n (fun _ => op_extract (.plain rfl) rfl) (.n (fun _ => op_extract (.plain rfl) rfl) (.n (fun _ => op_extract (.plain rfl) rfl) (.n (fun _ => op_assign (.plain rfl)) (.n (fun _ => op_assign (.plain rfl)) (.n (fun _ => op_assign (.plain rfl)) (.nil _))))))))))) ?_
    · exact hW
    · exact hro
    refine awp_seq ?_
    refine awp_seq ?_
    refine awp_region rfl (.n (fun _ => op_move (.plain rfl)) (.n (fun _ => op_neq (.plain rfl) (.plain rfl)) (.n (fun _ => op_move (.plain rfl)) (.gn rfl rfl (fun hg _ => op_move (.plain rfl)) (.gn rfl rfl (fun hg _ => op_neq (.opt rfl fun h => h) (.plain rfl)) (.n (fun _ => op_or (.plain rfl) (.plain rfl) (.plain rfl) (fun h => eqF h)) (.n (fun _ => op_move (.plain rfl)) (.gn rfl rfl (fun hg _ => op_move (.plain rfl)) (.gn rfl rfl (fun hg _ => op_not (.opt rfl fun h => h)) (.n (fun _ => op_or (.plain rfl) (.plain rfl) (.plain rfl) (fun h => eqF h)) (.n (fun _ => op_move (.plain rfl)) (.gn rfl rfl (fun hg _ => op_move (.plain rfl)) (.gn rfl rfl (fun hg _ => op_len (s := 0) Try.underlying23 (.opt rfl fun h => h)) (.gn rfl rfl (fun hg _ => op_move (.plain rfl)) (.gn rfl rfl (fun hg _ => op_neq (.opt rfl fun h => h) (.opt rfl fun h => h)) (.n (fun _ => op_or (.plain rfl) (.plain rfl) (.plain rfl) (fun h => eqF h)) (.nil _))))))))))))))))) ?_
    refine awp_cond rfl (fun h => ?_) (fun h => ?_)
    · try simp only [decide_eq_true_eq, decide_eq_false_iff_not, Bool.and_eq_true, Bool.or_eq_true, Bool.and_eq_false_iff, Bool.or_eq_false_iff, Bool.not_eq_true', Bool.not_eq_false', Bool.not_eq_true, Bool.not_eq_false, Bool.true_eq_false, Bool.false_eq_true] at h
      exfalso
      simp [hcr, hrl] at h
    · try simp only [decide_eq_true_eq, decide_eq_false_iff_not, Bool.and_eq_true, Bool.or_eq_true, Bool.and_eq_false_iff, Bool.or_eq_false_iff, Bool.not_eq_true', Bool.not_eq_false', Bool.not_eq_true, Bool.not_eq_false, Bool.true_eq_false, Bool.false_eq_true] at h
      refine awp_skip ?_
      refine awp_seq ?_
      refine awp_region rfl (.n (fun _ => op_move (.plain rfl)) (.n (fun _ => op_move (.plain rfl)) (.n (fun _ => op_call3 Try.call21 (.plain rfl) (.plain rfl) (.plain rfl) (Perm_fc other 0 m ?_ ?_)) (.n (fun _ => op_assign (.plain rfl)) (.nil _))))) ?_
      · omega
      · omega
      refine awp_seq ?_
      refine awp_region rfl (.n (fun _ => op_move (.plain rfl)) (.n (fun _ => op_move (.plain rfl)) (.n (fun _ => op_call2 Try.call17 (.plain rfl) (.plain rfl) (Core_ok _ _ ?_ ?_)) (.n (fun _ => op_move (.plain rfl)) (.n (fun _ => op_extract (.plain rfl) rfl) (.n (fun _ => op_extract (.plain rfl) rfl) (.n (fun _ => op_extract (.plain rfl) rfl) (.n (fun _ => op_assign (.plain rfl)) (.n (fun _ => op_assign (.plain rfl)) (.nil _)))))))))) ?_
      · exact hW
      · rw [hwl]; exact hc0
      refine awp_seq ?_
      refine awp_seq ?_
      refine awp_region rfl (.n (fun _ => op_move (.plain rfl)) (.n (fun _ => op_neq (.plain rfl) (.plain rfl)) (.n (fun _ => op_move (.plain rfl)) (.gn rfl rfl (fun hg _ => op_move (.plain rfl)) (.gn rfl rfl (fun hg _ => op_move (.plain rfl)) (.gn rfl rfl (fun hg _ => op_move (.plain rfl)) (.gn rfl rfl (fun hg _ => op_call2 Try.call22 (.opt rfl fun h => h) (.opt rfl fun h => h) (same_fc _ _)) (.gn rfl rfl (fun hg _ => op_neb Try.underlying4 (.opt rfl fun h => h) (.opt rfl fun h => h)) (.n (fun _ => op_or (.plain rfl) (.plain rfl) (.plain rfl) (fun h => eqF h)) (.nil _)))))))))) ?_
      refine awp_cond rfl (fun h => ?_) (fun h => ?_)
      · try simp only [decide_eq_true_eq, decide_eq_false_iff_not, Bool.and_eq_true, Bool.or_eq_true, Bool.and_eq_false_iff, Bool.or_eq_false_iff, Bool.not_eq_true', Bool.not_eq_false', Bool.not_eq_true, Bool.not_eq_false, Bool.true_eq_false, Bool.false_eq_true] at h
        exfalso
        simp [hco] at h
      · try simp only [decide_eq_true_eq, decide_eq_false_iff_not, Bool.and_eq_true, Bool.or_eq_true, Bool.and_eq_false_iff, Bool.or_eq_false_iff, Bool.not_eq_true', Bool.not_eq_false', Bool.not_eq_true, Bool.not_eq_false, Bool.true_eq_false, Bool.false_eq_true] at h
        refine awp_skip ?_
        refine awp_seq ?_
        refine awp_region rfl (.n (fun _ => op_move (.plain rfl)) (.n (fun _ => op_move (.plain rfl)) (.n (fun _ => op_call2 Try.call19 (.plain rfl) (.plain rfl) (Pick_fc _ _ ?_)) (.n (fun _ => op_assign (.plain rfl)) (.nil _))))) ?_
        · omega
        refine awp_seq ?_
        obtain ⟨k, hk⟩ : ∃ k : Nat, pickF who m = (k : Nat) := ⟨(pickF who m).toNat, by have := pickF_range who m (by omega); omega⟩
        have hkm := pickF_range who m (by omega)
        rw [hk]
        have hk2 : k < m := by omega
        have hh := honest_law hW (k := k) (by omega) (v := permOf other 5 m) (by rw [hwl]; exact permOf_ord _ _ _)
        have hbl := roundsF_len hh.1
        rw [List.length_set] at hbl
        refine awp_region rfl (.e (op_slitO (pp := []) (α := (List Int)) (d := []) (f := (fun r => [.seq Int 0 (fun n => [.int .i64 n]) r])) 80 [] ety22 rfl trivial rfl (by decide) rfl (fun _ => rfl) rfl) rfl (.n (fun _ => op_move (.plain rfl)) (.e (op_append (id' := 82) (α := (List Int)) (d := []) (f := (fun r => [.seq Int 0 (fun n => [.int .i64 n]) r])) ety22 Try.underlying22 (fun _ => rfl) (fun _ => rfl) (.plain rfl) rfl (.plain rfl) rfl ?_) rfl (.n (fun _ => op_assign (.plain rfl)) (.nil _))))) ?_
        · simp; omega
        refine awp_seq ?_
        refine awp_region rfl (.n (fun _ => op_move (.plain rfl)) (.n (fun _ => op_move (.plain rfl)) (.n (fun _ => op_move (.plain rfl)) (.n (fun _ => op_move (.plain rfl)) (.n (fun _ => op_call3 Try.call21 (.plain rfl) (.plain rfl) (.plain rfl) (Perm_fc other 5 m ?_ ?_)) (.r (op_indexAddrO Try.underlying22 Try.sizeOf23 (.plain rfl) rfl (.plain rfl) ?_) (.e (op_storeE _ Try.sizeOf23 (.plain rfl) (.plain rfl) rfl (fun _ => rfl) ?_ (by decide) rfl rfl) rfl (.nil _)))))))) ?_
        · omega
        · omega
        · simp; omega
        · simp; omega
        refine awp_seq ?_
        refine awp_ent (Ent.give 16 rfl rfl) ?_
        refine awp_region rfl (.n (fun _ => op_move (.plain rfl)) (.n (fun _ => op_call1 Try.call11 (.plain rfl) (Rounds_ok _ ?_)) (.n (fun _ => op_move (.plain rfl)) (.n (fun _ => op_extract (.plain rfl) rfl) (.n (fun _ => op_extract (.plain rfl) rfl) (.n (fun _ => op_assign (.plain rfl)) (.n (fun _ => op_assign (.plain rfl)) (.nil _)))))))) ?_
        · simp only [Int.toNat_natCast, List.nil_append]; exact hh.1
        refine awp_seq ?_
        refine awp_region_draw mixed rfl (.n (fun _ => op_move (.plain rfl)) (.n (fun _ => op_eql (.plain rfl) (.plain rfl)) (.n (fun _ => op_move (.plain rfl)) (.gn rfl rfl (fun hg _ => op_move (.plain rfl)) (.gn rfl rfl (fun hg _ => op_len (s := 0) Try.underlying23 (.opt rfl fun h => h)) (.gn rfl rfl (fun hg _ => op_move (.plain rfl)) (.gn rfl rfl (fun hg _ => op_eql (.opt rfl fun h => h) (.opt rfl fun h => h)) (.n (fun _ => op_and (.plain rfl) (.plain rfl) (.plain rfl) (fun h => eqT h)) (.n (fun _ => op_move (.plain rfl)) (.gn rfl rfl (fun hg _ => op_move (.plain rfl)) (.gn rfl rfl (fun hg _ => op_move (.plain rfl)) (.gn rfl rfl (fun hg _ => op_indexAddr Try.underlying22 Try.sizeOf23 (.opt rfl fun h => h) (.opt rfl fun h => h) (fun _ => rfl) ?_) (.gn rfl rfl (fun hg _ => op_load Try.isAgg23 (.opt rfl fun h => h)) (.gn rfl rfl (fun hg _ => op_move (.plain rfl)) (.gn rfl rfl (fun hg _ => op_move (.plain rfl)) (.gn rfl rfl (fun hg _ => op_indexAddr Try.underlying23 Try.sizeOf3 (.opt rfl fun h => h) (.opt rfl fun h => h) (fun _ => rfl) ?_) (.gn rfl rfl (fun hg _ => op_load Try.isAgg3 (.opt rfl fun h => h)) (.gn rfl rfl (fun hg _ => op_call2 Try.call23 (.opt rfl fun h => h) (.opt rfl fun h => h) (Place_fc _ _)) (.gn rfl rfl (fun hg _ => op_move (.plain rfl)) (.gn rfl rfl (fun hg _ => op_move (.plain rfl)) (.gn rfl rfl (fun hg _ => op_indexAddr Try.underlying22 Try.sizeOf23 (.opt rfl fun h => h) (.opt rfl fun h => h) (fun _ => rfl) ?_) (.gn rfl rfl (fun hg _ => op_load Try.isAgg23 (.opt rfl fun h => h)) (.gn rfl rfl (fun hg _ => op_move (.plain rfl)) (.gn rfl rfl (fun hg _ => op_move (.plain rfl)) (.gn rfl rfl (fun hg _ => op_indexAddr Try.underlying23 Try.sizeOf3 (.opt rfl fun h => h) (.opt rfl fun h => h) (fun _ => rfl) ?_) (.gn rfl rfl (fun hg _ => op_load Try.isAgg3 (.opt rfl fun h => h)) (.gn rfl rfl (fun hg _ => op_call2 Try.call23 (.opt rfl fun h => h) (.opt rfl fun h => h) (Place_fc _ _)) (.gn rfl rfl (fun hg _ => op_leq (.opt rfl fun h => h) (.opt rfl fun h => h)) (.n (fun _ => op_and (.plain rfl) (.plain rfl) (.plain rfl) (fun h => eqT h)) (.n (fun _ => op_assign (.plain rfl)) (.nil _))))))))))))))))))))))))))))))) ?d3 ?_
        · try simp only [beq_iff_eq, beq_true, beq_false, Bool.and_eq_true, decide_eq_true_eq, decide_eq_false_iff_not, Bool.not_eq_true', Bool.or_eq_true, Bool.or_eq_false_iff] at hg
          omega
        · try simp only [beq_iff_eq, beq_true, beq_false, Bool.and_eq_true, decide_eq_true_eq, decide_eq_false_iff_not, Bool.not_eq_true', Bool.or_eq_true, Bool.or_eq_false_iff] at hg
          omega
        · try simp only [beq_iff_eq, beq_true, beq_false, Bool.and_eq_true, decide_eq_true_eq, decide_eq_false_iff_not, Bool.not_eq_true', Bool.or_eq_true, Bool.or_eq_false_iff] at hg
          omega
        · try simp only [beq_iff_eq, beq_true, beq_false, Bool.and_eq_true, decide_eq_true_eq, decide_eq_false_iff_not, Bool.not_eq_true', Bool.or_eq_true, Bool.or_eq_false_iff] at hg
          simp only [Int.toNat_natCast, List.nil_append]; omega
        · kernel_rfl
        refine awp_ret ?_
        refine retQ.ret ?_
        refine ret1 rfl rfl rfl ?_
        simp only [Int.toNat_natCast, List.nil_append]
        have h9 := hh.2
        unfold aR at h9
        simpa [hbl] using h9

end Go.Proofs.Ytnbponopcbgndaa

