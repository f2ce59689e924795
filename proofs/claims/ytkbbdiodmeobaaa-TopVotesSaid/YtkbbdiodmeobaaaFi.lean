/- To be ranked higher never drives one out. Conditions: each theorem names its own. -/
import Derived.Test.YtkbbdiodmeobaaaProg
import Derived.Test.YtkbbdiodmeobaaaFg
import Derived.Test.YtkbbdiodmeobaaaAbsU
namespace Go.Proofs.Ytkbbdiodmeobaaa
open Go.Abs
set_option linter.unusedVariables false
set_option linter.unusedSimpArgs false


def pickN (raw : List Int) (k len : Nat) : Nat := (pickF (atF raw k) len).toNat
def pS (raw : List Int) (fr n : Nat) : Nat → List Int × List Int
  | 0 => (upF n, [])
  | k + 1 => (restF (pS raw fr n k).1 (pickN raw (fr + k) (pS raw fr n k).1.length), (pS raw fr n k).2 ++ [(pS raw fr n k).1.getD (pickN raw (fr + k) (pS raw fr n k).1.length) 0])
def permOf (raw : List Int) (fr n : Nat) : List Int := (pS raw fr n n).2
theorem pickN_lt {raw : List Int} {k len : Nat} (h : 1 ≤ len) : pickF (atF raw k) len = (pickN raw k len : Nat) ∧ pickN raw k len < len := by
  have := pickF_range (atF raw k) len (by omega)
  unfold pickN; omega
theorem pS_len (raw : List Int) (fr n : Nat) : ∀ k, k ≤ n → (pS raw fr n k).1.length = n - k ∧ (pS raw fr n k).2.length = k ∧ ((pS raw fr n k).2 ++ (pS raw fr n k).1).Perm (upF n)
  | 0, _ => by simp [pS]
  | k + 1, hk => by
    have ih := pS_len raw fr n k (by omega)
    have hp := pickN_lt (raw := raw) (k := fr + k) (len := (pS raw fr n k).1.length) (by omega)
    simp only [pS]
    refine ⟨by rw [restF_len hp.2]; omega, by simp [ih.2.1], ?_⟩
    rw [List.append_assoc, List.singleton_append]
    exact ((perm_rest hp.2).append_left _).trans ih.2.2
theorem permOf_perm (raw : List Int) (fr n : Nat) : (permOf raw fr n).Perm (upF n) := by
  have h := pS_len raw fr n n (Nat.le_refl _)
  have h0 : (pS raw fr n n).1 = [] := List.eq_nil_of_length_eq_zero (by omega)
  have h1 := h.2.2
  rw [h0, List.append_nil] at h1
  exact h1
@[simp] theorem permOf_length (raw : List Int) (fr n : Nat) : (permOf raw fr n).length = n := (pS_len raw fr n n (Nat.le_refl _)).2.1
theorem ordE_perm {n : Nat} {l : List Int} (h : l.Perm (upF n)) : ordE n l = 0 := by
  have hl : l.length = n := by rw [h.length_eq]; simp
  have hd : l.Nodup := h.nodup_iff.2 (by
    unfold upF
    rw [List.Nodup, List.pairwise_map]
    exact List.nodup_range.imp fun h e => h (by omega))
  have hin : ∀ x, x ∈ l → 0 ≤ x ∧ x < (n : Int) := fun x hx => by
    have := h.subset hx
    unfold upF at this
    obtain ⟨y, hy, rfl⟩ := List.mem_map.1 this
    have := List.mem_range.1 hy
    omega
  unfold ordE
  rw [if_neg (by omega)]
  unfold someE
  have key : ∀ k, k ≤ l.length → firstE (someB n l) k = 0 := by
    intro k
    induction k with
    | zero => intro _; rfl
    | succ k ih =>
      intro hk
      refine firstE_succ (ih (by omega)) ?_
      have h1 := hin _ (getD_mem 0 (show k < l.length by omega))
      refine someB_0 (by omega) fun c => ?_
      unfold placeF at c
      cases hf : firstI (fun i => decide (l.getD i 0 = l.getD k 0)) l.length with
      | none => have := firstI_none hf k (by omega); simp at this
      | some i =>
        rw [hf] at c
        simp only at c
        have h2 := firstI_spec hf
        simp only [decide_eq_true_eq] at h2
        have hik : i < k := by omega
        have h3 := List.pairwise_iff_getElem.1 hd i k (by omega) (by omega) hik
        simp only [List.getD_eq_getElem?_getD, List.getElem?_eq_getElem (show i < l.length by omega), List.getElem?_eq_getElem (show k < l.length by omega), Option.getD_some] at h2
        exact h3 h2.2.1
  exact key _ (Nat.le_refl _)
theorem permOf_ord (raw : List Int) (fr n : Nat) : ordE n (permOf raw fr n) = 0 := ordE_perm (permOf_perm raw fr n)
theorem rest_eqI {l : List Int} {i : Int} (h : 0 ≤ i) : ([] ++ (l.take i.toNat).drop (0 : Int).toNat) ++ (l.take ((l.length : Nat) : Int).toNat).drop (i + 1).toNat = restF l i.toNat := by
  have e : (i + 1).toNat = i.toNat + 1 := by omega
  rw [e]; simp [restF]
/-! ### Ballots that are made of raw numbers -/
def balL (raw : List Int) (n many : Nat) : List (Int × List Int × Unit) := mapr many fun b => (pickF (atF raw (b * (n + 1) + n)) 7, permOf raw (b * (n + 1)) n, ())
@[simp] theorem balL_len {raw : List Int} {n many : Nat} : (balL raw n many).length = many := by simp [balL]
theorem firstE_all {f : Nat → Int} : ∀ {n : Nat}, (∀ j, j < n → f j = 0) → firstE f n = 0
  | 0, _ => rfl
  | n + 1, h => firstE_succ (firstE_all fun j hj => h j (by omega)) (h n (by omega))
theorem vote_of {n : Nat} {L : List (Int × List Int × Unit)} (h1 : 1 ≤ n) (h6 : n ≤ 6) (h30 : L.length ≤ 30) (h : ∀ b, b < L.length → ordE n (orF L b) = 0 ∧ 0 ≤ cnF L b ∧ cnF L b ≤ 1000) : voteE n L = 0 := by
  unfold voteE
  rw [if_neg (by omega), if_neg (by omega)]
  refine firstE_all fun b hb => ?_
  have := h b hb
  exact balE_ok this.1 (by have := this.2; unfold cnF at this; omega)
theorem balL_may {raw : List Int} {n many : Nat} (h1 : 1 ≤ n) (h6 : n ≤ 6) (hm : many ≤ 30) : voteE n (balL raw n many) = 0 := vote_of h1 h6 (by simpa using hm) fun b hb => by
  rw [balL_len] at hb
  have e : (balL raw n many).getD b (0, [], ()) = (pickF (atF raw (b * (n + 1) + n)) 7, permOf raw (b * (n + 1)) n, ()) := mapr_getD _ hb
  have := pickF_range (atF raw (b * (n + 1) + n)) 7 (by omega)
  refine ⟨?_, ?_⟩
  · unfold orF; rw [e]; exact permOf_ord _ _ _
  · unfold cnF; rw [e]; dsimp only; omega
theorem balL_perm {raw : List Int} {n many b : Nat} (hb : b < many) : (orF (balL raw n many) b).Perm (upF n) := by
  have e : (balL raw n many).getD b (0, [], ()) = (pickF (atF raw (b * (n + 1) + n)) 7, permOf raw (b * (n + 1)) n, ()) := mapr_getD _ hb
  unfold orF; rw [e]; exact permOf_perm _ _ _
/-! ### Places -/
theorem placeF_of {l : List Int} {x : Int} {k : Nat} (h : k < l.length) (e : l.getD k 0 = x) (hb : ∀ j, j < k → ¬ l.getD j 0 = x) : placeF l x = (k : Nat) := by
  unfold placeF
  rw [firstI_stop (k := k) (firstI_of fun j hj => decide_eq_false (hb j hj)) (decide_eq_true e) h]
theorem placeF_before {l : List Int} {x : Int} (h : 0 ≤ placeF l x) : ∀ j, j < (placeF l x).toNat → ¬ l.getD j 0 = x := by
  unfold placeF at *
  cases e : firstI (fun i => decide (l.getD i 0 = x)) l.length with
  | none => rw [e] at h; simp at h
  | some i => intro j hj; simp only [Int.toNat_natCast] at hj; exact of_decide_eq_false ((firstI_spec e).2.2 j hj)
theorem place_self (a : Int) (l : List Int) : placeF (a :: l) a = 0 := placeF_of (k := 0) (by simp) rfl fun j hj => absurd hj (Nat.not_lt_zero _)
theorem place_cons {a x : Int} {l : List Int} (h : ¬ a = x) (hx : x ∈ l) : placeF (a :: l) x = placeF l x + 1 := by
  have h0 := place_mem.2 hx
  have h1 := placeF_at h0
  have h2 := placeF_before h0
  rw [placeF_of (l := a :: l) (k := (placeF l x).toNat + 1) (by simpa using h1.1) (by simpa using h1.2) fun j hj => by
    cases j with
    | zero => simpa using h
    | succ j => simpa using h2 j (by omega)]
  omega
theorem place_app {A B : List Int} {x : Int} : ∀ (_ : ¬ x ∈ A) (_ : x ∈ B), placeF (A ++ B) x = (A.length : Nat) + placeF B x := by
  induction A with
  | nil => intro _ _; simp
  | cons a A ih =>
    intro hA hB
    rw [List.mem_cons, not_or] at hA
    rw [List.cons_append, place_cons (fun c => hA.1 c.symm) (List.mem_append_right _ hB), ih hA.2 hB, List.length_cons]
    omega
theorem place_filter {p : Int → Bool} {y z : Int} (hy : p y = true) (hz : p z = true) : ∀ {l : List Int}, y ∈ l → z ∈ l → (placeF (l.filter p) y < placeF (l.filter p) z ↔ placeF l y < placeF l z)
  | [], h, _ => by simp at h
  | a :: l, h1, h2 => by
    by_cases eyz : y = z
    · subst eyz; simp
    have pos : ∀ {m : List Int} {v : Int}, v ∈ m → 0 ≤ placeF m v := fun h => place_mem.2 h
    by_cases ey : a = y
    · subst ey
      have hzl : z ∈ l := (List.mem_cons.1 h2).resolve_left fun c => eyz c.symm
      have hzf : z ∈ l.filter p := List.mem_filter.2 ⟨hzl, hz⟩
      rw [List.filter_cons, if_pos hy, place_self, place_self, place_cons eyz hzl, place_cons eyz hzf]
      have := pos hzl
      have := pos hzf
      omega
    by_cases ez : a = z
    · subst ez
      have hyl : y ∈ l := (List.mem_cons.1 h1).resolve_left fun c => ey c.symm
      have hyf : y ∈ l.filter p := List.mem_filter.2 ⟨hyl, hy⟩
      rw [List.filter_cons, if_pos hz, place_self, place_self, place_cons ey hyl, place_cons ey hyf]
      have := pos hyl
      have := pos hyf
      omega
    have hyl : y ∈ l := (List.mem_cons.1 h1).resolve_left fun c => ey c.symm
    have hzl : z ∈ l := (List.mem_cons.1 h2).resolve_left fun c => ez c.symm
    have ih := place_filter hy hz hyl hzl
    rw [List.filter_cons, place_cons ey hyl, place_cons ez hzl]
    by_cases hp : p a = true
    · rw [if_pos hp, place_cons ey (List.mem_filter.2 ⟨hyl, hy⟩), place_cons ez (List.mem_filter.2 ⟨hzl, hz⟩)]
      omega
    · rw [if_neg hp]; omega
/-! ### One is ranked higher -/
def notX (x : Int) (y : Int) : Bool := !decide (y = x)
def rzTo (O : List Int) (x : Int) (to : Nat) : Nat → List Int
  | 0 => []
  | i + 1 => (if i = to then rzTo O x to i ++ [x] else rzTo O x to i) ++ if ¬ O.getD i 0 = x then [O.getD i 0] else []
section
variable {O : List Int} {x : Int} {to n : Nat}
theorem take_snocI {l : List Int} {k : Nat} (h : k < l.length) : l.take (k + 1) = l.take k ++ [l.getD k 0] := by
  rw [List.take_succ_eq_append_getElem h]; simp [List.getD_eq_getElem?_getD, h]
theorem filter_snoc {l : List Int} {k : Nat} (h : k < l.length) : (l.take (k + 1)).filter (notX x) = (l.take k).filter (notX x) ++ if ¬ l.getD k 0 = x then [l.getD k 0] else [] := by
  rw [take_snocI h, List.filter_append]
  congr 1
  generalize l.getD k 0 = v
  by_cases e : v = x
  · rw [if_neg fun c => c e]; simp [notX, e]
  · rw [if_pos e]; simp [notX, e]
theorem rz_low : ∀ {i : Nat}, i ≤ to → i ≤ O.length → rzTo O x to i = (O.take i).filter (notX x)
  | 0, _, _ => by simp [rzTo]
  | i + 1, h, hl => by
    simp only [rzTo]
    rw [if_neg (by omega), rz_low (by omega) (by omega), filter_snoc (by omega)]
theorem drop_getD {l : List Int} {a b : Nat} : (l.drop a).getD b 0 = l.getD (a + b) 0 := by simp [List.getD_eq_getElem?_getD]
theorem rz_high : ∀ {j : Nat}, to + j + 1 ≤ O.length → rzTo O x to (to + j + 1) = (O.take to).filter (notX x) ++ x :: ((O.drop to).take (j + 1)).filter (notX x)
  | 0, hl => by
    simp only [rzTo, Nat.add_zero]
    rw [if_pos trivial, rz_low (Nat.le_refl _) (by omega)]
    have := filter_snoc (x := x) (l := O.drop to) (k := 0) (by simp; omega)
    rw [this, drop_getD, Nat.add_zero]
    simp
  | j + 1, hl => by
    have ih := rz_high (j := j) (by omega)
    rw [show to + (j + 1) + 1 = (to + j + 1) + 1 by omega]
    show (if to + j + 1 = to then _ else rzTo O x to (to + j + 1)) ++ _ = _
    rw [if_neg (by omega), ih]
    have := filter_snoc (x := x) (l := O.drop to) (k := j + 1) (by simp; omega)
    rw [this, drop_getD, show to + (j + 1) = to + j + 1 by omega]
    simp
theorem rz_all (h : to < O.length) : rzTo O x to O.length = (O.take to).filter (notX x) ++ x :: (O.drop to).filter (notX x) := by
  obtain ⟨j, hj⟩ : ∃ j, O.length = to + j + 1 := ⟨O.length - to - 1, by omega⟩
  have h2 : (O.drop to).take (j + 1) = O.drop to := List.take_of_length_le (by rw [List.length_drop]; omega)
  have h3 := rz_high (O := O) (x := x) (to := to) (j := j) (by omega)
  rw [h2] at h3
  rw [← h3, hj]
theorem rz_lens (i : Nat) : ((rzTo O x to i).length ≤ i ∨ to < i) ∧ (rzTo O x to i).length ≤ i + 1 := by
  induction i with
  | zero => simp [rzTo]
  | succ i ih =>
    have h2 : (if ¬ O.getD i 0 = x then [O.getD i 0] else []).length ≤ 1 := by split <;> simp
    simp only [rzTo, List.length_append]
    by_cases c : i = to
    · rw [if_pos c, List.length_append, List.length_singleton]
      have h3 := ih.1.resolve_right (by omega)
      refine ⟨.inr (by omega), by omega⟩
    · rw [if_neg c]
      rcases ih.1 with h3 | h3
      · exact ⟨.inl (by omega), by omega⟩
      · exact ⟨.inr (by omega), by omega⟩
theorem rz_len (i : Nat) : (rzTo O x to i).length ≤ i + 1 := (rz_lens i).2
/-- What becomes of an order in which x is ranked higher. -/
structure Rz (n : Nat) (O o : List Int) (x : Int) : Prop where
  ord : ordE n o = 0
  same : ∀ y z, 0 ≤ y → y < (n : Int) → 0 ≤ z → z < (n : Int) → y ≠ x → z ≠ x → (placeF o y < placeF o z ↔ placeF O y < placeF O z)
  up : ∀ y, 0 ≤ y → y < (n : Int) → y ≠ x → placeF O x < placeF O y → placeF o x < placeF o y
theorem rz_ok (hP : O.Perm (upF n)) (hx : 0 ≤ x ∧ x < (n : Int)) (ht : (to : Int) ≤ placeF O x) : Rz n O (rzTo O x to n) x := by
  have hO : ordE n O = 0 := ordE_perm hP
  have hol : O.length = n := by have := (ordE_zero hO).1; omega
  have hxp := ord_full hO hx.1 hx.2
  have hxa := placeF_at hxp
  have hxl := ord_lt hO x
  have hton : to < O.length := by omega
  have hnd : O.Nodup := hP.nodup_iff.2 (by
    unfold upF
    rw [List.Nodup, List.pairwise_map]
    exact List.nodup_range.imp fun h e => h (by omega))
  have hxO : x ∈ O := place_mem.1 hxp
  have e := rz_all (x := x) hton
  rw [hol] at e
  have hF : (O.take to).filter (notX x) ++ (O.drop to).filter (notX x) = O.filter (notX x) := by rw [← List.filter_append, List.take_append_drop]
  have hperm : (rzTo O x to n).Perm O := by
    rw [e]
    refine List.perm_middle.trans ?_
    rw [hF]
    obtain ⟨A, B, hAB⟩ := List.append_of_mem hxO
    have hxA : ¬ x ∈ A := fun c => by
      rw [hAB] at hnd
      exact (List.nodup_append.1 hnd).2.2 x c x List.mem_cons_self rfl
    have hxB : ¬ x ∈ B := fun c => by
      rw [hAB] at hnd
      exact (List.nodup_cons.1 (List.nodup_append.1 hnd).2.1).1 c
    have h1 : O.filter (notX x) = A ++ B := by
      rw [hAB, List.filter_append, List.filter_cons, if_neg (by simp [notX])]
      rw [List.filter_eq_self.2 fun y hy => by simp [notX]; exact fun c => hxA (c ▸ hy), List.filter_eq_self.2 fun y hy => by simp [notX]; exact fun c => hxB (c ▸ hy)]
    rw [h1, hAB]
    exact List.perm_middle.symm
  have hmem : ∀ {y : Int}, 0 ≤ y → y < (n : Int) → y ∈ O := fun h0 h1 => place_mem.1 (ord_full hO h0 h1)
  have hfil : (rzTo O x to n).filter (notX x) = O.filter (notX x) := by
    rw [e, List.filter_append, List.filter_cons, if_neg (by simp [notX]), List.filter_filter, List.filter_filter]
    simp only [Bool.and_self]
    exact hF
  refine ⟨ordE_perm (hperm.trans hP), fun y z hy0 hy hz0 hz hyx hzx => ?_, fun y hy0 hy hyx hlt => ?_⟩
  · have py : notX x y = true := by simp [notX, hyx]
    have pz : notX x z = true := by simp [notX, hzx]
    have a := place_filter py pz (hmem hy0 hy) (hmem hz0 hz)
    have b := place_filter py pz (l := rzTo O x to n) (hperm.mem_iff.2 (hmem hy0 hy)) (hperm.mem_iff.2 (hmem hz0 hz))
    rw [hfil] at b
    rw [← b, a]
  · have hyp := ord_full hO hy0 hy
    have hya := placeF_at hyp
    have hyd : y ∈ (O.drop to).filter (notX x) := by
      refine List.mem_filter.2 ⟨?_, by simp [notX, hyx]⟩
      have h2 : (placeF O y).toNat - to < (O.drop to).length := by rw [List.length_drop]; omega
      have h3 : (O.drop to).getD ((placeF O y).toNat - to) 0 = y := by rw [drop_getD, show to + ((placeF O y).toNat - to) = (placeF O y).toNat by omega]; exact hya.2
      rw [← h3]; exact getD_mem 0 h2
    have hxF : ¬ x ∈ (O.take to).filter (notX x) := fun c => by
      have := (List.mem_filter.1 c).2
      simp [notX] at this
    have hyF : ¬ y ∈ (O.take to).filter (notX x) := fun c => by
      have h1 := (List.mem_filter.1 c).1
      have h2 := (List.mem_filter.1 hyd).1
      have h4 := hnd
      rw [← List.take_append_drop to O] at h4
      exact (List.nodup_append.1 h4).2.2 y h1 y h2 rfl
    rw [e, place_app hxF List.mem_cons_self, place_app hyF (List.mem_cons_of_mem _ hyd), place_self, place_cons (fun c => hyx c.symm) hyd]
    have := place_mem.2 hyd
    omega
end
/-! ### What that does to the strongest ways -/
section
variable {n : Nat} {L M : List (Int × List Int × Unit)} {x : Int}
structure Rzd (n : Nat) (L M : List (Int × List Int × Unit)) (x : Int) : Prop where
  len : M.length = L.length
  cnt : ∀ b, b < L.length → cnF M b = cnF L b
  rz : ∀ b, b < L.length → Rz n (orF L b) (orF M b) x
theorem rzd_same (h : Rzd n L M x) {y z : Int} (hy : 0 ≤ y ∧ y < (n : Int)) (hz : 0 ≤ z ∧ z < (n : Int)) (hyx : y ≠ x) (hzx : z ≠ x) : prefF M y z = prefF L y z := by
  unfold prefF prefTo
  rw [h.len]
  refine sumTo_same fun b hb => ?_
  have := (h.rz b hb).same y z hy.1 hy.2 hz.1 hz.2 hyx hzx
  rw [h.cnt b hb]
  by_cases c : placeF (orF L b) y < placeF (orF L b) z
  · rw [if_pos c, if_pos (this.2 c)]
  · rw [if_neg c, if_neg fun d => c (this.1 d)]
theorem rzd_up (hV : VOk n L) (h : Rzd n L M x) {y : Int} (hy : 0 ≤ y ∧ y < (n : Int)) (hyx : y ≠ x) : prefF L x y ≤ prefF M x y := by
  unfold prefF prefTo
  rw [h.len]
  refine (sumTo_lt fun b hb => ?_).1
  have h1 := (h.rz b hb).up y hy.1 hy.2 hyx
  have h2 := hV.cnt b hb
  rw [h.cnt b hb]
  by_cases c : placeF (orF L b) x < placeF (orF L b) y
  · rw [if_pos c, if_pos (h1 c)]; omega
  · rw [if_neg c]; split <;> omega
theorem rzd_down (hV : VOk n L) (h : Rzd n L M x) {y : Int} (hx : 0 ≤ x ∧ x < (n : Int)) (hy : 0 ≤ y ∧ y < (n : Int)) (hyx : y ≠ x) : prefF M y x ≤ prefF L y x := by
  unfold prefF prefTo
  rw [h.len]
  refine (sumTo_lt fun b hb => ?_).1
  have h1 := (h.rz b hb).up y hy.1 hy.2 hyx
  have h2 := hV.cnt b hb
  have hO := hV.ord b hb
  have hxp := ord_full hO hx.1 hx.2
  have hyp := ord_full hO hy.1 hy.2
  rw [h.cnt b hb]
  by_cases c : placeF (orF M b) y < placeF (orF M b) x
  · have d : ¬ placeF (orF L b) x < placeF (orF L b) y := fun c2 => by have := h1 c2; omega
    have e : ¬ placeF (orF L b) y = placeF (orF L b) x := fun c2 => hyx (placeF_inj hyp c2)
    rw [if_pos c, if_pos (by omega)]; omega
  · rw [if_neg c]; split <;> omega
theorem w_up (hV : VOk n L) (hVM : VOk n M) (h : Rzd n L M x) (hx : 0 ≤ x ∧ x < (n : Int)) {a b : Int} (ha : 0 ≤ a ∧ a < (n : Int)) (hb : 0 ≤ b ∧ b < (n : Int)) (hbx : b ≠ x) : wM L a b ≤ wM M a b := by
  by_cases e : a = x
  · subst e
    have h1 := rzd_up hV h hb hbx
    have h2 := rzd_down hV h hx hb hbx
    have h3 := prefF_bd hVM a b
    unfold wM; split <;> split <;> omega
  · unfold wM; rw [rzd_same h ha hb e hbx, rzd_same h hb ha hbx e]; exact Int.le_refl _
theorem w_down (hV : VOk n L) (h : Rzd n L M x) (hx : 0 ≤ x ∧ x < (n : Int)) {a b : Int} (ha : 0 ≤ a ∧ a < (n : Int)) (hb : 0 ≤ b ∧ b < (n : Int)) (hax : a ≠ x) : wM M a b ≤ wM L a b := by
  by_cases e : b = x
  · subst e
    have h1 := rzd_up hV h ha hax
    have h2 := rzd_down hV h hx ha hax
    have h3 := prefF_bd hV a b
    unfold wM; split <;> split <;> omega
  · unfold wM; rw [rzd_same h ha hb hax e, rzd_same h hb ha e hax]; exact Int.le_refl _
theorem endL_mem : ∀ {l : List Nat} {a : Nat}, l ≠ [] → endL a l ∈ l
  | [], _, h => absurd rfl h
  | [b], _, _ => List.mem_cons_self
  | b :: c :: l, a, _ => List.mem_cons_of_mem _ (endL_mem (l := c :: l) (a := b) (by simp))
theorem pth_up {W U : Int → Int → Int} {t : Int} {z : Nat} (h : ∀ a b : Nat, a < n → b < n → b ≠ z → W (a : Nat) (b : Nat) ≤ U (a : Nat) (b : Nat)) : ∀ {l : List Nat} {a : Nat}, a < n → ¬ z ∈ l → pthL n W t a l → pthL n U t a l
  | [], _, _, _, _ => trivial
  | b :: l, a, ha, hz, hp => by
    rw [List.mem_cons, not_or] at hz
    have := h a b ha hp.1 (fun c => hz.1 c.symm)
    exact ⟨hp.1, by have := hp.2.1; omega, pth_up h hp.1 hz.2 hp.2.2⟩
theorem pth_down {W U : Int → Int → Int} {t : Int} {z : Nat} (h : ∀ a b : Nat, a < n → b < n → a ≠ z → W (a : Nat) (b : Nat) ≤ U (a : Nat) (b : Nat)) : ∀ {l : List Nat} {a : Nat}, a < n → (a :: l).Nodup → endL a l = z → pthL n W t a l → pthL n U t a l
  | [], _, _, _, _, _ => trivial
  | b :: l, a, ha, hn, he, hp => by
    have hne : a ≠ z := fun c => by
      have := endL_mem (l := b :: l) (a := a) (by simp)
      rw [he, ← c] at this
      exact (List.nodup_cons.1 hn).1 this
    have := h a b ha hp.1 hne
    exact ⟨hp.1, by have := hp.2.1; omega, pth_down h hp.1 (List.nodup_cons.1 hn).2 he hp.2.2⟩
/-- A simple way is no stronger than the strongest. -/
theorem pth_le {W : Int → Int → Int} (hW : WOk W) {t : Int} (ht : 0 < t) {a y : Nat} {l : List Nat} (ha : a < n) (hay : a ≠ y) (hp : pthL n W t a l) (hn : (a :: l).Nodup) (he : endL a l = y) : t ≤ fwF W n (a : Nat) (y : Nat) := by
  have hin : ∀ (m : List Nat) (c : Nat), pthL n W t c m → ∀ b, b ∈ m → b < n := by
    intro m
    induction m with
    | nil => intro c _ b hb; simp at hb
    | cons d m ih =>
      intro c hm b hb
      rcases List.mem_cons.1 hb with e | e
      · rw [e]; exact hm.1
      · exact ih d hm.2.2 b e
  have hl0 : l ≠ [] := fun c => by subst c; exact hay he
  have hyn : y < n := by rw [← he]; exact hin l a hp _ (endL_mem hl0)
  rw [← bst_fw hW ha hyn hay]
  have hlen := nodup_le hn fun b hb => by
    rcases List.mem_cons.1 hb with e | e
    · rw [e]; exact ha
    · exact hin l a hp b e
  rw [List.length_cons] at hlen
  refine bst_ge hW ht l (n - 1) _ 0 a rfl (by simp) hp (fun b hb c => ?_) (List.nodup_cons.1 hn).2 (by omega) (fun c => by simp at c) (fun c => absurd c hl0) he
  have : b = a := by simp at c; omega
  subst this
  exact (List.nodup_cons.1 hn).1 hb
theorem fw_simple {W : Int → Int → Int} (hW : WOk W) {i j : Nat} (hij : i ≠ j) (hj : j < n) (hp : 0 < fwF W n (i : Nat) (j : Nat)) : ∃ l, pthL n W (fwF W n (i : Nat) (j : Nat)) i l ∧ endL i l = j ∧ (i :: l).Nodup := by
  obtain ⟨l, hl0, h1, h2⟩ := fw_path hW (n := n) n (Nat.le_refl _) i j hij hj hp
  obtain ⟨l', g1, g2, g3, _⟩ := shorten l.length i l (Nat.le_refl _) h1
  exact ⟨l', g1, by rw [g2, h2], g3⟩
theorem sch_iff {P : Int → Int → Int} {x : Nat} : ∀ {m : Nat}, schB P x m = true ↔ ∀ y : Nat, y < m → P (y : Nat) (x : Nat) ≤ P (x : Nat) (y : Nat)
  | 0 => by simp [schB]
  | m + 1 => by
    simp only [schB, Bool.and_eq_true, decide_eq_true_eq, sch_iff (m := m)]
    constructor
    · rintro ⟨h1, h2⟩ y hy
      by_cases e : y = m
      · subst e; exact h2
      · exact h1 y (by omega)
    · exact fun h => ⟨fun y hy => h y (by omega), h m (by omega)⟩
theorem sch_mem {v : Int} : v ∈ schF n L ↔ ∃ k : Nat, k < n ∧ v = (k : Int) ∧ ∀ y : Nat, y < n → fwF (wM L) n (y : Nat) (k : Nat) ≤ fwF (wM L) n (k : Nat) (y : Nat) := by
  unfold schF
  rw [where_mem]
  simp only [sch_iff]
/-- To be ranked higher never drives one out. -/
theorem raised (hV : VOk n L) (hVM : VOk n M) {k : Nat} (hk : k < n) (h : Rzd n L M (k : Nat)) (hs : ((k : Nat) : Int) ∈ schF n L) : ((k : Nat) : Int) ∈ schF n M := by
  obtain ⟨k2, hk2, e, hall⟩ := sch_mem.1 hs
  have : k2 = k := by omega
  subst this
  refine sch_mem.2 ⟨k2, hk, rfl, fun y hy => ?_⟩
  by_cases ey : y = k2
  · subst ey; exact Int.le_refl _
  have hW := wM_ok hV
  have hU := wM_ok hVM
  have hkx : (0 : Int) ≤ (k2 : Nat) ∧ ((k2 : Nat) : Int) < (n : Int) := by omega
  have up : fwF (wM L) n (k2 : Nat) (y : Nat) ≤ fwF (wM M) n (k2 : Nat) (y : Nat) := by
    rcases Int.lt_or_le 0 (fwF (wM L) n (k2 : Nat) (y : Nat)) with hp | hp
    · obtain ⟨l, h1, h2, h3⟩ := fw_simple hW (fun c => ey c.symm) hy hp
      exact pth_le hU hp hk (fun c => ey c.symm) (pth_up (fun a b ha hb hbz => w_up hV hVM h hkx (by omega) (by omega) (by omega)) hk (List.nodup_cons.1 h3).1 h1) h3 h2
    · have := fw_pos hU n (k2 : Nat) (y : Nat); omega
  have down : fwF (wM M) n (y : Nat) (k2 : Nat) ≤ fwF (wM L) n (y : Nat) (k2 : Nat) := by
    rcases Int.lt_or_le 0 (fwF (wM M) n (y : Nat) (k2 : Nat)) with hp | hp
    · obtain ⟨l, h1, h2, h3⟩ := fw_simple hU ey hk hp
      exact pth_le hW hp hy ey (pth_down (fun a b ha hb haz => w_down hV h hkx (by omega) (by omega) (by omega)) hy h3 h2 h1) h3 h2
    · have := fw_pos hW n (y : Nat) (k2 : Nat); omega
  have := hall y hy
  omega
/-! ### Somebody is chosen -/
theorem beats_trans {W : Int → Int → Int} (hW : WOk W) {x y z : Nat} (hx : x < n) (hy : y < n) (hz : z < n) (h1 : fwF W n (y : Nat) (x : Nat) < fwF W n (x : Nat) (y : Nat)) (h2 : fwF W n (z : Nat) (y : Nat) < fwF W n (y : Nat) (z : Nat)) : fwF W n (z : Nat) (x : Nat) < fwF W n (x : Nat) (z : Nat) := by
  have hxy : x ≠ y := fun c => by subst c; omega
  have hyz : y ≠ z := fun c => by subst c; omega
  by_cases hxz : x = z
  · subst hxz; omega
  have c1 := fw_closed hW n y hy (x : Nat) (z : Nat) (by omega)
  have c2 := fw_closed hW n z hz (y : Nat) (x : Nat) (by omega)
  have c3 := fw_closed hW n x hx (z : Nat) (y : Nat) (by omega)
  omega
theorem sch_ne (hV : VOk n L) : 0 < (schF n L).length := by
  have hW := wM_ok hV
  have hn := hV.n1
  have key : ∀ m, 0 < m → m ≤ n → ∃ k : Nat, k < m ∧ ∀ y : Nat, y < m → fwF (wM L) n (y : Nat) (k : Nat) ≤ fwF (wM L) n (k : Nat) (y : Nat) := by
    intro m
    induction m with
    | zero => intro h; omega
    | succ m ih =>
      intro _ hm
      by_cases e : m = 0
      · subst e
        refine ⟨0, by omega, fun y hy => ?_⟩
        have : y = 0 := by omega
        subst this; exact Int.le_refl _
      · obtain ⟨k, hk, hall⟩ := ih (by omega) (by omega)
        rcases Int.lt_or_le (fwF (wM L) n (k : Nat) (m : Nat)) (fwF (wM L) n (m : Nat) (k : Nat)) with h | h
        · refine ⟨m, by omega, fun y hy => ?_⟩
          by_cases ey : y = m
          · subst ey; exact Int.le_refl _
          · rcases Int.lt_or_le (fwF (wM L) n (m : Nat) (y : Nat)) (fwF (wM L) n (y : Nat) (m : Nat)) with h3 | h3
            · have := beats_trans hW (show y < n by omega) (show m < n by omega) (show k < n by omega) h3 h
              have := hall y (by omega)
              omega
            · exact h3
        · refine ⟨k, by omega, fun y hy => ?_⟩
          by_cases ey : y = m
          · subst ey; exact h
          · exact hall y (by omega)
  obtain ⟨k, hk, hall⟩ := key n (by omega) (Nat.le_refl _)
  exact List.length_pos_of_mem (sch_mem.2 ⟨k, hk, rfl, hall⟩)
end
/-! ### One ballot is changed -/
section
variable {n w : Nat} {L : List (Int × List Int × Unit)} {o : List Int} {x c : Int}
theorem set_or {b : Nat} (hw : w < L.length) : orF (L.set w (c, o, ())) b = if b = w then o else orF L b := by
  unfold orF
  by_cases e : b = w
  · subst e; rw [if_pos rfl]; simp [List.getD_eq_getElem?_getD, hw]
  · rw [if_neg e, List.getD_eq_getElem?_getD, List.getElem?_set, if_neg fun h : w = b => e h.symm]; rfl
theorem set_cn {b : Nat} (hw : w < L.length) : cnF (L.set w (c, o, ())) b = if b = w then c else cnF L b := by
  unfold cnF
  by_cases e : b = w
  · subst e; rw [if_pos rfl]; simp [List.getD_eq_getElem?_getD, hw]
  · rw [if_neg e, List.getD_eq_getElem?_getD, List.getElem?_set, if_neg fun h : w = b => e h.symm]; rfl
theorem rz_vote (hv : voteE n L = 0) (hw : w < L.length) (h : Rz n (orF L w) o x) (_ : 1 ≤ n) : voteE n (L.set w (cnF L w, o, ())) = 0 := by
  have hV := vok hv
  refine vote_of hV.n1 hV.n6 (by rw [List.length_set]; exact hV.len) fun b hb => ?_
  rw [List.length_set] at hb
  rw [set_or hw, set_cn hw]
  have := hV.cnt b hb
  have h2 := hV.cnt w hw
  by_cases e : b = w
  · rw [if_pos e, if_pos e]; exact ⟨h.ord, h2⟩
  · rw [if_neg e, if_neg e]; exact ⟨hV.ord b hb, this⟩
theorem rz_id (hO : ordE n o = 0) : Rz n o o x := ⟨hO, fun _ _ _ _ _ _ _ _ => Iff.rfl, fun _ _ _ _ h => h⟩
theorem rz_rzd (hw : w < L.length) (h : Rz n (orF L w) o x) (hV : VOk n L) : Rzd n L (L.set w (cnF L w, o, ())) x := by
  refine ⟨by simp, fun b hb => ?_, fun b hb => ?_⟩
  · rw [set_cn hw]; split
    · subst_vars; rfl
    · rfl
  · rw [set_or hw]; split
    · subst_vars; exact h
    · exact rz_id (hV.ord b hb)
end

set_option maxRecDepth 1000000 in
set_option maxHeartbeats 1000000 in
theorem Pick_fc (c n : Int) (hn : 1 ≤ n) : FC Try.prog 23 [.i c, .i n] (.i (pickF c n)) := by
  refine FC.intro Try.func23 rfl (Nat.le_of_ble_eq_true rfl) fun hfit => ?_
  have fit0 : -9223372036854775808 ≤ (c : Int) ∧ (c : Int) ≤ 9223372036854775807 := (hfit _ (.head _)).int64
  have fit1 : -9223372036854775808 ≤ (n : Int) ∧ (n : Int) ≤ 9223372036854775807 := (hfit _ (.tail _ (.head _))).int64
  refine awp_seq ?_
  refine awp_region rfl (.n (fun _ => op_assign (.plain rfl)) (.nil _)) ?_
  refine awp_seq ?_
  refine awp_seq ?_
  refine awp_region rfl (.n (fun _ => op_move (.plain rfl)) (.n (fun _ => op_lss (.plain rfl) (.plain rfl)) (.nil _))) ?_
  refine awp_cond rfl (fun h => ?_) (fun h => ?_)
  · (try simp only [decide_eq_true_eq, decide_eq_false_iff_not, Bool.and_eq_true, Bool.or_eq_true, Bool.and_eq_false_iff, Bool.or_eq_false_iff, Bool.not_eq_true', Bool.not_eq_false', Bool.not_eq_true, Bool.not_eq_false, Bool.true_eq_false, Bool.false_eq_true] at h); (try simp only [fold_c, fold_o, Int.toNat_natCast] at h)
    refine awp_region rfl (.n (fun _ => op_move (.plain rfl)) (.n (fun _ => op_add (.plain rfl) (.plain rfl) ?_) (.n (fun _ => op_neg (.plain rfl) ?_) (.n (fun _ => op_assign (.plain rfl)) (.nil _))))) ?_
    · unfold InR; omega
    · unfold InR; omega
    refine awp_seq ?_
    refine awp_region rfl (.n (fun _ => op_move (.plain rfl)) (.n (fun _ => op_move (.plain rfl)) (.n (fun _ => op_rem (.plain rfl) (.plain rfl) ?_) (.n (fun _ => op_assign (.plain rfl)) (.nil _))))) ?_
    · omega
    refine awp_ret ?_
    refine retQ.ret ?_
    refine ret1 rfl rfl rfl ?_
    unfold pickF; rw [if_pos h]
  · (try simp only [decide_eq_true_eq, decide_eq_false_iff_not, Bool.and_eq_true, Bool.or_eq_true, Bool.and_eq_false_iff, Bool.or_eq_false_iff, Bool.not_eq_true', Bool.not_eq_false', Bool.not_eq_true, Bool.not_eq_false, Bool.true_eq_false, Bool.false_eq_true] at h); (try simp only [fold_c, fold_o, Int.toNat_natCast] at h)
    refine awp_skip ?_
    refine awp_seq ?_
    refine awp_region rfl (.n (fun _ => op_move (.plain rfl)) (.n (fun _ => op_move (.plain rfl)) (.n (fun _ => op_rem (.plain rfl) (.plain rfl) ?_) (.n (fun _ => op_assign (.plain rfl)) (.nil _))))) ?_
    · omega
    refine awp_ret ?_
    refine retQ.ret ?_
    refine ret1 rfl rfl rfl ?_
    unfold pickF; rw [if_neg h]

theorem Pick_nat {c n : Int} {w : Nat} (h : pickF c n = (w : Nat)) (hn : 1 ≤ n) : FC Try.prog 23 [.i c, .i n] (.i (w : Nat)) := h ▸ Pick_fc c n hn
set_option maxRecDepth 1000000 in
set_option maxHeartbeats 1000000 in
theorem At_fc (raw : List Int) (k : Nat) : FC Try.prog 57 [.ints raw, .i (k : Nat)] (.i (atF raw k)) := by
  refine FC.intro Try.func57 rfl (Nat.le_of_ble_eq_true rfl) fun hfit => ?_
  obtain ⟨fitl0, fitr0⟩ := (hfit _ (.head _)).ints
  have fit1 : -9223372036854775808 ≤ ((k : Nat) : Int) ∧ ((k : Nat) : Int) ≤ 9223372036854775807 := (hfit _ (.tail _ (.head _))).int64
  refine awp_seq ?_
  refine awp_region rfl (.n (fun _ => op_assign (.plain rfl)) (.nil _)) ?_
  refine awp_seq ?_
  refine awp_seq ?_
  refine awp_region rfl (.n (fun _ => op_move (.plain rfl)) (.n (fun _ => op_len (s := 0) Try.underlying23 (.plain rfl)) (.n (fun _ => op_eql (.plain rfl) (.plain rfl)) (.nil _)))) ?_
  refine awp_cond rfl (fun h => ?_) (fun h => ?_)
  · (try simp only [decide_eq_true_eq, decide_eq_false_iff_not, Bool.and_eq_true, Bool.or_eq_true, Bool.and_eq_false_iff, Bool.or_eq_false_iff, Bool.not_eq_true', Bool.not_eq_false', Bool.not_eq_true, Bool.not_eq_false, Bool.true_eq_false, Bool.false_eq_true] at h); (try simp only [fold_c, fold_o, Int.toNat_natCast] at h)
    refine awp_seq ?_
    refine awp_region rfl (.n (fun _ => op_assign (.plain rfl)) (.nil _)) ?_
    refine awp_ret ?_
    refine retQ.ret ?_
    refine ret1 rfl rfl rfl ?_
    unfold atF; rw [if_pos (by omega)]
  · (try simp only [decide_eq_true_eq, decide_eq_false_iff_not, Bool.and_eq_true, Bool.or_eq_true, Bool.and_eq_false_iff, Bool.or_eq_false_iff, Bool.not_eq_true', Bool.not_eq_false', Bool.not_eq_true, Bool.not_eq_false, Bool.true_eq_false, Bool.false_eq_true] at h); (try simp only [fold_c, fold_o, Int.toNat_natCast] at h)
    refine awp_skip ?_
    refine awp_seq ?_
    refine awp_region rfl (.n (fun _ => op_move (.plain rfl)) (.n (fun _ => op_move (.plain rfl)) (.n (fun _ => op_move (.plain rfl)) (.n (fun _ => op_len (s := 0) Try.underlying23 (.plain rfl)) (.n (fun _ => op_rem (.plain rfl) (.plain rfl) ?_) (.n (fun _ => op_indexAddr Try.underlying23 Try.sizeOf3 (.plain rfl) (.plain rfl) (fun _ => rfl) ?_) (.n (fun _ => op_load Try.isAgg3 (.plain rfl)) (.n (fun _ => op_assign (.plain rfl)) (.nil _))))))))) ?_
    · omega
    · exact ⟨Int.emod_nonneg _ (by omega), Int.emod_lt_of_pos _ (by omega)⟩
    refine awp_ret ?_
    refine retQ.ret ?_
    refine ret1 rfl rfl rfl ?_
    unfold atF; rw [if_neg (by omega), ← Int.natCast_emod, Int.toNat_natCast]

set_option maxRecDepth 1000000 in
set_option maxHeartbeats 2000000 in
theorem Perm_fc (raw : List Int) (fr n : Nat) (hn : n ≤ 1000) (hfr : fr ≤ 1000000) : FC Try.prog 28 [.ints raw, .i (fr : Nat), .i (n : Nat)] (.ints (permOf raw fr n)) := by
  refine FC.intro Try.func28 rfl (Nat.le_of_ble_eq_true rfl) fun hfit => ?_
  obtain ⟨fitl0, fitr0⟩ := (hfit _ (.head _)).ints
  have fit1 : -9223372036854775808 ≤ ((fr : Nat) : Int) ∧ ((fr : Nat) : Int) ≤ 9223372036854775807 := (hfit _ (.tail _ (.head _))).int64
  have fit2 : -9223372036854775808 ≤ ((n : Nat) : Int) ∧ ((n : Nat) : Int) ≤ 9223372036854775807 := (hfit _ (.tail _ (.tail _ (.head _)))).int64
  refine awp_seq ?_
  refine awp_region rfl (.n (fun _ => op_assign (.plain rfl)) (.nil _)) ?_
  refine awp_seq ?_
  refine awp_region rfl (.n (fun _ => op_move (.plain rfl)) (.n (fun _ => op_call1 Try.call58 (.plain rfl) (upTo_fc _ ?_)) (.n (fun _ => op_assign (.plain rfl)) (.nil _)))) ?_
  · omega
  refine awp_seq ?_
  refine awp_region rfl (.n (fun _ => op_assign (.plain rfl)) (.nil _)) ?_
  refine awp_seq ?_
  refine awp_seq ?_
  refine awp_region rfl (.n (fun _ => op_assign (.plain rfl)) (.nil _)) ?_
  refine awp_block ?_
  refine awp_ent (Ent.begin 8 1008 3 1 Int 0 (fun n => [.int .i64 n]) rfl rfl rfl) ?_
  refine awp_loop (σ := Nat) (fun (k : Nat) => k ≤ n) (fun (k : Nat) => ⟨[(0, .pv (.ints raw)), (1, .pv (.i (fr : Nat))), (2, .pv (.i (n : Nat))), (7, .pv (.ints (pS raw fr n k).1)), (8, .own 1008), (9, .int (k : Nat))], [(1008, .arr 3 1 Int 0 (fun n => [.int .i64 n]) (pS raw fr n k).2)]⟩) (fun (k : Nat) => n - k) 0 ?_ (Ent.kept ⟨rfl, rfl, rfl, rfl, rfl, rfl, trivial⟩ ⟨rfl, trivial⟩) ?_
  · simp
  rintro k hp
  try dsimp only at hp
  refine awp_seq ?_
  refine awp_seq ?_
  refine awp_region rfl (.n (fun _ => op_move (.plain rfl)) (.n (fun _ => op_move (.plain rfl)) (.n (fun _ => op_lss (.plain rfl) (.plain rfl)) (.nil _)))) ?_
  refine awp_cond rfl (fun h => ?_) (fun h => ?_)
  · (try simp only [decide_eq_true_eq, decide_eq_false_iff_not, Bool.and_eq_true, Bool.or_eq_true, Bool.and_eq_false_iff, Bool.or_eq_false_iff, Bool.not_eq_true', Bool.not_eq_false', Bool.not_eq_true, Bool.not_eq_false, Bool.true_eq_false, Bool.false_eq_true] at h); (try simp only [fold_c, fold_o, Int.toNat_natCast] at h)
    have hS := pS_len raw fr n k (by omega)
    have hpk := pickN_lt (raw := raw) (k := fr + k) (len := (pS raw fr n k).1.length) (by omega)
    refine awp_skip ?_
    refine awp_seq ?_
    refine awp_block ?_
    refine awp_seq ?_
    refine awp_region rfl (.n (fun _ => op_move (.plain rfl)) (.n (fun _ => op_move (.plain rfl)) (.n (fun _ => op_move (.plain rfl)) (.n (fun _ => op_add (.plain rfl) (.plain rfl) ?_) (.n (fun _ => op_call2 Try.call57 (.plain rfl) (.plain rfl) (At_fc raw (fr + k))) (.n (fun _ => op_move (.plain rfl)) (.n (fun _ => op_len (s := 0) Try.underlying23 (.plain rfl)) (.n (fun _ => op_call2 Try.call23 (.plain rfl) (.plain rfl) (Pick_fc _ _ ?_)) (.n (fun _ => op_assign (.plain rfl)) (.nil _)))))))))) ?_
    · unfold InR; omega
    · omega
    refine awp_seq ?_
    refine awp_region rfl (.n (fun _ => op_move (.plain rfl)) (.n (fun _ => op_move (.plain rfl)) (.n (fun _ => op_move (.plain rfl)) (.n (fun _ => op_indexAddr Try.underlying23 Try.sizeOf3 (.plain rfl) (.plain rfl) (fun _ => rfl) ?_) (.n (fun _ => op_load Try.isAgg3 (.plain rfl)) (.n (fun _ => op_slit (pp := [(0, _)]) (α := Int) (d := 0) (f := (fun n => [.int .i64 n])) [_] ety23 rfl ⟨rfl, (.plain rfl), (by simp), trivial⟩ rfl (by decide) rfl) (.e (op_append (id' := 32) (α := Int) (d := 0) (f := (fun n => [.int .i64 n])) ety23 Try.underlying23 (fun _ => rfl) (fun _ => rfl) (.plain rfl) rfl (.plain rfl) rfl ?_) rfl (.n (fun _ => op_assign (.plain rfl)) (.nil _))))))))) ?_
    · omega
    · simp; omega
    refine awp_region_draw mixed rfl (.e (op_slitO (pp := []) (α := Int) (d := 0) (f := (fun n => [.int .i64 n])) 33 [] ety23 rfl trivial rfl (by decide) rfl (fun _ => rfl) rfl) rfl (.n (fun _ => op_move (.plain rfl)) (.n (fun _ => op_move (.plain rfl)) (.n (fun _ => op_sliceI (kl := .i64) Try.underlying23 Try.sizeOf3 (fun _ => rfl) (.plain rfl) rfl (.plain rfl) ?_) (.e (op_append (id' := 37) (α := Int) (d := 0) (f := (fun n => [.int .i64 n])) ety23 Try.underlying23 (fun _ => rfl) (fun _ => rfl) (.plain rfl) rfl (.plain rfl) rfl ?_) rfl (.n (fun _ => op_move (.plain rfl)) (.n (fun _ => op_move (.plain rfl)) (.n (fun _ => op_add (.plain rfl) (.plain rfl) ?_) (.n (fun _ => op_sliceI (kh := .i64) Try.underlying23 Try.sizeOf3 (fun _ => rfl) (.plain rfl) (.plain rfl) rfl ?_) (.e (op_append (id' := 42) (α := Int) (d := 0) (f := (fun n => [.int .i64 n])) ety23 Try.underlying23 (fun _ => rfl) (fun _ => rfl) (.plain rfl) rfl (.plain rfl) rfl ?_) rfl (.n (fun _ => op_assign (.plain rfl)) (.nil _)))))))))))) ?d1 ?_
    · omega
    · simp; omega
    · unfold InR; omega
    · omega
    · simp; omega
    · kernel_rfl
    refine awp_ent (Ent.give 7 rfl rfl) ?_
    refine awp_region rfl (.n (fun _ => op_move (.plain rfl)) (.n (fun _ => op_add (.plain rfl) (.plain rfl) ?_) (.n (fun _ => op_assign (.plain rfl)) (.nil _)))) ?_
    · unfold InR; omega
    exact ⟨k + 1, by omega, by dsimp only; omega, (Ent.round 32 1008 ⟨rfl, rfl, rfl, (congrArg (fun l => some (SV.pv (.ints l))) (rest_eqI (by omega))), rfl, rfl, trivial⟩ ⟨(congrArg (fun l => some (Blk.arr 3 1 Int 0 (fun n => [.int .i64 n]) l)) (rfl)), trivial⟩ rfl rfl rfl ⟨rfl, rfl, rfl, rfl, rfl, rfl, trivial⟩ ⟨rfl, trivial⟩)⟩
  · (try simp only [decide_eq_true_eq, decide_eq_false_iff_not, Bool.and_eq_true, Bool.or_eq_true, Bool.and_eq_false_iff, Bool.or_eq_false_iff, Bool.not_eq_true', Bool.not_eq_false', Bool.not_eq_true, Bool.not_eq_false, Bool.true_eq_false, Bool.false_eq_true] at h); (try simp only [fold_c, fold_o, Int.toNat_natCast] at h)
    refine awp_exit ?_
    refine awp_seq ?_
    refine awp_region rfl (.n (fun _ => op_move (.plain rfl)) (.n (fun _ => op_assign (.plain rfl)) (.nil _))) ?_
    refine awp_ret ?_
    refine retQ.ret ?_
    refine ret1 rfl rfl rfl ?_
    obtain rfl : k = n := by omega
    rfl

set_option maxRecDepth 1000000 in
set_option maxHeartbeats 1000000 in
theorem Ballots_fc (raw : List Int) (n many : Nat) (hn : n ≤ 6) (hm : many ≤ 30) : FC Try.prog 24 [.ints raw, .i (n : Nat), .i (many : Nat)] (.seq (Int × List Int × Unit) (0, [], ()) (fun b => [.i b.1, .ints b.2.1]) (balL raw n many)) := by
  refine FC.intro Try.func24 rfl (Nat.le_of_ble_eq_true rfl) fun hfit => ?_
  obtain ⟨fitl0, fitr0⟩ := (hfit _ (.head _)).ints
  have fit1 : -9223372036854775808 ≤ ((n : Nat) : Int) ∧ ((n : Nat) : Int) ≤ 9223372036854775807 := (hfit _ (.tail _ (.head _))).int64
  have fit2 : -9223372036854775808 ≤ ((many : Nat) : Int) ∧ ((many : Nat) : Int) ≤ 9223372036854775807 := (hfit _ (.tail _ (.tail _ (.head _)))).int64
  refine awp_seq ?_
  refine awp_region rfl (.n (fun _ => op_assign (.plain rfl)) (.nil _)) ?_
  refine awp_seq ?_
  refine awp_region rfl (.n (fun _ => op_assign (.plain rfl)) (.nil _)) ?_
  refine awp_seq ?_
  refine awp_seq ?_
  refine awp_region rfl (.n (fun _ => op_assign (.plain rfl)) (.nil _)) ?_
  refine awp_block ?_
  refine awp_ent (Ent.begin 7 1007 40 2 (Int × List Int × Unit) (0, [], ()) (fun b => [.i b.1, .ints b.2.1]) rfl rfl rfl) ?_
  refine awp_loop (σ := Nat) (fun (b : Nat) => b ≤ many) (fun (b : Nat) => ⟨[(0, .pv (.ints raw)), (1, .int (n : Nat)), (2, .int (many : Nat)), (7, .own 1007), (8, .int (b : Nat))], [(1007, .arr 40 2 (Int × List Int × Unit) (0, [], ()) (fun b => [.i b.1, .ints b.2.1]) (balL raw n b))]⟩) (fun (b : Nat) => many - b) 0 ?_ (Ent.kept ⟨rfl, rfl, rfl, rfl, rfl, trivial⟩ ⟨rfl, trivial⟩) ?_
  · exact Nat.zero_le _
  rintro b hp
  try dsimp only at hp
  have hb := hp
  have hk1 : b * (n + 1) ≤ 30 * 7 := Nat.mul_le_mul (by omega) (by omega)
  have hk2 : (b : Int) * ((n : Int) + 1) = ((b * (n + 1) : Nat) : Int) := by simp
  refine awp_seq ?_
  refine awp_seq ?_
  refine awp_region rfl (.n (fun _ => op_move (.plain rfl)) (.n (fun _ => op_move (.plain rfl)) (.n (fun _ => op_lss (.plain rfl) (.plain rfl)) (.nil _)))) ?_
  refine awp_cond rfl (fun h => ?_) (fun h => ?_)
  · (try simp only [decide_eq_true_eq, decide_eq_false_iff_not, Bool.and_eq_true, Bool.or_eq_true, Bool.and_eq_false_iff, Bool.or_eq_false_iff, Bool.not_eq_true', Bool.not_eq_false', Bool.not_eq_true, Bool.not_eq_false, Bool.true_eq_false, Bool.false_eq_true] at h); (try simp only [fold_c, fold_o, Int.toNat_natCast] at h)
    refine awp_skip ?_
    refine awp_seq ?_
    refine awp_block ?_
    refine awp_seq ?_
    refine awp_region rfl (.n (fun _ => op_move (.plain rfl)) (.n (fun _ => op_move (.plain rfl)) (.n (fun _ => op_move (.plain rfl)) (.n (fun _ => op_add (.plain rfl) (.plain rfl) ?_) (.n (fun _ => op_mul (.plain rfl) (.plain rfl) ?_) (.n (fun _ => op_move (.plain rfl)) (.n (fun _ => op_call3 Try.call28 (.plain rfl) (.plain rfl) (.plain rfl) (Perm_fc raw (b * (n + 1)) n ?_ ?_)) (.n (fun _ => op_assign (.plain rfl)) (.nil _))))))))) ?_
    · unfold InR; omega
    · unfold InR; omega
    · omega
    · omega
    refine awp_region rfl (.n (fun _ => op_move (.plain rfl)) (.n (fun _ => op_move (.plain rfl)) (.n (fun _ => op_move (.plain rfl)) (.n (fun _ => op_move (.plain rfl)) (.n (fun _ => op_add (.plain rfl) (.plain rfl) ?_) (.n (fun _ => op_mul (.plain rfl) (.plain rfl) ?_) (.n (fun _ => op_move (.plain rfl)) (.n (fun _ => op_add (.plain rfl) (.plain rfl) ?_) (.n (fun _ => op_call2 Try.call57 (.plain rfl) (.plain rfl) (At_fc raw (b * (n + 1) + n))) (.n (fun _ => op_call2 Try.call23 (.plain rfl) (.plain rfl) (Pick_fc _ _ ?_)) (.n (fun _ => op_move (.plain rfl)) (.n (fun _ => op_build (pp := [(0, _), (1, _)]) (places := #[(0, 1), (1, 1)]) Try.underlying40 Try.zeroValue40 rfl (by intro w; kernel_rfl) ⟨rfl, (.plain rfl), (by simp), rfl, (.plain rfl), (by simp), trivial⟩ rfl) (.n (fun _ => op_slit1 (pp := [(0, _)]) (α := (Int × List Int × Unit)) (d := (0, [], ())) (f := (fun b => [.i b.1, .ints b.2.1])) (_, _, ()) ety22 rfl ⟨rfl, (.plain rfl), (by simp), trivial⟩ rfl (by decide)) (.e (op_append (id' := 35) (α := (Int × List Int × Unit)) (d := (0, [], ())) (f := (fun b => [.i b.1, .ints b.2.1])) ety22 Try.underlying22 (fun _ => rfl) (fun _ => rfl) (.plain rfl) rfl (.plain rfl) rfl ?_) rfl (.n (fun _ => op_assign (.plain rfl)) (.nil _)))))))))))))))) ?_
    · unfold InR; omega
    · unfold InR; omega
    · unfold InR; omega
    · omega
    · first | omega | (simp; omega)
    refine awp_region rfl (.n (fun _ => op_move (.plain rfl)) (.n (fun _ => op_add (.plain rfl) (.plain rfl) ?_) (.n (fun _ => op_assign (.plain rfl)) (.nil _)))) ?_
    · unfold InR; omega
    exact ⟨b + 1, by omega, by dsimp only; omega, (Ent.round 35 1007 ⟨rfl, rfl, rfl, rfl, rfl, trivial⟩ ⟨(congrArg (fun l => some (Blk.arr 40 2 (Int × List Int × Unit) (0, [], ()) (fun b => [.i b.1, .ints b.2.1]) l)) (by unfold balL; rw [mapr_succ]; rfl)), trivial⟩ rfl rfl rfl ⟨rfl, rfl, rfl, rfl, rfl, trivial⟩ ⟨rfl, trivial⟩)⟩
  · (try simp only [decide_eq_true_eq, decide_eq_false_iff_not, Bool.and_eq_true, Bool.or_eq_true, Bool.and_eq_false_iff, Bool.or_eq_false_iff, Bool.not_eq_true', Bool.not_eq_false', Bool.not_eq_true, Bool.not_eq_false, Bool.true_eq_false, Bool.false_eq_true] at h); (try simp only [fold_c, fold_o, Int.toNat_natCast] at h)
    refine awp_exit ?_
    refine awp_seq ?_
    refine awp_region rfl (.n (fun _ => op_move (.plain rfl)) (.n (fun _ => op_assign (.plain rfl)) (.nil _))) ?_
    refine awp_ret ?_
    refine retQ.ret ?_
    refine ret1 rfl rfl rfl ?_
    obtain rfl : b = many := by omega
    rfl

set_option maxRecDepth 1000000 in
set_option maxHeartbeats 4000000 in
theorem TopRaised_fc (raw : List Int) (n many which up : Int) : FC Try.prog 5 [.ints raw, .i n, .i many, .i which, .i up] (.bool true) := by
  refine FC.intro Try.func5 rfl (Nat.le_of_ble_eq_true rfl) fun hfit => ?_
  obtain ⟨fitl0, fitr0⟩ := (hfit _ (.head _)).ints
  have fit1 : -9223372036854775808 ≤ (n : Int) ∧ (n : Int) ≤ 9223372036854775807 := (hfit _ (.tail _ (.head _))).int64
  have fit2 : -9223372036854775808 ≤ (many : Int) ∧ (many : Int) ≤ 9223372036854775807 := (hfit _ (.tail _ (.tail _ (.head _)))).int64
  have fit3 : -9223372036854775808 ≤ (which : Int) ∧ (which : Int) ≤ 9223372036854775807 := (hfit _ (.tail _ (.tail _ (.tail _ (.head _))))).int64
  have fit4 : -9223372036854775808 ≤ (up : Int) ∧ (up : Int) ≤ 9223372036854775807 := (hfit _ (.tail _ (.tail _ (.tail _ (.tail _ (.head _)))))).int64
  refine awp_seq ?_
  refine awp_region rfl (.n (fun _ => op_assign (.plain rfl)) (.nil _)) ?_
  refine awp_seq ?_
  refine awp_seq ?_
  refine awp_region rfl (.n (fun _ => op_move (.plain rfl)) (.n (fun _ => op_len (s := 0) Try.underlying23 (.plain rfl)) (.n (fun _ => op_gtr (.plain rfl) (.plain rfl)) (.nil _)))) ?_
  refine awp_cond rfl (fun h => ?_) (fun h => ?_)
  · (try simp only [decide_eq_true_eq, decide_eq_false_iff_not, Bool.and_eq_true, Bool.or_eq_true, Bool.and_eq_false_iff, Bool.or_eq_false_iff, Bool.not_eq_true', Bool.not_eq_false', Bool.not_eq_true, Bool.not_eq_false, Bool.true_eq_false, Bool.false_eq_true] at h); (try simp only [fold_c, fold_o, Int.toNat_natCast] at h)
    refine awp_seq ?_
    refine awp_region rfl (.n (fun _ => op_assign (.plain rfl)) (.nil _)) ?_
    refine awp_ret ?_
    refine retQ.ret ?_
    refine ret1 rfl rfl rfl ?_
    first | (simp; done) | (simp; exact hinp)
  · (try simp only [decide_eq_true_eq, decide_eq_false_iff_not, Bool.and_eq_true, Bool.or_eq_true, Bool.and_eq_false_iff, Bool.or_eq_false_iff, Bool.not_eq_true', Bool.not_eq_false', Bool.not_eq_true, Bool.not_eq_false, Bool.true_eq_false, Bool.false_eq_true] at h); (try simp only [fold_c, fold_o, Int.toNat_natCast] at h)
    refine awp_skip ?_
    refine awp_seq ?_
    refine awp_region rfl (.n (fun _ => op_move (.plain rfl)) (.n (fun _ => op_call2 Try.call23 (.plain rfl) (.plain rfl) (Pick_fc _ _ ?_)) (.n (fun _ => op_add (.plain rfl) (.plain rfl) ?_) (.n (fun _ => op_assign (.plain rfl)) (.nil _))))) ?_
    · omega
    · have := pickF_range n 5 (by omega); unfold InR; omega
    refine awp_seq ?_
    obtain ⟨N, hN⟩ : ∃ N : Nat, 1 + pickF n 5 = (N : Nat) := ⟨(1 + pickF n 5).toNat, by have := pickF_range n 5 (by omega); omega⟩
    have hn5 := pickF_range n 5 (by omega)
    rw [hN]
    have hN6 : 1 ≤ N ∧ N ≤ 5 := by omega
    refine awp_region rfl (.n (fun _ => op_move (.plain rfl)) (.n (fun _ => op_call2 Try.call23 (.plain rfl) (.plain rfl) (Pick_fc _ _ ?_)) (.n (fun _ => op_add (.plain rfl) (.plain rfl) ?_) (.n (fun _ => op_assign (.plain rfl)) (.nil _))))) ?_
    · omega
    · have := pickF_range many 8 (by omega); unfold InR; omega
    refine awp_seq ?_
    obtain ⟨K, hK⟩ : ∃ K : Nat, 1 + pickF many 8 = (K : Nat) := ⟨(1 + pickF many 8).toNat, by have := pickF_range many 8 (by omega); omega⟩
    have hm8 := pickF_range many 8 (by omega)
    rw [hK]
    have hK8 : 1 ≤ K ∧ K ≤ 8 := by omega
    refine awp_region rfl (.n (fun _ => op_move (.plain rfl)) (.n (fun _ => op_move (.plain rfl)) (.n (fun _ => op_move (.plain rfl)) (.n (fun _ => op_call3 Try.call24 (.plain rfl) (.plain rfl) (.plain rfl) (Ballots_fc _ _ _ ?_ ?_)) (.n (fun _ => op_assign (.plain rfl)) (.nil _)))))) ?_
    · omega
    · omega
    refine awp_seq ?_
    have hv := balL_may (raw := raw) (n := N) (many := K) (by omega) (by omega) (by omega)
    have hV := vok hv
    have hne := sch_ne hV
    refine awp_region rfl (.n (fun _ => op_move (.plain rfl)) (.n (fun _ => op_move (.plain rfl)) (.n (fun _ => op_call2 Try.call16 (.plain rfl) (.plain rfl) (Schulze_fc N (balL raw N K) hv)) (.n (fun _ => op_move (.plain rfl)) (.n (fun _ => op_extract (.plain rfl) rfl) (.n (fun _ => op_extract (.plain rfl) rfl) (.n (fun _ => op_assign (.plain rfl)) (.n (fun _ => op_assign (.plain rfl)) (.nil _))))))))) ?_
    refine awp_seq ?_
    refine awp_seq ?_
    refine awp_region rfl (.n (fun _ => op_move (.plain rfl)) (.n (fun _ => op_neq (.plain rfl) (.plain rfl)) (.n (fun _ => op_move (.plain rfl)) (.gn rfl rfl (fun hg _ => op_move (.plain rfl)) (.gn rfl rfl (fun hg _ => op_len (s := 0) Try.underlying23 (.opt rfl fun h => h)) (.gn rfl rfl (fun hg _ => op_eql (.opt rfl fun h => h) (.plain rfl)) (.n (fun _ => op_or (.plain rfl) (.plain rfl) (.plain rfl) (fun h => eqF h)) (.nil _)))))))) ?_
    refine awp_cond rfl (fun h => ?_) (fun h => ?_)
    · (try simp only [decide_eq_true_eq, decide_eq_false_iff_not, Bool.and_eq_true, Bool.or_eq_true, Bool.and_eq_false_iff, Bool.or_eq_false_iff, Bool.not_eq_true', Bool.not_eq_false', Bool.not_eq_true, Bool.not_eq_false, Bool.true_eq_false, Bool.false_eq_true] at h); (try simp only [fold_c, fold_o, Int.toNat_natCast] at h)
      exfalso
      rcases h with h | h; exact h trivial; omega
    · (try simp only [decide_eq_true_eq, decide_eq_false_iff_not, Bool.and_eq_true, Bool.or_eq_true, Bool.and_eq_false_iff, Bool.or_eq_false_iff, Bool.not_eq_true', Bool.not_eq_false', Bool.not_eq_true, Bool.not_eq_false, Bool.true_eq_false, Bool.false_eq_true] at h); (try simp only [fold_c, fold_o, Int.toNat_natCast] at h)
      refine awp_skip ?_
      refine awp_seq ?_
      obtain ⟨s, hs⟩ : ∃ s : Nat, pickF up (schF N (balL raw N K)).length = (s : Nat) := ⟨(pickF up (schF N (balL raw N K)).length).toNat, by have := pickF_range up (schF N (balL raw N K)).length (by omega); omega⟩
      have hps := pickF_range up (schF N (balL raw N K)).length (by omega)
      have hsl : s < (schF N (balL raw N K)).length := by omega
      have hxm := getD_mem (l := schF N (balL raw N K)) 0 hsl
      refine awp_region rfl (.n (fun _ => op_move (.plain rfl)) (.n (fun _ => op_move (.plain rfl)) (.n (fun _ => op_move (.plain rfl)) (.n (fun _ => op_len (s := 0) Try.underlying23 (.plain rfl)) (.n (fun _ => op_call2 Try.call23 (.plain rfl) (.plain rfl) (Pick_nat hs ?_)) (.n (fun _ => op_indexAddrN Try.underlying23 Try.sizeOf3 (.plain rfl) (.plain rfl) (fun _ => rfl) ?_) (.n (fun _ => op_load Try.isAgg3 (.plain rfl)) (.n (fun _ => op_assign (.plain rfl)) (.nil _))))))))) ?_
      · omega
      · omega
      refine awp_seq ?_
      obtain ⟨k, hkn, hxk, _⟩ := sch_mem.1 hxm
      rw [hxk] at hxm
      rw [hxk]
      obtain ⟨w, hw⟩ : ∃ w : Nat, pickF which K = (w : Nat) := ⟨(pickF which K).toNat, by have := pickF_range which K (by omega); omega⟩
      have hwK := pickF_range which K (by omega)
      have hwk : w < K := by omega
      have hwl : w < (balL raw N K).length := by rw [balL_len]; omega
      have hO := hV.ord w hwl
      have hOl := hV.olen w hwl
      have hP := balL_perm (raw := raw) (n := N) hwk
      refine awp_region rfl (.n (fun _ => op_move (.plain rfl)) (.n (fun _ => op_move (.plain rfl)) (.n (fun _ => op_move (.plain rfl)) (.n (fun _ => op_call2 Try.call23 (.plain rfl) (.plain rfl) (Pick_nat hw ?_)) (.n (fun _ => op_indexAddrN Try.underlying22 Try.sizeOf40 (.plain rfl) (.plain rfl) (fun _ => rfl) ?_) (.n (fun _ => op_load_agg Try.isAgg40 Try.sizeOf40 (.plain rfl) (Nat.le_of_ble_eq_true rfl)) (.e (op_alloc 15 Try.zeroValue40 rfl rfl rfl) rfl (.e (op_storeRA Try.sizeOf40 (.plain rfl) (.plain rfl) rfl rfl (Nat.le_of_ble_eq_true rfl) rfl) rfl (.nil _))))))))) ?_
      · omega
      · omega
      refine awp_seq ?_
      have hpl := ord_full hO (x := ((k : Nat) : Int)) (by omega) (by omega)
      have hplt := ord_lt hO ((k : Nat) : Int)
      have hpl2 := hpl
      have hplt2 := hplt
      unfold orF at hpl2 hplt2
      refine awp_region rfl (.n (fun _ => op_fieldAddrR Try.underlying40 rfl rfl Try.sizeOf23 (.plain rfl)) (.r (op_loadR Try.isAgg23 (.plain rfl) rfl rfl) (.n (fun _ => op_move (.plain rfl)) (.n (fun _ => op_call2 Try.call25 (.plain rfl) (.plain rfl) (Place_fc _ _)) (.n (fun _ => op_assign (.plain rfl)) (.nil _)))))) ?_
      refine awp_seq ?_
      obtain ⟨to, hto⟩ : ∃ to : Nat, pickF up (placeF (orF (balL raw N K) w) ((k : Nat) : Int) + 1) = (to : Nat) := ⟨(pickF up (placeF (orF (balL raw N K) w) ((k : Nat) : Int) + 1)).toNat, by have := pickF_range up (placeF (orF (balL raw N K) w) ((k : Nat) : Int) + 1) (by omega); omega⟩
      have htr := pickF_range up (placeF (orF (balL raw N K) w) ((k : Nat) : Int) + 1) (by omega)
      have htp : (to : Int) ≤ placeF (orF (balL raw N K) w) ((k : Nat) : Int) := by omega
      refine awp_region rfl (.n (fun _ => op_move (.plain rfl)) (.n (fun _ => op_move (.plain rfl)) (.n (fun _ => op_add (.plain rfl) (.plain rfl) ?_) (.n (fun _ => op_call2 Try.call23 (.plain rfl) (.plain rfl) (Pick_nat hto ?_)) (.n (fun _ => op_assign (.plain rfl)) (.nil _)))))) ?_
      · unfold InR; omega
      · omega
      refine awp_seq ?_
      refine awp_region rfl (.n (fun _ => op_assign (.plain rfl)) (.nil _)) ?_
      refine awp_seq ?_
      refine awp_seq ?_
      refine awp_region rfl (.n (fun _ => op_assign (.plain rfl)) (.nil _)) ?_
      refine awp_block ?_
      refine awp_ent (Ent.begin 18 1018 3 1 Int 0 (fun n => [.int .i64 n]) rfl rfl rfl) ?_
      refine awp_loop (σ := Nat) (fun (i : Nat) => i ≤ N) (fun (i : Nat) => ⟨[(1, .int (N : Nat)), (3, .int which), (2, .int (K : Nat)), (11, .pv (.seq (Int × List Int × Unit) (0, [], ()) (fun b => [.i b.1, .ints b.2.1]) (balL raw N K))), (14, .int ((k : Nat) : Int)), (15, .ref 15 0), (17, .int (to : Nat)), (18, .own 1018), (19, .int (i : Nat))], [(15, .box [.pv (.i (cnF (balL raw N K) w)), .pv (.ints (orF (balL raw N K) w))]), (1018, .arr 3 1 Int 0 (fun n => [.int .i64 n]) (rzTo (orF (balL raw N K) w) ((k : Nat) : Int) to i))]⟩) (fun (i : Nat) => N - i) 0 ?_ (Ent.kept ⟨rfl, rfl, rfl, rfl, rfl, rfl, rfl, rfl, rfl, trivial⟩ ⟨rfl, rfl, trivial⟩) ?_
      · exact Nat.zero_le _
      rintro i hp
      try dsimp only at hp
      have hi := hp
      have hrl := rz_len (O := orF (balL raw N K) w) (x := ((k : Nat) : Int)) (to := to) i
      refine awp_seq ?_
      refine awp_seq ?_
      refine awp_region rfl (.n (fun _ => op_move (.plain rfl)) (.n (fun _ => op_move (.plain rfl)) (.n (fun _ => op_lss (.plain rfl) (.plain rfl)) (.nil _)))) ?_
      refine awp_cond rfl (fun h => ?_) (fun h => ?_)
      · (try simp only [decide_eq_true_eq, decide_eq_false_iff_not, Bool.and_eq_true, Bool.or_eq_true, Bool.and_eq_false_iff, Bool.or_eq_false_iff, Bool.not_eq_true', Bool.not_eq_false', Bool.not_eq_true, Bool.not_eq_false, Bool.true_eq_false, Bool.false_eq_true] at h); (try simp only [fold_c, fold_o, Int.toNat_natCast] at h)
        refine awp_skip ?_
        refine awp_seq ?_
        refine awp_block ?_
        refine awp_seq ?_
        refine awp_seq ?_
        refine awp_region rfl (.n (fun _ => op_move (.plain rfl)) (.n (fun _ => op_move (.plain rfl)) (.n (fun _ => op_eql (.plain rfl) (.plain rfl)) (.nil _)))) ?_
        refine awp_cond rfl (fun h => ?_) (fun h => ?_)
        · (try simp only [decide_eq_true_eq, decide_eq_false_iff_not, Bool.and_eq_true, Bool.or_eq_true, Bool.and_eq_false_iff, Bool.or_eq_false_iff, Bool.not_eq_true', Bool.not_eq_false', Bool.not_eq_true, Bool.not_eq_false, Bool.true_eq_false, Bool.false_eq_true] at h); (try simp only [fold_c, fold_o, Int.toNat_natCast] at h)
          have h1 : i = to := by omega
          clear h
          refine awp_region rfl (.n (fun _ => op_move (.plain rfl)) (.n (fun _ => op_move (.plain rfl)) (.n (fun _ => op_slit (pp := [(0, _)]) (α := Int) (d := 0) (f := (fun n => [.int .i64 n])) [_] ety23 rfl ⟨rfl, (.plain rfl), (by simp), trivial⟩ rfl (by decide) rfl) (.e (op_append (id' := 80) (α := Int) (d := 0) (f := (fun n => [.int .i64 n])) ety23 Try.underlying23 (fun _ => rfl) (fun _ => rfl) (.plain rfl) rfl (.plain rfl) rfl ?_) rfl (.n (fun _ => op_assign (.plain rfl)) (.nil _)))))) ?_
          · first | omega | (simp; omega)
          refine awp_seq ?_
          refine awp_region rfl (.n (fun _ => op_fieldAddrR Try.underlying40 rfl rfl Try.sizeOf23 (.plain rfl)) (.r (op_loadR Try.isAgg23 (.plain rfl) rfl rfl) (.n (fun _ => op_move (.plain rfl)) (.n (fun _ => op_indexAddrN Try.underlying23 Try.sizeOf3 (.plain rfl) (.plain rfl) (fun _ => rfl) ?_) (.n (fun _ => op_load Try.isAgg3 (.plain rfl)) (.n (fun _ => op_move (.plain rfl)) (.n (fun _ => op_neq (.plain rfl) (.plain rfl)) (.nil _)))))))) ?_
          · omega
          refine awp_cond rfl (fun h => ?_) (fun h => ?_)
          · (try simp only [decide_eq_true_eq, decide_eq_false_iff_not, Bool.and_eq_true, Bool.or_eq_true, Bool.and_eq_false_iff, Bool.or_eq_false_iff, Bool.not_eq_true', Bool.not_eq_false', Bool.not_eq_true, Bool.not_eq_false, Bool.true_eq_false, Bool.false_eq_true] at h); (try simp only [fold_c, fold_o, Int.toNat_natCast] at h)
            have h2 : ¬ (orF (balL raw N K) w).getD i 0 = ((k : Nat) : Int) := h
            refine awp_region rfl (.n (fun _ => op_move (.plain rfl)) (.n (fun _ => op_fieldAddrR Try.underlying40 rfl rfl Try.sizeOf23 (.plain rfl)) (.r (op_loadR Try.isAgg23 (.plain rfl) rfl rfl) (.n (fun _ => op_move (.plain rfl)) (.n (fun _ => op_indexAddrN Try.underlying23 Try.sizeOf3 (.plain rfl) (.plain rfl) (fun _ => rfl) ?_) (.n (fun _ => op_load Try.isAgg3 (.plain rfl)) (.n (fun _ => op_slit (pp := [(0, _)]) (α := Int) (d := 0) (f := (fun n => [.int .i64 n])) [_] ety23 rfl ⟨rfl, (.plain rfl), (by simp), trivial⟩ rfl (by decide) rfl) (.e (op_append (id' := 95) (α := Int) (d := 0) (f := (fun n => [.int .i64 n])) ety23 Try.underlying23 (fun _ => rfl) (fun _ => rfl) (.plain rfl) rfl (.plain rfl) rfl ?_) rfl (.n (fun _ => op_assign (.plain rfl)) (.nil _)))))))))) ?_
            · omega
            · first | omega | (simp; omega)
            refine awp_region rfl (.n (fun _ => op_move (.plain rfl)) (.n (fun _ => op_add (.plain rfl) (.plain rfl) ?_) (.n (fun _ => op_assign (.plain rfl)) (.nil _)))) ?_
            · unfold InR; omega
            exact ⟨i + 1, by omega, by dsimp only; omega, (Ent.round 95 1018 ⟨rfl, rfl, rfl, rfl, rfl, rfl, rfl, rfl, rfl, trivial⟩ ⟨rfl, (congrArg (fun l => some (Blk.arr 3 1 Int 0 (fun n => [.int .i64 n]) l)) (by simp only [rzTo]; first | (rw [if_pos h1, if_pos h2]) | (rw [if_pos h1, if_neg h2, List.append_nil]) | (rw [if_neg h1, if_pos h2]) | (rw [if_neg h1, if_neg h2, List.append_nil]))), trivial⟩ rfl rfl rfl ⟨rfl, rfl, rfl, rfl, rfl, rfl, rfl, rfl, rfl, trivial⟩ ⟨rfl, rfl, trivial⟩)⟩
          · (try simp only [decide_eq_true_eq, decide_eq_false_iff_not, Bool.and_eq_true, Bool.or_eq_true, Bool.and_eq_false_iff, Bool.or_eq_false_iff, Bool.not_eq_true', Bool.not_eq_false', Bool.not_eq_true, Bool.not_eq_false, Bool.true_eq_false, Bool.false_eq_true] at h); (try simp only [fold_c, fold_o, Int.toNat_natCast] at h)
            have h2 : ¬ ¬ (orF (balL raw N K) w).getD i 0 = ((k : Nat) : Int) := fun c => c h
            refine awp_skip ?_
            refine awp_region rfl (.n (fun _ => op_move (.plain rfl)) (.n (fun _ => op_add (.plain rfl) (.plain rfl) ?_) (.n (fun _ => op_assign (.plain rfl)) (.nil _)))) ?_
            · unfold InR; omega
            exact ⟨i + 1, by omega, by dsimp only; omega, (Ent.round 80 1018 ⟨rfl, rfl, rfl, rfl, rfl, rfl, rfl, rfl, rfl, trivial⟩ ⟨rfl, (congrArg (fun l => some (Blk.arr 3 1 Int 0 (fun n => [.int .i64 n]) l)) (by simp only [rzTo]; first | (rw [if_pos h1, if_pos h2]) | (rw [if_pos h1, if_neg h2, List.append_nil]) | (rw [if_neg h1, if_pos h2]) | (rw [if_neg h1, if_neg h2, List.append_nil]))), trivial⟩ rfl rfl rfl ⟨rfl, rfl, rfl, rfl, rfl, rfl, rfl, rfl, rfl, trivial⟩ ⟨rfl, rfl, trivial⟩)⟩
        · (try simp only [decide_eq_true_eq, decide_eq_false_iff_not, Bool.and_eq_true, Bool.or_eq_true, Bool.and_eq_false_iff, Bool.or_eq_false_iff, Bool.not_eq_true', Bool.not_eq_false', Bool.not_eq_true, Bool.not_eq_false, Bool.true_eq_false, Bool.false_eq_true] at h); (try simp only [fold_c, fold_o, Int.toNat_natCast] at h)
          have h1 : ¬ i = to := by omega
          clear h
          refine awp_skip ?_
          refine awp_seq ?_
          refine awp_region rfl (.n (fun _ => op_fieldAddrR Try.underlying40 rfl rfl Try.sizeOf23 (.plain rfl)) (.r (op_loadR Try.isAgg23 (.plain rfl) rfl rfl) (.n (fun _ => op_move (.plain rfl)) (.n (fun _ => op_indexAddrN Try.underlying23 Try.sizeOf3 (.plain rfl) (.plain rfl) (fun _ => rfl) ?_) (.n (fun _ => op_load Try.isAgg3 (.plain rfl)) (.n (fun _ => op_move (.plain rfl)) (.n (fun _ => op_neq (.plain rfl) (.plain rfl)) (.nil _)))))))) ?_
          · omega
          refine awp_cond rfl (fun h => ?_) (fun h => ?_)
          · (try simp only [decide_eq_true_eq, decide_eq_false_iff_not, Bool.and_eq_true, Bool.or_eq_true, Bool.and_eq_false_iff, Bool.or_eq_false_iff, Bool.not_eq_true', Bool.not_eq_false', Bool.not_eq_true, Bool.not_eq_false, Bool.true_eq_false, Bool.false_eq_true] at h); (try simp only [fold_c, fold_o, Int.toNat_natCast] at h)
            have h2 : ¬ (orF (balL raw N K) w).getD i 0 = ((k : Nat) : Int) := h
            refine awp_region rfl (.n (fun _ => op_move (.plain rfl)) (.n (fun _ => op_fieldAddrR Try.underlying40 rfl rfl Try.sizeOf23 (.plain rfl)) (.r (op_loadR Try.isAgg23 (.plain rfl) rfl rfl) (.n (fun _ => op_move (.plain rfl)) (.n (fun _ => op_indexAddrN Try.underlying23 Try.sizeOf3 (.plain rfl) (.plain rfl) (fun _ => rfl) ?_) (.n (fun _ => op_load Try.isAgg3 (.plain rfl)) (.n (fun _ => op_slit (pp := [(0, _)]) (α := Int) (d := 0) (f := (fun n => [.int .i64 n])) [_] ety23 rfl ⟨rfl, (.plain rfl), (by simp), trivial⟩ rfl (by decide) rfl) (.e (op_append (id' := 95) (α := Int) (d := 0) (f := (fun n => [.int .i64 n])) ety23 Try.underlying23 (fun _ => rfl) (fun _ => rfl) (.plain rfl) rfl (.plain rfl) rfl ?_) rfl (.n (fun _ => op_assign (.plain rfl)) (.nil _)))))))))) ?_
            · omega
            · first | omega | (simp; omega)
            refine awp_region rfl (.n (fun _ => op_move (.plain rfl)) (.n (fun _ => op_add (.plain rfl) (.plain rfl) ?_) (.n (fun _ => op_assign (.plain rfl)) (.nil _)))) ?_
            · unfold InR; omega
            exact ⟨i + 1, by omega, by dsimp only; omega, (Ent.round 95 1018 ⟨rfl, rfl, rfl, rfl, rfl, rfl, rfl, rfl, rfl, trivial⟩ ⟨rfl, (congrArg (fun l => some (Blk.arr 3 1 Int 0 (fun n => [.int .i64 n]) l)) (by simp only [rzTo]; first | (rw [if_pos h1, if_pos h2]) | (rw [if_pos h1, if_neg h2, List.append_nil]) | (rw [if_neg h1, if_pos h2]) | (rw [if_neg h1, if_neg h2, List.append_nil]))), trivial⟩ rfl rfl rfl ⟨rfl, rfl, rfl, rfl, rfl, rfl, rfl, rfl, rfl, trivial⟩ ⟨rfl, rfl, trivial⟩)⟩
          · (try simp only [decide_eq_true_eq, decide_eq_false_iff_not, Bool.and_eq_true, Bool.or_eq_true, Bool.and_eq_false_iff, Bool.or_eq_false_iff, Bool.not_eq_true', Bool.not_eq_false', Bool.not_eq_true, Bool.not_eq_false, Bool.true_eq_false, Bool.false_eq_true] at h); (try simp only [fold_c, fold_o, Int.toNat_natCast] at h)
            have h2 : ¬ ¬ (orF (balL raw N K) w).getD i 0 = ((k : Nat) : Int) := fun c => c h
            refine awp_skip ?_
            refine awp_region rfl (.n (fun _ => op_move (.plain rfl)) (.n (fun _ => op_add (.plain rfl) (.plain rfl) ?_) (.n (fun _ => op_assign (.plain rfl)) (.nil _)))) ?_
            · unfold InR; omega
            exact ⟨i + 1, by omega, by dsimp only; omega, (Ent.kept ⟨rfl, rfl, rfl, rfl, rfl, rfl, rfl, rfl, rfl, trivial⟩ ⟨rfl, (congrArg (fun l => some (Blk.arr 3 1 Int 0 (fun n => [.int .i64 n]) l)) (by simp only [rzTo]; first | (rw [if_pos h1, if_pos h2]) | (rw [if_pos h1, if_neg h2, List.append_nil]) | (rw [if_neg h1, if_pos h2]) | (rw [if_neg h1, if_neg h2, List.append_nil]))), trivial⟩)⟩
      · (try simp only [decide_eq_true_eq, decide_eq_false_iff_not, Bool.and_eq_true, Bool.or_eq_true, Bool.and_eq_false_iff, Bool.or_eq_false_iff, Bool.not_eq_true', Bool.not_eq_false', Bool.not_eq_true, Bool.not_eq_false, Bool.true_eq_false, Bool.false_eq_true] at h); (try simp only [fold_c, fold_o, Int.toNat_natCast] at h)
        refine awp_exit ?_
        refine awp_seq ?_
        refine awp_seq ?_
        obtain rfl : N = i := by omega
        have hrz := rz_ok hP (by omega) htp
        have hrl2 := (ordE_zero hrz.ord).1
        refine awp_region rfl (.n (fun _ => op_move (.plain rfl)) (.n (fun _ => op_move (.plain rfl)) (.n (fun _ => op_sub (.plain rfl) (.plain rfl) ?_) (.n (fun _ => op_eql (.plain rfl) (.plain rfl)) (.n (fun _ => op_move (.plain rfl)) (.gn rfl rfl (fun hg _ => op_move (.plain rfl)) (.gr rfl rfl (fun hg => op_lenO Try.underlying23 (.opt rfl fun h => h) rfl) (.gn rfl rfl (fun hg _ => op_move (.plain rfl)) (.gn rfl rfl (fun hg _ => op_lss (.opt rfl fun h => h) (.opt rfl fun h => h)) (.n (fun _ => op_and (.plain rfl) (.plain rfl) (.plain rfl) (fun h => eqT h)) (.nil _))))))))))) ?_
        · unfold InR; omega
        refine awp_cond rfl (fun h => ?_) (fun h => ?_)
        · (try simp only [decide_eq_true_eq, decide_eq_false_iff_not, Bool.and_eq_true, Bool.or_eq_true, Bool.and_eq_false_iff, Bool.or_eq_false_iff, Bool.not_eq_true', Bool.not_eq_false', Bool.not_eq_true, Bool.not_eq_false, Bool.true_eq_false, Bool.false_eq_true] at h); (try simp only [fold_c, fold_o, Int.toNat_natCast] at h)
          exfalso
          have := h.2; omega
        · (try simp only [decide_eq_true_eq, decide_eq_false_iff_not, Bool.and_eq_true, Bool.or_eq_true, Bool.and_eq_false_iff, Bool.or_eq_false_iff, Bool.not_eq_true', Bool.not_eq_false', Bool.not_eq_true, Bool.not_eq_false, Bool.true_eq_false, Bool.false_eq_true] at h); (try simp only [fold_c, fold_o, Int.toNat_natCast] at h)
          refine awp_skip ?_
          refine awp_seq ?_
          refine awp_region rfl (.n (fun _ => op_slit0 ety22) (.n (fun _ => op_move (.plain rfl)) (.e (op_appendC (id' := 112) (α := (Int × List Int × Unit)) (d := (0, [], ())) (f := (fun b => [.i b.1, .ints b.2.1])) ety22 Try.underlying22 (fun _ => rfl) (fun _ => rfl) (.plain rfl) (.plain rfl) rfl ?_) rfl (.n (fun _ => op_assign (.plain rfl)) (.nil _))))) ?_
          · first | omega | (simp; omega)
          refine awp_seq ?_
          refine awp_ent (Ent.give 18 rfl rfl) ?_
          refine awp_region_draw mixed rfl (.n (fun _ => op_move (.plain rfl)) (.n (fun _ => op_move (.plain rfl)) (.n (fun _ => op_move (.plain rfl)) (.n (fun _ => op_call2 Try.call23 (.plain rfl) (.plain rfl) (Pick_nat hw ?_)) (.n (fun _ => op_fieldAddrR Try.underlying40 rfl rfl Try.sizeOf3 (.plain rfl)) (.r (op_loadR Try.isAgg3 (.plain rfl) rfl rfl) (.n (fun _ => op_move (.plain rfl)) (.n (fun _ => op_build (pp := [(0, _), (1, _)]) (places := #[(0, 1), (1, 1)]) Try.underlying40 Try.zeroValue40 rfl (by intro w; kernel_rfl) ⟨rfl, (.plain rfl), (by simp), rfl, (.plain rfl), (by simp), trivial⟩ rfl) (.r (op_indexAddrON Try.underlying22 Try.sizeOf40 (.plain rfl) rfl (.plain rfl) ?_) (.e (op_storeEA (cnF (balL raw N K) w, rzTo (orF (balL raw N K) w) ((k : Nat) : Int) to N, ()) Try.sizeOf40 (.plain rfl) (.plain rfl) rfl (fun _ => rfl) ?_ rfl rfl) rfl (.nil _))))))))))) ?d2 ?_
          · omega
          · first | omega | (simp; omega)
          · first | omega | (simp; omega)
          · kernel_rfl
          refine awp_seq ?_
          have hvM := rz_vote hv hwl hrz (by omega)
          have hin := raised hV (vok hvM) hkn (rz_rzd hwl hrz hV) hxm
          have hinp := place_mem.2 hin
          refine awp_ent (Ent.give 20 rfl rfl) ?_
          refine awp_region rfl (.n (fun _ => op_move (.plain rfl)) (.n (fun _ => op_move (.plain rfl)) (.n (fun _ => op_call2 Try.call16 (.plain rfl) (.plain rfl) (Schulze_fc N _ hvM)) (.n (fun _ => op_move (.plain rfl)) (.n (fun _ => op_extract (.plain rfl) rfl) (.n (fun _ => op_extract (.plain rfl) rfl) (.n (fun _ => op_assign (.plain rfl)) (.n (fun _ => op_assign (.plain rfl)) (.nil _))))))))) ?_
          refine awp_seq ?_
          refine awp_region rfl (.n (fun _ => op_move (.plain rfl)) (.n (fun _ => op_eql (.plain rfl) (.plain rfl)) (.n (fun _ => op_move (.plain rfl)) (.gn rfl rfl (fun hg _ => op_move (.plain rfl)) (.gn rfl rfl (fun hg _ => op_move (.plain rfl)) (.gn rfl rfl (fun hg _ => op_call2 Try.call26 (.opt rfl fun h => h) (.opt rfl fun h => h) (In_fc _ _)) (.n (fun _ => op_and (.plain rfl) (.plain rfl) (.plain rfl) (fun h => eqT h)) (.n (fun _ => op_assign (.plain rfl)) (.nil _))))))))) ?_
          refine awp_ret ?_
          refine retQ.ret ?_
          refine ret1 rfl rfl rfl ?_
          first | (simp; done) | (simp; exact hinp)

end Go.Proofs.Ytkbbdiodmeobaaa

