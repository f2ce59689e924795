/- All ways to choose otherwise; all nodes from one on: mathematics. Conditions: each theorem names its own. -/
import Derived.Test.YtamdkclkmijfgaaProg
import Derived.Test.YtamdkclkmijfgaaFd
namespace Go.Proofs.Ytamdkclkmijfgaa
open Go.Abs
set_option linter.unusedVariables false
set_option linter.unusedSimpArgs false


def pickF (c n : Int) : Int := (if c < 0 then -(c + 1) else c) % n
theorem pickF_range (c n : Int) (h : 1 ≤ n) : 0 ≤ pickF c n ∧ pickF c n < n := by
  unfold pickF
  exact ⟨Int.emod_nonneg _ (by omega), Int.emod_lt_of_pos _ (by omega)⟩
def atF (raw : List Int) (k : Nat) : Int := if raw.length = 0 then 0 else raw.getD (k % raw.length) 0
def upF (n : Nat) : List Int := (List.range n).map fun (i : Nat) => (i : Int)
theorem upF_succ (n : Nat) : upF (n + 1) = upF n ++ [(n : Int)] := by simp [upF, List.range_succ]
@[simp] theorem upF_length (n : Nat) : (upF n).length = n := by simp [upF]

section
variable {P : Int} {N : List Nd}
/-! ### All ways of one player -/
abbrev ownB (N : List Nd) (who : Int) (x : Nat) : Prop := plF N x = who ∧ ¬ ((kidsF N x).length : Int) = 0
def wyR (N : List Nd) (x : Nat) (d : List Int) : List (List Int) := mapr (kidsF N x).length fun j => d.set x (j : Int)
def wyM (N : List Nd) (x : Nat) (out : List (List Int)) (k : Nat) : List (List Int) := (out.take k).flatMap (wyR N x)
def wyS (N : List Nd) (who : Int) (x : Nat) (out : List (List Int)) : List (List Int) := if ownB N who x then wyM N x out out.length else out
def wyT (N : List Nd) (who : Int) (l : List Int) (c : List Int) : Nat → List (List Int)
  | 0 => [c]
  | i + 1 => wyS N who (l.getD i 0).toNat (wyT N who l c i)
def facF (N : List Nd) (who : Int) (x : Nat) : Nat := if ownB N who x then (kidsF N x).length else 1
theorem wyM_succ {x k : Nat} {out : List (List Int)} (hk : k < out.length) : wyM N x out (k + 1) = wyM N x out k ++ wyR N x (out.getD k []) := by
  unfold wyM
  rw [List.take_succ_eq_append_getElem hk, List.flatMap_append]
  simp [List.getD_eq_getElem?_getD, hk]
theorem wyM_len {x : Nat} {out : List (List Int)} : ∀ k, k ≤ out.length → (wyM N x out k).length = k * (kidsF N x).length
  | 0, _ => by simp [wyM]
  | k + 1, h => by rw [wyM_succ (by omega), List.length_append, wyM_len k (by omega)]; simp [wyR, Nat.add_mul]
theorem wyS_len {who : Int} {x : Nat} {out : List (List Int)} : (wyS N who x out).length = out.length * facF N who x := by
  unfold wyS facF; split
  · rw [wyM_len _ (Nat.le_refl _)]
  · simp
theorem wyS_own {who : Int} {x : Nat} {out : List (List Int)} (h : ownB N who x) : wyS N who x out = wyM N x out out.length := if_pos h
theorem wyS_not {who : Int} {x : Nat} {out : List (List Int)} (h : ¬ ownB N who x) : wyS N who x out = out := if_neg h
theorem fac_pos (N : List Nd) (who : Int) (x : Nat) : 1 ≤ facF N who x := by
  unfold facF; split
  · rename_i h; have := h.2; omega
  · exact Nat.le_refl _
theorem wyT_grow {who : Int} {l c : List Int} {i : Nat} : (wyT N who l c i).length ≤ (wyT N who l c (i + 1)).length := by
  rw [wyT, wyS_len]
  exact Nat.le_mul_of_pos_right _ (fac_pos N who _)
theorem wyT_mono {who : Int} {l c : List Int} {i : Nat} : ∀ d, (wyT N who l c i).length ≤ (wyT N who l c (i + d)).length
  | 0 => Nat.le_refl _
  | d + 1 => Nat.le_trans (wyT_mono d) wyT_grow
theorem mem_wyM {x : Nat} {out : List (List Int)} {d : List Int} : d ∈ wyM N x out out.length ↔ ∃ e, e ∈ out ∧ ∃ j, j < (kidsF N x).length ∧ d = e.set x (j : Int) := by
  unfold wyM wyR mapr
  rw [List.take_length]
  simp only [List.mem_flatMap, List.mem_map, List.mem_range]
  constructor
  · rintro ⟨e, he, j, hj, rfl⟩; exact ⟨e, he, j, hj, rfl⟩
  · rintro ⟨e, he, j, hj, rfl⟩; exact ⟨e, he, j, hj, rfl⟩
/-- What is alike in all of them. -/
structure WyOk (N : List Nd) (who : Int) (l : List Int) (c : List Int) (i : Nat) (d : List Int) : Prop where
  len : d.length = N.length
  same : ∀ x, x < N.length → (∀ j, j < i → (l.getD j 0).toNat = x → ¬ ownB N who x) → d.getD x 0 = c.getD x 0
  own : ∀ x, x < N.length → ownB N who x → d.getD x 0 = c.getD x 0 ∨ (0 ≤ d.getD x 0 ∧ d.getD x 0 < (kidsF N x).length)
  oth : ∀ x, x < N.length → ¬ ownB N who x → d.getD x 0 = c.getD x 0
theorem wyT_ok {who : Int} {l c : List Int} (hc : c.length = N.length) : ∀ i, ∀ d, d ∈ wyT N who l c i → WyOk N who l c i d
  | 0, d, hd => by
    have : d = c := by simpa [wyT] using hd
    subst this
    exact ⟨hc, fun _ _ _ => rfl, fun _ _ _ => .inl rfl, fun _ _ _ => rfl⟩
  | i + 1, d, hd => by
    rw [wyT] at hd
    by_cases ho : ownB N who (l.getD i 0).toNat
    · rw [wyS_own ho, mem_wyM] at hd
      obtain ⟨e, he, j, hj, rfl⟩ := hd
      have ih := wyT_ok hc i e he
      generalize hx0 : (l.getD i 0).toNat = x0 at *
      by_cases hlt : x0 < e.length
      · refine ⟨by rw [List.length_set]; exact ih.len, fun x hx h => ?_, fun x hx hox => ?_, fun x hx hnx => ?_⟩
        · have hne : x ≠ x0 := fun e => h i (by omega) (by rw [hx0]; exact e.symm) (e ▸ ho)
          rw [getD_setI _ hlt, if_neg hne]
          exact ih.same x hx fun j hj => h j (by omega)
        · rw [getD_setI _ hlt]
          split
          · rename_i e; subst e; exact .inr ⟨by omega, by omega⟩
          · exact ih.own x hx hox
        · have hne : x ≠ x0 := fun e => hnx (e ▸ ho)
          rw [getD_setI _ hlt, if_neg hne]; exact ih.oth x hx hnx
      · rw [List.set_eq_of_length_le (by omega)]
        exact ⟨ih.len, fun x hx h => ih.same x hx fun j hj => h j (by omega), ih.own, ih.oth⟩
    · rw [wyS_not ho] at hd
      have ih := wyT_ok hc i d hd
      exact ⟨ih.len, fun x hx h => ih.same x hx fun j hj => h j (by omega), ih.own, ih.oth⟩
theorem wyT_ch {who : Int} {l c : List Int} (hC : ChOk N c) {i : Nat} {d : List Int} (hd : d ∈ wyT N who l c i) : ChOk N d := by
  have h := wyT_ok hC.len i d hd
  refine ⟨h.len, fun x hx => ?_⟩
  by_cases ho : ownB N who x
  · rcases h.own x hx ho with e | e
    · rw [e]; exact hC.ok x hx
    · exact ⟨e.1, .inr e.2⟩
  · rw [h.oth x hx ho]; exact hC.ok x hx
open Classical in
/-- All that differ only there are among them. -/
theorem wyT_all {who : Int} {l c e : List Int} (hc : c.length = N.length) (he : e.length = N.length) (hl : ∀ j, j < l.length → (l.getD j 0).toNat < N.length) (hown : ∀ x, x < N.length → ownB N who x → (∃ j, j < l.length ∧ (l.getD j 0).toNat = x) → 0 ≤ e.getD x 0 ∧ e.getD x 0 < (kidsF N x).length)
    (hoth : ∀ x, x < N.length → (ownB N who x → ¬ ∃ j, j < l.length ∧ (l.getD j 0).toNat = x) → e.getD x 0 = c.getD x 0) : ∀ i, i ≤ l.length → (mapr N.length fun x => if ∃ j, j < i ∧ (l.getD j 0).toNat = x then e.getD x 0 else c.getD x 0) ∈ wyT N who l c i
  | 0, _ => by
    have h0 : wyT N who l c 0 = [c] := rfl
    rw [h0, List.mem_singleton]
    refine list_eqI (by simp [hc]) fun j hj => ?_
    rw [mapr_getD 0 (by simpa using hj), if_neg (by rintro ⟨j, hj, _⟩; omega)]
  | i + 1, hi => by
    have ih := wyT_all hc he hl hown hoth i (by omega)
    rw [wyT]
    have hx := hl i (by omega)
    generalize hx0 : (l.getD i 0).toNat = x0 at *
    by_cases ho : ownB N who x0
    · rw [wyS_own ho, mem_wyM]
      have hb := hown x0 hx ho ⟨i, by omega, hx0⟩
      refine ⟨_, ih, (e.getD x0 0).toNat, by omega, ?_⟩
      refine (mapr_set (fun _ => ?_) fun j hj hne => ?_).symm
      · rw [if_pos ⟨i, by omega, hx0⟩]; omega
      · by_cases h : ∃ q, q < i ∧ (l.getD q 0).toNat = j
        · obtain ⟨q, hq, hq2⟩ := h
          rw [if_pos ⟨q, by omega, hq2⟩, if_pos ⟨q, hq, hq2⟩]
        · rw [if_neg h, if_neg]
          rintro ⟨q, hq, hq2⟩
          by_cases e : q = i
          · subst e; exact hne (hq2.symm.trans hx0)
          · exact h ⟨q, by omega, hq2⟩
    · rw [wyS_not ho]
      have : (mapr N.length fun x => if ∃ j, j < i + 1 ∧ (l.getD j 0).toNat = x then e.getD x 0 else c.getD x 0) = (mapr N.length fun x => if ∃ j, j < i ∧ (l.getD j 0).toNat = x then e.getD x 0 else c.getD x 0) := mapr_same fun j hj => by
        by_cases h : ∃ q, q < i ∧ (l.getD q 0).toNat = j
        · obtain ⟨q, hq, hq2⟩ := h
          rw [if_pos ⟨q, by omega, hq2⟩, if_pos ⟨q, hq, hq2⟩]
        · rw [if_neg h]
          split
          · rename_i h2
            obtain ⟨q, hq, hq2⟩ := h2
            have e : q = i := by
              apply Classical.byContradiction
              intro c; exact h ⟨q, by omega, hq2⟩
            subst e
            have e2 : x0 = j := hx0.symm.trans hq2
            exact hoth j hj fun o => absurd (e2 ▸ o) ho
          · rfl
      rw [this]; exact ih
/-! ### The most that one can get -/
theorem mxK_am (g : Nat → Int) : ∀ k, mxK g k = g (amF g (k + 1))
  | 0 => by simp [mxK, amF]
  | k + 1 => by
    have ih := mxK_am g k
    rw [mxK, ih]
    show _ = g (if g (amF g (k + 1)) < g (k + 1) then k + 1 else amF g (k + 1))
    split <;> omega
theorem mxK_ge {g : Nat → Int} : ∀ {n : Nat} (j : Nat), j ≤ n → g j ≤ mxK g n
  | 0, j, hj => by
    obtain rfl : j = 0 := by omega
    exact Int.le_refl _
  | n + 1, j, hj => by
    by_cases e : j = n + 1
    · subst e; simp only [mxK]; omega
    · have := mxK_ge (g := g) (n := n) j (by omega); simp only [mxK]; omega
theorem best_ge (hT : TrOk P N) {c d : List Int} (hC : ChOk N c) (hD : ChOk N d) {who : Nat} (hs : ∀ x, x < N.length → ¬ ownB N (who : Int) x → d.getD x 0 = c.getD x 0) : ∀ (f a : Nat), a < N.length → N.length - a ≤ f → (wF N d a).getD who 0 ≤ bestF N c who f a
  | 0, a, ha, hf => by omega
  | f + 1, a, ha, hf => by
    by_cases h : (kidsF N a).length = 0
    · rw [bestF_leaf h, wF_leaf hT ha h]; exact Int.le_refl _
    · have hn := nx_in hT hD ha h
      rw [wF_step hT hD ha h]
      have ih := best_ge hT hC hD hs f (nxF N d a) hn.2.2.2 (by omega)
      by_cases hp : plF N a = (who : Int)
      · rw [bestF_own h hp]
        have := mxK_ge (g := fun k => bestF N c who f (kidN N a k)) (n := (kidsF N a).length - 1) (d.getD a 0).toNat (by omega)
        exact Int.le_trans ih this
      · rw [bestF_on h hp]
        have e : nxF N d a = nxF N c a := by unfold nxF; rw [hs a ha (fun o => hp o.1)]
        rw [← e]; exact ih
theorem best_is (hT : TrOk P N) {c d : List Int} (hC : ChOk N c) (hD : ChOk N d) {who : Nat} (hs : ∀ x, x < N.length → ¬ ownB N (who : Int) x → d.getD x 0 = c.getD x 0) (F : Nat → Nat)
    (hb : ∀ (f a : Nat), a < N.length → ∀ k, k < (kidsF N a).length → N.length - kidN N a k ≤ f → bestF N c who f (kidN N a k) = bestF N c who N.length (kidN N a k)) (ok : Nat → Prop) (hok : ∀ a k, ok a → a < N.length → k < (kidsF N a).length → ok (kidN N a k))
    (hd : ∀ a, ok a → a < N.length → ownB N (who : Int) a → d.getD a 0 = (amF (fun k => bestF N c who N.length (kidN N a k)) (kidsF N a).length : Nat)) : ∀ (f a : Nat), ok a → a < N.length → N.length - a ≤ f → (wF N d a).getD who 0 = bestF N c who f a
  | 0, a, _, ha, hf => by omega
  | f + 1, a, hoa, ha, hf => by
    by_cases h : (kidsF N a).length = 0
    · rw [bestF_leaf h, wF_leaf hT ha h]
    · have hn := nx_in hT hD ha h
      have hon : ok (nxF N d a) := hok a _ hoa ha hn.1
      rw [wF_step hT hD ha h]
      have ih := best_is hT hC hD hs F hb ok hok hd f (nxF N d a) hon hn.2.2.2 (by omega)
      by_cases hp : plF N a = (who : Int)
      · rw [bestF_own h hp, ih]
        obtain ⟨m, hm⟩ : ∃ m, (kidsF N a).length = m + 1 := ⟨(kidsF N a).length - 1, by omega⟩
        have hk : ∀ k, k < (kidsF N a).length → bestF N c who f (kidN N a k) = bestF N c who N.length (kidN N a k) := fun k hk => hb f a ha k hk (by have := kid_in hT ha hk; omega)
        rw [mxK_am, show (kidsF N a).length - 1 + 1 = (kidsF N a).length by omega]
        have e1 : amF (fun k => bestF N c who f (kidN N a k)) (kidsF N a).length = amF (fun k => bestF N c who N.length (kidN N a k)) (kidsF N a).length := amF_same fun j hj => hk j hj
        rw [e1]
        have e2 := hd a hoa ha ⟨hp, by omega⟩
        unfold nxF; rw [e2, Int.toNat_natCast]; rfl
      · rw [bestF_on h hp, ih]
        have e : nxF N d a = nxF N c a := by unfold nxF; rw [hs a ha (fun o => hp o.1)]
        rw [e]
theorem bestF_more (hT : TrOk P N) {c : List Int} (hC : ChOk N c) {who : Nat} : ∀ (f a : Nat), a < N.length → N.length - a ≤ f → ∀ d, bestF N c who (f + d) a = bestF N c who f a
  | 0, a, ha, hf, _ => by omega
  | f + 1, a, ha, hf, d => by
    rw [show f + 1 + d = (f + d) + 1 by omega]
    by_cases h : (kidsF N a).length = 0
    · rw [bestF_leaf h, bestF_leaf h]
    · have hn := nx_in hT hC ha h
      by_cases hp : plF N a = (who : Int)
      · rw [bestF_own h hp, bestF_own h hp]
        refine mxK_same fun j hj => ?_
        have hk := kid_in hT ha (k := j) (by omega)
        exact bestF_more hT hC f _ hk.2.2 (by omega) d
      · rw [bestF_on h hp, bestF_on h hp]
        exact bestF_more hT hC f _ hn.2.2.2 (by omega) d
theorem bestF_same (hT : TrOk P N) {c : List Int} (hC : ChOk N c) {who : Nat} {f a : Nat} (ha : a < N.length) (hf : N.length - a ≤ f) : bestF N c who f a = bestF N c who N.length a := by
  rcases Nat.le_total f N.length with h | h
  · have := bestF_more hT hC (who := who) f a ha hf (N.length - f)
    rw [show f + (N.length - f) = N.length by omega] at this; exact this.symm
  · have := bestF_more hT hC (who := who) N.length a ha (by omega) (f - N.length)
    rw [show N.length + (f - N.length) = f by omega] at this; exact this
/-! ### All nodes from one on -/
def unT (N : List Nd) (a : Nat) : Nat → List Int
  | 0 => [(a : Int)]
  | i + 1 => unT N a i ++ kidsF N ((unT N a i).getD i 0).toNat
def unP (N : List Nd) (a : Nat) (i : Nat) : Bool := decide ((unT N a i).length ≤ i)
def unE (N : List Nd) (a : Nat) : Nat := (firstI (unP N a) (N.length + 2)).getD 0
def unF (N : List Nd) (a : Nat) : List Int := unT N a (unE N a)
theorem unT_pre {a i : Nat} : ∀ d, ∃ r, unT N a (i + d) = unT N a i ++ r
  | 0 => ⟨[], by simp⟩
  | d + 1 => by
    obtain ⟨r, hr⟩ := unT_pre (a := a) (i := i) d
    rw [← Nat.add_assoc, unT, hr]
    exact ⟨r ++ _, List.append_assoc ..⟩
theorem unT_get {a i : Nat} (d : Nat) {j : Nat} (hj : j < (unT N a i).length) : (unT N a (i + d)).getD j 0 = (unT N a i).getD j 0 := by
  obtain ⟨r, hr⟩ := unT_pre (N := N) (a := a) (i := i) d
  rw [hr, List.getD_eq_getElem?_getD, List.getD_eq_getElem?_getD, List.getElem?_append_left hj]
structure UnOk (N : List Nd) (a : Nat) (i : Nat) : Prop where
  nd : (unT N a i).Nodup
  inn : ∀ x, x ∈ unT N a i → (a : Int) ≤ x ∧ x < (N.length : Int)
  src : ∀ x, x ∈ unT N a i → x = (a : Int) ∨ ∃ j, j < i ∧ j < (unT N a i).length ∧ x ∈ kidsF N ((unT N a i).getD j 0).toNat
  kids : ∀ j, j < i → j < (unT N a i).length → ∀ x, x ∈ kidsF N ((unT N a i).getD j 0).toNat → x ∈ unT N a i
theorem kid_rise (hT : TrOk P N) {i : Nat} (hi : i < N.length) : (kidsF N i).Nodup := by
  have hr : ∀ d k, k + d + 1 < (kidsF N i).length → (kidsF N i).getD k 0 < (kidsF N i).getD (k + d + 1) 0 := by
    intro d
    induction d with
    | zero => intro k hk; have := (hT.kid i hi (k + 1) hk).2.2 (by omega); simpa using this
    | succ d ih =>
      intro k hk
      have h1 := ih k (by omega)
      have h2 := (hT.kid i hi (k + (d + 1) + 1) hk).2.2 (by omega)
      have e : k + (d + 1) + 1 - 1 = k + d + 1 := by omega
      rw [e] at h2; omega
  rw [List.Nodup, List.pairwise_iff_getElem]
  intro a b ha hb hab e
  have := hr (b - a - 1) a (by omega)
  rw [show a + (b - a - 1) + 1 = b by omega] at this
  simp only [List.getD_eq_getElem?_getD, List.getElem?_eq_getElem ha, List.getElem?_eq_getElem hb, Option.getD_some] at this
  omega
theorem kid_mem (hT : TrOk P N) {i : Nat} (hi : i < N.length) {x : Int} (h : x ∈ kidsF N i) : (i : Int) < x ∧ x < (N.length : Int) := by
  obtain ⟨k, hk, e⟩ := List.getElem_of_mem h
  have := hT.kid i hi k hk
  rw [List.getD_eq_getElem?_getD, List.getElem?_eq_getElem hk, Option.getD_some, e] at this
  omega
theorem one_parent (hT : TrOk P N) {i j : Nat} (hi : i < N.length) (hj : j < N.length) {x : Int} (h1 : x ∈ kidsF N i) (h2 : x ∈ kidsF N j) : i = j := by
  have hx := kid_mem hT hi h1
  have hp := hT.par x.toNat (by omega) (by omega)
  apply Classical.byContradiction
  intro hne
  have e : ((x.toNat : Nat) : Int) = x := by omega
  have hone : ∀ q, q < N.length → x ∈ kidsF N q → overF N x.toNat q = 1 := fun q _ hq => by unfold overF; rw [e, if_pos (place_mem.2 hq)]
  have hge : ∀ q, 0 ≤ overF N x.toNat q := fun q => by unfold overF; split <;> omega
  have h3 := sumTo_one (f := fun q => if q = i then 0 else overF N x.toNat q) (g := overF N x.toNat) hi fun q _ hq => (if_neg hq).symm
  have h4 : sumTo (fun q => if q = j then (1 : Int) else 0) N.length ≤ sumTo (fun q => if q = i then 0 else overF N x.toNat q) N.length := sumTo_le fun q hq => by
    by_cases e2 : q = j
    · subst e2; rw [if_pos rfl, if_neg (fun c => hne c.symm), hone q hq h2]; exact Int.le_refl _
    · rw [if_neg e2]; split
      · exact Int.le_refl _
      · exact hge q
  have h5 := sumTo_one (f := fun _ => 0) (g := fun q => if q = j then (1 : Int) else 0) hj fun q _ hq => if_neg hq
  have hz : ∀ n, sumTo (fun _ => 0) n = 0 := fun n => by induction n with | zero => rfl | succ n ih => simp [sumTo, ih]
  rw [hz] at h5
  simp only [if_true] at h5 h3
  rw [hone i hi h1] at h3
  omega
theorem unOk (hT : TrOk P N) {a : Nat} (ha : a < N.length) : ∀ i, firstI (unP N a) i = none → UnOk N a i
  | 0, _ => ⟨by simp [unT], fun x hx => by have : x = (a : Int) := by simpa [unT] using hx
                                           omega, fun x hx => .inl (by simpa [unT] using hx), fun j hj => by omega⟩
  | i + 1, h => by
    have hn := firstI_none h
    have ih := unOk hT ha i (firstI_of fun j hj => hn j (by omega))
    have hi : i < (unT N a i).length := by have := hn i (by omega); unfold unP at this; simpa using this
    have hxm := getD_mem (l := unT N a i) 0 hi
    have hx := ih.inn _ hxm
    have hxl : ((unT N a i).getD i 0).toNat < N.length := by omega
    have hg : ∀ j, j < (unT N a i).length → (unT N a (i + 1)).getD j 0 = (unT N a i).getD j 0 := fun j hj => unT_get 1 hj
    have hl : (unT N a i).length ≤ (unT N a (i + 1)).length := by rw [unT, List.length_append]; omega
    refine ⟨?_, fun x hx2 => ?_, fun x hx2 => ?_, fun j hj hj2 x hx2 => ?_⟩
    · rw [unT, List.nodup_append]
      refine ⟨ih.nd, kid_rise hT hxl, fun x hx1 y hy e => ?_⟩
      subst e
      have hk := kid_mem hT hxl hy
      rcases ih.src x hx1 with e | ⟨j, hj, hj2, hxj⟩
      · omega
      · have hjx := ih.inn _ (getD_mem (l := unT N a i) 0 hj2)
        have e2 := one_parent hT (i := ((unT N a i).getD j 0).toNat) (j := ((unT N a i).getD i 0).toNat) (by omega) hxl hxj hy
        have e3 : (unT N a i).getD j 0 = (unT N a i).getD i 0 := by omega
        have := (List.pairwise_iff_getElem.1 ih.nd) j i hj2 hi hj
        simp only [List.getD_eq_getElem?_getD, List.getElem?_eq_getElem hj2, List.getElem?_eq_getElem hi, Option.getD_some] at e3
        exact this e3
    · rw [unT] at hx2
      rcases List.mem_append.1 hx2 with h1 | h1
      · exact ih.inn x h1
      · have := kid_mem hT hxl h1; omega
    · have hx3 := hx2
      rw [unT] at hx3
      rcases List.mem_append.1 hx3 with h1 | h1
      · rcases ih.src x h1 with e | ⟨j, hj, hj2, hxj⟩
        · exact .inl e
        · exact .inr ⟨j, by omega, by omega, by rw [hg j hj2]; exact hxj⟩
      · exact .inr ⟨i, by omega, by omega, by rw [hg i hi]; exact h1⟩
    · by_cases e : j = i
      · subst e
        rw [hg j hi] at hx2
        rw [unT]; exact List.mem_append_right _ hx2
      · rw [hg j (by omega)] at hx2
        rw [unT]; exact List.mem_append_left _ (ih.kids j (by omega) (by omega) x hx2)
theorem nodup_len0 : ∀ (n : Nat) (l : List Int), l.Nodup → (∀ x, x ∈ l → 0 ≤ x ∧ x < n) → l.length ≤ n
  | 0, l, _, h => by
    cases l with
    | nil => simp
    | cons x l => have := h x List.mem_cons_self; omega
  | n + 1, l, hd, h => by
    by_cases hm : (n : Int) ∈ l
    · have hp := List.perm_cons_erase hm
      have hl := hp.length_eq
      have hd2 := hp.nodup_iff.1 hd
      rw [List.nodup_cons] at hd2
      have := nodup_len0 n (l.erase (n : Int)) hd2.2 fun x hx => by
        have := h x (List.mem_of_mem_erase hx)
        have hne : x ≠ (n : Int) := fun e => hd2.1 (e ▸ hx)
        omega
      simp only [List.length_cons] at hl; omega
    · have := nodup_len0 n l hd fun x hx => by
        have := h x hx
        have hne : x ≠ (n : Int) := fun e => hm (e ▸ hx)
        omega
      omega
theorem unT_le (hT : TrOk P N) {a : Nat} (ha : a < N.length) {i : Nat} (h : firstI (unP N a) i = none) : (unT N a i).length ≤ N.length := by
  have := unOk hT ha i h
  exact nodup_len0 _ _ this.nd fun x hx => by have := this.inn x hx; omega
theorem un_i (hT : TrOk P N) {a : Nat} (ha : a < N.length) {i : Nat} (h : firstI (unP N a) i = none) : i ≤ N.length := by
  have h1 := unT_le hT ha h
  cases i with
  | zero => omega
  | succ i =>
    have h2 := firstI_none h i (by omega)
    unfold unP at h2
    have h3 : (unT N a i).length ≤ (unT N a (i + 1)).length := by rw [unT, List.length_append]; omega
    have : ¬ (unT N a i).length ≤ i := by simpa using h2
    omega
theorem un_at (hT : TrOk P N) {a : Nat} (ha : a < N.length) {i : Nat} (h : firstI (unP N a) i = none) (hi : ¬ (i : Int) < (unT N a i).length) : unT N a i = unF N a := by
  have := un_i hT ha h
  unfold unF unE
  rw [firstI_stop (k := i) h (by unfold unP; simp; omega) (by omega)]; rfl
theorem un_end (hT : TrOk P N) {a : Nat} (ha : a < N.length) : ∃ i, firstI (unP N a) i = none ∧ (unT N a i).length ≤ i ∧ unF N a = unT N a i := by
  have : ∃ i, firstI (unP N a) (N.length + 2) = some i := by
    cases e : firstI (unP N a) (N.length + 2) with
    | some i => exact ⟨i, rfl⟩
    | none => have := un_i hT ha e; omega
  obtain ⟨i, hi⟩ := this
  have hs := firstI_spec hi
  refine ⟨i, firstI_of hs.2.2, by have := hs.2.1; unfold unP at this; simpa using this, ?_⟩
  unfold unF unE; rw [hi]; rfl
theorem un_spec (hT : TrOk P N) {a : Nat} (ha : a < N.length) : (unF N a).Nodup ∧ (∀ x, x ∈ unF N a → (a : Int) ≤ x ∧ x < (N.length : Int)) ∧ (a : Int) ∈ unF N a ∧ ∀ x : Nat, (x : Int) ∈ unF N a → ∀ k, k < (kidsF N x).length → ((kidN N x k : Nat) : Int) ∈ unF N a := by
  obtain ⟨i, h1, h2, e⟩ := un_end hT ha
  have ho := unOk hT ha i h1
  rw [e]
  refine ⟨ho.nd, ho.inn, ?_, fun x hx k hk => ?_⟩
  · obtain ⟨r, hr⟩ := unT_pre (N := N) (a := a) (i := 0) i
    rw [Nat.zero_add] at hr
    rw [hr]; simp [unT]
  · obtain ⟨j, hj, hj2⟩ := List.getElem_of_mem hx
    have hxn := (ho.inn _ hx).2
    have hkk := kid_in hT (a := x) (by omega) hk
    refine ho.kids j (by omega) hj _ ?_
    rw [List.getD_eq_getElem?_getD, List.getElem?_eq_getElem hj, Option.getD_some, hj2, Int.toNat_natCast, ← hkk.1]
    exact getD_mem 0 hk
/-! ### How many ways there are -/
def prodN (g : Nat → Nat) : Nat → Nat
  | 0 => 1
  | n + 1 => prodN g n * g n
def prodL (g : Nat → Nat) : List Int → Nat
  | [] => 1
  | x :: l => prodL g l * g x.toNat
theorem prodL_perm {g : Nat → Nat} {l m : List Int} (h : l.Perm m) : prodL g l = prodL g m := by
  induction h with
  | nil => rfl
  | cons x h ih => simp only [prodL, ih]
  | swap x y l => simp only [prodL]; rw [Nat.mul_right_comm]
  | trans h1 h2 i1 i2 => exact i1.trans i2
theorem prodL_le {g : Nat → Nat} (hg : ∀ x, 1 ≤ g x) : ∀ (n : Nat) (l : List Int), l.Nodup → (∀ x, x ∈ l → 0 ≤ x ∧ x < n) → prodL g l ≤ prodN g n
  | 0, l, _, h => by
    cases l with
    | nil => simp [prodL, prodN]
    | cons x l => have := h x List.mem_cons_self; omega
  | n + 1, l, hd, h => by
    by_cases hm : (n : Int) ∈ l
    · have hp := List.perm_cons_erase hm
      have hd2 := hp.nodup_iff.1 hd
      rw [List.nodup_cons] at hd2
      have := prodL_le hg n (l.erase (n : Int)) hd2.2 fun x hx => by
        have := h x (List.mem_of_mem_erase hx)
        have hne : x ≠ (n : Int) := fun e => hd2.1 (e ▸ hx)
        omega
      rw [prodL_perm hp]
      simp only [prodL, prodN, Int.toNat_natCast]
      exact Nat.mul_le_mul_right _ this
    · have := prodL_le hg n l hd fun x hx => by
        have := h x hx
        have hne : x ≠ (n : Int) := fun e => hm (e ▸ hx)
        omega
      simp only [prodN]
      exact Nat.le_trans this (Nat.le_mul_of_pos_right _ (hg n))
theorem prodL_append {g : Nat → Nat} (x : Int) : ∀ l, prodL g (l ++ [x]) = prodL g l * g x.toNat
  | [] => by simp [prodL]
  | y :: l => by simp only [List.cons_append, prodL, prodL_append x l]; rw [Nat.mul_right_comm]
theorem wyT_len {who : Int} {l c : List Int} : ∀ i, i ≤ l.length → (wyT N who l c i).length = prodL (facF N who) (l.take i)
  | 0, _ => by simp [wyT, prodL]
  | i + 1, hi => by
    rw [wyT, wyS_len, wyT_len i (by omega), List.take_succ_eq_append_getElem (by omega), prodL_append]
    simp [List.getD_eq_getElem?_getD, show i < l.length by omega]
theorem few_all (h : fewF N = true) : ∀ i, i ≤ N.length → plT N i ≤ 256 := by
  have h1 : ∀ f i, i + f = N.length → 1 ≤ plT N i → (∀ j, j ≤ i → plT N j ≤ 256 ∨ j = i) → plT N (tillF (fun i => decide (i < N.length) && decide (plT N i ≤ 256)) f i) ≤ 256 → ∀ j, j ≤ N.length → plT N j ≤ 256 := by
    intro f
    induction f with
    | zero => intro i hi _ hp ht j hj; rw [tillF] at ht; rcases hp j (by omega) with h | h <;> first | exact h | (subst h; exact ht)
    | succ f ih =>
      intro i hi h1 hp ht j hj
      rw [tillF] at ht
      by_cases hc : plT N i ≤ 256
      · rw [if_pos (by simp; omega)] at ht
        refine ih (i + 1) (by omega) ?_ (fun j hj => ?_) ht j hj
        · unfold plT; split
          · rename_i h2; have := Int.mul_le_mul h1 (show 1 ≤ ((kidsF N i).length : Int) by omega) (by omega) (by omega); omega
          · exact h1
        · by_cases e : j = i + 1
          · exact .inr e
          · rcases hp j (by omega) with h | h
            · exact .inl h
            · subst h; exact .inl hc
      · rw [if_neg (by simp; omega)] at ht; exact absurd ht hc
  refine h1 N.length 0 (by omega) (by simp [plT]) (fun j hj => .inr (by omega)) ?_
  unfold fewF at h; simpa using h
theorem fac_le (who : Int) : ∀ n, (prodN (facF N who) n : Int) ≤ plT N n ∧ 1 ≤ prodN (facF N who) n
  | 0 => by simp [prodN, plT]
  | n + 1 => by
    obtain ⟨h1, h2⟩ := fac_le who n
    have h3 := fac_pos N who n
    have h4 : 1 ≤ prodN (facF N who) (n + 1) := by simp only [prodN]; exact Nat.mul_le_mul h2 h3
    refine ⟨?_, h4⟩
    simp only [prodN, plT, Int.natCast_mul]
    have h5 : (0 : Int) ≤ plT N n := by omega
    split
    · rename_i hk
      have : (facF N who n : Int) ≤ (kidsF N n).length := by unfold facF; split <;> omega
      exact Int.mul_le_mul h1 this (by omega) h5
    · rename_i hk
      have : facF N who n = 1 := by unfold facF; rw [if_neg]; intro c; exact c.2 (by omega)
      rw [this]; omega
theorem ways_few (hT : TrOk P N) (hF : fewF N = true) {a : Nat} (ha : a < N.length) (who : Int) (c : List Int) {i : Nat} (hi : i ≤ (unF N a).length) : (wyT N who (unF N a) c i).length ≤ 256 := by
  obtain ⟨h1, h2, _, _⟩ := un_spec hT ha
  rw [wyT_len i hi]
  have h3 := prodL_le (fac_pos N who) N.length ((unF N a).take i) (h1.sublist (List.take_sublist _ _)) fun x hx => by have := h2 x (List.mem_of_mem_take hx); omega
  have h4 := (fac_le (N := N) who N.length).1
  have h5 := few_all hF N.length (Nat.le_refl _)
  omega
open Classical in
/-- BY ALL WAYS TO CHOOSE OTHERWISE: somebody gets more just if the best is more. -/
theorem ways_best (hT : TrOk P N) {c : List Int} (hC : ChOk N c) {who a : Nat} (ha : a < N.length) (v : Int) : (∃ k, k < (wyT N (who : Int) (unF N a) c (unF N a).length).length ∧ v < (wF N ((wyT N (who : Int) (unF N a) c (unF N a).length).getD k []) a).getD who 0) ↔ v < bestF N c who N.length a := by
  obtain ⟨hnd, hin, hmem, hcl⟩ := un_spec hT ha
  constructor
  · rintro ⟨k, hk, hv⟩
    have hm := getD_mem (l := wyT N (who : Int) (unF N a) c (unF N a).length) [] hk
    have hD := wyT_ch hC hm
    have := best_ge hT hC hD (who := who) (fun x hx ho => (wyT_ok hC.len _ _ hm).oth x hx ho) N.length a ha (by omega)
    omega
  · intro hv
    let e : List Int := mapr N.length fun x => if (x : Int) ∈ unF N a ∧ ownB N (who : Int) x then ((amF (fun k => bestF N c who N.length (kidN N x k)) (kidsF N x).length : Nat) : Int) else c.getD x 0
    have hel : e.length = N.length := mapr_length _ _
    have heg : ∀ x, x < N.length → e.getD x 0 = if (x : Int) ∈ unF N a ∧ ownB N (who : Int) x then ((amF (fun k => bestF N c who N.length (kidN N x k)) (kidsF N x).length : Nat) : Int) else c.getD x 0 := fun x hx => mapr_getD 0 hx
    have hidx : ∀ x : Nat, (∃ j, j < (unF N a).length ∧ ((unF N a).getD j 0).toNat = x) ↔ (x : Int) ∈ unF N a := fun x => by
      constructor
      · rintro ⟨j, hj, e2⟩
        have h1 := getD_mem (l := unF N a) 0 hj
        have := hin _ h1
        have e3 : (unF N a).getD j 0 = (x : Int) := by omega
        rw [← e3]; exact h1
      · intro h
        obtain ⟨j, hj, e2⟩ := List.getElem_of_mem h
        exact ⟨j, hj, by rw [List.getD_eq_getElem?_getD, List.getElem?_eq_getElem hj, Option.getD_some, e2, Int.toNat_natCast]⟩
    have hlt : ∀ x, ownB N (who : Int) x → amF (fun k => bestF N c who N.length (kidN N x k)) (kidsF N x).length < (kidsF N x).length := fun x ho => amF_lt (by have := ho.2; omega)
    have hw := wyT_all (who := (who : Int)) (l := unF N a) (c := c) (e := e) hC.len hel (fun j hj => by have := hin _ (getD_mem (l := unF N a) 0 hj); omega) (fun x hx ho hj => by
      rw [heg x hx, if_pos ⟨(hidx x).1 hj, ho⟩]; have := hlt x ho; omega) (fun x hx h => by
      rw [heg x hx, if_neg]; rintro ⟨h1, h2⟩; exact h h2 ((hidx x).2 h1)) (unF N a).length (Nat.le_refl _)
    have hee : (mapr N.length fun x => if ∃ j, j < (unF N a).length ∧ ((unF N a).getD j 0).toNat = x then e.getD x 0 else c.getD x 0) = e := by
      refine list_eqI (by simp [hel]) fun x hx => ?_
      have hx : x < N.length := by simpa using hx
      rw [mapr_getD 0 hx]
      split
      · rfl
      · rename_i hno
        rw [heg x hx, if_neg]; rintro ⟨h1, _⟩; exact hno ((hidx x).2 h1)
    rw [hee] at hw
    have hD := wyT_ch hC hw
    have hb := best_is hT hC hD (who := who) (fun x hx ho => (wyT_ok hC.len _ _ hw).oth x hx ho) id (fun f b hb k hk hf => bestF_same hT hC (kid_in hT hb hk).2.2 hf) (fun b => (b : Int) ∈ unF N a) (fun b k hb _ hk => hcl b hb k hk)
      (fun b hb hbl ho => by rw [heg b hbl, if_pos ⟨hb, ho⟩]) N.length a hmem ha (by omega)
    obtain ⟨k, hk, hke⟩ := List.getElem_of_mem hw
    refine ⟨k, hk, ?_⟩
    have hge : (wyT N (who : Int) (unF N a) c (unF N a).length).getD k [] = e := by rw [List.getD_eq_getElem?_getD, List.getElem?_eq_getElem hk]; exact hke
    rw [hge, hb]
    exact hv
end

end Go.Proofs.Ytamdkclkmijfgaa

