/- The strongest ways, by both ways. Conditions: each theorem names its own. -/
import Derived.Test.YtkbbdiodmeobaaaProg
import Derived.Test.YtkbbdiodmeobaaaFd
namespace Go.Proofs.Ytkbbdiodmeobaaa
open Go.Abs
set_option linter.unusedVariables false
set_option linter.unusedSimpArgs false

/-! ### The strongest ways -/
def wM (L : List (Int × List Int × Unit)) (x y : Int) : Int := if prefF L y x < prefF L x y then prefF L x y else 0
def fwF (W : Int → Int → Int) : Nat → Int → Int → Int
  | 0 => W
  | k + 1 => fun i j => if i = j then fwF W k i j else max (fwF W k i j) (min (fwF W k i (k : Nat)) (fwF W k (k : Nat) j))
structure WOk (W : Int → Int → Int) : Prop where
  pos : ∀ x y, 0 ≤ W x y
  diag : ∀ x, W x x = 0
section
variable {W : Int → Int → Int}
theorem fw_pos (h : WOk W) : ∀ k i j, 0 ≤ fwF W k i j
  | 0, i, j => h.pos i j
  | k + 1, i, j => by
    have := fw_pos h k i j
    simp only [fwF]; split <;> omega
theorem fw_diag (h : WOk W) : ∀ k i, fwF W k i i = 0
  | 0, i => h.diag i
  | k + 1, i => by simp only [fwF]; rw [if_pos trivial]; exact fw_diag h k i
theorem fw_col (h : WOk W) (k : Nat) (i : Int) : fwF W (k + 1) i (k : Nat) = fwF W k i (k : Nat) := by
  have h1 := fw_pos h k i (k : Nat)
  have h2 := fw_diag h k (k : Nat)
  simp only [fwF]; split <;> omega
theorem fw_row (h : WOk W) (k : Nat) (j : Int) : fwF W (k + 1) (k : Nat) j = fwF W k (k : Nat) j := by
  have h1 := fw_pos h k (k : Nat) j
  have h2 := fw_diag h k (k : Nat)
  simp only [fwF]; split <;> omega
theorem fw_up (h : WOk W) : ∀ k i j, W i j ≤ fwF W k i j
  | 0, _, _ => Int.le_refl _
  | k + 1, i, j => by
    have := fw_up h k i j
    simp only [fwF]; split <;> omega
theorem fw_closed (h : WOk W) : ∀ (k m : Nat), m < k → ∀ i j : Int, i ≠ j → min (fwF W k i (m : Nat)) (fwF W k (m : Nat) j) ≤ fwF W k i j
  | k + 1, m, hm, i, j, hij => by
    have hp := fw_pos h k
    have hd := fw_diag h k
    have gp := fw_pos h (k + 1) i j
    by_cases e1 : i = (m : Nat)
    · rw [← e1, fw_diag h (k + 1)]; omega
    by_cases e2 : (m : Int) = j
    · rw [e2, fw_diag h (k + 1)]; omega
    by_cases e3 : m = k
    · subst e3
      rw [fw_col h, fw_row h]
      simp only [fwF]; rw [if_neg hij]; omega
    have ih := fw_closed h k m (by omega)
    have a := ih i j hij
    simp only [fwF]
    rw [if_neg hij, if_neg e1, if_neg e2]
    by_cases e4 : j = (k : Nat)
    · subst e4
      have := hd (k : Nat)
      omega
    by_cases e5 : i = (k : Nat)
    · subst e5
      have := hd (k : Nat)
      omega
    have b := ih (k : Nat) j (fun c => e4 c.symm)
    have c := ih i (k : Nat) e5
    omega
/-- A matrix that is shut: no way over a third one is stronger. -/
structure ShutM (n : Nat) (W B : Int → Int → Int) : Prop where
  pos : ∀ x y, 0 ≤ B x y
  up : ∀ x y, x ≠ y → W x y ≤ B x y
  shut : ∀ i m j : Nat, m < n → i ≠ j → i ≠ m → m ≠ j → min (B (i : Nat) (m : Nat)) (B (m : Nat) (j : Nat)) ≤ B (i : Nat) (j : Nat)
theorem fw_shut (h : WOk W) (n : Nat) : ShutM n W (fwF W n) := ⟨fw_pos h n, fun x y _ => fw_up h n x y, fun i m j hm hij _ _ => fw_closed h n m hm (i : Nat) (j : Nat) (by omega)⟩
theorem fw_least (h : WOk W) {n : Nat} {B : Int → Int → Int} (hB : ShutM n W B) : ∀ k, k ≤ n → ∀ i j : Nat, i ≠ j → fwF W k (i : Nat) (j : Nat) ≤ B (i : Nat) (j : Nat)
  | 0, _, i, j, hij => hB.up _ _ (by omega)
  | k + 1, hk, i, j, hij => by
    have ih := fw_least h hB k (by omega)
    have hd := fw_diag h k
    simp only [fwF]
    rw [if_neg (by omega)]
    have a := ih i j hij
    by_cases e1 : i = k
    · subst e1; have := hd (i : Nat); have := fw_pos h i (i : Nat) (j : Nat); have := hB.pos (i : Nat) (j : Nat); omega
    by_cases e2 : k = j
    · subst e2; have := hd (k : Nat); have := fw_pos h k (i : Nat) (k : Nat); have := hB.pos (i : Nat) (k : Nat); omega
    have b := ih i k e1
    have c := ih k j e2
    have d := hB.shut i k j (by omega) hij e1 e2
    omega
/-! ### Ways, one step after the other -/
def foldMax (g : Nat → Int) : Nat → Int
  | 0 => 0
  | k + 1 => max (foldMax g k) (g k)
theorem foldMax_pos (g : Nat → Int) : ∀ k, 0 ≤ foldMax g k
  | 0 => Int.le_refl _
  | k + 1 => by have := foldMax_pos g k; simp only [foldMax]; omega
theorem foldMax_ge {g : Nat → Int} : ∀ {n k : Nat}, k < n → g k ≤ foldMax g n
  | n + 1, k, h => by
    simp only [foldMax]
    by_cases e : k = n
    · subst e; omega
    · have := foldMax_ge (g := g) (n := n) (k := k) (by omega); omega
theorem foldMax_le {g : Nat → Int} {c : Int} (h0 : 0 ≤ c) : ∀ {n : Nat}, (∀ k, k < n → g k ≤ c) → foldMax g n ≤ c
  | 0, _ => h0
  | n + 1, h => by
    have := foldMax_le h0 (n := n) fun k hk => h k (by omega)
    have := h n (by omega)
    simp only [foldMax]; omega
def lastI (way : List Int) : Int := way.getD (way.length - 1) 0
/-- How strong a way is after one step more. -/
def stepS (way : List Int) (s d : Int) : Int := if 1 < way.length ∧ s < d then s else d
/-- The strongest way to y that begins so. -/
def bst (n : Nat) (W : Int → Int → Int) : Nat → List Int → Int → Int → Int
  | 0, way, s, y => if y = lastI way then s else 0
  | f + 1, way, s, y => max (if y = lastI way then s else 0) (foldMax (fun z => if ¬ (z : Int) ∈ way ∧ 0 < W (lastI way) (z : Nat) then bst n W f (way ++ [(z : Int)]) (stepS way s (W (lastI way) (z : Nat))) y else 0) n)
/-- What is known after the first k next steps. -/
def bstTo (n : Nat) (W : Int → Int → Int) (f : Nat) (way : List Int) (s y : Int) (k : Nat) : Int := max (if y = lastI way then s else 0) (foldMax (fun z => if ¬ (z : Int) ∈ way ∧ 0 < W (lastI way) (z : Nat) then bst n W (f - 1) (way ++ [(z : Int)]) (stepS way s (W (lastI way) (z : Nat))) y else 0) k)
theorem lastI_app (way : List Int) (z : Int) : lastI (way ++ [z]) = z := by
  unfold lastI
  rw [List.length_append, List.length_singleton, Nat.add_sub_cancel, List.getD_eq_getElem?_getD, List.getElem?_append_right (Nat.le_refl _)]; simp
theorem bst_le {n : Nat} {B : Int → Int → Int} (hB : ShutM n W B) {x y : Nat} (hxy : y ≠ x) : ∀ (f : Nat) (way : List Int) (s : Int) (a : Nat), a < n → lastI way = (a : Int) → (x : Int) ∈ way → (a : Int) ∈ way → ((1 < way.length ∧ a ≠ x ∧ s ≤ B (x : Nat) (a : Nat)) ∨ (way.length = 1 ∧ a = x)) → bst n W f way s (y : Nat) ≤ B (x : Nat) (y : Nat)
  | 0, way, s, a, han, hl, hx, ha, hs => by
    simp only [bst]
    have := hB.pos (x : Nat) (y : Nat)
    split
    · rename_i e
      have : a = y := by omega
      subst this
      rcases hs with hs | hs
      · exact hs.2.2
      · omega
    · exact this
  | f + 1, way, s, a, han, hl, hx, ha, hs => by
    simp only [bst]
    have hp := hB.pos (x : Nat) (y : Nat)
    have h1 : (if (y : Int) = lastI way then s else 0) ≤ B (x : Nat) (y : Nat) := by
      split
      · rename_i e
        have : a = y := by omega
        subst this
        rcases hs with hs | hs
        · exact hs.2.2
        · omega
      · exact hp
    have h2 := foldMax_le (g := fun z => if ¬ (z : Int) ∈ way ∧ 0 < W (lastI way) (z : Nat) then bst n W f (way ++ [(z : Int)]) (stepS way s (W (lastI way) (z : Nat))) (y : Nat) else 0) hp (n := n) fun z hz => by
      split
      · rename_i h
        rw [hl] at h ⊢
        have hzx : z ≠ x := fun c => h.1 (c ▸ hx)
        have hza : a ≠ z := fun c => h.1 (c ▸ ha)
        have hw : 0 < way.length := List.length_pos_of_mem hx
        refine bst_le hB hxy f _ _ z hz (lastI_app _ _) (List.mem_append_left _ hx) (by simp) (.inl ⟨by rw [List.length_append, List.length_singleton]; omega, hzx, ?_⟩)
        have hu := hB.up (a : Nat) (z : Nat) (by omega)
        unfold stepS
        rcases hs with hs | hs
        · have := hB.shut x a z han (fun c => hzx c.symm) (fun c => hs.2.1 c.symm) hza
          split <;> omega
        · rw [if_neg (by omega)]
          rw [hs.2] at hu ⊢; exact hu
      · exact hp
    omega
/-- A way, each of whose steps has at least strength t. -/
def pthL (n : Nat) (W : Int → Int → Int) (t : Int) : Nat → List Nat → Prop
  | _, [] => True
  | a, b :: l => b < n ∧ t ≤ W (a : Nat) (b : Nat) ∧ pthL n W t b l
def endL : Nat → List Nat → Nat
  | a, [] => a
  | _, b :: l => endL b l
theorem pthL_app {n : Nat} {t : Int} : ∀ {l m : List Nat} {a : Nat}, pthL n W t a l → pthL n W t (endL a l) m → pthL n W t a (l ++ m)
  | [], _, _, _, h => h
  | b :: l, m, a, h, h' => ⟨h.1, h.2.1, pthL_app h.2.2 h'⟩
theorem endL_app : ∀ {l m : List Nat} {a : Nat}, endL a (l ++ m) = endL (endL a l) m
  | [], _, _ => rfl
  | b :: l, m, a => endL_app (l := l)
theorem pthL_suf {n : Nat} {t : Int} : ∀ {l m : List Nat} {a b : Nat}, pthL n W t a (l ++ b :: m) → pthL n W t b m
  | [], _, _, _, h => h.2.2
  | c :: l, m, a, b, h => pthL_suf (l := l) h.2.2
theorem endL_suf : ∀ {l m : List Nat} {a b : Nat}, endL a (l ++ b :: m) = endL b m
  | [], _, _, _ => rfl
  | c :: l, m, a, b => endL_suf (l := l)
theorem fw_path (h : WOk W) {n : Nat} : ∀ (k : Nat), k ≤ n → ∀ i j : Nat, i ≠ j → j < n → 0 < fwF W k (i : Nat) (j : Nat) → ∃ l, l ≠ [] ∧ pthL n W (fwF W k (i : Nat) (j : Nat)) i l ∧ endL i l = j
  | 0, _, i, j, hij, hj, hp => ⟨[j], by simp, ⟨hj, Int.le_refl _, trivial⟩, rfl⟩
  | k + 1, hk, i, j, hij, hj, hp => by
    have mono : ∀ {t u : Int} {l : List Nat} {a : Nat}, u ≤ t → pthL n W t a l → pthL n W u a l := by
      intro t u l
      induction l with
      | nil => intro _ _ _; trivial
      | cons b l ih => intro a hu h; exact ⟨h.1, Int.le_trans hu h.2.1, ih hu h.2.2⟩
    have e : fwF W (k + 1) (i : Nat) (j : Nat) = max (fwF W k (i : Nat) (j : Nat)) (min (fwF W k (i : Nat) (k : Nat)) (fwF W k (k : Nat) (j : Nat))) := by simp only [fwF]; rw [if_neg (by omega)]
    rw [e] at hp ⊢
    by_cases c : fwF W k (i : Nat) (j : Nat) < min (fwF W k (i : Nat) (k : Nat)) (fwF W k (k : Nat) (j : Nat))
    · have hik : i ≠ k := fun e => by subst e; have := fw_diag h i (i : Nat); have := fw_pos h i (i : Nat) (j : Nat); omega
      have hkj : k ≠ j := fun e => by subst e; have := fw_diag h k (k : Nat); have := fw_pos h k (i : Nat) (k : Nat); omega
      obtain ⟨l, hl0, hl, he⟩ := fw_path h (n := n) k (by omega) i k hik (by omega) (by omega)
      obtain ⟨m, hm0, hm, he2⟩ := fw_path h (n := n) k (by omega) k j hkj hj (by omega)
      refine ⟨l ++ m, by simp [hl0], pthL_app (mono (by omega) hl) (by rw [he]; exact mono (by omega) hm), by rw [endL_app, he, he2]⟩
    · obtain ⟨l, hl0, hl, he⟩ := fw_path h (n := n) k (by omega) i j hij hj (by omega)
      exact ⟨l, hl0, mono (by omega) hl, he⟩
/-- Each way can be made one without the same thing twice. -/
theorem shorten {n : Nat} {t : Int} : ∀ (m : Nat) (a : Nat) (l : List Nat), l.length ≤ m → pthL n W t a l → ∃ l', pthL n W t a l' ∧ endL a l' = endL a l ∧ (a :: l').Nodup ∧ ∀ b, b ∈ l' → b ∈ l
  | 0, a, l, hm, h => by
    have : l = [] := List.eq_nil_of_length_eq_zero (by omega)
    subst this
    exact ⟨[], trivial, rfl, by simp, fun b hb => hb⟩
  | m + 1, a, l, hm, h => by
    by_cases c : a ∈ l
    · obtain ⟨l1, l2, e⟩ := List.append_of_mem c
      subst e
      rw [List.length_append, List.length_cons] at hm
      obtain ⟨l', h1, h2, h3, h4⟩ := shorten m a l2 (by omega) (pthL_suf h)
      exact ⟨l', h1, by rw [h2, endL_suf], h3, fun b hb => by have := h4 b hb; simp [this]⟩
    · match l, h, hm, c with
      | [], _, _, _ => exact ⟨[], trivial, rfl, by simp, fun b hb => hb⟩
      | b :: l, h, hm, c =>
        obtain ⟨l', h1, h2, h3, h4⟩ := shorten m b l (by simpa using hm) h.2.2
        refine ⟨b :: l', ⟨h.1, h.2.1, h1⟩, h2, ?_, fun z hz => ?_⟩
        · rw [List.nodup_cons]
          refine ⟨fun ha => c ?_, h3⟩
          rcases List.mem_cons.1 ha with e | e
          · rw [e]; exact List.mem_cons_self
          · exact List.mem_cons_of_mem _ (h4 a e)
        · rcases List.mem_cons.1 hz with e | e
          · rw [e]; exact List.mem_cons_self
          · exact List.mem_cons_of_mem _ (h4 z e)
theorem bst_ge (h : WOk W) {n : Nat} {t : Int} (ht : 0 < t) {y : Nat} : ∀ (l : List Nat) (f : Nat) (way : List Int) (s : Int) (a : Nat), lastI way = (a : Int) → 0 < way.length → pthL n W t a l → (∀ b, b ∈ l → ¬ (b : Int) ∈ way) → l.Nodup → l.length ≤ f → (1 < way.length → t ≤ s) → (l = [] → 1 < way.length) → endL a l = y → t ≤ bst n W f way s (y : Nat)
  | [], f, way, s, a, hl, hw, _, _, _, _, hs, hs1, he => by
    have h1 := hs (hs1 rfl)
    have : (if ((y : Nat) : Int) = lastI way then s else 0) = s := if_pos (by rw [hl, ← he]; rfl)
    cases f with
    | zero => simp only [bst]; rw [this]; exact h1
    | succ f => simp only [bst]; rw [this]; omega
  | b :: l, f, way, s, a, hl, hw, hp, hn, hnd, hf, hs, _, he => by
    cases f with
    | zero => simp at hf
    | succ f =>
      have hb : ¬ (b : Int) ∈ way ∧ 0 < W (lastI way) (b : Nat) := ⟨hn b List.mem_cons_self, by rw [hl]; have := hp.2.1; omega⟩
      have key : t ≤ bst n W f (way ++ [(b : Int)]) (stepS way s (W (lastI way) (b : Nat))) (y : Nat) := by
        refine bst_ge h ht l f _ _ b (lastI_app _ _) (by simp) hp.2.2 (fun c hc hcw => ?_) (List.nodup_cons.1 hnd).2 (by simpa using hf) (fun _ => ?_) (fun _ => by rw [List.length_append, List.length_singleton]; omega) he
        · rcases List.mem_append.1 hcw with h1 | h1
          · exact hn c (List.mem_cons_of_mem _ hc) h1
          · have : c = b := by simp at h1; omega
            subst this
            exact (List.nodup_cons.1 hnd).1 hc
        · have := hp.2.1
          rw [hl]
          unfold stepS
          split
          · rename_i h1; exact hs h1.1
          · exact this
      have := foldMax_ge (g := fun z => if ¬ (z : Int) ∈ way ∧ 0 < W (lastI way) (z : Nat) then bst n W f (way ++ [(z : Int)]) (stepS way s (W (lastI way) (z : Nat))) (y : Nat) else 0) hp.1
      rw [if_pos hb] at this
      simp only [bst]
      omega
/-- Different numbers below n are no more than n. -/
theorem nodup_le {n : Nat} {l : List Nat} (hn : l.Nodup) (hl : ∀ b, b ∈ l → b < n) : l.length ≤ n := by
  rcases Nat.lt_or_ge n l.length with h | h
  · exfalso
    have hg : ∀ k (hk : k < l.length), l.getD k 0 = l[k] := fun k hk => by simp [List.getD_eq_getElem?_getD, hk]
    have inj : ∀ i k, i < l.length → k < l.length → l.getD i 0 = l.getD k 0 → i = k := fun i k hi hk e => by
      rw [hg i hi, hg k hk] at e
      exact (List.getElem_inj hn).1 e
    obtain ⟨k, hk, e⟩ := full_of n (fun k => l.getD k 0) (fun k hk => hl _ (getD_mem 0 (by omega))) (fun i k hi hk e => inj i k (by omega) (by omega) e) (l.getD n 0) (hl _ (getD_mem 0 (by omega)))
    have := inj k n (by omega) (by omega) e
    omega
  · exact h
theorem nodup_all {n : Nat} {l : List Nat} (hn : l.Nodup) (hl : ∀ b, b ∈ l → b < n) (he : l.length = n) {y : Nat} (hy : y < n) : y ∈ l := by
  have hg : ∀ k (hk : k < l.length), l.getD k 0 = l[k] := fun k hk => by simp [List.getD_eq_getElem?_getD, hk]
  obtain ⟨k, hk, e⟩ := full_of n (fun k => l.getD k 0) (fun k hk => hl _ (getD_mem 0 (by omega))) (fun i k hi hk e => by
    have e' : l.getD i 0 = l.getD k 0 := e
    rw [hg i (by omega), hg k (by omega)] at e'
    exact (List.getElem_inj hn).1 e') y hy
  rw [← e]; exact getD_mem 0 (by omega)
/-- Both ways to reckon come to the same. -/
theorem bst_fw (h : WOk W) {n x y : Nat} (hx : x < n) (hy : y < n) (hxy : x ≠ y) : bst n W (n - 1) [(x : Int)] 0 (y : Nat) = fwF W n (x : Nat) (y : Nat) := by
  have hl : lastI [(x : Int)] = (x : Int) := rfl
  refine Int.le_antisymm (bst_le (fw_shut h n) (fun c => hxy c.symm) _ _ _ x hx hl (by simp) (by simp) (.inr ⟨rfl, rfl⟩)) ?_
  rcases Int.lt_or_le 0 (fwF W n (x : Nat) (y : Nat)) with hp | hp
  · obtain ⟨l, hl0, hpl, he⟩ := fw_path h n (Nat.le_refl _) x y hxy hy hp
    obtain ⟨l', h1, h2, h3, h4⟩ := shorten l.length x l (Nat.le_refl _) hpl
    have hin : ∀ (m : List Nat) (a : Nat), pthL n W (fwF W n (x : Nat) (y : Nat)) a m → ∀ b, b ∈ m → b < n := by
      intro m
      induction m with
      | nil => intro a _ b hb; simp at hb
      | cons c m ih =>
        intro a hm b hb
        rcases List.mem_cons.1 hb with e | e
        · rw [e]; exact hm.1
        · exact ih c hm.2.2 b e
    have hlen := nodup_le h3 fun b hb => by
      rcases List.mem_cons.1 hb with e | e
      · rw [e]; exact hx
      · exact hin l' x h1 b e
    rw [List.length_cons] at hlen
    refine bst_ge h hp l' (n - 1) _ 0 x hl (by simp) h1 (fun b hb c => ?_) (List.nodup_cons.1 h3).2 (by omega) (fun c => by simp at c) (fun c => ?_) (by rw [h2, he])
    · have : b = x := by simp at c; omega
      subst this
      exact (List.nodup_cons.1 h3).1 hb
    · subst c
      have : x = y := by rw [← he, ← h2]; rfl
      exact absurd this hxy
  · have h0 : 0 ≤ bst n W (n - 1) [(x : Int)] 0 (y : Nat) := by
      cases n - 1 with
      | zero => simp only [bst]; split <;> omega
      | succ f =>
        have := foldMax_pos (fun z => if ¬ (z : Int) ∈ [(x : Int)] ∧ 0 < W (lastI [(x : Int)]) (z : Nat) then bst n W f ([(x : Int)] ++ [(z : Int)]) (stepS [(x : Int)] 0 (W (lastI [(x : Int)]) (z : Nat))) (y : Nat) else 0) n
        simp only [bst]; omega
    omega
end
theorem wM_ok {n : Nat} {L : List (Int × List Int × Unit)} (hV : VOk n L) : WOk (wM L) := ⟨fun x y => by have := prefF_bd hV x y; unfold wM; split <;> omega, fun x => by unfold wM; rw [if_neg (by omega)]⟩
def pthM (n : Nat) (L : List (Int × List Int × Unit)) : List (List Int) := mkM n (fwF (wM L) n)
@[simp] theorem pthM_length {n : Nat} {L : List (Int × List Int × Unit)} : (pthM n L).length = n := by simp [pthM]
theorem pthM_row {n : Nat} {L : List (Int × List Int × Unit)} {x : Nat} (h : x < n) : ((pthM n L).getD x []).length = n := by unfold pthM; rw [mkM_row h]; simp
theorem pthM_two {n : Nat} {L : List (Int × List Int × Unit)} {x y : Nat} (hx : x < n) (hy : y < n) : ((pthM n L).getD x []).getD y 0 = fwF (wM L) n (x : Nat) (y : Nat) := by unfold pthM; rw [mkM_row hx, mapr_getD _ hy]
/-- In place: what is there while a stage is under way. -/
def midF (W : Int → Int → Int) (k i j : Nat) (a b : Int) : Int := if a < (i : Nat) ∨ (a = (i : Nat) ∧ b < (j : Nat)) then fwF W (k + 1) a b else fwF W k a b
section
variable {W : Int → Int → Int}
theorem mid_start {k : Nat} {a b : Int} (ha : 0 ≤ a) (hb : 0 ≤ b) : fwF W k a b = midF W k 0 0 a b := by unfold midF; rw [if_neg (by omega)]
theorem mid_next {n k i : Nat} {a b : Int} (hb : b < (n : Int)) (h0 : 0 ≤ b) : midF W k i n a b = midF W k (i + 1) 0 a b := by
  unfold midF
  by_cases e : a < ((i + 1 : Nat) : Int)
  · rw [if_pos (by omega), if_pos (.inl e)]
  · rw [if_neg (by omega), if_neg (by omega)]
theorem mid_end {n k : Nat} {a b : Int} (ha : a < (n : Int)) : midF W k n 0 a b = fwF W (k + 1) a b := by unfold midF; rw [if_pos (.inl ha)]
theorem mid_col (h : WOk W) {k i j : Nat} {a : Int} : midF W k i j a (k : Nat) = fwF W k a (k : Nat) := by unfold midF; (split; exact fw_col h k a; rfl)
theorem mid_row (h : WOk W) {k i j : Nat} {b : Int} : midF W k i j (k : Nat) b = fwF W k (k : Nat) b := by unfold midF; (split; exact fw_row h k b; rfl)
theorem mid_here {k i j : Nat} : midF W k i j (i : Nat) (j : Nat) = fwF W k (i : Nat) (j : Nat) := by unfold midF; rw [if_neg (by omega)]
theorem mid_set {k i j : Nat} (hij : i ≠ j) {a b : Int} : (if a = (i : Nat) ∧ b = (j : Nat) then max (fwF W k (i : Nat) (j : Nat)) (min (fwF W k (i : Nat) (k : Nat)) (fwF W k (k : Nat) (j : Nat))) else midF W k i j a b) = midF W k i (j + 1) a b := by
  by_cases e : a = (i : Nat) ∧ b = (j : Nat)
  · rw [if_pos e, e.1, e.2]
    unfold midF; rw [if_pos (by omega)]
    simp only [fwF]; rw [if_neg (by omega)]
  · rw [if_neg e]
    unfold midF
    by_cases c : a < (i : Nat) ∨ (a = (i : Nat) ∧ b < (j : Nat))
    · rw [if_pos c, if_pos (by omega)]
    · rw [if_neg c, if_neg (by omega)]
theorem mid_skip (h : WOk W) {k i : Nat} {a b : Int} : midF W k i i a b = midF W k i (i + 1) a b := by
  by_cases e : a = (i : Nat) ∧ b = (i : Nat)
  · rw [e.1, e.2]
    unfold midF; rw [if_neg (by omega), if_pos (by omega), fw_diag h, fw_diag h]
  · unfold midF
    by_cases c : a < (i : Nat) ∨ (a = (i : Nat) ∧ b < (i : Nat))
    · rw [if_pos c, if_pos (by omega)]
    · rw [if_neg c, if_neg (by omega)]
end
/-! ### The rows of both -/
def wS (L : List (Int × List Int × Unit)) (n i k : Nat) : List Int := mapr n fun y => if y < k then wM L (i : Nat) (y : Nat) else 0
section
variable {n : Nat} {L : List (Int × List Int × Unit)}
@[simp] theorem wS_length {i k : Nat} : (wS L n i k).length = n := by simp [wS]
theorem wS_zero {i : Nat} : List.replicate n 0 = wS L n i 0 := by rw [replicate_mapr]; exact mapr_same fun y _ => by rw [if_neg (Nat.not_lt_zero _)]
theorem wS_set {i k : Nat} {v : Int} (h : prefF L (k : Nat) (i : Nat) < prefF L (i : Nat) (k : Nat)) (hv : v = prefF L (i : Nat) (k : Nat)) : (wS L n i k).set k v = wS L n i (k + 1) :=
  mapr_set (fun _ => by rw [if_pos (by omega)]; unfold wM; rw [if_pos h, hv]) fun j hj hne => by
    by_cases e : j < k
    · rw [if_pos e, if_pos (by omega)]
    · rw [if_neg e, if_neg (by omega)]
theorem wS_skip {i k : Nat} (h : ¬ prefF L (k : Nat) (i : Nat) < prefF L (i : Nat) (k : Nat)) : wS L n i k = wS L n i (k + 1) := mapr_same fun j hj => by
  by_cases e : j < k
  · rw [if_pos e, if_pos (by omega)]
  · rw [if_neg e]
    by_cases e2 : j = k
    · subst e2; rw [if_pos (by omega)]; unfold wM; rw [if_neg h]
    · rw [if_neg (by omega)]
theorem wS_end {i : Nat} : wS L n i n = mapr n fun y => wM L (i : Nat) (y : Nat) := mapr_same fun j hj => by rw [if_pos hj]
theorem mk_mat (f : Int → Int → Int) : MatI n (mkM n f) f := ⟨⟨by simp, fun k hk => by rw [mkM_row hk]; simp⟩, fun x hx y hy => mkM_at hx hy⟩
theorem rowsH_last {e : TypeId} {b i : Nat} {A : List (List Int)} {R : List Int} (h : A.length = i) : List.lookup (i + b) (rowsH e b (A ++ [R])) = some (rowB e R) := by
  rw [rowsH_at (by simp [h]), List.getD_eq_getElem?_getD, List.getElem?_append_right (by omega)]; simp [h]
theorem rowsH_init {e : TypeId} {b k : Nat} {A : List (List Int)} {R : List Int} (h : k < A.length) : List.lookup (k + b) (rowsH e b (A ++ [R])) = some (rowB e (A.getD k [])) := by
  rw [rowsH_at (by simp; omega), List.getD_eq_getElem?_getD, List.getD_eq_getElem?_getD, List.getElem?_append_left h]
theorem fw_set {W : Int → Int → Int} (h : WOk W) {k z : Nat} {a b : Int} : (if a = (z : Nat) ∧ b = (z : Nat) then 0 else fwF W k a b) = fwF W k a b := by
  split
  · rename_i e; rw [e.1, e.2, fw_diag h]
  · rfl
end
/-- A way so far. -/
structure WayOk (n f : Nat) (way : List Int) : Prop where
  len : way.length + f = n
  pos : 0 < way.length
  nat : ∃ l : List Nat, way = l.map (fun (i : Nat) => (i : Int)) ∧ l.Nodup ∧ ∀ b, b ∈ l → b < n
section
variable {n f : Nat} {way : List Int} {L : List (Int × List Int × Unit)} {W : Int → Int → Int} {s : Int} {r : Nat → Int}
theorem WayOk.last (h : WayOk n f way) : ∃ a : Nat, lastI way = (a : Int) ∧ a < n := by
  obtain ⟨l, e, hn, hl⟩ := h.nat
  have hp := h.pos
  subst e
  rw [List.length_map] at hp
  unfold lastI
  rw [List.length_map]
  have hlt : l.length - 1 < l.length := by omega
  refine ⟨l[l.length - 1], by simp [List.getD_eq_getElem?_getD, hlt], hl _ (List.getElem_mem _)⟩
theorem WayOk.mem (h : WayOk n f way) {z : Nat} (hz : z < n) (hf : f = 0) : (z : Int) ∈ way := by
  obtain ⟨l, e, hn, hl⟩ := h.nat
  have := h.len
  subst e
  rw [List.length_map] at this
  exact List.mem_map.2 ⟨z, nodup_all hn hl (by omega) hz, rfl⟩
theorem WayOk.add (h : WayOk n (f + 1) way) {z : Nat} (hz : z < n) (hn : ¬ (z : Int) ∈ way) : WayOk n f (way ++ [(z : Int)]) := by
  obtain ⟨l, e, hnd, hl⟩ := h.nat
  have := h.len
  refine ⟨by rw [List.length_append, List.length_singleton]; omega, by simp, l ++ [z], by rw [e]; simp, ?_, fun b hb => ?_⟩
  · rw [List.nodup_append]
    refine ⟨hnd, by simp, fun a ha b hb c => ?_⟩
    have hbz : b = z := by simpa using hb
    subst c
    subst hbz
    exact hn (by rw [e]; exact List.mem_map.2 ⟨a, ha, rfl⟩)
  · rcases List.mem_append.1 hb with c | c
    · exact hl b c
    · have : b = z := by simpa using c
      omega
theorem WayOk.one {x : Nat} (hx : x < n) (hn : 1 ≤ n) : WayOk n (n - 1) [(x : Int)] := by
  refine ⟨by simp; omega, by simp, [x], rfl, by simp, fun b hb => ?_⟩
  have : b = x := by simpa using hb
  omega
theorem bstTo_pos {y : Int} (hs : 0 ≤ s) (k : Nat) : 0 ≤ bstTo n W f way s y k := by
  have := foldMax_pos (fun z => if ¬ (z : Int) ∈ way ∧ 0 < W (lastI way) (z : Nat) then bst n W (f - 1) (way ++ [(z : Int)]) (stepS way s (W (lastI way) (z : Nat))) y else 0) k
  unfold bstTo; omega
theorem str_set {a : Nat} (ha : lastI way = (a : Int)) (hs : 0 ≤ s) (h : (mapr n r).getD a 0 < s) (hr : ∀ y, y < n → 0 ≤ r y) : (mapr n r).set a s = mapr n fun q => max (r q) (bstTo n W f way s (q : Nat) 0) :=
  mapr_set (fun hlt => by
    rw [mapr_getD _ hlt] at h
    unfold bstTo foldMax; rw [ha, if_pos rfl]; omega) fun j hj hne => by
    have := hr j hj
    unfold bstTo foldMax; rw [ha, if_neg (by omega)]; omega
theorem str_keep {a : Nat} (ha : lastI way = (a : Int)) (han : a < n) (h : ¬ (mapr n r).getD a 0 < s) (hr : ∀ y, y < n → 0 ≤ r y) : mapr n r = mapr n fun q => max (r q) (bstTo n W f way s (q : Nat) 0) := mapr_same fun j hj => by
  have := hr j hj
  rw [mapr_getD _ han] at h
  unfold bstTo foldMax; rw [ha]
  split
  · rename_i e
    have : j = a := by omega
    subst this; omega
  · omega
theorem bstTo_skip {k : Nat} {y : Int} (hs : 0 ≤ s) (h : ¬ (¬ (k : Int) ∈ way ∧ 0 < W (lastI way) (k : Nat))) : bstTo n W f way s y k = bstTo n W f way s y (k + 1) := by
  have := foldMax_pos (fun z => if ¬ (z : Int) ∈ way ∧ 0 < W (lastI way) (z : Nat) then bst n W (f - 1) (way ++ [(z : Int)]) (stepS way s (W (lastI way) (z : Nat))) y else 0) k
  unfold bstTo; simp only [foldMax]; rw [if_neg h]; omega
theorem bstTo_step {k : Nat} {y : Int} (h : ¬ (k : Int) ∈ way ∧ 0 < W (lastI way) (k : Nat)) : max (bstTo n W (f + 1) way s y k) (bst n W f (way ++ [(k : Int)]) (stepS way s (W (lastI way) (k : Nat))) y) = bstTo n W (f + 1) way s y (k + 1) := by
  unfold bstTo; simp only [foldMax, Nat.add_sub_cancel]; rw [if_pos h]; omega
theorem bst_end {y : Int} (hs : 0 ≤ s) (h : WayOk n f way) : bstTo n W f way s y n = bst n W f way s y := by
  cases f with
  | succ f => rfl
  | zero =>
    show bstTo n W 0 way s y n = if y = lastI way then s else 0
    unfold bstTo
    have : foldMax (fun z => if ¬ (z : Int) ∈ way ∧ 0 < W (lastI way) (z : Nat) then bst n W (0 - 1) (way ++ [(z : Int)]) (stepS way s (W (lastI way) (z : Nat))) y else 0) n ≤ 0 := foldMax_le (Int.le_refl _) fun k hk => by
      rw [if_neg fun c => c.1 (h.mem hk rfl)]; exact Int.le_refl _
    have h2 := foldMax_pos (fun z => if ¬ (z : Int) ∈ way ∧ 0 < W (lastI way) (z : Nat) then bst n W (0 - 1) (way ++ [(z : Int)]) (stepS way s (W (lastI way) (z : Nat))) y else 0) n
    split <;> omega
end
theorem wM_win {n : Nat} {L : List (Int × List Int × Unit)} (hV : VOk n L) {x y : Int} : 0 < wM L x y ↔ prefF L y x < prefF L x y := by
  have := prefF_bd hV y x
  unfold wM
  constructor
  · intro h; split at h
    · assumption
    · omega
  · intro h; rw [if_pos h]; omega
theorem wM_at {L : List (Int × List Int × Unit)} {x y : Int} (h : prefF L y x < prefF L x y) : wM L x y = prefF L x y := if_pos h
/-- The row of one thing. -/
theorem row_eq {n : Nat} {L : List (Int × List Int × Unit)} (hV : VOk n L) {x : Nat} (hx : x < n) : (mapr n fun q => max ((fun _ => (0 : Int)) q) (bst n (wM L) (n - 1) [(x : Int)] 0 (q : Nat))).set x 0 = mapr n fun y => fwF (wM L) n (x : Nat) (y : Nat) :=
  mapr_set (fun _ => fw_diag (wM_ok hV) n (x : Nat)) fun j hj hne => by
    have h1 := bst_fw (wM_ok hV) hx hj (fun c => hne c.symm)
    have h2 := fw_pos (wM_ok hV) n (x : Nat) (j : Nat)
    show fwF (wM L) n (x : Nat) (j : Nat) = max (0 : Int) (bst n (wM L) (n - 1) [(x : Int)] 0 (j : Nat))
    rw [h1]
    omega
def schB (P : Int → Int → Int) (x : Nat) : Nat → Bool
  | 0 => true
  | k + 1 => schB P x k && decide (P (k : Nat) (x : Nat) ≤ P (x : Nat) (k : Nat))
def schF (n : Nat) (L : List (Int × List Int × Unit)) : List Int := whereTo (fun x => schB (fwF (wM L) n) x n) n
section
variable {n f : Nat} {way : List Int} {L : List (Int × List Int × Unit)} {s : Int}
theorem str_no (hV : VOk n L) {a y : Nat} (hla : lastI way = (a : Int)) (ha : a < n) (hy : y < n) (h : 0 ≤ placeF way (y : Nat) ∨ ((prM n L).getD a []).getD y 0 ≤ ((prM n L).getD y []).getD a 0) : ¬ (¬ (y : Int) ∈ way ∧ 0 < wM L (lastI way) (y : Nat)) := by
  rintro ⟨h1, h2⟩
  rcases h with h | h
  · exact h1 (place_mem.1 h)
  · rw [prM_two ha hy, prM_two hy ha] at h
    rw [hla] at h2
    have := (wM_win hV).1 h2
    omega
theorem str_yes (hV : VOk n L) {a y : Nat} (hla : lastI way = (a : Int)) (ha : a < n) (hy : y < n) (h : ¬ 0 ≤ placeF way (y : Nat) ∧ ¬ ((prM n L).getD a []).getD y 0 ≤ ((prM n L).getD y []).getD a 0) : ¬ (y : Int) ∈ way ∧ 0 < wM L (lastI way) (y : Nat) := by
  refine ⟨fun c => h.1 (place_mem.2 c), ?_⟩
  have h2 := h.2
  rw [prM_two ha hy, prM_two hy ha] at h2
  rw [hla]
  exact (wM_win hV).2 (by omega)
theorem WayOk.more (h : WayOk n f way) {y : Nat} (hy : y < n) (hn : ¬ (y : Int) ∈ way) : ∃ g, f = g + 1 := by
  cases f with
  | zero => exact absurd (h.mem hy rfl) hn
  | succ g => exact ⟨g, rfl⟩
theorem str_s (hV : VOk n L) {a y : Nat} (hla : lastI way = (a : Int)) (ha : a < n) (hy : y < n) (h : 0 < wM L (lastI way) (y : Nat)) : stepS way s (wM L (lastI way) (y : Nat)) = stepS way s (prefF L (a : Nat) (y : Nat)) := by
  rw [hla] at h ⊢
  rw [wM_at ((wM_win hV).1 h)]
theorem step_bd (hs : 0 ≤ s ∧ s ≤ 30000) {d : Int} (hd : 0 ≤ d ∧ d ≤ 30000) : 0 ≤ stepS way s d ∧ stepS way s d ≤ 30000 := by unfold stepS; split <;> omega
end
section
variable {n : Nat} {L : List (Int × List Int × Unit)}
def schS (n : Nat) (L : List (Int × List Int × Unit)) (i : Nat) : List Bool := mapr n fun x => if x < i then schB (fwF (wM L) n) x n else false
@[simp] theorem schS_length {i : Nat} : (schS n L i).length = n := by simp [schS]
theorem schS_zero : List.replicate n false = schS n L 0 := by rw [replicate_mapr]; exact mapr_same fun y _ => by rw [if_neg (Nat.not_lt_zero _)]
theorem schT_next {i k : Nat} (hi : i < n) (hk : k < n) : ((schS n L i).set i (schB (fwF (wM L) n) i k)).set i (((schS n L i).set i (schB (fwF (wM L) n) i k)).getD i false && decide (((pthM n L).getD k []).getD i 0 ≤ ((pthM n L).getD i []).getD k 0)) = (schS n L i).set i (schB (fwF (wM L) n) i (k + 1)) := by
  rw [List.set_set, getD_setB (by simpa using hi), if_pos rfl, pthM_two hi hk, pthM_two hk hi]; rfl
theorem schT_end {i k : Nat} (hk : k = n) (hi : i < n) : (schS n L i).set i (schB (fwF (wM L) n) i k) = schS n L (i + 1) := by
  subst hk
  exact mapr_set (fun _ => by rw [if_pos (by omega)]) fun j hj hne => by
    by_cases e : j < i
    · rw [if_pos e, if_pos (by omega)]
    · rw [if_neg e, if_neg (by omega)]
theorem schS_end : whereTo (fun i => (schS n L n).getD i false) (schS n L n).length = schF n L := by
  rw [schS_length]
  refine where_same fun k hk => ?_
  show (schS n L n).getD k false = _
  unfold schS; rw [mapr_getD _ hk, if_pos hk]
end

set_option maxRecDepth 1000000 in
set_option maxHeartbeats 4000000 in
theorem Paths_fc (n : Nat) (L : List (Int × List Int × Unit)) (hv : voteE n L = 0) : FC Try.prog 20 [.i (n : Nat), .seq (Int × List Int × Unit) (0, [], ()) (fun b => [.i b.1, .ints b.2.1]) L] (.tup [.rows (pthM n L), .i 0]) := by
  refine FC.intro Try.func20 rfl (Nat.le_of_ble_eq_true rfl) fun hfit => ?_
  have fit0 : -9223372036854775808 ≤ ((n : Nat) : Int) ∧ ((n : Nat) : Int) ≤ 9223372036854775807 := (hfit _ (.head _)).int64
  have fit1 := hfit _ (.tail _ (.head _))
  have hV := vok hv
  have hL30 := hV.len
  have hn := hV.n6
  have hn1 := hV.n1
  have hW := wM_ok hV
  refine awp_seq ?_
  refine awp_region rfl (.n (fun _ => op_assign (.plain rfl)) (.n (fun _ => op_assign (.plain rfl)) (.nil _))) ?_
  refine awp_seq ?_
  refine awp_region rfl (.n (fun _ => op_move (.plain rfl)) (.n (fun _ => op_move (.plain rfl)) (.n (fun _ => op_call2 Try.call19 (.plain rfl) (.plain rfl) (Pairs_fc n L hv)) (.n (fun _ => op_move (.plain rfl)) (.n (fun _ => op_extract (.plain rfl) rfl) (.n (fun _ => op_extract (.plain rfl) rfl) (.n (fun _ => op_assign (.plain rfl)) (.n (fun _ => op_assign (.plain rfl)) (.nil _))))))))) ?_
  refine awp_seq ?_
  refine awp_seq ?_
  refine awp_region rfl (.n (fun _ => op_move (.plain rfl)) (.n (fun _ => op_neq (.plain rfl) (.plain rfl)) (.nil _))) ?_
  refine awp_cond rfl (fun h => ?_) (fun h => ?_)
  · (try simp only [decide_eq_true_eq, decide_eq_false_iff_not, Bool.and_eq_true, Bool.or_eq_true, Bool.and_eq_false_iff, Bool.or_eq_false_iff, Bool.not_eq_true', Bool.not_eq_false', Bool.not_eq_true, Bool.not_eq_false, Bool.true_eq_false, Bool.false_eq_true] at h); (try simp only [fold_c, fold_o, Int.toNat_natCast] at h)
    exfalso
    simp at h
  · (try simp only [decide_eq_true_eq, decide_eq_false_iff_not, Bool.and_eq_true, Bool.or_eq_true, Bool.and_eq_false_iff, Bool.or_eq_false_iff, Bool.not_eq_true', Bool.not_eq_false', Bool.not_eq_true, Bool.not_eq_false, Bool.true_eq_false, Bool.false_eq_true] at h); (try simp only [fold_c, fold_o, Int.toNat_natCast] at h)
    refine awp_skip ?_
    refine awp_seq ?_
    refine awp_region rfl (.n (fun _ => op_move (.plain rfl)) (.e (op_makeSl 25 ety31 (.plain rfl) (.plain rfl) rfl ?_) rfl (.n (fun _ => op_assign (.plain rfl)) (.nil _)))) ?_
    · (try simp only [Int.toNat_natCast, prM_length])
      (try rw [prM_row (show iq < n by omega)])
      (try rw [prM_row (show kq < n by omega)])
      omega
    refine awp_seq ?_
    refine awp_seq ?_
    refine awp_region rfl (.n (fun _ => op_move (.plain rfl)) (.n (fun _ => op_move (.plain rfl)) (.nil _))) ?_
    refine awp_block ?_
    refine awp_loop (σ := Nat) (fun (iq : Nat) => iq ≤ n) (fun (iq : Nat) => ⟨[(0, .pv (.i (n : Nat))), (6, .pv (.rows (prM n L))), (8, .sl 25 n), (26, .int (n : Nat)), (27, .int (iq : Nat))], (25, .box (rowC 200 n iq)) :: rowsH 3 200 (mapr iq fun x => mapr n fun y => wM L x y)⟩) (fun (iq : Nat) => n - iq) 0 ?_ (Ent.kept ⟨rfl, rfl, rfl, rfl, rfl, trivial⟩ ⟨(congrArg (fun cs => some (Blk.box cs)) (rowC_zero 200 n)), trivial⟩) ?_
    · exact Nat.zero_le _
    rintro iq hp
    try dsimp only at hp
    have hi := hp
    refine awp_seq ?_
    refine awp_region rfl (.n (fun _ => op_lss (.plain rfl) (.plain rfl)) (.nil _)) ?_
    refine awp_seq ?_
    refine awp_cond rfl (fun h => ?_) (fun h => ?_)
    · (try simp only [decide_eq_true_eq, decide_eq_false_iff_not, Bool.and_eq_true, Bool.or_eq_true, Bool.and_eq_false_iff, Bool.or_eq_false_iff, Bool.not_eq_true', Bool.not_eq_false', Bool.not_eq_true, Bool.not_eq_false, Bool.true_eq_false, Bool.false_eq_true] at h); (try simp only [fold_c, fold_o, Int.toNat_natCast] at h)
      refine awp_skip ?_
      refine awp_seq ?_
      refine awp_block ?_
      refine awp_seq ?_
      refine awp_region rfl (.n (fun _ => op_move (.plain rfl)) (.n (fun _ => op_assign (.plain rfl)) (.nil _))) ?_
      refine awp_seq ?_
      refine awp_region rfl (.n (fun _ => op_move (.plain rfl)) (.n (fun _ => op_move (.plain rfl)) (.n (fun _ => op_move (.plain rfl)) (.e (op_make (α := Int) (d := 0) (f := (fun n => [.int .i64 n])) (iq + 200) 0 ety23 (.plain rfl) (.plain rfl) (fun _ => rfl) rfl (men_mat (.inr (by omega))) ?_) (by simp [freshIn, upd, SV.men, SV.menL]) (.n (fun _ => op_indexAddrSl Try.underlying31 Try.sizeOf23 (.plain rfl) (.plain rfl) ?_) (.e (op_storeR Try.sizeOf23 (.plain rfl) (.plain rfl) (by rw [look_skip (by omega)]; exact look_here) (by simp; omega) rfl (by simp) (fun i h => by cases h; exact ⟨_, _, _, _, _, _, look_here⟩)) rfl (.nil _))))))) ?_
      · (try simp only [Int.toNat_natCast, prM_length])
        (try rw [prM_row (show iq < n by omega)])
        (try rw [prM_row (show kq < n by omega)])
        omega
      · (try simp only [Int.toNat_natCast, prM_length])
        (try rw [prM_row (show iq < n by omega)])
        (try rw [prM_row (show kq < n by omega)])
        omega
      refine awp_seq ?_
      refine awp_region rfl (.n (fun _ => op_move (.plain rfl)) (.n (fun _ => op_move (.plain rfl)) (.nil _))) ?_
      refine awp_block ?_
      refine awp_loop (σ := Nat) (fun (kq : Nat) => kq ≤ n) (fun (kq : Nat) => ⟨[(0, .pv (.i (n : Nat))), (6, .pv (.rows (prM n L))), (8, .sl 25 n), (9, .int (iq : Nat)), (26, .int (n : Nat)), (27, .int (iq : Nat)), (35, .int (n : Nat)), (36, .int (kq : Nat))], (25, .box (rowC 200 n (iq + 1))) :: rowsH 3 200 ((mapr iq fun x => mapr n fun y => wM L x y) ++ [wS L n iq kq])⟩) (fun (kq : Nat) => n - kq) 0 ?_ (Ent.kept ⟨rfl, rfl, rfl, rfl, rfl, rfl, rfl, rfl, trivial⟩ ⟨(congrArg (fun cs => some (Blk.box cs)) (rowC_set (by omega))), (by rw [← wS_zero]; exact kept_push (by rw [mapr_length, look_skip (by omega)]; exact look_here) fun k hk => by rw [mapr_length] at hk; rw [look_skip (by omega), look_skip (by omega), look_skip (by omega)]; exact rowsH_at (by rw [mapr_length]; exact hk))⟩) ?_
      · exact Nat.zero_le _
      rintro kq hp
      try dsimp only at hp
      have hk := hp
      refine awp_seq ?_
      refine awp_region rfl (.n (fun _ => op_lss (.plain rfl) (.plain rfl)) (.nil _)) ?_
      refine awp_seq ?_
      refine awp_cond rfl (fun h => ?_) (fun h => ?_)
      · (try simp only [decide_eq_true_eq, decide_eq_false_iff_not, Bool.and_eq_true, Bool.or_eq_true, Bool.and_eq_false_iff, Bool.or_eq_false_iff, Bool.not_eq_true', Bool.not_eq_false', Bool.not_eq_true, Bool.not_eq_false, Bool.true_eq_false, Bool.false_eq_true] at h); (try simp only [fold_c, fold_o, Int.toNat_natCast] at h)
        refine awp_skip ?_
        refine awp_seq ?_
        refine awp_block ?_
        refine awp_seq ?_
        refine awp_region rfl (.n (fun _ => op_move (.plain rfl)) (.n (fun _ => op_assign (.plain rfl)) (.nil _))) ?_
        refine awp_seq ?_
        refine awp_region_draw mixed rfl (.n (fun _ => op_move (.plain rfl)) (.n (fun _ => op_move (.plain rfl)) (.n (fun _ => op_indexAddrN Try.underlying31 Try.sizeOf23 (.plain rfl) (.plain rfl) (fun _ => rfl) ?_) (.n (fun _ => op_load Try.isAgg23 (.plain rfl)) (.n (fun _ => op_move (.plain rfl)) (.n (fun _ => op_indexAddrN Try.underlying23 Try.sizeOf3 (.plain rfl) (.plain rfl) (fun _ => rfl) ?_) (.n (fun _ => op_load Try.isAgg3 (.plain rfl)) (.n (fun _ => op_move (.plain rfl)) (.n (fun _ => op_move (.plain rfl)) (.n (fun _ => op_indexAddrN Try.underlying31 Try.sizeOf23 (.plain rfl) (.plain rfl) (fun _ => rfl) ?_) (.n (fun _ => op_load Try.isAgg23 (.plain rfl)) (.n (fun _ => op_move (.plain rfl)) (.n (fun _ => op_indexAddrN Try.underlying23 Try.sizeOf3 (.plain rfl) (.plain rfl) (fun _ => rfl) ?_) (.n (fun _ => op_load Try.isAgg3 (.plain rfl)) (.n (fun _ => op_gtr (.plain rfl) (.plain rfl)) (.nil _)))))))))))))))) ?d1 ?_
        · (try simp only [Int.toNat_natCast, prM_length])
          (try rw [prM_row (show iq < n by omega)])
          (try rw [prM_row (show kq < n by omega)])
          omega
        · (try simp only [Int.toNat_natCast, prM_length])
          (try rw [prM_row (show iq < n by omega)])
          (try rw [prM_row (show kq < n by omega)])
          omega
        · (try simp only [Int.toNat_natCast, prM_length])
          (try rw [prM_row (show iq < n by omega)])
          (try rw [prM_row (show kq < n by omega)])
          omega
        · (try simp only [Int.toNat_natCast, prM_length])
          (try rw [prM_row (show iq < n by omega)])
          (try rw [prM_row (show kq < n by omega)])
          omega
        · kernel_rfl
        refine awp_cond rfl (fun h => ?_) (fun h => ?_)
        · (try simp only [decide_eq_true_eq, decide_eq_false_iff_not, Bool.and_eq_true, Bool.or_eq_true, Bool.and_eq_false_iff, Bool.or_eq_false_iff, Bool.not_eq_true', Bool.not_eq_false', Bool.not_eq_true, Bool.not_eq_false, Bool.true_eq_false, Bool.false_eq_true] at h); (try simp only [fold_c, fold_o, Int.toNat_natCast] at h)
          rw [prM_two (show iq < n by omega) (show kq < n by omega), prM_two (show kq < n by omega) (show iq < n by omega)] at h
          have hw := h
          refine awp_region_draw mixed rfl (.n (fun _ => op_move (.plain rfl)) (.n (fun _ => op_move (.plain rfl)) (.n (fun _ => op_indexAddrSl Try.underlying31 Try.sizeOf23 (.plain rfl) (.plain rfl) ?_) (.r (op_loadR Try.isAgg23 (.plain rfl) rfl (rowC_at (x := iq) (by omega) (by omega))) (.n (fun _ => op_move (.plain rfl)) (.n (fun _ => op_move (.plain rfl)) (.n (fun _ => op_move (.plain rfl)) (.n (fun _ => op_indexAddrN Try.underlying31 Try.sizeOf23 (.plain rfl) (.plain rfl) (fun _ => rfl) ?_) (.n (fun _ => op_load Try.isAgg23 (.plain rfl)) (.n (fun _ => op_move (.plain rfl)) (.n (fun _ => op_indexAddrN Try.underlying23 Try.sizeOf3 (.plain rfl) (.plain rfl) (fun _ => rfl) ?_) (.n (fun _ => op_load Try.isAgg3 (.plain rfl)) (.r (op_indexAddrO Try.underlying23 Try.sizeOf3 (.plain rfl) (by rw [look_skip (by omega)]; exact rowsH_last (by simp)) (.plain rfl) ?_) (.e (op_storeE (id := iq + 200) (e := 3) (z := 1) (d := 0) (f := (fun n => [.int .i64 n])) (l := wS L n iq kq) (((prM n L).getD iq []).getD kq 0) Try.sizeOf3 (.plain rfl) (.plain rfl) (by rw [look_skip (by omega)]; exact rowsH_last (by simp)) (fun _ => rfl) ?_ (by decide) rfl rfl) rfl (.nil _))))))))))))))) ?d2 ?_
          · (try simp only [Int.toNat_natCast, prM_length])
            (try rw [prM_row (show iq < n by omega)])
            (try rw [prM_row (show kq < n by omega)])
            omega
          · (try simp only [Int.toNat_natCast, prM_length])
            (try rw [prM_row (show iq < n by omega)])
            (try rw [prM_row (show kq < n by omega)])
            omega
          · (try simp only [Int.toNat_natCast, prM_length])
            (try rw [prM_row (show iq < n by omega)])
            (try rw [prM_row (show kq < n by omega)])
            omega
          · (try simp only [Int.toNat_natCast, prM_length])
            (try rw [prM_row (show iq < n by omega)])
            (try rw [prM_row (show kq < n by omega)])
            have h8 := wS_length (L := L) (n := n) (i := iq) (k := kq)
            omega
          · (try simp only [Int.toNat_natCast, prM_length])
            (try rw [prM_row (show iq < n by omega)])
            (try rw [prM_row (show kq < n by omega)])
            have h8 := wS_length (L := L) (n := n) (i := iq) (k := kq)
            omega
          · kernel_rfl
          refine awp_region rfl (.n (fun _ => op_add (.plain rfl) (.plain rfl) ?_) (.n (fun _ => op_move (.plain rfl)) (.nil _))) ?_
          · (try simp only [Int.toNat_natCast, prM_length])
            (try rw [prM_row (show iq < n by omega)])
            (try rw [prM_row (show kq < n by omega)])
            unfold InR; omega
          exact ⟨kq + 1, by omega, by dsimp only; omega, (Ent.kept ⟨rfl, rfl, rfl, rfl, rfl, rfl, rfl, rfl, trivial⟩ ⟨rfl, (by first | exact (kept_push (by rw [mapr_length, ← wS_set hw (prM_two (show iq < n by omega) (show kq < n by omega))]; exact look_here) fun k hk => by rw [mapr_length] at hk; rw [look_skip (by omega), look_skip (by omega)]; exact rowsH_init (by rw [mapr_length]; exact hk)) | (rw [← wS_skip hw]; exact kept_rows fun k hk => by rw [look_skip (by rw [List.length_append, mapr_length, List.length_singleton] at hk; omega)]; exact rowsH_at hk))⟩)⟩
        · (try simp only [decide_eq_true_eq, decide_eq_false_iff_not, Bool.and_eq_true, Bool.or_eq_true, Bool.and_eq_false_iff, Bool.or_eq_false_iff, Bool.not_eq_true', Bool.not_eq_false', Bool.not_eq_true, Bool.not_eq_false, Bool.true_eq_false, Bool.false_eq_true] at h); (try simp only [fold_c, fold_o, Int.toNat_natCast] at h)
          rw [prM_two (show iq < n by omega) (show kq < n by omega), prM_two (show kq < n by omega) (show iq < n by omega)] at h
          have hw := h
          refine awp_skip ?_
          refine awp_region rfl (.n (fun _ => op_add (.plain rfl) (.plain rfl) ?_) (.n (fun _ => op_move (.plain rfl)) (.nil _))) ?_
          · (try simp only [Int.toNat_natCast, prM_length])
            (try rw [prM_row (show iq < n by omega)])
            (try rw [prM_row (show kq < n by omega)])
            unfold InR; omega
          exact ⟨kq + 1, by omega, by dsimp only; omega, (Ent.kept ⟨rfl, rfl, rfl, rfl, rfl, rfl, rfl, rfl, trivial⟩ ⟨rfl, (by first | exact (kept_push (by rw [mapr_length, ← wS_set hw (prM_two (show iq < n by omega) (show kq < n by omega))]; exact look_here) fun k hk => by rw [mapr_length] at hk; rw [look_skip (by omega), look_skip (by omega)]; exact rowsH_init (by rw [mapr_length]; exact hk)) | (rw [← wS_skip hw]; exact kept_rows fun k hk => by rw [look_skip (by rw [List.length_append, mapr_length, List.length_singleton] at hk; omega)]; exact rowsH_at hk))⟩)⟩
      · (try simp only [decide_eq_true_eq, decide_eq_false_iff_not, Bool.and_eq_true, Bool.or_eq_true, Bool.and_eq_false_iff, Bool.or_eq_false_iff, Bool.not_eq_true', Bool.not_eq_false', Bool.not_eq_true, Bool.not_eq_false, Bool.true_eq_false, Bool.false_eq_true] at h); (try simp only [fold_c, fold_o, Int.toNat_natCast] at h)
        refine awp_exit ?_
        refine awp_region rfl (.n (fun _ => op_add (.plain rfl) (.plain rfl) ?_) (.n (fun _ => op_move (.plain rfl)) (.nil _))) ?_
        · (try simp only [Int.toNat_natCast, prM_length])
          (try rw [prM_row (show iq < n by omega)])
          (try rw [prM_row (show kq < n by omega)])
          unfold InR; omega
        exact ⟨iq + 1, by omega, by dsimp only; omega, (Ent.kept ⟨rfl, rfl, rfl, rfl, rfl, trivial⟩ ⟨rfl, (by rw [mapr_succ, ← (show wS L n iq kq = mapr n fun y => wM L (iq : Nat) (y : Nat) by rw [show kq = n by omega]; exact wS_end)]; exact kept_rows fun k hk => by rw [look_skip (by rw [List.length_append, mapr_length] at hk; omega)]; exact rowsH_at hk)⟩)⟩
    · (try simp only [decide_eq_true_eq, decide_eq_false_iff_not, Bool.and_eq_true, Bool.or_eq_true, Bool.and_eq_false_iff, Bool.or_eq_false_iff, Bool.not_eq_true', Bool.not_eq_false', Bool.not_eq_true, Bool.not_eq_false, Bool.true_eq_false, Bool.false_eq_true] at h); (try simp only [fold_c, fold_o, Int.toNat_natCast] at h)
      refine awp_exit ?_
      refine awp_seq ?_
      refine awp_seq ?_
      refine awp_region rfl (.n (fun _ => op_move (.plain rfl)) (.n (fun _ => op_move (.plain rfl)) (.nil _))) ?_
      refine awp_block ?_
      refine awp_loop (σ := Nat × List (List Int)) (fun (s : Nat × List (List Int)) => s.1 ≤ n ∧ MatI n s.2 (fwF (wM L) s.1)) (fun (s : Nat × List (List Int)) => ⟨[(0, .pv (.i (n : Nat))), (8, .sl 25 n), (69, .int (n : Nat)), (70, .int (s.1 : Nat))], (25, .box (rowC 200 n n)) :: rowsH 3 200 s.2⟩) (fun (s : Nat × List (List Int)) => n - s.1) (0, mkM n (wM L)) ?_ (Ent.kept ⟨rfl, rfl, rfl, rfl, trivial⟩ ⟨(congrArg (fun cs => some (Blk.box cs)) (by rw [show iq = n by omega])), (by rw [show iq = n by omega]; exact kept_rows fun k hk => by rw [look_skip (by rw [mkM_length] at hk; omega)]; exact rowsH_at hk)⟩) ?_
      · exact ⟨Nat.zero_le _, mk_mat _⟩
      rintro ⟨sq, rows⟩ hp
      try dsimp only at hp
      obtain ⟨hs, hR⟩ := hp
      have hrl := hR.sq.1
      refine awp_seq ?_
      refine awp_region rfl (.n (fun _ => op_lss (.plain rfl) (.plain rfl)) (.nil _)) ?_
      refine awp_seq ?_
      refine awp_cond rfl (fun h => ?_) (fun h => ?_)
      · (try simp only [decide_eq_true_eq, decide_eq_false_iff_not, Bool.and_eq_true, Bool.or_eq_true, Bool.and_eq_false_iff, Bool.or_eq_false_iff, Bool.not_eq_true', Bool.not_eq_false', Bool.not_eq_true, Bool.not_eq_false, Bool.true_eq_false, Bool.false_eq_true] at h); (try simp only [fold_c, fold_o, Int.toNat_natCast] at h)
        refine awp_skip ?_
        refine awp_seq ?_
        refine awp_block ?_
        refine awp_seq ?_
        refine awp_region rfl (.n (fun _ => op_move (.plain rfl)) (.n (fun _ => op_assign (.plain rfl)) (.nil _))) ?_
        refine awp_seq ?_
        refine awp_region rfl (.n (fun _ => op_move (.plain rfl)) (.n (fun _ => op_move (.plain rfl)) (.nil _))) ?_
        refine awp_block ?_
        refine awp_loop (σ := Nat × List (List Int)) (fun (s : Nat × List (List Int)) => s.1 ≤ n ∧ MatI n s.2 (midF (wM L) sq s.1 0)) (fun (s : Nat × List (List Int)) => ⟨[(0, .pv (.i (n : Nat))), (8, .sl 25 n), (11, .int (sq : Nat)), (69, .int (n : Nat)), (70, .int (sq : Nat)), (73, .int (n : Nat)), (74, .int (s.1 : Nat))], (25, .box (rowC 200 n n)) :: rowsH 3 200 s.2⟩) (fun (s : Nat × List (List Int)) => n - s.1) (0, rows) ?_ (Ent.kept ⟨rfl, rfl, rfl, rfl, rfl, rfl, rfl, trivial⟩ ⟨rfl, (kept_rows fun k hk => by (try dsimp only at hk); rw [look_skip (by omega)]; exact rowsH_at (by first | exact hk | omega))⟩) ?_
        · exact ⟨Nat.zero_le _, hR.congr fun a ha b hb => mid_start ha.1 hb.1⟩
        rintro ⟨iq, rows2⟩ hp
        try dsimp only at hp
        obtain ⟨hi2, hR2⟩ := hp
        have hrl2 := hR2.sq.1
        refine awp_seq ?_
        refine awp_region rfl (.n (fun _ => op_lss (.plain rfl) (.plain rfl)) (.nil _)) ?_
        refine awp_seq ?_
        refine awp_cond rfl (fun h => ?_) (fun h => ?_)
        · (try simp only [decide_eq_true_eq, decide_eq_false_iff_not, Bool.and_eq_true, Bool.or_eq_true, Bool.and_eq_false_iff, Bool.or_eq_false_iff, Bool.not_eq_true', Bool.not_eq_false', Bool.not_eq_true, Bool.not_eq_false, Bool.true_eq_false, Bool.false_eq_true] at h); (try simp only [fold_c, fold_o, Int.toNat_natCast] at h)
          refine awp_skip ?_
          refine awp_seq ?_
          refine awp_block ?_
          refine awp_seq ?_
          refine awp_region rfl (.n (fun _ => op_move (.plain rfl)) (.n (fun _ => op_assign (.plain rfl)) (.nil _))) ?_
          refine awp_seq ?_
          refine awp_region rfl (.n (fun _ => op_move (.plain rfl)) (.n (fun _ => op_move (.plain rfl)) (.nil _))) ?_
          refine awp_block ?_
          refine awp_loop (σ := Nat × List (List Int)) (fun (s : Nat × List (List Int)) => s.1 ≤ n ∧ MatI n s.2 (midF (wM L) sq iq s.1)) (fun (s : Nat × List (List Int)) => ⟨[(0, .pv (.i (n : Nat))), (8, .sl 25 n), (11, .int (sq : Nat)), (12, .int (iq : Nat)), (69, .int (n : Nat)), (70, .int (sq : Nat)), (73, .int (n : Nat)), (74, .int (iq : Nat)), (77, .int (n : Nat)), (78, .int (s.1 : Nat))], (25, .box (rowC 200 n n)) :: rowsH 3 200 s.2⟩) (fun (s : Nat × List (List Int)) => n - s.1) (0, rows2) ?_ (Ent.kept ⟨rfl, rfl, rfl, rfl, rfl, rfl, rfl, rfl, rfl, rfl, trivial⟩ ⟨rfl, (kept_rows fun k hk => by (try dsimp only at hk); rw [look_skip (by omega)]; exact rowsH_at (by first | exact hk | omega))⟩) ?_
          · exact ⟨Nat.zero_le _, hR2⟩
          rintro ⟨jq, rows3⟩ hp
          try dsimp only at hp
          obtain ⟨hj, hR3⟩ := hp
          have hrl3 := hR3.sq.1
          refine awp_seq ?_
          refine awp_region rfl (.n (fun _ => op_lss (.plain rfl) (.plain rfl)) (.nil _)) ?_
          refine awp_seq ?_
          refine awp_cond rfl (fun h => ?_) (fun h => ?_)
          · (try simp only [decide_eq_true_eq, decide_eq_false_iff_not, Bool.and_eq_true, Bool.or_eq_true, Bool.and_eq_false_iff, Bool.or_eq_false_iff, Bool.not_eq_true', Bool.not_eq_false', Bool.not_eq_true, Bool.not_eq_false, Bool.true_eq_false, Bool.false_eq_true] at h); (try simp only [fold_c, fold_o, Int.toNat_natCast] at h)
            refine awp_skip ?_
            refine awp_seq ?_
            refine awp_block ?_
            refine awp_seq ?_
            refine awp_region rfl (.n (fun _ => op_move (.plain rfl)) (.n (fun _ => op_assign (.plain rfl)) (.nil _))) ?_
            refine awp_seq ?_
            refine awp_region rfl (.n (fun _ => op_move (.plain rfl)) (.n (fun _ => op_move (.plain rfl)) (.n (fun _ => op_neq (.plain rfl) (.plain rfl)) (.nil _)))) ?_
            refine awp_cond rfl (fun h => ?_) (fun h => ?_)
            · (try simp only [decide_eq_true_eq, decide_eq_false_iff_not, Bool.and_eq_true, Bool.or_eq_true, Bool.and_eq_false_iff, Bool.or_eq_false_iff, Bool.not_eq_true', Bool.not_eq_false', Bool.not_eq_true, Bool.not_eq_false, Bool.true_eq_false, Bool.false_eq_true] at h); (try simp only [fold_c, fold_o, Int.toNat_natCast] at h)
              have hne : iq ≠ jq := by omega
              have hx : (0 : Int) ≤ (iq : Nat) ∧ ((iq : Nat) : Int) < (n : Int) := by omega
              have hy : (0 : Int) ≤ (jq : Nat) ∧ ((jq : Nat) : Int) < (n : Int) := by omega
              have hz : (0 : Int) ≤ (sq : Nat) ∧ ((sq : Nat) : Int) < (n : Int) := by omega
              have hst := (hR3.set hx hy (max ((rows3.getD iq []).getD jq 0) (min ((rows3.getD iq []).getD sq 0) ((rows3.getD sq []).getD jq 0)))).congr (g := midF (wM L) sq iq (jq + 1)) fun a ha b hb => by
                have e1 : (rows3.getD iq []).getD jq 0 = fwF (wM L) sq (iq : Nat) (jq : Nat) := (hR3.at' _ hx _ hy).trans mid_here
                have e2 : (rows3.getD iq []).getD sq 0 = fwF (wM L) sq (iq : Nat) (sq : Nat) := (hR3.at' _ hx _ hz).trans (mid_col hW)
                have e3 : (rows3.getD sq []).getD jq 0 = fwF (wM L) sq (sq : Nat) (jq : Nat) := (hR3.at' _ hz _ hy).trans (mid_row hW)
                rw [e1, e2, e3]
                exact mid_set hne
              refine awp_region_draw mixed rfl (.n (fun _ => op_move (.plain rfl)) (.n (fun _ => op_move (.plain rfl)) (.n (fun _ => op_indexAddrSl Try.underlying31 Try.sizeOf23 (.plain rfl) (.plain rfl) ?_) (.r (op_loadR Try.isAgg23 (.plain rfl) rfl (rowC_at (x := iq) (by omega) (by omega))) (.n (fun _ => op_move (.plain rfl)) (.n (fun _ => op_move (.plain rfl)) (.n (fun _ => op_move (.plain rfl)) (.n (fun _ => op_indexAddrSl Try.underlying31 Try.sizeOf23 (.plain rfl) (.plain rfl) ?_) (.r (op_loadR Try.isAgg23 (.plain rfl) rfl (rowC_at (x := iq) (by omega) (by omega))) (.n (fun _ => op_move (.plain rfl)) (.r (op_indexAddrO Try.underlying23 Try.sizeOf3 (.plain rfl) (by rw [look_skip (by omega)]; exact rowsH_at (rows := rows3) (by omega)) (.plain rfl) ?_) (.r (op_loadE Try.isAgg3 (.plain rfl) (by rw [look_skip (by omega)]; exact rowsH_at (rows := rows3) (by omega)) (fun _ => rfl) ?_ rfl) (.n (fun _ => op_move (.plain rfl)) (.n (fun _ => op_move (.plain rfl)) (.n (fun _ => op_indexAddrSl Try.underlying31 Try.sizeOf23 (.plain rfl) (.plain rfl) ?_) (.r (op_loadR Try.isAgg23 (.plain rfl) rfl (rowC_at (x := iq) (by omega) (by omega))) (.n (fun _ => op_move (.plain rfl)) (.r (op_indexAddrO Try.underlying23 Try.sizeOf3 (.plain rfl) (by rw [look_skip (by omega)]; exact rowsH_at (rows := rows3) (by omega)) (.plain rfl) ?_) (.r (op_loadE Try.isAgg3 (.plain rfl) (by rw [look_skip (by omega)]; exact rowsH_at (rows := rows3) (by omega)) (fun _ => rfl) ?_ rfl) (.n (fun _ => op_move (.plain rfl)) (.n (fun _ => op_move (.plain rfl)) (.n (fun _ => op_indexAddrSl Try.underlying31 Try.sizeOf23 (.plain rfl) (.plain rfl) ?_) (.r (op_loadR Try.isAgg23 (.plain rfl) rfl (rowC_at (x := sq) (by omega) (by omega))) (.n (fun _ => op_move (.plain rfl)) (.r (op_indexAddrO Try.underlying23 Try.sizeOf3 (.plain rfl) (by rw [look_skip (by omega)]; exact rowsH_at (rows := rows3) (by omega)) (.plain rfl) ?_) (.r (op_loadE Try.isAgg3 (.plain rfl) (by rw [look_skip (by omega)]; exact rowsH_at (rows := rows3) (by omega)) (fun _ => rfl) ?_ rfl) (.n (fun _ => op_min (.plain rfl) (.plain rfl)) (.n (fun _ => op_max (.plain rfl) (.plain rfl)) (.r (op_indexAddrO Try.underlying23 Try.sizeOf3 (.plain rfl) (by rw [look_skip (by omega)]; exact rowsH_at (rows := rows3) (by omega)) (.plain rfl) ?_) (.e (op_storeE (id := iq + 200) (e := 3) (z := 1) (d := 0) (f := (fun n => [.int .i64 n])) (l := rows3.getD iq []) (max ((rows3.getD iq []).getD jq 0) (min ((rows3.getD iq []).getD sq 0) ((rows3.getD sq []).getD jq 0))) Try.sizeOf3 (.plain rfl) (.plain rfl) (by rw [look_skip (by omega)]; exact rowsH_at (rows := rows3) (by omega)) (fun _ => rfl) ?_ (by decide) rfl rfl) rfl (.nil _))))))))))))))))))))))))))))))) ?d3 ?_
              · (try simp only [Int.toNat_natCast, prM_length])
                (try rw [prM_row (show iq < n by omega)])
                (try rw [prM_row (show kq < n by omega)])
                omega
              · (try simp only [Int.toNat_natCast, prM_length])
                (try rw [prM_row (show iq < n by omega)])
                (try rw [prM_row (show kq < n by omega)])
                omega
              · (try simp only [Int.toNat_natCast, prM_length])
                (try rw [prM_row (show iq < n by omega)])
                (try rw [prM_row (show kq < n by omega)])
                have h8 := hR3.sq.2 iq (by omega)
                have h9 := hR3.sq.2 sq (by omega)
                omega
              · (try simp only [Int.toNat_natCast, prM_length])
                (try rw [prM_row (show iq < n by omega)])
                (try rw [prM_row (show kq < n by omega)])
                have h8 := hR3.sq.2 iq (by omega)
                have h9 := hR3.sq.2 sq (by omega)
                omega
              · (try simp only [Int.toNat_natCast, prM_length])
                (try rw [prM_row (show iq < n by omega)])
                (try rw [prM_row (show kq < n by omega)])
                omega
              · (try simp only [Int.toNat_natCast, prM_length])
                (try rw [prM_row (show iq < n by omega)])
                (try rw [prM_row (show kq < n by omega)])
                have h8 := hR3.sq.2 iq (by omega)
                have h9 := hR3.sq.2 sq (by omega)
                omega
              · (try simp only [Int.toNat_natCast, prM_length])
                (try rw [prM_row (show iq < n by omega)])
                (try rw [prM_row (show kq < n by omega)])
                have h8 := hR3.sq.2 iq (by omega)
                have h9 := hR3.sq.2 sq (by omega)
                omega
              · (try simp only [Int.toNat_natCast, prM_length])
                (try rw [prM_row (show iq < n by omega)])
                (try rw [prM_row (show kq < n by omega)])
                omega
              · (try simp only [Int.toNat_natCast, prM_length])
                (try rw [prM_row (show iq < n by omega)])
                (try rw [prM_row (show kq < n by omega)])
                have h8 := hR3.sq.2 iq (by omega)
                have h9 := hR3.sq.2 sq (by omega)
                omega
              · (try simp only [Int.toNat_natCast, prM_length])
                (try rw [prM_row (show iq < n by omega)])
                (try rw [prM_row (show kq < n by omega)])
                have h8 := hR3.sq.2 iq (by omega)
                have h9 := hR3.sq.2 sq (by omega)
                omega
              · (try simp only [Int.toNat_natCast, prM_length])
                (try rw [prM_row (show iq < n by omega)])
                (try rw [prM_row (show kq < n by omega)])
                have h8 := hR3.sq.2 iq (by omega)
                have h9 := hR3.sq.2 sq (by omega)
                omega
              · (try simp only [Int.toNat_natCast, prM_length])
                (try rw [prM_row (show iq < n by omega)])
                (try rw [prM_row (show kq < n by omega)])
                have h8 := hR3.sq.2 iq (by omega)
                have h9 := hR3.sq.2 sq (by omega)
                omega
              · kernel_rfl
              refine awp_region rfl (.n (fun _ => op_add (.plain rfl) (.plain rfl) ?_) (.n (fun _ => op_move (.plain rfl)) (.nil _))) ?_
              · (try simp only [Int.toNat_natCast, prM_length])
                (try rw [prM_row (show iq < n by omega)])
                (try rw [prM_row (show kq < n by omega)])
                unfold InR; omega
              exact ⟨(jq + 1, _), ⟨by dsimp only; omega, hst⟩, by dsimp only; omega, (Ent.kept ⟨rfl, rfl, rfl, rfl, rfl, rfl, rfl, rfl, rfl, rfl, trivial⟩ ⟨rfl, (by first | exact (kept_set (show _ < rows3.length by omega) look_here fun k hk hne => by (try dsimp only at hk); rw [look_skip (by omega), look_skip (by omega)]; exact rowsH_at hk) | exact kept_rows fun k hk => by (try dsimp only at hk); rw [look_skip (by omega)]; exact rowsH_at (by first | exact hk | omega))⟩)⟩
            · (try simp only [decide_eq_true_eq, decide_eq_false_iff_not, Bool.and_eq_true, Bool.or_eq_true, Bool.and_eq_false_iff, Bool.or_eq_false_iff, Bool.not_eq_true', Bool.not_eq_false', Bool.not_eq_true, Bool.not_eq_false, Bool.true_eq_false, Bool.false_eq_true] at h); (try simp only [fold_c, fold_o, Int.toNat_natCast] at h)
              have hne : iq = jq := by omega
              subst hne
              refine awp_skip ?_
              refine awp_region rfl (.n (fun _ => op_add (.plain rfl) (.plain rfl) ?_) (.n (fun _ => op_move (.plain rfl)) (.nil _))) ?_
              · (try simp only [Int.toNat_natCast, prM_length])
                (try rw [prM_row (show iq < n by omega)])
                (try rw [prM_row (show kq < n by omega)])
                unfold InR; omega
              exact ⟨(iq + 1, rows3), ⟨by dsimp only; omega, hR3.congr fun a ha b hb => mid_skip hW⟩, by dsimp only; omega, (Ent.kept ⟨rfl, rfl, rfl, rfl, rfl, rfl, rfl, rfl, rfl, rfl, trivial⟩ ⟨rfl, (by first | exact (kept_set (show _ < rows3.length by omega) look_here fun k hk hne => by (try dsimp only at hk); rw [look_skip (by omega), look_skip (by omega)]; exact rowsH_at hk) | exact kept_rows fun k hk => by (try dsimp only at hk); rw [look_skip (by omega)]; exact rowsH_at (by first | exact hk | omega))⟩)⟩
          · (try simp only [decide_eq_true_eq, decide_eq_false_iff_not, Bool.and_eq_true, Bool.or_eq_true, Bool.and_eq_false_iff, Bool.or_eq_false_iff, Bool.not_eq_true', Bool.not_eq_false', Bool.not_eq_true, Bool.not_eq_false, Bool.true_eq_false, Bool.false_eq_true] at h); (try simp only [fold_c, fold_o, Int.toNat_natCast] at h)
            refine awp_exit ?_
            refine awp_region rfl (.n (fun _ => op_add (.plain rfl) (.plain rfl) ?_) (.n (fun _ => op_move (.plain rfl)) (.nil _))) ?_
            · (try simp only [Int.toNat_natCast, prM_length])
              (try rw [prM_row (show iq < n by omega)])
              (try rw [prM_row (show kq < n by omega)])
              unfold InR; omega
            exact ⟨(iq + 1, rows3), ⟨by dsimp only; omega, hR3.congr fun a ha b hb => by rw [show jq = n by omega]; exact mid_next hb.2 hb.1⟩, by dsimp only; omega, (Ent.kept ⟨rfl, rfl, rfl, rfl, rfl, rfl, rfl, trivial⟩ ⟨rfl, (kept_rows fun k hk => by (try dsimp only at hk); rw [look_skip (by omega)]; exact rowsH_at (by first | exact hk | omega))⟩)⟩
        · (try simp only [decide_eq_true_eq, decide_eq_false_iff_not, Bool.and_eq_true, Bool.or_eq_true, Bool.and_eq_false_iff, Bool.or_eq_false_iff, Bool.not_eq_true', Bool.not_eq_false', Bool.not_eq_true, Bool.not_eq_false, Bool.true_eq_false, Bool.false_eq_true] at h); (try simp only [fold_c, fold_o, Int.toNat_natCast] at h)
          refine awp_exit ?_
          refine awp_region rfl (.n (fun _ => op_add (.plain rfl) (.plain rfl) ?_) (.n (fun _ => op_move (.plain rfl)) (.nil _))) ?_
          · (try simp only [Int.toNat_natCast, prM_length])
            (try rw [prM_row (show iq < n by omega)])
            (try rw [prM_row (show kq < n by omega)])
            unfold InR; omega
          exact ⟨(sq + 1, rows2), ⟨by dsimp only; omega, hR2.congr fun a ha b hb => by rw [show iq = n by omega]; exact mid_end ha.2⟩, by dsimp only; omega, (Ent.kept ⟨rfl, rfl, rfl, rfl, trivial⟩ ⟨rfl, (kept_rows fun k hk => by (try dsimp only at hk); rw [look_skip (by omega)]; exact rowsH_at (by first | exact hk | omega))⟩)⟩
      · (try simp only [decide_eq_true_eq, decide_eq_false_iff_not, Bool.and_eq_true, Bool.or_eq_true, Bool.and_eq_false_iff, Bool.or_eq_false_iff, Bool.not_eq_true', Bool.not_eq_false', Bool.not_eq_true, Bool.not_eq_false, Bool.true_eq_false, Bool.false_eq_true] at h); (try simp only [fold_c, fold_o, Int.toNat_natCast] at h)
        refine awp_exit ?_
        refine awp_seq ?_
        refine awp_seq ?_
        refine awp_region rfl (.n (fun _ => op_move (.plain rfl)) (.n (fun _ => op_move (.plain rfl)) (.nil _))) ?_
        refine awp_block ?_
        refine awp_loop (σ := Nat × List (List Int)) (fun (s : Nat × List (List Int)) => s.1 ≤ n ∧ MatI n s.2 (fwF (wM L) n)) (fun (s : Nat × List (List Int)) => ⟨[(0, .pv (.i (n : Nat))), (8, .sl 25 n), (116, .int (n : Nat)), (117, .int (s.1 : Nat))], (25, .box (rowC 200 n n)) :: rowsH 3 200 s.2⟩) (fun (s : Nat × List (List Int)) => n - s.1) (0, rows) ?_ (Ent.kept ⟨rfl, rfl, rfl, rfl, trivial⟩ ⟨rfl, (kept_rows fun k hk => by (try dsimp only at hk); rw [look_skip (by omega)]; exact rowsH_at (by first | exact hk | omega))⟩) ?_
        · exact ⟨Nat.zero_le _, (show sq = n by omega) ▸ hR⟩
        rintro ⟨zq, rows4⟩ hp
        try dsimp only at hp
        obtain ⟨hz4, hR4⟩ := hp
        have hrl4 := hR4.sq.1
        refine awp_seq ?_
        refine awp_region rfl (.n (fun _ => op_lss (.plain rfl) (.plain rfl)) (.nil _)) ?_
        refine awp_seq ?_
        refine awp_cond rfl (fun h => ?_) (fun h => ?_)
        · (try simp only [decide_eq_true_eq, decide_eq_false_iff_not, Bool.and_eq_true, Bool.or_eq_true, Bool.and_eq_false_iff, Bool.or_eq_false_iff, Bool.not_eq_true', Bool.not_eq_false', Bool.not_eq_true, Bool.not_eq_false, Bool.true_eq_false, Bool.false_eq_true] at h); (try simp only [fold_c, fold_o, Int.toNat_natCast] at h)
          have hz : (0 : Int) ≤ (zq : Nat) ∧ ((zq : Nat) : Int) < (n : Int) := by omega
          have hst := (hR4.set hz hz 0).congr (g := fwF (wM L) n) fun a ha b hb => fw_set hW
          refine awp_skip ?_
          refine awp_seq ?_
          refine awp_block ?_
          refine awp_seq ?_
          refine awp_region rfl (.n (fun _ => op_move (.plain rfl)) (.n (fun _ => op_assign (.plain rfl)) (.nil _))) ?_
          refine awp_region rfl (.n (fun _ => op_move (.plain rfl)) (.n (fun _ => op_move (.plain rfl)) (.n (fun _ => op_indexAddrSl Try.underlying31 Try.sizeOf23 (.plain rfl) (.plain rfl) ?_) (.r (op_loadR Try.isAgg23 (.plain rfl) rfl (rowC_at (x := zq) (by omega) (by omega))) (.n (fun _ => op_move (.plain rfl)) (.r (op_indexAddrO Try.underlying23 Try.sizeOf3 (.plain rfl) (by rw [look_skip (by omega)]; exact rowsH_at (rows := rows4) (by omega)) (.plain rfl) ?_) (.e (op_storeE (id := zq + 200) (e := 3) (z := 1) (d := 0) (f := (fun n => [.int .i64 n])) (l := rows4.getD zq []) (0) Try.sizeOf3 (.plain rfl) (.plain rfl) (by rw [look_skip (by omega)]; exact rowsH_at (rows := rows4) (by omega)) (fun _ => rfl) ?_ (by decide) rfl rfl) rfl (.nil _)))))))) ?_
          · (try simp only [Int.toNat_natCast, prM_length])
            (try rw [prM_row (show iq < n by omega)])
            (try rw [prM_row (show kq < n by omega)])
            omega
          · (try simp only [Int.toNat_natCast, prM_length])
            (try rw [prM_row (show iq < n by omega)])
            (try rw [prM_row (show kq < n by omega)])
            have h8 := hR4.sq.2 zq (by omega)
            omega
          · (try simp only [Int.toNat_natCast, prM_length])
            (try rw [prM_row (show iq < n by omega)])
            (try rw [prM_row (show kq < n by omega)])
            have h8 := hR4.sq.2 zq (by omega)
            omega
          refine awp_region rfl (.n (fun _ => op_add (.plain rfl) (.plain rfl) ?_) (.n (fun _ => op_move (.plain rfl)) (.nil _))) ?_
          · (try simp only [Int.toNat_natCast, prM_length])
            (try rw [prM_row (show iq < n by omega)])
            (try rw [prM_row (show kq < n by omega)])
            unfold InR; omega
          exact ⟨(zq + 1, _), ⟨by dsimp only; omega, hst⟩, by dsimp only; omega, (Ent.kept ⟨rfl, rfl, rfl, rfl, trivial⟩ ⟨rfl, (kept_set (show _ < rows4.length by omega) look_here fun k hk hne => by (try dsimp only at hk); rw [look_skip (by omega), look_skip (by omega)]; exact rowsH_at hk)⟩)⟩
        · (try simp only [decide_eq_true_eq, decide_eq_false_iff_not, Bool.and_eq_true, Bool.or_eq_true, Bool.and_eq_false_iff, Bool.or_eq_false_iff, Bool.not_eq_true', Bool.not_eq_false', Bool.not_eq_true, Bool.not_eq_false, Bool.true_eq_false, Bool.false_eq_true] at h); (try simp only [fold_c, fold_o, Int.toNat_natCast] at h)
          refine awp_exit ?_
          refine awp_seq ?_
          refine awp_ent (Ent.giveMat (H' := []) 8 rfl rfl hrl4 (by omega) (fun k hk => by rw [look_skip (by omega)]; exact rowsH_at (rows := rows4) (by omega)) (fun k blk hk => by simp at hk)) ?_
          refine awp_region rfl (.n (fun _ => op_move (.plain rfl)) (.n (fun _ => op_assign (.plain rfl)) (.n (fun _ => op_assign (.plain rfl)) (.nil _)))) ?_
          refine awp_ret ?_
          refine retQ.ret ?_
          refine ret2 rfl rfl rfl rfl rfl ?_
          rw [hR4.eq]
          rfl

set_option maxRecDepth 1000000 in
set_option maxHeartbeats 4000000 in
theorem strongest_fcm (n : Nat) (L : List (Int × List Int × Unit)) (hv : voteE n L = 0) (f : Nat) (way : List Int) (s : Int) (rr : Nat → Int) (hway : WayOk n f way) (hs : 0 ≤ s ∧ s ≤ 30000) (hr : ∀ y, y < n → 0 ≤ rr y) : FCM Try.prog 66 [some (.rows (prM n L)), some (.ints way), some (.i s), none] (.arr 3 1 Int 0 (fun n => [.int .i64 n]) (mapr n rr)) (.arr 3 1 Int 0 (fun n => [.int .i64 n]) (mapr n fun q => max (rr q) (bst n (wM L) f way s (q : Nat)))) (.tup []) := by
  have h0 : f = f := rfl
  induction f using Nat.strongRecOn generalizing way s rr
  rename_i f ih
  refine FCM.intro Try.func66 rfl (Nat.le_of_ble_eq_true rfl) rfl (by simp [Blk.flatB, PV.flat]) (by simp [Blk.flatB, PV.flat]) fun hfit r => ?_
  obtain ⟨fitl0, fitr0⟩ := (hfit _ (.head _)).rows
  obtain ⟨fitl1, fitr1⟩ := (hfit _ (.tail _ (.head _))).ints
  have fit2 : -9223372036854775808 ≤ (s : Int) ∧ (s : Int) ≤ 9223372036854775807 := (hfit _ (.tail _ (.tail _ (.head _)))).int64
  have hV := vok hv
  have hL30 := hV.len
  have hn := hV.n6
  have hn1 := hV.n1
  obtain ⟨la, hla, hlan⟩ := hway.last
  have hwl := hway.pos
  have hwn := hway.len
  have hg : way.getD ((way.length : Int) - 1).toNat 0 = (la : Int) := by
    rw [show ((way.length : Int) - 1).toNat = way.length - 1 by omega]
    exact hla
  refine awp_seq ?_
  refine awp_region rfl (.n (fun _ => op_move (.plain rfl)) (.n (fun _ => op_move (.plain rfl)) (.n (fun _ => op_len (s := 0) Try.underlying23 (.plain rfl)) (.n (fun _ => op_sub (.plain rfl) (.plain rfl) ?_) (.n (fun _ => op_indexAddr Try.underlying23 Try.sizeOf3 (.plain rfl) (.plain rfl) (fun _ => rfl) ?_) (.n (fun _ => op_load Try.isAgg3 (.plain rfl)) (.n (fun _ => op_assign (.plain rfl)) (.nil _)))))))) ?_
  · (try rw [hg])
    (try simp only [Int.toNat_natCast, prM_length, mapr_length])
    (try rw [prM_row (show la < n by omega)])
    (try rw [prM_row (show y < n by omega)])
    unfold InR; omega
  · (try rw [hg])
    (try simp only [Int.toNat_natCast, prM_length, mapr_length])
    (try rw [prM_row (show la < n by omega)])
    (try rw [prM_row (show y < n by omega)])
    omega
  refine awp_seq ?_
  refine awp_seq ?_
  refine awp_region rfl (.n (fun _ => op_move (.plain rfl)) (.n (fun _ => op_move (.plain rfl)) (.n (fun _ => op_move (.plain rfl)) (.r (op_indexAddrO Try.underlying23 Try.sizeOf3 (.ownS rfl) rfl (.plain rfl) ?_) (.r (op_loadE Try.isAgg3 (.plain rfl) rfl (fun _ => rfl) ?_ rfl) (.n (fun _ => op_gtr (.plain rfl) (.plain rfl)) (.nil _))))))) ?_
  · (try rw [hg])
    (try simp only [Int.toNat_natCast, prM_length, mapr_length])
    (try rw [prM_row (show la < n by omega)])
    (try rw [prM_row (show y < n by omega)])
    first | omega | (simp; omega)
  · (try rw [hg])
    (try simp only [Int.toNat_natCast, prM_length, mapr_length])
    (try rw [prM_row (show la < n by omega)])
    (try rw [prM_row (show y < n by omega)])
    first | omega | (simp; omega)
  refine awp_cond rfl (fun h => ?_) (fun h => ?_)
  · (try simp only [decide_eq_true_eq, decide_eq_false_iff_not, Bool.and_eq_true, Bool.or_eq_true, Bool.and_eq_false_iff, Bool.or_eq_false_iff, Bool.not_eq_true', Bool.not_eq_false', Bool.not_eq_true, Bool.not_eq_false, Bool.true_eq_false, Bool.false_eq_true] at h); (try simp only [fold_c, fold_o, Int.toNat_natCast] at h); (try simp only [prM_length] at h)
    rw [hg] at h
    have hlt : (mapr n rr).getD la 0 < s := by simpa using h
    clear h
    refine awp_region rfl (.n (fun _ => op_move (.plain rfl)) (.n (fun _ => op_move (.plain rfl)) (.n (fun _ => op_move (.plain rfl)) (.r (op_indexAddrO Try.underlying23 Try.sizeOf3 (.ownS rfl) rfl (.plain rfl) ?_) (.e (op_storeE _ Try.sizeOf3 (.plain rfl) (.plain rfl) rfl (fun _ => rfl) ?_ (by decide) rfl rfl) rfl (.nil _)))))) ?_
    · (try rw [hg])
      (try simp only [Int.toNat_natCast, prM_length, mapr_length])
      (try rw [prM_row (show la < n by omega)])
      (try rw [prM_row (show y < n by omega)])
      first | omega | (simp; omega)
    · (try rw [hg])
      (try simp only [Int.toNat_natCast, prM_length, mapr_length])
      (try rw [prM_row (show la < n by omega)])
      (try rw [prM_row (show y < n by omega)])
      first | omega | (simp; omega)
    refine awp_seq ?_
    refine awp_region rfl (.n (fun _ => op_assign (.plain rfl)) (.nil _)) ?_
    refine awp_block ?_
    refine awp_loop (σ := Nat) (fun (y : Nat) => y ≤ n) (fun (y : Nat) => ⟨[(0, .pv (.rows (prM n L))), (1, .pv (.ints way)), (2, .int s), (3, .ownV 0 r), (8, .int (la : Nat)), (9, .int (y : Nat))], [(0, .arr 3 1 Int 0 (fun n => [.int .i64 n]) (mapr n fun q => max (rr q) (bstTo n (wM L) f way s (q : Nat) y)))]⟩) (fun (y : Nat) => n - y) 0 ?_ (Ent.kept ⟨rfl, rfl, rfl, rfl, (congrArg (fun n : Int => some (SV.int n)) (hg)), rfl, trivial⟩ ⟨(congrArg (fun l => some (Blk.arr 3 1 Int 0 (fun n => [.int .i64 n]) l)) (by rw [hg]; exact str_set hla hs.1 hlt hr)), trivial⟩) ?_
    · exact Nat.zero_le _
    rintro y hp
    try dsimp only at hp
    have hy := hp
    refine awp_seq ?_
    refine awp_seq ?_
    refine awp_region rfl (.n (fun _ => op_move (.plain rfl)) (.n (fun _ => op_move (.plain rfl)) (.n (fun _ => op_len (s := 0) Try.underlying31 (.plain rfl)) (.n (fun _ => op_lss (.plain rfl) (.plain rfl)) (.nil _))))) ?_
    refine awp_cond rfl (fun h => ?_) (fun h => ?_)
    · (try simp only [decide_eq_true_eq, decide_eq_false_iff_not, Bool.and_eq_true, Bool.or_eq_true, Bool.and_eq_false_iff, Bool.or_eq_false_iff, Bool.not_eq_true', Bool.not_eq_false', Bool.not_eq_true, Bool.not_eq_false, Bool.true_eq_false, Bool.false_eq_true] at h); (try simp only [fold_c, fold_o, Int.toNat_natCast] at h); (try simp only [prM_length] at h)
      refine awp_skip ?_
      refine awp_seq ?_
      refine awp_block ?_
      refine awp_seq ?_
      refine awp_region rfl (.n (fun _ => op_move (.plain rfl)) (.n (fun _ => op_move (.plain rfl)) (.n (fun _ => op_call2 Try.call26 (.plain rfl) (.plain rfl) (In_fc _ _)) (.n (fun _ => op_assign (.plain rfl)) (.nil _))))) ?_
      refine awp_seq ?_
      refine awp_seq ?_
      refine awp_region_draw mixed rfl (.n (fun _ => op_move (.plain rfl)) (.n (fun _ => op_move (.plain rfl)) (.gn rfl rfl (fun hg _ => op_move (.plain rfl)) (.gn rfl rfl (fun hg _ => op_move (.plain rfl)) (.gn rfl rfl (fun hg _ => op_indexAddrN Try.underlying31 Try.sizeOf23 (.opt rfl fun h => h) (.opt rfl fun h => h) (fun _ => rfl) ?_) (.gn rfl rfl (fun hg _ => op_load Try.isAgg23 (.opt rfl fun h => h)) (.gn rfl rfl (fun hg _ => op_move (.plain rfl)) (.gn rfl rfl (fun hg _ => op_indexAddrN Try.underlying23 Try.sizeOf3 (.opt rfl fun h => h) (.opt rfl fun h => h) (fun _ => rfl) ?_) (.gn rfl rfl (fun hg _ => op_load Try.isAgg3 (.opt rfl fun h => h)) (.gn rfl rfl (fun hg _ => op_move (.plain rfl)) (.gn rfl rfl (fun hg _ => op_move (.plain rfl)) (.gn rfl rfl (fun hg _ => op_indexAddrN Try.underlying31 Try.sizeOf23 (.opt rfl fun h => h) (.opt rfl fun h => h) (fun _ => rfl) ?_) (.gn rfl rfl (fun hg _ => op_load Try.isAgg23 (.opt rfl fun h => h)) (.gn rfl rfl (fun hg _ => op_move (.plain rfl)) (.gn rfl rfl (fun hg _ => op_indexAddrN Try.underlying23 Try.sizeOf3 (.opt rfl fun h => h) (.opt rfl fun h => h) (fun _ => rfl) ?_) (.gn rfl rfl (fun hg _ => op_load Try.isAgg3 (.opt rfl fun h => h)) (.gn rfl rfl (fun hg _ => op_leq (.opt rfl fun h => h) (.opt rfl fun h => h)) (.n (fun _ => op_or (.plain rfl) (.plain rfl) (.plain rfl) (fun h => eqF h)) (.nil _))))))))))))))))))) ?d4 ?_
      · try simp only [beq_iff_eq, beq_true, beq_false, Bool.and_eq_true, decide_eq_true_eq, decide_eq_false_iff_not, Bool.not_eq_true', Bool.or_eq_true, Bool.or_eq_false_iff] at hg
        (try rw [hg])
        (try simp only [Int.toNat_natCast, prM_length, mapr_length])
        (try rw [prM_row (show la < n by omega)])
        (try rw [prM_row (show y < n by omega)])
        omega
      · try simp only [beq_iff_eq, beq_true, beq_false, Bool.and_eq_true, decide_eq_true_eq, decide_eq_false_iff_not, Bool.not_eq_true', Bool.or_eq_true, Bool.or_eq_false_iff] at hg
        (try rw [hg])
        (try simp only [Int.toNat_natCast, prM_length, mapr_length])
        (try rw [prM_row (show la < n by omega)])
        (try rw [prM_row (show y < n by omega)])
        omega
      · try simp only [beq_iff_eq, beq_true, beq_false, Bool.and_eq_true, decide_eq_true_eq, decide_eq_false_iff_not, Bool.not_eq_true', Bool.or_eq_true, Bool.or_eq_false_iff] at hg
        (try rw [hg])
        (try simp only [Int.toNat_natCast, prM_length, mapr_length])
        (try rw [prM_row (show la < n by omega)])
        (try rw [prM_row (show y < n by omega)])
        omega
      · try simp only [beq_iff_eq, beq_true, beq_false, Bool.and_eq_true, decide_eq_true_eq, decide_eq_false_iff_not, Bool.not_eq_true', Bool.or_eq_true, Bool.or_eq_false_iff] at hg
        (try rw [hg])
        (try simp only [Int.toNat_natCast, prM_length, mapr_length])
        (try rw [prM_row (show la < n by omega)])
        (try rw [prM_row (show y < n by omega)])
        omega
      · kernel_rfl
      refine awp_cond rfl (fun h => ?_) (fun h => ?_)
      · (try simp only [decide_eq_true_eq, decide_eq_false_iff_not, Bool.and_eq_true, Bool.or_eq_true, Bool.and_eq_false_iff, Bool.or_eq_false_iff, Bool.not_eq_true', Bool.not_eq_false', Bool.not_eq_true, Bool.not_eq_false, Bool.true_eq_false, Bool.false_eq_true] at h); (try simp only [fold_c, fold_o, Int.toNat_natCast] at h); (try simp only [prM_length] at h)
        have hny := str_no hV hla hlan (show y < n by omega) h
        refine awp_exit ?_
        refine awp_region rfl (.n (fun _ => op_move (.plain rfl)) (.n (fun _ => op_add (.plain rfl) (.plain rfl) ?_) (.n (fun _ => op_assign (.plain rfl)) (.nil _)))) ?_
        · (try rw [hg])
          (try simp only [Int.toNat_natCast, prM_length, mapr_length])
          (try rw [prM_row (show la < n by omega)])
          (try rw [prM_row (show y < n by omega)])
          unfold InR; omega
        exact ⟨y + 1, by omega, by dsimp only; omega, (Ent.kept ⟨rfl, rfl, rfl, rfl, rfl, rfl, trivial⟩ ⟨(by first | exact (congrArg (fun l => some (Blk.arr 3 1 Int 0 (fun n => [.int .i64 n]) l)) (mapr_same fun q hq => by rw [bstTo_skip hs.1 hny])) | exact (congrArg (fun l => some (Blk.arr 3 1 Int 0 (fun n => [.int .i64 n]) l)) (mapr_same fun q hq => by rw [← bstTo_step hny, hs2]; omega))), trivial⟩)⟩
      · (try simp only [decide_eq_true_eq, decide_eq_false_iff_not, Bool.and_eq_true, Bool.or_eq_true, Bool.and_eq_false_iff, Bool.or_eq_false_iff, Bool.not_eq_true', Bool.not_eq_false', Bool.not_eq_true, Bool.not_eq_false, Bool.true_eq_false, Bool.false_eq_true] at h); (try simp only [fold_c, fold_o, Int.toNat_natCast] at h); (try simp only [prM_length] at h)
        have hny := str_yes hV hla hlan (show y < n by omega) h
        obtain ⟨g, rfl⟩ := hway.more (show y < n by omega) hny.1
        have hss := str_s hV hla hlan (show y < n by omega) hny.2 (way := way) (s := s)
        have hsb := step_bd hs (prefF_bd hV (la : Nat) (y : Nat)) (way := way)
        refine awp_skip ?_
        refine awp_seq ?_
        refine awp_region rfl (.n (fun _ => op_move (.plain rfl)) (.n (fun _ => op_move (.plain rfl)) (.n (fun _ => op_indexAddrN Try.underlying31 Try.sizeOf23 (.plain rfl) (.plain rfl) (fun _ => rfl) ?_) (.n (fun _ => op_load Try.isAgg23 (.plain rfl)) (.n (fun _ => op_move (.plain rfl)) (.n (fun _ => op_indexAddrN Try.underlying23 Try.sizeOf3 (.plain rfl) (.plain rfl) (fun _ => rfl) ?_) (.n (fun _ => op_load Try.isAgg3 (.plain rfl)) (.n (fun _ => op_assign (.plain rfl)) (.nil _))))))))) ?_
        · (try rw [hg])
          (try simp only [Int.toNat_natCast, prM_length, mapr_length])
          (try rw [prM_row (show la < n by omega)])
          (try rw [prM_row (show y < n by omega)])
          omega
        · (try rw [hg])
          (try simp only [Int.toNat_natCast, prM_length, mapr_length])
          (try rw [prM_row (show la < n by omega)])
          (try rw [prM_row (show y < n by omega)])
          omega
        refine awp_seq ?_
        refine awp_seq ?_
        refine awp_region rfl (.n (fun _ => op_move (.plain rfl)) (.n (fun _ => op_len (s := 0) Try.underlying23 (.plain rfl)) (.n (fun _ => op_gtr (.plain rfl) (.plain rfl)) (.n (fun _ => op_move (.plain rfl)) (.gn rfl rfl (fun hg _ => op_move (.plain rfl)) (.gn rfl rfl (fun hg _ => op_move (.plain rfl)) (.gn rfl rfl (fun hg _ => op_lss (.opt rfl fun h => h) (.opt rfl fun h => h)) (.n (fun _ => op_and (.plain rfl) (.plain rfl) (.plain rfl) (fun h => eqT h)) (.nil _))))))))) ?_
        refine awp_cond rfl (fun h => ?_) (fun h => ?_)
        · (try simp only [decide_eq_true_eq, decide_eq_false_iff_not, Bool.and_eq_true, Bool.or_eq_true, Bool.and_eq_false_iff, Bool.or_eq_false_iff, Bool.not_eq_true', Bool.not_eq_false', Bool.not_eq_true, Bool.not_eq_false, Bool.true_eq_false, Bool.false_eq_true] at h); (try simp only [fold_c, fold_o, Int.toNat_natCast] at h); (try simp only [prM_length] at h)
          rw [prM_two hlan (show y < n by omega)] at h
          have hs2 : stepS way s (wM L (lastI way) (y : Nat)) = s := by
            rw [hss]; exact if_pos ⟨by omega, h.2⟩
          refine awp_region rfl (.n (fun _ => op_move (.plain rfl)) (.n (fun _ => op_assign (.plain rfl)) (.nil _))) ?_
          refine awp_region rfl (.n (fun _ => op_move (.plain rfl)) (.e (op_slitO (pp := []) (α := Int) (d := 0) (f := (fun n => [.int .i64 n])) 72 [] ety23 rfl trivial rfl (by decide) rfl (fun _ => rfl) rfl) rfl (.n (fun _ => op_move (.plain rfl)) (.e (op_append (id' := 74) (α := Int) (d := 0) (f := (fun n => [.int .i64 n])) ety23 Try.underlying23 (fun _ => rfl) (fun _ => rfl) (.plain rfl) rfl (.plain rfl) rfl ?_) rfl (.n (fun _ => op_move (.plain rfl)) (.n (fun _ => op_slit (pp := [(0, _)]) (α := Int) (d := 0) (f := (fun n => [.int .i64 n])) [_] ety23 rfl ⟨rfl, (.plain rfl), (by simp), trivial⟩ rfl (by decide) rfl) (.e ((op_append (id' := 77) (α := Int) (d := 0) (f := (fun n => [.int .i64 n])) ety23 Try.underlying23 (fun _ => rfl) (fun _ => rfl) (.plain rfl) rfl (.plain rfl) rfl ?_).given rfl) rfl (.n (fun _ => op_move (.plain rfl)) (.n (fun _ => op_move (.plain rfl)) (.e (op_callM (vals := [some _, some _, some _, none]) 0 Try.call66 ⟨(.plain rfl), (.plain rfl), (.plain rfl), (.ownS rfl), trivial⟩ rfl (ih g (by omega) (way ++ [(y : Int)]) _ (fun q => max (rr q) (bstTo n (wM L) (g + 1) way s (q : Nat) y)) ?_ ?_ ?_ rfl) rfl (by simp [Blk.flatB, PV.flat]) (by simp [Blk.flatB, PV.flat])) rfl (.nil _))))))))))) ?_
          · (try rw [hg])
            (try simp only [Int.toNat_natCast, prM_length, mapr_length])
            (try rw [prM_row (show la < n by omega)])
            (try rw [prM_row (show y < n by omega)])
            first | omega | (simp; omega)
          · (try rw [hg])
            (try simp only [Int.toNat_natCast, prM_length, mapr_length])
            (try rw [prM_row (show la < n by omega)])
            (try rw [prM_row (show y < n by omega)])
            first | omega | (simp; omega)
          · (try rw [hg])
            (try simp only [Int.toNat_natCast, prM_length, mapr_length])
            (try rw [prM_row (show la < n by omega)])
            (try rw [prM_row (show y < n by omega)])
            exact hway.add (by omega) hny.1
          · (try rw [hg])
            (try simp only [Int.toNat_natCast, prM_length, mapr_length])
            (try rw [prM_row (show la < n by omega)])
            (try rw [prM_row (show y < n by omega)])
            rw [← hs2, hss]
            exact hsb
          · (try rw [hg])
            (try simp only [Int.toNat_natCast, prM_length, mapr_length])
            (try rw [prM_row (show la < n by omega)])
            (try rw [prM_row (show y < n by omega)])
            intro q hq
            have := hr q hq
            omega
          refine awp_region rfl (.n (fun _ => op_move (.plain rfl)) (.n (fun _ => op_add (.plain rfl) (.plain rfl) ?_) (.n (fun _ => op_assign (.plain rfl)) (.nil _)))) ?_
          · (try rw [hg])
            (try simp only [Int.toNat_natCast, prM_length, mapr_length])
            (try rw [prM_row (show la < n by omega)])
            (try rw [prM_row (show y < n by omega)])
            unfold InR; omega
          exact ⟨y + 1, by omega, by dsimp only; omega, (Ent.kept ⟨rfl, rfl, rfl, rfl, rfl, rfl, trivial⟩ ⟨(by first | exact (congrArg (fun l => some (Blk.arr 3 1 Int 0 (fun n => [.int .i64 n]) l)) (mapr_same fun q hq => by rw [bstTo_skip hs.1 hny])) | exact (congrArg (fun l => some (Blk.arr 3 1 Int 0 (fun n => [.int .i64 n]) l)) (mapr_same fun q hq => by rw [← bstTo_step hny, hs2]; omega))), trivial⟩)⟩
        · (try simp only [decide_eq_true_eq, decide_eq_false_iff_not, Bool.and_eq_true, Bool.or_eq_true, Bool.and_eq_false_iff, Bool.or_eq_false_iff, Bool.not_eq_true', Bool.not_eq_false', Bool.not_eq_true, Bool.not_eq_false, Bool.true_eq_false, Bool.false_eq_true] at h); (try simp only [fold_c, fold_o, Int.toNat_natCast] at h); (try simp only [prM_length] at h)
          rw [prM_two hlan (show y < n by omega)] at h
          have hs2 : stepS way s (wM L (lastI way) (y : Nat)) = ((prM n L).getD la []).getD y 0 := by
            rw [hss, prM_two hlan (show y < n by omega)]; exact if_neg (by omega)
          refine awp_skip ?_
          refine awp_region rfl (.n (fun _ => op_move (.plain rfl)) (.e (op_slitO (pp := []) (α := Int) (d := 0) (f := (fun n => [.int .i64 n])) 72 [] ety23 rfl trivial rfl (by decide) rfl (fun _ => rfl) rfl) rfl (.n (fun _ => op_move (.plain rfl)) (.e (op_append (id' := 74) (α := Int) (d := 0) (f := (fun n => [.int .i64 n])) ety23 Try.underlying23 (fun _ => rfl) (fun _ => rfl) (.plain rfl) rfl (.plain rfl) rfl ?_) rfl (.n (fun _ => op_move (.plain rfl)) (.n (fun _ => op_slit (pp := [(0, _)]) (α := Int) (d := 0) (f := (fun n => [.int .i64 n])) [_] ety23 rfl ⟨rfl, (.plain rfl), (by simp), trivial⟩ rfl (by decide) rfl) (.e ((op_append (id' := 77) (α := Int) (d := 0) (f := (fun n => [.int .i64 n])) ety23 Try.underlying23 (fun _ => rfl) (fun _ => rfl) (.plain rfl) rfl (.plain rfl) rfl ?_).given rfl) rfl (.n (fun _ => op_move (.plain rfl)) (.n (fun _ => op_move (.plain rfl)) (.e (op_callM (vals := [some _, some _, some _, none]) 0 Try.call66 ⟨(.plain rfl), (.plain rfl), (.plain rfl), (.ownS rfl), trivial⟩ rfl (ih g (by omega) (way ++ [(y : Int)]) _ (fun q => max (rr q) (bstTo n (wM L) (g + 1) way s (q : Nat) y)) ?_ ?_ ?_ rfl) rfl (by simp [Blk.flatB, PV.flat]) (by simp [Blk.flatB, PV.flat])) rfl (.nil _))))))))))) ?_
          · (try rw [hg])
            (try simp only [Int.toNat_natCast, prM_length, mapr_length])
            (try rw [prM_row (show la < n by omega)])
            (try rw [prM_row (show y < n by omega)])
            first | omega | (simp; omega)
          · (try rw [hg])
            (try simp only [Int.toNat_natCast, prM_length, mapr_length])
            (try rw [prM_row (show la < n by omega)])
            (try rw [prM_row (show y < n by omega)])
            first | omega | (simp; omega)
          · (try rw [hg])
            (try simp only [Int.toNat_natCast, prM_length, mapr_length])
            (try rw [prM_row (show la < n by omega)])
            (try rw [prM_row (show y < n by omega)])
            exact hway.add (by omega) hny.1
          · (try rw [hg])
            (try simp only [Int.toNat_natCast, prM_length, mapr_length])
            (try rw [prM_row (show la < n by omega)])
            (try rw [prM_row (show y < n by omega)])
            rw [← hs2, hss]
            exact hsb
          · (try rw [hg])
            (try simp only [Int.toNat_natCast, prM_length, mapr_length])
            (try rw [prM_row (show la < n by omega)])
            (try rw [prM_row (show y < n by omega)])
            intro q hq
            have := hr q hq
            omega
          refine awp_region rfl (.n (fun _ => op_move (.plain rfl)) (.n (fun _ => op_add (.plain rfl) (.plain rfl) ?_) (.n (fun _ => op_assign (.plain rfl)) (.nil _)))) ?_
          · (try rw [hg])
            (try simp only [Int.toNat_natCast, prM_length, mapr_length])
            (try rw [prM_row (show la < n by omega)])
            (try rw [prM_row (show y < n by omega)])
            unfold InR; omega
          exact ⟨y + 1, by omega, by dsimp only; omega, (Ent.kept ⟨rfl, rfl, rfl, rfl, rfl, rfl, trivial⟩ ⟨(by first | exact (congrArg (fun l => some (Blk.arr 3 1 Int 0 (fun n => [.int .i64 n]) l)) (mapr_same fun q hq => by rw [bstTo_skip hs.1 hny])) | exact (congrArg (fun l => some (Blk.arr 3 1 Int 0 (fun n => [.int .i64 n]) l)) (mapr_same fun q hq => by rw [← bstTo_step hny, hs2]; omega))), trivial⟩)⟩
    · (try simp only [decide_eq_true_eq, decide_eq_false_iff_not, Bool.and_eq_true, Bool.or_eq_true, Bool.and_eq_false_iff, Bool.or_eq_false_iff, Bool.not_eq_true', Bool.not_eq_false', Bool.not_eq_true, Bool.not_eq_false, Bool.true_eq_false, Bool.false_eq_true] at h); (try simp only [fold_c, fold_o, Int.toNat_natCast] at h); (try simp only [prM_length] at h)
      refine awp_exit ?_
      refine retW0 rfl (t := 3) rfl ?_ ?_
      · exact (congrArg (fun l => some (Blk.arr 3 1 Int 0 (fun n => [.int .i64 n]) l)) (mapr_same fun q hq => by rw [show y = n by omega, bst_end hs.1 hway]))
      · rfl
  · (try simp only [decide_eq_true_eq, decide_eq_false_iff_not, Bool.and_eq_true, Bool.or_eq_true, Bool.and_eq_false_iff, Bool.or_eq_false_iff, Bool.not_eq_true', Bool.not_eq_false', Bool.not_eq_true, Bool.not_eq_false, Bool.true_eq_false, Bool.false_eq_true] at h); (try simp only [fold_c, fold_o, Int.toNat_natCast] at h); (try simp only [prM_length] at h)
    rw [hg] at h
    have hlt : ¬ (mapr n rr).getD la 0 < s := by simpa using h
    clear h
    refine awp_skip ?_
    refine awp_seq ?_
    refine awp_region rfl (.n (fun _ => op_assign (.plain rfl)) (.nil _)) ?_
    refine awp_block ?_
    refine awp_loop (σ := Nat) (fun (y : Nat) => y ≤ n) (fun (y : Nat) => ⟨[(0, .pv (.rows (prM n L))), (1, .pv (.ints way)), (2, .int s), (3, .ownV 0 r), (8, .int (la : Nat)), (9, .int (y : Nat))], [(0, .arr 3 1 Int 0 (fun n => [.int .i64 n]) (mapr n fun q => max (rr q) (bstTo n (wM L) f way s (q : Nat) y)))]⟩) (fun (y : Nat) => n - y) 0 ?_ (Ent.kept ⟨rfl, rfl, rfl, rfl, (congrArg (fun n : Int => some (SV.int n)) (hg)), rfl, trivial⟩ ⟨(congrArg (fun l => some (Blk.arr 3 1 Int 0 (fun n => [.int .i64 n]) l)) (str_keep hla hlan hlt hr)), trivial⟩) ?_
    · exact Nat.zero_le _
    rintro y hp
    try dsimp only at hp
    have hy := hp
    refine awp_seq ?_
    refine awp_seq ?_
    refine awp_region rfl (.n (fun _ => op_move (.plain rfl)) (.n (fun _ => op_move (.plain rfl)) (.n (fun _ => op_len (s := 0) Try.underlying31 (.plain rfl)) (.n (fun _ => op_lss (.plain rfl) (.plain rfl)) (.nil _))))) ?_
    refine awp_cond rfl (fun h => ?_) (fun h => ?_)
    · (try simp only [decide_eq_true_eq, decide_eq_false_iff_not, Bool.and_eq_true, Bool.or_eq_true, Bool.and_eq_false_iff, Bool.or_eq_false_iff, Bool.not_eq_true', Bool.not_eq_false', Bool.not_eq_true, Bool.not_eq_false, Bool.true_eq_false, Bool.false_eq_true] at h); (try simp only [fold_c, fold_o, Int.toNat_natCast] at h); (try simp only [prM_length] at h)
      refine awp_skip ?_
      refine awp_seq ?_
      refine awp_block ?_
      refine awp_seq ?_
      refine awp_region rfl (.n (fun _ => op_move (.plain rfl)) (.n (fun _ => op_move (.plain rfl)) (.n (fun _ => op_call2 Try.call26 (.plain rfl) (.plain rfl) (In_fc _ _)) (.n (fun _ => op_assign (.plain rfl)) (.nil _))))) ?_
      refine awp_seq ?_
      refine awp_seq ?_
      refine awp_region_draw mixed rfl (.n (fun _ => op_move (.plain rfl)) (.n (fun _ => op_move (.plain rfl)) (.gn rfl rfl (fun hg _ => op_move (.plain rfl)) (.gn rfl rfl (fun hg _ => op_move (.plain rfl)) (.gn rfl rfl (fun hg _ => op_indexAddrN Try.underlying31 Try.sizeOf23 (.opt rfl fun h => h) (.opt rfl fun h => h) (fun _ => rfl) ?_) (.gn rfl rfl (fun hg _ => op_load Try.isAgg23 (.opt rfl fun h => h)) (.gn rfl rfl (fun hg _ => op_move (.plain rfl)) (.gn rfl rfl (fun hg _ => op_indexAddrN Try.underlying23 Try.sizeOf3 (.opt rfl fun h => h) (.opt rfl fun h => h) (fun _ => rfl) ?_) (.gn rfl rfl (fun hg _ => op_load Try.isAgg3 (.opt rfl fun h => h)) (.gn rfl rfl (fun hg _ => op_move (.plain rfl)) (.gn rfl rfl (fun hg _ => op_move (.plain rfl)) (.gn rfl rfl (fun hg _ => op_indexAddrN Try.underlying31 Try.sizeOf23 (.opt rfl fun h => h) (.opt rfl fun h => h) (fun _ => rfl) ?_) (.gn rfl rfl (fun hg _ => op_load Try.isAgg23 (.opt rfl fun h => h)) (.gn rfl rfl (fun hg _ => op_move (.plain rfl)) (.gn rfl rfl (fun hg _ => op_indexAddrN Try.underlying23 Try.sizeOf3 (.opt rfl fun h => h) (.opt rfl fun h => h) (fun _ => rfl) ?_) (.gn rfl rfl (fun hg _ => op_load Try.isAgg3 (.opt rfl fun h => h)) (.gn rfl rfl (fun hg _ => op_leq (.opt rfl fun h => h) (.opt rfl fun h => h)) (.n (fun _ => op_or (.plain rfl) (.plain rfl) (.plain rfl) (fun h => eqF h)) (.nil _))))))))))))))))))) ?d5 ?_
      · try simp only [beq_iff_eq, beq_true, beq_false, Bool.and_eq_true, decide_eq_true_eq, decide_eq_false_iff_not, Bool.not_eq_true', Bool.or_eq_true, Bool.or_eq_false_iff] at hg
        (try rw [hg])
        (try simp only [Int.toNat_natCast, prM_length, mapr_length])
        (try rw [prM_row (show la < n by omega)])
        (try rw [prM_row (show y < n by omega)])
        omega
      · try simp only [beq_iff_eq, beq_true, beq_false, Bool.and_eq_true, decide_eq_true_eq, decide_eq_false_iff_not, Bool.not_eq_true', Bool.or_eq_true, Bool.or_eq_false_iff] at hg
        (try rw [hg])
        (try simp only [Int.toNat_natCast, prM_length, mapr_length])
        (try rw [prM_row (show la < n by omega)])
        (try rw [prM_row (show y < n by omega)])
        omega
      · try simp only [beq_iff_eq, beq_true, beq_false, Bool.and_eq_true, decide_eq_true_eq, decide_eq_false_iff_not, Bool.not_eq_true', Bool.or_eq_true, Bool.or_eq_false_iff] at hg
        (try rw [hg])
        (try simp only [Int.toNat_natCast, prM_length, mapr_length])
        (try rw [prM_row (show la < n by omega)])
        (try rw [prM_row (show y < n by omega)])
        omega
      · try simp only [beq_iff_eq, beq_true, beq_false, Bool.and_eq_true, decide_eq_true_eq, decide_eq_false_iff_not, Bool.not_eq_true', Bool.or_eq_true, Bool.or_eq_false_iff] at hg
        (try rw [hg])
        (try simp only [Int.toNat_natCast, prM_length, mapr_length])
        (try rw [prM_row (show la < n by omega)])
        (try rw [prM_row (show y < n by omega)])
        omega
      · kernel_rfl
      refine awp_cond rfl (fun h => ?_) (fun h => ?_)
      · (try simp only [decide_eq_true_eq, decide_eq_false_iff_not, Bool.and_eq_true, Bool.or_eq_true, Bool.and_eq_false_iff, Bool.or_eq_false_iff, Bool.not_eq_true', Bool.not_eq_false', Bool.not_eq_true, Bool.not_eq_false, Bool.true_eq_false, Bool.false_eq_true] at h); (try simp only [fold_c, fold_o, Int.toNat_natCast] at h); (try simp only [prM_length] at h)
        have hny := str_no hV hla hlan (show y < n by omega) h
        refine awp_exit ?_
        refine awp_region rfl (.n (fun _ => op_move (.plain rfl)) (.n (fun _ => op_add (.plain rfl) (.plain rfl) ?_) (.n (fun _ => op_assign (.plain rfl)) (.nil _)))) ?_
        · (try rw [hg])
          (try simp only [Int.toNat_natCast, prM_length, mapr_length])
          (try rw [prM_row (show la < n by omega)])
          (try rw [prM_row (show y < n by omega)])
          unfold InR; omega
        exact ⟨y + 1, by omega, by dsimp only; omega, (Ent.kept ⟨rfl, rfl, rfl, rfl, rfl, rfl, trivial⟩ ⟨(by first | exact (congrArg (fun l => some (Blk.arr 3 1 Int 0 (fun n => [.int .i64 n]) l)) (mapr_same fun q hq => by rw [bstTo_skip hs.1 hny])) | exact (congrArg (fun l => some (Blk.arr 3 1 Int 0 (fun n => [.int .i64 n]) l)) (mapr_same fun q hq => by rw [← bstTo_step hny, hs2]; omega))), trivial⟩)⟩
      · (try simp only [decide_eq_true_eq, decide_eq_false_iff_not, Bool.and_eq_true, Bool.or_eq_true, Bool.and_eq_false_iff, Bool.or_eq_false_iff, Bool.not_eq_true', Bool.not_eq_false', Bool.not_eq_true, Bool.not_eq_false, Bool.true_eq_false, Bool.false_eq_true] at h); (try simp only [fold_c, fold_o, Int.toNat_natCast] at h); (try simp only [prM_length] at h)
        have hny := str_yes hV hla hlan (show y < n by omega) h
        obtain ⟨g, rfl⟩ := hway.more (show y < n by omega) hny.1
        have hss := str_s hV hla hlan (show y < n by omega) hny.2 (way := way) (s := s)
        have hsb := step_bd hs (prefF_bd hV (la : Nat) (y : Nat)) (way := way)
        refine awp_skip ?_
        refine awp_seq ?_
        refine awp_region rfl (.n (fun _ => op_move (.plain rfl)) (.n (fun _ => op_move (.plain rfl)) (.n (fun _ => op_indexAddrN Try.underlying31 Try.sizeOf23 (.plain rfl) (.plain rfl) (fun _ => rfl) ?_) (.n (fun _ => op_load Try.isAgg23 (.plain rfl)) (.n (fun _ => op_move (.plain rfl)) (.n (fun _ => op_indexAddrN Try.underlying23 Try.sizeOf3 (.plain rfl) (.plain rfl) (fun _ => rfl) ?_) (.n (fun _ => op_load Try.isAgg3 (.plain rfl)) (.n (fun _ => op_assign (.plain rfl)) (.nil _))))))))) ?_
        · (try rw [hg])
          (try simp only [Int.toNat_natCast, prM_length, mapr_length])
          (try rw [prM_row (show la < n by omega)])
          (try rw [prM_row (show y < n by omega)])
          omega
        · (try rw [hg])
          (try simp only [Int.toNat_natCast, prM_length, mapr_length])
          (try rw [prM_row (show la < n by omega)])
          (try rw [prM_row (show y < n by omega)])
          omega
        refine awp_seq ?_
        refine awp_seq ?_
        refine awp_region rfl (.n (fun _ => op_move (.plain rfl)) (.n (fun _ => op_len (s := 0) Try.underlying23 (.plain rfl)) (.n (fun _ => op_gtr (.plain rfl) (.plain rfl)) (.n (fun _ => op_move (.plain rfl)) (.gn rfl rfl (fun hg _ => op_move (.plain rfl)) (.gn rfl rfl (fun hg _ => op_move (.plain rfl)) (.gn rfl rfl (fun hg _ => op_lss (.opt rfl fun h => h) (.opt rfl fun h => h)) (.n (fun _ => op_and (.plain rfl) (.plain rfl) (.plain rfl) (fun h => eqT h)) (.nil _))))))))) ?_
        refine awp_cond rfl (fun h => ?_) (fun h => ?_)
        · (try simp only [decide_eq_true_eq, decide_eq_false_iff_not, Bool.and_eq_true, Bool.or_eq_true, Bool.and_eq_false_iff, Bool.or_eq_false_iff, Bool.not_eq_true', Bool.not_eq_false', Bool.not_eq_true, Bool.not_eq_false, Bool.true_eq_false, Bool.false_eq_true] at h); (try simp only [fold_c, fold_o, Int.toNat_natCast] at h); (try simp only [prM_length] at h)
          rw [prM_two hlan (show y < n by omega)] at h
          have hs2 : stepS way s (wM L (lastI way) (y : Nat)) = s := by
            rw [hss]; exact if_pos ⟨by omega, h.2⟩
          refine awp_region rfl (.n (fun _ => op_move (.plain rfl)) (.n (fun _ => op_assign (.plain rfl)) (.nil _))) ?_
          refine awp_region rfl (.n (fun _ => op_move (.plain rfl)) (.e (op_slitO (pp := []) (α := Int) (d := 0) (f := (fun n => [.int .i64 n])) 72 [] ety23 rfl trivial rfl (by decide) rfl (fun _ => rfl) rfl) rfl (.n (fun _ => op_move (.plain rfl)) (.e (op_append (id' := 74) (α := Int) (d := 0) (f := (fun n => [.int .i64 n])) ety23 Try.underlying23 (fun _ => rfl) (fun _ => rfl) (.plain rfl) rfl (.plain rfl) rfl ?_) rfl (.n (fun _ => op_move (.plain rfl)) (.n (fun _ => op_slit (pp := [(0, _)]) (α := Int) (d := 0) (f := (fun n => [.int .i64 n])) [_] ety23 rfl ⟨rfl, (.plain rfl), (by simp), trivial⟩ rfl (by decide) rfl) (.e ((op_append (id' := 77) (α := Int) (d := 0) (f := (fun n => [.int .i64 n])) ety23 Try.underlying23 (fun _ => rfl) (fun _ => rfl) (.plain rfl) rfl (.plain rfl) rfl ?_).given rfl) rfl (.n (fun _ => op_move (.plain rfl)) (.n (fun _ => op_move (.plain rfl)) (.e (op_callM (vals := [some _, some _, some _, none]) 0 Try.call66 ⟨(.plain rfl), (.plain rfl), (.plain rfl), (.ownS rfl), trivial⟩ rfl (ih g (by omega) (way ++ [(y : Int)]) _ (fun q => max (rr q) (bstTo n (wM L) (g + 1) way s (q : Nat) y)) ?_ ?_ ?_ rfl) rfl (by simp [Blk.flatB, PV.flat]) (by simp [Blk.flatB, PV.flat])) rfl (.nil _))))))))))) ?_
          · (try rw [hg])
            (try simp only [Int.toNat_natCast, prM_length, mapr_length])
            (try rw [prM_row (show la < n by omega)])
            (try rw [prM_row (show y < n by omega)])
            first | omega | (simp; omega)
          · (try rw [hg])
            (try simp only [Int.toNat_natCast, prM_length, mapr_length])
            (try rw [prM_row (show la < n by omega)])
            (try rw [prM_row (show y < n by omega)])
            first | omega | (simp; omega)
          · (try rw [hg])
            (try simp only [Int.toNat_natCast, prM_length, mapr_length])
            (try rw [prM_row (show la < n by omega)])
            (try rw [prM_row (show y < n by omega)])
            exact hway.add (by omega) hny.1
          · (try rw [hg])
            (try simp only [Int.toNat_natCast, prM_length, mapr_length])
            (try rw [prM_row (show la < n by omega)])
            (try rw [prM_row (show y < n by omega)])
            rw [← hs2, hss]
            exact hsb
          · (try rw [hg])
            (try simp only [Int.toNat_natCast, prM_length, mapr_length])
            (try rw [prM_row (show la < n by omega)])
            (try rw [prM_row (show y < n by omega)])
            intro q hq
            have := hr q hq
            omega
          refine awp_region rfl (.n (fun _ => op_move (.plain rfl)) (.n (fun _ => op_add (.plain rfl) (.plain rfl) ?_) (.n (fun _ => op_assign (.plain rfl)) (.nil _)))) ?_
          · (try rw [hg])
            (try simp only [Int.toNat_natCast, prM_length, mapr_length])
            (try rw [prM_row (show la < n by omega)])
            (try rw [prM_row (show y < n by omega)])
            unfold InR; omega
          exact ⟨y + 1, by omega, by dsimp only; omega, (Ent.kept ⟨rfl, rfl, rfl, rfl, rfl, rfl, trivial⟩ ⟨(by first | exact (congrArg (fun l => some (Blk.arr 3 1 Int 0 (fun n => [.int .i64 n]) l)) (mapr_same fun q hq => by rw [bstTo_skip hs.1 hny])) | exact (congrArg (fun l => some (Blk.arr 3 1 Int 0 (fun n => [.int .i64 n]) l)) (mapr_same fun q hq => by rw [← bstTo_step hny, hs2]; omega))), trivial⟩)⟩
        · (try simp only [decide_eq_true_eq, decide_eq_false_iff_not, Bool.and_eq_true, Bool.or_eq_true, Bool.and_eq_false_iff, Bool.or_eq_false_iff, Bool.not_eq_true', Bool.not_eq_false', Bool.not_eq_true, Bool.not_eq_false, Bool.true_eq_false, Bool.false_eq_true] at h); (try simp only [fold_c, fold_o, Int.toNat_natCast] at h); (try simp only [prM_length] at h)
          rw [prM_two hlan (show y < n by omega)] at h
          have hs2 : stepS way s (wM L (lastI way) (y : Nat)) = ((prM n L).getD la []).getD y 0 := by
            rw [hss, prM_two hlan (show y < n by omega)]; exact if_neg (by omega)
          refine awp_skip ?_
          refine awp_region rfl (.n (fun _ => op_move (.plain rfl)) (.e (op_slitO (pp := []) (α := Int) (d := 0) (f := (fun n => [.int .i64 n])) 72 [] ety23 rfl trivial rfl (by decide) rfl (fun _ => rfl) rfl) rfl (.n (fun _ => op_move (.plain rfl)) (.e (op_append (id' := 74) (α := Int) (d := 0) (f := (fun n => [.int .i64 n])) ety23 Try.underlying23 (fun _ => rfl) (fun _ => rfl) (.plain rfl) rfl (.plain rfl) rfl ?_) rfl (.n (fun _ => op_move (.plain rfl)) (.n (fun _ => op_slit (pp := [(0, _)]) (α := Int) (d := 0) (f := (fun n => [.int .i64 n])) [_] ety23 rfl ⟨rfl, (.plain rfl), (by simp), trivial⟩ rfl (by decide) rfl) (.e ((op_append (id' := 77) (α := Int) (d := 0) (f := (fun n => [.int .i64 n])) ety23 Try.underlying23 (fun _ => rfl) (fun _ => rfl) (.plain rfl) rfl (.plain rfl) rfl ?_).given rfl) rfl (.n (fun _ => op_move (.plain rfl)) (.n (fun _ => op_move (.plain rfl)) (.e (op_callM (vals := [some _, some _, some _, none]) 0 Try.call66 ⟨(.plain rfl), (.plain rfl), (.plain rfl), (.ownS rfl), trivial⟩ rfl (ih g (by omega) (way ++ [(y : Int)]) _ (fun q => max (rr q) (bstTo n (wM L) (g + 1) way s (q : Nat) y)) ?_ ?_ ?_ rfl) rfl (by simp [Blk.flatB, PV.flat]) (by simp [Blk.flatB, PV.flat])) rfl (.nil _))))))))))) ?_
          · (try rw [hg])
            (try simp only [Int.toNat_natCast, prM_length, mapr_length])
            (try rw [prM_row (show la < n by omega)])
            (try rw [prM_row (show y < n by omega)])
            first | omega | (simp; omega)
          · (try rw [hg])
            (try simp only [Int.toNat_natCast, prM_length, mapr_length])
            (try rw [prM_row (show la < n by omega)])
            (try rw [prM_row (show y < n by omega)])
            first | omega | (simp; omega)
          · (try rw [hg])
            (try simp only [Int.toNat_natCast, prM_length, mapr_length])
            (try rw [prM_row (show la < n by omega)])
            (try rw [prM_row (show y < n by omega)])
            exact hway.add (by omega) hny.1
          · (try rw [hg])
            (try simp only [Int.toNat_natCast, prM_length, mapr_length])
            (try rw [prM_row (show la < n by omega)])
            (try rw [prM_row (show y < n by omega)])
            rw [← hs2, hss]
            exact hsb
          · (try rw [hg])
            (try simp only [Int.toNat_natCast, prM_length, mapr_length])
            (try rw [prM_row (show la < n by omega)])
            (try rw [prM_row (show y < n by omega)])
            intro q hq
            have := hr q hq
            omega
          refine awp_region rfl (.n (fun _ => op_move (.plain rfl)) (.n (fun _ => op_add (.plain rfl) (.plain rfl) ?_) (.n (fun _ => op_assign (.plain rfl)) (.nil _)))) ?_
          · (try rw [hg])
            (try simp only [Int.toNat_natCast, prM_length, mapr_length])
            (try rw [prM_row (show la < n by omega)])
            (try rw [prM_row (show y < n by omega)])
            unfold InR; omega
          exact ⟨y + 1, by omega, by dsimp only; omega, (Ent.kept ⟨rfl, rfl, rfl, rfl, rfl, rfl, trivial⟩ ⟨(by first | exact (congrArg (fun l => some (Blk.arr 3 1 Int 0 (fun n => [.int .i64 n]) l)) (mapr_same fun q hq => by rw [bstTo_skip hs.1 hny])) | exact (congrArg (fun l => some (Blk.arr 3 1 Int 0 (fun n => [.int .i64 n]) l)) (mapr_same fun q hq => by rw [← bstTo_step hny, hs2]; omega))), trivial⟩)⟩
    · (try simp only [decide_eq_true_eq, decide_eq_false_iff_not, Bool.and_eq_true, Bool.or_eq_true, Bool.and_eq_false_iff, Bool.or_eq_false_iff, Bool.not_eq_true', Bool.not_eq_false', Bool.not_eq_true, Bool.not_eq_false, Bool.true_eq_false, Bool.false_eq_true] at h); (try simp only [fold_c, fold_o, Int.toNat_natCast] at h); (try simp only [prM_length] at h)
      refine awp_exit ?_
      refine retW0 rfl (t := 3) rfl ?_ ?_
      · exact (congrArg (fun l => some (Blk.arr 3 1 Int 0 (fun n => [.int .i64 n]) l)) (mapr_same fun q hq => by rw [show y = n by omega, bst_end hs.1 hway]))
      · rfl

set_option maxRecDepth 1000000 in
set_option maxHeartbeats 1000000 in
theorem RPaths_fc (n : Nat) (L : List (Int × List Int × Unit)) (hv : voteE n L = 0) : FC Try.prog 41 [.i (n : Nat), .seq (Int × List Int × Unit) (0, [], ()) (fun b => [.i b.1, .ints b.2.1]) L] (.rows (pthM n L)) := by
  refine FC.intro Try.func41 rfl (Nat.le_of_ble_eq_true rfl) fun hfit => ?_
  have fit0 : -9223372036854775808 ≤ ((n : Nat) : Int) ∧ ((n : Nat) : Int) ≤ 9223372036854775807 := (hfit _ (.head _)).int64
  have fit1 := hfit _ (.tail _ (.head _))
  have hV := vok hv
  have hL30 := hV.len
  have hn := hV.n6
  have hn1 := hV.n1
  refine awp_seq ?_
  refine awp_region rfl (.n (fun _ => op_assign (.plain rfl)) (.nil _)) ?_
  refine awp_seq ?_
  refine awp_region rfl (.n (fun _ => op_move (.plain rfl)) (.n (fun _ => op_move (.plain rfl)) (.n (fun _ => op_call2 Try.call40 (.plain rfl) (.plain rfl) (RPairs_fc n L hv)) (.n (fun _ => op_assign (.plain rfl)) (.nil _))))) ?_
  refine awp_seq ?_
  refine awp_region rfl (.n (fun _ => op_assign (.plain rfl)) (.nil _)) ?_
  refine awp_seq ?_
  refine awp_seq ?_
  refine awp_region rfl (.n (fun _ => op_assign (.plain rfl)) (.nil _)) ?_
  refine awp_block ?_
  refine awp_ent (Ent.begin 6 1006 23 1 (List Int) [] (fun r => [.seq Int 0 (fun n => [.int .i64 n]) r]) rfl rfl rfl) ?_
  refine awp_loop (σ := Nat) (fun (x : Nat) => x ≤ n) (fun (x : Nat) => ⟨[(0, .pv (.i (n : Nat))), (5, .pv (.rows (prM n L))), (6, .own 1006), (7, .int (x : Nat))], [(1006, .arr 23 1 (List Int) [] (fun r => [.seq Int 0 (fun n => [.int .i64 n]) r]) (mapr x fun x => mapr n fun y => fwF (wM L) n x y))]⟩) (fun (x : Nat) => n - x) 0 ?_ (Ent.kept ⟨rfl, rfl, rfl, rfl, trivial⟩ ⟨rfl, trivial⟩) ?_
  · exact Nat.zero_le _
  rintro x hp
  try dsimp only at hp
  have hx := hp
  refine awp_seq ?_
  refine awp_seq ?_
  refine awp_region rfl (.n (fun _ => op_move (.plain rfl)) (.n (fun _ => op_move (.plain rfl)) (.n (fun _ => op_lss (.plain rfl) (.plain rfl)) (.nil _)))) ?_
  refine awp_cond rfl (fun h => ?_) (fun h => ?_)
  · (try simp only [decide_eq_true_eq, decide_eq_false_iff_not, Bool.and_eq_true, Bool.or_eq_true, Bool.and_eq_false_iff, Bool.or_eq_false_iff, Bool.not_eq_true', Bool.not_eq_false', Bool.not_eq_true, Bool.not_eq_false, Bool.true_eq_false, Bool.false_eq_true] at h); (try simp only [fold_c, fold_o, Int.toNat_natCast] at h)
    refine awp_skip ?_
    refine awp_seq ?_
    refine awp_block ?_
    refine awp_seq ?_
    refine awp_region rfl (.n (fun _ => op_move (.plain rfl)) (.e (op_make (α := Int) (d := 0) (f := (fun n => [.int .i64 n])) 18 0 ety23 (.plain rfl) (.plain rfl) (fun _ => rfl) rfl rfl ?_) rfl (.n (fun _ => op_assign (.plain rfl)) (.nil _)))) ?_
    · (try simp only [Int.toNat_natCast, mapr_length])
      omega
    refine awp_seq ?_
    rw [replicate_mapr]
    refine awp_region rfl (.n (fun _ => op_move (.plain rfl)) (.n (fun _ => op_move (.plain rfl)) (.n (fun _ => op_slit (pp := [(0, _)]) (α := Int) (d := 0) (f := (fun n => [.int .i64 n])) [_] ety23 rfl ⟨rfl, (.plain rfl), (by simp), trivial⟩ rfl (by decide) rfl) (.n (fun _ => op_move (.plain rfl)) (.e (op_callM (vals := [some _, some _, some _, none]) 18 Try.call66 ⟨(.plain rfl), (.plain rfl), (.plain rfl), (.plain rfl), trivial⟩ rfl (strongest_fcm n L hv (n - 1) [(x : Int)] 0 (fun _ => 0) ?_ ?_ ?_) rfl (by simp [Blk.flatB, PV.flat]) (by simp [Blk.flatB, PV.flat])) rfl (.nil _)))))) ?_
    · (try simp only [Int.toNat_natCast, mapr_length])
      exact WayOk.one (by omega) hn1
    · (try simp only [Int.toNat_natCast, mapr_length])
      omega
    · (try simp only [Int.toNat_natCast, mapr_length])
      exact fun y hy => Int.le_refl _
    refine awp_seq ?_
    refine awp_region rfl (.n (fun _ => op_move (.plain rfl)) (.n (fun _ => op_move (.plain rfl)) (.r (op_indexAddrON Try.underlying23 Try.sizeOf3 (.plain rfl) rfl (.plain rfl) ?_) (.e (op_storeE _ Try.sizeOf3 (.plain rfl) (.plain rfl) rfl (fun _ => rfl) ?_ (by decide) rfl rfl) rfl (.nil _))))) ?_
    · (try simp only [Int.toNat_natCast, mapr_length])
      first | omega | (simp; omega)
    · (try simp only [Int.toNat_natCast, mapr_length])
      first | omega | (simp; omega)
    refine awp_ent (Ent.give 8 rfl rfl) ?_
    refine awp_region rfl (.n (fun _ => op_move (.plain rfl)) (.n (fun _ => op_move (.plain rfl)) (.n (fun _ => op_slit (pp := [(0, _)]) (α := (List Int)) (d := []) (f := (fun r => [.seq Int 0 (fun n => [.int .i64 n]) r])) [_] ety31 rfl ⟨rfl, (.plain rfl), (by simp), trivial⟩ rfl (by decide) rfl) (.e (op_append (id' := 30) (α := (List Int)) (d := []) (f := (fun r => [.seq Int 0 (fun n => [.int .i64 n]) r])) ety31 Try.underlying31 (fun _ => rfl) (fun _ => rfl) (.plain rfl) rfl (.plain rfl) rfl ?_) rfl (.n (fun _ => op_assign (.plain rfl)) (.nil _)))))) ?_
    · (try simp only [Int.toNat_natCast, mapr_length])
      first | omega | (simp; omega)
    refine awp_region rfl (.n (fun _ => op_move (.plain rfl)) (.n (fun _ => op_add (.plain rfl) (.plain rfl) ?_) (.n (fun _ => op_assign (.plain rfl)) (.nil _)))) ?_
    · (try simp only [Int.toNat_natCast, mapr_length])
      unfold InR; omega
    exact ⟨x + 1, by omega, by dsimp only; omega, (Ent.round 30 1006 ⟨rfl, rfl, rfl, rfl, trivial⟩ ⟨(congrArg (fun l => some (Blk.arr 23 1 (List Int) [] (fun r => [.seq Int 0 (fun n => [.int .i64 n]) r]) l)) (by rw [mapr_succ]; exact congrArg (fun r => _ ++ [r]) (row_eq hV (by omega)))), trivial⟩ rfl rfl rfl ⟨rfl, rfl, rfl, rfl, trivial⟩ ⟨rfl, trivial⟩)⟩
  · (try simp only [decide_eq_true_eq, decide_eq_false_iff_not, Bool.and_eq_true, Bool.or_eq_true, Bool.and_eq_false_iff, Bool.or_eq_false_iff, Bool.not_eq_true', Bool.not_eq_false', Bool.not_eq_true, Bool.not_eq_false, Bool.true_eq_false, Bool.false_eq_true] at h); (try simp only [fold_c, fold_o, Int.toNat_natCast] at h)
    refine awp_exit ?_
    refine awp_seq ?_
    refine awp_region rfl (.n (fun _ => op_move (.plain rfl)) (.n (fun _ => op_assign (.plain rfl)) (.nil _))) ?_
    refine awp_ret ?_
    refine retQ.ret ?_
    refine ret1 rfl rfl rfl ?_
    rw [show x = n by omega]
    rfl

set_option maxRecDepth 1000000 in
set_option maxHeartbeats 1000000 in
theorem Schulze_fc (n : Nat) (L : List (Int × List Int × Unit)) (hv : voteE n L = 0) : FC Try.prog 16 [.i (n : Nat), .seq (Int × List Int × Unit) (0, [], ()) (fun b => [.i b.1, .ints b.2.1]) L] (.tup [.ints (schF n L), .i 0]) := by
  refine FC.intro Try.func16 rfl (Nat.le_of_ble_eq_true rfl) fun hfit => ?_
  have fit0 : -9223372036854775808 ≤ ((n : Nat) : Int) ∧ ((n : Nat) : Int) ≤ 9223372036854775807 := (hfit _ (.head _)).int64
  have fit1 := hfit _ (.tail _ (.head _))
  have hV := vok hv
  have hL30 := hV.len
  have hn := hV.n6
  have hn1 := hV.n1
  refine awp_seq ?_
  refine awp_region rfl (.n (fun _ => op_assign (.plain rfl)) (.n (fun _ => op_assign (.plain rfl)) (.nil _))) ?_
  refine awp_seq ?_
  refine awp_region rfl (.n (fun _ => op_move (.plain rfl)) (.n (fun _ => op_move (.plain rfl)) (.n (fun _ => op_call2 Try.call20 (.plain rfl) (.plain rfl) (Paths_fc n L hv)) (.n (fun _ => op_move (.plain rfl)) (.n (fun _ => op_extract (.plain rfl) rfl) (.n (fun _ => op_extract (.plain rfl) rfl) (.n (fun _ => op_assign (.plain rfl)) (.n (fun _ => op_assign (.plain rfl)) (.nil _))))))))) ?_
  refine awp_seq ?_
  refine awp_seq ?_
  refine awp_region rfl (.n (fun _ => op_move (.plain rfl)) (.n (fun _ => op_neq (.plain rfl) (.plain rfl)) (.nil _))) ?_
  refine awp_cond rfl (fun h => ?_) (fun h => ?_)
  · (try simp only [decide_eq_true_eq, decide_eq_false_iff_not, Bool.and_eq_true, Bool.or_eq_true, Bool.and_eq_false_iff, Bool.or_eq_false_iff, Bool.not_eq_true', Bool.not_eq_false', Bool.not_eq_true, Bool.not_eq_false, Bool.true_eq_false, Bool.false_eq_true] at h); (try simp only [fold_c, fold_o, Int.toNat_natCast] at h)
    exfalso
    simp at h
  · (try simp only [decide_eq_true_eq, decide_eq_false_iff_not, Bool.and_eq_true, Bool.or_eq_true, Bool.and_eq_false_iff, Bool.or_eq_false_iff, Bool.not_eq_true', Bool.not_eq_false', Bool.not_eq_true, Bool.not_eq_false, Bool.true_eq_false, Bool.false_eq_true] at h); (try simp only [fold_c, fold_o, Int.toNat_natCast] at h)
    refine awp_skip ?_
    refine awp_seq ?_
    refine awp_region rfl (.n (fun _ => op_move (.plain rfl)) (.e (op_make (α := Bool) (d := false) (f := (fun b => [.bool b])) 21 false ety57 (.plain rfl) (.plain rfl) (fun _ => rfl) rfl rfl ?_) rfl (.n (fun _ => op_assign (.plain rfl)) (.nil _)))) ?_
    · (try simp only [Int.toNat_natCast, pthM_length, schS_length])
      (try rw [pthM_row (show iq < n by omega)])
      (try rw [pthM_row (show k < n by omega)])
      omega
    refine awp_seq ?_
    refine awp_seq ?_
    refine awp_region rfl (.n (fun _ => op_move (.plain rfl)) (.n (fun _ => op_move (.plain rfl)) (.nil _))) ?_
    refine awp_block ?_
    refine awp_loop (σ := Nat) (fun (iq : Nat) => iq ≤ n) (fun (iq : Nat) => ⟨[(0, .pv (.i (n : Nat))), (6, .pv (.rows (pthM n L))), (8, .own 21), (22, .int (n : Nat)), (23, .int (iq : Nat))], [(21, .arr 4 1 Bool false (fun b => [.bool b]) (schS n L iq))]⟩) (fun (iq : Nat) => n - iq) 0 ?_ (Ent.kept ⟨rfl, rfl, rfl, rfl, rfl, trivial⟩ ⟨(congrArg (fun l => some (Blk.arr 4 1 Bool false (fun b => [.bool b]) l)) (schS_zero)), trivial⟩) ?_
    · exact Nat.zero_le _
    rintro iq hp
    try dsimp only at hp
    have hi := hp
    refine awp_seq ?_
    refine awp_region rfl (.n (fun _ => op_lss (.plain rfl) (.plain rfl)) (.nil _)) ?_
    refine awp_seq ?_
    refine awp_cond rfl (fun h => ?_) (fun h => ?_)
    · (try simp only [decide_eq_true_eq, decide_eq_false_iff_not, Bool.and_eq_true, Bool.or_eq_true, Bool.and_eq_false_iff, Bool.or_eq_false_iff, Bool.not_eq_true', Bool.not_eq_false', Bool.not_eq_true, Bool.not_eq_false, Bool.true_eq_false, Bool.false_eq_true] at h); (try simp only [fold_c, fold_o, Int.toNat_natCast] at h)
      refine awp_skip ?_
      refine awp_seq ?_
      refine awp_block ?_
      refine awp_seq ?_
      refine awp_region rfl (.n (fun _ => op_move (.plain rfl)) (.n (fun _ => op_assign (.plain rfl)) (.nil _))) ?_
      refine awp_seq ?_
      refine awp_region rfl (.n (fun _ => op_move (.plain rfl)) (.n (fun _ => op_move (.plain rfl)) (.r (op_indexAddrON Try.underlying57 Try.sizeOf4 (.plain rfl) rfl (.plain rfl) ?_) (.e (op_storeE _ Try.sizeOf4 (.plain rfl) (.plain rfl) rfl (fun _ => rfl) ?_ (by decide) rfl rfl) rfl (.nil _))))) ?_
      · (try simp only [Int.toNat_natCast, pthM_length, schS_length])
        (try rw [pthM_row (show iq < n by omega)])
        (try rw [pthM_row (show k < n by omega)])
        first | omega | (simp; omega)
      · (try simp only [Int.toNat_natCast, pthM_length, schS_length])
        (try rw [pthM_row (show iq < n by omega)])
        (try rw [pthM_row (show k < n by omega)])
        first | omega | (simp; omega)
      refine awp_seq ?_
      refine awp_region rfl (.n (fun _ => op_move (.plain rfl)) (.n (fun _ => op_move (.plain rfl)) (.nil _))) ?_
      refine awp_block ?_
      refine awp_loop (σ := Nat) (fun (k : Nat) => k ≤ n) (fun (k : Nat) => ⟨[(0, .pv (.i (n : Nat))), (6, .pv (.rows (pthM n L))), (8, .own 21), (9, .int (iq : Nat)), (22, .int (n : Nat)), (23, .int (iq : Nat)), (29, .int (n : Nat)), (30, .int (k : Nat))], [(21, .arr 4 1 Bool false (fun b => [.bool b]) ((schS n L iq).set iq (schB (fwF (wM L) n) iq k)))]⟩) (fun (k : Nat) => n - k) 0 ?_ (Ent.kept ⟨rfl, rfl, rfl, rfl, rfl, rfl, rfl, rfl, trivial⟩ ⟨rfl, trivial⟩) ?_
      · exact Nat.zero_le _
      rintro k hp
      try dsimp only at hp
      have hk := hp
      have hi2 : iq < n := by omega
      refine awp_seq ?_
      refine awp_region rfl (.n (fun _ => op_lss (.plain rfl) (.plain rfl)) (.nil _)) ?_
      refine awp_seq ?_
      refine awp_cond rfl (fun h => ?_) (fun h => ?_)
      · (try simp only [decide_eq_true_eq, decide_eq_false_iff_not, Bool.and_eq_true, Bool.or_eq_true, Bool.and_eq_false_iff, Bool.or_eq_false_iff, Bool.not_eq_true', Bool.not_eq_false', Bool.not_eq_true, Bool.not_eq_false, Bool.true_eq_false, Bool.false_eq_true] at h); (try simp only [fold_c, fold_o, Int.toNat_natCast] at h)
        refine awp_skip ?_
        refine awp_seq ?_
        refine awp_block ?_
        refine awp_seq ?_
        refine awp_region rfl (.n (fun _ => op_move (.plain rfl)) (.n (fun _ => op_assign (.plain rfl)) (.nil _))) ?_
        refine awp_region_draw mixed rfl (.n (fun _ => op_move (.plain rfl)) (.n (fun _ => op_move (.plain rfl)) (.n (fun _ => op_move (.plain rfl)) (.n (fun _ => op_move (.plain rfl)) (.r (op_indexAddrON Try.underlying57 Try.sizeOf4 (.plain rfl) rfl (.plain rfl) ?_) (.r (op_loadE Try.isAgg4 (.plain rfl) rfl (fun _ => rfl) ?_ rfl) (.n (fun _ => op_move (.plain rfl)) (.gn rfl rfl (fun hg _ => op_move (.plain rfl)) (.gn rfl rfl (fun hg _ => op_move (.plain rfl)) (.gn rfl rfl (fun hg _ => op_indexAddrN Try.underlying31 Try.sizeOf23 (.opt rfl fun h => h) (.opt rfl fun h => h) (fun _ => rfl) ?_) (.gn rfl rfl (fun hg _ => op_load Try.isAgg23 (.opt rfl fun h => h)) (.gn rfl rfl (fun hg _ => op_move (.plain rfl)) (.gn rfl rfl (fun hg _ => op_indexAddrN Try.underlying23 Try.sizeOf3 (.opt rfl fun h => h) (.opt rfl fun h => h) (fun _ => rfl) ?_) (.gn rfl rfl (fun hg _ => op_load Try.isAgg3 (.opt rfl fun h => h)) (.gn rfl rfl (fun hg _ => op_move (.plain rfl)) (.gn rfl rfl (fun hg _ => op_move (.plain rfl)) (.gn rfl rfl (fun hg _ => op_indexAddrN Try.underlying31 Try.sizeOf23 (.opt rfl fun h => h) (.opt rfl fun h => h) (fun _ => rfl) ?_) (.gn rfl rfl (fun hg _ => op_load Try.isAgg23 (.opt rfl fun h => h)) (.gn rfl rfl (fun hg _ => op_move (.plain rfl)) (.gn rfl rfl (fun hg _ => op_indexAddrN Try.underlying23 Try.sizeOf3 (.opt rfl fun h => h) (.opt rfl fun h => h) (fun _ => rfl) ?_) (.gn rfl rfl (fun hg _ => op_load Try.isAgg3 (.opt rfl fun h => h)) (.gn rfl rfl (fun hg _ => op_geq (.opt rfl fun h => h) (.opt rfl fun h => h)) (.n (fun _ => op_and (.plain rfl) (.plain rfl) (.plain rfl) (fun h => eqT h)) (.r (op_indexAddrON Try.underlying57 Try.sizeOf4 (.plain rfl) rfl (.plain rfl) ?_) (.e (op_storeE _ Try.sizeOf4 (.plain rfl) (.plain rfl) rfl (fun _ => rfl) ?_ (by decide) rfl rfl) rfl (.nil _)))))))))))))))))))))))))) ?d6 ?_
        · (try simp only [Int.toNat_natCast, pthM_length, schS_length])
          (try rw [pthM_row (show iq < n by omega)])
          (try rw [pthM_row (show k < n by omega)])
          first | omega | (simp; omega)
        · (try simp only [Int.toNat_natCast, pthM_length, schS_length])
          (try rw [pthM_row (show iq < n by omega)])
          (try rw [pthM_row (show k < n by omega)])
          first | omega | (simp; omega)
        · try simp only [beq_iff_eq, beq_true, beq_false, Bool.and_eq_true, decide_eq_true_eq, decide_eq_false_iff_not, Bool.not_eq_true', Bool.or_eq_true, Bool.or_eq_false_iff] at hg
          (try simp only [Int.toNat_natCast, pthM_length, schS_length])
          (try rw [pthM_row (show iq < n by omega)])
          (try rw [pthM_row (show k < n by omega)])
          omega
        · try simp only [beq_iff_eq, beq_true, beq_false, Bool.and_eq_true, decide_eq_true_eq, decide_eq_false_iff_not, Bool.not_eq_true', Bool.or_eq_true, Bool.or_eq_false_iff] at hg
          (try simp only [Int.toNat_natCast, pthM_length, schS_length])
          (try rw [pthM_row (show iq < n by omega)])
          (try rw [pthM_row (show k < n by omega)])
          omega
        · try simp only [beq_iff_eq, beq_true, beq_false, Bool.and_eq_true, decide_eq_true_eq, decide_eq_false_iff_not, Bool.not_eq_true', Bool.or_eq_true, Bool.or_eq_false_iff] at hg
          (try simp only [Int.toNat_natCast, pthM_length, schS_length])
          (try rw [pthM_row (show iq < n by omega)])
          (try rw [pthM_row (show k < n by omega)])
          omega
        · try simp only [beq_iff_eq, beq_true, beq_false, Bool.and_eq_true, decide_eq_true_eq, decide_eq_false_iff_not, Bool.not_eq_true', Bool.or_eq_true, Bool.or_eq_false_iff] at hg
          (try simp only [Int.toNat_natCast, pthM_length, schS_length])
          (try rw [pthM_row (show iq < n by omega)])
          (try rw [pthM_row (show k < n by omega)])
          omega
        · (try simp only [Int.toNat_natCast, pthM_length, schS_length])
          (try rw [pthM_row (show iq < n by omega)])
          (try rw [pthM_row (show k < n by omega)])
          first | omega | (simp; omega)
        · (try simp only [Int.toNat_natCast, pthM_length, schS_length])
          (try rw [pthM_row (show iq < n by omega)])
          (try rw [pthM_row (show k < n by omega)])
          first | omega | (simp; omega)
        · kernel_rfl
        refine awp_region rfl (.n (fun _ => op_add (.plain rfl) (.plain rfl) ?_) (.n (fun _ => op_move (.plain rfl)) (.nil _))) ?_
        · (try simp only [Int.toNat_natCast, pthM_length, schS_length])
          (try rw [pthM_row (show iq < n by omega)])
          (try rw [pthM_row (show k < n by omega)])
          unfold InR; omega
        exact ⟨k + 1, by omega, by dsimp only; omega, (Ent.kept ⟨rfl, rfl, rfl, rfl, rfl, rfl, rfl, rfl, trivial⟩ ⟨(congrArg (fun l => some (Blk.arr 4 1 Bool false (fun b => [.bool b]) l)) (schT_next hi2 (by omega))), trivial⟩)⟩
      · (try simp only [decide_eq_true_eq, decide_eq_false_iff_not, Bool.and_eq_true, Bool.or_eq_true, Bool.and_eq_false_iff, Bool.or_eq_false_iff, Bool.not_eq_true', Bool.not_eq_false', Bool.not_eq_true, Bool.not_eq_false, Bool.true_eq_false, Bool.false_eq_true] at h); (try simp only [fold_c, fold_o, Int.toNat_natCast] at h)
        refine awp_exit ?_
        refine awp_region rfl (.n (fun _ => op_add (.plain rfl) (.plain rfl) ?_) (.n (fun _ => op_move (.plain rfl)) (.nil _))) ?_
        · (try simp only [Int.toNat_natCast, pthM_length, schS_length])
          (try rw [pthM_row (show iq < n by omega)])
          (try rw [pthM_row (show k < n by omega)])
          unfold InR; omega
        exact ⟨iq + 1, by omega, by dsimp only; omega, (Ent.kept ⟨rfl, rfl, rfl, rfl, rfl, trivial⟩ ⟨(congrArg (fun l => some (Blk.arr 4 1 Bool false (fun b => [.bool b]) l)) (schT_end (show k = n by omega) hi2)), trivial⟩)⟩
    · (try simp only [decide_eq_true_eq, decide_eq_false_iff_not, Bool.and_eq_true, Bool.or_eq_true, Bool.and_eq_false_iff, Bool.or_eq_false_iff, Bool.not_eq_true', Bool.not_eq_false', Bool.not_eq_true, Bool.not_eq_false, Bool.true_eq_false, Bool.false_eq_true] at h); (try simp only [fold_c, fold_o, Int.toNat_natCast] at h)
      refine awp_exit ?_
      refine awp_seq ?_
      refine awp_ent (Ent.give 8 rfl rfl) ?_
      refine awp_region rfl (.n (fun _ => op_move (.plain rfl)) (.n (fun _ => op_call1 Try.call49 (.plain rfl) (where_fc _ ?_)) (.n (fun _ => op_assign (.plain rfl)) (.n (fun _ => op_assign (.plain rfl)) (.nil _))))) ?_
      · (try simp only [Int.toNat_natCast, pthM_length, schS_length])
        (try rw [pthM_row (show iq < n by omega)])
        (try rw [pthM_row (show k < n by omega)])
        first | omega | (simp; omega)
      refine awp_ret ?_
      refine retQ.ret ?_
      refine ret2 rfl rfl rfl rfl rfl ?_
      rw [show iq = n by omega, schS_end]

set_option maxRecDepth 1000000 in
set_option maxHeartbeats 1000000 in
theorem RSchulze_fc (n : Nat) (L : List (Int × List Int × Unit)) (hv : voteE n L = 0) : FC Try.prog 36 [.i (n : Nat), .seq (Int × List Int × Unit) (0, [], ()) (fun b => [.i b.1, .ints b.2.1]) L] (.ints (schF n L)) := by
  refine FC.intro Try.func36 rfl (Nat.le_of_ble_eq_true rfl) fun hfit => ?_
  have fit0 : -9223372036854775808 ≤ ((n : Nat) : Int) ∧ ((n : Nat) : Int) ≤ 9223372036854775807 := (hfit _ (.head _)).int64
  have fit1 := hfit _ (.tail _ (.head _))
  have hV := vok hv
  have hL30 := hV.len
  have hn := hV.n6
  have hn1 := hV.n1
  refine awp_seq ?_
  refine awp_region rfl (.n (fun _ => op_assign (.plain rfl)) (.nil _)) ?_
  refine awp_seq ?_
  refine awp_region rfl (.n (fun _ => op_move (.plain rfl)) (.n (fun _ => op_move (.plain rfl)) (.n (fun _ => op_call2 Try.call41 (.plain rfl) (.plain rfl) (RPaths_fc n L hv)) (.n (fun _ => op_assign (.plain rfl)) (.nil _))))) ?_
  refine awp_seq ?_
  refine awp_region rfl (.n (fun _ => op_assign (.plain rfl)) (.nil _)) ?_
  refine awp_seq ?_
  refine awp_seq ?_
  refine awp_region rfl (.n (fun _ => op_assign (.plain rfl)) (.nil _)) ?_
  refine awp_block ?_
  refine awp_ent (Ent.begin 6 1006 3 1 Int 0 (fun n => [.int .i64 n]) rfl rfl rfl) ?_
  refine awp_loop (σ := Nat) (fun (x : Nat) => x ≤ n) (fun (x : Nat) => ⟨[(0, .pv (.i (n : Nat))), (5, .pv (.rows (pthM n L))), (6, .own 1006), (7, .int (x : Nat))], [(1006, .arr 3 1 Int 0 (fun n => [.int .i64 n]) (whereTo (fun x => schB (fwF (wM L) n) x n) x))]⟩) (fun (x : Nat) => n - x) 0 ?_ (Ent.kept ⟨rfl, rfl, rfl, rfl, trivial⟩ ⟨rfl, trivial⟩) ?_
  · exact Nat.zero_le _
  rintro x hp
  try dsimp only at hp
  have hx := hp
  refine awp_seq ?_
  refine awp_seq ?_
  refine awp_region rfl (.n (fun _ => op_move (.plain rfl)) (.n (fun _ => op_move (.plain rfl)) (.n (fun _ => op_lss (.plain rfl) (.plain rfl)) (.nil _)))) ?_
  refine awp_cond rfl (fun h => ?_) (fun h => ?_)
  · (try simp only [decide_eq_true_eq, decide_eq_false_iff_not, Bool.and_eq_true, Bool.or_eq_true, Bool.and_eq_false_iff, Bool.or_eq_false_iff, Bool.not_eq_true', Bool.not_eq_false', Bool.not_eq_true, Bool.not_eq_false, Bool.true_eq_false, Bool.false_eq_true] at h); (try simp only [fold_c, fold_o, Int.toNat_natCast] at h)
    refine awp_skip ?_
    refine awp_seq ?_
    refine awp_block ?_
    refine awp_seq ?_
    refine awp_region rfl (.n (fun _ => op_assign (.plain rfl)) (.nil _)) ?_
    refine awp_seq ?_
    refine awp_seq ?_
    refine awp_region rfl (.n (fun _ => op_assign (.plain rfl)) (.nil _)) ?_
    refine awp_block ?_
    refine awp_loop (σ := Nat) (fun (y : Nat) => y ≤ n) (fun (y : Nat) => ⟨[(0, .pv (.i (n : Nat))), (5, .pv (.rows (pthM n L))), (6, .own 1006), (7, .int (x : Nat)), (8, .bool (schB (fwF (wM L) n) x y)), (9, .int (y : Nat))], [(1006, .arr 3 1 Int 0 (fun n => [.int .i64 n]) (whereTo (fun x => schB (fwF (wM L) n) x n) x))]⟩) (fun (y : Nat) => n - y) 0 ?_ (Ent.kept ⟨rfl, rfl, rfl, rfl, rfl, rfl, trivial⟩ ⟨rfl, trivial⟩) ?_
    · exact Nat.zero_le _
    rintro y hp
    try dsimp only at hp
    have hy := hp
    refine awp_seq ?_
    refine awp_seq ?_
    refine awp_region rfl (.n (fun _ => op_move (.plain rfl)) (.n (fun _ => op_move (.plain rfl)) (.n (fun _ => op_lss (.plain rfl) (.plain rfl)) (.nil _)))) ?_
    refine awp_cond rfl (fun h => ?_) (fun h => ?_)
    · (try simp only [decide_eq_true_eq, decide_eq_false_iff_not, Bool.and_eq_true, Bool.or_eq_true, Bool.and_eq_false_iff, Bool.or_eq_false_iff, Bool.not_eq_true', Bool.not_eq_false', Bool.not_eq_true, Bool.not_eq_false, Bool.true_eq_false, Bool.false_eq_true] at h); (try simp only [fold_c, fold_o, Int.toNat_natCast] at h)
      refine awp_skip ?_
      refine awp_seq ?_
      refine awp_block ?_
      refine awp_region_draw mixed rfl (.n (fun _ => op_move (.plain rfl)) (.n (fun _ => op_move (.plain rfl)) (.gn rfl rfl (fun hg _ => op_move (.plain rfl)) (.gn rfl rfl (fun hg _ => op_move (.plain rfl)) (.gn rfl rfl (fun hg _ => op_indexAddrN Try.underlying31 Try.sizeOf23 (.opt rfl fun h => h) (.opt rfl fun h => h) (fun _ => rfl) ?_) (.gn rfl rfl (fun hg _ => op_load Try.isAgg23 (.opt rfl fun h => h)) (.gn rfl rfl (fun hg _ => op_move (.plain rfl)) (.gn rfl rfl (fun hg _ => op_indexAddrN Try.underlying23 Try.sizeOf3 (.opt rfl fun h => h) (.opt rfl fun h => h) (fun _ => rfl) ?_) (.gn rfl rfl (fun hg _ => op_load Try.isAgg3 (.opt rfl fun h => h)) (.gn rfl rfl (fun hg _ => op_move (.plain rfl)) (.gn rfl rfl (fun hg _ => op_move (.plain rfl)) (.gn rfl rfl (fun hg _ => op_indexAddrN Try.underlying31 Try.sizeOf23 (.opt rfl fun h => h) (.opt rfl fun h => h) (fun _ => rfl) ?_) (.gn rfl rfl (fun hg _ => op_load Try.isAgg23 (.opt rfl fun h => h)) (.gn rfl rfl (fun hg _ => op_move (.plain rfl)) (.gn rfl rfl (fun hg _ => op_indexAddrN Try.underlying23 Try.sizeOf3 (.opt rfl fun h => h) (.opt rfl fun h => h) (fun _ => rfl) ?_) (.gn rfl rfl (fun hg _ => op_load Try.isAgg3 (.opt rfl fun h => h)) (.gn rfl rfl (fun hg _ => op_geq (.opt rfl fun h => h) (.opt rfl fun h => h)) (.n (fun _ => op_and (.plain rfl) (.plain rfl) (.plain rfl) (fun h => eqT h)) (.n (fun _ => op_assign (.plain rfl)) (.nil _)))))))))))))))))))) ?d7 ?_
      · try simp only [beq_iff_eq, beq_true, beq_false, Bool.and_eq_true, decide_eq_true_eq, decide_eq_false_iff_not, Bool.not_eq_true', Bool.or_eq_true, Bool.or_eq_false_iff] at hg
        (try simp only [Int.toNat_natCast, pthM_length])
        (try rw [pthM_row (show x < n by omega)])
        (try rw [pthM_row (show y < n by omega)])
        omega
      · try simp only [beq_iff_eq, beq_true, beq_false, Bool.and_eq_true, decide_eq_true_eq, decide_eq_false_iff_not, Bool.not_eq_true', Bool.or_eq_true, Bool.or_eq_false_iff] at hg
        (try simp only [Int.toNat_natCast, pthM_length])
        (try rw [pthM_row (show x < n by omega)])
        (try rw [pthM_row (show y < n by omega)])
        omega
      · try simp only [beq_iff_eq, beq_true, beq_false, Bool.and_eq_true, decide_eq_true_eq, decide_eq_false_iff_not, Bool.not_eq_true', Bool.or_eq_true, Bool.or_eq_false_iff] at hg
        (try simp only [Int.toNat_natCast, pthM_length])
        (try rw [pthM_row (show x < n by omega)])
        (try rw [pthM_row (show y < n by omega)])
        omega
      · try simp only [beq_iff_eq, beq_true, beq_false, Bool.and_eq_true, decide_eq_true_eq, decide_eq_false_iff_not, Bool.not_eq_true', Bool.or_eq_true, Bool.or_eq_false_iff] at hg
        (try simp only [Int.toNat_natCast, pthM_length])
        (try rw [pthM_row (show x < n by omega)])
        (try rw [pthM_row (show y < n by omega)])
        omega
      · kernel_rfl
      refine awp_region rfl (.n (fun _ => op_move (.plain rfl)) (.n (fun _ => op_add (.plain rfl) (.plain rfl) ?_) (.n (fun _ => op_assign (.plain rfl)) (.nil _)))) ?_
      · (try simp only [Int.toNat_natCast, pthM_length])
        (try rw [pthM_row (show x < n by omega)])
        (try rw [pthM_row (show y < n by omega)])
        unfold InR; omega
      exact ⟨y + 1, by omega, by dsimp only; omega, (Ent.kept ⟨rfl, rfl, rfl, rfl, (congrArg (fun b => some (SV.bool b)) (by rw [pthM_two (show x < n by omega) (show y < n by omega), pthM_two (show y < n by omega) (show x < n by omega)]; rfl)), rfl, trivial⟩ ⟨rfl, trivial⟩)⟩
    · (try simp only [decide_eq_true_eq, decide_eq_false_iff_not, Bool.and_eq_true, Bool.or_eq_true, Bool.and_eq_false_iff, Bool.or_eq_false_iff, Bool.not_eq_true', Bool.not_eq_false', Bool.not_eq_true, Bool.not_eq_false, Bool.true_eq_false, Bool.false_eq_true] at h); (try simp only [fold_c, fold_o, Int.toNat_natCast] at h)
      refine awp_exit ?_
      refine awp_seq ?_
      refine awp_region rfl (.n (fun _ => op_move (.plain rfl)) (.nil _)) ?_
      refine awp_cond rfl (fun h => ?_) (fun h => ?_)
      · (try simp only [decide_eq_true_eq, decide_eq_false_iff_not, Bool.and_eq_true, Bool.or_eq_true, Bool.and_eq_false_iff, Bool.or_eq_false_iff, Bool.not_eq_true', Bool.not_eq_false', Bool.not_eq_true, Bool.not_eq_false, Bool.true_eq_false, Bool.false_eq_true] at h); (try simp only [fold_c, fold_o, Int.toNat_natCast] at h)
        refine awp_region rfl (.n (fun _ => op_move (.plain rfl)) (.n (fun _ => op_move (.plain rfl)) (.n (fun _ => op_slit (pp := [(0, _)]) (α := Int) (d := 0) (f := (fun n => [.int .i64 n])) [_] ety23 rfl ⟨rfl, (.plain rfl), (by simp), trivial⟩ rfl (by decide) rfl) (.e (op_append (id' := 45) (α := Int) (d := 0) (f := (fun n => [.int .i64 n])) ety23 Try.underlying23 (fun _ => rfl) (fun _ => rfl) (.plain rfl) rfl (.plain rfl) rfl ?_) rfl (.n (fun _ => op_assign (.plain rfl)) (.nil _)))))) ?_
        · (try simp only [Int.toNat_natCast, pthM_length])
          (try rw [pthM_row (show x < n by omega)])
          (try rw [pthM_row (show y < n by omega)])
          have := where_len (fun x => schB (fwF (wM L) n) x n) x
          simp only [List.length_cons, List.length_nil]
          omega
        refine awp_region rfl (.n (fun _ => op_move (.plain rfl)) (.n (fun _ => op_add (.plain rfl) (.plain rfl) ?_) (.n (fun _ => op_assign (.plain rfl)) (.nil _)))) ?_
        · (try simp only [Int.toNat_natCast, pthM_length])
          (try rw [pthM_row (show x < n by omega)])
          (try rw [pthM_row (show y < n by omega)])
          unfold InR; omega
        exact ⟨x + 1, by omega, by dsimp only; omega, (Ent.round 45 1006 ⟨rfl, rfl, rfl, rfl, trivial⟩ ⟨(by first | exact (congrArg (fun l => some (Blk.arr 3 1 Int 0 (fun n => [.int .i64 n]) l)) (where_yes (p := fun x => schB (fwF (wM L) n) x n) ((show y = n by omega) ▸ h))) | exact (congrArg (fun l => some (Blk.arr 3 1 Int 0 (fun n => [.int .i64 n]) l)) (where_no (p := fun x => schB (fwF (wM L) n) x n) (by rw [show schB (fwF (wM L) n) x n = false from (show y = n by omega) ▸ h]; simp)))), trivial⟩ rfl rfl rfl ⟨rfl, rfl, rfl, rfl, trivial⟩ ⟨rfl, trivial⟩)⟩
      · (try simp only [decide_eq_true_eq, decide_eq_false_iff_not, Bool.and_eq_true, Bool.or_eq_true, Bool.and_eq_false_iff, Bool.or_eq_false_iff, Bool.not_eq_true', Bool.not_eq_false', Bool.not_eq_true, Bool.not_eq_false, Bool.true_eq_false, Bool.false_eq_true] at h); (try simp only [fold_c, fold_o, Int.toNat_natCast] at h)
        refine awp_skip ?_
        refine awp_region rfl (.n (fun _ => op_move (.plain rfl)) (.n (fun _ => op_add (.plain rfl) (.plain rfl) ?_) (.n (fun _ => op_assign (.plain rfl)) (.nil _)))) ?_
        · (try simp only [Int.toNat_natCast, pthM_length])
          (try rw [pthM_row (show x < n by omega)])
          (try rw [pthM_row (show y < n by omega)])
          unfold InR; omega
        exact ⟨x + 1, by omega, by dsimp only; omega, (Ent.kept ⟨rfl, rfl, rfl, rfl, trivial⟩ ⟨(by first | exact (congrArg (fun l => some (Blk.arr 3 1 Int 0 (fun n => [.int .i64 n]) l)) (where_yes (p := fun x => schB (fwF (wM L) n) x n) ((show y = n by omega) ▸ h))) | exact (congrArg (fun l => some (Blk.arr 3 1 Int 0 (fun n => [.int .i64 n]) l)) (where_no (p := fun x => schB (fwF (wM L) n) x n) (by rw [show schB (fwF (wM L) n) x n = false from (show y = n by omega) ▸ h]; simp)))), trivial⟩)⟩
  · (try simp only [decide_eq_true_eq, decide_eq_false_iff_not, Bool.and_eq_true, Bool.or_eq_true, Bool.and_eq_false_iff, Bool.or_eq_false_iff, Bool.not_eq_true', Bool.not_eq_false', Bool.not_eq_true, Bool.not_eq_false, Bool.true_eq_false, Bool.false_eq_true] at h); (try simp only [fold_c, fold_o, Int.toNat_natCast] at h)
    refine awp_exit ?_
    refine awp_seq ?_
    refine awp_region rfl (.n (fun _ => op_move (.plain rfl)) (.n (fun _ => op_assign (.plain rfl)) (.nil _))) ?_
    refine awp_ret ?_
    refine retQ.ret ?_
    refine ret1 rfl rfl rfl ?_
    rw [show x = n by omega]
    rfl

end Go.Proofs.Ytkbbdiodmeobaaa

