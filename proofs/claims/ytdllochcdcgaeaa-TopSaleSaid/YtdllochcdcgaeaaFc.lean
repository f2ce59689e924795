/- The sale of sets of things, on plain values. Conditions: each theorem names its own. -/
import Derived.Test.YtdllochcdcgaeaaProg
import Derived.Test.YtdllochcdcgaeaaFa
namespace Go.Proofs.Ytdllochcdcgaeaa
open Go.Abs
set_option linter.unusedVariables false
set_option linter.unusedSimpArgs false

theorem heavy_fc (l : List (List Int)) : FC Try.prog 9 [.rows l] (.bool (heavyF l)) := by
  refine FC.intro Try.func9 rfl (Nat.le_of_ble_eq_true rfl) fun hfit => ?_
  obtain ⟨fitl0, fitr0⟩ := (hfit _ (.head _)).rows
  refine awp_seq ?_
  refine awp_region rfl (.n (fun _ => op_assign (.plain rfl)) (.nil _)) ?_
  refine awp_seq ?_
  refine awp_region rfl (.n (fun _ => op_move (.plain rfl)) (.n (fun _ => op_len (s := 0) Try.underlying23 (.plain rfl)) (.n (fun _ => op_assign (.plain rfl)) (.nil _)))) ?_
  refine awp_seq ?_
  refine awp_seq ?_
  refine awp_region rfl (.n (fun _ => op_assign (.plain rfl)) (.nil _)) ?_
  refine awp_block ?_
  refine awp_loop (σ := Nat) (fun (k : Nat) => k ≤ l.length) (fun (k : Nat) => ⟨[(3, .int (heavyTo l k : Nat)), (4, .int (k : Nat)), (0, .pv (.rows l))], []⟩) (fun (k : Nat) => l.length - k) 0 ?_ (Ent.kept ⟨by simp [heavyTo]; rfl, rfl, rfl, trivial⟩ trivial) ?_
  · simp
  rintro k hp
  try dsimp only at hp
  refine awp_seq ?_
  refine awp_seq ?_
  refine awp_region rfl (.n (fun _ => op_move (.plain rfl)) (.n (fun _ => op_move (.plain rfl)) (.n (fun _ => op_len (s := 0) Try.underlying23 (.plain rfl)) (.n (fun _ => op_lss (.plain rfl) (.plain rfl)) (.n (fun _ => op_move (.plain rfl)) (.gn rfl rfl (fun hg _ => op_move (.plain rfl)) (.gn rfl rfl (fun hg _ => op_leq (.opt rfl fun h => h) (.plain rfl)) (.n (fun _ => op_and (.plain rfl) (.plain rfl) (.plain rfl) (fun h => eqT h)) (.nil _))))))))) ?_
  refine awp_cond rfl (fun h => ?_) (fun h => ?_)
  · try simp only [decide_eq_true_eq, decide_eq_false_iff_not, Bool.and_eq_true, Bool.or_eq_true, Bool.and_eq_false_iff, Bool.or_eq_false_iff, Bool.not_eq_true', Bool.not_eq_false', Bool.not_eq_true, Bool.not_eq_false, Bool.true_eq_false, Bool.false_eq_true] at h
    have hb := (fitr0 _ (getD_mem [] (show k < l.length by omega))).1
    refine awp_skip ?_
    refine awp_seq ?_
    refine awp_block ?_
    refine awp_region rfl (.n (fun _ => op_move (.plain rfl)) (.n (fun _ => op_move (.plain rfl)) (.n (fun _ => op_move (.plain rfl)) (.n (fun _ => op_indexAddrN Try.underlying23 Try.sizeOf27 (.plain rfl) (.plain rfl) (fun _ => rfl) ?_) (.n (fun _ => op_load Try.isAgg27 (.plain rfl)) (.n (fun _ => op_len (s := 0) Try.underlying27 (.plain rfl)) (.n (fun _ => op_add (.plain rfl) (.plain rfl) ?_) (.n (fun _ => op_assign (.plain rfl)) (.nil _))))))))) ?_
    · omega
    · unfold InR; omega
    refine awp_region rfl (.n (fun _ => op_move (.plain rfl)) (.n (fun _ => op_add (.plain rfl) (.plain rfl) ?_) (.n (fun _ => op_assign (.plain rfl)) (.nil _)))) ?_
    · unfold InR; omega
    refine ⟨k + 1, by omega, by dsimp only; omega, Ent.kept ⟨?_, rfl, rfl, trivial⟩ trivial⟩
    rw [heavyTo_succ (by omega)]; rfl
  · try simp only [decide_eq_true_eq, decide_eq_false_iff_not, Bool.and_eq_true, Bool.or_eq_true, Bool.and_eq_false_iff, Bool.or_eq_false_iff, Bool.not_eq_true', Bool.not_eq_false', Bool.not_eq_true, Bool.not_eq_false, Bool.true_eq_false, Bool.false_eq_true] at h
    refine awp_exit ?_
    refine awp_seq ?_
    refine awp_region rfl (.n (fun _ => op_move (.plain rfl)) (.n (fun _ => op_gtr (.plain rfl) (.plain rfl)) (.n (fun _ => op_assign (.plain rfl)) (.nil _)))) ?_
    refine awp_ret ?_
    refine retQ.ret ?_
    refine ret1 rfl rfl rfl ?_
    have := heavyTo_le (l := l) k
    unfold heavyF
    congr 1
    rw [Bool.eq_iff_iff]
    simp only [decide_eq_true_eq]
    rcases Nat.lt_or_ge k l.length with h1 | h1
    · omega
    · obtain rfl : k = l.length := by omega
      omega


theorem less_sub : ∀ s, s < 16 → ∀ k, k < 4 → s / 2 ^ k % 2 = 1 → less s (2 ^ k) = s - 2 ^ k := by decide
def toI (S : List Nat) : List Int := S.map fun (n : Nat) => (n : Int)
theorem toI_length (S : List Nat) : (toI S).length = S.length := by simp [toI]
theorem toI_getD (S : List Nat) (k : Nat) : (toI S).getD k 0 = ((S.getD k 0 : Nat) : Int) := by
  unfold toI
  simp only [List.getD_eq_getElem?_getD, List.getElem?_map]
  cases S[k]? <;> rfl
/-- Is a list ahead of another one? -/
def lexlt : List Nat → List Nat → Bool
  | a :: x, b :: y => decide (a < b) || (decide (a = b) && lexlt x y)
  | _, _ => false
theorem lexlt_cons {a b : Nat} {x y : List Nat} : lexlt (a :: x) (b :: y) = true ↔ a < b ∨ (a = b ∧ lexlt x y = true) := by simp [lexlt]
theorem lexlt_trans : ∀ {x y z : List Nat}, lexlt x y = true → lexlt y z = true → lexlt x z = true
  | a :: x, b :: y, c :: z, h1, h2 => by
    rw [lexlt_cons] at *
    rcases h1 with h1 | ⟨h1, h3⟩ <;> rcases h2 with h2 | ⟨h2, h4⟩
    · exact .inl (by omega)
    · exact .inl (by omega)
    · exact .inl (by omega)
    · exact .inr ⟨by omega, lexlt_trans h3 h4⟩
  | [], _, _, h1, _ => by simp [lexlt] at h1
  | _ :: _, [], _, h1, _ => by simp [lexlt] at h1
  | _ :: _, _ :: _, [], _, h2 => by simp [lexlt] at h2
theorem lexlt_irrefl : ∀ (x : List Nat), lexlt x x = false
  | [] => rfl
  | a :: x => by simp [lexlt, lexlt_irrefl x]
theorem lexlt_tri : ∀ {x y : List Nat}, x.length = y.length → lexlt x y = true ∨ x = y ∨ lexlt y x = true
  | [], [], _ => .inr (.inl rfl)
  | a :: x, b :: y, h => by
    rw [lexlt_cons, lexlt_cons]
    rcases Nat.lt_trichotomy a b with c | c | c
    · exact .inl (.inl c)
    · subst c
      rcases lexlt_tri (show x.length = y.length by simpa using h) with c | c | c
      · exact .inl (.inr ⟨rfl, c⟩)
      · exact .inr (.inl (by rw [c]))
      · exact .inr (.inr (.inr ⟨rfl, c⟩))
    · exact .inr (.inr (.inl c))
  | [], _ :: _, h => by simp at h
  | _ :: _, [], h => by simp at h
/-- The best of those that C tells: what it is worth, and the first list that is. -/
structure IsBest (C : List Nat → Prop) (v : List Nat → Int) (r : Int × List Nat) : Prop where
  mem : C r.2
  val : v r.2 = r.1
  best : ∀ t, C t → v t < r.1 ∨ (v t = r.1 ∧ (t = r.2 ∨ lexlt r.2 t = true))
theorem IsBest.uniq {C : List Nat → Prop} {v : List Nat → Int} {r s : Int × List Nat} (h : IsBest C v r) (h' : IsBest C v s) : r = s := by
  have a := h.best _ h'.mem
  have b := h'.best _ h.mem
  rw [h'.val] at a
  rw [h.val] at b
  have e1 : r.1 = s.1 := by omega
  have e2 : r.2 = s.2 := by
    rcases a with a | ⟨_, a | a⟩
    · omega
    · exact a.symm
    · rcases b with b | ⟨_, b | b⟩
      · omega
      · exact b
      · have := lexlt_trans a b
        rw [lexlt_irrefl] at this
        cases this
  exact Prod.ext e1 e2
theorem IsBest.congr {C D : List Nat → Prop} {v : List Nat → Int} {r : Int × List Nat} (h : IsBest C v r) (e : ∀ t, C t ↔ D t) : IsBest D v r :=
  ⟨(e _).1 h.mem, h.val, fun t ht => h.best t ((e t).2 ht)⟩
theorem IsBest.or_right {C D : List Nat → Prop} {v : List Nat → Int} {a b : Int × List Nat} (ha : IsBest C v a) (hb : IsBest D v b) (h : a.1 < b.1 ∨ (b.1 = a.1 ∧ lexlt b.2 a.2 = true)) : IsBest (fun t => C t ∨ D t) v b := by
  refine ⟨.inr hb.mem, hb.val, fun t ht => ?_⟩
  rcases ht with ht | ht
  · rcases ha.best t ht with c | ⟨c, d⟩
    · left; omega
    · rcases h with h | ⟨h, h2⟩
      · left; omega
      · right
        refine ⟨by omega, .inr ?_⟩
        rcases d with d | d
        · rw [d]; exact h2
        · exact lexlt_trans h2 d
  · exact hb.best t ht
theorem IsBest.or_left {C D : List Nat → Prop} {v : List Nat → Int} {a b : Int × List Nat} (ha : IsBest C v a) (hb : IsBest D v b) (hl : a.2.length = b.2.length) (h : ¬ (a.1 < b.1 ∨ (b.1 = a.1 ∧ lexlt b.2 a.2 = true))) : IsBest (fun t => C t ∨ D t) v a := by
  refine ⟨.inl ha.mem, ha.val, fun t ht => ?_⟩
  rcases ht with ht | ht
  · exact ha.best t ht
  · have h1 : ¬ a.1 < b.1 := fun c => h (.inl c)
    rcases hb.best t ht with c | ⟨c, d⟩
    · left; omega
    · by_cases e : b.1 = a.1
      · right
        have h2 : ¬ lexlt b.2 a.2 = true := fun c => h (.inr ⟨e, c⟩)
        refine ⟨by omega, ?_⟩
        rcases lexlt_tri hl with f | f | f
        · right
          rcases d with d | d
          · rw [d]; exact f
          · exact lexlt_trans f d
        · rw [f]; exact d
        · exact absurd f h2
      · left; omega

def wAt (W : List (List Int)) (i s : Nat) : Int := (W.getD i []).getD s 0
def valF (W : List (List Int)) : Nat → List Nat → Int
  | _, [] => 0
  | i, s :: r => wAt W i s + valF W (i + 1) r
structure SetsOk (m : Nat) (W : List (List Int)) : Prop where
  m4 : m ≤ 4
  n4 : 1 ≤ W.length ∧ W.length ≤ 4
  row : ∀ i, i < W.length → (W.getD i []).length = 2 ^ m
  val : ∀ i, i < W.length → ∀ s, s < 2 ^ m → 0 ≤ wAt W i s ∧ wAt W i s ≤ 1000
  zero : ∀ i, i < W.length → wAt W i 0 = 0

/-! By bidders -/
def skipB (but : Int) (i left k : Nat) : Bool := decide (less k left ≠ 0) || (decide ((i : Int) = but) && decide (k ≠ 0))
def shTo (W : List (List Int)) (but : Int) (i : Nat) (f : Nat → Int × List Nat) (left : Nat) : Nat → Int × List Nat
  | 0 => (-1, [])
  | k + 1 => if skipB but i left k then shTo W but i f left k
    else if (shTo W but i f left k).1 < (f (less left k)).1 + wAt W i k then ((f (less left k)).1 + wAt W i k, k :: (f (less left k)).2) else shTo W but i f left k
def shareF (W : List (List Int)) (but : Int) : Nat → Nat → Int × List Nat
  | 0, _ => (0, [])
  | d + 1, left => shTo W but (W.length - (d + 1)) (shareF W but d) left (left + 1)
theorem shTo_skip {W : List (List Int)} {but : Int} {i : Nat} {f : Nat → Int × List Nat} {left k : Nat} (h : skipB but i left k = true) : shTo W but i f left (k + 1) = shTo W but i f left k := if_pos h
theorem shTo_yes {W : List (List Int)} {but : Int} {i : Nat} {f : Nat → Int × List Nat} {left k : Nat} (h : skipB but i left k = false) (h' : (shTo W but i f left k).1 < (f (less left k)).1 + wAt W i k) : shTo W but i f left (k + 1) = ((f (less left k)).1 + wAt W i k, k :: (f (less left k)).2) := by
  simp [shTo, h, h']
theorem shTo_no {W : List (List Int)} {but : Int} {i : Nat} {f : Nat → Int × List Nat} {left k : Nat} (h : skipB but i left k = false) (h' : ¬ (shTo W but i f left k).1 < (f (less left k)).1 + wAt W i k) : shTo W but i f left (k + 1) = shTo W but i f left k := by
  simp [shTo, h, h']
/-- Sets for the bidders from i on, out of what is left. -/
def Al (n : Nat) (but : Int) : Nat → Nat → List Nat → Prop
  | i, _, [] => i = n
  | i, left, s :: r => skipB but i left s = false ∧ i < n ∧ Al n but (i + 1) (less left s) r
theorem skip_zero (but : Int) (i left : Nat) : skipB but i left 0 = false := by
  have : less 0 left = 0 := by have := less_le 0 left; omega
  simp [skipB, this]
theorem less_zero (left : Nat) : less left 0 = left := by simp [less]
theorem le_of_less {k left : Nat} (h : less k left = 0) : k ≤ left := by
  refine Nat.le_of_testBit fun j hj => ?_
  have := less_testBit k left j
  rw [h, hj] at this
  simpa using this
theorem Al.length {n : Nat} {but : Int} : ∀ {i left : Nat} {S : List Nat}, Al n but i left S → S.length + i = n
  | i, _, [], h => by
    have h : i = n := h
    simp [h]
  | i, _, s :: r, h => by have := h.2.2.length; simp; omega
theorem share_best {m : Nat} {W : List (List Int)} (hok : SetsOk m W) (but : Int) : ∀ (d left i : Nat), i + d = W.length → left < 2 ^ m → IsBest (Al W.length but i left) (valF W i) (shareF W but d left) ∧ 0 ≤ (shareF W but d left).1 ∧ (shareF W but d left).1 ≤ d * 1000
  | 0, left, i, hi, hl => by
    refine ⟨⟨by show i = W.length; omega, rfl, fun t ht => ?_⟩, by simp [shareF], by simp [shareF]⟩
    have := ht.length
    obtain rfl : t = [] := List.eq_nil_of_length_eq_zero (by omega)
    exact .inr ⟨rfl, .inl rfl⟩
  | d + 1, left, i, hi, hl => by
    have ih := fun left' h => share_best hok but d left' (i + 1) (by omega) h
    have key : ∀ k, k < left + 1 → IsBest (fun t => Al W.length but i left t ∧ ∃ s r, t = s :: r ∧ s < k + 1) (valF W i) (shTo W but i (shareF W but d) left (k + 1)) ∧ 0 ≤ (shTo W but i (shareF W but d) left (k + 1)).1 ∧ (shTo W but i (shareF W but d) left (k + 1)).1 ≤ (d + 1 : Nat) * 1000 := by
      intro k
      have one : ∀ k, k ≤ left → skipB but i left k = false → IsBest (fun t => Al W.length but i left t ∧ ∃ r, t = k :: r) (valF W i) ((shareF W but d (less left k)).1 + wAt W i k, k :: (shareF W but d (less left k)).2) ∧ 0 ≤ (shareF W but d (less left k)).1 + wAt W i k ∧ (shareF W but d (less left k)).1 + wAt W i k ≤ (d + 1 : Nat) * 1000 := by
        intro k hk hs
        have hb := ih (less left k) (by have := less_le left k; omega)
        have hv := hok.val i (by omega) k (by omega)
        refine ⟨⟨⟨⟨hs, by omega, hb.1.mem⟩, _, rfl⟩, by simp only [valF, hb.1.val]; omega, fun t ht => ?_⟩, by omega, by simp only [Int.natCast_succ]; omega⟩
        obtain ⟨ht, r, rfl⟩ := ht
        rcases hb.1.best r ht.2.2 with c | ⟨c, e⟩
        · left; simp only [valF]; omega
        · right
          refine ⟨by simp only [valF]; omega, ?_⟩
          rcases e with e | e
          · left; rw [e]
          · right; rw [lexlt_cons]; exact .inr ⟨rfl, e⟩
      induction k with
      | zero =>
        intro _
        have h1 := one 0 (by omega) (skip_zero _ _ _)
        rw [shTo_yes (skip_zero _ _ _) (show (-1 : Int) < _ by omega)]
        refine ⟨h1.1.congr fun t => ⟨fun ⟨a, r, e⟩ => ⟨a, 0, r, e, by omega⟩, fun ⟨a, s, r, e, hs⟩ => ⟨a, r, ?_⟩⟩, h1.2⟩
        obtain rfl : s = 0 := by omega
        exact e
      | succ k ihk =>
        intro hk
        have hp := ihk (by omega)
        by_cases hs : skipB but i left (k + 1) = true
        · rw [shTo_skip hs]
          refine ⟨hp.1.congr fun t => ⟨fun ⟨a, s, r, e, h⟩ => ⟨a, s, r, e, by omega⟩, fun ⟨a, s, r, e, h⟩ => ⟨a, s, r, e, ?_⟩⟩, hp.2⟩
          by_cases c : s = k + 1
          · subst c; subst e
            have := a.1
            rw [hs] at this
            cases this
          · omega
        · have hs : skipB but i left (k + 1) = false := by simpa using hs
          have h1 := one (k + 1) (by omega) hs
          have hor : ∀ t, ((Al W.length but i left t ∧ ∃ s r, t = s :: r ∧ s < k + 1) ∨ (Al W.length but i left t ∧ ∃ r, t = (k + 1) :: r)) ↔ (Al W.length but i left t ∧ ∃ s r, t = s :: r ∧ s < k + 1 + 1) := by
            intro t
            constructor
            · rintro (⟨a, s, r, e, h⟩ | ⟨a, r, e⟩)
              · exact ⟨a, s, r, e, by omega⟩
              · exact ⟨a, k + 1, r, e, by omega⟩
            · rintro ⟨a, s, r, e, h⟩
              by_cases c : s = k + 1
              · exact .inr ⟨a, r, c ▸ e⟩
              · exact .inl ⟨a, s, r, e, by omega⟩
          by_cases c : (shTo W but i (shareF W but d) left (k + 1)).1 < (shareF W but d (less left (k + 1))).1 + wAt W i (k + 1)
          · rw [shTo_yes hs c]
            exact ⟨(hp.1.or_right h1.1 (.inl c)).congr hor, h1.2⟩
          · rw [shTo_no hs c]
            refine ⟨(hp.1.or_left h1.1 ?_ ?_).congr hor, hp.2⟩
            · have a := hp.1.mem.1.length
              have b := h1.1.mem.1.length
              omega
            · rintro (e | ⟨_, e⟩)
              · exact c e
              · obtain ⟨_, s, r, e2, hlt⟩ := hp.1.mem
                rw [e2] at e
                rw [lexlt_cons] at e
                omega
    have h := key left (by omega)
    have e : shareF W but (d + 1) left = shTo W but i (shareF W but d) left (left + 1) := by
      show shTo W but (W.length - (d + 1)) (shareF W but d) left (left + 1) = _
      rw [show W.length - (d + 1) = i by omega]
    rw [e]
    refine ⟨h.1.congr fun t => ⟨fun a => a.1, fun a => ⟨a, ?_⟩⟩, h.2⟩
    match t, a with
    | [], a =>
      have a : i = W.length := a
      omega
    | s :: r, a =>
      refine ⟨s, r, rfl, ?_⟩
      have h2 := a.1
      unfold skipB at h2
      simp only [Bool.or_eq_false_iff, decide_eq_false_iff_not, ne_eq, Decidable.not_not] at h2
      have := le_of_less h2.1
      omega
def bestS (m : Nat) (W : List (List Int)) (but : Int) : Int × List Nat := shareF W but W.length (2 ^ m - 1)
theorem bestS_spec {m : Nat} {W : List (List Int)} (hok : SetsOk m W) (but : Int) : IsBest (Al W.length but 0 (2 ^ m - 1)) (valF W 0) (bestS m W but) ∧ 0 ≤ (bestS m W but).1 ∧ (bestS m W but).1 ≤ 4000 := by
  have hp : 0 < 2 ^ m := Nat.two_pow_pos m
  have h := share_best hok but W.length (2 ^ m - 1) 0 (by omega) (by omega)
  have := hok.n4
  exact ⟨h.1, h.2.1, by unfold bestS; omega⟩

/-! Sets, place by place -/
structure AlP (n : Nat) (but : Int) (i left : Nat) (S : List Nat) : Prop where
  len : S.length + i = n
  sub : ∀ j, j < S.length → ∀ k, (S.getD j 0).testBit k = true → left.testBit k = true
  dis : ∀ j j', j < S.length → j' < S.length → j ≠ j' → ∀ k, ¬ ((S.getD j 0).testBit k = true ∧ (S.getD j' 0).testBit k = true)
  zero : ∀ j, j < S.length → ((i + j : Nat) : Int) = but → S.getD j 0 = 0
theorem skip_iff {but : Int} {i left s : Nat} : skipB but i left s = false ↔ (∀ k, s.testBit k = true → left.testBit k = true) ∧ ((i : Int) = but → s = 0) := by
  unfold skipB
  simp only [Bool.or_eq_false_iff, decide_eq_false_iff_not, ne_eq, Decidable.not_not, Bool.and_eq_false_iff]
  constructor
  · rintro ⟨h1, h2⟩
    refine ⟨fun k hk => ?_, fun e => by rcases h2 with h2 | h2; exact absurd e h2; exact h2⟩
    have := less_testBit s left k
    rw [h1, hk] at this
    simpa using this
  · rintro ⟨h1, h2⟩
    refine ⟨Nat.eq_of_testBit_eq fun k => ?_, by by_cases c : (i : Int) = but; exact .inr (h2 c); exact .inl c⟩
    rw [less_testBit, Nat.zero_testBit]
    cases e : s.testBit k with
    | false => rfl
    | true => rw [h1 k e]; rfl
theorem Al_iff {n : Nat} {but : Int} : ∀ {i left : Nat} {S : List Nat}, Al n but i left S ↔ AlP n but i left S
  | i, left, [] => ⟨fun h => ⟨by have h : i = n := h; simp [h], fun j hj => by simp at hj, fun j j' hj => by simp at hj, fun j hj => by simp at hj⟩, fun h => by have := h.len; show i = n; simpa using this⟩
  | i, left, s :: r => by
    show (skipB but i left s = false ∧ i < n ∧ Al n but (i + 1) (less left s) r) ↔ _
    rw [Al_iff, skip_iff]
    constructor
    · rintro ⟨⟨h1, h2⟩, h3, h4⟩
      refine ⟨by have := h4.len; simp; omega, fun j hj k hk => ?_, fun j j' hj hj' hne k hk => ?_, fun j hj e => ?_⟩
      · cases j with
        | zero => exact h1 k hk
        | succ j =>
          have := h4.sub j (by simpa using hj) k hk
          rw [less_testBit] at this
          simp at this
          exact this.1
      · cases j with
        | zero =>
          cases j' with
          | zero => exact hne rfl
          | succ j' =>
            have := h4.sub j' (by simpa using hj') k hk.2
            rw [less_testBit] at this
            simp at this
            have h5 := hk.1
            simp at h5
            rw [h5] at this
            cases this.2
        | succ j =>
          cases j' with
          | zero =>
            have := h4.sub j (by simpa using hj) k hk.1
            rw [less_testBit] at this
            simp at this
            have h5 := hk.2
            simp at h5
            rw [h5] at this
            cases this.2
          | succ j' => exact h4.dis j j' (by simpa using hj) (by simpa using hj') (by omega) k hk
      · cases j with
        | zero => exact h2 (by simpa using e)
        | succ j => exact h4.zero j (by simpa using hj) (by rw [← e]; congr 1; omega)
    · intro h
      have hl := h.len
      simp at hl
      refine ⟨⟨fun k hk => h.sub 0 (by simp) k hk, fun e => h.zero 0 (by simp) (by simpa using e)⟩, by omega, ⟨by omega, fun j hj k hk => ?_, fun j j' hj hj' hne k hk => h.dis (j + 1) (j' + 1) (by simpa using hj) (by simpa using hj') (by omega) k hk, fun j hj e => h.zero (j + 1) (by simpa using hj) (by rw [← e]; congr 1; omega)⟩⟩
      rw [less_testBit]
      have h1 := h.sub (j + 1) (by simpa using hj) k hk
      have h2 := h.dis (j + 1) 0 (by simpa using hj) (by simp) (by omega) k
      rw [h1]
      cases e : s.testBit k with
      | false => rfl
      | true => exact absurd ⟨hk, e⟩ h2

/-! By things -/
def bsTo (f : Nat → Bool) : Nat → Nat
  | 0 => 0
  | k + 1 => bsTo f k + if f k then 2 ^ k else 0
theorem bsTo_lt (f : Nat → Bool) : ∀ k, bsTo f k < 2 ^ k
  | 0 => by simp [bsTo]
  | k + 1 => by
    have := bsTo_lt f k
    simp only [bsTo, Nat.pow_succ]
    split <;> omega
theorem bsTo_testBit (f : Nat → Bool) : ∀ k j, (bsTo f k).testBit j = (decide (j < k) && f j)
  | 0, j => by simp [bsTo]
  | k + 1, j => by
    have hl := bsTo_lt f k
    simp only [bsTo]
    by_cases c : f k = true
    · rw [if_pos c, Nat.add_comm]
      rcases Nat.lt_trichotomy j k with h | h | h
      · rw [Nat.testBit_two_pow_add_gt h, bsTo_testBit f k j]
        simp [h, show j < k + 1 by omega]
      · subst h
        rw [Nat.testBit_two_pow_add_eq, Nat.testBit_lt_two_pow hl]
        simp [c]
      · have : (2 ^ k + bsTo f k) < 2 ^ j := Nat.lt_of_lt_of_le (show _ < 2 ^ (k + 1) by rw [Nat.pow_succ]; omega) (Nat.pow_le_pow_right (by omega) h)
        rw [Nat.testBit_lt_two_pow this]
        simp [show ¬ j < k + 1 by omega]
    · rw [if_neg c, Nat.add_zero, bsTo_testBit f k j]
      by_cases h : j = k
      · subst h
        simp at c
        simp [c]
      · have : decide (j < k + 1) = decide (j < k) := by
          by_cases h2 : j < k
          · simp [h2]; omega
          · simp [h2]; omega
        rw [this]
def ownB (who : List Int) (i k : Nat) : Bool := decide (who.getD k 0 = (i : Int))
def setsOf (n : Nat) (who : List Int) : List Nat := mapr n fun i => bsTo (ownB who i) who.length
structure WhoOk (n : Nat) (but : Int) (who : List Int) : Prop where
  bd : ∀ k, k < who.length → -1 ≤ who.getD k 0 ∧ who.getD k 0 < n
  ne : ∀ k, k < who.length → 0 ≤ who.getD k 0 → who.getD k 0 ≠ but
theorem setsOf_length (n : Nat) (who : List Int) : (setsOf n who).length = n := mapr_length _ _
theorem setsOf_testBit {n : Nat} {who : List Int} {i k : Nat} (hi : i < n) : ((setsOf n who).getD i 0).testBit k = (decide (k < who.length) && ownB who i k) := by
  unfold setsOf
  rw [mapr_getD _ hi, bsTo_testBit]
theorem testBit_low {x m k : Nat} (h : x < 2 ^ m) (hk : x.testBit k = true) : k < m := by
  rcases Nat.lt_or_ge k m with c | c
  · exact c
  · rw [Nat.testBit_lt_two_pow (Nat.lt_of_lt_of_le h (Nat.pow_le_pow_right (by omega) c))] at hk
    cases hk
theorem ones_testBit (m k : Nat) : (2 ^ m - 1).testBit k = decide (k < m) := Nat.testBit_two_pow_sub_one m k
theorem who_al {m n : Nat} {but : Int} {who : List Int} (hw : WhoOk n but who) (hl : who.length = m) : AlP n but 0 (2 ^ m - 1) (setsOf n who) := by
  have hsl := setsOf_length n who
  refine ⟨by omega, fun j hj k hk => ?_, fun j j' hj hj' hne k hk => ?_, fun j hj e => ?_⟩
  · rw [setsOf_testBit (by omega)] at hk
    rw [ones_testBit]
    simp at hk ⊢
    omega
  · rw [setsOf_testBit (by omega), setsOf_testBit (by omega)] at hk
    unfold ownB at hk
    simp only [Bool.and_eq_true, decide_eq_true_eq] at hk
    omega
  · refine Nat.eq_of_testBit_eq fun k => ?_
    rw [setsOf_testBit (by omega), Nat.zero_testBit]
    by_cases hk : k < who.length
    · have : ownB who j k = false := by
        unfold ownB
        refine decide_eq_false fun c => hw.ne k hk (by omega) (by rw [c, ← e]; simp)
      rw [this]
      simp
    · simp [hk]
def whoOf (m n : Nat) (S : List Nat) : List Int := mapr m fun k => match firstI (fun i => (S.getD i 0).testBit k) n with | some i => (i : Int) | none => -1
theorem whoOf_getD {m n : Nat} {S : List Nat} {k : Nat} (hk : k < m) : (whoOf m n S).getD k 0 = match firstI (fun i => (S.getD i 0).testBit k) n with | some i => (i : Int) | none => -1 := mapr_getD _ hk
theorem al_who {m n : Nat} {but : Int} {S : List Nat} (h : AlP n but 0 (2 ^ m - 1) S) : WhoOk n but (whoOf m n S) ∧ (whoOf m n S).length = m ∧ setsOf n (whoOf m n S) = S := by
  have hl : (whoOf m n S).length = m := mapr_length _ _
  have hn := h.len
  refine ⟨⟨fun k hk => ?_, fun k hk h0 => ?_⟩, hl, ?_⟩
  · rw [whoOf_getD (by omega)]
    cases e : firstI (fun i => (S.getD i 0).testBit k) n with
    | some i => have := (firstI_spec e).1; simp; omega
    | none => simp; omega
  · rw [whoOf_getD (by omega)] at h0 ⊢
    cases e : firstI (fun i => (S.getD i 0).testBit k) n with
    | some i =>
      have := firstI_spec e
      intro c
      have h1 := h.zero i (by omega) (by simpa using c)
      have h2 := this.2.1
      rw [h1, Nat.zero_testBit] at h2
      cases h2
    | none => rw [e] at h0; simp at h0
  · refine List.ext_getElem (by rw [setsOf_length]; omega) fun i h1 h2 => ?_
    have hi : i < n := by omega
    have e1 : (setsOf n (whoOf m n S))[i] = (setsOf n (whoOf m n S)).getD i 0 := by simp [List.getD_eq_getElem?_getD, h1]
    have e2 : S[i] = S.getD i 0 := by simp [List.getD_eq_getElem?_getD, h2]
    rw [e1, e2]
    refine Nat.eq_of_testBit_eq fun k => ?_
    rw [setsOf_testBit hi, hl]
    by_cases hk : k < m
    · unfold ownB
      rw [whoOf_getD hk]
      cases e : firstI (fun i => (S.getD i 0).testBit k) n with
      | some j =>
        have := firstI_spec e
        by_cases c : j = i
        · subst c
          rw [this.2.1]
          simp [hk]
        · have h3 := h.dis j i (by omega) h2 c k
          have h4 : (S.getD i 0).testBit k = false := by
            cases e5 : (S.getD i 0).testBit k with
            | false => rfl
            | true => exact absurd ⟨this.2.1, e5⟩ h3
          rw [h4]
          simp
          omega
      | none =>
        rw [firstI_none e i hi]
        simp
    · cases e5 : (S.getD i 0).testBit k with
      | false => simp [hk]
      | true =>
        have := h.sub i h2 k e5
        rw [ones_testBit] at this
        simp at this
        omega
def gvTo (but : Int) (f : Int → Int × List Nat) : Nat → Int × List Nat
  | 0 => (-1, [])
  | j + 1 => if 0 ≤ (j : Int) - 1 ∧ (j : Int) - 1 = but then gvTo but f j
    else if (gvTo but f j).1 < (f ((j : Int) - 1)).1 ∨ ((f ((j : Int) - 1)).1 = (gvTo but f j).1 ∧ lexlt (f ((j : Int) - 1)).2 (gvTo but f j).2 = true) then f ((j : Int) - 1) else gvTo but f j
def givenF (W : List (List Int)) (but : Int) : Nat → List Int → Int × List Nat
  | 0, who => (valF W 0 (setsOf W.length who), setsOf W.length who)
  | d + 1, who => gvTo but (fun i => givenF W but d (who ++ [i])) (W.length + 1)
theorem gvTo_skip {but : Int} {f : Int → Int × List Nat} {j : Nat} (h : 0 ≤ (j : Int) - 1 ∧ (j : Int) - 1 = but) : gvTo but f (j + 1) = gvTo but f j := if_pos h
theorem gvTo_yes {but : Int} {f : Int → Int × List Nat} {j : Nat} (h : ¬ (0 ≤ (j : Int) - 1 ∧ (j : Int) - 1 = but)) (h' : (gvTo but f j).1 < (f ((j : Int) - 1)).1 ∨ ((f ((j : Int) - 1)).1 = (gvTo but f j).1 ∧ lexlt (f ((j : Int) - 1)).2 (gvTo but f j).2 = true)) : gvTo but f (j + 1) = f ((j : Int) - 1) := by
  simp only [gvTo, if_neg h, if_pos h']
theorem gvTo_no {but : Int} {f : Int → Int × List Nat} {j : Nat} (h : ¬ (0 ≤ (j : Int) - 1 ∧ (j : Int) - 1 = but)) (h' : ¬ ((gvTo but f j).1 < (f ((j : Int) - 1)).1 ∨ ((f ((j : Int) - 1)).1 = (gvTo but f j).1 ∧ lexlt (f ((j : Int) - 1)).2 (gvTo but f j).2 = true))) : gvTo but f (j + 1) = gvTo but f j := by
  simp only [gvTo, if_neg h, if_neg h']
def Ext (n : Nat) (but : Int) (d : Nat) (who : List Int) (S : List Nat) : Prop := ∃ e : List Int, e.length = d ∧ WhoOk n but e ∧ S = setsOf n (who ++ e)
theorem WhoOk.cons {n : Nat} {but : Int} {i : Int} {e : List Int} : WhoOk n but (i :: e) ↔ (-1 ≤ i ∧ i < n ∧ (0 ≤ i → i ≠ but)) ∧ WhoOk n but e := by
  constructor
  · intro h
    refine ⟨⟨(h.bd 0 (by simp)).1, (h.bd 0 (by simp)).2, h.ne 0 (by simp)⟩, ⟨fun k hk => h.bd (k + 1) (by simpa using hk), fun k hk => h.ne (k + 1) (by simpa using hk)⟩⟩
  · rintro ⟨⟨h1, h2, h3⟩, h⟩
    refine ⟨fun k hk => ?_, fun k hk => ?_⟩
    · cases k with
      | zero => exact ⟨h1, h2⟩
      | succ k => exact h.bd k (by simpa using hk)
    · cases k with
      | zero => exact h3
      | succ k => exact h.ne k (by simpa using hk)
theorem WhoOk.nil {n : Nat} {but : Int} : WhoOk n but [] := ⟨fun k hk => by simp at hk, fun k hk => by simp at hk⟩
theorem Ext.length {n : Nat} {but : Int} {d : Nat} {who : List Int} {S : List Nat} (h : Ext n but d who S) : S.length = n := by
  obtain ⟨e, _, _, rfl⟩ := h
  exact setsOf_length _ _
theorem wAt_bd {m : Nat} {W : List (List Int)} (hok : SetsOk m W) {i s : Nat} : i < W.length → s < 2 ^ m → 0 ≤ wAt W i s ∧ wAt W i s ≤ 1000 := fun h h' => hok.val i h s h'
theorem valF_bd {m : Nat} {W : List (List Int)} (hok : SetsOk m W) : ∀ {S : List Nat} {i : Nat}, S.length + i ≤ W.length → (∀ j, j < S.length → S.getD j 0 < 2 ^ m) → 0 ≤ valF W i S ∧ valF W i S ≤ S.length * 1000
  | [], i, _, _ => by simp [valF]
  | s :: r, i, h, hs => by
    have h1 := hok.val i (by simp at h; omega) s (hs 0 (by simp))
    have h2 := valF_bd hok (S := r) (i := i + 1) (by simp at h; omega) fun j hj => hs (j + 1) (by simpa using hj)
    simp only [valF, List.length_cons, Int.natCast_succ]
    omega
theorem given_best {m : Nat} {W : List (List Int)} (hok : SetsOk m W) (but : Int) : ∀ (d : Nat) (who : List Int), who.length + d = m → IsBest (Ext W.length but d who) (valF W 0) (givenF W but d who) ∧ 0 ≤ (givenF W but d who).1 ∧ (givenF W but d who).1 ≤ 4000
  | 0, who, hl => by
    have hn := hok.n4
    refine ⟨⟨⟨[], rfl, .nil, by rw [List.append_nil]; rfl⟩, rfl, fun t ht => ?_⟩, ?_⟩
    · obtain ⟨e, h1, _, rfl⟩ := ht
      obtain rfl : e = [] := List.eq_nil_of_length_eq_zero h1
      rw [List.append_nil]
      exact .inr ⟨rfl, .inl rfl⟩
    · have h1 := valF_bd hok (S := setsOf W.length who) (i := 0) (by rw [setsOf_length]; omega) fun j hj => by
        rw [setsOf_length] at hj
        unfold setsOf
        rw [mapr_getD _ hj]
        have := bsTo_lt (ownB who j) who.length
        rwa [show who.length = m by omega] at this ⊢
      rw [setsOf_length] at h1
      show 0 ≤ valF W 0 (setsOf W.length who) ∧ valF W 0 (setsOf W.length who) ≤ 4000
      omega
  | d + 1, who, hl => by
    have ih := fun i : Int => given_best hok but d (who ++ [i]) (by simp; omega)
    have key : ∀ j, j < W.length + 1 → IsBest (fun t => ∃ (i : Int) (e : List Int), i < j ∧ e.length = d ∧ WhoOk W.length but (i :: e) ∧ t = setsOf W.length (who ++ i :: e)) (valF W 0) (gvTo but (fun i => givenF W but d (who ++ [i])) (j + 1)) ∧ 0 ≤ (gvTo but (fun i => givenF W but d (who ++ [i])) (j + 1)).1 ∧ (gvTo but (fun i => givenF W but d (who ++ [i])) (j + 1)).1 ≤ 4000 := by
      intro j
      have one : ∀ i : Int, -1 ≤ i → i < W.length → (0 ≤ i → i ≠ but) → IsBest (fun t => ∃ e : List Int, e.length = d ∧ WhoOk W.length but (i :: e) ∧ t = setsOf W.length (who ++ i :: e)) (valF W 0) (givenF W but d (who ++ [i])) := by
        intro i h1 h2 h3
        refine (ih i).1.congr fun t => ⟨fun ⟨e, a, b, c⟩ => ⟨e, a, WhoOk.cons.2 ⟨⟨h1, h2, h3⟩, b⟩, by rw [c, List.append_assoc]; rfl⟩, fun ⟨e, a, b, c⟩ => ⟨e, a, (WhoOk.cons.1 b).2, by rw [c, List.append_assoc]; rfl⟩⟩
      induction j with
      | zero =>
        intro _
        have h1 := one (-1) (by omega) (by omega) (by omega)
        have h2 := (ih (-1)).2
        rw [gvTo_yes (but := but) (f := fun i => givenF W but d (who ++ [i])) (j := 0) (by omega) (.inl (show (-1 : Int) < (givenF W but d (who ++ [-1])).1 by omega))]
        refine ⟨h1.congr fun t => ⟨fun ⟨e, a, b, c⟩ => ⟨-1, e, by omega, a, b, c⟩, fun ⟨i, e, h, a, b, c⟩ => ?_⟩, h2⟩
        have := (WhoOk.cons.1 b).1
        obtain rfl : i = -1 := by omega
        exact ⟨e, a, b, c⟩
      | succ j ihj =>
        intro hj
        have hp := ihj (by omega)
        by_cases hs : 0 ≤ ((j + 1 : Nat) : Int) - 1 ∧ ((j + 1 : Nat) : Int) - 1 = but
        · rw [gvTo_skip hs]
          refine ⟨hp.1.congr fun t => ⟨fun ⟨i, e, h, r⟩ => ⟨i, e, by omega, r⟩, fun ⟨i, e, h, a, b, c⟩ => ⟨i, e, ?_, a, b, c⟩⟩, hp.2⟩
          have := (WhoOk.cons.1 b).1
          by_cases c2 : i = but
          · have := this.2.2 (by omega)
            exact absurd c2 this
          · omega
        · have h1 := one (((j + 1 : Nat) : Int) - 1) (by omega) (by omega) (fun h c => hs ⟨h, c⟩)
          have hor : ∀ t, ((∃ (i : Int) (e : List Int), i < j ∧ e.length = d ∧ WhoOk W.length but (i :: e) ∧ t = setsOf W.length (who ++ i :: e)) ∨ (∃ e : List Int, e.length = d ∧ WhoOk W.length but ((((j + 1 : Nat) : Int) - 1) :: e) ∧ t = setsOf W.length (who ++ (((j + 1 : Nat) : Int) - 1) :: e))) ↔ (∃ (i : Int) (e : List Int), i < ((j + 1 : Nat) : Int) ∧ e.length = d ∧ WhoOk W.length but (i :: e) ∧ t = setsOf W.length (who ++ i :: e)) := by
            intro t
            constructor
            · rintro (⟨i, e, h, r⟩ | ⟨e, r⟩)
              · exact ⟨i, e, by omega, r⟩
              · exact ⟨_, e, by omega, r⟩
            · rintro ⟨i, e, h, r⟩
              by_cases c : i = ((j + 1 : Nat) : Int) - 1
              · subst c; exact .inr ⟨e, r⟩
              · exact .inl ⟨i, e, by omega, r⟩
          by_cases c : (gvTo but (fun i => givenF W but d (who ++ [i])) (j + 1)).1 < (givenF W but d (who ++ [((j + 1 : Nat) : Int) - 1])).1 ∨ ((givenF W but d (who ++ [((j + 1 : Nat) : Int) - 1])).1 = (gvTo but (fun i => givenF W but d (who ++ [i])) (j + 1)).1 ∧ lexlt (givenF W but d (who ++ [((j + 1 : Nat) : Int) - 1])).2 (gvTo but (fun i => givenF W but d (who ++ [i])) (j + 1)).2 = true)
          · rw [gvTo_yes hs c]
            exact ⟨(hp.1.or_right h1 c).congr hor, (ih _).2⟩
          · rw [gvTo_no hs c]
            refine ⟨(hp.1.or_left h1 ?_ c).congr hor, hp.2⟩
            obtain ⟨i, e, _, _, _, e2⟩ := hp.1.mem
            rw [e2, setsOf_length, (ih _).1.mem.length]
    have h := key W.length (by omega)
    refine ⟨h.1.congr fun t => ⟨fun ⟨i, e, _, a, b, c⟩ => ⟨i :: e, by simp [a], b, c⟩, fun ⟨e, a, b, c⟩ => ?_⟩, h.2⟩
    match e, a with
    | i :: e, a => exact ⟨i, e, (WhoOk.cons.1 b).1.2.1, by simpa using a, b, c⟩
theorem given_share {m : Nat} {W : List (List Int)} (hok : SetsOk m W) (but : Int) : givenF W but m [] = bestS m W but := by
  refine (given_best hok but m [] (by simp)).1.uniq ((bestS_spec hok but).1.congr fun t => ?_)
  rw [Al_iff]
  constructor
  · intro h
    have := al_who h
    exact ⟨whoOf m W.length t, this.2.1, this.1, by rw [List.nil_append]; exact this.2.2.symm⟩
  · rintro ⟨e, a, b, rfl⟩
    rw [List.nil_append]
    exact who_al b a

def rowLenE (m : Nat) (W : List (List Int)) (i : Nat) : Int := if (W.getD i []).length ≠ 2 ^ m then 7 else 0
def monoE (row : List Int) (s k : Nat) : Int := if s / 2 ^ k % 2 = 1 ∧ row.getD s 0 < row.getD (s - 2 ^ k) 0 then 11 else 0
def cellE (m : Nat) (row : List Int) (s : Nat) : Int := if (row.getD s 0 < 0 ∨ 1000 < row.getD s 0) ∨ (s = 0 ∧ row.getD s 0 ≠ 0) then 9 else firstE (monoE row s) m
def rowE (m : Nat) (W : List (List Int)) (i : Nat) : Int := firstE (cellE m (W.getD i [])) (W.getD i []).length
def setsE (items : Int) (W : List (List Int)) : Int :=
  if items < 0 ∨ 4 < items then 2 else if W.length < 1 ∨ 4 < W.length then 7
  else if firstE (rowLenE items.toNat W) W.length ≠ 0 then firstE (rowLenE items.toNat W) W.length else firstE (rowE items.toNat W) W.length
theorem setsE_items {items : Int} {W : List (List Int)} (h : items < 0 ∨ 4 < items) : 2 = setsE items W := (if_pos h).symm
theorem setsE_count {items : Int} {W : List (List Int)} (h : ¬ (items < 0 ∨ 4 < items)) (h' : (W.length : Int) < 1 ∨ 4 < (W.length : Int)) : 7 = setsE items W := by
  unfold setsE
  rw [if_neg h, if_pos (by omega)]
section
variable {m : Nat} {W : List (List Int)} (hm : m ≤ 4) (hn : 1 ≤ W.length ∧ W.length ≤ 4)
include hm hn
theorem setsE_len {i : Nat} (hE : firstE (rowLenE m W) i = 0) (hi : i < W.length) (hc : rowLenE m W i = 7) : 7 = setsE (m : Nat) W := by
  unfold setsE
  have h := firstE_stop hE hc (by omega) hi
  rw [if_neg (by omega), if_neg (by omega), Int.toNat_natCast, h, if_pos (by omega)]
theorem setsE_cell {i : Nat} {c : Int} (hrl : firstE (rowLenE m W) W.length = 0) (hE : firstE (rowE m W) i = 0) (hi : i < W.length) (hc : rowE m W i = c ∧ c ≠ 0) : c = setsE (m : Nat) W := by
  unfold setsE
  have h := firstE_stop hE hc.1 hc.2 hi
  rw [if_neg (by omega), if_neg (by omega), Int.toNat_natCast, hrl, if_neg (by omega), h]
theorem setsE_ok {i : Nat} (hrl : firstE (rowLenE m W) W.length = 0) (hk : i ≤ W.length) (hE : firstE (rowE m W) i = 0) (hi : ¬ (i : Int) < W.length) : 0 = setsE (m : Nat) W := by
  obtain rfl : i = W.length := by omega
  unfold setsE
  rw [if_neg (by omega), if_neg (by omega), Int.toNat_natCast, hrl, if_neg (by omega), hE]
end
theorem rowLenE_yes {m : Nat} {W : List (List Int)} {i : Nat} (h : ¬ (W.getD i []).length = 2 ^ m) : rowLenE m W i = 7 := if_pos h
theorem rowLenE_no {m : Nat} {W : List (List Int)} {i : Nat} (h : (W.getD i []).length = 2 ^ m) : rowLenE m W i = 0 := if_neg (fun c => c h)
theorem cellE_val {m : Nat} {W : List (List Int)} {i s : Nat} (hC : firstE (cellE m (W.getD i [])) s = 0) (hs : s < (W.getD i []).length) (h : ((W.getD i []).getD s 0 < 0 ∨ 1000 < (W.getD i []).getD s 0) ∨ (s = 0 ∧ (W.getD i []).getD s 0 ≠ 0)) : rowE m W i = 9 ∧ (9 : Int) ≠ 0 :=
  ⟨firstE_stop hC (if_pos h) (by omega) hs, by omega⟩
theorem cellE_mono {m : Nat} {W : List (List Int)} {i s k : Nat} (hC : firstE (cellE m (W.getD i [])) s = 0) (hs : s < (W.getD i []).length) (h : ¬ (((W.getD i []).getD s 0 < 0 ∨ 1000 < (W.getD i []).getD s 0) ∨ (s = 0 ∧ (W.getD i []).getD s 0 ≠ 0)))
    (hF : firstE (monoE (W.getD i []) s) k = 0) (hk : k < m) (hm : monoE (W.getD i []) s k = 11) : rowE m W i = 11 ∧ (11 : Int) ≠ 0 :=
  ⟨firstE_stop hC (by unfold cellE; rw [if_neg h]; exact firstE_stop hF hm (by omega) hk) (by omega) hs, by omega⟩
theorem cellE_ok {m : Nat} {row : List Int} {s k : Nat} (h : ¬ ((row.getD s 0 < 0 ∨ 1000 < row.getD s 0) ∨ (s = 0 ∧ row.getD s 0 ≠ 0))) (hF : firstE (monoE row s) k = 0) (hk : k ≤ m) (hn : ¬ (k : Int) < m) : cellE m row s = 0 := by
  obtain rfl : k = m := by omega
  unfold cellE
  rw [if_neg h]
  exact hF
theorem toNat_two_pow (k : Nat) : ((2 : Int) ^ k).toNat = 2 ^ k := by
  rw [show (2 : Int) ^ k = ((2 ^ k : Nat) : Int) by simp, Int.toNat_natCast]
theorem bit_cast (s k : Nat) : ((s : Nat) : Int) / 2 ^ k % 2 = ((s / 2 ^ k % 2 : Nat) : Int) := by simp
theorem ge_of_bit {s k : Nat} (h : ((s : Nat) : Int) / 2 ^ k % 2 = 1) : 2 ^ k ≤ s := by
  rw [bit_cast] at h
  rcases Nat.lt_or_ge s (2 ^ k) with c | c
  · rw [Nat.div_eq_of_lt c] at h
    simp at h
  · exact c
theorem mono_less {row : List Int} {s k : Nat} (hs : s < 16) (hk : k < 4) : (((s : Nat) : Int) / 2 ^ ((k : Nat) : Int).toNat % 2 = 1 ∧ row.getD s 0 < row.getD ((less ((s : Nat) : Int).toNat ((1 : Int) * 2 ^ ((k : Nat) : Int).toNat).toNat : Nat) : Int).toNat 0) ↔ monoE row s k = 11 := by
  rw [Int.toNat_natCast, Int.toNat_natCast, Int.toNat_natCast, Int.one_mul, toNat_two_pow, bit_cast]
  unfold monoE
  constructor
  · rintro ⟨h1, h2⟩
    have h1 : s / 2 ^ k % 2 = 1 := by omega
    rw [less_sub s hs k hk h1] at h2
    exact if_pos ⟨h1, h2⟩
  · intro h
    split at h
    · rename_i c
      rw [less_sub s hs k hk c.1]
      exact ⟨by omega, c.2⟩
    · omega
theorem mono_sub {row : List Int} {s k : Nat} : (((s : Nat) : Int) / ((1 : Int) * 2 ^ ((k : Nat) : Int).toNat) % 2 = 1 ∧ row.getD s 0 < row.getD (((s : Nat) : Int) - (1 : Int) * 2 ^ ((k : Nat) : Int).toNat).toNat 0) ↔ monoE row s k = 11 := by
  rw [Int.toNat_natCast, Int.one_mul]
  unfold monoE
  have e : (((s : Nat) : Int) - 2 ^ k).toNat = s - 2 ^ k := by
    rw [show (2 : Int) ^ k = ((2 ^ k : Nat) : Int) by simp]
    omega
  rw [e, bit_cast]
  constructor
  · rintro ⟨h1, h2⟩
    exact if_pos ⟨by omega, h2⟩
  · intro h
    split at h
    · rename_i c
      exact ⟨by omega, c.2⟩
    · omega
theorem mono_not {row : List Int} {s k : Nat} (h : ¬ monoE row s k = 11) : monoE row s k = 0 := by
  unfold monoE at *
  split at h
  · exact absurd rfl h
  · rename_i c; exact if_neg c
theorem items_nat {items : Int} {W : List (List Int)} (h : setsE items W = 0) : ∃ m : Nat, items = m := by
  unfold setsE at h
  split at h
  · omega
  · exact ⟨items.toNat, by omega⟩
theorem SetsOk.of {m : Nat} {W : List (List Int)} (h : setsE (m : Nat) W = 0) : SetsOk m W := by
  unfold setsE at h
  split at h
  · omega
  · split at h
    · omega
    · rw [Int.toNat_natCast] at h
      split at h
      · rename_i c; exact absurd h c
      · rename_i c
        have c : firstE (rowLenE m W) W.length = 0 := Decidable.not_not.1 c
        have hr : ∀ i, i < W.length → (W.getD i []).length = 2 ^ m := fun i hi => by
          have h1 := firstE_zero c i hi
          unfold rowLenE at h1
          split at h1
          · omega
          · rename_i h2; exact Decidable.not_not.1 h2
        have hc : ∀ i, i < W.length → ∀ s, s < 2 ^ m → (0 ≤ wAt W i s ∧ wAt W i s ≤ 1000) ∧ (s = 0 → wAt W i s = 0) := fun i hi s hs => by
          have h1 := firstE_zero h i hi
          have h2 := firstE_zero h1 s (by rw [hr i hi]; exact hs)
          unfold cellE at h2
          split at h2
          · omega
          · unfold wAt; omega
        exact ⟨by omega, by omega, hr, fun i hi s hs => (hc i hi s hs).1, fun i hi => (hc i hi 0 (Nat.two_pow_pos m)).2 rfl⟩

theorem May_fc (items : Int) (W : List (List Int)) : FC Try.prog 12 [.agg [.i items, .rows W]] (.i (setsE items W)) := by
  refine FC.intro Try.func12 rfl (Nat.le_of_ble_eq_true rfl) fun hfit => ?_
  have fit0 := hfit _ (.head _)
  have fw := ((hfit _ (.head _)).mem (.tail _ (.head _))).rows
  refine awp_seq ?_
  refine awp_region rfl (.n (fun _ => op_box (.plain rfl) (by simp)) (.n (fun _ => op_assign (.plain rfl)) (.nil _))) ?_
  refine awp_seq ?_
  refine awp_block ?_
  refine awp_seq ?_
  refine awp_region rfl (.n (fun _ => op_fieldAddr Try.underlying25 rfl rfl Try.sizeOf3 (.plain rfl)) (.n (fun _ => op_load Try.isAgg3 (.plain rfl)) (.n (fun _ => op_lss (.plain rfl) (.plain rfl)) (.n (fun _ => op_move (.plain rfl)) (.gn rfl rfl (fun hg _ => op_fieldAddr Try.underlying25 rfl rfl Try.sizeOf3 (.plain rfl)) (.gn rfl rfl (fun hg _ => op_load Try.isAgg3 (.opt rfl fun h => h)) (.gn rfl rfl (fun hg _ => op_gtr (.opt rfl fun h => h) (.plain rfl)) (.n (fun _ => op_or (.plain rfl) (.plain rfl) (.plain rfl) (fun h => eqF h)) (.n (fun _ => op_assign (.plain rfl)) (.nil _)))))))))) ?_
  refine awp_cond rfl (fun h => ?_) (fun h => ?_)
  · try simp only [decide_eq_true_eq, decide_eq_false_iff_not, Bool.and_eq_true, Bool.or_eq_true, Bool.and_eq_false_iff, Bool.or_eq_false_iff, Bool.not_eq_true', Bool.not_eq_false', Bool.not_eq_true, Bool.not_eq_false, Bool.true_eq_false, Bool.false_eq_true] at h
    refine awp_seq ?_
    refine awp_region rfl (.n (fun _ => op_assign (.plain rfl)) (.nil _)) ?_
    refine awp_ret ?_
    refine retQ.ret ?_
    refine ret1 rfl rfl rfl ?_
    exact congrArg PV.i (setsE_items h)
  · try simp only [decide_eq_true_eq, decide_eq_false_iff_not, Bool.and_eq_true, Bool.or_eq_true, Bool.and_eq_false_iff, Bool.or_eq_false_iff, Bool.not_eq_true', Bool.not_eq_false', Bool.not_eq_true, Bool.not_eq_false, Bool.true_eq_false, Bool.false_eq_true] at h
    refine awp_seq ?_
    refine awp_region rfl (.n (fun _ => op_fieldAddr Try.underlying25 rfl rfl Try.sizeOf23 (.plain rfl)) (.n (fun _ => op_load Try.isAgg23 (.plain rfl)) (.n (fun _ => op_len (s := 0) Try.underlying23 (.plain rfl)) (.n (fun _ => op_lss (.plain rfl) (.plain rfl)) (.n (fun _ => op_move (.plain rfl)) (.gn rfl rfl (fun hg _ => op_fieldAddr Try.underlying25 rfl rfl Try.sizeOf23 (.plain rfl)) (.gn rfl rfl (fun hg _ => op_load Try.isAgg23 (.opt rfl fun h => h)) (.gn rfl rfl (fun hg _ => op_len (s := 0) Try.underlying23 (.opt rfl fun h => h)) (.gn rfl rfl (fun hg _ => op_gtr (.opt rfl fun h => h) (.plain rfl)) (.n (fun _ => op_or (.plain rfl) (.plain rfl) (.plain rfl) (fun h => eqF h)) (.n (fun _ => op_assign (.plain rfl)) (.nil _)))))))))))) ?_
    refine awp_cond rfl (fun h => ?_) (fun h => ?_)
    · try simp only [decide_eq_true_eq, decide_eq_false_iff_not, Bool.and_eq_true, Bool.or_eq_true, Bool.and_eq_false_iff, Bool.or_eq_false_iff, Bool.not_eq_true', Bool.not_eq_false', Bool.not_eq_true, Bool.not_eq_false, Bool.true_eq_false, Bool.false_eq_true] at h
      refine awp_seq ?_
      refine awp_region rfl (.n (fun _ => op_assign (.plain rfl)) (.nil _)) ?_
      refine awp_ret ?_
      refine retQ.ret ?_
      refine ret1 rfl rfl rfl ?_
      exact congrArg PV.i (setsE_count (by omega) h)
    · try simp only [decide_eq_true_eq, decide_eq_false_iff_not, Bool.and_eq_true, Bool.or_eq_true, Bool.and_eq_false_iff, Bool.or_eq_false_iff, Bool.not_eq_true', Bool.not_eq_false', Bool.not_eq_true, Bool.not_eq_false, Bool.true_eq_false, Bool.false_eq_true] at h
      refine awp_skip ?_
      refine awp_seq ?_
      refine awp_seq ?_
      obtain ⟨m, rfl⟩ : ∃ m : Nat, items = m := ⟨items.toNat, by omega⟩
      have hm4 : m ≤ 4 := by omega
      have hn4 : 1 ≤ W.length ∧ W.length ≤ 4 := by omega
      have hp2 : (1 : Int) * 2 ^ ((m : Nat) : Int).toNat = 2 ^ m := by rw [Int.one_mul, Int.toNat_natCast]
      have hp3 := pow16 hm4
      have hp4 := two_pow_nat m
      have hpc : ((2 ^ m : Nat) : Int) = 2 ^ m := by simp
      refine awp_region rfl (.n (fun _ => op_fieldAddr Try.underlying25 rfl rfl Try.sizeOf23 (.plain rfl)) (.n (fun _ => op_load Try.isAgg23 (.plain rfl)) (.n (fun _ => op_len (s := 0) Try.underlying23 (.plain rfl)) (.n (fun _ => op_move (.plain rfl)) (.nil _))))) ?_
      refine awp_block ?_
      refine awp_loop (σ := Nat) (fun (i : Nat) => i ≤ W.length ∧ firstE (rowLenE m W) i = 0) (fun (i : Nat) => ⟨[(1, .pv (.rd [.i (m : Nat), .rows W])), (31, .pv (.rows W)), (32, .int (W.length : Nat)), (33, .int (i : Nat))], []⟩) (fun (i : Nat) => W.length - i) 0 ?_ (Ent.kept ⟨rfl, rfl, rfl, rfl, trivial⟩ trivial) ?_
      · exact ⟨Nat.zero_le _, rfl⟩
      rintro i hp
      try dsimp only at hp
      obtain ⟨hk, hE⟩ := hp
      refine awp_seq ?_
      refine awp_region rfl (.n (fun _ => op_lss (.plain rfl) (.plain rfl)) (.nil _)) ?_
      refine awp_seq ?_
      refine awp_cond rfl (fun h => ?_) (fun h => ?_)
      · try simp only [decide_eq_true_eq, decide_eq_false_iff_not, Bool.and_eq_true, Bool.or_eq_true, Bool.and_eq_false_iff, Bool.or_eq_false_iff, Bool.not_eq_true', Bool.not_eq_false', Bool.not_eq_true, Bool.not_eq_false, Bool.true_eq_false, Bool.false_eq_true] at h
        refine awp_skip ?_
        refine awp_seq ?_
        refine awp_block ?_
        refine awp_seq ?_
        refine awp_region rfl (.n (fun _ => op_indexAddrN Try.underlying23 Try.sizeOf27 (.plain rfl) (.plain rfl) (fun _ => rfl) ?_) (.n (fun _ => op_load Try.isAgg27 (.plain rfl)) (.n (fun _ => op_assign (.plain rfl)) (.nil _)))) ?_
        · omega
        refine awp_seq ?_
        refine awp_region rfl (.n (fun _ => op_move (.plain rfl)) (.n (fun _ => op_len (s := 0) Try.underlying27 (.plain rfl)) (.n (fun _ => op_fieldAddr Try.underlying25 rfl rfl Try.sizeOf3 (.plain rfl)) (.n (fun _ => op_load Try.isAgg3 (.plain rfl)) (.n (fun _ => op_shl (.plain rfl) (.plain rfl) ?_) (.n (fun _ => op_neq (.plain rfl) (.plain rfl)) (.nil _))))))) ?_
        · unfold InR; rw [hp2]; omega
        refine awp_cond rfl (fun h => ?_) (fun h => ?_)
        · try simp only [decide_eq_true_eq, decide_eq_false_iff_not, Bool.and_eq_true, Bool.or_eq_true, Bool.and_eq_false_iff, Bool.or_eq_false_iff, Bool.not_eq_true', Bool.not_eq_false', Bool.not_eq_true, Bool.not_eq_false, Bool.true_eq_false, Bool.false_eq_true] at h
          rw [hp2] at h
          refine awp_seq ?_
          refine awp_region rfl (.n (fun _ => op_assign (.plain rfl)) (.nil _)) ?_
          refine awp_ret ?_
          refine retQ.ret ?_
          refine ret1 rfl rfl rfl ?_
          exact congrArg PV.i (setsE_len hm4 hn4 hE (by omega) (rowLenE_yes (by omega)))
        · try simp only [decide_eq_true_eq, decide_eq_false_iff_not, Bool.and_eq_true, Bool.or_eq_true, Bool.and_eq_false_iff, Bool.or_eq_false_iff, Bool.not_eq_true', Bool.not_eq_false', Bool.not_eq_true, Bool.not_eq_false, Bool.true_eq_false, Bool.false_eq_true] at h
          rw [hp2] at h
          refine awp_skip ?_
          refine awp_region rfl (.n (fun _ => op_add (.plain rfl) (.plain rfl) ?_) (.n (fun _ => op_move (.plain rfl)) (.nil _))) ?_
          · unfold InR; omega
          exact ⟨i + 1, ⟨by omega, firstE_succ hE (rowLenE_no (by omega))⟩, by dsimp only; omega, (Ent.kept ⟨rfl, rfl, rfl, rfl, trivial⟩ trivial)⟩
      · try simp only [decide_eq_true_eq, decide_eq_false_iff_not, Bool.and_eq_true, Bool.or_eq_true, Bool.and_eq_false_iff, Bool.or_eq_false_iff, Bool.not_eq_true', Bool.not_eq_false', Bool.not_eq_true, Bool.not_eq_false, Bool.true_eq_false, Bool.false_eq_true] at h
        obtain rfl : i = W.length := by omega
        have hrl := hE
        refine awp_exit ?_
        refine awp_seq ?_
        refine awp_seq ?_
        refine awp_region rfl (.n (fun _ => op_fieldAddr Try.underlying25 rfl rfl Try.sizeOf23 (.plain rfl)) (.n (fun _ => op_load Try.isAgg23 (.plain rfl)) (.n (fun _ => op_len (s := 0) Try.underlying23 (.plain rfl)) (.n (fun _ => op_move (.plain rfl)) (.nil _))))) ?_
        refine awp_block ?_
        refine awp_loop (σ := Nat) (fun (i : Nat) => i ≤ W.length ∧ firstE (rowE m W) i = 0) (fun (i : Nat) => ⟨[(1, .pv (.rd [.i (m : Nat), .rows W])), (45, .pv (.rows W)), (46, .int (W.length : Nat)), (47, .int (i : Nat))], []⟩) (fun (i : Nat) => W.length - i) 0 ?_ (Ent.kept ⟨rfl, rfl, rfl, rfl, trivial⟩ trivial) ?_
        · exact ⟨Nat.zero_le _, rfl⟩
        rintro i hp
        try dsimp only at hp
        obtain ⟨hk, hE⟩ := hp
        refine awp_seq ?_
        refine awp_region rfl (.n (fun _ => op_lss (.plain rfl) (.plain rfl)) (.nil _)) ?_
        refine awp_seq ?_
        refine awp_cond rfl (fun h => ?_) (fun h => ?_)
        · try simp only [decide_eq_true_eq, decide_eq_false_iff_not, Bool.and_eq_true, Bool.or_eq_true, Bool.and_eq_false_iff, Bool.or_eq_false_iff, Bool.not_eq_true', Bool.not_eq_false', Bool.not_eq_true, Bool.not_eq_false, Bool.true_eq_false, Bool.false_eq_true] at h
          have hrw : (W.getD i []).length = 2 ^ m := by
            have c := firstE_zero hrl i (by omega)
            unfold rowLenE at c
            split at c
            · omega
            · rename_i d; exact Decidable.not_not.1 d
          refine awp_skip ?_
          refine awp_seq ?_
          refine awp_block ?_
          refine awp_seq ?_
          refine awp_region rfl (.n (fun _ => op_indexAddrN Try.underlying23 Try.sizeOf27 (.plain rfl) (.plain rfl) (fun _ => rfl) ?_) (.n (fun _ => op_load Try.isAgg27 (.plain rfl)) (.n (fun _ => op_assign (.plain rfl)) (.nil _)))) ?_
          · omega
          refine awp_seq ?_
          refine awp_region rfl (.n (fun _ => op_move (.plain rfl)) (.n (fun _ => op_len (s := 0) Try.underlying27 (.plain rfl)) (.n (fun _ => op_move (.plain rfl)) (.nil _)))) ?_
          refine awp_block ?_
          refine awp_loop (σ := Nat) (fun (s : Nat) => s ≤ (W.getD i []).length ∧ firstE (cellE m (W.getD i [])) s = 0) (fun (s : Nat) => ⟨[(1, .pv (.rd [.i (m : Nat), .rows W])), (45, .pv (.rows W)), (46, .int (W.length : Nat)), (47, .int (i : Nat)), (6, .pv (.ints (W.getD i []))), (51, .pv (.ints (W.getD i []))), (52, .int ((W.getD i []).length : Nat)), (53, .int (s : Nat))], []⟩) (fun (s : Nat) => (W.getD i []).length - s) 0 ?_ (Ent.kept ⟨rfl, rfl, rfl, rfl, rfl, rfl, rfl, rfl, trivial⟩ trivial) ?_
          · exact ⟨Nat.zero_le _, rfl⟩
          rintro s hp
          try dsimp only at hp
          obtain ⟨hks, hC⟩ := hp
          refine awp_seq ?_
          refine awp_region rfl (.n (fun _ => op_lss (.plain rfl) (.plain rfl)) (.nil _)) ?_
          refine awp_seq ?_
          refine awp_cond rfl (fun h => ?_) (fun h => ?_)
          · try simp only [decide_eq_true_eq, decide_eq_false_iff_not, Bool.and_eq_true, Bool.or_eq_true, Bool.and_eq_false_iff, Bool.or_eq_false_iff, Bool.not_eq_true', Bool.not_eq_false', Bool.not_eq_true, Bool.not_eq_false, Bool.true_eq_false, Bool.false_eq_true] at h
            refine awp_skip ?_
            refine awp_seq ?_
            refine awp_block ?_
            refine awp_seq ?_
            refine awp_region rfl (.n (fun _ => op_move (.plain rfl)) (.n (fun _ => op_indexAddrN Try.underlying27 Try.sizeOf3 (.plain rfl) (.plain rfl) (fun _ => rfl) ?_) (.n (fun _ => op_load Try.isAgg3 (.plain rfl)) (.n (fun _ => op_assign (.plain rfl)) (.n (fun _ => op_assign (.plain rfl)) (.nil _)))))) ?_
            · omega
            refine awp_seq ?_
            refine awp_seq ?_
            refine awp_region rfl (.n (fun _ => op_move (.plain rfl)) (.n (fun _ => op_lss (.plain rfl) (.plain rfl)) (.n (fun _ => op_move (.plain rfl)) (.gn rfl rfl (fun hg _ => op_move (.plain rfl)) (.gn rfl rfl (fun hg _ => op_gtr (.opt rfl fun h => h) (.plain rfl)) (.n (fun _ => op_or (.plain rfl) (.plain rfl) (.plain rfl) (fun h => eqF h)) (.n (fun _ => op_move (.plain rfl)) (.gn rfl rfl (fun hg _ => op_move (.plain rfl)) (.gn rfl rfl (fun hg _ => op_eql (.opt rfl fun h => h) (.plain rfl)) (.gn rfl rfl (fun hg _ => op_move (.opt rfl fun h => h)) (.ggn rfl rfl (fun hg _ => op_move (.plain rfl)) (.ggn rfl rfl (fun hg _ => op_neq (.opt rfl fun h => h) (.plain rfl)) (.gn rfl rfl (fun hg _ => op_and (.opt rfl fun h => h) (.plain rfl) (.plain rfl) (fun h => andI hg (eqT h))) (.n (fun _ => op_or (.plain rfl) (.plain rfl) (.plain rfl) (fun h => eqF h)) (.nil _))))))))))))))) ?_
            refine awp_cond rfl (fun h => ?_) (fun h => ?_)
            · try simp only [decide_eq_true_eq, decide_eq_false_iff_not, Bool.and_eq_true, Bool.or_eq_true, Bool.and_eq_false_iff, Bool.or_eq_false_iff, Bool.not_eq_true', Bool.not_eq_false', Bool.not_eq_true, Bool.not_eq_false, Bool.true_eq_false, Bool.false_eq_true] at h
              refine awp_seq ?_
              refine awp_region rfl (.n (fun _ => op_assign (.plain rfl)) (.nil _)) ?_
              refine awp_ret ?_
              refine retQ.ret ?_
              refine ret1 rfl rfl rfl ?_
              exact congrArg PV.i (setsE_cell hm4 hn4 hrl hE (by omega) (cellE_val hC (by omega) (by omega)))
            · try simp only [decide_eq_true_eq, decide_eq_false_iff_not, Bool.and_eq_true, Bool.or_eq_true, Bool.and_eq_false_iff, Bool.or_eq_false_iff, Bool.not_eq_true', Bool.not_eq_false', Bool.not_eq_true, Bool.not_eq_false, Bool.true_eq_false, Bool.false_eq_true] at h
              have hcv : ¬ (((W.getD i []).getD s 0 < 0 ∨ 1000 < (W.getD i []).getD s 0) ∨ (s = 0 ∧ (W.getD i []).getD s 0 ≠ 0)) := by omega
              refine awp_skip ?_
              refine awp_seq ?_
              refine awp_region rfl (.n (fun _ => op_fieldAddr Try.underlying25 rfl rfl Try.sizeOf3 (.plain rfl)) (.n (fun _ => op_load Try.isAgg3 (.plain rfl)) (.n (fun _ => op_move (.plain rfl)) (.nil _)))) ?_
              refine awp_block ?_
              refine awp_loop (σ := Nat) (fun (k : Nat) => k ≤ m ∧ firstE (monoE (W.getD i []) s) k = 0) (fun (k : Nat) => ⟨[(1, .pv (.rd [.i (m : Nat), .rows W])), (45, .pv (.rows W)), (46, .int (W.length : Nat)), (47, .int (i : Nat)), (6, .pv (.ints (W.getD i []))), (51, .pv (.ints (W.getD i []))), (52, .int ((W.getD i []).length : Nat)), (53, .int (s : Nat)), (7, .int (s : Nat)), (8, .int ((W.getD i []).getD s 0)), (73, .int (m : Nat)), (74, .int (k : Nat))], []⟩) (fun (k : Nat) => m - k) 0 ?_ (Ent.kept ⟨rfl, rfl, rfl, rfl, rfl, rfl, rfl, rfl, rfl, rfl, rfl, rfl, trivial⟩ trivial) ?_
              · exact ⟨Nat.zero_le _, rfl⟩
              rintro k hp
              try dsimp only at hp
              obtain ⟨hk4, hF⟩ := hp
              have hpk : (1 : Int) * 2 ^ ((k : Nat) : Int).toNat = 2 ^ k := by rw [Int.one_mul, Int.toNat_natCast]
              have hpn := two_pow_nat k
              have hp5 := pow16 (show k ≤ 4 by omega)
              have hle := less_le ((s : Nat) : Int).toNat ((1 : Int) * 2 ^ ((k : Nat) : Int).toNat).toNat
              refine awp_seq ?_
              refine awp_region rfl (.n (fun _ => op_lss (.plain rfl) (.plain rfl)) (.nil _)) ?_
              refine awp_seq ?_
              refine awp_cond rfl (fun h => ?_) (fun h => ?_)
              · try simp only [decide_eq_true_eq, decide_eq_false_iff_not, Bool.and_eq_true, Bool.or_eq_true, Bool.and_eq_false_iff, Bool.or_eq_false_iff, Bool.not_eq_true', Bool.not_eq_false', Bool.not_eq_true, Bool.not_eq_false, Bool.true_eq_false, Bool.false_eq_true] at h
                refine awp_skip ?_
                refine awp_seq ?_
                refine awp_block ?_
                refine awp_seq ?_
                refine awp_region rfl (.n (fun _ => op_move (.plain rfl)) (.n (fun _ => op_assign (.plain rfl)) (.nil _))) ?_
                refine awp_seq ?_
                refine awp_region rfl (.n (fun _ => op_move (.plain rfl)) (.n (fun _ => op_move (.plain rfl)) (.n (fun _ => op_shr (.plain rfl) (.plain rfl) ?_) (.n (fun _ => op_bit (.plain rfl) ?_) (.n (fun _ => op_eql (.plain rfl) (.plain rfl)) (.n (fun _ => op_move (.plain rfl)) (.gn rfl rfl (fun hg _ => op_move (.plain rfl)) (.gn rfl rfl (fun hg _ => op_move (.plain rfl)) (.gn rfl rfl (fun hg _ => op_move (.plain rfl)) (.gn rfl rfl (fun hg _ => op_shl (.plain rfl) (.opt rfl fun h => h) ?_) (.gn rfl rfl (fun hg _ => op_bandNot (.opt rfl fun h => h) (.opt rfl fun h => h) ?_) (.gn rfl rfl (fun hg _ => op_indexAddr Try.underlying27 Try.sizeOf3 (.opt rfl fun h => h) (.opt rfl fun h => h) (fun _ => rfl) ?_) (.gn rfl rfl (fun hg _ => op_load Try.isAgg3 (.opt rfl fun h => h)) (.gn rfl rfl (fun hg _ => op_move (.plain rfl)) (.gn rfl rfl (fun hg _ => op_gtr (.opt rfl fun h => h) (.opt rfl fun h => h)) (.n (fun _ => op_and (.plain rfl) (.plain rfl) (.plain rfl) (fun h => eqT h)) (.nil _))))))))))))))))) ?_
                · omega
                · exact shr_nonneg (by omega) _
                · try simp only [beq_iff_eq, beq_true, beq_false, Bool.and_eq_true, decide_eq_true_eq, decide_eq_false_iff_not, Bool.not_eq_true', Bool.or_eq_true, Bool.or_eq_false_iff] at hg
                  unfold InR; rw [hpk]; omega
                · try simp only [beq_iff_eq, beq_true, beq_false, Bool.and_eq_true, decide_eq_true_eq, decide_eq_false_iff_not, Bool.not_eq_true', Bool.or_eq_true, Bool.or_eq_false_iff] at hg
                  rw [hpk]; omega
                · try simp only [beq_iff_eq, beq_true, beq_false, Bool.and_eq_true, decide_eq_true_eq, decide_eq_false_iff_not, Bool.not_eq_true', Bool.or_eq_true, Bool.or_eq_false_iff] at hg
                  omega
                refine awp_cond rfl (fun h => ?_) (fun h => ?_)
                · try simp only [decide_eq_true_eq, decide_eq_false_iff_not, Bool.and_eq_true, Bool.or_eq_true, Bool.and_eq_false_iff, Bool.or_eq_false_iff, Bool.not_eq_true', Bool.not_eq_false', Bool.not_eq_true, Bool.not_eq_false, Bool.true_eq_false, Bool.false_eq_true] at h
                  have hmy := (mono_less (row := W.getD i []) (show s < 16 by omega) (show k < 4 by omega)).1 h
                  refine awp_seq ?_
                  refine awp_region rfl (.n (fun _ => op_assign (.plain rfl)) (.nil _)) ?_
                  refine awp_ret ?_
                  refine retQ.ret ?_
                  refine ret1 rfl rfl rfl ?_
                  exact congrArg PV.i (setsE_cell hm4 hn4 hrl hE (by omega) (cellE_mono hC (by omega) hcv hF (by omega) hmy))
                · try simp only [decide_eq_true_eq, decide_eq_false_iff_not, Bool.and_eq_true, Bool.or_eq_true, Bool.and_eq_false_iff, Bool.or_eq_false_iff, Bool.not_eq_true', Bool.not_eq_false', Bool.not_eq_true, Bool.not_eq_false, Bool.true_eq_false, Bool.false_eq_true] at h
                  have hmn : monoE (W.getD i []) s k = 0 := mono_not fun c => by have := (mono_less (show s < 16 by omega) (show k < 4 by omega)).2 c; omega
                  refine awp_skip ?_
                  refine awp_region rfl (.n (fun _ => op_add (.plain rfl) (.plain rfl) ?_) (.n (fun _ => op_move (.plain rfl)) (.nil _))) ?_
                  · unfold InR; omega
                  exact ⟨k + 1, ⟨by omega, firstE_succ hF hmn⟩, by dsimp only; omega, (Ent.kept ⟨rfl, rfl, rfl, rfl, rfl, rfl, rfl, rfl, rfl, rfl, rfl, rfl, trivial⟩ trivial)⟩
              · try simp only [decide_eq_true_eq, decide_eq_false_iff_not, Bool.and_eq_true, Bool.or_eq_true, Bool.and_eq_false_iff, Bool.or_eq_false_iff, Bool.not_eq_true', Bool.not_eq_false', Bool.not_eq_true, Bool.not_eq_false, Bool.true_eq_false, Bool.false_eq_true] at h
                refine awp_exit ?_
                refine awp_region rfl (.n (fun _ => op_add (.plain rfl) (.plain rfl) ?_) (.n (fun _ => op_move (.plain rfl)) (.nil _))) ?_
                · unfold InR; omega
                exact ⟨s + 1, ⟨by omega, firstE_succ hC (cellE_ok hcv hF hk4 (by omega))⟩, by dsimp only; omega, (Ent.kept ⟨rfl, rfl, rfl, rfl, rfl, rfl, rfl, rfl, trivial⟩ trivial)⟩
          · try simp only [decide_eq_true_eq, decide_eq_false_iff_not, Bool.and_eq_true, Bool.or_eq_true, Bool.and_eq_false_iff, Bool.or_eq_false_iff, Bool.not_eq_true', Bool.not_eq_false', Bool.not_eq_true, Bool.not_eq_false, Bool.true_eq_false, Bool.false_eq_true] at h
            refine awp_exit ?_
            refine awp_region rfl (.n (fun _ => op_add (.plain rfl) (.plain rfl) ?_) (.n (fun _ => op_move (.plain rfl)) (.nil _))) ?_
            · unfold InR; omega
            obtain rfl : s = (W.getD i []).length := by omega
            exact ⟨i + 1, ⟨by omega, firstE_succ hE hC⟩, by dsimp only; omega, (Ent.kept ⟨rfl, rfl, rfl, rfl, trivial⟩ trivial)⟩
        · try simp only [decide_eq_true_eq, decide_eq_false_iff_not, Bool.and_eq_true, Bool.or_eq_true, Bool.and_eq_false_iff, Bool.or_eq_false_iff, Bool.not_eq_true', Bool.not_eq_false', Bool.not_eq_true, Bool.not_eq_false, Bool.true_eq_false, Bool.false_eq_true] at h
          refine awp_exit ?_
          refine awp_seq ?_
          refine awp_region rfl (.n (fun _ => op_assign (.plain rfl)) (.nil _)) ?_
          refine awp_ret ?_
          refine retQ.ret ?_
          refine ret1 rfl rfl rfl ?_
          exact congrArg PV.i (setsE_ok hm4 hn4 hrl hk hE (by omega))

theorem SetsMay_fc (items : Int) (W : List (List Int)) : FC Try.prog 11 [.agg [.i items, .rows W]] (.i (setsE items W)) := by
  refine FC.intro Try.func11 rfl (Nat.le_of_ble_eq_true rfl) fun hfit => ?_
  have fit0 := hfit _ (.head _)
  refine awp_seq ?_
  refine awp_region rfl (.n (fun _ => op_box (.plain rfl) (by simp)) (.n (fun _ => op_assign (.plain rfl)) (.nil _))) ?_
  refine awp_seq ?_
  refine awp_seq ?_
  refine awp_region rfl (.n (fun _ => op_fieldAddr Try.underlying25 rfl rfl Try.sizeOf3 (.plain rfl)) (.n (fun _ => op_load Try.isAgg3 (.plain rfl)) (.n (fun _ => op_lss (.plain rfl) (.plain rfl)) (.n (fun _ => op_move (.plain rfl)) (.gn rfl rfl (fun hg _ => op_fieldAddr Try.underlying25 rfl rfl Try.sizeOf3 (.plain rfl)) (.gn rfl rfl (fun hg _ => op_load Try.isAgg3 (.opt rfl fun h => h)) (.gn rfl rfl (fun hg _ => op_gtr (.opt rfl fun h => h) (.plain rfl)) (.n (fun _ => op_or (.plain rfl) (.plain rfl) (.plain rfl) (fun h => eqF h)) (.nil _))))))))) ?_
  refine awp_cond rfl (fun h => ?_) (fun h => ?_)
  · try simp only [decide_eq_true_eq, decide_eq_false_iff_not, Bool.and_eq_true, Bool.or_eq_true, Bool.and_eq_false_iff, Bool.or_eq_false_iff, Bool.not_eq_true', Bool.not_eq_false', Bool.not_eq_true, Bool.not_eq_false, Bool.true_eq_false, Bool.false_eq_true] at h
    refine awp_seq ?_
    refine awp_region rfl (.n (fun _ => op_assign (.plain rfl)) (.nil _)) ?_
    refine awp_ret ?_
    refine retQ.ret ?_
    refine ret1 rfl rfl rfl ?_
    exact congrArg PV.i (setsE_items h)
  · try simp only [decide_eq_true_eq, decide_eq_false_iff_not, Bool.and_eq_true, Bool.or_eq_true, Bool.and_eq_false_iff, Bool.or_eq_false_iff, Bool.not_eq_true', Bool.not_eq_false', Bool.not_eq_true, Bool.not_eq_false, Bool.true_eq_false, Bool.false_eq_true] at h
    refine awp_skip ?_
    refine awp_seq ?_
    refine awp_seq ?_
    refine awp_region rfl (.n (fun _ => op_fieldAddr Try.underlying25 rfl rfl Try.sizeOf23 (.plain rfl)) (.n (fun _ => op_load Try.isAgg23 (.plain rfl)) (.n (fun _ => op_len (s := 0) Try.underlying23 (.plain rfl)) (.n (fun _ => op_lss (.plain rfl) (.plain rfl)) (.n (fun _ => op_move (.plain rfl)) (.gn rfl rfl (fun hg _ => op_fieldAddr Try.underlying25 rfl rfl Try.sizeOf23 (.plain rfl)) (.gn rfl rfl (fun hg _ => op_load Try.isAgg23 (.opt rfl fun h => h)) (.gn rfl rfl (fun hg _ => op_len (s := 0) Try.underlying23 (.opt rfl fun h => h)) (.gn rfl rfl (fun hg _ => op_gtr (.opt rfl fun h => h) (.plain rfl)) (.n (fun _ => op_or (.plain rfl) (.plain rfl) (.plain rfl) (fun h => eqF h)) (.nil _))))))))))) ?_
    refine awp_cond rfl (fun h => ?_) (fun h => ?_)
    · try simp only [decide_eq_true_eq, decide_eq_false_iff_not, Bool.and_eq_true, Bool.or_eq_true, Bool.and_eq_false_iff, Bool.or_eq_false_iff, Bool.not_eq_true', Bool.not_eq_false', Bool.not_eq_true, Bool.not_eq_false, Bool.true_eq_false, Bool.false_eq_true] at h
      refine awp_seq ?_
      refine awp_region rfl (.n (fun _ => op_assign (.plain rfl)) (.nil _)) ?_
      refine awp_ret ?_
      refine retQ.ret ?_
      refine ret1 rfl rfl rfl ?_
      exact congrArg PV.i (setsE_count (by omega) h)
    · try simp only [decide_eq_true_eq, decide_eq_false_iff_not, Bool.and_eq_true, Bool.or_eq_true, Bool.and_eq_false_iff, Bool.or_eq_false_iff, Bool.not_eq_true', Bool.not_eq_false', Bool.not_eq_true, Bool.not_eq_false, Bool.true_eq_false, Bool.false_eq_true] at h
      refine awp_skip ?_
      refine awp_seq ?_
      refine awp_seq ?_
      obtain ⟨m, rfl⟩ : ∃ m : Nat, items = m := ⟨items.toNat, by omega⟩
      have hm4 : m ≤ 4 := by omega
      have hn4 : 1 ≤ W.length ∧ W.length ≤ 4 := by omega
      have hp2 : (1 : Int) * 2 ^ ((m : Nat) : Int).toNat = 2 ^ m := by rw [Int.one_mul, Int.toNat_natCast]
      have hp3 := pow16 hm4
      have hp4 := two_pow_nat m
      have hpc : ((2 ^ m : Nat) : Int) = 2 ^ m := by simp
      refine awp_region rfl (.n (fun _ => op_assign (.plain rfl)) (.nil _)) ?_
      refine awp_block ?_
      refine awp_loop (σ := Nat) (fun (i : Nat) => i ≤ W.length ∧ firstE (rowLenE m W) i = 0) (fun (i : Nat) => ⟨[(1, .pv (.rd [.i (m : Nat), .rows W])), (3, .int (i : Nat))], []⟩) (fun (i : Nat) => W.length - i) 0 ?_ (Ent.kept ⟨rfl, rfl, trivial⟩ trivial) ?_
      · exact ⟨Nat.zero_le _, rfl⟩
      rintro i hp
      try dsimp only at hp
      obtain ⟨hk, hE⟩ := hp
      refine awp_seq ?_
      refine awp_seq ?_
      refine awp_region rfl (.n (fun _ => op_move (.plain rfl)) (.n (fun _ => op_fieldAddr Try.underlying25 rfl rfl Try.sizeOf23 (.plain rfl)) (.n (fun _ => op_load Try.isAgg23 (.plain rfl)) (.n (fun _ => op_len (s := 0) Try.underlying23 (.plain rfl)) (.n (fun _ => op_lss (.plain rfl) (.plain rfl)) (.nil _)))))) ?_
      refine awp_cond rfl (fun h => ?_) (fun h => ?_)
      · try simp only [decide_eq_true_eq, decide_eq_false_iff_not, Bool.and_eq_true, Bool.or_eq_true, Bool.and_eq_false_iff, Bool.or_eq_false_iff, Bool.not_eq_true', Bool.not_eq_false', Bool.not_eq_true, Bool.not_eq_false, Bool.true_eq_false, Bool.false_eq_true] at h
        refine awp_skip ?_
        refine awp_seq ?_
        refine awp_block ?_
        refine awp_seq ?_
        refine awp_region_draw mixed rfl (.n (fun _ => op_fieldAddr Try.underlying25 rfl rfl Try.sizeOf23 (.plain rfl)) (.n (fun _ => op_load Try.isAgg23 (.plain rfl)) (.n (fun _ => op_move (.plain rfl)) (.n (fun _ => op_indexAddrN Try.underlying23 Try.sizeOf27 (.plain rfl) (.plain rfl) (fun _ => rfl) ?_) (.n (fun _ => op_load Try.isAgg27 (.plain rfl)) (.n (fun _ => op_len (s := 0) Try.underlying27 (.plain rfl)) (.n (fun _ => op_fieldAddr Try.underlying25 rfl rfl Try.sizeOf3 (.plain rfl)) (.n (fun _ => op_load Try.isAgg3 (.plain rfl)) (.n (fun _ => op_shl (.plain rfl) (.plain rfl) ?_) (.n (fun _ => op_neq (.plain rfl) (.plain rfl)) (.nil _))))))))))) ?d1 ?_
        · omega
        · unfold InR; rw [hp2]; omega
        · kernel_rfl
        refine awp_cond rfl (fun h => ?_) (fun h => ?_)
        · try simp only [decide_eq_true_eq, decide_eq_false_iff_not, Bool.and_eq_true, Bool.or_eq_true, Bool.and_eq_false_iff, Bool.or_eq_false_iff, Bool.not_eq_true', Bool.not_eq_false', Bool.not_eq_true, Bool.not_eq_false, Bool.true_eq_false, Bool.false_eq_true] at h
          rw [hp2] at h
          refine awp_seq ?_
          refine awp_region rfl (.n (fun _ => op_assign (.plain rfl)) (.nil _)) ?_
          refine awp_ret ?_
          refine retQ.ret ?_
          refine ret1 rfl rfl rfl ?_
          exact congrArg PV.i (setsE_len hm4 hn4 hE (by omega) (rowLenE_yes (by omega)))
        · try simp only [decide_eq_true_eq, decide_eq_false_iff_not, Bool.and_eq_true, Bool.or_eq_true, Bool.and_eq_false_iff, Bool.or_eq_false_iff, Bool.not_eq_true', Bool.not_eq_false', Bool.not_eq_true, Bool.not_eq_false, Bool.true_eq_false, Bool.false_eq_true] at h
          rw [hp2] at h
          refine awp_skip ?_
          refine awp_region rfl (.n (fun _ => op_move (.plain rfl)) (.n (fun _ => op_add (.plain rfl) (.plain rfl) ?_) (.n (fun _ => op_assign (.plain rfl)) (.nil _)))) ?_
          · unfold InR; omega
          exact ⟨i + 1, ⟨by omega, firstE_succ hE (rowLenE_no (by omega))⟩, by dsimp only; omega, (Ent.kept ⟨rfl, rfl, trivial⟩ trivial)⟩
      · try simp only [decide_eq_true_eq, decide_eq_false_iff_not, Bool.and_eq_true, Bool.or_eq_true, Bool.and_eq_false_iff, Bool.or_eq_false_iff, Bool.not_eq_true', Bool.not_eq_false', Bool.not_eq_true, Bool.not_eq_false, Bool.true_eq_false, Bool.false_eq_true] at h
        obtain rfl : i = W.length := by omega
        have hrl := hE
        refine awp_exit ?_
        refine awp_seq ?_
        refine awp_seq ?_
        refine awp_region rfl (.n (fun _ => op_assign (.plain rfl)) (.nil _)) ?_
        refine awp_block ?_
        refine awp_loop (σ := Nat) (fun (i : Nat) => i ≤ W.length ∧ firstE (rowE m W) i = 0) (fun (i : Nat) => ⟨[(1, .pv (.rd [.i (m : Nat), .rows W])), (4, .int (i : Nat))], []⟩) (fun (i : Nat) => W.length - i) 0 ?_ (Ent.kept ⟨rfl, rfl, trivial⟩ trivial) ?_
        · exact ⟨Nat.zero_le _, rfl⟩
        rintro i hp
        try dsimp only at hp
        obtain ⟨hk, hE⟩ := hp
        refine awp_seq ?_
        refine awp_seq ?_
        refine awp_region rfl (.n (fun _ => op_move (.plain rfl)) (.n (fun _ => op_fieldAddr Try.underlying25 rfl rfl Try.sizeOf23 (.plain rfl)) (.n (fun _ => op_load Try.isAgg23 (.plain rfl)) (.n (fun _ => op_len (s := 0) Try.underlying23 (.plain rfl)) (.n (fun _ => op_lss (.plain rfl) (.plain rfl)) (.nil _)))))) ?_
        refine awp_cond rfl (fun h => ?_) (fun h => ?_)
        · try simp only [decide_eq_true_eq, decide_eq_false_iff_not, Bool.and_eq_true, Bool.or_eq_true, Bool.and_eq_false_iff, Bool.or_eq_false_iff, Bool.not_eq_true', Bool.not_eq_false', Bool.not_eq_true, Bool.not_eq_false, Bool.true_eq_false, Bool.false_eq_true] at h
          have hrw : (W.getD i []).length = 2 ^ m := by
            have c := firstE_zero hrl i (by omega)
            unfold rowLenE at c
            split at c
            · omega
            · rename_i d; exact Decidable.not_not.1 d
          refine awp_skip ?_
          refine awp_seq ?_
          refine awp_block ?_
          refine awp_seq ?_
          refine awp_region rfl (.n (fun _ => op_fieldAddr Try.underlying25 rfl rfl Try.sizeOf23 (.plain rfl)) (.n (fun _ => op_load Try.isAgg23 (.plain rfl)) (.n (fun _ => op_move (.plain rfl)) (.n (fun _ => op_indexAddrN Try.underlying23 Try.sizeOf27 (.plain rfl) (.plain rfl) (fun _ => rfl) ?_) (.n (fun _ => op_load Try.isAgg27 (.plain rfl)) (.n (fun _ => op_assign (.plain rfl)) (.nil _))))))) ?_
          · omega
          refine awp_seq ?_
          refine awp_region rfl (.n (fun _ => op_assign (.plain rfl)) (.nil _)) ?_
          refine awp_block ?_
          refine awp_loop (σ := Nat) (fun (s : Nat) => s ≤ (W.getD i []).length ∧ firstE (cellE m (W.getD i [])) s = 0) (fun (s : Nat) => ⟨[(1, .pv (.rd [.i (m : Nat), .rows W])), (4, .int (i : Nat)), (5, .pv (.ints (W.getD i []))), (6, .int (s : Nat))], []⟩) (fun (s : Nat) => (W.getD i []).length - s) 0 ?_ (Ent.kept ⟨rfl, rfl, rfl, rfl, trivial⟩ trivial) ?_
          · exact ⟨Nat.zero_le _, rfl⟩
          rintro s hp
          try dsimp only at hp
          obtain ⟨hks, hC⟩ := hp
          refine awp_seq ?_
          refine awp_seq ?_
          refine awp_region rfl (.n (fun _ => op_move (.plain rfl)) (.n (fun _ => op_move (.plain rfl)) (.n (fun _ => op_len (s := 0) Try.underlying27 (.plain rfl)) (.n (fun _ => op_lss (.plain rfl) (.plain rfl)) (.nil _))))) ?_
          refine awp_cond rfl (fun h => ?_) (fun h => ?_)
          · try simp only [decide_eq_true_eq, decide_eq_false_iff_not, Bool.and_eq_true, Bool.or_eq_true, Bool.and_eq_false_iff, Bool.or_eq_false_iff, Bool.not_eq_true', Bool.not_eq_false', Bool.not_eq_true, Bool.not_eq_false, Bool.true_eq_false, Bool.false_eq_true] at h
            refine awp_skip ?_
            refine awp_seq ?_
            refine awp_block ?_
            refine awp_seq ?_
            refine awp_seq ?_
            refine awp_region rfl (.n (fun _ => op_move (.plain rfl)) (.n (fun _ => op_move (.plain rfl)) (.n (fun _ => op_indexAddrN Try.underlying27 Try.sizeOf3 (.plain rfl) (.plain rfl) (fun _ => rfl) ?_) (.n (fun _ => op_load Try.isAgg3 (.plain rfl)) (.n (fun _ => op_lss (.plain rfl) (.plain rfl)) (.n (fun _ => op_move (.plain rfl)) (.gn rfl rfl (fun hg _ => op_move (.plain rfl)) (.gn rfl rfl (fun hg _ => op_move (.plain rfl)) (.gn rfl rfl (fun hg _ => op_indexAddrN Try.underlying27 Try.sizeOf3 (.opt rfl fun h => h) (.opt rfl fun h => h) (fun _ => rfl) ?_) (.gn rfl rfl (fun hg _ => op_load Try.isAgg3 (.opt rfl fun h => h)) (.gn rfl rfl (fun hg _ => op_gtr (.opt rfl fun h => h) (.plain rfl)) (.n (fun _ => op_or (.plain rfl) (.plain rfl) (.plain rfl) (fun h => eqF h)) (.n (fun _ => op_move (.plain rfl)) (.gn rfl rfl (fun hg _ => op_move (.plain rfl)) (.gn rfl rfl (fun hg _ => op_eql (.opt rfl fun h => h) (.plain rfl)) (.gn rfl rfl (fun hg _ => op_move (.opt rfl fun h => h)) (.ggn rfl rfl (fun hg _ => op_move (.plain rfl)) (.ggn rfl rfl (fun hg _ => op_move (.plain rfl)) (.ggn rfl rfl (fun hg _ => op_indexAddrN Try.underlying27 Try.sizeOf3 (.opt rfl fun h => h) (.opt rfl fun h => h) (fun _ => rfl) ?_) (.ggn rfl rfl (fun hg _ => op_load Try.isAgg3 (.opt rfl fun h => h)) (.ggn rfl rfl (fun hg _ => op_neq (.opt rfl fun h => h) (.plain rfl)) (.gn rfl rfl (fun hg _ => op_and (.opt rfl fun h => h) (.plain rfl) (.plain rfl) (fun h => andI hg (eqT h))) (.n (fun _ => op_or (.plain rfl) (.plain rfl) (.plain rfl) (fun h => eqF h)) (.nil _)))))))))))))))))))))))) ?_
            · omega
            · try simp only [beq_iff_eq, beq_true, beq_false, Bool.and_eq_true, decide_eq_true_eq, decide_eq_false_iff_not, Bool.not_eq_true', Bool.or_eq_true, Bool.or_eq_false_iff] at hg
              omega
            · try simp only [beq_iff_eq, beq_true, beq_false, Bool.and_eq_true, decide_eq_true_eq, decide_eq_false_iff_not, Bool.not_eq_true', Bool.or_eq_true, Bool.or_eq_false_iff] at hg
              omega
            refine awp_cond rfl (fun h => ?_) (fun h => ?_)
            · try simp only [decide_eq_true_eq, decide_eq_false_iff_not, Bool.and_eq_true, Bool.or_eq_true, Bool.and_eq_false_iff, Bool.or_eq_false_iff, Bool.not_eq_true', Bool.not_eq_false', Bool.not_eq_true, Bool.not_eq_false, Bool.true_eq_false, Bool.false_eq_true] at h
              refine awp_seq ?_
              refine awp_region rfl (.n (fun _ => op_assign (.plain rfl)) (.nil _)) ?_
              refine awp_ret ?_
              refine retQ.ret ?_
              refine ret1 rfl rfl rfl ?_
              exact congrArg PV.i (setsE_cell hm4 hn4 hrl hE (by omega) (cellE_val hC (by omega) (by omega)))
            · try simp only [decide_eq_true_eq, decide_eq_false_iff_not, Bool.and_eq_true, Bool.or_eq_true, Bool.and_eq_false_iff, Bool.or_eq_false_iff, Bool.not_eq_true', Bool.not_eq_false', Bool.not_eq_true, Bool.not_eq_false, Bool.true_eq_false, Bool.false_eq_true] at h
              have hcv : ¬ (((W.getD i []).getD s 0 < 0 ∨ 1000 < (W.getD i []).getD s 0) ∨ (s = 0 ∧ (W.getD i []).getD s 0 ≠ 0)) := by omega
              refine awp_skip ?_
              refine awp_seq ?_
              refine awp_region rfl (.n (fun _ => op_assign (.plain rfl)) (.nil _)) ?_
              refine awp_block ?_
              refine awp_loop (σ := Nat) (fun (k : Nat) => k ≤ m ∧ firstE (monoE (W.getD i []) s) k = 0) (fun (k : Nat) => ⟨[(1, .pv (.rd [.i (m : Nat), .rows W])), (4, .int (i : Nat)), (5, .pv (.ints (W.getD i []))), (6, .int (s : Nat)), (7, .int (k : Nat))], []⟩) (fun (k : Nat) => m - k) 0 ?_ (Ent.kept ⟨rfl, rfl, rfl, rfl, rfl, trivial⟩ trivial) ?_
              · exact ⟨Nat.zero_le _, rfl⟩
              rintro k hp
              try dsimp only at hp
              obtain ⟨hk4, hF⟩ := hp
              have hpk : (1 : Int) * 2 ^ ((k : Nat) : Int).toNat = 2 ^ k := by rw [Int.one_mul, Int.toNat_natCast]
              have hpn := two_pow_nat k
              have hp5 := pow16 (show k ≤ 4 by omega)
              have hle := less_le ((s : Nat) : Int).toNat ((1 : Int) * 2 ^ ((k : Nat) : Int).toNat).toNat
              refine awp_seq ?_
              refine awp_seq ?_
              refine awp_region rfl (.n (fun _ => op_move (.plain rfl)) (.n (fun _ => op_fieldAddr Try.underlying25 rfl rfl Try.sizeOf3 (.plain rfl)) (.n (fun _ => op_load Try.isAgg3 (.plain rfl)) (.n (fun _ => op_lss (.plain rfl) (.plain rfl)) (.nil _))))) ?_
              refine awp_cond rfl (fun h => ?_) (fun h => ?_)
              · try simp only [decide_eq_true_eq, decide_eq_false_iff_not, Bool.and_eq_true, Bool.or_eq_true, Bool.and_eq_false_iff, Bool.or_eq_false_iff, Bool.not_eq_true', Bool.not_eq_false', Bool.not_eq_true, Bool.not_eq_false, Bool.true_eq_false, Bool.false_eq_true] at h
                refine awp_skip ?_
                refine awp_seq ?_
                refine awp_block ?_
                refine awp_seq ?_
                refine awp_region_draw mixed rfl (.n (fun _ => op_move (.plain rfl)) (.n (fun _ => op_move (.plain rfl)) (.n (fun _ => op_shl (.plain rfl) (.plain rfl) ?_) (.n (fun _ => op_quo (.plain rfl) (.plain rfl) ?_) (.n (fun _ => op_rem (.plain rfl) (.plain rfl) ?_) (.n (fun _ => op_eql (.plain rfl) (.plain rfl)) (.n (fun _ => op_move (.plain rfl)) (.gn rfl rfl (fun hg _ => op_move (.plain rfl)) (.gn rfl rfl (fun hg _ => op_move (.plain rfl)) (.gn rfl rfl (fun hg _ => op_move (.plain rfl)) (.gn rfl rfl (fun hg _ => op_shl (.plain rfl) (.opt rfl fun h => h) ?_) (.gn rfl rfl (fun hg _ => op_sub (.opt rfl fun h => h) (.opt rfl fun h => h) ?_) (.gn rfl rfl (fun hg _ => op_indexAddr Try.underlying27 Try.sizeOf3 (.opt rfl fun h => h) (.opt rfl fun h => h) (fun _ => rfl) ?_) (.gn rfl rfl (fun hg _ => op_load Try.isAgg3 (.opt rfl fun h => h)) (.gn rfl rfl (fun hg _ => op_move (.plain rfl)) (.gn rfl rfl (fun hg _ => op_move (.plain rfl)) (.gn rfl rfl (fun hg _ => op_indexAddrN Try.underlying27 Try.sizeOf3 (.opt rfl fun h => h) (.opt rfl fun h => h) (fun _ => rfl) ?_) (.gn rfl rfl (fun hg _ => op_load Try.isAgg3 (.opt rfl fun h => h)) (.gn rfl rfl (fun hg _ => op_gtr (.opt rfl fun h => h) (.opt rfl fun h => h)) (.n (fun _ => op_and (.plain rfl) (.plain rfl) (.plain rfl) (fun h => eqT h)) (.nil _))))))))))))))))))))) ?d2 ?_
                · unfold InR; rw [hpk]; omega
                · rw [hpk]; omega
                · exact ⟨Int.ediv_nonneg (by omega) (by rw [hpk]; omega), by omega⟩
                · try simp only [beq_iff_eq, beq_true, beq_false, Bool.and_eq_true, decide_eq_true_eq, decide_eq_false_iff_not, Bool.not_eq_true', Bool.or_eq_true, Bool.or_eq_false_iff] at hg
                  unfold InR; rw [hpk]; omega
                · try simp only [beq_iff_eq, beq_true, beq_false, Bool.and_eq_true, decide_eq_true_eq, decide_eq_false_iff_not, Bool.not_eq_true', Bool.or_eq_true, Bool.or_eq_false_iff] at hg
                  unfold InR; rw [hpk]; omega
                · try simp only [beq_iff_eq, beq_true, beq_false, Bool.and_eq_true, decide_eq_true_eq, decide_eq_false_iff_not, Bool.not_eq_true', Bool.or_eq_true, Bool.or_eq_false_iff] at hg
                  rw [hpk] at hg ⊢
                  have hge := ge_of_bit hg
                  have hpkc : ((2 ^ k : Nat) : Int) = 2 ^ k := by simp
                  omega
                · try simp only [beq_iff_eq, beq_true, beq_false, Bool.and_eq_true, decide_eq_true_eq, decide_eq_false_iff_not, Bool.not_eq_true', Bool.or_eq_true, Bool.or_eq_false_iff] at hg
                  omega
                · kernel_rfl
                refine awp_cond rfl (fun h => ?_) (fun h => ?_)
                · try simp only [decide_eq_true_eq, decide_eq_false_iff_not, Bool.and_eq_true, Bool.or_eq_true, Bool.and_eq_false_iff, Bool.or_eq_false_iff, Bool.not_eq_true', Bool.not_eq_false', Bool.not_eq_true, Bool.not_eq_false, Bool.true_eq_false, Bool.false_eq_true] at h
                  have hmy := (mono_sub (row := W.getD i [])).1 h
                  refine awp_seq ?_
                  refine awp_region rfl (.n (fun _ => op_assign (.plain rfl)) (.nil _)) ?_
                  refine awp_ret ?_
                  refine retQ.ret ?_
                  refine ret1 rfl rfl rfl ?_
                  exact congrArg PV.i (setsE_cell hm4 hn4 hrl hE (by omega) (cellE_mono hC (by omega) hcv hF (by omega) hmy))
                · try simp only [decide_eq_true_eq, decide_eq_false_iff_not, Bool.and_eq_true, Bool.or_eq_true, Bool.and_eq_false_iff, Bool.or_eq_false_iff, Bool.not_eq_true', Bool.not_eq_false', Bool.not_eq_true, Bool.not_eq_false, Bool.true_eq_false, Bool.false_eq_true] at h
                  have hmn : monoE (W.getD i []) s k = 0 := mono_not fun c => by have := mono_sub.2 c; omega
                  refine awp_skip ?_
                  refine awp_region rfl (.n (fun _ => op_move (.plain rfl)) (.n (fun _ => op_add (.plain rfl) (.plain rfl) ?_) (.n (fun _ => op_assign (.plain rfl)) (.nil _)))) ?_
                  · unfold InR; omega
                  exact ⟨k + 1, ⟨by omega, firstE_succ hF hmn⟩, by dsimp only; omega, (Ent.kept ⟨rfl, rfl, rfl, rfl, rfl, trivial⟩ trivial)⟩
              · try simp only [decide_eq_true_eq, decide_eq_false_iff_not, Bool.and_eq_true, Bool.or_eq_true, Bool.and_eq_false_iff, Bool.or_eq_false_iff, Bool.not_eq_true', Bool.not_eq_false', Bool.not_eq_true, Bool.not_eq_false, Bool.true_eq_false, Bool.false_eq_true] at h
                refine awp_exit ?_
                refine awp_region rfl (.n (fun _ => op_move (.plain rfl)) (.n (fun _ => op_add (.plain rfl) (.plain rfl) ?_) (.n (fun _ => op_assign (.plain rfl)) (.nil _)))) ?_
                · unfold InR; omega
                exact ⟨s + 1, ⟨by omega, firstE_succ hC (cellE_ok hcv hF hk4 (by omega))⟩, by dsimp only; omega, (Ent.kept ⟨rfl, rfl, rfl, rfl, trivial⟩ trivial)⟩
          · try simp only [decide_eq_true_eq, decide_eq_false_iff_not, Bool.and_eq_true, Bool.or_eq_true, Bool.and_eq_false_iff, Bool.or_eq_false_iff, Bool.not_eq_true', Bool.not_eq_false', Bool.not_eq_true, Bool.not_eq_false, Bool.true_eq_false, Bool.false_eq_true] at h
            refine awp_exit ?_
            refine awp_region rfl (.n (fun _ => op_move (.plain rfl)) (.n (fun _ => op_add (.plain rfl) (.plain rfl) ?_) (.n (fun _ => op_assign (.plain rfl)) (.nil _)))) ?_
            · unfold InR; omega
            obtain rfl : s = (W.getD i []).length := by omega
            exact ⟨i + 1, ⟨by omega, firstE_succ hE hC⟩, by dsimp only; omega, (Ent.kept ⟨rfl, rfl, trivial⟩ trivial)⟩
        · try simp only [decide_eq_true_eq, decide_eq_false_iff_not, Bool.and_eq_true, Bool.or_eq_true, Bool.and_eq_false_iff, Bool.or_eq_false_iff, Bool.not_eq_true', Bool.not_eq_false', Bool.not_eq_true, Bool.not_eq_false, Bool.true_eq_false, Bool.false_eq_true] at h
          refine awp_exit ?_
          refine awp_seq ?_
          refine awp_region rfl (.n (fun _ => op_assign (.plain rfl)) (.nil _)) ?_
          refine awp_ret ?_
          refine retQ.ret ?_
          refine ret1 rfl rfl rfl ?_
          exact congrArg PV.i (setsE_ok hm4 hn4 hrl hk hE (by omega))


theorem drop_cons {a : List Nat} {k : Nat} (h : k < a.length) : a.drop k = a.getD k 0 :: a.drop (k + 1) := by
  rw [List.drop_eq_getElem_cons h]; simp [List.getD_eq_getElem?_getD, h]
theorem lex_step {a b : List Nat} {k : Nat} (h : k < a.length) (h' : k < b.length) (e : a.getD k 0 = b.getD k 0) : lexlt (a.drop k) (b.drop k) = lexlt (a.drop (k + 1)) (b.drop (k + 1)) := by
  rw [drop_cons h, drop_cons h', e]; simp [lexlt]
theorem lex_here {a b : List Nat} {k : Nat} (h : k < a.length) (h' : k < b.length) (e : ¬ a.getD k 0 = b.getD k 0) : lexlt (a.drop k) (b.drop k) = decide (a.getD k 0 < b.getD k 0) := by
  rw [drop_cons h, drop_cons h']; simp only [lexlt, decide_eq_false e, Bool.false_and, Bool.or_false]
theorem lex_end {a b : List Nat} {k : Nat} (h : a.length ≤ k) : lexlt (a.drop k) (b.drop k) = false := by
  rw [List.drop_eq_nil_of_le h]; rfl
theorem dec_cast (a b : Nat) : decide ((a : Int) < b) = decide (a < b) := by
  by_cases h : a < b
  · simp [h]
  · simp [h]

theorem before_fc (a b : List Nat) (hl : a.length = b.length) : FC Try.prog 40 [.ints (toI a), .ints (toI b)] (.bool (lexlt a b)) := by
  refine FC.intro Try.func40 rfl (Nat.le_of_ble_eq_true rfl) fun hfit => ?_
  obtain ⟨fitl0, fitr0⟩ := (hfit _ (.head _)).ints
  obtain ⟨fitl1, fitr1⟩ := (hfit _ (.tail _ (.head _))).ints
  have ha := toI_length a
  have hb := toI_length b
  have hga := toI_getD a
  have hgb := toI_getD b
  refine awp_seq ?_
  refine awp_region rfl (.n (fun _ => op_assign (.plain rfl)) (.nil _)) ?_
  refine awp_seq ?_
  refine awp_seq ?_
  refine awp_region rfl (.n (fun _ => op_assign (.plain rfl)) (.nil _)) ?_
  refine awp_block ?_
  refine awp_loop (σ := Nat) (fun (k : Nat) => k ≤ a.length ∧ lexlt a b = lexlt (a.drop k) (b.drop k)) (fun (k : Nat) => ⟨[(0, .pv (.ints (toI a))), (1, .pv (.ints (toI b))), (5, .int (k : Nat))], []⟩) (fun (k : Nat) => a.length - k) 0 ?_ (Ent.kept ⟨rfl, rfl, rfl, trivial⟩ trivial) ?_
  · exact ⟨Nat.zero_le _, rfl⟩
  rintro k hp
  try dsimp only at hp
  obtain ⟨hk, hx⟩ := hp
  have h1 := hga k
  have h2 := hgb k
  refine awp_seq ?_
  refine awp_seq ?_
  refine awp_region rfl (.n (fun _ => op_move (.plain rfl)) (.n (fun _ => op_move (.plain rfl)) (.n (fun _ => op_len (s := 0) Try.underlying27 (.plain rfl)) (.n (fun _ => op_lss (.plain rfl) (.plain rfl)) (.nil _))))) ?_
  refine awp_cond rfl (fun h => ?_) (fun h => ?_)
  · try simp only [decide_eq_true_eq, decide_eq_false_iff_not, Bool.and_eq_true, Bool.or_eq_true, Bool.and_eq_false_iff, Bool.or_eq_false_iff, Bool.not_eq_true', Bool.not_eq_false', Bool.not_eq_true, Bool.not_eq_false, Bool.true_eq_false, Bool.false_eq_true] at h
    refine awp_skip ?_
    refine awp_seq ?_
    refine awp_block ?_
    refine awp_seq ?_
    refine awp_region_draw mixed rfl (.n (fun _ => op_move (.plain rfl)) (.n (fun _ => op_move (.plain rfl)) (.n (fun _ => op_indexAddrN Try.underlying27 Try.sizeOf3 (.plain rfl) (.plain rfl) (fun _ => rfl) ?_) (.n (fun _ => op_load Try.isAgg3 (.plain rfl)) (.n (fun _ => op_move (.plain rfl)) (.n (fun _ => op_move (.plain rfl)) (.n (fun _ => op_indexAddrN Try.underlying27 Try.sizeOf3 (.plain rfl) (.plain rfl) (fun _ => rfl) ?_) (.n (fun _ => op_load Try.isAgg3 (.plain rfl)) (.n (fun _ => op_neq (.plain rfl) (.plain rfl)) (.nil _)))))))))) ?d3 ?_
    · omega
    · omega
    · kernel_rfl
    refine awp_cond rfl (fun h => ?_) (fun h => ?_)
    · try simp only [decide_eq_true_eq, decide_eq_false_iff_not, Bool.and_eq_true, Bool.or_eq_true, Bool.and_eq_false_iff, Bool.or_eq_false_iff, Bool.not_eq_true', Bool.not_eq_false', Bool.not_eq_true, Bool.not_eq_false, Bool.true_eq_false, Bool.false_eq_true] at h
      refine awp_seq ?_
      refine awp_region_draw mixed rfl (.n (fun _ => op_move (.plain rfl)) (.n (fun _ => op_move (.plain rfl)) (.n (fun _ => op_indexAddrN Try.underlying27 Try.sizeOf3 (.plain rfl) (.plain rfl) (fun _ => rfl) ?_) (.n (fun _ => op_load Try.isAgg3 (.plain rfl)) (.n (fun _ => op_move (.plain rfl)) (.n (fun _ => op_move (.plain rfl)) (.n (fun _ => op_indexAddrN Try.underlying27 Try.sizeOf3 (.plain rfl) (.plain rfl) (fun _ => rfl) ?_) (.n (fun _ => op_load Try.isAgg3 (.plain rfl)) (.n (fun _ => op_lss (.plain rfl) (.plain rfl)) (.n (fun _ => op_assign (.plain rfl)) (.nil _))))))))))) ?d4 ?_
      · omega
      · omega
      · kernel_rfl
      refine awp_ret ?_
      refine retQ.ret ?_
      refine ret1 rfl rfl rfl ?_
      rw [hx, lex_here (by omega) (by omega) (by omega), ← dec_cast, ← h1, ← h2]
    · try simp only [decide_eq_true_eq, decide_eq_false_iff_not, Bool.and_eq_true, Bool.or_eq_true, Bool.and_eq_false_iff, Bool.or_eq_false_iff, Bool.not_eq_true', Bool.not_eq_false', Bool.not_eq_true, Bool.not_eq_false, Bool.true_eq_false, Bool.false_eq_true] at h
      refine awp_skip ?_
      refine awp_region rfl (.n (fun _ => op_move (.plain rfl)) (.n (fun _ => op_add (.plain rfl) (.plain rfl) ?_) (.n (fun _ => op_assign (.plain rfl)) (.nil _)))) ?_
      · unfold InR; omega
      exact ⟨k + 1, ⟨by omega, hx.trans (lex_step (by omega) (by omega) (by omega))⟩, by dsimp only; omega, (Ent.kept ⟨rfl, rfl, rfl, trivial⟩ trivial)⟩
  · try simp only [decide_eq_true_eq, decide_eq_false_iff_not, Bool.and_eq_true, Bool.or_eq_true, Bool.and_eq_false_iff, Bool.or_eq_false_iff, Bool.not_eq_true', Bool.not_eq_false', Bool.not_eq_true, Bool.not_eq_false, Bool.true_eq_false, Bool.false_eq_true] at h
    refine awp_exit ?_
    refine awp_seq ?_
    refine awp_region rfl (.n (fun _ => op_assign (.plain rfl)) (.nil _)) ?_
    refine awp_ret ?_
    refine retQ.ret ?_
    refine ret1 rfl rfl rfl ?_
    rw [hx, lex_end (by omega)]


theorem skip_of {but : Int} {i left k : Nat} (h : ¬ ((less k left : Nat) : Int) = 0 ∨ (((i : Nat) : Int) = but ∧ ¬ ((k : Nat) : Int) = 0)) : skipB but i left k = true := by
  unfold skipB
  simp only [Bool.or_eq_true, Bool.and_eq_true, decide_eq_true_eq]
  omega
theorem skip_not {but : Int} {i left k : Nat} (h : ((less k left : Nat) : Int) = 0 ∧ (¬ ((i : Nat) : Int) = but ∨ ((k : Nat) : Int) = 0)) : skipB but i left k = false := by
  unfold skipB
  simp only [Bool.or_eq_false_iff, Bool.and_eq_false_iff, decide_eq_false_iff_not]
  omega

theorem share_step (m : Nat) (W : List (List Int)) (hok : SetsOk m W) (but : Int) (d left i : Nat) (hi : i + d = W.length) (hlf : left < 2 ^ m) (ih : ∀ e, d = e + 1 → ∀ left', left' < 2 ^ m → FC Try.prog 32 [.agg [.i (m : Nat), .rows W], .i (((i : Nat) : Int) + 1), .i (left' : Nat), .i but] (.tup [.i (shareF W but e left').1, .ints (toI (shareF W but e left').2)])) : FC Try.prog 32 [.agg [.i (m : Nat), .rows W], .i (i : Nat), .i (left : Nat), .i but] (.tup [.i (shareF W but d left).1, .ints (toI (shareF W but d left).2)]) := by
  refine FC.intro Try.func32 rfl (Nat.le_of_ble_eq_true rfl) fun hfit => ?_
  have fit0 := hfit _ (.head _)
  have fit1 : -9223372036854775808 ≤ ((i : Nat) : Int) ∧ ((i : Nat) : Int) ≤ 9223372036854775807 := (hfit _ (.tail _ (.head _))).int64
  have fit2 : -9223372036854775808 ≤ ((left : Nat) : Int) ∧ ((left : Nat) : Int) ≤ 9223372036854775807 := (hfit _ (.tail _ (.tail _ (.head _)))).int64
  have fit3 : -9223372036854775808 ≤ (but : Int) ∧ (but : Int) ≤ 9223372036854775807 := (hfit _ (.tail _ (.tail _ (.tail _ (.head _))))).int64
  have hn4 := hok.n4
  have hm4 := hok.m4
  have h16 : 2 ^ m ≤ 2 ^ 4 := Nat.pow_le_pow_right (by omega) hm4
  refine awp_seq ?_
  refine awp_region rfl (.n (fun _ => op_box (.plain rfl) (by simp)) (.n (fun _ => op_assign (.plain rfl)) (.n (fun _ => op_assign (.plain rfl)) (.nil _)))) ?_
  refine awp_seq ?_
  refine awp_seq ?_
  refine awp_region rfl (.n (fun _ => op_move (.plain rfl)) (.n (fun _ => op_fieldAddr Try.underlying25 rfl rfl Try.sizeOf23 (.plain rfl)) (.n (fun _ => op_load Try.isAgg23 (.plain rfl)) (.n (fun _ => op_len (s := 0) Try.underlying23 (.plain rfl)) (.n (fun _ => op_eql (.plain rfl) (.plain rfl)) (.nil _)))))) ?_
  refine awp_cond rfl (fun h => ?_) (fun h => ?_)
  · try simp only [decide_eq_true_eq, decide_eq_false_iff_not, Bool.and_eq_true, Bool.or_eq_true, Bool.and_eq_false_iff, Bool.or_eq_false_iff, Bool.not_eq_true', Bool.not_eq_false', Bool.not_eq_true, Bool.not_eq_false, Bool.true_eq_false, Bool.false_eq_true] at h
    refine awp_seq ?_
    refine awp_region rfl (.n (fun _ => op_assign (.plain rfl)) (.n (fun _ => op_assign (.plain rfl)) (.nil _))) ?_
    refine awp_ent (Ent.nilseq 9 Int 0 (fun n => [.int .i64 n]) rfl) ?_
    refine awp_ret ?_
    refine retQ.ret ?_
    refine ret2 rfl rfl rfl rfl rfl ?_
    obtain rfl : d = 0 := by omega
    rfl
  · try simp only [decide_eq_true_eq, decide_eq_false_iff_not, Bool.and_eq_true, Bool.or_eq_true, Bool.and_eq_false_iff, Bool.or_eq_false_iff, Bool.not_eq_true', Bool.not_eq_false', Bool.not_eq_true, Bool.not_eq_false, Bool.true_eq_false, Bool.false_eq_true] at h
    obtain ⟨e, rfl⟩ : ∃ e, d = e + 1 := ⟨d - 1, by omega⟩
    have hsh : shareF W but (e + 1) left = shTo W but i (shareF W but e) left (left + 1) := by
      show shTo W but (W.length - (e + 1)) (shareF W but e) left (left + 1) = _
      rw [show W.length - (e + 1) = i by omega]
    have hrow := hok.row i (by omega)
    refine awp_skip ?_
    refine awp_seq ?_
    refine awp_region rfl (.n (fun _ => op_assign (.plain rfl)) (.n (fun _ => op_assign (.plain rfl)) (.nil _))) ?_
    refine awp_seq ?_
    refine awp_seq ?_
    refine awp_region rfl (.n (fun _ => op_move (.plain rfl)) (.n (fun _ => op_add (.plain rfl) (.plain rfl) ?_) (.n (fun _ => op_move (.plain rfl)) (.nil _)))) ?_
    · unfold InR; omega
    refine awp_block ?_
    refine awp_ent (Ent.begin 11 1011 3 1 Int 0 (fun n => [.int .i64 n]) rfl rfl rfl) ?_
    refine awp_loop (σ := Nat) (fun (k : Nat) => k ≤ left + 1) (fun (k : Nat) => ⟨[(4, .pv (.rd [.i (m : Nat), .rows W])), (1, .int (i : Nat)), (2, .int (left : Nat)), (3, .int but), (10, .int (shTo W but i (shareF W but e) left k).1), (11, .own 1011), (21, .int (((left : Nat) : Int) + 1)), (22, .int (k : Nat))], [(1011, .arr 3 1 Int 0 (fun n => [.int .i64 n]) (toI (shTo W but i (shareF W but e) left k).2))]⟩) (fun (k : Nat) => left + 1 - k) 0 ?_ (Ent.kept ⟨rfl, rfl, rfl, rfl, rfl, rfl, rfl, rfl, trivial⟩ ⟨rfl, trivial⟩) ?_
    · simp
    rintro k hp
    try dsimp only at hp
    refine awp_seq ?_
    refine awp_region rfl (.n (fun _ => op_lss (.plain rfl) (.plain rfl)) (.nil _)) ?_
    refine awp_seq ?_
    refine awp_cond rfl (fun h => ?_) (fun h => ?_)
    · try simp only [decide_eq_true_eq, decide_eq_false_iff_not, Bool.and_eq_true, Bool.or_eq_true, Bool.and_eq_false_iff, Bool.or_eq_false_iff, Bool.not_eq_true', Bool.not_eq_false', Bool.not_eq_true, Bool.not_eq_false, Bool.true_eq_false, Bool.false_eq_true] at h
      refine awp_skip ?_
      refine awp_seq ?_
      refine awp_block ?_
      refine awp_seq ?_
      refine awp_region rfl (.n (fun _ => op_move (.plain rfl)) (.n (fun _ => op_assign (.plain rfl)) (.nil _))) ?_
      refine awp_seq ?_
      refine awp_seq ?_
      refine awp_region rfl (.n (fun _ => op_move (.plain rfl)) (.n (fun _ => op_move (.plain rfl)) (.n (fun _ => op_bandNot (.plain rfl) (.plain rfl) ?_) (.n (fun _ => op_neq (.plain rfl) (.plain rfl)) (.n (fun _ => op_move (.plain rfl)) (.gn rfl rfl (fun hg _ => op_move (.plain rfl)) (.gn rfl rfl (fun hg _ => op_move (.plain rfl)) (.gn rfl rfl (fun hg _ => op_eql (.opt rfl fun h => h) (.opt rfl fun h => h)) (.gn rfl rfl (fun hg _ => op_move (.opt rfl fun h => h)) (.ggn rfl rfl (fun hg _ => op_move (.plain rfl)) (.ggn rfl rfl (fun hg _ => op_neq (.opt rfl fun h => h) (.plain rfl)) (.gn rfl rfl (fun hg _ => op_and (.opt rfl fun h => h) (.plain rfl) (.plain rfl) (fun h => andI hg (eqT h))) (.n (fun _ => op_or (.plain rfl) (.plain rfl) (.plain rfl) (fun h => eqF h)) (.nil _)))))))))))))) ?_
      · omega
      refine awp_cond rfl (fun h => ?_) (fun h => ?_)
      · try simp only [decide_eq_true_eq, decide_eq_false_iff_not, Bool.and_eq_true, Bool.or_eq_true, Bool.and_eq_false_iff, Bool.or_eq_false_iff, Bool.not_eq_true', Bool.not_eq_false', Bool.not_eq_true, Bool.not_eq_false, Bool.true_eq_false, Bool.false_eq_true] at h
        have hst := shTo_skip (W := W) (left := left) (k := k) (f := shareF W but e) (skip_of h)
        refine awp_exit ?_
        refine awp_region rfl (.n (fun _ => op_add (.plain rfl) (.plain rfl) ?_) (.n (fun _ => op_move (.plain rfl)) (.nil _))) ?_
        · unfold InR; omega
        exact ⟨k + 1, by omega, by dsimp only; omega, (Ent.kept ⟨rfl, rfl, rfl, rfl, (congrArg (fun n => some (SV.int n)) (by rw [hst] <;> rfl)), rfl, rfl, rfl, trivial⟩ ⟨(congrArg (fun l => some (Blk.arr 3 1 Int 0 (fun n => [.int .i64 n]) l)) (by rw [hst] <;> rfl)), trivial⟩)⟩
      · try simp only [decide_eq_true_eq, decide_eq_false_iff_not, Bool.and_eq_true, Bool.or_eq_true, Bool.and_eq_false_iff, Bool.or_eq_false_iff, Bool.not_eq_true', Bool.not_eq_false', Bool.not_eq_true, Bool.not_eq_false, Bool.true_eq_false, Bool.false_eq_true] at h
        have hsk : skipB but i left k = false := skip_not h
        have hlk := less_le left k
        have hb := share_best hok but e (less left k) (i + 1) (by omega) (by omega)
        have hv : 0 ≤ (W.getD i []).getD k 0 ∧ (W.getD i []).getD k 0 ≤ 1000 := hok.val i (by omega) k (by omega)
        have hln : (toI (shareF W but e (less left k)).2).length ≤ 4 := by
          rw [toI_length]
          have := hb.1.mem.length
          omega
        refine awp_skip ?_
        refine awp_seq ?_
        refine awp_region rfl (.n (fun _ => op_load_agg Try.isAgg25 Try.sizeOf25 (.plain rfl) (Nat.le_of_ble_eq_true rfl)) (.n (fun _ => op_move (.plain rfl)) (.n (fun _ => op_add (.plain rfl) (.plain rfl) ?_) (.n (fun _ => op_move (.plain rfl)) (.n (fun _ => op_move (.plain rfl)) (.n (fun _ => op_bandNot (.plain rfl) (.plain rfl) ?_) (.n (fun _ => op_move (.plain rfl)) (.n (fun _ => op_call4 Try.call32 (.plain rfl) (.plain rfl) (.plain rfl) (.plain rfl) (ih e rfl (less left k) ?_)) (.n (fun _ => op_move (.plain rfl)) (.n (fun _ => op_extract (.plain rfl) rfl) (.n (fun _ => op_extract (.plain rfl) rfl) (.n (fun _ => op_assign (.plain rfl)) (.n (fun _ => op_assign (.plain rfl)) (.nil _)))))))))))))) ?_
        · unfold InR; omega
        · omega
        · omega
        refine awp_seq ?_
        refine awp_region rfl (.n (fun _ => op_move (.plain rfl)) (.n (fun _ => op_fieldAddr Try.underlying25 rfl rfl Try.sizeOf23 (.plain rfl)) (.n (fun _ => op_load Try.isAgg23 (.plain rfl)) (.n (fun _ => op_move (.plain rfl)) (.n (fun _ => op_indexAddrN Try.underlying23 Try.sizeOf27 (.plain rfl) (.plain rfl) (fun _ => rfl) ?_) (.n (fun _ => op_load Try.isAgg27 (.plain rfl)) (.n (fun _ => op_move (.plain rfl)) (.n (fun _ => op_indexAddrN Try.underlying27 Try.sizeOf3 (.plain rfl) (.plain rfl) (fun _ => rfl) ?_) (.n (fun _ => op_load Try.isAgg3 (.plain rfl)) (.n (fun _ => op_add (.plain rfl) (.plain rfl) ?_) (.n (fun _ => op_assign (.plain rfl)) (.nil _)))))))))))) ?_
        · omega
        · omega
        · unfold InR; omega
        refine awp_seq ?_
        refine awp_region rfl (.n (fun _ => op_move (.plain rfl)) (.n (fun _ => op_move (.plain rfl)) (.n (fun _ => op_gtr (.plain rfl) (.plain rfl)) (.nil _)))) ?_
        refine awp_cond rfl (fun h => ?_) (fun h => ?_)
        · try simp only [decide_eq_true_eq, decide_eq_false_iff_not, Bool.and_eq_true, Bool.or_eq_true, Bool.and_eq_false_iff, Bool.or_eq_false_iff, Bool.not_eq_true', Bool.not_eq_false', Bool.not_eq_true, Bool.not_eq_false, Bool.true_eq_false, Bool.false_eq_true] at h
          have hst := shTo_yes hsk h
          refine awp_region rfl (.n (fun _ => op_move (.plain rfl)) (.n (fun _ => op_move (.plain rfl)) (.e (op_slitO (pp := [(0, _)]) (α := Int) (d := 0) (f := (fun n => [.int .i64 n])) 64 [_] ety27 rfl ⟨rfl, (.plain rfl), (by simp), trivial⟩ rfl (by decide) rfl (fun _ => rfl) rfl) rfl (.n (fun _ => op_move (.plain rfl)) (.e (op_append (id' := 66) (α := Int) (d := 0) (f := (fun n => [.int .i64 n])) ety27 Try.underlying27 (fun _ => rfl) (fun _ => rfl) (.plain rfl) rfl (.plain rfl) rfl ?_) rfl (.n (fun _ => op_assign (.plain rfl)) (.n (fun _ => op_assign (.plain rfl)) (.nil _)))))))) ?_
          · first | omega | (simp; omega)
          refine awp_region rfl (.n (fun _ => op_add (.plain rfl) (.plain rfl) ?_) (.n (fun _ => op_move (.plain rfl)) (.nil _))) ?_
          · unfold InR; omega
          exact ⟨k + 1, by omega, by dsimp only; omega, (Ent.round 66 1011 ⟨rfl, rfl, rfl, rfl, (congrArg (fun n => some (SV.int n)) (by rw [hst] <;> rfl)), rfl, rfl, rfl, trivial⟩ ⟨(congrArg (fun l => some (Blk.arr 3 1 Int 0 (fun n => [.int .i64 n]) l)) (by rw [hst] <;> rfl)), trivial⟩ rfl rfl rfl ⟨rfl, rfl, rfl, rfl, rfl, rfl, rfl, rfl, trivial⟩ ⟨rfl, trivial⟩)⟩
        · try simp only [decide_eq_true_eq, decide_eq_false_iff_not, Bool.and_eq_true, Bool.or_eq_true, Bool.and_eq_false_iff, Bool.or_eq_false_iff, Bool.not_eq_true', Bool.not_eq_false', Bool.not_eq_true, Bool.not_eq_false, Bool.true_eq_false, Bool.false_eq_true] at h
          have hst := shTo_no hsk h
          refine awp_skip ?_
          refine awp_region rfl (.n (fun _ => op_add (.plain rfl) (.plain rfl) ?_) (.n (fun _ => op_move (.plain rfl)) (.nil _))) ?_
          · unfold InR; omega
          exact ⟨k + 1, by omega, by dsimp only; omega, (Ent.kept ⟨rfl, rfl, rfl, rfl, (congrArg (fun n => some (SV.int n)) (by rw [hst] <;> rfl)), rfl, rfl, rfl, trivial⟩ ⟨(congrArg (fun l => some (Blk.arr 3 1 Int 0 (fun n => [.int .i64 n]) l)) (by rw [hst] <;> rfl)), trivial⟩)⟩
    · try simp only [decide_eq_true_eq, decide_eq_false_iff_not, Bool.and_eq_true, Bool.or_eq_true, Bool.and_eq_false_iff, Bool.or_eq_false_iff, Bool.not_eq_true', Bool.not_eq_false', Bool.not_eq_true, Bool.not_eq_false, Bool.true_eq_false, Bool.false_eq_true] at h
      obtain rfl : k = left + 1 := by omega
      refine awp_exit ?_
      refine awp_seq ?_
      refine awp_region rfl (.n (fun _ => op_move (.plain rfl)) (.n (fun _ => op_move (.plain rfl)) (.n (fun _ => op_assign (.plain rfl)) (.n (fun _ => op_assign (.plain rfl)) (.nil _))))) ?_
      refine awp_ret ?_
      refine retQ.ret ?_
      refine ret2 rfl rfl rfl rfl rfl ?_
      rw [hsh]


theorem share_fc {m : Nat} {W : List (List Int)} (hok : SetsOk m W) (but : Int) : ∀ (d left i : Nat), i + d = W.length → left < 2 ^ m →
    FC Try.prog 32 [.agg [.i (m : Nat), .rows W], .i (i : Nat), .i (left : Nat), .i but] (.tup [.i (shareF W but d left).1, .ints (toI (shareF W but d left).2)])
  | 0, left, i, hi, hl => share_step m W hok but 0 left i hi hl fun e h => by omega
  | d + 1, left, i, hi, hl => share_step m W hok but (d + 1) left i hi hl fun e h left' hl' => by
    obtain rfl : d = e := by omega
    exact share_fc hok but d left' (i + 1) (by omega) hl'
theorem share_top {m : Nat} {W : List (List Int)} (hok : SetsOk m W) (but : Int) : FC Try.prog 32 [.agg [.i (m : Nat), .rows W], .i 0, .i ((2 ^ m - 1 : Nat) : Int), .i but] (.tup [.i (bestS m W but).1, .ints (toI (bestS m W but).2)]) :=
  share_fc hok but W.length (2 ^ m - 1) 0 (by omega) (by have : 0 < 2 ^ m := Nat.two_pow_pos m; omega)
def payS (m : Nat) (W : List (List Int)) (i : Nat) : Int := (bestS m W (i : Nat)).1 - ((bestS m W (-1)).1 - wAt W i ((bestS m W (-1)).2.getD i 0))
theorem best_len {m : Nat} {W : List (List Int)} (hok : SetsOk m W) (but : Int) : (bestS m W but).2.length = W.length := (bestS_spec hok but).1.mem.length
theorem best_lt {m : Nat} {W : List (List Int)} (hok : SetsOk m W) (but : Int) {i : Nat} (hi : i < W.length) : (bestS m W but).2.getD i 0 < 2 ^ m := by
  have h := (Al_iff.1 (bestS_spec hok but).1.mem)
  have hl := h.len
  have : (bestS m W but).2.getD i 0 ≤ 2 ^ m - 1 := Nat.le_of_testBit fun k hk => h.sub i (by omega) k hk
  have : 0 < 2 ^ m := Nat.two_pow_pos m
  omega

theorem Share_fc (items : Int) (W : List (List Int)) : FC Try.prog 10 [.agg [.i items, .rows W]] (.tup [.agg [.ints (if setsE items W = 0 then toI (bestS items.toNat W (-1)).2 else []), .ints (if setsE items W = 0 then mapr W.length (payS items.toNat W) else [])], .i (setsE items W)]) := by
  refine FC.intro Try.func10 rfl (Nat.le_of_ble_eq_true rfl) fun hfit => ?_
  have fit0 := hfit _ (.head _)
  refine awp_seq ?_
  refine awp_region rfl (.n (fun _ => op_box (.plain rfl) (by simp)) (.e (op_alloc 2 Try.zeroValue29 rfl rfl rfl) rfl (.n (fun _ => op_assign (.plain rfl)) (.nil _)))) ?_
  refine awp_seq ?_
  refine awp_seq ?_
  refine awp_region rfl (.n (fun _ => op_load_agg Try.isAgg25 Try.sizeOf25 (.plain rfl) (Nat.le_of_ble_eq_true rfl)) (.n (fun _ => op_call1 Try.call12 (.plain rfl) (May_fc _ _)) (.n (fun _ => op_assign (.plain rfl)) (.nil _)))) ?_
  refine awp_seq ?_
  refine awp_region rfl (.n (fun _ => op_move (.plain rfl)) (.n (fun _ => op_neq (.plain rfl) (.plain rfl)) (.nil _))) ?_
  refine awp_cond rfl (fun h => ?_) (fun h => ?_)
  · try simp only [decide_eq_true_eq, decide_eq_false_iff_not, Bool.and_eq_true, Bool.or_eq_true, Bool.and_eq_false_iff, Bool.or_eq_false_iff, Bool.not_eq_true', Bool.not_eq_false', Bool.not_eq_true, Bool.not_eq_false, Bool.true_eq_false, Bool.false_eq_true] at h
    simp only [if_neg h]
    refine awp_seq ?_
    refine awp_region rfl (.n (fun _ => op_build (pp := []) (places := #[(0, 1), (1, 1)]) Try.underlying29 Try.zeroValue29 rfl (by intro w; kernel_rfl) trivial rfl) (.n (fun _ => op_move (.plain rfl)) (.e (op_storeRA Try.sizeOf29 (.plain rfl) (.plain rfl) rfl rfl (Nat.le_of_ble_eq_true rfl) rfl) rfl (.n (fun _ => op_assign (.plain rfl)) (.nil _))))) ?_
    refine awp_ent (Ent.beginB 2 0 7000 3 1 Int 0 (fun n => [.int .i64 n]) rfl rfl (by decide) rfl rfl) ?_
    refine awp_ent (Ent.giveB 2 0 7000 rfl rfl rfl) ?_
    refine awp_ent (Ent.beginB 2 1 7001 3 1 Int 0 (fun n => [.int .i64 n]) rfl rfl (by decide) rfl rfl) ?_
    refine awp_ent (Ent.giveB 2 1 7001 rfl rfl rfl) ?_
    refine awp_ret ?_
    refine retQ.ret ?_
    refine retC1 rfl rfl Try.isAgg29 Try.sizeOf29 rfl rfl ?_
    rfl
  · try simp only [decide_eq_true_eq, decide_eq_false_iff_not, Bool.and_eq_true, Bool.or_eq_true, Bool.and_eq_false_iff, Bool.or_eq_false_iff, Bool.not_eq_true', Bool.not_eq_false', Bool.not_eq_true, Bool.not_eq_false, Bool.true_eq_false, Bool.false_eq_true] at h
    simp only [if_pos h]
    obtain ⟨m, rfl⟩ := items_nat h
    have hz := h
    have hok := SetsOk.of h
    have hm4 := hok.m4
    have hn4 := hok.n4
    have hp2 : (1 : Int) * 2 ^ ((m : Nat) : Int).toNat = 2 ^ m := by rw [Int.one_mul, Int.toNat_natCast]
    have hp3 := pow16 hok.m4
    have hp4 := two_pow_nat m
    have hpc : ((2 ^ m : Nat) : Int) = 2 ^ m := by simp
    have hpm : (1 : Int) * 2 ^ ((m : Nat) : Int).toNat - 1 = ((2 ^ m - 1 : Nat) : Int) := by omega
    have hbl := best_len hok (-1)
    have htl := toI_length (bestS m W (-1)).2
    have hb0 := bestS_spec hok (-1)
    refine awp_skip ?_
    refine awp_seq ?_
    refine awp_region rfl (.n (fun _ => op_fieldAddr Try.underlying25 rfl rfl Try.sizeOf3 (.plain rfl)) (.n (fun _ => op_load Try.isAgg3 (.plain rfl)) (.n (fun _ => op_shl (.plain rfl) (.plain rfl) ?_) (.n (fun _ => op_sub (.plain rfl) (.plain rfl) ?_) (.n (fun _ => op_assign (.plain rfl)) (.nil _)))))) ?_
    · unfold InR; rw [hp2]; omega
    · unfold InR; rw [hp2]; omega
    refine awp_seq ?_
    rw [hpm]
    refine awp_region rfl (.n (fun _ => op_load_agg Try.isAgg25 Try.sizeOf25 (.plain rfl) (Nat.le_of_ble_eq_true rfl)) (.n (fun _ => op_move (.plain rfl)) (.n (fun _ => op_call4 Try.call32 (.plain rfl) (.plain rfl) (.plain rfl) (.plain rfl) (share_top hok (-1))) (.n (fun _ => op_move (.plain rfl)) (.n (fun _ => op_extract (.plain rfl) rfl) (.n (fun _ => op_extract (.plain rfl) rfl) (.n (fun _ => op_assign (.plain rfl)) (.n (fun _ => op_assign (.plain rfl)) (.nil _))))))))) ?_
    refine awp_seq ?_
    refine awp_region rfl (.n (fun _ => op_move (.plain rfl)) (.n (fun _ => op_build (pp := [(0, _)]) (places := #[(0, 1), (1, 1)]) Try.underlying29 Try.zeroValue29 rfl (by intro w; kernel_rfl) ⟨rfl, (.plain rfl), (by simp), trivial⟩ rfl) (.e (op_alloc 8 Try.zeroValue29 rfl rfl rfl) rfl (.e (op_storeRA Try.sizeOf29 (.plain rfl) (.plain rfl) rfl rfl (Nat.le_of_ble_eq_true rfl) rfl) rfl (.nil _))))) ?_
    refine awp_seq ?_
    refine awp_seq ?_
    refine awp_region rfl (.n (fun _ => op_fieldAddr Try.underlying25 rfl rfl Try.sizeOf23 (.plain rfl)) (.n (fun _ => op_load Try.isAgg23 (.plain rfl)) (.n (fun _ => op_len (s := 0) Try.underlying23 (.plain rfl)) (.n (fun _ => op_move (.plain rfl)) (.nil _))))) ?_
    refine awp_block ?_
    refine awp_ent (Ent.beginB 8 1 1081 3 1 Int 0 (fun n => [.int .i64 n]) rfl rfl (by decide) rfl rfl) ?_
    refine awp_loop (σ := Nat) (fun (i : Nat) => i ≤ W.length) (fun (i : Nat) => ⟨[(1, .pv (.rd [.i (m : Nat), .rows W])), (2, .ref 2 0), (8, .ref 8 0), (5, .int ((2 ^ m - 1 : Nat) : Int)), (6, .int (bestS m W (-1)).1), (7, .pv (.ints (toI (bestS m W (-1)).2))), (32, .int (W.length : Nat)), (33, .int (i : Nat))], [(2, .box [.pv .nil, .pv .nil]), (8, .box [.pv (.ints (toI (bestS m W (-1)).2)), .own 1081]), (1081, .arr 3 1 Int 0 (fun n => [.int .i64 n]) (mapr i (payS m W)))]⟩) (fun (i : Nat) => W.length - i) 0 ?_ (Ent.kept ⟨rfl, rfl, rfl, rfl, rfl, rfl, rfl, rfl, trivial⟩ ⟨rfl, rfl, rfl, trivial⟩) ?_
    · simp
    rintro i hp
    try dsimp only at hp
    refine awp_seq ?_
    refine awp_region rfl (.n (fun _ => op_lss (.plain rfl) (.plain rfl)) (.nil _)) ?_
    refine awp_seq ?_
    refine awp_cond rfl (fun h => ?_) (fun h => ?_)
    · try simp only [decide_eq_true_eq, decide_eq_false_iff_not, Bool.and_eq_true, Bool.or_eq_true, Bool.and_eq_false_iff, Bool.or_eq_false_iff, Bool.not_eq_true', Bool.not_eq_false', Bool.not_eq_true, Bool.not_eq_false, Bool.true_eq_false, Bool.false_eq_true] at h
      have hgi := toI_getD (bestS m W (-1)).2 i
      have hlt := best_lt hok (-1) (show i < W.length by omega)
      have hrow := hok.row i (by omega)
      have hbi := bestS_spec hok ((i : Nat) : Int)
      have hv : 0 ≤ (W.getD i []).getD ((toI (bestS m W (-1)).2).getD i 0).toNat 0 ∧ (W.getD i []).getD ((toI (bestS m W (-1)).2).getD i 0).toNat 0 ≤ 1000 := by rw [hgi, Int.toNat_natCast]; exact hok.val i (by omega) _ hlt
      refine awp_skip ?_
      refine awp_seq ?_
      refine awp_block ?_
      refine awp_seq ?_
      refine awp_region rfl (.n (fun _ => op_move (.plain rfl)) (.n (fun _ => op_assign (.plain rfl)) (.nil _))) ?_
      refine awp_seq ?_
      refine awp_region rfl (.n (fun _ => op_load_agg Try.isAgg25 Try.sizeOf25 (.plain rfl) (Nat.le_of_ble_eq_true rfl)) (.n (fun _ => op_move (.plain rfl)) (.n (fun _ => op_move (.plain rfl)) (.n (fun _ => op_call4 Try.call32 (.plain rfl) (.plain rfl) (.plain rfl) (.plain rfl) (share_top hok ((i : Nat) : Int))) (.n (fun _ => op_move (.plain rfl)) (.n (fun _ => op_extract (.plain rfl) rfl) (.n (fun _ => op_extract (.plain rfl) rfl) (.n (fun _ => op_assign (.plain rfl)) (.n (fun _ => op_assign (.plain rfl)) (.nil _)))))))))) ?_
      refine awp_region_draw mixed rfl (.n (fun _ => op_fieldAddrR Try.underlying29 rfl rfl Try.sizeOf27 (.plain rfl)) (.r (op_loadR Try.isAgg27 (.plain rfl) rfl rfl) (.n (fun _ => op_move (.plain rfl)) (.n (fun _ => op_move (.plain rfl)) (.n (fun _ => op_fieldAddr Try.underlying25 rfl rfl Try.sizeOf23 (.plain rfl)) (.n (fun _ => op_load Try.isAgg23 (.plain rfl)) (.n (fun _ => op_move (.plain rfl)) (.n (fun _ => op_indexAddrN Try.underlying23 Try.sizeOf27 (.plain rfl) (.plain rfl) (fun _ => rfl) ?_) (.n (fun _ => op_load Try.isAgg27 (.plain rfl)) (.n (fun _ => op_move (.plain rfl)) (.n (fun _ => op_move (.plain rfl)) (.n (fun _ => op_indexAddrN Try.underlying27 Try.sizeOf3 (.plain rfl) (.plain rfl) (fun _ => rfl) ?_) (.n (fun _ => op_load Try.isAgg3 (.plain rfl)) (.n (fun _ => op_indexAddr Try.underlying27 Try.sizeOf3 (.plain rfl) (.plain rfl) (fun _ => rfl) ?_) (.n (fun _ => op_load Try.isAgg3 (.plain rfl)) (.n (fun _ => op_sub (.plain rfl) (.plain rfl) ?_) (.n (fun _ => op_sub (.plain rfl) (.plain rfl) ?_) (.n (fun _ => op_slit (pp := [(0, _)]) (α := Int) (d := 0) (f := (fun n => [.int .i64 n])) [_] ety27 rfl ⟨rfl, (.plain rfl), (by simp), trivial⟩ rfl (by decide) rfl) (.e (op_append (id' := 61) (α := Int) (d := 0) (f := (fun n => [.int .i64 n])) ety27 Try.underlying27 (fun _ => rfl) (fun _ => rfl) (.plain rfl) rfl (.plain rfl) rfl ?_) rfl (.n (fun _ => op_fieldAddrR Try.underlying29 rfl rfl Try.sizeOf27 (.plain rfl)) (.e (op_storeR Try.sizeOf27 (.plain rfl) (.plain rfl) rfl (by first | decide | exact Nat.le_of_ble_eq_true rfl) rfl (by simp) (fun i h => by cases h; exact ⟨_, _, _, _, _, _, rfl⟩)) rfl (.nil _)))))))))))))))))))))) ?d5 ?_
      · omega
      · omega
      · omega
      · unfold InR; omega
      · unfold InR; omega
      · first | omega | (simp; omega)
      · kernel_rfl
      refine awp_region rfl (.n (fun _ => op_add (.plain rfl) (.plain rfl) ?_) (.n (fun _ => op_move (.plain rfl)) (.nil _))) ?_
      · unfold InR; omega
      exact ⟨i + 1, by omega, by dsimp only; omega, (Ent.round 61 1081 ⟨rfl, rfl, rfl, rfl, rfl, rfl, rfl, rfl, trivial⟩ ⟨rfl, rfl, (congrArg (fun l => some (Blk.arr 3 1 Int 0 (fun n => [.int .i64 n]) l)) ((congrArg (fun x => mapr i (payS m W) ++ [x]) (show _ = payS m W i by unfold payS wAt; rw [hgi, Int.toNat_natCast])).trans (mapr_snoc _ _))), trivial⟩ rfl rfl rfl ⟨rfl, rfl, rfl, rfl, rfl, rfl, rfl, rfl, trivial⟩ ⟨rfl, rfl, rfl, trivial⟩)⟩
    · try simp only [decide_eq_true_eq, decide_eq_false_iff_not, Bool.and_eq_true, Bool.or_eq_true, Bool.and_eq_false_iff, Bool.or_eq_false_iff, Bool.not_eq_true', Bool.not_eq_false', Bool.not_eq_true, Bool.not_eq_false, Bool.true_eq_false, Bool.false_eq_true] at h
      refine awp_exit ?_
      refine awp_seq ?_
      refine awp_ent (Ent.giveB 8 1 1081 rfl rfl rfl) ?_
      refine awp_region rfl (.r (op_loadRA Try.isAgg29 Try.sizeOf29 (.plain rfl) rfl (by simp) rfl) (.e (op_storeRA Try.sizeOf29 (.plain rfl) (.plain rfl) rfl rfl (Nat.le_of_ble_eq_true rfl) rfl) rfl (.n (fun _ => op_assign (.plain rfl)) (.nil _)))) ?_
      refine awp_ret ?_
      refine retQ.ret ?_
      refine retC1 rfl rfl Try.isAgg29 Try.sizeOf29 rfl rfl ?_
      obtain rfl : i = W.length := by omega
      rw [hz]
      rfl


theorem FC.nil1 {P : Program} {K : FuncId} {a c : PV} {v : PV} {α : Type} {d : α} {f : α → List PV} (h : FC P K [a, .seq α d f [], c] v) : FC P K [a, .nil, c] v := by
  intro w vs F hF hr
  obtain ⟨x, xs, rfl, hx, hxs⟩ := hr.cons_inv
  obtain ⟨y, ys, rfl, hy, hys⟩ := hxs.cons_inv
  refine h w _ F hF (.cons hx (.cons ?_ hys))
  cases hy
  exact .seq0 α d f none 0 fun _ => rfl
theorem getD_snd_len {n : Nat} {but : Int} {f : Int → Int × List Nat} (hf : ∀ i, (f i).2.length = n) : ∀ j, (gvTo but f j).1 = -1 ∨ (gvTo but f j).2.length = n
  | 0 => .inl rfl
  | j + 1 => by
    unfold gvTo
    split
    · exact getD_snd_len hf j
    · split
      · exact .inr (hf _)
      · exact getD_snd_len hf j
theorem valF_sum (W : List (List Int)) : ∀ (S : List Nat) (i : Nat), valF W i S = sumTo (fun j => wAt W (i + j) (S.getD j 0)) S.length
  | [], i => rfl
  | s :: r, i => by
    have front : ∀ (f : Nat → Int) n, sumTo f (n + 1) = f 0 + sumTo (fun j => f (j + 1)) n := by
      intro f n
      induction n with
      | zero => simp [sumTo]
      | succ n ih => rw [sumTo, ih]; simp only [sumTo]; omega
    rw [valF, valF_sum W r (i + 1), List.length_cons, front]
    congr 1
    exact sumTo_same fun j _ => by rw [show i + 1 + j = i + (j + 1) by omega]; rfl
def bsL (n : Nat) (who : List Int) (k : Nat) : List Int := mapr n fun i => ((bsTo (ownB who i) k : Nat) : Int)
theorem bsL_length (n : Nat) (who : List Int) (k : Nat) : (bsL n who k).length = n := mapr_length _ _
theorem bsL_getD {n : Nat} {who : List Int} {k i : Nat} (h : i < n) : (bsL n who k).getD i 0 = ((bsTo (ownB who i) k : Nat) : Int) := mapr_getD _ h
theorem bsL_yes {n : Nat} {who : List Int} {k : Nat} (h : 0 ≤ who.getD k 0) (hn : who.getD k 0 < n) :
    (bsL n who k).set (who.getD k 0).toNat ((bsL n who k).getD (who.getD k 0).toNat 0 + 1 * 2 ^ ((k : Nat) : Int).toNat) = bsL n who (k + 1) := by
  rw [bsL_getD (by omega)]
  refine mapr_set (fun _ => ?_) fun j hj hne => ?_
  · have : ownB who (who.getD k 0).toNat k = true := decide_eq_true (by omega)
    simp only [bsTo, this, if_true, Int.one_mul, Int.toNat_natCast]
    simp
  · have : ownB who j k = false := decide_eq_false (by omega)
    simp [bsTo, this]
theorem bsL_no {n : Nat} {who : List Int} {k : Nat} (h : ¬ 0 ≤ who.getD k 0) : bsL n who k = bsL n who (k + 1) := mapr_same fun j hj => by
  have : ownB who j k = false := decide_eq_false (by omega)
  simp [bsTo, this]
theorem bsL_all (n : Nat) (who : List Int) : bsL n who who.length = toI (setsOf n who) := by
  unfold bsL toI setsOf mapr
  rw [List.map_map]
  rfl
theorem bsL_zero (n : Nat) (who : List Int) : List.replicate n (0 : Int) = bsL n who 0 := by rw [replicate_mapr]; rfl
theorem WhoOk.snoc {n : Nat} {but : Int} {who : List Int} {i : Int} (h : WhoOk n but who) (hi : -1 ≤ i ∧ i < n) (hne : 0 ≤ i → i ≠ but) : WhoOk n but (who ++ [i]) := by
  have e1 : ∀ k, k < who.length → (who ++ [i]).getD k 0 = who.getD k 0 := fun k c => by
    rw [List.getD_eq_getElem?_getD, List.getD_eq_getElem?_getD, List.getElem?_append_left c]
  have e2 : (who ++ [i]).getD who.length 0 = i := by simp [List.getD_eq_getElem?_getD]
  refine ⟨fun k hk => ?_, fun k hk => ?_⟩ <;> rw [List.length_append, List.length_singleton] at hk <;> rcases Nat.lt_or_ge k who.length with c | c
  · rw [e1 k c]; exact h.bd k c
  · rw [show k = who.length by omega, e2]; exact hi
  · rw [e1 k c]; exact h.ne k c
  · rw [show k = who.length by omega, e2]; exact hne
theorem setsOf_lt {n : Nat} {who : List Int} {i : Nat} (h : i < n) : (setsOf n who).getD i 0 < 2 ^ who.length := by
  unfold setsOf
  rw [mapr_getD _ h]
  exact bsTo_lt _ _

theorem Given_step (m : Nat) (W : List (List Int)) (hok : SetsOk m W) (but : Int) (d : Nat) (who : List Int) (hl : who.length + d = m) (hw : WhoOk W.length but who) (ih : ∀ e, d = e + 1 → ∀ i : Int, WhoOk W.length but (who ++ [i]) → FC Try.prog 29 [.agg [.i (m : Nat), .rows W], .ints (who ++ [i]), .i but] (.tup [.ints (toI (givenF W but e (who ++ [i])).2), .i (givenF W but e (who ++ [i])).1])) : FC Try.prog 29 [.agg [.i (m : Nat), .rows W], .ints who, .i but] (.tup [.ints (toI (givenF W but d who).2), .i (givenF W but d who).1]) := by
  refine FC.intro Try.func29 rfl (Nat.le_of_ble_eq_true rfl) fun hfit => ?_
  have fit0 := hfit _ (.head _)
  obtain ⟨fitl1, fitr1⟩ := (hfit _ (.tail _ (.head _))).ints
  have fit2 : -9223372036854775808 ≤ (but : Int) ∧ (but : Int) ≤ 9223372036854775807 := (hfit _ (.tail _ (.tail _ (.head _)))).int64
  have hn4 := hok.n4
  have hm4 := hok.m4
  have h16 : 2 ^ m ≤ 2 ^ 4 := Nat.pow_le_pow_right (by omega) hm4
  refine awp_seq ?_
  refine awp_region rfl (.n (fun _ => op_box (.plain rfl) (by simp)) (.n (fun _ => op_assign (.plain rfl)) (.n (fun _ => op_assign (.plain rfl)) (.nil _)))) ?_
  refine awp_seq ?_
  refine awp_seq ?_
  refine awp_region rfl (.n (fun _ => op_move (.plain rfl)) (.n (fun _ => op_len (s := 0) Try.underlying27 (.plain rfl)) (.n (fun _ => op_fieldAddr Try.underlying25 rfl rfl Try.sizeOf3 (.plain rfl)) (.n (fun _ => op_load Try.isAgg3 (.plain rfl)) (.n (fun _ => op_eql (.plain rfl) (.plain rfl)) (.nil _)))))) ?_
  refine awp_cond rfl (fun h => ?_) (fun h => ?_)
  · try simp only [decide_eq_true_eq, decide_eq_false_iff_not, Bool.and_eq_true, Bool.or_eq_true, Bool.and_eq_false_iff, Bool.or_eq_false_iff, Bool.not_eq_true', Bool.not_eq_false', Bool.not_eq_true, Bool.not_eq_false, Bool.true_eq_false, Bool.false_eq_true] at h
    obtain rfl : d = 0 := by omega
    have hwl : who.length = m := by omega
    refine awp_seq ?_
    refine awp_region rfl (.n (fun _ => op_fieldAddr Try.underlying25 rfl rfl Try.sizeOf23 (.plain rfl)) (.n (fun _ => op_load Try.isAgg23 (.plain rfl)) (.n (fun _ => op_len (s := 0) Try.underlying23 (.plain rfl)) (.e (op_make (α := Int) (d := 0) (f := (fun n => [.int .i64 n])) 25 0 ety27 (.plain rfl) (.plain rfl) (fun _ => rfl) rfl rfl ?_) rfl (.n (fun _ => op_assign (.plain rfl)) (.nil _)))))) ?_
    · omega
    refine awp_seq ?_
    refine awp_seq ?_
    refine awp_region rfl (.n (fun _ => op_assign (.plain rfl)) (.nil _)) ?_
    refine awp_block ?_
    refine awp_ent (Ent.ren 25 1008 rfl rfl rfl) ?_
    refine awp_loop (σ := Nat) (fun (k : Nat) => k ≤ who.length) (fun (k : Nat) => ⟨[(3, .pv (.rd [.i (m : Nat), .rows W])), (1, .pv (.ints who)), (2, .int but), (8, .own 1008), (9, .int (k : Nat))], [(1008, .arr 3 1 Int 0 (fun n => [.int .i64 n]) (bsL W.length who k))]⟩) (fun (k : Nat) => who.length - k) 0 ?_ (Ent.kept ⟨rfl, rfl, rfl, rfl, rfl, trivial⟩ ⟨(congrArg (fun l => some (Blk.arr 3 1 Int 0 (fun n => [.int .i64 n]) l)) (bsL_zero _ _)), trivial⟩) ?_
    · simp
    rintro k hp
    try dsimp only at hp
    have hbl := bsL_length W.length who k
    refine awp_seq ?_
    refine awp_seq ?_
    refine awp_region rfl (.n (fun _ => op_move (.plain rfl)) (.n (fun _ => op_move (.plain rfl)) (.n (fun _ => op_len (s := 0) Try.underlying27 (.plain rfl)) (.n (fun _ => op_lss (.plain rfl) (.plain rfl)) (.nil _))))) ?_
    refine awp_cond rfl (fun h => ?_) (fun h => ?_)
    · try simp only [decide_eq_true_eq, decide_eq_false_iff_not, Bool.and_eq_true, Bool.or_eq_true, Bool.and_eq_false_iff, Bool.or_eq_false_iff, Bool.not_eq_true', Bool.not_eq_false', Bool.not_eq_true, Bool.not_eq_false, Bool.true_eq_false, Bool.false_eq_true] at h
      have hwb := hw.bd k (by omega)
      refine awp_skip ?_
      refine awp_seq ?_
      refine awp_block ?_
      refine awp_seq ?_
      refine awp_region rfl (.n (fun _ => op_move (.plain rfl)) (.n (fun _ => op_move (.plain rfl)) (.n (fun _ => op_indexAddrN Try.underlying27 Try.sizeOf3 (.plain rfl) (.plain rfl) (fun _ => rfl) ?_) (.n (fun _ => op_load Try.isAgg3 (.plain rfl)) (.n (fun _ => op_geq (.plain rfl) (.plain rfl)) (.nil _)))))) ?_
      · omega
      refine awp_cond rfl (fun h => ?_) (fun h => ?_)
      · try simp only [decide_eq_true_eq, decide_eq_false_iff_not, Bool.and_eq_true, Bool.or_eq_true, Bool.and_eq_false_iff, Bool.or_eq_false_iff, Bool.not_eq_true', Bool.not_eq_false', Bool.not_eq_true, Bool.not_eq_false, Bool.true_eq_false, Bool.false_eq_true] at h
        have hbk := bsL_yes (n := W.length) h hwb.2
        have hg0 : 0 ≤ (bsL W.length who k).getD (who.getD k 0).toNat 0 ∧ (bsL W.length who k).getD (who.getD k 0).toNat 0 ≤ 16 := by
          rw [bsL_getD (by omega)]
          have h1 := bsTo_lt (ownB who (who.getD k 0).toNat) k
          have h2 : 2 ^ k ≤ 2 ^ 4 := Nat.pow_le_pow_right (by omega) (by omega)
          omega
        have hpk : (1 : Int) * 2 ^ ((k : Nat) : Int).toNat = 2 ^ k := by rw [Int.one_mul, Int.toNat_natCast]
        have hpn := two_pow_nat k
        have hp5 := pow16 (show k ≤ 4 by omega)
        refine awp_region_draw mixed rfl (.n (fun _ => op_move (.plain rfl)) (.n (fun _ => op_move (.plain rfl)) (.n (fun _ => op_move (.plain rfl)) (.n (fun _ => op_indexAddrN Try.underlying27 Try.sizeOf3 (.plain rfl) (.plain rfl) (fun _ => rfl) ?_) (.n (fun _ => op_load Try.isAgg3 (.plain rfl)) (.n (fun _ => op_move (.plain rfl)) (.n (fun _ => op_move (.plain rfl)) (.n (fun _ => op_move (.plain rfl)) (.n (fun _ => op_indexAddrN Try.underlying27 Try.sizeOf3 (.plain rfl) (.plain rfl) (fun _ => rfl) ?_) (.n (fun _ => op_load Try.isAgg3 (.plain rfl)) (.r (op_indexAddrO Try.underlying27 Try.sizeOf3 (.plain rfl) rfl (.plain rfl) ?_) (.r (op_loadE Try.isAgg3 (.plain rfl) rfl (fun _ => rfl) ?_ rfl) (.n (fun _ => op_move (.plain rfl)) (.n (fun _ => op_shl (.plain rfl) (.plain rfl) ?_) (.n (fun _ => op_add (.plain rfl) (.plain rfl) ?_) (.r (op_indexAddrO Try.underlying27 Try.sizeOf3 (.plain rfl) rfl (.plain rfl) ?_) (.e (op_storeE _ Try.sizeOf3 (.plain rfl) (.plain rfl) rfl (fun _ => rfl) ?_ (by decide) rfl rfl) rfl (.nil _)))))))))))))))))) ?d6 ?_
        · omega
        · omega
        · rw [bsL_length]; omega
        · first | omega | (simp; omega)
        · unfold InR; rw [hpk]; omega
        · unfold InR; rw [hpk]; omega
        · rw [bsL_length]; omega
        · first | omega | (simp; omega)
        · kernel_rfl
        refine awp_region rfl (.n (fun _ => op_move (.plain rfl)) (.n (fun _ => op_add (.plain rfl) (.plain rfl) ?_) (.n (fun _ => op_assign (.plain rfl)) (.nil _)))) ?_
        · unfold InR; omega
        exact ⟨k + 1, by omega, by dsimp only; omega, (Ent.kept ⟨rfl, rfl, rfl, rfl, rfl, trivial⟩ ⟨(congrArg (fun l => some (Blk.arr 3 1 Int 0 (fun n => [.int .i64 n]) l)) (hbk)), trivial⟩)⟩
      · try simp only [decide_eq_true_eq, decide_eq_false_iff_not, Bool.and_eq_true, Bool.or_eq_true, Bool.and_eq_false_iff, Bool.or_eq_false_iff, Bool.not_eq_true', Bool.not_eq_false', Bool.not_eq_true, Bool.not_eq_false, Bool.true_eq_false, Bool.false_eq_true] at h
        have hbk := bsL_no (n := W.length) h
        refine awp_skip ?_
        refine awp_region rfl (.n (fun _ => op_move (.plain rfl)) (.n (fun _ => op_add (.plain rfl) (.plain rfl) ?_) (.n (fun _ => op_assign (.plain rfl)) (.nil _)))) ?_
        · unfold InR; omega
        exact ⟨k + 1, by omega, by dsimp only; omega, (Ent.kept ⟨rfl, rfl, rfl, rfl, rfl, trivial⟩ ⟨(congrArg (fun l => some (Blk.arr 3 1 Int 0 (fun n => [.int .i64 n]) l)) (hbk)), trivial⟩)⟩
    · try simp only [decide_eq_true_eq, decide_eq_false_iff_not, Bool.and_eq_true, Bool.or_eq_true, Bool.and_eq_false_iff, Bool.or_eq_false_iff, Bool.not_eq_true', Bool.not_eq_false', Bool.not_eq_true, Bool.not_eq_false, Bool.true_eq_false, Bool.false_eq_true] at h
      obtain rfl : k = who.length := by omega
      rw [bsL_all]
      refine awp_exit ?_
      refine awp_seq ?_
      refine awp_region rfl (.n (fun _ => op_assign (.plain rfl)) (.nil _)) ?_
      refine awp_seq ?_
      refine awp_seq ?_
      refine awp_region rfl (.n (fun _ => op_assign (.plain rfl)) (.nil _)) ?_
      refine awp_block ?_
      refine awp_loop (σ := Nat) (fun (i : Nat) => i ≤ W.length) (fun (i : Nat) => ⟨[(3, .pv (.rd [.i (m : Nat), .rows W])), (8, .own 1008), (10, .int (sumTo (fun j => wAt W j ((setsOf W.length who).getD j 0)) i)), (11, .int (i : Nat))], [(1008, .arr 3 1 Int 0 (fun n => [.int .i64 n]) (toI (setsOf W.length who)))]⟩) (fun (i : Nat) => W.length - i) 0 ?_ (Ent.kept ⟨rfl, rfl, rfl, rfl, trivial⟩ ⟨rfl, trivial⟩) ?_
      · simp
      rintro i hp
      try dsimp only at hp
      have hsl : (toI (setsOf W.length who)).length = W.length := by rw [toI_length, setsOf_length]
      refine awp_seq ?_
      refine awp_seq ?_
      refine awp_region rfl (.n (fun _ => op_move (.plain rfl)) (.n (fun _ => op_move (.plain rfl)) (.r (op_lenO Try.underlying27 (.plain rfl) rfl) (.n (fun _ => op_lss (.plain rfl) (.plain rfl)) (.nil _))))) ?_
      refine awp_cond rfl (fun h => ?_) (fun h => ?_)
      · try simp only [decide_eq_true_eq, decide_eq_false_iff_not, Bool.and_eq_true, Bool.or_eq_true, Bool.and_eq_false_iff, Bool.or_eq_false_iff, Bool.not_eq_true', Bool.not_eq_false', Bool.not_eq_true, Bool.not_eq_false, Bool.true_eq_false, Bool.false_eq_true] at h
        have hgi := toI_getD (setsOf W.length who) i
        have hlt := setsOf_lt (who := who) (show i < W.length by omega)
        rw [hwl] at hlt
        have hrow := hok.row i (by omega)
        have hv : 0 ≤ (W.getD i []).getD ((toI (setsOf W.length who)).getD i 0).toNat 0 ∧ (W.getD i []).getD ((toI (setsOf W.length who)).getD i 0).toNat 0 ≤ 1000 := by rw [hgi, Int.toNat_natCast]; exact hok.val i (by omega) _ hlt
        have hsb := sumTo_bd (n := i) (f := fun j => wAt W j ((setsOf W.length who).getD j 0)) (A := 0) (B := 1000) fun j hj => hok.val j (by omega) _ (by rw [← hwl]; exact setsOf_lt (by omega))
        refine awp_skip ?_
        refine awp_seq ?_
        refine awp_block ?_
        refine awp_region_draw mixed rfl (.n (fun _ => op_move (.plain rfl)) (.n (fun _ => op_fieldAddr Try.underlying25 rfl rfl Try.sizeOf23 (.plain rfl)) (.n (fun _ => op_load Try.isAgg23 (.plain rfl)) (.n (fun _ => op_move (.plain rfl)) (.n (fun _ => op_indexAddrN Try.underlying23 Try.sizeOf27 (.plain rfl) (.plain rfl) (fun _ => rfl) ?_) (.n (fun _ => op_load Try.isAgg27 (.plain rfl)) (.n (fun _ => op_move (.plain rfl)) (.n (fun _ => op_move (.plain rfl)) (.r (op_indexAddrON Try.underlying27 Try.sizeOf3 (.plain rfl) rfl (.plain rfl) ?_) (.r (op_loadE Try.isAgg3 (.plain rfl) rfl (fun _ => rfl) ?_ rfl) (.n (fun _ => op_indexAddr Try.underlying27 Try.sizeOf3 (.plain rfl) (.plain rfl) (fun _ => rfl) ?_) (.n (fun _ => op_load Try.isAgg3 (.plain rfl)) (.n (fun _ => op_add (.plain rfl) (.plain rfl) ?_) (.n (fun _ => op_assign (.plain rfl)) (.nil _))))))))))))))) ?d7 ?_
        · omega
        · rw [toI_length, setsOf_length]; omega
        · first | omega | (simp; omega)
        · omega
        · unfold InR; omega
        · kernel_rfl
        refine awp_region rfl (.n (fun _ => op_move (.plain rfl)) (.n (fun _ => op_add (.plain rfl) (.plain rfl) ?_) (.n (fun _ => op_assign (.plain rfl)) (.nil _)))) ?_
        · unfold InR; omega
        exact ⟨i + 1, by omega, by dsimp only; omega, (Ent.kept ⟨rfl, rfl, (congrArg (fun n => some (SV.int n)) (by rw [hgi, Int.toNat_natCast]; rfl)), rfl, trivial⟩ ⟨rfl, trivial⟩)⟩
      · try simp only [decide_eq_true_eq, decide_eq_false_iff_not, Bool.and_eq_true, Bool.or_eq_true, Bool.and_eq_false_iff, Bool.or_eq_false_iff, Bool.not_eq_true', Bool.not_eq_false', Bool.not_eq_true, Bool.not_eq_false, Bool.true_eq_false, Bool.false_eq_true] at h
        refine awp_exit ?_
        refine awp_seq ?_
        refine awp_region rfl (.n (fun _ => op_move (.plain rfl)) (.n (fun _ => op_move (.plain rfl)) (.n (fun _ => op_assign (.plain rfl)) (.n (fun _ => op_assign (.plain rfl)) (.nil _))))) ?_
        refine awp_ret ?_
        refine retQ.ret ?_
        refine ret2 rfl rfl rfl rfl rfl ?_
        obtain rfl : i = W.length := by omega
        show _ = PV.tup [PV.ints (toI (setsOf W.length who)), PV.i (valF W 0 (setsOf W.length who))]
        rw [valF_sum, setsOf_length]
        simp only [Nat.zero_add]
  · try simp only [decide_eq_true_eq, decide_eq_false_iff_not, Bool.and_eq_true, Bool.or_eq_true, Bool.and_eq_false_iff, Bool.or_eq_false_iff, Bool.not_eq_true', Bool.not_eq_false', Bool.not_eq_true, Bool.not_eq_false, Bool.true_eq_false, Bool.false_eq_true] at h
    obtain ⟨e, rfl⟩ : ∃ e, d = e + 1 := ⟨d - 1, by omega⟩
    have hfl : ∀ i : Int, (givenF W but e (who ++ [i])).2.length = W.length := fun i => (given_best hok but e (who ++ [i]) (by simp; omega)).1.mem.length
    have hgl := getD_snd_len (but := but) hfl
    refine awp_skip ?_
    refine awp_seq ?_
    refine awp_region rfl (.n (fun _ => op_assign (.plain rfl)) (.nil _)) ?_
    refine awp_seq ?_
    refine awp_ent (Ent.nilseq 12 Int 0 (fun n => [.int .i64 n]) rfl) ?_
    refine awp_region rfl (.n (fun _ => op_assign (.plain rfl)) (.nil _)) ?_
    refine awp_seq ?_
    refine awp_seq ?_
    refine awp_region rfl (.n (fun _ => op_assign (.plain rfl)) (.nil _)) ?_
    refine awp_block ?_
    refine awp_loop (σ := Nat) (fun (j : Nat) => j ≤ W.length + 1) (fun (j : Nat) => ⟨[(3, .pv (.rd [.i (m : Nat), .rows W])), (1, .pv (.ints who)), (2, .int but), (12, .pv (.ints (toI (gvTo but (fun i => givenF W but e (who ++ [i])) j).2))), (13, .int (gvTo but (fun i => givenF W but e (who ++ [i])) j).1), (14, .int (((j : Nat) : Int) - 1))], []⟩) (fun (j : Nat) => W.length + 1 - j) 0 ?_ (Ent.kept ⟨rfl, rfl, rfl, rfl, rfl, (congrArg (fun n => some (SV.int n)) (by omega)), trivial⟩ trivial) ?_
    · simp
    rintro j hp
    try dsimp only at hp
    refine awp_seq ?_
    refine awp_seq ?_
    refine awp_region rfl (.n (fun _ => op_move (.plain rfl)) (.n (fun _ => op_fieldAddr Try.underlying25 rfl rfl Try.sizeOf23 (.plain rfl)) (.n (fun _ => op_load Try.isAgg23 (.plain rfl)) (.n (fun _ => op_len (s := 0) Try.underlying23 (.plain rfl)) (.n (fun _ => op_lss (.plain rfl) (.plain rfl)) (.nil _)))))) ?_
    refine awp_cond rfl (fun h => ?_) (fun h => ?_)
    · try simp only [decide_eq_true_eq, decide_eq_false_iff_not, Bool.and_eq_true, Bool.or_eq_true, Bool.and_eq_false_iff, Bool.or_eq_false_iff, Bool.not_eq_true', Bool.not_eq_false', Bool.not_eq_true, Bool.not_eq_false, Bool.true_eq_false, Bool.false_eq_true] at h
      refine awp_skip ?_
      refine awp_seq ?_
      refine awp_block ?_
      refine awp_seq ?_
      refine awp_seq ?_
      refine awp_region rfl (.n (fun _ => op_move (.plain rfl)) (.n (fun _ => op_geq (.plain rfl) (.plain rfl)) (.n (fun _ => op_move (.plain rfl)) (.gn rfl rfl (fun hg _ => op_move (.plain rfl)) (.gn rfl rfl (fun hg _ => op_move (.plain rfl)) (.gn rfl rfl (fun hg _ => op_eql (.opt rfl fun h => h) (.opt rfl fun h => h)) (.n (fun _ => op_and (.plain rfl) (.plain rfl) (.plain rfl) (fun h => eqT h)) (.nil _)))))))) ?_
      refine awp_cond rfl (fun h => ?_) (fun h => ?_)
      · try simp only [decide_eq_true_eq, decide_eq_false_iff_not, Bool.and_eq_true, Bool.or_eq_true, Bool.and_eq_false_iff, Bool.or_eq_false_iff, Bool.not_eq_true', Bool.not_eq_false', Bool.not_eq_true, Bool.not_eq_false, Bool.true_eq_false, Bool.false_eq_true] at h
        have hst := gvTo_skip (f := fun i => givenF W but e (who ++ [i])) h
        refine awp_exit ?_
        refine awp_region rfl (.n (fun _ => op_move (.plain rfl)) (.n (fun _ => op_add (.plain rfl) (.plain rfl) ?_) (.n (fun _ => op_assign (.plain rfl)) (.nil _)))) ?_
        · unfold InR; omega
        exact ⟨j + 1, by omega, by dsimp only; omega, (Ent.kept ⟨rfl, rfl, rfl, (congrArg (fun x => some (SV.pv (.ints (toI x)))) (by rw [hst])), (congrArg (fun n => some (SV.int n)) (by rw [hst])), (congrArg (fun n => some (SV.int n)) (by omega)), trivial⟩ trivial)⟩
      · try simp only [decide_eq_true_eq, decide_eq_false_iff_not, Bool.and_eq_true, Bool.or_eq_true, Bool.and_eq_false_iff, Bool.or_eq_false_iff, Bool.not_eq_true', Bool.not_eq_false', Bool.not_eq_true, Bool.not_eq_false, Bool.true_eq_false, Bool.false_eq_true] at h
        have hns := h
        have hgb := given_best hok but e (who ++ [((j : Nat) : Int) - 1]) (by simp; omega)
        have hfj := hfl (((j : Nat) : Int) - 1)
        have hgj := hgl j
        refine awp_skip ?_
        refine awp_seq ?_
        refine awp_region_draw mixed rfl (.n (fun _ => op_load_agg Try.isAgg25 Try.sizeOf25 (.plain rfl) (Nat.le_of_ble_eq_true rfl)) (.e (op_slitO (pp := []) (α := Int) (d := 0) (f := (fun n => [.int .i64 n])) 90 [] ety27 rfl trivial rfl (by decide) rfl (fun _ => rfl) rfl) rfl (.n (fun _ => op_move (.plain rfl)) (.e (op_append (id' := 92) (α := Int) (d := 0) (f := (fun n => [.int .i64 n])) ety27 Try.underlying27 (fun _ => rfl) (fun _ => rfl) (.plain rfl) rfl (.plain rfl) rfl ?_) rfl (.n (fun _ => op_move (.plain rfl)) (.n (fun _ => op_slit (pp := [(0, _)]) (α := Int) (d := 0) (f := (fun n => [.int .i64 n])) [_] ety27 rfl ⟨rfl, (.plain rfl), (by simp), trivial⟩ rfl (by decide) rfl) (.e ((op_append (id' := 95) (α := Int) (d := 0) (f := (fun n => [.int .i64 n])) ety27 Try.underlying27 (fun _ => rfl) (fun _ => rfl) (.plain rfl) rfl (.plain rfl) rfl ?_).given rfl) rfl (.n (fun _ => op_move (.plain rfl)) (.n (fun _ => op_call3 Try.call29 (.plain rfl) (.plain rfl) (.plain rfl) (ih e rfl (((j : Nat) : Int) - 1) ?_)) (.n (fun _ => op_move (.plain rfl)) (.n (fun _ => op_extract (.plain rfl) rfl) (.n (fun _ => op_extract (.plain rfl) rfl) (.n (fun _ => op_assign (.plain rfl)) (.n (fun _ => op_assign (.plain rfl)) (.nil _))))))))))))))) ?d8 ?_
        · first | omega | (simp; omega)
        · first | omega | (simp; omega)
        · exact hw.snoc (by omega) (by omega)
        · kernel_rfl
        refine awp_seq ?_
        refine awp_region rfl (.n (fun _ => op_move (.plain rfl)) (.n (fun _ => op_move (.plain rfl)) (.n (fun _ => op_gtr (.plain rfl) (.plain rfl)) (.n (fun _ => op_move (.plain rfl)) (.gn rfl rfl (fun hg _ => op_move (.plain rfl)) (.gn rfl rfl (fun hg _ => op_move (.plain rfl)) (.gn rfl rfl (fun hg _ => op_eql (.opt rfl fun h => h) (.opt rfl fun h => h)) (.gn rfl rfl (fun hg _ => op_move (.opt rfl fun h => h)) (.ggn rfl rfl (fun hg _ => op_move (.plain rfl)) (.ggn rfl rfl (fun hg _ => op_move (.plain rfl)) (.ggn rfl rfl (fun hg _ => op_call2 Try.call40 (.opt rfl fun h => h) (.opt rfl fun h => h) (before_fc _ _ ?_)) (.gn rfl rfl (fun hg _ => op_and (.opt rfl fun h => h) (.plain rfl) (.plain rfl) (fun h => andI hg (eqT h))) (.n (fun _ => op_or (.plain rfl) (.plain rfl) (.plain rfl) (fun h => eqF h)) (.nil _)))))))))))))) ?_
        · try simp only [beq_iff_eq, beq_true, beq_false, Bool.and_eq_true, decide_eq_true_eq, decide_eq_false_iff_not, Bool.not_eq_true', Bool.or_eq_true, Bool.or_eq_false_iff] at hg
          rcases hgj with c | c
          · omega
          · omega
        refine awp_cond rfl (fun h => ?_) (fun h => ?_)
        · try simp only [decide_eq_true_eq, decide_eq_false_iff_not, Bool.and_eq_true, Bool.or_eq_true, Bool.and_eq_false_iff, Bool.or_eq_false_iff, Bool.not_eq_true', Bool.not_eq_false', Bool.not_eq_true, Bool.not_eq_false, Bool.true_eq_false, Bool.false_eq_true] at h
          have hst := gvTo_yes (f := fun i => givenF W but e (who ++ [i])) (show ¬ (0 ≤ ((j : Nat) : Int) - 1 ∧ ((j : Nat) : Int) - 1 = but) by omega) h
          refine awp_seq ?_
          refine awp_region rfl (.n (fun _ => op_move (.plain rfl)) (.n (fun _ => op_assign (.plain rfl)) (.nil _))) ?_
          refine awp_region rfl (.n (fun _ => op_move (.plain rfl)) (.n (fun _ => op_assign (.plain rfl)) (.nil _))) ?_
          refine awp_region rfl (.n (fun _ => op_move (.plain rfl)) (.n (fun _ => op_add (.plain rfl) (.plain rfl) ?_) (.n (fun _ => op_assign (.plain rfl)) (.nil _)))) ?_
          · unfold InR; omega
          exact ⟨j + 1, by omega, by dsimp only; omega, (Ent.kept ⟨rfl, rfl, rfl, (congrArg (fun x => some (SV.pv (.ints (toI x)))) (by rw [hst])), (congrArg (fun n => some (SV.int n)) (by rw [hst])), (congrArg (fun n => some (SV.int n)) (by omega)), trivial⟩ trivial)⟩
        · try simp only [decide_eq_true_eq, decide_eq_false_iff_not, Bool.and_eq_true, Bool.or_eq_true, Bool.and_eq_false_iff, Bool.or_eq_false_iff, Bool.not_eq_true', Bool.not_eq_false', Bool.not_eq_true, Bool.not_eq_false, Bool.true_eq_false, Bool.false_eq_true] at h
          have hst := gvTo_no (f := fun i => givenF W but e (who ++ [i])) (show ¬ (0 ≤ ((j : Nat) : Int) - 1 ∧ ((j : Nat) : Int) - 1 = but) by omega) (fun c => by
            rcases c with c | ⟨c1, c2⟩
            · exact h.1 c
            · rcases h.2 with h2 | h2
              · exact h2 c1
              · rw [c2] at h2; cases h2)
          refine awp_skip ?_
          refine awp_region rfl (.n (fun _ => op_move (.plain rfl)) (.n (fun _ => op_add (.plain rfl) (.plain rfl) ?_) (.n (fun _ => op_assign (.plain rfl)) (.nil _)))) ?_
          · unfold InR; omega
          exact ⟨j + 1, by omega, by dsimp only; omega, (Ent.kept ⟨rfl, rfl, rfl, (congrArg (fun x => some (SV.pv (.ints (toI x)))) (by rw [hst])), (congrArg (fun n => some (SV.int n)) (by rw [hst])), (congrArg (fun n => some (SV.int n)) (by omega)), trivial⟩ trivial)⟩
    · try simp only [decide_eq_true_eq, decide_eq_false_iff_not, Bool.and_eq_true, Bool.or_eq_true, Bool.and_eq_false_iff, Bool.or_eq_false_iff, Bool.not_eq_true', Bool.not_eq_false', Bool.not_eq_true, Bool.not_eq_false, Bool.true_eq_false, Bool.false_eq_true] at h
      obtain rfl : j = W.length + 1 := by omega
      refine awp_exit ?_
      refine awp_seq ?_
      refine awp_region rfl (.n (fun _ => op_move (.plain rfl)) (.n (fun _ => op_move (.plain rfl)) (.n (fun _ => op_assign (.plain rfl)) (.n (fun _ => op_assign (.plain rfl)) (.nil _))))) ?_
      refine awp_ret ?_
      refine retQ.ret ?_
      refine ret2 rfl rfl rfl rfl rfl ?_
      rfl


theorem Given_fc {m : Nat} {W : List (List Int)} (hok : SetsOk m W) (but : Int) : ∀ (d : Nat) (who : List Int), who.length + d = m → WhoOk W.length but who →
    FC Try.prog 29 [.agg [.i (m : Nat), .rows W], .ints who, .i but] (.tup [.ints (toI (givenF W but d who).2), .i (givenF W but d who).1])
  | 0, who, hl, hw => Given_step m W hok but 0 who hl hw fun e h => by omega
  | d + 1, who, hl, hw => Given_step m W hok but (d + 1) who hl hw fun e h i hi => by
    obtain rfl : d = e := by omega
    exact Given_fc hok but d (who ++ [i]) (by simp; omega) hi
theorem Given_top {m : Nat} {W : List (List Int)} (hok : SetsOk m W) (but : Int) : FC Try.prog 29 [.agg [.i (m : Nat), .rows W], .nil, .i but] (.tup [.ints (toI (bestS m W but).2), .i (bestS m W but).1]) := by
  have h := Given_fc hok but m [] (by simp) .nil
  rw [given_share hok but] at h
  exact FC.nil1 h

theorem ShareSale_fc (m : Nat) (W : List (List Int)) (hok : SetsOk m W) : FC Try.prog 13 [.agg [.i (m : Nat), .rows W]] (.agg [.ints (toI (bestS m W (-1)).2), .ints (mapr W.length (payS m W))]) := by
  refine FC.intro Try.func13 rfl (Nat.le_of_ble_eq_true rfl) fun hfit => ?_
  have fit0 := hfit _ (.head _)
  have hm4 := hok.m4
  have hn4 := hok.n4
  have hbl := best_len hok (-1)
  have htl := toI_length (bestS m W (-1)).2
  have hb0 := bestS_spec hok (-1)
  refine awp_seq ?_
  refine awp_region rfl (.n (fun _ => op_box (.plain rfl) (by simp)) (.e (op_alloc 2 Try.zeroValue29 rfl rfl rfl) rfl (.nil _))) ?_
  refine awp_seq ?_
  refine awp_region rfl (.n (fun _ => op_load_agg Try.isAgg25 Try.sizeOf25 (.plain rfl) (Nat.le_of_ble_eq_true rfl)) (.n (fun _ => op_call3 Try.call29 (.plain rfl) (.plain rfl) (.plain rfl) (Given_top hok (-1))) (.n (fun _ => op_move (.plain rfl)) (.n (fun _ => op_extract (.plain rfl) rfl) (.n (fun _ => op_extract (.plain rfl) rfl) (.n (fun _ => op_assign (.plain rfl)) (.n (fun _ => op_assign (.plain rfl)) (.nil _)))))))) ?_
  refine awp_seq ?_
  refine awp_region rfl (.n (fun _ => op_move (.plain rfl)) (.n (fun _ => op_build (pp := [(0, _)]) (places := #[(0, 1), (1, 1)]) Try.underlying29 Try.zeroValue29 rfl (by intro w; kernel_rfl) ⟨rfl, (.plain rfl), (by simp), trivial⟩ rfl) (.e (op_alloc 5 Try.zeroValue29 rfl rfl rfl) rfl (.e (op_storeRA Try.sizeOf29 (.plain rfl) (.plain rfl) rfl rfl (Nat.le_of_ble_eq_true rfl) rfl) rfl (.nil _))))) ?_
  refine awp_seq ?_
  refine awp_seq ?_
  refine awp_region rfl (.n (fun _ => op_assign (.plain rfl)) (.nil _)) ?_
  refine awp_block ?_
  refine awp_ent (Ent.beginB 5 1 1051 3 1 Int 0 (fun n => [.int .i64 n]) rfl rfl (by decide) rfl rfl) ?_
  refine awp_loop (σ := Nat) (fun (i : Nat) => i ≤ W.length) (fun (i : Nat) => ⟨[(1, .pv (.rd [.i (m : Nat), .rows W])), (2, .ref 2 0), (5, .ref 5 0), (4, .int (bestS m W (-1)).1), (3, .pv (.ints (toI (bestS m W (-1)).2))), (6, .int (i : Nat))], [(2, .box [.pv .nil, .pv .nil]), (5, .box [.pv (.ints (toI (bestS m W (-1)).2)), .own 1051]), (1051, .arr 3 1 Int 0 (fun n => [.int .i64 n]) (mapr i (payS m W)))]⟩) (fun (i : Nat) => W.length - i) 0 ?_ (Ent.kept ⟨rfl, rfl, rfl, rfl, rfl, rfl, trivial⟩ ⟨rfl, rfl, rfl, trivial⟩) ?_
  · simp
  rintro i hp
  try dsimp only at hp
  refine awp_seq ?_
  refine awp_seq ?_
  refine awp_region rfl (.n (fun _ => op_move (.plain rfl)) (.n (fun _ => op_move (.plain rfl)) (.n (fun _ => op_len (s := 0) Try.underlying27 (.plain rfl)) (.n (fun _ => op_lss (.plain rfl) (.plain rfl)) (.nil _))))) ?_
  refine awp_cond rfl (fun h => ?_) (fun h => ?_)
  · try simp only [decide_eq_true_eq, decide_eq_false_iff_not, Bool.and_eq_true, Bool.or_eq_true, Bool.and_eq_false_iff, Bool.or_eq_false_iff, Bool.not_eq_true', Bool.not_eq_false', Bool.not_eq_true, Bool.not_eq_false, Bool.true_eq_false, Bool.false_eq_true] at h
    have hgi := toI_getD (bestS m W (-1)).2 i
    have hlt := best_lt hok (-1) (show i < W.length by omega)
    have hrow := hok.row i (by omega)
    have hbi := bestS_spec hok ((i : Nat) : Int)
    have hv : 0 ≤ (W.getD i []).getD ((toI (bestS m W (-1)).2).getD i 0).toNat 0 ∧ (W.getD i []).getD ((toI (bestS m W (-1)).2).getD i 0).toNat 0 ≤ 1000 := by rw [hgi, Int.toNat_natCast]; exact hok.val i (by omega) _ hlt
    refine awp_skip ?_
    refine awp_seq ?_
    refine awp_block ?_
    refine awp_seq ?_
    refine awp_region rfl (.n (fun _ => op_load_agg Try.isAgg25 Try.sizeOf25 (.plain rfl) (Nat.le_of_ble_eq_true rfl)) (.n (fun _ => op_move (.plain rfl)) (.n (fun _ => op_call3 Try.call29 (.plain rfl) (.plain rfl) (.plain rfl) (Given_top hok ((i : Nat) : Int))) (.n (fun _ => op_move (.plain rfl)) (.n (fun _ => op_extract (.plain rfl) rfl) (.n (fun _ => op_extract (.plain rfl) rfl) (.n (fun _ => op_assign (.plain rfl)) (.n (fun _ => op_assign (.plain rfl)) (.nil _))))))))) ?_
    refine awp_region_draw mixed rfl (.n (fun _ => op_fieldAddrR Try.underlying29 rfl rfl Try.sizeOf27 (.plain rfl)) (.r (op_loadR Try.isAgg27 (.plain rfl) rfl rfl) (.n (fun _ => op_move (.plain rfl)) (.n (fun _ => op_move (.plain rfl)) (.n (fun _ => op_fieldAddr Try.underlying25 rfl rfl Try.sizeOf23 (.plain rfl)) (.n (fun _ => op_load Try.isAgg23 (.plain rfl)) (.n (fun _ => op_move (.plain rfl)) (.n (fun _ => op_indexAddrN Try.underlying23 Try.sizeOf27 (.plain rfl) (.plain rfl) (fun _ => rfl) ?_) (.n (fun _ => op_load Try.isAgg27 (.plain rfl)) (.n (fun _ => op_move (.plain rfl)) (.n (fun _ => op_move (.plain rfl)) (.n (fun _ => op_indexAddrN Try.underlying27 Try.sizeOf3 (.plain rfl) (.plain rfl) (fun _ => rfl) ?_) (.n (fun _ => op_load Try.isAgg3 (.plain rfl)) (.n (fun _ => op_indexAddr Try.underlying27 Try.sizeOf3 (.plain rfl) (.plain rfl) (fun _ => rfl) ?_) (.n (fun _ => op_load Try.isAgg3 (.plain rfl)) (.n (fun _ => op_sub (.plain rfl) (.plain rfl) ?_) (.n (fun _ => op_sub (.plain rfl) (.plain rfl) ?_) (.n (fun _ => op_slit (pp := [(0, _)]) (α := Int) (d := 0) (f := (fun n => [.int .i64 n])) [_] ety27 rfl ⟨rfl, (.plain rfl), (by simp), trivial⟩ rfl (by decide) rfl) (.e (op_append (id' := 46) (α := Int) (d := 0) (f := (fun n => [.int .i64 n])) ety27 Try.underlying27 (fun _ => rfl) (fun _ => rfl) (.plain rfl) rfl (.plain rfl) rfl ?_) rfl (.n (fun _ => op_fieldAddrR Try.underlying29 rfl rfl Try.sizeOf27 (.plain rfl)) (.e (op_storeR Try.sizeOf27 (.plain rfl) (.plain rfl) rfl (by first | decide | exact Nat.le_of_ble_eq_true rfl) rfl (by simp) (fun i h => by cases h; exact ⟨_, _, _, _, _, _, rfl⟩)) rfl (.nil _)))))))))))))))))))))) ?d9 ?_
    · omega
    · omega
    · omega
    · unfold InR; omega
    · unfold InR; omega
    · first | omega | (simp; omega)
    · kernel_rfl
    refine awp_region rfl (.n (fun _ => op_move (.plain rfl)) (.n (fun _ => op_add (.plain rfl) (.plain rfl) ?_) (.n (fun _ => op_assign (.plain rfl)) (.nil _)))) ?_
    · unfold InR; omega
    exact ⟨i + 1, by omega, by dsimp only; omega, (Ent.round 46 1051 ⟨rfl, rfl, rfl, rfl, rfl, rfl, trivial⟩ ⟨rfl, rfl, (congrArg (fun l => some (Blk.arr 3 1 Int 0 (fun n => [.int .i64 n]) l)) ((congrArg (fun x => mapr i (payS m W) ++ [x]) (show _ = payS m W i by unfold payS wAt; rw [hgi, Int.toNat_natCast])).trans (mapr_snoc _ _))), trivial⟩ rfl rfl rfl ⟨rfl, rfl, rfl, rfl, rfl, rfl, trivial⟩ ⟨rfl, rfl, rfl, trivial⟩)⟩
  · try simp only [decide_eq_true_eq, decide_eq_false_iff_not, Bool.and_eq_true, Bool.or_eq_true, Bool.and_eq_false_iff, Bool.or_eq_false_iff, Bool.not_eq_true', Bool.not_eq_false', Bool.not_eq_true, Bool.not_eq_false, Bool.true_eq_false, Bool.false_eq_true] at h
    refine awp_exit ?_
    refine awp_seq ?_
    refine awp_ent (Ent.giveB 5 1 1051 rfl rfl rfl) ?_
    refine awp_region rfl (.r (op_loadRA Try.isAgg29 Try.sizeOf29 (.plain rfl) rfl (by simp) rfl) (.e (op_storeRA Try.sizeOf29 (.plain rfl) (.plain rfl) rfl rfl (Nat.le_of_ble_eq_true rfl) rfl) rfl (.nil _))) ?_
    refine awp_ret ?_
    refine retQ.ret ?_
    refine retC rfl rfl Try.isAgg29 Try.sizeOf29 ?_
    obtain rfl : i = W.length := by omega
    rfl

theorem AuctionShares_fc (items : Int) (W : List (List Int)) : FC Try.prog 4 [.agg [.i items, .rows W]] (.bool true) := by
  refine FC.intro Try.func4 rfl (Nat.le_of_ble_eq_true rfl) fun hfit => ?_
  have fit0 := hfit _ (.head _)
  refine awp_seq ?_
  refine awp_region rfl (.n (fun _ => op_box (.plain rfl) (by simp)) (.n (fun _ => op_assign (.plain rfl)) (.nil _))) ?_
  refine awp_seq ?_
  refine awp_seq ?_
  refine awp_region rfl (.n (fun _ => op_fieldAddr Try.underlying25 rfl rfl Try.sizeOf23 (.plain rfl)) (.n (fun _ => op_load Try.isAgg23 (.plain rfl)) (.n (fun _ => op_call1 Try.call9 (.plain rfl) (heavy_fc _)) (.nil _)))) ?_
  refine awp_cond rfl (fun h => ?_) (fun h => ?_)
  · try simp only [decide_eq_true_eq, decide_eq_false_iff_not, Bool.and_eq_true, Bool.or_eq_true, Bool.and_eq_false_iff, Bool.or_eq_false_iff, Bool.not_eq_true', Bool.not_eq_false', Bool.not_eq_true, Bool.not_eq_false, Bool.true_eq_false, Bool.false_eq_true] at h
    refine awp_seq ?_
    refine awp_region rfl (.n (fun _ => op_assign (.plain rfl)) (.nil _)) ?_
    refine awp_ret ?_
    refine retQ.ret ?_
    refine ret1 rfl rfl rfl ?_
    rfl
  · try simp only [decide_eq_true_eq, decide_eq_false_iff_not, Bool.and_eq_true, Bool.or_eq_true, Bool.and_eq_false_iff, Bool.or_eq_false_iff, Bool.not_eq_true', Bool.not_eq_false', Bool.not_eq_true, Bool.not_eq_false, Bool.true_eq_false, Bool.false_eq_true] at h
    refine awp_skip ?_
    refine awp_seq ?_
    refine awp_region rfl (.n (fun _ => op_load_agg Try.isAgg25 Try.sizeOf25 (.plain rfl) (Nat.le_of_ble_eq_true rfl)) (.n (fun _ => op_call1 Try.call10 (.plain rfl) (Share_fc _ _)) (.n (fun _ => op_move (.plain rfl)) (.n (fun _ => op_extract (.plain rfl) rfl) (.n (fun _ => op_extract (.plain rfl) rfl) (.e (op_alloc 3 Try.zeroValue29 rfl rfl rfl) rfl (.e (op_storeRA Try.sizeOf29 (.plain rfl) (.plain rfl) rfl rfl (Nat.le_of_ble_eq_true rfl) rfl) rfl (.n (fun _ => op_assign (.plain rfl)) (.nil _))))))))) ?_
    refine awp_seq ?_
    refine awp_region rfl (.n (fun _ => op_load_agg Try.isAgg25 Try.sizeOf25 (.plain rfl) (Nat.le_of_ble_eq_true rfl)) (.n (fun _ => op_call1 Try.call11 (.plain rfl) (SetsMay_fc _ _)) (.n (fun _ => op_assign (.plain rfl)) (.nil _)))) ?_
    refine awp_seq ?_
    refine awp_seq ?_
    refine awp_region rfl (.n (fun _ => op_load_agg Try.isAgg25 Try.sizeOf25 (.plain rfl) (Nat.le_of_ble_eq_true rfl)) (.n (fun _ => op_call1 Try.call12 (.plain rfl) (May_fc _ _)) (.n (fun _ => op_move (.plain rfl)) (.n (fun _ => op_neq (.plain rfl) (.plain rfl)) (.n (fun _ => op_move (.plain rfl)) (.gn rfl rfl (fun hg _ => op_move (.plain rfl)) (.gn rfl rfl (fun hg _ => op_move (.plain rfl)) (.gn rfl rfl (fun hg _ => op_neq (.opt rfl fun h => h) (.opt rfl fun h => h)) (.n (fun _ => op_or (.plain rfl) (.plain rfl) (.plain rfl) (fun h => eqF h)) (.nil _)))))))))) ?_
    refine awp_cond rfl (fun h => ?_) (fun h => ?_)
    · try simp only [decide_eq_true_eq, decide_eq_false_iff_not, Bool.and_eq_true, Bool.or_eq_true, Bool.and_eq_false_iff, Bool.or_eq_false_iff, Bool.not_eq_true', Bool.not_eq_false', Bool.not_eq_true, Bool.not_eq_false, Bool.true_eq_false, Bool.false_eq_true] at h
      exfalso
      simp at h
    · try simp only [decide_eq_true_eq, decide_eq_false_iff_not, Bool.and_eq_true, Bool.or_eq_true, Bool.and_eq_false_iff, Bool.or_eq_false_iff, Bool.not_eq_true', Bool.not_eq_false', Bool.not_eq_true, Bool.not_eq_false, Bool.true_eq_false, Bool.false_eq_true] at h
      refine awp_skip ?_
      refine awp_seq ?_
      refine awp_seq ?_
      refine awp_region rfl (.n (fun _ => op_move (.plain rfl)) (.n (fun _ => op_neq (.plain rfl) (.plain rfl)) (.nil _))) ?_
      refine awp_cond rfl (fun h => ?_) (fun h => ?_)
      · try simp only [decide_eq_true_eq, decide_eq_false_iff_not, Bool.and_eq_true, Bool.or_eq_true, Bool.and_eq_false_iff, Bool.or_eq_false_iff, Bool.not_eq_true', Bool.not_eq_false', Bool.not_eq_true, Bool.not_eq_false, Bool.true_eq_false, Bool.false_eq_true] at h
        simp only [if_neg h]
        refine awp_seq ?_
        refine awp_region rfl (.n (fun _ => op_fieldAddrR Try.underlying29 rfl rfl Try.sizeOf27 (.plain rfl)) (.r (op_loadR Try.isAgg27 (.plain rfl) rfl rfl) (.n (fun _ => op_len (s := 0) Try.underlying27 (.plain rfl)) (.n (fun _ => op_fieldAddrR Try.underlying29 rfl rfl Try.sizeOf27 (.plain rfl)) (.r (op_loadR Try.isAgg27 (.plain rfl) rfl rfl) (.n (fun _ => op_len (s := 0) Try.underlying27 (.plain rfl)) (.n (fun _ => op_add (.plain rfl) (.plain rfl) ?_) (.n (fun _ => op_eql (.plain rfl) (.plain rfl)) (.n (fun _ => op_assign (.plain rfl)) (.nil _)))))))))) ?_
        · simp [InR]
        refine awp_ret ?_
        refine retQ.ret ?_
        refine ret1 rfl rfl rfl ?_
        simp
      · try simp only [decide_eq_true_eq, decide_eq_false_iff_not, Bool.and_eq_true, Bool.or_eq_true, Bool.and_eq_false_iff, Bool.or_eq_false_iff, Bool.not_eq_true', Bool.not_eq_false', Bool.not_eq_true, Bool.not_eq_false, Bool.true_eq_false, Bool.false_eq_true] at h
        simp only [if_pos h]
        obtain ⟨m, rfl⟩ := items_nat h
        have hok := SetsOk.of h
        refine awp_skip ?_
        refine awp_seq ?_
        refine awp_region rfl (.n (fun _ => op_load_agg Try.isAgg25 Try.sizeOf25 (.plain rfl) (Nat.le_of_ble_eq_true rfl)) (.n (fun _ => op_call1 Try.call13 (.plain rfl) (ShareSale_fc _ _ ?_)) (.e (op_alloc 6 Try.zeroValue29 rfl rfl rfl) rfl (.e (op_storeRA Try.sizeOf29 (.plain rfl) (.plain rfl) rfl rfl (Nat.le_of_ble_eq_true rfl) rfl) rfl (.nil _))))) ?_
        · assumption
        refine awp_seq ?_
        refine awp_region rfl (.n (fun _ => op_fieldAddrR Try.underlying29 rfl rfl Try.sizeOf27 (.plain rfl)) (.r (op_loadR Try.isAgg27 (.plain rfl) rfl rfl) (.n (fun _ => op_fieldAddrR Try.underlying29 rfl rfl Try.sizeOf27 (.plain rfl)) (.r (op_loadR Try.isAgg27 (.plain rfl) rfl rfl) (.n (fun _ => op_call2 Try.call14 (.plain rfl) (.plain rfl) (sameInts_fc _ _)) (.n (fun _ => op_move (.plain rfl)) (.gn rfl rfl (fun hg _ => op_fieldAddrR Try.underlying29 rfl rfl Try.sizeOf27 (.plain rfl)) (.gr rfl rfl (fun hg => op_loadR Try.isAgg27 (.opt rfl fun h => h) rfl rfl) (.gn rfl rfl (fun hg _ => op_fieldAddrR Try.underlying29 rfl rfl Try.sizeOf27 (.plain rfl)) (.gr rfl rfl (fun hg => op_loadR Try.isAgg27 (.opt rfl fun h => h) rfl rfl) (.gn rfl rfl (fun hg _ => op_call2 Try.call14 (.opt rfl fun h => h) (.opt rfl fun h => h) (sameInts_fc _ _)) (.n (fun _ => op_and (.plain rfl) (.plain rfl) (.plain rfl) (fun h => eqT h)) (.n (fun _ => op_assign (.plain rfl)) (.nil _)))))))))))))) ?_
        refine awp_ret ?_
        refine retQ.ret ?_
        refine ret1 rfl rfl rfl ?_
        simp

end Go.Proofs.Ytdllochcdcgaeaa

