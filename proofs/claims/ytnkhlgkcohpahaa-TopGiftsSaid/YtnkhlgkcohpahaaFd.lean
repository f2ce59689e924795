/- The finder with what it remembers. Conditions: each theorem names its own. -/
import Derived.Test.YtnkhlgkcohpahaaProg
import Derived.Test.YtnkhlgkcohpahaaFc
namespace Go.Proofs.Ytnkhlgkcohpahaa
open Go.Abs
set_option linter.unusedVariables false
set_option linter.unusedSimpArgs false

/-! ### What the finder remembers -/
abbrev Memo := List (Int × Int) × List (Int × List Int)
abbrev MSt := Int × List Int × Memo
def D1 (m : List (Int × Int)) : List (Int × PV) := m.map fun p => (p.1, PV.i p.2)
def D2 (m : List (Int × List Int)) : List (Int × PV) := m.map fun p => (p.1, PV.ints p.2)
def orTo (u : Nat) (l : List Int) : Nat → Nat
  | 0 => u
  | k + 1 => orTo u l k ||| 2 ^ (l.getD k 0).toNat
def nextM (u q : Nat) (l : List Int) : Nat := orTo (u ||| (2 ^ q - 1)) l l.length
def lineM (rc : Nat → Memo → Int × Memo) (G : Int) (u q : Nat) (ls : List (List Int)) (s : MSt) : Nat → MSt
  | 0 => s
  | k + 1 => if (lineM rc G u q ls s k).1 < giftL G q (ls.getD k []) + (rc (nextM u q (ls.getD k [])) (lineM rc G u q ls s k).2.2).1
      then (giftL G q (ls.getD k []) + (rc (nextM u q (ls.getD k [])) (lineM rc G u q ls s k).2.2).1, ls.getD k [], (rc (nextM u q (ls.getD k [])) (lineM rc G u q ls s k).2.2).2)
      else ((lineM rc G u q ls s k).1, (lineM rc G u q ls s k).2.1, (rc (nextM u q (ls.getD k [])) (lineM rc G u q ls s k).2.2).2)
def firstM (rc : Nat → Memo → Int × Memo) (G : Int) (F : List (List Int)) (Rd Rw : Int) (u : Nat) (M : Memo) : Nat → MSt
  | 0 => (0, [], M)
  | q + 1 => if u.testBit q = true then firstM rc G F Rd Rw u M q else lineM rc G u q (linA G F Rd Rw u q) (firstM rc G F Rd Rw u M q) (linA G F Rd Rw u q).length
def mostM (G : Int) (F : List (List Int)) (Rd Rw : Int) : Nat → Nat → Memo → Int × Memo
  | 0, _, M => (0, M)
  | f + 1, u, M => match List.lookup (u : Int) M.1 with
    | some v => (v, M)
    | none => ((firstM (mostM G F Rd Rw f) G F Rd Rw u M F.length).1, ((firstM (mostM G F Rd Rw f) G F Rd Rw u M F.length).2.2.1 ++ [((u : Int), (firstM (mostM G F Rd Rw f) G F Rd Rw u M F.length).1)], (firstM (mostM G F Rd Rw f) G F Rd Rw u M F.length).2.2.2 ++ [((u : Int), (firstM (mostM G F Rd Rw f) G F Rd Rw u M F.length).2.1)]))
section
variable {G : Int} {F : List (List Int)} {Rd Rw : Int}
theorem orTo_bit {u : Nat} {l : List Int} {x : Nat} : ∀ k, (orTo u l k).testBit x = true ↔ u.testBit x = true ∨ ∃ j, j < k ∧ (l.getD j 0).toNat = x
  | 0 => by simp [orTo]
  | k + 1 => by
    simp only [orTo, Nat.testBit_or, Bool.or_eq_true, orTo_bit k, Nat.testBit_two_pow, decide_eq_true_eq]
    constructor
    · rintro ((h | ⟨j, hj, h⟩) | h)
      · exact .inl h
      · exact .inr ⟨j, by omega, h⟩
      · exact .inr ⟨k, by omega, h⟩
    · rintro (h | ⟨j, hj, h⟩)
      · exact .inl (.inl h)
      · by_cases e : j = k
        · subst e; exact .inr h
        · exact .inl (.inr ⟨j, by omega, h⟩)
theorem orTo_lt {u n : Nat} {l : List Int} (hu : u < 2 ^ n) : ∀ k, (∀ j, j < k → (l.getD j 0).toNat < n) → orTo u l k < 2 ^ n
  | 0, _ => hu
  | k + 1, h => or_lt (orTo_lt hu k fun j hj => h j (by omega)) (h k (by omega))
theorem orTo_ge {u : Nat} {l : List Int} : ∀ k, u ≤ orTo u l k
  | 0 => Nat.le_refl _
  | k + 1 => Nat.le_trans (orTo_ge k) Nat.left_le_or
/-- What a line of the finder is like. -/
theorem linD_pre (hS : SOk G F Rd Rw) {q : Nat} : ∀ (f : Nat) (l : List Int) (u : Nat) (v : List Int), v ∈ linD G F Rd Rw q f l u → (∃ t, v = l ++ t ∧ ∀ x, x ∈ t → 0 ≤ x ∧ x < (F.length : Int)) ∧ v.length ≤ f + l.length ∧ 1 < v.length
  | 0, l, u, v, h => by
    simp only [linD, emD] at h
    split at h
    · rename_i h2; simp only [List.mem_singleton] at h; subst h; have := h2.1; exact ⟨⟨[], by simp, by simp⟩, by omega, by omega⟩
    · simp at h
  | f + 1, l, u, v, h => by
    simp only [linD, List.mem_append] at h
    rcases h with h | h
    · unfold emD at h
      split at h
      · rename_i h2; simp only [List.mem_singleton] at h; subst h; have := h2.1; exact ⟨⟨[], by simp, by simp⟩, by omega, by omega⟩
      · simp at h
    · split at h
      · simp at h
      · obtain ⟨i, hi, _, h2⟩ := goTo_mem.1 h
        obtain ⟨⟨t, e, ht⟩, h3, h4⟩ := linD_pre hS f _ _ v h2
        have hx : 0 ≤ (F.getD (lastF l).toNat []).getD i 0 ∧ (F.getD (lastF l).toNat []).getD i 0 < (F.length : Int) := by
          rcases Nat.lt_or_ge (lastF l).toNat F.length with c | c
          · have := hS.fit _ c i hi; have := hS.g; omega
          · rw [show F.getD (lastF l).toNat [] = [] by simp [List.getD_eq_getElem?_getD, c]] at hi; simp at hi
        refine ⟨⟨(F.getD (lastF l).toNat []).getD i 0 :: t, by rw [e]; simp, fun x hx' => ?_⟩, by rw [List.length_append, List.length_singleton] at h3; omega, h4⟩
        rcases List.mem_cons.1 hx' with rfl | hx'
        · exact hx
        · exact ht x hx'
theorem linA_in (hS : SOk G F Rd Rw) {u q : Nat} {v : List Int} (hq : q < F.length) (h : v ∈ linA G F Rd Rw u q) : v.getD 0 0 = (q : Int) ∧ 1 < v.length ∧ v.length ≤ 9 ∧ ∀ j, j < v.length → 0 ≤ v.getD j 0 ∧ v.getD j 0 < (F.length : Int) := by
  obtain ⟨⟨t, e, ht⟩, h2, h3⟩ := linD_pre hS _ _ _ _ h
  have := hS.n8
  rw [List.length_singleton] at h2
  subst e
  refine ⟨rfl, h3, by omega, fun j hj => ?_⟩
  have := getD_mem (l := [(q : Int)] ++ t) 0 hj
  rcases List.mem_append.1 this with h | h
  · simp only [List.mem_singleton] at h; rw [h]; omega
  · exact ht _ h
theorem next_in (hS : SOk G F Rd Rw) {u q : Nat} {v : List Int} (hq : q < F.length) (hu : u < 2 ^ 8) (hb : u.testBit q = false) (h : v ∈ linA G F Rd Rw u q) : u < nextM u q v ∧ nextM u q v < 2 ^ 8 := by
  obtain ⟨h1, h2, _, h4⟩ := linA_in hS hq h
  have h8 := hS.n8
  have h5 : u ≤ nextM u q v := Nat.le_trans Nat.left_le_or (orTo_ge _)
  have h6 : (nextM u q v).testBit q = true := (orTo_bit _).2 (.inr ⟨0, by omega, by rw [h1]; simp⟩)
  refine ⟨Nat.lt_of_le_of_ne h5 fun c => by rw [← c, hb] at h6; exact absurd h6 (by decide), orTo_lt (Nat.or_lt_two_pow hu ?_) _ fun j hj => by have := h4 j hj; omega⟩
  have : 2 ^ q ≤ 2 ^ 8 := Nat.pow_le_pow_right (by omega) (by omega)
  have := Nat.two_pow_pos q
  omega
/-- What is remembered is bounded, all keys are different. -/
structure MOk (M : Memo) : Prop where
  keys : M.2.map (·.1) = M.1.map (·.1)
  nd : (M.1.map (·.1)).Nodup
  rng : ∀ k, k ∈ M.1.map (·.1) → 0 ≤ k ∧ k < 256
  val : ∀ k v, (k, v) ∈ M.1 → 0 ≤ v ∧ v ≤ 9 * (256 - k)
theorem MOk.nil : MOk ([], []) := ⟨rfl, List.nodup_nil, fun k h => by simp at h, fun k v h => by simp at h⟩
theorem lookup_noneQ {α : Type} {k : Int} : ∀ {m : List (Int × α)}, List.lookup k m = none ↔ ¬ k ∈ m.map (·.1)
  | [] => by simp
  | (a, b) :: m => by
    rw [List.lookup_cons]
    by_cases e : k = a
    · subst e; simp
    · rw [beq_eq_false_iff_ne.2 e]; simp only [List.map_cons, List.mem_cons, e, false_or]; exact lookup_noneQ
theorem lookup_memQ {α : Type} {k : Int} {v : α} : ∀ {m : List (Int × α)}, List.lookup k m = some v → (k, v) ∈ m
  | [], h => by simp at h
  | (a, b) :: m, h => by
    rw [List.lookup_cons] at h
    by_cases e : k = a
    · subst e; simp at h; subst h; exact List.mem_cons_self
    · rw [beq_eq_false_iff_ne.2 e] at h; exact List.mem_cons_of_mem _ (lookup_memQ h)
theorem MOk.len {M : Memo} (h : MOk M) : M.1.length ≤ 256 ∧ M.2.length = M.1.length := by
  have h1 : M.2.length = M.1.length := by have := congrArg List.length h.keys; simpa using this
  refine ⟨?_, h1⟩
  have key : ∀ (l : List Int) (n : Nat), l.Nodup → (∀ k, k ∈ l → 0 ≤ k ∧ k < (n : Int)) → l.length ≤ n := by
    intro l n
    induction n generalizing l with
    | zero => intro _ h; cases l with
              | nil => simp
              | cons a l => have := h a List.mem_cons_self; omega
    | succ n ih =>
      intro hn hr
      have := ih (l.erase (n : Int)) (hn.erase _) fun k hk => by
        have h1 := hr k (List.mem_of_mem_erase hk)
        have h2 := (hn.mem_erase_iff.1 hk).1
        omega
      rw [List.length_erase] at this
      split at this <;> omega
  simpa using key (M.1.map (·.1)) 256 h.nd fun k hk => h.rng k hk
theorem MOk.snoc {M : Memo} {u : Nat} {v : Int} {l : List Int} (h : MOk M) (hu : u < 2 ^ 8) (hn : List.lookup (u : Int) M.1 = none) (hv : 0 ≤ v ∧ v ≤ 9 * (256 - (u : Int))) : MOk (M.1 ++ [((u : Int), v)], M.2 ++ [((u : Int), l)]) := by
  refine ⟨by simp only [List.map_append, h.keys, List.map_cons, List.map_nil], ?_, fun k hk => ?_, fun k w hk => ?_⟩
  · simp only [List.map_append, List.map_cons, List.map_nil]
    refine List.nodup_append.2 ⟨h.nd, by simp, fun a ha b hb e => ?_⟩
    simp only [List.mem_singleton] at hb
    subst hb; subst e
    exact lookup_noneQ.1 hn ha
  · simp only [List.map_append, List.map_cons, List.map_nil, List.mem_append, List.mem_singleton] at hk
    rcases hk with hk | hk
    · exact h.rng k hk
    · omega
  · simp only [List.mem_append, List.mem_singleton, Prod.mk.injEq] at hk
    rcases hk with hk | ⟨rfl, rfl⟩
    · exact h.val k w hk
    · exact hv
/-- What a call brings: a bounded number, and entries from its set on. -/
structure ROk (u : Nat) (M : Memo) (r : Int × Memo) : Prop where
  val : 0 ≤ r.1 ∧ r.1 ≤ 9 * (256 - (u : Int))
  ok : MOk r.2
  new : ∀ k, k ∈ r.2.1.map (·.1) → k ∈ M.1.map (·.1) ∨ (u : Int) ≤ k
structure SMk (u : Nat) (M : Memo) (s : MSt) : Prop where
  val : 0 ≤ s.1 ∧ s.1 ≤ 9 * (256 - (u : Int))
  ok : MOk s.2.2
  new : ∀ k, k ∈ s.2.2.1.map (·.1) → k ∈ M.1.map (·.1) ∨ (u : Int) < k
theorem gift_in {q : Nat} {l : List Int} (h : 1 < l.length ∧ l.length ≤ 9) : 1 ≤ giftL G q l ∧ giftL G q l ≤ 9 := by unfold giftL; split <;> omega
theorem lineM_ok (hS : SOk G F Rd Rw) {rc : Nat → Memo → Int × Memo} {u q : Nat} {M : Memo} {s : MSt} (hu : u < 2 ^ 8) (hq : q < F.length) (hb : u.testBit q = false) (hs : SMk u M s)
    (hrc : ∀ u2 M2, u < u2 → u2 < 2 ^ 8 → MOk M2 → ROk u2 M2 (rc u2 M2)) : ∀ k, k ≤ (linA G F Rd Rw u q).length → SMk u M (lineM rc G u q (linA G F Rd Rw u q) s k)
  | 0, _ => hs
  | k + 1, hk => by
    have ih := lineM_ok hS hu hq hb hs hrc k (by omega)
    have hm := getD_mem (l := linA G F Rd Rw u q) [] (show k < (linA G F Rd Rw u q).length by omega)
    have hl := linA_in hS hq hm
    have hnx := next_in hS hq hu hb hm
    have hr := hrc _ _ hnx.1 hnx.2 ih.ok
    have hg := gift_in (G := G) (q := q) ⟨hl.2.1, hl.2.2.1⟩
    have hnew : ∀ k2, k2 ∈ (rc (nextM u q ((linA G F Rd Rw u q).getD k [])) (lineM rc G u q (linA G F Rd Rw u q) s k).2.2).2.1.map (·.1) → k2 ∈ M.1.map (·.1) ∨ (u : Int) < k2 := fun k2 h => by
      rcases hr.new k2 h with h | h
      · exact ih.new k2 h
      · right; omega
    have hv := hr.val
    have hv2 := ih.val
    simp only [lineM]
    split
    · exact ⟨⟨by dsimp only; omega, by dsimp only; omega⟩, hr.ok, hnew⟩
    · exact ⟨hv2, hr.ok, hnew⟩
theorem firstM_ok (hS : SOk G F Rd Rw) {rc : Nat → Memo → Int × Memo} {u : Nat} {M : Memo} (hu : u < 2 ^ 8) (hM : MOk M)
    (hrc : ∀ u2 M2, u < u2 → u2 < 2 ^ 8 → MOk M2 → ROk u2 M2 (rc u2 M2)) : ∀ q, q ≤ F.length → SMk u M (firstM rc G F Rd Rw u M q)
  | 0, _ => ⟨⟨by simp [firstM], by simp [firstM]; omega⟩, hM, fun k h => .inl h⟩
  | q + 1, hq => by
    have ih := firstM_ok hS hu hM hrc q (by omega)
    simp only [firstM]
    split
    · exact ih
    · rename_i hb
      exact lineM_ok hS hu (by omega) (by simpa using hb) ih hrc _ (Nat.le_refl _)
theorem mostM_ok (hS : SOk G F Rd Rw) : ∀ (f u : Nat) (M : Memo), u < 2 ^ 8 → 2 ^ 8 ≤ f + u → MOk M → ROk u M (mostM G F Rd Rw f u M)
  | 0, u, M, hu, hf, _ => by omega
  | f + 1, u, M, hu, hf, hM => by
    have hF := firstM_ok (G := G) (Rd := Rd) (Rw := Rw) (F := F) hS (rc := mostM G F Rd Rw f) hu hM (fun u2 M2 h1 h2 h3 => mostM_ok hS f u2 M2 h2 (by omega) h3) F.length (Nat.le_refl _)
    simp only [mostM]
    split
    · rename_i v h
      have := hM.val _ _ (lookup_memQ h)
      exact ⟨this, hM, fun k h => .inl h⟩
    · rename_i h
      have hn : List.lookup (u : Int) (firstM (mostM G F Rd Rw f) G F Rd Rw u M F.length).2.2.1 = none := lookup_noneQ.2 fun c => by
        rcases hF.new _ c with c | c
        · exact lookup_noneQ.1 h c
        · omega
      refine ⟨hF.val, hF.ok.snoc hu hn hF.val, fun k hk => ?_⟩
      simp only [List.map_append, List.map_cons, List.map_nil, List.mem_append, List.mem_singleton] at hk
      rcases hk with hk | hk
      · rcases hF.new k hk with h | h
        · exact .inl h
        · right; omega
      · right; omega
end
theorem or_shl1 (u q : Nat) : (((u : Int).toNat ||| ((1 : Int) * 2 ^ q - 1).toNat : Nat) : Int) = ((u ||| (2 ^ q - 1) : Nat) : Int) := by
  rw [shl_one, Int.toNat_natCast]
  have : (((2 ^ q : Nat) : Int) - 1).toNat = 2 ^ q - 1 := by omega
  rw [this]
theorem shl_in1 {x : Nat} (h : x ≤ 60) : InR ((1 : Int) * 2 ^ x - 1) := by
  have h1 := shl_in h
  rw [shl_one] at *
  have := Nat.two_pow_pos x
  unfold InR at *
  omega
theorem mostM_hit {G : Int} {F : List (List Int)} {Rd Rw : Int} {f u : Nat} {M : Memo} {v : Int} (h : List.lookup (u : Int) M.1 = some v) : mostM G F Rd Rw (f + 1) u M = (v, M) := by simp only [mostM]; rw [h]
theorem mostM_new {G : Int} {F : List (List Int)} {Rd Rw : Int} {f u : Nat} {M : Memo} (h : List.lookup (u : Int) M.1 = none) : mostM G F Rd Rw (f + 1) u M = ((firstM (mostM G F Rd Rw f) G F Rd Rw u M F.length).1, ((firstM (mostM G F Rd Rw f) G F Rd Rw u M F.length).2.2.1 ++ [((u : Int), (firstM (mostM G F Rd Rw f) G F Rd Rw u M F.length).1)], (firstM (mostM G F Rd Rw f) G F Rd Rw u M F.length).2.2.2 ++ [((u : Int), (firstM (mostM G F Rd Rw f) G F Rd Rw u M F.length).2.1)])) := by simp only [mostM]; rw [h]
theorem D1_lookup {m : List (Int × Int)} {k : Int} : List.lookup k (D1 m) = (List.lookup k m).map PV.i := lookup_mapQ
theorem D2_lookup {m : List (Int × List Int)} {k : Int} : List.lookup k (D2 m) = (List.lookup k m).map PV.ints := lookup_mapQ

set_option maxRecDepth 1000000 in
set_option maxHeartbeats 8000000 in
theorem most_fch (G : Int) (F : List (List Int)) (Rd Rw : Int) (hv : mayE G F Rd Rw = 0) (f u : Nat) (M : Memo) (hu : u < 2 ^ 8) (hf : 2 ^ 8 ≤ f + u) (hM : MOk M) : FCH Try.prog 17 [.ref 40 0, .pv (.i (u : Nat))] [(40, .box [.pv (.i G), .pv (.rows F), .pv (.i Rd), .pv (.i Rw), .own 41, .own 42]), (41, .mq (D1 M.1)), (42, .mq (D2 M.2))] [(40, .box [.pv (.i G), .pv (.rows F), .pv (.i Rd), .pv (.i Rw), .own 41, .own 42]), (41, .mq (D1 (mostM G F Rd Rw f u M).2.1)), (42, .mq (D2 (mostM G F Rd Rw f u M).2.2))] (.pv (.i (mostM G F Rd Rw f u M).1)) none := by
  have hf0 : f = f := rfl
  induction f using Nat.strongRecOn generalizing u M
  rename_i f ih
  refine FCH.intro Try.func17 rfl (Nat.le_of_ble_eq_true rfl) (Nat.le_of_ble_eq_true rfl) fun hfit ι0 => ?_
  change awp _ _ _ _ ⟨[(0, .ref 40 0), (1, .pv (.i (u : Nat))), (1000040, .pin 40 (ι0 40)), (1000041, .pin 41 (ι0 41)), (1000042, .pin 42 (ι0 42))], [(40, .box [.pv (.i G), .pv (.rows F), .pv (.i Rd), .pv (.i Rw), .own 41, .own 42]), (41, .mq (D1 M.1)), (42, .mq (D2 M.2))]⟩
  have fit1 : -9223372036854775808 ≤ ((u : Nat) : Int) ∧ ((u : Nat) : Int) ≤ 9223372036854775807 := (hfit _ (.tail _ (.head _))).int64
  have hS := sok hv
  have hn8 := hS.n8
  have hG := hS.g
  have hRd := hS.rd
  have hRw := hS.rw'
  obtain ⟨f, rfl⟩ : ∃ q, f = q + 1 := ⟨f - 1, by omega⟩
  have hrc : ∀ u2 M2, u < u2 → u2 < 2 ^ 8 → MOk M2 → ROk u2 M2 (mostM G F Rd Rw f u2 M2) := fun u2 M2 h1 h2 h3 => mostM_ok hS f u2 M2 h2 (by omega) h3
  refine awp_seq ?_
  refine awp_region rfl (.e (op_boxH 2 (.plain rfl) rfl rfl rfl (fun _ h => by cases h) (fun _ h => by cases h)) rfl (.n (fun _ => op_box (.plain rfl) (by simp)) (.n (fun _ => op_assign (.plain rfl)) (.nil _)))) ?_
  refine awp_seq ?_
  refine awp_seq ?_
  refine awp_region_draw mixed rfl (.r (op_loadR Try.isAgg41 (.plain rfl) rfl rfl) (.n (fun _ => op_nilCheckR (.plain rfl)) (.n (fun _ => op_fieldAddrR Try.underlying44 rfl rfl Try.sizeOf37 (.plain rfl)) (.r (op_loadR Try.isAgg37 (.plain rfl) rfl rfl) (.n (fun _ => op_load Try.isAgg3 (.plain rfl)) (.r (op_lookupQ2 Try.underlying37 Try.underlying3 Try.zeroValue3 rep_i0 (.plain rfl) rfl (.plain rfl)) (.n (fun _ => op_move (.plain rfl)) (.n (fun _ => op_extract (.plain rfl) rfl) (.n (fun _ => op_extract (.plain rfl) rfl) (.n (fun _ => op_assign (.plain rfl)) (.n (fun _ => op_assign (.plain rfl)) (.nil _)))))))))))) ?d1 ?_
  · kernel_rfl
  refine awp_seq ?_
  refine awp_region rfl (.n (fun _ => op_move (.plain rfl)) (.nil _)) ?_
  refine awp_cond rfl (fun h => ?_) (fun h => ?_)
  · skip
    obtain ⟨v, hL⟩ : ∃ v, List.lookup (u : Int) M.1 = some v := by
      cases e : List.lookup (u : Int) M.1 with
      | some v => exact ⟨v, rfl⟩
      | none => rw [D1_lookup, e] at h; exact absurd h (by decide)
    refine awp_seq ?_
    refine awp_region rfl (.n (fun _ => op_move (.plain rfl)) (.n (fun _ => op_assign (.plain rfl)) (.nil _))) ?_
    refine awp_ret ?_
    refine retH.ret ?_
    refine retH1 rfl rfl ⟨rfl, (congrArg (fun (M : Memo) => some (Blk.mq (D1 M.1))) (by rw [mostM_hit hL])), (congrArg (fun (M : Memo) => some (Blk.mq (D2 M.2))) (by rw [mostM_hit hL])), trivial⟩ ⟨.inr rfl, .inr rfl, .inr rfl, trivial⟩ ?_
    rw [mostM_hit hL, D1_lookup, hL]
    rfl
  · skip
    have hL : List.lookup (u : Int) M.1 = none := by
      cases e : List.lookup (u : Int) M.1 with
      | none => rfl
      | some v => rw [D1_lookup, e] at h; exact absurd h (by simp)
    refine awp_skip ?_
    refine awp_seq ?_
    refine awp_region rfl (.e (op_alloc 7 Try.zeroValue3 rfl rfl rfl) rfl (.e (op_storeR Try.sizeOf3 (.plain rfl) (.plain rfl) rfl (by first | decide | exact Nat.le_of_ble_eq_true rfl) rfl (by simp) (by simp)) rfl (.nil _))) ?_
    refine awp_seq ?_
    refine awp_region rfl (.e (op_alloc 8 Try.zeroValue35 rfl rfl rfl) rfl (.nil _)) ?_
    refine awp_seq ?_
    refine awp_seq ?_
    refine awp_ent (Ent.nilBox 8 Int 0 (fun n => [.int .i64 n]) rfl) ?_
    refine awp_region rfl (.r (op_loadR Try.isAgg41 (.plain rfl) rfl rfl) (.n (fun _ => op_nilCheckR (.plain rfl)) (.n (fun _ => op_fieldAddrR Try.underlying44 rfl rfl Try.sizeOf24 (.plain rfl)) (.n (fun _ => op_fieldAddrR Try.underlying24 rfl rfl Try.sizeOf22 (.plain rfl)) (.r (op_loadR Try.isAgg22 (.plain rfl) rfl rfl) (.n (fun _ => op_len (s := 0) Try.underlying22 (.plain rfl)) (.n (fun _ => op_move (.plain rfl)) (.nil _)))))))) ?_
    refine awp_block ?_
    refine awp_loop (σ := Nat) (fun (q : Nat) => q ≤ F.length) (fun (q : Nat) => ⟨[(2, .ref 2 0), (3, .pv (.rd [.i (u : Nat)])), (7, .ref 7 0), (8, .ref 8 0), (32, .int (F.length : Nat)), (33, .int (q : Nat)), (1000040, .pin 40 (ι0 40)), (1000041, .pin 41 (ι0 41)), (1000042, .pin 42 (ι0 42))], [(2, .box [.ref 40 0]), (40, .box [.pv (.i G), .pv (.rows F), .pv (.i Rd), .pv (.i Rw), .own 41, .own 42]), (7, .box [.int (firstM (mostM G F Rd Rw f) G F Rd Rw u M (q)).1]), (8, .box [.pv (.ints (firstM (mostM G F Rd Rw f) G F Rd Rw u M (q)).2.1)]), (41, .mq (D1 (firstM (mostM G F Rd Rw f) G F Rd Rw u M (q)).2.2.1)), (42, .mq (D2 (firstM (mostM G F Rd Rw f) G F Rd Rw u M (q)).2.2.2))]⟩) (fun (q : Nat) => F.length - q) 0 ?_ (Ent.kept ⟨rfl, rfl, rfl, rfl, rfl, rfl, rfl, rfl, rfl, trivial⟩ ⟨rfl, rfl, rfl, rfl, rfl, rfl, trivial⟩) ?_
    · exact Nat.zero_le _
    rintro q hp
    try dsimp only at hp
    have hq0 := hp
    have hSq := firstM_ok hS (rc := mostM G F Rd Rw f) hu hM hrc q hq0
    refine awp_seq ?_
    refine awp_region rfl (.n (fun _ => op_lss (.plain rfl) (.plain rfl)) (.nil _)) ?_
    refine awp_seq ?_
    refine awp_cond rfl (fun h => ?_) (fun h => ?_)
    · skip
      have h := of_decide_eq_true h
      have hq : q < F.length := by omega
      refine awp_skip ?_
      refine awp_seq ?_
      refine awp_block ?_
      refine awp_seq ?_
      refine awp_region rfl (.n (fun _ => op_move (.plain rfl)) (.e (op_alloc 9 Try.zeroValue3 rfl rfl rfl) rfl (.e (op_storeR Try.sizeOf3 (.plain rfl) (.plain rfl) rfl (by first | decide | exact Nat.le_of_ble_eq_true rfl) rfl (by simp) (by simp)) rfl (.nil _)))) ?_
      refine awp_seq ?_
      refine awp_seq ?_
      refine awp_ent (Ent.giveBox 9 rfl rfl rfl) ?_
      refine awp_region rfl (.n (fun _ => op_load Try.isAgg3 (.plain rfl)) (.n (fun _ => op_load Try.isAgg3 (.plain rfl)) (.n (fun _ => op_shr (.plain rfl) (.plain rfl) ?_) (.n (fun _ => op_bit (.plain rfl) ?_) (.n (fun _ => op_eql (.plain rfl) (.plain rfl)) (.nil _)))))) ?_
      · omega
      · exact Int.ediv_nonneg (by omega) (by rw [← Int.one_mul (2 ^ _), shl_one]; exact Int.natCast_nonneg _)
      refine awp_cond rfl (fun h => ?_) (fun h => ?_)
      · skip
        have hb : u.testBit q = true := bit_on.1 (of_decide_eq_true h)
        refine awp_exit ?_
        refine awp_region rfl (.n (fun _ => op_add (.plain rfl) (.plain rfl) ?_) (.n (fun _ => op_move (.plain rfl)) (.nil _))) ?_
        · unfold InR; omega
        exact ⟨q + 1, by omega, by dsimp only; omega, (Ent.kept ⟨rfl, rfl, rfl, rfl, rfl, rfl, rfl, rfl, rfl, trivial⟩ ⟨rfl, rfl, (congrArg (fun (s : MSt) => some (Blk.box [SV.int s.1])) (by simp only [firstM]; first | exact (if_pos hb).symm | exact (if_neg (by rw [hb]; decide)).symm)), (congrArg (fun (s : MSt) => some (Blk.box [SV.pv (.ints s.2.1)])) (by simp only [firstM]; first | exact (if_pos hb).symm | exact (if_neg (by rw [hb]; decide)).symm)), (congrArg (fun (s : MSt) => some (Blk.mq (D1 s.2.2.1))) (by simp only [firstM]; first | exact (if_pos hb).symm | exact (if_neg (by rw [hb]; decide)).symm)), (congrArg (fun (s : MSt) => some (Blk.mq (D2 s.2.2.2))) (by simp only [firstM]; first | exact (if_pos hb).symm | exact (if_neg (by rw [hb]; decide)).symm)), trivial⟩)⟩
      · skip
        have hb : u.testBit q = false := by
          cases e : u.testBit q with
          | false => rfl
          | true => exact absurd (bit_on.2 e) (of_decide_eq_false h)
        refine awp_skip ?_
        refine awp_seq ?_
        refine awp_region rfl (.r (op_loadR Try.isAgg41 (.plain rfl) rfl rfl) (.n (fun _ => op_load Try.isAgg3 (.plain rfl)) (.n (fun _ => op_load Try.isAgg3 (.plain rfl)) (.e (op_callH (fun k => [0, 0, 0, 44, 0, 0, 0, 0, 0, 0, 0, 0, 0, 0, 0, 0, 0, 0, 0, 0, 0, 0, 0, 0, 0, 0, 0, 0, 0, 0, 0, 0, 0, 0, 0, 0, 0, 0, 0, 0, 40, 41, 42].getD k 0) Try.call21 (lines_fch G F Rd Rw u q _ _) ⟨(.plain rfl), (.plain rfl), (.plain rfl), trivial⟩ ⟨rfl, rfl, rfl, trivial⟩ (by kernel_rfl)) rfl (.nil _))))) ?_
        refine awp_block ?_
        refine awp_ent (show Ent _ ⟨[(2, .ref 2 0), (3, .pv (.rd [.i (u : Nat)])), (7, .ref 7 0), (8, .ref 8 0), (9, .pv (.rd [.i (q : Nat)])), (32, .int (F.length : Nat)), (33, .int (q : Nat)), (44, .clo (.func 24) [.pv (.rd [.i (q : Nat)]), .ref 44 0, .pv (.rd [.i (u : Nat)])]), (1000040, .pin 40 (ι0 40)), (1000041, .pin 41 (ι0 41)), (1000042, .pin 42 (ι0 42))], [(44, .box [.ref 40 0]), (2, .box [.ref 40 0]), (40, .box [.pv (.i G), .pv (.rows F), .pv (.i Rd), .pv (.i Rw), .own 41, .own 42]), (7, .box [.int (lineM (mostM G F Rd Rw f) G u q (linA G F Rd Rw u q) (firstM (mostM G F Rd Rw f) G F Rd Rw u M (q)) (0)).1]), (8, .box [.pv (.ints (lineM (mostM G F Rd Rw f) G u q (linA G F Rd Rw u q) (firstM (mostM G F Rd Rw f) G F Rd Rw u M (q)) (0)).2.1)]), (41, .mq (D1 (lineM (mostM G F Rd Rw f) G u q (linA G F Rd Rw u q) (firstM (mostM G F Rd Rw f) G F Rd Rw u M (q)) (0)).2.2.1)), (42, .mq (D2 (lineM (mostM G F Rd Rw f) G u q (linA G F Rd Rw u q) (firstM (mostM G F Rd Rw f) G F Rd Rw u M (q)) (0)).2.2.2))]⟩ from Ent.kept ⟨rfl, rfl, rfl, rfl, rfl, rfl, rfl, rfl, rfl, rfl, rfl, trivial⟩ ⟨rfl, rfl, rfl, rfl, rfl, rfl, rfl, trivial⟩) ?_
        refine awp_rangeFunc (y := 900) (cs := [.pv .any, .pv .any, .ref 2 0, .pv (.rd [.i (u : Nat)]), .pv .any, .pv .any, .pv .any, .ref 7 0, .ref 8 0, .pv (.rd [.i (q : Nat)]), .pv .any, .pv .any, .pv .any, .pv .any, .pv .any, .pv .any, .pv .any, .pv .any, .pv .any, .pv .any, .pv .any, .pv .any, .pv .any, .pv .any, .pv .any, .pv .any, .pv .any, .pv .any, .pv .any, .pv .any, .pv .any, .pv .any, .int (F.length : Nat), .int (q : Nat), .pv .any, .pv .any, .pv .any, .pv .any, .pv .any, .pv .any, .pv .any, .pv .any, .pv .any, .pv .any, .clo (.func 24) [.pv (.rd [.i (q : Nat)]), .ref 44 0, .pv (.rd [.i (u : Nat)])], .pv .any, .pv .any, .pv .any, .pv .any, .pv .any, .pv .any, .pv .any, .pv .any, .pv .any, .pv .any, .pv .any, .pv .any, .pv .any, .pv .any, .pv .any, .pv .any, .pv .any, .pv .any, .pv .any, .pv .any, .pv .any, .pv .any, .pv .any, .pv .any, .pv .any, .pv .any, .pv .any, .pv .any, .pv .any, .pv .any, .pv .any, .pv .any, .pv .any, .pv .any, .pv .any, .pv .any, .pv .any, .pv .any, .pv .any, .pv .any, .pv .any, .pv .any, .pv .any, .pv .any, .pv .any, .pv .any, .pv .any, .pv .any, .pv .any, .pv .any, .pv .any, .pv .any, .pv .any, .pv .any, .pv .any, .pv .any]) (H0 := [(44, .box [.ref 40 0]), (2, .box [.ref 40 0]), (40, .box [.pv (.i G), .pv (.rows F), .pv (.i Rd), .pv (.i Rw), .own 41, .own 42]), (7, .box [.int (lineM (mostM G F Rd Rw f) G u q (linA G F Rd Rw u q) (firstM (mostM G F Rd Rw f) G F Rd Rw u M (q)) (0)).1]), (8, .box [.pv (.ints (lineM (mostM G F Rd Rw f) G u q (linA G F Rd Rw u q) (firstM (mostM G F Rd Rw f) G F Rd Rw u M (q)) (0)).2.1)]), (41, .mq (D1 (lineM (mostM G F Rd Rw f) G u q (linA G F Rd Rw u q) (firstM (mostM G F Rd Rw f) G F Rd Rw u M (q)) (0)).2.2.1)), (42, .mq (D2 (lineM (mostM G F Rd Rw f) G u q (linA G F Rd Rw u q) (firstM (mostM G F Rd Rw f) G F Rd Rw u M (q)) (0)).2.2.2))]) (H0' := [(44, .box [.ref 40 0]), (2, .box [.ref 40 0]), (40, .box [.pv (.i G), .pv (.rows F), .pv (.i Rd), .pv (.i Rw), .own 41, .own 42]), (7, .box [.int (lineM (mostM G F Rd Rw f) G u q (linA G F Rd Rw u q) (firstM (mostM G F Rd Rw f) G F Rd Rw u M (q)) ((linA G F Rd Rw u q).length)).1]), (8, .box [.pv (.ints (lineM (mostM G F Rd Rw f) G u q (linA G F Rd Rw u q) (firstM (mostM G F Rd Rw f) G F Rd Rw u M (q)) ((linA G F Rd Rw u q).length)).2.1)]), (41, .mq (D1 (lineM (mostM G F Rd Rw f) G u q (linA G F Rd Rw u q) (firstM (mostM G F Rd Rw f) G F Rd Rw u M (q)) ((linA G F Rd Rw u q).length)).2.2.1)), (42, .mq (D2 (lineM (mostM G F Rd Rw f) G u q (linA G F Rd Rw u q) (firstM (mostM G F Rd Rw f) G F Rd Rw u M (q)) ((linA G F Rd Rw u q).length)).2.2.2))]) (v := .pv (.tup [])) (fun k => k) rfl Try.call24 (lines1_fch G F Rd Rw hv u q _ _ _ (fun k => (lineM (mostM G F Rd Rw f) G u q (linA G F Rd Rw u q) (firstM (mostM G F Rd Rw f) G F Rd Rw u M (q)) (k)).1) (fun k => (lineM (mostM G F Rd Rw f) G u q (linA G F Rd Rw u q) (firstM (mostM G F Rd Rw f) G F Rd Rw u M (q)) (k)).2.1) (fun k => D1 (lineM (mostM G F Rd Rw f) G u q (linA G F Rd Rw u q) (firstM (mostM G F Rd Rw f) G F Rd Rw u M (q)) (k)).2.2.1) (fun k => D2 (lineM (mostM G F Rd Rw f) G u q (linA G F Rd Rw u q) (firstM (mostM G F Rd Rw f) G F Rd Rw u M (q)) (k)).2.2.2) (fun k hk => (YH.intro rfl fun hfit ι0 l => ?_)) hq hu) rfl rfl rfl rfl rfl ⟨rfl, rfl, rfl, rfl, rfl, rfl, rfl, rfl, trivial⟩ (by kernel_rfl) ?_
        · have hm := getD_mem (l := (linA G F Rd Rw u q)) [] (show k < (linA G F Rd Rw u q).length from hk)
          have hl := linA_in hS hq hm
          have hnx := next_in hS hq hu hb hm
          have hTk := lineM_ok hS hu hq hb hSq hrc k (Nat.le_of_lt hk)
          have hr := hrc _ _ hnx.1 hnx.2 hTk.ok
          have hrn := orTo_lt (u := u ||| (2 ^ q - 1)) (n := 8) (l := ((linA G F Rd Rw u q).getD k [])) (by have := Nat.pow_lt_pow_right (a := 2) (by omega) (show q < 8 by omega); have := Nat.two_pow_pos q; exact Nat.or_lt_two_pow hu (by omega))
          change awp _ _ _ _ ⟨[(45, .pv (.ints ((linA G F Rd Rw u q).getD k []))), (0, .pv .any), (1, .pv .any), (2, .ref 2 0), (3, .pv (.rd [.i (u : Nat)])), (4, .pv .any), (5, .pv .any), (6, .pv .any), (7, .ref 7 0), (8, .ref 8 0), (9, .pv (.rd [.i (q : Nat)])), (10, .pv .any), (11, .pv .any), (12, .pv .any), (13, .pv .any), (14, .pv .any), (15, .pv .any), (16, .pv .any), (17, .pv .any), (18, .pv .any), (19, .pv .any), (20, .pv .any), (21, .pv .any), (22, .pv .any), (23, .pv .any), (24, .pv .any), (25, .pv .any), (26, .pv .any), (27, .pv .any), (28, .pv .any), (29, .pv .any), (30, .pv .any), (31, .pv .any), (32, .int (F.length : Nat)), (33, .int (q : Nat)), (34, .pv .any), (35, .pv .any), (36, .pv .any), (37, .pv .any), (38, .pv .any), (39, .pv .any), (40, .pv .any), (41, .pv .any), (42, .pv .any), (43, .pv .any), (44, .clo (.func 24) [.pv (.rd [.i (q : Nat)]), .ref 44 0, .pv (.rd [.i (u : Nat)])]), (45, .pv .any), (46, .pv .any), (47, .pv .any), (48, .pv .any), (49, .pv .any), (50, .pv .any), (51, .pv .any), (52, .pv .any), (53, .pv .any), (54, .pv .any), (55, .pv .any), (56, .pv .any), (57, .pv .any), (58, .pv .any), (59, .pv .any), (60, .pv .any), (61, .pv .any), (62, .pv .any), (63, .pv .any), (64, .pv .any), (65, .pv .any), (66, .pv .any), (67, .pv .any), (68, .pv .any), (69, .pv .any), (70, .pv .any), (71, .pv .any), (72, .pv .any), (73, .pv .any), (74, .pv .any), (75, .pv .any), (76, .pv .any), (77, .pv .any), (78, .pv .any), (79, .pv .any), (80, .pv .any), (81, .pv .any), (82, .pv .any), (83, .pv .any), (84, .pv .any), (85, .pv .any), (86, .pv .any), (87, .pv .any), (88, .pv .any), (89, .pv .any), (90, .pv .any), (91, .pv .any), (92, .pv .any), (93, .pv .any), (94, .pv .any), (95, .pv .any), (96, .pv .any), (97, .pv .any), (98, .pv .any), (99, .pv .any), (100, .pv .any), (1000900, .pin 900 (ι0 900)), (1000044, .pin 44 (ι0 44)), (1000002, .pin 2 (ι0 2)), (1000040, .pin 40 (ι0 40)), (1000007, .pin 7 (ι0 7)), (1000008, .pin 8 (ι0 8)), (1000041, .pin 41 (ι0 41)), (1000042, .pin 42 (ι0 42))], [(44, .box [.ref 40 0]), (2, .box [.ref 40 0]), (40, .box [.pv (.i G), .pv (.rows F), .pv (.i Rd), .pv (.i Rw), .own 41, .own 42]), (7, .box [.int (lineM (mostM G F Rd Rw f) G u q (linA G F Rd Rw u q) (firstM (mostM G F Rd Rw f) G F Rd Rw u M (q)) (k)).1]), (8, .box [.pv (.ints (lineM (mostM G F Rd Rw f) G u q (linA G F Rd Rw u q) (firstM (mostM G F Rd Rw f) G F Rd Rw u M (q)) (k)).2.1)]), (41, .mq (D1 (lineM (mostM G F Rd Rw f) G u q (linA G F Rd Rw u q) (firstM (mostM G F Rd Rw f) G F Rd Rw u M (q)) (k)).2.2.1)), (42, .mq (D2 (lineM (mostM G F Rd Rw f) G u q (linA G F Rd Rw u q) (firstM (mostM G F Rd Rw f) G F Rd Rw u M (q)) (k)).2.2.2))]⟩
          refine awp_ent (show Ent _ ⟨[(45, .pv (.ints ((linA G F Rd Rw u q).getD k []))), (2, .ref 2 0), (3, .pv (.rd [.i (u : Nat)])), (7, .ref 7 0), (8, .ref 8 0), (9, .pv (.rd [.i (q : Nat)])), (32, .int (F.length : Nat)), (33, .int (q : Nat)), (1000900, .pin 900 (ι0 900)), (1000044, .pin 44 (ι0 44)), (1000002, .pin 2 (ι0 2)), (1000040, .pin 40 (ι0 40)), (1000007, .pin 7 (ι0 7)), (1000008, .pin 8 (ι0 8)), (1000041, .pin 41 (ι0 41)), (1000042, .pin 42 (ι0 42))], [(44, .box [.ref 40 0]), (2, .box [.ref 40 0]), (40, .box [.pv (.i G), .pv (.rows F), .pv (.i Rd), .pv (.i Rw), .own 41, .own 42]), (7, .box [.int (lineM (mostM G F Rd Rw f) G u q (linA G F Rd Rw u q) (firstM (mostM G F Rd Rw f) G F Rd Rw u M (q)) (k)).1]), (8, .box [.pv (.ints (lineM (mostM G F Rd Rw f) G u q (linA G F Rd Rw u q) (firstM (mostM G F Rd Rw f) G F Rd Rw u M (q)) (k)).2.1)]), (41, .mq (D1 (lineM (mostM G F Rd Rw f) G u q (linA G F Rd Rw u q) (firstM (mostM G F Rd Rw f) G F Rd Rw u M (q)) (k)).2.2.1)), (42, .mq (D2 (lineM (mostM G F Rd Rw f) G u q (linA G F Rd Rw u q) (firstM (mostM G F Rd Rw f) G F Rd Rw u M (q)) (k)).2.2.2))]⟩ from Ent.kept ⟨rfl, rfl, rfl, rfl, rfl, rfl, rfl, rfl, rfl, rfl, rfl, rfl, rfl, rfl, rfl, rfl, trivial⟩ ⟨rfl, rfl, rfl, rfl, rfl, rfl, rfl, trivial⟩) ?_
          refine awp_region rfl (.n (fun _ => op_assign (.plain rfl)) (.nil _)) ?_
          refine awp_block ?_
          refine awp_seq ?_
          refine awp_region_draw mixed rfl (.n (fun _ => op_load Try.isAgg3 (.plain rfl)) (.n (fun _ => op_load Try.isAgg3 (.plain rfl)) (.n (fun _ => op_shl (.plain rfl) (.plain rfl) ?_) (.n (fun _ => op_sub (.plain rfl) (.plain rfl) ?_) (.n (fun _ => OpT.intEq (or_shl1 _ _) (op_bor (.plain rfl) (.plain rfl) ?_)) (.n (fun _ => op_assign (.plain rfl)) (.nil _))))))) ?d2 ?_
          · exact ⟨by omega, by omega, shl_in (by omega)⟩
          · exact shl_in1 (x := q) (by omega)
          · refine ⟨by omega, ?_⟩
            rw [shl_one]
            have := Nat.two_pow_pos q
            show (0 : Int) ≤ ((2 ^ q : Nat) : Int) - 1
            omega
          · kernel_rfl
          refine awp_seq ?_
          refine awp_region rfl (.n (fun _ => op_move (.plain rfl)) (.n (fun _ => op_len (s := 0) Try.underlying35 (.plain rfl)) (.n (fun _ => op_assign (.plain rfl)) (.nil _)))) ?_
          refine awp_seq ?_
          refine awp_seq ?_
          refine awp_region rfl (.n (fun _ => op_move (.plain rfl)) (.n (fun _ => op_len (s := 0) Try.underlying35 (.plain rfl)) (.n (fun _ => op_move (.plain rfl)) (.nil _)))) ?_
          refine awp_block ?_
          refine awp_loop (σ := Nat) (fun (j : Nat) => j ≤ ((linA G F Rd Rw u q).getD k []).length) (fun (j : Nat) => ⟨[(2, .ref 2 0), (3, .pv (.rd [.i (u : Nat)])), (7, .ref 7 0), (8, .ref 8 0), (9, .pv (.rd [.i (q : Nat)])), (10, .pv (.ints ((linA G F Rd Rw u q).getD k []))), (11, .int (orTo (u ||| (2 ^ q - 1)) ((linA G F Rd Rw u q).getD k []) j : Nat)), (12, .int (((linA G F Rd Rw u q).getD k []).length : Nat)), (53, .pv (.ints ((linA G F Rd Rw u q).getD k []))), (54, .int (((linA G F Rd Rw u q).getD k []).length : Nat)), (55, .int (j : Nat)), (1000040, .pin 40 (ι0 40)), (1000041, .pin 41 (ι0 41)), (1000042, .pin 42 (ι0 42)), (1000900, .pin 900 (ι0 900)), (1000044, .pin 44 (ι0 44)), (1000002, .pin 2 (ι0 2)), (1000040, .pin 40 (ι0 40)), (1000007, .pin 7 (ι0 7)), (1000008, .pin 8 (ι0 8)), (1000041, .pin 41 (ι0 41)), (1000042, .pin 42 (ι0 42))], [(44, .box [.ref 40 0]), (2, .box [.ref 40 0]), (40, .box [.pv (.i G), .pv (.rows F), .pv (.i Rd), .pv (.i Rw), .own 41, .own 42]), (7, .box [.int (lineM (mostM G F Rd Rw f) G u q (linA G F Rd Rw u q) (firstM (mostM G F Rd Rw f) G F Rd Rw u M (q)) (k)).1]), (8, .box [.pv (.ints (lineM (mostM G F Rd Rw f) G u q (linA G F Rd Rw u q) (firstM (mostM G F Rd Rw f) G F Rd Rw u M (q)) (k)).2.1)]), (41, .mq (D1 (lineM (mostM G F Rd Rw f) G u q (linA G F Rd Rw u q) (firstM (mostM G F Rd Rw f) G F Rd Rw u M (q)) (k)).2.2.1)), (42, .mq (D2 (lineM (mostM G F Rd Rw f) G u q (linA G F Rd Rw u q) (firstM (mostM G F Rd Rw f) G F Rd Rw u M (q)) (k)).2.2.2))]⟩) (fun (j : Nat) => ((linA G F Rd Rw u q).getD k []).length - j) 0 ?_ (Ent.kept ⟨rfl, rfl, rfl, rfl, rfl, rfl, rfl, rfl, rfl, rfl, rfl, rfl, rfl, rfl, rfl, rfl, rfl, rfl, rfl, rfl, rfl, rfl, trivial⟩ ⟨rfl, rfl, rfl, rfl, rfl, rfl, rfl, trivial⟩) ?_
          · exact Nat.zero_le _
          rintro j hp
          try dsimp only at hp
          have hj := hp
          refine awp_seq ?_
          refine awp_region rfl (.n (fun _ => op_lss (.plain rfl) (.plain rfl)) (.nil _)) ?_
          refine awp_seq ?_
          refine awp_cond rfl (fun h => ?_) (fun h => ?_)
          · skip
            have h := of_decide_eq_true h
            have hxj := hl.2.2.2 j (by omega)
            refine awp_skip ?_
            refine awp_seq ?_
            refine awp_block ?_
            refine awp_seq ?_
            refine awp_region rfl (.n (fun _ => op_indexAddrN Try.underlying35 Try.sizeOf3 (.plain rfl) (.plain rfl) (fun _ => rfl) ?_) (.n (fun _ => op_load Try.isAgg3 (.plain rfl)) (.n (fun _ => op_assign (.plain rfl)) (.nil _)))) ?_
            · omega
            refine awp_region rfl (.n (fun _ => op_move (.plain rfl)) (.n (fun _ => op_move (.plain rfl)) (.n (fun _ => op_shl (.plain rfl) (.plain rfl) ?_) (.n (fun _ => OpT.intEq (or_shl _ _) (op_bor (.plain rfl) (.plain rfl) ?_)) (.n (fun _ => op_assign (.plain rfl)) (.nil _)))))) ?_
            · exact ⟨by omega, by omega, shl_in (by omega)⟩
            · exact ⟨by omega, by rw [shl_one]; exact Int.natCast_nonneg _⟩
            refine awp_region rfl (.n (fun _ => op_add (.plain rfl) (.plain rfl) ?_) (.n (fun _ => op_move (.plain rfl)) (.nil _))) ?_
            · unfold InR; omega
            exact ⟨j + 1, by omega, by dsimp only; omega, (Ent.kept ⟨rfl, rfl, rfl, rfl, rfl, rfl, rfl, rfl, rfl, rfl, rfl, rfl, rfl, rfl, rfl, rfl, rfl, rfl, rfl, rfl, rfl, rfl, trivial⟩ ⟨rfl, rfl, rfl, rfl, rfl, rfl, rfl, trivial⟩)⟩
          · skip
            have h := of_decide_eq_false h
            obtain rfl : j = ((linA G F Rd Rw u q).getD k []).length := by omega
            refine awp_exit ?_
            refine awp_seq ?_
            refine awp_seq ?_
            refine awp_region_draw mixed rfl (.n (fun _ => op_load Try.isAgg3 (.plain rfl)) (.r (op_loadR Try.isAgg41 (.plain rfl) rfl rfl) (.n (fun _ => op_nilCheckR (.plain rfl)) (.n (fun _ => op_fieldAddrR Try.underlying44 rfl rfl Try.sizeOf24 (.plain rfl)) (.n (fun _ => op_fieldAddrR Try.underlying24 rfl rfl Try.sizeOf3 (.plain rfl)) (.r (op_loadR Try.isAgg3 (.plain rfl) rfl rfl) (.n (fun _ => op_lss (.plain rfl) (.plain rfl)) (.nil _)))))))) ?d3 ?_
            · kernel_rfl
            refine awp_cond rfl (fun h => ?_) (fun h => ?_)
            · skip
              have hg : giftL G q ((linA G F Rd Rw u q).getD k []) = (((linA G F Rd Rw u q).getD k []).length : Int) - 1 := if_pos (of_decide_eq_true h)
              refine awp_region rfl (.n (fun _ => op_move (.plain rfl)) (.n (fun _ => op_sub (.plain rfl) (.plain rfl) ?_) (.n (fun _ => op_assign (.plain rfl)) (.nil _)))) ?_
              · unfold InR; omega
              refine awp_seq ?_
              refine awp_region rfl (.n (fun _ => op_move (.plain rfl)) (.r (op_loadR Try.isAgg41 (.plain rfl) rfl rfl) (.n (fun _ => op_move (.plain rfl)) (.e (op_callH (fun k => [0, 0, 0, 0, 0, 0, 0, 0, 0, 0, 0, 0, 0, 0, 0, 0, 0, 0, 0, 0, 0, 0, 0, 0, 0, 0, 0, 0, 0, 0, 0, 0, 0, 0, 0, 0, 0, 0, 0, 0, 40, 41, 42].getD k 0) Try.call17 (ih f (by omega) (nextM u q ((linA G F Rd Rw u q).getD k [])) (lineM (mostM G F Rd Rw f) G u q (linA G F Rd Rw u q) (firstM (mostM G F Rd Rw f) G F Rd Rw u M (q)) (k)).2.2 ?_ ?_ ?_ rfl) ⟨(.plain rfl), (.plain rfl), trivial⟩ ⟨rfl, rfl, rfl, trivial⟩ (by kernel_rfl)) rfl (.n (fun _ => op_add (.plain rfl) (.plain rfl) ?_) (.n (fun _ => op_assign (.plain rfl)) (.nil _))))))) ?_
              · exact hnx.2
              · have := hnx.1; omega
              · exact hTk.ok
              · have hrv := hr.val
                unfold InR; omega
              refine awp_seq ?_
              refine awp_region rfl (.n (fun _ => op_move (.plain rfl)) (.r (op_loadR Try.isAgg3 (.plain rfl) rfl rfl) (.n (fun _ => op_gtr (.plain rfl) (.plain rfl)) (.nil _)))) ?_
              refine awp_cond rfl (fun h => ?_) (fun h => ?_)
              · skip
                have hT : (lineM (mostM G F Rd Rw f) G u q (linA G F Rd Rw u q) (firstM (mostM G F Rd Rw f) G F Rd Rw u M (q)) (k + 1)) = (giftL G q ((linA G F Rd Rw u q).getD k []) + (mostM G F Rd Rw f (nextM u q ((linA G F Rd Rw u q).getD k [])) (lineM (mostM G F Rd Rw f) G u q (linA G F Rd Rw u q) (firstM (mostM G F Rd Rw f) G F Rd Rw u M (q)) (k)).2.2).1, ((linA G F Rd Rw u q).getD k []), (mostM G F Rd Rw f (nextM u q ((linA G F Rd Rw u q).getD k [])) (lineM (mostM G F Rd Rw f) G u q (linA G F Rd Rw u q) (firstM (mostM G F Rd Rw f) G F Rd Rw u M (q)) (k)).2.2).2) := by
                  simp only [lineM]
                  exact if_pos (by rw [hg]; exact of_decide_eq_true h)
                rw [hg] at hT
                refine awp_region rfl (.n (fun _ => op_move (.plain rfl)) (.n (fun _ => op_move (.plain rfl)) (.e (op_storeR Try.sizeOf3 (.plain rfl) (.plain rfl) rfl (by first | decide | exact Nat.le_of_ble_eq_true rfl) rfl (by simp) (by simp)) rfl (.e (op_storeR Try.sizeOf35 (.plain rfl) (.plain rfl) rfl (by first | decide | exact Nat.le_of_ble_eq_true rfl) rfl (by simp) (by simp)) rfl (.nil _))))) ?_
                exact retYe ⟨rfl, rfl, rfl, (by have h := congrArg (fun (s : MSt) => some (Blk.box [SV.int s.1])) (hT.symm); exact h), (by have h := congrArg (fun (s : MSt) => some (Blk.box [SV.pv (.ints s.2.1)])) (hT.symm); exact h), (by have h := congrArg (fun (s : MSt) => some (Blk.mq (D1 s.2.2.1))) (hT.symm); exact h), (by have h := congrArg (fun (s : MSt) => some (Blk.mq (D2 s.2.2.2))) (hT.symm); exact h), trivial⟩ ⟨.inr rfl, .inr rfl, .inr rfl, .inr rfl, .inr rfl, .inr rfl, .inr rfl, .inr rfl, trivial⟩
              · skip
                have hT : (lineM (mostM G F Rd Rw f) G u q (linA G F Rd Rw u q) (firstM (mostM G F Rd Rw f) G F Rd Rw u M (q)) (k + 1)) = ((lineM (mostM G F Rd Rw f) G u q (linA G F Rd Rw u q) (firstM (mostM G F Rd Rw f) G F Rd Rw u M (q)) (k)).1, (lineM (mostM G F Rd Rw f) G u q (linA G F Rd Rw u q) (firstM (mostM G F Rd Rw f) G F Rd Rw u M (q)) (k)).2.1, (mostM G F Rd Rw f (nextM u q ((linA G F Rd Rw u q).getD k [])) (lineM (mostM G F Rd Rw f) G u q (linA G F Rd Rw u q) (firstM (mostM G F Rd Rw f) G F Rd Rw u M (q)) (k)).2.2).2) := by
                  simp only [lineM]
                  exact if_neg (by rw [hg]; exact of_decide_eq_false h)
                refine awp_skip ?_
                exact retYe ⟨rfl, rfl, rfl, (by have h := congrArg (fun (s : MSt) => some (Blk.box [SV.int s.1])) (hT.symm); exact h), (by have h := congrArg (fun (s : MSt) => some (Blk.box [SV.pv (.ints s.2.1)])) (hT.symm); exact h), (by have h := congrArg (fun (s : MSt) => some (Blk.mq (D1 s.2.2.1))) (hT.symm); exact h), (by have h := congrArg (fun (s : MSt) => some (Blk.mq (D2 s.2.2.2))) (hT.symm); exact h), trivial⟩ ⟨.inr rfl, .inr rfl, .inr rfl, .inr rfl, .inr rfl, .inr rfl, .inr rfl, .inr rfl, trivial⟩
            · skip
              have hg : giftL G q ((linA G F Rd Rw u q).getD k []) = (((linA G F Rd Rw u q).getD k []).length : Int) := if_neg (of_decide_eq_false h)
              refine awp_skip ?_
              refine awp_seq ?_
              refine awp_region rfl (.n (fun _ => op_move (.plain rfl)) (.r (op_loadR Try.isAgg41 (.plain rfl) rfl rfl) (.n (fun _ => op_move (.plain rfl)) (.e (op_callH (fun k => [0, 0, 0, 0, 0, 0, 0, 0, 0, 0, 0, 0, 0, 0, 0, 0, 0, 0, 0, 0, 0, 0, 0, 0, 0, 0, 0, 0, 0, 0, 0, 0, 0, 0, 0, 0, 0, 0, 0, 0, 40, 41, 42].getD k 0) Try.call17 (ih f (by omega) (nextM u q ((linA G F Rd Rw u q).getD k [])) (lineM (mostM G F Rd Rw f) G u q (linA G F Rd Rw u q) (firstM (mostM G F Rd Rw f) G F Rd Rw u M (q)) (k)).2.2 ?_ ?_ ?_ rfl) ⟨(.plain rfl), (.plain rfl), trivial⟩ ⟨rfl, rfl, rfl, trivial⟩ (by kernel_rfl)) rfl (.n (fun _ => op_add (.plain rfl) (.plain rfl) ?_) (.n (fun _ => op_assign (.plain rfl)) (.nil _))))))) ?_
              · exact hnx.2
              · have := hnx.1; omega
              · exact hTk.ok
              · have hrv := hr.val
                unfold InR; omega
              refine awp_seq ?_
              refine awp_region rfl (.n (fun _ => op_move (.plain rfl)) (.r (op_loadR Try.isAgg3 (.plain rfl) rfl rfl) (.n (fun _ => op_gtr (.plain rfl) (.plain rfl)) (.nil _)))) ?_
              refine awp_cond rfl (fun h => ?_) (fun h => ?_)
              · skip
                have hT : (lineM (mostM G F Rd Rw f) G u q (linA G F Rd Rw u q) (firstM (mostM G F Rd Rw f) G F Rd Rw u M (q)) (k + 1)) = (giftL G q ((linA G F Rd Rw u q).getD k []) + (mostM G F Rd Rw f (nextM u q ((linA G F Rd Rw u q).getD k [])) (lineM (mostM G F Rd Rw f) G u q (linA G F Rd Rw u q) (firstM (mostM G F Rd Rw f) G F Rd Rw u M (q)) (k)).2.2).1, ((linA G F Rd Rw u q).getD k []), (mostM G F Rd Rw f (nextM u q ((linA G F Rd Rw u q).getD k [])) (lineM (mostM G F Rd Rw f) G u q (linA G F Rd Rw u q) (firstM (mostM G F Rd Rw f) G F Rd Rw u M (q)) (k)).2.2).2) := by
                  simp only [lineM]
                  exact if_pos (by rw [hg]; exact of_decide_eq_true h)
                rw [hg] at hT
                refine awp_region rfl (.n (fun _ => op_move (.plain rfl)) (.n (fun _ => op_move (.plain rfl)) (.e (op_storeR Try.sizeOf3 (.plain rfl) (.plain rfl) rfl (by first | decide | exact Nat.le_of_ble_eq_true rfl) rfl (by simp) (by simp)) rfl (.e (op_storeR Try.sizeOf35 (.plain rfl) (.plain rfl) rfl (by first | decide | exact Nat.le_of_ble_eq_true rfl) rfl (by simp) (by simp)) rfl (.nil _))))) ?_
                exact retYe ⟨rfl, rfl, rfl, (by have h := congrArg (fun (s : MSt) => some (Blk.box [SV.int s.1])) (hT.symm); exact h), (by have h := congrArg (fun (s : MSt) => some (Blk.box [SV.pv (.ints s.2.1)])) (hT.symm); exact h), (by have h := congrArg (fun (s : MSt) => some (Blk.mq (D1 s.2.2.1))) (hT.symm); exact h), (by have h := congrArg (fun (s : MSt) => some (Blk.mq (D2 s.2.2.2))) (hT.symm); exact h), trivial⟩ ⟨.inr rfl, .inr rfl, .inr rfl, .inr rfl, .inr rfl, .inr rfl, .inr rfl, .inr rfl, trivial⟩
              · skip
                have hT : (lineM (mostM G F Rd Rw f) G u q (linA G F Rd Rw u q) (firstM (mostM G F Rd Rw f) G F Rd Rw u M (q)) (k + 1)) = ((lineM (mostM G F Rd Rw f) G u q (linA G F Rd Rw u q) (firstM (mostM G F Rd Rw f) G F Rd Rw u M (q)) (k)).1, (lineM (mostM G F Rd Rw f) G u q (linA G F Rd Rw u q) (firstM (mostM G F Rd Rw f) G F Rd Rw u M (q)) (k)).2.1, (mostM G F Rd Rw f (nextM u q ((linA G F Rd Rw u q).getD k [])) (lineM (mostM G F Rd Rw f) G u q (linA G F Rd Rw u q) (firstM (mostM G F Rd Rw f) G F Rd Rw u M (q)) (k)).2.2).2) := by
                  simp only [lineM]
                  exact if_neg (by rw [hg]; exact of_decide_eq_false h)
                refine awp_skip ?_
                exact retYe ⟨rfl, rfl, rfl, (by have h := congrArg (fun (s : MSt) => some (Blk.box [SV.int s.1])) (hT.symm); exact h), (by have h := congrArg (fun (s : MSt) => some (Blk.box [SV.pv (.ints s.2.1)])) (hT.symm); exact h), (by have h := congrArg (fun (s : MSt) => some (Blk.mq (D1 s.2.2.1))) (hT.symm); exact h), (by have h := congrArg (fun (s : MSt) => some (Blk.mq (D2 s.2.2.2))) (hT.symm); exact h), trivial⟩ ⟨.inr rfl, .inr rfl, .inr rfl, .inr rfl, .inr rfl, .inr rfl, .inr rfl, .inr rfl, trivial⟩
        refine awp_region rfl (.n (fun _ => op_add (.plain rfl) (.plain rfl) ?_) (.n (fun _ => op_move (.plain rfl)) (.nil _))) ?_
        · unfold InR; omega
        exact ⟨q + 1, by omega, by dsimp only; omega, (Ent.kept ⟨rfl, rfl, rfl, rfl, rfl, rfl, rfl, rfl, rfl, trivial⟩ ⟨rfl, rfl, (congrArg (fun (s : MSt) => some (Blk.box [SV.int s.1])) (by simp only [firstM]; first | exact (if_pos hb).symm | exact (if_neg (by rw [hb]; decide)).symm)), (congrArg (fun (s : MSt) => some (Blk.box [SV.pv (.ints s.2.1)])) (by simp only [firstM]; first | exact (if_pos hb).symm | exact (if_neg (by rw [hb]; decide)).symm)), (congrArg (fun (s : MSt) => some (Blk.mq (D1 s.2.2.1))) (by simp only [firstM]; first | exact (if_pos hb).symm | exact (if_neg (by rw [hb]; decide)).symm)), (congrArg (fun (s : MSt) => some (Blk.mq (D2 s.2.2.2))) (by simp only [firstM]; first | exact (if_pos hb).symm | exact (if_neg (by rw [hb]; decide)).symm)), trivial⟩)⟩
    · skip
      have h := of_decide_eq_false h
      obtain rfl : q = F.length := by omega
      refine awp_exit ?_
      refine awp_seq ?_
      refine awp_ent (Ent.giveBox 7 rfl rfl rfl) ?_
      refine awp_ent (Ent.giveBox 8 rfl rfl rfl) ?_
      have hn1 : List.lookup (u : Int) (firstM (mostM G F Rd Rw f) G F Rd Rw u M (F.length)).2.2.1 = none := lookup_noneQ.2 fun c => by
        rcases hSq.new _ c with c | c
        · exact lookup_noneQ.1 hL c
        · omega
      have hn2 : List.lookup (u : Int) (firstM (mostM G F Rd Rw f) G F Rd Rw u M (F.length)).2.2.2 = none := lookup_noneQ.2 (by rw [hSq.ok.keys]; exact lookup_noneQ.1 hn1)
      have hlen := hSq.ok.len
      refine awp_region_drawG mixed rfl (.look 2 rfl (fun _ hl => op_loadR Try.isAgg41 (.plain rfl)  hl rfl) (.n (fun _ => op_nilCheckR (.plain rfl)) (.n (fun _ => op_fieldAddrR Try.underlying44 rfl rfl Try.sizeOf37 (.plain rfl)) (.look 40 rfl (fun _ hl => op_loadR Try.isAgg37 (.plain rfl)  hl rfl) (.n (fun _ => op_load Try.isAgg3 (.plain rfl)) (.look 2 rfl (fun _ hl => op_loadR Try.isAgg41 (.plain rfl)  hl rfl) (.n (fun _ => op_nilCheckR (.plain rfl)) (.n (fun _ => op_fieldAddrR Try.underlying44 rfl rfl Try.sizeOf42 (.plain rfl)) (.look 40 rfl (fun _ hl => op_loadR Try.isAgg42 (.plain rfl)  hl rfl) (.n (fun _ => op_load Try.isAgg3 (.plain rfl)) (.n (fun _ => op_load Try.isAgg3 (.plain rfl)) (.n (fun _ => op_load Try.isAgg35 (.plain rfl)) (.e (op_mapEntryQ Try.underlying37 Try.underlying3 Try.zeroValue3 rep_i0 (.plain rfl) rfl (.plain rfl) ?_ ?_) rfl (.n (fun _ => op_extract (.plain rfl) rfl) (.e (op_entryStoreN (.plain rfl) rfl (.plain rfl) (.plain rfl)) rfl (.e (op_mapEntryQ Try.underlying42 Try.underlying3 Try.zeroValue35 rep_ints0 (.plain rfl) rfl (.plain rfl) ?_ ?_) rfl (.n (fun _ => op_extract (.plain rfl) rfl) (.e (op_entryStoreN (.plain rfl) rfl (.plain rfl) (.plain rfl)) rfl (.nil _))))))))))))))))))) ?d4 ?dg4 ?_
      · rw [D1_lookup, hn1]; rfl
      · unfold D1; rw [List.length_map]; omega
      · rw [D2_lookup, hn2]; rfl
      · unfold D2; rw [List.length_map]; omega
      · kernel_rfl
      · refine gOk_each [0, 3, 5, 8] [12, 14, 15, 17] (by kernel_rfl) (by kernel_rfl) fun i hi => ?_
        simp only [List.mem_cons, List.not_mem_nil, or_false] at hi
        rcases hi with rfl | rfl | rfl | rfl
        · exact ⟨2, _, rfl, rfl, fun k hk => by simp only [List.mem_cons, List.not_mem_nil, or_false] at hk; rcases hk with rfl | rfl | rfl | rfl <;> rfl⟩
        · exact ⟨40, _, rfl, rfl, fun k hk => by simp only [List.mem_cons, List.not_mem_nil, or_false] at hk; rcases hk with rfl | rfl | rfl | rfl <;> rfl⟩
        · exact ⟨2, _, rfl, rfl, fun k hk => by simp only [List.mem_cons, List.not_mem_nil, or_false] at hk; rcases hk with rfl | rfl | rfl | rfl <;> rfl⟩
        · exact ⟨40, _, rfl, rfl, fun k hk => by simp only [List.mem_cons, List.not_mem_nil, or_false] at hk; rcases hk with rfl | rfl | rfl | rfl <;> rfl⟩
      refine awp_seq ?_
      refine awp_region rfl (.n (fun _ => op_load Try.isAgg3 (.plain rfl)) (.n (fun _ => op_assign (.plain rfl)) (.nil _))) ?_
      refine awp_ret ?_
      refine retH.ret ?_
      refine retH1 rfl rfl ⟨rfl, (congrArg (fun m => some (Blk.mq m)) (by rw [mostM_new hL]; unfold D1; rw [List.map_append]; rfl)), (congrArg (fun m => some (Blk.mq m)) (by rw [mostM_new hL]; unfold D2; rw [List.map_append]; rfl)), trivial⟩ ⟨.inr rfl, .inr rfl, .inr rfl, trivial⟩ ?_
      rw [mostM_new hL]

end Go.Proofs.Ytnkhlgkcohpahaa

