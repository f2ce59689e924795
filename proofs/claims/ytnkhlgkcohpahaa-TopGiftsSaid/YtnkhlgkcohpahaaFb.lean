/- The most gifts, as the document counts them. Conditions: each theorem names its own. -/
import Derived.Test.YtnkhlgkcohpahaaProg
import Derived.Test.YtnkhlgkcohpahaaFa
import Derived.Test.YtnkhlgkcohpahaaAbsV
namespace Go.Proofs.Ytnkhlgkcohpahaa
open Go.Abs
set_option linter.unusedVariables false
set_option linter.unusedSimpArgs false

/-! ### What swaps that may be are like -/
structure SOk (G : Int) (F : List (List Int)) (Rd Rw : Int) : Prop where
  n8 : F.length ≤ 8
  g : 0 ≤ G ∧ G ≤ (F.length : Int)
  rd : 0 ≤ Rd ∧ Rd ≤ (F.length : Int)
  rw' : 0 ≤ Rw ∧ Rw ≤ (F.length : Int)
  fit : ∀ i, i < F.length → ∀ k, k < (F.getD i []).length → G ≤ (F.getD i []).getD k 0 ∧ (F.getD i []).getD k 0 < (F.length : Int) ∧ (F.getD i []).getD k 0 ≠ (i : Int)
  len : ∀ i, i < F.length → (F.getD i []).length ≤ F.length
theorem sok {G : Int} {F : List (List Int)} {Rd Rw : Int} (h : mayE G F Rd Rw = 0) : SOk G F Rd Rw := by
  have h8 := mayE_len h
  unfold mayE at h
  rw [if_neg (by omega)] at h
  split at h
  · omega
  · rename_i h7
    split at h
    · omega
    · rename_i h9
      have hf : ∀ i, i < F.length → ∀ k, k < (F.getD i []).length → fitB G F.length i (F.getD i []) k = 0 := fun i hi k hk => firstE_zero (firstE_zero h i hi) k hk
      have hf2 : ∀ i, i < F.length → ∀ k, k < (F.getD i []).length → ¬ ((((F.getD i []).getD k 0 < G ∨ (F.length : Int) ≤ (F.getD i []).getD k 0) ∨ (F.getD i []).getD k 0 = (i : Int)) ∨ 0 < k ∧ (F.getD i []).getD k 0 ≤ (F.getD i []).getD (k - 1) 0) := fun i hi k hk c => by
        have := hf i hi k hk
        unfold fitB at this
        rw [if_pos c] at this
        omega
      have hup : ∀ i, i < F.length → ∀ k, k < (F.getD i []).length → (k : Int) ≤ (F.getD i []).getD k 0 := by
        intro i hi k
        induction k with
        | zero => intro hk; have := hf2 i hi 0 hk; omega
        | succ k ih =>
          intro hk
          have h1 := ih (by omega)
          have h2 := hf2 i hi (k + 1) hk
          rw [Nat.add_sub_cancel] at h2
          omega
      refine ⟨by omega, by omega, by omega, by omega, fun i hi k hk => by have := hf2 i hi k hk; omega, fun i hi => ?_⟩
      rcases Nat.lt_or_ge F.length (F.getD i []).length with hc | hc
      · have h1 := hup i hi F.length hc
        have h2 := hf2 i hi F.length hc
        omega
      · exact hc
/-! ### All lines from one on, as the document looks for them -/
def goTo (p : Int → Bool) (g : Int → List (List Int)) (r : List Int) : Nat → List (List Int)
  | 0 => []
  | i + 1 => goTo p g r i ++ if p (r.getD i 0) = true then g (r.getD i 0) else []
theorem goTo_yes {p : Int → Bool} {g : Int → List (List Int)} {r : List Int} {i : Nat} (h : p (r.getD i 0) = true) : goTo p g r i ++ g (r.getD i 0) = goTo p g r (i + 1) := by
  simp only [goTo]; rw [if_pos h]
theorem goTo_no {p : Int → Bool} {g : Int → List (List Int)} {r : List Int} {i : Nat} (h : ¬ p (r.getD i 0) = true) : goTo p g r i = goTo p g r (i + 1) := by
  simp only [goTo]; rw [if_neg h, List.append_nil]
theorem goTo_mem {p : Int → Bool} {g : Int → List (List Int)} {r v : List Int} : ∀ {m : Nat}, v ∈ goTo p g r m ↔ ∃ i : Nat, i < m ∧ p (r.getD i 0) = true ∧ v ∈ g (r.getD i 0)
  | 0 => by simp [goTo]
  | m + 1 => by
    simp only [goTo, List.mem_append, goTo_mem (m := m)]
    constructor
    · rintro (⟨i, hi, h1, h2⟩ | h)
      · exact ⟨i, by omega, h1, h2⟩
      · split at h
        · rename_i h1; exact ⟨m, by omega, h1, h⟩
        · simp at h
    · rintro ⟨i, hi, h1, h2⟩
      by_cases e : i = m
      · subst e; right; rw [if_pos h1]; exact h2
      · exact .inl ⟨i, by omega, h1, h2⟩
theorem goTo_same {p q : Int → Bool} {g h : Int → List (List Int)} {r : List Int} : ∀ {m : Nat}, (∀ i, i < m → p (r.getD i 0) = q (r.getD i 0) ∧ (q (r.getD i 0) = true → g (r.getD i 0) = h (r.getD i 0))) → goTo p g r m = goTo q h r m
  | 0, _ => rfl
  | m + 1, H => by
    have h1 := H m (by omega)
    simp only [goTo]
    rw [goTo_same fun i hi => H i (by omega), h1.1]
    split
    · rename_i h2; rw [h1.2 h2]
    · rfl
theorem goTo_nil {p : Int → Bool} {g : Int → List (List Int)} {r : List Int} : ∀ {m : Nat}, (∀ i, i < m → p (r.getD i 0) = true → g (r.getD i 0) = []) → goTo p g r m = []
  | 0, _ => rfl
  | m + 1, H => by
    simp only [goTo]
    rw [goTo_nil fun i hi => H i (by omega)]
    split
    · rename_i h; rw [H m (by omega) h]; rfl
    · rfl
theorem goTo_len {p : Int → Bool} {g : Int → List (List Int)} {r : List Int} {B : Nat} (hB : ∀ x, (g x).length ≤ B) : ∀ m, (goTo p g r m).length ≤ B * m
  | 0 => by simp [goTo]
  | m + 1 => by
    have := goTo_len hB m (p := p) (r := r)
    simp only [goTo, List.length_append]
    have h2 : (if p (r.getD m 0) = true then g (r.getD m 0) else []).length ≤ B := by split; exact hB _; simp
    rw [Nat.mul_succ]; omega
def emP (G : Int) (F : List (List Int)) (Rd Rw : Int) (l : List Int) : Prop :=
  1 < (l.length : Int) ∧ ((l.getD 0 0 < G ∧ (l.length : Int) - 1 ≤ Rw) ∨ (¬ l.getD 0 0 < G ∧ 0 ≤ placeF (F.getD (lastF l).toNat []) (l.getD 0 0)) ∧ (l.length : Int) ≤ Rd)
instance (G : Int) (F : List (List Int)) (Rd Rw : Int) (l : List Int) : Decidable (emP G F Rd Rw l) := by unfold emP; infer_instance
def emL (G : Int) (F : List (List Int)) (Rd Rw : Int) (l : List Int) : List (List Int) := if emP G F Rd Rw l then [l] else []
def okR (G : Int) (used l : List Int) (x : Int) : Bool := decide ¬ ((0 ≤ placeF used x ∨ 0 ≤ placeF l x) ∨ ¬ l.getD 0 0 < G ∧ x < l.getD 0 0)
def linR (G : Int) (F : List (List Int)) (Rd Rw : Int) (used : List Int) : Nat → List Int → List (List Int)
  | 0, l => emL G F Rd Rw l
  | f + 1, l => emL G F Rd Rw l ++ goTo (okR G used l) (fun x => linR G F Rd Rw used f (l ++ [x])) (F.getD (lastF l).toNat []) (F.getD (lastF l).toNat []).length
section
variable {G : Int} {F : List (List Int)} {Rd Rw : Int}
theorem emL_len (l : List Int) : (emL G F Rd Rw l).length ≤ 1 := by unfold emL; split <;> simp
theorem linR_len (hS : SOk G F Rd Rw) {used : List Int} : ∀ (f : Nat) (l : List Int), (linR G F Rd Rw used f l).length ≤ 9 ^ f
  | 0, l => emL_len l
  | f + 1, l => by
    have h1 := emL_len (G := G) (F := F) (Rd := Rd) (Rw := Rw) l
    have h2 := goTo_len (p := okR G used l) (g := fun x => linR G F Rd Rw used f (l ++ [x])) (r := F.getD (lastF l).toNat []) (fun x => linR_len hS f (l ++ [x])) (F.getD (lastF l).toNat []).length
    have h3 : (F.getD (lastF l).toNat []).length ≤ 8 := by
      rcases Nat.lt_or_ge (lastF l).toNat F.length with h | h
      · have := hS.len _ h; have := hS.n8; omega
      · simp [List.getD_eq_getElem?_getD, h]
    have h4 : 9 ^ f * (F.getD (lastF l).toNat []).length ≤ 9 ^ f * 8 := Nat.mul_le_mul_left _ h3
    have h5 : 1 ≤ 9 ^ f := Nat.pos_of_ne_zero (by simp)
    simp only [linR, List.length_append]
    rw [Nat.pow_succ]; omega
theorem lin9 (hS : SOk G F Rd Rw) {used l : List Int} {f : Nat} (hf : f ≤ 9) : (linR G F Rd Rw used f l).length ≤ 387420489 :=
  Nat.le_trans (linR_len hS f l) (Nat.pow_le_pow_right (by omega) hf)
theorem linR_in {used : List Int} : ∀ (f : Nat) (l v : List Int), v ∈ linR G F Rd Rw used f l → v.length ≤ f + l.length
  | 0, l, v, h => by
    simp only [linR, emL] at h
    split at h
    · simp only [List.mem_singleton] at h; subst h; omega
    · simp at h
  | f + 1, l, v, h => by
    simp only [linR, List.mem_append] at h
    rcases h with h | h
    · unfold emL at h
      split at h
      · simp only [List.mem_singleton] at h; subst h; omega
      · simp at h
    · obtain ⟨i, _, _, h2⟩ := goTo_mem.1 h
      have := linR_in f _ v h2
      rw [List.length_append, List.length_singleton] at this
      omega
@[simp] theorem last_snoc {l : List Int} {x : Int} : lastF (l ++ [x]) = x := by unfold lastF; simp [List.getD_eq_getElem?_getD]
theorem last_one {x : Int} : lastF [x] = x := rfl
end
/-! ### The most gifts, as the document counts them -/
def mxTo (b : Int) (g : List Int → Int) (ls : List (List Int)) : Nat → Int
  | 0 => b
  | i + 1 => if mxTo b g ls i < g (ls.getD i []) then g (ls.getD i []) else mxTo b g ls i
def giftL (G at' : Int) (l : List Int) : Int := if at' < G then (l.length : Int) - 1 else (l.length : Int)
def refF (G : Int) (F : List (List Int)) (Rd Rw : Int) : Nat → List Int → Int
  | 0, _ => 0
  | m + 1, used => if 0 ≤ placeF used ((F.length : Int) - (m + 1)) then refF G F Rd Rw m used
    else mxTo (refF G F Rd Rw m used) (fun l => giftL G ((F.length : Int) - (m + 1)) l + refF G F Rd Rw m (used ++ l)) (linR G F Rd Rw used F.length [(F.length : Int) - (m + 1)]) (linR G F Rd Rw used F.length [(F.length : Int) - (m + 1)]).length
section
variable {G : Int} {F : List (List Int)} {Rd Rw : Int}
theorem mxTo_bd {b A : Int} {g : List Int → Int} {ls : List (List Int)} (hb : 0 ≤ b ∧ b ≤ A) (hg : ∀ l, l ∈ ls → 0 ≤ g l ∧ g l ≤ A) : ∀ i, i ≤ ls.length → 0 ≤ mxTo b g ls i ∧ mxTo b g ls i ≤ A
  | 0, _ => hb
  | i + 1, hi => by
    have h1 := mxTo_bd hb hg i (by omega)
    have h2 := hg _ (getD_mem (l := ls) [] (show i < ls.length by omega))
    simp only [mxTo]; split <;> omega
theorem linR_ne {used : List Int} : ∀ (f : Nat) (l v : List Int), v ∈ linR G F Rd Rw used f l → 1 < v.length
  | 0, l, v, h => by
    simp only [linR, emL] at h
    split at h
    · rename_i h2; simp only [List.mem_singleton] at h; subst h; have := h2.1; omega
    · simp at h
  | f + 1, l, v, h => by
    simp only [linR, List.mem_append] at h
    rcases h with h | h
    · unfold emL at h
      split at h
      · rename_i h2; simp only [List.mem_singleton] at h; subst h; have := h2.1; omega
      · simp at h
    · obtain ⟨i, _, _, h2⟩ := goTo_mem.1 h
      exact linR_ne f _ v h2
theorem refF_bd : ∀ (m : Nat) (used : List Int), 0 ≤ refF G F Rd Rw m used ∧ refF G F Rd Rw m used ≤ ((F.length + 1) * m : Nat)
  | 0, _ => by simp [refF]
  | m + 1, used => by
    have ih := refF_bd m
    have e : (F.length + 1) * (m + 1) = (F.length + 1) * m + (F.length + 1) := Nat.mul_succ _ _
    simp only [refF]
    split
    · have := ih used; omega
    · refine mxTo_bd ⟨(ih used).1, by have := ih used; omega⟩ (fun l hl => ?_) _ (Nat.le_refl _)
      have h1 := ih (used ++ l)
      have h2 := linR_in _ _ _ hl
      have h3 := linR_ne _ _ _ hl
      rw [List.length_singleton] at h2
      unfold giftL
      split <;> omega
end

set_option maxRecDepth 1000000 in
set_option maxHeartbeats 2000000 in
theorem swapLines_fc (G : Int) (F : List (List Int)) (Rd Rw : Int) (hv : mayE G F Rd Rw = 0) (used : List Int) (hu : used.length ≤ 200) (f : Nat) (l : List Int) (hl : 1 ≤ l.length) (hf : f + l.length = F.length + 1) (hla : 0 ≤ lastF l ∧ lastF l < (F.length : Int)) : FC Try.prog 22 [.agg [.i G, .rows F, .i Rd, .i Rw], .ints l, .ints used] (.rows (linR G F Rd Rw used f l)) := by
  induction f using Nat.strongRecOn generalizing l
  rename_i f ih
  refine FC.intro Try.func22 rfl (Nat.le_of_ble_eq_true rfl) fun hfit => ?_
  have fit0 := hfit _ (.head _)
  obtain ⟨fitl1, fitr1⟩ := (hfit _ (.tail _ (.head _))).ints
  obtain ⟨fitl2, fitr2⟩ := (hfit _ (.tail _ (.tail _ (.head _)))).ints
  have hS := sok hv
  have hn8 := hS.n8
  have hG := hS.g
  have hRd := hS.rd
  have hRw := hS.rw'
  refine awp_seq ?_
  refine awp_region rfl (.n (fun _ => op_box (.plain rfl) (by simp)) (.n (fun _ => op_assign (.plain rfl)) (.nil _))) ?_
  refine awp_seq ?_
  refine awp_region rfl (.n (fun _ => op_assign (.plain rfl)) (.nil _)) ?_
  refine awp_seq ?_
  refine awp_region rfl (.n (fun _ => op_move (.plain rfl)) (.n (fun _ => op_indexAddr Try.underlying35 Try.sizeOf3 (.plain rfl) (.plain rfl) (fun _ => rfl) ?_) (.n (fun _ => op_load Try.isAgg3 (.plain rfl)) (.n (fun _ => op_assign (.plain rfl)) (.nil _))))) ?_
  · omega
  refine awp_seq ?_
  refine awp_region rfl (.n (fun _ => op_move (.plain rfl)) (.n (fun _ => op_move (.plain rfl)) (.n (fun _ => op_len (s := 0) Try.underlying35 (.plain rfl)) (.n (fun _ => op_sub (.plain rfl) (.plain rfl) ?_) (.n (fun _ => op_indexAddr Try.underlying35 Try.sizeOf3 (.plain rfl) (.plain rfl) (fun _ => rfl) ?_) (.n (fun _ => op_load Try.isAgg3 (.plain rfl)) (.n (fun _ => op_assign (.plain rfl)) (.nil _)))))))) ?_
  · unfold InR; omega
  · omega
  refine awp_seq ?_
  rw [show (((l.length : Nat) : Int) - 1).toNat = l.length - 1 by omega]
  have hln := hS.len (lastF l).toNat (by omega)
  refine awp_region rfl (.n (fun _ => op_move (.plain rfl)) (.n (fun _ => op_fieldAddr Try.underlying24 rfl rfl Try.sizeOf3 (.plain rfl)) (.n (fun _ => op_load Try.isAgg3 (.plain rfl)) (.n (fun _ => op_lss (.plain rfl) (.plain rfl)) (.n (fun _ => op_assign (.plain rfl)) (.nil _)))))) ?_
  refine awp_seq ?_
  refine awp_region rfl (.n (fun _ => op_move (.plain rfl)) (.n (fun _ => op_fieldAddr Try.underlying24 rfl rfl Try.sizeOf22 (.plain rfl)) (.n (fun _ => op_load Try.isAgg22 (.plain rfl)) (.n (fun _ => op_move (.plain rfl)) (.n (fun _ => op_indexAddr Try.underlying22 Try.sizeOf35 (.plain rfl) (.plain rfl) (fun _ => rfl) ?_) (.n (fun _ => op_load Try.isAgg35 (.plain rfl)) (.n (fun _ => op_call2 Try.call16 (.plain rfl) (.plain rfl) (In_fc _ _)) (.n (fun _ => op_assign (.plain rfl)) (.nil _))))))))) ?_
  · unfold lastF at hla; omega
  refine awp_seq ?_
  refine awp_seq ?_
  refine awp_region rfl (.n (fun _ => op_move (.plain rfl)) (.n (fun _ => op_len (s := 0) Try.underlying35 (.plain rfl)) (.n (fun _ => op_gtr (.plain rfl) (.plain rfl)) (.n (fun _ => op_move (.plain rfl)) (.gn rfl rfl (fun hg _ => op_move (.plain rfl)) (.gn rfl rfl (fun hg _ => op_move (.opt rfl fun h => h)) (.ggn rfl rfl (fun hg _ => op_move (.plain rfl)) (.ggn rfl rfl (fun hg _ => op_len (s := 0) Try.underlying35 (.opt rfl fun h => h)) (.ggn rfl rfl (fun hg _ => op_sub (.opt rfl fun h => h) (.plain rfl) ?_) (.ggn rfl rfl (fun hg _ => op_fieldAddr Try.underlying24 rfl rfl Try.sizeOf3 (.plain rfl)) (.ggn rfl rfl (fun hg _ => op_load Try.isAgg3 (.opt rfl fun h => h)) (.ggn rfl rfl (fun hg _ => op_leq (.opt rfl fun h => h) (.opt rfl fun h => h)) (.gn rfl rfl (fun hg _ => op_and (.opt rfl fun h => h) (.plain rfl) (.plain rfl) (fun h => andI hg (eqT h))) (.gn rfl rfl (fun hg _ => op_move (.opt rfl fun h => h)) (.ggn rfl rfl (fun hg _ => op_move (.plain rfl)) (.ggn rfl rfl (fun hg _ => op_not (.opt rfl fun h => h)) (.ggn rfl rfl (fun hg _ => op_move (.opt rfl fun h => h)) (.ggn rfl rfl (fun hg _ => op_move (.plain rfl)) (.ggn rfl rfl (fun hg _ => op_and (.opt rfl fun h => h) (.plain rfl) (.plain rfl) (fun h => andI hg (eqT h))) (.ggn rfl rfl (fun hg _ => op_move (.opt rfl fun h => h)) (.ggn rfl rfl (fun hg _ => op_move (.plain rfl)) (.ggn rfl rfl (fun hg _ => op_len (s := 0) Try.underlying35 (.opt rfl fun h => h)) (.ggn rfl rfl (fun hg _ => op_fieldAddr Try.underlying24 rfl rfl Try.sizeOf3 (.plain rfl)) (.ggn rfl rfl (fun hg _ => op_load Try.isAgg3 (.opt rfl fun h => h)) (.ggn rfl rfl (fun hg _ => op_leq (.opt rfl fun h => h) (.opt rfl fun h => h)) (.ggn rfl rfl (fun hg _ => op_and (.opt rfl fun h => h) (.plain rfl) (.plain rfl) (fun h => andI hg (eqT h))) (.gn rfl rfl (fun hg _ => op_or (.opt rfl fun h => h) (.plain rfl) (.plain rfl) (fun h => andI hg (eqF h))) (.n (fun _ => op_and (.plain rfl) (.plain rfl) (.plain rfl) (fun h => eqT h)) (.nil _))))))))))))))))))))))))))))) ?_
  · try simp only [beq_iff_eq, beq_true, beq_false, Bool.and_eq_true, decide_eq_true_eq, decide_eq_false_iff_not, Bool.not_eq_true', Bool.or_eq_true, Bool.or_eq_false_iff] at hg
    unfold InR; omega
  refine awp_cond rfl (fun h => ?_) (fun h => ?_)
  · try simp only [decide_eq_true_eq, decide_eq_false_iff_not, Bool.and_eq_true, Bool.or_eq_true, Bool.and_eq_false_iff, Bool.or_eq_false_iff, Bool.not_eq_true', Bool.not_eq_false', Bool.not_eq_true, Bool.not_eq_false] at h; try simp only [Int.toNat_zero] at h
    have hem : emL G F Rd Rw l = [l] := if_pos h
    clear h
    refine awp_region rfl (.n (fun _ => op_move (.plain rfl)) (.n (fun _ => op_move (.plain rfl)) (.n (fun _ => op_slit (pp := [(0, _)]) (α := (List Int)) (d := []) (f := (fun r => [.seq Int 0 (fun n => [.int .i64 n]) r])) [_] ety22 rfl ⟨rfl, (.plain rfl), (by simp), trivial⟩ rfl (by decide) rfl) (.e (op_appendN (id' := 68) (α := (List Int)) (d := []) (f := (fun r => [.seq Int 0 (fun n => [.int .i64 n]) r])) ety22 Try.underlying22 (fun _ => rfl) (fun _ => rfl) (.plain rfl) (.plain rfl) rfl ?_) rfl (.n (fun _ => op_assign (.plain rfl)) (.nil _)))))) ?_
    · simp
    refine awp_seq ?_
    refine awp_seq ?_
    refine awp_region rfl (.n (fun _ => op_move (.plain rfl)) (.n (fun _ => op_len (s := 0) Try.underlying35 (.plain rfl)) (.n (fun _ => op_fieldAddr Try.underlying24 rfl rfl Try.sizeOf22 (.plain rfl)) (.n (fun _ => op_load Try.isAgg22 (.plain rfl)) (.n (fun _ => op_len (s := 0) Try.underlying22 (.plain rfl)) (.n (fun _ => op_gtr (.plain rfl) (.plain rfl)) (.nil _))))))) ?_
    refine awp_cond rfl (fun h => ?_) (fun h => ?_)
    · try simp only [decide_eq_true_eq, decide_eq_false_iff_not, Bool.and_eq_true, Bool.or_eq_true, Bool.and_eq_false_iff, Bool.or_eq_false_iff, Bool.not_eq_true', Bool.not_eq_false', Bool.not_eq_true, Bool.not_eq_false] at h; try simp only [Int.toNat_zero] at h
      obtain rfl : f = 0 := by omega
      refine awp_seq ?_
      refine awp_region rfl (.n (fun _ => op_move (.plain rfl)) (.n (fun _ => op_assign (.plain rfl)) (.nil _))) ?_
      refine awp_ret ?_
      refine retQ.ret ?_
      refine ret1 rfl rfl rfl ?_
      simp only [linR]
      rw [hem]
    · try simp only [decide_eq_true_eq, decide_eq_false_iff_not, Bool.and_eq_true, Bool.or_eq_true, Bool.and_eq_false_iff, Bool.or_eq_false_iff, Bool.not_eq_true', Bool.not_eq_false', Bool.not_eq_true, Bool.not_eq_false] at h; try simp only [Int.toNat_zero] at h
      obtain ⟨f, rfl⟩ : ∃ q, f = q + 1 := ⟨f - 1, by omega⟩
      refine awp_skip ?_
      refine awp_seq ?_
      refine awp_seq ?_
      refine awp_region rfl (.n (fun _ => op_assign (.plain rfl)) (.nil _)) ?_
      refine awp_block ?_
      refine awp_ent (Ent.ren 68 1007 rfl rfl rfl) ?_
      refine awp_loop (σ := Nat) (fun (i : Nat) => i ≤ (F.getD (lastF l).toNat []).length) (fun (i : Nat) => ⟨[(1, .pv (.ints l)), (2, .pv (.ints used)), (3, .pv (.rd [.i G, .rows F, .i Rd, .i Rw])), (7, .own 1007), (8, .int (l.getD 0 0)), (9, .int (lastF l)), (10, .bool (decide (l.getD 0 0 < G))), (12, .int (i : Nat))], [(1007, .arr 35 1 (List Int) [] (fun r => [.seq Int 0 (fun n => [.int .i64 n]) r]) (emL G F Rd Rw l ++ goTo (okR G used l) (fun x => linR G F Rd Rw used f (l ++ [x])) (F.getD (lastF l).toNat []) i))]⟩) (fun (i : Nat) => (F.getD (lastF l).toNat []).length - i) 0 ?_ (Ent.kept ⟨rfl, rfl, rfl, rfl, rfl, rfl, rfl, rfl, trivial⟩ ⟨(congrArg (fun l => some (Blk.arr 35 1 (List Int) [] (fun r => [.seq Int 0 (fun n => [.int .i64 n]) r]) l)) (by rw [hem]; rfl)), trivial⟩) ?_
      · exact Nat.zero_le _
      rintro i hp
      try dsimp only at hp
      have hi := hp
      refine awp_seq ?_
      refine awp_seq ?_
      refine awp_region rfl (.n (fun _ => op_move (.plain rfl)) (.n (fun _ => op_fieldAddr Try.underlying24 rfl rfl Try.sizeOf22 (.plain rfl)) (.n (fun _ => op_load Try.isAgg22 (.plain rfl)) (.n (fun _ => op_move (.plain rfl)) (.n (fun _ => op_indexAddr Try.underlying22 Try.sizeOf35 (.plain rfl) (.plain rfl) (fun _ => rfl) ?_) (.n (fun _ => op_load Try.isAgg35 (.plain rfl)) (.n (fun _ => op_len (s := 0) Try.underlying35 (.plain rfl)) (.n (fun _ => op_lss (.plain rfl) (.plain rfl)) (.nil _))))))))) ?_
      · omega
      refine awp_cond rfl (fun h => ?_) (fun h => ?_)
      · try simp only [decide_eq_true_eq, decide_eq_false_iff_not, Bool.and_eq_true, Bool.or_eq_true, Bool.and_eq_false_iff, Bool.or_eq_false_iff, Bool.not_eq_true', Bool.not_eq_false', Bool.not_eq_true, Bool.not_eq_false] at h; try simp only [Int.toNat_zero] at h
        have hfx := hS.fit (lastF l).toNat (by omega) i (by omega)
        refine awp_skip ?_
        refine awp_seq ?_
        refine awp_block ?_
        refine awp_seq ?_
        refine awp_region rfl (.n (fun _ => op_fieldAddr Try.underlying24 rfl rfl Try.sizeOf22 (.plain rfl)) (.n (fun _ => op_load Try.isAgg22 (.plain rfl)) (.n (fun _ => op_move (.plain rfl)) (.n (fun _ => op_indexAddr Try.underlying22 Try.sizeOf35 (.plain rfl) (.plain rfl) (fun _ => rfl) ?_) (.n (fun _ => op_load Try.isAgg35 (.plain rfl)) (.n (fun _ => op_move (.plain rfl)) (.n (fun _ => op_indexAddrN Try.underlying35 Try.sizeOf3 (.plain rfl) (.plain rfl) (fun _ => rfl) ?_) (.n (fun _ => op_load Try.isAgg3 (.plain rfl)) (.n (fun _ => op_assign (.plain rfl)) (.nil _)))))))))) ?_
        · omega
        · omega
        refine awp_seq ?_
        refine awp_region rfl (.n (fun _ => op_move (.plain rfl)) (.n (fun _ => op_move (.plain rfl)) (.n (fun _ => op_call2 Try.call16 (.plain rfl) (.plain rfl) (In_fc _ _)) (.n (fun _ => op_assign (.plain rfl)) (.nil _))))) ?_
        refine awp_seq ?_
        refine awp_region rfl (.n (fun _ => op_move (.plain rfl)) (.n (fun _ => op_move (.plain rfl)) (.n (fun _ => op_call2 Try.call16 (.plain rfl) (.plain rfl) (In_fc _ _)) (.n (fun _ => op_assign (.plain rfl)) (.nil _))))) ?_
        refine awp_seq ?_
        refine awp_seq ?_
        refine awp_region rfl (.n (fun _ => op_move (.plain rfl)) (.n (fun _ => op_move (.plain rfl)) (.gn rfl rfl (fun hg _ => op_move (.plain rfl)) (.n (fun _ => op_or (.plain rfl) (.plain rfl) (.plain rfl) (fun h => eqF h)) (.n (fun _ => op_move (.plain rfl)) (.gn rfl rfl (fun hg _ => op_move (.plain rfl)) (.gn rfl rfl (fun hg _ => op_not (.opt rfl fun h => h)) (.gn rfl rfl (fun hg _ => op_move (.opt rfl fun h => h)) (.ggn rfl rfl (fun hg _ => op_move (.plain rfl)) (.ggn rfl rfl (fun hg _ => op_move (.plain rfl)) (.ggn rfl rfl (fun hg _ => op_lss (.opt rfl fun h => h) (.opt rfl fun h => h)) (.gn rfl rfl (fun hg _ => op_and (.opt rfl fun h => h) (.plain rfl) (.plain rfl) (fun h => andI hg (eqT h))) (.n (fun _ => op_or (.plain rfl) (.plain rfl) (.plain rfl) (fun h => eqF h)) (.nil _)))))))))))))) ?_
        refine awp_cond rfl (fun h => ?_) (fun h => ?_)
        · try simp only [decide_eq_true_eq, decide_eq_false_iff_not, Bool.and_eq_true, Bool.or_eq_true, Bool.and_eq_false_iff, Bool.or_eq_false_iff, Bool.not_eq_true', Bool.not_eq_false', Bool.not_eq_true, Bool.not_eq_false] at h; try simp only [Int.toNat_zero] at h
          have hok : ¬ okR G used l ((F.getD (lastF l).toNat []).getD i 0) = true := fun c => (of_decide_eq_true c) h
          refine awp_exit ?_
          refine awp_region rfl (.n (fun _ => op_move (.plain rfl)) (.n (fun _ => op_add (.plain rfl) (.plain rfl) ?_) (.n (fun _ => op_assign (.plain rfl)) (.nil _)))) ?_
          · unfold InR; omega
          exact ⟨i + 1, by omega, by dsimp only; omega, (Ent.kept ⟨rfl, rfl, rfl, rfl, rfl, rfl, rfl, rfl, trivial⟩ ⟨(congrArg (fun l => some (Blk.arr 35 1 (List Int) [] (fun r => [.seq Int 0 (fun n => [.int .i64 n]) r]) l)) (by first | rw [← goTo_no hok] | rw [← goTo_yes hok, List.append_assoc])), trivial⟩)⟩
        · try simp only [decide_eq_true_eq, decide_eq_false_iff_not, Bool.and_eq_true, Bool.or_eq_true, Bool.and_eq_false_iff, Bool.or_eq_false_iff, Bool.not_eq_true', Bool.not_eq_false', Bool.not_eq_true, Bool.not_eq_false] at h; try simp only [Int.toNat_zero] at h
          have hok : okR G used l ((F.getD (lastF l).toNat []).getD i 0) = true := decide_eq_true (by omega)
          refine awp_skip ?_
          refine awp_seq ?_
          refine awp_region_draw mixed rfl (.n (fun _ => op_load_agg Try.isAgg24 Try.sizeOf24 (.plain rfl) (Nat.le_of_ble_eq_true rfl)) (.n (fun _ => op_slit0 ety35) (.n (fun _ => op_move (.plain rfl)) (.a (fun _ hm => op_appendC (id' := 116) (α := Int) (d := 0) (f := (fun n => [.int .i64 n])) ety35 Try.underlying35 (fun _ => rfl) (fun _ => rfl) (.plain rfl) (.plain rfl) hm ?_) rfl (fun _ => rfl) rfl (.n (fun _ => op_move (.plain rfl)) (.n (fun _ => op_slit (pp := [(0, _)]) (α := Int) (d := 0) (f := (fun n => [.int .i64 n])) [_] ety35 rfl ⟨rfl, (.plain rfl), (by simp), trivial⟩ rfl (by decide) rfl) (.e ((op_append (id' := 119) (α := Int) (d := 0) (f := (fun n => [.int .i64 n])) ety35 Try.underlying35 (fun _ => rfl) (fun _ => rfl) (.plain rfl) rfl (.plain rfl) rfl ?_).given rfl) rfl (.n (fun _ => op_move (.plain rfl)) (.n (fun _ => op_call3 Try.call22 (.plain rfl) (.plain rfl) (.plain rfl) (ih f (by omega) (l ++ [(F.getD (lastF l).toNat []).getD i 0]) ?_ ?_ ?_)) (.n (fun _ => op_assign (.plain rfl)) (.nil _))))))))))) ?d1 ?_
          · first | omega | (simp; omega)
          · first | omega | (simp; omega)
          · simp
          · simp; omega
          · rw [last_snoc]; exact ⟨by omega, hfx.2.1⟩
          · kernel_rfl
          refine awp_region rfl (.n (fun _ => op_move (.plain rfl)) (.n (fun _ => op_move (.plain rfl)) (.e (op_append (id' := 124) (α := (List Int)) (d := []) (f := (fun r => [.seq Int 0 (fun n => [.int .i64 n]) r])) ety22 Try.underlying22 (fun _ => rfl) (fun _ => rfl) (.plain rfl) rfl (.plain rfl) rfl ?_) rfl (.n (fun _ => op_assign (.plain rfl)) (.nil _))))) ?_
          · have h1 := emL_len (G := G) (F := F) (Rd := Rd) (Rw := Rw) l
            have h2 := goTo_len (p := okR G used l) (g := fun x => linR G F Rd Rw used f (l ++ [x])) (r := (F.getD (lastF l).toNat [])) (fun x => lin9 hS (f := f) (l := l ++ [x]) (by omega)) i
            have h3 := lin9 hS (used := used) (f := f) (l := l ++ [(F.getD (lastF l).toNat []).getD i 0]) (by omega)
            simp only [List.length_append]
            omega
          refine awp_region rfl (.n (fun _ => op_move (.plain rfl)) (.n (fun _ => op_add (.plain rfl) (.plain rfl) ?_) (.n (fun _ => op_assign (.plain rfl)) (.nil _)))) ?_
          · unfold InR; omega
          exact ⟨i + 1, by omega, by dsimp only; omega, (Ent.round 124 1007 ⟨rfl, rfl, rfl, rfl, rfl, rfl, rfl, rfl, trivial⟩ ⟨(congrArg (fun l => some (Blk.arr 35 1 (List Int) [] (fun r => [.seq Int 0 (fun n => [.int .i64 n]) r]) l)) (by first | rw [← goTo_no hok] | rw [← goTo_yes hok, List.append_assoc])), trivial⟩ rfl rfl rfl ⟨rfl, rfl, rfl, rfl, rfl, rfl, rfl, rfl, trivial⟩ ⟨rfl, trivial⟩)⟩
      · try simp only [decide_eq_true_eq, decide_eq_false_iff_not, Bool.and_eq_true, Bool.or_eq_true, Bool.and_eq_false_iff, Bool.or_eq_false_iff, Bool.not_eq_true', Bool.not_eq_false', Bool.not_eq_true, Bool.not_eq_false] at h; try simp only [Int.toNat_zero] at h
        refine awp_exit ?_
        refine awp_seq ?_
        refine awp_region rfl (.n (fun _ => op_move (.plain rfl)) (.n (fun _ => op_assign (.plain rfl)) (.nil _))) ?_
        refine awp_ret ?_
        refine retQ.ret ?_
        refine ret1 rfl rfl rfl ?_
        obtain rfl : i = (F.getD (lastF l).toNat []).length := by omega
        simp only [linR]
        try rw [hem]
  · try simp only [decide_eq_true_eq, decide_eq_false_iff_not, Bool.and_eq_true, Bool.or_eq_true, Bool.and_eq_false_iff, Bool.or_eq_false_iff, Bool.not_eq_true', Bool.not_eq_false', Bool.not_eq_true, Bool.not_eq_false] at h; try simp only [Int.toNat_zero] at h
    have hem : emL G F Rd Rw l = [] := if_neg (by unfold emP; exact fun c => by have := c; unfold lastF at this; omega)
    clear h
    refine awp_skip ?_
    refine awp_seq ?_
    refine awp_seq ?_
    refine awp_region rfl (.n (fun _ => op_move (.plain rfl)) (.n (fun _ => op_len (s := 0) Try.underlying35 (.plain rfl)) (.n (fun _ => op_fieldAddr Try.underlying24 rfl rfl Try.sizeOf22 (.plain rfl)) (.n (fun _ => op_load Try.isAgg22 (.plain rfl)) (.n (fun _ => op_len (s := 0) Try.underlying22 (.plain rfl)) (.n (fun _ => op_gtr (.plain rfl) (.plain rfl)) (.nil _))))))) ?_
    refine awp_cond rfl (fun h => ?_) (fun h => ?_)
    · try simp only [decide_eq_true_eq, decide_eq_false_iff_not, Bool.and_eq_true, Bool.or_eq_true, Bool.and_eq_false_iff, Bool.or_eq_false_iff, Bool.not_eq_true', Bool.not_eq_false', Bool.not_eq_true, Bool.not_eq_false] at h; try simp only [Int.toNat_zero] at h
      obtain rfl : f = 0 := by omega
      refine awp_seq ?_
      refine awp_region rfl (.n (fun _ => op_move (.plain rfl)) (.n (fun _ => op_assign (.plain rfl)) (.nil _))) ?_
      refine awp_ent (Ent.nilseq 6 (List Int) [] (fun r => [.seq Int 0 (fun n => [.int .i64 n]) r]) rfl) ?_
      refine awp_ret ?_
      refine retQ.ret ?_
      refine ret1 rfl rfl rfl ?_
      simp only [linR]
      rw [hem]
    · try simp only [decide_eq_true_eq, decide_eq_false_iff_not, Bool.and_eq_true, Bool.or_eq_true, Bool.and_eq_false_iff, Bool.or_eq_false_iff, Bool.not_eq_true', Bool.not_eq_false', Bool.not_eq_true, Bool.not_eq_false] at h; try simp only [Int.toNat_zero] at h
      obtain ⟨f, rfl⟩ : ∃ q, f = q + 1 := ⟨f - 1, by omega⟩
      refine awp_skip ?_
      refine awp_seq ?_
      refine awp_seq ?_
      refine awp_region rfl (.n (fun _ => op_assign (.plain rfl)) (.nil _)) ?_
      refine awp_block ?_
      refine awp_ent (Ent.begin 7 1007 35 1 (List Int) [] (fun r => [.seq Int 0 (fun n => [.int .i64 n]) r]) rfl rfl rfl) ?_
      refine awp_loop (σ := Nat) (fun (i : Nat) => i ≤ (F.getD (lastF l).toNat []).length) (fun (i : Nat) => ⟨[(1, .pv (.ints l)), (2, .pv (.ints used)), (3, .pv (.rd [.i G, .rows F, .i Rd, .i Rw])), (7, .own 1007), (8, .int (l.getD 0 0)), (9, .int (lastF l)), (10, .bool (decide (l.getD 0 0 < G))), (12, .int (i : Nat))], [(1007, .arr 35 1 (List Int) [] (fun r => [.seq Int 0 (fun n => [.int .i64 n]) r]) (emL G F Rd Rw l ++ goTo (okR G used l) (fun x => linR G F Rd Rw used f (l ++ [x])) (F.getD (lastF l).toNat []) i))]⟩) (fun (i : Nat) => (F.getD (lastF l).toNat []).length - i) 0 ?_ (Ent.kept ⟨rfl, rfl, rfl, rfl, rfl, rfl, rfl, rfl, trivial⟩ ⟨(congrArg (fun l => some (Blk.arr 35 1 (List Int) [] (fun r => [.seq Int 0 (fun n => [.int .i64 n]) r]) l)) (by rw [hem]; rfl)), trivial⟩) ?_
      · exact Nat.zero_le _
      rintro i hp
      try dsimp only at hp
      have hi := hp
      refine awp_seq ?_
      refine awp_seq ?_
      refine awp_region rfl (.n (fun _ => op_move (.plain rfl)) (.n (fun _ => op_fieldAddr Try.underlying24 rfl rfl Try.sizeOf22 (.plain rfl)) (.n (fun _ => op_load Try.isAgg22 (.plain rfl)) (.n (fun _ => op_move (.plain rfl)) (.n (fun _ => op_indexAddr Try.underlying22 Try.sizeOf35 (.plain rfl) (.plain rfl) (fun _ => rfl) ?_) (.n (fun _ => op_load Try.isAgg35 (.plain rfl)) (.n (fun _ => op_len (s := 0) Try.underlying35 (.plain rfl)) (.n (fun _ => op_lss (.plain rfl) (.plain rfl)) (.nil _))))))))) ?_
      · omega
      refine awp_cond rfl (fun h => ?_) (fun h => ?_)
      · try simp only [decide_eq_true_eq, decide_eq_false_iff_not, Bool.and_eq_true, Bool.or_eq_true, Bool.and_eq_false_iff, Bool.or_eq_false_iff, Bool.not_eq_true', Bool.not_eq_false', Bool.not_eq_true, Bool.not_eq_false] at h; try simp only [Int.toNat_zero] at h
        have hfx := hS.fit (lastF l).toNat (by omega) i (by omega)
        refine awp_skip ?_
        refine awp_seq ?_
        refine awp_block ?_
        refine awp_seq ?_
        refine awp_region rfl (.n (fun _ => op_fieldAddr Try.underlying24 rfl rfl Try.sizeOf22 (.plain rfl)) (.n (fun _ => op_load Try.isAgg22 (.plain rfl)) (.n (fun _ => op_move (.plain rfl)) (.n (fun _ => op_indexAddr Try.underlying22 Try.sizeOf35 (.plain rfl) (.plain rfl) (fun _ => rfl) ?_) (.n (fun _ => op_load Try.isAgg35 (.plain rfl)) (.n (fun _ => op_move (.plain rfl)) (.n (fun _ => op_indexAddrN Try.underlying35 Try.sizeOf3 (.plain rfl) (.plain rfl) (fun _ => rfl) ?_) (.n (fun _ => op_load Try.isAgg3 (.plain rfl)) (.n (fun _ => op_assign (.plain rfl)) (.nil _)))))))))) ?_
        · omega
        · omega
        refine awp_seq ?_
        refine awp_region rfl (.n (fun _ => op_move (.plain rfl)) (.n (fun _ => op_move (.plain rfl)) (.n (fun _ => op_call2 Try.call16 (.plain rfl) (.plain rfl) (In_fc _ _)) (.n (fun _ => op_assign (.plain rfl)) (.nil _))))) ?_
        refine awp_seq ?_
        refine awp_region rfl (.n (fun _ => op_move (.plain rfl)) (.n (fun _ => op_move (.plain rfl)) (.n (fun _ => op_call2 Try.call16 (.plain rfl) (.plain rfl) (In_fc _ _)) (.n (fun _ => op_assign (.plain rfl)) (.nil _))))) ?_
        refine awp_seq ?_
        refine awp_seq ?_
        refine awp_region rfl (.n (fun _ => op_move (.plain rfl)) (.n (fun _ => op_move (.plain rfl)) (.gn rfl rfl (fun hg _ => op_move (.plain rfl)) (.n (fun _ => op_or (.plain rfl) (.plain rfl) (.plain rfl) (fun h => eqF h)) (.n (fun _ => op_move (.plain rfl)) (.gn rfl rfl (fun hg _ => op_move (.plain rfl)) (.gn rfl rfl (fun hg _ => op_not (.opt rfl fun h => h)) (.gn rfl rfl (fun hg _ => op_move (.opt rfl fun h => h)) (.ggn rfl rfl (fun hg _ => op_move (.plain rfl)) (.ggn rfl rfl (fun hg _ => op_move (.plain rfl)) (.ggn rfl rfl (fun hg _ => op_lss (.opt rfl fun h => h) (.opt rfl fun h => h)) (.gn rfl rfl (fun hg _ => op_and (.opt rfl fun h => h) (.plain rfl) (.plain rfl) (fun h => andI hg (eqT h))) (.n (fun _ => op_or (.plain rfl) (.plain rfl) (.plain rfl) (fun h => eqF h)) (.nil _)))))))))))))) ?_
        refine awp_cond rfl (fun h => ?_) (fun h => ?_)
        · try simp only [decide_eq_true_eq, decide_eq_false_iff_not, Bool.and_eq_true, Bool.or_eq_true, Bool.and_eq_false_iff, Bool.or_eq_false_iff, Bool.not_eq_true', Bool.not_eq_false', Bool.not_eq_true, Bool.not_eq_false] at h; try simp only [Int.toNat_zero] at h
          have hok : ¬ okR G used l ((F.getD (lastF l).toNat []).getD i 0) = true := fun c => (of_decide_eq_true c) h
          refine awp_exit ?_
          refine awp_region rfl (.n (fun _ => op_move (.plain rfl)) (.n (fun _ => op_add (.plain rfl) (.plain rfl) ?_) (.n (fun _ => op_assign (.plain rfl)) (.nil _)))) ?_
          · unfold InR; omega
          exact ⟨i + 1, by omega, by dsimp only; omega, (Ent.kept ⟨rfl, rfl, rfl, rfl, rfl, rfl, rfl, rfl, trivial⟩ ⟨(congrArg (fun l => some (Blk.arr 35 1 (List Int) [] (fun r => [.seq Int 0 (fun n => [.int .i64 n]) r]) l)) (by first | rw [← goTo_no hok] | rw [← goTo_yes hok, List.append_assoc])), trivial⟩)⟩
        · try simp only [decide_eq_true_eq, decide_eq_false_iff_not, Bool.and_eq_true, Bool.or_eq_true, Bool.and_eq_false_iff, Bool.or_eq_false_iff, Bool.not_eq_true', Bool.not_eq_false', Bool.not_eq_true, Bool.not_eq_false] at h; try simp only [Int.toNat_zero] at h
          have hok : okR G used l ((F.getD (lastF l).toNat []).getD i 0) = true := decide_eq_true (by omega)
          refine awp_skip ?_
          refine awp_seq ?_
          refine awp_region_draw mixed rfl (.n (fun _ => op_load_agg Try.isAgg24 Try.sizeOf24 (.plain rfl) (Nat.le_of_ble_eq_true rfl)) (.n (fun _ => op_slit0 ety35) (.n (fun _ => op_move (.plain rfl)) (.a (fun _ hm => op_appendC (id' := 116) (α := Int) (d := 0) (f := (fun n => [.int .i64 n])) ety35 Try.underlying35 (fun _ => rfl) (fun _ => rfl) (.plain rfl) (.plain rfl) hm ?_) rfl (fun _ => rfl) rfl (.n (fun _ => op_move (.plain rfl)) (.n (fun _ => op_slit (pp := [(0, _)]) (α := Int) (d := 0) (f := (fun n => [.int .i64 n])) [_] ety35 rfl ⟨rfl, (.plain rfl), (by simp), trivial⟩ rfl (by decide) rfl) (.e ((op_append (id' := 119) (α := Int) (d := 0) (f := (fun n => [.int .i64 n])) ety35 Try.underlying35 (fun _ => rfl) (fun _ => rfl) (.plain rfl) rfl (.plain rfl) rfl ?_).given rfl) rfl (.n (fun _ => op_move (.plain rfl)) (.n (fun _ => op_call3 Try.call22 (.plain rfl) (.plain rfl) (.plain rfl) (ih f (by omega) (l ++ [(F.getD (lastF l).toNat []).getD i 0]) ?_ ?_ ?_)) (.n (fun _ => op_assign (.plain rfl)) (.nil _))))))))))) ?d2 ?_
          · first | omega | (simp; omega)
          · first | omega | (simp; omega)
          · simp
          · simp; omega
          · rw [last_snoc]; exact ⟨by omega, hfx.2.1⟩
          · kernel_rfl
          refine awp_region rfl (.n (fun _ => op_move (.plain rfl)) (.n (fun _ => op_move (.plain rfl)) (.e (op_append (id' := 124) (α := (List Int)) (d := []) (f := (fun r => [.seq Int 0 (fun n => [.int .i64 n]) r])) ety22 Try.underlying22 (fun _ => rfl) (fun _ => rfl) (.plain rfl) rfl (.plain rfl) rfl ?_) rfl (.n (fun _ => op_assign (.plain rfl)) (.nil _))))) ?_
          · have h1 := emL_len (G := G) (F := F) (Rd := Rd) (Rw := Rw) l
            have h2 := goTo_len (p := okR G used l) (g := fun x => linR G F Rd Rw used f (l ++ [x])) (r := (F.getD (lastF l).toNat [])) (fun x => lin9 hS (f := f) (l := l ++ [x]) (by omega)) i
            have h3 := lin9 hS (used := used) (f := f) (l := l ++ [(F.getD (lastF l).toNat []).getD i 0]) (by omega)
            simp only [List.length_append]
            omega
          refine awp_region rfl (.n (fun _ => op_move (.plain rfl)) (.n (fun _ => op_add (.plain rfl) (.plain rfl) ?_) (.n (fun _ => op_assign (.plain rfl)) (.nil _)))) ?_
          · unfold InR; omega
          exact ⟨i + 1, by omega, by dsimp only; omega, (Ent.round 124 1007 ⟨rfl, rfl, rfl, rfl, rfl, rfl, rfl, rfl, trivial⟩ ⟨(congrArg (fun l => some (Blk.arr 35 1 (List Int) [] (fun r => [.seq Int 0 (fun n => [.int .i64 n]) r]) l)) (by first | rw [← goTo_no hok] | rw [← goTo_yes hok, List.append_assoc])), trivial⟩ rfl rfl rfl ⟨rfl, rfl, rfl, rfl, rfl, rfl, rfl, rfl, trivial⟩ ⟨rfl, trivial⟩)⟩
      · try simp only [decide_eq_true_eq, decide_eq_false_iff_not, Bool.and_eq_true, Bool.or_eq_true, Bool.and_eq_false_iff, Bool.or_eq_false_iff, Bool.not_eq_true', Bool.not_eq_false', Bool.not_eq_true, Bool.not_eq_false] at h; try simp only [Int.toNat_zero] at h
        refine awp_exit ?_
        refine awp_seq ?_
        refine awp_region rfl (.n (fun _ => op_move (.plain rfl)) (.n (fun _ => op_assign (.plain rfl)) (.nil _))) ?_
        refine awp_ret ?_
        refine retQ.ret ?_
        refine ret1 rfl rfl rfl ?_
        obtain rfl : i = (F.getD (lastF l).toNat []).length := by omega
        simp only [linR]
        try rw [hem]

set_option maxRecDepth 1000000 in
set_option maxHeartbeats 2000000 in
theorem swapFrom_fc (G : Int) (F : List (List Int)) (Rd Rw : Int) (hv : mayE G F Rd Rw = 0) (m : Nat) (at' : Int) (used : List Int) (ha : (m : Int) + at' = (F.length : Int)) (hu : used.length ≤ 9 * (8 - m)) (hm : m ≤ F.length) : FC Try.prog 18 [.agg [.i G, .rows F, .i Rd, .i Rw], .i at', .ints used] (.i (refF G F Rd Rw m used)) := by
  induction m using Nat.strongRecOn generalizing at' used
  rename_i m ih
  refine FC.intro Try.func18 rfl (Nat.le_of_ble_eq_true rfl) fun hfit => ?_
  have fit0 := hfit _ (.head _)
  have fit1 : -9223372036854775808 ≤ (at' : Int) ∧ (at' : Int) ≤ 9223372036854775807 := (hfit _ (.tail _ (.head _))).int64
  obtain ⟨fitl2, fitr2⟩ := (hfit _ (.tail _ (.tail _ (.head _)))).ints
  have hS := sok hv
  have hn8 := hS.n8
  have hG := hS.g
  have hRd := hS.rd
  have hRw := hS.rw'
  refine awp_seq ?_
  refine awp_region rfl (.n (fun _ => op_box (.plain rfl) (by simp)) (.n (fun _ => op_assign (.plain rfl)) (.nil _))) ?_
  refine awp_seq ?_
  refine awp_seq ?_
  refine awp_region rfl (.n (fun _ => op_move (.plain rfl)) (.n (fun _ => op_fieldAddr Try.underlying24 rfl rfl Try.sizeOf22 (.plain rfl)) (.n (fun _ => op_load Try.isAgg22 (.plain rfl)) (.n (fun _ => op_len (s := 0) Try.underlying22 (.plain rfl)) (.n (fun _ => op_eql (.plain rfl) (.plain rfl)) (.nil _)))))) ?_
  refine awp_cond rfl (fun h => ?_) (fun h => ?_)
  · try simp only [decide_eq_true_eq, decide_eq_false_iff_not, Bool.and_eq_true, Bool.or_eq_true, Bool.and_eq_false_iff, Bool.or_eq_false_iff, Bool.not_eq_true', Bool.not_eq_false', Bool.not_eq_true, Bool.not_eq_false] at h; try simp only [Int.toNat_zero] at h
    obtain rfl : m = 0 := by omega
    refine awp_seq ?_
    refine awp_region rfl (.n (fun _ => op_assign (.plain rfl)) (.nil _)) ?_
    refine awp_ret ?_
    refine retQ.ret ?_
    refine ret1 rfl rfl rfl ?_
    rfl
  · try simp only [decide_eq_true_eq, decide_eq_false_iff_not, Bool.and_eq_true, Bool.or_eq_true, Bool.and_eq_false_iff, Bool.or_eq_false_iff, Bool.not_eq_true', Bool.not_eq_false', Bool.not_eq_true, Bool.not_eq_false] at h; try simp only [Int.toNat_zero] at h
    obtain ⟨m, rfl⟩ : ∃ q, m = q + 1 := ⟨m - 1, by omega⟩
    obtain rfl : at' = (F.length : Int) - (m + 1) := by omega
    refine awp_skip ?_
    refine awp_seq ?_
    refine awp_region rfl (.n (fun _ => op_load_agg Try.isAgg24 Try.sizeOf24 (.plain rfl) (Nat.le_of_ble_eq_true rfl)) (.n (fun _ => op_move (.plain rfl)) (.n (fun _ => op_add (.plain rfl) (.plain rfl) ?_) (.n (fun _ => op_move (.plain rfl)) (.n (fun _ => op_call3 Try.call18 (.plain rfl) (.plain rfl) (.plain rfl) (ih m (by omega) ((F.length : Int) - (m + 1) + 1) used ?_ ?_ ?_)) (.n (fun _ => op_assign (.plain rfl)) (.nil _))))))) ?_
    · unfold InR; omega
    · omega
    · omega
    · omega
    refine awp_seq ?_
    refine awp_region rfl (.n (fun _ => op_move (.plain rfl)) (.n (fun _ => op_move (.plain rfl)) (.n (fun _ => op_call2 Try.call16 (.plain rfl) (.plain rfl) (In_fc _ _)) (.n (fun _ => op_assign (.plain rfl)) (.nil _))))) ?_
    refine awp_seq ?_
    refine awp_seq ?_
    refine awp_region rfl (.n (fun _ => op_move (.plain rfl)) (.nil _)) ?_
    refine awp_cond rfl (fun h => ?_) (fun h => ?_)
    · try simp only [decide_eq_true_eq, decide_eq_false_iff_not, Bool.and_eq_true, Bool.or_eq_true, Bool.and_eq_false_iff, Bool.or_eq_false_iff, Bool.not_eq_true', Bool.not_eq_false', Bool.not_eq_true, Bool.not_eq_false] at h; try simp only [Int.toNat_zero] at h
      have hin := h
      refine awp_seq ?_
      refine awp_region rfl (.n (fun _ => op_move (.plain rfl)) (.n (fun _ => op_assign (.plain rfl)) (.nil _))) ?_
      refine awp_ret ?_
      refine retQ.ret ?_
      refine ret1 rfl rfl rfl ?_
      simp only [refF]
      rw [if_pos hin]
    · try simp only [decide_eq_true_eq, decide_eq_false_iff_not, Bool.and_eq_true, Bool.or_eq_true, Bool.and_eq_false_iff, Bool.or_eq_false_iff, Bool.not_eq_true', Bool.not_eq_false', Bool.not_eq_true, Bool.not_eq_false] at h; try simp only [Int.toNat_zero] at h
      have hin := h
      refine awp_skip ?_
      refine awp_seq ?_
      refine awp_region rfl (.n (fun _ => op_load_agg Try.isAgg24 Try.sizeOf24 (.plain rfl) (Nat.le_of_ble_eq_true rfl)) (.n (fun _ => op_move (.plain rfl)) (.n (fun _ => op_slit (pp := [(0, _)]) (α := Int) (d := 0) (f := (fun n => [.int .i64 n])) [_] ety35 rfl ⟨rfl, (.plain rfl), (by simp), trivial⟩ rfl (by decide) rfl) (.n (fun _ => op_move (.plain rfl)) (.n (fun _ => op_call3 Try.call22 (.plain rfl) (.plain rfl) (.plain rfl) (swapLines_fc G F Rd Rw hv used ?_ F.length [(F.length : Int) - (m + 1)] ?_ ?_ ?_)) (.n (fun _ => op_assign (.plain rfl)) (.nil _))))))) ?_
      · omega
      · simp
      · simp
      · rw [last_one]; omega
      refine awp_seq ?_
      refine awp_seq ?_
      have hl9 := lin9 hS (used := used) (f := F.length) (l := [(F.length : Int) - (m + 1)]) (by omega)
      refine awp_region rfl (.n (fun _ => op_assign (.plain rfl)) (.nil _)) ?_
      refine awp_block ?_
      refine awp_loop (σ := Nat) (fun (i : Nat) => i ≤ (linR G F Rd Rw used F.length [(F.length : Int) - (m + 1)]).length) (fun (i : Nat) => ⟨[(1, .int ((F.length : Int) - (m + 1))), (2, .pv (.ints used)), (3, .pv (.rd [.i G, .rows F, .i Rd, .i Rw])), (7, .int (mxTo (refF G F Rd Rw m used) (fun l => giftL G ((F.length : Int) - (m + 1)) l + refF G F Rd Rw m (used ++ l)) (linR G F Rd Rw used F.length [(F.length : Int) - (m + 1)]) i)), (9, .pv (.rows (linR G F Rd Rw used F.length [(F.length : Int) - (m + 1)]))), (10, .int (i : Nat))], []⟩) (fun (i : Nat) => (linR G F Rd Rw used F.length [(F.length : Int) - (m + 1)]).length - i) 0 ?_ (Ent.kept ⟨rfl, rfl, rfl, rfl, rfl, rfl, trivial⟩ trivial) ?_
      · exact Nat.zero_le _
      rintro i hp
      try dsimp only at hp
      have hi := hp
      refine awp_seq ?_
      refine awp_seq ?_
      refine awp_region rfl (.n (fun _ => op_move (.plain rfl)) (.n (fun _ => op_move (.plain rfl)) (.n (fun _ => op_len (s := 0) Try.underlying22 (.plain rfl)) (.n (fun _ => op_lss (.plain rfl) (.plain rfl)) (.nil _))))) ?_
      refine awp_cond rfl (fun h => ?_) (fun h => ?_)
      · try simp only [decide_eq_true_eq, decide_eq_false_iff_not, Bool.and_eq_true, Bool.or_eq_true, Bool.and_eq_false_iff, Bool.or_eq_false_iff, Bool.not_eq_true', Bool.not_eq_false', Bool.not_eq_true, Bool.not_eq_false] at h; try simp only [Int.toNat_zero] at h
        have hlm := getD_mem (l := (linR G F Rd Rw used F.length [(F.length : Int) - (m + 1)])) [] (show i < (linR G F Rd Rw used F.length [(F.length : Int) - (m + 1)]).length by omega)
        have hl2 := linR_in _ _ _ hlm
        rw [List.length_singleton] at hl2
        have hrb := refF_bd (G := G) (F := F) (Rd := Rd) (Rw := Rw) m (used ++ (linR G F Rd Rw used F.length [(F.length : Int) - (m + 1)]).getD i [])
        have hmul : (F.length + 1) * m ≤ 9 * 8 := Nat.mul_le_mul (by omega) (by omega)
        refine awp_skip ?_
        refine awp_seq ?_
        refine awp_block ?_
        refine awp_seq ?_
        refine awp_region rfl (.n (fun _ => op_move (.plain rfl)) (.n (fun _ => op_move (.plain rfl)) (.n (fun _ => op_indexAddrN Try.underlying22 Try.sizeOf35 (.plain rfl) (.plain rfl) (fun _ => rfl) ?_) (.n (fun _ => op_load Try.isAgg35 (.plain rfl)) (.n (fun _ => op_len (s := 0) Try.underlying35 (.plain rfl)) (.n (fun _ => op_assign (.plain rfl)) (.nil _))))))) ?_
        · omega
        refine awp_seq ?_
        refine awp_seq ?_
        refine awp_region rfl (.n (fun _ => op_move (.plain rfl)) (.n (fun _ => op_fieldAddr Try.underlying24 rfl rfl Try.sizeOf3 (.plain rfl)) (.n (fun _ => op_load Try.isAgg3 (.plain rfl)) (.n (fun _ => op_lss (.plain rfl) (.plain rfl)) (.nil _))))) ?_
        refine awp_cond rfl (fun h => ?_) (fun h => ?_)
        · try simp only [decide_eq_true_eq, decide_eq_false_iff_not, Bool.and_eq_true, Bool.or_eq_true, Bool.and_eq_false_iff, Bool.or_eq_false_iff, Bool.not_eq_true', Bool.not_eq_false', Bool.not_eq_true, Bool.not_eq_false] at h; try simp only [Int.toNat_zero] at h
          have hg : giftL G ((F.length : Int) - (m + 1)) ((linR G F Rd Rw used F.length [(F.length : Int) - (m + 1)]).getD i []) = (((linR G F Rd Rw used F.length [(F.length : Int) - (m + 1)]).getD i []).length : Int) - 1 := if_pos h
          refine awp_region rfl (.n (fun _ => op_move (.plain rfl)) (.n (fun _ => op_sub (.plain rfl) (.plain rfl) ?_) (.n (fun _ => op_assign (.plain rfl)) (.nil _)))) ?_
          · unfold InR; omega
          refine awp_seq ?_
          refine awp_region_draw mixed rfl (.n (fun _ => op_move (.plain rfl)) (.n (fun _ => op_load_agg Try.isAgg24 Try.sizeOf24 (.plain rfl) (Nat.le_of_ble_eq_true rfl)) (.n (fun _ => op_move (.plain rfl)) (.n (fun _ => op_add (.plain rfl) (.plain rfl) ?_) (.e (op_slitO (pp := []) (α := Int) (d := 0) (f := (fun n => [.int .i64 n])) 53 [] ety35 rfl trivial rfl (by decide) rfl (fun _ => rfl) rfl) rfl (.n (fun _ => op_move (.plain rfl)) (.e (op_append (id' := 55) (α := Int) (d := 0) (f := (fun n => [.int .i64 n])) ety35 Try.underlying35 (fun _ => rfl) (fun _ => rfl) (.plain rfl) rfl (.plain rfl) rfl ?_) rfl (.n (fun _ => op_move (.plain rfl)) (.n (fun _ => op_move (.plain rfl)) (.n (fun _ => op_indexAddrN Try.underlying22 Try.sizeOf35 (.plain rfl) (.plain rfl) (fun _ => rfl) ?_) (.n (fun _ => op_load Try.isAgg35 (.plain rfl)) (.e ((op_append (id' := 60) (α := Int) (d := 0) (f := (fun n => [.int .i64 n])) ety35 Try.underlying35 (fun _ => rfl) (fun _ => rfl) (.plain rfl) rfl (.plain rfl) rfl ?_).given rfl) rfl (.n (fun _ => op_call3 Try.call18 (.plain rfl) (.plain rfl) (.plain rfl) (ih m (by omega) ((F.length : Int) - (m + 1) + 1) (used ++ (linR G F Rd Rw used F.length [(F.length : Int) - (m + 1)]).getD i []) ?_ ?_ ?_)) (.n (fun _ => op_add (.plain rfl) (.plain rfl) ?_) (.n (fun _ => op_assign (.plain rfl)) (.nil _)))))))))))))))) ?d3 ?_
          · unfold InR; omega
          · first | omega | (simp only [List.length_nil]; omega)
          · omega
          · first | omega | (simp only [List.nil_append, List.length_append]; omega)
          · omega
          · have := linR_in _ _ _ hlm; rw [List.length_singleton] at this; rw [List.length_append]; omega
          · omega
          · unfold InR; omega
          · kernel_rfl
          refine awp_seq ?_
          refine awp_region rfl (.n (fun _ => op_move (.plain rfl)) (.n (fun _ => op_move (.plain rfl)) (.n (fun _ => op_gtr (.plain rfl) (.plain rfl)) (.nil _)))) ?_
          refine awp_cond rfl (fun h => ?_) (fun h => ?_)
          · try simp only [decide_eq_true_eq, decide_eq_false_iff_not, Bool.and_eq_true, Bool.or_eq_true, Bool.and_eq_false_iff, Bool.or_eq_false_iff, Bool.not_eq_true', Bool.not_eq_false', Bool.not_eq_true, Bool.not_eq_false] at h; try simp only [Int.toNat_zero] at h
            refine awp_region rfl (.n (fun _ => op_move (.plain rfl)) (.n (fun _ => op_assign (.plain rfl)) (.nil _))) ?_
            refine awp_region rfl (.n (fun _ => op_move (.plain rfl)) (.n (fun _ => op_add (.plain rfl) (.plain rfl) ?_) (.n (fun _ => op_assign (.plain rfl)) (.nil _)))) ?_
            · unfold InR; omega
            exact ⟨i + 1, by omega, by dsimp only; omega, (Ent.kept ⟨rfl, rfl, rfl, (congrArg (fun n => some (SV.int n)) (by simp only [mxTo, hg]; first | rw [if_pos (by omega)] | rw [if_neg (by omega)])), rfl, rfl, trivial⟩ trivial)⟩
          · try simp only [decide_eq_true_eq, decide_eq_false_iff_not, Bool.and_eq_true, Bool.or_eq_true, Bool.and_eq_false_iff, Bool.or_eq_false_iff, Bool.not_eq_true', Bool.not_eq_false', Bool.not_eq_true, Bool.not_eq_false] at h; try simp only [Int.toNat_zero] at h
            refine awp_skip ?_
            refine awp_region rfl (.n (fun _ => op_move (.plain rfl)) (.n (fun _ => op_add (.plain rfl) (.plain rfl) ?_) (.n (fun _ => op_assign (.plain rfl)) (.nil _)))) ?_
            · unfold InR; omega
            exact ⟨i + 1, by omega, by dsimp only; omega, (Ent.kept ⟨rfl, rfl, rfl, (congrArg (fun n => some (SV.int n)) (by simp only [mxTo, hg]; first | rw [if_pos (by omega)] | rw [if_neg (by omega)])), rfl, rfl, trivial⟩ trivial)⟩
        · try simp only [decide_eq_true_eq, decide_eq_false_iff_not, Bool.and_eq_true, Bool.or_eq_true, Bool.and_eq_false_iff, Bool.or_eq_false_iff, Bool.not_eq_true', Bool.not_eq_false', Bool.not_eq_true, Bool.not_eq_false] at h; try simp only [Int.toNat_zero] at h
          have hg : giftL G ((F.length : Int) - (m + 1)) ((linR G F Rd Rw used F.length [(F.length : Int) - (m + 1)]).getD i []) = (((linR G F Rd Rw used F.length [(F.length : Int) - (m + 1)]).getD i []).length : Int) := if_neg h
          refine awp_skip ?_
          refine awp_seq ?_
          refine awp_region_draw mixed rfl (.n (fun _ => op_move (.plain rfl)) (.n (fun _ => op_load_agg Try.isAgg24 Try.sizeOf24 (.plain rfl) (Nat.le_of_ble_eq_true rfl)) (.n (fun _ => op_move (.plain rfl)) (.n (fun _ => op_add (.plain rfl) (.plain rfl) ?_) (.e (op_slitO (pp := []) (α := Int) (d := 0) (f := (fun n => [.int .i64 n])) 53 [] ety35 rfl trivial rfl (by decide) rfl (fun _ => rfl) rfl) rfl (.n (fun _ => op_move (.plain rfl)) (.e (op_append (id' := 55) (α := Int) (d := 0) (f := (fun n => [.int .i64 n])) ety35 Try.underlying35 (fun _ => rfl) (fun _ => rfl) (.plain rfl) rfl (.plain rfl) rfl ?_) rfl (.n (fun _ => op_move (.plain rfl)) (.n (fun _ => op_move (.plain rfl)) (.n (fun _ => op_indexAddrN Try.underlying22 Try.sizeOf35 (.plain rfl) (.plain rfl) (fun _ => rfl) ?_) (.n (fun _ => op_load Try.isAgg35 (.plain rfl)) (.e ((op_append (id' := 60) (α := Int) (d := 0) (f := (fun n => [.int .i64 n])) ety35 Try.underlying35 (fun _ => rfl) (fun _ => rfl) (.plain rfl) rfl (.plain rfl) rfl ?_).given rfl) rfl (.n (fun _ => op_call3 Try.call18 (.plain rfl) (.plain rfl) (.plain rfl) (ih m (by omega) ((F.length : Int) - (m + 1) + 1) (used ++ (linR G F Rd Rw used F.length [(F.length : Int) - (m + 1)]).getD i []) ?_ ?_ ?_)) (.n (fun _ => op_add (.plain rfl) (.plain rfl) ?_) (.n (fun _ => op_assign (.plain rfl)) (.nil _)))))))))))))))) ?d4 ?_
          · unfold InR; omega
          · first | omega | (simp only [List.length_nil]; omega)
          · omega
          · first | omega | (simp only [List.nil_append, List.length_append]; omega)
          · omega
          · have := linR_in _ _ _ hlm; rw [List.length_singleton] at this; rw [List.length_append]; omega
          · omega
          · unfold InR; omega
          · kernel_rfl
          refine awp_seq ?_
          refine awp_region rfl (.n (fun _ => op_move (.plain rfl)) (.n (fun _ => op_move (.plain rfl)) (.n (fun _ => op_gtr (.plain rfl) (.plain rfl)) (.nil _)))) ?_
          refine awp_cond rfl (fun h => ?_) (fun h => ?_)
          · try simp only [decide_eq_true_eq, decide_eq_false_iff_not, Bool.and_eq_true, Bool.or_eq_true, Bool.and_eq_false_iff, Bool.or_eq_false_iff, Bool.not_eq_true', Bool.not_eq_false', Bool.not_eq_true, Bool.not_eq_false] at h; try simp only [Int.toNat_zero] at h
            refine awp_region rfl (.n (fun _ => op_move (.plain rfl)) (.n (fun _ => op_assign (.plain rfl)) (.nil _))) ?_
            refine awp_region rfl (.n (fun _ => op_move (.plain rfl)) (.n (fun _ => op_add (.plain rfl) (.plain rfl) ?_) (.n (fun _ => op_assign (.plain rfl)) (.nil _)))) ?_
            · unfold InR; omega
            exact ⟨i + 1, by omega, by dsimp only; omega, (Ent.kept ⟨rfl, rfl, rfl, (congrArg (fun n => some (SV.int n)) (by simp only [mxTo, hg]; first | rw [if_pos (by omega)] | rw [if_neg (by omega)])), rfl, rfl, trivial⟩ trivial)⟩
          · try simp only [decide_eq_true_eq, decide_eq_false_iff_not, Bool.and_eq_true, Bool.or_eq_true, Bool.and_eq_false_iff, Bool.or_eq_false_iff, Bool.not_eq_true', Bool.not_eq_false', Bool.not_eq_true, Bool.not_eq_false] at h; try simp only [Int.toNat_zero] at h
            refine awp_skip ?_
            refine awp_region rfl (.n (fun _ => op_move (.plain rfl)) (.n (fun _ => op_add (.plain rfl) (.plain rfl) ?_) (.n (fun _ => op_assign (.plain rfl)) (.nil _)))) ?_
            · unfold InR; omega
            exact ⟨i + 1, by omega, by dsimp only; omega, (Ent.kept ⟨rfl, rfl, rfl, (congrArg (fun n => some (SV.int n)) (by simp only [mxTo, hg]; first | rw [if_pos (by omega)] | rw [if_neg (by omega)])), rfl, rfl, trivial⟩ trivial)⟩
      · try simp only [decide_eq_true_eq, decide_eq_false_iff_not, Bool.and_eq_true, Bool.or_eq_true, Bool.and_eq_false_iff, Bool.or_eq_false_iff, Bool.not_eq_true', Bool.not_eq_false', Bool.not_eq_true, Bool.not_eq_false] at h; try simp only [Int.toNat_zero] at h
        refine awp_exit ?_
        refine awp_seq ?_
        refine awp_region rfl (.n (fun _ => op_move (.plain rfl)) (.n (fun _ => op_assign (.plain rfl)) (.nil _))) ?_
        refine awp_ret ?_
        refine retQ.ret ?_
        refine ret1 rfl rfl rfl ?_
        obtain rfl : i = (linR G F Rd Rw used F.length [(F.length : Int) - (m + 1)]).length := by omega
        simp only [refF]
        rw [if_neg hin]

theorem RSwapMost_fc (G : Int) (F : List (List Int)) (Rd Rw : Int) (hv : mayE G F Rd Rw = 0) : FC Try.prog 12 [.agg [.i G, .rows F, .i Rd, .i Rw]] (.i (refF G F Rd Rw F.length [])) := by
  refine FC.intro Try.func12 rfl (Nat.le_of_ble_eq_true rfl) fun hfit => ?_
  have fit0 := hfit _ (.head _)
  have hS := sok hv
  have hn8 := hS.n8
  have hG := hS.g
  have hRd := hS.rd
  have hRw := hS.rw'
  refine awp_seq ?_
  refine awp_region rfl (.n (fun _ => op_box (.plain rfl) (by simp)) (.n (fun _ => op_assign (.plain rfl)) (.nil _))) ?_
  refine awp_seq ?_
  refine awp_region rfl (.n (fun _ => op_load_agg Try.isAgg24 Try.sizeOf24 (.plain rfl) (Nat.le_of_ble_eq_true rfl)) (.n (fun _ => op_call3 Try.call18 (.plain rfl) (.plain rfl) (.nilS rfl) (swapFrom_fc G F Rd Rw hv F.length 0 [] ?_ ?_ ?_)) (.n (fun _ => op_assign (.plain rfl)) (.nil _)))) ?_
  · omega
  · simp
  · omega
  refine awp_ret ?_
  refine retQ.ret ?_
  refine ret1 rfl rfl rfl ?_
  rfl

end Go.Proofs.Ytnkhlgkcohpahaa

