/- The rules of the vote with one another. Conditions: each theorem names its own. -/
import Derived.Test.YtkbbdiodmeobaaaProg
import Derived.Test.YtkbbdiodmeobaaaFi
namespace Go.Proofs.Ytkbbdiodmeobaaa
open Go.Abs
set_option linter.unusedVariables false
set_option linter.unusedSimpArgs false

/-! ### Who is chosen by the strongest ways is of Smith's set -/
section
variable {n : Nat} {L : List (Int × List Int × Unit)}
def cutB (n : Nat) (L : List (Int × List Int × Unit)) (D : Nat → Bool) (x y : Int) : Int := if (0 ≤ x ∧ x < (n : Int) ∧ 0 ≤ y ∧ y < (n : Int)) ∧ D x.toNat = false ∧ D y.toNat = true then 0 else fwF (wM L) n x y
theorem cut_shut (hV : VOk n L) {D : Nat → Bool} (hD : Dom n L D) : ShutM n (wM L) (cutB n L D) := by
  have hW := wM_ok hV
  refine ⟨fun x y => ?_, fun x y _ => ?_, fun i m j hm hij _ _ => ?_⟩
  · unfold cutB; split
    · exact Int.le_refl _
    · exact fw_pos hW n x y
  · unfold cutB; split
    · rename_i h
      have := hD y.toNat (by omega) h.2.2 x.toNat (by omega) h.2.1
      rw [Int.toNat_of_nonneg h.1.1, Int.toNat_of_nonneg h.1.2.2.1] at this
      unfold wM; rw [if_neg (by omega)]; exact Int.le_refl _
    · exact fw_up hW n x y
  · have le : ∀ a b : Nat, cutB n L D (a : Nat) (b : Nat) ≤ fwF (wM L) n (a : Nat) (b : Nat) := fun a b => by
      have := fw_pos hW n (a : Nat) (b : Nat)
      unfold cutB; split <;> omega
    by_cases c : (((0 : Int) ≤ (i : Nat) ∧ ((i : Nat) : Int) < (n : Int) ∧ (0 : Int) ≤ (j : Nat) ∧ ((j : Nat) : Int) < (n : Int)) ∧ D ((i : Nat) : Int).toNat = false ∧ D ((j : Nat) : Int).toNat = true)
    · have e : cutB n L D (i : Nat) (j : Nat) = 0 := by unfold cutB; rw [if_pos c]
      rw [e]
      by_cases d : D m = true
      · have : cutB n L D (i : Nat) (m : Nat) = 0 := by unfold cutB; rw [if_pos ⟨⟨by omega, by omega, by omega, by omega⟩, c.2.1, by simpa using d⟩]
        omega
      · have : cutB n L D (m : Nat) (j : Nat) = 0 := by unfold cutB; rw [if_pos ⟨⟨by omega, by omega, by omega, by omega⟩, by simpa using d, c.2.2⟩]
        omega
    · have e : cutB n L D (i : Nat) (j : Nat) = fwF (wM L) n (i : Nat) (j : Nat) := by unfold cutB; rw [if_neg c]
      rw [e]
      have h1 := le i m
      have h2 := le m j
      have h3 := fw_closed hW n m hm (i : Nat) (j : Nat) (by omega)
      omega
theorem sch_dom (hV : VOk n L) {D : Nat → Bool} (hD : Dom n L D) {y : Nat} (hy : y < n) (hDy : D y = true) {k : Nat} (hk : k < n) (hs : ((k : Nat) : Int) ∈ schF n L) : D k = true := by
  have hW := wM_ok hV
  obtain ⟨k2, hk2, e, hall⟩ := sch_mem.1 hs
  have : k2 = k := by omega
  subst this
  cases hDk : D k2 with
  | true => rfl
  | false =>
    exfalso
    have hky : k2 ≠ y := fun c => by subst c; rw [hDy] at hDk; exact absurd hDk (by decide)
    have h1 := fw_least hW (cut_shut hV hD) n (Nat.le_refl _) k2 y hky
    have h2 : cutB n L D (k2 : Nat) (y : Nat) = 0 := by unfold cutB; rw [if_pos ⟨⟨by omega, by omega, by omega, by omega⟩, by simpa using hDk, by simpa using hDy⟩]
    have h3 := fw_up hW n (y : Nat) (k2 : Nat)
    have h4 := hD y hy hDy k2 hk hDk
    have h5 := prefF_bd hV (k2 : Nat) (y : Nat)
    have h6 : wM L (y : Nat) (k2 : Nat) = prefF L (y : Nat) (k2 : Nat) := by unfold wM; rw [if_pos h4]
    have := hall y hy
    omega
theorem sch_smith (hV : VOk n L) {v : Int} (hs : v ∈ schF n L) : v ∈ smithF n L := by
  obtain ⟨k, hk, rfl, _⟩ := sch_mem.1 hs
  refine where_mem.2 ⟨k, hk, rfl, sm_of fun D hD ⟨y, hy, hDy⟩ => sch_dom hV hD hy hDy hk hs⟩
theorem where_none {p : Nat → Bool} : ∀ {m : Nat}, (∀ k, k < m → p k = false) → whereTo p m = []
  | 0, _ => rfl
  | m + 1, h => by rw [← where_no (by rw [h m (by omega)]; decide), where_none fun k hk => h k (by omega)]
theorem where_one {p : Nat → Bool} {x : Nat} : ∀ {m : Nat}, x < m → (∀ k, k < m → (p k = true ↔ k = x)) → whereTo p m = [(x : Int)]
  | m + 1, hx, h => by
    by_cases e : x = m
    · subst e
      simp only [whereTo]
      rw [where_none fun k hk => by
        cases c : p k with
        | false => rfl
        | true => have := (h k (by omega)).1 c; omega, if_pos ((h x (by omega)).2 rfl)]
      rfl
    · rw [← where_no fun c => e ((h m (by omega)).1 c).symm]
      exact where_one (by omega) fun k hk => h k (by omega)
theorem cond_is (h : 0 ≤ condF n L) : ∃ x : Nat, x < n ∧ condF n L = (x : Int) ∧ ∀ y : Nat, y < n → y ≠ x → prefF L (y : Nat) (x : Nat) < prefF L (x : Nat) (y : Nat) := by
  unfold condF at *
  cases e : firstI (fun x => allTo L x n) n with
  | none => rw [e] at h; simp at h
  | some x =>
    have := firstI_spec e
    refine ⟨x, this.1, rfl, fun y hy hyx => ?_⟩
    have h2 := (allTo_iff.1 this.2.1 y hy).resolve_left fun c => hyx c.symm
    unfold beatsF at h2
    exact of_decide_eq_true h2
theorem cond_smith {x : Nat} (hx : x < n) (h : ∀ y : Nat, y < n → y ≠ x → prefF L (y : Nat) (x : Nat) < prefF L (x : Nat) (y : Nat)) : smithF n L = [(x : Int)] := by
  have hD : Dom n L fun z => decide (z = x) := fun a ha e y hy f => by
    have e := of_decide_eq_true e
    have f := of_decide_eq_false f
    subst e
    exact h y hy f
  refine where_one hx fun k hk => ⟨fun c => of_decide_eq_true (sm_in c hD ⟨x, hx, decide_eq_true rfl⟩), fun c => ?_⟩
  subst c
  have hn : 1 ≤ n := by omega
  obtain ⟨y, hy, hs⟩ := (sm_dom (L := L) hn).2
  have : y = k := of_decide_eq_true (sm_in hs hD ⟨k, hk, decide_eq_true rfl⟩)
  rw [← this]; exact hs
theorem cond_sch (hV : VOk n L) {x : Nat} (hx : x < n) (h : ∀ y : Nat, y < n → y ≠ x → prefF L (y : Nat) (x : Nat) < prefF L (x : Nat) (y : Nat)) : schF n L = [(x : Int)] := by
  have hsm := cond_smith hx h
  have hall : ∀ v, v ∈ schF n L → v = (x : Int) := fun v hv => by
    have := sch_smith hV hv
    rw [hsm] at this
    simpa using this
  have hin : ((x : Nat) : Int) ∈ schF n L := by
    have h1 := getD_mem (l := schF n L) 0 (sch_ne hV)
    rw [hall _ h1] at h1; exact h1
  unfold schF
  refine where_one hx fun k hk => ⟨fun c => ?_, fun c => ?_⟩
  · have : ((k : Nat) : Int) ∈ schF n L := where_mem.2 ⟨k, hk, rfl, c⟩
    have := hall _ this
    omega
  · subst c
    obtain ⟨k2, hk2, e, hp⟩ := where_mem.1 hin
    have : k2 = k := by omega
    subst this; exact hp
/-! ### The order least spoken against -/
def agC (L : List (Int × List Int × Unit)) (c : Int) : List Int → Int
  | [] => 0
  | b :: l => prefF L b c + agC L c l
def agL (L : List (Int × List Int × Unit)) : List Int → Int
  | [] => 0
  | a :: l => agC L a l + agL L l
theorem sumTo_shift {f : Nat → Int} : ∀ n, sumTo f (n + 1) = f 0 + sumTo (fun i => f (i + 1)) n
  | 0 => by simp [sumTo]
  | n + 1 => by
    have := sumTo_shift (f := f) n
    simp only [sumTo] at *
    omega
theorem agC_eq {c : Int} : ∀ l : List Int, sumTo (fun z => prefF L (l.getD z 0) c) l.length = agC L c l
  | [] => rfl
  | b :: l => by
    rw [List.length_cons, sumTo_shift]
    have := agC_eq (c := c) l
    simp only [List.getD_cons_zero, List.getD_cons_succ, agC]
    omega
theorem agL_eq : ∀ l : List Int, agF L l = agL L l
  | [] => rfl
  | a :: l => by
    have ih := agL_eq l
    unfold agF agS at *
    rw [List.length_cons, sumTo_shift]
    have h1 : agTo L (a :: l) 0 (l.length + 1 - (0 + 1)) = agC L a l := by
      rw [← agC_eq]
      unfold agTo
      rw [show l.length + 1 - (0 + 1) = l.length by omega]
      refine sumTo_same fun z _ => ?_
      rw [show 0 + 1 + z = z + 1 by omega]; rfl
    have h2 : sumTo (fun i => agTo L (a :: l) (i + 1) (l.length + 1 - (i + 1 + 1))) l.length = sumTo (fun i => agTo L l i (l.length - (i + 1))) l.length := by
      refine sumTo_same fun i _ => ?_
      unfold agTo
      rw [show l.length + 1 - (i + 1 + 1) = l.length - (i + 1) by omega]
      refine sumTo_same fun z _ => ?_
      rw [show i + 1 + 1 + z = (i + 1 + z) + 1 by omega]; rfl
    simp only [agL]
    rw [h1, h2, ih]
theorem agC_swap {c a x : Int} {B : List Int} : ∀ A : List Int, agC L c (A ++ a :: x :: B) = agC L c (A ++ x :: a :: B)
  | [] => by simp only [List.nil_append, agC]; omega
  | b :: A => by simp only [List.cons_append, agC]; rw [agC_swap A]
theorem agL_swap {a x : Int} {B : List Int} : ∀ A : List Int, agL L (A ++ a :: x :: B) + prefF L a x = agL L (A ++ x :: a :: B) + prefF L x a
  | [] => by simp only [List.nil_append, agL, agC]; omega
  | b :: A => by
    have := agL_swap (a := a) (x := x) (B := B) A
    simp only [List.cons_append, agL]; rw [agC_swap A]; omega
theorem kem_min : ∀ k, k ≤ (ordL n).length → 0 < k → ∀ j, j < k → agF L (kemT (agF L) (ordL n) k) ≤ agF L ((ordL n).getD j [])
  | k + 1, hk, _, j, hj => by
    simp only [kemT]
    by_cases k0 : k = 0
    · subst k0
      obtain rfl : j = 0 := by omega
      rw [if_pos (.inl rfl)]; exact Int.le_refl _
    · have ih := kem_min k (by omega) (by omega)
      split
      · rename_i h
        have h := h.resolve_left k0
        by_cases e : j = k
        · subst e; exact Int.le_refl _
        · have := ih j (by omega); omega
      · rename_i h
        rw [not_or] at h
        by_cases e : j = k
        · subst e; omega
        · exact ih j (by omega)
theorem ordL_mem {o : List Int} : o ∈ ordL n ↔ o.Perm (upF n) := by rw [← ordL_perms, permsF_mem]
theorem kem_perm (hn : 1 ≤ n) : (kemF n L).Perm (upF n) := by
  obtain ⟨j, hj, e⟩ := kem_len (n := n) (L := L) (ordL n).length (Nat.le_refl _) (ordL_pos hn)
  unfold kemF
  rw [e]
  exact ordL_mem.1 (getD_mem [] hj)
theorem kem_least (hn : 1 ≤ n) {o : List Int} (ho : o.Perm (upF n)) : agF L (kemF n L) ≤ agF L o := by
  obtain ⟨j, hj, e⟩ := List.getElem_of_mem (ordL_mem.2 ho)
  have := kem_min (n := n) (L := L) (ordL n).length (Nat.le_refl _) (ordL_pos hn) j hj
  rw [List.getD_eq_getElem?_getD, List.getElem?_eq_getElem hj, Option.getD_some, e] at this
  exact this
theorem upF_in {v : Int} (h : v ∈ upF n) : 0 ≤ v ∧ v < (n : Int) := by
  unfold upF at h
  obtain ⟨y, hy, rfl⟩ := List.mem_map.1 h
  have := List.mem_range.1 hy
  omega
theorem upF_has {k : Nat} (h : k < n) : ((k : Nat) : Int) ∈ upF n := by
  unfold upF
  exact List.mem_map.2 ⟨k, List.mem_range.2 h, rfl⟩
theorem upF_nodup : (upF n).Nodup := by
  unfold upF
  rw [List.Nodup, List.pairwise_map]
  exact List.nodup_range.imp fun h e => h (by omega)
theorem kem_first {x : Nat} (hx : x < n) (h : ∀ y : Nat, y < n → y ≠ x → prefF L (y : Nat) (x : Nat) < prefF L (x : Nat) (y : Nat)) : (kemF n L).getD 0 0 = (x : Int) := by
  have hn : 1 ≤ n := by omega
  have hp := kem_perm (L := L) hn
  obtain ⟨A, B, e⟩ := List.append_of_mem (hp.mem_iff.2 (upF_has hx))
  rcases List.eq_nil_or_concat A with rfl | ⟨A', a, rfl⟩
  · rw [e]; rfl
  · exfalso
    rw [List.concat_eq_append, List.append_assoc, List.singleton_append] at e
    have hnd : (kemF n L).Nodup := hp.nodup_iff.2 upF_nodup
    have ha : a ∈ upF n := hp.mem_iff.1 (by rw [e]; exact List.mem_append_right _ List.mem_cons_self)
    have hai := upF_in ha
    have hax : a ≠ (x : Int) := fun c => by
      rw [e] at hnd
      have := (List.nodup_cons.1 (List.nodup_append.1 hnd).2.1).1
      exact this (by rw [c]; exact List.mem_cons_self)
    have h1 := h a.toNat (by omega) (by omega)
    rw [Int.toNat_of_nonneg hai.1] at h1
    have hq : (A' ++ (x : Int) :: a :: B).Perm (upF n) := by
      refine List.Perm.trans ?_ hp
      rw [e]
      exact (List.Perm.swap _ _ _).append_left _
    have h2 := kem_least (L := L) hn hq
    rw [e, agL_eq, agL_eq] at h2
    have h3 := agL_swap (L := L) (a := a) (x := (x : Int)) (B := B) A'
    omega
theorem cond_all (hV : VOk n L) (h : 0 ≤ condF n L) : schF n L = [condF n L] ∧ smithF n L = [condF n L] ∧ (kemF n L).getD 0 0 = condF n L := by
  obtain ⟨x, hx, e, hb⟩ := cond_is h
  rw [e]
  exact ⟨cond_sch hV hx hb, cond_smith hx hb, kem_first hx hb⟩
theorem kem_length (hn : 1 ≤ n) : (kemF n L).length = n := by rw [(kem_perm (L := L) hn).length_eq]; simp
end

set_option maxRecDepth 1000000 in
set_option maxHeartbeats 1000000 in
theorem same_fc (a b : List Int) : FC Try.prog 27 [.ints a, .ints b] (.bool (decide (a = b))) := by
  refine FC.intro Try.func27 rfl (Nat.le_of_ble_eq_true rfl) fun hfit => ?_
  obtain ⟨fitl0, fitr0⟩ := (hfit _ (.head _)).ints
  obtain ⟨fitl1, fitr1⟩ := (hfit _ (.tail _ (.head _))).ints
  refine awp_seq ?_
  refine awp_region rfl (.n (fun _ => op_assign (.plain rfl)) (.nil _)) ?_
  refine awp_seq ?_
  refine awp_seq ?_
  refine awp_region rfl (.n (fun _ => op_move (.plain rfl)) (.n (fun _ => op_len (s := 0) Try.underlying23 (.plain rfl)) (.n (fun _ => op_move (.plain rfl)) (.n (fun _ => op_len (s := 0) Try.underlying23 (.plain rfl)) (.n (fun _ => op_neq (.plain rfl) (.plain rfl)) (.nil _)))))) ?_
  refine awp_cond rfl (fun h => ?_) (fun h => ?_)
  · (try simp only [decide_eq_true_eq, decide_eq_false_iff_not, Bool.and_eq_true, Bool.or_eq_true, Bool.and_eq_false_iff, Bool.or_eq_false_iff, Bool.not_eq_true', Bool.not_eq_false', Bool.not_eq_true, Bool.not_eq_false, Bool.true_eq_false, Bool.false_eq_true] at h); (try simp only [fold_c, fold_o, Int.toNat_natCast] at h)
    refine awp_seq ?_
    refine awp_region rfl (.n (fun _ => op_assign (.plain rfl)) (.nil _)) ?_
    refine awp_ret ?_
    refine retQ.ret ?_
    refine ret1 rfl rfl rfl ?_
    rw [decide_eq_false (fun e => by subst e; simp at h)]
  · (try simp only [decide_eq_true_eq, decide_eq_false_iff_not, Bool.and_eq_true, Bool.or_eq_true, Bool.and_eq_false_iff, Bool.or_eq_false_iff, Bool.not_eq_true', Bool.not_eq_false', Bool.not_eq_true, Bool.not_eq_false, Bool.true_eq_false, Bool.false_eq_true] at h); (try simp only [fold_c, fold_o, Int.toNat_natCast] at h)
    refine awp_skip ?_
    refine awp_seq ?_
    refine awp_seq ?_
    refine awp_region rfl (.n (fun _ => op_assign (.plain rfl)) (.nil _)) ?_
    refine awp_block ?_
    refine awp_loop (σ := Nat) (fun (k : Nat) => k ≤ a.length ∧ ∀ j, j < k → a.getD j 0 = b.getD j 0) (fun (k : Nat) => ⟨[(5, .int (k : Nat)), (0, .pv (.ints a)), (1, .pv (.ints b))], []⟩) (fun (k : Nat) => a.length - k) 0 ?_ (Ent.kept ⟨rfl, rfl, rfl, trivial⟩ trivial) ?_
    · simp
    rintro k hp
    try dsimp only at hp
    obtain ⟨hk, hj⟩ := hp
    have hlen : a.length = b.length := by omega
    refine awp_seq ?_
    refine awp_seq ?_
    refine awp_region rfl (.n (fun _ => op_move (.plain rfl)) (.n (fun _ => op_move (.plain rfl)) (.n (fun _ => op_len (s := 0) Try.underlying23 (.plain rfl)) (.n (fun _ => op_lss (.plain rfl) (.plain rfl)) (.nil _))))) ?_
    refine awp_cond rfl (fun h => ?_) (fun h => ?_)
    · (try simp only [decide_eq_true_eq, decide_eq_false_iff_not, Bool.and_eq_true, Bool.or_eq_true, Bool.and_eq_false_iff, Bool.or_eq_false_iff, Bool.not_eq_true', Bool.not_eq_false', Bool.not_eq_true, Bool.not_eq_false, Bool.true_eq_false, Bool.false_eq_true] at h); (try simp only [fold_c, fold_o, Int.toNat_natCast] at h)
      refine awp_skip ?_
      refine awp_seq ?_
      refine awp_block ?_
      refine awp_seq ?_
      refine awp_region_draw mixed rfl (.n (fun _ => op_move (.plain rfl)) (.n (fun _ => op_move (.plain rfl)) (.n (fun _ => op_indexAddrN Try.underlying23 Try.sizeOf3 (.plain rfl) (.plain rfl) (fun _ => rfl) ?_) (.n (fun _ => op_load Try.isAgg3 (.plain rfl)) (.n (fun _ => op_move (.plain rfl)) (.n (fun _ => op_move (.plain rfl)) (.n (fun _ => op_indexAddrN Try.underlying23 Try.sizeOf3 (.plain rfl) (.plain rfl) (fun _ => rfl) ?_) (.n (fun _ => op_load Try.isAgg3 (.plain rfl)) (.n (fun _ => op_neq (.plain rfl) (.plain rfl)) (.nil _)))))))))) ?d1 ?_
      · omega
      · omega
      · kernel_rfl
      refine awp_cond rfl (fun h => ?_) (fun h => ?_)
      · (try simp only [decide_eq_true_eq, decide_eq_false_iff_not, Bool.and_eq_true, Bool.or_eq_true, Bool.and_eq_false_iff, Bool.or_eq_false_iff, Bool.not_eq_true', Bool.not_eq_false', Bool.not_eq_true, Bool.not_eq_false, Bool.true_eq_false, Bool.false_eq_true] at h); (try simp only [fold_c, fold_o, Int.toNat_natCast] at h)
        refine awp_seq ?_
        refine awp_region rfl (.n (fun _ => op_assign (.plain rfl)) (.nil _)) ?_
        refine awp_ret ?_
        refine retQ.ret ?_
        refine ret1 rfl rfl rfl ?_
        rw [decide_eq_false (fun e => by subst e; simp at h)]
      · (try simp only [decide_eq_true_eq, decide_eq_false_iff_not, Bool.and_eq_true, Bool.or_eq_true, Bool.and_eq_false_iff, Bool.or_eq_false_iff, Bool.not_eq_true', Bool.not_eq_false', Bool.not_eq_true, Bool.not_eq_false, Bool.true_eq_false, Bool.false_eq_true] at h); (try simp only [fold_c, fold_o, Int.toNat_natCast] at h)
        refine awp_skip ?_
        refine awp_region rfl (.n (fun _ => op_move (.plain rfl)) (.n (fun _ => op_add (.plain rfl) (.plain rfl) ?_) (.n (fun _ => op_assign (.plain rfl)) (.nil _)))) ?_
        · unfold InR; omega
        refine ⟨k + 1, ⟨by omega, fun j hjk => ?_⟩, by dsimp only; omega, Ent.kept ⟨rfl, rfl, rfl, trivial⟩ trivial⟩
        by_cases e : j = k
        · subst e; simpa using h
        · exact hj j (by omega)
    · (try simp only [decide_eq_true_eq, decide_eq_false_iff_not, Bool.and_eq_true, Bool.or_eq_true, Bool.and_eq_false_iff, Bool.or_eq_false_iff, Bool.not_eq_true', Bool.not_eq_false', Bool.not_eq_true, Bool.not_eq_false, Bool.true_eq_false, Bool.false_eq_true] at h); (try simp only [fold_c, fold_o, Int.toNat_natCast] at h)
      refine awp_exit ?_
      refine awp_seq ?_
      refine awp_region rfl (.n (fun _ => op_assign (.plain rfl)) (.nil _)) ?_
      refine awp_ret ?_
      refine retQ.ret ?_
      refine ret1 rfl rfl rfl ?_
      rw [decide_eq_true (List.ext_getElem hlen fun j h1 h2 => by have := hj j (by omega); simpa [List.getD_eq_getElem?_getD, h1, h2] using this)]

set_option maxRecDepth 1000000 in
set_option maxHeartbeats 4000000 in
theorem TopVotes_fc (raw : List Int) (n many : Int) (order : List Int) : FC Try.prog 6 [.ints raw, .i n, .i many, .ints order] (.bool true) := by
  refine FC.intro Try.func6 rfl (Nat.le_of_ble_eq_true rfl) fun hfit => ?_
  obtain ⟨fitl0, fitr0⟩ := (hfit _ (.head _)).ints
  have fit1 : -9223372036854775808 ≤ (n : Int) ∧ (n : Int) ≤ 9223372036854775807 := (hfit _ (.tail _ (.head _))).int64
  have fit2 : -9223372036854775808 ≤ (many : Int) ∧ (many : Int) ≤ 9223372036854775807 := (hfit _ (.tail _ (.tail _ (.head _)))).int64
  obtain ⟨fitl3, fitr3⟩ := (hfit _ (.tail _ (.tail _ (.tail _ (.head _))))).ints
  refine awp_seq ?_
  refine awp_region rfl (.n (fun _ => op_assign (.plain rfl)) (.nil _)) ?_
  refine awp_seq ?_
  refine awp_seq ?_
  refine awp_region rfl (.n (fun _ => op_move (.plain rfl)) (.n (fun _ => op_len (s := 0) Try.underlying23 (.plain rfl)) (.n (fun _ => op_move (.plain rfl)) (.n (fun _ => op_len (s := 0) Try.underlying23 (.plain rfl)) (.n (fun _ => op_add (.plain rfl) (.plain rfl) ?_) (.n (fun _ => op_gtr (.plain rfl) (.plain rfl)) (.nil _))))))) ?_
  · unfold InR; omega
  refine awp_cond rfl (fun h => ?_) (fun h => ?_)
  · (try simp only [decide_eq_true_eq, decide_eq_false_iff_not, Bool.and_eq_true, Bool.or_eq_true, Bool.and_eq_false_iff, Bool.or_eq_false_iff, Bool.not_eq_true', Bool.not_eq_false', Bool.not_eq_true, Bool.not_eq_false, Bool.true_eq_false, Bool.false_eq_true] at h); (try simp only [fold_c, fold_o, Int.toNat_natCast] at h)
    refine awp_seq ?_
    refine awp_region rfl (.n (fun _ => op_assign (.plain rfl)) (.nil _)) ?_
    refine awp_ret ?_
    refine retQ.ret ?_
    refine ret1 rfl rfl rfl ?_
    rfl
  · (try simp only [decide_eq_true_eq, decide_eq_false_iff_not, Bool.and_eq_true, Bool.or_eq_true, Bool.and_eq_false_iff, Bool.or_eq_false_iff, Bool.not_eq_true', Bool.not_eq_false', Bool.not_eq_true, Bool.not_eq_false, Bool.true_eq_false, Bool.false_eq_true] at h); (try simp only [fold_c, fold_o, Int.toNat_natCast] at h)
    refine awp_skip ?_
    refine awp_seq ?_
    refine awp_region rfl (.n (fun _ => op_move (.plain rfl)) (.n (fun _ => op_call2 Try.call23 (.plain rfl) (.plain rfl) (Pick_fc _ _ ?_)) (.n (fun _ => op_add (.plain rfl) (.plain rfl) ?_) (.n (fun _ => op_assign (.plain rfl)) (.nil _))))) ?_
    · omega
    · have := pickF_range n 5 (by omega); unfold InR; omega
    refine awp_seq ?_
    obtain ⟨N, hN⟩ : ∃ N : Nat, 1 + pickF n 5 = (N : Nat) := ⟨(1 + pickF n 5).toNat, by have := pickF_range n 5 (by omega); omega⟩
    have hn5 := pickF_range n 5 (by omega)
    rw [hN]
    have hN6 : 1 ≤ N ∧ N ≤ 5 := by omega
    obtain ⟨K, hK⟩ : ∃ K : Nat, pickF many 9 = (K : Nat) := ⟨(pickF many 9).toNat, by have := pickF_range many 9 (by omega); omega⟩
    have hm9 := pickF_range many 9 (by omega)
    have hK8 : K ≤ 8 := by omega
    have hv := balL_may (raw := raw) (n := N) (many := K) (by omega) (by omega) (by omega)
    have hV := vok hv
    have hne := sch_ne hV
    have hkl := kem_length (L := balL raw N K) hN6.1
    have hpN := permOf_length order 0 N
    refine awp_region rfl (.n (fun _ => op_move (.plain rfl)) (.n (fun _ => op_move (.plain rfl)) (.n (fun _ => op_move (.plain rfl)) (.n (fun _ => op_call2 Try.call23 (.plain rfl) (.plain rfl) (Pick_nat hK ?_)) (.n (fun _ => op_call3 Try.call24 (.plain rfl) (.plain rfl) (.plain rfl) (Ballots_fc _ _ _ ?_ ?_)) (.n (fun _ => op_assign (.plain rfl)) (.nil _))))))) ?_
    · omega
    · omega
    · omega
    refine awp_seq ?_
    refine awp_region rfl (.n (fun _ => op_move (.plain rfl)) (.n (fun _ => op_move (.plain rfl)) (.n (fun _ => op_call2 Try.call21 (.plain rfl) (.plain rfl) (Condorcet_fc N (balL raw N K) hv)) (.n (fun _ => op_move (.plain rfl)) (.n (fun _ => op_extract (.plain rfl) rfl) (.n (fun _ => op_extract (.plain rfl) rfl) (.n (fun _ => op_assign (.plain rfl)) (.n (fun _ => op_assign (.plain rfl)) (.nil _))))))))) ?_
    refine awp_seq ?_
    refine awp_region rfl (.n (fun _ => op_move (.plain rfl)) (.n (fun _ => op_move (.plain rfl)) (.n (fun _ => op_call2 Try.call16 (.plain rfl) (.plain rfl) (Schulze_fc N (balL raw N K) hv)) (.n (fun _ => op_move (.plain rfl)) (.n (fun _ => op_extract (.plain rfl) rfl) (.n (fun _ => op_extract (.plain rfl) rfl) (.n (fun _ => op_assign (.plain rfl)) (.n (fun _ => op_assign (.plain rfl)) (.nil _))))))))) ?_
    refine awp_seq ?_
    refine awp_region rfl (.n (fun _ => op_move (.plain rfl)) (.n (fun _ => op_move (.plain rfl)) (.n (fun _ => op_call2 Try.call15 (.plain rfl) (.plain rfl) (Smith_fc N (balL raw N K) hv)) (.n (fun _ => op_move (.plain rfl)) (.n (fun _ => op_extract (.plain rfl) rfl) (.n (fun _ => op_extract (.plain rfl) rfl) (.n (fun _ => op_assign (.plain rfl)) (.n (fun _ => op_assign (.plain rfl)) (.nil _))))))))) ?_
    refine awp_seq ?_
    refine awp_region rfl (.n (fun _ => op_move (.plain rfl)) (.n (fun _ => op_move (.plain rfl)) (.n (fun _ => op_call2 Try.call18 (.plain rfl) (.plain rfl) (Kemeny_fc N (balL raw N K) hv)) (.n (fun _ => op_move (.plain rfl)) (.n (fun _ => op_extract (.plain rfl) rfl) (.n (fun _ => op_extract (.plain rfl) rfl) (.n (fun _ => op_assign (.plain rfl)) (.n (fun _ => op_assign (.plain rfl)) (.nil _))))))))) ?_
    refine awp_seq ?_
    refine awp_seq ?_
    refine awp_region rfl (.n (fun _ => op_move (.plain rfl)) (.n (fun _ => op_neq (.plain rfl) (.plain rfl)) (.n (fun _ => op_move (.plain rfl)) (.gn rfl rfl (fun hg _ => op_move (.plain rfl)) (.gn rfl rfl (fun hg _ => op_neq (.opt rfl fun h => h) (.plain rfl)) (.n (fun _ => op_or (.plain rfl) (.plain rfl) (.plain rfl) (fun h => eqF h)) (.n (fun _ => op_move (.plain rfl)) (.gn rfl rfl (fun hg _ => op_move (.plain rfl)) (.gn rfl rfl (fun hg _ => op_neq (.opt rfl fun h => h) (.plain rfl)) (.n (fun _ => op_or (.plain rfl) (.plain rfl) (.plain rfl) (fun h => eqF h)) (.n (fun _ => op_move (.plain rfl)) (.gn rfl rfl (fun hg _ => op_move (.plain rfl)) (.gn rfl rfl (fun hg _ => op_neq (.opt rfl fun h => h) (.plain rfl)) (.n (fun _ => op_or (.plain rfl) (.plain rfl) (.plain rfl) (fun h => eqF h)) (.n (fun _ => op_move (.plain rfl)) (.gn rfl rfl (fun hg _ => op_move (.plain rfl)) (.gn rfl rfl (fun hg _ => op_len (s := 0) Try.underlying23 (.opt rfl fun h => h)) (.gn rfl rfl (fun hg _ => op_eql (.opt rfl fun h => h) (.plain rfl)) (.n (fun _ => op_or (.plain rfl) (.plain rfl) (.plain rfl) (fun h => eqF h)) (.n (fun _ => op_move (.plain rfl)) (.gn rfl rfl (fun hg _ => op_move (.plain rfl)) (.gn rfl rfl (fun hg _ => op_len (s := 0) Try.underlying23 (.opt rfl fun h => h)) (.gn rfl rfl (fun hg _ => op_move (.plain rfl)) (.gn rfl rfl (fun hg _ => op_neq (.opt rfl fun h => h) (.opt rfl fun h => h)) (.n (fun _ => op_or (.plain rfl) (.plain rfl) (.plain rfl) (fun h => eqF h)) (.nil _)))))))))))))))))))))))))) ?_
    refine awp_cond rfl (fun h => ?_) (fun h => ?_)
    · (try simp only [decide_eq_true_eq, decide_eq_false_iff_not, Bool.and_eq_true, Bool.or_eq_true, Bool.and_eq_false_iff, Bool.or_eq_false_iff, Bool.not_eq_true', Bool.not_eq_false', Bool.not_eq_true, Bool.not_eq_false, Bool.true_eq_false, Bool.false_eq_true] at h); (try simp only [fold_c, fold_o, Int.toNat_natCast] at h)
      exfalso
      simp only [not_true_eq_false, false_or] at h; omega
    · (try simp only [decide_eq_true_eq, decide_eq_false_iff_not, Bool.and_eq_true, Bool.or_eq_true, Bool.and_eq_false_iff, Bool.or_eq_false_iff, Bool.not_eq_true', Bool.not_eq_false', Bool.not_eq_true, Bool.not_eq_false, Bool.true_eq_false, Bool.false_eq_true] at h); (try simp only [fold_c, fold_o, Int.toNat_natCast] at h)
      refine awp_skip ?_
      refine awp_seq ?_
      refine awp_seq ?_
      refine awp_region rfl (.n (fun _ => op_assign (.plain rfl)) (.nil _)) ?_
      refine awp_block ?_
      refine awp_loop (σ := Nat) (fun (i : Nat) => i ≤ (schF N (balL raw N K)).length) (fun (i : Nat) => ⟨[(1, .int (N : Nat)), (3, .pv (.ints order)), (9, .pv (.seq (Int × List Int × Unit) (0, [], ()) (fun b => [.i b.1, .ints b.2.1]) (balL raw N K))), (10, .int (condF N (balL raw N K))), (12, .pv (.ints (schF N (balL raw N K)))), (14, .pv (.ints (smithF N (balL raw N K)))), (16, .pv (.ints (kemF N (balL raw N K)))), (18, .int (i : Nat))], []⟩) (fun (i : Nat) => (schF N (balL raw N K)).length - i) 0 ?_ (Ent.kept ⟨rfl, rfl, rfl, rfl, rfl, rfl, rfl, rfl, trivial⟩ trivial) ?_
      · exact Nat.zero_le _
      rintro i hp
      try dsimp only at hp
      have hi := hp
      have hsl : (schF N (balL raw N K)).length ≤ N := where_len _ N
      refine awp_seq ?_
      refine awp_seq ?_
      refine awp_region rfl (.n (fun _ => op_move (.plain rfl)) (.n (fun _ => op_move (.plain rfl)) (.n (fun _ => op_len (s := 0) Try.underlying23 (.plain rfl)) (.n (fun _ => op_lss (.plain rfl) (.plain rfl)) (.nil _))))) ?_
      refine awp_cond rfl (fun h => ?_) (fun h => ?_)
      · (try simp only [decide_eq_true_eq, decide_eq_false_iff_not, Bool.and_eq_true, Bool.or_eq_true, Bool.and_eq_false_iff, Bool.or_eq_false_iff, Bool.not_eq_true', Bool.not_eq_false', Bool.not_eq_true, Bool.not_eq_false, Bool.true_eq_false, Bool.false_eq_true] at h); (try simp only [fold_c, fold_o, Int.toNat_natCast] at h)
        have hin := place_mem.2 (sch_smith hV (getD_mem (l := (schF N (balL raw N K))) 0 (show i < (schF N (balL raw N K)).length by omega)))
        refine awp_skip ?_
        refine awp_seq ?_
        refine awp_block ?_
        refine awp_seq ?_
        refine awp_region rfl (.n (fun _ => op_move (.plain rfl)) (.n (fun _ => op_move (.plain rfl)) (.n (fun _ => op_indexAddrN Try.underlying23 Try.sizeOf3 (.plain rfl) (.plain rfl) (fun _ => rfl) ?_) (.n (fun _ => op_load Try.isAgg3 (.plain rfl)) (.n (fun _ => op_move (.plain rfl)) (.n (fun _ => op_call2 Try.call26 (.plain rfl) (.plain rfl) (In_fc _ _)) (.n (fun _ => op_not (.plain rfl)) (.nil _)))))))) ?_
        · omega
        refine awp_cond rfl (fun h => ?_) (fun h => ?_)
        · (try simp only [decide_eq_true_eq, decide_eq_false_iff_not, Bool.and_eq_true, Bool.or_eq_true, Bool.and_eq_false_iff, Bool.or_eq_false_iff, Bool.not_eq_true', Bool.not_eq_false', Bool.not_eq_true, Bool.not_eq_false, Bool.true_eq_false, Bool.false_eq_true] at h); (try simp only [fold_c, fold_o, Int.toNat_natCast] at h)
          exfalso
          exact h hin
        · (try simp only [decide_eq_true_eq, decide_eq_false_iff_not, Bool.and_eq_true, Bool.or_eq_true, Bool.and_eq_false_iff, Bool.or_eq_false_iff, Bool.not_eq_true', Bool.not_eq_false', Bool.not_eq_true, Bool.not_eq_false, Bool.true_eq_false, Bool.false_eq_true] at h); (try simp only [fold_c, fold_o, Int.toNat_natCast] at h)
          refine awp_skip ?_
          refine awp_region rfl (.n (fun _ => op_move (.plain rfl)) (.n (fun _ => op_add (.plain rfl) (.plain rfl) ?_) (.n (fun _ => op_assign (.plain rfl)) (.nil _)))) ?_
          · unfold InR; omega
          exact ⟨i + 1, by omega, by dsimp only; omega, (Ent.kept ⟨rfl, rfl, rfl, rfl, rfl, rfl, rfl, rfl, trivial⟩ trivial)⟩
      · (try simp only [decide_eq_true_eq, decide_eq_false_iff_not, Bool.and_eq_true, Bool.or_eq_true, Bool.and_eq_false_iff, Bool.or_eq_false_iff, Bool.not_eq_true', Bool.not_eq_false', Bool.not_eq_true, Bool.not_eq_false, Bool.true_eq_false, Bool.false_eq_true] at h); (try simp only [fold_c, fold_o, Int.toNat_natCast] at h)
        refine awp_exit ?_
        refine awp_seq ?_
        refine awp_seq ?_
        refine awp_region rfl (.n (fun _ => op_move (.plain rfl)) (.n (fun _ => op_geq (.plain rfl) (.plain rfl)) (.n (fun _ => op_move (.plain rfl)) (.gn rfl rfl (fun hg _ => op_move (.plain rfl)) (.gn rfl rfl (fun hg _ => op_move (.plain rfl)) (.gn rfl rfl (fun hg _ => op_slit (pp := [(0, _)]) (α := Int) (d := 0) (f := (fun n => [.int .i64 n])) [_] ety23 rfl ⟨rfl, (.opt rfl fun h => h), (by simp), trivial⟩ rfl (by decide) rfl) (.gn rfl rfl (fun hg _ => op_call2 Try.call27 (.opt rfl fun h => h) (.opt rfl fun h => h) (same_fc _ _)) (.gn rfl rfl (fun hg _ => op_not (.opt rfl fun h => h)) (.gn rfl rfl (fun hg _ => op_move (.opt rfl fun h => h)) (.ggn rfl rfl (fun hg _ => op_move (.plain rfl)) (.ggn rfl rfl (fun hg _ => op_move (.plain rfl)) (.ggn rfl rfl (fun hg _ => op_slit (pp := [(0, _)]) (α := Int) (d := 0) (f := (fun n => [.int .i64 n])) [_] ety23 rfl ⟨rfl, (.opt rfl fun h => h), (by simp), trivial⟩ rfl (by decide) rfl) (.ggn rfl rfl (fun hg _ => op_call2 Try.call27 (.opt rfl fun h => h) (.opt rfl fun h => h) (same_fc _ _)) (.ggn rfl rfl (fun hg _ => op_not (.opt rfl fun h => h)) (.gn rfl rfl (fun hg _ => op_or (.opt rfl fun h => h) (.plain rfl) (.plain rfl) (fun h => andI hg (eqF h))) (.gn rfl rfl (fun hg _ => op_move (.opt rfl fun h => h)) (.ggn rfl rfl (fun hg _ => op_move (.plain rfl)) (.ggn rfl rfl (fun hg _ => op_indexAddr Try.underlying23 Try.sizeOf3 (.opt rfl fun h => h) (.plain rfl) (fun _ => rfl) ?_) (.ggn rfl rfl (fun hg _ => op_load Try.isAgg3 (.opt rfl fun h => h)) (.ggn rfl rfl (fun hg _ => op_move (.plain rfl)) (.ggn rfl rfl (fun hg _ => op_neq (.opt rfl fun h => h) (.opt rfl fun h => h)) (.gn rfl rfl (fun hg _ => op_or (.opt rfl fun h => h) (.plain rfl) (.plain rfl) (fun h => andI hg (eqF h))) (.n (fun _ => op_and (.plain rfl) (.plain rfl) (.plain rfl) (fun h => eqT h)) (.nil _)))))))))))))))))))))))) ?_
        · try simp only [beq_iff_eq, beq_true, beq_false, Bool.and_eq_true, decide_eq_true_eq, decide_eq_false_iff_not, Bool.not_eq_true', Bool.or_eq_true, Bool.or_eq_false_iff] at hg
          omega
        refine awp_cond rfl (fun h => ?_) (fun h => ?_)
        · (try simp only [decide_eq_true_eq, decide_eq_false_iff_not, Bool.and_eq_true, Bool.or_eq_true, Bool.and_eq_false_iff, Bool.or_eq_false_iff, Bool.not_eq_true', Bool.not_eq_false', Bool.not_eq_true, Bool.not_eq_false, Bool.true_eq_false, Bool.false_eq_true] at h); (try simp only [fold_c, fold_o, Int.toNat_natCast] at h)
          exfalso
          have ha := cond_all hV h.1
          rcases h.2 with h | h
          rcases h with h | h
          exact h ha.1
          exact h ha.2.1
          exact h ha.2.2
        · (try simp only [decide_eq_true_eq, decide_eq_false_iff_not, Bool.and_eq_true, Bool.or_eq_true, Bool.and_eq_false_iff, Bool.or_eq_false_iff, Bool.not_eq_true', Bool.not_eq_false', Bool.not_eq_true, Bool.not_eq_false, Bool.true_eq_false, Bool.false_eq_true] at h); (try simp only [fold_c, fold_o, Int.toNat_natCast] at h)
          refine awp_skip ?_
          refine awp_seq ?_
          refine awp_region rfl (.n (fun _ => op_move (.plain rfl)) (.n (fun _ => op_move (.plain rfl)) (.n (fun _ => op_move (.plain rfl)) (.n (fun _ => op_call3 Try.call22 (.plain rfl) (.plain rfl) (.plain rfl) (Against_fc N (balL raw N K) hv _)) (.n (fun _ => op_move (.plain rfl)) (.n (fun _ => op_extract (.plain rfl) rfl) (.n (fun _ => op_extract (.plain rfl) rfl) (.n (fun _ => op_assign (.plain rfl)) (.n (fun _ => op_assign (.plain rfl)) (.nil _)))))))))) ?_
          refine awp_seq ?_
          refine awp_region rfl (.n (fun _ => op_move (.plain rfl)) (.n (fun _ => op_move (.plain rfl)) (.n (fun _ => op_move (.plain rfl)) (.n (fun _ => op_move (.plain rfl)) (.n (fun _ => op_call3 Try.call28 (.plain rfl) (.plain rfl) (.plain rfl) (Perm_fc order 0 N ?_ ?_)) (.n (fun _ => op_call3 Try.call22 (.plain rfl) (.plain rfl) (.plain rfl) (Against_fc N (balL raw N K) hv _)) (.n (fun _ => op_move (.plain rfl)) (.n (fun _ => op_extract (.plain rfl) rfl) (.n (fun _ => op_extract (.plain rfl) rfl) (.n (fun _ => op_assign (.plain rfl)) (.n (fun _ => op_assign (.plain rfl)) (.nil _)))))))))))) ?_
          · omega
          · omega
          refine awp_seq ?_
          refine awp_region rfl (.n (fun _ => op_move (.plain rfl)) (.n (fun _ => op_eql (.plain rfl) (.plain rfl)) (.n (fun _ => op_move (.plain rfl)) (.gn rfl rfl (fun hg _ => op_move (.plain rfl)) (.gn rfl rfl (fun hg _ => op_eql (.opt rfl fun h => h) (.plain rfl)) (.n (fun _ => op_and (.plain rfl) (.plain rfl) (.plain rfl) (fun h => eqT h)) (.n (fun _ => op_move (.plain rfl)) (.gn rfl rfl (fun hg _ => op_move (.plain rfl)) (.gn rfl rfl (fun hg _ => op_move (.plain rfl)) (.gn rfl rfl (fun hg _ => op_leq (.opt rfl fun h => h) (.opt rfl fun h => h)) (.n (fun _ => op_and (.plain rfl) (.plain rfl) (.plain rfl) (fun h => eqT h)) (.n (fun _ => op_assign (.plain rfl)) (.nil _))))))))))))) ?_
          refine awp_ret ?_
          refine retQ.ret ?_
          refine ret1 rfl rfl rfl ?_
          have hk0 := ordE_perm (kem_perm (L := balL raw N K) hN6.1)
          have hp0 := permOf_ord order 0 N
          have hle := kem_least (L := balL raw N K) hN6.1 (permOf_perm order 0 N)
          simp [hk0, hp0, hle]

end Go.Proofs.Ytkbbdiodmeobaaa

