/- What TopBackward says: nobody gets more than by what is chosen from the end back; single choices tell all. Conditions: each theorem names its own. -/
import Derived.Test.YtamdkclkmijfgaaProg
import Derived.Test.YtamdkclkmijfgaaFj
namespace Go.Proofs.Ytamdkclkmijfgaa
open Go.Abs
set_option linter.unusedVariables false
set_option linter.unusedSimpArgs false


section
variable {P : Int} {N : List Nd}
theorem tree_ok (hT : TrOk P N) : treeE P N = 0 := by
  have hp1 := hT.p1; have hp5 := hT.p5; have hn1 := hT.n1; have hn40 := hT.n40
  have h1 : firstE (nE P N) N.length = 0 := firstE_all fun i hi => by
    by_cases h : ((kidsF N i).length : Int) = 0
    · obtain ⟨a, b, c⟩ := hT.leaf i hi (by omega)
      rw [nE_leaf h, leafE_f (by omega)]
      exact firstE_all fun k hk => if_neg (by have := c k hk; omega)
    · obtain ⟨a, b, c, d⟩ := hT.inn i hi (by omega)
      rw [nE_in h, inE_f (by omega)]
      exact firstE_all fun k hk => if_neg (by have := hT.kid i hi k hk; omega)
  rw [treeE_f (by omega) (by omega) h1]
  exact firstE_all fun x hx => if_neg (by
    rintro ⟨h2, h3⟩
    exact h3 (hT.par x (by omega) hx))
theorem ch_ok (hT : TrOk P N) {c : List Int} (hC : ChOk N c) : chE P N c = 0 := by
  have hl := hC.len
  rw [chE_f (tree_ok hT) (by omega)]
  exact firstE_all fun i hi => if_neg (by have := hC.ok i (by omega); omega)
/-- NO SINGLE OTHER CHOICE IS BETTER: then no plan is. -/
theorem one_shot (hT : TrOk P N) {c : List Int} (hC : ChOk N c) (hs : ∀ a, a < N.length → ∀ k, k < (kidsF N a).length → (wF N c (kidN N a k)).getD (plF N a).toNat 0 ≤ (wF N c a).getD (plF N a).toNat 0) {who : Nat} : ∀ (f a : Nat), a < N.length → N.length - a ≤ f → bestF N c who f a ≤ (wF N c a).getD who 0
  | 0, a, ha, hf => by omega
  | f + 1, a, ha, hf => by
    by_cases h : (kidsF N a).length = 0
    · rw [bestF_leaf h, wF_leaf hT ha h]; exact Int.le_refl _
    · have hn := nx_in hT hC ha h
      by_cases hp : plF N a = (who : Int)
      · rw [bestF_own h hp]
        obtain ⟨m, hm⟩ : ∃ m, (kidsF N a).length = m + 1 := ⟨(kidsF N a).length - 1, by omega⟩
        rw [mxK_am, show (kidsF N a).length - 1 + 1 = (kidsF N a).length by omega]
        have hlt := amF_lt (g := fun k => bestF N c who f (kidN N a k)) (k := (kidsF N a).length) (by omega)
        have hk := kid_in hT ha hlt
        have h1 := one_shot hT hC hs (who := who) f _ hk.2.2 (by omega)
        have h2 := hs a ha _ hlt
        rw [hp, Int.toNat_natCast] at h2
        exact Int.le_trans h1 h2
      · rw [bestF_on h hp, wF_step hT hC ha h]
        exact one_shot hT hC hs f _ hn.2.2.2 (by omega)
theorem single_all {c : List Int} (h : sgR N c = none) : ∀ a, a < N.length → ∀ k, k < (kidsF N a).length → (wF N c (kidN N a k)).getD (plF N a).toNat 0 ≤ (wF N c a).getD (plF N a).toNat 0 := fun a ha k hk => by
  have h1 := firstI_none h a ha
  unfold sgB at h1
  cases e : firstI (fun k => decide ((wF N c a).getD (plF N a).toNat 0 < (wF N c (kidN N a k)).getD (plF N a).toNat 0)) (kidsF N a).length with
  | some q => rw [e] at h1; simp at h1
  | none =>
    have h2 := of_decide_eq_false (firstI_none e k hk)
    omega
theorem single_of {c : List Int} (h : ∀ a, a < N.length → ∀ k, k < (kidsF N a).length → (wF N c (kidN N a k)).getD (plF N a).toNat 0 ≤ (wF N c a).getD (plF N a).toNat 0) : sgR N c = none := by
  refine firstI_of fun a ha => ?_
  unfold sgB
  rw [firstI_of fun k hk => decide_eq_false (by have := h a ha k hk; omega)]; rfl
theorem perf_of {c : List Int} (h : ∀ a, a < N.length → ∀ who : Nat, who < P.toNat → bestF N c who N.length a ≤ (wF N c a).getD who 0) : pfR P N c = none := by
  refine firstI_of fun a ha => ?_
  unfold pfB
  rw [firstI_of fun w hw => decide_eq_false (by have := h a ha w hw; omega)]; rfl
theorem perf_all {c : List Int} (h : pfR P N c = none) : ∀ a, a < N.length → ∀ who : Nat, who < P.toNat → bestF N c who N.length a ≤ (wF N c a).getD who 0 := fun a ha w hw => by
  have h1 := firstI_none h a ha
  unfold pfB at h1
  cases e : firstI (fun who => decide ((wF N c a).getD who 0 < bestF N c who N.length a)) P.toNat with
  | some q => rw [e] at h1; simp at h1
  | none =>
    have h2 := of_decide_eq_false (firstI_none e w hw)
    omega
theorem perf_single (hT : TrOk P N) {c : List Int} (hC : ChOk N c) : (pfR P N c).isNone = (sgR N c).isNone := by
  cases e : sgR N c with
  | none =>
    have := perf_of (P := P) fun a ha who _ => one_shot hT hC (single_all e) (who := who) N.length a ha (by omega)
    rw [this]
  | some q =>
    cases e2 : pfR P N c with
    | some r => rfl
    | none =>
      exfalso
      have hall := perf_all e2
      have : sgR N c = none := single_of fun a ha k hk => by
        have hin := hT.inn a ha (by omega)
        have hkk := kid_in hT ha hk
        have h1 := hall a ha (plF N a).toNat (by omega)
        have h2 := best_ge hT hC hC (who := (plF N a).toNat) (fun x _ _ => rfl) N.length _ hkk.2.2 (by omega)
        have hp : plF N a = (((plF N a).toNat : Nat) : Int) := by omega
        obtain ⟨n, hn⟩ : ∃ n, N.length = n + 1 := ⟨N.length - 1, by omega⟩
        have h3 : bestF N c (plF N a).toNat (n + 1) a = mxK (fun k => bestF N c (plF N a).toNat n (kidN N a k)) ((kidsF N a).length - 1) := bestF_own (by omega) hp
        have h4 := mxK_ge (g := fun k => bestF N c (plF N a).toNat n (kidN N a k)) (n := (kidsF N a).length - 1) k (by omega)
        have h5 := bestF_same hT hC (who := (plF N a).toNat) (f := n) hkk.2.2 (by omega)
        rw [hn] at h1
        rw [h3] at h1
        have h4 : bestF N c (plF N a).toNat n (kidN N a k) ≤ mxK (fun k => bestF N c (plF N a).toNat n (kidN N a k)) ((kidsF N a).length - 1) := h4
        rw [h5] at h4
        omega
      rw [this] at e; cases e
theorem back_single (hT : TrOk P N) : sgR N (bkA N) = none := single_of fun a ha k hk => by
  have hat := bkA_at hT ha
  rw [wF_step hT (bkA_ok hT) ha (by omega)]
  have e : nxF N (bkA N) a = kidN N a (amF (bkV N (bkA N) a) (kidsF N a).length) := by unfold nxF; rw [hat, Int.toNat_natCast]; rfl
  rw [e]
  exact amF_ge (g := bkV N (bkA N) a) k hk
/-! ### Trees that are made -/
variable {raw : List Int} {inner : Int}
def ndA (raw : List Int) (P inner : Int) (i : Nat) : Nd := if (i : Int) < inner ∧ ((toS raw P inner i).1 : Int) + (kF raw i : Nat) ≤ 40 then (pickF (atF raw (3 * i + 1)) P, mapr (kF raw i) fun j => (((toS raw P inner i).1 + j : Nat) : Int), [], ()) else (0, [], mapr P.toNat fun j => pickF (atF raw (3 * i + j)) 9 - 4, ())
theorem toS_nx (i : Nat) : (toS raw P inner (i + 1)).1 = (toS raw P inner i).1 + (ndA raw P inner i).2.1.length := by
  rw [toS]; unfold ndA; split <;> simp
theorem toS_l : ∀ i, (toS raw P inner i).2 = mapr i (ndA raw P inner)
  | 0 => rfl
  | i + 1 => by
    have ih := toS_l i
    rw [mapr_succ, ← ih, toS]; unfold ndA; split <;> rfl
theorem toS_eq (i : Nat) : (toS raw P inner i).2 = mapr i (ndA raw P inner) ∧ (toS raw P inner (i + 1)).1 = (toS raw P inner i).1 + (ndA raw P inner i).2.1.length := ⟨toS_l i, toS_nx i⟩
theorem to_mono {i : Nat} : ∀ d, (toS raw P inner i).1 ≤ (toS raw P inner (i + d)).1
  | 0 => Nat.le_refl _
  | d + 1 => by
    have := to_mono (i := i) d
    have h := toS_nx (raw := raw) (P := P) (inner := inner) (i + d)
    rw [← Nat.add_assoc]; omega
theorem toN_ok (hP : 1 ≤ P ∧ P ≤ 5) : TrOk P (toN raw P inner) := by
  obtain ⟨n, hE, hn, e⟩ := to_end raw P inner
  have hlt : ∀ i, i < n → i < (toS raw P inner i).1 := fun i hi => by
    have h1 := firstI_none hE i hi
    unfold toP at h1; simpa using h1
  have hnx := toS_next (raw := raw) (P := P) (inner := inner) n
  rw [e, (toS_eq n).1]
  have hg : ∀ i, i < n → (mapr n (ndA raw P inner)).getD i (0, [], [], ()) = ndA raw P inner i := fun i hi => mapr_getD _ hi
  have hkd : ∀ i, i < n → kidsF (mapr n (ndA raw P inner)) i = (ndA raw P inner i).2.1 := fun i hi => by unfold kidsF; rw [hg i hi]
  have hpl : ∀ i, i < n → plF (mapr n (ndA raw P inner)) i = (ndA raw P inner i).1 := fun i hi => by unfold plF; rw [hg i hi]
  have hpy : ∀ i, i < n → payF (mapr n (ndA raw P inner)) i = (ndA raw P inner i).2.2.1 := fun i hi => by unfold payF; rw [hg i hi]
  -- the kids of one
  have hkk : ∀ i, i < n → ∀ k, k < (ndA raw P inner i).2.1.length → (ndA raw P inner i).2.1.getD k 0 = (((toS raw P inner i).1 + k : Nat) : Int) := fun i hi k hk => by
    unfold ndA at hk ⊢
    split at hk
    · rename_i h; rw [if_pos h]; exact mapr_getD 0 (by simpa using hk)
    · simp at hk
  have hkn : ∀ i, i < n → (toS raw P inner i).1 + (ndA raw P inner i).2.1.length ≤ n := fun i hi => by
    have h1 := (toS_eq (raw := raw) (P := P) (inner := inner) i).2
    have h2 := to_mono (raw := raw) (P := P) (inner := inner) (i := i + 1) (n - (i + 1))
    rw [show i + 1 + (n - (i + 1)) = n by omega] at h2
    omega
  have hmem : ∀ i, i < n → ∀ x : Nat, 0 ≤ placeF (kidsF (mapr n (ndA raw P inner)) i) (x : Nat) ↔ (toS raw P inner i).1 ≤ x ∧ x < (toS raw P inner i).1 + (ndA raw P inner i).2.1.length := fun i hi x => by
    rw [place_mem, hkd i hi]
    constructor
    · intro h
      obtain ⟨k, hk, e2⟩ := List.getElem_of_mem h
      have := hkk i hi k hk
      rw [List.getD_eq_getElem?_getD, List.getElem?_eq_getElem hk, Option.getD_some, e2] at this
      omega
    · intro h
      have := hkk i hi (x - (toS raw P inner i).1) (by omega)
      have e2 : ((x : Nat) : Int) = (ndA raw P inner i).2.1.getD (x - (toS raw P inner i).1) 0 := by rw [this]; omega
      rw [e2]; exact getD_mem 0 (by omega)
  refine ⟨hP.1, hP.2, by simp; omega, by simp; omega, fun i hi h => ?_, fun i hi h => ?_, fun i hi k hk => ?_, fun x h0 hx => ?_⟩
  · have hi : i < n := by simpa using hi
    rw [hkd i hi] at h; rw [hpl i hi, hpy i hi]
    unfold ndA at h ⊢
    split at h
    · rename_i h2; have := (kF_eq raw i).2.1; simp at h; omega
    · rename_i h2
      rw [if_neg h2]
      refine ⟨rfl, by simp; omega, fun k hk => ?_⟩
      have hk : k < P.toNat := by simpa using hk
      simp only
      rw [mapr_getD 0 hk]
      have := pickF_range (atF raw (3 * i + k)) 9 (by omega); omega
  · have hi : i < n := by simpa using hi
    rw [hkd i hi] at h ⊢; rw [hpl i hi, hpy i hi]
    unfold ndA at h ⊢
    split at h
    · rename_i h2
      rw [if_pos h2]
      have := pickF_range (atF raw (3 * i + 1)) P hP.1
      have := kF_eq raw i
      refine ⟨this.1 |> fun _ => by simp only; omega, by simp only; omega, rfl, by simp; omega⟩
    · simp at h
  · have hi : i < n := by simpa using hi
    rw [hkd i hi] at hk ⊢
    have h1 := hkk i hi k hk
    have h2 := hkn i hi
    have h3 := hlt i hi
    refine ⟨by omega, by rw [mapr_length]; omega, fun hk0 => ?_⟩
    have := hkk i hi (k - 1) (by omega); omega
  · have hx : x < n := by simpa using hx
    have key : ∀ i, i ≤ n → sumTo (overF (mapr n (ndA raw P inner)) x) i = if x < (toS raw P inner i).1 then 1 else 0 := by
      intro i
      induction i with
      | zero =>
        intro _
        have e0 : (toS raw P inner 0).1 = 1 := rfl
        rw [if_neg (by omega)]; rfl
      | succ i ih =>
        intro hi
        have hs := (toS_eq (raw := raw) (P := P) (inner := inner) i).2
        have hm := hmem i (by omega) x
        rw [sumTo, ih (by omega)]
        unfold overF
        by_cases h1 : x < (toS raw P inner i).1
        · rw [if_pos h1, if_neg (by rw [hm]; omega), if_pos (by omega)]; rfl
        · by_cases h2 : x < (toS raw P inner (i + 1)).1
          · rw [if_neg h1, if_pos (by rw [hm]; omega), if_pos h2]; rfl
          · rw [if_neg h1, if_neg (by rw [hm]; omega), if_neg h2]; rfl
    rw [mapr_length, key n (Nat.le_refl _), if_pos (by omega)]
theorem co_ok (hT : TrOk P N) : ChOk N (coL N raw) := by
  refine ⟨by simp [coL], fun i hi => ?_⟩
  unfold coL
  rw [mapr_getD 0 hi]
  unfold coF
  split
  · rename_i h
    have := pickF_range (atF raw i) ((kidsF N i).length : Nat) (by omega)
    omega
  · exact ⟨by omega, .inl rfl⟩
end

theorem TopBackward_fc (raw : List Int) (players inner : Int) (choices : List Int) : FC Try.prog 5 [.ints raw, .i players, .i inner, .ints choices] (.bool true) := by
  refine FC.intro Try.func5 rfl (Nat.le_of_ble_eq_true rfl) fun hfit => ?_
  obtain ⟨fitl0, fitr0⟩ := (hfit _ (.head _)).ints
  have fit1 : -9223372036854775808 ≤ (players : Int) ∧ (players : Int) ≤ 9223372036854775807 := (hfit _ (.tail _ (.head _))).int64
  have fit2 : -9223372036854775808 ≤ (inner : Int) ∧ (inner : Int) ≤ 9223372036854775807 := (hfit _ (.tail _ (.tail _ (.head _)))).int64
  obtain ⟨fitl3, fitr3⟩ := (hfit _ (.tail _ (.tail _ (.tail _ (.head _))))).ints
  have hr := pickF_range players 4 (by omega)
  have hr7 := pickF_range inner 12 (by omega)
  have hnl := toN_len raw (1 + pickF players 4) (pickF inner 12)
  have hT := toN_ok (raw := raw) (P := (1 + pickF players 4)) (inner := pickF inner 12) (by omega)
  have hM := tree_ok hT
  have hB : bwR (1 + pickF players 4) (toN raw (1 + pickF players 4) (pickF inner 12)) = bkA (toN raw (1 + pickF players 4) (pickF inner 12)) := if_pos hM
  have hcB := ch_ok hT (bkA_ok hT)
  have hcC := ch_ok hT (co_ok (raw := choices) hT)
  have hpB : pOk (1 + pickF players 4) (toN raw (1 + pickF players 4) (pickF inner 12)) (bkA (toN raw (1 + pickF players 4) (pickF inner 12))) = true := by unfold pOk; rw [decide_eq_true hcB, perf_single hT (bkA_ok hT), back_single hT]; rfl
  have hpC : pOk (1 + pickF players 4) (toN raw (1 + pickF players 4) (pickF inner 12)) (coL (toN raw (1 + pickF players 4) (pickF inner 12)) choices) = (sgR (toN raw (1 + pickF players 4) (pickF inner 12)) (coL (toN raw (1 + pickF players 4) (pickF inner 12)) choices)).isNone := by unfold pOk; rw [decide_eq_true hcC, perf_single hT (co_ok hT)]; rfl
  refine awp_seq ?_
  refine awp_region rfl (.n (fun _ => op_assign (.plain rfl)) (.nil _)) ?_
  refine awp_seq ?_
  refine awp_seq ?_
  refine awp_region rfl (.n (fun _ => op_move (.plain rfl)) (.n (fun _ => op_len (s := 0) Try.underlying25 (.plain rfl)) (.n (fun _ => op_move (.plain rfl)) (.n (fun _ => op_len (s := 0) Try.underlying25 (.plain rfl)) (.n (fun _ => op_add (.plain rfl) (.plain rfl) ?_) (.n (fun _ => op_gtr (.plain rfl) (.plain rfl)) (.nil _))))))) ?_
  · (try simp only [foldK, foldP, foldL, Int.toNat_natCast])
    unfold InR; omega
  refine awp_cond rfl (fun h => ?_) (fun h => ?_)
  · (try simp only [decide_eq_true_eq, decide_eq_false_iff_not, Bool.and_eq_true, Bool.or_eq_true, Bool.and_eq_false_iff, Bool.or_eq_false_iff, Bool.not_eq_true', Bool.not_eq_false', Bool.not_eq_true, Bool.not_eq_false, Bool.true_eq_false, Bool.false_eq_true] at h); (try simp only [foldK, foldP, foldL] at h)
    refine awp_seq ?_
    refine awp_region rfl (.n (fun _ => op_assign (.plain rfl)) (.nil _)) ?_
    refine awp_ret ?_
    refine retQ.ret ?_
    refine ret1 rfl rfl rfl ?_
    rfl
  · (try simp only [decide_eq_true_eq, decide_eq_false_iff_not, Bool.and_eq_true, Bool.or_eq_true, Bool.and_eq_false_iff, Bool.or_eq_false_iff, Bool.not_eq_true', Bool.not_eq_false', Bool.not_eq_true, Bool.not_eq_false, Bool.true_eq_false, Bool.false_eq_true] at h); (try simp only [foldK, foldP, foldL] at h)
    refine awp_skip ?_
    refine awp_seq ?_
    refine awp_region rfl (.n (fun _ => op_move (.plain rfl)) (.n (fun _ => op_move (.plain rfl)) (.n (fun _ => op_call2 Try.call21 (.plain rfl) (.plain rfl) (Pick_fc _ _ ?_)) (.n (fun _ => op_add (.plain rfl) (.plain rfl) ?_) (.n (fun _ => op_move (.plain rfl)) (.n (fun _ => op_call2 Try.call21 (.plain rfl) (.plain rfl) (Pick_fc _ _ ?_)) (.n (fun _ => op_call3 Try.call22 (.plain rfl) (.plain rfl) (.plain rfl) (TreeOf_fc _ _ _ ?_)) (.e (op_alloc 9 Try.zeroValue24 rfl rfl rfl) rfl (.e (op_storeRA Try.sizeOf24 (.plain rfl) (.plain rfl) rfl rfl (Nat.le_of_ble_eq_true rfl) rfl) rfl (.nil _)))))))))) ?_
    · (try simp only [foldK, foldP, foldL, Int.toNat_natCast])
      omega
    · (try simp only [foldK, foldP, foldL, Int.toNat_natCast])
      unfold InR; omega
    · (try simp only [foldK, foldP, foldL, Int.toNat_natCast])
      omega
    · (try simp only [foldK, foldP, foldL, Int.toNat_natCast])
      omega
    refine awp_seq ?_
    refine awp_region rfl (.r (op_loadRA Try.isAgg24 Try.sizeOf24 (.plain rfl) rfl (by simp) rfl) (.n (fun _ => op_call1 Try.call10 (.plain rfl) (Backward_fc _ _)) (.n (fun _ => op_move (.plain rfl)) (.n (fun _ => op_extract (.plain rfl) rfl) (.n (fun _ => op_extract (.plain rfl) rfl) (.n (fun _ => op_assign (.plain rfl)) (.n (fun _ => op_assign (.plain rfl)) (.nil _)))))))) ?_
    refine awp_seq ?_
    refine awp_region rfl (.r (op_loadRA Try.isAgg24 Try.sizeOf24 (.plain rfl) rfl (by simp) rfl) (.n (fun _ => op_move (.plain rfl)) (.n (fun _ => op_call2 Try.call15 (.plain rfl) (.plain rfl) (Perfect_fc _ _ _)) (.n (fun _ => op_move (.plain rfl)) (.n (fun _ => op_extract (.plain rfl) rfl) (.n (fun _ => op_extract (.plain rfl) rfl) (.n (fun _ => op_extract (.plain rfl) rfl) (.n (fun _ => op_assign (.plain rfl)) (.n (fun _ => op_assign (.plain rfl)) (.n (fun _ => op_assign (.plain rfl)) (.nil _))))))))))) ?_
    refine awp_seq ?_
    refine awp_seq ?_
    refine awp_region rfl (.n (fun _ => op_move (.plain rfl)) (.n (fun _ => op_neq (.plain rfl) (.plain rfl)) (.n (fun _ => op_move (.plain rfl)) (.gn rfl rfl (fun hg _ => op_move (.plain rfl)) (.gn rfl rfl (fun hg _ => op_neq (.opt rfl fun h => h) (.plain rfl)) (.n (fun _ => op_or (.plain rfl) (.plain rfl) (.plain rfl) (fun h => eqF h)) (.n (fun _ => op_move (.plain rfl)) (.gn rfl rfl (fun hg _ => op_move (.plain rfl)) (.gn rfl rfl (fun hg _ => op_not (.opt rfl fun h => h)) (.n (fun _ => op_or (.plain rfl) (.plain rfl) (.plain rfl) (fun h => eqF h)) (.nil _))))))))))) ?_
    refine awp_cond rfl (fun h => ?_) (fun h => ?_)
    · (try simp only [decide_eq_true_eq, decide_eq_false_iff_not, Bool.and_eq_true, Bool.or_eq_true, Bool.and_eq_false_iff, Bool.or_eq_false_iff, Bool.not_eq_true', Bool.not_eq_false', Bool.not_eq_true, Bool.not_eq_false, Bool.true_eq_false, Bool.false_eq_true] at h); (try simp only [foldK, foldP, foldL] at h)
      exfalso
      simp [hB, hM, hcB, hpB] at h
    · (try simp only [decide_eq_true_eq, decide_eq_false_iff_not, Bool.and_eq_true, Bool.or_eq_true, Bool.and_eq_false_iff, Bool.or_eq_false_iff, Bool.not_eq_true', Bool.not_eq_false', Bool.not_eq_true, Bool.not_eq_false, Bool.true_eq_false, Bool.false_eq_true] at h); (try simp only [foldK, foldP, foldL] at h)
      refine awp_skip ?_
      refine awp_seq ?_
      refine awp_region rfl (.r (op_loadRA Try.isAgg24 Try.sizeOf24 (.plain rfl) rfl (by simp) rfl) (.n (fun _ => op_move (.plain rfl)) (.n (fun _ => op_call2 Try.call23 (.plain rfl) (.plain rfl) (ChoicesOf_fc _ _ _ ?_)) (.n (fun _ => op_assign (.plain rfl)) (.nil _))))) ?_
      · (try simp only [foldK, foldP, foldL, Int.toNat_natCast])
        omega
      refine awp_seq ?_
      refine awp_region rfl (.r (op_loadRA Try.isAgg24 Try.sizeOf24 (.plain rfl) rfl (by simp) rfl) (.n (fun _ => op_move (.plain rfl)) (.n (fun _ => op_call2 Try.call15 (.plain rfl) (.plain rfl) (Perfect_fc _ _ _)) (.n (fun _ => op_move (.plain rfl)) (.n (fun _ => op_extract (.plain rfl) rfl) (.n (fun _ => op_extract (.plain rfl) rfl) (.n (fun _ => op_extract (.plain rfl) rfl) (.n (fun _ => op_assign (.plain rfl)) (.n (fun _ => op_assign (.plain rfl)) (.nil _)))))))))) ?_
      refine awp_seq ?_
      refine awp_region rfl (.r (op_loadRA Try.isAgg24 Try.sizeOf24 (.plain rfl) rfl (by simp) rfl) (.n (fun _ => op_move (.plain rfl)) (.n (fun _ => op_call2 Try.call16 (.plain rfl) (.plain rfl) (Single_fc _ _ _)) (.n (fun _ => op_move (.plain rfl)) (.n (fun _ => op_extract (.plain rfl) rfl) (.n (fun _ => op_extract (.plain rfl) rfl) (.n (fun _ => op_assign (.plain rfl)) (.n (fun _ => op_assign (.plain rfl)) (.nil _))))))))) ?_
      refine awp_seq ?_
      refine awp_region rfl (.n (fun _ => op_move (.plain rfl)) (.n (fun _ => op_eql (.plain rfl) (.plain rfl)) (.n (fun _ => op_move (.plain rfl)) (.gn rfl rfl (fun hg _ => op_move (.plain rfl)) (.gn rfl rfl (fun hg _ => op_eql (.opt rfl fun h => h) (.plain rfl)) (.n (fun _ => op_and (.plain rfl) (.plain rfl) (.plain rfl) (fun h => eqT h)) (.n (fun _ => op_move (.plain rfl)) (.gn rfl rfl (fun hg _ => op_move (.plain rfl)) (.gn rfl rfl (fun hg _ => op_move (.plain rfl)) (.gn rfl rfl (fun hg _ => op_eqb Try.underlying4 (.opt rfl fun h => h) (.opt rfl fun h => h)) (.n (fun _ => op_and (.plain rfl) (.plain rfl) (.plain rfl) (fun h => eqT h)) (.n (fun _ => op_assign (.plain rfl)) (.nil _))))))))))))) ?_
      refine awp_ret ?_
      refine retQ.ret ?_
      refine ret1 rfl rfl rfl ?_
      rw [hpC, hcC]
      simp

end Go.Proofs.Ytamdkclkmijfgaa

