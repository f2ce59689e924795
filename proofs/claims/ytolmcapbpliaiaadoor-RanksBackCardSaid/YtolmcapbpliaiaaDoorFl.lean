/- A text, as the document reads it. Conditions: each theorem names its own. -/
import Derived.Test.YtolmcapbpliaiaaDoorProg
import Derived.Test.YtolmcapbpliaiaaDoorFk
namespace Go.Proofs.YtolmcapbpliaiaaDoor
open Go.Abs
set_option linter.unusedVariables false
set_option linter.unusedSimpArgs false

set_option linter.unusedVariables false

/-! ### What holds of the lines that were read -/
theorem ln_app {l : List Ln} {x : Ln} {i : Nat} (hi : i < l.length) : (l ++ [x]).getD i (false, ByteArray.empty, 0, [], []) = l.getD i (false, ByteArray.empty, 0, [], []) := by
  simp [List.getD_eq_getElem?_getD, List.getElem?_append, hi]
theorem ln_last {l : List Ln} {x : Ln} : (l ++ [x]).getD l.length (false, ByteArray.empty, 0, [], []) = x := by
  simp [List.getD_eq_getElem?_getD]
theorem cntL_app (l : List Ln) (x : Ln) (b : Bool) : ∀ i, i ≤ l.length → cntL (l ++ [x]) b i = cntL l b i
  | 0, _ => rfl
  | i + 1, hi => by
    have ih := cntL_app l x b i (by omega)
    simp only [cntL, lnL, ln_app (x := x) (show i < l.length by omega), ih]
    first | done | rfl
theorem cntL_snoc (l : List Ln) (x : Ln) (b : Bool) : cntL (l ++ [x]) b (l ++ [x]).length = if (x.1 == b) = true then cntL l b l.length + 1 else cntL l b l.length := by
  rw [List.length_append, List.length_singleton]
  simp only [cntL, lnL, ln_last, cntL_app l x b l.length (Nat.le_refl _)]
theorem rdE_0 {ws : List ByteArray} {all : List Ln} (h : rdE ws all = 0) : firstE (dupB all (ws.getD 1 ByteArray.empty)) all.length = 0 ∧ cntL all (lfB ws) all.length ≠ 6 := by
  unfold rdE at h
  split at h
  · omega
  · split at h
    · omega
    · split at h
      · omega
      · split at h
        · omega
        · split at h
          · omega
          · rename_i h1 h2
            exact ⟨by omega, h2⟩
theorem acc_cnt {ls : List ByteArray} : ∀ {i : Nat}, firstE (errP ls) i = 0 → ∀ b, cntL (accP ls i) b (accP ls i).length ≤ 6
  | 0, _, b => by simp [accP, cntL]
  | i + 1, h, b => by
    have h0 : firstE (errP ls) i = 0 ∧ errP ls i = 0 := by
      unfold firstE at h
      split at h
      · rename_i c; exact ⟨c, h⟩
      · rename_i c; exact absurd h c
    have ih := acc_cnt h0.1
    unfold accP
    split
    · exact ih b
    · rename_i hs
      have he : rdE (wordsL (lnE ls i)) (accP ls i) = 0 := by have := h0.2; unfold errP at this; rw [if_neg hs] at this; exact this
      have h1 := rdE_0 he
      rw [cntL_snoc]
      split
      · rename_i hb
        have : lfB (wordsL (lnE ls i)) = b := by simpa [rdV] using hb
        subst this
        have := ih (lfB (wordsL (lnE ls i)))
        have := h1.2
        omega
      · exact ih b
theorem firstE_each {f : Nat → Int} : ∀ {n : Nat}, firstE f n = 0 → ∀ j, j < n → f j = 0
  | 0, _, j, hj => absurd hj (Nat.not_lt_zero j)
  | n + 1, h, j, hj => by
    unfold firstE at h
    split at h
    · rename_i c
      rcases Nat.lt_or_ge j n with h1 | h1
      · exact firstE_each c j h1
      · obtain rfl : j = n := by omega
        exact h
    · rename_i c; exact absurd h c
/-- No two names are the same. -/
def Dist (all : List Ln) : Prop := ∀ a b, a < b → b < all.length → lnN all a ≠ lnN all b
theorem acc_dist {ls : List ByteArray} : ∀ {i : Nat}, firstE (errP ls) i = 0 → Dist (accP ls i)
  | 0, _ => fun a b h1 h2 => absurd h2 (Nat.not_lt_zero b)
  | i + 1, h => by
    have h0 : firstE (errP ls) i = 0 ∧ errP ls i = 0 := by
      unfold firstE at h
      split at h
      · rename_i c; exact ⟨c, h⟩
      · rename_i c; exact absurd h c
    have ih := acc_dist h0.1
    unfold accP
    split
    · exact ih
    · rename_i hs
      have he : rdE (wordsL (lnE ls i)) (accP ls i) = 0 := by have := h0.2; unfold errP at this; rw [if_neg hs] at this; exact this
      have h1 := firstE_each (rdE_0 he).1
      intro a b hab hb
      rw [List.length_append, List.length_singleton] at hb
      unfold lnN
      rw [ln_app (show a < (accP ls i).length by omega)]
      rcases Nat.lt_or_ge b (accP ls i).length with h2 | h2
      · rw [ln_app h2]; exact ih a b hab h2
      · obtain rfl : b = (accP ls i).length := by omega
        rw [ln_last]
        have := h1 a hab
        unfold dupB at this
        split at this
        · omega
        · rename_i hne; exact hne

/-! ### Names of a side -/
def nmS (all : List Ln) (b : Bool) : Nat → List ByteArray
  | 0 => []
  | j + 1 => if lnL all j = b then nmS all b j ++ [lnN all j] else nmS all b j
theorem nmS_len (all : List Ln) (b : Bool) : ∀ j, (nmS all b j).length ≤ j
  | 0 => Nat.le_refl _
  | j + 1 => by
    have := nmS_len all b j
    unfold nmS
    split
    · simp; omega
    · omega
theorem nmS_mem {all : List Ln} {b : Bool} : ∀ {j : Nat} {x : ByteArray}, x ∈ nmS all b j → ∃ i, i < j ∧ lnN all i = x
  | 0, x, h => by simp [nmS] at h
  | j + 1, x, h => by
    unfold nmS at h
    split at h
    · rcases List.mem_append.1 h with h | h
      · obtain ⟨i, hi, e⟩ := nmS_mem h; exact ⟨i, by omega, e⟩
      · simp only [List.mem_singleton] at h
        exact ⟨j, by omega, h.symm⟩
    · obtain ⟨i, hi, e⟩ := nmS_mem h; exact ⟨i, by omega, e⟩
theorem txt_none {l : List ByteArray} {s : ByteArray} (h : s ∉ l) : txtF l s = -1 := by
  unfold txtF
  have : firstI (fun i => decide (l.getD i ByteArray.empty = s)) l.length = none := firstI_of fun j hj => by
    rw [decide_eq_false_iff_not]
    intro e
    exact h (e ▸ wsD_mem hj)
  rw [this]
theorem txt_hit {l : List ByteArray} {s : ByteArray} {k : Nat} (hk : k < l.length) (h : l.getD k ByteArray.empty = s) (hn : ∀ j, j < k → l.getD j ByteArray.empty ≠ s) : txtF l s = k := by
  unfold txtF
  rw [firstI_stop (p := fun i => decide (l.getD i ByteArray.empty = s)) (firstI_of fun j hj => decide_eq_false (hn j hj)) (decide_eq_true h) hk]
theorem txt_app {l : List ByteArray} {s x : ByteArray} : txtF (l ++ [x]) s = if 0 ≤ txtF l s then txtF l s else if x = s then (l.length : Nat) else -1 := by
  have hg : ∀ j, j < l.length → (l ++ [x]).getD j ByteArray.empty = l.getD j ByteArray.empty := fun j hj => by simp [List.getD_eq_getElem?_getD, List.getElem?_append, hj]
  have hl : (l ++ [x]).getD l.length ByteArray.empty = x := by simp [List.getD_eq_getElem?_getD]
  cases e : firstI (fun i => decide (l.getD i ByteArray.empty = s)) l.length with
  | some k =>
    have hs := firstI_spec e
    have h1 : txtF l s = k := by unfold txtF; rw [e]
    rw [h1, if_pos (by omega)]
    refine txt_hit (by simp; omega) (by rw [hg k hs.1]; exact of_decide_eq_true hs.2.1) fun j hj => ?_
    rw [hg j (by have := hs.1; omega)]
    exact of_decide_eq_false (hs.2.2 j hj)
  | none =>
    have h1 : txtF l s = -1 := by unfold txtF; rw [e]
    have hn := fun j hj => of_decide_eq_false (firstI_none e j hj)
    rw [h1, if_neg (by omega)]
    by_cases hx : x = s
    · rw [if_pos hx]
      exact txt_hit (by simp) (by rw [hl]; exact hx) fun j hj => by rw [hg j hj]; exact hn j hj
    · rw [if_neg hx]
      refine txt_none fun hm => ?_
      rcases List.mem_append.1 hm with hm | hm
      · obtain ⟨j, hj, e2⟩ := List.getElem_of_mem hm
        exact hn j hj (by simp [List.getD_eq_getElem?_getD, hj, e2])
      · simp only [List.mem_singleton] at hm; exact hx hm.symm
theorem nmS_opC {all : List Ln} {b : Bool} : ∀ j, (nmS all (!b) j).length = opC all b j
  | 0 => rfl
  | j + 1 => by
    have ih := nmS_opC (all := all) (b := b) j
    unfold nmS opC
    cases h : lnL all j <;> cases b <;> simp_all
theorem fnd_txt {all : List Ln} (hd : Dist all) (b : Bool) (s : ByteArray) : ∀ n, n ≤ all.length → fnd all b s n = txtF (nmS all (!b) n) s
  | 0, _ => by simp [fnd, nmS, txtF, firstI]
  | n + 1, hn => by
    have ih := fnd_txt hd b s n (by omega)
    by_cases hb : (lnL all n == b) = true
    · have h2 : ¬ lnL all n = !b := by
        intro e; rw [e] at hb; cases b <;> simp at hb
      simp only [fnd, nmS, if_pos hb, if_neg h2]
      exact ih
    · have h2 : lnL all n = !b := by
        cases h3 : lnL all n <;> cases b <;> simp_all
      simp only [fnd, nmS, if_neg hb, if_pos h2]
      rw [txt_app, ← ih]
      by_cases hs : lnN all n = s
      · have hno : txtF (nmS all (!b) n) s = -1 := txt_none fun hm => by
          obtain ⟨i, hi, e⟩ := nmS_mem hm
          exact hd i n hi (by omega) (by rw [e, hs])
        rw [if_pos hs, ih, hno, if_neg (by omega), if_pos hs, nmS_opC]
      · rw [if_neg hs]
        by_cases h0 : 0 ≤ fnd all b s n
        · rw [if_pos h0]
        · rw [if_neg h0, if_neg hs]
          rw [ih] at h0 ⊢
          have : ∀ l : List ByteArray, ∀ s, -1 ≤ txtF l s := fun l s => by
            unfold txtF
            split <;> omega
          have := this (nmS all (!b) n) s
          omega
theorem parseE_big {text : ByteArray} {i : Nat} {k : Int} (hE : firstE (errP (cutL text)) i = 0) (hi : i < (cutL text).length) (hs : ¬ skipB (wordsL (lnE (cutL text) i)) = true) (h : rdE (wordsL (lnE (cutL text) i)) (accP (cutL text) i) = k) (hk : k ≠ 0) : parseE text = k := by
  have he : errP (cutL text) i = k := by unfold errP; rw [if_neg hs]; exact h
  rw [parseE_1 hE hi (by omega), he]


theorem rs_ok (ws : List ByteArray) (all : List Ln) (hw : 0 < ws.length) (hne : ∀ x, x ∈ ws → x ≠ ⟨#[]⟩) (hc6 : cntL all (lfB ws) all.length ≤ 6) (hw6 : ws.length ≤ 1000000) (h : rdE ws all = 0) : FCH Tryd.prog 32 [.pv (.seq ByteArray ByteArray.empty (fun s => [.str s]) ws), .own 1] [(1, .arr 69 5 (Bool × ByteArray × Int × List Int × List ByteArray) (false, ByteArray.empty, 0, [], []) (fun p => [.bool p.1, .str p.2.1, .i p.2.2.1, .nil, .seq ByteArray ByteArray.empty (fun s => [.str s]) p.2.2.2.2]) all)] [(1, .arr 69 5 (Bool × ByteArray × Int × List Int × List ByteArray) (false, ByteArray.empty, 0, [], []) (fun p => [.bool p.1, .str p.2.1, .i p.2.2.1, .nil, .seq ByteArray ByteArray.empty (fun s => [.str s]) p.2.2.2.2]) all)] (.pv (.tup [.agg (lnV (rdV ws)), .i 0])) none := by
  have := FXH.fch (readSide_fx ws all hw hne hc6 hw6)
  unfold rsV at this
  rwa [if_pos h, h] at this
theorem rs_no (ws : List ByteArray) (all : List Ln) (hw : 0 < ws.length) (hne : ∀ x, x ∈ ws → x ≠ ⟨#[]⟩) (hc6 : cntL all (lfB ws) all.length ≤ 6) (hw6 : ws.length ≤ 1000000) (h : ¬ rdE ws all = 0) : FCH Tryd.prog 32 [.pv (.seq ByteArray ByteArray.empty (fun s => [.str s]) ws), .own 1] [(1, .arr 69 5 (Bool × ByteArray × Int × List Int × List ByteArray) (false, ByteArray.empty, 0, [], []) (fun p => [.bool p.1, .str p.2.1, .i p.2.2.1, .nil, .seq ByteArray ByteArray.empty (fun s => [.str s]) p.2.2.2.2]) all)] [(1, .arr 69 5 (Bool × ByteArray × Int × List Int × List ByteArray) (false, ByteArray.empty, 0, [], []) (fun p => [.bool p.1, .str p.2.1, .i p.2.2.1, .nil, .seq ByteArray ByteArray.empty (fun s => [.str s]) p.2.2.2.2]) all)] (.pv (.tup [.agg [.cell1, .cell1, .cell1, .cell1, .cell1], .i (rdE ws all)])) none := by
  have := FXH.fch (readSide_fx ws all hw hne hc6 hw6)
  unfold rsV at this
  rwa [if_neg h] at this

set_option maxRecDepth 1000000 in
set_option maxHeartbeats 4000000 in
theorem RanksParse_fc (text : ByteArray) (hsz : text.size ≤ 20000) : FC Tryd.prog 14 [.str text] (parseV (parseE text) (if parseE text = 0 then parseL text else []) (if parseE text = 0 then parseR text else [])) := by
  refine FC.intro Tryd.func14 rfl (Nat.le_of_ble_eq_true rfl) fun hfit => ?_
  have fit0 := hfit _ (.head _)
  have hcl := cutL_len text
  refine awp_seq ?_
  refine awp_region rfl (.e (op_alloc 2 Tryd.zeroValue24 rfl rfl rfl) rfl (.n (fun _ => op_assign (.plain rfl)) (.nil _))) ?_
  refine awp_seq ?_
  refine awp_seq ?_
  refine awp_region rfl (.n (fun _ => op_move (.plain rfl)) (.n (fun _ => op_lenS Tryd.underlying9 (.plain rfl)) (.n (fun _ => op_gtr (.plain rfl) (.plain rfl)) (.nil _)))) ?_
  refine awp_cond rfl (fun h => ?_) (fun h => ?_)
  · exfalso; have := of_decide_eq_true h; omega
  · skip
    refine awp_skip ?_
    refine awp_seq ?_
    refine awp_region rfl (.n (fun _ => op_move (.plain rfl)) (.n (fun _ => op_call2 Tryd.call30 (.plain rfl) (.plain rfl) (cutAt_fc _ ?_)) (.n (fun _ => op_assign (.plain rfl)) (.nil _)))) ?_
    · omega
    refine awp_seq ?_
    refine awp_region rfl (.n (fun _ => op_assign (.plain rfl)) (.nil _)) ?_
    refine awp_seq ?_
    refine awp_seq ?_
    refine awp_region rfl (.n (fun _ => op_assign (.plain rfl)) (.nil _)) ?_
    refine awp_block ?_
    refine awp_ent (Ent.begin 5 1005 69 5 (Bool × ByteArray × Int × List Int × List ByteArray) (false, ByteArray.empty, 0, [], []) (fun p => [.bool p.1, .str p.2.1, .i p.2.2.1, .nil, .seq ByteArray ByteArray.empty (fun s => [.str s]) p.2.2.2.2]) rfl rfl rfl) ?_
    refine awp_loop (σ := Nat) (fun (i : Nat) => i ≤ (cutL text).length ∧ firstE (errP (cutL text)) i = 0) (fun (i : Nat) => ⟨[(0, .pv (.str text)), (2, .ref 2 0), (3, .int 0), (4, .pv (.seq ByteArray ByteArray.empty (fun s => [.str s]) (cutL text))), (5, .own 1005), (6, .int (i : Nat))], [(2, .box [.pv .nil, .pv .nil]), (1005, .arr 69 5 (Bool × ByteArray × Int × List Int × List ByteArray) (false, ByteArray.empty, 0, [], []) (fun p => [.bool p.1, .str p.2.1, .i p.2.2.1, .nil, .seq ByteArray ByteArray.empty (fun s => [.str s]) p.2.2.2.2]) (accP (cutL text) i))]⟩) (fun (i : Nat) => (cutL text).length - i) 0 ?_ (Ent.kept ⟨rfl, rfl, rfl, rfl, rfl, rfl, trivial⟩ ⟨rfl, rfl, trivial⟩) ?_
    · exact ⟨Nat.zero_le _, rfl⟩
    rintro i hp
    try dsimp only at hp
    obtain ⟨hi, hE⟩ := hp
    refine awp_seq ?_
    refine awp_seq ?_
    refine awp_region rfl (.n (fun _ => op_move (.plain rfl)) (.n (fun _ => op_move (.plain rfl)) (.n (fun _ => op_len (s := 0) Tryd.underlying49 (.plain rfl)) (.n (fun _ => op_lss (.plain rfl) (.plain rfl)) (.nil _))))) ?_
    refine awp_cond rfl (fun h => ?_) (fun h => ?_)
    · skip
      have h29 := of_decide_eq_true h
      refine awp_skip ?_
      refine awp_seq ?_
      refine awp_block ?_
      refine awp_seq ?_
      refine awp_region rfl (.n (fun _ => op_move (.plain rfl)) (.n (fun _ => op_move (.plain rfl)) (.n (fun _ => op_indexAddrN Tryd.underlying49 Tryd.sizeOf9 (.plain rfl) (.plain rfl) (fun _ => rfl) ?_) (.n (fun _ => op_load Tryd.isAgg9 (.plain rfl)) (.n (fun _ => op_call1 Tryd.call31 (.plain rfl) (wordsOf_fc _ ?_)) (.n (fun _ => op_assign (.plain rfl)) (.nil _))))))) ?_
      · omega
      · have := cutL_mem (wsD_mem (x := cutL text) (show i < (cutL text).length by omega))
        omega
      refine awp_seq ?_
      refine awp_seq ?_
      refine awp_region rfl (.n (fun _ => op_move (.plain rfl)) (.n (fun _ => op_len (s := 0) Tryd.underlying49 (.plain rfl)) (.n (fun _ => op_eql (.plain rfl) (.plain rfl)) (.n (fun _ => op_move (.plain rfl)) (.gn rfl rfl (fun hg _ => op_move (.plain rfl)) (.gn rfl rfl (fun hg _ => op_indexAddr Tryd.underlying49 Tryd.sizeOf9 (.opt rfl fun h => h) (.plain rfl) (fun _ => rfl) ?_) (.gn rfl rfl (fun hg _ => op_load Tryd.isAgg9 (.opt rfl fun h => h)) (.gn rfl rfl (fun hg _ => op_indexS Tryd.underlying9 (.opt rfl fun h => h) (.plain rfl) ?_) (.gn rfl rfl (fun hg _ => op_eql (.opt rfl fun h => h) (.plain rfl)) (.n (fun _ => op_or (.plain rfl) (.plain rfl) (.plain rfl) (fun h => eqF h)) (.nil _))))))))))) ?_
      · try simp only [beq_iff_eq, beq_true, beq_false, Bool.and_eq_true, decide_eq_true_eq, decide_eq_false_iff_not, Bool.not_eq_true', Bool.or_eq_true, Bool.or_eq_false_iff] at hg
        omega
      · try simp only [beq_iff_eq, beq_true, beq_false, Bool.and_eq_true, decide_eq_true_eq, decide_eq_false_iff_not, Bool.not_eq_true', Bool.or_eq_true, Bool.or_eq_false_iff] at hg
        have hw0 : 0 < (wordsL (lnE (cutL text) i)).length := by
          rcases Nat.eq_zero_or_pos (wordsL (lnE (cutL text) i)).length with e | e
          · exact absurd (by exact_mod_cast e) hg
          · exact e
        have := size_pos (wordsL_mem (wsD_mem hw0)).2
        exact ⟨Int.le_refl _, Int.ofNat_lt.2 this⟩
      refine awp_cond rfl (fun h => ?_) (fun h => ?_)
      · skip
        have h46 : skipB (wordsL (lnE (cutL text) i)) = true := h
        have hacc : accP (cutL text) i = accP (cutL text) (i + 1) := (if_pos h46).symm
        have herr : errP (cutL text) i = 0 := if_pos h46
        refine awp_exit ?_
        refine awp_region rfl (.n (fun _ => op_move (.plain rfl)) (.n (fun _ => op_add (.plain rfl) (.plain rfl) ?_) (.n (fun _ => op_assign (.plain rfl)) (.nil _)))) ?_
        · unfold InR; omega
        exact ⟨i + 1, ⟨by omega, firstE_succ hE herr⟩, by dsimp only; omega, (Ent.kept ⟨rfl, rfl, rfl, rfl, rfl, rfl, trivial⟩ ⟨rfl, (congrArg (fun l => some (Blk.arr 69 5 (Bool × ByteArray × Int × List Int × List ByteArray) (false, ByteArray.empty, 0, [], []) (fun p => [.bool p.1, .str p.2.1, .i p.2.2.1, .nil, .seq ByteArray ByteArray.empty (fun s => [.str s]) p.2.2.2.2]) l)) hacc), trivial⟩)⟩
      · skip
        have h46 : ¬ skipB (wordsL (lnE (cutL text) i)) = true := by rw [show skipB (wordsL (lnE (cutL text) i)) = false from h]; decide
        have hacc : accP (cutL text) i ++ [rdV (wordsL (lnE (cutL text) i))] = accP (cutL text) (i + 1) := (if_neg h46).symm
        have herr : errP (cutL text) i = rdE (wordsL (lnE (cutL text) i)) (accP (cutL text) i) := if_neg h46
        have hpos : 0 < (wordsL (lnE (cutL text) i)).length := by
          rcases Nat.eq_zero_or_pos (wordsL (lnE (cutL text) i)).length with e | e
          · exact absurd (by unfold skipB; rw [e]; rfl) h46
          · exact e
        have hil : lnE (cutL text) i ∈ cutL text := by unfold lnE; exact wsD_mem (by omega)
        have hwl : (wordsL (lnE (cutL text) i)).length ≤ 1000000 := by have h1 := wordsL_len (lnE (cutL text) i); have h2 := cutL_mem hil; omega
        refine awp_skip ?_
        refine awp_seq ?_
        by_cases h0 : rdE (wordsL (lnE (cutL text) i)) (accP (cutL text) i) = 0
        · have _hs := trivial
          refine awp_region rfl (.n (fun _ => op_move (.plain rfl)) (.n (fun _ => op_move (.plain rfl)) (.r (op_callHR (fun k => [0, 1005].getD k 0) Tryd.call32 (rs_ok (wordsL (lnE (cutL text) i)) (accP (cutL text) i) hpos (fun x hx => (wordsL_mem hx).2) (acc_cnt hE _) hwl h0) ⟨(.plain rfl), (.plain rfl), trivial⟩ ⟨rfl, trivial⟩ (by kernel_rfl)) (.n (fun _ => op_move (.plain rfl)) (.n (fun _ => op_extract (.plain rfl) rfl) (.n (fun _ => op_extract (.plain rfl) rfl) (.e (op_alloc 8 Tryd.zeroValue69 rfl rfl rfl) rfl (.e (op_storeRA Tryd.sizeOf69 (.plain rfl) (.plain rfl) rfl rfl (Nat.le_of_ble_eq_true rfl) rfl) rfl (.n (fun _ => op_assign (.plain rfl)) (.nil _)))))))))) ?_
          refine awp_seq ?_
          refine awp_seq ?_
          refine awp_region rfl (.n (fun _ => op_move (.plain rfl)) (.n (fun _ => op_neq (.plain rfl) (.plain rfl)) (.nil _))) ?_
          refine awp_cond rfl (fun h => ?_) (fun h => ?_)
          · exfalso; simp at h
          · skip
            refine awp_skip ?_
            refine awp_region rfl (.n (fun _ => op_move (.plain rfl)) (.r (op_loadRA Tryd.isAgg69 Tryd.sizeOf69 (.plain rfl) rfl (by first | (simp; done) | exact Nat.le_of_ble_eq_true rfl) rfl) (.n (fun _ => op_slit1 (pp := [(0, _)]) (α := (Bool × ByteArray × Int × List Int × List ByteArray)) (d := (false, ByteArray.empty, 0, [], [])) (f := (fun p => [.bool p.1, .str p.2.1, .i p.2.2.1, .nil, .seq ByteArray ByteArray.empty (fun s => [.str s]) p.2.2.2.2])) (rdV (wordsL (lnE (cutL text) i))) ety66 rfl ⟨rfl, (.plain rfl), (by simp), trivial⟩ rfl (by decide)) (.e (op_append (id' := 60) (α := (Bool × ByteArray × Int × List Int × List ByteArray)) (d := (false, ByteArray.empty, 0, [], [])) (f := (fun p => [.bool p.1, .str p.2.1, .i p.2.2.1, .nil, .seq ByteArray ByteArray.empty (fun s => [.str s]) p.2.2.2.2])) ety66 Tryd.underlying66 (fun _ => rfl) (fun _ => rfl) (.plain rfl) rfl (.plain rfl) rfl ?_) rfl (.n (fun _ => op_assign (.plain rfl)) (.nil _)))))) ?_
            · have := accP_len (cutL text) i
              simp only [List.length_cons, List.length_nil]
              omega
            refine awp_region rfl (.n (fun _ => op_move (.plain rfl)) (.n (fun _ => op_add (.plain rfl) (.plain rfl) ?_) (.n (fun _ => op_assign (.plain rfl)) (.nil _)))) ?_
            · unfold InR; omega
            exact ⟨i + 1, ⟨by omega, firstE_succ hE (herr.trans h0)⟩, by dsimp only; omega, (Ent.round 60 1005 ⟨rfl, rfl, rfl, rfl, rfl, rfl, trivial⟩ ⟨rfl, (congrArg (fun l => some (Blk.arr 69 5 (Bool × ByteArray × Int × List Int × List ByteArray) (false, ByteArray.empty, 0, [], []) (fun p => [.bool p.1, .str p.2.1, .i p.2.2.1, .nil, .seq ByteArray ByteArray.empty (fun s => [.str s]) p.2.2.2.2]) l)) hacc), trivial⟩ rfl rfl rfl ⟨rfl, rfl, rfl, rfl, rfl, rfl, trivial⟩ ⟨rfl, rfl, trivial⟩)⟩
        · have _hs := trivial
          refine awp_region rfl (.n (fun _ => op_move (.plain rfl)) (.n (fun _ => op_move (.plain rfl)) (.r (op_callHR (fun k => [0, 1005].getD k 0) Tryd.call32 (rs_no (wordsL (lnE (cutL text) i)) (accP (cutL text) i) hpos (fun x hx => (wordsL_mem hx).2) (acc_cnt hE _) hwl h0) ⟨(.plain rfl), (.plain rfl), trivial⟩ ⟨rfl, trivial⟩ (by kernel_rfl)) (.n (fun _ => op_move (.plain rfl)) (.n (fun _ => op_extract (.plain rfl) rfl) (.n (fun _ => op_extract (.plain rfl) rfl) (.e (op_alloc 8 Tryd.zeroValue69 rfl rfl rfl) rfl (.e (op_storeRA Tryd.sizeOf69 (.plain rfl) (.plain rfl) rfl rfl (Nat.le_of_ble_eq_true rfl) rfl) rfl (.n (fun _ => op_assign (.plain rfl)) (.nil _)))))))))) ?_
          refine awp_seq ?_
          refine awp_seq ?_
          refine awp_region rfl (.n (fun _ => op_move (.plain rfl)) (.n (fun _ => op_neq (.plain rfl) (.plain rfl)) (.nil _))) ?_
          refine awp_cond rfl (fun h => ?_) (fun h => ?_)
          · skip
            refine awp_seq ?_
            refine awp_region rfl (.n (fun _ => op_build (pp := []) (places := #[(0, 1), (1, 1)]) Tryd.underlying24 Tryd.zeroValue24 rfl (by intro w; kernel_rfl) trivial rfl) (.n (fun _ => op_move (.plain rfl)) (.e (op_storeRA Tryd.sizeOf24 (.plain rfl) (.plain rfl) rfl rfl (Nat.le_of_ble_eq_true rfl) rfl) rfl (.n (fun _ => op_assign (.plain rfl)) (.nil _))))) ?_
            first | refine awp_ent (Ent.unnilB 2 0 (ByteArray × Int × List Int × Unit) (ByteArray.empty, 0, [], ()) (fun p => [.str p.1, .i p.2.1, .ints p.2.2.1]) rfl rfl) ?_ | skip
            first | refine awp_ent (Ent.unnilB 2 1 (ByteArray × Int × List Int × Unit) (ByteArray.empty, 0, [], ()) (fun p => [.str p.1, .i p.2.1, .ints p.2.2.1]) rfl rfl) ?_ | skip
            refine awp_ret ?_
            refine retQ.ret ?_
            refine retC1 rfl rfl Tryd.isAgg24 Tryd.sizeOf24 rfl rfl ?_
            have hpe : parseE text = rdE (wordsL (lnE (cutL text) i)) (accP (cutL text) i) := parseE_big hE (by omega) h46 rfl h0
            have hne : parseE text ≠ 0 := by rw [hpe]; exact h0
            rw [if_neg hne, if_neg hne, hpe]
            rfl
          · exfalso; exact h0 (by simpa using h)
    · skip
      have h29 := of_decide_eq_false h
      obtain rfl : i = (cutL text).length := by omega
      refine awp_exit ?_
      refine awp_seq ?_
      have hall : (allP text).length ≤ (cutL text).length := accP_len _ _
      have hds : Dist (allP text) := acc_dist hE
      refine awp_ent (Ent.give 5 rfl rfl) ?_
      refine awp_region rfl (.n (fun _ => op_assign (.plain rfl)) (.nil _)) ?_
      refine awp_seq ?_
      refine awp_region rfl (.n (fun _ => op_assign (.plain rfl)) (.nil _)) ?_
      refine awp_seq ?_
      refine awp_seq ?_
      refine awp_region rfl (.n (fun _ => op_assign (.plain rfl)) (.nil _)) ?_
      refine awp_block ?_
      refine awp_ent (Ent.begin 10 1010 9 1 ByteArray ByteArray.empty (fun s => [.str s]) rfl rfl rfl) ?_
      refine awp_ent (Ent.begin 11 1011 9 1 ByteArray ByteArray.empty (fun s => [.str s]) rfl rfl rfl) ?_
      refine awp_loop (σ := Nat) (fun (j : Nat) => j ≤ (allP text).length) (fun (j : Nat) => ⟨[(0, .pv (.str text)), (2, .ref 2 0), (3, .int 0), (5, .pv (.seq (Bool × ByteArray × Int × List Int × List ByteArray) (false, ByteArray.empty, 0, [], []) (fun p => [.bool p.1, .str p.2.1, .i p.2.2.1, .nil, .seq ByteArray ByteArray.empty (fun s => [.str s]) p.2.2.2.2]) (allP text))), (10, .own 1010), (11, .own 1011), (12, .int (j : Nat))], [(2, .box [.pv .nil, .pv .nil]), (1010, .arr 9 1 ByteArray ByteArray.empty (fun s => [.str s]) (nmS (allP text) true j)), (1011, .arr 9 1 ByteArray ByteArray.empty (fun s => [.str s]) (nmS (allP text) false j))]⟩) (fun (j : Nat) => (allP text).length - j) 0 ?_ (Ent.kept ⟨rfl, rfl, rfl, rfl, rfl, rfl, rfl, trivial⟩ ⟨rfl, rfl, rfl, trivial⟩) ?_
      · exact Nat.zero_le _
      rintro j hp
      try dsimp only at hp
      have hj := hp
      refine awp_seq ?_
      refine awp_seq ?_
      refine awp_region rfl (.n (fun _ => op_move (.plain rfl)) (.n (fun _ => op_move (.plain rfl)) (.n (fun _ => op_len (s := 0) Tryd.underlying66 (.plain rfl)) (.n (fun _ => op_lss (.plain rfl) (.plain rfl)) (.nil _))))) ?_
      refine awp_cond rfl (fun h => ?_) (fun h => ?_)
      · skip
        have h64 := of_decide_eq_true h
        refine awp_skip ?_
        refine awp_seq ?_
        refine awp_block ?_
        refine awp_seq ?_
        refine awp_region rfl (.n (fun _ => op_move (.plain rfl)) (.n (fun _ => op_move (.plain rfl)) (.n (fun _ => op_indexAddrN Tryd.underlying66 Tryd.sizeOf69 (.plain rfl) (.plain rfl) (fun _ => rfl) ?_) (.n (fun _ => op_fieldAddr Tryd.underlying69 rfl rfl Tryd.sizeOf4 (.plain rfl)) (.n (fun _ => op_load Tryd.isAgg4 (.plain rfl)) (.nil _)))))) ?_
        · omega
        refine awp_cond rfl (fun h => ?_) (fun h => ?_)
        · skip
          have h71 : lnL (allP text) j = true := h
          have hl : nmS (allP text) true j ++ [lnN (allP text) j] = nmS (allP text) true (j + 1) := (if_pos h71).symm
          have hr : nmS (allP text) false j = nmS (allP text) false (j + 1) := (if_neg (by rw [h71]; decide)).symm
          refine awp_region rfl (.n (fun _ => op_move (.plain rfl)) (.n (fun _ => op_move (.plain rfl)) (.n (fun _ => op_move (.plain rfl)) (.n (fun _ => op_indexAddrN Tryd.underlying66 Tryd.sizeOf69 (.plain rfl) (.plain rfl) (fun _ => rfl) ?_) (.n (fun _ => op_fieldAddr Tryd.underlying69 rfl rfl Tryd.sizeOf27 (.plain rfl)) (.n (fun _ => op_fieldAddr Tryd.underlying27 rfl rfl Tryd.sizeOf9 (.plain rfl)) (.n (fun _ => op_load Tryd.isAgg9 (.plain rfl)) (.n (fun _ => op_slit (pp := [(0, _)]) (α := ByteArray) (d := ByteArray.empty) (f := (fun s => [.str s])) [_] ety49 rfl ⟨rfl, (.plain rfl), (by simp), trivial⟩ rfl (by decide) rfl) (.e (op_append (id' := 80) (α := ByteArray) (d := ByteArray.empty) (f := (fun s => [.str s])) ety49 Tryd.underlying49 (fun _ => rfl) (fun _ => rfl) (.plain rfl) rfl (.plain rfl) rfl ?_) rfl (.n (fun _ => op_assign (.plain rfl)) (.nil _))))))))))) ?_
          · omega
          · have := nmS_len (allP text) true j
            simp only [List.length_cons, List.length_nil]
            omega
          refine awp_region rfl (.n (fun _ => op_move (.plain rfl)) (.n (fun _ => op_add (.plain rfl) (.plain rfl) ?_) (.n (fun _ => op_assign (.plain rfl)) (.nil _)))) ?_
          · unfold InR; omega
          exact ⟨j + 1, by omega, by dsimp only; omega, (Ent.round 80 1010 ⟨rfl, rfl, rfl, rfl, rfl, rfl, rfl, trivial⟩ ⟨rfl, (congrArg (fun l => some (Blk.arr 9 1 ByteArray ByteArray.empty (fun s => [.str s]) l)) (hl)), (congrArg (fun l => some (Blk.arr 9 1 ByteArray ByteArray.empty (fun s => [.str s]) l)) (hr)), trivial⟩ rfl rfl rfl ⟨rfl, rfl, rfl, rfl, rfl, rfl, rfl, trivial⟩ ⟨rfl, rfl, rfl, trivial⟩)⟩
        · skip
          have h71 : lnL (allP text) j = false := h
          have hr : nmS (allP text) false j ++ [lnN (allP text) j] = nmS (allP text) false (j + 1) := (if_pos h71).symm
          have hl : nmS (allP text) true j = nmS (allP text) true (j + 1) := (if_neg (by rw [h71]; decide)).symm
          refine awp_region rfl (.n (fun _ => op_move (.plain rfl)) (.n (fun _ => op_move (.plain rfl)) (.n (fun _ => op_move (.plain rfl)) (.n (fun _ => op_indexAddrN Tryd.underlying66 Tryd.sizeOf69 (.plain rfl) (.plain rfl) (fun _ => rfl) ?_) (.n (fun _ => op_fieldAddr Tryd.underlying69 rfl rfl Tryd.sizeOf27 (.plain rfl)) (.n (fun _ => op_fieldAddr Tryd.underlying27 rfl rfl Tryd.sizeOf9 (.plain rfl)) (.n (fun _ => op_load Tryd.isAgg9 (.plain rfl)) (.n (fun _ => op_slit (pp := [(0, _)]) (α := ByteArray) (d := ByteArray.empty) (f := (fun s => [.str s])) [_] ety49 rfl ⟨rfl, (.plain rfl), (by simp), trivial⟩ rfl (by decide) rfl) (.e (op_append (id' := 89) (α := ByteArray) (d := ByteArray.empty) (f := (fun s => [.str s])) ety49 Tryd.underlying49 (fun _ => rfl) (fun _ => rfl) (.plain rfl) rfl (.plain rfl) rfl ?_) rfl (.n (fun _ => op_assign (.plain rfl)) (.nil _))))))))))) ?_
          · omega
          · have := nmS_len (allP text) false j
            simp only [List.length_cons, List.length_nil]
            omega
          refine awp_region rfl (.n (fun _ => op_move (.plain rfl)) (.n (fun _ => op_add (.plain rfl) (.plain rfl) ?_) (.n (fun _ => op_assign (.plain rfl)) (.nil _)))) ?_
          · unfold InR; omega
          exact ⟨j + 1, by omega, by dsimp only; omega, (Ent.round 89 1011 ⟨rfl, rfl, rfl, rfl, rfl, rfl, rfl, trivial⟩ ⟨rfl, (congrArg (fun l => some (Blk.arr 9 1 ByteArray ByteArray.empty (fun s => [.str s]) l)) (hl)), (congrArg (fun l => some (Blk.arr 9 1 ByteArray ByteArray.empty (fun s => [.str s]) l)) (hr)), trivial⟩ rfl rfl rfl ⟨rfl, rfl, rfl, rfl, rfl, rfl, rfl, trivial⟩ ⟨rfl, rfl, rfl, trivial⟩)⟩
      · skip
        have h64 := of_decide_eq_false h
        obtain rfl : j = (allP text).length := by omega
        refine awp_exit ?_
        refine awp_seq ?_
        refine awp_ent (Ent.give 10 rfl rfl) ?_
        refine awp_ent (Ent.give 11 rfl rfl) ?_
        refine awp_region rfl (.n (fun _ => op_build (pp := []) (places := #[(0, 1), (1, 1)]) Tryd.underlying24 Tryd.zeroValue24 rfl (by intro w; kernel_rfl) trivial rfl) (.e (op_alloc 13 Tryd.zeroValue24 rfl rfl rfl) rfl (.e (op_storeRA Tryd.sizeOf24 (.plain rfl) (.plain rfl) rfl rfl (Nat.le_of_ble_eq_true rfl) rfl) rfl (.nil _)))) ?_
        refine awp_seq ?_
        refine awp_seq ?_
        refine awp_region rfl (.n (fun _ => op_assign (.plain rfl)) (.nil _)) ?_
        refine awp_block ?_
        refine awp_ent (Ent.beginB 13 0 1013 27 3 (ByteArray × Int × List Int × Unit) (ByteArray.empty, 0, [], ()) (fun p => [.str p.1, .i p.2.1, .ints p.2.2.1]) rfl rfl (by decide) rfl rfl) ?_
        refine awp_ent (Ent.beginB 13 1 1014 27 3 (ByteArray × Int × List Int × Unit) (ByteArray.empty, 0, [], ()) (fun p => [.str p.1, .i p.2.1, .ints p.2.2.1]) rfl rfl (by decide) rfl rfl) ?_
        refine awp_loop (σ := Nat) (fun (j : Nat) => j ≤ (allP text).length ∧ firstE (lkP (allP text)) j = 0) (fun (j : Nat) => ⟨[(0, .pv (.str text)), (2, .ref 2 0), (3, .int 0), (5, .pv (.seq (Bool × ByteArray × Int × List Int × List ByteArray) (false, ByteArray.empty, 0, [], []) (fun p => [.bool p.1, .str p.2.1, .i p.2.2.1, .nil, .seq ByteArray ByteArray.empty (fun s => [.str s]) p.2.2.2.2]) (allP text))), (10, .pv (.seq ByteArray ByteArray.empty (fun s => [.str s]) (nmS (allP text) true (allP text).length))), (11, .pv (.seq ByteArray ByteArray.empty (fun s => [.str s]) (nmS (allP text) false (allP text).length))), (13, .ref 13 0), (14, .int (j : Nat))], [(2, .box [.pv .nil, .pv .nil]), (13, .box [.own 1013, .own 1014]), (1013, .arr 27 3 (ByteArray × Int × List Int × Unit) (ByteArray.empty, 0, [], ()) (fun p => [.str p.1, .i p.2.1, .ints p.2.2.1]) (sdP (allP text) true j)), (1014, .arr 27 3 (ByteArray × Int × List Int × Unit) (ByteArray.empty, 0, [], ()) (fun p => [.str p.1, .i p.2.1, .ints p.2.2.1]) (sdP (allP text) false j))]⟩) (fun (j : Nat) => (allP text).length - j) 0 ?_ (Ent.kept ⟨rfl, rfl, rfl, rfl, rfl, rfl, rfl, rfl, trivial⟩ ⟨rfl, rfl, rfl, rfl, trivial⟩) ?_
        · exact ⟨Nat.zero_le _, rfl⟩
        rintro j hp
        try dsimp only at hp
        obtain ⟨hj, hE2⟩ := hp
        refine awp_seq ?_
        refine awp_seq ?_
        refine awp_region rfl (.n (fun _ => op_move (.plain rfl)) (.n (fun _ => op_move (.plain rfl)) (.n (fun _ => op_len (s := 0) Tryd.underlying66 (.plain rfl)) (.n (fun _ => op_lss (.plain rfl) (.plain rfl)) (.nil _))))) ?_
        refine awp_cond rfl (fun h => ?_) (fun h => ?_)
        · skip
          have h94 := of_decide_eq_true h
          refine awp_skip ?_
          refine awp_seq ?_
          refine awp_block ?_
          refine awp_seq ?_
          refine awp_region rfl (.n (fun _ => op_move (.plain rfl)) (.n (fun _ => op_move (.plain rfl)) (.n (fun _ => op_indexAddrN Tryd.underlying66 Tryd.sizeOf69 (.plain rfl) (.plain rfl) (fun _ => rfl) ?_) (.n (fun _ => op_fieldAddr Tryd.underlying69 rfl rfl Tryd.sizeOf27 (.plain rfl)) (.n (fun _ => op_load_agg Tryd.isAgg27 Tryd.sizeOf27 (.plain rfl) (Nat.le_of_ble_eq_true rfl)) (.e (op_alloc 15 Tryd.zeroValue27 rfl rfl rfl) rfl (.e (op_storeRA Tryd.sizeOf27 (.plain rfl) (.plain rfl) rfl rfl (Nat.le_of_ble_eq_true rfl) rfl) rfl (.nil _)))))))) ?_
          · omega
          refine awp_seq ?_
          refine awp_region rfl (.n (fun _ => op_move (.plain rfl)) (.n (fun _ => op_assign (.plain rfl)) (.nil _))) ?_
          refine awp_seq ?_
          refine awp_seq ?_
          refine awp_region rfl (.n (fun _ => op_move (.plain rfl)) (.n (fun _ => op_move (.plain rfl)) (.n (fun _ => op_indexAddrN Tryd.underlying66 Tryd.sizeOf69 (.plain rfl) (.plain rfl) (fun _ => rfl) ?_) (.n (fun _ => op_fieldAddr Tryd.underlying69 rfl rfl Tryd.sizeOf4 (.plain rfl)) (.n (fun _ => op_load Tryd.isAgg4 (.plain rfl)) (.nil _)))))) ?_
          · omega
          refine awp_cond rfl (fun h => ?_) (fun h => ?_)
          · skip
            have h107 : lnL (allP text) j = true := h
            have ho : nmS (allP text) false (allP text).length = (nmS (allP text) (!(lnL (allP text) j)) (allP text).length) := by rw [h107]; rfl
            refine awp_region rfl (.n (fun _ => op_move (.plain rfl)) (.n (fun _ => op_assign (.plain rfl)) (.nil _))) ?_
            refine awp_seq ?_
            refine awp_seq ?_
            refine awp_region rfl (.n (fun _ => op_assign (.plain rfl)) (.nil _)) ?_
            refine awp_block ?_
            refine awp_ent (Ent.beginB 15 2 1015 3 1 Int 0 (fun n => [.int .i64 n]) rfl rfl (by decide) rfl rfl) ?_
            refine awp_loop (σ := Nat) (fun (q : Nat) => q ≤ (lnK (allP text) j).length ∧ firstE (likE (allP text) (lnL (allP text) j) (lnK (allP text) j)) q = 0) (fun (q : Nat) => ⟨[(0, .pv (.str text)), (2, .ref 2 0), (3, .int 0), (5, .pv (.seq (Bool × ByteArray × Int × List Int × List ByteArray) (false, ByteArray.empty, 0, [], []) (fun p => [.bool p.1, .str p.2.1, .i p.2.2.1, .nil, .seq ByteArray ByteArray.empty (fun s => [.str s]) p.2.2.2.2]) (allP text))), (10, .pv (.seq ByteArray ByteArray.empty (fun s => [.str s]) (nmS (allP text) true (allP text).length))), (11, .pv (.seq ByteArray ByteArray.empty (fun s => [.str s]) (nmS (allP text) false (allP text).length))), (13, .ref 13 0), (14, .int (j : Nat)), (15, .ref 15 0), (16, .pv (.seq ByteArray ByteArray.empty (fun s => [.str s]) (nmS (allP text) (!(lnL (allP text) j)) (allP text).length))), (17, .int (q : Nat))], [(2, .box [.pv .nil, .pv .nil]), (13, .box [.own 1013, .own 1014]), (1013, .arr 27 3 (ByteArray × Int × List Int × Unit) (ByteArray.empty, 0, [], ()) (fun p => [.str p.1, .i p.2.1, .ints p.2.2.1]) (sdP (allP text) true j)), (1014, .arr 27 3 (ByteArray × Int × List Int × Unit) (ByteArray.empty, 0, [], ()) (fun p => [.str p.1, .i p.2.1, .ints p.2.2.1]) (sdP (allP text) false j)), (15, .box [.pv (.str (lnN (allP text) j)), .pv (.i (lnR (allP text) j)), .own 1015]), (1015, .arr 3 1 Int 0 (fun n => [.int .i64 n]) (lkOut (allP text) (lnL (allP text) j) (lnK (allP text) j) q))]⟩) (fun (q : Nat) => (lnK (allP text) j).length - q) 0 ?_ (Ent.kept ⟨rfl, rfl, rfl, rfl, rfl, rfl, rfl, rfl, rfl, (congrArg (fun l => some (SV.pv (.seq ByteArray ByteArray.empty (fun s => [.str s]) l))) (ho)), rfl, trivial⟩ ⟨rfl, rfl, rfl, rfl, rfl, rfl, trivial⟩) ?_
            · exact ⟨Nat.zero_le _, rfl⟩
            rintro q hp
            try dsimp only at hp
            obtain ⟨hq, hE3⟩ := hp
            have hkl : (lnK (allP text) j).length ≤ 20001 := lnK_len (all := allP text) (N := 20000) (accP_lk (cutL text) 20000 (fun x hx => by have := cutL_mem hx; omega) (cutL text).length (Nat.le_refl _)) (show j < (allP text).length by omega)
            have htx : txtF (nmS (allP text) (!(lnL (allP text) j)) (allP text).length) ((lnK (allP text) j).getD q ByteArray.empty) = (fdN (allP text) (lnL (allP text) j) (lnK (allP text) j) q) := (fnd_txt hds (lnL (allP text) j) ((lnK (allP text) j).getD q ByteArray.empty) (allP text).length (Nat.le_refl _)).symm
            refine awp_seq ?_
            refine awp_seq ?_
            refine awp_region rfl (.n (fun _ => op_move (.plain rfl)) (.n (fun _ => op_move (.plain rfl)) (.n (fun _ => op_move (.plain rfl)) (.n (fun _ => op_indexAddrN Tryd.underlying66 Tryd.sizeOf69 (.plain rfl) (.plain rfl) (fun _ => rfl) ?_) (.n (fun _ => op_fieldAddr Tryd.underlying69 rfl rfl Tryd.sizeOf49 (.plain rfl)) (.n (fun _ => op_load Tryd.isAgg49 (.plain rfl)) (.n (fun _ => op_len (s := 0) Tryd.underlying49 (.plain rfl)) (.n (fun _ => op_lss (.plain rfl) (.plain rfl)) (.nil _))))))))) ?_
            · omega
            refine awp_cond rfl (fun h => ?_) (fun h => ?_)
            · skip
              have h116 : (q : Int) < ((lnK (allP text) j).length : Nat) := of_decide_eq_true h
              refine awp_skip ?_
              refine awp_seq ?_
              refine awp_block ?_
              refine awp_seq ?_
              refine awp_region rfl (.n (fun _ => op_move (.plain rfl)) (.n (fun _ => op_move (.plain rfl)) (.n (fun _ => op_move (.plain rfl)) (.n (fun _ => op_indexAddrN Tryd.underlying66 Tryd.sizeOf69 (.plain rfl) (.plain rfl) (fun _ => rfl) ?_) (.n (fun _ => op_fieldAddr Tryd.underlying69 rfl rfl Tryd.sizeOf49 (.plain rfl)) (.n (fun _ => op_load Tryd.isAgg49 (.plain rfl)) (.n (fun _ => op_move (.plain rfl)) (.n (fun _ => op_indexAddrN Tryd.underlying49 Tryd.sizeOf9 (.plain rfl) (.plain rfl) (fun _ => rfl) ?_) (.n (fun _ => op_load Tryd.isAgg9 (.plain rfl)) (.n (fun _ => op_call2 Tryd.call22 (.plain rfl) (.plain rfl) (hasText_fc _ _)) (.n (fun _ => op_assign (.plain rfl)) (.nil _)))))))))))) ?_
              · omega
              · show q < (lnK (allP text) j).length
                omega
              refine awp_seq ?_
              refine awp_seq ?_
              refine awp_region rfl (.n (fun _ => op_move (.plain rfl)) (.n (fun _ => op_lss (.plain rfl) (.plain rfl)) (.nil _))) ?_
              refine awp_cond rfl (fun h => ?_) (fun h => ?_)
              · skip
                have h130 : (fdN (allP text) (lnL (allP text) j) (lnK (allP text) j) q) < 0 := by rw [← htx]; exact of_decide_eq_true h
                refine awp_seq ?_
                refine awp_region rfl (.n (fun _ => op_build (pp := []) (places := #[(0, 1), (1, 1)]) Tryd.underlying24 Tryd.zeroValue24 rfl (by intro w; kernel_rfl) trivial rfl) (.e (op_storeRA Tryd.sizeOf24 (.plain rfl) (.plain rfl) rfl rfl (Nat.le_of_ble_eq_true rfl) rfl) rfl (.n (fun _ => op_assign (.plain rfl)) (.nil _)))) ?_
                first | refine awp_ent (Ent.unnilB 2 0 (ByteArray × Int × List Int × Unit) (ByteArray.empty, 0, [], ()) (fun p => [.str p.1, .i p.2.1, .ints p.2.2.1]) rfl rfl) ?_ | skip
                first | refine awp_ent (Ent.unnilB 2 1 (ByteArray × Int × List Int × Unit) (ByteArray.empty, 0, [], ()) (fun p => [.str p.1, .i p.2.1, .ints p.2.2.1]) rfl rfl) ?_ | skip
                refine awp_ret ?_
                refine retQ.ret ?_
                refine retC1 rfl rfl Tryd.isAgg24 Tryd.sizeOf24 rfl rfl ?_
                have hpe : parseE text = 5 := (parseE_2 hE hE2 (by omega) (by rw [show lkP (allP text) j = 5 from lkE_5 hE3 (by omega) h130]; decide)).trans (lkE_5 hE3 (by omega) h130)
                have hne : parseE text ≠ 0 := by rw [hpe]; decide
                rw [if_neg hne, if_neg hne, hpe]
                rfl
              · skip
                have h130 : ¬ (fdN (allP text) (lnL (allP text) j) (lnK (allP text) j) q) < 0 := by rw [← htx]; exact of_decide_eq_false h
                refine awp_skip ?_
                refine awp_seq ?_
                refine awp_region rfl (.n (fun _ => op_move (.plain rfl)) (.n (fun _ => op_fieldAddrR Tryd.underlying27 rfl rfl Tryd.sizeOf25 (.plain rfl)) (.r (op_loadR Tryd.isAgg25 (.plain rfl) rfl rfl) (.r (op_callL (vals := [_, _]) Tryd.call33 ⟨⟨_, (.plain rfl), rfl⟩, ⟨_, (.plain rfl), rfl⟩, trivial⟩ (In_fc _ _) rfl) (.n (fun _ => op_assign (.plain rfl)) (.nil _)))))) ?_
                refine awp_seq ?_
                refine awp_seq ?_
                refine awp_region rfl (.n (fun _ => op_move (.plain rfl)) (.nil _)) ?_
                refine awp_cond rfl (fun h => ?_) (fun h => ?_)
                · skip
                  have h136 : 0 ≤ placeF (lkOut (allP text) (lnL (allP text) j) (lnK (allP text) j) q) (fdN (allP text) (lnL (allP text) j) (lnK (allP text) j) q) := by rw [← htx]; exact of_decide_eq_true h
                  refine awp_seq ?_
                  refine awp_region rfl (.n (fun _ => op_build (pp := []) (places := #[(0, 1), (1, 1)]) Tryd.underlying24 Tryd.zeroValue24 rfl (by intro w; kernel_rfl) trivial rfl) (.e (op_storeRA Tryd.sizeOf24 (.plain rfl) (.plain rfl) rfl rfl (Nat.le_of_ble_eq_true rfl) rfl) rfl (.n (fun _ => op_assign (.plain rfl)) (.nil _)))) ?_
                  first | refine awp_ent (Ent.unnilB 2 0 (ByteArray × Int × List Int × Unit) (ByteArray.empty, 0, [], ()) (fun p => [.str p.1, .i p.2.1, .ints p.2.2.1]) rfl rfl) ?_ | skip
                  first | refine awp_ent (Ent.unnilB 2 1 (ByteArray × Int × List Int × Unit) (ByteArray.empty, 0, [], ()) (fun p => [.str p.1, .i p.2.1, .ints p.2.2.1]) rfl rfl) ?_ | skip
                  refine awp_ret ?_
                  refine retQ.ret ?_
                  refine retC1 rfl rfl Tryd.isAgg24 Tryd.sizeOf24 rfl rfl ?_
                  have hpe : parseE text = 6 := (parseE_2 hE hE2 (by omega) (by rw [show lkP (allP text) j = 6 from lkE_6 hE3 (by omega) h130 h136]; decide)).trans (lkE_6 hE3 (by omega) h130 h136)
                  have hne : parseE text ≠ 0 := by rw [hpe]; decide
                  rw [if_neg hne, if_neg hne, hpe]
                  rfl
                · skip
                  have h136 : ¬ 0 ≤ placeF (lkOut (allP text) (lnL (allP text) j) (lnK (allP text) j) q) (fdN (allP text) (lnL (allP text) j) (lnK (allP text) j) q) := by rw [← htx]; exact of_decide_eq_false h
                  refine awp_skip ?_
                  refine awp_region rfl (.n (fun _ => op_fieldAddrR Tryd.underlying27 rfl rfl Tryd.sizeOf25 (.plain rfl)) (.r (op_loadR Tryd.isAgg25 (.plain rfl) rfl rfl) (.n (fun _ => op_move (.plain rfl)) (.n (fun _ => op_slit (pp := [(0, _)]) (α := Int) (d := 0) (f := (fun n => [.int .i64 n])) [_] ety25 rfl ⟨rfl, (.plain rfl), (by simp), trivial⟩ rfl (by decide) rfl) (.e (op_append (id' := 142) (α := Int) (d := 0) (f := (fun n => [.int .i64 n])) ety25 Tryd.underlying25 (fun _ => rfl) (fun _ => rfl) (.plain rfl) rfl (.plain rfl) rfl ?_) rfl (.n (fun _ => op_fieldAddrR Tryd.underlying27 rfl rfl Tryd.sizeOf25 (.plain rfl)) (.e (op_storeR Tryd.sizeOf25 (.plain rfl) (.plain rfl) rfl (by first | decide | exact Nat.le_of_ble_eq_true rfl) rfl (by simp) (fun i h => by cases h; exact ⟨_, _, _, _, _, _, rfl⟩)) rfl (.nil _)))))))) ?_
                  · have := lkOut_len (allP text) (lnL (allP text) j) (lnK (allP text) j) q
                    simp only [List.length_cons, List.length_nil]
                    omega
                  refine awp_region rfl (.n (fun _ => op_move (.plain rfl)) (.n (fun _ => op_add (.plain rfl) (.plain rfl) ?_) (.n (fun _ => op_assign (.plain rfl)) (.nil _)))) ?_
                  · unfold InR; omega
                  exact ⟨q + 1, ⟨by omega, lkE_0 hE3 h130 h136⟩, by dsimp only; omega, (Ent.round 142 1015 ⟨rfl, rfl, rfl, rfl, rfl, rfl, rfl, rfl, rfl, rfl, rfl, trivial⟩ ⟨rfl, rfl, rfl, rfl, rfl, (congrArg (fun l => some (Blk.arr 3 1 Int 0 (fun n => [.int .i64 n]) l)) ((congrArg (fun x => lkOut (allP text) (lnL (allP text) j) (lnK (allP text) j) q ++ [x]) htx).trans (lkOut_succ (allP text) (lnL (allP text) j) (lnK (allP text) j) q))), trivial⟩ rfl rfl rfl ⟨rfl, rfl, rfl, rfl, rfl, rfl, rfl, rfl, rfl, rfl, rfl, trivial⟩ ⟨rfl, rfl, rfl, rfl, rfl, rfl, trivial⟩)⟩
            · skip
              have h116 : ¬ (q : Int) < ((lnK (allP text) j).length : Nat) := of_decide_eq_false h
              obtain rfl : q = (lnK (allP text) j).length := by omega
              have hlk : lkP (allP text) j = 0 := hE3
              refine awp_exit ?_
              refine awp_seq ?_
              refine awp_region rfl (.n (fun _ => op_move (.plain rfl)) (.n (fun _ => op_move (.plain rfl)) (.n (fun _ => op_indexAddrN Tryd.underlying66 Tryd.sizeOf69 (.plain rfl) (.plain rfl) (fun _ => rfl) ?_) (.n (fun _ => op_fieldAddr Tryd.underlying69 rfl rfl Tryd.sizeOf4 (.plain rfl)) (.n (fun _ => op_load Tryd.isAgg4 (.plain rfl)) (.nil _)))))) ?_
              · omega
              refine awp_cond rfl (fun h => ?_) (fun h => ?_)
              · skip
                have h148 : lnL (allP text) j = true := h
                have hl : sdP (allP text) true j ++ [agP (allP text) j] = sdP (allP text) true (j + 1) := (if_pos h148).symm
                have hr : sdP (allP text) false j = sdP (allP text) false (j + 1) := (if_neg (by rw [h148]; decide)).symm
                refine awp_ent (Ent.giveB 15 2 1015 rfl rfl rfl) ?_
                refine awp_region rfl (.n (fun _ => op_fieldAddrR Tryd.underlying24 rfl rfl Tryd.sizeOf22 (.plain rfl)) (.r (op_loadR Tryd.isAgg22 (.plain rfl) rfl rfl) (.r (op_loadRA Tryd.isAgg27 Tryd.sizeOf27 (.plain rfl) rfl (by first | (simp; done) | exact Nat.le_of_ble_eq_true rfl) rfl) (.n (fun _ => op_slit1 (pp := [(0, _)]) (α := (ByteArray × Int × List Int × Unit)) (d := (ByteArray.empty, 0, [], ())) (f := (fun p => [.str p.1, .i p.2.1, .ints p.2.2.1])) (agP (allP text) j) ety22 rfl ⟨rfl, (.plain rfl), (by simp), trivial⟩ rfl (by decide)) (.e (op_append (id' := 153) (α := (ByteArray × Int × List Int × Unit)) (d := (ByteArray.empty, 0, [], ())) (f := (fun p => [.str p.1, .i p.2.1, .ints p.2.2.1])) ety22 Tryd.underlying22 (fun _ => rfl) (fun _ => rfl) (.plain rfl) rfl (.plain rfl) rfl ?_) rfl (.n (fun _ => op_fieldAddrR Tryd.underlying24 rfl rfl Tryd.sizeOf22 (.plain rfl)) (.e (op_storeR Tryd.sizeOf22 (.plain rfl) (.plain rfl) rfl (by first | decide | exact Nat.le_of_ble_eq_true rfl) rfl (by simp) (fun i h => by cases h; exact ⟨_, _, _, _, _, _, rfl⟩)) rfl (.nil _)))))))) ?_
                · have := sdP_len (allP text) true j
                  simp only [List.length_cons, List.length_nil]
                  omega
                refine awp_region rfl (.n (fun _ => op_move (.plain rfl)) (.n (fun _ => op_add (.plain rfl) (.plain rfl) ?_) (.n (fun _ => op_assign (.plain rfl)) (.nil _)))) ?_
                · unfold InR; omega
                exact ⟨j + 1, ⟨by omega, firstE_succ hE2 hlk⟩, by dsimp only; omega, (Ent.round 153 1013 ⟨rfl, rfl, rfl, rfl, rfl, rfl, rfl, rfl, trivial⟩ ⟨rfl, rfl, (congrArg (fun l => some (Blk.arr 27 3 (ByteArray × Int × List Int × Unit) (ByteArray.empty, 0, [], ()) (fun p => [.str p.1, .i p.2.1, .ints p.2.2.1]) l)) (hl)), (congrArg (fun l => some (Blk.arr 27 3 (ByteArray × Int × List Int × Unit) (ByteArray.empty, 0, [], ()) (fun p => [.str p.1, .i p.2.1, .ints p.2.2.1]) l)) (hr)), trivial⟩ rfl rfl rfl ⟨rfl, rfl, rfl, rfl, rfl, rfl, rfl, rfl, trivial⟩ ⟨rfl, rfl, rfl, rfl, trivial⟩)⟩
              · skip
                have h148 : lnL (allP text) j = false := h
                have hr : sdP (allP text) false j ++ [agP (allP text) j] = sdP (allP text) false (j + 1) := (if_pos h148).symm
                have hl : sdP (allP text) true j = sdP (allP text) true (j + 1) := (if_neg (by rw [h148]; decide)).symm
                refine awp_ent (Ent.giveB 15 2 1015 rfl rfl rfl) ?_
                refine awp_region rfl (.n (fun _ => op_fieldAddrR Tryd.underlying24 rfl rfl Tryd.sizeOf22 (.plain rfl)) (.r (op_loadR Tryd.isAgg22 (.plain rfl) rfl rfl) (.r (op_loadRA Tryd.isAgg27 Tryd.sizeOf27 (.plain rfl) rfl (by first | (simp; done) | exact Nat.le_of_ble_eq_true rfl) rfl) (.n (fun _ => op_slit1 (pp := [(0, _)]) (α := (ByteArray × Int × List Int × Unit)) (d := (ByteArray.empty, 0, [], ())) (f := (fun p => [.str p.1, .i p.2.1, .ints p.2.2.1])) (agP (allP text) j) ety22 rfl ⟨rfl, (.plain rfl), (by simp), trivial⟩ rfl (by decide)) (.e (op_append (id' := 159) (α := (ByteArray × Int × List Int × Unit)) (d := (ByteArray.empty, 0, [], ())) (f := (fun p => [.str p.1, .i p.2.1, .ints p.2.2.1])) ety22 Tryd.underlying22 (fun _ => rfl) (fun _ => rfl) (.plain rfl) rfl (.plain rfl) rfl ?_) rfl (.n (fun _ => op_fieldAddrR Tryd.underlying24 rfl rfl Tryd.sizeOf22 (.plain rfl)) (.e (op_storeR Tryd.sizeOf22 (.plain rfl) (.plain rfl) rfl (by first | decide | exact Nat.le_of_ble_eq_true rfl) rfl (by simp) (fun i h => by cases h; exact ⟨_, _, _, _, _, _, rfl⟩)) rfl (.nil _)))))))) ?_
                · have := sdP_len (allP text) false j
                  simp only [List.length_cons, List.length_nil]
                  omega
                refine awp_region rfl (.n (fun _ => op_move (.plain rfl)) (.n (fun _ => op_add (.plain rfl) (.plain rfl) ?_) (.n (fun _ => op_assign (.plain rfl)) (.nil _)))) ?_
                · unfold InR; omega
                exact ⟨j + 1, ⟨by omega, firstE_succ hE2 hlk⟩, by dsimp only; omega, (Ent.round 159 1014 ⟨rfl, rfl, rfl, rfl, rfl, rfl, rfl, rfl, trivial⟩ ⟨rfl, rfl, (congrArg (fun l => some (Blk.arr 27 3 (ByteArray × Int × List Int × Unit) (ByteArray.empty, 0, [], ()) (fun p => [.str p.1, .i p.2.1, .ints p.2.2.1]) l)) (hl)), (congrArg (fun l => some (Blk.arr 27 3 (ByteArray × Int × List Int × Unit) (ByteArray.empty, 0, [], ()) (fun p => [.str p.1, .i p.2.1, .ints p.2.2.1]) l)) (hr)), trivial⟩ rfl rfl rfl ⟨rfl, rfl, rfl, rfl, rfl, rfl, rfl, rfl, trivial⟩ ⟨rfl, rfl, rfl, rfl, trivial⟩)⟩
          · skip
            have h107 : lnL (allP text) j = false := h
            have ho : nmS (allP text) true (allP text).length = (nmS (allP text) (!(lnL (allP text) j)) (allP text).length) := by rw [h107]; rfl
            refine awp_skip ?_
            refine awp_seq ?_
            refine awp_seq ?_
            refine awp_region rfl (.n (fun _ => op_assign (.plain rfl)) (.nil _)) ?_
            refine awp_block ?_
            refine awp_ent (Ent.beginB 15 2 1015 3 1 Int 0 (fun n => [.int .i64 n]) rfl rfl (by decide) rfl rfl) ?_
            refine awp_loop (σ := Nat) (fun (q : Nat) => q ≤ (lnK (allP text) j).length ∧ firstE (likE (allP text) (lnL (allP text) j) (lnK (allP text) j)) q = 0) (fun (q : Nat) => ⟨[(0, .pv (.str text)), (2, .ref 2 0), (3, .int 0), (5, .pv (.seq (Bool × ByteArray × Int × List Int × List ByteArray) (false, ByteArray.empty, 0, [], []) (fun p => [.bool p.1, .str p.2.1, .i p.2.2.1, .nil, .seq ByteArray ByteArray.empty (fun s => [.str s]) p.2.2.2.2]) (allP text))), (10, .pv (.seq ByteArray ByteArray.empty (fun s => [.str s]) (nmS (allP text) true (allP text).length))), (11, .pv (.seq ByteArray ByteArray.empty (fun s => [.str s]) (nmS (allP text) false (allP text).length))), (13, .ref 13 0), (14, .int (j : Nat)), (15, .ref 15 0), (16, .pv (.seq ByteArray ByteArray.empty (fun s => [.str s]) (nmS (allP text) (!(lnL (allP text) j)) (allP text).length))), (17, .int (q : Nat))], [(2, .box [.pv .nil, .pv .nil]), (13, .box [.own 1013, .own 1014]), (1013, .arr 27 3 (ByteArray × Int × List Int × Unit) (ByteArray.empty, 0, [], ()) (fun p => [.str p.1, .i p.2.1, .ints p.2.2.1]) (sdP (allP text) true j)), (1014, .arr 27 3 (ByteArray × Int × List Int × Unit) (ByteArray.empty, 0, [], ()) (fun p => [.str p.1, .i p.2.1, .ints p.2.2.1]) (sdP (allP text) false j)), (15, .box [.pv (.str (lnN (allP text) j)), .pv (.i (lnR (allP text) j)), .own 1015]), (1015, .arr 3 1 Int 0 (fun n => [.int .i64 n]) (lkOut (allP text) (lnL (allP text) j) (lnK (allP text) j) q))]⟩) (fun (q : Nat) => (lnK (allP text) j).length - q) 0 ?_ (Ent.kept ⟨rfl, rfl, rfl, rfl, rfl, rfl, rfl, rfl, rfl, (congrArg (fun l => some (SV.pv (.seq ByteArray ByteArray.empty (fun s => [.str s]) l))) (ho)), rfl, trivial⟩ ⟨rfl, rfl, rfl, rfl, rfl, rfl, trivial⟩) ?_
            · exact ⟨Nat.zero_le _, rfl⟩
            rintro q hp
            try dsimp only at hp
            obtain ⟨hq, hE3⟩ := hp
            have hkl : (lnK (allP text) j).length ≤ 20001 := lnK_len (all := allP text) (N := 20000) (accP_lk (cutL text) 20000 (fun x hx => by have := cutL_mem hx; omega) (cutL text).length (Nat.le_refl _)) (show j < (allP text).length by omega)
            have htx : txtF (nmS (allP text) (!(lnL (allP text) j)) (allP text).length) ((lnK (allP text) j).getD q ByteArray.empty) = (fdN (allP text) (lnL (allP text) j) (lnK (allP text) j) q) := (fnd_txt hds (lnL (allP text) j) ((lnK (allP text) j).getD q ByteArray.empty) (allP text).length (Nat.le_refl _)).symm
            refine awp_seq ?_
            refine awp_seq ?_
            refine awp_region rfl (.n (fun _ => op_move (.plain rfl)) (.n (fun _ => op_move (.plain rfl)) (.n (fun _ => op_move (.plain rfl)) (.n (fun _ => op_indexAddrN Tryd.underlying66 Tryd.sizeOf69 (.plain rfl) (.plain rfl) (fun _ => rfl) ?_) (.n (fun _ => op_fieldAddr Tryd.underlying69 rfl rfl Tryd.sizeOf49 (.plain rfl)) (.n (fun _ => op_load Tryd.isAgg49 (.plain rfl)) (.n (fun _ => op_len (s := 0) Tryd.underlying49 (.plain rfl)) (.n (fun _ => op_lss (.plain rfl) (.plain rfl)) (.nil _))))))))) ?_
            · omega
            refine awp_cond rfl (fun h => ?_) (fun h => ?_)
            · skip
              have h116 : (q : Int) < ((lnK (allP text) j).length : Nat) := of_decide_eq_true h
              refine awp_skip ?_
              refine awp_seq ?_
              refine awp_block ?_
              refine awp_seq ?_
              refine awp_region rfl (.n (fun _ => op_move (.plain rfl)) (.n (fun _ => op_move (.plain rfl)) (.n (fun _ => op_move (.plain rfl)) (.n (fun _ => op_indexAddrN Tryd.underlying66 Tryd.sizeOf69 (.plain rfl) (.plain rfl) (fun _ => rfl) ?_) (.n (fun _ => op_fieldAddr Tryd.underlying69 rfl rfl Tryd.sizeOf49 (.plain rfl)) (.n (fun _ => op_load Tryd.isAgg49 (.plain rfl)) (.n (fun _ => op_move (.plain rfl)) (.n (fun _ => op_indexAddrN Tryd.underlying49 Tryd.sizeOf9 (.plain rfl) (.plain rfl) (fun _ => rfl) ?_) (.n (fun _ => op_load Tryd.isAgg9 (.plain rfl)) (.n (fun _ => op_call2 Tryd.call22 (.plain rfl) (.plain rfl) (hasText_fc _ _)) (.n (fun _ => op_assign (.plain rfl)) (.nil _)))))))))))) ?_
              · omega
              · show q < (lnK (allP text) j).length
                omega
              refine awp_seq ?_
              refine awp_seq ?_
              refine awp_region rfl (.n (fun _ => op_move (.plain rfl)) (.n (fun _ => op_lss (.plain rfl) (.plain rfl)) (.nil _))) ?_
              refine awp_cond rfl (fun h => ?_) (fun h => ?_)
              · skip
                have h130 : (fdN (allP text) (lnL (allP text) j) (lnK (allP text) j) q) < 0 := by rw [← htx]; exact of_decide_eq_true h
                refine awp_seq ?_
                refine awp_region rfl (.n (fun _ => op_build (pp := []) (places := #[(0, 1), (1, 1)]) Tryd.underlying24 Tryd.zeroValue24 rfl (by intro w; kernel_rfl) trivial rfl) (.e (op_storeRA Tryd.sizeOf24 (.plain rfl) (.plain rfl) rfl rfl (Nat.le_of_ble_eq_true rfl) rfl) rfl (.n (fun _ => op_assign (.plain rfl)) (.nil _)))) ?_
                first | refine awp_ent (Ent.unnilB 2 0 (ByteArray × Int × List Int × Unit) (ByteArray.empty, 0, [], ()) (fun p => [.str p.1, .i p.2.1, .ints p.2.2.1]) rfl rfl) ?_ | skip
                first | refine awp_ent (Ent.unnilB 2 1 (ByteArray × Int × List Int × Unit) (ByteArray.empty, 0, [], ()) (fun p => [.str p.1, .i p.2.1, .ints p.2.2.1]) rfl rfl) ?_ | skip
                refine awp_ret ?_
                refine retQ.ret ?_
                refine retC1 rfl rfl Tryd.isAgg24 Tryd.sizeOf24 rfl rfl ?_
                have hpe : parseE text = 5 := (parseE_2 hE hE2 (by omega) (by rw [show lkP (allP text) j = 5 from lkE_5 hE3 (by omega) h130]; decide)).trans (lkE_5 hE3 (by omega) h130)
                have hne : parseE text ≠ 0 := by rw [hpe]; decide
                rw [if_neg hne, if_neg hne, hpe]
                rfl
              · skip
                have h130 : ¬ (fdN (allP text) (lnL (allP text) j) (lnK (allP text) j) q) < 0 := by rw [← htx]; exact of_decide_eq_false h
                refine awp_skip ?_
                refine awp_seq ?_
                refine awp_region rfl (.n (fun _ => op_move (.plain rfl)) (.n (fun _ => op_fieldAddrR Tryd.underlying27 rfl rfl Tryd.sizeOf25 (.plain rfl)) (.r (op_loadR Tryd.isAgg25 (.plain rfl) rfl rfl) (.r (op_callL (vals := [_, _]) Tryd.call33 ⟨⟨_, (.plain rfl), rfl⟩, ⟨_, (.plain rfl), rfl⟩, trivial⟩ (In_fc _ _) rfl) (.n (fun _ => op_assign (.plain rfl)) (.nil _)))))) ?_
                refine awp_seq ?_
                refine awp_seq ?_
                refine awp_region rfl (.n (fun _ => op_move (.plain rfl)) (.nil _)) ?_
                refine awp_cond rfl (fun h => ?_) (fun h => ?_)
                · skip
                  have h136 : 0 ≤ placeF (lkOut (allP text) (lnL (allP text) j) (lnK (allP text) j) q) (fdN (allP text) (lnL (allP text) j) (lnK (allP text) j) q) := by rw [← htx]; exact of_decide_eq_true h
                  refine awp_seq ?_
                  refine awp_region rfl (.n (fun _ => op_build (pp := []) (places := #[(0, 1), (1, 1)]) Tryd.underlying24 Tryd.zeroValue24 rfl (by intro w; kernel_rfl) trivial rfl) (.e (op_storeRA Tryd.sizeOf24 (.plain rfl) (.plain rfl) rfl rfl (Nat.le_of_ble_eq_true rfl) rfl) rfl (.n (fun _ => op_assign (.plain rfl)) (.nil _)))) ?_
                  first | refine awp_ent (Ent.unnilB 2 0 (ByteArray × Int × List Int × Unit) (ByteArray.empty, 0, [], ()) (fun p => [.str p.1, .i p.2.1, .ints p.2.2.1]) rfl rfl) ?_ | skip
                  first | refine awp_ent (Ent.unnilB 2 1 (ByteArray × Int × List Int × Unit) (ByteArray.empty, 0, [], ()) (fun p => [.str p.1, .i p.2.1, .ints p.2.2.1]) rfl rfl) ?_ | skip
                  refine awp_ret ?_
                  refine retQ.ret ?_
                  refine retC1 rfl rfl Tryd.isAgg24 Tryd.sizeOf24 rfl rfl ?_
                  have hpe : parseE text = 6 := (parseE_2 hE hE2 (by omega) (by rw [show lkP (allP text) j = 6 from lkE_6 hE3 (by omega) h130 h136]; decide)).trans (lkE_6 hE3 (by omega) h130 h136)
                  have hne : parseE text ≠ 0 := by rw [hpe]; decide
                  rw [if_neg hne, if_neg hne, hpe]
                  rfl
                · skip
                  have h136 : ¬ 0 ≤ placeF (lkOut (allP text) (lnL (allP text) j) (lnK (allP text) j) q) (fdN (allP text) (lnL (allP text) j) (lnK (allP text) j) q) := by rw [← htx]; exact of_decide_eq_false h
                  refine awp_skip ?_
                  refine awp_region rfl (.n (fun _ => op_fieldAddrR Tryd.underlying27 rfl rfl Tryd.sizeOf25 (.plain rfl)) (.r (op_loadR Tryd.isAgg25 (.plain rfl) rfl rfl) (.n (fun _ => op_move (.plain rfl)) (.n (fun _ => op_slit (pp := [(0, _)]) (α := Int) (d := 0) (f := (fun n => [.int .i64 n])) [_] ety25 rfl ⟨rfl, (.plain rfl), (by simp), trivial⟩ rfl (by decide) rfl) (.e (op_append (id' := 142) (α := Int) (d := 0) (f := (fun n => [.int .i64 n])) ety25 Tryd.underlying25 (fun _ => rfl) (fun _ => rfl) (.plain rfl) rfl (.plain rfl) rfl ?_) rfl (.n (fun _ => op_fieldAddrR Tryd.underlying27 rfl rfl Tryd.sizeOf25 (.plain rfl)) (.e (op_storeR Tryd.sizeOf25 (.plain rfl) (.plain rfl) rfl (by first | decide | exact Nat.le_of_ble_eq_true rfl) rfl (by simp) (fun i h => by cases h; exact ⟨_, _, _, _, _, _, rfl⟩)) rfl (.nil _)))))))) ?_
                  · have := lkOut_len (allP text) (lnL (allP text) j) (lnK (allP text) j) q
                    simp only [List.length_cons, List.length_nil]
                    omega
                  refine awp_region rfl (.n (fun _ => op_move (.plain rfl)) (.n (fun _ => op_add (.plain rfl) (.plain rfl) ?_) (.n (fun _ => op_assign (.plain rfl)) (.nil _)))) ?_
                  · unfold InR; omega
                  exact ⟨q + 1, ⟨by omega, lkE_0 hE3 h130 h136⟩, by dsimp only; omega, (Ent.round 142 1015 ⟨rfl, rfl, rfl, rfl, rfl, rfl, rfl, rfl, rfl, rfl, rfl, trivial⟩ ⟨rfl, rfl, rfl, rfl, rfl, (congrArg (fun l => some (Blk.arr 3 1 Int 0 (fun n => [.int .i64 n]) l)) ((congrArg (fun x => lkOut (allP text) (lnL (allP text) j) (lnK (allP text) j) q ++ [x]) htx).trans (lkOut_succ (allP text) (lnL (allP text) j) (lnK (allP text) j) q))), trivial⟩ rfl rfl rfl ⟨rfl, rfl, rfl, rfl, rfl, rfl, rfl, rfl, rfl, rfl, rfl, trivial⟩ ⟨rfl, rfl, rfl, rfl, rfl, rfl, trivial⟩)⟩
            · skip
              have h116 : ¬ (q : Int) < ((lnK (allP text) j).length : Nat) := of_decide_eq_false h
              obtain rfl : q = (lnK (allP text) j).length := by omega
              have hlk : lkP (allP text) j = 0 := hE3
              refine awp_exit ?_
              refine awp_seq ?_
              refine awp_region rfl (.n (fun _ => op_move (.plain rfl)) (.n (fun _ => op_move (.plain rfl)) (.n (fun _ => op_indexAddrN Tryd.underlying66 Tryd.sizeOf69 (.plain rfl) (.plain rfl) (fun _ => rfl) ?_) (.n (fun _ => op_fieldAddr Tryd.underlying69 rfl rfl Tryd.sizeOf4 (.plain rfl)) (.n (fun _ => op_load Tryd.isAgg4 (.plain rfl)) (.nil _)))))) ?_
              · omega
              refine awp_cond rfl (fun h => ?_) (fun h => ?_)
              · skip
                have h148 : lnL (allP text) j = true := h
                have hl : sdP (allP text) true j ++ [agP (allP text) j] = sdP (allP text) true (j + 1) := (if_pos h148).symm
                have hr : sdP (allP text) false j = sdP (allP text) false (j + 1) := (if_neg (by rw [h148]; decide)).symm
                refine awp_ent (Ent.giveB 15 2 1015 rfl rfl rfl) ?_
                refine awp_region rfl (.n (fun _ => op_fieldAddrR Tryd.underlying24 rfl rfl Tryd.sizeOf22 (.plain rfl)) (.r (op_loadR Tryd.isAgg22 (.plain rfl) rfl rfl) (.r (op_loadRA Tryd.isAgg27 Tryd.sizeOf27 (.plain rfl) rfl (by first | (simp; done) | exact Nat.le_of_ble_eq_true rfl) rfl) (.n (fun _ => op_slit1 (pp := [(0, _)]) (α := (ByteArray × Int × List Int × Unit)) (d := (ByteArray.empty, 0, [], ())) (f := (fun p => [.str p.1, .i p.2.1, .ints p.2.2.1])) (agP (allP text) j) ety22 rfl ⟨rfl, (.plain rfl), (by simp), trivial⟩ rfl (by decide)) (.e (op_append (id' := 153) (α := (ByteArray × Int × List Int × Unit)) (d := (ByteArray.empty, 0, [], ())) (f := (fun p => [.str p.1, .i p.2.1, .ints p.2.2.1])) ety22 Tryd.underlying22 (fun _ => rfl) (fun _ => rfl) (.plain rfl) rfl (.plain rfl) rfl ?_) rfl (.n (fun _ => op_fieldAddrR Tryd.underlying24 rfl rfl Tryd.sizeOf22 (.plain rfl)) (.e (op_storeR Tryd.sizeOf22 (.plain rfl) (.plain rfl) rfl (by first | decide | exact Nat.le_of_ble_eq_true rfl) rfl (by simp) (fun i h => by cases h; exact ⟨_, _, _, _, _, _, rfl⟩)) rfl (.nil _)))))))) ?_
                · have := sdP_len (allP text) true j
                  simp only [List.length_cons, List.length_nil]
                  omega
                refine awp_region rfl (.n (fun _ => op_move (.plain rfl)) (.n (fun _ => op_add (.plain rfl) (.plain rfl) ?_) (.n (fun _ => op_assign (.plain rfl)) (.nil _)))) ?_
                · unfold InR; omega
                exact ⟨j + 1, ⟨by omega, firstE_succ hE2 hlk⟩, by dsimp only; omega, (Ent.round 153 1013 ⟨rfl, rfl, rfl, rfl, rfl, rfl, rfl, rfl, trivial⟩ ⟨rfl, rfl, (congrArg (fun l => some (Blk.arr 27 3 (ByteArray × Int × List Int × Unit) (ByteArray.empty, 0, [], ()) (fun p => [.str p.1, .i p.2.1, .ints p.2.2.1]) l)) (hl)), (congrArg (fun l => some (Blk.arr 27 3 (ByteArray × Int × List Int × Unit) (ByteArray.empty, 0, [], ()) (fun p => [.str p.1, .i p.2.1, .ints p.2.2.1]) l)) (hr)), trivial⟩ rfl rfl rfl ⟨rfl, rfl, rfl, rfl, rfl, rfl, rfl, rfl, trivial⟩ ⟨rfl, rfl, rfl, rfl, trivial⟩)⟩
              · skip
                have h148 : lnL (allP text) j = false := h
                have hr : sdP (allP text) false j ++ [agP (allP text) j] = sdP (allP text) false (j + 1) := (if_pos h148).symm
                have hl : sdP (allP text) true j = sdP (allP text) true (j + 1) := (if_neg (by rw [h148]; decide)).symm
                refine awp_ent (Ent.giveB 15 2 1015 rfl rfl rfl) ?_
                refine awp_region rfl (.n (fun _ => op_fieldAddrR Tryd.underlying24 rfl rfl Tryd.sizeOf22 (.plain rfl)) (.r (op_loadR Tryd.isAgg22 (.plain rfl) rfl rfl) (.r (op_loadRA Tryd.isAgg27 Tryd.sizeOf27 (.plain rfl) rfl (by first | (simp; done) | exact Nat.le_of_ble_eq_true rfl) rfl) (.n (fun _ => op_slit1 (pp := [(0, _)]) (α := (ByteArray × Int × List Int × Unit)) (d := (ByteArray.empty, 0, [], ())) (f := (fun p => [.str p.1, .i p.2.1, .ints p.2.2.1])) (agP (allP text) j) ety22 rfl ⟨rfl, (.plain rfl), (by simp), trivial⟩ rfl (by decide)) (.e (op_append (id' := 159) (α := (ByteArray × Int × List Int × Unit)) (d := (ByteArray.empty, 0, [], ())) (f := (fun p => [.str p.1, .i p.2.1, .ints p.2.2.1])) ety22 Tryd.underlying22 (fun _ => rfl) (fun _ => rfl) (.plain rfl) rfl (.plain rfl) rfl ?_) rfl (.n (fun _ => op_fieldAddrR Tryd.underlying24 rfl rfl Tryd.sizeOf22 (.plain rfl)) (.e (op_storeR Tryd.sizeOf22 (.plain rfl) (.plain rfl) rfl (by first | decide | exact Nat.le_of_ble_eq_true rfl) rfl (by simp) (fun i h => by cases h; exact ⟨_, _, _, _, _, _, rfl⟩)) rfl (.nil _)))))))) ?_
                · have := sdP_len (allP text) false j
                  simp only [List.length_cons, List.length_nil]
                  omega
                refine awp_region rfl (.n (fun _ => op_move (.plain rfl)) (.n (fun _ => op_add (.plain rfl) (.plain rfl) ?_) (.n (fun _ => op_assign (.plain rfl)) (.nil _)))) ?_
                · unfold InR; omega
                exact ⟨j + 1, ⟨by omega, firstE_succ hE2 hlk⟩, by dsimp only; omega, (Ent.round 159 1014 ⟨rfl, rfl, rfl, rfl, rfl, rfl, rfl, rfl, trivial⟩ ⟨rfl, rfl, (congrArg (fun l => some (Blk.arr 27 3 (ByteArray × Int × List Int × Unit) (ByteArray.empty, 0, [], ()) (fun p => [.str p.1, .i p.2.1, .ints p.2.2.1]) l)) (hl)), (congrArg (fun l => some (Blk.arr 27 3 (ByteArray × Int × List Int × Unit) (ByteArray.empty, 0, [], ()) (fun p => [.str p.1, .i p.2.1, .ints p.2.2.1]) l)) (hr)), trivial⟩ rfl rfl rfl ⟨rfl, rfl, rfl, rfl, rfl, rfl, rfl, rfl, trivial⟩ ⟨rfl, rfl, rfl, rfl, trivial⟩)⟩
        · skip
          have h94 := of_decide_eq_false h
          obtain rfl : j = (allP text).length := by omega
          refine awp_exit ?_
          refine awp_seq ?_
          refine awp_ent (Ent.giveB 13 0 1013 rfl rfl rfl) ?_
          refine awp_ent (Ent.giveB 13 1 1014 rfl rfl rfl) ?_
          refine awp_region rfl (.r (op_loadRA Tryd.isAgg24 Tryd.sizeOf24 (.plain rfl) rfl (by first | (simp; done) | exact Nat.le_of_ble_eq_true rfl) rfl) (.e (op_storeRA Tryd.sizeOf24 (.plain rfl) (.plain rfl) rfl rfl (Nat.le_of_ble_eq_true rfl) rfl) rfl (.n (fun _ => op_assign (.plain rfl)) (.nil _)))) ?_
          first | refine awp_ent (Ent.unnilB 2 0 (ByteArray × Int × List Int × Unit) (ByteArray.empty, 0, [], ()) (fun p => [.str p.1, .i p.2.1, .ints p.2.2.1]) rfl rfl) ?_ | skip
          first | refine awp_ent (Ent.unnilB 2 1 (ByteArray × Int × List Int × Unit) (ByteArray.empty, 0, [], ()) (fun p => [.str p.1, .i p.2.1, .ints p.2.2.1]) rfl rfl) ?_ | skip
          refine awp_ret ?_
          refine retQ.ret ?_
          refine retC1 rfl rfl Tryd.isAgg24 Tryd.sizeOf24 rfl rfl ?_
          have hpe := parseE_0 hE hE2
          rw [if_pos hpe, if_pos hpe, hpe]
          rfl

end Go.Proofs.YtolmcapbpliaiaaDoor

