/- What the other Rounds gives, and Turns. Conditions: each theorem names its own. -/
import Derived.Test.YtnbponopcbgndaaProg
import Derived.Test.YtnbponopcbgndaaFb
namespace Go.Proofs.Ytnbponopcbgndaa
open Go.Abs
set_option linter.unusedVariables false
set_option linter.unusedSimpArgs false


theorem leftN_le (n : Nat) (gone : List Bool) : leftN n gone ≤ n := by
  unfold leftN; have := List.length_filter_le (fun x => !gone.getD x false) (List.range n); simpa using this
theorem left_some {n : Nat} {gone : List Bool} (h : 0 < leftN n gone) : ∃ x, x < n ∧ gone.getD x false = false := by
  unfold leftN at h
  obtain ⟨x, hx⟩ := List.exists_mem_of_length_pos h
  have := List.mem_filter.1 hx
  exact ⟨x, List.mem_range.1 this.1, by simpa using this.2⟩
theorem cycN_pos {f : Nat → Nat} {n : Nat} {gone : List Bool} (hf : ∀ x, x < n → gone.getD x false = false → f x < n ∧ gone.getD (f x) false = false) (h : 0 < leftN n gone) : 0 < (cycN f n gone n).length := by
  obtain ⟨x, hx, hg⟩ := left_some h
  obtain ⟨y, hy⟩ := cyc_some hf hx hg
  exact List.length_pos_of_mem (cycN_mem.2 hy)
/-- Each in turn takes the best thing that is there. -/
def tS (W : List (List Int)) (turn : List Int) : Nat → List Int × List Bool
  | 0 => (List.replicate W.length 0, List.replicate W.length false)
  | j + 1 => ((tS W turn j).1.set (turn.getD j 0).toNat (bestF (W.getD (turn.getD j 0).toNat []) (tS W turn j).2), (tS W turn j).2.set (bestF (W.getD (turn.getD j 0).toNat []) (tS W turn j).2).toNat true)
theorem leftN_set {n : Nat} {gone : List Bool} {v : Nat} (hl : gone.length = n) (hv : v < n) (hg : gone.getD v false = false) : leftN n (gone.set v true) + 1 = leftN n gone := by
  have h1 := leftN_sel (n := n) (gone := gone) (N := [v]) (by simp) (fun x hx => by simp at hx; subst hx; exact ⟨hv, hg⟩) 1 (Nat.le_refl _)
  have h2 := goneTo_set (n := n) (gone := gone) (N := [v]) (j := 0) (by simp)
  rw [← goneTo_zero hl] at h2
  rw [← h2] at h1
  exact h1
theorem tS_len (W : List (List Int)) (turn : List Int) : ∀ j, (tS W turn j).1.length = W.length ∧ (tS W turn j).2.length = W.length
  | 0 => by simp [tS]
  | j + 1 => by have := tS_len W turn j; simp [tS, this.1, this.2]
theorem tS_left {W : List (List Int)} {turn : List Int} (hW : mayE W = 0) (ht : ordE W.length turn = 0) : ∀ j, j ≤ W.length → leftN W.length (tS W turn j).2 + j = W.length
  | 0, _ => by simp only [tS]; rw [leftN_full]; rfl
  | j + 1, hj => by
    have ih := tS_left hW ht j (by omega)
    have hl := (ord_some ht).1
    have hk := someE_in (ord_some ht).2 (show j < turn.length by omega)
    obtain ⟨x, hx, hg⟩ := left_some (n := W.length) (gone := (tS W turn j).2) (by omega)
    have hb := best_good (gone := (tS W turn j).2) (mayE_row hW (show (turn.getD j 0).toNat < W.length by omega)) hx hg
    have := leftN_set (tS_len W turn j).2 (show (bestF (W.getD (turn.getD j 0).toNat []) (tS W turn j).2).toNat < W.length by omega) hb.2.2
    simp only [tS]
    omega
theorem tS_good {W : List (List Int)} {turn : List Int} (hW : mayE W = 0) (ht : ordE W.length turn = 0) {j : Nat} (hj : j < W.length) : (0 ≤ turn.getD j 0 ∧ turn.getD j 0 < W.length) ∧ 0 ≤ bestF (W.getD (turn.getD j 0).toNat []) (tS W turn j).2 ∧ bestF (W.getD (turn.getD j 0).toNat []) (tS W turn j).2 < W.length := by
  have hl := (ord_some ht).1
  have hk := someE_in (ord_some ht).2 (show j < turn.length by omega)
  have h1 := tS_left hW ht j (by omega)
  obtain ⟨x, hx, hg⟩ := left_some (n := W.length) (gone := (tS W turn j).2) (by omega)
  have hb := best_good (gone := (tS W turn j).2) (mayE_row hW (show (turn.getD j 0).toNat < W.length by omega)) hx hg
  exact ⟨hk, hb.1, hb.2.1⟩
def turnsE (W : List (List Int)) (turn : List Int) : Int := if mayE W ≠ 0 then mayE W else ordE W.length turn
theorem getD_set_self {α : Type} {d : α} {l : List α} {k : Nat} {v : α} (h : k < l.length) : (l.set k v).getD k d = v := by simp [List.getD_eq_getElem?_getD, h]

set_option maxRecDepth 1000000 in
set_option maxHeartbeats 4000000 in
theorem RRounds_fc (W : List (List Int)) : FC Try.prog 12 [.rows W] (.tup [.ints (if mayE W = 0 then roundsF W else []), .i (mayE W)]) := by
  refine FC.intro Try.func12 rfl (Nat.le_of_ble_eq_true rfl) fun hfit => ?_
  obtain ⟨fitl0, fitr0⟩ := (hfit _ (.head _)).rows
  refine awp_seq ?_
  refine awp_region rfl (.n (fun _ => op_assign (.plain rfl)) (.n (fun _ => op_assign (.plain rfl)) (.nil _))) ?_
  refine awp_seq ?_
  refine awp_region rfl (.n (fun _ => op_move (.plain rfl)) (.n (fun _ => op_call1 Try.call14 (.plain rfl) (TradeMay_fc _)) (.n (fun _ => op_assign (.plain rfl)) (.nil _)))) ?_
  refine awp_seq ?_
  refine awp_seq ?_
  refine awp_region rfl (.n (fun _ => op_move (.plain rfl)) (.n (fun _ => op_neq (.plain rfl) (.plain rfl)) (.nil _))) ?_
  refine awp_cond rfl (fun h => ?_) (fun h => ?_)
  · try simp only [decide_eq_true_eq, decide_eq_false_iff_not, Bool.and_eq_true, Bool.or_eq_true, Bool.and_eq_false_iff, Bool.or_eq_false_iff, Bool.not_eq_true', Bool.not_eq_false', Bool.not_eq_true, Bool.not_eq_false, Bool.true_eq_false, Bool.false_eq_true] at h
    refine awp_seq ?_
    refine awp_region rfl (.n (fun _ => op_move (.plain rfl)) (.n (fun _ => op_assign (.plain rfl)) (.n (fun _ => op_assign (.plain rfl)) (.nil _)))) ?_
    refine awp_ent (Ent.nilseq 2 Int 0 (fun n => [.int .i64 n]) rfl) ?_
    refine awp_ret ?_
    refine retQ.ret ?_
    refine ret2 rfl rfl rfl rfl rfl ?_
    rw [if_neg h]
  · try simp only [decide_eq_true_eq, decide_eq_false_iff_not, Bool.and_eq_true, Bool.or_eq_true, Bool.and_eq_false_iff, Bool.or_eq_false_iff, Bool.not_eq_true', Bool.not_eq_false', Bool.not_eq_true, Bool.not_eq_false, Bool.true_eq_false, Bool.false_eq_true] at h
    have hW := h
    have hn6 := mayE_len hW
    refine awp_skip ?_
    refine awp_seq ?_
    refine awp_region rfl (.n (fun _ => op_move (.plain rfl)) (.n (fun _ => op_len (s := 0) Try.underlying22 (.plain rfl)) (.n (fun _ => op_assign (.plain rfl)) (.nil _)))) ?_
    refine awp_seq ?_
    refine awp_region rfl (.n (fun _ => op_move (.plain rfl)) (.e (op_make (α := Int) (d := 0) (f := (fun n => [.int .i64 n])) 23 0 ety23 (.plain rfl) (.plain rfl) (fun _ => rfl) rfl rfl ?_) rfl (.n (fun _ => op_assign (.plain rfl)) (.nil _)))) ?_
    · omega
    refine awp_seq ?_
    refine awp_region rfl (.n (fun _ => op_move (.plain rfl)) (.e (op_make (α := Bool) (d := false) (f := (fun b => [.bool b])) 25 false ety45 (.plain rfl) (.plain rfl) (fun _ => rfl) rfl rfl ?_) rfl (.n (fun _ => op_assign (.plain rfl)) (.nil _)))) ?_
    · omega
    refine awp_seq ?_
    refine awp_region rfl (.n (fun _ => op_move (.plain rfl)) (.n (fun _ => op_assign (.plain rfl)) (.nil _))) ?_
    refine awp_seq ?_
    refine awp_block ?_
    refine awp_ent (Ent.ren 23 1006 rfl rfl rfl) ?_
    refine awp_ent (Ent.ren 25 1007 rfl rfl rfl) ?_
    refine awp_loop (σ := List Int × List Bool) (fun (s : List Int × List Bool) => RStar W s.2 s.1) (fun (s : List Int × List Bool) => ⟨[(0, .pv (.rows W)), (5, .int (W.length : Nat)), (6, .own 1006), (7, .own 1007), (8, .int (leftN W.length s.2 : Nat))], [(1006, .arr 3 1 Int 0 (fun n => [.int .i64 n]) (s.1)), (1007, .arr 4 1 Bool false (fun b => [.bool b]) (s.2))]⟩) (fun (s : List Int × List Bool) => leftN W.length s.2) (List.replicate W.length 0, List.replicate W.length false) ?_ (Ent.kept ⟨rfl, rfl, rfl, rfl, (congrArg (fun n => some (SV.int n)) (congrArg (fun n : Nat => (n : Int)) (leftN_full _).symm)), trivial⟩ ⟨rfl, rfl, trivial⟩) ?_
    · exact RStar.start W
    rintro ⟨got, gone⟩ hp
    try dsimp only at hp
    have hR := hp
    refine awp_seq ?_
    refine awp_seq ?_
    refine awp_region rfl (.n (fun _ => op_move (.plain rfl)) (.n (fun _ => op_gtr (.plain rfl) (.plain rfl)) (.nil _))) ?_
    refine awp_cond rfl (fun h => ?_) (fun h => ?_)
    · try simp only [decide_eq_true_eq, decide_eq_false_iff_not, Bool.and_eq_true, Bool.or_eq_true, Bool.and_eq_false_iff, Bool.or_eq_false_iff, Bool.not_eq_true', Bool.not_eq_false', Bool.not_eq_true, Bool.not_eq_false, Bool.true_eq_false, Bool.false_eq_true] at h
      have hgl : gone.length = W.length := hR.1
      have hfg : ∀ x, x < W.length → gone.getD x false = false → fR W gone x < W.length ∧ gone.getD (fR W gone x) false = false := fun x hx hg => ⟨(fR_good hW hx hg).1, (fR_good hW hx hg).2.1⟩
      have hpos := cycN_pos hfg (show 0 < leftN W.length gone by omega)
      refine awp_skip ?_
      refine awp_block ?_
      refine awp_seq ?_
      refine awp_region rfl (.n (fun _ => op_assign (.plain rfl)) (.nil _)) ?_
      refine awp_seq ?_
      refine awp_seq ?_
      refine awp_region rfl (.n (fun _ => op_assign (.plain rfl)) (.nil _)) ?_
      refine awp_block ?_
      refine awp_ent (Ent.begin 9 1009 3 1 Int 0 (fun n => [.int .i64 n]) rfl rfl rfl) ?_
      refine awp_loop (σ := Nat) (fun (i : Nat) => i ≤ W.length) (fun (i : Nat) => ⟨[(0, .pv (.rows W)), (5, .int (W.length : Nat)), (6, .own 1006), (7, .own 1007), (8, .int (leftN W.length gone : Nat)), (9, .own 1009), (10, .int (i : Nat))], [(1006, .arr 3 1 Int 0 (fun n => [.int .i64 n]) (got)), (1007, .arr 4 1 Bool false (fun b => [.bool b]) (gone)), (1009, .arr 3 1 Int 0 (fun n => [.int .i64 n]) (ringI (cycN (fR W gone) W.length gone i)))]⟩) (fun (i : Nat) => W.length - i) 0 ?_ (Ent.kept ⟨rfl, rfl, rfl, rfl, rfl, rfl, rfl, trivial⟩ ⟨rfl, rfl, rfl, trivial⟩) ?_
      · simp
      rintro i hp
      try dsimp only at hp
      refine awp_seq ?_
      refine awp_seq ?_
      refine awp_region rfl (.n (fun _ => op_move (.plain rfl)) (.n (fun _ => op_move (.plain rfl)) (.n (fun _ => op_lss (.plain rfl) (.plain rfl)) (.nil _)))) ?_
      refine awp_cond rfl (fun h => ?_) (fun h => ?_)
      · try simp only [decide_eq_true_eq, decide_eq_false_iff_not, Bool.and_eq_true, Bool.or_eq_true, Bool.and_eq_false_iff, Bool.or_eq_false_iff, Bool.not_eq_true', Bool.not_eq_false', Bool.not_eq_true, Bool.not_eq_false, Bool.true_eq_false, Bool.false_eq_true] at h
        have hi : i < W.length := by omega
        refine awp_skip ?_
        refine awp_seq ?_
        refine awp_block ?_
        refine awp_seq ?_
        refine awp_seq ?_
        refine awp_region rfl (.n (fun _ => op_move (.plain rfl)) (.n (fun _ => op_move (.plain rfl)) (.r (op_indexAddrON Try.underlying45 Try.sizeOf4 (.plain rfl) rfl (.plain rfl) ?_) (.r (op_loadE Try.isAgg4 (.plain rfl) rfl (fun _ => rfl) ?_ rfl) (.nil _))))) ?_
        · first | omega | (simp; omega)
        · first | omega | (simp; omega)
        refine awp_cond rfl (fun h => ?_) (fun h => ?_)
        · try simp only [decide_eq_true_eq, decide_eq_false_iff_not, Bool.and_eq_true, Bool.or_eq_true, Bool.and_eq_false_iff, Bool.or_eq_false_iff, Bool.not_eq_true', Bool.not_eq_false', Bool.not_eq_true, Bool.not_eq_false, Bool.true_eq_false, Bool.false_eq_true] at h
          have hc0 : cyc (fR W gone) W.length gone i = false := by unfold cyc; rw [h]; simp
          refine awp_exit ?_
          refine awp_region rfl (.n (fun _ => op_move (.plain rfl)) (.n (fun _ => op_add (.plain rfl) (.plain rfl) ?_) (.n (fun _ => op_assign (.plain rfl)) (.nil _)))) ?_
          · unfold InR; omega
          exact ⟨i + 1, by omega, by dsimp only; omega, (Ent.kept ⟨rfl, rfl, rfl, rfl, rfl, rfl, rfl, trivial⟩ ⟨rfl, rfl, (congrArg (fun l => some (Blk.arr 3 1 Int 0 (fun n => [.int .i64 n]) l)) (by first | exact congrArg ringI (cycN_no hc0) | exact (ringI_snoc _ _).trans (congrArg ringI (cycN_yes hc1)))), trivial⟩)⟩
        · try simp only [decide_eq_true_eq, decide_eq_false_iff_not, Bool.and_eq_true, Bool.or_eq_true, Bool.and_eq_false_iff, Bool.or_eq_false_iff, Bool.not_eq_true', Bool.not_eq_false', Bool.not_eq_true, Bool.not_eq_false, Bool.true_eq_false, Bool.false_eq_true] at h
          have hgi := h
          have hit := iter_in hfg hi hgi
          refine awp_skip ?_
          refine awp_seq ?_
          refine awp_region rfl (.n (fun _ => op_move (.plain rfl)) (.n (fun _ => op_move (.plain rfl)) (.n (fun _ => op_indexAddrN Try.underlying22 Try.sizeOf23 (.plain rfl) (.plain rfl) (fun _ => rfl) ?_) (.n (fun _ => op_load Try.isAgg23 (.plain rfl)) (.n (fun _ => op_move (.plain rfl)) (.r (op_callL (vals := [_, _]) Try.call35 ⟨⟨_, (.plain rfl), rfl⟩, ⟨_, (.plain rfl), rfl⟩, trivial⟩ (bestLeft_fc _ _ ?_) rfl) (.n (fun _ => op_assign (.plain rfl)) (.nil _)))))))) ?_
          · omega
          · rw [hgl]; exact ord_ins (mayE_row hW hi)
          refine awp_seq ?_
          refine awp_seq ?_
          refine awp_region rfl (.n (fun _ => op_assign (.plain rfl)) (.nil _)) ?_
          refine awp_block ?_
          refine awp_loop (σ := Nat) (fun (k : Nat) => k ≤ W.length ∧ ∀ j, j < k → iter (fR W gone) (j + 1) i ≠ i) (fun (k : Nat) => ⟨[(0, .pv (.rows W)), (5, .int (W.length : Nat)), (6, .own 1006), (7, .own 1007), (8, .int (leftN W.length gone : Nat)), (9, .own 1009), (10, .int (i : Nat)), (11, .int (iter (fR W gone) (k + 1) i : Nat)), (12, .int (k : Nat))], [(1006, .arr 3 1 Int 0 (fun n => [.int .i64 n]) (got)), (1007, .arr 4 1 Bool false (fun b => [.bool b]) (gone)), (1009, .arr 3 1 Int 0 (fun n => [.int .i64 n]) (ringI (cycN (fR W gone) W.length gone i)))]⟩) (fun (k : Nat) => W.length - k) 0 ?_ (Ent.kept ⟨rfl, rfl, rfl, rfl, rfl, rfl, rfl, (congrArg (fun n => some (SV.int n)) ((fR_good hW (hit (0)).1 (hit (0)).2).2.2)), rfl, trivial⟩ ⟨rfl, rfl, rfl, trivial⟩) ?_
          · exact ⟨Nat.zero_le _, fun j hj => absurd hj (Nat.not_lt_zero _)⟩
          rintro k hp
          try dsimp only at hp
          obtain ⟨hk, hkj⟩ := hp
          refine awp_seq ?_
          refine awp_seq ?_
          refine awp_region rfl (.n (fun _ => op_move (.plain rfl)) (.n (fun _ => op_move (.plain rfl)) (.n (fun _ => op_lss (.plain rfl) (.plain rfl)) (.n (fun _ => op_move (.plain rfl)) (.gn rfl rfl (fun hg _ => op_move (.plain rfl)) (.gn rfl rfl (fun hg _ => op_move (.plain rfl)) (.gn rfl rfl (fun hg _ => op_neq (.opt rfl fun h => h) (.opt rfl fun h => h)) (.n (fun _ => op_and (.plain rfl) (.plain rfl) (.plain rfl) (fun h => eqT h)) (.nil _))))))))) ?_
          refine awp_cond rfl (fun h => ?_) (fun h => ?_)
          · try simp only [decide_eq_true_eq, decide_eq_false_iff_not, Bool.and_eq_true, Bool.or_eq_true, Bool.and_eq_false_iff, Bool.or_eq_false_iff, Bool.not_eq_true', Bool.not_eq_false', Bool.not_eq_true, Bool.not_eq_false, Bool.true_eq_false, Bool.false_eq_true] at h
            refine awp_skip ?_
            refine awp_seq ?_
            refine awp_block ?_
            refine awp_region rfl (.n (fun _ => op_move (.plain rfl)) (.n (fun _ => op_move (.plain rfl)) (.n (fun _ => op_indexAddrN Try.underlying22 Try.sizeOf23 (.plain rfl) (.plain rfl) (fun _ => rfl) ?_) (.n (fun _ => op_load Try.isAgg23 (.plain rfl)) (.n (fun _ => op_move (.plain rfl)) (.r (op_callL (vals := [_, _]) Try.call35 ⟨⟨_, (.plain rfl), rfl⟩, ⟨_, (.plain rfl), rfl⟩, trivial⟩ (bestLeft_fc _ _ ?_) rfl) (.n (fun _ => op_assign (.plain rfl)) (.nil _)))))))) ?_
            · exact (hit _).1
            · rw [hgl]; exact ord_ins (mayE_row hW (hit (k + 1)).1)
            refine awp_region rfl (.n (fun _ => op_move (.plain rfl)) (.n (fun _ => op_add (.plain rfl) (.plain rfl) ?_) (.n (fun _ => op_assign (.plain rfl)) (.nil _)))) ?_
            · unfold InR; omega
            refine ⟨k + 1, ⟨by omega, fun j hj => ?_⟩, by dsimp only; omega, (Ent.kept ⟨rfl, rfl, rfl, rfl, rfl, rfl, rfl, (congrArg (fun n => some (SV.int n)) ((fR_good hW (hit (k + 1)).1 (hit (k + 1)).2).2.2)), rfl, trivial⟩ ⟨rfl, rfl, rfl, trivial⟩)⟩
            by_cases e : j = k
            · subst e; omega
            · exact hkj j (by omega)
          · try simp only [decide_eq_true_eq, decide_eq_false_iff_not, Bool.and_eq_true, Bool.or_eq_true, Bool.and_eq_false_iff, Bool.or_eq_false_iff, Bool.not_eq_true', Bool.not_eq_false', Bool.not_eq_true, Bool.not_eq_false, Bool.true_eq_false, Bool.false_eq_true] at h
            have hex := h
            refine awp_exit ?_
            refine awp_seq ?_
            refine awp_region rfl (.n (fun _ => op_move (.plain rfl)) (.n (fun _ => op_move (.plain rfl)) (.n (fun _ => op_eql (.plain rfl) (.plain rfl)) (.nil _)))) ?_
            refine awp_cond rfl (fun h => ?_) (fun h => ?_)
            · try simp only [decide_eq_true_eq, decide_eq_false_iff_not, Bool.and_eq_true, Bool.or_eq_true, Bool.and_eq_false_iff, Bool.or_eq_false_iff, Bool.not_eq_true', Bool.not_eq_false', Bool.not_eq_true, Bool.not_eq_false, Bool.true_eq_false, Bool.false_eq_true] at h
              have hc1 : cyc (fR W gone) W.length gone i = true := cyc_iff.2 ⟨hi, hgi, k, hk, by omega⟩
              refine awp_region rfl (.n (fun _ => op_move (.plain rfl)) (.n (fun _ => op_move (.plain rfl)) (.n (fun _ => op_slit (pp := [(0, _)]) (α := Int) (d := 0) (f := (fun n => [.int .i64 n])) [_] ety23 rfl ⟨rfl, (.plain rfl), (by simp), trivial⟩ rfl (by decide) rfl) (.e (op_append (id' := 66) (α := Int) (d := 0) (f := (fun n => [.int .i64 n])) ety23 Try.underlying23 (fun _ => rfl) (fun _ => rfl) (.plain rfl) rfl (.plain rfl) rfl ?_) rfl (.n (fun _ => op_assign (.plain rfl)) (.nil _)))))) ?_
              · have h9 := cycN_le (f := (fR W gone)) (n := W.length) (gone := gone) i; simp; omega
              refine awp_region rfl (.n (fun _ => op_move (.plain rfl)) (.n (fun _ => op_add (.plain rfl) (.plain rfl) ?_) (.n (fun _ => op_assign (.plain rfl)) (.nil _)))) ?_
              · unfold InR; omega
              exact ⟨i + 1, by omega, by dsimp only; omega, (Ent.round 66 1009 ⟨rfl, rfl, rfl, rfl, rfl, rfl, rfl, trivial⟩ ⟨rfl, rfl, (congrArg (fun l => some (Blk.arr 3 1 Int 0 (fun n => [.int .i64 n]) l)) (by first | exact congrArg ringI (cycN_no hc0) | exact (ringI_snoc _ _).trans (congrArg ringI (cycN_yes hc1)))), trivial⟩ rfl rfl rfl ⟨rfl, rfl, rfl, rfl, rfl, rfl, rfl, trivial⟩ ⟨rfl, rfl, rfl, trivial⟩)⟩
            · try simp only [decide_eq_true_eq, decide_eq_false_iff_not, Bool.and_eq_true, Bool.or_eq_true, Bool.and_eq_false_iff, Bool.or_eq_false_iff, Bool.not_eq_true', Bool.not_eq_false', Bool.not_eq_true, Bool.not_eq_false, Bool.true_eq_false, Bool.false_eq_true] at h
              have hc0 : cyc (fR W gone) W.length gone i = false := Bool.eq_false_iff.2 fun c => by
                obtain ⟨_, _, j, hj, e⟩ := cyc_iff.1 c
                rcases Nat.lt_trichotomy j k with h1 | h1 | h1
                · exact hkj j h1 e
                · subst h1; omega
                · omega
              refine awp_skip ?_
              refine awp_region rfl (.n (fun _ => op_move (.plain rfl)) (.n (fun _ => op_add (.plain rfl) (.plain rfl) ?_) (.n (fun _ => op_assign (.plain rfl)) (.nil _)))) ?_
              · unfold InR; omega
              exact ⟨i + 1, by omega, by dsimp only; omega, (Ent.kept ⟨rfl, rfl, rfl, rfl, rfl, rfl, rfl, trivial⟩ ⟨rfl, rfl, (congrArg (fun l => some (Blk.arr 3 1 Int 0 (fun n => [.int .i64 n]) l)) (by first | exact congrArg ringI (cycN_no hc0) | exact (ringI_snoc _ _).trans (congrArg ringI (cycN_yes hc1)))), trivial⟩)⟩
      · try simp only [decide_eq_true_eq, decide_eq_false_iff_not, Bool.and_eq_true, Bool.or_eq_true, Bool.and_eq_false_iff, Bool.or_eq_false_iff, Bool.not_eq_true', Bool.not_eq_false', Bool.not_eq_true, Bool.not_eq_false, Bool.true_eq_false, Bool.false_eq_true] at h
        obtain rfl : i = W.length := by omega
        have hcc := cyc_close hfg
        have hNin : ∀ x, x ∈ (cycN (fR W gone) W.length gone W.length) → x < W.length ∧ gone.getD x false = false := fun x hx => ⟨(cyc_iff.1 (cycN_mem.1 hx)).1, (cyc_iff.1 (cycN_mem.1 hx)).2.1⟩
        have hnd : ((cycN (fR W gone) W.length gone W.length)).Nodup := cycN_nodup
        have hnl := cycN_le (f := (fR W gone)) (n := W.length) (gone := gone) W.length
        refine awp_exit ?_
        refine awp_seq ?_
        refine awp_seq ?_
        refine awp_region rfl (.n (fun _ => op_assign (.plain rfl)) (.nil _)) ?_
        refine awp_block ?_
        refine awp_loop (σ := Nat) (fun (j : Nat) => j ≤ ((cycN (fR W gone) W.length gone W.length)).length) (fun (j : Nat) => ⟨[(0, .pv (.rows W)), (5, .int (W.length : Nat)), (6, .own 1006), (7, .own 1007), (8, .int (leftN W.length gone : Nat)), (9, .own 1009), (13, .int (j : Nat))], [(1006, .arr 3 1 Int 0 (fun n => [.int .i64 n]) (gotTo W gone got (sel (cycN (fR W gone) W.length gone W.length) j))), (1007, .arr 4 1 Bool false (fun b => [.bool b]) (gone)), (1009, .arr 3 1 Int 0 (fun n => [.int .i64 n]) (ringI (cycN (fR W gone) W.length gone W.length)))]⟩) (fun (j : Nat) => ((cycN (fR W gone) W.length gone W.length)).length - j) 0 ?_ (Ent.kept ⟨rfl, rfl, rfl, rfl, rfl, rfl, rfl, trivial⟩ ⟨(congrArg (fun l => some (Blk.arr 3 1 Int 0 (fun n => [.int .i64 n]) l)) (gotTo_zero hR.2.1)), rfl, rfl, trivial⟩) ?_
        · simp
        rintro j hp
        try dsimp only at hp
        refine awp_seq ?_
        refine awp_seq ?_
        refine awp_region rfl (.n (fun _ => op_move (.plain rfl)) (.n (fun _ => op_move (.plain rfl)) (.r (op_lenO Try.underlying23 (.plain rfl) rfl) (.n (fun _ => op_lss (.plain rfl) (.plain rfl)) (.nil _))))) ?_
        refine awp_cond rfl (fun h => ?_) (fun h => ?_)
        · try simp only [decide_eq_true_eq, decide_eq_false_iff_not, Bool.and_eq_true, Bool.or_eq_true, Bool.and_eq_false_iff, Bool.or_eq_false_iff, Bool.not_eq_true', Bool.not_eq_false', Bool.not_eq_true, Bool.not_eq_false, Bool.true_eq_false, Bool.false_eq_true] at h
          have hj2 : j < ((cycN (fR W gone) W.length gone W.length)).length := by simpa using h
          have hrj := ringI_getD hj2
          have hin := hNin _ (natD_mem hj2)
          refine awp_skip ?_
          refine awp_seq ?_
          refine awp_block ?_
          refine awp_region_draw mixed rfl (.n (fun _ => op_move (.plain rfl)) (.n (fun _ => op_move (.plain rfl)) (.n (fun _ => op_move (.plain rfl)) (.r (op_indexAddrON Try.underlying23 Try.sizeOf3 (.plain rfl) rfl (.plain rfl) ?_) (.r (op_loadE Try.isAgg3 (.plain rfl) rfl (fun _ => rfl) ?_ rfl) (.n (fun _ => op_move (.plain rfl)) (.n (fun _ => op_move (.plain rfl)) (.n (fun _ => op_move (.plain rfl)) (.r (op_indexAddrON Try.underlying23 Try.sizeOf3 (.plain rfl) rfl (.plain rfl) ?_) (.r (op_loadE Try.isAgg3 (.plain rfl) rfl (fun _ => rfl) ?_ rfl) (.n (fun _ => op_indexAddr Try.underlying22 Try.sizeOf23 (.plain rfl) (.plain rfl) (fun _ => rfl) ?_) (.n (fun _ => op_load Try.isAgg23 (.plain rfl)) (.n (fun _ => op_move (.plain rfl)) (.r (op_callL (vals := [_, _]) Try.call35 ⟨⟨_, (.plain rfl), rfl⟩, ⟨_, (.plain rfl), rfl⟩, trivial⟩ (bestLeft_fc _ _ ?_) rfl) (.r (op_indexAddrO Try.underlying23 Try.sizeOf3 (.plain rfl) rfl (.plain rfl) ?_) (.e (op_storeE _ Try.sizeOf3 (.plain rfl) (.plain rfl) rfl (fun _ => rfl) ?_ (by decide) rfl rfl) rfl (.nil _))))))))))))))))) ?d1 ?_
          · first | omega | (simp; omega)
          · first | omega | (simp; omega)
          · first | omega | (simp; omega)
          · first | omega | (simp; omega)
          · rw [hrj]; have := hin.1; omega
          · rw [hrj, hgl]; exact ord_ins (mayE_row hW hin.1)
          · rw [hrj]; simp only [gotTo, mapr_length]; have := hin.1; omega
          · rw [hrj]; simp only [gotTo, mapr_length, Int.toNat_natCast]; exact hin.1
          · kernel_rfl
          refine awp_region rfl (.n (fun _ => op_move (.plain rfl)) (.n (fun _ => op_add (.plain rfl) (.plain rfl) ?_) (.n (fun _ => op_assign (.plain rfl)) (.nil _)))) ?_
          · unfold InR; omega
          exact ⟨j + 1, by omega, by dsimp only; omega, (Ent.kept ⟨rfl, rfl, rfl, rfl, rfl, rfl, rfl, trivial⟩ ⟨(congrArg (fun l => some (Blk.arr 3 1 Int 0 (fun n => [.int .i64 n]) l)) (by rw [hrj, Int.toNat_natCast]; exact gotTo_set hj2)), rfl, rfl, trivial⟩)⟩
        · try simp only [decide_eq_true_eq, decide_eq_false_iff_not, Bool.and_eq_true, Bool.or_eq_true, Bool.and_eq_false_iff, Bool.or_eq_false_iff, Bool.not_eq_true', Bool.not_eq_false', Bool.not_eq_true, Bool.not_eq_false, Bool.true_eq_false, Bool.false_eq_true] at h
          have hjl : j = ((cycN (fR W gone) W.length gone W.length)).length := by rw [ringI_length] at h; omega
          subst hjl
          refine awp_exit ?_
          refine awp_seq ?_
          refine awp_region rfl (.n (fun _ => op_assign (.plain rfl)) (.nil _)) ?_
          refine awp_block ?_
          refine awp_loop (σ := Nat) (fun (j : Nat) => j ≤ ((cycN (fR W gone) W.length gone W.length)).length) (fun (j : Nat) => ⟨[(0, .pv (.rows W)), (5, .int (W.length : Nat)), (6, .own 1006), (7, .own 1007), (8, .int (leftN W.length (goneTo W.length gone (sel (cycN (fR W gone) W.length gone W.length) j)) : Nat)), (9, .own 1009), (14, .int (j : Nat))], [(1006, .arr 3 1 Int 0 (fun n => [.int .i64 n]) (gotTo W gone got (sel (cycN (fR W gone) W.length gone W.length) ((cycN (fR W gone) W.length gone W.length)).length))), (1007, .arr 4 1 Bool false (fun b => [.bool b]) (goneTo W.length gone (sel (cycN (fR W gone) W.length gone W.length) j))), (1009, .arr 3 1 Int 0 (fun n => [.int .i64 n]) (ringI (cycN (fR W gone) W.length gone W.length)))]⟩) (fun (j : Nat) => ((cycN (fR W gone) W.length gone W.length)).length - j) 0 ?_ (Ent.kept ⟨rfl, rfl, rfl, rfl, (congrArg (fun n => some (SV.int n)) (by have := leftN_sel hnd hNin 0 (Nat.zero_le _); omega)), rfl, rfl, trivial⟩ ⟨rfl, (congrArg (fun l => some (Blk.arr 4 1 Bool false (fun b => [.bool b]) l)) (goneTo_zero hR.1)), rfl, trivial⟩) ?_
          · simp
          rintro j hp
          try dsimp only at hp
          refine awp_seq ?_
          refine awp_seq ?_
          refine awp_region rfl (.n (fun _ => op_move (.plain rfl)) (.n (fun _ => op_move (.plain rfl)) (.r (op_lenO Try.underlying23 (.plain rfl) rfl) (.n (fun _ => op_lss (.plain rfl) (.plain rfl)) (.nil _))))) ?_
          refine awp_cond rfl (fun h => ?_) (fun h => ?_)
          · try simp only [decide_eq_true_eq, decide_eq_false_iff_not, Bool.and_eq_true, Bool.or_eq_true, Bool.and_eq_false_iff, Bool.or_eq_false_iff, Bool.not_eq_true', Bool.not_eq_false', Bool.not_eq_true, Bool.not_eq_false, Bool.true_eq_false, Bool.false_eq_true] at h
            have hj2 : j < ((cycN (fR W gone) W.length gone W.length)).length := by simpa using h
            have hrj := ringI_getD hj2
            have hin := hNin _ (natD_mem hj2)
            refine awp_skip ?_
            refine awp_seq ?_
            refine awp_block ?_
            refine awp_seq ?_
            refine awp_region rfl (.n (fun _ => op_move (.plain rfl)) (.n (fun _ => op_move (.plain rfl)) (.n (fun _ => op_move (.plain rfl)) (.r (op_indexAddrON Try.underlying23 Try.sizeOf3 (.plain rfl) rfl (.plain rfl) ?_) (.r (op_loadE Try.isAgg3 (.plain rfl) rfl (fun _ => rfl) ?_ rfl) (.r (op_indexAddrO Try.underlying45 Try.sizeOf4 (.plain rfl) rfl (.plain rfl) ?_) (.e (op_storeE _ Try.sizeOf4 (.plain rfl) (.plain rfl) rfl (fun _ => rfl) ?_ (by decide) rfl rfl) rfl (.nil _)))))))) ?_
            · first | omega | (simp; omega)
            · first | omega | (simp; omega)
            · rw [hrj]; simp only [goneTo, mapr_length]; have := hin.1; omega
            · rw [hrj]; simp only [goneTo, mapr_length, Int.toNat_natCast]; exact hin.1
            refine awp_region rfl (.n (fun _ => op_move (.plain rfl)) (.n (fun _ => op_sub (.plain rfl) (.plain rfl) ?_) (.n (fun _ => op_assign (.plain rfl)) (.nil _)))) ?_
            · have := leftN_le W.length (goneTo W.length gone (sel (cycN (fR W gone) W.length gone W.length) j)); unfold InR; omega
            refine awp_region rfl (.n (fun _ => op_move (.plain rfl)) (.n (fun _ => op_add (.plain rfl) (.plain rfl) ?_) (.n (fun _ => op_assign (.plain rfl)) (.nil _)))) ?_
            · unfold InR; omega
            exact ⟨j + 1, by omega, by dsimp only; omega, (Ent.kept ⟨rfl, rfl, rfl, rfl, (congrArg (fun n => some (SV.int n)) (by have h1 := leftN_sel hnd hNin j (by omega); have h2 := leftN_sel hnd hNin (j + 1) (by omega); omega)), rfl, rfl, trivial⟩ ⟨rfl, (congrArg (fun l => some (Blk.arr 4 1 Bool false (fun b => [.bool b]) l)) (by rw [hrj, Int.toNat_natCast]; exact goneTo_set hj2)), rfl, trivial⟩)⟩
          · try simp only [decide_eq_true_eq, decide_eq_false_iff_not, Bool.and_eq_true, Bool.or_eq_true, Bool.and_eq_false_iff, Bool.or_eq_false_iff, Bool.not_eq_true', Bool.not_eq_false', Bool.not_eq_true, Bool.not_eq_false, Bool.true_eq_false, Bool.false_eq_true] at h
            have hjl : j = ((cycN (fR W gone) W.length gone W.length)).length := by rw [ringI_length] at h; omega
            subst hjl
            refine awp_exit ?_
            exact ⟨(gotTo W gone got (sel (cycN (fR W gone) W.length gone W.length) ((cycN (fR W gone) W.length gone W.length)).length), goneTo W.length gone (sel (cycN (fR W gone) W.length gone W.length) ((cycN (fR W gone) W.length gone W.length)).length)), hR.ringN hW hpos hNin (fun x hx => cycN_mem.2 (hcc.1 x (cycN_mem.1 hx))) (fun x y hx hy => hcc.2 x y (cycN_mem.1 hx) (cycN_mem.1 hy)), left_lessN hpos hNin, (Ent.kept ⟨rfl, rfl, rfl, rfl, rfl, trivial⟩ ⟨rfl, rfl, trivial⟩)⟩
    · try simp only [decide_eq_true_eq, decide_eq_false_iff_not, Bool.and_eq_true, Bool.or_eq_true, Bool.and_eq_false_iff, Bool.or_eq_false_iff, Bool.not_eq_true', Bool.not_eq_false', Bool.not_eq_true, Bool.not_eq_false, Bool.true_eq_false, Bool.false_eq_true] at h
      have hdone := hR.done (leftN_zero.1 (by omega))
      refine awp_exit ?_
      refine awp_seq ?_
      refine awp_region rfl (.n (fun _ => op_move (.plain rfl)) (.n (fun _ => op_assign (.plain rfl)) (.n (fun _ => op_assign (.plain rfl)) (.nil _)))) ?_
      refine awp_ret ?_
      refine retQ.ret ?_
      refine ret2 rfl rfl rfl rfl rfl ?_
      rw [if_pos hW, hW, ← hdone]

set_option maxRecDepth 1000000 in
set_option maxHeartbeats 4000000 in
theorem Turns_fc (W : List (List Int)) (turn : List Int) : FC Try.prog 15 [.rows W, .ints turn] (.tup [.ints (if turnsE W turn = 0 then (tS W turn W.length).1 else []), .i (turnsE W turn)]) := by
  refine FC.intro Try.func15 rfl (Nat.le_of_ble_eq_true rfl) fun hfit => ?_
  obtain ⟨fitl0, fitr0⟩ := (hfit _ (.head _)).rows
  obtain ⟨fitl1, fitr1⟩ := (hfit _ (.tail _ (.head _))).ints
  refine awp_seq ?_
  refine awp_region rfl (.n (fun _ => op_assign (.plain rfl)) (.n (fun _ => op_assign (.plain rfl)) (.nil _))) ?_
  refine awp_seq ?_
  refine awp_seq ?_
  refine awp_region rfl (.n (fun _ => op_move (.plain rfl)) (.n (fun _ => op_call1 Try.call13 (.plain rfl) (May_fc _)) (.n (fun _ => op_assign (.plain rfl)) (.nil _)))) ?_
  refine awp_seq ?_
  refine awp_region rfl (.n (fun _ => op_move (.plain rfl)) (.n (fun _ => op_neq (.plain rfl) (.plain rfl)) (.nil _))) ?_
  refine awp_cond rfl (fun h => ?_) (fun h => ?_)
  · try simp only [decide_eq_true_eq, decide_eq_false_iff_not, Bool.and_eq_true, Bool.or_eq_true, Bool.and_eq_false_iff, Bool.or_eq_false_iff, Bool.not_eq_true', Bool.not_eq_false', Bool.not_eq_true, Bool.not_eq_false, Bool.true_eq_false, Bool.false_eq_true] at h
    have hE : turnsE W turn = mayE W := if_pos h
    refine awp_seq ?_
    refine awp_region rfl (.n (fun _ => op_move (.plain rfl)) (.n (fun _ => op_assign (.plain rfl)) (.n (fun _ => op_assign (.plain rfl)) (.nil _)))) ?_
    refine awp_ent (Ent.nilseq 4 Int 0 (fun n => [.int .i64 n]) rfl) ?_
    refine awp_ret ?_
    refine retQ.ret ?_
    refine ret2 rfl rfl rfl rfl rfl ?_
    rw [if_neg (by omega), hE]
  · try simp only [decide_eq_true_eq, decide_eq_false_iff_not, Bool.and_eq_true, Bool.or_eq_true, Bool.and_eq_false_iff, Bool.or_eq_false_iff, Bool.not_eq_true', Bool.not_eq_false', Bool.not_eq_true, Bool.not_eq_false, Bool.true_eq_false, Bool.false_eq_true] at h
    have hW := h
    have hn6 := mayE_len hW
    refine awp_skip ?_
    refine awp_seq ?_
    refine awp_seq ?_
    refine awp_region rfl (.n (fun _ => op_move (.plain rfl)) (.n (fun _ => op_move (.plain rfl)) (.n (fun _ => op_len (s := 0) Try.underlying22 (.plain rfl)) (.n (fun _ => op_call2 Try.call25 (.plain rfl) (.plain rfl) (order_fc _ _)) (.n (fun _ => op_assign (.plain rfl)) (.nil _)))))) ?_
    refine awp_seq ?_
    refine awp_region rfl (.n (fun _ => op_move (.plain rfl)) (.n (fun _ => op_neq (.plain rfl) (.plain rfl)) (.nil _))) ?_
    refine awp_cond rfl (fun h => ?_) (fun h => ?_)
    · try simp only [decide_eq_true_eq, decide_eq_false_iff_not, Bool.and_eq_true, Bool.or_eq_true, Bool.and_eq_false_iff, Bool.or_eq_false_iff, Bool.not_eq_true', Bool.not_eq_false', Bool.not_eq_true, Bool.not_eq_false, Bool.true_eq_false, Bool.false_eq_true] at h
      have hE : turnsE W turn = ordE W.length turn := if_neg (fun c => c hW)
      refine awp_seq ?_
      refine awp_region rfl (.n (fun _ => op_move (.plain rfl)) (.n (fun _ => op_assign (.plain rfl)) (.n (fun _ => op_assign (.plain rfl)) (.nil _)))) ?_
      refine awp_ent (Ent.nilseq 4 Int 0 (fun n => [.int .i64 n]) rfl) ?_
      refine awp_ret ?_
      refine retQ.ret ?_
      refine ret2 rfl rfl rfl rfl rfl ?_
      rw [if_neg (by omega), hE]
    · try simp only [decide_eq_true_eq, decide_eq_false_iff_not, Bool.and_eq_true, Bool.or_eq_true, Bool.and_eq_false_iff, Bool.or_eq_false_iff, Bool.not_eq_true', Bool.not_eq_false', Bool.not_eq_true, Bool.not_eq_false, Bool.true_eq_false, Bool.false_eq_true] at h
      have ht := h
      have htl := (ord_some ht).1
      have hE : turnsE W turn = 0 := by unfold turnsE; rw [if_neg (fun c => c hW), ht]
      refine awp_skip ?_
      refine awp_seq ?_
      refine awp_region_draw mixed rfl (.n (fun _ => op_move (.plain rfl)) (.n (fun _ => op_len (s := 0) Try.underlying22 (.plain rfl)) (.a (fun _ hm => op_make (α := Int) (d := 0) (f := (fun n => [.int .i64 n])) 26 0 ety23 (.plain rfl) (.plain rfl) (fun _ => rfl) rfl hm ?_) rfl (fun _ => rfl) rfl (.n (fun _ => op_move (.plain rfl)) (.n (fun _ => op_len (s := 0) Try.underlying22 (.plain rfl)) (.a (fun _ hm => op_make (α := Bool) (d := false) (f := (fun b => [.bool b])) 29 false ety45 (.plain rfl) (.plain rfl) (fun _ => rfl) rfl hm ?_) rfl (fun _ => rfl) rfl (.n (fun _ => op_assign (.plain rfl)) (.n (fun _ => op_assign (.plain rfl)) (.nil _))))))))) ?d2 ?_
      · omega
      · omega
      · kernel_rfl
      refine awp_seq ?_
      refine awp_seq ?_
      refine awp_region rfl (.n (fun _ => op_move (.plain rfl)) (.n (fun _ => op_len (s := 0) Try.underlying23 (.plain rfl)) (.n (fun _ => op_move (.plain rfl)) (.nil _)))) ?_
      refine awp_block ?_
      refine awp_ent (Ent.ren 26 1008 rfl rfl rfl) ?_
      refine awp_ent (Ent.ren 29 1009 rfl rfl rfl) ?_
      refine awp_loop (σ := Nat) (fun (j : Nat) => j ≤ W.length) (fun (j : Nat) => ⟨[(0, .pv (.rows W)), (8, .own 1008), (9, .own 1009), (30, .pv (.ints turn)), (31, .int (turn.length : Nat)), (32, .int (j : Nat))], [(1008, .arr 3 1 Int 0 (fun n => [.int .i64 n]) ((tS W turn j).1)), (1009, .arr 4 1 Bool false (fun b => [.bool b]) ((tS W turn j).2))]⟩) (fun (j : Nat) => W.length - j) 0 ?_ (Ent.kept ⟨rfl, rfl, rfl, rfl, rfl, rfl, trivial⟩ ⟨rfl, rfl, trivial⟩) ?_
      · simp
      rintro j hp
      try dsimp only at hp
      refine awp_seq ?_
      refine awp_region rfl (.n (fun _ => op_lss (.plain rfl) (.plain rfl)) (.nil _)) ?_
      refine awp_seq ?_
      refine awp_cond rfl (fun h => ?_) (fun h => ?_)
      · try simp only [decide_eq_true_eq, decide_eq_false_iff_not, Bool.and_eq_true, Bool.or_eq_true, Bool.and_eq_false_iff, Bool.or_eq_false_iff, Bool.not_eq_true', Bool.not_eq_false', Bool.not_eq_true, Bool.not_eq_false, Bool.true_eq_false, Bool.false_eq_true] at h
        have hg := tS_good hW ht (show j < W.length by omega)
        have hl := tS_len W turn j
        refine awp_skip ?_
        refine awp_seq ?_
        refine awp_block ?_
        refine awp_seq ?_
        refine awp_region rfl (.n (fun _ => op_indexAddrN Try.underlying23 Try.sizeOf3 (.plain rfl) (.plain rfl) (fun _ => rfl) ?_) (.n (fun _ => op_load Try.isAgg3 (.plain rfl)) (.n (fun _ => op_assign (.plain rfl)) (.nil _)))) ?_
        · omega
        refine awp_seq ?_
        refine awp_region rfl (.n (fun _ => op_move (.plain rfl)) (.n (fun _ => op_move (.plain rfl)) (.n (fun _ => op_move (.plain rfl)) (.n (fun _ => op_move (.plain rfl)) (.n (fun _ => op_indexAddr Try.underlying22 Try.sizeOf23 (.plain rfl) (.plain rfl) (fun _ => rfl) ?_) (.n (fun _ => op_load Try.isAgg23 (.plain rfl)) (.n (fun _ => op_move (.plain rfl)) (.r (op_callL (vals := [_, _]) Try.call33 ⟨⟨_, (.plain rfl), rfl⟩, ⟨_, (.plain rfl), rfl⟩, trivial⟩ (best_fc _ _ ?_ ?_) rfl) (.r (op_indexAddrO Try.underlying23 Try.sizeOf3 (.plain rfl) rfl (.plain rfl) ?_) (.e (op_storeE _ Try.sizeOf3 (.plain rfl) (.plain rfl) rfl (fun _ => rfl) ?_ (by decide) rfl rfl) rfl (.nil _))))))))))) ?_
        · omega
        · rw [hl.2]; exact ord_ins (mayE_row hW (by omega))
        · exact hg.2.1
        · omega
        · omega
        refine awp_region rfl (.n (fun _ => op_move (.plain rfl)) (.n (fun _ => op_move (.plain rfl)) (.n (fun _ => op_move (.plain rfl)) (.r (op_indexAddrO Try.underlying23 Try.sizeOf3 (.plain rfl) rfl (.plain rfl) ?_) (.r (op_loadE Try.isAgg3 (.plain rfl) rfl (fun _ => rfl) ?_ rfl) (.r (op_indexAddrO Try.underlying45 Try.sizeOf4 (.plain rfl) rfl (.plain rfl) ?_) (.e (op_storeE _ Try.sizeOf4 (.plain rfl) (.plain rfl) rfl (fun _ => rfl) ?_ (by decide) rfl rfl) rfl (.nil _)))))))) ?_
        · simp only [List.length_set]; omega
        · simp only [List.length_set]; omega
        · rw [getD_set_self (by omega)]; omega
        · rw [getD_set_self (by omega)]; omega
        refine awp_region rfl (.n (fun _ => op_add (.plain rfl) (.plain rfl) ?_) (.n (fun _ => op_move (.plain rfl)) (.nil _))) ?_
        · unfold InR; omega
        exact ⟨j + 1, by omega, by dsimp only; omega, (Ent.kept ⟨rfl, rfl, rfl, rfl, rfl, rfl, trivial⟩ ⟨rfl, (congrArg (fun l => some (Blk.arr 4 1 Bool false (fun b => [.bool b]) l)) (by rw [getD_set_self (by omega)]; rfl)), trivial⟩)⟩
      · try simp only [decide_eq_true_eq, decide_eq_false_iff_not, Bool.and_eq_true, Bool.or_eq_true, Bool.and_eq_false_iff, Bool.or_eq_false_iff, Bool.not_eq_true', Bool.not_eq_false', Bool.not_eq_true, Bool.not_eq_false, Bool.true_eq_false, Bool.false_eq_true] at h
        obtain rfl : j = W.length := by omega
        refine awp_exit ?_
        refine awp_seq ?_
        refine awp_region rfl (.n (fun _ => op_move (.plain rfl)) (.n (fun _ => op_assign (.plain rfl)) (.n (fun _ => op_assign (.plain rfl)) (.nil _)))) ?_
        refine awp_ret ?_
        refine retQ.ret ?_
        refine ret2 rfl rfl rfl rfl rfl ?_
        rw [if_pos hE, hE]

set_option maxRecDepth 1000000 in
set_option maxHeartbeats 4000000 in
theorem RTurns_fc (W : List (List Int)) (turn : List Int) : FC Try.prog 16 [.rows W, .ints turn] (.tup [.ints (if turnsE W turn = 0 then (tS W turn W.length).1 else []), .i (turnsE W turn)]) := by
  refine FC.intro Try.func16 rfl (Nat.le_of_ble_eq_true rfl) fun hfit => ?_
  obtain ⟨fitl0, fitr0⟩ := (hfit _ (.head _)).rows
  obtain ⟨fitl1, fitr1⟩ := (hfit _ (.tail _ (.head _))).ints
  refine awp_seq ?_
  refine awp_region rfl (.n (fun _ => op_assign (.plain rfl)) (.n (fun _ => op_assign (.plain rfl)) (.nil _))) ?_
  refine awp_seq ?_
  refine awp_region rfl (.n (fun _ => op_move (.plain rfl)) (.n (fun _ => op_call1 Try.call14 (.plain rfl) (TradeMay_fc _)) (.n (fun _ => op_assign (.plain rfl)) (.nil _)))) ?_
  refine awp_seq ?_
  refine awp_seq ?_
  refine awp_region rfl (.n (fun _ => op_move (.plain rfl)) (.n (fun _ => op_neq (.plain rfl) (.plain rfl)) (.nil _))) ?_
  refine awp_cond rfl (fun h => ?_) (fun h => ?_)
  · try simp only [decide_eq_true_eq, decide_eq_false_iff_not, Bool.and_eq_true, Bool.or_eq_true, Bool.and_eq_false_iff, Bool.or_eq_false_iff, Bool.not_eq_true', Bool.not_eq_false', Bool.not_eq_true, Bool.not_eq_false, Bool.true_eq_false, Bool.false_eq_true] at h
    have hE : turnsE W turn = mayE W := if_pos h
    refine awp_seq ?_
    refine awp_region rfl (.n (fun _ => op_move (.plain rfl)) (.n (fun _ => op_assign (.plain rfl)) (.n (fun _ => op_assign (.plain rfl)) (.nil _)))) ?_
    refine awp_ent (Ent.nilseq 4 Int 0 (fun n => [.int .i64 n]) rfl) ?_
    refine awp_ret ?_
    refine retQ.ret ?_
    refine ret2 rfl rfl rfl rfl rfl ?_
    rw [if_neg (by omega), hE]
  · try simp only [decide_eq_true_eq, decide_eq_false_iff_not, Bool.and_eq_true, Bool.or_eq_true, Bool.and_eq_false_iff, Bool.or_eq_false_iff, Bool.not_eq_true', Bool.not_eq_false', Bool.not_eq_true, Bool.not_eq_false, Bool.true_eq_false, Bool.false_eq_true] at h
    have hW := h
    have hn6 := mayE_len hW
    refine awp_skip ?_
    refine awp_seq ?_
    refine awp_region rfl (.n (fun _ => op_move (.plain rfl)) (.n (fun _ => op_move (.plain rfl)) (.n (fun _ => op_len (s := 0) Try.underlying22 (.plain rfl)) (.n (fun _ => op_call2 Try.call30 (.plain rfl) (.plain rfl) (OrderOf_fc _ _)) (.n (fun _ => op_assign (.plain rfl)) (.nil _)))))) ?_
    refine awp_seq ?_
    refine awp_seq ?_
    refine awp_region rfl (.n (fun _ => op_move (.plain rfl)) (.n (fun _ => op_neq (.plain rfl) (.plain rfl)) (.nil _))) ?_
    refine awp_cond rfl (fun h => ?_) (fun h => ?_)
    · try simp only [decide_eq_true_eq, decide_eq_false_iff_not, Bool.and_eq_true, Bool.or_eq_true, Bool.and_eq_false_iff, Bool.or_eq_false_iff, Bool.not_eq_true', Bool.not_eq_false', Bool.not_eq_true, Bool.not_eq_false, Bool.true_eq_false, Bool.false_eq_true] at h
      have hE : turnsE W turn = ordE W.length turn := if_neg (fun c => c hW)
      refine awp_seq ?_
      refine awp_region rfl (.n (fun _ => op_move (.plain rfl)) (.n (fun _ => op_assign (.plain rfl)) (.n (fun _ => op_assign (.plain rfl)) (.nil _)))) ?_
      refine awp_ent (Ent.nilseq 4 Int 0 (fun n => [.int .i64 n]) rfl) ?_
      refine awp_ret ?_
      refine retQ.ret ?_
      refine ret2 rfl rfl rfl rfl rfl ?_
      rw [if_neg (by omega), hE]
    · try simp only [decide_eq_true_eq, decide_eq_false_iff_not, Bool.and_eq_true, Bool.or_eq_true, Bool.and_eq_false_iff, Bool.or_eq_false_iff, Bool.not_eq_true', Bool.not_eq_false', Bool.not_eq_true, Bool.not_eq_false, Bool.true_eq_false, Bool.false_eq_true] at h
      have ht := h
      have htl := (ord_some ht).1
      have hE : turnsE W turn = 0 := by unfold turnsE; rw [if_neg (fun c => c hW), ht]
      refine awp_skip ?_
      refine awp_seq ?_
      refine awp_region rfl (.n (fun _ => op_move (.plain rfl)) (.n (fun _ => op_len (s := 0) Try.underlying22 (.plain rfl)) (.e (op_make (α := Int) (d := 0) (f := (fun n => [.int .i64 n])) 24 0 ety23 (.plain rfl) (.plain rfl) (fun _ => rfl) rfl rfl ?_) rfl (.n (fun _ => op_assign (.plain rfl)) (.nil _))))) ?_
      · omega
      refine awp_seq ?_
      refine awp_region rfl (.n (fun _ => op_move (.plain rfl)) (.n (fun _ => op_len (s := 0) Try.underlying22 (.plain rfl)) (.e (op_make (α := Bool) (d := false) (f := (fun b => [.bool b])) 27 false ety45 (.plain rfl) (.plain rfl) (fun _ => rfl) rfl rfl ?_) rfl (.n (fun _ => op_assign (.plain rfl)) (.nil _))))) ?_
      · omega
      refine awp_seq ?_
      refine awp_seq ?_
      refine awp_region rfl (.n (fun _ => op_assign (.plain rfl)) (.nil _)) ?_
      refine awp_block ?_
      refine awp_ent (Ent.ren 24 1008 rfl rfl rfl) ?_
      refine awp_ent (Ent.ren 27 1009 rfl rfl rfl) ?_
      refine awp_loop (σ := Nat) (fun (j : Nat) => j ≤ W.length) (fun (j : Nat) => ⟨[(0, .pv (.rows W)), (1, .pv (.ints turn)), (7, .own 1008), (8, .own 1009), (9, .int (j : Nat))], [(1008, .arr 3 1 Int 0 (fun n => [.int .i64 n]) ((tS W turn j).1)), (1009, .arr 4 1 Bool false (fun b => [.bool b]) ((tS W turn j).2))]⟩) (fun (j : Nat) => W.length - j) 0 ?_ (Ent.kept ⟨rfl, rfl, rfl, rfl, rfl, trivial⟩ ⟨rfl, rfl, trivial⟩) ?_
      · simp
      rintro j hp
      try dsimp only at hp
      refine awp_seq ?_
      refine awp_seq ?_
      refine awp_region rfl (.n (fun _ => op_move (.plain rfl)) (.n (fun _ => op_move (.plain rfl)) (.n (fun _ => op_len (s := 0) Try.underlying23 (.plain rfl)) (.n (fun _ => op_lss (.plain rfl) (.plain rfl)) (.nil _))))) ?_
      refine awp_cond rfl (fun h => ?_) (fun h => ?_)
      · try simp only [decide_eq_true_eq, decide_eq_false_iff_not, Bool.and_eq_true, Bool.or_eq_true, Bool.and_eq_false_iff, Bool.or_eq_false_iff, Bool.not_eq_true', Bool.not_eq_false', Bool.not_eq_true, Bool.not_eq_false, Bool.true_eq_false, Bool.false_eq_true] at h
        have hg := tS_good hW ht (show j < W.length by omega)
        have hl := tS_len W turn j
        refine awp_skip ?_
        refine awp_seq ?_
        refine awp_block ?_
        refine awp_seq ?_
        refine awp_region_draw mixed rfl (.n (fun _ => op_move (.plain rfl)) (.n (fun _ => op_move (.plain rfl)) (.n (fun _ => op_move (.plain rfl)) (.n (fun _ => op_indexAddrN Try.underlying23 Try.sizeOf3 (.plain rfl) (.plain rfl) (fun _ => rfl) ?_) (.n (fun _ => op_load Try.isAgg3 (.plain rfl)) (.n (fun _ => op_move (.plain rfl)) (.n (fun _ => op_move (.plain rfl)) (.n (fun _ => op_move (.plain rfl)) (.n (fun _ => op_indexAddrN Try.underlying23 Try.sizeOf3 (.plain rfl) (.plain rfl) (fun _ => rfl) ?_) (.n (fun _ => op_load Try.isAgg3 (.plain rfl)) (.n (fun _ => op_indexAddr Try.underlying22 Try.sizeOf23 (.plain rfl) (.plain rfl) (fun _ => rfl) ?_) (.n (fun _ => op_load Try.isAgg23 (.plain rfl)) (.n (fun _ => op_move (.plain rfl)) (.r (op_callL (vals := [_, _]) Try.call35 ⟨⟨_, (.plain rfl), rfl⟩, ⟨_, (.plain rfl), rfl⟩, trivial⟩ (bestLeft_fc _ _ ?_) rfl) (.r (op_indexAddrO Try.underlying23 Try.sizeOf3 (.plain rfl) rfl (.plain rfl) ?_) (.e (op_storeE _ Try.sizeOf3 (.plain rfl) (.plain rfl) rfl (fun _ => rfl) ?_ (by decide) rfl rfl) rfl (.nil _))))))))))))))))) ?d3 ?_
        · omega
        · omega
        · omega
        · rw [hl.2]; exact ord_ins (mayE_row hW (by omega))
        · omega
        · omega
        · kernel_rfl
        refine awp_region rfl (.n (fun _ => op_move (.plain rfl)) (.n (fun _ => op_move (.plain rfl)) (.n (fun _ => op_move (.plain rfl)) (.n (fun _ => op_move (.plain rfl)) (.n (fun _ => op_indexAddrN Try.underlying23 Try.sizeOf3 (.plain rfl) (.plain rfl) (fun _ => rfl) ?_) (.n (fun _ => op_load Try.isAgg3 (.plain rfl)) (.r (op_indexAddrO Try.underlying23 Try.sizeOf3 (.plain rfl) rfl (.plain rfl) ?_) (.r (op_loadE Try.isAgg3 (.plain rfl) rfl (fun _ => rfl) ?_ rfl) (.r (op_indexAddrO Try.underlying45 Try.sizeOf4 (.plain rfl) rfl (.plain rfl) ?_) (.e (op_storeE _ Try.sizeOf4 (.plain rfl) (.plain rfl) rfl (fun _ => rfl) ?_ (by decide) rfl rfl) rfl (.nil _))))))))))) ?_
        · omega
        · simp only [List.length_set]; omega
        · simp only [List.length_set]; omega
        · rw [getD_set_self (by omega)]; omega
        · rw [getD_set_self (by omega)]; omega
        refine awp_region rfl (.n (fun _ => op_move (.plain rfl)) (.n (fun _ => op_add (.plain rfl) (.plain rfl) ?_) (.n (fun _ => op_assign (.plain rfl)) (.nil _)))) ?_
        · unfold InR; omega
        exact ⟨j + 1, by omega, by dsimp only; omega, (Ent.kept ⟨rfl, rfl, rfl, rfl, rfl, trivial⟩ ⟨rfl, (congrArg (fun l => some (Blk.arr 4 1 Bool false (fun b => [.bool b]) l)) (by rw [getD_set_self (by omega)]; rfl)), trivial⟩)⟩
      · try simp only [decide_eq_true_eq, decide_eq_false_iff_not, Bool.and_eq_true, Bool.or_eq_true, Bool.and_eq_false_iff, Bool.or_eq_false_iff, Bool.not_eq_true', Bool.not_eq_false', Bool.not_eq_true, Bool.not_eq_false, Bool.true_eq_false, Bool.false_eq_true] at h
        obtain rfl : j = W.length := by omega
        refine awp_exit ?_
        refine awp_seq ?_
        refine awp_region rfl (.n (fun _ => op_move (.plain rfl)) (.n (fun _ => op_assign (.plain rfl)) (.n (fun _ => op_assign (.plain rfl)) (.nil _)))) ?_
        refine awp_ret ?_
        refine retQ.ret ?_
        refine ret2 rfl rfl rfl rfl rfl ?_
        rw [if_pos hE, hE]

end Go.Proofs.Ytnbponopcbgndaa

