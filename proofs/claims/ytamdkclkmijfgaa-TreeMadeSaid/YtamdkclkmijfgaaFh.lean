/- The game in which each chooses all its choices at once, by both ways: the walks. Conditions: each theorem names its own. -/
import Derived.Test.YtamdkclkmijfgaaProg
import Derived.Test.YtamdkclkmijfgaaFg
namespace Go.Proofs.Ytamdkclkmijfgaa
open Go.Abs
set_option linter.unusedVariables false
set_option linter.unusedSimpArgs false


theorem len_eq {a b : Nat} (h : a = b) : some (SV.int (a : Nat)) = some (SV.int (b : Nat)) := by rw [h]

theorem Normal_fc (P : Int) (N : List Nd) : FC Try.prog 35 [.agg [.i P, .seq (Int × List Int × List Int × Unit) (0, [], [], ()) (fun p => [.i p.1, .ints p.2.1, .ints p.2.2.1]) N]] (.tup [.agg [.rows (nmG P N 0), .rows (nmG P N 1)], .i (nmE P N)]) := by
  refine FC.intro Try.func35 rfl (Nat.le_of_ble_eq_true rfl) fun hfit => ?_
  have fit0 := hfit _ (.head _)
  refine awp_seq ?_
  refine awp_region rfl (.n (fun _ => op_box (.plain rfl) (by simp)) (.e (op_alloc 2 Try.zeroValue66 rfl rfl rfl) rfl (.n (fun _ => op_assign (.plain rfl)) (.nil _)))) ?_
  refine awp_seq ?_
  refine awp_seq ?_
  refine awp_region rfl (.n (fun _ => op_load_agg Try.isAgg24 Try.sizeOf24 (.plain rfl) (Nat.le_of_ble_eq_true rfl)) (.n (fun _ => op_call1 Try.call11 (.plain rfl) (May_fc _ _)) (.n (fun _ => op_assign (.plain rfl)) (.nil _)))) ?_
  refine awp_seq ?_
  refine awp_region rfl (.n (fun _ => op_move (.plain rfl)) (.n (fun _ => op_neq (.plain rfl) (.plain rfl)) (.nil _))) ?_
  refine awp_cond rfl (fun h => ?_) (fun h => ?_)
  · (try simp only [decide_eq_true_eq, decide_eq_false_iff_not, Bool.and_eq_true, Bool.or_eq_true, Bool.and_eq_false_iff, Bool.or_eq_false_iff, Bool.not_eq_true', Bool.not_eq_false', Bool.not_eq_true, Bool.not_eq_false, Bool.true_eq_false, Bool.false_eq_true] at h); (try simp only [foldK, foldP, foldL] at h)
    have hM := h
    refine awp_seq ?_
    refine awp_region rfl (.n (fun _ => op_build (pp := []) (places := #[(0, 1), (1, 1)]) Try.underlying66 Try.zeroValue66 rfl (by intro w; kernel_rfl) trivial rfl) (.n (fun _ => op_move (.plain rfl)) (.e (op_storeRA Try.sizeOf66 (.plain rfl) (.plain rfl) rfl rfl (Nat.le_of_ble_eq_true rfl) rfl) rfl (.n (fun _ => op_assign (.plain rfl)) (.nil _))))) ?_
    refine awp_ent (Ent.beginB 2 0 7000 25 1 (List Int) [] (fun r => [.seq Int 0 (fun n => [.int .i64 n]) r]) rfl rfl (by decide) rfl rfl) ?_
    refine awp_ent (Ent.giveB 2 0 7000 rfl rfl rfl) ?_
    refine awp_ent (Ent.beginB 2 1 7001 25 1 (List Int) [] (fun r => [.seq Int 0 (fun n => [.int .i64 n]) r]) rfl rfl (by decide) rfl rfl) ?_
    refine awp_ent (Ent.giveB 2 1 7001 rfl rfl rfl) ?_
    refine awp_ret ?_
    refine retQ.ret ?_
    refine retC1 rfl rfl Try.isAgg66 Try.sizeOf66 rfl rfl ?_
    exact nm_err (nm_t hM) hM
  · (try simp only [decide_eq_true_eq, decide_eq_false_iff_not, Bool.and_eq_true, Bool.or_eq_true, Bool.and_eq_false_iff, Bool.or_eq_false_iff, Bool.not_eq_true', Bool.not_eq_false', Bool.not_eq_true, Bool.not_eq_false, Bool.true_eq_false, Bool.false_eq_true] at h); (try simp only [foldK, foldP, foldL] at h)
    have hM := h
    have hT := tr_of hM
    have hp1 := hT.p1
    have hp5 := hT.p5
    have hn1 := hT.n1
    have hn40 := hT.n40
    refine awp_skip ?_
    refine awp_seq ?_
    refine awp_seq ?_
    refine awp_region rfl (.n (fun _ => op_fieldAddr Try.underlying24 rfl rfl Try.sizeOf3 (.plain rfl)) (.n (fun _ => op_load Try.isAgg3 (.plain rfl)) (.n (fun _ => op_neq (.plain rfl) (.plain rfl)) (.nil _)))) ?_
    refine awp_cond rfl (fun h => ?_) (fun h => ?_)
    · (try simp only [decide_eq_true_eq, decide_eq_false_iff_not, Bool.and_eq_true, Bool.or_eq_true, Bool.and_eq_false_iff, Bool.or_eq_false_iff, Bool.not_eq_true', Bool.not_eq_false', Bool.not_eq_true, Bool.not_eq_false, Bool.true_eq_false, Bool.false_eq_true] at h); (try simp only [foldK, foldP, foldL] at h)
      have hP := h
      refine awp_seq ?_
      refine awp_region rfl (.n (fun _ => op_build (pp := []) (places := #[(0, 1), (1, 1)]) Try.underlying66 Try.zeroValue66 rfl (by intro w; kernel_rfl) trivial rfl) (.e (op_storeRA Try.sizeOf66 (.plain rfl) (.plain rfl) rfl rfl (Nat.le_of_ble_eq_true rfl) rfl) rfl (.n (fun _ => op_assign (.plain rfl)) (.nil _)))) ?_
      refine awp_ent (Ent.beginB 2 0 7000 25 1 (List Int) [] (fun r => [.seq Int 0 (fun n => [.int .i64 n]) r]) rfl rfl (by decide) rfl rfl) ?_
      refine awp_ent (Ent.giveB 2 0 7000 rfl rfl rfl) ?_
      refine awp_ent (Ent.beginB 2 1 7001 25 1 (List Int) [] (fun r => [.seq Int 0 (fun n => [.int .i64 n]) r]) rfl rfl (by decide) rfl rfl) ?_
      refine awp_ent (Ent.giveB 2 1 7001 rfl rfl rfl) ?_
      refine awp_ret ?_
      refine retQ.ret ?_
      refine retC1 rfl rfl Try.isAgg66 Try.sizeOf66 rfl rfl ?_
      exact nm_err (nm_7 hM hP) (by decide)
    · (try simp only [decide_eq_true_eq, decide_eq_false_iff_not, Bool.and_eq_true, Bool.or_eq_true, Bool.and_eq_false_iff, Bool.or_eq_false_iff, Bool.not_eq_true', Bool.not_eq_false', Bool.not_eq_true, Bool.not_eq_false, Bool.true_eq_false, Bool.false_eq_true] at h); (try simp only [foldK, foldP, foldL] at h)
      have hP : P = 2 := h
      refine awp_skip ?_
      refine awp_seq ?_
      refine awp_region rfl (.n (fun _ => op_load_agg Try.isAgg24 Try.sizeOf24 (.plain rfl) (Nat.le_of_ble_eq_true rfl)) (.n (fun _ => op_call2 Try.call43 (.plain rfl) (.plain rfl) (plans_fc _ _ ?_ _)) (.n (fun _ => op_move (.plain rfl)) (.n (fun _ => op_extract (.plain rfl) rfl) (.n (fun _ => op_extract (.plain rfl) rfl) (.n (fun _ => op_assign (.plain rfl)) (.n (fun _ => op_assign (.plain rfl)) (.nil _)))))))) ?_
      · (try simp only [foldK, foldP, foldL, Int.toNat_natCast])
        exact hT
      refine awp_seq ?_
      refine awp_region rfl (.n (fun _ => op_load_agg Try.isAgg24 Try.sizeOf24 (.plain rfl) (Nat.le_of_ble_eq_true rfl)) (.n (fun _ => op_call2 Try.call43 (.plain rfl) (.plain rfl) (plans_fc _ _ ?_ _)) (.n (fun _ => op_move (.plain rfl)) (.n (fun _ => op_extract (.plain rfl) rfl) (.n (fun _ => op_extract (.plain rfl) rfl) (.n (fun _ => op_assign (.plain rfl)) (.n (fun _ => op_assign (.plain rfl)) (.nil _)))))))) ?_
      · (try simp only [foldK, foldP, foldL, Int.toNat_natCast])
        exact hT
      refine awp_seq ?_
      refine awp_seq ?_
      refine awp_region rfl (.n (fun _ => op_move (.plain rfl)) (.n (fun _ => op_not (.plain rfl)) (.n (fun _ => op_move (.plain rfl)) (.gn rfl rfl (fun hg _ => op_move (.plain rfl)) (.gn rfl rfl (fun hg _ => op_not (.opt rfl fun h => h)) (.n (fun _ => op_or (.plain rfl) (.plain rfl) (.plain rfl) (fun h => eqF h)) (.nil _))))))) ?_
      refine awp_cond rfl (fun h => ?_) (fun h => ?_)
      · (try simp only [decide_eq_true_eq, decide_eq_false_iff_not, Bool.and_eq_true, Bool.or_eq_true, Bool.and_eq_false_iff, Bool.or_eq_false_iff, Bool.not_eq_true', Bool.not_eq_false', Bool.not_eq_true, Bool.not_eq_false, Bool.true_eq_false, Bool.false_eq_true] at h); (try simp only [foldK, foldP, foldL] at h)
        have h5 : ¬ ((pRow N 0).length ≤ 5 ∧ (pRow N 1).length ≤ 5) := by unfold plB at h; simp at h; omega
        refine awp_seq ?_
        refine awp_region rfl (.n (fun _ => op_build (pp := []) (places := #[(0, 1), (1, 1)]) Try.underlying66 Try.zeroValue66 rfl (by intro w; kernel_rfl) trivial rfl) (.e (op_storeRA Try.sizeOf66 (.plain rfl) (.plain rfl) rfl rfl (Nat.le_of_ble_eq_true rfl) rfl) rfl (.n (fun _ => op_assign (.plain rfl)) (.nil _)))) ?_
        refine awp_ent (Ent.beginB 2 0 7000 25 1 (List Int) [] (fun r => [.seq Int 0 (fun n => [.int .i64 n]) r]) rfl rfl (by decide) rfl rfl) ?_
        refine awp_ent (Ent.giveB 2 0 7000 rfl rfl rfl) ?_
        refine awp_ent (Ent.beginB 2 1 7001 25 1 (List Int) [] (fun r => [.seq Int 0 (fun n => [.int .i64 n]) r]) rfl rfl (by decide) rfl rfl) ?_
        refine awp_ent (Ent.giveB 2 1 7001 rfl rfl rfl) ?_
        refine awp_ret ?_
        refine retQ.ret ?_
        refine retC1 rfl rfl Try.isAgg66 Try.sizeOf66 rfl rfl ?_
        exact nm_err (nm_2 hM hP h5) (by decide)
      · (try simp only [decide_eq_true_eq, decide_eq_false_iff_not, Bool.and_eq_true, Bool.or_eq_true, Bool.and_eq_false_iff, Bool.or_eq_false_iff, Bool.not_eq_true', Bool.not_eq_false', Bool.not_eq_true, Bool.not_eq_false, Bool.true_eq_false, Bool.false_eq_true] at h); (try simp only [foldK, foldP, foldL] at h)
        have h5 : (pRow N 0).length ≤ 5 ∧ (pRow N 1).length ≤ 5 := by unfold plB at h; simp at h; omega
        refine awp_skip ?_
        refine awp_seq ?_
        refine awp_region rfl (.e (op_alloc 9 Try.zeroValue66 rfl rfl rfl) rfl (.nil _)) ?_
        refine awp_seq ?_
        refine awp_seq ?_
        refine awp_region rfl (.n (fun _ => op_move (.plain rfl)) (.n (fun _ => op_len (s := 0) Try.underlying60 (.plain rfl)) (.n (fun _ => op_move (.plain rfl)) (.nil _)))) ?_
        refine awp_block ?_
        refine awp_ent (Ent.beginB 9 0 2001 25 1 (List Int) [] (fun r => [.seq Int 0 (fun n => [.int .i64 n]) r]) rfl rfl (by decide) rfl rfl) ?_
        refine awp_ent (Ent.beginB 9 1 2002 25 1 (List Int) [] (fun r => [.seq Int 0 (fun n => [.int .i64 n]) r]) rfl rfl (by decide) rfl rfl) ?_
        refine awp_loop (σ := Nat) (fun (i : Nat) => i ≤ (pRow N 0).length) (fun (i : Nat) => ⟨[(1, .pv (.rd [.i P, .seq (Int × List Int × List Int × Unit) (0, [], [], ()) (fun p => [.i p.1, .ints p.2.1, .ints p.2.2.1]) N])), (2, .ref 2 0), (7, .pv (.rows (pRow N 1))), (9, .ref 9 0), (47, .pv (.rows (pRow N 0))), (48, .int ((pRow N 0).length : Nat)), (49, .int (i : Nat))], [(2, .box [.pv .nil, .pv .nil]), (9, .box [.own 2001, .own 2002]), (2001, .arr 25 1 (List Int) [] (fun r => [.seq Int 0 (fun n => [.int .i64 n]) r]) (mapr i fun i => mapr (pRow N 1).length fun j => nmF N 0 i j)), (2002, .arr 25 1 (List Int) [] (fun r => [.seq Int 0 (fun n => [.int .i64 n]) r]) (mapr i fun i => mapr (pRow N 1).length fun j => nmF N 1 i j))]⟩) (fun (i : Nat) => (pRow N 0).length - i) 0 ?_ (Ent.kept ⟨rfl, rfl, (congrArg (fun p => some (SV.pv p)) (congrArg PV.rows (plL_eq h5.2))), rfl, (congrArg (fun p => some (SV.pv p)) (congrArg PV.rows (plL_eq h5.1))), (len_eq (by rw [plL_eq h5.1])), rfl, trivial⟩ ⟨rfl, rfl, rfl, rfl, trivial⟩) ?_
        · exact Nat.zero_le _
        rintro i hp
        try dsimp only at hp
        have hi := hp
        refine awp_seq ?_
        refine awp_region rfl (.n (fun _ => op_lss (.plain rfl) (.plain rfl)) (.nil _)) ?_
        refine awp_seq ?_
        refine awp_cond rfl (fun h => ?_) (fun h => ?_)
        · (try simp only [decide_eq_true_eq, decide_eq_false_iff_not, Bool.and_eq_true, Bool.or_eq_true, Bool.and_eq_false_iff, Bool.or_eq_false_iff, Bool.not_eq_true', Bool.not_eq_false', Bool.not_eq_true, Bool.not_eq_false, Bool.true_eq_false, Bool.false_eq_true] at h); (try simp only [foldK, foldP, foldL] at h)
          have hp0 := row_zero (getD_mem (l := (pRow N 0)) [] (show i < _ by omega))
          refine awp_skip ?_
          refine awp_seq ?_
          refine awp_block ?_
          refine awp_seq ?_
          refine awp_region rfl (.n (fun _ => op_indexAddrN Try.underlying60 Try.sizeOf25 (.plain rfl) (.plain rfl) (fun _ => rfl) ?_) (.n (fun _ => op_load Try.isAgg25 (.plain rfl)) (.n (fun _ => op_assign (.plain rfl)) (.nil _)))) ?_
          · (try simp only [foldK, foldP, foldL, Int.toNat_natCast])
            omega
          refine awp_seq ?_
          refine awp_region rfl (.n (fun _ => op_assign (.plain rfl)) (.n (fun _ => op_assign (.plain rfl)) (.nil _))) ?_
          refine awp_seq ?_
          refine awp_seq ?_
          refine awp_region rfl (.n (fun _ => op_move (.plain rfl)) (.n (fun _ => op_len (s := 0) Try.underlying60 (.plain rfl)) (.n (fun _ => op_move (.plain rfl)) (.nil _)))) ?_
          refine awp_block ?_
          refine awp_ent (Ent.begin 12 1012 3 1 Int 0 (fun n => [.int .i64 n]) rfl rfl rfl) ?_
          refine awp_ent (Ent.begin 13 1013 3 1 Int 0 (fun n => [.int .i64 n]) rfl rfl rfl) ?_
          refine awp_loop (σ := Nat) (fun (j : Nat) => j ≤ (pRow N 1).length) (fun (j : Nat) => ⟨[(1, .pv (.rd [.i P, .seq (Int × List Int × List Int × Unit) (0, [], [], ()) (fun p => [.i p.1, .ints p.2.1, .ints p.2.2.1]) N])), (2, .ref 2 0), (7, .pv (.rows (pRow N 1))), (9, .ref 9 0), (47, .pv (.rows (pRow N 0))), (48, .int ((pRow N 0).length : Nat)), (49, .int (i : Nat)), (11, .pv (.ints ((pRow N 0).getD i []))), (12, .own 1012), (13, .own 1013), (53, .pv (.rows (pRow N 1))), (54, .int ((pRow N 1).length : Nat)), (55, .int (j : Nat))], [(2, .box [.pv .nil, .pv .nil]), (9, .box [.own 2001, .own 2002]), (2001, .arr 25 1 (List Int) [] (fun r => [.seq Int 0 (fun n => [.int .i64 n]) r]) (mapr i fun i => mapr (pRow N 1).length fun j => nmF N 0 i j)), (2002, .arr 25 1 (List Int) [] (fun r => [.seq Int 0 (fun n => [.int .i64 n]) r]) (mapr i fun i => mapr (pRow N 1).length fun j => nmF N 1 i j)), (1012, .arr 3 1 Int 0 (fun n => [.int .i64 n]) (mapr j fun j => nmF N 0 i j)), (1013, .arr 3 1 Int 0 (fun n => [.int .i64 n]) (mapr j fun j => nmF N 1 i j))]⟩) (fun (j : Nat) => (pRow N 1).length - j) 0 ?_ (Ent.kept ⟨rfl, rfl, rfl, rfl, rfl, rfl, rfl, rfl, rfl, rfl, rfl, rfl, rfl, trivial⟩ ⟨rfl, rfl, rfl, rfl, rfl, rfl, trivial⟩) ?_
          · exact Nat.zero_le _
          rintro j hp
          try dsimp only at hp
          have hj := hp
          refine awp_seq ?_
          refine awp_region rfl (.n (fun _ => op_lss (.plain rfl) (.plain rfl)) (.nil _)) ?_
          refine awp_seq ?_
          refine awp_cond rfl (fun h => ?_) (fun h => ?_)
          · (try simp only [decide_eq_true_eq, decide_eq_false_iff_not, Bool.and_eq_true, Bool.or_eq_true, Bool.and_eq_false_iff, Bool.or_eq_false_iff, Bool.not_eq_true', Bool.not_eq_false', Bool.not_eq_true, Bool.not_eq_false, Bool.true_eq_false, Bool.false_eq_true] at h); (try simp only [foldK, foldP, foldL] at h)
            have hb0 := both_ok (getD_mem (l := (pRow N 0)) [] (show i < _ by omega)) (getD_mem (l := (pRow N 1)) [] (show j < _ by omega))
            have hq0 := wyT_ch (N := N) (who := 1) (l := upF N.length) (i := N.length) z_ok (getD_mem (l := (pRow N 1)) [] (show j < _ by omega))
            have hq1 := hq0.len
            refine awp_skip ?_
            refine awp_seq ?_
            refine awp_block ?_
            refine awp_seq ?_
            refine awp_region rfl (.n (fun _ => op_indexAddrN Try.underlying60 Try.sizeOf25 (.plain rfl) (.plain rfl) (fun _ => rfl) ?_) (.n (fun _ => op_load Try.isAgg25 (.plain rfl)) (.n (fun _ => op_assign (.plain rfl)) (.nil _)))) ?_
            · (try simp only [foldK, foldP, foldL, Int.toNat_natCast])
              omega
            refine awp_seq ?_
            refine awp_region rfl (.n (fun _ => op_move (.plain rfl)) (.e (op_callO (vals := [_]) 60 Try.call30 ⟨⟨_, (.plain rfl), rfl⟩, trivial⟩ (clone_fc _ ?_) (by simp [PV.flat]) rfl) rfl (.n (fun _ => op_assign (.plain rfl)) (.nil _)))) ?_
            · (try simp only [foldK, foldP, foldL, Int.toNat_natCast])
              first | omega | (simp; omega)
            refine awp_seq ?_
            refine awp_seq ?_
            refine awp_region rfl (.n (fun _ => op_move (.plain rfl)) (.n (fun _ => op_len (s := 0) Try.underlying25 (.plain rfl)) (.n (fun _ => op_move (.plain rfl)) (.nil _)))) ?_
            refine awp_block ?_
            refine awp_loop (σ := Nat) (fun (s : Nat) => s ≤ N.length) (fun (s : Nat) => ⟨[(1, .pv (.rd [.i P, .seq (Int × List Int × List Int × Unit) (0, [], [], ()) (fun p => [.i p.1, .ints p.2.1, .ints p.2.2.1]) N])), (2, .ref 2 0), (7, .pv (.rows (pRow N 1))), (9, .ref 9 0), (47, .pv (.rows (pRow N 0))), (48, .int ((pRow N 0).length : Nat)), (49, .int (i : Nat)), (11, .pv (.ints ((pRow N 0).getD i []))), (12, .own 1012), (13, .own 1013), (53, .pv (.rows (pRow N 1))), (54, .int ((pRow N 1).length : Nat)), (55, .int (j : Nat)), (15, .pv (.ints ((pRow N 1).getD j []))), (16, .own 60), (61, .pv (.ints ((pRow N 1).getD j []))), (62, .int (N.length : Nat)), (63, .int (s : Nat))], [(2, .box [.pv .nil, .pv .nil]), (9, .box [.own 2001, .own 2002]), (2001, .arr 25 1 (List Int) [] (fun r => [.seq Int 0 (fun n => [.int .i64 n]) r]) (mapr i fun i => mapr (pRow N 1).length fun j => nmF N 0 i j)), (2002, .arr 25 1 (List Int) [] (fun r => [.seq Int 0 (fun n => [.int .i64 n]) r]) (mapr i fun i => mapr (pRow N 1).length fun j => nmF N 1 i j)), (1012, .arr 3 1 Int 0 (fun n => [.int .i64 n]) (mapr j fun j => nmF N 0 i j)), (1013, .arr 3 1 Int 0 (fun n => [.int .i64 n]) (mapr j fun j => nmF N 1 i j)), (60, .arr 3 1 Int 0 (fun n => [.int .i64 n]) (addTo N.length ((pRow N 0).getD i []) ((pRow N 1).getD j []) s))]⟩) (fun (s : Nat) => N.length - s) 0 ?_ (Ent.kept ⟨rfl, rfl, rfl, rfl, rfl, rfl, rfl, rfl, rfl, rfl, rfl, rfl, rfl, rfl, rfl, rfl, (len_eq hq1), rfl, trivial⟩ ⟨rfl, rfl, rfl, rfl, rfl, rfl, (congrArg (fun l => some (Blk.arr 3 1 Int 0 (fun n => [.int .i64 n]) l)) (addTo_zero hp0.1)), trivial⟩) ?_
            · exact Nat.zero_le _
            rintro s hp
            try dsimp only at hp
            have hs := hp
            refine awp_seq ?_
            refine awp_region rfl (.n (fun _ => op_lss (.plain rfl) (.plain rfl)) (.nil _)) ?_
            refine awp_seq ?_
            refine awp_cond rfl (fun h => ?_) (fun h => ?_)
            · (try simp only [decide_eq_true_eq, decide_eq_false_iff_not, Bool.and_eq_true, Bool.or_eq_true, Bool.and_eq_false_iff, Bool.or_eq_false_iff, Bool.not_eq_true', Bool.not_eq_false', Bool.not_eq_true, Bool.not_eq_false, Bool.true_eq_false, Bool.false_eq_true] at h); (try simp only [foldK, foldP, foldL] at h)
              refine awp_skip ?_
              refine awp_seq ?_
              refine awp_block ?_
              refine awp_seq ?_
              refine awp_region rfl (.n (fun _ => op_move (.plain rfl)) (.n (fun _ => op_indexAddrN Try.underlying25 Try.sizeOf3 (.plain rfl) (.plain rfl) (fun _ => rfl) ?_) (.n (fun _ => op_load Try.isAgg3 (.plain rfl)) (.n (fun _ => op_assign (.plain rfl)) (.n (fun _ => op_assign (.plain rfl)) (.nil _)))))) ?_
              · (try simp only [foldK, foldP, foldL, Int.toNat_natCast])
                omega
              refine awp_region rfl (.n (fun _ => op_move (.plain rfl)) (.n (fun _ => op_move (.plain rfl)) (.r (op_indexAddrON Try.underlying25 Try.sizeOf3 (.plain rfl) rfl (.plain rfl) ?_) (.r (op_loadE Try.isAgg3 (.plain rfl) rfl (fun _ => rfl) ?_ rfl) (.n (fun _ => op_move (.plain rfl)) (.n (fun _ => op_add (.plain rfl) (.plain rfl) ?_) (.r (op_indexAddrON Try.underlying25 Try.sizeOf3 (.plain rfl) rfl (.plain rfl) ?_) (.e (op_storeE _ Try.sizeOf3 (.plain rfl) (.plain rfl) rfl (fun _ => rfl) ?_ (by decide) rfl rfl) rfl (.nil _))))))))) ?_
              · (try simp only [foldK, foldP, foldL, Int.toNat_natCast])
                simp; omega
              · (try simp only [foldK, foldP, foldL, Int.toNat_natCast])
                simp; omega
              · (try simp only [foldK, foldP, foldL, Int.toNat_natCast])
                have h1 := ch_bd hT hp0.2.1 (i := s) (by omega); have h2 := ch_bd hT hq0 (i := s) (by omega); rw [addTo_at (by omega)]; unfold InR; omega
              · (try simp only [foldK, foldP, foldL, Int.toNat_natCast])
                simp; omega
              · (try simp only [foldK, foldP, foldL, Int.toNat_natCast])
                simp; omega
              refine awp_region rfl (.n (fun _ => op_add (.plain rfl) (.plain rfl) ?_) (.n (fun _ => op_move (.plain rfl)) (.nil _))) ?_
              · (try simp only [foldK, foldP, foldL, Int.toNat_natCast])
                unfold InR; omega
              exact ⟨s + 1, by omega, by dsimp only; omega, (Ent.kept ⟨rfl, rfl, rfl, rfl, rfl, rfl, rfl, rfl, rfl, rfl, rfl, rfl, rfl, rfl, rfl, rfl, rfl, rfl, trivial⟩ ⟨rfl, rfl, rfl, rfl, rfl, rfl, (congrArg (fun l => some (Blk.arr 3 1 Int 0 (fun n => [.int .i64 n]) l)) (addTo_step (by omega))), trivial⟩)⟩
            · (try simp only [decide_eq_true_eq, decide_eq_false_iff_not, Bool.and_eq_true, Bool.or_eq_true, Bool.and_eq_false_iff, Bool.or_eq_false_iff, Bool.not_eq_true', Bool.not_eq_false', Bool.not_eq_true, Bool.not_eq_false, Bool.true_eq_false, Bool.false_eq_true] at h); (try simp only [foldK, foldP, foldL] at h)
              refine awp_exit ?_
              refine awp_seq ?_
              have hB : ChOk N (addTo N.length ((pRow N 0).getD i []) ((pRow N 1).getD j []) s) := by rw [addTo_end (by omega)]; exact hb0
              have hbw := (wF_len hT hB (a := 0) (by omega)).1
              refine awp_ent (Ent.give 16 rfl rfl) ?_
              refine awp_region rfl (.n (fun _ => op_load_agg Try.isAgg24 Try.sizeOf24 (.plain rfl) (Nat.le_of_ble_eq_true rfl)) (.n (fun _ => op_move (.plain rfl)) (.n (fun _ => op_call3 Try.call26 (.plain rfl) (.plain rfl) (.plain rfl) (walk_fc P N ?_ _ ?_ 0 _ ?_ ?_)) (.n (fun _ => op_assign (.plain rfl)) (.nil _))))) ?_
              · (try simp only [foldK, foldP, foldL, Int.toNat_natCast])
                exact hT
              · (try simp only [foldK, foldP, foldL, Int.toNat_natCast])
                exact hB
              · (try simp only [foldK, foldP, foldL, Int.toNat_natCast])
                try rfl
              · (try simp only [foldK, foldP, foldL, Int.toNat_natCast])
                omega
              refine awp_region_draw mixed rfl (.n (fun _ => op_move (.plain rfl)) (.n (fun _ => op_move (.plain rfl)) (.n (fun _ => op_indexAddr Try.underlying25 Try.sizeOf3 (.plain rfl) (.plain rfl) (fun _ => rfl) ?_) (.n (fun _ => op_load Try.isAgg3 (.plain rfl)) (.n (fun _ => op_slit (pp := [(0, _)]) (α := Int) (d := 0) (f := (fun n => [.int .i64 n])) [_] ety25 rfl ⟨rfl, (.plain rfl), (by simp), trivial⟩ rfl (by decide) rfl) (.e (op_append (id' := 84) (α := Int) (d := 0) (f := (fun n => [.int .i64 n])) ety25 Try.underlying25 (fun _ => rfl) (fun _ => rfl) (.plain rfl) rfl (.plain rfl) rfl ?_) rfl (.n (fun _ => op_move (.plain rfl)) (.n (fun _ => op_move (.plain rfl)) (.n (fun _ => op_indexAddr Try.underlying25 Try.sizeOf3 (.plain rfl) (.plain rfl) (fun _ => rfl) ?_) (.n (fun _ => op_load Try.isAgg3 (.plain rfl)) (.n (fun _ => op_slit (pp := [(0, _)]) (α := Int) (d := 0) (f := (fun n => [.int .i64 n])) [_] ety25 rfl ⟨rfl, (.plain rfl), (by simp), trivial⟩ rfl (by decide) rfl) (.e (op_append (id' := 90) (α := Int) (d := 0) (f := (fun n => [.int .i64 n])) ety25 Try.underlying25 (fun _ => rfl) (fun _ => rfl) (.plain rfl) rfl (.plain rfl) rfl ?_) rfl (.n (fun _ => op_assign (.plain rfl)) (.n (fun _ => op_assign (.plain rfl)) (.nil _))))))))))))))) ?d1 ?_
              · (try simp only [foldK, foldP, foldL, Int.toNat_natCast])
                omega
              · (try simp only [foldK, foldP, foldL, Int.toNat_natCast])
                first | omega | (simp; omega)
              · (try simp only [foldK, foldP, foldL, Int.toNat_natCast])
                omega
              · (try simp only [foldK, foldP, foldL, Int.toNat_natCast])
                first | omega | (simp; omega)
              · kernel_rfl
              refine awp_region rfl (.n (fun _ => op_add (.plain rfl) (.plain rfl) ?_) (.n (fun _ => op_move (.plain rfl)) (.nil _))) ?_
              · (try simp only [foldK, foldP, foldL, Int.toNat_natCast])
                unfold InR; omega
              exact ⟨j + 1, by omega, by dsimp only; omega, (Ent.round2 84 1012 90 1013 ⟨rfl, rfl, rfl, rfl, rfl, rfl, rfl, rfl, rfl, rfl, rfl, rfl, rfl, trivial⟩ ⟨rfl, rfl, rfl, rfl, (congrArg (fun l => some (Blk.arr 3 1 Int 0 (fun n => [.int .i64 n]) l)) (nmr_snoc (by omega))), (congrArg (fun l => some (Blk.arr 3 1 Int 0 (fun n => [.int .i64 n]) l)) (nmr_snoc (by omega))), trivial⟩ rfl rfl rfl ⟨rfl, rfl, rfl, rfl, rfl, rfl, rfl, rfl, rfl, rfl, rfl, rfl, rfl, trivial⟩ ⟨rfl, rfl, rfl, rfl, rfl, rfl, trivial⟩ rfl rfl rfl ⟨rfl, rfl, rfl, rfl, rfl, rfl, rfl, rfl, rfl, rfl, rfl, rfl, rfl, trivial⟩ ⟨rfl, rfl, rfl, rfl, rfl, rfl, trivial⟩)⟩
          · (try simp only [decide_eq_true_eq, decide_eq_false_iff_not, Bool.and_eq_true, Bool.or_eq_true, Bool.and_eq_false_iff, Bool.or_eq_false_iff, Bool.not_eq_true', Bool.not_eq_false', Bool.not_eq_true, Bool.not_eq_false, Bool.true_eq_false, Bool.false_eq_true] at h); (try simp only [foldK, foldP, foldL] at h)
            refine awp_exit ?_
            refine awp_ent (Ent.give 12 rfl rfl) ?_
            refine awp_ent (Ent.give 13 rfl rfl) ?_
            refine awp_region_drawG mixed rfl (.n (fun _ => op_fieldAddrR Try.underlying66 rfl rfl Try.sizeOf60 (.plain rfl)) (.r (op_loadR Try.isAgg60 (.plain rfl) rfl rfl) (.n (fun _ => op_move (.plain rfl)) (.n (fun _ => op_slit (pp := [(0, _)]) (α := (List Int)) (d := []) (f := (fun r => [.seq Int 0 (fun n => [.int .i64 n]) r])) [_] ety60 rfl ⟨rfl, (.plain rfl), (by simp), trivial⟩ rfl (by decide) rfl) (.e (op_append (id' := 96) (α := (List Int)) (d := []) (f := (fun r => [.seq Int 0 (fun n => [.int .i64 n]) r])) ety60 Try.underlying60 (fun _ => rfl) (fun _ => rfl) (.plain rfl) rfl (.plain rfl) rfl ?_) rfl (.n (fun _ => op_fieldAddrR Try.underlying66 rfl rfl Try.sizeOf60 (.plain rfl)) (.look 9 rfl (fun _ hl => op_loadR Try.isAgg60 (.plain rfl)  hl rfl) (.n (fun _ => op_move (.plain rfl)) (.n (fun _ => op_slit (pp := [(0, _)]) (α := (List Int)) (d := []) (f := (fun r => [.seq Int 0 (fun n => [.int .i64 n]) r])) [_] ety60 rfl ⟨rfl, (.plain rfl), (by simp), trivial⟩ rfl (by decide) rfl) (.e (op_append (id' := 101) (α := (List Int)) (d := []) (f := (fun r => [.seq Int 0 (fun n => [.int .i64 n]) r])) ety60 Try.underlying60 (fun _ => rfl) (fun _ => rfl) (.plain rfl) rfl (.plain rfl) rfl ?_) rfl (.n (fun _ => op_fieldAddrR Try.underlying66 rfl rfl Try.sizeOf60 (.plain rfl)) (.e (op_storeR Try.sizeOf60 (.plain rfl) (.plain rfl) rfl (by first | decide | exact Nat.le_of_ble_eq_true rfl) rfl (by simp) (fun i h => by cases h; exact ⟨_, _, _, _, _, _, rfl⟩)) rfl (.n (fun _ => op_fieldAddrR Try.underlying66 rfl rfl Try.sizeOf60 (.plain rfl)) (.e (op_storeR Try.sizeOf60 (.plain rfl) (.plain rfl) rfl (by first | decide | exact Nat.le_of_ble_eq_true rfl) rfl (by simp) (fun i h => by cases h; exact ⟨_, _, _, _, _, _, rfl⟩)) rfl (.nil _))))))))))))))) ?d2 ?dg2 ?_
            · (try simp only [foldK, foldP, foldL, Int.toNat_natCast])
              first | omega | (simp; omega)
            · (try simp only [foldK, foldP, foldL, Int.toNat_natCast])
              first | omega | (simp; omega)
            · kernel_rfl
            · exact gOk_one 6 9 _ [4] rfl (by kernel_rfl) rfl (by kernel_rfl) (fun k hk => by simp only [List.mem_cons, List.not_mem_nil, or_false] at hk; first | (subst hk; rfl) | (rcases hk with hk | hk <;> subst hk <;> rfl))
            refine awp_region rfl (.n (fun _ => op_add (.plain rfl) (.plain rfl) ?_) (.n (fun _ => op_move (.plain rfl)) (.nil _))) ?_
            · (try simp only [foldK, foldP, foldL, Int.toNat_natCast])
              unfold InR; omega
            exact ⟨i + 1, by omega, by dsimp only; omega, (Ent.round2 96 2001 101 2002 ⟨rfl, rfl, rfl, rfl, rfl, rfl, rfl, trivial⟩ ⟨rfl, rfl, (congrArg (fun l => some (Blk.arr 25 1 (List Int) [] (fun r => [.seq Int 0 (fun n => [.int .i64 n]) r]) l)) (nmr_row hj (by omega))), (congrArg (fun l => some (Blk.arr 25 1 (List Int) [] (fun r => [.seq Int 0 (fun n => [.int .i64 n]) r]) l)) (nmr_row hj (by omega))), trivial⟩ rfl rfl rfl ⟨rfl, rfl, rfl, rfl, rfl, rfl, rfl, trivial⟩ ⟨rfl, rfl, rfl, rfl, trivial⟩ rfl rfl rfl ⟨rfl, rfl, rfl, rfl, rfl, rfl, rfl, trivial⟩ ⟨rfl, rfl, rfl, rfl, trivial⟩)⟩
        · (try simp only [decide_eq_true_eq, decide_eq_false_iff_not, Bool.and_eq_true, Bool.or_eq_true, Bool.and_eq_false_iff, Bool.or_eq_false_iff, Bool.not_eq_true', Bool.not_eq_false', Bool.not_eq_true, Bool.not_eq_false, Bool.true_eq_false, Bool.false_eq_true] at h); (try simp only [foldK, foldP, foldL] at h)
          refine awp_exit ?_
          refine awp_seq ?_
          refine awp_ent (Ent.giveB 9 0 2001 rfl rfl rfl) ?_
          refine awp_ent (Ent.giveB 9 1 2002 rfl rfl rfl) ?_
          refine awp_region rfl (.r (op_loadRA Try.isAgg66 Try.sizeOf66 (.plain rfl) rfl (by simp) rfl) (.e (op_storeRA Try.sizeOf66 (.plain rfl) (.plain rfl) rfl rfl (Nat.le_of_ble_eq_true rfl) rfl) rfl (.n (fun _ => op_assign (.plain rfl)) (.nil _)))) ?_
          refine awp_ret ?_
          refine retQ.ret ?_
          refine retC1 rfl rfl Try.isAgg66 Try.sizeOf66 rfl rfl ?_
          obtain rfl : i = (pRow N 0).length := by omega
          exact nm_ok (nm_0 hM hP h5)

theorem RNormal_fc (P : Int) (N : List Nd) : FC Try.prog 36 [.agg [.i P, .seq (Int × List Int × List Int × Unit) (0, [], [], ()) (fun p => [.i p.1, .ints p.2.1, .ints p.2.2.1]) N]] (.tup [.agg [.rows (nmG P N 0), .rows (nmG P N 1)], .i (nmE P N)]) := by
  refine FC.intro Try.func36 rfl (Nat.le_of_ble_eq_true rfl) fun hfit => ?_
  have fit0 := hfit _ (.head _)
  refine awp_seq ?_
  refine awp_region rfl (.n (fun _ => op_box (.plain rfl) (by simp)) (.e (op_alloc 2 Try.zeroValue66 rfl rfl rfl) rfl (.n (fun _ => op_assign (.plain rfl)) (.nil _)))) ?_
  refine awp_seq ?_
  refine awp_region rfl (.n (fun _ => op_load_agg Try.isAgg24 Try.sizeOf24 (.plain rfl) (Nat.le_of_ble_eq_true rfl)) (.n (fun _ => op_call1 Try.call8 (.plain rfl) (TreeMay_fc _ _)) (.n (fun _ => op_assign (.plain rfl)) (.nil _)))) ?_
  refine awp_seq ?_
  refine awp_seq ?_
  refine awp_region rfl (.n (fun _ => op_move (.plain rfl)) (.n (fun _ => op_neq (.plain rfl) (.plain rfl)) (.nil _))) ?_
  refine awp_cond rfl (fun h => ?_) (fun h => ?_)
  · (try simp only [decide_eq_true_eq, decide_eq_false_iff_not, Bool.and_eq_true, Bool.or_eq_true, Bool.and_eq_false_iff, Bool.or_eq_false_iff, Bool.not_eq_true', Bool.not_eq_false', Bool.not_eq_true, Bool.not_eq_false, Bool.true_eq_false, Bool.false_eq_true] at h); (try simp only [foldK, foldP, foldL] at h)
    have hM := h
    refine awp_seq ?_
    refine awp_region rfl (.n (fun _ => op_build (pp := []) (places := #[(0, 1), (1, 1)]) Try.underlying66 Try.zeroValue66 rfl (by intro w; kernel_rfl) trivial rfl) (.n (fun _ => op_move (.plain rfl)) (.e (op_storeRA Try.sizeOf66 (.plain rfl) (.plain rfl) rfl rfl (Nat.le_of_ble_eq_true rfl) rfl) rfl (.n (fun _ => op_assign (.plain rfl)) (.nil _))))) ?_
    refine awp_ent (Ent.beginB 2 0 7000 25 1 (List Int) [] (fun r => [.seq Int 0 (fun n => [.int .i64 n]) r]) rfl rfl (by decide) rfl rfl) ?_
    refine awp_ent (Ent.giveB 2 0 7000 rfl rfl rfl) ?_
    refine awp_ent (Ent.beginB 2 1 7001 25 1 (List Int) [] (fun r => [.seq Int 0 (fun n => [.int .i64 n]) r]) rfl rfl (by decide) rfl rfl) ?_
    refine awp_ent (Ent.giveB 2 1 7001 rfl rfl rfl) ?_
    refine awp_ret ?_
    refine retQ.ret ?_
    refine retC1 rfl rfl Try.isAgg66 Try.sizeOf66 rfl rfl ?_
    exact nm_err (nm_t hM) hM
  · (try simp only [decide_eq_true_eq, decide_eq_false_iff_not, Bool.and_eq_true, Bool.or_eq_true, Bool.and_eq_false_iff, Bool.or_eq_false_iff, Bool.not_eq_true', Bool.not_eq_false', Bool.not_eq_true, Bool.not_eq_false, Bool.true_eq_false, Bool.false_eq_true] at h); (try simp only [foldK, foldP, foldL] at h)
    have hM := h
    have hT := tr_of hM
    have hp1 := hT.p1
    have hp5 := hT.p5
    have hn1 := hT.n1
    have hn40 := hT.n40
    refine awp_skip ?_
    refine awp_seq ?_
    refine awp_seq ?_
    refine awp_region rfl (.n (fun _ => op_fieldAddr Try.underlying24 rfl rfl Try.sizeOf3 (.plain rfl)) (.n (fun _ => op_load Try.isAgg3 (.plain rfl)) (.n (fun _ => op_neq (.plain rfl) (.plain rfl)) (.nil _)))) ?_
    refine awp_cond rfl (fun h => ?_) (fun h => ?_)
    · (try simp only [decide_eq_true_eq, decide_eq_false_iff_not, Bool.and_eq_true, Bool.or_eq_true, Bool.and_eq_false_iff, Bool.or_eq_false_iff, Bool.not_eq_true', Bool.not_eq_false', Bool.not_eq_true, Bool.not_eq_false, Bool.true_eq_false, Bool.false_eq_true] at h); (try simp only [foldK, foldP, foldL] at h)
      have hP := h
      refine awp_seq ?_
      refine awp_region rfl (.n (fun _ => op_build (pp := []) (places := #[(0, 1), (1, 1)]) Try.underlying66 Try.zeroValue66 rfl (by intro w; kernel_rfl) trivial rfl) (.e (op_storeRA Try.sizeOf66 (.plain rfl) (.plain rfl) rfl rfl (Nat.le_of_ble_eq_true rfl) rfl) rfl (.n (fun _ => op_assign (.plain rfl)) (.nil _)))) ?_
      refine awp_ent (Ent.beginB 2 0 7000 25 1 (List Int) [] (fun r => [.seq Int 0 (fun n => [.int .i64 n]) r]) rfl rfl (by decide) rfl rfl) ?_
      refine awp_ent (Ent.giveB 2 0 7000 rfl rfl rfl) ?_
      refine awp_ent (Ent.beginB 2 1 7001 25 1 (List Int) [] (fun r => [.seq Int 0 (fun n => [.int .i64 n]) r]) rfl rfl (by decide) rfl rfl) ?_
      refine awp_ent (Ent.giveB 2 1 7001 rfl rfl rfl) ?_
      refine awp_ret ?_
      refine retQ.ret ?_
      refine retC1 rfl rfl Try.isAgg66 Try.sizeOf66 rfl rfl ?_
      exact nm_err (nm_7 hM hP) (by decide)
    · (try simp only [decide_eq_true_eq, decide_eq_false_iff_not, Bool.and_eq_true, Bool.or_eq_true, Bool.and_eq_false_iff, Bool.or_eq_false_iff, Bool.not_eq_true', Bool.not_eq_false', Bool.not_eq_true, Bool.not_eq_false, Bool.true_eq_false, Bool.false_eq_true] at h); (try simp only [foldK, foldP, foldL] at h)
      have hP : P = 2 := h
      refine awp_skip ?_
      refine awp_seq ?_
      refine awp_region rfl (.e (op_slitO (pp := [(0, _), (1, _)]) (α := Int) (d := 0) (f := (fun n => [.int .i64 n])) 26 [_, _] ety25 rfl ⟨rfl, (.plain rfl), (by simp), rfl, (.plain rfl), (by simp), trivial⟩ rfl (by decide) rfl (fun _ => rfl) rfl) rfl (.n (fun _ => op_assign (.plain rfl)) (.nil _))) ?_
      refine awp_seq ?_
      refine awp_seq ?_
      refine awp_region rfl (.n (fun _ => op_assign (.plain rfl)) (.nil _)) ?_
      refine awp_block ?_
      refine awp_loop (σ := Nat) (fun (i : Nat) => i ≤ N.length) (fun (i : Nat) => ⟨[(1, .pv (.rd [.i P, .seq (Int × List Int × List Int × Unit) (0, [], [], ()) (fun p => [.i p.1, .ints p.2.1, .ints p.2.2.1]) N])), (2, .ref 2 0), (5, .own 26), (6, .int (i : Nat))], [(2, .box [.pv .nil, .pv .nil]), (26, .arr 3 1 Int 0 (fun n => [.int .i64 n]) [myT N 0 i, myT N 1 i])]⟩) (fun (i : Nat) => N.length - i) 0 ?_ (Ent.kept ⟨rfl, rfl, rfl, rfl, trivial⟩ ⟨rfl, rfl, trivial⟩) ?_
      · exact Nat.zero_le _
      rintro i hp
      try dsimp only at hp
      have hi := hp
      refine awp_seq ?_
      refine awp_seq ?_
      refine awp_region rfl (.n (fun _ => op_move (.plain rfl)) (.n (fun _ => op_fieldAddr Try.underlying24 rfl rfl Try.sizeOf22 (.plain rfl)) (.n (fun _ => op_load Try.isAgg22 (.plain rfl)) (.n (fun _ => op_len (s := 0) Try.underlying22 (.plain rfl)) (.n (fun _ => op_lss (.plain rfl) (.plain rfl)) (.nil _)))))) ?_
      refine awp_cond rfl (fun h => ?_) (fun h => ?_)
      · (try simp only [decide_eq_true_eq, decide_eq_false_iff_not, Bool.and_eq_true, Bool.or_eq_true, Bool.and_eq_false_iff, Bool.or_eq_false_iff, Bool.not_eq_true', Bool.not_eq_false', Bool.not_eq_true, Bool.not_eq_false, Bool.true_eq_false, Bool.false_eq_true] at h); (try simp only [foldK, foldP, foldL] at h)
        refine awp_skip ?_
        refine awp_seq ?_
        refine awp_block ?_
        refine awp_seq ?_
        refine awp_region rfl (.n (fun _ => op_fieldAddr Try.underlying24 rfl rfl Try.sizeOf22 (.plain rfl)) (.n (fun _ => op_load Try.isAgg22 (.plain rfl)) (.n (fun _ => op_move (.plain rfl)) (.n (fun _ => op_indexAddrN Try.underlying22 Try.sizeOf51 (.plain rfl) (.plain rfl) (fun _ => rfl) ?_) (.n (fun _ => op_fieldAddr Try.underlying51 rfl rfl Try.sizeOf25 (.plain rfl)) (.n (fun _ => op_load Try.isAgg25 (.plain rfl)) (.n (fun _ => op_len (s := 0) Try.underlying25 (.plain rfl)) (.n (fun _ => op_gtr (.plain rfl) (.plain rfl)) (.n (fun _ => op_move (.plain rfl)) (.gn rfl rfl (fun hg _ => op_move (.plain rfl)) (.gn rfl rfl (fun hg _ => op_fieldAddr Try.underlying24 rfl rfl Try.sizeOf22 (.plain rfl)) (.gn rfl rfl (fun hg _ => op_load Try.isAgg22 (.opt rfl fun h => h)) (.gn rfl rfl (fun hg _ => op_move (.plain rfl)) (.gn rfl rfl (fun hg _ => op_indexAddrN Try.underlying22 Try.sizeOf51 (.opt rfl fun h => h) (.opt rfl fun h => h) (fun _ => rfl) ?_) (.gn rfl rfl (fun hg _ => op_fieldAddr Try.underlying51 rfl rfl Try.sizeOf3 (.opt rfl fun h => h)) (.gn rfl rfl (fun hg _ => op_load Try.isAgg3 (.opt rfl fun h => h)) (.gr rfl rfl (fun hg => op_indexAddrO Try.underlying25 Try.sizeOf3 (.opt rfl fun h => h) rfl (.opt rfl fun h => h) ?_) (.gr rfl rfl (fun hg => op_loadE Try.isAgg3 (.opt rfl fun h => h) rfl (fun _ => rfl) ?_ rfl) (.gn rfl rfl (fun hg _ => op_leq (.opt rfl fun h => h) (.plain rfl)) (.n (fun _ => op_and (.plain rfl) (.plain rfl) (.plain rfl) (fun h => eqT h)) (.nil _))))))))))))))))))))) ?_
        · (try simp only [foldK, foldP, foldL, Int.toNat_natCast])
          omega
        · try simp only [beq_iff_eq, beq_true, beq_false, Bool.and_eq_true, decide_eq_true_eq, decide_eq_false_iff_not, Bool.not_eq_true', Bool.or_eq_true, Bool.or_eq_false_iff] at hg
          (try simp only [foldK, foldP, foldL, Int.toNat_natCast])
          omega
        · try simp only [beq_iff_eq, beq_true, beq_false, Bool.and_eq_true, decide_eq_true_eq, decide_eq_false_iff_not, Bool.not_eq_true', Bool.or_eq_true, Bool.or_eq_false_iff] at hg
          (try simp only [foldK, foldP, foldL, Int.toNat_natCast])
          simp only [foldK] at hg; have := hT.inn i (by omega) (by omega); simp; omega
        · try simp only [beq_iff_eq, beq_true, beq_false, Bool.and_eq_true, decide_eq_true_eq, decide_eq_false_iff_not, Bool.not_eq_true', Bool.or_eq_true, Bool.or_eq_false_iff] at hg
          (try simp only [foldK, foldP, foldL, Int.toNat_natCast])
          simp only [foldK] at hg; have := hT.inn i (by omega) (by omega); simp; omega
        refine awp_cond rfl (fun h => ?_) (fun h => ?_)
        · (try simp only [decide_eq_true_eq, decide_eq_false_iff_not, Bool.and_eq_true, Bool.or_eq_true, Bool.and_eq_false_iff, Bool.or_eq_false_iff, Bool.not_eq_true', Bool.not_eq_false', Bool.not_eq_true, Bool.not_eq_false, Bool.true_eq_false, Bool.false_eq_true] at h); (try simp only [foldK, foldP, foldL] at h)
          have hmany := many_in hP hT (show i < N.length by omega) h
          have hmr := many_inr hP hT (show i < N.length by omega) h
          have hin := hT.inn i (by omega) (by omega)
          refine awp_region_draw mixed rfl (.n (fun _ => op_move (.plain rfl)) (.n (fun _ => op_fieldAddr Try.underlying24 rfl rfl Try.sizeOf22 (.plain rfl)) (.n (fun _ => op_load Try.isAgg22 (.plain rfl)) (.n (fun _ => op_move (.plain rfl)) (.n (fun _ => op_indexAddrN Try.underlying22 Try.sizeOf51 (.plain rfl) (.plain rfl) (fun _ => rfl) ?_) (.n (fun _ => op_fieldAddr Try.underlying51 rfl rfl Try.sizeOf3 (.plain rfl)) (.n (fun _ => op_load Try.isAgg3 (.plain rfl)) (.n (fun _ => op_move (.plain rfl)) (.n (fun _ => op_fieldAddr Try.underlying24 rfl rfl Try.sizeOf22 (.plain rfl)) (.n (fun _ => op_load Try.isAgg22 (.plain rfl)) (.n (fun _ => op_move (.plain rfl)) (.n (fun _ => op_indexAddrN Try.underlying22 Try.sizeOf51 (.plain rfl) (.plain rfl) (fun _ => rfl) ?_) (.n (fun _ => op_fieldAddr Try.underlying51 rfl rfl Try.sizeOf3 (.plain rfl)) (.n (fun _ => op_load Try.isAgg3 (.plain rfl)) (.r (op_indexAddrO Try.underlying25 Try.sizeOf3 (.plain rfl) rfl (.plain rfl) ?_) (.r (op_loadE Try.isAgg3 (.plain rfl) rfl (fun _ => rfl) ?_ rfl) (.n (fun _ => op_fieldAddr Try.underlying24 rfl rfl Try.sizeOf22 (.plain rfl)) (.n (fun _ => op_load Try.isAgg22 (.plain rfl)) (.n (fun _ => op_move (.plain rfl)) (.n (fun _ => op_indexAddrN Try.underlying22 Try.sizeOf51 (.plain rfl) (.plain rfl) (fun _ => rfl) ?_) (.n (fun _ => op_fieldAddr Try.underlying51 rfl rfl Try.sizeOf25 (.plain rfl)) (.n (fun _ => op_load Try.isAgg25 (.plain rfl)) (.n (fun _ => op_len (s := 0) Try.underlying25 (.plain rfl)) (.n (fun _ => op_mul (.plain rfl) (.plain rfl) ?_) (.r (op_indexAddrO Try.underlying25 Try.sizeOf3 (.plain rfl) rfl (.plain rfl) ?_) (.e (op_storeE _ Try.sizeOf3 (.plain rfl) (.plain rfl) rfl (fun _ => rfl) ?_ (by decide) rfl rfl) rfl (.nil _))))))))))))))))))))))))))) ?d3 ?_
          · (try simp only [foldK, foldP, foldL, Int.toNat_natCast])
            omega
          · (try simp only [foldK, foldP, foldL, Int.toNat_natCast])
            omega
          · (try simp only [foldK, foldP, foldL, Int.toNat_natCast])
            simp; omega
          · (try simp only [foldK, foldP, foldL, Int.toNat_natCast])
            simp; omega
          · (try simp only [foldK, foldP, foldL, Int.toNat_natCast])
            omega
          · (try simp only [foldK, foldP, foldL, Int.toNat_natCast])
            exact hmr
          · (try simp only [foldK, foldP, foldL, Int.toNat_natCast])
            simp; omega
          · (try simp only [foldK, foldP, foldL, Int.toNat_natCast])
            simp; omega
          · kernel_rfl
          refine awp_region rfl (.n (fun _ => op_move (.plain rfl)) (.n (fun _ => op_add (.plain rfl) (.plain rfl) ?_) (.n (fun _ => op_assign (.plain rfl)) (.nil _)))) ?_
          · (try simp only [foldK, foldP, foldL, Int.toNat_natCast])
            unfold InR; omega
          exact ⟨i + 1, by omega, by dsimp only; omega, (Ent.kept ⟨rfl, rfl, rfl, rfl, trivial⟩ ⟨rfl, (congrArg (fun l => some (Blk.arr 3 1 Int 0 (fun n => [.int .i64 n]) l)) (hmany)), trivial⟩)⟩
        · (try simp only [decide_eq_true_eq, decide_eq_false_iff_not, Bool.and_eq_true, Bool.or_eq_true, Bool.and_eq_false_iff, Bool.or_eq_false_iff, Bool.not_eq_true', Bool.not_eq_false', Bool.not_eq_true, Bool.not_eq_false, Bool.true_eq_false, Bool.false_eq_true] at h); (try simp only [foldK, foldP, foldL] at h)
          have hmany := many_out hP hT (show i < N.length by omega) (fun c => h.elim (fun n => n c.1) fun n => n c.2)
          refine awp_skip ?_
          refine awp_region rfl (.n (fun _ => op_move (.plain rfl)) (.n (fun _ => op_add (.plain rfl) (.plain rfl) ?_) (.n (fun _ => op_assign (.plain rfl)) (.nil _)))) ?_
          · (try simp only [foldK, foldP, foldL, Int.toNat_natCast])
            unfold InR; omega
          exact ⟨i + 1, by omega, by dsimp only; omega, (Ent.kept ⟨rfl, rfl, rfl, rfl, trivial⟩ ⟨rfl, (congrArg (fun l => some (Blk.arr 3 1 Int 0 (fun n => [.int .i64 n]) l)) (hmany)), trivial⟩)⟩
      · (try simp only [decide_eq_true_eq, decide_eq_false_iff_not, Bool.and_eq_true, Bool.or_eq_true, Bool.and_eq_false_iff, Bool.or_eq_false_iff, Bool.not_eq_true', Bool.not_eq_false', Bool.not_eq_true, Bool.not_eq_false, Bool.true_eq_false, Bool.false_eq_true] at h); (try simp only [foldK, foldP, foldL] at h)
        refine awp_exit ?_
        refine awp_seq ?_
        refine awp_seq ?_
        obtain rfl : i = N.length := by omega
        refine awp_region rfl (.n (fun _ => op_move (.plain rfl)) (.r (op_indexAddrO Try.underlying25 Try.sizeOf3 (.plain rfl) rfl (.plain rfl) ?_) (.r (op_loadE Try.isAgg3 (.plain rfl) rfl (fun _ => rfl) ?_ rfl) (.n (fun _ => op_gtr (.plain rfl) (.plain rfl)) (.n (fun _ => op_move (.plain rfl)) (.gn rfl rfl (fun hg _ => op_move (.plain rfl)) (.gr rfl rfl (fun hg => op_indexAddrO Try.underlying25 Try.sizeOf3 (.opt rfl fun h => h) rfl (.plain rfl) ?_) (.gr rfl rfl (fun hg => op_loadE Try.isAgg3 (.opt rfl fun h => h) rfl (fun _ => rfl) ?_ rfl) (.gn rfl rfl (fun hg _ => op_gtr (.opt rfl fun h => h) (.plain rfl)) (.n (fun _ => op_or (.plain rfl) (.plain rfl) (.plain rfl) (fun h => eqF h)) (.nil _))))))))))) ?_
        · (try simp only [foldK, foldP, foldL, Int.toNat_natCast])
          simp
        · (try simp only [foldK, foldP, foldL, Int.toNat_natCast])
          simp
        · try simp only [beq_iff_eq, beq_true, beq_false, Bool.and_eq_true, decide_eq_true_eq, decide_eq_false_iff_not, Bool.not_eq_true', Bool.or_eq_true, Bool.or_eq_false_iff] at hg
          (try simp only [foldK, foldP, foldL, Int.toNat_natCast])
          simp
        · try simp only [beq_iff_eq, beq_true, beq_false, Bool.and_eq_true, decide_eq_true_eq, decide_eq_false_iff_not, Bool.not_eq_true', Bool.or_eq_true, Bool.or_eq_false_iff] at hg
          (try simp only [foldK, foldP, foldL, Int.toNat_natCast])
          simp
        refine awp_cond rfl (fun h => ?_) (fun h => ?_)
        · (try simp only [decide_eq_true_eq, decide_eq_false_iff_not, Bool.and_eq_true, Bool.or_eq_true, Bool.and_eq_false_iff, Bool.or_eq_false_iff, Bool.not_eq_true', Bool.not_eq_false', Bool.not_eq_true, Bool.not_eq_false, Bool.true_eq_false, Bool.false_eq_true] at h); (try simp only [foldK, foldP, foldL] at h)
          have h5 := many_big hT h
          refine awp_seq ?_
          refine awp_region rfl (.n (fun _ => op_build (pp := []) (places := #[(0, 1), (1, 1)]) Try.underlying66 Try.zeroValue66 rfl (by intro w; kernel_rfl) trivial rfl) (.e (op_storeRA Try.sizeOf66 (.plain rfl) (.plain rfl) rfl rfl (Nat.le_of_ble_eq_true rfl) rfl) rfl (.n (fun _ => op_assign (.plain rfl)) (.nil _)))) ?_
          refine awp_ent (Ent.beginB 2 0 7000 25 1 (List Int) [] (fun r => [.seq Int 0 (fun n => [.int .i64 n]) r]) rfl rfl (by decide) rfl rfl) ?_
          refine awp_ent (Ent.giveB 2 0 7000 rfl rfl rfl) ?_
          refine awp_ent (Ent.beginB 2 1 7001 25 1 (List Int) [] (fun r => [.seq Int 0 (fun n => [.int .i64 n]) r]) rfl rfl (by decide) rfl rfl) ?_
          refine awp_ent (Ent.giveB 2 1 7001 rfl rfl rfl) ?_
          refine awp_ret ?_
          refine retQ.ret ?_
          refine retC1 rfl rfl Try.isAgg66 Try.sizeOf66 rfl rfl ?_
          exact nm_err (nm_2 hM hP h5) (by decide)
        · (try simp only [decide_eq_true_eq, decide_eq_false_iff_not, Bool.and_eq_true, Bool.or_eq_true, Bool.and_eq_false_iff, Bool.or_eq_false_iff, Bool.not_eq_true', Bool.not_eq_false', Bool.not_eq_true, Bool.not_eq_false, Bool.true_eq_false, Bool.false_eq_true] at h); (try simp only [foldK, foldP, foldL] at h)
          have h5 := many_few hT h
          refine awp_skip ?_
          refine awp_seq ?_
          refine awp_region rfl (.n (fun _ => op_fieldAddr Try.underlying24 rfl rfl Try.sizeOf22 (.plain rfl)) (.n (fun _ => op_load Try.isAgg22 (.plain rfl)) (.n (fun _ => op_len (s := 0) Try.underlying22 (.plain rfl)) (.e (op_make (α := Int) (d := 0) (f := (fun n => [.int .i64 n])) 93 0 ety25 (.plain rfl) (.plain rfl) (fun _ => rfl) rfl rfl ?_) rfl (.n (fun _ => op_assign (.plain rfl)) (.nil _)))))) ?_
          · (try simp only [foldK, foldP, foldL, Int.toNat_natCast])
            omega
          refine awp_seq ?_
          refine awp_ent (Ent.give 7 rfl rfl) ?_
          refine awp_region_draw mixed rfl (.n (fun _ => op_load_agg Try.isAgg24 Try.sizeOf24 (.plain rfl) (Nat.le_of_ble_eq_true rfl)) (.n (fun _ => op_move (.plain rfl)) (.n (fun _ => op_fieldAddr Try.underlying24 rfl rfl Try.sizeOf22 (.plain rfl)) (.n (fun _ => op_load Try.isAgg22 (.plain rfl)) (.n (fun _ => op_len (s := 0) Try.underlying22 (.plain rfl)) (.n (fun _ => op_call1 Try.call44 (.plain rfl) (upTo_fc _ ?_)) (.n (fun _ => op_call4 Try.call32 (.plain rfl) (.plain rfl) (.plain rfl) (.plain rfl) (waysAt_fc P N ?_ (zF N) 0 (upF N.length) ?_ ?_ ?_)) (.n (fun _ => op_assign (.plain rfl)) (.nil _))))))))) ?d4 ?_
          · (try simp only [foldK, foldP, foldL, Int.toNat_natCast])
            omega
          · (try simp only [foldK, foldP, foldL, Int.toNat_natCast])
            exact hT
          · (try simp only [foldK, foldP, foldL, Int.toNat_natCast])
            exact z_len
          · (try simp only [foldK, foldP, foldL, Int.toNat_natCast])
            exact up_in
          · (try simp only [foldK, foldP, foldL, Int.toNat_natCast])
            exact fun q hq => Nat.le_trans (wyU_mono (who := 0) (by simpa using hq)) (by omega)
          · kernel_rfl
          refine awp_seq ?_
          refine awp_region rfl (.n (fun _ => op_build (pp := []) (places := #[(0, 1), (1, 1)]) Try.underlying66 Try.zeroValue66 rfl (by intro w; kernel_rfl) trivial rfl) (.e (op_alloc 9 Try.zeroValue66 rfl rfl rfl) rfl (.e (op_storeRA Try.sizeOf66 (.plain rfl) (.plain rfl) rfl rfl (Nat.le_of_ble_eq_true rfl) rfl) rfl (.nil _)))) ?_
          refine awp_seq ?_
          refine awp_seq ?_
          refine awp_region rfl (.n (fun _ => op_assign (.plain rfl)) (.nil _)) ?_
          refine awp_block ?_
          refine awp_ent (Ent.beginB 9 0 2001 25 1 (List Int) [] (fun r => [.seq Int 0 (fun n => [.int .i64 n]) r]) rfl rfl (by decide) rfl rfl) ?_
          refine awp_ent (Ent.beginB 9 1 2002 25 1 (List Int) [] (fun r => [.seq Int 0 (fun n => [.int .i64 n]) r]) rfl rfl (by decide) rfl rfl) ?_
          refine awp_loop (σ := Nat) (fun (i : Nat) => i ≤ (pRow N 0).length) (fun (i : Nat) => ⟨[(1, .pv (.rd [.i P, .seq (Int × List Int × List Int × Unit) (0, [], [], ()) (fun p => [.i p.1, .ints p.2.1, .ints p.2.2.1]) N])), (2, .ref 2 0), (8, .pv (.rows (pRow N 0))), (9, .ref 9 0), (10, .int (i : Nat))], [(2, .box [.pv .nil, .pv .nil]), (9, .box [.own 2001, .own 2002]), (2001, .arr 25 1 (List Int) [] (fun r => [.seq Int 0 (fun n => [.int .i64 n]) r]) (mapr i fun i => mapr (pRow N 1).length fun j => nmF N 0 i j)), (2002, .arr 25 1 (List Int) [] (fun r => [.seq Int 0 (fun n => [.int .i64 n]) r]) (mapr i fun i => mapr (pRow N 1).length fun j => nmF N 1 i j))]⟩) (fun (i : Nat) => (pRow N 0).length - i) 0 ?_ (Ent.kept ⟨rfl, rfl, (congrArg (fun p => some (SV.pv p)) (congrArg PV.rows (by rw [upF_length]; rfl))), rfl, rfl, trivial⟩ ⟨rfl, rfl, rfl, rfl, trivial⟩) ?_
          · exact Nat.zero_le _
          rintro i hp
          try dsimp only at hp
          have hi := hp
          refine awp_seq ?_
          refine awp_seq ?_
          refine awp_region rfl (.n (fun _ => op_move (.plain rfl)) (.n (fun _ => op_move (.plain rfl)) (.n (fun _ => op_len (s := 0) Try.underlying60 (.plain rfl)) (.n (fun _ => op_lss (.plain rfl) (.plain rfl)) (.nil _))))) ?_
          refine awp_cond rfl (fun h => ?_) (fun h => ?_)
          · (try simp only [decide_eq_true_eq, decide_eq_false_iff_not, Bool.and_eq_true, Bool.or_eq_true, Bool.and_eq_false_iff, Bool.or_eq_false_iff, Bool.not_eq_true', Bool.not_eq_false', Bool.not_eq_true, Bool.not_eq_false, Bool.true_eq_false, Bool.false_eq_true] at h); (try simp only [foldK, foldP, foldL] at h)
            have hp0 := row_zero (getD_mem (l := (pRow N 0)) [] (show i < _ by omega))
            refine awp_skip ?_
            refine awp_seq ?_
            refine awp_block ?_
            refine awp_seq ?_
            refine awp_region_draw mixed rfl (.n (fun _ => op_load_agg Try.isAgg24 Try.sizeOf24 (.plain rfl) (Nat.le_of_ble_eq_true rfl)) (.n (fun _ => op_move (.plain rfl)) (.n (fun _ => op_move (.plain rfl)) (.n (fun _ => op_indexAddrN Try.underlying60 Try.sizeOf25 (.plain rfl) (.plain rfl) (fun _ => rfl) ?_) (.n (fun _ => op_load Try.isAgg25 (.plain rfl)) (.n (fun _ => op_fieldAddr Try.underlying24 rfl rfl Try.sizeOf22 (.plain rfl)) (.n (fun _ => op_load Try.isAgg22 (.plain rfl)) (.n (fun _ => op_len (s := 0) Try.underlying22 (.plain rfl)) (.n (fun _ => op_call1 Try.call44 (.plain rfl) (upTo_fc _ ?_)) (.n (fun _ => op_call4 Try.call32 (.plain rfl) (.plain rfl) (.plain rfl) (.plain rfl) (waysAt_fc P N ?_ ((pRow N 0).getD i []) 1 (upF N.length) ?_ ?_ ?_)) (.n (fun _ => op_assign (.plain rfl)) (.nil _)))))))))))) ?d5 ?_
            · (try simp only [foldK, foldP, foldL, Int.toNat_natCast])
              omega
            · (try simp only [foldK, foldP, foldL, Int.toNat_natCast])
              omega
            · (try simp only [foldK, foldP, foldL, Int.toNat_natCast])
              exact hT
            · (try simp only [foldK, foldP, foldL, Int.toNat_natCast])
              exact hp0.1
            · (try simp only [foldK, foldP, foldL, Int.toNat_natCast])
              exact up_in
            · (try simp only [foldK, foldP, foldL, Int.toNat_natCast])
              exact fun q hq => Nat.le_trans (rn_len (by omega) (by simpa using hq)) (by omega)
            · kernel_rfl
            refine awp_seq ?_
            refine awp_region rfl (.n (fun _ => op_assign (.plain rfl)) (.nil _)) ?_
            refine awp_seq ?_
            refine awp_region rfl (.n (fun _ => op_assign (.plain rfl)) (.nil _)) ?_
            refine awp_seq ?_
            refine awp_seq ?_
            refine awp_region rfl (.n (fun _ => op_assign (.plain rfl)) (.nil _)) ?_
            refine awp_block ?_
            refine awp_ent (Ent.begin 12 1012 3 1 Int 0 (fun n => [.int .i64 n]) rfl rfl rfl) ?_
            refine awp_ent (Ent.begin 13 1013 3 1 Int 0 (fun n => [.int .i64 n]) rfl rfl rfl) ?_
            refine awp_loop (σ := Nat) (fun (j : Nat) => j ≤ (rnB N i).length) (fun (j : Nat) => ⟨[(1, .pv (.rd [.i P, .seq (Int × List Int × List Int × Unit) (0, [], [], ()) (fun p => [.i p.1, .ints p.2.1, .ints p.2.2.1]) N])), (2, .ref 2 0), (8, .pv (.rows (pRow N 0))), (9, .ref 9 0), (10, .int (i : Nat)), (11, .pv (.rows (rnB N i))), (12, .own 1012), (13, .own 1013), (14, .int (j : Nat))], [(2, .box [.pv .nil, .pv .nil]), (9, .box [.own 2001, .own 2002]), (2001, .arr 25 1 (List Int) [] (fun r => [.seq Int 0 (fun n => [.int .i64 n]) r]) (mapr i fun i => mapr (pRow N 1).length fun j => nmF N 0 i j)), (2002, .arr 25 1 (List Int) [] (fun r => [.seq Int 0 (fun n => [.int .i64 n]) r]) (mapr i fun i => mapr (pRow N 1).length fun j => nmF N 1 i j)), (1012, .arr 3 1 Int 0 (fun n => [.int .i64 n]) (mapr j fun j => nmF N 0 i j)), (1013, .arr 3 1 Int 0 (fun n => [.int .i64 n]) (mapr j fun j => nmF N 1 i j))]⟩) (fun (j : Nat) => (rnB N i).length - j) 0 ?_ (Ent.kept ⟨rfl, rfl, rfl, rfl, rfl, (congrArg (fun p => some (SV.pv p)) (congrArg PV.rows (by rw [upF_length]; rfl))), rfl, rfl, rfl, trivial⟩ ⟨rfl, rfl, rfl, rfl, rfl, rfl, trivial⟩) ?_
            · exact Nat.zero_le _
            rintro j hp
            try dsimp only at hp
            have hj := hp
            have hrl0 := rnB_len (show i < (pRow N 0).length by omega)
            refine awp_seq ?_
            refine awp_seq ?_
            refine awp_region rfl (.n (fun _ => op_move (.plain rfl)) (.n (fun _ => op_move (.plain rfl)) (.n (fun _ => op_len (s := 0) Try.underlying60 (.plain rfl)) (.n (fun _ => op_lss (.plain rfl) (.plain rfl)) (.nil _))))) ?_
            refine awp_cond rfl (fun h => ?_) (fun h => ?_)
            · (try simp only [decide_eq_true_eq, decide_eq_false_iff_not, Bool.and_eq_true, Bool.or_eq_true, Bool.and_eq_false_iff, Bool.or_eq_false_iff, Bool.not_eq_true', Bool.not_eq_false', Bool.not_eq_true, Bool.not_eq_false, Bool.true_eq_false, Bool.false_eq_true] at h); (try simp only [foldK, foldP, foldL] at h)
              have hD := rnB_ok (show i < (pRow N 0).length by omega) (show j < (rnB N i).length by omega)
              have hbw := (wF_len hT hD (a := 0) (by omega)).1
              refine awp_skip ?_
              refine awp_seq ?_
              refine awp_block ?_
              refine awp_seq ?_
              refine awp_region_draw mixed rfl (.n (fun _ => op_load_agg Try.isAgg24 Try.sizeOf24 (.plain rfl) (Nat.le_of_ble_eq_true rfl)) (.n (fun _ => op_move (.plain rfl)) (.n (fun _ => op_move (.plain rfl)) (.n (fun _ => op_indexAddrN Try.underlying60 Try.sizeOf25 (.plain rfl) (.plain rfl) (fun _ => rfl) ?_) (.n (fun _ => op_load Try.isAgg25 (.plain rfl)) (.n (fun _ => op_call3 Try.call19 (.plain rfl) (.plain rfl) (.plain rfl) (Reach_fc P N ?_ _ ?_ N.length 0 _ ?_ ?_ ?_)) (.n (fun _ => op_assign (.plain rfl)) (.nil _)))))))) ?d6 ?_
              · (try simp only [foldK, foldP, foldL, Int.toNat_natCast])
                omega
              · (try simp only [foldK, foldP, foldL, Int.toNat_natCast])
                exact hT
              · (try simp only [foldK, foldP, foldL, Int.toNat_natCast])
                exact hD
              · (try simp only [foldK, foldP, foldL, Int.toNat_natCast])
                try rfl
              · (try simp only [foldK, foldP, foldL, Int.toNat_natCast])
                omega
              · (try simp only [foldK, foldP, foldL, Int.toNat_natCast])
                omega
              · kernel_rfl
              refine awp_seq ?_
              refine awp_region rfl (.n (fun _ => op_move (.plain rfl)) (.n (fun _ => op_move (.plain rfl)) (.n (fun _ => op_indexAddr Try.underlying25 Try.sizeOf3 (.plain rfl) (.plain rfl) (fun _ => rfl) ?_) (.n (fun _ => op_load Try.isAgg3 (.plain rfl)) (.n (fun _ => op_slit (pp := [(0, _)]) (α := Int) (d := 0) (f := (fun n => [.int .i64 n])) [_] ety25 rfl ⟨rfl, (.plain rfl), (by simp), trivial⟩ rfl (by decide) rfl) (.e (op_append (id' := 135) (α := Int) (d := 0) (f := (fun n => [.int .i64 n])) ety25 Try.underlying25 (fun _ => rfl) (fun _ => rfl) (.plain rfl) rfl (.plain rfl) rfl ?_) rfl (.n (fun _ => op_assign (.plain rfl)) (.nil _)))))))) ?_
              · (try simp only [foldK, foldP, foldL, Int.toNat_natCast])
                omega
              · (try simp only [foldK, foldP, foldL, Int.toNat_natCast])
                first | omega | (simp; omega)
              refine awp_region rfl (.n (fun _ => op_move (.plain rfl)) (.n (fun _ => op_move (.plain rfl)) (.n (fun _ => op_indexAddr Try.underlying25 Try.sizeOf3 (.plain rfl) (.plain rfl) (fun _ => rfl) ?_) (.n (fun _ => op_load Try.isAgg3 (.plain rfl)) (.n (fun _ => op_slit (pp := [(0, _)]) (α := Int) (d := 0) (f := (fun n => [.int .i64 n])) [_] ety25 rfl ⟨rfl, (.plain rfl), (by simp), trivial⟩ rfl (by decide) rfl) (.e (op_append (id' := 141) (α := Int) (d := 0) (f := (fun n => [.int .i64 n])) ety25 Try.underlying25 (fun _ => rfl) (fun _ => rfl) (.plain rfl) rfl (.plain rfl) rfl ?_) rfl (.n (fun _ => op_assign (.plain rfl)) (.nil _)))))))) ?_
              · (try simp only [foldK, foldP, foldL, Int.toNat_natCast])
                omega
              · (try simp only [foldK, foldP, foldL, Int.toNat_natCast])
                first | omega | (simp; omega)
              refine awp_region rfl (.n (fun _ => op_move (.plain rfl)) (.n (fun _ => op_add (.plain rfl) (.plain rfl) ?_) (.n (fun _ => op_assign (.plain rfl)) (.nil _)))) ?_
              · (try simp only [foldK, foldP, foldL, Int.toNat_natCast])
                unfold InR; omega
              exact ⟨j + 1, by omega, by dsimp only; omega, (Ent.round2 135 1012 141 1013 ⟨rfl, rfl, rfl, rfl, rfl, rfl, rfl, rfl, rfl, trivial⟩ ⟨rfl, rfl, rfl, rfl, (congrArg (fun l => some (Blk.arr 3 1 Int 0 (fun n => [.int .i64 n]) l)) (nm_snoc (by omega) (by omega))), (congrArg (fun l => some (Blk.arr 3 1 Int 0 (fun n => [.int .i64 n]) l)) (nm_snoc (by omega) (by omega))), trivial⟩ rfl rfl rfl ⟨rfl, rfl, rfl, rfl, rfl, rfl, rfl, rfl, rfl, trivial⟩ ⟨rfl, rfl, rfl, rfl, rfl, rfl, trivial⟩ rfl rfl rfl ⟨rfl, rfl, rfl, rfl, rfl, rfl, rfl, rfl, rfl, trivial⟩ ⟨rfl, rfl, rfl, rfl, rfl, rfl, trivial⟩)⟩
            · (try simp only [decide_eq_true_eq, decide_eq_false_iff_not, Bool.and_eq_true, Bool.or_eq_true, Bool.and_eq_false_iff, Bool.or_eq_false_iff, Bool.not_eq_true', Bool.not_eq_false', Bool.not_eq_true, Bool.not_eq_false, Bool.true_eq_false, Bool.false_eq_true] at h); (try simp only [foldK, foldP, foldL] at h)
              refine awp_exit ?_
              refine awp_seq ?_
              have hrl := rnB_len (show i < (pRow N 0).length by omega)
              refine awp_ent (Ent.give 12 rfl rfl) ?_
              refine awp_region rfl (.n (fun _ => op_fieldAddrR Try.underlying66 rfl rfl Try.sizeOf60 (.plain rfl)) (.r (op_loadR Try.isAgg60 (.plain rfl) rfl rfl) (.n (fun _ => op_move (.plain rfl)) (.n (fun _ => op_slit (pp := [(0, _)]) (α := (List Int)) (d := []) (f := (fun r => [.seq Int 0 (fun n => [.int .i64 n]) r])) [_] ety60 rfl ⟨rfl, (.plain rfl), (by simp), trivial⟩ rfl (by decide) rfl) (.e (op_append (id' := 146) (α := (List Int)) (d := []) (f := (fun r => [.seq Int 0 (fun n => [.int .i64 n]) r])) ety60 Try.underlying60 (fun _ => rfl) (fun _ => rfl) (.plain rfl) rfl (.plain rfl) rfl ?_) rfl (.n (fun _ => op_fieldAddrR Try.underlying66 rfl rfl Try.sizeOf60 (.plain rfl)) (.e (op_storeR Try.sizeOf60 (.plain rfl) (.plain rfl) rfl (by first | decide | exact Nat.le_of_ble_eq_true rfl) rfl (by simp) (fun i h => by cases h; exact ⟨_, _, _, _, _, _, rfl⟩)) rfl (.nil _)))))))) ?_
              · (try simp only [foldK, foldP, foldL, Int.toNat_natCast])
                first | omega | (simp; omega)
              refine awp_ent (Ent.give 13 rfl rfl) ?_
              refine awp_region rfl (.n (fun _ => op_fieldAddrR Try.underlying66 rfl rfl Try.sizeOf60 (.plain rfl)) (.r (op_loadR Try.isAgg60 (.plain rfl) rfl rfl) (.n (fun _ => op_move (.plain rfl)) (.n (fun _ => op_slit (pp := [(0, _)]) (α := (List Int)) (d := []) (f := (fun r => [.seq Int 0 (fun n => [.int .i64 n]) r])) [_] ety60 rfl ⟨rfl, (.plain rfl), (by simp), trivial⟩ rfl (by decide) rfl) (.e (op_append (id' := 152) (α := (List Int)) (d := []) (f := (fun r => [.seq Int 0 (fun n => [.int .i64 n]) r])) ety60 Try.underlying60 (fun _ => rfl) (fun _ => rfl) (.plain rfl) rfl (.plain rfl) rfl ?_) rfl (.n (fun _ => op_fieldAddrR Try.underlying66 rfl rfl Try.sizeOf60 (.plain rfl)) (.e (op_storeR Try.sizeOf60 (.plain rfl) (.plain rfl) rfl (by first | decide | exact Nat.le_of_ble_eq_true rfl) rfl (by simp) (fun i h => by cases h; exact ⟨_, _, _, _, _, _, rfl⟩)) rfl (.nil _)))))))) ?_
              · (try simp only [foldK, foldP, foldL, Int.toNat_natCast])
                first | omega | (simp; omega)
              refine awp_region rfl (.n (fun _ => op_move (.plain rfl)) (.n (fun _ => op_add (.plain rfl) (.plain rfl) ?_) (.n (fun _ => op_assign (.plain rfl)) (.nil _)))) ?_
              · (try simp only [foldK, foldP, foldL, Int.toNat_natCast])
                unfold InR; omega
              exact ⟨i + 1, by omega, by dsimp only; omega, (Ent.round2 146 2001 152 2002 ⟨rfl, rfl, rfl, rfl, rfl, trivial⟩ ⟨rfl, rfl, (congrArg (fun l => some (Blk.arr 25 1 (List Int) [] (fun r => [.seq Int 0 (fun n => [.int .i64 n]) r]) l)) (nm_row (by omega) hj (by omega))), (congrArg (fun l => some (Blk.arr 25 1 (List Int) [] (fun r => [.seq Int 0 (fun n => [.int .i64 n]) r]) l)) (nm_row (by omega) hj (by omega))), trivial⟩ rfl rfl rfl ⟨rfl, rfl, rfl, rfl, rfl, trivial⟩ ⟨rfl, rfl, rfl, rfl, trivial⟩ rfl rfl rfl ⟨rfl, rfl, rfl, rfl, rfl, trivial⟩ ⟨rfl, rfl, rfl, rfl, trivial⟩)⟩
          · (try simp only [decide_eq_true_eq, decide_eq_false_iff_not, Bool.and_eq_true, Bool.or_eq_true, Bool.and_eq_false_iff, Bool.or_eq_false_iff, Bool.not_eq_true', Bool.not_eq_false', Bool.not_eq_true, Bool.not_eq_false, Bool.true_eq_false, Bool.false_eq_true] at h); (try simp only [foldK, foldP, foldL] at h)
            refine awp_exit ?_
            refine awp_seq ?_
            refine awp_ent (Ent.giveB 9 0 2001 rfl rfl rfl) ?_
            refine awp_ent (Ent.giveB 9 1 2002 rfl rfl rfl) ?_
            refine awp_region rfl (.r (op_loadRA Try.isAgg66 Try.sizeOf66 (.plain rfl) rfl (by simp) rfl) (.e (op_storeRA Try.sizeOf66 (.plain rfl) (.plain rfl) rfl rfl (Nat.le_of_ble_eq_true rfl) rfl) rfl (.n (fun _ => op_assign (.plain rfl)) (.nil _)))) ?_
            refine awp_ret ?_
            refine retQ.ret ?_
            refine retC1 rfl rfl Try.isAgg66 Try.sizeOf66 rfl rfl ?_
            obtain rfl : i = (pRow N 0).length := by omega
            exact nm_ok (nm_0 hM hP h5)

end Go.Proofs.Ytamdkclkmijfgaa

