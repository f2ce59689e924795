/- What TopRoads says, on plain values. Conditions: each theorem names its own. -/
import Derived.Test.YtikcaphhejllpaaProg
import Derived.Test.YtikcaphhejllpaaFc
namespace Go.Proofs.Ytikcaphhejllpaa
open Go.Abs
set_option linter.unusedVariables false
set_option linter.unusedSimpArgs false


theorem stopF_bd (ch co : List (List Int)) (a : List Int) : stopF ch co a ≤ 60001 := by
  unfold stopF
  cases h : firstI (endsF ch co a) 60002 with
  | none => simp
  | some m => have := (firstI_spec h).1; simp; omega

set_option maxRecDepth 1000000 in
set_option maxHeartbeats 2000000 in
theorem TopRoads_fc (raw : List Int) (players roads : Int) (at' : List Int) (who k : Int) : FC Try.prog 4 [.ints raw, .i players, .i roads, .ints at', .i who, .i k] (.bool true) := by
  refine FC.intro Try.func4 rfl (Nat.le_of_ble_eq_true rfl) fun hfit => ?_
  obtain ⟨fitl0, fitr0⟩ := (hfit _ (.head _)).ints
  have fit1 : -9223372036854775808 ≤ (players : Int) ∧ (players : Int) ≤ 9223372036854775807 := (hfit _ (.tail _ (.head _))).int64
  have fit2 : -9223372036854775808 ≤ (roads : Int) ∧ (roads : Int) ≤ 9223372036854775807 := (hfit _ (.tail _ (.tail _ (.head _)))).int64
  obtain ⟨fitl3, fitr3⟩ := (hfit _ (.tail _ (.tail _ (.tail _ (.head _))))).ints
  have fit4 : -9223372036854775808 ≤ (who : Int) ∧ (who : Int) ≤ 9223372036854775807 := (hfit _ (.tail _ (.tail _ (.tail _ (.tail _ (.head _)))))).int64
  have fit5 : -9223372036854775808 ≤ (k : Int) ∧ (k : Int) ≤ 9223372036854775807 := (hfit _ (.tail _ (.tail _ (.tail _ (.tail _ (.tail _ (.head _))))))).int64
  have hq1 := pickF_range players 4 (by omega)
  have hq2 := pickF_range roads 5 (by omega)
  refine awp_seq ?_
  refine awp_region rfl (.n (fun _ => op_assign (.plain rfl)) (.nil _)) ?_
  refine awp_seq ?_
  refine awp_seq ?_
  refine awp_region rfl (.n (fun _ => op_move (.plain rfl)) (.n (fun _ => op_len (s := 0) Try.underlying25 (.plain rfl)) (.n (fun _ => op_move (.plain rfl)) (.n (fun _ => op_len (s := 0) Try.underlying25 (.plain rfl)) (.n (fun _ => op_add (.plain rfl) (.plain rfl) ?_) (.n (fun _ => op_gtr (.plain rfl) (.plain rfl)) (.nil _))))))) ?_
  · unfold InR; omega
  refine awp_cond rfl (fun h => ?_) (fun h => ?_)
  · try simp only [decide_eq_true_eq, decide_eq_false_iff_not, Bool.and_eq_true, Bool.or_eq_true, Bool.and_eq_false_iff, Bool.or_eq_false_iff, Bool.not_eq_true', Bool.not_eq_false', Bool.not_eq_true, Bool.not_eq_false, Bool.true_eq_false, Bool.false_eq_true] at h
    refine awp_seq ?_
    refine awp_region rfl (.n (fun _ => op_assign (.plain rfl)) (.nil _)) ?_
    refine awp_ret ?_
    refine retQ.ret ?_
    refine ret1 rfl rfl rfl ?_
    rfl
  · try simp only [decide_eq_true_eq, decide_eq_false_iff_not, Bool.and_eq_true, Bool.or_eq_true, Bool.and_eq_false_iff, Bool.or_eq_false_iff, Bool.not_eq_true', Bool.not_eq_false', Bool.not_eq_true, Bool.not_eq_false, Bool.true_eq_false, Bool.false_eq_true] at h
    refine awp_skip ?_
    refine awp_seq ?_
    refine awp_region rfl (.n (fun _ => op_move (.plain rfl)) (.n (fun _ => op_call2 Try.call17 (.plain rfl) (.plain rfl) (Pick_fc _ _ ?_)) (.n (fun _ => op_add (.plain rfl) (.plain rfl) ?_) (.n (fun _ => op_assign (.plain rfl)) (.nil _))))) ?_
    · omega
    · unfold InR; omega
    refine awp_seq ?_
    obtain ⟨n, hn⟩ : ∃ n : Nat, 1 + pickF players 4 = n := ⟨(1 + pickF players 4).toNat, by omega⟩
    rw [hn]
    have hpl : 1 ≤ n ∧ n ≤ 4 := by omega
    refine awp_region rfl (.n (fun _ => op_move (.plain rfl)) (.n (fun _ => op_move (.plain rfl)) (.n (fun _ => op_move (.plain rfl)) (.n (fun _ => op_call2 Try.call17 (.plain rfl) (.plain rfl) (Pick_fc _ _ ?_)) (.n (fun _ => op_add (.plain rfl) (.plain rfl) ?_) (.n (fun _ => op_call3 Try.call18 (.plain rfl) (.plain rfl) (.plain rfl) (RoadsOf_fcI _ _ _ ?_ ?_)) (.e (op_alloc 13 Try.zeroValue24 rfl rfl rfl) rfl (.e (op_storeRA Try.sizeOf24 (.plain rfl) (.plain rfl) rfl rfl (Nat.le_of_ble_eq_true rfl) rfl) rfl (.nil _))))))))) ?_
    · omega
    · unfold InR; omega
    · omega
    · omega
    refine awp_seq ?_
    generalize hR : (1 + pickF roads 5).toNat = R
    have hro : 1 ≤ R ∧ R ≤ 5 := by omega
    generalize hch : mapr n (chRow raw R) = ch
    generalize hco : mapr R (coRow raw n) = co
    obtain ⟨⟨hcl, hcr⟩, hmk⟩ := made_ok' hch hco hpl hro
    refine awp_region rfl (.n (fun _ => op_assign (.plain rfl)) (.nil _)) ?_
    refine awp_seq ?_
    refine awp_seq ?_
    refine awp_region rfl (.n (fun _ => op_assign (.plain rfl)) (.nil _)) ?_
    refine awp_block ?_
    refine awp_ent (Ent.begin 14 1014 3 1 Int 0 (fun n => [.int .i64 n]) rfl rfl rfl) ?_
    refine awp_loop (σ := Nat) (fun (i : Nat) => i ≤ n) (fun (i : Nat) => ⟨[(13, .ref 13 0), (1, .int (n : Nat)), (3, .pv (.ints at')), (4, .pv (.i who)), (5, .pv (.i k)), (14, .own 1014), (15, .int (i : Nat))], [(13, .box [.pv (.rows ch), .pv (.rows co)]), (1014, .arr 3 1 Int 0 (fun n => [.int .i64 n]) (mapr i (picksF ch at')))]⟩) (fun (i : Nat) => n - i) 0 ?_ (Ent.kept ⟨rfl, rfl, rfl, rfl, rfl, rfl, rfl, trivial⟩ ⟨rfl, rfl, trivial⟩) ?_
    · simp
    rintro i hp
    try dsimp only at hp
    have hci := hcr i
    refine awp_seq ?_
    refine awp_seq ?_
    refine awp_region rfl (.n (fun _ => op_move (.plain rfl)) (.n (fun _ => op_move (.plain rfl)) (.n (fun _ => op_lss (.plain rfl) (.plain rfl)) (.nil _)))) ?_
    refine awp_cond rfl (fun h => ?_) (fun h => ?_)
    · try simp only [decide_eq_true_eq, decide_eq_false_iff_not, Bool.and_eq_true, Bool.or_eq_true, Bool.and_eq_false_iff, Bool.or_eq_false_iff, Bool.not_eq_true', Bool.not_eq_false', Bool.not_eq_true, Bool.not_eq_false, Bool.true_eq_false, Bool.false_eq_true] at h
      refine awp_skip ?_
      refine awp_seq ?_
      refine awp_block ?_
      refine awp_region_draw mixed rfl (.n (fun _ => op_move (.plain rfl)) (.n (fun _ => op_move (.plain rfl)) (.n (fun _ => op_move (.plain rfl)) (.n (fun _ => op_call2 Try.call19 (.plain rfl) (.plain rfl) (At_fc _ i)) (.n (fun _ => op_fieldAddrR Try.underlying24 rfl rfl Try.sizeOf22 (.plain rfl)) (.r (op_loadR Try.isAgg22 (.plain rfl) rfl rfl) (.n (fun _ => op_move (.plain rfl)) (.n (fun _ => op_indexAddrN Try.underlying22 Try.sizeOf25 (.plain rfl) (.plain rfl) (fun _ => rfl) ?_) (.n (fun _ => op_load Try.isAgg25 (.plain rfl)) (.n (fun _ => op_len (s := 0) Try.underlying25 (.plain rfl)) (.n (fun _ => op_call2 Try.call17 (.plain rfl) (.plain rfl) (Pick_fc _ _ ?_)) (.n (fun _ => op_slit (pp := [(0, _)]) (α := Int) (d := 0) (f := (fun n => [.int .i64 n])) [_] ety25 rfl ⟨rfl, (.plain rfl), (by simp), trivial⟩ rfl (by decide) rfl) (.e (op_append (id' := 65) (α := Int) (d := 0) (f := (fun n => [.int .i64 n])) ety25 Try.underlying25 (fun _ => rfl) (fun _ => rfl) (.plain rfl) rfl (.plain rfl) rfl ?_) rfl (.n (fun _ => op_assign (.plain rfl)) (.nil _))))))))))))))) ?d1 ?_
      · omega
      · omega
      · first | omega | (simp; omega)
      · kernel_rfl
      refine awp_region rfl (.n (fun _ => op_move (.plain rfl)) (.n (fun _ => op_add (.plain rfl) (.plain rfl) ?_) (.n (fun _ => op_assign (.plain rfl)) (.nil _)))) ?_
      · unfold InR; omega
      exact ⟨i + 1, by omega, by dsimp only; omega, (Ent.round 65 1014 ⟨rfl, rfl, rfl, rfl, rfl, rfl, rfl, trivial⟩ ⟨rfl, (congrArg (fun l => some (Blk.arr 3 1 Int 0 (fun n => [.int .i64 n]) l)) ((mapr_succ _ _).symm)), trivial⟩ rfl rfl rfl ⟨rfl, rfl, rfl, rfl, rfl, rfl, rfl, trivial⟩ ⟨rfl, rfl, trivial⟩)⟩
    · try simp only [decide_eq_true_eq, decide_eq_false_iff_not, Bool.and_eq_true, Bool.or_eq_true, Bool.and_eq_false_iff, Bool.or_eq_false_iff, Bool.not_eq_true', Bool.not_eq_false', Bool.not_eq_true, Bool.not_eq_false, Bool.true_eq_false, Bool.false_eq_true] at h
      refine awp_exit ?_
      refine awp_seq ?_
      obtain rfl : n = i := by omega
      refine awp_region rfl (.n (fun _ => op_move (.plain rfl)) (.n (fun _ => op_move (.plain rfl)) (.n (fun _ => op_call2 Try.call17 (.plain rfl) (.plain rfl) (Pick_fc _ _ ?_)) (.n (fun _ => op_assign (.plain rfl)) (.nil _))))) ?_
      · omega
      refine awp_seq ?_
      have hwr := pickF_range who n (by omega)
      obtain ⟨w, hw⟩ : ∃ w : Nat, pickF who n = w := ⟨(pickF who n).toNat, by omega⟩
      rw [hw]
      have hwn : w < n := by omega
      have hal : (mapr n (picksF ch at')).length = n := mapr_length _ _
      have hag : ∀ i, i < n → (mapr n (picksF ch at')).getD i 0 = picksF ch at' i := fun i hi => mapr_getD _ hi
      have hoka : AtOk ch co (mapr n (picksF ch at')) := hmk _ hal fun i hi => by rw [hag i hi]; exact pickF_range _ _ (by have := hcr i hi; omega)
      have hcw := hcr w hwn
      have hcw2 : (ch.getD ((w : Nat) : Int).toNat []).length = (ch.getD w []).length := rfl
      have hkr := pickF_range k (ch.getD ((w : Nat) : Int).toNat []).length (by omega)
      have hokb : AtOk ch co (([] ++ mapr n (picksF ch at')).set ((w : Nat) : Int).toNat (pickF k (ch.getD ((w : Nat) : Int).toNat []).length)) := hoka.set (i := w) (by omega) hkr
      have hea := hoka.atE
      have heb := hokb.atE
      have hne : (([] : List Int) ++ (mapr n (picksF ch at'))).length = n := hal
      have hbl : (([] ++ mapr n (picksF ch at')).set ((w : Nat) : Int).toNat (pickF k (ch.getD ((w : Nat) : Int).toNat []).length)).length = n := by rw [List.length_set]; exact hne
      refine awp_ent (Ent.give 14 rfl rfl) ?_
      refine awp_region rfl (.e (op_slitO (pp := []) (α := Int) (d := 0) (f := (fun n => [.int .i64 n])) 69 [] ety25 rfl trivial rfl (by decide) rfl (fun _ => rfl) rfl) rfl (.n (fun _ => op_move (.plain rfl)) (.e (op_append (id' := 71) (α := Int) (d := 0) (f := (fun n => [.int .i64 n])) ety25 Try.underlying25 (fun _ => rfl) (fun _ => rfl) (.plain rfl) rfl (.plain rfl) rfl ?_) rfl (.n (fun _ => op_assign (.plain rfl)) (.nil _))))) ?_
      · first | omega | (simp; omega)
      refine awp_seq ?_
      refine awp_region rfl (.n (fun _ => op_move (.plain rfl)) (.n (fun _ => op_move (.plain rfl)) (.n (fun _ => op_move (.plain rfl)) (.n (fun _ => op_fieldAddrR Try.underlying24 rfl rfl Try.sizeOf22 (.plain rfl)) (.r (op_loadR Try.isAgg22 (.plain rfl) rfl rfl) (.n (fun _ => op_move (.plain rfl)) (.n (fun _ => op_indexAddr Try.underlying22 Try.sizeOf25 (.plain rfl) (.plain rfl) (fun _ => rfl) ?_) (.n (fun _ => op_load Try.isAgg25 (.plain rfl)) (.n (fun _ => op_len (s := 0) Try.underlying25 (.plain rfl)) (.n (fun _ => op_call2 Try.call17 (.plain rfl) (.plain rfl) (Pick_fc _ _ ?_)) (.r (op_indexAddrO Try.underlying25 Try.sizeOf3 (.plain rfl) rfl (.plain rfl) ?_) (.e (op_storeE _ Try.sizeOf3 (.plain rfl) (.plain rfl) rfl (fun _ => rfl) ?_ (by decide) rfl rfl) rfl (.nil _))))))))))))) ?_
      · omega
      · omega
      · first | omega | (simp; omega)
      · first | omega | (simp; omega)
      refine awp_seq ?_
      refine awp_region rfl (.r (op_loadRA Try.isAgg24 Try.sizeOf24 (.plain rfl) rfl (by simp) rfl) (.n (fun _ => op_move (.plain rfl)) (.n (fun _ => op_call2 Try.call7 (.plain rfl) (.plain rfl) (Cost_fc _ _ _)) (.n (fun _ => op_move (.plain rfl)) (.n (fun _ => op_extract (.plain rfl) rfl) (.n (fun _ => op_extract (.plain rfl) rfl) (.n (fun _ => op_assign (.plain rfl)) (.n (fun _ => op_assign (.plain rfl)) (.nil _))))))))) ?_
      refine awp_seq ?_
      refine awp_ent (Ent.give 16 rfl rfl) ?_
      refine awp_region rfl (.r (op_loadRA Try.isAgg24 Try.sizeOf24 (.plain rfl) rfl (by simp) rfl) (.n (fun _ => op_move (.plain rfl)) (.n (fun _ => op_call2 Try.call7 (.plain rfl) (.plain rfl) (Cost_fc _ _ _)) (.n (fun _ => op_move (.plain rfl)) (.n (fun _ => op_extract (.plain rfl) rfl) (.n (fun _ => op_extract (.plain rfl) rfl) (.n (fun _ => op_assign (.plain rfl)) (.n (fun _ => op_assign (.plain rfl)) (.nil _))))))))) ?_
      refine awp_seq ?_
      refine awp_region rfl (.r (op_loadRA Try.isAgg24 Try.sizeOf24 (.plain rfl) rfl (by simp) rfl) (.n (fun _ => op_move (.plain rfl)) (.n (fun _ => op_call2 Try.call8 (.plain rfl) (.plain rfl) (Height_fc _ _ _)) (.n (fun _ => op_move (.plain rfl)) (.n (fun _ => op_extract (.plain rfl) rfl) (.n (fun _ => op_extract (.plain rfl) rfl) (.n (fun _ => op_assign (.plain rfl)) (.n (fun _ => op_assign (.plain rfl)) (.nil _))))))))) ?_
      refine awp_seq ?_
      refine awp_region rfl (.r (op_loadRA Try.isAgg24 Try.sizeOf24 (.plain rfl) rfl (by simp) rfl) (.n (fun _ => op_move (.plain rfl)) (.n (fun _ => op_call2 Try.call8 (.plain rfl) (.plain rfl) (Height_fc _ _ _)) (.n (fun _ => op_move (.plain rfl)) (.n (fun _ => op_extract (.plain rfl) rfl) (.n (fun _ => op_extract (.plain rfl) rfl) (.n (fun _ => op_assign (.plain rfl)) (.n (fun _ => op_assign (.plain rfl)) (.nil _))))))))) ?_
      refine awp_seq ?_
      refine awp_seq ?_
      simp only [hea, heb, ↓reduceIte]
      have hros : heightF ch co (([] ++ mapr n (picksF ch at')).set ((w : Nat) : Int).toNat (pickF k (ch.getD ((w : Nat) : Int).toNat []).length)) - heightF ch co (mapr n (picksF ch at')) = costF ch co (([] ++ mapr n (picksF ch at')).set ((w : Nat) : Int).toNat (pickF k (ch.getD ((w : Nat) : Int).toNat []).length)) w - costF ch co (mapr n (picksF ch at')) w := rosenthal _ (by omega)
      have hly : (mapr (([] ++ mapr n (picksF ch at')).set ((w : Nat) : Int).toNat (pickF k (ch.getD ((w : Nat) : Int).toNat []).length)).length (costF ch co (([] ++ mapr n (picksF ch at')).set ((w : Nat) : Int).toNat (pickF k (ch.getD ((w : Nat) : Int).toNat []).length)))).length = n := by rw [mapr_length, hbl]
      have hlx : (mapr (mapr n (picksF ch at')).length (costF ch co (mapr n (picksF ch at')))).length = n := by rw [mapr_length, hal]
      have hgy : (mapr (([] ++ mapr n (picksF ch at')).set ((w : Nat) : Int).toNat (pickF k (ch.getD ((w : Nat) : Int).toNat []).length)).length (costF ch co (([] ++ mapr n (picksF ch at')).set ((w : Nat) : Int).toNat (pickF k (ch.getD ((w : Nat) : Int).toNat []).length)))).getD ((w : Nat) : Int).toNat 0 = costF ch co (([] ++ mapr n (picksF ch at')).set ((w : Nat) : Int).toNat (pickF k (ch.getD ((w : Nat) : Int).toNat []).length)) w := mapr_getD _ (by omega)
      have hgx : (mapr (mapr n (picksF ch at')).length (costF ch co (mapr n (picksF ch at')))).getD ((w : Nat) : Int).toNat 0 = costF ch co (mapr n (picksF ch at')) w := mapr_getD _ (by omega)
      have hba : -10000 ≤ costF ch co (mapr n (picksF ch at')) w ∧ costF ch co (mapr n (picksF ch at')) w ≤ 10000 := costF_bd hoka w (by omega) co.length (Nat.le_refl _)
      have hbb : -10000 ≤ costF ch co (([] ++ mapr n (picksF ch at')).set ((w : Nat) : Int).toNat (pickF k (ch.getD ((w : Nat) : Int).toNat []).length)) w ∧ costF ch co (([] ++ mapr n (picksF ch at')).set ((w : Nat) : Int).toNat (pickF k (ch.getD ((w : Nat) : Int).toNat []).length)) w ≤ 10000 := costF_bd hokb w (by omega) co.length (Nat.le_refl _)
      have hha : -30000 ≤ heightF ch co (mapr n (picksF ch at')) ∧ heightF ch co (mapr n (picksF ch at')) ≤ 30000 := heightF_bd hoka (Nat.le_refl _)
      have hhb : -30000 ≤ heightF ch co (([] ++ mapr n (picksF ch at')).set ((w : Nat) : Int).toNat (pickF k (ch.getD ((w : Nat) : Int).toNat []).length)) ∧ heightF ch co (([] ++ mapr n (picksF ch at')).set ((w : Nat) : Int).toNat (pickF k (ch.getD ((w : Nat) : Int).toNat []).length)) ≤ 30000 := heightF_bd hokb (Nat.le_refl _)
      refine awp_region_draw mixed rfl (.n (fun _ => op_move (.plain rfl)) (.n (fun _ => op_neq (.plain rfl) (.plain rfl)) (.n (fun _ => op_move (.plain rfl)) (.gn rfl rfl (fun hg _ => op_move (.plain rfl)) (.gn rfl rfl (fun hg _ => op_neq (.opt rfl fun h => h) (.plain rfl)) (.n (fun _ => op_or (.plain rfl) (.plain rfl) (.plain rfl) (fun h => eqF h)) (.n (fun _ => op_move (.plain rfl)) (.gn rfl rfl (fun hg _ => op_move (.plain rfl)) (.gn rfl rfl (fun hg _ => op_neq (.opt rfl fun h => h) (.plain rfl)) (.n (fun _ => op_or (.plain rfl) (.plain rfl) (.plain rfl) (fun h => eqF h)) (.n (fun _ => op_move (.plain rfl)) (.gn rfl rfl (fun hg _ => op_move (.plain rfl)) (.gn rfl rfl (fun hg _ => op_neq (.opt rfl fun h => h) (.plain rfl)) (.n (fun _ => op_or (.plain rfl) (.plain rfl) (.plain rfl) (fun h => eqF h)) (.n (fun _ => op_move (.plain rfl)) (.gn rfl rfl (fun hg _ => op_move (.plain rfl)) (.gn rfl rfl (fun hg _ => op_len (s := 0) Try.underlying25 (.opt rfl fun h => h)) (.gn rfl rfl (fun hg _ => op_move (.plain rfl)) (.gn rfl rfl (fun hg _ => op_neq (.opt rfl fun h => h) (.opt rfl fun h => h)) (.n (fun _ => op_or (.plain rfl) (.plain rfl) (.plain rfl) (fun h => eqF h)) (.n (fun _ => op_move (.plain rfl)) (.gn rfl rfl (fun hg _ => op_move (.plain rfl)) (.gn rfl rfl (fun hg _ => op_len (s := 0) Try.underlying25 (.opt rfl fun h => h)) (.gn rfl rfl (fun hg _ => op_move (.plain rfl)) (.gn rfl rfl (fun hg _ => op_neq (.opt rfl fun h => h) (.opt rfl fun h => h)) (.n (fun _ => op_or (.plain rfl) (.plain rfl) (.plain rfl) (fun h => eqF h)) (.n (fun _ => op_move (.plain rfl)) (.gn rfl rfl (fun hg _ => op_move (.plain rfl)) (.gn rfl rfl (fun hg _ => op_move (.plain rfl)) (.gn rfl rfl (fun hg _ => op_indexAddr Try.underlying25 Try.sizeOf3 (.opt rfl fun h => h) (.opt rfl fun h => h) (fun _ => rfl) ?_) (.gn rfl rfl (fun hg _ => op_load Try.isAgg3 (.opt rfl fun h => h)) (.gn rfl rfl (fun hg _ => op_move (.plain rfl)) (.gn rfl rfl (fun hg _ => op_move (.plain rfl)) (.gn rfl rfl (fun hg _ => op_indexAddr Try.underlying25 Try.sizeOf3 (.opt rfl fun h => h) (.opt rfl fun h => h) (fun _ => rfl) ?_) (.gn rfl rfl (fun hg _ => op_load Try.isAgg3 (.opt rfl fun h => h)) (.gn rfl rfl (fun hg _ => op_sub (.opt rfl fun h => h) (.opt rfl fun h => h) ?_) (.gn rfl rfl (fun hg _ => op_move (.plain rfl)) (.gn rfl rfl (fun hg _ => op_move (.plain rfl)) (.gn rfl rfl (fun hg _ => op_sub (.opt rfl fun h => h) (.opt rfl fun h => h) ?_) (.gn rfl rfl (fun hg _ => op_neq (.opt rfl fun h => h) (.opt rfl fun h => h)) (.n (fun _ => op_or (.plain rfl) (.plain rfl) (.plain rfl) (fun h => eqF h)) (.nil _)))))))))))))))))))))))))))))))))))))))))) ?d2 ?_
      · try simp only [beq_iff_eq, beq_true, beq_false, Bool.and_eq_true, decide_eq_true_eq, decide_eq_false_iff_not, Bool.not_eq_true', Bool.or_eq_true, Bool.or_eq_false_iff] at hg
        omega
      · try simp only [beq_iff_eq, beq_true, beq_false, Bool.and_eq_true, decide_eq_true_eq, decide_eq_false_iff_not, Bool.not_eq_true', Bool.or_eq_true, Bool.or_eq_false_iff] at hg
        omega
      · try simp only [beq_iff_eq, beq_true, beq_false, Bool.and_eq_true, decide_eq_true_eq, decide_eq_false_iff_not, Bool.not_eq_true', Bool.or_eq_true, Bool.or_eq_false_iff] at hg
        unfold InR; omega
      · try simp only [beq_iff_eq, beq_true, beq_false, Bool.and_eq_true, decide_eq_true_eq, decide_eq_false_iff_not, Bool.not_eq_true', Bool.or_eq_true, Bool.or_eq_false_iff] at hg
        unfold InR; omega
      · kernel_rfl
      refine awp_cond rfl (fun h => ?_) (fun h => ?_)
      · try simp only [decide_eq_true_eq, decide_eq_false_iff_not, Bool.and_eq_true, Bool.or_eq_true, Bool.and_eq_false_iff, Bool.or_eq_false_iff, Bool.not_eq_true', Bool.not_eq_false', Bool.not_eq_true, Bool.not_eq_false, Bool.true_eq_false, Bool.false_eq_true] at h
        exfalso
        rcases h with (((((h | h) | h) | h) | h) | h) | h
        · exact h trivial
        · exact h trivial
        · exact h trivial
        · exact h trivial
        · omega
        · omega
        · omega
      · try simp only [decide_eq_true_eq, decide_eq_false_iff_not, Bool.and_eq_true, Bool.or_eq_true, Bool.and_eq_false_iff, Bool.or_eq_false_iff, Bool.not_eq_true', Bool.not_eq_false', Bool.not_eq_true, Bool.not_eq_false, Bool.true_eq_false, Bool.false_eq_true] at h
        refine awp_skip ?_
        refine awp_seq ?_
        refine awp_region rfl (.r (op_loadRA Try.isAgg24 Try.sizeOf24 (.plain rfl) rfl (by simp) rfl) (.n (fun _ => op_move (.plain rfl)) (.n (fun _ => op_call2 Try.call9 (.plain rfl) (.plain rfl) (Settle_fc _ _ _)) (.n (fun _ => op_move (.plain rfl)) (.n (fun _ => op_extract (.plain rfl) rfl) (.n (fun _ => op_extract (.plain rfl) rfl) (.n (fun _ => op_assign (.plain rfl)) (.n (fun _ => op_assign (.plain rfl)) (.nil _))))))))) ?_
        refine awp_seq ?_
        refine awp_seq ?_
        simp only [hea, ↓reduceIte]
        have hsf := settle_first ch co (mapr n (picksF ch at'))
        have hsl : (settleF ch co (mapr n (picksF ch at'))).length = stopF ch co (mapr n (picksF ch at')) + 1 := mapr_length _ _
        have hsb := stopF_bd ch co (mapr n (picksF ch at'))
        refine awp_region rfl (.n (fun _ => op_move (.plain rfl)) (.n (fun _ => op_neq (.plain rfl) (.plain rfl)) (.n (fun _ => op_move (.plain rfl)) (.gn rfl rfl (fun hg _ => op_move (.plain rfl)) (.gn rfl rfl (fun hg _ => op_len (s := 0) Try.underlying22 (.opt rfl fun h => h)) (.gn rfl rfl (fun hg _ => op_eql (.opt rfl fun h => h) (.plain rfl)) (.n (fun _ => op_or (.plain rfl) (.plain rfl) (.plain rfl) (fun h => eqF h)) (.n (fun _ => op_move (.plain rfl)) (.gn rfl rfl (fun hg _ => op_move (.plain rfl)) (.gn rfl rfl (fun hg _ => op_indexAddr Try.underlying22 Try.sizeOf25 (.opt rfl fun h => h) (.plain rfl) (fun _ => rfl) ?_) (.gn rfl rfl (fun hg _ => op_load Try.isAgg25 (.opt rfl fun h => h)) (.gn rfl rfl (fun hg _ => op_move (.plain rfl)) (.gn rfl rfl (fun hg _ => op_call2 Try.call20 (.opt rfl fun h => h) (.opt rfl fun h => h) (same_fc _ _)) (.gn rfl rfl (fun hg _ => op_not (.opt rfl fun h => h)) (.n (fun _ => op_or (.plain rfl) (.plain rfl) (.plain rfl) (fun h => eqF h)) (.nil _)))))))))))))))) ?_
        · try simp only [beq_iff_eq, beq_true, beq_false, Bool.and_eq_true, decide_eq_true_eq, decide_eq_false_iff_not, Bool.not_eq_true', Bool.or_eq_true, Bool.or_eq_false_iff] at hg
          omega
        refine awp_cond rfl (fun h => ?_) (fun h => ?_)
        · try simp only [decide_eq_true_eq, decide_eq_false_iff_not, Bool.and_eq_true, Bool.or_eq_true, Bool.and_eq_false_iff, Bool.or_eq_false_iff, Bool.not_eq_true', Bool.not_eq_false', Bool.not_eq_true, Bool.not_eq_false, Bool.true_eq_false, Bool.false_eq_true] at h
          exfalso
          rcases h with (h | h) | h
          · exact h trivial
          · omega
          · exact h hsf
        · try simp only [decide_eq_true_eq, decide_eq_false_iff_not, Bool.and_eq_true, Bool.or_eq_true, Bool.and_eq_false_iff, Bool.or_eq_false_iff, Bool.not_eq_true', Bool.not_eq_false', Bool.not_eq_true, Bool.not_eq_false, Bool.true_eq_false, Bool.false_eq_true] at h
          refine awp_skip ?_
          refine awp_seq ?_
          refine awp_region rfl (.n (fun _ => op_move (.plain rfl)) (.n (fun _ => op_move (.plain rfl)) (.n (fun _ => op_len (s := 0) Try.underlying22 (.plain rfl)) (.n (fun _ => op_sub (.plain rfl) (.plain rfl) ?_) (.n (fun _ => op_indexAddr Try.underlying22 Try.sizeOf25 (.plain rfl) (.plain rfl) (fun _ => rfl) ?_) (.n (fun _ => op_load Try.isAgg25 (.plain rfl)) (.n (fun _ => op_assign (.plain rfl)) (.nil _)))))))) ?_
          · unfold InR; omega
          · omega
          refine awp_seq ?_
          rw [settle_last]
          obtain ⟨hokz, hnone⟩ := stopF_spec hoka
          generalize pathF ch co (mapr n (picksF ch at')) (stopF ch co (mapr n (picksF ch at'))) = z at *
          have hzl : z.length = n := by rw [hokz.nat', hcl]
          have hez := hokz.atE
          refine awp_region rfl (.r (op_loadRA Try.isAgg24 Try.sizeOf24 (.plain rfl) rfl (by simp) rfl) (.n (fun _ => op_move (.plain rfl)) (.n (fun _ => op_call2 Try.call7 (.plain rfl) (.plain rfl) (Cost_fc _ _ _)) (.n (fun _ => op_move (.plain rfl)) (.n (fun _ => op_extract (.plain rfl) rfl) (.n (fun _ => op_extract (.plain rfl) rfl) (.n (fun _ => op_assign (.plain rfl)) (.n (fun _ => op_assign (.plain rfl)) (.nil _))))))))) ?_
          refine awp_seq ?_
          refine awp_seq ?_
          simp only [hez, ↓reduceIte]
          refine awp_region rfl (.n (fun _ => op_move (.plain rfl)) (.n (fun _ => op_neq (.plain rfl) (.plain rfl)) (.n (fun _ => op_move (.plain rfl)) (.gn rfl rfl (fun hg _ => op_move (.plain rfl)) (.gn rfl rfl (fun hg _ => op_len (s := 0) Try.underlying25 (.opt rfl fun h => h)) (.gn rfl rfl (fun hg _ => op_move (.plain rfl)) (.gn rfl rfl (fun hg _ => op_neq (.opt rfl fun h => h) (.opt rfl fun h => h)) (.n (fun _ => op_or (.plain rfl) (.plain rfl) (.plain rfl) (fun h => eqF h)) (.nil _))))))))) ?_
          refine awp_cond rfl (fun h => ?_) (fun h => ?_)
          · try simp only [decide_eq_true_eq, decide_eq_false_iff_not, Bool.and_eq_true, Bool.or_eq_true, Bool.and_eq_false_iff, Bool.or_eq_false_iff, Bool.not_eq_true', Bool.not_eq_false', Bool.not_eq_true, Bool.not_eq_false, Bool.true_eq_false, Bool.false_eq_true] at h
            exfalso
            rcases h with h | h
            · exact h trivial
            · omega
          · try simp only [decide_eq_true_eq, decide_eq_false_iff_not, Bool.and_eq_true, Bool.or_eq_true, Bool.and_eq_false_iff, Bool.or_eq_false_iff, Bool.not_eq_true', Bool.not_eq_false', Bool.not_eq_true, Bool.not_eq_false, Bool.true_eq_false, Bool.false_eq_true] at h
            refine awp_skip ?_
            refine awp_seq ?_
            refine awp_seq ?_
            refine awp_region rfl (.n (fun _ => op_assign (.plain rfl)) (.nil _)) ?_
            refine awp_block ?_
            refine awp_loop (σ := Nat) (fun (i : Nat) => i ≤ n) (fun (i : Nat) => ⟨[(13, .ref 13 0), (1, .int (n : Nat)), (26, .pv (.ints z)), (27, .pv (.ints (mapr z.length (costF ch co z)))), (28, .int (i : Nat))], [(13, .box [.pv (.rows ch), .pv (.rows co)])]⟩) (fun (i : Nat) => n - i) 0 ?_ (Ent.kept ⟨rfl, rfl, rfl, rfl, rfl, trivial⟩ ⟨rfl, trivial⟩) ?_
            · simp
            rintro i hp
            try dsimp only at hp
            refine awp_seq ?_
            refine awp_seq ?_
            refine awp_region rfl (.n (fun _ => op_move (.plain rfl)) (.n (fun _ => op_move (.plain rfl)) (.n (fun _ => op_lss (.plain rfl) (.plain rfl)) (.nil _)))) ?_
            refine awp_cond rfl (fun h => ?_) (fun h => ?_)
            · try simp only [decide_eq_true_eq, decide_eq_false_iff_not, Bool.and_eq_true, Bool.or_eq_true, Bool.and_eq_false_iff, Bool.or_eq_false_iff, Bool.not_eq_true', Bool.not_eq_false', Bool.not_eq_true, Bool.not_eq_false, Bool.true_eq_false, Bool.false_eq_true] at h
              refine awp_skip ?_
              refine awp_seq ?_
              refine awp_block ?_
              refine awp_seq ?_
              refine awp_region rfl (.n (fun _ => op_assign (.plain rfl)) (.nil _)) ?_
              refine awp_block ?_
              refine awp_loop (σ := Nat) (fun (j : Nat) => j ≤ (ch.getD i []).length) (fun (j : Nat) => ⟨[(13, .ref 13 0), (1, .int (n : Nat)), (26, .pv (.ints z)), (27, .pv (.ints (mapr z.length (costF ch co z)))), (28, .int (i : Nat)), (29, .int (j : Nat))], [(13, .box [.pv (.rows ch), .pv (.rows co)])]⟩) (fun (j : Nat) => (ch.getD i []).length - j) 0 ?_ (Ent.kept ⟨rfl, rfl, rfl, rfl, rfl, rfl, trivial⟩ ⟨rfl, trivial⟩) ?_
              · simp
              rintro j hp
              try dsimp only at hp
              have hci := hcr i
              have hnez : (([] : List Int) ++ z).length = n := hzl
              have hcll : (([] ++ z).set i ((j : Nat) : Int)).length = n := by rw [List.length_set]; exact hnez
              have hlc : (mapr (([] ++ z).set i ((j : Nat) : Int)).length (costF ch co (([] ++ z).set i ((j : Nat) : Int)))).length = n := by rw [mapr_length, hcll]
              have hlz : (mapr z.length (costF ch co z)).length = n := by rw [mapr_length, hzl]
              have hgc : i < n → (mapr (([] ++ z).set i ((j : Nat) : Int)).length (costF ch co (([] ++ z).set i ((j : Nat) : Int)))).getD i 0 = costF ch co (([] ++ z).set i ((j : Nat) : Int)) i := fun h => mapr_getD _ (by omega)
              have hgz : i < n → (mapr z.length (costF ch co z)).getD i 0 = costF ch co z i := fun h => mapr_getD _ (by omega)
              refine awp_seq ?_
              refine awp_seq ?_
              refine awp_region rfl (.n (fun _ => op_move (.plain rfl)) (.n (fun _ => op_fieldAddrR Try.underlying24 rfl rfl Try.sizeOf22 (.plain rfl)) (.r (op_loadR Try.isAgg22 (.plain rfl) rfl rfl) (.n (fun _ => op_move (.plain rfl)) (.n (fun _ => op_indexAddrN Try.underlying22 Try.sizeOf25 (.plain rfl) (.plain rfl) (fun _ => rfl) ?_) (.n (fun _ => op_load Try.isAgg25 (.plain rfl)) (.n (fun _ => op_len (s := 0) Try.underlying25 (.plain rfl)) (.n (fun _ => op_lss (.plain rfl) (.plain rfl)) (.nil _))))))))) ?_
              · omega
              refine awp_cond rfl (fun h => ?_) (fun h => ?_)
              · try simp only [decide_eq_true_eq, decide_eq_false_iff_not, Bool.and_eq_true, Bool.or_eq_true, Bool.and_eq_false_iff, Bool.or_eq_false_iff, Bool.not_eq_true', Bool.not_eq_false', Bool.not_eq_true, Bool.not_eq_false, Bool.true_eq_false, Bool.false_eq_true] at h
                have hec : atE ch co (([] ++ z).set i ((j : Nat) : Int)) = 0 := (hokz.set (i := i) (k := ((j : Nat) : Int)) (by omega) (by omega)).atE
                refine awp_skip ?_
                refine awp_seq ?_
                refine awp_block ?_
                refine awp_seq ?_
                refine awp_region rfl (.e (op_slitO (pp := []) (α := Int) (d := 0) (f := (fun n => [.int .i64 n])) 204 [] ety25 rfl trivial rfl (by decide) rfl (fun _ => rfl) rfl) rfl (.n (fun _ => op_move (.plain rfl)) (.e (op_append (id' := 206) (α := Int) (d := 0) (f := (fun n => [.int .i64 n])) ety25 Try.underlying25 (fun _ => rfl) (fun _ => rfl) (.plain rfl) rfl (.plain rfl) rfl ?_) rfl (.n (fun _ => op_assign (.plain rfl)) (.nil _))))) ?_
                · first | omega | (simp; omega)
                refine awp_seq ?_
                refine awp_region rfl (.n (fun _ => op_move (.plain rfl)) (.n (fun _ => op_move (.plain rfl)) (.n (fun _ => op_move (.plain rfl)) (.r (op_indexAddrON Try.underlying25 Try.sizeOf3 (.plain rfl) rfl (.plain rfl) ?_) (.e (op_storeE _ Try.sizeOf3 (.plain rfl) (.plain rfl) rfl (fun _ => rfl) ?_ (by decide) rfl rfl) rfl (.nil _)))))) ?_
                · first | omega | (simp; omega)
                · first | omega | (simp; omega)
                refine awp_seq ?_
                refine awp_ent (Ent.give 30 rfl rfl) ?_
                refine awp_region rfl (.r (op_loadRA Try.isAgg24 Try.sizeOf24 (.plain rfl) rfl (by simp) rfl) (.n (fun _ => op_move (.plain rfl)) (.n (fun _ => op_call2 Try.call7 (.plain rfl) (.plain rfl) (Cost_fc _ _ _)) (.n (fun _ => op_move (.plain rfl)) (.n (fun _ => op_extract (.plain rfl) rfl) (.n (fun _ => op_extract (.plain rfl) rfl) (.n (fun _ => op_assign (.plain rfl)) (.n (fun _ => op_assign (.plain rfl)) (.nil _))))))))) ?_
                refine awp_seq ?_
                simp only [hec, ↓reduceIte]
                refine awp_region_draw mixed rfl (.n (fun _ => op_move (.plain rfl)) (.n (fun _ => op_neq (.plain rfl) (.plain rfl)) (.n (fun _ => op_move (.plain rfl)) (.gn rfl rfl (fun hg _ => op_move (.plain rfl)) (.gn rfl rfl (fun hg _ => op_move (.plain rfl)) (.gn rfl rfl (fun hg _ => op_indexAddrN Try.underlying25 Try.sizeOf3 (.opt rfl fun h => h) (.opt rfl fun h => h) (fun _ => rfl) ?_) (.gn rfl rfl (fun hg _ => op_load Try.isAgg3 (.opt rfl fun h => h)) (.gn rfl rfl (fun hg _ => op_move (.plain rfl)) (.gn rfl rfl (fun hg _ => op_move (.plain rfl)) (.gn rfl rfl (fun hg _ => op_indexAddrN Try.underlying25 Try.sizeOf3 (.opt rfl fun h => h) (.opt rfl fun h => h) (fun _ => rfl) ?_) (.gn rfl rfl (fun hg _ => op_load Try.isAgg3 (.opt rfl fun h => h)) (.gn rfl rfl (fun hg _ => op_lss (.opt rfl fun h => h) (.opt rfl fun h => h)) (.n (fun _ => op_or (.plain rfl) (.plain rfl) (.plain rfl) (fun h => eqF h)) (.nil _)))))))))))))) ?d3 ?_
                · try simp only [beq_iff_eq, beq_true, beq_false, Bool.and_eq_true, decide_eq_true_eq, decide_eq_false_iff_not, Bool.not_eq_true', Bool.or_eq_true, Bool.or_eq_false_iff] at hg
                  omega
                · try simp only [beq_iff_eq, beq_true, beq_false, Bool.and_eq_true, decide_eq_true_eq, decide_eq_false_iff_not, Bool.not_eq_true', Bool.or_eq_true, Bool.or_eq_false_iff] at hg
                  omega
                · kernel_rfl
                refine awp_cond rfl (fun h => ?_) (fun h => ?_)
                · try simp only [decide_eq_true_eq, decide_eq_false_iff_not, Bool.and_eq_true, Bool.or_eq_true, Bool.and_eq_false_iff, Bool.or_eq_false_iff, Bool.not_eq_true', Bool.not_eq_false', Bool.not_eq_true, Bool.not_eq_false, Bool.true_eq_false, Bool.false_eq_true] at h
                  exfalso
                  rcases h with h | h
                  · exact h trivial
                  · have := calm_of_stop hnone (i := i) (k := j) (by omega) (by omega)
                    rw [hgc (by omega), hgz (by omega)] at h
                    exact absurd h (Int.not_lt.2 this)
                · try simp only [decide_eq_true_eq, decide_eq_false_iff_not, Bool.and_eq_true, Bool.or_eq_true, Bool.and_eq_false_iff, Bool.or_eq_false_iff, Bool.not_eq_true', Bool.not_eq_false', Bool.not_eq_true, Bool.not_eq_false, Bool.true_eq_false, Bool.false_eq_true] at h
                  refine awp_skip ?_
                  refine awp_region rfl (.n (fun _ => op_move (.plain rfl)) (.n (fun _ => op_add (.plain rfl) (.plain rfl) ?_) (.n (fun _ => op_assign (.plain rfl)) (.nil _)))) ?_
                  · unfold InR; omega
                  exact ⟨j + 1, by omega, by dsimp only; omega, (Ent.kept ⟨rfl, rfl, rfl, rfl, rfl, rfl, trivial⟩ ⟨rfl, trivial⟩)⟩
              · try simp only [decide_eq_true_eq, decide_eq_false_iff_not, Bool.and_eq_true, Bool.or_eq_true, Bool.and_eq_false_iff, Bool.or_eq_false_iff, Bool.not_eq_true', Bool.not_eq_false', Bool.not_eq_true, Bool.not_eq_false, Bool.true_eq_false, Bool.false_eq_true] at h
                refine awp_exit ?_
                refine awp_region rfl (.n (fun _ => op_move (.plain rfl)) (.n (fun _ => op_add (.plain rfl) (.plain rfl) ?_) (.n (fun _ => op_assign (.plain rfl)) (.nil _)))) ?_
                · unfold InR; omega
                exact ⟨i + 1, by omega, by dsimp only; omega, (Ent.kept ⟨rfl, rfl, rfl, rfl, rfl, trivial⟩ ⟨rfl, trivial⟩)⟩
            · try simp only [decide_eq_true_eq, decide_eq_false_iff_not, Bool.and_eq_true, Bool.or_eq_true, Bool.and_eq_false_iff, Bool.or_eq_false_iff, Bool.not_eq_true', Bool.not_eq_false', Bool.not_eq_true, Bool.not_eq_false, Bool.true_eq_false, Bool.false_eq_true] at h
              refine awp_exit ?_
              refine awp_seq ?_
              refine awp_region rfl (.n (fun _ => op_assign (.plain rfl)) (.nil _)) ?_
              refine awp_ret ?_
              refine retQ.ret ?_
              refine ret1 rfl rfl rfl ?_
              rfl

end Go.Proofs.Ytikcaphhejllpaa

