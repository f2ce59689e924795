/- All nodes from one on, all ways to choose otherwise; whether nobody gets more by any of them. Conditions: each theorem names its own. -/
import Derived.Test.YtamdkclkmijfgaaProg
import Derived.Test.YtamdkclkmijfgaaFe
namespace Go.Proofs.Ytamdkclkmijfgaa
open Go.Abs
set_option linter.unusedVariables false
set_option linter.unusedSimpArgs false


section
variable {P : Int} {N : List Nd}
theorem not_own {who : Int} {x : Nat} (h : ¬ plF N x = who ∨ ((kidsF N x).length : Int) = 0) : ¬ ownB N who x := fun o => h.elim (fun n => n o.1) fun n => o.2 n
theorem is_own {who : Int} {x : Nat} (h : plF N x = who ∧ ¬ ((kidsF N x).length : Int) = 0) : ownB N who x := h
theorem wyT_skip {who : Int} {l c : List Int} {i : Nat} (h : ¬ ownB N who (l.getD i 0).toNat) : wyT N who l c i = wyT N who l c (i + 1) := (wyS_not h).symm
theorem wyT_take {who : Int} {l c : List Int} {i k : Nat} (h : ownB N who (l.getD i 0).toNat) (hk : k ≤ (wyT N who l c i).length) (hk2 : ¬ (k : Int) < (wyT N who l c i).length) : wyM N (l.getD i 0).toNat (wyT N who l c i) k = wyT N who l c (i + 1) := by
  obtain rfl : k = (wyT N who l c i).length := by omega
  exact (wyS_own h).symm
theorem wyM_snoc {x k j : Nat} {out : List (List Int)} (hk : k < out.length) (hj : j ≤ (kidsF N x).length) (hj2 : ¬ (j : Int) < (kidsF N x).length) : wyM N x out k ++ (mapr j fun q => (out.getD k []).set x (q : Int)) = wyM N x out (k + 1) := by
  obtain rfl : j = (kidsF N x).length := by omega
  exact (wyM_succ hk).symm
theorem wyJ_snoc {W : List (List Int)} {f : Nat → List Int} {j : Nat} : (W ++ mapr j f) ++ [f j] = W ++ mapr (j + 1) f := by rw [mapr_succ, List.append_assoc]
abbrev rpT (P : Int) (N : List Nd) (c : List Int) : PV := .tup [.bool (pfR P N c).isNone, .i (pAtR P N c)]
theorem rp_some {c : List Int} {i : Nat} (h : pfR P N c = some i) : PV.tup [.bool false, .i (i : Nat)] = rpT P N c := by unfold rpT pAtR; rw [h]; rfl
theorem rp_none {c : List Int} (h : pfR P N c = none) : PV.tup [.bool true, .i 0] = rpT P N c := by unfold rpT pAtR; rw [h]; rfl
def wayB (N : List Nd) (c : List Int) (b w k : Nat) : Bool := decide ((wF N c b).getD w 0 < (wF N ((wyT N (w : Int) (unF N b) c (unF N b).length).getD k []) b).getD w 0)
theorem way_yes (hT : TrOk P N) {c : List Int} (hC : ChOk N c) {b w k : Nat} (hb : b < N.length) (hk : k < (wyT N (w : Int) (unF N b) c (unF N b).length).length) (h : wayB N c b w k = true) : decide ((wF N c b).getD w 0 < bestF N c w N.length b) = true :=
  decide_eq_true ((ways_best hT hC hb _).1 ⟨k, hk, of_decide_eq_true h⟩)
theorem way_no (hT : TrOk P N) {c : List Int} (hC : ChOk N c) {b w k : Nat} (hb : b < N.length) (hk : k ≤ (wyT N (w : Int) (unF N b) c (unF N b).length).length) (hk2 : ¬ (k : Int) < (wyT N (w : Int) (unF N b) c (unF N b).length).length) (h : firstI (wayB N c b w) k = none) : decide ((wF N c b).getD w 0 < bestF N c w N.length b) = false := by
  obtain rfl : k = (wyT N (w : Int) (unF N b) c (unF N b).length).length := by omega
  refine decide_eq_false fun hc => ?_
  obtain ⟨j, hj, hv⟩ := (ways_best hT hC hb _).2 hc
  exact absurd hv (of_decide_eq_false (firstI_none h j hj))
end

theorem upTo_fc (n : Nat) (hn : n ≤ 1000000) : FC Try.prog 44 [.i (n : Nat)] (.ints (upF n)) := by
  refine FC.intro Try.func44 rfl (Nat.le_of_ble_eq_true rfl) fun hfit => ?_
  have fit0 : -9223372036854775808 ≤ ((n : Nat) : Int) ∧ ((n : Nat) : Int) ≤ 9223372036854775807 := (hfit _ (.head _)).int64
  refine awp_seq ?_
  refine awp_region rfl (.n (fun _ => op_assign (.plain rfl)) (.nil _)) ?_
  refine awp_seq ?_
  refine awp_region rfl (.n (fun _ => op_assign (.plain rfl)) (.nil _)) ?_
  refine awp_seq ?_
  refine awp_seq ?_
  refine awp_region rfl (.n (fun _ => op_assign (.plain rfl)) (.nil _)) ?_
  refine awp_block ?_
  refine awp_ent (Ent.begin 3 1003 3 1 Int 0 (fun n => [.int .i64 n]) rfl rfl rfl) ?_
  refine awp_loop (σ := Nat) (fun (k : Nat) => k ≤ n) (fun (k : Nat) => ⟨[(3, .own 1003), (4, .int (k : Nat)), (0, .pv (.i (n : Nat)))], [(1003, .arr 3 1 Int 0 (fun n => [.int .i64 n]) (upF k))]⟩) (fun (k : Nat) => n - k) 0 ?_ (Ent.kept ⟨rfl, rfl, rfl, trivial⟩ ⟨rfl, trivial⟩) ?_
  · simp
  rintro k hp
  try dsimp only at hp
  refine awp_seq ?_
  refine awp_seq ?_
  refine awp_region rfl (.n (fun _ => op_move (.plain rfl)) (.n (fun _ => op_move (.plain rfl)) (.n (fun _ => op_lss (.plain rfl) (.plain rfl)) (.nil _)))) ?_
  refine awp_cond rfl (fun h => ?_) (fun h => ?_)
  · (try simp only [decide_eq_true_eq, decide_eq_false_iff_not, Bool.and_eq_true, Bool.or_eq_true, Bool.and_eq_false_iff, Bool.or_eq_false_iff, Bool.not_eq_true', Bool.not_eq_false', Bool.not_eq_true, Bool.not_eq_false, Bool.true_eq_false, Bool.false_eq_true] at h); (try simp only [foldK, foldP, foldL] at h)
    refine awp_skip ?_
    refine awp_seq ?_
    refine awp_block ?_
    refine awp_region rfl (.n (fun _ => op_move (.plain rfl)) (.n (fun _ => op_move (.plain rfl)) (.n (fun _ => op_slit (pp := [(0, _)]) (α := Int) (d := 0) (f := (fun n => [.int .i64 n])) [_] ety25 rfl ⟨rfl, (.plain rfl), (by simp), trivial⟩ rfl (by decide) rfl) (.e (op_append (id' := 13) (α := Int) (d := 0) (f := (fun n => [.int .i64 n])) ety25 Try.underlying25 (fun _ => rfl) (fun _ => rfl) (.plain rfl) rfl (.plain rfl) rfl ?_) rfl (.n (fun _ => op_assign (.plain rfl)) (.nil _)))))) ?_
    · (try simp only [foldK, foldP, foldL, Int.toNat_natCast])
      first | omega | (simp; omega)
    refine awp_region rfl (.n (fun _ => op_move (.plain rfl)) (.n (fun _ => op_add (.plain rfl) (.plain rfl) ?_) (.n (fun _ => op_assign (.plain rfl)) (.nil _)))) ?_
    · (try simp only [foldK, foldP, foldL, Int.toNat_natCast])
      unfold InR; omega
    exact ⟨k + 1, by omega, by dsimp only; omega, (Ent.round 13 1003 ⟨rfl, rfl, rfl, trivial⟩ ⟨(by rw [upF_succ]; rfl), trivial⟩ rfl rfl rfl ⟨rfl, rfl, rfl, trivial⟩ ⟨rfl, trivial⟩)⟩
  · (try simp only [decide_eq_true_eq, decide_eq_false_iff_not, Bool.and_eq_true, Bool.or_eq_true, Bool.and_eq_false_iff, Bool.or_eq_false_iff, Bool.not_eq_true', Bool.not_eq_false', Bool.not_eq_true, Bool.not_eq_false, Bool.true_eq_false, Bool.false_eq_true] at h); (try simp only [foldK, foldP, foldL] at h)
    refine awp_exit ?_
    refine awp_seq ?_
    refine awp_region rfl (.n (fun _ => op_move (.plain rfl)) (.n (fun _ => op_assign (.plain rfl)) (.nil _))) ?_
    refine awp_ret ?_
    refine retQ.ret ?_
    refine ret1 rfl rfl rfl ?_
    obtain rfl : k = n := by omega
    rfl

theorem under_fc (P : Int) (N : List Nd) (hT : TrOk P N) (a : Nat) (x : Int) (hx : x = (a : Nat)) (ha : a < N.length) : FC Try.prog 33 [.agg [.i P, .seq (Int × List Int × List Int × Unit) (0, [], [], ()) (fun p => [.i p.1, .ints p.2.1, .ints p.2.2.1]) N], .i x] (.ints (unF N a)) := by
  subst hx
  refine FC.intro Try.func33 rfl (Nat.le_of_ble_eq_true rfl) fun hfit => ?_
  have fit0 := hfit _ (.head _)
  have hp1 := hT.p1
  have hp5 := hT.p5
  have hn1 := hT.n1
  have hn40 := hT.n40
  refine awp_seq ?_
  refine awp_region rfl (.n (fun _ => op_box (.plain rfl) (by simp)) (.n (fun _ => op_assign (.plain rfl)) (.nil _))) ?_
  refine awp_seq ?_
  refine awp_region rfl (.n (fun _ => op_move (.plain rfl)) (.e (op_slitO (pp := [(0, _)]) (α := Int) (d := 0) (f := (fun n => [.int .i64 n])) 8 [_] ety25 rfl ⟨rfl, (.plain rfl), (by simp), trivial⟩ rfl (by decide) rfl (fun _ => rfl) rfl) rfl (.n (fun _ => op_assign (.plain rfl)) (.nil _)))) ?_
  refine awp_seq ?_
  refine awp_seq ?_
  refine awp_region rfl (.n (fun _ => op_assign (.plain rfl)) (.nil _)) ?_
  refine awp_block ?_
  refine awp_ent (Ent.ren 8 1005 rfl rfl rfl) ?_
  refine awp_loop (σ := Nat) (fun (i : Nat) => firstI (unP N a) i = none) (fun (i : Nat) => ⟨[(2, .pv (.rd [.i P, .seq (Int × List Int × List Int × Unit) (0, [], [], ()) (fun p => [.i p.1, .ints p.2.1, .ints p.2.2.1]) N])), (5, .own 1005), (6, .int (i : Nat))], [(1005, .arr 3 1 Int 0 (fun n => [.int .i64 n]) (unT N a i))]⟩) (fun (i : Nat) => N.length + 1 - i) 0 ?_ (Ent.kept ⟨rfl, rfl, rfl, trivial⟩ ⟨rfl, trivial⟩) ?_
  · exact rfl
  rintro i hp
  try dsimp only at hp
  have hE := hp
  have hU := unOk hT ha i hE
  have hul := unT_le hT ha hE
  have hui := un_i hT ha hE
  refine awp_seq ?_
  refine awp_seq ?_
  refine awp_region rfl (.n (fun _ => op_move (.plain rfl)) (.n (fun _ => op_move (.plain rfl)) (.r (op_lenO Try.underlying25 (.plain rfl) rfl) (.n (fun _ => op_lss (.plain rfl) (.plain rfl)) (.nil _))))) ?_
  refine awp_cond rfl (fun h => ?_) (fun h => ?_)
  · (try simp only [decide_eq_true_eq, decide_eq_false_iff_not, Bool.and_eq_true, Bool.or_eq_true, Bool.and_eq_false_iff, Bool.or_eq_false_iff, Bool.not_eq_true', Bool.not_eq_false', Bool.not_eq_true, Bool.not_eq_false, Bool.true_eq_false, Bool.false_eq_true] at h); (try simp only [foldK, foldP, foldL] at h)
    refine awp_skip ?_
    refine awp_seq ?_
    refine awp_block ?_
    refine awp_region_draw mixed rfl (.n (fun _ => op_move (.plain rfl)) (.n (fun _ => op_fieldAddr Try.underlying24 rfl rfl Try.sizeOf22 (.plain rfl)) (.n (fun _ => op_load Try.isAgg22 (.plain rfl)) (.n (fun _ => op_move (.plain rfl)) (.n (fun _ => op_move (.plain rfl)) (.r (op_indexAddrON Try.underlying25 Try.sizeOf3 (.plain rfl) rfl (.plain rfl) ?_) (.r (op_loadE Try.isAgg3 (.plain rfl) rfl (fun _ => rfl) ?_ rfl) (.n (fun _ => op_indexAddr Try.underlying22 Try.sizeOf51 (.plain rfl) (.plain rfl) (fun _ => rfl) ?_) (.n (fun _ => op_fieldAddr Try.underlying51 rfl rfl Try.sizeOf25 (.plain rfl)) (.n (fun _ => op_load Try.isAgg25 (.plain rfl)) (.e (op_append (id' := 25) (α := Int) (d := 0) (f := (fun n => [.int .i64 n])) ety25 Try.underlying25 (fun _ => rfl) (fun _ => rfl) (.plain rfl) rfl (.plain rfl) rfl ?_) rfl (.n (fun _ => op_assign (.plain rfl)) (.nil _))))))))))))) ?d1 ?_
    · (try simp only [foldK, foldP, foldL, Int.toNat_natCast])
      omega
    · (try simp only [foldK, foldP, foldL, Int.toNat_natCast])
      omega
    · (try simp only [foldK, foldP, foldL, Int.toNat_natCast])
      have := hU.inn _ (getD_mem (l := unT N a i) (k := i) 0 (by omega)); omega
    · (try simp only [foldK, foldP, foldL, Int.toNat_natCast])
      have hx := hU.inn _ (getD_mem (l := unT N a i) (k := i) 0 (by omega)); have hk5 : (kidsF N ((unT N a i).getD i 0).toNat).length ≤ 5 := by (by_cases e : (kidsF N ((unT N a i).getD i 0).toNat).length = 0; omega; exact (hT.inn _ (by omega) e).2.2.2)
      omega
    · kernel_rfl
    refine awp_region rfl (.n (fun _ => op_move (.plain rfl)) (.n (fun _ => op_add (.plain rfl) (.plain rfl) ?_) (.n (fun _ => op_assign (.plain rfl)) (.nil _)))) ?_
    · (try simp only [foldK, foldP, foldL, Int.toNat_natCast])
      unfold InR; omega
    exact ⟨i + 1, firstI_succ hE (decide_eq_false (by omega)), by dsimp only; omega, (Ent.round 25 1005 ⟨rfl, rfl, rfl, trivial⟩ ⟨rfl, trivial⟩ rfl rfl rfl ⟨rfl, rfl, rfl, trivial⟩ ⟨rfl, trivial⟩)⟩
  · (try simp only [decide_eq_true_eq, decide_eq_false_iff_not, Bool.and_eq_true, Bool.or_eq_true, Bool.and_eq_false_iff, Bool.or_eq_false_iff, Bool.not_eq_true', Bool.not_eq_false', Bool.not_eq_true, Bool.not_eq_false, Bool.true_eq_false, Bool.false_eq_true] at h); (try simp only [foldK, foldP, foldL] at h)
    refine awp_exit ?_
    refine awp_seq ?_
    refine awp_region rfl (.n (fun _ => op_move (.plain rfl)) (.n (fun _ => op_assign (.plain rfl)) (.nil _))) ?_
    refine awp_ret ?_
    refine retQ.ret ?_
    refine ret1 rfl rfl rfl ?_
    exact congrArg PV.ints (un_at hT ha hE (by omega))

theorem waysAt_fc (P : Int) (N : List Nd) (hT : TrOk P N) (c : List Int) (who : Int) (l : List Int) (hc : c.length = N.length) (hl : ∀ x, x ∈ l → 0 ≤ x ∧ x < (N.length : Int)) (hB : ∀ i, i ≤ l.length → (wyT N who l c i).length ≤ 1000000) : FC Try.prog 32 [.agg [.i P, .seq (Int × List Int × List Int × Unit) (0, [], [], ()) (fun p => [.i p.1, .ints p.2.1, .ints p.2.2.1]) N], .ints c, .i who, .ints l] (.rows (wyT N who l c l.length)) := by
  refine FC.intro Try.func32 rfl (Nat.le_of_ble_eq_true rfl) fun hfit => ?_
  have fit0 := hfit _ (.head _)
  obtain ⟨fitl1, fitr1⟩ := (hfit _ (.tail _ (.head _))).ints
  have fit2 : -9223372036854775808 ≤ (who : Int) ∧ (who : Int) ≤ 9223372036854775807 := (hfit _ (.tail _ (.tail _ (.head _)))).int64
  obtain ⟨fitl3, fitr3⟩ := (hfit _ (.tail _ (.tail _ (.tail _ (.head _))))).ints
  have hp1 := hT.p1
  have hp5 := hT.p5
  have hn1 := hT.n1
  have hn40 := hT.n40
  have hll := fitl3
  refine awp_seq ?_
  refine awp_region rfl (.n (fun _ => op_box (.plain rfl) (by simp)) (.n (fun _ => op_assign (.plain rfl)) (.nil _))) ?_
  refine awp_seq ?_
  refine awp_region rfl (.n (fun _ => op_move (.plain rfl)) (.n (fun _ => op_slit (pp := [(0, _)]) (α := (List Int)) (d := []) (f := (fun r => [.seq Int 0 (fun n => [.int .i64 n]) r])) [_] ety60 rfl ⟨rfl, (.plain rfl), (by simp), trivial⟩ rfl (by decide) rfl) (.n (fun _ => op_assign (.plain rfl)) (.nil _)))) ?_
  refine awp_seq ?_
  refine awp_seq ?_
  refine awp_region rfl (.n (fun _ => op_assign (.plain rfl)) (.nil _)) ?_
  refine awp_block ?_
  refine awp_loop (σ := Nat) (fun (i : Nat) => i ≤ l.length) (fun (i : Nat) => ⟨[(2, .int who), (3, .pv (.ints l)), (4, .pv (.rd [.i P, .seq (Int × List Int × List Int × Unit) (0, [], [], ()) (fun p => [.i p.1, .ints p.2.1, .ints p.2.2.1]) N])), (9, .pv (.rows (wyT N who l c i))), (10, .int (i : Nat))], []⟩) (fun (i : Nat) => l.length - i) 0 ?_ (Ent.kept ⟨rfl, rfl, rfl, rfl, rfl, trivial⟩ trivial) ?_
  · exact Nat.zero_le _
  rintro i hp
  try dsimp only at hp
  have hi := hp
  refine awp_seq ?_
  refine awp_seq ?_
  refine awp_region rfl (.n (fun _ => op_move (.plain rfl)) (.n (fun _ => op_move (.plain rfl)) (.n (fun _ => op_len (s := 0) Try.underlying25 (.plain rfl)) (.n (fun _ => op_lss (.plain rfl) (.plain rfl)) (.nil _))))) ?_
  refine awp_cond rfl (fun h => ?_) (fun h => ?_)
  · (try simp only [decide_eq_true_eq, decide_eq_false_iff_not, Bool.and_eq_true, Bool.or_eq_true, Bool.and_eq_false_iff, Bool.or_eq_false_iff, Bool.not_eq_true', Bool.not_eq_false', Bool.not_eq_true, Bool.not_eq_false, Bool.true_eq_false, Bool.false_eq_true] at h); (try simp only [foldK, foldP, foldL] at h)
    have hx := hl _ (getD_mem (l := l) 0 (show i < l.length by omega))
    have hBi := hB i (by omega)
    refine awp_skip ?_
    refine awp_seq ?_
    refine awp_block ?_
    refine awp_seq ?_
    refine awp_region_draw mixed rfl (.n (fun _ => op_fieldAddr Try.underlying24 rfl rfl Try.sizeOf22 (.plain rfl)) (.n (fun _ => op_load Try.isAgg22 (.plain rfl)) (.n (fun _ => op_move (.plain rfl)) (.n (fun _ => op_move (.plain rfl)) (.n (fun _ => op_indexAddrN Try.underlying25 Try.sizeOf3 (.plain rfl) (.plain rfl) (fun _ => rfl) ?_) (.n (fun _ => op_load Try.isAgg3 (.plain rfl)) (.n (fun _ => op_indexAddr Try.underlying22 Try.sizeOf51 (.plain rfl) (.plain rfl) (fun _ => rfl) ?_) (.n (fun _ => op_load_agg Try.isAgg51 Try.sizeOf51 (.plain rfl) (Nat.le_of_ble_eq_true rfl)) (.a (fun _ hm => op_alloc 11 Try.zeroValue51 rfl hm rfl) rfl (fun _ => rfl) rfl (.e (op_storeRA Try.sizeOf51 (.plain rfl) (.plain rfl) rfl rfl (Nat.le_of_ble_eq_true rfl) rfl) rfl (.nil _))))))))))) ?d2 ?_
    · (try simp only [foldK, foldP, foldL, Int.toNat_natCast])
      omega
    · (try simp only [foldK, foldP, foldL, Int.toNat_natCast])
      omega
    · kernel_rfl
    refine awp_seq ?_
    refine awp_seq ?_
    refine awp_region rfl (.n (fun _ => op_fieldAddrR Try.underlying51 rfl rfl Try.sizeOf3 (.plain rfl)) (.r (op_loadR Try.isAgg3 (.plain rfl) rfl rfl) (.n (fun _ => op_move (.plain rfl)) (.n (fun _ => op_neq (.plain rfl) (.plain rfl)) (.n (fun _ => op_move (.plain rfl)) (.gn rfl rfl (fun hg _ => op_fieldAddrR Try.underlying51 rfl rfl Try.sizeOf25 (.plain rfl)) (.gr rfl rfl (fun hg => op_loadR Try.isAgg25 (.opt rfl fun h => h) rfl rfl) (.gn rfl rfl (fun hg _ => op_len (s := 0) Try.underlying25 (.opt rfl fun h => h)) (.gn rfl rfl (fun hg _ => op_eql (.opt rfl fun h => h) (.plain rfl)) (.n (fun _ => op_or (.plain rfl) (.plain rfl) (.plain rfl) (fun h => eqF h)) (.nil _))))))))))) ?_
    refine awp_cond rfl (fun h => ?_) (fun h => ?_)
    · (try simp only [decide_eq_true_eq, decide_eq_false_iff_not, Bool.and_eq_true, Bool.or_eq_true, Bool.and_eq_false_iff, Bool.or_eq_false_iff, Bool.not_eq_true', Bool.not_eq_false', Bool.not_eq_true, Bool.not_eq_false, Bool.true_eq_false, Bool.false_eq_true] at h); (try simp only [foldK, foldP, foldL] at h)
      have hn := not_own h
      refine awp_exit ?_
      refine awp_region rfl (.n (fun _ => op_move (.plain rfl)) (.n (fun _ => op_add (.plain rfl) (.plain rfl) ?_) (.n (fun _ => op_assign (.plain rfl)) (.nil _)))) ?_
      · (try simp only [foldK, foldP, foldL, Int.toNat_natCast])
        unfold InR; omega
      exact ⟨i + 1, by omega, by dsimp only; omega, (Ent.kept ⟨rfl, rfl, rfl, (by first | exact (congrArg (fun p => some (SV.pv p)) (congrArg PV.rows (wyT_skip hn))) | exact (congrArg (fun p => some (SV.pv p)) (congrArg PV.rows (wyT_take ho hk (by omega))))), rfl, trivial⟩ trivial)⟩
    · (try simp only [decide_eq_true_eq, decide_eq_false_iff_not, Bool.and_eq_true, Bool.or_eq_true, Bool.and_eq_false_iff, Bool.or_eq_false_iff, Bool.not_eq_true', Bool.not_eq_false', Bool.not_eq_true, Bool.not_eq_false, Bool.true_eq_false, Bool.false_eq_true] at h); (try simp only [foldK, foldP, foldL] at h)
      have ho := is_own h
      have hin := hT.inn (l.getD i 0).toNat (by omega) (by omega)
      refine awp_skip ?_
      refine awp_seq ?_
      refine awp_region rfl (.n (fun _ => op_assign (.plain rfl)) (.nil _)) ?_
      refine awp_seq ?_
      refine awp_seq ?_
      refine awp_region rfl (.n (fun _ => op_assign (.plain rfl)) (.nil _)) ?_
      refine awp_block ?_
      refine awp_ent (Ent.begin 12 1012 25 1 (List Int) [] (fun r => [.seq Int 0 (fun n => [.int .i64 n]) r]) rfl rfl rfl) ?_
      refine awp_loop (σ := Nat) (fun (k : Nat) => k ≤ (wyT N who l c i).length) (fun (k : Nat) => ⟨[(2, .int who), (3, .pv (.ints l)), (4, .pv (.rd [.i P, .seq (Int × List Int × List Int × Unit) (0, [], [], ()) (fun p => [.i p.1, .ints p.2.1, .ints p.2.2.1]) N])), (9, .pv (.rows (wyT N who l c i))), (10, .int (i : Nat)), (11, .ref 11 0), (12, .own 1012), (13, .int (k : Nat))], [(11, .box [.int (plF N (l.getD i 0).toNat), .pv (.ints (kidsF N (l.getD i 0).toNat)), .pv (.ints (payF N (l.getD i 0).toNat))]), (1012, .arr 25 1 (List Int) [] (fun r => [.seq Int 0 (fun n => [.int .i64 n]) r]) (wyM N (l.getD i 0).toNat (wyT N who l c i) k))]⟩) (fun (k : Nat) => (wyT N who l c i).length - k) 0 ?_ (Ent.kept ⟨rfl, rfl, rfl, rfl, rfl, rfl, rfl, rfl, trivial⟩ ⟨rfl, rfl, trivial⟩) ?_
      · exact Nat.zero_le _
      rintro k hp
      try dsimp only at hp
      have hk := hp
      refine awp_seq ?_
      refine awp_seq ?_
      refine awp_region rfl (.n (fun _ => op_move (.plain rfl)) (.n (fun _ => op_move (.plain rfl)) (.n (fun _ => op_len (s := 0) Try.underlying60 (.plain rfl)) (.n (fun _ => op_lss (.plain rfl) (.plain rfl)) (.nil _))))) ?_
      refine awp_cond rfl (fun h => ?_) (fun h => ?_)
      · (try simp only [decide_eq_true_eq, decide_eq_false_iff_not, Bool.and_eq_true, Bool.or_eq_true, Bool.and_eq_false_iff, Bool.or_eq_false_iff, Bool.not_eq_true', Bool.not_eq_false', Bool.not_eq_true, Bool.not_eq_false, Bool.true_eq_false, Bool.false_eq_true] at h); (try simp only [foldK, foldP, foldL] at h)
        refine awp_skip ?_
        refine awp_seq ?_
        refine awp_block ?_
        refine awp_seq ?_
        refine awp_region rfl (.n (fun _ => op_assign (.plain rfl)) (.nil _)) ?_
        refine awp_block ?_
        refine awp_loop (σ := Nat) (fun (j : Nat) => j ≤ (kidsF N (l.getD i 0).toNat).length) (fun (j : Nat) => ⟨[(2, .int who), (3, .pv (.ints l)), (4, .pv (.rd [.i P, .seq (Int × List Int × List Int × Unit) (0, [], [], ()) (fun p => [.i p.1, .ints p.2.1, .ints p.2.2.1]) N])), (9, .pv (.rows (wyT N who l c i))), (10, .int (i : Nat)), (11, .ref 11 0), (12, .own 1012), (13, .int (k : Nat)), (14, .int (j : Nat))], [(11, .box [.int (plF N (l.getD i 0).toNat), .pv (.ints (kidsF N (l.getD i 0).toNat)), .pv (.ints (payF N (l.getD i 0).toNat))]), (1012, .arr 25 1 (List Int) [] (fun r => [.seq Int 0 (fun n => [.int .i64 n]) r]) (wyM N (l.getD i 0).toNat (wyT N who l c i) k ++ mapr j fun q => ((wyT N who l c i).getD k []).set (l.getD i 0).toNat (q : Int)))]⟩) (fun (j : Nat) => (kidsF N (l.getD i 0).toNat).length - j) 0 ?_ (Ent.kept ⟨rfl, rfl, rfl, rfl, rfl, rfl, rfl, rfl, rfl, trivial⟩ ⟨rfl, (congrArg (fun l => some (Blk.arr 25 1 (List Int) [] (fun r => [.seq Int 0 (fun n => [.int .i64 n]) r]) l)) (by simp [mapr])), trivial⟩) ?_
        · exact Nat.zero_le _
        rintro j hp
        try dsimp only at hp
        have hj := hp
        have hkl : k < (wyT N who l c i).length := by omega
        have hrl := (wyT_ok hc i _ (getD_mem (l := (wyT N who l c i)) [] hkl)).len
        have hml := wyM_len (N := N) (x := (l.getD i 0).toNat) (out := (wyT N who l c i)) k (by omega)
        have hmm := Nat.mul_le_mul (show k ≤ 1000000 by omega) hin.2.2.2
        refine awp_seq ?_
        refine awp_seq ?_
        refine awp_region rfl (.n (fun _ => op_move (.plain rfl)) (.n (fun _ => op_fieldAddrR Try.underlying51 rfl rfl Try.sizeOf25 (.plain rfl)) (.r (op_loadR Try.isAgg25 (.plain rfl) rfl rfl) (.n (fun _ => op_len (s := 0) Try.underlying25 (.plain rfl)) (.n (fun _ => op_lss (.plain rfl) (.plain rfl)) (.nil _)))))) ?_
        refine awp_cond rfl (fun h => ?_) (fun h => ?_)
        · (try simp only [decide_eq_true_eq, decide_eq_false_iff_not, Bool.and_eq_true, Bool.or_eq_true, Bool.and_eq_false_iff, Bool.or_eq_false_iff, Bool.not_eq_true', Bool.not_eq_false', Bool.not_eq_true, Bool.not_eq_false, Bool.true_eq_false, Bool.false_eq_true] at h); (try simp only [foldK, foldP, foldL] at h)
          refine awp_skip ?_
          refine awp_seq ?_
          refine awp_block ?_
          refine awp_seq ?_
          refine awp_region rfl (.e (op_slitO (pp := []) (α := Int) (d := 0) (f := (fun n => [.int .i64 n])) 55 [] ety25 rfl trivial rfl (by decide) rfl (fun _ => rfl) rfl) rfl (.n (fun _ => op_move (.plain rfl)) (.n (fun _ => op_move (.plain rfl)) (.n (fun _ => op_indexAddrN Try.underlying60 Try.sizeOf25 (.plain rfl) (.plain rfl) (fun _ => rfl) ?_) (.n (fun _ => op_load Try.isAgg25 (.plain rfl)) (.e (op_append (id' := 60) (α := Int) (d := 0) (f := (fun n => [.int .i64 n])) ety25 Try.underlying25 (fun _ => rfl) (fun _ => rfl) (.plain rfl) rfl (.plain rfl) rfl ?_) rfl (.n (fun _ => op_assign (.plain rfl)) (.nil _)))))))) ?_
          · (try simp only [foldK, foldP, foldL, Int.toNat_natCast])
            omega
          · (try simp only [foldK, foldP, foldL, Int.toNat_natCast])
            first | omega | (simp only [List.length_nil, List.nil_append, List.length_append, List.length_set, Nat.zero_add]; omega)
          refine awp_seq ?_
          refine awp_region rfl (.n (fun _ => op_move (.plain rfl)) (.n (fun _ => op_move (.plain rfl)) (.n (fun _ => op_move (.plain rfl)) (.n (fun _ => op_indexAddrN Try.underlying25 Try.sizeOf3 (.plain rfl) (.plain rfl) (fun _ => rfl) ?_) (.n (fun _ => op_load Try.isAgg3 (.plain rfl)) (.n (fun _ => op_move (.plain rfl)) (.r (op_indexAddrO Try.underlying25 Try.sizeOf3 (.plain rfl) rfl (.plain rfl) ?_) (.e (op_storeE _ Try.sizeOf3 (.plain rfl) (.plain rfl) rfl (fun _ => rfl) ?_ (by decide) rfl rfl) rfl (.nil _))))))))) ?_
          · (try simp only [foldK, foldP, foldL, Int.toNat_natCast])
            omega
          · (try simp only [foldK, foldP, foldL, Int.toNat_natCast])
            first | omega | (simp only [List.length_nil, List.nil_append, List.length_append, List.length_set, Nat.zero_add]; omega)
          · (try simp only [foldK, foldP, foldL, Int.toNat_natCast])
            first | omega | (simp only [List.length_nil, List.nil_append, List.length_append, List.length_set, Nat.zero_add]; omega)
          refine awp_ent (Ent.give 15 rfl rfl) ?_
          refine awp_region rfl (.n (fun _ => op_move (.plain rfl)) (.n (fun _ => op_move (.plain rfl)) (.n (fun _ => op_slit (pp := [(0, _)]) (α := (List Int)) (d := []) (f := (fun r => [.seq Int 0 (fun n => [.int .i64 n]) r])) [_] ety60 rfl ⟨rfl, (.plain rfl), (by simp), trivial⟩ rfl (by decide) rfl) (.e (op_append (id' := 71) (α := (List Int)) (d := []) (f := (fun r => [.seq Int 0 (fun n => [.int .i64 n]) r])) ety60 Try.underlying60 (fun _ => rfl) (fun _ => rfl) (.plain rfl) rfl (.plain rfl) rfl ?_) rfl (.n (fun _ => op_assign (.plain rfl)) (.nil _)))))) ?_
          · (try simp only [foldK, foldP, foldL, Int.toNat_natCast])
            rw [List.length_append, hml, mapr_length]; simp only [List.length_cons, List.length_nil]; omega
          refine awp_region rfl (.n (fun _ => op_move (.plain rfl)) (.n (fun _ => op_add (.plain rfl) (.plain rfl) ?_) (.n (fun _ => op_assign (.plain rfl)) (.nil _)))) ?_
          · (try simp only [foldK, foldP, foldL, Int.toNat_natCast])
            unfold InR; omega
          exact ⟨j + 1, by omega, by dsimp only; omega, (Ent.round 71 1012 ⟨rfl, rfl, rfl, rfl, rfl, rfl, rfl, rfl, rfl, trivial⟩ ⟨rfl, (congrArg (fun l => some (Blk.arr 25 1 (List Int) [] (fun r => [.seq Int 0 (fun n => [.int .i64 n]) r]) l)) (wyJ_snoc)), trivial⟩ rfl rfl rfl ⟨rfl, rfl, rfl, rfl, rfl, rfl, rfl, rfl, rfl, trivial⟩ ⟨rfl, rfl, trivial⟩)⟩
        · (try simp only [decide_eq_true_eq, decide_eq_false_iff_not, Bool.and_eq_true, Bool.or_eq_true, Bool.and_eq_false_iff, Bool.or_eq_false_iff, Bool.not_eq_true', Bool.not_eq_false', Bool.not_eq_true, Bool.not_eq_false, Bool.true_eq_false, Bool.false_eq_true] at h); (try simp only [foldK, foldP, foldL] at h)
          refine awp_exit ?_
          obtain hj0 := hj
          refine awp_region rfl (.n (fun _ => op_move (.plain rfl)) (.n (fun _ => op_add (.plain rfl) (.plain rfl) ?_) (.n (fun _ => op_assign (.plain rfl)) (.nil _)))) ?_
          · (try simp only [foldK, foldP, foldL, Int.toNat_natCast])
            unfold InR; omega
          exact ⟨k + 1, by omega, by dsimp only; omega, (Ent.kept ⟨rfl, rfl, rfl, rfl, rfl, rfl, rfl, rfl, trivial⟩ ⟨rfl, (congrArg (fun l => some (Blk.arr 25 1 (List Int) [] (fun r => [.seq Int 0 (fun n => [.int .i64 n]) r]) l)) (wyM_snoc (by omega) hj (by omega))), trivial⟩)⟩
      · (try simp only [decide_eq_true_eq, decide_eq_false_iff_not, Bool.and_eq_true, Bool.or_eq_true, Bool.and_eq_false_iff, Bool.or_eq_false_iff, Bool.not_eq_true', Bool.not_eq_false', Bool.not_eq_true, Bool.not_eq_false, Bool.true_eq_false, Bool.false_eq_true] at h); (try simp only [foldK, foldP, foldL] at h)
        refine awp_exit ?_
        refine awp_ent (Ent.give 12 rfl rfl) ?_
        refine awp_region rfl (.n (fun _ => op_move (.plain rfl)) (.n (fun _ => op_assign (.plain rfl)) (.nil _))) ?_
        refine awp_region rfl (.n (fun _ => op_move (.plain rfl)) (.n (fun _ => op_add (.plain rfl) (.plain rfl) ?_) (.n (fun _ => op_assign (.plain rfl)) (.nil _)))) ?_
        · (try simp only [foldK, foldP, foldL, Int.toNat_natCast])
          unfold InR; omega
        exact ⟨i + 1, by omega, by dsimp only; omega, (Ent.kept ⟨rfl, rfl, rfl, (by first | exact (congrArg (fun p => some (SV.pv p)) (congrArg PV.rows (wyT_skip hn))) | exact (congrArg (fun p => some (SV.pv p)) (congrArg PV.rows (wyT_take ho hk (by omega))))), rfl, trivial⟩ trivial)⟩
  · (try simp only [decide_eq_true_eq, decide_eq_false_iff_not, Bool.and_eq_true, Bool.or_eq_true, Bool.and_eq_false_iff, Bool.or_eq_false_iff, Bool.not_eq_true', Bool.not_eq_false', Bool.not_eq_true, Bool.not_eq_false, Bool.true_eq_false, Bool.false_eq_true] at h); (try simp only [foldK, foldP, foldL] at h)
    refine awp_exit ?_
    refine awp_seq ?_
    refine awp_region rfl (.n (fun _ => op_move (.plain rfl)) (.n (fun _ => op_assign (.plain rfl)) (.nil _))) ?_
    refine awp_ret ?_
    refine retQ.ret ?_
    refine ret1 rfl rfl rfl ?_
    obtain rfl : i = l.length := by omega
    rfl

theorem RPerfect_fc (P : Int) (N : List Nd) (hT : TrOk P N) (c : List Int) (hC : ChOk N c) (hF : fewF N = true) : FC Try.prog 17 [.agg [.i P, .seq (Int × List Int × List Int × Unit) (0, [], [], ()) (fun p => [.i p.1, .ints p.2.1, .ints p.2.2.1]) N], .ints c] (.tup [.bool (pfR P N c).isNone, .i (pAtR P N c)]) := by
  refine FC.intro Try.func17 rfl (Nat.le_of_ble_eq_true rfl) fun hfit => ?_
  have fit0 := hfit _ (.head _)
  obtain ⟨fitl1, fitr1⟩ := (hfit _ (.tail _ (.head _))).ints
  have hp1 := hT.p1
  have hp5 := hT.p5
  have hn1 := hT.n1
  have hn40 := hT.n40
  have hcl := hC.len
  refine awp_seq ?_
  refine awp_region rfl (.n (fun _ => op_box (.plain rfl) (by simp)) (.n (fun _ => op_assign (.plain rfl)) (.n (fun _ => op_assign (.plain rfl)) (.nil _)))) ?_
  refine awp_seq ?_
  refine awp_seq ?_
  refine awp_region rfl (.n (fun _ => op_assign (.plain rfl)) (.nil _)) ?_
  refine awp_block ?_
  refine awp_loop (σ := Nat) (fun (b : Nat) => b ≤ N.length ∧ firstI (pfB P N c) b = none) (fun (b : Nat) => ⟨[(1, .pv (.ints c)), (2, .pv (.rd [.i P, .seq (Int × List Int × List Int × Unit) (0, [], [], ()) (fun p => [.i p.1, .ints p.2.1, .ints p.2.2.1]) N])), (6, .int (b : Nat))], []⟩) (fun (b : Nat) => N.length - b) 0 ?_ (Ent.kept ⟨rfl, rfl, rfl, trivial⟩ trivial) ?_
  · exact ⟨Nat.zero_le _, rfl⟩
  rintro b hp
  try dsimp only at hp
  obtain ⟨hi, hE⟩ := hp
  refine awp_seq ?_
  refine awp_seq ?_
  refine awp_region rfl (.n (fun _ => op_move (.plain rfl)) (.n (fun _ => op_fieldAddr Try.underlying24 rfl rfl Try.sizeOf22 (.plain rfl)) (.n (fun _ => op_load Try.isAgg22 (.plain rfl)) (.n (fun _ => op_len (s := 0) Try.underlying22 (.plain rfl)) (.n (fun _ => op_lss (.plain rfl) (.plain rfl)) (.nil _)))))) ?_
  refine awp_cond rfl (fun h => ?_) (fun h => ?_)
  · (try simp only [decide_eq_true_eq, decide_eq_false_iff_not, Bool.and_eq_true, Bool.or_eq_true, Bool.and_eq_false_iff, Bool.or_eq_false_iff, Bool.not_eq_true', Bool.not_eq_false', Bool.not_eq_true, Bool.not_eq_false, Bool.true_eq_false, Bool.false_eq_true] at h); (try simp only [foldK, foldP, foldL] at h)
    have hwl := (wF_len hT hC (a := b) (by omega)).1
    have hun := un_spec hT (a := b) (by omega)
    refine awp_skip ?_
    refine awp_seq ?_
    refine awp_block ?_
    refine awp_seq ?_
    refine awp_region rfl (.n (fun _ => op_load_agg Try.isAgg24 Try.sizeOf24 (.plain rfl) (Nat.le_of_ble_eq_true rfl)) (.n (fun _ => op_move (.plain rfl)) (.n (fun _ => op_move (.plain rfl)) (.n (fun _ => op_call3 Try.call19 (.plain rfl) (.plain rfl) (.plain rfl) (Reach_fc P N ?_ _ ?_ N.length b _ ?_ ?_ ?_)) (.n (fun _ => op_assign (.plain rfl)) (.nil _)))))) ?_
    · (try simp only [foldK, foldP, foldL, Int.toNat_natCast])
      exact hT
    · (try simp only [foldK, foldP, foldL, Int.toNat_natCast])
      exact hC
    · (try simp only [foldK, foldP, foldL, Int.toNat_natCast])
      try rfl
    · (try simp only [foldK, foldP, foldL, Int.toNat_natCast])
      omega
    · (try simp only [foldK, foldP, foldL, Int.toNat_natCast])
      omega
    refine awp_seq ?_
    refine awp_region rfl (.n (fun _ => op_assign (.plain rfl)) (.nil _)) ?_
    refine awp_block ?_
    refine awp_loop (σ := Nat) (fun (w : Nat) => w ≤ P.toNat ∧ firstI (fun who => decide ((wF N c b).getD who 0 < bestF N c who N.length b)) w = none) (fun (w : Nat) => ⟨[(1, .pv (.ints c)), (2, .pv (.rd [.i P, .seq (Int × List Int × List Int × Unit) (0, [], [], ()) (fun p => [.i p.1, .ints p.2.1, .ints p.2.2.1]) N])), (6, .int (b : Nat)), (7, .pv (.ints (wF N c b))), (8, .int (w : Nat))], []⟩) (fun (w : Nat) => P.toNat - w) 0 ?_ (Ent.kept ⟨rfl, rfl, rfl, rfl, rfl, trivial⟩ trivial) ?_
    · exact ⟨Nat.zero_le _, rfl⟩
    rintro w hp
    try dsimp only at hp
    obtain ⟨hw, hW⟩ := hp
    refine awp_seq ?_
    refine awp_seq ?_
    refine awp_region rfl (.n (fun _ => op_move (.plain rfl)) (.n (fun _ => op_fieldAddr Try.underlying24 rfl rfl Try.sizeOf3 (.plain rfl)) (.n (fun _ => op_load Try.isAgg3 (.plain rfl)) (.n (fun _ => op_lss (.plain rfl) (.plain rfl)) (.nil _))))) ?_
    refine awp_cond rfl (fun h => ?_) (fun h => ?_)
    · (try simp only [decide_eq_true_eq, decide_eq_false_iff_not, Bool.and_eq_true, Bool.or_eq_true, Bool.and_eq_false_iff, Bool.or_eq_false_iff, Bool.not_eq_true', Bool.not_eq_false', Bool.not_eq_true, Bool.not_eq_false, Bool.true_eq_false, Bool.false_eq_true] at h); (try simp only [foldK, foldP, foldL] at h)
      refine awp_skip ?_
      refine awp_seq ?_
      refine awp_block ?_
      refine awp_seq ?_
      refine awp_region_draw mixed rfl (.n (fun _ => op_load_agg Try.isAgg24 Try.sizeOf24 (.plain rfl) (Nat.le_of_ble_eq_true rfl)) (.n (fun _ => op_move (.plain rfl)) (.n (fun _ => op_move (.plain rfl)) (.n (fun _ => op_load_agg Try.isAgg24 Try.sizeOf24 (.plain rfl) (Nat.le_of_ble_eq_true rfl)) (.n (fun _ => op_move (.plain rfl)) (.n (fun _ => op_call2 Try.call33 (.plain rfl) (.plain rfl) (under_fc P N ?_ b _ ?_ ?_)) (.n (fun _ => op_call4 Try.call32 (.plain rfl) (.plain rfl) (.plain rfl) (.plain rfl) (waysAt_fc P N ?_ _ _ _ ?_ ?_ ?_)) (.n (fun _ => op_assign (.plain rfl)) (.nil _))))))))) ?d3 ?_
      · (try simp only [foldK, foldP, foldL, Int.toNat_natCast])
        exact hT
      · (try simp only [foldK, foldP, foldL, Int.toNat_natCast])
        try rfl
      · (try simp only [foldK, foldP, foldL, Int.toNat_natCast])
        omega
      · (try simp only [foldK, foldP, foldL, Int.toNat_natCast])
        exact hT
      · (try simp only [foldK, foldP, foldL, Int.toNat_natCast])
        exact hC.len
      · (try simp only [foldK, foldP, foldL, Int.toNat_natCast])
        exact fun x hx => by have := hun.2.1 x hx; omega
      · (try simp only [foldK, foldP, foldL, Int.toNat_natCast])
        exact fun i hi => Nat.le_trans (ways_few hT hF (by omega) _ _ hi) (by omega)
      · kernel_rfl
      refine awp_seq ?_
      refine awp_region rfl (.n (fun _ => op_assign (.plain rfl)) (.nil _)) ?_
      refine awp_block ?_
      refine awp_loop (σ := Nat) (fun (k : Nat) => k ≤ (wyT N (w : Int) (unF N b) c (unF N b).length).length ∧ firstI (wayB N c b w) k = none) (fun (k : Nat) => ⟨[(1, .pv (.ints c)), (2, .pv (.rd [.i P, .seq (Int × List Int × List Int × Unit) (0, [], [], ()) (fun p => [.i p.1, .ints p.2.1, .ints p.2.2.1]) N])), (6, .int (b : Nat)), (7, .pv (.ints (wF N c b))), (8, .int (w : Nat)), (9, .pv (.rows (wyT N (w : Int) (unF N b) c (unF N b).length))), (10, .int (k : Nat))], []⟩) (fun (k : Nat) => (wyT N (w : Int) (unF N b) c (unF N b).length).length - k) 0 ?_ (Ent.kept ⟨rfl, rfl, rfl, rfl, rfl, rfl, rfl, trivial⟩ trivial) ?_
      · exact ⟨Nat.zero_le _, rfl⟩
      rintro k hp
      try dsimp only at hp
      obtain ⟨hk, hK⟩ := hp
      have hwf := ways_few hT hF (show b < N.length by omega) (w : Int) c (Nat.le_refl _)
      refine awp_seq ?_
      refine awp_seq ?_
      refine awp_region rfl (.n (fun _ => op_move (.plain rfl)) (.n (fun _ => op_move (.plain rfl)) (.n (fun _ => op_len (s := 0) Try.underlying60 (.plain rfl)) (.n (fun _ => op_lss (.plain rfl) (.plain rfl)) (.nil _))))) ?_
      refine awp_cond rfl (fun h => ?_) (fun h => ?_)
      · (try simp only [decide_eq_true_eq, decide_eq_false_iff_not, Bool.and_eq_true, Bool.or_eq_true, Bool.and_eq_false_iff, Bool.or_eq_false_iff, Bool.not_eq_true', Bool.not_eq_false', Bool.not_eq_true, Bool.not_eq_false, Bool.true_eq_false, Bool.false_eq_true] at h); (try simp only [foldK, foldP, foldL] at h)
        have hD := wyT_ch hC (getD_mem (l := (wyT N (w : Int) (unF N b) c (unF N b).length)) [] (show k < _ by omega))
        have hwd := (wF_len hT hD (a := b) (by omega)).1
        refine awp_skip ?_
        refine awp_seq ?_
        refine awp_block ?_
        refine awp_seq ?_
        refine awp_region_draw mixed rfl (.n (fun _ => op_load_agg Try.isAgg24 Try.sizeOf24 (.plain rfl) (Nat.le_of_ble_eq_true rfl)) (.n (fun _ => op_move (.plain rfl)) (.n (fun _ => op_move (.plain rfl)) (.n (fun _ => op_indexAddrN Try.underlying60 Try.sizeOf25 (.plain rfl) (.plain rfl) (fun _ => rfl) ?_) (.n (fun _ => op_load Try.isAgg25 (.plain rfl)) (.n (fun _ => op_move (.plain rfl)) (.n (fun _ => op_call3 Try.call19 (.plain rfl) (.plain rfl) (.plain rfl) (Reach_fc P N ?_ _ ?_ N.length b _ ?_ ?_ ?_)) (.n (fun _ => op_assign (.plain rfl)) (.nil _))))))))) ?d4 ?_
        · (try simp only [foldK, foldP, foldL, Int.toNat_natCast])
          omega
        · (try simp only [foldK, foldP, foldL, Int.toNat_natCast])
          exact hT
        · (try simp only [foldK, foldP, foldL, Int.toNat_natCast])
          exact hD
        · (try simp only [foldK, foldP, foldL, Int.toNat_natCast])
          try rfl
        · (try simp only [foldK, foldP, foldL, Int.toNat_natCast])
          omega
        · (try simp only [foldK, foldP, foldL, Int.toNat_natCast])
          omega
        · kernel_rfl
        refine awp_seq ?_
        refine awp_region_draw mixed rfl (.n (fun _ => op_move (.plain rfl)) (.n (fun _ => op_move (.plain rfl)) (.n (fun _ => op_indexAddrN Try.underlying25 Try.sizeOf3 (.plain rfl) (.plain rfl) (fun _ => rfl) ?_) (.n (fun _ => op_load Try.isAgg3 (.plain rfl)) (.n (fun _ => op_move (.plain rfl)) (.n (fun _ => op_move (.plain rfl)) (.n (fun _ => op_indexAddrN Try.underlying25 Try.sizeOf3 (.plain rfl) (.plain rfl) (fun _ => rfl) ?_) (.n (fun _ => op_load Try.isAgg3 (.plain rfl)) (.n (fun _ => op_gtr (.plain rfl) (.plain rfl)) (.nil _)))))))))) ?d5 ?_
        · (try simp only [foldK, foldP, foldL, Int.toNat_natCast])
          omega
        · (try simp only [foldK, foldP, foldL, Int.toNat_natCast])
          omega
        · kernel_rfl
        refine awp_cond rfl (fun h => ?_) (fun h => ?_)
        · (try simp only [decide_eq_true_eq, decide_eq_false_iff_not, Bool.and_eq_true, Bool.or_eq_true, Bool.and_eq_false_iff, Bool.or_eq_false_iff, Bool.not_eq_true', Bool.not_eq_false', Bool.not_eq_true, Bool.not_eq_false, Bool.true_eq_false, Bool.false_eq_true] at h); (try simp only [foldK, foldP, foldL] at h)
          have hb : wayB N c b w k = true := decide_eq_true h
          refine awp_seq ?_
          refine awp_region rfl (.n (fun _ => op_move (.plain rfl)) (.n (fun _ => op_assign (.plain rfl)) (.n (fun _ => op_assign (.plain rfl)) (.nil _)))) ?_
          refine awp_ret ?_
          refine retQ.ret ?_
          refine ret2 rfl rfl rfl rfl rfl ?_
          exact rp_some (firstI_stop hE (firstI_some hW (way_yes hT hC (by omega) (by omega) hb) (by omega)) (by omega))
        · (try simp only [decide_eq_true_eq, decide_eq_false_iff_not, Bool.and_eq_true, Bool.or_eq_true, Bool.and_eq_false_iff, Bool.or_eq_false_iff, Bool.not_eq_true', Bool.not_eq_false', Bool.not_eq_true, Bool.not_eq_false, Bool.true_eq_false, Bool.false_eq_true] at h); (try simp only [foldK, foldP, foldL] at h)
          have hb : wayB N c b w k = false := decide_eq_false h
          refine awp_skip ?_
          refine awp_region rfl (.n (fun _ => op_move (.plain rfl)) (.n (fun _ => op_add (.plain rfl) (.plain rfl) ?_) (.n (fun _ => op_assign (.plain rfl)) (.nil _)))) ?_
          · (try simp only [foldK, foldP, foldL, Int.toNat_natCast])
            unfold InR; omega
          exact ⟨k + 1, ⟨by omega, firstI_succ hK hb⟩, by dsimp only; omega, (Ent.kept ⟨rfl, rfl, rfl, rfl, rfl, rfl, rfl, trivial⟩ trivial)⟩
      · (try simp only [decide_eq_true_eq, decide_eq_false_iff_not, Bool.and_eq_true, Bool.or_eq_true, Bool.and_eq_false_iff, Bool.or_eq_false_iff, Bool.not_eq_true', Bool.not_eq_false', Bool.not_eq_true, Bool.not_eq_false, Bool.true_eq_false, Bool.false_eq_true] at h); (try simp only [foldK, foldP, foldL] at h)
        refine awp_exit ?_
        refine awp_region rfl (.n (fun _ => op_move (.plain rfl)) (.n (fun _ => op_add (.plain rfl) (.plain rfl) ?_) (.n (fun _ => op_assign (.plain rfl)) (.nil _)))) ?_
        · (try simp only [foldK, foldP, foldL, Int.toNat_natCast])
          unfold InR; omega
        exact ⟨w + 1, ⟨by omega, firstI_succ hW (way_no hT hC (by omega) hk (by omega) hK)⟩, by dsimp only; omega, (Ent.kept ⟨rfl, rfl, rfl, rfl, rfl, trivial⟩ trivial)⟩
    · (try simp only [decide_eq_true_eq, decide_eq_false_iff_not, Bool.and_eq_true, Bool.or_eq_true, Bool.and_eq_false_iff, Bool.or_eq_false_iff, Bool.not_eq_true', Bool.not_eq_false', Bool.not_eq_true, Bool.not_eq_false, Bool.true_eq_false, Bool.false_eq_true] at h); (try simp only [foldK, foldP, foldL] at h)
      refine awp_exit ?_
      refine awp_region rfl (.n (fun _ => op_move (.plain rfl)) (.n (fun _ => op_add (.plain rfl) (.plain rfl) ?_) (.n (fun _ => op_assign (.plain rfl)) (.nil _)))) ?_
      · (try simp only [foldK, foldP, foldL, Int.toNat_natCast])
        unfold InR; omega
      exact ⟨b + 1, ⟨by omega, firstI_succ hE (firstI_nope hW (by omega))⟩, by dsimp only; omega, (Ent.kept ⟨rfl, rfl, rfl, trivial⟩ trivial)⟩
  · (try simp only [decide_eq_true_eq, decide_eq_false_iff_not, Bool.and_eq_true, Bool.or_eq_true, Bool.and_eq_false_iff, Bool.or_eq_false_iff, Bool.not_eq_true', Bool.not_eq_false', Bool.not_eq_true, Bool.not_eq_false, Bool.true_eq_false, Bool.false_eq_true] at h); (try simp only [foldK, foldP, foldL] at h)
    refine awp_exit ?_
    refine awp_seq ?_
    refine awp_region rfl (.n (fun _ => op_assign (.plain rfl)) (.n (fun _ => op_assign (.plain rfl)) (.nil _))) ?_
    refine awp_ret ?_
    refine retQ.ret ?_
    refine ret2 rfl rfl rfl rfl rfl ?_
    obtain rfl : b = N.length := by omega
    exact rp_none hE

end Go.Proofs.Ytamdkclkmijfgaa

