/- A line, as the document reads it. Conditions: each theorem names its own. -/
import Derived.Test.YtolmcapbpliaiaaDoorProg
import Derived.Test.YtolmcapbpliaiaaDoorFj
namespace Go.Proofs.YtolmcapbpliaiaaDoor
open Go.Abs
set_option linter.unusedVariables false
set_option linter.unusedSimpArgs false

set_option linter.unusedVariables false

section
variable {P : Program} {ev : Operand → SV → Prop} {H : Heap} {dst : Option Nat} {ty : TypeId} {pos : String} {after : Array Edge} {g : Option (Nat × Bool)}
theorem op_subU {t yt : TypeId} {x y : Operand} {m n : Int} (hx : ev x (.pv (.int .u8 m))) (hy : ev y (.pv (.int .u8 n))) (h : 0 ≤ m - n ∧ m - n ≤ 255) : OpT P ⟨dst, .binOp .sub t x y yt, ty, pos, after, g⟩ ev H (.pv (.int .u8 (m - n))) H none :=
  op_bin hx hy (rv := .int .u8 (m - n)) (fun w => by simp [binOp_sub, Op.intArith, IntWalk.u8_in _ h]) fun _ _ _ _ => .int _ _ (by simp [InK, IntKind.min, IntKind.max, IntKind.signed, IntKind.bits]; omega)
end
/-! ### A line, as the document reads it -/
abbrev lnV (x : Ln) : List PV := [.bool x.1, .str x.2.1, .i x.2.2.1, .nil, .seq ByteArray ByteArray.empty (fun s => [.str s]) x.2.2.2.2]
def rsV (ws : List ByteArray) (all : List Ln) : PV := .tup [.agg (if rdE ws all = 0 then lnV (rdV ws) else [.cell1, .cell1, .cell1, .cell1, .cell1]), .i (rdE ws all)]
theorem rsV_no {ws : List ByteArray} {all : List Ln} {k : Int} (h : rdE ws all = k) (hk : k ≠ 0) : Out.ret (rsV ws all) = Out.ret (.tup [.agg [.cell1, .cell1, .cell1, .cell1, .cell1], .i k]) := by
  unfold rsV
  rw [if_neg (by omega), h]
theorem rsV_ok {ws : List ByteArray} {all : List Ln} {v : List PV} (h : rdE ws all = 0) (hv : lnV (rdV ws) = v) : Out.ret (rsV ws all) = Out.ret (.tup [.agg v, .i 0]) := by
  unfold rsV
  rw [if_pos h, h, hv]
theorem drop_getD (l : List ByteArray) (n i : Nat) : (l.drop n).getD i ByteArray.empty = l.getD (n + i) ByteArray.empty := by
  simp [List.getD_eq_getElem?_getD, List.getElem?_drop]
theorem roomed_eq (ws : List ByteArray) : (decide (2 < ((ws.length : Nat) : Int)) && !decide (ws.getD 2 ByteArray.empty = colS)) = roomed ws := by
  unfold roomed
  rw [drop_getD, List.length_drop]
  congr 1
  rw [decide_eq_decide]
  omega
/-- Are the first i bytes digits? -/
def dgB (s : ByteArray) (i : Nat) : Bool := !figB (byteAt s i)
theorem digB_fig (s : ByteArray) (i : Nat) : figB (byteAt s i) = digB (s.get! i) := by
  rw [byteAt_get]
  unfold figB digB
  rw [Bool.eq_iff_iff]
  simp only [Bool.and_eq_true, decide_eq_true_eq]
  omega
theorem dig_none {s : ByteArray} (h : firstI (dgB s) s.size = none) : digF s = true := by
  unfold digF
  rw [List.all_eq_true]
  intro b hb
  obtain ⟨i, hi, rfl⟩ := List.getElem_of_mem hb
  have hi' : i < s.size := by rw [size_list]; exact hi
  have := firstI_none h i hi'
  unfold dgB at this
  rw [digB_fig] at this
  have e : s.get! i = s.data.toList[i] := by
    rw [← Lib.getD_get!']
    simp [List.getD_eq_getElem?_getD, List.getElem?_eq_getElem hi]
  rw [e] at this
  simpa using this
theorem dig_some {s : ByteArray} {i : Nat} (hi : i < s.size) (h : figB (byteAt s i) = false) : digF s = false := by
  unfold digF
  rw [digB_fig] at h
  have hi' : i < s.data.toList.length := by rw [← size_list]; exact hi
  have e : s.get! i = s.data.toList[i] := by
    rw [← Lib.getD_get!']
    simp [List.getD_eq_getElem?_getD, List.getElem?_eq_getElem hi']
  rw [List.all_eq_false]
  exact ⟨_, List.getElem_mem hi', by rw [← e, h]; simp⟩
theorem roomE_9 {s : ByteArray} (hd : digF s = true) (hl : leadB s = false) (h : 1 < (s.size : Int) ∨ byteAt s 0 < 49 ∨ 52 < byteAt s 0) : roomE s = 9 := by
  unfold roomE; rw [if_neg (by simp [hd, hl]), if_pos h]
theorem roomE_0 {s : ByteArray} (hd : digF s = true) (hl : leadB s = false) (h : ¬ (1 < (s.size : Int) ∨ byteAt s 0 < 49 ∨ 52 < byteAt s 0)) : roomE s = 0 := by
  unfold roomE; rw [if_neg (by simp [hd, hl]), if_neg h]
theorem take_snoc {L : List ByteArray} {q : Nat} (hq : q < L.length) {x : ByteArray} (hx : x = L.getD q ByteArray.empty) : L.take q ++ [x] = L.take (q + 1) := by
  subst hx
  rw [List.getD_eq_getElem?_getD, List.getElem?_eq_getElem hq, List.take_add_one, List.getElem?_eq_getElem hq]
  rfl

set_option maxRecDepth 1000000 in
set_option maxHeartbeats 4000000 in
theorem readSide_fx (ws : List ByteArray) (all : List Ln) (hw : 0 < ws.length) (hne : ∀ x, x ∈ ws → x ≠ ⟨#[]⟩) (hc6 : cntL all (lfB ws) all.length ≤ 6) (hw6 : ws.length ≤ 1000000) : FXH Tryd.prog [] 32 [.pv (.seq ByteArray ByteArray.empty (fun s => [.str s]) ws), .own 1] [(1, .arr 69 5 (Bool × ByteArray × Int × List Int × List ByteArray) (false, ByteArray.empty, 0, [], []) (fun p => [.bool p.1, .str p.2.1, .i p.2.2.1, .nil, .seq ByteArray ByteArray.empty (fun s => [.str s]) p.2.2.2.2]) all)] (.ret (rsV ws all)) := by
  refine FXH.intro Tryd.func32 rfl (Nat.le_of_ble_eq_true rfl) (Nat.le_of_ble_eq_true rfl) fun hfit ι0 => ?_
  change awp _ _ _ _ ⟨[(0, .pv (.seq ByteArray ByteArray.empty (fun s => [.str s]) ws)), (1, .own 1), (1000001, .pin 1 (ι0 1))], [(1, .arr 69 5 (Bool × ByteArray × Int × List Int × List ByteArray) (false, ByteArray.empty, 0, [], []) (fun p => [.bool p.1, .str p.2.1, .i p.2.2.1, .nil, .seq ByteArray ByteArray.empty (fun s => [.str s]) p.2.2.2.2]) all)]⟩
  have fit0 := hfit _ (.head _)
  have hlen := fit0.len
  refine awp_fitH (id := 1) rfl fun hfa => ?_
  have hall := hfa.len
  refine awp_seq ?_
  refine awp_region rfl (.e (op_alloc 4 Tryd.zeroValue69 rfl rfl rfl) rfl (.n (fun _ => op_assign (.plain rfl)) (.nil _))) ?_
  refine awp_seq ?_
  refine awp_region rfl (.n (fun _ => op_move (.plain rfl)) (.n (fun _ => op_indexAddr Tryd.underlying49 Tryd.sizeOf9 (.plain rfl) (.plain rfl) (fun _ => rfl) ?_) (.n (fun _ => op_load Tryd.isAgg9 (.plain rfl)) (.n (fun _ => op_str_eql Tryd.underlying9 (.plain rfl) (.plain rfl)) (.n (fun _ => op_build (pp := [(0, _)]) (places := #[(0, 1), (1, 3), (4, 1)]) Tryd.underlying69 Tryd.zeroValue69 rfl (by intro w; kernel_rfl) ⟨rfl, (.plain rfl), (by simp), trivial⟩ rfl) (.e (op_alloc 6 Tryd.zeroValue69 rfl rfl rfl) rfl (.e (op_storeRA Tryd.sizeOf69 (.plain rfl) (.plain rfl) rfl rfl (Nat.le_of_ble_eq_true rfl) rfl) rfl (.nil _)))))))) ?_
  · omega
  refine awp_seq ?_
  refine awp_seq ?_
  refine awp_region rfl (.n (fun _ => op_move (.plain rfl)) (.n (fun _ => op_indexAddr Tryd.underlying49 Tryd.sizeOf9 (.plain rfl) (.plain rfl) (fun _ => rfl) ?_) (.n (fun _ => op_load Tryd.isAgg9 (.plain rfl)) (.n (fun _ => op_str_neq Tryd.underlying9 (.plain rfl) (.plain rfl)) (.n (fun _ => op_move (.plain rfl)) (.gn rfl rfl (fun hg _ => op_move (.plain rfl)) (.gn rfl rfl (fun hg _ => op_indexAddr Tryd.underlying49 Tryd.sizeOf9 (.opt rfl fun h => h) (.plain rfl) (fun _ => rfl) ?_) (.gn rfl rfl (fun hg _ => op_load Tryd.isAgg9 (.opt rfl fun h => h)) (.gn rfl rfl (fun hg _ => op_str_neq Tryd.underlying9 (.opt rfl fun h => h) (.plain rfl)) (.n (fun _ => op_and (.plain rfl) (.plain rfl) (.plain rfl) (fun h => eqT h)) (.nil _))))))))))) ?_
  · omega
  · try simp only [beq_iff_eq, beq_true, beq_false, Bool.and_eq_true, decide_eq_true_eq, decide_eq_false_iff_not, Bool.not_eq_true', Bool.or_eq_true, Bool.or_eq_false_iff] at hg
    omega
  refine awp_cond rfl (fun h => ?_) (fun h => ?_)
  · skip
    have h29 : side0 ws = true := h
    refine awp_seq ?_
    refine awp_region rfl (.r (op_loadRA Tryd.isAgg69 Tryd.sizeOf69 (.plain rfl) rfl (by first | (simp; done) | exact Nat.le_of_ble_eq_true rfl) rfl) (.e (op_storeRA Tryd.sizeOf69 (.plain rfl) (.plain rfl) rfl rfl (Nat.le_of_ble_eq_true rfl) rfl) rfl (.n (fun _ => op_assign (.plain rfl)) (.nil _)))) ?_
    refine awp_ent (Ent.giveBox 4 rfl rfl rfl) ?_
    refine awp_ent (Ent.anyRd 4 rfl rfl) ?_
    refine awp_ret ?_
    refine retX.ret ?_
    refine retXC1 rfl rfl Tryd.isAgg69 Tryd.sizeOf69 rfl ⟨rfl, trivial⟩ ⟨.inr rfl, trivial⟩ ?_
    exact rsV_no (rdE_a h29) (by decide)
  · skip
    have h29 : side0 ws = false := h
    refine awp_skip ?_
    refine awp_seq ?_
    refine awp_seq ?_
    refine awp_region rfl (.n (fun _ => op_move (.plain rfl)) (.n (fun _ => op_len (s := 0) Tryd.underlying49 (.plain rfl)) (.n (fun _ => op_lss (.plain rfl) (.plain rfl)) (.nil _)))) ?_
    refine awp_cond rfl (fun h => ?_) (fun h => ?_)
    · skip
      have h33 : ((ws.length : Nat) : Int) < 2 := of_decide_eq_true h
      refine awp_seq ?_
      refine awp_region rfl (.r (op_loadRA Tryd.isAgg69 Tryd.sizeOf69 (.plain rfl) rfl (by first | (simp; done) | exact Nat.le_of_ble_eq_true rfl) rfl) (.e (op_storeRA Tryd.sizeOf69 (.plain rfl) (.plain rfl) rfl rfl (Nat.le_of_ble_eq_true rfl) rfl) rfl (.n (fun _ => op_assign (.plain rfl)) (.nil _)))) ?_
      refine awp_ent (Ent.giveBox 4 rfl rfl rfl) ?_
      refine awp_ent (Ent.anyRd 4 rfl rfl) ?_
      refine awp_ret ?_
      refine retX.ret ?_
      refine retXC1 rfl rfl Tryd.isAgg69 Tryd.sizeOf69 rfl ⟨rfl, trivial⟩ ⟨.inr rfl, trivial⟩ ?_
      exact rsV_no (rdE_b h29 h33) (by decide)
    · skip
      have h33 : ¬ ((ws.length : Nat) : Int) < 2 := of_decide_eq_false h
      refine awp_skip ?_
      refine awp_seq ?_
      refine awp_region rfl (.n (fun _ => op_move (.plain rfl)) (.n (fun _ => op_indexAddr Tryd.underlying49 Tryd.sizeOf9 (.plain rfl) (.plain rfl) (fun _ => rfl) ?_) (.n (fun _ => op_load Tryd.isAgg9 (.plain rfl)) (.n (fun _ => op_call1 Tryd.call21 (.plain rfl) (Named_fc _)) (.n (fun _ => op_assign (.plain rfl)) (.nil _)))))) ?_
      · omega
      refine awp_seq ?_
      refine awp_seq ?_
      refine awp_region rfl (.n (fun _ => op_move (.plain rfl)) (.n (fun _ => op_not (.plain rfl)) (.nil _))) ?_
      refine awp_cond rfl (fun h => ?_) (fun h => ?_)
      · skip
        have h40 : namedF (ws.getD 1 ByteArray.empty) = false := by simpa using h
        refine awp_seq ?_
        refine awp_region rfl (.r (op_loadRA Tryd.isAgg69 Tryd.sizeOf69 (.plain rfl) rfl (by first | (simp; done) | exact Nat.le_of_ble_eq_true rfl) rfl) (.e (op_storeRA Tryd.sizeOf69 (.plain rfl) (.plain rfl) rfl rfl (Nat.le_of_ble_eq_true rfl) rfl) rfl (.n (fun _ => op_assign (.plain rfl)) (.nil _)))) ?_
        refine awp_ent (Ent.giveBox 4 rfl rfl rfl) ?_
        refine awp_ent (Ent.anyRd 4 rfl rfl) ?_
        refine awp_ret ?_
        refine retX.ret ?_
        refine retXC1 rfl rfl Tryd.isAgg69 Tryd.sizeOf69 rfl ⟨rfl, trivial⟩ ⟨.inr rfl, trivial⟩ ?_
        exact rsV_no (rdE_c h29 h33 h40) (by decide)
      · skip
        have h40 : ¬ namedF (ws.getD 1 ByteArray.empty) = false := by simpa using h
        have hA : RdA ws all := ⟨h29, h33, h40⟩
        refine awp_skip ?_
        refine awp_seq ?_
        refine awp_region rfl (.n (fun _ => op_assign (.plain rfl)) (.nil _)) ?_
        refine awp_seq ?_
        refine awp_seq ?_
        refine awp_region rfl (.n (fun _ => op_assign (.plain rfl)) (.nil _)) ?_
        refine awp_block ?_
        refine awp_loop (σ := Nat) (fun (i : Nat) => i ≤ all.length ∧ firstE (dupB all (ws.getD 1 ByteArray.empty)) i = 0) (fun (i : Nat) => ⟨[(0, .pv (.seq ByteArray ByteArray.empty (fun s => [.str s]) ws)), (1, .own 1), (4, .ref 4 0), (5, .int 0), (6, .ref 6 0), (8, .int (cntL all (lfB ws) i)), (9, .int (i : Nat)), (1000001, .pin 1 (ι0 1))], [(1, .arr 69 5 (Bool × ByteArray × Int × List Int × List ByteArray) (false, ByteArray.empty, 0, [], []) (fun p => [.bool p.1, .str p.2.1, .i p.2.2.1, .nil, .seq ByteArray ByteArray.empty (fun s => [.str s]) p.2.2.2.2]) all), (4, .box [.pv (.bool false), .pv (.str ⟨#[]⟩), .pv (.i 0), .pv .nil, .pv .nil]), (6, .box [.pv (.bool (lfB ws)), .pv (.str ⟨#[]⟩), .pv (.i 0), .pv .nil, .pv .nil])]⟩) (fun (i : Nat) => all.length - i) 0 ?_ (Ent.kept ⟨rfl, rfl, rfl, rfl, rfl, rfl, rfl, rfl, trivial⟩ ⟨rfl, rfl, rfl, trivial⟩) ?_
        · exact ⟨Nat.zero_le _, rfl⟩
        rintro i hp
        try dsimp only at hp
        obtain ⟨hi, hE⟩ := hp
        refine awp_seq ?_
        refine awp_seq ?_
        refine awp_region rfl (.n (fun _ => op_move (.plain rfl)) (.n (fun _ => op_move (.plain rfl)) (.r (op_lenO Tryd.underlying66 (.plain rfl) rfl) (.n (fun _ => op_lss (.plain rfl) (.plain rfl)) (.nil _))))) ?_
        refine awp_cond rfl (fun h => ?_) (fun h => ?_)
        · skip
          have h45 := of_decide_eq_true h
          refine awp_skip ?_
          refine awp_seq ?_
          refine awp_block ?_
          refine awp_seq ?_
          refine awp_seq ?_
          refine awp_region_draw mixed rfl (.n (fun _ => op_move (.plain rfl)) (.n (fun _ => op_move (.plain rfl)) (.r (op_indexAddrON Tryd.underlying66 Tryd.sizeOf69 (.plain rfl) rfl (.plain rfl) ?_) (.n (fun _ => op_fieldAddrE Tryd.underlying69 rfl rfl Tryd.sizeOf27 (.plain rfl)) (.n (fun _ => op_fieldAddrE Tryd.underlying27 rfl rfl Tryd.sizeOf9 (.plain rfl)) (.r (op_loadE Tryd.isAgg9 (.plain rfl) rfl (fun _ => rfl) ?_ rfl) (.n (fun _ => op_move (.plain rfl)) (.n (fun _ => op_indexAddr Tryd.underlying49 Tryd.sizeOf9 (.plain rfl) (.plain rfl) (fun _ => rfl) ?_) (.n (fun _ => op_load Tryd.isAgg9 (.plain rfl)) (.n (fun _ => op_str_eql Tryd.underlying9 (.plain rfl) (.plain rfl)) (.nil _))))))))))) ?d1 ?_
          · first | omega | (simp; omega)
          · first | omega | (simp; omega)
          · omega
          · kernel_rfl
          refine awp_cond rfl (fun h => ?_) (fun h => ?_)
          · skip
            have h57 : lnN all i = (ws.getD 1 ByteArray.empty) := of_decide_eq_true h
            refine awp_seq ?_
            refine awp_region rfl (.r (op_loadRA Tryd.isAgg69 Tryd.sizeOf69 (.plain rfl) rfl (by first | (simp; done) | exact Nat.le_of_ble_eq_true rfl) rfl) (.e (op_storeRA Tryd.sizeOf69 (.plain rfl) (.plain rfl) rfl rfl (Nat.le_of_ble_eq_true rfl) rfl) rfl (.n (fun _ => op_assign (.plain rfl)) (.nil _)))) ?_
            refine awp_ent (Ent.giveBox 4 rfl rfl rfl) ?_
            refine awp_ent (Ent.anyRd 4 rfl rfl) ?_
            refine awp_ret ?_
            refine retX.ret ?_
            refine retXC1 rfl rfl Tryd.isAgg69 Tryd.sizeOf69 rfl ⟨rfl, trivial⟩ ⟨.inr rfl, trivial⟩ ?_
            exact rsV_no (hA.dup (by omega) hE h57) (by decide)
          · skip
            have h57 : ¬ lnN all i = (ws.getD 1 ByteArray.empty) := of_decide_eq_false h
            refine awp_skip ?_
            refine awp_seq ?_
            refine awp_region_draw mixed rfl (.n (fun _ => op_move (.plain rfl)) (.n (fun _ => op_move (.plain rfl)) (.r (op_indexAddrON Tryd.underlying66 Tryd.sizeOf69 (.plain rfl) rfl (.plain rfl) ?_) (.n (fun _ => op_fieldAddrE Tryd.underlying69 rfl rfl Tryd.sizeOf4 (.plain rfl)) (.r (op_loadE Tryd.isAgg4 (.plain rfl) rfl (fun _ => rfl) ?_ rfl) (.n (fun _ => op_fieldAddrR Tryd.underlying69 rfl rfl Tryd.sizeOf4 (.plain rfl)) (.r (op_loadR Tryd.isAgg4 (.plain rfl) rfl rfl) (.n (fun _ => op_eqb Tryd.underlying4 (.plain rfl) (.plain rfl)) (.nil _))))))))) ?d2 ?_
            · first | omega | (simp; omega)
            · first | omega | (simp; omega)
            · kernel_rfl
            refine awp_cond rfl (fun h => ?_) (fun h => ?_)
            · skip
              have h66 : (lnL all i == lfB ws) = true := h
              refine awp_region rfl (.n (fun _ => op_move (.plain rfl)) (.n (fun _ => op_add (.plain rfl) (.plain rfl) ?_) (.n (fun _ => op_assign (.plain rfl)) (.nil _)))) ?_
              · have := cntL_le all (lfB ws) i
                unfold InR; omega
              refine awp_region rfl (.n (fun _ => op_move (.plain rfl)) (.n (fun _ => op_add (.plain rfl) (.plain rfl) ?_) (.n (fun _ => op_assign (.plain rfl)) (.nil _)))) ?_
              · unfold InR; omega
              have hcn : cntL all (lfB ws) i + 1 = cntL all (lfB ws) (i + 1) := (if_pos h66).symm
              exact ⟨i + 1, ⟨by omega, firstE_succ hE (if_neg h57)⟩, by dsimp only; omega, (Ent.kept ⟨rfl, rfl, rfl, rfl, rfl, (congrArg (fun n : Int => some (SV.int n)) hcn), rfl, rfl, trivial⟩ ⟨rfl, rfl, rfl, trivial⟩)⟩
            · skip
              have h66 : (lnL all i == lfB ws) = false := h
              refine awp_skip ?_
              refine awp_region rfl (.n (fun _ => op_move (.plain rfl)) (.n (fun _ => op_add (.plain rfl) (.plain rfl) ?_) (.n (fun _ => op_assign (.plain rfl)) (.nil _)))) ?_
              · unfold InR; omega
              have hcn : cntL all (lfB ws) i = cntL all (lfB ws) (i + 1) := (if_neg (by simp [h66])).symm
              exact ⟨i + 1, ⟨by omega, firstE_succ hE (if_neg h57)⟩, by dsimp only; omega, (Ent.kept ⟨rfl, rfl, rfl, rfl, rfl, (congrArg (fun n : Int => some (SV.int n)) hcn), rfl, rfl, trivial⟩ ⟨rfl, rfl, rfl, trivial⟩)⟩
        · skip
          have h45 := of_decide_eq_false h
          obtain rfl : i = all.length := by omega
          refine awp_exit ?_
          refine awp_seq ?_
          refine awp_seq ?_
          refine awp_region rfl (.n (fun _ => op_move (.plain rfl)) (.n (fun _ => op_geq (.plain rfl) (.plain rfl)) (.nil _))) ?_
          refine awp_cond rfl (fun h => ?_) (fun h => ?_)
          · skip
            have h70 := of_decide_eq_true h
            refine awp_seq ?_
            refine awp_region rfl (.r (op_loadRA Tryd.isAgg69 Tryd.sizeOf69 (.plain rfl) rfl (by first | (simp; done) | exact Nat.le_of_ble_eq_true rfl) rfl) (.e (op_storeRA Tryd.sizeOf69 (.plain rfl) (.plain rfl) rfl rfl (Nat.le_of_ble_eq_true rfl) rfl) rfl (.n (fun _ => op_assign (.plain rfl)) (.nil _)))) ?_
            refine awp_ent (Ent.giveBox 4 rfl rfl rfl) ?_
            refine awp_ent (Ent.anyRd 4 rfl rfl) ?_
            refine awp_ret ?_
            refine retX.ret ?_
            refine retXC1 rfl rfl Tryd.isAgg69 Tryd.sizeOf69 rfl ⟨rfl, trivial⟩ ⟨.inr rfl, trivial⟩ ?_
            exact rsV_no (hA.cnt hE (by omega)) (by decide)
          · skip
            have h70 := of_decide_eq_false h
            have hB : RdB ws all := ⟨hA, hE, by omega⟩
            refine awp_skip ?_
            refine awp_seq ?_
            refine awp_region rfl (.n (fun _ => op_move (.plain rfl)) (.n (fun _ => op_indexAddr Tryd.underlying49 Tryd.sizeOf9 (.plain rfl) (.plain rfl) (fun _ => rfl) ?_) (.n (fun _ => op_load Tryd.isAgg9 (.plain rfl)) (.n (fun _ => op_build (pp := [(0, _), (1, _)]) (places := #[(0, 1), (1, 1), (2, 1)]) Tryd.underlying27 Tryd.zeroValue27 rfl (by intro w; kernel_rfl) ⟨rfl, (.plain rfl), (by simp), rfl, (.plain rfl), (by simp), trivial⟩ rfl) (.n (fun _ => op_fieldAddrR Tryd.underlying69 rfl rfl Tryd.sizeOf27 (.plain rfl)) (.e (op_storeRA Tryd.sizeOf27 (.plain rfl) (.plain rfl) rfl rfl (Nat.le_of_ble_eq_true rfl) rfl) rfl (.nil _))))))) ?_
            · omega
            refine awp_seq ?_
            refine awp_region rfl (.n (fun _ => op_assign (.plain rfl)) (.nil _)) ?_
            refine awp_seq ?_
            refine awp_seq ?_
            refine awp_region rfl (.n (fun _ => op_move (.plain rfl)) (.n (fun _ => op_len (s := 0) Tryd.underlying49 (.plain rfl)) (.n (fun _ => op_gtr (.plain rfl) (.plain rfl)) (.n (fun _ => op_move (.plain rfl)) (.gn rfl rfl (fun hg _ => op_move (.plain rfl)) (.gn rfl rfl (fun hg _ => op_indexAddr Tryd.underlying49 Tryd.sizeOf9 (.opt rfl fun h => h) (.plain rfl) (fun _ => rfl) ?_) (.gn rfl rfl (fun hg _ => op_load Tryd.isAgg9 (.opt rfl fun h => h)) (.gn rfl rfl (fun hg _ => op_str_neq Tryd.underlying9 (.opt rfl fun h => h) (.plain rfl)) (.n (fun _ => op_and (.plain rfl) (.plain rfl) (.plain rfl) (fun h => eqT h)) (.nil _)))))))))) ?_
            · try simp only [beq_iff_eq, beq_true, beq_false, Bool.and_eq_true, decide_eq_true_eq, decide_eq_false_iff_not, Bool.not_eq_true', Bool.or_eq_true, Bool.or_eq_false_iff] at hg
              omega
            refine awp_cond rfl (fun h => ?_) (fun h => ?_)
            · skip
              have h85 : roomed ws = true := (roomed_eq ws).symm.trans h
              have hpos : 2 < ws.length := by have := h85; rw [← roomed_eq] at this; simp only [Bool.and_eq_true, decide_eq_true_eq] at this; omega
              have hg2 : (ws.drop 2).getD 0 ByteArray.empty = (ws.getD 2 ByteArray.empty) := drop_getD ws 2 0
              have hw2 : (ws.getD 2 ByteArray.empty) ≠ ⟨#[]⟩ := getD_ne hne hpos
              have hz2 := size_pos hw2
              have hs2 : ((ws.getD 2 ByteArray.empty)).size ≤ 281474976710656 := (fit0.elem (wsD_mem hpos) (c := .str (ws.getD 2 ByteArray.empty)) (by simp)).str_len
              refine awp_seq ?_
              refine awp_seq ?_
              refine awp_region rfl (.n (fun _ => op_assign (.plain rfl)) (.nil _)) ?_
              refine awp_block ?_
              refine awp_loop (σ := Nat) (fun (i : Nat) => i ≤ ((ws.getD 2 ByteArray.empty)).size ∧ firstI (dgB (ws.getD 2 ByteArray.empty)) i = none) (fun (i : Nat) => ⟨[(0, .pv (.seq ByteArray ByteArray.empty (fun s => [.str s]) ws)), (1, .own 1), (4, .ref 4 0), (5, .int 0), (6, .ref 6 0), (10, .int 2), (11, .int (i : Nat)), (1000001, .pin 1 (ι0 1))], [(1, .arr 69 5 (Bool × ByteArray × Int × List Int × List ByteArray) (false, ByteArray.empty, 0, [], []) (fun p => [.bool p.1, .str p.2.1, .i p.2.2.1, .nil, .seq ByteArray ByteArray.empty (fun s => [.str s]) p.2.2.2.2]) all), (4, .box [.pv (.bool false), .pv (.str ⟨#[]⟩), .pv (.i 0), .pv .nil, .pv .nil]), (6, .box [.pv (.bool (lfB ws)), .pv (.str (ws.getD 1 ByteArray.empty)), .pv (.i 1), .pv .nil, .pv .nil])]⟩) (fun (i : Nat) => ((ws.getD 2 ByteArray.empty)).size - i) 0 ?_ (Ent.kept ⟨rfl, rfl, rfl, rfl, rfl, rfl, rfl, rfl, trivial⟩ ⟨rfl, rfl, rfl, trivial⟩) ?_
              · exact ⟨Nat.zero_le _, rfl⟩
              rintro i hp
              try dsimp only at hp
              obtain ⟨hi, hD⟩ := hp
              refine awp_seq ?_
              refine awp_seq ?_
              refine awp_region rfl (.n (fun _ => op_move (.plain rfl)) (.n (fun _ => op_move (.plain rfl)) (.n (fun _ => op_indexAddr Tryd.underlying49 Tryd.sizeOf9 (.plain rfl) (.plain rfl) (fun _ => rfl) ?_) (.n (fun _ => op_load Tryd.isAgg9 (.plain rfl)) (.n (fun _ => op_lenS Tryd.underlying9 (.plain rfl)) (.n (fun _ => op_lss (.plain rfl) (.plain rfl)) (.nil _))))))) ?_
              · omega
              refine awp_cond rfl (fun h => ?_) (fun h => ?_)
              · skip
                have h91 : (i : Int) < (((ws.getD 2 ByteArray.empty)).size : Nat) := of_decide_eq_true h
                refine awp_skip ?_
                refine awp_seq ?_
                refine awp_block ?_
                refine awp_seq ?_
                refine awp_region rfl (.n (fun _ => op_move (.plain rfl)) (.n (fun _ => op_indexAddr Tryd.underlying49 Tryd.sizeOf9 (.plain rfl) (.plain rfl) (fun _ => rfl) ?_) (.n (fun _ => op_load Tryd.isAgg9 (.plain rfl)) (.n (fun _ => op_move (.plain rfl)) (.n (fun _ => op_indexS Tryd.underlying9 (.plain rfl) (.plain rfl) ?_) (.n (fun _ => op_call1 Tryd.call43 (.plain rfl) (figure_fc _)) (.n (fun _ => op_assign (.plain rfl)) (.nil _)))))))) ?_
                · omega
                · show 0 ≤ (i : Int) ∧ (i : Int) < (((ws.getD 2 ByteArray.empty)).size : Nat)
                  omega
                refine awp_seq ?_
                refine awp_region rfl (.n (fun _ => op_move (.plain rfl)) (.n (fun _ => op_not (.plain rfl)) (.nil _))) ?_
                refine awp_cond rfl (fun h => ?_) (fun h => ?_)
                · skip
                  have h101 : figB (byteAt (ws.getD 2 ByteArray.empty) i) = false := by simpa using h
                  refine awp_seq ?_
                  refine awp_region rfl (.r (op_loadRA Tryd.isAgg69 Tryd.sizeOf69 (.plain rfl) rfl (by first | (simp; done) | exact Nat.le_of_ble_eq_true rfl) rfl) (.e (op_storeRA Tryd.sizeOf69 (.plain rfl) (.plain rfl) rfl rfl (Nat.le_of_ble_eq_true rfl) rfl) rfl (.n (fun _ => op_assign (.plain rfl)) (.nil _)))) ?_
                  refine awp_ent (Ent.giveBox 4 rfl rfl rfl) ?_
                  refine awp_ent (Ent.anyRd 4 rfl rfl) ?_
                  refine awp_ret ?_
                  refine retX.ret ?_
                  refine retXC1 rfl rfl Tryd.isAgg69 Tryd.sizeOf69 rfl ⟨rfl, trivial⟩ ⟨.inr rfl, trivial⟩ ?_
                  exact rsV_no ((hB.room h85 (by rw [hg2, roomE_3 (.inl (dig_some (by omega) h101))]; decide)).trans (by rw [hg2]; exact roomE_3 (.inl (dig_some (by omega) h101)))) (by decide)
                · skip
                  have h101 : figB (byteAt (ws.getD 2 ByteArray.empty) i) = true := by simpa using h
                  refine awp_skip ?_
                  refine awp_region rfl (.n (fun _ => op_move (.plain rfl)) (.n (fun _ => op_add (.plain rfl) (.plain rfl) ?_) (.n (fun _ => op_assign (.plain rfl)) (.nil _)))) ?_
                  · unfold InR; omega
                  exact ⟨i + 1, ⟨by omega, firstI_succ hD (by unfold dgB; rw [h101]; rfl)⟩, by dsimp only; omega, (Ent.kept ⟨rfl, rfl, rfl, rfl, rfl, rfl, rfl, rfl, trivial⟩ ⟨rfl, rfl, rfl, trivial⟩)⟩
              · skip
                have h91 : ¬ (i : Int) < (((ws.getD 2 ByteArray.empty)).size : Nat) := of_decide_eq_false h
                obtain rfl : i = ((ws.getD 2 ByteArray.empty)).size := by omega
                have hdig : digF (ws.getD 2 ByteArray.empty) = true := dig_none hD
                refine awp_exit ?_
                refine awp_seq ?_
                refine awp_seq ?_
                refine awp_region rfl (.n (fun _ => op_move (.plain rfl)) (.n (fun _ => op_indexAddr Tryd.underlying49 Tryd.sizeOf9 (.plain rfl) (.plain rfl) (fun _ => rfl) ?_) (.n (fun _ => op_load Tryd.isAgg9 (.plain rfl)) (.n (fun _ => op_lenS Tryd.underlying9 (.plain rfl)) (.n (fun _ => op_gtr (.plain rfl) (.plain rfl)) (.n (fun _ => op_move (.plain rfl)) (.gn rfl rfl (fun hg _ => op_move (.plain rfl)) (.gn rfl rfl (fun hg _ => op_indexAddr Tryd.underlying49 Tryd.sizeOf9 (.opt rfl fun h => h) (.plain rfl) (fun _ => rfl) ?_) (.gn rfl rfl (fun hg _ => op_load Tryd.isAgg9 (.opt rfl fun h => h)) (.gn rfl rfl (fun hg _ => op_indexS Tryd.underlying9 (.opt rfl fun h => h) (.plain rfl) ?_) (.gn rfl rfl (fun hg _ => op_eql (.opt rfl fun h => h) (.plain rfl)) (.n (fun _ => op_and (.plain rfl) (.plain rfl) (.plain rfl) (fun h => eqT h)) (.nil _))))))))))))) ?_
                · omega
                · try simp only [beq_iff_eq, beq_true, beq_false, Bool.and_eq_true, decide_eq_true_eq, decide_eq_false_iff_not, Bool.not_eq_true', Bool.or_eq_true, Bool.or_eq_false_iff] at hg
                  omega
                · try simp only [beq_iff_eq, beq_true, beq_false, Bool.and_eq_true, decide_eq_true_eq, decide_eq_false_iff_not, Bool.not_eq_true', Bool.or_eq_true, Bool.or_eq_false_iff] at hg
                  show 0 ≤ (0 : Int) ∧ (0 : Int) < (((ws.getD 2 ByteArray.empty)).size : Nat)
                  omega
                refine awp_cond rfl (fun h => ?_) (fun h => ?_)
                · skip
                  have h114 : leadB (ws.getD 2 ByteArray.empty) = true := h
                  refine awp_seq ?_
                  refine awp_region rfl (.r (op_loadRA Tryd.isAgg69 Tryd.sizeOf69 (.plain rfl) rfl (by first | (simp; done) | exact Nat.le_of_ble_eq_true rfl) rfl) (.e (op_storeRA Tryd.sizeOf69 (.plain rfl) (.plain rfl) rfl rfl (Nat.le_of_ble_eq_true rfl) rfl) rfl (.n (fun _ => op_assign (.plain rfl)) (.nil _)))) ?_
                  refine awp_ent (Ent.giveBox 4 rfl rfl rfl) ?_
                  refine awp_ent (Ent.anyRd 4 rfl rfl) ?_
                  refine awp_ret ?_
                  refine retX.ret ?_
                  refine retXC1 rfl rfl Tryd.isAgg69 Tryd.sizeOf69 rfl ⟨rfl, trivial⟩ ⟨.inr rfl, trivial⟩ ?_
                  exact rsV_no ((hB.room h85 (by rw [hg2, roomE_3 (.inr h114)]; decide)).trans (by rw [hg2]; exact roomE_3 (.inr h114))) (by decide)
                · skip
                  have h114 : leadB (ws.getD 2 ByteArray.empty) = false := h
                  refine awp_skip ?_
                  refine awp_seq ?_
                  refine awp_seq ?_
                  refine awp_region rfl (.n (fun _ => op_move (.plain rfl)) (.n (fun _ => op_indexAddr Tryd.underlying49 Tryd.sizeOf9 (.plain rfl) (.plain rfl) (fun _ => rfl) ?_) (.n (fun _ => op_load Tryd.isAgg9 (.plain rfl)) (.n (fun _ => op_lenS Tryd.underlying9 (.plain rfl)) (.n (fun _ => op_gtr (.plain rfl) (.plain rfl)) (.n (fun _ => op_move (.plain rfl)) (.gn rfl rfl (fun hg _ => op_move (.plain rfl)) (.gn rfl rfl (fun hg _ => op_indexAddr Tryd.underlying49 Tryd.sizeOf9 (.opt rfl fun h => h) (.plain rfl) (fun _ => rfl) ?_) (.gn rfl rfl (fun hg _ => op_load Tryd.isAgg9 (.opt rfl fun h => h)) (.gn rfl rfl (fun hg _ => op_indexS Tryd.underlying9 (.opt rfl fun h => h) (.plain rfl) ?_) (.gn rfl rfl (fun hg _ => op_lss (.opt rfl fun h => h) (.plain rfl)) (.n (fun _ => op_or (.plain rfl) (.plain rfl) (.plain rfl) (fun h => eqF h)) (.n (fun _ => op_move (.plain rfl)) (.gn rfl rfl (fun hg _ => op_move (.plain rfl)) (.gn rfl rfl (fun hg _ => op_indexAddr Tryd.underlying49 Tryd.sizeOf9 (.opt rfl fun h => h) (.plain rfl) (fun _ => rfl) ?_) (.gn rfl rfl (fun hg _ => op_load Tryd.isAgg9 (.opt rfl fun h => h)) (.gn rfl rfl (fun hg _ => op_indexS Tryd.underlying9 (.opt rfl fun h => h) (.plain rfl) ?_) (.gn rfl rfl (fun hg _ => op_gtr (.opt rfl fun h => h) (.plain rfl)) (.n (fun _ => op_or (.plain rfl) (.plain rfl) (.plain rfl) (fun h => eqF h)) (.nil _)))))))))))))))))))) ?_
                  · omega
                  · try simp only [beq_iff_eq, beq_true, beq_false, Bool.and_eq_true, decide_eq_true_eq, decide_eq_false_iff_not, Bool.not_eq_true', Bool.or_eq_true, Bool.or_eq_false_iff] at hg
                    omega
                  · try simp only [beq_iff_eq, beq_true, beq_false, Bool.and_eq_true, decide_eq_true_eq, decide_eq_false_iff_not, Bool.not_eq_true', Bool.or_eq_true, Bool.or_eq_false_iff] at hg
                    show 0 ≤ (0 : Int) ∧ (0 : Int) < (((ws.getD 2 ByteArray.empty)).size : Nat)
                    omega
                  · try simp only [beq_iff_eq, beq_true, beq_false, Bool.and_eq_true, decide_eq_true_eq, decide_eq_false_iff_not, Bool.not_eq_true', Bool.or_eq_true, Bool.or_eq_false_iff] at hg
                    omega
                  · try simp only [beq_iff_eq, beq_true, beq_false, Bool.and_eq_true, decide_eq_true_eq, decide_eq_false_iff_not, Bool.not_eq_true', Bool.or_eq_true, Bool.or_eq_false_iff] at hg
                    show 0 ≤ (0 : Int) ∧ (0 : Int) < (((ws.getD 2 ByteArray.empty)).size : Nat)
                    omega
                  refine awp_cond rfl (fun h => ?_) (fun h => ?_)
                  · skip
                    have h134 : 1 < (((ws.getD 2 ByteArray.empty)).size : Int) ∨ byteAt (ws.getD 2 ByteArray.empty) 0 < 49 ∨ 52 < byteAt (ws.getD 2 ByteArray.empty) 0 := by have h2 : ((decide (1 < (((ws.getD 2 ByteArray.empty)).size : Int)) || decide (byteAt (ws.getD 2 ByteArray.empty) 0 < 49)) || decide (52 < byteAt (ws.getD 2 ByteArray.empty) 0)) = true := h; simp only [Bool.or_eq_true, decide_eq_true_eq] at h2; omega
                    refine awp_seq ?_
                    refine awp_region rfl (.r (op_loadRA Tryd.isAgg69 Tryd.sizeOf69 (.plain rfl) rfl (by first | (simp; done) | exact Nat.le_of_ble_eq_true rfl) rfl) (.e (op_storeRA Tryd.sizeOf69 (.plain rfl) (.plain rfl) rfl rfl (Nat.le_of_ble_eq_true rfl) rfl) rfl (.n (fun _ => op_assign (.plain rfl)) (.nil _)))) ?_
                    refine awp_ent (Ent.giveBox 4 rfl rfl rfl) ?_
                    refine awp_ent (Ent.anyRd 4 rfl rfl) ?_
                    refine awp_ret ?_
                    refine retX.ret ?_
                    refine retXC1 rfl rfl Tryd.isAgg69 Tryd.sizeOf69 rfl ⟨rfl, trivial⟩ ⟨.inr rfl, trivial⟩ ?_
                    exact rsV_no ((hB.room h85 (by rw [hg2, roomE_9 hdig h114 h134]; decide)).trans (by rw [hg2]; exact roomE_9 hdig h114 h134)) (by decide)
                  · skip
                    have h134 : ¬ (1 < (((ws.getD 2 ByteArray.empty)).size : Int) ∨ byteAt (ws.getD 2 ByteArray.empty) 0 < 49 ∨ 52 < byteAt (ws.getD 2 ByteArray.empty) 0) := by have h2 : ((decide (1 < (((ws.getD 2 ByteArray.empty)).size : Int)) || decide (byteAt (ws.getD 2 ByteArray.empty) 0 < 49)) || decide (52 < byteAt (ws.getD 2 ByteArray.empty) 0)) = false := h; simp only [Bool.or_eq_false_iff, decide_eq_false_iff_not] at h2; omega
                    have hr0 : roomE ((ws.drop 2).getD 0 ByteArray.empty) = 0 := by rw [hg2]; exact roomE_0 hdig h114 h134
                    refine awp_skip ?_
                    refine awp_seq ?_
                    refine awp_region rfl (.n (fun _ => op_move (.plain rfl)) (.n (fun _ => op_indexAddr Tryd.underlying49 Tryd.sizeOf9 (.plain rfl) (.plain rfl) (fun _ => rfl) ?_) (.n (fun _ => op_load Tryd.isAgg9 (.plain rfl)) (.n (fun _ => op_indexS Tryd.underlying9 (.plain rfl) (.plain rfl) ?_) (.n (fun _ => op_subU (.plain rfl) (.plain rfl) ?_) (.n (fun _ => op_convI Tryd.underlying5 Tryd.underlying3 (.plain rfl) ?_) (.n (fun _ => op_fieldAddrR Tryd.underlying69 rfl rfl Tryd.sizeOf27 (.plain rfl)) (.n (fun _ => op_fieldAddrR Tryd.underlying27 rfl rfl Tryd.sizeOf3 (.plain rfl)) (.e (op_storeR Tryd.sizeOf3 (.plain rfl) (.plain rfl) rfl (by first | decide | exact Nat.le_of_ble_eq_true rfl) rfl (by simp) (by simp)) rfl (.nil _)))))))))) ?_
                    · omega
                    · show 0 ≤ (0 : Int) ∧ (0 : Int) < (((ws.getD 2 ByteArray.empty)).size : Nat)
                      omega
                    · have : 49 ≤ byteAt (ws.getD 2 ByteArray.empty) 0 ∧ byteAt (ws.getD 2 ByteArray.empty) 0 ≤ 52 := by omega
                      show 0 ≤ byteAt (ws.getD 2 ByteArray.empty) 0 - 48 ∧ byteAt (ws.getD 2 ByteArray.empty) 0 - 48 ≤ 255
                      omega
                    · have : 49 ≤ byteAt (ws.getD 2 ByteArray.empty) 0 ∧ byteAt (ws.getD 2 ByteArray.empty) 0 ≤ 52 := by omega
                      show 0 ≤ byteAt (ws.getD 2 ByteArray.empty) 0 - 48 ∧ byteAt (ws.getD 2 ByteArray.empty) 0 - 48 < 256
                      omega
                    refine awp_region rfl (.n (fun _ => op_assign (.plain rfl)) (.nil _)) ?_
                    refine awp_seq ?_
                    refine awp_seq ?_
                    refine awp_region rfl (.n (fun _ => op_move (.plain rfl)) (.n (fun _ => op_len (s := 0) Tryd.underlying49 (.plain rfl)) (.n (fun _ => op_move (.plain rfl)) (.n (fun _ => op_leq (.plain rfl) (.plain rfl)) (.nil _))))) ?_
                    refine awp_cond rfl (fun h => ?_) (fun h => ?_)
                    · skip
                      have h147 := of_decide_eq_true h
                      refine awp_seq ?_
                      refine awp_region rfl (.r (op_loadRA Tryd.isAgg69 Tryd.sizeOf69 (.plain rfl) rfl (by first | (simp; done) | exact Nat.le_of_ble_eq_true rfl) rfl) (.e (op_storeRA Tryd.sizeOf69 (.plain rfl) (.plain rfl) rfl rfl (Nat.le_of_ble_eq_true rfl) rfl) rfl (.n (fun _ => op_assign (.plain rfl)) (.nil _)))) ?_
                      refine awp_ent (Ent.giveBox 4 rfl rfl rfl) ?_
                      refine awp_ent (Ent.anyRd 4 rfl rfl) ?_
                      refine awp_ret ?_
                      refine retX.ret ?_
                      refine retXC1 rfl rfl Tryd.isAgg69 Tryd.sizeOf69 rfl ⟨rfl, trivial⟩ ⟨.inr rfl, trivial⟩ ?_
                      exact rsV_no ((hB.tail1 h85 hr0).trans (tailE_4 (by simp only [List.length_drop]; omega))) (by decide)
                    · skip
                      have h147 := of_decide_eq_false h
                      refine awp_skip ?_
                      refine awp_seq ?_
                      refine awp_seq ?_
                      refine awp_region rfl (.n (fun _ => op_move (.plain rfl)) (.n (fun _ => op_move (.plain rfl)) (.n (fun _ => op_indexAddr Tryd.underlying49 Tryd.sizeOf9 (.plain rfl) (.plain rfl) (fun _ => rfl) ?_) (.n (fun _ => op_load Tryd.isAgg9 (.plain rfl)) (.n (fun _ => op_str_neq Tryd.underlying9 (.plain rfl) (.plain rfl)) (.nil _)))))) ?_
                      · omega
                      refine awp_cond rfl (fun h => ?_) (fun h => ?_)
                      · skip
                        have h153 := h
                        refine awp_seq ?_
                        refine awp_region rfl (.r (op_loadRA Tryd.isAgg69 Tryd.sizeOf69 (.plain rfl) rfl (by first | (simp; done) | exact Nat.le_of_ble_eq_true rfl) rfl) (.e (op_storeRA Tryd.sizeOf69 (.plain rfl) (.plain rfl) rfl rfl (Nat.le_of_ble_eq_true rfl) rfl) rfl (.n (fun _ => op_assign (.plain rfl)) (.nil _)))) ?_
                        refine awp_ent (Ent.giveBox 4 rfl rfl rfl) ?_
                        refine awp_ent (Ent.anyRd 4 rfl rfl) ?_
                        refine awp_ret ?_
                        refine retX.ret ?_
                        refine retXC1 rfl rfl Tryd.isAgg69 Tryd.sizeOf69 rfl ⟨rfl, trivial⟩ ⟨.inr rfl, trivial⟩ ?_
                        exact rsV_no ((hB.tail1 h85 hr0).trans (tailE_3 (show ¬ ((((ws.drop 2).drop 1).length : Nat) : Int) = 0 by simp only [List.length_drop]; omega) (show (!decide (((ws.drop 2).drop 1).getD 0 ByteArray.empty = colS)) = true by simp only [drop_getD]; exact h153))) (by decide)
                      · skip
                        have h153 := h
                        refine awp_skip ?_
                        refine awp_seq ?_
                        refine awp_seq ?_
                        refine awp_region rfl (.n (fun _ => op_move (.plain rfl)) (.n (fun _ => op_add (.plain rfl) (.plain rfl) ?_) (.n (fun _ => op_assign (.plain rfl)) (.nil _)))) ?_
                        · unfold InR; omega
                        refine awp_block ?_
                        refine awp_ent (Ent.beginB 6 4 64 9 1 ByteArray ByteArray.empty (fun s => [.str s]) rfl rfl (by decide) rfl rfl) ?_
                        refine awp_loop (σ := Nat) (fun (q : Nat) => q ≤ (((ws.drop 2).drop 1).drop 1).length ∧ firstE (badN (((ws.drop 2).drop 1).drop 1)) q = 0) (fun (q : Nat) => ⟨[(0, .pv (.seq ByteArray ByteArray.empty (fun s => [.str s]) ws)), (1, .own 1), (4, .ref 4 0), (5, .int 0), (6, .ref 6 0), (13, .int (4 + q : Nat)), (1000001, .pin 1 (ι0 1))], [(1, .arr 69 5 (Bool × ByteArray × Int × List Int × List ByteArray) (false, ByteArray.empty, 0, [], []) (fun p => [.bool p.1, .str p.2.1, .i p.2.2.1, .nil, .seq ByteArray ByteArray.empty (fun s => [.str s]) p.2.2.2.2]) all), (4, .box [.pv (.bool false), .pv (.str ⟨#[]⟩), .pv (.i 0), .pv .nil, .pv .nil]), (6, .box [.pv (.bool (lfB ws)), .pv (.str (ws.getD 1 ByteArray.empty)), .pv (.i (roomV (ws.getD 2 ByteArray.empty))), .pv .nil, .own 64]), (64, .arr 9 1 ByteArray ByteArray.empty (fun s => [.str s]) ((((ws.drop 2).drop 1).drop 1).take q))]⟩) (fun (q : Nat) => (((ws.drop 2).drop 1).drop 1).length - q) 0 ?_ (Ent.kept ⟨rfl, rfl, rfl, rfl, rfl, (congrArg (fun n : Int => some (SV.int n)) (by decide)), rfl, trivial⟩ ⟨rfl, rfl, rfl, rfl, trivial⟩) ?_
                        · exact ⟨Nat.zero_le _, rfl⟩
                        rintro q hp
                        try dsimp only at hp
                        obtain ⟨hq, hE⟩ := hp
                        have hRl : (((ws.drop 2).drop 1).drop 1).length = ws.length - 4 := by simp only [List.length_drop]; omega
                        have hgd : (((ws.drop 2).drop 1).drop 1).getD q ByteArray.empty = ws.getD (4 + q) ByteArray.empty := by simp only [drop_getD]; congr 1; omega
                        refine awp_seq ?_
                        refine awp_seq ?_
                        refine awp_region rfl (.n (fun _ => op_move (.plain rfl)) (.n (fun _ => op_move (.plain rfl)) (.n (fun _ => op_len (s := 0) Tryd.underlying49 (.plain rfl)) (.n (fun _ => op_lss (.plain rfl) (.plain rfl)) (.nil _))))) ?_
                        refine awp_cond rfl (fun h => ?_) (fun h => ?_)
                        · skip
                          have h160 := of_decide_eq_true h
                          refine awp_skip ?_
                          refine awp_seq ?_
                          refine awp_block ?_
                          refine awp_seq ?_
                          refine awp_region rfl (.n (fun _ => op_move (.plain rfl)) (.n (fun _ => op_move (.plain rfl)) (.n (fun _ => op_indexAddrN Tryd.underlying49 Tryd.sizeOf9 (.plain rfl) (.plain rfl) (fun _ => rfl) ?_) (.n (fun _ => op_load Tryd.isAgg9 (.plain rfl)) (.n (fun _ => op_call1 Tryd.call21 (.plain rfl) (Named_fc _)) (.n (fun _ => op_assign (.plain rfl)) (.nil _))))))) ?_
                          · omega
                          refine awp_seq ?_
                          refine awp_seq ?_
                          refine awp_region rfl (.n (fun _ => op_move (.plain rfl)) (.n (fun _ => op_not (.plain rfl)) (.nil _))) ?_
                          refine awp_cond rfl (fun h => ?_) (fun h => ?_)
                          · skip
                            have h169 := h
                            refine awp_seq ?_
                            refine awp_ent (Ent.giveB 6 4 64 rfl rfl rfl) ?_
                            refine awp_region rfl (.r (op_loadRA Tryd.isAgg69 Tryd.sizeOf69 (.plain rfl) rfl (by first | (simp; done) | exact Nat.le_of_ble_eq_true rfl) rfl) (.e (op_storeRA Tryd.sizeOf69 (.plain rfl) (.plain rfl) rfl rfl (Nat.le_of_ble_eq_true rfl) rfl) rfl (.n (fun _ => op_assign (.plain rfl)) (.nil _)))) ?_
                            refine awp_ent (Ent.giveBox 4 rfl rfl rfl) ?_
                            refine awp_ent (Ent.anyRd 4 rfl rfl) ?_
                            refine awp_ret ?_
                            refine retX.ret ?_
                            refine retXC1 rfl rfl Tryd.isAgg69 Tryd.sizeOf69 rfl ⟨rfl, trivial⟩ ⟨.inr rfl, trivial⟩ ?_
                            exact rsV_no ((hB.tail1 h85 hr0).trans ((tailE_n (show ¬ ((((ws.drop 2).drop 1).length : Nat) : Int) = 0 by simp only [List.length_drop]; omega) (show (!decide (((ws.drop 2).drop 1).getD 0 ByteArray.empty = colS)) = false by simp only [drop_getD]; exact h153)).trans (badN_at hE (by omega) (by rw [hgd]; exact h169)))) (by decide)
                          · skip
                            have h169 := eq_true_of_not h
                            refine awp_skip ?_
                            refine awp_region_drawG mixed rfl (.n (fun _ => op_fieldAddrR Tryd.underlying69 rfl rfl Tryd.sizeOf49 (.plain rfl)) (.look 6 rfl (fun _ hl => op_loadR Tryd.isAgg49 (.plain rfl)  hl rfl) (.n (fun _ => op_move (.plain rfl)) (.n (fun _ => op_move (.plain rfl)) (.n (fun _ => op_indexAddrN Tryd.underlying49 Tryd.sizeOf9 (.plain rfl) (.plain rfl) (fun _ => rfl) ?_) (.n (fun _ => op_load Tryd.isAgg9 (.plain rfl)) (.n (fun _ => op_slit (pp := [(0, _)]) (α := ByteArray) (d := ByteArray.empty) (f := (fun s => [.str s])) [_] ety49 rfl ⟨rfl, (.plain rfl), (by simp), trivial⟩ rfl (by decide) rfl) (.e (op_append (id' := 178) (α := ByteArray) (d := ByteArray.empty) (f := (fun s => [.str s])) ety49 Tryd.underlying49 (fun _ => rfl) (fun _ => rfl) (.plain rfl) rfl (.plain rfl) rfl ?_) rfl (.n (fun _ => op_fieldAddrR Tryd.underlying69 rfl rfl Tryd.sizeOf49 (.plain rfl)) (.e (op_storeR Tryd.sizeOf49 (.plain rfl) (.plain rfl) rfl (by first | decide | exact Nat.le_of_ble_eq_true rfl) rfl (by simp) (fun i h => by cases h; exact ⟨_, _, _, _, _, _, rfl⟩)) rfl (.nil _))))))))))) ?d3 ?dg3 ?_
                            · omega
                            · simp only [List.length_take, List.length_cons, List.length_nil]
                              omega
                            · kernel_rfl
                            · exact gOk_one 1 6 _ [] rfl (by kernel_rfl) rfl (by kernel_rfl) (fun k hk => by cases hk)
                            refine awp_region rfl (.n (fun _ => op_move (.plain rfl)) (.n (fun _ => op_add (.plain rfl) (.plain rfl) ?_) (.n (fun _ => op_assign (.plain rfl)) (.nil _)))) ?_
                            · unfold InR; omega
                            exact ⟨q + 1, ⟨by omega, firstE_succ hE (if_neg (by rw [hgd, h169]; decide))⟩, by dsimp only; omega, (Ent.round 178 64 ⟨rfl, rfl, rfl, rfl, rfl, (congrArg (fun n : Int => some (SV.int n)) (by omega)), rfl, trivial⟩ ⟨rfl, rfl, rfl, (congrArg (fun l => some (Blk.arr 9 1 ByteArray ByteArray.empty (fun s => [.str s]) l)) (take_snoc (by omega) hgd.symm)), trivial⟩ rfl rfl rfl ⟨rfl, rfl, rfl, rfl, rfl, rfl, rfl, trivial⟩ ⟨rfl, rfl, rfl, rfl, trivial⟩)⟩
                        · skip
                          have h160 := of_decide_eq_false h
                          refine awp_exit ?_
                          refine awp_seq ?_
                          refine awp_ent (Ent.giveB 6 4 64 rfl rfl rfl) ?_
                          refine awp_region rfl (.r (op_loadRA Tryd.isAgg69 Tryd.sizeOf69 (.plain rfl) rfl (by first | (simp; done) | exact Nat.le_of_ble_eq_true rfl) rfl) (.e (op_storeRA Tryd.sizeOf69 (.plain rfl) (.plain rfl) rfl rfl (Nat.le_of_ble_eq_true rfl) rfl) rfl (.n (fun _ => op_assign (.plain rfl)) (.nil _)))) ?_
                          refine awp_ent (Ent.giveBox 4 rfl rfl rfl) ?_
                          refine awp_ret ?_
                          refine retX.ret ?_
                          refine retXC1 rfl rfl Tryd.isAgg69 Tryd.sizeOf69 rfl ⟨rfl, trivial⟩ ⟨.inr rfl, trivial⟩ ?_
                          have hqq : q = (((ws.drop 2).drop 1).drop 1).length := by omega
                          refine rsV_ok ((hB.tail1 h85 hr0).trans ((tailE_n (show ¬ ((((ws.drop 2).drop 1).length : Nat) : Int) = 0 by simp only [List.length_drop]; omega) (show (!decide (((ws.drop 2).drop 1).getD 0 ByteArray.empty = colS)) = false by simp only [drop_getD]; exact h153)).trans (hqq ▸ hE))) ?_
                          unfold lnV rdV rdRm rdLk
                          rw [if_pos h85, if_pos h85, hg2]
                          rw [hqq, List.take_length]
            · skip
              have h85 : roomed ws = false := (roomed_eq ws).symm.trans h
              refine awp_skip ?_
              refine awp_seq ?_
              refine awp_seq ?_
              refine awp_region rfl (.n (fun _ => op_move (.plain rfl)) (.n (fun _ => op_len (s := 0) Tryd.underlying49 (.plain rfl)) (.n (fun _ => op_move (.plain rfl)) (.n (fun _ => op_leq (.plain rfl) (.plain rfl)) (.nil _))))) ?_
              refine awp_cond rfl (fun h => ?_) (fun h => ?_)
              · skip
                have h147 := of_decide_eq_true h
                refine awp_seq ?_
                refine awp_region rfl (.r (op_loadRA Tryd.isAgg69 Tryd.sizeOf69 (.plain rfl) rfl (by first | (simp; done) | exact Nat.le_of_ble_eq_true rfl) rfl) (.e (op_storeRA Tryd.sizeOf69 (.plain rfl) (.plain rfl) rfl rfl (Nat.le_of_ble_eq_true rfl) rfl) rfl (.n (fun _ => op_assign (.plain rfl)) (.nil _)))) ?_
                refine awp_ent (Ent.giveBox 4 rfl rfl rfl) ?_
                refine awp_ent (Ent.anyRd 4 rfl rfl) ?_
                refine awp_ret ?_
                refine retX.ret ?_
                refine retXC1 rfl rfl Tryd.isAgg69 Tryd.sizeOf69 rfl ⟨rfl, trivial⟩ ⟨.inr rfl, trivial⟩ ?_
                exact rsV_no ((hB.tail0 h85).trans (tailE_4 (by simp only [List.length_drop]; omega))) (by decide)
              · skip
                have h147 := of_decide_eq_false h
                refine awp_skip ?_
                refine awp_seq ?_
                refine awp_seq ?_
                refine awp_region rfl (.n (fun _ => op_move (.plain rfl)) (.n (fun _ => op_move (.plain rfl)) (.n (fun _ => op_indexAddr Tryd.underlying49 Tryd.sizeOf9 (.plain rfl) (.plain rfl) (fun _ => rfl) ?_) (.n (fun _ => op_load Tryd.isAgg9 (.plain rfl)) (.n (fun _ => op_str_neq Tryd.underlying9 (.plain rfl) (.plain rfl)) (.nil _)))))) ?_
                · omega
                refine awp_cond rfl (fun h => ?_) (fun h => ?_)
                · skip
                  have h153 := h
                  refine awp_seq ?_
                  refine awp_region rfl (.r (op_loadRA Tryd.isAgg69 Tryd.sizeOf69 (.plain rfl) rfl (by first | (simp; done) | exact Nat.le_of_ble_eq_true rfl) rfl) (.e (op_storeRA Tryd.sizeOf69 (.plain rfl) (.plain rfl) rfl rfl (Nat.le_of_ble_eq_true rfl) rfl) rfl (.n (fun _ => op_assign (.plain rfl)) (.nil _)))) ?_
                  refine awp_ent (Ent.giveBox 4 rfl rfl rfl) ?_
                  refine awp_ent (Ent.anyRd 4 rfl rfl) ?_
                  refine awp_ret ?_
                  refine retX.ret ?_
                  refine retXC1 rfl rfl Tryd.isAgg69 Tryd.sizeOf69 rfl ⟨rfl, trivial⟩ ⟨.inr rfl, trivial⟩ ?_
                  exact rsV_no ((hB.tail0 h85).trans (tailE_3 (show ¬ (((ws.drop 2).length : Nat) : Int) = 0 by simp only [List.length_drop]; omega) (show (!decide ((ws.drop 2).getD 0 ByteArray.empty = colS)) = true by simp only [drop_getD]; exact h153))) (by decide)
                · skip
                  have h153 := h
                  refine awp_skip ?_
                  refine awp_seq ?_
                  refine awp_seq ?_
                  refine awp_region rfl (.n (fun _ => op_move (.plain rfl)) (.n (fun _ => op_add (.plain rfl) (.plain rfl) ?_) (.n (fun _ => op_assign (.plain rfl)) (.nil _)))) ?_
                  · unfold InR; omega
                  refine awp_block ?_
                  refine awp_ent (Ent.beginB 6 4 64 9 1 ByteArray ByteArray.empty (fun s => [.str s]) rfl rfl (by decide) rfl rfl) ?_
                  refine awp_loop (σ := Nat) (fun (q : Nat) => q ≤ ((ws.drop 2).drop 1).length ∧ firstE (badN ((ws.drop 2).drop 1)) q = 0) (fun (q : Nat) => ⟨[(0, .pv (.seq ByteArray ByteArray.empty (fun s => [.str s]) ws)), (1, .own 1), (4, .ref 4 0), (5, .int 0), (6, .ref 6 0), (13, .int (3 + q : Nat)), (1000001, .pin 1 (ι0 1))], [(1, .arr 69 5 (Bool × ByteArray × Int × List Int × List ByteArray) (false, ByteArray.empty, 0, [], []) (fun p => [.bool p.1, .str p.2.1, .i p.2.2.1, .nil, .seq ByteArray ByteArray.empty (fun s => [.str s]) p.2.2.2.2]) all), (4, .box [.pv (.bool false), .pv (.str ⟨#[]⟩), .pv (.i 0), .pv .nil, .pv .nil]), (6, .box [.pv (.bool (lfB ws)), .pv (.str (ws.getD 1 ByteArray.empty)), .pv (.i 1), .pv .nil, .own 64]), (64, .arr 9 1 ByteArray ByteArray.empty (fun s => [.str s]) (((ws.drop 2).drop 1).take q))]⟩) (fun (q : Nat) => ((ws.drop 2).drop 1).length - q) 0 ?_ (Ent.kept ⟨rfl, rfl, rfl, rfl, rfl, (congrArg (fun n : Int => some (SV.int n)) (by decide)), rfl, trivial⟩ ⟨rfl, rfl, rfl, rfl, trivial⟩) ?_
                  · exact ⟨Nat.zero_le _, rfl⟩
                  rintro q hp
                  try dsimp only at hp
                  obtain ⟨hq, hE⟩ := hp
                  have hRl : ((ws.drop 2).drop 1).length = ws.length - 3 := by simp only [List.length_drop]; omega
                  have hgd : ((ws.drop 2).drop 1).getD q ByteArray.empty = ws.getD (3 + q) ByteArray.empty := by simp only [drop_getD]; congr 1; omega
                  refine awp_seq ?_
                  refine awp_seq ?_
                  refine awp_region rfl (.n (fun _ => op_move (.plain rfl)) (.n (fun _ => op_move (.plain rfl)) (.n (fun _ => op_len (s := 0) Tryd.underlying49 (.plain rfl)) (.n (fun _ => op_lss (.plain rfl) (.plain rfl)) (.nil _))))) ?_
                  refine awp_cond rfl (fun h => ?_) (fun h => ?_)
                  · skip
                    have h160 := of_decide_eq_true h
                    refine awp_skip ?_
                    refine awp_seq ?_
                    refine awp_block ?_
                    refine awp_seq ?_
                    refine awp_region rfl (.n (fun _ => op_move (.plain rfl)) (.n (fun _ => op_move (.plain rfl)) (.n (fun _ => op_indexAddrN Tryd.underlying49 Tryd.sizeOf9 (.plain rfl) (.plain rfl) (fun _ => rfl) ?_) (.n (fun _ => op_load Tryd.isAgg9 (.plain rfl)) (.n (fun _ => op_call1 Tryd.call21 (.plain rfl) (Named_fc _)) (.n (fun _ => op_assign (.plain rfl)) (.nil _))))))) ?_
                    · omega
                    refine awp_seq ?_
                    refine awp_seq ?_
                    refine awp_region rfl (.n (fun _ => op_move (.plain rfl)) (.n (fun _ => op_not (.plain rfl)) (.nil _))) ?_
                    refine awp_cond rfl (fun h => ?_) (fun h => ?_)
                    · skip
                      have h169 := h
                      refine awp_seq ?_
                      refine awp_ent (Ent.giveB 6 4 64 rfl rfl rfl) ?_
                      refine awp_region rfl (.r (op_loadRA Tryd.isAgg69 Tryd.sizeOf69 (.plain rfl) rfl (by first | (simp; done) | exact Nat.le_of_ble_eq_true rfl) rfl) (.e (op_storeRA Tryd.sizeOf69 (.plain rfl) (.plain rfl) rfl rfl (Nat.le_of_ble_eq_true rfl) rfl) rfl (.n (fun _ => op_assign (.plain rfl)) (.nil _)))) ?_
                      refine awp_ent (Ent.giveBox 4 rfl rfl rfl) ?_
                      refine awp_ent (Ent.anyRd 4 rfl rfl) ?_
                      refine awp_ret ?_
                      refine retX.ret ?_
                      refine retXC1 rfl rfl Tryd.isAgg69 Tryd.sizeOf69 rfl ⟨rfl, trivial⟩ ⟨.inr rfl, trivial⟩ ?_
                      exact rsV_no ((hB.tail0 h85).trans ((tailE_n (show ¬ (((ws.drop 2).length : Nat) : Int) = 0 by simp only [List.length_drop]; omega) (show (!decide ((ws.drop 2).getD 0 ByteArray.empty = colS)) = false by simp only [drop_getD]; exact h153)).trans (badN_at hE (by omega) (by rw [hgd]; exact h169)))) (by decide)
                    · skip
                      have h169 := eq_true_of_not h
                      refine awp_skip ?_
                      refine awp_region_drawG mixed rfl (.n (fun _ => op_fieldAddrR Tryd.underlying69 rfl rfl Tryd.sizeOf49 (.plain rfl)) (.look 6 rfl (fun _ hl => op_loadR Tryd.isAgg49 (.plain rfl)  hl rfl) (.n (fun _ => op_move (.plain rfl)) (.n (fun _ => op_move (.plain rfl)) (.n (fun _ => op_indexAddrN Tryd.underlying49 Tryd.sizeOf9 (.plain rfl) (.plain rfl) (fun _ => rfl) ?_) (.n (fun _ => op_load Tryd.isAgg9 (.plain rfl)) (.n (fun _ => op_slit (pp := [(0, _)]) (α := ByteArray) (d := ByteArray.empty) (f := (fun s => [.str s])) [_] ety49 rfl ⟨rfl, (.plain rfl), (by simp), trivial⟩ rfl (by decide) rfl) (.e (op_append (id' := 178) (α := ByteArray) (d := ByteArray.empty) (f := (fun s => [.str s])) ety49 Tryd.underlying49 (fun _ => rfl) (fun _ => rfl) (.plain rfl) rfl (.plain rfl) rfl ?_) rfl (.n (fun _ => op_fieldAddrR Tryd.underlying69 rfl rfl Tryd.sizeOf49 (.plain rfl)) (.e (op_storeR Tryd.sizeOf49 (.plain rfl) (.plain rfl) rfl (by first | decide | exact Nat.le_of_ble_eq_true rfl) rfl (by simp) (fun i h => by cases h; exact ⟨_, _, _, _, _, _, rfl⟩)) rfl (.nil _))))))))))) ?d4 ?dg4 ?_
                      · omega
                      · simp only [List.length_take, List.length_cons, List.length_nil]
                        omega
                      · kernel_rfl
                      · exact gOk_one 1 6 _ [] rfl (by kernel_rfl) rfl (by kernel_rfl) (fun k hk => by cases hk)
                      refine awp_region rfl (.n (fun _ => op_move (.plain rfl)) (.n (fun _ => op_add (.plain rfl) (.plain rfl) ?_) (.n (fun _ => op_assign (.plain rfl)) (.nil _)))) ?_
                      · unfold InR; omega
                      exact ⟨q + 1, ⟨by omega, firstE_succ hE (if_neg (by rw [hgd, h169]; decide))⟩, by dsimp only; omega, (Ent.round 178 64 ⟨rfl, rfl, rfl, rfl, rfl, (congrArg (fun n : Int => some (SV.int n)) (by omega)), rfl, trivial⟩ ⟨rfl, rfl, rfl, (congrArg (fun l => some (Blk.arr 9 1 ByteArray ByteArray.empty (fun s => [.str s]) l)) (take_snoc (by omega) hgd.symm)), trivial⟩ rfl rfl rfl ⟨rfl, rfl, rfl, rfl, rfl, rfl, rfl, trivial⟩ ⟨rfl, rfl, rfl, rfl, trivial⟩)⟩
                  · skip
                    have h160 := of_decide_eq_false h
                    refine awp_exit ?_
                    refine awp_seq ?_
                    refine awp_ent (Ent.giveB 6 4 64 rfl rfl rfl) ?_
                    refine awp_region rfl (.r (op_loadRA Tryd.isAgg69 Tryd.sizeOf69 (.plain rfl) rfl (by first | (simp; done) | exact Nat.le_of_ble_eq_true rfl) rfl) (.e (op_storeRA Tryd.sizeOf69 (.plain rfl) (.plain rfl) rfl rfl (Nat.le_of_ble_eq_true rfl) rfl) rfl (.n (fun _ => op_assign (.plain rfl)) (.nil _)))) ?_
                    refine awp_ent (Ent.giveBox 4 rfl rfl rfl) ?_
                    refine awp_ret ?_
                    refine retX.ret ?_
                    refine retXC1 rfl rfl Tryd.isAgg69 Tryd.sizeOf69 rfl ⟨rfl, trivial⟩ ⟨.inr rfl, trivial⟩ ?_
                    have hqq : q = ((ws.drop 2).drop 1).length := by omega
                    refine rsV_ok ((hB.tail0 h85).trans ((tailE_n (show ¬ (((ws.drop 2).length : Nat) : Int) = 0 by simp only [List.length_drop]; omega) (show (!decide ((ws.drop 2).getD 0 ByteArray.empty = colS)) = false by simp only [drop_getD]; exact h153)).trans (hqq ▸ hE))) ?_
                    unfold lnV rdV rdRm rdLk
                    rw [if_neg (by simp [h85]), if_neg (by simp [h85])]
                    rw [hqq, List.take_length]

end Go.Proofs.YtolmcapbpliaiaaDoor

