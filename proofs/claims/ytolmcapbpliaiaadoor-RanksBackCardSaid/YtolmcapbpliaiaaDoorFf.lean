/- A line of a text, read. Conditions: each theorem names its own. -/
import Derived.Test.YtolmcapbpliaiaaDoorProg
import Derived.Test.YtolmcapbpliaiaaDoorFe
namespace Go.Proofs.YtolmcapbpliaiaaDoor
open Go.Abs
set_option linter.unusedVariables false
set_option linter.unusedSimpArgs false

set_option linter.unusedVariables false

/-! ### A line -/
abbrev Ln := Bool × ByteArray × Int × List Int × List ByteArray
def colS : ByteArray := ⟨#[58]⟩
def lnL (l : List Ln) (i : Nat) : Bool := (l.getD i (false, ByteArray.empty, 0, [], [])).1
def lnN (l : List Ln) (i : Nat) : ByteArray := (l.getD i (false, ByteArray.empty, 0, [], [])).2.1
def side0 (ws : List ByteArray) : Bool := !decide (ws.getD 0 ByteArray.empty = sLeft) && !decide (ws.getD 0 ByteArray.empty = sRight)
def lfB (ws : List ByteArray) : Bool := decide (ws.getD 0 ByteArray.empty = sLeft)
def dupB (all : List Ln) (nm : ByteArray) (i : Nat) : Int := if lnN all i = nm then 6 else 0
def cntL (all : List Ln) (b : Bool) : Nat → Int
  | 0 => 0
  | i + 1 => if (lnL all i == b) = true then cntL all b i + 1 else cntL all b i
def badN (ls : List ByteArray) (i : Nat) : Int := if namedF (ls.getD i ByteArray.empty) = false then 3 else 0
def tailE (r : List ByteArray) : Int := if ((r.length : Nat) : Int) = 0 then 4 else if (!decide (r.getD 0 ByteArray.empty = colS)) = true then 3 else firstE (badN (r.drop 1)) (r.drop 1).length
def roomed (ws : List ByteArray) : Bool := decide (0 < (((ws.drop 2).length : Nat) : Int)) && !decide ((ws.drop 2).getD 0 ByteArray.empty = colS)
def rdE (ws : List ByteArray) (all : List Ln) : Int :=
  if side0 ws = true then 3 else if ((ws.length : Nat) : Int) < 2 then 4 else if namedF (ws.getD 1 ByteArray.empty) = false then 3 else
  if firstE (dupB all (ws.getD 1 ByteArray.empty)) all.length ≠ 0 then 6 else if cntL all (lfB ws) all.length = 6 then 2 else
  if roomed ws = true then (if roomE ((ws.drop 2).getD 0 ByteArray.empty) ≠ 0 then roomE ((ws.drop 2).getD 0 ByteArray.empty) else tailE ((ws.drop 2).drop 1)) else tailE (ws.drop 2)
def rdRm (ws : List ByteArray) : Int := if roomed ws = true then roomV ((ws.drop 2).getD 0 ByteArray.empty) else 1
def rdLk (ws : List ByteArray) : List ByteArray := if roomed ws = true then ((ws.drop 2).drop 1).drop 1 else (ws.drop 2).drop 1
def rdV (ws : List ByteArray) : Ln := (lfB ws, ws.getD 1 ByteArray.empty, rdRm ws, [], rdLk ws)
theorem cntL_le (all : List Ln) (b : Bool) : ∀ i : Nat, 0 ≤ cntL all b i ∧ cntL all b i ≤ i
  | 0 => by simp [cntL]
  | i + 1 => by
    have := cntL_le all b i
    unfold cntL
    split <;> omega
theorem slice_1 {α : Type} (l : List α) : (l.take ((l.length : Nat) : Int).toNat).drop (1 : Int).toNat = l.drop 1 := by simp
theorem slice_2 {α : Type} (l : List α) : (l.take ((l.length : Nat) : Int).toNat).drop (2 : Int).toNat = l.drop 2 := by simp
section
variable {ws : List ByteArray} {all : List Ln}
/-- What has been found well by the time that the name is known. -/
structure RdA (ws : List ByteArray) (all : List Ln) : Prop where
  a : side0 ws = false
  b : ¬ ((ws.length : Nat) : Int) < 2
  c : ¬ namedF (ws.getD 1 ByteArray.empty) = false
structure RdB (ws : List ByteArray) (all : List Ln) : Prop extends RdA ws all where
  d : firstE (dupB all (ws.getD 1 ByteArray.empty)) all.length = 0
  e : ¬ cntL all (lfB ws) all.length = 6
theorem rdE_a (h : side0 ws = true) : rdE ws all = 3 := if_pos h
theorem rdE_b (h : side0 ws = false) (h' : ((ws.length : Nat) : Int) < 2) : rdE ws all = 4 := by unfold rdE; rw [if_neg (by simp [h]), if_pos h']
theorem rdE_c (h : side0 ws = false) (h' : ¬ ((ws.length : Nat) : Int) < 2) (h2 : namedF (ws.getD 1 ByteArray.empty) = false) : rdE ws all = 3 := by unfold rdE; rw [if_neg (by simp [h]), if_neg h', if_pos h2]
theorem RdA.dup (h : RdA ws all) {i : Nat} (hi : i < all.length) (hE : firstE (dupB all (ws.getD 1 ByteArray.empty)) i = 0) (hc : lnN all i = ws.getD 1 ByteArray.empty) : rdE ws all = 6 := by
  have := firstE_stop (f := dupB all (ws.getD 1 ByteArray.empty)) hE (show dupB all (ws.getD 1 ByteArray.empty) i = 6 from if_pos hc) (by decide) hi
  unfold rdE; rw [if_neg (by simp [h.a]), if_neg h.b, if_neg h.c, if_pos (by omega)]
theorem RdA.cnt (h : RdA ws all) (hE : firstE (dupB all (ws.getD 1 ByteArray.empty)) all.length = 0) (hc : cntL all (lfB ws) all.length = 6) : rdE ws all = 2 := by
  unfold rdE; rw [if_neg (by simp [h.a]), if_neg h.b, if_neg h.c, if_neg (by omega), if_pos hc]
theorem RdB.room (h : RdB ws all) (hr : roomed ws = true) (h0 : roomE ((ws.drop 2).getD 0 ByteArray.empty) ≠ 0) : rdE ws all = roomE ((ws.drop 2).getD 0 ByteArray.empty) := by
  unfold rdE; rw [if_neg (by simp [h.a]), if_neg h.b, if_neg h.c, if_neg (by have := h.d; omega), if_neg h.e, if_pos hr, if_pos h0]
theorem RdB.tail1 (h : RdB ws all) (hr : roomed ws = true) (h0 : roomE ((ws.drop 2).getD 0 ByteArray.empty) = 0) : rdE ws all = tailE ((ws.drop 2).drop 1) := by
  unfold rdE; rw [if_neg (by simp [h.a]), if_neg h.b, if_neg h.c, if_neg (by have := h.d; omega), if_neg h.e, if_pos hr, if_neg (by omega)]
theorem RdB.tail0 (h : RdB ws all) (hr : roomed ws = false) : rdE ws all = tailE (ws.drop 2) := by
  unfold rdE; rw [if_neg (by simp [h.a]), if_neg h.b, if_neg h.c, if_neg (by have := h.d; omega), if_neg h.e, if_neg (by simp [hr])]
theorem tailE_4 {r : List ByteArray} (h : ((r.length : Nat) : Int) = 0) : tailE r = 4 := if_pos h
theorem tailE_3 {r : List ByteArray} (h : ¬ ((r.length : Nat) : Int) = 0) (h' : (!decide (r.getD 0 ByteArray.empty = colS)) = true) : tailE r = 3 := by unfold tailE; rw [if_neg h, if_pos h']
theorem tailE_n {r : List ByteArray} (h : ¬ ((r.length : Nat) : Int) = 0) (h' : (!decide (r.getD 0 ByteArray.empty = colS)) = false) : tailE r = firstE (badN (r.drop 1)) (r.drop 1).length := by unfold tailE; rw [if_neg h, if_neg (by rw [h']; decide)]
theorem eq_true_of_not {b : Bool} (h : (!b) = false) : b = true := by simpa using h
theorem badN_at {r : List ByteArray} {i : Nat} (hE : firstE (badN r) i = 0) (hi : i < r.length) (h : (!namedF (r.getD i ByteArray.empty)) = true) : firstE (badN r) r.length = 3 :=
  firstE_stop hE (show badN r i = 3 from if_pos (by simpa using h)) (by decide) hi
theorem getD_ne {x : List ByteArray} (hx : ∀ y, y ∈ x → y ≠ ⟨#[]⟩) {i : Nat} (hi : i < x.length) : x.getD i ByteArray.empty ≠ ⟨#[]⟩ := by
  rw [List.getD_eq_getElem?_getD, List.getElem?_eq_getElem hi]
  exact hx _ (List.getElem_mem hi)
theorem wsD_mem {x : List ByteArray} {i : Nat} (hi : i < x.length) : x.getD i ByteArray.empty ∈ x := by
  rw [List.getD_eq_getElem?_getD, List.getElem?_eq_getElem hi]
  exact List.getElem_mem hi
end

set_option maxRecDepth 1000000 in
set_option maxHeartbeats 4000000 in
theorem read_fx (gs : List Nat) (ws : List ByteArray) (all : List Ln) (hw : 0 < ws.length) (hne : ∀ x, x ∈ ws → x ≠ ⟨#[]⟩) (hg : 5 ∈ gs ∨ ∀ x, x ∈ ws → x.size ≤ 18) : FXH Tryd.prog gs 28 [.pv (.seq ByteArray ByteArray.empty (fun s => [.str s]) ws), .own 1] [(1, .arr 62 5 (Bool × ByteArray × Int × List Int × List ByteArray) (false, ByteArray.empty, 0, [], []) (fun p => [.bool p.1, .str p.2.1, .i p.2.2.1, .ints p.2.2.2.1, .seq ByteArray ByteArray.empty (fun s => [.str s]) p.2.2.2.2]) all)] (outOf (rdE ws all) (.agg ((fun p => [.bool p.1, .str p.2.1, .i p.2.2.1, .ints p.2.2.2.1, .seq ByteArray ByteArray.empty (fun s => [.str s]) p.2.2.2.2]) (rdV ws)))) := by
  refine FXH.intro Tryd.func28 rfl (Nat.le_of_ble_eq_true rfl) (Nat.le_of_ble_eq_true rfl) fun hfit ι0 => ?_
  change awp _ _ _ _ ⟨[(0, .pv (.seq ByteArray ByteArray.empty (fun s => [.str s]) ws)), (1, .own 1), (1000001, .pin 1 (ι0 1))], [(1, .arr 62 5 (Bool × ByteArray × Int × List Int × List ByteArray) (false, ByteArray.empty, 0, [], []) (fun p => [.bool p.1, .str p.2.1, .i p.2.2.1, .ints p.2.2.2.1, .seq ByteArray ByteArray.empty (fun s => [.str s]) p.2.2.2.2]) all)]⟩
  have fit0 := hfit _ (.head _)
  have hlen := fit0.len
  refine awp_fitH (id := 1) rfl fun hfa => ?_
  have hall := hfa.len
  refine awp_seq ?_
  refine awp_region rfl (.e (op_alloc 4 Tryd.zeroValue62 rfl rfl rfl) rfl (.nil _)) ?_
  refine awp_seq ?_
  refine awp_region rfl (.n (fun _ => op_move (.plain rfl)) (.n (fun _ => op_indexAddr Tryd.underlying49 Tryd.sizeOf9 (.plain rfl) (.plain rfl) (fun _ => rfl) ?_) (.n (fun _ => op_load Tryd.isAgg9 (.plain rfl)) (.n (fun _ => op_str_eql Tryd.underlying9 (.plain rfl) (.plain rfl)) (.n (fun _ => op_build (pp := [(0, _)]) (places := #[(0, 1), (1, 3), (4, 1)]) Tryd.underlying62 Tryd.zeroValue62 rfl (by intro w; kernel_rfl) ⟨rfl, (.plain rfl), (by simp), trivial⟩ rfl) (.e (op_alloc 5 Tryd.zeroValue62 rfl rfl rfl) rfl (.e (op_storeRA Tryd.sizeOf62 (.plain rfl) (.plain rfl) rfl rfl (Nat.le_of_ble_eq_true rfl) rfl) rfl (.nil _)))))))) ?_
  · omega
  refine awp_seq ?_
  refine awp_seq ?_
  refine awp_region rfl (.n (fun _ => op_fieldAddrR Tryd.underlying62 rfl rfl Tryd.sizeOf4 (.plain rfl)) (.r (op_loadR Tryd.isAgg4 (.plain rfl) rfl rfl) (.n (fun _ => op_not (.plain rfl)) (.n (fun _ => op_move (.plain rfl)) (.gn rfl rfl (fun hg _ => op_move (.plain rfl)) (.gn rfl rfl (fun hg _ => op_indexAddr Tryd.underlying49 Tryd.sizeOf9 (.opt rfl fun h => h) (.plain rfl) (fun _ => rfl) ?_) (.gn rfl rfl (fun hg _ => op_load Tryd.isAgg9 (.opt rfl fun h => h)) (.gn rfl rfl (fun hg _ => op_str_neq Tryd.underlying9 (.opt rfl fun h => h) (.plain rfl)) (.n (fun _ => op_and (.plain rfl) (.plain rfl) (.plain rfl) (fun h => eqT h)) (.nil _)))))))))) ?_
  · try simp only [beq_iff_eq, beq_true, beq_false, Bool.and_eq_true, decide_eq_true_eq, decide_eq_false_iff_not, Bool.not_eq_true', Bool.or_eq_true, Bool.or_eq_false_iff] at hg
    omega
  refine awp_cond rfl (fun h => ?_) (fun h => ?_)
  · skip
    have h25 : side0 ws = true := h
    refine awp_panic (l := [_]) rfl (.n (fun _ => op_iface Tryd.underlying55 (.plain rfl)) (.nil _)) rfl ?_
    refine retXp (P := Tryd.prog) (fn := Tryd.f28) ?_ ⟨rfl, trivial⟩ ⟨.inr rfl, trivial⟩
    exact outOf_no (rdE_a h25) (by decide)
  · skip
    have h25 : side0 ws = false := h
    refine awp_skip ?_
    refine awp_seq ?_
    refine awp_seq ?_
    refine awp_region rfl (.n (fun _ => op_move (.plain rfl)) (.n (fun _ => op_len (s := 0) Tryd.underlying49 (.plain rfl)) (.n (fun _ => op_lss (.plain rfl) (.plain rfl)) (.nil _)))) ?_
    refine awp_cond rfl (fun h => ?_) (fun h => ?_)
    · skip
      have h29 : ((ws.length : Nat) : Int) < 2 := by simpa using h
      refine awp_panic (l := [_]) rfl (.n (fun _ => op_iface Tryd.underlying55 (.plain rfl)) (.nil _)) rfl ?_
      refine retXp (P := Tryd.prog) (fn := Tryd.f28) ?_ ⟨rfl, trivial⟩ ⟨.inr rfl, trivial⟩
      exact outOf_no (rdE_b h25 h29) (by decide)
    · skip
      have h29 : ¬ ((ws.length : Nat) : Int) < 2 := by simpa using h
      refine awp_skip ?_
      refine awp_seq ?_
      refine awp_region rfl (.n (fun _ => op_move (.plain rfl)) (.n (fun _ => op_indexAddr Tryd.underlying49 Tryd.sizeOf9 (.plain rfl) (.plain rfl) (fun _ => rfl) ?_) (.n (fun _ => op_load Tryd.isAgg9 (.plain rfl)) (.n (fun _ => op_build (pp := [(0, _), (1, _)]) (places := #[(0, 1), (1, 1), (2, 1)]) Tryd.underlying27 Tryd.zeroValue27 rfl (by intro w; kernel_rfl) ⟨rfl, (.plain rfl), (by simp), rfl, (.plain rfl), (by simp), trivial⟩ rfl) (.n (fun _ => op_fieldAddrR Tryd.underlying62 rfl rfl Tryd.sizeOf27 (.plain rfl)) (.e (op_storeRA Tryd.sizeOf27 (.plain rfl) (.plain rfl) rfl rfl (Nat.le_of_ble_eq_true rfl) rfl) rfl (.nil _))))))) ?_
      · omega
      refine awp_seq ?_
      refine awp_seq ?_
      refine awp_region rfl (.n (fun _ => op_fieldAddrR Tryd.underlying62 rfl rfl Tryd.sizeOf27 (.plain rfl)) (.n (fun _ => op_fieldAddrR Tryd.underlying27 rfl rfl Tryd.sizeOf9 (.plain rfl)) (.r (op_loadR Tryd.isAgg9 (.plain rfl) rfl rfl) (.n (fun _ => op_call1 Tryd.call39 (.plain rfl) (name_fc _)) (.n (fun _ => op_not (.plain rfl)) (.nil _)))))) ?_
      refine awp_cond rfl (fun h => ?_) (fun h => ?_)
      · skip
        have h40 : namedF (ws.getD 1 ByteArray.empty) = false := by simpa using h
        refine awp_panic (l := [_]) rfl (.n (fun _ => op_iface Tryd.underlying55 (.plain rfl)) (.nil _)) rfl ?_
        refine retXp (P := Tryd.prog) (fn := Tryd.f28) ?_ ⟨rfl, trivial⟩ ⟨.inr rfl, trivial⟩
        exact outOf_no (rdE_c h25 h29 h40) (by decide)
      · skip
        have h40 : ¬ namedF (ws.getD 1 ByteArray.empty) = false := by simpa using h
        have hA : RdA ws all := ⟨h25, h29, h40⟩
        refine awp_skip ?_
        refine awp_seq ?_
        refine awp_region rfl (.n (fun _ => op_assign (.plain rfl)) (.nil _)) ?_
        refine awp_seq ?_
        refine awp_seq ?_
        refine awp_region rfl (.n (fun _ => op_move (.plain rfl)) (.r (op_lenO Tryd.underlying57 (.plain rfl) rfl) (.n (fun _ => op_move (.plain rfl)) (.nil _)))) ?_
        refine awp_block ?_
        refine awp_loop (σ := Nat) (fun (i : Nat) => i ≤ all.length ∧ firstE (dupB all (ws.getD 1 ByteArray.empty)) i = 0) (fun (i : Nat) => ⟨[(0, .pv (.seq ByteArray ByteArray.empty (fun s => [.str s]) ws)), (1, .own 1), (4, .ref 4 0), (5, .ref 5 0), (6, .int (cntL all (lfB ws) i)), (42, .own 1), (43, .int (all.length : Nat)), (44, .int (i : Nat)), (1000001, .pin 1 (ι0 1))], [(1, .arr 62 5 (Bool × ByteArray × Int × List Int × List ByteArray) (false, ByteArray.empty, 0, [], []) (fun p => [.bool p.1, .str p.2.1, .i p.2.2.1, .ints p.2.2.2.1, .seq ByteArray ByteArray.empty (fun s => [.str s]) p.2.2.2.2]) all), (4, .box [.pv (.bool false), .pv (.str ⟨#[]⟩), .pv (.i 0), .pv .nil, .pv .nil]), (5, .box [.pv (.bool (lfB ws)), .pv (.str (ws.getD 1 ByteArray.empty)), .pv (.i 1), .pv .nil, .pv .nil])]⟩) (fun (i : Nat) => all.length - i) 0 ?_ (Ent.kept ⟨rfl, rfl, rfl, rfl, rfl, rfl, rfl, rfl, rfl, trivial⟩ ⟨rfl, rfl, rfl, trivial⟩) ?_
        · exact ⟨Nat.zero_le _, rfl⟩
        rintro i hp
        try dsimp only at hp
        obtain ⟨hi, hE⟩ := hp
        refine awp_seq ?_
        refine awp_region rfl (.n (fun _ => op_lss (.plain rfl) (.plain rfl)) (.nil _)) ?_
        refine awp_seq ?_
        refine awp_cond rfl (fun h => ?_) (fun h => ?_)
        · skip
          have h45 := of_decide_eq_true h
          refine awp_skip ?_
          refine awp_seq ?_
          refine awp_block ?_
          refine awp_seq ?_
          refine awp_region rfl (.r (op_indexAddrON Tryd.underlying57 Tryd.sizeOf62 (.plain rfl) rfl (.plain rfl) ?_) (.r (op_loadEA Tryd.isAgg62 Tryd.sizeOf62 (.plain rfl) rfl (fun _ => rfl) ?_) (.e (op_alloc 8 Tryd.zeroValue62 rfl rfl rfl) rfl (.e (op_storeRA Tryd.sizeOf62 (.plain rfl) (.plain rfl) rfl rfl (Nat.le_of_ble_eq_true rfl) rfl) rfl (.nil _))))) ?_
          · first | omega | (simp; omega)
          · first | omega | (simp; omega)
          refine awp_seq ?_
          refine awp_seq ?_
          refine awp_region rfl (.n (fun _ => op_fieldAddrR Tryd.underlying62 rfl rfl Tryd.sizeOf27 (.plain rfl)) (.n (fun _ => op_fieldAddrR Tryd.underlying27 rfl rfl Tryd.sizeOf9 (.plain rfl)) (.r (op_loadR Tryd.isAgg9 (.plain rfl) rfl rfl) (.n (fun _ => op_fieldAddrR Tryd.underlying62 rfl rfl Tryd.sizeOf27 (.plain rfl)) (.n (fun _ => op_fieldAddrR Tryd.underlying27 rfl rfl Tryd.sizeOf9 (.plain rfl)) (.r (op_loadR Tryd.isAgg9 (.plain rfl) rfl rfl) (.n (fun _ => op_str_eql Tryd.underlying9 (.plain rfl) (.plain rfl)) (.nil _)))))))) ?_
          refine awp_cond rfl (fun h => ?_) (fun h => ?_)
          · skip
            have h54 : lnN all i = (ws.getD 1 ByteArray.empty) := of_decide_eq_true h
            refine awp_panic (l := [_]) rfl (.n (fun _ => op_iface Tryd.underlying55 (.plain rfl)) (.nil _)) rfl ?_
            refine retXp (P := Tryd.prog) (fn := Tryd.f28) ?_ ⟨rfl, trivial⟩ ⟨.inr rfl, trivial⟩
            exact outOf_no (hA.dup (by omega) hE h54) (by decide)
          · skip
            have h54 : ¬ lnN all i = (ws.getD 1 ByteArray.empty) := of_decide_eq_false h
            refine awp_skip ?_
            refine awp_seq ?_
            refine awp_region rfl (.n (fun _ => op_fieldAddrR Tryd.underlying62 rfl rfl Tryd.sizeOf4 (.plain rfl)) (.r (op_loadR Tryd.isAgg4 (.plain rfl) rfl rfl) (.n (fun _ => op_fieldAddrR Tryd.underlying62 rfl rfl Tryd.sizeOf4 (.plain rfl)) (.r (op_loadR Tryd.isAgg4 (.plain rfl) rfl rfl) (.n (fun _ => op_eqb Tryd.underlying4 (.plain rfl) (.plain rfl)) (.nil _)))))) ?_
            refine awp_cond rfl (fun h => ?_) (fun h => ?_)
            · skip
              have h60 : (lnL all i == lfB ws) = true := h
              refine awp_region rfl (.n (fun _ => op_move (.plain rfl)) (.n (fun _ => op_add (.plain rfl) (.plain rfl) ?_) (.n (fun _ => op_assign (.plain rfl)) (.nil _)))) ?_
              · have := cntL_le all (lfB ws) i
                unfold InR; omega
              refine awp_region rfl (.n (fun _ => op_add (.plain rfl) (.plain rfl) ?_) (.n (fun _ => op_move (.plain rfl)) (.nil _))) ?_
              · unfold InR; omega
              have hcn : cntL all (lfB ws) i + 1 = cntL all (lfB ws) (i + 1) := (if_pos h60).symm
              exact ⟨i + 1, ⟨by omega, firstE_succ hE (if_neg h54)⟩, by dsimp only; omega, (Ent.kept ⟨rfl, rfl, rfl, rfl, (congrArg (fun n : Int => some (SV.int n)) hcn), rfl, rfl, rfl, rfl, trivial⟩ ⟨rfl, rfl, rfl, trivial⟩)⟩
            · skip
              have h60 : (lnL all i == lfB ws) = false := h
              refine awp_skip ?_
              refine awp_region rfl (.n (fun _ => op_add (.plain rfl) (.plain rfl) ?_) (.n (fun _ => op_move (.plain rfl)) (.nil _))) ?_
              · unfold InR; omega
              have hcn : cntL all (lfB ws) i = cntL all (lfB ws) (i + 1) := (if_neg (by simp [h60])).symm
              exact ⟨i + 1, ⟨by omega, firstE_succ hE (if_neg h54)⟩, by dsimp only; omega, (Ent.kept ⟨rfl, rfl, rfl, rfl, (congrArg (fun n : Int => some (SV.int n)) hcn), rfl, rfl, rfl, rfl, trivial⟩ ⟨rfl, rfl, rfl, trivial⟩)⟩
        · skip
          have h45 := of_decide_eq_false h
          refine awp_exit ?_
          refine awp_seq ?_
          refine awp_seq ?_
          refine awp_region rfl (.n (fun _ => op_move (.plain rfl)) (.n (fun _ => op_eql (.plain rfl) (.plain rfl)) (.nil _))) ?_
          refine awp_cond rfl (fun h => ?_) (fun h => ?_)
          · skip
            obtain rfl : i = all.length := by omega
            have h65 := of_decide_eq_true h
            refine awp_panic (l := [_]) rfl (.n (fun _ => op_iface Tryd.underlying55 (.plain rfl)) (.nil _)) rfl ?_
            refine retXp (P := Tryd.prog) (fn := Tryd.f28) ?_ ⟨rfl, trivial⟩ ⟨.inr rfl, trivial⟩
            exact outOf_no (hA.cnt hE h65) (by decide)
          · skip
            obtain rfl : i = all.length := by omega
            have h65 := of_decide_eq_false h
            have hB : RdB ws all := ⟨hA, hE, h65⟩
            refine awp_skip ?_
            refine awp_seq ?_
            refine awp_region rfl (.n (fun _ => op_move (.plain rfl)) (.n (fun _ => op_sliceI (kh := .i64) Tryd.underlying49 Tryd.sizeOf9 (fun _ => rfl) (.plain rfl) (.plain rfl) rfl ?_) (.n (fun _ => op_assign (.plain rfl)) (.nil _)))) ?_
            · omega
            refine awp_seq ?_
            refine awp_seq ?_
            refine awp_ent (show Ent _ ⟨[(0, .pv (.seq ByteArray ByteArray.empty (fun s => [.str s]) ws)), (1, .own 1), (4, .ref 4 0), (5, .ref 5 0), (9, .pv (.seq ByteArray ByteArray.empty (fun s => [.str s]) (ws.drop 2))), (1000001, .pin 1 (ι0 1))], [(1, .arr 62 5 (Bool × ByteArray × Int × List Int × List ByteArray) (false, ByteArray.empty, 0, [], []) (fun p => [.bool p.1, .str p.2.1, .i p.2.2.1, .ints p.2.2.2.1, .seq ByteArray ByteArray.empty (fun s => [.str s]) p.2.2.2.2]) all), (4, .box [.pv (.bool false), .pv (.str ⟨#[]⟩), .pv (.i 0), .pv .nil, .pv .nil]), (5, .box [.pv (.bool (lfB ws)), .pv (.str (ws.getD 1 ByteArray.empty)), .pv (.i 1), .pv .nil, .pv .nil])]⟩ from Ent.kept ⟨rfl, rfl, rfl, rfl, (congrArg (fun l => some (SV.pv (.seq ByteArray ByteArray.empty (fun s => [.str s]) l))) (slice_2 _)), rfl, trivial⟩ ⟨rfl, rfl, rfl, trivial⟩) ?_
            refine awp_region rfl (.n (fun _ => op_move (.plain rfl)) (.n (fun _ => op_len (s := 0) Tryd.underlying49 (.plain rfl)) (.n (fun _ => op_gtr (.plain rfl) (.plain rfl)) (.n (fun _ => op_move (.plain rfl)) (.gn rfl rfl (fun hg _ => op_move (.plain rfl)) (.gn rfl rfl (fun hg _ => op_indexAddr Tryd.underlying49 Tryd.sizeOf9 (.opt rfl fun h => h) (.plain rfl) (fun _ => rfl) ?_) (.gn rfl rfl (fun hg _ => op_load Tryd.isAgg9 (.opt rfl fun h => h)) (.gn rfl rfl (fun hg _ => op_str_neq Tryd.underlying9 (.opt rfl fun h => h) (.plain rfl)) (.n (fun _ => op_and (.plain rfl) (.plain rfl) (.plain rfl) (fun h => eqT h)) (.nil _)))))))))) ?_
            · try simp only [beq_iff_eq, beq_true, beq_false, Bool.and_eq_true, decide_eq_true_eq, decide_eq_false_iff_not, Bool.not_eq_true', Bool.or_eq_true, Bool.or_eq_false_iff] at hg
              omega
            refine awp_cond rfl (fun h => ?_) (fun h => ?_)
            · skip
              have h77 : roomed ws = true := h
              refine awp_seq ?_
              have hpos : 0 < (ws.drop 2).length := by have := h77; unfold roomed at this; simp only [Bool.and_eq_true, decide_eq_true_eq] at this; omega
              refine awp_callX (l1 := [_, _, _]) (l2 := [_, _, _]) (fun k => [].getD k 0) rfl (.n (fun _ => op_move (.plain rfl)) (.n (fun _ => op_indexAddr Tryd.underlying49 Tryd.sizeOf9 (.plain rfl) (.plain rfl) (fun _ => rfl) ?_) (.n (fun _ => op_load Tryd.isAgg9 (.plain rfl)) (.nil _)))) Tryd.call45 (room_fx gs _ ?_ ?_) ⟨(.plain rfl), trivial⟩ trivial (by kernel_rfl) (fun v hv => ?hret81) (fun u hu => ?hdie81)
              · omega
              · exact getD_ne (fun y hy => hne y (List.mem_of_mem_drop hy)) hpos
              · exact hg.imp_right fun h => h _ (List.mem_of_mem_drop (wsD_mem hpos))
              case hdie81 =>
                obtain ⟨h0, rfl⟩ := outOf_die hu
                refine retXp (P := Tryd.prog) (fn := Tryd.f28) ?_ ⟨rfl, trivial⟩ ⟨.inr rfl, trivial⟩
                exact outOf_no (hB.room h77 h0) h0
              case hret81 =>
                obtain ⟨h0, rfl⟩ := outOf_ret hv
                refine ⟨_, _, (.n (fun _ => op_fieldAddrR Tryd.underlying62 rfl rfl Tryd.sizeOf27 (.plain rfl)) (.n (fun _ => op_fieldAddrR Tryd.underlying27 rfl rfl Tryd.sizeOf3 (.plain rfl)) (.e (op_storeR Tryd.sizeOf3 (.plain rfl) (.plain rfl) rfl (by first | decide | exact Nat.le_of_ble_eq_true rfl) rfl (by simp) (by simp)) rfl (.nil _)))), ?_⟩
                refine awp_region rfl (.n (fun _ => op_move (.plain rfl)) (.n (fun _ => op_sliceI (kh := .i64) Tryd.underlying49 Tryd.sizeOf9 (fun _ => rfl) (.plain rfl) (.plain rfl) rfl ?_) (.n (fun _ => op_assign (.plain rfl)) (.nil _)))) ?_
                · omega
                refine awp_seq ?_
                refine awp_seq ?_
                first | (refine awp_ent (show Ent _ ⟨[(0, .pv (.seq ByteArray ByteArray.empty (fun s => [.str s]) ws)), (1, .own 1), (4, .ref 4 0), (5, .ref 5 0), (9, .pv (.seq ByteArray ByteArray.empty (fun s => [.str s]) ((ws.drop 2).drop 1))), (1000001, .pin 1 (ι0 1))], [(1, .arr 62 5 (Bool × ByteArray × Int × List Int × List ByteArray) (false, ByteArray.empty, 0, [], []) (fun p => [.bool p.1, .str p.2.1, .i p.2.2.1, .ints p.2.2.2.1, .seq ByteArray ByteArray.empty (fun s => [.str s]) p.2.2.2.2]) all), (4, .box [.pv (.bool false), .pv (.str ⟨#[]⟩), .pv (.i 0), .pv .nil, .pv .nil]), (5, .box [.pv (.bool (lfB ws)), .pv (.str (ws.getD 1 ByteArray.empty)), .pv (.i (roomV ((ws.drop 2).getD 0 ByteArray.empty))), .pv .nil, .pv .nil])]⟩ from Ent.kept ⟨rfl, rfl, rfl, rfl, (congrArg (fun l => some (SV.pv (.seq ByteArray ByteArray.empty (fun s => [.str s]) l))) (slice_1 _)), rfl, trivial⟩ ⟨rfl, rfl, rfl, trivial⟩) ?_) | skip
                refine awp_region rfl (.n (fun _ => op_move (.plain rfl)) (.n (fun _ => op_len (s := 0) Tryd.underlying49 (.plain rfl)) (.n (fun _ => op_eql (.plain rfl) (.plain rfl)) (.nil _)))) ?_
                refine awp_cond rfl (fun h => ?_) (fun h => ?_)
                · skip
                  have h88 := of_decide_eq_true h
                  refine awp_panic (l := [_]) rfl (.n (fun _ => op_iface Tryd.underlying55 (.plain rfl)) (.nil _)) rfl ?_
                  refine retXp (P := Tryd.prog) (fn := Tryd.f28) ?_ ⟨rfl, trivial⟩ ⟨.inr rfl, trivial⟩
                  first | exact outOf_no ((hB.tail0 h77).trans (tailE_4 h88)) (by decide) | exact outOf_no ((hB.tail1 h77 h0).trans (tailE_4 h88)) (by decide)
                · skip
                  have h88 := of_decide_eq_false h
                  refine awp_skip ?_
                  refine awp_seq ?_
                  refine awp_seq ?_
                  refine awp_region rfl (.n (fun _ => op_move (.plain rfl)) (.n (fun _ => op_indexAddr Tryd.underlying49 Tryd.sizeOf9 (.plain rfl) (.plain rfl) (fun _ => rfl) ?_) (.n (fun _ => op_load Tryd.isAgg9 (.plain rfl)) (.n (fun _ => op_str_neq Tryd.underlying9 (.plain rfl) (.plain rfl)) (.nil _))))) ?_
                  · omega
                  refine awp_cond rfl (fun h => ?_) (fun h => ?_)
                  · skip
                    have h93 := h
                    refine awp_panic (l := [_]) rfl (.n (fun _ => op_iface Tryd.underlying55 (.plain rfl)) (.nil _)) rfl ?_
                    refine retXp (P := Tryd.prog) (fn := Tryd.f28) ?_ ⟨rfl, trivial⟩ ⟨.inr rfl, trivial⟩
                    first | exact outOf_no ((hB.tail0 h77).trans (tailE_3 h88 h93)) (by decide) | exact outOf_no ((hB.tail1 h77 h0).trans (tailE_3 h88 h93)) (by decide)
                  · skip
                    have h93 := h
                    refine awp_skip ?_
                    refine awp_seq ?_
                    refine awp_region rfl (.n (fun _ => op_move (.plain rfl)) (.n (fun _ => op_sliceI (kh := .i64) Tryd.underlying49 Tryd.sizeOf9 (fun _ => rfl) (.plain rfl) (.plain rfl) rfl ?_) (.n (fun _ => op_fieldAddrR Tryd.underlying62 rfl rfl Tryd.sizeOf49 (.plain rfl)) (.e (op_storeR Tryd.sizeOf49 (.plain rfl) (.plain rfl) rfl (by first | decide | exact Nat.le_of_ble_eq_true rfl) rfl (by simp) (by simp)) rfl (.nil _))))) ?_
                    · omega
                    refine awp_seq ?_
                    refine awp_seq ?_
                    refine awp_region rfl (.n (fun _ => op_fieldAddrR Tryd.underlying62 rfl rfl Tryd.sizeOf49 (.plain rfl)) (.r (op_loadR Tryd.isAgg49 (.plain rfl) rfl rfl) (.n (fun _ => op_len (s := 0) Tryd.underlying49 (.plain rfl)) (.n (fun _ => op_move (.plain rfl)) (.nil _))))) ?_
                    refine awp_block ?_
                    refine awp_loop (σ := Nat) (fun (i : Nat) => i ≤ (((ws.drop 2).drop 1).drop 1).length ∧ firstE (badN (((ws.drop 2).drop 1).drop 1)) i = 0) (fun (i : Nat) => ⟨[(0, .pv (.seq ByteArray ByteArray.empty (fun s => [.str s]) ws)), (1, .own 1), (4, .ref 4 0), (5, .ref 5 0), (99, .pv (.seq ByteArray ByteArray.empty (fun s => [.str s]) (((ws.drop 2).drop 1).drop 1))), (100, .int ((((ws.drop 2).drop 1).drop 1).length : Nat)), (101, .int (i : Nat)), (1000001, .pin 1 (ι0 1))], [(1, .arr 62 5 (Bool × ByteArray × Int × List Int × List ByteArray) (false, ByteArray.empty, 0, [], []) (fun p => [.bool p.1, .str p.2.1, .i p.2.2.1, .ints p.2.2.2.1, .seq ByteArray ByteArray.empty (fun s => [.str s]) p.2.2.2.2]) all), (4, .box [.pv (.bool false), .pv (.str ⟨#[]⟩), .pv (.i 0), .pv .nil, .pv .nil]), (5, .box [.pv (.bool (lfB ws)), .pv (.str (ws.getD 1 ByteArray.empty)), .pv (.i (roomV ((ws.drop 2).getD 0 ByteArray.empty))), .pv .nil, .pv (.seq ByteArray ByteArray.empty (fun s => [.str s]) (((ws.drop 2).drop 1).drop 1))])]⟩) (fun (i : Nat) => (((ws.drop 2).drop 1).drop 1).length - i) 0 ?_ (Ent.kept ⟨rfl, rfl, rfl, rfl, (congrArg (fun l => some (SV.pv (.seq ByteArray ByteArray.empty (fun s => [.str s]) l))) (slice_1 _)), (congrArg (fun l : List ByteArray => some (SV.int (l.length : Nat))) (slice_1 _)), rfl, rfl, trivial⟩ ⟨rfl, rfl, (congrArg (fun l => some (Blk.box [.pv (.bool (lfB ws)), .pv (.str (ws.getD 1 ByteArray.empty)), .pv (.i (roomV ((ws.drop 2).getD 0 ByteArray.empty))), .pv .nil, .pv (.seq ByteArray ByteArray.empty (fun s => [.str s]) l)])) (slice_1 _)), trivial⟩) ?_
                    · exact ⟨Nat.zero_le _, rfl⟩
                    rintro i hp
                    try dsimp only at hp
                    obtain ⟨hi, hE⟩ := hp
                    have hRl : (((ws.drop 2).drop 1).drop 1).length ≤ ws.length := by simp only [List.length_drop]; omega
                    refine awp_seq ?_
                    refine awp_region rfl (.n (fun _ => op_lss (.plain rfl) (.plain rfl)) (.nil _)) ?_
                    refine awp_seq ?_
                    refine awp_cond rfl (fun h => ?_) (fun h => ?_)
                    · skip
                      have h102 := of_decide_eq_true h
                      refine awp_skip ?_
                      refine awp_seq ?_
                      refine awp_block ?_
                      refine awp_seq ?_
                      refine awp_region rfl (.n (fun _ => op_indexAddrN Tryd.underlying49 Tryd.sizeOf9 (.plain rfl) (.plain rfl) (fun _ => rfl) ?_) (.n (fun _ => op_load Tryd.isAgg9 (.plain rfl)) (.n (fun _ => op_assign (.plain rfl)) (.nil _)))) ?_
                      · omega
                      refine awp_seq ?_
                      refine awp_region rfl (.n (fun _ => op_move (.plain rfl)) (.n (fun _ => op_call1 Tryd.call39 (.plain rfl) (name_fc _)) (.n (fun _ => op_not (.plain rfl)) (.nil _)))) ?_
                      refine awp_cond rfl (fun h => ?_) (fun h => ?_)
                      · skip
                        have h107 := h
                        refine awp_panic (l := [_]) rfl (.n (fun _ => op_iface Tryd.underlying55 (.plain rfl)) (.nil _)) rfl ?_
                        refine retXp (P := Tryd.prog) (fn := Tryd.f28) ?_ ⟨rfl, trivial⟩ ⟨.inr rfl, trivial⟩
                        first | exact outOf_no ((hB.tail0 h77).trans ((tailE_n h88 h93).trans (badN_at hE (by omega) h107))) (by decide) | exact outOf_no ((hB.tail1 h77 h0).trans ((tailE_n h88 h93).trans (badN_at hE (by omega) h107))) (by decide)
                      · skip
                        have h107 := eq_true_of_not h
                        refine awp_skip ?_
                        refine awp_region rfl (.n (fun _ => op_add (.plain rfl) (.plain rfl) ?_) (.n (fun _ => op_move (.plain rfl)) (.nil _))) ?_
                        · unfold InR; omega
                        exact ⟨i + 1, ⟨by omega, firstE_succ hE (if_neg (by rw [h107]; decide))⟩, by dsimp only; omega, (Ent.kept ⟨rfl, rfl, rfl, rfl, rfl, rfl, rfl, rfl, trivial⟩ ⟨rfl, rfl, rfl, trivial⟩)⟩
                    · skip
                      have h102 := of_decide_eq_false h
                      refine awp_exit ?_
                      refine awp_seq ?_
                      refine awp_ent (Ent.unnilB 5 3 Int 0 (fun n => [.int .i64 n]) rfl rfl) ?_
                      refine awp_region rfl (.r (op_loadRA Tryd.isAgg62 Tryd.sizeOf62 (.plain rfl) rfl (by first | (simp; done) | exact Nat.le_of_ble_eq_true rfl) rfl) (.e (op_storeRA Tryd.sizeOf62 (.plain rfl) (.plain rfl) rfl rfl (Nat.le_of_ble_eq_true rfl) rfl) rfl (.nil _))) ?_
                      refine awp_ent (Ent.giveBox 4 rfl rfl rfl) ?_
                      refine awp_ret ?_
                      refine retX.ret ?_
                      refine retXC rfl rfl Tryd.isAgg62 Tryd.sizeOf62 ⟨rfl, trivial⟩ ⟨.inr rfl, trivial⟩ ?_
                      have hix : i = (((ws.drop 2).drop 1).drop 1).length := by omega
                      refine outOf_ok ((hB.tail1 h77 h0).trans ((tailE_n h88 h93).trans (hix ▸ hE))) ?_
                      unfold rdV rdRm rdLk
                      rw [if_pos h77, if_pos h77]
            · skip
              have h77 : roomed ws = false := h
              refine awp_skip ?_
              refine awp_seq ?_
              refine awp_seq ?_
              first | (refine awp_ent (show Ent _ ⟨[(0, .pv (.seq ByteArray ByteArray.empty (fun s => [.str s]) ws)), (1, .own 1), (4, .ref 4 0), (5, .ref 5 0), (9, .pv (.seq ByteArray ByteArray.empty (fun s => [.str s]) ((ws.drop 2).drop 1))), (1000001, .pin 1 (ι0 1))], [(1, .arr 62 5 (Bool × ByteArray × Int × List Int × List ByteArray) (false, ByteArray.empty, 0, [], []) (fun p => [.bool p.1, .str p.2.1, .i p.2.2.1, .ints p.2.2.2.1, .seq ByteArray ByteArray.empty (fun s => [.str s]) p.2.2.2.2]) all), (4, .box [.pv (.bool false), .pv (.str ⟨#[]⟩), .pv (.i 0), .pv .nil, .pv .nil]), (5, .box [.pv (.bool (lfB ws)), .pv (.str (ws.getD 1 ByteArray.empty)), .pv (.i (roomV ((ws.drop 2).getD 0 ByteArray.empty))), .pv .nil, .pv .nil])]⟩ from Ent.kept ⟨rfl, rfl, rfl, rfl, (congrArg (fun l => some (SV.pv (.seq ByteArray ByteArray.empty (fun s => [.str s]) l))) (slice_1 _)), rfl, trivial⟩ ⟨rfl, rfl, rfl, trivial⟩) ?_) | skip
              refine awp_region rfl (.n (fun _ => op_move (.plain rfl)) (.n (fun _ => op_len (s := 0) Tryd.underlying49 (.plain rfl)) (.n (fun _ => op_eql (.plain rfl) (.plain rfl)) (.nil _)))) ?_
              refine awp_cond rfl (fun h => ?_) (fun h => ?_)
              · skip
                have h88 := of_decide_eq_true h
                refine awp_panic (l := [_]) rfl (.n (fun _ => op_iface Tryd.underlying55 (.plain rfl)) (.nil _)) rfl ?_
                refine retXp (P := Tryd.prog) (fn := Tryd.f28) ?_ ⟨rfl, trivial⟩ ⟨.inr rfl, trivial⟩
                first | exact outOf_no ((hB.tail0 h77).trans (tailE_4 h88)) (by decide) | exact outOf_no ((hB.tail1 h77 h0).trans (tailE_4 h88)) (by decide)
              · skip
                have h88 := of_decide_eq_false h
                refine awp_skip ?_
                refine awp_seq ?_
                refine awp_seq ?_
                refine awp_region rfl (.n (fun _ => op_move (.plain rfl)) (.n (fun _ => op_indexAddr Tryd.underlying49 Tryd.sizeOf9 (.plain rfl) (.plain rfl) (fun _ => rfl) ?_) (.n (fun _ => op_load Tryd.isAgg9 (.plain rfl)) (.n (fun _ => op_str_neq Tryd.underlying9 (.plain rfl) (.plain rfl)) (.nil _))))) ?_
                · omega
                refine awp_cond rfl (fun h => ?_) (fun h => ?_)
                · skip
                  have h93 := h
                  refine awp_panic (l := [_]) rfl (.n (fun _ => op_iface Tryd.underlying55 (.plain rfl)) (.nil _)) rfl ?_
                  refine retXp (P := Tryd.prog) (fn := Tryd.f28) ?_ ⟨rfl, trivial⟩ ⟨.inr rfl, trivial⟩
                  first | exact outOf_no ((hB.tail0 h77).trans (tailE_3 h88 h93)) (by decide) | exact outOf_no ((hB.tail1 h77 h0).trans (tailE_3 h88 h93)) (by decide)
                · skip
                  have h93 := h
                  refine awp_skip ?_
                  refine awp_seq ?_
                  refine awp_region rfl (.n (fun _ => op_move (.plain rfl)) (.n (fun _ => op_sliceI (kh := .i64) Tryd.underlying49 Tryd.sizeOf9 (fun _ => rfl) (.plain rfl) (.plain rfl) rfl ?_) (.n (fun _ => op_fieldAddrR Tryd.underlying62 rfl rfl Tryd.sizeOf49 (.plain rfl)) (.e (op_storeR Tryd.sizeOf49 (.plain rfl) (.plain rfl) rfl (by first | decide | exact Nat.le_of_ble_eq_true rfl) rfl (by simp) (by simp)) rfl (.nil _))))) ?_
                  · omega
                  refine awp_seq ?_
                  refine awp_seq ?_
                  refine awp_region rfl (.n (fun _ => op_fieldAddrR Tryd.underlying62 rfl rfl Tryd.sizeOf49 (.plain rfl)) (.r (op_loadR Tryd.isAgg49 (.plain rfl) rfl rfl) (.n (fun _ => op_len (s := 0) Tryd.underlying49 (.plain rfl)) (.n (fun _ => op_move (.plain rfl)) (.nil _))))) ?_
                  refine awp_block ?_
                  refine awp_loop (σ := Nat) (fun (i : Nat) => i ≤ ((ws.drop 2).drop 1).length ∧ firstE (badN ((ws.drop 2).drop 1)) i = 0) (fun (i : Nat) => ⟨[(0, .pv (.seq ByteArray ByteArray.empty (fun s => [.str s]) ws)), (1, .own 1), (4, .ref 4 0), (5, .ref 5 0), (99, .pv (.seq ByteArray ByteArray.empty (fun s => [.str s]) ((ws.drop 2).drop 1))), (100, .int (((ws.drop 2).drop 1).length : Nat)), (101, .int (i : Nat)), (1000001, .pin 1 (ι0 1))], [(1, .arr 62 5 (Bool × ByteArray × Int × List Int × List ByteArray) (false, ByteArray.empty, 0, [], []) (fun p => [.bool p.1, .str p.2.1, .i p.2.2.1, .ints p.2.2.2.1, .seq ByteArray ByteArray.empty (fun s => [.str s]) p.2.2.2.2]) all), (4, .box [.pv (.bool false), .pv (.str ⟨#[]⟩), .pv (.i 0), .pv .nil, .pv .nil]), (5, .box [.pv (.bool (lfB ws)), .pv (.str (ws.getD 1 ByteArray.empty)), .pv (.i 1), .pv .nil, .pv (.seq ByteArray ByteArray.empty (fun s => [.str s]) ((ws.drop 2).drop 1))])]⟩) (fun (i : Nat) => ((ws.drop 2).drop 1).length - i) 0 ?_ (Ent.kept ⟨rfl, rfl, rfl, rfl, (congrArg (fun l => some (SV.pv (.seq ByteArray ByteArray.empty (fun s => [.str s]) l))) (slice_1 _)), (congrArg (fun l : List ByteArray => some (SV.int (l.length : Nat))) (slice_1 _)), rfl, rfl, trivial⟩ ⟨rfl, rfl, (congrArg (fun l => some (Blk.box [.pv (.bool (lfB ws)), .pv (.str (ws.getD 1 ByteArray.empty)), .pv (.i 1), .pv .nil, .pv (.seq ByteArray ByteArray.empty (fun s => [.str s]) l)])) (slice_1 _)), trivial⟩) ?_
                  · exact ⟨Nat.zero_le _, rfl⟩
                  rintro i hp
                  try dsimp only at hp
                  obtain ⟨hi, hE⟩ := hp
                  have hRl : ((ws.drop 2).drop 1).length ≤ ws.length := by simp only [List.length_drop]; omega
                  refine awp_seq ?_
                  refine awp_region rfl (.n (fun _ => op_lss (.plain rfl) (.plain rfl)) (.nil _)) ?_
                  refine awp_seq ?_
                  refine awp_cond rfl (fun h => ?_) (fun h => ?_)
                  · skip
                    have h102 := of_decide_eq_true h
                    refine awp_skip ?_
                    refine awp_seq ?_
                    refine awp_block ?_
                    refine awp_seq ?_
                    refine awp_region rfl (.n (fun _ => op_indexAddrN Tryd.underlying49 Tryd.sizeOf9 (.plain rfl) (.plain rfl) (fun _ => rfl) ?_) (.n (fun _ => op_load Tryd.isAgg9 (.plain rfl)) (.n (fun _ => op_assign (.plain rfl)) (.nil _)))) ?_
                    · omega
                    refine awp_seq ?_
                    refine awp_region rfl (.n (fun _ => op_move (.plain rfl)) (.n (fun _ => op_call1 Tryd.call39 (.plain rfl) (name_fc _)) (.n (fun _ => op_not (.plain rfl)) (.nil _)))) ?_
                    refine awp_cond rfl (fun h => ?_) (fun h => ?_)
                    · skip
                      have h107 := h
                      refine awp_panic (l := [_]) rfl (.n (fun _ => op_iface Tryd.underlying55 (.plain rfl)) (.nil _)) rfl ?_
                      refine retXp (P := Tryd.prog) (fn := Tryd.f28) ?_ ⟨rfl, trivial⟩ ⟨.inr rfl, trivial⟩
                      first | exact outOf_no ((hB.tail0 h77).trans ((tailE_n h88 h93).trans (badN_at hE (by omega) h107))) (by decide) | exact outOf_no ((hB.tail1 h77 h0).trans ((tailE_n h88 h93).trans (badN_at hE (by omega) h107))) (by decide)
                    · skip
                      have h107 := eq_true_of_not h
                      refine awp_skip ?_
                      refine awp_region rfl (.n (fun _ => op_add (.plain rfl) (.plain rfl) ?_) (.n (fun _ => op_move (.plain rfl)) (.nil _))) ?_
                      · unfold InR; omega
                      exact ⟨i + 1, ⟨by omega, firstE_succ hE (if_neg (by rw [h107]; decide))⟩, by dsimp only; omega, (Ent.kept ⟨rfl, rfl, rfl, rfl, rfl, rfl, rfl, rfl, trivial⟩ ⟨rfl, rfl, rfl, trivial⟩)⟩
                  · skip
                    have h102 := of_decide_eq_false h
                    refine awp_exit ?_
                    refine awp_seq ?_
                    refine awp_ent (Ent.unnilB 5 3 Int 0 (fun n => [.int .i64 n]) rfl rfl) ?_
                    refine awp_region rfl (.r (op_loadRA Tryd.isAgg62 Tryd.sizeOf62 (.plain rfl) rfl (by first | (simp; done) | exact Nat.le_of_ble_eq_true rfl) rfl) (.e (op_storeRA Tryd.sizeOf62 (.plain rfl) (.plain rfl) rfl rfl (Nat.le_of_ble_eq_true rfl) rfl) rfl (.nil _))) ?_
                    refine awp_ent (Ent.giveBox 4 rfl rfl rfl) ?_
                    refine awp_ret ?_
                    refine retX.ret ?_
                    refine retXC rfl rfl Tryd.isAgg62 Tryd.sizeOf62 ⟨rfl, trivial⟩ ⟨.inr rfl, trivial⟩ ?_
                    have hix : i = ((ws.drop 2).drop 1).length := by omega
                    refine outOf_ok ((hB.tail0 h77).trans ((tailE_n h88 h93).trans (hix ▸ hE))) ?_
                    unfold rdV rdRm rdLk
                    rw [if_neg (by simp [h77]), if_neg (by simp [h77])]

end Go.Proofs.YtolmcapbpliaiaaDoor

