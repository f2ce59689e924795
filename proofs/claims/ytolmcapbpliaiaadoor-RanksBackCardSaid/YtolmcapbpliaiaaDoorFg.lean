/- Whom a line likes, by their places. Conditions: each theorem names its own. -/
import Derived.Test.YtolmcapbpliaiaaDoorProg
import Derived.Test.YtolmcapbpliaiaaDoorFf
namespace Go.Proofs.YtolmcapbpliaiaaDoor
open Go.Abs
set_option linter.unusedVariables false
set_option linter.unusedSimpArgs false

set_option linter.unusedVariables false

/-! ### Whom a line likes -/
def opC (all : List Ln) (b : Bool) : Nat → Nat
  | 0 => 0
  | i + 1 => if (lnL all i == b) = true then opC all b i else opC all b i + 1
def fnd (all : List Ln) (b : Bool) (s : ByteArray) : Nat → Int
  | 0 => -1
  | i + 1 => if (lnL all i == b) = true then fnd all b s i else if lnN all i = s then (opC all b i : Nat) else fnd all b s i
def fdN (all : List Ln) (b : Bool) (ls : List ByteArray) (j : Nat) : Int := fnd all b (ls.getD j ByteArray.empty) all.length
def lkOut (all : List Ln) (b : Bool) (ls : List ByteArray) (j : Nat) : List Int := mapr j (fdN all b ls)
def likE (all : List Ln) (b : Bool) (ls : List ByteArray) (j : Nat) : Int := if fdN all b ls j < 0 then 5 else if 0 ≤ placeF (lkOut all b ls j) (fdN all b ls j) then 6 else 0
theorem opC_le (all : List Ln) (b : Bool) : ∀ i, opC all b i ≤ i
  | 0 => Nat.le_refl _
  | i + 1 => by
    have := opC_le all b i
    unfold opC
    split <;> omega
theorem lkOut_len (all : List Ln) (b : Bool) (ls : List ByteArray) (j : Nat) : (lkOut all b ls j).length = j := mapr_length _ _
theorem lkOut_succ (all : List Ln) (b : Bool) (ls : List ByteArray) (j : Nat) : lkOut all b ls j ++ [fdN all b ls j] = lkOut all b ls (j + 1) := (mapr_succ _ _).symm
theorem lkE_5 {all : List Ln} {b : Bool} {ls : List ByteArray} {j : Nat} (hE : firstE (likE all b ls) j = 0) (hj : j < ls.length) (h : fdN all b ls j < 0) : firstE (likE all b ls) ls.length = 5 :=
  firstE_stop hE (show likE all b ls j = 5 from if_pos h) (by decide) hj
theorem lkE_6 {all : List Ln} {b : Bool} {ls : List ByteArray} {j : Nat} (hE : firstE (likE all b ls) j = 0) (hj : j < ls.length) (h : ¬ fdN all b ls j < 0) (h' : 0 ≤ placeF (lkOut all b ls j) (fdN all b ls j)) : firstE (likE all b ls) ls.length = 6 :=
  firstE_stop hE (show likE all b ls j = 6 from by unfold likE; rw [if_neg h, if_pos h']) (by decide) hj
theorem lkE_0 {all : List Ln} {b : Bool} {ls : List ByteArray} {j : Nat} (hE : firstE (likE all b ls) j = 0) (h : ¬ fdN all b ls j < 0) (h' : ¬ 0 ≤ placeF (lkOut all b ls j) (fdN all b ls j)) : firstE (likE all b ls) (j + 1) = 0 :=
  firstE_succ hE (by unfold likE; rw [if_neg h, if_neg h'])

set_option maxRecDepth 1000000 in
set_option maxHeartbeats 4000000 in
theorem likes_fx (gs : List Nat) (bl : Bool) (nm : ByteArray) (rm : Int) (lk : List Int) (ls : List ByteArray) (all : List Ln) (hl6 : ls.length ≤ 1000000) : FXH Tryd.prog gs 29 [.pv (.agg [.bool bl, .str nm, .i rm, .ints lk, .seq ByteArray ByteArray.empty (fun s => [.str s]) ls]), .pv (.seq (Bool × ByteArray × Int × List Int × List ByteArray) (false, ByteArray.empty, 0, [], []) (fun p => [.bool p.1, .str p.2.1, .i p.2.2.1, .ints p.2.2.2.1, .seq ByteArray ByteArray.empty (fun s => [.str s]) p.2.2.2.2]) all)] [] (outOf (firstE (likE all bl ls) ls.length) (.ints (lkOut all bl ls ls.length))) := by
  refine FXH.intro Tryd.func29 rfl (Nat.le_of_ble_eq_true rfl) (Nat.le_of_ble_eq_true rfl) fun hfit ι0 => ?_
  change awp _ _ _ _ ⟨[(0, .pv (.agg [.bool bl, .str nm, .i rm, .ints lk, .seq ByteArray ByteArray.empty (fun s => [.str s]) ls])), (1, .pv (.seq (Bool × ByteArray × Int × List Int × List ByteArray) (false, ByteArray.empty, 0, [], []) (fun p => [.bool p.1, .str p.2.1, .i p.2.2.1, .ints p.2.2.2.1, .seq ByteArray ByteArray.empty (fun s => [.str s]) p.2.2.2.2]) all))], []⟩
  have fit0 := hfit _ (.head _)
  have fit1 := hfit _ (.tail _ (.head _))
  have hall := fit1.len
  have hls : ls.length ≤ 281474976710656 := by cases fit0 with | agg _ h => exact (h 4 (by simp)).len
  refine awp_seq ?_
  refine awp_region rfl (.n (fun _ => op_box (.plain rfl) (by simp)) (.n (fun _ => op_assign (.plain rfl)) (.nil _))) ?_
  refine awp_seq ?_
  refine awp_region rfl (.n (fun _ => op_assign (.plain rfl)) (.nil _)) ?_
  refine awp_seq ?_
  refine awp_seq ?_
  refine awp_region rfl (.n (fun _ => op_fieldAddr Tryd.underlying62 rfl rfl Tryd.sizeOf49 (.plain rfl)) (.n (fun _ => op_load Tryd.isAgg49 (.plain rfl)) (.n (fun _ => op_len (s := 0) Tryd.underlying49 (.plain rfl)) (.n (fun _ => op_move (.plain rfl)) (.nil _))))) ?_
  refine awp_block ?_
  refine awp_ent (Ent.begin 5 1005 3 1 Int 0 (fun n => [.int .i64 n]) rfl rfl rfl) ?_
  refine awp_loop (σ := Nat) (fun (j : Nat) => j ≤ ls.length ∧ firstE (likE all bl ls) j = 0) (fun (j : Nat) => ⟨[(1, .pv (.seq (Bool × ByteArray × Int × List Int × List ByteArray) (false, ByteArray.empty, 0, [], []) (fun p => [.bool p.1, .str p.2.1, .i p.2.2.1, .ints p.2.2.2.1, .seq ByteArray ByteArray.empty (fun s => [.str s]) p.2.2.2.2]) all)), (2, .pv (.rd [.bool bl, .str nm, .i rm, .ints lk, .seq ByteArray ByteArray.empty (fun s => [.str s]) ls])), (13, .pv (.seq ByteArray ByteArray.empty (fun s => [.str s]) ls)), (14, .int (ls.length : Nat)), (15, .int (j : Nat)), (5, .own 1005)], [(1005, .arr 3 1 Int 0 (fun n => [.int .i64 n]) (lkOut all bl ls j))]⟩) (fun (j : Nat) => ls.length - j) 0 ?_ (Ent.kept ⟨rfl, rfl, rfl, rfl, rfl, rfl, trivial⟩ ⟨rfl, trivial⟩) ?_
  · exact ⟨Nat.zero_le _, rfl⟩
  rintro j hp
  try dsimp only at hp
  obtain ⟨hj, hE⟩ := hp
  refine awp_seq ?_
  refine awp_region rfl (.n (fun _ => op_lss (.plain rfl) (.plain rfl)) (.nil _)) ?_
  refine awp_seq ?_
  refine awp_cond rfl (fun h => ?_) (fun h => ?_)
  · skip
    have h16 := of_decide_eq_true h
    refine awp_skip ?_
    refine awp_seq ?_
    refine awp_block ?_
    refine awp_seq ?_
    refine awp_region rfl (.n (fun _ => op_indexAddrN Tryd.underlying49 Tryd.sizeOf9 (.plain rfl) (.plain rfl) (fun _ => rfl) ?_) (.n (fun _ => op_load Tryd.isAgg9 (.plain rfl)) (.n (fun _ => op_assign (.plain rfl)) (.nil _)))) ?_
    · omega
    refine awp_seq ?_
    refine awp_region rfl (.n (fun _ => op_assign (.plain rfl)) (.n (fun _ => op_assign (.plain rfl)) (.nil _))) ?_
    refine awp_seq ?_
    refine awp_seq ?_
    refine awp_region rfl (.n (fun _ => op_move (.plain rfl)) (.n (fun _ => op_len (s := 0) Tryd.underlying57 (.plain rfl)) (.n (fun _ => op_move (.plain rfl)) (.nil _)))) ?_
    refine awp_block ?_
    refine awp_ent (Ent.ren 1005 1006 rfl rfl rfl) ?_
    refine awp_loop (σ := Nat) (fun (i : Nat) => i ≤ all.length) (fun (i : Nat) => ⟨[(1, .pv (.seq (Bool × ByteArray × Int × List Int × List ByteArray) (false, ByteArray.empty, 0, [], []) (fun p => [.bool p.1, .str p.2.1, .i p.2.2.1, .ints p.2.2.2.1, .seq ByteArray ByteArray.empty (fun s => [.str s]) p.2.2.2.2]) all)), (2, .pv (.rd [.bool bl, .str nm, .i rm, .ints lk, .seq ByteArray ByteArray.empty (fun s => [.str s]) ls])), (13, .pv (.seq ByteArray ByteArray.empty (fun s => [.str s]) ls)), (14, .int (ls.length : Nat)), (15, .int (j : Nat)), (5, .own 1006), (7, .pv (.str (ls.getD j ByteArray.empty))), (8, .int (opC all bl i : Nat)), (9, .int (fnd all bl (ls.getD j ByteArray.empty) i)), (19, .pv (.seq (Bool × ByteArray × Int × List Int × List ByteArray) (false, ByteArray.empty, 0, [], []) (fun p => [.bool p.1, .str p.2.1, .i p.2.2.1, .ints p.2.2.2.1, .seq ByteArray ByteArray.empty (fun s => [.str s]) p.2.2.2.2]) all)), (20, .int (all.length : Nat)), (21, .int (i : Nat))], [(1006, .arr 3 1 Int 0 (fun n => [.int .i64 n]) (lkOut all bl ls j))]⟩) (fun (i : Nat) => all.length - i) 0 ?_ (Ent.kept ⟨rfl, rfl, rfl, rfl, rfl, rfl, rfl, rfl, rfl, rfl, rfl, rfl, trivial⟩ ⟨rfl, trivial⟩) ?_
    · exact Nat.zero_le _
    rintro i hp
    try dsimp only at hp
    have hi := hp
    refine awp_seq ?_
    refine awp_region rfl (.n (fun _ => op_lss (.plain rfl) (.plain rfl)) (.nil _)) ?_
    refine awp_seq ?_
    refine awp_cond rfl (fun h => ?_) (fun h => ?_)
    · skip
      have h22 := of_decide_eq_true h
      refine awp_skip ?_
      refine awp_seq ?_
      refine awp_block ?_
      refine awp_seq ?_
      refine awp_region rfl (.n (fun _ => op_indexAddrN Tryd.underlying57 Tryd.sizeOf62 (.plain rfl) (.plain rfl) (fun _ => rfl) ?_) (.n (fun _ => op_load_agg Tryd.isAgg62 Tryd.sizeOf62 (.plain rfl) (Nat.le_of_ble_eq_true rfl)) (.e (op_alloc 11 Tryd.zeroValue62 rfl rfl rfl) rfl (.e (op_storeRA Tryd.sizeOf62 (.plain rfl) (.plain rfl) rfl rfl (Nat.le_of_ble_eq_true rfl) rfl) rfl (.nil _))))) ?_
      · omega
      refine awp_seq ?_
      refine awp_seq ?_
      refine awp_region rfl (.n (fun _ => op_fieldAddrR Tryd.underlying62 rfl rfl Tryd.sizeOf4 (.plain rfl)) (.r (op_loadR Tryd.isAgg4 (.plain rfl) rfl rfl) (.n (fun _ => op_fieldAddr Tryd.underlying62 rfl rfl Tryd.sizeOf4 (.plain rfl)) (.n (fun _ => op_load Tryd.isAgg4 (.plain rfl)) (.n (fun _ => op_eqb Tryd.underlying4 (.plain rfl) (.plain rfl)) (.nil _)))))) ?_
      refine awp_cond rfl (fun h => ?_) (fun h => ?_)
      · skip
        have h29 : (lnL all i == bl) = true := h
        have hc : opC all bl i = opC all bl (i + 1) := (if_pos h29).symm
        have hf : fnd all bl (ls.getD j ByteArray.empty) i = fnd all bl (ls.getD j ByteArray.empty) (i + 1) := (if_pos h29).symm
        refine awp_exit ?_
        refine awp_region rfl (.n (fun _ => op_add (.plain rfl) (.plain rfl) ?_) (.n (fun _ => op_move (.plain rfl)) (.nil _))) ?_
        · unfold InR; omega
        exact ⟨i + 1, by omega, by dsimp only; omega, (Ent.kept ⟨rfl, rfl, rfl, rfl, rfl, rfl, rfl, (congrArg (fun n : Nat => some (SV.int n)) (hc)), (congrArg (fun n : Int => some (SV.int n)) hf), rfl, rfl, rfl, trivial⟩ ⟨rfl, trivial⟩)⟩
      · skip
        have h29 : ¬ (lnL all i == bl) = true := by rw [show (lnL all i == bl) = false from h]; decide
        have hc : opC all bl i + 1 = opC all bl (i + 1) := (if_neg h29).symm
        refine awp_skip ?_
        refine awp_seq ?_
        refine awp_seq ?_
        refine awp_region rfl (.n (fun _ => op_fieldAddrR Tryd.underlying62 rfl rfl Tryd.sizeOf27 (.plain rfl)) (.n (fun _ => op_fieldAddrR Tryd.underlying27 rfl rfl Tryd.sizeOf9 (.plain rfl)) (.r (op_loadR Tryd.isAgg9 (.plain rfl) rfl rfl) (.n (fun _ => op_move (.plain rfl)) (.n (fun _ => op_str_eql Tryd.underlying9 (.plain rfl) (.plain rfl)) (.nil _)))))) ?_
        refine awp_cond rfl (fun h => ?_) (fun h => ?_)
        · skip
          have h34 : lnN all i = (ls.getD j ByteArray.empty) := of_decide_eq_true h
          have hf : ((opC all bl i : Nat) : Int) = fnd all bl (ls.getD j ByteArray.empty) (i + 1) := by unfold fnd; rw [if_neg h29, if_pos h34]
          refine awp_region rfl (.n (fun _ => op_move (.plain rfl)) (.n (fun _ => op_assign (.plain rfl)) (.nil _))) ?_
          refine awp_region rfl (.n (fun _ => op_move (.plain rfl)) (.n (fun _ => op_add (.plain rfl) (.plain rfl) ?_) (.n (fun _ => op_assign (.plain rfl)) (.nil _)))) ?_
          · have := opC_le all bl i
            unfold InR; omega
          refine awp_region rfl (.n (fun _ => op_add (.plain rfl) (.plain rfl) ?_) (.n (fun _ => op_move (.plain rfl)) (.nil _))) ?_
          · unfold InR; omega
          exact ⟨i + 1, by omega, by dsimp only; omega, (Ent.kept ⟨rfl, rfl, rfl, rfl, rfl, rfl, rfl, (congrArg (fun n : Nat => some (SV.int n)) (hc)), (congrArg (fun n : Int => some (SV.int n)) hf), rfl, rfl, rfl, trivial⟩ ⟨rfl, trivial⟩)⟩
        · skip
          have h34 : ¬ lnN all i = (ls.getD j ByteArray.empty) := of_decide_eq_false h
          have hf : fnd all bl (ls.getD j ByteArray.empty) i = fnd all bl (ls.getD j ByteArray.empty) (i + 1) := by conv => rhs; unfold fnd; rw [if_neg h29, if_neg h34]
          refine awp_skip ?_
          refine awp_region rfl (.n (fun _ => op_move (.plain rfl)) (.n (fun _ => op_add (.plain rfl) (.plain rfl) ?_) (.n (fun _ => op_assign (.plain rfl)) (.nil _)))) ?_
          · have := opC_le all bl i
            unfold InR; omega
          refine awp_region rfl (.n (fun _ => op_add (.plain rfl) (.plain rfl) ?_) (.n (fun _ => op_move (.plain rfl)) (.nil _))) ?_
          · unfold InR; omega
          exact ⟨i + 1, by omega, by dsimp only; omega, (Ent.kept ⟨rfl, rfl, rfl, rfl, rfl, rfl, rfl, (congrArg (fun n : Nat => some (SV.int n)) (hc)), (congrArg (fun n : Int => some (SV.int n)) hf), rfl, rfl, rfl, trivial⟩ ⟨rfl, trivial⟩)⟩
    · skip
      have h22 := of_decide_eq_false h
      obtain rfl : i = all.length := by omega
      refine awp_exit ?_
      refine awp_seq ?_
      refine awp_block ?_
      refine awp_seq ?_
      refine awp_region rfl (.n (fun _ => op_move (.plain rfl)) (.n (fun _ => op_lss (.plain rfl) (.plain rfl)) (.n (fun _ => op_assign (.plain rfl)) (.nil _)))) ?_
      refine awp_cond rfl (fun h => ?_) (fun h => ?_)
      · skip
        have h39 : fdN all bl ls j < 0 := of_decide_eq_true h
        refine awp_panic (l := [_]) rfl (.n (fun _ => op_iface Tryd.underlying55 (.plain rfl)) (.nil _)) rfl ?_
        refine retXp (P := Tryd.prog) (fn := Tryd.f29) ?_ trivial trivial
        exact outOf_no (lkE_5 hE (by omega) h39) (by decide)
      · skip
        have h39 : ¬ fdN all bl ls j < 0 := of_decide_eq_false h
        refine awp_seq ?_
        refine awp_region rfl (.n (fun _ => op_move (.plain rfl)) (.n (fun _ => op_move (.plain rfl)) (.r (op_callL (vals := [_, _]) Tryd.call41 ⟨⟨_, (.plain rfl), rfl⟩, ⟨_, (.plain rfl), rfl⟩, trivial⟩ (Contains_fc _ _) rfl) (.n (fun _ => op_assign (.plain rfl)) (.nil _))))) ?_
        refine awp_cond rfl (fun h => ?_) (fun h => ?_)
        · skip
          have h43 := of_decide_eq_true h
          refine awp_panic (l := [_]) rfl (.n (fun _ => op_iface Tryd.underlying55 (.plain rfl)) (.nil _)) rfl ?_
          refine retXp (P := Tryd.prog) (fn := Tryd.f29) ?_ trivial trivial
          exact outOf_no (lkE_6 hE (by omega) h39 h43) (by decide)
        · skip
          have h43 := of_decide_eq_false h
          refine awp_skip ?_
          refine awp_region rfl (.n (fun _ => op_move (.plain rfl)) (.n (fun _ => op_move (.plain rfl)) (.n (fun _ => op_slit (pp := [(0, _)]) (α := Int) (d := 0) (f := (fun n => [.int .i64 n])) [_] ety25 rfl ⟨rfl, (.plain rfl), (by simp), trivial⟩ rfl (by decide) rfl) (.e (op_append (id' := 51) (α := Int) (d := 0) (f := (fun n => [.int .i64 n])) ety25 Tryd.underlying25 (fun _ => rfl) (fun _ => rfl) (.plain rfl) rfl (.plain rfl) rfl ?_) rfl (.n (fun _ => op_assign (.plain rfl)) (.nil _)))))) ?_
          · have := lkOut_len all bl ls j
            simp only [List.length_cons, List.length_nil]
            omega
          refine awp_region rfl (.n (fun _ => op_add (.plain rfl) (.plain rfl) ?_) (.n (fun _ => op_move (.plain rfl)) (.nil _))) ?_
          · unfold InR; omega
          exact ⟨j + 1, ⟨by omega, lkE_0 hE h39 h43⟩, by dsimp only; omega, (Ent.round 51 1005 ⟨rfl, rfl, rfl, rfl, rfl, rfl, trivial⟩ ⟨(congrArg (fun l => some (Blk.arr 3 1 Int 0 (fun n => [.int .i64 n]) l)) (lkOut_succ all bl ls j)), trivial⟩ rfl rfl rfl ⟨rfl, rfl, rfl, rfl, rfl, rfl, trivial⟩ ⟨rfl, trivial⟩)⟩
  · skip
    have h16 := of_decide_eq_false h
    obtain rfl : j = ls.length := by omega
    refine awp_exit ?_
    refine awp_seq ?_
    refine awp_region rfl (.n (fun _ => op_move (.plain rfl)) (.n (fun _ => op_assign (.plain rfl)) (.nil _))) ?_
    refine awp_ent (Ent.give 4 rfl rfl) ?_
    refine awp_ret ?_
    refine retX.ret ?_
    refine retX1 rfl rfl trivial trivial ?_
    exact outOf_ok hE rfl

end Go.Proofs.YtolmcapbpliaiaaDoor

