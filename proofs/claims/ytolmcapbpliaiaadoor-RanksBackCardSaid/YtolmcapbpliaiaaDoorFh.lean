/- A text, read. Conditions: each theorem names its own. -/
import Derived.Test.YtolmcapbpliaiaaDoorProg
import Derived.Test.YtolmcapbpliaiaaDoorFg
namespace Go.Proofs.YtolmcapbpliaiaaDoor
open Go.Abs
set_option linter.unusedVariables false
set_option linter.unusedSimpArgs false

set_option linter.unusedVariables false

/-! ### A text -/
def lnE (ls : List ByteArray) (i : Nat) : ByteArray := ls.getD i ByteArray.empty
def skipB (ws : List ByteArray) : Bool := decide (((ws.length : Nat) : Int) = 0) || decide (byteAt (ws.getD 0 ByteArray.empty) 0 = 35)
/-- The agents of the first i lines. -/
def accP (ls : List ByteArray) : Nat → List Ln
  | 0 => []
  | i + 1 => if skipB (wordsL (lnE ls i)) = true then accP ls i else accP ls i ++ [rdV (wordsL (lnE ls i))]
def errP (ls : List ByteArray) (i : Nat) : Int := if skipB (wordsL (lnE ls i)) = true then 0 else rdE (wordsL (lnE ls i)) (accP ls i)
def lnR (l : List Ln) (i : Nat) : Int := (l.getD i (false, ByteArray.empty, 0, [], [])).2.2.1
def lnK (l : List Ln) (i : Nat) : List ByteArray := (l.getD i (false, ByteArray.empty, 0, [], [])).2.2.2.2
def agP (all : List Ln) (j : Nat) : Ag := (lnN all j, lnR all j, lkOut all (lnL all j) (lnK all j) (lnK all j).length, ())
/-- One side, of the first j lines. -/
def sdP (all : List Ln) (b : Bool) : Nat → List Ag
  | 0 => []
  | j + 1 => if lnL all j = b then sdP all b j ++ [agP all j] else sdP all b j
def lkP (all : List Ln) (j : Nat) : Int := firstE (likE all (lnL all j) (lnK all j)) (lnK all j).length
def allP (text : ByteArray) : List Ln := accP (cutL text) (cutL text).length
def parseE (text : ByteArray) : Int := if firstE (errP (cutL text)) (cutL text).length ≠ 0 then firstE (errP (cutL text)) (cutL text).length else firstE (lkP (allP text)) (allP text).length
def parseL (text : ByteArray) : List Ag := sdP (allP text) true (allP text).length
def parseR (text : ByteArray) : List Ag := sdP (allP text) false (allP text).length
theorem accP_len (ls : List ByteArray) : ∀ i, (accP ls i).length ≤ i
  | 0 => Nat.le_refl _
  | i + 1 => by
    have := accP_len ls i
    unfold accP
    split
    · omega
    · simp; omega
theorem sdP_len (all : List Ln) (b : Bool) : ∀ j, (sdP all b j).length ≤ j
  | 0 => Nat.le_refl _
  | j + 1 => by
    have := sdP_len all b j
    unfold sdP
    split
    · simp; omega
    · omega
theorem cutL_len (s : ByteArray) : (cutL s).length ≤ s.size + 1 := by
  have := cutB_len 10 s.data.toList
  rw [← size_list] at this
  simpa [cutL] using this
theorem cutL_mem {s x : ByteArray} (h : x ∈ cutL s) : x.size ≤ s.size := by
  obtain ⟨l, hl, rfl⟩ := List.mem_map.1 h
  have := cutB_mem 10 _ l hl
  rw [bs_size, size_list s]; exact this
theorem wordsL_len (s : ByteArray) : (wordsL s).length ≤ s.size + 1 := by
  have := wordsGo_len s.data.toList []
  rw [← size_list] at this
  simpa [wordsL] using this
theorem wordsL_mem {s x : ByteArray} (h : x ∈ wordsL s) : x.size ≤ s.size ∧ x ≠ ⟨#[]⟩ := by
  obtain ⟨l, hl, rfl⟩ := List.mem_map.1 h
  have := wordsGo_mem s.data.toList [] l hl
  refine ⟨by rw [bs_size, size_list s]; simpa using this.1, fun e => this.2 ?_⟩
  have := congrArg (fun s : ByteArray => s.data.toList) e
  simpa [bs] using this
theorem rdLk_len (ws : List ByteArray) : (rdLk ws).length ≤ ws.length := by
  unfold rdLk
  split <;> (simp only [List.length_drop]; omega)
theorem accP_lk (ls : List ByteArray) (N : Nat) (hN : ∀ x, x ∈ ls → x.size ≤ N) : ∀ i, i ≤ ls.length → ∀ y, y ∈ accP ls i → y.2.2.2.2.length ≤ N + 1
  | 0, _, y, h => by simp [accP] at h
  | i + 1, hi, y, h => by
    unfold accP at h
    split at h
    · exact accP_lk ls N hN i (by omega) y h
    · rcases List.mem_append.1 h with h | h
      · exact accP_lk ls N hN i (by omega) y h
      · simp only [List.mem_singleton] at h
        subst h
        have h1 := rdLk_len (wordsL (lnE ls i))
        have h2 := wordsL_len (lnE ls i)
        have h3 := hN (lnE ls i) (by unfold lnE; exact wsD_mem (by omega))
        show (rdLk _).length ≤ _
        omega
theorem lnK_len {all : List Ln} {N j : Nat} (h : ∀ y, y ∈ all → y.2.2.2.2.length ≤ N + 1) (hj : j < all.length) : (lnK all j).length ≤ N + 1 := by
  unfold lnK
  rw [List.getD_eq_getElem?_getD, List.getElem?_eq_getElem hj]
  exact h _ (List.getElem_mem hj)

/-! ### The deferred call -/
def dOf (p2 p3 : Value) : Deferred := { target := .fn (.func 24) #[p2, p3], args := #[] }
noncomputable def p13z : Code := match Tryd.f13.body with | some (.seq _ (.seq _ (.seq _ z))) => z | _ => .skip
noncomputable def p13x : Code := match Tryd.f13.body with | some (.seq x _) => x | _ => .skip
noncomputable def p13y : Code := match Tryd.f13.body with | some (.seq _ (.seq y _)) => y | _ => .skip
def E23 (p2 p3 : Value) : Env := [(2, .ref 2 0), (3, .ref 3 0), (1000002, .pin 2 p2), (1000003, .pin 3 p3)]
/-- Where the function ends: well, or by a panic. -/
def QZ (r : Int) (L R : PV) (p2 p3 : Value) : Exit → St → Prop
  | .ret, st => r = 0 ∧ Ent st ⟨E23 p2 p3, [(2, .box [.pv L, .pv R]), (3, .box [.pv (.i 0)])]⟩
  | .panic chain, st => r ≠ 0 ∧ chain = [entryOf (faultV r)] ∧ ∃ s1 s2 s3, Ent st ⟨E23 p2 p3, [(2, .box [s1, s2]), (3, .box [s3])]⟩
  | _, _ => False
theorem QZ.die {r e : Int} {L R : PV} {p2 p3 : Value} {st : St} {s1 s2 s3 : SV} (hr : r = e) (he : e ≠ 0) (h : Ent st ⟨E23 p2 p3, [(2, .box [s1, s2]), (3, .box [s3])]⟩) : QZ r L R p2 p3 (.panic [entryOf (faultV e)]) st := by
  subst hr
  exact ⟨he, rfl, s1, s2, s3, h⟩
section
variable {text : ByteArray}
theorem parseE_1 {i : Nat} (hE : firstE (errP (cutL text)) i = 0) (hi : i < (cutL text).length) (h : errP (cutL text) i ≠ 0) : parseE text = errP (cutL text) i := by
  have := firstE_stop hE rfl h hi
  unfold parseE
  rw [if_pos (by rw [this]; exact h), this]
theorem parseE_2 {j : Nat} (h0 : firstE (errP (cutL text)) (cutL text).length = 0) (hE : firstE (lkP (allP text)) j = 0) (hj : j < (allP text).length) (h : lkP (allP text) j ≠ 0) : parseE text = lkP (allP text) j := by
  have := firstE_stop hE rfl h hj
  unfold parseE
  rw [if_neg (by omega), this]
theorem parseE_0 (h0 : firstE (errP (cutL text)) (cutL text).length = 0) (hE : firstE (lkP (allP text)) (allP text).length = 0) : parseE text = 0 := by
  unfold parseE
  rw [if_neg (by omega), hE]
end

set_option maxRecDepth 1000000 in
set_option maxHeartbeats 4000000 in
theorem parse_z (gs : List Nat) (text : ByteArray) (p2 p3 : Value) (hsz : text.size ≤ 20000) (hg : 5 ∈ gs ∨ ∀ l, l ∈ cutL text → ∀ x, x ∈ wordsL l → x.size ≤ 18) : awp (ro := none) (B := some ([dOf p2 p3], gs)) Tryd.prog 70 p13z (QZ (parseE text) (.seq (ByteArray × Int × List Int × Unit) (ByteArray.empty, 0, [], ()) (fun p => [.str p.1, .i p.2.1, .ints p.2.2.1]) (parseL text)) (.seq (ByteArray × Int × List Int × Unit) (ByteArray.empty, 0, [], ()) (fun p => [.str p.1, .i p.2.1, .ints p.2.2.1]) (parseR text)) p2 p3) ⟨[(0, .pv (.str text)), (2, .ref 2 0), (3, .ref 3 0), (1000002, .pin 2 p2), (1000003, .pin 3 p3)], [(2, .box [.pv .nil, .pv .nil]), (3, .box [.pv (.i 0)])]⟩ := by
  have hcl := cutL_len text
  refine awp_seq ?_
  refine awp_region rfl (.n (fun _ => op_assign (.plain rfl)) (.nil _)) ?_
  refine awp_seq ?_
  refine awp_seq ?_
  refine awp_region rfl (.n (fun _ => op_move (.plain rfl)) (.n (fun _ => op_call2 Tryd.call25 (.plain rfl) (.plain rfl) (Split_fc _ ?_)) (.n (fun _ => op_len (s := 0) Tryd.underlying49 (.plain rfl)) (.n (fun _ => op_move (.plain rfl)) (.nil _))))) ?_
  · omega
  refine awp_block ?_
  refine awp_ent (Ent.begin 4 1004 62 5 (Bool × ByteArray × Int × List Int × List ByteArray) (false, ByteArray.empty, 0, [], []) (fun p => [.bool p.1, .str p.2.1, .i p.2.2.1, .ints p.2.2.2.1, .seq ByteArray ByteArray.empty (fun s => [.str s]) p.2.2.2.2]) rfl rfl rfl) ?_
  refine awp_loop (σ := Nat) (fun (i : Nat) => i ≤ (cutL text).length ∧ firstE (errP (cutL text)) i = 0) (fun (i : Nat) => ⟨[(2, .ref 2 0), (3, .ref 3 0), (1000002, .pin 2 p2), (1000003, .pin 3 p3), (4, .own 1004), (16, .pv (.seq ByteArray ByteArray.empty (fun s => [.str s]) (cutL text))), (17, .int ((cutL text).length : Nat)), (18, .int (i : Nat))], [(2, .box [.pv .nil, .pv .nil]), (3, .box [.pv (.i 0)]), (1004, .arr 62 5 (Bool × ByteArray × Int × List Int × List ByteArray) (false, ByteArray.empty, 0, [], []) (fun p => [.bool p.1, .str p.2.1, .i p.2.2.1, .ints p.2.2.2.1, .seq ByteArray ByteArray.empty (fun s => [.str s]) p.2.2.2.2]) (accP (cutL text) i))]⟩) (fun (i : Nat) => (cutL text).length - i) 0 ?_ (Ent.kept ⟨rfl, rfl, rfl, rfl, rfl, rfl, rfl, rfl, trivial⟩ ⟨rfl, rfl, rfl, trivial⟩) ?_
  · exact ⟨Nat.zero_le _, rfl⟩
  rintro i hp
  try dsimp only at hp
  obtain ⟨hi, hE⟩ := hp
  refine awp_seq ?_
  refine awp_region rfl (.n (fun _ => op_lss (.plain rfl) (.plain rfl)) (.nil _)) ?_
  refine awp_seq ?_
  refine awp_cond rfl (fun h => ?_) (fun h => ?_)
  · skip
    have h19 := of_decide_eq_true h
    refine awp_skip ?_
    refine awp_seq ?_
    refine awp_block ?_
    refine awp_seq ?_
    refine awp_region rfl (.n (fun _ => op_indexAddrN Tryd.underlying49 Tryd.sizeOf9 (.plain rfl) (.plain rfl) (fun _ => rfl) ?_) (.n (fun _ => op_load Tryd.isAgg9 (.plain rfl)) (.n (fun _ => op_assign (.plain rfl)) (.nil _)))) ?_
    · omega
    refine awp_seq ?_
    refine awp_region rfl (.n (fun _ => op_move (.plain rfl)) (.n (fun _ => op_call2 Tryd.call26 (.plain rfl) (.plain rfl) (FieldsFunc_fc _ ?_)) (.n (fun _ => op_assign (.plain rfl)) (.nil _)))) ?_
    · have := cutL_mem (wsD_mem (x := cutL text) (show i < (cutL text).length by omega))
      omega
    refine awp_seq ?_
    refine awp_seq ?_
    refine awp_region rfl (.n (fun _ => op_move (.plain rfl)) (.n (fun _ => op_len (s := 0) Tryd.underlying49 (.plain rfl)) (.n (fun _ => op_eql (.plain rfl) (.plain rfl)) (.n (fun _ => op_move (.plain rfl)) (.gn rfl rfl (fun hg _ => op_move (.plain rfl)) (.gn rfl rfl (fun hg _ => op_indexAddr Tryd.underlying49 Tryd.sizeOf9 (.opt rfl fun h => h) (.plain rfl) (fun _ => rfl) ?_) (.gn rfl rfl (fun hg _ => op_load Tryd.isAgg9 (.opt rfl fun h => h)) (.gn rfl rfl (fun hg _ => op_indexS Tryd.underlying9 (.opt rfl fun h => h) (.plain rfl) ?_) (.gn rfl rfl (fun hg _ => op_eql (.opt rfl fun h => h) (.plain rfl)) (.n (fun _ => op_or (.plain rfl) (.plain rfl) (.plain rfl) (fun h => eqF h)) (.nil _))))))))))) ?_
    · try simp only [beq_iff_eq, beq_true, beq_false, Bool.and_eq_true, decide_eq_true_eq, decide_eq_false_iff_not, Bool.not_eq_true', Bool.or_eq_true, Bool.or_eq_false_iff] at hg
      omega
    · try simp only [beq_iff_eq, beq_true, beq_false, Bool.and_eq_true, decide_eq_true_eq, decide_eq_false_iff_not, Bool.not_eq_true', Bool.or_eq_true, Bool.or_eq_false_iff] at hg
      have hw0 : 0 < (wordsL (lnE (cutL text) i)).length := by
        rcases Nat.eq_zero_or_pos (wordsL (lnE (cutL text) i)).length with e | e
        · exact absurd (by exact_mod_cast e) hg
        · exact e
      have := size_pos (wordsL_mem (wsD_mem hw0)).2
      exact ⟨Int.le_refl _, Int.ofNat_lt.2 this⟩
    refine awp_cond rfl (fun h => ?_) (fun h => ?_)
    · skip
      have h33 : skipB (wordsL (lnE (cutL text) i)) = true := h
      have hacc : accP (cutL text) i = accP (cutL text) (i + 1) := (if_pos h33).symm
      have herr : errP (cutL text) i = 0 := if_pos h33
      refine awp_exit ?_
      refine awp_region rfl (.n (fun _ => op_add (.plain rfl) (.plain rfl) ?_) (.n (fun _ => op_move (.plain rfl)) (.nil _))) ?_
      · unfold InR; omega
      exact ⟨i + 1, ⟨by omega, firstE_succ hE herr⟩, by dsimp only; omega, (Ent.kept ⟨rfl, rfl, rfl, rfl, rfl, rfl, rfl, rfl, trivial⟩ ⟨rfl, rfl, (congrArg (fun l => some (Blk.arr 62 5 (Bool × ByteArray × Int × List Int × List ByteArray) (false, ByteArray.empty, 0, [], []) (fun p => [.bool p.1, .str p.2.1, .i p.2.2.1, .ints p.2.2.2.1, .seq ByteArray ByteArray.empty (fun s => [.str s]) p.2.2.2.2]) l)) (hacc)), trivial⟩)⟩
    · skip
      have h33 : ¬ skipB (wordsL (lnE (cutL text) i)) = true := by rw [show skipB (wordsL (lnE (cutL text) i)) = false from h]; decide
      have hacc : accP (cutL text) i ++ [rdV (wordsL (lnE (cutL text) i))] = accP (cutL text) (i + 1) := (if_neg h33).symm
      have herr : errP (cutL text) i = rdE (wordsL (lnE (cutL text) i)) (accP (cutL text) i) := if_neg h33
      have hpos : 0 < (wordsL (lnE (cutL text) i)).length := by
        rcases Nat.eq_zero_or_pos (wordsL (lnE (cutL text) i)).length with e | e
        · exact absurd (by unfold skipB; rw [e]; rfl) h33
        · exact e
      have hil : lnE (cutL text) i ∈ cutL text := by unfold lnE; exact wsD_mem (by omega)
      refine awp_skip ?_
      refine awp_callX (l1 := [_, _, _]) (l2 := [_, _, _]) (fun k => [0, 1004].getD k 0) rfl (.n (fun _ => op_move (.plain rfl)) (.n (fun _ => op_move (.plain rfl)) (.n (fun _ => op_move (.plain rfl)) (.nil _)))) Tryd.call28 (read_fx gs (wordsL (lnE (cutL text) i)) (accP (cutL text) i) ?_ ?_ ?_) ⟨(.plain rfl), (.plain rfl), trivial⟩ ⟨rfl, trivial⟩ (by kernel_rfl) (fun v hv => ?hret37) (fun u hu => ?hdie37)
      · exact hpos
      · exact fun x hx => (wordsL_mem hx).2
      · exact hg.imp_right fun h x hx => h _ hil x hx
      case hdie37 =>
        obtain ⟨h0, rfl⟩ := outOf_die hu
        show (QZ (parseE text) (.seq (ByteArray × Int × List Int × Unit) (ByteArray.empty, 0, [], ()) (fun p => [.str p.1, .i p.2.1, .ints p.2.2.1]) (parseL text)) (.seq (ByteArray × Int × List Int × Unit) (ByteArray.empty, 0, [], ()) (fun p => [.str p.1, .i p.2.1, .ints p.2.2.1]) (parseR text)) p2 p3) (.panic _) _
        exact QZ.die ((parseE_1 hE (by omega) (by rw [herr]; exact h0)).trans herr) h0 (Ent.kept ⟨rfl, rfl, rfl, rfl, trivial⟩ ⟨rfl, rfl, trivial⟩)
      case hret37 =>
        obtain ⟨h0, rfl⟩ := outOf_ret hv
        refine ⟨_, _, (.n (fun _ => op_slit1 (pp := [(0, _)]) (α := (Bool × ByteArray × Int × List Int × List ByteArray)) (d := (false, ByteArray.empty, 0, [], [])) (f := (fun p => [.bool p.1, .str p.2.1, .i p.2.2.1, .ints p.2.2.2.1, .seq ByteArray ByteArray.empty (fun s => [.str s]) p.2.2.2.2])) (rdV (wordsL (lnE (cutL text) i))) ety57 rfl ⟨rfl, (.plain rfl), (by simp), trivial⟩ rfl (by decide)) (.e (op_append (id' := 39) (α := (Bool × ByteArray × Int × List Int × List ByteArray)) (d := (false, ByteArray.empty, 0, [], [])) (f := (fun p => [.bool p.1, .str p.2.1, .i p.2.2.1, .ints p.2.2.2.1, .seq ByteArray ByteArray.empty (fun s => [.str s]) p.2.2.2.2])) ety57 Tryd.underlying57 (fun _ => rfl) (fun _ => rfl) (.plain rfl) rfl (.plain rfl) rfl ?_) rfl (.n (fun _ => op_assign (.plain rfl)) (.nil _)))), ?_⟩
        · have := accP_len (cutL text) i
          simp only [List.length_cons, List.length_nil]
          omega
        refine awp_region rfl (.n (fun _ => op_add (.plain rfl) (.plain rfl) ?_) (.n (fun _ => op_move (.plain rfl)) (.nil _))) ?_
        · unfold InR; omega
        exact ⟨i + 1, ⟨by omega, firstE_succ hE (herr.trans h0)⟩, by dsimp only; omega, (Ent.round 39 1004 ⟨rfl, rfl, rfl, rfl, rfl, rfl, rfl, rfl, trivial⟩ ⟨rfl, rfl, (congrArg (fun l => some (Blk.arr 62 5 (Bool × ByteArray × Int × List Int × List ByteArray) (false, ByteArray.empty, 0, [], []) (fun p => [.bool p.1, .str p.2.1, .i p.2.2.1, .ints p.2.2.2.1, .seq ByteArray ByteArray.empty (fun s => [.str s]) p.2.2.2.2]) l)) (hacc)), trivial⟩ rfl rfl rfl ⟨rfl, rfl, rfl, rfl, rfl, rfl, rfl, rfl, trivial⟩ ⟨rfl, rfl, rfl, trivial⟩)⟩
  · skip
    have h19 := of_decide_eq_false h
    obtain rfl : i = (cutL text).length := by omega
    refine awp_exit ?_
    refine awp_seq ?_
    refine awp_seq ?_
    have hall : (allP text).length ≤ (cutL text).length := accP_len _ _
    refine awp_ent (Ent.give 4 rfl rfl) ?_
    refine awp_region rfl (.n (fun _ => op_move (.plain rfl)) (.n (fun _ => op_len (s := 0) Tryd.underlying57 (.plain rfl)) (.n (fun _ => op_move (.plain rfl)) (.nil _)))) ?_
    refine awp_block ?_
    refine awp_ent (Ent.beginB 2 0 52 27 3 (ByteArray × Int × List Int × Unit) (ByteArray.empty, 0, [], ()) (fun p => [.str p.1, .i p.2.1, .ints p.2.2.1]) rfl rfl (by decide) rfl rfl) ?_
    refine awp_ent (Ent.beginB 2 1 53 27 3 (ByteArray × Int × List Int × Unit) (ByteArray.empty, 0, [], ()) (fun p => [.str p.1, .i p.2.1, .ints p.2.2.1]) rfl rfl (by decide) rfl rfl) ?_
    refine awp_loop (σ := Nat) (fun (j : Nat) => j ≤ (allP text).length ∧ firstE (lkP (allP text)) j = 0) (fun (j : Nat) => ⟨[(2, .ref 2 0), (3, .ref 3 0), (1000002, .pin 2 p2), (1000003, .pin 3 p3), (4, .pv (.seq (Bool × ByteArray × Int × List Int × List ByteArray) (false, ByteArray.empty, 0, [], []) (fun p => [.bool p.1, .str p.2.1, .i p.2.2.1, .ints p.2.2.2.1, .seq ByteArray ByteArray.empty (fun s => [.str s]) p.2.2.2.2]) (allP text))), (41, .pv (.seq (Bool × ByteArray × Int × List Int × List ByteArray) (false, ByteArray.empty, 0, [], []) (fun p => [.bool p.1, .str p.2.1, .i p.2.2.1, .ints p.2.2.2.1, .seq ByteArray ByteArray.empty (fun s => [.str s]) p.2.2.2.2]) (allP text))), (42, .int ((allP text).length : Nat)), (43, .int (j : Nat))], [(2, .box [.own 52, .own 53]), (3, .box [.pv (.i 0)]), (52, .arr 27 3 (ByteArray × Int × List Int × Unit) (ByteArray.empty, 0, [], ()) (fun p => [.str p.1, .i p.2.1, .ints p.2.2.1]) (sdP (allP text) true j)), (53, .arr 27 3 (ByteArray × Int × List Int × Unit) (ByteArray.empty, 0, [], ()) (fun p => [.str p.1, .i p.2.1, .ints p.2.2.1]) (sdP (allP text) false j))]⟩) (fun (j : Nat) => (allP text).length - j) 0 ?_ (Ent.kept ⟨rfl, rfl, rfl, rfl, rfl, rfl, rfl, rfl, trivial⟩ ⟨rfl, rfl, rfl, rfl, trivial⟩) ?_
    · exact ⟨Nat.zero_le _, rfl⟩
    rintro j hp
    try dsimp only at hp
    obtain ⟨hj, hE2⟩ := hp
    refine awp_seq ?_
    refine awp_region rfl (.n (fun _ => op_lss (.plain rfl) (.plain rfl)) (.nil _)) ?_
    refine awp_seq ?_
    refine awp_cond rfl (fun h => ?_) (fun h => ?_)
    · skip
      have h44 := of_decide_eq_true h
      refine awp_skip ?_
      refine awp_seq ?_
      refine awp_block ?_
      refine awp_seq ?_
      refine awp_region rfl (.n (fun _ => op_indexAddrN Tryd.underlying57 Tryd.sizeOf62 (.plain rfl) (.plain rfl) (fun _ => rfl) ?_) (.n (fun _ => op_load_agg Tryd.isAgg62 Tryd.sizeOf62 (.plain rfl) (Nat.le_of_ble_eq_true rfl)) (.e (op_alloc 9 Tryd.zeroValue62 rfl rfl rfl) rfl (.e (op_storeRA Tryd.sizeOf62 (.plain rfl) (.plain rfl) rfl rfl (Nat.le_of_ble_eq_true rfl) rfl) rfl (.nil _))))) ?_
      · omega
      refine awp_seq ?_
      refine awp_callX (l1 := [_, _]) (l2 := [_, _, _]) (fun k => [].getD k 0) rfl (.r (op_loadRA Tryd.isAgg62 Tryd.sizeOf62 (.plain rfl) rfl (by first | (simp; done) | exact Nat.le_of_ble_eq_true rfl) rfl) (.n (fun _ => op_move (.plain rfl)) (.nil _))) Tryd.call29 (likes_fx gs _ _ _ _ _ _ ?_) ⟨(.plain rfl), (.plain rfl), trivial⟩ trivial (by kernel_rfl) (fun v hv => ?hret49) (fun u hu => ?hdie49)
      · have := lnK_len (accP_lk (cutL text) 20000 (fun x hx => by have := cutL_mem hx; omega) (cutL text).length (Nat.le_refl _)) (show j < (allP text).length by omega)
        exact Nat.le_trans this (by omega)
      case hdie49 =>
        obtain ⟨h0, rfl⟩ := outOf_die hu
        show (QZ (parseE text) (.seq (ByteArray × Int × List Int × Unit) (ByteArray.empty, 0, [], ()) (fun p => [.str p.1, .i p.2.1, .ints p.2.2.1]) (parseL text)) (.seq (ByteArray × Int × List Int × Unit) (ByteArray.empty, 0, [], ()) (fun p => [.str p.1, .i p.2.1, .ints p.2.2.1]) (parseR text)) p2 p3) (.panic _) _
        exact QZ.die (parseE_2 hE hE2 (by omega) h0) h0 (Ent.kept ⟨rfl, rfl, rfl, rfl, trivial⟩ ⟨rfl, rfl, trivial⟩)
      case hret49 =>
        obtain ⟨h0, rfl⟩ := outOf_ret hv
        refine ⟨_, _, (.n (fun _ => op_fieldAddrR Tryd.underlying62 rfl rfl Tryd.sizeOf27 (.plain rfl)) (.n (fun _ => op_fieldAddrR Tryd.underlying27 rfl rfl Tryd.sizeOf25 (.plain rfl)) (.e (op_storeR Tryd.sizeOf25 (.plain rfl) (.plain rfl) rfl (by first | decide | exact Nat.le_of_ble_eq_true rfl) rfl (by simp) (by simp)) rfl (.nil _)))), ?_⟩
        refine awp_seq ?_
        refine awp_region rfl (.n (fun _ => op_fieldAddrR Tryd.underlying62 rfl rfl Tryd.sizeOf4 (.plain rfl)) (.r (op_loadR Tryd.isAgg4 (.plain rfl) rfl rfl) (.nil _))) ?_
        refine awp_cond rfl (fun h => ?_) (fun h => ?_)
        · skip
          have h53 : lnL (allP text) j = true := h
          have hl : sdP (allP text) true j ++ [agP (allP text) j] = sdP (allP text) true (j + 1) := (if_pos h53).symm
          have hr : sdP (allP text) false j = sdP (allP text) false (j + 1) := (if_neg (by rw [h53]; decide)).symm
          refine awp_region rfl (.n (fun _ => op_fieldAddrR Tryd.underlying24 rfl rfl Tryd.sizeOf22 (.plain rfl)) (.r (op_loadR Tryd.isAgg22 (.plain rfl) rfl rfl) (.n (fun _ => op_fieldAddrR Tryd.underlying62 rfl rfl Tryd.sizeOf27 (.plain rfl)) (.r (op_loadRA Tryd.isAgg27 Tryd.sizeOf27 (.plain rfl) rfl (by first | (simp; done) | exact Nat.le_of_ble_eq_true rfl) rfl) (.n (fun _ => op_slit1 (pp := [(0, _)]) (α := (ByteArray × Int × List Int × Unit)) (d := (ByteArray.empty, 0, [], ())) (f := (fun p => [.str p.1, .i p.2.1, .ints p.2.2.1])) (agP (allP text) j) ety22 rfl ⟨rfl, (.plain rfl), (by simp), trivial⟩ rfl (by decide)) (.e (op_append (id' := 59) (α := (ByteArray × Int × List Int × Unit)) (d := (ByteArray.empty, 0, [], ())) (f := (fun p => [.str p.1, .i p.2.1, .ints p.2.2.1])) ety22 Tryd.underlying22 (fun _ => rfl) (fun _ => rfl) (.plain rfl) rfl (.plain rfl) rfl ?_) rfl (.n (fun _ => op_fieldAddrR Tryd.underlying24 rfl rfl Tryd.sizeOf22 (.plain rfl)) (.e (op_storeR Tryd.sizeOf22 (.plain rfl) (.plain rfl) rfl (by first | decide | exact Nat.le_of_ble_eq_true rfl) rfl (by simp) (fun i h => by cases h; exact ⟨_, _, _, _, _, _, rfl⟩)) rfl (.nil _))))))))) ?_
          · have := sdP_len (allP text) true j
            simp only [List.length_cons, List.length_nil]
            omega
          refine awp_region rfl (.n (fun _ => op_add (.plain rfl) (.plain rfl) ?_) (.n (fun _ => op_move (.plain rfl)) (.nil _))) ?_
          · unfold InR; omega
          exact ⟨j + 1, ⟨by omega, firstE_succ hE2 h0⟩, by dsimp only; omega, (Ent.round 59 52 ⟨rfl, rfl, rfl, rfl, rfl, rfl, rfl, rfl, trivial⟩ ⟨rfl, rfl, (congrArg (fun l => some (Blk.arr 27 3 (ByteArray × Int × List Int × Unit) (ByteArray.empty, 0, [], ()) (fun p => [.str p.1, .i p.2.1, .ints p.2.2.1]) l)) (hl)), (congrArg (fun l => some (Blk.arr 27 3 (ByteArray × Int × List Int × Unit) (ByteArray.empty, 0, [], ()) (fun p => [.str p.1, .i p.2.1, .ints p.2.2.1]) l)) (hr)), trivial⟩ rfl rfl rfl ⟨rfl, rfl, rfl, rfl, rfl, rfl, rfl, rfl, trivial⟩ ⟨rfl, rfl, rfl, rfl, trivial⟩)⟩
        · skip
          have h53 : lnL (allP text) j = false := h
          have hr : sdP (allP text) false j ++ [agP (allP text) j] = sdP (allP text) false (j + 1) := (if_pos h53).symm
          have hl : sdP (allP text) true j = sdP (allP text) true (j + 1) := (if_neg (by rw [h53]; decide)).symm
          refine awp_region rfl (.n (fun _ => op_fieldAddrR Tryd.underlying24 rfl rfl Tryd.sizeOf22 (.plain rfl)) (.r (op_loadR Tryd.isAgg22 (.plain rfl) rfl rfl) (.n (fun _ => op_fieldAddrR Tryd.underlying62 rfl rfl Tryd.sizeOf27 (.plain rfl)) (.r (op_loadRA Tryd.isAgg27 Tryd.sizeOf27 (.plain rfl) rfl (by first | (simp; done) | exact Nat.le_of_ble_eq_true rfl) rfl) (.n (fun _ => op_slit1 (pp := [(0, _)]) (α := (ByteArray × Int × List Int × Unit)) (d := (ByteArray.empty, 0, [], ())) (f := (fun p => [.str p.1, .i p.2.1, .ints p.2.2.1])) (agP (allP text) j) ety22 rfl ⟨rfl, (.plain rfl), (by simp), trivial⟩ rfl (by decide)) (.e (op_append (id' := 66) (α := (ByteArray × Int × List Int × Unit)) (d := (ByteArray.empty, 0, [], ())) (f := (fun p => [.str p.1, .i p.2.1, .ints p.2.2.1])) ety22 Tryd.underlying22 (fun _ => rfl) (fun _ => rfl) (.plain rfl) rfl (.plain rfl) rfl ?_) rfl (.n (fun _ => op_fieldAddrR Tryd.underlying24 rfl rfl Tryd.sizeOf22 (.plain rfl)) (.e (op_storeR Tryd.sizeOf22 (.plain rfl) (.plain rfl) rfl (by first | decide | exact Nat.le_of_ble_eq_true rfl) rfl (by simp) (fun i h => by cases h; exact ⟨_, _, _, _, _, _, rfl⟩)) rfl (.nil _))))))))) ?_
          · have := sdP_len (allP text) false j
            simp only [List.length_cons, List.length_nil]
            omega
          refine awp_region rfl (.n (fun _ => op_add (.plain rfl) (.plain rfl) ?_) (.n (fun _ => op_move (.plain rfl)) (.nil _))) ?_
          · unfold InR; omega
          exact ⟨j + 1, ⟨by omega, firstE_succ hE2 h0⟩, by dsimp only; omega, (Ent.round 66 53 ⟨rfl, rfl, rfl, rfl, rfl, rfl, rfl, rfl, trivial⟩ ⟨rfl, rfl, (congrArg (fun l => some (Blk.arr 27 3 (ByteArray × Int × List Int × Unit) (ByteArray.empty, 0, [], ()) (fun p => [.str p.1, .i p.2.1, .ints p.2.2.1]) l)) (hl)), (congrArg (fun l => some (Blk.arr 27 3 (ByteArray × Int × List Int × Unit) (ByteArray.empty, 0, [], ()) (fun p => [.str p.1, .i p.2.1, .ints p.2.2.1]) l)) (hr)), trivial⟩ rfl rfl rfl ⟨rfl, rfl, rfl, rfl, rfl, rfl, rfl, rfl, trivial⟩ ⟨rfl, rfl, rfl, rfl, trivial⟩)⟩
    · skip
      have h44 := of_decide_eq_false h
      obtain rfl : j = (allP text).length := by omega
      refine awp_exit ?_
      refine awp_seq ?_
      refine awp_ent (Ent.giveB 2 0 52 rfl rfl rfl) ?_
      refine awp_ent (Ent.giveB 2 1 53 rfl rfl rfl) ?_
      refine awp_region rfl (.r (op_loadRA Tryd.isAgg24 Tryd.sizeOf24 (.plain rfl) rfl (by first | (simp; done) | exact Nat.le_of_ble_eq_true rfl) rfl) (.e (op_storeRA Tryd.sizeOf24 (.plain rfl) (.plain rfl) rfl rfl (Nat.le_of_ble_eq_true rfl) rfl) rfl (.e (op_storeR Tryd.sizeOf29 (.plain rfl) (.plain rfl) rfl (by first | decide | exact Nat.le_of_ble_eq_true rfl) rfl (by simp) (by simp)) rfl (.nil _)))) ?_
      refine awp_ret ?_
      show (QZ (parseE text) (.seq (ByteArray × Int × List Int × Unit) (ByteArray.empty, 0, [], ()) (fun p => [.str p.1, .i p.2.1, .ints p.2.2.1]) (parseL text)) (.seq (ByteArray × Int × List Int × Unit) (ByteArray.empty, 0, [], ()) (fun p => [.str p.1, .i p.2.1, .ints p.2.2.1]) (parseR text)) p2 p3) .ret _
      exact ⟨parseE_0 hE hE2, Ent.kept ⟨rfl, rfl, rfl, rfl, trivial⟩ ⟨rfl, rfl, trivial⟩⟩

end Go.Proofs.YtolmcapbpliaiaaDoor

