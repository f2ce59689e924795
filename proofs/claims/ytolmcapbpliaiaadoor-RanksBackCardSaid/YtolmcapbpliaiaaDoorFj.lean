/- Lines and words, as the document cuts them. Conditions: each theorem names its own. -/
import Derived.Test.YtolmcapbpliaiaaDoorProg
import Derived.Test.YtolmcapbpliaiaaDoorFi
namespace Go.Proofs.YtolmcapbpliaiaaDoor
open Go.Abs
set_option linter.unusedVariables false
set_option linter.unusedSimpArgs false

set_option linter.unusedVariables false

/-! ### The document's lines and words -/
def cutGo (c : UInt8) : List UInt8 → List UInt8 → List (List UInt8)
  | cur, [] => [cur]
  | cur, b :: r => if b = c then cur :: cutGo c [] r else cutGo c (cur ++ [b]) r
theorem cutGo_cut (c : UInt8) : ∀ (l cur h : List UInt8) (t : List (List UInt8)), cutB c l = h :: t → cutGo c cur l = (cur ++ h) :: t
  | [], cur, h, t, e => by
    simp only [cutB, List.cons.injEq] at e
    obtain ⟨rfl, rfl⟩ := e
    simp [cutGo]
  | b :: r, cur, h, t, e => by
    by_cases hb : b = c
    · simp only [cutB, if_pos hb, List.cons.injEq] at e
      obtain ⟨rfl, rfl⟩ := e
      rw [cutGo, if_pos hb, List.append_nil]
      cases e2 : cutB c r with
      | nil => exact absurd e2 (cutB_ne c r)
      | cons h2 t2 => rw [cutGo_cut c r [] h2 t2 e2]; rfl
    · cases e2 : cutB c r with
      | nil => exact absurd e2 (cutB_ne c r)
      | cons h2 t2 =>
        rw [cutB_cons_ne hb e2] at e
        simp only [List.cons.injEq] at e
        obtain ⟨rfl, rfl⟩ := e
        rw [cutGo, if_neg hb, cutGo_cut c r (cur ++ [b]) h2 t2 e2, List.append_assoc]
        rfl
theorem cutGo_nil (c : UInt8) (l : List UInt8) : cutGo c [] l = cutB c l := by
  cases e : cutB c l with
  | nil => exact absurd e (cutB_ne c l)
  | cons h t => rw [cutGo_cut c l [] h t e]; rfl
def ctI (t : ByteArray) : Nat → Nat
  | 0 => 0
  | i + 1 => if byteAt t i = 10 then i + 1 else ctI t i
def ctO (t : ByteArray) : Nat → List ByteArray
  | 0 => []
  | i + 1 => if byteAt t i = 10 then ctO t i ++ [t.extract (ctI t i) i] else ctO t i
theorem ctI_le (t : ByteArray) : ∀ i, ctI t i ≤ i
  | 0 => Nat.le_refl _
  | i + 1 => by
    have := ctI_le t i
    unfold ctI
    split <;> omega
theorem ctO_len (t : ByteArray) : ∀ i, (ctO t i).length ≤ i
  | 0 => Nat.le_refl _
  | i + 1 => by
    have := ctO_len t i
    unfold ctO
    split
    · simp; omega
    · omega
theorem byteAt_get (s : ByteArray) (i : Nat) : byteAt s i = ((s.get! i).toNat : Nat) := by
  unfold byteAt
  rw [Lib.getD_get!']
theorem byte_eq {s : ByteArray} {i : Nat} {c : UInt8} : byteAt s i = (c.toNat : Nat) ↔ s.get! i = c := by
  rw [byteAt_get]
  constructor
  · intro h; exact UInt8.toNat_inj.1 (by omega)
  · intro h; rw [h]
theorem piece_data (t : ByteArray) (a b : Nat) : (t.extract a b).data.toList = Lib.pieceU t.data.toList a b := by
  simp [Lib.pieceU, Lib.extract_data]
theorem piece_one (t : ByteArray) {a i : Nat} (ha : a ≤ i) (hi : i < t.size) : Lib.pieceU t.data.toList a i ++ [t.get! i] = Lib.pieceU t.data.toList a (i + 1) := by
  have := Lib.pieceU_grow t.data.toList a i 1 ha
  rw [← this, drop_get t hi]
  rfl
theorem ct_inv (t : ByteArray) : ∀ i, i ≤ t.size → (ctO t i).map (·.data.toList) ++ cutGo 10 (Lib.pieceU t.data.toList (ctI t i) i) (t.data.toList.drop i) = cutB 10 t.data.toList
  | 0, _ => by
    have e : Lib.pieceU t.data.toList 0 0 = [] := by simp [Lib.pieceU]
    rw [show ctI t 0 = 0 from rfl, e]
    simp [ctO, cutGo_nil]
  | i + 1, hi => by
    have ih := ct_inv t i (by omega)
    have hle := ctI_le t i
    rw [drop_get t (by omega), cutGo] at ih
    by_cases h : byteAt t i = 10
    · have hb : t.get! i = 10 := byte_eq.1 h
      rw [if_pos hb] at ih
      have e : Lib.pieceU t.data.toList (i + 1) (i + 1) = [] := by simp [Lib.pieceU]
      simp only [ctO, ctI, if_pos h]
      rw [e, List.map_append, List.append_assoc]
      simp only [List.map_cons, List.map_nil, piece_data, List.singleton_append]
      exact ih
    · have hb : ¬ t.get! i = 10 := fun e => h (byte_eq.2 e)
      rw [if_neg hb, piece_one t hle (by omega)] at ih
      simp only [ctO, ctI, if_neg h]
      exact ih
theorem ct_end (t : ByteArray) : ctO t t.size ++ [t.extract (ctI t t.size) t.size] = cutL t := by
  have h := ct_inv t t.size (Nat.le_refl _)
  have hd : t.data.toList.drop t.size = [] := List.drop_eq_nil_of_le (by rw [← Lib.size_eq]; exact Nat.le_refl _)
  rw [hd, cutGo] at h
  refine map_data_inj ?_
  rw [List.map_append, ← h]
  simp only [List.map_cons, List.map_nil, piece_data]
def blAt (s : ByteArray) (i : Nat) : Bool := decide ((i : Int) = (s.size : Nat)) || decide (byteAt s i = 32) || decide (byteAt s i = 9)
def woW (s : ByteArray) : Nat → ByteArray
  | 0 => ⟨#[]⟩
  | i + 1 => if blAt s i = true then ⟨#[]⟩ else woW s i ++ s.extract i (i + 1)
def woO (s : ByteArray) : Nat → List ByteArray
  | 0 => []
  | i + 1 => if blAt s i = true ∧ ¬ woW s i = ⟨#[]⟩ then woO s i ++ [woW s i] else woO s i
theorem woO_len (t : ByteArray) : ∀ i, (woO t i).length ≤ i
  | 0 => Nat.le_refl _
  | i + 1 => by
    have := woO_len t i
    unfold woO
    split
    · simp; omega
    · omega
theorem woW_size (s : ByteArray) : ∀ i, (woW s i).size ≤ i
  | 0 => Nat.le_refl _
  | i + 1 => by
    have := woW_size s i
    unfold woW
    split
    · exact Nat.zero_le _
    · rw [app_size]
      simp [ByteArray.size_extract]; omega
theorem emp_data {s : ByteArray} : s = ⟨#[]⟩ ↔ s.data.toList = [] := by
  constructor
  · rintro rfl; rfl
  · intro h; rw [← bs_data s, h]
theorem blAt_in {s : ByteArray} {i : Nat} (hi : i < s.size) : blAt s i = isBl (s.get! i) := by
  unfold blAt isBl
  have h0 : ¬ (i : Int) = (s.size : Nat) := by omega
  rw [decide_eq_false h0, Bool.false_or, Bool.eq_iff_iff]
  simp only [Bool.or_eq_true, decide_eq_true_eq, beq_iff_eq]
  exact or_congr (byte_eq (c := 32)) (byte_eq (c := 9))
theorem app_data (a b : ByteArray) : (a ++ b).data.toList = a.data.toList ++ b.data.toList := by simp
theorem wo_inv (s : ByteArray) : ∀ i, i ≤ s.size → (woO s i).map (·.data.toList) ++ wordsGo (woW s i).data.toList (s.data.toList.drop i) = wordsGo [] s.data.toList
  | 0, _ => by simp [woO, woW]
  | i + 1, hi => by
    have ih := wo_inv s i (by omega)
    rw [drop_get s (by omega), wordsGo] at ih
    have hb := blAt_in (s := s) (i := i) (by omega)
    by_cases h : isBl (s.get! i) = true
    · rw [if_pos h] at ih
      have h' : blAt s i = true := hb.trans h
      by_cases he : (woW s i).data.toList = []
      · rw [if_pos he] at ih
        have : ¬ (blAt s i = true ∧ ¬ woW s i = ⟨#[]⟩) := fun c => c.2 (emp_data.2 he)
        simp only [woO, woW, if_neg this, if_pos h']
        exact ih
      · rw [if_neg he] at ih
        have : blAt s i = true ∧ ¬ woW s i = ⟨#[]⟩ := ⟨h', fun c => he (emp_data.1 c)⟩
        simp only [woO, woW, if_pos this, if_pos h', List.map_append, List.map_cons, List.map_nil, List.append_assoc]
        exact ih
    · rw [if_neg h] at ih
      have h' : ¬ blAt s i = true := by rw [hb]; exact h
      have : ¬ (blAt s i = true ∧ ¬ woW s i = ⟨#[]⟩) := fun c => h' c.1
      have e1 : (s.extract i (i + 1)).data.toList = [s.get! i] := by
        rw [piece_data, ← piece_one s (Nat.le_refl i) (by omega)]
        simp [Lib.pieceU]
      simp only [woO, woW, if_neg this, if_neg h', app_data, e1]
      exact ih
theorem wo_end (s : ByteArray) : woO s (s.size + 1) = wordsL s := by
  have h := wo_inv s s.size (Nat.le_refl _)
  have hd : s.data.toList.drop s.size = [] := List.drop_eq_nil_of_le (by rw [← Lib.size_eq]; exact Nat.le_refl _)
  rw [hd, wordsGo] at h
  refine map_data_inj ?_
  rw [← h]
  have hb : blAt s s.size = true := by unfold blAt; simp
  by_cases he : (woW s s.size).data.toList = []
  · have : ¬ (blAt s s.size = true ∧ ¬ woW s s.size = ⟨#[]⟩) := fun c => c.2 (emp_data.2 he)
    simp only [woO, if_neg this, if_pos he, List.append_nil]
  · have : blAt s s.size = true ∧ ¬ woW s s.size = ⟨#[]⟩ := ⟨hb, fun c => he (emp_data.1 c)⟩
    simp only [woO, if_pos this, if_neg he, List.map_append, List.map_cons, List.map_nil]

set_option maxRecDepth 1000000 in
set_option maxHeartbeats 1000000 in
theorem cutAt_fc (t : ByteArray) (ht : t.size ≤ 20000) : FC Tryd.prog 30 [.str t, .int .u8 10] (.seq ByteArray ByteArray.empty (fun s => [.str s]) (cutL t)) := by
  refine FC.intro Tryd.func30 rfl (Nat.le_of_ble_eq_true rfl) fun hfit => ?_
  have fit0 := hfit _ (.head _)
  have fit1 := hfit _ (.tail _ (.head _))
  have hlen := fit0.str_len
  refine awp_seq ?_
  refine awp_region rfl (.n (fun _ => op_assign (.plain rfl)) (.nil _)) ?_
  refine awp_seq ?_
  refine awp_region rfl (.n (fun _ => op_assign (.plain rfl)) (.nil _)) ?_
  refine awp_seq ?_
  refine awp_region rfl (.n (fun _ => op_assign (.plain rfl)) (.nil _)) ?_
  refine awp_seq ?_
  refine awp_seq ?_
  refine awp_region rfl (.n (fun _ => op_assign (.plain rfl)) (.nil _)) ?_
  refine awp_block ?_
  refine awp_ent (Ent.begin 5 1005 9 1 ByteArray ByteArray.empty (fun s => [.str s]) rfl rfl rfl) ?_
  refine awp_loop (σ := Nat) (fun (i : Nat) => i ≤ t.size) (fun (i : Nat) => ⟨[(0, .pv (.str t)), (1, .pv (.int .u8 10)), (5, .own 1005), (6, .int (ctI t i : Nat)), (7, .int (i : Nat))], [(1005, .arr 9 1 ByteArray ByteArray.empty (fun s => [.str s]) (ctO t i))]⟩) (fun (i : Nat) => t.size - i) 0 ?_ (Ent.kept ⟨rfl, rfl, rfl, rfl, rfl, trivial⟩ ⟨rfl, trivial⟩) ?_
  · exact Nat.zero_le _
  rintro i hp
  try dsimp only at hp
  have hi := hp
  refine awp_seq ?_
  refine awp_seq ?_
  refine awp_region rfl (.n (fun _ => op_move (.plain rfl)) (.n (fun _ => op_move (.plain rfl)) (.n (fun _ => op_lenS Tryd.underlying9 (.plain rfl)) (.n (fun _ => op_lss (.plain rfl) (.plain rfl)) (.nil _))))) ?_
  refine awp_cond rfl (fun h => ?_) (fun h => ?_)
  · skip
    have h11 := of_decide_eq_true h
    refine awp_skip ?_
    refine awp_seq ?_
    refine awp_block ?_
    refine awp_seq ?_
    refine awp_region rfl (.n (fun _ => op_move (.plain rfl)) (.n (fun _ => op_move (.plain rfl)) (.n (fun _ => op_indexS Tryd.underlying9 (.plain rfl) (.plain rfl) ?_) (.n (fun _ => op_move (.plain rfl)) (.n (fun _ => op_eql (.plain rfl) (.plain rfl)) (.nil _)))))) ?_
    · omega
    refine awp_cond rfl (fun h => ?_) (fun h => ?_)
    · skip
      have h18 : byteAt t i = 10 := of_decide_eq_true h
      have hI : i + 1 = ctI t (i + 1) := (if_pos h18).symm
      have hO : ctO t i ++ [t.extract (ctI t i) i] = ctO t (i + 1) := (if_pos h18).symm
      refine awp_seq ?_
      refine awp_region rfl (.n (fun _ => op_move (.plain rfl)) (.n (fun _ => op_move (.plain rfl)) (.n (fun _ => op_move (.plain rfl)) (.n (fun _ => op_move (.plain rfl)) (.n (fun _ => op_sliceSB Tryd.underlying9 (.plain rfl) (.plain rfl) (.plain rfl) ?_) (.n (fun _ => op_slit (pp := [(0, _)]) (α := ByteArray) (d := ByteArray.empty) (f := (fun s => [.str s])) [_] ety49 rfl ⟨rfl, (.plain rfl), (by simp), trivial⟩ rfl (by decide) rfl) (.e (op_append (id' := 25) (α := ByteArray) (d := ByteArray.empty) (f := (fun s => [.str s])) ety49 Tryd.underlying49 (fun _ => rfl) (fun _ => rfl) (.plain rfl) rfl (.plain rfl) rfl ?_) rfl (.n (fun _ => op_assign (.plain rfl)) (.nil _))))))))) ?_
      · have := ctI_le t i
        exact ⟨by omega, by omega, by omega⟩
      · have := ctO_len t i
        simp only [List.length_cons, List.length_nil]
        omega
      refine awp_region rfl (.n (fun _ => op_move (.plain rfl)) (.n (fun _ => op_add (.plain rfl) (.plain rfl) ?_) (.n (fun _ => op_assign (.plain rfl)) (.nil _)))) ?_
      · unfold InR; omega
      refine awp_region rfl (.n (fun _ => op_move (.plain rfl)) (.n (fun _ => op_add (.plain rfl) (.plain rfl) ?_) (.n (fun _ => op_assign (.plain rfl)) (.nil _)))) ?_
      · unfold InR; omega
      exact ⟨i + 1, by omega, by dsimp only; omega, (Ent.round 25 1005 ⟨rfl, rfl, rfl, (congrArg (fun n : Nat => some (SV.int n)) (hI)), rfl, trivial⟩ ⟨(congrArg (fun l => some (Blk.arr 9 1 ByteArray ByteArray.empty (fun s => [.str s]) l)) (hO)), trivial⟩ rfl rfl rfl ⟨rfl, rfl, rfl, rfl, rfl, trivial⟩ ⟨rfl, trivial⟩)⟩
    · skip
      have h18 : ¬ byteAt t i = 10 := of_decide_eq_false h
      have hI : ctI t i = ctI t (i + 1) := (if_neg h18).symm
      have hO : ctO t i = ctO t (i + 1) := (if_neg h18).symm
      refine awp_skip ?_
      refine awp_region rfl (.n (fun _ => op_move (.plain rfl)) (.n (fun _ => op_add (.plain rfl) (.plain rfl) ?_) (.n (fun _ => op_assign (.plain rfl)) (.nil _)))) ?_
      · unfold InR; omega
      exact ⟨i + 1, by omega, by dsimp only; omega, (Ent.kept ⟨rfl, rfl, rfl, (congrArg (fun n : Nat => some (SV.int n)) (hI)), rfl, trivial⟩ ⟨(congrArg (fun l => some (Blk.arr 9 1 ByteArray ByteArray.empty (fun s => [.str s]) l)) (hO)), trivial⟩)⟩
  · skip
    have h11 := of_decide_eq_false h
    obtain rfl : i = t.size := by omega
    refine awp_exit ?_
    refine awp_seq ?_
    refine awp_region rfl (.n (fun _ => op_move (.plain rfl)) (.n (fun _ => op_move (.plain rfl)) (.n (fun _ => op_move (.plain rfl)) (.n (fun _ => op_sliceS Tryd.underlying9 (.plain rfl) (.plain rfl) ?_) (.n (fun _ => op_slit (pp := [(0, _)]) (α := ByteArray) (d := ByteArray.empty) (f := (fun s => [.str s])) [_] ety49 rfl ⟨rfl, (.plain rfl), (by simp), trivial⟩ rfl (by decide) rfl) (.e (op_append (id' := 33) (α := ByteArray) (d := ByteArray.empty) (f := (fun s => [.str s])) ety49 Tryd.underlying49 (fun _ => rfl) (fun _ => rfl) (.plain rfl) rfl (.plain rfl) rfl ?_) rfl (.n (fun _ => op_assign (.plain rfl)) (.nil _)))))))) ?_
    · have := ctI_le t t.size
      exact ⟨by omega, by omega⟩
    · have := ctO_len t t.size
      simp only [List.length_cons, List.length_nil]
      omega
    refine awp_ent (Ent.give 4 rfl rfl) ?_
    refine awp_ret ?_
    refine retQ.ret ?_
    refine ret1 rfl rfl rfl ?_
    exact congrArg (fun l => PV.seq ByteArray ByteArray.empty (fun s => [.str s]) l) (ct_end t)

set_option maxRecDepth 1000000 in
set_option maxHeartbeats 1000000 in
theorem wordsOf_fc (s : ByteArray) (ht : s.size ≤ 20000) : FC Tryd.prog 31 [.str s] (.seq ByteArray ByteArray.empty (fun s => [.str s]) (wordsL s)) := by
  refine FC.intro Tryd.func31 rfl (Nat.le_of_ble_eq_true rfl) fun hfit => ?_
  have fit0 := hfit _ (.head _)
  have hlen := fit0.str_len
  refine awp_seq ?_
  refine awp_region rfl (.n (fun _ => op_assign (.plain rfl)) (.nil _)) ?_
  refine awp_seq ?_
  refine awp_region rfl (.n (fun _ => op_assign (.plain rfl)) (.nil _)) ?_
  refine awp_seq ?_
  refine awp_region rfl (.n (fun _ => op_assign (.plain rfl)) (.nil _)) ?_
  refine awp_seq ?_
  refine awp_seq ?_
  refine awp_region rfl (.n (fun _ => op_assign (.plain rfl)) (.nil _)) ?_
  refine awp_block ?_
  refine awp_ent (Ent.begin 3 1003 9 1 ByteArray ByteArray.empty (fun s => [.str s]) rfl rfl rfl) ?_
  refine awp_loop (σ := Nat) (fun (i : Nat) => i ≤ s.size + 1) (fun (i : Nat) => ⟨[(0, .pv (.str s)), (3, .own 1003), (4, .pv (.str (woW s i))), (5, .int (i : Nat))], [(1003, .arr 9 1 ByteArray ByteArray.empty (fun s => [.str s]) (woO s i))]⟩) (fun (i : Nat) => s.size + 1 - i) 0 ?_ (Ent.kept ⟨rfl, rfl, rfl, rfl, trivial⟩ ⟨rfl, trivial⟩) ?_
  · exact Nat.zero_le _
  rintro i hp
  try dsimp only at hp
  have hi := hp
  refine awp_seq ?_
  refine awp_seq ?_
  refine awp_region rfl (.n (fun _ => op_move (.plain rfl)) (.n (fun _ => op_move (.plain rfl)) (.n (fun _ => op_lenS Tryd.underlying9 (.plain rfl)) (.n (fun _ => op_leq (.plain rfl) (.plain rfl)) (.nil _))))) ?_
  refine awp_cond rfl (fun h => ?_) (fun h => ?_)
  · skip
    have h9 := of_decide_eq_true h
    refine awp_skip ?_
    refine awp_seq ?_
    refine awp_block ?_
    refine awp_seq ?_
    refine awp_region rfl (.n (fun _ => op_move (.plain rfl)) (.n (fun _ => op_move (.plain rfl)) (.n (fun _ => op_lenS Tryd.underlying9 (.plain rfl)) (.n (fun _ => op_eql (.plain rfl) (.plain rfl)) (.n (fun _ => op_move (.plain rfl)) (.gn rfl rfl (fun hg _ => op_move (.plain rfl)) (.gn rfl rfl (fun hg _ => op_move (.plain rfl)) (.gn rfl rfl (fun hg _ => op_indexS Tryd.underlying9 (.opt rfl fun h => h) (.opt rfl fun h => h) ?_) (.gn rfl rfl (fun hg _ => op_eql (.opt rfl fun h => h) (.plain rfl)) (.n (fun _ => op_or (.plain rfl) (.plain rfl) (.plain rfl) (fun h => eqF h)) (.n (fun _ => op_move (.plain rfl)) (.gn rfl rfl (fun hg _ => op_move (.plain rfl)) (.gn rfl rfl (fun hg _ => op_move (.plain rfl)) (.gn rfl rfl (fun hg _ => op_indexS Tryd.underlying9 (.opt rfl fun h => h) (.opt rfl fun h => h) ?_) (.gn rfl rfl (fun hg _ => op_eql (.opt rfl fun h => h) (.plain rfl)) (.n (fun _ => op_or (.plain rfl) (.plain rfl) (.plain rfl) (fun h => eqF h)) (.nil _))))))))))))))))) ?_
    · try simp only [beq_iff_eq, beq_true, beq_false, Bool.and_eq_true, decide_eq_true_eq, decide_eq_false_iff_not, Bool.not_eq_true', Bool.or_eq_true, Bool.or_eq_false_iff] at hg
      have := hg
      omega
    · try simp only [beq_iff_eq, beq_true, beq_false, Bool.and_eq_true, decide_eq_true_eq, decide_eq_false_iff_not, Bool.not_eq_true', Bool.or_eq_true, Bool.or_eq_false_iff] at hg
      have := hg
      omega
    refine awp_cond rfl (fun h => ?_) (fun h => ?_)
    · skip
      have h27 : blAt s i = true := h
      have hW : (⟨#[]⟩ : ByteArray) = woW s (i + 1) := (if_pos h27).symm
      refine awp_seq ?_
      refine awp_seq ?_
      refine awp_region rfl (.n (fun _ => op_move (.plain rfl)) (.n (fun _ => op_str_neq Tryd.underlying9 (.plain rfl) (.plain rfl)) (.nil _))) ?_
      refine awp_cond rfl (fun h => ?_) (fun h => ?_)
      · skip
        have h29 : ¬ woW s i = ⟨#[]⟩ := by simpa using h
        have hO : woO s i ++ [woW s i] = woO s (i + 1) := (if_pos ⟨h27, h29⟩).symm
        refine awp_region rfl (.n (fun _ => op_move (.plain rfl)) (.n (fun _ => op_move (.plain rfl)) (.n (fun _ => op_slit (pp := [(0, _)]) (α := ByteArray) (d := ByteArray.empty) (f := (fun s => [.str s])) [_] ety49 rfl ⟨rfl, (.plain rfl), (by simp), trivial⟩ rfl (by decide) rfl) (.e (op_append (id' := 33) (α := ByteArray) (d := ByteArray.empty) (f := (fun s => [.str s])) ety49 Tryd.underlying49 (fun _ => rfl) (fun _ => rfl) (.plain rfl) rfl (.plain rfl) rfl ?_) rfl (.n (fun _ => op_assign (.plain rfl)) (.nil _)))))) ?_
        · have := woO_len s i
          simp only [List.length_cons, List.length_nil]
          omega
        refine awp_region rfl (.n (fun _ => op_assign (.plain rfl)) (.nil _)) ?_
        refine awp_region rfl (.n (fun _ => op_move (.plain rfl)) (.n (fun _ => op_add (.plain rfl) (.plain rfl) ?_) (.n (fun _ => op_assign (.plain rfl)) (.nil _)))) ?_
        · unfold InR; omega
        exact ⟨i + 1, by omega, by dsimp only; omega, (Ent.round 33 1003 ⟨rfl, rfl, (congrArg (fun s => some (SV.pv (PV.str s))) (hW)), rfl, trivial⟩ ⟨(congrArg (fun l => some (Blk.arr 9 1 ByteArray ByteArray.empty (fun s => [.str s]) l)) (hO)), trivial⟩ rfl rfl rfl ⟨rfl, rfl, rfl, rfl, trivial⟩ ⟨rfl, trivial⟩)⟩
      · skip
        have h29 : woW s i = ⟨#[]⟩ := by simpa using h
        have hO : woO s i = woO s (i + 1) := (if_neg (fun c => c.2 h29)).symm
        refine awp_skip ?_
        refine awp_region rfl (.n (fun _ => op_assign (.plain rfl)) (.nil _)) ?_
        refine awp_region rfl (.n (fun _ => op_move (.plain rfl)) (.n (fun _ => op_add (.plain rfl) (.plain rfl) ?_) (.n (fun _ => op_assign (.plain rfl)) (.nil _)))) ?_
        · unfold InR; omega
        exact ⟨i + 1, by omega, by dsimp only; omega, (Ent.kept ⟨rfl, rfl, (congrArg (fun s => some (SV.pv (PV.str s))) (hW)), rfl, trivial⟩ ⟨(congrArg (fun l => some (Blk.arr 9 1 ByteArray ByteArray.empty (fun s => [.str s]) l)) (hO)), trivial⟩)⟩
    · skip
      have h27 : ¬ blAt s i = true := by rw [show blAt s i = false from h]; decide
      have hlt : i < s.size := by
        rcases Nat.lt_or_ge i s.size with c | c
        · exact c
        · exact absurd (by unfold blAt; simp; omega) h27
      have hW : woW s i ++ s.extract i (i + 1) = woW s (i + 1) := (if_neg h27).symm
      have hO : woO s i = woO s (i + 1) := (if_neg (fun c => h27 c.1)).symm
      refine awp_region rfl (.n (fun _ => op_move (.plain rfl)) (.n (fun _ => op_move (.plain rfl)) (.n (fun _ => op_move (.plain rfl)) (.n (fun _ => op_move (.plain rfl)) (.n (fun _ => op_add (.plain rfl) (.plain rfl) ?_) (.n (fun _ => op_sliceSB Tryd.underlying9 (.plain rfl) (.plain rfl) (.plain rfl) ?_) (.n (fun _ => op_addS (.plain rfl) (.plain rfl) ?_) (.n (fun _ => op_assign (.plain rfl)) (.nil _))))))))) ?_
      · unfold InR; omega
      · exact ⟨by omega, by omega, by omega⟩
      · have := woW_size s i
        simp only [ByteArray.size_extract]
        omega
      refine awp_region rfl (.n (fun _ => op_move (.plain rfl)) (.n (fun _ => op_add (.plain rfl) (.plain rfl) ?_) (.n (fun _ => op_assign (.plain rfl)) (.nil _)))) ?_
      · unfold InR; omega
      exact ⟨i + 1, by omega, by dsimp only; omega, (Ent.kept ⟨rfl, rfl, (congrArg (fun s => some (SV.pv (PV.str s))) (hW)), rfl, trivial⟩ ⟨(congrArg (fun l => some (Blk.arr 9 1 ByteArray ByteArray.empty (fun s => [.str s]) l)) (hO)), trivial⟩)⟩
  · skip
    have h9 := of_decide_eq_false h
    obtain rfl : i = s.size + 1 := by omega
    refine awp_exit ?_
    refine awp_seq ?_
    refine awp_region rfl (.n (fun _ => op_move (.plain rfl)) (.n (fun _ => op_assign (.plain rfl)) (.nil _))) ?_
    refine awp_ent (Ent.give 2 rfl rfl) ?_
    refine awp_ret ?_
    refine retQ.ret ?_
    refine ret1 rfl rfl rfl ?_
    exact congrArg (fun l => PV.seq ByteArray ByteArray.empty (fun s => [.str s]) l) (wo_end s)

end Go.Proofs.YtolmcapbpliaiaaDoor

