/- What is written of two sides: by both ways. Conditions: each theorem names its own. -/
import Derived.Test.YtolmcapbpliaiaaDoorProg
import Derived.Test.YtolmcapbpliaiaaDoorFc
import Derived.Test.YtolmcapbpliaiaaDoorSBF
import Derived.Test.YtolmcapbpliaiaaDoorAbsY
namespace Go.Proofs.YtolmcapbpliaiaaDoor
open Go.Abs
set_option linter.unusedVariables false
set_option linter.unusedSimpArgs false

/-! ### Two sides that may be -/
structure POk (L R : List Ag) : Prop where
  small : L.length ≤ 6 ∧ R.length ≤ 6
  nm : ∀ k, k < 2 → ∀ j, j < (sdF L R k).length → namedF (nmF (sdF L R k) j) = true
  un : ∀ k, k < 2 → ∀ j, j < (sdF L R k).length → ¬ 0 ≤ txtF (namesF L R (bsF L R k + j)) (nmF (sdF L R k) j)
  rm : ∀ k, k < 2 → ∀ j, j < (sdF L R k).length → 1 ≤ rmF (sdF L R k) j ∧ rmF (sdF L R k) j ≤ 4
  lk : ∀ k, k < 2 → ∀ j, j < (sdF L R k).length → ∀ q, q < (lkF (sdF L R k) j).length → 0 ≤ (lkF (sdF L R k) j).getD q 0 ∧ (lkF (sdF L R k) j).getD q 0 < ((otF L R k).length : Nat) ∧ ¬ placeF (lkF (sdF L R k) j) ((lkF (sdF L R k) j).getD q 0) < (q : Nat)
theorem pok {L R : List Ag} (h : rMayE L R = 0) : POk L R := by
  unfold rMayE at h
  split at h
  · omega
  · rename_i h2
    have hz := firstE_zero h
    have side : ∀ k, k < 2 → ∀ j, j < (sdF L R k).length → namedF (nmF (sdF L R k) j) = true ∧ ¬ 0 ≤ txtF (namesF L R (bsF L R k + j)) (nmF (sdF L R k) j) ∧ (1 ≤ rmF (sdF L R k) j ∧ rmF (sdF L R k) j ≤ 4) ∧ someE ((otF L R k).length : Nat) (lkF (sdF L R k) j) = 0 := fun k hk j hj => by
      have := hz _ (sd_at hk hj).2.2
      rw [sideE_sd hk hj] at this
      unfold agE at this
      split at this
      · omega
      · rename_i a1
        split at this
        · omega
        · rename_i a2
          split at this
          · omega
          · exact ⟨by simpa using a1, a2, by omega, this⟩
    refine ⟨by omega, fun k hk j hj => (side k hk j hj).1, fun k hk j hj => (side k hk j hj).2.1, fun k hk j hj => (side k hk j hj).2.2.1, fun k hk j hj q hq => ?_⟩
    have h1 := firstE_zero (side k hk j hj).2.2.2 q hq
    unfold someB at h1
    split at h1
    · omega
    · split at h1
      · omega
      · exact ⟨by omega, by omega, by omega⟩
theorem nodup_lenI : ∀ (n : Nat) (l : List Int), l.Nodup → (∀ k, k ∈ l → 0 ≤ k ∧ k < (n : Int)) → l.length ≤ n
  | 0, l, _, h => by
    cases l with
    | nil => simp
    | cons a l => have := h a List.mem_cons_self; omega
  | n + 1, l, hn, hr => by
    have := nodup_lenI n (l.erase (n : Int)) (hn.erase _) fun k hk => by
      have h1 := hr k (List.mem_of_mem_erase hk)
      have h2 := (hn.mem_erase_iff.1 hk).1
      omega
    rw [List.length_erase] at this
    split at this <;> omega
theorem place_le {l : List Int} {k : Nat} (hk : k < l.length) : placeF l (l.getD k 0) ≤ (k : Nat) := by
  unfold placeF
  cases e : firstI (fun i => decide (l.getD i 0 = l.getD k 0)) l.length with
  | none => simp only; omega
  | some i =>
    have h := firstI_spec e
    simp only
    rcases Nat.lt_or_ge k i with c | c
    · have := h.2.2 k c; simp at this
    · omega
theorem POk.nd {L R : List Ag} (h : POk L R) {k : Nat} (hk : k < 2) {j : Nat} (hj : j < (sdF L R k).length) : (lkF (sdF L R k) j).Nodup := by
  refine List.pairwise_iff_getElem.2 fun a b ha hb hab e => ?_
  have h1 := (h.lk k hk j hj b hb).2.2
  have h2 := place_le ha
  rw [List.getD_eq_getElem?_getD, List.getElem?_eq_getElem hb, Option.getD_some, ← e] at h1
  rw [List.getD_eq_getElem?_getD, List.getElem?_eq_getElem ha, Option.getD_some] at h2
  omega
theorem POk.ot {L R : List Ag} (h : POk L R) {k : Nat} (hk : k < 2) : (otF L R k).length ≤ 6 ∧ (sdF L R k).length ≤ 6 := by
  have := h.small
  rcases (show k = 0 ∨ k = 1 by omega) with rfl | rfl
  · exact ⟨this.2, this.1⟩
  · exact ⟨this.1, this.2⟩
theorem POk.lk6 {L R : List Ag} (h : POk L R) {k : Nat} (hk : k < 2) {j : Nat} (hj : j < (sdF L R k).length) : (lkF (sdF L R k) j).length ≤ 6 := by
  have h1 := nodup_lenI (otF L R k).length _ (h.nd hk hj) fun x hx => by
    obtain ⟨q, hq, rfl⟩ := List.getElem_of_mem hx
    have := h.lk k hk j hj q hq
    rw [List.getD_eq_getElem?_getD, List.getElem?_eq_getElem hq, Option.getD_some] at this
    exact ⟨this.1, this.2.1⟩
  have := (h.ot hk).1
  omega
theorem named_size {s : ByteArray} (h : namedF s = true) : 1 ≤ s.size ∧ s.size ≤ 12 := by
  unfold namedF noB at h
  simp only [Bool.and_eq_true, Bool.not_eq_true', Bool.or_eq_false_iff, decide_eq_false_iff_not] at h
  have := size_pos h.1.1.1.1
  omega
theorem ot_sd {L R : List Ag} {k : Nat} (hk : k < 2) : otF L R k = sdF L R (1 - k) := by
  rcases (show k = 0 ∨ k = 1 by omega) with rfl | rfl <;> rfl
theorem POk.otn {L R : List Ag} (h : POk L R) {k : Nat} (hk : k < 2) {i : Nat} (hi : i < (otF L R k).length) : (nmF (otF L R k) i).size ≤ 12 := by
  rw [ot_sd hk] at hi ⊢
  exact (named_size (h.nm (1 - k) (by omega) i hi)).2
/-! ### What is written -/
abbrev bL (s : ByteArray) : List UInt8 := s.data.toList
theorem bL_app (a b : ByteArray) : bL (a ++ b) = bL a ++ bL b := by simp [bL]
theorem bL_inj {a b : ByteArray} (h : bL a = bL b) : a = b := by
  cases a; cases b
  simp only [bL] at h
  congr 1
  exact Array.toList_inj.1 h
theorem bL_len (a : ByteArray) : (bL a).length = a.size := by rw [Array.length_toList]; rfl
theorem of_bL (a : ByteArray) : (⟨(bL a).toArray⟩ : ByteArray) = a := by cases a; simp [bL]
def sSp : ByteArray := ⟨#[32]⟩
def sNl : ByteArray := ⟨#[10]⟩
def sCo : ByteArray := ⟨#[32, 58]⟩
def sLe : ByteArray := ⟨#[108, 101, 102, 116, 32]⟩
def sRi : ByteArray := ⟨#[114, 105, 103, 104, 116, 32]⟩
def roomS (rm : Int) : ByteArray := if rm = 1 then ⟨#[]⟩ else sSp ++ byteS (48 + rm)
def lkS (O : List Ag) (lk : List Int) (s : ByteArray) : Nat → ByteArray
  | 0 => s
  | k + 1 => (lkS O lk s k ++ sSp) ++ nmF O (lk.getD k 0).toNat
def sideT (O : List Ag) (rm : Int) (lk : List Int) : ByteArray := lkS O lk (roomS rm ++ sCo) lk.length ++ sNl
def prS (pre : ByteArray) (S O : List Ag) (s : ByteArray) : Nat → ByteArray
  | 0 => s
  | k + 1 => ((prS pre S O s k ++ pre) ++ nmF S k) ++ sideT O (rmF S k) (lkF S k)
def preS (k : Nat) : ByteArray := if k = 0 then sLe else sRi
def accS (L R : List Ag) : Nat → ByteArray
  | 0 => ⟨#[]⟩
  | k + 1 => prS (preS k) (sdF L R k) (otF L R k) (accS L R k) (sdF L R k).length
def printS (L R : List Ag) : ByteArray := accS L R 2
theorem app_size (a b : ByteArray) : (a ++ b).size = a.size + b.size := ByteArray.size_append
theorem room_size (rm : Int) : (roomS rm).size ≤ 2 := by
  unfold roomS
  split
  · exact Nat.zero_le _
  · rw [app_size]; exact Nat.le_refl 2
theorem lkS_size {O : List Ag} {lk : List Int} {s : ByteArray} (h : ∀ q, q < lk.length → (nmF O (lk.getD q 0).toNat).size ≤ 12) : ∀ k, k ≤ lk.length → (lkS O lk s k).size ≤ s.size + 13 * k
  | 0, _ => Nat.le_refl _
  | k + 1, hk => by
    have := lkS_size (s := s) h k (by omega)
    have := h k (by omega)
    simp only [lkS, app_size]
    have : sSp.size = 1 := rfl
    omega
theorem sideT_size {L R : List Ag} (h : POk L R) {k : Nat} (hk : k < 2) {j : Nat} (hj : j < (sdF L R k).length) : (sideT (otF L R k) (rmF (sdF L R k) j) (lkF (sdF L R k) j)).size ≤ 83 := by
  have h1 := h.lk6 hk hj
  have h2 := lkS_size (O := otF L R k) (lk := lkF (sdF L R k) j) (s := roomS (rmF (sdF L R k) j) ++ sCo) (fun q hq => by
    have := h.lk k hk j hj q hq
    exact h.otn hk (by omega)) _ (Nat.le_refl _)
  have h3 := room_size (rmF (sdF L R k) j)
  unfold sideT
  rw [app_size]
  rw [app_size] at h2
  have : sCo.size = 2 := rfl
  have : sNl.size = 1 := rfl
  omega
theorem pre_size (k : Nat) : (preS k).size ≤ 6 := by unfold preS; split <;> decide
theorem prS_size {L R : List Ag} (h : POk L R) {k : Nat} (hk : k < 2) {s : ByteArray} : ∀ j, j ≤ (sdF L R k).length → (prS (preS k) (sdF L R k) (otF L R k) s j).size ≤ s.size + 101 * j
  | 0, _ => Nat.le_refl _
  | j + 1, hj => by
    have h1 := prS_size h hk (s := s) j (by omega)
    have h2 := sideT_size h hk (show j < _ by omega)
    have h3 := pre_size k
    have h4 := (named_size (h.nm k hk j (by omega))).2
    simp only [prS, app_size]
    omega
theorem acc_size {L R : List Ag} (h : POk L R) : ∀ k, k ≤ 2 → (accS L R k).size ≤ 606 * k
  | 0, _ => Nat.le_refl _
  | k + 1, hk => by
    have h1 := acc_size h k (by omega)
    have h2 := prS_size h (show k < 2 by omega) (s := accS L R k) _ (Nat.le_refl _)
    have h3 := (h.ot (show k < 2 by omega)).2
    simp only [accS]
    omega
theorem prS_acc {L R : List Ag} (h : POk L R) {k : Nat} (hk : k < 2) {j : Nat} (hj : j ≤ (sdF L R k).length) : (prS (preS k) (sdF L R k) (otF L R k) (accS L R k) j).size ≤ 1212 := by
  have h1 := acc_size h k (by omega)
  have h2 := prS_size h hk (s := accS L R k) j hj
  have h3 := (h.ot hk).2
  omega
theorem dig_ex : ∀ n : Nat, n < 10 → (⟨#[48, 49, 50, 51, 52, 53, 54, 55, 56, 57, 97, 98, 99, 100, 101, 102, 103, 104, 105, 106, 107, 108, 109, 110, 111, 112, 113, 114, 115, 116, 117, 118, 119, 120, 121, 122]⟩ : ByteArray).extract n (n + 1) = byteS (48 + (n : Int)) := by decide +kernel
theorem dig_exI {x : Int} (h : 0 ≤ x ∧ x < 10) : (⟨#[48, 49, 50, 51, 52, 53, 54, 55, 56, 57, 97, 98, 99, 100, 101, 102, 103, 104, 105, 106, 107, 108, 109, 110, 111, 112, 113, 114, 115, 116, 117, 118, 119, 120, 121, 122]⟩ : ByteArray).extract x.toNat (x + 1).toNat = byteS (48 + x) := by
  have := dig_ex x.toNat (by omega)
  rw [show ((x.toNat : Nat) : Int) = x by omega] at this
  rw [show (x + 1).toNat = x.toNat + 1 by omega]; exact this
theorem room_1 {rm : Int} (h : rm = 1) : roomS rm = ⟨#[]⟩ := if_pos h
theorem room_t {rm : Int} (h : ¬ rm = 1) (h0 : 0 ≤ rm) : roomS rm = sSp ++ byteS (48 + ((rm.toNat : Nat) : Int)) := by
  unfold roomS
  rw [if_neg h, show ((rm.toNat : Nat) : Int) = rm by omega]
theorem POk.side {L R : List Ag} (h : POk L R) {k : Nat} (hk : k < 2) {j : Nat} (hj : j < (sdF L R k).length) : ∀ q, q < (lkF (sdF L R k) j).length → 0 ≤ (lkF (sdF L R k) j).getD q 0 ∧ (lkF (sdF L R k) j).getD q 0 < ((otF L R k).length : Nat) ∧ (nmF (otF L R k) ((lkF (sdF L R k) j).getD q 0).toNat).size ≤ 12 := fun q hq => by
  have := h.lk k hk j hj q hq
  exact ⟨this.1, this.2.1, h.otn hk (by omega)⟩
/-- What is written of one, behind what was there: its first words. -/
def headS (S : List Ag) (k j : Nat) (s : ByteArray) : ByteArray := (s ++ preS k) ++ nmF S j
theorem prS_next {S O : List Ag} {k j : Nat} {s : ByteArray} : prS (preS k) S O s (j + 1) = headS S k j (prS (preS k) S O s j) ++ (lkS O (lkF S j) (roomS (rmF S j) ++ sCo) (lkF S j).length ++ sNl) := rfl
theorem bits_pre {k : Nat} (hk : k < 2) : ([(⟨#[108, 101, 102, 116, 32]⟩ : ByteArray), ⟨#[114, 105, 103, 104, 116, 32]⟩].getD k ByteArray.empty) = preS k := by
  rcases (show k = 0 ∨ k = 1 by omega) with rfl | rfl <;> rfl
theorem put_head {S : List Ag} {k j : Nat} {s : ByteArray} (hk : k < 2) (X Y : List UInt8) (hX : Y = X) : X ++ bL (preS k ++ nmF S j) = Y ++ bL (preS k ++ nmF S j) := by rw [hX]

set_option maxRecDepth 1000000 in
set_option maxHeartbeats 1000000 in
theorem WriteString_fch (l : List UInt8) (s : ByteArray) (hs : l.length + s.size ≤ 140737488355328) : FCH Tryd.prog 16 [.ref 40 0, .pv (.str s)] [(40, .tbox 43 [.nilOr 40, .own 41]), (41, .arr 5 1 UInt8 0 byteC l)] [(40, .tbox 43 [.nilOr 40, .own 41]), (41, .arr 5 1 UInt8 0 byteC (l ++ s.data.toList))] (.pv (.tup [.i (s.size : Nat), .val .nilIface])) (some 41) := by
  refine FCH.intro Tryd.func16 rfl (Nat.le_of_ble_eq_true rfl) (Nat.le_of_ble_eq_true rfl) fun hfit ι0 => ?_
  change awp _ _ _ _ ⟨[(0, .ref 40 0), (1, .pv (.str s)), (1000040, .pin 40 (ι0 40)), (1000041, .pin 41 (ι0 41))], [(40, .tbox 43 [.nilOr 40, .own 41]), (41, .arr 5 1 UInt8 0 byteC l)]⟩
  have fit1 := hfit _ (.tail _ (.head _))
  refine awp_seq ?_
  refine awp_region rfl (.n (fun _ => op_assign (.plain rfl)) (.n (fun _ => op_assign (.plain rfl)) (.nil _))) ?_
  refine awp_seq ?_
  refine awp_region rfl (.n (fun _ => op_move (.plain rfl)) (.r (op_callHR (fun k => [0, 0, 0, 0, 0, 0, 0, 0, 0, 0, 0, 0, 0, 0, 0, 0, 0, 0, 0, 0, 0, 0, 0, 0, 0, 0, 0, 0, 0, 0, 0, 0, 0, 0, 0, 0, 0, 0, 0, 0, 40, 41].getD k 0) Tryd.call35 (copyCheck_fch _) ⟨(.plain rfl), trivial⟩ ⟨rfl, rfl, trivial⟩ (by kernel_rfl)) (.nil _))) ?_
  refine awp_seq ?_
  refine awp_region rfl (.n (fun _ => op_move (.plain rfl)) (.n (fun _ => op_move (.plain rfl)) (.n (fun _ => op_nilCheckR (.plain rfl)) (.n (fun _ => op_fieldAddrR Tryd.underlying43 rfl rfl Tryd.sizeOf41 (.plain rfl)) (.r (op_loadT Tryd.isAgg41 (.plain rfl) rfl rfl) (.n (fun _ => op_move (.plain rfl)) (.e (op_appendStr (id' := 14) ety41 Tryd.underlying9 (.plain rfl) rfl (.plain rfl) rfl ?_) rfl (.n (fun _ => op_nilCheckR (.plain rfl)) (.n (fun _ => op_fieldAddrR Tryd.underlying43 rfl rfl Tryd.sizeOf41 (.plain rfl)) (.e (op_storeT Tryd.sizeOf41 (.plain rfl) (.plain rfl) rfl (by first | decide | exact Nat.le_of_ble_eq_true rfl) rfl (by simp) (fun i h => by cases h; exact ⟨_, _, _, _, _, _, rfl⟩)) rfl (.nil _))))))))))) ?_
  · omega
  refine awp_seq ?_
  refine awp_region rfl (.n (fun _ => op_move (.plain rfl)) (.n (fun _ => op_lenS Tryd.underlying9 (.plain rfl)) (.n (fun _ => op_assign (.plain rfl)) (.n (fun _ => op_assign (.plain rfl)) (.nil _))))) ?_
  refine awp_ent (show Ent _ ⟨[(4, .int (s.size : Nat)), (5, .pv (.val .nilIface)), (1000040, .pin 40 (ι0 40))], [(40, .tbox 43 [.nilOr 40, .own 41]), (41, .arr 5 1 UInt8 0 byteC (l ++ s.data.toList))]⟩ from Ent.round 14 41 ⟨rfl, rfl, rfl, trivial⟩ ⟨rfl, rfl, trivial⟩ rfl rfl rfl ⟨rfl, rfl, rfl, trivial⟩ ⟨rfl, rfl, trivial⟩) ?_
  refine awp_ret ?_
  refine retH.ret ?_
  refine retH2 rfl rfl rfl ⟨rfl, rfl, trivial⟩ ⟨.inr rfl, .inl rfl, trivial⟩ ?_
  rfl

set_option maxRecDepth 1000000 in
set_option maxHeartbeats 1000000 in
theorem small_fc (x : Int) (hx : 0 ≤ x ∧ x < 10) : FC Tryd.prog 60 [.i x] (.str (byteS (48 + x))) := by
  refine FC.intro Tryd.func60 rfl (Nat.le_of_ble_eq_true rfl) fun hfit => ?_
  have fit0 : -9223372036854775808 ≤ (x : Int) ∧ (x : Int) ≤ 9223372036854775807 := (hfit _ (.head _)).int64
  refine awp_seq ?_
  refine awp_region rfl (.n (fun _ => op_assign (.plain rfl)) (.nil _)) ?_
  refine awp_seq ?_
  refine awp_seq ?_
  refine awp_region rfl (.n (fun _ => op_move (.plain rfl)) (.n (fun _ => op_lss (.plain rfl) (.plain rfl)) (.nil _))) ?_
  refine awp_cond rfl (fun h => ?_) (fun h => ?_)
  · try simp only [decide_eq_true_eq, decide_eq_false_iff_not, Bool.and_eq_true, Bool.or_eq_true, Bool.and_eq_false_iff, Bool.or_eq_false_iff, Bool.not_eq_true', Bool.not_eq_false', Bool.not_eq_true, Bool.not_eq_false, Bool.true_eq_false, Bool.false_eq_true] at h
    refine awp_seq ?_
    refine awp_region rfl (.n (fun _ => op_move (.plain rfl)) (.n (fun _ => op_move (.plain rfl)) (.n (fun _ => op_add (.plain rfl) (.plain rfl) ?_) (.n (fun _ => op_sliceSB Tryd.underlying9 (.plain rfl) (.plain rfl) (.plain rfl) ?_) (.n (fun _ => op_assign (.plain rfl)) (.nil _)))))) ?_
    · unfold InR; omega
    · refine ⟨hx.1, by omega, ?_⟩
      show x + 1 ≤ ((36 : Nat) : Int)
      omega
    refine awp_ret ?_
    refine retQ.ret ?_
    refine ret1 rfl rfl rfl ?_
    exact congrArg PV.str (dig_exI hx)
  · exfalso; first | omega | (simp at h; omega)

set_option maxRecDepth 1000000 in
set_option maxHeartbeats 1000000 in
theorem FormatInt_fc (x : Int) (hx : 0 ≤ x ∧ x < 10) : FC Tryd.prog 48 [.i x, .i 10] (.str (byteS (48 + x))) := by
  refine FC.intro Tryd.func48 rfl (Nat.le_of_ble_eq_true rfl) fun hfit => ?_
  have fit0 : -9223372036854775808 ≤ (x : Int) ∧ (x : Int) ≤ 9223372036854775807 := (hfit _ (.head _)).int64
  have fit1 : -9223372036854775808 ≤ (10 : Int) ∧ (10 : Int) ≤ 9223372036854775807 := (hfit _ (.tail _ (.head _))).int64
  refine awp_seq ?_
  refine awp_region rfl (.n (fun _ => op_assign (.plain rfl)) (.nil _)) ?_
  refine awp_seq ?_
  refine awp_seq ?_
  refine awp_region rfl (.n (fun _ => op_move (.plain rfl)) (.n (fun _ => op_eql (.plain rfl) (.plain rfl)) (.nil _))) ?_
  refine awp_cond rfl (fun h => ?_) (fun h => ?_)
  · try simp only [decide_eq_true_eq, decide_eq_false_iff_not, Bool.and_eq_true, Bool.or_eq_true, Bool.and_eq_false_iff, Bool.or_eq_false_iff, Bool.not_eq_true', Bool.not_eq_false', Bool.not_eq_true, Bool.not_eq_false, Bool.true_eq_false, Bool.false_eq_true] at h
    refine awp_seq ?_
    refine awp_seq ?_
    refine awp_region rfl (.n (fun _ => op_move (.plain rfl)) (.n (fun _ => op_leq (.plain rfl) (.plain rfl)) (.n (fun _ => op_move (.plain rfl)) (.gn rfl rfl (fun hg _ => op_move (.plain rfl)) (.gn rfl rfl (fun hg _ => op_lss (.opt rfl fun h => h) (.plain rfl)) (.n (fun _ => op_and (.plain rfl) (.plain rfl) (.plain rfl) (fun h => eqT h)) (.nil _))))))) ?_
    refine awp_cond rfl (fun h => ?_) (fun h => ?_)
    · try simp only [decide_eq_true_eq, decide_eq_false_iff_not, Bool.and_eq_true, Bool.or_eq_true, Bool.and_eq_false_iff, Bool.or_eq_false_iff, Bool.not_eq_true', Bool.not_eq_false', Bool.not_eq_true, Bool.not_eq_false, Bool.true_eq_false, Bool.false_eq_true] at h
      refine awp_seq ?_
      refine awp_region rfl (.n (fun _ => op_move (.plain rfl)) (.n (fun _ => op_call1 Tryd.call60 (.plain rfl) (small_fc _ ?_)) (.n (fun _ => op_assign (.plain rfl)) (.nil _)))) ?_
      · omega
      refine awp_ret ?_
      refine retQ.ret ?_
      refine ret1 rfl rfl rfl ?_
      rfl
    · exfalso; first | omega | (simp at h; omega)
  · exfalso; first | omega | (simp at h)

set_option maxRecDepth 1000000 in
set_option maxHeartbeats 1000000 in
theorem Itoa1_fc (x : Int) (hx : 0 ≤ x ∧ x < 10) : FC Tryd.prog 36 [.i x] (.str (byteS (48 + x))) := by
  refine FC.intro Tryd.func36 rfl (Nat.le_of_ble_eq_true rfl) fun hfit => ?_
  have fit0 : -9223372036854775808 ≤ (x : Int) ∧ (x : Int) ≤ 9223372036854775807 := (hfit _ (.head _)).int64
  refine awp_seq ?_
  refine awp_region rfl (.n (fun _ => op_assign (.plain rfl)) (.nil _)) ?_
  refine awp_seq ?_
  refine awp_region rfl (.n (fun _ => op_move (.plain rfl)) (.n (fun _ => op_call2 Tryd.call48 (.plain rfl) (.plain rfl) (FormatInt_fc _ ?_)) (.n (fun _ => op_assign (.plain rfl)) (.nil _)))) ?_
  · omega
  refine awp_ret ?_
  refine retQ.ret ?_
  refine ret1 rfl rfl rfl ?_
  rfl

set_option maxRecDepth 1000000 in
set_option maxHeartbeats 1000000 in
theorem Itoa_fc (x : Int) (hx : 0 ≤ x ∧ x < 10) : FC Tryd.prog 17 [.i x] (.str (byteS (48 + x))) := by
  refine FC.intro Tryd.func17 rfl (Nat.le_of_ble_eq_true rfl) fun hfit => ?_
  have fit0 : -9223372036854775808 ≤ (x : Int) ∧ (x : Int) ≤ 9223372036854775807 := (hfit _ (.head _)).int64
  refine awp_seq ?_
  refine awp_region rfl (.n (fun _ => op_assign (.plain rfl)) (.nil _)) ?_
  refine awp_seq ?_
  refine awp_region rfl (.n (fun _ => op_move (.plain rfl)) (.n (fun _ => op_call1 Tryd.call36 (.plain rfl) (Itoa1_fc _ ?_)) (.n (fun _ => op_assign (.plain rfl)) (.nil _)))) ?_
  · omega
  refine awp_ret ?_
  refine retQ.ret ?_
  refine ret1 rfl rfl rfl ?_
  rfl

set_option maxRecDepth 1000000 in
set_option maxHeartbeats 1000000 in
theorem sideText_fc (nm : ByteArray) (rm : Int) (lk : List Int) (O : List Ag) (hr : 1 ≤ rm ∧ rm ≤ 4) (hl : lk.length ≤ 6) (hO : ∀ q, q < lk.length → 0 ≤ lk.getD q 0 ∧ lk.getD q 0 < (O.length : Nat) ∧ (nmF O (lk.getD q 0).toNat).size ≤ 12) : FC Tryd.prog 19 [.agg [.str nm, .i rm, .ints lk], .seq (ByteArray × Int × List Int × Unit) (ByteArray.empty, 0, [], ()) (fun p => [.str p.1, .i p.2.1, .ints p.2.2.1]) O] (.str (sideT O rm lk)) := by
  refine FC.intro Tryd.func19 rfl (Nat.le_of_ble_eq_true rfl) fun hfit => ?_
  have fit0 := hfit _ (.head _)
  have fit1 := hfit _ (.tail _ (.head _))
  have hls := lkS_size (O := O) (lk := lk) (s := roomS rm ++ sCo) fun q hq => (hO q hq).2.2
  have hrs := room_size rm
  have hs2 : (roomS rm ++ sCo).size ≤ 4 := by rw [app_size]; have : sCo.size = 2 := rfl; omega
  have hsp : sSp.size = 1 := rfl
  refine awp_seq ?_
  refine awp_region rfl (.n (fun _ => op_box (.plain rfl) (by simp)) (.n (fun _ => op_assign (.plain rfl)) (.nil _))) ?_
  refine awp_seq ?_
  refine awp_region rfl (.n (fun _ => op_assign (.plain rfl)) (.nil _)) ?_
  refine awp_seq ?_
  refine awp_seq ?_
  refine awp_region rfl (.n (fun _ => op_fieldAddr Tryd.underlying27 rfl rfl Tryd.sizeOf3 (.plain rfl)) (.n (fun _ => op_load Tryd.isAgg3 (.plain rfl)) (.n (fun _ => op_neq (.plain rfl) (.plain rfl)) (.nil _)))) ?_
  refine awp_cond rfl (fun h => ?_) (fun h => ?_)
  · (try simp only [decide_eq_true_eq, decide_eq_false_iff_not, Bool.and_eq_true, Bool.or_eq_true, Bool.and_eq_false_iff, Bool.or_eq_false_iff, Bool.not_eq_true', Bool.not_eq_false', Bool.not_eq_true, Bool.not_eq_false, Bool.true_eq_false, Bool.false_eq_true] at h); (try simp only [foldN, foldR, foldL, Int.toNat_natCast] at h)
    refine awp_seq ?_
    refine awp_region rfl (.n (fun _ => op_fieldAddr Tryd.underlying27 rfl rfl Tryd.sizeOf3 (.plain rfl)) (.n (fun _ => op_load Tryd.isAgg3 (.plain rfl)) (.n (fun _ => op_call1 Tryd.call38 (.plain rfl) (Of_fc rm.toNat _ ?_ ?_)) (.n (fun _ => op_call1 Tryd.call37 (.plain rfl) (Text_fc rm.toNat ?_)) (.n (fun _ => op_assign (.plain rfl)) (.nil _)))))) ?_
    · (try simp only [foldN, foldR, foldL, Int.toNat_natCast])
      omega
    · (try simp only [foldN, foldR, foldL, Int.toNat_natCast])
      omega
    · (try simp only [foldN, foldR, foldL, Int.toNat_natCast])
      omega
    refine awp_region rfl (.n (fun _ => op_move (.plain rfl)) (.n (fun _ => op_addS (.plain rfl) (.plain rfl) ?_) (.n (fun _ => op_assign (.plain rfl)) (.nil _)))) ?_
    · (try simp only [foldN, foldR, foldL, Int.toNat_natCast])
      show (1 : Nat) + (byteS _).size ≤ _
      have : (byteS (48 + ((rm.toNat : Nat) : Int))).size = 1 := rfl
      omega
    refine awp_seq ?_
    refine awp_region rfl (.n (fun _ => op_move (.plain rfl)) (.n (fun _ => op_addS (.plain rfl) (.plain rfl) ?_) (.n (fun _ => op_assign (.plain rfl)) (.nil _)))) ?_
    · (try simp only [foldN, foldR, foldL, Int.toNat_natCast])
      first | (show (0 : Nat) + 2 ≤ _; omega) | (rw [app_size]; show (1 + 1) + (2 : Nat) ≤ _; omega) | (rw [app_size]; show _ + (2 : Nat) ≤ _; omega)
    refine awp_seq ?_
    refine awp_seq ?_
    refine awp_region rfl (.n (fun _ => op_assign (.plain rfl)) (.nil _)) ?_
    refine awp_block ?_
    refine awp_loop (σ := Nat) (fun (k : Nat) => k ≤ lk.length) (fun (k : Nat) => ⟨[(1, .pv (.seq (ByteArray × Int × List Int × Unit) (ByteArray.empty, 0, [], ()) (fun p => [.str p.1, .i p.2.1, .ints p.2.2.1]) O)), (2, .pv (.rd [.str nm, .i rm, .ints lk])), (5, .pv (.str (lkS O lk (roomS rm ++ sCo) k))), (7, .int (k : Nat))], []⟩) (fun (k : Nat) => lk.length - k) 0 ?_ (Ent.kept ⟨rfl, rfl, (congrArg (fun s => some (SV.pv (PV.str s))) (by rw [room_t h (by omega)]; rfl)), rfl, trivial⟩ trivial) ?_
    · exact Nat.zero_le _
    rintro k hp
    try dsimp only at hp
    have hk := hp
    refine awp_seq ?_
    refine awp_seq ?_
    refine awp_region rfl (.n (fun _ => op_move (.plain rfl)) (.n (fun _ => op_fieldAddr Tryd.underlying27 rfl rfl Tryd.sizeOf25 (.plain rfl)) (.n (fun _ => op_load Tryd.isAgg25 (.plain rfl)) (.n (fun _ => op_len (s := 0) Tryd.underlying25 (.plain rfl)) (.n (fun _ => op_lss (.plain rfl) (.plain rfl)) (.nil _)))))) ?_
    refine awp_cond rfl (fun h => ?_) (fun h => ?_)
    · (try simp only [decide_eq_true_eq, decide_eq_false_iff_not, Bool.and_eq_true, Bool.or_eq_true, Bool.and_eq_false_iff, Bool.or_eq_false_iff, Bool.not_eq_true', Bool.not_eq_false', Bool.not_eq_true, Bool.not_eq_false, Bool.true_eq_false, Bool.false_eq_true] at h); (try simp only [foldN, foldR, foldL, Int.toNat_natCast] at h)
      refine awp_skip ?_
      refine awp_seq ?_
      refine awp_block ?_
      refine awp_region rfl (.n (fun _ => op_move (.plain rfl)) (.n (fun _ => op_addS (.plain rfl) (.plain rfl) ?_) (.n (fun _ => op_move (.plain rfl)) (.n (fun _ => op_fieldAddr Tryd.underlying27 rfl rfl Tryd.sizeOf25 (.plain rfl)) (.n (fun _ => op_load Tryd.isAgg25 (.plain rfl)) (.n (fun _ => op_move (.plain rfl)) (.n (fun _ => op_indexAddrN Tryd.underlying25 Tryd.sizeOf3 (.plain rfl) (.plain rfl) (fun _ => rfl) ?_) (.n (fun _ => op_load Tryd.isAgg3 (.plain rfl)) (.n (fun _ => op_indexAddr Tryd.underlying22 Tryd.sizeOf27 (.plain rfl) (.plain rfl) (fun _ => rfl) ?_) (.n (fun _ => op_fieldAddr Tryd.underlying27 rfl rfl Tryd.sizeOf9 (.plain rfl)) (.n (fun _ => op_load Tryd.isAgg9 (.plain rfl)) (.n (fun _ => op_addS (.plain rfl) (.plain rfl) ?_) (.n (fun _ => op_assign (.plain rfl)) (.nil _)))))))))))))) ?_
      · (try simp only [foldN, foldR, foldL, Int.toNat_natCast])
        have := hls k (by omega)
        show _ + (1 : Nat) ≤ _
        omega
      · (try simp only [foldN, foldR, foldL, Int.toNat_natCast])
        omega
      · (try simp only [foldN, foldR, foldL, Int.toNat_natCast])
        have := hO k (by omega)
        omega
      · (try simp only [foldN, foldR, foldL, Int.toNat_natCast])
        have h1 := hls k (by omega)
        have h2 := (hO k (by omega)).2.2
        rw [app_size]
        show (_ + 1) + _ ≤ _
        omega
      refine awp_region rfl (.n (fun _ => op_move (.plain rfl)) (.n (fun _ => op_add (.plain rfl) (.plain rfl) ?_) (.n (fun _ => op_assign (.plain rfl)) (.nil _)))) ?_
      · (try simp only [foldN, foldR, foldL, Int.toNat_natCast])
        unfold InR; omega
      exact ⟨k + 1, by omega, by dsimp only; omega, (Ent.kept ⟨rfl, rfl, rfl, rfl, trivial⟩ trivial)⟩
    · (try simp only [decide_eq_true_eq, decide_eq_false_iff_not, Bool.and_eq_true, Bool.or_eq_true, Bool.and_eq_false_iff, Bool.or_eq_false_iff, Bool.not_eq_true', Bool.not_eq_false', Bool.not_eq_true, Bool.not_eq_false, Bool.true_eq_false, Bool.false_eq_true] at h); (try simp only [foldN, foldR, foldL, Int.toNat_natCast] at h)
      refine awp_exit ?_
      refine awp_seq ?_
      refine awp_region rfl (.n (fun _ => op_move (.plain rfl)) (.n (fun _ => op_addS (.plain rfl) (.plain rfl) ?_) (.n (fun _ => op_assign (.plain rfl)) (.nil _)))) ?_
      · (try simp only [foldN, foldR, foldL, Int.toNat_natCast])
        have := hls k (by omega)
        have : (⟨#[10]⟩ : ByteArray).size = 1 := rfl
        omega
      refine awp_ret ?_
      refine retQ.ret ?_
      refine ret1 rfl rfl rfl ?_
      obtain rfl : k = lk.length := by omega
      rfl
  · (try simp only [decide_eq_true_eq, decide_eq_false_iff_not, Bool.and_eq_true, Bool.or_eq_true, Bool.and_eq_false_iff, Bool.or_eq_false_iff, Bool.not_eq_true', Bool.not_eq_false', Bool.not_eq_true, Bool.not_eq_false, Bool.true_eq_false, Bool.false_eq_true] at h); (try simp only [foldN, foldR, foldL, Int.toNat_natCast] at h)
    refine awp_skip ?_
    refine awp_seq ?_
    refine awp_region rfl (.n (fun _ => op_move (.plain rfl)) (.n (fun _ => op_addS (.plain rfl) (.plain rfl) ?_) (.n (fun _ => op_assign (.plain rfl)) (.nil _)))) ?_
    · (try simp only [foldN, foldR, foldL, Int.toNat_natCast])
      first | (show (0 : Nat) + 2 ≤ _; omega) | (rw [app_size]; show (1 + 1) + (2 : Nat) ≤ _; omega) | (rw [app_size]; show _ + (2 : Nat) ≤ _; omega)
    refine awp_seq ?_
    refine awp_seq ?_
    refine awp_region rfl (.n (fun _ => op_assign (.plain rfl)) (.nil _)) ?_
    refine awp_block ?_
    refine awp_loop (σ := Nat) (fun (k : Nat) => k ≤ lk.length) (fun (k : Nat) => ⟨[(1, .pv (.seq (ByteArray × Int × List Int × Unit) (ByteArray.empty, 0, [], ()) (fun p => [.str p.1, .i p.2.1, .ints p.2.2.1]) O)), (2, .pv (.rd [.str nm, .i rm, .ints lk])), (5, .pv (.str (lkS O lk (roomS rm ++ sCo) k))), (7, .int (k : Nat))], []⟩) (fun (k : Nat) => lk.length - k) 0 ?_ (Ent.kept ⟨rfl, rfl, (congrArg (fun s => some (SV.pv (PV.str s))) (by rw [room_1 h]; rfl)), rfl, trivial⟩ trivial) ?_
    · exact Nat.zero_le _
    rintro k hp
    try dsimp only at hp
    have hk := hp
    refine awp_seq ?_
    refine awp_seq ?_
    refine awp_region rfl (.n (fun _ => op_move (.plain rfl)) (.n (fun _ => op_fieldAddr Tryd.underlying27 rfl rfl Tryd.sizeOf25 (.plain rfl)) (.n (fun _ => op_load Tryd.isAgg25 (.plain rfl)) (.n (fun _ => op_len (s := 0) Tryd.underlying25 (.plain rfl)) (.n (fun _ => op_lss (.plain rfl) (.plain rfl)) (.nil _)))))) ?_
    refine awp_cond rfl (fun h => ?_) (fun h => ?_)
    · (try simp only [decide_eq_true_eq, decide_eq_false_iff_not, Bool.and_eq_true, Bool.or_eq_true, Bool.and_eq_false_iff, Bool.or_eq_false_iff, Bool.not_eq_true', Bool.not_eq_false', Bool.not_eq_true, Bool.not_eq_false, Bool.true_eq_false, Bool.false_eq_true] at h); (try simp only [foldN, foldR, foldL, Int.toNat_natCast] at h)
      refine awp_skip ?_
      refine awp_seq ?_
      refine awp_block ?_
      refine awp_region rfl (.n (fun _ => op_move (.plain rfl)) (.n (fun _ => op_addS (.plain rfl) (.plain rfl) ?_) (.n (fun _ => op_move (.plain rfl)) (.n (fun _ => op_fieldAddr Tryd.underlying27 rfl rfl Tryd.sizeOf25 (.plain rfl)) (.n (fun _ => op_load Tryd.isAgg25 (.plain rfl)) (.n (fun _ => op_move (.plain rfl)) (.n (fun _ => op_indexAddrN Tryd.underlying25 Tryd.sizeOf3 (.plain rfl) (.plain rfl) (fun _ => rfl) ?_) (.n (fun _ => op_load Tryd.isAgg3 (.plain rfl)) (.n (fun _ => op_indexAddr Tryd.underlying22 Tryd.sizeOf27 (.plain rfl) (.plain rfl) (fun _ => rfl) ?_) (.n (fun _ => op_fieldAddr Tryd.underlying27 rfl rfl Tryd.sizeOf9 (.plain rfl)) (.n (fun _ => op_load Tryd.isAgg9 (.plain rfl)) (.n (fun _ => op_addS (.plain rfl) (.plain rfl) ?_) (.n (fun _ => op_assign (.plain rfl)) (.nil _)))))))))))))) ?_
      · (try simp only [foldN, foldR, foldL, Int.toNat_natCast])
        have := hls k (by omega)
        show _ + (1 : Nat) ≤ _
        omega
      · (try simp only [foldN, foldR, foldL, Int.toNat_natCast])
        omega
      · (try simp only [foldN, foldR, foldL, Int.toNat_natCast])
        have := hO k (by omega)
        omega
      · (try simp only [foldN, foldR, foldL, Int.toNat_natCast])
        have h1 := hls k (by omega)
        have h2 := (hO k (by omega)).2.2
        rw [app_size]
        show (_ + 1) + _ ≤ _
        omega
      refine awp_region rfl (.n (fun _ => op_move (.plain rfl)) (.n (fun _ => op_add (.plain rfl) (.plain rfl) ?_) (.n (fun _ => op_assign (.plain rfl)) (.nil _)))) ?_
      · (try simp only [foldN, foldR, foldL, Int.toNat_natCast])
        unfold InR; omega
      exact ⟨k + 1, by omega, by dsimp only; omega, (Ent.kept ⟨rfl, rfl, rfl, rfl, trivial⟩ trivial)⟩
    · (try simp only [decide_eq_true_eq, decide_eq_false_iff_not, Bool.and_eq_true, Bool.or_eq_true, Bool.and_eq_false_iff, Bool.or_eq_false_iff, Bool.not_eq_true', Bool.not_eq_false', Bool.not_eq_true, Bool.not_eq_false, Bool.true_eq_false, Bool.false_eq_true] at h); (try simp only [foldN, foldR, foldL, Int.toNat_natCast] at h)
      refine awp_exit ?_
      refine awp_seq ?_
      refine awp_region rfl (.n (fun _ => op_move (.plain rfl)) (.n (fun _ => op_addS (.plain rfl) (.plain rfl) ?_) (.n (fun _ => op_assign (.plain rfl)) (.nil _)))) ?_
      · (try simp only [foldN, foldR, foldL, Int.toNat_natCast])
        have := hls k (by omega)
        have : (⟨#[10]⟩ : ByteArray).size = 1 := rfl
        omega
      refine awp_ret ?_
      refine retQ.ret ?_
      refine ret1 rfl rfl rfl ?_
      obtain rfl : k = lk.length := by omega
      rfl

set_option maxRecDepth 1000000 in
set_option maxHeartbeats 1000000 in
theorem RanksPrint_fc (L R : List Ag) : FC Tryd.prog 8 [.agg [.seq (ByteArray × Int × List Int × Unit) (ByteArray.empty, 0, [], ()) (fun p => [.str p.1, .i p.2.1, .ints p.2.2.1]) L, .seq (ByteArray × Int × List Int × Unit) (ByteArray.empty, 0, [], ()) (fun p => [.str p.1, .i p.2.1, .ints p.2.2.1]) R]] (.tup [.str (if rMayE L R = 0 then printS L R else ⟨#[]⟩), .i (rMayE L R)]) := by
  refine FC.intro Tryd.func8 rfl (Nat.le_of_ble_eq_true rfl) fun hfit => ?_
  have fit0 := hfit _ (.head _)
  have hfl : L.length ≤ 281474976710656 := by cases fit0 with | agg _ h => exact (h 0 (by simp)).len
  have hfr : R.length ≤ 281474976710656 := by cases fit0 with | agg _ h => exact (h 1 (by simp)).len
  refine awp_seq ?_
  refine awp_region rfl (.n (fun _ => op_box (.plain rfl) (by simp)) (.n (fun _ => op_assign (.plain rfl)) (.n (fun _ => op_assign (.plain rfl)) (.nil _)))) ?_
  refine awp_seq ?_
  refine awp_region rfl (.n (fun _ => op_load_agg Tryd.isAgg24 Tryd.sizeOf24 (.plain rfl) (Nat.le_of_ble_eq_true rfl)) (.n (fun _ => op_call1 Tryd.call10 (.plain rfl) (RanksMay_fc _ _)) (.n (fun _ => op_assign (.plain rfl)) (.nil _)))) ?_
  refine awp_seq ?_
  refine awp_seq ?_
  refine awp_region rfl (.n (fun _ => op_move (.plain rfl)) (.n (fun _ => op_neq (.plain rfl) (.plain rfl)) (.nil _))) ?_
  refine awp_cond rfl (fun h => ?_) (fun h => ?_)
  · (try simp only [decide_eq_true_eq, decide_eq_false_iff_not, Bool.and_eq_true, Bool.or_eq_true, Bool.and_eq_false_iff, Bool.or_eq_false_iff, Bool.not_eq_true', Bool.not_eq_false', Bool.not_eq_true, Bool.not_eq_false, Bool.true_eq_false, Bool.false_eq_true] at h); (try simp only [foldN, foldR, foldL, Int.toNat_natCast] at h)
    refine awp_seq ?_
    refine awp_region rfl (.n (fun _ => op_move (.plain rfl)) (.n (fun _ => op_assign (.plain rfl)) (.n (fun _ => op_assign (.plain rfl)) (.nil _)))) ?_
    refine awp_ret ?_
    refine retQ.ret ?_
    refine ret2 rfl rfl rfl rfl rfl ?_
    rw [if_neg h]
  · (try simp only [decide_eq_true_eq, decide_eq_false_iff_not, Bool.and_eq_true, Bool.or_eq_true, Bool.and_eq_false_iff, Bool.or_eq_false_iff, Bool.not_eq_true', Bool.not_eq_false', Bool.not_eq_true, Bool.not_eq_false, Bool.true_eq_false, Bool.false_eq_true] at h); (try simp only [foldN, foldR, foldL, Int.toNat_natCast] at h)
    have h0 : rMayE L R = 0 := by omega
    have hP := pok h0
    refine awp_skip ?_
    refine awp_seq ?_
    refine awp_region rfl (.n (fun _ => op_assign (.plain rfl)) (.nil _)) ?_
    refine awp_seq ?_
    refine awp_seq ?_
    refine awp_region rfl (.n (fun _ => op_assign (.plain rfl)) (.nil _)) ?_
    refine awp_block ?_
    refine awp_loop (σ := Nat) (fun (i : Nat) => i ≤ L.length) (fun (i : Nat) => ⟨[(1, .pv (.rd [.seq (ByteArray × Int × List Int × Unit) (ByteArray.empty, 0, [], ()) (fun p => [.str p.1, .i p.2.1, .ints p.2.2.1]) L, .seq (ByteArray × Int × List Int × Unit) (ByteArray.empty, 0, [], ()) (fun p => [.str p.1, .i p.2.1, .ints p.2.2.1]) R])), (5, .pv (.str (prS (preS 0) L R (accS L R 0) i))), (6, .int (i : Nat))], []⟩) (fun (i : Nat) => L.length - i) 0 ?_ (Ent.kept ⟨rfl, rfl, rfl, trivial⟩ trivial) ?_
    · exact Nat.zero_le _
    rintro i hp
    try dsimp only at hp
    have hi := hp
    have hps := prS_acc hP (show 0 < 2 by omega) (j := i) hi
    have hps : (prS (preS 0) L R (accS L R 0) i).size ≤ 1212 := hps
    refine awp_seq ?_
    refine awp_seq ?_
    refine awp_region rfl (.n (fun _ => op_move (.plain rfl)) (.n (fun _ => op_fieldAddr Tryd.underlying24 rfl rfl Tryd.sizeOf22 (.plain rfl)) (.n (fun _ => op_load Tryd.isAgg22 (.plain rfl)) (.n (fun _ => op_len (s := 0) Tryd.underlying22 (.plain rfl)) (.n (fun _ => op_lss (.plain rfl) (.plain rfl)) (.nil _)))))) ?_
    refine awp_cond rfl (fun h => ?_) (fun h => ?_)
    · (try simp only [decide_eq_true_eq, decide_eq_false_iff_not, Bool.and_eq_true, Bool.or_eq_true, Bool.and_eq_false_iff, Bool.or_eq_false_iff, Bool.not_eq_true', Bool.not_eq_false', Bool.not_eq_true, Bool.not_eq_false, Bool.true_eq_false, Bool.false_eq_true] at h); (try simp only [foldN, foldR, foldL, Int.toNat_natCast] at h)
      refine awp_skip ?_
      refine awp_seq ?_
      refine awp_block ?_
      refine awp_region_draw mixed rfl (.n (fun _ => op_move (.plain rfl)) (.n (fun _ => op_addS (.plain rfl) (.plain rfl) ?_) (.n (fun _ => op_fieldAddr Tryd.underlying24 rfl rfl Tryd.sizeOf22 (.plain rfl)) (.n (fun _ => op_load Tryd.isAgg22 (.plain rfl)) (.n (fun _ => op_move (.plain rfl)) (.n (fun _ => op_indexAddrN Tryd.underlying22 Tryd.sizeOf27 (.plain rfl) (.plain rfl) (fun _ => rfl) ?_) (.n (fun _ => op_fieldAddr Tryd.underlying27 rfl rfl Tryd.sizeOf9 (.plain rfl)) (.n (fun _ => op_load Tryd.isAgg9 (.plain rfl)) (.n (fun _ => op_addS (.plain rfl) (.plain rfl) ?_) (.n (fun _ => op_fieldAddr Tryd.underlying24 rfl rfl Tryd.sizeOf22 (.plain rfl)) (.n (fun _ => op_load Tryd.isAgg22 (.plain rfl)) (.n (fun _ => op_move (.plain rfl)) (.n (fun _ => op_indexAddrN Tryd.underlying22 Tryd.sizeOf27 (.plain rfl) (.plain rfl) (fun _ => rfl) ?_) (.n (fun _ => op_load_agg Tryd.isAgg27 Tryd.sizeOf27 (.plain rfl) (Nat.le_of_ble_eq_true rfl)) (.n (fun _ => op_fieldAddr Tryd.underlying24 rfl rfl Tryd.sizeOf22 (.plain rfl)) (.n (fun _ => op_load Tryd.isAgg22 (.plain rfl)) (.n (fun _ => op_call2 Tryd.call19 (.plain rfl) (.plain rfl) (sideText_fc _ _ _ _ ?_ ?_ ?_)) (.n (fun _ => op_addS (.plain rfl) (.plain rfl) ?_) (.n (fun _ => op_assign (.plain rfl)) (.nil _)))))))))))))))))))) ?d1 ?_
      · (try simp only [foldN, foldR, foldL, Int.toNat_natCast])
        show _ + (5 : Nat) ≤ _
        omega
      · (try simp only [foldN, foldR, foldL, Int.toNat_natCast])
        omega
      · (try simp only [foldN, foldR, foldL, Int.toNat_natCast])
        have hnm : (nmF L i).size ≤ 12 := (named_size (hP.nm 0 (by omega) i (show i < L.length by omega))).2
        show (_ ++ preS 0 : ByteArray).size + (nmF L i).size ≤ _
        rw [app_size]
        have hpz := pre_size 0
        omega
      · (try simp only [foldN, foldR, foldL, Int.toNat_natCast])
        omega
      · (try simp only [foldN, foldR, foldL, Int.toNat_natCast])
        exact hP.rm 0 (by omega) i (show i < L.length by omega)
      · (try simp only [foldN, foldR, foldL, Int.toNat_natCast])
        exact hP.lk6 (show 0 < 2 by omega) (show i < L.length by omega)
      · (try simp only [foldN, foldR, foldL, Int.toNat_natCast])
        exact hP.side (show 0 < 2 by omega) (show i < L.length by omega)
      · (try simp only [foldN, foldR, foldL, Int.toNat_natCast])
        have hnm : (nmF L i).size ≤ 12 := (named_size (hP.nm 0 (by omega) i (show i < L.length by omega))).2
        have hst := sideT_size hP (show 0 < 2 by omega) (show i < L.length by omega)
        have hpz := pre_size 0
        show ((_ ++ preS 0) ++ nmF L i : ByteArray).size + (sideT R (rmF L i) (lkF L i)).size ≤ _
        rw [app_size, app_size]
        have hst : (sideT R (rmF L i) (lkF L i)).size ≤ 83 := hst
        omega
      · kernel_rfl
      refine awp_region rfl (.n (fun _ => op_move (.plain rfl)) (.n (fun _ => op_add (.plain rfl) (.plain rfl) ?_) (.n (fun _ => op_assign (.plain rfl)) (.nil _)))) ?_
      · (try simp only [foldN, foldR, foldL, Int.toNat_natCast])
        unfold InR; omega
      exact ⟨i + 1, by omega, by dsimp only; omega, (Ent.kept ⟨rfl, rfl, rfl, trivial⟩ trivial)⟩
    · (try simp only [decide_eq_true_eq, decide_eq_false_iff_not, Bool.and_eq_true, Bool.or_eq_true, Bool.and_eq_false_iff, Bool.or_eq_false_iff, Bool.not_eq_true', Bool.not_eq_false', Bool.not_eq_true, Bool.not_eq_false, Bool.true_eq_false, Bool.false_eq_true] at h); (try simp only [foldN, foldR, foldL, Int.toNat_natCast] at h)
      refine awp_exit ?_
      refine awp_seq ?_
      refine awp_seq ?_
      obtain rfl : i = L.length := by omega
      refine awp_region rfl (.n (fun _ => op_assign (.plain rfl)) (.nil _)) ?_
      refine awp_block ?_
      refine awp_loop (σ := Nat) (fun (i : Nat) => i ≤ R.length) (fun (i : Nat) => ⟨[(1, .pv (.rd [.seq (ByteArray × Int × List Int × Unit) (ByteArray.empty, 0, [], ()) (fun p => [.str p.1, .i p.2.1, .ints p.2.2.1]) L, .seq (ByteArray × Int × List Int × Unit) (ByteArray.empty, 0, [], ()) (fun p => [.str p.1, .i p.2.1, .ints p.2.2.1]) R])), (5, .pv (.str (prS (preS 1) R L (accS L R 1) i))), (7, .int (i : Nat))], []⟩) (fun (i : Nat) => R.length - i) 0 ?_ (Ent.kept ⟨rfl, rfl, rfl, trivial⟩ trivial) ?_
      · exact Nat.zero_le _
      rintro i hp
      try dsimp only at hp
      have hi := hp
      have hps := prS_acc hP (show 1 < 2 by omega) (j := i) hi
      have hps : (prS (preS 1) R L (accS L R 1) i).size ≤ 1212 := hps
      refine awp_seq ?_
      refine awp_seq ?_
      refine awp_region rfl (.n (fun _ => op_move (.plain rfl)) (.n (fun _ => op_fieldAddr Tryd.underlying24 rfl rfl Tryd.sizeOf22 (.plain rfl)) (.n (fun _ => op_load Tryd.isAgg22 (.plain rfl)) (.n (fun _ => op_len (s := 0) Tryd.underlying22 (.plain rfl)) (.n (fun _ => op_lss (.plain rfl) (.plain rfl)) (.nil _)))))) ?_
      refine awp_cond rfl (fun h => ?_) (fun h => ?_)
      · (try simp only [decide_eq_true_eq, decide_eq_false_iff_not, Bool.and_eq_true, Bool.or_eq_true, Bool.and_eq_false_iff, Bool.or_eq_false_iff, Bool.not_eq_true', Bool.not_eq_false', Bool.not_eq_true, Bool.not_eq_false, Bool.true_eq_false, Bool.false_eq_true] at h); (try simp only [foldN, foldR, foldL, Int.toNat_natCast] at h)
        refine awp_skip ?_
        refine awp_seq ?_
        refine awp_block ?_
        refine awp_region_draw mixed rfl (.n (fun _ => op_move (.plain rfl)) (.n (fun _ => op_addS (.plain rfl) (.plain rfl) ?_) (.n (fun _ => op_fieldAddr Tryd.underlying24 rfl rfl Tryd.sizeOf22 (.plain rfl)) (.n (fun _ => op_load Tryd.isAgg22 (.plain rfl)) (.n (fun _ => op_move (.plain rfl)) (.n (fun _ => op_indexAddrN Tryd.underlying22 Tryd.sizeOf27 (.plain rfl) (.plain rfl) (fun _ => rfl) ?_) (.n (fun _ => op_fieldAddr Tryd.underlying27 rfl rfl Tryd.sizeOf9 (.plain rfl)) (.n (fun _ => op_load Tryd.isAgg9 (.plain rfl)) (.n (fun _ => op_addS (.plain rfl) (.plain rfl) ?_) (.n (fun _ => op_fieldAddr Tryd.underlying24 rfl rfl Tryd.sizeOf22 (.plain rfl)) (.n (fun _ => op_load Tryd.isAgg22 (.plain rfl)) (.n (fun _ => op_move (.plain rfl)) (.n (fun _ => op_indexAddrN Tryd.underlying22 Tryd.sizeOf27 (.plain rfl) (.plain rfl) (fun _ => rfl) ?_) (.n (fun _ => op_load_agg Tryd.isAgg27 Tryd.sizeOf27 (.plain rfl) (Nat.le_of_ble_eq_true rfl)) (.n (fun _ => op_fieldAddr Tryd.underlying24 rfl rfl Tryd.sizeOf22 (.plain rfl)) (.n (fun _ => op_load Tryd.isAgg22 (.plain rfl)) (.n (fun _ => op_call2 Tryd.call19 (.plain rfl) (.plain rfl) (sideText_fc _ _ _ _ ?_ ?_ ?_)) (.n (fun _ => op_addS (.plain rfl) (.plain rfl) ?_) (.n (fun _ => op_assign (.plain rfl)) (.nil _)))))))))))))))))))) ?d2 ?_
        · (try simp only [foldN, foldR, foldL, Int.toNat_natCast])
          show _ + (6 : Nat) ≤ _
          omega
        · (try simp only [foldN, foldR, foldL, Int.toNat_natCast])
          omega
        · (try simp only [foldN, foldR, foldL, Int.toNat_natCast])
          have hnm : (nmF R i).size ≤ 12 := (named_size (hP.nm 1 (by omega) i (show i < R.length by omega))).2
          show (_ ++ preS 1 : ByteArray).size + (nmF R i).size ≤ _
          rw [app_size]
          have hpz := pre_size 1
          omega
        · (try simp only [foldN, foldR, foldL, Int.toNat_natCast])
          omega
        · (try simp only [foldN, foldR, foldL, Int.toNat_natCast])
          exact hP.rm 1 (by omega) i (show i < R.length by omega)
        · (try simp only [foldN, foldR, foldL, Int.toNat_natCast])
          exact hP.lk6 (show 1 < 2 by omega) (show i < R.length by omega)
        · (try simp only [foldN, foldR, foldL, Int.toNat_natCast])
          exact hP.side (show 1 < 2 by omega) (show i < R.length by omega)
        · (try simp only [foldN, foldR, foldL, Int.toNat_natCast])
          have hnm : (nmF R i).size ≤ 12 := (named_size (hP.nm 1 (by omega) i (show i < R.length by omega))).2
          have hst := sideT_size hP (show 1 < 2 by omega) (show i < R.length by omega)
          have hpz := pre_size 1
          show ((_ ++ preS 1) ++ nmF R i : ByteArray).size + (sideT L (rmF R i) (lkF R i)).size ≤ _
          rw [app_size, app_size]
          have hst : (sideT L (rmF R i) (lkF R i)).size ≤ 83 := hst
          omega
        · kernel_rfl
        refine awp_region rfl (.n (fun _ => op_move (.plain rfl)) (.n (fun _ => op_add (.plain rfl) (.plain rfl) ?_) (.n (fun _ => op_assign (.plain rfl)) (.nil _)))) ?_
        · (try simp only [foldN, foldR, foldL, Int.toNat_natCast])
          unfold InR; omega
        exact ⟨i + 1, by omega, by dsimp only; omega, (Ent.kept ⟨rfl, rfl, rfl, trivial⟩ trivial)⟩
      · (try simp only [decide_eq_true_eq, decide_eq_false_iff_not, Bool.and_eq_true, Bool.or_eq_true, Bool.and_eq_false_iff, Bool.or_eq_false_iff, Bool.not_eq_true', Bool.not_eq_false', Bool.not_eq_true, Bool.not_eq_false, Bool.true_eq_false, Bool.false_eq_true] at h); (try simp only [foldN, foldR, foldL, Int.toNat_natCast] at h)
        refine awp_exit ?_
        refine awp_seq ?_
        refine awp_region rfl (.n (fun _ => op_move (.plain rfl)) (.n (fun _ => op_assign (.plain rfl)) (.n (fun _ => op_assign (.plain rfl)) (.nil _)))) ?_
        refine awp_ret ?_
        refine retQ.ret ?_
        refine ret2 rfl rfl rfl rfl rfl ?_
        obtain rfl : i = R.length := by omega
        rw [if_pos h0, h0]
        rfl

set_option maxRecDepth 1000000 in
set_option maxHeartbeats 1000000 in
theorem Print_fc (L R : List Ag) : FC Tryd.prog 7 [.agg [.seq (ByteArray × Int × List Int × Unit) (ByteArray.empty, 0, [], ()) (fun p => [.str p.1, .i p.2.1, .ints p.2.2.1]) L, .seq (ByteArray × Int × List Int × Unit) (ByteArray.empty, 0, [], ()) (fun p => [.str p.1, .i p.2.1, .ints p.2.2.1]) R]] (.tup [.str (if rMayE L R = 0 then printS L R else ⟨#[]⟩), .i (rMayE L R)]) := by
  refine FC.intro Tryd.func7 rfl (Nat.le_of_ble_eq_true rfl) fun hfit => ?_
  have fit0 := hfit _ (.head _)
  have hfl : L.length ≤ 281474976710656 := by cases fit0 with | agg _ h => exact (h 0 (by simp)).len
  have hfr : R.length ≤ 281474976710656 := by cases fit0 with | agg _ h => exact (h 1 (by simp)).len
  refine awp_seq ?_
  refine awp_region rfl (.n (fun _ => op_box (.plain rfl) (by simp)) (.n (fun _ => op_assign (.plain rfl)) (.n (fun _ => op_assign (.plain rfl)) (.nil _)))) ?_
  refine awp_seq ?_
  refine awp_seq ?_
  refine awp_region rfl (.n (fun _ => op_load_agg Tryd.isAgg24 Tryd.sizeOf24 (.plain rfl) (Nat.le_of_ble_eq_true rfl)) (.n (fun _ => op_call1 Tryd.call9 (.plain rfl) (rMay_fc _ _)) (.n (fun _ => op_assign (.plain rfl)) (.nil _)))) ?_
  refine awp_seq ?_
  refine awp_region rfl (.n (fun _ => op_move (.plain rfl)) (.n (fun _ => op_neq (.plain rfl) (.plain rfl)) (.nil _))) ?_
  refine awp_cond rfl (fun h => ?_) (fun h => ?_)
  · (try simp only [decide_eq_true_eq, decide_eq_false_iff_not, Bool.and_eq_true, Bool.or_eq_true, Bool.and_eq_false_iff, Bool.or_eq_false_iff, Bool.not_eq_true', Bool.not_eq_false', Bool.not_eq_true, Bool.not_eq_false, Bool.true_eq_false, Bool.false_eq_true] at h); (try simp only [foldN, foldR, foldL, Int.toNat_natCast] at h)
    refine awp_seq ?_
    refine awp_region rfl (.n (fun _ => op_move (.plain rfl)) (.n (fun _ => op_assign (.plain rfl)) (.n (fun _ => op_assign (.plain rfl)) (.nil _)))) ?_
    refine awp_ret ?_
    refine retQ.ret ?_
    refine ret2 rfl rfl rfl rfl rfl ?_
    rw [if_neg h]
  · (try simp only [decide_eq_true_eq, decide_eq_false_iff_not, Bool.and_eq_true, Bool.or_eq_true, Bool.and_eq_false_iff, Bool.or_eq_false_iff, Bool.not_eq_true', Bool.not_eq_false', Bool.not_eq_true, Bool.not_eq_false, Bool.true_eq_false, Bool.false_eq_true] at h); (try simp only [foldN, foldR, foldL, Int.toNat_natCast] at h)
    have h0 : rMayE L R = 0 := by omega
    have hP := pok h0
    refine awp_skip ?_
    refine awp_seq ?_
    refine awp_region rfl (.e (op_allocB 5 Tryd.zeroValue43 rfl rfl) rfl (.nil _)) ?_
    refine awp_seq ?_
    refine awp_seq ?_
    refine awp_region rfl (.n (fun _ => op_fieldAddr Tryd.underlying24 rfl rfl Tryd.sizeOf22 (.plain rfl)) (.n (fun _ => op_load Tryd.isAgg22 (.plain rfl)) (.n (fun _ => op_fieldAddr Tryd.underlying24 rfl rfl Tryd.sizeOf22 (.plain rfl)) (.n (fun _ => op_load Tryd.isAgg22 (.plain rfl)) (.n (fun _ => op_slit (pp := [(0, _), (1, _)]) (α := (List (ByteArray × Int × List Int × Unit))) (d := []) (f := (fun r => [.seq (ByteArray × Int × List Int × Unit) (ByteArray.empty, 0, [], ()) (fun p => [.str p.1, .i p.2.1, .ints p.2.2.1]) r])) [_, _] ety44 rfl ⟨rfl, (.plain rfl), (by simp), rfl, (.plain rfl), (by simp), trivial⟩ rfl (by decide) rfl) (.n (fun _ => op_len (s := 0) Tryd.underlying44 (.plain rfl)) (.n (fun _ => op_move (.plain rfl)) (.nil _)))))))) ?_
    refine awp_block ?_
    refine awp_ent (Ent.beginT 5 1 1005 5 1 UInt8 0 byteC rfl rfl (by decide) rfl rfl) ?_
    refine awp_loop (σ := Nat) (fun (k : Nat) => k ≤ 2) (fun (k : Nat) => ⟨[(1, .pv (.rd [.seq (ByteArray × Int × List Int × Unit) (ByteArray.empty, 0, [], ()) (fun p => [.str p.1, .i p.2.1, .ints p.2.2.1]) L, .seq (ByteArray × Int × List Int × Unit) (ByteArray.empty, 0, [], ()) (fun p => [.str p.1, .i p.2.1, .ints p.2.2.1]) R])), (5, .ref 5 0), (22, .pv (.seq (List (ByteArray × Int × List Int × Unit)) [] (fun r => [.seq (ByteArray × Int × List Int × Unit) (ByteArray.empty, 0, [], ()) (fun p => [.str p.1, .i p.2.1, .ints p.2.2.1]) r])  [L, R])), (23, .int (2 : Nat)), (24, .int (k : Nat))], [(5, .tbox 43 [.nilOr 5, .own 1005]), (1005, .arr 5 1 UInt8 0 byteC (bL (accS L R k)))]⟩) (fun (k : Nat) => 2 - k) 0 ?_ (Ent.kept ⟨rfl, rfl, rfl, rfl, rfl, trivial⟩ ⟨rfl, rfl, trivial⟩) ?_
    · exact Nat.zero_le _
    rintro k hp
    try dsimp only at hp
    have hk := hp
    refine awp_seq ?_
    refine awp_region rfl (.n (fun _ => op_lss (.plain rfl) (.plain rfl)) (.nil _)) ?_
    refine awp_seq ?_
    refine awp_cond rfl (fun h => ?_) (fun h => ?_)
    · (try simp only [decide_eq_true_eq, decide_eq_false_iff_not, Bool.and_eq_true, Bool.or_eq_true, Bool.and_eq_false_iff, Bool.or_eq_false_iff, Bool.not_eq_true', Bool.not_eq_false', Bool.not_eq_true, Bool.not_eq_false, Bool.true_eq_false, Bool.false_eq_true] at h); (try simp only [foldN, foldR, foldL, Int.toNat_natCast] at h)
      refine awp_skip ?_
      refine awp_seq ?_
      refine awp_block ?_
      refine awp_seq ?_
      refine awp_region rfl (.n (fun _ => op_move (.plain rfl)) (.n (fun _ => op_indexAddrN Tryd.underlying44 Tryd.sizeOf22 (.plain rfl) (.plain rfl) (fun _ => rfl) ?_) (.n (fun _ => op_load Tryd.isAgg22 (.plain rfl)) (.n (fun _ => op_assign (.plain rfl)) (.n (fun _ => op_assign (.plain rfl)) (.nil _)))))) ?_
      · (try simp only [foldN, foldR, foldL, Int.toNat_natCast])
        show k < 2
        omega
      refine awp_seq ?_
      refine awp_region rfl (.n (fun _ => op_fieldAddr Tryd.underlying24 rfl rfl Tryd.sizeOf22 (.plain rfl)) (.n (fun _ => op_load Tryd.isAgg22 (.plain rfl)) (.n (fun _ => op_fieldAddr Tryd.underlying24 rfl rfl Tryd.sizeOf22 (.plain rfl)) (.n (fun _ => op_load Tryd.isAgg22 (.plain rfl)) (.n (fun _ => op_slit (pp := [(0, _), (1, _)]) (α := (List (ByteArray × Int × List Int × Unit))) (d := []) (f := (fun r => [.seq (ByteArray × Int × List Int × Unit) (ByteArray.empty, 0, [], ()) (fun p => [.str p.1, .i p.2.1, .ints p.2.2.1]) r])) [_, _] ety44 rfl ⟨rfl, (.plain rfl), (by simp), rfl, (.plain rfl), (by simp), trivial⟩ rfl (by decide) rfl) (.n (fun _ => op_move (.plain rfl)) (.n (fun _ => op_indexAddrN Tryd.underlying44 Tryd.sizeOf22 (.plain rfl) (.plain rfl) (fun _ => rfl) ?_) (.n (fun _ => op_load Tryd.isAgg22 (.plain rfl)) (.n (fun _ => op_assign (.plain rfl)) (.nil _)))))))))) ?_
      · (try simp only [foldN, foldR, foldL, Int.toNat_natCast])
        show k < 2
        omega
      refine awp_seq ?_
      refine awp_region rfl (.n (fun _ => op_move (.plain rfl)) (.n (fun _ => op_len (s := 0) Tryd.underlying22 (.plain rfl)) (.n (fun _ => op_move (.plain rfl)) (.nil _)))) ?_
      refine awp_block ?_
      refine awp_loop (σ := Nat) (fun (j : Nat) => j ≤ (sdF L R k).length) (fun (j : Nat) => ⟨[(1, .pv (.rd [.seq (ByteArray × Int × List Int × Unit) (ByteArray.empty, 0, [], ()) (fun p => [.str p.1, .i p.2.1, .ints p.2.2.1]) L, .seq (ByteArray × Int × List Int × Unit) (ByteArray.empty, 0, [], ()) (fun p => [.str p.1, .i p.2.1, .ints p.2.2.1]) R])), (5, .ref 5 0), (22, .pv (.seq (List (ByteArray × Int × List Int × Unit)) [] (fun r => [.seq (ByteArray × Int × List Int × Unit) (ByteArray.empty, 0, [], ()) (fun p => [.str p.1, .i p.2.1, .ints p.2.2.1]) r])  [L, R])), (23, .int (2 : Nat)), (24, .int (k : Nat)), (6, .int (k : Nat)), (7, .pv (.seq (ByteArray × Int × List Int × Unit) (ByteArray.empty, 0, [], ()) (fun p => [.str p.1, .i p.2.1, .ints p.2.2.1]) (sdF L R k))), (8, .pv (.seq (ByteArray × Int × List Int × Unit) (ByteArray.empty, 0, [], ()) (fun p => [.str p.1, .i p.2.1, .ints p.2.2.1]) (otF L R k))), (37, .pv (.seq (ByteArray × Int × List Int × Unit) (ByteArray.empty, 0, [], ()) (fun p => [.str p.1, .i p.2.1, .ints p.2.2.1]) (sdF L R k))), (38, .int ((sdF L R k).length : Nat)), (39, .int (j : Nat))], [(5, .tbox 43 [.nilOr 5, .own 1005]), (1005, .arr 5 1 UInt8 0 byteC (bL (prS (preS k) (sdF L R k) (otF L R k) (accS L R k) j)))]⟩) (fun (j : Nat) => (sdF L R k).length - j) 0 ?_ (Ent.kept ⟨rfl, rfl, rfl, rfl, rfl, rfl, rfl, rfl, rfl, rfl, rfl, trivial⟩ ⟨rfl, rfl, trivial⟩) ?_
      · exact Nat.zero_le _
      rintro j hp
      try dsimp only at hp
      have hj := hp
      have hps := prS_acc hP (show k < 2 by omega) (j := j) hj
      refine awp_seq ?_
      refine awp_region rfl (.n (fun _ => op_lss (.plain rfl) (.plain rfl)) (.nil _)) ?_
      refine awp_seq ?_
      refine awp_cond rfl (fun h => ?_) (fun h => ?_)
      · (try simp only [decide_eq_true_eq, decide_eq_false_iff_not, Bool.and_eq_true, Bool.or_eq_true, Bool.and_eq_false_iff, Bool.or_eq_false_iff, Bool.not_eq_true', Bool.not_eq_false', Bool.not_eq_true, Bool.not_eq_false, Bool.true_eq_false, Bool.false_eq_true] at h); (try simp only [foldN, foldR, foldL, Int.toNat_natCast] at h)
        have hj2 : j < (sdF L R k).length := by omega
        have hk2 : k < 2 := by omega
        have hsd := hP.side hk2 hj2
        have hnm := (named_size (hP.nm k hk2 j hj2)).2
        have hrm := hP.rm k hk2 j hj2
        have hpz := pre_size k
        have hsl := (hP.ot hk2).2
        have hl6 := hP.lk6 hk2 hj2
        have hrs := room_size (rmF (sdF L R k) j)
        have hco : sCo.size = 2 := rfl
        have hsp : sSp.size = 1 := rfl
        have hrc : (roomS (rmF (sdF L R k) j) ++ sCo).size ≤ 4 := by rw [app_size]; omega
        refine awp_skip ?_
        refine awp_seq ?_
        refine awp_block ?_
        refine awp_seq ?_
        refine awp_region rfl (.n (fun _ => op_indexAddrN Tryd.underlying22 Tryd.sizeOf27 (.plain rfl) (.plain rfl) (fun _ => rfl) ?_) (.n (fun _ => op_load_agg Tryd.isAgg27 Tryd.sizeOf27 (.plain rfl) (Nat.le_of_ble_eq_true rfl)) (.e (op_alloc 10 Tryd.zeroValue27 rfl rfl rfl) rfl (.e (op_storeRA Tryd.sizeOf27 (.plain rfl) (.plain rfl) rfl rfl (Nat.le_of_ble_eq_true rfl) rfl) rfl (.nil _))))) ?_
        · (try simp only [foldN, foldR, foldL, Int.toNat_natCast])
          omega
        refine awp_seq ?_
        refine awp_ent (Ent.giveBox 10 rfl rfl rfl) ?_
        refine awp_region_draw mixed rfl (.n (fun _ => op_slit (pp := [(0, _), (1, _)]) (α := ByteArray) (d := ByteArray.empty) (f := (fun s => [.str s])) [_, _] ety49 rfl ⟨rfl, (.plain rfl), (by simp), rfl, (.plain rfl), (by simp), trivial⟩ rfl (by decide) rfl) (.n (fun _ => op_move (.plain rfl)) (.n (fun _ => op_indexAddrN Tryd.underlying49 Tryd.sizeOf9 (.plain rfl) (.plain rfl) (fun _ => rfl) ?_) (.n (fun _ => op_load Tryd.isAgg9 (.plain rfl)) (.n (fun _ => op_fieldAddr Tryd.underlying27 rfl rfl Tryd.sizeOf9 (.plain rfl)) (.n (fun _ => op_load Tryd.isAgg9 (.plain rfl)) (.n (fun _ => op_addS (.plain rfl) (.plain rfl) ?_) (.e (op_callH (fun k => [0, 0, 0, 0, 0, 0, 0, 0, 0, 0, 0, 0, 0, 0, 0, 0, 0, 0, 0, 0, 0, 0, 0, 0, 0, 0, 0, 0, 0, 0, 0, 0, 0, 0, 0, 0, 0, 0, 0, 0, 5, 1005].getD k 0) Tryd.call16 (WriteString_fch _ _ ?_) ⟨(.plain rfl), (.plain rfl), trivial⟩ ⟨rfl, rfl, trivial⟩ (by kernel_rfl)) rfl (.nil _))))))))) ?d3 ?_
        · (try simp only [foldN, foldR, foldL, Int.toNat_natCast])
          show k < 2
          omega
        · (try simp only [foldN, foldR, foldL, Int.toNat_natCast])
          (try rw [bits_pre hk2])
          (try simp only [List.length_append, bL_len, app_size])
          (try simp only [foldN, foldR, foldL, Int.toNat_natCast])
          have hz32 : (⟨#[32]⟩ : ByteArray).size = 1 := rfl
          have hz58 : (⟨#[32, 58]⟩ : ByteArray).size = 2 := rfl
          have hz10 : (⟨#[10]⟩ : ByteArray).size = 1 := rfl
          have hzb : (byteS (48 + rmF (sdF L R k) j)).size = 1 := rfl
          omega
        · (try simp only [foldN, foldR, foldL, Int.toNat_natCast])
          (try rw [bits_pre hk2])
          (try simp only [List.length_append, bL_len, app_size])
          (try simp only [foldN, foldR, foldL, Int.toNat_natCast])
          have hz32 : (⟨#[32]⟩ : ByteArray).size = 1 := rfl
          have hz58 : (⟨#[32, 58]⟩ : ByteArray).size = 2 := rfl
          have hz10 : (⟨#[10]⟩ : ByteArray).size = 1 := rfl
          have hzb : (byteS (48 + rmF (sdF L R k) j)).size = 1 := rfl
          omega
        · kernel_rfl
        refine awp_seq ?_
        refine awp_seq ?_
        refine awp_region rfl (.n (fun _ => op_fieldAddr Tryd.underlying27 rfl rfl Tryd.sizeOf3 (.plain rfl)) (.n (fun _ => op_load Tryd.isAgg3 (.plain rfl)) (.n (fun _ => op_neq (.plain rfl) (.plain rfl)) (.nil _)))) ?_
        refine awp_cond rfl (fun h => ?_) (fun h => ?_)
        · (try simp only [decide_eq_true_eq, decide_eq_false_iff_not, Bool.and_eq_true, Bool.or_eq_true, Bool.and_eq_false_iff, Bool.or_eq_false_iff, Bool.not_eq_true', Bool.not_eq_false', Bool.not_eq_true, Bool.not_eq_false, Bool.true_eq_false, Bool.false_eq_true] at h); (try simp only [foldN, foldR, foldL, Int.toNat_natCast] at h)
          refine awp_region rfl (.n (fun _ => op_fieldAddr Tryd.underlying27 rfl rfl Tryd.sizeOf3 (.plain rfl)) (.n (fun _ => op_load Tryd.isAgg3 (.plain rfl)) (.n (fun _ => op_call1 Tryd.call17 (.plain rfl) (Itoa_fc _ ?_)) (.n (fun _ => op_addS (.plain rfl) (.plain rfl) ?_) (.e (op_callH (fun k => [0, 0, 0, 0, 0, 0, 0, 0, 0, 0, 0, 0, 0, 0, 0, 0, 0, 0, 0, 0, 0, 0, 0, 0, 0, 0, 0, 0, 0, 0, 0, 0, 0, 0, 0, 0, 0, 0, 0, 0, 5, 1005].getD k 0) Tryd.call16 (WriteString_fch _ _ ?_) ⟨(.plain rfl), (.plain rfl), trivial⟩ ⟨rfl, rfl, trivial⟩ (by kernel_rfl)) rfl (.nil _)))))) ?_
          · (try simp only [foldN, foldR, foldL, Int.toNat_natCast])
            omega
          · (try simp only [foldN, foldR, foldL, Int.toNat_natCast])
            (try rw [bits_pre hk2])
            (try simp only [List.length_append, bL_len, app_size])
            (try simp only [foldN, foldR, foldL, Int.toNat_natCast])
            have hz32 : (⟨#[32]⟩ : ByteArray).size = 1 := rfl
            have hz58 : (⟨#[32, 58]⟩ : ByteArray).size = 2 := rfl
            have hz10 : (⟨#[10]⟩ : ByteArray).size = 1 := rfl
            have hzb : (byteS (48 + rmF (sdF L R k) j)).size = 1 := rfl
            omega
          · (try simp only [foldN, foldR, foldL, Int.toNat_natCast])
            (try rw [bits_pre hk2])
            (try simp only [List.length_append, bL_len, app_size])
            (try simp only [foldN, foldR, foldL, Int.toNat_natCast])
            have hz32 : (⟨#[32]⟩ : ByteArray).size = 1 := rfl
            have hz58 : (⟨#[32, 58]⟩ : ByteArray).size = 2 := rfl
            have hz10 : (⟨#[10]⟩ : ByteArray).size = 1 := rfl
            have hzb : (byteS (48 + rmF (sdF L R k) j)).size = 1 := rfl
            omega
          refine awp_seq ?_
          refine awp_region rfl (.e (op_callH (fun k => [0, 0, 0, 0, 0, 0, 0, 0, 0, 0, 0, 0, 0, 0, 0, 0, 0, 0, 0, 0, 0, 0, 0, 0, 0, 0, 0, 0, 0, 0, 0, 0, 0, 0, 0, 0, 0, 0, 0, 0, 5, 1005].getD k 0) Tryd.call16 (WriteString_fch _ _ ?_) ⟨(.plain rfl), (.plain rfl), trivial⟩ ⟨rfl, rfl, trivial⟩ (by kernel_rfl)) rfl (.nil _)) ?_
          · (try simp only [foldN, foldR, foldL, Int.toNat_natCast])
            (try rw [bits_pre hk2])
            (try simp only [List.length_append, bL_len, app_size])
            (try simp only [foldN, foldR, foldL, Int.toNat_natCast])
            have hz32 : (⟨#[32]⟩ : ByteArray).size = 1 := rfl
            have hz58 : (⟨#[32, 58]⟩ : ByteArray).size = 2 := rfl
            have hz10 : (⟨#[10]⟩ : ByteArray).size = 1 := rfl
            have hzb : (byteS (48 + rmF (sdF L R k) j)).size = 1 := rfl
            omega
          refine awp_seq ?_
          refine awp_seq ?_
          refine awp_region rfl (.n (fun _ => op_fieldAddr Tryd.underlying27 rfl rfl Tryd.sizeOf25 (.plain rfl)) (.n (fun _ => op_load Tryd.isAgg25 (.plain rfl)) (.n (fun _ => op_len (s := 0) Tryd.underlying25 (.plain rfl)) (.n (fun _ => op_move (.plain rfl)) (.nil _))))) ?_
          refine awp_block ?_
          refine awp_loop (σ := Nat) (fun (q : Nat) => q ≤ (lkF (sdF L R k) j).length) (fun (q : Nat) => ⟨[(1, .pv (.rd [.seq (ByteArray × Int × List Int × Unit) (ByteArray.empty, 0, [], ()) (fun p => [.str p.1, .i p.2.1, .ints p.2.2.1]) L, .seq (ByteArray × Int × List Int × Unit) (ByteArray.empty, 0, [], ()) (fun p => [.str p.1, .i p.2.1, .ints p.2.2.1]) R])), (5, .ref 5 0), (22, .pv (.seq (List (ByteArray × Int × List Int × Unit)) [] (fun r => [.seq (ByteArray × Int × List Int × Unit) (ByteArray.empty, 0, [], ()) (fun p => [.str p.1, .i p.2.1, .ints p.2.2.1]) r])  [L, R])), (23, .int (2 : Nat)), (24, .int (k : Nat)), (6, .int (k : Nat)), (7, .pv (.seq (ByteArray × Int × List Int × Unit) (ByteArray.empty, 0, [], ()) (fun p => [.str p.1, .i p.2.1, .ints p.2.2.1]) (sdF L R k))), (8, .pv (.seq (ByteArray × Int × List Int × Unit) (ByteArray.empty, 0, [], ()) (fun p => [.str p.1, .i p.2.1, .ints p.2.2.1]) (otF L R k))), (37, .pv (.seq (ByteArray × Int × List Int × Unit) (ByteArray.empty, 0, [], ()) (fun p => [.str p.1, .i p.2.1, .ints p.2.2.1]) (sdF L R k))), (38, .int ((sdF L R k).length : Nat)), (39, .int (j : Nat)), (10, .pv (.rd [.str (nmF (sdF L R k) j), .i (rmF (sdF L R k) j), .ints (lkF (sdF L R k) j)])), (61, .pv (.ints (lkF (sdF L R k) j))), (62, .int ((lkF (sdF L R k) j).length : Nat)), (63, .int (q : Nat))], [(5, .tbox 43 [.nilOr 5, .own 1005]), (1005, .arr 5 1 UInt8 0 byteC ((bL (prS (preS k) (sdF L R k) (otF L R k) (accS L R k) j) ++ bL (preS k ++ nmF (sdF L R k) j)) ++ bL (lkS (otF L R k) (lkF (sdF L R k) j) (roomS (rmF (sdF L R k) j) ++ sCo) q)))]⟩) (fun (q : Nat) => (lkF (sdF L R k) j).length - q) 0 ?_ (Ent.kept ⟨rfl, rfl, rfl, rfl, rfl, rfl, rfl, rfl, rfl, rfl, rfl, rfl, rfl, rfl, rfl, trivial⟩ ⟨rfl, (congrArg (fun l => some (Blk.arr 5 1 UInt8 0 byteC l)) (by rw [bits_pre hk2]; simp only [lkS, bL_app, List.append_assoc, roomS, if_neg h]; rfl)), trivial⟩) ?_
          · exact Nat.zero_le _
          rintro q hp
          try dsimp only at hp
          have hq := hp
          have hqs := lkS_size (s := roomS (rmF (sdF L R k) j) ++ sCo) (fun q hq => (hsd q hq).2.2) q hq
          refine awp_seq ?_
          refine awp_region rfl (.n (fun _ => op_lss (.plain rfl) (.plain rfl)) (.nil _)) ?_
          refine awp_seq ?_
          refine awp_cond rfl (fun h => ?_) (fun h => ?_)
          · (try simp only [decide_eq_true_eq, decide_eq_false_iff_not, Bool.and_eq_true, Bool.or_eq_true, Bool.and_eq_false_iff, Bool.or_eq_false_iff, Bool.not_eq_true', Bool.not_eq_false', Bool.not_eq_true, Bool.not_eq_false, Bool.true_eq_false, Bool.false_eq_true] at h); (try simp only [foldN, foldR, foldL, Int.toNat_natCast] at h)
            refine awp_skip ?_
            refine awp_seq ?_
            refine awp_block ?_
            refine awp_seq ?_
            refine awp_region rfl (.n (fun _ => op_indexAddrN Tryd.underlying25 Tryd.sizeOf3 (.plain rfl) (.plain rfl) (fun _ => rfl) ?_) (.n (fun _ => op_load Tryd.isAgg3 (.plain rfl)) (.n (fun _ => op_assign (.plain rfl)) (.nil _)))) ?_
            · (try simp only [foldN, foldR, foldL, Int.toNat_natCast])
              omega
            refine awp_region rfl (.n (fun _ => op_move (.plain rfl)) (.n (fun _ => op_move (.plain rfl)) (.n (fun _ => op_indexAddr Tryd.underlying22 Tryd.sizeOf27 (.plain rfl) (.plain rfl) (fun _ => rfl) ?_) (.n (fun _ => op_fieldAddr Tryd.underlying27 rfl rfl Tryd.sizeOf9 (.plain rfl)) (.n (fun _ => op_load Tryd.isAgg9 (.plain rfl)) (.n (fun _ => op_addS (.plain rfl) (.plain rfl) ?_) (.e (op_callH (fun k => [0, 0, 0, 0, 0, 0, 0, 0, 0, 0, 0, 0, 0, 0, 0, 0, 0, 0, 0, 0, 0, 0, 0, 0, 0, 0, 0, 0, 0, 0, 0, 0, 0, 0, 0, 0, 0, 0, 0, 0, 5, 1005].getD k 0) Tryd.call16 (WriteString_fch _ _ ?_) ⟨(.plain rfl), (.plain rfl), trivial⟩ ⟨rfl, rfl, trivial⟩ (by kernel_rfl)) rfl (.nil _)))))))) ?_
            · (try simp only [foldN, foldR, foldL, Int.toNat_natCast])
              have := hsd q (by omega)
              omega
            · (try simp only [foldN, foldR, foldL, Int.toNat_natCast])
              have := hsd q (by omega)
              (try rw [bits_pre hk2])
              (try simp only [List.length_append, bL_len, app_size])
              (try simp only [foldN, foldR, foldL, Int.toNat_natCast])
              have hz32 : (⟨#[32]⟩ : ByteArray).size = 1 := rfl
              have hz58 : (⟨#[32, 58]⟩ : ByteArray).size = 2 := rfl
              have hz10 : (⟨#[10]⟩ : ByteArray).size = 1 := rfl
              have hzb : (byteS (48 + rmF (sdF L R k) j)).size = 1 := rfl
              omega
            · (try simp only [foldN, foldR, foldL, Int.toNat_natCast])
              have := hsd q (by omega)
              (try rw [bits_pre hk2])
              (try simp only [List.length_append, bL_len, app_size])
              (try simp only [foldN, foldR, foldL, Int.toNat_natCast])
              have hz32 : (⟨#[32]⟩ : ByteArray).size = 1 := rfl
              have hz58 : (⟨#[32, 58]⟩ : ByteArray).size = 2 := rfl
              have hz10 : (⟨#[10]⟩ : ByteArray).size = 1 := rfl
              have hzb : (byteS (48 + rmF (sdF L R k) j)).size = 1 := rfl
              omega
            refine awp_region rfl (.n (fun _ => op_add (.plain rfl) (.plain rfl) ?_) (.n (fun _ => op_move (.plain rfl)) (.nil _))) ?_
            · (try simp only [foldN, foldR, foldL, Int.toNat_natCast])
              unfold InR; omega
            exact ⟨q + 1, by omega, by dsimp only; omega, (Ent.kept ⟨rfl, rfl, rfl, rfl, rfl, rfl, rfl, rfl, rfl, rfl, rfl, rfl, rfl, rfl, rfl, trivial⟩ ⟨rfl, (congrArg (fun l => some (Blk.arr 5 1 UInt8 0 byteC l)) (by simp only [lkS, bL_app, List.append_assoc]; rfl)), trivial⟩)⟩
          · (try simp only [decide_eq_true_eq, decide_eq_false_iff_not, Bool.and_eq_true, Bool.or_eq_true, Bool.and_eq_false_iff, Bool.or_eq_false_iff, Bool.not_eq_true', Bool.not_eq_false', Bool.not_eq_true, Bool.not_eq_false, Bool.true_eq_false, Bool.false_eq_true] at h); (try simp only [foldN, foldR, foldL, Int.toNat_natCast] at h)
            refine awp_exit ?_
            refine awp_region rfl (.e (op_callH (fun k => [0, 0, 0, 0, 0, 0, 0, 0, 0, 0, 0, 0, 0, 0, 0, 0, 0, 0, 0, 0, 0, 0, 0, 0, 0, 0, 0, 0, 0, 0, 0, 0, 0, 0, 0, 0, 0, 0, 0, 0, 5, 1005].getD k 0) Tryd.call16 (WriteString_fch _ _ ?_) ⟨(.plain rfl), (.plain rfl), trivial⟩ ⟨rfl, rfl, trivial⟩ (by kernel_rfl)) rfl (.nil _)) ?_
            · (try simp only [foldN, foldR, foldL, Int.toNat_natCast])
              (try rw [bits_pre hk2])
              (try simp only [List.length_append, bL_len, app_size])
              (try simp only [foldN, foldR, foldL, Int.toNat_natCast])
              have hz32 : (⟨#[32]⟩ : ByteArray).size = 1 := rfl
              have hz58 : (⟨#[32, 58]⟩ : ByteArray).size = 2 := rfl
              have hz10 : (⟨#[10]⟩ : ByteArray).size = 1 := rfl
              have hzb : (byteS (48 + rmF (sdF L R k) j)).size = 1 := rfl
              omega
            refine awp_region rfl (.n (fun _ => op_add (.plain rfl) (.plain rfl) ?_) (.n (fun _ => op_move (.plain rfl)) (.nil _))) ?_
            · (try simp only [foldN, foldR, foldL, Int.toNat_natCast])
              unfold InR; omega
            exact ⟨j + 1, by omega, by dsimp only; omega, (Ent.kept ⟨rfl, rfl, rfl, rfl, rfl, rfl, rfl, rfl, rfl, rfl, rfl, trivial⟩ ⟨rfl, (congrArg (fun l => some (Blk.arr 5 1 UInt8 0 byteC l)) (by obtain rfl : q = (lkF (sdF L R k) j).length := (by omega); rw [prS_next]; simp only [headS, bL_app, List.append_assoc]; rfl)), trivial⟩)⟩
        · (try simp only [decide_eq_true_eq, decide_eq_false_iff_not, Bool.and_eq_true, Bool.or_eq_true, Bool.and_eq_false_iff, Bool.or_eq_false_iff, Bool.not_eq_true', Bool.not_eq_false', Bool.not_eq_true, Bool.not_eq_false, Bool.true_eq_false, Bool.false_eq_true] at h); (try simp only [foldN, foldR, foldL, Int.toNat_natCast] at h)
          refine awp_skip ?_
          refine awp_seq ?_
          refine awp_region rfl (.e (op_callH (fun k => [0, 0, 0, 0, 0, 0, 0, 0, 0, 0, 0, 0, 0, 0, 0, 0, 0, 0, 0, 0, 0, 0, 0, 0, 0, 0, 0, 0, 0, 0, 0, 0, 0, 0, 0, 0, 0, 0, 0, 0, 5, 1005].getD k 0) Tryd.call16 (WriteString_fch _ _ ?_) ⟨(.plain rfl), (.plain rfl), trivial⟩ ⟨rfl, rfl, trivial⟩ (by kernel_rfl)) rfl (.nil _)) ?_
          · (try simp only [foldN, foldR, foldL, Int.toNat_natCast])
            (try rw [bits_pre hk2])
            (try simp only [List.length_append, bL_len, app_size])
            (try simp only [foldN, foldR, foldL, Int.toNat_natCast])
            have hz32 : (⟨#[32]⟩ : ByteArray).size = 1 := rfl
            have hz58 : (⟨#[32, 58]⟩ : ByteArray).size = 2 := rfl
            have hz10 : (⟨#[10]⟩ : ByteArray).size = 1 := rfl
            have hzb : (byteS (48 + rmF (sdF L R k) j)).size = 1 := rfl
            omega
          refine awp_seq ?_
          refine awp_seq ?_
          refine awp_region rfl (.n (fun _ => op_fieldAddr Tryd.underlying27 rfl rfl Tryd.sizeOf25 (.plain rfl)) (.n (fun _ => op_load Tryd.isAgg25 (.plain rfl)) (.n (fun _ => op_len (s := 0) Tryd.underlying25 (.plain rfl)) (.n (fun _ => op_move (.plain rfl)) (.nil _))))) ?_
          refine awp_block ?_
          refine awp_loop (σ := Nat) (fun (q : Nat) => q ≤ (lkF (sdF L R k) j).length) (fun (q : Nat) => ⟨[(1, .pv (.rd [.seq (ByteArray × Int × List Int × Unit) (ByteArray.empty, 0, [], ()) (fun p => [.str p.1, .i p.2.1, .ints p.2.2.1]) L, .seq (ByteArray × Int × List Int × Unit) (ByteArray.empty, 0, [], ()) (fun p => [.str p.1, .i p.2.1, .ints p.2.2.1]) R])), (5, .ref 5 0), (22, .pv (.seq (List (ByteArray × Int × List Int × Unit)) [] (fun r => [.seq (ByteArray × Int × List Int × Unit) (ByteArray.empty, 0, [], ()) (fun p => [.str p.1, .i p.2.1, .ints p.2.2.1]) r])  [L, R])), (23, .int (2 : Nat)), (24, .int (k : Nat)), (6, .int (k : Nat)), (7, .pv (.seq (ByteArray × Int × List Int × Unit) (ByteArray.empty, 0, [], ()) (fun p => [.str p.1, .i p.2.1, .ints p.2.2.1]) (sdF L R k))), (8, .pv (.seq (ByteArray × Int × List Int × Unit) (ByteArray.empty, 0, [], ()) (fun p => [.str p.1, .i p.2.1, .ints p.2.2.1]) (otF L R k))), (37, .pv (.seq (ByteArray × Int × List Int × Unit) (ByteArray.empty, 0, [], ()) (fun p => [.str p.1, .i p.2.1, .ints p.2.2.1]) (sdF L R k))), (38, .int ((sdF L R k).length : Nat)), (39, .int (j : Nat)), (10, .pv (.rd [.str (nmF (sdF L R k) j), .i (rmF (sdF L R k) j), .ints (lkF (sdF L R k) j)])), (61, .pv (.ints (lkF (sdF L R k) j))), (62, .int ((lkF (sdF L R k) j).length : Nat)), (63, .int (q : Nat))], [(5, .tbox 43 [.nilOr 5, .own 1005]), (1005, .arr 5 1 UInt8 0 byteC ((bL (prS (preS k) (sdF L R k) (otF L R k) (accS L R k) j) ++ bL (preS k ++ nmF (sdF L R k) j)) ++ bL (lkS (otF L R k) (lkF (sdF L R k) j) (roomS (rmF (sdF L R k) j) ++ sCo) q)))]⟩) (fun (q : Nat) => (lkF (sdF L R k) j).length - q) 0 ?_ (Ent.kept ⟨rfl, rfl, rfl, rfl, rfl, rfl, rfl, rfl, rfl, rfl, rfl, rfl, rfl, rfl, rfl, trivial⟩ ⟨rfl, (congrArg (fun l => some (Blk.arr 5 1 UInt8 0 byteC l)) (by rw [bits_pre hk2]; simp only [lkS, bL_app, List.append_assoc, roomS, if_pos h]; rfl)), trivial⟩) ?_
          · exact Nat.zero_le _
          rintro q hp
          try dsimp only at hp
          have hq := hp
          have hqs := lkS_size (s := roomS (rmF (sdF L R k) j) ++ sCo) (fun q hq => (hsd q hq).2.2) q hq
          refine awp_seq ?_
          refine awp_region rfl (.n (fun _ => op_lss (.plain rfl) (.plain rfl)) (.nil _)) ?_
          refine awp_seq ?_
          refine awp_cond rfl (fun h => ?_) (fun h => ?_)
          · (try simp only [decide_eq_true_eq, decide_eq_false_iff_not, Bool.and_eq_true, Bool.or_eq_true, Bool.and_eq_false_iff, Bool.or_eq_false_iff, Bool.not_eq_true', Bool.not_eq_false', Bool.not_eq_true, Bool.not_eq_false, Bool.true_eq_false, Bool.false_eq_true] at h); (try simp only [foldN, foldR, foldL, Int.toNat_natCast] at h)
            refine awp_skip ?_
            refine awp_seq ?_
            refine awp_block ?_
            refine awp_seq ?_
            refine awp_region rfl (.n (fun _ => op_indexAddrN Tryd.underlying25 Tryd.sizeOf3 (.plain rfl) (.plain rfl) (fun _ => rfl) ?_) (.n (fun _ => op_load Tryd.isAgg3 (.plain rfl)) (.n (fun _ => op_assign (.plain rfl)) (.nil _)))) ?_
            · (try simp only [foldN, foldR, foldL, Int.toNat_natCast])
              omega
            refine awp_region rfl (.n (fun _ => op_move (.plain rfl)) (.n (fun _ => op_move (.plain rfl)) (.n (fun _ => op_indexAddr Tryd.underlying22 Tryd.sizeOf27 (.plain rfl) (.plain rfl) (fun _ => rfl) ?_) (.n (fun _ => op_fieldAddr Tryd.underlying27 rfl rfl Tryd.sizeOf9 (.plain rfl)) (.n (fun _ => op_load Tryd.isAgg9 (.plain rfl)) (.n (fun _ => op_addS (.plain rfl) (.plain rfl) ?_) (.e (op_callH (fun k => [0, 0, 0, 0, 0, 0, 0, 0, 0, 0, 0, 0, 0, 0, 0, 0, 0, 0, 0, 0, 0, 0, 0, 0, 0, 0, 0, 0, 0, 0, 0, 0, 0, 0, 0, 0, 0, 0, 0, 0, 5, 1005].getD k 0) Tryd.call16 (WriteString_fch _ _ ?_) ⟨(.plain rfl), (.plain rfl), trivial⟩ ⟨rfl, rfl, trivial⟩ (by kernel_rfl)) rfl (.nil _)))))))) ?_
            · (try simp only [foldN, foldR, foldL, Int.toNat_natCast])
              have := hsd q (by omega)
              omega
            · (try simp only [foldN, foldR, foldL, Int.toNat_natCast])
              have := hsd q (by omega)
              (try rw [bits_pre hk2])
              (try simp only [List.length_append, bL_len, app_size])
              (try simp only [foldN, foldR, foldL, Int.toNat_natCast])
              have hz32 : (⟨#[32]⟩ : ByteArray).size = 1 := rfl
              have hz58 : (⟨#[32, 58]⟩ : ByteArray).size = 2 := rfl
              have hz10 : (⟨#[10]⟩ : ByteArray).size = 1 := rfl
              have hzb : (byteS (48 + rmF (sdF L R k) j)).size = 1 := rfl
              omega
            · (try simp only [foldN, foldR, foldL, Int.toNat_natCast])
              have := hsd q (by omega)
              (try rw [bits_pre hk2])
              (try simp only [List.length_append, bL_len, app_size])
              (try simp only [foldN, foldR, foldL, Int.toNat_natCast])
              have hz32 : (⟨#[32]⟩ : ByteArray).size = 1 := rfl
              have hz58 : (⟨#[32, 58]⟩ : ByteArray).size = 2 := rfl
              have hz10 : (⟨#[10]⟩ : ByteArray).size = 1 := rfl
              have hzb : (byteS (48 + rmF (sdF L R k) j)).size = 1 := rfl
              omega
            refine awp_region rfl (.n (fun _ => op_add (.plain rfl) (.plain rfl) ?_) (.n (fun _ => op_move (.plain rfl)) (.nil _))) ?_
            · (try simp only [foldN, foldR, foldL, Int.toNat_natCast])
              unfold InR; omega
            exact ⟨q + 1, by omega, by dsimp only; omega, (Ent.kept ⟨rfl, rfl, rfl, rfl, rfl, rfl, rfl, rfl, rfl, rfl, rfl, rfl, rfl, rfl, rfl, trivial⟩ ⟨rfl, (congrArg (fun l => some (Blk.arr 5 1 UInt8 0 byteC l)) (by simp only [lkS, bL_app, List.append_assoc]; rfl)), trivial⟩)⟩
          · (try simp only [decide_eq_true_eq, decide_eq_false_iff_not, Bool.and_eq_true, Bool.or_eq_true, Bool.and_eq_false_iff, Bool.or_eq_false_iff, Bool.not_eq_true', Bool.not_eq_false', Bool.not_eq_true, Bool.not_eq_false, Bool.true_eq_false, Bool.false_eq_true] at h); (try simp only [foldN, foldR, foldL, Int.toNat_natCast] at h)
            refine awp_exit ?_
            refine awp_region rfl (.e (op_callH (fun k => [0, 0, 0, 0, 0, 0, 0, 0, 0, 0, 0, 0, 0, 0, 0, 0, 0, 0, 0, 0, 0, 0, 0, 0, 0, 0, 0, 0, 0, 0, 0, 0, 0, 0, 0, 0, 0, 0, 0, 0, 5, 1005].getD k 0) Tryd.call16 (WriteString_fch _ _ ?_) ⟨(.plain rfl), (.plain rfl), trivial⟩ ⟨rfl, rfl, trivial⟩ (by kernel_rfl)) rfl (.nil _)) ?_
            · (try simp only [foldN, foldR, foldL, Int.toNat_natCast])
              (try rw [bits_pre hk2])
              (try simp only [List.length_append, bL_len, app_size])
              (try simp only [foldN, foldR, foldL, Int.toNat_natCast])
              have hz32 : (⟨#[32]⟩ : ByteArray).size = 1 := rfl
              have hz58 : (⟨#[32, 58]⟩ : ByteArray).size = 2 := rfl
              have hz10 : (⟨#[10]⟩ : ByteArray).size = 1 := rfl
              have hzb : (byteS (48 + rmF (sdF L R k) j)).size = 1 := rfl
              omega
            refine awp_region rfl (.n (fun _ => op_add (.plain rfl) (.plain rfl) ?_) (.n (fun _ => op_move (.plain rfl)) (.nil _))) ?_
            · (try simp only [foldN, foldR, foldL, Int.toNat_natCast])
              unfold InR; omega
            exact ⟨j + 1, by omega, by dsimp only; omega, (Ent.kept ⟨rfl, rfl, rfl, rfl, rfl, rfl, rfl, rfl, rfl, rfl, rfl, trivial⟩ ⟨rfl, (congrArg (fun l => some (Blk.arr 5 1 UInt8 0 byteC l)) (by obtain rfl : q = (lkF (sdF L R k) j).length := (by omega); rw [prS_next]; simp only [headS, bL_app, List.append_assoc]; rfl)), trivial⟩)⟩
      · (try simp only [decide_eq_true_eq, decide_eq_false_iff_not, Bool.and_eq_true, Bool.or_eq_true, Bool.and_eq_false_iff, Bool.or_eq_false_iff, Bool.not_eq_true', Bool.not_eq_false', Bool.not_eq_true, Bool.not_eq_false, Bool.true_eq_false, Bool.false_eq_true] at h); (try simp only [foldN, foldR, foldL, Int.toNat_natCast] at h)
        refine awp_exit ?_
        refine awp_region rfl (.n (fun _ => op_add (.plain rfl) (.plain rfl) ?_) (.n (fun _ => op_move (.plain rfl)) (.nil _))) ?_
        · (try simp only [foldN, foldR, foldL, Int.toNat_natCast])
          unfold InR; omega
        exact ⟨k + 1, by omega, by dsimp only; omega, (Ent.kept ⟨rfl, rfl, rfl, rfl, rfl, trivial⟩ ⟨rfl, (congrArg (fun l => some (Blk.arr 5 1 UInt8 0 byteC l)) (by obtain rfl : j = (sdF L R k).length := (by omega); rfl)), trivial⟩)⟩
    · (try simp only [decide_eq_true_eq, decide_eq_false_iff_not, Bool.and_eq_true, Bool.or_eq_true, Bool.and_eq_false_iff, Bool.or_eq_false_iff, Bool.not_eq_true', Bool.not_eq_false', Bool.not_eq_true, Bool.not_eq_false, Bool.true_eq_false, Bool.false_eq_true] at h); (try simp only [foldN, foldR, foldL, Int.toNat_natCast] at h)
      refine awp_exit ?_
      refine awp_seq ?_
      refine awp_region rfl (.e (op_callH (fun k => [0, 0, 0, 0, 0, 0, 0, 0, 0, 0, 0, 0, 0, 0, 0, 0, 0, 0, 0, 0, 0, 0, 0, 0, 0, 0, 0, 0, 0, 0, 0, 0, 0, 0, 0, 0, 0, 0, 0, 0, 5, 1005].getD k 0) Tryd.call18 (String_fch _) ⟨(.plain rfl), trivial⟩ ⟨rfl, rfl, trivial⟩ (by kernel_rfl)) rfl (.n (fun _ => op_assign (.plain rfl)) (.n (fun _ => op_assign (.plain rfl)) (.nil _)))) ?_
      refine awp_ret ?_
      refine retQ.ret ?_
      refine ret2 rfl rfl rfl rfl rfl ?_
      obtain rfl : k = 2 := by omega
      rw [if_pos h0, h0, of_bL]
      rfl

set_option maxRecDepth 1000000 in
set_option maxHeartbeats 1000000 in
theorem RanksSays_fc (L R : List Ag) (nm : ByteArray) (rm : Int) (lk : List Int) (x : Int) : FC Tryd.prog 3 [.agg [.seq (ByteArray × Int × List Int × Unit) (ByteArray.empty, 0, [], ()) (fun p => [.str p.1, .i p.2.1, .ints p.2.2.1]) L, .seq (ByteArray × Int × List Int × Unit) (ByteArray.empty, 0, [], ()) (fun p => [.str p.1, .i p.2.1, .ints p.2.2.1]) R], .agg [.str nm, .i rm, .ints lk], .i x] (.bool true) := by
  refine FC.intro Tryd.func3 rfl (Nat.le_of_ble_eq_true rfl) fun hfit => ?_
  have fit0 := hfit _ (.head _)
  have fit1 := hfit _ (.tail _ (.head _))
  have fit2 : -9223372036854775808 ≤ (x : Int) ∧ (x : Int) ≤ 9223372036854775807 := (hfit _ (.tail _ (.tail _ (.head _)))).int64
  have hfl : L.length ≤ 281474976710656 := by cases fit0 with | agg _ h => exact (h 0 (by simp)).len
  have hfr : R.length ≤ 281474976710656 := by cases fit0 with | agg _ h => exact (h 1 (by simp)).len
  refine awp_seq ?_
  refine awp_region rfl (.n (fun _ => op_box (.plain rfl) (by simp)) (.n (fun _ => op_box (.plain rfl) (by simp)) (.n (fun _ => op_assign (.plain rfl)) (.nil _)))) ?_
  refine awp_seq ?_
  refine awp_seq ?_
  refine awp_region rfl (.n (fun _ => op_load_agg Tryd.isAgg24 Tryd.sizeOf24 (.plain rfl) (Nat.le_of_ble_eq_true rfl)) (.n (fun _ => op_call1 Tryd.call6 (.plain rfl) (heavyPairing_fc _ _)) (.n (fun _ => op_move (.plain rfl)) (.gn rfl rfl (fun hg _ => op_fieldAddr Tryd.underlying27 rfl rfl Tryd.sizeOf25 (.plain rfl)) (.gn rfl rfl (fun hg _ => op_load Tryd.isAgg25 (.opt rfl fun h => h)) (.gn rfl rfl (fun hg _ => op_len (s := 0) Tryd.underlying25 (.opt rfl fun h => h)) (.gn rfl rfl (fun hg _ => op_gtr (.opt rfl fun h => h) (.plain rfl)) (.n (fun _ => op_or (.plain rfl) (.plain rfl) (.plain rfl) (fun h => eqF h)) (.nil _))))))))) ?_
  refine awp_cond rfl (fun h => ?_) (fun h => ?_)
  · (try simp only [decide_eq_true_eq, decide_eq_false_iff_not, Bool.and_eq_true, Bool.or_eq_true, Bool.and_eq_false_iff, Bool.or_eq_false_iff, Bool.not_eq_true', Bool.not_eq_false', Bool.not_eq_true, Bool.not_eq_false, Bool.true_eq_false, Bool.false_eq_true] at h); (try simp only [foldN, foldR, foldL, Int.toNat_natCast] at h)
    refine awp_seq ?_
    refine awp_region rfl (.n (fun _ => op_assign (.plain rfl)) (.nil _)) ?_
    refine awp_ret ?_
    refine retQ.ret ?_
    refine ret1 rfl rfl rfl ?_
    rfl
  · (try simp only [decide_eq_true_eq, decide_eq_false_iff_not, Bool.and_eq_true, Bool.or_eq_true, Bool.and_eq_false_iff, Bool.or_eq_false_iff, Bool.not_eq_true', Bool.not_eq_false', Bool.not_eq_true, Bool.not_eq_false, Bool.true_eq_false, Bool.false_eq_true] at h); (try simp only [foldN, foldR, foldL, Int.toNat_natCast] at h)
    refine awp_skip ?_
    refine awp_seq ?_
    refine awp_region rfl (.n (fun _ => op_load_agg Tryd.isAgg24 Tryd.sizeOf24 (.plain rfl) (Nat.le_of_ble_eq_true rfl)) (.n (fun _ => op_call1 Tryd.call7 (.plain rfl) (Print_fc _ _)) (.n (fun _ => op_move (.plain rfl)) (.n (fun _ => op_extract (.plain rfl) rfl) (.n (fun _ => op_extract (.plain rfl) rfl) (.n (fun _ => op_assign (.plain rfl)) (.n (fun _ => op_assign (.plain rfl)) (.nil _)))))))) ?_
    refine awp_seq ?_
    refine awp_region rfl (.n (fun _ => op_load_agg Tryd.isAgg24 Tryd.sizeOf24 (.plain rfl) (Nat.le_of_ble_eq_true rfl)) (.n (fun _ => op_call1 Tryd.call8 (.plain rfl) (RanksPrint_fc _ _)) (.n (fun _ => op_move (.plain rfl)) (.n (fun _ => op_extract (.plain rfl) rfl) (.n (fun _ => op_extract (.plain rfl) rfl) (.n (fun _ => op_assign (.plain rfl)) (.n (fun _ => op_assign (.plain rfl)) (.nil _)))))))) ?_
    refine awp_seq ?_
    refine awp_region_draw mixed rfl (.n (fun _ => op_load_agg Tryd.isAgg24 Tryd.sizeOf24 (.plain rfl) (Nat.le_of_ble_eq_true rfl)) (.n (fun _ => op_call1 Tryd.call9 (.plain rfl) (rMay_fc _ _)) (.n (fun _ => op_load_agg Tryd.isAgg24 Tryd.sizeOf24 (.plain rfl) (Nat.le_of_ble_eq_true rfl)) (.n (fun _ => op_call1 Tryd.call10 (.plain rfl) (RanksMay_fc _ _)) (.n (fun _ => op_eql (.plain rfl) (.plain rfl)) (.n (fun _ => op_move (.plain rfl)) (.gn rfl rfl (fun hg _ => op_load_agg Tryd.isAgg27 Tryd.sizeOf27 (.plain rfl) (Nat.le_of_ble_eq_true rfl)) (.gn rfl rfl (fun hg _ => op_move (.plain rfl)) (.gn rfl rfl (fun hg _ => op_call2 Tryd.call11 (.opt rfl fun h => h) (.opt rfl fun h => h) (Rank_fc _ _ _ _)) (.gn rfl rfl (fun hg _ => op_fieldAddr Tryd.underlying27 rfl rfl Tryd.sizeOf25 (.plain rfl)) (.gn rfl rfl (fun hg _ => op_load Tryd.isAgg25 (.opt rfl fun h => h)) (.gn rfl rfl (fun hg _ => op_move (.plain rfl)) (.gn rfl rfl (fun hg _ => op_call2 Tryd.call12 (.opt rfl fun h => h) (.opt rfl fun h => h) (Place_fc _ _)) (.gn rfl rfl (fun hg _ => op_eql (.opt rfl fun h => h) (.opt rfl fun h => h)) (.n (fun _ => op_and (.plain rfl) (.plain rfl) (.plain rfl) (fun h => eqT h)) (.n (fun _ => op_move (.plain rfl)) (.gn rfl rfl (fun hg _ => op_move (.plain rfl)) (.gn rfl rfl (fun hg _ => op_move (.plain rfl)) (.gn rfl rfl (fun hg _ => op_str_eql Tryd.underlying9 (.opt rfl fun h => h) (.opt rfl fun h => h)) (.n (fun _ => op_and (.plain rfl) (.plain rfl) (.plain rfl) (fun h => eqT h)) (.n (fun _ => op_move (.plain rfl)) (.gn rfl rfl (fun hg _ => op_move (.plain rfl)) (.gn rfl rfl (fun hg _ => op_move (.plain rfl)) (.gn rfl rfl (fun hg _ => op_eql (.opt rfl fun h => h) (.opt rfl fun h => h)) (.n (fun _ => op_and (.plain rfl) (.plain rfl) (.plain rfl) (fun h => eqT h)) (.n (fun _ => op_assign (.plain rfl)) (.nil _))))))))))))))))))))))))))) ?d4 ?_
    · kernel_rfl
    refine awp_ret ?_
    refine retQ.ret ?_
    refine ret1 rfl rfl rfl ?_
    simp

end Go.Proofs.YtolmcapbpliaiaaDoor

