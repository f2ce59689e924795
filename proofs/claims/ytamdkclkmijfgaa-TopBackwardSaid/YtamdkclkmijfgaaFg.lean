/- The game in which each chooses all its choices at once, by both ways. Conditions: each theorem names its own. -/
import Derived.Test.YtamdkclkmijfgaaProg
import Derived.Test.YtamdkclkmijfgaaFf
namespace Go.Proofs.Ytamdkclkmijfgaa
open Go.Abs
set_option linter.unusedVariables false
set_option linter.unusedSimpArgs false


section
variable {P : Int} {N : List Nd}
def zF (N : List Nd) : List Int := List.replicate N.length 0
def wyU (N : List Nd) (who : Int) (i : Nat) : List (List Int) := wyT N who (upF N.length) (zF N) i
def pRow (N : List Nd) (who : Int) : List (List Int) := wyU N who N.length
theorem up_get {n i : Nat} (h : i < n) : (upF n).getD i 0 = (i : Int) := by simp [upF, List.getD_eq_getElem?_getD, h]
theorem up_in {n : Nat} : ∀ x, x ∈ upF n → 0 ≤ x ∧ x < (n : Int) := fun x hx => by
  unfold upF at hx
  obtain ⟨i, hi, rfl⟩ := List.mem_map.1 hx
  have := List.mem_range.1 hi; omega
theorem wyU_succ {who : Int} {i : Nat} (hi : i < N.length) (c : List Int) : wyT N who (upF N.length) c (i + 1) = wyS N who i (wyT N who (upF N.length) c i) := by rw [wyT, up_get hi, Int.toNat_natCast]
theorem z_get {j : Nat} (hj : j < N.length) : (zF N).getD j 0 = 0 := by simp [zF, List.getD_eq_getElem?_getD, hj]
@[simp] theorem z_len : (zF N).length = N.length := by simp [zF]
theorem z_ok : ChOk N (zF N) := ⟨z_len, fun i hi => by rw [z_get hi]; exact ⟨by omega, .inl rfl⟩⟩
theorem wyU_skip {who : Int} {i : Nat} (hi : i < N.length) (h : ¬ ownB N who i) : wyU N who i = wyU N who (i + 1) := by unfold wyU; rw [wyU_succ hi, wyS_not h]
theorem wyU_take {who : Int} {i k : Nat} (hi : i < N.length) (h : ownB N who i) (hk : k ≤ (wyU N who i).length) (hk2 : ¬ (k : Int) < (wyU N who i).length) : wyM N i (wyU N who i) k = wyU N who (i + 1) := by
  obtain rfl : k = (wyU N who i).length := by omega
  show _ = wyT N who (upF N.length) (zF N) (i + 1)
  rw [wyU_succ hi, wyS_own h]; rfl
theorem wyU_mono {who : Int} {i : Nat} (hi : i ≤ N.length) : (wyU N who i).length ≤ (pRow N who).length := by
  have := wyT_mono (N := N) (who := who) (l := upF N.length) (c := zF N) (i := i) (N.length - i)
  rw [show i + (N.length - i) = N.length by omega] at this
  exact this
def plL (N : List Nd) (who : Int) : List (List Int) := if (pRow N who).length ≤ 5 then pRow N who else []
def plB (N : List Nd) (who : Int) : Bool := decide ((pRow N who).length ≤ 5)
abbrev plRes (N : List Nd) (who : Int) : PV := .tup [.rows (plL N who), .bool (plB N who)]
theorem plL_eq {who : Int} (h : (pRow N who).length ≤ 5) : plL N who = pRow N who := if_pos h
theorem pl_no {who : Int} {i k : Nat} (hi : i < N.length) (h : ownB N who i) (hk : k ≤ (wyU N who i).length) (hk2 : ¬ (k : Int) < (wyU N who i).length) (h5 : 5 < ((wyM N i (wyU N who i) k).length : Int)) : PV.tup [.rows [], .bool false] = plRes N who := by
  rw [wyU_take hi h hk hk2] at h5
  have := wyU_mono (N := N) (who := who) (i := i + 1) (by omega)
  unfold plRes plL plB; rw [if_neg (by omega), decide_eq_false (by omega)]
theorem pl_yes {who : Int} {i : Nat} (hi : i ≤ N.length) (hi2 : ¬ (i : Int) < N.length) (h5 : (wyU N who i).length ≤ 5) : PV.tup [.rows (wyU N who i), .bool true] = plRes N who := by
  obtain rfl : i = N.length := by omega
  have h5 : (pRow N who).length ≤ 5 := h5
  unfold plRes plL plB; rw [if_pos h5, decide_eq_true h5]; rfl
/-! ### Both together -/
def addL (n : Nat) (p q : List Int) : List Int := mapr n fun j => p.getD j 0 + q.getD j 0
def addTo (n : Nat) (p q : List Int) (s : Nat) : List Int := mapr n fun j => if j < s then p.getD j 0 + q.getD j 0 else p.getD j 0
theorem flatMap_same {α β : Type} {f g : α → List β} : ∀ {l : List α}, (∀ x, x ∈ l → f x = g x) → l.flatMap f = l.flatMap g
  | [], _ => rfl
  | x :: l, h => by simp only [List.flatMap_cons, h x List.mem_cons_self, flatMap_same fun y hy => h y (List.mem_cons_of_mem _ hy)]
theorem wy_add {p : List Int} (hp : p.length = N.length) (h0 : ∀ x, x < N.length → ownB N 1 x → p.getD x 0 = 0) : ∀ i, i ≤ N.length → wyT N 1 (upF N.length) p i = (wyU N 1 i).map (addL N.length p)
  | 0, _ => by
    show [p] = [addL N.length p (zF N)]
    congr 1
    refine list_eqI (by simp [addL, hp]) fun j hj => ?_
    unfold addL
    rw [mapr_getD 0 (by omega), z_get (by omega)]; omega
  | i + 1, hi => by
    have ih := wy_add hp h0 i (by omega)
    have e1 : wyU N 1 (i + 1) = wyS N 1 i (wyU N 1 i) := wyU_succ (by omega) _
    rw [wyU_succ (by omega), ih, e1]
    by_cases ho : ownB N 1 i
    · rw [wyS_own ho, wyS_own ho]
      unfold wyM
      rw [List.take_length, List.take_length, List.flatMap_map, List.map_flatMap]
      refine flatMap_same fun d hd => ?_
      have hdl := (wyT_ok (c := zF N) z_len i d hd).len
      unfold wyR mapr
      rw [List.map_map]
      refine List.map_congr_left fun j hj => ?_
      simp only [Function.comp]
      refine list_eqI (by simp [addL]) fun x hx => ?_
      have hxN : x < N.length := by simpa [addL] using hx
      rw [getD_setI _ (by simp [addL]; omega)]
      unfold addL
      rw [mapr_getD 0 hxN, mapr_getD 0 hxN, getD_setI _ (by omega)]
      split
      · rename_i e; subst e; rw [h0 x hxN ho]; omega
      · rfl
    · rw [wyS_not ho, wyS_not ho]
theorem row_zero {p : List Int} (hp : p ∈ pRow N 0) : p.length = N.length ∧ ChOk N p ∧ ∀ x, x < N.length → ownB N 1 x → p.getD x 0 = 0 := by
  have h := wyT_ok (c := zF N) z_len _ p hp
  refine ⟨h.len, wyT_ch z_ok hp, fun x hx ho => ?_⟩
  rw [h.oth x hx fun o => by have := ho.1; have := o.1; omega]
  exact z_get hx
theorem both_ok {p q : List Int} (hp : p ∈ pRow N 0) (hq : q ∈ pRow N 1) : ChOk N (addL N.length p q) := by
  obtain ⟨h1, h2, h3⟩ := row_zero hp
  refine wyT_ch (who := 1) (l := upF N.length) (i := N.length) h2 ?_
  rw [wy_add h1 h3 _ (Nat.le_refl _)]
  exact List.mem_map.2 ⟨q, hq, rfl⟩
def nmE (P : Int) (N : List Nd) : Int := if treeE P N ≠ 0 then treeE P N else if ¬ P = 2 then 7 else if (pRow N 0).length ≤ 5 ∧ (pRow N 1).length ≤ 5 then 0 else 2
def nmF (N : List Nd) (w i j : Nat) : Int := (wF N (addL N.length ((pRow N 0).getD i []) ((pRow N 1).getD j [])) 0).getD w 0
def nmM (N : List Nd) (w : Nat) : List (List Int) := mapr (pRow N 0).length fun i => mapr (pRow N 1).length fun j => nmF N w i j
def nmG (P : Int) (N : List Nd) (w : Nat) : List (List Int) := if nmE P N = 0 then nmM N w else []
theorem nm_t (h : ¬ treeE P N = 0) : nmE P N = treeE P N := if_pos h
theorem nm_7 (h : treeE P N = 0) (h' : ¬ P = 2) : nmE P N = 7 := by unfold nmE; rw [if_neg (fun c => c h), if_pos h']
theorem nm_2 (h : treeE P N = 0) (h' : P = 2) (h5 : ¬ ((pRow N 0).length ≤ 5 ∧ (pRow N 1).length ≤ 5)) : nmE P N = 2 := by unfold nmE; rw [if_neg (fun c => c h), if_neg (fun c => c h'), if_neg h5]
theorem nm_0 (h : treeE P N = 0) (h' : P = 2) (h5 : (pRow N 0).length ≤ 5 ∧ (pRow N 1).length ≤ 5) : nmE P N = 0 := by unfold nmE; rw [if_neg (fun c => c h), if_neg (fun c => c h'), if_pos h5]
theorem nm_err {e : Int} (h : nmE P N = e) (h0 : ¬ e = 0) : PV.tup [.agg [.rows [], .rows []], .i e] = .tup [.agg [.rows (nmG P N 0), .rows (nmG P N 1)], .i (nmE P N)] := by
  unfold nmG; rw [h, if_neg h0, if_neg h0]
theorem nm_ok (h : nmE P N = 0) : PV.tup [.agg [.rows (nmM N 0), .rows (nmM N 1)], .i 0] = .tup [.agg [.rows (nmG P N 0), .rows (nmG P N 1)], .i (nmE P N)] := by
  unfold nmG; rw [h, if_pos rfl, if_pos rfl]
theorem addTo_zero {p q : List Int} (hp : p.length = N.length) : p = addTo N.length p q 0 := by
  refine list_eqI (by simp [addTo, hp]) fun j hj => ?_
  unfold addTo; rw [mapr_getD 0 (by omega), if_neg (by omega)]
@[simp] theorem addTo_len {n s : Nat} {p q : List Int} : (addTo n p q s).length = n := by simp [addTo]
theorem addTo_step {n s : Nat} {p q : List Int} (hs : s < n) : (addTo n p q s).set s ((addTo n p q s).getD s 0 + q.getD s 0) = addTo n p q (s + 1) := by
  unfold addTo
  rw [mapr_getD 0 hs, if_neg (by omega)]
  refine mapr_set (fun _ => if_pos (by omega)) fun j hj hne => ?_
  by_cases e : j < s
  · rw [if_pos e, if_pos (by omega)]
  · rw [if_neg e, if_neg (by omega)]
theorem addTo_end {n s : Nat} {p q : List Int} (hs : s = n) : addTo n p q s = addL n p q := by
  subst hs; exact mapr_same fun j hj => if_pos hj
/-! ### The reference's limit -/
def myT (N : List Nd) (p : Int) : Nat → Int
  | 0 => 1
  | i + 1 => if 0 < ((kidsF N i).length : Int) ∧ plF N i = p ∧ myT N p i ≤ 5 then myT N p i * ((kidsF N i).length : Int) else myT N p i
theorem my_len (hT : TrOk P N) {p : Int} : ∀ i, i ≤ N.length → 1 ≤ myT N p i ∧ myT N p i ≤ 25 ∧ (myT N p i ≤ 5 → myT N p i = ((wyU N p i).length : Nat)) ∧ (5 < myT N p i → 5 < (wyU N p i).length)
  | 0, _ => by simp [myT, wyU, wyT]
  | i + 1, hi => by
    obtain ⟨h1, h2, h3, h4⟩ := my_len hT (p := p) i (by omega)
    have e : (wyU N p (i + 1)).length = (wyU N p i).length * facF N p i := by
      have : wyU N p (i + 1) = wyS N p i (wyU N p i) := wyU_succ (by omega) _
      rw [this, wyS_len]
    have hg : (wyU N p i).length ≤ (wyU N p (i + 1)).length := wyT_grow
    unfold myT
    split
    · rename_i h
      have hk5 := (hT.inn i (by omega) (by omega)).2.2.2
      have hf : facF N p i = (kidsF N i).length := if_pos ⟨h.2.1, by omega⟩
      have hl := h3 h.2.2
      have h5 := Int.mul_le_mul h.2.2 (show ((kidsF N i).length : Int) ≤ 5 by omega) (by omega) (by omega)
      have h6 := Int.mul_le_mul h1 (show 1 ≤ ((kidsF N i).length : Int) by omega) (by omega) (by omega)
      have e2 : ((wyU N p (i + 1)).length : Int) = myT N p i * ((kidsF N i).length : Int) := by rw [e, hf, hl]; simp
      refine ⟨by omega, by omega, fun _ => e2.symm, fun c => by omega⟩
    · rename_i h
      refine ⟨h1, h2, fun c => ?_, fun c => by have := h4 c; omega⟩
      have hf : facF N p i = 1 := by
        unfold facF; rw [if_neg]; intro o; exact h ⟨by have := o.2; omega, o.1, c⟩
      rw [e, hf, Nat.mul_one]; exact h3 c
theorem many_in (hP : P = 2) (hT : TrOk P N) {i : Nat} (hi : i < N.length) (h : 0 < ((kidsF N i).length : Int) ∧ [myT N 0 i, myT N 1 i].getD (plF N i).toNat 0 ≤ 5) : [myT N 0 i, myT N 1 i].set (plF N i).toNat ([myT N 0 i, myT N 1 i].getD (plF N i).toNat 0 * ((kidsF N i).length : Int)) = [myT N 0 (i + 1), myT N 1 (i + 1)] := by
  have hin := hT.inn i hi (by omega)
  have : plF N i = 0 ∨ plF N i = 1 := by omega
  rcases this with e | e
  · rw [e] at h ⊢
    simp only [myT, e]
    simp only [Int.toNat_zero, List.getD_cons_zero] at h ⊢
    rw [if_pos ⟨h.1, trivial, h.2⟩, if_neg (by omega)]; rfl
  · rw [e] at h ⊢
    have e1 : (1 : Int).toNat = 1 := rfl
    simp only [myT, e]
    simp only [e1, List.getD_cons_succ, List.getD_cons_zero] at h ⊢
    rw [if_neg (by omega), if_pos ⟨h.1, trivial, h.2⟩]; rfl
theorem many_out (hP : P = 2) (hT : TrOk P N) {i : Nat} (hi : i < N.length) (h : ¬ (0 < ((kidsF N i).length : Int) ∧ [myT N 0 i, myT N 1 i].getD (plF N i).toNat 0 ≤ 5)) : [myT N 0 i, myT N 1 i] = [myT N 0 (i + 1), myT N 1 (i + 1)] := by
  by_cases hk : 0 < ((kidsF N i).length : Int)
  · have hin := hT.inn i hi (by omega)
    have : plF N i = 0 ∨ plF N i = 1 := by omega
    rcases this with e | e
    · rw [e] at h
      simp only [myT, e]
      simp only [Int.toNat_zero, List.getD_cons_zero] at h
      rw [if_neg (by omega), if_neg (by omega)]
    · rw [e] at h
      have e1 : (1 : Int).toNat = 1 := rfl
      simp only [e1, List.getD_cons_succ, List.getD_cons_zero] at h
      simp only [myT, e]
      rw [if_neg (by omega), if_neg (by omega)]
  · simp only [myT]
    rw [if_neg (by omega), if_neg (by omega)]
theorem many_big (hT : TrOk P N) (h : 5 < myT N 0 N.length ∨ 5 < myT N 1 N.length) : ¬ ((pRow N 0).length ≤ 5 ∧ (pRow N 1).length ≤ 5) := by
  have h1 := (my_len hT (p := 0) N.length (Nat.le_refl _)).2.2.2
  have h2 := (my_len hT (p := 1) N.length (Nat.le_refl _)).2.2.2
  intro c
  have c1 : (wyU N 0 N.length).length ≤ 5 := c.1
  have c2 : (wyU N 1 N.length).length ≤ 5 := c.2
  rcases h with h | h
  · have := h1 h; omega
  · have := h2 h; omega
theorem many_few (hT : TrOk P N) (h : ¬ 5 < myT N 0 N.length ∧ ¬ 5 < myT N 1 N.length) : (pRow N 0).length ≤ 5 ∧ (pRow N 1).length ≤ 5 := by
  have h1 := (my_len hT (p := 0) N.length (Nat.le_refl _)).2.2.1 (by omega)
  have h2 := (my_len hT (p := 1) N.length (Nat.le_refl _)).2.2.1 (by omega)
  have e1 : pRow N 0 = wyU N 0 N.length := rfl
  have e2 : pRow N 1 = wyU N 1 N.length := rfl
  rw [e1, e2]; omega
def rnB (N : List Nd) (i : Nat) : List (List Int) := wyT N 1 (upF N.length) ((pRow N 0).getD i []) N.length
theorem rnB_eq {i : Nat} (hi : i < (pRow N 0).length) : rnB N i = (pRow N 1).map (addL N.length ((pRow N 0).getD i [])) := by
  obtain ⟨h1, h2, h3⟩ := row_zero (getD_mem (l := pRow N 0) [] hi)
  exact wy_add h1 h3 _ (Nat.le_refl _)
theorem rnB_len {i : Nat} (hi : i < (pRow N 0).length) : (rnB N i).length = (pRow N 1).length := by rw [rnB_eq hi]; simp
theorem rnB_get {i j : Nat} (hi : i < (pRow N 0).length) (hj : j < (pRow N 1).length) : (rnB N i).getD j [] = addL N.length ((pRow N 0).getD i []) ((pRow N 1).getD j []) := by
  rw [rnB_eq hi]
  simp [List.getD_eq_getElem?_getD, hj]
theorem rnB_ok {i j : Nat} (hi : i < (pRow N 0).length) (hj : j < (rnB N i).length) : ChOk N ((rnB N i).getD j []) := by
  rw [rnB_len hi] at hj
  rw [rnB_get hi hj]
  exact both_ok (getD_mem [] hi) (getD_mem [] hj)
theorem nm_snoc {w i j : Nat} (hi : i < (pRow N 0).length) (hj : j < (rnB N i).length) : (mapr j fun j => nmF N w i j) ++ [(wF N ((rnB N i).getD j []) 0).getD w 0] = mapr (j + 1) fun j => nmF N w i j := by
  rw [rnB_len hi] at hj
  rw [rnB_get hi hj, mapr_succ]; rfl
theorem nmr_snoc {w i j s : Nat} (hs : s = N.length) : (mapr j fun j => nmF N w i j) ++ [(wF N (addTo N.length ((pRow N 0).getD i []) ((pRow N 1).getD j []) s) 0).getD w 0] = mapr (j + 1) fun j => nmF N w i j := by rw [addTo_end hs, mapr_succ]; rfl
theorem nmr_row {w i j : Nat} (hj : j ≤ (pRow N 1).length) (hj2 : ¬ (j : Int) < (pRow N 1).length) : (mapr i fun i => mapr (pRow N 1).length fun j => nmF N w i j) ++ [mapr j fun j => nmF N w i j] = mapr (i + 1) fun i => mapr (pRow N 1).length fun j => nmF N w i j := by
  obtain rfl : j = (pRow N 1).length := by omega
  rw [mapr_succ]
theorem ch_bd (hT : TrOk P N) {c : List Int} (hC : ChOk N c) {i : Nat} (hi : i < N.length) : 0 ≤ c.getD i 0 ∧ c.getD i 0 ≤ 5 := by
  have h := hC.ok i hi
  refine ⟨h.1, ?_⟩
  rcases h.2 with h2 | h2
  · omega
  · have := (hT.inn i hi (by omega)).2.2.2; omega
theorem addTo_at {n s : Nat} {p q : List Int} (hs : s < n) : (addTo n p q s).getD s 0 = p.getD s 0 := by unfold addTo; rw [mapr_getD 0 hs, if_neg (by omega)]
theorem many_inr (hP : P = 2) (hT : TrOk P N) {i : Nat} (hi : i < N.length) (h : 0 < ((kidsF N i).length : Int) ∧ [myT N 0 i, myT N 1 i].getD (plF N i).toNat 0 ≤ 5) : InR ([myT N 0 i, myT N 1 i].getD (plF N i).toNat 0 * ((kidsF N i).length : Int)) := by
  have hin := hT.inn i hi (by omega)
  have h1 := (my_len hT (p := 0) i (by omega)).1
  have h2 := (my_len hT (p := 1) i (by omega)).1
  have hge : 1 ≤ [myT N 0 i, myT N 1 i].getD (plF N i).toNat 0 := by
    have : plF N i = 0 ∨ plF N i = 1 := by omega
    rcases this with e | e
    · rw [e]; exact h1
    · rw [e]; exact h2
  have h3 := Int.mul_le_mul h.2 (show ((kidsF N i).length : Int) ≤ 5 by omega) (by omega) (by omega)
  have h4 := Int.mul_nonneg (show 0 ≤ [myT N 0 i, myT N 1 i].getD (plF N i).toNat 0 by omega) (show 0 ≤ ((kidsF N i).length : Int) by omega)
  unfold InR; omega
theorem rn_len {i : Nat} (hi : i < (pRow N 0).length) {q : Nat} (hq : q ≤ N.length) : (wyT N 1 (upF N.length) ((pRow N 0).getD i []) q).length ≤ (pRow N 1).length := by
  obtain ⟨h1, _, h3⟩ := row_zero (getD_mem (l := pRow N 0) [] hi)
  rw [wy_add h1 h3 q hq, List.length_map]
  exact wyU_mono hq
theorem nm_row {w i j : Nat} (hi : i < (pRow N 0).length) (hj : j ≤ (rnB N i).length) (hj2 : ¬ (j : Int) < (rnB N i).length) : (mapr i fun i => mapr (pRow N 1).length fun j => nmF N w i j) ++ [mapr j fun j => nmF N w i j] = mapr (i + 1) fun i => mapr (pRow N 1).length fun j => nmF N w i j := by
  have : j = (pRow N 1).length := by rw [← rnB_len hi]; omega
  rw [this, mapr_succ]
end

theorem plans_fc (P : Int) (N : List Nd) (hT : TrOk P N) (who : Int) : FC Try.prog 43 [.agg [.i P, .seq (Int × List Int × List Int × Unit) (0, [], [], ()) (fun p => [.i p.1, .ints p.2.1, .ints p.2.2.1]) N], .i who] (.tup [.rows (plL N who), .bool (plB N who)]) := by
  refine FC.intro Try.func43 rfl (Nat.le_of_ble_eq_true rfl) fun hfit => ?_
  have fit0 := hfit _ (.head _)
  have fit1 : -9223372036854775808 ≤ (who : Int) ∧ (who : Int) ≤ 9223372036854775807 := (hfit _ (.tail _ (.head _))).int64
  have hp1 := hT.p1
  have hp5 := hT.p5
  have hn1 := hT.n1
  have hn40 := hT.n40
  refine awp_seq ?_
  refine awp_region rfl (.n (fun _ => op_box (.plain rfl) (by simp)) (.n (fun _ => op_assign (.plain rfl)) (.n (fun _ => op_assign (.plain rfl)) (.nil _)))) ?_
  refine awp_seq ?_
  refine awp_region rfl (.n (fun _ => op_fieldAddr Try.underlying24 rfl rfl Try.sizeOf22 (.plain rfl)) (.n (fun _ => op_load Try.isAgg22 (.plain rfl)) (.n (fun _ => op_len (s := 0) Try.underlying22 (.plain rfl)) (.e (OpT.given (op_make (α := Int) (d := 0) (f := (fun n => [.int .i64 n])) 17 0 ety25 (.plain rfl) (.plain rfl) (fun _ => rfl) rfl rfl ?_) rfl) rfl (.n (fun _ => op_slit (pp := [(0, _)]) (α := (List Int)) (d := []) (f := (fun r => [.seq Int 0 (fun n => [.int .i64 n]) r])) [_] ety60 rfl ⟨rfl, (.plain rfl), (by simp), trivial⟩ rfl (by decide) rfl) (.n (fun _ => op_assign (.plain rfl)) (.nil _))))))) ?_
  · (try simp only [foldK, foldP, foldL, Int.toNat_natCast])
    omega
  refine awp_seq ?_
  refine awp_seq ?_
  refine awp_region rfl (.n (fun _ => op_fieldAddr Try.underlying24 rfl rfl Try.sizeOf22 (.plain rfl)) (.n (fun _ => op_load Try.isAgg22 (.plain rfl)) (.n (fun _ => op_len (s := 0) Try.underlying22 (.plain rfl)) (.n (fun _ => op_move (.plain rfl)) (.nil _))))) ?_
  refine awp_block ?_
  refine awp_loop (σ := Nat) (fun (i : Nat) => i ≤ N.length ∧ (wyU N who i).length ≤ 5) (fun (i : Nat) => ⟨[(1, .int who), (2, .pv (.rd [.i P, .seq (Int × List Int × List Int × Unit) (0, [], [], ()) (fun p => [.i p.1, .ints p.2.1, .ints p.2.2.1]) N])), (6, .pv (.rows (wyU N who i))), (20, .pv (.seq (Int × List Int × List Int × Unit) (0, [], [], ()) (fun p => [.i p.1, .ints p.2.1, .ints p.2.2.1]) N)), (21, .int (N.length : Nat)), (22, .int (i : Nat))], []⟩) (fun (i : Nat) => N.length - i) 0 ?_ (Ent.kept ⟨rfl, rfl, rfl, rfl, rfl, rfl, trivial⟩ trivial) ?_
  · exact ⟨Nat.zero_le _, by simp [wyU, wyT]⟩
  rintro i hp
  try dsimp only at hp
  obtain ⟨hi, h5⟩ := hp
  refine awp_seq ?_
  refine awp_region rfl (.n (fun _ => op_lss (.plain rfl) (.plain rfl)) (.nil _)) ?_
  refine awp_seq ?_
  refine awp_cond rfl (fun h => ?_) (fun h => ?_)
  · (try simp only [decide_eq_true_eq, decide_eq_false_iff_not, Bool.and_eq_true, Bool.or_eq_true, Bool.and_eq_false_iff, Bool.or_eq_false_iff, Bool.not_eq_true', Bool.not_eq_false', Bool.not_eq_true, Bool.not_eq_false, Bool.true_eq_false, Bool.false_eq_true] at h); (try simp only [foldK, foldP, foldL] at h)
    refine awp_skip ?_
    refine awp_seq ?_
    refine awp_block ?_
    refine awp_seq ?_
    refine awp_region rfl (.n (fun _ => op_move (.plain rfl)) (.n (fun _ => op_indexAddrN Try.underlying22 Try.sizeOf51 (.plain rfl) (.plain rfl) (fun _ => rfl) ?_) (.n (fun _ => op_load_agg Try.isAgg51 Try.sizeOf51 (.plain rfl) (Nat.le_of_ble_eq_true rfl)) (.e (op_alloc 8 Try.zeroValue51 rfl rfl rfl) rfl (.n (fun _ => op_assign (.plain rfl)) (.e (op_storeRA Try.sizeOf51 (.plain rfl) (.plain rfl) rfl rfl (Nat.le_of_ble_eq_true rfl) rfl) rfl (.nil _))))))) ?_
    · (try simp only [foldK, foldP, foldL, Int.toNat_natCast])
      omega
    refine awp_seq ?_
    refine awp_seq ?_
    refine awp_region rfl (.n (fun _ => op_fieldAddrR Try.underlying51 rfl rfl Try.sizeOf3 (.plain rfl)) (.r (op_loadR Try.isAgg3 (.plain rfl) rfl rfl) (.n (fun _ => op_move (.plain rfl)) (.n (fun _ => op_neq (.plain rfl) (.plain rfl)) (.n (fun _ => op_move (.plain rfl)) (.gn rfl rfl (fun hg _ => op_fieldAddrR Try.underlying51 rfl rfl Try.sizeOf25 (.plain rfl)) (.gr rfl rfl (fun hg => op_loadR Try.isAgg25 (.opt rfl fun h => h) rfl rfl) (.gn rfl rfl (fun hg _ => op_len (s := 0) Try.underlying25 (.opt rfl fun h => h)) (.gn rfl rfl (fun hg _ => op_eql (.opt rfl fun h => h) (.plain rfl)) (.n (fun _ => op_or (.plain rfl) (.plain rfl) (.plain rfl) (fun h => eqF h)) (.nil _))))))))))) ?_
    refine awp_cond rfl (fun h => ?_) (fun h => ?_)
    · (try simp only [decide_eq_true_eq, decide_eq_false_iff_not, Bool.and_eq_true, Bool.or_eq_true, Bool.and_eq_false_iff, Bool.or_eq_false_iff, Bool.not_eq_true', Bool.not_eq_false', Bool.not_eq_true, Bool.not_eq_false, Bool.true_eq_false, Bool.false_eq_true] at h); (try simp only [foldK, foldP, foldL] at h)
      have hn := not_own h
      refine awp_exit ?_
      refine awp_region rfl (.n (fun _ => op_add (.plain rfl) (.plain rfl) ?_) (.n (fun _ => op_move (.plain rfl)) (.nil _))) ?_
      · (try simp only [foldK, foldP, foldL, Int.toNat_natCast])
        unfold InR; omega
      exact ⟨i + 1, ⟨by omega, by rw [← wyU_skip (by omega) hn]; exact h5⟩, by dsimp only; omega, (Ent.kept ⟨rfl, rfl, (by first | exact (congrArg (fun p => some (SV.pv p)) (congrArg PV.rows (wyU_skip (by omega) hn))) | exact (congrArg (fun p => some (SV.pv p)) (congrArg PV.rows (wyU_take (by omega) ho hk (by omega))))), rfl, rfl, rfl, trivial⟩ trivial)⟩
    · (try simp only [decide_eq_true_eq, decide_eq_false_iff_not, Bool.and_eq_true, Bool.or_eq_true, Bool.and_eq_false_iff, Bool.or_eq_false_iff, Bool.not_eq_true', Bool.not_eq_false', Bool.not_eq_true, Bool.not_eq_false, Bool.true_eq_false, Bool.false_eq_true] at h); (try simp only [foldK, foldP, foldL] at h)
      have ho := is_own h
      have hin := hT.inn i (by omega) (by omega)
      refine awp_skip ?_
      refine awp_seq ?_
      refine awp_region rfl (.n (fun _ => op_assign (.plain rfl)) (.nil _)) ?_
      refine awp_seq ?_
      refine awp_seq ?_
      refine awp_region rfl (.n (fun _ => op_move (.plain rfl)) (.n (fun _ => op_len (s := 0) Try.underlying60 (.plain rfl)) (.n (fun _ => op_move (.plain rfl)) (.nil _)))) ?_
      refine awp_block ?_
      refine awp_ent (Ent.begin 9 1009 25 1 (List Int) [] (fun r => [.seq Int 0 (fun n => [.int .i64 n]) r]) rfl rfl rfl) ?_
      refine awp_loop (σ := Nat) (fun (k : Nat) => k ≤ (wyU N who i).length) (fun (k : Nat) => ⟨[(1, .int who), (2, .pv (.rd [.i P, .seq (Int × List Int × List Int × Unit) (0, [], [], ()) (fun p => [.i p.1, .ints p.2.1, .ints p.2.2.1]) N])), (7, .int (i : Nat)), (8, .ref 8 0), (9, .own 1009), (20, .pv (.seq (Int × List Int × List Int × Unit) (0, [], [], ()) (fun p => [.i p.1, .ints p.2.1, .ints p.2.2.1]) N)), (21, .int (N.length : Nat)), (22, .int (i : Nat)), (37, .pv (.rows (wyU N who i))), (38, .int ((wyU N who i).length : Nat)), (39, .int (k : Nat))], [(8, .box [.int (plF N i), .pv (.ints (kidsF N i)), .pv (.ints (payF N i))]), (1009, .arr 25 1 (List Int) [] (fun r => [.seq Int 0 (fun n => [.int .i64 n]) r]) (wyM N i (wyU N who i) k))]⟩) (fun (k : Nat) => (wyU N who i).length - k) 0 ?_ (Ent.kept ⟨rfl, rfl, rfl, rfl, rfl, rfl, rfl, rfl, rfl, rfl, rfl, trivial⟩ ⟨rfl, rfl, trivial⟩) ?_
      · exact Nat.zero_le _
      rintro k hp
      try dsimp only at hp
      have hk := hp
      refine awp_seq ?_
      refine awp_region rfl (.n (fun _ => op_lss (.plain rfl) (.plain rfl)) (.nil _)) ?_
      refine awp_seq ?_
      refine awp_cond rfl (fun h => ?_) (fun h => ?_)
      · (try simp only [decide_eq_true_eq, decide_eq_false_iff_not, Bool.and_eq_true, Bool.or_eq_true, Bool.and_eq_false_iff, Bool.or_eq_false_iff, Bool.not_eq_true', Bool.not_eq_false', Bool.not_eq_true, Bool.not_eq_false, Bool.true_eq_false, Bool.false_eq_true] at h); (try simp only [foldK, foldP, foldL] at h)
        refine awp_skip ?_
        refine awp_seq ?_
        refine awp_block ?_
        refine awp_seq ?_
        refine awp_region rfl (.n (fun _ => op_indexAddrN Try.underlying60 Try.sizeOf25 (.plain rfl) (.plain rfl) (fun _ => rfl) ?_) (.n (fun _ => op_load Try.isAgg25 (.plain rfl)) (.n (fun _ => op_assign (.plain rfl)) (.nil _)))) ?_
        · (try simp only [foldK, foldP, foldL, Int.toNat_natCast])
          omega
        refine awp_seq ?_
        refine awp_region rfl (.n (fun _ => op_fieldAddrR Try.underlying51 rfl rfl Try.sizeOf25 (.plain rfl)) (.r (op_loadR Try.isAgg25 (.plain rfl) rfl rfl) (.n (fun _ => op_len (s := 0) Try.underlying25 (.plain rfl)) (.n (fun _ => op_move (.plain rfl)) (.nil _))))) ?_
        refine awp_block ?_
        refine awp_loop (σ := Nat) (fun (j : Nat) => j ≤ (kidsF N i).length) (fun (j : Nat) => ⟨[(1, .int who), (2, .pv (.rd [.i P, .seq (Int × List Int × List Int × Unit) (0, [], [], ()) (fun p => [.i p.1, .ints p.2.1, .ints p.2.2.1]) N])), (7, .int (i : Nat)), (8, .ref 8 0), (9, .own 1009), (11, .pv (.ints ((wyU N who i).getD k []))), (20, .pv (.seq (Int × List Int × List Int × Unit) (0, [], [], ()) (fun p => [.i p.1, .ints p.2.1, .ints p.2.2.1]) N)), (21, .int (N.length : Nat)), (22, .int (i : Nat)), (37, .pv (.rows (wyU N who i))), (38, .int ((wyU N who i).length : Nat)), (39, .int (k : Nat)), (44, .pv (.ints (kidsF N i))), (45, .int ((kidsF N i).length : Nat)), (46, .int (j : Nat))], [(8, .box [.int (plF N i), .pv (.ints (kidsF N i)), .pv (.ints (payF N i))]), (1009, .arr 25 1 (List Int) [] (fun r => [.seq Int 0 (fun n => [.int .i64 n]) r]) (wyM N i (wyU N who i) k ++ mapr j fun q => ((wyU N who i).getD k []).set i (q : Int)))]⟩) (fun (j : Nat) => (kidsF N i).length - j) 0 ?_ (Ent.kept ⟨rfl, rfl, rfl, rfl, rfl, rfl, rfl, rfl, rfl, rfl, rfl, rfl, rfl, rfl, rfl, trivial⟩ ⟨rfl, (congrArg (fun l => some (Blk.arr 25 1 (List Int) [] (fun r => [.seq Int 0 (fun n => [.int .i64 n]) r]) l)) (by simp [mapr])), trivial⟩) ?_
        · exact Nat.zero_le _
        rintro j hp
        try dsimp only at hp
        have hj := hp
        have hkl : k < (wyU N who i).length := by omega
        have hrl := (wyT_ok z_len i _ (getD_mem (l := (wyU N who i)) [] hkl)).len
        have hml := wyM_len (N := N) (x := i) (out := (wyU N who i)) k (by omega)
        have hmm := Nat.mul_le_mul (show k ≤ 5 by omega) hin.2.2.2
        refine awp_seq ?_
        refine awp_region rfl (.n (fun _ => op_lss (.plain rfl) (.plain rfl)) (.nil _)) ?_
        refine awp_seq ?_
        refine awp_cond rfl (fun h => ?_) (fun h => ?_)
        · (try simp only [decide_eq_true_eq, decide_eq_false_iff_not, Bool.and_eq_true, Bool.or_eq_true, Bool.and_eq_false_iff, Bool.or_eq_false_iff, Bool.not_eq_true', Bool.not_eq_false', Bool.not_eq_true, Bool.not_eq_false, Bool.true_eq_false, Bool.false_eq_true] at h); (try simp only [foldK, foldP, foldL] at h)
          refine awp_skip ?_
          refine awp_seq ?_
          refine awp_block ?_
          refine awp_seq ?_
          refine awp_region rfl (.n (fun _ => op_move (.plain rfl)) (.n (fun _ => op_assign (.plain rfl)) (.nil _))) ?_
          refine awp_seq ?_
          refine awp_region rfl (.n (fun _ => op_move (.plain rfl)) (.e (op_callO (vals := [_]) 50 Try.call30 ⟨⟨_, (.plain rfl), rfl⟩, trivial⟩ (clone_fc _ ?_) (by simp [PV.flat]) rfl) rfl (.n (fun _ => op_assign (.plain rfl)) (.nil _)))) ?_
          · (try simp only [foldK, foldP, foldL, Int.toNat_natCast])
            first | omega | (simp; omega)
          refine awp_seq ?_
          refine awp_region rfl (.n (fun _ => op_move (.plain rfl)) (.n (fun _ => op_move (.plain rfl)) (.n (fun _ => op_move (.plain rfl)) (.r (op_indexAddrON Try.underlying25 Try.sizeOf3 (.plain rfl) rfl (.plain rfl) ?_) (.e (op_storeE _ Try.sizeOf3 (.plain rfl) (.plain rfl) rfl (fun _ => rfl) ?_ (by decide) rfl rfl) rfl (.nil _)))))) ?_
          · (try simp only [foldK, foldP, foldL, Int.toNat_natCast])
            omega
          · (try simp only [foldK, foldP, foldL, Int.toNat_natCast])
            omega
          refine awp_ent (Ent.give 13 rfl rfl) ?_
          refine awp_region rfl (.n (fun _ => op_move (.plain rfl)) (.n (fun _ => op_move (.plain rfl)) (.n (fun _ => op_slit (pp := [(0, _)]) (α := (List Int)) (d := []) (f := (fun r => [.seq Int 0 (fun n => [.int .i64 n]) r])) [_] ety60 rfl ⟨rfl, (.plain rfl), (by simp), trivial⟩ rfl (by decide) rfl) (.e (op_append (id' := 58) (α := (List Int)) (d := []) (f := (fun r => [.seq Int 0 (fun n => [.int .i64 n]) r])) ety60 Try.underlying60 (fun _ => rfl) (fun _ => rfl) (.plain rfl) rfl (.plain rfl) rfl ?_) rfl (.n (fun _ => op_assign (.plain rfl)) (.nil _)))))) ?_
          · (try simp only [foldK, foldP, foldL, Int.toNat_natCast])
            rw [List.length_append, hml, mapr_length]; simp only [List.length_cons, List.length_nil]; omega
          refine awp_region rfl (.n (fun _ => op_add (.plain rfl) (.plain rfl) ?_) (.n (fun _ => op_move (.plain rfl)) (.nil _))) ?_
          · (try simp only [foldK, foldP, foldL, Int.toNat_natCast])
            unfold InR; omega
          exact ⟨j + 1, by omega, by dsimp only; omega, (Ent.round 58 1009 ⟨rfl, rfl, rfl, rfl, rfl, rfl, rfl, rfl, rfl, rfl, rfl, rfl, rfl, rfl, rfl, trivial⟩ ⟨rfl, (congrArg (fun l => some (Blk.arr 25 1 (List Int) [] (fun r => [.seq Int 0 (fun n => [.int .i64 n]) r]) l)) (wyJ_snoc)), trivial⟩ rfl rfl rfl ⟨rfl, rfl, rfl, rfl, rfl, rfl, rfl, rfl, rfl, rfl, rfl, rfl, rfl, rfl, rfl, trivial⟩ ⟨rfl, rfl, trivial⟩)⟩
        · (try simp only [decide_eq_true_eq, decide_eq_false_iff_not, Bool.and_eq_true, Bool.or_eq_true, Bool.and_eq_false_iff, Bool.or_eq_false_iff, Bool.not_eq_true', Bool.not_eq_false', Bool.not_eq_true, Bool.not_eq_false, Bool.true_eq_false, Bool.false_eq_true] at h); (try simp only [foldK, foldP, foldL] at h)
          refine awp_exit ?_
          refine awp_region rfl (.n (fun _ => op_add (.plain rfl) (.plain rfl) ?_) (.n (fun _ => op_move (.plain rfl)) (.nil _))) ?_
          · (try simp only [foldK, foldP, foldL, Int.toNat_natCast])
            unfold InR; omega
          exact ⟨k + 1, by omega, by dsimp only; omega, (Ent.kept ⟨rfl, rfl, rfl, rfl, rfl, rfl, rfl, rfl, rfl, rfl, rfl, trivial⟩ ⟨rfl, (congrArg (fun l => some (Blk.arr 25 1 (List Int) [] (fun r => [.seq Int 0 (fun n => [.int .i64 n]) r]) l)) (wyM_snoc (by omega) hj (by omega))), trivial⟩)⟩
      · (try simp only [decide_eq_true_eq, decide_eq_false_iff_not, Bool.and_eq_true, Bool.or_eq_true, Bool.and_eq_false_iff, Bool.or_eq_false_iff, Bool.not_eq_true', Bool.not_eq_false', Bool.not_eq_true, Bool.not_eq_false, Bool.true_eq_false, Bool.false_eq_true] at h); (try simp only [foldK, foldP, foldL] at h)
        refine awp_exit ?_
        refine awp_seq ?_
        refine awp_ent (Ent.give 9 rfl rfl) ?_
        refine awp_region rfl (.n (fun _ => op_move (.plain rfl)) (.n (fun _ => op_assign (.plain rfl)) (.nil _))) ?_
        refine awp_seq ?_
        refine awp_region rfl (.n (fun _ => op_move (.plain rfl)) (.n (fun _ => op_len (s := 0) Try.underlying60 (.plain rfl)) (.n (fun _ => op_gtr (.plain rfl) (.plain rfl)) (.nil _)))) ?_
        refine awp_cond rfl (fun h => ?_) (fun h => ?_)
        · (try simp only [decide_eq_true_eq, decide_eq_false_iff_not, Bool.and_eq_true, Bool.or_eq_true, Bool.and_eq_false_iff, Bool.or_eq_false_iff, Bool.not_eq_true', Bool.not_eq_false', Bool.not_eq_true, Bool.not_eq_false, Bool.true_eq_false, Bool.false_eq_true] at h); (try simp only [foldK, foldP, foldL] at h)
          refine awp_seq ?_
          refine awp_region rfl (.n (fun _ => op_assign (.plain rfl)) (.n (fun _ => op_assign (.plain rfl)) (.nil _))) ?_
          refine awp_ent (Ent.nilseq 4 (List Int) [] (fun r => [.seq Int 0 (fun n => [.int .i64 n]) r]) rfl) ?_
          refine awp_ret ?_
          refine retQ.ret ?_
          refine ret2 rfl rfl rfl rfl rfl ?_
          exact pl_no (by omega) ho hk (by omega) h
        · (try simp only [decide_eq_true_eq, decide_eq_false_iff_not, Bool.and_eq_true, Bool.or_eq_true, Bool.and_eq_false_iff, Bool.or_eq_false_iff, Bool.not_eq_true', Bool.not_eq_false', Bool.not_eq_true, Bool.not_eq_false, Bool.true_eq_false, Bool.false_eq_true] at h); (try simp only [foldK, foldP, foldL] at h)
          refine awp_skip ?_
          refine awp_region rfl (.n (fun _ => op_add (.plain rfl) (.plain rfl) ?_) (.n (fun _ => op_move (.plain rfl)) (.nil _))) ?_
          · (try simp only [foldK, foldP, foldL, Int.toNat_natCast])
            unfold InR; omega
          exact ⟨i + 1, ⟨by omega, by rw [← wyU_take (by omega) ho hk (by omega)]; omega⟩, by dsimp only; omega, (Ent.kept ⟨rfl, rfl, (by first | exact (congrArg (fun p => some (SV.pv p)) (congrArg PV.rows (wyU_skip (by omega) hn))) | exact (congrArg (fun p => some (SV.pv p)) (congrArg PV.rows (wyU_take (by omega) ho hk (by omega))))), rfl, rfl, rfl, trivial⟩ trivial)⟩
  · (try simp only [decide_eq_true_eq, decide_eq_false_iff_not, Bool.and_eq_true, Bool.or_eq_true, Bool.and_eq_false_iff, Bool.or_eq_false_iff, Bool.not_eq_true', Bool.not_eq_false', Bool.not_eq_true, Bool.not_eq_false, Bool.true_eq_false, Bool.false_eq_true] at h); (try simp only [foldK, foldP, foldL] at h)
    refine awp_exit ?_
    refine awp_seq ?_
    refine awp_region rfl (.n (fun _ => op_move (.plain rfl)) (.n (fun _ => op_assign (.plain rfl)) (.n (fun _ => op_assign (.plain rfl)) (.nil _)))) ?_
    refine awp_ret ?_
    refine retQ.ret ?_
    refine ret2 rfl rfl rfl rfl rfl ?_
    exact pl_yes hi (by omega) h5

end Go.Proofs.Ytamdkclkmijfgaa

