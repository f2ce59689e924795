/- What Core says, by both ways. Conditions: each theorem names its own. -/
import Derived.Test.YtnbponopcbgndaaProg
import Derived.Test.YtnbponopcbgndaaFc
namespace Go.Proofs.Ytnbponopcbgndaa
open Go.Abs
set_option linter.unusedVariables false
set_option linter.unusedSimpArgs false


def anyTo (p : Nat → Bool) (n : Nat) : Bool := (List.range n).any p
theorem anyTo_succ (p : Nat → Bool) (n : Nat) : anyTo p (n + 1) = (anyTo p n || p n) := by simp [anyTo, List.range_succ]
theorem anyTo_iff {p : Nat → Bool} {n : Nat} : anyTo p n = true ↔ ∃ j, j < n ∧ p j = true := by
  unfold anyTo
  rw [List.any_eq_true]
  exact ⟨fun ⟨j, h1, h2⟩ => ⟨j, List.mem_range.1 h1, h2⟩, fun ⟨j, h1, h2⟩ => ⟨j, List.mem_range.2 h1, h2⟩⟩
theorem anyTo_none {p : Nat → Bool} {n : Nat} (h : ∀ j, j < n → p j = false) : anyTo p n = false := Bool.eq_false_iff.2 fun c => by
  obtain ⟨j, h1, h2⟩ := anyTo_iff.1 c
  rw [h j h1] at h2; cases h2
def aR (W : List (List Int)) (i : Nat) (k : Int) : Int := placeF (W.getD i []) k
/-- Can those of a set from i on, m of all, do better with what is not used? -/
def tryF (W : List (List Int)) (got : List Int) (set : Nat) : Nat → Nat → Nat → Bool → Bool
  | 0, _, _, b => b
  | m + 1, i, used, b => if set.testBit i = false then tryF W got set m (i + 1) used b else
      anyTo (fun k => (set.testBit k && !used.testBit k) && (decide (aR W i (k : Nat) ≤ aR W i (got.getD i 0)) && tryF W got set m (i + 1) (used ||| 2 ^ k) (b || decide (aR W i (k : Nat) < aR W i (got.getD i 0))))) W.length
def stp (W : List (List Int)) (got : List Int) (set m i used : Nat) (b : Bool) (k : Nat) : Bool := (set.testBit k && !used.testBit k) && (decide (aR W i (k : Nat) ≤ aR W i (got.getD i 0)) && tryF W got set m (i + 1) (used ||| 2 ^ k) (b || decide (aR W i (k : Nat) < aR W i (got.getD i 0))))
section
variable {W : List (List Int)} {got : List Int} {set m i used : Nat} {b : Bool}
theorem tryF_skip (h : set.testBit i = false) : tryF W got set (m + 1) i used b = tryF W got set m (i + 1) used b := if_pos h
theorem tryF_any (h : set.testBit i = true) : tryF W got set (m + 1) i used b = anyTo (stp W got set m i used b) W.length := if_neg (by rw [h]; simp)
theorem tryF_yes (h : set.testBit i = true) {k : Nat} (hk : k < W.length) (hs : stp W got set m i used b k = true) : tryF W got set (m + 1) i used b = true := by rw [tryF_any h]; exact anyTo_iff.2 ⟨k, hk, hs⟩
theorem tryF_no (h : set.testBit i = true) (hs : ∀ j, j < W.length → stp W got set m i used b j = false) : tryF W got set (m + 1) i used b = false := by rw [tryF_any h]; exact anyTo_none hs
theorem stp_yes {k : Nat} (h1 : set.testBit k = true ∧ used.testBit k = false) (h : aR W i (k : Nat) ≤ aR W i (got.getD i 0) ∧ tryF W got set m (i + 1) (used ||| 2 ^ k) (b || decide (aR W i (k : Nat) < aR W i (got.getD i 0))) = true) : stp W got set m i used b k = true := by
  unfold stp; rw [h1.1, h1.2, decide_eq_true h.1, h.2]; rfl
theorem stp_no {k : Nat} (h : ¬ aR W i (k : Nat) ≤ aR W i (got.getD i 0) ∨ tryF W got set m (i + 1) (used ||| 2 ^ k) (b || decide (aR W i (k : Nat) < aR W i (got.getD i 0))) = false) : stp W got set m i used b k = false := by
  unfold stp
  rcases h with h | h
  · rw [decide_eq_false h]; simp
  · rw [h]; simp
theorem stp_not {k : Nat} (h : set.testBit k = false ∨ used.testBit k = true) : stp W got set m i used b k = false := by
  unfold stp
  rcases h with h | h <;> rw [h] <;> simp
end
theorem bit_shr (s k : Nat) : ((s : Nat) : Int) / 2 ^ ((k : Nat) : Int).toNat % 2 = if s.testBit k then 1 else 0 := by
  rw [Int.toNat_natCast, Nat.testBit_eq_decide_div_mod_eq]
  have e : ((s : Nat) : Int) / 2 ^ k % 2 = ((s / 2 ^ k % 2 : Nat) : Int) := by simp
  rw [e]
  by_cases h : s / 2 ^ k % 2 = 1
  · rw [h]; simp
  · have : s / 2 ^ k % 2 = 0 := by omega
    rw [this]; simp
theorem bit_quo (s k : Nat) : ((s : Nat) : Int) / (1 * 2 ^ ((k : Nat) : Int).toNat) % 2 = if s.testBit k then 1 else 0 := by rw [Int.one_mul]; exact bit_shr s k
theorem shl_nat (k : Nat) : (1 : Int) * 2 ^ ((k : Nat) : Int).toNat = ((2 ^ k : Nat) : Int) := by simp
theorem or_nat (u k : Nat) : (((((u : Nat) : Int).toNat ||| ((1 : Int) * 2 ^ ((k : Nat) : Int).toNat).toNat : Nat)) : Int) = ((u ||| 2 ^ k : Nat) : Int) := by rw [shl_nat, Int.toNat_natCast, Int.toNat_natCast]
theorem pow_le6 {k : Nat} (h : k ≤ 6) : (2 : Nat) ^ k ≤ 64 := by
  have := Nat.pow_le_pow_right (n := 2) (show 0 < 2 by omega) h
  simpa using this
theorem shl_bd {k : Nat} (h : k ≤ 6) : (1 : Int) * 2 ^ ((k : Nat) : Int).toNat ≤ 64 ∧ 1 ≤ (1 : Int) * 2 ^ ((k : Nat) : Int).toNat := by
  rw [shl_nat]
  have h1 := pow_le6 h
  have h2 := Nat.pow_pos (n := k) (show 0 < 2 by omega)
  omega
def bitsN (set n : Nat) : List Nat := (List.range n).filter fun i => set.testBit i
theorem bitsN_yes {set i : Nat} (h : set.testBit i = true) : bitsN set i ++ [i] = bitsN set (i + 1) := by simp [bitsN, List.range_succ, List.filter_append, h]
theorem bitsN_no {set i : Nat} (h : set.testBit i = false) : bitsN set i = bitsN set (i + 1) := by simp [bitsN, List.range_succ, List.filter_append, h]
theorem bitsN_le (set n : Nat) : (bitsN set n).length ≤ n := by
  unfold bitsN; have := List.length_filter_le (fun i => set.testBit i) (List.range n); simpa using this
theorem bitsN_mem {set n x : Nat} : x ∈ bitsN set n ↔ x < n ∧ set.testBit x = true := by unfold bitsN; rw [List.mem_filter, List.mem_range]
theorem bitsN_nodup {set n : Nat} : (bitsN set n).Nodup := List.Nodup.sublist List.filter_sublist List.nodup_range
def restF (l : List Int) (i : Nat) : List Int := l.take i ++ l.drop (i + 1)
theorem restF_len {l : List Int} {i : Nat} (h : i < l.length) : (restF l i).length = l.length - 1 := by simp [restF]; omega
def permsN : Nat → List Int → List (List Int)
  | 0, _ => [[]]
  | m + 1, l => (List.range (m + 1)).flatMap fun i => (permsN m (restF l i)).map fun p => l.getD i 0 :: p
def permsF (l : List Int) : List (List Int) := permsN l.length l
def permTo (l : List Int) (i : Nat) : List (List Int) := (List.range i).flatMap fun i => (permsF (restF l i)).map fun p => l.getD i 0 :: p
theorem permTo_succ (l : List Int) (i : Nat) : permTo l (i + 1) = permTo l i ++ (permsF (restF l i)).map fun p => l.getD i 0 :: p := by simp [permTo, List.range_succ]
theorem permTo_all {l : List Int} (h : l ≠ []) : permTo l l.length = permsF l := by
  unfold permsF
  obtain ⟨m, hm⟩ : ∃ m, l.length = m + 1 := ⟨l.length - 1, by have := List.length_pos_iff.2 h; omega⟩
  rw [hm]
  unfold permsN permTo permsF
  have key : ∀ (r : List Nat), (∀ i, i ∈ r → i < l.length) → (r.flatMap fun i => (permsN (restF l i).length (restF l i)).map fun p => l.getD i 0 :: p) = r.flatMap fun i => (permsN m (restF l i)).map fun p => l.getD i 0 :: p := by
    intro r
    induction r with
    | nil => intro _; rfl
    | cons a r ih =>
      intro hr
      rw [List.flatMap_cons, List.flatMap_cons, ih fun i hi => hr i (List.mem_cons_of_mem _ hi), restF_len (hr a List.mem_cons_self), hm]; rfl
  exact key _ fun i hi => by have := List.mem_range.1 hi; omega
def factN : Nat → Nat
  | 0 => 1
  | n + 1 => (n + 1) * factN n
theorem flat_len {α β : Type} {f : α → List β} {c : Nat} : ∀ {l : List α}, (∀ x, x ∈ l → (f x).length = c) → (l.flatMap f).length = l.length * c
  | [], _ => by simp
  | a :: l, h => by
    rw [List.flatMap_cons, List.length_append, h a List.mem_cons_self, flat_len fun x hx => h x (List.mem_cons_of_mem _ hx)]
    simp [Nat.add_mul, Nat.add_comm]
theorem permsN_len : ∀ (m : Nat) (l : List Int), l.length = m → (permsN m l).length = factN m
  | 0, l, _ => rfl
  | m + 1, l, h => by
    unfold permsN
    rw [flat_len (c := factN m) fun i hi => ?_]
    · simp [factN]
    · rw [List.length_map]
      exact permsN_len m _ (by rw [restF_len (by have := List.mem_range.1 hi; omega), h]; rfl)
theorem permTo_len {l : List Int} {i : Nat} (h : i ≤ l.length) (h6 : l.length ≤ 6) : (permTo l i).length ≤ 720 := by
  unfold permTo
  rw [flat_len (c := factN (l.length - 1)) fun j hj => ?_]
  · rw [List.length_range]
    have : ∀ n : Nat, n ≤ 6 → ∀ i, i ≤ n → i * factN (n - 1) ≤ 720 := by decide
    exact this _ h6 _ h
  · rw [List.length_map]
    have hjl : j < l.length := by have := List.mem_range.1 hj; omega
    unfold permsF
    rw [permsN_len _ _ rfl, restF_len hjl]
theorem permsF_len {l : List Int} (h6 : l.length ≤ 6) : (permsF l).length ≤ 720 := by
  by_cases h : l = []
  · subst h; decide
  · rw [← permTo_all h]; exact permTo_len (Nat.le_refl _) h6
theorem perm_rest {l : List Int} {i : Nat} (h : i < l.length) : (l.getD i 0 :: restF l i).Perm l := by
  have e : l.take i ++ l.getD i 0 :: l.drop (i + 1) = l := by
    have h1 : l.getD i 0 :: l.drop (i + 1) = l.drop i := by rw [List.drop_eq_getElem_cons h]; simp [List.getD_eq_getElem?_getD, h]
    rw [h1, List.take_append_drop]
  have := (List.perm_middle (a := l.getD i 0) (l₁ := l.take i) (l₂ := l.drop (i + 1))).symm
  rw [e] at this
  exact this
theorem permsN_mem : ∀ (m : Nat) (l p : List Int), l.length = m → (p ∈ permsN m l ↔ p.Perm l)
  | 0, l, p, h => by
    obtain rfl : l = [] := List.eq_nil_of_length_eq_zero h
    simp [permsN]
  | m + 1, l, p, h => by
    unfold permsN
    rw [List.mem_flatMap]
    constructor
    · rintro ⟨i, hi, hp⟩
      have hil : i < l.length := by have := List.mem_range.1 hi; omega
      obtain ⟨q, hq, rfl⟩ := List.mem_map.1 hp
      have := (permsN_mem m (restF l i) q (by rw [restF_len hil, h]; rfl)).1 hq
      exact (List.Perm.cons _ this).trans (perm_rest hil)
    · intro hp
      match p, hp with
      | [], hp => have := hp.length_eq; simp at this; omega
      | x :: q, hp =>
        have hx : x ∈ l := hp.subset List.mem_cons_self
        obtain ⟨i, hi, e⟩ := List.getElem_of_mem hx
        have e2 : l.getD i 0 = x := by simp [List.getD_eq_getElem?_getD, hi, e]
        refine ⟨i, List.mem_range.2 (by omega), List.mem_map.2 ⟨q, (permsN_mem m (restF l i) q (by rw [restF_len hi, h]; rfl)).2 ?_, by rw [e2]⟩⟩
        have h2 := hp.trans (perm_rest hi).symm
        rw [e2] at h2
        exact h2.cons_inv
theorem permsF_mem {l p : List Int} : p ∈ permsF l ↔ p.Perm l := permsN_mem _ _ _ rfl
/-- What the traders of a list get by p: nobody something worse; somebody something better. -/
def fineF (W : List (List Int)) (got who p : List Int) : Bool := !anyTo (fun j => decide (aR W (who.getD j 0).toNat (got.getD (who.getD j 0).toNat 0) < aR W (who.getD j 0).toNat (p.getD j 0))) who.length
def moreF (W : List (List Int)) (got who p : List Int) (n : Nat) : Bool := anyTo (fun j => decide (aR W (who.getD j 0).toNat (p.getD j 0) < aR W (who.getD j 0).toNat (got.getD (who.getD j 0).toNat 0))) n
def betF (W : List (List Int)) (got who p : List Int) : Bool := fineF W got who p && moreF W got who p who.length
def refB (W : List (List Int)) (got : List Int) (set : Nat) : Bool := (permsF (ringI (bitsN set W.length))).any (betF W got (ringI (bitsN set W.length)))
def blkB (W : List (List Int)) (got : List Int) (set : Nat) : Bool := tryF W got set W.length 0 0 false
def coreS (f : Nat → Bool) (n : Nat) : Nat := match firstI (fun s => f (s + 1)) (2 ^ n - 1) with | some s => s + 1 | none => 0
theorem coreS_some {f : Nat → Bool} {n s : Nat} (hs : 1 ≤ s) (hlt : s < 2 ^ n) (h : ∀ t, 1 ≤ t → t < s → f t = false) (hf : f s = true) : coreS f n = s := by
  unfold coreS
  obtain ⟨r, rfl⟩ : ∃ r, s = r + 1 := ⟨s - 1, by omega⟩
  rw [firstI_stop (k := r) (firstI_of fun j hj => h (j + 1) (by omega) (by omega)) hf (by omega)]
theorem coreS_none {f : Nat → Bool} {n : Nat} (h : ∀ t, 1 ≤ t → t < 2 ^ n → f t = false) : coreS f n = 0 := by
  unfold coreS
  rw [firstI_of fun j hj => h (j + 1) (by omega) (by omega)]
theorem coreS_same {f g : Nat → Bool} {n : Nat} (h : ∀ t, t < 2 ^ n → f t = g t) : coreS f n = coreS g n := by
  unfold coreS
  rw [firstI_same (p := fun s => f (s + 1)) (q := fun s => g (s + 1)) fun j hj => h (j + 1) (by omega)]
theorem anyTo_some {p : Nat → Bool} {n k : Nat} (hk : k < n) (h : p k = true) : anyTo p n = true := anyTo_iff.2 ⟨k, hk, h⟩
theorem rest_eq (l : List Int) (i : Nat) : ([] ++ (l.take ((i : Nat) : Int).toNat).drop (0 : Int).toNat) ++ (l.take ((l.length : Nat) : Int).toNat).drop (((i : Nat) : Int) + 1).toNat = restF l i := by
  have e : (((i : Nat) : Int) + 1).toNat = i + 1 := by omega
  rw [e]; simp [restF]
theorem take_snocR {l : List (List Int)} {k : Nat} (h : k < l.length) : l.take (k + 1) = l.take k ++ [l.getD k []] := by
  rw [List.take_succ_eq_append_getElem h]; simp [List.getD_eq_getElem?_getD, h]
theorem permR_in {l : List Int} {i k : Nat} (h : (restF l i).length = l.length - 1) (hk : k < (permsF (restF l i)).length) : ((permsF (restF l i)).getD k []).length = l.length - 1 := by
  rw [← h]; exact (permsF_mem.1 (getD_mem [] hk)).length_eq
theorem bits_ins (set n : Nat) : Ins n (ringI (bitsN set n)) := fun x hx => by
  unfold ringI at hx
  obtain ⟨y, hy, rfl⟩ := List.mem_map.1 hx
  have := (bitsN_mem.1 hy).1
  omega
theorem refB_yes {W : List (List Int)} {got : List Int} {set k : Nat} (hk : k < (permsF (ringI (bitsN set W.length))).length) (h : betF W got (ringI (bitsN set W.length)) ((permsF (ringI (bitsN set W.length))).getD k []) = true) : refB W got set = true := by
  unfold refB; rw [List.any_eq_true]; exact ⟨_, getD_mem [] hk, h⟩
theorem refB_no {W : List (List Int)} {got : List Int} {set : Nat} (h : ∀ j, j < (permsF (ringI (bitsN set W.length))).length → betF W got (ringI (bitsN set W.length)) ((permsF (ringI (bitsN set W.length))).getD j []) = false) : refB W got set = false := Bool.eq_false_iff.2 fun c => by
  unfold refB at c
  obtain ⟨p, hp, h2⟩ := List.any_eq_true.1 c
  obtain ⟨j, hj, e⟩ := List.getElem_of_mem hp
  have h3 := h j hj
  rw [List.getD_eq_getElem?_getD, List.getElem?_eq_getElem hj, Option.getD_some, e, h2] at h3
  cases h3
theorem betF_no {W : List (List Int)} {got who p : List Int} (h : fineF W got who p = false ∨ betF W got who p = false) : betF W got who p = false := by
  rcases h with h | h
  · unfold betF; rw [h]; rfl
  · exact h
theorem perm_in {who p : List Int} {n : Nat} (h : Ins n who) (hp : p.Perm who) : Ins n p := fun x hx => h x (hp.subset hx)

set_option maxRecDepth 1000000 in
set_option maxHeartbeats 4000000 in
theorem blocks1_fch (W : List (List Int)) (got : List Int) (set : Nat) (hW : mayE W = 0) (hgo : ordE W.length got = 0) (m i used : Nat) (u : Int) (b : Bool) (hu : u = (used : Nat)) (him : i + m = W.length) : FCH Try.prog 47 [.pv (.i (i : Nat)), .pv (.i u), .pv (.bool b), .pv (.rd [.rows W]), .pv (.rd [.i (set : Nat)]), .ref 0 0, .pv (.rd [.ints got])] [(0, .box [.clo (.func 47) [.pv (.rd [.rows W]), .pv (.rd [.i (set : Nat)]), .ref 0 0, .pv (.rd [.ints got])]])] [(0, .box [.clo (.func 47) [.pv (.rd [.rows W]), .pv (.rd [.i (set : Nat)]), .ref 0 0, .pv (.rd [.ints got])]])] (.pv (.bool (tryF W got set m i used b))) none := by
  revert i used u b hu him
  refine Nat.strongRecOn m ?_
  clear m
  intro m ih i used u b hu him
  refine FCH.intro Try.func47 rfl (Nat.le_of_ble_eq_true rfl) (Nat.le_of_ble_eq_true rfl) fun hfit ι0 => ?_
  change awp _ _ _ _ ⟨[(0, .pv (.i (i : Nat))), (1, .pv (.i u)), (2, .pv (.bool b)), (3, .pv (.rd [.rows W])), (4, .pv (.rd [.i (set : Nat)])), (5, .ref 0 0), (6, .pv (.rd [.ints got])), (1000000, .pin 0 (ι0 0))], [(0, .box [.clo (.func 47) [.pv (.rd [.rows W]), .pv (.rd [.i (set : Nat)]), .ref 0 0, .pv (.rd [.ints got])]])]⟩
  have fit0 : -9223372036854775808 ≤ ((i : Nat) : Int) ∧ ((i : Nat) : Int) ≤ 9223372036854775807 := (hfit _ (.head _)).int64
  have fit1 : -9223372036854775808 ≤ (u : Int) ∧ (u : Int) ≤ 9223372036854775807 := (hfit _ (.tail _ (.head _))).int64
  have fit2 := hfit _ (.tail _ (.tail _ (.head _)))
  have fit3 := hfit _ (.tail _ (.tail _ (.tail _ (.head _))))
  have fit4 := hfit _ (.tail _ (.tail _ (.tail _ (.tail _ (.head _)))))
  have fit6 := hfit _ (.tail _ (.tail _ (.tail _ (.tail _ (.tail _ (.tail _ (.head _)))))))
  have hn6 := mayE_len hW
  have hgl := (ord_some hgo).1
  refine awp_seq ?_
  refine awp_region rfl (.n (fun _ => op_assign (.plain rfl)) (.nil _)) ?_
  refine awp_seq ?_
  refine awp_seq ?_
  refine awp_region rfl (.n (fun _ => op_move (.plain rfl)) (.n (fun _ => op_load Try.isAgg22 (.plain rfl)) (.n (fun _ => op_len (s := 0) Try.underlying22 (.plain rfl)) (.n (fun _ => op_eql (.plain rfl) (.plain rfl)) (.nil _))))) ?_
  refine awp_cond rfl (fun h => ?_) (fun h => ?_)
  · try simp only [decide_eq_true_eq, decide_eq_false_iff_not, Bool.and_eq_true, Bool.or_eq_true, Bool.and_eq_false_iff, Bool.or_eq_false_iff, Bool.not_eq_true', Bool.not_eq_false', Bool.not_eq_true, Bool.not_eq_false, Bool.true_eq_false, Bool.false_eq_true] at h
    refine awp_seq ?_
    refine awp_region rfl (.n (fun _ => op_move (.plain rfl)) (.n (fun _ => op_assign (.plain rfl)) (.nil _))) ?_
    refine awp_ret ?_
    refine retH.ret ?_
    refine retH1 rfl rfl ⟨rfl, trivial⟩ ⟨.inr rfl, trivial⟩ ?_
    obtain rfl : m = 0 := by omega
    rfl
  · try simp only [decide_eq_true_eq, decide_eq_false_iff_not, Bool.and_eq_true, Bool.or_eq_true, Bool.and_eq_false_iff, Bool.or_eq_false_iff, Bool.not_eq_true', Bool.not_eq_false', Bool.not_eq_true, Bool.not_eq_false, Bool.true_eq_false, Bool.false_eq_true] at h
    obtain ⟨m, rfl⟩ : ∃ m0, m = m0 + 1 := ⟨m - 1, by omega⟩
    have hi : i < W.length := by omega
    refine awp_skip ?_
    refine awp_seq ?_
    refine awp_seq ?_
    refine awp_region rfl (.n (fun _ => op_load Try.isAgg3 (.plain rfl)) (.n (fun _ => op_move (.plain rfl)) (.n (fun _ => op_shr (.plain rfl) (.plain rfl) ?_) (.n (fun _ => op_bit (.plain rfl) ?_) (.n (fun _ => op_eql (.plain rfl) (.plain rfl)) (.nil _)))))) ?_
    · omega
    · have h6 := two_pow_nat ((i : Nat) : Int).toNat; exact Int.ediv_nonneg (by omega) (by omega)
    refine awp_cond rfl (fun h => ?_) (fun h => ?_)
    · try simp only [decide_eq_true_eq, decide_eq_false_iff_not, Bool.and_eq_true, Bool.or_eq_true, Bool.and_eq_false_iff, Bool.or_eq_false_iff, Bool.not_eq_true', Bool.not_eq_false', Bool.not_eq_true, Bool.not_eq_false, Bool.true_eq_false, Bool.false_eq_true] at h
      rw [bit_shr] at h
      have hb : set.testBit i = false := by cases e : set.testBit i with | false => rfl | true => rw [e] at h; simp at h
      refine awp_seq ?_
      refine awp_region rfl (.r (op_loadR Try.isAgg62 (.plain rfl) rfl rfl) (.n (fun _ => op_move (.plain rfl)) (.n (fun _ => op_add (.plain rfl) (.plain rfl) ?_) (.n (fun _ => op_move (.plain rfl)) (.n (fun _ => op_move (.plain rfl)) (.r (op_callVHR (ags := [_, _, _]) (fun k => [0].getD k 0) Try.call47 (ih m (by omega) (i + 1) used u _ ?_ ?_) (.plain rfl) ⟨(.plain rfl), (.plain rfl), (.plain rfl), trivial⟩ ⟨rfl, trivial⟩ (by kernel_rfl)) (.n (fun _ => op_assign (.plain rfl)) (.nil _)))))))) ?_
      · unfold InR; omega
      · exact hu
      · omega
      refine awp_ret ?_
      refine retH.ret ?_
      refine retH1 rfl rfl ⟨rfl, trivial⟩ ⟨.inr rfl, trivial⟩ ?_
      exact congrArg (fun x => SV.pv (.bool x)) ((tryF_skip hb).symm)
    · try simp only [decide_eq_true_eq, decide_eq_false_iff_not, Bool.and_eq_true, Bool.or_eq_true, Bool.and_eq_false_iff, Bool.or_eq_false_iff, Bool.not_eq_true', Bool.not_eq_false', Bool.not_eq_true, Bool.not_eq_false, Bool.true_eq_false, Bool.false_eq_true] at h
      rw [bit_shr] at h
      have hb : set.testBit i = true := by cases e : set.testBit i with | true => rfl | false => rw [e] at h; simp at h
      refine awp_skip ?_
      refine awp_seq ?_
      refine awp_seq ?_
      refine awp_region rfl (.n (fun _ => op_load Try.isAgg22 (.plain rfl)) (.n (fun _ => op_len (s := 0) Try.underlying22 (.plain rfl)) (.n (fun _ => op_move (.plain rfl)) (.nil _)))) ?_
      refine awp_block ?_
      refine awp_loop (σ := Nat) (fun (k : Nat) => k ≤ W.length ∧ ∀ j, j < k → stp W got set m i used b j = false) (fun (k : Nat) => ⟨[(0, .pv (.i (i : Nat))), (1, .pv (.i u)), (2, .pv (.bool b)), (3, .pv (.rd [.rows W])), (4, .pv (.rd [.i (set : Nat)])), (5, .ref 0 0), (6, .pv (.rd [.ints got])), (31, .int (W.length : Nat)), (32, .int (k : Nat)), (1000000, .pin 0 (ι0 0))], [(0, .box [.clo (.func 47) [.pv (.rd [.rows W]), .pv (.rd [.i (set : Nat)]), .ref 0 0, .pv (.rd [.ints got])]])]⟩) (fun (k : Nat) => W.length - k) 0 ?_ (Ent.kept ⟨rfl, rfl, rfl, rfl, rfl, rfl, rfl, rfl, rfl, rfl, trivial⟩ ⟨rfl, trivial⟩) ?_
      · exact ⟨Nat.zero_le _, fun j hj => absurd hj (Nat.not_lt_zero _)⟩
      rintro k hp
      try dsimp only at hp
      obtain ⟨hk, hj⟩ := hp
      refine awp_seq ?_
      refine awp_region rfl (.n (fun _ => op_lss (.plain rfl) (.plain rfl)) (.nil _)) ?_
      refine awp_seq ?_
      refine awp_cond rfl (fun h => ?_) (fun h => ?_)
      · try simp only [decide_eq_true_eq, decide_eq_false_iff_not, Bool.and_eq_true, Bool.or_eq_true, Bool.and_eq_false_iff, Bool.or_eq_false_iff, Bool.not_eq_true', Bool.not_eq_false', Bool.not_eq_true, Bool.not_eq_false, Bool.true_eq_false, Bool.false_eq_true] at h
        refine awp_skip ?_
        refine awp_seq ?_
        refine awp_block ?_
        refine awp_seq ?_
        refine awp_region rfl (.n (fun _ => op_move (.plain rfl)) (.n (fun _ => op_assign (.plain rfl)) (.nil _))) ?_
        refine awp_seq ?_
        refine awp_seq ?_
        refine awp_region rfl (.n (fun _ => op_load Try.isAgg3 (.plain rfl)) (.n (fun _ => op_move (.plain rfl)) (.n (fun _ => op_shr (.plain rfl) (.plain rfl) ?_) (.n (fun _ => op_bit (.plain rfl) ?_) (.n (fun _ => op_eql (.plain rfl) (.plain rfl)) (.n (fun _ => op_move (.plain rfl)) (.gn rfl rfl (fun hg _ => op_move (.plain rfl)) (.gn rfl rfl (fun hg _ => op_move (.plain rfl)) (.gn rfl rfl (fun hg _ => op_shr (.opt rfl fun h => h) (.opt rfl fun h => h) ?_) (.gn rfl rfl (fun hg _ => op_bit (.opt rfl fun h => h) ?_) (.gn rfl rfl (fun hg _ => op_eql (.opt rfl fun h => h) (.plain rfl)) (.n (fun _ => op_or (.plain rfl) (.plain rfl) (.plain rfl) (fun h => eqF h)) (.nil _))))))))))))) ?_
        · omega
        · have h6 := two_pow_nat ((k : Nat) : Int).toNat; exact Int.ediv_nonneg (by omega) (by omega)
        · try simp only [beq_iff_eq, beq_true, beq_false, Bool.and_eq_true, decide_eq_true_eq, decide_eq_false_iff_not, Bool.not_eq_true', Bool.or_eq_true, Bool.or_eq_false_iff] at hg
          omega
        · try simp only [beq_iff_eq, beq_true, beq_false, Bool.and_eq_true, decide_eq_true_eq, decide_eq_false_iff_not, Bool.not_eq_true', Bool.or_eq_true, Bool.or_eq_false_iff] at hg
          have h6 := two_pow_nat ((k : Nat) : Int).toNat; exact Int.ediv_nonneg (by omega) (by omega)
        refine awp_cond rfl (fun h => ?_) (fun h => ?_)
        · try simp only [decide_eq_true_eq, decide_eq_false_iff_not, Bool.and_eq_true, Bool.or_eq_true, Bool.and_eq_false_iff, Bool.or_eq_false_iff, Bool.not_eq_true', Bool.not_eq_false', Bool.not_eq_true, Bool.not_eq_false, Bool.true_eq_false, Bool.false_eq_true] at h
          rw [hu, bit_shr, bit_shr] at h
          have hs0 : stp W got set m i used b k = false := stp_not (by cases e1 : set.testBit k <;> cases e2 : used.testBit k <;> simp [e1, e2] at h ⊢)
          refine awp_exit ?_
          refine awp_region rfl (.n (fun _ => op_add (.plain rfl) (.plain rfl) ?_) (.n (fun _ => op_move (.plain rfl)) (.nil _))) ?_
          · unfold InR; omega
          refine ⟨k + 1, ⟨by omega, fun j hjk => ?_⟩, by dsimp only; omega, (Ent.kept ⟨rfl, rfl, rfl, rfl, rfl, rfl, rfl, rfl, rfl, rfl, trivial⟩ ⟨rfl, trivial⟩)⟩
          by_cases e : j = k
          · subst e; exact hs0
          · exact hj j (by omega)
        · try simp only [decide_eq_true_eq, decide_eq_false_iff_not, Bool.and_eq_true, Bool.or_eq_true, Bool.and_eq_false_iff, Bool.or_eq_false_iff, Bool.not_eq_true', Bool.not_eq_false', Bool.not_eq_true, Bool.not_eq_false, Bool.true_eq_false, Bool.false_eq_true] at h
          rw [hu, bit_shr, bit_shr] at h
          have hs1 : set.testBit k = true ∧ used.testBit k = false := by cases e1 : set.testBit k <;> cases e2 : used.testBit k <;> simp [e1, e2] at h ⊢
          refine awp_skip ?_
          refine awp_seq ?_
          refine awp_region_draw mixed rfl (.n (fun _ => op_load Try.isAgg22 (.plain rfl)) (.n (fun _ => op_move (.plain rfl)) (.n (fun _ => op_indexAddrN Try.underlying22 Try.sizeOf23 (.plain rfl) (.plain rfl) (fun _ => rfl) ?_) (.n (fun _ => op_load Try.isAgg23 (.plain rfl)) (.n (fun _ => op_move (.plain rfl)) (.n (fun _ => op_call2 Try.call46 (.plain rfl) (.plain rfl) (Index_fc _ _)) (.n (fun _ => op_load Try.isAgg22 (.plain rfl)) (.n (fun _ => op_move (.plain rfl)) (.n (fun _ => op_indexAddrN Try.underlying22 Try.sizeOf23 (.plain rfl) (.plain rfl) (fun _ => rfl) ?_) (.n (fun _ => op_load Try.isAgg23 (.plain rfl)) (.n (fun _ => op_load Try.isAgg23 (.plain rfl)) (.n (fun _ => op_move (.plain rfl)) (.n (fun _ => op_indexAddrN Try.underlying23 Try.sizeOf3 (.plain rfl) (.plain rfl) (fun _ => rfl) ?_) (.n (fun _ => op_load Try.isAgg3 (.plain rfl)) (.n (fun _ => op_call2 Try.call46 (.plain rfl) (.plain rfl) (Index_fc _ _)) (.n (fun _ => op_assign (.plain rfl)) (.n (fun _ => op_assign (.plain rfl)) (.nil _)))))))))))))))))) ?d1 ?_
          · omega
          · omega
          · omega
          · kernel_rfl
          refine awp_seq ?_
          refine awp_region_draw mixed rfl (.n (fun _ => op_move (.plain rfl)) (.n (fun _ => op_move (.plain rfl)) (.n (fun _ => op_leq (.plain rfl) (.plain rfl)) (.n (fun _ => op_move (.plain rfl)) (.gr rfl rfl (fun hg => op_loadR Try.isAgg62 (.plain rfl) rfl rfl) (.gn rfl rfl (fun hg _ => op_move (.plain rfl)) (.gn rfl rfl (fun hg _ => op_add (.opt rfl fun h => h) (.plain rfl) ?_) (.gn rfl rfl (fun hg _ => op_move (.plain rfl)) (.gn rfl rfl (fun hg _ => op_move (.plain rfl)) (.gn rfl rfl (fun hg _ => op_shl (.plain rfl) (.opt rfl fun h => h) ?_) (.gn rfl rfl (fun hg _ => op_bor (.opt rfl fun h => h) (.opt rfl fun h => h) ?_) (.gn rfl rfl (fun hg _ => op_move (.plain rfl)) (.gn rfl rfl (fun hg _ => op_move (.opt rfl fun h => h)) (.ggn rfl rfl (fun hg _ => op_move (.plain rfl)) (.ggn rfl rfl (fun hg _ => op_move (.plain rfl)) (.ggn rfl rfl (fun hg _ => op_lss (.opt rfl fun h => h) (.opt rfl fun h => h)) (.gn rfl rfl (fun hg _ => op_or (.opt rfl fun h => h) (.plain rfl) (.plain rfl) (fun h => andI hg (eqF h))) (.gr rfl rfl (fun hg => op_callVHR (ags := [_, _, _]) (fun k => [0].getD k 0) Try.call47 (ih m (by omega) (i + 1) (used ||| 2 ^ k) _ _ ?_ ?_) (.opt rfl fun h => h) ⟨(.opt rfl fun h => h), (.opt rfl fun h => h), (.opt rfl fun h => h), trivial⟩ ⟨rfl, trivial⟩ (by kernel_rfl)) (.n (fun _ => op_and (.plain rfl) (.plain rfl) (.plain rfl) (fun h => eqT h)) (.nil _)))))))))))))))))))) ?d2 ?_
          · try simp only [beq_iff_eq, beq_true, beq_false, Bool.and_eq_true, decide_eq_true_eq, decide_eq_false_iff_not, Bool.not_eq_true', Bool.or_eq_true, Bool.or_eq_false_iff] at hg
            unfold InR; omega
          · try simp only [beq_iff_eq, beq_true, beq_false, Bool.and_eq_true, decide_eq_true_eq, decide_eq_false_iff_not, Bool.not_eq_true', Bool.or_eq_true, Bool.or_eq_false_iff] at hg
            have h6 := shl_bd (show k ≤ 6 by omega)
            exact ⟨by omega, by omega, by unfold InR; omega⟩
          · try simp only [beq_iff_eq, beq_true, beq_false, Bool.and_eq_true, decide_eq_true_eq, decide_eq_false_iff_not, Bool.not_eq_true', Bool.or_eq_true, Bool.or_eq_false_iff] at hg
            have h6 := (shl_bd (show k ≤ 6 by omega)).2; omega
          · try simp only [beq_iff_eq, beq_true, beq_false, Bool.and_eq_true, decide_eq_true_eq, decide_eq_false_iff_not, Bool.not_eq_true', Bool.or_eq_true, Bool.or_eq_false_iff] at hg
            rw [hu]; exact or_nat _ _
          · try simp only [beq_iff_eq, beq_true, beq_false, Bool.and_eq_true, decide_eq_true_eq, decide_eq_false_iff_not, Bool.not_eq_true', Bool.or_eq_true, Bool.or_eq_false_iff] at hg
            omega
          · kernel_rfl
          refine awp_cond rfl (fun h => ?_) (fun h => ?_)
          · try simp only [decide_eq_true_eq, decide_eq_false_iff_not, Bool.and_eq_true, Bool.or_eq_true, Bool.and_eq_false_iff, Bool.or_eq_false_iff, Bool.not_eq_true', Bool.not_eq_false', Bool.not_eq_true, Bool.not_eq_false, Bool.true_eq_false, Bool.false_eq_true] at h
            have hs2 := stp_yes hs1 h
            refine awp_seq ?_
            refine awp_region rfl (.n (fun _ => op_assign (.plain rfl)) (.nil _)) ?_
            refine awp_ret ?_
            refine retH.ret ?_
            refine retH1 rfl rfl ⟨rfl, trivial⟩ ⟨.inr rfl, trivial⟩ ?_
            exact congrArg (fun x => SV.pv (.bool x)) ((tryF_yes hb (by omega) hs2).symm)
          · try simp only [decide_eq_true_eq, decide_eq_false_iff_not, Bool.and_eq_true, Bool.or_eq_true, Bool.and_eq_false_iff, Bool.or_eq_false_iff, Bool.not_eq_true', Bool.not_eq_false', Bool.not_eq_true, Bool.not_eq_false, Bool.true_eq_false, Bool.false_eq_true] at h
            have hs0 := stp_no (W := W) (got := got) (set := set) (m := m) (i := i) (used := used) (b := b) (k := k) h
            refine awp_skip ?_
            refine awp_region rfl (.n (fun _ => op_add (.plain rfl) (.plain rfl) ?_) (.n (fun _ => op_move (.plain rfl)) (.nil _))) ?_
            · unfold InR; omega
            refine ⟨k + 1, ⟨by omega, fun j hjk => ?_⟩, by dsimp only; omega, (Ent.kept ⟨rfl, rfl, rfl, rfl, rfl, rfl, rfl, rfl, rfl, rfl, trivial⟩ ⟨rfl, trivial⟩)⟩
            by_cases e : j = k
            · subst e; exact hs0
            · exact hj j (by omega)
      · try simp only [decide_eq_true_eq, decide_eq_false_iff_not, Bool.and_eq_true, Bool.or_eq_true, Bool.and_eq_false_iff, Bool.or_eq_false_iff, Bool.not_eq_true', Bool.not_eq_false', Bool.not_eq_true, Bool.not_eq_false, Bool.true_eq_false, Bool.false_eq_true] at h
        refine awp_exit ?_
        refine awp_seq ?_
        refine awp_region rfl (.n (fun _ => op_assign (.plain rfl)) (.nil _)) ?_
        refine awp_ret ?_
        refine retH.ret ?_
        refine retH1 rfl rfl ⟨rfl, trivial⟩ ⟨.inr rfl, trivial⟩ ?_
        obtain rfl : k = W.length := by omega
        exact congrArg (fun x => SV.pv (.bool x)) ((tryF_no hb hj).symm)

theorem blocks_fc (W : List (List Int)) (got : List Int) (set : Nat) (hW : mayE W = 0) (hgo : ordE W.length got = 0) : FC Try.prog 36 [.rows W, .ints got, .i (set : Nat)] (.bool (blkB W got set)) := by
  refine FC.intro Try.func36 rfl (Nat.le_of_ble_eq_true rfl) fun hfit => ?_
  obtain ⟨fitl0, fitr0⟩ := (hfit _ (.head _)).rows
  obtain ⟨fitl1, fitr1⟩ := (hfit _ (.tail _ (.head _))).ints
  have fit2 : -9223372036854775808 ≤ ((set : Nat) : Int) ∧ ((set : Nat) : Int) ≤ 9223372036854775807 := (hfit _ (.tail _ (.tail _ (.head _)))).int64
  refine awp_seq ?_
  refine awp_region rfl (.n (fun _ => op_box (.plain rfl) (by simp)) (.n (fun _ => op_box (.plain rfl) (by simp)) (.n (fun _ => op_box (.plain rfl) (by simp)) (.n (fun _ => op_assign (.plain rfl)) (.nil _))))) ?_
  refine awp_seq ?_
  refine awp_region rfl (.e (op_alloc 7 Try.zeroValue62 rfl rfl rfl) rfl (.nil _)) ?_
  refine awp_seq ?_
  refine awp_region rfl (.n (fun _ => op_makeFuncS (cs := [_, _, _, _]) ⟨(.plain rfl), (.plain rfl), (.plain rfl), (.plain rfl), trivial⟩) (.e (op_storeR Try.sizeOf62 (.plain rfl) (.plain rfl) rfl (by first | decide | exact Nat.le_of_ble_eq_true rfl) rfl (by simp) (by simp)) rfl (.nil _))) ?_
  refine awp_seq ?_
  refine awp_region rfl (.r (op_loadR Try.isAgg62 (.plain rfl) rfl rfl) (.r (op_callVHR (ags := [_, _, _]) (fun k => [7].getD k 0) Try.call47 (blocks1_fch W got set hW hgo W.length 0 0 0 false rfl (by omega)) (.plain rfl) ⟨(.plain rfl), (.plain rfl), (.plain rfl), trivial⟩ ⟨rfl, trivial⟩ (by kernel_rfl)) (.n (fun _ => op_assign (.plain rfl)) (.nil _)))) ?_
  refine awp_ret ?_
  refine retQ.ret ?_
  refine ret1 rfl rfl rfl ?_
  rfl

theorem Bits_fc (set n : Nat) (hn : n ≤ 6) : FC Try.prog 37 [.i (set : Nat), .i (n : Nat)] (.ints (ringI (bitsN set n))) := by
  refine FC.intro Try.func37 rfl (Nat.le_of_ble_eq_true rfl) fun hfit => ?_
  have fit0 : -9223372036854775808 ≤ ((set : Nat) : Int) ∧ ((set : Nat) : Int) ≤ 9223372036854775807 := (hfit _ (.head _)).int64
  have fit1 : -9223372036854775808 ≤ ((n : Nat) : Int) ∧ ((n : Nat) : Int) ≤ 9223372036854775807 := (hfit _ (.tail _ (.head _))).int64
  refine awp_seq ?_
  refine awp_region rfl (.n (fun _ => op_assign (.plain rfl)) (.nil _)) ?_
  refine awp_seq ?_
  refine awp_region rfl (.n (fun _ => op_assign (.plain rfl)) (.nil _)) ?_
  refine awp_seq ?_
  refine awp_seq ?_
  refine awp_region rfl (.n (fun _ => op_assign (.plain rfl)) (.nil _)) ?_
  refine awp_block ?_
  refine awp_ent (Ent.begin 5 1005 3 1 Int 0 (fun n => [.int .i64 n]) rfl rfl rfl) ?_
  refine awp_loop (σ := Nat) (fun (i : Nat) => i ≤ n) (fun (i : Nat) => ⟨[(0, .pv (.i (set : Nat))), (1, .pv (.i (n : Nat))), (5, .own 1005), (6, .int (i : Nat))], [(1005, .arr 3 1 Int 0 (fun n => [.int .i64 n]) (ringI (bitsN set i)))]⟩) (fun (i : Nat) => n - i) 0 ?_ (Ent.kept ⟨rfl, rfl, rfl, rfl, trivial⟩ ⟨rfl, trivial⟩) ?_
  · simp
  rintro i hp
  try dsimp only at hp
  refine awp_seq ?_
  refine awp_seq ?_
  refine awp_region rfl (.n (fun _ => op_move (.plain rfl)) (.n (fun _ => op_move (.plain rfl)) (.n (fun _ => op_lss (.plain rfl) (.plain rfl)) (.nil _)))) ?_
  refine awp_cond rfl (fun h => ?_) (fun h => ?_)
  · try simp only [decide_eq_true_eq, decide_eq_false_iff_not, Bool.and_eq_true, Bool.or_eq_true, Bool.and_eq_false_iff, Bool.or_eq_false_iff, Bool.not_eq_true', Bool.not_eq_false', Bool.not_eq_true, Bool.not_eq_false, Bool.true_eq_false, Bool.false_eq_true] at h
    refine awp_skip ?_
    refine awp_seq ?_
    refine awp_block ?_
    refine awp_seq ?_
    refine awp_region rfl (.n (fun _ => op_move (.plain rfl)) (.n (fun _ => op_move (.plain rfl)) (.n (fun _ => op_shl (.plain rfl) (.plain rfl) ?_) (.n (fun _ => op_quo (.plain rfl) (.plain rfl) ?_) (.n (fun _ => op_rem (.plain rfl) (.plain rfl) ?_) (.n (fun _ => op_eql (.plain rfl) (.plain rfl)) (.nil _))))))) ?_
    · have h6 := shl_bd (show i ≤ 6 by omega)
      exact ⟨by omega, by omega, by unfold InR; omega⟩
    · have h6 := (shl_bd (show i ≤ 6 by omega)).2; omega
    · have h6 := (shl_bd (show i ≤ 6 by omega)).2; exact ⟨Int.ediv_nonneg (by omega) (by omega), by omega⟩
    refine awp_cond rfl (fun h => ?_) (fun h => ?_)
    · try simp only [decide_eq_true_eq, decide_eq_false_iff_not, Bool.and_eq_true, Bool.or_eq_true, Bool.and_eq_false_iff, Bool.or_eq_false_iff, Bool.not_eq_true', Bool.not_eq_false', Bool.not_eq_true, Bool.not_eq_false, Bool.true_eq_false, Bool.false_eq_true] at h
      rw [bit_quo] at h
      have hb : set.testBit i = true := by cases e : set.testBit i with | true => rfl | false => rw [e] at h; simp at h
      refine awp_region rfl (.n (fun _ => op_move (.plain rfl)) (.n (fun _ => op_move (.plain rfl)) (.n (fun _ => op_slit (pp := [(0, _)]) (α := Int) (d := 0) (f := (fun n => [.int .i64 n])) [_] ety23 rfl ⟨rfl, (.plain rfl), (by simp), trivial⟩ rfl (by decide) rfl) (.e (op_append (id' := 21) (α := Int) (d := 0) (f := (fun n => [.int .i64 n])) ety23 Try.underlying23 (fun _ => rfl) (fun _ => rfl) (.plain rfl) rfl (.plain rfl) rfl ?_) rfl (.n (fun _ => op_assign (.plain rfl)) (.nil _)))))) ?_
      · have := bitsN_le set i; simp; omega
      refine awp_region rfl (.n (fun _ => op_move (.plain rfl)) (.n (fun _ => op_add (.plain rfl) (.plain rfl) ?_) (.n (fun _ => op_assign (.plain rfl)) (.nil _)))) ?_
      · unfold InR; omega
      exact ⟨i + 1, by omega, by dsimp only; omega, (Ent.round 21 1005 ⟨rfl, rfl, rfl, rfl, trivial⟩ ⟨(congrArg (fun l => some (Blk.arr 3 1 Int 0 (fun n => [.int .i64 n]) l)) (by first | exact congrArg ringI (bitsN_no hb) | exact (ringI_snoc _ _).trans (congrArg ringI (bitsN_yes hb)))), trivial⟩ rfl rfl rfl ⟨rfl, rfl, rfl, rfl, trivial⟩ ⟨rfl, trivial⟩)⟩
    · try simp only [decide_eq_true_eq, decide_eq_false_iff_not, Bool.and_eq_true, Bool.or_eq_true, Bool.and_eq_false_iff, Bool.or_eq_false_iff, Bool.not_eq_true', Bool.not_eq_false', Bool.not_eq_true, Bool.not_eq_false, Bool.true_eq_false, Bool.false_eq_true] at h
      rw [bit_quo] at h
      have hb : set.testBit i = false := by cases e : set.testBit i with | false => rfl | true => rw [e] at h; simp at h
      refine awp_skip ?_
      refine awp_region rfl (.n (fun _ => op_move (.plain rfl)) (.n (fun _ => op_add (.plain rfl) (.plain rfl) ?_) (.n (fun _ => op_assign (.plain rfl)) (.nil _)))) ?_
      · unfold InR; omega
      exact ⟨i + 1, by omega, by dsimp only; omega, (Ent.kept ⟨rfl, rfl, rfl, rfl, trivial⟩ ⟨(congrArg (fun l => some (Blk.arr 3 1 Int 0 (fun n => [.int .i64 n]) l)) (by first | exact congrArg ringI (bitsN_no hb) | exact (ringI_snoc _ _).trans (congrArg ringI (bitsN_yes hb)))), trivial⟩)⟩
  · try simp only [decide_eq_true_eq, decide_eq_false_iff_not, Bool.and_eq_true, Bool.or_eq_true, Bool.and_eq_false_iff, Bool.or_eq_false_iff, Bool.not_eq_true', Bool.not_eq_false', Bool.not_eq_true, Bool.not_eq_false, Bool.true_eq_false, Bool.false_eq_true] at h
    refine awp_exit ?_
    refine awp_seq ?_
    refine awp_region rfl (.n (fun _ => op_move (.plain rfl)) (.n (fun _ => op_assign (.plain rfl)) (.nil _))) ?_
    refine awp_ret ?_
    refine retQ.ret ?_
    refine ret1 rfl rfl rfl ?_
    obtain rfl : i = n := by omega
    rfl

set_option maxRecDepth 1000000 in
set_option maxHeartbeats 4000000 in
theorem Perms_fc (m : Nat) (l : List Int) (hl : l.length = m) (hm : m ≤ 6) : FC Try.prog 38 [.ints l] (.rows (permsF l)) := by
  revert l hm
  refine Nat.strongRecOn m ?_
  clear m
  intro m ih l hl hm
  refine FC.intro Try.func38 rfl (Nat.le_of_ble_eq_true rfl) fun hfit => ?_
  obtain ⟨fitl0, fitr0⟩ := (hfit _ (.head _)).ints
  refine awp_seq ?_
  refine awp_region rfl (.n (fun _ => op_assign (.plain rfl)) (.nil _)) ?_
  refine awp_seq ?_
  refine awp_seq ?_
  refine awp_region rfl (.n (fun _ => op_move (.plain rfl)) (.n (fun _ => op_len (s := 0) Try.underlying23 (.plain rfl)) (.n (fun _ => op_eql (.plain rfl) (.plain rfl)) (.nil _)))) ?_
  refine awp_cond rfl (fun h => ?_) (fun h => ?_)
  · try simp only [decide_eq_true_eq, decide_eq_false_iff_not, Bool.and_eq_true, Bool.or_eq_true, Bool.and_eq_false_iff, Bool.or_eq_false_iff, Bool.not_eq_true', Bool.not_eq_false', Bool.not_eq_true, Bool.not_eq_false, Bool.true_eq_false, Bool.false_eq_true] at h
    obtain rfl : l = [] := List.eq_nil_of_length_eq_zero (by omega)
    refine awp_seq ?_
    refine awp_region rfl (.n (fun _ => op_slit (pp := [(0, _)]) (α := (List Int)) (d := []) (f := (fun r => [.seq Int 0 (fun n => [.int .i64 n]) r])) [_] ety22 rfl ⟨rfl, (.nilS rfl), (by simp), trivial⟩ rfl (by decide) rfl) (.n (fun _ => op_assign (.plain rfl)) (.nil _))) ?_
    refine awp_ret ?_
    refine retQ.ret ?_
    refine ret1 rfl rfl rfl ?_
    rfl
  · try simp only [decide_eq_true_eq, decide_eq_false_iff_not, Bool.and_eq_true, Bool.or_eq_true, Bool.and_eq_false_iff, Bool.or_eq_false_iff, Bool.not_eq_true', Bool.not_eq_false', Bool.not_eq_true, Bool.not_eq_false, Bool.true_eq_false, Bool.false_eq_true] at h
    have hne0 := h
    refine awp_skip ?_
    refine awp_seq ?_
    refine awp_region rfl (.n (fun _ => op_assign (.plain rfl)) (.nil _)) ?_
    refine awp_seq ?_
    refine awp_seq ?_
    refine awp_region rfl (.n (fun _ => op_assign (.plain rfl)) (.nil _)) ?_
    refine awp_block ?_
    refine awp_ent (Ent.begin 3 1003 23 1 (List Int) [] (fun r => [.seq Int 0 (fun n => [.int .i64 n]) r]) rfl rfl rfl) ?_
    refine awp_loop (σ := Nat) (fun (i : Nat) => i ≤ l.length) (fun (i : Nat) => ⟨[(0, .pv (.ints l)), (3, .own 1003), (4, .int (i : Nat))], [(1003, .arr 23 1 (List Int) [] (fun r => [.seq Int 0 (fun n => [.int .i64 n]) r]) (permTo l i))]⟩) (fun (i : Nat) => l.length - i) 0 ?_ (Ent.kept ⟨rfl, rfl, rfl, trivial⟩ ⟨rfl, trivial⟩) ?_
    · simp
    rintro i hp
    try dsimp only at hp
    refine awp_seq ?_
    refine awp_seq ?_
    refine awp_region rfl (.n (fun _ => op_move (.plain rfl)) (.n (fun _ => op_move (.plain rfl)) (.n (fun _ => op_len (s := 0) Try.underlying23 (.plain rfl)) (.n (fun _ => op_lss (.plain rfl) (.plain rfl)) (.nil _))))) ?_
    refine awp_cond rfl (fun h => ?_) (fun h => ?_)
    · try simp only [decide_eq_true_eq, decide_eq_false_iff_not, Bool.and_eq_true, Bool.or_eq_true, Bool.and_eq_false_iff, Bool.or_eq_false_iff, Bool.not_eq_true', Bool.not_eq_false', Bool.not_eq_true, Bool.not_eq_false, Bool.true_eq_false, Bool.false_eq_true] at h
      have hil : i < l.length := by omega
      have hir := restF_len hil
      refine awp_skip ?_
      refine awp_seq ?_
      refine awp_block ?_
      refine awp_seq ?_
      refine awp_region_draw mixed rfl (.e (op_slitO (pp := []) (α := Int) (d := 0) (f := (fun n => [.int .i64 n])) 18 [] ety23 rfl trivial rfl (by decide) rfl (fun _ => rfl) rfl) rfl (.n (fun _ => op_move (.plain rfl)) (.n (fun _ => op_move (.plain rfl)) (.n (fun _ => op_sliceI (kl := .i64) Try.underlying23 Try.sizeOf3 (fun _ => rfl) (.plain rfl) rfl (.plain rfl) ?_) (.e (op_append (id' := 22) (α := Int) (d := 0) (f := (fun n => [.int .i64 n])) ety23 Try.underlying23 (fun _ => rfl) (fun _ => rfl) (.plain rfl) rfl (.plain rfl) rfl ?_) rfl (.n (fun _ => op_move (.plain rfl)) (.n (fun _ => op_move (.plain rfl)) (.n (fun _ => op_add (.plain rfl) (.plain rfl) ?_) (.n (fun _ => op_sliceI (kh := .i64) Try.underlying23 Try.sizeOf3 (fun _ => rfl) (.plain rfl) (.plain rfl) rfl ?_) (.e (op_append (id' := 27) (α := Int) (d := 0) (f := (fun n => [.int .i64 n])) ety23 Try.underlying23 (fun _ => rfl) (fun _ => rfl) (.plain rfl) rfl (.plain rfl) rfl ?_) rfl (.n (fun _ => op_assign (.plain rfl)) (.nil _)))))))))))) ?d3 ?_
      · omega
      · simp; omega
      · unfold InR; omega
      · omega
      · simp; omega
      · kernel_rfl
      refine awp_seq ?_
      refine awp_ent (Ent.give 5 rfl rfl) ?_
      refine awp_region rfl (.n (fun _ => op_move (.plain rfl)) (.n (fun _ => op_call1 Try.call38 (.plain rfl) (ih (m - 1) ?_ _ ?_ ?_)) (.n (fun _ => op_assign (.plain rfl)) (.nil _)))) ?_
      · omega
      · simp; omega
      · omega
      refine awp_seq ?_
      refine awp_region rfl (.n (fun _ => op_assign (.plain rfl)) (.nil _)) ?_
      refine awp_block ?_
      refine awp_loop (σ := Nat) (fun (k : Nat) => k ≤ (permsF (restF l i)).length) (fun (k : Nat) => ⟨[(0, .pv (.ints l)), (3, .own 1003), (4, .int (i : Nat)), (6, .pv (.rows (permsF (restF l i)))), (7, .int (k : Nat))], [(1003, .arr 23 1 (List Int) [] (fun r => [.seq Int 0 (fun n => [.int .i64 n]) r]) (permTo l i ++ ((permsF (restF l i)).take k).map fun p => l.getD i 0 :: p))]⟩) (fun (k : Nat) => (permsF (restF l i)).length - k) 0 ?_ (Ent.kept ⟨rfl, rfl, rfl, (congrArg (fun r => some (SV.pv (.rows (permsF r)))) (rest_eq l i)), rfl, trivial⟩ ⟨(congrArg (fun l => some (Blk.arr 23 1 (List Int) [] (fun r => [.seq Int 0 (fun n => [.int .i64 n]) r]) l)) (by simp)), trivial⟩) ?_
      · simp
      rintro k hp
      try dsimp only at hp
      refine awp_seq ?_
      refine awp_seq ?_
      refine awp_region rfl (.n (fun _ => op_move (.plain rfl)) (.n (fun _ => op_move (.plain rfl)) (.n (fun _ => op_len (s := 0) Try.underlying22 (.plain rfl)) (.n (fun _ => op_lss (.plain rfl) (.plain rfl)) (.nil _))))) ?_
      refine awp_cond rfl (fun h => ?_) (fun h => ?_)
      · try simp only [decide_eq_true_eq, decide_eq_false_iff_not, Bool.and_eq_true, Bool.or_eq_true, Bool.and_eq_false_iff, Bool.or_eq_false_iff, Bool.not_eq_true', Bool.not_eq_false', Bool.not_eq_true, Bool.not_eq_false, Bool.true_eq_false, Bool.false_eq_true] at h
        have hk2 : k < (permsF (restF l i)).length := by omega
        have hpk := permsF_len (l := restF l i) (by omega)
        refine awp_skip ?_
        refine awp_seq ?_
        refine awp_block ?_
        refine awp_region_draw mixed rfl (.n (fun _ => op_move (.plain rfl)) (.n (fun _ => op_move (.plain rfl)) (.n (fun _ => op_move (.plain rfl)) (.n (fun _ => op_indexAddrN Try.underlying23 Try.sizeOf3 (.plain rfl) (.plain rfl) (fun _ => rfl) ?_) (.n (fun _ => op_load Try.isAgg3 (.plain rfl)) (.e (op_slitO (pp := [(0, _)]) (α := Int) (d := 0) (f := (fun n => [.int .i64 n])) 41 [_] ety23 rfl ⟨rfl, (.plain rfl), (by simp), trivial⟩ rfl (by decide) rfl (fun _ => rfl) rfl) rfl (.n (fun _ => op_move (.plain rfl)) (.n (fun _ => op_move (.plain rfl)) (.n (fun _ => op_indexAddrN Try.underlying22 Try.sizeOf23 (.plain rfl) (.plain rfl) (fun _ => rfl) ?_) (.n (fun _ => op_load Try.isAgg23 (.plain rfl)) (.e ((op_append (id' := 46) (α := Int) (d := 0) (f := (fun n => [.int .i64 n])) ety23 Try.underlying23 (fun _ => rfl) (fun _ => rfl) (.plain rfl) rfl (.plain rfl) rfl ?_).given rfl) rfl (.n (fun _ => op_slit (pp := [(0, _)]) (α := (List Int)) (d := []) (f := (fun r => [.seq Int 0 (fun n => [.int .i64 n]) r])) [_] ety22 rfl ⟨rfl, (.plain rfl), (by simp), trivial⟩ rfl (by decide) rfl) (.e (op_append (id' := 48) (α := (List Int)) (d := []) (f := (fun r => [.seq Int 0 (fun n => [.int .i64 n]) r])) ety22 Try.underlying22 (fun _ => rfl) (fun _ => rfl) (.plain rfl) rfl (.plain rfl) rfl ?_) rfl (.n (fun _ => op_assign (.plain rfl)) (.nil _))))))))))))))) ?d4 ?_
        · omega
        · omega
        · have h4 := permR_in hir hk2; simp only [List.length_cons, List.length_nil]; omega
        · have := permTo_len (show i ≤ l.length by omega) (by omega); have := permsF_len (l := restF l i) (by rw [restF_len hil]; omega); simp; omega
        · kernel_rfl
        refine awp_region rfl (.n (fun _ => op_move (.plain rfl)) (.n (fun _ => op_add (.plain rfl) (.plain rfl) ?_) (.n (fun _ => op_assign (.plain rfl)) (.nil _)))) ?_
        · unfold InR; omega
        exact ⟨k + 1, by omega, by dsimp only; omega, (Ent.round 48 1003 ⟨rfl, rfl, rfl, rfl, rfl, trivial⟩ ⟨(congrArg (fun l => some (Blk.arr 23 1 (List Int) [] (fun r => [.seq Int 0 (fun n => [.int .i64 n]) r]) l)) (by rw [List.append_assoc, take_snocR hk2, List.map_append]; rfl)), trivial⟩ rfl rfl rfl ⟨rfl, rfl, rfl, rfl, rfl, trivial⟩ ⟨rfl, trivial⟩)⟩
      · try simp only [decide_eq_true_eq, decide_eq_false_iff_not, Bool.and_eq_true, Bool.or_eq_true, Bool.and_eq_false_iff, Bool.or_eq_false_iff, Bool.not_eq_true', Bool.not_eq_false', Bool.not_eq_true, Bool.not_eq_false, Bool.true_eq_false, Bool.false_eq_true] at h
        obtain rfl : k = (permsF (restF l i)).length := by omega
        refine awp_exit ?_
        refine awp_region rfl (.n (fun _ => op_move (.plain rfl)) (.n (fun _ => op_add (.plain rfl) (.plain rfl) ?_) (.n (fun _ => op_assign (.plain rfl)) (.nil _)))) ?_
        · unfold InR; omega
        exact ⟨i + 1, by omega, by dsimp only; omega, (Ent.kept ⟨rfl, rfl, rfl, trivial⟩ ⟨(congrArg (fun l => some (Blk.arr 23 1 (List Int) [] (fun r => [.seq Int 0 (fun n => [.int .i64 n]) r]) l)) (by rw [permTo_succ, List.take_length])), trivial⟩)⟩
    · try simp only [decide_eq_true_eq, decide_eq_false_iff_not, Bool.and_eq_true, Bool.or_eq_true, Bool.and_eq_false_iff, Bool.or_eq_false_iff, Bool.not_eq_true', Bool.not_eq_false', Bool.not_eq_true, Bool.not_eq_false, Bool.true_eq_false, Bool.false_eq_true] at h
      obtain rfl : i = l.length := by omega
      refine awp_exit ?_
      refine awp_seq ?_
      refine awp_region rfl (.n (fun _ => op_move (.plain rfl)) (.n (fun _ => op_assign (.plain rfl)) (.nil _))) ?_
      refine awp_ret ?_
      refine retQ.ret ?_
      refine ret1 rfl rfl rfl ?_
      rw [permTo_all (fun c => hne0 (by rw [c]; rfl))]

theorem better_fc (W : List (List Int)) (got : List Int) (who p : List Int) (hgl : (got.length : Int) = W.length) (hw : Ins W.length who) (hpl : p.length = who.length) : FC Try.prog 39 [.rows W, .ints got, .ints who, .ints p] (.tup [.bool (fineF W got who p), .bool (betF W got who p)]) := by
  refine FC.intro Try.func39 rfl (Nat.le_of_ble_eq_true rfl) fun hfit => ?_
  obtain ⟨fitl0, fitr0⟩ := (hfit _ (.head _)).rows
  obtain ⟨fitl1, fitr1⟩ := (hfit _ (.tail _ (.head _))).ints
  obtain ⟨fitl2, fitr2⟩ := (hfit _ (.tail _ (.tail _ (.head _)))).ints
  obtain ⟨fitl3, fitr3⟩ := (hfit _ (.tail _ (.tail _ (.tail _ (.head _))))).ints
  refine awp_seq ?_
  refine awp_region rfl (.n (fun _ => op_assign (.plain rfl)) (.n (fun _ => op_assign (.plain rfl)) (.nil _))) ?_
  refine awp_seq ?_
  refine awp_region rfl (.n (fun _ => op_assign (.plain rfl)) (.nil _)) ?_
  refine awp_seq ?_
  refine awp_seq ?_
  refine awp_region rfl (.n (fun _ => op_assign (.plain rfl)) (.nil _)) ?_
  refine awp_block ?_
  refine awp_loop (σ := Nat) (fun (i : Nat) => i ≤ who.length ∧ ∀ j, j < i → ¬ aR W (who.getD j 0).toNat (got.getD (who.getD j 0).toNat 0) < aR W (who.getD j 0).toNat (p.getD j 0)) (fun (i : Nat) => ⟨[(0, .pv (.rows W)), (1, .pv (.ints got)), (2, .pv (.ints who)), (3, .pv (.ints p)), (10, .pv (.bool (moreF W got who p i))), (11, .int (i : Nat))], []⟩) (fun (i : Nat) => who.length - i) 0 ?_ (Ent.kept ⟨rfl, rfl, rfl, rfl, rfl, rfl, trivial⟩ trivial) ?_
  · exact ⟨Nat.zero_le _, fun j hj => absurd hj (Nat.not_lt_zero _)⟩
  rintro i hp
  try dsimp only at hp
  obtain ⟨hi, hj⟩ := hp
  refine awp_seq ?_
  refine awp_seq ?_
  refine awp_region rfl (.n (fun _ => op_move (.plain rfl)) (.n (fun _ => op_move (.plain rfl)) (.n (fun _ => op_len (s := 0) Try.underlying23 (.plain rfl)) (.n (fun _ => op_lss (.plain rfl) (.plain rfl)) (.nil _))))) ?_
  refine awp_cond rfl (fun h => ?_) (fun h => ?_)
  · try simp only [decide_eq_true_eq, decide_eq_false_iff_not, Bool.and_eq_true, Bool.or_eq_true, Bool.and_eq_false_iff, Bool.or_eq_false_iff, Bool.not_eq_true', Bool.not_eq_false', Bool.not_eq_true, Bool.not_eq_false, Bool.true_eq_false, Bool.false_eq_true] at h
    refine awp_skip ?_
    refine awp_seq ?_
    refine awp_block ?_
    refine awp_seq ?_
    refine awp_region_draw mixed rfl (.n (fun _ => op_move (.plain rfl)) (.n (fun _ => op_move (.plain rfl)) (.n (fun _ => op_move (.plain rfl)) (.n (fun _ => op_indexAddrN Try.underlying23 Try.sizeOf3 (.plain rfl) (.plain rfl) (fun _ => rfl) ?_) (.n (fun _ => op_load Try.isAgg3 (.plain rfl)) (.n (fun _ => op_indexAddr Try.underlying22 Try.sizeOf23 (.plain rfl) (.plain rfl) (fun _ => rfl) ?_) (.n (fun _ => op_load Try.isAgg23 (.plain rfl)) (.n (fun _ => op_move (.plain rfl)) (.n (fun _ => op_move (.plain rfl)) (.n (fun _ => op_indexAddrN Try.underlying23 Try.sizeOf3 (.plain rfl) (.plain rfl) (fun _ => rfl) ?_) (.n (fun _ => op_load Try.isAgg3 (.plain rfl)) (.n (fun _ => op_call2 Try.call23 (.plain rfl) (.plain rfl) (Place_fc _ _)) (.n (fun _ => op_assign (.plain rfl)) (.nil _)))))))))))))) ?d5 ?_
    · omega
    · have := hw.at (show i < who.length by omega); omega
    · omega
    · kernel_rfl
    refine awp_seq ?_
    refine awp_region_draw mixed rfl (.n (fun _ => op_move (.plain rfl)) (.n (fun _ => op_move (.plain rfl)) (.n (fun _ => op_move (.plain rfl)) (.n (fun _ => op_indexAddrN Try.underlying23 Try.sizeOf3 (.plain rfl) (.plain rfl) (fun _ => rfl) ?_) (.n (fun _ => op_load Try.isAgg3 (.plain rfl)) (.n (fun _ => op_indexAddr Try.underlying22 Try.sizeOf23 (.plain rfl) (.plain rfl) (fun _ => rfl) ?_) (.n (fun _ => op_load Try.isAgg23 (.plain rfl)) (.n (fun _ => op_move (.plain rfl)) (.n (fun _ => op_move (.plain rfl)) (.n (fun _ => op_move (.plain rfl)) (.n (fun _ => op_indexAddrN Try.underlying23 Try.sizeOf3 (.plain rfl) (.plain rfl) (fun _ => rfl) ?_) (.n (fun _ => op_load Try.isAgg3 (.plain rfl)) (.n (fun _ => op_indexAddr Try.underlying23 Try.sizeOf3 (.plain rfl) (.plain rfl) (fun _ => rfl) ?_) (.n (fun _ => op_load Try.isAgg3 (.plain rfl)) (.n (fun _ => op_call2 Try.call23 (.plain rfl) (.plain rfl) (Place_fc _ _)) (.n (fun _ => op_assign (.plain rfl)) (.nil _))))))))))))))))) ?d6 ?_
    · omega
    · have := hw.at (show i < who.length by omega); omega
    · omega
    · have := hw.at (show i < who.length by omega); omega
    · kernel_rfl
    refine awp_seq ?_
    refine awp_seq ?_
    refine awp_region rfl (.n (fun _ => op_move (.plain rfl)) (.n (fun _ => op_move (.plain rfl)) (.n (fun _ => op_gtr (.plain rfl) (.plain rfl)) (.nil _)))) ?_
    refine awp_cond rfl (fun h => ?_) (fun h => ?_)
    · try simp only [decide_eq_true_eq, decide_eq_false_iff_not, Bool.and_eq_true, Bool.or_eq_true, Bool.and_eq_false_iff, Bool.or_eq_false_iff, Bool.not_eq_true', Bool.not_eq_false', Bool.not_eq_true, Bool.not_eq_false, Bool.true_eq_false, Bool.false_eq_true] at h
      refine awp_seq ?_
      refine awp_region rfl (.n (fun _ => op_assign (.plain rfl)) (.n (fun _ => op_assign (.plain rfl)) (.nil _))) ?_
      refine awp_ret ?_
      refine retQ.ret ?_
      refine ret2 rfl rfl rfl rfl rfl ?_
      have e : fineF W got who p = false := by unfold fineF; rw [anyTo_some (k := i) (by omega) (decide_eq_true h)]; rfl
      unfold betF; rw [e]; rfl
    · try simp only [decide_eq_true_eq, decide_eq_false_iff_not, Bool.and_eq_true, Bool.or_eq_true, Bool.and_eq_false_iff, Bool.or_eq_false_iff, Bool.not_eq_true', Bool.not_eq_false', Bool.not_eq_true, Bool.not_eq_false, Bool.true_eq_false, Bool.false_eq_true] at h
      refine awp_skip ?_
      refine awp_region rfl (.n (fun _ => op_move (.plain rfl)) (.n (fun _ => op_move (.plain rfl)) (.gn rfl rfl (fun hg _ => op_move (.plain rfl)) (.gn rfl rfl (fun hg _ => op_move (.plain rfl)) (.gn rfl rfl (fun hg _ => op_lss (.opt rfl fun h => h) (.opt rfl fun h => h)) (.n (fun _ => op_or (.plain rfl) (.plain rfl) (.plain rfl) (fun h => eqF h)) (.n (fun _ => op_assign (.plain rfl)) (.nil _)))))))) ?_
      refine awp_region rfl (.n (fun _ => op_move (.plain rfl)) (.n (fun _ => op_add (.plain rfl) (.plain rfl) ?_) (.n (fun _ => op_assign (.plain rfl)) (.nil _)))) ?_
      · unfold InR; omega
      refine ⟨i + 1, ⟨by omega, fun j hji => ?_⟩, by dsimp only; omega, (Ent.kept ⟨rfl, rfl, rfl, rfl, (congrArg (fun x => some (SV.pv (.bool x))) (anyTo_succ _ _).symm), rfl, trivial⟩ trivial)⟩
      by_cases e : j = i
      · subst e; unfold aR; omega
      · exact hj j (by omega)
  · try simp only [decide_eq_true_eq, decide_eq_false_iff_not, Bool.and_eq_true, Bool.or_eq_true, Bool.and_eq_false_iff, Bool.or_eq_false_iff, Bool.not_eq_true', Bool.not_eq_false', Bool.not_eq_true, Bool.not_eq_false, Bool.true_eq_false, Bool.false_eq_true] at h
    refine awp_exit ?_
    refine awp_seq ?_
    refine awp_region rfl (.n (fun _ => op_move (.plain rfl)) (.n (fun _ => op_assign (.plain rfl)) (.n (fun _ => op_assign (.plain rfl)) (.nil _)))) ?_
    refine awp_ret ?_
    refine retQ.ret ?_
    refine ret2 rfl rfl rfl rfl rfl ?_
    obtain rfl : i = who.length := by omega
    have e : fineF W got who p = true := by unfold fineF; rw [anyTo_none fun j h => decide_eq_false (hj j h)]; rfl
    unfold betF; rw [e]; rfl

theorem Core_fc (W : List (List Int)) (got : List Int) : FC Try.prog 17 [.rows W, .ints got] (.tup [.bool (decide (turnsE W got = 0) && decide (coreS (blkB W got) W.length = 0)), .i (if turnsE W got = 0 then ((coreS (blkB W got) W.length : Nat) : Int) else 0), .i (turnsE W got)]) := by
  refine FC.intro Try.func17 rfl (Nat.le_of_ble_eq_true rfl) fun hfit => ?_
  obtain ⟨fitl0, fitr0⟩ := (hfit _ (.head _)).rows
  obtain ⟨fitl1, fitr1⟩ := (hfit _ (.tail _ (.head _))).ints
  refine awp_seq ?_
  refine awp_region rfl (.n (fun _ => op_assign (.plain rfl)) (.n (fun _ => op_assign (.plain rfl)) (.n (fun _ => op_assign (.plain rfl)) (.nil _)))) ?_
  refine awp_seq ?_
  refine awp_seq ?_
  refine awp_region rfl (.n (fun _ => op_move (.plain rfl)) (.n (fun _ => op_call1 Try.call13 (.plain rfl) (May_fc _)) (.n (fun _ => op_assign (.plain rfl)) (.nil _)))) ?_
  refine awp_seq ?_
  refine awp_region rfl (.n (fun _ => op_move (.plain rfl)) (.n (fun _ => op_neq (.plain rfl) (.plain rfl)) (.nil _))) ?_
  refine awp_cond rfl (fun h => ?_) (fun h => ?_)
  · try simp only [decide_eq_true_eq, decide_eq_false_iff_not, Bool.and_eq_true, Bool.or_eq_true, Bool.and_eq_false_iff, Bool.or_eq_false_iff, Bool.not_eq_true', Bool.not_eq_false', Bool.not_eq_true, Bool.not_eq_false, Bool.true_eq_false, Bool.false_eq_true] at h
    have hE : turnsE W got = mayE W := if_pos h
    have hne : ¬ turnsE W got = 0 := by omega
    refine awp_seq ?_
    refine awp_region rfl (.n (fun _ => op_move (.plain rfl)) (.n (fun _ => op_assign (.plain rfl)) (.n (fun _ => op_assign (.plain rfl)) (.n (fun _ => op_assign (.plain rfl)) (.nil _))))) ?_
    refine awp_ret ?_
    refine retQ.ret ?_
    refine ret3 rfl rfl rfl rfl rfl rfl rfl ?_
    simp only [if_neg hne, decide_eq_false hne, Bool.false_and]
    rw [hE]
  · try simp only [decide_eq_true_eq, decide_eq_false_iff_not, Bool.and_eq_true, Bool.or_eq_true, Bool.and_eq_false_iff, Bool.or_eq_false_iff, Bool.not_eq_true', Bool.not_eq_false', Bool.not_eq_true, Bool.not_eq_false, Bool.true_eq_false, Bool.false_eq_true] at h
    have hW := h
    have hn6 := mayE_len hW
    refine awp_skip ?_
    refine awp_seq ?_
    refine awp_seq ?_
    refine awp_region rfl (.n (fun _ => op_move (.plain rfl)) (.n (fun _ => op_move (.plain rfl)) (.n (fun _ => op_len (s := 0) Try.underlying22 (.plain rfl)) (.n (fun _ => op_call2 Try.call25 (.plain rfl) (.plain rfl) (order_fc _ _)) (.n (fun _ => op_assign (.plain rfl)) (.nil _)))))) ?_
    refine awp_seq ?_
    refine awp_region rfl (.n (fun _ => op_move (.plain rfl)) (.n (fun _ => op_neq (.plain rfl) (.plain rfl)) (.nil _))) ?_
    refine awp_cond rfl (fun h => ?_) (fun h => ?_)
    · try simp only [decide_eq_true_eq, decide_eq_false_iff_not, Bool.and_eq_true, Bool.or_eq_true, Bool.and_eq_false_iff, Bool.or_eq_false_iff, Bool.not_eq_true', Bool.not_eq_false', Bool.not_eq_true, Bool.not_eq_false, Bool.true_eq_false, Bool.false_eq_true] at h
      have hE : turnsE W got = ordE W.length got := if_neg (fun c => c hW)
      have hne : ¬ turnsE W got = 0 := by omega
      refine awp_seq ?_
      refine awp_region rfl (.n (fun _ => op_move (.plain rfl)) (.n (fun _ => op_assign (.plain rfl)) (.n (fun _ => op_assign (.plain rfl)) (.n (fun _ => op_assign (.plain rfl)) (.nil _))))) ?_
      refine awp_ret ?_
      refine retQ.ret ?_
      refine ret3 rfl rfl rfl rfl rfl rfl rfl ?_
      simp only [if_neg hne, decide_eq_false hne, Bool.false_and]
      rw [hE]
    · try simp only [decide_eq_true_eq, decide_eq_false_iff_not, Bool.and_eq_true, Bool.or_eq_true, Bool.and_eq_false_iff, Bool.or_eq_false_iff, Bool.not_eq_true', Bool.not_eq_false', Bool.not_eq_true, Bool.not_eq_false, Bool.true_eq_false, Bool.false_eq_true] at h
      have hgo := h
      have hgl := (ord_some hgo).1
      have hE : turnsE W got = 0 := by unfold turnsE; rw [if_neg (fun c => c hW), hgo]
      refine awp_skip ?_
      refine awp_seq ?_
      refine awp_seq ?_
      refine awp_region rfl (.n (fun _ => op_assign (.plain rfl)) (.nil _)) ?_
      refine awp_block ?_
      refine awp_loop (σ := Nat) (fun (set : Nat) => 1 ≤ set ∧ set ≤ 2 ^ W.length ∧ ∀ t, 1 ≤ t → t < set → blkB W got t = false) (fun (set : Nat) => ⟨[(0, .pv (.rows W)), (1, .pv (.ints got)), (9, .int (set : Nat))], []⟩) (fun (set : Nat) => 2 ^ W.length - set) 1 ?_ (Ent.kept ⟨rfl, rfl, rfl, trivial⟩ trivial) ?_
      · exact ⟨Nat.le_refl _, Nat.pow_pos (by omega), fun t h1 h2 => by omega⟩
      rintro set hp
      try dsimp only at hp
      obtain ⟨h1s, hle, hlo⟩ := hp
      refine awp_seq ?_
      refine awp_seq ?_
      refine awp_region rfl (.n (fun _ => op_move (.plain rfl)) (.n (fun _ => op_move (.plain rfl)) (.n (fun _ => op_len (s := 0) Try.underlying22 (.plain rfl)) (.n (fun _ => op_shl (.plain rfl) (.plain rfl) ?_) (.n (fun _ => op_lss (.plain rfl) (.plain rfl)) (.nil _)))))) ?_
      · have h6 := shl_bd (show W.length ≤ 6 by omega)
        exact ⟨by omega, by omega, by unfold InR; omega⟩
      refine awp_cond rfl (fun h => ?_) (fun h => ?_)
      · try simp only [decide_eq_true_eq, decide_eq_false_iff_not, Bool.and_eq_true, Bool.or_eq_true, Bool.and_eq_false_iff, Bool.or_eq_false_iff, Bool.not_eq_true', Bool.not_eq_false', Bool.not_eq_true, Bool.not_eq_false, Bool.true_eq_false, Bool.false_eq_true] at h
        rw [shl_nat] at h
        have hlt := h
        refine awp_skip ?_
        refine awp_seq ?_
        refine awp_block ?_
        refine awp_seq ?_
        refine awp_region rfl (.n (fun _ => op_move (.plain rfl)) (.n (fun _ => op_move (.plain rfl)) (.n (fun _ => op_move (.plain rfl)) (.n (fun _ => op_call3 Try.call36 (.plain rfl) (.plain rfl) (.plain rfl) (blocks_fc _ _ _ ?_ ?_)) (.nil _))))) ?_
        · exact hW
        · exact hgo
        refine awp_cond rfl (fun h => ?_) (fun h => ?_)
        · try simp only [decide_eq_true_eq, decide_eq_false_iff_not, Bool.and_eq_true, Bool.or_eq_true, Bool.and_eq_false_iff, Bool.or_eq_false_iff, Bool.not_eq_true', Bool.not_eq_false', Bool.not_eq_true, Bool.not_eq_false, Bool.true_eq_false, Bool.false_eq_true] at h
          have hs := h
          refine awp_seq ?_
          refine awp_region rfl (.n (fun _ => op_move (.plain rfl)) (.n (fun _ => op_assign (.plain rfl)) (.n (fun _ => op_assign (.plain rfl)) (.n (fun _ => op_assign (.plain rfl)) (.nil _))))) ?_
          refine awp_ret ?_
          refine retQ.ret ?_
          refine ret3 rfl rfl rfl rfl rfl rfl rfl ?_
          rw [coreS_some (f := blkB W got) h1s (by omega) hlo hs]
          simp only [if_pos hE, hE]
          rw [decide_eq_false (show ¬ set = 0 by omega)]
          simp
        · try simp only [decide_eq_true_eq, decide_eq_false_iff_not, Bool.and_eq_true, Bool.or_eq_true, Bool.and_eq_false_iff, Bool.or_eq_false_iff, Bool.not_eq_true', Bool.not_eq_false', Bool.not_eq_true, Bool.not_eq_false, Bool.true_eq_false, Bool.false_eq_true] at h
          refine awp_skip ?_
          refine awp_region rfl (.n (fun _ => op_move (.plain rfl)) (.n (fun _ => op_add (.plain rfl) (.plain rfl) ?_) (.n (fun _ => op_assign (.plain rfl)) (.nil _)))) ?_
          · have := pow_le6 hn6; unfold InR; omega
          refine ⟨set + 1, ⟨by omega, by omega, fun t h1 h2 => ?_⟩, by dsimp only; omega, (Ent.kept ⟨rfl, rfl, rfl, trivial⟩ trivial)⟩
          by_cases e : t = set
          · subst e; exact h
          · exact hlo t h1 (by omega)
      · try simp only [decide_eq_true_eq, decide_eq_false_iff_not, Bool.and_eq_true, Bool.or_eq_true, Bool.and_eq_false_iff, Bool.or_eq_false_iff, Bool.not_eq_true', Bool.not_eq_false', Bool.not_eq_true, Bool.not_eq_false, Bool.true_eq_false, Bool.false_eq_true] at h
        rw [shl_nat] at h
        refine awp_exit ?_
        refine awp_seq ?_
        refine awp_region rfl (.n (fun _ => op_assign (.plain rfl)) (.n (fun _ => op_assign (.plain rfl)) (.n (fun _ => op_assign (.plain rfl)) (.nil _)))) ?_
        refine awp_ret ?_
        refine retQ.ret ?_
        refine ret3 rfl rfl rfl rfl rfl rfl rfl ?_
        rw [coreS_none (f := blkB W got) (n := W.length) (fun t h1 h2 => hlo t h1 (by omega))]
        simp only [if_pos hE, hE]
        rfl

set_option maxRecDepth 1000000 in
set_option maxHeartbeats 4000000 in
theorem RCore_fc (W : List (List Int)) (got : List Int) : FC Try.prog 18 [.rows W, .ints got] (.tup [.bool (decide (turnsE W got = 0) && decide (coreS (refB W got) W.length = 0)), .i (if turnsE W got = 0 then ((coreS (refB W got) W.length : Nat) : Int) else 0), .i (turnsE W got)]) := by
  refine FC.intro Try.func18 rfl (Nat.le_of_ble_eq_true rfl) fun hfit => ?_
  obtain ⟨fitl0, fitr0⟩ := (hfit _ (.head _)).rows
  obtain ⟨fitl1, fitr1⟩ := (hfit _ (.tail _ (.head _))).ints
  refine awp_seq ?_
  refine awp_region rfl (.n (fun _ => op_assign (.plain rfl)) (.n (fun _ => op_assign (.plain rfl)) (.n (fun _ => op_assign (.plain rfl)) (.nil _)))) ?_
  refine awp_seq ?_
  refine awp_region rfl (.n (fun _ => op_move (.plain rfl)) (.n (fun _ => op_call1 Try.call14 (.plain rfl) (TradeMay_fc _)) (.n (fun _ => op_assign (.plain rfl)) (.nil _)))) ?_
  refine awp_seq ?_
  refine awp_seq ?_
  refine awp_region rfl (.n (fun _ => op_move (.plain rfl)) (.n (fun _ => op_neq (.plain rfl) (.plain rfl)) (.nil _))) ?_
  refine awp_cond rfl (fun h => ?_) (fun h => ?_)
  · try simp only [decide_eq_true_eq, decide_eq_false_iff_not, Bool.and_eq_true, Bool.or_eq_true, Bool.and_eq_false_iff, Bool.or_eq_false_iff, Bool.not_eq_true', Bool.not_eq_false', Bool.not_eq_true, Bool.not_eq_false, Bool.true_eq_false, Bool.false_eq_true] at h
    have hE : turnsE W got = mayE W := if_pos h
    have hne : ¬ turnsE W got = 0 := by omega
    refine awp_seq ?_
    refine awp_region rfl (.n (fun _ => op_move (.plain rfl)) (.n (fun _ => op_assign (.plain rfl)) (.n (fun _ => op_assign (.plain rfl)) (.n (fun _ => op_assign (.plain rfl)) (.nil _))))) ?_
    refine awp_ret ?_
    refine retQ.ret ?_
    refine ret3 rfl rfl rfl rfl rfl rfl rfl ?_
    simp only [if_neg hne, decide_eq_false hne, Bool.false_and]
    rw [hE]
  · try simp only [decide_eq_true_eq, decide_eq_false_iff_not, Bool.and_eq_true, Bool.or_eq_true, Bool.and_eq_false_iff, Bool.or_eq_false_iff, Bool.not_eq_true', Bool.not_eq_false', Bool.not_eq_true, Bool.not_eq_false, Bool.true_eq_false, Bool.false_eq_true] at h
    have hW := h
    have hn6 := mayE_len hW
    refine awp_skip ?_
    refine awp_seq ?_
    refine awp_region rfl (.n (fun _ => op_move (.plain rfl)) (.n (fun _ => op_move (.plain rfl)) (.n (fun _ => op_len (s := 0) Try.underlying22 (.plain rfl)) (.n (fun _ => op_call2 Try.call30 (.plain rfl) (.plain rfl) (OrderOf_fc _ _)) (.n (fun _ => op_assign (.plain rfl)) (.nil _)))))) ?_
    refine awp_seq ?_
    refine awp_seq ?_
    refine awp_region rfl (.n (fun _ => op_move (.plain rfl)) (.n (fun _ => op_neq (.plain rfl) (.plain rfl)) (.nil _))) ?_
    refine awp_cond rfl (fun h => ?_) (fun h => ?_)
    · try simp only [decide_eq_true_eq, decide_eq_false_iff_not, Bool.and_eq_true, Bool.or_eq_true, Bool.and_eq_false_iff, Bool.or_eq_false_iff, Bool.not_eq_true', Bool.not_eq_false', Bool.not_eq_true, Bool.not_eq_false, Bool.true_eq_false, Bool.false_eq_true] at h
      have hE : turnsE W got = ordE W.length got := if_neg (fun c => c hW)
      have hne : ¬ turnsE W got = 0 := by omega
      refine awp_seq ?_
      refine awp_region rfl (.n (fun _ => op_move (.plain rfl)) (.n (fun _ => op_assign (.plain rfl)) (.n (fun _ => op_assign (.plain rfl)) (.n (fun _ => op_assign (.plain rfl)) (.nil _))))) ?_
      refine awp_ret ?_
      refine retQ.ret ?_
      refine ret3 rfl rfl rfl rfl rfl rfl rfl ?_
      simp only [if_neg hne, decide_eq_false hne, Bool.false_and]
      rw [hE]
    · try simp only [decide_eq_true_eq, decide_eq_false_iff_not, Bool.and_eq_true, Bool.or_eq_true, Bool.and_eq_false_iff, Bool.or_eq_false_iff, Bool.not_eq_true', Bool.not_eq_false', Bool.not_eq_true, Bool.not_eq_false, Bool.true_eq_false, Bool.false_eq_true] at h
      have hgo := h
      have hgl := (ord_some hgo).1
      have hE : turnsE W got = 0 := by unfold turnsE; rw [if_neg (fun c => c hW), hgo]
      refine awp_skip ?_
      refine awp_seq ?_
      refine awp_seq ?_
      refine awp_region rfl (.n (fun _ => op_assign (.plain rfl)) (.nil _)) ?_
      refine awp_block ?_
      refine awp_loop (σ := Nat) (fun (set : Nat) => 1 ≤ set ∧ set ≤ 2 ^ W.length ∧ ∀ t, 1 ≤ t → t < set → refB W got t = false) (fun (set : Nat) => ⟨[(0, .pv (.rows W)), (1, .pv (.ints got)), (8, .int (set : Nat))], []⟩) (fun (set : Nat) => 2 ^ W.length - set) 1 ?_ (Ent.kept ⟨rfl, rfl, rfl, trivial⟩ trivial) ?_
      · exact ⟨Nat.le_refl _, Nat.pow_pos (by omega), fun t h1 h2 => by omega⟩
      rintro set hp
      try dsimp only at hp
      obtain ⟨h1s, hle, hlo⟩ := hp
      refine awp_seq ?_
      refine awp_seq ?_
      refine awp_region rfl (.n (fun _ => op_move (.plain rfl)) (.n (fun _ => op_move (.plain rfl)) (.n (fun _ => op_len (s := 0) Try.underlying22 (.plain rfl)) (.n (fun _ => op_shl (.plain rfl) (.plain rfl) ?_) (.n (fun _ => op_lss (.plain rfl) (.plain rfl)) (.nil _)))))) ?_
      · have h6 := shl_bd (show W.length ≤ 6 by omega)
        exact ⟨by omega, by omega, by unfold InR; omega⟩
      refine awp_cond rfl (fun h => ?_) (fun h => ?_)
      · try simp only [decide_eq_true_eq, decide_eq_false_iff_not, Bool.and_eq_true, Bool.or_eq_true, Bool.and_eq_false_iff, Bool.or_eq_false_iff, Bool.not_eq_true', Bool.not_eq_false', Bool.not_eq_true, Bool.not_eq_false, Bool.true_eq_false, Bool.false_eq_true] at h
        rw [shl_nat] at h
        have hlt := h
        have hbl := bitsN_le set W.length
        have hwi : Ins W.length (ringI (bitsN set W.length)) := bits_ins set W.length
        have hpl6 := permsF_len (l := ringI (bitsN set W.length)) (by simp; omega)
        refine awp_skip ?_
        refine awp_seq ?_
        refine awp_block ?_
        refine awp_seq ?_
        refine awp_region rfl (.n (fun _ => op_move (.plain rfl)) (.n (fun _ => op_move (.plain rfl)) (.n (fun _ => op_len (s := 0) Try.underlying22 (.plain rfl)) (.n (fun _ => op_call2 Try.call37 (.plain rfl) (.plain rfl) (Bits_fc _ _ ?_)) (.n (fun _ => op_assign (.plain rfl)) (.nil _)))))) ?_
        · omega
        refine awp_seq ?_
        refine awp_region rfl (.n (fun _ => op_move (.plain rfl)) (.n (fun _ => op_call1 Try.call38 (.plain rfl) (Perms_fc _ _ rfl ?_)) (.n (fun _ => op_assign (.plain rfl)) (.nil _)))) ?_
        · first | omega | (simp; omega)
        refine awp_seq ?_
        refine awp_region rfl (.n (fun _ => op_assign (.plain rfl)) (.nil _)) ?_
        refine awp_block ?_
        refine awp_loop (σ := Nat) (fun (k : Nat) => k ≤ (permsF (ringI (bitsN set W.length))).length ∧ ∀ j, j < k → betF W got (ringI (bitsN set W.length)) ((permsF (ringI (bitsN set W.length))).getD j []) = false) (fun (k : Nat) => ⟨[(0, .pv (.rows W)), (1, .pv (.ints got)), (8, .int (set : Nat)), (9, .pv (.ints (ringI (bitsN set W.length)))), (10, .pv (.rows (permsF (ringI (bitsN set W.length))))), (11, .int (k : Nat))], []⟩) (fun (k : Nat) => (permsF (ringI (bitsN set W.length))).length - k) 0 ?_ (Ent.kept ⟨rfl, rfl, rfl, rfl, rfl, rfl, trivial⟩ trivial) ?_
        · exact ⟨Nat.zero_le _, fun j hj => absurd hj (Nat.not_lt_zero _)⟩
        rintro k hp
        try dsimp only at hp
        obtain ⟨hk, hkj⟩ := hp
        refine awp_seq ?_
        refine awp_seq ?_
        refine awp_region rfl (.n (fun _ => op_move (.plain rfl)) (.n (fun _ => op_move (.plain rfl)) (.n (fun _ => op_len (s := 0) Try.underlying22 (.plain rfl)) (.n (fun _ => op_lss (.plain rfl) (.plain rfl)) (.nil _))))) ?_
        refine awp_cond rfl (fun h => ?_) (fun h => ?_)
        · try simp only [decide_eq_true_eq, decide_eq_false_iff_not, Bool.and_eq_true, Bool.or_eq_true, Bool.and_eq_false_iff, Bool.or_eq_false_iff, Bool.not_eq_true', Bool.not_eq_false', Bool.not_eq_true, Bool.not_eq_false, Bool.true_eq_false, Bool.false_eq_true] at h
          have hk2 : k < (permsF (ringI (bitsN set W.length))).length := by omega
          have hpl : ((permsF (ringI (bitsN set W.length))).getD k []).length = (ringI (bitsN set W.length)).length := (permsF_mem.1 (getD_mem [] hk2)).length_eq
          refine awp_skip ?_
          refine awp_seq ?_
          refine awp_block ?_
          refine awp_seq ?_
          refine awp_region rfl (.n (fun _ => op_move (.plain rfl)) (.n (fun _ => op_move (.plain rfl)) (.n (fun _ => op_move (.plain rfl)) (.n (fun _ => op_move (.plain rfl)) (.n (fun _ => op_move (.plain rfl)) (.n (fun _ => op_indexAddrN Try.underlying22 Try.sizeOf23 (.plain rfl) (.plain rfl) (fun _ => rfl) ?_) (.n (fun _ => op_load Try.isAgg23 (.plain rfl)) (.n (fun _ => op_call4 Try.call39 (.plain rfl) (.plain rfl) (.plain rfl) (.plain rfl) (better_fc _ _ _ _ ?_ ?_ ?_)) (.n (fun _ => op_move (.plain rfl)) (.n (fun _ => op_extract (.plain rfl) rfl) (.n (fun _ => op_extract (.plain rfl) rfl) (.n (fun _ => op_assign (.plain rfl)) (.n (fun _ => op_assign (.plain rfl)) (.nil _)))))))))))))) ?_
          · omega
          · exact hgl
          · exact hwi
          · exact hpl
          refine awp_seq ?_
          refine awp_region rfl (.n (fun _ => op_move (.plain rfl)) (.n (fun _ => op_move (.plain rfl)) (.gn rfl rfl (fun hg _ => op_move (.plain rfl)) (.n (fun _ => op_and (.plain rfl) (.plain rfl) (.plain rfl) (fun h => eqT h)) (.nil _))))) ?_
          refine awp_cond rfl (fun h => ?_) (fun h => ?_)
          · try simp only [decide_eq_true_eq, decide_eq_false_iff_not, Bool.and_eq_true, Bool.or_eq_true, Bool.and_eq_false_iff, Bool.or_eq_false_iff, Bool.not_eq_true', Bool.not_eq_false', Bool.not_eq_true, Bool.not_eq_false, Bool.true_eq_false, Bool.false_eq_true] at h
            have hs : refB W got set = true := refB_yes hk2 h.2
            refine awp_seq ?_
            refine awp_region rfl (.n (fun _ => op_move (.plain rfl)) (.n (fun _ => op_assign (.plain rfl)) (.n (fun _ => op_assign (.plain rfl)) (.n (fun _ => op_assign (.plain rfl)) (.nil _))))) ?_
            refine awp_ret ?_
            refine retQ.ret ?_
            refine ret3 rfl rfl rfl rfl rfl rfl rfl ?_
            rw [coreS_some (f := refB W got) h1s (by omega) hlo hs]
            simp only [if_pos hE, hE]
            rw [decide_eq_false (show ¬ set = 0 by omega)]
            simp
          · try simp only [decide_eq_true_eq, decide_eq_false_iff_not, Bool.and_eq_true, Bool.or_eq_true, Bool.and_eq_false_iff, Bool.or_eq_false_iff, Bool.not_eq_true', Bool.not_eq_false', Bool.not_eq_true, Bool.not_eq_false, Bool.true_eq_false, Bool.false_eq_true] at h
            have hb0 := betF_no h
            refine awp_skip ?_
            refine awp_region rfl (.n (fun _ => op_move (.plain rfl)) (.n (fun _ => op_add (.plain rfl) (.plain rfl) ?_) (.n (fun _ => op_assign (.plain rfl)) (.nil _)))) ?_
            · unfold InR; omega
            refine ⟨k + 1, ⟨by omega, fun j hjk => ?_⟩, by dsimp only; omega, (Ent.kept ⟨rfl, rfl, rfl, rfl, rfl, rfl, trivial⟩ trivial)⟩
            by_cases e : j = k
            · subst e; exact hb0
            · exact hkj j (by omega)
        · try simp only [decide_eq_true_eq, decide_eq_false_iff_not, Bool.and_eq_true, Bool.or_eq_true, Bool.and_eq_false_iff, Bool.or_eq_false_iff, Bool.not_eq_true', Bool.not_eq_false', Bool.not_eq_true, Bool.not_eq_false, Bool.true_eq_false, Bool.false_eq_true] at h
          obtain rfl : k = (permsF (ringI (bitsN set W.length))).length := by omega
          have hs0 := refB_no hkj
          refine awp_exit ?_
          refine awp_region rfl (.n (fun _ => op_move (.plain rfl)) (.n (fun _ => op_add (.plain rfl) (.plain rfl) ?_) (.n (fun _ => op_assign (.plain rfl)) (.nil _)))) ?_
          · have := pow_le6 hn6; unfold InR; omega
          refine ⟨set + 1, ⟨by omega, by omega, fun t h1 h2 => ?_⟩, by dsimp only; omega, (Ent.kept ⟨rfl, rfl, rfl, trivial⟩ trivial)⟩
          by_cases e : t = set
          · subst e; exact hs0
          · exact hlo t h1 (by omega)
      · try simp only [decide_eq_true_eq, decide_eq_false_iff_not, Bool.and_eq_true, Bool.or_eq_true, Bool.and_eq_false_iff, Bool.or_eq_false_iff, Bool.not_eq_true', Bool.not_eq_false', Bool.not_eq_true, Bool.not_eq_false, Bool.true_eq_false, Bool.false_eq_true] at h
        rw [shl_nat] at h
        refine awp_exit ?_
        refine awp_seq ?_
        refine awp_region rfl (.n (fun _ => op_assign (.plain rfl)) (.n (fun _ => op_assign (.plain rfl)) (.n (fun _ => op_assign (.plain rfl)) (.nil _)))) ?_
        refine awp_ret ?_
        refine retQ.ret ?_
        refine ret3 rfl rfl rfl rfl rfl rfl rfl ?_
        rw [coreS_none (f := refB W got) (n := W.length) (fun t h1 h2 => hlo t h1 (by omega))]
        simp only [if_pos hE, hE]
        rfl

end Go.Proofs.Ytnbponopcbgndaa

