/- Whether two sides may be: names, rooms and likes, on plain values. Conditions: each theorem names its own. -/
import Derived.Test.YtolmcapbpliaiaaDoorProg
import Derived.Test.YtolmcapbpliaiaaDoorStrsH
namespace Go.Proofs.YtolmcapbpliaiaaDoor
open Go.Abs
set_option linter.unusedVariables false
set_option linter.unusedSimpArgs false

theorem mixed : Tryd.prog.follows .mixedOrders = true := by kernel_rfl
theorem ety22 : ElemTy Tryd.prog 22 27 3 48 (.agg #[.string ⟨#[]⟩, .int .i64 0, .slice none 0 0]) := ⟨Tryd.underlying22, ⟨Tryd.t27, by kernel_rfl, by kernel_rfl, by kernel_rfl, by kernel_rfl⟩, by kernel_rfl, by decide, by decide⟩
theorem ety25 : ElemTy Tryd.prog 25 3 1 8 (.int .i64 0) := ⟨Tryd.underlying25, ⟨Tryd.t3, by kernel_rfl, by kernel_rfl, by kernel_rfl, by kernel_rfl⟩, by kernel_rfl, by decide, by decide⟩
theorem ety41 : ElemTy Tryd.prog 41 5 1 1 (.int .u8 0) := ⟨Tryd.underlying41, ⟨Tryd.t5, by kernel_rfl, by kernel_rfl, by kernel_rfl, by kernel_rfl⟩, by kernel_rfl, by decide, by decide⟩
theorem ety44 : ElemTy Tryd.prog 44 22 1 24 (.slice none 0 0) := ⟨Tryd.underlying44, ⟨Tryd.t22, by kernel_rfl, by kernel_rfl, by kernel_rfl, by kernel_rfl⟩, by kernel_rfl, by decide, by decide⟩
theorem ety49 : ElemTy Tryd.prog 49 9 1 16 (.string ⟨#[]⟩) := ⟨Tryd.underlying49, ⟨Tryd.t9, by kernel_rfl, by kernel_rfl, by kernel_rfl, by kernel_rfl⟩, by kernel_rfl, by decide, by decide⟩
theorem ety57 : ElemTy Tryd.prog 57 62 5 80 (.agg #[.bool false, .string ⟨#[]⟩, .int .i64 0, .slice none 0 0, .slice none 0 0]) := ⟨Tryd.underlying57, ⟨Tryd.t62, by kernel_rfl, by kernel_rfl, by kernel_rfl, by kernel_rfl⟩, by kernel_rfl, by decide, by decide⟩
theorem ety66 : ElemTy Tryd.prog 66 69 5 80 (.agg #[.bool false, .string ⟨#[]⟩, .int .i64 0, .slice none 0 0, .slice none 0 0]) := ⟨Tryd.underlying66, ⟨Tryd.t69, by kernel_rfl, by kernel_rfl, by kernel_rfl, by kernel_rfl⟩, by kernel_rfl, by decide, by decide⟩
theorem ety84 : ElemTy Tryd.prog 84 86 2 16 (.agg #[.int .i64 0, .int .i64 0]) := ⟨Tryd.underlying84, ⟨Tryd.t86, by kernel_rfl, by kernel_rfl, by kernel_rfl, by kernel_rfl⟩, by kernel_rfl, by decide, by decide⟩


def pickF (c n : Int) : Int := (if c < 0 then -(c + 1) else c) % n
theorem pickF_range (c n : Int) (h : 1 ≤ n) : 0 ≤ pickF c n ∧ pickF c n < n := by
  unfold pickF
  exact ⟨Int.emod_nonneg _ (by omega), Int.emod_lt_of_pos _ (by omega)⟩
def atF (raw : List Int) (k : Nat) : Int := if raw.length = 0 then 0 else raw.getD (k % raw.length) 0
def upF (n : Nat) : List Int := (List.range n).map fun (i : Nat) => (i : Int)
theorem upF_succ (n : Nat) : upF (n + 1) = upF n ++ [(n : Int)] := by simp [upF, List.range_succ]
@[simp] theorem upF_length (n : Nat) : (upF n).length = n := by simp [upF]

/-- How long all rows are together, with the rows themselves. -/
def heavyTo (l : List (List Int)) (k : Nat) : Nat := l.length + ((l.take k).map List.length).sum
def heavyF (l : List (List Int)) : Bool := decide (1024 < heavyTo l l.length)
theorem heavyTo_succ {l : List (List Int)} {k : Nat} (h : k < l.length) : heavyTo l (k + 1) = heavyTo l k + (l.getD k []).length := by
  unfold heavyTo
  rw [List.take_succ_eq_append_getElem h, List.map_append, List.sum_append]
  simp [h, Nat.add_assoc]
theorem heavyTo_le {l : List (List Int)} (k : Nat) : heavyTo l k ≤ heavyTo l l.length := by
  unfold heavyTo
  have := List.take_append_drop k l
  have h2 : ((l.take l.length).map List.length).sum = ((l.take k).map List.length).sum + ((l.drop k).map List.length).sum := by
    rw [List.take_length, ← List.sum_append, ← List.map_append, this]
  omega
theorem getD_mem {α : Type} {l : List α} {k : Nat} (d : α) (h : k < l.length) : l.getD k d ∈ l := by
  rw [List.getD_eq_getElem?_getD, List.getElem?_eq_getElem h]; exact List.getElem_mem h

/-- The first of n that is not 0. -/
def firstE (f : Nat → Int) : Nat → Int
  | 0 => 0
  | n + 1 => if firstE f n = 0 then f n else firstE f n
theorem firstE_succ {f : Nat → Int} {n : Nat} (h : firstE f n = 0) (h' : f n = 0) : firstE f (n + 1) = 0 := by simp [firstE, h, h']
theorem firstE_stop {f : Nat → Int} {k n : Nat} {c : Int} (h : firstE f k = 0) (hc : f k = c) (h0 : c ≠ 0) (hk : k < n) : firstE f n = c := by
  have h1 : firstE f (k + 1) = c := by simp [firstE, h, hc]
  have : ∀ d, firstE f (k + 1 + d) = c := by
    intro d
    induction d with
    | zero => exact h1
    | succ d ih => rw [← Nat.add_assoc, firstE, ih, if_neg h0]
  have := this (n - (k + 1))
  rwa [show k + 1 + (n - (k + 1)) = n by omega] at this
theorem firstE_zero {f : Nat → Int} : ∀ {n : Nat}, firstE f n = 0 → ∀ j, j < n → f j = 0
  | 0, _, j, hj => by omega
  | n + 1, h, j, hj => by
    simp only [firstE] at h
    split at h
    · rename_i h0
      by_cases e : j = n
      · subst e; exact h
      · exact firstE_zero h0 j (by omega)
    · rename_i h0; exact absurd h h0
theorem firstE_same {f g : Nat → Int} : ∀ {n : Nat}, (∀ j, j < n → f j = g j) → firstE f n = firstE g n
  | 0, _ => rfl
  | n + 1, h => by simp only [firstE, firstE_same (fun j hj => h j (by omega) : ∀ j, j < n → _), h n (by omega)]

def sumTo (f : Nat → Int) : Nat → Int
  | 0 => 0
  | n + 1 => sumTo f n + f n
theorem sumTo_bd {f : Nat → Int} {A B : Int} : ∀ {n : Nat}, (∀ j, j < n → A ≤ f j ∧ f j ≤ B) → n * A ≤ sumTo f n ∧ sumTo f n ≤ n * B
  | 0, _ => by simp [sumTo]
  | n + 1, h => by
    have h1 := sumTo_bd (fun j hj => h j (by omega) : ∀ j, j < n → _)
    have h2 := h n (by omega)
    simp only [sumTo, Int.natCast_succ, Int.add_mul]
    omega
theorem sumTo_same {f g : Nat → Int} : ∀ {n : Nat}, (∀ j, j < n → f j = g j) → sumTo f n = sumTo g n
  | 0, _ => rfl
  | n + 1, h => by simp only [sumTo, sumTo_same (fun j hj => h j (by omega) : ∀ j, j < n → _), h n (by omega)]

/-- n values by their places. -/
def mapr {α : Type} (n : Nat) (f : Nat → α) : List α := (List.range n).map f
@[simp] theorem mapr_length {α : Type} (n : Nat) (f : Nat → α) : (mapr n f).length = n := by simp [mapr]
theorem mapr_succ {α : Type} (n : Nat) (f : Nat → α) : mapr (n + 1) f = mapr n f ++ [f n] := by simp [mapr, List.range_succ]
theorem mapr_getD {α : Type} {n : Nat} {f : Nat → α} {i : Nat} (d : α) (h : i < n) : (mapr n f).getD i d = f i := by
  simp [mapr, List.getD_eq_getElem?_getD, h]
theorem mapr_same {α : Type} {n : Nat} {f g : Nat → α} (h : ∀ j, j < n → f j = g j) : mapr n f = mapr n g := by
  unfold mapr
  exact List.map_congr_left fun j hj => h j (List.mem_range.1 hj)
theorem mapr_set {α : Type} {n : Nat} {f g : Nat → α} {i : Nat} {v : α} (hv : i < n → g i = v) (h : ∀ j, j < n → j ≠ i → g j = f j) : (mapr n f).set i v = mapr n g := by
  refine List.ext_getElem (by simp) fun j h1 h2 => ?_
  rw [List.getElem_set]
  split
  · rename_i e; subst e; simp [mapr]; exact (hv (by simpa using h2)).symm
  · rename_i e; simp [mapr]; exact (h j (by simpa using h2) fun e' => e e'.symm).symm
theorem replicate_mapr {α : Type} (n : Nat) (a : α) : List.replicate n a = mapr n fun _ => a :=
  List.ext_getElem (by simp) fun j h1 h2 => by simp [mapr]

/-- The first of n places at which p holds. -/
def firstI (p : Nat → Bool) : Nat → Option Nat
  | 0 => none
  | n + 1 => match firstI p n with | some i => some i | none => if p n then some n else none
theorem firstI_succ {p : Nat → Bool} {n : Nat} (h : firstI p n = none) (h' : p n = false) : firstI p (n + 1) = none := by simp [firstI, h, h']
theorem firstI_stop {p : Nat → Bool} {k n : Nat} (h : firstI p k = none) (hc : p k = true) (hk : k < n) : firstI p n = some k := by
  have h1 : firstI p (k + 1) = some k := by simp [firstI, h, hc]
  have : ∀ d, firstI p (k + 1 + d) = some k := by
    intro d
    induction d with
    | zero => exact h1
    | succ d ih => rw [← Nat.add_assoc, firstI, ih]
  have := this (n - (k + 1))
  rwa [show k + 1 + (n - (k + 1)) = n by omega] at this
theorem firstI_none {p : Nat → Bool} : ∀ {n : Nat}, firstI p n = none → ∀ j, j < n → p j = false
  | n + 1, h, j, hj => by
    simp only [firstI] at h
    split at h
    · cases h
    · rename_i h0
      split at h
      · cases h
      · rename_i h1
        by_cases e : j = n
        · subst e; simpa using h1
        · exact firstI_none h0 j (by omega)
theorem firstI_spec {p : Nat → Bool} : ∀ {n i : Nat}, firstI p n = some i → i < n ∧ p i = true ∧ ∀ j, j < i → p j = false
  | n + 1, i, h => by
    simp only [firstI] at h
    split at h
    · rename_i k hk
      simp only [Option.some.injEq] at h
      subst h
      have := firstI_spec hk
      exact ⟨by omega, this.2⟩
    · rename_i hk
      split at h
      · rename_i hp
        simp only [Option.some.injEq] at h
        subst h
        exact ⟨by omega, hp, firstI_none hk⟩
      · cases h
theorem firstI_same {p q : Nat → Bool} : ∀ {n : Nat}, (∀ j, j < n → p j = q j) → firstI p n = firstI q n
  | 0, _ => rfl
  | n + 1, h => by simp only [firstI, firstI_same (fun j hj => h j (by omega) : ∀ j, j < n → _), h n (by omega)]

theorem two_pow_nat (k : Nat) : (1 : Int) ≤ 2 ^ k := by
  have : (0 : Int) < 2 ^ k := Int.pow_pos (by omega)
  omega
theorem two_pow_bd {k m : Nat} (h : k ≤ m) : (2 : Int) ^ k ≤ 2 ^ m := by
  have h1 : (2 : Nat) ^ k ≤ 2 ^ m := Nat.pow_le_pow_right (by omega) h
  have h2 : ((2 ^ k : Nat) : Int) = 2 ^ k := by simp
  have h3 : ((2 ^ m : Nat) : Int) = 2 ^ m := by simp
  omega

def placeF (l : List Int) (x : Int) : Int := match firstI (fun i => decide (l.getD i 0 = x)) l.length with | some i => (i : Int) | none => -1
theorem firstI_of {p : Nat → Bool} : ∀ {n : Nat}, (∀ j, j < n → p j = false) → firstI p n = none
  | 0, _ => rfl
  | n + 1, h => firstI_succ (firstI_of fun j hj => h j (by omega)) (h n (by omega))
theorem take_getD {l : List Int} {i j : Nat} (h : j < i) : (l.take i).getD j 0 = l.getD j 0 := by
  simp [List.getD_eq_getElem?_getD, List.getElem?_take, h]
theorem place_take {l : List Int} {i : Nat} (hi : i < l.length) : 0 ≤ placeF (l.take i) (l.getD i 0) ↔ placeF l (l.getD i 0) < (i : Nat) := by
  have hl : (l.take i).length = i := by rw [List.length_take]; omega
  have hs : firstI (fun j => decide ((l.take i).getD j 0 = l.getD i 0)) i = firstI (fun j => decide (l.getD j 0 = l.getD i 0)) i := firstI_same fun j hj => by simp only [take_getD hj]
  unfold placeF
  rw [hl, hs]
  cases e : firstI (fun j => decide (l.getD j 0 = l.getD i 0)) i with
  | some j =>
    have := firstI_spec e
    rw [firstI_stop (p := fun j => decide (l.getD j 0 = l.getD i 0)) (firstI_of this.2.2) this.2.1 (show j < l.length by omega)]
    simp
    omega
  | none =>
    rw [firstI_stop e (by simp) hi]
    simp
def someB (n : Int) (l : List Int) (i : Nat) : Int := if l.getD i 0 < 0 ∨ n ≤ l.getD i 0 then 8 else if placeF l (l.getD i 0) < (i : Nat) then 6 else 0
theorem someB_8 {n : Int} {l : List Int} {i : Nat} (h : l.getD i 0 < 0 ∨ n ≤ l.getD i 0) : someB n l i = 8 := if_pos h
theorem someB_6 {n : Int} {l : List Int} {i : Nat} (h : ¬ (l.getD i 0 < 0 ∨ n ≤ l.getD i 0)) (h' : placeF l (l.getD i 0) < (i : Nat)) : someB n l i = 6 := by unfold someB; rw [if_neg h, if_pos h']
theorem someB_0 {n : Int} {l : List Int} {i : Nat} (h : ¬ (l.getD i 0 < 0 ∨ n ≤ l.getD i 0)) (h' : ¬ placeF l (l.getD i 0) < (i : Nat)) : someB n l i = 0 := by unfold someB; rw [if_neg h, if_neg h']
def someE (n : Int) (l : List Int) : Int := firstE (someB n l) l.length
def ordE (n : Int) (l : List Int) : Int := if (l.length : Int) ≠ n then 7 else someE n l
theorem ordE_len {n : Int} {l : List Int} (h : ¬ (l.length : Int) = n) : 7 = ordE n l := (if_pos h).symm
theorem ordE_some {n : Int} {l : List Int} (h : (l.length : Int) = n) : someE n l = ordE n l := by unfold ordE; rw [if_neg (fun c => c h)]
theorem someE_at {n : Int} {l : List Int} {i : Nat} {c : Int} (hE : firstE (someB n l) i = 0) (hi : (i : Int) < l.length) (hc : someB n l i = c) (h0 : c ≠ 0) : c = someE n l := (firstE_stop hE hc h0 (by omega)).symm
theorem someE_ok {n : Int} {l : List Int} {i : Nat} (hk : i ≤ l.length) (hE : firstE (someB n l) i = 0) (hi : ¬ (i : Int) < l.length) : 0 = someE n l := by
  obtain rfl : i = l.length := by omega
  exact hE.symm

abbrev Ag := ByteArray × Int × List Int × Unit
def nmF (l : List Ag) (i : Nat) : ByteArray := (l.getD i (ByteArray.empty, 0, [], ())).1
def rmF (l : List Ag) (i : Nat) : Int := (l.getD i (ByteArray.empty, 0, [], ())).2.1
def lkF (l : List Ag) (i : Nat) : List Int := (l.getD i (ByteArray.empty, 0, [], ())).2.2.1
theorem foldN (l : List Ag) (i : Nat) : (l.getD i (ByteArray.empty, 0, [], ())).1 = nmF l i := rfl
theorem foldR (l : List Ag) (i : Nat) : (l.getD i (ByteArray.empty, 0, [], ())).2.1 = rmF l i := rfl
theorem foldL (l : List Ag) (i : Nat) : (l.getD i (ByteArray.empty, 0, [], ())).2.2.1 = lkF l i := rfl
/-! ### Names -/
def letB (c : Int) : Bool := decide (97 ≤ c) && decide (c ≤ 122)
def figB (c : Int) : Bool := decide (48 ≤ c) && decide (c ≤ 57)
def badB (s : ByteArray) (i : Nat) : Bool := !letB (byteAt s i) && (decide ((i : Int) = 0) || !figB (byteAt s i) && !decide (byteAt s i = 95))
def sLeft : ByteArray := ⟨#[108, 101, 102, 116]⟩
def sRight : ByteArray := ⟨#[114, 105, 103, 104, 116]⟩
def sLetters : ByteArray := ⟨#[97, 98, 99, 100, 101, 102, 103, 104, 105, 106, 107, 108, 109, 110, 111, 112, 113, 114, 115, 116, 117, 118, 119, 120, 121, 122]⟩
def sAll : ByteArray := ⟨#[97, 98, 99, 100, 101, 102, 103, 104, 105, 106, 107, 108, 109, 110, 111, 112, 113, 114, 115, 116, 117, 118, 119, 120, 121, 122, 48, 49, 50, 51, 52, 53, 54, 55, 56, 57, 95]⟩
def noB (s : ByteArray) : Bool := ((decide (s = ⟨#[]⟩) || decide (12 < (s.size : Int))) || decide (s = sLeft)) || decide (s = sRight)
def namedF (s : ByteArray) : Bool := !noB s && (firstI (badB s) s.size).isNone
theorem size_pos {s : ByteArray} (h : ¬ s = ⟨#[]⟩) : 0 < s.size := by
  rcases Nat.eq_zero_or_pos s.size with e | e
  · exfalso
    refine h ?_
    cases s with
    | mk d => simp only [ByteArray.size, Array.size_eq_zero_iff] at e; subst e; rfl
  · exact e
theorem u8_all {p : UInt8 → Bool} (h : (List.range 256).all (fun n => p (UInt8.ofNat n)) = true) (b : UInt8) : p b = true := by
  have := List.all_eq_true.1 h b.toNat (List.mem_range.2 b.toNat_lt)
  simpa using this
theorem letters_is (b : UInt8) : decide (0 ≤ Lib.indexByte sLetters.data.toList b) = letB (b.toNat : Nat) := by
  have := u8_all (p := fun b => decide (0 ≤ Lib.indexByte sLetters.data.toList b) == letB (b.toNat : Nat)) (by decide +kernel) b
  simpa using this
theorem all_is (b : UInt8) : sAll.data.toList.contains b = (letB (b.toNat : Nat) || (figB (b.toNat : Nat) || decide (((b.toNat : Nat) : Int) = 95))) := by
  have := u8_all (p := fun b => sAll.data.toList.contains b == (letB (b.toNat : Nat) || (figB (b.toNat : Nat) || decide (((b.toNat : Nat) : Int) = 95)))) (by decide +kernel) b
  simpa using this
theorem dropW_nil {p : UInt8 → Bool} : ∀ l : List UInt8, l.dropWhile p = [] ↔ ∀ b, b ∈ l → p b = true
  | [] => by simp
  | a :: l => by
    simp only [List.dropWhile]
    cases e : p a with
    | true => simp only [dropW_nil l, List.mem_cons]; exact ⟨fun h b hb => hb.elim (fun c => c ▸ e) (h b), fun h b hb => h b (.inr hb)⟩
    | false => simp only [List.cons_ne_nil, false_iff]; exact fun h => by have := h a (List.mem_cons_self ..); rw [e] at this; cases this
theorem dropW_head {p : UInt8 → Bool} {a : UInt8} {r : List UInt8} : ∀ l : List UInt8, l.dropWhile p = a :: r → p a = false
  | [], h => by simp at h
  | b :: l, h => by
    simp only [List.dropWhile] at h
    cases e : p b with
    | true => rw [e] at h; exact dropW_head l h
    | false => rw [e] at h; simp only [List.cons.injEq] at h; exact h.1 ▸ e
theorem trimS_nil (l cs : List UInt8) : Lib.trimS l cs = [] ↔ ∀ b, b ∈ l → cs.contains b = true := by
  unfold Lib.trimS Lib.trimLeftS Lib.trimRightS
  rw [dropW_nil]
  constructor
  · intro h
    have h2 : l.reverse.dropWhile (cs.contains ·) = [] := by
      cases e : l.reverse.dropWhile (cs.contains ·) with
      | nil => rfl
      | cons a r =>
        have h3 := dropW_head _ e
        have h4 := h a (by rw [e]; simp)
        rw [h3] at h4; cases h4
    intro b hb
    exact (dropW_nil _).1 h2 b (by simpa using hb)
  · intro h b hb
    exact h b (by
      have h1 : b ∈ l.reverse.dropWhile (cs.contains ·) := by simpa using hb
      have := (List.dropWhile_sublist (cs.contains ·) (l := l.reverse)).subset h1
      simpa using this)
theorem trim_empty (l cs : List UInt8) : ((⟨(Lib.trimS l cs).toArray⟩ : ByteArray) = ⟨#[]⟩) ↔ Lib.trimS l cs = [] := by
  constructor
  · intro h
    have := congrArg (fun s : ByteArray => s.data.toList) h
    simpa using this
  · intro h; rw [h]
theorem byteAt_mem {s : ByteArray} {i : Nat} (h : i < s.size) : ∃ b, b ∈ s.data.toList ∧ byteAt s i = (b.toNat : Nat) :=
  ⟨s.data.toList.getD i 0, getD_mem 0 (by simpa using h), rfl⟩
theorem mem_byteAt {s : ByteArray} {b : UInt8} (h : b ∈ s.data.toList) : ∃ i, i < s.size ∧ byteAt s i = (b.toNat : Nat) := by
  obtain ⟨i, hi, e⟩ := List.getElem_of_mem h
  refine ⟨i, by simpa using hi, ?_⟩
  unfold byteAt
  rw [List.getD_eq_getElem?_getD, List.getElem?_eq_getElem hi, e]
  rfl
theorem byteAt_u8 (s : ByteArray) (i : Nat) : ((byteAt s i).toNat.toUInt8).toNat = (byteAt s i).toNat := by
  unfold byteAt
  simp
theorem named_of {s : ByteArray} (h : ¬ s = ⟨#[]⟩) : (firstI (badB s) s.size).isNone = (decide (0 ≤ Lib.indexByte sLetters.data.toList ((byteAt s 0).toNat.toUInt8)) && decide ((⟨(Lib.trimS s.data.toList sAll.data.toList).toArray⟩ : ByteArray) = ⟨#[]⟩)) := by
  have hp := size_pos h
  have h0 : ((byteAt s 0).toNat : Int) = byteAt s 0 := by unfold byteAt; simp
  rw [letters_is, byteAt_u8, h0, Bool.eq_iff_iff]
  simp only [Bool.and_eq_true, decide_eq_true_eq, Option.isNone_iff_eq_none, trim_empty, trimS_nil]
  constructor
  · intro hE
    have hn := firstI_none hE
    refine ⟨?_, fun b hb => ?_⟩
    · have := hn 0 hp
      unfold badB at this
      simpa using this
    · obtain ⟨i, hi, e⟩ := mem_byteAt hb
      have := hn i hi
      unfold badB at this
      rw [all_is, ← e]
      cases h1 : letB (byteAt s i) <;> cases h2 : figB (byteAt s i) <;> simp_all
  · rintro ⟨h1, h2⟩
    refine firstI_of fun i hi => ?_
    obtain ⟨b, hb, e⟩ := byteAt_mem hi
    have h3 := h2 b hb
    rw [all_is, ← e] at h3
    unfold badB
    by_cases e0 : i = 0
    · subst e0; rw [h1]; rfl
    · cases h4 : letB (byteAt s i) <;> cases h5 : figB (byteAt s i) <;> simp_all
theorem name_is (s : ByteArray) : ((((((!decide (s = ⟨#[]⟩)) && decide ((s.size : Int) ≤ 12)) && decide (0 ≤ Lib.indexByte sLetters.data.toList (byteAt s 0).toNat.toUInt8)) && decide ((⟨(Lib.trimS s.data.toList sAll.data.toList).toArray⟩ : ByteArray) = ⟨#[]⟩)) && !decide (s = sLeft)) && !decide (s = sRight)) = namedF s := by
  unfold namedF
  by_cases h : s = ⟨#[]⟩
  · have h2 : noB s = true := by unfold noB; simp [h]
    rw [h2]; simp [h]
  · rw [named_of h]
    unfold noB
    have e : decide ((s.size : Int) ≤ 12) = !decide (12 < (s.size : Int)) := by rw [Bool.eq_iff_iff]; simp
    rw [e]
    generalize decide (12 < (s.size : Int)) = b1
    generalize decide (0 ≤ Lib.indexByte sLetters.data.toList (byteAt s 0).toNat.toUInt8) = b2
    generalize decide ((⟨(Lib.trimS s.data.toList sAll.data.toList).toArray⟩ : ByteArray) = ⟨#[]⟩) = b3
    generalize decide (s = sLeft) = b4
    generalize decide (s = sRight) = b5
    rw [decide_eq_false h]
    revert b1 b2 b3 b4 b5
    decide
def txtF (l : List ByteArray) (s : ByteArray) : Int := match firstI (fun i => decide (l.getD i ByteArray.empty = s)) l.length with | some i => (i : Int) | none => -1
def agE (nm : ByteArray) (rm : Int) (lk : List Int) (n : Int) (N : List ByteArray) : Int := if namedF nm = false then 1 else if 0 ≤ txtF N nm then 6 else if rm < 1 ∨ 4 < rm then 9 else someE n lk
section
variable {nm : ByteArray} {rm n : Int} {lk : List Int} {N : List ByteArray}
theorem agE_1 (h : namedF nm = false) : 1 = agE nm rm lk n N := (if_pos h).symm
theorem agE_6 (h : ¬ namedF nm = false) (h' : 0 ≤ txtF N nm) : 6 = agE nm rm lk n N := by unfold agE; rw [if_neg h, if_pos h']
theorem agE_9 (h : ¬ namedF nm = false) (h' : ¬ 0 ≤ txtF N nm) (h2 : rm < 1 ∨ 4 < rm) : 9 = agE nm rm lk n N := by unfold agE; rw [if_neg h, if_neg h', if_pos h2]
theorem agE_f (h : ¬ namedF nm = false ∧ ¬ 0 ≤ txtF N nm ∧ ¬ (rm < 1 ∨ 4 < rm)) : someE n lk = agE nm rm lk n N := by unfold agE; rw [if_neg h.1, if_neg h.2.1, if_neg h.2.2]
end
attribute [local irreducible] byteAt

set_option maxRecDepth 1000000 in
set_option maxHeartbeats 1000000 in
theorem letter_fc (c : Int) : FC Tryd.prog 42 [.int .u8 c] (.bool (letB c)) := by
  refine FC.intro Tryd.func42 rfl (Nat.le_of_ble_eq_true rfl) fun hfit => ?_
  have fit0 := hfit _ (.head _)
  refine awp_seq ?_
  refine awp_region rfl (.n (fun _ => op_assign (.plain rfl)) (.nil _)) ?_
  refine awp_seq ?_
  refine awp_region rfl (.n (fun _ => op_move (.plain rfl)) (.n (fun _ => op_geq (.plain rfl) (.plain rfl)) (.n (fun _ => op_move (.plain rfl)) (.gn rfl rfl (fun hg _ => op_move (.plain rfl)) (.gn rfl rfl (fun hg _ => op_leq (.opt rfl fun h => h) (.plain rfl)) (.n (fun _ => op_and (.plain rfl) (.plain rfl) (.plain rfl) (fun h => eqT h)) (.n (fun _ => op_assign (.plain rfl)) (.nil _)))))))) ?_
  refine awp_ret ?_
  refine retQ.ret ?_
  refine ret1 rfl rfl rfl ?_
  rfl

set_option maxRecDepth 1000000 in
set_option maxHeartbeats 1000000 in
theorem figure_fc (c : Int) : FC Tryd.prog 43 [.int .u8 c] (.bool (figB c)) := by
  refine FC.intro Tryd.func43 rfl (Nat.le_of_ble_eq_true rfl) fun hfit => ?_
  have fit0 := hfit _ (.head _)
  refine awp_seq ?_
  refine awp_region rfl (.n (fun _ => op_assign (.plain rfl)) (.nil _)) ?_
  refine awp_seq ?_
  refine awp_region rfl (.n (fun _ => op_move (.plain rfl)) (.n (fun _ => op_geq (.plain rfl) (.plain rfl)) (.n (fun _ => op_move (.plain rfl)) (.gn rfl rfl (fun hg _ => op_move (.plain rfl)) (.gn rfl rfl (fun hg _ => op_leq (.opt rfl fun h => h) (.plain rfl)) (.n (fun _ => op_and (.plain rfl) (.plain rfl) (.plain rfl) (fun h => eqT h)) (.n (fun _ => op_assign (.plain rfl)) (.nil _)))))))) ?_
  refine awp_ret ?_
  refine retQ.ret ?_
  refine ret1 rfl rfl rfl ?_
  rfl

set_option maxRecDepth 1000000 in
set_option maxHeartbeats 1000000 in
theorem Named_fc (s : ByteArray) : FC Tryd.prog 21 [.str s] (.bool (namedF s)) := by
  refine FC.intro Tryd.func21 rfl (Nat.le_of_ble_eq_true rfl) fun hfit => ?_
  have fit0 := hfit _ (.head _)
  have hlen := fit0.str_len
  refine awp_seq ?_
  refine awp_region rfl (.n (fun _ => op_assign (.plain rfl)) (.nil _)) ?_
  refine awp_seq ?_
  refine awp_seq ?_
  refine awp_region rfl (.n (fun _ => op_move (.plain rfl)) (.n (fun _ => op_str_eql Tryd.underlying9 (.plain rfl) (.plain rfl)) (.n (fun _ => op_move (.plain rfl)) (.gn rfl rfl (fun hg _ => op_move (.plain rfl)) (.gn rfl rfl (fun hg _ => op_lenS Tryd.underlying9 (.opt rfl fun h => h)) (.gn rfl rfl (fun hg _ => op_gtr (.opt rfl fun h => h) (.plain rfl)) (.n (fun _ => op_or (.plain rfl) (.plain rfl) (.plain rfl) (fun h => eqF h)) (.n (fun _ => op_move (.plain rfl)) (.gn rfl rfl (fun hg _ => op_move (.plain rfl)) (.gn rfl rfl (fun hg _ => op_str_eql Tryd.underlying9 (.opt rfl fun h => h) (.plain rfl)) (.n (fun _ => op_or (.plain rfl) (.plain rfl) (.plain rfl) (fun h => eqF h)) (.n (fun _ => op_move (.plain rfl)) (.gn rfl rfl (fun hg _ => op_move (.plain rfl)) (.gn rfl rfl (fun hg _ => op_str_eql Tryd.underlying9 (.opt rfl fun h => h) (.plain rfl)) (.n (fun _ => op_or (.plain rfl) (.plain rfl) (.plain rfl) (fun h => eqF h)) (.nil _)))))))))))))))) ?_
  refine awp_cond rfl (fun h => ?_) (fun h => ?_)
  · try simp only [decide_eq_true_eq, decide_eq_false_iff_not] at h
    refine awp_seq ?_
    refine awp_region rfl (.n (fun _ => op_assign (.plain rfl)) (.nil _)) ?_
    refine awp_ret ?_
    refine retQ.ret ?_
    refine ret1 rfl rfl rfl ?_
    unfold namedF
    rw [show noB s = true from h]
    rfl
  · try simp only [decide_eq_true_eq, decide_eq_false_iff_not] at h
    refine awp_skip ?_
    refine awp_seq ?_
    refine awp_seq ?_
    refine awp_region rfl (.n (fun _ => op_assign (.plain rfl)) (.nil _)) ?_
    refine awp_block ?_
    refine awp_loop (σ := Nat) (fun (i : Nat) => i ≤ s.size ∧ noB s = false ∧ firstI (badB s) i = none) (fun (i : Nat) => ⟨[(0, .pv (.str s)), (3, .int (i : Nat))], []⟩) (fun (i : Nat) => s.size - i) 0 ?_ (Ent.kept ⟨rfl, rfl, trivial⟩ trivial) ?_
    · exact ⟨Nat.zero_le _, h, rfl⟩
    rintro i hp
    try dsimp only at hp
    obtain ⟨hk, hno, hE⟩ := hp
    refine awp_seq ?_
    refine awp_seq ?_
    refine awp_region rfl (.n (fun _ => op_move (.plain rfl)) (.n (fun _ => op_move (.plain rfl)) (.n (fun _ => op_lenS Tryd.underlying9 (.plain rfl)) (.n (fun _ => op_lss (.plain rfl) (.plain rfl)) (.nil _))))) ?_
    refine awp_cond rfl (fun h => ?_) (fun h => ?_)
    · try simp only [decide_eq_true_eq, decide_eq_false_iff_not] at h
      refine awp_skip ?_
      refine awp_seq ?_
      refine awp_block ?_
      refine awp_seq ?_
      refine awp_region rfl (.n (fun _ => op_move (.plain rfl)) (.n (fun _ => op_move (.plain rfl)) (.n (fun _ => op_indexS Tryd.underlying9 (.plain rfl) (.plain rfl) ?_) (.n (fun _ => op_call1 Tryd.call42 (.plain rfl) (letter_fc _)) (.n (fun _ => op_assign (.plain rfl)) (.nil _)))))) ?_
      · omega
      refine awp_seq ?_
      refine awp_region rfl (.n (fun _ => op_move (.plain rfl)) (.n (fun _ => op_move (.plain rfl)) (.n (fun _ => op_indexS Tryd.underlying9 (.plain rfl) (.plain rfl) ?_) (.n (fun _ => op_call1 Tryd.call43 (.plain rfl) (figure_fc _)) (.n (fun _ => op_assign (.plain rfl)) (.nil _)))))) ?_
      · omega
      refine awp_seq ?_
      refine awp_region rfl (.n (fun _ => op_move (.plain rfl)) (.n (fun _ => op_not (.plain rfl)) (.n (fun _ => op_move (.plain rfl)) (.gn rfl rfl (fun hg _ => op_move (.plain rfl)) (.gn rfl rfl (fun hg _ => op_eql (.opt rfl fun h => h) (.plain rfl)) (.gn rfl rfl (fun hg _ => op_move (.opt rfl fun h => h)) (.ggn rfl rfl (fun hg _ => op_move (.plain rfl)) (.ggn rfl rfl (fun hg _ => op_not (.opt rfl fun h => h)) (.ggn rfl rfl (fun hg _ => op_move (.opt rfl fun h => h)) (.ggn rfl rfl (fun hg _ => op_move (.plain rfl)) (.ggn rfl rfl (fun hg _ => op_move (.plain rfl)) (.ggn rfl rfl (fun hg _ => op_indexS Tryd.underlying9 (.opt rfl fun h => h) (.opt rfl fun h => h) ?_) (.ggn rfl rfl (fun hg _ => op_neq (.opt rfl fun h => h) (.plain rfl)) (.ggn rfl rfl (fun hg _ => op_and (.opt rfl fun h => h) (.plain rfl) (.plain rfl) (fun h => andI hg (eqT h))) (.gn rfl rfl (fun hg _ => op_or (.opt rfl fun h => h) (.plain rfl) (.plain rfl) (fun h => andI hg (eqF h))) (.n (fun _ => op_and (.plain rfl) (.plain rfl) (.plain rfl) (fun h => eqT h)) (.nil _))))))))))))))))) ?_
      · try simp only [beq_iff_eq, beq_true, beq_false, Bool.and_eq_true, decide_eq_true_eq, decide_eq_false_iff_not, Bool.not_eq_true', Bool.or_eq_true, Bool.or_eq_false_iff] at hg
        omega
      refine awp_cond rfl (fun h => ?_) (fun h => ?_)
      · try simp only [decide_eq_true_eq, decide_eq_false_iff_not] at h
        refine awp_seq ?_
        refine awp_region rfl (.n (fun _ => op_assign (.plain rfl)) (.nil _)) ?_
        refine awp_ret ?_
        refine retQ.ret ?_
        refine ret1 rfl rfl rfl ?_
        unfold namedF
        rw [hno, firstI_stop hE (show badB s i = true from h) (by omega)]
        rfl
      · try simp only [decide_eq_true_eq, decide_eq_false_iff_not] at h
        refine awp_skip ?_
        refine awp_region rfl (.n (fun _ => op_move (.plain rfl)) (.n (fun _ => op_add (.plain rfl) (.plain rfl) ?_) (.n (fun _ => op_assign (.plain rfl)) (.nil _)))) ?_
        · unfold InR; omega
        exact ⟨i + 1, ⟨by omega, hno, firstI_succ hE h⟩, by dsimp only; omega, (Ent.kept ⟨rfl, rfl, trivial⟩ trivial)⟩
    · try simp only [decide_eq_true_eq, decide_eq_false_iff_not] at h
      refine awp_exit ?_
      refine awp_seq ?_
      refine awp_region rfl (.n (fun _ => op_assign (.plain rfl)) (.nil _)) ?_
      refine awp_ret ?_
      refine retQ.ret ?_
      refine ret1 rfl rfl rfl ?_
      obtain rfl : i = s.size := by omega
      unfold namedF
      rw [hno, hE]
      rfl

set_option maxRecDepth 1000000 in
set_option maxHeartbeats 1000000 in
theorem name_fc (s : ByteArray) : FC Tryd.prog 39 [.str s] (.bool (namedF s)) := by
  refine FC.intro Tryd.func39 rfl (Nat.le_of_ble_eq_true rfl) fun hfit => ?_
  have fit0 := hfit _ (.head _)
  have hlen := fit0.str_len
  refine awp_seq ?_
  refine awp_region rfl (.n (fun _ => op_assign (.plain rfl)) (.nil _)) ?_
  refine awp_seq ?_
  refine awp_region rfl (.n (fun _ => op_move (.plain rfl)) (.n (fun _ => op_str_neq Tryd.underlying9 (.plain rfl) (.plain rfl)) (.n (fun _ => op_move (.plain rfl)) (.gn rfl rfl (fun hg _ => op_move (.plain rfl)) (.gn rfl rfl (fun hg _ => op_lenS Tryd.underlying9 (.opt rfl fun h => h)) (.gn rfl rfl (fun hg _ => op_leq (.opt rfl fun h => h) (.plain rfl)) (.n (fun _ => op_and (.plain rfl) (.plain rfl) (.plain rfl) (fun h => eqT h)) (.n (fun _ => op_move (.plain rfl)) (.gn rfl rfl (fun hg _ => op_move (.plain rfl)) (.gn rfl rfl (fun hg _ => op_indexS Tryd.underlying9 (.opt rfl fun h => h) (.plain rfl) ?_) (.gn rfl rfl (fun hg _ => op_call2 Tryd.call53 (.plain rfl) (.opt rfl fun h => h) (IndexByte_fc sLetters _)) (.gn rfl rfl (fun hg _ => op_geq (.opt rfl fun h => h) (.plain rfl)) (.n (fun _ => op_and (.plain rfl) (.plain rfl) (.plain rfl) (fun h => eqT h)) (.n (fun _ => op_move (.plain rfl)) (.gn rfl rfl (fun hg _ => op_move (.plain rfl)) (.gn rfl rfl (fun hg _ => op_call2 Tryd.call54 (.opt rfl fun h => h) (.plain rfl) (Trim_fc _ sAll ?_)) (.gn rfl rfl (fun hg _ => op_str_eql Tryd.underlying9 (.opt rfl fun h => h) (.plain rfl)) (.n (fun _ => op_and (.plain rfl) (.plain rfl) (.plain rfl) (fun h => eqT h)) (.n (fun _ => op_move (.plain rfl)) (.gn rfl rfl (fun hg _ => op_move (.plain rfl)) (.gn rfl rfl (fun hg _ => op_str_neq Tryd.underlying9 (.opt rfl fun h => h) (.plain rfl)) (.n (fun _ => op_and (.plain rfl) (.plain rfl) (.plain rfl) (fun h => eqT h)) (.n (fun _ => op_move (.plain rfl)) (.gn rfl rfl (fun hg _ => op_move (.plain rfl)) (.gn rfl rfl (fun hg _ => op_str_neq Tryd.underlying9 (.opt rfl fun h => h) (.plain rfl)) (.n (fun _ => op_and (.plain rfl) (.plain rfl) (.plain rfl) (fun h => eqT h)) (.n (fun _ => op_assign (.plain rfl)) (.nil _)))))))))))))))))))))))))))) ?_
  · try simp only [beq_iff_eq, beq_true, beq_false, Bool.and_eq_true, decide_eq_true_eq, decide_eq_false_iff_not, Bool.not_eq_true', Bool.or_eq_true, Bool.or_eq_false_iff] at hg
    have := size_pos (s := s) (by simpa using hg.1)
    omega
  · try simp only [beq_iff_eq, beq_true, beq_false, Bool.and_eq_true, decide_eq_true_eq, decide_eq_false_iff_not, Bool.not_eq_true', Bool.or_eq_true, Bool.or_eq_false_iff] at hg
    exact ⟨by decide, by decide⟩
  refine awp_ret ?_
  refine retQ.ret ?_
  refine ret1 rfl rfl rfl ?_
  exact congrArg PV.bool (name_is s)

set_option maxRecDepth 1000000 in
set_option maxHeartbeats 1000000 in
theorem hasText_fc (l : List ByteArray) (s : ByteArray) : FC Tryd.prog 22 [.seq ByteArray ByteArray.empty (fun s => [.str s]) l, .str s] (.i (txtF l s)) := by
  refine FC.intro Tryd.func22 rfl (Nat.le_of_ble_eq_true rfl) fun hfit => ?_
  have fit0 := hfit _ (.head _)
  have fit1 := hfit _ (.tail _ (.head _))
  have hlen := fit0.len
  refine awp_seq ?_
  refine awp_region rfl (.n (fun _ => op_assign (.plain rfl)) (.nil _)) ?_
  refine awp_seq ?_
  refine awp_seq ?_
  refine awp_region rfl (.n (fun _ => op_assign (.plain rfl)) (.nil _)) ?_
  refine awp_block ?_
  refine awp_loop (σ := Nat) (fun (k : Nat) => k ≤ l.length ∧ firstI (fun i => decide (l.getD i ByteArray.empty = s)) k = none) (fun (k : Nat) => ⟨[(0, .pv (.seq ByteArray ByteArray.empty (fun s => [.str s]) l)), (1, .pv (.str s)), (5, .int (k : Nat))], []⟩) (fun (k : Nat) => l.length - k) 0 ?_ (Ent.kept ⟨rfl, rfl, rfl, trivial⟩ trivial) ?_
  · exact ⟨Nat.zero_le _, rfl⟩
  rintro k hp
  try dsimp only at hp
  obtain ⟨hk, hE⟩ := hp
  refine awp_seq ?_
  refine awp_seq ?_
  refine awp_region rfl (.n (fun _ => op_move (.plain rfl)) (.n (fun _ => op_move (.plain rfl)) (.n (fun _ => op_len (s := 0) Tryd.underlying49 (.plain rfl)) (.n (fun _ => op_lss (.plain rfl) (.plain rfl)) (.nil _))))) ?_
  refine awp_cond rfl (fun h => ?_) (fun h => ?_)
  · try simp only [decide_eq_true_eq, decide_eq_false_iff_not, Bool.and_eq_true, Bool.or_eq_true, Bool.and_eq_false_iff, Bool.or_eq_false_iff, Bool.not_eq_true', Bool.not_eq_false', Bool.not_eq_true, Bool.not_eq_false, Bool.true_eq_false, Bool.false_eq_true] at h
    refine awp_skip ?_
    refine awp_seq ?_
    refine awp_block ?_
    refine awp_seq ?_
    refine awp_region rfl (.n (fun _ => op_move (.plain rfl)) (.n (fun _ => op_move (.plain rfl)) (.n (fun _ => op_indexAddrN Tryd.underlying49 Tryd.sizeOf9 (.plain rfl) (.plain rfl) (fun _ => rfl) ?_) (.n (fun _ => op_load Tryd.isAgg9 (.plain rfl)) (.n (fun _ => op_move (.plain rfl)) (.n (fun _ => op_str_eql Tryd.underlying9 (.plain rfl) (.plain rfl)) (.nil _))))))) ?_
    · omega
    refine awp_cond rfl (fun h => ?_) (fun h => ?_)
    · try simp only [decide_eq_true_eq, decide_eq_false_iff_not, Bool.and_eq_true, Bool.or_eq_true, Bool.and_eq_false_iff, Bool.or_eq_false_iff, Bool.not_eq_true', Bool.not_eq_false', Bool.not_eq_true, Bool.not_eq_false, Bool.true_eq_false, Bool.false_eq_true] at h
      refine awp_seq ?_
      refine awp_region rfl (.n (fun _ => op_move (.plain rfl)) (.n (fun _ => op_assign (.plain rfl)) (.nil _))) ?_
      refine awp_ret ?_
      refine retQ.ret ?_
      refine ret1 rfl rfl rfl ?_
      unfold txtF
      rw [firstI_stop hE (decide_eq_true h) (show k < l.length by omega)]
    · try simp only [decide_eq_true_eq, decide_eq_false_iff_not, Bool.and_eq_true, Bool.or_eq_true, Bool.and_eq_false_iff, Bool.or_eq_false_iff, Bool.not_eq_true', Bool.not_eq_false', Bool.not_eq_true, Bool.not_eq_false, Bool.true_eq_false, Bool.false_eq_true] at h
      refine awp_skip ?_
      refine awp_region rfl (.n (fun _ => op_move (.plain rfl)) (.n (fun _ => op_add (.plain rfl) (.plain rfl) ?_) (.n (fun _ => op_assign (.plain rfl)) (.nil _)))) ?_
      · unfold InR; omega
      exact ⟨k + 1, ⟨by omega, firstI_succ hE (decide_eq_false h)⟩, by dsimp only; omega, (Ent.kept ⟨rfl, rfl, rfl, trivial⟩ trivial)⟩
  · try simp only [decide_eq_true_eq, decide_eq_false_iff_not, Bool.and_eq_true, Bool.or_eq_true, Bool.and_eq_false_iff, Bool.or_eq_false_iff, Bool.not_eq_true', Bool.not_eq_false', Bool.not_eq_true, Bool.not_eq_false, Bool.true_eq_false, Bool.false_eq_true] at h
    refine awp_exit ?_
    refine awp_seq ?_
    refine awp_region rfl (.n (fun _ => op_assign (.plain rfl)) (.nil _)) ?_
    refine awp_ret ?_
    refine retQ.ret ?_
    refine ret1 rfl rfl rfl ?_
    obtain rfl : k = l.length := by omega
    unfold txtF
    rw [hE]

set_option maxRecDepth 1000000 in
set_option maxHeartbeats 1000000 in
theorem IndexS_fc (l : List ByteArray) (s : ByteArray) : FC Tryd.prog 55 [.seq ByteArray ByteArray.empty (fun s => [.str s]) l, .str s] (.i (txtF l s)) := by
  refine FC.intro Tryd.func55 rfl (Nat.le_of_ble_eq_true rfl) fun hfit => ?_
  have fit0 := hfit _ (.head _)
  have fit1 := hfit _ (.tail _ (.head _))
  have hlen := fit0.len
  refine awp_seq ?_
  refine awp_region rfl (.n (fun _ => op_assign (.plain rfl)) (.nil _)) ?_
  refine awp_seq ?_
  refine awp_seq ?_
  refine awp_region rfl (.n (fun _ => op_move (.plain rfl)) (.n (fun _ => op_len (s := 0) Tryd.underlying49 (.plain rfl)) (.n (fun _ => op_move (.plain rfl)) (.nil _)))) ?_
  refine awp_block ?_
  refine awp_loop (σ := Nat) (fun (k : Nat) => k ≤ l.length ∧ firstI (fun i => decide (l.getD i ByteArray.empty = s)) k = none) (fun (k : Nat) => ⟨[(0, .pv (.seq ByteArray ByteArray.empty (fun s => [.str s]) l)), (1, .pv (.str s)), (6, .pv (.seq ByteArray ByteArray.empty (fun s => [.str s]) l)), (7, .int (l.length : Nat)), (8, .int (k : Nat))], []⟩) (fun (k : Nat) => l.length - k) 0 ?_ (Ent.kept ⟨rfl, rfl, rfl, rfl, rfl, trivial⟩ trivial) ?_
  · exact ⟨Nat.zero_le _, rfl⟩
  rintro k hp
  try dsimp only at hp
  obtain ⟨hk, hE⟩ := hp
  refine awp_seq ?_
  refine awp_region rfl (.n (fun _ => op_lss (.plain rfl) (.plain rfl)) (.nil _)) ?_
  refine awp_seq ?_
  refine awp_cond rfl (fun h => ?_) (fun h => ?_)
  · try simp only [decide_eq_true_eq, decide_eq_false_iff_not, Bool.and_eq_true, Bool.or_eq_true, Bool.and_eq_false_iff, Bool.or_eq_false_iff, Bool.not_eq_true', Bool.not_eq_false', Bool.not_eq_true, Bool.not_eq_false, Bool.true_eq_false, Bool.false_eq_true] at h
    refine awp_skip ?_
    refine awp_seq ?_
    refine awp_block ?_
    refine awp_seq ?_
    refine awp_region rfl (.n (fun _ => op_move (.plain rfl)) (.n (fun _ => op_assign (.plain rfl)) (.nil _))) ?_
    refine awp_seq ?_
    refine awp_region rfl (.n (fun _ => op_move (.plain rfl)) (.n (fun _ => op_move (.plain rfl)) (.n (fun _ => op_move (.plain rfl)) (.n (fun _ => op_indexAddrN Tryd.underlying49 Tryd.sizeOf9 (.plain rfl) (.plain rfl) (fun _ => rfl) ?_) (.n (fun _ => op_load Tryd.isAgg9 (.plain rfl)) (.n (fun _ => op_str_eql Tryd.underlying9 (.plain rfl) (.plain rfl)) (.nil _))))))) ?_
    · omega
    refine awp_cond rfl (fun h => ?_) (fun h => ?_)
    · try simp only [decide_eq_true_eq, decide_eq_false_iff_not, Bool.and_eq_true, Bool.or_eq_true, Bool.and_eq_false_iff, Bool.or_eq_false_iff, Bool.not_eq_true', Bool.not_eq_false', Bool.not_eq_true, Bool.not_eq_false, Bool.true_eq_false, Bool.false_eq_true] at h
      refine awp_seq ?_
      refine awp_region rfl (.n (fun _ => op_move (.plain rfl)) (.n (fun _ => op_assign (.plain rfl)) (.nil _))) ?_
      refine awp_ret ?_
      refine retQ.ret ?_
      refine ret1 rfl rfl rfl ?_
      unfold txtF
      rw [firstI_stop hE (decide_eq_true h.symm) (show k < l.length by omega)]
    · try simp only [decide_eq_true_eq, decide_eq_false_iff_not, Bool.and_eq_true, Bool.or_eq_true, Bool.and_eq_false_iff, Bool.or_eq_false_iff, Bool.not_eq_true', Bool.not_eq_false', Bool.not_eq_true, Bool.not_eq_false, Bool.true_eq_false, Bool.false_eq_true] at h
      refine awp_skip ?_
      refine awp_region rfl (.n (fun _ => op_add (.plain rfl) (.plain rfl) ?_) (.n (fun _ => op_move (.plain rfl)) (.nil _))) ?_
      · unfold InR; omega
      exact ⟨k + 1, ⟨by omega, firstI_succ hE (decide_eq_false fun c => h c.symm)⟩, by dsimp only; omega, (Ent.kept ⟨rfl, rfl, rfl, rfl, rfl, trivial⟩ trivial)⟩
  · try simp only [decide_eq_true_eq, decide_eq_false_iff_not, Bool.and_eq_true, Bool.or_eq_true, Bool.and_eq_false_iff, Bool.or_eq_false_iff, Bool.not_eq_true', Bool.not_eq_false', Bool.not_eq_true, Bool.not_eq_false, Bool.true_eq_false, Bool.false_eq_true] at h
    refine awp_exit ?_
    refine awp_seq ?_
    refine awp_region rfl (.n (fun _ => op_assign (.plain rfl)) (.nil _)) ?_
    refine awp_ret ?_
    refine retQ.ret ?_
    refine ret1 rfl rfl rfl ?_
    obtain rfl : k = l.length := by omega
    unfold txtF
    rw [hE]

set_option maxRecDepth 1000000 in
set_option maxHeartbeats 1000000 in
theorem ContainsS_fc (l : List ByteArray) (s : ByteArray) : FC Tryd.prog 40 [.seq ByteArray ByteArray.empty (fun s => [.str s]) l, .str s] (.bool (decide (0 ≤ txtF l s))) := by
  refine FC.intro Tryd.func40 rfl (Nat.le_of_ble_eq_true rfl) fun hfit => ?_
  have fit0 := hfit _ (.head _)
  have fit1 := hfit _ (.tail _ (.head _))
  refine awp_seq ?_
  refine awp_region rfl (.n (fun _ => op_assign (.plain rfl)) (.nil _)) ?_
  refine awp_seq ?_
  refine awp_region rfl (.n (fun _ => op_move (.plain rfl)) (.n (fun _ => op_move (.plain rfl)) (.n (fun _ => op_call2 Tryd.call55 (.plain rfl) (.plain rfl) (IndexS_fc _ _)) (.n (fun _ => op_geq (.plain rfl) (.plain rfl)) (.n (fun _ => op_assign (.plain rfl)) (.nil _)))))) ?_
  refine awp_ret ?_
  refine retQ.ret ?_
  refine ret1 rfl rfl rfl ?_
  rfl

set_option maxRecDepth 1000000 in
set_option maxHeartbeats 1000000 in
theorem Index_fc (l : List Int) (x : Int) : FC Tryd.prog 23 [.ints l, .i x] (.i (placeF l x)) := by
  refine FC.intro Tryd.func23 rfl (Nat.le_of_ble_eq_true rfl) fun hfit => ?_
  obtain ⟨fitl0, fitr0⟩ := (hfit _ (.head _)).ints
  have fit1 : -9223372036854775808 ≤ (x : Int) ∧ (x : Int) ≤ 9223372036854775807 := (hfit _ (.tail _ (.head _))).int64
  refine awp_seq ?_
  refine awp_region rfl (.n (fun _ => op_assign (.plain rfl)) (.nil _)) ?_
  refine awp_seq ?_
  refine awp_seq ?_
  refine awp_region rfl (.n (fun _ => op_move (.plain rfl)) (.n (fun _ => op_len (s := 0) Tryd.underlying25 (.plain rfl)) (.n (fun _ => op_move (.plain rfl)) (.nil _)))) ?_
  refine awp_block ?_
  refine awp_loop (σ := Nat) (fun (k : Nat) => k ≤ l.length ∧ firstI (fun i => decide (l.getD i 0 = x)) k = none) (fun (k : Nat) => ⟨[(0, .pv (.ints l)), (1, .int x), (6, .pv (.ints l)), (7, .int (l.length : Nat)), (8, .int (k : Nat))], []⟩) (fun (k : Nat) => l.length - k) 0 ?_ (Ent.kept ⟨rfl, rfl, rfl, rfl, rfl, trivial⟩ trivial) ?_
  · exact ⟨Nat.zero_le _, rfl⟩
  rintro k hp
  try dsimp only at hp
  obtain ⟨hk, hE⟩ := hp
  refine awp_seq ?_
  refine awp_region rfl (.n (fun _ => op_lss (.plain rfl) (.plain rfl)) (.nil _)) ?_
  refine awp_seq ?_
  refine awp_cond rfl (fun h => ?_) (fun h => ?_)
  · try simp only [decide_eq_true_eq, decide_eq_false_iff_not, Bool.and_eq_true, Bool.or_eq_true, Bool.and_eq_false_iff, Bool.or_eq_false_iff, Bool.not_eq_true', Bool.not_eq_false', Bool.not_eq_true, Bool.not_eq_false, Bool.true_eq_false, Bool.false_eq_true] at h
    refine awp_skip ?_
    refine awp_seq ?_
    refine awp_block ?_
    refine awp_seq ?_
    refine awp_region rfl (.n (fun _ => op_move (.plain rfl)) (.n (fun _ => op_assign (.plain rfl)) (.nil _))) ?_
    refine awp_seq ?_
    refine awp_region rfl (.n (fun _ => op_move (.plain rfl)) (.n (fun _ => op_move (.plain rfl)) (.n (fun _ => op_move (.plain rfl)) (.n (fun _ => op_indexAddrN Tryd.underlying25 Tryd.sizeOf3 (.plain rfl) (.plain rfl) (fun _ => rfl) ?_) (.n (fun _ => op_load Tryd.isAgg3 (.plain rfl)) (.n (fun _ => op_eql (.plain rfl) (.plain rfl)) (.nil _))))))) ?_
    · omega
    refine awp_cond rfl (fun h => ?_) (fun h => ?_)
    · try simp only [decide_eq_true_eq, decide_eq_false_iff_not, Bool.and_eq_true, Bool.or_eq_true, Bool.and_eq_false_iff, Bool.or_eq_false_iff, Bool.not_eq_true', Bool.not_eq_false', Bool.not_eq_true, Bool.not_eq_false, Bool.true_eq_false, Bool.false_eq_true] at h
      refine awp_seq ?_
      refine awp_region rfl (.n (fun _ => op_move (.plain rfl)) (.n (fun _ => op_assign (.plain rfl)) (.nil _))) ?_
      refine awp_ret ?_
      refine retQ.ret ?_
      refine ret1 rfl rfl rfl ?_
      unfold placeF
      rw [firstI_stop hE (decide_eq_true h.symm) (by omega)]
    · try simp only [decide_eq_true_eq, decide_eq_false_iff_not, Bool.and_eq_true, Bool.or_eq_true, Bool.and_eq_false_iff, Bool.or_eq_false_iff, Bool.not_eq_true', Bool.not_eq_false', Bool.not_eq_true, Bool.not_eq_false, Bool.true_eq_false, Bool.false_eq_true] at h
      refine awp_skip ?_
      refine awp_region rfl (.n (fun _ => op_add (.plain rfl) (.plain rfl) ?_) (.n (fun _ => op_move (.plain rfl)) (.nil _))) ?_
      · unfold InR; omega
      exact ⟨k + 1, ⟨by omega, firstI_succ hE (decide_eq_false fun c => h c.symm)⟩, by dsimp only; omega, (Ent.kept ⟨rfl, rfl, rfl, rfl, rfl, trivial⟩ trivial)⟩
  · try simp only [decide_eq_true_eq, decide_eq_false_iff_not, Bool.and_eq_true, Bool.or_eq_true, Bool.and_eq_false_iff, Bool.or_eq_false_iff, Bool.not_eq_true', Bool.not_eq_false', Bool.not_eq_true, Bool.not_eq_false, Bool.true_eq_false, Bool.false_eq_true] at h
    refine awp_exit ?_
    refine awp_seq ?_
    refine awp_region rfl (.n (fun _ => op_assign (.plain rfl)) (.nil _)) ?_
    refine awp_ret ?_
    refine retQ.ret ?_
    refine ret1 rfl rfl rfl ?_
    obtain rfl : k = l.length := by omega
    unfold placeF
    rw [hE]

set_option maxRecDepth 1000000 in
set_option maxHeartbeats 1000000 in
theorem Contains_fc (l : List Int) (x : Int) : FC Tryd.prog 41 [.ints l, .i x] (.bool (decide (0 ≤ placeF l x))) := by
  refine FC.intro Tryd.func41 rfl (Nat.le_of_ble_eq_true rfl) fun hfit => ?_
  obtain ⟨fitl0, fitr0⟩ := (hfit _ (.head _)).ints
  have fit1 : -9223372036854775808 ≤ (x : Int) ∧ (x : Int) ≤ 9223372036854775807 := (hfit _ (.tail _ (.head _))).int64
  refine awp_seq ?_
  refine awp_region rfl (.n (fun _ => op_assign (.plain rfl)) (.nil _)) ?_
  refine awp_seq ?_
  refine awp_region rfl (.n (fun _ => op_move (.plain rfl)) (.n (fun _ => op_move (.plain rfl)) (.n (fun _ => op_call2 Tryd.call23 (.plain rfl) (.plain rfl) (Index_fc _ _)) (.n (fun _ => op_geq (.plain rfl) (.plain rfl)) (.n (fun _ => op_assign (.plain rfl)) (.nil _)))))) ?_
  refine awp_ret ?_
  refine retQ.ret ?_
  refine ret1 rfl rfl rfl ?_
  rfl

set_option maxRecDepth 1000000 in
set_option maxHeartbeats 1000000 in
theorem Place_fc (l : List Int) (x : Int) : FC Tryd.prog 12 [.ints l, .i x] (.i (placeF l x)) := by
  refine FC.intro Tryd.func12 rfl (Nat.le_of_ble_eq_true rfl) fun hfit => ?_
  obtain ⟨fitl0, fitr0⟩ := (hfit _ (.head _)).ints
  have fit1 : -9223372036854775808 ≤ (x : Int) ∧ (x : Int) ≤ 9223372036854775807 := (hfit _ (.tail _ (.head _))).int64
  refine awp_seq ?_
  refine awp_region rfl (.n (fun _ => op_assign (.plain rfl)) (.nil _)) ?_
  refine awp_seq ?_
  refine awp_seq ?_
  refine awp_region rfl (.n (fun _ => op_assign (.plain rfl)) (.nil _)) ?_
  refine awp_block ?_
  refine awp_loop (σ := Nat) (fun (k : Nat) => k ≤ l.length ∧ firstI (fun i => decide (l.getD i 0 = x)) k = none) (fun (k : Nat) => ⟨[(0, .pv (.ints l)), (1, .int x), (5, .int (k : Nat))], []⟩) (fun (k : Nat) => l.length - k) 0 ?_ (Ent.kept ⟨rfl, rfl, rfl, trivial⟩ trivial) ?_
  · exact ⟨Nat.zero_le _, rfl⟩
  rintro k hp
  try dsimp only at hp
  obtain ⟨hk, hE⟩ := hp
  refine awp_seq ?_
  refine awp_seq ?_
  refine awp_region rfl (.n (fun _ => op_move (.plain rfl)) (.n (fun _ => op_move (.plain rfl)) (.n (fun _ => op_len (s := 0) Tryd.underlying25 (.plain rfl)) (.n (fun _ => op_lss (.plain rfl) (.plain rfl)) (.nil _))))) ?_
  refine awp_cond rfl (fun h => ?_) (fun h => ?_)
  · try simp only [decide_eq_true_eq, decide_eq_false_iff_not, Bool.and_eq_true, Bool.or_eq_true, Bool.and_eq_false_iff, Bool.or_eq_false_iff, Bool.not_eq_true', Bool.not_eq_false', Bool.not_eq_true, Bool.not_eq_false, Bool.true_eq_false, Bool.false_eq_true] at h
    refine awp_skip ?_
    refine awp_seq ?_
    refine awp_block ?_
    refine awp_seq ?_
    refine awp_region rfl (.n (fun _ => op_move (.plain rfl)) (.n (fun _ => op_move (.plain rfl)) (.n (fun _ => op_indexAddrN Tryd.underlying25 Tryd.sizeOf3 (.plain rfl) (.plain rfl) (fun _ => rfl) ?_) (.n (fun _ => op_load Tryd.isAgg3 (.plain rfl)) (.n (fun _ => op_move (.plain rfl)) (.n (fun _ => op_eql (.plain rfl) (.plain rfl)) (.nil _))))))) ?_
    · omega
    refine awp_cond rfl (fun h => ?_) (fun h => ?_)
    · try simp only [decide_eq_true_eq, decide_eq_false_iff_not, Bool.and_eq_true, Bool.or_eq_true, Bool.and_eq_false_iff, Bool.or_eq_false_iff, Bool.not_eq_true', Bool.not_eq_false', Bool.not_eq_true, Bool.not_eq_false, Bool.true_eq_false, Bool.false_eq_true] at h
      refine awp_seq ?_
      refine awp_region rfl (.n (fun _ => op_move (.plain rfl)) (.n (fun _ => op_assign (.plain rfl)) (.nil _))) ?_
      refine awp_ret ?_
      refine retQ.ret ?_
      refine ret1 rfl rfl rfl ?_
      unfold placeF
      rw [firstI_stop hE (decide_eq_true h) (by omega)]
    · try simp only [decide_eq_true_eq, decide_eq_false_iff_not, Bool.and_eq_true, Bool.or_eq_true, Bool.and_eq_false_iff, Bool.or_eq_false_iff, Bool.not_eq_true', Bool.not_eq_false', Bool.not_eq_true, Bool.not_eq_false, Bool.true_eq_false, Bool.false_eq_true] at h
      refine awp_skip ?_
      refine awp_region rfl (.n (fun _ => op_move (.plain rfl)) (.n (fun _ => op_add (.plain rfl) (.plain rfl) ?_) (.n (fun _ => op_assign (.plain rfl)) (.nil _)))) ?_
      · unfold InR; omega
      exact ⟨k + 1, ⟨by omega, firstI_succ hE (decide_eq_false h)⟩, by dsimp only; omega, (Ent.kept ⟨rfl, rfl, rfl, trivial⟩ trivial)⟩
  · try simp only [decide_eq_true_eq, decide_eq_false_iff_not, Bool.and_eq_true, Bool.or_eq_true, Bool.and_eq_false_iff, Bool.or_eq_false_iff, Bool.not_eq_true', Bool.not_eq_false', Bool.not_eq_true, Bool.not_eq_false, Bool.true_eq_false, Bool.false_eq_true] at h
    refine awp_exit ?_
    refine awp_seq ?_
    refine awp_region rfl (.n (fun _ => op_assign (.plain rfl)) (.nil _)) ?_
    refine awp_ret ?_
    refine retQ.ret ?_
    refine ret1 rfl rfl rfl ?_
    obtain rfl : k = l.length := by omega
    unfold placeF
    rw [hE]

set_option maxRecDepth 1000000 in
set_option maxHeartbeats 1000000 in
theorem sameInts_fc (a b : List Int) : FC Tryd.prog 46 [.ints a, .ints b] (.bool (decide (a = b))) := by
  refine FC.intro Tryd.func46 rfl (Nat.le_of_ble_eq_true rfl) fun hfit => ?_
  obtain ⟨fitl0, fitr0⟩ := (hfit _ (.head _)).ints
  obtain ⟨fitl1, fitr1⟩ := (hfit _ (.tail _ (.head _))).ints
  refine awp_seq ?_
  refine awp_region rfl (.n (fun _ => op_assign (.plain rfl)) (.nil _)) ?_
  refine awp_seq ?_
  refine awp_seq ?_
  refine awp_region rfl (.n (fun _ => op_move (.plain rfl)) (.n (fun _ => op_len (s := 0) Tryd.underlying25 (.plain rfl)) (.n (fun _ => op_move (.plain rfl)) (.n (fun _ => op_len (s := 0) Tryd.underlying25 (.plain rfl)) (.n (fun _ => op_neq (.plain rfl) (.plain rfl)) (.nil _)))))) ?_
  refine awp_cond rfl (fun h => ?_) (fun h => ?_)
  · try simp only [decide_eq_true_eq, decide_eq_false_iff_not, Bool.and_eq_true, Bool.or_eq_true, Bool.and_eq_false_iff, Bool.or_eq_false_iff, Bool.not_eq_true', Bool.not_eq_false', Bool.not_eq_true, Bool.not_eq_false, Bool.true_eq_false, Bool.false_eq_true] at h
    refine awp_seq ?_
    refine awp_region rfl (.n (fun _ => op_assign (.plain rfl)) (.nil _)) ?_
    refine awp_ret ?_
    refine retQ.ret ?_
    refine ret1 rfl rfl rfl ?_
    rw [decide_eq_false (fun e => by subst e; simp at h)]
  · try simp only [decide_eq_true_eq, decide_eq_false_iff_not, Bool.and_eq_true, Bool.or_eq_true, Bool.and_eq_false_iff, Bool.or_eq_false_iff, Bool.not_eq_true', Bool.not_eq_false', Bool.not_eq_true, Bool.not_eq_false, Bool.true_eq_false, Bool.false_eq_true] at h
    refine awp_skip ?_
    refine awp_seq ?_
    refine awp_seq ?_
    refine awp_region rfl (.n (fun _ => op_assign (.plain rfl)) (.nil _)) ?_
    refine awp_block ?_
    refine awp_loop (σ := Nat) (fun (k : Nat) => k ≤ a.length ∧ ∀ j, j < k → a.getD j 0 = b.getD j 0) (fun (k : Nat) => ⟨[(5, .int (k : Nat)), (0, .pv (.ints a)), (1, .pv (.ints b))], []⟩) (fun (k : Nat) => a.length - k) 0 ?_ (Ent.kept ⟨rfl, rfl, rfl, trivial⟩ trivial) ?_
    · simp
    rintro k hp
    try dsimp only at hp
    obtain ⟨hk, hj⟩ := hp
    have hlen : a.length = b.length := by omega
    refine awp_seq ?_
    refine awp_seq ?_
    refine awp_region rfl (.n (fun _ => op_move (.plain rfl)) (.n (fun _ => op_move (.plain rfl)) (.n (fun _ => op_len (s := 0) Tryd.underlying25 (.plain rfl)) (.n (fun _ => op_lss (.plain rfl) (.plain rfl)) (.nil _))))) ?_
    refine awp_cond rfl (fun h => ?_) (fun h => ?_)
    · try simp only [decide_eq_true_eq, decide_eq_false_iff_not, Bool.and_eq_true, Bool.or_eq_true, Bool.and_eq_false_iff, Bool.or_eq_false_iff, Bool.not_eq_true', Bool.not_eq_false', Bool.not_eq_true, Bool.not_eq_false, Bool.true_eq_false, Bool.false_eq_true] at h
      refine awp_skip ?_
      refine awp_seq ?_
      refine awp_block ?_
      refine awp_seq ?_
      refine awp_region_draw mixed rfl (.n (fun _ => op_move (.plain rfl)) (.n (fun _ => op_move (.plain rfl)) (.n (fun _ => op_indexAddrN Tryd.underlying25 Tryd.sizeOf3 (.plain rfl) (.plain rfl) (fun _ => rfl) ?_) (.n (fun _ => op_load Tryd.isAgg3 (.plain rfl)) (.n (fun _ => op_move (.plain rfl)) (.n (fun _ => op_move (.plain rfl)) (.n (fun _ => op_indexAddrN Tryd.underlying25 Tryd.sizeOf3 (.plain rfl) (.plain rfl) (fun _ => rfl) ?_) (.n (fun _ => op_load Tryd.isAgg3 (.plain rfl)) (.n (fun _ => op_neq (.plain rfl) (.plain rfl)) (.nil _)))))))))) ?d1 ?_
      · omega
      · omega
      · kernel_rfl
      refine awp_cond rfl (fun h => ?_) (fun h => ?_)
      · try simp only [decide_eq_true_eq, decide_eq_false_iff_not, Bool.and_eq_true, Bool.or_eq_true, Bool.and_eq_false_iff, Bool.or_eq_false_iff, Bool.not_eq_true', Bool.not_eq_false', Bool.not_eq_true, Bool.not_eq_false, Bool.true_eq_false, Bool.false_eq_true] at h
        refine awp_seq ?_
        refine awp_region rfl (.n (fun _ => op_assign (.plain rfl)) (.nil _)) ?_
        refine awp_ret ?_
        refine retQ.ret ?_
        refine ret1 rfl rfl rfl ?_
        rw [decide_eq_false (fun e => by subst e; simp at h)]
      · try simp only [decide_eq_true_eq, decide_eq_false_iff_not, Bool.and_eq_true, Bool.or_eq_true, Bool.and_eq_false_iff, Bool.or_eq_false_iff, Bool.not_eq_true', Bool.not_eq_false', Bool.not_eq_true, Bool.not_eq_false, Bool.true_eq_false, Bool.false_eq_true] at h
        refine awp_skip ?_
        refine awp_region rfl (.n (fun _ => op_move (.plain rfl)) (.n (fun _ => op_add (.plain rfl) (.plain rfl) ?_) (.n (fun _ => op_assign (.plain rfl)) (.nil _)))) ?_
        · unfold InR; omega
        refine ⟨k + 1, ⟨by omega, fun j hjk => ?_⟩, by dsimp only; omega, Ent.kept ⟨rfl, rfl, rfl, trivial⟩ trivial⟩
        by_cases e : j = k
        · subst e; simpa using h
        · exact hj j (by omega)
    · try simp only [decide_eq_true_eq, decide_eq_false_iff_not, Bool.and_eq_true, Bool.or_eq_true, Bool.and_eq_false_iff, Bool.or_eq_false_iff, Bool.not_eq_true', Bool.not_eq_false', Bool.not_eq_true, Bool.not_eq_false, Bool.true_eq_false, Bool.false_eq_true] at h
      refine awp_exit ?_
      refine awp_seq ?_
      refine awp_region rfl (.n (fun _ => op_assign (.plain rfl)) (.nil _)) ?_
      refine awp_ret ?_
      refine retQ.ret ?_
      refine ret1 rfl rfl rfl ?_
      rw [decide_eq_true (List.ext_getElem hlen fun j h1 h2 => by have := hj j (by omega); simpa [List.getD_eq_getElem?_getD, h1, h2] using this)]

set_option maxRecDepth 1000000 in
set_option maxHeartbeats 1000000 in
theorem agent_fc (nm : ByteArray) (rm : Int) (lk : List Int) (n : Int) (N : List ByteArray) : FC Tryd.prog 20 [.agg [.str nm, .i rm, .ints lk], .i n, .seq ByteArray ByteArray.empty (fun s => [.str s]) N] (.i (agE nm rm lk n N)) := by
  refine FC.intro Tryd.func20 rfl (Nat.le_of_ble_eq_true rfl) fun hfit => ?_
  have fit0 := hfit _ (.head _)
  have fit1 : -9223372036854775808 ≤ (n : Int) ∧ (n : Int) ≤ 9223372036854775807 := (hfit _ (.tail _ (.head _))).int64
  have fit2 := hfit _ (.tail _ (.tail _ (.head _)))
  have hlen : lk.length ≤ 281474976710656 := by cases fit0 with | agg _ h => exact (h 2 (by simp)).len
  refine awp_seq ?_
  refine awp_region rfl (.n (fun _ => op_box (.plain rfl) (by simp)) (.n (fun _ => op_assign (.plain rfl)) (.nil _))) ?_
  refine awp_seq ?_
  refine awp_block ?_
  refine awp_seq ?_
  refine awp_region rfl (.n (fun _ => op_fieldAddr Tryd.underlying27 rfl rfl Tryd.sizeOf9 (.plain rfl)) (.n (fun _ => op_load Tryd.isAgg9 (.plain rfl)) (.n (fun _ => op_call1 Tryd.call39 (.plain rfl) (name_fc _)) (.n (fun _ => op_not (.plain rfl)) (.n (fun _ => op_assign (.plain rfl)) (.nil _)))))) ?_
  refine awp_cond rfl (fun h => ?_) (fun h => ?_)
  · try simp only [decide_eq_true_eq, decide_eq_false_iff_not, Bool.and_eq_true, Bool.or_eq_true, Bool.and_eq_false_iff, Bool.or_eq_false_iff, Bool.not_eq_true', Bool.not_eq_false', Bool.not_eq_true, Bool.not_eq_false, Bool.true_eq_false, Bool.false_eq_true] at h
    have h0 : namedF nm = false := by simpa using h
    refine awp_seq ?_
    refine awp_region rfl (.n (fun _ => op_assign (.plain rfl)) (.nil _)) ?_
    refine awp_ret ?_
    refine retQ.ret ?_
    refine ret1 rfl rfl rfl ?_
    exact congrArg PV.i (agE_1 h0)
  · try simp only [decide_eq_true_eq, decide_eq_false_iff_not, Bool.and_eq_true, Bool.or_eq_true, Bool.and_eq_false_iff, Bool.or_eq_false_iff, Bool.not_eq_true', Bool.not_eq_false', Bool.not_eq_true, Bool.not_eq_false, Bool.true_eq_false, Bool.false_eq_true] at h
    have h1 : ¬ namedF nm = false := by simpa using h
    clear h
    refine awp_seq ?_
    refine awp_region rfl (.n (fun _ => op_move (.plain rfl)) (.n (fun _ => op_fieldAddr Tryd.underlying27 rfl rfl Tryd.sizeOf9 (.plain rfl)) (.n (fun _ => op_load Tryd.isAgg9 (.plain rfl)) (.n (fun _ => op_call2 Tryd.call40 (.plain rfl) (.plain rfl) (ContainsS_fc _ _)) (.n (fun _ => op_assign (.plain rfl)) (.nil _)))))) ?_
    refine awp_cond rfl (fun h => ?_) (fun h => ?_)
    · try simp only [decide_eq_true_eq, decide_eq_false_iff_not, Bool.and_eq_true, Bool.or_eq_true, Bool.and_eq_false_iff, Bool.or_eq_false_iff, Bool.not_eq_true', Bool.not_eq_false', Bool.not_eq_true, Bool.not_eq_false, Bool.true_eq_false, Bool.false_eq_true] at h
      refine awp_seq ?_
      refine awp_region rfl (.n (fun _ => op_assign (.plain rfl)) (.nil _)) ?_
      refine awp_ret ?_
      refine retQ.ret ?_
      refine ret1 rfl rfl rfl ?_
      exact congrArg PV.i (agE_6 h1 h)
    · try simp only [decide_eq_true_eq, decide_eq_false_iff_not, Bool.and_eq_true, Bool.or_eq_true, Bool.and_eq_false_iff, Bool.or_eq_false_iff, Bool.not_eq_true', Bool.not_eq_false', Bool.not_eq_true, Bool.not_eq_false, Bool.true_eq_false, Bool.false_eq_true] at h
      have h2 : ¬ 0 ≤ txtF N nm := by omega
      clear h
      refine awp_seq ?_
      refine awp_region rfl (.n (fun _ => op_fieldAddr Tryd.underlying27 rfl rfl Tryd.sizeOf3 (.plain rfl)) (.n (fun _ => op_load Tryd.isAgg3 (.plain rfl)) (.n (fun _ => op_lss (.plain rfl) (.plain rfl)) (.n (fun _ => op_move (.plain rfl)) (.gn rfl rfl (fun hg _ => op_fieldAddr Tryd.underlying27 rfl rfl Tryd.sizeOf3 (.plain rfl)) (.gn rfl rfl (fun hg _ => op_load Tryd.isAgg3 (.opt rfl fun h => h)) (.gn rfl rfl (fun hg _ => op_gtr (.opt rfl fun h => h) (.plain rfl)) (.n (fun _ => op_or (.plain rfl) (.plain rfl) (.plain rfl) (fun h => eqF h)) (.n (fun _ => op_assign (.plain rfl)) (.nil _)))))))))) ?_
      refine awp_cond rfl (fun h => ?_) (fun h => ?_)
      · try simp only [decide_eq_true_eq, decide_eq_false_iff_not, Bool.and_eq_true, Bool.or_eq_true, Bool.and_eq_false_iff, Bool.or_eq_false_iff, Bool.not_eq_true', Bool.not_eq_false', Bool.not_eq_true, Bool.not_eq_false, Bool.true_eq_false, Bool.false_eq_true] at h
        refine awp_seq ?_
        refine awp_region rfl (.n (fun _ => op_assign (.plain rfl)) (.nil _)) ?_
        refine awp_ret ?_
        refine retQ.ret ?_
        refine ret1 rfl rfl rfl ?_
        exact congrArg PV.i (agE_9 h1 h2 (by omega))
      · try simp only [decide_eq_true_eq, decide_eq_false_iff_not, Bool.and_eq_true, Bool.or_eq_true, Bool.and_eq_false_iff, Bool.or_eq_false_iff, Bool.not_eq_true', Bool.not_eq_false', Bool.not_eq_true, Bool.not_eq_false, Bool.true_eq_false, Bool.false_eq_true] at h
        have h3 : ¬ (rm < 1 ∨ 4 < rm) := by omega
        refine awp_skip ?_
        refine awp_seq ?_
        refine awp_seq ?_
        refine awp_region rfl (.n (fun _ => op_fieldAddr Tryd.underlying27 rfl rfl Tryd.sizeOf25 (.plain rfl)) (.n (fun _ => op_load Tryd.isAgg25 (.plain rfl)) (.n (fun _ => op_len (s := 0) Tryd.underlying25 (.plain rfl)) (.n (fun _ => op_move (.plain rfl)) (.nil _))))) ?_
        refine awp_block ?_
        refine awp_loop (σ := Nat) (fun (i : Nat) => (¬ namedF nm = false ∧ ¬ 0 ≤ txtF N nm ∧ ¬ (rm < 1 ∨ 4 < rm)) ∧ i ≤ lk.length ∧ firstE (someB n lk) i = 0) (fun (i : Nat) => ⟨[(1, .int n), (2, .pv (.seq ByteArray ByteArray.empty (fun s => [.str s]) N)), (3, .pv (.rd [.str nm, .i rm, .ints lk])), (29, .pv (.ints lk)), (30, .int (lk.length : Nat)), (31, .int (i : Nat))], []⟩) (fun (i : Nat) => lk.length - i) 0 ?_ (Ent.kept ⟨rfl, rfl, rfl, rfl, rfl, rfl, trivial⟩ trivial) ?_
        · exact ⟨⟨h1, h2, h3⟩, Nat.zero_le _, rfl⟩
        rintro i hp
        try dsimp only at hp
        obtain ⟨hno, hk, hE⟩ := hp
        refine awp_seq ?_
        refine awp_region rfl (.n (fun _ => op_lss (.plain rfl) (.plain rfl)) (.nil _)) ?_
        refine awp_seq ?_
        refine awp_cond rfl (fun h => ?_) (fun h => ?_)
        · try simp only [decide_eq_true_eq, decide_eq_false_iff_not, Bool.and_eq_true, Bool.or_eq_true, Bool.and_eq_false_iff, Bool.or_eq_false_iff, Bool.not_eq_true', Bool.not_eq_false', Bool.not_eq_true, Bool.not_eq_false, Bool.true_eq_false, Bool.false_eq_true] at h
          refine awp_skip ?_
          refine awp_seq ?_
          refine awp_block ?_
          refine awp_seq ?_
          refine awp_region rfl (.n (fun _ => op_move (.plain rfl)) (.n (fun _ => op_indexAddrN Tryd.underlying25 Tryd.sizeOf3 (.plain rfl) (.plain rfl) (fun _ => rfl) ?_) (.n (fun _ => op_load Tryd.isAgg3 (.plain rfl)) (.n (fun _ => op_assign (.plain rfl)) (.n (fun _ => op_assign (.plain rfl)) (.nil _)))))) ?_
          · omega
          refine awp_block ?_
          refine awp_seq ?_
          refine awp_region rfl (.n (fun _ => op_move (.plain rfl)) (.n (fun _ => op_lss (.plain rfl) (.plain rfl)) (.n (fun _ => op_move (.plain rfl)) (.gn rfl rfl (fun hg _ => op_move (.plain rfl)) (.gn rfl rfl (fun hg _ => op_move (.plain rfl)) (.gn rfl rfl (fun hg _ => op_geq (.opt rfl fun h => h) (.opt rfl fun h => h)) (.n (fun _ => op_or (.plain rfl) (.plain rfl) (.plain rfl) (fun h => eqF h)) (.n (fun _ => op_assign (.plain rfl)) (.nil _))))))))) ?_
          refine awp_cond rfl (fun h => ?_) (fun h => ?_)
          · try simp only [decide_eq_true_eq, decide_eq_false_iff_not, Bool.and_eq_true, Bool.or_eq_true, Bool.and_eq_false_iff, Bool.or_eq_false_iff, Bool.not_eq_true', Bool.not_eq_false', Bool.not_eq_true, Bool.not_eq_false, Bool.true_eq_false, Bool.false_eq_true] at h
            refine awp_seq ?_
            refine awp_region rfl (.n (fun _ => op_assign (.plain rfl)) (.nil _)) ?_
            refine awp_ret ?_
            refine retQ.ret ?_
            refine ret1 rfl rfl rfl ?_
            rw [← agE_f hno]
            exact congrArg PV.i (someE_at hE (by omega) (someB_8 h) (by omega))
          · try simp only [decide_eq_true_eq, decide_eq_false_iff_not, Bool.and_eq_true, Bool.or_eq_true, Bool.and_eq_false_iff, Bool.or_eq_false_iff, Bool.not_eq_true', Bool.not_eq_false', Bool.not_eq_true, Bool.not_eq_false, Bool.true_eq_false, Bool.false_eq_true] at h
            have hno0 : ¬ (lk.getD i 0 < 0 ∨ n ≤ lk.getD i 0) := by omega
            refine awp_seq ?_
            refine awp_region rfl (.n (fun _ => op_fieldAddr Tryd.underlying27 rfl rfl Tryd.sizeOf25 (.plain rfl)) (.n (fun _ => op_load Tryd.isAgg25 (.plain rfl)) (.n (fun _ => op_move (.plain rfl)) (.n (fun _ => op_sliceI (kl := .i64) Tryd.underlying25 Tryd.sizeOf3 (fun _ => rfl) (.plain rfl) rfl (.plain rfl) ?_) (.n (fun _ => op_move (.plain rfl)) (.n (fun _ => op_call2 Tryd.call41 (.plain rfl) (.plain rfl) (Contains_fc _ _)) (.n (fun _ => op_assign (.plain rfl)) (.nil _)))))))) ?_
            · omega
            refine awp_cond rfl (fun h => ?_) (fun h => ?_)
            · try simp only [decide_eq_true_eq, decide_eq_false_iff_not, Bool.and_eq_true, Bool.or_eq_true, Bool.and_eq_false_iff, Bool.or_eq_false_iff, Bool.not_eq_true', Bool.not_eq_false', Bool.not_eq_true, Bool.not_eq_false, Bool.true_eq_false, Bool.false_eq_true] at h
              have hpt := place_take (show i < lk.length by omega)
              refine awp_seq ?_
              refine awp_region rfl (.n (fun _ => op_assign (.plain rfl)) (.nil _)) ?_
              refine awp_ret ?_
              refine retQ.ret ?_
              refine ret1 rfl rfl rfl ?_
              simp only [Int.toNat_natCast, Int.toNat_zero, List.drop_zero] at h
              rw [← agE_f hno]
              exact congrArg PV.i (someE_at hE (by omega) (someB_6 hno0 (hpt.1 h)) (by omega))
            · try simp only [decide_eq_true_eq, decide_eq_false_iff_not, Bool.and_eq_true, Bool.or_eq_true, Bool.and_eq_false_iff, Bool.or_eq_false_iff, Bool.not_eq_true', Bool.not_eq_false', Bool.not_eq_true, Bool.not_eq_false, Bool.true_eq_false, Bool.false_eq_true] at h
              have hpt := place_take (show i < lk.length by omega)
              refine awp_skip ?_
              refine awp_region rfl (.n (fun _ => op_add (.plain rfl) (.plain rfl) ?_) (.n (fun _ => op_move (.plain rfl)) (.nil _))) ?_
              · unfold InR; omega
              exact ⟨i + 1, ⟨hno, by omega, firstE_succ hE (someB_0 hno0 (fun c => by have := hpt.2 c; simp only [Int.toNat_natCast, Int.toNat_zero, List.drop_zero] at h; omega))⟩, by dsimp only; omega, (Ent.kept ⟨rfl, rfl, rfl, rfl, rfl, rfl, trivial⟩ trivial)⟩
        · try simp only [decide_eq_true_eq, decide_eq_false_iff_not, Bool.and_eq_true, Bool.or_eq_true, Bool.and_eq_false_iff, Bool.or_eq_false_iff, Bool.not_eq_true', Bool.not_eq_false', Bool.not_eq_true, Bool.not_eq_false, Bool.true_eq_false, Bool.false_eq_true] at h
          refine awp_exit ?_
          refine awp_seq ?_
          refine awp_region rfl (.n (fun _ => op_assign (.plain rfl)) (.nil _)) ?_
          refine awp_ret ?_
          refine retQ.ret ?_
          refine ret1 rfl rfl rfl ?_
          rw [← agE_f hno]
          exact congrArg PV.i (someE_ok hk hE (by omega))

end Go.Proofs.YtolmcapbpliaiaaDoor

