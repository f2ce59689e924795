/- What TopChooser says, on plain values. Conditions: each theorem names its own. -/
import Derived.Test.YthcgljomiigjiaaProg
import Derived.Test.YthcgljomiigjiaaAbsH
import Derived.Test.YthcgljomiigjiaaFa
namespace Go.Proofs.Ythcgljomiigjiaa
open Go.Abs
set_option linter.unusedVariables false
set_option linter.unusedSimpArgs false


/-- Whether v is of the set m of things. -/
def inM (m v : Nat) : Bool := decide (m / 2 ^ v % 2 = 1)
def pick (b m : Nat) : Nat := if inM m (ordN b 0) then ordN b 0 else if inM m (ordN b 1) then ordN b 1 else ordN b 2
theorem pick_of : allTo (fun b => allTo (fun m => allTo (fun v => !inM m v || !(allTo (fun u => !inM m u || decide (u = v) || !abvN b u v) 3) || decide (v = pick b m)) 3) 8) 6 = true := by decide +kernel
/-- No lie of the first voter pays: between his order a (m) and another one s (ms). -/
def cOk (a m s ms : Nat) : Bool := m == ms || allTo (fun b => pick b ms == pick b m || !abvN a (pick b ms) (pick b m)) 6
def cc (a m s ms : Nat) : Bool := cOk a m s ms && cOk s ms a m
def ontoM (m0 m1 m2 m3 m4 m5 : Nat) : Bool := let M := m0 ||| m1 ||| m2 ||| m3 ||| m4 ||| m5; M == 7
def fin6 (m0 m1 m2 m3 m4 m5 : Nat) : Bool := !ontoM m0 m1 m2 m3 m4 m5 || (m0 == 1 && m1 == 1 && m2 == 2 && m3 == 2 && m4 == 4 && m5 == 4) || (m0 == 7 && m1 == 7 && m2 == 7 && m3 == 7 && m4 == 7 && m5 == 7)
def srch : Bool := allTo (fun m0 => m0 == 0 || allTo (fun m1 => m1 == 0 || !cc 0 m0 1 m1 || allTo (fun m2 => m2 == 0 || !cc 0 m0 2 m2 || !cc 1 m1 2 m2 ||
  allTo (fun m3 => m3 == 0 || !cc 0 m0 3 m3 || !cc 1 m1 3 m3 || !cc 2 m2 3 m3 || allTo (fun m4 => m4 == 0 || !cc 0 m0 4 m4 || !cc 1 m1 4 m4 || !cc 2 m2 4 m4 || !cc 3 m3 4 m4 ||
    allTo (fun m5 => m5 == 0 || !cc 0 m0 5 m5 || !cc 1 m1 5 m5 || !cc 2 m2 5 m5 || !cc 3 m3 5 m5 || !cc 4 m4 5 m5 || fin6 m0 m1 m2 m3 m4 m5) 8) 8) 8) 8) 8) 8
theorem srch_ok : srch = true := by decide +kernel

def anyV (r : Nat → Nat) (a v : Nat) : Bool := !allTo (fun b => !decide (r (6 * a + b) = v)) 6
def optM (r : Nat → Nat) (a : Nat) : Nat := (if anyV r a 0 then 1 else 0) + (if anyV r a 1 then 2 else 0) + (if anyV r a 2 then 4 else 0)
theorem anyV_iff {r : Nat → Nat} {a v : Nat} : anyV r a v = true ↔ ∃ b, b < 6 ∧ r (6 * a + b) = v := by
  unfold anyV
  constructor
  · intro h
    refine Decidable.byContradiction fun c => ?_
    have : allTo (fun b => !decide (r (6 * a + b) = v)) 6 = true := allTo_iff.2 fun b hb => by
      simp only [Bool.not_eq_true', decide_eq_false_iff_not]
      exact fun e => c ⟨b, hb, e⟩
    rw [this] at h
    cases h
  · rintro ⟨b, hb, e⟩
    rw [allTo_stop (f := fun b => !decide (r (6 * a + b) = v)) (by simp [e]) hb]
    rfl
theorem opt3 : ∀ p q s : Bool, inM ((if p then 1 else 0) + (if q then 2 else 0) + (if s then 4 else 0)) 0 = p ∧ inM ((if p then 1 else 0) + (if q then 2 else 0) + (if s then 4 else 0)) 1 = q ∧ inM ((if p then 1 else 0) + (if q then 2 else 0) + (if s then 4 else 0)) 2 = s := by decide
theorem inM_opt (r : Nat → Nat) (a : Nat) (v : Nat) (hv : v < 3) : inM (optM r a) v = anyV r a v := by
  have h := opt3 (anyV r a 0) (anyV r a 1) (anyV r a 2)
  match v, hv with
  | 0, _ => exact h.1
  | 1, _ => exact h.2.1
  | 2, _ => exact h.2.2
theorem opt_lt (r : Nat → Nat) (a : Nat) : optM r a < 8 := by
  unfold optM
  cases anyV r a 0 <;> cases anyV r a 1 <;> cases anyV r a 2 <;> decide
theorem all7 : ∀ M, M < 8 → inM M 0 = true → inM M 1 = true → inM M 2 = true → M = 7 := by decide
theorem inM_zero : ∀ v, v < 3 → inM 0 v = false := by decide
theorem inM_or (m n v : Nat) : inM (m ||| n) v = (inM m v || inM n v) := by
  unfold inM
  rw [← Nat.testBit_eq_decide_div_mod_eq, ← Nat.testBit_eq_decide_div_mod_eq, ← Nat.testBit_eq_decide_div_mod_eq, Nat.testBit_or]
theorem pick_top : ∀ a, a < 6 → ∀ b, b < 6 → pick b (2 ^ (a / 2)) = a / 2 ∧ pick b 7 = b / 2 := by decide
theorem gibbard {r : Nat → Nat} (hr : ∀ i, i < 36 → r i < 3) (h1 : ∀ a, a < 6 → ∀ b, b < 6 → ∀ s, s < 6 → r (6 * s + b) ≠ r (6 * a + b) → abvN a (r (6 * s + b)) (r (6 * a + b)) = false)
    (h2 : ∀ a, a < 6 → ∀ b, b < 6 → ∀ s, s < 6 → r (6 * a + s) ≠ r (6 * a + b) → abvN b (r (6 * a + s)) (r (6 * a + b)) = false) (ho : ∀ v, v < 3 → ∃ a b, a < 6 ∧ b < 6 ∧ r (6 * a + b) = v) :
    (∀ a, a < 6 → ∀ b, b < 6 → r (6 * a + b) = a / 2) ∨ (∀ a, a < 6 → ∀ b, b < 6 → r (6 * a + b) = b / 2) := by
  have hp : ∀ a, a < 6 → ∀ b, b < 6 → r (6 * a + b) = pick b (optM r a) := by
    intro a ha b hb
    have hv := hr (6 * a + b) (by omega)
    have h := allTo_iff.1 (allTo_iff.1 (allTo_iff.1 pick_of b hb) (optM r a) (opt_lt r a)) (r (6 * a + b)) hv
    have i1 : inM (optM r a) (r (6 * a + b)) = true := by rw [inM_opt r a _ hv]; exact anyV_iff.2 ⟨b, hb, rfl⟩
    have i2 : allTo (fun u => !inM (optM r a) u || decide (u = r (6 * a + b)) || !abvN b u (r (6 * a + b))) 3 = true := allTo_iff.2 fun u hu => by
      cases e : inM (optM r a) u with
      | false => rfl
      | true =>
        rw [inM_opt r a u hu, anyV_iff] at e
        obtain ⟨s, hs, e⟩ := e
        subst e
        by_cases c : r (6 * a + s) = r (6 * a + b)
        · simp [c]
        · rw [h2 a ha b hb s hs c]; simp
    rw [i1, i2] at h
    simpa using h
  have hz : ∀ a, a < 6 → (optM r a == 0) = false := by
    intro a ha
    have i1 : inM (optM r a) (r (6 * a + 0)) = true := by rw [inM_opt r a _ (hr _ (by omega))]; exact anyV_iff.2 ⟨0, by omega, rfl⟩
    cases e : optM r a == 0 with
    | false => rfl
    | true =>
      have e : optM r a = 0 := by simpa using e
      rw [e, inM_zero _ (hr _ (by omega))] at i1
      cases i1
  have hc : ∀ a, a < 6 → ∀ s, s < 6 → cOk a (optM r a) s (optM r s) = true := by
    intro a ha s hs
    unfold cOk
    rw [Bool.or_eq_true]
    right
    refine allTo_iff.2 fun b hb => ?_
    rw [← hp a ha b hb, ← hp s hs b hb]
    by_cases c : r (6 * s + b) = r (6 * a + b)
    · simp [c]
    · rw [h1 a ha b hb s hs c]; simp
  have hcc : ∀ a, a < 6 → ∀ s, s < 6 → (!cc a (optM r a) s (optM r s)) = false := fun a ha s hs => by
    unfold cc
    rw [hc a ha s hs, hc s hs a ha]
    rfl
  have hon : ontoM (optM r 0) (optM r 1) (optM r 2) (optM r 3) (optM r 4) (optM r 5) = true := by
    unfold ontoM
    have hin : ∀ v, v < 3 → inM (optM r 0 ||| optM r 1 ||| optM r 2 ||| optM r 3 ||| optM r 4 ||| optM r 5) v = true := by
      intro v hv
      obtain ⟨a, b, ha, hb, e⟩ := ho v hv
      have : inM (optM r a) v = true := by rw [inM_opt r a v hv]; exact anyV_iff.2 ⟨b, hb, e⟩
      simp only [inM_or]
      match a, ha, this with
      | 0, _, t => simp [t]
      | 1, _, t => simp [t]
      | 2, _, t => simp [t]
      | 3, _, t => simp [t]
      | 4, _, t => simp [t]
      | 5, _, t => simp [t]
    have hlt : optM r 0 ||| optM r 1 ||| optM r 2 ||| optM r 3 ||| optM r 4 ||| optM r 5 < 2 ^ 3 :=
      Nat.or_lt_two_pow (Nat.or_lt_two_pow (Nat.or_lt_two_pow (Nat.or_lt_two_pow (Nat.or_lt_two_pow (opt_lt r 0) (opt_lt r 1)) (opt_lt r 2)) (opt_lt r 3)) (opt_lt r 4)) (opt_lt r 5)
    have := all7 _ hlt (hin 0 (by omega)) (hin 1 (by omega)) (hin 2 (by omega))
    simpa using this
  have g := srch_ok
  unfold srch at g
  have g := allTo_iff.1 g _ (opt_lt r 0)
  simp only [hz 0 (by omega), Bool.false_or] at g
  have g := allTo_iff.1 g _ (opt_lt r 1)
  simp only [hz 1 (by omega), hcc 0 (by omega) 1 (by omega), Bool.false_or] at g
  have g := allTo_iff.1 g _ (opt_lt r 2)
  simp only [hz 2 (by omega), hcc 0 (by omega) 2 (by omega), hcc 1 (by omega) 2 (by omega), Bool.false_or] at g
  have g := allTo_iff.1 g _ (opt_lt r 3)
  simp only [hz 3 (by omega), hcc 0 (by omega) 3 (by omega), hcc 1 (by omega) 3 (by omega), hcc 2 (by omega) 3 (by omega), Bool.false_or] at g
  have g := allTo_iff.1 g _ (opt_lt r 4)
  simp only [hz 4 (by omega), hcc 0 (by omega) 4 (by omega), hcc 1 (by omega) 4 (by omega), hcc 2 (by omega) 4 (by omega), hcc 3 (by omega) 4 (by omega), Bool.false_or] at g
  have g := allTo_iff.1 g _ (opt_lt r 5)
  simp only [hz 5 (by omega), hcc 0 (by omega) 5 (by omega), hcc 1 (by omega) 5 (by omega), hcc 2 (by omega) 5 (by omega), hcc 3 (by omega) 5 (by omega), hcc 4 (by omega) 5 (by omega), Bool.false_or] at g
  unfold fin6 at g
  rw [hon] at g
  simp only [Bool.not_true, Bool.false_or, Bool.or_eq_true, Bool.and_eq_true, beq_iff_eq] at g
  rcases g with ⟨⟨⟨⟨⟨g0, g1⟩, g2⟩, g3⟩, g4⟩, g5⟩ | ⟨⟨⟨⟨⟨g0, g1⟩, g2⟩, g3⟩, g4⟩, g5⟩
  · left
    intro a ha b hb
    rw [hp a ha b hb, ← (pick_top a ha b hb).1]
    congr 1
    match a, ha with
    | 0, _ => exact g0
    | 1, _ => exact g1
    | 2, _ => exact g2
    | 3, _ => exact g3
    | 4, _ => exact g4
    | 5, _ => exact g5
  · right
    intro a ha b hb
    rw [hp a ha b hb, ← (pick_top a ha b hb).2]
    congr 1
    match a, ha with
    | 0, _ => exact g0
    | 1, _ => exact g1
    | 2, _ => exact g2
    | 3, _ => exact g3
    | 4, _ => exact g4
    | 5, _ => exact g5

def seenB (rule : List Int) (k v : Nat) : Bool := !allTo (fun j => !decide (rN rule j = v)) k
theorem seen_succ (rule : List Int) (k v : Nat) : seenB rule (k + 1) v = (seenB rule k v || decide (rN rule k = v)) := by simp [seenB, allTo, Bool.not_and]
def payP (rule : List Int) (a b w s : Nat) : Bool :=
  !decide (rN rule (if w = 1 then 6 * a + s else 6 * s + b) = rN rule (6 * a + b)) && abvN (if w = 1 then b else a) (rN rule (if w = 1 then 6 * a + s else 6 * s + b)) (rN rule (6 * a + b))
def honP (rule : List Int) (n : Nat) : Bool := payP rule (n / 72) (n / 12 % 6) (n / 6 % 2) (n % 6)
theorem honP_at {rule : List Int} {a b w s : Nat} (hb : b < 6) (hw : w < 2) (hs : s < 6) : honP rule (72 * a + 12 * b + 6 * w + s) = payP rule a b w s := by
  unfold honP
  rw [show (72 * a + 12 * b + 6 * w + s) / 72 = a by omega, show (72 * a + 12 * b + 6 * w + s) / 12 % 6 = b by omega, show (72 * a + 12 * b + 6 * w + s) / 6 % 2 = w by omega, show (72 * a + 12 * b + 6 * w + s) % 6 = s by omega]
def honO (rule : List Int) : Option Nat := firstI (honP rule) 432
def hOk (rule : List Int) : Bool := if tabE rule 3 = 0 then (honO rule).isNone else false
def hV (rule : List Int) (g : Nat → Nat) : Nat := if tabE rule 3 = 0 then (match honO rule with | some n => g n | none => 0) else 0
def cho0 (rule : List Int) (i : Nat) : Bool := decide (rule.getD i 0 = ((i / 6 / 2 : Nat) : Int))
def cho1 (rule : List Int) (i : Nat) : Bool := decide (rule.getD i 0 = ((i % 6 / 2 : Nat) : Int))
theorem cho_step {rule : List Int} {a b : Nat} (hb : b < 6) : (allTo (cho0 rule) (6 * a + b) && decide (rule.getD (6 * ((a : Nat) : Int) + ((b : Nat) : Int)).toNat 0 = ((a : Nat) : Int) / 2)) = allTo (cho0 rule) (6 * a + (b + 1)) := by
  rw [idx6]
  show _ = (allTo (cho0 rule) (6 * a + b) && cho0 rule (6 * a + b))
  unfold cho0
  rw [show (6 * a + b) / 6 / 2 = a / 2 by omega, show ((a : Nat) : Int) / 2 = ((a / 2 : Nat) : Int) by omega]
theorem cho_step1 {rule : List Int} {a b : Nat} (hb : b < 6) : (allTo (cho1 rule) (6 * a + b) && decide (rule.getD (6 * ((a : Nat) : Int) + ((b : Nat) : Int)).toNat 0 = ((b : Nat) : Int) / 2)) = allTo (cho1 rule) (6 * a + (b + 1)) := by
  rw [idx6]
  show _ = (allTo (cho1 rule) (6 * a + b) && cho1 rule (6 * a + b))
  unfold cho1
  rw [show (6 * a + b) % 6 / 2 = b / 2 by omega, show ((b : Nat) : Int) / 2 = ((b / 2 : Nat) : Int) by omega]
theorem rN_cast {rule : List Int} {n : Int} (h : TabOk rule n) {i : Nat} (hi : i < 36) : rule.getD i 0 = ((rN rule i : Nat) : Int) := by have := h.val i hi; unfold rN; omega
theorem gibbard_law {rule : List Int} (h : TabOk rule 3) (hz : tabE rule 3 = 0) : (!(seenB rule 36 0 == true && seenB rule 36 1 == true && seenB rule 36 2 == true) || !hOk rule || allTo (cho0 rule) 36 || allTo (cho1 rule) 36) = true := by
  cases e1 : (seenB rule 36 0 == true && seenB rule 36 1 == true && seenB rule 36 2 == true) with
  | false => rfl
  | true =>
    cases e2 : hOk rule with
    | false => rfl
    | true =>
      unfold hOk at e2
      rw [if_pos hz, Option.isNone_iff_eq_none] at e2
      have hn : ∀ a, a < 6 → ∀ b, b < 6 → ∀ w, w < 2 → ∀ s, s < 6 → payP rule a b w s = false := fun a ha b hb w hw s hs => by
        rw [← honP_at hb hw hs]
        exact firstI_none e2 _ (by omega)
      have hs : ∀ v, seenB rule 36 v = true → ∃ a b, a < 6 ∧ b < 6 ∧ rN rule (6 * a + b) = v := fun v hv => by
        refine Classical.byContradiction fun c => ?_
        have h2 : allTo (fun j => !decide (rN rule j = v)) 36 = true := allTo_iff.2 fun j hj => by
          simp only [Bool.not_eq_true', decide_eq_false_iff_not]
          intro e
          exact c ⟨j / 6, j % 6, by omega, by omega, by rw [show 6 * (j / 6) + j % 6 = j by omega]; exact e⟩
        unfold seenB at hv
        rw [h2] at hv
        cases hv
      simp only [Bool.and_eq_true, beq_iff_eq] at e1
      have := gibbard (r := rN rule) (fun i hi => rN_lt (n := 3) h hi) (fun a ha b hb s hs' hne => by
          have := hn a ha b hb 0 (by omega) s hs'
          unfold payP at this
          rw [if_neg (by omega), if_neg (by omega), decide_eq_false hne] at this
          simpa using this)
        (fun a ha b hb s hs' hne => by
          have := hn a ha b hb 1 (by omega) s hs'
          unfold payP at this
          rw [if_pos rfl, if_pos rfl, decide_eq_false hne] at this
          simpa using this)
        (fun v hv => by
          match v, hv with
          | 0, _ => exact hs 0 e1.1.1
          | 1, _ => exact hs 1 e1.1.2
          | 2, _ => exact hs 2 e1.2)
      rcases this with g | g
      · have : allTo (cho0 rule) 36 = true := allTo_iff.2 fun i hi => decide_eq_true (by
          have := g (i / 6) (by omega) (i % 6) (by omega)
          rw [show 6 * (i / 6) + i % 6 = i by omega] at this
          rw [rN_cast h hi, this])
        rw [this]; rfl
      · have : allTo (cho1 rule) 36 = true := allTo_iff.2 fun i hi => decide_eq_true (by
          have := g (i / 6) (by omega) (i % 6) (by omega)
          rw [show 6 * (i / 6) + i % 6 = i by omega] at this
          rw [rN_cast h hi, this])
        rw [this]; simp
theorem box3 {a b c : Bool} {s t u : SV} (h1 : s = .pv (.bool a)) (h2 : t = .pv (.bool b)) (h3 : u = .pv (.bool c)) : some (Blk.box [s, t, u]) = some (Blk.box [.pv (.bool a), .pv (.bool b), .pv (.bool c)]) := by rw [h1, h2, h3]
theorem seen_box {rule : List Int} {k : Nat} (h : TabOk rule 3) (hk : k < 36) :
    some (Blk.box ([SV.pv (.bool (seenB rule k 0)), SV.pv (.bool (seenB rule k 1)), SV.pv (.bool (seenB rule k 2))].set (0 + (rule.getD k 0).toNat * 1) (.pv (.bool true)))) =
      some (Blk.box [.pv (.bool (seenB rule (k + 1) 0)), .pv (.bool (seenB rule (k + 1) 1)), .pv (.bool (seenB rule (k + 1) 2))]) := by
  rw [seen_succ, seen_succ, seen_succ]
  have hv := rN_lt (n := 3) h hk
  have e : 0 + (rule.getD k 0).toNat * 1 = rN rule k := by unfold rN; omega
  rw [e]
  generalize rN rule k = v at hv
  match v, hv with
  | 0, _ => simp
  | 1, _ => simp
  | 2, _ => simp

theorem above_fcJ (kI xI yI : Int) (k x y : Nat) (h1 : kI = (k : Nat)) (h2 : xI = (x : Nat)) (h3 : yI = (y : Nat)) (hk : k < 6) : FC Try.prog 27 [.i kI, .i xI, .i yI] (.bool (abvN k x y)) := by
  subst h1 h2 h3
  exact above_fc k x y hk

theorem Onto_fc (rule : List Int) : FC Try.prog 16 [.ints rule] (.tup [.bool (if tabE rule 3 = 0 then (seenB rule 36 0 == true && seenB rule 36 1 == true && seenB rule 36 2 == true) else false), .i (tabE rule 3)]) := by
  refine FC.intro Try.func16 rfl (Nat.le_of_ble_eq_true rfl) fun hfit => ?_
  obtain ⟨fitl0, fitr0⟩ := (hfit _ (.head _)).ints
  refine awp_seq ?_
  refine awp_region rfl (.n (fun _ => op_assign (.plain rfl)) (.n (fun _ => op_assign (.plain rfl)) (.nil _))) ?_
  refine awp_seq ?_
  refine awp_seq ?_
  refine awp_region rfl (.n (fun _ => op_move (.plain rfl)) (.n (fun _ => op_call2 Try.call24 (.plain rfl) (.plain rfl) (table_fc _ _)) (.n (fun _ => op_assign (.plain rfl)) (.nil _)))) ?_
  refine awp_seq ?_
  refine awp_region rfl (.n (fun _ => op_move (.plain rfl)) (.n (fun _ => op_neq (.plain rfl) (.plain rfl)) (.nil _))) ?_
  refine awp_cond rfl (fun h => ?_) (fun h => ?_)
  · try simp only [decide_eq_true_eq, decide_eq_false_iff_not, Bool.and_eq_true, Bool.or_eq_true, Bool.and_eq_false_iff, Bool.or_eq_false_iff, Bool.not_eq_true', Bool.not_eq_false', Bool.not_eq_true, Bool.not_eq_false, Bool.true_eq_false, Bool.false_eq_true] at h
    simp only [if_neg h]
    refine awp_seq ?_
    refine awp_region rfl (.n (fun _ => op_move (.plain rfl)) (.n (fun _ => op_assign (.plain rfl)) (.n (fun _ => op_assign (.plain rfl)) (.nil _)))) ?_
    refine awp_ret ?_
    refine retQ.ret ?_
    refine ret2 rfl rfl rfl rfl rfl ?_
    rfl
  · try simp only [decide_eq_true_eq, decide_eq_false_iff_not, Bool.and_eq_true, Bool.or_eq_true, Bool.and_eq_false_iff, Bool.or_eq_false_iff, Bool.not_eq_true', Bool.not_eq_false', Bool.not_eq_true, Bool.not_eq_false, Bool.true_eq_false, Bool.false_eq_true] at h
    simp only [if_pos h]
    have hz := h
    have hok := TabOk.of h
    have hlen := hok.len
    refine awp_skip ?_
    refine awp_seq ?_
    refine awp_region rfl (.n (fun _ => op_buildA (pp := []) Try.underlying48 Try.zeroValue48 rfl Try.sizeOf4 trivial rfl) (.e (op_alloc 5 Try.zeroValue48 rfl rfl rfl) rfl (.e (op_storeRA Try.sizeOf48 (.plain rfl) (.plain rfl) rfl rfl (Nat.le_of_ble_eq_true rfl) rfl) rfl (.nil _)))) ?_
    refine awp_seq ?_
    refine awp_seq ?_
    refine awp_region rfl (.n (fun _ => op_move (.plain rfl)) (.n (fun _ => op_len (s := 0) Try.underlying22 (.plain rfl)) (.n (fun _ => op_move (.plain rfl)) (.nil _)))) ?_
    refine awp_block ?_
    refine awp_loop (σ := Nat) (fun (k : Nat) => k ≤ 36) (fun (k : Nat) => ⟨[(5, .ref 5 0), (14, .pv (.ints rule)), (15, .int (rule.length : Nat)), (16, .int (k : Nat))], [(5, .box [.pv (.bool (seenB rule k 0)), .pv (.bool (seenB rule k 1)), .pv (.bool (seenB rule k 2))])]⟩) (fun (k : Nat) => 36 - k) 0 ?_ (Ent.kept ⟨rfl, rfl, rfl, rfl, trivial⟩ ⟨rfl, trivial⟩) ?_
    · simp
    rintro k hp
    try dsimp only at hp
    refine awp_seq ?_
    refine awp_region rfl (.n (fun _ => op_lss (.plain rfl) (.plain rfl)) (.nil _)) ?_
    refine awp_seq ?_
    refine awp_cond rfl (fun h => ?_) (fun h => ?_)
    · try simp only [decide_eq_true_eq, decide_eq_false_iff_not, Bool.and_eq_true, Bool.or_eq_true, Bool.and_eq_false_iff, Bool.or_eq_false_iff, Bool.not_eq_true', Bool.not_eq_false', Bool.not_eq_true, Bool.not_eq_false, Bool.true_eq_false, Bool.false_eq_true] at h
      have hv := hok.val k (by omega)
      refine awp_skip ?_
      refine awp_seq ?_
      refine awp_block ?_
      refine awp_seq ?_
      refine awp_region rfl (.n (fun _ => op_indexAddrN Try.underlying22 Try.sizeOf3 (.plain rfl) (.plain rfl) (fun _ => rfl) ?_) (.n (fun _ => op_load Try.isAgg3 (.plain rfl)) (.n (fun _ => op_assign (.plain rfl)) (.nil _)))) ?_
      · omega
      refine awp_region rfl (.n (fun _ => op_move (.plain rfl)) (.n (fun _ => op_indexAddrA Try.underlying48 Try.sizeOf4 (.plain rfl) (.plain rfl) ?_) (.e (op_storeR Try.sizeOf4 (.plain rfl) (.plain rfl) rfl ?_ rfl (by simp) (by simp)) rfl (.nil _)))) ?_
      · omega
      · show 0 + (rule.getD k 0).toNat * 1 < 3
        omega
      refine awp_region rfl (.n (fun _ => op_add (.plain rfl) (.plain rfl) ?_) (.n (fun _ => op_move (.plain rfl)) (.nil _))) ?_
      · unfold InR; omega
      exact ⟨k + 1, by omega, by dsimp only; omega, (Ent.kept ⟨rfl, rfl, rfl, rfl, trivial⟩ ⟨(seen_box hok (by omega)), trivial⟩)⟩
    · try simp only [decide_eq_true_eq, decide_eq_false_iff_not, Bool.and_eq_true, Bool.or_eq_true, Bool.and_eq_false_iff, Bool.or_eq_false_iff, Bool.not_eq_true', Bool.not_eq_false', Bool.not_eq_true, Bool.not_eq_false, Bool.true_eq_false, Bool.false_eq_true] at h
      obtain rfl : k = 36 := by omega
      refine awp_exit ?_
      refine awp_seq ?_
      refine awp_region rfl (.r (op_loadRA Try.isAgg48 Try.sizeOf48 (.plain rfl) rfl (by simp) rfl) (.n (fun _ => op_buildA (pp := [(0, _), (1, _), (2, _)]) Try.underlying48 Try.zeroValue48 rfl Try.sizeOf4 ⟨rfl, (.plain rfl), (by simp), rfl, (.plain rfl), (by simp), rfl, (.plain rfl), (by simp), trivial⟩ rfl) (.n (fun _ => op_eq3b (i := Try.t4) Try.underlying48 (by kernel_rfl) (by kernel_rfl) Try.isAgg4 Try.underlying4 (by kernel_rfl) (.plain rfl) (.plain rfl)) (.n (fun _ => op_assign (.plain rfl)) (.n (fun _ => op_assign (.plain rfl)) (.nil _)))))) ?_
      refine awp_ret ?_
      refine retQ.ret ?_
      refine ret2 rfl rfl rfl rfl rfl ?_
      rw [hz]

theorem pays_fc (rule : List Int) (a b w s : Nat) (hok : TabOk rule 3) (ha : a < 6) (hb : b < 6) (hw : w < 2) (hs : s < 6) : FC Try.prog 29 [.ints rule, .agg [.i (a : Nat), .i (b : Nat), .i (w : Nat), .i (s : Nat)]] (.bool (payP rule a b w s)) := by
  refine FC.intro Try.func29 rfl (Nat.le_of_ble_eq_true rfl) fun hfit => ?_
  obtain ⟨fitl0, fitr0⟩ := (hfit _ (.head _)).ints
  have fit1 := hfit _ (.tail _ (.head _))
  have hlen := hok.len
  have hiy := idx6 a b
  have hy := rN_cast hok (show 6 * a + b < 36 by omega)
  rw [← hiy] at hy
  refine awp_seq ?_
  refine awp_region rfl (.n (fun _ => op_box (.plain rfl) (by simp)) (.n (fun _ => op_assign (.plain rfl)) (.nil _))) ?_
  refine awp_seq ?_
  refine awp_region_draw mixed rfl (.n (fun _ => op_fieldAddr Try.underlying51 rfl rfl Try.sizeOf3 (.plain rfl)) (.n (fun _ => op_load Try.isAgg3 (.plain rfl)) (.n (fun _ => op_fieldAddr Try.underlying51 rfl rfl Try.sizeOf3 (.plain rfl)) (.n (fun _ => op_load Try.isAgg3 (.plain rfl)) (.n (fun _ => op_mul (.plain rfl) (.plain rfl) ?_) (.n (fun _ => op_fieldAddr Try.underlying51 rfl rfl Try.sizeOf3 (.plain rfl)) (.n (fun _ => op_load Try.isAgg3 (.plain rfl)) (.n (fun _ => op_add (.plain rfl) (.plain rfl) ?_) (.n (fun _ => op_assign (.plain rfl)) (.n (fun _ => op_assign (.plain rfl)) (.nil _))))))))))) ?d1 ?_
  · unfold InR; omega
  · unfold InR; omega
  · kernel_rfl
  refine awp_seq ?_
  refine awp_seq ?_
  refine awp_region rfl (.n (fun _ => op_fieldAddr Try.underlying51 rfl rfl Try.sizeOf3 (.plain rfl)) (.n (fun _ => op_load Try.isAgg3 (.plain rfl)) (.n (fun _ => op_eql (.plain rfl) (.plain rfl)) (.nil _)))) ?_
  refine awp_cond rfl (fun h => ?_) (fun h => ?_)
  · try simp only [decide_eq_true_eq, decide_eq_false_iff_not, Bool.and_eq_true, Bool.or_eq_true, Bool.and_eq_false_iff, Bool.or_eq_false_iff, Bool.not_eq_true', Bool.not_eq_false', Bool.not_eq_true, Bool.not_eq_false, Bool.true_eq_false, Bool.false_eq_true] at h
    have hix := idx6 a s
    have hx := rN_cast hok (show 6 * a + s < 36 by omega)
    rw [← hix] at hx
    obtain ⟨o, ho⟩ : ∃ o : Nat, o = b := ⟨b, rfl⟩
    obtain ⟨q, hq⟩ : ∃ q : Nat, q = 6 * a + s := ⟨_, rfl⟩
    have hpp : payP rule a b w s = (!decide (rN rule q = rN rule (6 * a + b)) && abvN o (rN rule q) (rN rule (6 * a + b))) := by unfold payP; rw [if_pos (by omega), if_pos (by omega), ho, hq]
    refine awp_region_draw mixed rfl (.n (fun _ => op_fieldAddr Try.underlying51 rfl rfl Try.sizeOf3 (.plain rfl)) (.n (fun _ => op_load Try.isAgg3 (.plain rfl)) (.n (fun _ => op_fieldAddr Try.underlying51 rfl rfl Try.sizeOf3 (.plain rfl)) (.n (fun _ => op_load Try.isAgg3 (.plain rfl)) (.n (fun _ => op_mul (.plain rfl) (.plain rfl) ?_) (.n (fun _ => op_fieldAddr Try.underlying51 rfl rfl Try.sizeOf3 (.plain rfl)) (.n (fun _ => op_load Try.isAgg3 (.plain rfl)) (.n (fun _ => op_add (.plain rfl) (.plain rfl) ?_) (.n (fun _ => op_assign (.plain rfl)) (.n (fun _ => op_assign (.plain rfl)) (.nil _))))))))))) ?d2 ?_
    · unfold InR; omega
    · unfold InR; omega
    · kernel_rfl
    refine awp_seq ?_
    refine awp_region_draw mixed rfl (.n (fun _ => op_move (.plain rfl)) (.n (fun _ => op_move (.plain rfl)) (.n (fun _ => op_indexAddr Try.underlying22 Try.sizeOf3 (.plain rfl) (.plain rfl) (fun _ => rfl) ?_) (.n (fun _ => op_load Try.isAgg3 (.plain rfl)) (.n (fun _ => op_move (.plain rfl)) (.n (fun _ => op_fieldAddr Try.underlying51 rfl rfl Try.sizeOf3 (.plain rfl)) (.n (fun _ => op_load Try.isAgg3 (.plain rfl)) (.n (fun _ => op_mul (.plain rfl) (.plain rfl) ?_) (.n (fun _ => op_fieldAddr Try.underlying51 rfl rfl Try.sizeOf3 (.plain rfl)) (.n (fun _ => op_load Try.isAgg3 (.plain rfl)) (.n (fun _ => op_add (.plain rfl) (.plain rfl) ?_) (.n (fun _ => op_indexAddr Try.underlying22 Try.sizeOf3 (.plain rfl) (.plain rfl) (fun _ => rfl) ?_) (.n (fun _ => op_load Try.isAgg3 (.plain rfl)) (.n (fun _ => op_assign (.plain rfl)) (.n (fun _ => op_assign (.plain rfl)) (.nil _)))))))))))))))) ?d3 ?_
    · omega
    · unfold InR; omega
    · unfold InR; omega
    · omega
    · kernel_rfl
    refine awp_seq ?_
    refine awp_region rfl (.n (fun _ => op_move (.plain rfl)) (.n (fun _ => op_move (.plain rfl)) (.n (fun _ => op_neq (.plain rfl) (.plain rfl)) (.n (fun _ => op_move (.plain rfl)) (.gn rfl rfl (fun hg _ => op_move (.plain rfl)) (.gn rfl rfl (fun hg _ => op_move (.plain rfl)) (.gn rfl rfl (fun hg _ => op_move (.plain rfl)) (.gn rfl rfl (fun hg _ => op_call3 Try.call27 (.opt rfl fun h => h) (.opt rfl fun h => h) (.opt rfl fun h => h) (above_fcJ _ _ _ o (rN rule q) (rN rule (6 * a + b)) ?_ ?_ ?_ ?_)) (.n (fun _ => op_and (.plain rfl) (.plain rfl) (.plain rfl) (fun h => eqT h)) (.n (fun _ => op_assign (.plain rfl)) (.nil _))))))))))) ?_
    · try simp only [beq_iff_eq, beq_true, beq_false, Bool.and_eq_true, decide_eq_true_eq, decide_eq_false_iff_not, Bool.not_eq_true', Bool.or_eq_true, Bool.or_eq_false_iff] at hg
      rw [ho]
    · try simp only [beq_iff_eq, beq_true, beq_false, Bool.and_eq_true, decide_eq_true_eq, decide_eq_false_iff_not, Bool.not_eq_true', Bool.or_eq_true, Bool.or_eq_false_iff] at hg
      rw [hx, hix, hq]
    · try simp only [beq_iff_eq, beq_true, beq_false, Bool.and_eq_true, decide_eq_true_eq, decide_eq_false_iff_not, Bool.not_eq_true', Bool.or_eq_true, Bool.or_eq_false_iff] at hg
      rw [hy, hiy]
    · try simp only [beq_iff_eq, beq_true, beq_false, Bool.and_eq_true, decide_eq_true_eq, decide_eq_false_iff_not, Bool.not_eq_true', Bool.or_eq_true, Bool.or_eq_false_iff] at hg
      omega
    refine awp_ret ?_
    refine retQ.ret ?_
    refine ret1 rfl rfl rfl ?_
    rw [hpp, hx, hy, hix, hiy, dec_nat, hq]
  · try simp only [decide_eq_true_eq, decide_eq_false_iff_not, Bool.and_eq_true, Bool.or_eq_true, Bool.and_eq_false_iff, Bool.or_eq_false_iff, Bool.not_eq_true', Bool.not_eq_false', Bool.not_eq_true, Bool.not_eq_false, Bool.true_eq_false, Bool.false_eq_true] at h
    have hix := idx6 s b
    have hx := rN_cast hok (show 6 * s + b < 36 by omega)
    rw [← hix] at hx
    obtain ⟨o, ho⟩ : ∃ o : Nat, o = a := ⟨a, rfl⟩
    obtain ⟨q, hq⟩ : ∃ q : Nat, q = 6 * s + b := ⟨_, rfl⟩
    have hpp : payP rule a b w s = (!decide (rN rule q = rN rule (6 * a + b)) && abvN o (rN rule q) (rN rule (6 * a + b))) := by unfold payP; rw [if_neg (by omega), if_neg (by omega), ho, hq]
    refine awp_skip ?_
    refine awp_seq ?_
    refine awp_region_draw mixed rfl (.n (fun _ => op_move (.plain rfl)) (.n (fun _ => op_move (.plain rfl)) (.n (fun _ => op_indexAddr Try.underlying22 Try.sizeOf3 (.plain rfl) (.plain rfl) (fun _ => rfl) ?_) (.n (fun _ => op_load Try.isAgg3 (.plain rfl)) (.n (fun _ => op_move (.plain rfl)) (.n (fun _ => op_fieldAddr Try.underlying51 rfl rfl Try.sizeOf3 (.plain rfl)) (.n (fun _ => op_load Try.isAgg3 (.plain rfl)) (.n (fun _ => op_mul (.plain rfl) (.plain rfl) ?_) (.n (fun _ => op_fieldAddr Try.underlying51 rfl rfl Try.sizeOf3 (.plain rfl)) (.n (fun _ => op_load Try.isAgg3 (.plain rfl)) (.n (fun _ => op_add (.plain rfl) (.plain rfl) ?_) (.n (fun _ => op_indexAddr Try.underlying22 Try.sizeOf3 (.plain rfl) (.plain rfl) (fun _ => rfl) ?_) (.n (fun _ => op_load Try.isAgg3 (.plain rfl)) (.n (fun _ => op_assign (.plain rfl)) (.n (fun _ => op_assign (.plain rfl)) (.nil _)))))))))))))))) ?d4 ?_
    · omega
    · unfold InR; omega
    · unfold InR; omega
    · omega
    · kernel_rfl
    refine awp_seq ?_
    refine awp_region rfl (.n (fun _ => op_move (.plain rfl)) (.n (fun _ => op_move (.plain rfl)) (.n (fun _ => op_neq (.plain rfl) (.plain rfl)) (.n (fun _ => op_move (.plain rfl)) (.gn rfl rfl (fun hg _ => op_move (.plain rfl)) (.gn rfl rfl (fun hg _ => op_move (.plain rfl)) (.gn rfl rfl (fun hg _ => op_move (.plain rfl)) (.gn rfl rfl (fun hg _ => op_call3 Try.call27 (.opt rfl fun h => h) (.opt rfl fun h => h) (.opt rfl fun h => h) (above_fcJ _ _ _ o (rN rule q) (rN rule (6 * a + b)) ?_ ?_ ?_ ?_)) (.n (fun _ => op_and (.plain rfl) (.plain rfl) (.plain rfl) (fun h => eqT h)) (.n (fun _ => op_assign (.plain rfl)) (.nil _))))))))))) ?_
    · try simp only [beq_iff_eq, beq_true, beq_false, Bool.and_eq_true, decide_eq_true_eq, decide_eq_false_iff_not, Bool.not_eq_true', Bool.or_eq_true, Bool.or_eq_false_iff] at hg
      rw [ho]
    · try simp only [beq_iff_eq, beq_true, beq_false, Bool.and_eq_true, decide_eq_true_eq, decide_eq_false_iff_not, Bool.not_eq_true', Bool.or_eq_true, Bool.or_eq_false_iff] at hg
      rw [hx, hix, hq]
    · try simp only [beq_iff_eq, beq_true, beq_false, Bool.and_eq_true, decide_eq_true_eq, decide_eq_false_iff_not, Bool.not_eq_true', Bool.or_eq_true, Bool.or_eq_false_iff] at hg
      rw [hy, hiy]
    · try simp only [beq_iff_eq, beq_true, beq_false, Bool.and_eq_true, decide_eq_true_eq, decide_eq_false_iff_not, Bool.not_eq_true', Bool.or_eq_true, Bool.or_eq_false_iff] at hg
      omega
    refine awp_ret ?_
    refine retQ.ret ?_
    refine ret1 rfl rfl rfl ?_
    rw [hpp, hx, hy, hix, hiy, dec_nat, hq]

theorem Honest_fc (rule : List Int) : FC Try.prog 17 [.ints rule] (.tup [.bool (hOk rule), .i (hV rule (fun n => n / 72) : Nat), .i (hV rule (fun n => n / 12 % 6) : Nat), .i (hV rule (fun n => n / 6 % 2) : Nat), .i (hV rule (fun n => n % 6) : Nat), .i (tabE rule 3)]) := by
  refine FC.intro Try.func17 rfl (Nat.le_of_ble_eq_true rfl) fun hfit => ?_
  obtain ⟨fitl0, fitr0⟩ := (hfit _ (.head _)).ints
  refine awp_seq ?_
  refine awp_region rfl (.n (fun _ => op_assign (.plain rfl)) (.n (fun _ => op_assign (.plain rfl)) (.n (fun _ => op_assign (.plain rfl)) (.n (fun _ => op_assign (.plain rfl)) (.n (fun _ => op_assign (.plain rfl)) (.n (fun _ => op_assign (.plain rfl)) (.nil _))))))) ?_
  refine awp_seq ?_
  refine awp_seq ?_
  refine awp_region rfl (.n (fun _ => op_move (.plain rfl)) (.n (fun _ => op_call2 Try.call24 (.plain rfl) (.plain rfl) (table_fc _ _)) (.n (fun _ => op_assign (.plain rfl)) (.nil _)))) ?_
  refine awp_seq ?_
  refine awp_region rfl (.n (fun _ => op_move (.plain rfl)) (.n (fun _ => op_neq (.plain rfl) (.plain rfl)) (.nil _))) ?_
  refine awp_cond rfl (fun h => ?_) (fun h => ?_)
  · try simp only [decide_eq_true_eq, decide_eq_false_iff_not, Bool.and_eq_true, Bool.or_eq_true, Bool.and_eq_false_iff, Bool.or_eq_false_iff, Bool.not_eq_true', Bool.not_eq_false', Bool.not_eq_true, Bool.not_eq_false, Bool.true_eq_false, Bool.false_eq_true] at h
    unfold hOk hV
    simp only [if_neg h]
    refine awp_seq ?_
    refine awp_region rfl (.n (fun _ => op_move (.plain rfl)) (.n (fun _ => op_assign (.plain rfl)) (.n (fun _ => op_assign (.plain rfl)) (.n (fun _ => op_assign (.plain rfl)) (.n (fun _ => op_assign (.plain rfl)) (.n (fun _ => op_assign (.plain rfl)) (.n (fun _ => op_assign (.plain rfl)) (.nil _)))))))) ?_
    refine awp_ret ?_
    refine retQ.ret ?_
    refine ret6 rfl rfl rfl rfl rfl rfl rfl rfl rfl rfl rfl rfl rfl ?_
    rfl
  · try simp only [decide_eq_true_eq, decide_eq_false_iff_not, Bool.and_eq_true, Bool.or_eq_true, Bool.and_eq_false_iff, Bool.or_eq_false_iff, Bool.not_eq_true', Bool.not_eq_false', Bool.not_eq_true, Bool.not_eq_false, Bool.true_eq_false, Bool.false_eq_true] at h
    have hz := h
    have hok := TabOk.of h
    have hlen := hok.len
    refine awp_skip ?_
    refine awp_seq ?_
    refine awp_seq ?_
    refine awp_region rfl (.n (fun _ => op_move (.plain rfl)) (.nil _)) ?_
    refine awp_block ?_
    refine awp_loop (σ := Nat) (fun (a : Nat) => a ≤ 6 ∧ firstI (honP rule) (72 * a) = none) (fun (a : Nat) => ⟨[(0, .pv (.ints rule)), (18, .int (a : Nat))], []⟩) (fun (a : Nat) => 6 - a) 0 ?_ (Ent.kept ⟨rfl, rfl, trivial⟩ trivial) ?_
    · exact ⟨Nat.zero_le _, rfl⟩
    rintro a hp
    try dsimp only at hp
    obtain ⟨ha, hpa⟩ := hp
    refine awp_seq ?_
    refine awp_region rfl (.n (fun _ => op_lss (.plain rfl) (.plain rfl)) (.nil _)) ?_
    refine awp_seq ?_
    refine awp_cond rfl (fun h => ?_) (fun h => ?_)
    · try simp only [decide_eq_true_eq, decide_eq_false_iff_not, Bool.and_eq_true, Bool.or_eq_true, Bool.and_eq_false_iff, Bool.or_eq_false_iff, Bool.not_eq_true', Bool.not_eq_false', Bool.not_eq_true, Bool.not_eq_false, Bool.true_eq_false, Bool.false_eq_true] at h
      refine awp_skip ?_
      refine awp_seq ?_
      refine awp_block ?_
      refine awp_seq ?_
      refine awp_region rfl (.n (fun _ => op_move (.plain rfl)) (.n (fun _ => op_assign (.plain rfl)) (.nil _))) ?_
      refine awp_seq ?_
      refine awp_region rfl (.n (fun _ => op_move (.plain rfl)) (.nil _)) ?_
      refine awp_block ?_
      refine awp_loop (σ := Nat) (fun (b : Nat) => b ≤ 6 ∧ firstI (honP rule) (72 * a + 12 * b) = none) (fun (b : Nat) => ⟨[(0, .pv (.ints rule)), (18, .int (a : Nat)), (9, .int (a : Nat)), (21, .int (b : Nat))], []⟩) (fun (b : Nat) => 6 - b) 0 ?_ (Ent.kept ⟨rfl, rfl, rfl, rfl, trivial⟩ trivial) ?_
      · exact ⟨Nat.zero_le _, hpa⟩
      rintro b hp
      try dsimp only at hp
      obtain ⟨hb, hpb⟩ := hp
      refine awp_seq ?_
      refine awp_region rfl (.n (fun _ => op_lss (.plain rfl) (.plain rfl)) (.nil _)) ?_
      refine awp_seq ?_
      refine awp_cond rfl (fun h => ?_) (fun h => ?_)
      · try simp only [decide_eq_true_eq, decide_eq_false_iff_not, Bool.and_eq_true, Bool.or_eq_true, Bool.and_eq_false_iff, Bool.or_eq_false_iff, Bool.not_eq_true', Bool.not_eq_false', Bool.not_eq_true, Bool.not_eq_false, Bool.true_eq_false, Bool.false_eq_true] at h
        refine awp_skip ?_
        refine awp_seq ?_
        refine awp_block ?_
        refine awp_seq ?_
        refine awp_region rfl (.n (fun _ => op_move (.plain rfl)) (.n (fun _ => op_assign (.plain rfl)) (.nil _))) ?_
        refine awp_seq ?_
        refine awp_region rfl (.n (fun _ => op_move (.plain rfl)) (.nil _)) ?_
        refine awp_block ?_
        refine awp_loop (σ := Nat) (fun (w : Nat) => w ≤ 2 ∧ firstI (honP rule) (72 * a + 12 * b + 6 * w) = none) (fun (w : Nat) => ⟨[(0, .pv (.ints rule)), (18, .int (a : Nat)), (9, .int (a : Nat)), (21, .int (b : Nat)), (10, .int (b : Nat)), (24, .int (w : Nat))], []⟩) (fun (w : Nat) => 2 - w) 0 ?_ (Ent.kept ⟨rfl, rfl, rfl, rfl, rfl, rfl, trivial⟩ trivial) ?_
        · exact ⟨Nat.zero_le _, hpb⟩
        rintro w hp
        try dsimp only at hp
        obtain ⟨hw, hpw⟩ := hp
        refine awp_seq ?_
        refine awp_region rfl (.n (fun _ => op_lss (.plain rfl) (.plain rfl)) (.nil _)) ?_
        refine awp_seq ?_
        refine awp_cond rfl (fun h => ?_) (fun h => ?_)
        · try simp only [decide_eq_true_eq, decide_eq_false_iff_not, Bool.and_eq_true, Bool.or_eq_true, Bool.and_eq_false_iff, Bool.or_eq_false_iff, Bool.not_eq_true', Bool.not_eq_false', Bool.not_eq_true, Bool.not_eq_false, Bool.true_eq_false, Bool.false_eq_true] at h
          refine awp_skip ?_
          refine awp_seq ?_
          refine awp_block ?_
          refine awp_seq ?_
          refine awp_region rfl (.n (fun _ => op_move (.plain rfl)) (.n (fun _ => op_assign (.plain rfl)) (.nil _))) ?_
          refine awp_seq ?_
          refine awp_region rfl (.n (fun _ => op_move (.plain rfl)) (.nil _)) ?_
          refine awp_block ?_
          refine awp_loop (σ := Nat) (fun (s : Nat) => s ≤ 6 ∧ firstI (honP rule) (72 * a + 12 * b + 6 * w + s) = none) (fun (s : Nat) => ⟨[(0, .pv (.ints rule)), (18, .int (a : Nat)), (9, .int (a : Nat)), (21, .int (b : Nat)), (10, .int (b : Nat)), (24, .int (w : Nat)), (11, .int (w : Nat)), (27, .int (s : Nat))], []⟩) (fun (s : Nat) => 6 - s) 0 ?_ (Ent.kept ⟨rfl, rfl, rfl, rfl, rfl, rfl, rfl, rfl, trivial⟩ trivial) ?_
          · exact ⟨Nat.zero_le _, hpw⟩
          rintro s hp
          try dsimp only at hp
          obtain ⟨hs, hps⟩ := hp
          refine awp_seq ?_
          refine awp_region rfl (.n (fun _ => op_lss (.plain rfl) (.plain rfl)) (.nil _)) ?_
          refine awp_seq ?_
          refine awp_cond rfl (fun h => ?_) (fun h => ?_)
          · try simp only [decide_eq_true_eq, decide_eq_false_iff_not, Bool.and_eq_true, Bool.or_eq_true, Bool.and_eq_false_iff, Bool.or_eq_false_iff, Bool.not_eq_true', Bool.not_eq_false', Bool.not_eq_true, Bool.not_eq_false, Bool.true_eq_false, Bool.false_eq_true] at h
            refine awp_skip ?_
            refine awp_seq ?_
            refine awp_block ?_
            refine awp_seq ?_
            refine awp_region rfl (.n (fun _ => op_move (.plain rfl)) (.n (fun _ => op_assign (.plain rfl)) (.nil _))) ?_
            refine awp_seq ?_
            refine awp_region rfl (.n (fun _ => op_move (.plain rfl)) (.n (fun _ => op_move (.plain rfl)) (.n (fun _ => op_move (.plain rfl)) (.n (fun _ => op_move (.plain rfl)) (.n (fun _ => op_move (.plain rfl)) (.n (fun _ => op_build (pp := [(0, _), (1, _), (2, _), (3, _)]) (places := #[(0, 1), (1, 1), (2, 1), (3, 1)]) Try.underlying51 Try.zeroValue51 rfl (by intro w; kernel_rfl) ⟨rfl, (.plain rfl), (by simp), rfl, (.plain rfl), (by simp), rfl, (.plain rfl), (by simp), rfl, (.plain rfl), (by simp), trivial⟩ rfl) (.n (fun _ => op_call2 Try.call29 (.plain rfl) (.plain rfl) (pays_fc _ _ _ _ _ ?_ ?_ ?_ ?_ ?_)) (.nil _)))))))) ?_
            · assumption
            · omega
            · omega
            · omega
            · omega
            refine awp_cond rfl (fun h => ?_) (fun h => ?_)
            · try simp only [decide_eq_true_eq, decide_eq_false_iff_not, Bool.and_eq_true, Bool.or_eq_true, Bool.and_eq_false_iff, Bool.or_eq_false_iff, Bool.not_eq_true', Bool.not_eq_false', Bool.not_eq_true, Bool.not_eq_false, Bool.true_eq_false, Bool.false_eq_true] at h
              refine awp_seq ?_
              refine awp_region rfl (.n (fun _ => op_move (.plain rfl)) (.n (fun _ => op_move (.plain rfl)) (.n (fun _ => op_move (.plain rfl)) (.n (fun _ => op_move (.plain rfl)) (.n (fun _ => op_assign (.plain rfl)) (.n (fun _ => op_assign (.plain rfl)) (.n (fun _ => op_assign (.plain rfl)) (.n (fun _ => op_assign (.plain rfl)) (.n (fun _ => op_assign (.plain rfl)) (.n (fun _ => op_assign (.plain rfl)) (.nil _))))))))))) ?_
              refine awp_ret ?_
              refine retQ.ret ?_
              refine ret6 rfl rfl rfl rfl rfl rfl rfl rfl rfl rfl rfl rfl rfl ?_
              have hst : honO rule = some (72 * a + 12 * b + 6 * w + s) := firstI_stop hps (by rw [honP_at (by omega) (by omega) (by omega)]; exact h) (by omega)
              unfold hOk hV
              rw [hz, hst]
              simp only [if_pos, Option.isNone_some]
              rw [show (72 * a + 12 * b + 6 * w + s) / 72 = a by omega, show (72 * a + 12 * b + 6 * w + s) / 12 % 6 = b by omega, show (72 * a + 12 * b + 6 * w + s) / 6 % 2 = w by omega, show (72 * a + 12 * b + 6 * w + s) % 6 = s by omega]
            · try simp only [decide_eq_true_eq, decide_eq_false_iff_not, Bool.and_eq_true, Bool.or_eq_true, Bool.and_eq_false_iff, Bool.or_eq_false_iff, Bool.not_eq_true', Bool.not_eq_false', Bool.not_eq_true, Bool.not_eq_false, Bool.true_eq_false, Bool.false_eq_true] at h
              refine awp_skip ?_
              refine awp_region rfl (.n (fun _ => op_add (.plain rfl) (.plain rfl) ?_) (.n (fun _ => op_move (.plain rfl)) (.nil _))) ?_
              · unfold InR; omega
              exact ⟨s + 1, ⟨by omega, firstI_succ hps ((honP_at (a := a) (b := b) (w := w) (s := s) (by omega) (by omega) (by omega)).trans h)⟩, by dsimp only; omega, (Ent.kept ⟨rfl, rfl, rfl, rfl, rfl, rfl, rfl, rfl, trivial⟩ trivial)⟩
          · try simp only [decide_eq_true_eq, decide_eq_false_iff_not, Bool.and_eq_true, Bool.or_eq_true, Bool.and_eq_false_iff, Bool.or_eq_false_iff, Bool.not_eq_true', Bool.not_eq_false', Bool.not_eq_true, Bool.not_eq_false, Bool.true_eq_false, Bool.false_eq_true] at h
            obtain rfl : s = 6 := by omega
            refine awp_exit ?_
            refine awp_region rfl (.n (fun _ => op_add (.plain rfl) (.plain rfl) ?_) (.n (fun _ => op_move (.plain rfl)) (.nil _))) ?_
            · unfold InR; omega
            exact ⟨w + 1, ⟨by omega, by rw [show 72 * a + 12 * b + 6 * (w + 1) = 72 * a + 12 * b + 6 * w + 6 by omega]; exact hps⟩, by dsimp only; omega, (Ent.kept ⟨rfl, rfl, rfl, rfl, rfl, rfl, trivial⟩ trivial)⟩
        · try simp only [decide_eq_true_eq, decide_eq_false_iff_not, Bool.and_eq_true, Bool.or_eq_true, Bool.and_eq_false_iff, Bool.or_eq_false_iff, Bool.not_eq_true', Bool.not_eq_false', Bool.not_eq_true, Bool.not_eq_false, Bool.true_eq_false, Bool.false_eq_true] at h
          obtain rfl : w = 2 := by omega
          refine awp_exit ?_
          refine awp_region rfl (.n (fun _ => op_add (.plain rfl) (.plain rfl) ?_) (.n (fun _ => op_move (.plain rfl)) (.nil _))) ?_
          · unfold InR; omega
          exact ⟨b + 1, ⟨by omega, by rw [show 72 * a + 12 * (b + 1) = 72 * a + 12 * b + 6 * 2 by omega]; exact hpw⟩, by dsimp only; omega, (Ent.kept ⟨rfl, rfl, rfl, rfl, trivial⟩ trivial)⟩
      · try simp only [decide_eq_true_eq, decide_eq_false_iff_not, Bool.and_eq_true, Bool.or_eq_true, Bool.and_eq_false_iff, Bool.or_eq_false_iff, Bool.not_eq_true', Bool.not_eq_false', Bool.not_eq_true, Bool.not_eq_false, Bool.true_eq_false, Bool.false_eq_true] at h
        obtain rfl : b = 6 := by omega
        refine awp_exit ?_
        refine awp_region rfl (.n (fun _ => op_add (.plain rfl) (.plain rfl) ?_) (.n (fun _ => op_move (.plain rfl)) (.nil _))) ?_
        · unfold InR; omega
        exact ⟨a + 1, ⟨by omega, by rw [show 72 * (a + 1) = 72 * a + 12 * 6 by omega]; exact hpb⟩, by dsimp only; omega, (Ent.kept ⟨rfl, rfl, trivial⟩ trivial)⟩
    · try simp only [decide_eq_true_eq, decide_eq_false_iff_not, Bool.and_eq_true, Bool.or_eq_true, Bool.and_eq_false_iff, Bool.or_eq_false_iff, Bool.not_eq_true', Bool.not_eq_false', Bool.not_eq_true, Bool.not_eq_false, Bool.true_eq_false, Bool.false_eq_true] at h
      obtain rfl : a = 6 := by omega
      refine awp_exit ?_
      refine awp_seq ?_
      refine awp_region rfl (.n (fun _ => op_assign (.plain rfl)) (.n (fun _ => op_assign (.plain rfl)) (.n (fun _ => op_assign (.plain rfl)) (.n (fun _ => op_assign (.plain rfl)) (.n (fun _ => op_assign (.plain rfl)) (.n (fun _ => op_assign (.plain rfl)) (.nil _))))))) ?_
      refine awp_ret ?_
      refine retQ.ret ?_
      refine ret6 rfl rfl rfl rfl rfl rfl rfl rfl rfl rfl rfl rfl rfl ?_
      have hst : honO rule = none := hpa
      unfold hOk hV
      rw [hz, hst]
      rfl

theorem Choosers_fc (rule : List Int) : FC Try.prog 18 [.ints rule] (.tup [.agg [.bool (if tabE rule 3 = 0 then allTo (cho0 rule) 36 else false), .bool (if tabE rule 3 = 0 then allTo (cho1 rule) 36 else false)], .i (tabE rule 3)]) := by
  refine FC.intro Try.func18 rfl (Nat.le_of_ble_eq_true rfl) fun hfit => ?_
  obtain ⟨fitl0, fitr0⟩ := (hfit _ (.head _)).ints
  refine awp_seq ?_
  refine awp_region rfl (.e (op_alloc 2 Try.zeroValue34 rfl rfl rfl) rfl (.n (fun _ => op_assign (.plain rfl)) (.nil _))) ?_
  refine awp_seq ?_
  refine awp_seq ?_
  refine awp_region rfl (.n (fun _ => op_move (.plain rfl)) (.n (fun _ => op_call2 Try.call24 (.plain rfl) (.plain rfl) (table_fc _ _)) (.n (fun _ => op_assign (.plain rfl)) (.nil _)))) ?_
  refine awp_seq ?_
  refine awp_region rfl (.n (fun _ => op_move (.plain rfl)) (.n (fun _ => op_neq (.plain rfl) (.plain rfl)) (.nil _))) ?_
  refine awp_cond rfl (fun h => ?_) (fun h => ?_)
  · try simp only [decide_eq_true_eq, decide_eq_false_iff_not, Bool.and_eq_true, Bool.or_eq_true, Bool.and_eq_false_iff, Bool.or_eq_false_iff, Bool.not_eq_true', Bool.not_eq_false', Bool.not_eq_true, Bool.not_eq_false, Bool.true_eq_false, Bool.false_eq_true] at h
    simp only [if_neg h]
    refine awp_seq ?_
    refine awp_region rfl (.n (fun _ => op_buildA (pp := []) Try.underlying34 Try.zeroValue34 rfl Try.sizeOf4 trivial rfl) (.n (fun _ => op_move (.plain rfl)) (.e (op_storeRA Try.sizeOf34 (.plain rfl) (.plain rfl) rfl rfl (Nat.le_of_ble_eq_true rfl) rfl) rfl (.n (fun _ => op_assign (.plain rfl)) (.nil _))))) ?_
    refine awp_ret ?_
    refine retQ.ret ?_
    refine retC1 rfl rfl Try.isAgg34 Try.sizeOf34 rfl rfl ?_
    rfl
  · try simp only [decide_eq_true_eq, decide_eq_false_iff_not, Bool.and_eq_true, Bool.or_eq_true, Bool.and_eq_false_iff, Bool.or_eq_false_iff, Bool.not_eq_true', Bool.not_eq_false', Bool.not_eq_true, Bool.not_eq_false, Bool.true_eq_false, Bool.false_eq_true] at h
    simp only [if_pos h]
    have hz := h
    have hok := TabOk.of h
    have hlen := hok.len
    refine awp_skip ?_
    refine awp_seq ?_
    refine awp_region rfl (.n (fun _ => op_buildA (pp := [(0, _), (1, _)]) Try.underlying34 Try.zeroValue34 rfl Try.sizeOf4 ⟨rfl, (.plain rfl), (by simp), rfl, (.plain rfl), (by simp), trivial⟩ rfl) (.e (op_alloc 5 Try.zeroValue34 rfl rfl rfl) rfl (.e (op_storeRA Try.sizeOf34 (.plain rfl) (.plain rfl) rfl rfl (Nat.le_of_ble_eq_true rfl) rfl) rfl (.nil _)))) ?_
    refine awp_seq ?_
    refine awp_seq ?_
    refine awp_region rfl (.n (fun _ => op_move (.plain rfl)) (.nil _)) ?_
    refine awp_block ?_
    refine awp_loop (σ := Nat) (fun (a : Nat) => a ≤ 6) (fun (a : Nat) => ⟨[(0, .pv (.ints rule)), (2, .ref 2 0), (5, .ref 5 0), (17, .int (a : Nat))], [(2, .box [.pv (.bool false), .pv (.bool false)]), (5, .box [.pv (.bool (allTo (cho0 rule) (6 * a))), .pv (.bool (allTo (cho1 rule) (6 * a)))])]⟩) (fun (a : Nat) => 6 - a) 0 ?_ (Ent.kept ⟨rfl, rfl, rfl, rfl, trivial⟩ ⟨rfl, rfl, trivial⟩) ?_
    · simp
    rintro a hp
    try dsimp only at hp
    refine awp_seq ?_
    refine awp_region rfl (.n (fun _ => op_lss (.plain rfl) (.plain rfl)) (.nil _)) ?_
    refine awp_seq ?_
    refine awp_cond rfl (fun h => ?_) (fun h => ?_)
    · try simp only [decide_eq_true_eq, decide_eq_false_iff_not, Bool.and_eq_true, Bool.or_eq_true, Bool.and_eq_false_iff, Bool.or_eq_false_iff, Bool.not_eq_true', Bool.not_eq_false', Bool.not_eq_true, Bool.not_eq_false, Bool.true_eq_false, Bool.false_eq_true] at h
      refine awp_skip ?_
      refine awp_seq ?_
      refine awp_block ?_
      refine awp_seq ?_
      refine awp_region rfl (.n (fun _ => op_move (.plain rfl)) (.n (fun _ => op_assign (.plain rfl)) (.nil _))) ?_
      refine awp_seq ?_
      refine awp_region rfl (.n (fun _ => op_move (.plain rfl)) (.nil _)) ?_
      refine awp_block ?_
      refine awp_loop (σ := Nat) (fun (b : Nat) => b ≤ 6) (fun (b : Nat) => ⟨[(0, .pv (.ints rule)), (2, .ref 2 0), (5, .ref 5 0), (17, .int (a : Nat)), (6, .int (a : Nat)), (20, .int (b : Nat))], [(2, .box [.pv (.bool false), .pv (.bool false)]), (5, .box [.pv (.bool (allTo (cho0 rule) (6 * a + b))), .pv (.bool (allTo (cho1 rule) (6 * a + b)))])]⟩) (fun (b : Nat) => 6 - b) 0 ?_ (Ent.kept ⟨rfl, rfl, rfl, rfl, rfl, rfl, trivial⟩ ⟨rfl, rfl, trivial⟩) ?_
      · simp
      rintro b hp
      try dsimp only at hp
      refine awp_seq ?_
      refine awp_region rfl (.n (fun _ => op_lss (.plain rfl) (.plain rfl)) (.nil _)) ?_
      refine awp_seq ?_
      refine awp_cond rfl (fun h => ?_) (fun h => ?_)
      · try simp only [decide_eq_true_eq, decide_eq_false_iff_not, Bool.and_eq_true, Bool.or_eq_true, Bool.and_eq_false_iff, Bool.or_eq_false_iff, Bool.not_eq_true', Bool.not_eq_false', Bool.not_eq_true, Bool.not_eq_false, Bool.true_eq_false, Bool.false_eq_true] at h
        refine awp_skip ?_
        refine awp_seq ?_
        refine awp_block ?_
        refine awp_seq ?_
        refine awp_region rfl (.n (fun _ => op_move (.plain rfl)) (.n (fun _ => op_assign (.plain rfl)) (.nil _))) ?_
        refine awp_seq ?_
        refine awp_region rfl (.n (fun _ => op_move (.plain rfl)) (.n (fun _ => op_quo (.plain rfl) (.plain rfl) ?_) (.n (fun _ => op_move (.plain rfl)) (.n (fun _ => op_quo (.plain rfl) (.plain rfl) ?_) (.n (fun _ => op_assign (.plain rfl)) (.n (fun _ => op_assign (.plain rfl)) (.nil _))))))) ?_
        · omega
        · omega
        refine awp_seq ?_
        refine awp_region rfl (.n (fun _ => op_indexAddrA Try.underlying34 Try.sizeOf4 (.plain rfl) (.plain rfl) ?_) (.r (op_loadR Try.isAgg4 (.plain rfl) rfl rfl) (.n (fun _ => op_move (.plain rfl)) (.gn rfl rfl (fun hg _ => op_move (.plain rfl)) (.gn rfl rfl (fun hg _ => op_move (.plain rfl)) (.gn rfl rfl (fun hg _ => op_mul (.plain rfl) (.opt rfl fun h => h) ?_) (.gn rfl rfl (fun hg _ => op_move (.plain rfl)) (.gn rfl rfl (fun hg _ => op_add (.opt rfl fun h => h) (.opt rfl fun h => h) ?_) (.gn rfl rfl (fun hg _ => op_indexAddr Try.underlying22 Try.sizeOf3 (.opt rfl fun h => h) (.opt rfl fun h => h) (fun _ => rfl) ?_) (.gn rfl rfl (fun hg _ => op_load Try.isAgg3 (.opt rfl fun h => h)) (.gn rfl rfl (fun hg _ => op_move (.plain rfl)) (.gn rfl rfl (fun hg _ => op_eql (.opt rfl fun h => h) (.opt rfl fun h => h)) (.n (fun _ => op_and (.plain rfl) (.plain rfl) (.plain rfl) (fun h => eqT h)) (.n (fun _ => op_indexAddrA Try.underlying34 Try.sizeOf4 (.plain rfl) (.plain rfl) ?_) (.e (op_storeR Try.sizeOf4 (.plain rfl) (.plain rfl) rfl (by first | decide | exact Nat.le_of_ble_eq_true rfl) rfl (by simp) (by simp)) rfl (.nil _)))))))))))))))) ?_
        · omega
        · try simp only [beq_iff_eq, beq_true, beq_false, Bool.and_eq_true, decide_eq_true_eq, decide_eq_false_iff_not, Bool.not_eq_true', Bool.or_eq_true, Bool.or_eq_false_iff] at hg
          unfold InR; omega
        · try simp only [beq_iff_eq, beq_true, beq_false, Bool.and_eq_true, decide_eq_true_eq, decide_eq_false_iff_not, Bool.not_eq_true', Bool.or_eq_true, Bool.or_eq_false_iff] at hg
          unfold InR; omega
        · try simp only [beq_iff_eq, beq_true, beq_false, Bool.and_eq_true, decide_eq_true_eq, decide_eq_false_iff_not, Bool.not_eq_true', Bool.or_eq_true, Bool.or_eq_false_iff] at hg
          omega
        · omega
        refine awp_region rfl (.n (fun _ => op_indexAddrA Try.underlying34 Try.sizeOf4 (.plain rfl) (.plain rfl) ?_) (.r (op_loadR Try.isAgg4 (.plain rfl) rfl rfl) (.n (fun _ => op_move (.plain rfl)) (.gn rfl rfl (fun hg _ => op_move (.plain rfl)) (.gn rfl rfl (fun hg _ => op_move (.plain rfl)) (.gn rfl rfl (fun hg _ => op_mul (.plain rfl) (.opt rfl fun h => h) ?_) (.gn rfl rfl (fun hg _ => op_move (.plain rfl)) (.gn rfl rfl (fun hg _ => op_add (.opt rfl fun h => h) (.opt rfl fun h => h) ?_) (.gn rfl rfl (fun hg _ => op_indexAddr Try.underlying22 Try.sizeOf3 (.opt rfl fun h => h) (.opt rfl fun h => h) (fun _ => rfl) ?_) (.gn rfl rfl (fun hg _ => op_load Try.isAgg3 (.opt rfl fun h => h)) (.gn rfl rfl (fun hg _ => op_move (.plain rfl)) (.gn rfl rfl (fun hg _ => op_eql (.opt rfl fun h => h) (.opt rfl fun h => h)) (.n (fun _ => op_and (.plain rfl) (.plain rfl) (.plain rfl) (fun h => eqT h)) (.n (fun _ => op_indexAddrA Try.underlying34 Try.sizeOf4 (.plain rfl) (.plain rfl) ?_) (.e (op_storeR Try.sizeOf4 (.plain rfl) (.plain rfl) rfl (by first | decide | exact Nat.le_of_ble_eq_true rfl) rfl (by simp) (by simp)) rfl (.nil _)))))))))))))))) ?_
        · omega
        · try simp only [beq_iff_eq, beq_true, beq_false, Bool.and_eq_true, decide_eq_true_eq, decide_eq_false_iff_not, Bool.not_eq_true', Bool.or_eq_true, Bool.or_eq_false_iff] at hg
          unfold InR; omega
        · try simp only [beq_iff_eq, beq_true, beq_false, Bool.and_eq_true, decide_eq_true_eq, decide_eq_false_iff_not, Bool.not_eq_true', Bool.or_eq_true, Bool.or_eq_false_iff] at hg
          unfold InR; omega
        · try simp only [beq_iff_eq, beq_true, beq_false, Bool.and_eq_true, decide_eq_true_eq, decide_eq_false_iff_not, Bool.not_eq_true', Bool.or_eq_true, Bool.or_eq_false_iff] at hg
          omega
        · omega
        refine awp_region rfl (.n (fun _ => op_add (.plain rfl) (.plain rfl) ?_) (.n (fun _ => op_move (.plain rfl)) (.nil _))) ?_
        · unfold InR; omega
        exact ⟨b + 1, by omega, by dsimp only; omega, (Ent.kept ⟨rfl, rfl, rfl, rfl, rfl, rfl, trivial⟩ ⟨rfl, (box2 (cho_step (by omega)) (cho_step1 (by omega))), trivial⟩)⟩
      · try simp only [decide_eq_true_eq, decide_eq_false_iff_not, Bool.and_eq_true, Bool.or_eq_true, Bool.and_eq_false_iff, Bool.or_eq_false_iff, Bool.not_eq_true', Bool.not_eq_false', Bool.not_eq_true, Bool.not_eq_false, Bool.true_eq_false, Bool.false_eq_true] at h
        obtain rfl : b = 6 := by omega
        refine awp_exit ?_
        refine awp_region rfl (.n (fun _ => op_add (.plain rfl) (.plain rfl) ?_) (.n (fun _ => op_move (.plain rfl)) (.nil _))) ?_
        · unfold InR; omega
        exact ⟨a + 1, by omega, by dsimp only; omega, (Ent.kept ⟨rfl, rfl, rfl, rfl, trivial⟩ ⟨rfl, rfl, trivial⟩)⟩
    · try simp only [decide_eq_true_eq, decide_eq_false_iff_not, Bool.and_eq_true, Bool.or_eq_true, Bool.and_eq_false_iff, Bool.or_eq_false_iff, Bool.not_eq_true', Bool.not_eq_false', Bool.not_eq_true, Bool.not_eq_false, Bool.true_eq_false, Bool.false_eq_true] at h
      obtain rfl : a = 6 := by omega
      refine awp_exit ?_
      refine awp_seq ?_
      refine awp_region rfl (.r (op_loadRA Try.isAgg34 Try.sizeOf34 (.plain rfl) rfl (by simp) rfl) (.e (op_storeRA Try.sizeOf34 (.plain rfl) (.plain rfl) rfl rfl (Nat.le_of_ble_eq_true rfl) rfl) rfl (.n (fun _ => op_assign (.plain rfl)) (.nil _)))) ?_
      refine awp_ret ?_
      refine retQ.ret ?_
      refine retC1 rfl rfl Try.isAgg34 Try.sizeOf34 rfl rfl ?_
      rw [hz]

theorem TopChooser_fc (rule : List Int) : FC Try.prog 5 [.ints rule] (.bool true) := by
  refine FC.intro Try.func5 rfl (Nat.le_of_ble_eq_true rfl) fun hfit => ?_
  obtain ⟨fitl0, fitr0⟩ := (hfit _ (.head _)).ints
  refine awp_seq ?_
  refine awp_region rfl (.n (fun _ => op_assign (.plain rfl)) (.nil _)) ?_
  refine awp_seq ?_
  refine awp_region rfl (.n (fun _ => op_move (.plain rfl)) (.n (fun _ => op_call1 Try.call16 (.plain rfl) (Onto_fc _)) (.n (fun _ => op_move (.plain rfl)) (.n (fun _ => op_extract (.plain rfl) rfl) (.n (fun _ => op_extract (.plain rfl) rfl) (.n (fun _ => op_assign (.plain rfl)) (.n (fun _ => op_assign (.plain rfl)) (.nil _)))))))) ?_
  refine awp_seq ?_
  refine awp_region rfl (.n (fun _ => op_move (.plain rfl)) (.n (fun _ => op_call1 Try.call17 (.plain rfl) (Honest_fc _)) (.n (fun _ => op_move (.plain rfl)) (.n (fun _ => op_extract (.plain rfl) rfl) (.n (fun _ => op_extract (.plain rfl) rfl) (.n (fun _ => op_extract (.plain rfl) rfl) (.n (fun _ => op_extract (.plain rfl) rfl) (.n (fun _ => op_extract (.plain rfl) rfl) (.n (fun _ => op_extract (.plain rfl) rfl) (.n (fun _ => op_assign (.plain rfl)) (.n (fun _ => op_assign (.plain rfl)) (.n (fun _ => op_assign (.plain rfl)) (.n (fun _ => op_assign (.plain rfl)) (.n (fun _ => op_assign (.plain rfl)) (.n (fun _ => op_assign (.plain rfl)) (.nil _)))))))))))))))) ?_
  refine awp_seq ?_
  refine awp_region rfl (.n (fun _ => op_move (.plain rfl)) (.n (fun _ => op_call1 Try.call18 (.plain rfl) (Choosers_fc _)) (.n (fun _ => op_move (.plain rfl)) (.n (fun _ => op_extract (.plain rfl) rfl) (.n (fun _ => op_extract (.plain rfl) rfl) (.e (op_alloc 11 Try.zeroValue34 rfl rfl rfl) rfl (.e (op_storeRA Try.sizeOf34 (.plain rfl) (.plain rfl) rfl rfl (Nat.le_of_ble_eq_true rfl) rfl) rfl (.n (fun _ => op_assign (.plain rfl)) (.nil _))))))))) ?_
  refine awp_seq ?_
  refine awp_seq ?_
  refine awp_region rfl (.n (fun _ => op_move (.plain rfl)) (.n (fun _ => op_move (.plain rfl)) (.n (fun _ => op_neq (.plain rfl) (.plain rfl)) (.n (fun _ => op_move (.plain rfl)) (.gn rfl rfl (fun hg _ => op_move (.plain rfl)) (.gn rfl rfl (fun hg _ => op_move (.plain rfl)) (.gn rfl rfl (fun hg _ => op_neq (.opt rfl fun h => h) (.opt rfl fun h => h)) (.n (fun _ => op_or (.plain rfl) (.plain rfl) (.plain rfl) (fun h => eqF h)) (.n (fun _ => op_move (.plain rfl)) (.gn rfl rfl (fun hg _ => op_move (.plain rfl)) (.gn rfl rfl (fun hg _ => op_eql (.opt rfl fun h => h) (.plain rfl)) (.gn rfl rfl (fun hg _ => op_move (.plain rfl)) (.gn rfl rfl (fun hg _ => op_call2 Try.call15 (.opt rfl fun h => h) (.plain rfl) (ruleOf_fc _ _)) (.gn rfl rfl (fun hg _ => op_neb Try.underlying4 (.opt rfl fun h => h) (.opt rfl fun h => h)) (.n (fun _ => op_or (.plain rfl) (.plain rfl) (.plain rfl) (fun h => eqF h)) (.nil _)))))))))))))))) ?_
  refine awp_cond rfl (fun h => ?_) (fun h => ?_)
  · try simp only [decide_eq_true_eq, decide_eq_false_iff_not, Bool.and_eq_true, Bool.or_eq_true, Bool.and_eq_false_iff, Bool.or_eq_false_iff, Bool.not_eq_true', Bool.not_eq_false', Bool.not_eq_true, Bool.not_eq_false, Bool.true_eq_false, Bool.false_eq_true] at h
    exfalso
    simp at h
  · try simp only [decide_eq_true_eq, decide_eq_false_iff_not, Bool.and_eq_true, Bool.or_eq_true, Bool.and_eq_false_iff, Bool.or_eq_false_iff, Bool.not_eq_true', Bool.not_eq_false', Bool.not_eq_true, Bool.not_eq_false, Bool.true_eq_false, Bool.false_eq_true] at h
    refine awp_skip ?_
    refine awp_seq ?_
    refine awp_region rfl (.n (fun _ => op_move (.plain rfl)) (.n (fun _ => op_not (.plain rfl)) (.n (fun _ => op_move (.plain rfl)) (.gn rfl rfl (fun hg _ => op_move (.plain rfl)) (.gn rfl rfl (fun hg _ => op_not (.opt rfl fun h => h)) (.n (fun _ => op_or (.plain rfl) (.plain rfl) (.plain rfl) (fun h => eqF h)) (.n (fun _ => op_move (.plain rfl)) (.gn rfl rfl (fun hg _ => op_indexAddrA Try.underlying34 Try.sizeOf4 (.plain rfl) (.plain rfl) ?_) (.gr rfl rfl (fun hg => op_loadR Try.isAgg4 (.opt rfl fun h => h) rfl rfl) (.n (fun _ => op_or (.plain rfl) (.plain rfl) (.plain rfl) (fun h => eqF h)) (.n (fun _ => op_move (.plain rfl)) (.gn rfl rfl (fun hg _ => op_indexAddrA Try.underlying34 Try.sizeOf4 (.plain rfl) (.plain rfl) ?_) (.gr rfl rfl (fun hg => op_loadR Try.isAgg4 (.opt rfl fun h => h) rfl rfl) (.n (fun _ => op_or (.plain rfl) (.plain rfl) (.plain rfl) (fun h => eqF h)) (.n (fun _ => op_assign (.plain rfl)) (.nil _)))))))))))))))) ?_
    · try simp only [beq_iff_eq, beq_true, beq_false, Bool.and_eq_true, decide_eq_true_eq, decide_eq_false_iff_not, Bool.not_eq_true', Bool.or_eq_true, Bool.or_eq_false_iff] at hg
      omega
    · try simp only [beq_iff_eq, beq_true, beq_false, Bool.and_eq_true, decide_eq_true_eq, decide_eq_false_iff_not, Bool.not_eq_true', Bool.or_eq_true, Bool.or_eq_false_iff] at hg
      omega
    refine awp_ret ?_
    refine retQ.ret ?_
    refine ret1 rfl rfl rfl ?_
    by_cases hz : tabE rule 3 = 0
    · simp only [if_pos hz]
      rw [gibbard_law (TabOk.of hz) hz]
    · simp only [if_neg hz]
      rfl

end Go.Proofs.Ythcgljomiigjiaa

