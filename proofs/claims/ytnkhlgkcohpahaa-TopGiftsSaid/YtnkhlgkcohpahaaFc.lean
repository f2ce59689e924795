/- The finder of gifts. Conditions: each theorem names its own. -/
import Derived.Test.YtnkhlgkcohpahaaProg
import Derived.Test.YtnkhlgkcohpahaaFb
namespace Go.Proofs.Ytnkhlgkcohpahaa
open Go.Abs
set_option linter.unusedVariables false
set_option linter.unusedSimpArgs false

/-! ### All lines from one on, as the finder looks for them: with a set of numbers for those that are used -/
def dgo (G : Int) (q : Nat) (u : Nat) (x : Int) : Bool := !u.testBit x.toNat && (decide (((q : Nat) : Int) < G) || decide (((q : Nat) : Int) < x))
def emDP (G : Int) (F : List (List Int)) (q : Nat) (l : List Int) : Prop := 1 < (l.length : Int) ∧ (((q : Nat) : Int) < G ∨ 0 ≤ placeF (F.getD (lastF l).toNat []) (q : Nat))
instance (G : Int) (F : List (List Int)) (q : Nat) (l : List Int) : Decidable (emDP G F q l) := by unfold emDP; infer_instance
def emD (G : Int) (F : List (List Int)) (q : Nat) (l : List Int) : List (List Int) := if emDP G F q l then [l] else []
def stopD (G Rd Rw : Int) (q : Nat) (l : List Int) : Prop := (((q : Nat) : Int) < G ∧ Rw < (l.length : Int)) ∨ (¬ ((q : Nat) : Int) < G ∧ Rd ≤ (l.length : Int))
instance (G Rd Rw : Int) (q : Nat) (l : List Int) : Decidable (stopD G Rd Rw q l) := by unfold stopD; infer_instance
def linD (G : Int) (F : List (List Int)) (Rd Rw : Int) (q : Nat) : Nat → List Int → Nat → List (List Int)
  | 0, l, _ => emD G F q l
  | f + 1, l, u => emD G F q l ++ if stopD G Rd Rw q l then [] else goTo (dgo G q u) (fun x => linD G F Rd Rw q f (l ++ [x]) (u ||| 2 ^ x.toNat)) (F.getD (lastF l).toNat []) (F.getD (lastF l).toNat []).length
def linA (G : Int) (F : List (List Int)) (Rd Rw : Int) (u q : Nat) : List (List Int) := linD G F Rd Rw q F.length [(q : Int)] (u ||| 2 ^ q)
/-- Those that come from k0 on are these. -/
def Sub (A : List (List Int)) (k0 : Nat) (B : List (List Int)) : Prop := ∃ s t, A = s ++ B ++ t ∧ s.length = k0
theorem Sub.at' {A B : List (List Int)} {k0 j : Nat} (h : Sub A k0 B) (hj : j < B.length) : A.getD (k0 + j) [] = B.getD j [] ∧ k0 + j < A.length := by
  obtain ⟨s, t, e, hs⟩ := h
  subst e; subst hs
  refine ⟨?_, by simp; omega⟩
  rw [List.getD_eq_getElem?_getD, List.append_assoc, List.getElem?_append_right (by omega), Nat.add_sub_cancel_left, List.getElem?_append_left hj, ← List.getD_eq_getElem?_getD]
theorem Sub.left {A B C : List (List Int)} {k0 : Nat} (h : Sub A k0 (B ++ C)) : Sub A k0 B := by
  obtain ⟨s, t, e, hs⟩ := h
  exact ⟨s, C ++ t, by rw [e]; simp only [List.append_assoc], hs⟩
theorem Sub.right {A B C : List (List Int)} {k0 : Nat} (h : Sub A k0 (B ++ C)) : Sub A (k0 + B.length) C := by
  obtain ⟨s, t, e, hs⟩ := h
  exact ⟨s ++ B, t, by rw [e]; simp only [List.append_assoc], by rw [List.length_append, hs]⟩
theorem goTo_sub {p : Int → Bool} {g : Int → List (List Int)} {r : List Int} {j m : Nat} (h : j ≤ m) : ∃ t, goTo p g r m = goTo p g r j ++ t := by
  induction m with
  | zero => obtain rfl : j = 0 := by omega
            exact ⟨[], by simp⟩
  | succ m ih =>
    by_cases e : j = m + 1
    · subst e; exact ⟨[], by simp⟩
    · obtain ⟨t, ht⟩ := ih (by omega)
      refine ⟨t ++ if p (r.getD m 0) = true then g (r.getD m 0) else [], ?_⟩
      simp only [goTo]; rw [ht, List.append_assoc]
theorem Sub.go {p : Int → Bool} {g : Int → List (List Int)} {r : List Int} {A : List (List Int)} {k0 i : Nat} (h : Sub A k0 (goTo p g r r.length)) (hi : i < r.length) (hp : p (r.getD i 0) = true) : Sub A (k0 + (goTo p g r i).length) (g (r.getD i 0)) := by
  obtain ⟨u, hu⟩ := goTo_sub (p := p) (g := g) (r := r) (j := i + 1) (m := r.length) (by omega)
  rw [hu, ← goTo_yes hp, List.append_assoc] at h
  exact h.right.left
/-! ### Numbers as sets -/
theorem bit_off {u x : Nat} : ((u : Int) / 2 ^ x) % 2 = 0 ↔ u.testBit x = false := by
  have e : ((u : Int) / 2 ^ x) % 2 = ((u / 2 ^ x % 2 : Nat) : Int) := by
    rw [Int.natCast_emod, Int.natCast_ediv, Int.natCast_pow]; rfl
  rw [e, Nat.testBit_eq_decide_div_mod_eq, decide_eq_false_iff_not]
  omega
theorem bit_on {u x : Nat} : ((u : Int) / 2 ^ x) % 2 = 1 ↔ u.testBit x = true := by
  have := bit_off (u := u) (x := x)
  have h2 := Int.emod_two_eq ((u : Int) / 2 ^ x)
  cases h : u.testBit x with
  | true => rw [h] at this; simp at this; exact ⟨fun _ => rfl, fun _ => by omega⟩
  | false => rw [h] at this; have h3 := this.2 rfl; constructor
             · intro c; omega
             · intro c; exact absurd c (by decide)
theorem shl_one (x : Nat) : (1 : Int) * 2 ^ x = ((2 ^ x : Nat) : Int) := by rw [Int.one_mul, Int.natCast_pow]; rfl
theorem or_shl (u x : Nat) : (((u : Int).toNat ||| ((1 : Int) * 2 ^ x).toNat : Nat) : Int) = ((u ||| 2 ^ x : Nat) : Int) := by rw [shl_one, Int.toNat_natCast, Int.toNat_natCast]
theorem or_lt {u x n : Nat} (hu : u < 2 ^ n) (hx : x < n) : u ||| 2 ^ x < 2 ^ n := Nat.or_lt_two_pow hu (Nat.pow_lt_pow_right (by omega) hx)
theorem split4 (a b c : Bool) : a = false ∨ (a = true ∧ b = true) ∨ (a = true ∧ b = false ∧ c = true) ∨ (a = true ∧ b = false ∧ c = false) := by
  cases a <;> cases b <;> cases c <;> simp
theorem bit_cf {u x : Nat} (h : decide ((u : Int) / 2 ^ x % 2 = 0) = false) : u.testBit x = true := by
  cases hb : u.testBit x with
  | true => rfl
  | false => exact absurd (bit_off.2 hb) (of_decide_eq_false h)
theorem bit_ct {u x : Nat} (h : decide ((u : Int) / 2 ^ x % 2 = 0) = true) : u.testBit x = false := bit_off.1 (of_decide_eq_true h)
theorem shl_in {x : Nat} (h : x ≤ 60) : InR ((1 : Int) * 2 ^ x) := by
  rw [shl_one]
  have : 2 ^ x ≤ 1152921504606846976 := Nat.pow_le_pow_right (n := 2) (by omega) h
  generalize 2 ^ x = y at *
  unfold InR; omega
theorem linD_stop {G : Int} {F : List (List Int)} {Rd Rw : Int} {q f u : Nat} {l : List Int} (h : stopD G Rd Rw q l) : linD G F Rd Rw q f l u = emD G F q l := by
  cases f with
  | zero => rfl
  | succ f => simp only [linD]; rw [if_pos h, List.append_nil]
theorem linD_go {G : Int} {F : List (List Int)} {Rd Rw : Int} {q f u : Nat} {l : List Int} (h : ¬ stopD G Rd Rw q l) : linD G F Rd Rw q (f + 1) l u = emD G F q l ++ goTo (dgo G q u) (fun x => linD G F Rd Rw q f (l ++ [x]) (u ||| 2 ^ x.toNat)) (F.getD (lastF l).toNat []) (F.getD (lastF l).toNat []).length := by
  simp only [linD]; rw [if_neg h]
theorem dgo_no {G : Int} {q u : Nat} {x : Int} (h : u.testBit x.toNat = true) : ¬ dgo G q u x = true := by unfold dgo; simp [h]
theorem dgo_no2 {G : Int} {q u : Nat} {x : Int} (h1 : decide (((q : Nat) : Int) < G) = false) (h2 : decide (((q : Nat) : Int) < x) = false) : ¬ dgo G q u x = true := by unfold dgo; rw [h1, h2]; simp
theorem dgo_yes {G : Int} {q u : Nat} {x : Int} (h : u.testBit x.toNat = false) (h1 : decide (((q : Nat) : Int) < G) = true ∨ decide (((q : Nat) : Int) < x) = true) : dgo G q u x = true := by
  unfold dgo
  rcases h1 with h1 | h1 <;> rw [h, h1] <;> simp

theorem gives_lit {G : Int} {F : List (List Int)} {Rd Rw i x : Int} {b : Bool} (h : decide (0 ≤ placeF (F.getD i.toNat []) x) = b) (hi : 0 ≤ i ∧ i < (F.length : Int)) : FC Try.prog 15 [.agg [.i G, .rows F, .i Rd, .i Rw], .i i, .i x] (.bool b) := h ▸ gives_fc G F Rd Rw i x hi
theorem clone_fc (l : List Int) (hl : l.length ≤ 1000000) : FCO Try.prog 26 [.ints l] 3 1 Int 0 (fun n => [.int .i64 n]) (l) := by
  refine FCO.intro Try.func26 rfl (Nat.le_of_ble_eq_true rfl) fun hfit => ?_
  obtain ⟨fitl0, fitr0⟩ := (hfit _ (.head _)).ints
  refine awp_seq ?_
  refine awp_region rfl (.n (fun _ => op_assign (.plain rfl)) (.nil _)) ?_
  refine awp_seq ?_
  refine awp_seq ?_
  refine awp_nilsplit 0 rfl (fun hnil => ?_) ?_
  · have _hs := trivial
    refine awp_region rfl (.n (fun _ => op_move (.plain rfl)) (.n (fun _ => op_nil_nil Try.underlying35 (.plain rfl)) (.nil _))) ?_
    refine awp_cond rfl (fun h => ?_) (fun h => ?_)
    · clear h
      refine awp_seq ?_
      refine awp_region rfl (.n (fun _ => op_assign (.plain rfl)) (.nil _)) ?_
      refine awp_ent (Ent.begin 2 5002 3 1 Int 0 (fun n => [.int .i64 n]) rfl rfl rfl) ?_
      refine awp_ret ?_
      refine retO.ret ?_
      refine retO1 rfl rfl rfl ?_
      exact hnil.symm
    · first | cases h | exact absurd h (by decide)
  · have _hs := trivial
    refine awp_region rfl (.n (fun _ => op_move (.plain rfl)) (.n (fun _ => op_nn_nil Try.underlying35 (.plain rfl)) (.nil _))) ?_
    refine awp_ent (Ent.denn 0 rfl) ?_
    refine awp_cond rfl (fun h => ?_) (fun h => ?_)
    · first | cases h | exact absurd h (by decide)
    · clear h
      refine awp_skip ?_
      refine awp_seq ?_
      refine awp_region rfl (.e (op_slitO (pp := []) (α := Int) (d := 0) (f := (fun n => [.int .i64 n])) 5 [] ety35 rfl trivial rfl (by decide) rfl (fun _ => rfl) rfl) rfl (.n (fun _ => op_move (.plain rfl)) (.e (op_append (id' := 7) (α := Int) (d := 0) (f := (fun n => [.int .i64 n])) ety35 Try.underlying35 (fun _ => rfl) (fun _ => rfl) (.plain rfl) rfl (.plain rfl) rfl ?_) rfl (.n (fun _ => op_assign (.plain rfl)) (.nil _))))) ?_
      · first | omega | (simp; omega)
      refine awp_ret ?_
      refine retO.ret ?_
      refine retO1 rfl rfl rfl ?_
      simp

theorem lines_fch (G : Int) (F : List (List Int)) (Rd Rw : Int) (u q : Nat) (C0 E0 : List (Int × PV)) : FCH Try.prog 21 [.ref 40 0, .pv (.i (u : Nat)), .pv (.i (q : Nat))] [(40, .box [.pv (.i G), .pv (.rows F), .pv (.i Rd), .pv (.i Rw), .own 41, .own 42]), (41, .mq C0), (42, .mq E0)] [(40, .box [.pv (.i G), .pv (.rows F), .pv (.i Rd), .pv (.i Rw), .own 41, .own 42]), (41, .mq C0), (42, .mq E0), (3, .box [.ref 40 0])] (.clo (.func 24) [.pv (.rd [.i (q : Nat)]), .ref 3 0, .pv (.rd [.i (u : Nat)])]) (some 3) := by
  refine FCH.intro Try.func21 rfl (Nat.le_of_ble_eq_true rfl) (Nat.le_of_ble_eq_true rfl) fun hfit ι0 => ?_
  change awp _ _ _ _ ⟨[(0, .ref 40 0), (1, .pv (.i (u : Nat))), (2, .pv (.i (q : Nat))), (1000040, .pin 40 (ι0 40)), (1000041, .pin 41 (ι0 41)), (1000042, .pin 42 (ι0 42))], [(40, .box [.pv (.i G), .pv (.rows F), .pv (.i Rd), .pv (.i Rw), .own 41, .own 42]), (41, .mq C0), (42, .mq E0)]⟩
  have fit1 : -9223372036854775808 ≤ ((u : Nat) : Int) ∧ ((u : Nat) : Int) ≤ 9223372036854775807 := (hfit _ (.tail _ (.head _))).int64
  have fit2 : -9223372036854775808 ≤ ((q : Nat) : Int) ∧ ((q : Nat) : Int) ≤ 9223372036854775807 := (hfit _ (.tail _ (.tail _ (.head _)))).int64
  refine awp_seq ?_
  refine awp_region rfl (.e (op_boxH 3 (.plain rfl) rfl rfl rfl (fun _ h => by cases h) (fun _ h => by cases h)) rfl (.n (fun _ => op_box (.plain rfl) (by simp)) (.n (fun _ => op_box (.plain rfl) (by simp)) (.n (fun _ => op_assign (.plain rfl)) (.nil _))))) ?_
  refine awp_seq ?_
  refine awp_region rfl (.n (fun _ => op_makeFuncS (cs := [_, _, _]) ⟨(.plain rfl), (.plain rfl), (.plain rfl), trivial⟩) (.n (fun _ => op_assign (.plain rfl)) (.nil _))) ?_
  refine awp_ret ?_
  refine retH.ret ?_
  refine retH1 rfl rfl ⟨rfl, rfl, rfl, rfl, trivial⟩ ⟨.inr rfl, .inr rfl, .inr rfl, trivial⟩ ?_
  rfl

set_option maxRecDepth 1000000 in
set_option maxHeartbeats 8000000 in
theorem grow_fch (G : Int) (F : List (List Int)) (Rd Rw : Int) (hv : mayE G F Rd Rw = 0) (u0 q : Nat) (ps : Array Tmp) (asg bd : Code) (A : Nat → Int) (B : Nat → List Int) (C E : Nat → List (Int × PV)) (hy : ∀ k, k < (linA G F Rd Rw u0 q).length → YH Try.prog 900 (.yld ps asg bd [.pv .any, .pv .any, .ref 2 0, .pv (.rd [.i (u0 : Nat)]), .pv .any, .pv .any, .pv .any, .ref 7 0, .ref 8 0, .pv (.rd [.i (q : Nat)]), .pv .any, .pv .any, .pv .any, .pv .any, .pv .any, .pv .any, .pv .any, .pv .any, .pv .any, .pv .any, .pv .any, .pv .any, .pv .any, .pv .any, .pv .any, .pv .any, .pv .any, .pv .any, .pv .any, .pv .any, .pv .any, .pv .any, .int (F.length : Nat), .int (q : Nat), .pv .any, .pv .any, .pv .any, .pv .any, .pv .any, .pv .any, .pv .any, .pv .any, .pv .any, .pv .any, .clo (.func 24) [.pv (.rd [.i (q : Nat)]), .ref 44 0, .pv (.rd [.i (u0 : Nat)])], .pv .any, .pv .any, .pv .any, .pv .any, .pv .any, .pv .any, .pv .any, .pv .any, .pv .any, .pv .any, .pv .any, .pv .any, .pv .any, .pv .any, .pv .any, .pv .any, .pv .any, .pv .any, .pv .any, .pv .any, .pv .any, .pv .any, .pv .any, .pv .any, .pv .any, .pv .any, .pv .any, .pv .any, .pv .any, .pv .any, .pv .any, .pv .any, .pv .any, .pv .any, .pv .any, .pv .any, .pv .any, .pv .any, .pv .any, .pv .any, .pv .any, .pv .any, .pv .any, .pv .any, .pv .any, .pv .any, .pv .any, .pv .any, .pv .any, .pv .any, .pv .any, .pv .any, .pv .any, .pv .any, .pv .any, .pv .any]) [.pv (.ints ((linA G F Rd Rw u0 q).getD k []))] [(44, .box [.ref 40 0]), (2, .box [.ref 40 0]), (40, .box [.pv (.i G), .pv (.rows F), .pv (.i Rd), .pv (.i Rw), .own 41, .own 42]), (7, .box [.int (A (k))]), (8, .box [.pv (.ints (B (k)))]), (41, .mq (C (k))), (42, .mq (E (k)))] [(44, .box [.ref 40 0]), (2, .box [.ref 40 0]), (40, .box [.pv (.i G), .pv (.rows F), .pv (.i Rd), .pv (.i Rw), .own 41, .own 42]), (7, .box [.int (A (k + 1))]), (8, .box [.pv (.ints (B (k + 1)))]), (41, .mq (C (k + 1))), (42, .mq (E (k + 1)))]) (hq : q < F.length) (f : Nat) (l : List Int) (u k0 : Nat) (hl : 1 ≤ l.length) (hf : f + l.length = F.length + 1) (hla : 0 ≤ lastF l ∧ lastF l < (F.length : Int)) (hu : u < 2 ^ 8) (hs : Sub (linA G F Rd Rw u0 q) k0 (linD G F Rd Rw q f l u)) : FCH Try.prog 25 [.pv (.ints l), .pv (.i (u : Nat)), .pv (.rd [.i (q : Nat)]), .ref 44 0, .ref 4 0, .ref 5 0] [(900, .yld ps asg bd [.pv .any, .pv .any, .ref 2 0, .pv (.rd [.i (u0 : Nat)]), .pv .any, .pv .any, .pv .any, .ref 7 0, .ref 8 0, .pv (.rd [.i (q : Nat)]), .pv .any, .pv .any, .pv .any, .pv .any, .pv .any, .pv .any, .pv .any, .pv .any, .pv .any, .pv .any, .pv .any, .pv .any, .pv .any, .pv .any, .pv .any, .pv .any, .pv .any, .pv .any, .pv .any, .pv .any, .pv .any, .pv .any, .int (F.length : Nat), .int (q : Nat), .pv .any, .pv .any, .pv .any, .pv .any, .pv .any, .pv .any, .pv .any, .pv .any, .pv .any, .pv .any, .clo (.func 24) [.pv (.rd [.i (q : Nat)]), .ref 44 0, .pv (.rd [.i (u0 : Nat)])], .pv .any, .pv .any, .pv .any, .pv .any, .pv .any, .pv .any, .pv .any, .pv .any, .pv .any, .pv .any, .pv .any, .pv .any, .pv .any, .pv .any, .pv .any, .pv .any, .pv .any, .pv .any, .pv .any, .pv .any, .pv .any, .pv .any, .pv .any, .pv .any, .pv .any, .pv .any, .pv .any, .pv .any, .pv .any, .pv .any, .pv .any, .pv .any, .pv .any, .pv .any, .pv .any, .pv .any, .pv .any, .pv .any, .pv .any, .pv .any, .pv .any, .pv .any, .pv .any, .pv .any, .pv .any, .pv .any, .pv .any, .pv .any, .pv .any, .pv .any, .pv .any, .pv .any, .pv .any, .pv .any, .pv .any, .pv .any]), (4, .box [.own 900]), (5, .box [.clo (.func 25) [.pv (.rd [.i (q : Nat)]), .ref 44 0, .ref 4 0, .ref 5 0]]), (44, .box [.ref 40 0]), (2, .box [.ref 40 0]), (40, .box [.pv (.i G), .pv (.rows F), .pv (.i Rd), .pv (.i Rw), .own 41, .own 42]), (7, .box [.int (A (k0))]), (8, .box [.pv (.ints (B (k0)))]), (41, .mq (C (k0))), (42, .mq (E (k0)))] [(900, .yld ps asg bd [.pv .any, .pv .any, .ref 2 0, .pv (.rd [.i (u0 : Nat)]), .pv .any, .pv .any, .pv .any, .ref 7 0, .ref 8 0, .pv (.rd [.i (q : Nat)]), .pv .any, .pv .any, .pv .any, .pv .any, .pv .any, .pv .any, .pv .any, .pv .any, .pv .any, .pv .any, .pv .any, .pv .any, .pv .any, .pv .any, .pv .any, .pv .any, .pv .any, .pv .any, .pv .any, .pv .any, .pv .any, .pv .any, .int (F.length : Nat), .int (q : Nat), .pv .any, .pv .any, .pv .any, .pv .any, .pv .any, .pv .any, .pv .any, .pv .any, .pv .any, .pv .any, .clo (.func 24) [.pv (.rd [.i (q : Nat)]), .ref 44 0, .pv (.rd [.i (u0 : Nat)])], .pv .any, .pv .any, .pv .any, .pv .any, .pv .any, .pv .any, .pv .any, .pv .any, .pv .any, .pv .any, .pv .any, .pv .any, .pv .any, .pv .any, .pv .any, .pv .any, .pv .any, .pv .any, .pv .any, .pv .any, .pv .any, .pv .any, .pv .any, .pv .any, .pv .any, .pv .any, .pv .any, .pv .any, .pv .any, .pv .any, .pv .any, .pv .any, .pv .any, .pv .any, .pv .any, .pv .any, .pv .any, .pv .any, .pv .any, .pv .any, .pv .any, .pv .any, .pv .any, .pv .any, .pv .any, .pv .any, .pv .any, .pv .any, .pv .any, .pv .any, .pv .any, .pv .any, .pv .any, .pv .any, .pv .any, .pv .any]), (4, .box [.own 900]), (5, .box [.clo (.func 25) [.pv (.rd [.i (q : Nat)]), .ref 44 0, .ref 4 0, .ref 5 0]]), (44, .box [.ref 40 0]), (2, .box [.ref 40 0]), (40, .box [.pv (.i G), .pv (.rows F), .pv (.i Rd), .pv (.i Rw), .own 41, .own 42]), (7, .box [.int (A (k0 + (linD G F Rd Rw q f l u).length))]), (8, .box [.pv (.ints (B (k0 + (linD G F Rd Rw q f l u).length)))]), (41, .mq (C (k0 + (linD G F Rd Rw q f l u).length))), (42, .mq (E (k0 + (linD G F Rd Rw q f l u).length)))] (.pv (.bool true)) none := by
  have hf0 : f = f := rfl
  induction f using Nat.strongRecOn generalizing l u k0
  rename_i f ih
  refine FCH.intro Try.func25 rfl (Nat.le_of_ble_eq_true rfl) (Nat.le_of_ble_eq_true rfl) fun hfit ι0 => ?_
  change awp _ _ _ _ ⟨[(0, .pv (.ints l)), (1, .pv (.i (u : Nat))), (2, .pv (.rd [.i (q : Nat)])), (3, .ref 44 0), (4, .ref 4 0), (5, .ref 5 0), (1000900, .pin 900 (ι0 900)), (1000004, .pin 4 (ι0 4)), (1000005, .pin 5 (ι0 5)), (1000044, .pin 44 (ι0 44)), (1000002, .pin 2 (ι0 2)), (1000040, .pin 40 (ι0 40)), (1000007, .pin 7 (ι0 7)), (1000008, .pin 8 (ι0 8)), (1000041, .pin 41 (ι0 41)), (1000042, .pin 42 (ι0 42))], [(900, .yld ps asg bd [.pv .any, .pv .any, .ref 2 0, .pv (.rd [.i (u0 : Nat)]), .pv .any, .pv .any, .pv .any, .ref 7 0, .ref 8 0, .pv (.rd [.i (q : Nat)]), .pv .any, .pv .any, .pv .any, .pv .any, .pv .any, .pv .any, .pv .any, .pv .any, .pv .any, .pv .any, .pv .any, .pv .any, .pv .any, .pv .any, .pv .any, .pv .any, .pv .any, .pv .any, .pv .any, .pv .any, .pv .any, .pv .any, .int (F.length : Nat), .int (q : Nat), .pv .any, .pv .any, .pv .any, .pv .any, .pv .any, .pv .any, .pv .any, .pv .any, .pv .any, .pv .any, .clo (.func 24) [.pv (.rd [.i (q : Nat)]), .ref 44 0, .pv (.rd [.i (u0 : Nat)])], .pv .any, .pv .any, .pv .any, .pv .any, .pv .any, .pv .any, .pv .any, .pv .any, .pv .any, .pv .any, .pv .any, .pv .any, .pv .any, .pv .any, .pv .any, .pv .any, .pv .any, .pv .any, .pv .any, .pv .any, .pv .any, .pv .any, .pv .any, .pv .any, .pv .any, .pv .any, .pv .any, .pv .any, .pv .any, .pv .any, .pv .any, .pv .any, .pv .any, .pv .any, .pv .any, .pv .any, .pv .any, .pv .any, .pv .any, .pv .any, .pv .any, .pv .any, .pv .any, .pv .any, .pv .any, .pv .any, .pv .any, .pv .any, .pv .any, .pv .any, .pv .any, .pv .any, .pv .any, .pv .any, .pv .any, .pv .any]), (4, .box [.own 900]), (5, .box [.clo (.func 25) [.pv (.rd [.i (q : Nat)]), .ref 44 0, .ref 4 0, .ref 5 0]]), (44, .box [.ref 40 0]), (2, .box [.ref 40 0]), (40, .box [.pv (.i G), .pv (.rows F), .pv (.i Rd), .pv (.i Rw), .own 41, .own 42]), (7, .box [.int (A (k0))]), (8, .box [.pv (.ints (B (k0)))]), (41, .mq (C (k0))), (42, .mq (E (k0)))]⟩
  have fit1 : -9223372036854775808 ≤ ((u : Nat) : Int) ∧ ((u : Nat) : Int) ≤ 9223372036854775807 := (hfit _ (.tail _ (.head _))).int64
  have fit2 := hfit _ (.tail _ (.tail _ (.head _)))
  have hS := sok hv
  have hn8 := hS.n8
  have hG := hS.g
  have hRd := hS.rd
  have hRw := hS.rw'
  have hl9 : l.length ≤ 9 := by omega
  have hs0 : Sub (linA G F Rd Rw u0 q) k0 (emD G F q l) := by cases f with | zero => exact hs | succ f => exact hs.left
  refine awp_seq ?_
  refine awp_region rfl (.n (fun _ => op_assign (.plain rfl)) (.nil _)) ?_
  refine awp_seq ?_
  refine awp_region_draw mixed rfl (.n (fun _ => op_load Try.isAgg3 (.plain rfl)) (.r (op_loadR Try.isAgg41 (.plain rfl) rfl rfl) (.n (fun _ => op_nilCheckR (.plain rfl)) (.n (fun _ => op_fieldAddrR Try.underlying44 rfl rfl Try.sizeOf24 (.plain rfl)) (.n (fun _ => op_fieldAddrR Try.underlying24 rfl rfl Try.sizeOf3 (.plain rfl)) (.r (op_loadR Try.isAgg3 (.plain rfl) rfl rfl) (.n (fun _ => op_lss (.plain rfl) (.plain rfl)) (.n (fun _ => op_assign (.plain rfl)) (.nil _))))))))) ?d1 ?_
  · kernel_rfl
  refine awp_seq ?_
  refine awp_seq ?_
  rcases split4 (decide (1 < (l.length : Int))) (decide (((q : Nat) : Int) < G)) (decide (0 ≤ placeF (F.getD (l.getD ((l.length : Int) - 1).toNat 0).toNat []) (q : Nat))) with hc1 | ⟨hc1, hcr⟩ | ⟨hc1, hcr, hcb⟩ | ⟨hc1, hcr, hcb⟩
  · have hEM : ¬ emDP G F q l := fun c => of_decide_eq_false hc1 c.1
    have hem : emD G F q l = [] := if_neg hEM
    have hkk : k0 = k0 + (emD G F q l).length := by rw [hem]; rfl
    refine awp_region_draw mixed rfl (.n (fun _ => op_move (.plain rfl)) (.n (fun _ => op_len (s := 0) Try.underlying35 (.plain rfl)) (.n (fun _ => OpT.boolEq hc1 (op_gtr (.plain rfl) (.plain rfl))) (.n (fun _ => op_move (.plain rfl)) (.no rfl rfl rfl (.no rfl rfl rfl (.noo rfl rfl (.noo rfl rfl (.noo rfl rfl (.noo rfl rfl (.noo rfl rfl (.noo rfl rfl (.noo rfl rfl (.noo rfl rfl (.noo rfl rfl (.noo rfl rfl (.noo rfl rfl (.noo rfl rfl (.no rfl rfl rfl (.n (fun _ => op_and (.plain rfl) (.plain rfl) (.plain rfl) (fun h => absurd h (by decide))) (.n (fun _ => op_move (.plain rfl)) (.no rfl rfl rfl (.no rfl rfl rfl (.no rfl rfl rfl (.no rfl rfl rfl (.no rfl rfl rfl (.n (fun _ => op_and (.plain rfl) (.plain rfl) (.plain rfl) (fun h => absurd h (by decide))) (.nil _)))))))))))))))))))))))))))) ?d2 ?_
    · kernel_rfl
    refine awp_cond rfl (fun h => ?_) (fun h => ?_)
    · skip
      exfalso
      simp at h
    · skip
      refine awp_skip ?_
      refine awp_seq ?_
      refine awp_seq ?_
      refine awp_region rfl (.n (fun _ => op_move (.plain rfl)) (.n (fun _ => op_move (.plain rfl)) (.gn rfl rfl (fun hg _ => op_move (.plain rfl)) (.gn rfl rfl (fun hg _ => op_len (s := 0) Try.underlying35 (.opt rfl fun h => h)) (.gr rfl rfl (fun hg => op_loadR Try.isAgg41 (.plain rfl) rfl rfl) (.gn rfl rfl (fun hg _ => op_nilCheckR (.opt rfl fun h => h)) (.gn rfl rfl (fun hg _ => op_fieldAddrR Try.underlying44 rfl rfl Try.sizeOf24 (.opt rfl fun h => h)) (.gn rfl rfl (fun hg _ => op_fieldAddrR Try.underlying24 rfl rfl Try.sizeOf3 (.opt rfl fun h => h)) (.gr rfl rfl (fun hg => op_loadR Try.isAgg3 (.opt rfl fun h => h) rfl rfl) (.gn rfl rfl (fun hg _ => op_gtr (.opt rfl fun h => h) (.opt rfl fun h => h)) (.n (fun _ => op_and (.plain rfl) (.plain rfl) (.plain rfl) (fun h => eqT h)) (.n (fun _ => op_move (.plain rfl)) (.gn rfl rfl (fun hg _ => op_move (.plain rfl)) (.gn rfl rfl (fun hg _ => op_not (.opt rfl fun h => h)) (.gn rfl rfl (fun hg _ => op_move (.opt rfl fun h => h)) (.ggn rfl rfl (fun hg _ => op_move (.plain rfl)) (.ggn rfl rfl (fun hg _ => op_len (s := 0) Try.underlying35 (.opt rfl fun h => h)) (.ggr rfl rfl (fun hg => op_loadR Try.isAgg41 (.plain rfl) rfl rfl) (.ggn rfl rfl (fun hg _ => op_nilCheckR (.opt rfl fun h => h)) (.ggn rfl rfl (fun hg _ => op_fieldAddrR Try.underlying44 rfl rfl Try.sizeOf24 (.opt rfl fun h => h)) (.ggn rfl rfl (fun hg _ => op_fieldAddrR Try.underlying24 rfl rfl Try.sizeOf3 (.opt rfl fun h => h)) (.ggr rfl rfl (fun hg => op_loadR Try.isAgg3 (.opt rfl fun h => h) rfl rfl) (.ggn rfl rfl (fun hg _ => op_geq (.opt rfl fun h => h) (.opt rfl fun h => h)) (.gn rfl rfl (fun hg _ => op_and (.opt rfl fun h => h) (.plain rfl) (.plain rfl) (fun h => andI hg (eqT h))) (.n (fun _ => op_or (.plain rfl) (.plain rfl) (.plain rfl) (fun h => eqF h)) (.nil _)))))))))))))))))))))))))) ?_
      refine awp_cond rfl (fun h => ?_) (fun h => ?_)
      · skip
        simp only [decide_eq_true_eq, decide_eq_false_iff_not, Bool.and_eq_true, Bool.or_eq_true, Bool.and_eq_false_iff, Bool.or_eq_false_iff, Bool.not_eq_true', Bool.not_eq_false', Bool.not_eq_true, Bool.not_eq_false] at h
        have hst : stopD G Rd Rw q l := h
        refine awp_seq ?_
        refine awp_region rfl (.n (fun _ => op_assign (.plain rfl)) (.nil _)) ?_
        refine awp_ret ?_
        refine retH.ret ?_
        refine retH1 rfl rfl ⟨rfl, rfl, rfl, rfl, rfl, rfl, (congrArg (fun q => some (Blk.box [SV.int (A q)])) (by rw [linD_stop hst]; exact hkk)), (congrArg (fun q => some (Blk.box [SV.pv (.ints (B q))])) (by rw [linD_stop hst]; exact hkk)), (congrArg (fun q => some (Blk.mq (C q))) (by rw [linD_stop hst]; exact hkk)), (congrArg (fun q => some (Blk.mq (E q))) (by rw [linD_stop hst]; exact hkk)), trivial⟩ ⟨.inr rfl, .inr rfl, .inr rfl, .inr rfl, .inr rfl, .inr rfl, .inr rfl, .inr rfl, .inr rfl, .inr rfl, trivial⟩ ?_
        rfl
      · skip
        simp only [decide_eq_true_eq, decide_eq_false_iff_not, Bool.and_eq_true, Bool.or_eq_true, Bool.and_eq_false_iff, Bool.or_eq_false_iff, Bool.not_eq_true', Bool.not_eq_false', Bool.not_eq_true, Bool.not_eq_false] at h
        have hst : ¬ stopD G Rd Rw q l := by unfold stopD; omega
        obtain ⟨f, rfl⟩ : ∃ q, f = q + 1 := ⟨f - 1, by unfold stopD at hst; omega⟩
        have hs2 := hs
        rw [linD_go hst] at hs2
        have hs2 := hs2.right
        have hlt8 : (lastF l).toNat < F.length := by omega
        have hln := hS.len _ hlt8
        refine awp_skip ?_
        refine awp_seq ?_
        refine awp_seq ?_
        refine awp_region_draw mixed rfl (.r (op_loadR Try.isAgg41 (.plain rfl) rfl rfl) (.n (fun _ => op_nilCheckR (.plain rfl)) (.n (fun _ => op_fieldAddrR Try.underlying44 rfl rfl Try.sizeOf24 (.plain rfl)) (.n (fun _ => op_fieldAddrR Try.underlying24 rfl rfl Try.sizeOf22 (.plain rfl)) (.r (op_loadR Try.isAgg22 (.plain rfl) rfl rfl) (.n (fun _ => op_move (.plain rfl)) (.n (fun _ => op_move (.plain rfl)) (.n (fun _ => op_len (s := 0) Try.underlying35 (.plain rfl)) (.n (fun _ => op_sub (.plain rfl) (.plain rfl) ?_) (.n (fun _ => op_indexAddr Try.underlying35 Try.sizeOf3 (.plain rfl) (.plain rfl) (fun _ => rfl) ?_) (.n (fun _ => op_load Try.isAgg3 (.plain rfl)) (.n (fun _ => op_indexAddr Try.underlying22 Try.sizeOf35 (.plain rfl) (.plain rfl) (fun _ => rfl) ?_) (.n (fun _ => op_load Try.isAgg35 (.plain rfl)) (.n (fun _ => op_len (s := 0) Try.underlying35 (.plain rfl)) (.n (fun _ => op_move (.plain rfl)) (.nil _)))))))))))))))) ?d3 ?_
        · unfold InR; omega
        · omega
        · rw [show ((l.length : Int) - 1).toNat = l.length - 1 by omega]; exact hla
        · kernel_rfl
        refine awp_block ?_
        refine awp_loop (σ := Nat) (fun (i : Nat) => i ≤ (F.getD (lastF l).toNat []).length) (fun (i : Nat) => ⟨[(0, .pv (.ints l)), (1, .int (u : Nat)), (2, .pv (.rd [.i (q : Nat)])), (3, .ref 44 0), (4, .ref 4 0), (5, .ref 5 0), (9, .bool (decide (((q : Nat) : Int) < G))), (83, .pv (.ints (F.getD (lastF l).toNat []))), (84, .int ((F.getD (lastF l).toNat []).length : Nat)), (85, .int (i : Nat)), (1000900, .pin 900 (ι0 900)), (1000004, .pin 4 (ι0 4)), (1000005, .pin 5 (ι0 5)), (1000044, .pin 44 (ι0 44)), (1000002, .pin 2 (ι0 2)), (1000040, .pin 40 (ι0 40)), (1000007, .pin 7 (ι0 7)), (1000008, .pin 8 (ι0 8)), (1000041, .pin 41 (ι0 41)), (1000042, .pin 42 (ι0 42))], [(900, .yld ps asg bd [.pv .any, .pv .any, .ref 2 0, .pv (.rd [.i (u0 : Nat)]), .pv .any, .pv .any, .pv .any, .ref 7 0, .ref 8 0, .pv (.rd [.i (q : Nat)]), .pv .any, .pv .any, .pv .any, .pv .any, .pv .any, .pv .any, .pv .any, .pv .any, .pv .any, .pv .any, .pv .any, .pv .any, .pv .any, .pv .any, .pv .any, .pv .any, .pv .any, .pv .any, .pv .any, .pv .any, .pv .any, .pv .any, .int (F.length : Nat), .int (q : Nat), .pv .any, .pv .any, .pv .any, .pv .any, .pv .any, .pv .any, .pv .any, .pv .any, .pv .any, .pv .any, .clo (.func 24) [.pv (.rd [.i (q : Nat)]), .ref 44 0, .pv (.rd [.i (u0 : Nat)])], .pv .any, .pv .any, .pv .any, .pv .any, .pv .any, .pv .any, .pv .any, .pv .any, .pv .any, .pv .any, .pv .any, .pv .any, .pv .any, .pv .any, .pv .any, .pv .any, .pv .any, .pv .any, .pv .any, .pv .any, .pv .any, .pv .any, .pv .any, .pv .any, .pv .any, .pv .any, .pv .any, .pv .any, .pv .any, .pv .any, .pv .any, .pv .any, .pv .any, .pv .any, .pv .any, .pv .any, .pv .any, .pv .any, .pv .any, .pv .any, .pv .any, .pv .any, .pv .any, .pv .any, .pv .any, .pv .any, .pv .any, .pv .any, .pv .any, .pv .any, .pv .any, .pv .any, .pv .any, .pv .any, .pv .any, .pv .any]), (4, .box [.own 900]), (5, .box [.clo (.func 25) [.pv (.rd [.i (q : Nat)]), .ref 44 0, .ref 4 0, .ref 5 0]]), (44, .box [.ref 40 0]), (2, .box [.ref 40 0]), (40, .box [.pv (.i G), .pv (.rows F), .pv (.i Rd), .pv (.i Rw), .own 41, .own 42]), (7, .box [.int (A (k0 + (emD G F q l).length + (goTo (dgo G q u) (fun x => linD G F Rd Rw q f (l ++ [x]) (u ||| 2 ^ x.toNat)) (F.getD (lastF l).toNat []) i).length))]), (8, .box [.pv (.ints (B (k0 + (emD G F q l).length + (goTo (dgo G q u) (fun x => linD G F Rd Rw q f (l ++ [x]) (u ||| 2 ^ x.toNat)) (F.getD (lastF l).toNat []) i).length)))]), (41, .mq (C (k0 + (emD G F q l).length + (goTo (dgo G q u) (fun x => linD G F Rd Rw q f (l ++ [x]) (u ||| 2 ^ x.toNat)) (F.getD (lastF l).toNat []) i).length))), (42, .mq (E (k0 + (emD G F q l).length + (goTo (dgo G q u) (fun x => linD G F Rd Rw q f (l ++ [x]) (u ||| 2 ^ x.toNat)) (F.getD (lastF l).toNat []) i).length)))]⟩) (fun (i : Nat) => (F.getD (lastF l).toNat []).length - i) 0 ?_ (Ent.kept ⟨rfl, rfl, rfl, rfl, rfl, rfl, rfl, (congrArg (fun j => some (SV.pv (.ints (F.getD (l.getD j 0).toNat [])))) (show ((l.length : Int) - 1).toNat = l.length - 1 by omega)), (congrArg (fun j => some (SV.int ((F.getD (l.getD j 0).toNat []).length : Nat))) (show ((l.length : Int) - 1).toNat = l.length - 1 by omega)), rfl, rfl, rfl, rfl, rfl, rfl, rfl, rfl, rfl, rfl, rfl, trivial⟩ ⟨rfl, rfl, rfl, rfl, rfl, rfl, (congrArg (fun q => some (Blk.box [SV.int (A q)])) (hkk)), (congrArg (fun q => some (Blk.box [SV.pv (.ints (B q))])) (hkk)), (congrArg (fun q => some (Blk.mq (C q))) (hkk)), (congrArg (fun q => some (Blk.mq (E q))) (hkk)), trivial⟩) ?_
        · exact Nat.zero_le _
        rintro i hp
        try dsimp only at hp
        have hi := hp
        refine awp_seq ?_
        refine awp_region rfl (.n (fun _ => op_lss (.plain rfl) (.plain rfl)) (.nil _)) ?_
        refine awp_seq ?_
        refine awp_cond rfl (fun h => ?_) (fun h => ?_)
        · skip
          have h := of_decide_eq_true h
          have hfx := hS.fit (lastF l).toNat (by omega) i (by omega)
          refine awp_skip ?_
          refine awp_seq ?_
          refine awp_block ?_
          refine awp_seq ?_
          refine awp_region rfl (.n (fun _ => op_indexAddrN Try.underlying35 Try.sizeOf3 (.plain rfl) (.plain rfl) (fun _ => rfl) ?_) (.n (fun _ => op_load Try.isAgg3 (.plain rfl)) (.n (fun _ => op_assign (.plain rfl)) (.nil _)))) ?_
          · omega
          refine awp_seq ?_
          rcases split4 (decide ((u : Int) / 2 ^ ((F.getD (lastF l).toNat []).getD i 0).toNat % 2 = 0)) (decide (((q : Nat) : Int) < G)) (decide (((q : Nat) : Int) < ((F.getD (lastF l).toNat []).getD i 0))) with hc1 | ⟨hc1, hcr⟩ | ⟨hc1, hcr, hc3⟩ | ⟨hc1, hcr, hc3⟩
          · have hng : ¬ dgo G q u ((F.getD (lastF l).toNat []).getD i 0) = true := dgo_no (bit_cf hc1)
            have he : k0 + (emD G F q l).length + (goTo (dgo G q u) (fun x => linD G F Rd Rw q f (l ++ [x]) (u ||| 2 ^ x.toNat)) (F.getD (lastF l).toNat []) i).length = k0 + (emD G F q l).length + (goTo (dgo G q u) (fun x => linD G F Rd Rw q f (l ++ [x]) (u ||| 2 ^ x.toNat)) (F.getD (lastF l).toNat []) (i + 1)).length := by rw [goTo_no hng]
            refine awp_region_draw mixed rfl (.n (fun _ => op_move (.plain rfl)) (.n (fun _ => op_move (.plain rfl)) (.n (fun _ => op_shr (.plain rfl) (.plain rfl) ?_) (.n (fun _ => op_bit (.plain rfl) ?_) (.n (fun _ => OpT.boolEq hc1 (op_eql (.plain rfl) (.plain rfl))) (.n (fun _ => op_move (.plain rfl)) (.no rfl rfl rfl (.no rfl rfl rfl (.noo rfl rfl (.noo rfl rfl (.noo rfl rfl (.no rfl rfl rfl (.n (fun _ => op_and (.plain rfl) (.plain rfl) (.plain rfl) (fun h => absurd h (by decide))) (.n (fun _ => op_move (.plain rfl)) (.no rfl rfl rfl (.no rfl rfl rfl (.no rfl rfl rfl (.no rfl rfl rfl (.no rfl rfl rfl (.no rfl rfl rfl (.no rfl rfl rfl (.no rfl rfl rfl (.no rfl rfl rfl (.no rfl rfl rfl (.no rfl rfl rfl (.no rfl rfl rfl (.n (fun _ => op_and (.plain rfl) (.plain rfl) (.plain rfl) (fun h => absurd h (by decide))) (.nil _)))))))))))))))))))))))))))) ?d4 ?_
            · omega
            · exact Int.ediv_nonneg (by omega) (by rw [← Int.one_mul (2 ^ _), shl_one]; exact Int.natCast_nonneg _)
            · kernel_rfl
            refine awp_cond rfl (fun h => ?_) (fun h => ?_)
            · skip
              exfalso
              simp at h
            · skip
              refine awp_skip ?_
              refine awp_region rfl (.n (fun _ => op_add (.plain rfl) (.plain rfl) ?_) (.n (fun _ => op_move (.plain rfl)) (.nil _))) ?_
              · unfold InR; omega
              exact ⟨i + 1, by omega, by dsimp only; omega, (Ent.kept ⟨rfl, rfl, rfl, rfl, rfl, rfl, rfl, rfl, rfl, rfl, rfl, rfl, rfl, rfl, rfl, rfl, rfl, rfl, rfl, rfl, trivial⟩ ⟨rfl, rfl, rfl, rfl, rfl, rfl, (congrArg (fun q => some (Blk.box [SV.int (A q)])) (he)), (congrArg (fun q => some (Blk.box [SV.pv (.ints (B q))])) (he)), (congrArg (fun q => some (Blk.mq (C q))) (he)), (congrArg (fun q => some (Blk.mq (E q))) (he)), trivial⟩)⟩
          · have hgo : dgo G q u ((F.getD (lastF l).toNat []).getD i 0) = true := dgo_yes (bit_ct hc1) (.inl hcr)
            have hsn := hs2.go (show i < (F.getD (lastF l).toNat []).length by omega) hgo
            have he : k0 + (emD G F q l).length + (goTo (dgo G q u) (fun x => linD G F Rd Rw q f (l ++ [x]) (u ||| 2 ^ x.toNat)) (F.getD (lastF l).toNat []) i).length + (linD G F Rd Rw q f (l ++ [((F.getD (lastF l).toNat []).getD i 0)]) (u ||| 2 ^ ((F.getD (lastF l).toNat []).getD i 0).toNat)).length = k0 + (emD G F q l).length + (goTo (dgo G q u) (fun x => linD G F Rd Rw q f (l ++ [x]) (u ||| 2 ^ x.toNat)) (F.getD (lastF l).toNat []) (i + 1)).length := by rw [← goTo_yes hgo, List.length_append]; omega
            refine awp_region_drawG mixed rfl (.n (fun _ => op_move (.plain rfl)) (.n (fun _ => op_move (.plain rfl)) (.n (fun _ => op_shr (.plain rfl) (.plain rfl) ?_) (.n (fun _ => op_bit (.plain rfl) ?_) (.n (fun _ => OpT.boolEq hc1 (op_eql (.plain rfl) (.plain rfl))) (.n (fun _ => op_move (.plain rfl)) (.kn rfl rfl (fun _ => op_move (.plain rfl)) (.kn rfl rfl (fun _ => OpT.boolEq hcr (op_move (.plain rfl))) (.no rfl rfl rfl (.no rfl rfl rfl (.no rfl rfl rfl (.kn rfl rfl (fun _ => op_or (.plain rfl) (.plain rfl) (.plain rfl) (fun h => absurd h (by decide))) (.n (fun _ => op_and0 (.plain rfl) (.plain rfl) (.plain rfl)) (.n (fun _ => op_move (.plain rfl)) (.klook rfl rfl 5 rfl (fun _ hl => op_loadR Try.isAgg47 (.plain rfl)  hl rfl) (.kn rfl rfl (fun _ => op_move (.plain rfl)) (.ke rfl rfl (op_callO (vals := [_]) 105 Try.call26 ⟨⟨_, (.plain rfl), rfl⟩, trivial⟩ (clone_fc _ ?_) (by simp [PV.flat]) rfl) rfl (.kn rfl rfl (fun _ => op_move (.plain rfl)) (.kn rfl rfl (fun _ => op_slit (pp := [(0, _)]) (α := Int) (d := 0) (f := (fun n => [.int .i64 n])) [_] ety35 rfl ⟨rfl, (.plain rfl), (by simp), trivial⟩ rfl (by decide) rfl) (.ke rfl rfl ((op_append (id' := 108) (α := Int) (d := 0) (f := (fun n => [.int .i64 n])) ety35 Try.underlying35 (fun _ => rfl) (fun _ => rfl) (.plain rfl) rfl (.plain rfl) rfl ?_).given rfl) rfl (.kn rfl rfl (fun _ => op_move (.plain rfl)) (.kn rfl rfl (fun _ => op_move (.plain rfl)) (.kn rfl rfl (fun _ => op_shl (.plain rfl) (.plain rfl) ?_) (.kn rfl rfl (fun _ => OpT.intEq (or_shl _ _) (op_bor (.plain rfl) (.plain rfl) ?_)) (.ke rfl rfl (op_callVH (ags := [_, _]) (fun k => [0, 0, 2, 0, 4, 5, 0, 7, 8, 0, 0, 0, 0, 0, 0, 0, 0, 0, 0, 0, 0, 0, 0, 0, 0, 0, 0, 0, 0, 0, 0, 0, 0, 0, 0, 0, 0, 0, 0, 0, 40, 41, 42, 0, 44, 0, 0, 0, 0, 0, 0, 0, 0, 0, 0, 0, 0, 0, 0, 0, 0, 0, 0, 0, 0, 0, 0, 0, 0, 0, 0, 0, 0, 0, 0, 0, 0, 0, 0, 0, 0, 0, 0, 0, 0, 0, 0, 0, 0, 0, 0, 0, 0, 0, 0, 0, 0, 0, 0, 0, 0, 0, 0, 0, 0, 0, 0, 0, 0, 0, 0, 0, 0, 0, 0, 0, 0, 0, 0, 0, 0, 0, 0, 0, 0, 0, 0, 0, 0, 0, 0, 0, 0, 0, 0, 0, 0, 0, 0, 0, 0, 0, 0, 0, 0, 0, 0, 0, 0, 0, 0, 0, 0, 0, 0, 0, 0, 0, 0, 0, 0, 0, 0, 0, 0, 0, 0, 0, 0, 0, 0, 0, 0, 0, 0, 0, 0, 0, 0, 0, 0, 0, 0, 0, 0, 0, 0, 0, 0, 0, 0, 0, 0, 0, 0, 0, 0, 0, 0, 0, 0, 0, 0, 0, 0, 0, 0, 0, 0, 0, 0, 0, 0, 0, 0, 0, 0, 0, 0, 0, 0, 0, 0, 0, 0, 0, 0, 0, 0, 0, 0, 0, 0, 0, 0, 0, 0, 0, 0, 0, 0, 0, 0, 0, 0, 0, 0, 0, 0, 0, 0, 0, 0, 0, 0, 0, 0, 0, 0, 0, 0, 0, 0, 0, 0, 0, 0, 0, 0, 0, 0, 0, 0, 0, 0, 0, 0, 0, 0, 0, 0, 0, 0, 0, 0, 0, 0, 0, 0, 0, 0, 0, 0, 0, 0, 0, 0, 0, 0, 0, 0, 0, 0, 0, 0, 0, 0, 0, 0, 0, 0, 0, 0, 0, 0, 0, 0, 0, 0, 0, 0, 0, 0, 0, 0, 0, 0, 0, 0, 0, 0, 0, 0, 0, 0, 0, 0, 0, 0, 0, 0, 0, 0, 0, 0, 0, 0, 0, 0, 0, 0, 0, 0, 0, 0, 0, 0, 0, 0, 0, 0, 0, 0, 0, 0, 0, 0, 0, 0, 0, 0, 0, 0, 0, 0, 0, 0, 0, 0, 0, 0, 0, 0, 0, 0, 0, 0, 0, 0, 0, 0, 0, 0, 0, 0, 0, 0, 0, 0, 0, 0, 0, 0, 0, 0, 0, 0, 0, 0, 0, 0, 0, 0, 0, 0, 0, 0, 0, 0, 0, 0, 0, 0, 0, 0, 0, 0, 0, 0, 0, 0, 0, 0, 0, 0, 0, 0, 0, 0, 0, 0, 0, 0, 0, 0, 0, 0, 0, 0, 0, 0, 0, 0, 0, 0, 0, 0, 0, 0, 0, 0, 0, 0, 0, 0, 0, 0, 0, 0, 0, 0, 0, 0, 0, 0, 0, 0, 0, 0, 0, 0, 0, 0, 0, 0, 0, 0, 0, 0, 0, 0, 0, 0, 0, 0, 0, 0, 0, 0, 0, 0, 0, 0, 0, 0, 0, 0, 0, 0, 0, 0, 0, 0, 0, 0, 0, 0, 0, 0, 0, 0, 0, 0, 0, 0, 0, 0, 0, 0, 0, 0, 0, 0, 0, 0, 0, 0, 0, 0, 0, 0, 0, 0, 0, 0, 0, 0, 0, 0, 0, 0, 0, 0, 0, 0, 0, 0, 0, 0, 0, 0, 0, 0, 0, 0, 0, 0, 0, 0, 0, 0, 0, 0, 0, 0, 0, 0, 0, 0, 0, 0, 0, 0, 0, 0, 0, 0, 0, 0, 0, 0, 0, 0, 0, 0, 0, 0, 0, 0, 0, 0, 0, 0, 0, 0, 0, 0, 0, 0, 0, 0, 0, 0, 0, 0, 0, 0, 0, 0, 0, 0, 0, 0, 0, 0, 0, 0, 0, 0, 0, 0, 0, 0, 0, 0, 0, 0, 0, 0, 0, 0, 0, 0, 0, 0, 0, 0, 0, 0, 0, 0, 0, 0, 0, 0, 0, 0, 0, 0, 0, 0, 0, 0, 0, 0, 0, 0, 0, 0, 0, 0, 0, 0, 0, 0, 0, 0, 0, 0, 0, 0, 0, 0, 0, 0, 0, 0, 0, 0, 0, 0, 0, 0, 0, 0, 0, 0, 0, 0, 0, 0, 0, 0, 0, 0, 0, 0, 0, 0, 0, 0, 0, 0, 0, 0, 0, 0, 0, 0, 0, 0, 0, 0, 0, 0, 0, 0, 0, 0, 0, 0, 0, 0, 0, 0, 0, 0, 0, 0, 0, 0, 0, 0, 0, 0, 0, 0, 0, 0, 0, 0, 0, 0, 0, 0, 0, 0, 0, 0, 0, 0, 0, 0, 0, 0, 0, 0, 0, 0, 0, 0, 0, 0, 0, 0, 0, 0, 0, 0, 0, 0, 0, 0, 0, 0, 0, 0, 0, 0, 0, 0, 0, 0, 0, 0, 0, 0, 0, 0, 0, 0, 0, 0, 0, 0, 0, 0, 0, 0, 0, 0, 0, 0, 0, 0, 0, 0, 0, 0, 0, 0, 0, 0, 0, 0, 0, 0, 0, 0, 0, 0, 0, 0, 0, 0, 0, 0, 0, 0, 0, 0, 0, 0, 0, 0, 0, 0, 0, 0, 0, 0, 0, 0, 0, 0, 0, 0, 0, 0, 0, 0, 0, 0, 0, 0, 0, 0, 0, 0, 0, 0, 0, 0, 0, 0, 0, 0, 0, 0, 0, 0, 0, 0, 0, 0, 0, 0, 0, 0, 0, 0, 0, 0, 0, 0, 0, 0, 0, 0, 0, 900].getD k 0) Try.call25 (ih f (by omega) (l ++ [((F.getD (lastF l).toNat []).getD i 0)]) (u ||| 2 ^ ((F.getD (lastF l).toNat []).getD i 0).toNat) (k0 + (emD G F q l).length + (goTo (dgo G q u) (fun x => linD G F Rd Rw q f (l ++ [x]) (u ||| 2 ^ x.toNat)) (F.getD (lastF l).toNat []) i).length) ?_ ?_ ?_ ?_ ?_ rfl) (.plain rfl) ⟨(.plain rfl), (.plain rfl), trivial⟩ ⟨rfl, rfl, rfl, rfl, rfl, rfl, rfl, rfl, rfl, rfl, trivial⟩ (by kernel_rfl)) rfl (.kn rfl rfl (fun _ => op_not (.plain rfl)) (.n (fun _ => op_and0 (.plain rfl) (.plain rfl) (.plain rfl)) (.nil _)))))))))))))))))))))))))))) ?d5 ?dg5 ?_
            · omega
            · exact Int.ediv_nonneg (by omega) (by rw [← Int.one_mul (2 ^ _), shl_one]; exact Int.natCast_nonneg _)
            · try simp only [beq_iff_eq, beq_true, beq_false, Bool.and_eq_true, decide_eq_true_eq, decide_eq_false_iff_not, Bool.not_eq_true', Bool.or_eq_true, Bool.or_eq_false_iff] at hg
              first | omega | (simp; omega)
            · try simp only [beq_iff_eq, beq_true, beq_false, Bool.and_eq_true, decide_eq_true_eq, decide_eq_false_iff_not, Bool.not_eq_true', Bool.or_eq_true, Bool.or_eq_false_iff] at hg
              first | omega | (simp; omega)
            · try simp only [beq_iff_eq, beq_true, beq_false, Bool.and_eq_true, decide_eq_true_eq, decide_eq_false_iff_not, Bool.not_eq_true', Bool.or_eq_true, Bool.or_eq_false_iff] at hg
              exact ⟨by omega, by omega, shl_in (by omega)⟩
            · try simp only [beq_iff_eq, beq_true, beq_false, Bool.and_eq_true, decide_eq_true_eq, decide_eq_false_iff_not, Bool.not_eq_true', Bool.or_eq_true, Bool.or_eq_false_iff] at hg
              exact ⟨by omega, by rw [shl_one]; exact Int.natCast_nonneg _⟩
            · try simp only [beq_iff_eq, beq_true, beq_false, Bool.and_eq_true, decide_eq_true_eq, decide_eq_false_iff_not, Bool.not_eq_true', Bool.or_eq_true, Bool.or_eq_false_iff] at hg
              simp
            · try simp only [beq_iff_eq, beq_true, beq_false, Bool.and_eq_true, decide_eq_true_eq, decide_eq_false_iff_not, Bool.not_eq_true', Bool.or_eq_true, Bool.or_eq_false_iff] at hg
              simp; omega
            · try simp only [beq_iff_eq, beq_true, beq_false, Bool.and_eq_true, decide_eq_true_eq, decide_eq_false_iff_not, Bool.not_eq_true', Bool.or_eq_true, Bool.or_eq_false_iff] at hg
              rw [last_snoc]; omega
            · try simp only [beq_iff_eq, beq_true, beq_false, Bool.and_eq_true, decide_eq_true_eq, decide_eq_false_iff_not, Bool.not_eq_true', Bool.or_eq_true, Bool.or_eq_false_iff] at hg
              exact or_lt hu (by omega)
            · try simp only [beq_iff_eq, beq_true, beq_false, Bool.and_eq_true, decide_eq_true_eq, decide_eq_false_iff_not, Bool.not_eq_true', Bool.or_eq_true, Bool.or_eq_false_iff] at hg
              exact hsn
            · kernel_rfl
            · exact gOk_one 14 5 _ [16, 19] rfl (by kernel_rfl) rfl (by kernel_rfl) (fun k hk => by simp only [List.mem_cons, List.not_mem_nil, or_false] at hk; first | (subst hk; rfl) | (rcases hk with hk | hk <;> subst hk <;> rfl))
            refine awp_cond rfl (fun h => ?_) (fun h => ?_)
            · skip
              exfalso
              simp at h
            · skip
              refine awp_skip ?_
              refine awp_region rfl (.n (fun _ => op_add (.plain rfl) (.plain rfl) ?_) (.n (fun _ => op_move (.plain rfl)) (.nil _))) ?_
              · unfold InR; omega
              exact ⟨i + 1, by omega, by dsimp only; omega, (Ent.kept ⟨rfl, rfl, rfl, rfl, rfl, rfl, rfl, rfl, rfl, rfl, rfl, rfl, rfl, rfl, rfl, rfl, rfl, rfl, rfl, rfl, trivial⟩ ⟨rfl, rfl, rfl, rfl, rfl, rfl, (congrArg (fun q => some (Blk.box [SV.int (A q)])) (he)), (congrArg (fun q => some (Blk.box [SV.pv (.ints (B q))])) (he)), (congrArg (fun q => some (Blk.mq (C q))) (he)), (congrArg (fun q => some (Blk.mq (E q))) (he)), trivial⟩)⟩
          · have hgo : dgo G q u ((F.getD (lastF l).toNat []).getD i 0) = true := dgo_yes (bit_ct hc1) (.inr hc3)
            have hsn := hs2.go (show i < (F.getD (lastF l).toNat []).length by omega) hgo
            have he : k0 + (emD G F q l).length + (goTo (dgo G q u) (fun x => linD G F Rd Rw q f (l ++ [x]) (u ||| 2 ^ x.toNat)) (F.getD (lastF l).toNat []) i).length + (linD G F Rd Rw q f (l ++ [((F.getD (lastF l).toNat []).getD i 0)]) (u ||| 2 ^ ((F.getD (lastF l).toNat []).getD i 0).toNat)).length = k0 + (emD G F q l).length + (goTo (dgo G q u) (fun x => linD G F Rd Rw q f (l ++ [x]) (u ||| 2 ^ x.toNat)) (F.getD (lastF l).toNat []) (i + 1)).length := by rw [← goTo_yes hgo, List.length_append]; omega
            refine awp_region_drawG mixed rfl (.n (fun _ => op_move (.plain rfl)) (.n (fun _ => op_move (.plain rfl)) (.n (fun _ => op_shr (.plain rfl) (.plain rfl) ?_) (.n (fun _ => op_bit (.plain rfl) ?_) (.n (fun _ => OpT.boolEq hc1 (op_eql (.plain rfl) (.plain rfl))) (.n (fun _ => op_move (.plain rfl)) (.kn rfl rfl (fun _ => op_move (.plain rfl)) (.kn rfl rfl (fun _ => OpT.boolEq hcr (op_move (.plain rfl))) (.kn rfl rfl (fun _ => op_move (.plain rfl)) (.kn rfl rfl (fun _ => op_load Try.isAgg3 (.plain rfl)) (.kn rfl rfl (fun _ => OpT.boolEq hc3 (op_gtr (.plain rfl) (.plain rfl))) (.kn rfl rfl (fun _ => op_or0 (.plain rfl) (.plain rfl) (.plain rfl)) (.n (fun _ => op_and0 (.plain rfl) (.plain rfl) (.plain rfl)) (.n (fun _ => op_move (.plain rfl)) (.klook rfl rfl 5 rfl (fun _ hl => op_loadR Try.isAgg47 (.plain rfl)  hl rfl) (.kn rfl rfl (fun _ => op_move (.plain rfl)) (.ke rfl rfl (op_callO (vals := [_]) 105 Try.call26 ⟨⟨_, (.plain rfl), rfl⟩, trivial⟩ (clone_fc _ ?_) (by simp [PV.flat]) rfl) rfl (.kn rfl rfl (fun _ => op_move (.plain rfl)) (.kn rfl rfl (fun _ => op_slit (pp := [(0, _)]) (α := Int) (d := 0) (f := (fun n => [.int .i64 n])) [_] ety35 rfl ⟨rfl, (.plain rfl), (by simp), trivial⟩ rfl (by decide) rfl) (.ke rfl rfl ((op_append (id' := 108) (α := Int) (d := 0) (f := (fun n => [.int .i64 n])) ety35 Try.underlying35 (fun _ => rfl) (fun _ => rfl) (.plain rfl) rfl (.plain rfl) rfl ?_).given rfl) rfl (.kn rfl rfl (fun _ => op_move (.plain rfl)) (.kn rfl rfl (fun _ => op_move (.plain rfl)) (.kn rfl rfl (fun _ => op_shl (.plain rfl) (.plain rfl) ?_) (.kn rfl rfl (fun _ => OpT.intEq (or_shl _ _) (op_bor (.plain rfl) (.plain rfl) ?_)) (.ke rfl rfl (op_callVH (ags := [_, _]) (fun k => [0, 0, 2, 0, 4, 5, 0, 7, 8, 0, 0, 0, 0, 0, 0, 0, 0, 0, 0, 0, 0, 0, 0, 0, 0, 0, 0, 0, 0, 0, 0, 0, 0, 0, 0, 0, 0, 0, 0, 0, 40, 41, 42, 0, 44, 0, 0, 0, 0, 0, 0, 0, 0, 0, 0, 0, 0, 0, 0, 0, 0, 0, 0, 0, 0, 0, 0, 0, 0, 0, 0, 0, 0, 0, 0, 0, 0, 0, 0, 0, 0, 0, 0, 0, 0, 0, 0, 0, 0, 0, 0, 0, 0, 0, 0, 0, 0, 0, 0, 0, 0, 0, 0, 0, 0, 0, 0, 0, 0, 0, 0, 0, 0, 0, 0, 0, 0, 0, 0, 0, 0, 0, 0, 0, 0, 0, 0, 0, 0, 0, 0, 0, 0, 0, 0, 0, 0, 0, 0, 0, 0, 0, 0, 0, 0, 0, 0, 0, 0, 0, 0, 0, 0, 0, 0, 0, 0, 0, 0, 0, 0, 0, 0, 0, 0, 0, 0, 0, 0, 0, 0, 0, 0, 0, 0, 0, 0, 0, 0, 0, 0, 0, 0, 0, 0, 0, 0, 0, 0, 0, 0, 0, 0, 0, 0, 0, 0, 0, 0, 0, 0, 0, 0, 0, 0, 0, 0, 0, 0, 0, 0, 0, 0, 0, 0, 0, 0, 0, 0, 0, 0, 0, 0, 0, 0, 0, 0, 0, 0, 0, 0, 0, 0, 0, 0, 0, 0, 0, 0, 0, 0, 0, 0, 0, 0, 0, 0, 0, 0, 0, 0, 0, 0, 0, 0, 0, 0, 0, 0, 0, 0, 0, 0, 0, 0, 0, 0, 0, 0, 0, 0, 0, 0, 0, 0, 0, 0, 0, 0, 0, 0, 0, 0, 0, 0, 0, 0, 0, 0, 0, 0, 0, 0, 0, 0, 0, 0, 0, 0, 0, 0, 0, 0, 0, 0, 0, 0, 0, 0, 0, 0, 0, 0, 0, 0, 0, 0, 0, 0, 0, 0, 0, 0, 0, 0, 0, 0, 0, 0, 0, 0, 0, 0, 0, 0, 0, 0, 0, 0, 0, 0, 0, 0, 0, 0, 0, 0, 0, 0, 0, 0, 0, 0, 0, 0, 0, 0, 0, 0, 0, 0, 0, 0, 0, 0, 0, 0, 0, 0, 0, 0, 0, 0, 0, 0, 0, 0, 0, 0, 0, 0, 0, 0, 0, 0, 0, 0, 0, 0, 0, 0, 0, 0, 0, 0, 0, 0, 0, 0, 0, 0, 0, 0, 0, 0, 0, 0, 0, 0, 0, 0, 0, 0, 0, 0, 0, 0, 0, 0, 0, 0, 0, 0, 0, 0, 0, 0, 0, 0, 0, 0, 0, 0, 0, 0, 0, 0, 0, 0, 0, 0, 0, 0, 0, 0, 0, 0, 0, 0, 0, 0, 0, 0, 0, 0, 0, 0, 0, 0, 0, 0, 0, 0, 0, 0, 0, 0, 0, 0, 0, 0, 0, 0, 0, 0, 0, 0, 0, 0, 0, 0, 0, 0, 0, 0, 0, 0, 0, 0, 0, 0, 0, 0, 0, 0, 0, 0, 0, 0, 0, 0, 0, 0, 0, 0, 0, 0, 0, 0, 0, 0, 0, 0, 0, 0, 0, 0, 0, 0, 0, 0, 0, 0, 0, 0, 0, 0, 0, 0, 0, 0, 0, 0, 0, 0, 0, 0, 0, 0, 0, 0, 0, 0, 0, 0, 0, 0, 0, 0, 0, 0, 0, 0, 0, 0, 0, 0, 0, 0, 0, 0, 0, 0, 0, 0, 0, 0, 0, 0, 0, 0, 0, 0, 0, 0, 0, 0, 0, 0, 0, 0, 0, 0, 0, 0, 0, 0, 0, 0, 0, 0, 0, 0, 0, 0, 0, 0, 0, 0, 0, 0, 0, 0, 0, 0, 0, 0, 0, 0, 0, 0, 0, 0, 0, 0, 0, 0, 0, 0, 0, 0, 0, 0, 0, 0, 0, 0, 0, 0, 0, 0, 0, 0, 0, 0, 0, 0, 0, 0, 0, 0, 0, 0, 0, 0, 0, 0, 0, 0, 0, 0, 0, 0, 0, 0, 0, 0, 0, 0, 0, 0, 0, 0, 0, 0, 0, 0, 0, 0, 0, 0, 0, 0, 0, 0, 0, 0, 0, 0, 0, 0, 0, 0, 0, 0, 0, 0, 0, 0, 0, 0, 0, 0, 0, 0, 0, 0, 0, 0, 0, 0, 0, 0, 0, 0, 0, 0, 0, 0, 0, 0, 0, 0, 0, 0, 0, 0, 0, 0, 0, 0, 0, 0, 0, 0, 0, 0, 0, 0, 0, 0, 0, 0, 0, 0, 0, 0, 0, 0, 0, 0, 0, 0, 0, 0, 0, 0, 0, 0, 0, 0, 0, 0, 0, 0, 0, 0, 0, 0, 0, 0, 0, 0, 0, 0, 0, 0, 0, 0, 0, 0, 0, 0, 0, 0, 0, 0, 0, 0, 0, 0, 0, 0, 0, 0, 0, 0, 0, 0, 0, 0, 0, 0, 0, 0, 0, 0, 0, 0, 0, 0, 0, 0, 0, 0, 0, 0, 0, 0, 0, 0, 0, 0, 0, 0, 0, 0, 0, 0, 0, 0, 0, 0, 0, 0, 0, 0, 0, 0, 0, 0, 0, 0, 0, 0, 0, 0, 0, 0, 0, 0, 0, 0, 0, 0, 0, 0, 0, 0, 0, 0, 0, 0, 0, 0, 0, 0, 0, 0, 0, 0, 0, 0, 0, 0, 0, 0, 0, 0, 0, 0, 0, 0, 0, 0, 0, 0, 0, 0, 0, 0, 0, 0, 0, 0, 0, 0, 0, 0, 0, 0, 0, 0, 0, 0, 0, 0, 0, 0, 0, 900].getD k 0) Try.call25 (ih f (by omega) (l ++ [((F.getD (lastF l).toNat []).getD i 0)]) (u ||| 2 ^ ((F.getD (lastF l).toNat []).getD i 0).toNat) (k0 + (emD G F q l).length + (goTo (dgo G q u) (fun x => linD G F Rd Rw q f (l ++ [x]) (u ||| 2 ^ x.toNat)) (F.getD (lastF l).toNat []) i).length) ?_ ?_ ?_ ?_ ?_ rfl) (.plain rfl) ⟨(.plain rfl), (.plain rfl), trivial⟩ ⟨rfl, rfl, rfl, rfl, rfl, rfl, rfl, rfl, rfl, rfl, trivial⟩ (by kernel_rfl)) rfl (.kn rfl rfl (fun _ => op_not (.plain rfl)) (.n (fun _ => op_and0 (.plain rfl) (.plain rfl) (.plain rfl)) (.nil _)))))))))))))))))))))))))))) ?d6 ?dg6 ?_
            · omega
            · exact Int.ediv_nonneg (by omega) (by rw [← Int.one_mul (2 ^ _), shl_one]; exact Int.natCast_nonneg _)
            · try simp only [beq_iff_eq, beq_true, beq_false, Bool.and_eq_true, decide_eq_true_eq, decide_eq_false_iff_not, Bool.not_eq_true', Bool.or_eq_true, Bool.or_eq_false_iff] at hg
              first | omega | (simp; omega)
            · try simp only [beq_iff_eq, beq_true, beq_false, Bool.and_eq_true, decide_eq_true_eq, decide_eq_false_iff_not, Bool.not_eq_true', Bool.or_eq_true, Bool.or_eq_false_iff] at hg
              first | omega | (simp; omega)
            · try simp only [beq_iff_eq, beq_true, beq_false, Bool.and_eq_true, decide_eq_true_eq, decide_eq_false_iff_not, Bool.not_eq_true', Bool.or_eq_true, Bool.or_eq_false_iff] at hg
              exact ⟨by omega, by omega, shl_in (by omega)⟩
            · try simp only [beq_iff_eq, beq_true, beq_false, Bool.and_eq_true, decide_eq_true_eq, decide_eq_false_iff_not, Bool.not_eq_true', Bool.or_eq_true, Bool.or_eq_false_iff] at hg
              exact ⟨by omega, by rw [shl_one]; exact Int.natCast_nonneg _⟩
            · try simp only [beq_iff_eq, beq_true, beq_false, Bool.and_eq_true, decide_eq_true_eq, decide_eq_false_iff_not, Bool.not_eq_true', Bool.or_eq_true, Bool.or_eq_false_iff] at hg
              simp
            · try simp only [beq_iff_eq, beq_true, beq_false, Bool.and_eq_true, decide_eq_true_eq, decide_eq_false_iff_not, Bool.not_eq_true', Bool.or_eq_true, Bool.or_eq_false_iff] at hg
              simp; omega
            · try simp only [beq_iff_eq, beq_true, beq_false, Bool.and_eq_true, decide_eq_true_eq, decide_eq_false_iff_not, Bool.not_eq_true', Bool.or_eq_true, Bool.or_eq_false_iff] at hg
              rw [last_snoc]; omega
            · try simp only [beq_iff_eq, beq_true, beq_false, Bool.and_eq_true, decide_eq_true_eq, decide_eq_false_iff_not, Bool.not_eq_true', Bool.or_eq_true, Bool.or_eq_false_iff] at hg
              exact or_lt hu (by omega)
            · try simp only [beq_iff_eq, beq_true, beq_false, Bool.and_eq_true, decide_eq_true_eq, decide_eq_false_iff_not, Bool.not_eq_true', Bool.or_eq_true, Bool.or_eq_false_iff] at hg
              exact hsn
            · kernel_rfl
            · exact gOk_one 14 5 _ [16, 19] rfl (by kernel_rfl) rfl (by kernel_rfl) (fun k hk => by simp only [List.mem_cons, List.not_mem_nil, or_false] at hk; first | (subst hk; rfl) | (rcases hk with hk | hk <;> subst hk <;> rfl))
            refine awp_cond rfl (fun h => ?_) (fun h => ?_)
            · skip
              exfalso
              simp at h
            · skip
              refine awp_skip ?_
              refine awp_region rfl (.n (fun _ => op_add (.plain rfl) (.plain rfl) ?_) (.n (fun _ => op_move (.plain rfl)) (.nil _))) ?_
              · unfold InR; omega
              exact ⟨i + 1, by omega, by dsimp only; omega, (Ent.kept ⟨rfl, rfl, rfl, rfl, rfl, rfl, rfl, rfl, rfl, rfl, rfl, rfl, rfl, rfl, rfl, rfl, rfl, rfl, rfl, rfl, trivial⟩ ⟨rfl, rfl, rfl, rfl, rfl, rfl, (congrArg (fun q => some (Blk.box [SV.int (A q)])) (he)), (congrArg (fun q => some (Blk.box [SV.pv (.ints (B q))])) (he)), (congrArg (fun q => some (Blk.mq (C q))) (he)), (congrArg (fun q => some (Blk.mq (E q))) (he)), trivial⟩)⟩
          · have hng : ¬ dgo G q u ((F.getD (lastF l).toNat []).getD i 0) = true := dgo_no2 hcr hc3
            have he : k0 + (emD G F q l).length + (goTo (dgo G q u) (fun x => linD G F Rd Rw q f (l ++ [x]) (u ||| 2 ^ x.toNat)) (F.getD (lastF l).toNat []) i).length = k0 + (emD G F q l).length + (goTo (dgo G q u) (fun x => linD G F Rd Rw q f (l ++ [x]) (u ||| 2 ^ x.toNat)) (F.getD (lastF l).toNat []) (i + 1)).length := by rw [goTo_no hng]
            refine awp_region_draw mixed rfl (.n (fun _ => op_move (.plain rfl)) (.n (fun _ => op_move (.plain rfl)) (.n (fun _ => op_shr (.plain rfl) (.plain rfl) ?_) (.n (fun _ => op_bit (.plain rfl) ?_) (.n (fun _ => OpT.boolEq hc1 (op_eql (.plain rfl) (.plain rfl))) (.n (fun _ => op_move (.plain rfl)) (.kn rfl rfl (fun _ => op_move (.plain rfl)) (.kn rfl rfl (fun _ => OpT.boolEq hcr (op_move (.plain rfl))) (.kn rfl rfl (fun _ => op_move (.plain rfl)) (.kn rfl rfl (fun _ => op_load Try.isAgg3 (.plain rfl)) (.kn rfl rfl (fun _ => OpT.boolEq hc3 (op_gtr (.plain rfl) (.plain rfl))) (.kn rfl rfl (fun _ => op_or0 (.plain rfl) (.plain rfl) (.plain rfl)) (.n (fun _ => op_and0 (.plain rfl) (.plain rfl) (.plain rfl)) (.n (fun _ => op_move (.plain rfl)) (.no rfl rfl rfl (.no rfl rfl rfl (.no rfl rfl rfl (.no rfl rfl rfl (.no rfl rfl rfl (.no rfl rfl rfl (.no rfl rfl rfl (.no rfl rfl rfl (.no rfl rfl rfl (.no rfl rfl rfl (.no rfl rfl rfl (.no rfl rfl rfl (.n (fun _ => op_and (.plain rfl) (.plain rfl) (.plain rfl) (fun h => absurd h (by decide))) (.nil _)))))))))))))))))))))))))))) ?d7 ?_
            · omega
            · exact Int.ediv_nonneg (by omega) (by rw [← Int.one_mul (2 ^ _), shl_one]; exact Int.natCast_nonneg _)
            · kernel_rfl
            refine awp_cond rfl (fun h => ?_) (fun h => ?_)
            · skip
              exfalso
              simp at h
            · skip
              refine awp_skip ?_
              refine awp_region rfl (.n (fun _ => op_add (.plain rfl) (.plain rfl) ?_) (.n (fun _ => op_move (.plain rfl)) (.nil _))) ?_
              · unfold InR; omega
              exact ⟨i + 1, by omega, by dsimp only; omega, (Ent.kept ⟨rfl, rfl, rfl, rfl, rfl, rfl, rfl, rfl, rfl, rfl, rfl, rfl, rfl, rfl, rfl, rfl, rfl, rfl, rfl, rfl, trivial⟩ ⟨rfl, rfl, rfl, rfl, rfl, rfl, (congrArg (fun q => some (Blk.box [SV.int (A q)])) (he)), (congrArg (fun q => some (Blk.box [SV.pv (.ints (B q))])) (he)), (congrArg (fun q => some (Blk.mq (C q))) (he)), (congrArg (fun q => some (Blk.mq (E q))) (he)), trivial⟩)⟩
        · skip
          have h := of_decide_eq_false h
          refine awp_exit ?_
          refine awp_seq ?_
          refine awp_region rfl (.n (fun _ => op_assign (.plain rfl)) (.nil _)) ?_
          refine awp_ret ?_
          refine retH.ret ?_
          refine retH1 rfl rfl ⟨rfl, rfl, rfl, rfl, rfl, rfl, (congrArg (fun q => some (Blk.box [SV.int (A q)])) (by rw [linD_go hst, List.length_append, show i = (F.getD (lastF l).toNat []).length by omega]; omega)), (congrArg (fun q => some (Blk.box [SV.pv (.ints (B q))])) (by rw [linD_go hst, List.length_append, show i = (F.getD (lastF l).toNat []).length by omega]; omega)), (congrArg (fun q => some (Blk.mq (C q))) (by rw [linD_go hst, List.length_append, show i = (F.getD (lastF l).toNat []).length by omega]; omega)), (congrArg (fun q => some (Blk.mq (E q))) (by rw [linD_go hst, List.length_append, show i = (F.getD (lastF l).toNat []).length by omega]; omega)), trivial⟩ ⟨.inr rfl, .inr rfl, .inr rfl, .inr rfl, .inr rfl, .inr rfl, .inr rfl, .inr rfl, .inr rfl, .inr rfl, trivial⟩ ?_
          rfl
  · have hEM : emDP G F q l := ⟨of_decide_eq_true hc1, .inl (of_decide_eq_true hcr)⟩
    have hem : emD G F q l = [l] := if_pos hEM
    have hyo : YH Try.prog 900 (.yld ps asg bd [.pv .any, .pv .any, .ref 2 0, .pv (.rd [.i (u0 : Nat)]), .pv .any, .pv .any, .pv .any, .ref 7 0, .ref 8 0, .pv (.rd [.i (q : Nat)]), .pv .any, .pv .any, .pv .any, .pv .any, .pv .any, .pv .any, .pv .any, .pv .any, .pv .any, .pv .any, .pv .any, .pv .any, .pv .any, .pv .any, .pv .any, .pv .any, .pv .any, .pv .any, .pv .any, .pv .any, .pv .any, .pv .any, .int (F.length : Nat), .int (q : Nat), .pv .any, .pv .any, .pv .any, .pv .any, .pv .any, .pv .any, .pv .any, .pv .any, .pv .any, .pv .any, .clo (.func 24) [.pv (.rd [.i (q : Nat)]), .ref 44 0, .pv (.rd [.i (u0 : Nat)])], .pv .any, .pv .any, .pv .any, .pv .any, .pv .any, .pv .any, .pv .any, .pv .any, .pv .any, .pv .any, .pv .any, .pv .any, .pv .any, .pv .any, .pv .any, .pv .any, .pv .any, .pv .any, .pv .any, .pv .any, .pv .any, .pv .any, .pv .any, .pv .any, .pv .any, .pv .any, .pv .any, .pv .any, .pv .any, .pv .any, .pv .any, .pv .any, .pv .any, .pv .any, .pv .any, .pv .any, .pv .any, .pv .any, .pv .any, .pv .any, .pv .any, .pv .any, .pv .any, .pv .any, .pv .any, .pv .any, .pv .any, .pv .any, .pv .any, .pv .any, .pv .any, .pv .any, .pv .any, .pv .any, .pv .any, .pv .any]) [.pv (.ints l)] [(44, .box [.ref 40 0]), (2, .box [.ref 40 0]), (40, .box [.pv (.i G), .pv (.rows F), .pv (.i Rd), .pv (.i Rw), .own 41, .own 42]), (7, .box [.int (A (k0))]), (8, .box [.pv (.ints (B (k0)))]), (41, .mq (C (k0))), (42, .mq (E (k0)))] [(44, .box [.ref 40 0]), (2, .box [.ref 40 0]), (40, .box [.pv (.i G), .pv (.rows F), .pv (.i Rd), .pv (.i Rw), .own 41, .own 42]), (7, .box [.int (A (k0 + 1))]), (8, .box [.pv (.ints (B (k0 + 1)))]), (41, .mq (C (k0 + 1))), (42, .mq (E (k0 + 1)))] := by
      have hs1 := hs0.at' (j := 0) (by rw [hem]; simp)
      have he : (linA G F Rd Rw u0 q).getD k0 [] = l := by have := hs1.1; rw [hem] at this; exact this
      have h9 := hy k0 hs1.2
      rw [he] at h9
      exact h9
    have hkk : k0 + 1 = k0 + (emD G F q l).length := by rw [hem]; rfl
    refine awp_region_draw mixed rfl (.n (fun _ => op_move (.plain rfl)) (.n (fun _ => op_len (s := 0) Try.underlying35 (.plain rfl)) (.n (fun _ => OpT.boolEq hc1 (op_gtr (.plain rfl) (.plain rfl))) (.n (fun _ => op_move (.plain rfl)) (.kn rfl rfl (fun _ => op_move (.plain rfl)) (.kn rfl rfl (fun _ => OpT.boolEq hcr (op_move (.plain rfl))) (.no rfl rfl rfl (.no rfl rfl rfl (.no rfl rfl rfl (.no rfl rfl rfl (.no rfl rfl rfl (.no rfl rfl rfl (.no rfl rfl rfl (.no rfl rfl rfl (.no rfl rfl rfl (.no rfl rfl rfl (.no rfl rfl rfl (.no rfl rfl rfl (.kn rfl rfl (fun _ => op_or (.plain rfl) (.plain rfl) (.plain rfl) (fun h => absurd h (by decide))) (.n (fun _ => op_and0 (.plain rfl) (.plain rfl) (.plain rfl)) (.n (fun _ => op_move (.plain rfl)) (.kr rfl rfl (op_loadR Try.isAgg53 (.plain rfl) rfl rfl) (.kn rfl rfl (fun _ => op_move (.plain rfl)) (.kn rfl rfl (fun _ => op_call1 Try.call26 (.plain rfl) ((clone_fc _ ?_).fc)) (.key rfl rfl (op_yield (y := 900) (ags := [_]) (fun k => k) (hyo) (.plain rfl) ⟨(.plain rfl), trivial⟩ ⟨rfl, rfl, rfl, rfl, rfl, rfl, rfl, rfl, trivial⟩ (by kernel_rfl)) rfl (.kn rfl rfl (fun _ => op_not (.plain rfl)) (.n (fun _ => op_and0 (.plain rfl) (.plain rfl) (.plain rfl)) (.nil _)))))))))))))))))))))))))))) ?d8 ?_
    · try simp only [beq_iff_eq, beq_true, beq_false, Bool.and_eq_true, decide_eq_true_eq, decide_eq_false_iff_not, Bool.not_eq_true', Bool.or_eq_true, Bool.or_eq_false_iff] at hg
      first | omega | (simp; omega)
    · kernel_rfl
    refine awp_cond rfl (fun h => ?_) (fun h => ?_)
    · skip
      exfalso
      simp at h
    · skip
      refine awp_skip ?_
      refine awp_seq ?_
      refine awp_seq ?_
      refine awp_region rfl (.n (fun _ => op_move (.plain rfl)) (.n (fun _ => op_move (.plain rfl)) (.gn rfl rfl (fun hg _ => op_move (.plain rfl)) (.gn rfl rfl (fun hg _ => op_len (s := 0) Try.underlying35 (.opt rfl fun h => h)) (.gr rfl rfl (fun hg => op_loadR Try.isAgg41 (.plain rfl) rfl rfl) (.gn rfl rfl (fun hg _ => op_nilCheckR (.opt rfl fun h => h)) (.gn rfl rfl (fun hg _ => op_fieldAddrR Try.underlying44 rfl rfl Try.sizeOf24 (.opt rfl fun h => h)) (.gn rfl rfl (fun hg _ => op_fieldAddrR Try.underlying24 rfl rfl Try.sizeOf3 (.opt rfl fun h => h)) (.gr rfl rfl (fun hg => op_loadR Try.isAgg3 (.opt rfl fun h => h) rfl rfl) (.gn rfl rfl (fun hg _ => op_gtr (.opt rfl fun h => h) (.opt rfl fun h => h)) (.n (fun _ => op_and (.plain rfl) (.plain rfl) (.plain rfl) (fun h => eqT h)) (.n (fun _ => op_move (.plain rfl)) (.gn rfl rfl (fun hg _ => op_move (.plain rfl)) (.gn rfl rfl (fun hg _ => op_not (.opt rfl fun h => h)) (.gn rfl rfl (fun hg _ => op_move (.opt rfl fun h => h)) (.ggn rfl rfl (fun hg _ => op_move (.plain rfl)) (.ggn rfl rfl (fun hg _ => op_len (s := 0) Try.underlying35 (.opt rfl fun h => h)) (.ggr rfl rfl (fun hg => op_loadR Try.isAgg41 (.plain rfl) rfl rfl) (.ggn rfl rfl (fun hg _ => op_nilCheckR (.opt rfl fun h => h)) (.ggn rfl rfl (fun hg _ => op_fieldAddrR Try.underlying44 rfl rfl Try.sizeOf24 (.opt rfl fun h => h)) (.ggn rfl rfl (fun hg _ => op_fieldAddrR Try.underlying24 rfl rfl Try.sizeOf3 (.opt rfl fun h => h)) (.ggr rfl rfl (fun hg => op_loadR Try.isAgg3 (.opt rfl fun h => h) rfl rfl) (.ggn rfl rfl (fun hg _ => op_geq (.opt rfl fun h => h) (.opt rfl fun h => h)) (.gn rfl rfl (fun hg _ => op_and (.opt rfl fun h => h) (.plain rfl) (.plain rfl) (fun h => andI hg (eqT h))) (.n (fun _ => op_or (.plain rfl) (.plain rfl) (.plain rfl) (fun h => eqF h)) (.nil _)))))))))))))))))))))))))) ?_
      refine awp_cond rfl (fun h => ?_) (fun h => ?_)
      · skip
        simp only [decide_eq_true_eq, decide_eq_false_iff_not, Bool.and_eq_true, Bool.or_eq_true, Bool.and_eq_false_iff, Bool.or_eq_false_iff, Bool.not_eq_true', Bool.not_eq_false', Bool.not_eq_true, Bool.not_eq_false] at h
        have hst : stopD G Rd Rw q l := h
        refine awp_seq ?_
        refine awp_region rfl (.n (fun _ => op_assign (.plain rfl)) (.nil _)) ?_
        refine awp_ret ?_
        refine retH.ret ?_
        refine retH1 rfl rfl ⟨rfl, rfl, rfl, rfl, rfl, rfl, (congrArg (fun q => some (Blk.box [SV.int (A q)])) (by rw [linD_stop hst]; exact hkk)), (congrArg (fun q => some (Blk.box [SV.pv (.ints (B q))])) (by rw [linD_stop hst]; exact hkk)), (congrArg (fun q => some (Blk.mq (C q))) (by rw [linD_stop hst]; exact hkk)), (congrArg (fun q => some (Blk.mq (E q))) (by rw [linD_stop hst]; exact hkk)), trivial⟩ ⟨.inr rfl, .inr rfl, .inr rfl, .inr rfl, .inr rfl, .inr rfl, .inr rfl, .inr rfl, .inr rfl, .inr rfl, trivial⟩ ?_
        rfl
      · skip
        simp only [decide_eq_true_eq, decide_eq_false_iff_not, Bool.and_eq_true, Bool.or_eq_true, Bool.and_eq_false_iff, Bool.or_eq_false_iff, Bool.not_eq_true', Bool.not_eq_false', Bool.not_eq_true, Bool.not_eq_false] at h
        have hst : ¬ stopD G Rd Rw q l := by unfold stopD; omega
        obtain ⟨f, rfl⟩ : ∃ q, f = q + 1 := ⟨f - 1, by unfold stopD at hst; omega⟩
        have hs2 := hs
        rw [linD_go hst] at hs2
        have hs2 := hs2.right
        have hlt8 : (lastF l).toNat < F.length := by omega
        have hln := hS.len _ hlt8
        refine awp_skip ?_
        refine awp_seq ?_
        refine awp_seq ?_
        refine awp_region_draw mixed rfl (.r (op_loadR Try.isAgg41 (.plain rfl) rfl rfl) (.n (fun _ => op_nilCheckR (.plain rfl)) (.n (fun _ => op_fieldAddrR Try.underlying44 rfl rfl Try.sizeOf24 (.plain rfl)) (.n (fun _ => op_fieldAddrR Try.underlying24 rfl rfl Try.sizeOf22 (.plain rfl)) (.r (op_loadR Try.isAgg22 (.plain rfl) rfl rfl) (.n (fun _ => op_move (.plain rfl)) (.n (fun _ => op_move (.plain rfl)) (.n (fun _ => op_len (s := 0) Try.underlying35 (.plain rfl)) (.n (fun _ => op_sub (.plain rfl) (.plain rfl) ?_) (.n (fun _ => op_indexAddr Try.underlying35 Try.sizeOf3 (.plain rfl) (.plain rfl) (fun _ => rfl) ?_) (.n (fun _ => op_load Try.isAgg3 (.plain rfl)) (.n (fun _ => op_indexAddr Try.underlying22 Try.sizeOf35 (.plain rfl) (.plain rfl) (fun _ => rfl) ?_) (.n (fun _ => op_load Try.isAgg35 (.plain rfl)) (.n (fun _ => op_len (s := 0) Try.underlying35 (.plain rfl)) (.n (fun _ => op_move (.plain rfl)) (.nil _)))))))))))))))) ?d9 ?_
        · unfold InR; omega
        · omega
        · rw [show ((l.length : Int) - 1).toNat = l.length - 1 by omega]; exact hla
        · kernel_rfl
        refine awp_block ?_
        refine awp_loop (σ := Nat) (fun (i : Nat) => i ≤ (F.getD (lastF l).toNat []).length) (fun (i : Nat) => ⟨[(0, .pv (.ints l)), (1, .int (u : Nat)), (2, .pv (.rd [.i (q : Nat)])), (3, .ref 44 0), (4, .ref 4 0), (5, .ref 5 0), (9, .bool (decide (((q : Nat) : Int) < G))), (83, .pv (.ints (F.getD (lastF l).toNat []))), (84, .int ((F.getD (lastF l).toNat []).length : Nat)), (85, .int (i : Nat)), (1000900, .pin 900 (ι0 900)), (1000004, .pin 4 (ι0 4)), (1000005, .pin 5 (ι0 5)), (1000044, .pin 44 (ι0 44)), (1000002, .pin 2 (ι0 2)), (1000040, .pin 40 (ι0 40)), (1000007, .pin 7 (ι0 7)), (1000008, .pin 8 (ι0 8)), (1000041, .pin 41 (ι0 41)), (1000042, .pin 42 (ι0 42))], [(900, .yld ps asg bd [.pv .any, .pv .any, .ref 2 0, .pv (.rd [.i (u0 : Nat)]), .pv .any, .pv .any, .pv .any, .ref 7 0, .ref 8 0, .pv (.rd [.i (q : Nat)]), .pv .any, .pv .any, .pv .any, .pv .any, .pv .any, .pv .any, .pv .any, .pv .any, .pv .any, .pv .any, .pv .any, .pv .any, .pv .any, .pv .any, .pv .any, .pv .any, .pv .any, .pv .any, .pv .any, .pv .any, .pv .any, .pv .any, .int (F.length : Nat), .int (q : Nat), .pv .any, .pv .any, .pv .any, .pv .any, .pv .any, .pv .any, .pv .any, .pv .any, .pv .any, .pv .any, .clo (.func 24) [.pv (.rd [.i (q : Nat)]), .ref 44 0, .pv (.rd [.i (u0 : Nat)])], .pv .any, .pv .any, .pv .any, .pv .any, .pv .any, .pv .any, .pv .any, .pv .any, .pv .any, .pv .any, .pv .any, .pv .any, .pv .any, .pv .any, .pv .any, .pv .any, .pv .any, .pv .any, .pv .any, .pv .any, .pv .any, .pv .any, .pv .any, .pv .any, .pv .any, .pv .any, .pv .any, .pv .any, .pv .any, .pv .any, .pv .any, .pv .any, .pv .any, .pv .any, .pv .any, .pv .any, .pv .any, .pv .any, .pv .any, .pv .any, .pv .any, .pv .any, .pv .any, .pv .any, .pv .any, .pv .any, .pv .any, .pv .any, .pv .any, .pv .any, .pv .any, .pv .any, .pv .any, .pv .any, .pv .any, .pv .any]), (4, .box [.own 900]), (5, .box [.clo (.func 25) [.pv (.rd [.i (q : Nat)]), .ref 44 0, .ref 4 0, .ref 5 0]]), (44, .box [.ref 40 0]), (2, .box [.ref 40 0]), (40, .box [.pv (.i G), .pv (.rows F), .pv (.i Rd), .pv (.i Rw), .own 41, .own 42]), (7, .box [.int (A (k0 + (emD G F q l).length + (goTo (dgo G q u) (fun x => linD G F Rd Rw q f (l ++ [x]) (u ||| 2 ^ x.toNat)) (F.getD (lastF l).toNat []) i).length))]), (8, .box [.pv (.ints (B (k0 + (emD G F q l).length + (goTo (dgo G q u) (fun x => linD G F Rd Rw q f (l ++ [x]) (u ||| 2 ^ x.toNat)) (F.getD (lastF l).toNat []) i).length)))]), (41, .mq (C (k0 + (emD G F q l).length + (goTo (dgo G q u) (fun x => linD G F Rd Rw q f (l ++ [x]) (u ||| 2 ^ x.toNat)) (F.getD (lastF l).toNat []) i).length))), (42, .mq (E (k0 + (emD G F q l).length + (goTo (dgo G q u) (fun x => linD G F Rd Rw q f (l ++ [x]) (u ||| 2 ^ x.toNat)) (F.getD (lastF l).toNat []) i).length)))]⟩) (fun (i : Nat) => (F.getD (lastF l).toNat []).length - i) 0 ?_ (Ent.kept ⟨rfl, rfl, rfl, rfl, rfl, rfl, rfl, (congrArg (fun j => some (SV.pv (.ints (F.getD (l.getD j 0).toNat [])))) (show ((l.length : Int) - 1).toNat = l.length - 1 by omega)), (congrArg (fun j => some (SV.int ((F.getD (l.getD j 0).toNat []).length : Nat))) (show ((l.length : Int) - 1).toNat = l.length - 1 by omega)), rfl, rfl, rfl, rfl, rfl, rfl, rfl, rfl, rfl, rfl, rfl, trivial⟩ ⟨rfl, rfl, rfl, rfl, rfl, rfl, (congrArg (fun q => some (Blk.box [SV.int (A q)])) (hkk)), (congrArg (fun q => some (Blk.box [SV.pv (.ints (B q))])) (hkk)), (congrArg (fun q => some (Blk.mq (C q))) (hkk)), (congrArg (fun q => some (Blk.mq (E q))) (hkk)), trivial⟩) ?_
        · exact Nat.zero_le _
        rintro i hp
        try dsimp only at hp
        have hi := hp
        refine awp_seq ?_
        refine awp_region rfl (.n (fun _ => op_lss (.plain rfl) (.plain rfl)) (.nil _)) ?_
        refine awp_seq ?_
        refine awp_cond rfl (fun h => ?_) (fun h => ?_)
        · skip
          have h := of_decide_eq_true h
          have hfx := hS.fit (lastF l).toNat (by omega) i (by omega)
          refine awp_skip ?_
          refine awp_seq ?_
          refine awp_block ?_
          refine awp_seq ?_
          refine awp_region rfl (.n (fun _ => op_indexAddrN Try.underlying35 Try.sizeOf3 (.plain rfl) (.plain rfl) (fun _ => rfl) ?_) (.n (fun _ => op_load Try.isAgg3 (.plain rfl)) (.n (fun _ => op_assign (.plain rfl)) (.nil _)))) ?_
          · omega
          refine awp_seq ?_
          rcases split4 (decide ((u : Int) / 2 ^ ((F.getD (lastF l).toNat []).getD i 0).toNat % 2 = 0)) (decide (((q : Nat) : Int) < G)) (decide (((q : Nat) : Int) < ((F.getD (lastF l).toNat []).getD i 0))) with hc1 | ⟨hc1, hcr⟩ | ⟨hc1, hcr, hc3⟩ | ⟨hc1, hcr, hc3⟩
          · have hng : ¬ dgo G q u ((F.getD (lastF l).toNat []).getD i 0) = true := dgo_no (bit_cf hc1)
            have he : k0 + (emD G F q l).length + (goTo (dgo G q u) (fun x => linD G F Rd Rw q f (l ++ [x]) (u ||| 2 ^ x.toNat)) (F.getD (lastF l).toNat []) i).length = k0 + (emD G F q l).length + (goTo (dgo G q u) (fun x => linD G F Rd Rw q f (l ++ [x]) (u ||| 2 ^ x.toNat)) (F.getD (lastF l).toNat []) (i + 1)).length := by rw [goTo_no hng]
            refine awp_region_draw mixed rfl (.n (fun _ => op_move (.plain rfl)) (.n (fun _ => op_move (.plain rfl)) (.n (fun _ => op_shr (.plain rfl) (.plain rfl) ?_) (.n (fun _ => op_bit (.plain rfl) ?_) (.n (fun _ => OpT.boolEq hc1 (op_eql (.plain rfl) (.plain rfl))) (.n (fun _ => op_move (.plain rfl)) (.no rfl rfl rfl (.no rfl rfl rfl (.noo rfl rfl (.noo rfl rfl (.noo rfl rfl (.no rfl rfl rfl (.n (fun _ => op_and (.plain rfl) (.plain rfl) (.plain rfl) (fun h => absurd h (by decide))) (.n (fun _ => op_move (.plain rfl)) (.no rfl rfl rfl (.no rfl rfl rfl (.no rfl rfl rfl (.no rfl rfl rfl (.no rfl rfl rfl (.no rfl rfl rfl (.no rfl rfl rfl (.no rfl rfl rfl (.no rfl rfl rfl (.no rfl rfl rfl (.no rfl rfl rfl (.no rfl rfl rfl (.n (fun _ => op_and (.plain rfl) (.plain rfl) (.plain rfl) (fun h => absurd h (by decide))) (.nil _)))))))))))))))))))))))))))) ?d10 ?_
            · omega
            · exact Int.ediv_nonneg (by omega) (by rw [← Int.one_mul (2 ^ _), shl_one]; exact Int.natCast_nonneg _)
            · kernel_rfl
            refine awp_cond rfl (fun h => ?_) (fun h => ?_)
            · skip
              exfalso
              simp at h
            · skip
              refine awp_skip ?_
              refine awp_region rfl (.n (fun _ => op_add (.plain rfl) (.plain rfl) ?_) (.n (fun _ => op_move (.plain rfl)) (.nil _))) ?_
              · unfold InR; omega
              exact ⟨i + 1, by omega, by dsimp only; omega, (Ent.kept ⟨rfl, rfl, rfl, rfl, rfl, rfl, rfl, rfl, rfl, rfl, rfl, rfl, rfl, rfl, rfl, rfl, rfl, rfl, rfl, rfl, trivial⟩ ⟨rfl, rfl, rfl, rfl, rfl, rfl, (congrArg (fun q => some (Blk.box [SV.int (A q)])) (he)), (congrArg (fun q => some (Blk.box [SV.pv (.ints (B q))])) (he)), (congrArg (fun q => some (Blk.mq (C q))) (he)), (congrArg (fun q => some (Blk.mq (E q))) (he)), trivial⟩)⟩
          · have hgo : dgo G q u ((F.getD (lastF l).toNat []).getD i 0) = true := dgo_yes (bit_ct hc1) (.inl hcr)
            have hsn := hs2.go (show i < (F.getD (lastF l).toNat []).length by omega) hgo
            have he : k0 + (emD G F q l).length + (goTo (dgo G q u) (fun x => linD G F Rd Rw q f (l ++ [x]) (u ||| 2 ^ x.toNat)) (F.getD (lastF l).toNat []) i).length + (linD G F Rd Rw q f (l ++ [((F.getD (lastF l).toNat []).getD i 0)]) (u ||| 2 ^ ((F.getD (lastF l).toNat []).getD i 0).toNat)).length = k0 + (emD G F q l).length + (goTo (dgo G q u) (fun x => linD G F Rd Rw q f (l ++ [x]) (u ||| 2 ^ x.toNat)) (F.getD (lastF l).toNat []) (i + 1)).length := by rw [← goTo_yes hgo, List.length_append]; omega
            refine awp_region_drawG mixed rfl (.n (fun _ => op_move (.plain rfl)) (.n (fun _ => op_move (.plain rfl)) (.n (fun _ => op_shr (.plain rfl) (.plain rfl) ?_) (.n (fun _ => op_bit (.plain rfl) ?_) (.n (fun _ => OpT.boolEq hc1 (op_eql (.plain rfl) (.plain rfl))) (.n (fun _ => op_move (.plain rfl)) (.kn rfl rfl (fun _ => op_move (.plain rfl)) (.kn rfl rfl (fun _ => OpT.boolEq hcr (op_move (.plain rfl))) (.no rfl rfl rfl (.no rfl rfl rfl (.no rfl rfl rfl (.kn rfl rfl (fun _ => op_or (.plain rfl) (.plain rfl) (.plain rfl) (fun h => absurd h (by decide))) (.n (fun _ => op_and0 (.plain rfl) (.plain rfl) (.plain rfl)) (.n (fun _ => op_move (.plain rfl)) (.klook rfl rfl 5 rfl (fun _ hl => op_loadR Try.isAgg47 (.plain rfl)  hl rfl) (.kn rfl rfl (fun _ => op_move (.plain rfl)) (.ke rfl rfl (op_callO (vals := [_]) 105 Try.call26 ⟨⟨_, (.plain rfl), rfl⟩, trivial⟩ (clone_fc _ ?_) (by simp [PV.flat]) rfl) rfl (.kn rfl rfl (fun _ => op_move (.plain rfl)) (.kn rfl rfl (fun _ => op_slit (pp := [(0, _)]) (α := Int) (d := 0) (f := (fun n => [.int .i64 n])) [_] ety35 rfl ⟨rfl, (.plain rfl), (by simp), trivial⟩ rfl (by decide) rfl) (.ke rfl rfl ((op_append (id' := 108) (α := Int) (d := 0) (f := (fun n => [.int .i64 n])) ety35 Try.underlying35 (fun _ => rfl) (fun _ => rfl) (.plain rfl) rfl (.plain rfl) rfl ?_).given rfl) rfl (.kn rfl rfl (fun _ => op_move (.plain rfl)) (.kn rfl rfl (fun _ => op_move (.plain rfl)) (.kn rfl rfl (fun _ => op_shl (.plain rfl) (.plain rfl) ?_) (.kn rfl rfl (fun _ => OpT.intEq (or_shl _ _) (op_bor (.plain rfl) (.plain rfl) ?_)) (.ke rfl rfl (op_callVH (ags := [_, _]) (fun k => [0, 0, 2, 0, 4, 5, 0, 7, 8, 0, 0, 0, 0, 0, 0, 0, 0, 0, 0, 0, 0, 0, 0, 0, 0, 0, 0, 0, 0, 0, 0, 0, 0, 0, 0, 0, 0, 0, 0, 0, 40, 41, 42, 0, 44, 0, 0, 0, 0, 0, 0, 0, 0, 0, 0, 0, 0, 0, 0, 0, 0, 0, 0, 0, 0, 0, 0, 0, 0, 0, 0, 0, 0, 0, 0, 0, 0, 0, 0, 0, 0, 0, 0, 0, 0, 0, 0, 0, 0, 0, 0, 0, 0, 0, 0, 0, 0, 0, 0, 0, 0, 0, 0, 0, 0, 0, 0, 0, 0, 0, 0, 0, 0, 0, 0, 0, 0, 0, 0, 0, 0, 0, 0, 0, 0, 0, 0, 0, 0, 0, 0, 0, 0, 0, 0, 0, 0, 0, 0, 0, 0, 0, 0, 0, 0, 0, 0, 0, 0, 0, 0, 0, 0, 0, 0, 0, 0, 0, 0, 0, 0, 0, 0, 0, 0, 0, 0, 0, 0, 0, 0, 0, 0, 0, 0, 0, 0, 0, 0, 0, 0, 0, 0, 0, 0, 0, 0, 0, 0, 0, 0, 0, 0, 0, 0, 0, 0, 0, 0, 0, 0, 0, 0, 0, 0, 0, 0, 0, 0, 0, 0, 0, 0, 0, 0, 0, 0, 0, 0, 0, 0, 0, 0, 0, 0, 0, 0, 0, 0, 0, 0, 0, 0, 0, 0, 0, 0, 0, 0, 0, 0, 0, 0, 0, 0, 0, 0, 0, 0, 0, 0, 0, 0, 0, 0, 0, 0, 0, 0, 0, 0, 0, 0, 0, 0, 0, 0, 0, 0, 0, 0, 0, 0, 0, 0, 0, 0, 0, 0, 0, 0, 0, 0, 0, 0, 0, 0, 0, 0, 0, 0, 0, 0, 0, 0, 0, 0, 0, 0, 0, 0, 0, 0, 0, 0, 0, 0, 0, 0, 0, 0, 0, 0, 0, 0, 0, 0, 0, 0, 0, 0, 0, 0, 0, 0, 0, 0, 0, 0, 0, 0, 0, 0, 0, 0, 0, 0, 0, 0, 0, 0, 0, 0, 0, 0, 0, 0, 0, 0, 0, 0, 0, 0, 0, 0, 0, 0, 0, 0, 0, 0, 0, 0, 0, 0, 0, 0, 0, 0, 0, 0, 0, 0, 0, 0, 0, 0, 0, 0, 0, 0, 0, 0, 0, 0, 0, 0, 0, 0, 0, 0, 0, 0, 0, 0, 0, 0, 0, 0, 0, 0, 0, 0, 0, 0, 0, 0, 0, 0, 0, 0, 0, 0, 0, 0, 0, 0, 0, 0, 0, 0, 0, 0, 0, 0, 0, 0, 0, 0, 0, 0, 0, 0, 0, 0, 0, 0, 0, 0, 0, 0, 0, 0, 0, 0, 0, 0, 0, 0, 0, 0, 0, 0, 0, 0, 0, 0, 0, 0, 0, 0, 0, 0, 0, 0, 0, 0, 0, 0, 0, 0, 0, 0, 0, 0, 0, 0, 0, 0, 0, 0, 0, 0, 0, 0, 0, 0, 0, 0, 0, 0, 0, 0, 0, 0, 0, 0, 0, 0, 0, 0, 0, 0, 0, 0, 0, 0, 0, 0, 0, 0, 0, 0, 0, 0, 0, 0, 0, 0, 0, 0, 0, 0, 0, 0, 0, 0, 0, 0, 0, 0, 0, 0, 0, 0, 0, 0, 0, 0, 0, 0, 0, 0, 0, 0, 0, 0, 0, 0, 0, 0, 0, 0, 0, 0, 0, 0, 0, 0, 0, 0, 0, 0, 0, 0, 0, 0, 0, 0, 0, 0, 0, 0, 0, 0, 0, 0, 0, 0, 0, 0, 0, 0, 0, 0, 0, 0, 0, 0, 0, 0, 0, 0, 0, 0, 0, 0, 0, 0, 0, 0, 0, 0, 0, 0, 0, 0, 0, 0, 0, 0, 0, 0, 0, 0, 0, 0, 0, 0, 0, 0, 0, 0, 0, 0, 0, 0, 0, 0, 0, 0, 0, 0, 0, 0, 0, 0, 0, 0, 0, 0, 0, 0, 0, 0, 0, 0, 0, 0, 0, 0, 0, 0, 0, 0, 0, 0, 0, 0, 0, 0, 0, 0, 0, 0, 0, 0, 0, 0, 0, 0, 0, 0, 0, 0, 0, 0, 0, 0, 0, 0, 0, 0, 0, 0, 0, 0, 0, 0, 0, 0, 0, 0, 0, 0, 0, 0, 0, 0, 0, 0, 0, 0, 0, 0, 0, 0, 0, 0, 0, 0, 0, 0, 0, 0, 0, 0, 0, 0, 0, 0, 0, 0, 0, 0, 0, 0, 0, 0, 0, 0, 0, 0, 0, 0, 0, 0, 0, 0, 0, 0, 0, 0, 0, 0, 0, 0, 0, 0, 0, 0, 0, 0, 0, 0, 0, 0, 0, 0, 0, 0, 0, 0, 0, 0, 0, 0, 0, 0, 0, 0, 0, 0, 0, 0, 0, 0, 0, 0, 0, 0, 0, 0, 0, 0, 0, 0, 0, 0, 0, 0, 0, 0, 0, 0, 0, 0, 0, 0, 0, 0, 0, 0, 0, 0, 0, 0, 0, 0, 0, 0, 0, 0, 0, 0, 0, 0, 0, 0, 0, 0, 0, 0, 0, 0, 0, 0, 0, 0, 0, 0, 0, 0, 0, 0, 0, 0, 0, 0, 0, 0, 0, 0, 0, 0, 0, 0, 0, 0, 0, 0, 0, 0, 0, 0, 0, 0, 0, 0, 0, 0, 0, 0, 0, 0, 0, 0, 0, 0, 0, 0, 0, 0, 0, 0, 0, 0, 0, 0, 0, 0, 0, 0, 0, 0, 0, 0, 0, 0, 0, 0, 0, 0, 0, 0, 0, 0, 0, 0, 0, 900].getD k 0) Try.call25 (ih f (by omega) (l ++ [((F.getD (lastF l).toNat []).getD i 0)]) (u ||| 2 ^ ((F.getD (lastF l).toNat []).getD i 0).toNat) (k0 + (emD G F q l).length + (goTo (dgo G q u) (fun x => linD G F Rd Rw q f (l ++ [x]) (u ||| 2 ^ x.toNat)) (F.getD (lastF l).toNat []) i).length) ?_ ?_ ?_ ?_ ?_ rfl) (.plain rfl) ⟨(.plain rfl), (.plain rfl), trivial⟩ ⟨rfl, rfl, rfl, rfl, rfl, rfl, rfl, rfl, rfl, rfl, trivial⟩ (by kernel_rfl)) rfl (.kn rfl rfl (fun _ => op_not (.plain rfl)) (.n (fun _ => op_and0 (.plain rfl) (.plain rfl) (.plain rfl)) (.nil _)))))))))))))))))))))))))))) ?d11 ?dg11 ?_
            · omega
            · exact Int.ediv_nonneg (by omega) (by rw [← Int.one_mul (2 ^ _), shl_one]; exact Int.natCast_nonneg _)
            · try simp only [beq_iff_eq, beq_true, beq_false, Bool.and_eq_true, decide_eq_true_eq, decide_eq_false_iff_not, Bool.not_eq_true', Bool.or_eq_true, Bool.or_eq_false_iff] at hg
              first | omega | (simp; omega)
            · try simp only [beq_iff_eq, beq_true, beq_false, Bool.and_eq_true, decide_eq_true_eq, decide_eq_false_iff_not, Bool.not_eq_true', Bool.or_eq_true, Bool.or_eq_false_iff] at hg
              first | omega | (simp; omega)
            · try simp only [beq_iff_eq, beq_true, beq_false, Bool.and_eq_true, decide_eq_true_eq, decide_eq_false_iff_not, Bool.not_eq_true', Bool.or_eq_true, Bool.or_eq_false_iff] at hg
              exact ⟨by omega, by omega, shl_in (by omega)⟩
            · try simp only [beq_iff_eq, beq_true, beq_false, Bool.and_eq_true, decide_eq_true_eq, decide_eq_false_iff_not, Bool.not_eq_true', Bool.or_eq_true, Bool.or_eq_false_iff] at hg
              exact ⟨by omega, by rw [shl_one]; exact Int.natCast_nonneg _⟩
            · try simp only [beq_iff_eq, beq_true, beq_false, Bool.and_eq_true, decide_eq_true_eq, decide_eq_false_iff_not, Bool.not_eq_true', Bool.or_eq_true, Bool.or_eq_false_iff] at hg
              simp
            · try simp only [beq_iff_eq, beq_true, beq_false, Bool.and_eq_true, decide_eq_true_eq, decide_eq_false_iff_not, Bool.not_eq_true', Bool.or_eq_true, Bool.or_eq_false_iff] at hg
              simp; omega
            · try simp only [beq_iff_eq, beq_true, beq_false, Bool.and_eq_true, decide_eq_true_eq, decide_eq_false_iff_not, Bool.not_eq_true', Bool.or_eq_true, Bool.or_eq_false_iff] at hg
              rw [last_snoc]; omega
            · try simp only [beq_iff_eq, beq_true, beq_false, Bool.and_eq_true, decide_eq_true_eq, decide_eq_false_iff_not, Bool.not_eq_true', Bool.or_eq_true, Bool.or_eq_false_iff] at hg
              exact or_lt hu (by omega)
            · try simp only [beq_iff_eq, beq_true, beq_false, Bool.and_eq_true, decide_eq_true_eq, decide_eq_false_iff_not, Bool.not_eq_true', Bool.or_eq_true, Bool.or_eq_false_iff] at hg
              exact hsn
            · kernel_rfl
            · exact gOk_one 14 5 _ [16, 19] rfl (by kernel_rfl) rfl (by kernel_rfl) (fun k hk => by simp only [List.mem_cons, List.not_mem_nil, or_false] at hk; first | (subst hk; rfl) | (rcases hk with hk | hk <;> subst hk <;> rfl))
            refine awp_cond rfl (fun h => ?_) (fun h => ?_)
            · skip
              exfalso
              simp at h
            · skip
              refine awp_skip ?_
              refine awp_region rfl (.n (fun _ => op_add (.plain rfl) (.plain rfl) ?_) (.n (fun _ => op_move (.plain rfl)) (.nil _))) ?_
              · unfold InR; omega
              exact ⟨i + 1, by omega, by dsimp only; omega, (Ent.kept ⟨rfl, rfl, rfl, rfl, rfl, rfl, rfl, rfl, rfl, rfl, rfl, rfl, rfl, rfl, rfl, rfl, rfl, rfl, rfl, rfl, trivial⟩ ⟨rfl, rfl, rfl, rfl, rfl, rfl, (congrArg (fun q => some (Blk.box [SV.int (A q)])) (he)), (congrArg (fun q => some (Blk.box [SV.pv (.ints (B q))])) (he)), (congrArg (fun q => some (Blk.mq (C q))) (he)), (congrArg (fun q => some (Blk.mq (E q))) (he)), trivial⟩)⟩
          · have hgo : dgo G q u ((F.getD (lastF l).toNat []).getD i 0) = true := dgo_yes (bit_ct hc1) (.inr hc3)
            have hsn := hs2.go (show i < (F.getD (lastF l).toNat []).length by omega) hgo
            have he : k0 + (emD G F q l).length + (goTo (dgo G q u) (fun x => linD G F Rd Rw q f (l ++ [x]) (u ||| 2 ^ x.toNat)) (F.getD (lastF l).toNat []) i).length + (linD G F Rd Rw q f (l ++ [((F.getD (lastF l).toNat []).getD i 0)]) (u ||| 2 ^ ((F.getD (lastF l).toNat []).getD i 0).toNat)).length = k0 + (emD G F q l).length + (goTo (dgo G q u) (fun x => linD G F Rd Rw q f (l ++ [x]) (u ||| 2 ^ x.toNat)) (F.getD (lastF l).toNat []) (i + 1)).length := by rw [← goTo_yes hgo, List.length_append]; omega
            refine awp_region_drawG mixed rfl (.n (fun _ => op_move (.plain rfl)) (.n (fun _ => op_move (.plain rfl)) (.n (fun _ => op_shr (.plain rfl) (.plain rfl) ?_) (.n (fun _ => op_bit (.plain rfl) ?_) (.n (fun _ => OpT.boolEq hc1 (op_eql (.plain rfl) (.plain rfl))) (.n (fun _ => op_move (.plain rfl)) (.kn rfl rfl (fun _ => op_move (.plain rfl)) (.kn rfl rfl (fun _ => OpT.boolEq hcr (op_move (.plain rfl))) (.kn rfl rfl (fun _ => op_move (.plain rfl)) (.kn rfl rfl (fun _ => op_load Try.isAgg3 (.plain rfl)) (.kn rfl rfl (fun _ => OpT.boolEq hc3 (op_gtr (.plain rfl) (.plain rfl))) (.kn rfl rfl (fun _ => op_or0 (.plain rfl) (.plain rfl) (.plain rfl)) (.n (fun _ => op_and0 (.plain rfl) (.plain rfl) (.plain rfl)) (.n (fun _ => op_move (.plain rfl)) (.klook rfl rfl 5 rfl (fun _ hl => op_loadR Try.isAgg47 (.plain rfl)  hl rfl) (.kn rfl rfl (fun _ => op_move (.plain rfl)) (.ke rfl rfl (op_callO (vals := [_]) 105 Try.call26 ⟨⟨_, (.plain rfl), rfl⟩, trivial⟩ (clone_fc _ ?_) (by simp [PV.flat]) rfl) rfl (.kn rfl rfl (fun _ => op_move (.plain rfl)) (.kn rfl rfl (fun _ => op_slit (pp := [(0, _)]) (α := Int) (d := 0) (f := (fun n => [.int .i64 n])) [_] ety35 rfl ⟨rfl, (.plain rfl), (by simp), trivial⟩ rfl (by decide) rfl) (.ke rfl rfl ((op_append (id' := 108) (α := Int) (d := 0) (f := (fun n => [.int .i64 n])) ety35 Try.underlying35 (fun _ => rfl) (fun _ => rfl) (.plain rfl) rfl (.plain rfl) rfl ?_).given rfl) rfl (.kn rfl rfl (fun _ => op_move (.plain rfl)) (.kn rfl rfl (fun _ => op_move (.plain rfl)) (.kn rfl rfl (fun _ => op_shl (.plain rfl) (.plain rfl) ?_) (.kn rfl rfl (fun _ => OpT.intEq (or_shl _ _) (op_bor (.plain rfl) (.plain rfl) ?_)) (.ke rfl rfl (op_callVH (ags := [_, _]) (fun k => [0, 0, 2, 0, 4, 5, 0, 7, 8, 0, 0, 0, 0, 0, 0, 0, 0, 0, 0, 0, 0, 0, 0, 0, 0, 0, 0, 0, 0, 0, 0, 0, 0, 0, 0, 0, 0, 0, 0, 0, 40, 41, 42, 0, 44, 0, 0, 0, 0, 0, 0, 0, 0, 0, 0, 0, 0, 0, 0, 0, 0, 0, 0, 0, 0, 0, 0, 0, 0, 0, 0, 0, 0, 0, 0, 0, 0, 0, 0, 0, 0, 0, 0, 0, 0, 0, 0, 0, 0, 0, 0, 0, 0, 0, 0, 0, 0, 0, 0, 0, 0, 0, 0, 0, 0, 0, 0, 0, 0, 0, 0, 0, 0, 0, 0, 0, 0, 0, 0, 0, 0, 0, 0, 0, 0, 0, 0, 0, 0, 0, 0, 0, 0, 0, 0, 0, 0, 0, 0, 0, 0, 0, 0, 0, 0, 0, 0, 0, 0, 0, 0, 0, 0, 0, 0, 0, 0, 0, 0, 0, 0, 0, 0, 0, 0, 0, 0, 0, 0, 0, 0, 0, 0, 0, 0, 0, 0, 0, 0, 0, 0, 0, 0, 0, 0, 0, 0, 0, 0, 0, 0, 0, 0, 0, 0, 0, 0, 0, 0, 0, 0, 0, 0, 0, 0, 0, 0, 0, 0, 0, 0, 0, 0, 0, 0, 0, 0, 0, 0, 0, 0, 0, 0, 0, 0, 0, 0, 0, 0, 0, 0, 0, 0, 0, 0, 0, 0, 0, 0, 0, 0, 0, 0, 0, 0, 0, 0, 0, 0, 0, 0, 0, 0, 0, 0, 0, 0, 0, 0, 0, 0, 0, 0, 0, 0, 0, 0, 0, 0, 0, 0, 0, 0, 0, 0, 0, 0, 0, 0, 0, 0, 0, 0, 0, 0, 0, 0, 0, 0, 0, 0, 0, 0, 0, 0, 0, 0, 0, 0, 0, 0, 0, 0, 0, 0, 0, 0, 0, 0, 0, 0, 0, 0, 0, 0, 0, 0, 0, 0, 0, 0, 0, 0, 0, 0, 0, 0, 0, 0, 0, 0, 0, 0, 0, 0, 0, 0, 0, 0, 0, 0, 0, 0, 0, 0, 0, 0, 0, 0, 0, 0, 0, 0, 0, 0, 0, 0, 0, 0, 0, 0, 0, 0, 0, 0, 0, 0, 0, 0, 0, 0, 0, 0, 0, 0, 0, 0, 0, 0, 0, 0, 0, 0, 0, 0, 0, 0, 0, 0, 0, 0, 0, 0, 0, 0, 0, 0, 0, 0, 0, 0, 0, 0, 0, 0, 0, 0, 0, 0, 0, 0, 0, 0, 0, 0, 0, 0, 0, 0, 0, 0, 0, 0, 0, 0, 0, 0, 0, 0, 0, 0, 0, 0, 0, 0, 0, 0, 0, 0, 0, 0, 0, 0, 0, 0, 0, 0, 0, 0, 0, 0, 0, 0, 0, 0, 0, 0, 0, 0, 0, 0, 0, 0, 0, 0, 0, 0, 0, 0, 0, 0, 0, 0, 0, 0, 0, 0, 0, 0, 0, 0, 0, 0, 0, 0, 0, 0, 0, 0, 0, 0, 0, 0, 0, 0, 0, 0, 0, 0, 0, 0, 0, 0, 0, 0, 0, 0, 0, 0, 0, 0, 0, 0, 0, 0, 0, 0, 0, 0, 0, 0, 0, 0, 0, 0, 0, 0, 0, 0, 0, 0, 0, 0, 0, 0, 0, 0, 0, 0, 0, 0, 0, 0, 0, 0, 0, 0, 0, 0, 0, 0, 0, 0, 0, 0, 0, 0, 0, 0, 0, 0, 0, 0, 0, 0, 0, 0, 0, 0, 0, 0, 0, 0, 0, 0, 0, 0, 0, 0, 0, 0, 0, 0, 0, 0, 0, 0, 0, 0, 0, 0, 0, 0, 0, 0, 0, 0, 0, 0, 0, 0, 0, 0, 0, 0, 0, 0, 0, 0, 0, 0, 0, 0, 0, 0, 0, 0, 0, 0, 0, 0, 0, 0, 0, 0, 0, 0, 0, 0, 0, 0, 0, 0, 0, 0, 0, 0, 0, 0, 0, 0, 0, 0, 0, 0, 0, 0, 0, 0, 0, 0, 0, 0, 0, 0, 0, 0, 0, 0, 0, 0, 0, 0, 0, 0, 0, 0, 0, 0, 0, 0, 0, 0, 0, 0, 0, 0, 0, 0, 0, 0, 0, 0, 0, 0, 0, 0, 0, 0, 0, 0, 0, 0, 0, 0, 0, 0, 0, 0, 0, 0, 0, 0, 0, 0, 0, 0, 0, 0, 0, 0, 0, 0, 0, 0, 0, 0, 0, 0, 0, 0, 0, 0, 0, 0, 0, 0, 0, 0, 0, 0, 0, 0, 0, 0, 0, 0, 0, 0, 0, 0, 0, 0, 0, 0, 0, 0, 0, 0, 0, 0, 0, 0, 0, 0, 0, 0, 0, 0, 0, 0, 0, 0, 0, 0, 0, 0, 0, 0, 0, 0, 0, 0, 0, 0, 0, 0, 0, 0, 0, 0, 0, 0, 0, 0, 0, 0, 0, 0, 0, 0, 0, 0, 0, 0, 0, 0, 0, 0, 0, 0, 0, 0, 0, 0, 0, 0, 0, 0, 0, 0, 0, 0, 0, 0, 0, 0, 0, 0, 0, 0, 0, 0, 0, 0, 0, 0, 0, 0, 0, 0, 0, 0, 0, 0, 0, 0, 0, 0, 0, 0, 0, 0, 0, 0, 0, 0, 0, 0, 0, 0, 0, 0, 0, 0, 0, 0, 0, 0, 0, 0, 0, 0, 0, 0, 0, 0, 0, 0, 0, 0, 0, 0, 0, 0, 0, 0, 0, 0, 0, 0, 0, 0, 0, 0, 0, 0, 0, 0, 0, 0, 0, 0, 0, 0, 0, 0, 0, 0, 0, 900].getD k 0) Try.call25 (ih f (by omega) (l ++ [((F.getD (lastF l).toNat []).getD i 0)]) (u ||| 2 ^ ((F.getD (lastF l).toNat []).getD i 0).toNat) (k0 + (emD G F q l).length + (goTo (dgo G q u) (fun x => linD G F Rd Rw q f (l ++ [x]) (u ||| 2 ^ x.toNat)) (F.getD (lastF l).toNat []) i).length) ?_ ?_ ?_ ?_ ?_ rfl) (.plain rfl) ⟨(.plain rfl), (.plain rfl), trivial⟩ ⟨rfl, rfl, rfl, rfl, rfl, rfl, rfl, rfl, rfl, rfl, trivial⟩ (by kernel_rfl)) rfl (.kn rfl rfl (fun _ => op_not (.plain rfl)) (.n (fun _ => op_and0 (.plain rfl) (.plain rfl) (.plain rfl)) (.nil _)))))))))))))))))))))))))))) ?d12 ?dg12 ?_
            · omega
            · exact Int.ediv_nonneg (by omega) (by rw [← Int.one_mul (2 ^ _), shl_one]; exact Int.natCast_nonneg _)
            · try simp only [beq_iff_eq, beq_true, beq_false, Bool.and_eq_true, decide_eq_true_eq, decide_eq_false_iff_not, Bool.not_eq_true', Bool.or_eq_true, Bool.or_eq_false_iff] at hg
              first | omega | (simp; omega)
            · try simp only [beq_iff_eq, beq_true, beq_false, Bool.and_eq_true, decide_eq_true_eq, decide_eq_false_iff_not, Bool.not_eq_true', Bool.or_eq_true, Bool.or_eq_false_iff] at hg
              first | omega | (simp; omega)
            · try simp only [beq_iff_eq, beq_true, beq_false, Bool.and_eq_true, decide_eq_true_eq, decide_eq_false_iff_not, Bool.not_eq_true', Bool.or_eq_true, Bool.or_eq_false_iff] at hg
              exact ⟨by omega, by omega, shl_in (by omega)⟩
            · try simp only [beq_iff_eq, beq_true, beq_false, Bool.and_eq_true, decide_eq_true_eq, decide_eq_false_iff_not, Bool.not_eq_true', Bool.or_eq_true, Bool.or_eq_false_iff] at hg
              exact ⟨by omega, by rw [shl_one]; exact Int.natCast_nonneg _⟩
            · try simp only [beq_iff_eq, beq_true, beq_false, Bool.and_eq_true, decide_eq_true_eq, decide_eq_false_iff_not, Bool.not_eq_true', Bool.or_eq_true, Bool.or_eq_false_iff] at hg
              simp
            · try simp only [beq_iff_eq, beq_true, beq_false, Bool.and_eq_true, decide_eq_true_eq, decide_eq_false_iff_not, Bool.not_eq_true', Bool.or_eq_true, Bool.or_eq_false_iff] at hg
              simp; omega
            · try simp only [beq_iff_eq, beq_true, beq_false, Bool.and_eq_true, decide_eq_true_eq, decide_eq_false_iff_not, Bool.not_eq_true', Bool.or_eq_true, Bool.or_eq_false_iff] at hg
              rw [last_snoc]; omega
            · try simp only [beq_iff_eq, beq_true, beq_false, Bool.and_eq_true, decide_eq_true_eq, decide_eq_false_iff_not, Bool.not_eq_true', Bool.or_eq_true, Bool.or_eq_false_iff] at hg
              exact or_lt hu (by omega)
            · try simp only [beq_iff_eq, beq_true, beq_false, Bool.and_eq_true, decide_eq_true_eq, decide_eq_false_iff_not, Bool.not_eq_true', Bool.or_eq_true, Bool.or_eq_false_iff] at hg
              exact hsn
            · kernel_rfl
            · exact gOk_one 14 5 _ [16, 19] rfl (by kernel_rfl) rfl (by kernel_rfl) (fun k hk => by simp only [List.mem_cons, List.not_mem_nil, or_false] at hk; first | (subst hk; rfl) | (rcases hk with hk | hk <;> subst hk <;> rfl))
            refine awp_cond rfl (fun h => ?_) (fun h => ?_)
            · skip
              exfalso
              simp at h
            · skip
              refine awp_skip ?_
              refine awp_region rfl (.n (fun _ => op_add (.plain rfl) (.plain rfl) ?_) (.n (fun _ => op_move (.plain rfl)) (.nil _))) ?_
              · unfold InR; omega
              exact ⟨i + 1, by omega, by dsimp only; omega, (Ent.kept ⟨rfl, rfl, rfl, rfl, rfl, rfl, rfl, rfl, rfl, rfl, rfl, rfl, rfl, rfl, rfl, rfl, rfl, rfl, rfl, rfl, trivial⟩ ⟨rfl, rfl, rfl, rfl, rfl, rfl, (congrArg (fun q => some (Blk.box [SV.int (A q)])) (he)), (congrArg (fun q => some (Blk.box [SV.pv (.ints (B q))])) (he)), (congrArg (fun q => some (Blk.mq (C q))) (he)), (congrArg (fun q => some (Blk.mq (E q))) (he)), trivial⟩)⟩
          · have hng : ¬ dgo G q u ((F.getD (lastF l).toNat []).getD i 0) = true := dgo_no2 hcr hc3
            have he : k0 + (emD G F q l).length + (goTo (dgo G q u) (fun x => linD G F Rd Rw q f (l ++ [x]) (u ||| 2 ^ x.toNat)) (F.getD (lastF l).toNat []) i).length = k0 + (emD G F q l).length + (goTo (dgo G q u) (fun x => linD G F Rd Rw q f (l ++ [x]) (u ||| 2 ^ x.toNat)) (F.getD (lastF l).toNat []) (i + 1)).length := by rw [goTo_no hng]
            refine awp_region_draw mixed rfl (.n (fun _ => op_move (.plain rfl)) (.n (fun _ => op_move (.plain rfl)) (.n (fun _ => op_shr (.plain rfl) (.plain rfl) ?_) (.n (fun _ => op_bit (.plain rfl) ?_) (.n (fun _ => OpT.boolEq hc1 (op_eql (.plain rfl) (.plain rfl))) (.n (fun _ => op_move (.plain rfl)) (.kn rfl rfl (fun _ => op_move (.plain rfl)) (.kn rfl rfl (fun _ => OpT.boolEq hcr (op_move (.plain rfl))) (.kn rfl rfl (fun _ => op_move (.plain rfl)) (.kn rfl rfl (fun _ => op_load Try.isAgg3 (.plain rfl)) (.kn rfl rfl (fun _ => OpT.boolEq hc3 (op_gtr (.plain rfl) (.plain rfl))) (.kn rfl rfl (fun _ => op_or0 (.plain rfl) (.plain rfl) (.plain rfl)) (.n (fun _ => op_and0 (.plain rfl) (.plain rfl) (.plain rfl)) (.n (fun _ => op_move (.plain rfl)) (.no rfl rfl rfl (.no rfl rfl rfl (.no rfl rfl rfl (.no rfl rfl rfl (.no rfl rfl rfl (.no rfl rfl rfl (.no rfl rfl rfl (.no rfl rfl rfl (.no rfl rfl rfl (.no rfl rfl rfl (.no rfl rfl rfl (.no rfl rfl rfl (.n (fun _ => op_and (.plain rfl) (.plain rfl) (.plain rfl) (fun h => absurd h (by decide))) (.nil _)))))))))))))))))))))))))))) ?d13 ?_
            · omega
            · exact Int.ediv_nonneg (by omega) (by rw [← Int.one_mul (2 ^ _), shl_one]; exact Int.natCast_nonneg _)
            · kernel_rfl
            refine awp_cond rfl (fun h => ?_) (fun h => ?_)
            · skip
              exfalso
              simp at h
            · skip
              refine awp_skip ?_
              refine awp_region rfl (.n (fun _ => op_add (.plain rfl) (.plain rfl) ?_) (.n (fun _ => op_move (.plain rfl)) (.nil _))) ?_
              · unfold InR; omega
              exact ⟨i + 1, by omega, by dsimp only; omega, (Ent.kept ⟨rfl, rfl, rfl, rfl, rfl, rfl, rfl, rfl, rfl, rfl, rfl, rfl, rfl, rfl, rfl, rfl, rfl, rfl, rfl, rfl, trivial⟩ ⟨rfl, rfl, rfl, rfl, rfl, rfl, (congrArg (fun q => some (Blk.box [SV.int (A q)])) (he)), (congrArg (fun q => some (Blk.box [SV.pv (.ints (B q))])) (he)), (congrArg (fun q => some (Blk.mq (C q))) (he)), (congrArg (fun q => some (Blk.mq (E q))) (he)), trivial⟩)⟩
        · skip
          have h := of_decide_eq_false h
          refine awp_exit ?_
          refine awp_seq ?_
          refine awp_region rfl (.n (fun _ => op_assign (.plain rfl)) (.nil _)) ?_
          refine awp_ret ?_
          refine retH.ret ?_
          refine retH1 rfl rfl ⟨rfl, rfl, rfl, rfl, rfl, rfl, (congrArg (fun q => some (Blk.box [SV.int (A q)])) (by rw [linD_go hst, List.length_append, show i = (F.getD (lastF l).toNat []).length by omega]; omega)), (congrArg (fun q => some (Blk.box [SV.pv (.ints (B q))])) (by rw [linD_go hst, List.length_append, show i = (F.getD (lastF l).toNat []).length by omega]; omega)), (congrArg (fun q => some (Blk.mq (C q))) (by rw [linD_go hst, List.length_append, show i = (F.getD (lastF l).toNat []).length by omega]; omega)), (congrArg (fun q => some (Blk.mq (E q))) (by rw [linD_go hst, List.length_append, show i = (F.getD (lastF l).toNat []).length by omega]; omega)), trivial⟩ ⟨.inr rfl, .inr rfl, .inr rfl, .inr rfl, .inr rfl, .inr rfl, .inr rfl, .inr rfl, .inr rfl, .inr rfl, trivial⟩ ?_
          rfl
  · have hEM : emDP G F q l := ⟨of_decide_eq_true hc1, .inr (by have := of_decide_eq_true hcb; rw [show ((l.length : Int) - 1).toNat = l.length - 1 by omega] at this; exact this)⟩
    have hem : emD G F q l = [l] := if_pos hEM
    have hyo : YH Try.prog 900 (.yld ps asg bd [.pv .any, .pv .any, .ref 2 0, .pv (.rd [.i (u0 : Nat)]), .pv .any, .pv .any, .pv .any, .ref 7 0, .ref 8 0, .pv (.rd [.i (q : Nat)]), .pv .any, .pv .any, .pv .any, .pv .any, .pv .any, .pv .any, .pv .any, .pv .any, .pv .any, .pv .any, .pv .any, .pv .any, .pv .any, .pv .any, .pv .any, .pv .any, .pv .any, .pv .any, .pv .any, .pv .any, .pv .any, .pv .any, .int (F.length : Nat), .int (q : Nat), .pv .any, .pv .any, .pv .any, .pv .any, .pv .any, .pv .any, .pv .any, .pv .any, .pv .any, .pv .any, .clo (.func 24) [.pv (.rd [.i (q : Nat)]), .ref 44 0, .pv (.rd [.i (u0 : Nat)])], .pv .any, .pv .any, .pv .any, .pv .any, .pv .any, .pv .any, .pv .any, .pv .any, .pv .any, .pv .any, .pv .any, .pv .any, .pv .any, .pv .any, .pv .any, .pv .any, .pv .any, .pv .any, .pv .any, .pv .any, .pv .any, .pv .any, .pv .any, .pv .any, .pv .any, .pv .any, .pv .any, .pv .any, .pv .any, .pv .any, .pv .any, .pv .any, .pv .any, .pv .any, .pv .any, .pv .any, .pv .any, .pv .any, .pv .any, .pv .any, .pv .any, .pv .any, .pv .any, .pv .any, .pv .any, .pv .any, .pv .any, .pv .any, .pv .any, .pv .any, .pv .any, .pv .any, .pv .any, .pv .any, .pv .any, .pv .any]) [.pv (.ints l)] [(44, .box [.ref 40 0]), (2, .box [.ref 40 0]), (40, .box [.pv (.i G), .pv (.rows F), .pv (.i Rd), .pv (.i Rw), .own 41, .own 42]), (7, .box [.int (A (k0))]), (8, .box [.pv (.ints (B (k0)))]), (41, .mq (C (k0))), (42, .mq (E (k0)))] [(44, .box [.ref 40 0]), (2, .box [.ref 40 0]), (40, .box [.pv (.i G), .pv (.rows F), .pv (.i Rd), .pv (.i Rw), .own 41, .own 42]), (7, .box [.int (A (k0 + 1))]), (8, .box [.pv (.ints (B (k0 + 1)))]), (41, .mq (C (k0 + 1))), (42, .mq (E (k0 + 1)))] := by
      have hs1 := hs0.at' (j := 0) (by rw [hem]; simp)
      have he : (linA G F Rd Rw u0 q).getD k0 [] = l := by have := hs1.1; rw [hem] at this; exact this
      have h9 := hy k0 hs1.2
      rw [he] at h9
      exact h9
    have hkk : k0 + 1 = k0 + (emD G F q l).length := by rw [hem]; rfl
    refine awp_region_draw mixed rfl (.n (fun _ => op_move (.plain rfl)) (.n (fun _ => op_len (s := 0) Try.underlying35 (.plain rfl)) (.n (fun _ => OpT.boolEq hc1 (op_gtr (.plain rfl) (.plain rfl))) (.n (fun _ => op_move (.plain rfl)) (.kn rfl rfl (fun _ => op_move (.plain rfl)) (.kn rfl rfl (fun _ => OpT.boolEq hcr (op_move (.plain rfl))) (.kr rfl rfl (op_loadR Try.isAgg41 (.plain rfl) rfl rfl) (.kn rfl rfl (fun _ => op_nilCheckR (.plain rfl)) (.kn rfl rfl (fun _ => op_fieldAddrR Try.underlying44 rfl rfl Try.sizeOf24 (.plain rfl)) (.kr rfl rfl (op_loadRA Try.isAgg24 Try.sizeOf24 (.plain rfl) rfl (by first | (simp; done) | exact Nat.le_of_ble_eq_true rfl) rfl) (.kn rfl rfl (fun _ => op_move (.plain rfl)) (.kn rfl rfl (fun _ => op_move (.plain rfl)) (.kn rfl rfl (fun _ => op_len (s := 0) Try.underlying35 (.plain rfl)) (.kn rfl rfl (fun _ => op_sub (.plain rfl) (.plain rfl) ?_) (.kn rfl rfl (fun _ => op_indexAddr Try.underlying35 Try.sizeOf3 (.plain rfl) (.plain rfl) (fun _ => rfl) ?_) (.kn rfl rfl (fun _ => op_load Try.isAgg3 (.plain rfl)) (.kn rfl rfl (fun _ => op_load Try.isAgg3 (.plain rfl)) (.kn rfl rfl (fun _ => op_call3 Try.call15 (.plain rfl) (.plain rfl) (.plain rfl) (gives_lit hcb ?_)) (.kn rfl rfl (fun _ => op_or0 (.plain rfl) (.plain rfl) (.plain rfl)) (.n (fun _ => op_and0 (.plain rfl) (.plain rfl) (.plain rfl)) (.n (fun _ => op_move (.plain rfl)) (.kr rfl rfl (op_loadR Try.isAgg53 (.plain rfl) rfl rfl) (.kn rfl rfl (fun _ => op_move (.plain rfl)) (.kn rfl rfl (fun _ => op_call1 Try.call26 (.plain rfl) ((clone_fc _ ?_).fc)) (.key rfl rfl (op_yield (y := 900) (ags := [_]) (fun k => k) (hyo) (.plain rfl) ⟨(.plain rfl), trivial⟩ ⟨rfl, rfl, rfl, rfl, rfl, rfl, rfl, rfl, trivial⟩ (by kernel_rfl)) rfl (.kn rfl rfl (fun _ => op_not (.plain rfl)) (.n (fun _ => op_and0 (.plain rfl) (.plain rfl) (.plain rfl)) (.nil _)))))))))))))))))))))))))))) ?d14 ?_
    · try simp only [beq_iff_eq, beq_true, beq_false, Bool.and_eq_true, decide_eq_true_eq, decide_eq_false_iff_not, Bool.not_eq_true', Bool.or_eq_true, Bool.or_eq_false_iff] at hg
      unfold InR; omega
    · try simp only [beq_iff_eq, beq_true, beq_false, Bool.and_eq_true, decide_eq_true_eq, decide_eq_false_iff_not, Bool.not_eq_true', Bool.or_eq_true, Bool.or_eq_false_iff] at hg
      omega
    · try simp only [beq_iff_eq, beq_true, beq_false, Bool.and_eq_true, decide_eq_true_eq, decide_eq_false_iff_not, Bool.not_eq_true', Bool.or_eq_true, Bool.or_eq_false_iff] at hg
      rw [show ((l.length : Int) - 1).toNat = l.length - 1 by omega]; exact hla
    · try simp only [beq_iff_eq, beq_true, beq_false, Bool.and_eq_true, decide_eq_true_eq, decide_eq_false_iff_not, Bool.not_eq_true', Bool.or_eq_true, Bool.or_eq_false_iff] at hg
      first | omega | (simp; omega)
    · kernel_rfl
    refine awp_cond rfl (fun h => ?_) (fun h => ?_)
    · skip
      exfalso
      simp at h
    · skip
      refine awp_skip ?_
      refine awp_seq ?_
      refine awp_seq ?_
      refine awp_region rfl (.n (fun _ => op_move (.plain rfl)) (.n (fun _ => op_move (.plain rfl)) (.gn rfl rfl (fun hg _ => op_move (.plain rfl)) (.gn rfl rfl (fun hg _ => op_len (s := 0) Try.underlying35 (.opt rfl fun h => h)) (.gr rfl rfl (fun hg => op_loadR Try.isAgg41 (.plain rfl) rfl rfl) (.gn rfl rfl (fun hg _ => op_nilCheckR (.opt rfl fun h => h)) (.gn rfl rfl (fun hg _ => op_fieldAddrR Try.underlying44 rfl rfl Try.sizeOf24 (.opt rfl fun h => h)) (.gn rfl rfl (fun hg _ => op_fieldAddrR Try.underlying24 rfl rfl Try.sizeOf3 (.opt rfl fun h => h)) (.gr rfl rfl (fun hg => op_loadR Try.isAgg3 (.opt rfl fun h => h) rfl rfl) (.gn rfl rfl (fun hg _ => op_gtr (.opt rfl fun h => h) (.opt rfl fun h => h)) (.n (fun _ => op_and (.plain rfl) (.plain rfl) (.plain rfl) (fun h => eqT h)) (.n (fun _ => op_move (.plain rfl)) (.gn rfl rfl (fun hg _ => op_move (.plain rfl)) (.gn rfl rfl (fun hg _ => op_not (.opt rfl fun h => h)) (.gn rfl rfl (fun hg _ => op_move (.opt rfl fun h => h)) (.ggn rfl rfl (fun hg _ => op_move (.plain rfl)) (.ggn rfl rfl (fun hg _ => op_len (s := 0) Try.underlying35 (.opt rfl fun h => h)) (.ggr rfl rfl (fun hg => op_loadR Try.isAgg41 (.plain rfl) rfl rfl) (.ggn rfl rfl (fun hg _ => op_nilCheckR (.opt rfl fun h => h)) (.ggn rfl rfl (fun hg _ => op_fieldAddrR Try.underlying44 rfl rfl Try.sizeOf24 (.opt rfl fun h => h)) (.ggn rfl rfl (fun hg _ => op_fieldAddrR Try.underlying24 rfl rfl Try.sizeOf3 (.opt rfl fun h => h)) (.ggr rfl rfl (fun hg => op_loadR Try.isAgg3 (.opt rfl fun h => h) rfl rfl) (.ggn rfl rfl (fun hg _ => op_geq (.opt rfl fun h => h) (.opt rfl fun h => h)) (.gn rfl rfl (fun hg _ => op_and (.opt rfl fun h => h) (.plain rfl) (.plain rfl) (fun h => andI hg (eqT h))) (.n (fun _ => op_or (.plain rfl) (.plain rfl) (.plain rfl) (fun h => eqF h)) (.nil _)))))))))))))))))))))))))) ?_
      refine awp_cond rfl (fun h => ?_) (fun h => ?_)
      · skip
        simp only [decide_eq_true_eq, decide_eq_false_iff_not, Bool.and_eq_true, Bool.or_eq_true, Bool.and_eq_false_iff, Bool.or_eq_false_iff, Bool.not_eq_true', Bool.not_eq_false', Bool.not_eq_true, Bool.not_eq_false] at h
        have hst : stopD G Rd Rw q l := h
        refine awp_seq ?_
        refine awp_region rfl (.n (fun _ => op_assign (.plain rfl)) (.nil _)) ?_
        refine awp_ret ?_
        refine retH.ret ?_
        refine retH1 rfl rfl ⟨rfl, rfl, rfl, rfl, rfl, rfl, (congrArg (fun q => some (Blk.box [SV.int (A q)])) (by rw [linD_stop hst]; exact hkk)), (congrArg (fun q => some (Blk.box [SV.pv (.ints (B q))])) (by rw [linD_stop hst]; exact hkk)), (congrArg (fun q => some (Blk.mq (C q))) (by rw [linD_stop hst]; exact hkk)), (congrArg (fun q => some (Blk.mq (E q))) (by rw [linD_stop hst]; exact hkk)), trivial⟩ ⟨.inr rfl, .inr rfl, .inr rfl, .inr rfl, .inr rfl, .inr rfl, .inr rfl, .inr rfl, .inr rfl, .inr rfl, trivial⟩ ?_
        rfl
      · skip
        simp only [decide_eq_true_eq, decide_eq_false_iff_not, Bool.and_eq_true, Bool.or_eq_true, Bool.and_eq_false_iff, Bool.or_eq_false_iff, Bool.not_eq_true', Bool.not_eq_false', Bool.not_eq_true, Bool.not_eq_false] at h
        have hst : ¬ stopD G Rd Rw q l := by unfold stopD; omega
        obtain ⟨f, rfl⟩ : ∃ q, f = q + 1 := ⟨f - 1, by unfold stopD at hst; omega⟩
        have hs2 := hs
        rw [linD_go hst] at hs2
        have hs2 := hs2.right
        have hlt8 : (lastF l).toNat < F.length := by omega
        have hln := hS.len _ hlt8
        refine awp_skip ?_
        refine awp_seq ?_
        refine awp_seq ?_
        refine awp_region_draw mixed rfl (.r (op_loadR Try.isAgg41 (.plain rfl) rfl rfl) (.n (fun _ => op_nilCheckR (.plain rfl)) (.n (fun _ => op_fieldAddrR Try.underlying44 rfl rfl Try.sizeOf24 (.plain rfl)) (.n (fun _ => op_fieldAddrR Try.underlying24 rfl rfl Try.sizeOf22 (.plain rfl)) (.r (op_loadR Try.isAgg22 (.plain rfl) rfl rfl) (.n (fun _ => op_move (.plain rfl)) (.n (fun _ => op_move (.plain rfl)) (.n (fun _ => op_len (s := 0) Try.underlying35 (.plain rfl)) (.n (fun _ => op_sub (.plain rfl) (.plain rfl) ?_) (.n (fun _ => op_indexAddr Try.underlying35 Try.sizeOf3 (.plain rfl) (.plain rfl) (fun _ => rfl) ?_) (.n (fun _ => op_load Try.isAgg3 (.plain rfl)) (.n (fun _ => op_indexAddr Try.underlying22 Try.sizeOf35 (.plain rfl) (.plain rfl) (fun _ => rfl) ?_) (.n (fun _ => op_load Try.isAgg35 (.plain rfl)) (.n (fun _ => op_len (s := 0) Try.underlying35 (.plain rfl)) (.n (fun _ => op_move (.plain rfl)) (.nil _)))))))))))))))) ?d15 ?_
        · unfold InR; omega
        · omega
        · rw [show ((l.length : Int) - 1).toNat = l.length - 1 by omega]; exact hla
        · kernel_rfl
        refine awp_block ?_
        refine awp_loop (σ := Nat) (fun (i : Nat) => i ≤ (F.getD (lastF l).toNat []).length) (fun (i : Nat) => ⟨[(0, .pv (.ints l)), (1, .int (u : Nat)), (2, .pv (.rd [.i (q : Nat)])), (3, .ref 44 0), (4, .ref 4 0), (5, .ref 5 0), (9, .bool (decide (((q : Nat) : Int) < G))), (83, .pv (.ints (F.getD (lastF l).toNat []))), (84, .int ((F.getD (lastF l).toNat []).length : Nat)), (85, .int (i : Nat)), (1000900, .pin 900 (ι0 900)), (1000004, .pin 4 (ι0 4)), (1000005, .pin 5 (ι0 5)), (1000044, .pin 44 (ι0 44)), (1000002, .pin 2 (ι0 2)), (1000040, .pin 40 (ι0 40)), (1000007, .pin 7 (ι0 7)), (1000008, .pin 8 (ι0 8)), (1000041, .pin 41 (ι0 41)), (1000042, .pin 42 (ι0 42))], [(900, .yld ps asg bd [.pv .any, .pv .any, .ref 2 0, .pv (.rd [.i (u0 : Nat)]), .pv .any, .pv .any, .pv .any, .ref 7 0, .ref 8 0, .pv (.rd [.i (q : Nat)]), .pv .any, .pv .any, .pv .any, .pv .any, .pv .any, .pv .any, .pv .any, .pv .any, .pv .any, .pv .any, .pv .any, .pv .any, .pv .any, .pv .any, .pv .any, .pv .any, .pv .any, .pv .any, .pv .any, .pv .any, .pv .any, .pv .any, .int (F.length : Nat), .int (q : Nat), .pv .any, .pv .any, .pv .any, .pv .any, .pv .any, .pv .any, .pv .any, .pv .any, .pv .any, .pv .any, .clo (.func 24) [.pv (.rd [.i (q : Nat)]), .ref 44 0, .pv (.rd [.i (u0 : Nat)])], .pv .any, .pv .any, .pv .any, .pv .any, .pv .any, .pv .any, .pv .any, .pv .any, .pv .any, .pv .any, .pv .any, .pv .any, .pv .any, .pv .any, .pv .any, .pv .any, .pv .any, .pv .any, .pv .any, .pv .any, .pv .any, .pv .any, .pv .any, .pv .any, .pv .any, .pv .any, .pv .any, .pv .any, .pv .any, .pv .any, .pv .any, .pv .any, .pv .any, .pv .any, .pv .any, .pv .any, .pv .any, .pv .any, .pv .any, .pv .any, .pv .any, .pv .any, .pv .any, .pv .any, .pv .any, .pv .any, .pv .any, .pv .any, .pv .any, .pv .any, .pv .any, .pv .any, .pv .any, .pv .any, .pv .any, .pv .any]), (4, .box [.own 900]), (5, .box [.clo (.func 25) [.pv (.rd [.i (q : Nat)]), .ref 44 0, .ref 4 0, .ref 5 0]]), (44, .box [.ref 40 0]), (2, .box [.ref 40 0]), (40, .box [.pv (.i G), .pv (.rows F), .pv (.i Rd), .pv (.i Rw), .own 41, .own 42]), (7, .box [.int (A (k0 + (emD G F q l).length + (goTo (dgo G q u) (fun x => linD G F Rd Rw q f (l ++ [x]) (u ||| 2 ^ x.toNat)) (F.getD (lastF l).toNat []) i).length))]), (8, .box [.pv (.ints (B (k0 + (emD G F q l).length + (goTo (dgo G q u) (fun x => linD G F Rd Rw q f (l ++ [x]) (u ||| 2 ^ x.toNat)) (F.getD (lastF l).toNat []) i).length)))]), (41, .mq (C (k0 + (emD G F q l).length + (goTo (dgo G q u) (fun x => linD G F Rd Rw q f (l ++ [x]) (u ||| 2 ^ x.toNat)) (F.getD (lastF l).toNat []) i).length))), (42, .mq (E (k0 + (emD G F q l).length + (goTo (dgo G q u) (fun x => linD G F Rd Rw q f (l ++ [x]) (u ||| 2 ^ x.toNat)) (F.getD (lastF l).toNat []) i).length)))]⟩) (fun (i : Nat) => (F.getD (lastF l).toNat []).length - i) 0 ?_ (Ent.kept ⟨rfl, rfl, rfl, rfl, rfl, rfl, rfl, (congrArg (fun j => some (SV.pv (.ints (F.getD (l.getD j 0).toNat [])))) (show ((l.length : Int) - 1).toNat = l.length - 1 by omega)), (congrArg (fun j => some (SV.int ((F.getD (l.getD j 0).toNat []).length : Nat))) (show ((l.length : Int) - 1).toNat = l.length - 1 by omega)), rfl, rfl, rfl, rfl, rfl, rfl, rfl, rfl, rfl, rfl, rfl, trivial⟩ ⟨rfl, rfl, rfl, rfl, rfl, rfl, (congrArg (fun q => some (Blk.box [SV.int (A q)])) (hkk)), (congrArg (fun q => some (Blk.box [SV.pv (.ints (B q))])) (hkk)), (congrArg (fun q => some (Blk.mq (C q))) (hkk)), (congrArg (fun q => some (Blk.mq (E q))) (hkk)), trivial⟩) ?_
        · exact Nat.zero_le _
        rintro i hp
        try dsimp only at hp
        have hi := hp
        refine awp_seq ?_
        refine awp_region rfl (.n (fun _ => op_lss (.plain rfl) (.plain rfl)) (.nil _)) ?_
        refine awp_seq ?_
        refine awp_cond rfl (fun h => ?_) (fun h => ?_)
        · skip
          have h := of_decide_eq_true h
          have hfx := hS.fit (lastF l).toNat (by omega) i (by omega)
          refine awp_skip ?_
          refine awp_seq ?_
          refine awp_block ?_
          refine awp_seq ?_
          refine awp_region rfl (.n (fun _ => op_indexAddrN Try.underlying35 Try.sizeOf3 (.plain rfl) (.plain rfl) (fun _ => rfl) ?_) (.n (fun _ => op_load Try.isAgg3 (.plain rfl)) (.n (fun _ => op_assign (.plain rfl)) (.nil _)))) ?_
          · omega
          refine awp_seq ?_
          rcases split4 (decide ((u : Int) / 2 ^ ((F.getD (lastF l).toNat []).getD i 0).toNat % 2 = 0)) (decide (((q : Nat) : Int) < G)) (decide (((q : Nat) : Int) < ((F.getD (lastF l).toNat []).getD i 0))) with hc1 | ⟨hc1, hcr⟩ | ⟨hc1, hcr, hc3⟩ | ⟨hc1, hcr, hc3⟩
          · have hng : ¬ dgo G q u ((F.getD (lastF l).toNat []).getD i 0) = true := dgo_no (bit_cf hc1)
            have he : k0 + (emD G F q l).length + (goTo (dgo G q u) (fun x => linD G F Rd Rw q f (l ++ [x]) (u ||| 2 ^ x.toNat)) (F.getD (lastF l).toNat []) i).length = k0 + (emD G F q l).length + (goTo (dgo G q u) (fun x => linD G F Rd Rw q f (l ++ [x]) (u ||| 2 ^ x.toNat)) (F.getD (lastF l).toNat []) (i + 1)).length := by rw [goTo_no hng]
            refine awp_region_draw mixed rfl (.n (fun _ => op_move (.plain rfl)) (.n (fun _ => op_move (.plain rfl)) (.n (fun _ => op_shr (.plain rfl) (.plain rfl) ?_) (.n (fun _ => op_bit (.plain rfl) ?_) (.n (fun _ => OpT.boolEq hc1 (op_eql (.plain rfl) (.plain rfl))) (.n (fun _ => op_move (.plain rfl)) (.no rfl rfl rfl (.no rfl rfl rfl (.noo rfl rfl (.noo rfl rfl (.noo rfl rfl (.no rfl rfl rfl (.n (fun _ => op_and (.plain rfl) (.plain rfl) (.plain rfl) (fun h => absurd h (by decide))) (.n (fun _ => op_move (.plain rfl)) (.no rfl rfl rfl (.no rfl rfl rfl (.no rfl rfl rfl (.no rfl rfl rfl (.no rfl rfl rfl (.no rfl rfl rfl (.no rfl rfl rfl (.no rfl rfl rfl (.no rfl rfl rfl (.no rfl rfl rfl (.no rfl rfl rfl (.no rfl rfl rfl (.n (fun _ => op_and (.plain rfl) (.plain rfl) (.plain rfl) (fun h => absurd h (by decide))) (.nil _)))))))))))))))))))))))))))) ?d16 ?_
            · omega
            · exact Int.ediv_nonneg (by omega) (by rw [← Int.one_mul (2 ^ _), shl_one]; exact Int.natCast_nonneg _)
            · kernel_rfl
            refine awp_cond rfl (fun h => ?_) (fun h => ?_)
            · skip
              exfalso
              simp at h
            · skip
              refine awp_skip ?_
              refine awp_region rfl (.n (fun _ => op_add (.plain rfl) (.plain rfl) ?_) (.n (fun _ => op_move (.plain rfl)) (.nil _))) ?_
              · unfold InR; omega
              exact ⟨i + 1, by omega, by dsimp only; omega, (Ent.kept ⟨rfl, rfl, rfl, rfl, rfl, rfl, rfl, rfl, rfl, rfl, rfl, rfl, rfl, rfl, rfl, rfl, rfl, rfl, rfl, rfl, trivial⟩ ⟨rfl, rfl, rfl, rfl, rfl, rfl, (congrArg (fun q => some (Blk.box [SV.int (A q)])) (he)), (congrArg (fun q => some (Blk.box [SV.pv (.ints (B q))])) (he)), (congrArg (fun q => some (Blk.mq (C q))) (he)), (congrArg (fun q => some (Blk.mq (E q))) (he)), trivial⟩)⟩
          · have hgo : dgo G q u ((F.getD (lastF l).toNat []).getD i 0) = true := dgo_yes (bit_ct hc1) (.inl hcr)
            have hsn := hs2.go (show i < (F.getD (lastF l).toNat []).length by omega) hgo
            have he : k0 + (emD G F q l).length + (goTo (dgo G q u) (fun x => linD G F Rd Rw q f (l ++ [x]) (u ||| 2 ^ x.toNat)) (F.getD (lastF l).toNat []) i).length + (linD G F Rd Rw q f (l ++ [((F.getD (lastF l).toNat []).getD i 0)]) (u ||| 2 ^ ((F.getD (lastF l).toNat []).getD i 0).toNat)).length = k0 + (emD G F q l).length + (goTo (dgo G q u) (fun x => linD G F Rd Rw q f (l ++ [x]) (u ||| 2 ^ x.toNat)) (F.getD (lastF l).toNat []) (i + 1)).length := by rw [← goTo_yes hgo, List.length_append]; omega
            refine awp_region_drawG mixed rfl (.n (fun _ => op_move (.plain rfl)) (.n (fun _ => op_move (.plain rfl)) (.n (fun _ => op_shr (.plain rfl) (.plain rfl) ?_) (.n (fun _ => op_bit (.plain rfl) ?_) (.n (fun _ => OpT.boolEq hc1 (op_eql (.plain rfl) (.plain rfl))) (.n (fun _ => op_move (.plain rfl)) (.kn rfl rfl (fun _ => op_move (.plain rfl)) (.kn rfl rfl (fun _ => OpT.boolEq hcr (op_move (.plain rfl))) (.no rfl rfl rfl (.no rfl rfl rfl (.no rfl rfl rfl (.kn rfl rfl (fun _ => op_or (.plain rfl) (.plain rfl) (.plain rfl) (fun h => absurd h (by decide))) (.n (fun _ => op_and0 (.plain rfl) (.plain rfl) (.plain rfl)) (.n (fun _ => op_move (.plain rfl)) (.klook rfl rfl 5 rfl (fun _ hl => op_loadR Try.isAgg47 (.plain rfl)  hl rfl) (.kn rfl rfl (fun _ => op_move (.plain rfl)) (.ke rfl rfl (op_callO (vals := [_]) 105 Try.call26 ⟨⟨_, (.plain rfl), rfl⟩, trivial⟩ (clone_fc _ ?_) (by simp [PV.flat]) rfl) rfl (.kn rfl rfl (fun _ => op_move (.plain rfl)) (.kn rfl rfl (fun _ => op_slit (pp := [(0, _)]) (α := Int) (d := 0) (f := (fun n => [.int .i64 n])) [_] ety35 rfl ⟨rfl, (.plain rfl), (by simp), trivial⟩ rfl (by decide) rfl) (.ke rfl rfl ((op_append (id' := 108) (α := Int) (d := 0) (f := (fun n => [.int .i64 n])) ety35 Try.underlying35 (fun _ => rfl) (fun _ => rfl) (.plain rfl) rfl (.plain rfl) rfl ?_).given rfl) rfl (.kn rfl rfl (fun _ => op_move (.plain rfl)) (.kn rfl rfl (fun _ => op_move (.plain rfl)) (.kn rfl rfl (fun _ => op_shl (.plain rfl) (.plain rfl) ?_) (.kn rfl rfl (fun _ => OpT.intEq (or_shl _ _) (op_bor (.plain rfl) (.plain rfl) ?_)) (.ke rfl rfl (op_callVH (ags := [_, _]) (fun k => [0, 0, 2, 0, 4, 5, 0, 7, 8, 0, 0, 0, 0, 0, 0, 0, 0, 0, 0, 0, 0, 0, 0, 0, 0, 0, 0, 0, 0, 0, 0, 0, 0, 0, 0, 0, 0, 0, 0, 0, 40, 41, 42, 0, 44, 0, 0, 0, 0, 0, 0, 0, 0, 0, 0, 0, 0, 0, 0, 0, 0, 0, 0, 0, 0, 0, 0, 0, 0, 0, 0, 0, 0, 0, 0, 0, 0, 0, 0, 0, 0, 0, 0, 0, 0, 0, 0, 0, 0, 0, 0, 0, 0, 0, 0, 0, 0, 0, 0, 0, 0, 0, 0, 0, 0, 0, 0, 0, 0, 0, 0, 0, 0, 0, 0, 0, 0, 0, 0, 0, 0, 0, 0, 0, 0, 0, 0, 0, 0, 0, 0, 0, 0, 0, 0, 0, 0, 0, 0, 0, 0, 0, 0, 0, 0, 0, 0, 0, 0, 0, 0, 0, 0, 0, 0, 0, 0, 0, 0, 0, 0, 0, 0, 0, 0, 0, 0, 0, 0, 0, 0, 0, 0, 0, 0, 0, 0, 0, 0, 0, 0, 0, 0, 0, 0, 0, 0, 0, 0, 0, 0, 0, 0, 0, 0, 0, 0, 0, 0, 0, 0, 0, 0, 0, 0, 0, 0, 0, 0, 0, 0, 0, 0, 0, 0, 0, 0, 0, 0, 0, 0, 0, 0, 0, 0, 0, 0, 0, 0, 0, 0, 0, 0, 0, 0, 0, 0, 0, 0, 0, 0, 0, 0, 0, 0, 0, 0, 0, 0, 0, 0, 0, 0, 0, 0, 0, 0, 0, 0, 0, 0, 0, 0, 0, 0, 0, 0, 0, 0, 0, 0, 0, 0, 0, 0, 0, 0, 0, 0, 0, 0, 0, 0, 0, 0, 0, 0, 0, 0, 0, 0, 0, 0, 0, 0, 0, 0, 0, 0, 0, 0, 0, 0, 0, 0, 0, 0, 0, 0, 0, 0, 0, 0, 0, 0, 0, 0, 0, 0, 0, 0, 0, 0, 0, 0, 0, 0, 0, 0, 0, 0, 0, 0, 0, 0, 0, 0, 0, 0, 0, 0, 0, 0, 0, 0, 0, 0, 0, 0, 0, 0, 0, 0, 0, 0, 0, 0, 0, 0, 0, 0, 0, 0, 0, 0, 0, 0, 0, 0, 0, 0, 0, 0, 0, 0, 0, 0, 0, 0, 0, 0, 0, 0, 0, 0, 0, 0, 0, 0, 0, 0, 0, 0, 0, 0, 0, 0, 0, 0, 0, 0, 0, 0, 0, 0, 0, 0, 0, 0, 0, 0, 0, 0, 0, 0, 0, 0, 0, 0, 0, 0, 0, 0, 0, 0, 0, 0, 0, 0, 0, 0, 0, 0, 0, 0, 0, 0, 0, 0, 0, 0, 0, 0, 0, 0, 0, 0, 0, 0, 0, 0, 0, 0, 0, 0, 0, 0, 0, 0, 0, 0, 0, 0, 0, 0, 0, 0, 0, 0, 0, 0, 0, 0, 0, 0, 0, 0, 0, 0, 0, 0, 0, 0, 0, 0, 0, 0, 0, 0, 0, 0, 0, 0, 0, 0, 0, 0, 0, 0, 0, 0, 0, 0, 0, 0, 0, 0, 0, 0, 0, 0, 0, 0, 0, 0, 0, 0, 0, 0, 0, 0, 0, 0, 0, 0, 0, 0, 0, 0, 0, 0, 0, 0, 0, 0, 0, 0, 0, 0, 0, 0, 0, 0, 0, 0, 0, 0, 0, 0, 0, 0, 0, 0, 0, 0, 0, 0, 0, 0, 0, 0, 0, 0, 0, 0, 0, 0, 0, 0, 0, 0, 0, 0, 0, 0, 0, 0, 0, 0, 0, 0, 0, 0, 0, 0, 0, 0, 0, 0, 0, 0, 0, 0, 0, 0, 0, 0, 0, 0, 0, 0, 0, 0, 0, 0, 0, 0, 0, 0, 0, 0, 0, 0, 0, 0, 0, 0, 0, 0, 0, 0, 0, 0, 0, 0, 0, 0, 0, 0, 0, 0, 0, 0, 0, 0, 0, 0, 0, 0, 0, 0, 0, 0, 0, 0, 0, 0, 0, 0, 0, 0, 0, 0, 0, 0, 0, 0, 0, 0, 0, 0, 0, 0, 0, 0, 0, 0, 0, 0, 0, 0, 0, 0, 0, 0, 0, 0, 0, 0, 0, 0, 0, 0, 0, 0, 0, 0, 0, 0, 0, 0, 0, 0, 0, 0, 0, 0, 0, 0, 0, 0, 0, 0, 0, 0, 0, 0, 0, 0, 0, 0, 0, 0, 0, 0, 0, 0, 0, 0, 0, 0, 0, 0, 0, 0, 0, 0, 0, 0, 0, 0, 0, 0, 0, 0, 0, 0, 0, 0, 0, 0, 0, 0, 0, 0, 0, 0, 0, 0, 0, 0, 0, 0, 0, 0, 0, 0, 0, 0, 0, 0, 0, 0, 0, 0, 0, 0, 0, 0, 0, 0, 0, 0, 0, 0, 0, 0, 0, 0, 0, 0, 0, 0, 0, 0, 0, 0, 0, 0, 0, 0, 0, 0, 0, 0, 0, 0, 0, 0, 0, 0, 0, 0, 0, 0, 0, 0, 0, 0, 0, 0, 0, 0, 0, 0, 0, 0, 0, 0, 0, 0, 0, 0, 0, 0, 0, 0, 0, 0, 0, 0, 0, 0, 0, 0, 0, 0, 0, 0, 0, 0, 0, 0, 0, 0, 0, 0, 0, 0, 0, 0, 0, 0, 0, 0, 0, 0, 0, 0, 0, 0, 0, 0, 0, 0, 0, 0, 0, 0, 0, 0, 0, 0, 0, 0, 0, 0, 0, 0, 0, 0, 0, 0, 0, 0, 0, 0, 0, 0, 0, 0, 0, 0, 0, 0, 0, 0, 0, 0, 0, 900].getD k 0) Try.call25 (ih f (by omega) (l ++ [((F.getD (lastF l).toNat []).getD i 0)]) (u ||| 2 ^ ((F.getD (lastF l).toNat []).getD i 0).toNat) (k0 + (emD G F q l).length + (goTo (dgo G q u) (fun x => linD G F Rd Rw q f (l ++ [x]) (u ||| 2 ^ x.toNat)) (F.getD (lastF l).toNat []) i).length) ?_ ?_ ?_ ?_ ?_ rfl) (.plain rfl) ⟨(.plain rfl), (.plain rfl), trivial⟩ ⟨rfl, rfl, rfl, rfl, rfl, rfl, rfl, rfl, rfl, rfl, trivial⟩ (by kernel_rfl)) rfl (.kn rfl rfl (fun _ => op_not (.plain rfl)) (.n (fun _ => op_and0 (.plain rfl) (.plain rfl) (.plain rfl)) (.nil _)))))))))))))))))))))))))))) ?d17 ?dg17 ?_
            · omega
            · exact Int.ediv_nonneg (by omega) (by rw [← Int.one_mul (2 ^ _), shl_one]; exact Int.natCast_nonneg _)
            · try simp only [beq_iff_eq, beq_true, beq_false, Bool.and_eq_true, decide_eq_true_eq, decide_eq_false_iff_not, Bool.not_eq_true', Bool.or_eq_true, Bool.or_eq_false_iff] at hg
              first | omega | (simp; omega)
            · try simp only [beq_iff_eq, beq_true, beq_false, Bool.and_eq_true, decide_eq_true_eq, decide_eq_false_iff_not, Bool.not_eq_true', Bool.or_eq_true, Bool.or_eq_false_iff] at hg
              first | omega | (simp; omega)
            · try simp only [beq_iff_eq, beq_true, beq_false, Bool.and_eq_true, decide_eq_true_eq, decide_eq_false_iff_not, Bool.not_eq_true', Bool.or_eq_true, Bool.or_eq_false_iff] at hg
              exact ⟨by omega, by omega, shl_in (by omega)⟩
            · try simp only [beq_iff_eq, beq_true, beq_false, Bool.and_eq_true, decide_eq_true_eq, decide_eq_false_iff_not, Bool.not_eq_true', Bool.or_eq_true, Bool.or_eq_false_iff] at hg
              exact ⟨by omega, by rw [shl_one]; exact Int.natCast_nonneg _⟩
            · try simp only [beq_iff_eq, beq_true, beq_false, Bool.and_eq_true, decide_eq_true_eq, decide_eq_false_iff_not, Bool.not_eq_true', Bool.or_eq_true, Bool.or_eq_false_iff] at hg
              simp
            · try simp only [beq_iff_eq, beq_true, beq_false, Bool.and_eq_true, decide_eq_true_eq, decide_eq_false_iff_not, Bool.not_eq_true', Bool.or_eq_true, Bool.or_eq_false_iff] at hg
              simp; omega
            · try simp only [beq_iff_eq, beq_true, beq_false, Bool.and_eq_true, decide_eq_true_eq, decide_eq_false_iff_not, Bool.not_eq_true', Bool.or_eq_true, Bool.or_eq_false_iff] at hg
              rw [last_snoc]; omega
            · try simp only [beq_iff_eq, beq_true, beq_false, Bool.and_eq_true, decide_eq_true_eq, decide_eq_false_iff_not, Bool.not_eq_true', Bool.or_eq_true, Bool.or_eq_false_iff] at hg
              exact or_lt hu (by omega)
            · try simp only [beq_iff_eq, beq_true, beq_false, Bool.and_eq_true, decide_eq_true_eq, decide_eq_false_iff_not, Bool.not_eq_true', Bool.or_eq_true, Bool.or_eq_false_iff] at hg
              exact hsn
            · kernel_rfl
            · exact gOk_one 14 5 _ [16, 19] rfl (by kernel_rfl) rfl (by kernel_rfl) (fun k hk => by simp only [List.mem_cons, List.not_mem_nil, or_false] at hk; first | (subst hk; rfl) | (rcases hk with hk | hk <;> subst hk <;> rfl))
            refine awp_cond rfl (fun h => ?_) (fun h => ?_)
            · skip
              exfalso
              simp at h
            · skip
              refine awp_skip ?_
              refine awp_region rfl (.n (fun _ => op_add (.plain rfl) (.plain rfl) ?_) (.n (fun _ => op_move (.plain rfl)) (.nil _))) ?_
              · unfold InR; omega
              exact ⟨i + 1, by omega, by dsimp only; omega, (Ent.kept ⟨rfl, rfl, rfl, rfl, rfl, rfl, rfl, rfl, rfl, rfl, rfl, rfl, rfl, rfl, rfl, rfl, rfl, rfl, rfl, rfl, trivial⟩ ⟨rfl, rfl, rfl, rfl, rfl, rfl, (congrArg (fun q => some (Blk.box [SV.int (A q)])) (he)), (congrArg (fun q => some (Blk.box [SV.pv (.ints (B q))])) (he)), (congrArg (fun q => some (Blk.mq (C q))) (he)), (congrArg (fun q => some (Blk.mq (E q))) (he)), trivial⟩)⟩
          · have hgo : dgo G q u ((F.getD (lastF l).toNat []).getD i 0) = true := dgo_yes (bit_ct hc1) (.inr hc3)
            have hsn := hs2.go (show i < (F.getD (lastF l).toNat []).length by omega) hgo
            have he : k0 + (emD G F q l).length + (goTo (dgo G q u) (fun x => linD G F Rd Rw q f (l ++ [x]) (u ||| 2 ^ x.toNat)) (F.getD (lastF l).toNat []) i).length + (linD G F Rd Rw q f (l ++ [((F.getD (lastF l).toNat []).getD i 0)]) (u ||| 2 ^ ((F.getD (lastF l).toNat []).getD i 0).toNat)).length = k0 + (emD G F q l).length + (goTo (dgo G q u) (fun x => linD G F Rd Rw q f (l ++ [x]) (u ||| 2 ^ x.toNat)) (F.getD (lastF l).toNat []) (i + 1)).length := by rw [← goTo_yes hgo, List.length_append]; omega
            refine awp_region_drawG mixed rfl (.n (fun _ => op_move (.plain rfl)) (.n (fun _ => op_move (.plain rfl)) (.n (fun _ => op_shr (.plain rfl) (.plain rfl) ?_) (.n (fun _ => op_bit (.plain rfl) ?_) (.n (fun _ => OpT.boolEq hc1 (op_eql (.plain rfl) (.plain rfl))) (.n (fun _ => op_move (.plain rfl)) (.kn rfl rfl (fun _ => op_move (.plain rfl)) (.kn rfl rfl (fun _ => OpT.boolEq hcr (op_move (.plain rfl))) (.kn rfl rfl (fun _ => op_move (.plain rfl)) (.kn rfl rfl (fun _ => op_load Try.isAgg3 (.plain rfl)) (.kn rfl rfl (fun _ => OpT.boolEq hc3 (op_gtr (.plain rfl) (.plain rfl))) (.kn rfl rfl (fun _ => op_or0 (.plain rfl) (.plain rfl) (.plain rfl)) (.n (fun _ => op_and0 (.plain rfl) (.plain rfl) (.plain rfl)) (.n (fun _ => op_move (.plain rfl)) (.klook rfl rfl 5 rfl (fun _ hl => op_loadR Try.isAgg47 (.plain rfl)  hl rfl) (.kn rfl rfl (fun _ => op_move (.plain rfl)) (.ke rfl rfl (op_callO (vals := [_]) 105 Try.call26 ⟨⟨_, (.plain rfl), rfl⟩, trivial⟩ (clone_fc _ ?_) (by simp [PV.flat]) rfl) rfl (.kn rfl rfl (fun _ => op_move (.plain rfl)) (.kn rfl rfl (fun _ => op_slit (pp := [(0, _)]) (α := Int) (d := 0) (f := (fun n => [.int .i64 n])) [_] ety35 rfl ⟨rfl, (.plain rfl), (by simp), trivial⟩ rfl (by decide) rfl) (.ke rfl rfl ((op_append (id' := 108) (α := Int) (d := 0) (f := (fun n => [.int .i64 n])) ety35 Try.underlying35 (fun _ => rfl) (fun _ => rfl) (.plain rfl) rfl (.plain rfl) rfl ?_).given rfl) rfl (.kn rfl rfl (fun _ => op_move (.plain rfl)) (.kn rfl rfl (fun _ => op_move (.plain rfl)) (.kn rfl rfl (fun _ => op_shl (.plain rfl) (.plain rfl) ?_) (.kn rfl rfl (fun _ => OpT.intEq (or_shl _ _) (op_bor (.plain rfl) (.plain rfl) ?_)) (.ke rfl rfl (op_callVH (ags := [_, _]) (fun k => [0, 0, 2, 0, 4, 5, 0, 7, 8, 0, 0, 0, 0, 0, 0, 0, 0, 0, 0, 0, 0, 0, 0, 0, 0, 0, 0, 0, 0, 0, 0, 0, 0, 0, 0, 0, 0, 0, 0, 0, 40, 41, 42, 0, 44, 0, 0, 0, 0, 0, 0, 0, 0, 0, 0, 0, 0, 0, 0, 0, 0, 0, 0, 0, 0, 0, 0, 0, 0, 0, 0, 0, 0, 0, 0, 0, 0, 0, 0, 0, 0, 0, 0, 0, 0, 0, 0, 0, 0, 0, 0, 0, 0, 0, 0, 0, 0, 0, 0, 0, 0, 0, 0, 0, 0, 0, 0, 0, 0, 0, 0, 0, 0, 0, 0, 0, 0, 0, 0, 0, 0, 0, 0, 0, 0, 0, 0, 0, 0, 0, 0, 0, 0, 0, 0, 0, 0, 0, 0, 0, 0, 0, 0, 0, 0, 0, 0, 0, 0, 0, 0, 0, 0, 0, 0, 0, 0, 0, 0, 0, 0, 0, 0, 0, 0, 0, 0, 0, 0, 0, 0, 0, 0, 0, 0, 0, 0, 0, 0, 0, 0, 0, 0, 0, 0, 0, 0, 0, 0, 0, 0, 0, 0, 0, 0, 0, 0, 0, 0, 0, 0, 0, 0, 0, 0, 0, 0, 0, 0, 0, 0, 0, 0, 0, 0, 0, 0, 0, 0, 0, 0, 0, 0, 0, 0, 0, 0, 0, 0, 0, 0, 0, 0, 0, 0, 0, 0, 0, 0, 0, 0, 0, 0, 0, 0, 0, 0, 0, 0, 0, 0, 0, 0, 0, 0, 0, 0, 0, 0, 0, 0, 0, 0, 0, 0, 0, 0, 0, 0, 0, 0, 0, 0, 0, 0, 0, 0, 0, 0, 0, 0, 0, 0, 0, 0, 0, 0, 0, 0, 0, 0, 0, 0, 0, 0, 0, 0, 0, 0, 0, 0, 0, 0, 0, 0, 0, 0, 0, 0, 0, 0, 0, 0, 0, 0, 0, 0, 0, 0, 0, 0, 0, 0, 0, 0, 0, 0, 0, 0, 0, 0, 0, 0, 0, 0, 0, 0, 0, 0, 0, 0, 0, 0, 0, 0, 0, 0, 0, 0, 0, 0, 0, 0, 0, 0, 0, 0, 0, 0, 0, 0, 0, 0, 0, 0, 0, 0, 0, 0, 0, 0, 0, 0, 0, 0, 0, 0, 0, 0, 0, 0, 0, 0, 0, 0, 0, 0, 0, 0, 0, 0, 0, 0, 0, 0, 0, 0, 0, 0, 0, 0, 0, 0, 0, 0, 0, 0, 0, 0, 0, 0, 0, 0, 0, 0, 0, 0, 0, 0, 0, 0, 0, 0, 0, 0, 0, 0, 0, 0, 0, 0, 0, 0, 0, 0, 0, 0, 0, 0, 0, 0, 0, 0, 0, 0, 0, 0, 0, 0, 0, 0, 0, 0, 0, 0, 0, 0, 0, 0, 0, 0, 0, 0, 0, 0, 0, 0, 0, 0, 0, 0, 0, 0, 0, 0, 0, 0, 0, 0, 0, 0, 0, 0, 0, 0, 0, 0, 0, 0, 0, 0, 0, 0, 0, 0, 0, 0, 0, 0, 0, 0, 0, 0, 0, 0, 0, 0, 0, 0, 0, 0, 0, 0, 0, 0, 0, 0, 0, 0, 0, 0, 0, 0, 0, 0, 0, 0, 0, 0, 0, 0, 0, 0, 0, 0, 0, 0, 0, 0, 0, 0, 0, 0, 0, 0, 0, 0, 0, 0, 0, 0, 0, 0, 0, 0, 0, 0, 0, 0, 0, 0, 0, 0, 0, 0, 0, 0, 0, 0, 0, 0, 0, 0, 0, 0, 0, 0, 0, 0, 0, 0, 0, 0, 0, 0, 0, 0, 0, 0, 0, 0, 0, 0, 0, 0, 0, 0, 0, 0, 0, 0, 0, 0, 0, 0, 0, 0, 0, 0, 0, 0, 0, 0, 0, 0, 0, 0, 0, 0, 0, 0, 0, 0, 0, 0, 0, 0, 0, 0, 0, 0, 0, 0, 0, 0, 0, 0, 0, 0, 0, 0, 0, 0, 0, 0, 0, 0, 0, 0, 0, 0, 0, 0, 0, 0, 0, 0, 0, 0, 0, 0, 0, 0, 0, 0, 0, 0, 0, 0, 0, 0, 0, 0, 0, 0, 0, 0, 0, 0, 0, 0, 0, 0, 0, 0, 0, 0, 0, 0, 0, 0, 0, 0, 0, 0, 0, 0, 0, 0, 0, 0, 0, 0, 0, 0, 0, 0, 0, 0, 0, 0, 0, 0, 0, 0, 0, 0, 0, 0, 0, 0, 0, 0, 0, 0, 0, 0, 0, 0, 0, 0, 0, 0, 0, 0, 0, 0, 0, 0, 0, 0, 0, 0, 0, 0, 0, 0, 0, 0, 0, 0, 0, 0, 0, 0, 0, 0, 0, 0, 0, 0, 0, 0, 0, 0, 0, 0, 0, 0, 0, 0, 0, 0, 0, 0, 0, 0, 0, 0, 0, 0, 0, 0, 0, 0, 0, 0, 0, 0, 0, 0, 0, 0, 0, 0, 0, 0, 0, 0, 0, 0, 0, 0, 0, 0, 0, 0, 0, 0, 0, 0, 0, 0, 0, 0, 0, 0, 0, 0, 0, 0, 0, 0, 0, 0, 0, 0, 0, 0, 0, 0, 0, 0, 0, 0, 0, 0, 0, 0, 0, 0, 0, 0, 0, 0, 0, 0, 0, 0, 0, 0, 0, 0, 0, 0, 0, 0, 0, 0, 0, 0, 0, 0, 0, 0, 0, 0, 0, 0, 0, 0, 0, 0, 0, 0, 0, 0, 0, 0, 0, 0, 0, 0, 0, 0, 0, 0, 0, 0, 0, 0, 0, 0, 0, 0, 0, 0, 0, 0, 0, 900].getD k 0) Try.call25 (ih f (by omega) (l ++ [((F.getD (lastF l).toNat []).getD i 0)]) (u ||| 2 ^ ((F.getD (lastF l).toNat []).getD i 0).toNat) (k0 + (emD G F q l).length + (goTo (dgo G q u) (fun x => linD G F Rd Rw q f (l ++ [x]) (u ||| 2 ^ x.toNat)) (F.getD (lastF l).toNat []) i).length) ?_ ?_ ?_ ?_ ?_ rfl) (.plain rfl) ⟨(.plain rfl), (.plain rfl), trivial⟩ ⟨rfl, rfl, rfl, rfl, rfl, rfl, rfl, rfl, rfl, rfl, trivial⟩ (by kernel_rfl)) rfl (.kn rfl rfl (fun _ => op_not (.plain rfl)) (.n (fun _ => op_and0 (.plain rfl) (.plain rfl) (.plain rfl)) (.nil _)))))))))))))))))))))))))))) ?d18 ?dg18 ?_
            · omega
            · exact Int.ediv_nonneg (by omega) (by rw [← Int.one_mul (2 ^ _), shl_one]; exact Int.natCast_nonneg _)
            · try simp only [beq_iff_eq, beq_true, beq_false, Bool.and_eq_true, decide_eq_true_eq, decide_eq_false_iff_not, Bool.not_eq_true', Bool.or_eq_true, Bool.or_eq_false_iff] at hg
              first | omega | (simp; omega)
            · try simp only [beq_iff_eq, beq_true, beq_false, Bool.and_eq_true, decide_eq_true_eq, decide_eq_false_iff_not, Bool.not_eq_true', Bool.or_eq_true, Bool.or_eq_false_iff] at hg
              first | omega | (simp; omega)
            · try simp only [beq_iff_eq, beq_true, beq_false, Bool.and_eq_true, decide_eq_true_eq, decide_eq_false_iff_not, Bool.not_eq_true', Bool.or_eq_true, Bool.or_eq_false_iff] at hg
              exact ⟨by omega, by omega, shl_in (by omega)⟩
            · try simp only [beq_iff_eq, beq_true, beq_false, Bool.and_eq_true, decide_eq_true_eq, decide_eq_false_iff_not, Bool.not_eq_true', Bool.or_eq_true, Bool.or_eq_false_iff] at hg
              exact ⟨by omega, by rw [shl_one]; exact Int.natCast_nonneg _⟩
            · try simp only [beq_iff_eq, beq_true, beq_false, Bool.and_eq_true, decide_eq_true_eq, decide_eq_false_iff_not, Bool.not_eq_true', Bool.or_eq_true, Bool.or_eq_false_iff] at hg
              simp
            · try simp only [beq_iff_eq, beq_true, beq_false, Bool.and_eq_true, decide_eq_true_eq, decide_eq_false_iff_not, Bool.not_eq_true', Bool.or_eq_true, Bool.or_eq_false_iff] at hg
              simp; omega
            · try simp only [beq_iff_eq, beq_true, beq_false, Bool.and_eq_true, decide_eq_true_eq, decide_eq_false_iff_not, Bool.not_eq_true', Bool.or_eq_true, Bool.or_eq_false_iff] at hg
              rw [last_snoc]; omega
            · try simp only [beq_iff_eq, beq_true, beq_false, Bool.and_eq_true, decide_eq_true_eq, decide_eq_false_iff_not, Bool.not_eq_true', Bool.or_eq_true, Bool.or_eq_false_iff] at hg
              exact or_lt hu (by omega)
            · try simp only [beq_iff_eq, beq_true, beq_false, Bool.and_eq_true, decide_eq_true_eq, decide_eq_false_iff_not, Bool.not_eq_true', Bool.or_eq_true, Bool.or_eq_false_iff] at hg
              exact hsn
            · kernel_rfl
            · exact gOk_one 14 5 _ [16, 19] rfl (by kernel_rfl) rfl (by kernel_rfl) (fun k hk => by simp only [List.mem_cons, List.not_mem_nil, or_false] at hk; first | (subst hk; rfl) | (rcases hk with hk | hk <;> subst hk <;> rfl))
            refine awp_cond rfl (fun h => ?_) (fun h => ?_)
            · skip
              exfalso
              simp at h
            · skip
              refine awp_skip ?_
              refine awp_region rfl (.n (fun _ => op_add (.plain rfl) (.plain rfl) ?_) (.n (fun _ => op_move (.plain rfl)) (.nil _))) ?_
              · unfold InR; omega
              exact ⟨i + 1, by omega, by dsimp only; omega, (Ent.kept ⟨rfl, rfl, rfl, rfl, rfl, rfl, rfl, rfl, rfl, rfl, rfl, rfl, rfl, rfl, rfl, rfl, rfl, rfl, rfl, rfl, trivial⟩ ⟨rfl, rfl, rfl, rfl, rfl, rfl, (congrArg (fun q => some (Blk.box [SV.int (A q)])) (he)), (congrArg (fun q => some (Blk.box [SV.pv (.ints (B q))])) (he)), (congrArg (fun q => some (Blk.mq (C q))) (he)), (congrArg (fun q => some (Blk.mq (E q))) (he)), trivial⟩)⟩
          · have hng : ¬ dgo G q u ((F.getD (lastF l).toNat []).getD i 0) = true := dgo_no2 hcr hc3
            have he : k0 + (emD G F q l).length + (goTo (dgo G q u) (fun x => linD G F Rd Rw q f (l ++ [x]) (u ||| 2 ^ x.toNat)) (F.getD (lastF l).toNat []) i).length = k0 + (emD G F q l).length + (goTo (dgo G q u) (fun x => linD G F Rd Rw q f (l ++ [x]) (u ||| 2 ^ x.toNat)) (F.getD (lastF l).toNat []) (i + 1)).length := by rw [goTo_no hng]
            refine awp_region_draw mixed rfl (.n (fun _ => op_move (.plain rfl)) (.n (fun _ => op_move (.plain rfl)) (.n (fun _ => op_shr (.plain rfl) (.plain rfl) ?_) (.n (fun _ => op_bit (.plain rfl) ?_) (.n (fun _ => OpT.boolEq hc1 (op_eql (.plain rfl) (.plain rfl))) (.n (fun _ => op_move (.plain rfl)) (.kn rfl rfl (fun _ => op_move (.plain rfl)) (.kn rfl rfl (fun _ => OpT.boolEq hcr (op_move (.plain rfl))) (.kn rfl rfl (fun _ => op_move (.plain rfl)) (.kn rfl rfl (fun _ => op_load Try.isAgg3 (.plain rfl)) (.kn rfl rfl (fun _ => OpT.boolEq hc3 (op_gtr (.plain rfl) (.plain rfl))) (.kn rfl rfl (fun _ => op_or0 (.plain rfl) (.plain rfl) (.plain rfl)) (.n (fun _ => op_and0 (.plain rfl) (.plain rfl) (.plain rfl)) (.n (fun _ => op_move (.plain rfl)) (.no rfl rfl rfl (.no rfl rfl rfl (.no rfl rfl rfl (.no rfl rfl rfl (.no rfl rfl rfl (.no rfl rfl rfl (.no rfl rfl rfl (.no rfl rfl rfl (.no rfl rfl rfl (.no rfl rfl rfl (.no rfl rfl rfl (.no rfl rfl rfl (.n (fun _ => op_and (.plain rfl) (.plain rfl) (.plain rfl) (fun h => absurd h (by decide))) (.nil _)))))))))))))))))))))))))))) ?d19 ?_
            · omega
            · exact Int.ediv_nonneg (by omega) (by rw [← Int.one_mul (2 ^ _), shl_one]; exact Int.natCast_nonneg _)
            · kernel_rfl
            refine awp_cond rfl (fun h => ?_) (fun h => ?_)
            · skip
              exfalso
              simp at h
            · skip
              refine awp_skip ?_
              refine awp_region rfl (.n (fun _ => op_add (.plain rfl) (.plain rfl) ?_) (.n (fun _ => op_move (.plain rfl)) (.nil _))) ?_
              · unfold InR; omega
              exact ⟨i + 1, by omega, by dsimp only; omega, (Ent.kept ⟨rfl, rfl, rfl, rfl, rfl, rfl, rfl, rfl, rfl, rfl, rfl, rfl, rfl, rfl, rfl, rfl, rfl, rfl, rfl, rfl, trivial⟩ ⟨rfl, rfl, rfl, rfl, rfl, rfl, (congrArg (fun q => some (Blk.box [SV.int (A q)])) (he)), (congrArg (fun q => some (Blk.box [SV.pv (.ints (B q))])) (he)), (congrArg (fun q => some (Blk.mq (C q))) (he)), (congrArg (fun q => some (Blk.mq (E q))) (he)), trivial⟩)⟩
        · skip
          have h := of_decide_eq_false h
          refine awp_exit ?_
          refine awp_seq ?_
          refine awp_region rfl (.n (fun _ => op_assign (.plain rfl)) (.nil _)) ?_
          refine awp_ret ?_
          refine retH.ret ?_
          refine retH1 rfl rfl ⟨rfl, rfl, rfl, rfl, rfl, rfl, (congrArg (fun q => some (Blk.box [SV.int (A q)])) (by rw [linD_go hst, List.length_append, show i = (F.getD (lastF l).toNat []).length by omega]; omega)), (congrArg (fun q => some (Blk.box [SV.pv (.ints (B q))])) (by rw [linD_go hst, List.length_append, show i = (F.getD (lastF l).toNat []).length by omega]; omega)), (congrArg (fun q => some (Blk.mq (C q))) (by rw [linD_go hst, List.length_append, show i = (F.getD (lastF l).toNat []).length by omega]; omega)), (congrArg (fun q => some (Blk.mq (E q))) (by rw [linD_go hst, List.length_append, show i = (F.getD (lastF l).toNat []).length by omega]; omega)), trivial⟩ ⟨.inr rfl, .inr rfl, .inr rfl, .inr rfl, .inr rfl, .inr rfl, .inr rfl, .inr rfl, .inr rfl, .inr rfl, trivial⟩ ?_
          rfl
  · have hEM : ¬ emDP G F q l := fun c => by
      rcases c.2 with c | c
      · exact of_decide_eq_false hcr c
      · have := of_decide_eq_false hcb; rw [show ((l.length : Int) - 1).toNat = l.length - 1 by omega] at this; exact this c
    have hem : emD G F q l = [] := if_neg hEM
    have hkk : k0 = k0 + (emD G F q l).length := by rw [hem]; rfl
    refine awp_region_draw mixed rfl (.n (fun _ => op_move (.plain rfl)) (.n (fun _ => op_len (s := 0) Try.underlying35 (.plain rfl)) (.n (fun _ => OpT.boolEq hc1 (op_gtr (.plain rfl) (.plain rfl))) (.n (fun _ => op_move (.plain rfl)) (.kn rfl rfl (fun _ => op_move (.plain rfl)) (.kn rfl rfl (fun _ => OpT.boolEq hcr (op_move (.plain rfl))) (.kr rfl rfl (op_loadR Try.isAgg41 (.plain rfl) rfl rfl) (.kn rfl rfl (fun _ => op_nilCheckR (.plain rfl)) (.kn rfl rfl (fun _ => op_fieldAddrR Try.underlying44 rfl rfl Try.sizeOf24 (.plain rfl)) (.kr rfl rfl (op_loadRA Try.isAgg24 Try.sizeOf24 (.plain rfl) rfl (by first | (simp; done) | exact Nat.le_of_ble_eq_true rfl) rfl) (.kn rfl rfl (fun _ => op_move (.plain rfl)) (.kn rfl rfl (fun _ => op_move (.plain rfl)) (.kn rfl rfl (fun _ => op_len (s := 0) Try.underlying35 (.plain rfl)) (.kn rfl rfl (fun _ => op_sub (.plain rfl) (.plain rfl) ?_) (.kn rfl rfl (fun _ => op_indexAddr Try.underlying35 Try.sizeOf3 (.plain rfl) (.plain rfl) (fun _ => rfl) ?_) (.kn rfl rfl (fun _ => op_load Try.isAgg3 (.plain rfl)) (.kn rfl rfl (fun _ => op_load Try.isAgg3 (.plain rfl)) (.kn rfl rfl (fun _ => op_call3 Try.call15 (.plain rfl) (.plain rfl) (.plain rfl) (gives_lit hcb ?_)) (.kn rfl rfl (fun _ => op_or0 (.plain rfl) (.plain rfl) (.plain rfl)) (.n (fun _ => op_and0 (.plain rfl) (.plain rfl) (.plain rfl)) (.n (fun _ => op_move (.plain rfl)) (.no rfl rfl rfl (.no rfl rfl rfl (.no rfl rfl rfl (.no rfl rfl rfl (.no rfl rfl rfl (.n (fun _ => op_and (.plain rfl) (.plain rfl) (.plain rfl) (fun h => absurd h (by decide))) (.nil _)))))))))))))))))))))))))))) ?d20 ?_
    · try simp only [beq_iff_eq, beq_true, beq_false, Bool.and_eq_true, decide_eq_true_eq, decide_eq_false_iff_not, Bool.not_eq_true', Bool.or_eq_true, Bool.or_eq_false_iff] at hg
      unfold InR; omega
    · try simp only [beq_iff_eq, beq_true, beq_false, Bool.and_eq_true, decide_eq_true_eq, decide_eq_false_iff_not, Bool.not_eq_true', Bool.or_eq_true, Bool.or_eq_false_iff] at hg
      omega
    · try simp only [beq_iff_eq, beq_true, beq_false, Bool.and_eq_true, decide_eq_true_eq, decide_eq_false_iff_not, Bool.not_eq_true', Bool.or_eq_true, Bool.or_eq_false_iff] at hg
      rw [show ((l.length : Int) - 1).toNat = l.length - 1 by omega]; exact hla
    · kernel_rfl
    refine awp_cond rfl (fun h => ?_) (fun h => ?_)
    · skip
      exfalso
      simp at h
    · skip
      refine awp_skip ?_
      refine awp_seq ?_
      refine awp_seq ?_
      refine awp_region rfl (.n (fun _ => op_move (.plain rfl)) (.n (fun _ => op_move (.plain rfl)) (.gn rfl rfl (fun hg _ => op_move (.plain rfl)) (.gn rfl rfl (fun hg _ => op_len (s := 0) Try.underlying35 (.opt rfl fun h => h)) (.gr rfl rfl (fun hg => op_loadR Try.isAgg41 (.plain rfl) rfl rfl) (.gn rfl rfl (fun hg _ => op_nilCheckR (.opt rfl fun h => h)) (.gn rfl rfl (fun hg _ => op_fieldAddrR Try.underlying44 rfl rfl Try.sizeOf24 (.opt rfl fun h => h)) (.gn rfl rfl (fun hg _ => op_fieldAddrR Try.underlying24 rfl rfl Try.sizeOf3 (.opt rfl fun h => h)) (.gr rfl rfl (fun hg => op_loadR Try.isAgg3 (.opt rfl fun h => h) rfl rfl) (.gn rfl rfl (fun hg _ => op_gtr (.opt rfl fun h => h) (.opt rfl fun h => h)) (.n (fun _ => op_and (.plain rfl) (.plain rfl) (.plain rfl) (fun h => eqT h)) (.n (fun _ => op_move (.plain rfl)) (.gn rfl rfl (fun hg _ => op_move (.plain rfl)) (.gn rfl rfl (fun hg _ => op_not (.opt rfl fun h => h)) (.gn rfl rfl (fun hg _ => op_move (.opt rfl fun h => h)) (.ggn rfl rfl (fun hg _ => op_move (.plain rfl)) (.ggn rfl rfl (fun hg _ => op_len (s := 0) Try.underlying35 (.opt rfl fun h => h)) (.ggr rfl rfl (fun hg => op_loadR Try.isAgg41 (.plain rfl) rfl rfl) (.ggn rfl rfl (fun hg _ => op_nilCheckR (.opt rfl fun h => h)) (.ggn rfl rfl (fun hg _ => op_fieldAddrR Try.underlying44 rfl rfl Try.sizeOf24 (.opt rfl fun h => h)) (.ggn rfl rfl (fun hg _ => op_fieldAddrR Try.underlying24 rfl rfl Try.sizeOf3 (.opt rfl fun h => h)) (.ggr rfl rfl (fun hg => op_loadR Try.isAgg3 (.opt rfl fun h => h) rfl rfl) (.ggn rfl rfl (fun hg _ => op_geq (.opt rfl fun h => h) (.opt rfl fun h => h)) (.gn rfl rfl (fun hg _ => op_and (.opt rfl fun h => h) (.plain rfl) (.plain rfl) (fun h => andI hg (eqT h))) (.n (fun _ => op_or (.plain rfl) (.plain rfl) (.plain rfl) (fun h => eqF h)) (.nil _)))))))))))))))))))))))))) ?_
      refine awp_cond rfl (fun h => ?_) (fun h => ?_)
      · skip
        simp only [decide_eq_true_eq, decide_eq_false_iff_not, Bool.and_eq_true, Bool.or_eq_true, Bool.and_eq_false_iff, Bool.or_eq_false_iff, Bool.not_eq_true', Bool.not_eq_false', Bool.not_eq_true, Bool.not_eq_false] at h
        have hst : stopD G Rd Rw q l := h
        refine awp_seq ?_
        refine awp_region rfl (.n (fun _ => op_assign (.plain rfl)) (.nil _)) ?_
        refine awp_ret ?_
        refine retH.ret ?_
        refine retH1 rfl rfl ⟨rfl, rfl, rfl, rfl, rfl, rfl, (congrArg (fun q => some (Blk.box [SV.int (A q)])) (by rw [linD_stop hst]; exact hkk)), (congrArg (fun q => some (Blk.box [SV.pv (.ints (B q))])) (by rw [linD_stop hst]; exact hkk)), (congrArg (fun q => some (Blk.mq (C q))) (by rw [linD_stop hst]; exact hkk)), (congrArg (fun q => some (Blk.mq (E q))) (by rw [linD_stop hst]; exact hkk)), trivial⟩ ⟨.inr rfl, .inr rfl, .inr rfl, .inr rfl, .inr rfl, .inr rfl, .inr rfl, .inr rfl, .inr rfl, .inr rfl, trivial⟩ ?_
        rfl
      · skip
        simp only [decide_eq_true_eq, decide_eq_false_iff_not, Bool.and_eq_true, Bool.or_eq_true, Bool.and_eq_false_iff, Bool.or_eq_false_iff, Bool.not_eq_true', Bool.not_eq_false', Bool.not_eq_true, Bool.not_eq_false] at h
        have hst : ¬ stopD G Rd Rw q l := by unfold stopD; omega
        obtain ⟨f, rfl⟩ : ∃ q, f = q + 1 := ⟨f - 1, by unfold stopD at hst; omega⟩
        have hs2 := hs
        rw [linD_go hst] at hs2
        have hs2 := hs2.right
        have hlt8 : (lastF l).toNat < F.length := by omega
        have hln := hS.len _ hlt8
        refine awp_skip ?_
        refine awp_seq ?_
        refine awp_seq ?_
        refine awp_region_draw mixed rfl (.r (op_loadR Try.isAgg41 (.plain rfl) rfl rfl) (.n (fun _ => op_nilCheckR (.plain rfl)) (.n (fun _ => op_fieldAddrR Try.underlying44 rfl rfl Try.sizeOf24 (.plain rfl)) (.n (fun _ => op_fieldAddrR Try.underlying24 rfl rfl Try.sizeOf22 (.plain rfl)) (.r (op_loadR Try.isAgg22 (.plain rfl) rfl rfl) (.n (fun _ => op_move (.plain rfl)) (.n (fun _ => op_move (.plain rfl)) (.n (fun _ => op_len (s := 0) Try.underlying35 (.plain rfl)) (.n (fun _ => op_sub (.plain rfl) (.plain rfl) ?_) (.n (fun _ => op_indexAddr Try.underlying35 Try.sizeOf3 (.plain rfl) (.plain rfl) (fun _ => rfl) ?_) (.n (fun _ => op_load Try.isAgg3 (.plain rfl)) (.n (fun _ => op_indexAddr Try.underlying22 Try.sizeOf35 (.plain rfl) (.plain rfl) (fun _ => rfl) ?_) (.n (fun _ => op_load Try.isAgg35 (.plain rfl)) (.n (fun _ => op_len (s := 0) Try.underlying35 (.plain rfl)) (.n (fun _ => op_move (.plain rfl)) (.nil _)))))))))))))))) ?d21 ?_
        · unfold InR; omega
        · omega
        · rw [show ((l.length : Int) - 1).toNat = l.length - 1 by omega]; exact hla
        · kernel_rfl
        refine awp_block ?_
        refine awp_loop (σ := Nat) (fun (i : Nat) => i ≤ (F.getD (lastF l).toNat []).length) (fun (i : Nat) => ⟨[(0, .pv (.ints l)), (1, .int (u : Nat)), (2, .pv (.rd [.i (q : Nat)])), (3, .ref 44 0), (4, .ref 4 0), (5, .ref 5 0), (9, .bool (decide (((q : Nat) : Int) < G))), (83, .pv (.ints (F.getD (lastF l).toNat []))), (84, .int ((F.getD (lastF l).toNat []).length : Nat)), (85, .int (i : Nat)), (1000900, .pin 900 (ι0 900)), (1000004, .pin 4 (ι0 4)), (1000005, .pin 5 (ι0 5)), (1000044, .pin 44 (ι0 44)), (1000002, .pin 2 (ι0 2)), (1000040, .pin 40 (ι0 40)), (1000007, .pin 7 (ι0 7)), (1000008, .pin 8 (ι0 8)), (1000041, .pin 41 (ι0 41)), (1000042, .pin 42 (ι0 42))], [(900, .yld ps asg bd [.pv .any, .pv .any, .ref 2 0, .pv (.rd [.i (u0 : Nat)]), .pv .any, .pv .any, .pv .any, .ref 7 0, .ref 8 0, .pv (.rd [.i (q : Nat)]), .pv .any, .pv .any, .pv .any, .pv .any, .pv .any, .pv .any, .pv .any, .pv .any, .pv .any, .pv .any, .pv .any, .pv .any, .pv .any, .pv .any, .pv .any, .pv .any, .pv .any, .pv .any, .pv .any, .pv .any, .pv .any, .pv .any, .int (F.length : Nat), .int (q : Nat), .pv .any, .pv .any, .pv .any, .pv .any, .pv .any, .pv .any, .pv .any, .pv .any, .pv .any, .pv .any, .clo (.func 24) [.pv (.rd [.i (q : Nat)]), .ref 44 0, .pv (.rd [.i (u0 : Nat)])], .pv .any, .pv .any, .pv .any, .pv .any, .pv .any, .pv .any, .pv .any, .pv .any, .pv .any, .pv .any, .pv .any, .pv .any, .pv .any, .pv .any, .pv .any, .pv .any, .pv .any, .pv .any, .pv .any, .pv .any, .pv .any, .pv .any, .pv .any, .pv .any, .pv .any, .pv .any, .pv .any, .pv .any, .pv .any, .pv .any, .pv .any, .pv .any, .pv .any, .pv .any, .pv .any, .pv .any, .pv .any, .pv .any, .pv .any, .pv .any, .pv .any, .pv .any, .pv .any, .pv .any, .pv .any, .pv .any, .pv .any, .pv .any, .pv .any, .pv .any, .pv .any, .pv .any, .pv .any, .pv .any, .pv .any, .pv .any]), (4, .box [.own 900]), (5, .box [.clo (.func 25) [.pv (.rd [.i (q : Nat)]), .ref 44 0, .ref 4 0, .ref 5 0]]), (44, .box [.ref 40 0]), (2, .box [.ref 40 0]), (40, .box [.pv (.i G), .pv (.rows F), .pv (.i Rd), .pv (.i Rw), .own 41, .own 42]), (7, .box [.int (A (k0 + (emD G F q l).length + (goTo (dgo G q u) (fun x => linD G F Rd Rw q f (l ++ [x]) (u ||| 2 ^ x.toNat)) (F.getD (lastF l).toNat []) i).length))]), (8, .box [.pv (.ints (B (k0 + (emD G F q l).length + (goTo (dgo G q u) (fun x => linD G F Rd Rw q f (l ++ [x]) (u ||| 2 ^ x.toNat)) (F.getD (lastF l).toNat []) i).length)))]), (41, .mq (C (k0 + (emD G F q l).length + (goTo (dgo G q u) (fun x => linD G F Rd Rw q f (l ++ [x]) (u ||| 2 ^ x.toNat)) (F.getD (lastF l).toNat []) i).length))), (42, .mq (E (k0 + (emD G F q l).length + (goTo (dgo G q u) (fun x => linD G F Rd Rw q f (l ++ [x]) (u ||| 2 ^ x.toNat)) (F.getD (lastF l).toNat []) i).length)))]⟩) (fun (i : Nat) => (F.getD (lastF l).toNat []).length - i) 0 ?_ (Ent.kept ⟨rfl, rfl, rfl, rfl, rfl, rfl, rfl, (congrArg (fun j => some (SV.pv (.ints (F.getD (l.getD j 0).toNat [])))) (show ((l.length : Int) - 1).toNat = l.length - 1 by omega)), (congrArg (fun j => some (SV.int ((F.getD (l.getD j 0).toNat []).length : Nat))) (show ((l.length : Int) - 1).toNat = l.length - 1 by omega)), rfl, rfl, rfl, rfl, rfl, rfl, rfl, rfl, rfl, rfl, rfl, trivial⟩ ⟨rfl, rfl, rfl, rfl, rfl, rfl, (congrArg (fun q => some (Blk.box [SV.int (A q)])) (hkk)), (congrArg (fun q => some (Blk.box [SV.pv (.ints (B q))])) (hkk)), (congrArg (fun q => some (Blk.mq (C q))) (hkk)), (congrArg (fun q => some (Blk.mq (E q))) (hkk)), trivial⟩) ?_
        · exact Nat.zero_le _
        rintro i hp
        try dsimp only at hp
        have hi := hp
        refine awp_seq ?_
        refine awp_region rfl (.n (fun _ => op_lss (.plain rfl) (.plain rfl)) (.nil _)) ?_
        refine awp_seq ?_
        refine awp_cond rfl (fun h => ?_) (fun h => ?_)
        · skip
          have h := of_decide_eq_true h
          have hfx := hS.fit (lastF l).toNat (by omega) i (by omega)
          refine awp_skip ?_
          refine awp_seq ?_
          refine awp_block ?_
          refine awp_seq ?_
          refine awp_region rfl (.n (fun _ => op_indexAddrN Try.underlying35 Try.sizeOf3 (.plain rfl) (.plain rfl) (fun _ => rfl) ?_) (.n (fun _ => op_load Try.isAgg3 (.plain rfl)) (.n (fun _ => op_assign (.plain rfl)) (.nil _)))) ?_
          · omega
          refine awp_seq ?_
          rcases split4 (decide ((u : Int) / 2 ^ ((F.getD (lastF l).toNat []).getD i 0).toNat % 2 = 0)) (decide (((q : Nat) : Int) < G)) (decide (((q : Nat) : Int) < ((F.getD (lastF l).toNat []).getD i 0))) with hc1 | ⟨hc1, hcr⟩ | ⟨hc1, hcr, hc3⟩ | ⟨hc1, hcr, hc3⟩
          · have hng : ¬ dgo G q u ((F.getD (lastF l).toNat []).getD i 0) = true := dgo_no (bit_cf hc1)
            have he : k0 + (emD G F q l).length + (goTo (dgo G q u) (fun x => linD G F Rd Rw q f (l ++ [x]) (u ||| 2 ^ x.toNat)) (F.getD (lastF l).toNat []) i).length = k0 + (emD G F q l).length + (goTo (dgo G q u) (fun x => linD G F Rd Rw q f (l ++ [x]) (u ||| 2 ^ x.toNat)) (F.getD (lastF l).toNat []) (i + 1)).length := by rw [goTo_no hng]
            refine awp_region_draw mixed rfl (.n (fun _ => op_move (.plain rfl)) (.n (fun _ => op_move (.plain rfl)) (.n (fun _ => op_shr (.plain rfl) (.plain rfl) ?_) (.n (fun _ => op_bit (.plain rfl) ?_) (.n (fun _ => OpT.boolEq hc1 (op_eql (.plain rfl) (.plain rfl))) (.n (fun _ => op_move (.plain rfl)) (.no rfl rfl rfl (.no rfl rfl rfl (.noo rfl rfl (.noo rfl rfl (.noo rfl rfl (.no rfl rfl rfl (.n (fun _ => op_and (.plain rfl) (.plain rfl) (.plain rfl) (fun h => absurd h (by decide))) (.n (fun _ => op_move (.plain rfl)) (.no rfl rfl rfl (.no rfl rfl rfl (.no rfl rfl rfl (.no rfl rfl rfl (.no rfl rfl rfl (.no rfl rfl rfl (.no rfl rfl rfl (.no rfl rfl rfl (.no rfl rfl rfl (.no rfl rfl rfl (.no rfl rfl rfl (.no rfl rfl rfl (.n (fun _ => op_and (.plain rfl) (.plain rfl) (.plain rfl) (fun h => absurd h (by decide))) (.nil _)))))))))))))))))))))))))))) ?d22 ?_
            · omega
            · exact Int.ediv_nonneg (by omega) (by rw [← Int.one_mul (2 ^ _), shl_one]; exact Int.natCast_nonneg _)
            · kernel_rfl
            refine awp_cond rfl (fun h => ?_) (fun h => ?_)
            · skip
              exfalso
              simp at h
            · skip
              refine awp_skip ?_
              refine awp_region rfl (.n (fun _ => op_add (.plain rfl) (.plain rfl) ?_) (.n (fun _ => op_move (.plain rfl)) (.nil _))) ?_
              · unfold InR; omega
              exact ⟨i + 1, by omega, by dsimp only; omega, (Ent.kept ⟨rfl, rfl, rfl, rfl, rfl, rfl, rfl, rfl, rfl, rfl, rfl, rfl, rfl, rfl, rfl, rfl, rfl, rfl, rfl, rfl, trivial⟩ ⟨rfl, rfl, rfl, rfl, rfl, rfl, (congrArg (fun q => some (Blk.box [SV.int (A q)])) (he)), (congrArg (fun q => some (Blk.box [SV.pv (.ints (B q))])) (he)), (congrArg (fun q => some (Blk.mq (C q))) (he)), (congrArg (fun q => some (Blk.mq (E q))) (he)), trivial⟩)⟩
          · have hgo : dgo G q u ((F.getD (lastF l).toNat []).getD i 0) = true := dgo_yes (bit_ct hc1) (.inl hcr)
            have hsn := hs2.go (show i < (F.getD (lastF l).toNat []).length by omega) hgo
            have he : k0 + (emD G F q l).length + (goTo (dgo G q u) (fun x => linD G F Rd Rw q f (l ++ [x]) (u ||| 2 ^ x.toNat)) (F.getD (lastF l).toNat []) i).length + (linD G F Rd Rw q f (l ++ [((F.getD (lastF l).toNat []).getD i 0)]) (u ||| 2 ^ ((F.getD (lastF l).toNat []).getD i 0).toNat)).length = k0 + (emD G F q l).length + (goTo (dgo G q u) (fun x => linD G F Rd Rw q f (l ++ [x]) (u ||| 2 ^ x.toNat)) (F.getD (lastF l).toNat []) (i + 1)).length := by rw [← goTo_yes hgo, List.length_append]; omega
            refine awp_region_drawG mixed rfl (.n (fun _ => op_move (.plain rfl)) (.n (fun _ => op_move (.plain rfl)) (.n (fun _ => op_shr (.plain rfl) (.plain rfl) ?_) (.n (fun _ => op_bit (.plain rfl) ?_) (.n (fun _ => OpT.boolEq hc1 (op_eql (.plain rfl) (.plain rfl))) (.n (fun _ => op_move (.plain rfl)) (.kn rfl rfl (fun _ => op_move (.plain rfl)) (.kn rfl rfl (fun _ => OpT.boolEq hcr (op_move (.plain rfl))) (.no rfl rfl rfl (.no rfl rfl rfl (.no rfl rfl rfl (.kn rfl rfl (fun _ => op_or (.plain rfl) (.plain rfl) (.plain rfl) (fun h => absurd h (by decide))) (.n (fun _ => op_and0 (.plain rfl) (.plain rfl) (.plain rfl)) (.n (fun _ => op_move (.plain rfl)) (.klook rfl rfl 5 rfl (fun _ hl => op_loadR Try.isAgg47 (.plain rfl)  hl rfl) (.kn rfl rfl (fun _ => op_move (.plain rfl)) (.ke rfl rfl (op_callO (vals := [_]) 105 Try.call26 ⟨⟨_, (.plain rfl), rfl⟩, trivial⟩ (clone_fc _ ?_) (by simp [PV.flat]) rfl) rfl (.kn rfl rfl (fun _ => op_move (.plain rfl)) (.kn rfl rfl (fun _ => op_slit (pp := [(0, _)]) (α := Int) (d := 0) (f := (fun n => [.int .i64 n])) [_] ety35 rfl ⟨rfl, (.plain rfl), (by simp), trivial⟩ rfl (by decide) rfl) (.ke rfl rfl ((op_append (id' := 108) (α := Int) (d := 0) (f := (fun n => [.int .i64 n])) ety35 Try.underlying35 (fun _ => rfl) (fun _ => rfl) (.plain rfl) rfl (.plain rfl) rfl ?_).given rfl) rfl (.kn rfl rfl (fun _ => op_move (.plain rfl)) (.kn rfl rfl (fun _ => op_move (.plain rfl)) (.kn rfl rfl (fun _ => op_shl (.plain rfl) (.plain rfl) ?_) (.kn rfl rfl (fun _ => OpT.intEq (or_shl _ _) (op_bor (.plain rfl) (.plain rfl) ?_)) (.ke rfl rfl (op_callVH (ags := [_, _]) (fun k => [0, 0, 2, 0, 4, 5, 0, 7, 8, 0, 0, 0, 0, 0, 0, 0, 0, 0, 0, 0, 0, 0, 0, 0, 0, 0, 0, 0, 0, 0, 0, 0, 0, 0, 0, 0, 0, 0, 0, 0, 40, 41, 42, 0, 44, 0, 0, 0, 0, 0, 0, 0, 0, 0, 0, 0, 0, 0, 0, 0, 0, 0, 0, 0, 0, 0, 0, 0, 0, 0, 0, 0, 0, 0, 0, 0, 0, 0, 0, 0, 0, 0, 0, 0, 0, 0, 0, 0, 0, 0, 0, 0, 0, 0, 0, 0, 0, 0, 0, 0, 0, 0, 0, 0, 0, 0, 0, 0, 0, 0, 0, 0, 0, 0, 0, 0, 0, 0, 0, 0, 0, 0, 0, 0, 0, 0, 0, 0, 0, 0, 0, 0, 0, 0, 0, 0, 0, 0, 0, 0, 0, 0, 0, 0, 0, 0, 0, 0, 0, 0, 0, 0, 0, 0, 0, 0, 0, 0, 0, 0, 0, 0, 0, 0, 0, 0, 0, 0, 0, 0, 0, 0, 0, 0, 0, 0, 0, 0, 0, 0, 0, 0, 0, 0, 0, 0, 0, 0, 0, 0, 0, 0, 0, 0, 0, 0, 0, 0, 0, 0, 0, 0, 0, 0, 0, 0, 0, 0, 0, 0, 0, 0, 0, 0, 0, 0, 0, 0, 0, 0, 0, 0, 0, 0, 0, 0, 0, 0, 0, 0, 0, 0, 0, 0, 0, 0, 0, 0, 0, 0, 0, 0, 0, 0, 0, 0, 0, 0, 0, 0, 0, 0, 0, 0, 0, 0, 0, 0, 0, 0, 0, 0, 0, 0, 0, 0, 0, 0, 0, 0, 0, 0, 0, 0, 0, 0, 0, 0, 0, 0, 0, 0, 0, 0, 0, 0, 0, 0, 0, 0, 0, 0, 0, 0, 0, 0, 0, 0, 0, 0, 0, 0, 0, 0, 0, 0, 0, 0, 0, 0, 0, 0, 0, 0, 0, 0, 0, 0, 0, 0, 0, 0, 0, 0, 0, 0, 0, 0, 0, 0, 0, 0, 0, 0, 0, 0, 0, 0, 0, 0, 0, 0, 0, 0, 0, 0, 0, 0, 0, 0, 0, 0, 0, 0, 0, 0, 0, 0, 0, 0, 0, 0, 0, 0, 0, 0, 0, 0, 0, 0, 0, 0, 0, 0, 0, 0, 0, 0, 0, 0, 0, 0, 0, 0, 0, 0, 0, 0, 0, 0, 0, 0, 0, 0, 0, 0, 0, 0, 0, 0, 0, 0, 0, 0, 0, 0, 0, 0, 0, 0, 0, 0, 0, 0, 0, 0, 0, 0, 0, 0, 0, 0, 0, 0, 0, 0, 0, 0, 0, 0, 0, 0, 0, 0, 0, 0, 0, 0, 0, 0, 0, 0, 0, 0, 0, 0, 0, 0, 0, 0, 0, 0, 0, 0, 0, 0, 0, 0, 0, 0, 0, 0, 0, 0, 0, 0, 0, 0, 0, 0, 0, 0, 0, 0, 0, 0, 0, 0, 0, 0, 0, 0, 0, 0, 0, 0, 0, 0, 0, 0, 0, 0, 0, 0, 0, 0, 0, 0, 0, 0, 0, 0, 0, 0, 0, 0, 0, 0, 0, 0, 0, 0, 0, 0, 0, 0, 0, 0, 0, 0, 0, 0, 0, 0, 0, 0, 0, 0, 0, 0, 0, 0, 0, 0, 0, 0, 0, 0, 0, 0, 0, 0, 0, 0, 0, 0, 0, 0, 0, 0, 0, 0, 0, 0, 0, 0, 0, 0, 0, 0, 0, 0, 0, 0, 0, 0, 0, 0, 0, 0, 0, 0, 0, 0, 0, 0, 0, 0, 0, 0, 0, 0, 0, 0, 0, 0, 0, 0, 0, 0, 0, 0, 0, 0, 0, 0, 0, 0, 0, 0, 0, 0, 0, 0, 0, 0, 0, 0, 0, 0, 0, 0, 0, 0, 0, 0, 0, 0, 0, 0, 0, 0, 0, 0, 0, 0, 0, 0, 0, 0, 0, 0, 0, 0, 0, 0, 0, 0, 0, 0, 0, 0, 0, 0, 0, 0, 0, 0, 0, 0, 0, 0, 0, 0, 0, 0, 0, 0, 0, 0, 0, 0, 0, 0, 0, 0, 0, 0, 0, 0, 0, 0, 0, 0, 0, 0, 0, 0, 0, 0, 0, 0, 0, 0, 0, 0, 0, 0, 0, 0, 0, 0, 0, 0, 0, 0, 0, 0, 0, 0, 0, 0, 0, 0, 0, 0, 0, 0, 0, 0, 0, 0, 0, 0, 0, 0, 0, 0, 0, 0, 0, 0, 0, 0, 0, 0, 0, 0, 0, 0, 0, 0, 0, 0, 0, 0, 0, 0, 0, 0, 0, 0, 0, 0, 0, 0, 0, 0, 0, 0, 0, 0, 0, 0, 0, 0, 0, 0, 0, 0, 0, 0, 0, 0, 0, 0, 0, 0, 0, 0, 0, 0, 0, 0, 0, 0, 0, 0, 0, 0, 0, 0, 0, 0, 0, 0, 0, 0, 0, 0, 0, 0, 0, 0, 0, 0, 0, 0, 0, 0, 0, 0, 0, 0, 0, 0, 0, 0, 0, 0, 0, 0, 0, 0, 0, 0, 0, 0, 0, 0, 0, 0, 0, 0, 0, 0, 0, 0, 0, 0, 0, 0, 0, 0, 0, 0, 0, 0, 0, 0, 0, 0, 0, 0, 0, 0, 0, 0, 0, 0, 0, 0, 0, 0, 0, 0, 0, 0, 0, 0, 0, 0, 0, 0, 0, 0, 0, 0, 0, 0, 0, 0, 0, 0, 0, 0, 0, 0, 0, 0, 0, 0, 0, 0, 0, 0, 0, 0, 0, 0, 0, 0, 0, 0, 0, 0, 0, 0, 0, 0, 900].getD k 0) Try.call25 (ih f (by omega) (l ++ [((F.getD (lastF l).toNat []).getD i 0)]) (u ||| 2 ^ ((F.getD (lastF l).toNat []).getD i 0).toNat) (k0 + (emD G F q l).length + (goTo (dgo G q u) (fun x => linD G F Rd Rw q f (l ++ [x]) (u ||| 2 ^ x.toNat)) (F.getD (lastF l).toNat []) i).length) ?_ ?_ ?_ ?_ ?_ rfl) (.plain rfl) ⟨(.plain rfl), (.plain rfl), trivial⟩ ⟨rfl, rfl, rfl, rfl, rfl, rfl, rfl, rfl, rfl, rfl, trivial⟩ (by kernel_rfl)) rfl (.kn rfl rfl (fun _ => op_not (.plain rfl)) (.n (fun _ => op_and0 (.plain rfl) (.plain rfl) (.plain rfl)) (.nil _)))))))))))))))))))))))))))) ?d23 ?dg23 ?_
            · omega
            · exact Int.ediv_nonneg (by omega) (by rw [← Int.one_mul (2 ^ _), shl_one]; exact Int.natCast_nonneg _)
            · try simp only [beq_iff_eq, beq_true, beq_false, Bool.and_eq_true, decide_eq_true_eq, decide_eq_false_iff_not, Bool.not_eq_true', Bool.or_eq_true, Bool.or_eq_false_iff] at hg
              first | omega | (simp; omega)
            · try simp only [beq_iff_eq, beq_true, beq_false, Bool.and_eq_true, decide_eq_true_eq, decide_eq_false_iff_not, Bool.not_eq_true', Bool.or_eq_true, Bool.or_eq_false_iff] at hg
              first | omega | (simp; omega)
            · try simp only [beq_iff_eq, beq_true, beq_false, Bool.and_eq_true, decide_eq_true_eq, decide_eq_false_iff_not, Bool.not_eq_true', Bool.or_eq_true, Bool.or_eq_false_iff] at hg
              exact ⟨by omega, by omega, shl_in (by omega)⟩
            · try simp only [beq_iff_eq, beq_true, beq_false, Bool.and_eq_true, decide_eq_true_eq, decide_eq_false_iff_not, Bool.not_eq_true', Bool.or_eq_true, Bool.or_eq_false_iff] at hg
              exact ⟨by omega, by rw [shl_one]; exact Int.natCast_nonneg _⟩
            · try simp only [beq_iff_eq, beq_true, beq_false, Bool.and_eq_true, decide_eq_true_eq, decide_eq_false_iff_not, Bool.not_eq_true', Bool.or_eq_true, Bool.or_eq_false_iff] at hg
              simp
            · try simp only [beq_iff_eq, beq_true, beq_false, Bool.and_eq_true, decide_eq_true_eq, decide_eq_false_iff_not, Bool.not_eq_true', Bool.or_eq_true, Bool.or_eq_false_iff] at hg
              simp; omega
            · try simp only [beq_iff_eq, beq_true, beq_false, Bool.and_eq_true, decide_eq_true_eq, decide_eq_false_iff_not, Bool.not_eq_true', Bool.or_eq_true, Bool.or_eq_false_iff] at hg
              rw [last_snoc]; omega
            · try simp only [beq_iff_eq, beq_true, beq_false, Bool.and_eq_true, decide_eq_true_eq, decide_eq_false_iff_not, Bool.not_eq_true', Bool.or_eq_true, Bool.or_eq_false_iff] at hg
              exact or_lt hu (by omega)
            · try simp only [beq_iff_eq, beq_true, beq_false, Bool.and_eq_true, decide_eq_true_eq, decide_eq_false_iff_not, Bool.not_eq_true', Bool.or_eq_true, Bool.or_eq_false_iff] at hg
              exact hsn
            · kernel_rfl
            · exact gOk_one 14 5 _ [16, 19] rfl (by kernel_rfl) rfl (by kernel_rfl) (fun k hk => by simp only [List.mem_cons, List.not_mem_nil, or_false] at hk; first | (subst hk; rfl) | (rcases hk with hk | hk <;> subst hk <;> rfl))
            refine awp_cond rfl (fun h => ?_) (fun h => ?_)
            · skip
              exfalso
              simp at h
            · skip
              refine awp_skip ?_
              refine awp_region rfl (.n (fun _ => op_add (.plain rfl) (.plain rfl) ?_) (.n (fun _ => op_move (.plain rfl)) (.nil _))) ?_
              · unfold InR; omega
              exact ⟨i + 1, by omega, by dsimp only; omega, (Ent.kept ⟨rfl, rfl, rfl, rfl, rfl, rfl, rfl, rfl, rfl, rfl, rfl, rfl, rfl, rfl, rfl, rfl, rfl, rfl, rfl, rfl, trivial⟩ ⟨rfl, rfl, rfl, rfl, rfl, rfl, (congrArg (fun q => some (Blk.box [SV.int (A q)])) (he)), (congrArg (fun q => some (Blk.box [SV.pv (.ints (B q))])) (he)), (congrArg (fun q => some (Blk.mq (C q))) (he)), (congrArg (fun q => some (Blk.mq (E q))) (he)), trivial⟩)⟩
          · have hgo : dgo G q u ((F.getD (lastF l).toNat []).getD i 0) = true := dgo_yes (bit_ct hc1) (.inr hc3)
            have hsn := hs2.go (show i < (F.getD (lastF l).toNat []).length by omega) hgo
            have he : k0 + (emD G F q l).length + (goTo (dgo G q u) (fun x => linD G F Rd Rw q f (l ++ [x]) (u ||| 2 ^ x.toNat)) (F.getD (lastF l).toNat []) i).length + (linD G F Rd Rw q f (l ++ [((F.getD (lastF l).toNat []).getD i 0)]) (u ||| 2 ^ ((F.getD (lastF l).toNat []).getD i 0).toNat)).length = k0 + (emD G F q l).length + (goTo (dgo G q u) (fun x => linD G F Rd Rw q f (l ++ [x]) (u ||| 2 ^ x.toNat)) (F.getD (lastF l).toNat []) (i + 1)).length := by rw [← goTo_yes hgo, List.length_append]; omega
            refine awp_region_drawG mixed rfl (.n (fun _ => op_move (.plain rfl)) (.n (fun _ => op_move (.plain rfl)) (.n (fun _ => op_shr (.plain rfl) (.plain rfl) ?_) (.n (fun _ => op_bit (.plain rfl) ?_) (.n (fun _ => OpT.boolEq hc1 (op_eql (.plain rfl) (.plain rfl))) (.n (fun _ => op_move (.plain rfl)) (.kn rfl rfl (fun _ => op_move (.plain rfl)) (.kn rfl rfl (fun _ => OpT.boolEq hcr (op_move (.plain rfl))) (.kn rfl rfl (fun _ => op_move (.plain rfl)) (.kn rfl rfl (fun _ => op_load Try.isAgg3 (.plain rfl)) (.kn rfl rfl (fun _ => OpT.boolEq hc3 (op_gtr (.plain rfl) (.plain rfl))) (.kn rfl rfl (fun _ => op_or0 (.plain rfl) (.plain rfl) (.plain rfl)) (.n (fun _ => op_and0 (.plain rfl) (.plain rfl) (.plain rfl)) (.n (fun _ => op_move (.plain rfl)) (.klook rfl rfl 5 rfl (fun _ hl => op_loadR Try.isAgg47 (.plain rfl)  hl rfl) (.kn rfl rfl (fun _ => op_move (.plain rfl)) (.ke rfl rfl (op_callO (vals := [_]) 105 Try.call26 ⟨⟨_, (.plain rfl), rfl⟩, trivial⟩ (clone_fc _ ?_) (by simp [PV.flat]) rfl) rfl (.kn rfl rfl (fun _ => op_move (.plain rfl)) (.kn rfl rfl (fun _ => op_slit (pp := [(0, _)]) (α := Int) (d := 0) (f := (fun n => [.int .i64 n])) [_] ety35 rfl ⟨rfl, (.plain rfl), (by simp), trivial⟩ rfl (by decide) rfl) (.ke rfl rfl ((op_append (id' := 108) (α := Int) (d := 0) (f := (fun n => [.int .i64 n])) ety35 Try.underlying35 (fun _ => rfl) (fun _ => rfl) (.plain rfl) rfl (.plain rfl) rfl ?_).given rfl) rfl (.kn rfl rfl (fun _ => op_move (.plain rfl)) (.kn rfl rfl (fun _ => op_move (.plain rfl)) (.kn rfl rfl (fun _ => op_shl (.plain rfl) (.plain rfl) ?_) (.kn rfl rfl (fun _ => OpT.intEq (or_shl _ _) (op_bor (.plain rfl) (.plain rfl) ?_)) (.ke rfl rfl (op_callVH (ags := [_, _]) (fun k => [0, 0, 2, 0, 4, 5, 0, 7, 8, 0, 0, 0, 0, 0, 0, 0, 0, 0, 0, 0, 0, 0, 0, 0, 0, 0, 0, 0, 0, 0, 0, 0, 0, 0, 0, 0, 0, 0, 0, 0, 40, 41, 42, 0, 44, 0, 0, 0, 0, 0, 0, 0, 0, 0, 0, 0, 0, 0, 0, 0, 0, 0, 0, 0, 0, 0, 0, 0, 0, 0, 0, 0, 0, 0, 0, 0, 0, 0, 0, 0, 0, 0, 0, 0, 0, 0, 0, 0, 0, 0, 0, 0, 0, 0, 0, 0, 0, 0, 0, 0, 0, 0, 0, 0, 0, 0, 0, 0, 0, 0, 0, 0, 0, 0, 0, 0, 0, 0, 0, 0, 0, 0, 0, 0, 0, 0, 0, 0, 0, 0, 0, 0, 0, 0, 0, 0, 0, 0, 0, 0, 0, 0, 0, 0, 0, 0, 0, 0, 0, 0, 0, 0, 0, 0, 0, 0, 0, 0, 0, 0, 0, 0, 0, 0, 0, 0, 0, 0, 0, 0, 0, 0, 0, 0, 0, 0, 0, 0, 0, 0, 0, 0, 0, 0, 0, 0, 0, 0, 0, 0, 0, 0, 0, 0, 0, 0, 0, 0, 0, 0, 0, 0, 0, 0, 0, 0, 0, 0, 0, 0, 0, 0, 0, 0, 0, 0, 0, 0, 0, 0, 0, 0, 0, 0, 0, 0, 0, 0, 0, 0, 0, 0, 0, 0, 0, 0, 0, 0, 0, 0, 0, 0, 0, 0, 0, 0, 0, 0, 0, 0, 0, 0, 0, 0, 0, 0, 0, 0, 0, 0, 0, 0, 0, 0, 0, 0, 0, 0, 0, 0, 0, 0, 0, 0, 0, 0, 0, 0, 0, 0, 0, 0, 0, 0, 0, 0, 0, 0, 0, 0, 0, 0, 0, 0, 0, 0, 0, 0, 0, 0, 0, 0, 0, 0, 0, 0, 0, 0, 0, 0, 0, 0, 0, 0, 0, 0, 0, 0, 0, 0, 0, 0, 0, 0, 0, 0, 0, 0, 0, 0, 0, 0, 0, 0, 0, 0, 0, 0, 0, 0, 0, 0, 0, 0, 0, 0, 0, 0, 0, 0, 0, 0, 0, 0, 0, 0, 0, 0, 0, 0, 0, 0, 0, 0, 0, 0, 0, 0, 0, 0, 0, 0, 0, 0, 0, 0, 0, 0, 0, 0, 0, 0, 0, 0, 0, 0, 0, 0, 0, 0, 0, 0, 0, 0, 0, 0, 0, 0, 0, 0, 0, 0, 0, 0, 0, 0, 0, 0, 0, 0, 0, 0, 0, 0, 0, 0, 0, 0, 0, 0, 0, 0, 0, 0, 0, 0, 0, 0, 0, 0, 0, 0, 0, 0, 0, 0, 0, 0, 0, 0, 0, 0, 0, 0, 0, 0, 0, 0, 0, 0, 0, 0, 0, 0, 0, 0, 0, 0, 0, 0, 0, 0, 0, 0, 0, 0, 0, 0, 0, 0, 0, 0, 0, 0, 0, 0, 0, 0, 0, 0, 0, 0, 0, 0, 0, 0, 0, 0, 0, 0, 0, 0, 0, 0, 0, 0, 0, 0, 0, 0, 0, 0, 0, 0, 0, 0, 0, 0, 0, 0, 0, 0, 0, 0, 0, 0, 0, 0, 0, 0, 0, 0, 0, 0, 0, 0, 0, 0, 0, 0, 0, 0, 0, 0, 0, 0, 0, 0, 0, 0, 0, 0, 0, 0, 0, 0, 0, 0, 0, 0, 0, 0, 0, 0, 0, 0, 0, 0, 0, 0, 0, 0, 0, 0, 0, 0, 0, 0, 0, 0, 0, 0, 0, 0, 0, 0, 0, 0, 0, 0, 0, 0, 0, 0, 0, 0, 0, 0, 0, 0, 0, 0, 0, 0, 0, 0, 0, 0, 0, 0, 0, 0, 0, 0, 0, 0, 0, 0, 0, 0, 0, 0, 0, 0, 0, 0, 0, 0, 0, 0, 0, 0, 0, 0, 0, 0, 0, 0, 0, 0, 0, 0, 0, 0, 0, 0, 0, 0, 0, 0, 0, 0, 0, 0, 0, 0, 0, 0, 0, 0, 0, 0, 0, 0, 0, 0, 0, 0, 0, 0, 0, 0, 0, 0, 0, 0, 0, 0, 0, 0, 0, 0, 0, 0, 0, 0, 0, 0, 0, 0, 0, 0, 0, 0, 0, 0, 0, 0, 0, 0, 0, 0, 0, 0, 0, 0, 0, 0, 0, 0, 0, 0, 0, 0, 0, 0, 0, 0, 0, 0, 0, 0, 0, 0, 0, 0, 0, 0, 0, 0, 0, 0, 0, 0, 0, 0, 0, 0, 0, 0, 0, 0, 0, 0, 0, 0, 0, 0, 0, 0, 0, 0, 0, 0, 0, 0, 0, 0, 0, 0, 0, 0, 0, 0, 0, 0, 0, 0, 0, 0, 0, 0, 0, 0, 0, 0, 0, 0, 0, 0, 0, 0, 0, 0, 0, 0, 0, 0, 0, 0, 0, 0, 0, 0, 0, 0, 0, 0, 0, 0, 0, 0, 0, 0, 0, 0, 0, 0, 0, 0, 0, 0, 0, 0, 0, 0, 0, 0, 0, 0, 0, 0, 0, 0, 0, 0, 0, 0, 0, 0, 0, 0, 0, 0, 0, 0, 0, 0, 0, 0, 0, 0, 0, 0, 0, 0, 0, 0, 0, 0, 0, 0, 0, 0, 0, 0, 0, 0, 0, 0, 0, 0, 0, 0, 0, 0, 0, 0, 0, 0, 0, 0, 0, 0, 0, 0, 0, 0, 0, 0, 0, 0, 0, 0, 0, 0, 0, 0, 0, 0, 0, 0, 0, 0, 0, 0, 0, 0, 0, 0, 0, 0, 0, 0, 0, 0, 0, 0, 0, 0, 900].getD k 0) Try.call25 (ih f (by omega) (l ++ [((F.getD (lastF l).toNat []).getD i 0)]) (u ||| 2 ^ ((F.getD (lastF l).toNat []).getD i 0).toNat) (k0 + (emD G F q l).length + (goTo (dgo G q u) (fun x => linD G F Rd Rw q f (l ++ [x]) (u ||| 2 ^ x.toNat)) (F.getD (lastF l).toNat []) i).length) ?_ ?_ ?_ ?_ ?_ rfl) (.plain rfl) ⟨(.plain rfl), (.plain rfl), trivial⟩ ⟨rfl, rfl, rfl, rfl, rfl, rfl, rfl, rfl, rfl, rfl, trivial⟩ (by kernel_rfl)) rfl (.kn rfl rfl (fun _ => op_not (.plain rfl)) (.n (fun _ => op_and0 (.plain rfl) (.plain rfl) (.plain rfl)) (.nil _)))))))))))))))))))))))))))) ?d24 ?dg24 ?_
            · omega
            · exact Int.ediv_nonneg (by omega) (by rw [← Int.one_mul (2 ^ _), shl_one]; exact Int.natCast_nonneg _)
            · try simp only [beq_iff_eq, beq_true, beq_false, Bool.and_eq_true, decide_eq_true_eq, decide_eq_false_iff_not, Bool.not_eq_true', Bool.or_eq_true, Bool.or_eq_false_iff] at hg
              first | omega | (simp; omega)
            · try simp only [beq_iff_eq, beq_true, beq_false, Bool.and_eq_true, decide_eq_true_eq, decide_eq_false_iff_not, Bool.not_eq_true', Bool.or_eq_true, Bool.or_eq_false_iff] at hg
              first | omega | (simp; omega)
            · try simp only [beq_iff_eq, beq_true, beq_false, Bool.and_eq_true, decide_eq_true_eq, decide_eq_false_iff_not, Bool.not_eq_true', Bool.or_eq_true, Bool.or_eq_false_iff] at hg
              exact ⟨by omega, by omega, shl_in (by omega)⟩
            · try simp only [beq_iff_eq, beq_true, beq_false, Bool.and_eq_true, decide_eq_true_eq, decide_eq_false_iff_not, Bool.not_eq_true', Bool.or_eq_true, Bool.or_eq_false_iff] at hg
              exact ⟨by omega, by rw [shl_one]; exact Int.natCast_nonneg _⟩
            · try simp only [beq_iff_eq, beq_true, beq_false, Bool.and_eq_true, decide_eq_true_eq, decide_eq_false_iff_not, Bool.not_eq_true', Bool.or_eq_true, Bool.or_eq_false_iff] at hg
              simp
            · try simp only [beq_iff_eq, beq_true, beq_false, Bool.and_eq_true, decide_eq_true_eq, decide_eq_false_iff_not, Bool.not_eq_true', Bool.or_eq_true, Bool.or_eq_false_iff] at hg
              simp; omega
            · try simp only [beq_iff_eq, beq_true, beq_false, Bool.and_eq_true, decide_eq_true_eq, decide_eq_false_iff_not, Bool.not_eq_true', Bool.or_eq_true, Bool.or_eq_false_iff] at hg
              rw [last_snoc]; omega
            · try simp only [beq_iff_eq, beq_true, beq_false, Bool.and_eq_true, decide_eq_true_eq, decide_eq_false_iff_not, Bool.not_eq_true', Bool.or_eq_true, Bool.or_eq_false_iff] at hg
              exact or_lt hu (by omega)
            · try simp only [beq_iff_eq, beq_true, beq_false, Bool.and_eq_true, decide_eq_true_eq, decide_eq_false_iff_not, Bool.not_eq_true', Bool.or_eq_true, Bool.or_eq_false_iff] at hg
              exact hsn
            · kernel_rfl
            · exact gOk_one 14 5 _ [16, 19] rfl (by kernel_rfl) rfl (by kernel_rfl) (fun k hk => by simp only [List.mem_cons, List.not_mem_nil, or_false] at hk; first | (subst hk; rfl) | (rcases hk with hk | hk <;> subst hk <;> rfl))
            refine awp_cond rfl (fun h => ?_) (fun h => ?_)
            · skip
              exfalso
              simp at h
            · skip
              refine awp_skip ?_
              refine awp_region rfl (.n (fun _ => op_add (.plain rfl) (.plain rfl) ?_) (.n (fun _ => op_move (.plain rfl)) (.nil _))) ?_
              · unfold InR; omega
              exact ⟨i + 1, by omega, by dsimp only; omega, (Ent.kept ⟨rfl, rfl, rfl, rfl, rfl, rfl, rfl, rfl, rfl, rfl, rfl, rfl, rfl, rfl, rfl, rfl, rfl, rfl, rfl, rfl, trivial⟩ ⟨rfl, rfl, rfl, rfl, rfl, rfl, (congrArg (fun q => some (Blk.box [SV.int (A q)])) (he)), (congrArg (fun q => some (Blk.box [SV.pv (.ints (B q))])) (he)), (congrArg (fun q => some (Blk.mq (C q))) (he)), (congrArg (fun q => some (Blk.mq (E q))) (he)), trivial⟩)⟩
          · have hng : ¬ dgo G q u ((F.getD (lastF l).toNat []).getD i 0) = true := dgo_no2 hcr hc3
            have he : k0 + (emD G F q l).length + (goTo (dgo G q u) (fun x => linD G F Rd Rw q f (l ++ [x]) (u ||| 2 ^ x.toNat)) (F.getD (lastF l).toNat []) i).length = k0 + (emD G F q l).length + (goTo (dgo G q u) (fun x => linD G F Rd Rw q f (l ++ [x]) (u ||| 2 ^ x.toNat)) (F.getD (lastF l).toNat []) (i + 1)).length := by rw [goTo_no hng]
            refine awp_region_draw mixed rfl (.n (fun _ => op_move (.plain rfl)) (.n (fun _ => op_move (.plain rfl)) (.n (fun _ => op_shr (.plain rfl) (.plain rfl) ?_) (.n (fun _ => op_bit (.plain rfl) ?_) (.n (fun _ => OpT.boolEq hc1 (op_eql (.plain rfl) (.plain rfl))) (.n (fun _ => op_move (.plain rfl)) (.kn rfl rfl (fun _ => op_move (.plain rfl)) (.kn rfl rfl (fun _ => OpT.boolEq hcr (op_move (.plain rfl))) (.kn rfl rfl (fun _ => op_move (.plain rfl)) (.kn rfl rfl (fun _ => op_load Try.isAgg3 (.plain rfl)) (.kn rfl rfl (fun _ => OpT.boolEq hc3 (op_gtr (.plain rfl) (.plain rfl))) (.kn rfl rfl (fun _ => op_or0 (.plain rfl) (.plain rfl) (.plain rfl)) (.n (fun _ => op_and0 (.plain rfl) (.plain rfl) (.plain rfl)) (.n (fun _ => op_move (.plain rfl)) (.no rfl rfl rfl (.no rfl rfl rfl (.no rfl rfl rfl (.no rfl rfl rfl (.no rfl rfl rfl (.no rfl rfl rfl (.no rfl rfl rfl (.no rfl rfl rfl (.no rfl rfl rfl (.no rfl rfl rfl (.no rfl rfl rfl (.no rfl rfl rfl (.n (fun _ => op_and (.plain rfl) (.plain rfl) (.plain rfl) (fun h => absurd h (by decide))) (.nil _)))))))))))))))))))))))))))) ?d25 ?_
            · omega
            · exact Int.ediv_nonneg (by omega) (by rw [← Int.one_mul (2 ^ _), shl_one]; exact Int.natCast_nonneg _)
            · kernel_rfl
            refine awp_cond rfl (fun h => ?_) (fun h => ?_)
            · skip
              exfalso
              simp at h
            · skip
              refine awp_skip ?_
              refine awp_region rfl (.n (fun _ => op_add (.plain rfl) (.plain rfl) ?_) (.n (fun _ => op_move (.plain rfl)) (.nil _))) ?_
              · unfold InR; omega
              exact ⟨i + 1, by omega, by dsimp only; omega, (Ent.kept ⟨rfl, rfl, rfl, rfl, rfl, rfl, rfl, rfl, rfl, rfl, rfl, rfl, rfl, rfl, rfl, rfl, rfl, rfl, rfl, rfl, trivial⟩ ⟨rfl, rfl, rfl, rfl, rfl, rfl, (congrArg (fun q => some (Blk.box [SV.int (A q)])) (he)), (congrArg (fun q => some (Blk.box [SV.pv (.ints (B q))])) (he)), (congrArg (fun q => some (Blk.mq (C q))) (he)), (congrArg (fun q => some (Blk.mq (E q))) (he)), trivial⟩)⟩
        · skip
          have h := of_decide_eq_false h
          refine awp_exit ?_
          refine awp_seq ?_
          refine awp_region rfl (.n (fun _ => op_assign (.plain rfl)) (.nil _)) ?_
          refine awp_ret ?_
          refine retH.ret ?_
          refine retH1 rfl rfl ⟨rfl, rfl, rfl, rfl, rfl, rfl, (congrArg (fun q => some (Blk.box [SV.int (A q)])) (by rw [linD_go hst, List.length_append, show i = (F.getD (lastF l).toNat []).length by omega]; omega)), (congrArg (fun q => some (Blk.box [SV.pv (.ints (B q))])) (by rw [linD_go hst, List.length_append, show i = (F.getD (lastF l).toNat []).length by omega]; omega)), (congrArg (fun q => some (Blk.mq (C q))) (by rw [linD_go hst, List.length_append, show i = (F.getD (lastF l).toNat []).length by omega]; omega)), (congrArg (fun q => some (Blk.mq (E q))) (by rw [linD_go hst, List.length_append, show i = (F.getD (lastF l).toNat []).length by omega]; omega)), trivial⟩ ⟨.inr rfl, .inr rfl, .inr rfl, .inr rfl, .inr rfl, .inr rfl, .inr rfl, .inr rfl, .inr rfl, .inr rfl, trivial⟩ ?_
          rfl

set_option maxRecDepth 1000000 in
set_option maxHeartbeats 4000000 in
theorem lines1_fch (G : Int) (F : List (List Int)) (Rd Rw : Int) (hv : mayE G F Rd Rw = 0) (u0 q : Nat) (ps : Array Tmp) (asg bd : Code) (A : Nat → Int) (B : Nat → List Int) (C E : Nat → List (Int × PV)) (hy : ∀ k, k < (linA G F Rd Rw u0 q).length → YH Try.prog 900 (.yld ps asg bd [.pv .any, .pv .any, .ref 2 0, .pv (.rd [.i (u0 : Nat)]), .pv .any, .pv .any, .pv .any, .ref 7 0, .ref 8 0, .pv (.rd [.i (q : Nat)]), .pv .any, .pv .any, .pv .any, .pv .any, .pv .any, .pv .any, .pv .any, .pv .any, .pv .any, .pv .any, .pv .any, .pv .any, .pv .any, .pv .any, .pv .any, .pv .any, .pv .any, .pv .any, .pv .any, .pv .any, .pv .any, .pv .any, .int (F.length : Nat), .int (q : Nat), .pv .any, .pv .any, .pv .any, .pv .any, .pv .any, .pv .any, .pv .any, .pv .any, .pv .any, .pv .any, .clo (.func 24) [.pv (.rd [.i (q : Nat)]), .ref 44 0, .pv (.rd [.i (u0 : Nat)])], .pv .any, .pv .any, .pv .any, .pv .any, .pv .any, .pv .any, .pv .any, .pv .any, .pv .any, .pv .any, .pv .any, .pv .any, .pv .any, .pv .any, .pv .any, .pv .any, .pv .any, .pv .any, .pv .any, .pv .any, .pv .any, .pv .any, .pv .any, .pv .any, .pv .any, .pv .any, .pv .any, .pv .any, .pv .any, .pv .any, .pv .any, .pv .any, .pv .any, .pv .any, .pv .any, .pv .any, .pv .any, .pv .any, .pv .any, .pv .any, .pv .any, .pv .any, .pv .any, .pv .any, .pv .any, .pv .any, .pv .any, .pv .any, .pv .any, .pv .any, .pv .any, .pv .any, .pv .any, .pv .any, .pv .any, .pv .any]) [.pv (.ints ((linA G F Rd Rw u0 q).getD k []))] [(44, .box [.ref 40 0]), (2, .box [.ref 40 0]), (40, .box [.pv (.i G), .pv (.rows F), .pv (.i Rd), .pv (.i Rw), .own 41, .own 42]), (7, .box [.int (A (k))]), (8, .box [.pv (.ints (B (k)))]), (41, .mq (C (k))), (42, .mq (E (k)))] [(44, .box [.ref 40 0]), (2, .box [.ref 40 0]), (40, .box [.pv (.i G), .pv (.rows F), .pv (.i Rd), .pv (.i Rw), .own 41, .own 42]), (7, .box [.int (A (k + 1))]), (8, .box [.pv (.ints (B (k + 1)))]), (41, .mq (C (k + 1))), (42, .mq (E (k + 1)))]) (hq : q < F.length) (hu0 : u0 < 2 ^ 8) : FCH Try.prog 24 [.own 900, .pv (.rd [.i (q : Nat)]), .ref 44 0, .pv (.rd [.i (u0 : Nat)])] [(900, .yld ps asg bd [.pv .any, .pv .any, .ref 2 0, .pv (.rd [.i (u0 : Nat)]), .pv .any, .pv .any, .pv .any, .ref 7 0, .ref 8 0, .pv (.rd [.i (q : Nat)]), .pv .any, .pv .any, .pv .any, .pv .any, .pv .any, .pv .any, .pv .any, .pv .any, .pv .any, .pv .any, .pv .any, .pv .any, .pv .any, .pv .any, .pv .any, .pv .any, .pv .any, .pv .any, .pv .any, .pv .any, .pv .any, .pv .any, .int (F.length : Nat), .int (q : Nat), .pv .any, .pv .any, .pv .any, .pv .any, .pv .any, .pv .any, .pv .any, .pv .any, .pv .any, .pv .any, .clo (.func 24) [.pv (.rd [.i (q : Nat)]), .ref 44 0, .pv (.rd [.i (u0 : Nat)])], .pv .any, .pv .any, .pv .any, .pv .any, .pv .any, .pv .any, .pv .any, .pv .any, .pv .any, .pv .any, .pv .any, .pv .any, .pv .any, .pv .any, .pv .any, .pv .any, .pv .any, .pv .any, .pv .any, .pv .any, .pv .any, .pv .any, .pv .any, .pv .any, .pv .any, .pv .any, .pv .any, .pv .any, .pv .any, .pv .any, .pv .any, .pv .any, .pv .any, .pv .any, .pv .any, .pv .any, .pv .any, .pv .any, .pv .any, .pv .any, .pv .any, .pv .any, .pv .any, .pv .any, .pv .any, .pv .any, .pv .any, .pv .any, .pv .any, .pv .any, .pv .any, .pv .any, .pv .any, .pv .any, .pv .any, .pv .any]), (44, .box [.ref 40 0]), (2, .box [.ref 40 0]), (40, .box [.pv (.i G), .pv (.rows F), .pv (.i Rd), .pv (.i Rw), .own 41, .own 42]), (7, .box [.int (A (0))]), (8, .box [.pv (.ints (B (0)))]), (41, .mq (C (0))), (42, .mq (E (0)))] [(900, .yld ps asg bd [.pv .any, .pv .any, .ref 2 0, .pv (.rd [.i (u0 : Nat)]), .pv .any, .pv .any, .pv .any, .ref 7 0, .ref 8 0, .pv (.rd [.i (q : Nat)]), .pv .any, .pv .any, .pv .any, .pv .any, .pv .any, .pv .any, .pv .any, .pv .any, .pv .any, .pv .any, .pv .any, .pv .any, .pv .any, .pv .any, .pv .any, .pv .any, .pv .any, .pv .any, .pv .any, .pv .any, .pv .any, .pv .any, .int (F.length : Nat), .int (q : Nat), .pv .any, .pv .any, .pv .any, .pv .any, .pv .any, .pv .any, .pv .any, .pv .any, .pv .any, .pv .any, .clo (.func 24) [.pv (.rd [.i (q : Nat)]), .ref 44 0, .pv (.rd [.i (u0 : Nat)])], .pv .any, .pv .any, .pv .any, .pv .any, .pv .any, .pv .any, .pv .any, .pv .any, .pv .any, .pv .any, .pv .any, .pv .any, .pv .any, .pv .any, .pv .any, .pv .any, .pv .any, .pv .any, .pv .any, .pv .any, .pv .any, .pv .any, .pv .any, .pv .any, .pv .any, .pv .any, .pv .any, .pv .any, .pv .any, .pv .any, .pv .any, .pv .any, .pv .any, .pv .any, .pv .any, .pv .any, .pv .any, .pv .any, .pv .any, .pv .any, .pv .any, .pv .any, .pv .any, .pv .any, .pv .any, .pv .any, .pv .any, .pv .any, .pv .any, .pv .any, .pv .any, .pv .any, .pv .any, .pv .any, .pv .any, .pv .any]), (44, .box [.ref 40 0]), (2, .box [.ref 40 0]), (40, .box [.pv (.i G), .pv (.rows F), .pv (.i Rd), .pv (.i Rw), .own 41, .own 42]), (7, .box [.int (A ((linA G F Rd Rw u0 q).length))]), (8, .box [.pv (.ints (B ((linA G F Rd Rw u0 q).length)))]), (41, .mq (C ((linA G F Rd Rw u0 q).length))), (42, .mq (E ((linA G F Rd Rw u0 q).length)))] (.pv (.tup [])) none := by
  refine FCH.intro Try.func24 rfl (Nat.le_of_ble_eq_true rfl) (Nat.le_of_ble_eq_true rfl) fun hfit ι0 => ?_
  change awp _ _ _ _ ⟨[(0, .own 900), (1, .pv (.rd [.i (q : Nat)])), (2, .ref 44 0), (3, .pv (.rd [.i (u0 : Nat)])), (1000900, .pin 900 (ι0 900)), (1000044, .pin 44 (ι0 44)), (1000002, .pin 2 (ι0 2)), (1000040, .pin 40 (ι0 40)), (1000007, .pin 7 (ι0 7)), (1000008, .pin 8 (ι0 8)), (1000041, .pin 41 (ι0 41)), (1000042, .pin 42 (ι0 42))], [(900, .yld ps asg bd [.pv .any, .pv .any, .ref 2 0, .pv (.rd [.i (u0 : Nat)]), .pv .any, .pv .any, .pv .any, .ref 7 0, .ref 8 0, .pv (.rd [.i (q : Nat)]), .pv .any, .pv .any, .pv .any, .pv .any, .pv .any, .pv .any, .pv .any, .pv .any, .pv .any, .pv .any, .pv .any, .pv .any, .pv .any, .pv .any, .pv .any, .pv .any, .pv .any, .pv .any, .pv .any, .pv .any, .pv .any, .pv .any, .int (F.length : Nat), .int (q : Nat), .pv .any, .pv .any, .pv .any, .pv .any, .pv .any, .pv .any, .pv .any, .pv .any, .pv .any, .pv .any, .clo (.func 24) [.pv (.rd [.i (q : Nat)]), .ref 44 0, .pv (.rd [.i (u0 : Nat)])], .pv .any, .pv .any, .pv .any, .pv .any, .pv .any, .pv .any, .pv .any, .pv .any, .pv .any, .pv .any, .pv .any, .pv .any, .pv .any, .pv .any, .pv .any, .pv .any, .pv .any, .pv .any, .pv .any, .pv .any, .pv .any, .pv .any, .pv .any, .pv .any, .pv .any, .pv .any, .pv .any, .pv .any, .pv .any, .pv .any, .pv .any, .pv .any, .pv .any, .pv .any, .pv .any, .pv .any, .pv .any, .pv .any, .pv .any, .pv .any, .pv .any, .pv .any, .pv .any, .pv .any, .pv .any, .pv .any, .pv .any, .pv .any, .pv .any, .pv .any, .pv .any, .pv .any, .pv .any, .pv .any, .pv .any, .pv .any]), (44, .box [.ref 40 0]), (2, .box [.ref 40 0]), (40, .box [.pv (.i G), .pv (.rows F), .pv (.i Rd), .pv (.i Rw), .own 41, .own 42]), (7, .box [.int (A (0))]), (8, .box [.pv (.ints (B (0)))]), (41, .mq (C (0))), (42, .mq (E (0)))]⟩
  have fit1 := hfit _ (.tail _ (.head _))
  have fit3 := hfit _ (.tail _ (.tail _ (.tail _ (.head _))))
  have hS := sok hv
  have hn8 := hS.n8
  have hG := hS.g
  have hRd := hS.rd
  have hRw := hS.rw'
  refine awp_seq ?_
  refine awp_region rfl (.e (op_boxY 4 (.plain rfl) rfl rfl rfl) rfl (.nil _)) ?_
  refine awp_seq ?_
  refine awp_region rfl (.e (op_alloc 5 Try.zeroValue47 rfl rfl rfl) rfl (.nil _)) ?_
  refine awp_seq ?_
  refine awp_region rfl (.n (fun _ => op_makeFuncS (cs := [_, _, _, _]) ⟨(.plain rfl), (.plain rfl), (.plain rfl), (.plain rfl), trivial⟩) (.e (op_storeR Try.sizeOf47 (.plain rfl) (.plain rfl) rfl (by first | decide | exact Nat.le_of_ble_eq_true rfl) rfl (by simp) (by simp)) rfl (.nil _))) ?_
  refine awp_region_draw mixed rfl (.r (op_loadR Try.isAgg47 (.plain rfl) rfl rfl) (.n (fun _ => op_load Try.isAgg3 (.plain rfl)) (.n (fun _ => op_slit (pp := [(0, _)]) (α := Int) (d := 0) (f := (fun n => [.int .i64 n])) [_] ety35 rfl ⟨rfl, (.plain rfl), (by simp), trivial⟩ rfl (by decide) rfl) (.n (fun _ => op_load Try.isAgg3 (.plain rfl)) (.n (fun _ => op_load Try.isAgg3 (.plain rfl)) (.n (fun _ => op_shl (.plain rfl) (.plain rfl) ?_) (.n (fun _ => OpT.intEq (or_shl _ _) (op_bor (.plain rfl) (.plain rfl) ?_)) (.e (op_callVH (ags := [_, _]) (fun k => [0, 0, 2, 0, 4, 5, 0, 7, 8, 0, 0, 0, 0, 0, 0, 0, 0, 0, 0, 0, 0, 0, 0, 0, 0, 0, 0, 0, 0, 0, 0, 0, 0, 0, 0, 0, 0, 0, 0, 0, 40, 41, 42, 0, 44, 0, 0, 0, 0, 0, 0, 0, 0, 0, 0, 0, 0, 0, 0, 0, 0, 0, 0, 0, 0, 0, 0, 0, 0, 0, 0, 0, 0, 0, 0, 0, 0, 0, 0, 0, 0, 0, 0, 0, 0, 0, 0, 0, 0, 0, 0, 0, 0, 0, 0, 0, 0, 0, 0, 0, 0, 0, 0, 0, 0, 0, 0, 0, 0, 0, 0, 0, 0, 0, 0, 0, 0, 0, 0, 0, 0, 0, 0, 0, 0, 0, 0, 0, 0, 0, 0, 0, 0, 0, 0, 0, 0, 0, 0, 0, 0, 0, 0, 0, 0, 0, 0, 0, 0, 0, 0, 0, 0, 0, 0, 0, 0, 0, 0, 0, 0, 0, 0, 0, 0, 0, 0, 0, 0, 0, 0, 0, 0, 0, 0, 0, 0, 0, 0, 0, 0, 0, 0, 0, 0, 0, 0, 0, 0, 0, 0, 0, 0, 0, 0, 0, 0, 0, 0, 0, 0, 0, 0, 0, 0, 0, 0, 0, 0, 0, 0, 0, 0, 0, 0, 0, 0, 0, 0, 0, 0, 0, 0, 0, 0, 0, 0, 0, 0, 0, 0, 0, 0, 0, 0, 0, 0, 0, 0, 0, 0, 0, 0, 0, 0, 0, 0, 0, 0, 0, 0, 0, 0, 0, 0, 0, 0, 0, 0, 0, 0, 0, 0, 0, 0, 0, 0, 0, 0, 0, 0, 0, 0, 0, 0, 0, 0, 0, 0, 0, 0, 0, 0, 0, 0, 0, 0, 0, 0, 0, 0, 0, 0, 0, 0, 0, 0, 0, 0, 0, 0, 0, 0, 0, 0, 0, 0, 0, 0, 0, 0, 0, 0, 0, 0, 0, 0, 0, 0, 0, 0, 0, 0, 0, 0, 0, 0, 0, 0, 0, 0, 0, 0, 0, 0, 0, 0, 0, 0, 0, 0, 0, 0, 0, 0, 0, 0, 0, 0, 0, 0, 0, 0, 0, 0, 0, 0, 0, 0, 0, 0, 0, 0, 0, 0, 0, 0, 0, 0, 0, 0, 0, 0, 0, 0, 0, 0, 0, 0, 0, 0, 0, 0, 0, 0, 0, 0, 0, 0, 0, 0, 0, 0, 0, 0, 0, 0, 0, 0, 0, 0, 0, 0, 0, 0, 0, 0, 0, 0, 0, 0, 0, 0, 0, 0, 0, 0, 0, 0, 0, 0, 0, 0, 0, 0, 0, 0, 0, 0, 0, 0, 0, 0, 0, 0, 0, 0, 0, 0, 0, 0, 0, 0, 0, 0, 0, 0, 0, 0, 0, 0, 0, 0, 0, 0, 0, 0, 0, 0, 0, 0, 0, 0, 0, 0, 0, 0, 0, 0, 0, 0, 0, 0, 0, 0, 0, 0, 0, 0, 0, 0, 0, 0, 0, 0, 0, 0, 0, 0, 0, 0, 0, 0, 0, 0, 0, 0, 0, 0, 0, 0, 0, 0, 0, 0, 0, 0, 0, 0, 0, 0, 0, 0, 0, 0, 0, 0, 0, 0, 0, 0, 0, 0, 0, 0, 0, 0, 0, 0, 0, 0, 0, 0, 0, 0, 0, 0, 0, 0, 0, 0, 0, 0, 0, 0, 0, 0, 0, 0, 0, 0, 0, 0, 0, 0, 0, 0, 0, 0, 0, 0, 0, 0, 0, 0, 0, 0, 0, 0, 0, 0, 0, 0, 0, 0, 0, 0, 0, 0, 0, 0, 0, 0, 0, 0, 0, 0, 0, 0, 0, 0, 0, 0, 0, 0, 0, 0, 0, 0, 0, 0, 0, 0, 0, 0, 0, 0, 0, 0, 0, 0, 0, 0, 0, 0, 0, 0, 0, 0, 0, 0, 0, 0, 0, 0, 0, 0, 0, 0, 0, 0, 0, 0, 0, 0, 0, 0, 0, 0, 0, 0, 0, 0, 0, 0, 0, 0, 0, 0, 0, 0, 0, 0, 0, 0, 0, 0, 0, 0, 0, 0, 0, 0, 0, 0, 0, 0, 0, 0, 0, 0, 0, 0, 0, 0, 0, 0, 0, 0, 0, 0, 0, 0, 0, 0, 0, 0, 0, 0, 0, 0, 0, 0, 0, 0, 0, 0, 0, 0, 0, 0, 0, 0, 0, 0, 0, 0, 0, 0, 0, 0, 0, 0, 0, 0, 0, 0, 0, 0, 0, 0, 0, 0, 0, 0, 0, 0, 0, 0, 0, 0, 0, 0, 0, 0, 0, 0, 0, 0, 0, 0, 0, 0, 0, 0, 0, 0, 0, 0, 0, 0, 0, 0, 0, 0, 0, 0, 0, 0, 0, 0, 0, 0, 0, 0, 0, 0, 0, 0, 0, 0, 0, 0, 0, 0, 0, 0, 0, 0, 0, 0, 0, 0, 0, 0, 0, 0, 0, 0, 0, 0, 0, 0, 0, 0, 0, 0, 0, 0, 0, 0, 0, 0, 0, 0, 0, 0, 0, 0, 0, 0, 0, 0, 0, 0, 0, 0, 0, 0, 0, 0, 0, 0, 0, 0, 0, 0, 0, 0, 0, 0, 0, 0, 0, 0, 0, 0, 0, 0, 0, 0, 0, 0, 0, 0, 0, 0, 0, 0, 0, 0, 0, 0, 0, 0, 0, 0, 0, 0, 0, 0, 0, 0, 0, 0, 0, 0, 0, 0, 0, 0, 0, 0, 0, 0, 0, 0, 0, 0, 0, 0, 0, 0, 0, 0, 0, 0, 0, 0, 0, 0, 0, 0, 0, 0, 0, 0, 0, 0, 0, 900].getD k 0) Try.call25 (grow_fch G F Rd Rw hv u0 q ps asg bd A B C E hy hq F.length [(q : Int)] (u0 ||| 2 ^ q) 0 ?_ ?_ ?_ ?_ ?_) (.plain rfl) ⟨(.plain rfl), (.plain rfl), trivial⟩ ⟨rfl, rfl, rfl, rfl, rfl, rfl, rfl, rfl, rfl, rfl, trivial⟩ (by kernel_rfl)) rfl (.nil _))))))))) ?d26 ?_
  · exact ⟨by omega, by omega, shl_in (by omega)⟩
  · exact ⟨by omega, by rw [shl_one]; exact Int.natCast_nonneg _⟩
  · simp
  · simp
  · rw [last_one]; omega
  · exact or_lt hu0 (by omega)
  · exact ⟨[], [], by simp [linA], rfl⟩
  · kernel_rfl
  refine retH0 rfl ⟨rfl, rfl, rfl, rfl, (congrArg (fun q => some (Blk.box [SV.int (A q)])) (by rw [Nat.zero_add]; rfl)), (congrArg (fun q => some (Blk.box [SV.pv (.ints (B q))])) (by rw [Nat.zero_add]; rfl)), (congrArg (fun q => some (Blk.mq (C q))) (by rw [Nat.zero_add]; rfl)), (congrArg (fun q => some (Blk.mq (E q))) (by rw [Nat.zero_add]; rfl)), trivial⟩ ⟨.inr rfl, .inr rfl, .inr rfl, .inr rfl, .inr rfl, .inr rfl, .inr rfl, .inr rfl, trivial⟩ ?_
  rfl

end Go.Proofs.Ytnkhlgkcohpahaa

