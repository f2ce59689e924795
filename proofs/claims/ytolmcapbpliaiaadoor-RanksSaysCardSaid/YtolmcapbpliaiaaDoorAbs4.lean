/- What each operation does to plain values. Conditions: each law names its own. -/
import Derived.Test.YtolmcapbpliaiaaDoorAbs3
namespace Go.Abs
set_option linter.unusedVariables false

section inv
variable {ι : Nat → Value} {w : World} {F : Nat → Prop} {v : Value}
theorem Rep.int_inv {k : IntKind} {n : Int} (h : Rep w F v (.int k n)) : v = .int k n := by cases h; rfl
theorem Rep.int_in {k : IntKind} {n : Int} (h : Rep w F v (.int k n)) : InK k n := by cases h; assumption
theorem Rep.str_inv {b : ByteArray} (h : Rep w F v (.str b)) : v = .string b := by cases h; rfl
theorem Rep.agg_inv {cs : List PV} (h : Rep w F v (.agg cs)) : ∃ xs : List Value, v = .agg xs.toArray ∧ RepL w F xs cs := by cases h; exact ⟨_, rfl, by assumption, by assumption⟩
theorem Rep.tup_inv {cs : List PV} (h : Rep w F v (.tup cs)) : ∃ xs : List Value, v = .tuple xs.toArray ∧ RepL w F xs cs := by cases h; exact ⟨_, rfl, by assumption, by assumption⟩
theorem Rep.nil_inv (h : Rep w F v .nil) : v = .slice none 0 0 := by cases h; rfl
theorem Rep.cap0_inv (h : Rep w F v .cap0) : ∃ a, v = .slice a 0 0 := by cases h; exact ⟨_, rfl⟩
theorem Rep.seq_inv {α : Type} {d : α} {f : α → List PV} {l : List α} (h : Rep w F v (.seq α d f l)) : ∃ a cap, v = .slice a l.length cap ∧ l.length ≤ cap ∧ l.length ≤ 281474976710656 ∧
    (l = [] ∨ ∃ (b off : Nat) (xs : List Value), a = some ⟨b, off, none⟩ ∧ F b ∧ (∀ (k : Nat) (h1 : k < xs.length), w.cell? ⟨b, off + k, none⟩ = some xs[k]) ∧ RepL w F xs (l.flatMap f)) := by
  cases h with
  | seq0 _ _ _ a cap _ => exact ⟨a, cap, rfl, Nat.zero_le _, Nat.zero_le _, .inl rfl⟩
  | seq _ _ _ _ b off cap xs hF hcap hm hl hc hr => exact ⟨_, cap, rfl, hcap, hm, .inr ⟨b, off, xs, rfl, hF, hc, hl, hr⟩⟩
theorem RepS.own_inv {id : Nat} (h : RepS ι w F v (.own id)) : v = ι id := by cases h; rfl
theorem RepS.elt_inv {id z i j : Nat} (h : RepS ι w F v (.elt id z i j)) : ∃ b n c, ι id = .slice (some ⟨b, 0, none⟩) n c ∧ v = .pointer (some ⟨b, i * z + j, none⟩) := by
  cases h with | elt _ _ _ _ b n c h => exact ⟨b, n, c, h, rfl⟩
end inv

theorem flatMap_elem {α : Type} {f : α → List PV} {z : Nat} (hz : ∀ x, (f x).length = z) : ∀ (l : List α) (i : Nat) (hi : i < l.length), ((l.flatMap f).drop (i * z)).take z = f l[i]
  | [], i, hi => absurd hi (by simp)
  | x :: l, 0, _ => by
    simp only [List.flatMap_cons, Nat.zero_mul, List.drop_zero, List.getElem_cons_zero]
    rw [List.take_append_of_le_length (by rw [hz]; exact Nat.le_refl z), List.take_of_length_le (by rw [hz]; exact Nat.le_refl z)]
  | x :: l, i + 1, hi => by
    simp only [List.flatMap_cons, List.getElem_cons_succ]
    rw [show (i + 1) * z = (f x).length + i * z by rw [hz, Nat.add_mul, Nat.one_mul, Nat.add_comm], List.drop_append]
    simp only [Nat.add_sub_cancel_left]
    rw [List.drop_eq_nil_of_le (by omega), List.nil_append]
    exact flatMap_elem hz l i (by simpa using hi)

theorem flatMap_length {α : Type} {f : α → List PV} {z : Nat} (hz : ∀ x, (f x).length = z) : ∀ (l : List α), (l.flatMap f).length = l.length * z
  | [] => by simp
  | x :: l => by simp [flatMap_length hz l, hz, Nat.add_mul, Nat.add_comm]

theorem RepL.elem {α : Type} {f : α → List PV} {z : Nat} {w : World} {F : Nat → Prop} {l : List α} {xs : List Value} (hz : ∀ x, (f x).length = z) (h : RepL w F xs (l.flatMap f)) {i : Nat} (hi : i < l.length) :
    RepL w F ((xs.drop (i * z)).take z) (f l[i]) := by
  rw [← flatMap_elem hz l i hi]
  exact (h.drop _).take _

theorem div_in {lo hi : Int} (hlo : lo ≤ 0) (hhi : 0 ≤ hi) {m d : Int} (h : lo ≤ m ∧ m ≤ hi) (hd : 1 ≤ d) : lo ≤ m / d ∧ m / d ≤ hi := by
  by_cases hm : 0 ≤ m
  · have h1 : 0 ≤ m / d := Int.ediv_nonneg hm (by omega)
    have h2 : m / d ≤ m := Int.ediv_le_self d hm
    omega
  · have h1 : m / d < 0 := Int.ediv_neg_of_neg_of_pos (by omega) (by omega)
    have h2 : m ≤ m / d := by
      refine Int.le_ediv_of_mul_le (by omega) ?_
      have := Int.mul_le_mul_of_nonneg_left hd (show 0 ≤ -m by omega)
      rw [Int.mul_one, Int.neg_mul] at this
      omega
    omega
theorem two_pow_pos (n : Nat) : (1 : Int) ≤ 2 ^ n := by
  have := Int.pow_pos (n := 2) (m := n) (by omega)
  omega

section ops
variable {P : Program} {ev : Operand → SV → Prop} {H : Heap} {dst : Option Nat} {ty : TypeId} {pos : String} {after : Array Edge} {g : Option (Nat × Bool)}

/-- An operation that reads its operands alone, and yields what stands for v. -/
theorem OpT.value {o : Oper} {v : SV}
    (h : ∀ (V : Nat → Prop) (ι : Nat → Value) (w : World) (a : Act), HeapOk V ι H w → (∀ x, x ∈ o.op.operands → ∀ s, ev x s → RepS ι w (Free V ι H w) (a.eval x) s) →
      ∃ rv, (execOp a.eval o).run P w = .ok (.value rv) w ∧ RepS ι w (Free V ι H w) rv v) : OpT P o ev H v H none := by
  intro V ι w a Q hV hk hr
  obtain ⟨rv, h1, h2⟩ := h V ι w a hk hr
  unfold Oper.wp
  rw [h1]
  exact ⟨ι, rv, rfl, Step.refl hk, h2⟩

theorem op_move {x : Operand} {s : SV} (hx : ev x s) : OpT P ⟨dst, .move x, ty, pos, after, g⟩ ev H s H none :=
  OpT.value fun V ι w a hk hr => ⟨a.eval x, by simp [execOp], hr x (by simp [Op.operands]) s hx⟩

theorem op_assign {x : Operand} {s : SV} (hx : ev x s) : OpT P ⟨dst, .assign x, ty, pos, after, g⟩ ev H s H none :=
  OpT.value fun V ι w a hk hr => ⟨a.eval x, by simp [execOp], hr x (by simp [Op.operands]) s hx⟩

/-- 'c || x': the right side where the left one says no. -/
theorem op_or {c a b : Operand} {p q g2 : Bool} (hc : ev c (.bool p)) (ha : ev a (.bool true)) (hb : ev b (.opt g2 (.bool q))) (hg : p = false → g2 = true) :
    OpT P ⟨dst, .pick c a b, ty, pos, after, g⟩ ev H (.bool (p || q)) H none :=
  OpT.value fun V ι w A hk hr => by
    have h1 := (hr c (by simp [Op.operands]) _ hc).pv_inv.bool_inv
    have h2 := (hr a (by simp [Op.operands]) _ ha).pv_inv.bool_inv
    have h3 := hr b (by simp [Op.operands]) _ hb
    cases p with
    | true => exact ⟨.bool true, by simp [execOp, h1, h2, asBool], .pv _ _ (.bool _)⟩
    | false =>
      have h4 := (h3.opt_inv.1 (hg rfl)).pv_inv.bool_inv
      exact ⟨.bool q, by simp [execOp, h1, h4, asBool], .pv _ _ (.bool _)⟩

/-- 'c && x': the right side where the left one says yes. -/
theorem op_and {c a b : Operand} {p q g2 : Bool} (hc : ev c (.bool p)) (ha : ev a (.opt g2 (.bool q))) (hb : ev b (.bool false)) (hg : p = true → g2 = true) :
    OpT P ⟨dst, .pick c a b, ty, pos, after, g⟩ ev H (.bool (p && q)) H none :=
  OpT.value fun V ι w A hk hr => by
    have h1 := (hr c (by simp [Op.operands]) _ hc).pv_inv.bool_inv
    have h2 := hr a (by simp [Op.operands]) _ ha
    have h3 := (hr b (by simp [Op.operands]) _ hb).pv_inv.bool_inv
    cases p with
    | true =>
      have h4 := (h2.opt_inv.1 (hg rfl)).pv_inv.bool_inv
      exact ⟨.bool q, by simp [execOp, h1, h4, asBool], .pv _ _ (.bool _)⟩
    | false => exact ⟨.bool false, by simp [execOp, h1, h3, asBool], .pv _ _ (.bool _)⟩

/-- 'pick c true false'. -/
theorem op_tf {c a b : Operand} {p : Bool} (hc : ev c (.bool p)) (ha : ev a (.bool true)) (hb : ev b (.bool false)) : OpT P ⟨dst, .pick c a b, ty, pos, after, g⟩ ev H (.bool p) H none :=
  OpT.value fun V ι w A hk hr => by
    have h1 := (hr c (by simp [Op.operands]) _ hc).pv_inv.bool_inv
    have h2 := (hr a (by simp [Op.operands]) _ ha).pv_inv.bool_inv
    have h3 := (hr b (by simp [Op.operands]) _ hb).pv_inv.bool_inv
    cases p with
    | true => exact ⟨.bool true, by simp [execOp, h1, h2, asBool], .pv _ _ (.bool _)⟩
    | false => exact ⟨.bool false, by simp [execOp, h1, h3, asBool], .pv _ _ (.bool _)⟩

theorem op_or0 {c a b : Operand} {p q : Bool} (hc : ev c (.bool p)) (ha : ev a (.bool true)) (hb : ev b (.bool q)) : OpT P ⟨dst, .pick c a b, ty, pos, after, g⟩ ev H (.bool (p || q)) H none :=
  OpT.value fun V ι w A hk hr => by
    have h1 := (hr c (by simp [Op.operands]) _ hc).pv_inv.bool_inv
    have h2 := (hr a (by simp [Op.operands]) _ ha).pv_inv.bool_inv
    have h3 := (hr b (by simp [Op.operands]) _ hb).pv_inv.bool_inv
    cases p with
    | true => exact ⟨.bool true, by simp [execOp, h1, h2, asBool], .pv _ _ (.bool _)⟩
    | false => exact ⟨.bool q, by simp [execOp, h1, h3, asBool], .pv _ _ (.bool _)⟩

theorem op_and0 {c a b : Operand} {p q : Bool} (hc : ev c (.bool p)) (ha : ev a (.bool q)) (hb : ev b (.bool false)) : OpT P ⟨dst, .pick c a b, ty, pos, after, g⟩ ev H (.bool (p && q)) H none :=
  OpT.value fun V ι w A hk hr => by
    have h1 := (hr c (by simp [Op.operands]) _ hc).pv_inv.bool_inv
    have h2 := (hr a (by simp [Op.operands]) _ ha).pv_inv.bool_inv
    have h3 := (hr b (by simp [Op.operands]) _ hb).pv_inv.bool_inv
    cases p with
    | true => exact ⟨.bool q, by simp [execOp, h1, h2, asBool], .pv _ _ (.bool _)⟩
    | false => exact ⟨.bool false, by simp [execOp, h1, h3, asBool], .pv _ _ (.bool _)⟩

/-! ### Numbers -/

theorem op_bin {op : BinOp} {t yt : TypeId} {x y : Operand} {kx ky : IntKind} {m n : Int} {v : PV} {rv : Value} (hx : ev x (.pv (.int kx m))) (hy : ev y (.pv (.int ky n)))
    (hrun : ∀ w, (binOp op t (.int kx m) (.int ky n)).run P w = .ok rv w) (hv : InK kx m → InK ky n → ∀ w F, Rep w F rv v) : OpT P ⟨dst, .binOp op t x y yt, ty, pos, after, g⟩ ev H (.pv v) H none :=
  OpT.value fun V ι w A hk hr => by
    have h1 := (hr x (by simp [Op.operands]) _ hx).pv_inv.int_inv
    have h2 := (hr y (by simp [Op.operands]) _ hy).pv_inv.int_inv
    exact ⟨rv, by simp [execOp, h1, h2, eqGuard_at_int, hrun], .pv _ _ (hv (hr x (by simp [Op.operands]) _ hx).pv_inv.int_in (hr y (by simp [Op.operands]) _ hy).pv_inv.int_in w _)⟩

section nums
variable {t yt : TypeId} {x y : Operand} {m n : Int}
theorem op_add (hx : ev x (.int m)) (hy : ev y (.int n)) (h : InR (m + n)) : OpT P ⟨dst, .binOp .add t x y yt, ty, pos, after, g⟩ ev H (.int (m + n)) H none :=
  op_bin hx hy (rv := .int .i64 (m + n)) (fun w => by simp [binOp_add, Op.intArith, IntWalk.i64_in _ h]) fun _ _ _ _ => .int _ _ (inK_i64.2 h)
theorem op_sub (hx : ev x (.int m)) (hy : ev y (.int n)) (h : InR (m - n)) : OpT P ⟨dst, .binOp .sub t x y yt, ty, pos, after, g⟩ ev H (.int (m - n)) H none :=
  op_bin hx hy (rv := .int .i64 (m - n)) (fun w => by simp [binOp_sub, Op.intArith, IntWalk.i64_in _ h]) fun _ _ _ _ => .int _ _ (inK_i64.2 h)
theorem op_mul (hx : ev x (.int m)) (hy : ev y (.int n)) (h : InR (m * n)) : OpT P ⟨dst, .binOp .mul t x y yt, ty, pos, after, g⟩ ev H (.int (m * n)) H none :=
  op_bin hx hy (rv := .int .i64 (m * n)) (fun w => by simp [binOp_mul, Op.intArith, IntWalk.i64_in _ h]) fun _ _ _ _ => .int _ _ (inK_i64.2 h)
theorem op_quo (hx : ev x (.int m)) (hy : ev y (.int n)) (h : 0 ≤ m ∧ m ≤ 9223372036854775807 ∧ 1 ≤ n) : OpT P ⟨dst, .binOp .quo t x y yt, ty, pos, after, g⟩ ev H (.int (m / n)) H none :=
  op_bin hx hy (rv := .int .i64 (m / n)) (fun w => by simp [binOp_quo, Op.intDiv, IntWalk.i64_quo _ _ h, show ¬ n = 0 by omega]) fun a b _ _ => .int _ _ (inK_i64.2 (by have := IntWalk.tdiv_le m n h.1 h.2.2; unfold InR; omega))
theorem op_rem (hx : ev x (.int m)) (hy : ev y (.int n)) (h : 0 ≤ m ∧ 1 ≤ n) : OpT P ⟨dst, .binOp .rem t x y yt, ty, pos, after, g⟩ ev H (.int (m % n)) H none :=
  op_bin hx hy (rv := .int .i64 (m % n)) (fun w => by simp [binOp_rem, Op.intDiv, IntWalk.rem_in _ _ h.1, show ¬ n = 0 by omega]) fun a b _ _ => .int _ _ (inK_i64.2 (by have := inK_i64.1 b; have := Int.emod_nonneg m (show n ≠ 0 by omega); have := Int.emod_lt_of_pos m (show 0 < n by omega); unfold InR at *; omega))
theorem op_eql {k : IntKind} (hx : ev x (.pv (.int k m))) (hy : ev y (.pv (.int k n))) : OpT P ⟨dst, .binOp .eql t x y yt, ty, pos, after, g⟩ ev H (.bool (decide (m = n))) H none :=
  op_bin hx hy (rv := .bool (m == n)) (fun w => by simp [binOp_eql]) fun _ _ _ _ => (by rw [show (m == n) = decide (m = n) by rw [Bool.eq_iff_iff]; simp]; exact .bool _)
theorem op_neq {k : IntKind} (hx : ev x (.pv (.int k m))) (hy : ev y (.pv (.int k n))) : OpT P ⟨dst, .binOp .neq t x y yt, ty, pos, after, g⟩ ev H (.bool (!decide (m = n))) H none :=
  op_bin hx hy (rv := .bool (m != n)) (fun w => by simp [binOp_neq]) fun _ _ _ _ => (by rw [show (m != n) = !decide (m = n) by rw [Bool.eq_iff_iff]; simp]; exact .bool _)
theorem op_lss {k : IntKind} (hx : ev x (.pv (.int k m))) (hy : ev y (.pv (.int k n))) : OpT P ⟨dst, .binOp .lss t x y yt, ty, pos, after, g⟩ ev H (.bool (decide (m < n))) H none :=
  op_bin hx hy (rv := .bool (m < n)) (fun w => by simp [binOp_lss]) fun _ _ _ _ => .bool _
theorem op_leq {k : IntKind} (hx : ev x (.pv (.int k m))) (hy : ev y (.pv (.int k n))) : OpT P ⟨dst, .binOp .leq t x y yt, ty, pos, after, g⟩ ev H (.bool (decide (m ≤ n))) H none :=
  op_bin hx hy (rv := .bool (m ≤ n)) (fun w => by simp [binOp_leq]) fun _ _ _ _ => .bool _
theorem op_gtr {k : IntKind} (hx : ev x (.pv (.int k m))) (hy : ev y (.pv (.int k n))) : OpT P ⟨dst, .binOp .gtr t x y yt, ty, pos, after, g⟩ ev H (.bool (decide (n < m))) H none :=
  op_bin hx hy (rv := .bool (n < m)) (fun w => by simp [binOp_gtr]) fun _ _ _ _ => .bool _
theorem op_geq {k : IntKind} (hx : ev x (.pv (.int k m))) (hy : ev y (.pv (.int k n))) : OpT P ⟨dst, .binOp .geq t x y yt, ty, pos, after, g⟩ ev H (.bool (decide (n ≤ m))) H none :=
  op_bin hx hy (rv := .bool (n ≤ m)) (fun w => by simp [binOp_geq]) fun _ _ _ _ => .bool _
/-- '1 << n' and its like. -/
theorem op_shl {ky : IntKind} (hx : ev x (.int m)) (hy : ev y (.pv (.int ky n))) (h : 0 ≤ n ∧ n ≤ 64 ∧ InR (m * 2 ^ n.toNat)) :
    OpT P ⟨dst, .binOp .shl t x y yt, ty, pos, after, g⟩ ev H (.int (m * 2 ^ n.toNat)) H none :=
  op_bin hx hy (rv := .int .i64 (m * 2 ^ n.toNat)) (fun w => by simp [binOp_shl, IntWalk.i64_in _ h.2.2]) fun _ _ _ _ => .int _ _ (inK_i64.2 h.2.2)
theorem op_shr {ky : IntKind} (hx : ev x (.int m)) (hy : ev y (.pv (.int ky n))) (h : 0 ≤ n ∧ n ≤ 64) :
    OpT P ⟨dst, .binOp .shr t x y yt, ty, pos, after, g⟩ ev H (.int (m / 2 ^ n.toNat)) H none :=
  op_bin hx hy (rv := .int .i64 (m / 2 ^ n.toNat)) (fun w => by simp [binOp_shr]) fun a b _ _ => .int _ _ (inK_i64.2 (div_in (by omega) (by omega) (inK_i64.1 a) (two_pow_pos _)))
end nums

theorem op_not {t : TypeId} {x : Operand} {b : Bool} (hx : ev x (.bool b)) : OpT P ⟨dst, .unOp .not t x, ty, pos, after, g⟩ ev H (.bool (!b)) H none :=
  OpT.value fun V ι w A hk hr => by
    have h1 := (hr x (by simp [Op.operands]) _ hx).pv_inv.bool_inv
    exact ⟨.bool (!b), by simp [execOp, h1, Op.unary], .pv _ _ (.bool _)⟩

theorem op_neg {t : TypeId} {x : Operand} {n : Int} (hx : ev x (.int n)) (h : InR (-n)) : OpT P ⟨dst, .unOp .neg t x, ty, pos, after, g⟩ ev H (.int (-n)) H none :=
  OpT.value fun V ι w A hk hr => by
    have h1 := (hr x (by simp [Op.operands]) _ hx).pv_inv.int_inv
    exact ⟨.int .i64 (-n), by simp [execOp, h1, Op.unary, Op.intArith, IntWalk.i64_in _ h], .pv _ _ (.int _ _ (inK_i64.2 h))⟩

/-- '==' on two bools. -/
theorem op_eqb {t yt : TypeId} {x y : Operand} {m n : Bool} (ht : P.underlying t = some .bool) (hx : ev x (.bool m)) (hy : ev y (.bool n)) : OpT P ⟨dst, .binOp .eql t x y yt, ty, pos, after, g⟩ ev H (.bool (m == n)) H none :=
  OpT.value fun V ι w A hk hr => by
    have h1 := (hr x (by simp [Op.operands]) _ hx).pv_inv.bool_inv
    have h2 := (hr y (by simp [Op.operands]) _ hy).pv_inv.bool_inv
    refine ⟨.bool (m == n), ?_, .pv _ _ (.bool _)⟩
    simp [execOp, h1, h2, eqGuard_at_bool, run_eql_bool w t m n ht]

theorem op_neb {t yt : TypeId} {x y : Operand} {m n : Bool} (ht : P.underlying t = some .bool) (hx : ev x (.bool m)) (hy : ev y (.bool n)) : OpT P ⟨dst, .binOp .neq t x y yt, ty, pos, after, g⟩ ev H (.bool (!(m == n))) H none :=
  OpT.value fun V ι w A hk hr => by
    have h1 := (hr x (by simp [Op.operands]) _ hx).pv_inv.bool_inv
    have h2 := (hr y (by simp [Op.operands]) _ hy).pv_inv.bool_inv
    refine ⟨.bool (!(m == n)), ?_, .pv _ _ (.bool _)⟩
    simp [execOp, h1, h2, eqGuard_at_bool, run_neq_bool w t m n ht]

/-! ### Slices, pointers, structs that nobody writes -/

theorem op_len {s t e : TypeId} {x : Operand} {α : Type} {d : α} {f : α → List PV} {l : List α} (ht : P.underlying t = some (.slice e)) (hx : ev x (.pv (.seq α d f l))) :
    OpT P ⟨dst, .call ⟨.builtin .len, #[x], #[t]⟩, ty, pos, after, g⟩ ev H (.int (l.length : Nat)) H none :=
  OpT.value fun V ι w A hk hr => by
    obtain ⟨a, cap, h1, _, hm, _⟩ := (hr x (by simp [Op.operands, Call.operands]) _ hx).pv_inv.seq_inv
    refine ⟨.int .i64 (l.length : Nat), ?_, .pv _ _ (.int _ _ (inK_i64.2 (by unfold InR; omega)))⟩
    simp [execOp, resolve, invoke, builtin, h1, Builtin.len_, run_underlying ht, goInt]

theorem op_len_nil {t e : TypeId} {x : Operand} (ht : P.underlying t = some (.slice e)) (hx : ev x (.pv .nil)) :
    OpT P ⟨dst, .call ⟨.builtin .len, #[x], #[t]⟩, ty, pos, after, g⟩ ev H (.int 0) H none :=
  OpT.value fun V ι w A hk hr => by
    have h1 := (hr x (by simp [Op.operands, Call.operands]) _ hx).pv_inv.nil_inv
    refine ⟨.int .i64 0, ?_, .pv _ _ (.int _ _ (inK_i64.2 (by unfold InR; omega)))⟩
    simp [execOp, resolve, invoke, builtin, h1, Builtin.len_, run_underlying ht, goInt]

theorem op_indexAddr {t e : TypeId} {z : Nat} {x i : Operand} {α : Type} {d : α} {f : α → List PV} {l : List α} {k : IntKind} {n : Int} (ht : P.underlying t = some (.slice e)) (hsz : ∀ w, (sizeOf e).run P w = .ok z w)
    (hx : ev x (.pv (.seq α d f l))) (hi : ev i (.pv (.int k n))) (hz : ∀ a, (f a).length = z) (h : 0 ≤ n ∧ n < (l.length : Nat)) :
    OpT P ⟨dst, .indexAddr t x i, ty, pos, after, g⟩ ev H (.pv (.rd (f (l.getD n.toNat d)))) H none :=
  OpT.value fun V ι w A hk hr => by
    obtain ⟨a, cap, h1, hc, _, h3⟩ := (hr x (by simp [Op.operands]) _ hx).pv_inv.seq_inv
    have h2 := (hr i (by simp [Op.operands]) _ hi).pv_inv.int_inv
    have hlt : n.toNat < l.length := by omega
    rcases h3 with rfl | ⟨b, off, xs, rfl, hF, hcell, hrep⟩
    · simp at hlt
    have hel := hrep.elem hz hlt
    rw [List.getD_eq_getElem?_getD, List.getElem?_eq_getElem hlt, Option.getD_some]
    refine ⟨.pointer (some ⟨b, off + n.toNat * z, none⟩), ?_, .pv _ _ (.rd _ b _ _ hF hel.1 ?_ hel.2)⟩
    · simp [execOp, h1, h2, Instr.indexAt, asIntOf, run_underlying ht, hsz, h.1, h.2, Addr.add_lit]
    · intro j hj
      have hj' : n.toNat * z + j < xs.length := by simp at hj; omega
      rw [Nat.add_assoc, hcell _ hj']
      simp

theorem op_indexAddrN {t e : TypeId} {z : Nat} {x i : Operand} {α : Type} {d : α} {f : α → List PV} {l : List α} {k : IntKind} {n : Nat} (ht : P.underlying t = some (.slice e)) (hsz : ∀ w, (sizeOf e).run P w = .ok z w)
    (hx : ev x (.pv (.seq α d f l))) (hi : ev i (.pv (.int k (n : Nat)))) (hz : ∀ a, (f a).length = z) (h : n < l.length) :
    OpT P ⟨dst, .indexAddr t x i, ty, pos, after, g⟩ ev H (.pv (.rd (f (l.getD n d)))) H none :=
  op_indexAddr (n := (n : Int)) ht hsz hx hi hz (by omega)

theorem op_load {t : TypeId} {x : Operand} {c : PV} {cs : List PV} (ht : ∀ w, (isAgg t).run P w = .ok false w) (hx : ev x (.pv (.rd (c :: cs)))) :
    OpT P ⟨dst, .load t x, ty, pos, after, g⟩ ev H (.pv c) H none :=
  OpT.value fun V ι w A hk hr => by
    obtain ⟨b, off, xs, h1, hF, hcell, hrep⟩ := (hr x (by simp [Op.operands]) _ hx).pv_inv.rd_inv
    obtain ⟨y, ys, rfl, h2, _⟩ := hrep.cons_inv
    have h3 := hcell 0 (by simp)
    refine ⟨y, ?_, .pv _ _ h2⟩
    simp at h3
    simp [execOp, h1, Instr.loadAt, Instr.sureAddr, loadVar, ht, h3]

theorem op_load_agg {t : TypeId} {z : Nat} {x : Operand} {cs : List PV} (ht : ∀ w, (isAgg t).run P w = .ok true w) (hsz : ∀ w, (sizeOf t).run P w = .ok z w) (hx : ev x (.pv (.rd cs))) (hz : z ≤ cs.length) :
    OpT P ⟨dst, .load t x, ty, pos, after, g⟩ ev H (.pv (.agg (cs.take z))) H none :=
  OpT.value fun V ι w A hk hr => by
    obtain ⟨b, off, xs, h1, hF, hcell, hrep⟩ := (hr x (by simp [Op.operands]) _ hx).pv_inv.rd_inv
    have hl : (xs.take z).length = z := by simp [hrep.1]; omega
    have h2 := run_loadVar_agg (P := P) (t := t) (w := w) (b := b) (xs := xs.take z) ht (by rw [hl]; exact hsz) off fun k hk => by
      rw [hcell k (by simp at hk; omega)]; simp
    refine ⟨_, ?_, .pv _ _ (.agg (xs.take z) (cs.take z) (hrep.take z).1 (hrep.take z).2)⟩
    simp [execOp, h1, Instr.loadAt, Instr.sureAddr, h2]

theorem op_fieldAddr {s : TypeId} {fs : Array Field} {i : Nat} {fl : Field} {off z : Nat} {x : Operand} {cs : List PV} (ht : P.underlying s = some (.struct fs)) (hf : fs[i]? = some fl) (hoff : fl.offset = off)
    (hsz : ∀ w, (sizeOf fl.type).run P w = .ok (z + 1) w) (hx : ev x (.pv (.rd cs))) : OpT P ⟨dst, .fieldAddr s x i, ty, pos, after, g⟩ ev H (.pv (.rd (cs.drop off))) H none :=
  OpT.value fun V ι w A hk hr => by
    subst hoff
    obtain ⟨b, o, xs, h1, hF, hcell, hrep⟩ := (hr x (by simp [Op.operands]) _ hx).pv_inv.rd_inv
    refine ⟨.pointer (some ⟨b, o + fl.offset, none⟩), ?_, .pv _ _ (.rd _ b _ (xs.drop fl.offset) hF (hrep.drop _).1 ?_ (hrep.drop _).2)⟩
    · simp [execOp, h1, Instr.fieldAt, Instr.sureAddr, run_underlying ht, hf, fieldPlace, hsz, Addr.add_lit]
    · intro k hk
      rw [Nat.add_assoc, hcell _ (by simp at hk; omega)]; simp

theorem part_run {t : TypeId} {cs : List Value} {off : Nat} {v : Value} (ht : ∀ w, (isAgg t).run P w = .ok false w) (hv : cs[off]? = some v) (w : World) : (part t cs.toArray off).run P w = .ok v w := by
  simp [part, ht, hv]

/-- A field of a struct value. -/
theorem op_field {s : TypeId} {fs : Array Field} {i : Nat} {fl : Field} {x : Operand} {cs : List PV} {c : PV} (ht : P.underlying s = some (.struct fs)) (hf : fs[i]? = some fl)
    (hag : ∀ w, (isAgg fl.type).run P w = .ok false w) (hx : ev x (.pv (.agg cs))) (hc : cs[fl.offset]? = some c) : OpT P ⟨dst, .field s x i, ty, pos, after, g⟩ ev H (.pv c) H none :=
  OpT.value fun V ι w A hk hr => by
    obtain ⟨xs, h1, hrep⟩ := (hr x (by simp [Op.operands]) _ hx).pv_inv.agg_inv
    obtain ⟨h2, h3⟩ := List.getElem?_eq_some_iff.1 hc
    have h4 : fl.offset < xs.length := by rw [hrep.1]; exact h2
    have h5 := hrep.2 fl.offset h4 h2
    rw [h3] at h5
    refine ⟨xs[fl.offset], ?_, .pv _ _ h5⟩
    simp [execOp, h1, Instr.field, run_underlying ht, hf, asAgg, part_run (P := P) hag (List.getElem?_eq_getElem h4)]

theorem op_extract {x : Operand} {cs : List PV} {i : Nat} {c : PV} (hx : ev x (.pv (.tup cs))) (hc : cs[i]? = some c) : OpT P ⟨dst, .extract x i, ty, pos, after, g⟩ ev H (.pv c) H none :=
  OpT.value fun V ι w A hk hr => by
    obtain ⟨xs, h1, hrep⟩ := (hr x (by simp [Op.operands]) _ hx).pv_inv.tup_inv
    obtain ⟨h2, h3⟩ := List.getElem?_eq_some_iff.1 hc
    have h4 : i < xs.length := by rw [hrep.1]; exact h2
    have h5 := hrep.2 i h4 h2
    rw [h3] at h5
    refine ⟨xs[i], ?_, .pv _ _ h5⟩
    simp [execOp, h1, Instr.extract, h4]

/-- A struct (or one cell) laid into memory, to be read alone. -/
theorem op_box {e : TypeId} {x : Operand} {p : PV} (hx : ev x (.pv p)) (hp : p ≠ .any) : OpT P ⟨dst, .box e x, ty, pos, after, g⟩ ev H (.pv (.rd p.cells)) H none := by
  intro V ι w a Q hV hk hr
  have h1 := (hr x (by simp [Op.operands]) _ hx).pv_inv
  have hst := Step.alloc (V := V) hk (.cells (a.eval x).cells e)
  have hcells : RepL w (Free V ι H w) (a.eval x).cells.toList p.cells := by
    generalize a.eval x = v at *
    cases h1 with
    | agg xs cs hl hr' => exact ⟨hl, hr'⟩
    | any => exact absurd rfl hp
    | err t u => exact .cons (.err t u) .nil
    | tup xs cs hl hr' => exact .cons (.tup xs cs hl hr') .nil
    | int k n h => exact .cons (.int k n h) .nil
    | bool b => exact .cons (.bool b) .nil
    | str s h => exact .cons (.str s h) .nil
    | seq0 α d f a' cap h0 => exact .cons (.seq0 α d f a' cap h0) .nil
    | seq α d f l b off cap xs hF hcap hm hl hc hr' => exact .cons (.seq α d f l b off cap xs hF hcap hm hl hc hr') .nil
    | nil => exact .cons .nil .nil
    | cap0 a' => exact .cons (.cap0 a') .nil
    | rd cs b off xs hF hl hc hr' => exact .cons (.rd cs b off xs hF hl hc hr') .nil
    | clo K xs cs hl hr' => exact .cons (.clo K xs cs hl hr') .nil
    | val v h =>
      have e : v.cells = #[v] := by cases v <;> first | rfl | (simp [Value.oneCell'] at h)
      rw [e]; exact .cons (.val v h) .nil
    | cell1 v h =>
      have e : v.cells = #[v] := by cases v <;> first | rfl | (simp [Value.oneCell'] at h)
      rw [e]; exact .cons (.cell1 v h) .nil
  have hcells' := hst.repL hcells
  unfold Oper.wp
  have hrun : (execOp a.eval ⟨dst, .box e x, ty, pos, after, g⟩).run P w = .ok (.value (.pointer (some ⟨w.heap.size, 0, none⟩))) (w.alloc (.cells (a.eval x).cells e)) := by
    simp [execOp, Instr.box, newVar, newRow]
  rw [hrun]
  refine ⟨ι, _, rfl, hst, .pv _ _ (.rd _ _ 0 (a.eval x).cells.toList ⟨by simp, hV _ (Nat.le_refl _), ?_⟩ hcells'.1 ?_ hcells'.2)⟩
  · intro ho
    exact absurd (hk.lt ho) (by omega)
  · intro k hk
    simp

/-! ### Calls -/

theorem op_call {K : FuncId} {ts : Array TypeId} {args : Array Operand} {vals : List PV} {v : PV} (hcall : ∀ vs w, (callFunc K vs).run P w = .ok (.enter K vs) w)
    (hargs : args.size = vals.length) (hev : ∀ (k : Nat) (h1 : k < args.size) (h2 : k < vals.length), ev args[k] (.pv vals[k])) (hf : FC P K vals v) :
    OpT P ⟨dst, .call ⟨.value (.func K), args, ts⟩, ty, pos, after, g⟩ ev H (.pv v) H none := by
  intro V ι w a Q hV hk hr
  have hrep : RepL w (Free V ι H w) (args.map a.eval).toList vals := by
    refine ⟨by simp [hargs], fun k h1 h2 => ?_⟩
    have h1' : k < args.size := by simpa using h1
    have := hr args[k] (by simp [Op.operands, Call.operands]) _ (hev k h1' h2)
    simpa using this.pv_inv
  have hc := hf w (args.map a.eval).toList (Free V ι H w) (fun b hb => hb.1) hrep
  unfold Oper.wp
  have hrun : (execOp a.eval ⟨dst, .call ⟨.value (.func K), args, ts⟩, ty, pos, after, g⟩).run P w = .ok (.enter K (args.map a.eval)) w := by
    simp [execOp, resolve, Deferred.ofValue, Act.eval, invoke, hcall]
  rw [hrun, Oper.upon_enter]
  rw [Array.toArray_toList] at hc
  refine Calls.mono hc ?_
  rintro e w' ⟨rv, rfl, hrv, hos, htape, hout, hsize, hall⟩
  have hst := Step.same (V := V) hk hos htape hout hsize hall
  refine ⟨ι, rv, rfl, hst, .pv _ _ (hrv.mono (fun _ _ => rfl) ?_)⟩
  rintro b (hb | ⟨h1, h2⟩)
  · exact hst.free hb
  · exact ⟨h2, hV b h1, fun ho => absurd (hk.lt ho) (by omega)⟩
end ops
end Go.Abs
