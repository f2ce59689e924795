/- Rules of more operations on plain values: the greater of two numbers, bits of numbers that are not below 0, an int as a uint. Conditions: each law names its own. -/
import Derived.Test.YtolmcapbpliaiaaDoorAbsE
namespace Go.Abs
set_option linter.unusedVariables false

section ops
variable {P : Program} {ev : Operand → SV → Prop} {H : Heap} {dst : Option Nat} {ty : TypeId} {pos : String} {after : Array Edge} {g : Option (Nat × Bool)}

theorem op_max {t t' : TypeId} {x y : Operand} {m n : Int} (hx : ev x (.int m)) (hy : ev y (.int n)) :
    OpT P ⟨dst, .call ⟨.builtin .max, #[x, y], #[t, t']⟩, ty, pos, after, g⟩ ev H (.int (max m n)) H none :=
  OpT.value fun V ι w A hk hr => by
    have h1 := (hr x (by simp [Op.operands, Call.operands]) _ hx).pv_inv
    have h2 := (hr y (by simp [Op.operands, Call.operands]) _ hy).pv_inv
    have f1 := h1.int_in
    have f2 := h2.int_in
    refine ⟨.int .i64 (max m n), ?_, .pv _ _ (.int _ _ (by rcases Int.le_total m n with h | h <;> simp only [Int.max_eq_right, Int.max_eq_left, h] <;> assumption))⟩
    have e : (if n > m then n else m) = max m n := by split <;> omega
    simp [execOp, resolve, invoke, builtin, h1.int_inv, h2.int_inv, Builtin.max_, Builtin.max2, ← e]
theorem op_min {t t' : TypeId} {x y : Operand} {m n : Int} (hx : ev x (.int m)) (hy : ev y (.int n)) :
    OpT P ⟨dst, .call ⟨.builtin .min, #[x, y], #[t, t']⟩, ty, pos, after, g⟩ ev H (.int (min m n)) H none :=
  OpT.value fun V ι w A hk hr => by
    have h1 := (hr x (by simp [Op.operands, Call.operands]) _ hx).pv_inv
    have h2 := (hr y (by simp [Op.operands, Call.operands]) _ hy).pv_inv
    have f1 := h1.int_in
    have f2 := h2.int_in
    refine ⟨.int .i64 (min m n), ?_, .pv _ _ (.int _ _ (by rcases Int.le_total m n with h | h <;> simp only [Int.min_eq_right, Int.min_eq_left, h] <;> assumption))⟩
    have e : (if n < m then n else m) = min m n := by split <;> omega
    simp [execOp, resolve, invoke, builtin, h1.int_inv, h2.int_inv, Builtin.min_, Builtin.min2, ← e]

theorem ofInt_nat (a : Nat) (ha : a < 9223372036854775808) : (BitVec.ofInt 64 (a : Int)).toNat = a := by
  rw [BitVec.ofInt_natCast, BitVec.toNat_ofNat]; exact Nat.mod_eq_of_lt (by omega)
theorem bits_or_i64_nat (a b : Nat) (ha : a < 9223372036854775808) (hb : b < 9223372036854775808) : bits .or .i64 (a : Int) (b : Int) = ((a ||| b : Nat) : Int) := by
  have hx : a ||| b < 2 ^ 63 := Nat.or_lt_two_pow (by omega) (by omega)
  show IntKind.i64.wrap ((BitVec.ofInt 64 (a : Int) ||| BitVec.ofInt 64 (b : Int)).toNat : Int) = _
  rw [BitVec.toNat_or, ofInt_nat a ha, ofInt_nat b hb]
  exact IntWalk.i64_in _ (by omega)
theorem bits_xor_i64_nat (a b : Nat) (ha : a < 9223372036854775808) (hb : b < 9223372036854775808) : bits .xor .i64 (a : Int) (b : Int) = ((a ^^^ b : Nat) : Int) := by
  have hx : a ^^^ b < 2 ^ 63 := Nat.xor_lt_two_pow (by omega) (by omega)
  show IntKind.i64.wrap ((BitVec.ofInt 64 (a : Int) ^^^ BitVec.ofInt 64 (b : Int)).toNat : Int) = _
  rw [BitVec.toNat_xor, ofInt_nat a ha, ofInt_nat b hb]
  exact IntWalk.i64_in _ (by omega)
/-- What of a isn't in b. -/
def less (a b : Nat) : Nat := a ^^^ (a &&& b)
theorem less_testBit (a b k : Nat) : (less a b).testBit k = (a.testBit k && !b.testBit k) := by
  unfold less
  rw [Nat.testBit_xor, Nat.testBit_and]
  cases a.testBit k <;> cases b.testBit k <;> rfl
theorem less_le (a b : Nat) : less a b ≤ a := by
  refine Nat.le_of_testBit fun k h => ?_
  rw [less_testBit] at h
  simp at h
  exact h.1
theorem bits_andNot_i64_nat (a b : Nat) (ha : a < 9223372036854775808) (hb : b < 9223372036854775808) : bits .andNot .i64 (a : Int) (b : Int) = ((less a b : Nat) : Int) := by
  have hx : less a b ≤ a := less_le a b
  show IntKind.i64.wrap ((BitVec.ofInt 64 (a : Int) &&& ~~~ BitVec.ofInt 64 (b : Int)).toNat : Int) = _
  have e : (BitVec.ofInt 64 (a : Int) &&& ~~~ BitVec.ofInt 64 (b : Int)).toNat = less a b := by
    refine Nat.eq_of_testBit_eq fun k => ?_
    rw [less_testBit, BitVec.testBit_toNat, BitVec.getLsbD_and, BitVec.getLsbD_not, ← BitVec.testBit_toNat, ← BitVec.testBit_toNat, ofInt_nat a ha, ofInt_nat b hb]
    by_cases hk : k < 64
    · simp [hk]
    · have : a.testBit k = false := Nat.testBit_lt_two_pow (Nat.lt_of_lt_of_le (show a < 2 ^ 64 by omega) (Nat.pow_le_pow_right (by omega) (by omega)))
      simp [this]
  rw [e]
  exact IntWalk.i64_in _ (by omega)

variable {t yt : TypeId} {x y : Operand} {m n : Int}
theorem op_bits {op : BinOp} {r : Nat → Nat → Nat} (hb : ∀ a b : Nat, a < 9223372036854775808 → b < 9223372036854775808 → bits op .i64 (a : Int) (b : Int) = ((r a b : Nat) : Int)) (hle : ∀ a b : Nat, a < 9223372036854775808 → b < 9223372036854775808 → r a b < 9223372036854775808)
    (hrun : ∀ (w : World) (m n : Int), (binOp op t (.int .i64 m) (.int .i64 n)).run P w = .ok (.int .i64 (bits op .i64 m n)) w)
    (hx : ev x (.int m)) (hy : ev y (.int n)) (h : 0 ≤ m ∧ 0 ≤ n) : OpT P ⟨dst, .binOp op t x y yt, ty, pos, after, g⟩ ev H (.int (r m.toNat n.toNat : Nat)) H none :=
  OpT.value fun V ι w A hk hr => by
    have h1 := (hr x (by simp [Op.operands]) _ hx).pv_inv
    have h2 := (hr y (by simp [Op.operands]) _ hy).pv_inv
    have f1 := inK_i64.1 h1.int_in
    have f2 := inK_i64.1 h2.int_in
    unfold InR at f1 f2
    obtain ⟨a, rfl⟩ : ∃ a : Nat, m = a := ⟨m.toNat, by omega⟩
    obtain ⟨b, rfl⟩ : ∃ b : Nat, n = b := ⟨n.toNat, by omega⟩
    simp only [Int.toNat_natCast]
    have := hle a b (by omega) (by omega)
    refine ⟨.int .i64 (r a b : Nat), ?_, .pv _ _ (.int _ _ (inK_i64.2 (by unfold InR; omega)))⟩
    simp [execOp, h1.int_inv, h2.int_inv, eqGuard_at_int, hrun, hb a b (by omega) (by omega)]
theorem op_band (hx : ev x (.int m)) (hy : ev y (.int n)) (h : 0 ≤ m ∧ 0 ≤ n) : OpT P ⟨dst, .binOp .and t x y yt, ty, pos, after, g⟩ ev H (.int (m.toNat &&& n.toNat : Nat)) H none :=
  op_bits (r := fun a b => a &&& b) (fun a b => bits_and_i64_nat a b) (fun a b h1 h2 => Nat.lt_of_le_of_lt Nat.and_le_left h1) (fun w m n => by simp [binOp_and, intBits_and]) hx hy h
theorem op_bor (hx : ev x (.int m)) (hy : ev y (.int n)) (h : 0 ≤ m ∧ 0 ≤ n) : OpT P ⟨dst, .binOp .or t x y yt, ty, pos, after, g⟩ ev H (.int (m.toNat ||| n.toNat : Nat)) H none :=
  op_bits (r := fun a b => a ||| b) (fun a b => bits_or_i64_nat a b) (fun a b h1 h2 => Nat.or_lt_two_pow (n := 63) (by omega) (by omega)) (fun w m n => by simp [binOp_or, intBits_or]) hx hy h
theorem op_bxor (hx : ev x (.int m)) (hy : ev y (.int n)) (h : 0 ≤ m ∧ 0 ≤ n) : OpT P ⟨dst, .binOp .xor t x y yt, ty, pos, after, g⟩ ev H (.int (m.toNat ^^^ n.toNat : Nat)) H none :=
  op_bits (r := fun a b => a ^^^ b) (fun a b => bits_xor_i64_nat a b) (fun a b h1 h2 => Nat.xor_lt_two_pow (n := 63) (by omega) (by omega)) (fun w m n => by simp [binOp_xor, intBits_xor]) hx hy h
theorem op_bandNot (hx : ev x (.int m)) (hy : ev y (.int n)) (h : 0 ≤ m ∧ 0 ≤ n) : OpT P ⟨dst, .binOp .andNot t x y yt, ty, pos, after, g⟩ ev H (.int (less m.toNat n.toNat : Nat)) H none :=
  op_bits (r := less) (fun a b => bits_andNot_i64_nat a b) (fun a b h1 h2 => Nat.lt_of_le_of_lt (less_le a b) h1) (fun w m n => by simp [binOp_andNot, intBits_andNot]) hx hy h

/-- An int that is not below 0, as a uint. -/
theorem op_uint {s : TypeId} {m : Int} (ht : P.underlying s = some (.int .i64)) (ht' : P.underlying t = some (.int .u64)) (hx : ev x (.int m)) (h : 0 ≤ m) : OpT P ⟨dst, .convert s t x, ty, pos, after, g⟩ ev H (.pv (.int .u64 m)) H none :=
  OpT.value fun V ι w A hk hr => by
    have h1 := (hr x (by simp [Op.operands]) _ hx).pv_inv
    have f1 := inK_i64.1 h1.int_in
    unfold InR at f1
    have hw : IntKind.u64.wrap m = m := by simp [IntKind.wrap, IntKind.signed, IntKind.bits]; omega
    refine ⟨.int .u64 m, ?_, .pv _ _ (.int _ _ (by simp [InK, IntKind.min, IntKind.max, IntKind.signed, IntKind.bits]; omega))⟩
    simp [execOp, h1.int_inv, convert, run_underlying ht, run_underlying ht', Conv.intToInt, hw]
end ops
end Go.Abs
