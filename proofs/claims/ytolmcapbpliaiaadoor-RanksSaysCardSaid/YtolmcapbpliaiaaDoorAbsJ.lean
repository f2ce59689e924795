/- Strings: compared, their length, a byte of them. Conditions: each law names its own. -/
import Derived.Test.YtolmcapbpliaiaaDoorAbsI
namespace Go.Abs
set_option linter.unusedVariables false

section ops
variable {P : Program} {ev : Operand → SV → Prop} {H : Heap} {dst : Option Nat} {ty : TypeId} {pos : String} {after : Array Edge} {g : Option (Nat × Bool)}

theorem PV.Fit.str_len {s : ByteArray} (h : PV.Fit (.str s)) : s.size ≤ 281474976710656 := by cases h; assumption

theorem bytes_beq_dec (a b : ByteArray) : (a == b) = decide (a = b) := by
  rw [Bool.eq_iff_iff]; simp [MapKept.bytes_beq]

theorem bytes_list_beq (a b : ByteArray) : (a.toList == b.toList) = decide (a = b) := by
  rw [Bool.eq_iff_iff]
  simp only [beq_iff_eq, decide_eq_true_eq]
  refine ⟨fun h => ?_, fun h => by rw [h]⟩
  have h2 : a.data.toList = b.data.toList := by simpa [ByteArray.toList_eq] using h
  cases a; cases b
  simp only [ByteArray.mk.injEq]
  exact Array.toList_inj.1 h2
theorem run_eql_string {P : Program} (w : World) (t : TypeId) (a b : ByteArray) (h : P.underlying t = some .string) : (Go.binOp .eql t (.string a) (.string b)).run P w = .ok (.bool (decide (a = b))) w := by
  have := bytes_list_beq a b
  simp [Go.binOp, Op.equal, Op.equalIn, run_underlying h, Op.maxDepth, Op.stringOp, this]
theorem run_neq_string {P : Program} (w : World) (t : TypeId) (a b : ByteArray) (h : P.underlying t = some .string) : (Go.binOp .neq t (.string a) (.string b)).run P w = .ok (.bool (!decide (a = b))) w := by
  have := bytes_list_beq a b
  simp [Go.binOp, Op.equal, Op.equalIn, run_underlying h, Op.maxDepth, Op.stringOp, this]

theorem op_str_eql {t yt : TypeId} {x y : Operand} {a b : ByteArray} (ht : P.underlying t = some .string) (hx : ev x (.pv (.str a))) (hy : ev y (.pv (.str b))) :
    OpT P ⟨dst, .binOp .eql t x y yt, ty, pos, after, g⟩ ev H (.bool (decide (a = b))) H none :=
  OpT.value fun V ι w A hk hr => by
    have h1 := (hr x (by simp [Op.operands]) _ hx).pv_inv.str_inv
    have h2 := (hr y (by simp [Op.operands]) _ hy).pv_inv.str_inv
    exact ⟨.bool (decide (a = b)), by simp [execOp, h1, h2, eqGuard_at_string, run_eql_string w t a b ht], .pv _ _ (.bool _)⟩
theorem op_str_neq {t yt : TypeId} {x y : Operand} {a b : ByteArray} (ht : P.underlying t = some .string) (hx : ev x (.pv (.str a))) (hy : ev y (.pv (.str b))) :
    OpT P ⟨dst, .binOp .neq t x y yt, ty, pos, after, g⟩ ev H (.bool (!decide (a = b))) H none :=
  OpT.value fun V ι w A hk hr => by
    have h1 := (hr x (by simp [Op.operands]) _ hx).pv_inv.str_inv
    have h2 := (hr y (by simp [Op.operands]) _ hy).pv_inv.str_inv
    exact ⟨.bool (!decide (a = b)), by simp [execOp, h1, h2, eqGuard_at_string, run_neq_string w t a b ht], .pv _ _ (.bool _)⟩

theorem op_lenS {t : TypeId} {x : Operand} {s : ByteArray} (ht : P.underlying t = some .string) (hx : ev x (.pv (.str s))) :
    OpT P ⟨dst, .call ⟨.builtin .len, #[x], #[t]⟩, ty, pos, after, g⟩ ev H (.int (s.size : Nat)) H none :=
  OpT.value fun V ι w A hk hr => by
    have h0 := (hr x (by simp [Op.operands, Call.operands]) _ hx).pv_inv
    have h1 := h0.str_inv
    have h2 := h0.fit.str_len
    refine ⟨.int .i64 (s.size : Nat), ?_, .pv _ _ (.int _ _ (inK_i64.2 (by unfold InR; omega)))⟩
    simp [execOp, resolve, invoke, builtin, h1, Builtin.len_, run_underlying ht, goInt]

def byteAt (s : ByteArray) (n : Nat) : Int := ((s.data.toList.getD n 0).toNat : Nat)

theorem op_indexS {t : TypeId} {x i : Operand} {s : ByteArray} {k : IntKind} {n : Int} (ht : P.underlying t = some .string) (hx : ev x (.pv (.str s))) (hi : ev i (.pv (.int k n))) (h : 0 ≤ n ∧ n < (s.size : Nat)) :
    OpT P ⟨dst, .index t x i, ty, pos, after, g⟩ ev H (.pv (.int .u8 (byteAt s n.toNat))) H none :=
  OpT.value fun V ι w A hk hr => by
    have h1 := (hr x (by simp [Op.operands]) _ hx).pv_inv.str_inv
    have h2 := (hr i (by simp [Op.operands]) _ hi).pv_inv.int_inv
    have hlt : n.toNat < s.size := by omega
    have hget : s[n.toNat]? = some (s.data.toList.getD n.toNat 0) := by
      have hlt2 : n.toNat < s.data.toList.length := by simpa using hlt
      rw [getElem?_pos s n.toNat hlt, List.getD_eq_getElem?_getD, List.getElem?_eq_getElem hlt2]
      rfl
    have hb : byteAt s n.toNat < 256 := by
      unfold byteAt
      have := (s.data.toList.getD n.toNat 0).toNat_lt
      omega
    refine ⟨.int .u8 (byteAt s n.toNat), ?_, .pv _ _ (.int _ _ ?_)⟩
    · simp [execOp, h1, h2, Instr.index, run_underlying ht, asIntOf, h.1, hget, byteAt]
    · refine ⟨?_, ?_⟩
      · simp [IntKind.min, IntKind.signed, byteAt]
      · simp only [IntKind.max, IntKind.signed, IntKind.bits]; simp; omega
end ops
end Go.Abs
