/- Strings put together, cut; numbers as bytes and back; one byte as a string. Conditions: each law names its own. -/
import Derived.Test.YtolmcapbpliaiaaDoorAbsP
import Derived.Laws.BytesString
namespace Go.Abs
set_option linter.unusedVariables false

section ops
variable {P : Program} {ev : Operand → SV → Prop} {H : Heap} {dst : Option Nat} {ty : TypeId} {pos : String} {after : Array Edge} {g : Option (Nat × Bool)}

theorem run_add_string {P : Program} (w : World) (t : TypeId) (a b : ByteArray) (h : a.size + b.size ≤ 281474976710656) : (Go.binOp .add t (.string a) (.string b)).run P w = .ok (.string (a ++ b)) w := by
  have h1 : ¬ ((a.size + b.size : Nat) : Int) > IntKind.i64.max := by simp [IntKind.max, IntKind.signed, IntKind.bits]; omega
  simp only [Go.binOp, Op.stringOp]
  rw [if_neg h1]
  rfl
theorem op_addS {t yt : TypeId} {x y : Operand} {a b : ByteArray} (hx : ev x (.pv (.str a))) (hy : ev y (.pv (.str b))) (h : a.size + b.size ≤ 281474976710656) :
    OpT P ⟨dst, .binOp .add t x y yt, ty, pos, after, g⟩ ev H (.pv (.str (a ++ b))) H none :=
  OpT.value fun V ι w A hk hr => by
    have h1 := (hr x (by simp [Op.operands]) _ hx).pv_inv.str_inv
    have h2 := (hr y (by simp [Op.operands]) _ hy).pv_inv.str_inv
    exact ⟨.string (a ++ b), by simp [execOp, h1, h2, eqGuard_at_string, run_add_string w t a b h], .pv _ _ (.str _ (by rw [ByteArray.size_append]; exact h))⟩

/-- A number as one of another kind that can hold it. -/
theorem op_conv {s t : TypeId} {x : Operand} {k k' : IntKind} {m : Int} (ht : P.underlying s = some (.int k)) (ht' : P.underlying t = some (.int k')) (hx : ev x (.pv (.int k m))) (h : InK k' m) (hw : k'.wrap m = m) : OpT P ⟨dst, .convert s t x, ty, pos, after, g⟩ ev H (.pv (.int k' m)) H none :=
  OpT.value fun V ι w A hk hr => by
    have h1 := (hr x (by simp [Op.operands]) _ hx).pv_inv
    exact ⟨.int k' m, by simp [execOp, h1.int_inv, convert, run_underlying ht, run_underlying ht', Conv.intToInt, hw], .pv _ _ (.int _ _ h)⟩
theorem op_conv8 {s t : TypeId} {x : Operand} {m : Int} (ht : P.underlying s = some (.int .i64)) (ht' : P.underlying t = some (.int .u8)) (hx : ev x (.pv (.int .i64 m))) (h : 0 ≤ m ∧ m < 256) : OpT P ⟨dst, .convert s t x, ty, pos, after, g⟩ ev H (.pv (.int .u8 m)) H none :=
  op_conv ht ht' hx (by simp [InK, IntKind.min, IntKind.max, IntKind.signed, IntKind.bits]; omega) (by simp [IntKind.wrap, IntKind.signed, IntKind.bits]; omega)
theorem op_convI {s t : TypeId} {x : Operand} {m : Int} (ht : P.underlying s = some (.int .u8)) (ht' : P.underlying t = some (.int .i64)) (hx : ev x (.pv (.int .u8 m))) (h : 0 ≤ m ∧ m < 256) : OpT P ⟨dst, .convert s t x, ty, pos, after, g⟩ ev H (.pv (.int .i64 m)) H none :=
  op_conv ht ht' hx (inK_i64.2 (by unfold InR; omega)) (IntWalk.i64_in _ (by omega))

/-- 'x[lo:]' of a string. -/
theorem op_sliceS {t : TypeId} {x lo : Operand} {s : ByteArray} {k : IntKind} {n : Int} (ht : P.underlying t = some .string) (hx : ev x (.pv (.str s))) (hi : ev lo (.pv (.int k n))) (h : 0 ≤ n ∧ n ≤ (s.size : Nat)) :
    OpT P ⟨dst, .slice t x (some lo) none none, ty, pos, after, g⟩ ev H (.pv (.str (s.extract n.toNat s.size))) H none :=
  OpT.value fun V ι w A hk hr => by
    have h0 := (hr x (by simp [Op.operands]) _ hx).pv_inv
    have h1 := h0.str_inv
    have h3 := h0.fit.str_len
    have h2 := (hr lo (by simp [Op.operands]) _ hi).pv_inv.int_inv
    refine ⟨.string (s.extract n.toNat s.size), ?_, .pv _ _ (.str _ ?_)⟩
    · simp [execOp, h1, h2, run_sliceAt_string, ht, run_slice_string_l w t s ht k n h.1 h.2]
    · simp [ByteArray.size_extract]; omega

def byteS (n : Int) : ByteArray := ⟨#[UInt8.ofNat n.toNat]⟩
/-- One byte as a string. -/
theorem op_byteStr {s t e : TypeId} {x : Operand} {m : Int} (ht : P.underlying s = some (.slice e)) (he : P.underlying e = some (.int .u8)) (hd : P.underlying t = some .string) (hx : ev x (.pv (.seq Int 0 (fun n => [.int .u8 n]) [m]))) :
    OpT P ⟨dst, .convert s t x, ty, pos, after, g⟩ ev H (.pv (.str (byteS m))) H none :=
  OpT.value fun V ι w A hk hr => by
    have h0 := (hr x (by simp [Op.operands]) _ hx).pv_inv
    obtain ⟨v, hv⟩ : ∃ v, A.eval x = v := ⟨_, rfl⟩
    rw [hv] at h0
    cases h0 with
    | seq _ _ _ _ b off cap xs hF hcap hm hl hc hrr =>
      have hx1 : xs = [.int .u8 m] := by
        match xs, hl with
        | [y], _ =>
          have := (hrr 0 (by simp) (by simp)).int_inv
          simpa using this
      subst hx1
      have hload : (loadCells ⟨b, off, none⟩ 1).run P w = .ok ([m].map (Value.int .u8)).toArray w := by
        have := run_loadCells_list (P := P) (w := w) ⟨b, off, none⟩ [.int .u8 m] fun j v hj => by
          have hj2 : j < 1 := by have := (List.getElem?_eq_some_iff.1 hj).1; simpa using this
          obtain rfl : j = 0 := by omega
          have := hc 0 (by simp)
          simp at hj
          rw [← hj, Addr.add_lit]
          exact this
        simpa using this
      refine ⟨.string (byteS m), ?_, .pv _ _ (.str _ (by show 1 ≤ _; omega))⟩
      have h3 := run_bytesToString (P := P) w ⟨b, off, none⟩ 1 cap [m] hload
      have h4 := run_convert_bytes_string (P := P) w s t e (some ⟨b, off, none⟩) 1 cap ht he hd
      rw [h3] at h4
      have h5 : ([m].length : Nat) = 1 := rfl
      rw [h5] at hv
      simp [execOp, hv, h4]
      rfl
end ops
end Go.Abs
