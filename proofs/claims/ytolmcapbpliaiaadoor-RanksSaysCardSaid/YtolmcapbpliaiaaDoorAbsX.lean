/- More of texts: a piece of a text; comparisons of known values. Conditions: each law names its own. -/
import Derived.Test.YtolmcapbpliaiaaDoorAbsW
import Derived.Laws.Strings2
namespace Go.Abs
set_option linter.unusedVariables false
section ops
variable {P : Program} {ev : Operand → SV → Prop} {H : Heap} {dst : Option Nat} {ty : TypeId} {pos : String} {after : Array Edge} {g : Option (Nat × Bool)}

/-- 'x[lo:hi]' of a text. -/
theorem op_sliceSB {t : TypeId} {x lo hi : Operand} {s : ByteArray} {k k' : IntKind} {m n : Int} (ht : P.underlying t = some .string) (hx : ev x (.pv (.str s))) (hl : ev lo (.pv (.int k m))) (hh : ev hi (.pv (.int k' n))) (h : 0 ≤ m ∧ m ≤ n ∧ n ≤ (s.size : Nat)) :
    OpT P ⟨dst, .slice t x (some lo) (some hi) none, ty, pos, after, g⟩ ev H (.pv (.str (s.extract m.toNat n.toNat))) H none :=
  OpT.value fun V ι w A hk hr => by
    have h0 := (hr x (by simp [Op.operands]) _ hx).pv_inv
    have h1 := h0.str_inv
    have h3 := h0.fit.str_len
    have h2 := (hr lo (by simp [Op.operands]) _ hl).pv_inv.int_inv
    have h4 := (hr hi (by simp [Op.operands]) _ hh).pv_inv.int_inv
    refine ⟨.string (s.extract m.toNat n.toNat), ?_, .pv _ _ (.str _ ?_)⟩
    · simp [execOp, h1, h2, h4, run_sliceAt_string, ht, run_slice_string w t s k k' m n ht h.1 h.2.1 h.2.2]
    · simp [ByteArray.size_extract]; omega
/-- A comparison whose run is known, of known values. -/
theorem op_binV {op : BinOp} {t yt : TypeId} {x y : Operand} {p q : PV} {u v rv : Value} {r : PV} (hx : ev x (.pv p)) (hy : ev y (.pv q)) (hp : ∀ (w : World) (F : Nat → Prop) (z : Value), Rep w F z p → z = u) (hq : ∀ (w : World) (F : Nat → Prop) (z : Value), Rep w F z q → z = v)
    (hgd : ∀ w, ∃ z, (eqGuard op t x y u v).run P w = .ok z w) (hrun : ∀ w, (binOp op t u v).run P w = .ok rv w) (hr : ∀ (w : World) (F : Nat → Prop), Rep w F rv r) : OpT P ⟨dst, .binOp op t x y yt, ty, pos, after, g⟩ ev H (.pv r) H none :=
  OpT.value fun V ι w A hk hrr => by
    have h1 := hp _ _ _ (hrr x (by simp [Op.operands]) _ hx).pv_inv
    have h2 := hq _ _ _ (hrr y (by simp [Op.operands]) _ hy).pv_inv
    obtain ⟨z, hz⟩ := hgd w
    exact ⟨rv, by simp [execOp, h1, h2, hrun, hz], .pv _ _ (hr _ _)⟩
end ops
end Go.Abs
