/- Rules of arrays of three compared; six results. Conditions: each law names its own. -/
import Derived.Test.YtolmcapbpliaiaaDoorAbsG
import Derived.ChangeKeysEq
namespace Go.Abs
set_option linter.unusedVariables false

theorem run_eq3 {P : Program} {t e : TypeId} {i : TypeInfo} (w : World) (hu : P.underlying t = some (.array 3 e)) (hi : P.info? e = some i) (hc : P.cellsOf e = 1) (ha : ∀ w, (isAgg e).run P w = .ok false w) {x0 x1 x2 y0 y1 y2 : Value} {b0 b1 b2 : Bool}
    (h0 : ∀ w, (Op.equalIn 9999 e x0 y0).run P w = .ok b0 w) (h1 : ∀ w, (Op.equalIn 9999 e x1 y1).run P w = .ok b1 w) (h2 : ∀ w, (Op.equalIn 9999 e x2 y2).run P w = .ok b2 w) :
    (Op.equal t (.agg #[x0, x1, x2]) (.agg #[y0, y1, y2])).run P w = .ok (b0 && b1 && b2) w := by
  have hp : ∀ (c : Array Value) (j : Nat) (v : Value) (w : World), c[j]? = some v → (part e c j).run P w = .ok v w := fun c j v w h => by simp [part, ha, h]
  unfold Op.equal
  rw [show Op.maxDepth = 9999 + 1 from rfl, run_equalIn_array w 9999 _ _ hu hi, hc]
  rw [show List.range 3 = [0, 1, 2] from rfl]
  simp only [Op.eqItems, Nat.mul_one, Sem.run_bind]
  rw [hp _ 0 x0 w rfl]
  simp only [Result.andThen_ok]
  rw [hp _ 0 y0 w rfl]
  simp only [Result.andThen_ok, h0]
  cases b0 with
  | false => simp
  | true =>
    simp only [Bool.not_true, Bool.false_eq_true, ↓reduceIte, Sem.run_bind]
    rw [hp _ 1 x1 w rfl]
    simp only [Result.andThen_ok]
    rw [hp _ 1 y1 w rfl]
    simp only [Result.andThen_ok, h1]
    cases b1 with
    | false => simp
    | true =>
      simp only [Bool.not_true, Bool.false_eq_true, ↓reduceIte, Sem.run_bind]
      rw [hp _ 2 x2 w rfl]
      simp only [Result.andThen_ok]
      rw [hp _ 2 y2 w rfl]
      simp only [Result.andThen_ok, h2]
      cases b2 <;> simp

theorem run_equalIn_b {P : Program} {e : TypeId} (he : P.underlying e = some .bool) (d : Nat) (a b : Bool) (w : World) : (Op.equalIn (d + 1) e (.bool a) (.bool b)).run P w = .ok (a == b) w := by
  simp [Op.equalIn, run_underlying he]
theorem run_equalIn_i {P : Program} {e : TypeId} (he : P.underlying e = some (.int .i64)) (d : Nat) (a b : Int) (w : World) : (Op.equalIn (d + 1) e (.int .i64 a) (.int .i64 b)).run P w = .ok (decide (a = b)) w := by
  simp [Op.equalIn, run_underlying he]
  rfl

section ops
variable {P : Program} {ev : Operand → SV → Prop} {H : Heap} {dst : Option Nat} {ty : TypeId} {pos : String} {after : Array Edge} {g : Option (Nat × Bool)}

theorem rep_agg3 {w : World} {F : Nat → Prop} {v : Value} {a b c : PV} (h : Rep w F v (.agg [a, b, c])) : ∃ x y z, v = .agg #[x, y, z] ∧ Rep w F x a ∧ Rep w F y b ∧ Rep w F z c := by
  cases h with
  | agg xs _ hl hr =>
    match xs, hl, hr with
    | [x, y, z], _, hr => exact ⟨x, y, z, rfl, hr 0 (by simp) (by simp), hr 1 (by simp) (by simp), hr 2 (by simp) (by simp)⟩

theorem op_eq3b {t yt e : TypeId} {i : TypeInfo} {x y : Operand} {a0 a1 a2 b0 b1 b2 : Bool} (hu : P.underlying t = some (.array 3 e)) (hi : P.info? e = some i) (hc : P.cellsOf e = 1) (ha : ∀ w, (isAgg e).run P w = .ok false w) (he : P.underlying e = some .bool) (hg : P.eqGuardType P.depth t = false)
    (hx : ev x (.pv (.agg [.bool a0, .bool a1, .bool a2]))) (hy : ev y (.pv (.agg [.bool b0, .bool b1, .bool b2]))) : OpT P ⟨dst, .binOp .eql t x y yt, ty, pos, after, g⟩ ev H (.bool ((a0 == b0) && (a1 == b1) && (a2 == b2))) H none :=
  OpT.value fun V ι w A hk hr => by
    obtain ⟨x0, x1, x2, ex, r0, r1, r2⟩ := rep_agg3 (hr x (by simp [Op.operands]) _ hx).pv_inv
    obtain ⟨y0, y1, y2, ey, s0, s1, s2⟩ := rep_agg3 (hr y (by simp [Op.operands]) _ hy).pv_inv
    refine ⟨.bool ((a0 == b0) && (a1 == b1) && (a2 == b2)), ?_, .pv _ _ (.bool _)⟩
    have hrun := run_eq3 w hu hi hc ha (run_equalIn_b he 9998 a0 b0) (run_equalIn_b he 9998 a1 b1) (run_equalIn_b he 9998 a2 b2)
    rw [r0.bool_inv, r1.bool_inv, r2.bool_inv] at ex
    rw [s0.bool_inv, s1.bool_inv, s2.bool_inv] at ey
    simp [execOp, ex, ey, eqGuard, hg, binOp, hrun]
theorem op_ne3i {t yt e : TypeId} {i : TypeInfo} {x y : Operand} {a0 a1 a2 b0 b1 b2 : Int} (hu : P.underlying t = some (.array 3 e)) (hi : P.info? e = some i) (hc : P.cellsOf e = 1) (ha : ∀ w, (isAgg e).run P w = .ok false w) (he : P.underlying e = some (.int .i64)) (hg : P.eqGuardType P.depth t = false)
    (hx : ev x (.pv (.agg [.i a0, .i a1, .i a2]))) (hy : ev y (.pv (.agg [.i b0, .i b1, .i b2]))) : OpT P ⟨dst, .binOp .neq t x y yt, ty, pos, after, g⟩ ev H (.bool (!(decide (a0 = b0) && decide (a1 = b1) && decide (a2 = b2)))) H none :=
  OpT.value fun V ι w A hk hr => by
    obtain ⟨x0, x1, x2, ex, r0, r1, r2⟩ := rep_agg3 (hr x (by simp [Op.operands]) _ hx).pv_inv
    obtain ⟨y0, y1, y2, ey, s0, s1, s2⟩ := rep_agg3 (hr y (by simp [Op.operands]) _ hy).pv_inv
    refine ⟨.bool (!(decide (a0 = b0) && decide (a1 = b1) && decide (a2 = b2))), ?_, .pv _ _ (.bool _)⟩
    have hrun := run_eq3 w hu hi hc ha (run_equalIn_i he 9998 a0 b0) (run_equalIn_i he 9998 a1 b1) (run_equalIn_i he 9998 a2 b2)
    rw [r0.int_inv, r1.int_inv, r2.int_inv] at ex
    rw [s0.int_inv, s1.int_inv, s2.int_inv] at ey
    simp [execOp, ex, ey, eqGuard, hg, binOp, hrun]
end ops

section rets
variable {P : Program} {fn : Func} {v : PV} {st : St}
theorem ret6 {t0 t1 t2 t3 t4 t5 : Nat} {s0 s1 s2 s3 s4 s5 : SV} {p0 p1 p2 p3 p4 p5 : PV} (hr : fn.results.toList = [.tmp t0, .tmp t1, .tmp t2, .tmp t3, .tmp t4, .tmp t5]) (h0 : lk st.env t0 = some s0) (h1 : lk st.env t1 = some s1) (h2 : lk st.env t2 = some s2) (h3 : lk st.env t3 = some s3) (h4 : lk st.env t4 = some s4) (h5 : lk st.env t5 = some s5)
    (g0 : viewS st.H s0 = some p0) (g1 : viewS st.H s1 = some p1) (g2 : viewS st.H s2 = some p2) (g3 : viewS st.H s3 = some p3) (g4 : viewS st.H s4 = some p4) (g5 : viewS st.H s5 = some p5) (hv : PV.tup [p0, p1, p2, p3, p4, p5] = v) : retQ P fn v .normal st :=
  ⟨st, [p0, p1, p2, p3, p4, p5], Ent.refl _, by rw [hr]; intro c t hm; simp at hm, by rw [hr]; simp only [resL, resV, h0, h1, h2, h3, h4, h5, g0, g1, g2, g3, g4, g5], hv⟩
end rets
end Go.Abs
