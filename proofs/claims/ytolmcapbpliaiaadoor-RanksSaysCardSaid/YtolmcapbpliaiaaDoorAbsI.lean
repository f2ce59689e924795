/- Maps of numbers to numbers; calls that write into one block which they are lent. Conditions: each law names its own. -/
import Derived.Test.YtolmcapbpliaiaaDoorAbsG
import Derived.ChangeKeysEq
import Derived.MapKept
namespace Go.Abs
set_option linter.unusedVariables false

theorem run_eq3 {P : Program} {t e : TypeId} {i : TypeInfo} (w : World) (hu : P.underlying t = some (.array 3 e)) (hi : P.info? e = some i) (hc : P.cellsOf e = 1) (ha : ∀ w, (isAgg e).run P w = .ok false w) {x0 x1 x2 y0 y1 y2 : Value} {b0 b1 b2 : Bool}
    (h0 : ∀ w, (Op.equalIn 9999 e x0 y0).run P w = .ok b0 w) (h1 : ∀ w, (Op.equalIn 9999 e x1 y1).run P w = .ok b1 w) (h2 : ∀ w, (Op.equalIn 9999 e x2 y2).run P w = .ok b2 w) :
    (Op.equal t (.agg #[x0, x1, x2]) (.agg #[y0, y1, y2])).run P w = .ok (b0 && b1 && b2) w := by
  have hp : ∀ (c : Array Value) (j : Nat) (v : Value) (w : World), c[j]? = some v → (part e c j).run P w = .ok v w := fun c j v w h => by simp [part, ha, h]
  unfold Op.equal
  rw [show Op.maxDepth = 9999 + 1 from rfl, run_equalIn_array w 9999 _ _ hu hi, hc]
  rw [show List.range 3 = [0, 1, 2] from rfl]
  simp only [Op.eqItems, Nat.mul_one, Sem.run_bind]
  rw [hp _ 0 x0 w rfl]
  simp only [Result.andThen_ok]
  rw [hp _ 0 y0 w rfl]
  simp only [Result.andThen_ok, h0]
  cases b0 with
  | false => simp
  | true =>
    simp only [Bool.not_true, Bool.false_eq_true, ↓reduceIte, Sem.run_bind]
    rw [hp _ 1 x1 w rfl]
    simp only [Result.andThen_ok]
    rw [hp _ 1 y1 w rfl]
    simp only [Result.andThen_ok, h1]
    cases b1 with
    | false => simp
    | true =>
      simp only [Bool.not_true, Bool.false_eq_true, ↓reduceIte, Sem.run_bind]
      rw [hp _ 2 x2 w rfl]
      simp only [Result.andThen_ok]
      rw [hp _ 2 y2 w rfl]
      simp only [Result.andThen_ok, h2]
      cases b2 <;> simp

theorem run_equalIn_b {P : Program} {e : TypeId} (he : P.underlying e = some .bool) (d : Nat) (a b : Bool) (w : World) : (Op.equalIn (d + 1) e (.bool a) (.bool b)).run P w = .ok (a == b) w := by
  simp [Op.equalIn, run_underlying he]
theorem run_equalIn_i {P : Program} {e : TypeId} (he : P.underlying e = some (.int .i64)) (d : Nat) (a b : Int) (w : World) : (Op.equalIn (d + 1) e (.int .i64 a) (.int .i64 b)).run P w = .ok (decide (a = b)) w := by
  simp [Op.equalIn, run_underlying he]
  rfl

section ops
variable {P : Program} {ev : Operand → SV → Prop} {H : Heap} {dst : Option Nat} {ty : TypeId} {pos : String} {after : Array Edge} {g : Option (Nat × Bool)}

theorem rep_agg3 {w : World} {F : Nat → Prop} {v : Value} {a b c : PV} (h : Rep w F v (.agg [a, b, c])) : ∃ x y z, v = .agg #[x, y, z] ∧ Rep w F x a ∧ Rep w F y b ∧ Rep w F z c := by
  cases h with
  | agg xs _ hl hr =>
    match xs, hl, hr with
    | [x, y, z], _, hr => exact ⟨x, y, z, rfl, hr 0 (by simp) (by simp), hr 1 (by simp) (by simp), hr 2 (by simp) (by simp)⟩

theorem op_eq3b {t yt e : TypeId} {i : TypeInfo} {x y : Operand} {a0 a1 a2 b0 b1 b2 : Bool} (hu : P.underlying t = some (.array 3 e)) (hi : P.info? e = some i) (hc : P.cellsOf e = 1) (ha : ∀ w, (isAgg e).run P w = .ok false w) (he : P.underlying e = some .bool) (hg : P.eqGuardType P.depth t = false)
    (hx : ev x (.pv (.agg [.bool a0, .bool a1, .bool a2]))) (hy : ev y (.pv (.agg [.bool b0, .bool b1, .bool b2]))) : OpT P ⟨dst, .binOp .eql t x y yt, ty, pos, after, g⟩ ev H (.bool ((a0 == b0) && (a1 == b1) && (a2 == b2))) H none :=
  OpT.value fun V ι w A hk hr => by
    obtain ⟨x0, x1, x2, ex, r0, r1, r2⟩ := rep_agg3 (hr x (by simp [Op.operands]) _ hx).pv_inv
    obtain ⟨y0, y1, y2, ey, s0, s1, s2⟩ := rep_agg3 (hr y (by simp [Op.operands]) _ hy).pv_inv
    refine ⟨.bool ((a0 == b0) && (a1 == b1) && (a2 == b2)), ?_, .pv _ _ (.bool _)⟩
    have hrun := run_eq3 w hu hi hc ha (run_equalIn_b he 9998 a0 b0) (run_equalIn_b he 9998 a1 b1) (run_equalIn_b he 9998 a2 b2)
    rw [r0.bool_inv, r1.bool_inv, r2.bool_inv] at ex
    rw [s0.bool_inv, s1.bool_inv, s2.bool_inv] at ey
    simp [execOp, ex, ey, eqGuard, hg, binOp, hrun]
theorem op_ne3i {t yt e : TypeId} {i : TypeInfo} {x y : Operand} {a0 a1 a2 b0 b1 b2 : Int} (hu : P.underlying t = some (.array 3 e)) (hi : P.info? e = some i) (hc : P.cellsOf e = 1) (ha : ∀ w, (isAgg e).run P w = .ok false w) (he : P.underlying e = some (.int .i64)) (hg : P.eqGuardType P.depth t = false)
    (hx : ev x (.pv (.agg [.i a0, .i a1, .i a2]))) (hy : ev y (.pv (.agg [.i b0, .i b1, .i b2]))) : OpT P ⟨dst, .binOp .neq t x y yt, ty, pos, after, g⟩ ev H (.bool (!(decide (a0 = b0) && decide (a1 = b1) && decide (a2 = b2)))) H none :=
  OpT.value fun V ι w A hk hr => by
    obtain ⟨x0, x1, x2, ex, r0, r1, r2⟩ := rep_agg3 (hr x (by simp [Op.operands]) _ hx).pv_inv
    obtain ⟨y0, y1, y2, ey, s0, s1, s2⟩ := rep_agg3 (hr y (by simp [Op.operands]) _ hy).pv_inv
    refine ⟨.bool (!(decide (a0 = b0) && decide (a1 = b1) && decide (a2 = b2))), ?_, .pv _ _ (.bool _)⟩
    have hrun := run_eq3 w hu hi hc ha (run_equalIn_i he 9998 a0 b0) (run_equalIn_i he 9998 a1 b1) (run_equalIn_i he 9998 a2 b2)
    rw [r0.int_inv, r1.int_inv, r2.int_inv] at ex
    rw [s0.int_inv, s1.int_inv, s2.int_inv] at ey
    simp [execOp, ex, ey, eqGuard, hg, binOp, hrun]
end ops

section rets
variable {P : Program} {fn : Func} {v : PV} {st : St}
theorem ret6 {t0 t1 t2 t3 t4 t5 : Nat} {s0 s1 s2 s3 s4 s5 : SV} {p0 p1 p2 p3 p4 p5 : PV} (hr : fn.results.toList = [.tmp t0, .tmp t1, .tmp t2, .tmp t3, .tmp t4, .tmp t5]) (h0 : lk st.env t0 = some s0) (h1 : lk st.env t1 = some s1) (h2 : lk st.env t2 = some s2) (h3 : lk st.env t3 = some s3) (h4 : lk st.env t4 = some s4) (h5 : lk st.env t5 = some s5)
    (g0 : viewS st.H s0 = some p0) (g1 : viewS st.H s1 = some p1) (g2 : viewS st.H s2 = some p2) (g3 : viewS st.H s3 = some p3) (g4 : viewS st.H s4 = some p4) (g5 : viewS st.H s5 = some p5) (hv : PV.tup [p0, p1, p2, p3, p4, p5] = v) : retQ P fn v .normal st :=
  ⟨st, [p0, p1, p2, p3, p4, p5], Ent.refl _, by rw [hr]; intro c t hm; simp at hm, by rw [hr]; simp only [resL, resV, h0, h1, h2, h3, h4, h5, g0, g1, g2, g3, g4, g5], hv⟩
end rets
end Go.Abs

namespace Go.Abs
set_option linter.unusedVariables false
variable {B : BT}

def mget (m : List (Int × Int)) (k : Int) : Int := (List.lookup k m).getD 0

theorem mem_lookupI {k v : Int} : ∀ {m : List (Int × Int)}, List.lookup k m = some v → (k, v) ∈ m
  | [], h => by simp at h
  | (a, b) :: m, h => by
    rw [List.lookup_cons] at h
    by_cases e : k = a
    · subst e; simp at h; subst h; exact List.mem_cons_self
    · rw [beq_eq_false_iff_ne.2 e] at h; exact List.mem_cons_of_mem _ (mem_lookupI h)

theorem findNow_mp {k : Int} : ∀ (m : List (Int × Int)) (l : List MapEntry) (i : Nat), l.map (fun e => (e.key, e.val)) = m.map (fun p => (Value.int .i64 p.1, Value.int .i64 p.2)) →
    (List.lookup k m = none → Instr.findNow (.int .i64) (.int .i64 k) l i = some none) ∧ ∀ v, List.lookup k m = some v → ∃ j, Instr.findNow (.int .i64) (.int .i64 k) l i = some (some (j, .int .i64 v))
  | [], l, i, h => by
    have : l = [] := by simpa using h
    subst this
    exact ⟨fun _ => rfl, fun v hv => by simp at hv⟩
  | (a, b) :: m, [], i, h => by simp at h
  | (a, b) :: m, e :: l, i, h => by
    simp only [List.map_cons, List.cons.injEq, Prod.mk.injEq] at h
    obtain ⟨⟨h1, h2⟩, h3⟩ := h
    have ih := findNow_mp (k := k) m l (i + 1) h3
    have hs : Instr.sameNow (.int .i64) (.int .i64 k) e.key = some (k == a) := by rw [h1]; rfl
    rw [List.lookup_cons]
    unfold Instr.findNow
    rw [hs]
    cases hka : (k == a) with
    | true =>
      refine ⟨fun hv => by simp at hv, fun v hv => ⟨i, ?_⟩⟩
      simp only [Option.some.injEq] at hv
      subst hv
      simp [h2]
    | false => exact ih

section ops
variable {P : Program} {ev : Operand → SV → Prop} {H : Heap} {dst : Option Nat} {ty : TypeId} {pos : String} {after : Array Edge} {g : Option (Nat × Bool)}

theorem op_makeMap {t : TypeId} (id : Nat) (hm : heapMen id H = false) : OpT P ⟨dst, .makeMap t none, ty, pos, after, g⟩ ev H (.own id) ((id, .mp []) :: H) (some id) := by
  intro V ι w a Q hV hk hr
  have hrun : (execOp a.eval ⟨dst, .makeMap t none, ty, pos, after, g⟩).run P w = .ok (.value (.map (some w.heap.size))) (w.alloc (.map #[] 0)) := by
    simp [execOp, Instr.makeMap]
  unfold Oper.wp
  rw [hrun]
  refine ⟨rename ι id (.map (some w.heap.size)), _, rfl, ?_, RepS.ownNew id _⟩
  refine Step.new hV hk (World.grownBy_alloc w _ none) hm (by simp [blkOf]) ?_
  exact ⟨w.heap.size, #[], 0, rfl, heap_alloc_new w _, rfl, by simp⟩

theorem own_inv {ι : Nat → Value} {w : World} {F : Nat → Prop} {v : Value} {id : Nat} (h : RepS ι w F v (.own id)) : v = ι id := by cases h; rfl

theorem op_lookupM {t kt et : TypeId} {x y : Operand} {id : Nat} {m : List (Int × Int)} {k : Int} (ht : P.underlying t = some (.map kt et)) (hkt : P.underlying kt = some (.int .i64)) (hz : ∀ w, (zeroValue et).run P w = .ok (.int .i64 0) w)
    (hx : ev x (.own id)) (hl : List.lookup id H = some (.mp m)) (hy : ev y (.int k)) : OpT P ⟨dst, .lookup t x y false, ty, pos, after, g⟩ ev H (.int (mget m k)) H none :=
  OpT.value fun V ι w A hk hr => by
    have h1 := own_inv (hr x (by simp [Op.operands]) _ hx)
    have h2 := (hr y (by simp [Op.operands]) _ hy).pv_inv.int_inv
    obtain ⟨r, es, clock, hv, hh, hm, hin⟩ := hk.ok id _ hl
    rw [hv] at h1
    have hc : ∀ b, (Instr.checkKey b 10000 kt (.int .i64 k)).run P w = .ok () w := fun b => MapKept.run_checkKey (k := .int .i64 k) hkt (by simp [MapKept.IsKey]) b 9999
    have hf := findNow_mp (k := k) m es.toList 0 hm
    have hmem : ∀ (m : List (Int × Int)) (v : Int), List.lookup k m = some v → (k, v) ∈ m := fun m v h => mem_lookupI h
    cases e : List.lookup k m with
    | none =>
      refine ⟨.int .i64 (mget m k), ?_, .pv _ _ (.int _ _ (by unfold mget; rw [e]; exact inK_i64.2 (by unfold InR; simp)))⟩
      simp [execOp, h1, h2, Instr.lookup, run_underlying ht, MapKept.run_getObj_map hh, hc, MapKept.run_findKey hkt (hf.1 e), hz, Result.andThen, mget, e]
    | some v =>
      obtain ⟨j, hj⟩ := hf.2 v e
      refine ⟨.int .i64 (mget m k), ?_, .pv _ _ (.int _ _ (by unfold mget; rw [e]; exact inK_i64.2 (hin _ (hmem m v e)).2))⟩
      simp [execOp, h1, h2, Instr.lookup, run_underlying ht, MapKept.run_getObj_map hh, hc, MapKept.run_findKey hkt hj, Result.andThen, mget, e]

/-- 'v, ok := m[k]'. -/
theorem op_lookupM2 {t kt et : TypeId} {x y : Operand} {id : Nat} {m : List (Int × Int)} {k : Int} (ht : P.underlying t = some (.map kt et)) (hkt : P.underlying kt = some (.int .i64)) (hz : ∀ w, (zeroValue et).run P w = .ok (.int .i64 0) w)
    (hx : ev x (.own id)) (hl : List.lookup id H = some (.mp m)) (hy : ev y (.int k)) : OpT P ⟨dst, .lookup t x y true, ty, pos, after, g⟩ ev H (.pv (.tup [.i (mget m k), .bool (List.lookup k m).isSome])) H none :=
  OpT.value fun V ι w A hk hr => by
    have h1 := own_inv (hr x (by simp [Op.operands]) _ hx)
    have h2 := (hr y (by simp [Op.operands]) _ hy).pv_inv.int_inv
    obtain ⟨r, es, clock, hv, hh, hm, hin⟩ := hk.ok id _ hl
    rw [hv] at h1
    have hc : ∀ b, (Instr.checkKey b 10000 kt (.int .i64 k)).run P w = .ok () w := fun b => MapKept.run_checkKey (k := .int .i64 k) hkt (by simp [MapKept.IsKey]) b 9999
    have hf := findNow_mp (k := k) m es.toList 0 hm
    have hmem : ∀ (m : List (Int × Int)) (v : Int), List.lookup k m = some v → (k, v) ∈ m := fun m v h => mem_lookupI h
    have hrep : ∀ v : Int, InR v → ∀ b : Bool, RepS ι w (Free V ι H w) (.tuple #[.int .i64 v, .bool b]) (.pv (.tup [.i v, .bool b])) := fun v hv b =>
      .pv _ _ (.tup [.int .i64 v, .bool b] [.i v, .bool b] rfl fun k h1 h2 => by
        match k, h1 with
        | 0, _ => exact .int _ _ (inK_i64.2 hv)
        | 1, _ => exact .bool _)
    cases e : List.lookup k m with
    | none =>
      refine ⟨.tuple #[.int .i64 (mget m k), .bool false], ?_, hrep _ (by unfold mget InR; rw [e]; simp) _⟩
      simp [execOp, h1, h2, Instr.lookup, run_underlying ht, MapKept.run_getObj_map hh, hc, MapKept.run_findKey hkt (hf.1 e), hz, Result.andThen, mget, e]
    | some v =>
      obtain ⟨j, hj⟩ := hf.2 v e
      refine ⟨.tuple #[.int .i64 (mget m k), .bool true], ?_, hrep _ (by unfold mget; rw [e]; exact (hin _ (hmem m v e)).2) _⟩
      simp [execOp, h1, h2, Instr.lookup, run_underlying ht, MapKept.run_getObj_map hh, hc, MapKept.run_findKey hkt hj, Result.andThen, mget, e]

theorem grownBy_setObj (w : World) (r : Nat) (o : Obj) : w.grownBy { w with heap := w.heap.setIfInBounds r o } (some r) :=
  ⟨rfl, rfl, rfl, by simp, fun k hk hne => by simp [show ¬ r = k from fun e => hne (by rw [e])]⟩

/-- 'm[k] = v', where k isn't there yet. -/
theorem op_mapSet {t kt et : TypeId} {x y z : Operand} {id : Nat} {m : List (Int × Int)} {k v : Int} (ht : P.underlying t = some (.map kt et)) (hkt : P.underlying kt = some (.int .i64))
    (hx : ev x (.own id)) (hl : List.lookup id H = some (.mp m)) (hy : ev y (.int k)) (hz : ev z (.int v)) (h : List.lookup k m = none) : OpT P ⟨none, .mapUpdate t x y z, ty, pos, after, g⟩ ev H (.pv .any) ((id, .mp (m ++ [(k, v)])) :: H) none := by
  intro V ι w a Q hV hk hr
  have h1 := own_inv (hr x (by simp [Op.operands]) _ hx)
  have h2 := (hr y (by simp [Op.operands]) _ hy).pv_inv.int_inv
  have h3 := (hr z (by simp [Op.operands]) _ hz).pv_inv.int_inv
  have f2 := (hr y (by simp [Op.operands]) _ hy).pv_inv.fit.int64
  have f3 := (hr z (by simp [Op.operands]) _ hz).pv_inv.fit.int64
  obtain ⟨r, es, clock, hv, hh, hm, hin⟩ := hk.ok id _ hl
  rw [hv] at h1
  have hc : ∀ b, (Instr.checkKey b 10000 kt (.int .i64 k)).run P w = .ok () w := fun b => MapKept.run_checkKey (k := .int .i64 k) hkt (by simp [MapKept.IsKey]) b 9999
  have hf := (findNow_mp (k := k) m es.toList 0 hm).1 h
  have hrun : (execOp a.eval ⟨none, .mapUpdate t x y z, ty, pos, after, g⟩).run P w = .ok .skip { w with heap := w.heap.setIfInBounds r (.map (es.push { key := .int .i64 k, val := .int .i64 v, born := clock }) (clock + 1)) } := by
    simp [execOp, h1, h2, h3, Instr.mapUpdate, run_underlying ht, MapKept.run_getObj_map hh, hc, MapKept.run_findKey hkt hf, MapKept.run_setObj_map _ hh, Result.andThen]
  unfold Oper.wp
  rw [hrun]
  refine ⟨ι, undef, rfl, ?_, .pv _ _ (.any _)⟩
  refine Step.upd hV hk hl (by rw [hv]; exact grownBy_setObj w r _) ?_
  refine ⟨r, _, _, hv, (MapKept.heap_set hh).1, ?_, ?_⟩
  · simp only [Array.toList_push, List.map_append, hm, List.map_cons, List.map_nil]
  · intro p hp
    rcases List.mem_append.1 hp with hp | hp
    · exact hin p hp
    · simp only [List.mem_singleton] at hp
      subst hp
      exact ⟨f2, f3⟩
end ops

/-! ### Calls that are lent one block, and may write into it -/

def Blk.flatB : Blk → Prop
  | .mp _ => True
  | .arr _ _ _ _ f _ => ∀ x c, c ∈ f x → c.flat = true
  | .box _ => False
  | .tbox _ _ => False
  | .mq _ => False
  | .yld .. => False

theorem BlkOk.flatB {ι ι' : Nat → Value} {w : World} {F F' : Nat → Prop} {v : Value} {blk : Blk} (h : BlkOk ι w F v blk) (hf : blk.flatB) : BlkOk ι' w F' v blk := by
  cases blk with
  | box cs => exact hf.elim
  | tbox T cs => exact hf.elim
  | mq m => exact hf.elim
  | yld ps as bd cs => exact hf.elim
  | mp m => exact h
  | arr e z α d f l =>
    obtain ⟨xs, ho, hr, hm⟩ := h
    refine ⟨xs, ho, ⟨hr.1, fun k h1 h2 => (hr.2 k h1 h2).flat ?_⟩, hm⟩
    obtain ⟨x, _, hx⟩ := List.mem_flatMap.1 (List.getElem_mem h2)
    exact hf x _ hx

def ArgM (w : World) (F : Nat → Prop) (r : Value) (v : Value) : Option PV → Prop
  | some p => Rep w F v p
  | none => v = r

/-- THE CONTRACT OF A FUNCTION THAT WRITES INTO ONE BLOCK: 'none' is the argument that it is lent. -/
def FCM (P : Program) (K : FuncId) (args : List (Option PV)) (blk blk' : Blk) (v : PV) : Prop :=
  ∀ (w : World) (vs : List Value) (V : Nat → Prop) (r : Value), (∀ b, w.heap.size ≤ b → V b) → HeapOk V (fun _ => r) [(0, blk)] w → vs.length = args.length →
    (∀ (k : Nat) (h1 : k < vs.length) (h2 : k < args.length), ArgM w (Free V (fun _ => r) [(0, blk)] w) r vs[k] args[k]) →
    Calls P K vs.toArray w fun ex w' => ∃ rv, ex = .returned rv ∧ Rep w' (fun _ => False) rv v ∧ w.grownBy w' (blkOf r) ∧ BlkOk (fun _ => r) w' (fun _ => False) r blk'

def envM (r : Value) : Nat → List (Option PV) → Env
  | _, [] => []
  | k, some p :: l => (k, .pv p) :: envM r (k + 1) l
  | k, none :: l => (k, .ownV 0 r) :: envM r (k + 1) l

theorem envM_lookup (r : Value) : ∀ (args : List (Option PV)) (k t : Nat), (envM r k args).lookup t = if k ≤ t then (args[t - k]?).map (fun o => match o with | some p => SV.pv p | none => .ownV 0 r) else none
  | [], k, t => by simp [envM]
  | o :: l, k, t => by
    have key : ∀ s, ((k, s) :: envM r (k + 1) l).lookup t = if t = k then some s else if k + 1 ≤ t then (l[t - (k + 1)]?).map (fun o => match o with | some p => SV.pv p | none => .ownV 0 r) else none := by
      intro s
      rw [List.lookup_cons]
      by_cases e : t = k
      · subst e; simp
      · rw [show (t == k) = false from beq_eq_false_iff_ne.2 e, if_neg e]
        exact envM_lookup r l (k + 1) t
    have fin : ∀ s, (if t = k then some s else if k + 1 ≤ t then (l[t - (k + 1)]?).map (fun o => match o with | some p => SV.pv p | none => .ownV 0 r) else none) =
        if k ≤ t then (if t = k then some s else (l[t - (k + 1)]?).map (fun o => match o with | some p => SV.pv p | none => .ownV 0 r)) else none := by
      intro s
      by_cases e : t = k
      · simp [e]
      · by_cases h : k ≤ t
        · simp [e, h, show k + 1 ≤ t by omega]
        · simp [e, h, show ¬ k + 1 ≤ t by omega]
    have last : ∀ {h : k ≤ t}, ((o :: l)[t - k]?) = if t = k then some o else l[t - (k + 1)]? := by
      intro h
      by_cases e : t = k
      · simp [e]
      · rw [if_neg e, show t - k = (t - (k + 1)) + 1 by omega]; simp
    cases o with
    | none =>
      simp only [envM]
      rw [key, fin]
      by_cases h : k ≤ t
      · rw [if_pos h, if_pos h, last (h := h)]
        by_cases e : t = k <;> simp [e]
      · rw [if_neg h, if_neg h]
    | some p =>
      simp only [envM]
      rw [key, fin]
      by_cases h : k ≤ t
      · rw [if_pos h, if_pos h, last (h := h)]
        by_cases e : t = k <;> simp [e]
      · rw [if_neg h, if_neg h]

/-- At the function's end: what it returns bears no memory, and the block that it was lent is as it says. -/
def retW (P : Program) (fn : Func) (r : Value) (blk' : Blk) (v : PV) : Exit → St → Prop
  | .normal, st | .ret, st => ∃ st' ps t, Ent st st' ∧ resTypes P (lk st'.env) st'.H fn.results.toList ∧ resL (lk st'.env) st'.H fn.results.toList = some ps ∧ packed ps = v ∧ lk st'.env t = some (.ownV 0 r) ∧ List.lookup 0 st'.H = some blk'
  | _, _ => False

theorem retW.ret {P : Program} {fn : Func} {r : Value} {blk' : Blk} {v : PV} {st : St} (h : retW P fn r blk' v .normal st) : retW P fn r blk' v .ret st := h

theorem FCM.intro {P : Program} {K : FuncId} {fn : Func} {c : Code} {args : List (Option PV)} {blk blk' : Blk} {v : PV} (hf : P.funcs[K]? = some fn) (hb : fn.body = some c) (hn : args.length ≤ fn.ntmps) (hfl : v.flat = true) (hbl : blk'.flatB) (hbl0 : blk.flatB)
    (h : (∀ p, some p ∈ args → p.Fit) → ∀ r, awp (ro := none) (B := none) P fn.ntmps c (retW P fn r blk' v) ⟨envM r 0 args, [(0, blk)]⟩) : FCM P K args blk blk' v := by
  intro w vs V r hV hk hlen ha
  have h := h (fun p hp => by
    obtain ⟨k, hk, e⟩ := List.getElem_of_mem hp
    have := ha k (hlen ▸ hk) hk
    rw [e] at this
    exact Rep.fit this) r
  have hsim : Sim none w (fun b => blkOf r = some b) V fn.ntmps (fun _ => r) (lk (envM r 0 args)) [(0, blk)] { tmps := vs.toArray ++ Array.replicate (fn.ntmps - vs.toArray.size) undef, defers := [] } w := by
    refine ⟨rfl, rfl, rfl, Nat.le_refl _, fun _ _ _ => rfl, ?_, hk, ?_, ?_, Marks.nil, hV⟩
    · rintro b ⟨id, bl, _, hb⟩
      exact .inr hb
    · intro t s hts
      simp only [lk] at hts
      rw [envM_lookup] at hts
      simp only [Nat.zero_le, ↓reduceIte, Nat.sub_zero, Option.map_eq_some_iff] at hts
      obtain ⟨o, ho, rfl⟩ := hts
      obtain ⟨h2, h3⟩ := List.getElem?_eq_some_iff.1 ho
      have h1 : t < vs.length := by omega
      have e : (vs.toArray ++ Array.replicate (fn.ntmps - vs.toArray.size) undef).getD t undef = vs[t] := by
        simp [Array.getD_eq_getD_getElem?, Array.getElem?_append, h1]
      rw [e]
      have h4 := ha t h1 h2
      rw [h3] at h4
      cases o with
      | some p => exact .pv _ _ h4
      | none =>
        have h5 : vs[t] = r := h4
        rw [h5]
        exact .ownV 0 r rfl
    · simp; omega
  refine (calls_of_sim (R := fun rv w' => Rep w' (fun _ => False) rv v ∧ w.grownBy w' (blkOf r) ∧ BlkOk (fun _ => r) w' (fun _ => False) r blk')
    hf hb (h w _ _ _ _ w hsim) (fun e st' hq => ?_) ?_)
  · cases e <;> first | exact .inl rfl | exact .inr rfl | exact hq.elim
  · rintro e st' V' ι' a' w' hq hvv hs'
    have hq' : ∃ st2 ps t, Ent st' st2 ∧ resTypes P (lk st2.env) st2.H fn.results.toList ∧ resL (lk st2.env) st2.H fn.results.toList = some ps ∧ packed ps = v ∧ lk st2.env t = some (.ownV 0 r) ∧ List.lookup 0 st2.H = some blk' := by
      cases e <;> first | exact hq | exact hq.elim
    obtain ⟨st2, ps, t, hent, hty, hres, rfl, ht, hl⟩ := hq'
    obtain ⟨ι2, hs2⟩ := hent _ _ _ _ _ _ _ _ hs'
    obtain ⟨xs, hx, hrep⟩ := resL_run hs2 _ _ hty hres
    have hι : ι2 0 = r := by
      have := hs2.env t _ ht
      generalize a'.tmps.getD t undef = u at *
      cases this; assumption
    refine ⟨_, results_run hx, (Rep.packed hrep).flat hfl, ⟨hs2.os, hs2.tape, hs2.output, hs2.size, fun b hb hne => hs2.kept b hb fun e => hne e.symm⟩, ?_⟩
    have := hs2.heap.ok 0 _ hl
    rw [hι] at this
    exact this.flatB hbl

/-- The arguments of such a call. -/
def LendA (ev : Operand → SV → Prop) (id : Nat) : List Operand → List (Option PV) → Prop
  | [], [] => True
  | x :: r, some p :: q => ev x (.pv p) ∧ LendA ev id r q
  | x :: r, none :: q => ev x (.own id) ∧ LendA ev id r q
  | _, _ => False

theorem LendA.rep {ev : Operand → SV → Prop} {V : Nat → Prop} {ι : Nat → Value} {H : Heap} {w : World} {a : Act} {id : Nat} {F : Nat → Prop} (hF : ∀ b, Free V ι H w b → F b) : ∀ {r : List Operand} {q : List (Option PV)}, LendA ev id r q →
    (∀ x, x ∈ r → ∀ s, ev x s → RepS ι w (Free V ι H w) (a.eval x) s) → (r.map a.eval).length = q.length ∧ ∀ (k : Nat) (h1 : k < (r.map a.eval).length) (h2 : k < q.length), ArgM w F (ι id) (r.map a.eval)[k] q[k]
  | [], [], _, _ => ⟨rfl, fun k h1 => absurd h1 (by simp)⟩
  | x :: r, some p :: q, h, hr => by
    have ih := LendA.rep hF h.2 fun y hy => hr y (List.mem_cons_of_mem _ hy)
    refine ⟨by simpa using ih.1, fun k h1 h2 => ?_⟩
    cases k with
    | zero => exact (hr x List.mem_cons_self _ h.1).pv_inv.mono (fun _ _ => rfl) hF
    | succ k => exact ih.2 k (by simpa using h1) (by simpa using h2)
  | x :: r, none :: q, h, hr => by
    have ih := LendA.rep hF h.2 fun y hy => hr y (List.mem_cons_of_mem _ hy)
    refine ⟨by simpa using ih.1, fun k h1 h2 => ?_⟩
    cases k with
    | zero => exact own_inv (hr x List.mem_cons_self _ h.1)
    | succ k => exact ih.2 k (by simpa using h1) (by simpa using h2)
  | [], some _ :: _, h, _ => h.elim
  | [], none :: _, h, _ => h.elim
  | _ :: _, [], h, _ => h.elim

section ops
variable {P : Program} {ev : Operand → SV → Prop} {H : Heap} {dst : Option Nat} {ty : TypeId} {pos : String} {after : Array Edge} {g : Option (Nat × Bool)}

theorem op_callM {K : FuncId} {ts : Array TypeId} {args : Array Operand} {vals : List (Option PV)} {blk blk' : Blk} {v : PV} (id : Nat) (hcall : ∀ vs w, (callFunc K vs).run P w = .ok (.enter K vs) w)
    (hv : LendA ev id args.toList vals) (hl : List.lookup id H = some blk) (hf : FCM P K vals blk blk' v) (hfl : v.flat = true) (hb0 : blk.flatB) (hb1 : blk'.flatB) :
    OpT P ⟨dst, .call ⟨.value (.func K), args, ts⟩, ty, pos, after, g⟩ ev H (.pv v) ((id, blk') :: H) none := by
  intro V ι w a Q hV hk hr
  have hF : ∀ b, Free V ι H w b → Free V (fun _ => ι id) [(0, blk)] w b := fun b hb => ⟨hb.1, hb.2.1, fun ⟨i, bl, hi, hb'⟩ => hb.2.2 ⟨id, blk, hl, hb'⟩⟩
  have hrep := hv.rep (V := V) (ι := ι) (H := H) (w := w) (a := a) hF fun x hx => hr x (by simp only [Op.operands, Call.operands, Array.mem_append]; exact .inr (Array.mem_toList_iff.1 hx))
  have hk1 : HeapOk V (fun _ => ι id) [(0, blk)] w := by
    have h0 : ∀ i bl, List.lookup i [((0 : Nat), blk)] = some bl → i = 0 ∧ bl = blk := by
      intro i bl hi
      rw [List.lookup_cons] at hi
      by_cases e : i = 0
      · subst e; simp at hi; exact ⟨rfl, hi.symm⟩
      · rw [beq_eq_false_iff_ne.2 e] at hi; simp at hi
    refine ⟨fun i bl hi => ?_, fun i j bl bl2 b hi hj _ _ => by rw [(h0 i bl hi).1, (h0 j bl2 hj).1], fun b ⟨i, bl, hi, hb⟩ => hk.vis b ⟨id, blk, hl, hb⟩⟩
    obtain ⟨_, rfl⟩ := h0 i bl hi
    exact (hk.ok id _ hl).flatB hb0
  rw [show (args.toList.map a.eval) = (args.map a.eval).toList from (Array.toList_map ..).symm] at hrep
  have hc := hf w (args.map a.eval).toList V (ι id) hV hk1 hrep.1 hrep.2
  rw [Array.toArray_toList] at hc
  unfold Oper.wp
  have hrun : (execOp a.eval ⟨dst, .call ⟨.value (.func K), args, ts⟩, ty, pos, after, g⟩).run P w = .ok (.enter K (args.map a.eval)) w := by
    simp [execOp, resolve, Deferred.ofValue, Act.eval, invoke, hcall]
  rw [hrun, Oper.upon_enter]
  refine Calls.mono hc ?_
  rintro ex w' ⟨rv, rfl, hrv, hg, hbl⟩
  exact ⟨ι, rv, rfl, Step.upd hV hk hl hg (hbl.flatB hb1), .pv _ _ (hrv.flat hfl)⟩
end ops

section rets
variable {P : Program} {fn : Func} {r : Value} {blk' : Blk} {v : PV} {st : St}
theorem retW0 {t : Nat} (hr : fn.results.toList = []) (ht : lk st.env t = some (.ownV 0 r)) (hl : List.lookup 0 st.H = some blk') (hv : PV.tup [] = v) : retW P fn r blk' v .normal st :=
  ⟨st, [], t, Ent.refl _, by rw [hr]; intro c t hm; simp at hm, by rw [hr]; rfl, hv, ht, hl⟩
theorem retW1 {t t0 : Nat} {s0 : SV} {p0 : PV} (hr : fn.results.toList = [.tmp t0]) (h0 : lk st.env t0 = some s0) (g0 : viewS st.H s0 = some p0) (ht : lk st.env t = some (.ownV 0 r)) (hl : List.lookup 0 st.H = some blk') (hv : p0 = v) : retW P fn r blk' v .normal st :=
  ⟨st, [p0], t, Ent.refl _, by rw [hr]; intro c t hm; simp at hm, by rw [hr]; simp only [resL, resV, h0, g0], hv, ht, hl⟩
end rets
end Go.Abs
