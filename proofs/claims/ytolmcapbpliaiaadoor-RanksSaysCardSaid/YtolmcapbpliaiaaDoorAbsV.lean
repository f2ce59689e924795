/- Maps of numbers to plain values. Conditions: each law names its own. -/
import Derived.Test.YtolmcapbpliaiaaDoorAbsU
namespace Go.Abs
set_option linter.unusedVariables false
variable {B : BT}

theorem findNow_mq {k : Int} : ∀ (m : List (Int × PV)) (l : List MapEntry) (i : Nat), l.length = m.length → (∀ (q : Nat) (h1 : q < l.length) (h2 : q < m.length), l[q].key = .int .i64 m[q].1) →
    (List.lookup k m = none → Instr.findNow (.int .i64) (.int .i64 k) l i = some none) ∧ ∀ p, List.lookup k m = some p → ∃ (j : Nat) (h1 : j < l.length) (h2 : j < m.length), m[j].2 = p ∧ Instr.findNow (.int .i64) (.int .i64 k) l i = some (some (i + j, l[j].val))
  | [], l, i, hl, h => by
    have : l = [] := List.eq_nil_of_length_eq_zero hl
    subst this
    exact ⟨fun _ => rfl, fun p hp => by simp at hp⟩
  | (a, b) :: m, [], i, hl, h => by simp at hl
  | (a, b) :: m, e :: l, i, hl, h => by
    have ih := findNow_mq (k := k) m l (i + 1) (by simpa using hl) fun q h1 h2 => h (q + 1) (by simpa using h1) (by simpa using h2)
    have h0 : e.key = .int .i64 a := h 0 (by simp) (by simp)
    have hs : Instr.sameNow (.int .i64) (.int .i64 k) e.key = some (k == a) := by rw [h0]; rfl
    rw [List.lookup_cons]
    unfold Instr.findNow
    rw [hs]
    cases hka : (k == a) with
    | true =>
      refine ⟨fun hv => by simp at hv, fun p hp => ⟨0, by simp, by simp, ?_, by simp⟩⟩
      simpa using hp
    | false =>
      refine ⟨ih.1, fun p hp => ?_⟩
      obtain ⟨j, h1, h2, h3, h4⟩ := ih.2 p hp
      refine ⟨j + 1, by simpa using h1, by simpa using h2, by simpa using h3, ?_⟩
      show Instr.findNow _ _ l (i + 1) = _
      rw [h4]
      simp [Nat.add_assoc, Nat.add_comm 1 j]
theorem findIdx_place : ∀ (l : List MapEntry) (o j : Nat), (∀ (q : Nat) (h : q < l.length), l[q].born = o + q) → j < l.length → l.findIdx? (fun e => ((e.born : Nat) : Int) == ((o + j : Nat) : Int)) = some j
  | [], o, j, h, hj => absurd hj (by simp)
  | e :: l, o, j, h, hj => by
    have h0 : e.born = o := h 0 (by simp)
    rw [List.findIdx?_cons, h0]
    cases j with
    | zero => simp
    | succ j =>
      have hne : (((o : Nat) : Int) == ((o + (j + 1) : Nat) : Int)) = false := by
        simp only [beq_eq_false_iff_ne, ne_eq, Int.natCast_inj]; omega
      rw [hne]
      have ih := findIdx_place l (o + 1) j (fun q hq => by have := h (q + 1) (by simpa using hq); simpa [Nat.add_assoc, Nat.add_comm 1 q] using this) (by simpa using hj)
      rw [show o + 1 + j = o + (j + 1) by omega] at ih
      rw [if_neg (by decide), ih]; rfl

section ops
variable {P : Program} {ev : Operand → SV → Prop} {H : Heap} {dst : Option Nat} {ty : TypeId} {pos : String} {after : Array Edge} {g : Option (Nat × Bool)}

theorem op_makeMapQ {t : TypeId} (id : Nat) (hm : heapMen id H = false) : OpT P ⟨dst, .makeMap t none, ty, pos, after, g⟩ ev H (.own id) ((id, .mq []) :: H) (some id) := by
  intro V ι w a Q hV hk hr
  have hrun : (execOp a.eval ⟨dst, .makeMap t none, ty, pos, after, g⟩).run P w = .ok (.value (.map (some w.heap.size))) (w.alloc (.map #[] 0)) := by
    simp [execOp, Instr.makeMap]
  unfold Oper.wp
  rw [hrun]
  refine ⟨rename ι id (.map (some w.heap.size)), _, rfl, ?_, RepS.ownNew id _⟩
  refine Step.new hV hk (World.grownBy_alloc w _ none) hm (by simp [blkOf]) ?_
  exact ⟨w.heap.size, #[], rfl, heap_alloc_new w _, by simp, rfl, fun k h1 h2 => absurd h2 (by simp)⟩

theorem lookup_mq {t kt et : TypeId} {w : World} {V : Nat → Prop} {ι : Nat → Value} {id : Nat} {m : List (Int × PV)} {k : Int} {z : Value} {p0 : PV} (ht : P.underlying t = some (.map kt et)) (hkt : P.underlying kt = some (.int .i64)) (hz : ∀ w, (zeroValue et).run P w = .ok z w)
    (hp0 : ∀ F, Rep w F z p0) (hk : HeapOk V ι H w) (hl : List.lookup id H = some (.mq m)) :
    ∃ v, Rep w (Free V ι H w) v ((List.lookup k m).getD p0) ∧ (Instr.lookup t (ι id) (.int .i64 k) false).run P w = .ok v w ∧ (Instr.lookup t (ι id) (.int .i64 k) true).run P w = .ok (.tuple #[v, .bool (List.lookup k m).isSome]) w := by
  obtain ⟨r, es, hv, hh, hle, hlen, hm⟩ := hk.ok id _ hl
  have hc : ∀ b, (Instr.checkKey b 10000 kt (.int .i64 k)).run P w = .ok () w := fun b => MapKept.run_checkKey (k := .int .i64 k) hkt (by simp [MapKept.IsKey]) b 9999
  have hf := findNow_mq (k := k) m es.toList 0 hlen fun q h1 h2 => (hm q h1 h2).1
  cases e : List.lookup k m with
  | none =>
    refine ⟨z, hp0 _, ?_, ?_⟩
    · simp [hv, Instr.lookup, run_underlying ht, MapKept.run_getObj_map hh, hc, MapKept.run_findKey hkt (hf.1 e), hz, Result.andThen]
    · simp [hv, Instr.lookup, run_underlying ht, MapKept.run_getObj_map hh, hc, MapKept.run_findKey hkt (hf.1 e), hz, Result.andThen]
  | some p =>
    obtain ⟨j, h1, h2, h3, h4⟩ := hf.2 p e
    refine ⟨es.toList[j].val, by have := (hm j h1 h2).2.2.2; rw [h3] at this; exact this, ?_, ?_⟩
    · simp [hv, Instr.lookup, run_underlying ht, MapKept.run_getObj_map hh, hc, MapKept.run_findKey hkt h4, Result.andThen]
    · simp [hv, Instr.lookup, run_underlying ht, MapKept.run_getObj_map hh, hc, MapKept.run_findKey hkt h4, Result.andThen]

/-- 'm[k]'. -/
theorem op_lookupQ {t kt et : TypeId} {x y : Operand} {id : Nat} {m : List (Int × PV)} {k : Int} {z : Value} {p0 : PV} (ht : P.underlying t = some (.map kt et)) (hkt : P.underlying kt = some (.int .i64)) (hz : ∀ w, (zeroValue et).run P w = .ok z w)
    (hp0 : ∀ w F, Rep w F z p0) (hx : ev x (.own id)) (hl : List.lookup id H = some (.mq m)) (hy : ev y (.int k)) : OpT P ⟨dst, .lookup t x y false, ty, pos, after, g⟩ ev H (.pv ((List.lookup k m).getD p0)) H none :=
  OpT.value fun V ι w A hk hr => by
    have h1 := own_inv (hr x (by simp [Op.operands]) _ hx)
    have h2 := (hr y (by simp [Op.operands]) _ hy).pv_inv.int_inv
    obtain ⟨v, hv, hr1, hr2⟩ := lookup_mq (k := k) ht hkt hz (hp0 w) hk hl
    exact ⟨v, by simp [execOp, h1, h2, hr1], .pv _ _ hv⟩

/-- 'v, ok := m[k]'. -/
theorem op_lookupQ2 {t kt et : TypeId} {x y : Operand} {id : Nat} {m : List (Int × PV)} {k : Int} {z : Value} {p0 : PV} (ht : P.underlying t = some (.map kt et)) (hkt : P.underlying kt = some (.int .i64)) (hz : ∀ w, (zeroValue et).run P w = .ok z w)
    (hp0 : ∀ w F, Rep w F z p0) (hx : ev x (.own id)) (hl : List.lookup id H = some (.mq m)) (hy : ev y (.int k)) : OpT P ⟨dst, .lookup t x y true, ty, pos, after, g⟩ ev H (.pv (.tup [(List.lookup k m).getD p0, .bool (List.lookup k m).isSome])) H none :=
  OpT.value fun V ι w A hk hr => by
    have h1 := own_inv (hr x (by simp [Op.operands]) _ hx)
    have h2 := (hr y (by simp [Op.operands]) _ hy).pv_inv.int_inv
    obtain ⟨v, hv, hr1, hr2⟩ := lookup_mq (k := k) ht hkt hz (hp0 w) hk hl
    refine ⟨_, by simp [execOp, h1, h2, hr2]; rfl, .pv _ _ (.tup [v, .bool _] [_, .bool _] rfl fun q h1 h2 => ?_)⟩
    match q, h1 with
    | 0, _ => exact hv
    | 1, _ => exact .bool _

/-- The place for 'm[k]' in an assignment of several, where k isn't there yet. -/
theorem op_mapEntryQ {t kt et : TypeId} {x y : Operand} {id : Nat} {m : List (Int × PV)} {k : Int} {z : Value} {p0 : PV} (ht : P.underlying t = some (.map kt et)) (hkt : P.underlying kt = some (.int .i64)) (hz : ∀ w, (zeroValue et).run P w = .ok z w)
    (hp0 : ∀ w F, Rep w F z p0) (hx : ev x (.own id)) (hl : List.lookup id H = some (.mq m)) (hy : ev y (.int k)) (h : List.lookup k m = none) (hfit : m.length < 281474976710656) :
    OpT P ⟨dst, .mapEntry t x y, ty, pos, after, g⟩ ev H (.pv (.tup [p0, .i m.length])) ((id, .mq (m ++ [(k, p0)])) :: H) none := by
  intro V ι w a Q hV hk hr
  have h1 := own_inv (hr x (by simp [Op.operands]) _ hx)
  have h2 := (hr y (by simp [Op.operands]) _ hy).pv_inv.int_inv
  have f2 := (hr y (by simp [Op.operands]) _ hy).pv_inv.fit.int64
  obtain ⟨r, es, hv, hh, hle, hlen, hm⟩ := hk.ok id _ hl
  rw [hv] at h1
  have hc : ∀ b, (Instr.checkKey b 10000 kt (.int .i64 k)).run P w = .ok () w := fun b => MapKept.run_checkKey (k := .int .i64 k) hkt (by simp [MapKept.IsKey]) b 9999
  have hf := (findNow_mq (k := k) m es.toList 0 hlen fun q h1 h2 => (hm q h1 h2).1).1 h
  have hrun : (execOp a.eval ⟨dst, .mapEntry t x y, ty, pos, after, g⟩).run P w = .ok (.value (.tuple #[z, .int .i64 m.length])) { w with heap := w.heap.setIfInBounds r (.map (es.push { key := .int .i64 k, val := z, born := m.length }) (m.length + 1)) } := by
    simp [execOp, h1, h2, Instr.mapEntry, run_underlying ht, MapKept.run_getObj_map hh, hc, MapKept.run_findKey hkt hf, hz, MapKept.run_setObj_map _ hh, Result.andThen, goInt]
  unfold Oper.wp
  rw [hrun]
  have hst : Step V ι H w none ι ((id, .mq (m ++ [(k, p0)])) :: H) { w with heap := w.heap.setIfInBounds r (.map (es.push { key := .int .i64 k, val := z, born := m.length }) (m.length + 1)) } := by
    refine Step.upd hV hk hl (by rw [hv]; exact grownBy_setObj w r _) ?_
    have hfree : ∀ c, Free V ι H w c → Free V ι ((id, .mq (m ++ [(k, p0)])) :: H) { w with heap := w.heap.setIfInBounds r (.map (es.push { key := .int .i64 k, val := z, born := m.length }) (m.length + 1)) } c := by
      intro c hc
      refine ⟨by simpa using hc.1, hc.2.1, ?_⟩
      rintro ⟨q, bl, hl', hb'⟩
      rw [List.lookup_cons] at hl'
      by_cases e : q = id
      · subst e; exact hc.2.2 ⟨q, _, hl, hb'⟩
      · rw [beq_eq_false_iff_ne.2 e] at hl'; exact hc.2.2 ⟨q, bl, hl', hb'⟩
    have hblk : ∀ c, Free V ι H w c → (w.heap.setIfInBounds r (.map (es.push { key := .int .i64 k, val := z, born := m.length }) (m.length + 1)))[c]? = w.heap[c]? := fun c hc => (MapKept.heap_set hh).2 c fun e => hc.2.2 ⟨id, _, hl, by rw [hv, e]; rfl⟩
    refine ⟨r, _, hv, by rw [List.length_append]; exact (MapKept.heap_set hh).1, by simp; omega, by simp [← hlen], ?_⟩
    intro q h1 h2
    simp only [Array.toList_push] at h1 ⊢
    by_cases e : q < es.toList.length
    · rw [List.getElem_append_left e, List.getElem_append_left (by omega)]
      have := hm q e (by omega)
      exact ⟨this.1, this.2.1, this.2.2.1, this.2.2.2.mono hblk hfree⟩
    · have e2 : q = es.toList.length := by simp at h1 e ⊢; omega
      subst e2
      rw [List.getElem_append_right (by omega), List.getElem_append_right (by omega)]
      simp [hlen]
      exact ⟨f2, hp0 _ _⟩
  refine ⟨ι, _, rfl, hst, .pv _ _ (.tup [z, .int .i64 m.length] [p0, .i m.length] rfl fun q h1 h2 => ?_)⟩
  match q, h1 with
  | 0, _ => exact hp0 _ _
  | 1, _ => exact .int _ _ (inK_i64.2 (by unfold InR; simp; omega))

/-- 'm[k] = v' at a place that was made so. -/
theorem op_entryStoreQ {t : TypeId} {x y s : Operand} {id j : Nat} {m : List (Int × PV)} {p : PV}
    (hx : ev x (.own id)) (hl : List.lookup id H = some (.mq m)) (hs : ev s (.int (j : Nat))) (hy : ev y (.pv p)) (hj : j < m.length) :
    OpT P ⟨none, .entryStore t x s y, ty, pos, after, g⟩ ev H (.pv .any) ((id, .mq (m.set j ((m.getD j (0, .any)).1, p))) :: H) none := by
  intro V ι w a Q hV hk hr
  have h1 := own_inv (hr x (by simp [Op.operands]) _ hx)
  have h2 := (hr s (by simp [Op.operands]) _ hs).pv_inv.int_inv
  have h3 := (hr y (by simp [Op.operands]) _ hy).pv_inv
  obtain ⟨r, es, hv, hh, hle, hlen, hm⟩ := hk.ok id _ hl
  rw [hv] at h1
  have hje : j < es.toList.length := by omega
  have hfi : es.findIdx? (fun e => ((e.born : Nat) : Int) == ((j : Nat) : Int)) = some j := by
    have := findIdx_place es.toList 0 j (fun q hq => by rw [(hm q hq (by omega)).2.1]; omega) hje
    rw [Nat.zero_add] at this
    cases es
    simpa using this
  generalize hnew : es.modify j (fun e => { e with val := a.eval y }) = es'
  have hrun : (execOp a.eval ⟨none, .entryStore t x s y, ty, pos, after, g⟩).run P w = .ok .skip { w with heap := w.heap.setIfInBounds r (.map es' m.length) } := by
    simp [execOp, h1, h2, Instr.entryStore, MapKept.run_getObj_map hh, asInt, asIntOf, hfi, hnew, MapKept.run_setObj_map _ hh, Result.andThen]
  unfold Oper.wp
  rw [hrun]
  refine ⟨ι, undef, rfl, ?_, .pv _ _ (.any _)⟩
  have hg : w.grownBy { w with heap := w.heap.setIfInBounds r (.map es' m.length) } (some r) := grownBy_setObj w r _
  refine Step.upd hV hk hl (by rw [hv]; exact hg) ?_
  have hfree : ∀ c, Free V ι H w c → Free V ι ((id, .mq (m.set j ((m.getD j (0, .any)).1, p))) :: H) { w with heap := w.heap.setIfInBounds r (.map es' m.length) } c := by
    intro c hc
    refine ⟨by simpa using hc.1, hc.2.1, ?_⟩
    rintro ⟨q, bl, hl', hb'⟩
    rw [List.lookup_cons] at hl'
    by_cases e : q = id
    · subst e; exact hc.2.2 ⟨q, _, hl, hb'⟩
    · rw [beq_eq_false_iff_ne.2 e] at hl'; exact hc.2.2 ⟨q, bl, hl', hb'⟩
  have hblk : ∀ c, Free V ι H w c → (w.heap.setIfInBounds r (.map es' m.length))[c]? = w.heap[c]? := fun c hc => (MapKept.heap_set hh).2 c fun e => hc.2.2 ⟨id, _, hl, by rw [hv, e]; rfl⟩
  have hel : es'.toList.length = es.toList.length := by rw [← hnew]; simp
  refine ⟨r, es', hv, by rw [List.length_set]; exact (MapKept.heap_set hh).1, by simpa using hle, by rw [hel, List.length_set, hlen], ?_⟩
  intro q h1 h2
  have hq : q < es.toList.length := by omega
  have hqm : q < m.length := by omega
  have := hm q hq hqm
  have hget : es'.toList[q] = if j = q then { es.toList[q] with val := a.eval y } else es.toList[q] := by
    subst hnew
    simp only [Array.toList_modify, List.getElem_modify]
  rw [List.getElem_set, hget]
  by_cases e : j = q
  · subst e
    rw [if_pos rfl, if_pos rfl]
    have e2 : (m.getD j (0, .any)) = m[j] := by simp [List.getD_eq_getElem?_getD, hqm]
    refine ⟨?_, this.2.1, ?_, h3.mono hblk hfree⟩
    · show es.toList[j].key = .int .i64 (m.getD j (0, .any)).1
      rw [e2]; exact this.1
    · show InR (m.getD j (0, .any)).1
      rw [e2]; exact this.2.2.1
  · rw [if_neg e, if_neg e]
    exact ⟨this.1, this.2.1, this.2.2.1, this.2.2.2.mono hblk hfree⟩
end ops
section ops
variable {P : Program} {ev : Operand → SV → Prop} {H : Heap} {dst : Option Nat} {ty : TypeId} {pos : String} {after : Array Edge} {g : Option (Nat × Bool)}
theorem OpT.boolEq {o : Oper} {H' : Heap} {nw : Option Nat} {b c : Bool} (e : b = c) (h : OpT P o ev H (.bool b) H' nw) : OpT P o ev H (.bool c) H' nw := e ▸ h
theorem OpT.intEq {o : Oper} {H' : Heap} {nw : Option Nat} {b c : Int} (e : b = c) (h : OpT P o ev H (.int b) H' nw) : OpT P o ev H (.int c) H' nw := e ▸ h
theorem OpT.pvEq {o : Oper} {H' : Heap} {nw : Option Nat} {p q : PV} (e : p = q) (h : OpT P o ev H (.pv p) H' nw) : OpT P o ev H (.pv q) H' nw := e ▸ h
/-- A struct of a plain struct of four cells and two maps. -/
theorem op_buildF {t : TypeId} {fs : Array Field} {zero : Value} {x y1 y2 : Operand} {p0 p1 p2 p3 : PV} {i1 i2 : Nat} {m1 m2 : List (Int × PV)} (ht : P.underlying t = some (.struct fs)) (hz : ∀ w, (zeroValue t).run P w = .ok zero w) (hzs : zero.cells.size = 6)
    (hpl : ∀ w, (fs.mapM fun (f : Field) => do pure (f.offset, ← sizeOf f.type)).run P w = .ok #[(0, 4), (4, 1), (5, 1)] w) (hx : ev x (.pv (.agg [p0, p1, p2, p3]))) (hy1 : ev y1 (.own i1)) (hl1 : List.lookup i1 H = some (.mq m1)) (hy2 : ev y2 (.own i2)) (hl2 : List.lookup i2 H = some (.mq m2)) :
    OpT P ⟨dst, .build t #[(0, x), (1, y1), (2, y2)], ty, pos, after, g⟩ ev H (.aggS [.pv p0, .pv p1, .pv p2, .pv p3, .own i1, .own i2]) H none :=
  OpT.value fun V ι w a hk hr => by
    have h0 := (hr x (by simp [Op.operands]) _ hx).pv_inv
    have h1 := own_inv (hr y1 (by simp [Op.operands]) _ hy1)
    have h2 := own_inv (hr y2 (by simp [Op.operands]) _ hy2)
    have r1 := hr y1 (by simp [Op.operands]) _ hy1
    have r2 := hr y2 (by simp [Op.operands]) _ hy2
    obtain ⟨b1, _, hv1, _⟩ := hk.ok i1 _ hl1
    obtain ⟨b2, _, hv2, _⟩ := hk.ok i2 _ hl2
    obtain ⟨ys, hys, hyr⟩ : ∃ ys : List Value, a.eval x = .agg ys.toArray ∧ RepL w (Free V ι H w) ys [p0, p1, p2, p3] := by
      generalize a.eval x = v at h0
      cases h0 with
      | agg ys _ hl hr => exact ⟨ys, rfl, hl, hr⟩
    obtain ⟨q0, q1, q2, q3, rfl⟩ : ∃ q0 q1 q2 q3, ys = [q0, q1, q2, q3] := by
      match ys, hyr.1 with
      | [q0, q1, q2, q3], _ => exact ⟨q0, q1, q2, q3, rfl⟩
    have c0 : (a.eval x).cells = #[q0, q1, q2, q3] := by rw [hys]; rfl
    have c1 : (a.eval y1).cells = #[a.eval y1] := by rw [h1, hv1]; rfl
    have c2 : (a.eval y2).cells = #[a.eval y2] := by rw [h2, hv2]; rfl
    refine ⟨.agg #[q0, q1, q2, q3, a.eval y1, a.eval y2], ?_, .aggS [q0, q1, q2, q3, a.eval y1, a.eval y2] _ rfl fun k k1 k2 => by
      match k, k1, k2 with
      | 0, _, _ => exact .pv _ _ (hyr.2 0 (by simp) (by simp))
      | 1, _, _ => exact .pv _ _ (hyr.2 1 (by simp) (by simp))
      | 2, _, _ => exact .pv _ _ (hyr.2 2 (by simp) (by simp))
      | 3, _, _ => exact .pv _ _ (hyr.2 3 (by simp) (by simp))
      | 4, _, _ => exact r1
      | 5, _, _ => exact r2⟩
    obtain ⟨z0, z1, z2, z3, z4, z5, hzc⟩ : ∃ z0 z1 z2 z3 z4 z5, zero.cells = #[z0, z1, z2, z3, z4, z5] := by
      match hc : zero.cells.toList, (show zero.cells.toList.length = 6 by simpa using hzs) with
      | [z0, z1, z2, z3, z4, z5], _ => exact ⟨z0, z1, z2, z3, z4, z5, by rw [← Array.toList_inj, hc]⟩
    have hfill : Instr.fill (fun i => (#[((0 : Nat), (4 : Nat)), (4, 1), (5, 1)] : Array (Nat × Nat))[i]?) zero.cells [(0, a.eval x), (1, a.eval y1), (2, a.eval y2)] = some #[q0, q1, q2, q3, a.eval y1, a.eval y2] := by
      rw [hzc]
      simp [Instr.fill, c0, c1, c2]
    simp only [execOp, Instr.build, Sem.run_bind, hz, Result.andThen_ok, run_underlying ht, hpl]
    have e : (#[(0, x), (1, y1), (2, y2)].map fun (i, x) => (i, a.eval x)).toList = [(0, a.eval x), (1, a.eval y1), (2, a.eval y2)] := by simp
    rw [e, hfill]
    simp
end ops
theorem lookup_snocQ {k a : Int} {p : PV} : ∀ {m : List (Int × PV)}, List.lookup a (m ++ [(k, p)]) = (List.lookup a m).or (if a = k then some p else none)
  | [] => by
    rw [List.nil_append, List.lookup_cons]
    by_cases e : a = k
    · subst e; simp
    · rw [beq_eq_false_iff_ne.2 e, if_neg e]; rfl
  | (b, q) :: m => by
    rw [List.cons_append, List.lookup_cons, List.lookup_cons]
    cases (a == b) with
    | true => rfl
    | false => exact lookup_snocQ
theorem set_snocQ {k : Int} {z p : PV} (m : List (Int × PV)) : (m ++ [(k, z)]).set m.length (((m ++ [(k, z)]).getD m.length (0, .any)).1, p) = m ++ [(k, p)] := by
  simp [List.getD_eq_getElem?_getD, List.set_append_right]
/-- A nil slice in a box may be read as an empty slice. -/
theorem Ent.nilBox {env : Env} {H : Heap} (id : Nat) (α : Type) (d : α) (f : α → List PV) (hl : List.lookup id H = some (.box [.pv .nil])) : Ent ⟨env, H⟩ ⟨env, (id, .box [.pv (.seq α d f [])]) :: H⟩ := by
  intro B w0 O V n ι a w hs
  have hlk : ∀ i b, List.lookup i ((id, Blk.box [.pv (.seq α d f [])]) :: H) = some b → (i = id ∧ b = .box [.pv (.seq α d f [])]) ∨ (i ≠ id ∧ List.lookup i H = some b) := fun i b h => by
    rw [List.lookup_cons] at h
    by_cases e : i = id
    · subst e; simp at h; exact .inl ⟨rfl, h.symm⟩
    · rw [beq_eq_false_iff_ne.2 e] at h; exact .inr ⟨e, h⟩
  have hown : ∀ b, Owned ι ((id, Blk.box [.pv (.seq α d f [])]) :: H) b → Owned ι H b := fun b ⟨i, bl, h1, h2⟩ => by
    rcases hlk i bl h1 with ⟨rfl, _⟩ | ⟨_, h⟩
    · exact ⟨i, _, hl, h2⟩
    · exact ⟨i, _, h, h2⟩
  have hfree : ∀ b, Free V ι H w b → Free V ι ((id, Blk.box [.pv (.seq α d f [])]) :: H) w b := fun b h => ⟨h.1, h.2.1, fun c => h.2.2 (hown b c)⟩
  have hmv : ∀ {v : Value} {s : SV}, RepS ι w (Free V ι H w) v s → RepS ι w (Free V ι ((id, Blk.box [.pv (.seq α d f [])]) :: H) w) v s := fun h => h.move (nw := none) (fun _ _ => rfl) hfree (fun _ _ => rfl) (by simp)
  refine ⟨ι, hs.os, hs.tape, hs.output, hs.size, hs.kept, fun b hb => hs.mine b (hown b hb), ⟨fun i b h => ?_, fun i i' b b' c h1 h2 h3 h4 => ?_, fun b hb => hs.heap.vis b (hown b hb)⟩, fun t s ht => hmv (hs.env t s ht), hs.tmps, hs.marks, hs.new⟩
  · rcases hlk i b h with ⟨rfl, rfl⟩ | ⟨_, h⟩
    · obtain ⟨c, xs, e, hv, hh, hlen, hr⟩ := hs.heap.ok i _ hl
      refine ⟨c, xs, e, hv, hh, hlen, fun k h1 h2 => ?_⟩
      have hk0 : k = 0 := by simp at h2; exact h2
      subst hk0
      have h0 := (hr 0 h1 (by simp)).pv_inv
      generalize xs[0] = v at *
      cases h0
      exact .pv _ _ (.seq0 _ _ _ _ _ fun _ => rfl)
    · exact (hs.heap.ok i b h).mono hfree
  · have g : ∀ i b, List.lookup i ((id, Blk.box [.pv (.seq α d f [])]) :: H) = some b → ∃ b, List.lookup i H = some b := fun i b h => by
      rcases hlk i b h with ⟨rfl, _⟩ | ⟨_, h⟩
      · exact ⟨_, hl⟩
      · exact ⟨_, h⟩
    obtain ⟨_, g1⟩ := g i b h1
    obtain ⟨_, g2⟩ := g i' b' h2
    exact hs.heap.inj i i' _ _ c g1 g2 h3 h4
theorem rep_i0 : ∀ (w : World) (F : Nat → Prop), Rep w F (.int .i64 0) (.i 0) := fun w F => .int _ _ (inK_i64.2 (by unfold InR; simp))
theorem rep_ints0 : ∀ (w : World) (F : Nat → Prop), Rep w F (.slice none 0 0) (.ints []) := fun w F => .seq0 _ _ _ _ _ (fun _ => rfl)
theorem lookup_mapQ {α : Type} {f : α → PV} {k : Int} : ∀ {m : List (Int × α)}, List.lookup k (m.map fun p => (p.1, f p.2)) = (List.lookup k m).map f
  | [] => rfl
  | (a, b) :: m => by
    rw [List.map_cons, List.lookup_cons, List.lookup_cons]
    cases (k == a) with
    | true => rfl
    | false => exact lookup_mapQ
section ops
variable {P : Program} {ev : Operand → SV → Prop} {H : Heap} {dst : Option Nat} {ty : TypeId} {pos : String} {after : Array Edge} {g : Option (Nat × Bool)}
theorem op_entryStoreN {t : TypeId} {x y s : Operand} {id : Nat} {m : List (Int × PV)} {k : Int} {z p : PV}
    (hx : ev x (.own id)) (hl : List.lookup id H = some (.mq (m ++ [(k, z)]))) (hs : ev s (.int (m.length : Nat))) (hy : ev y (.pv p)) :
    OpT P ⟨none, .entryStore t x s y, ty, pos, after, g⟩ ev H (.pv .any) ((id, .mq (m ++ [(k, p)])) :: H) none := by
  have h := op_entryStoreQ (P := P) (t := t) (ty := ty) (pos := pos) (after := after) (g := g) hx hl hs hy (by simp)
  rwa [set_snocQ] at h
end ops
section run
variable {ro : Option Nat} {P : Program} {ops : Array Oper} {op : Op} {dst : Option Nat} {ty : TypeId} {pos : String} {after : Array Edge} {rest : List Oper} {env : Env} {H : Heap} {st' : St} {tr : List Tr}
/-- An operation whose guard was itself left out. -/
theorem Run.noo {j t : Nat} {want b : Bool} (hj : guardSlot ops j = some t) (ht : lk env t = some (.opt false (.pv (.bool b)))) (r : Run (ro := ro) P ops rest ⟨upd env dst (.opt false (.pv (.bool false))), H⟩ tr st') :
    Run (ro := ro) P ops (⟨dst, op, ty, pos, after, some (j, want)⟩ :: rest) ⟨env, H⟩ (⟨.N, .opt false (.pv (.bool false)), H, none⟩ :: tr) st' :=
  .neu (fun H => .inr (.inl ⟨j, want, t, false, .pv (.bool false), rfl, hj, .inr ⟨false, b, ht, rfl⟩, rfl, rfl, rfl, fun e => by cases e⟩)) r
/-- A guarded call of a loop's body where the guard is known to hold. -/
theorem Run.key {v : SV} {H' : Heap} {nw : Option Nat} {j t : Nat} {want : Bool} (hj : guardSlot ops j = some t) (ht : lk env t = some (.pv (.bool want))) (h : OpTI ro P ⟨dst, op, ty, pos, after, some (j, want)⟩ (Sees true (lk env)) H v H' nw) (hf : freshIn nw env = true) (r : Run (ro := ro) P ops rest ⟨upd env dst v, H'⟩ tr st') :
    Run (ro := ro) P ops (⟨dst, op, ty, pos, after, some (j, want)⟩ :: rest) ⟨env, H⟩ (⟨.E, v, H', nw⟩ :: tr) st' := .eff (.inr (.inr ⟨j, want, t, rfl, hj, ht, h⟩)) hf r
end run
/-- Some operations look at blocks that nothing in the region changes. -/
theorem gOk_each {ops : Array Oper} {tr : List Tr} {H0 : Heap} (l es : List Nat) (hone : ((List.range tr.length).all fun i => (trAt tr i).cls != .G || l.contains i) = true)
    (hes : ((List.range ops.size).all fun k => (trAt tr k).cls != .A && ((trAt tr k).cls != .E || es.contains k)) = true)
    (h : ∀ i, i ∈ l → ∃ id blk, (trAt tr i).H = [(id, blk)] ∧ List.lookup id H0 = some blk ∧ ∀ k, k ∈ es → List.lookup id (trAt tr k).H = some blk) : gOk ops tr H0 := by
  intro i hi id' blk' hH'
  have him : i ∈ l := by
    rcases Nat.lt_or_ge i tr.length with hlt | hge
    · have h1 := List.all_eq_true.1 hone i (List.mem_range.2 hlt)
      simpa [hi] using h1
    · have e : trAt tr i = ⟨.N, .pv .any, [], none⟩ := by simp [trAt, List.getD_eq_getElem?_getD, List.getElem?_eq_none hge]
      rw [e] at hi; cases hi
  obtain ⟨id, blk, hH, h0, hl⟩ := h i him
  rw [hH] at hH'
  simp only [List.cons.injEq, Prod.mk.injEq, and_true] at hH'
  obtain ⟨rfl, rfl⟩ := hH'
  refine ⟨.inl h0, fun k hk hE hu => ?_, fun k hk hA => ?_⟩
  · have h1 := List.all_eq_true.1 hes k (List.mem_range.2 hk)
    simp only [Bool.and_eq_true, Bool.or_eq_true, bne_iff_ne, ne_eq] at h1
    rcases h1.2 with h2 | h2
    · exact absurd hE h2
    · exact hl k (by simpa using h2)
  · have h1 := List.all_eq_true.1 hes k (List.mem_range.2 hk)
    simp [hA] at h1
end Go.Abs
