/- The walk's own forms of the laws: a step of a region, a call by the number of its arguments, the ends. Conditions: each law names its own. -/
import Derived.Test.YtolmcapbpliaiaaDoorAbs4
namespace Go.Abs
set_option linter.unusedVariables false

theorem eqF {p : Bool} (h : p = false) : (p == false) = true := by rw [h]; rfl
theorem eqT {p : Bool} (h : p = true) : (p == true) = true := by rw [h]; rfl
theorem andI {p q : Bool} (h : p = true) (h' : q = true) : (p && q) = true := by rw [h, h']; rfl
theorem andL {p q : Bool} (h : (p && q) = true) : p = true := by cases p <;> simp_all
theorem andR {p q : Bool} (h : (p && q) = true) : q = true := by cases p <;> simp_all

section run
variable {ro : Option Nat} {P : Program} {ops : Array Oper} {rest : List Oper} {env : Env} {H H' : Heap} {v : SV} {tr : List Tr} {st' : St} {dst : Option Nat} {op : Op} {ty : TypeId} {pos : String} {after : Array Edge} {nw : Option Nat}

theorem Run.n (h : ∀ H, OpT P ⟨dst, op, ty, pos, after, none⟩ (Sees true (lk env)) H v H none) (r : Run (ro := ro) P ops rest ⟨upd env dst v, H⟩ tr st') :
    Run (ro := ro) P ops (⟨dst, op, ty, pos, after, none⟩ :: rest) ⟨env, H⟩ (⟨.N, v, H, none⟩ :: tr) st' := .neu (fun H => .inl ⟨rfl, (h H).lift⟩) r
theorem Run.r (h : OpT P ⟨dst, op, ty, pos, after, none⟩ (Sees true (lk env)) H v H none) (r : Run (ro := ro) P ops rest ⟨upd env dst v, H⟩ tr st') :
    Run (ro := ro) P ops (⟨dst, op, ty, pos, after, none⟩ :: rest) ⟨env, H⟩ (⟨.R, v, H, none⟩ :: tr) st' := .rd (.inl ⟨rfl, h.lift⟩) r
theorem Run.e (h : OpT P ⟨dst, op, ty, pos, after, none⟩ (Sees true (lk env)) H v H' nw) (hf : freshIn nw env = true) (r : Run (ro := ro) P ops rest ⟨upd env dst v, H'⟩ tr st') :
    Run (ro := ro) P ops (⟨dst, op, ty, pos, after, none⟩ :: rest) ⟨env, H⟩ (⟨.E, v, H', nw⟩ :: tr) st' := .eff (.inl ⟨rfl, h.lift⟩) hf r

/-- An operation that looks at one block alone. -/
theorem Run.look (id : Nat) {blk : Blk} (hl : List.lookup id H = some blk) (h : ∀ H, List.lookup id H = some blk → OpT P ⟨dst, op, ty, pos, after, none⟩ (Sees true (lk env)) H v H none) (r : Run (ro := ro) P ops rest ⟨upd env dst v, H⟩ tr st') :
    Run (ro := ro) P ops (⟨dst, op, ty, pos, after, none⟩ :: rest) ⟨env, H⟩ (⟨.G, v, [(id, blk)], none⟩ :: tr) st' := .gd (fun H hl => .inl ⟨rfl, (h H hl).lift⟩) hl r

/-- An operation that lays a block anew, whatever else is owned. -/
theorem Run.a {id : Nat} {blk : Blk} (h : ∀ H, heapMen id H = false → OpT P ⟨dst, op, ty, pos, after, none⟩ (Sees true (lk env)) H v ((id, blk) :: H) (some id)) (hm : heapMen id H = false) (hb : ∀ j, blk.men j = false)
    (hf : freshIn (some id) env = true) (r : Run (ro := ro) P ops rest ⟨upd env dst v, (id, blk) :: H⟩ tr st') :
    Run (ro := ro) P ops (⟨dst, op, ty, pos, after, none⟩ :: rest) ⟨env, H⟩ (⟨.A, v, [(id, blk)], some id⟩ :: tr) st' := .add (fun H hm => .inl ⟨rfl, (h H hm).lift⟩) hm hb hf r

/-- A guarded operation: it yields v where the guard says so. -/
theorem Run.gn {j t : Nat} {want b : Bool} (hj : guardSlot ops j = some t) (ht : lk env t = some (.pv (.bool b))) (h : (b == want) = true → ∀ H, OpT P ⟨dst, op, ty, pos, after, some (j, want)⟩ (Sees (b == want) (lk env)) H v H none)
    (r : Run (ro := ro) P ops rest ⟨upd env dst (.opt (b == want) v), H⟩ tr st') :
    Run (ro := ro) P ops (⟨dst, op, ty, pos, after, some (j, want)⟩ :: rest) ⟨env, H⟩ (⟨.N, .opt (b == want) v, H, none⟩ :: tr) st' :=
  .neu (fun H => .inr (.inl ⟨j, want, t, _, v, rfl, hj, .inl ⟨b, ht, rfl⟩, rfl, rfl, rfl, fun e => (h e H).lift⟩)) r
theorem Run.gr {j t : Nat} {want b : Bool} (hj : guardSlot ops j = some t) (ht : lk env t = some (.pv (.bool b))) (h : (b == want) = true → OpT P ⟨dst, op, ty, pos, after, some (j, want)⟩ (Sees (b == want) (lk env)) H v H none)
    (r : Run (ro := ro) P ops rest ⟨upd env dst (.opt (b == want) v), H⟩ tr st') :
    Run (ro := ro) P ops (⟨dst, op, ty, pos, after, some (j, want)⟩ :: rest) ⟨env, H⟩ (⟨.R, .opt (b == want) v, H, none⟩ :: tr) st' :=
  .rd (.inr (.inl ⟨j, want, t, _, v, rfl, hj, .inl ⟨b, ht, rfl⟩, rfl, rfl, rfl, fun e => (h e).lift⟩)) r
/-- A guard behind a guard. -/
theorem Run.ggn {j t : Nat} {want b g0 : Bool} (hj : guardSlot ops j = some t) (ht : lk env t = some (.opt g0 (.pv (.bool b)))) (h : (g0 && (b == want)) = true → ∀ H, OpT P ⟨dst, op, ty, pos, after, some (j, want)⟩ (Sees (g0 && (b == want)) (lk env)) H v H none)
    (r : Run (ro := ro) P ops rest ⟨upd env dst (.opt (g0 && (b == want)) v), H⟩ tr st') :
    Run (ro := ro) P ops (⟨dst, op, ty, pos, after, some (j, want)⟩ :: rest) ⟨env, H⟩ (⟨.N, .opt (g0 && (b == want)) v, H, none⟩ :: tr) st' :=
  .neu (fun H => .inr (.inl ⟨j, want, t, _, v, rfl, hj, .inr ⟨g0, b, ht, rfl⟩, rfl, rfl, rfl, fun e => (h e H).lift⟩)) r
theorem Run.ggr {j t : Nat} {want b g0 : Bool} (hj : guardSlot ops j = some t) (ht : lk env t = some (.opt g0 (.pv (.bool b)))) (h : (g0 && (b == want)) = true → OpT P ⟨dst, op, ty, pos, after, some (j, want)⟩ (Sees (g0 && (b == want)) (lk env)) H v H none)
    (r : Run (ro := ro) P ops rest ⟨upd env dst (.opt (g0 && (b == want)) v), H⟩ tr st') :
    Run (ro := ro) P ops (⟨dst, op, ty, pos, after, some (j, want)⟩ :: rest) ⟨env, H⟩ (⟨.R, .opt (g0 && (b == want)) v, H, none⟩ :: tr) st' :=
  .rd (.inr (.inl ⟨j, want, t, _, v, rfl, hj, .inr ⟨g0, b, ht, rfl⟩, rfl, rfl, rfl, fun e => (h e).lift⟩)) r
/-- A guarded operation where the guard is known to hold: it may do whatever it does. -/
theorem Run.kn {j t : Nat} {want : Bool} (hj : guardSlot ops j = some t) (ht : lk env t = some (.pv (.bool want))) (h : ∀ H, OpT P ⟨dst, op, ty, pos, after, some (j, want)⟩ (Sees true (lk env)) H v H none) (r : Run (ro := ro) P ops rest ⟨upd env dst v, H⟩ tr st') :
    Run (ro := ro) P ops (⟨dst, op, ty, pos, after, some (j, want)⟩ :: rest) ⟨env, H⟩ (⟨.N, v, H, none⟩ :: tr) st' := .neu (fun H => .inr (.inr ⟨j, want, t, rfl, hj, ht, (h H).lift⟩)) r
theorem Run.kr {j t : Nat} {want : Bool} (hj : guardSlot ops j = some t) (ht : lk env t = some (.pv (.bool want))) (h : OpT P ⟨dst, op, ty, pos, after, some (j, want)⟩ (Sees true (lk env)) H v H none) (r : Run (ro := ro) P ops rest ⟨upd env dst v, H⟩ tr st') :
    Run (ro := ro) P ops (⟨dst, op, ty, pos, after, some (j, want)⟩ :: rest) ⟨env, H⟩ (⟨.R, v, H, none⟩ :: tr) st' := .rd (.inr (.inr ⟨j, want, t, rfl, hj, ht, h.lift⟩)) r
theorem Run.ke {j t : Nat} {want : Bool} (hj : guardSlot ops j = some t) (ht : lk env t = some (.pv (.bool want))) (h : OpT P ⟨dst, op, ty, pos, after, some (j, want)⟩ (Sees true (lk env)) H v H' nw) (hf : freshIn nw env = true) (r : Run (ro := ro) P ops rest ⟨upd env dst v, H'⟩ tr st') :
    Run (ro := ro) P ops (⟨dst, op, ty, pos, after, some (j, want)⟩ :: rest) ⟨env, H⟩ (⟨.E, v, H', nw⟩ :: tr) st' := .eff (.inr (.inr ⟨j, want, t, rfl, hj, ht, h.lift⟩)) hf r
theorem Run.klook {j t : Nat} {want : Bool} (hj : guardSlot ops j = some t) (ht : lk env t = some (.pv (.bool want))) (id : Nat) {blk : Blk} (hl : List.lookup id H = some blk) (h : ∀ H, List.lookup id H = some blk → OpT P ⟨dst, op, ty, pos, after, some (j, want)⟩ (Sees true (lk env)) H v H none)
    (r : Run (ro := ro) P ops rest ⟨upd env dst v, H⟩ tr st') : Run (ro := ro) P ops (⟨dst, op, ty, pos, after, some (j, want)⟩ :: rest) ⟨env, H⟩ (⟨.G, v, [(id, blk)], none⟩ :: tr) st' := .gd (fun H hl => .inr (.inr ⟨j, want, t, rfl, hj, ht, (h H hl).lift⟩)) hl r
/-- A guarded operation where the guard is known not to hold: it is left out. -/
theorem Run.no {j t : Nat} {want b : Bool} (hj : guardSlot ops j = some t) (ht : lk env t = some (.pv (.bool b))) (hb : (b == want) = false) (r : Run (ro := ro) P ops rest ⟨upd env dst (.opt false (.pv (.bool false))), H⟩ tr st') :
    Run (ro := ro) P ops (⟨dst, op, ty, pos, after, some (j, want)⟩ :: rest) ⟨env, H⟩ (⟨.N, .opt false (.pv (.bool false)), H, none⟩ :: tr) st' :=
  .neu (fun H => .inr (.inl ⟨j, want, t, false, .pv (.bool false), rfl, hj, .inl ⟨b, ht, hb.symm⟩, rfl, rfl, rfl, fun e => by cases e⟩)) r
end run

section calls
variable {P : Program} {ev : Operand → SV → Prop} {H : Heap} {dst : Option Nat} {ty : TypeId} {pos : String} {after : Array Edge} {g : Option (Nat × Bool)} {K : FuncId} {ts : Array TypeId} {v : PV}
  (hcall : ∀ vs w, (callFunc K vs).run P w = .ok (.enter K vs) w)
include hcall
theorem op_call0 (hf : FC P K [] v) : OpT P ⟨dst, .call ⟨.value (.func K), #[], ts⟩, ty, pos, after, g⟩ ev H (.pv v) H none :=
  op_call hcall rfl (fun k h1 => absurd h1 (by simp)) hf
theorem op_call1 {x0 : Operand} {p0 : PV} (h0 : ev x0 (.pv p0)) (hf : FC P K [p0] v) : OpT P ⟨dst, .call ⟨.value (.func K), #[x0], ts⟩, ty, pos, after, g⟩ ev H (.pv v) H none :=
  op_call hcall rfl (fun k h1 h2 => by match k, h1, h2 with | 0, _, _ => exact h0) hf
theorem op_call2 {x0 x1 : Operand} {p0 p1 : PV} (h0 : ev x0 (.pv p0)) (h1 : ev x1 (.pv p1)) (hf : FC P K [p0, p1] v) : OpT P ⟨dst, .call ⟨.value (.func K), #[x0, x1], ts⟩, ty, pos, after, g⟩ ev H (.pv v) H none :=
  op_call hcall rfl (fun k a b => by match k, a, b with | 0, _, _ => exact h0 | 1, _, _ => exact h1) hf
theorem op_call3 {x0 x1 x2 : Operand} {p0 p1 p2 : PV} (h0 : ev x0 (.pv p0)) (h1 : ev x1 (.pv p1)) (h2 : ev x2 (.pv p2)) (hf : FC P K [p0, p1, p2] v) : OpT P ⟨dst, .call ⟨.value (.func K), #[x0, x1, x2], ts⟩, ty, pos, after, g⟩ ev H (.pv v) H none :=
  op_call hcall rfl (fun k a b => by match k, a, b with | 0, _, _ => exact h0 | 1, _, _ => exact h1 | 2, _, _ => exact h2) hf
theorem op_call4 {x0 x1 x2 x3 : Operand} {p0 p1 p2 p3 : PV} (h0 : ev x0 (.pv p0)) (h1 : ev x1 (.pv p1)) (h2 : ev x2 (.pv p2)) (h3 : ev x3 (.pv p3)) (hf : FC P K [p0, p1, p2, p3] v) :
    OpT P ⟨dst, .call ⟨.value (.func K), #[x0, x1, x2, x3], ts⟩, ty, pos, after, g⟩ ev H (.pv v) H none :=
  op_call hcall rfl (fun k a b => by match k, a, b with | 0, _, _ => exact h0 | 1, _, _ => exact h1 | 2, _, _ => exact h2 | 3, _, _ => exact h3) hf
theorem op_call5 {x0 x1 x2 x3 x4 : Operand} {p0 p1 p2 p3 p4 : PV} (h0 : ev x0 (.pv p0)) (h1 : ev x1 (.pv p1)) (h2 : ev x2 (.pv p2)) (h3 : ev x3 (.pv p3)) (h4 : ev x4 (.pv p4)) (hf : FC P K [p0, p1, p2, p3, p4] v) :
    OpT P ⟨dst, .call ⟨.value (.func K), #[x0, x1, x2, x3, x4], ts⟩, ty, pos, after, g⟩ ev H (.pv v) H none :=
  op_call hcall rfl (fun k a b => by match k, a, b with | 0, _, _ => exact h0 | 1, _, _ => exact h1 | 2, _, _ => exact h2 | 3, _, _ => exact h3 | 4, _, _ => exact h4) hf
end calls

section ends
variable {P : Program} {fn : Func} {st : St} {v : PV}
theorem retQ.ret (h : retQ P fn v .normal st) : retQ P fn v .ret st := h
theorem ret1 {t : Nat} {s : SV} {p : PV} (hr : fn.results.toList = [.tmp t]) (h : lk st.env t = some s) (hs : viewS st.H s = some p) (hv : p = v) : retQ P fn v .normal st :=
  ⟨st, [p], Ent.refl _, by rw [hr]; intro c t hm; simp at hm, by rw [hr]; simp only [resL, resV, h, hs], hv⟩
theorem ret2 {t u : Nat} {s s' : SV} {p q : PV} (hr : fn.results.toList = [.tmp t, .tmp u]) (h : lk st.env t = some s) (h' : lk st.env u = some s') (hs : viewS st.H s = some p) (hs' : viewS st.H s' = some q) (hv : PV.tup [p, q] = v) : retQ P fn v .normal st :=
  ⟨st, [p, q], Ent.refl _, by rw [hr]; intro c t hm; simp at hm, by rw [hr]; simp only [resL, resV, h, h', hs, hs'], hv⟩
theorem ret3 {t u x : Nat} {s s' s2 : SV} {p q r : PV} (hr : fn.results.toList = [.tmp t, .tmp u, .tmp x]) (h : lk st.env t = some s) (h' : lk st.env u = some s') (h2 : lk st.env x = some s2) (hs : viewS st.H s = some p) (hs' : viewS st.H s' = some q)
    (hs2 : viewS st.H s2 = some r) (hv : PV.tup [p, q, r] = v) : retQ P fn v .normal st :=
  ⟨st, [p, q, r], Ent.refl _, by rw [hr]; intro c t hm; simp at hm, by rw [hr]; simp only [resL, resV, h, h', h2, hs, hs', hs2], hv⟩
/-- One struct. -/
theorem retC {c t : Nat} {ps : List PV} (hr : fn.results.toList = [.cell c t]) (h : resV (lk st.env) st.H (.cell c t) = some (.agg ps)) (ha : ∀ w, (isAgg t).run P w = .ok true w) (hz : ∀ w, (sizeOf t).run P w = .ok ps.length w) (hv : PV.agg ps = v) : retQ P fn v .normal st :=
  ⟨st, [.agg ps], Ent.refl _, by
    rw [hr]
    intro c' t' hm cs hcs
    simp only [List.mem_singleton, ResultVar.cell.injEq] at hm
    obtain ⟨rfl, rfl⟩ := hm
    rw [h] at hcs
    simp only [Option.some.injEq, PV.agg.injEq] at hcs
    subst hcs
    exact ⟨ha, hz⟩, by rw [hr]; simp only [resL, h], hv⟩
/-- A struct and something else. -/
theorem retC1 {c t u : Nat} {ps : List PV} {s : SV} {q : PV} (hr : fn.results.toList = [.cell c t, .tmp u]) (h : resV (lk st.env) st.H (.cell c t) = some (.agg ps)) (ha : ∀ w, (isAgg t).run P w = .ok true w) (hz : ∀ w, (sizeOf t).run P w = .ok ps.length w)
    (h' : lk st.env u = some s) (hs : viewS st.H s = some q) (hv : PV.tup [PV.agg ps, q] = v) : retQ P fn v .normal st :=
  ⟨st, [.agg ps, q], Ent.refl _, by
    rw [hr]
    intro c' t' hm cs hcs
    simp only [List.mem_cons, ResultVar.cell.injEq, List.not_mem_nil, or_false, reduceCtorEq] at hm
    obtain ⟨rfl, rfl⟩ := hm
    rw [h] at hcs
    simp only [Option.some.injEq, PV.agg.injEq] at hcs
    subst hcs
    exact ⟨ha, hz⟩, by rw [hr]; simp only [resL, h]; simp only [resV, h', hs], hv⟩

/-- What is kept at a loop's head: slot by slot. -/
def KeptE (env : Env) : Env → Prop
  | [] => True
  | (t, s) :: r => lk env t = some s ∧ KeptE env r
def KeptH (H : Heap) : Heap → Prop
  | [] => True
  | (t, s) :: r => List.lookup t H = some s ∧ KeptH H r
theorem KeptE.mem {env : Env} : ∀ {r : Env}, KeptE env r → ∀ p, p ∈ r → lk env p.1 = some p.2
  | [], _, p, hp => by simp at hp
  | (t, s) :: r, h, p, hp => by
    rcases List.mem_cons.1 hp with rfl | hp
    · exact h.1
    · exact KeptE.mem h.2 p hp
theorem KeptH.mem {H : Heap} : ∀ {r : Heap}, KeptH H r → ∀ p, p ∈ r → List.lookup p.1 H = some p.2
  | [], _, p, hp => by simp at hp
  | (t, s) :: r, h, p, hp => by
    rcases List.mem_cons.1 hp with rfl | hp
    · exact h.1
    · exact KeptH.mem h.2 p hp
theorem Ent.kept {st' : St} (he : KeptE st.env st'.env) (hh : KeptH st.H st'.H) : Ent st st' := Ent.weak ⟨he.mem, hh.mem⟩
end ends
end Go.Abs
