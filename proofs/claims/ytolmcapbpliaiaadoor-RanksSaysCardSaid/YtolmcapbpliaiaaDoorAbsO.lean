/- Closures as values and as handles; a round's end. Conditions: each law names its own. -/
import Derived.Test.YtolmcapbpliaiaaDoorAbsN
namespace Go.Abs
set_option linter.unusedVariables false

/-- A closure that holds plain values, as one that may hold handles. -/
theorem Ent.clo {env : Env} {H : Heap} (t : Nat) {K : FuncId} {ps : List PV} (ht : lk env t = some (.pv (.clo K ps))) : Ent ⟨env, H⟩ ⟨(t, .clo (.func K) (ps.map SV.pv)) :: env, H⟩ := by
  intro w0 O V n ι a w hs
  refine ⟨ι, Sim.put hs ?_⟩
  have h := (hs.env t _ ht).pv_inv
  generalize a.tmps.getD t undef = u at h
  cases h with
  | clo _ xs _ hl hr =>
    refine .clo _ xs _ (by simpa using hl) fun k h1 h2 => ?_
    rw [List.getElem_map]
    exact .pv _ _ (hr k h1 (by simpa using h2))

theorem retYe {ι0 : Nat → Value} {y : Nat} {H H' : Heap} {st : St} (hk : KeptH st.H H') (hp : PinsK st.env ι0 none ((y, .box []) :: H)) : retY ι0 y H H' .normal st :=
  ⟨st, Ent.refl _, hk, fun id hid => hp.get id (by simp) (by simpa using hid)⟩

section ops
variable {P : Program} {ev : Operand → SV → Prop} {H : Heap} {dst : Option Nat} {ty : TypeId} {pos : String} {after : Array Edge} {g : Option (Nat × Bool)}
theorem op_makeFunc2 {K : FuncId} {x0 x1 : Operand} {p0 p1 : PV} (h0 : ev x0 (.pv p0)) (h1 : ev x1 (.pv p1)) : OpT P ⟨dst, .makeFunc (.func K) #[] #[x0, x1], ty, pos, after, g⟩ ev H (.pv (.clo K [p0, p1])) H none :=
  op_makeFunc (by rfl) fun k a b => by
    match k, a, b with
    | 0, _, _ => exact h0
    | 1, _, _ => exact h1
end ops
end Go.Abs
