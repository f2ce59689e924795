/- An owned box is given up: read alone from then on. Conditions: each law names its own. -/
import Derived.Test.YtolmcapbpliaiaaDoorAbsN
namespace Go.Abs
set_option linter.unusedVariables false
variable {B : BT}

/-- A closure that holds plain values, as one that may hold handles. -/
theorem Ent.clo {env : Env} {H : Heap} (t : Nat) {K : FuncId} {ps : List PV} (ht : lk env t = some (.pv (.clo K ps))) : Ent ⟨env, H⟩ ⟨(t, .clo (.func K) (ps.map SV.pv)) :: env, H⟩ := by
  intro B w0 O V n ι a w hs
  refine ⟨ι, Sim.put hs ?_⟩
  have h := (hs.env t _ ht).pv_inv
  generalize a.tmps.getD t undef = u at h
  cases h with
  | clo _ xs _ hl hr =>
    refine .clo _ xs _ (by simpa using hl) fun k h1 h2 => ?_
    rw [List.getElem_map]
    exact .pv _ _ (hr k h1 (by simpa using h2))

theorem retYe {ι0 : Nat → Value} {y : Nat} {H H' : Heap} {st : St} (hk : KeptH st.H H') (hp : PinsK st.env ι0 none ((y, .box []) :: H)) : retY ι0 y H H' .normal st :=
  ⟨st, Ent.refl _, hk, fun id hid => hp.get id (by simp) (by simpa using hid)⟩

section ops
variable {P : Program} {ev : Operand → SV → Prop} {H : Heap} {dst : Option Nat} {ty : TypeId} {pos : String} {after : Array Edge} {g : Option (Nat × Bool)}
theorem op_makeFunc2 {K : FuncId} {x0 x1 : Operand} {p0 p1 : PV} (h0 : ev x0 (.pv p0)) (h1 : ev x1 (.pv p1)) : OpT P ⟨dst, .makeFunc (.func K) #[] #[x0, x1], ty, pos, after, g⟩ ev H (.pv (.clo K [p0, p1])) H none :=
  op_makeFunc (by rfl) fun k a b => by
    match k, a, b with
    | 0, _, _ => exact h0
    | 1, _, _ => exact h1
end ops
end Go.Abs

namespace Go.Abs
set_option linter.unusedVariables false
variable {B : BT}

theorem Ent.giveBox {env : Env} {H : Heap} (t : Nat) {id : Nat} {cs : List SV} {ps : List PV} (ht : lk env t = some (.ref id 0)) (hl : List.lookup id H = some (.box cs)) (hp : plainAll cs = some ps) :
    Ent ⟨env, H⟩ ⟨(t, .pv (.rd ps)) :: env, hdrop id H⟩ := by
  intro B w0 O V n ι a w hs
  refine ⟨ι, (hs.sub fun i b hi => lookup_hdrop_sub hi).put (.pv _ _ ?_)⟩
  have h0 := hs.env t _ ht
  obtain ⟨b, xs, e, hv, hh, hlen, hr⟩ := hs.heap.ok id _ hl
  generalize a.tmps.getD t undef = v at *
  cases h0 with
  | ref _ _ b' hb' =>
  rw [hv] at hb'
  simp only [Value.pointer.injEq, Option.some.injEq, Addr.mk.injEq, and_true] at hb'
  subst hb'
  have hb1 : blkOf (ι id) = some b := by rw [hv]; rfl
  have hfr : Free V ι (hdrop id H) w b := by
    refine ⟨hs.heap.lt ⟨id, _, hl, hb1⟩, hs.heap.vis b ⟨id, _, hl, hb1⟩, ?_⟩
    rintro ⟨i, bl, hi, hb'⟩
    simp only [lookup_hdrop] at hi
    split at hi
    · simp at hi
    · rename_i hne
      exact hne (hs.heap.inj i id bl _ b hi hl hb' hb1)
  have hrl := plainAll_spec hp hlen hr
  refine .rd ps b 0 xs hfr hrl.1 (fun k h1 => by simp [World.cell?, hh, h1]) fun k h1 h2 => (hrl.2 k h1 h2).mono (fun _ _ => rfl) fun b hb => hb.of_sub fun i b hi => lookup_hdrop_sub hi

/-! ### A slice of one struct -/
section ops
variable {P : Program} {ev : Operand → SV → Prop} {H : Heap} {dst : Option Nat} {ty : TypeId} {pos : String} {after : Array Edge} {g : Option (Nat × Bool)}
theorem buildSlice_run1 {t e z bytes : Nat} {zero : Value} {out : List PV} {parts : Array (Nat × Operand)} {pp : List (Nat × PV)} {zc : List PV} (hty : ElemTy P t e z bytes zero) (hzc : plainCells zero.cells.toList = some zc) (hp : PartsOk ev parts.toList pp)
    (hfill : fillPV (fun i => some (i * z, z)) zc pp = some out) (hzb : z ≤ 1000)
    {V : Nat → Prop} {ι : Nat → Value} {w : World} {a : Act} (hr : ∀ x, x ∈ (parts.toList.map (·.2)).toArray → ∀ s, ev x s → RepS ι w (Free V ι H w) (a.eval x) s) :
    ∃ xs : List Value, (Instr.buildSlice t 1 (partsV a parts)).run P w = .ok (.slice (some ⟨w.heap.size, 0, none⟩) 1 1) (w.alloc (.cells xs.toArray e)) ∧ RepL w (Free V ι H w) xs out := by
  obtain ⟨i, hi, hz0, hsz, hby⟩ := hty.row
  obtain ⟨h1, h2⟩ := parts_rep (ι := ι) (w := w) (F := Free V ι H w) (a := a) hp hr
  have hzs : zero.cells.size = z := hty.zs
  have hzp := hty.pos
  have hzr : RepL w (Free V ι H w) zero.cells.toList zc := plainCells_spec hzc
  have hmade : ((Array.range (1 * z)).map (zero.cells[· % zero.cells.size]!)) = zero.cells := by
    refine Array.ext (by simp [hzs]) fun k h1 h2 => ?_
    have hk : k < z := by simpa [hzs] using h2
    simp only [Array.getElem_map, Array.getElem_range, hzs, Nat.mod_eq_of_lt hk]
    rw [getElem!_pos zero.cells k h2]
  obtain ⟨ys, h3, h4⟩ := fill_rep (place := fun i => some (i * z, z)) _ pp zero.cells zc out h1 h2 hzr hfill
  refine ⟨ys.toList, ?_, h4⟩
  have hlim : ¬ (2 ^ 24 < z) := by omega
  simp only [Nat.one_mul] at hmade
  simp [Instr.buildSlice, run_underlying hty.sl, sizeOf, typeInfo, zeroValue, hi, hz0, hsz, hlim, hmade, h3, newRow]
  intro h0; omega
theorem op_slit1 {t e z bytes : Nat} {zero : Value} {parts : Array (Nat × Operand)} {pp : List (Nat × PV)} {zc : List PV} {α : Type} {d : α} {f : α → List PV} (x : α) (hty : ElemTy P t e z bytes zero) (hzc : plainCells zero.cells.toList = some zc) (hp : PartsOk ev parts.toList pp)
    (hfill : fillPV (fun i => some (i * z, z)) zc pp = some (f x)) (hzb : z ≤ 1000) : OpT P ⟨dst, .buildSlice t 1 parts, ty, pos, after, g⟩ ev H (.pv (.seq α d f [x])) H none := by
  intro V ι w a Q hV hk hr
  obtain ⟨xs, hrun, hrep⟩ := buildSlice_run1 (H := H) (V := V) (ι := ι) (w := w) (a := a) hty hzc hp hfill hzb (by simpa [Op.operands] using hr)
  have hst := Step.alloc (V := V) hk (.cells xs.toArray e)
  unfold Oper.wp
  have hrun' : (execOp a.eval ⟨dst, .buildSlice t 1 parts, ty, pos, after, g⟩).run P w = .ok (.value (.slice (some ⟨w.heap.size, 0, none⟩) 1 1)) (w.alloc (.cells xs.toArray e)) := by
    have hpv : (parts.map fun (i, x) => (i, a.eval x)) = partsV a parts := rfl
    simp only [execOp, hpv]
    simp [hrun]
  rw [hrun']
  refine ⟨ι, _, rfl, hst, .pv _ _ ?_⟩
  have hrep' := hst.repL hrep
  have e1 : [x].flatMap f = f x := by simp
  refine .seq α d f [x] w.heap.size 0 1 xs ⟨by simp, hV _ (Nat.le_refl _), fun ho => absurd (hk.lt ho) (by omega)⟩ (by simp) (by simp) (by rw [e1]; exact hrep'.1) (fun k h1 => ?_) (by rw [e1]; exact hrep'.2)
  simp [h1]
/-- A slice literal of no elements, whatever an element's size. -/
theorem op_slitE {t e z bytes : Nat} {zero : Value} {α : Type} {d : α} {f : α → List PV} (id : Nat) (hty : ElemTy P t e z bytes zero) (hz : ∀ a, (f a).length = z) (hm : heapMen id H = false) :
    OpT P ⟨dst, .buildSlice t 0 #[], ty, pos, after, g⟩ ev H (.own id) ((id, .arr e z α d f []) :: H) (some id) :=
  OpT.newRow hm hz (by simp) fun V ι w a hk hr => by
    obtain ⟨i, hi, hz0, hsz, hby⟩ := hty.row
    refine ⟨[], ?_, by simp; exact RepL.nil⟩
    simp [execOp, Instr.buildSlice, run_underlying hty.sl, sizeOf, typeInfo, zeroValue, hi, hz0, hsz, newRow, Instr.fill, show Array.range 0 = #[] from rfl]
end ops
section rets
variable {P : Program} {fn : Func} {v : PV} {st : St}
theorem ret4 {t0 t1 t2 t3 : Nat} {s0 s1 s2 s3 : SV} {p0 p1 p2 p3 : PV} (hr : fn.results.toList = [.tmp t0, .tmp t1, .tmp t2, .tmp t3]) (h0 : lk st.env t0 = some s0) (h1 : lk st.env t1 = some s1) (h2 : lk st.env t2 = some s2) (h3 : lk st.env t3 = some s3)
    (g0 : viewS st.H s0 = some p0) (g1 : viewS st.H s1 = some p1) (g2 : viewS st.H s2 = some p2) (g3 : viewS st.H s3 = some p3) (hv : PV.tup [p0, p1, p2, p3] = v) : retQ P fn v .normal st :=
  ⟨st, [p0, p1, p2, p3], Ent.refl _, by rw [hr]; intro c t hm; simp at hm, by rw [hr]; simp only [resL, resV, h0, h1, h2, h3, g0, g1, g2, g3], hv⟩
end rets
end Go.Abs
