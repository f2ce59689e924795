/- Calls that may panic, lent owned blocks that they read alone; a panic of the text's own; package-level variables that lie where they were laid. Conditions: each law names its own. -/
import Derived.Test.YtolmcapbpliaiaaDoorAbsW
import Derived.Laws.Strings2
import Derived.DefersIn
import Derived.Stop.IfaceNil
namespace Go.Abs
set_option linter.unusedVariables false
section ops
variable {P : Program} {ev : Operand → SV → Prop} {H : Heap} {dst : Option Nat} {ty : TypeId} {pos : String} {after : Array Edge} {g : Option (Nat × Bool)}

/-- 'x[lo:hi]' of a text. -/
theorem op_sliceSB {t : TypeId} {x lo hi : Operand} {s : ByteArray} {k k' : IntKind} {m n : Int} (ht : P.underlying t = some .string) (hx : ev x (.pv (.str s))) (hl : ev lo (.pv (.int k m))) (hh : ev hi (.pv (.int k' n))) (h : 0 ≤ m ∧ m ≤ n ∧ n ≤ (s.size : Nat)) :
    OpT P ⟨dst, .slice t x (some lo) (some hi) none, ty, pos, after, g⟩ ev H (.pv (.str (s.extract m.toNat n.toNat))) H none :=
  OpT.value fun V ι w A hk hr => by
    have h0 := (hr x (by simp [Op.operands]) _ hx).pv_inv
    have h1 := h0.str_inv
    have h3 := h0.fit.str_len
    have h2 := (hr lo (by simp [Op.operands]) _ hl).pv_inv.int_inv
    have h4 := (hr hi (by simp [Op.operands]) _ hh).pv_inv.int_inv
    refine ⟨.string (s.extract m.toNat n.toNat), ?_, .pv _ _ (.str _ ?_)⟩
    · simp [execOp, h1, h2, h4, run_sliceAt_string, ht, run_slice_string w t s k k' m n ht h.1 h.2.1 h.2.2]
    · simp [ByteArray.size_extract]; omega
/-- A comparison whose run is known, of known values. -/
theorem op_binV {op : BinOp} {t yt : TypeId} {x y : Operand} {p q : PV} {u v rv : Value} {r : PV} (hx : ev x (.pv p)) (hy : ev y (.pv q)) (hp : ∀ (w : World) (F : Nat → Prop) (z : Value), Rep w F z p → z = u) (hq : ∀ (w : World) (F : Nat → Prop) (z : Value), Rep w F z q → z = v)
    (hgd : ∀ w, ∃ z, (eqGuard op t x y u v).run P w = .ok z w) (hrun : ∀ w, (binOp op t u v).run P w = .ok rv w) (hr : ∀ (w : World) (F : Nat → Prop), Rep w F rv r) : OpT P ⟨dst, .binOp op t x y yt, ty, pos, after, g⟩ ev H (.pv r) H none :=
  OpT.value fun V ι w A hk hrr => by
    have h1 := hp _ _ _ (hrr x (by simp [Op.operands]) _ hx).pv_inv
    have h2 := hq _ _ _ (hrr y (by simp [Op.operands]) _ hy).pv_inv
    obtain ⟨z, hz⟩ := hgd w
    exact ⟨rv, by simp [execOp, h1, h2, hrun, hz], .pv _ _ (hr _ _)⟩
end ops
end Go.Abs

namespace Go.Abs
set_option linter.unusedVariables false
variable {B : BT}

/-- What a call comes to: a value, or a panic with this one. -/
inductive Out : Type 1
  | ret (v : PV)
  | die (u : Value)
def entryOf (u : Value) : PanicEntry := { v := u, recovered := false }
def ClR (P : Program) (K : FuncId) : Out → Array Value → World → (Ending → World → Prop) → Prop
  | .ret _ => fun vs w R => Calls P K vs w R
  | .die u => fun vs w R => Calls P K vs w fun ex w' => ex = .panicked [entryOf u] ∧ R (.returned (.tuple #[])) w'
def outP : Out → PV
  | .ret v => v
  | .die _ => .tup []
def outS (r : Out) : SV := .pv (outP r)
def GG (gs : List Nat) (V : Nat → Prop) (w : World) : Prop := ∀ g, g ∈ gs → ¬ V g ∧ Glob g w
/-- THE CONTRACT OF A FUNCTION THAT MAY PANIC: it reads the blocks H that it is lent, and the variables gs. -/
def FXH (P : Program) (gs : List Nat) (K : FuncId) (args : List SV) (H : Heap) (r : Out) : Prop := FCXG (GG gs) (ClR P K r) args H H (outS r) none

theorem FXH.fch {P : Program} {K : FuncId} {args : List SV} {H : Heap} {v : PV} (h : FXH P [] K args H (.ret v)) : FCH P K args H H (.pv v) none :=
  fun V ι w vs => h V ι w vs fun g hg => by simp at hg

/-! ### A function's end -/
def resPV (env : Nat → Option SV) : ResultVar → Option PV
  | .tmp t => match env t with | some (.pv p) => some p | _ => none
  | .cell c _ => match env c with | some (.pv (.rd cs)) => some (.agg cs) | _ => none
def resPL (env : Nat → Option SV) : List ResultVar → Option (List PV)
  | [] => some []
  | r :: rs => match resPV env r, resPL env rs with | some p, some q => some (p :: q) | _, _ => none
def resPT (P : Program) (env : Nat → Option SV) (rs : List ResultVar) : Prop :=
  ∀ c t, ResultVar.cell c t ∈ rs → ∀ cs, resPV env (.cell c t) = some (.agg cs) → (∀ w, (isAgg t).run P w = .ok true w) ∧ ∀ w, (sizeOf t).run P w = .ok cs.length w

theorem resPV_run {P : Program} {w0 : World} {O V : Nat → Prop} {n : Nat} {ι : Nat → Value} {env : Nat → Option SV} {H : Heap} {a : Act} {w : World} (hs : Sim B w0 O V n ι env H a w)
    {rs : List ResultVar} {r : ResultVar} {p : PV} (ht : resPT P env rs) (hm : r ∈ rs) (hp : resPV env r = some p) : ∃ x, (resOne a.tmps r).run P w = .ok x w ∧ Rep w (Free V ι H w) x p := by
  cases r with
  | tmp t =>
    simp only [resPV] at hp
    split at hp
    · rename_i q he
      simp only [Option.some.injEq] at hp
      subst hp
      exact ⟨_, by simp [resOne], (hs.env t _ he).pv_inv⟩
    · simp at hp
  | cell c t =>
    have ht0 := ht c t hm
    simp only [resPV] at hp ht0
    split at hp
    · rename_i cs he
      simp only [Option.some.injEq] at hp
      subst hp
      have hty := ht0 cs (by simp only [he])
      obtain ⟨b, off, ys, hv, hF, hc, hrr⟩ := (hs.env c _ he).pv_inv.rd_inv
      refine ⟨.agg ys.toArray, ?_, .agg ys cs hrr.1 hrr.2⟩
      have hload := run_loadVar_agg (P := P) (t := t) (w := w) (b := b) (xs := ys) hty.1 (by rw [hrr.1]; exact hty.2) off hc
      simp only [resOne, hv]
      simp [asAddr, hload]
    · simp at hp

theorem resPL_run {P : Program} {w0 : World} {O V : Nat → Prop} {n : Nat} {ι : Nat → Value} {env : Nat → Option SV} {H : Heap} {a : Act} {w : World} (hs : Sim B w0 O V n ι env H a w) :
    ∀ (rs : List ResultVar) (ps : List PV), resPT P env rs → resPL env rs = some ps →
      ∃ xs : List Value, (rs.mapM (resOne a.tmps)).run P w = .ok xs w ∧ RepL w (Free V ι H w) xs ps
  | [], ps, _, h => by
    simp only [resPL, Option.some.injEq] at h
    subst h
    exact ⟨[], by simp, .nil⟩
  | r :: rs, ps, ht, h => by
    simp only [resPL] at h
    split at h
    · rename_i p q hp hq
      simp only [Option.some.injEq] at h
      subst h
      obtain ⟨xs, h1, h2⟩ := resPL_run hs rs q (fun c t hm cs hcs => ht c t (List.mem_cons_of_mem _ hm) cs hcs) hq
      obtain ⟨x, h3, h4⟩ := resPV_run hs ht List.mem_cons_self hp
      exact ⟨x :: xs, by simp only [List.mapM_cons, Sem.run_bind, Sem.run_pure, Result.andThen_ok, h1, h3], .cons h4 h2⟩
    · simp at h

/-- At the end: a value, or a panic; the blocks that were lent are as they were. -/
def retX (P : Program) (fn : Func) (ι0 : Nat → Value) (H : Heap) (r : Out) : Exit → St → Prop
  | .normal, st | .ret, st => ∃ v, r = .ret v ∧ ∃ st', Ent st st' ∧ KeptH st'.H H ∧ PinsK st'.env ι0 none H ∧ ∃ ps, resPT P (lk st'.env) fn.results.toList ∧ resPL (lk st'.env) fn.results.toList = some ps ∧ packed ps = v
  | .panic chain, st => ∃ u, r = .die u ∧ chain = [entryOf u] ∧ ∃ st', Ent st st' ∧ KeptH st'.H H ∧ PinsK st'.env ι0 none H
  | _, _ => False

theorem FXH.intro {P : Program} {gs : List Nat} {K : FuncId} {fn : Func} {c : Code} {args : List SV} {H : Heap} {r : Out} (hf : P.funcs[K]? = some fn) (hb : fn.body = some c) (hn : args.length ≤ fn.ntmps) (hn2 : fn.ntmps ≤ 1000000)
    (h : (∀ p, .pv p ∈ args → p.Fit) → ∀ ι0, awp (ro := none) (B := some ([], gs)) P fn.ntmps c (retX P fn ι0 H r) ⟨envS 0 args ++ pinsOf ι0 H, H⟩) : FXH P gs K args H r := by
  intro V ι w vs hG hV hk hlen ha
  have h := h (fun p hp => by
    obtain ⟨k, hk, e⟩ := List.getElem_of_mem hp
    have := ha k (hlen ▸ hk) hk
    rw [e] at this
    exact this.pv_inv.fit) ι
  have hsim : Sim (some ([], gs)) w (Owned ι H) V fn.ntmps ι (lk (envS 0 args ++ pinsOf ι H)) H { tmps := vs.toArray ++ Array.replicate (fn.ntmps - vs.toArray.size) undef, defers := [] } w := by
    refine ⟨rfl, rfl, rfl, Nat.le_refl _, fun _ _ _ => rfl, fun b hb => .inr hb, hk, ?_, ?_, ⟨rfl, hG⟩, hV⟩
    · intro t s hts
      simp only [lk] at hts
      rw [lookup_append_ne, envS_lookup] at hts
      simp only [Nat.zero_le, ↓reduceIte, Nat.sub_zero] at hts
      cases hat : args[t]? with
      | some o =>
        rw [hat] at hts
        simp only [Option.some.injEq] at hts
        subst hts
        obtain ⟨h2, h3⟩ := List.getElem?_eq_some_iff.1 hat
        have h1 : t < vs.length := by omega
        have e : (vs.toArray ++ Array.replicate (fn.ntmps - vs.toArray.size) undef).getD t undef = vs[t] := by
          simp [Array.getD_eq_getD_getElem?, Array.getElem?_append, h1]
        rw [e, ← h3]
        exact ha t h1 h2
      | none =>
        rw [hat] at hts
        simp only at hts
        obtain ⟨id, h1, h2, rfl⟩ := pinsOf_mem hts
        exact .pin _ id _ rfl
    · simp; omega
  let Fin : Value → Value → World → Prop := fun rv0 rv w' => ∃ (ι'' : Nat → Value), RepS ι'' w' (Free V ι'' H w') rv (outS r) ∧ HeapOk V ι'' H w' ∧ w'.os = w.os ∧ w'.tape = w.tape ∧ w'.output = w.output ∧
        w.heap.size ≤ w'.heap.size ∧ (∀ b, b < w.heap.size → ¬ Owned ι H b → w'.heap[b]? = w.heap[b]?) ∧ (∀ b, Owned ι'' H b → w.heap.size ≤ b ∨ Owned ι H b) ∧ ∀ id, none ≠ some id → id ∈ H.map (·.1) → ι'' id = ι id
  have done : ∀ (st2 : St) (a' : Act) (w' : World) (V' : Nat → Prop) (ι2 : Nat → Value) (rv : Value), (∀ b, V' b → V b) → Sim (some ([], gs)) w (Owned ι H) V' fn.ntmps ι2 (lk st2.env) st2.H a' w' → KeptH st2.H H → PinsK st2.env ι none H →
      Rep w' (Free V' ι2 H w') rv (match outS r with | .pv p => p | _ => .any) → Fin rv rv w' := by
    intro st2 a' w' V' ι2 rv hvv hs2 hkh hpins hrv
    have hs3 := hs2.sub (H' := H) fun id blk hl => hkh.mem _ (mem_of_lookup' hl)
    refine ⟨ι2, ?_, hs3.heap.vmono hvv, hs3.os, hs3.tape, hs3.output, hs3.size, hs3.kept, hs3.mine, fun id h1 h2 => ?_⟩
    · have e : outS r = .pv (match outS r with | .pv p => p | _ => .any) := by cases r <;> rfl
      rw [e]
      exact .pv _ _ (hrv.mono (fun _ _ => rfl) fun b hb => ⟨hb.1, hvv b hb.2.1, hb.2.2⟩)
    · have h3 := hs3.env _ _ (hpins.get id (by simp) h2)
      generalize a'.tmps.getD (1000000 + id) undef = u at h3
      cases h3; assumption
  have key : Calls P K vs.toArray w fun ex w' => (∃ v rv, r = .ret v ∧ ex = .returned rv ∧ Fin rv rv w') ∨ (∃ u, r = .die u ∧ ex = .panicked [entryOf u] ∧ Fin (.tuple #[]) (.tuple #[]) w') := by
    refine (callsIn_wide (n := 0)).1 (callsIn_of_wp_defers hf hb trivial (wpIn_mono (h w _ _ _ _ w hsim) ?_))
    rintro e a' w' ⟨V', ι', st', hv, hq, hs⟩
    have hd : a'.defers = [] := hs.marks.1
    have hret : (∃ v, r = .ret v ∧ ∃ st2, Ent st' st2 ∧ KeptH st2.H H ∧ PinsK st2.env ι none H ∧ ∃ ps, resPT P (lk st2.env) fn.results.toList ∧ resPL (lk st2.env) fn.results.toList = some ps ∧ packed ps = v) →
        LeavesIn Fence.wide 0 P fn a'.tmps (fun ex w' => (∃ v rv, r = .ret v ∧ ex = .returned rv ∧ Fin rv rv w') ∨ (∃ u, r = .die u ∧ ex = .panicked [entryOf u] ∧ Fin (.tuple #[]) (.tuple #[]) w')) a'.defers .returning w' := by
      rintro ⟨v, rfl, st2, hent, hkh, hpins, ps, hty, hres, rfl⟩
      obtain ⟨ι2, hs2⟩ := hent _ _ _ _ _ _ _ _ hs
      have hs3 := hs2.sub (H' := H) fun id blk hl => hkh.mem _ (mem_of_lookup' hl)
      obtain ⟨xs, hx, hrep⟩ := resPL_run hs3 _ _ hty hres
      rw [hd]
      exact ⟨_, results_run hx, .inl ⟨_, _, rfl, rfl, done st2 a' w' V' ι2 _ hv hs2 hkh hpins (Rep.packed hrep)⟩⟩
    cases e with
    | normal => exact hret hq
    | ret => exact hret hq
    | panic chain =>
      obtain ⟨u, rfl, rfl, st2, hent, hkh, hpins⟩ := hq
      obtain ⟨ι2, hs2⟩ := hent _ _ _ _ _ _ _ _ hs
      show LeavesIn _ _ _ _ _ _ a'.defers _ _
      rw [hd]
      exact .inr ⟨u, rfl, rfl, done st2 a' w' V' ι2 _ hv hs2 hkh hpins (.tup [] [] rfl fun k h1 => absurd h1 (by simp))⟩
    | exit id => exact hq.elim
    | goto l => exact hq.elim
    | outgrown => exact hq.elim
  cases r with
  | ret v =>
    refine Calls.mono key ?_
    rintro ex w' (⟨v', rv, e, rfl, ι'', h1⟩ | ⟨u, e, _⟩)
    · exact ⟨ι'', rv, rfl, h1⟩
    · cases e
  | die u =>
    refine Calls.mono key ?_
    rintro ex w' (⟨v', rv, e, _⟩ | ⟨u', e, rfl, ι'', h1⟩)
    · cases e
    · cases e; exact ⟨rfl, ι'', .tuple #[], rfl, h1⟩

section rets
variable {P : Program} {fn : Func} {ι0 : Nat → Value} {H : Heap} {r : Out} {st : St}
theorem retX.ret (h : retX P fn ι0 H r .normal st) : retX P fn ι0 H r .ret st := h
theorem retXp {u : Value} (hr : r = .die u) (hk : KeptH st.H H) (hp : PinsK st.env ι0 none H) : retX P fn ι0 H r (.panic [entryOf u]) st :=
  ⟨u, hr, rfl, st, Ent.refl _, hk, hp⟩
theorem retX1 {t : Nat} {p : PV} (hr : fn.results.toList = [.tmp t]) (h : lk st.env t = some (.pv p)) (hk : KeptH st.H H) (hp : PinsK st.env ι0 none H) (hv : r = .ret p) : retX P fn ι0 H r .normal st :=
  ⟨p, hv, st, Ent.refl _, hk, hp, [p], by rw [hr]; intro c t hm; simp at hm, by rw [hr]; simp only [resPL, resPV, h], rfl⟩
theorem retX2 {t u : Nat} {p q : PV} (hr : fn.results.toList = [.tmp t, .tmp u]) (h : lk st.env t = some (.pv p)) (h' : lk st.env u = some (.pv q)) (hk : KeptH st.H H) (hp : PinsK st.env ι0 none H) (hv : r = .ret (.tup [p, q])) : retX P fn ι0 H r .normal st :=
  ⟨_, hv, st, Ent.refl _, hk, hp, [p, q], by rw [hr]; intro c t hm; simp at hm, by rw [hr]; simp only [resPL, resPV, h, h'], rfl⟩
theorem retXC {c t : Nat} {cs : List PV} (hr : fn.results.toList = [.cell c t]) (h : lk st.env c = some (.pv (.rd cs))) (ha : ∀ w, (isAgg t).run P w = .ok true w) (hz : ∀ w, (sizeOf t).run P w = .ok cs.length w) (hk : KeptH st.H H) (hp : PinsK st.env ι0 none H) (hv : r = .ret (.agg cs)) : retX P fn ι0 H r .normal st := by
  refine ⟨_, hv, st, Ent.refl _, hk, hp, [.agg cs], ?_, by rw [hr]; simp only [resPL, resPV, h], rfl⟩
  rw [hr]
  intro c' t' hm cs' hc
  simp only [List.mem_singleton, ResultVar.cell.injEq] at hm
  obtain ⟨rfl, rfl⟩ := hm
  simp only [resPV, h, Option.some.injEq, PV.agg.injEq] at hc
  subst hc
  exact ⟨ha, hz⟩
theorem retXC1 {c t u : Nat} {cs : List PV} {q : PV} (hr : fn.results.toList = [.cell c t, .tmp u]) (h : lk st.env c = some (.pv (.rd cs))) (ha : ∀ w, (isAgg t).run P w = .ok true w) (hz : ∀ w, (sizeOf t).run P w = .ok cs.length w) (h' : lk st.env u = some (.pv q)) (hk : KeptH st.H H) (hp : PinsK st.env ι0 none H) (hv : r = .ret (.tup [.agg cs, q])) : retX P fn ι0 H r .normal st := by
  refine ⟨_, hv, st, Ent.refl _, hk, hp, [.agg cs, q], ?_, by rw [hr]; simp only [resPL, resPV, h, h'], rfl⟩
  rw [hr]
  intro c' t' hm cs' hc
  simp only [List.mem_cons, ResultVar.cell.injEq, reduceCtorEq, List.not_mem_nil, or_false] at hm
  obtain ⟨rfl, rfl⟩ := hm
  simp only [resPV, h, Option.some.injEq, PV.agg.injEq] at hc
  subst hc
  exact ⟨ha, hz⟩
end rets

section ops
variable {P : Program} {ev : Operand → SV → Prop} {H : Heap} {dst : Option Nat} {ty : TypeId} {pos : String} {after : Array Edge} {g : Option (Nat × Bool)}
/-- A number as an interface's value. -/
theorem op_iface {t : TypeId} {x : Operand} {k : IntKind} {m : Int} (ht : P.underlying t = some (.int k)) (hx : ev x (.pv (.int k m))) : OpT P ⟨dst, .makeInterface t x, ty, pos, after, g⟩ ev H (.pv (.val (.iface t (.int k m)))) H none :=
  OpT.value fun V ι w A hk hr => by
    have h := (hr x (by simp [Op.operands]) _ hx).pv_inv
    generalize hA : A.eval x = v at h
    cases h
    exact ⟨.iface t (.int k m), by simp [execOp, hA, Instr.makeInterface, run_underlying ht], .pv _ _ (.val _ rfl)⟩
/-- An error is not nil. -/
theorem op_errne {t yt : TypeId} {x : Operand} (ht : P.isIface t = true) (hx : ev x (.pv .err)) : OpT P ⟨dst, .binOp .neq t x (.const .nilIface) yt, ty, pos, after, g⟩ ev H (.bool true) H none :=
  OpT.value fun V ι w A hk hr => by
    have h := (hr x (by simp [Op.operands]) _ hx).pv_inv
    generalize hA : A.eval x = v at h
    cases h with
    | err T u =>
      have hc : A.eval (.const .nilIface) = .nilIface := rfl
      have hrun := run_neq_iface_nil (P := P) w t ht T u
      exact ⟨.bool true, by simp [execOp, hA, hc, eqGuard, hrun], .pv _ _ (.bool true)⟩
theorem op_nilne {t yt : TypeId} {x : Operand} (ht : P.isIface t = true) (hx : ev x (.pv (.val .nilIface))) : OpT P ⟨dst, .binOp .neq t x (.const .nilIface) yt, ty, pos, after, g⟩ ev H (.bool false) H none :=
  OpT.value fun V ι w A hk hr => by
    have h := (hr x (by simp [Op.operands]) _ hx).pv_inv
    generalize hA : A.eval x = v at h
    cases h with
    | val _ _ =>
      have hc : A.eval (.const .nilIface) = .nilIface := rfl
      have hrun := run_neq_nil_nil_at (P := P) w t ht
      exact ⟨.bool false, by simp [execOp, hA, hc, eqGuard, hrun], .pv _ _ (.bool false)⟩
/-- A struct read whole out of an owned slice of structs. -/
theorem op_loadEA {t : TypeId} {x : Operand} {e z id i : Nat} {α : Type} {d : α} {f : α → List PV} {l : List α} (ht : ∀ w, (isAgg t).run P w = .ok true w) (hsz : ∀ w, (sizeOf t).run P w = .ok z w) (hx : ev x (.elt id z i 0)) (hl : List.lookup id H = some (.arr e z α d f l))
    (hz : ∀ a, (f a).length = z) (hi : i < l.length) : OpT P ⟨dst, .load t x, ty, pos, after, g⟩ ev H (.pv (.agg (f (l.getD i d)))) H none :=
  OpT.value fun V ι w A hk hr => by
    obtain ⟨b, n, cc, h1, h2⟩ := (hr x (by simp [Op.operands]) _ hx).elt_inv'
    obtain ⟨xs, ho, hrep, hm⟩ := hk.ok id _ hl
    have hel := fun (j : Nat) (c : PV) (hc : (f (l.getD i d))[j]? = some c) => elem_cell (d := d) hz hrep hi hc
    have hlen : ∀ j, j < z → i * z + j < xs.length := fun j hj => by
      obtain ⟨h4, _⟩ := hel j ((f (l.getD i d))[j]'(by rw [hz]; exact hj)) (by simp [hz, hj])
      exact h4
    let ys : List Value := (List.range z).map fun j => xs.getD (i * z + j) undef
    have hys : ys.length = z := by simp [ys]
    have hcells : ∀ (k : Nat) (h1 : k < ys.length), w.cell? ⟨b, i * z + 0 + k, none⟩ = some ys[k] := fun k hk' => by
      have h4 := hlen k (by omega)
      have hcell := ho.cells (g := b) (by rw [h1]; rfl) (i * z + k) _ (List.getElem?_eq_getElem h4)
      rw [Addr.add_lit, Nat.zero_add] at hcell
      rw [show i * z + 0 + k = i * z + k by omega, hcell]
      simp [ys, List.getD_eq_getElem?_getD, h4]
    have hload := run_loadVar_agg (P := P) (t := t) (w := w) (b := b) (xs := ys) ht (by rw [hys]; exact hsz) (i * z + 0) hcells
    rw [Nat.add_zero] at hload h2
    refine ⟨.agg ys.toArray, by simp [execOp, h2, Instr.loadAt, Instr.sureAddr, hload], .pv _ _ (.agg ys _ (by rw [hys, hz]) fun k h3 h4 => ?_)⟩
    obtain ⟨h5, h6⟩ := hel k _ (List.getElem?_eq_getElem h4)
    have e : ys[k] = xs[i * z + k] := by simp [ys, List.getD_eq_getElem?_getD, h5]
    rw [e]; exact h6
end ops

/-- A nil slice in a box may be read as an empty one. -/
theorem Ent.unnilB {env : Env} {H : Heap} (i off : Nat) (α : Type) (d : α) (f : α → List PV) {cs : List SV} (hb : List.lookup i H = some (.box cs)) (hc : cs[off]? = some (.pv .nil)) :
    Ent ⟨env, H⟩ ⟨env, (i, .box (cs.set off (.pv (.seq α d f [])))) :: H⟩ := by
  intro B w0 O V n ι a w hs
  refine ⟨ι, hs.rebox (cs := cs) hb (by simp) fun xs h1 h2 => set_cell h1 h2 hc fun v hv => ?_⟩
  have := hv.pv_inv
  cases this
  exact .pv _ _ (.seq0 _ _ _ _ _ fun _ => rfl)
/-- What is read alone may be forgotten. -/
theorem Ent.anyRd {env : Env} {H : Heap} (t : Nat) {ps : List PV} (ht : lk env t = some (.pv (.rd ps))) (h1 : ps.all PV.one = true) : Ent ⟨env, H⟩ ⟨(t, .pv (.rd (ps.map fun _ => .cell1))) :: env, H⟩ := by
  intro B w0 O V n ι a w hs
  have h0 := (hs.env t _ ht).pv_inv
  refine ⟨ι, hs.put (.pv _ _ ?_)⟩
  generalize a.tmps.getD t undef = v at *
  cases h0 with
  | rd _ b off xs hF hl hc hr =>
    refine .rd _ b off xs hF (by simpa using hl) hc fun k h1' h2 => ?_
    have h3 : k < ps.length := hl ▸ h1'
    have h4 := (hr k h1' h3).one (List.all_eq_true.1 h1 _ (List.getElem_mem h3))
    rw [List.getElem_map]
    exact .cell1 _ h4

/-! ### Regions -/
section
variable {ro : Option Nat} {P : Program} {ops : Array Oper} {w0 : World} {O V : Nat → Prop} {n : Nat}
theorem Run.wpK {l rest : List Oper} {st st' : St} {tr : List Tr} (h : Run (ro := ro) P ops l st tr st') {Q : Exit → Act → World → Prop} (hn : ∀ o, o ∈ l → ∀ d, o.dst = some d → d < n)
    (hQ : ∀ ι' a' w', Sim B w0 O V n ι' (lk st'.env) st'.H a' w' → wpListIn (Fo ro) 0 P ops Q rest a' w') :
    ∀ ι a w, Sim B w0 O V n ι (lk st.env) st.H a w → wpListIn (Fo ro) 0 P ops Q (l ++ rest) a w := by
  have go : ∀ {o : Oper} {rest : List Oper} {env : Env} {H H' : Heap} {v : SV} {nw : Option Nat}, StepOk (ro := ro) P ops o (lk env) H v H' nw → freshIn nw env = true → (∀ d, o.dst = some d → d < n) →
      (∀ ι a w, Sim B w0 O V n ι (lk (upd env o.dst v)) H' a w → wpListIn (Fo ro) 0 P ops Q rest a w) → ∀ ι a w, Sim B w0 O V n ι (lk env) H a w → wpListIn (Fo ro) 0 P ops Q (o :: rest) a w := by
    intro o rest env H H' v nw hst hf hd ih ι a w hs
    have := hst.wp hs hd (freshIn_spec hf) (wpListIn (Fo ro) 0 P ops Q rest) Q fun ι' a' w' hs' => ih ι' a' w' (by
      have e : (fun t => (lk (upd env o.dst v)) t) = fun t => if o.dst = some t then some v else (lk env) t := funext fun t => lookup_upd env o.dst v t
      show Sim B w0 O V n ι' (fun t => (lk (upd env o.dst v)) t) H' a' w'
      rw [e]; exact hs')
    unfold wpListIn
    split
    · rename_i hw; rw [if_pos hw] at this; exact this
    · rename_i hw; rw [if_neg hw] at this; exact ⟨fun _ _ => trivial, this⟩
  induction h with
  | nil st => intro ι a w hs; exact hQ ι a w hs
  | neu hst r ih => exact go (hst _) rfl (hn _ List.mem_cons_self) (ih (fun o ho => hn o (List.mem_cons_of_mem _ ho)) hQ)
  | rd hst r ih => exact go hst rfl (hn _ List.mem_cons_self) (ih (fun o ho => hn o (List.mem_cons_of_mem _ ho)) hQ)
  | gd hst hl r ih => exact go (hst _ hl) rfl (hn _ List.mem_cons_self) (ih (fun o ho => hn o (List.mem_cons_of_mem _ ho)) hQ)
  | eff hst hf r ih => exact go hst hf (hn _ List.mem_cons_self) (ih (fun o ho => hn o (List.mem_cons_of_mem _ ho)) hQ)
  | add hst hm hb hf r ih => exact go (hst _ hm) hf (hn _ List.mem_cons_self) (ih (fun o ho => hn o (List.mem_cons_of_mem _ ho)) hQ)
end

section rules
variable {P : Program} {n : Nat} {Q : Exit → St → Prop} {st : St}

/-- A panic of the text's own. -/
theorem awp_panic {id : Nat} {l : List Oper} {dst : Option Nat} {x : Operand} {ty : TypeId} {pos : String} {after : Array Edge} {st' : St} {tr : List Tr} {T : TypeId} {u : Value} (hn : dstsOk n l.toArray = true)
    (h : Run (ro := none) P (l ++ [(⟨dst, .panic x, ty, pos, after, none⟩ : Oper)]).toArray l st tr st') (hx : evalIn (lk st'.env) x = some (.pv (.val (.iface T u)))) (hQ : Q (.panic [entryOf (.iface T u)]) st') :
    awp (ro := none) (B := B) P n (.region id (l ++ [(⟨dst, .panic x, ty, pos, after, none⟩ : Oper)]).toArray false) Q st := by
  intro w0 O V ι a w hs
  refine wpIn_region_list ?_
  rw [List.toList_toArray]
  refine h.wpK (w0 := w0) (O := O) (V := V) (n := n) ?_ ?_ ι a w hs
  · intro o ho d hd
    have := List.all_eq_true.1 hn o (by simpa using ho)
    simpa [hd] using this
  · intro ι' a' w' hs'
    have hr : RepS ι' w' (Free V ι' st'.H w') (a'.eval x) (.pv (.val (.iface T u))) := Sees.rep hs' (Sees.plain (g := true) hx) rfl
    have hv : a'.eval x = .iface T u := by
      have := hr.pv_inv
      generalize a'.eval x = v at this
      cases this; rfl
    unfold wpListIn
    rw [if_pos (by simp [Region.wanted])]
    refine ⟨fun _ _ => trivial, ?_⟩
    have he : (⟨dst, .panic x, ty, pos, after, none⟩ : Oper).semAt (Fo none).round a'.eval = execOp a'.eval (⟨dst, .panic x, ty, pos, after, none⟩ : Oper) := Oper.semAt_eq _ _ _ fun c hc => by cases hc
    rw [he]
    have he2 : (execOp a'.eval (⟨dst, .panic x, ty, pos, after, none⟩ : Oper)).run P w' = .halt (.panic (.iface T u)) w' := by
      simp [execOp, hv, Instr.panic]
    rw [he2]
    exact ⟨V, ι', st', fun _ h => h, hQ, hs'⟩

/-- A call that may panic, in the midst of a region. -/
theorem awp_callX {gs : List Nat} {D : List Deferred} {id : Nat} {l1 l2 : List Oper} {dst : Option Nat} {K : FuncId} {ts : Array TypeId} {args : Array Operand} {ty : TypeId} {pos : String} {after : Array Edge}
    {st1 : St} {tr1 : List Tr} {ags : List SV} {H0 : Heap} {r : Out} (ρ : Nat → Nat)
    (hn : dstsOk n (l1 ++ (⟨dst, .call ⟨.value (.func K), args, ts⟩, ty, pos, after, none⟩ : Oper) :: l2).toArray = true)
    (h1 : Run (ro := none) P (l1 ++ (⟨dst, .call ⟨.value (.func K), args, ts⟩, ty, pos, after, none⟩ : Oper) :: l2).toArray l1 st tr1 st1)
    (hcall : ∀ vs w, (callFunc K vs).run P w = .ok (.enter K vs) w)
    (hf : FXH P gs K ags H0 r) (hv : SeenL (Sees true (lk st1.env)) args.toList (SV.mapIL ρ ags)) (hH : KeptM ρ st1.H H0) (hok : namesOk ρ st1.H H0 H0 (outS r) none = true)
    (hret : ∀ v, r = .ret v → ∃ st2 tr2, Run (ro := none) P (l1 ++ (⟨dst, .call ⟨.value (.func K), args, ts⟩, ty, pos, after, none⟩ : Oper) :: l2).toArray l2 ⟨upd st1.env dst (.pv v), st1.H⟩ tr2 st2 ∧ Q .normal st2)
    (hdie : ∀ u, r = .die u → Q (.panic [entryOf u]) st1) :
    awp (ro := none) (B := some (D, gs)) P n (.region id (l1 ++ (⟨dst, .call ⟨.value (.func K), args, ts⟩, ty, pos, after, none⟩ : Oper) :: l2).toArray false) Q st := by
  intro w0 O V ι a w hs
  refine wpIn_region_list ?_
  rw [List.toList_toArray]
  have hd : ∀ o, o ∈ l1 ++ (⟨dst, .call ⟨.value (.func K), args, ts⟩, ty, pos, after, none⟩ : Oper) :: l2 → ∀ d, o.dst = some d → d < n := by
    intro o ho d hd
    have := List.all_eq_true.1 hn o (by simpa using ho)
    simpa [hd] using this
  refine h1.wpK (w0 := w0) (O := O) (V := V) (n := n) (fun o ho => hd o (List.mem_append_left _ ho)) ?_ ι a w hs
  intro ι1 a1 w1 hs1
  have hrep := hv.rep (ι := ι1) (w := w1) (F := Free V ι1 st1.H w1) (a := a1) fun x hx s hsx => Sees.rep hs1 hsx rfl
  rw [SV.mapIL_map] at hrep
  obtain ⟨R, hc, hR⟩ := FCXG.use ρ hf hH hok (V := V) (ι := ι1) (w := w1) (fun V' hV' g hg => ⟨fun h => (hs1.marks.2 g hg).1 (hV' g h), (hs1.marks.2 g hg).2⟩) hs1.new hs1.heap (vs := args.toList.map a1.eval) (by simpa using hrep.1) (fun k h1 h2 => by
    have := hrep.2 k h1 (by simpa using h2)
    simpa using this)
  have e0 : (args.toList.map a1.eval).toArray = args.map a1.eval := by rw [← Array.toList_inj]; simp
  rw [e0] at hc
  have keep : ∀ w2, R (.returned (match r with | .ret _ => .tuple #[] | .die _ => .tuple #[])) w2 → True := fun _ _ => trivial
  have post : ∀ ex w2, R ex w2 → ∃ ι2 rv, ex = .returned rv ∧ (∀ u, r = .die u → Sim (some (D, gs)) w0 O V n ι2 (lk st1.env) st1.H a1 w2) ∧ ∀ v, r = .ret v → Sim (some (D, gs)) w0 O V n ι2 (lk (upd st1.env dst (.pv v))) st1.H (a1.put dst rv) w2 := by
    intro ex w2 hex
    obtain ⟨ι2, rv, rfl, hst, hrv⟩ := hR ex w2 hex
    have hst' := hst.sub (lookup_same hH)
    have hsim := hs1.step hst' (fun i hi => by simp at hi)
    refine ⟨ι2, rv, rfl, fun u _ => hsim, fun v hr => ?_⟩
    subst hr
    have hrv' : RepS ι2 w2 (Free V ι2 st1.H w2) rv (.pv v) := .pv _ _ ((show RepS _ _ _ rv (.pv v) from hrv).pv_inv.mono (fun _ _ => rfl) fun b hb => hb.of_sub (lookup_same hH))
    have hd0 := hd _ (List.mem_append_right l1 List.mem_cons_self)
    refine ⟨hsim.os, hsim.tape, hsim.output, hsim.size, hsim.kept, hsim.mine, hsim.heap, ?_, ?_, ?_, hsim.new⟩
    · intro t s ht
      rw [lookup_upd] at ht
      cases hdst : dst with
      | none =>
        simp only [hdst, reduceCtorEq, ↓reduceIte] at ht
        exact hsim.env t s ht
      | some d =>
        rw [Act.getD_put _ _ _ _ (by rw [hs1.tmps]; exact hd0 d hdst)]
        simp only [hdst, Option.some.injEq] at ht
        by_cases e : t = d
        · rw [if_pos e.symm] at ht
          simp only [Option.some.injEq] at ht
          subst ht
          rw [if_pos e]; exact hrv'
        · rw [if_neg (fun e' => e e'.symm)] at ht
          rw [if_neg e]; exact hsim.env t s ht
    · cases hdst : dst <;> simp [Act.put, hsim.tmps]
    · have hm := hsim.marks
      cases hdst : dst <;> exact hm
  unfold wpListIn
  rw [if_pos (by simp [Region.wanted])]
  refine ⟨fun _ _ => trivial, ?_⟩
  have he : (⟨dst, .call ⟨.value (.func K), args, ts⟩, ty, pos, after, none⟩ : Oper).semAt (Fo none).round a1.eval = execOp a1.eval (⟨dst, .call ⟨.value (.func K), args, ts⟩, ty, pos, after, none⟩ : Oper) := Oper.semAt_eq _ _ _ fun c hc => by cases hc
  rw [he]
  have hrun : (execOp a1.eval (⟨dst, .call ⟨.value (.func K), args, ts⟩, ty, pos, after, none⟩ : Oper)).run P w1 = .ok (.enter K (args.map a1.eval)) w1 := by
    simp [execOp, resolve, Deferred.ofValue, Act.eval, invoke, hcall]
  rw [hrun, Oper.uponIn_enter]
  refine ⟨fun h => by simp [Fo, Fence.wide] at h, calls_fo ?_⟩
  cases r with
  | ret v =>
    obtain ⟨st2, tr2, h2, hq⟩ := hret v rfl
    refine Calls.mono hc ?_
    intro ex w2 hex
    obtain ⟨ι2, rv, rfl, _, hsim⟩ := post ex w2 hex
    have := h2.wp (w0 := w0) (O := O) (V := V) (n := n) (Q := fun e a' w' => ∃ V' ι' st', (∀ b, V' b → V b) ∧ Q e st' ∧ Sim (some (D, gs)) w0 O V' n ι' (lk st'.env) st'.H a' w') (fun o ho => hd o (List.mem_append_right _ (List.mem_cons_of_mem _ ho))) (fun ι' a' w' hs' => ⟨V, ι', st2, fun _ h => h, hq, hs'⟩) ι2 _ w2 (hsim v rfl)
    exact this
  | die u =>
    refine Calls.mono (show Calls P K _ _ _ from hc) ?_
    rintro ex w2 ⟨rfl, hex⟩
    obtain ⟨ι2, rv, _, hsim, _⟩ := post _ w2 hex
    exact ⟨V, ι2, st1, fun _ h => h, hdie u rfl, hsim u rfl⟩
end rules

/-! ### Contracts on plain values, with variables -/
theorem RepS.pvL {ι : Nat → Value} {w : World} {F : Nat → Prop} {vs : List Value} {vals : List PV} (hl : vs.length = (vals.map SV.pv).length) (h : ∀ (k : Nat) (h1 : k < vs.length) (h2 : k < (vals.map SV.pv).length), RepS ι w F vs[k] (vals.map SV.pv)[k]) : RepL w F vs vals := by
  refine ⟨by simpa using hl, fun k h1 h2 => ?_⟩
  have := h k h1 (by simpa using h2)
  rw [List.getElem_map] at this
  exact this.pv_inv
theorem fxh_of {P : Program} {gs : List Nat} {K : FuncId} {vals : List PV} {v : PV}
    (h : ∀ (w : World) (vs : List Value) (F : Nat → Prop), (∀ b, F b → b < w.heap.size) → RepL w F vs vals → (∀ g, g ∈ gs → Glob g w) →
      Calls P K vs.toArray w fun e w' => ∃ rv, e = .returned rv ∧ Rep w' (fun b => F b ∨ (w.heap.size ≤ b ∧ b < w'.heap.size)) rv v ∧
        w'.os = w.os ∧ w'.tape = w.tape ∧ w'.output = w.output ∧ w.heap.size ≤ w'.heap.size ∧ ∀ b, b < w.heap.size → w'.heap[b]? = w.heap[b]?) : FXH P gs K (vals.map SV.pv) [] (.ret v) := by
  intro V ι w vs hG hV hk hlen ha
  have hrep := RepS.pvL hlen ha
  refine Calls.mono (h w vs _ (fun b hb => hb.1) hrep fun g hg => (hG g hg).2) ?_
  rintro ex w' ⟨rv, rfl, hrv, hos, htape, hout, hsize, hall⟩
  have hst := Step.same (V := V) hk hos htape hout hsize hall
  have hno : ∀ ι' b, ¬ Owned ι' [] b := fun ι' b ⟨id, blk, hl, _⟩ => by simp at hl
  refine ⟨ι, rv, rfl, .pv _ _ (hrv.mono (fun _ _ => rfl) ?_), hst.ok, hos, htape, hout, hsize, fun b hb _ => hall b hb, fun b hb => absurd hb (hno _ b), fun id _ hm => by simp at hm⟩
  rintro b (hb | ⟨h1, h2⟩)
  · exact ⟨Nat.lt_of_lt_of_le hb.1 hsize, hb.2.1, hno _ b⟩
  · exact ⟨h2, hV b h1, hno _ b⟩
theorem FC.fxh {P : Program} {gs : List Nat} {K : FuncId} {vals : List PV} {v : PV} (h : FC P K vals v) : FXH P gs K (vals.map SV.pv) [] (.ret v) :=
  fxh_of fun w vs F hF hr _ => h w vs F hF hr
end Go.Abs
