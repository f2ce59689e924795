/- A range over a function: a round of the loop as a call that writes into what the loop's function owns; the function that calls it; the loop. Conditions: each law names its own. -/
import Derived.Test.YtolmcapbpliaiaaDoorAbsL
namespace Go.Abs
set_option linter.unusedVariables false
variable {B : BT}

/-! ### Worlds with one block put anew -/
theorem RepS.closed_move {ι ι' : Nat → Value} {w w' : World} {F F' : Nat → Prop} {v : Value} {s : SV} {ks : List Nat} (h : RepS ι w F v s) (hw : ∀ b, F b → w'.heap[b]? = w.heap[b]?) (hF : ∀ b, F b → F' b)
    (hι : ∀ k, k ∈ ks → ι' k = ι k) (hc : s.closed ks = true) : RepS ι' w' F' v s := by
  induction h with
  | pv v p h => exact .pv v p (h.mono hw hF)
  | own id => rw [← hι id (by simpa [SV.closed] using hc)]; exact .own id
  | elt id z a b bb n c h => exact .elt _ z a b bb n c ((hι id (by simpa [SV.closed] using hc)).trans h)
  | ref id off b h => exact .ref _ off b ((hι id (by simpa [SV.closed] using hc)).trans h)
  | sl id n b h => exact .sl _ n b ((hι id (by simpa [SV.closed] using hc)).trans h)
  | map id => rw [← hι id (by simpa [SV.closed] using hc)]; exact .map id
  | clo fn xs cs hl hr ih => exact .clo fn xs cs hl fun k h1 h2 => ih k h1 h2 (SV.closedL_get (by simpa [SV.closed] using hc) k h2)
  | ownV id v h => exact .ownV _ v ((hι id (by simpa [SV.closed] using hc)).trans h)
  | pin u id v h => exact .pin u _ v ((hι id (by simpa [SV.closed] using hc)).trans h)
  | nilOr v id h => exact .nilOr v _ ((hι id (by simpa [SV.closed] using hc)).symm ▸ h)
  | aggS xs cs hl hr ih => exact .aggS xs cs hl fun k h1 h2 => ih k h1 h2 (SV.closedL_get (by simpa [SV.closed] using hc) k h2)
  | nn v p h hs => exact .nn v p (h.mono hw hF) hs
  | opt v g s ht hf ih => exact .opt v g s (fun e => ih e (by simpa [SV.closed] using hc)) hf

theorem HeapOk.put {V : Nat → Prop} {ι : Nat → Value} {H : Heap} {w : World} (hk : HeapOk V ι H w) {l : Nat} (o : Obj) (hl : ¬ V l) : HeapOk V ι H (w.putObj l o) := by
  have hV : ∀ b, V b → (w.putObj l o).heap[b]? = w.heap[b]? := fun b hb => World.putObj_heap_other fun e => hl (e ▸ hb)
  have hst : ∀ b, Free V ι H w b → Free V ι H (w.putObj l o) b := fun b hb => ⟨by simpa using hb.1, hb.2.1, hb.2.2⟩
  refine ⟨fun id blk hl => ?_, hk.inj, hk.vis⟩
  have hown : ∀ b, blkOf (ι id) = some b → (w.putObj l o).heap[b]? = w.heap[b]? := fun b hb => hV b (hk.vis b ⟨id, blk, hl, hb⟩)
  have h0 := hk.ok id blk hl
  have hmv : ∀ {v : Value} {s : SV}, RepS ι w (Free V ι H w) v s → RepS ι (w.putObj l o) (Free V ι H (w.putObj l o)) v s := fun h => h.move (nw := none) (fun b hb => hV b hb.2.1) hst (fun _ _ => rfl) (by simp)
  cases blk with
  | box cs =>
    obtain ⟨b, xs, e, hv, hh, hlen, hr⟩ := h0
    exact ⟨b, xs, e, hv, (hown b (by rw [hv]; rfl)).trans hh, hlen, fun k h1 h2 => hmv (hr k h1 h2)⟩
  | tbox T cs =>
    obtain ⟨b, xs, e, hv, hh, hlen, hr⟩ := h0
    exact ⟨b, xs, e, hv, (hown b (by rw [hv]; rfl)).trans hh, hlen, fun k h1 h2 => hmv (hr k h1 h2)⟩
  | arr e z α d f l =>
    obtain ⟨xs, ho, hr, hm⟩ := h0
    exact ⟨xs, ownsRow_move ho (fun b hb => hown b (by rw [blkOf_own ho]; exact hb)), hr.mono (fun b hb => hV b hb.2.1) hst, hm⟩
  | mp m =>
    obtain ⟨r, es, clock, hv, hh, hm, hr⟩ := h0
    exact ⟨r, es, clock, hv, (hown r (by rw [hv]; rfl)).trans hh, hm, hr⟩
  | mq m =>
    obtain ⟨r, es, hv, hh, hm⟩ := h0
    exact ⟨r, es, hv, (hown r (by rw [hv]; rfl)).trans hh, hm.mono (fun b hb => hV b hb.2.1) hst⟩
  | yld ps as bd cs =>
    obtain ⟨l, r, xs, hv, hh, h1, h2, h3, h4, h5, h6, hlen, hr⟩ := h0
    exact ⟨l, r, xs, hv, (hown l (by rw [hv]; rfl)).trans hh, h1, h2, h3, h4, h5, h6, hlen, fun k h1 h2 => hmv (hr k h1 h2)⟩

theorem Sim.putO {w0 : World} {O V : Nat → Prop} {n : Nat} {ι : Nat → Value} {env : Nat → Option SV} {H : Heap} {a : Act} {w : World} (hs : Sim none w0 O V n ι env H a w) {l : Nat} (o : Obj) (hl : ¬ V l) (hO : ¬ O l) (hlt : l < w0.heap.size) :
    Sim none (w0.putObj l o) O V n ι env H a (w.putObj l o) := by
  have hV : ∀ b, V b → (w.putObj l o).heap[b]? = w.heap[b]? := fun b hb => World.putObj_heap_other fun e => hl (e ▸ hb)
  have hst : ∀ b, Free V ι H w b → Free V ι H (w.putObj l o) b := fun b hb => ⟨by simpa using hb.1, hb.2.1, hb.2.2⟩
  have hlt' : l < w.heap.size := Nat.lt_of_lt_of_le hlt hs.size
  refine ⟨hs.os, hs.tape, hs.output, by simpa using hs.size, fun b hb hb' => ?_, fun b hb => by simpa using hs.mine b hb, hs.heap.put o hl, fun t s ht => (hs.env t s ht).move (nw := none) (fun b hb => hV b hb.2.1) hst (fun _ _ => rfl) (by simp), hs.tmps, ?_, fun b hb => hs.new b (by simpa using hb)⟩
  · by_cases e : b = l
    · subst e; rw [World.putObj_heap_same hlt', World.putObj_heap_same hlt]
    · rw [World.putObj_heap_other e, World.putObj_heap_other e]; exact hs.kept b (by simpa using hb) hb'
  · obtain ⟨Ds, h1, h2, h3⟩ := hs.marks
    exact ⟨Ds, h1, h2, fun D hD => ⟨by simpa using (h3 D hD).1, (World.putObj_heap_other fun e => by have := (h3 D hD).1; omega).trans (h3 D hD).2.1, (h3 D hD).2.2⟩⟩

/-! ### A round, as a call -/
/-- What comes of calling a loop's body. -/
def YCl (P : Program) (vs : Array Value) (w : World) (R : Ending → World → Prop) : Prop :=
  ∃ (l : Nat) (xs : List Value) (f : FuncId) (tmps : Array Value) (as bd : Code), vs = (Value.func (.yield l) #[] #[] :: xs).toArray ∧ (Instr.yield l xs.toArray).run P w = .ok (.round l f tmps as bd) w ∧ RoundIn Fence.wide 0 P l f tmps as bd w R
/-- THE CONTRACT OF A LOOP's BODY. -/
def YH (P : Program) (y : Nat) (yb : Blk) (args : List SV) (H H' : Heap) : Prop := FCX (YCl P) (.own y :: args) ((y, yb) :: H) ((y, yb) :: H') (.pv (.bool true)) none

section ops
variable {P : Program} {ev : Operand → SV → Prop} {dst : Option Nat} {ty : TypeId} {pos : String} {after : Array Edge} {g : Option (Nat × Bool)}
/-- The call of a loop's body. -/
theorem op_yield {ro : Option Nat} {n : Nat} {ts : Array TypeId} {args : Array Operand} {ags : List SV} {y : Nat} {yb : Blk} {H0 H' Hc : Heap} (ρ : Nat → Nat) (hf : YH P y yb ags H0 H') (hx : ev (.tmp n) (.own (ρ y))) (hv : SeenL ev args.toList (SV.mapIL ρ ags))
    (hH : KeptM ρ Hc ((y, yb) :: H0)) (hok : namesOk ρ Hc ((y, yb) :: H0) ((y, yb) :: H') (.pv (.bool true)) none = true) :
    OpTI ro P ⟨dst, .call ⟨.value (.tmp n), args, ts⟩, ty, pos, after, g⟩ ev Hc (.bool true) (mapH ρ ((y, yb) :: H') ++ Hc) none := by
  intro V ι w a Q hV hk hr
  have hrep := hv.rep (ι := ι) (w := w) (F := Free V ι Hc w) (a := a) fun x hx => hr x (by simp only [Op.operands, Call.operands, Array.mem_append]; exact .inr (Array.mem_toList_iff.1 hx))
  rw [SV.mapIL_map] at hrep
  have hxv := (hr (.tmp n) (by simp [Op.operands, Call.operands]) _ hx).own_inv
  have hal : (args.toList.map a.eval).length = ags.length := by simpa using hrep.1
  obtain ⟨R, ⟨l, xs, f, tmps, as, bd, he, hy, hround⟩, hR⟩ := FCX.use (vs := a.eval (.tmp n) :: args.toList.map a.eval) ρ hf hH hok hV hk (by simp at hal; simp [hal]) fun k h1 h2 => by
    cases k with
    | zero =>
      simp only [List.getElem_cons_zero, SV.mapI]
      rw [hxv]; exact .own _
    | succ k =>
      simp only [List.getElem_cons_succ]
      have h1' : k < args.toList.length := by simpa using h1
      have := hrep.2 k (by simpa using h1') (by simpa using h2)
      simpa using this
  have he' := congrArg Array.toList he
  simp only [List.cons.injEq] at he'
  obtain ⟨h1, h2⟩ := he'
  have hargs : args.map a.eval = xs.toArray := by rw [← Array.toList_inj]; simp [← h2]
  refine ⟨fun _ _ => trivial, ?_⟩
  rw [Oper.semAt_eq _ _ _ (by intro c; simp)]
  have hrun : (execOp a.eval ⟨dst, .call ⟨.value (.tmp n), args, ts⟩, ty, pos, after, g⟩).run P w = .ok (.round l f tmps as bd) w := by
    simp [execOp, resolve, h1, Deferred.ofValue, invoke, hargs, hy]
  rw [hrun]
  refine ⟨fun h => by simp [Fo, Fence.wide] at h, RoundIn.mono (F := Fo ro) hround ?_⟩
  intro ex w' hex
  obtain ⟨ι', rv, rfl, hst, hrv⟩ := hR ex w' hex
  exact ⟨ι', rv, rfl, hst, hrv⟩
end ops

section run
variable {ro : Option Nat} {P : Program} {ops : Array Oper} {rest : List Oper} {env : Env} {H H' : Heap} {v : SV} {tr : List Tr} {st' : St} {dst : Option Nat} {op : Op} {ty : TypeId} {pos : String} {after : Array Edge} {nw : Option Nat}
theorem Run.ey (h : OpTI ro P ⟨dst, op, ty, pos, after, none⟩ (Sees true (lk env)) H v H' nw) (hf : freshIn nw env = true) (r : Run (ro := ro) P ops rest ⟨upd env dst v, H'⟩ tr st') :
    Run (ro := ro) P ops (⟨dst, op, ty, pos, after, none⟩ :: rest) ⟨env, H⟩ (⟨.E, v, H', nw⟩ :: tr) st' := .eff (.inl ⟨rfl, h⟩) hf r
end run

/-! ### A loop's body -/
/-- At a round's end: the blocks that it hands back, the names kept. -/
def retY (ι0 : Nat → Value) (y : Nat) (H H' : Heap) : Exit → St → Prop
  | .normal, st => ∃ st', Ent st st' ∧ KeptH st'.H H' ∧ (∀ id, id = y ∨ id ∈ H.map (·.1) → lk st'.env (1000000 + id) = some (.pin id (ι0 id)))
  | _, _ => False
def thenY (next : St → Prop) : Exit → St → Prop
  | .normal, s => next s
  | _, _ => False

theorem fold_get : ∀ (l : List (Nat × Value)) (t0 : Array Value) (t : Nat), (l.map (·.1)).Nodup → (∀ p, p ∈ l → p.1 < t0.size) →
    (l.foldl (fun ts p => ts.setIfInBounds p.1 p.2) t0).getD t undef = (List.lookup t l).getD (t0.getD t undef) ∧ (l.foldl (fun ts p => ts.setIfInBounds p.1 p.2) t0).size = t0.size
  | [], t0, t, _, _ => ⟨rfl, rfl⟩
  | (k, v) :: l, t0, t, hd, hlt => by
    simp only [List.map_cons, List.nodup_cons] at hd
    have ih := fold_get l (t0.setIfInBounds k v) t hd.2 fun p hp => by simpa using hlt p (List.mem_cons_of_mem _ hp)
    simp only [List.foldl_cons]
    refine ⟨?_, by rw [ih.2]; simp⟩
    rw [ih.1, List.lookup_cons]
    have hk := hlt (k, v) List.mem_cons_self
    by_cases e : t = k
    · subst e
      have hno : List.lookup t l = none := by
        rw [List.lookup_eq_none_iff]
        intro p hp
        have : t ≠ p.1 := fun e => hd.1 (List.mem_map.2 ⟨p, hp, e.symm⟩)
        simpa using this
      rw [hno]
      simp [Array.getD_eq_getD_getElem?, hk]
    · rw [beq_eq_false_iff_ne.2 e]
      have e2 : (t0.setIfInBounds k v).getD t undef = t0.getD t undef := by
        simp [Array.getD_eq_getD_getElem?, Array.getElem?_setIfInBounds, show ¬ k = t from fun e' => e e'.symm]
      rw [e2]

theorem lookup_zip {t : Nat} : ∀ (ps : List Nat) (ss : List SV) (vs : List Value), ps.length = ss.length → ps.length = vs.length → ∀ s, List.lookup t (ps.zip ss) = some s → ∃ k, ∃ (h1 : k < ss.length) (h2 : k < vs.length), ss[k] = s ∧ List.lookup t (ps.zip vs) = some vs[k]
  | [], _, _, _, _, s, h => by simp at h
  | p :: ps, [], _, h1, _, _, _ => by simp at h1
  | p :: ps, s0 :: ss, [], _, h2, _, _ => by simp at h2
  | p :: ps, s0 :: ss, v0 :: vs, h1, h2, s, h => by
    simp only [List.zip_cons_cons, List.lookup_cons] at h ⊢
    by_cases e : t = p
    · subst e
      simp at h
      exact ⟨0, by simp, by simp, h, by simp⟩
    · rw [beq_eq_false_iff_ne.2 e] at h ⊢
      obtain ⟨k, g1, g2, g3, g4⟩ := lookup_zip ps ss vs (by simpa using h1) (by simpa using h2) s h
      exact ⟨k + 1, by simpa using g1, by simpa using g2, by simpa using g3, by simpa using g4⟩
theorem lookup_zip_none {t : Nat} : ∀ (ps : List Nat) (ss : List SV) (vs : List Value), ps.length = ss.length → ps.length = vs.length → List.lookup t (ps.zip ss) = none → List.lookup t (ps.zip vs) = none
  | [], _, _, _, _, _ => by simp
  | p :: ps, [], _, h1, _, _ => by simp at h1
  | p :: ps, s0 :: ss, [], _, h2, _ => by simp at h2
  | p :: ps, s0 :: ss, v0 :: vs, h1, h2, h => by
    simp only [List.zip_cons_cons, List.lookup_cons] at h ⊢
    by_cases e : t = p
    · subst e; simp at h
    · rw [beq_eq_false_iff_ne.2 e] at h ⊢
      exact lookup_zip_none ps ss vs (by simpa using h1) (by simpa using h2) h

/-- What is asked of the names of a loop's body. -/
def yldOk (ps : Array Tmp) (y : Nat) (cs args : List SV) (H H' : Heap) : Bool :=
  decide (ps.size = args.length) && decide (ps.toList.Nodup) && ps.toList.all (fun p => decide (p < cs.length)) && decide (cs.length ≤ 1000000) && !(keys H).contains y && !(keys H').contains y && SV.closedL (keys H) cs

theorem YH.intro {P : Program} {ps : Array Tmp} {as bd : Code} {y : Nat} {cs args : List SV} {H H' : Heap} (hok : yldOk ps y cs args H H' = true)
    (h : (∀ p, .pv p ∈ args → p.Fit) → ∀ ι0 l, awp (ro := some l) (B := none) P cs.length as (thenY (awp (ro := some l) (B := none) P cs.length bd (retY ι0 y H H'))) ⟨ps.toList.zip args ++ (envS 0 cs ++ pinsOf ι0 ((y, .box []) :: H)), H⟩) :
    YH P y (.yld ps as bd cs) args H H' := by
  intro V ι w vs hV hk hlen ha
  simp only [yldOk, Bool.and_eq_true, decide_eq_true_eq, Bool.not_eq_true', List.all_eq_true] at hok
  obtain ⟨⟨⟨⟨⟨⟨hps, hnd⟩, hplt⟩, hcn⟩, hyH⟩, hyH'⟩, hcc⟩ := hok
  have hyH : y ∉ keys H := by simpa using hyH
  have hyH' : y ∉ keys H' := by simpa using hyH'
  cases vs with
  | nil => simp at hlen
  | cons v0 xs =>
  have hxl : xs.length = args.length := by simpa using hlen
  have hv0 : v0 = ι y := (ha 0 (by simp) (by simp)).own_inv
  have hax : ∀ (k : Nat) (h1 : k < xs.length) (h2 : k < args.length), RepS ι w (Free V ι ((y, .yld ps as bd cs) :: H) w) xs[k] args[k] := fun k h1 h2 => by
    have := ha (k + 1) (by simpa using h1) (by simpa using h2)
    simpa using this
  have hyl : List.lookup y ((y, Blk.yld ps as bd cs) :: H) = some (.yld ps as bd cs) := by simp
  obtain ⟨l, r, ts, hvy, hh, g1, g2, g3, g4, g5, g6, htl, hts⟩ := hk.ok y _ hyl
  have hlw : l < w.heap.size := (Array.getElem?_eq_some_iff.1 hh).1
  have hsubL : ∀ id blk, List.lookup id H = some blk → List.lookup id ((y, Blk.yld ps as bd cs) :: H) = some blk := fun id blk hl => by
    rw [List.lookup_cons, beq_eq_false_iff_ne.2 fun (e : id = y) => hyH (e ▸ lookup_keys hl)]; exact hl
  have hlo : ∀ id blk, List.lookup id H = some blk → blkOf (ι id) ≠ some l := fun id blk hl hb => by
    have := hk.inj id y _ _ l (hsubL id blk hl) hyl hb (by rw [hvy]; rfl)
    exact hyH (this ▸ lookup_keys hl)
  have hOl : ¬ Owned ι H l := fun ⟨id, blk, hl, hb⟩ => hlo id blk hl hb
  let Vl : Nat → Prop := fun b => V b ∧ b ≠ l
  have hown : ∀ b, Owned ι H b → Owned ι ((y, Blk.yld ps as bd cs) :: H) b := fun b ⟨id, blk, hl, hb⟩ => ⟨id, blk, hsubL id blk hl, hb⟩
  have hownl : Owned ι ((y, Blk.yld ps as bd cs) :: H) l := ⟨y, _, hyl, by rw [hvy]; rfl⟩
  have hfree : ∀ b, Free V ι ((y, Blk.yld ps as bd cs) :: H) w b → Free Vl ι H w b := fun b hb => ⟨hb.1, ⟨hb.2.1, fun e => hb.2.2 (e ▸ hownl)⟩, fun ho => hb.2.2 (hown b ho)⟩
  have hmv : ∀ {v : Value} {s : SV}, RepS ι w (Free V ι ((y, Blk.yld ps as bd cs) :: H) w) v s → RepS ι w (Free Vl ι H w) v s := fun h => h.move (nw := none) (fun _ _ => rfl) hfree (fun _ _ => rfl) (by simp)
  have hkl : HeapOk Vl ι H w := ⟨fun id blk hl => (hk.ok id blk (hsubL id blk hl)).mono hfree, fun id id' blk blk' b h1 h2 => hk.inj id id' blk blk' b (hsubL _ _ h1) (hsubL _ _ h2), fun b hb => ⟨hk.vis b (hown b hb), fun e => hOl (e ▸ hb)⟩⟩
  have h := h (fun p hp => by
    obtain ⟨k, hk', e⟩ := List.getElem_of_mem hp
    have := hax k (hxl ▸ hk') hk'
    rw [e] at this
    exact this.pv_inv.fit) ι l
  have hfold := fold_get (ps.toList.zip xs) r.tmps
  have hzk : ((ps.toList.zip xs).map (·.1)) = ps.toList := by rw [List.map_fst_zip]; simp [hxl, hps]
  have htsz : r.tmps.size = cs.length := by rw [g6]; simpa using htl
  have hzlt : ∀ p, p ∈ ps.toList.zip xs → p.1 < r.tmps.size := fun p hp => by
    rw [htsz]; simpa using hplt p.1 (List.of_mem_zip hp).1
  let tm : Array Value := (ps.zip xs.toArray).foldl (fun ts p => ts.setIfInBounds p.1 p.2) r.tmps
  have htm : tm = (ps.toList.zip xs).foldl (fun ts p => ts.setIfInBounds p.1 p.2) r.tmps := by
    show Array.foldl _ _ _ = _
    rw [← Array.foldl_toList]; simp
  have hsim : Sim none w (Owned ι H) Vl cs.length ι (lk (ps.toList.zip args ++ (envS 0 cs ++ pinsOf ι ((y, .box []) :: H)))) H { tmps := tm, defers := [] } w := by
    refine ⟨rfl, rfl, rfl, Nat.le_refl _, fun _ _ _ => rfl, fun b hb => .inr hb, hkl, ?_, ?_, Marks.nil, fun b hb => ⟨hV b hb, by omega⟩⟩
    · intro t s hts'
      simp only [lk] at hts'
      rw [htm, (hfold t (by rw [hzk]; exact hnd) hzlt).1]
      rw [lookup_append_ne] at hts'
      cases hat : List.lookup t (ps.toList.zip args) with
      | some o =>
        rw [hat] at hts'
        simp only [Option.some.injEq] at hts'
        subst hts'
        obtain ⟨k, q1, q2, q3, q4⟩ := lookup_zip ps.toList args xs (by simpa using hps) (by simp [hxl, hps]) o hat
        rw [q4, ← q3]
        exact hmv (hax k q2 q1)
      | none =>
        rw [hat] at hts'
        simp only at hts'
        rw [lookup_zip_none ps.toList args xs (by simpa using hps) (by simp [hxl, hps]) hat]
        rw [lookup_append_ne, envS_lookup] at hts'
        simp only [Nat.zero_le, ↓reduceIte, Nat.sub_zero] at hts'
        cases hct : cs[t]? with
        | some o =>
          rw [hct] at hts'
          simp only [Option.some.injEq] at hts'
          subst hts'
          obtain ⟨q1, q2⟩ := List.getElem?_eq_some_iff.1 hct
          have e : (none : Option Value).getD (r.tmps.getD t undef) = ts[t]'(by omega) := by
            rw [g6]; simp [Array.getD_eq_getD_getElem?, show t < ts.length by omega]
          rw [e, ← q2]
          exact hmv (hts t (by omega) q1)
        | none =>
          rw [hct] at hts'
          simp only at hts'
          obtain ⟨id, q1, q2, rfl⟩ := pinsOf_mem hts'
          exact .pin _ id _ rfl
    · show tm.size = _
      rw [htm, (hfold 0 (by rw [hzk]; exact hnd) hzlt).2, htsz]
  refine ⟨l, xs, r.fn, tm, as, bd, by rw [hv0, hvy], ?_, roundIn_of_wpIn trivial ?_⟩
  · have := run_yield (P := P) (args := xs.toArray) hh (by rw [g3]; simp [hxl, hps])
    rw [g3, g4, g5] at this
    exact this
  refine wpIn_mono (h w (Owned ι H) Vl ι _ w hsim) ?_
  rintro e a1 w1 ⟨V1, ι1, st1, hv1, hq1, hs1⟩
  cases e <;> first | exact hq1.elim | skip
  have hV1l : ¬ V1 l := fun h => (hv1 l h).2 rfl
  have hl1 : w1.heap[l]? = some (.loop r) := (hs1.kept l hlw hOl).trans hh
  refine ⟨_, run_beginRound hl1 g1, ?_⟩
  refine wpIn_mono (hq1 _ _ _ _ _ _ (hs1.putO (.loop { r with state := .busy }) hV1l hOl hlw)) ?_
  rintro e a2 w3 ⟨V2, ι2, st2, hv2, hq2, hs2⟩
  cases e <;> first | exact hq2.elim | skip
  obtain ⟨st3, hent, hkh, hpins⟩ := hq2
  obtain ⟨ι3, hs3⟩ := hent _ _ _ _ _ _ _ _ hs2
  have hs4 := hs3.sub (H' := H') fun id blk hl => hkh.mem _ (mem_of_lookup' hl)
  have hV2l : ¬ V2 l := fun h => hV1l (hv2 l h)
  have hl3 : w3.heap[l]? = some (.loop { r with state := .busy }) := (hs4.kept l (by simpa using hlw) hOl).trans (World.putObj_heap_same hlw)
  have hrr : ({ { r with state := .busy } with state := .ready, pending := none } : Loop) = r := by cases r; simp_all
  have hend := run_endRound (P := P) none hl3
  simp only [Option.isNone_none, ↓reduceIte] at hend
  rw [hrr] at hend
  have hs5 := hs4.putO (.loop r) hV2l hOl (by simpa using hlw)
  have hl3w : l < w3.heap.size := (Array.getElem?_eq_some_iff.1 hl3).1
  have hVV : ∀ b, V2 b → V b ∧ b ≠ l := fun b hb => hv1 b (hv2 b hb)
  have hagr : ∀ id, id = y ∨ id ∈ H.map (·.1) → ι3 id = ι id := fun id hid => by
    have h3 := hs3.env _ _ (hpins id hid)
    generalize a2.tmps.getD (1000000 + id) undef = u at h3
    cases h3; assumption
  have hy3 : ι3 y = .func (.yield l) #[] #[] := (hagr y (.inl rfl)).trans hvy
  have hkept : ∀ b, b < w.heap.size → b ≠ l → ¬ Owned ι H b → (w3.putObj l (.loop r)).heap[b]? = w.heap[b]? := fun b hb hbl hbo => by
    rw [World.putObj_heap_other hbl, hs4.kept b (by simpa using hb) hbo, World.putObj_heap_other hbl]
  have hownd : ∀ b, Owned ι3 ((y, Blk.yld ps as bd cs) :: H') b → b = l ∨ Owned ι3 H' b := by
    rintro b ⟨id, blk, hl, hb⟩
    rw [List.lookup_cons] at hl
    by_cases e : id = y
    · subst e; rw [hy3] at hb; simp [blkOf] at hb; exact .inl hb.symm
    · rw [beq_eq_false_iff_ne.2 e] at hl; exact .inr ⟨id, blk, hl, hb⟩
  have hmine : ∀ b, Owned ι3 ((y, Blk.yld ps as bd cs) :: H') b → w.heap.size ≤ b ∨ Owned ι ((y, Blk.yld ps as bd cs) :: H) b := fun b hb => by
    rcases hownd b hb with rfl | hb
    · exact .inr hownl
    · rcases hs4.mine b hb with h1 | h1
      · exact .inl (by simpa using h1)
      · exact .inr (hown b h1)
  have hfree3 : ∀ b, Free V ι ((y, Blk.yld ps as bd cs) :: H) w b → Free V ι3 ((y, Blk.yld ps as bd cs) :: H') (w3.putObj l (.loop r)) b := fun b hb => ⟨by have := hs4.size; simp at this; simp; exact Nat.lt_of_lt_of_le hb.1 this, hb.2.1, fun ho => by
    rcases hmine b ho with h1 | h1
    · exact absurd hb.1 (by omega)
    · exact hb.2.2 h1⟩
  have hfree4 : ∀ b, Free V2 ι3 H' (w3.putObj l (.loop r)) b → Free V ι3 ((y, Blk.yld ps as bd cs) :: H') (w3.putObj l (.loop r)) b := fun b hb => ⟨hb.1, (hVV b hb.2.1).1, fun ho => by
    rcases hownd b ho with rfl | h1
    · exact (hVV b hb.2.1).2 rfl
    · exact hb.2.2 h1⟩
  refine ⟨_, _, hend, ι3, _, rfl, .pv _ _ (.bool true), ?_, hs5.os, hs5.tape, hs5.output, by have := hs4.size; simp at this; simpa using this, fun b hb hbo => hkept b hb (fun e => hbo (e ▸ hownl)) (fun ho => hbo (hown b ho)), hmine, fun id _ hid => ?_⟩
  · refine ⟨fun id blk hl => ?_, fun id id' blk blk' b h1 h2 hb hb' => ?_, fun b hb => ?_⟩
    · rw [List.lookup_cons] at hl
      by_cases e : id = y
      · subst e
        simp at hl
        subst hl
        rw [hy3]
        refine ⟨l, r, ts, rfl, World.putObj_heap_same hl3w, g1, g2, g3, g4, g5, g6, htl, fun k h1 h2 => ?_⟩
        exact (hts k h1 h2).closed_move (ks := keys H) (fun b hb => hkept b hb.1 (fun e => hb.2.2 (e ▸ hownl)) (fun ho => hb.2.2 (hown b ho))) hfree3 (fun k hk => hagr k (.inr hk)) (SV.closedL_get hcc k h2)
      · rw [beq_eq_false_iff_ne.2 e] at hl
        exact (hs5.heap.ok id blk hl).mono hfree4
    · have key : ∀ id blk, List.lookup id ((y, Blk.yld ps as bd cs) :: H') = some blk → id ≠ y → List.lookup id H' = some blk := fun id blk hl e => by
        rw [List.lookup_cons, beq_eq_false_iff_ne.2 e] at hl; exact hl
      have nol : ∀ id blk, List.lookup id H' = some blk → blkOf (ι3 id) ≠ some l := fun id blk hl hb => hV2l (hs5.heap.vis l ⟨id, blk, hl, hb⟩)
      by_cases e : id = y <;> by_cases e' : id' = y
      · rw [e, e']
      · subst e; rw [hy3] at hb; simp [blkOf] at hb; subst hb; exact absurd hb' (nol id' _ (key _ _ h2 e'))
      · subst e'; rw [hy3] at hb'; simp [blkOf] at hb'; subst hb'; exact absurd hb (nol id _ (key _ _ h1 e))
      · exact hs5.heap.inj id id' _ _ b (key _ _ h1 e) (key _ _ h2 e') hb hb'
    · rcases hownd b hb with rfl | h1
      · exact hk.vis _ hownl
      · exact (hVV b (hs5.heap.vis b h1)).1
  · refine hagr id ?_
    simp only [List.map_cons, List.mem_cons] at hid
    exact hid
end Go.Abs
