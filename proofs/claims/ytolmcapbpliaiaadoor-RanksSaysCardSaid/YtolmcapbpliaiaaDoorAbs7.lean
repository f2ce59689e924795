/- The rules of operations on owned blocks. Conditions: each law names its own. -/
import Derived.Test.YtolmcapbpliaiaaDoorAbs6
namespace Go.Abs
set_option linter.unusedVariables false

theorem grownBy_setCell (w : World) (b o : Nat) (v : Value) : w.grownBy (w.setCell ⟨b, o, none⟩ v) (some b) :=
  ⟨rfl, rfl, rfl, by simp, fun k _ hk => Go.RowKit.Below.heap_setCell w ⟨b, o, none⟩ v k fun e => hk (by rw [e])⟩

theorem grownBy_refl (w : World) (row : Option Nat) : w.grownBy w row := ⟨rfl, rfl, rfl, Nat.le_refl _, fun _ _ _ => rfl⟩

theorem grownBy_trans {a b c : World} {row : Option Nat} (h : a.grownBy b row) (h' : b.grownBy c row) : a.grownBy c row :=
  ⟨h'.os.trans h.os, h'.tape.trans h.tape, h'.output.trans h.output, Nat.le_trans h.size h'.size, fun k hk hr => (h'.block k (Nat.lt_of_lt_of_le hk h.size) hr).trans (h.block k hk hr)⟩

def SV.one : SV → Bool
  | .pv p => p.one
  | .opt _ _ | .aggS _ | .ownV _ _ | .pin _ _ | .nilOr _ | .sl _ _ => false
  | _ => true

theorem RepS.oneCell {ι : Nat → Value} {w : World} {F : Nat → Prop} {v : Value} {s : SV} (h : RepS ι w F v s) (hs : s.one = true) (hι : ∀ id, (s = .own id ∨ s = .map id) → (ι id).oneCell' = true) : v.oneCell' = true := by
  cases h with
  | pv _ p h => exact h.one hs
  | own id => exact hι id (.inl rfl)
  | elt => rfl
  | ref => rfl
  | map id => exact hι id (.inr rfl)
  | clo => rfl
  | opt => simp [SV.one] at hs
  | aggS => simp [SV.one] at hs
  | ownV => simp [SV.one] at hs
  | pin => simp [SV.one] at hs
  | nilOr => simp [SV.one] at hs
  | sl => simp [SV.one] at hs
  | nn v p h hs' => obtain ⟨a, n, c, rfl⟩ := hs'; rfl

theorem oneCell_cells {v : Value} (h : v.oneCell' = true) : v.cells = #[v] := by cases v <;> first | rfl | (simp [Value.oneCell'] at h)

/-- The cells of a constant, one by one. -/
def constCells : List Value → Option (List SV)
  | [] => some []
  | v :: r => match constS v, constCells r with | some s, some q => some (s :: q) | _, _ => none

theorem constCells_spec {ι : Nat → Value} {w : World} {F : Nat → Prop} : ∀ {xs : List Value} {cs : List SV}, constCells xs = some cs → xs.length = cs.length ∧ ∀ (k : Nat) (h1 : k < xs.length) (h2 : k < cs.length), RepS ι w F xs[k] cs[k]
  | [], cs, h => by
    simp only [constCells, Option.some.injEq] at h
    subst h
    exact ⟨rfl, fun k h1 => absurd h1 (by simp)⟩
  | v :: r, cs, h => by
    simp only [constCells] at h
    split at h
    · rename_i s q hs hq
      simp only [Option.some.injEq] at h
      subst h
      obtain ⟨h1, h2⟩ := constCells_spec (ι := ι) (w := w) (F := F) hq
      refine ⟨by simp [h1], fun k a b => ?_⟩
      cases k with
      | zero => exact constS_rep hs
      | succ k => exact h2 k (by simpa using a) (by simpa using b)
    · simp at h

def plainCells : List Value → Option (List PV)
  | [] => some []
  | v :: r => match constS v, plainCells r with | some (.pv p), some q => some (p :: q) | _, _ => none

theorem plainCells_spec {w : World} {F : Nat → Prop} : ∀ {xs : List Value} {cs : List PV}, plainCells xs = some cs → RepL w F xs cs
  | [], cs, h => by
    simp only [plainCells, Option.some.injEq] at h
    subst h
    exact .nil
  | v :: r, cs, h => by
    simp only [plainCells] at h
    split at h
    · rename_i p q hs hq
      simp only [Option.some.injEq] at h
      subst h
      exact .cons ((constS_rep (ι := fun _ => undef) (w := w) (F := F) hs).pv_inv) (plainCells_spec hq)
    · simp at h

theorem RepL.map_pv {ι : Nat → Value} {w : World} {F : Nat → Prop} {xs : List Value} {ps : List PV} (h : RepL w F xs ps) : xs.length = (ps.map SV.pv).length ∧ ∀ (k : Nat) (h1 : k < xs.length) (h2 : k < (ps.map SV.pv).length), RepS ι w F xs[k] (ps.map SV.pv)[k] := by
  refine ⟨by simp [h.1], fun k h1 h2 => ?_⟩
  rw [List.getElem_map]
  exact .pv _ _ (h.2 k h1 (by simpa using h2))

section ops
variable {P : Program} {ev : Operand → SV → Prop} {H : Heap} {dst : Option Nat} {ty : TypeId} {pos : String} {after : Array Edge} {g : Option (Nat × Bool)}

/-- A new block of cells, owned. -/
theorem OpT.newBox {o : Oper} {id : Nat} {cs : List SV} (hm : heapMen id H = false) (hcs : SV.menL id cs = false)
    (h : ∀ (V : Nat → Prop) (ι : Nat → Value) (w : World) (a : Act), HeapOk V ι H w → (∀ x, x ∈ o.op.operands → ∀ s, ev x s → RepS ι w (Free V ι H w) (a.eval x) s) →
      ∃ (xs : List Value) (e : TypeId), (execOp a.eval o).run P w = .ok (.value (.pointer (some ⟨w.heap.size, 0, none⟩))) (w.alloc (.cells xs.toArray e)) ∧ xs.length = cs.length ∧
        ∀ (k : Nat) (h1 : k < xs.length) (h2 : k < cs.length), RepS ι w (Free V ι H w) xs[k] cs[k]) : OpT P o ev H (.ref id 0) ((id, .box cs) :: H) (some id) := by
  intro V ι w a Q hV hk hr
  obtain ⟨xs, e, hrun, hlen, hrep⟩ := h V ι w a hk hr
  have hg := World.grownBy_alloc w (.cells xs.toArray e) none
  have hst : Step V ι H w (some id) (rename ι id (.pointer (some ⟨w.heap.size, 0, none⟩))) ((id, .box cs) :: H) (w.alloc (.cells xs.toArray e)) := by
    refine Step.new hV hk hg hm (by simp [blkOf]) ?_
    refine ⟨w.heap.size, xs, e, rfl, heap_alloc_new w _, hlen, fun k h1 h2 => ?_⟩
    refine (hrep k h1 h2).move (nw := some id) (fun b hb => hg.block b hb.1 (by simp)) (fun b hb => ⟨Nat.lt_of_lt_of_le hb.1 hg.size, hb.2.1, ?_⟩) (fun i hi => by unfold rename; rw [if_neg (fun e => hi (by rw [e]))])
      (fun i hi => by simp only [Option.some.injEq] at hi; subst hi; exact SV.menL_get hcs k h2)
    rintro ⟨i, bl, hl, hb'⟩
    rw [List.lookup_cons] at hl
    by_cases e : i = id
    · subst e
      simp [rename, blkOf] at hb'
      have := hb.1; omega
    · rw [beq_eq_false_iff_ne.2 e] at hl
      exact hb.2.2 ⟨i, bl, hl, by simpa [rename, e] using hb'⟩
  unfold Oper.wp
  rw [hrun]
  exact ⟨_, _, rfl, hst, .ref id 0 _ (by simp [rename])⟩

theorem Rep.cellsL {w : World} {F : Nat → Prop} {v : Value} {p : PV} (h1 : Rep w F v p) (hp : p ≠ .any) : RepL w F v.cells.toList p.cells := by
  cases h1 with
  | agg xs cs hl hr' => exact ⟨hl, hr'⟩
  | any => exact absurd rfl hp
  | err t u => exact .cons (.err t u) .nil
  | tup xs cs hl hr' => exact .cons (.tup xs cs hl hr') .nil
  | int k n h => exact .cons (.int k n h) .nil
  | bool b => exact .cons (.bool b) .nil
  | str s h => exact .cons (.str s h) .nil
  | seq0 α d f a' cap h0 => exact .cons (.seq0 α d f a' cap h0) .nil
  | seq α d f l b off cap xs hF hcap hm hl hc hr' => exact .cons (.seq α d f l b off cap xs hF hcap hm hl hc hr') .nil
  | nil => exact .cons .nil .nil
  | cap0 a' => exact .cons (.cap0 a') .nil
  | rd cs b off xs hF hl hc hr' => exact .cons (.rd cs b off xs hF hl hc hr') .nil
  | clo K xs cs hl hr' => exact .cons (.clo K xs cs hl hr') .nil
  | val v h => rw [oneCell_cells h]; exact .cons (.val v h) .nil
  | cell1 v h => rw [oneCell_cells h]; exact .cons (.cell1 v h) .nil

theorem menL_pv (id : Nat) : ∀ ps : List PV, SV.menL id (ps.map SV.pv) = false
  | [] => rfl
  | p :: ps => by simp [SV.menL, SV.men, menL_pv id ps]

/-- A struct variable (or one of one cell) that will be written. -/
theorem op_boxO {e : TypeId} {x : Operand} {p : PV} (id : Nat) (hx : ev x (.pv p)) (hp : p ≠ .any) (hm : heapMen id H = false) :
    OpT P ⟨dst, .box e x, ty, pos, after, g⟩ ev H (.ref id 0) ((id, .box (p.cells.map SV.pv)) :: H) (some id) :=
  OpT.newBox hm (menL_pv id _) fun V ι w a hk hr => by
    have h1 := ((hr x (by simp [Op.operands]) _ hx).pv_inv.cellsL hp).map_pv (ι := ι)
    exact ⟨(a.eval x).cells.toList, e, by simp [execOp, Instr.box, newVar, newRow], h1.1, h1.2⟩

/-- 'var x T'. -/
theorem op_alloc {t : TypeId} {z : Value} {cs : List SV} (id : Nat) (hz : ∀ w, (zeroValue t).run P w = .ok z w) (hc : constCells z.cells.toList = some cs) (hm : heapMen id H = false) (hcs : SV.menL id cs = false) :
    OpT P ⟨dst, .alloc t, ty, pos, after, g⟩ ev H (.ref id 0) ((id, .box cs) :: H) (some id) :=
  OpT.newBox hm hcs fun V ι w a hk hr => by
    obtain ⟨h1, h2⟩ := constCells_spec (ι := ι) (w := w) (F := Free V ι H w) hc
    exact ⟨z.cells.toList, t, by simp [execOp, Instr.alloc, hz, newVar, newRow], h1, h2⟩

theorem op_fieldAddrR {s : TypeId} {fs : Array Field} {i : Nat} {fl : Field} {off o z id : Nat} {x : Operand} (ht : P.underlying s = some (.struct fs)) (hf : fs[i]? = some fl) (hoff : fl.offset = off)
    (hsz : ∀ w, (sizeOf fl.type).run P w = .ok (z + 1) w) (hx : ev x (.ref id o)) : OpT P ⟨dst, .fieldAddr s x i, ty, pos, after, g⟩ ev H (.ref id (o + off)) H none :=
  OpT.value fun V ι w A hk hr => by
    subst hoff
    obtain ⟨b, h1, h2⟩ := (hr x (by simp [Op.operands]) _ hx).ref_inv
    refine ⟨.pointer (some ⟨b, o + fl.offset, none⟩), ?_, .ref id _ b h1⟩
    simp [execOp, h2, Instr.fieldAt, Instr.sureAddr, run_underlying ht, hf, fieldPlace, hsz, Addr.add_lit]

theorem op_loadR {t : TypeId} {x : Operand} {id off : Nat} {cs : List SV} {s : SV} (ht : ∀ w, (isAgg t).run P w = .ok false w) (hx : ev x (.ref id off)) (hl : List.lookup id H = some (.box cs)) (hs : cs[off]? = some s) :
    OpT P ⟨dst, .load t x, ty, pos, after, g⟩ ev H s H none :=
  OpT.value fun V ι w A hk hr => by
    obtain ⟨b, h1, h2⟩ := (hr x (by simp [Op.operands]) _ hx).ref_inv
    obtain ⟨b', xs, e, hv, hh, hlen, hrep⟩ := hk.ok id _ hl
    rw [h1] at hv
    simp only [Value.pointer.injEq, Option.some.injEq, Addr.mk.injEq, and_true] at hv
    subst hv
    obtain ⟨h3, h4⟩ := List.getElem?_eq_some_iff.1 hs
    have h5 : off < xs.length := by omega
    have hcell : w.cell? ⟨b, off, none⟩ = some xs[off] := by
      rw [cell_of_row w b off xs.toArray e (0, 0) hh]; simp [h5]
    have h6 := hrep off h5 h3
    rw [h4] at h6
    exact ⟨xs[off], by simp [execOp, h2, Instr.loadAt, Instr.sureAddr, loadVar, ht, hcell], h6⟩

theorem op_loadRA {t : TypeId} {x : Operand} {id off z : Nat} {cs : List SV} {ps : List PV} (ht : ∀ w, (isAgg t).run P w = .ok true w) (hsz : ∀ w, (sizeOf t).run P w = .ok z w) (hx : ev x (.ref id off))
    (hl : List.lookup id H = some (.box cs)) (hz : off + z ≤ cs.length) (hs : plainAll ((cs.drop off).take z) = some ps) : OpT P ⟨dst, .load t x, ty, pos, after, g⟩ ev H (.pv (.agg ps)) H none :=
  OpT.value fun V ι w A hk hr => by
    obtain ⟨b, h1, h2⟩ := (hr x (by simp [Op.operands]) _ hx).ref_inv
    obtain ⟨b', xs, e, hv, hh, hlen, hrep⟩ := hk.ok id _ hl
    rw [h1] at hv
    simp only [Value.pointer.injEq, Option.some.injEq, Addr.mk.injEq, and_true] at hv
    subst hv
    have hys := plainAll_spec (ι := ι) (w := w) (F := Free V ι H w) (xs := (xs.drop off).take z) hs (by simp [hlen]) fun k h1 h2 => by
      simp only [List.getElem_take, List.getElem_drop]
      exact hrep _ _ _
    have hl2 : ((xs.drop off).take z).length = z := by simp; omega
    have hload := run_loadVar_agg (P := P) (t := t) (w := w) (b := b) (xs := (xs.drop off).take z) ht (by rw [hl2]; exact hsz) off fun k hk => by
      rw [cell_of_row w b (off + k) xs.toArray e (0, 0) hh]
      simp
    exact ⟨_, by simp [execOp, h2, Instr.loadAt, Instr.sureAddr, hload], .pv _ _ (.agg _ ps hys.1 hys.2)⟩

theorem heap_setCell_at (w : World) (b o : Nat) (xs : List Value) (e : TypeId) (v : Value) (hh : w.heap[b]? = some (.cells xs.toArray e (0, 0))) :
    (w.setCell ⟨b, o, none⟩ v).heap[b]? = some (.cells (xs.set o v).toArray e (0, 0)) := by
  simp only [World.setCell, Array.getElem?_modify, ↓reduceIte, hh, Option.map_some]
  simp

theorem op_storeR {t : TypeId} {x y : Operand} {id off : Nat} {cs : List SV} {s : SV} (hsz : ∀ w, (sizeOf t).run P w = .ok 1 w) (hx : ev x (.ref id off)) (hy : ev y s) (hl : List.lookup id H = some (.box cs))
    (ho : off < cs.length) (h1 : s.one = true) (hnomap : ∀ i, s ≠ .map i) (hown : ∀ i, s = .own i → ∃ e z α d f l, List.lookup i H = some (.arr e z α d f l)) :
    OpT P ⟨dst, .store t x y, ty, pos, after, g⟩ ev H (.pv .any) ((id, .box (cs.set off s)) :: H) none := by
  intro V ι w a Q hV hk hr
  obtain ⟨b, hb1, hb2⟩ := (hr x (by simp [Op.operands]) _ hx).ref_inv
  have hrs := hr y (by simp [Op.operands]) _ hy
  obtain ⟨b', xs, e, hv, hh, hlen, hrep⟩ := hk.ok id _ hl
  rw [hb1] at hv
  simp only [Value.pointer.injEq, Option.some.injEq, Addr.mk.injEq, and_true] at hv
  subst hv
  have hone : (a.eval y).oneCell' = true := hrs.oneCell h1 fun i hi => by
    rcases hi with hi | hi
    · obtain ⟨e', z, α, d, f, l, hl'⟩ := hown i hi
      obtain ⟨ys, ho', _⟩ := hk.ok i _ hl'
      rcases ho'.2 with ⟨h, _⟩ | ⟨_, _, _, h, _⟩ <;> rw [h] <;> rfl
    · exact absurd hi (hnomap i)
  have ho' : off < xs.length := by omega
  have hcell : w.cell? ⟨b, off, none⟩ = some xs[off] := by rw [cell_of_row w b off xs.toArray e (0, 0) hh]; simp [ho']
  have hfz : w.frozen? ⟨b, off, none⟩ = false := by simp [World.frozen?, hh]
  have hg := grownBy_setCell w b off (a.eval y)
  have hst : Step V ι H w none ι ((id, .box (cs.set off s)) :: H) (w.setCell ⟨b, off, none⟩ (a.eval y)) := by
    refine Step.upd hV hk hl (by rw [hb1]; exact hg) ?_
    refine ⟨b, xs.set off (a.eval y), e, hb1, heap_setCell_at w b off xs e _ hh, by simp [hlen], fun k h2 h3 => ?_⟩
    have hmv : ∀ {v : Value} {u : SV}, RepS ι w (Free V ι H w) v u → RepS ι (w.setCell ⟨b, off, none⟩ (a.eval y)) (Free V ι ((id, .box (cs.set off s)) :: H) (w.setCell ⟨b, off, none⟩ (a.eval y))) v u := fun {v u} h =>
      h.move (nw := none) (fun c hc => hg.block c hc.1 fun e => hc.2.2 ⟨id, _, hl, by rw [hb1]; simpa [blkOf] using e.symm⟩) (fun c hc => ⟨Nat.lt_of_lt_of_le hc.1 hg.size, hc.2.1, ?_⟩) (fun _ _ => rfl) (by simp)
    · by_cases hk' : off = k
      · subst hk'
        simp only [List.getElem_set_self]
        exact hmv hrs
      · rw [List.getElem_set_ne hk', List.getElem_set_ne hk']
        exact hmv (hrep k (by simpa using h2) (by simpa using h3))
    · rintro ⟨i, bl, hl', hb'⟩
      rw [List.lookup_cons] at hl'
      by_cases e : i = id
      · subst e; exact hc.2.2 ⟨i, _, hl, hb'⟩
      · rw [beq_eq_false_iff_ne.2 e] at hl'; exact hc.2.2 ⟨i, bl, hl', hb'⟩
  unfold Oper.wp
  have hrun : (execOp a.eval ⟨dst, .store t x y, ty, pos, after, g⟩).run P w = .ok .skip (w.setCell ⟨b, off, none⟩ (a.eval y)) := by
    have hs := run_store P w ⟨b, off, none⟩ (a.eval y) .plain hone
    rw [hcell] at hs
    simp only [hfz, Bool.false_eq_true, ↓reduceIte] at hs
    simp [execOp, hb2, Instr.storeAt, Instr.sureAddr, storeVar, hsz, oneCell_cells hone, storeCells, Addr.add_zero', hs]
  rw [hrun]
  exact ⟨ι, undef, rfl, hst, .pv _ _ (.any _)⟩
end ops
end Go.Abs
