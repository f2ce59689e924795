/- More of owned blocks: calls that read them alone; structs of whatever is one cell, in boxes; a check for nil; what is known of what an owned slice holds. Conditions: each law names its own. -/
import Derived.Test.YtolmcapbpliaiaaDoorAbsK
namespace Go.Abs
set_option linter.unusedVariables false
variable {B : BT}

section ops
variable {P : Program} {ev : Operand → SV → Prop} {H : Heap} {dst : Option Nat} {ty : TypeId} {pos : String} {after : Array Edge} {g : Option (Nat × Bool)}

/-- Owned blocks listed otherwise. -/
theorem OpT.sub {o : Oper} {v : SV} {H1 H2 : Heap} {nw : Option Nat} (h : OpT P o ev H v H1 nw) (hs : ∀ id blk, List.lookup id H2 = some blk → List.lookup id H1 = some blk) : OpT P o ev H v H2 nw := by
  intro V ι w a Q hV hk hr
  refine Oper.wp_mono ?_ (h V ι w a Q hV hk hr)
  rintro a' w' ⟨ι', rv, rfl, hst, hrv⟩
  exact ⟨ι', rv, rfl, hst.sub hs, hrv.move (nw := none) (fun _ _ => rfl) (fun b hb => hb.of_sub hs) (fun _ _ => rfl) (by simp)⟩

theorem lookup_same {ρ : Nat → Nat} {Hc H0 : Heap} (hH : KeptM ρ Hc H0) (id : Nat) (blk : Blk) (h : List.lookup id Hc = some blk) : List.lookup id (mapH ρ H0 ++ Hc) = some blk := by
  rw [lookup_append_ne]
  cases hl : List.lookup id (mapH ρ H0) with
  | none => exact h
  | some b =>
    obtain ⟨k, b0, h1, rfl, rfl⟩ := mapH_some hl
    rw [hH.get h1] at h
    exact h

/-- A call that reads owned blocks alone. -/
theorem op_callHR {K : FuncId} {ts : Array TypeId} {args : Array Operand} {ags : List SV} {H0 Hc : Heap} {v : SV} (ρ : Nat → Nat) (hcall : ∀ vs w, (callFunc K vs).run P w = .ok (.enter K vs) w)
    (hf : FCH P K ags H0 H0 v none) (hv : SeenL ev args.toList (SV.mapIL ρ ags)) (hH : KeptM ρ Hc H0) (hok : namesOk ρ Hc H0 H0 v none = true) :
    OpT P ⟨dst, .call ⟨.value (.func K), args, ts⟩, ty, pos, after, g⟩ ev Hc (v.mapI ρ) Hc none :=
  (op_callH ρ hcall hf hv hH hok).sub (lookup_same hH)
theorem op_callVHR {n : Nat} {K : FuncId} {ts : Array TypeId} {args : Array Operand} {ags caps : List SV} {H0 Hc : Heap} {v : SV} (ρ : Nat → Nat) (hcall : ∀ vs w, (callFunc K vs).run P w = .ok (.enter K vs) w)
    (hf : FCH P K (ags ++ caps) H0 H0 v none) (hx : ev (.tmp n) (.clo (.func K) (SV.mapIL ρ caps))) (hv : SeenL ev args.toList (SV.mapIL ρ ags)) (hH : KeptM ρ Hc H0) (hok : namesOk ρ Hc H0 H0 v none = true) :
    OpT P ⟨dst, .call ⟨.value (.tmp n), args, ts⟩, ty, pos, after, g⟩ ev Hc (v.mapI ρ) Hc none :=
  (op_callVH ρ hcall hf hx hv hH hok).sub (lookup_same hH)

theorem op_nilCheckR {x : Operand} {id o : Nat} (hx : ev x (.ref id o)) : OpT P ⟨dst, .nilCheck x, ty, pos, after, g⟩ ev H (.ref id o) H none :=
  OpT.value fun V ι w A hk hr => by
    have h0 := hr x (by simp [Op.operands]) _ hx
    obtain ⟨b, h1, h2⟩ := h0.ref_inv
    exact ⟨.pointer (some ⟨b, o, none⟩), by simp [execOp, h2], by rw [← h2]; exact h0⟩

/-- One cell each, as a struct's fields in their order. -/
def OneL (H : Heap) : List SV → Prop
  | [] => True
  | s :: r => s.one = true ∧ (∀ i, s = .map i → ∃ m, List.lookup i H = some (.mp m)) ∧ (∀ i, s = .own i → (∃ e z α d f l, List.lookup i H = some (.arr e z α d f l)) ∨ ∃ m, List.lookup i H = some (.mp m)) ∧ OneL H r

theorem one_eval {V : Nat → Prop} {ι : Nat → Value} {w : World} {v : Value} {s : SV} (hk : HeapOk V ι H w) (h : RepS ι w (Free V ι H w) v s) (h1 : s.one = true) (h2 : ∀ i, s = .map i → ∃ m, List.lookup i H = some (.mp m)) (h3 : ∀ i, s = .own i → (∃ e z α d f l, List.lookup i H = some (.arr e z α d f l)) ∨ ∃ m, List.lookup i H = some (.mp m)) :
    v.oneCell' = true := by
  have hmp : ∀ i m, List.lookup i H = some (.mp m) → (ι i).oneCell' = true := fun i m hl => by
    obtain ⟨r, es, clock, hv, _⟩ := hk.ok i _ hl
    rw [hv]; rfl
  refine h.oneCell h1 fun i hi => ?_
  rcases hi with hi | hi
  · rcases h3 i hi with ⟨e', z, α, d, f, l, hl'⟩ | ⟨m, hl'⟩
    · obtain ⟨ys, ho', _⟩ := hk.ok i _ hl'
      rcases ho'.2 with ⟨h, _⟩ | ⟨_, _, _, h, _⟩ <;> rw [h] <;> rfl
    · exact hmp i m hl'
  · obtain ⟨m, hl'⟩ := h2 i hi
    exact hmp i m hl'

theorem fill_ones : ∀ (vs : List Value) (k : Nat) (cur : List Value), (∀ v, v ∈ vs → v.oneCell' = true) → k + vs.length ≤ cur.length →
    Instr.fill (fun i => some (i, 1)) cur.toArray ((vs.zipIdx k).map fun p => (p.2, p.1)) = some (cur.take k ++ vs ++ cur.drop (k + vs.length)).toArray
  | [], k, cur, _, hl => by simp [Instr.fill]
  | v :: vs, k, cur, h1, hl => by
    have hv := oneCell_cells (h1 v List.mem_cons_self)
    simp only [List.zipIdx_cons, List.map_cons, Instr.fill, hv]
    have hlt : k < cur.length := by simp at hl; omega
    rw [if_neg (by simp; omega)]
    have ih := fill_ones vs (k + 1) (cur.set k v) (fun u hu => h1 u (List.mem_cons_of_mem _ hu)) (by simp at hl ⊢; omega)
    have e1 : (#[v].zipIdx.foldl (fun cs (p : Value × Nat) => cs.setIfInBounds (k + p.2) p.1) cur.toArray) = (cur.set k v).toArray := by simp
    rw [e1, ih]
    have h2 : (cur.set k v).take (k + 1) = cur.take k ++ [v] := by
      rw [List.take_succ_eq_append_getElem (by simpa using hlt)]
      simp [List.take_set_of_le]
    rw [h2, List.drop_set_of_lt (by omega)]
    simp only [List.length_cons, List.append_assoc, List.cons_append, List.nil_append]
    rw [show k + 1 + vs.length = k + (vs.length + 1) by omega]

/-- A struct built of whatever is one cell, all its fields given. -/
theorem op_buildS {t : TypeId} {fs : Array Field} {zero : Value} {n : Nat} {xs : List Operand} {ss : List SV} {places : Array (Nat × Nat)} (ht : P.underlying t = some (.struct fs)) (hz : ∀ w, (zeroValue t).run P w = .ok zero w) (hzs : zero.cells.size = n)
    (hpl : ∀ w, (fs.mapM fun (f : Field) => do pure (f.offset, ← sizeOf f.type)).run P w = .ok places w) (hplace : ∀ i, i < n → places[i]? = some (i, 1)) (hn : xs.length = n) (hv : SeenL ev xs ss) (h1 : OneL H ss) :
    OpT P ⟨dst, .build t (xs.zipIdx.map fun p => (p.2, p.1)).toArray, ty, pos, after, g⟩ ev H (.aggS ss) H none :=
  OpT.value fun V ι w a hk hr => by
    have hmem : ∀ x, x ∈ xs → x ∈ (Op.build t (xs.zipIdx.map fun p => (p.2, p.1)).toArray).operands := by
      intro x hx
      obtain ⟨i, hi, rfl⟩ := List.getElem_of_mem hx
      simp only [Op.operands]
      simp
      refine ⟨i, ?_⟩
      rw [List.mk_mem_zipIdx_iff_getElem?]
      exact List.getElem?_eq_getElem hi
    have hrep := hv.rep (ι := ι) (w := w) (F := Free V ι H w) (a := a) fun x hx => hr x (hmem x hx)
    have hone : ∀ (xs : List Operand) (ss : List SV), OneL H ss → (xs.map a.eval).length = ss.length → (∀ (k : Nat) (h1 : k < (xs.map a.eval).length) (h2 : k < ss.length), RepS ι w (Free V ι H w) (xs.map a.eval)[k] ss[k]) → ∀ v, v ∈ xs.map a.eval → v.oneCell' = true := by
      intro xs
      induction xs with
      | nil => intro ss _ _ _ v hv; simp at hv
      | cons x xs ih =>
        intro ss h1 hl h2 v hv
        match ss, hl, h1, h2 with
        | s :: ss, hl, h1, h2 =>
          rcases List.mem_cons.1 hv with rfl | hv
          · exact one_eval hk (h2 0 (by simp) (by simp)) h1.1 h1.2.1 h1.2.2.1
          · exact ih ss h1.2.2.2 (by simpa using hl) (fun k a b => h2 (k + 1) (by simpa using a) (by simpa using b)) v hv
    have hones := hone xs ss h1 hrep.1 hrep.2
    refine ⟨.agg (xs.map a.eval).toArray, ?_, .aggS (xs.map a.eval) _ hrep.1 hrep.2⟩
    have hcl : zero.cells.toList.length = n := by simpa using hzs
    have hf := fill_ones (xs.map a.eval) 0 zero.cells.toList hones (by simp [hn]; omega)
    have e1 : zero.cells.toList.take 0 ++ xs.map a.eval ++ zero.cells.toList.drop (0 + (xs.map a.eval).length) = xs.map a.eval := by
      rw [List.drop_eq_nil_of_le (by simp [hn]; omega)]; simp
    rw [e1] at hf
    have hf2 : Instr.fill (fun i => places[i]?) zero.cells (((xs.map a.eval).zipIdx 0).map fun p => (p.2, p.1)) = some (xs.map a.eval).toArray := by
      have gen : ∀ (l : List (Nat × Value)) (c : Array Value), (∀ p, p ∈ l → p.1 < n) → Instr.fill (fun i => places[i]?) c l = Instr.fill (fun i => some (i, 1)) c l := by
        intro l
        induction l with
        | nil => intro c _; rfl
        | cons p l ih =>
          intro c hp
          obtain ⟨i, v⟩ := p
          simp only [Instr.fill, hplace i (hp (i, v) List.mem_cons_self)]
          split
          · rfl
          · exact ih _ fun q hq => hp q (List.mem_cons_of_mem _ hq)
      rw [gen _ _ ?_]
      · simpa using hf
      · intro p hp
        simp only [List.mem_map] at hp
        obtain ⟨q, hq, rfl⟩ := hp
        have := List.mem_zipIdx hq
        simp at this
        simp only
        omega
    simp only [execOp, Instr.build, Sem.run_bind, hz, Result.andThen_ok, run_underlying ht, hpl]
    have e2 : ((xs.zipIdx.map fun p => (p.2, p.1)).toArray.map fun (i, x) => (i, a.eval x)).toList = ((xs.map a.eval).zipIdx 0).map fun p => (p.2, p.1) := by
      simp [List.zipIdx_map, List.map_map, Function.comp_def]
    rw [e2, hf2]
    simp

/-- Such a struct laid into memory. -/
theorem op_boxS {e : TypeId} {x : Operand} {ss : List SV} (id : Nat) (hx : ev x (.aggS ss)) (hm : heapMen id H = false) (hss : SV.menL id ss = false) :
    OpT P ⟨dst, .box e x, ty, pos, after, g⟩ ev H (.ref id 0) ((id, .box ss) :: H) (some id) :=
  OpT.newBox hm hss fun V ι w a hk hr => by
    have h0 := hr x (by simp [Op.operands]) _ hx
    obtain ⟨ys, hys, hyl, hyr⟩ : ∃ ys : List Value, a.eval x = .agg ys.toArray ∧ ys.length = ss.length ∧ ∀ (k : Nat) (h1 : k < ys.length) (h2 : k < ss.length), RepS ι w (Free V ι H w) ys[k] ss[k] := by
      generalize a.eval x = v at h0
      cases h0 with
      | aggS ys _ hl hr => exact ⟨ys, rfl, hl, hr⟩
    exact ⟨ys, e, by simp [execOp, Instr.box, newVar, newRow, hys, Value.cells], hyl, hyr⟩
/-- A handle laid into memory. -/
theorem op_boxH {e : TypeId} {x : Operand} {s : SV} (id : Nat) (hx : ev x s) (hm : heapMen id H = false) (hs : s.men id = false) (h1 : s.one = true) (h2 : ∀ i, s = .map i → ∃ m, List.lookup i H = some (.mp m)) (h3 : ∀ i, s = .own i → (∃ e z α d f l, List.lookup i H = some (.arr e z α d f l)) ∨ ∃ m, List.lookup i H = some (.mp m)) :
    OpT P ⟨dst, .box e x, ty, pos, after, g⟩ ev H (.ref id 0) ((id, .box [s]) :: H) (some id) :=
  OpT.newBox hm (by simp [SV.menL, hs]) fun V ι w a hk hr => by
    have h0 := hr x (by simp [Op.operands]) _ hx
    have hc := oneCell_cells (one_eval hk h0 h1 h2 h3)
    exact ⟨[a.eval x], e, by simp [execOp, Instr.box, newVar, newRow, hc], rfl, fun k k1 k2 => by match k, k1 with | 0, _ => exact h0⟩
end ops

/-- What an owned slice holds fits. -/
theorem awp_fitH {ro : Option Nat} {P : Program} {n : Nat} {c : Code} {Q : Exit → St → Prop} {st : St} {id e z : Nat} {α : Type} {d : α} {f : α → List PV} {l : List α} (hl : List.lookup id st.H = some (.arr e z α d f l))
    (h : PV.Fit (.seq α d f l) → awp (ro := ro) (B := B) P n c Q st) : awp (ro := ro) (B := B) P n c Q st := by
  intro w0 O V ι a w hs
  obtain ⟨xs, ho, hr, hm⟩ := hs.heap.ok id _ hl
  exact h (.seq α d f l hm fun k h2 => (hr.2 k (hr.1 ▸ h2) h2).fit) w0 O V ι a w hs
/-- Back to a loop's head, two owned blocks under their names there. -/
theorem Ent.round2 {st st' : St} (i j i2 j2 : Nat) (h1 : KeptE st.env (renE j i (renE j2 i2 st'.env))) (h2 : KeptH st.H (renH j i (renH j2 i2 st'.H))) (hf : freshIn (some j) (renE j i (renE j2 i2 st'.env)) = true) (hm : heapMen j (renH j i (renH j2 i2 st'.H)) = false)
    (hkey : ((renH j i (renH j2 i2 st'.H)).all fun p => !(p.1 == j)) = true) (h3 : KeptE (renE i j (renE j i (renE j2 i2 st'.env))) (renE j2 i2 st'.env)) (h4 : KeptH (renH i j (renH j i (renH j2 i2 st'.H))) (renH j2 i2 st'.H))
    (hf2 : freshIn (some j2) (renE j2 i2 st'.env) = true) (hm2 : heapMen j2 (renH j2 i2 st'.H) = false) (hkey2 : ((renH j2 i2 st'.H).all fun p => !(p.1 == j2)) = true) (h5 : KeptE (renE i2 j2 (renE j2 i2 st'.env)) st'.env) (h6 : KeptH (renH i2 j2 (renH j2 i2 st'.H)) st'.H) : Ent st st' :=
  Ent.trans (Ent.round (st' := ⟨renE j2 i2 st'.env, renH j2 i2 st'.H⟩) i j h1 h2 hf hm hkey h3 h4) (Ent.trans (Ent.ren i2 j2 hf2 hm2 hkey2) (Ent.kept h5 h6))
end Go.Abs
