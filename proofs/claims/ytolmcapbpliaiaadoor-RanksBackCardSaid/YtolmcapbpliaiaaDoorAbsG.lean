/- Rules of function values, of arrays, and of structs that hold owned slices. Conditions: each law names its own. -/
import Derived.Test.YtolmcapbpliaiaaDoorAbsF
namespace Go.Abs
set_option linter.unusedVariables false

section ops
variable {P : Program} {ev : Operand → SV → Prop} {H : Heap} {dst : Option Nat} {ty : TypeId} {pos : String} {after : Array Edge} {g : Option (Nat × Bool)}

/-! ### Function values -/

theorem op_makeFunc {K : FuncId} {caps : Array Operand} {vals : List PV} (hargs : caps.size = vals.length) (hev : ∀ (k : Nat) (h1 : k < caps.size) (h2 : k < vals.length), ev caps[k] (.pv vals[k])) :
    OpT P ⟨dst, .makeFunc (.func K) #[] caps, ty, pos, after, g⟩ ev H (.pv (.clo K vals)) H none :=
  OpT.value fun V ι w a hk hr => by
    refine ⟨.func (.func K) #[] (caps.map a.eval), by simp [execOp, Instr.makeFunc], .pv _ _ ?_⟩
    have e : caps.map a.eval = (caps.map a.eval).toList.toArray := by rw [Array.toArray_toList]
    rw [e]
    refine .clo K _ vals (by simp [hargs]) fun k h1 h2 => ?_
    have h1' : k < caps.size := by simpa using h1
    have := hr caps[k] (by simp [Op.operands]) _ (hev k h1' h2)
    simpa using this.pv_inv
theorem op_makeFunc1 {K : FuncId} {x0 : Operand} {p0 : PV} (h0 : ev x0 (.pv p0)) : OpT P ⟨dst, .makeFunc (.func K) #[] #[x0], ty, pos, after, g⟩ ev H (.pv (.clo K [p0])) H none :=
  op_makeFunc rfl fun k a b => by match k, a, b with | 0, _, _ => exact h0

theorem op_callV {x : Operand} {K : FuncId} {ts : Array TypeId} {args : Array Operand} {vals caps : List PV} {v : PV} (hcall : ∀ vs w, (callFunc K vs).run P w = .ok (.enter K vs) w) (hx : ev x (.pv (.clo K caps)))
    (hargs : args.size = vals.length) (hev : ∀ (k : Nat) (h1 : k < args.size) (h2 : k < vals.length), ev args[k] (.pv vals[k])) (hf : FC P K (vals ++ caps) v) (hxt : ∃ n, x = .tmp n) :
    OpT P ⟨dst, .call ⟨.value x, args, ts⟩, ty, pos, after, g⟩ ev H (.pv v) H none := by
  intro V ι w a Q hV hk hr
  obtain ⟨n, rfl⟩ := hxt
  have hxv := (hr (.tmp n) (by simp [Op.operands, Call.operands]) _ hx).pv_inv
  obtain ⟨xs, hxe, hxl⟩ : ∃ xs : List Value, a.eval (.tmp n) = .func (.func K) #[] xs.toArray ∧ RepL w (Free V ι H w) xs caps := by
    generalize a.eval (.tmp n) = u at hxv
    cases hxv with
    | clo _ xs _ hl hr' => exact ⟨xs, rfl, hl, hr'⟩
  have hrep : RepL w (Free V ι H w) ((args.map a.eval).toList ++ xs) (vals ++ caps) := by
    refine RepL.append ⟨by simp [hargs], fun k h1 h2 => ?_⟩ hxl
    have h1' : k < args.size := by simpa using h1
    have := hr args[k] (by simp [Op.operands, Call.operands]) _ (hev k h1' h2)
    simpa using this.pv_inv
  have hc := hf w _ (Free V ι H w) (fun b hb => hb.1) hrep
  unfold Oper.wp
  have hrun : (execOp a.eval ⟨dst, .call ⟨.value (.tmp n), args, ts⟩, ty, pos, after, g⟩).run P w = .ok (.enter K (args.map a.eval ++ xs.toArray)) w := by
    simp [execOp, resolve, hxe, Deferred.ofValue, invoke, hcall]
  rw [hrun, Oper.upon_enter]
  have e : ((args.map a.eval).toList ++ xs).toArray = args.map a.eval ++ xs.toArray := by simp
  rw [e] at hc
  refine Calls.mono hc ?_
  rintro e' w' ⟨rv, rfl, hrv, hos, htape, hout, hsize, hall⟩
  have hst := Step.same (V := V) hk hos htape hout hsize hall
  refine ⟨ι, rv, rfl, hst, .pv _ _ (hrv.mono (fun _ _ => rfl) ?_)⟩
  rintro b (hb | ⟨h1, h2⟩)
  · exact hst.free hb
  · exact ⟨h2, hV b h1, fun ho => absurd (hk.lt ho) (by omega)⟩
theorem op_callV1 {n : Nat} {K : FuncId} {ts : Array TypeId} {x0 : Operand} {caps : List PV} {p0 v : PV} (hcall : ∀ vs w, (callFunc K vs).run P w = .ok (.enter K vs) w) (hx : ev (.tmp n) (.pv (.clo K caps))) (h0 : ev x0 (.pv p0)) (hf : FC P K (p0 :: caps) v) :
    OpT P ⟨dst, .call ⟨.value (.tmp n), #[x0], ts⟩, ty, pos, after, g⟩ ev H (.pv v) H none :=
  op_callV (vals := [p0]) hcall hx rfl (fun k a b => by match k, a, b with | 0, _, _ => exact h0) hf ⟨n, rfl⟩
theorem op_callV4 {n : Nat} {K : FuncId} {ts : Array TypeId} {x0 x1 x2 x3 : Operand} {caps : List PV} {p0 p1 p2 p3 v : PV} (hcall : ∀ vs w, (callFunc K vs).run P w = .ok (.enter K vs) w) (hx : ev (.tmp n) (.pv (.clo K caps)))
    (h0 : ev x0 (.pv p0)) (h1 : ev x1 (.pv p1)) (h2 : ev x2 (.pv p2)) (h3 : ev x3 (.pv p3)) (hf : FC P K (p0 :: p1 :: p2 :: p3 :: caps) v) :
    OpT P ⟨dst, .call ⟨.value (.tmp n), #[x0, x1, x2, x3], ts⟩, ty, pos, after, g⟩ ev H (.pv v) H none :=
  op_callV (vals := [p0, p1, p2, p3]) hcall hx rfl (fun k a b => by match k, a, b with | 0, _, _ => exact h0 | 1, _, _ => exact h1 | 2, _, _ => exact h2 | 3, _, _ => exact h3) hf ⟨n, rfl⟩

/-! ### Arrays -/

theorem op_buildA {t e : TypeId} {n z : Nat} {zero : Value} {zc out : List PV} {parts : Array (Nat × Operand)} {pp : List (Nat × PV)} (ht : P.underlying t = some (.array n e)) (hz : ∀ w, (zeroValue t).run P w = .ok zero w)
    (hzc : plainCells zero.cells.toList = some zc) (hsz : ∀ w, (sizeOf e).run P w = .ok z w) (hp : PartsOk ev parts.toList pp) (hfill : fillPV (fun i => some (i * z, z)) zc pp = some out) :
    OpT P ⟨dst, .build t parts, ty, pos, after, g⟩ ev H (.pv (.agg out)) H none :=
  OpT.value fun V ι w a hk hr => by
    obtain ⟨h1, h2⟩ := parts_rep (ι := ι) (w := w) (F := Free V ι H w) (a := a) hp (by simpa [Op.operands] using hr)
    obtain ⟨ys, h3, h4⟩ := fill_rep (place := fun i => some (i * z, z)) _ pp zero.cells zc out h1 h2 (plainCells_spec hzc) hfill
    have e : ys = ys.toList.toArray := by simp
    refine ⟨.agg ys, ?_, .pv _ _ (by rw [e]; exact .agg _ _ h4.1 h4.2)⟩
    have hpv : (parts.map fun (i, x) => (i, a.eval x)) = partsV a parts := rfl
    simp only [execOp, hpv, Instr.build, Sem.run_bind, hz, Result.andThen_ok, run_underlying ht, hsz, h3, Sem.run_pure]
/-- The address of an array's element, in a box. -/
theorem op_indexAddrA {t e : TypeId} {len z id o : Nat} {x i : Operand} {k : IntKind} {n : Int} (ht : P.underlying t = some (.array len e)) (hsz : ∀ w, (sizeOf e).run P w = .ok z w)
    (hx : ev x (.ref id o)) (hi : ev i (.pv (.int k n))) (h : 0 ≤ n ∧ n < (len : Nat)) : OpT P ⟨dst, .indexAddr t x i, ty, pos, after, g⟩ ev H (.ref id (o + n.toNat * z)) H none :=
  OpT.value fun V ι w A hk hr => by
    obtain ⟨b, h1, h2⟩ := (hr x (by simp [Op.operands]) _ hx).ref_inv
    have h3 := (hr i (by simp [Op.operands]) _ hi).pv_inv.int_inv
    refine ⟨.pointer (some ⟨b, o + n.toNat * z, none⟩), ?_, .ref id _ b h1⟩
    simp [execOp, h2, h3, Instr.indexAt, Instr.sureAddr, asIntOf, run_underlying ht, hsz, h.1, h.2, Addr.add_lit]
/-- An element of an array of numbers. -/
theorem op_indexA {t e : TypeId} {len : Nat} {x i : Operand} {k : IntKind} {n : Int} {cs : List PV} (l : List Int) (ht : P.underlying t = some (.array len e)) (ha : ∀ w, (isAgg e).run P w = .ok false w) (hsz : ∀ w, (sizeOf e).run P w = .ok 1 w)
    (hx : ev x (.pv (.agg cs))) (hcs : cs = l.map PV.i) (hi : ev i (.pv (.int k n))) (hl : l.length = len) (h : 0 ≤ n ∧ n < (len : Nat)) : OpT P ⟨dst, .index t x i, ty, pos, after, g⟩ ev H (.int (l.getD n.toNat 0)) H none :=
  OpT.value fun V ι w A hk hr => by
    have h1 := (hr x (by simp [Op.operands]) _ hx).pv_inv
    have h3 := (hr i (by simp [Op.operands]) _ hi).pv_inv.int_inv
    subst hcs
    have hlt : n.toNat < l.length := by omega
    obtain ⟨xs, hxe, hxl, hxr⟩ : ∃ xs : List Value, A.eval x = .agg xs.toArray ∧ xs.length = (l.map PV.i).length ∧ ∀ (k : Nat) (h1 : k < xs.length) (h2 : k < (l.map PV.i).length), Rep w (Free V ι H w) xs[k] (l.map PV.i)[k] := by
      generalize A.eval x = u at h1
      cases h1 with
      | agg xs _ hl hr' => exact ⟨xs, rfl, hl, hr'⟩
    have h4 := hxr n.toNat (by rw [hxl]; simpa using hlt) (by simpa using hlt)
    rw [List.getElem_map] at h4
    have h5 := h4.int_inv
    have e2 : l.getD n.toNat 0 = l[n.toNat] := by simp [List.getD_eq_getElem?_getD, hlt]
    rw [e2]
    refine ⟨.int .i64 l[n.toNat], ?_, .pv _ _ (.int _ _ h4.int_in)⟩
    have h6 : xs[n.toNat]? = some (.int .i64 l[n.toNat]) := by rw [← h5]; exact List.getElem?_eq_getElem _
    simp [execOp, hxe, h3, Instr.index, asIntOf, run_underlying ht, hsz, h.1, h.2, part, ha, h6]

/-! ### Structs that hold owned slices -/

theorem op_build2 {t : TypeId} {fs : Array Field} {zero : Value} {x y : Operand} {p : PV} {i e z : Nat} {α : Type} {d : α} {f : α → List PV} {l : List α} (ht : P.underlying t = some (.struct fs)) (hz : ∀ w, (zeroValue t).run P w = .ok zero w) (hzs : zero.cells.size = 2)
    (hpl : ∀ w, (fs.mapM fun (f : Field) => do pure (f.offset, ← sizeOf f.type)).run P w = .ok #[(0, 1), (1, 1)] w) (hx : ev x (.pv p)) (hp : p.one = true) (hy : ev y (.own i)) (hl : List.lookup i H = some (.arr e z α d f l)) :
    OpT P ⟨dst, .build t #[(0, x), (1, y)], ty, pos, after, g⟩ ev H (.aggS [.pv p, .own i]) H none :=
  OpT.value fun V ι w a hk hr => by
    have h1 := hr x (by simp [Op.operands]) _ hx
    have h2 := hr y (by simp [Op.operands]) _ hy
    have c1 := oneCell_cells (h1.oneCell hp fun id h => by rcases h with h | h <;> cases h)
    have c2 : (a.eval y).cells = #[a.eval y] := oneCell_cells (h2.oneCell rfl fun id h => by
      rcases h with h | h
      · cases h
        obtain ⟨ys, ho', _⟩ := hk.ok i _ hl
        rcases ho'.2 with ⟨h, _⟩ | ⟨_, _, _, h, _⟩ <;> rw [h] <;> rfl
      · cases h)
    refine ⟨.agg #[a.eval x, a.eval y], ?_, .aggS [a.eval x, a.eval y] _ rfl fun k k1 k2 => by match k, k1, k2 with | 0, _, _ => exact h1 | 1, _, _ => exact h2⟩
    obtain ⟨u, v, hzc⟩ : ∃ u v, zero.cells = #[u, v] := by
      match hc : zero.cells.toList, (show zero.cells.toList.length = 2 by simpa using hzs) with
      | [u, v], _ => exact ⟨u, v, by rw [← Array.toList_inj, hc]⟩
    have hfill : Instr.fill (fun i => (#[((0 : Nat), (1 : Nat)), (1, 1)] : Array (Nat × Nat))[i]?) zero.cells [(0, a.eval x), (1, a.eval y)] = some #[a.eval x, a.eval y] := by
      rw [hzc]
      simp [Instr.fill, c1, c2]
    simp only [execOp, Instr.build, Sem.run_bind, hz, Result.andThen_ok, run_underlying ht, hpl]
    have e : (#[(0, x), (1, y)].map fun (i, x) => (i, a.eval x)).toList = [(0, a.eval x), (1, a.eval y)] := by simp
    rw [e, hfill]
    simp

theorem op_storeS {t : TypeId} {x y : Operand} {id off : Nat} {cs ss : List SV} (hsz : ∀ w, (sizeOf t).run P w = .ok ss.length w) (hx : ev x (.ref id off)) (hy : ev y (.aggS ss)) (hl : List.lookup id H = some (.box cs))
    (ho : off + ss.length ≤ cs.length) (h1 : ∀ (k : Nat) (h : k < ss.length), ss[k].one = true ∧ (∀ i, ss[k] ≠ .map i) ∧ ∀ i, ss[k] = .own i → ∃ e z α d f l, List.lookup i H = some (.arr e z α d f l)) :
    OpT P ⟨dst, .store t x y, ty, pos, after, g⟩ ev H (.pv .any) ((id, .box (cs.take off ++ ss ++ cs.drop (off + ss.length))) :: H) none := by
  intro V ι w a Q hV hk hr
  obtain ⟨b, hb1, hb2⟩ := (hr x (by simp [Op.operands]) _ hx).ref_inv
  have hrs := hr y (by simp [Op.operands]) _ hy
  obtain ⟨b', xs, e, hv, hh, hlen, hrep⟩ := hk.ok id _ hl
  rw [hb1] at hv
  simp only [Value.pointer.injEq, Option.some.injEq, Addr.mk.injEq, and_true] at hv
  subst hv
  obtain ⟨ys, hys, hyl, hyr⟩ : ∃ ys : List Value, a.eval y = .agg ys.toArray ∧ ys.length = ss.length ∧ ∀ (k : Nat) (h1 : k < ys.length) (h2 : k < ss.length), RepS ι w (Free V ι H w) ys[k] ss[k] := by
    generalize a.eval y = v at hrs
    cases hrs with
    | aggS ys _ hl hr => exact ⟨ys, rfl, hl, hr⟩
  have hones : ∀ v, v ∈ ys → v.oneCell' = true := by
    intro v hv
    obtain ⟨k, hk', rfl⟩ := List.getElem_of_mem hv
    obtain ⟨o1, o2, o3⟩ := h1 k (by omega)
    refine (hyr k hk' (by omega)).oneCell o1 fun i hi => ?_
    rcases hi with hi | hi
    · obtain ⟨e', z, α, d, f, l, hl'⟩ := o3 i hi
      obtain ⟨zs, ho', _⟩ := hk.ok i _ hl'
      rcases ho'.2 with ⟨h, _⟩ | ⟨_, _, _, h, _⟩ <;> rw [h] <;> rfl
    · exact absurd hi (o2 i)
  have hst0 := run_storeCells_at (P := P) b off e ys 0 xs.toArray w hh (by simp; omega) hones
  generalize hnew : (xs.toArray.toList.take (off + 0) ++ ys ++ xs.toArray.toList.drop (off + 0 + ys.length)).toArray = new at hst0
  have hnl : new.toList = xs.take off ++ ys ++ xs.drop (off + ys.length) := by rw [← hnew]; simp
  have hg : w.grownBy (w.setRow b new) (some b) := ⟨rfl, rfl, rfl, by simp [World.setRow], fun k _ hk => setRow_other w b k _ (fun e => hk (by simp [e]))⟩
  have hst : Step V ι H w none ι ((id, .box (cs.take off ++ ss ++ cs.drop (off + ss.length))) :: H) (w.setRow b new) := by
    refine Step.upd hV hk hl (by rw [hb1]; exact hg) ?_
    refine ⟨b, new.toList, e, hb1, ?_, ?_, fun k h2 h3 => ?_⟩
    · rw [Array.toArray_toList]; exact setRow_heap w b xs.toArray new e (0, 0) hh
    · rw [hnl]; simp; omega
    have hmv : ∀ {v : Value} {u : SV}, RepS ι w (Free V ι H w) v u → RepS ι (w.setRow b new) (Free V ι ((id, .box (cs.take off ++ ss ++ cs.drop (off + ss.length))) :: H) (w.setRow b new)) v u := fun {v u} h =>
      h.move (nw := none) (fun c hc => hg.block c hc.1 fun e => hc.2.2 ⟨id, _, hl, by rw [hb1]; simpa [blkOf] using e.symm⟩) (fun c hc => ⟨Nat.lt_of_lt_of_le hc.1 hg.size, hc.2.1, ?_⟩) (fun _ _ => rfl) (by simp)
    · have key : ∀ (k : Nat) (h2 : k < (xs.take off ++ ys ++ xs.drop (off + ys.length)).length) (h3 : k < (cs.take off ++ ss ++ cs.drop (off + ss.length)).length),
          RepS ι w (Free V ι H w) (xs.take off ++ ys ++ xs.drop (off + ys.length))[k] (cs.take off ++ ss ++ cs.drop (off + ss.length))[k] := by
        intro k h2 h3
        have hto : (xs.take off).length = off := by simp; omega
        have htc : (cs.take off).length = off := by simp; omega
        by_cases c1 : k < off
        · rw [List.getElem_append_left (by simp; omega), List.getElem_append_left (by omega), List.getElem_append_left (by simp; omega), List.getElem_append_left (by omega), List.getElem_take, List.getElem_take]
          exact hrep k (by omega) (by omega)
        · by_cases c2 : k < off + ys.length
          · rw [List.getElem_append_left (by simp; omega), List.getElem_append_right (by omega), List.getElem_append_left (by simp; omega), List.getElem_append_right (by omega)]
            simp only [hto, htc]
            exact hyr _ (by omega) (by omega)
          · rw [List.getElem_append_right (by simp; omega), List.getElem_append_right (by simp; omega)]
            simp only [List.getElem_drop, List.length_append, hto, htc]
            have e1 : off + ys.length + (k - (off + ys.length)) = k := by omega
            have e2 : off + ss.length + (k - (off + ss.length)) = k := by omega
            simp only [e1, e2]
            exact hrep k _ _
      simp only [hnl]
      exact hmv (key k (by rw [← hnl]; exact h2) h3)
    · rintro ⟨i, bl, hl', hb'⟩
      rw [List.lookup_cons] at hl'
      by_cases e : i = id
      · subst e; exact hc.2.2 ⟨i, _, hl, hb'⟩
      · rw [beq_eq_false_iff_ne.2 e] at hl'; exact hc.2.2 ⟨i, bl, hl', hb'⟩
  unfold Oper.wp
  have hrun : (execOp a.eval ⟨dst, .store t x y, ty, pos, after, g⟩).run P w = .ok .skip (w.setRow b new) := by
    simp [execOp, hb2, hys, Instr.storeAt, Instr.sureAddr, storeVar, hsz, Value.cells, hyl, hst0]
  rw [hrun]
  exact ⟨ι, undef, rfl, hst, .pv _ _ (.any _)⟩
theorem op_storeSA {t : TypeId} {x y : Operand} {id off z : Nat} {cs ss : List SV} (hsz : ∀ w, (sizeOf t).run P w = .ok z w) (hx : ev x (.ref id off)) (hy : ev y (.aggS ss)) (hl : List.lookup id H = some (.box cs))
    (hz : ss.length = z) (ho : off + z ≤ cs.length) (h1 : ∀ (k : Nat) (h : k < ss.length), ss[k].one = true ∧ (∀ i, ss[k] ≠ .map i) ∧ ∀ i, ss[k] = .own i → ∃ e z α d f l, List.lookup i H = some (.arr e z α d f l)) :
    OpT P ⟨dst, .store t x y, ty, pos, after, g⟩ ev H (.pv .any) ((id, .box (cs.take off ++ ss ++ cs.drop (off + z))) :: H) none := by
  subst hz
  exact op_storeS hsz hx hy hl ho h1
end ops
end Go.Abs
