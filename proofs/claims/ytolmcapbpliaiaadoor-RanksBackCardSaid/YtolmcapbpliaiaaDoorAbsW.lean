/- The bytes of a text appended to owned bytes; a box for a strings.Builder. Conditions: each law names its own. -/
import Derived.Test.YtolmcapbpliaiaaDoorAbsV
namespace Go.Abs
set_option linter.unusedVariables false
variable {B : BT}

/-- A byte as a cell. -/
abbrev byteC (b : UInt8) : List PV := [.int .u8 (b.toNat : Int)]
theorem byteCells_rep {w : World} {F : Nat → Prop} (s : ByteArray) : RepL w F (byteCells s) (s.data.toList.flatMap byteC) := by
  unfold byteCells
  generalize s.data.toList = l
  induction l with
  | nil => exact .nil
  | cons b l ih =>
    refine RepL.cons (.int .u8 _ ?_) ih
    have := b.toNat_lt
    simp [InK, IntKind.min, IntKind.max, IntKind.signed, IntKind.bits]; omega

section
variable {V : Nat → Prop} {ι : Nat → Value} {H : Heap} {w : World}


theorem lookup_reboxT {i : Nat} {T : TypeId} {cs' : List SV} {k : Nat} {blk : Blk} (h : List.lookup k ((i, Blk.tbox T cs') :: H) = some blk) : (k = i ∧ blk = .tbox T cs') ∨ (k ≠ i ∧ List.lookup k H = some blk) := by
  rw [List.lookup_cons] at h
  by_cases e : k = i
  · subst e; simp at h; exact .inl ⟨rfl, h.symm⟩
  · rw [beq_eq_false_iff_ne.2 e] at h; exact .inr ⟨e, h⟩

theorem owned_reboxT {i : Nat} {T : TypeId} {cs cs' : List SV} (hl : List.lookup i H = some (.tbox T cs)) (b : Nat) : Owned ι ((i, .tbox T cs') :: H) b ↔ Owned ι H b := by
  constructor
  · rintro ⟨k, blk, h, hb⟩
    rcases lookup_reboxT h with ⟨rfl, rfl⟩ | ⟨_, h'⟩
    · exact ⟨k, _, hl, hb⟩
    · exact ⟨k, _, h', hb⟩
  · rintro ⟨k, blk, h, hb⟩
    by_cases e : k = i
    · subst e; exact ⟨k, .tbox T cs', by simp [List.lookup_cons], hb⟩
    · exact ⟨k, blk, by rw [List.lookup_cons, beq_eq_false_iff_ne.2 e]; exact h, hb⟩

theorem free_reboxT {i : Nat} {T : TypeId} {cs cs' : List SV} (hl : List.lookup i H = some (.tbox T cs)) : Free V ι ((i, .tbox T cs') :: H) w = Free V ι H w := by
  funext b
  simp only [Free, owned_reboxT hl b]

/-- The cells of a box may be known otherwise. -/
theorem HeapOk.reboxT {i : Nat} {T : TypeId} {cs cs' : List SV} (hk : HeapOk V ι H w) (hl : List.lookup i H = some (.tbox T cs)) (hlen : cs'.length = cs.length)
    (h : ∀ (xs : List Value), xs.length = cs.length → (∀ (k : Nat) (h1 : k < xs.length) (h2 : k < cs.length), RepS ι w (Free V ι H w) xs[k] cs[k]) → ∀ (k : Nat) (h1 : k < xs.length) (h2 : k < cs'.length), RepS ι w (Free V ι H w) xs[k] cs'[k]) :
    HeapOk V ι ((i, .tbox T cs') :: H) w := {
  ok := fun k blk hb => by
    rw [free_reboxT hl]
    rcases lookup_reboxT hb with ⟨rfl, rfl⟩ | ⟨_, hb'⟩
    · obtain ⟨b, xs, e, hv, hh, h1, h2⟩ := hk.ok k _ hl
      exact ⟨b, xs, e, hv, hh, by omega, h xs h1 h2⟩
    · exact hk.ok k blk hb'
  inj := fun k k' blk blk' b h1 h2 hb hb' => by
    rcases lookup_reboxT h1 with ⟨rfl, rfl⟩ | ⟨_, h1'⟩ <;> rcases lookup_reboxT h2 with ⟨rfl, rfl⟩ | ⟨_, h2'⟩
    · rfl
    · exact hk.inj _ _ _ _ b hl h2' hb hb'
    · exact hk.inj _ _ _ _ b h1' hl hb hb'
    · exact hk.inj _ _ _ _ b h1' h2' hb hb'
  vis := fun b hb => hk.vis b ((owned_reboxT hl b).1 hb) }

theorem Sim.reboxT {w0 : World} {O : Nat → Prop} {n : Nat} {env : Nat → Option SV} {a : Act} {i : Nat} {T : TypeId} {cs cs' : List SV} (hs : Sim B w0 O V n ι env H a w) (hl : List.lookup i H = some (.tbox T cs)) (hlen : cs'.length = cs.length)
    (h : ∀ (xs : List Value), xs.length = cs.length → (∀ (k : Nat) (h1 : k < xs.length) (h2 : k < cs.length), RepS ι w (Free V ι H w) xs[k] cs[k]) → ∀ (k : Nat) (h1 : k < xs.length) (h2 : k < cs'.length), RepS ι w (Free V ι H w) xs[k] cs'[k]) :
    Sim B w0 O V n ι env ((i, .tbox T cs') :: H) a w :=
  ⟨hs.os, hs.tape, hs.output, hs.size, hs.kept, fun b hb => hs.mine b ((owned_reboxT hl b).1 hb), hs.heap.reboxT hl hlen h, fun t s ht => by rw [free_reboxT hl]; exact hs.env t s ht, hs.tmps, hs.marks, hs.new⟩
theorem Ent.beginT {env : Env} {H : Heap} (i off id e z : Nat) (α : Type) (d : α) (f : α → List PV) {T : TypeId} {cs : List SV} (hb : List.lookup i H = some (.tbox T cs)) (hc : cs[off]? = some (.pv .nil)) (hi : i ≠ id) (hf : freshIn (some id) env = true) (hm : heapMen id H = false) :
    Ent ⟨env, H⟩ ⟨env, (i, .tbox T (cs.set off (.own id))) :: (id, .arr e z α d f []) :: H⟩ := by
  intro B w0 O V n ι a w hs
  have hst : Step V ι H w (some id) (rename ι id (.slice none 0 0)) ((id, .arr e z α d f []) :: H) w := by
    refine Step.new hs.new hs.heap (grownBy_refl w none) hm (by simp [blkOf]) ?_
    exact ⟨[], World.ownsRow_nil w 0 e z, .nil, by simp⟩
  have hs' := hs.step hst (freshIn_spec hf)
  refine ⟨_, hs'.reboxT (cs := cs) (by rw [List.lookup_cons, beq_eq_false_iff_ne.2 hi]; exact hb) (by simp) fun xs h1 h2 => set_cell h1 h2 hc fun v hv => ?_⟩
  have := hv.pv_inv
  cases this
  exact RepS.ownNew id _

end
section ops
variable {P : Program} {ev : Operand → SV → Prop} {H : Heap} {dst : Option Nat} {ty : TypeId} {pos : String} {after : Array Edge} {g : Option (Nat × Bool)}

/-- 'append(x, y...)', x owned bytes, y a text: owned again. -/
theorem op_appendStr {t tx e bytes : Nat} {zero : Value} {x y : Operand} {id id' : Nat} {l : List UInt8} {s : ByteArray} (hty : ElemTy P t e 1 bytes zero) (htx : P.underlying tx = some .string) 
    (hx : ev x (.own id)) (hl : List.lookup id H = some (.arr e 1 UInt8 0 byteC l)) (hy : ev y (.pv (.str s))) (hm : heapMen id' H = false) (hfit : (l.length + s.size) * bytes ≤ 140737488355328) :
    OpT P ⟨dst, .call ⟨.builtin .append, #[x, y], #[t, tx]⟩, ty, pos, after, g⟩ ev H (.own id') ((id', .arr e 1 UInt8 0 byteC (l ++ s.data.toList)) :: hdrop id H) (some id') := by
  intro V ι w a Q hV hk hr
  have hxv := hr x (by simp [Op.operands, Call.operands]) _ hx
  have hyv := (hr y (by simp [Op.operands, Call.operands]) _ hy).pv_inv
  obtain ⟨xs, ho, hrep, _⟩ := hk.ok id _ hl
  have hye := hyv.str_inv
  have hs := Src.ofString (P := P) w htx s
  have hnews : RepL w (Free V ι H w) (byteCells s) (s.data.toList.flatMap byteC) := byteCells_rep s
  have hsl : s.data.toList.length = s.size := by rw [Array.length_toList]; rfl
  have hxe : a.eval x = ι id := by generalize a.eval x = v at *; cases hxv; rfl
  obtain ⟨i, hi, hz0, hsz, hby⟩ := hty.row
  have hb := hty.bpos
  obtain ⟨v', w', hrun, ho', hg, hblk⟩ := append_own (P := P) w t tx ty e i zero 1 bytes hty.sl hi hz0 hsz hby hty.zs (ι id) l.length xs ho (a.eval y) s.size (byteCells s) (by rw [hye]; exact hs)
    (by have := Nat.le_mul_of_pos_right (l.length + s.size) hb; simp only [maxLen]; omega) hfit
  rw [← blkOf_own ho] at hg
  have hst : Step V ι H w (some id') (rename ι id' v') ((id', .arr e 1 UInt8 0 byteC (l ++ s.data.toList)) :: hdrop id H) w' := by
    refine Step.repl hV hk hl hg hm (fun b hb => ?_) ?_
    · rw [blkOf_own ho'] at hb
      rw [blkOf_own ho]
      exact hblk b hb
    · refine ⟨xs ++ byteCells s, by rw [List.length_append, hsl]; exact ho', ?_, by have := Nat.le_mul_of_pos_right (l.length + s.size) hb; rw [List.length_append, hsl]; omega⟩
      have hmv : ∀ {ys : List Value} {cs : List PV}, RepL w (Free V ι H w) ys cs → RepL w' (Free V (rename ι id' v') ((id', .arr e 1 UInt8 0 byteC (l ++ s.data.toList)) :: hdrop id H) w') ys cs := fun h =>
        h.mono (fun c hc => hg.block c hc.1 fun e => hc.2.2 ⟨id, _, hl, e.symm⟩) (fun c hc => ⟨Nat.lt_of_lt_of_le hc.1 hg.size, hc.2.1, ?_⟩)
      · exact (hmv hrep).app (hmv hnews)
      · rintro ⟨j, bl, hj, hb'⟩
        rw [List.lookup_cons] at hj
        by_cases ej : j = id'
        · subst ej
          have hb2 : blkOf v' = some c := by simpa [rename] using hb'
          rw [blkOf_own ho'] at hb2
          rcases hblk c hb2 with h5 | h5
          · have := hc.1; omega
          · exact hc.2.2 ⟨id, _, hl, by rw [blkOf_own ho]; exact h5⟩
        · rw [beq_eq_false_iff_ne.2 ej] at hj
          simp only [lookup_hdrop] at hj
          split at hj
          · simp at hj
          · exact hc.2.2 ⟨j, bl, hj, by simpa [rename, ej] using hb'⟩
  unfold Oper.wp
  have hrun' : (execOp a.eval ⟨dst, .call ⟨.builtin .append, #[x, y], #[t, tx]⟩, ty, pos, after, g⟩).run P w = .ok (.value v') w' := by
    simp [execOp, resolve, invoke, builtin, hxe, hrun]
  rw [hrun']
  refine ⟨_, v', rfl, hst, ?_⟩
  exact RepS.ownNew id' v'

theorem op_loadT {t : TypeId} {x : Operand} {id off T : Nat} {cs : List SV} {s : SV} (ht : ∀ w, (isAgg t).run P w = .ok false w) (hx : ev x (.ref id off)) (hl : List.lookup id H = some (.tbox T cs)) (hs : cs[off]? = some s) :
    OpT P ⟨dst, .load t x, ty, pos, after, g⟩ ev H s H none :=
  OpT.value fun V ι w A hk hr => by
    obtain ⟨b, h1, h2⟩ := (hr x (by simp [Op.operands]) _ hx).ref_inv
    obtain ⟨b', xs, e, hv, hh, hlen, hrep⟩ := hk.ok id _ hl
    rw [h1] at hv
    simp only [Value.pointer.injEq, Option.some.injEq, Addr.mk.injEq, and_true] at hv
    subst hv
    obtain ⟨h3, h4⟩ := List.getElem?_eq_some_iff.1 hs
    have h5 : off < xs.length := by omega
    have hcell : w.cell? ⟨b, off, none⟩ = some xs[off] := by
      rw [cell_of_row w b off xs.toArray e.1 (0, 0) hh]; simp [h5]
    have h6 := hrep off h5 h3
    rw [h4] at h6
    exact ⟨xs[off], by simp [execOp, h2, Instr.loadAt, Instr.sureAddr, loadVar, ht, hcell], h6⟩

theorem op_storeT {t : TypeId} {x y : Operand} {id off T : Nat} {cs : List SV} {s : SV} (hsz : ∀ w, (sizeOf t).run P w = .ok 1 w) (hx : ev x (.ref id off)) (hy : ev y s) (hl : List.lookup id H = some (.tbox T cs))
    (ho : off < cs.length) (h1 : s.one = true) (hnomap : ∀ i, s ≠ .map i) (hown : ∀ i, s = .own i → ∃ e z α d f l, List.lookup i H = some (.arr e z α d f l)) :
    OpT P ⟨dst, .store t x y, ty, pos, after, g⟩ ev H (.pv .any) ((id, .tbox T (cs.set off s)) :: H) none := by
  intro V ι w a Q hV hk hr
  obtain ⟨b, hb1, hb2⟩ := (hr x (by simp [Op.operands]) _ hx).ref_inv
  have hrs := hr y (by simp [Op.operands]) _ hy
  obtain ⟨b', xs, e, hv, hh, hlen, hrep⟩ := hk.ok id _ hl
  rw [hb1] at hv
  simp only [Value.pointer.injEq, Option.some.injEq, Addr.mk.injEq, and_true] at hv
  subst hv
  have hone : (a.eval y).oneCell' = true := hrs.oneCell h1 fun i hi => by
    rcases hi with hi | hi
    · obtain ⟨e', z, α, d, f, l, hl'⟩ := hown i hi
      obtain ⟨ys, ho', _⟩ := hk.ok i _ hl'
      rcases ho'.2 with ⟨h, _⟩ | ⟨_, _, _, h, _⟩ <;> rw [h] <;> rfl
    · exact absurd hi (hnomap i)
  have ho' : off < xs.length := by omega
  have hcell : w.cell? ⟨b, off, none⟩ = some xs[off] := by rw [cell_of_row w b off xs.toArray e.1 (0, 0) hh]; simp [ho']
  have hfz : w.frozen? ⟨b, off, none⟩ = false := by simp [World.frozen?, hh]
  have hg := grownBy_setCell w b off (a.eval y)
  have hst : Step V ι H w none ι ((id, .tbox T (cs.set off s)) :: H) (w.setCell ⟨b, off, none⟩ (a.eval y)) := by
    refine Step.upd hV hk hl (by rw [hb1]; exact hg) ?_
    refine ⟨b, xs.set off (a.eval y), e, hb1, heap_setCell_at w b off xs e.1 _ hh, by simp [hlen], fun k h2 h3 => ?_⟩
    have hmv : ∀ {v : Value} {u : SV}, RepS ι w (Free V ι H w) v u → RepS ι (w.setCell ⟨b, off, none⟩ (a.eval y)) (Free V ι ((id, .tbox T (cs.set off s)) :: H) (w.setCell ⟨b, off, none⟩ (a.eval y))) v u := fun {v u} h =>
      h.move (nw := none) (fun c hc => hg.block c hc.1 fun e => hc.2.2 ⟨id, _, hl, by rw [hb1]; simpa [blkOf] using e.symm⟩) (fun c hc => ⟨Nat.lt_of_lt_of_le hc.1 hg.size, hc.2.1, ?_⟩) (fun _ _ => rfl) (by simp)
    · by_cases hk' : off = k
      · subst hk'
        simp only [List.getElem_set_self]
        exact hmv hrs
      · rw [List.getElem_set_ne hk', List.getElem_set_ne hk']
        exact hmv (hrep k (by simpa using h2) (by simpa using h3))
    · rintro ⟨i, bl, hl', hb'⟩
      rw [List.lookup_cons] at hl'
      by_cases e : i = id
      · subst e; exact hc.2.2 ⟨i, _, hl, hb'⟩
      · rw [beq_eq_false_iff_ne.2 e] at hl'; exact hc.2.2 ⟨i, bl, hl', hb'⟩
  unfold Oper.wp
  have hrun : (execOp a.eval ⟨dst, .store t x y, ty, pos, after, g⟩).run P w = .ok .skip (w.setCell ⟨b, off, none⟩ (a.eval y)) := by
    have hs := run_store P w ⟨b, off, none⟩ (a.eval y) .plain hone
    rw [hcell] at hs
    simp only [hfz, Bool.false_eq_true, ↓reduceIte] at hs
    simp [execOp, hb2, Instr.storeAt, Instr.sureAddr, storeVar, hsz, oneCell_cells hone, storeCells, Addr.add_zero', hs]
  rw [hrun]
  exact ⟨ι, undef, rfl, hst, .pv _ _ (.any _)⟩

/-- 'var b strings.Builder'. -/
theorem op_allocB {t : TypeId} {z : Value} (id : Nat) (hz : ∀ w, (zeroValue t).run P w = .ok z w) (hc : z.cells.toList = [.pointer none, .slice none 0 0]) (hm : heapMen id H = false) :
    OpT P ⟨dst, .alloc t, ty, pos, after, g⟩ ev H (.ref id 0) ((id, .tbox t [.nilOr id, .pv .nil]) :: H) (some id) := by
  intro V ι w a Q hV hk hr
  have hg := World.grownBy_alloc w (.cells z.cells.toList.toArray t) none
  have hst : Step V ι H w (some id) (rename ι id (.pointer (some ⟨w.heap.size, 0, none⟩))) ((id, .tbox t [.nilOr id, .pv .nil]) :: H) (w.alloc (.cells z.cells.toList.toArray t)) := by
    refine Step.new hV hk hg hm (by simp [blkOf]) ?_
    refine ⟨w.heap.size, z.cells.toList, ⟨t, rfl⟩, rfl, heap_alloc_new w _, by rw [hc]; rfl, fun k h1 h2 => ?_⟩
    match k, h2 with
    | 0, _ => simp only [hc]; exact .nilOr _ _ (.inl rfl)
    | 1, _ => simp only [hc]; exact .pv _ _ .nil
  unfold Oper.wp
  have hrun : (execOp a.eval ⟨dst, .alloc t, ty, pos, after, g⟩).run P w = .ok (.value (.pointer (some ⟨w.heap.size, 0, none⟩))) (w.alloc (.cells z.cells.toList.toArray t)) := by
    simp [execOp, Instr.alloc, hz, newVar, newRow]
  rw [hrun]
  exact ⟨_, _, rfl, hst, .ref id 0 _ (by simp [rename])⟩

theorem FCH.ofStep {K : FuncId} {args : List SV} {H H' : Heap} {v : SV} {nw : Option Nat}
    (h : ∀ (V : Nat → Prop) (ι : Nat → Value) (w : World) (vs : List Value), (∀ b, w.heap.size ≤ b → V b) → HeapOk V ι H w → vs.length = args.length →
      (∀ (k : Nat) (h1 : k < vs.length) (h2 : k < args.length), RepS ι w (Free V ι H w) vs[k] args[k]) →
      Calls P K vs.toArray w fun ex w' => ∃ (ι' : Nat → Value) (rv : Value), ex = .returned rv ∧ RepS ι' w' (Free V ι' H' w') rv v ∧ Step V ι H w nw ι' H' w') : FCH P K args H H' v nw := by
  intro V ι w vs hV hk hl hr
  refine Calls.mono (h V ι w vs hV hk hl hr) ?_
  rintro ex w' ⟨ι', rv, h1, h2, h3⟩
  exact ⟨ι', rv, h1, h2, h3.ok, h3.os, h3.tape, h3.output, h3.size, h3.kept, h3.owned, fun id hn _ => h3.agree id hn⟩
end ops
end Go.Abs
