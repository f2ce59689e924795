/- Owned slices, more: given up (read from then on), made, read and written by the element; structs and literals; calls that are lent what is owned; what is handed back. Conditions: each law names its own. -/
import Derived.Test.YtolmcapbpliaiaaDoorAbs8
namespace Go.Abs
set_option linter.unusedVariables false

section drops
variable {V : Nat → Prop} {ι ι' : Nat → Value} {H H1 : Heap} {w w' : World} {nw : Option Nat}
theorem lookup_hdrop_sub {id k : Nat} {blk : Blk} (h : List.lookup k (hdrop id H) = some blk) : List.lookup k H = some blk := by
  simp only [lookup_hdrop] at h
  split at h
  · simp at h
  · exact h

theorem Step.sub (hs : Step V ι H w nw ι' H1 w') {H2 : Heap} (h : ∀ id blk, List.lookup id H2 = some blk → List.lookup id H1 = some blk) : Step V ι H w nw ι' H2 w' :=
  ⟨hs.os, hs.tape, hs.output, hs.size, hs.kept, hs.agree, fun b ⟨id, blk, hl, hb⟩ => hs.owned b ⟨id, blk, h id blk hl, hb⟩, hs.ok.sub h⟩
end drops

section ops
variable {P : Program} {ev : Operand → SV → Prop} {H : Heap} {dst : Option Nat} {ty : TypeId} {pos : String} {after : Array Edge} {g : Option (Nat × Bool)}

/-- What an operation yields as an owned slice may be taken as one that nobody writes any more. -/
theorem OpT.given {o : Oper} {id : Nat} {H1 : Heap} {e z : Nat} {α : Type} {d : α} {f : α → List PV} {l : List α} {nw : Option Nat} (h : OpT P o ev H (.own id) H1 nw) (hl : List.lookup id H1 = some (.arr e z α d f l)) :
    OpT P o ev H (.pv (.seq α d f l)) (hdrop id H1) nw := by
  intro V ι w a Q hV hk hr
  refine Oper.wp_mono ?_ (h V ι w a Q hV hk hr)
  rintro a' w' ⟨ι', rv, rfl, hst, hrv⟩
  have hst' := hst.sub (H2 := hdrop id H1) fun i b hi => lookup_hdrop_sub hi
  refine ⟨ι', rv, rfl, hst', .pv _ _ ?_⟩
  cases hrv
  refine rep_of_arr (hst.ok.ok id _ hl) (fun b hb => hb.of_sub fun i b hi => lookup_hdrop_sub hi) fun b hb0 => ?_
  have hb : blkOf (ι' id) = some b := by
    obtain ⟨xs, ho, _⟩ := hst.ok.ok id _ hl
    rw [blkOf_own ho]; exact hb0
  have hlt := hst.ok.lt ⟨id, _, hl, hb⟩
  refine ⟨hlt, ?_, ?_⟩
  · rcases hst.owned b ⟨id, _, hl, hb⟩ with h1 | h1
    · exact hV b h1
    · exact hk.vis b h1
  · rintro ⟨i, bl, hi, hb'⟩
    simp only [lookup_hdrop] at hi
    split at hi
    · simp at hi
    · rename_i hne
      exact hne (hst.ok.inj i id bl _ b hi hl hb' hb)

theorem RepS.elt_inv' {ι : Nat → Value} {w : World} {F : Nat → Prop} {v : Value} {id z i j : Nat} (h : RepS ι w F v (.elt id z i j)) : ∃ b n c, ι id = .slice (some ⟨b, 0, none⟩) n c ∧ v = .pointer (some ⟨b, i * z + j, none⟩) := by
  cases h with | elt _ _ _ _ b n c h => exact ⟨b, n, c, h, rfl⟩
theorem RepS.own_inv' {ι : Nat → Value} {w : World} {F : Nat → Prop} {v : Value} {id : Nat} (h : RepS ι w F v (.own id)) : v = ι id := by cases h; rfl

theorem own_shape {w : World} {v : Value} {e z n : Nat} {xs : List Value} (h : w.ownsRow 0 e z v n xs) : ∃ a cap, v = .slice a n cap ∧ n ≤ cap ∧ (0 < n → ∃ b cur, a = some ⟨b, 0, none⟩ ∧ w.heap[b]? = some (.cells cur e (0, 0)) ∧ cur.size = cap * z ∧ cur.toList.take (n * z) = xs) := by
  rcases h.2 with ⟨rfl, rfl⟩ | ⟨g, cap, cur, rfl, _, hg, hnc, _, hcs, ht⟩
  · exact ⟨none, 0, rfl, Nat.le_refl _, fun h => absurd h (by simp)⟩
  · exact ⟨_, cap, rfl, hnc, fun _ => ⟨g, cur, rfl, hg, hcs, ht⟩⟩

theorem op_lenO {t e e' z id : Nat} {x : Operand} {α : Type} {d : α} {f : α → List PV} {l : List α} (ht : P.underlying t = some (.slice e)) (hx : ev x (.own id)) (hl : List.lookup id H = some (.arr e' z α d f l)) :
    OpT P ⟨dst, .call ⟨.builtin .len, #[x], #[t]⟩, ty, pos, after, g⟩ ev H (.int (l.length : Nat)) H none :=
  OpT.value fun V ι w A hk hr => by
    have h1 := (hr x (by simp [Op.operands, Call.operands]) _ hx).own_inv'
    obtain ⟨xs, ho, _, hm⟩ := hk.ok id _ hl
    obtain ⟨a, cap, h2, _⟩ := own_shape ho
    rw [h2] at h1
    refine ⟨.int .i64 (l.length : Nat), ?_, .pv _ _ (.int _ _ (inK_i64.2 (by unfold InR; omega)))⟩
    simp [execOp, resolve, invoke, builtin, h1, Builtin.len_, run_underlying ht, goInt]

theorem op_indexAddrO {t e z id : Nat} {x i : Operand} {α : Type} {d : α} {f : α → List PV} {l : List α} {k : IntKind} {n : Int} (ht : P.underlying t = some (.slice e)) (hsz : ∀ w, (sizeOf e).run P w = .ok z w)
    (hx : ev x (.own id)) (hl : List.lookup id H = some (.arr e z α d f l)) (hi : ev i (.pv (.int k n))) (h : 0 ≤ n ∧ n < (l.length : Nat)) :
    OpT P ⟨dst, .indexAddr t x i, ty, pos, after, g⟩ ev H (.elt id z n.toNat 0) H none :=
  OpT.value fun V ι w A hk hr => by
    have h1 := (hr x (by simp [Op.operands]) _ hx).own_inv'
    have h2 := (hr i (by simp [Op.operands]) _ hi).pv_inv.int_inv
    obtain ⟨xs, ho, _, hm⟩ := hk.ok id _ hl
    obtain ⟨a, cap, h3, hc, h4⟩ := own_shape ho
    obtain ⟨b, cur, rfl, _⟩ := h4 (by omega)
    rw [h3] at h1
    refine ⟨.pointer (some ⟨b, n.toNat * z + 0, none⟩), ?_, .elt id z n.toNat 0 b _ _ h3⟩
    simp [execOp, h1, h2, Instr.indexAt, asIntOf, run_underlying ht, hsz, h.1, h.2, Addr.add_lit]

theorem op_indexAddrON {t e z id : Nat} {x i : Operand} {α : Type} {d : α} {f : α → List PV} {l : List α} {k : IntKind} {n : Nat} (ht : P.underlying t = some (.slice e)) (hsz : ∀ w, (sizeOf e).run P w = .ok z w)
    (hx : ev x (.own id)) (hl : List.lookup id H = some (.arr e z α d f l)) (hi : ev i (.pv (.int k (n : Nat)))) (h : n < l.length) :
    OpT P ⟨dst, .indexAddr t x i, ty, pos, after, g⟩ ev H (.elt id z n 0) H none :=
  op_indexAddrO (n := (n : Int)) ht hsz hx hl hi (by omega)

theorem op_fieldAddrE {s : TypeId} {fs : Array Field} {i : Nat} {fl : Field} {off o z id zz n : Nat} {x : Operand} (ht : P.underlying s = some (.struct fs)) (hf : fs[i]? = some fl) (hoff : fl.offset = off)
    (hsz : ∀ w, (sizeOf fl.type).run P w = .ok (z + 1) w) (hx : ev x (.elt id zz n o)) : OpT P ⟨dst, .fieldAddr s x i, ty, pos, after, g⟩ ev H (.elt id zz n (o + off)) H none :=
  OpT.value fun V ι w A hk hr => by
    subst hoff
    obtain ⟨b, n', c, h1, h2⟩ := (hr x (by simp [Op.operands]) _ hx).elt_inv'
    refine ⟨.pointer (some ⟨b, n * zz + (o + fl.offset), none⟩), ?_, .elt id zz n _ b n' c h1⟩
    simp [execOp, h2, Instr.fieldAt, Instr.sureAddr, run_underlying ht, hf, fieldPlace, hsz, Addr.add_lit, Nat.add_assoc]

theorem elem_cell {α : Type} {d : α} {f : α → List PV} {l : List α} {z i j : Nat} {c : PV} {w : World} {F : Nat → Prop} {xs : List Value} (hz : ∀ a, (f a).length = z) (hrep : RepL w F xs (l.flatMap f)) (hi : i < l.length) (hc : (f (l.getD i d))[j]? = some c) :
    ∃ h : i * z + j < xs.length, Rep w F xs[i * z + j] c := by
  rw [List.getD_eq_getElem?_getD, List.getElem?_eq_getElem hi, Option.getD_some] at hc
  obtain ⟨h1, h2⟩ := List.getElem?_eq_some_iff.1 hc
  have hel := hrep.elem hz hi
  have h3 : j < ((xs.drop (i * z)).take z).length := by rw [hel.1]; exact h1
  have h4 : i * z + j < xs.length := by simp at h3; omega
  refine ⟨h4, ?_⟩
  have := hel.2 j h3 h1
  rw [h2] at this
  simpa using this

theorem op_loadE {t : TypeId} {x : Operand} {e z id i j : Nat} {α : Type} {d : α} {f : α → List PV} {l : List α} {c : PV} (ht : ∀ w, (isAgg t).run P w = .ok false w) (hx : ev x (.elt id z i j)) (hl : List.lookup id H = some (.arr e z α d f l))
    (hz : ∀ a, (f a).length = z) (hi : i < l.length) (hc : (f (l.getD i d))[j]? = some c) : OpT P ⟨dst, .load t x, ty, pos, after, g⟩ ev H (.pv c) H none :=
  OpT.value fun V ι w A hk hr => by
    obtain ⟨b, n, cc, h1, h2⟩ := (hr x (by simp [Op.operands]) _ hx).elt_inv'
    obtain ⟨xs, ho, hrep, hm⟩ := hk.ok id _ hl
    obtain ⟨h4, h5⟩ := elem_cell (d := d) hz hrep hi hc
    have hcell := ho.cells (g := b) (by rw [h1]; rfl) (i * z + j) _ (List.getElem?_eq_getElem h4)
    rw [Addr.add_lit, Nat.zero_add] at hcell
    exact ⟨_, by simp [execOp, h2, Instr.loadAt, Instr.sureAddr, loadVar, ht, hcell], .pv _ _ h5⟩

theorem flatMap_set {α : Type} {f : α → List PV} {z : Nat} (hz : ∀ a, (f a).length = z) : ∀ (l : List α) (i j : Nat) (a : α) (c : PV) (hi : i < l.length), f a = (f l[i]).set j c → j < z → (l.set i a).flatMap f = (l.flatMap f).set (i * z + j) c
  | [], i, j, a, c, hi, _, _ => absurd hi (by simp)
  | x :: l, 0, j, a, c, _, h, hj => by
    simp only [List.set_cons_zero, List.flatMap_cons, Nat.zero_mul, Nat.zero_add]
    rw [h, List.set_append_left _ _ (by rw [hz]; exact hj)]
    rfl
  | x :: l, i + 1, j, a, c, hi, h, hj => by
    simp only [List.set_cons_succ, List.flatMap_cons]
    rw [flatMap_set hz l i j a c (by simpa using hi) (by simpa using h) hj, List.set_append_right _ _ (by rw [hz, Nat.add_mul]; omega)]
    congr 2
    rw [hz, Nat.add_mul]; omega

/-- 'x[i] = c' (or a field of it): a is the new element. -/
theorem op_storeE {t : TypeId} {x y : Operand} {e z id i j : Nat} {α : Type} {d : α} {f : α → List PV} {l : List α} {c : PV} (a : α) (hsz : ∀ w, (sizeOf t).run P w = .ok 1 w) (hx : ev x (.elt id z i j)) (hy : ev y (.pv c))
    (hl : List.lookup id H = some (.arr e z α d f l)) (hz : ∀ a, (f a).length = z) (hi : i < l.length) (hj : j < z) (ha : f a = (f (l.getD i d)).set j c) (h1 : c.one = true) :
    OpT P ⟨dst, .store t x y, ty, pos, after, g⟩ ev H (.pv .any) ((id, .arr e z α d f (l.set i a)) :: H) none := by
  intro V ι w A Q hV hk hr
  obtain ⟨b, n, cc, hb1, hb2⟩ := (hr x (by simp [Op.operands]) _ hx).elt_inv'
  have hrc := (hr y (by simp [Op.operands]) _ hy).pv_inv
  obtain ⟨xs, ho, hrep, hm⟩ := hk.ok id _ hl
  obtain ⟨a', cap, h3, hcap, h4⟩ := own_shape ho
  obtain ⟨b', cur, rfl, hh, hcs, htk⟩ := h4 (by omega)
  rw [h3] at hb1
  simp only [Value.slice.injEq, Option.some.injEq, Addr.mk.injEq, and_true] at hb1
  obtain ⟨rfl, rfl, rfl⟩ := hb1
  have hone := hrc.one h1
  rw [List.getD_eq_getElem?_getD, List.getElem?_eq_getElem hi, Option.getD_some] at ha
  have hxl : xs.length = l.length * z := by rw [hrep.1, flatMap_length hz]
  have hlt : i * z + j < xs.length := by
    rw [hxl]
    have : (i + 1) * z ≤ l.length * z := Nat.mul_le_mul_right _ hi
    rw [Nat.add_mul] at this; omega
  have hlt2 : i * z + j < cur.size := by
    have := congrArg List.length htk
    simp at this; omega
  have hcell : w.cell? ⟨b', i * z + j, none⟩ = some cur[i * z + j] := by rw [cell_of_row w b' _ cur e (0, 0) hh]; simp [hlt2]
  have hfz : w.frozen? ⟨b', i * z + j, none⟩ = false := by simp [World.frozen?, hh]
  have hg := grownBy_setCell w b' (i * z + j) (A.eval y)
  have hheap : (w.setCell ⟨b', i * z + j, none⟩ (A.eval y)).heap[b']? = some (.cells (cur.setIfInBounds (i * z + j) (A.eval y)) e (0, 0)) := by
    simp only [World.setCell, Array.getElem?_modify, ↓reduceIte, hh, Option.map_some]
    simp
  have hst : Step V ι H w none ι ((id, .arr e z α d f (l.set i a)) :: H) (w.setCell ⟨b', i * z + j, none⟩ (A.eval y)) := by
    refine Step.upd hV hk hl (by rw [h3]; exact hg) ?_
    have hfree : ∀ c, Free V ι H w c → Free V ι ((id, .arr e z α d f (l.set i a)) :: H) (w.setCell ⟨b', i * z + j, none⟩ (A.eval y)) c := by
      intro c hc
      refine ⟨Nat.lt_of_lt_of_le hc.1 hg.size, hc.2.1, ?_⟩
      rintro ⟨k, bl, hl', hb'⟩
      rw [List.lookup_cons] at hl'
      by_cases e : k = id
      · subst e; exact hc.2.2 ⟨k, _, hl, hb'⟩
      · rw [beq_eq_false_iff_ne.2 e] at hl'; exact hc.2.2 ⟨k, bl, hl', hb'⟩
    have hblk : ∀ c, Free V ι H w c → (w.setCell ⟨b', i * z + j, none⟩ (A.eval y)).heap[c]? = w.heap[c]? := fun c hc => hg.block c hc.1 fun e => hc.2.2 ⟨id, _, hl, by rw [h3]; simpa [blkOf] using e.symm⟩
    refine ⟨xs.set (i * z + j) (A.eval y), ?_, ?_, by simpa using hm⟩
    · rw [h3, List.length_set]
      refine ⟨by rw [List.length_set, hxl], .inr ⟨b', cap, _, rfl, Nat.zero_le _, hheap, hcap, ?_, by simpa using hcs, ?_⟩⟩
      · rcases ho.2 with ⟨h, _⟩ | ⟨_, cap', _, h, _, _, _, hcm, _⟩
        · rw [h3] at h; simp at h
        · rw [h3] at h; simp only [Value.slice.injEq] at h; omega
      · rw [Array.toList_setIfInBounds, ← htk]
        rw [List.take_set]
    · rw [flatMap_set hz l i j a c hi ha hj]
      refine ⟨by simp [hrep.1], fun k h5 h6 => ?_⟩
      by_cases hk' : i * z + j = k
      · subst hk'
        simp only [List.getElem_set_self]
        exact hrc.mono hblk hfree
      · rw [List.getElem_set_ne hk', List.getElem_set_ne hk']
        exact (hrep.2 k (by simpa using h5) (by simpa using h6)).mono hblk hfree
  unfold Oper.wp
  have hrun : (execOp A.eval ⟨dst, .store t x y, ty, pos, after, g⟩).run P w = .ok .skip (w.setCell ⟨b', i * z + j, none⟩ (A.eval y)) := by
    have hs := run_store P w ⟨b', i * z + j, none⟩ (A.eval y) .plain hone
    rw [hcell] at hs
    simp only [hfz, Bool.false_eq_true, ↓reduceIte] at hs
    simp [execOp, hb2, Instr.storeAt, Instr.sureAddr, storeVar, hsz, oneCell_cells hone, storeCells, Addr.add_zero', hs]
  rw [hrun]
  exact ⟨ι, undef, rfl, hst, .pv _ _ (.any _)⟩
end ops
end Go.Abs
