/- Slices made, literals, structs built, calls that are lent what is owned, what is handed back, owned slices given up between two regions. Conditions: each law names its own. -/
import Derived.Test.YtolmcapbpliaiaaDoorAbs9
import Derived.Laws.MakeOwn
namespace Go.Abs
set_option linter.unusedVariables false

theorem flatMap_replicate {α : Type} (f : α → List PV) (a : α) : ∀ n, (List.replicate n a).flatMap f = (List.replicate n (f a)).flatten
  | 0 => rfl
  | n + 1 => by simp [List.replicate_succ, flatMap_replicate f a n]

section ops
variable {P : Program} {ev : Operand → SV → Prop} {H : Heap} {dst : Option Nat} {ty : TypeId} {pos : String} {after : Array Edge} {g : Option (Nat × Bool)}

/-- A new row, owned: all that it holds is there. -/
theorem OpT.newRow {o : Oper} {id e z : Nat} {α : Type} {d : α} {f : α → List PV} {l : List α} (hm : heapMen id H = false) (hz : ∀ a, (f a).length = z) (hlen : l.length ≤ 281474976710656)
    (h : ∀ (V : Nat → Prop) (ι : Nat → Value) (w : World) (a : Act), HeapOk V ι H w → (∀ x, x ∈ o.op.operands → ∀ s, ev x s → RepS ι w (Free V ι H w) (a.eval x) s) →
      ∃ xs : List Value, (execOp a.eval o).run P w = .ok (.value (.slice (some ⟨w.heap.size, 0, none⟩) l.length l.length)) (w.alloc (.cells xs.toArray e)) ∧ RepL w (Free V ι H w) xs (l.flatMap f)) :
    OpT P o ev H (.own id) ((id, .arr e z α d f l) :: H) (some id) := by
  intro V ι w a Q hV hk hr
  obtain ⟨xs, hrun, hrep⟩ := h V ι w a hk hr
  have hg := World.grownBy_alloc w (.cells xs.toArray e) none
  have hxl : xs.length = l.length * z := by rw [hrep.1, flatMap_length hz]
  have hst : Step V ι H w (some id) (rename ι id (.slice (some ⟨w.heap.size, 0, none⟩) l.length l.length)) ((id, .arr e z α d f l) :: H) (w.alloc (.cells xs.toArray e)) := by
    refine Step.new hV hk hg hm (by simp [blkOf]) ?_
    refine ⟨xs, ⟨hxl, .inr ⟨w.heap.size, l.length, xs.toArray, rfl, Nat.zero_le _, heap_alloc_new w _, Nat.le_refl _, by simp only [maxLen]; omega, by simpa using hxl, by simp [← hxl]⟩⟩, ?_, hlen⟩
    refine hrep.mono (fun b hb => hg.block b hb.1 (by simp)) (fun b hb => ⟨Nat.lt_of_lt_of_le hb.1 hg.size, hb.2.1, ?_⟩)
    rintro ⟨i, bl, hl, hb'⟩
    rw [List.lookup_cons] at hl
    by_cases e : i = id
    · subst e
      simp [rename, blkOf] at hb'
      have := hb.1; omega
    · rw [beq_eq_false_iff_ne.2 e] at hl
      exact hb.2.2 ⟨i, bl, hl, by simpa [rename, e] using hb'⟩
  unfold Oper.wp
  rw [hrun]
  exact ⟨_, _, rfl, hst, RepS.ownNew id _⟩

theorem madeCells_one (z : Array Value) (hz : z.size = 1) (n : Nat) : (madeCells z n).toList = List.replicate n z[0]! := by
  refine List.ext_getElem (by simp [madeCells]) fun i h1 h2 => ?_
  simp [madeCells, hz, Nat.mod_one]

/-- 'make([]T, n)', T of one cell. -/
theorem op_make {t e bytes : Nat} {zero : Value} {x y : Operand} {kx ky : IntKind} {n : Int} {α : Type} {d : α} {f : α → List PV} (id : Nat) (a0 : α) (hty : ElemTy P t e 1 bytes zero) (hx : ev x (.pv (.int kx n))) (hy : ev y (.pv (.int ky n)))
    (hz : ∀ a, (f a).length = 1) (hzero : plainCells zero.cells.toList = some (f a0)) (hm : heapMen id H = false) (h : 0 ≤ n ∧ n * bytes ≤ 140737488355328) :
    OpT P ⟨dst, .makeSlice t x y, ty, pos, after, g⟩ ev H (.own id) ((id, .arr e 1 α d f (List.replicate n.toNat a0)) :: H) (some id) := by
  obtain ⟨i, hi, hz0, hsz, hby⟩ := hty.row
  have hb := hty.bpos
  have hnb : n ≤ n * bytes := by
    have := Int.mul_le_mul_of_nonneg_left (show (1 : Int) ≤ bytes by omega) h.1
    omega
  refine OpT.newRow hm hz (by simp; omega) fun V ι w a hk hr => ?_
  have h1 := (hr x (by simp [Op.operands]) _ hx).pv_inv.int_inv
  have h2 := (hr y (by simp [Op.operands]) _ hy).pv_inv.int_inv
  have hrun := run_make (P := P) w t e i zero hty.sl hi hz0 kx ky n n h.1 (Int.le_refl _) (by rw [hby, Int.mul_comm]; omega) (by omega)
  have hzs : zero.cells.size = 1 := hty.zs
  have hmc := madeCells_one zero.cells hzs n.toNat
  have hzl : zero.cells.toList = [zero.cells[0]!] := by
    have : zero.cells.toList.length = 1 := by simpa using hzs
    match hc : zero.cells.toList, this with
    | [c], _ =>
      have : zero.cells = #[c] := by rw [← Array.toList_inj, hc]
      rw [this]; simp
  have hp := plainCells_spec (w := w) (F := Free V ι H w) hzero
  refine ⟨List.replicate n.toNat zero.cells[0]!, ?_, ?_⟩
  · rw [hsz, Nat.mul_one] at hrun
    have e1 : madeCells zero.cells n.toNat = (List.replicate n.toNat zero.cells[0]!).toArray := by rw [← Array.toList_inj, hmc]
    rw [e1] at hrun
    simp [execOp, h1, h2, hrun]
  · rw [hzl] at hp
    obtain ⟨x0, xs0, he, hp0, hp1⟩ : ∃ p0 ps, f a0 = p0 :: ps ∧ Rep w (Free V ι H w) zero.cells[0]! p0 ∧ ps = [] := by
      have h5 := hz a0
      match hf : f a0, h5 with
      | [p], _ => rw [hf] at hp; exact ⟨p, [], rfl, hp.2 0 (by simp) (by simp), rfl⟩
    subst hp1
    rw [flatMap_replicate, he]
    have : ∀ m, RepL w (Free V ι H w) (List.replicate m zero.cells[0]!) (List.replicate m [x0]).flatten := by
      intro m
      induction m with
      | zero => exact .nil
      | succ m ih => simp only [List.replicate_succ, List.flatten_cons, List.singleton_append]; exact .cons hp0 ih
    exact this _

/-! ### Literals and structs -/

/-- The places of a literal filled with plain cells. -/
def fillPV (place : Nat → Option (Nat × Nat)) (cells : List PV) : List (Nat × PV) → Option (List PV)
  | [] => some cells
  | (i, p) :: rest =>
    match place i with
    | none => none
    | some (off, size) => if p.cells.length ≠ size || off + p.cells.length > cells.length then none else fillPV place (cells.take off ++ p.cells ++ cells.drop (off + p.cells.length)) rest

theorem foldl_set (v : Array Value) (off : Nat) : ∀ (l : List Value) (k : Nat) (cs : Array Value), off + k + l.length ≤ cs.size →
    ((l.zipIdx k).foldl (fun cs (p : Value × Nat) => cs.setIfInBounds (off + p.2) p.1) cs).toList = cs.toList.take (off + k) ++ l ++ cs.toList.drop (off + k + l.length)
  | [], k, cs, h => by simp
  | x :: l, k, cs, h => by
    simp only [List.zipIdx_cons, List.foldl_cons]
    rw [foldl_set v off l (k + 1) _ (by simp at h ⊢; omega)]
    have hlt : off + k < cs.toList.length := by simp at h ⊢; omega
    simp only [Array.toList_setIfInBounds]
    rw [← Nat.add_assoc, List.take_set, List.take_succ_eq_append_getElem hlt, List.drop_set_of_lt (by omega)]
    rw [List.set_append_right _ _ (by simp; omega)]
    have e1 : off + k - (cs.toList.take (off + k)).length = 0 := by simp; omega
    rw [e1]
    simp only [List.set_cons_zero, List.append_assoc, List.singleton_append, List.length_cons, List.cons_append, List.nil_append]
    congr 2
    rw [show off + k + 1 + l.length = off + k + (l.length + 1) by omega]

theorem fill_rep {w : World} {F : Nat → Prop} {place : Nat → Option (Nat × Nat)} : ∀ (parts : List (Nat × Value)) (pp : List (Nat × PV)) (xs : Array Value) (cs out : List PV), parts.length = pp.length →
    (∀ (k : Nat) (h1 : k < parts.length) (h2 : k < pp.length), parts[k].1 = pp[k].1 ∧ RepL w F parts[k].2.cells.toList pp[k].2.cells) → RepL w F xs.toList cs → fillPV place cs pp = some out →
    ∃ ys : Array Value, Instr.fill place xs parts = some ys ∧ RepL w F ys.toList out
  | [], pp, xs, cs, out, hl, _, hrep, h => by
    have : pp = [] := List.eq_nil_of_length_eq_zero (by simpa using hl.symm)
    subst this
    simp only [fillPV, Option.some.injEq] at h
    subst h
    exact ⟨xs, rfl, hrep⟩
  | (i, v) :: parts, [], xs, cs, out, hl, _, _, _ => by simp at hl
  | (i, v) :: parts, (j, p) :: pp, xs, cs, out, hl, hp, hrep, h => by
    obtain ⟨h0, h1⟩ := hp 0 (by simp) (by simp)
    simp only [List.getElem_cons_zero] at h0 h1
    subst h0
    simp only [fillPV] at h
    cases hpl : place i with
    | none => rw [hpl] at h; simp at h
    | some os =>
      obtain ⟨off, size⟩ := os
      rw [hpl] at h
      simp only at h
      split at h
      · simp at h
      · rename_i hc
        simp only [Bool.or_eq_true, bne_iff_ne, ne_eq, decide_eq_true_eq, not_or, Decidable.not_not, Nat.not_lt] at hc
        have hcs : v.cells.size = p.cells.length := by simpa using h1.1
        have hxs : xs.size = cs.length := by simpa using hrep.1
        have hfold := foldl_set v.cells off v.cells.toList 0 xs (by simp; omega)
        have e1 : (v.cells.zipIdx.foldl (fun cs (p : Value × Nat) => cs.setIfInBounds (off + p.2) p.1) xs).toList = xs.toList.take off ++ v.cells.toList ++ xs.toList.drop (off + v.cells.size) := by
          rw [← Array.foldl_toList, Array.toList_zipIdx]
          simpa using hfold
        have hrep' : RepL w F (v.cells.zipIdx.foldl (fun cs (p : Value × Nat) => cs.setIfInBounds (off + p.2) p.1) xs).toList (cs.take off ++ p.cells ++ cs.drop (off + p.cells.length)) := by
          rw [e1, hcs]
          exact ((hrep.take off).append h1).append (hrep.drop _)
        obtain ⟨ys, h5, h6⟩ := fill_rep parts pp _ _ out (by simpa using hl) (fun k a b => by
          have := hp (k + 1) (by simpa using a) (by simpa using b)
          simpa using this) hrep' h
        refine ⟨ys, ?_, h6⟩
        simp only [Instr.fill, hpl]
        rw [if_neg (by simp; omega)]
        exact h5
end ops
end Go.Abs
