/- Rows that are written inside a slice of slices: the outer slice is a box that holds the rows' handles; the rows lie under names b, b + 1, .. Conditions: each law names its own. -/
import Derived.Test.YtolmcapbpliaiaaDoorAbsQ
namespace Go.Abs
set_option linter.unusedVariables false
section ops
variable {P : Program} {ev : Operand → SV → Prop} {H : Heap} {dst : Option Nat} {ty : TypeId} {pos : String} {after : Array Edge} {g : Option (Nat × Bool)}
/-- 'T{}': a slice with no room. -/
theorem op_slit0 {t e z bytes : Nat} {zero : Value} (hty : ElemTy P t e z bytes zero) : OpT P ⟨dst, .buildSlice t 0 #[], ty, pos, after, g⟩ ev H (.pv .cap0) H none := by
  intro V ι w a Q hV hk hr
  obtain ⟨i, hi, hz0, hsz, hby⟩ := hty.row
  have hst := Step.alloc (V := V) hk (.cells #[] e)
  unfold Oper.wp
  have hrun : (execOp a.eval ⟨dst, .buildSlice t 0 #[], ty, pos, after, g⟩).run P w = .ok (.value (.slice (some ⟨w.heap.size, 0, none⟩) 0 0)) (w.alloc (.cells #[] e)) := by
    simp [execOp, Instr.buildSlice, run_underlying hty.sl, sizeOf, typeInfo, zeroValue, hi, hz0, hsz, newRow, Instr.fill, show Array.range 0 = #[] from rfl]
  rw [hrun]
  exact ⟨ι, _, rfl, hst, .pv _ _ (.cap0 _)⟩
/-- 'append(x, y...)', x without room, y not empty: owned. -/
theorem op_appendC {t tx e z bytes e' : Nat} {zero : Value} {x y : Operand} {id' : Nat} {α : Type} {d : α} {f : α → List PV} {m : List α} (hty : ElemTy P t e z bytes zero) (htx : P.underlying tx = some (.slice e')) (hz : ∀ a, (f a).length = z) (h1 : ∀ a, (f a).all PV.one = true)
    (hx : ev x (.pv .cap0)) (hy : ev y (.pv (.seq α d f m))) (hm : heapMen id' H = false) (hfit : 0 < m.length ∧ m.length * bytes ≤ 140737488355328) :
    OpT P ⟨dst, .call ⟨.builtin .append, #[x, y], #[t, tx]⟩, ty, pos, after, g⟩ ev H (.own id') ((id', .arr e z α d f m) :: H) (some id') := by
  intro V ι w a Q hV hk hr
  obtain ⟨a0, hxe⟩ := (hr x (by simp [Op.operands, Call.operands]) _ hx).pv_inv.cap0_inv
  have hyv := (hr y (by simp [Op.operands, Call.operands]) _ hy).pv_inv
  obtain ⟨news, hs, hnews⟩ := src_seq (P := P) htx hz h1 hyv
  obtain ⟨i, hi, hz0, hsz, hby⟩ := hty.row
  have hb := hty.bpos
  have hml : m.length ≤ 140737488355328 := by have := Nat.le_mul_of_pos_right m.length hb; omega
  obtain ⟨v', w', hrun, ho', hg, hblk⟩ := append_own (P := P) w t tx ty e i zero z bytes hty.sl hi hz0 hsz hby hty.zs (.slice none 0 0) 0 [] (World.ownsRow_nil w 0 e z) (a.eval y) m.length news hs
    (by simp only [maxLen]; omega) (by simpa using hfit.2)
  have hrun2 : (Builtin.append_ #[t, tx] ty #[.slice a0 0 0, a.eval y]).run P w = .ok v' w' := by
    subst hsz
    subst hby
    rw [← hrun]
    have fits : Builtin.nextslicecap (0 + m.length) 0 * i.bytes ≤ 281474976710656 := growslice_fits (by omega) (by simpa using hfit.2)
    rw [run_append_grow_src (P := P) w t tx ty e i zero hty.sl hi hz0 a0 0 0 [] (by
        cases a0 with
        | none => simp [Builtin.firstCells]
        | some a0 => exact run_firstCells_some (P := P) w.drew i.size 0 a0 0 0 [] (by simp) (by simp)) (a.eval y) m.length news hs (by omega) (by omega) fits,
      run_append_grow_src (P := P) w t tx ty e i zero hty.sl hi hz0 none 0 0 [] (by simp [Builtin.firstCells]) (a.eval y) m.length news hs (by omega) (by omega) fits]
  have hst : Step V ι H w (some id') (rename ι id' v') ((id', .arr e z α d f m) :: H) w' := by
    refine Step.new hV hk hg hm (fun b hb => ?_) ?_
    · rw [blkOf_own ho'] at hb
      rcases hblk b hb with h5 | h5
      · exact h5
      · simp [Value.ownBlock] at h5
    · refine ⟨news, by simpa using ho', hnews.mono (fun c hc => hg.block c hc.1 (by simp [Value.ownBlock])) (fun c hc => ⟨Nat.lt_of_lt_of_le hc.1 hg.size, hc.2.1, ?_⟩), by omega⟩
      rintro ⟨j, bl, hj, hb'⟩
      rw [List.lookup_cons] at hj
      by_cases ej : j = id'
      · subst ej
        have hb2 : blkOf v' = some c := by simpa [rename] using hb'
        rw [blkOf_own ho'] at hb2
        rcases hblk c hb2 with h5 | h5
        · have := hc.1; omega
        · simp [Value.ownBlock] at h5
      · rw [beq_eq_false_iff_ne.2 ej] at hj
        exact hc.2.2 ⟨j, bl, hj, by simpa [rename, ej] using hb'⟩
  unfold Oper.wp
  have hrun' : (execOp a.eval ⟨dst, .call ⟨.builtin .append, #[x, y], #[t, tx]⟩, ty, pos, after, g⟩).run P w = .ok (.value v') w' := by
    simp [execOp, resolve, invoke, builtin, hxe, hrun2]
  rw [hrun']
  refine ⟨_, v', rfl, hst, ?_⟩
  exact RepS.ownNew id' v'
end ops
end Go.Abs

namespace Go.Abs
set_option linter.unusedVariables false
variable {B : BT}

abbrev rowB (e : TypeId) (r : List Int) : Blk := .arr e 1 Int 0 (fun n => [.int .i64 n]) r
def rowsH (e : TypeId) : Nat → List (List Int) → Heap
  | _, [] => []
  | b, r :: rs => (b, rowB e r) :: rowsH e (b + 1) rs
theorem rowsH_some {e : TypeId} : ∀ {rows : List (List Int)} {b id : Nat} {blk : Blk}, List.lookup id (rowsH e b rows) = some blk → ∃ k, k < rows.length ∧ id = k + b ∧ blk = rowB e (rows.getD k [])
  | [], b, id, blk, h => by simp [rowsH] at h
  | r :: rs, b, id, blk, h => by
    simp only [rowsH, List.lookup_cons] at h
    by_cases e1 : id = b
    · subst e1
      simp only [beq_self_eq_true, Option.some.injEq] at h
      exact ⟨0, by simp, by omega, h.symm⟩
    · rw [beq_eq_false_iff_ne.2 e1] at h
      obtain ⟨k, hk, h1, h2⟩ := rowsH_some h
      exact ⟨k + 1, by simpa using hk, by omega, h2⟩
theorem rowsH_at {e : TypeId} : ∀ {rows : List (List Int)} {b k : Nat}, k < rows.length → List.lookup (k + b) (rowsH e b rows) = some (rowB e (rows.getD k []))
  | [], b, k, h => absurd h (by simp)
  | r :: rs, b, 0, h => by simp [rowsH]
  | r :: rs, b, k + 1, h => by
    simp only [rowsH, List.lookup_cons]
    rw [beq_eq_false_iff_ne.2 (show k + 1 + b ≠ b by omega)]
    have := rowsH_at (e := e) (rows := rs) (b := b + 1) (k := k) (by simpa using h)
    rw [show k + (b + 1) = k + 1 + b by omega] at this
    exact this
theorem rowsH_men {e : TypeId} (id : Nat) : ∀ (rows : List (List Int)) (b : Nat), heapMen id (rowsH e b rows) = false
  | [], _ => rfl
  | r :: rs, b => by
    have := rowsH_men (e := e) id rs (b + 1)
    simpa [rowsH, heapMen, Blk.men] using this
theorem look_skip {k id : Nat} {blk : Blk} {H : Heap} (h : k ≠ id) : List.lookup k ((id, blk) :: H) = List.lookup k H := by rw [List.lookup_cons, beq_eq_false_iff_ne.2 h]
theorem look_here {id : Nat} {blk : Blk} {H : Heap} : List.lookup id ((id, blk) :: H) = some blk := by simp [List.lookup_cons]
theorem kept_of {H : Heap} : ∀ {r : Heap}, (∀ p, p ∈ r → List.lookup p.1 H = some p.2) → KeptH H r
  | [], _ => trivial
  | (t, s) :: r, h => ⟨h (t, s) List.mem_cons_self, kept_of fun p hp => h p (List.mem_cons_of_mem _ hp)⟩
theorem rowsH_mem {e : TypeId} : ∀ {rows : List (List Int)} {b : Nat} {p : Nat × Blk}, p ∈ rowsH e b rows → ∃ k, k < rows.length ∧ p = (k + b, rowB e (rows.getD k []))
  | [], b, p, h => by simp [rowsH] at h
  | r :: rs, b, p, h => by
    simp only [rowsH, List.mem_cons] at h
    rcases h with rfl | h
    · exact ⟨0, by simp, by simp⟩
    · obtain ⟨k, hk, e1⟩ := rowsH_mem h
      exact ⟨k + 1, by simpa using hk, by rw [e1]; simp; omega⟩
/-- The rows are kept. -/
theorem kept_rows {e : TypeId} {b : Nat} {rows : List (List Int)} {H : Heap} (h : ∀ k, k < rows.length → List.lookup (k + b) H = some (rowB e (rows.getD k []))) : KeptH H (rowsH e b rows) :=
  kept_of fun p hp => by obtain ⟨k, hk, rfl⟩ := rowsH_mem hp; exact h k hk
theorem rows_set {rows : List (List Int)} {x k : Nat} {r : List Int} (hx : x < rows.length) : (rows.set x r).getD k [] = if k = x then r else rows.getD k [] := by
  simp only [List.getD_eq_getElem?_getD, List.getElem?_set]
  by_cases e : x = k
  · subst e; simp [hx]
  · rw [if_neg e, if_neg fun c => e c.symm]
/-- One row is another one. -/
theorem kept_set {e : TypeId} {b x : Nat} {rows : List (List Int)} {r : List Int} {H : Heap} (hx : x < rows.length) (h0 : List.lookup (x + b) H = some (rowB e r)) (h : ∀ k, k < rows.length → k ≠ x → List.lookup (k + b) H = some (rowB e (rows.getD k []))) :
    KeptH H (rowsH e b (rows.set x r)) :=
  kept_rows fun k hk => by
    rw [List.length_set] at hk
    rw [rows_set hx]
    by_cases e1 : k = x
    · subst e1; rw [if_pos rfl]; exact h0
    · rw [if_neg e1]; exact h k hk e1
/-- One row more. -/
theorem kept_push {e : TypeId} {b : Nat} {rows : List (List Int)} {r : List Int} {H : Heap} (h0 : List.lookup (rows.length + b) H = some (rowB e r)) (h : ∀ k, k < rows.length → List.lookup (k + b) H = some (rowB e (rows.getD k []))) :
    KeptH H (rowsH e b (rows ++ [r])) :=
  kept_rows fun k hk => by
    rw [List.length_append, List.length_singleton] at hk
    by_cases e1 : k = rows.length
    · subst e1
      rw [h0, List.getD_eq_getElem?_getD, List.getElem?_append_right (Nat.le_refl _)]; simp
    · rw [h k (by omega), List.getD_eq_getElem?_getD, List.getD_eq_getElem?_getD, List.getElem?_append_left (by omega)]
/-- The cells of the outer slice: the first k rows are there. -/
def rowC (b n k : Nat) : List SV := (List.range n).map fun j => if j < k then .own (j + b) else .pv .nil
@[simp] theorem rowC_length (b n k : Nat) : (rowC b n k).length = n := by simp [rowC]
theorem rowC_zero (b n : Nat) : List.replicate n (SV.pv .nil) = rowC b n 0 := List.ext_getElem (by simp) fun i h1 h2 => by simp [rowC]
theorem rowC_set {b n k : Nat} (h : k < n) : (rowC b n k).set k (.own (k + b)) = rowC b n (k + 1) := List.ext_getElem (by simp) fun i h1 h2 => by
  rw [List.getElem_set]
  simp only [rowC, List.getElem_map, List.getElem_range]
  by_cases e : k = i
  · subst e; simp
  · rw [if_neg e]
    by_cases h3 : i < k
    · rw [if_pos h3, if_pos (by omega)]
    · rw [if_neg h3, if_neg (by omega)]
theorem rowC_at {b n k x : Nat} (h : x < n) (hk : x < k) : (rowC b n k)[x]? = some (.own (x + b)) := by simp [rowC, h, hk]
theorem menL_of {id : Nat} : ∀ {l : List SV}, (∀ s, s ∈ l → s.men id = false) → SV.menL id l = false
  | [], _ => rfl
  | s :: r, h => by simp only [SV.menL, h s List.mem_cons_self, Bool.false_or]; exact menL_of fun t ht => h t (List.mem_cons_of_mem _ ht)
theorem rowC_men {b n k id : Nat} (h : id < b ∨ k + b ≤ id) : SV.menL id (rowC b n k) = false := menL_of fun s hs => by
  unfold rowC at hs
  obtain ⟨j, hj, rfl⟩ := List.mem_map.1 hs
  split
  · simp only [SV.men, beq_eq_false_iff_ne]; omega
  · rfl
theorem men_mat {e : TypeId} {b n k id m : Nat} {rows : List (List Int)} (h : m < b ∨ k + b ≤ m) : heapMen m ((id, .box (rowC b n k)) :: rowsH e b rows) = false := by
  have h1 := rowsH_men (e := e) m rows b
  have h2 : (Blk.box (rowC b n k)).men m = false := by simpa [Blk.men] using rowC_men h
  unfold heapMen at h1 ⊢
  rw [List.any_cons, h1, Bool.or_false]; exact h2
theorem men_cons {id m : Nat} {blk : Blk} {H : Heap} (h1 : blk.men m = false) (h : heapMen m H = false) : heapMen m ((id, blk) :: H) = false := by
  unfold heapMen at h ⊢
  rw [List.any_cons, h, Bool.or_false]; exact h1

section ops
variable {P : Program} {ev : Operand → SV → Prop} {H : Heap} {dst : Option Nat} {ty : TypeId} {pos : String} {after : Array Edge} {g : Option (Nat × Bool)}
/-- 'make([][]T, n)', to be written. -/
theorem op_makeSl {t e bytes : Nat} {x y : Operand} {kx ky : IntKind} {n : Int} (id : Nat) (hty : ElemTy P t e 1 bytes (.slice none 0 0)) (hx : ev x (.pv (.int kx n))) (hy : ev y (.pv (.int ky n))) (hm : heapMen id H = false) (h : 0 ≤ n ∧ n * bytes ≤ 140737488355328) :
    OpT P ⟨dst, .makeSlice t x y, ty, pos, after, g⟩ ev H (.sl id n.toNat) ((id, .box (List.replicate n.toNat (.pv .nil))) :: H) (some id) := by
  obtain ⟨i, hi, hz0, hsz, hby⟩ := hty.row
  have hb := hty.bpos
  have hnb : n ≤ n * bytes := by
    have := Int.mul_le_mul_of_nonneg_left (show (1 : Int) ≤ bytes by omega) h.1
    omega
  have hcs : SV.menL id (List.replicate n.toNat (SV.pv .nil)) = false := menL_of fun s hs => by rw [List.eq_of_mem_replicate hs]; rfl
  intro V ι w a Q hV hk hr
  have h1 := (hr x (by simp [Op.operands]) _ hx).pv_inv.int_inv
  have h2 := (hr y (by simp [Op.operands]) _ hy).pv_inv.int_inv
  have hrun := run_make (P := P) w t e i (.slice none 0 0) hty.sl hi hz0 kx ky n n h.1 (Int.le_refl _) (by rw [hby, Int.mul_comm]; omega) (by omega)
  rw [hsz, Nat.mul_one] at hrun
  have hmc := madeCells_one (Value.cells (.slice none 0 0)) rfl n.toNat
  have e1 : madeCells (Value.cells (.slice none 0 0)) n.toNat = (List.replicate n.toNat (.slice none 0 0)).toArray := by rw [← Array.toList_inj, hmc]; rfl
  rw [e1] at hrun
  have hg := World.grownBy_alloc w (.cells (List.replicate n.toNat (Value.slice none 0 0)).toArray e) none
  have hst : Step V ι H w (some id) (rename ι id (.pointer (some ⟨w.heap.size, 0, none⟩))) ((id, .box (List.replicate n.toNat (.pv .nil))) :: H) (w.alloc (.cells (List.replicate n.toNat (Value.slice none 0 0)).toArray e)) := by
    refine Step.new hV hk hg hm (by simp [blkOf]) ?_
    exact ⟨w.heap.size, _, e, by simp [rename], heap_alloc_new w _, by simp, fun k h2 h3 => by simp only [List.getElem_replicate]; exact .pv _ _ .nil⟩
  unfold Oper.wp
  have hrun' : (execOp a.eval ⟨dst, .makeSlice t x y, ty, pos, after, g⟩).run P w = .ok (.value (.slice (some ⟨w.heap.size, 0, none⟩) n.toNat n.toNat)) (w.alloc (.cells (List.replicate n.toNat (Value.slice none 0 0)).toArray e)) := by
    simp [execOp, h1, h2, hrun]
  rw [hrun']
  exact ⟨_, _, rfl, hst, .sl id n.toNat _ (by simp [rename])⟩
theorem RepS.sl_inv {ι : Nat → Value} {w : World} {F : Nat → Prop} {v : Value} {id n : Nat} (h : RepS ι w F v (.sl id n)) : ∃ b, ι id = .pointer (some ⟨b, 0, none⟩) ∧ v = .slice (some ⟨b, 0, none⟩) n n := by
  cases h with | sl _ _ b h => exact ⟨b, h, rfl⟩
theorem op_lenSl {t e id n : Nat} {x : Operand} (ht : P.underlying t = some (.slice e)) (hx : ev x (.sl id n)) (hn : n ≤ 281474976710656) :
    OpT P ⟨dst, .call ⟨.builtin .len, #[x], #[t]⟩, ty, pos, after, g⟩ ev H (.int (n : Nat)) H none :=
  OpT.value fun V ι w A hk hr => by
    obtain ⟨b, _, h1⟩ := (hr x (by simp [Op.operands, Call.operands]) _ hx).sl_inv
    refine ⟨.int .i64 (n : Nat), ?_, .pv _ _ (.int _ _ (inK_i64.2 (by unfold InR; omega)))⟩
    simp [execOp, resolve, invoke, builtin, h1, Builtin.len_, run_underlying ht, goInt]
theorem op_indexAddrSl {t e id n : Nat} {x i : Operand} {k : IntKind} {m : Int} (ht : P.underlying t = some (.slice e)) (hsz : ∀ w, (sizeOf e).run P w = .ok 1 w) (hx : ev x (.sl id n)) (hi : ev i (.pv (.int k m))) (h : 0 ≤ m ∧ m < (n : Nat)) :
    OpT P ⟨dst, .indexAddr t x i, ty, pos, after, g⟩ ev H (.ref id m.toNat) H none :=
  OpT.value fun V ι w A hk hr => by
    obtain ⟨b, hb, h1⟩ := (hr x (by simp [Op.operands]) _ hx).sl_inv
    have h2 := (hr i (by simp [Op.operands]) _ hi).pv_inv.int_inv
    refine ⟨.pointer (some ⟨b, m.toNat, none⟩), ?_, .ref id _ b hb⟩
    simp [execOp, h1, h2, Instr.indexAt, asIntOf, run_underlying ht, hsz, h.1, h.2, Addr.add_lit]
/-- A box that holds the handle of a loop's body. -/
theorem op_boxY {e : TypeId} {x : Operand} {y : Nat} {ps : Array Tmp} {as bd : Code} {cs : List SV} (id : Nat) (hx : ev x (.own y)) (hm : heapMen id H = false) (hne : (y == id) = false) (hl : List.lookup y H = some (.yld ps as bd cs)) :
    OpT P ⟨dst, .box e x, ty, pos, after, g⟩ ev H (.ref id 0) ((id, .box [.own y]) :: H) (some id) :=
  OpT.newBox hm (by simp [SV.menL, SV.men, hne]) fun V ι w a hk hr => by
    have h0 := hr x (by simp [Op.operands]) _ hx
    have h1 := h0.own_inv'
    obtain ⟨l, r, xs, hv, _⟩ := hk.ok y _ hl
    have hc : (a.eval x).cells = #[a.eval x] := by rw [h1, hv]; rfl
    exact ⟨[a.eval x], e, by simp [execOp, Instr.box, newVar, newRow, hc], rfl, fun k k1 k2 => by match k, k1 with | 0, _ => exact h0⟩
end ops

theorem flat_one {α β : Type _} (f : α → β) : ∀ l : List α, l.flatMap (fun a => [f a]) = l.map f
  | [] => rfl
  | a :: l => by rw [List.flatMap_cons, flat_one f l]; rfl
/-- The whole is given up: read alone from then on. -/
theorem Ent.giveMat {env : Env} {H H' : Heap} (t : Nat) {id n b : Nat} {e : TypeId} {rows : List (List Int)} (ht : lk env t = some (.sl id n)) (hl : List.lookup id H = some (.box (rowC b n n))) (hn : rows.length = n) (hs : n ≤ 281474976710656)
    (hrow : ∀ k, k < n → List.lookup (k + b) H = some (rowB e (rows.getD k []))) (hH : ∀ k blk, List.lookup k H' = some blk → List.lookup k H = some blk ∧ k ≠ id ∧ ¬ (b ≤ k ∧ k < n + b)) :
    Ent ⟨env, H⟩ ⟨(t, .pv (.rows rows)) :: env, H'⟩ := by
  intro B w0 O V m ι a w hs'
  refine ⟨ι, (hs'.sub fun i b hi => (hH i b hi).1).put (.pv _ _ ?_)⟩
  obtain ⟨bb, hb, hv⟩ := (hs'.env t _ ht).sl_inv
  obtain ⟨b', xs, e', hv', hh, hlen, hr⟩ := hs'.heap.ok id _ hl
  rw [hb] at hv'
  simp only [Value.pointer.injEq, Option.some.injEq, Addr.mk.injEq, and_true] at hv'
  subst hv'
  rw [rowC_length] at hlen
  rw [hv]
  have fr : ∀ c k blk, List.lookup k H = some blk → blkOf (ι k) = some c → (k = id ∨ (b ≤ k ∧ k < n + b)) → Free V ι H' w c := fun c k blk h1 h2 h3 =>
    ⟨hs'.heap.lt ⟨k, _, h1, h2⟩, hs'.heap.vis c ⟨k, _, h1, h2⟩, by
      rintro ⟨i, bl, hi, hb'⟩
      have h4 := hH i bl hi
      have := hs'.heap.inj i k bl blk c h4.1 h1 hb' h2
      subst this
      rcases h3 with h3 | h3
      · exact h4.2.1 h3
      · exact h4.2.2 h3⟩
  have e1 : (rows.flatMap fun r => [PV.ints r]) = rows.map PV.ints := flat_one _ rows
  have hcell : ∀ (k : Nat) (h1 : k < xs.length), w.cell? ⟨bb, 0 + k, none⟩ = some xs[k] := fun k h1 => by simp [World.cell?, hh, h1]
  have := Rep.seq (w := w) (F := Free V ι H' w) (List Int) [] (fun r => [PV.ints r]) rows bb 0 n xs (fr bb id _ hl (by rw [hb]; rfl) (.inl rfl)) (by omega) (by omega) (by rw [e1]; simp [hlen, hn]) hcell fun k h1 h2 => by
    have h3 : k < n := by omega
    have h4 := hr k h1 (by rw [rowC_length]; exact h3)
    have h5 : (rowC b n n)[k]'(by rw [rowC_length]; exact h3) = .own (k + b) := by simp [rowC, h3]
    rw [h5] at h4
    have h6 := h4.own_inv'
    have hrow' := hrow k h3
    have h7 := hs'.heap.ok _ _ hrow'
    rw [h6]
    have e2 : (rows.flatMap fun r => [PV.ints r])[k] = PV.ints (rows.getD k []) := by
      have : (rows.flatMap fun r => [PV.ints r])[k]? = some (PV.ints (rows.getD k [])) := by
        rw [e1, List.getElem?_map, List.getD_eq_getElem?_getD, List.getElem?_eq_getElem (show k < rows.length by omega)]; rfl
      rw [List.getElem?_eq_getElem h2] at this
      simpa using this
    rw [e2]
    refine rep_of_arr h7 (fun c hc => hc.of_sub fun i b hi => (hH i b hi).1) fun c hc => ?_
    refine fr c _ _ hrow' ?_ (.inr ⟨by omega, by omega⟩)
    obtain ⟨ys, ho, _⟩ := h7
    rw [blkOf_own ho]; exact hc
  rw [hn] at this
  exact this
end Go.Abs
