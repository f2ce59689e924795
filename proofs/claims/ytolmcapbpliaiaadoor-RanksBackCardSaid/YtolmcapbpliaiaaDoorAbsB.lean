/- Literals and structs built; calls that are lent what is owned; what is handed back; owned slices given up between two regions. Conditions: each law names its own. -/
import Derived.Test.YtolmcapbpliaiaaDoorAbsA
namespace Go.Abs
set_option linter.unusedVariables false

theorem flatMap_take {α : Type} {f : α → List PV} {z : Nat} (hz : ∀ a, (f a).length = z) : ∀ (l : List α) (b : Nat), (l.take b).flatMap f = (l.flatMap f).take (b * z)
  | [], b => by simp
  | x :: l, 0 => by simp
  | x :: l, b + 1 => by
    simp only [List.take_succ_cons, List.flatMap_cons]
    rw [flatMap_take hz l b, show (b + 1) * z = (f x).length + b * z by rw [hz, Nat.add_mul, Nat.one_mul, Nat.add_comm], List.take_length_add_append]
theorem flatMap_drop {α : Type} {f : α → List PV} {z : Nat} (hz : ∀ a, (f a).length = z) : ∀ (l : List α) (b : Nat), (l.drop b).flatMap f = (l.flatMap f).drop (b * z)
  | [], b => by simp
  | x :: l, 0 => by simp
  | x :: l, b + 1 => by
    simp only [List.drop_succ_cons, List.flatMap_cons]
    rw [flatMap_drop hz l b, show (b + 1) * z = (f x).length + b * z by rw [hz, Nat.add_mul, Nat.one_mul, Nat.add_comm], List.drop_length_add_append]

def PartsOk (ev : Operand → SV → Prop) : List (Nat × Operand) → List (Nat × PV) → Prop
  | [], [] => True
  | (i, x) :: r, (j, p) :: q => i = j ∧ ev x (.pv p) ∧ p ≠ .any ∧ PartsOk ev r q
  | _, _ => False

theorem PartsOk.spec {ev : Operand → SV → Prop} : ∀ {r : List (Nat × Operand)} {q : List (Nat × PV)}, PartsOk ev r q → r.length = q.length ∧ ∀ (k : Nat) (h1 : k < r.length) (h2 : k < q.length), r[k].1 = q[k].1 ∧ ev r[k].2 (.pv q[k].2) ∧ q[k].2 ≠ .any
  | [], [], _ => ⟨rfl, fun k h1 => absurd h1 (by simp)⟩
  | (i, x) :: r, (j, p) :: q, h => by
    obtain ⟨h1, h2, h3, h4⟩ := h
    obtain ⟨h5, h6⟩ := PartsOk.spec h4
    refine ⟨by simp [h5], fun k a b => ?_⟩
    cases k with
    | zero => exact ⟨h1, h2, h3⟩
    | succ k => exact h6 k (by simpa using a) (by simpa using b)
  | [], _ :: _, h => h.elim
  | _ :: _, [], h => h.elim

def partsV (a : Act) (parts : Array (Nat × Operand)) : Array (Nat × Value) := parts.map fun p => (p.1, a.eval p.2)

section ops
variable {P : Program} {ev : Operand → SV → Prop} {H : Heap} {dst : Option Nat} {ty : TypeId} {pos : String} {after : Array Edge} {g : Option (Nat × Bool)}

theorem parts_rep {ι : Nat → Value} {w : World} {F : Nat → Prop} {a : Act} {parts : Array (Nat × Operand)} {pp : List (Nat × PV)} (hp : PartsOk ev parts.toList pp)
    (hr : ∀ x, x ∈ (parts.toList.map (·.2)).toArray → ∀ s, ev x s → RepS ι w F (a.eval x) s) : (partsV a parts).toList.length = pp.length ∧
    ∀ (k : Nat) (h1 : k < (partsV a parts).toList.length) (h2 : k < pp.length), (partsV a parts).toList[k].1 = pp[k].1 ∧
      RepL w F (partsV a parts).toList[k].2.cells.toList pp[k].2.cells := by
  obtain ⟨h1, h2⟩ := hp.spec
  refine ⟨by simpa [partsV] using h1, fun k a1 a2 => ?_⟩
  have a3 : k < parts.toList.length := by simpa [partsV] using a1
  obtain ⟨h3, h4, h5⟩ := h2 k a3 a2
  have hmem : parts.toList[k].2 ∈ (parts.toList.map (·.2)).toArray := by
    simp only [List.mem_toArray, List.mem_map]
    exact ⟨_, List.getElem_mem a3, rfl⟩
  have h6 := (hr _ hmem _ h4).pv_inv.cellsL h5
  simp only [partsV, Array.toList_map, List.getElem_map]
  exact ⟨h3, h6⟩

/-- 'T{..}', a struct. -/
theorem op_build {t : TypeId} {fs : Array Field} {zero : Value} {zc out : List PV} {parts : Array (Nat × Operand)} {pp : List (Nat × PV)} {places : Array (Nat × Nat)} (ht : P.underlying t = some (.struct fs)) (hz : ∀ w, (zeroValue t).run P w = .ok zero w)
    (hzc : plainCells zero.cells.toList = some zc) (hpl : ∀ w, (fs.mapM fun (f : Field) => do pure (f.offset, ← sizeOf f.type)).run P w = .ok places w) (hp : PartsOk ev parts.toList pp) (hfill : fillPV (places[·]?) zc pp = some out) :
    OpT P ⟨dst, .build t parts, ty, pos, after, g⟩ ev H (.pv (.agg out)) H none :=
  OpT.value fun V ι w a hk hr => by
    obtain ⟨h1, h2⟩ := parts_rep (ι := ι) (w := w) (F := Free V ι H w) (a := a) hp (by simpa [Op.operands] using hr)
    obtain ⟨ys, h3, h4⟩ := fill_rep (place := (places[·]?)) _ pp zero.cells zc out h1 h2 (plainCells_spec hzc) hfill
    have e : ys = ys.toList.toArray := by simp
    refine ⟨.agg ys, ?_, .pv _ _ (by rw [e]; exact .agg _ _ h4.1 h4.2)⟩
    have hpv : (parts.map fun (i, x) => (i, a.eval x)) = partsV a parts := rfl
    simp only [execOp, hpv, Instr.build, Sem.run_bind, hz, Result.andThen_ok, run_underlying ht, hpl, h3, Sem.run_pure]

/-- '[]T{..}', T of one cell, the elements in their order: read alone. -/
theorem buildSlice_run {t e bytes n : Nat} {zero : Value} {out : List PV} {parts : Array (Nat × Operand)} {pp : List (Nat × PV)} {zc : List PV} (hty : ElemTy P t e 1 bytes zero) (hzc : plainCells zero.cells.toList = some zc) (hp : PartsOk ev parts.toList pp)
    (hfill : fillPV (fun i => some (i * 1, 1)) (List.replicate n zc).flatten pp = some out) (hn : n ≤ 1000)
    {V : Nat → Prop} {ι : Nat → Value} {w : World} {a : Act} (hr : ∀ x, x ∈ (parts.toList.map (·.2)).toArray → ∀ s, ev x s → RepS ι w (Free V ι H w) (a.eval x) s) :
    ∃ xs : List Value, (Instr.buildSlice t n (partsV a parts)).run P w = .ok (.slice (some ⟨w.heap.size, 0, none⟩) n n) (w.alloc (.cells xs.toArray e)) ∧ RepL w (Free V ι H w) xs out := by
  obtain ⟨i, hi, hz0, hsz, hby⟩ := hty.row
  obtain ⟨h1, h2⟩ := parts_rep (ι := ι) (w := w) (F := Free V ι H w) (a := a) hp hr
  have hzs : zero.cells.size = 1 := hty.zs
  have hzl : zero.cells = #[zero.cells[0]!] := by
    have : zero.cells.toList.length = 1 := by simpa using hzs
    match hc : zero.cells.toList, this with
    | [c], _ =>
      have : zero.cells = #[c] := by rw [← Array.toList_inj, hc]
      rw [this]; simp
  have hzr : RepL w (Free V ι H w) zero.cells.toList zc := plainCells_spec hzc
  have hmade : RepL w (Free V ι H w) (((Array.range n).map (zero.cells[· % zero.cells.size]!)).toList) (List.replicate n zc).flatten := by
    have e1 := madeCells_one zero.cells hzs n
    unfold madeCells at e1
    rw [e1]
    have hz1 : RepL w (Free V ι H w) [zero.cells[0]!] zc := by rw [hzl] at hzr; simpa using hzr
    clear e1 hfill
    induction n with
    | zero => exact .nil
    | succ m ih =>
      simp only [List.replicate_succ, List.flatten_cons]
      exact hz1.append (ih (by omega))
  obtain ⟨ys, h3, h4⟩ := fill_rep (place := fun i => some (i * 1, 1)) _ pp _ _ out h1 h2 hmade hfill
  refine ⟨ys.toList, ?_, h4⟩
  have hlim : ¬ (2 ^ 24 < n) := by omega
  by_cases h0 : n = 0
  · subst h0
    have e0 : ((Array.range 0).map (zero.cells[· % zero.cells.size]!)) = #[] := by simp
    rw [e0] at h3
    simp only [Nat.mul_one] at h3
    simp [Instr.buildSlice, run_underlying hty.sl, sizeOf, typeInfo, hi, hsz, Array.range_zero', h3, newRow]
  · simp only [Nat.mul_one] at h3
    simp [Instr.buildSlice, run_underlying hty.sl, sizeOf, typeInfo, zeroValue, hi, hz0, hsz, hlim, h0, h3, newRow]

theorem op_slit {t e bytes n : Nat} {zero : Value} {parts : Array (Nat × Operand)} {pp : List (Nat × PV)} {zc : List PV} {α : Type} {d : α} {f : α → List PV} (l : List α) (hty : ElemTy P t e 1 bytes zero) (hzc : plainCells zero.cells.toList = some zc) (hp : PartsOk ev parts.toList pp)
    (hfill : fillPV (fun i => some (i * 1, 1)) (List.replicate n zc).flatten pp = some (l.flatMap f)) (hn : n ≤ 1000) (hl : l.length = n) : OpT P ⟨dst, .buildSlice t n parts, ty, pos, after, g⟩ ev H (.pv (.seq α d f l)) H none := by
  intro V ι w a Q hV hk hr
  obtain ⟨xs, hrun, hrep⟩ := buildSlice_run (H := H) (V := V) (ι := ι) (w := w) (a := a) hty hzc hp hfill hn (by simpa [Op.operands] using hr)
  have hst := Step.alloc (V := V) hk (.cells xs.toArray e)
  unfold Oper.wp
  have hrun' : (execOp a.eval ⟨dst, .buildSlice t n parts, ty, pos, after, g⟩).run P w = .ok (.value (.slice (some ⟨w.heap.size, 0, none⟩) n n)) (w.alloc (.cells xs.toArray e)) := by
    have hpv : (parts.map fun (i, x) => (i, a.eval x)) = partsV a parts := rfl
    simp only [execOp, hpv]
    simp [hrun]
  rw [hrun']
  refine ⟨ι, _, rfl, hst, .pv _ _ ?_⟩
  have hrep' := hst.repL hrep
  rw [← hl]
  refine .seq α d f l w.heap.size 0 l.length xs ⟨by simp, hV _ (Nat.le_refl _), fun ho => absurd (hk.lt ho) (by omega)⟩ (Nat.le_refl _) (by omega) hrep'.1 (fun k h1 => ?_) hrep'.2
  simp [h1]

theorem op_slitO {t e bytes n : Nat} {zero : Value} {parts : Array (Nat × Operand)} {pp : List (Nat × PV)} {zc : List PV} {α : Type} {d : α} {f : α → List PV} (id : Nat) (l : List α) (hty : ElemTy P t e 1 bytes zero) (hzc : plainCells zero.cells.toList = some zc)
    (hp : PartsOk ev parts.toList pp) (hfill : fillPV (fun i => some (i * 1, 1)) (List.replicate n zc).flatten pp = some (l.flatMap f)) (hn : n ≤ 1000) (hl : l.length = n) (hz : ∀ a, (f a).length = 1) (hm : heapMen id H = false) :
    OpT P ⟨dst, .buildSlice t n parts, ty, pos, after, g⟩ ev H (.own id) ((id, .arr e 1 α d f l) :: H) (some id) :=
  OpT.newRow hm hz (by omega) fun V ι w a hk hr => by
    obtain ⟨xs, hrun, hrep⟩ := buildSlice_run (H := H) (V := V) (ι := ι) (w := w) (a := a) hty hzc hp hfill hn (by simpa [Op.operands] using hr)
    have hpv : (parts.map fun (i, x) => (i, a.eval x)) = partsV a parts := rfl
    exact ⟨xs, by rw [hl]; simp only [execOp, hpv]; simp [hrun], hrep⟩

/-! ### Slices of slices -/

/-- 'x[lo:hi]' of a slice that is read. -/
theorem op_slice {t e z : Nat} {x : Operand} {lo hi : Option Operand} {kl kh : IntKind} {a b : Nat} {α : Type} {d : α} {f : α → List PV} {l : List α} (ht : P.underlying t = some (.slice e)) (hsz : ∀ w, (sizeOf e).run P w = .ok z w) (hz : ∀ a, (f a).length = z)
    (hx : ev x (.pv (.seq α d f l))) (hlo : match lo with | some o => ev o (.pv (.int kl (a : Nat))) | none => a = 0) (hhi : match hi with | some o => ev o (.pv (.int kh (b : Nat))) | none => b = l.length) (h : a ≤ b ∧ b ≤ l.length) :
    OpT P ⟨dst, .slice t x lo hi none, ty, pos, after, g⟩ ev H (.pv (.seq α d f ((l.take b).drop a))) H none :=
  OpT.value fun V ι w A hk hr => by
    obtain ⟨ad, cap, h1, hc, hm, h3⟩ := (hr x (by simp [Op.operands]) _ hx).pv_inv.seq_inv
    have hbd : ∃ m, (Instr.sliceBounds true l.length cap (lo.map A.eval) (hi.map A.eval) none).run P w = .ok (a, b, cap) w ∧ m = 0 := by
      refine ⟨0, ?_, rfl⟩
      have e1 : ∀ o : Operand, hi = some o → A.eval o = .int kh (b : Nat) := fun o ho => by
        subst ho
        exact (hr o (by simp [Op.operands]) _ hhi).pv_inv.int_inv
      have e2 : ∀ o : Operand, lo = some o → A.eval o = .int kl (a : Nat) := fun o ho => by
        subst ho
        exact (hr o (by simp [Op.operands]) _ hlo).pv_inv.int_inv
      cases lo with
      | none =>
        simp only at hlo
        subst hlo
        cases hi with
        | none => simp only at hhi; subst hhi; simp [Instr.sliceBounds]
        | some o => simp [Instr.sliceBounds, e1 o rfl, Instr.sliceBound, asIntOf, show b ≤ cap by omega]
      | some p =>
        cases hi with
        | none => simp only at hhi; subst hhi; simp [Instr.sliceBounds, e2 p rfl, Instr.sliceBound, asIntOf, h.1]
        | some o => simp [Instr.sliceBounds, e1 o rfl, e2 p rfl, Instr.sliceBound, asIntOf, h.1, show b ≤ cap by omega]
    obtain ⟨_, hbd, _⟩ := hbd
    have hl : ((l.take b).drop a).length = b - a := by simp; omega
    refine ⟨.slice (if cap = a then ad else ad.map (·.add (a * z))) (b - a) (cap - a), ?_, .pv _ _ ?_⟩
    · simp [execOp, h1, Instr.sliceAt, run_underlying ht, Instr.slice, hbd, hsz]
    · rw [← hl]
      by_cases h0 : (l.take b).drop a = []
      · rw [h0]
        refine .seq0 _ _ _ _ _ fun he => ?_
        have hcap := (hr x (by simp [Op.operands]) _ hx).pv_inv
        rw [h1] at hcap
        have had : ad = none := by
          by_cases hca : cap = a
          · rw [if_pos hca] at he; exact he
          · rw [if_neg hca] at he; simpa using he
        subst had
        have := hcap.none_cap
        omega
      · rcases h3 with rfl | ⟨bk, off, xs, rfl, hF, hcell, hrep⟩
        · simp at h0
        · have hlt : a < b := by
            rcases Nat.lt_or_ge a b with h5 | h5
            · exact h5
            · exact absurd (List.drop_eq_nil_of_le (by simp; omega)) h0
          rw [if_neg (by omega)]
          simp only [Option.map_some, Addr.add_lit]
          have hrep2 : RepL w (Free V ι H w) ((xs.take (b * z)).drop (a * z)) (((l.take b).drop a).flatMap f) := by
            have e : ((l.take b).drop a).flatMap f = ((l.flatMap f).take (b * z)).drop (a * z) := by rw [flatMap_drop hz, flatMap_take hz]
            rw [e]
            exact (hrep.take _).drop _
          refine .seq α d f _ bk (off + a * z) (cap - a) ((xs.take (b * z)).drop (a * z)) hF (by omega) (by rw [hl]; omega) hrep2.1 (fun k h1 => ?_) hrep2.2
          rw [Nat.add_assoc, hcell _ (by simp at h1; omega)]
          simp
end ops
end Go.Abs
