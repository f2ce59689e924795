/- A struct stored as an element of an owned slice. Conditions: each law names its own. -/
import Derived.Test.YtolmcapbpliaiaaDoorAbsT
namespace Go.Abs
set_option linter.unusedVariables false

theorem flatMap_setA {α : Type} {f : α → List PV} {z : Nat} (hz : ∀ a, (f a).length = z) : ∀ (l : List α) (i : Nat) (a : α), i < l.length → (l.set i a).flatMap f = (l.flatMap f).take (i * z) ++ f a ++ (l.flatMap f).drop (i * z + z)
  | [], i, a, hi => absurd hi (by simp)
  | x :: l, 0, a, _ => by
    simp only [List.set_cons_zero, List.flatMap_cons, Nat.zero_mul, Nat.zero_add, List.take_zero, List.nil_append]
    rw [List.drop_append_of_le_length (by rw [hz]; exact Nat.le_refl _), List.drop_of_length_le (by rw [hz]; exact Nat.le_refl _), List.nil_append]
  | x :: l, i + 1, a, hi => by
    simp only [List.set_cons_succ, List.flatMap_cons]
    have h1 : (i + 1) * z = (f x).length + i * z := by rw [hz, Nat.add_mul]; omega
    rw [flatMap_setA hz l i a (by simpa using hi), h1, List.take_length_add_append, Nat.add_assoc, List.drop_length_add_append]
    simp only [List.append_assoc]
theorem take_mid {C ys : List Value} {p z m : Nat} (hy : ys.length = z) (hp : p + z ≤ m) (hm : m ≤ C.length) : (C.take p ++ ys ++ C.drop (p + z)).take m = (C.take m).take p ++ ys ++ (C.take m).drop (p + z) := by
  have h1 : C.take p = (C.take m).take p := by rw [List.take_take, Nat.min_eq_left (by omega)]
  have h2 : C.drop (p + z) = (C.take m).drop (p + z) ++ C.drop m := by
    conv => lhs; rw [← List.take_append_drop m C]
    rw [List.drop_append_of_le_length (by rw [List.length_take]; omega)]
  rw [h1, h2, ← List.append_assoc]
  refine List.take_left' ?_
  simp only [List.length_append, List.length_take, List.length_drop, hy]
  omega
section ops
variable {P : Program} {ev : Operand → SV → Prop} {H : Heap} {dst : Option Nat} {ty : TypeId} {pos : String} {after : Array Edge} {g : Option (Nat × Bool)}
theorem op_storeEA {t : TypeId} {x y : Operand} {e z id i : Nat} {α : Type} {d : α} {f : α → List PV} {l : List α} {ps : List PV} (a : α) (hsz : ∀ w, (sizeOf t).run P w = .ok z w) (hx : ev x (.elt id z i 0)) (hy : ev y (.pv (.agg ps)))
    (hl : List.lookup id H = some (.arr e z α d f l)) (hz : ∀ a, (f a).length = z) (hi : i < l.length) (ha : f a = ps) (h1 : ps.all PV.one = true) :
    OpT P ⟨dst, .store t x y, ty, pos, after, g⟩ ev H (.pv .any) ((id, .arr e z α d f (l.set i a)) :: H) none := by
  subst ha
  intro V ι w A Q hV hk hr
  obtain ⟨b, n, cc, hb1, hb2⟩ := (hr x (by simp [Op.operands]) _ hx).elt_inv'
  rw [Nat.add_zero] at hb2
  have hrc := (hr y (by simp [Op.operands]) _ hy).pv_inv
  obtain ⟨ys, hys, hyr⟩ : ∃ ys : List Value, A.eval y = .agg ys.toArray ∧ RepL w (Free V ι H w) ys (f a) := by
    generalize A.eval y = u at hrc
    cases hrc with
    | agg ys _ hl hr => exact ⟨ys, rfl, hl, hr⟩
  have hyl : ys.length = z := by rw [hyr.1, hz]
  have hones : ∀ v, v ∈ ys → v.oneCell' = true := by
    intro v hv
    obtain ⟨k, hk', rfl⟩ := List.getElem_of_mem hv
    exact (hyr.2 k hk' (hyr.1 ▸ hk')).one (List.all_eq_true.1 h1 _ (List.getElem_mem _))
  obtain ⟨xs, ho, hrep, hm⟩ := hk.ok id _ hl
  obtain ⟨a', cap, h3, hcap, h4⟩ := own_shape ho
  obtain ⟨b', cur, rfl, hh, hcs, htk⟩ := h4 (by omega)
  rw [h3] at hb1
  simp only [Value.slice.injEq, Option.some.injEq, Addr.mk.injEq, and_true] at hb1
  obtain ⟨rfl, rfl, rfl⟩ := hb1
  have hxl : xs.length = l.length * z := by rw [hrep.1, flatMap_length hz]
  have hle : i * z + z ≤ l.length * z := by
    have : (i + 1) * z ≤ l.length * z := Nat.mul_le_mul_right _ hi
    rw [Nat.add_mul] at this; omega
  have hcl : l.length * z ≤ cur.toList.length := by
    have := congrArg List.length htk
    rw [List.length_take] at this; omega
  have hst0 := run_storeCells_at (P := P) b' (i * z) e ys 0 cur w hh (by have : cur.size = cur.toList.length := by simp
                                                                         omega) hones
  simp only [Nat.add_zero, hyl] at hst0
  generalize hnew : (cur.toList.take (i * z) ++ ys ++ cur.toList.drop (i * z + z)).toArray = new at hst0
  have hnl : new.toList = cur.toList.take (i * z) ++ ys ++ cur.toList.drop (i * z + z) := by rw [← hnew]
  have hg : w.grownBy (w.setRow b' new) (some b') := ⟨rfl, rfl, rfl, by simp [World.setRow], fun k _ hk => setRow_other w b' k _ (fun e => hk (by simp [e]))⟩
  have hst : Step V ι H w none ι ((id, .arr e z α d f (l.set i a)) :: H) (w.setRow b' new) := by
    refine Step.upd hV hk hl (by rw [h3]; exact hg) ?_
    have hfree : ∀ c, Free V ι H w c → Free V ι ((id, .arr e z α d f (l.set i a)) :: H) (w.setRow b' new) c := by
      intro c hc
      refine ⟨Nat.lt_of_lt_of_le hc.1 hg.size, hc.2.1, ?_⟩
      rintro ⟨k, bl, hl', hb'⟩
      rw [List.lookup_cons] at hl'
      by_cases e : k = id
      · subst e; exact hc.2.2 ⟨k, _, hl, hb'⟩
      · rw [beq_eq_false_iff_ne.2 e] at hl'; exact hc.2.2 ⟨k, bl, hl', hb'⟩
    have hblk : ∀ c, Free V ι H w c → (w.setRow b' new).heap[c]? = w.heap[c]? := fun c hc => hg.block c hc.1 fun e => hc.2.2 ⟨id, _, hl, by rw [h3]; simpa [blkOf] using e.symm⟩
    refine ⟨xs.take (i * z) ++ ys ++ xs.drop (i * z + z), ?_, ?_, by simpa using hm⟩
    · rw [h3, List.length_set]
      refine ⟨by simp only [List.length_append, List.length_take, List.length_drop, hyl, hxl]; omega, .inr ⟨b', cap, new, rfl, Nat.zero_le _, setRow_heap w b' cur new e (0, 0) hh, hcap, ?_, ?_, ?_⟩⟩
      · rcases ho.2 with ⟨h, _⟩ | ⟨_, cap', _, h, _, _, _, hcm, _⟩
        · rw [h3] at h; simp at h
        · rw [h3] at h; simp only [Value.slice.injEq] at h; omega
      · have hsz' : new.size = new.toList.length := by simp
        rw [hsz', hnl]
        have : cur.size = cur.toList.length := by simp
        simp only [List.length_append, List.length_take, List.length_drop, hyl]
        omega
      · rw [hnl, take_mid hyl hle hcl, htk]
    · rw [flatMap_setA hz l i a hi]
      exact (((hrep.take _).append hyr).append (hrep.drop _)).mono hblk hfree
  unfold Oper.wp
  have hrun : (execOp A.eval ⟨dst, .store t x y, ty, pos, after, g⟩).run P w = .ok .skip (w.setRow b' new) := by
    simp [execOp, hb2, hys, Instr.storeAt, Instr.sureAddr, storeVar, hsz, Value.cells, hyl, hst0]
  rw [hrun]
  exact ⟨ι, undef, rfl, hst, .pv _ _ (.any _)⟩
end ops
end Go.Abs
