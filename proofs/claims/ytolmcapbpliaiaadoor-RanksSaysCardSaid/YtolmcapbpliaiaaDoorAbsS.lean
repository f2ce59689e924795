/- An empty literal that is appended to at once. Conditions: each law names its own. -/
import Derived.Test.YtolmcapbpliaiaaDoorAbsQ
namespace Go.Abs
set_option linter.unusedVariables false
section ops
variable {P : Program} {ev : Operand → SV → Prop} {H : Heap} {dst : Option Nat} {ty : TypeId} {pos : String} {after : Array Edge} {g : Option (Nat × Bool)}
/-- 'T{}': a slice with no room. -/
theorem op_slit0 {t e z bytes : Nat} {zero : Value} (hty : ElemTy P t e z bytes zero) : OpT P ⟨dst, .buildSlice t 0 #[], ty, pos, after, g⟩ ev H (.pv .cap0) H none := by
  intro V ι w a Q hV hk hr
  obtain ⟨i, hi, hz0, hsz, hby⟩ := hty.row
  have hst := Step.alloc (V := V) hk (.cells #[] e)
  unfold Oper.wp
  have hrun : (execOp a.eval ⟨dst, .buildSlice t 0 #[], ty, pos, after, g⟩).run P w = .ok (.value (.slice (some ⟨w.heap.size, 0, none⟩) 0 0)) (w.alloc (.cells #[] e)) := by
    simp [execOp, Instr.buildSlice, run_underlying hty.sl, sizeOf, typeInfo, zeroValue, hi, hz0, hsz, newRow, Instr.fill, show Array.range 0 = #[] from rfl]
  rw [hrun]
  exact ⟨ι, _, rfl, hst, .pv _ _ (.cap0 _)⟩
/-- 'append(x, y...)', x without room, y not empty: owned. -/
theorem op_appendC {t tx e z bytes e' : Nat} {zero : Value} {x y : Operand} {id' : Nat} {α : Type} {d : α} {f : α → List PV} {m : List α} (hty : ElemTy P t e z bytes zero) (htx : P.underlying tx = some (.slice e')) (hz : ∀ a, (f a).length = z) (h1 : ∀ a, (f a).all PV.one = true)
    (hx : ev x (.pv .cap0)) (hy : ev y (.pv (.seq α d f m))) (hm : heapMen id' H = false) (hfit : 0 < m.length ∧ m.length * bytes ≤ 140737488355328) :
    OpT P ⟨dst, .call ⟨.builtin .append, #[x, y], #[t, tx]⟩, ty, pos, after, g⟩ ev H (.own id') ((id', .arr e z α d f m) :: H) (some id') := by
  intro V ι w a Q hV hk hr
  obtain ⟨a0, hxe⟩ := (hr x (by simp [Op.operands, Call.operands]) _ hx).pv_inv.cap0_inv
  have hyv := (hr y (by simp [Op.operands, Call.operands]) _ hy).pv_inv
  obtain ⟨news, hs, hnews⟩ := src_seq (P := P) htx hz h1 hyv
  obtain ⟨i, hi, hz0, hsz, hby⟩ := hty.row
  have hb := hty.bpos
  have hml : m.length ≤ 140737488355328 := by have := Nat.le_mul_of_pos_right m.length hb; omega
  obtain ⟨v', w', hrun, ho', hg, hblk⟩ := append_own (P := P) w t tx ty e i zero z bytes hty.sl hi hz0 hsz hby hty.zs (.slice none 0 0) 0 [] (World.ownsRow_nil w 0 e z) (a.eval y) m.length news hs
    (by simp only [maxLen]; omega) (by simpa using hfit.2)
  have hrun2 : (Builtin.append_ #[t, tx] ty #[.slice a0 0 0, a.eval y]).run P w = .ok v' w' := by
    subst hsz
    subst hby
    rw [← hrun]
    have fits : Builtin.nextslicecap (0 + m.length) 0 * i.bytes ≤ 281474976710656 := growslice_fits (by omega) (by simpa using hfit.2)
    rw [run_append_grow_src (P := P) w t tx ty e i zero hty.sl hi hz0 a0 0 0 [] (by
        cases a0 with
        | none => simp [Builtin.firstCells]
        | some a0 => exact run_firstCells_some (P := P) w.drew i.size 0 a0 0 0 [] (by simp) (by simp)) (a.eval y) m.length news hs (by omega) (by omega) fits,
      run_append_grow_src (P := P) w t tx ty e i zero hty.sl hi hz0 none 0 0 [] (by simp [Builtin.firstCells]) (a.eval y) m.length news hs (by omega) (by omega) fits]
  have hst : Step V ι H w (some id') (rename ι id' v') ((id', .arr e z α d f m) :: H) w' := by
    refine Step.new hV hk hg hm (fun b hb => ?_) ?_
    · rw [blkOf_own ho'] at hb
      rcases hblk b hb with h5 | h5
      · exact h5
      · simp [Value.ownBlock] at h5
    · refine ⟨news, by simpa using ho', hnews.mono (fun c hc => hg.block c hc.1 (by simp [Value.ownBlock])) (fun c hc => ⟨Nat.lt_of_lt_of_le hc.1 hg.size, hc.2.1, ?_⟩), by omega⟩
      rintro ⟨j, bl, hj, hb'⟩
      rw [List.lookup_cons] at hj
      by_cases ej : j = id'
      · subst ej
        have hb2 : blkOf v' = some c := by simpa [rename] using hb'
        rw [blkOf_own ho'] at hb2
        rcases hblk c hb2 with h5 | h5
        · have := hc.1; omega
        · simp [Value.ownBlock] at h5
      · rw [beq_eq_false_iff_ne.2 ej] at hj
        exact hc.2.2 ⟨j, bl, hj, by simpa [rename, ej] using hb'⟩
  unfold Oper.wp
  have hrun' : (execOp a.eval ⟨dst, .call ⟨.builtin .append, #[x, y], #[t, tx]⟩, ty, pos, after, g⟩).run P w = .ok (.value v') w' := by
    simp [execOp, resolve, invoke, builtin, hxe, hrun2]
  rw [hrun']
  refine ⟨_, v', rfl, hst, ?_⟩
  exact RepS.ownNew id' v'
end ops
end Go.Abs
