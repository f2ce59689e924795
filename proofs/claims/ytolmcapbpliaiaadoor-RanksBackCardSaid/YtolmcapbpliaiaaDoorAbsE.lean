/- Boxes that hold owned slices. Conditions: each law names its own. -/
import Derived.Test.YtolmcapbpliaiaaDoorAbsD
namespace Go.Abs
set_option linter.unusedVariables false
variable {B : BT}

section
variable {V : Nat → Prop} {ι : Nat → Value} {H : Heap} {w : World}

theorem lookup_rebox {i : Nat} {cs' : List SV} {k : Nat} {blk : Blk} (h : List.lookup k ((i, Blk.box cs') :: H) = some blk) : (k = i ∧ blk = .box cs') ∨ (k ≠ i ∧ List.lookup k H = some blk) := by
  rw [List.lookup_cons] at h
  by_cases e : k = i
  · subst e; simp at h; exact .inl ⟨rfl, h.symm⟩
  · rw [beq_eq_false_iff_ne.2 e] at h; exact .inr ⟨e, h⟩

theorem owned_rebox {i : Nat} {cs cs' : List SV} (hl : List.lookup i H = some (.box cs)) (b : Nat) : Owned ι ((i, .box cs') :: H) b ↔ Owned ι H b := by
  constructor
  · rintro ⟨k, blk, h, hb⟩
    rcases lookup_rebox h with ⟨rfl, rfl⟩ | ⟨_, h'⟩
    · exact ⟨k, _, hl, hb⟩
    · exact ⟨k, _, h', hb⟩
  · rintro ⟨k, blk, h, hb⟩
    by_cases e : k = i
    · subst e; exact ⟨k, .box cs', by simp [List.lookup_cons], hb⟩
    · exact ⟨k, blk, by rw [List.lookup_cons, beq_eq_false_iff_ne.2 e]; exact h, hb⟩

theorem free_rebox {i : Nat} {cs cs' : List SV} (hl : List.lookup i H = some (.box cs)) : Free V ι ((i, .box cs') :: H) w = Free V ι H w := by
  funext b
  simp only [Free, owned_rebox hl b]

/-- The cells of a box may be known otherwise. -/
theorem HeapOk.rebox {i : Nat} {cs cs' : List SV} (hk : HeapOk V ι H w) (hl : List.lookup i H = some (.box cs)) (hlen : cs'.length = cs.length)
    (h : ∀ (xs : List Value), xs.length = cs.length → (∀ (k : Nat) (h1 : k < xs.length) (h2 : k < cs.length), RepS ι w (Free V ι H w) xs[k] cs[k]) → ∀ (k : Nat) (h1 : k < xs.length) (h2 : k < cs'.length), RepS ι w (Free V ι H w) xs[k] cs'[k]) :
    HeapOk V ι ((i, .box cs') :: H) w := {
  ok := fun k blk hb => by
    rw [free_rebox hl]
    rcases lookup_rebox hb with ⟨rfl, rfl⟩ | ⟨_, hb'⟩
    · obtain ⟨b, xs, e, hv, hh, h1, h2⟩ := hk.ok k _ hl
      exact ⟨b, xs, e, hv, hh, by omega, h xs h1 h2⟩
    · exact hk.ok k blk hb'
  inj := fun k k' blk blk' b h1 h2 hb hb' => by
    rcases lookup_rebox h1 with ⟨rfl, rfl⟩ | ⟨_, h1'⟩ <;> rcases lookup_rebox h2 with ⟨rfl, rfl⟩ | ⟨_, h2'⟩
    · rfl
    · exact hk.inj _ _ _ _ b hl h2' hb hb'
    · exact hk.inj _ _ _ _ b h1' hl hb hb'
    · exact hk.inj _ _ _ _ b h1' h2' hb hb'
  vis := fun b hb => hk.vis b ((owned_rebox hl b).1 hb) }

theorem Sim.rebox {w0 : World} {O : Nat → Prop} {n : Nat} {env : Nat → Option SV} {a : Act} {i : Nat} {cs cs' : List SV} (hs : Sim B w0 O V n ι env H a w) (hl : List.lookup i H = some (.box cs)) (hlen : cs'.length = cs.length)
    (h : ∀ (xs : List Value), xs.length = cs.length → (∀ (k : Nat) (h1 : k < xs.length) (h2 : k < cs.length), RepS ι w (Free V ι H w) xs[k] cs[k]) → ∀ (k : Nat) (h1 : k < xs.length) (h2 : k < cs'.length), RepS ι w (Free V ι H w) xs[k] cs'[k]) :
    Sim B w0 O V n ι env ((i, .box cs') :: H) a w :=
  ⟨hs.os, hs.tape, hs.output, hs.size, hs.kept, fun b hb => hs.mine b ((owned_rebox hl b).1 hb), hs.heap.rebox hl hlen h, fun t s ht => by rw [free_rebox hl]; exact hs.env t s ht, hs.tmps, hs.marks, hs.new⟩
end

theorem set_cell {xs : List Value} {cs : List SV} {R : Value → SV → Prop} {off : Nat} {s0 s : SV} (hl : xs.length = cs.length) (hr : ∀ (k : Nat) (h1 : k < xs.length) (h2 : k < cs.length), R xs[k] cs[k]) (h0 : cs[off]? = some s0) (h : ∀ v, R v s0 → R v s) :
    ∀ (k : Nat) (h1 : k < xs.length) (h2 : k < (cs.set off s).length), R xs[k] (cs.set off s)[k] := by
  intro k h1 h2
  rw [List.getElem_set]
  split
  · rename_i e
    subst e
    have h3 := hr off h1 (by omega)
    rw [show cs[off]'(by omega) = s0 from (List.getElem?_eq_some_iff.1 h0).2] at h3
    exact h _ h3
  · exact hr k h1 (by omega)

/-- An owned slice in a box is given up. -/
theorem Ent.giveB {env : Env} {H : Heap} (i off id : Nat) {cs : List SV} {e z : Nat} {α : Type} {d : α} {f : α → List PV} {l : List α} (hb : List.lookup i H = some (.box cs)) (hc : cs[off]? = some (.own id)) (hl : List.lookup id H = some (.arr e z α d f l)) :
    Ent ⟨env, H⟩ ⟨env, (i, .box (cs.set off (.pv (.seq α d f l)))) :: hdrop id H⟩ := by
  intro B w0 O V n ι a w hs
  have hne : i ≠ id := fun e => by subst e; rw [hb] at hl; cases hl
  have hok := hs.heap.ok id _ hl
  have hrep : Rep w (Free V ι (hdrop id H) w) (ι id) (.seq α d f l) := by
    refine rep_of_arr hok (fun b hb => hb.of_sub fun i b hi => lookup_hdrop_sub hi) fun b hb0 => ?_
    have hb1 : blkOf (ι id) = some b := by
      obtain ⟨xs, ho, _⟩ := hok
      rw [blkOf_own ho]; exact hb0
    refine ⟨hs.heap.lt ⟨id, _, hl, hb1⟩, hs.heap.vis b ⟨id, _, hl, hb1⟩, ?_⟩
    rintro ⟨i', bl, hi, hb'⟩
    simp only [lookup_hdrop] at hi
    split at hi
    · simp at hi
    · rename_i hne
      exact hne (hs.heap.inj i' id bl _ b hi hl hb' hb1)
  refine ⟨ι, (hs.sub fun i b hi => lookup_hdrop_sub hi).rebox (cs := cs) (by rw [lookup_hdrop, if_neg hne]; exact hb) (by simp) fun xs h1 h2 => set_cell h1 h2 hc fun v hv => ?_⟩
  cases hv
  exact .pv _ _ hrep

/-- The nil slice in a box as the beginning of an owned one. -/
theorem Ent.beginB {env : Env} {H : Heap} (i off id e z : Nat) (α : Type) (d : α) (f : α → List PV) {cs : List SV} (hb : List.lookup i H = some (.box cs)) (hc : cs[off]? = some (.pv .nil)) (hi : i ≠ id) (hf : freshIn (some id) env = true) (hm : heapMen id H = false) :
    Ent ⟨env, H⟩ ⟨env, (i, .box (cs.set off (.own id))) :: (id, .arr e z α d f []) :: H⟩ := by
  intro B w0 O V n ι a w hs
  have hst : Step V ι H w (some id) (rename ι id (.slice none 0 0)) ((id, .arr e z α d f []) :: H) w := by
    refine Step.new hs.new hs.heap (grownBy_refl w none) hm (by simp [blkOf]) ?_
    exact ⟨[], World.ownsRow_nil w 0 e z, .nil, by simp⟩
  have hs' := hs.step hst (freshIn_spec hf)
  refine ⟨_, hs'.rebox (cs := cs) (by rw [List.lookup_cons, beq_eq_false_iff_ne.2 hi]; exact hb) (by simp) fun xs h1 h2 => set_cell h1 h2 hc fun v hv => ?_⟩
  have := hv.pv_inv
  cases this
  exact RepS.ownNew id _

section ops
variable {P : Program} {ev : Operand → SV → Prop} {H : Heap} {dst : Option Nat} {ty : TypeId} {pos : String} {after : Array Edge} {g : Option (Nat × Bool)}

theorem RepL.ones {w : World} {F : Nat → Prop} {xs : List Value} {ps : List PV} (h : RepL w F xs ps) (h1 : ps.all PV.one = true) : ∀ v, v ∈ xs → v.oneCell' = true := by
  intro v hv
  obtain ⟨k, hk, rfl⟩ := List.getElem_of_mem hv
  exact (h.2 k hk (h.1 ▸ hk)).one (List.all_eq_true.1 h1 _ (List.getElem_mem _))

theorem op_storeRA0 {t : TypeId} {x y : Operand} {id off : Nat} {cs : List SV} {ps : List PV} (hsz : ∀ w, (sizeOf t).run P w = .ok ps.length w) (hx : ev x (.ref id off)) (hy : ev y (.pv (.agg ps))) (hl : List.lookup id H = some (.box cs))
    (ho : off + ps.length ≤ cs.length) (h1 : ps.all PV.one = true) :
    OpT P ⟨dst, .store t x y, ty, pos, after, g⟩ ev H (.pv .any) ((id, .box (cs.take off ++ ps.map SV.pv ++ cs.drop (off + ps.length))) :: H) none := by
  intro V ι w a Q hV hk hr
  obtain ⟨b, hb1, hb2⟩ := (hr x (by simp [Op.operands]) _ hx).ref_inv
  have hrs := (hr y (by simp [Op.operands]) _ hy).pv_inv
  obtain ⟨b', xs, e, hv, hh, hlen, hrep⟩ := hk.ok id _ hl
  rw [hb1] at hv
  simp only [Value.pointer.injEq, Option.some.injEq, Addr.mk.injEq, and_true] at hv
  subst hv
  obtain ⟨ys, hys, hyr⟩ : ∃ ys : List Value, a.eval y = .agg ys.toArray ∧ RepL w (Free V ι H w) ys ps := by
    generalize a.eval y = v at hrs
    cases hrs with
    | agg ys _ hl hr => exact ⟨ys, rfl, hl, hr⟩
  have hyl := hyr.1
  have hst0 := run_storeCells_at (P := P) b off e ys 0 xs.toArray w hh (by simp; omega) (hyr.ones h1)
  generalize hnew : (xs.toArray.toList.take (off + 0) ++ ys ++ xs.toArray.toList.drop (off + 0 + ys.length)).toArray = new at hst0
  have hnl : new.toList = xs.take off ++ ys ++ xs.drop (off + ys.length) := by rw [← hnew]; simp
  have hg : w.grownBy (w.setRow b new) (some b) := ⟨rfl, rfl, rfl, by simp [World.setRow], fun k _ hk => setRow_other w b k _ (fun e => hk (by simp [e]))⟩
  have hst : Step V ι H w none ι ((id, .box (cs.take off ++ ps.map SV.pv ++ cs.drop (off + ps.length))) :: H) (w.setRow b new) := by
    refine Step.upd hV hk hl (by rw [hb1]; exact hg) ?_
    refine ⟨b, new.toList, e, hb1, ?_, ?_, fun k h2 h3 => ?_⟩
    · rw [Array.toArray_toList]; exact setRow_heap w b xs.toArray new e (0, 0) hh
    · rw [hnl]; simp; omega
    have hmv : ∀ {v : Value} {u : SV}, RepS ι w (Free V ι H w) v u → RepS ι (w.setRow b new) (Free V ι ((id, .box (cs.take off ++ ps.map SV.pv ++ cs.drop (off + ps.length))) :: H) (w.setRow b new)) v u := fun {v u} h =>
      h.move (nw := none) (fun c hc => hg.block c hc.1 fun e => hc.2.2 ⟨id, _, hl, by rw [hb1]; simpa [blkOf] using e.symm⟩) (fun c hc => ⟨Nat.lt_of_lt_of_le hc.1 hg.size, hc.2.1, ?_⟩) (fun _ _ => rfl) (by simp)
    · have key : ∀ (k : Nat) (h2 : k < (xs.take off ++ ys ++ xs.drop (off + ys.length)).length) (h3 : k < (cs.take off ++ ps.map SV.pv ++ cs.drop (off + ps.length)).length),
          RepS ι w (Free V ι H w) (xs.take off ++ ys ++ xs.drop (off + ys.length))[k] (cs.take off ++ ps.map SV.pv ++ cs.drop (off + ps.length))[k] := by
        intro k h2 h3
        have hto : (xs.take off).length = off := by simp; omega
        have htc : (cs.take off).length = off := by simp; omega
        by_cases c1 : k < off
        · rw [List.getElem_append_left (by simp; omega), List.getElem_append_left (by omega), List.getElem_append_left (by simp; omega), List.getElem_append_left (by omega), List.getElem_take, List.getElem_take]
          exact hrep k (by omega) (by omega)
        · by_cases c2 : k < off + ys.length
          · rw [List.getElem_append_left (by simp; omega), List.getElem_append_right (by omega), List.getElem_append_left (by simp; omega), List.getElem_append_right (by omega)]
            simp only [List.getElem_map, hto, htc]
            exact .pv _ _ (hyr.2 _ (by omega) (by omega))
          · rw [List.getElem_append_right (by simp; omega), List.getElem_append_right (by simp; omega)]
            simp only [List.getElem_drop, List.length_append, List.length_map, hto, htc]
            have e1 : off + ys.length + (k - (off + ys.length)) = k := by omega
            have e2 : off + ps.length + (k - (off + ps.length)) = k := by omega
            simp only [e1, e2]
            exact hrep k _ _
      simp only [hnl]
      exact hmv (key k (by rw [← hnl]; exact h2) h3)
    · rintro ⟨i, bl, hl', hb'⟩
      rw [List.lookup_cons] at hl'
      by_cases e : i = id
      · subst e; exact hc.2.2 ⟨i, _, hl, hb'⟩
      · rw [beq_eq_false_iff_ne.2 e] at hl'; exact hc.2.2 ⟨i, bl, hl', hb'⟩
  unfold Oper.wp
  have hrun : (execOp a.eval ⟨dst, .store t x y, ty, pos, after, g⟩).run P w = .ok .skip (w.setRow b new) := by
    simp [execOp, hb2, hys, Instr.storeAt, Instr.sureAddr, storeVar, hsz, Value.cells, hyl, hst0]
  rw [hrun]
  exact ⟨ι, undef, rfl, hst, .pv _ _ (.any _)⟩
/-- A struct stored into a box. -/
theorem op_storeRA {t : TypeId} {x y : Operand} {id off z : Nat} {cs : List SV} {ps : List PV} (hsz : ∀ w, (sizeOf t).run P w = .ok z w) (hx : ev x (.ref id off)) (hy : ev y (.pv (.agg ps))) (hl : List.lookup id H = some (.box cs))
    (hz : ps.length = z) (ho : off + z ≤ cs.length) (h1 : ps.all PV.one = true) :
    OpT P ⟨dst, .store t x y, ty, pos, after, g⟩ ev H (.pv .any) ((id, .box (cs.take off ++ ps.map SV.pv ++ cs.drop (off + z))) :: H) none := by
  subst hz
  exact op_storeRA0 hsz hx hy hl ho h1
end ops
end Go.Abs
