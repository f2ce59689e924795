/- What operations do to blocks that the call owns: boxes (struct variables, captured variables), slices that it makes, fills and appends to. Conditions: each law names its own. -/
import Derived.Test.YtolmcapbpliaiaaDoorAbs5
import Derived.Deep.AppendSrc
namespace Go.Abs
set_option linter.unusedVariables false

theorem heapMen_get {id k : Nat} {H : Heap} {blk : Blk} (h : heapMen id H = false) (hl : List.lookup k H = some blk) : blk.men id = false := by
  have := List.any_eq_false.1 h (k, blk) (mem_of_lookup' hl)
  simpa using this

def hdrop (id : Nat) (H : Heap) : Heap := H.filter fun p => !(p.1 == id)

theorem lookup_hdrop (id k : Nat) (H : Heap) : List.lookup k (hdrop id H) = if k = id then none else List.lookup k H := by
  induction H with
  | nil => simp [hdrop]
  | cons p r ih =>
    obtain ⟨j, b⟩ := p
    unfold hdrop at ih ⊢
    by_cases hj : j = id
    · subst hj
      simp only [List.filter_cons, beq_self_eq_true, Bool.not_true, Bool.false_eq_true, ↓reduceIte, List.lookup_cons]
      rw [ih]
      by_cases hk : k = j
      · simp [hk]
      · simp [hk, beq_eq_false_iff_ne.2 hk]
    · simp only [List.filter_cons, beq_eq_false_iff_ne.2 hj, Bool.not_false, ↓reduceIte, List.lookup_cons]
      by_cases hk : k = j
      · subst hk; simp [hj]
      · rw [beq_eq_false_iff_ne.2 hk]; exact ih

section
variable {V : Nat → Prop} {ι ι' : Nat → Value} {H H' : Heap} {w w' : World} {nw : Option Nat}

/-- THE STEP, IN GENERAL: one row may be written ('row', an owned block); every entry of H' is an entry of H that lies elsewhere, or is shown anew. -/
theorem Step.gen (hVn : ∀ b, w.heap.size ≤ b → V b) (hk : HeapOk V ι H w) (row : Option Nat) (hg : w.grownBy w' row) (hrow : ∀ k, row = some k → Owned ι H k) (hagree : ∀ id, nw ≠ some id → ι' id = ι id)
    (howned : ∀ b, Owned ι' H' b → w.heap.size ≤ b ∨ Owned ι H b)
    (hent : ∀ id blk, List.lookup id H' = some blk → (nw ≠ some id ∧ List.lookup id H = some blk ∧ (∀ k, row = some k → blkOf (ι id) ≠ some k) ∧ (∀ j, nw = some j → blk.men j = false)) ∨ BlkOk ι' w' (Free V ι' H' w') (ι' id) blk)
    (hinj : ∀ id id' blk blk' b, List.lookup id H' = some blk → List.lookup id' H' = some blk' → blkOf (ι' id) = some b → blkOf (ι' id') = some b → id = id') :
    Step V ι H w nw ι' H' w' := by
  have hkept : ∀ b, b < w.heap.size → ¬ Owned ι H b → w'.heap[b]? = w.heap[b]? := fun b hb ho => hg.block b hb fun e => ho (hrow b e.symm)
  have hfree : ∀ b, Free V ι H w b → Free V ι' H' w' b := fun b hb => ⟨Nat.lt_of_lt_of_le hb.1 hg.size, hb.2.1, fun ho => by
    rcases howned b ho with h1 | h1
    · exact absurd hb.1 (by omega)
    · exact hb.2.2 h1⟩
  refine ⟨hg.os, hg.tape, hg.output, hg.size, hkept, hagree, howned, ⟨fun id blk hl => ?_, hinj, fun b hb => (howned b hb).elim (hVn b) (hk.vis b)⟩⟩
  rcases hent id blk hl with ⟨hne, hl0, hoff, hmen⟩ | h1
  · have h0 := hk.ok id blk hl0
    have e : ι' id = ι id := hagree id hne
    rw [e]
    cases blk with
    | box cs =>
      obtain ⟨b, xs, el, hv, hh, hlen, hr⟩ := h0
      have hb : b < w.heap.size := (Array.getElem?_eq_some_iff.1 hh).1
      refine ⟨b, xs, el, hv, (hg.block b hb fun e' => ?_).trans hh, hlen, fun k h1 h2 =>
        (hr k h1 h2).move (nw := nw) (fun b hb => hkept b hb.1 hb.2.2) hfree hagree fun j hj => SV.menL_get (by have := hmen j hj; simpa [Blk.men] using this) k h2⟩
      exact hoff b e'.symm (by rw [hv]; rfl)
    | tbox T cs =>
      obtain ⟨b, xs, el, hv, hh, hlen, hr⟩ := h0
      have hb : b < w.heap.size := (Array.getElem?_eq_some_iff.1 hh).1
      refine ⟨b, xs, el, hv, (hg.block b hb fun e' => ?_).trans hh, hlen, fun k h1 h2 =>
        (hr k h1 h2).move (nw := nw) (fun b hb => hkept b hb.1 hb.2.2) hfree hagree fun j hj => SV.menL_get (by have := hmen j hj; simpa [Blk.men] using this) k h2⟩
      exact hoff b e'.symm (by rw [hv]; rfl)
    | arr el z α d f l =>
      obtain ⟨xs, ho, hr, hm⟩ := h0
      refine ⟨xs, ho.kept hg ?_, hr.mono (fun b hb => hkept b hb.1 hb.2.2) hfree, hm⟩
      rw [← blkOf_own ho]
      cases hr' : row with
      | none => cases blkOf (ι id) <;> simp
      | some k =>
        right
        intro e'
        exact hoff k hr' e'
    | mp m =>
      obtain ⟨r, es, clock, hv, hh, hm, hr⟩ := h0
      have hb : r < w.heap.size := (Array.getElem?_eq_some_iff.1 hh).1
      refine ⟨r, es, clock, hv, (hg.block r hb fun e' => ?_).trans hh, hm, hr⟩
      exact hoff r e'.symm (by rw [hv]; rfl)
    | mq m =>
      obtain ⟨r, es, hv, hh, hm⟩ := h0
      have hb : r < w.heap.size := (Array.getElem?_eq_some_iff.1 hh).1
      refine ⟨r, es, hv, (hg.block r hb fun e' => ?_).trans hh, hm.mono (fun b hb => hkept b hb.1 hb.2.2) hfree⟩
      exact hoff r e'.symm (by rw [hv]; rfl)
    | yld ps as bd cs =>
      obtain ⟨l, r, xs, hv, hh, h1, h2, h3, h4, h5, h6, hlen, hr⟩ := h0
      have hb : l < w.heap.size := (Array.getElem?_eq_some_iff.1 hh).1
      refine ⟨l, r, xs, hv, (hg.block l hb fun e' => ?_).trans hh, h1, h2, h3, h4, h5, h6, hlen, fun k h1 h2 =>
        (hr k h1 h2).move (nw := nw) (fun b hb => hkept b hb.1 hb.2.2) hfree hagree fun j hj => SV.menL_get (by have := hmen j hj; simpa [Blk.men] using this) k h2⟩
      exact hoff l e'.symm (by rw [hv]; rfl)
  · exact h1

def rename (ι : Nat → Value) (id : Nat) (v : Value) : Nat → Value := fun i => if i = id then v else ι i

/-- A block made anew, under the name id. -/
theorem Step.new {id : Nat} {v : Value} {blk : Blk} (hVn : ∀ b, w.heap.size ≤ b → V b) (hk : HeapOk V ι H w) (hg : w.grownBy w' none) (hm : heapMen id H = false) (hnew : ∀ b, blkOf v = some b → w.heap.size ≤ b)
    (hblk : BlkOk (rename ι id v) w' (Free V (rename ι id v) ((id, blk) :: H) w') v blk) : Step V ι H w (some id) (rename ι id v) ((id, blk) :: H) w' := by
  have hlk : ∀ i b, List.lookup i ((id, blk) :: H) = some b → i = id ∧ b = blk ∨ i ≠ id ∧ List.lookup i H = some b := by
    intro i b h
    rw [List.lookup_cons] at h
    by_cases e : i = id
    · subst e; simp at h; exact .inl ⟨rfl, h.symm⟩
    · rw [beq_eq_false_iff_ne.2 e] at h; exact .inr ⟨e, h⟩
  refine Step.gen hVn hk none hg (by simp) (fun i hi => by unfold rename; rw [if_neg (fun e => hi (by rw [e]))]) ?_ ?_ ?_
  · rintro b ⟨i, bl, hl, hb⟩
    rcases hlk i bl hl with ⟨rfl, rfl⟩ | ⟨hne, hl'⟩
    · left; apply hnew; simpa [rename] using hb
    · right; exact ⟨i, bl, hl', by simpa [rename, hne] using hb⟩
  · intro i bl hl
    rcases hlk i bl hl with ⟨rfl, rfl⟩ | ⟨hne, hl'⟩
    · right
      have : rename ι i v i = v := by simp [rename]
      rw [this]; exact hblk
    · left
      exact ⟨by simpa using fun e => hne e.symm, hl', by simp, fun j hj => by simp only [Option.some.injEq] at hj; subst hj; exact heapMen_get hm hl'⟩
  · intro i i' bl bl' b h1 h2 hb hb'
    rcases hlk i bl h1 with ⟨rfl, rfl⟩ | ⟨hne, h1'⟩ <;> rcases hlk i' bl' h2 with ⟨rfl, rfl⟩ | ⟨hne', h2'⟩
    · rfl
    · exfalso
      have e1 := hnew b (by simpa [rename] using hb)
      have e2 := hk.lt ⟨i', bl', h2', by simpa [rename, hne'] using hb'⟩
      omega
    · exfalso
      have e1 := hnew b (by simpa [rename] using hb')
      have e2 := hk.lt ⟨i, bl, h1', by simpa [rename, hne] using hb⟩
      omega
    · exact hk.inj i i' bl bl' b h1' h2' (by simpa [rename, hne] using hb) (by simpa [rename, hne'] using hb')

/-- An owned block written. -/
theorem Step.upd {id : Nat} {blk0 blk : Blk} (hVn : ∀ b, w.heap.size ≤ b → V b) (hk : HeapOk V ι H w) (hl : List.lookup id H = some blk0) (hg : w.grownBy w' (blkOf (ι id)))
    (hblk : BlkOk ι w' (Free V ι ((id, blk) :: H) w') (ι id) blk) : Step V ι H w none ι ((id, blk) :: H) w' := by
  have hlk : ∀ i b, List.lookup i ((id, blk) :: H) = some b → i = id ∧ b = blk ∨ i ≠ id ∧ List.lookup i H = some b := by
    intro i b h
    rw [List.lookup_cons] at h
    by_cases e : i = id
    · subst e; simp at h; exact .inl ⟨rfl, h.symm⟩
    · rw [beq_eq_false_iff_ne.2 e] at h; exact .inr ⟨e, h⟩
  have hlk' : ∀ i b, List.lookup i ((id, blk) :: H) = some b → ∃ b', List.lookup i H = some b' := by
    intro i b h
    rcases hlk i b h with ⟨rfl, rfl⟩ | ⟨_, h'⟩
    · exact ⟨_, hl⟩
    · exact ⟨_, h'⟩
  refine Step.gen hVn hk (blkOf (ι id)) hg (fun k e => ⟨id, blk0, hl, e⟩) (fun _ _ => rfl) ?_ ?_ ?_
  · rintro b ⟨i, bl, h, hb⟩
    obtain ⟨b', h'⟩ := hlk' i bl h
    exact .inr ⟨i, b', h', hb⟩
  · intro i bl h
    rcases hlk i bl h with ⟨rfl, rfl⟩ | ⟨hne, h'⟩
    · exact .inr hblk
    · refine .inl ⟨by simp, h', fun k hk' e => hne (hk.inj i id bl blk0 k h' hl e hk'), by simp⟩
  · intro i i' bl bl' b h1 h2 hb hb'
    obtain ⟨c, h1'⟩ := hlk' i bl h1
    obtain ⟨c', h2'⟩ := hlk' i' bl' h2
    exact hk.inj i i' c c' b h1' h2' hb hb'

/-- An owned block given up, and written to perhaps; under the name id' something else may be owned that lies there, or in a new block. -/
theorem Step.repl {id id' : Nat} {blk0 blk : Blk} {v : Value} (hVn : ∀ b, w.heap.size ≤ b → V b) (hk : HeapOk V ι H w) (hl : List.lookup id H = some blk0) (hg : w.grownBy w' (blkOf (ι id))) (hm : heapMen id' H = false)
    (hv : ∀ b, blkOf v = some b → w.heap.size ≤ b ∨ blkOf (ι id) = some b)
    (hblk : BlkOk (rename ι id' v) w' (Free V (rename ι id' v) ((id', blk) :: hdrop id H) w') v blk) : Step V ι H w (some id') (rename ι id' v) ((id', blk) :: hdrop id H) w' := by
  have hlk : ∀ i b, List.lookup i ((id', blk) :: hdrop id H) = some b → i = id' ∧ b = blk ∨ i ≠ id' ∧ i ≠ id ∧ List.lookup i H = some b := by
    intro i b h
    rw [List.lookup_cons] at h
    by_cases e : i = id'
    · subst e; simp at h; exact .inl ⟨rfl, h.symm⟩
    · rw [beq_eq_false_iff_ne.2 e] at h
      simp only [lookup_hdrop] at h
      split at h
      · simp at h
      · rename_i e2; exact .inr ⟨e, e2, h⟩
  refine Step.gen hVn hk (blkOf (ι id)) hg (fun k e => ⟨id, blk0, hl, e⟩) (fun i hi => by unfold rename; rw [if_neg (fun e => hi (by rw [e]))]) ?_ ?_ ?_
  · rintro b ⟨i, bl, h, hb⟩
    rcases hlk i bl h with ⟨rfl, rfl⟩ | ⟨hne, _, h'⟩
    · rcases hv b (by simpa [rename] using hb) with h1 | h1
      · exact .inl h1
      · exact .inr ⟨id, blk0, hl, h1⟩
    · exact .inr ⟨i, bl, h', by simpa [rename, hne] using hb⟩
  · intro i bl h
    rcases hlk i bl h with ⟨rfl, rfl⟩ | ⟨hne, hne2, h'⟩
    · right
      have : rename ι i v i = v := by simp [rename]
      rw [this]; exact hblk
    · left
      exact ⟨by simpa using fun e => hne e.symm, h', fun k hk' e => hne2 (hk.inj i id bl blk0 k h' hl e hk'), fun j hj => by simp only [Option.some.injEq] at hj; subst hj; exact heapMen_get hm h'⟩
  · intro i i' bl bl' b h1 h2 hb hb'
    rcases hlk i bl h1 with ⟨rfl, rfl⟩ | ⟨hne, hne2, h1'⟩ <;> rcases hlk i' bl' h2 with ⟨rfl, rfl⟩ | ⟨hne', hne2', h2'⟩
    · rfl
    · exfalso
      have hb2 : blkOf (ι i') = some b := by simpa [rename, hne'] using hb'
      rcases hv b (by simpa [rename] using hb) with h3 | h3
      · have := hk.lt ⟨i', bl', h2', hb2⟩; omega
      · exact hne2' (hk.inj i' id bl' blk0 b h2' hl hb2 h3)
    · exfalso
      have hb2 : blkOf (ι i) = some b := by simpa [rename, hne] using hb
      rcases hv b (by simpa [rename] using hb') with h3 | h3
      · have := hk.lt ⟨i, bl, h1', hb2⟩; omega
      · exact hne2 (hk.inj i id bl blk0 b h1' hl hb2 h3)
    · exact hk.inj i i' bl bl' b h1' h2' (by simpa [rename, hne] using hb) (by simpa [rename, hne'] using hb')

/-- An owned block given up (and written to perhaps). -/
theorem Step.drop {id : Nat} {blk0 : Blk} (hVn : ∀ b, w.heap.size ≤ b → V b) (hk : HeapOk V ι H w) (hl : List.lookup id H = some blk0) (hg : w.grownBy w' (blkOf (ι id))) : Step V ι H w none ι (hdrop id H) w' := by
  have hlk : ∀ i b, List.lookup i (hdrop id H) = some b → i ≠ id ∧ List.lookup i H = some b := by
    intro i b h
    simp only [lookup_hdrop] at h
    split at h
    · simp at h
    · rename_i e2; exact ⟨e2, h⟩
  refine Step.gen hVn hk (blkOf (ι id)) hg (fun k e => ⟨id, blk0, hl, e⟩) (fun _ _ => rfl) ?_ ?_ ?_
  · rintro b ⟨i, bl, h, hb⟩
    exact .inr ⟨i, bl, (hlk i bl h).2, hb⟩
  · intro i bl h
    obtain ⟨hne, h'⟩ := hlk i bl h
    exact .inl ⟨by simp, h', fun k hk' e => hne (hk.inj i id bl blk0 k h' hl e hk'), by simp⟩
  · intro i i' bl bl' b h1 h2 hb hb'
    exact hk.inj i i' bl bl' b (hlk i bl h1).2 (hlk i' bl' h2).2 hb hb'
end
end Go.Abs
