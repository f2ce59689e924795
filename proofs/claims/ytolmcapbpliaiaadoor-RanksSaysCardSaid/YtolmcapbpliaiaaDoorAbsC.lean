/- Calls that are lent what is owned; owned slices given up, renamed, begun. Conditions: each law names its own. -/
import Derived.Test.YtolmcapbpliaiaaDoorAbsB
namespace Go.Abs
set_option linter.unusedVariables false
variable {B : BT}

mutual
def PV.flat : PV → Bool
  | .int _ _ | .bool _ | .str _ => true
  | .agg cs | .tup cs => PV.flatL cs
  | _ => false
def PV.flatL : List PV → Bool
  | [] => true
  | p :: r => p.flat && PV.flatL r
end

theorem PV.flatL_get : ∀ {l : List PV}, PV.flatL l = true → ∀ (k : Nat) (h : k < l.length), (l[k]).flat = true
  | [], _, k, h => absurd h (by simp)
  | p :: r, hf, k, h => by
    simp only [PV.flatL, Bool.and_eq_true] at hf
    cases k with
    | zero => exact hf.1
    | succ k => exact PV.flatL_get hf.2 k (by simpa using h)

/-- What bears no memory stands whatever becomes of memory. -/
theorem Rep.flat {w w' : World} {F F' : Nat → Prop} {v : Value} {p : PV} (h : Rep w F v p) (hf : p.flat = true) : Rep w' F' v p := by
  induction h with
  | int k n h => exact .int k n h
  | bool b => exact .bool b
  | str s h => exact .str s h
  | agg xs cs hl hr ih => exact .agg xs cs hl fun k h1 h2 => ih k h1 h2 (PV.flatL_get (by simpa [PV.flat] using hf) k h2)
  | tup xs cs hl hr ih => exact .tup xs cs hl fun k h1 h2 => ih k h1 h2 (PV.flatL_get (by simpa [PV.flat] using hf) k h2)
  | _ => simp [PV.flat] at hf

def Views (ev : Operand → SV → Prop) (H : Heap) : List Operand → List PV → Prop
  | [], [] => True
  | x :: r, p :: q => (∃ s, ev x s ∧ viewS H s = some p) ∧ Views ev H r q
  | _, _ => False

theorem Views.rep {ev : Operand → SV → Prop} {V : Nat → Prop} {ι : Nat → Value} {H : Heap} {w : World} {a : Act} (hk : HeapOk V ι H w) : ∀ {r : List Operand} {q : List PV}, Views ev H r q →
    (∀ x, x ∈ r → ∀ s, ev x s → RepS ι w (Free V ι H w) (a.eval x) s) → RepL w (Vis V w) (r.map a.eval) q
  | [], [], _, _ => .nil
  | x :: r, p :: q, h, hr => by
    obtain ⟨⟨s, h1, h2⟩, h3⟩ := h
    exact .cons (viewS_rep hk (hr x List.mem_cons_self s h1) h2) (Views.rep hk h3 fun y hy => hr y (List.mem_cons_of_mem _ hy))
  | [], _ :: _, h, _ => h.elim
  | _ :: _, [], h, _ => h.elim

section ops
variable {P : Program} {ev : Operand → SV → Prop} {H : Heap} {dst : Option Nat} {ty : TypeId} {pos : String} {after : Array Edge} {g : Option (Nat × Bool)}

theorem call_run {K : FuncId} {ts : Array TypeId} {args : Array Operand} {vals : List PV} {v : PV} (hcall : ∀ vs w, (callFunc K vs).run P w = .ok (.enter K vs) w) (hv : Views ev H args.toList vals) (hf : FC P K vals v)
    {V : Nat → Prop} {ι : Nat → Value} {w : World} {a : Act} {Q : Exit → Act → World → Prop} {Kp : Act → World → Prop} (hk : HeapOk V ι H w)
    (hr : ∀ x, x ∈ (⟨dst, .call ⟨.value (.func K), args, ts⟩, ty, pos, after, g⟩ : Oper).op.operands → ∀ s, ev x s → RepS ι w (Free V ι H w) (a.eval x) s)
    (hK : ∀ rv w', Rep w' (fun b => Vis V w b ∨ (w.heap.size ≤ b ∧ b < w'.heap.size)) rv v → w'.os = w.os → w'.tape = w.tape → w'.output = w.output → w.heap.size ≤ w'.heap.size → (∀ b, b < w.heap.size → w'.heap[b]? = w.heap[b]?) →
      Kp (a.put dst rv) w') : (⟨dst, .call ⟨.value (.func K), args, ts⟩, ty, pos, after, g⟩ : Oper).wp P a w Kp Q := by
  have hrep : RepL w (Vis V w) (args.map a.eval).toList vals := by
    rw [Array.toList_map]
    exact hv.rep hk fun x hx => hr x (by simp only [Op.operands, Call.operands, Array.mem_append]; exact .inr (Array.mem_toList_iff.1 hx))
  have hc := hf w (args.map a.eval).toList (Vis V w) (fun b hb => hb.1) hrep
  rw [Array.toArray_toList] at hc
  unfold Oper.wp
  have hrun : (execOp a.eval ⟨dst, .call ⟨.value (.func K), args, ts⟩, ty, pos, after, g⟩).run P w = .ok (.enter K (args.map a.eval)) w := by
    simp [execOp, resolve, Deferred.ofValue, Act.eval, invoke, hcall]
  rw [hrun, Oper.upon_enter]
  refine Calls.mono hc ?_
  rintro e w' ⟨rv, rfl, hrv, hos, htape, hout, hsize, hall⟩
  exact hK rv w' hrv hos htape hout hsize hall

/-- A call that is lent owned slices, and hands back what bears no memory. -/
theorem op_callL {K : FuncId} {ts : Array TypeId} {args : Array Operand} {vals : List PV} {v : PV} (hcall : ∀ vs w, (callFunc K vs).run P w = .ok (.enter K vs) w) (hv : Views ev H args.toList vals) (hf : FC P K vals v) (hfl : v.flat = true) :
    OpT P ⟨dst, .call ⟨.value (.func K), args, ts⟩, ty, pos, after, g⟩ ev H (.pv v) H none := by
  intro V ι w a Q hV hk hr
  refine call_run hcall hv hf hk hr fun rv w' hrv hos htape hout hsize hall => ?_
  exact ⟨ι, rv, rfl, Step.same hk hos htape hout hsize hall, .pv _ _ (hrv.flat hfl)⟩

/-- A call that is given an owned slice: it is read alone from then on. -/
theorem op_callG {K : FuncId} {ts : Array TypeId} {args : Array Operand} {vals : List PV} {v : PV} (hcall : ∀ vs w, (callFunc K vs).run P w = .ok (.enter K vs) w) (hv : Views ev H args.toList vals) (hf : FC P K vals v) :
    OpT P ⟨dst, .call ⟨.value (.func K), args, ts⟩, ty, pos, after, g⟩ ev H (.pv v) [] none := by
  intro V ι w a Q hV hk hr
  refine call_run hcall hv hf hk hr fun rv w' hrv hos htape hout hsize hall => ?_
  have hst := (Step.same (V := V) hk hos htape hout hsize hall).sub (H2 := []) fun i b hi => by simp at hi
  refine ⟨ι, rv, rfl, hst, .pv _ _ (hrv.mono (fun _ _ => rfl) ?_)⟩
  rintro b (hb | ⟨h1, h2⟩)
  · exact ⟨Nat.lt_of_lt_of_le hb.1 hsize, hb.2, fun ⟨i, bl, hi, _⟩ => by simp at hi⟩
  · exact ⟨h2, hV b h1, fun ⟨i, bl, hi, _⟩ => by simp at hi⟩
end ops

/-! ### Between two regions -/

theorem Sim.put {w0 : World} {O V : Nat → Prop} {n : Nat} {ι : Nat → Value} {env : Env} {H : Heap} {a : Act} {w : World} (hs : Sim B w0 O V n ι (lk env) H a w) {t : Nat} {s : SV} (h : RepS ι w (Free V ι H w) (a.tmps.getD t undef) s) :
    Sim B w0 O V n ι (lk ((t, s) :: env)) H a w :=
  ⟨hs.os, hs.tape, hs.output, hs.size, hs.kept, hs.mine, hs.heap, fun u s' hu => by
    simp only [lk, List.lookup_cons] at hu
    by_cases e : u = t
    · subst e; simp at hu; subst hu; exact h
    · rw [beq_eq_false_iff_ne.2 e] at hu; exact hs.env u s' hu, hs.tmps, hs.marks, hs.new⟩

/-- The slice in slot t is given up: read alone from then on. -/
theorem Ent.give {env : Env} {H : Heap} (t : Nat) {id e z : Nat} {α : Type} {d : α} {f : α → List PV} {l : List α} (ht : lk env t = some (.own id)) (hl : List.lookup id H = some (.arr e z α d f l)) :
    Ent ⟨env, H⟩ ⟨(t, .pv (.seq α d f l)) :: env, hdrop id H⟩ := by
  intro B w0 O V n ι a w hs
  refine ⟨ι, (hs.sub fun i b hi => lookup_hdrop_sub hi).put (.pv _ _ ?_)⟩
  have h0 := hs.env t _ ht
  have hb := hs.heap.ok id _ hl
  generalize a.tmps.getD t undef = v at *
  cases h0
  refine rep_of_arr hb (fun b hb => hb.of_sub fun i b hi => lookup_hdrop_sub hi) fun b hb0 => ?_
  have hb1 : blkOf (ι id) = some b := by
    obtain ⟨xs, ho, _⟩ := hb
    rw [blkOf_own ho]; exact hb0
  refine ⟨hs.heap.lt ⟨id, _, hl, hb1⟩, hs.heap.vis b ⟨id, _, hl, hb1⟩, ?_⟩
  rintro ⟨i, bl, hi, hb'⟩
  simp only [lookup_hdrop] at hi
  split at hi
  · simp at hi
  · rename_i hne
    exact hne (hs.heap.inj i id bl _ b hi hl hb' hb1)

/-- The nil slice in slot t as the beginning of an owned one. -/
theorem Ent.begin {env : Env} {H : Heap} (t id e z : Nat) (α : Type) (d : α) (f : α → List PV) (ht : lk env t = some (.pv .nil)) (hf : freshIn (some id) env = true) (hm : heapMen id H = false) :
    Ent ⟨env, H⟩ ⟨(t, .own id) :: env, (id, .arr e z α d f []) :: H⟩ := by
  intro B w0 O V n ι a w hs
  have hv := (hs.env t _ ht).pv_inv
  have hv' : a.tmps.getD t undef = .slice none 0 0 := by
    generalize a.tmps.getD t undef = v at *
    cases hv; rfl
  have hst : Step V ι H w (some id) (rename ι id (.slice none 0 0)) ((id, .arr e z α d f []) :: H) w := by
    refine Step.new hs.new hs.heap (grownBy_refl w none) hm (by simp [blkOf]) ?_
    exact ⟨[], World.ownsRow_nil w 0 e z, .nil, by simp⟩
  refine ⟨_, (hs.step hst (freshIn_spec hf)).put ?_⟩
  rw [hv']
  exact RepS.ownNew id _

mutual
def SV.ren (i j : Nat) : SV → SV
  | .pv p => .pv p
  | .own k => .own (if k = i then j else k)
  | .elt k z a b => .elt (if k = i then j else k) z a b
  | .ref k o => .ref (if k = i then j else k) o
  | .sl k n => .sl (if k = i then j else k) n
  | .map k => .map (if k = i then j else k)
  | .clo fn cs => .clo fn (SV.renL i j cs)
  | .aggS cs => .aggS (SV.renL i j cs)
  | .ownV k v => .ownV (if k = i then j else k) v
  | .pin k v => .pin (if k = i then j else k) v
  | .nilOr k => .nilOr (if k = i then j else k)
  | .opt g v => .opt g (v.ren i j)
  | .nn p => .nn p
def SV.renL (i j : Nat) : List SV → List SV
  | [] => []
  | s :: r => s.ren i j :: SV.renL i j r
end

theorem SV.renL_map (i j : Nat) : ∀ l : List SV, SV.renL i j l = l.map (SV.ren i j)
  | [] => rfl
  | s :: r => by simp [SV.renL, SV.renL_map i j r]

def Blk.ren (i j : Nat) : Blk → Blk
  | .box cs => .box (SV.renL i j cs)
  | .tbox T cs => .tbox T (SV.renL i j cs)
  | .yld ps as bd cs => .yld ps as bd (SV.renL i j cs)
  | b => b

def renE (i j : Nat) (env : Env) : Env := env.map fun p => (p.1, p.2.ren i j)
def renH (i j : Nat) (H : Heap) : Heap := H.map fun p => (if p.1 = i then j else p.1, p.2.ren i j)

theorem RepS.ren {ι ι' : Nat → Value} {w : World} {F F' : Nat → Prop} {v : Value} {s : SV} {i j : Nat} (h : RepS ι w F v s) (hF : ∀ b, F b → F' b) (hι : ∀ k, s.men j = false → ι' (if k = i then j else k) = ι k ∨ k = j) (hm : s.men j = false) :
    RepS ι' w F' v (s.ren i j) := by
  have key : ∀ k, k ≠ j → ι' (if k = i then j else k) = ι k := fun k hk => (hι k hm).resolve_right hk
  clear hι
  induction h with
  | pv v p h => exact .pv v p (h.mono (fun _ _ => rfl) hF)
  | own id =>
    have e := key id (by simpa [SV.men] using hm)
    rw [← e]; exact .own _
  | elt id z a b bb n c h =>
    have e := key id (by simpa [SV.men] using hm)
    exact .elt _ z a b bb n c (e.trans h)
  | ref id off b h =>
    have e := key id (by simpa [SV.men] using hm)
    exact .ref _ off b (e.trans h)
  | sl id n b h =>
    have e := key id (by simpa [SV.men] using hm)
    exact .sl _ n b (e.trans h)
  | map id =>
    have e := key id (by simpa [SV.men] using hm)
    rw [← e]; exact .map _
  | clo fn xs cs hl hr ih =>
    simp only [SV.ren]
    rw [SV.renL_map]
    refine .clo fn xs _ (by simp [hl]) fun k h1 h2 => ?_
    rw [List.getElem_map]
    exact ih k h1 (by simpa using h2) (SV.menL_get (by simpa [SV.men] using hm) k (by simpa using h2))
  | ownV id v h =>
    have e := key id (by simpa [SV.men] using hm)
    exact .ownV _ v (e.trans h)
  | pin u id v h =>
    have e := key id (by simpa [SV.men] using hm)
    exact .pin u _ v (e.trans h)
  | nilOr v id h =>
    have e := key id (by simpa [SV.men] using hm)
    exact .nilOr v _ (e.symm ▸ h)
  | aggS xs cs hl hr ih =>
    simp only [SV.ren]
    rw [SV.renL_map]
    refine .aggS xs _ (by simp [hl]) fun k h1 h2 => ?_
    rw [List.getElem_map]
    exact ih k h1 (by simpa using h2) (SV.menL_get (by simpa [SV.men] using hm) k (by simpa using h2))
  | opt v g s ht hf ih => exact .opt v g _ (fun hg => ih hg (by simpa [SV.men] using hm)) hf
  | nn v p h hs => exact .nn v p (h.mono (fun _ _ => rfl) hF) hs

theorem lookup_renE (i j t : Nat) : ∀ env : Env, lk (renE i j env) t = (lk env t).map (SV.ren i j)
  | [] => rfl
  | (u, s) :: r => by
    simp only [renE, lk, List.map_cons, List.lookup_cons]
    by_cases e : t = u
    · subst e; simp
    · rw [beq_eq_false_iff_ne.2 e]; exact lookup_renE i j t r

/-- Names: an entry's keys are these. -/
theorem lookup_renH {i j : Nat} : ∀ {H : Heap}, (∀ p, p ∈ H → p.1 ≠ j) → ∀ k blk, List.lookup k (renH i j H) = some blk → ∃ k0 b0, List.lookup k0 H = some b0 ∧ k = (if k0 = i then j else k0) ∧ blk = b0.ren i j
  | [], _, k, blk, h => by simp [renH] at h
  | (u, b) :: r, hj, k, blk, h => by
    simp only [renH, List.map_cons, List.lookup_cons] at h
    have huj : u ≠ j := hj (u, b) List.mem_cons_self
    by_cases e : k = (if u = i then j else u)
    · rw [e] at h
      simp at h
      exact ⟨u, b, by simp, e, h.symm⟩
    · rw [beq_eq_false_iff_ne.2 e] at h
      obtain ⟨k0, b0, h1, h2, h3⟩ := lookup_renH (fun p hp => hj p (List.mem_cons_of_mem _ hp)) k blk h
      refine ⟨k0, b0, ?_, h2, h3⟩
      rw [List.lookup_cons]
      by_cases e2 : k0 = u
      · subst e2; exact absurd h2 e
      · rw [beq_eq_false_iff_ne.2 e2]; exact h1

/-- An owned block under another name. -/
theorem Ent.ren {env : Env} {H : Heap} (i j : Nat) (hf : freshIn (some j) env = true) (hm : heapMen j H = false) (hkey : (H.all fun p => !(p.1 == j)) = true) : Ent ⟨env, H⟩ ⟨renE i j env, renH i j H⟩ := by
  intro B w0 O V n ι a w hs
  have hj : ∀ p, p ∈ H → p.1 ≠ j := fun p hp => by simpa using List.all_eq_true.1 hkey p hp
  let ι' : Nat → Value := fun k => if k = j then ι i else ι k
  have hι : ∀ k, k ≠ j → ι' (if k = i then j else k) = ι k := by
    intro k hk
    by_cases e : k = i
    · simp [ι', e]
    · simp [ι', e, hk]
  have hown : ∀ b, Owned ι' (renH i j H) b → Owned ι H b := by
    rintro b ⟨k, blk, hl, hb⟩
    obtain ⟨k0, b0, h1, rfl, rfl⟩ := lookup_renH hj k blk hl
    have hk0 : k0 ≠ j := hj _ (mem_of_lookup' h1)
    rw [hι k0 hk0] at hb
    exact ⟨k0, b0, h1, hb⟩
  have hfree : ∀ b, Free V ι H w b → Free V ι' (renH i j H) w b := fun b hb => ⟨hb.1, hb.2.1, fun ho => hb.2.2 (hown b ho)⟩
  have hrep : ∀ {v s}, RepS ι w (Free V ι H w) v s → s.men j = false → RepS ι' w (Free V ι' (renH i j H) w) v (s.ren i j) := fun h hm => h.ren hfree (fun k _ => by by_cases e : k = j; exact .inr e; exact .inl (hι k e)) hm
  refine ⟨ι', hs.os, hs.tape, hs.output, hs.size, hs.kept, fun b hb => hs.mine b (hown b hb), ⟨?_, ?_, fun b hb => hs.heap.vis b (hown b hb)⟩, ?_, hs.tmps, hs.marks, hs.new⟩
  · intro k blk hl
    obtain ⟨k0, b0, h1, rfl, rfl⟩ := lookup_renH hj k blk hl
    have hk0 : k0 ≠ j := hj _ (mem_of_lookup' h1)
    rw [hι k0 hk0]
    have h0 := hs.heap.ok k0 b0 h1
    have hmen := heapMen_get hm h1
    cases b0 with
    | box cs =>
      obtain ⟨b, xs, e, hv, hh, hlen, hr⟩ := h0
      refine ⟨b, xs, e, hv, hh, by rw [SV.renL_map]; simp [hlen], fun k a b => ?_⟩
      have b' : k < cs.length := by rw [SV.renL_map] at b; simpa using b
      have := hrep (hr k a b') (SV.menL_get (by simpa [Blk.men] using hmen) k b')
      simpa [SV.renL_map] using this
    | tbox T cs =>
      obtain ⟨b, xs, e, hv, hh, hlen, hr⟩ := h0
      refine ⟨b, xs, e, hv, hh, by rw [SV.renL_map]; simp [hlen], fun k a b => ?_⟩
      have b' : k < cs.length := by rw [SV.renL_map] at b; simpa using b
      have := hrep (hr k a b') (SV.menL_get (by simpa [Blk.men] using hmen) k b')
      simpa [SV.renL_map] using this
    | arr e z α d f l =>
      obtain ⟨xs, ho, hr, hm'⟩ := h0
      exact ⟨xs, ho, hr.mono (fun _ _ => rfl) hfree, hm'⟩
    | mp m =>
      exact h0
    | mq m =>
      obtain ⟨r, es, hv, hh, hm'⟩ := h0
      exact ⟨r, es, hv, hh, hm'.mono (fun _ _ => rfl) hfree⟩
    | yld ps as bd cs =>
      obtain ⟨l, r, xs, hv, hh, g1, g2, g3, g4, g5, g6, hlen, hr⟩ := h0
      refine ⟨l, r, xs, hv, hh, g1, g2, g3, g4, g5, g6, by rw [SV.renL_map]; simp [hlen], fun k a b => ?_⟩
      have b' : k < cs.length := by rw [SV.renL_map] at b; simpa using b
      have := hrep (hr k a b') (SV.menL_get (by simpa [Blk.men] using hmen) k b')
      simpa [SV.renL_map] using this
  · intro k k' blk blk' b h1 h2 hb hb'
    obtain ⟨k0, b0, g1, rfl, rfl⟩ := lookup_renH hj k blk h1
    obtain ⟨k1, b1, g2, rfl, rfl⟩ := lookup_renH hj k' blk' h2
    rw [hι k0 (hj _ (mem_of_lookup' g1))] at hb
    rw [hι k1 (hj _ (mem_of_lookup' g2))] at hb'
    rw [hs.heap.inj k0 k1 b0 b1 b g1 g2 hb hb']
  · intro t s ht
    rw [lookup_renE] at ht
    obtain ⟨s0, h0, rfl⟩ := Option.map_eq_some_iff.1 ht
    exact hrep (hs.env t s0 h0) (freshIn_spec hf j rfl t s0 h0)

/-- Back to a loop's head: what is kept, one owned block under its name there. -/
theorem Ent.round {st st' : St} (i j : Nat) (h1 : KeptE st.env (renE j i st'.env)) (h2 : KeptH st.H (renH j i st'.H)) (hf : freshIn (some j) (renE j i st'.env) = true) (hm : heapMen j (renH j i st'.H) = false)
    (hkey : ((renH j i st'.H).all fun p => !(p.1 == j)) = true) (h3 : KeptE (renE i j (renE j i st'.env)) st'.env) (h4 : KeptH (renH i j (renH j i st'.H)) st'.H) : Ent st st' :=
  Ent.trans (Ent.kept (st' := ⟨renE j i st'.env, renH j i st'.H⟩) h1 h2) (Ent.trans (Ent.ren i j hf hm hkey) (Ent.kept h3 h4))
end Go.Abs
