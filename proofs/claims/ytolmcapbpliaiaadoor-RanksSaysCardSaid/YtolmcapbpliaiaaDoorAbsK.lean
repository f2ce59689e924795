/- Contracts of functions that are handed owned blocks, as many as they like: read, written, handed back; closures that hold such. Conditions: each law names its own. -/
import Derived.Test.YtolmcapbpliaiaaDoorAbsI
namespace Go.Abs
set_option linter.unusedVariables false

section ops
variable {P : Program} {ev : Operand → SV → Prop} {H : Heap} {dst : Option Nat} {ty : TypeId} {pos : String} {after : Array Edge} {g : Option (Nat × Bool)}

theorem PV.Fit.str_len {s : ByteArray} (h : PV.Fit (.str s)) : s.size ≤ 281474976710656 := by cases h; assumption

theorem bytes_beq_dec (a b : ByteArray) : (a == b) = decide (a = b) := by
  rw [Bool.eq_iff_iff]; simp [MapKept.bytes_beq]

theorem bytes_list_beq (a b : ByteArray) : (a.toList == b.toList) = decide (a = b) := by
  rw [Bool.eq_iff_iff]
  simp only [beq_iff_eq, decide_eq_true_eq]
  refine ⟨fun h => ?_, fun h => by rw [h]⟩
  have h2 : a.data.toList = b.data.toList := by simpa [ByteArray.toList_eq] using h
  cases a; cases b
  simp only [ByteArray.mk.injEq]
  exact Array.toList_inj.1 h2
theorem run_eql_string {P : Program} (w : World) (t : TypeId) (a b : ByteArray) (h : P.underlying t = some .string) : (Go.binOp .eql t (.string a) (.string b)).run P w = .ok (.bool (decide (a = b))) w := by
  have := bytes_list_beq a b
  simp [Go.binOp, Op.equal, Op.equalIn, run_underlying h, Op.maxDepth, Op.stringOp, this]
theorem run_neq_string {P : Program} (w : World) (t : TypeId) (a b : ByteArray) (h : P.underlying t = some .string) : (Go.binOp .neq t (.string a) (.string b)).run P w = .ok (.bool (!decide (a = b))) w := by
  have := bytes_list_beq a b
  simp [Go.binOp, Op.equal, Op.equalIn, run_underlying h, Op.maxDepth, Op.stringOp, this]

theorem op_str_eql {t yt : TypeId} {x y : Operand} {a b : ByteArray} (ht : P.underlying t = some .string) (hx : ev x (.pv (.str a))) (hy : ev y (.pv (.str b))) :
    OpT P ⟨dst, .binOp .eql t x y yt, ty, pos, after, g⟩ ev H (.bool (decide (a = b))) H none :=
  OpT.value fun V ι w A hk hr => by
    have h1 := (hr x (by simp [Op.operands]) _ hx).pv_inv.str_inv
    have h2 := (hr y (by simp [Op.operands]) _ hy).pv_inv.str_inv
    exact ⟨.bool (decide (a = b)), by simp [execOp, h1, h2, eqGuard_at_string, run_eql_string w t a b ht], .pv _ _ (.bool _)⟩
theorem op_str_neq {t yt : TypeId} {x y : Operand} {a b : ByteArray} (ht : P.underlying t = some .string) (hx : ev x (.pv (.str a))) (hy : ev y (.pv (.str b))) :
    OpT P ⟨dst, .binOp .neq t x y yt, ty, pos, after, g⟩ ev H (.bool (!decide (a = b))) H none :=
  OpT.value fun V ι w A hk hr => by
    have h1 := (hr x (by simp [Op.operands]) _ hx).pv_inv.str_inv
    have h2 := (hr y (by simp [Op.operands]) _ hy).pv_inv.str_inv
    exact ⟨.bool (!decide (a = b)), by simp [execOp, h1, h2, eqGuard_at_string, run_neq_string w t a b ht], .pv _ _ (.bool _)⟩

theorem op_lenS {t : TypeId} {x : Operand} {s : ByteArray} (ht : P.underlying t = some .string) (hx : ev x (.pv (.str s))) :
    OpT P ⟨dst, .call ⟨.builtin .len, #[x], #[t]⟩, ty, pos, after, g⟩ ev H (.int (s.size : Nat)) H none :=
  OpT.value fun V ι w A hk hr => by
    have h0 := (hr x (by simp [Op.operands, Call.operands]) _ hx).pv_inv
    have h1 := h0.str_inv
    have h2 := h0.fit.str_len
    refine ⟨.int .i64 (s.size : Nat), ?_, .pv _ _ (.int _ _ (inK_i64.2 (by unfold InR; omega)))⟩
    simp [execOp, resolve, invoke, builtin, h1, Builtin.len_, run_underlying ht, goInt]

def byteAt (s : ByteArray) (n : Nat) : Int := ((s.data.toList.getD n 0).toNat : Nat)

theorem op_indexS {t : TypeId} {x i : Operand} {s : ByteArray} {k : IntKind} {n : Int} (ht : P.underlying t = some .string) (hx : ev x (.pv (.str s))) (hi : ev i (.pv (.int k n))) (h : 0 ≤ n ∧ n < (s.size : Nat)) :
    OpT P ⟨dst, .index t x i, ty, pos, after, g⟩ ev H (.pv (.int .u8 (byteAt s n.toNat))) H none :=
  OpT.value fun V ι w A hk hr => by
    have h1 := (hr x (by simp [Op.operands]) _ hx).pv_inv.str_inv
    have h2 := (hr i (by simp [Op.operands]) _ hi).pv_inv.int_inv
    have hlt : n.toNat < s.size := by omega
    have hget : s[n.toNat]? = some (s.data.toList.getD n.toNat 0) := by
      have hlt2 : n.toNat < s.data.toList.length := by simpa using hlt
      rw [getElem?_pos s n.toNat hlt, List.getD_eq_getElem?_getD, List.getElem?_eq_getElem hlt2]
      rfl
    have hb : byteAt s n.toNat < 256 := by
      unfold byteAt
      have := (s.data.toList.getD n.toNat 0).toNat_lt
      omega
    refine ⟨.int .u8 (byteAt s n.toNat), ?_, .pv _ _ (.int _ _ ?_)⟩
    · simp [execOp, h1, h2, Instr.index, run_underlying ht, asIntOf, h.1, hget, byteAt]
    · refine ⟨?_, ?_⟩
      · simp [IntKind.min, IntKind.signed, byteAt]
      · simp only [IntKind.max, IntKind.signed, IntKind.bits]; simp; omega
end ops
end Go.Abs

namespace Go.Abs
set_option linter.unusedVariables false
variable {B : BT}

/-! ### Names turned -/

mutual
def SV.mapI (ρ : Nat → Nat) : SV → SV
  | .pv p => .pv p
  | .own k => .own (ρ k)
  | .elt k z a b => .elt (ρ k) z a b
  | .ref k o => .ref (ρ k) o
  | .sl k n => .sl (ρ k) n
  | .map k => .map (ρ k)
  | .clo fn cs => .clo fn (SV.mapIL ρ cs)
  | .opt g v => .opt g (v.mapI ρ)
  | .nn p => .nn p
  | .aggS cs => .aggS (SV.mapIL ρ cs)
  | .ownV k v => .ownV (ρ k) v
  | .pin k v => .pin (ρ k) v
  | .nilOr k => .nilOr (ρ k)
def SV.mapIL (ρ : Nat → Nat) : List SV → List SV
  | [] => []
  | s :: r => s.mapI ρ :: SV.mapIL ρ r
end

theorem SV.mapIL_map (ρ : Nat → Nat) : ∀ l : List SV, SV.mapIL ρ l = l.map (SV.mapI ρ)
  | [] => rfl
  | s :: r => by simp [SV.mapIL, SV.mapIL_map ρ r]

def Blk.mapI (ρ : Nat → Nat) : Blk → Blk
  | .box cs => .box (SV.mapIL ρ cs)
  | .tbox T cs => .tbox T (SV.mapIL ρ cs)
  | .yld ps as bd cs => .yld ps as bd (SV.mapIL ρ cs)
  | b => b

def mapH (ρ : Nat → Nat) (H : Heap) : Heap := H.map fun p => (ρ p.1, p.2.mapI ρ)

mutual
/-- All names in it are of these. -/
def SV.closed (ks : List Nat) : SV → Bool
  | .pv _ | .nn _ => true
  | .own k | .elt k _ _ _ | .ref k _ | .sl k _ | .map k | .ownV k _ | .pin k _ | .nilOr k => ks.contains k
  | .clo _ cs | .aggS cs => SV.closedL ks cs
  | .opt _ v => v.closed ks
def SV.closedL (ks : List Nat) : List SV → Bool
  | [] => true
  | s :: r => s.closed ks && SV.closedL ks r
end

theorem SV.closedL_get {ks : List Nat} : ∀ {l : List SV}, SV.closedL ks l = true → ∀ (k : Nat) (h : k < l.length), (l[k]).closed ks = true
  | [], _, k, h => absurd h (by simp)
  | s :: r, hm, k, h => by
    simp only [SV.closedL, Bool.and_eq_true] at hm
    cases k with
    | zero => exact hm.1
    | succ k => exact SV.closedL_get hm.2 k (by simpa using h)

def Blk.closed (ks : List Nat) : Blk → Bool
  | .box cs => SV.closedL ks cs
  | .tbox T cs => SV.closedL ks cs
  | .yld _ _ _ cs => SV.closedL ks cs
  | _ => true

theorem RepS.mapI {ι ι' : Nat → Value} {w : World} {F F' : Nat → Prop} {v : Value} {s : SV} {ρ : Nat → Nat} {ks : List Nat} (h : RepS ι w F v s) (hF : ∀ b, F b → F' b) (hι : ∀ k, k ∈ ks → ι' (ρ k) = ι k) (hc : s.closed ks = true) :
    RepS ι' w F' v (s.mapI ρ) := by
  induction h with
  | pv v p h => exact .pv v p (h.mono (fun _ _ => rfl) hF)
  | own id =>
    have e := hι id (by simpa [SV.closed] using hc)
    rw [← e]; exact .own _
  | elt id z a b bb n c h =>
    have e := hι id (by simpa [SV.closed] using hc)
    exact .elt _ z a b bb n c (e.trans h)
  | ref id off b h =>
    have e := hι id (by simpa [SV.closed] using hc)
    exact .ref _ off b (e.trans h)
  | sl id n b h =>
    have e := hι id (by simpa [SV.closed] using hc)
    exact .sl _ n b (e.trans h)
  | map id =>
    have e := hι id (by simpa [SV.closed] using hc)
    rw [← e]; exact .map _
  | clo fn xs cs hl hr ih =>
    simp only [SV.mapI]
    rw [SV.mapIL_map]
    refine .clo fn xs _ (by simp [hl]) fun k h1 h2 => ?_
    rw [List.getElem_map]
    exact ih k h1 (by simpa using h2) (SV.closedL_get (by simpa [SV.closed] using hc) k (by simpa using h2))
  | ownV id v h =>
    have e := hι id (by simpa [SV.closed] using hc)
    exact .ownV _ v (e.trans h)
  | pin u id v h =>
    have e := hι id (by simpa [SV.closed] using hc)
    exact .pin u _ v (e.trans h)
  | nilOr v id h =>
    have e := hι id (by simpa [SV.closed] using hc)
    exact .nilOr v _ (e.symm ▸ h)
  | aggS xs cs hl hr ih =>
    simp only [SV.mapI]
    rw [SV.mapIL_map]
    refine .aggS xs _ (by simp [hl]) fun k h1 h2 => ?_
    rw [List.getElem_map]
    exact ih k h1 (by simpa using h2) (SV.closedL_get (by simpa [SV.closed] using hc) k (by simpa using h2))
  | opt v g s ht hf ih => exact .opt v g _ (fun hg => ih hg (by simpa [SV.closed] using hc)) hf
  | nn v p h hs => exact .nn v p (h.mono (fun _ _ => rfl) hF) hs

theorem RepS.unmap {ι : Nat → Value} {w : World} {F F' : Nat → Prop} {ρ : Nat → Nat} (hF : ∀ b, F b → F' b) : ∀ (s : SV) (v : Value), RepS ι w F v (s.mapI ρ) → RepS (fun k => ι (ρ k)) w F' v s
  | .pv p, v, h => by
    cases h with | pv _ _ h => exact .pv v p (h.mono (fun _ _ => rfl) hF)
  | .own k, v, h => by
    cases h; exact RepS.own (ι := fun k => ι (ρ k)) k
  | .elt k z a b, v, h => by
    cases h with | elt _ _ _ _ bb n c h => exact .elt k z a b bb n c h
  | .ref k o, v, h => by
    cases h with | ref _ _ b h => exact .ref k o b h
  | .sl k n, v, h => by
    cases h with | sl _ _ b h => exact .sl k n b h
  | .map k, v, h => by
    cases h; exact RepS.map (ι := fun k => ι (ρ k)) k
  | .clo fn cs, v, h => by
    simp only [SV.mapI] at h
    rw [SV.mapIL_map] at h
    cases h with
    | clo _ xs _ hl hr =>
      refine .clo fn xs cs (by simpa using hl) fun k h1 h2 => ?_
      have := hr k h1 (by simpa using h2)
      rw [List.getElem_map] at this
      exact RepS.unmap hF cs[k] xs[k] this
  | .aggS cs, v, h => by
    simp only [SV.mapI] at h
    rw [SV.mapIL_map] at h
    cases h with
    | aggS xs _ hl hr =>
      refine .aggS xs cs (by simpa using hl) fun k h1 h2 => ?_
      have := hr k h1 (by simpa using h2)
      rw [List.getElem_map] at this
      exact RepS.unmap hF cs[k] xs[k] this
  | .opt g s, v, h => by
    simp only [SV.mapI] at h
    cases h with
    | opt _ _ _ ht hf => exact .opt v g s (fun hg => RepS.unmap hF s v (ht hg)) hf
  | .nn p, v, h => by
    cases h with | nn _ _ h hs => exact .nn v p (h.mono (fun _ _ => rfl) hF) hs
  | .ownV k u, v, h => by
    cases h with | ownV _ _ h => exact .ownV k _ h
  | .pin k u, v, h => by
    cases h with | pin _ _ _ h => exact .pin v k u h
  | .nilOr k, v, h => by
    cases h with | nilOr _ _ h => exact .nilOr v k h
termination_by s => SizeOf.sizeOf s
decreasing_by
  all_goals simp_wf
  all_goals (first | omega | (have := List.sizeOf_lt_of_mem (List.getElem_mem h2); omega))

/-! ### The contract -/

/-- THE CONTRACT OF A FUNCTION THAT IS HANDED OWNED BLOCKS: H before, H' behind; 'nw': the one name whose value may be another one behind. -/
def FCH (P : Program) (K : FuncId) (args : List SV) (H H' : Heap) (v : SV) (nw : Option Nat) : Prop :=
  ∀ (V : Nat → Prop) (ι : Nat → Value) (w : World) (vs : List Value), (∀ b, w.heap.size ≤ b → V b) → HeapOk V ι H w → vs.length = args.length →
    (∀ (k : Nat) (h1 : k < vs.length) (h2 : k < args.length), RepS ι w (Free V ι H w) vs[k] args[k]) →
    Calls P K vs.toArray w fun ex w' => ∃ (ι' : Nat → Value) (rv : Value), ex = .returned rv ∧ RepS ι' w' (Free V ι' H' w') rv v ∧ HeapOk V ι' H' w' ∧ w'.os = w.os ∧ w'.tape = w.tape ∧ w'.output = w.output ∧
      w.heap.size ≤ w'.heap.size ∧ (∀ b, b < w.heap.size → ¬ Owned ι H b → w'.heap[b]? = w.heap[b]?) ∧ (∀ b, Owned ι' H' b → w.heap.size ≤ b ∨ Owned ι H b) ∧ ∀ id, nw ≠ some id → id ∈ H.map (·.1) → ι' id = ι id

def envS : Nat → List SV → Env
  | _, [] => []
  | k, s :: r => (k, s) :: envS (k + 1) r

theorem envS_lookup : ∀ (args : List SV) (k t : Nat), (envS k args).lookup t = if k ≤ t then args[t - k]? else none
  | [], k, t => by simp [envS]
  | p :: r, k, t => by
    rw [envS, List.lookup_cons]
    by_cases e : t = k
    · subst e; simp
    · rw [show (t == k) = false from beq_eq_false_iff_ne.2 e]
      simp only
      rw [envS_lookup r (k + 1) t]
      by_cases h : k ≤ t
      · have h1 : k + 1 ≤ t := by omega
        have h2 : t - k = (t - (k + 1)) + 1 := by omega
        simp [h, h1, h2]
      · have h1 : ¬ k + 1 ≤ t := by omega
        simp [h, h1]

/-- The names' values at the beginning, kept in slots that no function has. -/
def pinsOf (ι : Nat → Value) : Heap → Env
  | [] => []
  | p :: r => (1000000 + p.1, .pin p.1 (ι p.1)) :: pinsOf ι r

theorem pinsOf_mem {ι : Nat → Value} : ∀ {H : Heap} {t : Nat} {s : SV}, List.lookup t (pinsOf ι H) = some s → ∃ id, id ∈ H.map (·.1) ∧ t = 1000000 + id ∧ s = .pin id (ι id)
  | [], t, s, h => by simp [pinsOf] at h
  | p :: r, t, s, h => by
    simp only [pinsOf, List.lookup_cons] at h
    by_cases e : t = 1000000 + p.1
    · subst e
      simp at h
      exact ⟨p.1, by simp, rfl, h.symm⟩
    · rw [beq_eq_false_iff_ne.2 e] at h
      obtain ⟨id, h1, h2, h3⟩ := pinsOf_mem h
      exact ⟨id, by simp at h1 ⊢; exact .inr h1, h2, h3⟩

/-- What the result variables hold. -/
def resS (env : Nat → Option SV) : List ResultVar → Option (List SV)
  | [] => some []
  | .tmp t :: l => match env t, resS env l with | some s, some q => some (s :: q) | _, _ => none
  | _ => none

def packS : List SV → Option SV
  | [s] => some s
  | l => (plainAll l).map fun ps => .pv (.tup ps)

theorem lookup_append_ne {α : Type 1} {l m : List (Nat × α)} {t : Nat} : List.lookup t (l ++ m) = match List.lookup t l with | some s => some s | none => List.lookup t m := by
  induction l with
  | nil => rfl
  | cons p r ih =>
    obtain ⟨u, x⟩ := p
    simp only [List.cons_append, List.lookup_cons]
    by_cases e : t = u
    · subst e; simp
    · rw [beq_eq_false_iff_ne.2 e]; exact ih

/-- At the function's end: the blocks that it hands back, the names kept, and what it returns. -/
def retH (fn : Func) (ι0 : Nat → Value) (H H' : Heap) (v : SV) (nw : Option Nat) : Exit → St → Prop
  | .normal, st | .ret, st => ∃ st', Ent st st' ∧ KeptH st'.H H' ∧ (∀ id, nw ≠ some id → id ∈ H.map (·.1) → lk st'.env (1000000 + id) = some (.pin id (ι0 id))) ∧ ∃ ss, resS (lk st'.env) fn.results.toList = some ss ∧ packS ss = some v
  | _, _ => False

theorem retH.ret {fn : Func} {ι0 : Nat → Value} {H H' : Heap} {v : SV} {nw : Option Nat} {st : St} (h : retH fn ι0 H H' v nw .normal st) : retH fn ι0 H H' v nw .ret st := h

theorem resS_run {P : Program} {w0 : World} {O V : Nat → Prop} {n : Nat} {ι : Nat → Value} {env : Nat → Option SV} {H : Heap} {a : Act} {w : World} (hs : Sim B w0 O V n ι env H a w) :
    ∀ (rs : List ResultVar) (ss : List SV), resS env rs = some ss → ∃ xs : List Value, (rs.mapM (resOne a.tmps)).run P w = .ok xs w ∧ xs.length = ss.length ∧ ∀ (k : Nat) (h1 : k < xs.length) (h2 : k < ss.length), RepS ι w (Free V ι H w) xs[k] ss[k]
  | [], ss, h => by
    simp only [resS, Option.some.injEq] at h
    subst h
    exact ⟨[], by simp, rfl, fun k h1 => absurd h1 (by simp)⟩
  | .tmp t :: rs, ss, h => by
    simp only [resS] at h
    split at h
    · rename_i s q h1 h2
      simp only [Option.some.injEq] at h
      subst h
      obtain ⟨xs, h3, h4, h5⟩ := resS_run (P := P) hs rs q h2
      refine ⟨a.tmps.getD t undef :: xs, by simp only [List.mapM_cons, Sem.run_bind, Sem.run_pure, Result.andThen_ok, h3, resOne], by simp [h4], fun k k1 k2 => ?_⟩
      cases k with
      | zero => exact hs.env t s h1
      | succ k => exact h5 k (by simpa using k1) (by simpa using k2)
    · simp at h
  | .cell _ _ :: rs, ss, h => by simp [resS] at h

theorem packS_rep {ι : Nat → Value} {w : World} {F : Nat → Prop} {xs : List Value} {ss : List SV} {v : SV} (hl : xs.length = ss.length) (hr : ∀ (k : Nat) (h1 : k < xs.length) (h2 : k < ss.length), RepS ι w F xs[k] ss[k]) (hv : packS ss = some v) :
    RepS ι w F (if h : xs.length = 1 then xs[0] else .tuple xs.toArray) v := by
  by_cases h1 : xs.length = 1
  · rw [dif_pos h1]
    match ss, (hl ▸ h1 : ss.length = 1) with
    | [s], _ =>
      simp only [packS, Option.some.injEq] at hv
      subst hv
      exact hr 0 (by omega) (by simp)
  · rw [dif_neg h1]
    have h2 : ¬ ss.length = 1 := hl ▸ h1
    have e : packS ss = (plainAll ss).map fun ps => .pv (.tup ps) := by
      match ss, h2 with
      | [], _ => rfl
      | [p], h => simp at h
      | _ :: _ :: _, _ => rfl
    rw [e] at hv
    obtain ⟨ps, hps, rfl⟩ := Option.map_eq_some_iff.1 hv
    have := plainAll_spec hps hl hr
    exact .pv _ _ (.tup xs ps this.1 this.2)

theorem FCH.intro {P : Program} {K : FuncId} {fn : Func} {c : Code} {args : List SV} {H H' : Heap} {v : SV} {nw : Option Nat} (hf : P.funcs[K]? = some fn) (hb : fn.body = some c) (hn : args.length ≤ fn.ntmps) (hn2 : fn.ntmps ≤ 1000000)
    (h : (∀ p, .pv p ∈ args → p.Fit) → ∀ ι0, awp (ro := none) (B := none) P fn.ntmps c (retH fn ι0 H H' v nw) ⟨envS 0 args ++ pinsOf ι0 H, H⟩) : FCH P K args H H' v nw := by
  intro V ι w vs hV hk hlen ha
  have h := h (fun p hp => by
    obtain ⟨k, hk, e⟩ := List.getElem_of_mem hp
    have := ha k (hlen ▸ hk) hk
    rw [e] at this
    exact this.pv_inv.fit) ι
  have hsim : Sim none w (Owned ι H) V fn.ntmps ι (lk (envS 0 args ++ pinsOf ι H)) H { tmps := vs.toArray ++ Array.replicate (fn.ntmps - vs.toArray.size) undef, defers := [] } w := by
    refine ⟨rfl, rfl, rfl, Nat.le_refl _, fun _ _ _ => rfl, fun b hb => .inr hb, hk, ?_, ?_, Marks.nil, hV⟩
    · intro t s hts
      simp only [lk] at hts
      rw [lookup_append_ne, envS_lookup] at hts
      simp only [Nat.zero_le, ↓reduceIte, Nat.sub_zero] at hts
      cases hat : args[t]? with
      | some o =>
        rw [hat] at hts
        simp only [Option.some.injEq] at hts
        subst hts
        obtain ⟨h2, h3⟩ := List.getElem?_eq_some_iff.1 hat
        have h1 : t < vs.length := by omega
        have e : (vs.toArray ++ Array.replicate (fn.ntmps - vs.toArray.size) undef).getD t undef = vs[t] := by
          simp [Array.getD_eq_getD_getElem?, Array.getElem?_append, h1]
        rw [e, ← h3]
        exact ha t h1 h2
      | none =>
        rw [hat] at hts
        simp only at hts
        obtain ⟨id, h1, h2, rfl⟩ := pinsOf_mem hts
        exact .pin _ id _ rfl
    · simp; omega
  refine (calls_of_sim (R := fun rv w' => ∃ (ι'' : Nat → Value), RepS ι'' w' (Free V ι'' H' w') rv v ∧ HeapOk V ι'' H' w' ∧ w'.os = w.os ∧ w'.tape = w.tape ∧ w'.output = w.output ∧
        w.heap.size ≤ w'.heap.size ∧ (∀ b, b < w.heap.size → ¬ Owned ι H b → w'.heap[b]? = w.heap[b]?) ∧ (∀ b, Owned ι'' H' b → w.heap.size ≤ b ∨ Owned ι H b) ∧ ∀ id, nw ≠ some id → id ∈ H.map (·.1) → ι'' id = ι id)
    hf hb (h w _ _ _ _ w hsim) (fun e st' hq => ?_) ?_).mono fun ex w' ⟨rv, he, ι'', h1⟩ => ⟨ι'', rv, he, h1⟩
  · cases e <;> first | exact .inl rfl | exact .inr rfl | exact hq.elim
  · rintro e st' V' ι' a' w' hq hvv hs'
    have hq' : ∃ st2, Ent st' st2 ∧ KeptH st2.H H' ∧ (∀ id, nw ≠ some id → id ∈ H.map (·.1) → lk st2.env (1000000 + id) = some (.pin id (ι id))) ∧ ∃ ss, resS (lk st2.env) fn.results.toList = some ss ∧ packS ss = some v := by
      cases e <;> first | exact hq | exact hq.elim
    obtain ⟨st2, hent, hkh, hpins, ss, hres, hv⟩ := hq'
    obtain ⟨ι2, hs2⟩ := hent _ _ _ _ _ _ _ _ hs'
    have hs3 := hs2.sub (H' := H') fun id blk hl => hkh.mem _ (mem_of_lookup' hl)
    obtain ⟨xs, hx, hxl, hxr⟩ := resS_run hs3 _ _ hres
    refine ⟨_, results_run hx, ι2, (packS_rep hxl hxr hv).move (nw := none) (fun _ _ => rfl) (fun b hb => ⟨hb.1, hvv b hb.2.1, hb.2.2⟩) (fun _ _ => rfl) (by simp), hs3.heap.vmono hvv, hs3.os, hs3.tape, hs3.output, hs3.size, hs3.kept, hs3.mine, fun id h1 h2 => ?_⟩
    have h3 := hs3.env _ _ (hpins id h1 h2)
    generalize a'.tmps.getD (1000000 + id) undef = u at h3
    cases h3; assumption

/-! ### The call -/

def keys (H : Heap) : List Nat := H.map (·.1)

theorem lookup_keys {H : Heap} {k : Nat} {blk : Blk} (h : List.lookup k H = some blk) : k ∈ keys H := List.mem_map.2 ⟨(k, blk), mem_of_lookup' h, rfl⟩
theorem keys_lookup : ∀ {H : Heap} {k : Nat}, k ∈ keys H → ∃ blk, List.lookup k H = some blk
  | [], k, h => by simp [keys] at h
  | (u, b) :: r, k, h => by
    rw [List.lookup_cons]
    by_cases e : k = u
    · subst e; exact ⟨b, by simp⟩
    · rw [beq_eq_false_iff_ne.2 e]
      refine keys_lookup ?_
      simp only [keys, List.map_cons, List.mem_cons] at h ⊢
      exact h.resolve_left e

theorem mapH_some {ρ : Nat → Nat} {id : Nat} {blk : Blk} : ∀ {H : Heap}, List.lookup id (mapH ρ H) = some blk → ∃ k b0, List.lookup k H = some b0 ∧ id = ρ k ∧ blk = b0.mapI ρ
  | [], h => by simp [mapH] at h
  | (u, b) :: r, h => by
    simp only [mapH, List.map_cons, List.lookup_cons] at h
    by_cases e : id = ρ u
    · subst e
      simp at h
      exact ⟨u, b, by simp, rfl, h.symm⟩
    · rw [beq_eq_false_iff_ne.2 e] at h
      obtain ⟨k, b0, h1, h2, h3⟩ := mapH_some (H := r) h
      refine ⟨k, b0, ?_, h2, h3⟩
      rw [List.lookup_cons, beq_eq_false_iff_ne.2 (fun e2 => e (by rw [h2, e2]))]
      exact h1
theorem mapH_none {ρ : Nat → Nat} {id : Nat} : ∀ {H : Heap}, List.lookup id (mapH ρ H) = none → ∀ k, k ∈ keys H → ρ k ≠ id
  | [], h, k, hk => by simp [keys] at hk
  | (u, b) :: r, h, k, hk => by
    simp only [mapH, List.map_cons, List.lookup_cons] at h
    by_cases e : id = ρ u
    · subst e; simp at h
    · rw [beq_eq_false_iff_ne.2 e] at h
      simp only [keys, List.map_cons, List.mem_cons] at hk
      rcases hk with rfl | hk
      · exact fun e2 => e e2.symm
      · exact mapH_none (H := r) h k hk

/-- The blocks that a call is lent, under the caller's names. -/
def KeptM (ρ : Nat → Nat) (Hc : Heap) : Heap → Prop
  | [] => True
  | (k, blk) :: r => List.lookup (ρ k) Hc = some (blk.mapI ρ) ∧ KeptM ρ Hc r
theorem KeptM.get {ρ : Nat → Nat} {Hc : Heap} {k : Nat} {blk : Blk} : ∀ {H : Heap}, KeptM ρ Hc H → List.lookup k H = some blk → List.lookup (ρ k) Hc = some (blk.mapI ρ)
  | [], _, h => by simp at h
  | (u, b) :: r, h, hl => by
    rw [List.lookup_cons] at hl
    by_cases e : k = u
    · subst e; simp at hl; subst hl; exact h.1
    · rw [beq_eq_false_iff_ne.2 e] at hl; exact h.2.get hl

/-- What a call asks of the names: no two become one; what is lent comes back; what it makes anew is new to the caller; no name in it is of another one. -/
def namesOk (ρ : Nat → Nat) (Hc H H' : Heap) (v : SV) (nw : Option Nat) : Bool :=
  ((keys H').all fun a => (keys H').all fun b => ρ a != ρ b || a == b) &&
  ((keys H).all fun a => (keys H').contains a) &&
  ((keys H').all fun a => (keys H).contains a || nw == some a) &&
  (match nw with
    | some j => (keys H').contains j && Hc.all fun p => ((keys H).any fun k => ρ k == p.1) || (p.1 != ρ j && !p.2.men (ρ j))
    | none => true) &&
  (H'.all fun p => p.2.closed (keys H')) && v.closed (keys H')

def reNew (ρ : Nat → Nat) (nw : Option Nat) (κ' ι : Nat → Value) : Nat → Value := fun id => match nw with | some j => if id = ρ j then κ' j else ι id | none => ι id

section ops
variable {P : Program} {ev : Operand → SV → Prop}

/-- The same, of whatever is called: 'Cl' says what comes of it, 'G' what more is asked of what may be seen. -/
def FCXG (G : (Nat → Prop) → World → Prop) (Cl : Array Value → World → (Ending → World → Prop) → Prop) (args : List SV) (H H' : Heap) (v : SV) (nw : Option Nat) : Prop :=
  ∀ (V : Nat → Prop) (ι : Nat → Value) (w : World) (vs : List Value), G V w → (∀ b, w.heap.size ≤ b → V b) → HeapOk V ι H w → vs.length = args.length →
    (∀ (k : Nat) (h1 : k < vs.length) (h2 : k < args.length), RepS ι w (Free V ι H w) vs[k] args[k]) →
    Cl vs.toArray w fun ex w' => ∃ (ι' : Nat → Value) (rv : Value), ex = .returned rv ∧ RepS ι' w' (Free V ι' H' w') rv v ∧ HeapOk V ι' H' w' ∧ w'.os = w.os ∧ w'.tape = w.tape ∧ w'.output = w.output ∧
      w.heap.size ≤ w'.heap.size ∧ (∀ b, b < w.heap.size → ¬ Owned ι H b → w'.heap[b]? = w.heap[b]?) ∧ (∀ b, Owned ι' H' b → w.heap.size ≤ b ∨ Owned ι H b) ∧ ∀ id, nw ≠ some id → id ∈ H.map (·.1) → ι' id = ι id
/-- The same, with nothing more asked. -/
def FCX (Cl : Array Value → World → (Ending → World → Prop) → Prop) (args : List SV) (H H' : Heap) (v : SV) (nw : Option Nat) : Prop :=
  ∀ (V : Nat → Prop) (ι : Nat → Value) (w : World) (vs : List Value), (∀ b, w.heap.size ≤ b → V b) → HeapOk V ι H w → vs.length = args.length →
    (∀ (k : Nat) (h1 : k < vs.length) (h2 : k < args.length), RepS ι w (Free V ι H w) vs[k] args[k]) →
    Cl vs.toArray w fun ex w' => ∃ (ι' : Nat → Value) (rv : Value), ex = .returned rv ∧ RepS ι' w' (Free V ι' H' w') rv v ∧ HeapOk V ι' H' w' ∧ w'.os = w.os ∧ w'.tape = w.tape ∧ w'.output = w.output ∧
      w.heap.size ≤ w'.heap.size ∧ (∀ b, b < w.heap.size → ¬ Owned ι H b → w'.heap[b]? = w.heap[b]?) ∧ (∀ b, Owned ι' H' b → w.heap.size ≤ b ∨ Owned ι H b) ∧ ∀ id, nw ≠ some id → id ∈ H.map (·.1) → ι' id = ι id

theorem FCXG.use {G : (Nat → Prop) → World → Prop} {Cl : Array Value → World → (Ending → World → Prop) → Prop} {args : List SV} {H H' Hc : Heap} {v : SV} {nw : Option Nat} (ρ : Nat → Nat) (hf : FCXG G Cl args H H' v nw)
    (hH : KeptM ρ Hc H) (hok : namesOk ρ Hc H H' v nw = true) {V : Nat → Prop} {ι : Nat → Value} {w : World} (hG : ∀ V', (∀ b, V' b → V b) → G V' w) (hV : ∀ b, w.heap.size ≤ b → V b) (hk : HeapOk V ι Hc w) {vs : List Value} (hlen : vs.length = args.length)
    (hrep : ∀ (k : Nat) (h1 : k < vs.length) (h2 : k < args.length), RepS ι w (Free V ι Hc w) vs[k] (args[k].mapI ρ)) :
    ∃ R, Cl vs.toArray w R ∧ ∀ ex w', R ex w' → ∃ ι' rv, ex = .returned rv ∧ Step V ι Hc w (nw.map ρ) ι' (mapH ρ H' ++ Hc) w' ∧ RepS ι' w' (Free V ι' (mapH ρ H' ++ Hc) w') rv (v.mapI ρ) := by
  simp only [namesOk, Bool.and_eq_true] at hok
  obtain ⟨⟨⟨⟨⟨hinj, hsub⟩, hsup⟩, hnew⟩, hcl⟩, hclv⟩ := hok
  have hinj : ∀ a b, a ∈ keys H' → b ∈ keys H' → ρ a = ρ b → a = b := by
    intro a b ha hb e
    have := List.all_eq_true.1 (List.all_eq_true.1 hinj a ha) b hb
    simpa [e] using this
  have hsub : ∀ a, a ∈ keys H → a ∈ keys H' := fun a ha => by simpa using List.all_eq_true.1 hsub a ha
  have hsup : ∀ a, a ∈ keys H' → a ∈ keys H ∨ nw = some a := fun a ha => by simpa using List.all_eq_true.1 hsup a ha
  have hnw : ∀ j, nw = some j → j ∈ keys H' ∧ ∀ p, p ∈ Hc → (∃ k, k ∈ keys H ∧ ρ k = p.1) ∨ (p.1 ≠ ρ j ∧ p.2.men (ρ j) = false) := by
    intro j hj
    subst hj
    simp only [Bool.and_eq_true] at hnew
    refine ⟨by simpa using hnew.1, fun p hp => ?_⟩
    have := List.all_eq_true.1 hnew.2 p hp
    simpa using this
  have hcl : ∀ k b, List.lookup k H' = some b → b.closed (keys H') = true := fun k b h => List.all_eq_true.1 hcl (k, b) (mem_of_lookup' h)
  let lent : Nat → Prop := fun id => ∃ k, k ∈ keys H ∧ ρ k = id
  let Vc : Nat → Prop := fun b => V b ∧ ∀ id blk, List.lookup id Hc = some blk → ¬ lent id → blkOf (ι id) ≠ some b
  let κ : Nat → Value := fun k => ι (ρ k)
  have hlent : ∀ k, k ∈ keys H → ∃ blk, List.lookup k H = some blk ∧ List.lookup (ρ k) Hc = some (blk.mapI ρ) := fun k hk' => by
    obtain ⟨blk, h⟩ := keys_lookup hk'
    exact ⟨blk, h, hH.get h⟩
  have ownL : ∀ b, Owned κ H b → Owned ι Hc b := fun b ⟨k, blk, h1, h2⟩ => ⟨ρ k, _, hH.get h1, h2⟩
  have ownU : ∀ b, Owned ι Hc b → Owned κ H b ∨ ∃ id blk, List.lookup id Hc = some blk ∧ ¬ lent id ∧ blkOf (ι id) = some b := fun b ⟨id, blk, h1, h2⟩ => by
    by_cases hL : lent id
    · obtain ⟨k, hk', rfl⟩ := hL
      obtain ⟨blk', h3, _⟩ := hlent k hk'
      exact .inl ⟨k, blk', h3, h2⟩
    · exact .inr ⟨id, blk, h1, hL, h2⟩
  have hF : ∀ b, Free V ι Hc w b → Free Vc κ H w b := fun b hb => ⟨hb.1, ⟨hb.2.1, fun id blk h1 _ h2 => hb.2.2 ⟨id, blk, h1, h2⟩⟩, fun ho => hb.2.2 (ownL b ho)⟩
  have hVc : ∀ b, w.heap.size ≤ b → Vc b := fun b hb => ⟨hV b hb, fun id blk h1 _ h2 => by have := hk.lt ⟨id, blk, h1, h2⟩; omega⟩
  have unlent : ∀ b id blk, Owned κ H b → List.lookup id Hc = some blk → ¬ lent id → blkOf (ι id) ≠ some b := by
    rintro b id blk ⟨k, bk, h1, h2⟩ h3 h4 h5
    exact h4 ⟨k, lookup_keys h1, hk.inj _ _ _ _ b (hH.get h1) h3 h2 h5⟩
  have hkc : HeapOk Vc κ H w := by
    refine ⟨fun k blk hl => ?_, fun k k' blk blk' b h1 h2 hb hb' => ?_, fun b hb => ⟨hk.vis b (ownL b hb), fun id blk h1 h2 => unlent b id blk hb h1 h2⟩⟩
    · have h0 := hk.ok _ _ (hH.get hl)
      cases blk with
      | box cs =>
        obtain ⟨b, xs, e, hv, hh, hlen, hr⟩ := h0
        refine ⟨b, xs, e, hv, hh, by rw [SV.mapIL_map] at hlen; simpa using hlen, fun k a b => RepS.unmap hF _ _ ?_⟩
        have := hr k a (by rw [SV.mapIL_map]; simpa using b)
        simpa [SV.mapIL_map] using this
      | tbox T cs =>
        obtain ⟨b, xs, e, hv, hh, hlen, hr⟩ := h0
        refine ⟨b, xs, e, hv, hh, by rw [SV.mapIL_map] at hlen; simpa using hlen, fun k a b => RepS.unmap hF _ _ ?_⟩
        have := hr k a (by rw [SV.mapIL_map]; simpa using b)
        simpa [SV.mapIL_map] using this
      | arr e z α d f l =>
        obtain ⟨xs, ho, hr, hm⟩ := h0
        exact ⟨xs, ho, hr.mono (fun _ _ => rfl) hF, hm⟩
      | mp m => exact h0
      | mq m =>
        obtain ⟨r, es, hv, hh, hm⟩ := h0
        exact ⟨r, es, hv, hh, hm.mono (fun _ _ => rfl) hF⟩
      | yld ps as bd cs =>
        obtain ⟨l, r, xs, hv, hh, g1, g2, g3, g4, g5, g6, hlen, hr⟩ := h0
        refine ⟨l, r, xs, hv, hh, g1, g2, g3, g4, g5, g6, by rw [SV.mapIL_map] at hlen; simpa using hlen, fun k a b => RepS.unmap hF _ _ ?_⟩
        have := hr k a (by rw [SV.mapIL_map]; simpa using b)
        simpa [SV.mapIL_map] using this
    · exact hinj _ _ (hsub _ (lookup_keys h1)) (hsub _ (lookup_keys h2)) (hk.inj _ _ _ _ b (hH.get h1) (hH.get h2) hb hb')
  have hc := hf Vc κ w vs (hG Vc fun b hb => hb.1) hVc hkc hlen fun k h1 h2 => RepS.unmap hF _ _ (hrep k h1 h2)
  refine ⟨_, hc, ?_⟩
  rintro ex w' ⟨κ', rv, rfl, hrv, hk', hos, htape, hout, hsize, hkept, hown, hagr⟩
  let ι' : Nat → Value := reNew ρ nw κ' ι
  have e1 : ∀ k, k ∈ keys H' → ι' (ρ k) = κ' k := by
    intro k hkk
    cases hn : nw with
    | none =>
      rcases hsup k hkk with h1 | h1
      · simp only [ι', reNew, hn]; exact (hagr k (by simp [hn]) h1).symm
      · rw [hn] at h1; cases h1
    | some j =>
      simp only [ι', reNew, hn]
      by_cases e : k = j
      · subst e; simp
      · have hne : ρ k ≠ ρ j := fun e2 => e (hinj k j hkk (hnw j hn).1 e2)
        rw [if_neg hne]
        rcases hsup k hkk with h1 | h1
        · exact (hagr k (by rw [hn]; simpa using fun e2 => e e2.symm) h1).symm
        · rw [hn] at h1; simp only [Option.some.injEq] at h1; exact absurd h1.symm e
  have e2 : ∀ id, nw.map ρ ≠ some id → ι' id = ι id := by
    intro id hid
    cases hn : nw with
    | none => simp only [ι', reNew, hn]
    | some j =>
      simp only [ι', reNew, hn]
      rw [if_neg]
      rw [hn] at hid
      simpa using fun e => hid (by rw [e]; rfl)
  have e3 : ∀ id blk, List.lookup id Hc = some blk → (∀ k, k ∈ keys H' → ρ k ≠ id) → ι' id = ι id := fun id blk h1 h2 => e2 id fun hn => by
    obtain ⟨j, hj, hjj⟩ := Option.map_eq_some_iff.1 hn
    exact h2 j (hnw j hj).1 hjj
  have lk' : ∀ id blk, List.lookup id (mapH ρ H' ++ Hc) = some blk → (∃ k b0, List.lookup k H' = some b0 ∧ id = ρ k ∧ blk = b0.mapI ρ) ∨ ((∀ k, k ∈ keys H' → ρ k ≠ id) ∧ List.lookup id Hc = some blk) := by
    intro id blk h
    rw [lookup_append_ne] at h
    cases hl : List.lookup id (mapH ρ H') with
    | some b =>
      rw [hl] at h
      simp only [Option.some.injEq] at h
      subst h
      exact .inl (mapH_some hl)
    | none =>
      rw [hl] at h
      exact .inr ⟨mapH_none hl, h⟩
  have nolent : ∀ id, (∀ k, k ∈ keys H' → ρ k ≠ id) → ¬ lent id := fun id h ⟨k, h1, h2⟩ => h k (hsub k h1) h2
  have owned' : ∀ b, Owned ι' (mapH ρ H' ++ Hc) b → Owned κ' H' b ∨ ∃ id blk, List.lookup id Hc = some blk ∧ ¬ lent id ∧ blkOf (ι id) = some b := by
    rintro b ⟨id, blk, h1, h2⟩
    rcases lk' id blk h1 with ⟨k, b0, h3, rfl, rfl⟩ | ⟨h3, h4⟩
    · rw [e1 k (lookup_keys h3)] at h2
      exact .inl ⟨k, b0, h3, h2⟩
    · rw [e3 id blk h4 h3] at h2
      exact .inr ⟨id, blk, h4, nolent id h3, h2⟩
  have hfree2 : ∀ b, Free Vc κ' H' w' b → Free V ι' (mapH ρ H' ++ Hc) w' b := fun b hb => ⟨hb.1, hb.2.1.1, fun ho => by
    rcases owned' b ho with h1 | ⟨id, blk, h1, h2, h3⟩
    · exact hb.2.2 h1
    · exact hb.2.1.2 id blk h1 h2 h3⟩
  have hfreeO : ∀ b, Free V ι Hc w b → Free V ι' (mapH ρ H' ++ Hc) w' b := fun b hb => ⟨Nat.lt_of_lt_of_le hb.1 hsize, hb.2.1, fun ho => by
    rcases owned' b ho with h1 | ⟨id, blk, h1, h2, h3⟩
    · rcases hown b h1 with h4 | h4
      · exact absurd hb.1 (by omega)
      · exact hb.2.2 (ownL b h4)
    · exact hb.2.2 ⟨id, blk, h1, h3⟩⟩
  have hheapO : ∀ b, Free V ι Hc w b → w'.heap[b]? = w.heap[b]? := fun b hb => hkept b hb.1 fun ho => hb.2.2 (ownL b ho)
  have hheapU : ∀ id blk b, List.lookup id Hc = some blk → ¬ lent id → blkOf (ι id) = some b → w'.heap[b]? = w.heap[b]? := fun id blk b h1 h2 h3 => hkept b (hk.lt ⟨id, blk, h1, h3⟩) fun ho => unlent b id blk ho h1 h2 h3
  have hmen : ∀ id blk, List.lookup id Hc = some blk → (∀ k, k ∈ keys H' → ρ k ≠ id) → ∀ j, nw.map ρ = some j → blk.men j = false := by
    intro id blk h1 h2 j hj
    obtain ⟨j0, hj0, rfl⟩ := Option.map_eq_some_iff.1 hj
    rcases (hnw j0 hj0).2 (id, blk) (mem_of_lookup' h1) with ⟨k, h3, h4⟩ | h3
    · exact absurd h4 (h2 k (hsub k h3))
    · exact h3.2
  have hstep : Step V ι Hc w (nw.map ρ) ι' (mapH ρ H' ++ Hc) w' := by
    refine ⟨hos, htape, hout, hsize, fun b hb ho => hkept b hb fun h => ho (ownL b h), e2, fun b hb => ?_, ?_⟩
    · rcases owned' b hb with h1 | ⟨id, blk, h1, h2, h3⟩
      · rcases hown b h1 with h4 | h4
        · exact .inl h4
        · exact .inr (ownL b h4)
      · exact .inr ⟨id, blk, h1, h3⟩
    · refine ⟨fun id blk hl => ?_, fun id id' blk blk' b h1 h2 hb hb' => ?_, fun b hb => ?_⟩
      · rcases lk' id blk hl with ⟨k, b0, h3, rfl, rfl⟩ | ⟨h3, h4⟩
        · rw [e1 k (lookup_keys h3)]
          have h0 := hk'.ok k b0 h3
          have hcb := hcl k b0 h3
          cases b0 with
          | box cs =>
            obtain ⟨b, xs, e, hv, hh, hlen, hr⟩ := h0
            refine ⟨b, xs, e, hv, hh, by rw [SV.mapIL_map]; simpa using hlen, fun k a b => ?_⟩
            have b' : k < cs.length := by rw [SV.mapIL_map] at b; simpa using b
            have := (hr k a b').mapI (ι' := ι') (ρ := ρ) (ks := keys H') hfree2 e1 (SV.closedL_get (by simpa [Blk.closed] using hcb) k b')
            simpa [SV.mapIL_map] using this
          | tbox T cs =>
            obtain ⟨b, xs, e, hv, hh, hlen, hr⟩ := h0
            refine ⟨b, xs, e, hv, hh, by rw [SV.mapIL_map]; simpa using hlen, fun k a b => ?_⟩
            have b' : k < cs.length := by rw [SV.mapIL_map] at b; simpa using b
            have := (hr k a b').mapI (ι' := ι') (ρ := ρ) (ks := keys H') hfree2 e1 (SV.closedL_get (by simpa [Blk.closed] using hcb) k b')
            simpa [SV.mapIL_map] using this
          | arr e z α d f l =>
            obtain ⟨xs, ho, hr, hm⟩ := h0
            exact ⟨xs, ho, hr.mono (fun _ _ => rfl) hfree2, hm⟩
          | mp m => exact h0
          | mq m =>
            obtain ⟨r, es, hv, hh, hm⟩ := h0
            exact ⟨r, es, hv, hh, hm.mono (fun _ _ => rfl) hfree2⟩
          | yld ps as bd cs =>
            obtain ⟨l, r, xs, hv, hh, g1, g2, g3, g4, g5, g6, hlen, hr⟩ := h0
            refine ⟨l, r, xs, hv, hh, g1, g2, g3, g4, g5, g6, by rw [SV.mapIL_map]; simpa using hlen, fun k a b => ?_⟩
            have b' : k < cs.length := by rw [SV.mapIL_map] at b; simpa using b
            have := (hr k a b').mapI (ι' := ι') (ρ := ρ) (ks := keys H') hfree2 e1 (SV.closedL_get (by simpa [Blk.closed] using hcb) k b')
            simpa [SV.mapIL_map] using this
        · rw [e3 id blk h4 h3]
          have h0 := hk.ok id blk h4
          have hU := hheapU id blk
          have hL := nolent id h3
          cases blk with
          | box cs =>
            obtain ⟨b, xs, e, hv, hh, hlen, hr⟩ := h0
            refine ⟨b, xs, e, hv, (hU b h4 hL (by rw [hv]; rfl)).trans hh, hlen, fun k a b => (hr k a b).move (nw := nw.map ρ) hheapO hfreeO e2 fun j hj => ?_⟩
            exact SV.menL_get (by have := hmen id _ h4 h3 j hj; simpa [Blk.men] using this) k b
          | tbox T cs =>
            obtain ⟨b, xs, e, hv, hh, hlen, hr⟩ := h0
            refine ⟨b, xs, e, hv, (hU b h4 hL (by rw [hv]; rfl)).trans hh, hlen, fun k a b => (hr k a b).move (nw := nw.map ρ) hheapO hfreeO e2 fun j hj => ?_⟩
            exact SV.menL_get (by have := hmen id _ h4 h3 j hj; simpa [Blk.men] using this) k b
          | arr e z α d f l =>
            obtain ⟨xs, ho, hr, hm⟩ := h0
            exact ⟨xs, ownsRow_move ho fun b hb => hU b h4 hL (by rw [blkOf_own ho]; exact hb), hr.mono hheapO hfreeO, hm⟩
          | mp m =>
            obtain ⟨r, es, clock, hv, hh, hm⟩ := h0
            exact ⟨r, es, clock, hv, (hU r h4 hL (by rw [hv]; rfl)).trans hh, hm⟩
          | mq m =>
            obtain ⟨r, es, hv, hh, hm⟩ := h0
            exact ⟨r, es, hv, (hU r h4 hL (by rw [hv]; rfl)).trans hh, hm.mono hheapO hfreeO⟩
          | yld ps as bd cs =>
            obtain ⟨l, r, xs, hv, hh, g1, g2, g3, g4, g5, g6, hlen, hr⟩ := h0
            refine ⟨l, r, xs, hv, (hU l h4 hL (by rw [hv]; rfl)).trans hh, g1, g2, g3, g4, g5, g6, hlen, fun k a b => (hr k a b).move (nw := nw.map ρ) hheapO hfreeO e2 fun j hj => ?_⟩
            exact SV.menL_get (by have := hmen id _ h4 h3 j hj; simpa [Blk.men] using this) k b
      · rcases lk' id blk h1 with ⟨k, b0, h3, rfl, rfl⟩ | ⟨h3, h4⟩ <;> rcases lk' id' blk' h2 with ⟨k', b0', h5, rfl, rfl⟩ | ⟨h5, h6⟩
        · rw [e1 k (lookup_keys h3)] at hb
          rw [e1 k' (lookup_keys h5)] at hb'
          rw [hk'.inj k k' _ _ b h3 h5 hb hb']
        · exfalso
          rw [e1 k (lookup_keys h3)] at hb
          rw [e3 id' blk' h6 h5] at hb'
          rcases hown b ⟨k, b0, h3, hb⟩ with h7 | h7
          · have := hk.lt ⟨id', blk', h6, hb'⟩; omega
          · exact unlent b id' blk' h7 h6 (nolent id' h5) hb'
        · exfalso
          rw [e1 k' (lookup_keys h5)] at hb'
          rw [e3 id blk h4 h3] at hb
          rcases hown b ⟨k', b0', h5, hb'⟩ with h7 | h7
          · have := hk.lt ⟨id, blk, h4, hb⟩; omega
          · exact unlent b id blk h7 h4 (nolent id h3) hb
        · rw [e3 id blk h4 h3] at hb
          rw [e3 id' blk' h6 h5] at hb'
          exact hk.inj id id' blk blk' b h4 h6 hb hb'
      · rcases owned' b hb with h1 | ⟨id, blk, h1, h2, h3⟩
        · exact (hk'.vis b h1).1
        · exact hk.vis b ⟨id, blk, h1, h3⟩
  exact ⟨ι', rv, rfl, hstep, hrv.mapI hfree2 e1 hclv⟩


theorem FCX.use {Cl : Array Value → World → (Ending → World → Prop) → Prop} {args : List SV} {H H' Hc : Heap} {v : SV} {nw : Option Nat} (ρ : Nat → Nat) (hf : FCX Cl args H H' v nw)
    (hH : KeptM ρ Hc H) (hok : namesOk ρ Hc H H' v nw = true) {V : Nat → Prop} {ι : Nat → Value} {w : World} (hV : ∀ b, w.heap.size ≤ b → V b) (hk : HeapOk V ι Hc w) {vs : List Value} (hlen : vs.length = args.length)
    (hrep : ∀ (k : Nat) (h1 : k < vs.length) (h2 : k < args.length), RepS ι w (Free V ι Hc w) vs[k] (args[k].mapI ρ)) :
    ∃ R, Cl vs.toArray w R ∧ ∀ ex w', R ex w' → ∃ ι' rv, ex = .returned rv ∧ Step V ι Hc w (nw.map ρ) ι' (mapH ρ H' ++ Hc) w' ∧ RepS ι' w' (Free V ι' (mapH ρ H' ++ Hc) w') rv (v.mapI ρ) :=
  FCXG.use (G := fun _ _ => True) ρ (fun V ι w vs _ => hf V ι w vs) hH hok (fun _ _ => trivial) hV hk hlen hrep
theorem FCH.op {o : Oper} {K : FuncId} {args : List SV} {H H' Hc : Heap} {v : SV} {nw : Option Nat} (ρ : Nat → Nat) (hf : FCH P K args H H' v nw)
    (hrun : ∀ (V : Nat → Prop) (ι : Nat → Value) (w : World) (a : Act), HeapOk V ι Hc w → (∀ x, x ∈ o.op.operands → ∀ s, ev x s → RepS ι w (Free V ι Hc w) (a.eval x) s) →
      ∃ vs : List Value, (execOp a.eval o).run P w = .ok (.enter K vs.toArray) w ∧ vs.length = args.length ∧ ∀ (k : Nat) (h1 : k < vs.length) (h2 : k < args.length), RepS ι w (Free V ι Hc w) vs[k] (args[k].mapI ρ))
    (hH : KeptM ρ Hc H) (hok : namesOk ρ Hc H H' v nw = true) : OpT P o ev Hc (v.mapI ρ) (mapH ρ H' ++ Hc) (nw.map ρ) := by
  intro V ι w a Q hV hk hr
  obtain ⟨vs, hrun, hlen, hrep⟩ := hrun V ι w a hk hr
  obtain ⟨R, hc, hR⟩ := FCX.use (Cl := Calls P K) ρ hf hH hok hV hk hlen hrep
  unfold Oper.wp
  rw [hrun, Oper.upon_enter]
  refine Calls.mono hc ?_
  intro ex w' h
  obtain ⟨ι', rv, rfl, hst, hrv⟩ := hR ex w' h
  exact ⟨ι', rv, rfl, hst, hrv⟩

variable {H : Heap} {dst : Option Nat} {ty : TypeId} {pos : String} {after : Array Edge} {g : Option (Nat × Bool)}

/-- The arguments of a call, as they are seen. -/
def SeenL (ev : Operand → SV → Prop) : List Operand → List SV → Prop
  | [], [] => True
  | x :: r, s :: q => ev x s ∧ SeenL ev r q
  | _, _ => False

theorem SeenL.rep {ι : Nat → Value} {w : World} {F : Nat → Prop} {a : Act} : ∀ {r : List Operand} {q : List SV}, SeenL ev r q → (∀ x, x ∈ r → ∀ s, ev x s → RepS ι w F (a.eval x) s) →
    (r.map a.eval).length = q.length ∧ ∀ (k : Nat) (h1 : k < (r.map a.eval).length) (h2 : k < q.length), RepS ι w F (r.map a.eval)[k] q[k]
  | [], [], _, _ => ⟨rfl, fun k h1 => absurd h1 (by simp)⟩
  | x :: r, s :: q, h, hr => by
    have ih := SeenL.rep h.2 fun y hy => hr y (List.mem_cons_of_mem _ hy)
    refine ⟨by simpa using ih.1, fun k h1 h2 => ?_⟩
    cases k with
    | zero => exact hr x List.mem_cons_self _ h.1
    | succ k => exact ih.2 k (by simpa using h1) (by simpa using h2)
  | [], _ :: _, h, _ => h.elim
  | _ :: _, [], h, _ => h.elim

/-- The call of a function that is handed owned blocks. -/
theorem op_callH {K : FuncId} {ts : Array TypeId} {args : Array Operand} {ags : List SV} {H0 H' Hc : Heap} {v : SV} {nw : Option Nat} (ρ : Nat → Nat) (hcall : ∀ vs w, (callFunc K vs).run P w = .ok (.enter K vs) w)
    (hf : FCH P K ags H0 H' v nw) (hv : SeenL ev args.toList (SV.mapIL ρ ags)) (hH : KeptM ρ Hc H0) (hok : namesOk ρ Hc H0 H' v nw = true) :
    OpT P ⟨dst, .call ⟨.value (.func K), args, ts⟩, ty, pos, after, g⟩ ev Hc (v.mapI ρ) (mapH ρ H' ++ Hc) (nw.map ρ) := by
  refine FCH.op ρ hf (fun V ι w a hk hr => ?_) hH hok
  have hrep := hv.rep (ι := ι) (w := w) (F := Free V ι Hc w) (a := a) fun x hx => hr x (by simp only [Op.operands, Call.operands, Array.mem_append]; exact .inr (Array.mem_toList_iff.1 hx))
  rw [SV.mapIL_map] at hrep
  refine ⟨args.toList.map a.eval, ?_, by simpa using hrep.1, fun k h1 h2 => ?_⟩
  · have e : (args.toList.map a.eval).toArray = args.map a.eval := by rw [← Array.toList_inj]; simp
    rw [e]
    simp [execOp, resolve, Deferred.ofValue, Act.eval, invoke, hcall]
  · have := hrep.2 k h1 (by simpa using h2)
    simpa using this

/-- The call of a closure that is handed, or holds, owned blocks. -/
theorem op_callVH {n : Nat} {K : FuncId} {ts : Array TypeId} {args : Array Operand} {ags caps : List SV} {H0 H' Hc : Heap} {v : SV} {nw : Option Nat} (ρ : Nat → Nat) (hcall : ∀ vs w, (callFunc K vs).run P w = .ok (.enter K vs) w)
    (hf : FCH P K (ags ++ caps) H0 H' v nw) (hx : ev (.tmp n) (.clo (.func K) (SV.mapIL ρ caps))) (hv : SeenL ev args.toList (SV.mapIL ρ ags)) (hH : KeptM ρ Hc H0) (hok : namesOk ρ Hc H0 H' v nw = true) :
    OpT P ⟨dst, .call ⟨.value (.tmp n), args, ts⟩, ty, pos, after, g⟩ ev Hc (v.mapI ρ) (mapH ρ H' ++ Hc) (nw.map ρ) := by
  refine FCH.op ρ hf (fun V ι w a hk hr => ?_) hH hok
  have hrep := hv.rep (ι := ι) (w := w) (F := Free V ι Hc w) (a := a) fun x hx => hr x (by simp only [Op.operands, Call.operands, Array.mem_append]; exact .inr (Array.mem_toList_iff.1 hx))
  rw [SV.mapIL_map] at hrep
  have hxv := hr (.tmp n) (by simp [Op.operands, Call.operands]) _ hx
  obtain ⟨xs, hxe, hxl, hxr⟩ : ∃ xs : List Value, a.eval (.tmp n) = .func (.func K) #[] xs.toArray ∧ xs.length = (SV.mapIL ρ caps).length ∧ ∀ (k : Nat) (h1 : k < xs.length) (h2 : k < (SV.mapIL ρ caps).length), RepS ι w (Free V ι Hc w) xs[k] (SV.mapIL ρ caps)[k] := by
    generalize a.eval (.tmp n) = u at hxv
    cases hxv with
    | clo _ xs _ hl hr' => exact ⟨xs, rfl, hl, hr'⟩
  have hxl' : xs.length = caps.length := by rw [SV.mapIL_map] at hxl; simpa using hxl
  have hal : (args.toList.map a.eval).length = ags.length := by simpa using hrep.1
  refine ⟨args.toList.map a.eval ++ xs, ?_, by simp at hal; simp [hal, hxl'], fun k h1 h2 => ?_⟩
  · have e : (args.toList.map a.eval ++ xs).toArray = args.map a.eval ++ xs.toArray := by rw [← Array.toList_inj]; simp
    rw [e]
    simp [execOp, resolve, hxe, Deferred.ofValue, invoke, hcall]
  · by_cases hk2 : k < ags.length
    · rw [List.getElem_append_left (by omega), List.getElem_append_left hk2]
      have := hrep.2 k (by omega) (by simpa using hk2)
      simpa using this
    · rw [List.getElem_append_right (by omega), List.getElem_append_right (by omega)]
      have h3 : k - ags.length < caps.length := by simp at h2; omega
      have := hxr (k - ags.length) (by omega) (by rw [SV.mapIL_map]; simpa using h3)
      simpa [SV.mapIL_map, hal] using this

theorem op_makeFuncS {K : FuncId} {caps : Array Operand} {cs : List SV} (hv : SeenL ev caps.toList cs) : OpT P ⟨dst, .makeFunc (.func K) #[] caps, ty, pos, after, g⟩ ev H (.clo (.func K) cs) H none :=
  OpT.value fun V ι w a hk hr => by
    have hrep := hv.rep (ι := ι) (w := w) (F := Free V ι H w) (a := a) fun x hx => hr x (by simp only [Op.operands]; first | exact Array.mem_toList_iff.1 hx | simpa using hx)
    refine ⟨.func (.func K) #[] (caps.map a.eval), by simp [execOp, Instr.makeFunc], ?_⟩
    have e : caps.map a.eval = (caps.toList.map a.eval).toArray := by rw [← Array.toList_inj]; simp
    rw [e]
    exact .clo _ _ cs hrep.1 hrep.2
end ops

def PinsK (env : Env) (ι0 : Nat → Value) (nw : Option Nat) : Heap → Prop
  | [] => True
  | (id, _) :: r => (nw = some id ∨ lk env (1000000 + id) = some (.pin id (ι0 id))) ∧ PinsK env ι0 nw r
theorem PinsK.get {env : Env} {ι0 : Nat → Value} {nw : Option Nat} : ∀ {H : Heap}, PinsK env ι0 nw H → ∀ id, nw ≠ some id → id ∈ H.map (·.1) → lk env (1000000 + id) = some (.pin id (ι0 id))
  | [], _, id, _, hm => by simp at hm
  | (u, b) :: r, h, id, hn, hm => by
    simp only [List.map_cons, List.mem_cons] at hm
    by_cases e : id = u
    · subst e; exact h.1.resolve_left hn
    · exact h.2.get id hn (hm.resolve_left e)

section rets
variable {fn : Func} {ι0 : Nat → Value} {H H' : Heap} {v : SV} {nw : Option Nat} {st : St}
theorem retH0 (hr : fn.results.toList = []) (hk : KeptH st.H H') (hp : PinsK st.env ι0 nw H) (hv : SV.pv (.tup []) = v) : retH fn ι0 H H' v nw .normal st :=
  ⟨st, Ent.refl _, hk, hp.get, [], by rw [hr]; rfl, by rw [← hv]; rfl⟩
theorem retH1 {t : Nat} {s : SV} (hr : fn.results.toList = [.tmp t]) (h : lk st.env t = some s) (hk : KeptH st.H H') (hp : PinsK st.env ι0 nw H) (hv : s = v) : retH fn ι0 H H' v nw .normal st :=
  ⟨st, Ent.refl _, hk, hp.get, [s], by rw [hr]; simp only [resS, h], by rw [← hv]; rfl⟩
theorem retH2 {t u : Nat} {p q : PV} (hr : fn.results.toList = [.tmp t, .tmp u]) (h : lk st.env t = some (.pv p)) (h' : lk st.env u = some (.pv q)) (hk : KeptH st.H H') (hp : PinsK st.env ι0 nw H) (hv : SV.pv (.tup [p, q]) = v) : retH fn ι0 H H' v nw .normal st :=
  ⟨st, Ent.refl _, hk, hp.get, [.pv p, .pv q], by rw [hr]; simp only [resS, h, h'], by rw [← hv]; rfl⟩
end rets
end Go.Abs
