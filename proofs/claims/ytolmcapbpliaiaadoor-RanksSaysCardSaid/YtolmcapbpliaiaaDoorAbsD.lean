/- Slices that are known to be no nil slice; what a call makes and hands over; bits. Conditions: each law names its own. -/
import Derived.Test.YtolmcapbpliaiaaDoorAbsC
import Derived.Laws.Cover3
import Derived.Laws.Bits64b
namespace Go.Abs
set_option linter.unusedVariables false
variable {B : BT}

/-! ### The nil slice, and others -/

section rules
variable {ro : Option Nat} {P : Program} {n : Nat} {Q : Exit → St → Prop}

/-- A slice in slot t: the nil slice, or another one. -/
theorem awp_nilsplit {c : Code} {env : Env} {H : Heap} (t : Nat) {α : Type} {d : α} {f : α → List PV} {l : List α} (ht : lk env t = some (.pv (.seq α d f l)))
    (h1 : l = [] → awp (ro := ro) (B := B) P n c Q ⟨(t, .pv .nil) :: env, H⟩) (h2 : awp (ro := ro) (B := B) P n c Q ⟨(t, .nn (.seq α d f l)) :: env, H⟩) : awp (ro := ro) (B := B) P n c Q ⟨env, H⟩ := by
  intro w0 O V ι a w hs
  have hr := (hs.env t _ ht).pv_inv
  generalize hv : a.tmps.getD t undef = v at hr
  have hkeep := hr
  cases hr with
  | seq0 α d f a' cap h0 =>
    cases a' with
    | none =>
      obtain rfl := h0 rfl
      exact h1 rfl w0 O V ι a w (hs.put (by rw [hv]; exact .pv _ _ .nil))
    | some b => exact h2 w0 O V ι a w (hs.put (by rw [hv]; exact .nn _ _ hkeep ⟨_, _, _, rfl⟩))
  | seq α d f l b off cap xs hF hcap hm hl hc hr => exact h2 w0 O V ι a w (hs.put (by rw [hv]; exact .nn _ _ hkeep ⟨_, _, _, rfl⟩))

/-- That a slice is no nil slice may be forgotten. -/
theorem Ent.denn {env : Env} {H : Heap} (t : Nat) {p : PV} (ht : lk env t = some (.nn p)) : Ent ⟨env, H⟩ ⟨(t, .pv p) :: env, H⟩ := by
  intro B w0 O V n ι a w hs
  have h0 := hs.env t _ ht
  refine ⟨ι, hs.put ?_⟩
  generalize a.tmps.getD t undef = v at *
  cases h0 with | nn _ _ h _ => exact .pv _ _ h
/-- A slice with something in it is no nil slice. -/
theorem Ent.nilseq {env : Env} {H : Heap} (t : Nat) (α : Type) (d : α) (f : α → List PV) (ht : lk env t = some (.pv .nil)) : Ent ⟨env, H⟩ ⟨(t, .pv (.seq α d f [])) :: env, H⟩ := by
  intro B w0 O V n ι a w hs
  have h0 := (hs.env t _ ht).pv_inv
  refine ⟨ι, hs.put ?_⟩
  generalize a.tmps.getD t undef = v at *
  cases h0
  exact .pv _ _ (.seq0 _ _ _ _ _ fun _ => rfl)
/-- What is nil or a slice may be read as a slice. -/
theorem Ent.nilor {env : Env} {H : Heap} (t : Nat) {p : PV} {α : Type} {d : α} {f : α → List PV} {l : List α} (ht : lk env t = some (.pv p)) (h : (p = .nil ∧ l = []) ∨ p = .seq α d f l) : Ent ⟨env, H⟩ ⟨(t, .pv (.seq α d f l)) :: env, H⟩ := by
  rcases h with ⟨rfl, rfl⟩ | rfl
  · exact Ent.nilseq t α d f ht
  · intro B w0 O V n ι a w hs
    exact ⟨ι, hs.put (hs.env t _ ht)⟩
end rules

section ops
variable {P : Program} {ev : Operand → SV → Prop} {H : Heap} {dst : Option Nat} {ty : TypeId} {pos : String} {after : Array Edge} {g : Option (Nat × Bool)}

theorem run_eql_slice_nil (w : World) (t e : TypeId) (a : Option Addr) (l c : Nat) (h : P.underlying t = some (.slice e)) : (Go.binOp .eql t (.slice a l c) (.slice none 0 0)).run P w = .ok (.bool a.isNone) w := by
  simp only [Go.binOp]
  simp [run_equal_slice_nil w t e a l c h]

theorem op_nn_nil {t yt e : TypeId} {x : Operand} {p : PV} (ht : P.underlying t = some (.slice e)) (hx : ev x (.nn p)) : OpT P ⟨dst, .binOp .eql t x (.const (.slice none 0 0)) yt, ty, pos, after, g⟩ ev H (.bool false) H none :=
  OpT.value fun V ι w A hk hr => by
    have h0 := hr x (by simp [Op.operands]) _ hx
    refine ⟨.bool false, ?_, .pv _ _ (.bool _)⟩
    generalize hv : A.eval x = v at *
    cases h0 with
    | nn _ _ h hs =>
      obtain ⟨a, n, c, rfl⟩ := hs
      have := run_eql_slice_nil (P := P) w t e (some a) n c ht
      simp only [Option.isNone_some] at this
      simp [execOp, hv, show A.eval (.const (.slice none 0 0)) = .slice none 0 0 from rfl, eqGuard_at_slice, this]
theorem op_nil_nil {t yt e : TypeId} {x : Operand} (ht : P.underlying t = some (.slice e)) (hx : ev x (.pv .nil)) : OpT P ⟨dst, .binOp .eql t x (.const (.slice none 0 0)) yt, ty, pos, after, g⟩ ev H (.bool true) H none :=
  OpT.value fun V ι w A hk hr => by
    have h0 := (hr x (by simp [Op.operands]) _ hx).pv_inv
    refine ⟨.bool true, ?_, .pv _ _ (.bool _)⟩
    generalize hv : A.eval x = v at *
    cases h0
    have := run_eql_slice_nil (P := P) w t e none 0 0 ht
    simp only [Option.isNone_none] at this
    simp [execOp, hv, show A.eval (.const (.slice none 0 0)) = .slice none 0 0 from rfl, eqGuard_at_slice, this]
/-- '== nil' of what is either nil or a slice with something in it. -/
theorem op_is_nil {t yt e : TypeId} {x : Operand} {p : PV} {b : Bool} (ht : P.underlying t = some (.slice e)) (hx : ev x (.pv p)) (h : (b = true ∧ p = .nil) ∨ (b = false ∧ ∃ α d f, ∃ l : List α, p = .seq α d f l ∧ l ≠ [])) :
    OpT P ⟨dst, .binOp .eql t x (.const (.slice none 0 0)) yt, ty, pos, after, g⟩ ev H (.bool b) H none :=
  OpT.value fun V ι w A hk hr => by
    have h0 := (hr x (by simp [Op.operands]) _ hx).pv_inv
    refine ⟨.bool b, ?_, .pv _ _ (.bool _)⟩
    generalize hv : A.eval x = v at *
    rcases h with ⟨rfl, rfl⟩ | ⟨rfl, α, d, f, l, rfl, hl⟩
    · cases h0
      have := run_eql_slice_nil (P := P) w t e none 0 0 ht
      simp only [Option.isNone_none] at this
      simp [execOp, hv, show A.eval (.const (.slice none 0 0)) = .slice none 0 0 from rfl, eqGuard_at_slice, this]
    · cases h0 with
      | seq0 => exact absurd rfl hl
      | seq α d f l b off cap xs =>
        have := run_eql_slice_nil (P := P) w t e (some ⟨b, off, none⟩) l.length cap ht
        simp only [Option.isNone_some] at this
        simp [execOp, hv, show A.eval (.const (.slice none 0 0)) = .slice none 0 0 from rfl, eqGuard_at_slice, this]

/-! ### Bits -/

theorem bits_and_i64_nat (a b : Nat) (ha : a < 9223372036854775808) (hb : b < 9223372036854775808) : bits .and .i64 (a : Int) (b : Int) = ((a &&& b : Nat) : Int) := by
  have hx : a &&& b < 2 ^ 63 := Nat.and_lt_two_pow _ (by omega)
  have h1 : (BitVec.ofInt 64 (a : Int)).toNat = a := by
    rw [BitVec.ofInt_natCast, BitVec.toNat_ofNat]; exact Nat.mod_eq_of_lt (by omega)
  have h2 : (BitVec.ofInt 64 (b : Int)).toNat = b := by
    rw [BitVec.ofInt_natCast, BitVec.toNat_ofNat]; exact Nat.mod_eq_of_lt (by omega)
  show IntKind.i64.wrap ((BitVec.ofInt 64 (a : Int) &&& BitVec.ofInt 64 (b : Int)).toNat : Int) = _
  rw [BitVec.toNat_and, h1, h2]
  exact IntWalk.i64_in _ (by omega)
theorem op_bit {t yt : TypeId} {x : Operand} {m : Int} (hx : ev x (.int m)) (h : 0 ≤ m) : OpT P ⟨dst, .binOp .and t x (.const (.int .i64 1)) yt, ty, pos, after, g⟩ ev H (.int (m % 2)) H none :=
  OpT.value fun V ι w A hk hr => by
    have h1 := (hr x (by simp [Op.operands]) _ hx).pv_inv.int_inv
    have h2 := (hr x (by simp [Op.operands]) _ hx).pv_inv.fit.int64
    have hb : bits .and .i64 m 1 = m % 2 := by
      obtain ⟨k, rfl⟩ : ∃ k : Nat, m = k := ⟨m.toNat, by omega⟩
      rw [show (1 : Int) = ((1 : Nat) : Int) from rfl, bits_and_i64_nat k 1 (by unfold InR at h2; omega) (by omega), Nat.and_one_is_mod]
      omega
    exact ⟨.int .i64 (m % 2), by simp [execOp, h1, show A.eval (.const (.int .i64 1)) = .int .i64 1 from rfl, hb, eqGuard_at_int, binOp_and, intBits_and], .pv _ _ (.int _ _ (inK_i64.2 (by unfold InR at *; omega)))⟩
end ops

/-! ### A call that makes a slice and hands it over -/

def FCO (P : Program) (K : FuncId) (vals : List PV) (e z : Nat) (α : Type) (d : α) (f : α → List PV) (l : List α) : Prop :=
  ∀ (w : World) (vs : List Value) (F : Nat → Prop), (∀ b, F b → b < w.heap.size) → RepL w F vs vals →
    Calls P K vs.toArray w fun ex w' => ∃ rv, ex = .returned rv ∧ (∃ xs : List Value, w'.ownsRow w.heap.size e z rv l.length xs ∧
      RepL w' (fun b => (F b ∨ (w.heap.size ≤ b ∧ b < w'.heap.size)) ∧ rv.ownBlock ≠ some b) xs (l.flatMap f) ∧ l.length ≤ 281474976710656) ∧
      w'.os = w.os ∧ w'.tape = w.tape ∧ w'.output = w.output ∧ w.heap.size ≤ w'.heap.size ∧ ∀ b, b < w.heap.size → w'.heap[b]? = w.heap[b]?

theorem FCO.fc {P : Program} {K : FuncId} {vals : List PV} {e z : Nat} {α : Type} {d : α} {f : α → List PV} {l : List α} (h : FCO P K vals e z α d f l) : FC P K vals (.seq α d f l) := by
  intro w vs F hF hr
  refine Calls.mono (h w vs F hF hr) ?_
  rintro ex w' ⟨rv, rfl, ⟨xs, ho, hrep, hm⟩, hos, htape, hout, hsize, hall⟩
  refine ⟨rv, rfl, ?_, hos, htape, hout, hsize, hall⟩
  rcases ho.2 with ⟨rfl, hn⟩ | ⟨b, cap, cur, rfl, hb, hg, hnc, _⟩
  · obtain rfl : l = [] := List.eq_nil_of_length_eq_zero hn
    exact .seq0 _ _ _ _ _ fun _ => rfl
  · have hlt := (Array.getElem?_eq_some_iff.1 hg).1
    refine .seq α d f l b 0 cap xs (.inr ⟨hb, hlt⟩) hnc hm hrep.1 (fun k h1 => ?_) fun k h1 h2 => (hrep.2 k h1 h2).mono (fun _ _ => rfl) fun b hb => hb.1
    have := ho.cells (g := b) rfl k xs[k] (List.getElem?_eq_getElem h1)
    rw [Addr.add_lit] at this
    exact this

/-- At its end the function holds the slice that it made. -/
def retO (fn : Func) (e z : Nat) (α : Type) (d : α) (f : α → List PV) (l : List α) : Exit → St → Prop
  | .normal, st | .ret, st => ∃ st' t id, Ent st st' ∧ fn.results.toList = [.tmp t] ∧ lk st'.env t = some (.own id) ∧ List.lookup id st'.H = some (.arr e z α d f l)
  | _, _ => False

section
variable {fn : Func} {e z : Nat} {α : Type} {d : α} {f : α → List PV} {l : List α} {st : St}
theorem retO.ret (h : retO fn e z α d f l .normal st) : retO fn e z α d f l .ret st := h
theorem retO1 {t id : Nat} {l' : List α} (hr : fn.results.toList = [.tmp t]) (h : lk st.env t = some (.own id)) (h' : List.lookup id st.H = some (.arr e z α d f l')) (hl : l' = l) : retO fn e z α d f l .normal st :=
  ⟨st, t, id, Ent.refl _, hr, h, by rw [h', hl]⟩
end

theorem FCO.intro {P : Program} {K : FuncId} {fn : Func} {c : Code} {vals : List PV} {e z : Nat} {α : Type} {d : α} {f : α → List PV} {l : List α} (hf : P.funcs[K]? = some fn) (hb : fn.body = some c) (hn : vals.length ≤ fn.ntmps)
    (h : (∀ p, p ∈ vals → p.Fit) → awp (ro := none) (B := none) P fn.ntmps c (retO fn e z α d f l) ⟨envOf 0 vals, []⟩) : FCO P K vals e z α d f l := by
  intro w vs F hF hr
  have h := h fun p hp => by
    obtain ⟨k, hk, e⟩ := List.getElem_of_mem hp
    rw [← e]; exact (hr.2 k (hr.1 ▸ hk) hk).fit
  have hsim := sim_begin (n := fn.ntmps) hF hr hn
  refine (calls_of_sim (R := fun rv w' => (∃ xs : List Value, w'.ownsRow w.heap.size e z rv l.length xs ∧
        RepL w' (fun b => (F b ∨ (w.heap.size ≤ b ∧ b < w'.heap.size)) ∧ rv.ownBlock ≠ some b) xs (l.flatMap f) ∧ l.length ≤ 281474976710656) ∧
        w'.os = w.os ∧ w'.tape = w.tape ∧ w'.output = w.output ∧ w.heap.size ≤ w'.heap.size ∧ ∀ b, b < w.heap.size → w'.heap[b]? = w.heap[b]?)
    hf hb (h w _ _ _ _ w hsim) (fun e st' hq => ?_) ?_)
  · cases e <;> first | exact .inl rfl | exact .inr rfl | exact hq.elim
  · rintro ex st' V' ι' a' w' hq hvv hs'
    have hq' : ∃ st2 t id, Ent st' st2 ∧ fn.results.toList = [.tmp t] ∧ lk st2.env t = some (.own id) ∧ List.lookup id st2.H = some (.arr e z α d f l) := by
      cases ex <;> first | exact hq | exact hq.elim
    obtain ⟨st2, t, id, hent, hres, ht, hl⟩ := hq'
    obtain ⟨ι2, hs2⟩ := hent _ _ _ _ _ _ _ _ hs'
    have hv := hs2.env t _ ht
    obtain ⟨xs, ho, hrep, hm⟩ := hs2.heap.ok id _ hl
    have hx : (fn.results.toList.mapM (resOne a'.tmps)).run P w' = .ok [a'.tmps.getD t undef] w' := by rw [hres]; simp [resOne]
    have hrun := results_run hx
    simp only [List.length_cons, List.length_nil, Nat.zero_add, ↓reduceDIte, List.getElem_cons_zero] at hrun
    refine ⟨_, hrun, ?_, hs2.os, hs2.tape, hs2.output, hs2.size, fun b hb => hs2.kept b hb (by simp)⟩
    generalize a'.tmps.getD t undef = v at hv
    cases hv
    refine ⟨xs, ?_, hrep.mono (fun _ _ => rfl) fun b hb => ⟨?_, fun he => hb.2.2 ⟨id, _, hl, by rw [blkOf_own ho]; exact he⟩⟩, hm⟩
    · refine ⟨ho.1, ?_⟩
      rcases ho.2 with h0 | ⟨g, cap, cur, h1, h2, h3⟩
      · exact .inl h0
      · refine .inr ⟨g, cap, cur, h1, ?_, h3⟩
        have := hs2.mine g ⟨id, _, hl, by rw [h1]; rfl⟩
        simpa using this
    · rcases hvv b hb.2.1 with h2 | h2
      · exact .inl h2
      · exact .inr ⟨h2, hb.1⟩

section ops
variable {P : Program} {ev : Operand → SV → Prop} {H : Heap} {dst : Option Nat} {ty : TypeId} {pos : String} {after : Array Edge} {g : Option (Nat × Bool)}

/-- The call of such a function: what it made is owned. -/
theorem op_callO {K : FuncId} {ts : Array TypeId} {args : Array Operand} {vals : List PV} {e z : Nat} {α : Type} {d : α} {f : α → List PV} {l : List α} (id : Nat) (hcall : ∀ vs w, (callFunc K vs).run P w = .ok (.enter K vs) w)
    (hv : Views ev H args.toList vals) (hf : FCO P K vals e z α d f l) (hflat : ∀ x c, c ∈ f x → c.flat = true) (hm : heapMen id H = false) :
    OpT P ⟨dst, .call ⟨.value (.func K), args, ts⟩, ty, pos, after, g⟩ ev H (.own id) ((id, .arr e z α d f l) :: H) (some id) := by
  intro V ι w a Q hV hk hr
  have hrep : RepL w (Vis V w) (args.map a.eval).toList vals := by
    rw [Array.toList_map]
    exact hv.rep hk fun x hx => hr x (by simp only [Op.operands, Call.operands, Array.mem_append]; exact .inr (Array.mem_toList_iff.1 hx))
  have hc := hf w (args.map a.eval).toList (Vis V w) (fun b hb => hb.1) hrep
  rw [Array.toArray_toList] at hc
  unfold Oper.wp
  have hrun : (execOp a.eval ⟨dst, .call ⟨.value (.func K), args, ts⟩, ty, pos, after, g⟩).run P w = .ok (.enter K (args.map a.eval)) w := by
    simp [execOp, resolve, Deferred.ofValue, Act.eval, invoke, hcall]
  rw [hrun, Oper.upon_enter]
  refine Calls.mono hc ?_
  rintro ex w' ⟨rv, rfl, ⟨xs, ho, hrep, hml⟩, hos, htape, hout, hsize, hall⟩
  refine ⟨rename ι id rv, rv, rfl, ?_, RepS.ownNew id _⟩
  refine Step.new hV hk ⟨hos, htape, hout, hsize, fun k hk' _ => hall k hk'⟩ hm (fun b hb => ?_) ⟨xs, ⟨ho.1, ?_⟩, ?_, hml⟩
  · rcases ho.2 with ⟨rfl, _⟩ | ⟨g, cap, cur, rfl, h2, h3⟩
    · simp [blkOf] at hb
    · simp only [blkOf, Option.some.injEq] at hb; omega
  · rcases ho.2 with h0 | ⟨g, cap, cur, h1, h2, h3⟩
    · exact .inl h0
    · exact .inr ⟨g, cap, cur, h1, Nat.zero_le _, h3⟩
  · refine ⟨hrep.1, fun k h1 h2 => (hrep.2 k h1 h2).flat ?_⟩
    obtain ⟨x, _, hx⟩ := List.mem_flatMap.1 (List.getElem_mem h2)
    exact hflat x _ hx
end ops
theorem PV.Fit.mem {cs : List PV} (h : PV.Fit (.agg cs)) {p : PV} (hp : p ∈ cs) : p.Fit := by
  cases h with
  | agg _ h =>
    obtain ⟨k, hk, rfl⟩ := List.getElem_of_mem hp
    exact h k hk

section ops
variable {P : Program} {ev : Operand → SV → Prop} {H : Heap} {dst : Option Nat} {ty : TypeId} {pos : String} {after : Array Edge} {g : Option (Nat × Bool)}
/-- 'x[lo:hi]', the bounds any numbers. -/
theorem op_sliceI {t e z : Nat} {x : Operand} {lo hi : Option Operand} {kl kh : IntKind} {a b : Int} {α : Type} {d : α} {f : α → List PV} {l : List α} (ht : P.underlying t = some (.slice e)) (hsz : ∀ w, (sizeOf e).run P w = .ok z w) (hz : ∀ a, (f a).length = z)
    (hx : ev x (.pv (.seq α d f l))) (hlo : match lo with | some o => ev o (.pv (.int kl a)) | none => a = 0) (hhi : match hi with | some o => ev o (.pv (.int kh b)) | none => b = (l.length : Nat)) (h : 0 ≤ a ∧ a ≤ b ∧ b ≤ (l.length : Nat)) :
    OpT P ⟨dst, .slice t x lo hi none, ty, pos, after, g⟩ ev H (.pv (.seq α d f ((l.take b.toNat).drop a.toNat))) H none := by
  obtain ⟨m, rfl⟩ : ∃ m : Nat, a = m := ⟨a.toNat, by omega⟩
  obtain ⟨n, rfl⟩ : ∃ n : Nat, b = n := ⟨b.toNat, by omega⟩
  refine op_slice (kl := kl) (kh := kh) ht hsz hz hx ?_ ?_ (by simp only [Int.toNat_natCast]; omega)
  · cases lo with
    | none => simp only at hlo ⊢; simp only [Int.toNat_natCast]; omega
    | some o => simpa using hlo
  · cases hi with
    | none => simp only at hhi ⊢; simp only [Int.toNat_natCast]; omega
    | some o => simpa using hhi
end ops
end Go.Abs
