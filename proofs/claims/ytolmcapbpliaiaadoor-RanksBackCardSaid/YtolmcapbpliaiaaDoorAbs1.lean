/- A layer of plain values over the model's memory: which real value stands for which plain one, and how an operation, a region, a piece of code and a call act on plain values. Conditions: none; each law names its own. -/
import Derived.WalkKit
import Derived.Orders
import Derived.OrdersIn
import Derived.RangeFuncNested
import Derived.RangeFuncCalls
import Derived.RangeFuncLeaves
import Derived.TacticsIn
namespace Go.Abs
set_option linter.unusedVariables false

/-- Plain values. 'seq': a slice that nobody writes any more, read as a list; 'rd': a pointer to cells that nobody writes any more; 'nil': the nil slice; 'cap0': a slice with no room. -/
inductive PV : Type 1
  | int (k : IntKind) (n : Int)
  | bool (b : Bool)
  | str (s : ByteArray)
  | agg (cs : List PV)
  | tup (vs : List PV)
  | seq (α : Type) (d : α) (f : α → List PV) (l : List α)
  | nil
  | cap0
  | rd (cs : List PV)
  | clo (K : FuncId) (caps : List PV)
  | val (v : Value)
  | err
  | cell1
  | any

abbrev PV.i (n : Int) : PV := .int .i64 n
abbrev PV.ints (l : List Int) : PV := .seq Int 0 (fun n => [.int .i64 n]) l
abbrev PV.bools (l : List Bool) : PV := .seq Bool false (fun n => [.bool n]) l
abbrev PV.rows (l : List (List Int)) : PV := .seq (List Int) [] (fun r => [PV.ints r]) l

/-- A cell holds one of these. -/
def PV.one : PV → Bool
  | .agg _ | .tup _ | .any => false
  | .val v => v.oneCell'
  | _ => true

/-- What cells a plain value takes. -/
def PV.cells : PV → List PV
  | .agg cs => cs
  | p => [p]

/-- A number of its kind. -/
def InK (k : IntKind) (n : Int) : Prop := k.min ≤ n ∧ n ≤ k.max
def InR (n : Int) : Prop := -9223372036854775808 ≤ n ∧ n ≤ 9223372036854775807
theorem inK_i64 {n : Int} : InK .i64 n ↔ InR n := by simp [InK, InR, IntKind.min, IntKind.max, IntKind.signed, IntKind.bits]

/-- The real value v stands for the plain one; all that is read lies in blocks of F. -/
inductive Rep (w : World) (F : Nat → Prop) : Value → PV → Prop
  | int (k : IntKind) (n : Int) (h : InK k n) : Rep w F (.int k n) (.int k n)
  | bool (b : Bool) : Rep w F (.bool b) (.bool b)
  | str (s : ByteArray) (h : s.size ≤ 281474976710656) : Rep w F (.string s) (.str s)
  | agg (xs : List Value) (cs : List PV) (hl : xs.length = cs.length) (hr : ∀ (k : Nat) (h1 : k < xs.length) (h2 : k < cs.length), Rep w F xs[k] cs[k]) : Rep w F (.agg xs.toArray) (.agg cs)
  | tup (xs : List Value) (cs : List PV) (hl : xs.length = cs.length) (hr : ∀ (k : Nat) (h1 : k < xs.length) (h2 : k < cs.length), Rep w F xs[k] cs[k]) : Rep w F (.tuple xs.toArray) (.tup cs)
  | seq0 (α : Type) (d : α) (f : α → List PV) (a : Option Addr) (cap : Nat) (h0 : a = none → cap = 0) : Rep w F (.slice a 0 cap) (.seq α d f [])
  | seq (α : Type) (d : α) (f : α → List PV) (l : List α) (b off cap : Nat) (xs : List Value) (hF : F b) (hcap : l.length ≤ cap) (hm : l.length ≤ 281474976710656)
      (hl : xs.length = (l.flatMap f).length)
      (hc : ∀ (k : Nat) (h1 : k < xs.length), w.cell? ⟨b, off + k, none⟩ = some xs[k])
      (hr : ∀ (k : Nat) (h1 : k < xs.length) (h2 : k < (l.flatMap f).length), Rep w F xs[k] (l.flatMap f)[k]) :
      Rep w F (.slice (some ⟨b, off, none⟩) l.length cap) (.seq α d f l)
  | nil : Rep w F (.slice none 0 0) .nil
  | cap0 (a : Option Addr) : Rep w F (.slice a 0 0) .cap0
  | rd (cs : List PV) (b off : Nat) (xs : List Value) (hF : F b) (hl : xs.length = cs.length)
      (hc : ∀ (k : Nat) (h1 : k < xs.length), w.cell? ⟨b, off + k, none⟩ = some xs[k])
      (hr : ∀ (k : Nat) (h1 : k < xs.length) (h2 : k < cs.length), Rep w F xs[k] cs[k]) :
      Rep w F (.pointer (some ⟨b, off, none⟩)) (.rd cs)
  | clo (K : FuncId) (xs : List Value) (cs : List PV) (hl : xs.length = cs.length) (hr : ∀ (k : Nat) (h1 : k < xs.length) (h2 : k < cs.length), Rep w F xs[k] cs[k]) : Rep w F (.func (.func K) #[] xs.toArray) (.clo K cs)
  | val (v : Value) (h : v.oneCell' = true) : Rep w F v (.val v)
  | err (t : TypeId) (u : Value) : Rep w F (.iface t u) .err
  | cell1 (v : Value) (h : v.oneCell' = true) : Rep w F v .cell1
  | any (v : Value) : Rep w F v .any

def RepL (w : World) (F : Nat → Prop) (xs : List Value) (cs : List PV) : Prop :=
  xs.length = cs.length ∧ ∀ (k : Nat) (h1 : k < xs.length) (h2 : k < cs.length), Rep w F xs[k] cs[k]

theorem RepL.nil {w : World} {F : Nat → Prop} : RepL w F [] [] := ⟨rfl, fun k h1 => absurd h1 (by simp)⟩

theorem RepL.cons {w : World} {F : Nat → Prop} {x : Value} {xs : List Value} {c : PV} {cs : List PV} (h : Rep w F x c) (hs : RepL w F xs cs) : RepL w F (x :: xs) (c :: cs) := by
  refine ⟨by simp [hs.1], fun k h1 h2 => ?_⟩
  cases k with
  | zero => exact h
  | succ k => exact hs.2 k (by simpa using h1) (by simpa using h2)

theorem RepL.cons_inv {w : World} {F : Nat → Prop} {xs : List Value} {c : PV} {cs : List PV} (h : RepL w F xs (c :: cs)) :
    ∃ x xs', xs = x :: xs' ∧ Rep w F x c ∧ RepL w F xs' cs := by
  obtain ⟨hl, hr⟩ := h
  cases xs with
  | nil => simp at hl
  | cons x xs' =>
    refine ⟨x, xs', rfl, hr 0 (by simp) (by simp), by simpa using hl, fun k h1 h2 => ?_⟩
    exact hr (k + 1) (by simpa using h1) (by simpa using h2)

theorem RepL.nil_inv {w : World} {F : Nat → Prop} {xs : List Value} (h : RepL w F xs []) : xs = [] := List.eq_nil_of_length_eq_zero (by simpa using h.1)

theorem RepL.append {w : World} {F : Nat → Prop} {xs ys : List Value} {cs ds : List PV} (h : RepL w F xs cs) (h' : RepL w F ys ds) : RepL w F (xs ++ ys) (cs ++ ds) := by
  refine ⟨by simp [h.1, h'.1], fun k h1 h2 => ?_⟩
  by_cases hk : k < xs.length
  · rw [List.getElem_append_left hk, List.getElem_append_left (h.1 ▸ hk)]
    exact h.2 k hk _
  · have hk2 : ¬ k < cs.length := h.1 ▸ hk
    rw [List.getElem_append_right (by omega), List.getElem_append_right (by omega)]
    have e : k - cs.length = k - xs.length := by rw [h.1]
    have := h'.2 (k - xs.length) (by simp at h1; omega) (by simp at h2; have := h.1; omega)
    simpa [e] using this

theorem RepL.drop {w : World} {F : Nat → Prop} {xs : List Value} {cs : List PV} (h : RepL w F xs cs) (n : Nat) : RepL w F (xs.drop n) (cs.drop n) := by
  refine ⟨by simp [h.1], fun k h1 h2 => ?_⟩
  simp only [List.getElem_drop]
  exact h.2 _ _ _

theorem RepL.take {w : World} {F : Nat → Prop} {xs : List Value} {cs : List PV} (h : RepL w F xs cs) (n : Nat) : RepL w F (xs.take n) (cs.take n) := by
  refine ⟨by simp [h.1], fun k h1 h2 => ?_⟩
  simp only [List.getElem_take]
  exact h.2 _ _ _

theorem Rep.mono {w w' : World} {F F' : Nat → Prop} {v : Value} {p : PV} (h : Rep w F v p) (hw : ∀ b, F b → w'.heap[b]? = w.heap[b]?) (hF : ∀ b, F b → F' b) : Rep w' F' v p := by
  induction h with
  | int k n h => exact .int k n h
  | bool b => exact .bool b
  | str s h => exact .str s h
  | agg xs cs hl hr ih => exact .agg xs cs hl ih
  | tup xs cs hl hr ih => exact .tup xs cs hl ih
  | seq0 α d f a cap h0 => exact .seq0 α d f a cap h0
  | seq α d f l b off cap xs hb hcap hm hl hc hr ih =>
    exact .seq α d f l b off cap xs (hF b hb) hcap hm hl (fun k h1 => by rw [World.cell?_of_block (w := w) (a := ⟨b, off + k, none⟩) (hw b hb)]; exact hc k h1) ih
  | nil => exact .nil
  | cap0 a => exact .cap0 a
  | rd cs b off xs hb hl hc hr ih =>
    exact .rd cs b off xs (hF b hb) hl (fun k h1 => by rw [World.cell?_of_block (w := w) (a := ⟨b, off + k, none⟩) (hw b hb)]; exact hc k h1) ih
  | clo K xs cs hl hr ih => exact .clo K xs cs hl ih
  | val v h => exact .val v h
  | err t u => exact .err t u
  | cell1 v h => exact .cell1 v h
  | any v => exact .any v

theorem RepL.mono {w w' : World} {F F' : Nat → Prop} {xs : List Value} {cs : List PV} (h : RepL w F xs cs) (hw : ∀ b, F b → w'.heap[b]? = w.heap[b]?) (hF : ∀ b, F b → F' b) : RepL w' F' xs cs :=
  ⟨h.1, fun k h1 h2 => (h.2 k h1 h2).mono hw hF⟩

theorem Rep.one {w : World} {F : Nat → Prop} {v : Value} {p : PV} (h : Rep w F v p) (hp : p.one = true) : v.oneCell' = true := by
  cases h <;> first | rfl | exact hp | assumption | (simp [PV.one] at hp)

/-- What every plain value that something stands for is: its numbers are of their kinds, its lists as long as lists can be. -/
inductive PV.Fit : PV → Prop
  | int (k : IntKind) (n : Int) (h : InK k n) : PV.Fit (.int k n)
  | bool (b : Bool) : PV.Fit (.bool b)
  | str (s : ByteArray) (h : s.size ≤ 281474976710656) : PV.Fit (.str s)
  | agg (cs : List PV) (h : ∀ (k : Nat) (h2 : k < cs.length), PV.Fit cs[k]) : PV.Fit (.agg cs)
  | tup (cs : List PV) (h : ∀ (k : Nat) (h2 : k < cs.length), PV.Fit cs[k]) : PV.Fit (.tup cs)
  | seq (α : Type) (d : α) (f : α → List PV) (l : List α) (hm : l.length ≤ 281474976710656) (h : ∀ (k : Nat) (h2 : k < (l.flatMap f).length), PV.Fit (l.flatMap f)[k]) : PV.Fit (.seq α d f l)
  | nil : PV.Fit .nil
  | cap0 : PV.Fit .cap0
  | rd (cs : List PV) (h : ∀ (k : Nat) (h2 : k < cs.length), PV.Fit cs[k]) : PV.Fit (.rd cs)
  | clo (K : FuncId) (cs : List PV) : PV.Fit (.clo K cs)
  | val (v : Value) : PV.Fit (.val v)
  | err : PV.Fit .err
  | cell1 : PV.Fit .cell1
  | any : PV.Fit .any

theorem Rep.fit {w : World} {F : Nat → Prop} {v : Value} {p : PV} (h : Rep w F v p) : p.Fit := by
  induction h with
  | int k n h => exact .int k n h
  | bool b => exact .bool b
  | str s h => exact .str s h
  | agg xs cs hl hr ih => exact .agg cs fun k h2 => ih k (hl ▸ h2) h2
  | tup xs cs hl hr ih => exact .tup cs fun k h2 => ih k (hl ▸ h2) h2
  | seq0 α d f a cap _ => exact .seq α d f [] (Nat.zero_le _) fun k h2 => absurd h2 (by simp)
  | seq α d f l b off cap xs hb hcap hm hl hc hr ih => exact .seq α d f l hm fun k h2 => ih k (hl ▸ h2) h2
  | nil => exact .nil
  | cap0 a => exact .cap0
  | rd cs b off xs hb hl hc hr ih => exact .rd cs fun k h2 => ih k (hl ▸ h2) h2
  | clo K xs cs hl hr ih => exact .clo K cs
  | val v h => exact .val v
  | err t u => exact .err
  | cell1 v h => exact .cell1
  | any v => exact .any

theorem PV.Fit.int64 {n : Int} (h : PV.Fit (.int .i64 n)) : InR n := by cases h; exact inK_i64.1 (by assumption)
theorem PV.Fit.len {α : Type} {d : α} {f : α → List PV} {l : List α} (h : PV.Fit (.seq α d f l)) : l.length ≤ 281474976710656 := by cases h; assumption
theorem PV.Fit.elem {α : Type} {d : α} {f : α → List PV} {l : List α} (h : PV.Fit (.seq α d f l)) {x : α} (hx : x ∈ l) {c : PV} (hc : c ∈ f x) : c.Fit := by
  cases h with
  | seq _ _ _ _ hm h =>
    obtain ⟨k, hk, e⟩ := List.getElem_of_mem (List.mem_flatMap.2 ⟨x, hx, hc⟩)
    rw [← e]; exact h k hk
theorem PV.Fit.ints {l : List Int} (h : PV.Fit (.ints l)) : l.length ≤ 281474976710656 ∧ ∀ n, n ∈ l → InR n := ⟨h.len, fun n hn => (h.elem hn (c := .int .i64 n) (by simp)).int64⟩
theorem PV.Fit.rows {l : List (List Int)} (h : PV.Fit (.rows l)) : l.length ≤ 281474976710656 ∧ ∀ r, r ∈ l → r.length ≤ 281474976710656 ∧ ∀ n, n ∈ r → InR n :=
  ⟨h.len, fun r hr => PV.Fit.ints (h.elem hr (c := .ints r) (by simp))⟩

/-- What a slot may hold: a plain value, or a handle on a block that this call owns (by a name, 'id'). -/
inductive SV : Type 1
  | pv (p : PV)
  | own (id : Nat)
  | elt (id z i j : Nat)
  | ref (id off : Nat)
  | sl (id n : Nat)
  | map (id : Nat)
  | clo (fn : Fn) (caps : List SV)
  | opt (g : Bool) (v : SV)
  | nn (p : PV)
  | aggS (cs : List SV)
  | ownV (id : Nat) (v : Value)
  | pin (id : Nat) (v : Value)
  | nilOr (id : Nat)

abbrev SV.int (n : Int) : SV := .pv (.int .i64 n)
abbrev SV.bool (b : Bool) : SV := .pv (.bool b)

mutual
def SV.men (id : Nat) : SV → Bool
  | .pv _ | .nn _ => false
  | .own i | .elt i _ _ _ | .ref i _ | .sl i _ | .map i | .ownV i _ | .pin i _ | .nilOr i => i == id
  | .clo _ cs | .aggS cs => SV.menL id cs
  | .opt _ v => v.men id
def SV.menL (id : Nat) : List SV → Bool
  | [] => false
  | s :: r => s.men id || SV.menL id r
end

theorem SV.menL_get {id : Nat} : ∀ {l : List SV}, SV.menL id l = false → ∀ (k : Nat) (h : k < l.length), (l[k]).men id = false
  | [], _, k, h => absurd h (by simp)
  | s :: r, hm, k, h => by
    simp only [SV.menL, Bool.or_eq_false_iff] at hm
    cases k with
    | zero => exact hm.1
    | succ k => exact SV.menL_get hm.2 k (by simpa using h)

inductive RepS (ι : Nat → Value) (w : World) (F : Nat → Prop) : Value → SV → Prop
  | pv (v : Value) (p : PV) (h : Rep w F v p) : RepS ι w F v (.pv p)
  | own (id : Nat) : RepS ι w F (ι id) (.own id)
  | elt (id z i j b n c : Nat) (h : ι id = .slice (some ⟨b, 0, none⟩) n c) : RepS ι w F (.pointer (some ⟨b, i * z + j, none⟩)) (.elt id z i j)
  | ref (id off b : Nat) (h : ι id = .pointer (some ⟨b, 0, none⟩)) : RepS ι w F (.pointer (some ⟨b, off, none⟩)) (.ref id off)
  | sl (id n b : Nat) (h : ι id = .pointer (some ⟨b, 0, none⟩)) : RepS ι w F (.slice (some ⟨b, 0, none⟩) n n) (.sl id n)
  | map (id : Nat) : RepS ι w F (ι id) (.map id)
  | clo (fn : Fn) (xs : List Value) (cs : List SV) (hl : xs.length = cs.length) (hr : ∀ (k : Nat) (h1 : k < xs.length) (h2 : k < cs.length), RepS ι w F xs[k] cs[k]) :
      RepS ι w F (.func fn #[] xs.toArray) (.clo fn cs)
  | opt (v : Value) (g : Bool) (s : SV) (ht : g = true → RepS ι w F v s) (hf : g = false → v = undef) : RepS ι w F v (.opt g s)
  | ownV (id : Nat) (v : Value) (h : ι id = v) : RepS ι w F v (.ownV id v)
  | pin (u : Value) (id : Nat) (v : Value) (h : ι id = v) : RepS ι w F u (.pin id v)
  | nilOr (v : Value) (id : Nat) (h : v = .pointer none ∨ v = ι id) : RepS ι w F v (.nilOr id)
  | aggS (xs : List Value) (cs : List SV) (hl : xs.length = cs.length) (hr : ∀ (k : Nat) (h1 : k < xs.length) (h2 : k < cs.length), RepS ι w F xs[k] cs[k]) : RepS ι w F (.agg xs.toArray) (.aggS cs)
  | nn (v : Value) (p : PV) (h : Rep w F v p) (hs : ∃ a n c, v = .slice (some a) n c) : RepS ι w F v (.nn p)

section inv
variable {ι : Nat → Value} {w : World} {F : Nat → Prop} {v : Value}
theorem RepS.pv_inv {p : PV} (h : RepS ι w F v (.pv p)) : Rep w F v p := by cases h; assumption
theorem RepS.opt_inv {g : Bool} {s : SV} (h : RepS ι w F v (.opt g s)) : (g = true → RepS ι w F v s) ∧ (g = false → v = undef) := by
  cases h with | opt _ _ _ ht hf => exact ⟨ht, hf⟩
theorem Rep.none_cap {α : Type} {d : α} {f : α → List PV} {l : List α} {n cap : Nat} (h : Rep w F (.slice none n cap) (.seq α d f l)) : cap = 0 := by
  cases h with | seq0 _ _ _ _ _ h0 => exact h0 rfl
theorem Rep.bool_inv {b : Bool} (h : Rep w F v (.bool b)) : v = .bool b := by cases h; rfl
end inv

inductive Blk : Type 1
  | box (cs : List SV)
  | tbox (T : TypeId) (cs : List SV)
  | arr (e z : Nat) (α : Type) (d : α) (f : α → List PV) (l : List α)
  | mp (m : List (Int × Int))
  | mq (m : List (Int × PV))
  | yld (ps : Array Tmp) (assign body : Code) (cs : List SV)

abbrev Heap := List (Nat × Blk)
abbrev Env := List (Nat × SV)

def blkOf : Value → Option Nat
  | .slice (some a) _ _ => some a.block
  | .pointer (some a) => some a.block
  | .map (some r) => some r
  | .func (.yield l) _ _ => some l
  | _ => none

def Owned (ι : Nat → Value) (H : Heap) (b : Nat) : Prop := ∃ id blk, H.lookup id = some blk ∧ blkOf (ι id) = some b
def Free (V : Nat → Prop) (ι : Nat → Value) (H : Heap) (w : World) (b : Nat) : Prop := b < w.heap.size ∧ V b ∧ ¬ Owned ι H b

/-- The entries of a map of numbers to plain values, each stamped with its place. -/
def MqL (w : World) (F : Nat → Prop) (es : List MapEntry) (m : List (Int × PV)) : Prop :=
  m.length ≤ 281474976710656 ∧ es.length = m.length ∧ ∀ (k : Nat) (h1 : k < es.length) (h2 : k < m.length), es[k].key = .int .i64 m[k].1 ∧ es[k].born = k ∧ InR m[k].1 ∧ Rep w F es[k].val m[k].2
theorem MqL.mono {w w' : World} {F F' : Nat → Prop} {es : List MapEntry} {m : List (Int × PV)} (h : MqL w F es m) (hw : ∀ b, F b → w'.heap[b]? = w.heap[b]?) (hF : ∀ b, F b → F' b) : MqL w' F' es m :=
  ⟨h.1, h.2.1, fun k h1 h2 => ⟨(h.2.2 k h1 h2).1, (h.2.2 k h1 h2).2.1, (h.2.2 k h1 h2).2.2.1, (h.2.2 k h1 h2).2.2.2.mono hw hF⟩⟩

def BlkOk (ι : Nat → Value) (w : World) (F : Nat → Prop) (v : Value) : Blk → Prop
  | .box cs => ∃ (b : Nat) (xs : List Value) (e : TypeId), v = .pointer (some ⟨b, 0, none⟩) ∧ w.heap[b]? = some (.cells xs.toArray e (0, 0)) ∧ xs.length = cs.length ∧
      ∀ (k : Nat) (h1 : k < xs.length) (h2 : k < cs.length), RepS ι w F xs[k] cs[k]
  | .tbox T cs => ∃ (b : Nat) (xs : List Value) (e : {e : TypeId // e = T}), v = .pointer (some ⟨b, 0, none⟩) ∧ w.heap[b]? = some (.cells xs.toArray e.1 (0, 0)) ∧ xs.length = cs.length ∧
      ∀ (k : Nat) (h1 : k < xs.length) (h2 : k < cs.length), RepS ι w F xs[k] cs[k]
  | .arr e z α d f l => ∃ xs : List Value, w.ownsRow 0 e z v l.length xs ∧ RepL w F xs (l.flatMap f) ∧ l.length ≤ 281474976710656
  | .mp m => ∃ (r : Nat) (es : Array MapEntry) (clock : Nat), v = .map (some r) ∧ w.heap[r]? = some (.map es clock) ∧ es.toList.map (fun e => (e.key, e.val)) = m.map (fun p => (Value.int .i64 p.1, Value.int .i64 p.2)) ∧ ∀ p, p ∈ m → InR p.1 ∧ InR p.2
  | .mq m => ∃ (r : Nat) (es : Array MapEntry), v = .map (some r) ∧ w.heap[r]? = some (.map es m.length) ∧ MqL w F es.toList m
  | .yld ps as bd cs => ∃ (l : Nat) (r : Loop) (xs : List Value), v = .func (.yield l) #[] #[] ∧ w.heap[l]? = some (.loop r) ∧ r.state = .ready ∧ r.pending = none ∧ r.params = ps ∧ r.assign = as ∧ r.body = bd ∧ r.tmps = xs.toArray ∧ xs.length = cs.length ∧
      ∀ (k : Nat) (h1 : k < xs.length) (h2 : k < cs.length), RepS ι w F xs[k] cs[k]

structure HeapOk (V : Nat → Prop) (ι : Nat → Value) (H : Heap) (w : World) : Prop where
  ok : ∀ id blk, H.lookup id = some blk → BlkOk ι w (Free V ι H w) (ι id) blk
  inj : ∀ id id' blk blk' b, H.lookup id = some blk → H.lookup id' = some blk' → blkOf (ι id) = some b → blkOf (ι id') = some b → id = id'
  vis : ∀ b, Owned ι H b → V b

theorem HeapOk.lt {V : Nat → Prop} {ι : Nat → Value} {H : Heap} {w : World} (h : HeapOk V ι H w) {b : Nat} (hb : Owned ι H b) : b < w.heap.size := by
  obtain ⟨id, blk, hl, hb⟩ := hb
  have := h.ok id blk hl
  cases blk with
  | box cs =>
    obtain ⟨b', xs, e, hv, hh, _⟩ := this
    rw [hv] at hb
    simp [blkOf] at hb
    subst hb
    exact (Array.getElem?_eq_some_iff.1 hh).1
  | tbox T cs =>
    obtain ⟨b', xs, e, hv, hh, _⟩ := this
    rw [hv] at hb
    simp [blkOf] at hb
    subst hb
    exact (Array.getElem?_eq_some_iff.1 hh).1
  | arr e z α d f l =>
    obtain ⟨xs, ho, _⟩ := this
    refine (ho.lt b ?_).2
    generalize ι id = v at *
    unfold blkOf at hb
    unfold Value.ownBlock
    rcases ho.2 with ⟨rfl, _⟩ | ⟨g, cap, cur, rfl, _⟩ <;> simp_all
  | mp m =>
    obtain ⟨r, es, clock, hv, hh, _⟩ := this
    rw [hv] at hb
    simp [blkOf] at hb
    subst hb
    exact (Array.getElem?_eq_some_iff.1 hh).1
  | mq m =>
    obtain ⟨r, es, hv, hh, _⟩ := this
    rw [hv] at hb
    simp [blkOf] at hb
    subst hb
    exact (Array.getElem?_eq_some_iff.1 hh).1
  | yld ps as bd cs =>
    obtain ⟨l, r, xs, hv, hh, _⟩ := this
    rw [hv] at hb
    simp [blkOf] at hb
    subst hb
    exact (Array.getElem?_eq_some_iff.1 hh).1

structure Step (V : Nat → Prop) (ι : Nat → Value) (H : Heap) (w : World) (nw : Option Nat) (ι' : Nat → Value) (H' : Heap) (w' : World) : Prop where
  os : w'.os = w.os
  tape : w'.tape = w.tape
  output : w'.output = w.output
  size : w.heap.size ≤ w'.heap.size
  kept : ∀ b, b < w.heap.size → ¬ Owned ι H b → w'.heap[b]? = w.heap[b]?
  agree : ∀ id, nw ≠ some id → ι' id = ι id
  owned : ∀ b, Owned ι' H' b → w.heap.size ≤ b ∨ Owned ι H b
  ok : HeapOk V ι' H' w'

section step
variable {V : Nat → Prop} {ι ι' : Nat → Value} {H H' : Heap} {w w' : World} {nw : Option Nat}

theorem Step.free (h : Step V ι H w nw ι' H' w') {b : Nat} (hb : Free V ι H w b) : Free V ι' H' w' b :=
  ⟨Nat.lt_of_lt_of_le hb.1 h.size, hb.2.1, fun ho => by
    rcases h.owned b ho with h1 | h1
    · exact absurd hb.1 (by omega)
    · exact hb.2.2 h1⟩

theorem Step.heap (h : Step V ι H w nw ι' H' w') {b : Nat} (hb : Free V ι H w b) : w'.heap[b]? = w.heap[b]? := h.kept b hb.1 hb.2.2

theorem Step.rep (h : Step V ι H w nw ι' H' w') {v : Value} {p : PV} (hr : Rep w (Free V ι H w) v p) : Rep w' (Free V ι' H' w') v p :=
  hr.mono (fun _ hb => h.heap hb) (fun _ hb => h.free hb)

theorem Step.repL (h : Step V ι H w nw ι' H' w') {xs : List Value} {cs : List PV} (hr : RepL w (Free V ι H w) xs cs) : RepL w' (Free V ι' H' w') xs cs :=
  hr.mono (fun _ hb => h.heap hb) (fun _ hb => h.free hb)

theorem RepS.move {F F' : Nat → Prop} {v : Value} {s : SV} (hr : RepS ι w F v s) (hw : ∀ b, F b → w'.heap[b]? = w.heap[b]?) (hF : ∀ b, F b → F' b)
    (ha : ∀ id, nw ≠ some id → ι' id = ι id) (hm : ∀ id, nw = some id → s.men id = false) : RepS ι' w' F' v s := by
  induction hr with
  | pv v p h => exact .pv v p (h.mono hw hF)
  | nn v p h hs => exact .nn v p (h.mono hw hF) hs
  | own id =>
    have e : ι' id = ι id := ha id fun e => by have := hm id e; simp [SV.men] at this
    rw [← e]; exact .own id
  | elt id z i j b n c h =>
    have e : ι' id = ι id := ha id fun e => by have := hm id e; simp [SV.men] at this
    exact .elt id z i j b n c (e.trans h)
  | ref id off b h =>
    have e : ι' id = ι id := ha id fun e => by have := hm id e; simp [SV.men] at this
    exact .ref id off b (e.trans h)
  | sl id n b h =>
    have e : ι' id = ι id := ha id fun e => by have := hm id e; simp [SV.men] at this
    exact .sl id n b (e.trans h)
  | map id =>
    have e : ι' id = ι id := ha id fun e => by have := hm id e; simp [SV.men] at this
    rw [← e]; exact .map id
  | clo fn xs cs hl hr ih =>
    exact .clo fn xs cs hl fun k h1 h2 => ih k h1 h2 fun id e => SV.menL_get (by have := hm id e; simpa [SV.men] using this) k h2
  | ownV id v h =>
    have e : ι' id = ι id := ha id fun e => by have := hm id e; simp [SV.men] at this
    exact .ownV id v (e.trans h)
  | pin u id v h =>
    have e : ι' id = ι id := ha id fun e => by have := hm id e; simp [SV.men] at this
    exact .pin u id v (e.trans h)
  | nilOr v id h =>
    have e : ι' id = ι id := ha id fun e => by have := hm id e; simp [SV.men] at this
    exact .nilOr v id (e ▸ h)
  | aggS xs cs hl hr ih =>
    exact .aggS xs cs hl fun k h1 h2 => ih k h1 h2 fun id e => SV.menL_get (by have := hm id e; simpa [SV.men] using this) k h2
  | opt v g s ht hf ih =>
    exact .opt v g s (fun hg => ih hg fun id e => by have := hm id e; simpa [SV.men] using this) hf

theorem Step.repS (h : Step V ι H w nw ι' H' w') {v : Value} {s : SV} (hr : RepS ι w (Free V ι H w) v s) (hm : ∀ id, nw = some id → s.men id = false) :
    RepS ι' w' (Free V ι' H' w') v s :=
  hr.move (fun _ hb => h.heap hb) (fun _ hb => h.free hb) h.agree hm

/-- A step that turns no handle and no owned block. -/
theorem Step.same (hk : HeapOk V ι H w) (hos : w'.os = w.os) (ht : w'.tape = w.tape) (hout : w'.output = w.output) (hsize : w.heap.size ≤ w'.heap.size)
    (hall : ∀ b, b < w.heap.size → w'.heap[b]? = w.heap[b]?) : Step V ι H w none ι H w' := by
  have hfree : ∀ b, Free V ι H w b → Free V ι H w' b := fun b hb => ⟨Nat.lt_of_lt_of_le hb.1 hsize, hb.2.1, hb.2.2⟩
  refine ⟨hos, ht, hout, hsize, fun b hb _ => hall b hb, fun _ _ => rfl, fun b hb => .inr hb, ⟨fun id blk hl => ?_, hk.inj, hk.vis⟩⟩
  have hlt : ∀ b, blkOf (ι id) = some b → b < w.heap.size := fun b hb => hk.lt ⟨id, blk, hl, hb⟩
  have h0 := hk.ok id blk hl
  cases blk with
  | box cs =>
    obtain ⟨b, xs, e, hv, hh, hlen, hr⟩ := h0
    have hb : b < w.heap.size := hlt b (by rw [hv]; rfl)
    exact ⟨b, xs, e, hv, (hall b hb).trans hh, hlen, fun k h1 h2 =>
      (hr k h1 h2).move (nw := none) (fun b hb => hall b hb.1) hfree (fun _ _ => rfl) (by simp)⟩
  | tbox T cs =>
    obtain ⟨b, xs, e, hv, hh, hlen, hr⟩ := h0
    have hb : b < w.heap.size := hlt b (by rw [hv]; rfl)
    exact ⟨b, xs, e, hv, (hall b hb).trans hh, hlen, fun k h1 h2 =>
      (hr k h1 h2).move (nw := none) (fun b hb => hall b hb.1) hfree (fun _ _ => rfl) (by simp)⟩
  | arr e z α d f l =>
    obtain ⟨xs, ho, hr, hm⟩ := h0
    refine ⟨xs, ?_, hr.mono (fun b hb => hall b hb.1) hfree, hm⟩
    exact ho.kept (row := none) ⟨hos, ht, hout, hsize, fun k hk' _ => hall k hk'⟩ (by cases (ι id).ownBlock <;> simp)
  | mp m =>
    obtain ⟨r, es, clock, hv, hh, hm, hr⟩ := h0
    have hb : r < w.heap.size := hlt r (by rw [hv]; rfl)
    exact ⟨r, es, clock, hv, (hall r hb).trans hh, hm, hr⟩
  | mq m =>
    obtain ⟨r, es, hv, hh, hm⟩ := h0
    have hb : r < w.heap.size := hlt r (by rw [hv]; rfl)
    exact ⟨r, es, hv, (hall r hb).trans hh, hm.mono (fun b hb => hall b hb.1) hfree⟩
  | yld ps as bd cs =>
    obtain ⟨l, r, xs, hv, hh, h1, h2, h3, h4, h5, h6, hlen, hr⟩ := h0
    have hb : l < w.heap.size := hlt l (by rw [hv]; rfl)
    exact ⟨l, r, xs, hv, (hall l hb).trans hh, h1, h2, h3, h4, h5, h6, hlen, fun k h1 h2 =>
      (hr k h1 h2).move (nw := none) (fun b hb => hall b hb.1) hfree (fun _ _ => rfl) (by simp)⟩

theorem Step.refl (hk : HeapOk V ι H w) : Step V ι H w none ι H w := Step.same hk rfl rfl rfl (Nat.le_refl _) fun _ _ => rfl
theorem Step.drew (hk : HeapOk V ι H w) : Step V ι H w none ι H w.drew := Step.same hk rfl rfl rfl (Nat.le_refl _) fun _ _ => rfl
theorem Step.alloc (hk : HeapOk V ι H w) (o : Obj) : Step V ι H w none ι H (w.alloc o) :=
  Step.same hk rfl rfl rfl (by simp) fun b hb => Go.RowKit.Below.heap_alloc w o b hb
end step

/-- The state: what is known of the slots, and the owned blocks. -/
structure St : Type 1 where
  env : Env
  H : Heap

def upd (env : Env) (dst : Option Nat) (v : SV) : Env := match dst with | some d => (d, v) :: env | none => env

/-- A package-level variable of an interface type lies where it was laid. -/
def Glob (g : Nat) (w : World) : Prop := ∃ ev, w.cell? ⟨g, 0, none⟩ = some ev ∧ (ev = .nilIface ∨ ∃ te pe, ev = .iface te pe)
theorem Glob.move {g : Nat} {w w' : World} (h : Glob g w) (hg : w'.heap[g]? = w.heap[g]?) : Glob g w' := by
  obtain ⟨ev, h1, h2⟩ := h
  exact ⟨ev, by rw [World.cell?_of_block (w := w) (a := ⟨g, 0, none⟩) hg]; exact h1, h2⟩
theorem Glob.lt {g : Nat} {w : World} (h : Glob g w) : g < w.heap.size := by
  obtain ⟨ev, h1, _⟩ := h
  exact World.block_lt_of_cell? _ _ h1

/-- 'none': the frame's deferred calls are the blocks that ranges over functions have left, with nothing in them; 'some (l, gs)': they are l, and the variables gs lie where they were laid. -/
abbrev BT := Option (List Deferred × List Nat)
def markOf (D : Nat) : Deferred := { target := .collected D, args := #[] }
def Marks (B : BT) (w0 : World) (V : Nat → Prop) (ds : List Deferred) (w : World) : Prop :=
  match B with
  | none => ∃ Ds : List Nat, Ds.Nodup ∧ ds = Ds.map markOf ∧ ∀ D, D ∈ Ds → w0.heap.size ≤ D ∧ w.heap[D]? = some (.deferred (some [])) ∧ ¬ V D
  | some (l, gs) => ds = l ∧ ∀ g, g ∈ gs → ¬ V g ∧ Glob g w
theorem Marks.nil {w0 : World} {V : Nat → Prop} {w : World} : Marks none w0 V [] w := ⟨[], List.nodup_nil, rfl, fun D hD => by simp at hD⟩
theorem Marks.step {B : BT} {w0 : World} {V : Nat → Prop} {ds : List Deferred} {w w' : World} (h : Marks B w0 V ds w) (hk : ∀ b, b < w.heap.size → ¬ V b → w'.heap[b]? = w.heap[b]?) : Marks B w0 V ds w' := by
  match B, h with
  | some (l, gs), h => exact ⟨h.1, fun g hg => ⟨(h.2 g hg).1, (h.2 g hg).2.move (hk g (h.2 g hg).2.lt (h.2 g hg).1)⟩⟩
  | none, h =>
    obtain ⟨Ds, h1, h2, h3⟩ := h
    exact ⟨Ds, h1, h2, fun D hD => ⟨(h3 D hD).1, (hk D (Array.getElem?_eq_some_iff.1 (h3 D hD).2.1).1 (h3 D hD).2.2).trans (h3 D hD).2.1, (h3 D hD).2.2⟩⟩
variable {B : BT}

/-- The slots and the world are as the state says; of what was there at the beginning (w0) nothing but blocks of O has turned. -/
structure Sim (B : BT) (w0 : World) (O V : Nat → Prop) (n : Nat) (ι : Nat → Value) (env : Nat → Option SV) (H : Heap) (a : Act) (w : World) : Prop where
  os : w.os = w0.os
  tape : w.tape = w0.tape
  output : w.output = w0.output
  size : w0.heap.size ≤ w.heap.size
  kept : ∀ b, b < w0.heap.size → ¬ O b → w.heap[b]? = w0.heap[b]?
  mine : ∀ b, Owned ι H b → w0.heap.size ≤ b ∨ O b
  heap : HeapOk V ι H w
  env : ∀ t s, env t = some s → RepS ι w (Free V ι H w) (a.tmps.getD t undef) s
  tmps : a.tmps.size = n
  marks : Marks B w0 V a.defers w
  new : ∀ b, w.heap.size ≤ b → V b

theorem Sim.step {w0 : World} {O V : Nat → Prop} {n : Nat} {ι ι' : Nat → Value} {env : Nat → Option SV} {H H' : Heap} {a : Act} {w w' : World} {nw : Option Nat}
    (h : Sim B w0 O V n ι env H a w) (hs : Step V ι H w nw ι' H' w') (hm : ∀ id, nw = some id → ∀ t s, env t = some s → s.men id = false) : Sim B w0 O V n ι' env H' a w' := {
  os := hs.os.trans h.os
  tape := hs.tape.trans h.tape
  output := hs.output.trans h.output
  size := Nat.le_trans h.size hs.size
  kept := fun b hb hO => by
    have hno : ¬ Owned ι H b := fun ho => by rcases h.mine b ho with h1 | h1 <;> first | omega | exact hO h1
    exact (hs.kept b (Nat.lt_of_lt_of_le hb h.size) hno).trans (h.kept b hb hO)
  mine := fun b ho => by
    rcases hs.owned b ho with h1 | h1
    · exact .inl (Nat.le_trans h.size h1)
    · exact h.mine b h1
  heap := hs.ok
  env := fun t s he => hs.repS (h.env t s he) fun id hid => hm id hid t s he
  tmps := h.tmps
  marks := h.marks.step fun b hb hV => hs.kept b hb fun ho => hV (h.heap.vis b ho)
  new := fun b hb => h.new b (Nat.le_trans hs.size hb) }

theorem Act.getD_put (a : Act) (d t : Nat) (v : Value) (hd : d < a.tmps.size) : (a.put (some d) v).tmps.getD t undef = if t = d then v else a.tmps.getD t undef := by
  simp only [Act.put, Array.getD_eq_getD_getElem?, Array.getElem?_setIfInBounds]
  by_cases h : d = t
  · subst h; simp [hd]
  · simp [h, show ¬ t = d from fun e => h e.symm]

/-- One operand is seen as one of these (behind a guard g). -/
def constS : Value → Option SV
  | .int k n => if decide (k.min ≤ n) && decide (n ≤ k.max) then some (.pv (.int k n)) else none
  | .bool b => some (.pv (.bool b))
  | .string s => if s.size ≤ 281474976710656 then some (.pv (.str s)) else none
  | .slice none 0 0 => some (.pv .nil)
  | .nilFunc => some (.pv .any)
  | .nilIface => some (.pv (.val .nilIface))
  | .pointer none => some (.pv (.val (.pointer none)))
  | .func fn a c => if a.size = 0 ∧ c.size = 0 then some (.clo fn []) else none
  | _ => none

theorem constS_rep {ι : Nat → Value} {w : World} {F : Nat → Prop} {v : Value} {s : SV} (h : constS v = some s) : RepS ι w F v s := by
  unfold constS at h
  split at h
  · split at h
    · rename_i hk
      simp only [Bool.and_eq_true, decide_eq_true_eq] at hk
      simp at h; subst h; exact .pv _ _ (.int _ _ hk)
    · simp at h
  · simp at h; subst h; exact .pv _ _ (.bool _)
  · split at h
    · rename_i hk
      simp at h; subst h; exact .pv _ _ (.str _ hk)
    · simp at h
  · simp at h; subst h; exact .pv _ _ .nil
  · simp at h; subst h; exact .pv _ _ (.any _)
  · simp at h; subst h; exact .pv _ _ (.val _ rfl)
  · simp at h; subst h; exact .pv _ _ (.val _ rfl)
  · rename_i fn a c
    split at h
    · rename_i hs
      simp at h; subst h
      have h1 : a = #[] := by simpa using hs.1
      have h2 : c = #[] := by simpa using hs.2
      subst h1 h2
      exact .clo _ [] [] rfl (fun k h1 => absurd h1 (by simp))
    · simp at h
  · simp at h

def evalIn (env : Nat → Option SV) : Operand → Option SV
  | .tmp t => env t
  | .const v => constS v
  | .func f => some (.pv (.clo f []))
  | .global _ => none

def Sees (g : Bool) (env : Nat → Option SV) (x : Operand) (s : SV) : Prop :=
  evalIn env x = some s ∨ (∃ g', evalIn env x = some (.opt g' s) ∧ (g = true → g' = true)) ∨ (∃ id v, evalIn env x = some (.ownV id v) ∧ s = .own id) ∨ (evalIn env x = some (.pv .nil) ∧ ∃ (α : Type) (d : α) (f : α → List PV), s = .pv (.seq α d f []))

theorem Sees.plain {g : Bool} {env : Nat → Option SV} {x : Operand} {s : SV} (h : evalIn env x = some s) : Sees g env x s := .inl h
theorem Sees.opt {g g' : Bool} {env : Nat → Option SV} {x : Operand} {s : SV} (h : evalIn env x = some (.opt g' s)) (hg : g = true → g' = true) : Sees g env x s := .inr (.inl ⟨g', h, hg⟩)
/-- The nil slice, seen as a slice. -/
theorem Sees.nilS {g : Bool} {env : Nat → Option SV} {x : Operand} {α : Type} {d : α} {f : α → List PV} (h : evalIn env x = some (.pv .nil)) : Sees g env x (.pv (.seq α d f [])) := .inr (.inr (.inr ⟨h, α, d, f, rfl⟩))
/-- What is owned and is a known value, seen as owned. -/
theorem Sees.ownS {g : Bool} {env : Nat → Option SV} {x : Operand} {id : Nat} {v : Value} (h : evalIn env x = some (.ownV id v)) : Sees g env x (.own id) := .inr (.inr (.inl ⟨id, v, h, rfl⟩))

theorem Sees.congr {g : Bool} {env env' : Nat → Option SV} {x : Operand} {s : SV} (h : Sees g env x s) (he : ∀ t, x = .tmp t → env' t = env t) : Sees g env' x s := by
  have : evalIn env' x = evalIn env x := by cases x <;> first | rfl | exact he _ rfl
  unfold Sees at *
  rw [this]; exact h

theorem Sees.rep {w0 : World} {O V : Nat → Prop} {n : Nat} {ι : Nat → Value} {env : Nat → Option SV} {H : Heap} {a : Act} {w : World} {g : Bool} {x : Operand} {s : SV}
    (hs : Sim B w0 O V n ι env H a w) (h : Sees g env x s) (hg : g = true) : RepS ι w (Free V ι H w) (a.eval x) s := by
  have key : ∀ s, evalIn env x = some s → RepS ι w (Free V ι H w) (a.eval x) s := by
    intro s hx
    cases x with
    | tmp t => exact hs.env t s hx
    | const v => exact constS_rep hx
    | func f =>
      simp only [evalIn, Option.some.injEq] at hx
      subst hx
      exact .pv _ _ (.clo f [] [] rfl (fun k h1 => absurd h1 (by simp)))
    | global _ => simp [evalIn] at hx
  rcases h with h | ⟨g', h, hgg⟩ | ⟨id, v, h, rfl⟩ | ⟨h, α, d, f, rfl⟩
  · exact key s h
  · have := key _ h
    exact this.opt_inv.1 (hgg hg)
  · have h1 := key _ h
    generalize a.eval x = u at *
    cases h1 with
    | ownV _ _ h2 => rw [← h2]; exact .own id
  · have h1 := key _ h
    generalize a.eval x = v at *
    cases h1 with
    | pv _ _ h2 =>
      cases h2
      exact .pv _ _ (.seq0 α d f none 0 fun _ => rfl)

/-- The operation o, its operands as 'ev' says and the owned blocks H: it yields v, and leaves H'. 'nw': the name that it binds anew. -/
def OpT (P : Program) (o : Oper) (ev : Operand → SV → Prop) (H : Heap) (v : SV) (H' : Heap) (nw : Option Nat) : Prop :=
  ∀ (V : Nat → Prop) (ι : Nat → Value) (w : World) (a : Act) (Q : Exit → Act → World → Prop), (∀ b, w.heap.size ≤ b → V b) → HeapOk V ι H w →
    (∀ x, x ∈ o.op.operands → ∀ s, ev x s → RepS ι w (Free V ι H w) (a.eval x) s) →
    o.wp P a w (fun a' w' => ∃ ι' rv, a' = a.put o.dst rv ∧ Step V ι H w nw ι' H' w' ∧ RepS ι' w' (Free V ι' H' w') rv v) Q

theorem OpT.congr {P : Program} {o : Oper} {ev ev' : Operand → SV → Prop} {H : Heap} {v : SV} {H' : Heap} {nw : Option Nat} (h : OpT P o ev H v H' nw)
    (he : ∀ x, x ∈ o.op.operands → ∀ s, ev x s → ev' x s) : OpT P o ev' H v H' nw :=
  fun V ι w a Q hv hk hx => h V ι w a Q hv hk fun x hx' s hs => hx x hx' s (he x hx' s hs)

/-- All may be called; a round's frame, or another one. -/
def Fo (ro : Option Nat) : Fence := { Fence.wide with round := ro }
/-- The same, of operations that may call a loop's body; in a round's frame (ro), or another one. -/
def OpTI (ro : Option Nat) (P : Program) (o : Oper) (ev : Operand → SV → Prop) (H : Heap) (v : SV) (H' : Heap) (nw : Option Nat) : Prop :=
  ∀ (V : Nat → Prop) (ι : Nat → Value) (w : World) (a : Act) (Q : Exit → Act → World → Prop), (∀ b, w.heap.size ≤ b → V b) → HeapOk V ι H w →
    (∀ x, x ∈ o.op.operands → ∀ s, ev x s → RepS ι w (Free V ι H w) (a.eval x) s) →
    o.wpIn (Fo ro) 0 P a w (fun a' w' => ∃ ι' rv, a' = a.put o.dst rv ∧ Step V ι H w nw ι' H' w' ∧ RepS ι' w' (Free V ι' H' w') rv v) Q
theorem calls_fo {ro : Option Nat} {n : Nat} {P : Program} {f : FuncId} {args : Array Value} {w : World} {R : Ending → World → Prop} (h : Calls P f args w R) : CallsIn (Fo ro) n P f args w R :=
  (callsIn_wide (n := n)).2 h
theorem OpT.lift {ro : Option Nat} {P : Program} {o : Oper} {ev : Operand → SV → Prop} {H : Heap} {v : SV} {H' : Heap} {nw : Option Nat} (h : OpT P o ev H v H' nw) : OpTI ro P o ev H v H' nw := by
  intro V ι w a Q hv hk hx
  have h0 := h V ι w a Q hv hk hx
  refine ⟨fun _ _ => trivial, ?_⟩
  by_cases hd : ∃ c, o.op = .defer c
  · obtain ⟨c, hc⟩ := hd
    exfalso
    have h1 := h V ι w a (fun _ _ _ => False) hv hk hx
    unfold Oper.wp at h1
    have he : execOp a.eval o = (do let d ← resolve a.eval c o.type; pure (.defer d)) := by
      unfold execOp; rw [hc]
    rw [he] at h1
    simp only [Sem.run_bind] at h1
    generalize hr : (resolve a.eval c o.type).run P w = r at h1
    cases r with
    | ok d w1 =>
      simp only [Result.andThen, Sem.run_pure, Oper.upon] at h1
      obtain ⟨ι', rv, e, _⟩ := h1
      have e2 := congrArg Act.defers e
      cases hdst : o.dst <;> simp [Act.put, hdst] at e2
    | halt hl w1 => cases hl <;> exact h1.elim
  · have he : o.semAt (Fo ro).round a.eval = execOp a.eval o := Oper.semAt_eq _ _ _ fun c hc => hd ⟨c, hc⟩
    rw [he]
    unfold Oper.wp at h0
    generalize (execOp a.eval o).run P w = r at h0 ⊢
    cases r with
    | ok nx w1 =>
      cases nx with
      | enter f args => exact ⟨fun h => by simp [Fo, Fence.wide] at h, calls_fo h0⟩
      | row r args => exact ⟨fun h => by simp [Fo, Fence.wide] at h, fun c cs _ => let ⟨v, w', r, s⟩ := h0 c cs; ⟨v, w', r, stepsIn_wide.2 s⟩⟩
      | value v => exact h0
      | skip => exact h0
      | defer d => exact h0
      | _ => exact h0.elim
    | halt hl w1 => cases hl <;> exact h0

def guardSlot (ops : Array Oper) (j : Nat) : Option Nat := (ops[j]?).bind (·.dst)

def GuardIs (env : Nat → Option SV) (t : Nat) (want g : Bool) : Prop :=
  (∃ b, env t = some (.pv (.bool b)) ∧ g = (b == want)) ∨ (∃ g0 b, env t = some (.opt g0 (.pv (.bool b))) ∧ g = (g0 && (b == want)))

/-- One operation of a region, its guard with it. -/
def StepOk {ro : Option Nat} (P : Program) (ops : Array Oper) (o : Oper) (env : Nat → Option SV) (H : Heap) (v : SV) (H' : Heap) (nw : Option Nat) : Prop :=
  (o.guard = none ∧ OpTI ro P o (Sees true env) H v H' nw) ∨
  (∃ j want t g v', o.guard = some (j, want) ∧ guardSlot ops j = some t ∧ GuardIs env t want g ∧ v = .opt g v' ∧ H' = H ∧ nw = none ∧ (g = true → OpTI ro P o (Sees g env) H v' H none)) ∨
  (∃ j want t, o.guard = some (j, want) ∧ guardSlot ops j = some t ∧ env t = some (.pv (.bool want)) ∧ OpTI ro P o (Sees true env) H v H' nw)

def looks (ops : Array Oper) (o : Oper) : List Nat :=
  (o.op.operands.toList.filterMap fun | .tmp t => some t | _ => none) ++ (match o.guard with | some (j, _) => (guardSlot ops j).toList | none => [])

theorem OpTI.congr {ro : Option Nat} {P : Program} {o : Oper} {ev ev' : Operand → SV → Prop} {H : Heap} {v : SV} {H' : Heap} {nw : Option Nat} (h : OpTI ro P o ev H v H' nw)
    (he : ∀ x, x ∈ o.op.operands → ∀ s, ev x s → ev' x s) : OpTI ro P o ev' H v H' nw :=
  fun V ι w a Q hv hk hx => h V ι w a Q hv hk fun x hx' s hs => hx x hx' s (he x hx' s hs)
theorem StepOk.congr {ro : Option Nat} {P : Program} {ops : Array Oper} {o : Oper} {env env' : Nat → Option SV} {H : Heap} {v : SV} {H' : Heap} {nw : Option Nat}
    (h : StepOk (ro := ro) P ops o env H v H' nw) (he : ∀ t, t ∈ looks ops o → env' t = env t) : StepOk (ro := ro) P ops o env' H v H' nw := by
  have hx : ∀ g x, x ∈ o.op.operands → ∀ s, Sees g env x s → Sees g env' x s := fun g x hx s hs =>
    hs.congr fun t ht => he t (List.mem_append_left _ (List.mem_filterMap.2 ⟨x, Array.mem_toList_iff.2 hx, by subst ht; rfl⟩))
  rcases h with ⟨hg, h⟩ | ⟨j, want, t, g, v', hg, hs, hi, hv, hH, hn, h⟩ | ⟨j, want, t, hg, hs, hi, h⟩
  · exact .inl ⟨hg, h.congr (hx true)⟩
  · refine .inr (.inl ⟨j, want, t, g, v', hg, hs, ?_, hv, hH, hn, fun e => (h e).congr (hx g)⟩)
    have : env' t = env t := he t (List.mem_append_right _ (by rw [hg]; simp [hs]))
    unfold GuardIs at *
    rw [this]; exact hi
  · refine .inr (.inr ⟨j, want, t, hg, hs, ?_, h.congr (hx true)⟩)
    have : env' t = env t := he t (List.mem_append_right _ (by rw [hg]; simp [hs]))
    rw [this]; exact hi

/-- What one operation does to the simulation. -/
theorem StepOk.wp {ro : Option Nat} {P : Program} {ops : Array Oper} {o : Oper} {env : Nat → Option SV} {H : Heap} {v : SV} {H' : Heap} {nw : Option Nat} (h : StepOk (ro := ro) P ops o env H v H' nw)
    {w0 : World} {O V : Nat → Prop} {n : Nat} {ι : Nat → Value} {a : Act} {w : World} (hs : Sim B w0 O V n ι env H a w) (hn : ∀ d, o.dst = some d → d < n)
    (hm : ∀ id, nw = some id → ∀ t s, env t = some s → s.men id = false)
    (K : Act → World → Prop) (Q : Exit → Act → World → Prop)
    (hK : ∀ ι' a' w', Sim B w0 O V n ι' (fun t => if o.dst = some t then some v else env t) H' a' w' → K a' w') :
    if Region.wanted o (yielded ops a.tmps) then o.wpIn (Fo ro) 0 P a w K Q else K (a.put o.dst undef) w := by
  have fin : ∀ (ι' : Nat → Value) (w' : World) (rv : Value) (H' : Heap) (nw : Option Nat) (v : SV), (∀ id, nw = some id → ∀ t s, env t = some s → s.men id = false) → Step V ι H w nw ι' H' w' → RepS ι' w' (Free V ι' H' w') rv v →
      Sim B w0 O V n ι' (fun t => if o.dst = some t then some v else env t) H' (a.put o.dst rv) w' := by
    intro ι' w' rv H' nw v hm hst hrv
    have hsim := hs.step hst hm
    refine ⟨hsim.os, hsim.tape, hsim.output, hsim.size, hsim.kept, hsim.mine, hsim.heap, ?_, ?_, ?_, hsim.new⟩
    · intro t s ht
      cases hd : o.dst with
      | none =>
        simp only [hd, reduceCtorEq, ↓reduceIte] at ht
        exact hsim.env t s ht
      | some d =>
        rw [Act.getD_put _ _ _ _ (by rw [hs.tmps]; exact hn d hd)]
        simp only [hd, Option.some.injEq] at ht
        by_cases e : t = d
        · rw [if_pos e.symm] at ht
          simp only [Option.some.injEq] at ht
          subst ht
          rw [if_pos e]; exact hrv
        · rw [if_neg (fun e' => e e'.symm)] at ht
          rw [if_neg e]; exact hsim.env t s ht
    · cases hd : o.dst <;> simp [Act.put, hs.tmps]
    · have hm := hsim.marks
      cases hd : o.dst <;> exact hm
  have hyl : ∀ {j t : Nat}, guardSlot ops j = some t → yielded ops a.tmps j = (match a.tmps.getD t undef with | .bool b => some b | _ => none) := by
    intro j t hsl
    unfold yielded
    unfold guardSlot at hsl
    rw [hsl]
    simp only [Option.bind_some, Array.getD_eq_getD_getElem?]
    cases ht : a.tmps[t]? with
    | none => simp [undef]
    | some x => cases x <;> simp
  rcases h with ⟨hg, h⟩ | ⟨j, want, t, g, v', hg, hsl, hi, rfl, rfl, rfl, h⟩ | ⟨j, want, t, hg, hsl, hi, h⟩
  · rw [if_pos (by simp [Region.wanted, hg])]
    refine Oper.wpIn_mono ?_ (h V ι w a Q hs.new hs.heap fun x hx s hsx => Sees.rep hs hsx rfl)
    rintro a' w' ⟨ι', rv, rfl, hst, hrv⟩
    exact hK ι' _ _ (fin ι' w' rv H' nw v hm hst hrv)
  · have hy := hyl hsl
    have hwant : Region.wanted o (yielded ops a.tmps) = g := by
      simp only [Region.wanted, hg, hy]
      rcases hi with ⟨b, hb, rfl⟩ | ⟨g0, b, hb, rfl⟩
      · rw [(hs.env t _ hb).pv_inv.bool_inv]
        cases b <;> cases want <;> rfl
      · have := (hs.env t _ hb).opt_inv
        cases g0 with
        | false => rw [this.2 rfl]; cases b <;> cases want <;> rfl
        | true =>
          rw [(this.1 rfl).pv_inv.bool_inv]
          cases b <;> cases want <;> rfl
    rw [hwant]
    cases g with
    | true =>
      simp only [↓reduceIte]
      refine Oper.wpIn_mono ?_ (h rfl V ι w a Q hs.new hs.heap fun x hx s hsx => Sees.rep hs hsx rfl)
      rintro a' w' ⟨ι', rv, rfl, hst, hrv⟩
      exact hK ι' _ _ (fin ι' w' rv H' none _ (by simp) hst (.opt rv true v' (fun _ => hrv) (by simp)))
    | false =>
      simp only [Bool.false_eq_true, ↓reduceIte]
      exact hK ι _ _ (fin ι w undef H' none _ (by simp) (Step.refl hs.heap) (.opt undef false v' (by simp) (fun _ => rfl)))
  · have hwant : Region.wanted o (yielded ops a.tmps) = true := by
      simp only [Region.wanted, hg, hyl hsl]
      rw [(hs.env t _ hi).pv_inv.bool_inv]
      cases want <;> rfl
    rw [if_pos hwant]
    refine Oper.wpIn_mono ?_ (h V ι w a Q hs.new hs.heap fun x hx s hsx => Sees.rep hs hsx rfl)
    rintro a' w' ⟨ι', rv, rfl, hst, hrv⟩
    exact hK ι' _ _ (fin ι' w' rv H' nw v hm hst hrv)

end Go.Abs
