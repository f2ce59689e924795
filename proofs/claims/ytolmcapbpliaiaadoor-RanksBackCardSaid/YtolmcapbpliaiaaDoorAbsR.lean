/- Readings of a law's arguments as plain values: by their types. Conditions: none. -/
import Derived.Test.YtolmcapbpliaiaaDoorAbsLaw
import Derived.ChangeArms
namespace Go.Abs
open Go.ChangeShapes Go.WideShapes Go.ChangeAt Go.RowKit
set_option linter.unusedVariables false

section
variable {P : Program}

def Light {H : Type} (P : Program) (t : TypeId) (d : DataW H) : Prop := ∀ n, n ∈ d.weights P t → n ≤ reachBytes

/-- A value of type t, as it is read, stands for `f a` at some a. -/
def Rd (P : Program) (t : TypeId) (α : Type) (f : α → List PV) : Prop :=
  ∀ (H : Type) (enc : TypeId × Value → H) (W : World) (fuel : Nat) (cs : List Value) (x : DataW H × List MemPlace),
    DataW.trod enc P W 0 (fun _ => true) true fuel t cs = some x → Light P t x.1 → ∃ a : α, RepL W (fun b => b < W.heap.size) cs (f a)

theorem Rd.map {t : TypeId} {α β : Type} {f : α → List PV} {g : β → List PV} (h : Rd P t α f) (φ : α → β) (hφ : ∀ a, f a = g (φ a)) : Rd P t β g :=
  fun H enc W fuel cs x hx hw => by
    obtain ⟨a, ha⟩ := h H enc W fuel cs x hx hw
    exact ⟨φ a, hφ a ▸ ha⟩

theorem Rd.int {t : TypeId} {k : IntKind} (ht : P.underlying t = some (.int k)) : Rd P t Int (fun n => [.int k n]) := fun H enc W fuel cs x hx hw => by
  obtain ⟨n, rfl, _, hw⟩ := DataW.trod_int ht hx
  refine ⟨n, .cons (.int k n ?_) .nil⟩
  cases k <;> simpa [Lit.wf, InK, IntKind.min, IntKind.max, IntKind.signed, IntKind.bits] using hw

theorem Rd.bool {t : TypeId} (ht : P.underlying t = some .bool) : Rd P t Bool (fun n => [.bool n]) := fun H enc W fuel cs x hx hw => by
  obtain ⟨b, rfl, _⟩ := DataW.trod_bool ht hx
  exact ⟨b, .cons (.bool b) .nil⟩

theorem Rd.str {t : TypeId} (ht : P.underlying t = some .string) : Rd P t ByteArray (fun n => [.str n]) := fun H enc W fuel cs x hx hw => by
  obtain ⟨s, rfl, rfl, _⟩ := DataW.trod_string ht hx
  have h1 := hw s.data.toList.length (by simp [DataW.weights])
  have h2 : s.data.toList.length = s.size := by simp
  unfold reachBytes at h1
  exact ⟨s, .cons (.str s (by omega)) .nil⟩

theorem light_all {H : Type} {e : TypeId} : ∀ {ds : List (DataW H)}, (∀ n, n ∈ DataW.weightsAll P e ds → n ≤ reachBytes) → ∀ d, d ∈ ds → Light P e d
  | [], _, d, hd => by simp at hd
  | d0 :: ds, h, d, hd => by
    rcases List.mem_cons.1 hd with rfl | hd
    · exact fun n hn => h n (by simp [DataW.weightsAll, hn])
    · exact light_all (fun n hn => h n (by simp [DataW.weightsAll, hn])) d hd
theorem light_each {H : Type} : ∀ {ts : List TypeId} {ds : List (DataW H)}, (∀ n, n ∈ DataW.weightsEach P ts ds → n ≤ reachBytes) → ∀ (i : Nat) (t : TypeId) (d : DataW H), ts[i]? = some t → ds[i]? = some d → Light P t d
  | [], _, _, i, t, d, ht, _ => by simp at ht
  | _ :: _, [], _, i, t, d, _, hd => by simp at hd
  | t0 :: ts, d0 :: ds, h, 0, t, d, ht, hd => by
    simp only [List.getElem?_cons_zero, Option.some.injEq] at ht hd
    subst ht; subst hd
    exact fun n hn => h n (by simp [DataW.weightsEach, hn])
  | t0 :: ts, d0 :: ds, h, i + 1, t, d, ht, hd => light_each (ts := ts) (ds := ds) (fun n hn => h n (by simp [DataW.weightsEach, hn])) i t d (by simpa using ht) (by simpa using hd)

theorem Rd.slice {t e : TypeId} {z : Nat} {α : Type} {d : α} {f : α → List PV} (hr : Rd P e α f) (ht : P.underlying t = some (.slice e)) (hc : P.cellsOf e = z) (hz : 1 ≤ z) (hb : 1 ≤ P.bytesOf e) :
    Rd P t (List α) (fun l => [.seq α d f l]) := fun H enc W fuel cs x hx hw => by
  rcases DataW.trod_slice ht hx with ⟨rfl, _⟩ | ⟨a, len, cap, elems, rest, n, _, rfl, rfl, hbase, hl, _, hlen, hel, _⟩
  · exact ⟨[], .cons (.seq0 _ _ _ _ _ fun _ => rfl) .nil⟩
  · rw [hc] at hel
    have hwt : (elems.length + rest.length) * P.bytesOf e ≤ reachBytes := by
      have := hw ((elems.length + rest.length) * P.bytesOf e) (by simp [DataW.weights, ht])
      exact this
    have hlen' : len ≤ 281474976710656 := by
      have h2 : (elems.length + rest.length) * 1 ≤ (elems.length + rest.length) * P.bytesOf e := Nat.mul_le_mul_left _ hb
      unfold reachBytes at hwt
      omega
    have hlight : ∀ d, d ∈ elems.map (·.1) → Light P e d := light_all fun n hn => hw n (by simp only [DataW.weights, ht, List.mem_cons, List.mem_append]; exact .inr (.inl hn))
    by_cases h0 : len = 0
    · subst h0; exact ⟨[], .cons (.seq0 _ _ _ _ _ (by simp)) .nil⟩
    have hspot : a.spot = none := by
      have h1 := hel 0 (by omega)
      have h2 : elems[0]? = some (elems[0]'(by omega)) := List.getElem?_eq_getElem (by omega)
      rw [h2] at h1
      obtain ⟨cs, h3, h4⟩ := Option.bind_eq_some_iff.1 h1
      obtain ⟨_, h5, h6⟩ := World.cells?_some h3
      have h7 : W.cell? ((a.add (0 * z)).add 0) = some (cs[0]'(by omega)) := by rw [h6 0 (by omega)]; exact List.getElem?_eq_getElem _
      simpa [Addr.add] using World.cell?_spot h7
    obtain ⟨b, off, spot⟩ := a
    simp only at hspot
    subst hspot
    have key : ∀ i, i < len → ∃ (cs : List Value) (v : α), cs.length = z ∧ (∀ j, j < z → W.cell? (Addr.add ⟨b, off, none⟩ (i * z + j)) = cs[j]?) ∧ RepL W (fun b => b < W.heap.size) cs (f v) := by
      intro i hi
      have h1 := hel i hi
      have h2 : elems[i]? = some (elems[i]'(by omega)) := List.getElem?_eq_getElem (by omega)
      rw [h2] at h1
      obtain ⟨cs, h3, h4⟩ := Option.bind_eq_some_iff.1 h1
      obtain ⟨_, h5, h6⟩ := World.cells?_some h3
      obtain ⟨v, hv⟩ := hr H enc W n cs _ h4 (hlight _ (List.mem_map_of_mem (List.getElem_mem _)))
      refine ⟨cs, v, h5, fun j hj => ?_, hv⟩
      have := h6 j hj
      simpa [Addr.add_lit, Nat.add_assoc] using this
    have build : ∀ m, m ≤ len → ∃ (l : List α) (xs : List Value), l.length = m ∧ xs.length = m * z ∧ (∀ (k : Nat) (h : k < xs.length), W.cell? ⟨b, off + k, none⟩ = some xs[k]) ∧ RepL W (fun b => b < W.heap.size) xs (l.flatMap f) := by
      intro m
      induction m with
      | zero => exact fun _ => ⟨[], [], rfl, by simp, fun k h => absurd h (by simp), .nil⟩
      | succ m ih =>
        intro hm
        obtain ⟨l, xs, h1, h2, h3, h4⟩ := ih (by omega)
        obtain ⟨ys, v, h5, h6, h7⟩ := key m (by omega)
        refine ⟨l ++ [v], xs ++ ys, by simp [h1], by simp [h2, h5, Nat.succ_mul], fun k hk => ?_, ?_⟩
        · by_cases hlt : k < xs.length
          · rw [List.getElem_append_left hlt]; exact h3 k hlt
          · rw [List.getElem_append_right (by omega)]
            have hk2 : k < xs.length + ys.length := by simpa using hk
            have := h6 (k - xs.length) (by omega)
            rw [Addr.add_lit, show off + (m * z + (k - xs.length)) = off + k by omega] at this
            rw [this]
            exact List.getElem?_eq_getElem _
        · rw [List.flatMap_append]
          exact h4.append (by simpa using h7)
    obtain ⟨l, xs, h1, h2, h3, h4⟩ := build len (Nat.le_refl _)
    have hx0 : 0 < xs.length := by
      rw [h2]; exact Nat.mul_pos (by omega) (by omega)
    have hblk := World.block_lt_of_cell? _ _ (h3 0 hx0)
    refine ⟨l, .cons ?_ .nil⟩
    have := Rep.seq (w := W) (F := fun b => b < W.heap.size) α d f l b off cap xs hblk (by omega) (by omega) h4.1 h3 h4.2
    rw [h1] at this
    exact this

/-- Several values, one behind the other. -/
def Rds (P : Program) (ts : List TypeId) (β : Type) (g : β → List PV) : Prop :=
  ∀ (H : Type) (enc : TypeId × Value → H) (W : World) (fuel : Nat) (css : List (List Value)) (xs : List (DataW H × List MemPlace)), css.length = ts.length →
    (∀ (i : Nat) (t : TypeId) (c : List Value), ts[i]? = some t → css[i]? = some c → ∃ y, xs[i]? = some y ∧ DataW.trod enc P W 0 (fun _ => true) true fuel t c = some y ∧ Light P t y.1) →
    ∃ b : β, RepL W (fun b => b < W.heap.size) css.flatten (g b)

theorem Rds.nil : Rds P [] Unit (fun _ => []) := fun H enc W fuel css xs hl h => by
  obtain rfl : css = [] := List.eq_nil_of_length_eq_zero (by simpa using hl)
  exact ⟨(), .nil⟩
theorem Rds.cons {t : TypeId} {ts : List TypeId} {α β : Type} {f : α → List PV} {g : β → List PV} (h : Rd P t α f) (hs : Rds P ts β g) : Rds P (t :: ts) (α × β) (fun p => f p.1 ++ g p.2) :=
  fun H enc W fuel css xs hl hx => by
    match css, hl with
    | c :: css, hl =>
      obtain ⟨y, h1, h2, h3⟩ := hx 0 t c rfl rfl
      obtain ⟨a, ha⟩ := h H enc W fuel c y h2 h3
      obtain ⟨b, hb⟩ := hs H enc W fuel css xs.tail (by simpa using hl) fun i t' c' ht' hc' => by
        obtain ⟨y', h4, h5, h6⟩ := hx (i + 1) t' c' (by simpa using ht') (by simpa using hc')
        exact ⟨y', by rw [List.getElem?_tail]; exact h4, h5, h6⟩
      exact ⟨(a, b), by simpa using ha.append hb⟩

theorem Rd.struct {t : TypeId} {fs : Array Field} {ts : List TypeId} {β : Type} {g : β → List PV} (hs : Rds P ts β g) (ht : P.underlying t = some (.struct fs)) (hts : fs.toList.map (·.type) = ts)
    (hoff : ∀ cs : List Value, cs.length = P.cellsOf t → (fs.toList.map fun f => (cs.drop f.offset).take (P.cellsOf f.type)).flatten = cs) : Rd P t β g := fun H enc W fuel cs x hx hw => by
  obtain ⟨xs, n, _, rfl, hl, hlen, hel⟩ := DataW.trod_struct ht hx
  have hlight : ∀ (i : Nat) (t : TypeId) (d : DataW H), (fs.toList.map (·.type))[i]? = some t → (xs.map (·.1))[i]? = some d → Light P t d :=
    light_each fun n hn => hw n (by simpa only [DataW.weights, ht] using hn)
  obtain ⟨b, hb⟩ := hs H enc W n (fs.toList.map fun f => (cs.drop f.offset).take (P.cellsOf f.type)) xs (by rw [← hts]; simp) fun i t' c ht' hc => by
    rw [← hts] at ht'
    have ht2 := ht'
    rw [List.getElem?_map] at ht' hc
    obtain ⟨fd, h1, rfl⟩ := Option.map_eq_some_iff.1 ht'
    rw [h1] at hc
    simp only [Option.map_some, Option.some.injEq] at hc
    subst hc
    have h2 := hel i fd (by simpa using h1)
    have h3 : i < xs.length := by
      rw [hlen]
      have := (List.getElem?_eq_some_iff.1 h1).1
      simpa using this
    rw [List.getElem?_eq_getElem h3] at h2
    exact ⟨_, List.getElem?_eq_getElem h3, h2, hlight i _ _ ht2 (by simp [h3])⟩
  rw [hoff cs hl] at hb
  exact ⟨b, hb⟩

/-- An argument. -/
def Arg (P : Program) (t : TypeId) (α : Type) (a : α → PV) : Prop :=
  ∀ (H : Type) (enc : TypeId × Value → H) (W : World) (r : Reach) (b0 : Nat) (v : Value) (d : DataW H) (p : List MemPlace), Value.okWide P W r b0 t v →
    DataW.Trod enc P W 0 (fun _ => true) true t v d p → Light P t d → ∃ x : α, Rep W (fun b => b < W.heap.size) v (a x)

def flatT (P : Program) (t : TypeId) : Bool := match P.underlying t with | some (.int _) | some .bool | some .string | some (.slice _) => true | _ => false
theorem flat_cells {t : TypeId} {W : World} {r : Reach} {b0 : Nat} {v : Value} (ht : flatT P t = true) (h : Value.okWide P W r b0 t v) : v.cells.toList = [v] := by
  unfold flatT at ht
  split at ht <;> first | (rename_i hu; simp only [Value.okWide, hu, Cell.okWide] at h; cases v <;> simp_all [Cell.ok, Value.cells]) | (cases ht)

theorem Arg.flat {t : TypeId} {α : Type} {a : α → PV} (h : Rd P t α (fun x => [a x])) (ht : flatT P t = true) : Arg P t α a := fun H enc W r b0 v d p hok ⟨fuel, hd⟩ hw => by
  rw [flat_cells ht hok] at hd
  obtain ⟨x, hx⟩ := h H enc W fuel _ _ hd hw
  exact ⟨x, hx.2 0 (by simp) (by simp)⟩

def aggT (P : Program) (t : TypeId) : Bool := match P.underlying t with | some (.struct _) | some (.array _ _) => true | _ => false
theorem Arg.agg {t : TypeId} {α : Type} {f : α → List PV} (h : Rd P t α f) (ht : aggT P t = true) : Arg P t α (fun x => .agg (f x)) := fun H enc W r b0 v d p hok ⟨fuel, hd⟩ hw => by
  obtain ⟨xs, rfl⟩ : ∃ xs, v = .agg xs := by
    unfold aggT at ht
    split at ht <;> first | (rename_i hu; simp only [Value.okWide, hu] at hok; obtain ⟨cs, h1, _⟩ := hok; exact ⟨cs, h1⟩) | (cases ht)
  obtain ⟨x, hx⟩ := h H enc W fuel _ _ hd hw
  refine ⟨x, ?_⟩
  have := Rep.agg (w := W) (F := fun b => b < W.heap.size) xs.toList (f x) hx.1 hx.2
  simpa using this

/-- All arguments. -/
def Args (P : Program) (ts : List TypeId) (β : Type) (g : β → List PV) : Prop :=
  ∀ (H : Type) (enc : TypeId × Value → H) (W : World) (r : Reach) (b0 : Nat) (vs : List Value) (ds : List (DataW H)) (ps : List MemPlace), (∀ (j : Nat) t v, ts[j]? = some t → vs[j]? = some v → Value.okWide P W r b0 t v) →
    DataW.TrodAll enc P W 0 (fun _ => true) true ts vs ds ps → (∀ n, n ∈ DataW.weightsEach P ts ds → n ≤ reachBytes) → ∃ x : β, RepL W (fun b => b < W.heap.size) vs (g x)

theorem Args.nil : Args P [] Unit (fun _ => []) := fun H enc W r b0 vs ds ps hok h hw => by
  obtain ⟨rfl, rfl, rfl⟩ := trodAll_nil h
  exact ⟨(), .nil⟩
theorem Args.cons {t : TypeId} {ts : List TypeId} {α β : Type} {a : α → PV} {g : β → List PV} (h : Arg P t α a) (hs : Args P ts β g) : Args P (t :: ts) (α × β) (fun p => a p.1 :: g p.2) := fun H enc W r b0 vs ds ps hok ht hw => by
  obtain ⟨v, vs', d, ds', p, q, rfl, rfl, rfl, h1, h2⟩ := trodAll_cons ht
  obtain ⟨x, hx⟩ := h H enc W r b0 v d p (hok 0 t v rfl rfl) h1 fun n hn => hw n (by simp [DataW.weightsEach, hn])
  obtain ⟨y, hy⟩ := hs H enc W r b0 vs' ds' q (fun j t' v' e1 e2 => hok (j + 1) t' v' (by simpa using e1) (by simpa using e2)) h2 fun n hn => hw n (by simp [DataW.weightsEach, hn])
  exact ⟨(x, y), .cons hx hy⟩

theorem trodAll_len {H : Type} {enc : TypeId × Value → H} {W : World} : ∀ (ts : List TypeId) (vs : List Value) (ds : List (DataW H)) (ps : List MemPlace), DataW.TrodAll enc P W 0 (fun _ => true) true ts vs ds ps → ds.length = ts.length
  | [], vs, ds, ps, h => by obtain ⟨rfl, rfl, rfl⟩ := trodAll_nil h; rfl
  | t :: ts, vs, ds, ps, h => by
    obtain ⟨v, vs', d, ds', p', q', rfl, rfl, rfl, h1, h2⟩ := trodAll_cons h
    simp [trodAll_len ts vs' ds' q' h2]

/-- THE LAW'S CONTRACT, WHATEVER ITS ARGUMENTS. -/
theorem law_calls_all {H : Type} {enc : TypeId × Value → H} {f : FuncId} {fn : Func} {s : ChangeSpec} {W : World} {base : Nat} {args : Array Value} {ds gs : List (DataW H)} {before : List MemPlace} {bt : TypeId} (hl : laidOutB P = true)
    (hrd : ∀ t, t ∈ fn.params.toList → P.readableRec t = true ∧ t < P.types.size) (hres : fn.resultTypes = #[bt]) (hbt : P.underlying bt = some .bool) (hvars : s.vars = [])
    (hval : ∀ (j : Nat) t v, fn.params[j]? = some t → args[j]? = some v → Value.okWide P W .any base t v)
    (hW : DataW.Whole enc P fn.params.toList s.vars false W args.toList ds gs before) (hsz : (DataW.weightsEach P (fn.params.toList ++ s.plain.varTypes P) (ds ++ gs)).all (· ≤ reachBytes) = true)
    (hvt : s.plain.varTypes P = []) {β : Type} {g : β → List PV} (hargs : Args P fn.params.toList β g) (hfn : ds.length = fn.params.toList.length → s.fn H ds = { results := [.lit (.bool true)], args := ds })
    (hfc : ∀ x, FC P f (g x) (.bool true)) :
    Calls P f args W fun e W' => ∃ v, e = .returned v ∧ s.post enc P fn false true false false W args v W' := by
  have hW0 := hW
  obtain ⟨p, q, hA, hV, hpq, hfz, hnd⟩ := hW
  rw [hvars] at hV
  obtain ⟨rfl, rfl⟩ := trodVars_none hV
  rw [hvt, List.append_nil, List.append_nil] at hsz
  obtain ⟨x, hx⟩ := hargs H enc W .any base args.toList ds p (fun j t v e1 e2 => hval j t v (by simpa using e1) (by simpa using e2)) hA fun n hn => by
    have := List.all_eq_true.1 hsz n hn
    simpa using this
  have hlen : ds.length = fn.params.toList.length := trodAll_len _ _ _ _ hA
  exact law_calls hl hrd hres hbt hvars hW0 (by rw [List.append_nil]; exact hfn hlen) hx (hfc x)
end
end Go.Abs
