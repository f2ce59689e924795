/- From a contract on plain values to a law's row: the law's arguments are read as plain values, and read behind the call as they read before. Conditions: each law names its own. -/
import Derived.Test.YtolmcapbpliaiaaDoorAbs5
import Derived.ProofKit
import Derived.SizedLaws
namespace Go.Abs
open Go.ChangeShapes Go.WideShapes Go.ChangeAt Go.RowKit
set_option linter.unusedVariables false

section
variable {H : Type} {enc : TypeId × Value → H} {P : Program}

theorem trodAll_stays (hl : laidOutB P = true) {W W' : World} (hb : Below W.heap.size W W') : ∀ (ts : List TypeId) (vs : List Value) (ds : List (DataW H)) (ps : List MemPlace),
    (∀ t, t ∈ ts → P.readableRec t = true ∧ t < P.types.size) → DataW.TrodAll enc P W 0 (fun _ => true) true ts vs ds ps → (∀ x, x ∈ ps → x.block < W.heap.size) →
    DataW.TrodAll enc P W' 0 (fun b => decide (b < W.heap.size)) true ts vs ds ps
  | [], vs, ds, ps, _, h, _ => by
    obtain ⟨rfl, rfl, rfl⟩ := trodAll_nil h
    rfl
  | t :: ts, vs, ds, ps, ht, h, hlt => by
    obtain ⟨v, vs', d, ds', p, q, rfl, rfl, rfl, h1, h2⟩ := trodAll_cons h
    have ht0 := ht t List.mem_cons_self
    exact ⟨p, q, Below.trod hl ht0.1 ht0.2 h1 hb fun x hx => hlt x (List.mem_append_left _ hx),
      trodAll_stays hl hb ts vs' ds' q (fun u hu => ht u (List.mem_cons_of_mem _ hu)) h2 (fun x hx => hlt x (List.mem_append_right _ hx)), rfl⟩

/-- THE CALL OF A LAW THAT ANSWERS true, AND WHAT THE ROW ASKS OF IT. -/
theorem law_calls {f : FuncId} {fn : Func} {s : ChangeSpec} {W : World} {args : Array Value} {ds gs : List (DataW H)} {before : List MemPlace} {bt : TypeId} (hl : laidOutB P = true)
    (hrd : ∀ t, t ∈ fn.params.toList → P.readableRec t = true ∧ t < P.types.size) (hres : fn.resultTypes = #[bt]) (hbt : P.underlying bt = some .bool) (hvars : s.vars = [])
    (hW : DataW.Whole enc P fn.params.toList s.vars false W args.toList ds gs before) (hfn : s.fn H (ds ++ gs) = { results := [.lit (.bool true)], args := ds })
    {vals : List PV} (hrep : RepL W (fun b => b < W.heap.size) args.toList vals) (hfc : FC P f vals (.bool true)) :
    Calls P f args W fun e W' => ∃ v, e = .returned v ∧ s.post enc P fn false true false false W args v W' := by
  have hc := hfc W args.toList _ (fun b hb => hb) hrep
  rw [Array.toArray_toList] at hc
  refine hc.mono ?_
  rintro e W' ⟨rv, rfl, hrv, hos, htape, hout, hsize, hall⟩
  obtain rfl := hrv.bool_inv
  have hb : Below W.heap.size W W' := ⟨hos, htape, hout, hsize, hall⟩
  have hlt := hW.lt
  have hW0 := hW
  obtain ⟨p, q, hA, hV, hpq, hfz, hnd⟩ := hW
  rw [hvars] at hV
  obtain ⟨rfl, rfl⟩ := trodVars_none hV
  rw [List.append_nil] at hpq
  subst hpq
  refine ⟨_, rfl, ds, [], before, [], before, [], hW0, ?_, ?_, ?_, hb.frame _, fun h => by cases h⟩
  · rw [hfn, hres]
    exact ⟨[], [], shut_bool hbt true, rfl, rfl⟩
  · rw [hfn]
    exact trodAll_stays hl hb _ _ _ _ hrd hA hlt
  · rw [hfn, hvars]
    rfl

/-! ## What is read, as plain values -/

theorem rep_int {W : World} {t : TypeId} {k : IntKind} {v : Value} {d : DataW H} {p : List MemPlace} (ht : P.underlying t = some (.int k)) {r : Reach} {b0 : Nat} (hval : Value.okWide P W r b0 t v)
    (h : DataW.Trod enc P W 0 (fun _ => true) true t v d p) : ∃ n, Rep W (fun b => b < W.heap.size) v (.int k n) := by
  obtain ⟨n, rfl, _, _, hw⟩ := open_int ht hval h
  refine ⟨n, .int k n ?_⟩
  cases k <;> simpa [Lit.wf, InK, IntKind.min, IntKind.max, IntKind.signed, IntKind.bits] using hw

theorem rep_ints {W : World} {t e : TypeId} {v : Value} {d : DataW H} {p : List MemPlace} {fuel : Nat} (ht : P.underlying t = some (.slice e)) (he : P.underlying e = some (.int .i64)) (hc : P.cellsOf e = 1)
    (hb : P.bytesOf e = 8) (h : DataW.trod enc P W 0 (fun _ => true) true fuel t [v] = some (d, p)) (hsz : ∀ len cap a, v = .slice (some a) len cap → cap ≤ 281474976710656) :
    ∃ l : List Int, Rep W (fun b => b < W.heap.size) v (.ints l) := by
  rcases open_ints ht he hc h with ⟨h1, h2⟩ | ⟨a, len, cap, zs, h1, hbase, hlen, hcap, hzs, h2, hcell, hw⟩
  · obtain rfl : v = .slice none 0 0 := by simpa using h1
    exact ⟨[], .seq0 _ _ _ _ _ fun _ => rfl⟩
  · obtain rfl : v = .slice (some a) len cap := by simpa using h1
    simp only [↓reduceIte] at hzs
    by_cases h0 : len = 0
    · subst h0; exact ⟨[], .seq0 _ _ _ _ _ (by simp)⟩
    · have hspot : a.spot = none := by
        have := hcell 0 (by omega)
        simpa [Addr.add] using World.cell?_spot this
      obtain ⟨b, off, spot⟩ := a
      simp only at hspot
      subst hspot
      have hblk := World.block_lt_of_cell? _ _ (hcell 0 (by omega))
      rw [Addr.add_lit] at hblk
      have hflat : ∀ m : List Int, (m.flatMap fun n => [PV.int .i64 n]) = m.map (PV.int .i64) := fun m => by induction m <;> simp_all
      refine ⟨zs.take len, ?_⟩
      have hl : (zs.take len).length = len := by simp; omega
      have := Rep.seq (w := W) (F := fun b => b < W.heap.size) Int 0 (fun n => [.int .i64 n]) (zs.take len) b off cap ((zs.take len).map (Value.int .i64)) hblk (by omega) (by have := hsz _ _ _ rfl; omega)
        (by rw [hflat]; simp) ?_ ?_
      · rw [hl] at this; exact this
      · intro k h1
        have hk : k < len := by simp at h1; omega
        have := hcell k (by omega)
        rw [Addr.add_lit] at this
        rw [this]
        simp [List.getD_eq_getElem?_getD, show k < zs.length by omega]
      · intro k h1 h2
        have hk : k < len := by simp at h1; omega
        have hwk := hw (zs[k]'(by omega)) (List.getElem_mem _)
        simp only [hflat, List.getElem_map, List.getElem_take]
        refine .int .i64 _ ?_
        simpa [Lit.wf, InK, IntKind.min, IntKind.max, IntKind.signed, IntKind.bits] using hwk
end
end Go.Abs
