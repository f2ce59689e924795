/- From a contract that reads package-level variables to a law's row. Conditions: each law names its own. -/
import Derived.Test.YtolmcapbpliaiaaDoorAbsR
import Derived.Test.YtolmcapbpliaiaaDoorAbsY
import Derived.Stop.LaidErr
namespace Go.Abs
open Go.ChangeShapes Go.WideShapes Go.ChangeAt Go.RowKit
set_option linter.unusedVariables false

section
variable {H : Type} {enc : TypeId × Value → H} {P : Program}
/-- The call of a law that answers true, whatever is known of it. -/
theorem law_calls_core {f : FuncId} {fn : Func} {s : ChangeSpec} {W : World} {args : Array Value} {ds gs : List (DataW H)} {before : List MemPlace} {bt : TypeId} (hl : laidOutB P = true)
    (hrd : ∀ t, t ∈ fn.params.toList → P.readableRec t = true ∧ t < P.types.size) (hres : fn.resultTypes = #[bt]) (hbt : P.underlying bt = some .bool) (hvars : s.vars = [])
    (hW : DataW.Whole enc P fn.params.toList s.vars false W args.toList ds gs before) (hfn : s.fn H (ds ++ gs) = { results := [.lit (.bool true)], args := ds })
    (hc : Calls P f args W fun e W' => e = .returned (.bool true) ∧ Below W.heap.size W W') :
    Calls P f args W fun e W' => ∃ v, e = .returned v ∧ s.post enc P fn false true false false W args v W' := by
  refine hc.mono ?_
  rintro e W' ⟨rfl, hb⟩
  have hlt := hW.lt
  have hW0 := hW
  obtain ⟨p, q, hA, hV, hpq, hfz, hnd⟩ := hW
  rw [hvars] at hV
  obtain ⟨rfl, rfl⟩ := trodVars_none hV
  rw [List.append_nil] at hpq
  subst hpq
  refine ⟨_, rfl, ds, [], before, [], before, [], hW0, ?_, ?_, ?_, hb.frame _, fun h => by cases h⟩
  · rw [hfn, hres]
    exact ⟨[], [], shut_bool hbt true, rfl, rfl⟩
  · rw [hfn]
    exact trodAll_stays hl hb _ _ _ _ hrd hA hlt
  · rw [hfn, hvars]
    rfl
end

theorem fxh_calls {P : Program} {gs : List Nat} {K : FuncId} {vals : List PV} (h : FXH P gs K (vals.map SV.pv) [] (.ret (.bool true))) {W : World} {vs : List Value} (hrep : RepL W (fun _ => False) vs vals) (hG : ∀ g, g ∈ gs → Glob g W) :
    Calls P K vs.toArray W fun e W' => e = .returned (.bool true) ∧ Below W.heap.size W W' := by
  have hno : ∀ (ι' : Nat → Value) (b : Nat), ¬ Owned ι' [] b := fun ι' b ⟨id, blk, hl, _⟩ => by simp at hl
  have hk : HeapOk (fun b => W.heap.size ≤ b) (fun _ => undef) [] W := ⟨fun id blk hl => by simp at hl, fun id id' blk blk' b hl => by simp at hl, fun b hb => absurd hb (hno _ b)⟩
  have := h (fun b => W.heap.size ≤ b) (fun _ => undef) W vs (fun g hg => ⟨fun hc => by have := (hG g hg).lt; omega, hG g hg⟩) (fun b hb => hb) hk (by simpa using hrep.1) fun k h1 h2 => by
    rw [List.getElem_map]
    exact .pv _ _ ((hrep.2 k h1 (by simpa using h2)).mono (fun _ _ => rfl) fun b hb => hb.elim)
  refine Calls.mono (show Calls P K vs.toArray W _ from this) ?_
  rintro e W' ⟨ι', rv, rfl, hrv, hk', hos, htape, hout, hsize, hkept, _⟩
  have hb : rv = .bool true := (show RepS _ _ _ rv (.pv (.bool true)) from hrv).pv_inv.bool_inv
  exact ⟨by rw [hb], hos, htape, hout, hsize, fun b hb => hkept b hb (hno _ b)⟩

/-- A variable that holds a sentinel lies where it was laid. -/
theorem glob_laid {P : Program} {n nm : String} {text : List UInt8} {r : List (String × DataW Unit)} {W : World} {g : Nat} {ti tp te ts : TypeId} {ms : Array (String × TypeId)} {f : Field}
    (h : laidMet P ((n, .iface nm (.ptr (.agg [.lit (.string text)]))) :: r) W)
    (hg : P.globalNamed n = some g) (ht : (P.globals[g]?).map (·.type) = some ti) (hi : P.underlying ti = some (.interface ms)) (hrow : ∀ u, P.typeName? 3 u = some nm → u = tp)
    (hp : P.underlying tp = some (.pointer te)) (he : P.underlying te = some (.struct #[f])) (hft : f.type = ts) (hfo : f.offset = 0) (hs : P.underlying ts = some .string) (hc : P.cellsOf te = 1) (hcs : P.cellsOf ts = 1) : Glob g W := by
  obtain ⟨a, s, h1, _⟩ := laid_sentinel h hg ht hi hrow hp he hft hfo hs hc hcs
  refine ⟨.iface tp (.pointer (some a)), ?_, .inr ⟨_, _, rfl⟩⟩
  have := World.var?_cell hg h1 0
  simpa using this
end Go.Abs
