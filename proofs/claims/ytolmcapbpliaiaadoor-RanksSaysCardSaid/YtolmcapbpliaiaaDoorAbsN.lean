/- The loop over a function. Conditions: each law names its own. -/
import Derived.Test.YtolmcapbpliaiaaDoorAbsM
namespace Go.Abs
set_option linter.unusedVariables false
variable {B : BT}

/-- The slots' values as a loop's record keeps them. -/
def csOf (n : Nat) (env : Env) : List SV := (List.range n).map fun k => (lk env k).getD (.pv .any)
theorem csOf_get {n : Nat} {env : Env} {k : Nat} (h : k < (csOf n env).length) : (csOf n env)[k] = (lk env k).getD (.pv .any) := by simp [csOf]

theorem awp_rangeFunc {P : Program} {n t0 : Nat} {ps : Array Tmp} {as bd : Code} {Q : Exit → St → Prop} {env : Env} {H : Heap} {gf : FuncId} {caps : List SV} {y : Nat} {cs : List SV} {H0 H0' : Heap} {v : SV} (ρ : Nat → Nat)
    (hg : lk env t0 = some (.clo (.func gf) (SV.mapIL ρ caps))) (hcall : ∀ vs w, (callFunc gf vs).run P w = .ok (.enter gf vs) w)
    (hf : FCH P gf (.own y :: caps) ((y, .yld ps as bd cs) :: H0) ((y, .yld ps as bd cs) :: H0') v none)
    (hcs : SV.mapIL ρ cs = csOf n env) (hfe : freshIn (some (ρ y)) env = true) (hfh : heapMen (ρ y) H = false) (hkey : (H.all fun p => !(p.1 == ρ y)) = true) (hkey2 : ((mapH ρ H0').all fun p => !(p.1 == ρ y)) = true)
    (hH : KeptM ρ ((ρ y, .yld ps as bd (csOf n env)) :: H) ((y, .yld ps as bd cs) :: H0))
    (hok : namesOk ρ ((ρ y, .yld ps as bd (csOf n env)) :: H) ((y, .yld ps as bd cs) :: H0) ((y, .yld ps as bd cs) :: H0') v none = true)
    (hQ : Q .normal ⟨env, mapH ρ H0' ++ H⟩) : awp (ro := none) (B := none) P n (.rangeFunc (.tmp t0) ps as bd) Q ⟨env, H⟩ := by
  intro w0 O V ι a w hs
  refine wpIn_rangeFunc ?_
  intro fn _
  have hgr : RepS ι w (Free V ι H w) (a.eval (.tmp t0)) (.clo (.func gf) (SV.mapIL ρ caps)) := Sees.rep hs (Sees.plain (g := true) hg) rfl
  obtain ⟨lb, hge, hlbl, hlbr⟩ : ∃ xs : List Value, a.eval (.tmp t0) = .func (.func gf) #[] xs.toArray ∧ xs.length = (SV.mapIL ρ caps).length ∧ ∀ (k : Nat) (h1 : k < xs.length) (h2 : k < (SV.mapIL ρ caps).length), RepS ι w (Free V ι H w) xs[k] (SV.mapIL ρ caps)[k] := by
    generalize a.eval (.tmp t0) = u at hgr
    cases hgr with
    | clo _ xs _ hl hr' => exact ⟨xs, rfl, hl, hr'⟩
  obtain ⟨rec, hrec⟩ : ∃ rec : Loop, rec = { state := .ready, pending := none, fn, tmps := a.tmps, params := ps, assign := as, body := bd, defers := w.heap.size } := ⟨_, rfl⟩
  obtain ⟨W1, hW1⟩ : ∃ W1, (w.alloc (.deferred (some []))).alloc (.loop rec) = W1 := ⟨_, rfl⟩
  let D := w.heap.size
  let l := w.heap.size + 1
  have hsz : W1.heap.size = w.heap.size + 2 := by rw [← hW1]; simp
  have hl1 : W1.heap[l]? = some (.loop rec) := by
    rw [← hW1]; have := World.alloc_heap_new (w.alloc (.deferred (some []))) (.loop rec); rwa [World.size_alloc] at this
  have hD1 : W1.heap[D]? = some (.deferred (some [])) := by
    rw [← hW1]; exact (Go.RowKit.Below.heap_alloc _ _ _ (by simp [D])).trans (World.alloc_heap_new w _)
  have hold : ∀ b, b < w.heap.size → W1.heap[b]? = w.heap[b]? := fun b hb => by
    rw [← hW1]; exact (Go.RowKit.Below.heap_alloc _ _ _ (by simp; omega)).trans (Go.RowKit.Below.heap_alloc _ _ _ hb)
  let yv : Value := .func (.yield l) #[] #[]
  let ι1 : Nat → Value := fun i => if i = ρ y then yv else ι i
  let V1 : Nat → Prop := fun b => V b ∧ b ≠ D
  let Hc : Heap := (ρ y, .yld ps as bd (csOf n env)) :: H
  have hyk : ∀ id blk, List.lookup id H = some blk → id ≠ ρ y := fun id blk hl e => by
    have := List.all_eq_true.1 hkey _ (mem_of_lookup' hl)
    simp [e] at this
  have hι1 : ∀ id, id ≠ ρ y → ι1 id = ι id := fun id e => if_neg e
  have hι1y : ι1 (ρ y) = yv := if_pos rfl
  have hlk : ∀ id blk, List.lookup id H = some blk → List.lookup id Hc = some blk := fun id blk hl => by
    show List.lookup id ((ρ y, _) :: H) = _
    rw [List.lookup_cons, beq_eq_false_iff_ne.2 (hyk id blk hl)]; exact hl
  have hlk2 : ∀ id blk, List.lookup id Hc = some blk → (id = ρ y ∧ blk = .yld ps as bd (csOf n env)) ∨ (id ≠ ρ y ∧ List.lookup id H = some blk) := fun id blk hl => by
    have hl : List.lookup id ((ρ y, Blk.yld ps as bd (csOf n env)) :: H) = some blk := hl
    rw [List.lookup_cons] at hl
    by_cases e : id = ρ y
    · subst e; simp at hl; exact .inl ⟨rfl, hl.symm⟩
    · rw [beq_eq_false_iff_ne.2 e] at hl; exact .inr ⟨e, hl⟩
  have hown1 : ∀ b, Owned ι1 Hc b → b = l ∨ Owned ι H b := by
    rintro b ⟨id, blk, hl, hb⟩
    rcases hlk2 id blk hl with ⟨rfl, rfl⟩ | ⟨e, hl⟩
    · rw [hι1y] at hb; simp [yv, blkOf] at hb; exact .inl hb.symm
    · rw [hι1 id e] at hb; exact .inr ⟨id, blk, hl, hb⟩
  have hoH : ∀ b, Owned ι H b → b < w.heap.size := fun b hb => hs.heap.lt hb
  have hfree1 : ∀ b, Free V ι H w b → Free V1 ι1 Hc W1 b := fun b hb => ⟨by have := hb.1; omega, ⟨hb.2.1, by have := hb.1; omega⟩, fun ho => by
    rcases hown1 b ho with rfl | h
    · have := hb.1; omega
    · exact hb.2.2 h⟩
  have hmen : ∀ id blk, List.lookup id H = some blk → blk.men (ρ y) = false := fun id blk hl => heapMen_get hfh hl
  have hmv : ∀ {v : Value} {s : SV}, RepS ι w (Free V ι H w) v s → s.men (ρ y) = false → RepS ι1 W1 (Free V1 ι1 Hc W1) v s := fun h hm =>
    h.move (nw := some (ρ y)) (fun b hb => hold b hb.1) hfree1 (fun id e => hι1 id fun e' => e (by rw [e'])) (fun id e => by simp only [Option.some.injEq] at e; rw [← e]; exact hm)
  have henv : ∀ t s, lk env t = some s → s.men (ρ y) = false := freshIn_spec hfe (ρ y) rfl
  have hk1 : HeapOk V1 ι1 Hc W1 := by
    refine ⟨fun id blk hl => ?_, fun id id' blk blk' b h1 h2 hb hb' => ?_, fun b hb => ?_⟩
    · rcases hlk2 id blk hl with ⟨rfl, rfl⟩ | ⟨e, hl⟩
      · rw [hι1y]
        refine ⟨l, rec, a.tmps.toList, rfl, hl1, by rw [hrec], by rw [hrec], by rw [hrec], by rw [hrec], by rw [hrec], by rw [hrec], by simp [csOf, hs.tmps], fun k h1 h2 => ?_⟩
        rw [csOf_get]
        have hk : k < a.tmps.size := by simpa using h1
        have ev : a.tmps.toList[k] = a.tmps.getD k undef := by simp [Array.getD_eq_getD_getElem?, hk]
        rw [ev]
        cases he : lk env k with
        | none => exact .pv _ _ (.any _)
        | some s => exact hmv (hs.env k s he) (henv k s he)
      · rw [hι1 id e]
        have h0 := hs.heap.ok id blk hl
        have hm := hmen id blk hl
        have hlt : ∀ b, blkOf (ι id) = some b → W1.heap[b]? = w.heap[b]? := fun b hb => hold b (hoH b ⟨id, blk, hl, hb⟩)
        cases blk with
        | box cs =>
          obtain ⟨b, xs, el, hv, hh, hlen, hr⟩ := h0
          exact ⟨b, xs, el, hv, (hlt b (by rw [hv]; rfl)).trans hh, hlen, fun k h1 h2 => hmv (hr k h1 h2) (SV.menL_get (by simpa [Blk.men] using hm) k h2)⟩
        | tbox T cs =>
          obtain ⟨b, xs, el, hv, hh, hlen, hr⟩ := h0
          exact ⟨b, xs, el, hv, (hlt b (by rw [hv]; rfl)).trans hh, hlen, fun k h1 h2 => hmv (hr k h1 h2) (SV.menL_get (by simpa [Blk.men] using hm) k h2)⟩
        | arr el z α d f l =>
          obtain ⟨xs, ho, hr, hml⟩ := h0
          exact ⟨xs, ownsRow_move ho fun b hb => hlt b (by rw [blkOf_own ho]; exact hb), hr.mono (fun b hb => hold b hb.1) hfree1, hml⟩
        | mp m =>
          obtain ⟨r, es, clock, hv, hh, hm1, hr⟩ := h0
          exact ⟨r, es, clock, hv, (hlt r (by rw [hv]; rfl)).trans hh, hm1, hr⟩
        | mq m =>
          obtain ⟨r, es, hv, hh, hm1⟩ := h0
          exact ⟨r, es, hv, (hlt r (by rw [hv]; rfl)).trans hh, hm1.mono (fun b hb => hold b hb.1) hfree1⟩
        | yld ps2 as2 bd2 cs2 =>
          obtain ⟨l2, r, xs, hv, hh, g1, g2, g3, g4, g5, g6, hlen, hr⟩ := h0
          exact ⟨l2, r, xs, hv, (hlt l2 (by rw [hv]; rfl)).trans hh, g1, g2, g3, g4, g5, g6, hlen, fun k h1 h2 => hmv (hr k h1 h2) (SV.menL_get (by simpa [Blk.men] using hm) k h2)⟩
    · rcases hlk2 id blk h1 with ⟨rfl, rfl⟩ | ⟨e1, h1⟩ <;> rcases hlk2 id' blk' h2 with ⟨rfl, rfl⟩ | ⟨e2, h2⟩
      · rfl
      · rw [hι1y] at hb; simp [yv, blkOf] at hb; subst hb
        rw [hι1 id' e2] at hb'
        have := hoH _ ⟨id', blk', h2, hb'⟩; omega
      · rw [hι1y] at hb'; simp [yv, blkOf] at hb'; subst hb'
        rw [hι1 id e1] at hb
        have := hoH _ ⟨id, blk, h1, hb⟩; omega
      · rw [hι1 id e1] at hb; rw [hι1 id' e2] at hb'
        exact hs.heap.inj id id' blk blk' b h1 h2 hb hb'
    · rcases hown1 b hb with rfl | h
      · exact ⟨hs.new _ (by omega), by simp [l, D]⟩
      · exact ⟨hs.heap.vis b h, by have := hoH b h; omega⟩
  have hV1 : ∀ b, W1.heap.size ≤ b → V1 b := fun b hb => ⟨hs.new b (by omega), by omega⟩
  have hlen1 : (yv :: lb).length = (SV.own y :: caps).length := by rw [SV.mapIL_map] at hlbl; simpa using hlbl
  obtain ⟨R, hc, hR⟩ := FCX.use (Cl := Calls P gf) (vs := yv :: lb) ρ hf hH hok hV1 hk1 hlen1 (fun k h1 h2 => by
    cases k with
    | zero =>
      simp only [List.getElem_cons_zero, SV.mapI]
      rw [← hι1y]; exact .own _
    | succ k =>
      simp only [List.getElem_cons_succ]
      have h1' : k < lb.length := by simpa using h1
      have h2' : k < caps.length := by simpa using h2
      have h3 := hmv (hlbr k h1' (by rw [SV.mapIL_map]; simpa using h2')) (by
        have hm : SV.men (ρ y) (.clo (.func gf) (SV.mapIL ρ caps)) = false := henv t0 _ hg
        exact SV.menL_get (by simpa [SV.men] using hm) k (by rw [SV.mapIL_map]; simpa using h2'))
      simpa [SV.mapIL_map] using h3)
  refine ⟨l, [{ target := .collected D, args := #[] }], W1, { target := .fn (.func gf) lb.toArray, args := #[yv] }, W1, gf, (yv :: lb).toArray, W1, ?_, ?_, fun _ _ => trivial, ?_, fun h => by simp [Fo, Fence.wide] at h, ?_⟩
  · rw [← hW1, hrec]; exact run_enterLoop_outer _ _ _ _ _
  · simp [resolve, hge, Deferred.ofValue, rangeCall, yv]
    rfl
  · have e : (yv :: lb).toArray = #[yv] ++ lb.toArray := by rw [← Array.toList_inj]; simp
    rw [e]
    simp [invoke, hcall]
  refine CallsIn.mono (calls_fo hc) ?_
  intro ex W3 hex
  obtain ⟨ι2, rv, rfl, hst, hrv⟩ := hR ex W3 hex
  have hι2 : ∀ id, ι2 id = ι1 id := fun id => hst.agree id (by simp)
  have hby : List.lookup (ρ y) (mapH ρ ((y, .yld ps as bd cs) :: H0') ++ Hc) = some ((Blk.yld ps as bd cs).mapI ρ) := by
    simp [mapH, lookup_append_ne]
  obtain ⟨l3, r3, xs3, hv3, hh3, k1, k2, _⟩ := hst.ok.ok _ _ hby
  have hl3 : l3 = l := by
    rw [hι2, hι1y] at hv3
    simp [yv] at hv3
    exact hv3.symm
  subst hl3
  have hend := run_endLoop (P := P) hh3 (by rw [k1]; simp)
  generalize (Obj.loop { r3 with state := .exhausted }) = o3 at hend
  rw [k2] at hend
  refine ⟨none, _, hend, ?_⟩
  let V' : Nat → Prop := fun b => V b ∧ b ≠ D ∧ b ≠ l
  let H2 : Heap := mapH ρ H0' ++ H
  have hl3sz : l < W3.heap.size := (Array.getElem?_eq_some_iff.1 hh3).1
  have hlk3 : ∀ id blk, List.lookup id H2 = some blk → id ≠ ρ y ∧ List.lookup id (mapH ρ ((y, .yld ps as bd cs) :: H0') ++ Hc) = some blk := fun id blk hl => by
    have hl : List.lookup id (mapH ρ H0' ++ H) = some blk := hl
    have hne : id ≠ ρ y := by
      rw [lookup_append_ne] at hl
      cases hm : List.lookup id (mapH ρ H0') with
      | some b =>
        intro e
        have := List.all_eq_true.1 hkey2 _ (mem_of_lookup' hm)
        simp [e] at this
      | none => rw [hm] at hl; exact hyk id blk hl
    refine ⟨hne, ?_⟩
    rw [lookup_append_ne] at hl ⊢
    have e1 : List.lookup id (mapH ρ ((y, Blk.yld ps as bd cs) :: H0')) = List.lookup id (mapH ρ H0') := by
      simp only [mapH, List.map_cons, List.lookup_cons, beq_eq_false_iff_ne.2 hne]
    rw [e1]
    cases hm : List.lookup id (mapH ρ H0') with
    | some b => rw [hm] at hl; exact hl
    | none => rw [hm] at hl; exact hlk id blk hl
  have hown3 : ∀ b, Owned ι2 H2 b → Owned ι2 (mapH ρ ((y, .yld ps as bd cs) :: H0') ++ Hc) b := fun b ⟨id, blk, hl, hb⟩ => ⟨id, blk, (hlk3 id blk hl).2, hb⟩
  have hnol : ¬ Owned ι2 H2 l := fun ⟨id, blk, hl, hb⟩ => by
    have := hst.ok.inj id (ρ y) _ _ l (hlk3 id blk hl).2 hby hb (by rw [hι2, hι1y]; rfl)
    exact (hlk3 id blk hl).1 this
  have hmine : ∀ b, Owned ι2 H2 b → W1.heap.size ≤ b ∨ Owned ι H b := fun b hb => by
    rcases hst.owned b (hown3 b hb) with h1 | h1
    · exact .inl h1
    · rcases hown1 b h1 with rfl | h2
      · exact absurd hb hnol
      · exact .inr h2
  have hkk : HeapOk V' ι2 H2 W3 := by
    refine ⟨fun id blk hl => (hst.ok.ok id blk (hlk3 id blk hl).2).mono fun b hb => ⟨hb.1, ⟨hb.2.1.1, hb.2.1.2, fun e => hb.2.2 ⟨ρ y, _, hby, by rw [hι2, hι1y, e]; rfl⟩⟩, fun ho => hb.2.2 (hown3 b ho)⟩,
      fun id id' blk blk' b h1 h2 => hst.ok.inj id id' blk blk' b (hlk3 id blk h1).2 (hlk3 id' blk' h2).2, fun b hb => ⟨(hst.ok.vis b (hown3 b hb)).1, (hst.ok.vis b (hown3 b hb)).2, fun e => hnol (e ▸ hb)⟩⟩
  have hV'l : ¬ V' l := fun h => h.2.2 rfl
  have hkept : ∀ b, b < w.heap.size → ¬ Owned ι H b → (W3.putObj l o3).heap[b]? = w.heap[b]? := fun b hb ho => by
    rw [World.putObj_heap_other (by omega), hst.kept b (by omega) (fun h => (hown1 b h).elim (fun e => by omega) ho), hold b hb]
  have hsz3 := hst.size
  refine ⟨V', ι2, ⟨env, H2⟩, fun b hb => hb.1, hQ, ?_⟩
  refine ⟨hst.os.trans (by rw [← hW1]; exact hs.os), hst.tape.trans (by rw [← hW1]; exact hs.tape), hst.output.trans (by rw [← hW1]; exact hs.output), ?_, fun b hb hO => ?_, fun b hb => ?_, hkk.put _ hV'l, fun t s ht => ?_, hs.tmps, ?_, fun b hb => ?_⟩
  · have := hs.size; simp; omega
  · have hbw := Nat.lt_of_lt_of_le hb hs.size
    rw [hkept b hbw fun ho => by rcases hs.mine b ho with h1 | h1 <;> first | omega | exact hO h1]
    exact hs.kept b hb hO
  · rcases hmine b hb with h1 | h1
    · have := hs.size; exact .inl (by omega)
    · exact hs.mine b h1
  · refine (hs.env t s ht).move (nw := some (ρ y)) (fun b hb => hkept b hb.1 hb.2.2) (fun b hb => ⟨by have := hb.1; simp; omega, ⟨hb.2.1, by have := hb.1; omega, by have := hb.1; omega⟩, fun ho => ?_⟩)
      (fun id e => (hι2 id).trans (hι1 id fun e' => e (by rw [e']))) (fun id e => by simp only [Option.some.injEq] at e; rw [← e]; exact henv t s ht)
    rcases hmine b ho with h1 | h1
    · have := hb.1; omega
    · exact hb.2.2 h1
  · obtain ⟨Ds, h1, h2, h3⟩ := hs.marks
    have hDl : ∀ D', D' ∈ Ds → D' < w.heap.size := fun D' hD' => (Array.getElem?_eq_some_iff.1 (h3 D' hD').2.1).1
    refine ⟨D :: Ds, List.nodup_cons.2 ⟨fun hm => by have := hDl D hm; omega, h1⟩, ?_, fun D' hD' => ?_⟩
    · simp [markOf, h2]
    · rcases List.mem_cons.1 hD' with rfl | hD'
      · refine ⟨hs.size, ?_, fun h => h.2.1 rfl⟩
        rw [World.putObj_heap_other (by simp [l, D]), hst.kept D (by omega) (fun h => (hown1 D h).elim (fun e => by simp [l, D] at e) (fun e => by have := hoH D e; omega))]
        exact hD1
      · refine ⟨(h3 D' hD').1, ?_, fun h => (h3 D' hD').2.2 h.1⟩
        rw [hkept D' (hDl D' hD') fun ho => (h3 D' hD').2.2 (hs.heap.vis D' ho)]
        exact (h3 D' hD').2.1
  · simp at hb
    exact ⟨hs.new b (by omega), by omega, by omega⟩
end Go.Abs
