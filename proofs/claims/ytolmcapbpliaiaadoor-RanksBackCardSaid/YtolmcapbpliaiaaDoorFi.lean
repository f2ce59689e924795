/- Parse, its deferred call with it. Conditions: each theorem names its own. -/
import Derived.Test.YtolmcapbpliaiaaDoorProg
import Derived.Test.YtolmcapbpliaiaaDoorFh
import Derived.Recover
import Derived.Laws.Pointers
namespace Go.Proofs.YtolmcapbpliaiaaDoor
open Go.Abs
set_option linter.unusedVariables false
set_option linter.unusedSimpArgs false

set_option linter.unusedVariables false

theorem ta_hit (e : Int) (w : World) : (Instr.typeAssert (.iface 55 (.int .i64 e)) 20 55 true).run Tryd.prog w = .ok (.tuple #[.int .i64 e, .bool true]) w := by
  simp [Instr.typeAssert, run_underlying Tryd.underlying55]
theorem ta_nil (w : World) : (Instr.typeAssert .nilIface 20 55 true).run Tryd.prog w = .ok (.tuple #[.int .i64 0, .bool false]) w := by
  simp [Instr.typeAssert, run_underlying Tryd.underlying55, Tryd.zeroValue55]
noncomputable def p1t : Code := match Tryd.f24.body with | some (.seq _ t) => t | _ => .skip
def p1T (p2 p3 : Value) (e : Int) (b : Bool) : Array Value := #[p2, p3, .int .i64 e, .bool b, .tuple #[.int .i64 e, .bool b], if b then .iface 55 (.int .i64 e) else .nilIface, .tuple #[.int .i64 e, .bool b], .int .i64 e, .bool b, undef, undef, undef]
set_option maxRecDepth 100000 in
set_option maxHeartbeats 1000000 in
theorem p1_die (p2 p3 : Value) (e : Int) (w : World) (R : World → Prop) (h : p1t.wp Tryd.prog (fun ex a' w' => ex = .normal ∧ a'.defers = [] ∧ R w') { tmps := p1T p2 p3 e true, defers := [] } w) :
    CallsD Tryd.prog 24 #[p2, p3] (.panicking [entryOf (faultV e)]) w fun ex u' w' => ex = .returned (.tuple #[]) ∧ u' = .panicking [{ v := faultV e, recovered := true }] ∧ R w' := by
  refine callsD_of_wpS Tryd.func24 rfl fun c₀ cs hu => ?_
  simp only [Tryd.ntmps24, List.size_toArray, List.length_cons, List.length_nil, Nat.reduceAdd, Nat.reduceSub, Array.replicate_succ,
     Array.replicate_zero, List.push_toArray, List.append_toArray, List.nil_append, List.cons_append]
  apply wpS_seq
  apply wpS_region
  have hta := ta_hit e
  simp [wpOpsS, go_sem, recoverD, hu, Exit.thenS, entryOf, faultV, hta]
  refine wpS_of_wp (wp_mono (show p1t.wp Tryd.prog _ _ _ from h) ?_)
  rintro ex a' w' ⟨rfl, hd, hR⟩
  refine ⟨hd, .panicking [{ v := faultV e, recovered := true }], rfl, .tuple #[], ?_, rfl, rfl, hR⟩
  simp [results, Tryd.results24]
set_option maxRecDepth 100000 in
set_option maxHeartbeats 1000000 in
theorem p1_idle (p2 p3 : Value) (w : World) (R : World → Prop) (h : p1t.wp Tryd.prog (fun ex a' w' => ex = .normal ∧ a'.defers = [] ∧ R w') { tmps := p1T p2 p3 0 false, defers := [] } w) :
    CallsD Tryd.prog 24 #[p2, p3] .returning w fun ex u' w' => ex = .returned (.tuple #[]) ∧ u' = .returning ∧ R w' := by
  refine callsD_of_wpS Tryd.func24 rfl fun c₀ cs hu => ?_
  simp only [Tryd.ntmps24, List.size_toArray, List.length_cons, List.length_nil, Nat.reduceAdd, Nat.reduceSub, Array.replicate_succ,
     Array.replicate_zero, List.push_toArray, List.append_toArray, List.nil_append, List.cons_append]
  apply wpS_seq
  apply wpS_region
  have hta := ta_nil
  simp [wpOpsS, go_sem, recoverD, hu, Exit.thenS, entryOf, faultV, hta]
  refine wpS_of_wp (wp_mono (show p1t.wp Tryd.prog _ _ _ from h) ?_)
  rintro ex a' w' ⟨rfl, hd, hR⟩
  refine ⟨hd, .returning, by rw [← hu], .tuple #[], ?_, rfl, rfl, hR⟩
  simp [results, Tryd.results24]

/-! ### The closure's rest, on plain values -/
def P1E (p2 p3 : Value) (e : Int) (b : Bool) : Env := [(0, .ref 2 0), (1, .ref 3 0), (2, .int e), (3, .bool b), (1000002, .pin 2 p2), (1000003, .pin 3 p3)]
def P1Q (cs2 cs3 : List SV) (p2 p3 : Value) : Exit → St → Prop := fun ex st => ex = .normal ∧ Ent st ⟨[(1000002, .pin 2 p2), (1000003, .pin 3 p3)], [(2, .box cs2), (3, .box cs3)]⟩
set_option maxRecDepth 100000 in
theorem p1t_die {B : BT} (p2 p3 : Value) (e : Int) (s1 s2 s3 : SV) : awp (ro := none) (B := B) Tryd.prog 12 p1t (P1Q [.pv .nil, .pv .nil] [.pv (.i e)] p2 p3) ⟨P1E p2 p3 e true, [(2, .box [s1, s2]), (3, .box [s3])]⟩ := by
  refine awp_seq ?_
  refine awp_region rfl (.n (fun _ => op_move (.plain rfl)) (.nil _)) ?_
  refine awp_cond rfl (fun h => ?_) (fun h => by cases h)
  refine awp_region rfl (.n (fun _ => op_build (pp := []) (places := #[(0, 1), (1, 1)]) Tryd.underlying24 Tryd.zeroValue24 rfl (by intro w; kernel_rfl) trivial rfl) (.n (fun _ => op_move (.plain rfl))
    (.e (op_storeRA Tryd.sizeOf24 (.plain rfl) (.plain rfl) rfl rfl (Nat.le_of_ble_eq_true rfl) rfl) rfl (.e (op_storeR Tryd.sizeOf29 (.plain rfl) (.plain rfl) rfl (Nat.le_of_ble_eq_true rfl) rfl (by simp) (by simp)) rfl (.nil _))))) ?_
  exact ⟨rfl, Ent.kept ⟨rfl, rfl, trivial⟩ ⟨rfl, rfl, trivial⟩⟩
set_option maxRecDepth 100000 in
theorem p1t_idle {B : BT} (p2 p3 : Value) (e : Int) (cs2 cs3 : List SV) : awp (ro := none) (B := B) Tryd.prog 12 p1t (P1Q cs2 cs3 p2 p3) ⟨P1E p2 p3 e false, [(2, .box cs2), (3, .box cs3)]⟩ := by
  refine awp_seq ?_
  refine awp_region rfl (.n (fun _ => op_move (.plain rfl)) (.nil _)) ?_
  refine awp_cond rfl (fun h => by cases h) (fun h => ?_)
  refine awp_skip ?_
  exact ⟨rfl, Ent.kept ⟨rfl, rfl, trivial⟩ ⟨rfl, rfl, trivial⟩⟩

/-! ### What stands ahead of the defer -/
set_option maxRecDepth 100000 in
theorem p13x_awp {B : BT} (text : ByteArray) : awp (ro := none) (B := B) Tryd.prog 70 p13x (fun ex st => ex = .normal ∧ Ent st ⟨[(0, .pv (.str text)), (2, .ref 2 0), (3, .ref 3 0)], [(2, .box [.pv .nil, .pv .nil]), (3, .box [.pv (.i 0)])]⟩) ⟨[(0, .pv (.str text))], []⟩ := by
  show awp _ _ (.region 0 _ false) _ _
  refine awp_region rfl (.e (op_alloc 2 Tryd.zeroValue24 rfl rfl rfl) rfl (.e (op_alloc 3 Tryd.zeroValue29 rfl rfl rfl) rfl (.nil _))) ?_
  exact ⟨rfl, Ent.kept ⟨rfl, rfl, rfl, trivial⟩ ⟨rfl, rfl, trivial⟩⟩
set_option maxRecDepth 100000 in
theorem p13y_awp {B : BT} (text : ByteArray) (hsz : text.size ≤ 20000) : awp (ro := none) (B := B) Tryd.prog 70 p13y (fun ex st => ex = .normal ∧ Ent st ⟨[(0, .pv (.str text)), (2, .ref 2 0), (3, .ref 3 0)], [(2, .box [.pv .nil, .pv .nil]), (3, .box [.pv (.i 0)])]⟩)
    ⟨[(0, .pv (.str text)), (2, .ref 2 0), (3, .ref 3 0)], [(2, .box [.pv .nil, .pv .nil]), (3, .box [.pv (.i 0)])]⟩ := by
  refine awp_seq ?_
  refine awp_region rfl (.n (fun _ => op_move (.plain rfl)) (.n (fun _ => op_lenS Tryd.underlying9 (.plain rfl)) (.n (fun _ => op_gtr (.plain rfl) (.plain rfl)) (.nil _)))) ?_
  refine awp_cond rfl (fun h => absurd (of_decide_eq_true h) (by omega)) (fun h => ?_)
  refine awp_skip ?_
  exact ⟨rfl, Ent.kept ⟨rfl, rfl, rfl, trivial⟩ ⟨rfl, rfl, trivial⟩⟩

/-! ### The whole -/
theorem firstE_in {f : Nat → Int} (h : ∀ i, 0 ≤ f i ∧ f i ≤ 9) : ∀ n, 0 ≤ firstE f n ∧ firstE f n ≤ 9
  | 0 => by simp [firstE]
  | n + 1 => by
    have h1 := firstE_in h n
    have h2 := h n
    unfold firstE
    split <;> omega
theorem roomE_in (s : ByteArray) : 0 ≤ roomE s ∧ roomE s ≤ 9 := by
  unfold roomE
  split
  · omega
  · split <;> omega
theorem tailE_in (r : List ByteArray) : 0 ≤ tailE r ∧ tailE r ≤ 9 := by
  have := firstE_in (f := badN (r.drop 1)) (fun i => by unfold badN; split <;> omega) (r.drop 1).length
  unfold tailE
  split
  · omega
  · split
    · omega
    · exact this
theorem rdE_in (ws : List ByteArray) (all : List Ln) : 0 ≤ rdE ws all ∧ rdE ws all ≤ 9 := by
  have h1 := roomE_in ((ws.drop 2).getD 0 ByteArray.empty)
  have h2 := tailE_in ((ws.drop 2).drop 1)
  have h3 := tailE_in (ws.drop 2)
  unfold rdE
  repeat' split
  all_goals omega
theorem parseE_in (text : ByteArray) : 0 ≤ parseE text ∧ parseE text ≤ 9 := by
  have h1 := firstE_in (f := errP (cutL text)) (fun i => by
    unfold errP
    split
    · omega
    · exact rdE_in _ _) (cutL text).length
  have h2 := firstE_in (f := lkP (allP text)) (fun i => by
    unfold lkP
    exact firstE_in (fun j => by
      unfold likE
      split
      · omega
      · split <;> omega) _) (allP text).length
  unfold parseE
  split
  · exact h1
  · exact h2

theorem Sim.reframe {l : List Deferred} {gs : List Nat} {w0 : World} {O V : Nat → Prop} {n n2 : Nat} {ι : Nat → Value} {env env2 : Nat → Option SV} {H H2 : Heap} {a a2 : Act} {w : World} (hs : Sim (some (l, gs)) w0 O V n ι env H a w)
    (hd : a2.defers = []) (hn : a2.tmps.size = n2) (hH : ∀ id blk, List.lookup id H2 = some blk → List.lookup id H = some blk) (he : ∀ t s, env2 t = some s → RepS ι w (Free V ι H2 w) (a2.tmps.getD t undef) s) : Sim (some ([], gs)) w0 O V n2 ι env2 H2 a2 w := by
  have h1 := hs.sub hH
  exact ⟨h1.os, h1.tape, h1.output, h1.size, h1.kept, h1.mine, h1.heap, he, hn, ⟨hd, hs.marks.2⟩, h1.new⟩

theorem pin_eq {B : BT} {w0 : World} {O V : Nat → Prop} {n : Nat} {ι : Nat → Value} {env : Nat → Option SV} {H : Heap} {a : Act} {w : World} (hs : Sim B w0 O V n ι env H a w) {t id : Nat} {v : Value} (h : env t = some (.pin id v)) : ι id = v := by
  have := hs.env t _ h
  generalize a.tmps.getD t undef = u at this
  cases this; assumption

theorem cell_one {P : Program} {t : TypeId} {w : World} {b : Nat} {x : Value} (ha : ∀ w, (isAgg t).run P w = .ok false w) (hc : w.cell? ⟨b, 0, none⟩ = some x) : (loadVar t ⟨b, 0, none⟩).run P w = .ok x w := by
  simp [loadVar, ha, hc]

abbrev agL (l : List Ag) : PV := .seq (ByteArray × Int × List Int × Unit) (ByteArray.empty, 0, [], ()) (fun p => [.str p.1, .i p.2.1, .ints p.2.2.1]) l
def parseV (r : Int) (L R : List Ag) : PV := .tup [.agg [agL L, agL R], .i r]
/-- What is read of the two result variables. -/
theorem parse_res {B : BT} {w0 : World} {O V : Nat → Prop} {n : Nat} {ι : Nat → Value} {env : Nat → Option SV} {a : Act} {w : World} {p2 p3 : Value} {r : Int} {L R : List Ag} {tmps : Array Value}
    (hs : Sim B w0 O V n ι env [(2, .box [.pv (agL L), .pv (agL R)]), (3, .box [.pv (.i r)])] a w) (h2 : ι 2 = p2) (h3 : ι 3 = p3) (ht2 : tmps.getD 2 undef = p2) (ht3 : tmps.getD 3 undef = p3) :
    ∃ rv, (results Tryd.f13 tmps).run Tryd.prog w = .ok rv w ∧ Rep w (fun b => b < w.heap.size ∧ V b) rv (parseV r L R) := by
  obtain ⟨b2, xs, e2, hv2, hh2, hl2, hr2⟩ := hs.heap.ok 2 _ rfl
  obtain ⟨b3, ys, e3, hv3, hh3, hl3, hr3⟩ := hs.heap.ok 3 _ rfl
  have hx := plainAll_spec (ps := [agL L, agL R]) rfl hl2 hr2
  have hy := plainAll_spec (ps := [.i r]) rfl hl3 hr3
  have hx' := hx.mono (w' := w) (F' := fun b => b < w.heap.size ∧ V b) (fun _ _ => rfl) fun b hb => ⟨hb.1, hb.2.1⟩
  have hy' := hy.mono (w' := w) (F' := fun b => b < w.heap.size ∧ V b) (fun _ _ => rfl) fun b hb => ⟨hb.1, hb.2.1⟩
  obtain ⟨y, ys', rfl, hy1, hy2⟩ := hy'.cons_inv
  obtain rfl := hy2.nil_inv
  have hc2 : ∀ (k : Nat) (h1 : k < xs.length), w.cell? ⟨b2, 0 + k, none⟩ = some xs[k] := fun k h1 => by
    rw [Nat.zero_add, cell_of_row w b2 k xs.toArray e2 (0, 0) hh2]; simp [h1]
  have hc3 : w.cell? ⟨b3, 0, none⟩ = some y := by rw [cell_of_row w b3 0 #[y] e3 (0, 0) hh3]; rfl
  have hlen : xs.length = 2 := hl2
  have hload := run_loadVar_agg (P := Tryd.prog) (t := 24) (w := w) (b := b2) (xs := xs) Tryd.isAgg24 (by rw [hlen]; exact Tryd.sizeOf24) 0 hc2
  have hload3 := cell_one (P := Tryd.prog) (t := 29) Tryd.isAgg29 hc3
  have hq2 : tmps.getD 2 undef = .pointer (some ⟨b2, 0, none⟩) := ht2.trans (h2.symm.trans hv2)
  have hq3 : tmps.getD 3 undef = .pointer (some ⟨b3, 0, none⟩) := ht3.trans (h3.symm.trans hv3)
  have hm : (Tryd.f13.results.toList.mapM (resOne tmps)).run Tryd.prog w = .ok [.agg xs.toArray, y] w := by
    have e : Tryd.f13.results.toList = [.cell 2 24, .cell 3 29] := rfl
    rw [e]
    simp only [List.mapM_cons, List.mapM_nil, resOne, hq2, hq3]
    simp [asAddr, hload, hload3]
  refine ⟨_, results_run hm, ?_⟩
  exact Rep.packed (ps := [.agg [agL L, agL R], .i r]) (RepL.cons (.agg xs _ hx'.1 hx'.2) (RepL.cons hy1 .nil))

noncomputable def p13d : Code := match Tryd.f13.body with | some (.seq _ (.seq _ (.seq d _))) => d | _ => .skip
theorem p13_body : Tryd.f13.body = some (.seq p13x (.seq p13y (.seq p13d p13z))) := rfl

set_option maxRecDepth 100000 in
set_option maxHeartbeats 2000000 in
theorem parse_fx (gs : List Nat) (text : ByteArray) (hsz : text.size ≤ 20000) (hg : 5 ∈ gs ∨ ∀ l, l ∈ cutL text → ∀ x, x ∈ wordsL l → x.size ≤ 18) :
    FXH Tryd.prog gs 13 [.pv (.str text)] [] (.ret (parseV (parseE text) (if parseE text = 0 then parseL text else []) (if parseE text = 0 then parseR text else []))) := by
  intro V ι w vs hG hV hk hlen ha
  have hlen : vs.length = 1 := hlen
  obtain ⟨v, rfl⟩ : ∃ v, vs = [v] := by
    match vs, hlen with
    | [v], _ => exact ⟨v, rfl⟩
  have hv := (ha 0 (by simp) (by simp)).pv_inv
  have hno : ∀ (ι' : Nat → Value) (b : Nat), ¬ Owned ι' [] b := fun ι' b ⟨id, blk, hl, _⟩ => by simp at hl
  have hsim : Sim (some ([], gs)) w (fun _ => False) V 70 ι (lk [(0, .pv (.str text))]) [] { tmps := #[v] ++ Array.replicate 69 undef, defers := [] } w := by
    refine ⟨rfl, rfl, rfl, Nat.le_refl _, fun _ _ _ => rfl, fun b hb => absurd hb (hno _ b), hk, fun t s ht => ?_, by simp, ⟨rfl, hG⟩, hV⟩
    simp only [lk, List.lookup_cons, List.lookup_nil] at ht
    by_cases e : t = 0
    · subst e
      simp at ht
      subst ht
      have e0 : (#[v] ++ Array.replicate 69 undef).getD 0 undef = v := by simp [Array.getD_eq_getD_getElem?, Array.getElem?_append]
      show RepS ι w _ ((#[v] ++ Array.replicate 69 undef).getD 0 undef) _
      rw [e0]
      exact .pv _ _ hv
    · rw [beq_eq_false_iff_ne.2 e] at ht
      simp at ht
  have hpe := parseE_in text
  -- what the end asks
  let Fin : Ending → World → Prop := fun ex w' => ∃ (ι' : Nat → Value) (rv : Value), ex = .returned rv ∧ RepS ι' w' (Free V ι' [] w') rv (outS (.ret (parseV (parseE text) (if parseE text = 0 then parseL text else []) (if parseE text = 0 then parseR text else [])))) ∧ HeapOk V ι' [] w' ∧ w'.os = w.os ∧ w'.tape = w.tape ∧ w'.output = w.output ∧
      w.heap.size ≤ w'.heap.size ∧ (∀ b, b < w.heap.size → ¬ Owned ι [] b → w'.heap[b]? = w.heap[b]?) ∧ (∀ b, Owned ι' [] b → w.heap.size ≤ b ∨ Owned ι [] b) ∧ ∀ id, none ≠ some id → id ∈ ([] : Heap).map (·.1) → ι' id = ι id
  have fin : ∀ {B : BT} {V' : Nat → Prop} {n : Nat} {ι' : Nat → Value} {env : Nat → Option SV} {H : Heap} {a : Act} {w' : World} {rv : Value}, (∀ b, V' b → V b) → Sim B w (fun _ => False) V' n ι' env H a w' →
      Rep w' (fun b => b < w'.heap.size ∧ V' b) rv (parseV (parseE text) (if parseE text = 0 then parseL text else []) (if parseE text = 0 then parseR text else [])) → Fin (.returned rv) w' := by
    intro B V' n ι' env H a w' rv hvv hs hrv
    have hs' := hs.sub (H' := []) fun id blk hl => by simp at hl
    exact ⟨ι', rv, rfl, .pv _ _ (hrv.mono (fun _ _ => rfl) fun b hb => ⟨hb.1, hvv b hb.2, hno _ b⟩), hs'.heap.vmono hvv, hs'.os, hs'.tape, hs'.output, hs'.size, fun b hb _ => hs'.kept b hb (by simp), fun b hb => absurd hb (hno _ b), fun id _ hm => by simp at hm⟩
  show Calls Tryd.prog 13 #[v] w Fin
  refine calls_of_wp_defers Tryd.func13 p13_body (wpIn_wide (n := 0) |>.1 ?_)
  show (Code.seq p13x (.seq p13y (.seq p13d p13z))).wpIn (Fo none) 0 Tryd.prog _ { tmps := #[v] ++ Array.replicate 69 undef, defers := [] } w
  refine wpIn_seq (wpIn_mono (p13x_awp text w _ V ι _ w hsim) ?_)
  rintro e1 a1 w1 ⟨V1, ι1', st1, hv1, ⟨rfl, hent1⟩, hs1'⟩
  obtain ⟨ι1, hs1⟩ := hent1 _ _ _ _ _ _ _ _ hs1'
  refine wpIn_seq (wpIn_mono (p13y_awp text hsz w _ V1 ι1 _ w1 hs1) ?_)
  rintro e2 a2 w2 ⟨V2, ι2', st2, hv2, ⟨rfl, hent2⟩, hs2'⟩
  obtain ⟨ι2, hs2⟩ := hent2 _ _ _ _ _ _ _ _ hs2'
  have hVV2 : ∀ b, V2 b → V b := fun b hb => hv1 b (hv2 b hb)
  obtain ⟨b2, hb2, ht2⟩ := (hs2.env 2 (.ref 2 0) rfl).ref_inv
  obtain ⟨b3, hb3, ht3⟩ := (hs2.env 3 (.ref 3 0) rfl).ref_inv
  obtain ⟨p2, hp2⟩ : ∃ p2, ι2 2 = p2 := ⟨_, rfl⟩
  obtain ⟨p3, hp3⟩ : ∃ p3, ι2 3 = p3 := ⟨_, rfl⟩
  have ht2' : a2.tmps.getD 2 undef = p2 := by rw [ht2, ← hp2, hb2]
  have ht3' : a2.tmps.getD 3 undef = p3 := by rw [ht3, ← hp3, hb3]
  -- the defer
  refine wpIn_seq ?_
  refine wpIn_region_list ?_
  have ho : ∀ t : Nat, a2.eval (.tmp t) = a2.tmps.getD t undef := fun _ => rfl
  have hmk : ∀ (fn : Fn) (first cap : Array Value) (w : World), (Instr.makeFunc fn first cap).run Tryd.prog w = .ok (.func fn first cap) w := fun _ _ _ _ => rfl
  have hsz2 := hs2.tmps
  unfold wpListIn
  rw [if_pos (by simp [Region.wanted])]
  refine ⟨fun _ _ => trivial, ?_⟩
  have hr1 : ∀ (dst : Option Nat) (ty : TypeId) (pos : String) (after : Array Edge), (execOp a2.eval (⟨dst, .makeFunc (.func 24) #[] #[.tmp 2, .tmp 3], ty, pos, after, none⟩ : Oper)).run Tryd.prog w2 = .ok (.value (.func (.func 24) #[] #[p2, p3])) w2 := fun dst ty pos after => by
    simp [execOp, hmk, ho, ht2', ht3']
  rw [show (Fo none).round = none from rfl, Oper.semAt_none, hr1]
  show wpListIn _ _ _ _ _ _ _ _
  unfold wpListIn
  rw [if_pos (by simp [Region.wanted])]
  refine ⟨fun _ _ => trivial, ?_⟩
  have hg14 : (a2.put (some 14) (.func (.func 24) #[] #[p2, p3])).tmps.getD 14 undef = .func (.func 24) #[] #[p2, p3] := by
    rw [Act.getD_put _ _ _ _ (by rw [hsz2]; decide), if_pos rfl]
  have hr2 : ∀ (dst : Option Nat) (ty : TypeId) (pos : String) (after : Array Edge), (execOp (a2.put (some 14) (.func (.func 24) #[] #[p2, p3])).eval (⟨dst, .defer ⟨.value (.tmp 14), #[], #[]⟩, ty, pos, after, none⟩ : Oper)).run Tryd.prog w2 = .ok (.defer (dOf p2 p3)) w2 := fun dst ty pos after => by
    have : (a2.put (some 14) (.func (.func 24) #[] #[p2, p3])).eval (.tmp 14) = .func (.func 24) #[] #[p2, p3] := hg14
    simp [execOp, resolve, this, Deferred.ofValue, dOf]
  rw [show (Fo none).round = none from rfl, Oper.semAt_none, hr2]
  show wpListIn _ _ _ _ _ _ _ _
  unfold wpListIn
  show p13z.wpIn (Fo none) 0 Tryd.prog _ _ w2
  have hd2 : a2.defers = [] := hs2.marks.1
  obtain ⟨a3, ha3, hd3, hz3, hg3⟩ : ∃ a3 : Act, a3 = ({ (a2.put (some 14) (.func (.func 24) #[] #[p2, p3])) with defers := dOf p2 p3 :: (a2.put (some 14) (.func (.func 24) #[] #[p2, p3])).defers } : Act).put none undef ∧ a3.defers = [dOf p2 p3] ∧ a3.tmps.size = 70 ∧ ∀ t, t ≠ 14 → a3.tmps.getD t undef = a2.tmps.getD t undef := by
    refine ⟨_, rfl, ?_, ?_, fun t ht => ?_⟩
    · show dOf p2 p3 :: a2.defers = _
      rw [hd2]
    · show (a2.put (some 14) (.func (.func 24) #[] #[p2, p3])).tmps.size = 70
      simp [Act.put, hsz2]
    · show (a2.put (some 14) (.func (.func 24) #[] #[p2, p3])).tmps.getD t undef = _
      rw [Act.getD_put _ _ _ _ (by rw [hsz2]; decide), if_neg ht]
  rw [← ha3]
  have hs3 : Sim (some ([dOf p2 p3], gs)) w (fun _ => False) V2 70 ι2 (lk [(0, .pv (.str text)), (2, .ref 2 0), (3, .ref 3 0), (1000002, .pin 2 p2), (1000003, .pin 3 p3)]) [(2, .box [.pv .nil, .pv .nil]), (3, .box [.pv (.i 0)])] a3 w2 := by
    refine ⟨hs2.os, hs2.tape, hs2.output, hs2.size, hs2.kept, hs2.mine, hs2.heap, fun t s ht => ?_, hz3, ⟨hd3, hs2.marks.2⟩, hs2.new⟩
    have hm := mem_of_lookup ht
    simp only [List.mem_cons, Prod.mk.injEq, List.not_mem_nil, or_false] at hm
    rcases hm with ⟨rfl, rfl⟩ | ⟨rfl, rfl⟩ | ⟨rfl, rfl⟩ | ⟨rfl, rfl⟩ | ⟨rfl, rfl⟩
    · rw [hg3 0 (by decide)]; exact hs2.env 0 _ rfl
    · rw [hg3 2 (by decide)]; exact hs2.env 2 _ rfl
    · rw [hg3 3 (by decide)]; exact hs2.env 3 _ rfl
    · exact .pin _ 2 _ hp2
    · exact .pin _ 3 _ hp3
  refine wpIn_mono (parse_z gs text p2 p3 hsz hg w _ V2 ι2 a3 w2 hs3) ?_
  rintro e4 a4 w4 ⟨V4, ι4', st4, hv4, hq, hs4'⟩
  have hVV4 : ∀ b, V4 b → V b := fun b hb => hVV2 b (hv4 b hb)
  have hd4 : a4.defers = [dOf p2 p3] := hs4'.marks.1
  have hinv : ∀ w', (invoke (dOf p2 p3).target (dOf p2 p3).args).run Tryd.prog w' = .ok (.enter 24 #[p2, p3]) w' := fun w' => by
    simp [dOf, invoke, Tryd.call24]
  -- the closure's frame
  have hP1 : ∀ {ι4 : Nat → Value} {cs2 cs3 : List SV} (e : Int) (b : Bool), InR e → Sim (some ([dOf p2 p3], gs)) w (fun _ => False) V4 70 ι4 (lk (E23 p2 p3)) [(2, .box cs2), (3, .box cs3)] a4 w4 →
      ι4 2 = p2 ∧ ι4 3 = p3 ∧ a4.tmps.getD 2 undef = p2 ∧ a4.tmps.getD 3 undef = p3 ∧ Sim (some ([], gs)) w (fun _ => False) V4 12 ι4 (lk (P1E p2 p3 e b)) [(2, .box cs2), (3, .box cs3)] { tmps := p1T p2 p3 e b, defers := [] } w4 := by
    intro ι4 cs2 cs3 e b he hs
    have k2 := pin_eq hs (t := 1000002) (id := 2) (v := p2) rfl
    have k3 := pin_eq hs (t := 1000003) (id := 3) (v := p3) rfl
    obtain ⟨c2, hc2, hu2⟩ := (hs.env 2 (.ref 2 0) rfl).ref_inv
    obtain ⟨c3, hc3, hu3⟩ := (hs.env 3 (.ref 3 0) rfl).ref_inv
    refine ⟨k2, k3, by rw [hu2, ← k2, hc2], by rw [hu3, ← k3, hc3], ?_⟩
    refine Sim.reframe hs rfl rfl (fun id blk h => h) fun t s ht => ?_
    have hm := mem_of_lookup ht
    simp only [P1E, List.mem_cons, Prod.mk.injEq, List.not_mem_nil, or_false] at hm
    rcases hm with ⟨rfl, rfl⟩ | ⟨rfl, rfl⟩ | ⟨rfl, rfl⟩ | ⟨rfl, rfl⟩ | ⟨rfl, rfl⟩ | ⟨rfl, rfl⟩
    · show RepS _ _ _ p2 _
      rw [← k2, hc2]; exact .ref 2 0 c2 hc2
    · show RepS _ _ _ p3 _
      rw [← k3, hc3]; exact .ref 3 0 c3 hc3
    · exact .pv _ _ (.int _ _ (inK_i64.2 he))
    · exact .pv _ _ (.bool b)
    · exact .pin _ 2 _ k2
    · exact .pin _ 3 _ k3
  have hzero : InR 0 := by unfold InR; omega
  cases e4 with
  | ret =>
    obtain ⟨hr, hent⟩ := hq
    obtain ⟨ι4, hs4⟩ := hent _ _ _ _ _ _ _ _ hs4'
    obtain ⟨k2, k3, t2, t3, hsP⟩ := hP1 0 false hzero hs4
    show Leaves Tryd.prog Tryd.f13 a4.tmps Fin a4.defers .returning w4
    rw [hd4]
    refine leaves_cons (f := 24) (args := #[p2, p3]) (by simp) (hinv w4) ?_
    refine (p1_idle p2 p3 w4 (fun w' => ∃ rv, (results Tryd.f13 a4.tmps).run Tryd.prog w' = .ok rv w' ∧ Fin (.returned rv) w') ?_).mono ?_
    · refine (wpIn_wide (n := 0)).1 (wpIn_mono (p1t_idle (B := some ([], gs)) p2 p3 0 [.pv (agL (parseL text)), .pv (agL (parseR text))] [.pv (.i 0)] w _ V4 ι4 _ w4 hsP) ?_)
      rintro e5 a5 w5 ⟨V5, ι5', st5, hv5, ⟨rfl, hent5⟩, hs5'⟩
      obtain ⟨ι5, hs5⟩ := hent5 _ _ _ _ _ _ _ _ hs5'
      refine ⟨rfl, hs5.marks.1, ?_⟩
      obtain ⟨rv, h1, h2⟩ := parse_res (r := 0) (L := parseL text) (R := parseR text) hs5 (pin_eq hs5 (t := 1000002) rfl) (pin_eq hs5 (t := 1000003) rfl) t2 t3
      refine ⟨rv, h1, fin (fun b hb => hVV4 b (hv5 b hb)) hs5 ?_⟩
      rw [if_pos hr, if_pos hr, hr]; exact h2
    · rintro ex u' w' ⟨rfl, rfl, rv, h1, h2⟩
      exact ⟨rv, h1, h2⟩
  | panic chain =>
    obtain ⟨hr, rfl, s1, s2, s3, hent⟩ := hq
    obtain ⟨ι4, hs4⟩ := hent _ _ _ _ _ _ _ _ hs4'
    obtain ⟨k2, k3, t2, t3, hsP⟩ := hP1 (parseE text) true (by unfold InR; omega) hs4
    show Leaves Tryd.prog Tryd.f13 a4.tmps Fin a4.defers (.panicking [entryOf (faultV (parseE text))]) w4
    rw [hd4]
    refine leaves_cons (f := 24) (args := #[p2, p3]) (by simp) (hinv w4) ?_
    refine (p1_die p2 p3 (parseE text) w4 (fun w' => ∃ rv, (results Tryd.f13 a4.tmps).run Tryd.prog w' = .ok rv w' ∧ Fin (.returned rv) w') ?_).mono ?_
    · refine (wpIn_wide (n := 0)).1 (wpIn_mono (p1t_die (B := some ([], gs)) p2 p3 (parseE text) s1 s2 s3 w _ V4 ι4 _ w4 hsP) ?_)
      rintro e5 a5 w5 ⟨V5, ι5', st5, hv5, ⟨rfl, hent5⟩, hs5'⟩
      obtain ⟨ι5, hs5⟩ := (hent5.trans ((Ent.unnilB 2 0 (ByteArray × Int × List Int × Unit) (ByteArray.empty, 0, [], ()) (fun p => [.str p.1, .i p.2.1, .ints p.2.2.1]) rfl rfl).trans ((Ent.unnilB 2 1 (ByteArray × Int × List Int × Unit) (ByteArray.empty, 0, [], ()) (fun p => [.str p.1, .i p.2.1, .ints p.2.2.1]) rfl rfl).trans
        (Ent.kept (st' := ⟨[(1000002, .pin 2 p2), (1000003, .pin 3 p3)], [(2, .box [.pv (agL []), .pv (agL [])]), (3, .box [.pv (.i (parseE text))])]⟩) ⟨rfl, rfl, trivial⟩ ⟨rfl, rfl, trivial⟩)))) _ _ _ _ _ _ _ _ hs5'
      refine ⟨rfl, hs5.marks.1, ?_⟩
      obtain ⟨rv, h1, h2⟩ := parse_res (r := parseE text) (L := []) (R := []) hs5 (pin_eq hs5 (t := 1000002) rfl) (pin_eq hs5 (t := 1000003) rfl) t2 t3
      refine ⟨rv, h1, fin (fun b hb => hVV4 b (hv5 b hb)) hs5 ?_⟩
      rw [if_neg hr, if_neg hr]; exact h2
    · rintro ex u' w' ⟨rfl, rfl, rv, h1, h2⟩
      exact ⟨rv, h1, h2⟩
  | normal => exact hq.elim
  | exit id => exact hq.elim
  | goto l => exact hq.elim
  | outgrown => exact hq.elim

end Go.Proofs.YtolmcapbpliaiaaDoor

