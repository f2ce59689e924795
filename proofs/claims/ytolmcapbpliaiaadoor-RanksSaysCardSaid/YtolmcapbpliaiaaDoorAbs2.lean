/- Regions and code on plain values: a region in the text's order, a region whose order is drawn, and the rules of code and of calls. Conditions: each law names its own. -/
import Derived.Test.YtolmcapbpliaiaaDoorAbs1
namespace Go.Abs
set_option linter.unusedVariables false
variable {B : BT}

/-- The slots' values, by the slot's number. -/
abbrev lk (env : Env) : Nat → Option SV := fun t => List.lookup t env

inductive Cls where
  | N | R | E | A | G
  deriving DecidableEq

def Cls.eff (c : Cls) : Prop := c = .E ∨ c = .A

def Blk.men (id : Nat) : Blk → Bool
  | .box cs => SV.menL id cs
  | .tbox T cs => SV.menL id cs
  | .yld _ _ _ cs => SV.menL id cs
  | .arr .. | .mp _ | .mq _ => false

def heapMen (id : Nat) (H : Heap) : Bool := H.any fun p => p.2.men id
theorem heapMen_append (id : Nat) (H H' : Heap) : heapMen id (H ++ H') = (heapMen id H || heapMen id H') := by simp [heapMen]

structure Tr : Type 1 where
  cls : Cls
  v : SV
  H : Heap
  nw : Option Nat

def freshIn (nw : Option Nat) (env : Env) : Bool := match nw with | none => true | some id => env.all fun p => !p.2.men id

theorem lookup_upd (env : Env) (dst : Option Nat) (v : SV) (t : Nat) : (lk (upd env dst v)) t = if dst = some t then some v else (lk env) t := by
  cases dst with
  | none => simp [upd]
  | some d =>
    simp only [upd, lk, List.lookup_cons, Option.some.injEq]
    by_cases h : t = d
    · subst h; simp
    · have h' : ¬ d = t := fun e => h e.symm
      simp [h', beq_eq_false_iff_ne.2 h]

theorem mem_of_lookup {env : Env} {t : Nat} {s : SV} (h : (lk env) t = some s) : (t, s) ∈ env := by
  induction env with
  | nil => simp at h
  | cons p r ih =>
    obtain ⟨u, x⟩ := p
    simp only [lk, List.lookup_cons] at h
    by_cases e : t = u
    · subst e; simp at h; subst h; exact List.mem_cons_self
    · rw [show (t == u) = false from beq_eq_false_iff_ne.2 e] at h
      exact List.mem_cons_of_mem _ (ih h)

theorem freshIn_spec {nw : Option Nat} {env : Env} (h : freshIn nw env = true) : ∀ id, nw = some id → ∀ t s, (lk env) t = some s → s.men id = false := by
  intro id hid t s hs
  subst hid
  have := List.all_eq_true.1 h (t, s) (mem_of_lookup hs)
  simpa using this

/-- A region walked in the text's order: what each operation yields, and of what kind it is (N: it hangs on no owned block; R: it reads them; E: it turns them). -/
inductive Run (ro : Option Nat) (P : Program) (ops : Array Oper) : List Oper → St → List Tr → St → Prop
  | nil (st : St) : Run ro P ops [] st [] st
  | neu {o : Oper} {rest : List Oper} {env : Env} {H : Heap} {v : SV} {tr : List Tr} {st' : St}
      (h : ∀ H, StepOk (ro := ro) P ops o (lk env) H v H none) (r : Run ro P ops rest ⟨upd env o.dst v, H⟩ tr st') : Run ro P ops (o :: rest) ⟨env, H⟩ (⟨.N, v, H, none⟩ :: tr) st'
  | rd {o : Oper} {rest : List Oper} {env : Env} {H : Heap} {v : SV} {tr : List Tr} {st' : St}
      (h : StepOk (ro := ro) P ops o (lk env) H v H none) (r : Run ro P ops rest ⟨upd env o.dst v, H⟩ tr st') : Run ro P ops (o :: rest) ⟨env, H⟩ (⟨.R, v, H, none⟩ :: tr) st'
  | add {o : Oper} {rest : List Oper} {env : Env} {H : Heap} {v : SV} {id : Nat} {blk : Blk} {tr : List Tr} {st' : St}
      (h : ∀ H, heapMen id H = false → StepOk (ro := ro) P ops o (lk env) H v ((id, blk) :: H) (some id)) (hm : heapMen id H = false) (hb : ∀ j, blk.men j = false) (hf : freshIn (some id) env = true)
      (r : Run ro P ops rest ⟨upd env o.dst v, (id, blk) :: H⟩ tr st') : Run ro P ops (o :: rest) ⟨env, H⟩ (⟨.A, v, [(id, blk)], some id⟩ :: tr) st'
  | gd {o : Oper} {rest : List Oper} {env : Env} {H : Heap} {v : SV} {id : Nat} {blk : Blk} {tr : List Tr} {st' : St}
      (h : ∀ H, List.lookup id H = some blk → StepOk (ro := ro) P ops o (lk env) H v H none) (hl : List.lookup id H = some blk) (r : Run ro P ops rest ⟨upd env o.dst v, H⟩ tr st') : Run ro P ops (o :: rest) ⟨env, H⟩ (⟨.G, v, [(id, blk)], none⟩ :: tr) st'
  | eff {o : Oper} {rest : List Oper} {env : Env} {H H' : Heap} {v : SV} {nw : Option Nat} {tr : List Tr} {st' : St}
      (h : StepOk (ro := ro) P ops o (lk env) H v H' nw) (hf : freshIn nw env = true) (r : Run ro P ops rest ⟨upd env o.dst v, H'⟩ tr st') : Run ro P ops (o :: rest) ⟨env, H⟩ (⟨.E, v, H', nw⟩ :: tr) st'

section
variable {ro : Option Nat} {P : Program} {ops : Array Oper} {w0 : World} {O V : Nat → Prop} {n : Nat}

theorem Run.wp {l : List Oper} {st st' : St} {tr : List Tr} (h : Run (ro := ro) P ops l st tr st') {Q : Exit → Act → World → Prop} (hn : ∀ o, o ∈ l → ∀ d, o.dst = some d → d < n)
    (hQ : ∀ ι' a' w', Sim B w0 O V n ι' (lk st'.env) st'.H a' w' → Q .normal a' w') :
    ∀ ι a w, Sim B w0 O V n ι (lk st.env) st.H a w → wpListIn (Fo ro) 0 P ops Q l a w := by
  have go : ∀ {o : Oper} {rest : List Oper} {env : Env} {H H' : Heap} {v : SV} {nw : Option Nat}, StepOk (ro := ro) P ops o (lk env) H v H' nw → freshIn nw env = true → (∀ d, o.dst = some d → d < n) →
      (∀ ι a w, Sim B w0 O V n ι (lk (upd env o.dst v)) H' a w → wpListIn (Fo ro) 0 P ops Q rest a w) → ∀ ι a w, Sim B w0 O V n ι (lk env) H a w → wpListIn (Fo ro) 0 P ops Q (o :: rest) a w := by
    intro o rest env H H' v nw hst hf hd ih ι a w hs
    have := hst.wp hs hd (freshIn_spec hf) (wpListIn (Fo ro) 0 P ops Q rest) Q fun ι' a' w' hs' => ih ι' a' w' (by
      have e : (fun t => (lk (upd env o.dst v)) t) = fun t => if o.dst = some t then some v else (lk env) t := funext fun t => lookup_upd env o.dst v t
      show Sim B w0 O V n ι' (fun t => (lk (upd env o.dst v)) t) H' a' w'
      rw [e]; exact hs')
    unfold wpListIn
    split
    · rename_i hw; rw [if_pos hw] at this; exact this
    · rename_i hw; rw [if_neg hw] at this; exact ⟨fun _ _ => trivial, this⟩
  induction h with
  | nil st => intro ι a w hs; exact hQ ι a w hs
  | neu hst r ih => exact go (hst _) rfl (hn _ List.mem_cons_self) (ih (fun o ho => hn o (List.mem_cons_of_mem _ ho)) hQ)
  | rd hst r ih => exact go hst rfl (hn _ List.mem_cons_self) (ih (fun o ho => hn o (List.mem_cons_of_mem _ ho)) hQ)
  | gd hst hl r ih => exact go (hst _ hl) rfl (hn _ List.mem_cons_self) (ih (fun o ho => hn o (List.mem_cons_of_mem _ ho)) hQ)
  | eff hst hf r ih => exact go hst hf (hn _ List.mem_cons_self) (ih (fun o ho => hn o (List.mem_cons_of_mem _ ho)) hQ)
  | add hst hm hb hf r ih => exact go (hst _ hm) hf (hn _ List.mem_cons_self) (ih (fun o ho => hn o (List.mem_cons_of_mem _ ho)) hQ)
end

/-! ## A region whose order is drawn -/

section draw
variable (dst : Nat → Option Nat) (vs : Nat → SV) (cl : Nat → Cls) (hs : Nat → Heap) (env0 : Nat → Option SV) (H0 : Heap)

def envSel (sel : Nat → Bool) : Nat → Nat → Option SV
  | 0, t => env0 t
  | k + 1, t => if sel k = true ∧ dst k = some t then some (vs k) else envSel sel k t

def HSel (sel : Nat → Bool) : Nat → Heap
  | 0 => H0
  | k + 1 => if sel k = true ∧ cl k = .E then hs k else if sel k = true ∧ cl k = .A then hs k ++ HSel sel k else HSel sel k

variable {dst vs cl hs env0 H0}

theorem envSel_congr {s s' : Nat → Bool} {t : Nat} : ∀ m, (∀ k, k < m → dst k = some t → s k = s' k) → envSel dst vs env0 s m t = envSel dst vs env0 s' m t
  | 0, _ => rfl
  | m + 1, h => by
    simp only [envSel]
    rw [envSel_congr m fun k hk => h k (by omega)]
    by_cases hd : dst m = some t
    · rw [h m (by omega) hd]
    · simp [hd]

theorem envSel_cut {s : Nat → Bool} {t i : Nat} : ∀ m, i ≤ m → (∀ k, i ≤ k → k < m → dst k = some t → s k = false) → envSel dst vs env0 s m t = envSel dst vs env0 s i t
  | 0, hi, _ => by rw [show i = 0 by omega]
  | m + 1, hi, h => by
    by_cases e : i = m + 1
    · rw [e]
    · simp only [envSel]
      rw [envSel_cut m (by omega) fun k h1 h2 => h k h1 (by omega)]
      by_cases hd : dst m = some t
      · simp [h m (by omega) (by omega) hd]
      · simp [hd]

theorem HSel_congr {s s' : Nat → Bool} : ∀ m, (∀ k, k < m → (cl k).eff → s k = s' k) → HSel cl hs H0 s m = HSel cl hs H0 s' m
  | 0, _ => rfl
  | m + 1, h => by
    simp only [HSel]
    rw [HSel_congr m fun k hk => h k (by omega)]
    by_cases hd : cl m = .E
    · rw [h m (by omega) (.inl hd)]
    · by_cases hd2 : cl m = .A
      · rw [h m (by omega) (.inr hd2)]
      · simp [hd, hd2]

theorem HSel_cut {s : Nat → Bool} {i : Nat} : ∀ m, i ≤ m → (∀ k, i ≤ k → k < m → (cl k).eff → s k = false) → HSel cl hs H0 s m = HSel cl hs H0 s i
  | 0, hi, _ => by rw [show i = 0 by omega]
  | m + 1, hi, h => by
    by_cases e : i = m + 1
    · rw [e]
    · simp only [HSel]
      rw [HSel_cut m (by omega) fun k h1 h2 => h k h1 (by omega)]
      by_cases hd : cl m = .E
      · simp [h m (by omega) (by omega) (.inl hd)]
      · by_cases hd2 : cl m = .A
        · simp [h m (by omega) (by omega) (.inr hd2)]
        · simp [hd, hd2]

/-- Where a value of the slots comes from. -/
theorem envSel_from {s : Nat → Bool} {t : Nat} {x : SV} : ∀ m, envSel dst vs env0 s m t = some x → env0 t = some x ∨ ∃ k, k < m ∧ s k = true ∧ dst k = some t ∧ vs k = x
  | 0, h => .inl h
  | m + 1, h => by
    simp only [envSel] at h
    split at h
    · rename_i hc
      exact .inr ⟨m, by omega, hc.1, hc.2, by simpa using h⟩
    · rcases envSel_from m h with h1 | ⟨k, hk, r⟩
      · exact .inl h1
      · exact .inr ⟨k, by omega, r⟩
end draw

def dstAt (ops : Array Oper) (k : Nat) : Option Nat := (ops[k]?).bind (·.dst)
def trAt (tr : List Tr) (k : Nat) : Tr := tr.getD k ⟨.N, .pv .any, [], none⟩
def all (_ : Nat) : Bool := true

/-- What a walk in the text's order shows of each operation. -/
structure Facts {ro : Option Nat} (P : Program) (ops : Array Oper) (env0 : Nat → Option SV) (H0 : Heap) (tr : List Tr) : Prop where
  neu : ∀ i o, ops[i]? = some o → (trAt tr i).cls = .N → ∀ H, StepOk (ro := ro) P ops o (envSel (dstAt ops) (fun k => (trAt tr k).v) env0 all i) H (trAt tr i).v H none
  rd : ∀ i o, ops[i]? = some o → (trAt tr i).cls = .R →
    StepOk (ro := ro) P ops o (envSel (dstAt ops) (fun k => (trAt tr k).v) env0 all i) (HSel (fun k => (trAt tr k).cls) (fun k => (trAt tr k).H) H0 all i) (trAt tr i).v
      (HSel (fun k => (trAt tr k).cls) (fun k => (trAt tr k).H) H0 all i) none
  eff : ∀ i o, ops[i]? = some o → (trAt tr i).cls = .E →
    StepOk (ro := ro) P ops o (envSel (dstAt ops) (fun k => (trAt tr k).v) env0 all i) (HSel (fun k => (trAt tr k).cls) (fun k => (trAt tr k).H) H0 all i) (trAt tr i).v (trAt tr i).H (trAt tr i).nw
  add : ∀ i o, ops[i]? = some o → (trAt tr i).cls = .A → ∃ id blk, (trAt tr i).H = [(id, blk)] ∧ (trAt tr i).nw = some id ∧ (∀ j, blk.men j = false) ∧
    heapMen id (HSel (fun k => (trAt tr k).cls) (fun k => (trAt tr k).H) H0 all i) = false ∧
    ∀ H, heapMen id H = false → StepOk (ro := ro) P ops o (envSel (dstAt ops) (fun k => (trAt tr k).v) env0 all i) H (trAt tr i).v ((id, blk) :: H) (some id)
  gd : ∀ i o, ops[i]? = some o → (trAt tr i).cls = .G → ∃ id blk, (trAt tr i).H = [(id, blk)] ∧ ∀ H, List.lookup id H = some blk → StepOk (ro := ro) P ops o (envSel (dstAt ops) (fun k => (trAt tr k).v) env0 all i) H (trAt tr i).v H none
  fresh0 : ∀ i id, (trAt tr i).nw = some id → ∀ t s, env0 t = some s → s.men id = false
  fresh : ∀ i id, (trAt tr i).nw = some id → ∀ k, k < i → (dstAt ops k).isSome = true → ((trAt tr k).v).men id = false

theorem Run.facts {ro : Option Nat} {P : Program} {ops : Array Oper} {l : List Oper} {st st' : St} {tr : List Tr} (h : Run (ro := ro) P ops l st tr st') :
    ∀ (pre : List Oper) (trp : List Tr) (env0 : Env) (H0 : Heap), ops.toList = pre ++ l → trp.length = pre.length →
      (∀ t, (lk st.env) t = envSel (dstAt ops) (fun k => (trAt (trp ++ tr) k).v) (lk env0) all pre.length t) →
      st.H = HSel (fun k => (trAt (trp ++ tr) k).cls) (fun k => (trAt (trp ++ tr) k).H) H0 all pre.length →
      (∀ p, p ∈ env0 → p ∈ st.env) → (∀ k, k < pre.length → ∀ d, dstAt ops k = some d → (d, (trAt (trp ++ tr) k).v) ∈ st.env) →
      (∀ t, (lk st'.env) t = envSel (dstAt ops) (fun k => (trAt (trp ++ tr) k).v) (lk env0) all ops.size t) ∧
      st'.H = HSel (fun k => (trAt (trp ++ tr) k).cls) (fun k => (trAt (trp ++ tr) k).H) H0 all ops.size ∧ (trp ++ tr).length = ops.size ∧
      ∀ i o, pre.length ≤ i → ops[i]? = some o →
        ((trAt (trp ++ tr) i).cls = .N → (trAt (trp ++ tr) i).nw = none ∧ ∀ H, StepOk (ro := ro) P ops o (envSel (dstAt ops) (fun k => (trAt (trp ++ tr) k).v) (lk env0) all i) H (trAt (trp ++ tr) i).v H none) ∧
        ((trAt (trp ++ tr) i).cls = .R → (trAt (trp ++ tr) i).nw = none ∧
          StepOk (ro := ro) P ops o (envSel (dstAt ops) (fun k => (trAt (trp ++ tr) k).v) (lk env0) all i) (HSel (fun k => (trAt (trp ++ tr) k).cls) (fun k => (trAt (trp ++ tr) k).H) H0 all i) (trAt (trp ++ tr) i).v
            (HSel (fun k => (trAt (trp ++ tr) k).cls) (fun k => (trAt (trp ++ tr) k).H) H0 all i) none) ∧
        ((trAt (trp ++ tr) i).cls = .E →
          StepOk (ro := ro) P ops o (envSel (dstAt ops) (fun k => (trAt (trp ++ tr) k).v) (lk env0) all i) (HSel (fun k => (trAt (trp ++ tr) k).cls) (fun k => (trAt (trp ++ tr) k).H) H0 all i) (trAt (trp ++ tr) i).v (trAt (trp ++ tr) i).H (trAt (trp ++ tr) i).nw) ∧
        ((trAt (trp ++ tr) i).cls = .A → ∃ id blk, (trAt (trp ++ tr) i).H = [(id, blk)] ∧ (trAt (trp ++ tr) i).nw = some id ∧ (∀ j, blk.men j = false) ∧
          heapMen id (HSel (fun k => (trAt (trp ++ tr) k).cls) (fun k => (trAt (trp ++ tr) k).H) H0 all i) = false ∧
          ∀ H, heapMen id H = false → StepOk (ro := ro) P ops o (envSel (dstAt ops) (fun k => (trAt (trp ++ tr) k).v) (lk env0) all i) H (trAt (trp ++ tr) i).v ((id, blk) :: H) (some id)) ∧
        (∀ id, (trAt (trp ++ tr) i).nw = some id → (∀ p, p ∈ env0 → p.2.men id = false) ∧ ∀ k, k < i → (dstAt ops k).isSome = true → ((trAt (trp ++ tr) k).v).men id = false) ∧
        ((trAt (trp ++ tr) i).cls = .G → (trAt (trp ++ tr) i).nw = none ∧ ∃ id blk, (trAt (trp ++ tr) i).H = [(id, blk)] ∧ ∀ H, List.lookup id H = some blk → StepOk (ro := ro) P ops o (envSel (dstAt ops) (fun k => (trAt (trp ++ tr) k).v) (lk env0) all i) H (trAt (trp ++ tr) i).v H none) := by
  induction h with
  | nil st =>
    intro pre trp env0 H0 hops hlen henv hH _ _
    simp only [List.append_nil] at hops
    have hsz : ops.size = pre.length := by rw [← hops]; simp
    rw [hsz]
    refine ⟨henv, hH, by simp [hlen], fun i o hi ho => ?_⟩
    have := (Array.getElem?_eq_some_iff.1 ho).1
    omega
  | @neu o rest env H v tr st' hst r ih =>
    intro pre trp env0 H0 hops hlen henv hH hsub hput
    have e1 : trp ++ ⟨.N, v, H, none⟩ :: tr = (trp ++ [⟨.N, v, H, none⟩]) ++ tr := by simp
    have ho : ops[pre.length]? = some o := by rw [← Array.getElem?_toList, hops]; simp
    have hd : dstAt ops pre.length = o.dst := by simp [dstAt, ho]
    have ht : trAt (trp ++ ⟨.N, v, H, none⟩ :: tr) pre.length = ⟨.N, v, H, none⟩ := by simp [trAt, ← hlen]
    have h2 := ih (pre ++ [o]) (trp ++ [⟨.N, v, H, none⟩]) env0 H0 (by simp [hops]) (by simp [hlen]) ?_ ?_ ?_ ?_
    · rw [← e1] at h2
      obtain ⟨g1, g2, g3, g4⟩ := h2
      refine ⟨g1, g2, g3, fun i o' hi ho' => ?_⟩
      rcases Nat.lt_or_ge pre.length i with hlt | hge
      · exact g4 i o' (by simp; omega) ho'
      · obtain rfl : i = pre.length := by omega
        rw [ho] at ho'
        obtain rfl : o = o' := by simpa using ho'
        have he : (lk env) = envSel (dstAt ops) (fun k => (trAt (trp ++ ⟨.N, v, H, none⟩ :: tr) k).v) (lk env0) all pre.length := funext henv
        rw [ht]
        refine ⟨fun _ => ⟨rfl, fun H => he ▸ hst H⟩, fun h => by simp at h, fun h => by simp at h, fun h => by simp at h, fun id h => by simp at h, fun h => by simp at h⟩
    · intro t
      rw [← e1, lookup_upd]
      simp only [List.length_append, List.length_cons, List.length_nil, envSel, hd, ht, all, true_and]
      rw [henv t]
    · rw [← e1]
      simp only [List.length_append, List.length_cons, List.length_nil, HSel, ht]
      simpa using hH
    · intro p hp
      have := hsub p hp
      cases hdd : o.dst <;> simp [upd, this]
    · intro k hk d hkd
      rw [← e1]
      rcases Nat.lt_or_ge k pre.length with hlt | hge
      · have := hput k hlt d hkd
        cases hdd : o.dst <;> simp [upd, this]
      · obtain rfl : k = pre.length := by simp at hk; omega
        rw [hd] at hkd
        rw [ht]
        simp [upd, hkd]
  | @gd o rest env H v id blk tr st' hst hl r ih =>
    intro pre trp env0 H0 hops hlen henv hH hsub hput
    have e1 : trp ++ ⟨.G, v, [(id, blk)], none⟩ :: tr = (trp ++ [⟨.G, v, [(id, blk)], none⟩]) ++ tr := by simp
    have ho : ops[pre.length]? = some o := by rw [← Array.getElem?_toList, hops]; simp
    have hd : dstAt ops pre.length = o.dst := by simp [dstAt, ho]
    have ht : trAt (trp ++ ⟨.G, v, [(id, blk)], none⟩ :: tr) pre.length = ⟨.G, v, [(id, blk)], none⟩ := by simp [trAt, ← hlen]
    have h2 := ih (pre ++ [o]) (trp ++ [⟨.G, v, [(id, blk)], none⟩]) env0 H0 (by simp [hops]) (by simp [hlen]) ?_ ?_ ?_ ?_
    · rw [← e1] at h2
      obtain ⟨g1, g2, g3, g4⟩ := h2
      refine ⟨g1, g2, g3, fun i o' hi ho' => ?_⟩
      rcases Nat.lt_or_ge pre.length i with hlt | hge
      · exact g4 i o' (by simp; omega) ho'
      · obtain rfl : i = pre.length := by omega
        rw [ho] at ho'
        obtain rfl : o = o' := by simpa using ho'
        have he : (lk env) = envSel (dstAt ops) (fun k => (trAt (trp ++ ⟨.G, v, [(id, blk)], none⟩ :: tr) k).v) (lk env0) all pre.length := funext henv
        rw [ht]
        refine ⟨fun h => by simp at h, fun h => by simp at h, fun h => by simp at h, fun h => by simp at h, fun id h => by simp at h, fun _ => ⟨rfl, id, blk, rfl, fun H hl => he ▸ hst H hl⟩⟩
    · intro t
      rw [← e1, lookup_upd]
      simp only [List.length_append, List.length_cons, List.length_nil, envSel, hd, ht, all, true_and]
      rw [henv t]
    · rw [← e1]
      simp only [List.length_append, List.length_cons, List.length_nil, HSel, ht]
      simpa using hH
    · intro p hp
      have := hsub p hp
      cases hdd : o.dst <;> simp [upd, this]
    · intro k hk d hkd
      rw [← e1]
      rcases Nat.lt_or_ge k pre.length with hlt | hge
      · have := hput k hlt d hkd
        cases hdd : o.dst <;> simp [upd, this]
      · obtain rfl : k = pre.length := by simp at hk; omega
        rw [hd] at hkd
        rw [ht]
        simp [upd, hkd]
  | @rd o rest env H v tr st' hst r ih =>
    intro pre trp env0 H0 hops hlen henv hH hsub hput
    have e1 : trp ++ ⟨.R, v, H, none⟩ :: tr = (trp ++ [⟨.R, v, H, none⟩]) ++ tr := by simp
    have ho : ops[pre.length]? = some o := by rw [← Array.getElem?_toList, hops]; simp
    have hd : dstAt ops pre.length = o.dst := by simp [dstAt, ho]
    have ht : trAt (trp ++ ⟨.R, v, H, none⟩ :: tr) pre.length = ⟨.R, v, H, none⟩ := by simp [trAt, ← hlen]
    have h2 := ih (pre ++ [o]) (trp ++ [⟨.R, v, H, none⟩]) env0 H0 (by simp [hops]) (by simp [hlen]) ?_ ?_ ?_ ?_
    · rw [← e1] at h2
      obtain ⟨g1, g2, g3, g4⟩ := h2
      refine ⟨g1, g2, g3, fun i o' hi ho' => ?_⟩
      rcases Nat.lt_or_ge pre.length i with hlt | hge
      · exact g4 i o' (by simp; omega) ho'
      · obtain rfl : i = pre.length := by omega
        rw [ho] at ho'
        obtain rfl : o = o' := by simpa using ho'
        have he : (lk env) = envSel (dstAt ops) (fun k => (trAt (trp ++ ⟨.R, v, H, none⟩ :: tr) k).v) (lk env0) all pre.length := funext henv
        have hH' : H = _ := hH
        rw [ht]
        refine ⟨fun h => by simp at h, fun _ => ⟨rfl, ?_⟩, fun h => by simp at h, fun h => by simp at h, fun id h => by simp at h, fun h => by simp at h⟩
        rw [← he, ← hH']; exact hst
    · intro t
      rw [← e1, lookup_upd]
      simp only [List.length_append, List.length_cons, List.length_nil, envSel, hd, ht, all, true_and]
      rw [henv t]
    · rw [← e1]
      simp only [List.length_append, List.length_cons, List.length_nil, HSel, ht]
      simpa using hH
    · intro p hp
      have := hsub p hp
      cases hdd : o.dst <;> simp [upd, this]
    · intro k hk d hkd
      rw [← e1]
      rcases Nat.lt_or_ge k pre.length with hlt | hge
      · have := hput k hlt d hkd
        cases hdd : o.dst <;> simp [upd, this]
      · obtain rfl : k = pre.length := by simp at hk; omega
        rw [hd] at hkd
        rw [ht]
        simp [upd, hkd]
  | @eff o rest env H H' v nw tr st' hst hf r ih =>
    intro pre trp env0 H0 hops hlen henv hH hsub hput
    have e1 : trp ++ ⟨.E, v, H', nw⟩ :: tr = (trp ++ [⟨.E, v, H', nw⟩]) ++ tr := by simp
    have ho : ops[pre.length]? = some o := by rw [← Array.getElem?_toList, hops]; simp
    have hd : dstAt ops pre.length = o.dst := by simp [dstAt, ho]
    have ht : trAt (trp ++ ⟨.E, v, H', nw⟩ :: tr) pre.length = ⟨.E, v, H', nw⟩ := by simp [trAt, ← hlen]
    have h2 := ih (pre ++ [o]) (trp ++ [⟨.E, v, H', nw⟩]) env0 H0 (by simp [hops]) (by simp [hlen]) ?_ ?_ ?_ ?_
    · rw [← e1] at h2
      obtain ⟨g1, g2, g3, g4⟩ := h2
      refine ⟨g1, g2, g3, fun i o' hi ho' => ?_⟩
      rcases Nat.lt_or_ge pre.length i with hlt | hge
      · exact g4 i o' (by simp; omega) ho'
      · obtain rfl : i = pre.length := by omega
        rw [ho] at ho'
        obtain rfl : o = o' := by simpa using ho'
        have he : (lk env) = envSel (dstAt ops) (fun k => (trAt (trp ++ ⟨.E, v, H', nw⟩ :: tr) k).v) (lk env0) all pre.length := funext henv
        have hH' : H = _ := hH
        rw [ht]
        refine ⟨fun h => by simp at h, fun h => by simp at h, fun _ => ?_, fun h => by simp at h, fun id hid => ?_, fun h => by simp at h⟩
        · rw [← he, ← hH']; exact hst
        · have hid' : nw = some id := hid
          subst hid'
          have hall : ∀ p, p ∈ env → p.2.men id = false := fun p hp => by simpa using List.all_eq_true.1 hf p hp
          refine ⟨fun p hp => hall p (hsub p hp), fun k hk hsome => ?_⟩
          obtain ⟨d, hkd⟩ := Option.isSome_iff_exists.1 hsome
          exact hall _ (hput k hk d hkd)
    · intro t
      rw [← e1, lookup_upd]
      simp only [List.length_append, List.length_cons, List.length_nil, envSel, hd, ht, all, true_and]
      rw [henv t]
    · rw [← e1]
      simp only [List.length_append, List.length_cons, List.length_nil, HSel, ht, all]
      simp
    · intro p hp
      have := hsub p hp
      cases hdd : o.dst <;> simp [upd, this]
    · intro k hk d hkd
      rw [← e1]
      rcases Nat.lt_or_ge k pre.length with hlt | hge
      · have := hput k hlt d hkd
        cases hdd : o.dst <;> simp [upd, this]
      · obtain rfl : k = pre.length := by simp at hk; omega
        rw [hd] at hkd
        rw [ht]
        simp [upd, hkd]
  | @add o rest env H v id blk tr st' hst hm hb hf r ih =>
    intro pre trp env0 H0 hops hlen henv hH hsub hput
    have e1 : trp ++ ⟨.A, v, [(id, blk)], some id⟩ :: tr = (trp ++ [⟨.A, v, [(id, blk)], some id⟩]) ++ tr := by simp
    have ho : ops[pre.length]? = some o := by rw [← Array.getElem?_toList, hops]; simp
    have hd : dstAt ops pre.length = o.dst := by simp [dstAt, ho]
    have ht : trAt (trp ++ ⟨.A, v, [(id, blk)], some id⟩ :: tr) pre.length = ⟨.A, v, [(id, blk)], some id⟩ := by simp [trAt, ← hlen]
    have h2 := ih (pre ++ [o]) (trp ++ [⟨.A, v, [(id, blk)], some id⟩]) env0 H0 (by simp [hops]) (by simp [hlen]) ?_ ?_ ?_ ?_
    · rw [← e1] at h2
      obtain ⟨g1, g2, g3, g4⟩ := h2
      refine ⟨g1, g2, g3, fun i o' hi ho' => ?_⟩
      rcases Nat.lt_or_ge pre.length i with hlt | hge
      · exact g4 i o' (by simp; omega) ho'
      · obtain rfl : i = pre.length := by omega
        rw [ho] at ho'
        obtain rfl : o = o' := by simpa using ho'
        have he : (lk env) = envSel (dstAt ops) (fun k => (trAt (trp ++ ⟨.A, v, [(id, blk)], some id⟩ :: tr) k).v) (lk env0) all pre.length := funext henv
        have hH' : H = _ := hH
        rw [ht]
        refine ⟨fun h => by simp at h, fun h => by simp at h, fun h => by simp at h, fun _ => ⟨id, blk, rfl, rfl, hb, by rw [← hH']; exact hm, fun H hm => by rw [← he]; exact hst H hm⟩, fun id2 hid => ?_, fun h => by simp at h⟩
        · have hid' : id = id2 := by simpa using hid
          subst hid'
          have hall : ∀ p, p ∈ env → p.2.men id = false := fun p hp => by simpa using List.all_eq_true.1 hf p hp
          refine ⟨fun p hp => hall p (hsub p hp), fun k hk hsome => ?_⟩
          obtain ⟨d, hkd⟩ := Option.isSome_iff_exists.1 hsome
          exact hall _ (hput k hk d hkd)
    · intro t
      rw [← e1, lookup_upd]
      simp only [List.length_append, List.length_cons, List.length_nil, envSel, hd, ht, all, true_and]
      rw [henv t]
    · rw [← e1]
      simp only [List.length_append, List.length_cons, List.length_nil, HSel, ht, all]
      have hH' : H = _ := hH
      simp only [reduceCtorEq, and_false, ↓reduceIte, and_self]
      rw [← hH']
      rfl
    · intro p hp
      have := hsub p hp
      cases hdd : o.dst <;> simp [upd, this]
    · intro k hk d hkd
      rw [← e1]
      rcases Nat.lt_or_ge k pre.length with hlt | hge
      · have := hput k hlt d hkd
        cases hdd : o.dst <;> simp [upd, this]
      · obtain rfl : k = pre.length := by simp at hk; omega
        rw [hd] at hkd
        rw [ht]
        simp [upd, hkd]

end Go.Abs
