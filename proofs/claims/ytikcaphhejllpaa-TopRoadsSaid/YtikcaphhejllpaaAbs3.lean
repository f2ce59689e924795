/- A region whose order is drawn: if what the text's order shows is apart enough, every order comes to the same. Then the rules of code on plain values, and the contract of a function on plain values. Conditions: each law names its own. -/
import Derived.Test.YtikcaphhejllpaaAbs2
namespace Go.Abs
set_option linter.unusedVariables false

def unord (bef : Array Nat) (i j : Nat) : Bool := !(bef.getD j 0).testBit i

/-- 'bef' says of each operation which ones are ahead of it: by an edge, or ahead of one that is. -/
def befOk (ops : Array Oper) (bef : Array Nat) : Bool :=
  (List.range ops.size).all fun j =>
    ((ops.getD j default).after.all fun e => !Region.binds .any e || decide (e.on < j)) &&
    (List.range ops.size).all fun i => unord bef i j || ((ops.getD j default).after.any fun e => Region.binds .any e && (e.on == i || (bef.getD e.on 0).testBit i))

def pairOk (ops : Array Oper) (tr : List Tr) (i j : Nat) : Bool :=
  let a := trAt tr i
  let b := trAt tr j
  (match dstAt ops i with | some d => !(looks ops (ops.getD j default)).contains d && dstAt ops j != some d | none => true) &&
  (match dstAt ops j with | some d => !(looks ops (ops.getD i default)).contains d | none => true) &&
  (match a.cls, b.cls with | .N, _ | _, .N | .R, .R => true | _, _ => false) &&
  (match a.nw with | some id => !b.v.men id | none => true)

def drawOk (ops : Array Oper) (tr : List Tr) : Bool :=
  let bef := Region.before ops
  befOk ops bef && (List.range ops.size).all fun j => (List.range j).all fun i => !unord bef i j || pairOk ops tr i j

section
variable {P : Program} {ops : Array Oper} {bef : Array Nat}

theorem befOk_lt (h : befOk ops bef = true) {j : Nat} {o : Oper} (ho : ops[j]? = some o) {e : Edge} (he : e ∈ o.after) (hb : Region.binds .any e = true) : e.on < j := by
  have hj := (Array.getElem?_eq_some_iff.1 ho).1
  have h1 := List.all_eq_true.1 h j (List.mem_range.2 hj)
  simp only [Bool.and_eq_true] at h1
  have h2 := Array.all_eq_true'.1 h1.1 e (by simpa [Array.getD_eq_getD_getElem?, ho] using he)
  simpa [hb] using h2

theorem befOk_closed (h : befOk ops bef = true) {L : Nat → Bool} (hL : ∀ j o, ops[j]? = some o → L j = true → ∀ e, e ∈ o.after → Region.binds .any e = true → L e.on = true) :
    ∀ j i, j < ops.size → i < ops.size → unord bef i j = false → L j = true → L i = true := by
  intro j
  induction j using Nat.strongRecOn with
  | _ j ih =>
    intro i hj hi hu hLj
    have ho : ops[j]? = some ops[j] := Array.getElem?_eq_getElem hj
    have h1 := List.all_eq_true.1 h j (List.mem_range.2 hj)
    simp only [Bool.and_eq_true] at h1
    have h2 := List.all_eq_true.1 h1.2 i (List.mem_range.2 hi)
    rw [hu, Bool.false_or, Array.any_eq_true'] at h2
    obtain ⟨e, he, h3⟩ := h2
    have he' : e ∈ ops[j].after := by simpa [Array.getD_eq_getD_getElem?, ho] using he
    simp only [Bool.and_eq_true, Bool.or_eq_true, beq_iff_eq] at h3
    have hlt := befOk_lt h ho he' h3.1
    have hLe := hL j _ ho hLj e he' h3.1
    rcases h3.2 with h4 | h4
    · rw [← h4]; exact hLe
    · exact ih e.on hlt i (by omega) hi (by unfold unord; rw [h4]; rfl) hLe
end

theorem Run.facts0 {P : Program} {ops : Array Oper} {st st' : St} {tr : List Tr} (h : Run P ops ops.toList st tr st') :
    (∀ t, (lk st'.env) t = envSel (dstAt ops) (fun k => (trAt tr k).v) (lk st.env) all ops.size t) ∧
    st'.H = HSel (fun k => (trAt tr k).cls) (fun k => (trAt tr k).H) st.H all ops.size ∧ Facts P ops (lk st.env) st.H tr := by
  have := h.facts [] [] st.env st.H (by simp) rfl (fun t => rfl) rfl (fun p hp => hp) (fun k hk => absurd hk (by simp))
  simp only [List.nil_append, List.length_nil, Nat.zero_le, forall_const] at this
  obtain ⟨h1, h2, h3, h4⟩ := this
  have hnw : ∀ i id, (trAt tr i).nw = some id → ∃ o, ops[i]? = some o := by
    intro i id hid
    rcases Nat.lt_or_ge i ops.size with hi | hi
    · exact ⟨_, Array.getElem?_eq_getElem hi⟩
    · have : tr[i]? = none := List.getElem?_eq_none (by omega)
      simp [trAt, List.getD_eq_getElem?_getD, this] at hid
  refine ⟨h1, h2, ⟨fun i o ho hc => ((h4 i o ho).1 hc).2, fun i o ho hc => ((h4 i o ho).2.1 hc).2, fun i o ho hc => (h4 i o ho).2.2.1 hc, fun i id hid t s hs => ?_, fun i id hid => ?_⟩⟩
  · obtain ⟨o, ho⟩ := hnw i id hid
    exact ((h4 i o ho).2.2.2 id hid).1 (t, s) (mem_of_lookup hs)
  · obtain ⟨o, ho⟩ := hnw i id hid
    exact ((h4 i o ho).2.2.2 id hid).2

theorem nw_of_cls {P : Program} {ops : Array Oper} {st st' : St} {tr : List Tr} (h : Run P ops ops.toList st tr st') {i : Nat} (hi : i < ops.size) (hc : (trAt tr i).cls ≠ .E) : (trAt tr i).nw = none := by
  have := h.facts [] [] st.env st.H (by simp) rfl (fun t => rfl) rfl (fun p hp => hp) (fun k hk => absurd hk (by simp))
  simp only [List.nil_append, List.length_nil, Nat.zero_le, forall_const] at this
  have h4 := this.2.2.2 i _ (Array.getElem?_eq_getElem hi)
  cases hcl : (trAt tr i).cls with
  | N => exact (h4.1 hcl).1
  | R => exact (h4.2.1 hcl).1
  | E => exact absurd hcl hc

section
variable {P : Program} {ops : Array Oper} {w0 : World} {O V : Nat → Prop} {n : Nat}

theorem Run.wpAny {st st' : St} {tr : List Tr} (h : Run P ops ops.toList st tr st') (hdraw : drawOk ops tr = true) {Q : Exit → Act → World → Prop} (hn : ∀ o, o ∈ ops.toList → ∀ d, o.dst = some d → d < n)
    (hQ : ∀ ι' a' w', Sim w0 O V n ι' (lk st'.env) st'.H a' w' → Q .normal a' w') :
    ∀ (fuel : Nat) (L : Array Bool), L.size = ops.size → ((List.range ops.size).filter fun i => !L.getD i true).length ≤ fuel →
      (∀ j o, ops[j]? = some o → L.getD j false = true → ∀ e, e ∈ o.after → Region.binds .any e = true → L.getD e.on false = true) →
      ∀ ι a w, Sim w0 O V n ι (envSel (dstAt ops) (fun k => (trAt tr k).v) (lk st.env) (fun k => L.getD k false) ops.size)
        (HSel (fun k => (trAt tr k).cls) (fun k => (trAt tr k).H) st.H (fun k => L.getD k false) ops.size) a w →
      Go.wpAny P .any ops Q fuel L a w := by
  obtain ⟨hend, hendH, F⟩ := h.facts0
  have hd := hdraw
  simp only [drawOk, Bool.and_eq_true] at hd
  obtain ⟨hbef, hpair⟩ := hd
  have pair : ∀ i j, i < j → j < ops.size → unord (Region.before ops) i j = true → pairOk ops tr i j = true := by
    intro i j hij hj hu
    have := List.all_eq_true.1 (List.all_eq_true.1 hpair j (List.mem_range.2 hj)) i (List.mem_range.2 hij)
    simpa [hu] using this
  -- what two operations that are not ordered are to one another
  have apart1 : ∀ i j, i < j → j < ops.size → unord (Region.before ops) i j = true → ∀ d, dstAt ops i = some d → d ∉ looks ops (ops.getD j default) ∧ dstAt ops j ≠ some d := by
    intro i j hij hj hu d hdi
    have := pair i j hij hj hu
    simp only [pairOk, hdi, Bool.and_eq_true] at this
    have h1 := this.1.1.1
    simpa using h1
  have apart2 : ∀ i j, i < j → j < ops.size → unord (Region.before ops) i j = true → ∀ d, dstAt ops j = some d → d ∉ looks ops (ops.getD i default) := by
    intro i j hij hj hu d hdj
    have := pair i j hij hj hu
    simp only [pairOk, hdj, Bool.and_eq_true] at this
    have h1 := this.1.1.2
    simpa using h1
  have apart3 : ∀ i j, i < j → j < ops.size → unord (Region.before ops) i j = true → (trAt tr i).cls = .N ∨ (trAt tr j).cls = .N ∨ ((trAt tr i).cls ≠ .E ∧ (trAt tr j).cls ≠ .E) := by
    intro i j hij hj hu
    have := pair i j hij hj hu
    simp only [pairOk, Bool.and_eq_true] at this
    have h1 := this.1.2
    revert h1
    cases (trAt tr i).cls <;> cases (trAt tr j).cls <;> simp
  have apart4 : ∀ i j, i < j → j < ops.size → unord (Region.before ops) i j = true → ∀ id, (trAt tr i).nw = some id → (trAt tr j).v.men id = false := by
    intro i j hij hj hu id hid
    have := pair i j hij hj hu
    simp only [pairOk, hid, Bool.and_eq_true] at this
    have h1 := this.2
    simpa using h1
  intro fuel
  induction fuel with
  | zero =>
    intro L hL hfuel hcl ι a w hs
    have hallL : ∀ i, i < ops.size → L.getD i false = true := by
      intro i hi
      have hnil := List.eq_nil_of_length_eq_zero (Nat.le_zero.1 hfuel)
      have := List.filter_eq_nil_iff.1 hnil i (List.mem_range.2 hi)
      have hi' : i < L.size := by omega
      simp [Array.getD_eq_getD_getElem?, hi'] at this ⊢
      exact this
    constructor
    · refine List.filter_eq_nil_iff.2 fun i hi => ?_
      have hi' := List.mem_range.1 hi
      have h1 := hallL i hi'
      have hi2 : i < L.size := by omega
      simp [Array.getD_eq_getD_getElem?, hi2] at h1 ⊢
      simp [h1]
    · refine hQ ι a w ?_
      have e1 : (lk st'.env) = envSel (dstAt ops) (fun k => (trAt tr k).v) (lk st.env) (fun k => L.getD k false) ops.size := funext fun t => by
        rw [hend t]
        exact envSel_congr _ fun k hk _ => (hallL k hk).symm
      have e2 : st'.H = HSel (fun k => (trAt tr k).cls) (fun k => (trAt tr k).H) st.H (fun k => L.getD k false) ops.size := by
        rw [hendH]
        exact HSel_congr _ fun k hk _ => (hallL k hk).symm
      rw [e1, e2]; exact hs
  | succ fuel ih =>
    intro L hL hfuel hcl ι a w hs
    have hclosed := befOk_closed hbef hcl
    have getL : ∀ i, i < ops.size → L.getD i true = L.getD i false := by
      intro i hi
      have : i < L.size := by omega
      simp [Array.getD_eq_getD_getElem?, this]
    constructor
    · intro hnil
      have hallL : ∀ i, i < ops.size → L.getD i false = true := by
        intro i
        induction i using Nat.strongRecOn with
        | _ i ih' =>
          intro hi
          have h1 := List.filter_eq_nil_iff.1 hnil i (List.mem_range.2 hi)
          have ho : ops[i]? = some ops[i] := Array.getElem?_eq_getElem hi
          rw [getL i hi, ho] at h1
          cases hLi : L.getD i false with
          | true => rfl
          | false =>
            exfalso
            apply h1
            rw [hLi]
            simp only [Bool.not_false, Option.map_some, Option.getD_some, Bool.true_and]
            refine Array.all_eq_true'.2 fun e he => ?_
            cases hb : Region.binds .any e with
            | false => rfl
            | true =>
              have hlt := befOk_lt hbef ho he hb
              simp [ih' e.on hlt (by omega)]
      refine hQ ι a w ?_
      have e1 : (lk st'.env) = envSel (dstAt ops) (fun k => (trAt tr k).v) (lk st.env) (fun k => L.getD k false) ops.size := funext fun t => by
        rw [hend t]
        exact envSel_congr _ fun k hk _ => (hallL k hk).symm
      have e2 : st'.H = HSel (fun k => (trAt tr k).cls) (fun k => (trAt tr k).H) st.H (fun k => L.getD k false) ops.size := by
        rw [hendH]
        exact HSel_congr _ fun k hk _ => (hallL k hk).symm
      rw [e1, e2]; exact hs
    · intro i hi
      obtain ⟨hir, hcond⟩ := List.mem_filter.1 hi
      have hi' := List.mem_range.1 hir
      have ho : ops[i]? = some ops[i] := Array.getElem?_eq_getElem hi'
      rw [getL i hi', ho] at hcond
      simp only [Option.map_some, Option.getD_some, Bool.and_eq_true, Bool.not_eq_true'] at hcond
      obtain ⟨hLi, hedges⟩ := hcond
      have hedge : ∀ e, e ∈ (ops[i]).after → Region.binds .any e = true → L.getD e.on false = true := by
        intro e he hb
        have := Array.all_eq_true'.1 hedges e he
        simpa [hb] using this
      have hgi : ops.getD i default = ops[i] := by simp [Array.getD_eq_getD_getElem?, ho]
      -- all that is ahead of i is listed; nothing behind it is
      have ahead : ∀ k, k < ops.size → unord (Region.before ops) k i = false → L.getD k false = true := by
        intro k hk hu
        have h1 := List.all_eq_true.1 hbef i (List.mem_range.2 hi')
        simp only [Bool.and_eq_true] at h1
        have h2 := List.all_eq_true.1 h1.2 k (List.mem_range.2 hk)
        rw [hu, Bool.false_or, hgi, Array.any_eq_true'] at h2
        obtain ⟨e, he, h3⟩ := h2
        simp only [Bool.and_eq_true, Bool.or_eq_true, beq_iff_eq] at h3
        have hLe := hedge e he h3.1
        rcases h3.2 with h4 | h4
        · rw [← h4]; exact hLe
        · have hlt := befOk_lt hbef ho he h3.1
          exact hclosed e.on k (by omega) hk (by unfold unord; rw [h4]; rfl) hLe
      have behind : ∀ k, k < ops.size → unord (Region.before ops) i k = false → L.getD k false = false := by
        intro k hk hu
        cases hLk : L.getD k false with
        | false => rfl
        | true => rw [hclosed k i hk hi' hu hLk] at hLi; exact hLi
      -- the slots that it looks at
      have hslots : ∀ t, t ∈ looks ops ops[i] → envSel (dstAt ops) (fun k => (trAt tr k).v) (lk st.env) (fun k => L.getD k false) ops.size t =
          envSel (dstAt ops) (fun k => (trAt tr k).v) (lk st.env) all i t := by
        intro t ht
        rw [envSel_cut ops.size (Nat.le_of_lt hi') fun k h1 h2 hdk => ?_]
        · refine envSel_congr i fun k hk hdk => ?_
          show L.getD k false = true
          refine ahead k (by omega) ?_
          cases hu : unord (Region.before ops) k i with
          | false => rfl
          | true =>
            have := (apart1 k i hk hi' hu t hdk).1
            rw [hgi] at this
            exact absurd ht this
        · rcases Nat.lt_or_ge i k with hlt | hge
          · refine behind k h2 ?_
            cases hu : unord (Region.before ops) i k with
            | false => rfl
            | true =>
              have := apart2 i k hlt h2 hu t hdk
              rw [hgi] at this
              exact absurd ht this
          · obtain rfl : k = i := by omega
            exact hLi
      -- the owned blocks, unless it hangs on none
      have hheap : (trAt tr i).cls ≠ .N → HSel (fun k => (trAt tr k).cls) (fun k => (trAt tr k).H) st.H (fun k => L.getD k false) ops.size =
          HSel (fun k => (trAt tr k).cls) (fun k => (trAt tr k).H) st.H all i := by
        intro hN
        rw [HSel_cut ops.size (Nat.le_of_lt hi') fun k h1 h2 hck => ?_]
        · refine HSel_congr i fun k hk hck => ?_
          show L.getD k false = true
          refine ahead k (by omega) ?_
          cases hu : unord (Region.before ops) k i with
          | false => rfl
          | true =>
            rcases apart3 k i hk hi' hu with h1 | h1 | h1
            · rw [hck] at h1; simp at h1
            · exact absurd h1 hN
            · exact absurd hck h1.1
        · rcases Nat.lt_or_ge i k with hlt | hge
          · refine behind k h2 ?_
            cases hu : unord (Region.before ops) i k with
            | false => rfl
            | true =>
              rcases apart3 i k hlt h2 hu with h1 | h1 | h1
              · exact absurd h1 hN
              · rw [hck] at h1; simp at h1
              · exact absurd hck h1.2
          · obtain rfl : k = i := by omega
            exact hLi
      -- what it does
      have hstep : ∃ H' nw, StepOk P ops ops[i] (envSel (dstAt ops) (fun k => (trAt tr k).v) (lk st.env) (fun k => L.getD k false) ops.size)
            (HSel (fun k => (trAt tr k).cls) (fun k => (trAt tr k).H) st.H (fun k => L.getD k false) ops.size) (trAt tr i).v H' nw ∧
          H' = (if (trAt tr i).cls = .E then (trAt tr i).H else HSel (fun k => (trAt tr k).cls) (fun k => (trAt tr k).H) st.H (fun k => L.getD k false) ops.size) ∧
          (nw = if (trAt tr i).cls = .E then (trAt tr i).nw else none) := by
        cases hc : (trAt tr i).cls with
        | N => exact ⟨_, none, (F.neu i _ ho hc _).congr hslots, by simp, by simp⟩
        | R =>
          have := (F.rd i _ ho hc).congr hslots
          rw [← hheap (by simp [hc])] at this
          exact ⟨_, none, this, by simp, by simp⟩
        | E =>
          have := (F.eff i _ ho hc).congr hslots
          rw [← hheap (by simp [hc])] at this
          exact ⟨_, _, this, by simp, by simp⟩
      obtain ⟨H', nw, hst, hH', hnw⟩ := hstep
      have hdst : dstAt ops i = (ops[i]).dst := by simp [dstAt, ho]
      have hfresh : ∀ id, nw = some id → ∀ t s, envSel (dstAt ops) (fun k => (trAt tr k).v) (lk st.env) (fun k => L.getD k false) ops.size t = some s → s.men id = false := by
        intro id hid t s hts
        have hid' : (trAt tr i).nw = some id := by
          rw [hid] at hnw
          split at hnw
          · exact hnw.symm
          · simp at hnw
        rcases envSel_from _ hts with h1 | ⟨k, hk, hLk, hdk, rfl⟩
        · exact F.fresh0 i id hid' t s h1
        · rcases Nat.lt_or_ge k i with hlt | hge
          · exact F.fresh i id hid' k hlt (by simp [hdk])
          · have hne : k ≠ i := fun e => by rw [e] at hLk; rw [hLi] at hLk; simp at hLk
            refine apart4 i k (by omega) hk ?_ id hid'
            cases hu : unord (Region.before ops) i k with
            | true => rfl
            | false => have := behind k hk hu; rw [this] at hLk; simp at hLk
      have hgoal := hst.wp hs (fun d hd => hn _ (Array.mem_toList_iff.2 (Array.getElem_mem hi')) d hd) hfresh (Go.wpAny P .any ops Q fuel (L.setIfInBounds i true)) Q ?_
      · simp only [Go.wpOp, ho]
        split
        · rename_i hw; rw [if_pos hw] at hgoal; exact .inl hgoal
        · rename_i hw; rw [if_neg hw] at hgoal; exact hgoal
      · intro ι' a' w' hs'
        have hget : ∀ k, (L.setIfInBounds i true).getD k false = if k = i then true else L.getD k false := by
          intro k
          simp only [Array.getD_eq_getD_getElem?, Array.getElem?_setIfInBounds]
          by_cases e : i = k
          · subst e; simp [show i < L.size by omega]
          · simp [e, show ¬ k = i from fun e' => e e'.symm]
        refine ih (L.setIfInBounds i true) (by simp [hL]) ?_ ?_ ι' a' w' ?_
        · have hlt : ((List.range ops.size).filter fun k => !(L.setIfInBounds i true).getD k true).length < ((List.range ops.size).filter fun k => !L.getD k true).length := by
            have hsub : ((List.range ops.size).filter fun k => !(L.setIfInBounds i true).getD k true) = ((List.range ops.size).filter fun k => !L.getD k true).filter fun k => k != i := by
              rw [List.filter_filter]
              refine List.filter_congr fun k hk => ?_
              have hk' := List.mem_range.1 hk
              have e1 : (L.setIfInBounds i true).getD k true = (L.setIfInBounds i true).getD k false := by
                have : k < (L.setIfInBounds i true).size := by simp; omega
                rw [Array.getD_eq_getD_getElem?, Array.getD_eq_getD_getElem?, Array.getElem?_eq_getElem this]; rfl
              rw [e1, hget, getL k hk']
              by_cases e : k = i <;> simp [e]
            rw [hsub]
            refine List.length_filter_lt_length_iff_exists.2 ⟨i, ?_, by simp⟩
            exact List.mem_filter.2 ⟨hir, by rw [getL i hi', hLi]; rfl⟩
          omega
        · intro j o hj hLj e he hb
          rw [hget] at hLj ⊢
          by_cases eji : j = i
          · subst eji
            rw [ho] at hj
            obtain rfl : ops[j] = o := by simpa using hj
            have := hedge e he hb
            simp [this]
          · simp only [eji, if_false] at hLj
            have := hcl j o hj hLj e he hb
            simp [this]
        · have e1 : envSel (dstAt ops) (fun k => (trAt tr k).v) (lk st.env) (fun k => (L.setIfInBounds i true).getD k false) ops.size =
              fun t => if (ops[i]).dst = some t then some (trAt tr i).v else envSel (dstAt ops) (fun k => (trAt tr k).v) (lk st.env) (fun k => L.getD k false) ops.size t := by
            funext t
            by_cases hdt : (ops[i]).dst = some t
            · rw [if_pos hdt, envSel_cut (i := i + 1) ops.size (by omega) fun k h1 h2 hdk => ?_]
              · simp [envSel, hget, hdst, hdt]
              · show (L.setIfInBounds i true).getD k false = false
                rw [hget, if_neg (by omega)]
                refine behind k h2 ?_
                cases hu : unord (Region.before ops) i k with
                | false => rfl
                | true => exact absurd hdk (apart1 i k (by omega) h2 hu t (hdst.trans hdt)).2
            · rw [if_neg hdt]
              refine envSel_congr _ fun k hk hdk => ?_
              show (L.setIfInBounds i true).getD k false = L.getD k false
              rw [hget, if_neg]
              rintro rfl
              exact hdt (hdst.symm.trans hdk)
          have e2 : HSel (fun k => (trAt tr k).cls) (fun k => (trAt tr k).H) st.H (fun k => (L.setIfInBounds i true).getD k false) ops.size = H' := by
            rw [hH']
            by_cases hc : (trAt tr i).cls = .E
            · rw [if_pos hc, HSel_cut (i := i + 1) ops.size (by omega) fun k h1 h2 hck => ?_]
              · simp [HSel, hget, hc]
              · show (L.setIfInBounds i true).getD k false = false
                rw [hget, if_neg (by omega)]
                refine behind k h2 ?_
                cases hu : unord (Region.before ops) i k with
                | false => rfl
                | true =>
                  rcases apart3 i k (by omega) h2 hu with h3 | h3 | h3
                  · rw [hc] at h3; simp at h3
                  · rw [hck] at h3; simp at h3
                  · exact absurd hc h3.1
            · rw [if_neg hc]
              refine HSel_congr _ fun k hk hck => ?_
              show (L.setIfInBounds i true).getD k false = L.getD k false
              rw [hget, if_neg]
              rintro rfl
              exact hc hck
          rw [e1, e2]; exact hs'
end

/-! ## Code -/

/-- Code, on plain values. -/
def awp (P : Program) (n : Nat) (c : Code) (Q : Exit → St → Prop) (st : St) : Prop :=
  ∀ (w0 : World) (O V : Nat → Prop) (ι : Nat → Value) (a : Act) (w : World), Sim w0 O V n ι (lk st.env) st.H a w →
    c.wp P (fun e a' w' => ∃ ι' st', Q e st' ∧ Sim w0 O V n ι' (lk st'.env) st'.H a' w') a w

def dstsOk (n : Nat) (ops : Array Oper) : Bool := ops.toList.all fun o => match o.dst with | some d => decide (d < n) | none => true

section rules
variable {P : Program} {n : Nat} {Q : Exit → St → Prop} {st : St}

theorem awp.mono {c : Code} {Q' : Exit → St → Prop} (h : awp P n c Q st) (hq : ∀ e s, Q e s → Q' e s) : awp P n c Q' st :=
  fun w0 O V ι a w hs => wp_mono (h w0 O V ι a w hs) fun _ _ _ ⟨ι', st', q, s⟩ => ⟨ι', st', hq _ _ q, s⟩

theorem awp_region {id : Nat} {l : List Oper} {st' : St} {tr : List Tr} (hn : dstsOk n l.toArray = true) (h : Run P l.toArray l st tr st') (hQ : Q .normal st') : awp P n (.region id l.toArray false) Q st := by
  intro w0 O V ι a w hs
  refine wp_region_list ?_
  refine h.wp (w0 := w0) (O := O) (V := V) (n := n) ?_ ?_ ι a w hs
  · intro o ho d hd
    have := List.all_eq_true.1 hn o (by simpa using ho)
    simpa [hd] using this
  · intro ι' a' w' hs'
    exact ⟨ι', st', hQ, hs'⟩

theorem awp_region_draw {id : Nat} {l : List Oper} {st' : St} {tr : List Tr} (hm : P.follows .mixedOrders = true) (hn : dstsOk n l.toArray = true) (h : Run P l.toArray l st tr st')
    (hd : drawOk l.toArray tr = true) (hQ : Q .normal st') : awp P n (.region id l.toArray true) Q st := by
  intro w0 O V ι a w hs
  refine wp_region_any hm ?_
  refine Run.wpAny (w0 := w0) (O := O) (V := V) (n := n) (by simpa using h) hd ?_ ?_ _ _ (by simp) ?_ ?_ ι a w.drew ?_
  · intro o ho d hd
    have := List.all_eq_true.1 hn o ho
    simpa [hd] using this
  · intro ι' a' w' hs'
    exact ⟨ι', st', hQ, hs'⟩
  · refine Nat.le_trans (List.length_filter_le _ _) (by simp)
  · intro j o ho hL
    exfalso
    have hj := (Array.getElem?_eq_some_iff.1 ho).1
    simp [Array.getD_eq_getD_getElem?, Array.getElem?_replicate] at hL
    split at hL <;> simp at hL
  · have hs' := hs.step (Step.drew hs.heap) (by simp)
    have e1 : envSel (dstAt l.toArray) (fun k => (trAt tr k).v) (lk st.env) (fun k => (Array.replicate l.toArray.size false).getD k false) l.toArray.size = (lk st.env) := by
      funext t
      rw [envSel_cut (i := 0) _ (Nat.zero_le _) fun k _ _ _ => ?_]
      · rfl
      · simp only [Array.getD_eq_getD_getElem?, Array.getElem?_replicate]
        split <;> rfl
    have e2 : HSel (fun k => (trAt tr k).cls) (fun k => (trAt tr k).H) st.H (fun k => (Array.replicate l.toArray.size false).getD k false) l.toArray.size = st.H := by
      rw [HSel_cut (i := 0) _ (Nat.zero_le _) fun k _ _ _ => ?_]
      · rfl
      · simp only [Array.getD_eq_getD_getElem?, Array.getElem?_replicate]
        split <;> rfl
    rw [e1, e2]
    exact hs'

theorem awp_skip (h : Q .normal st) : awp P n .skip Q st := fun w0 O V ι a w hs => wp_skip ⟨ι, st, h, hs⟩
theorem awp_exit {id : Nat} (h : Q (.exit id) st) : awp P n (.exit id) Q st := fun w0 O V ι a w hs => wp_exit ⟨ι, st, h, hs⟩
theorem awp_ret (h : Q .ret st) : awp P n .ret Q st := fun w0 O V ι a w hs => wp_ret ⟨ι, st, h, hs⟩

def thenQ (next : St → Prop) (Q : Exit → St → Prop) : Exit → St → Prop
  | .normal, s => next s
  | e, s => Q e s

theorem awp_seq {x y : Code} (h : awp P n x (thenQ (awp P n y Q) Q) st) : awp P n (.seq x y) Q st := by
  intro w0 O V ι a w hs
  refine wp_seq (wp_mono (h w0 O V ι a w hs) ?_)
  rintro e a' w' ⟨ι', st', hq, hs'⟩
  cases e <;> first | exact hq w0 O V ι' a' w' hs' | exact ⟨ι', st', hq, hs'⟩

def blockQ (id : Nat) (Q : Exit → St → Prop) : Exit → St → Prop
  | .exit id', s => if id' = id then Q .normal s else Q (.exit id') s
  | e, s => Q e s

theorem awp_block {id : Nat} {c : Code} (h : awp P n c (blockQ id Q) st) : awp P n (.block id c) Q st := by
  intro w0 O V ι a w hs
  refine wp_block (wp_mono (h w0 O V ι a w hs) ?_)
  rintro e a' w' ⟨ι', st', hq, hs'⟩
  cases e with
  | exit id' =>
    simp only [blockQ] at hq
    simp only [Exit.inBlock]
    split
    · rename_i e; rw [if_pos e] at hq; exact ⟨ι', st', hq, hs'⟩
    · rename_i e; rw [if_neg e] at hq; exact ⟨ι', st', hq, hs'⟩
  | _ => exact ⟨ι', st', hq, hs'⟩

theorem awp_cond {c : Operand} {x y : Code} {b : Bool} (hc : evalIn (lk st.env) c = some (.pv (.bool b))) (ht : b = true → awp P n x Q st) (hf : b = false → awp P n y Q st) : awp P n (.cond c x y) Q st := by
  intro w0 O V ι a w hs
  have hr : RepS ι w (Free V ι st.H w) (a.eval c) (.pv (.bool b)) := Sees.rep hs (Sees.plain (g := true) hc) rfl
  have hv : a.eval c = .bool b := hr.pv_inv.bool_inv
  exact wp_cond_split hv (fun e => ht e w0 O V ι a w hs) (fun e => hf e w0 O V ι a w hs)

/-- One state says no more than another one. -/
def Weak (st st' : St) : Prop := (∀ p, p ∈ st'.env → (lk st.env) p.1 = some p.2) ∧ (∀ p, p ∈ st'.H → st.H.lookup p.1 = some p.2)

theorem mem_of_lookup' {α : Type 1} {l : List (Nat × α)} {t : Nat} {s : α} (h : l.lookup t = some s) : (t, s) ∈ l := by
  induction l with
  | nil => simp at h
  | cons p r ih =>
    obtain ⟨u, x⟩ := p
    rw [List.lookup_cons] at h
    by_cases e : t = u
    · subst e; simp at h; subst h; exact List.mem_cons_self
    · rw [show (t == u) = false from beq_eq_false_iff_ne.2 e] at h
      exact List.mem_cons_of_mem _ (ih h)

theorem Free.of_sub {V : Nat → Prop} {ι : Nat → Value} {H H' : Heap} {w : World} (hH : ∀ id blk, H'.lookup id = some blk → H.lookup id = some blk) {b : Nat} (h : Free V ι H w b) : Free V ι H' w b :=
  ⟨h.1, h.2.1, fun ⟨id, blk, hl, hb⟩ => h.2.2 ⟨id, blk, hH id blk hl, hb⟩⟩

theorem BlkOk.mono {ι : Nat → Value} {w : World} {F F' : Nat → Prop} {v : Value} {blk : Blk} (h : BlkOk ι w F v blk) (hF : ∀ b, F b → F' b) : BlkOk ι w F' v blk := by
  cases blk with
  | box cs =>
    obtain ⟨b, xs, e, h1, h2, h3, h4⟩ := h
    exact ⟨b, xs, e, h1, h2, h3, fun k a b => (h4 k a b).move (nw := none) (fun _ _ => rfl) hF (fun _ _ => rfl) (by simp)⟩
  | arr e z α d f l =>
    obtain ⟨xs, h1, h2, h3⟩ := h
    exact ⟨xs, h1, h2.mono (fun _ _ => rfl) hF, h3⟩

theorem Sim.weak {w0 : World} {O V : Nat → Prop} {ι : Nat → Value} {st' : St} {a : Act} {w : World} (h : Weak st st') (hs : Sim w0 O V n ι (lk st.env) st.H a w) : Sim w0 O V n ι (lk st'.env) st'.H a w := {
  os := hs.os
  tape := hs.tape
  output := hs.output
  size := hs.size
  kept := hs.kept
  mine := fun b ⟨id, blk, hl, hb⟩ => hs.mine b ⟨id, blk, h.2 _ (mem_of_lookup' hl), hb⟩
  heap := ⟨fun id blk hl => (hs.heap.ok id blk (h.2 _ (mem_of_lookup' hl))).mono fun b hb => hb.of_sub fun id blk hl => h.2 _ (mem_of_lookup' hl),
    fun id id' blk blk' b h1 h2 => hs.heap.inj id id' blk blk' b (h.2 _ (mem_of_lookup' h1)) (h.2 _ (mem_of_lookup' h2)), fun b ⟨id, blk, hl, hb⟩ => hs.heap.vis b ⟨id, blk, h.2 _ (mem_of_lookup' hl), hb⟩⟩
  env := fun t s ht => (hs.env t s (h.1 _ (mem_of_lookup ht))).move (nw := none) (fun _ _ => rfl) (fun b hb => hb.of_sub fun id blk hl => h.2 _ (mem_of_lookup' hl)) (fun _ _ => rfl) (by simp)
  tmps := hs.tmps
  defers := hs.defers
  new := hs.new }

theorem awp_weak {c : Code} {st' : St} (hw : Weak st st') (h : awp P n c Q st') : awp P n c Q st :=
  fun w0 O V ι a w hs => h w0 O V ι a w (hs.weak hw)

/-- The least of a set of numbers. -/
theorem least_of {p : Nat → Prop} (h : ∃ m, p m) : ∃ m, p m ∧ ∀ k, p k → m ≤ k := by
  obtain ⟨m, hm⟩ := h
  induction m using Nat.strongRecOn with
  | _ m ih =>
    by_cases h' : ∃ k, k < m ∧ p k
    · obtain ⟨k, hk, hp⟩ := h'
      exact ih k hk hp
    · exact ⟨m, hm, fun k hp => Nat.le_of_not_lt fun hk => h' ⟨k, hk, hp⟩⟩

open Classical in
noncomputable def leastOf (p : Nat → Prop) : Nat := if h : ∃ m, p m then Classical.choose (least_of h) else 0

theorem leastOf_spec {p : Nat → Prop} (h : ∃ m, p m) : p (leastOf p) ∧ ∀ k, p k → leastOf p ≤ k := by
  unfold leastOf
  rw [dif_pos h]
  exact Classical.choose_spec (least_of h)

/-- A loop whose invariant bears an index. -/
theorem wp_loop_ix {c : Code} {σ : Type 1} {Q : Exit → Act → World → Prop} (I : σ → Act → World → Prop) (μ : σ → Nat) (s0 : σ) {a : Act} {w : World} (h0 : I s0 a w)
    (round : ∀ s a w, I s a w → c.wp P (Exit.then (fun a' w' => ∃ s', I s' a' w' ∧ μ s' < μ s) Q) a w) : (Code.loop c).wp P Q a w := by
  refine wp_loop (fun a w => ∃ s, I s a w) (fun a w => leastOf fun m => ∃ s, I s a w ∧ μ s = m) ⟨s0, h0⟩ ?_
  rintro a w ⟨s, hs⟩
  obtain ⟨⟨s1, hs1, hm⟩, _⟩ := leastOf_spec (p := fun m => ∃ s, I s a w ∧ μ s = m) ⟨_, s, hs, rfl⟩
  refine wp_mono (round s1 a w hs1) ?_
  intro e a' w' h
  cases e with
  | normal =>
    obtain ⟨s', h1, h2⟩ := h
    refine ⟨⟨s', h1⟩, ?_⟩
    have h3 := (leastOf_spec (p := fun m => ∃ s, I s a' w' ∧ μ s = m) ⟨_, s', h1, rfl⟩).2 _ ⟨s', h1, rfl⟩
    show leastOf (fun m => ∃ s, I s a' w' ∧ μ s = m) < leastOf (fun m => ∃ s, I s a w ∧ μ s = m)
    omega
  | _ => exact h

/-- Whatever stands in a slot fits. -/
theorem awp_fit {c : Code} {t : Nat} {p : PV} (ht : lk st.env t = some (.pv p)) (h : p.Fit → awp P n c Q st) : awp P n c Q st :=
  fun w0 O V ι a w hs => h (hs.env t _ ht).pv_inv.fit w0 O V ι a w hs

/-- Whatever a state says, another one says too (names of owned blocks may turn). -/
def Ent (st st' : St) : Prop := ∀ (w0 : World) (O V : Nat → Prop) (n : Nat) (ι : Nat → Value) (a : Act) (w : World), Sim w0 O V n ι (lk st.env) st.H a w → ∃ ι', Sim w0 O V n ι' (lk st'.env) st'.H a w

theorem Ent.refl (st : St) : Ent st st := fun _ _ _ _ ι _ _ h => ⟨ι, h⟩
theorem Ent.trans {s1 s2 s3 : St} (h : Ent s1 s2) (h' : Ent s2 s3) : Ent s1 s3 := fun w0 O V n ι a w hs => let ⟨ι', hs'⟩ := h w0 O V n ι a w hs; h' w0 O V n ι' a w hs'
theorem Ent.weak {s1 s2 : St} (h : Weak s1 s2) : Ent s1 s2 := fun _ _ _ _ ι _ _ hs => ⟨ι, hs.weak h⟩

theorem awp_ent {c : Code} {st' : St} (hw : Ent st st') (h : awp P n c Q st') : awp P n c Q st := by
  intro w0 O V ι a w hs
  obtain ⟨ι', hs'⟩ := hw w0 O V n ι a w hs
  exact h w0 O V ι' a w hs'

/-- A loop: at its head the state is 'S s', with 'pre s'; a round brings it to such a state with a lower measure, or out of the loop. -/
def loopQ {σ : Type} (pre : σ → Prop) (S : σ → St) (μ : σ → Nat) (m : Nat) (Q : Exit → St → Prop) : Exit → St → Prop
  | .normal, st => ∃ s, pre s ∧ μ s < m ∧ Ent st (S s)
  | e, st => Q e st

theorem awp_loop {c : Code} {σ : Type} (pre : σ → Prop) (S : σ → St) (μ : σ → Nat) (s0 : σ) (h0 : pre s0) (hw : Ent st (S s0))
    (round : ∀ s, pre s → awp P n c (loopQ pre S μ (μ s) Q) (S s)) : awp P n (.loop c) Q st := by
  intro w0 O V ι a w hs
  obtain ⟨ι, hs⟩ := hw w0 O V n ι a w hs
  refine wp_loop_ix (σ := ULift.{1} (σ × (Nat → Value))) (fun s a w => pre s.down.1 ∧ Sim w0 O V n s.down.2 (lk (S s.down.1).env) (S s.down.1).H a w) (fun s => μ s.down.1) ⟨(s0, ι)⟩ ⟨h0, hs⟩ ?_
  rintro ⟨s, ι⟩ a w ⟨hp, hs⟩
  refine wp_mono (round s hp w0 O V ι a w hs) ?_
  rintro e a' w' ⟨ι', st', hq, hs'⟩
  cases e with
  | normal =>
    obtain ⟨s', hp', hlt, hw'⟩ := hq
    obtain ⟨ι2, hs2⟩ := hw' w0 O V n ι' a' w' hs'
    exact ⟨⟨(s', ι2)⟩, ⟨hp', hs2⟩, hlt⟩
  | _ => exact ⟨ι', st', hq, hs'⟩
end rules

/-! ## Calls -/

/-- THE CONTRACT OF A FUNCTION ON PLAIN VALUES: called with values that stand for 'as' it returns one that stands for 'v', and of all that was there nothing turns. What it returns lies in what the arguments lay in, or is new. -/
def FC (P : Program) (K : FuncId) (vals : List PV) (v : PV) : Prop :=
  ∀ (w : World) (vs : List Value) (F : Nat → Prop), (∀ b, F b → b < w.heap.size) → RepL w F vs vals →
    Calls P K vs.toArray w fun e w' => ∃ rv, e = .returned rv ∧ Rep w' (fun b => F b ∨ (w.heap.size ≤ b ∧ b < w'.heap.size)) rv v ∧
      w'.os = w.os ∧ w'.tape = w.tape ∧ w'.output = w.output ∧ w.heap.size ≤ w'.heap.size ∧ ∀ b, b < w.heap.size → w'.heap[b]? = w.heap[b]?

def envOf : Nat → List PV → Env
  | _, [] => []
  | k, p :: r => (k, .pv p) :: envOf (k + 1) r

theorem envOf_lookup : ∀ (vals : List PV) (k t : Nat), (envOf k vals).lookup t = if k ≤ t then (vals[t - k]?).map SV.pv else none
  | [], k, t => by simp [envOf]
  | p :: r, k, t => by
    rw [envOf, List.lookup_cons]
    by_cases e : t = k
    · subst e; simp
    · rw [show (t == k) = false from beq_eq_false_iff_ne.2 e]
      simp only
      rw [envOf_lookup r (k + 1) t]
      by_cases h : k ≤ t
      · have h1 : k + 1 ≤ t := by omega
        have h2 : t - k = (t - (k + 1)) + 1 := by omega
        simp [h, h1, h2]
      · have h1 : ¬ k + 1 ≤ t := by omega
        simp [h, h1]

/-- All that may be seen, owned or not. -/
def Vis (V : Nat → Prop) (w : World) (b : Nat) : Prop := b < w.heap.size ∧ V b

theorem rep_of_arr {w : World} {F F' : Nat → Prop} {ι : Nat → Value} {v : Value} {e z : Nat} {α : Type} {d : α} {f : α → List PV} {l : List α} (h : BlkOk ι w F v (.arr e z α d f l)) (hF : ∀ b, F b → F' b)
    (hv : ∀ b, v.ownBlock = some b → F' b) : Rep w F' v (.seq α d f l) := by
  obtain ⟨xs, ho, hr, hm⟩ := h
  have ho2 := ho.2
  rcases ho2 with ⟨rfl, hn⟩ | ⟨b, cap, cur, rfl, _, hg, hnc, _⟩
  · obtain rfl : l = [] := List.eq_nil_of_length_eq_zero hn
    exact .seq0 _ _ _ _ _ fun _ => rfl
  · refine .seq α d f l b 0 cap xs (hv b rfl) hnc hm hr.1 (fun k h1 => ?_) fun k h1 h2 => (hr.2 k h1 h2).mono (fun _ _ => rfl) hF
    have := ho.cells (g := b) rfl k xs[k] (List.getElem?_eq_getElem h1)
    rw [Addr.add_lit] at this
    exact this

theorem blkOf_own {w : World} {v : Value} {e z n : Nat} {xs : List Value} (h : w.ownsRow 0 e z v n xs) : blkOf v = v.ownBlock := by
  rcases h.2 with ⟨rfl, _⟩ | ⟨g, cap, cur, rfl, _⟩ <;> rfl

/-- What a slot's value reads as, owned or not. -/
def viewS (H : Heap) : SV → Option PV
  | .pv p => some p
  | .own id => match List.lookup id H with
    | some (.arr _ _ α d f l) => some (.seq α d f l)
    | _ => none
  | _ => none

theorem viewS_rep {V : Nat → Prop} {ι : Nat → Value} {H : Heap} {w : World} {v : Value} {s : SV} {p : PV} (hk : HeapOk V ι H w) (hr : RepS ι w (Free V ι H w) v s) (h : viewS H s = some p) : Rep w (Vis V w) v p := by
  have hF : ∀ b, Free V ι H w b → Vis V w b := fun b hb => ⟨hb.1, hb.2.1⟩
  cases s with
  | pv q =>
    simp only [viewS, Option.some.injEq] at h
    subst h
    exact hr.pv_inv.mono (fun _ _ => rfl) hF
  | own id =>
    simp only [viewS] at h
    split at h
    · rename_i e z α d f l hl
      simp only [Option.some.injEq] at h
      subst h
      cases hr
      have h0 := hk.ok id _ hl
      refine rep_of_arr h0 hF fun b hb => ?_
      obtain ⟨xs, ho, _⟩ := h0
      have ho' : Owned ι H b := ⟨id, _, hl, by rw [blkOf_own ho]; exact hb⟩
      exact ⟨hk.lt ho', hk.vis b ho'⟩
    · simp at h
  | _ => simp [viewS] at h

/-- The cells of an owned box, as they read. -/
def viewAll (H : Heap) : List SV → Option (List PV)
  | [] => some []
  | s :: r => match viewS H s, viewAll H r with | some p, some q => some (p :: q) | _, _ => none

theorem viewAll_spec {V : Nat → Prop} {ι : Nat → Value} {H : Heap} {w : World} (hk : HeapOk V ι H w) : ∀ {cs : List SV} {ps : List PV} {xs : List Value}, viewAll H cs = some ps → xs.length = cs.length →
    (∀ (k : Nat) (h1 : k < xs.length) (h2 : k < cs.length), RepS ι w (Free V ι H w) xs[k] cs[k]) → RepL w (Vis V w) xs ps
  | [], ps, xs, h, hl, hr => by
    simp only [viewAll, Option.some.injEq] at h
    subst h
    have : xs = [] := List.eq_nil_of_length_eq_zero (by simpa using hl)
    subst this
    exact .nil
  | s :: cs, ps, xs, h, hl, hr => by
    simp only [viewAll] at h
    split at h
    · rename_i p q hp hq
      simp only [Option.some.injEq] at h
      subst h
      cases xs with
      | nil => simp at hl
      | cons x xs =>
        exact .cons (viewS_rep hk (hr 0 (by simp) (by simp)) hp) (viewAll_spec hk hq (by simpa using hl) fun k h1 h2 => hr (k + 1) (by simpa using h1) (by simpa using h2))
    · simp at h

/-- The cells of an owned box, all plain. -/
def plainAll : List SV → Option (List PV)
  | [] => some []
  | .pv p :: r => (plainAll r).map (p :: ·)
  | _ => none

/-- What a result variable holds, as one plain value. -/
def resV (env : Nat → Option SV) (H : Heap) : ResultVar → Option PV
  | .tmp t => match env t with | some s => viewS H s | _ => none
  | .cell c _ => match env c with
    | some (.ref id 0) => (match List.lookup id H with | some (.box cs) => (viewAll H cs).map .agg | _ => none)
    | some (.pv (.rd cs)) => some (.agg cs)
    | _ => none

def resL (env : Nat → Option SV) (H : Heap) : List ResultVar → Option (List PV)
  | [] => some []
  | r :: l => match resV env H r, resL env H l with | some p, some q => some (p :: q) | _, _ => none

def packed : List PV → PV
  | [p] => p
  | l => .tup l

/-- The struct results are read whole. -/
def resTypes (P : Program) (env : Nat → Option SV) (H : Heap) (rs : List ResultVar) : Prop :=
  ∀ c t, ResultVar.cell c t ∈ rs → ∀ cs, resV env H (.cell c t) = some (.agg cs) → (∀ w, (isAgg t).run P w = .ok true w) ∧ ∀ w, (sizeOf t).run P w = .ok cs.length w

theorem plainAll_spec {ι : Nat → Value} {w : World} {F : Nat → Prop} : ∀ {cs : List SV} {ps : List PV} {xs : List Value}, plainAll cs = some ps → xs.length = cs.length →
    (∀ (k : Nat) (h1 : k < xs.length) (h2 : k < cs.length), RepS ι w F xs[k] cs[k]) → RepL w F xs ps
  | [], ps, xs, h, hl, hr => by
    simp only [plainAll, Option.some.injEq] at h
    subst h
    have : xs = [] := List.eq_nil_of_length_eq_zero (by simpa using hl)
    subst this
    exact .nil
  | s :: cs, ps, xs, h, hl, hr => by
    cases s with
    | pv p =>
      simp only [plainAll, Option.map_eq_some_iff] at h
      obtain ⟨q, hq, rfl⟩ := h
      cases xs with
      | nil => simp at hl
      | cons x xs =>
        have h0 := hr 0 (by simp) (by simp)
        cases h0 with
        | pv _ _ h0 =>
          exact .cons h0 (plainAll_spec hq (by simpa using hl) fun k h1 h2 => hr (k + 1) (by simpa using h1) (by simpa using h2))
    | _ => simp [plainAll] at h

theorem run_loadVar_agg {P : Program} {t : TypeId} {w : World} {b : Nat} {xs : List Value} (ha : ∀ w, (isAgg t).run P w = .ok true w) (hz : ∀ w, (sizeOf t).run P w = .ok xs.length w) (off : Nat)
    (hc : ∀ (k : Nat) (h1 : k < xs.length), w.cell? ⟨b, off + k, none⟩ = some xs[k]) : (loadVar t ⟨b, off, none⟩).run P w = .ok (.agg xs.toArray) w := by
  have h := run_loadCells_list (P := P) (w := w) ⟨b, off, none⟩ xs fun j v hj => by
    obtain ⟨h1, h2⟩ := List.getElem?_eq_some_iff.1 hj
    rw [Addr.add_lit, hc j h1, h2]
  simp [loadVar, ha, hz, h]

def resOne (tmps : Array Value) : ResultVar → Sem Value
  | .tmp t => pure (tmps.getD t undef)
  | .cell c t => do loadVar t (← asAddr (tmps.getD c undef))

theorem RepS.ref_inv {ι : Nat → Value} {w : World} {F : Nat → Prop} {v : Value} {id off : Nat} (h : RepS ι w F v (.ref id off)) : ∃ b, ι id = .pointer (some ⟨b, 0, none⟩) ∧ v = .pointer (some ⟨b, off, none⟩) := by
  cases h with | ref _ _ b h => exact ⟨b, h, rfl⟩
theorem Rep.rd_inv {w : World} {F : Nat → Prop} {v : Value} {cs : List PV} (h : Rep w F v (.rd cs)) : ∃ (b off : Nat) (xs : List Value), v = .pointer (some ⟨b, off, none⟩) ∧ F b ∧ (∀ (k : Nat) (h1 : k < xs.length), w.cell? ⟨b, off + k, none⟩ = some xs[k]) ∧ RepL w F xs cs := by
  cases h with
  | rd _ b off xs hF hl hc hr => exact ⟨b, off, xs, rfl, hF, hc, hl, hr⟩

theorem resOne_run {P : Program} {w0 : World} {O V : Nat → Prop} {n : Nat} {ι : Nat → Value} {env : Nat → Option SV} {H : Heap} {a : Act} {w : World} (hs : Sim w0 O V n ι env H a w)
    {rs : List ResultVar} {r : ResultVar} {p : PV} (ht : resTypes P env H rs) (hm : r ∈ rs) (hp : resV env H r = some p) : ∃ x, (resOne a.tmps r).run P w = .ok x w ∧ Rep w (Vis V w) x p := by
  cases r with
  | cell c t =>
    have ht0 := ht c t hm
    simp only [resV] at hp
    split at hp
    · rename_i id he
      split at hp
      · rename_i cs hl
        obtain ⟨qs, hqs, rfl⟩ := Option.map_eq_some_iff.1 hp
        have hty := ht0 qs (by simp only [resV, he, hl, hqs, Option.map_some])
        obtain ⟨b, hi, hv⟩ := (hs.env c _ he).ref_inv
        obtain ⟨b', ys, e, hv', hh, hlen, hrr⟩ := hs.heap.ok id _ hl
        have hys := viewAll_spec hs.heap hqs hlen hrr
        rw [hi] at hv'
        simp only [Value.pointer.injEq, Option.some.injEq, Addr.mk.injEq, and_true] at hv'
        subst hv'
        refine ⟨.agg ys.toArray, ?_, .agg ys qs hys.1 hys.2⟩
        have hload := run_loadVar_agg (P := P) (t := t) (w := w) (b := b) (xs := ys) hty.1 (by rw [hys.1]; exact hty.2) 0 fun k h1 => by
          rw [Nat.zero_add, cell_of_row w b k ys.toArray e (0, 0) hh]
          simp [h1]
        simp only [resOne, hv]
        simp [asAddr, hload]
      · simp at hp
    · rename_i cs he
      simp only [Option.some.injEq] at hp
      subst hp
      have hty := ht0 cs (by simp only [resV, he])
      obtain ⟨b, off, ys, hv, hF, hc, hrr⟩ := (hs.env c _ he).pv_inv.rd_inv
      have hrr' := hrr.mono (F' := Vis V w) (fun _ _ => rfl) fun b hb => ⟨hb.1, hb.2.1⟩
      refine ⟨.agg ys.toArray, ?_, .agg ys cs hrr'.1 hrr'.2⟩
      have hload := run_loadVar_agg (P := P) (t := t) (w := w) (b := b) (xs := ys) hty.1 (by rw [hrr.1]; exact hty.2) off hc
      simp only [resOne, hv]
      simp [asAddr, hload]
    · simp at hp
  | tmp t =>
    simp only [resV] at hp
    split at hp
    · rename_i p' he
      exact ⟨_, by simp [resOne], viewS_rep hs.heap (hs.env t _ he) hp⟩
    · simp at hp

theorem resL_run {P : Program} {w0 : World} {O V : Nat → Prop} {n : Nat} {ι : Nat → Value} {env : Nat → Option SV} {H : Heap} {a : Act} {w : World} (hs : Sim w0 O V n ι env H a w) :
    ∀ (rs : List ResultVar) (ps : List PV), resTypes P env H rs → resL env H rs = some ps →
      ∃ xs : List Value, (rs.mapM (resOne a.tmps)).run P w = .ok xs w ∧ RepL w (Vis V w) xs ps
  | [], ps, _, h => by
    simp only [resL, Option.some.injEq] at h
    subst h
    exact ⟨[], by simp, .nil⟩
  | r :: rs, ps, ht, h => by
    simp only [resL] at h
    split at h
    · rename_i p q hp hq
      simp only [Option.some.injEq] at h
      subst h
      obtain ⟨xs, h1, h2⟩ := resL_run hs rs q (fun c t hm cs hcs => ht c t (List.mem_cons_of_mem _ hm) cs hcs) hq
      obtain ⟨x, h3, h4⟩ := resOne_run hs ht List.mem_cons_self hp
      exact ⟨x :: xs, by simp only [List.mapM_cons, Sem.run_bind, Sem.run_pure, Result.andThen_ok, h1, h3], .cons h4 h2⟩
    · simp at h

theorem results_run {P : Program} {fn : Func} {tmps : Array Value} {w : World} {xs : List Value} (h : (fn.results.toList.mapM (resOne tmps)).run P w = .ok xs w) :
    (results fn tmps).run P w = .ok (if h : xs.length = 1 then xs[0] else .tuple xs.toArray) w := by
  have e : results fn tmps = (do
      let vs ← fn.results.mapM (resOne tmps)
      pure (if h : vs.size = 1 then vs[0] else .tuple vs)) := rfl
  rw [e]
  rw [← Array.toList_mapM] at h
  simp only [Sem.run_map] at h
  simp only [Sem.run_bind]
  generalize (Array.mapM (resOne tmps) fn.results : Sem (Array Value)).run P w = r at h ⊢
  cases r with
  | halt _ _ => simp at h
  | ok vs w' =>
    simp only [Result.andThen_ok, Result.ok.injEq] at h
    obtain ⟨h1, rfl⟩ := h
    subst h1
    simp

/-- At the function's end: what its result variables hold, once owned blocks have been given up. -/
def retQ (P : Program) (fn : Func) (v : PV) : Exit → St → Prop
  | .normal, st | .ret, st => ∃ st' ps, Ent st st' ∧ resTypes P (lk st'.env) st'.H fn.results.toList ∧ resL (lk st'.env) st'.H fn.results.toList = some ps ∧ packed ps = v
  | _, _ => False

theorem Rep.packed {w : World} {F : Nat → Prop} {xs : List Value} {ps : List PV} (h : RepL w F xs ps) : Rep w F (if h : xs.length = 1 then xs[0] else .tuple xs.toArray) (packed ps) := by
  by_cases hl : xs.length = 1
  · rw [dif_pos hl]
    have hp : ps.length = 1 := h.1 ▸ hl
    match ps, hp with
    | [p], _ => exact h.2 0 (by omega) (by simp)
  · rw [dif_neg hl]
    have hp : ¬ ps.length = 1 := h.1 ▸ hl
    have e : Abs.packed ps = .tup ps := by
      match ps, hp with
      | [], _ => rfl
      | [p], h => simp at h
      | _ :: _ :: _, _ => rfl
    rw [e]
    exact .tup xs ps h.1 h.2

theorem sim_begin {w : World} {vs : List Value} {vals : List PV} {F : Nat → Prop} {n : Nat} (hF : ∀ b, F b → b < w.heap.size) (hr : RepL w F vs vals) (hn : vals.length ≤ n) : Sim w (fun _ => False) (fun b => F b ∨ w.heap.size ≤ b) n (fun _ => undef) (lk (envOf 0 vals)) [] { tmps := vs.toArray ++ Array.replicate (n - vs.toArray.size) undef, defers := [] } w := by
  have hlen : vs.length = vals.length := hr.1
  refine ⟨rfl, rfl, rfl, Nat.le_refl _, fun _ _ _ => rfl, fun b ⟨id, blk, hl, _⟩ => by simp at hl, ⟨fun id blk hl => by simp at hl, fun id id' blk blk' b hl => by simp at hl, fun b ⟨id, blk, hl, _⟩ => by simp at hl⟩, ?_, ?_, rfl, fun b hb => .inr hb⟩
  · intro t s hts
    simp only [lk] at hts
    rw [envOf_lookup] at hts
    simp only [Nat.zero_le, ↓reduceIte, Nat.sub_zero, Option.map_eq_some_iff] at hts
    obtain ⟨p, hp, rfl⟩ := hts
    obtain ⟨h2, h3⟩ := List.getElem?_eq_some_iff.1 hp
    have h1 : t < vs.length := by omega
    have e : (vs.toArray ++ Array.replicate (n - vs.toArray.size) undef).getD t undef = vs[t] := by
      simp [Array.getD_eq_getD_getElem?, Array.getElem?_append, h1]
    rw [e]
    refine .pv _ _ ?_
    rw [← h3]
    exact (hr.2 t h1 h2).mono (fun _ _ => rfl) fun b hb => ⟨hF b hb, .inl hb, fun ⟨id, blk, hl, _⟩ => by simp at hl⟩
  · simp; omega

/-- A FUNCTION's CONTRACT OUT OF ITS BODY. -/
theorem FC.intro {P : Program} {K : FuncId} {fn : Func} {c : Code} {vals : List PV} {v : PV} (hf : P.funcs[K]? = some fn) (hb : fn.body = some c) (hn : vals.length ≤ fn.ntmps)
    (h : (∀ p, p ∈ vals → p.Fit) → awp P fn.ntmps c (retQ P fn v) ⟨envOf 0 vals, []⟩) : FC P K vals v := by
  intro w vs F hF hr
  have h := h fun p hp => by
    obtain ⟨k, hk, e⟩ := List.getElem_of_mem hp
    rw [← e]; exact (hr.2 k (hr.1 ▸ hk) hk).fit
  refine calls_of_wp hf hb ?_
  have hsim := sim_begin (n := fn.ntmps) hF hr hn
  refine wp_mono (h w _ _ _ _ w hsim) ?_
  rintro e a' w' ⟨ι', st', hq, hs'⟩
  have key : (∃ st2 ps, Ent st' st2 ∧ resTypes P (lk st2.env) st2.H fn.results.toList ∧ resL (lk st2.env) st2.H fn.results.toList = some ps ∧ packed ps = v) →
      a'.defers = [] ∧ ∃ rv, (results fn a'.tmps).run P w' = .ok rv w' ∧ (∃ rv', Ending.returned rv = .returned rv' ∧ Rep w' (fun b => F b ∨ (w.heap.size ≤ b ∧ b < w'.heap.size)) rv' v ∧
        w'.os = w.os ∧ w'.tape = w.tape ∧ w'.output = w.output ∧ w.heap.size ≤ w'.heap.size ∧ ∀ b, b < w.heap.size → w'.heap[b]? = w.heap[b]?) := by
    rintro ⟨st2, ps, hent, hty, hres, rfl⟩
    obtain ⟨ι2, hs2⟩ := hent _ _ _ _ _ _ _ hs'
    obtain ⟨xs, hx, hrep⟩ := resL_run hs2 _ _ hty hres
    refine ⟨hs2.defers, _, results_run hx, _, rfl, ?_, hs2.os, hs2.tape, hs2.output, hs2.size, fun b hb => hs2.kept b hb (by simp)⟩
    refine (Rep.packed hrep).mono (fun _ _ => rfl) ?_
    rintro b ⟨h1, h2 | h2⟩
    · exact .inl h2
    · exact .inr ⟨h2, h1⟩
  cases e with
  | normal => exact key hq
  | ret => exact key hq
  | exit id => exact hq.elim
  | goto l => exact hq.elim
  | panic ch => exact hq.elim
  | outgrown => exact hq.elim

end Go.Abs
