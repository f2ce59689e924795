/- strings.Builder: copyCheck and String, on plain values. Conditions: none. -/
import Derived.Test.YtolmcapbpliaiaaDoorSB
import Derived.Test.YtolmcapbpliaiaaDoorAbsW
namespace Go.Proofs
open Go.Shelf Go.RowKit
def Tryd.lays169_ren : Go.Shelf.Ren := ⟨fun | 169 => 18 | n => n, fun | 70 => 40 | 9 => 9 | 0 => 0 | 72 => 43 | 37 => 41 | 127 => 74 | 3 => 3 | 5 => 5 | n => n, fun | n => n⟩
theorem Tryd.lays169 : Go.Proofs.Lays.n169 Tryd.prog Tryd.lays169_ren := {
  mixed := by kernel_rfl
  f169 := Tryd.func18.trans (congrArg some (by kernel_rfl))
  t0 := Tryd.underlying0
  a0 := Tryd.isAgg0
  z0 := Tryd.sizeOf0
  v0 := Tryd.zeroValue0
  t3 := Tryd.underlying3
  a3 := Tryd.isAgg3
  z3 := Tryd.sizeOf3
  v3 := Tryd.zeroValue3
  t9 := Tryd.underlying9
  a9 := Tryd.isAgg9
  z9 := Tryd.sizeOf9
  v9 := Tryd.zeroValue9
  t37 := Tryd.underlying41
  a37 := Tryd.isAgg41
  z37 := Tryd.sizeOf41
  v37 := Tryd.zeroValue41
  t70 := Tryd.underlying40
  a70 := Tryd.isAgg40
  z70 := Tryd.sizeOf40
  v70 := Tryd.zeroValue40
  t72 := Tryd.underlying43
  a72 := Tryd.isAgg43
  z72 := Tryd.sizeOf43
  v72 := Tryd.zeroValue43
  t127 := Tryd.underlying74
  a127 := Tryd.isAgg74
  z127 := Tryd.sizeOf74
  v127 := Tryd.zeroValue74 }
theorem Tryd_X169 : Builder.Extra Tryd.prog Tryd.lays169_ren := {
  sizeBuilder := by kernel_rfl
  liesBuilder := by kernel_rfl
  t5 := by kernel_rfl
  a5 := by intro w; kernel_rfl
  z5 := by intro w; kernel_rfl
  v5 := by intro w; kernel_rfl
  infoByte := by kernel_rfl
  cellsByte := by kernel_rfl
  sizeByte := by kernel_rfl
  neB5 := by decide }
theorem sbRen : Tryd.lays169_ren.t 72 = 43 ∧ Tryd.lays169_ren.t 5 = 5 ∧ Tryd.lays169_ren.f 169 = 18 := ⟨rfl, rfl, rfl⟩
set_option maxHeartbeats 1000000 in
set_option maxRecDepth 100000 in
theorem sb_used (b : Nat) (w : World) (h0 : w.cell? ⟨b, 0, none⟩ = some (.pointer (some ⟨b, 0, none⟩))) :
    Calls Tryd.prog 35 #[.pointer (some ⟨b, 0, none⟩)] w fun e w' => e = .returned (.tuple #[]) ∧ w' = w := by
  obtain ⟨j, hj, _⟩ := Option.map_eq_some_iff.1 Tryd_X169.sizeBuilder
  have hj : Tryd.prog.info? 43 = some j := hj
  go_enter Tryd.func35, Tryd.ntmps35
  go_wp2
  rw [Lib.run_neq_ptr_same w _ Tryd.underlying40 hj]
  go_wp2
  go_end0
  exact ⟨rfl, rfl⟩
set_option maxHeartbeats 1000000 in
set_option maxRecDepth 100000 in
theorem sb_fresh (b : Nat) (w : World) (h0 : w.cell? ⟨b, 0, none⟩ = some (.pointer none)) (hsh : w.shape? b = some (43, 2)) (hfz : w.frozen? ⟨b, 0, none⟩ = false) :
    Calls Tryd.prog 35 #[.pointer (some ⟨b, 0, none⟩)] w fun e w' => e = .returned (.tuple #[]) ∧ w' = w.setCell ⟨b, 0, none⟩ (.pointer (some ⟨b, 0, none⟩)) := by
  obtain ⟨j, hj, hjs⟩ := Option.map_eq_some_iff.1 Tryd_X169.sizeBuilder
  have hj : Tryd.prog.info? 43 = some j := hj
  go_enter Tryd.func35, Tryd.ntmps35
  go_wp2
  rw [Lib.run_to_unsafe w ⟨b, 0, none⟩ Tryd.underlying40 Tryd.underlying89 hj (by rw [hjs]; decide) hsh (Nat.zero_lt_succ 1)]
  simp only [Result.andThen]
  rw [Oper.upon_value]
  go_wp2
  rw [run_callFunc_extern Tryd.func47 (by kernel_rfl) (by kernel_rfl) (by kernel_rfl) (e := Extern.AbiNoEscape.same) (by kernel_rfl)]
  rw [Lib.run_noEscape]
  simp only [Result.andThen]
  rw [Oper.upon_value]
  go_wp2
  rw [Lib.run_from_unsafe w ⟨b, 0, none⟩ Tryd.underlying89 Tryd.underlying40 hj hsh Tryd_X169.liesBuilder]
  simp only [Result.andThen]
  rw [Oper.upon_value]
  go_wp2
  go_end0
  exact ⟨rfl, rfl⟩
end Go.Proofs
namespace Go.Proofs.YtolmcapbpliaiaaDoor
open Go.Abs Go.RowKit Go.Proofs
/-- A builder (40) and its bytes (41). -/
abbrev sbH (l : List UInt8) : Heap := [(40, .tbox 43 [.nilOr 40, .own 41]), (41, .arr 5 1 UInt8 0 byteC l)]
theorem two_cells {ι : Nat → Value} {w : World} {F : Nat → Prop} {xs : List Value} {s t : SV} (hl : xs.length = [s, t].length) (h : ∀ (k : Nat) (h1 : k < xs.length) (h2 : k < [s, t].length), RepS ι w F xs[k] [s, t][k]) : ∃ p q, xs = [p, q] ∧ RepS ι w F p s ∧ RepS ι w F q t := by
  match xs, hl with
  | [p, q], _ => exact ⟨p, q, rfl, h 0 (by simp) (by simp), h 1 (by simp) (by simp)⟩
theorem copyCheck_fch (l : List UInt8) : FCH Tryd.prog 35 [.ref 40 0] (sbH l) (sbH l) (.pv (.tup [])) none := by
  refine FCH.ofStep fun V ι w vs hV hk hl hr => ?_
  match vs, hl with
  | [x], _ =>
    obtain ⟨b, hb1, hb2⟩ := (hr 0 (by simp) (by simp)).ref_inv
    simp only [List.getElem_cons_zero] at hb2
    subst hb2
    have hl40 : List.lookup 40 (sbH l) = some (.tbox 43 [.nilOr 40, .own 41]) := rfl
    obtain ⟨b', xs, ⟨e, he⟩, hv, hh, hlen, hrep⟩ := hk.ok 40 _ hl40
    subst he
    rw [hb1] at hv
    simp only [Value.pointer.injEq, Option.some.injEq, Addr.mk.injEq, and_true] at hv
    subst hv
    obtain ⟨p, q, rfl, hp, hq⟩ := two_cells hlen hrep
    have ret : ∀ {F : Nat → Prop} {u : World}, RepS ι u F (.tuple #[]) (.pv (.tup [])) := fun {F u} => .pv _ _ (.tup [] [] rfl fun k h1 => absurd h1 (by simp))
    have hcell : w.cell? ⟨b, 0, none⟩ = some p := by rw [cell_of_row w b 0 _ _ (0, 0) hh]; rfl
    have hpp : p = .pointer none ∨ p = ι 40 := by cases hp with | nilOr _ _ h => exact h
    rcases hpp with rfl | rfl
    · refine Calls.mono (sb_fresh b w hcell (by simp [World.shape?, hh]) (by simp [World.frozen?, hh])) ?_
      rintro ex w' ⟨rfl, rfl⟩
      refine ⟨ι, _, rfl, ret, ?_⟩
      have hg := grownBy_setCell w b 0 (.pointer (some ⟨b, 0, none⟩))
      have hst : Step V ι (sbH l) w none ι ((40, .tbox 43 [.nilOr 40, .own 41]) :: sbH l) (w.setCell ⟨b, 0, none⟩ (.pointer (some ⟨b, 0, none⟩))) := by
        refine Step.upd hV hk hl40 (by rw [hb1]; exact hg) ?_
        refine ⟨b, [.pointer none, q].set 0 (.pointer (some ⟨b, 0, none⟩)), ⟨43, rfl⟩, hb1, heap_setCell_at w b 0 [.pointer none, q] 43 _ hh, rfl, fun k h2 h3 => ?_⟩
        match k, h3 with
        | 0, _ => exact .nilOr _ _ (.inr hb1.symm)
        | 1, _ => cases hq; exact .own _
      refine hst.sub fun id blk h => ?_
      rw [List.lookup_cons]
      by_cases e : id = 40
      · subst e; simp only [beq_self_eq_true]; rw [← h]; rfl
      · rw [beq_eq_false_iff_ne.2 e]; exact h
    · refine Calls.mono (sb_used b w (by rw [hcell, hb1])) ?_
      rintro ex w' ⟨rfl, rfl⟩
      exact ⟨ι, _, rfl, ret, Step.refl hk⟩
theorem flat_bytes : ∀ l : List UInt8, l.flatMap byteC = l.map fun b => PV.int .u8 (b.toNat : Int)
  | [] => rfl
  | b :: l => by rw [List.flatMap_cons, List.map_cons, flat_bytes l]; rfl
/-- A builder whose text has been taken. -/
abbrev sbE : Heap := [(40, .tbox 43 [.nilOr 40, .pv .any]), (41, .arr 5 1 UInt8 0 byteC [])]
theorem sbE_lookup {id : Nat} {blk : Blk} (h : List.lookup id sbE = some blk) : (id = 40 ∧ blk = .tbox 43 [.nilOr 40, .pv .any]) ∨ (id = 41 ∧ blk = .arr 5 1 UInt8 0 byteC []) := by
  by_cases e : id = 40
  · subst e; left; exact ⟨rfl, by simpa [sbE, List.lookup_cons] using h.symm⟩
  · by_cases e2 : id = 41
    · subst e2; right; exact ⟨rfl, by simpa [sbE, List.lookup_cons] using h.symm⟩
    · exfalso
      simp only [sbE, List.lookup_cons, beq_eq_false_iff_ne.2 e, beq_eq_false_iff_ne.2 e2, List.lookup_nil] at h
      exact absurd h (by simp)
theorem String_fch (l : List UInt8) : FCH Tryd.prog 18 [.ref 40 0] (sbH l) sbE (.pv (.str ⟨l.toArray⟩)) (some 41) := by
  refine FCH.ofStep fun V ι w vs hV hk hl hr => ?_
  match vs, hl with
  | [x], _ =>
    obtain ⟨b, hb1, hb2⟩ := (hr 0 (by simp) (by simp)).ref_inv
    simp only [List.getElem_cons_zero] at hb2
    subst hb2
    have hl40 : List.lookup 40 (sbH l) = some (.tbox 43 [.nilOr 40, .own 41]) := rfl
    have hl41 : List.lookup 41 (sbH l) = some (.arr 5 1 UInt8 0 byteC l) := rfl
    obtain ⟨b', xs, ⟨e, he⟩, hv, hh, hlen, hrep⟩ := hk.ok 40 _ hl40
    subst he
    rw [hb1] at hv
    simp only [Value.pointer.injEq, Option.some.injEq, Addr.mk.injEq, and_true] at hv
    subst hv
    obtain ⟨p, q, rfl, hp, hq⟩ := two_cells hlen hrep
    obtain ⟨ys, ho, hys, hm⟩ := hk.ok 41 _ hl41
    have hqe : q = ι 41 := by cases hq; rfl
    subst hqe
    have key : ∀ {w' : World}, w.grownBy w' (blkOf (ι 41)) → ∃ (ι' : Nat → Value) (rv : Value), Ending.returned (.string ⟨l.toArray⟩) = .returned rv ∧ RepS ι' w' (Free V ι' sbE w') rv (.pv (.str ⟨l.toArray⟩)) ∧ Step V ι (sbH l) w (some 41) ι' sbE w' := fun hg =>
      ⟨rename ι 41 (.slice none 0 0), _, rfl, .pv _ _ (.str _ (by show l.toArray.size ≤ _; simpa using hm)), by
        refine Step.gen hV hk (blkOf (ι 41)) hg (fun k hk' => ⟨41, _, hl41, hk'⟩) (fun id hid => by unfold rename; rw [if_neg fun e => hid (by rw [e])]) ?_ ?_ ?_
        · rintro c ⟨id, blk, h1, h2⟩
          rcases sbE_lookup h1 with ⟨rfl, rfl⟩ | ⟨rfl, rfl⟩
          · exact .inr ⟨40, _, hl40, by simpa [rename] using h2⟩
          · simp [rename, blkOf] at h2
        · intro id blk h1
          right
          rcases sbE_lookup h1 with ⟨rfl, rfl⟩ | ⟨rfl, rfl⟩
          · refine ⟨b, [p, ι 41], ⟨43, rfl⟩, by simp [rename, hb1], ?_, rfl, fun k h2 h3 => ?_⟩
            · have hlt : b < w.heap.size := (Array.getElem?_eq_some_iff.1 hh).1
              refine (hg.block b hlt fun e => ?_).trans hh
              have := hk.inj 40 41 _ _ b hl40 hl41 (by rw [hb1]; rfl) e.symm
              exact absurd this (by decide)
            · match k, h3 with
              | 0, _ =>
                have hpp : p = .pointer none ∨ p = ι 40 := by cases hp with | nilOr _ _ h => exact h
                exact .nilOr _ _ (by simpa [rename] using hpp)
              | 1, _ => exact .pv _ _ (.any _)
          · exact ⟨[], World.ownsRow_nil _ 0 5 1, .nil, by simp⟩
        · intro id id' blk blk' c h1 h2 h3 h4
          rcases sbE_lookup h1 with ⟨rfl, rfl⟩ | ⟨rfl, rfl⟩
          · rcases sbE_lookup h2 with ⟨rfl, rfl⟩ | ⟨rfl, rfl⟩
            · rfl
            · simp [rename, blkOf] at h4
          · simp [rename, blkOf] at h3⟩
    have key0 : ∀ {w' : World}, l = [] → ∀ e : Ending, (e = .returned (.string ⟨#[]⟩) ∧ w.grownBy w' none) → ∃ (ι' : Nat → Value) (rv : Value), e = .returned rv ∧ RepS ι' w' (Free V ι' sbE w') rv (.pv (.str ⟨l.toArray⟩)) ∧ Step V ι (sbH l) w (some 41) ι' sbE w' := by
      rintro w' rfl e ⟨rfl, hg⟩
      exact key ⟨hg.os, hg.tape, hg.output, hg.size, fun k hk _ => hg.block k hk (by simp)⟩
    rcases ho.2 with ⟨hv, h0⟩ | ⟨g, cap, cur, hv, hbg, hg, hnc, hcm, hcs, htake⟩
    · rw [hv] at hh
      exact Calls.mono (sb_nil Tryd.lays169 Tryd_X169 b p w hh) fun e w' h => key0 (List.eq_nil_of_length_eq_zero h0) e h
    · by_cases h0 : l = []
      · subst h0
        by_cases hc0 : cap = 0
        · subst hc0
          rw [hv] at hh
          exact Calls.mono (sb_noroom Tryd.lays169 Tryd_X169 b g p w cur hh hg) fun e w' h => key0 rfl e h
        · rw [hv] at hh
          exact Calls.mono (sb_room Tryd.lays169 Tryd_X169 b g cap p w hc0 hh) fun e w' h => key0 rfl e h
      · have hbk : blkOf (ι 41) = some g := by rw [hv]; rfl
        have hcell : ∀ (j : Nat) (x : UInt8), l[j]? = some x → w.cell? ⟨g, j, none⟩ = some (.int .u8 x.toNat) := by
          intro j x hx
          obtain ⟨hj, hxe⟩ := List.getElem?_eq_some_iff.1 hx
          have hjy : j < ys.length := by rw [hys.1, flat_bytes]; simpa using hj
          have h1 := hys.2 j hjy (by rw [flat_bytes]; simpa using hj)
          have h2 : (l.flatMap byteC)[j]'(by rw [flat_bytes]; simpa using hj) = .int .u8 (x.toNat : Int) := by
            simp only [flat_bytes, List.getElem_map, hxe]
          rw [h2] at h1
          have h3 : ys[j] = .int .u8 (x.toNat : Int) := by generalize ys[j] = u at h1; cases h1; rfl
          have h4 := ho.cells (g := g) (by rw [hv]; rfl) j (.int .u8 x.toNat) (by rw [List.getElem?_eq_getElem hjy, h3])
          rwa [Addr.add_lit, Nat.zero_add] at h4
        rw [hv] at hh
        refine Calls.mono (sb_string1 Tryd.lays169 Tryd_X169 b g cap p cur l w (by simpa using h0) hh hg hnc hcm hcs hcell) ?_
        rintro ex w' ⟨rfl, hgr⟩
        exact key (by rw [hbk]; exact hgr)
end Go.Proofs.YtolmcapbpliaiaaDoor
