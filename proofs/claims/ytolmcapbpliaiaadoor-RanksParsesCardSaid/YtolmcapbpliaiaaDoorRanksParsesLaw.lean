/- The law 'RanksParses' answers true. Conditions: none. -/
import Derived.Test.YtolmcapbpliaiaaDoorRows
import Derived.Test.YtolmcapbpliaiaaDoorTie
import Derived.Test.YtolmcapbpliaiaaDoorCards
import Derived.SevenTiedAt
import Derived.LaidMore
import Derived.Lay
import Derived.Test.YtolmcapbpliaiaaDoorAbsZ
import Derived.Test.YtolmcapbpliaiaaDoorFm
namespace Go.Proofs.YtolmcapbpliaiaaDoor
open Go.Abs Go.ChangeShapes Go.WideShapes Go.ChangeAt Go.RowKit
set_option linter.unusedVariables false

set_option maxRecDepth 100000
theorem own : ownKnob Tryd.prog.godebug = none := by kernel_rfl
theorem laidOut : laidOutB Tryd.prog = true := by kernel_rfl

theorem rowE (u : TypeId) (h : Tryd.prog.typeName? 3 u = some "*errors.errorString") : u = 159 := by
  have e : "*" ++ "errors.errorString" = "*errors.errorString" := by decide
  exact typeName_ptr_named (nm := "errors.errorString") (by rw [e]; kernel_rfl) (by kernel_rfl) (by decide) u (by rw [e]; exact h)
theorem rdT9 : Rd Tryd.prog 9 ByteArray (fun n => [.str n]) := .str rfl

set_option maxRecDepth 100000 in
theorem ranksParses_lifted (os : Os) (started : os.Started) (H : Type) (enc : TypeId × Value → H) :
    ReturnsInHanded {} Tryd.checked os 4 .any (fun w args => (Rows.ranksParsesSpec.pre enc Tryd.prog Tryd.f4 Rows.ranksParsesRow.domain false w args ∧ laidMetH Tryd.prog Rows.ranksParsesRow.laid w) ∧ sizedMet enc Tryd.prog Tryd.f4 (OpenSpec.ofChange Rows.ranksParsesSpec) false w args) (Rows.ranksParsesSpec.post enc Tryd.prog Tryd.f4 false true false false) := by
  refine returnsInHanded_of_change_and (C := Tryd.checked) (X := fun w _ => laidMetH Tryd.prog Rows.ranksParsesRow.laid w) (fun _ _ _ hh h => h.of_heap hh) own started (by kernel_rfl) Tryd.func4
    (ChangeSpec.witness_shaped (enc := enc) (C := Tryd.checked) (os := os) (X := fun w _ => laidMetH Tryd.prog Rows.ranksParsesRow.laid w) false (World.laidAll Tryd.prog os Rows.ranksParsesRow.laid) #[.string ⟨#[]⟩] 8 (World.laidAll_os _ _ _)
      (World.shaped_of_ZipB (by kernel_rfl) (by kernel_rfl)) (by kernel_rfl) (by kernel_rfl) (by kernel_rfl)
      (by rw [MakeChecks.laidMetH_plain _ _ _ (by kernel_rfl)]; exact laidMet_laidAll _ (by kernel_rfl) (by kernel_rfl))) ?_
  intro W base args ds gs before hval hW hcnd hsz hX _
  have hL : laidMet Tryd.prog Rows.ranksParsesRow.laid W := by rw [MakeChecks.laidMetH_plain _ _ _ (by kernel_rfl)] at hX; exact hX
  have hG : Glob 5 W := glob_laid hL.tail.tail.tail.tail (by kernel_rfl) (by kernel_rfl) Tryd.underlying46 rowE Tryd.underlying159 Tryd.underlying161 rfl rfl Tryd.underlying9 (by kernel_rfl) (by kernel_rfl)
  have hW0 := hW
  obtain ⟨p, q, hA, hV, hpq, hfz, hnd⟩ := hW
  obtain ⟨rfl, rfl⟩ := trodVars_none hV
  have hvt : Rows.ranksParsesSpec.plain.varTypes Tryd.prog = [] := rfl
  have hsz2 : (DataW.weightsEach Tryd.prog (Tryd.f4.params.toList ++ Rows.ranksParsesSpec.plain.varTypes Tryd.prog) (ds ++ [])).all (· ≤ reachBytes) = true := hsz
  rw [hvt, List.append_nil, List.append_nil] at hsz2
  obtain ⟨x, hx⟩ := (Args.cons (.flat rdT9 rfl) .nil : Args Tryd.prog Tryd.f4.params.toList _ _) H enc W .any base args.toList ds p (fun j t v e1 e2 => hval j t v (by simpa using e1) (by simpa using e2)) hA fun n hn => by
    have := List.all_eq_true.1 hsz2 n hn
    simpa using this
  have hx' : RepL W (fun _ => False) args.toList [.str x.1] := ⟨hx.1, fun k h1 h2 => (hx.2 k h1 h2).flat (PV.flatL_get (l := [.str x.1]) rfl k h2)⟩
  have hc := fxh_calls (P := Tryd.prog) (vals := [.str x.1]) (RanksParses_fx x.1) hx' (fun g hg => by
    simp only [List.mem_singleton] at hg
    rw [hg]; exact hG)
  rw [Array.toArray_toList] at hc
  have hlen : ds.length = 1 := trodAll_len _ _ _ _ hA
  refine law_calls_core (P := Tryd.prog) laidOut ?_ rfl Tryd.underlying4 rfl hW0 ?_ hc
  · exact fun t ht => by
      have h : (Tryd.f4.params.toList.all fun t => Tryd.prog.readableRec t && decide (t < Tryd.prog.types.size)) = true := by kernel_rfl
      simpa using List.all_eq_true.1 h t ht
  · match ds, hlen with
    | [d1], _ => rfl

theorem ranksParses_holds : Rows.RanksParsesSaid :=
  OpenClaim.holds_of_wide 4 Tryd.f4 rfl rfl rfl rfl rfl rfl rfl ⟨rfl, rfl, rfl, rfl, rfl⟩ rfl rfl rfl rfl rfl (by kernel_rfl) Tryd.func4 (by kernel_rfl)
    (of_decide_eq_true (by kernel_rfl)) (by unfold Func.isWrapper; first | (rw [if_pos (by decide +kernel)]; kernel_rfl) | (rw [if_neg (by decide +kernel)]; exact ⟨rfl, rfl⟩))
    (fun os started H enc _ => ranksParses_lifted os started H enc)

theorem ranksParses_card : Rows.RanksParsesCardSaid :=
  Claim7.holds_tied_plain_at .later [] [.data, .data, .data, .data, .sentinel, .sentinel, .pinned] true (true, "f51d71335585c06523780370731c10692345a4cf57877a48af6b57afd731ae11") true
    ranksParses_holds (fun _ h => by cases h) (by kernel_rfl) (fun _ h => by cases h) ranksParses_row_tie rfl ⟨rfl, rfl⟩ (by kernel_rfl) rfl
    (fun f fn hf hfn => by
      obtain rfl : f = 4 := Option.some.inj ((show Tryd.prog.funcNamed "agora/agoralaw.RanksParses" = some 4 by kernel_rfl).symm.trans hf) |>.symm
      obtain rfl : fn = Tryd.f4 := (Option.some.inj (Tryd.func4.symm.trans hfn)).symm
      exact ⟨by kernel_rfl, fun j t ht => by
        rw [Tryd.params4] at ht
        have hm : t ∈ [9] := by simpa using Array.mem_of_getElem? ht
        have hall : ([9].all fun u => !Tryd.prog.wantsStandIn u) = true := by kernel_rfl
        exact (show Tryd.prog.wantsStandIn t = false by simpa using List.all_eq_true.1 hall t hm)⟩)
    (by kernel_rfl)
end Go.Proofs.YtolmcapbpliaiaaDoor
