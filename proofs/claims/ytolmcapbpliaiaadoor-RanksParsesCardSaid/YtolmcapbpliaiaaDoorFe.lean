/- Rooms as texts. Conditions: each theorem names its own. -/
import Derived.Test.YtolmcapbpliaiaaDoorProg
import Derived.Test.YtolmcapbpliaiaaDoorFd
import Derived.Test.YtolmcapbpliaiaaDoorStrsJ
namespace Go.Proofs.YtolmcapbpliaiaaDoor
open Go.Abs
set_option linter.unusedVariables false
set_option linter.unusedSimpArgs false

set_option linter.unusedVariables false

/-! ### What dies -/
def faultV (e : Int) : Value := .iface 55 (.int .i64 e)
def outOf (e : Int) (v : PV) : Out := if e = 0 then .ret v else .die (faultV e)
theorem outOf_ret {e : Int} {v v' : PV} (h : outOf e v = .ret v') : e = 0 ∧ v' = v := by
  unfold outOf at h
  split at h
  · rename_i h0; cases h; exact ⟨h0, rfl⟩
  · cases h
theorem outOf_die {e : Int} {v : PV} {u : Value} (h : outOf e v = .die u) : e ≠ 0 ∧ u = faultV e := by
  unfold outOf at h
  split at h
  · cases h
  · rename_i h0; cases h; exact ⟨h0, rfl⟩
theorem outOf_ok {e : Int} {v v' : PV} (h : e = 0) (hv : v = v') : outOf e v = .ret v' := by subst hv; exact if_pos h
theorem outOf_no {e k : Int} {v : PV} (h : e = k) (hk : k ≠ 0) : outOf e v = .die (faultV k) := by subst h; exact if_neg hk
/-! ### Numbers of a room -/
def sDig : ByteArray := ⟨#[48, 49, 50, 51, 52, 53, 54, 55, 56, 57]⟩
def digB (b : UInt8) : Bool := decide (48 ≤ b.toNat) && decide (b.toNat ≤ 57)
def digF (s : ByteArray) : Bool := s.data.toList.all digB
theorem dig_mem (b : UInt8) : sDig.data.toList.contains b = digB b := by
  have h : ∀ n : Fin 256, sDig.data.toList.contains (UInt8.ofNat n.val) = digB (UInt8.ofNat n.val) := by decide +kernel
  have := h ⟨b.toNat, b.toNat_lt⟩
  simpa using this
theorem trim_dig (s : ByteArray) : decide ((⟨(Lib.trimS s.data.toList sDig.data.toList).toArray⟩ : ByteArray) = ⟨#[]⟩) = digF s := by
  rw [Bool.eq_iff_iff, decide_eq_true_eq, trim_empty, trimS_nil, digF, List.all_eq_true]
  exact forall_congr' fun b => by rw [dig_mem]
def leadB (s : ByteArray) : Bool := decide (1 < (s.size : Int)) && decide (byteAt s 0 = 48)
def roomE (s : ByteArray) : Int := if digF s = false ∨ leadB s = true then 3 else if 1 < (s.size : Int) ∨ byteAt s 0 < 49 ∨ 52 < byteAt s 0 then 9 else 0
def roomV (s : ByteArray) : Int := byteAt s 0 - 48
theorem roomE_3 {s : ByteArray} (h : digF s = false ∨ leadB s = true) : roomE s = 3 := if_pos h
theorem pu_syn : ∀ (l : List UInt8) (acc : Nat), (l.all digB) = true → (∃ v, Lib.parseUint10 acc l = .ok v) ∨ Lib.parseUint10 acc l = .range
  | [], acc, _ => by simp [Lib.parseUint10]
  | b :: r, acc, h => by
    simp only [List.all_cons, Bool.and_eq_true] at h
    have hb := h.1
    unfold digB at hb
    simp only [Bool.and_eq_true, decide_eq_true_eq] at hb
    have ih := pu_syn r (acc * 10 + (b.toNat - 48)) h.2
    unfold Lib.parseUint10
    rw [if_pos hb]
    split
    · simp
    · split
      · simp
      · exact ih
theorem pu_ge : ∀ (l : List UInt8) (acc u : Nat), Lib.parseUint10 acc l = .ok u → acc ≤ u ∧ (l ≠ [] → 10 * acc ≤ u)
  | [], acc, u, h => by
    simp only [Lib.parseUint10, Lib.NumEnd.ok.injEq] at h
    exact ⟨by omega, fun h => absurd rfl h⟩
  | b :: r, acc, u, h => by
    unfold Lib.parseUint10 at h
    split at h
    · split at h
      · cases h
      · split at h
        · cases h
        · have := (pu_ge r _ u h).1
          exact ⟨by omega, fun _ => by omega⟩
    · cases h
theorem byteAt_cons (b : UInt8) (r : List UInt8) (s : ByteArray) (h : s.data.toList = b :: r) : byteAt s 0 = b.toNat := by
  unfold byteAt; rw [h]; rfl
theorem size_list (s : ByteArray) : s.size = s.data.toList.length := by simp
theorem atoi_cases (s : ByteArray) (hd : digF s = true) (hl : leadB s = false) (hs : s ≠ ⟨#[]⟩) :
    (∃ v, Lib.atoiAll s.data.toList = .ok v ∧ (roomE s = 0 ∧ v = roomV s ∧ 1 ≤ v ∧ v ≤ 4 ∨ roomE s = 9 ∧ (v < 1 ∨ 4 < v))) ∨ (Lib.atoiAll s.data.toList = .range ∧ roomE s = 9) := by
  have hsz := size_list s
  have hE : roomE s = if 1 < (s.size : Int) ∨ byteAt s 0 < 49 ∨ 52 < byteAt s 0 then 9 else 0 := by
    unfold roomE
    rw [if_neg (by simp [hd, hl])]
  cases hc : s.data.toList with
  | nil =>
    refine absurd ?_ hs
    rw [← bs_data s, hc]
  | cons c r =>
    have h0 := byteAt_cons c r s hc
    have hd' : (c :: r).all digB = true := by rw [← hc]; exact hd
    have hcd : 48 ≤ c.toNat ∧ c.toNat ≤ 57 := by
      have := hd'
      simp only [List.all_cons, Bool.and_eq_true] at this
      have h := this.1
      unfold digB at h
      simpa using h
    rw [Lib.atoiAll_plain c r (by omega) (by omega)]
    have hpm : Lib.parseMag (c :: r) = Lib.parseUint10 0 (c :: r) := by unfold Lib.parseMag; rw [if_neg (by simp)]
    have hstep : Lib.parseUint10 0 (c :: r) = Lib.parseUint10 (c.toNat - 48) r := by
      rw [Lib.parseUint10, if_pos hcd, if_neg (by omega), if_neg (by omega)]
      congr 1; omega
    rw [hpm, hstep]
    rw [hc] at hsz
    simp only [List.length_cons] at hsz
    have hsyn := pu_syn r (c.toNat - 48) (by simp only [List.all_cons, Bool.and_eq_true] at hd'; exact hd'.2)
    cases hp : Lib.parseUint10 (c.toNat - 48) r with
    | range =>
      refine .inr ⟨rfl, ?_⟩
      rw [hE, if_pos]
      refine .inl ?_
      cases r with
      | nil => simp [Lib.parseUint10] at hp
      | cons b r => simp only [List.length_cons] at hsz; omega
    | ok u =>
      have hg := pu_ge r _ u hp
      cases r with
      | nil =>
        simp only [Lib.parseUint10, Lib.NumEnd.ok.injEq] at hp
        simp only [List.length_nil] at hsz
        refine .inl ⟨(u : Int), ?_, ?_⟩
        · unfold Lib.signless
          simp only
          rw [if_neg (by omega)]
        · rw [hE]
          unfold roomV
          by_cases h : 1 < (s.size : Int) ∨ byteAt s 0 < 49 ∨ 52 < byteAt s 0
          · rw [if_pos h]; exact .inr ⟨rfl, by omega⟩
          · rw [if_neg h]; exact .inl ⟨rfl, by omega, by omega, by omega⟩
      | cons b r =>
        simp only [List.length_cons] at hsz
        have h9 : (if 1 < (s.size : Int) ∨ byteAt s 0 < 49 ∨ 52 < byteAt s 0 then (9 : Int) else 0) = 9 := if_pos (.inl (by omega))
        have hne : byteAt s 0 ≠ 48 := by
          intro h
          unfold leadB at hl
          rw [h] at hl
          simp at hl
          omega
        have h10 := hg.2 (by simp)
        unfold Lib.signless
        simp only
        by_cases hb : 9223372036854775808 ≤ u
        · rw [if_pos hb]
          exact .inr ⟨rfl, by rw [hE, h9]⟩
        · rw [if_neg hb]
          exact .inl ⟨(u : Int), rfl, .inr ⟨by rw [hE, h9], by omega⟩⟩
    | _ => rw [hp] at hsyn; rcases hsyn with ⟨v, e⟩ | e <;> cases e
theorem atoi_short {s : ByteArray} (h : s.size ≤ 18) : Lib.atoiAll s.data.toList ≠ .range := by
  have := Lib.atoiAll_short s.data.toList (by rw [← Lib.size_eq]; exact h)
  rw [this]
  cases Lib.atoi s.data.toList <;> simp [Lib.NumEnd.ofOption]
theorem Atoi_ok (s : ByteArray) (v : Int) (h : Lib.atoiAll s.data.toList = .ok v) : FC Tryd.prog 59 [.str s] (.tup [.i v, .val .nilIface]) := by
  intro w vs F hF hr
  obtain ⟨x, xs, rfl, hx, hxs⟩ := hr.cons_inv
  obtain rfl := hxs.nil_inv
  have hs := hx.fit.str_len
  obtain rfl := hx.str_inv
  have hb := Lib.atoiAll_bounds h
  refine Calls.mono (Tryd_atoi_ok s (by omega) v h w) ?_
  rintro e w' ⟨rfl, hw⟩
  have hB : Go.RowKit.Below w.heap.size w w' := by
    rcases hw with rfl | ⟨t, rfl⟩
    · exact Go.RowKit.Below.refl _ _
    · exact Lib.bytesWorld_below _ _ _
  refine ⟨_, rfl, ?_, hB.os, hB.tape, hB.output, hB.size, hB.block⟩
  exact .tup [.int .i64 v, .nilIface] _ rfl fun k h1 h2 => by
    match k, h1 with
    | 0, _ => exact .int _ _ (inK_i64.2 hb)
    | 1, _ => exact .val _ rfl
theorem Atoi_range (gs : List Nat) (s : ByteArray) (h : Lib.atoiAll s.data.toList = .range) (hg : 5 ∈ gs) : FXH Tryd.prog gs 59 [.pv (.str s)] [] (.ret (.tup [.i (Lib.atoiSat s.data.toList), .err])) := by
  refine fxh_of (vals := [.str s]) fun w vs F hF hr hG => ?_
  obtain ⟨x, xs, rfl, hx, hxs⟩ := hr.cons_inv
  obtain rfl := hxs.nil_inv
  have hs := hx.fit.str_len
  obtain rfl := hx.str_inv
  have hb := Lib.atoiSat_bounds s.data.toList
  obtain ⟨ev, hev, hi⟩ := hG 5 hg
  refine Calls.mono (Tryd_atoi_range s hs h ev w hev hi) ?_
  rintro e w' ⟨N, rfl, hN, _, hB⟩
  refine ⟨_, rfl, ?_, hB.os, hB.tape, hB.output, hB.size, hB.block⟩
  exact .tup [.int .i64 (Lib.atoiSat s.data.toList), .iface 138 (.pointer (some ⟨N, 0, none⟩))] _ rfl fun k h1 h2 => by
    match k, h1 with
    | 0, _ => exact .int _ _ (inK_i64.2 hb)
    | 1, _ => exact .err _ _

set_option maxRecDepth 1000000 in
set_option maxHeartbeats 1000000 in
theorem room_ok (gs : List Nat) (s : ByteArray) (v : Int) (hs0 : s ≠ ⟨#[]⟩) (hA : Lib.atoiAll s.data.toList = .ok v) : FXH Tryd.prog gs 45 [.pv (.str s)] [] (outOf (roomE s) (.i (roomV s))) := by
  refine FXH.intro Tryd.func45 rfl (Nat.le_of_ble_eq_true rfl) (Nat.le_of_ble_eq_true rfl) fun hfit ι0 => ?_
  change awp _ _ _ _ ⟨[(0, .pv (.str s))], []⟩
  have fit0 := hfit _ (.head _)
  have hlen := fit0.str_len
  refine awp_seq ?_
  refine awp_region rfl (.n (fun _ => op_assign (.plain rfl)) (.nil _)) ?_
  refine awp_seq ?_
  refine awp_seq ?_
  refine awp_region rfl (.n (fun _ => op_move (.plain rfl)) (.n (fun _ => op_call2 Tryd.call54 (.plain rfl) (.plain rfl) (Trim_fc _ sDig ?_)) (.n (fun _ => op_str_neq Tryd.underlying9 (.plain rfl) (.plain rfl)) (.n (fun _ => op_move (.plain rfl)) (.gn rfl rfl (fun hg _ => op_move (.plain rfl)) (.gn rfl rfl (fun hg _ => op_lenS Tryd.underlying9 (.opt rfl fun h => h)) (.gn rfl rfl (fun hg _ => op_gtr (.opt rfl fun h => h) (.plain rfl)) (.gn rfl rfl (fun hg _ => op_move (.opt rfl fun h => h)) (.ggn rfl rfl (fun hg _ => op_move (.plain rfl)) (.ggn rfl rfl (fun hg _ => op_indexS Tryd.underlying9 (.opt rfl fun h => h) (.plain rfl) ?_) (.ggn rfl rfl (fun hg _ => op_eql (.opt rfl fun h => h) (.plain rfl)) (.gn rfl rfl (fun hg _ => op_and (.opt rfl fun h => h) (.plain rfl) (.plain rfl) (fun h => andI hg (eqT h))) (.n (fun _ => op_or (.plain rfl) (.plain rfl) (.plain rfl) (fun h => eqF h)) (.nil _)))))))))))))) ?_
  · exact ⟨by decide, by decide⟩
  · try simp only [beq_iff_eq, beq_true, beq_false, Bool.and_eq_true, decide_eq_true_eq, decide_eq_false_iff_not, Bool.not_eq_true', Bool.or_eq_true, Bool.or_eq_false_iff] at hg
    have hz : s ≠ ⟨#[]⟩ := hs0
    have := size_pos hz
    omega
  refine awp_cond rfl (fun h => ?_) (fun h => ?_)
  · skip
    refine awp_panic (l := [_]) rfl (.n (fun _ => op_iface Tryd.underlying55 (.plain rfl)) (.nil _)) rfl ?_
    refine retXp (P := Tryd.prog) (fn := Tryd.f45) ?_ trivial trivial
    refine outOf_no (roomE_3 ?_) (by decide)
    rw [trim_dig] at h
    unfold leadB
    revert h
    cases digF s <;> simp
  · skip
    rw [trim_dig] at h
    have hd : digF s = true ∧ leadB s = false := by
      unfold leadB; revert h; cases digF s <;> simp
    have hc : roomE s = 0 ∧ v = roomV s ∧ 1 ≤ v ∧ v ≤ 4 ∨ roomE s = 9 ∧ (v < 1 ∨ 4 < v) := by
      rcases atoi_cases s hd.1 hd.2 hs0 with ⟨v', h1, h2⟩ | ⟨h1, _⟩
      · rw [hA] at h1; cases h1; exact h2
      · rw [hA] at h1; cases h1
    refine awp_skip ?_
    refine awp_seq ?_
    refine awp_region rfl (.n (fun _ => op_move (.plain rfl)) (.n (fun _ => op_call1 Tryd.call59 (.plain rfl) (Atoi_ok _ _ hA)) (.n (fun _ => op_move (.plain rfl)) (.n (fun _ => op_extract (.plain rfl) rfl) (.n (fun _ => op_extract (.plain rfl) rfl) (.n (fun _ => op_assign (.plain rfl)) (.n (fun _ => op_assign (.plain rfl)) (.nil _)))))))) ?_
    refine awp_seq ?_
    refine awp_seq ?_
    refine awp_region rfl (.n (fun _ => op_move (.plain rfl)) (.n (fun _ => op_nilne (by kernel_rfl) (.plain rfl)) (.n (fun _ => op_move (.plain rfl)) (.gn rfl rfl (fun hg _ => op_move (.plain rfl)) (.gn rfl rfl (fun hg _ => op_lss (.opt rfl fun h => h) (.plain rfl)) (.n (fun _ => op_or (.plain rfl) (.plain rfl) (.plain rfl) (fun h => eqF h)) (.n (fun _ => op_move (.plain rfl)) (.gn rfl rfl (fun hg _ => op_move (.plain rfl)) (.gn rfl rfl (fun hg _ => op_gtr (.opt rfl fun h => h) (.plain rfl)) (.n (fun _ => op_or (.plain rfl) (.plain rfl) (.plain rfl) (fun h => eqF h)) (.nil _))))))))))) ?_
    refine awp_cond rfl (fun h => ?_) (fun h => ?_)
    · skip
      have h33 : v < 1 ∨ 4 < v := by simp at h; omega
      refine awp_panic (l := [_]) rfl (.n (fun _ => op_iface Tryd.underlying55 (.plain rfl)) (.nil _)) rfl ?_
      refine retXp (P := Tryd.prog) (fn := Tryd.f45) ?_ trivial trivial
      exact outOf_no (by omega) (by decide)
    · skip
      have h33 : ¬ (v < 1 ∨ 4 < v) := by simp at h; omega
      refine awp_skip ?_
      refine awp_seq ?_
      refine awp_region rfl (.n (fun _ => op_move (.plain rfl)) (.n (fun _ => op_assign (.plain rfl)) (.nil _))) ?_
      refine awp_ret ?_
      refine retX.ret ?_
      refine retX1 rfl rfl trivial trivial ?_
      exact outOf_ok (by omega) (congrArg PV.i (by omega))

set_option maxRecDepth 1000000 in
set_option maxHeartbeats 1000000 in
theorem room_syn (gs : List Nat) (s : ByteArray) (hs0 : s ≠ ⟨#[]⟩) (hb : ¬ (digF s = true ∧ leadB s = false)) : FXH Tryd.prog gs 45 [.pv (.str s)] [] (outOf (roomE s) (.i (roomV s))) := by
  refine FXH.intro Tryd.func45 rfl (Nat.le_of_ble_eq_true rfl) (Nat.le_of_ble_eq_true rfl) fun hfit ι0 => ?_
  change awp _ _ _ _ ⟨[(0, .pv (.str s))], []⟩
  have fit0 := hfit _ (.head _)
  have hlen := fit0.str_len
  refine awp_seq ?_
  refine awp_region rfl (.n (fun _ => op_assign (.plain rfl)) (.nil _)) ?_
  refine awp_seq ?_
  refine awp_seq ?_
  refine awp_region rfl (.n (fun _ => op_move (.plain rfl)) (.n (fun _ => op_call2 Tryd.call54 (.plain rfl) (.plain rfl) (Trim_fc _ sDig ?_)) (.n (fun _ => op_str_neq Tryd.underlying9 (.plain rfl) (.plain rfl)) (.n (fun _ => op_move (.plain rfl)) (.gn rfl rfl (fun hg _ => op_move (.plain rfl)) (.gn rfl rfl (fun hg _ => op_lenS Tryd.underlying9 (.opt rfl fun h => h)) (.gn rfl rfl (fun hg _ => op_gtr (.opt rfl fun h => h) (.plain rfl)) (.gn rfl rfl (fun hg _ => op_move (.opt rfl fun h => h)) (.ggn rfl rfl (fun hg _ => op_move (.plain rfl)) (.ggn rfl rfl (fun hg _ => op_indexS Tryd.underlying9 (.opt rfl fun h => h) (.plain rfl) ?_) (.ggn rfl rfl (fun hg _ => op_eql (.opt rfl fun h => h) (.plain rfl)) (.gn rfl rfl (fun hg _ => op_and (.opt rfl fun h => h) (.plain rfl) (.plain rfl) (fun h => andI hg (eqT h))) (.n (fun _ => op_or (.plain rfl) (.plain rfl) (.plain rfl) (fun h => eqF h)) (.nil _)))))))))))))) ?_
  · exact ⟨by decide, by decide⟩
  · try simp only [beq_iff_eq, beq_true, beq_false, Bool.and_eq_true, decide_eq_true_eq, decide_eq_false_iff_not, Bool.not_eq_true', Bool.or_eq_true, Bool.or_eq_false_iff] at hg
    have hz : s ≠ ⟨#[]⟩ := hs0
    have := size_pos hz
    omega
  refine awp_cond rfl (fun h => ?_) (fun h => ?_)
  · skip
    refine awp_panic (l := [_]) rfl (.n (fun _ => op_iface Tryd.underlying55 (.plain rfl)) (.nil _)) rfl ?_
    refine retXp (P := Tryd.prog) (fn := Tryd.f45) ?_ trivial trivial
    refine outOf_no (roomE_3 ?_) (by decide)
    rw [trim_dig] at h
    unfold leadB
    revert h
    cases digF s <;> simp
  · exfalso; refine hb ?_; rw [trim_dig] at h; unfold leadB; revert h; cases digF s <;> simp

set_option maxRecDepth 1000000 in
set_option maxHeartbeats 1000000 in
theorem room_rg (gs : List Nat) (s : ByteArray) (hs0 : s ≠ ⟨#[]⟩) (hg : 5 ∈ gs) (hA : Lib.atoiAll s.data.toList = .range) : FXH Tryd.prog gs 45 [.pv (.str s)] [] (outOf (roomE s) (.i (roomV s))) := by
  refine FXH.intro Tryd.func45 rfl (Nat.le_of_ble_eq_true rfl) (Nat.le_of_ble_eq_true rfl) fun hfit ι0 => ?_
  change awp _ _ _ _ ⟨[(0, .pv (.str s))], []⟩
  have fit0 := hfit _ (.head _)
  have hlen := fit0.str_len
  refine awp_seq ?_
  refine awp_region rfl (.n (fun _ => op_assign (.plain rfl)) (.nil _)) ?_
  refine awp_seq ?_
  refine awp_seq ?_
  refine awp_region rfl (.n (fun _ => op_move (.plain rfl)) (.n (fun _ => op_call2 Tryd.call54 (.plain rfl) (.plain rfl) (Trim_fc _ sDig ?_)) (.n (fun _ => op_str_neq Tryd.underlying9 (.plain rfl) (.plain rfl)) (.n (fun _ => op_move (.plain rfl)) (.gn rfl rfl (fun hg _ => op_move (.plain rfl)) (.gn rfl rfl (fun hg _ => op_lenS Tryd.underlying9 (.opt rfl fun h => h)) (.gn rfl rfl (fun hg _ => op_gtr (.opt rfl fun h => h) (.plain rfl)) (.gn rfl rfl (fun hg _ => op_move (.opt rfl fun h => h)) (.ggn rfl rfl (fun hg _ => op_move (.plain rfl)) (.ggn rfl rfl (fun hg _ => op_indexS Tryd.underlying9 (.opt rfl fun h => h) (.plain rfl) ?_) (.ggn rfl rfl (fun hg _ => op_eql (.opt rfl fun h => h) (.plain rfl)) (.gn rfl rfl (fun hg _ => op_and (.opt rfl fun h => h) (.plain rfl) (.plain rfl) (fun h => andI hg (eqT h))) (.n (fun _ => op_or (.plain rfl) (.plain rfl) (.plain rfl) (fun h => eqF h)) (.nil _)))))))))))))) ?_
  · exact ⟨by decide, by decide⟩
  · try simp only [beq_iff_eq, beq_true, beq_false, Bool.and_eq_true, decide_eq_true_eq, decide_eq_false_iff_not, Bool.not_eq_true', Bool.or_eq_true, Bool.or_eq_false_iff] at hg
    have hz : s ≠ ⟨#[]⟩ := hs0
    have := size_pos hz
    omega
  refine awp_cond rfl (fun h => ?_) (fun h => ?_)
  · skip
    refine awp_panic (l := [_]) rfl (.n (fun _ => op_iface Tryd.underlying55 (.plain rfl)) (.nil _)) rfl ?_
    refine retXp (P := Tryd.prog) (fn := Tryd.f45) ?_ trivial trivial
    refine outOf_no (roomE_3 ?_) (by decide)
    rw [trim_dig] at h
    unfold leadB
    revert h
    cases digF s <;> simp
  · skip
    rw [trim_dig] at h
    have hd : digF s = true ∧ leadB s = false := by
      unfold leadB; revert h; cases digF s <;> simp
    have hc : roomE s = 9 := by
      rcases atoi_cases s hd.1 hd.2 hs0 with ⟨v', h1, h2⟩ | ⟨h1, h2⟩
      · rw [hA] at h1; cases h1
      · exact h2
    refine awp_skip ?_
    refine awp_seq ?_
    refine awp_callX (l1 := [_]) (l2 := [_, _, _, _, _]) (fun k => [].getD k 0) rfl (.n (fun _ => op_move (.plain rfl)) (.nil _)) Tryd.call59 (Atoi_range gs s hA hg) ⟨(.plain rfl), trivial⟩ trivial (by kernel_rfl) (fun v hv => ?hret21) (fun u hu => ?hdie21)
    case hdie21 =>
      cases hu
    case hret21 =>
      obtain rfl := Out.ret.inj hv
      refine ⟨_, _, (.n (fun _ => op_move (.plain rfl)) (.n (fun _ => op_extract (.plain rfl) rfl) (.n (fun _ => op_extract (.plain rfl) rfl) (.n (fun _ => op_assign (.plain rfl)) (.n (fun _ => op_assign (.plain rfl)) (.nil _)))))), ?_⟩
      refine awp_seq ?_
      refine awp_seq ?_
      refine awp_region rfl (.n (fun _ => op_move (.plain rfl)) (.n (fun _ => op_errne (by kernel_rfl) (.plain rfl)) (.n (fun _ => op_move (.plain rfl)) (.gn rfl rfl (fun hg _ => op_move (.plain rfl)) (.gn rfl rfl (fun hg _ => op_lss (.opt rfl fun h => h) (.plain rfl)) (.n (fun _ => op_or (.plain rfl) (.plain rfl) (.plain rfl) (fun h => eqF h)) (.n (fun _ => op_move (.plain rfl)) (.gn rfl rfl (fun hg _ => op_move (.plain rfl)) (.gn rfl rfl (fun hg _ => op_gtr (.opt rfl fun h => h) (.plain rfl)) (.n (fun _ => op_or (.plain rfl) (.plain rfl) (.plain rfl) (fun h => eqF h)) (.nil _))))))))))) ?_
      refine awp_cond rfl (fun h => ?_) (fun h => ?_)
      · skip
        refine awp_panic (l := [_]) rfl (.n (fun _ => op_iface Tryd.underlying55 (.plain rfl)) (.nil _)) rfl ?_
        refine retXp (P := Tryd.prog) (fn := Tryd.f45) ?_ trivial trivial
        exact outOf_no hc (by decide)
      · exfalso; simp at h


theorem room_fx (gs : List Nat) (s : ByteArray) (hs0 : s ≠ ⟨#[]⟩) (hg : 5 ∈ gs ∨ s.size ≤ 18) : FXH Tryd.prog gs 45 [.pv (.str s)] [] (outOf (roomE s) (.i (roomV s))) := by
  by_cases hb : digF s = true ∧ leadB s = false
  · rcases atoi_cases s hb.1 hb.2 hs0 with ⟨v, h1, _⟩ | ⟨h1, _⟩
    · exact room_ok gs s v hs0 h1
    · exact room_rg gs s hs0 (hg.resolve_right fun h => atoi_short h h1) h1
  · cases hA : Lib.atoiAll s.data.toList with
    | ok v => exact room_ok gs s v hs0 hA
    | range => 
      rcases hg with hg | hg
      · exact room_rg gs s hs0 hg hA
      · exact absurd hA (atoi_short hg)
    | _ => exact room_syn gs s hs0 hb

end Go.Proofs.YtolmcapbpliaiaaDoor

