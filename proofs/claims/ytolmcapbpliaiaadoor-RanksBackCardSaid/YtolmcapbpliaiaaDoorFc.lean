/- Small numbers as bytes and as texts. Conditions: each theorem names its own. -/
import Derived.Test.YtolmcapbpliaiaaDoorProg
import Derived.Test.YtolmcapbpliaiaaDoorFb
import Derived.Test.YtolmcapbpliaiaaDoorAbsQ
namespace Go.Proofs.YtolmcapbpliaiaaDoor
open Go.Abs
set_option linter.unusedVariables false
set_option linter.unusedSimpArgs false


/-- The bytes of a number below 256. -/
def natF (n : Nat) : ByteArray := if n = 0 then ⟨#[]⟩ else byteS (n : Int)
theorem natF_0 : natF 0 = ⟨#[]⟩ := rfl
theorem natF_pos {n : Nat} (h : 0 < n) : natF n = byteS (n : Int) := if_neg (by omega)
theorem byteS_at {n : Nat} (h : n < 256) : byteAt (byteS (n : Int)) 0 = (n : Int) := by
  unfold byteAt byteS
  simp
  omega
theorem natF_size (n : Nat) : (natF n).size = if n = 0 then 0 else 1 := by unfold natF; split <;> rfl
theorem natF_nil {n : Nat} : natF n = ⟨#[]⟩ ↔ n = 0 := by
  constructor
  · intro h
    have := congrArg ByteArray.size h
    rw [natF_size] at this
    by_cases e : n = 0
    · exact e
    · rw [if_neg e] at this; exact absurd this (by decide)
  · rintro rfl; rfl
theorem natF_at {n : Nat} (h : n < 256) (h0 : ¬ n = 0) : byteAt (natF n) 0 = (n : Int) := by rw [natF_pos (by omega), byteS_at h]
theorem extract_all (s : ByteArray) : s.extract (Int.toNat (0 : Int)) s.size = s := by
  show s.extract 0 s.size = s
  simp
theorem append_nilS (s : ByteArray) : s ++ (⟨#[]⟩ : ByteArray) = s := ByteArray.append_empty
theorem short_step {n i : Nat} (hn : n < 256) (hi : i < (natF n).size) : i = 0 ∧ byteAt (natF n) i = (n : Int) := by
  have hsz := natF_size n
  have h0 : ¬ n = 0 := fun e => by rw [if_pos e] at hsz; omega
  rw [if_neg h0] at hsz
  obtain rfl : i = 0 := by omega
  exact ⟨rfl, natF_at hn h0⟩
theorem short_eq {n i : Nat} (hn : n < 256) (hi : i < (natF n).size) : (if i = 0 then 0 else (n : Int)) * 256 + byteAt (natF n) i = if i + 1 = 0 then 0 else (n : Int) := by
  have h := short_step hn hi
  rw [h.2, if_pos h.1, if_neg (by omega)]
  omega
theorem short_ok {n i : Nat} (hn : n < 256) (hi : i < (natF n).size) : (if i = 0 then 0 else (n : Int)) = 0 ∧ 0 ≤ byteAt (natF n) i ∧ byteAt (natF n) i < 256 := by
  have h := short_step hn hi
  rw [h.2, if_pos h.1]
  omega
theorem short_end {n i : Nat} (hi : i = (natF n).size) : (if i = 0 then 0 else (n : Int)) = n := by
  have hsz := natF_size n
  by_cases h0 : n = 0
  · subst h0; split <;> rfl
  · rw [if_neg h0] at hsz; rw [if_neg (by omega)]
theorem natOf_step {n : Nat} (h0 : 0 < n) (hn : n < 256) : byteS ((n : Int) % 256) ++ (⟨#[]⟩ : ByteArray) = natF n := by
  rw [append_nilS, natF_pos h0, show (n : Int) % 256 = n by omega]
theorem gcd_step {a b : Nat} : Nat.gcd b (a % b) = Nat.gcd a b := by rw [Nat.gcd_comm b, ← Nat.gcd_rec, Nat.gcd_comm]
theorem unit_is : natF 1 = ⟨#[1]⟩ := by decide
theorem ten_is : natF 10 = ⟨#[10]⟩ := by decide
theorem zero_is : byteS (48 + ((0 : Nat) : Int)) = ⟨#[48]⟩ := by decide
attribute [local irreducible] byteAt

set_option maxRecDepth 1000000 in
set_option maxHeartbeats 1000000 in
theorem Trim256_fc (n : Nat) (hn : n < 256) : FC Tryd.prog 65 [.str (natF n)] (.str (natF n)) := by
  refine FC.intro Tryd.func65 rfl (Nat.le_of_ble_eq_true rfl) fun hfit => ?_
  have fit0 := hfit _ (.head _)
  have hsz := natF_size n
  have hs1 : (natF n).size ≤ 1 := by rw [hsz]; split <;> omega
  refine awp_seq ?_
  refine awp_region rfl (.n (fun _ => op_assign (.plain rfl)) (.nil _)) ?_
  refine awp_seq ?_
  refine awp_region rfl (.n (fun _ => op_assign (.plain rfl)) (.nil _)) ?_
  refine awp_seq ?_
  refine awp_block ?_
  refine awp_loop (σ := Nat) (fun (i : Nat) => i = 0) (fun (i : Nat) => ⟨[(0, .pv (.str (natF n))), (3, .int (i : Nat))], []⟩) (fun (i : Nat) => 1) 0 ?_ (Ent.kept ⟨rfl, rfl, trivial⟩ trivial) ?_
  · rfl
  rintro i hp
  try dsimp only at hp
  have hi := hp
  refine awp_seq ?_
  refine awp_seq ?_
  refine awp_region rfl (.n (fun _ => op_move (.plain rfl)) (.n (fun _ => op_move (.plain rfl)) (.n (fun _ => op_lenS Tryd.underlying76 (.plain rfl)) (.n (fun _ => op_lss (.plain rfl) (.plain rfl)) (.n (fun _ => op_move (.plain rfl)) (.gn rfl rfl (fun hg _ => op_move (.plain rfl)) (.gn rfl rfl (fun hg _ => op_move (.plain rfl)) (.gn rfl rfl (fun hg _ => op_indexS Tryd.underlying76 (.opt rfl fun h => h) (.opt rfl fun h => h) ?_) (.gn rfl rfl (fun hg _ => op_eql (.opt rfl fun h => h) (.plain rfl)) (.n (fun _ => op_and (.plain rfl) (.plain rfl) (.plain rfl) (fun h => eqT h)) (.nil _))))))))))) ?_
  · try simp only [beq_iff_eq, beq_true, beq_false, Bool.and_eq_true, decide_eq_true_eq, decide_eq_false_iff_not, Bool.not_eq_true', Bool.or_eq_true, Bool.or_eq_false_iff] at hg
    (try simp only [foldN, foldR, foldL, Int.toNat_natCast])
    omega
  refine awp_cond rfl (fun h => ?_) (fun h => ?_)
  · (try simp only [decide_eq_true_eq, decide_eq_false_iff_not, Bool.and_eq_true, Bool.or_eq_true, Bool.and_eq_false_iff, Bool.or_eq_false_iff, Bool.not_eq_true', Bool.not_eq_false', Bool.not_eq_true, Bool.not_eq_false, Bool.true_eq_false, Bool.false_eq_true] at h); (try simp only [foldN, foldR, foldL, Int.toNat_natCast] at h)
    exfalso
    subst hi
    have h0 : ¬ n = 0 := fun e => by rw [if_pos e] at hsz; omega
    have := natF_at hn h0
    rw [this] at h
    omega
  · (try simp only [decide_eq_true_eq, decide_eq_false_iff_not, Bool.and_eq_true, Bool.or_eq_true, Bool.and_eq_false_iff, Bool.or_eq_false_iff, Bool.not_eq_true', Bool.not_eq_false', Bool.not_eq_true, Bool.not_eq_false, Bool.true_eq_false, Bool.false_eq_true] at h); (try simp only [foldN, foldR, foldL, Int.toNat_natCast] at h)
    refine awp_exit ?_
    refine awp_seq ?_
    refine awp_region rfl (.n (fun _ => op_move (.plain rfl)) (.n (fun _ => op_move (.plain rfl)) (.n (fun _ => op_sliceS Tryd.underlying76 (.plain rfl) (.plain rfl) ?_) (.n (fun _ => op_assign (.plain rfl)) (.nil _))))) ?_
    · (try simp only [foldN, foldR, foldL, Int.toNat_natCast])
      omega
    refine awp_ret ?_
    refine retQ.ret ?_
    refine ret1 rfl rfl rfl ?_
    subst hi
    exact congrArg PV.str (extract_all _)

set_option maxRecDepth 1000000 in
set_option maxHeartbeats 1000000 in
theorem short_fc (n : Nat) (hn : n < 256) : FC Tryd.prog 89 [.str (natF n)] (.tup [.i (n : Int), .bool true]) := by
  refine FC.intro Tryd.func89 rfl (Nat.le_of_ble_eq_true rfl) fun hfit => ?_
  have fit0 := hfit _ (.head _)
  have hsz := natF_size n
  have hs1 : (natF n).size ≤ 1 := by rw [hsz]; split <;> omega
  refine awp_seq ?_
  refine awp_region rfl (.n (fun _ => op_assign (.plain rfl)) (.n (fun _ => op_assign (.plain rfl)) (.nil _))) ?_
  refine awp_seq ?_
  refine awp_seq ?_
  refine awp_region rfl (.n (fun _ => op_move (.plain rfl)) (.n (fun _ => op_lenS Tryd.underlying76 (.plain rfl)) (.n (fun _ => op_gtr (.plain rfl) (.plain rfl)) (.nil _)))) ?_
  refine awp_cond rfl (fun h => ?_) (fun h => ?_)
  · (try simp only [decide_eq_true_eq, decide_eq_false_iff_not, Bool.and_eq_true, Bool.or_eq_true, Bool.and_eq_false_iff, Bool.or_eq_false_iff, Bool.not_eq_true', Bool.not_eq_false', Bool.not_eq_true, Bool.not_eq_false, Bool.true_eq_false, Bool.false_eq_true] at h); (try simp only [foldN, foldR, foldL, Int.toNat_natCast] at h)
    exfalso
    omega
  · (try simp only [decide_eq_true_eq, decide_eq_false_iff_not, Bool.and_eq_true, Bool.or_eq_true, Bool.and_eq_false_iff, Bool.or_eq_false_iff, Bool.not_eq_true', Bool.not_eq_false', Bool.not_eq_true, Bool.not_eq_false, Bool.true_eq_false, Bool.false_eq_true] at h); (try simp only [foldN, foldR, foldL, Int.toNat_natCast] at h)
    refine awp_skip ?_
    refine awp_seq ?_
    refine awp_region rfl (.n (fun _ => op_assign (.plain rfl)) (.nil _)) ?_
    refine awp_seq ?_
    refine awp_seq ?_
    refine awp_region rfl (.n (fun _ => op_assign (.plain rfl)) (.nil _)) ?_
    refine awp_block ?_
    refine awp_loop (σ := Nat) (fun (i : Nat) => i ≤ (natF n).size) (fun (i : Nat) => ⟨[(0, .pv (.str (natF n))), (4, .int (if i = 0 then 0 else (n : Int))), (5, .int (i : Nat))], []⟩) (fun (i : Nat) => (natF n).size - i) 0 ?_ (Ent.kept ⟨rfl, rfl, rfl, trivial⟩ trivial) ?_
    · exact Nat.zero_le _
    rintro i hp
    try dsimp only at hp
    have hi := hp
    refine awp_seq ?_
    refine awp_seq ?_
    refine awp_region rfl (.n (fun _ => op_move (.plain rfl)) (.n (fun _ => op_move (.plain rfl)) (.n (fun _ => op_lenS Tryd.underlying76 (.plain rfl)) (.n (fun _ => op_lss (.plain rfl) (.plain rfl)) (.nil _))))) ?_
    refine awp_cond rfl (fun h => ?_) (fun h => ?_)
    · (try simp only [decide_eq_true_eq, decide_eq_false_iff_not, Bool.and_eq_true, Bool.or_eq_true, Bool.and_eq_false_iff, Bool.or_eq_false_iff, Bool.not_eq_true', Bool.not_eq_false', Bool.not_eq_true, Bool.not_eq_false, Bool.true_eq_false, Bool.false_eq_true] at h); (try simp only [foldN, foldR, foldL, Int.toNat_natCast] at h)
      refine awp_skip ?_
      refine awp_seq ?_
      refine awp_block ?_
      refine awp_region rfl (.n (fun _ => op_move (.plain rfl)) (.n (fun _ => op_mul (.plain rfl) (.plain rfl) ?_) (.n (fun _ => op_move (.plain rfl)) (.n (fun _ => op_move (.plain rfl)) (.n (fun _ => op_indexS Tryd.underlying76 (.plain rfl) (.plain rfl) ?_) (.n (fun _ => op_convI Tryd.underlying5 Tryd.underlying3 (.plain rfl) ?_) (.n (fun _ => op_add (.plain rfl) (.plain rfl) ?_) (.n (fun _ => op_assign (.plain rfl)) (.nil _))))))))) ?_
      · (try simp only [foldN, foldR, foldL, Int.toNat_natCast])
        have hk := short_ok hn (show i < (natF n).size by omega)
        unfold InR; omega
      · (try simp only [foldN, foldR, foldL, Int.toNat_natCast])
        omega
      · (try simp only [foldN, foldR, foldL, Int.toNat_natCast])
        exact (short_ok hn (show i < (natF n).size by omega)).2
      · (try simp only [foldN, foldR, foldL, Int.toNat_natCast])
        have hk := short_ok hn (show i < (natF n).size by omega)
        unfold InR; omega
      refine awp_region rfl (.n (fun _ => op_move (.plain rfl)) (.n (fun _ => op_add (.plain rfl) (.plain rfl) ?_) (.n (fun _ => op_assign (.plain rfl)) (.nil _)))) ?_
      · (try simp only [foldN, foldR, foldL, Int.toNat_natCast])
        unfold InR; omega
      exact ⟨i + 1, by omega, by dsimp only; omega, (Ent.kept ⟨rfl, (congrArg (fun n : Int => some (SV.int n)) (short_eq hn (by omega))), rfl, trivial⟩ trivial)⟩
    · (try simp only [decide_eq_true_eq, decide_eq_false_iff_not, Bool.and_eq_true, Bool.or_eq_true, Bool.and_eq_false_iff, Bool.or_eq_false_iff, Bool.not_eq_true', Bool.not_eq_false', Bool.not_eq_true, Bool.not_eq_false, Bool.true_eq_false, Bool.false_eq_true] at h); (try simp only [foldN, foldR, foldL, Int.toNat_natCast] at h)
      refine awp_exit ?_
      refine awp_seq ?_
      refine awp_region rfl (.n (fun _ => op_move (.plain rfl)) (.n (fun _ => op_assign (.plain rfl)) (.n (fun _ => op_assign (.plain rfl)) (.nil _)))) ?_
      refine awp_ret ?_
      refine retQ.ret ?_
      refine ret2 rfl rfl rfl rfl rfl ?_
      rw [short_end (show i = (natF n).size by omega)]

set_option maxRecDepth 1000000 in
set_option maxHeartbeats 1000000 in
theorem NatOf_fc (n : Nat) (x : Int) (hx : x = n) (hn : n < 256) : FC Tryd.prog 51 [.i x] (.str (natF n)) := by
  subst hx
  refine FC.intro Tryd.func51 rfl (Nat.le_of_ble_eq_true rfl) fun hfit => ?_
  refine awp_seq ?_
  refine awp_region rfl (.n (fun _ => op_assign (.plain rfl)) (.nil _)) ?_
  refine awp_seq ?_
  refine awp_region rfl (.n (fun _ => op_assign (.plain rfl)) (.nil _)) ?_
  refine awp_seq ?_
  refine awp_block ?_
  refine awp_loop (σ := Nat × ByteArray) (fun (s : Nat × ByteArray) => (s.1 = n ∧ s.2 = ⟨#[]⟩) ∨ (s.1 = 0 ∧ s.2 = natF n)) (fun (s : Nat × ByteArray) => ⟨[(0, .int (s.1 : Nat)), (3, .pv (.str s.2))], []⟩) (fun (s : Nat × ByteArray) => s.1) (n, ⟨#[]⟩) ?_ (Ent.kept ⟨rfl, rfl, trivial⟩ trivial) ?_
  · exact .inl ⟨rfl, rfl⟩
  rintro ⟨m, s⟩ hp
  try dsimp only at hp
  have hs0 : 0 < m → m = n ∧ s = ⟨#[]⟩ := fun c => hp.elim id fun d => by omega
  refine awp_seq ?_
  refine awp_seq ?_
  refine awp_region rfl (.n (fun _ => op_move (.plain rfl)) (.n (fun _ => op_gtr (.plain rfl) (.plain rfl)) (.nil _))) ?_
  refine awp_cond rfl (fun h => ?_) (fun h => ?_)
  · (try simp only [decide_eq_true_eq, decide_eq_false_iff_not, Bool.and_eq_true, Bool.or_eq_true, Bool.and_eq_false_iff, Bool.or_eq_false_iff, Bool.not_eq_true', Bool.not_eq_false', Bool.not_eq_true, Bool.not_eq_false, Bool.true_eq_false, Bool.false_eq_true] at h); (try simp only [foldN, foldR, foldL, Int.toNat_natCast] at h)
    refine awp_skip ?_
    refine awp_block ?_
    refine awp_seq ?_
    refine awp_region rfl (.n (fun _ => op_move (.plain rfl)) (.n (fun _ => op_rem (.plain rfl) (.plain rfl) ?_) (.n (fun _ => op_conv8 Tryd.underlying3 Tryd.underlying5 (.plain rfl) ?_) (.n (fun _ => op_slit (pp := [(0, _)]) (α := Int) (d := 0) (f := (fun n => [.int .u8 n])) [_] ety41 rfl ⟨rfl, (.plain rfl), (by simp), trivial⟩ rfl (by decide) rfl) (.n (fun _ => op_byteStr Tryd.underlying41 Tryd.underlying5 Tryd.underlying76 (.plain rfl)) (.n (fun _ => op_move (.plain rfl)) (.n (fun _ => op_addS (.plain rfl) (.plain rfl) ?_) (.n (fun _ => op_assign (.plain rfl)) (.nil _))))))))) ?_
    · (try simp only [foldN, foldR, foldL, Int.toNat_natCast])
      omega
    · (try simp only [foldN, foldR, foldL, Int.toNat_natCast])
      omega
    · (try simp only [foldN, foldR, foldL, Int.toNat_natCast])
      have := hs0 (by omega)
      rw [this.2]
      show 1 + 0 ≤ _
      omega
    refine awp_region rfl (.n (fun _ => op_move (.plain rfl)) (.n (fun _ => op_quo (.plain rfl) (.plain rfl) ?_) (.n (fun _ => op_assign (.plain rfl)) (.nil _)))) ?_
    · (try simp only [foldN, foldR, foldL, Int.toNat_natCast])
      omega
    obtain ⟨e1, e2⟩ := hs0 (by omega)
    subst e1
    subst e2
    refine ⟨(0, natF m), .inr ⟨rfl, rfl⟩, by dsimp only; omega, (Ent.kept ⟨(congrArg (fun n : Int => some (SV.int n)) (by omega)), (congrArg (fun s => some (SV.pv (PV.str s))) (natOf_step (by omega) hn)), trivial⟩ trivial)⟩
  · (try simp only [decide_eq_true_eq, decide_eq_false_iff_not, Bool.and_eq_true, Bool.or_eq_true, Bool.and_eq_false_iff, Bool.or_eq_false_iff, Bool.not_eq_true', Bool.not_eq_false', Bool.not_eq_true, Bool.not_eq_false, Bool.true_eq_false, Bool.false_eq_true] at h); (try simp only [foldN, foldR, foldL, Int.toNat_natCast] at h)
    refine awp_exit ?_
    refine awp_seq ?_
    refine awp_region rfl (.n (fun _ => op_move (.plain rfl)) (.n (fun _ => op_assign (.plain rfl)) (.nil _))) ?_
    refine awp_ret ?_
    refine retQ.ret ?_
    refine ret1 rfl rfl rfl ?_
    rcases hp with ⟨e1, e2⟩ | ⟨e1, e2⟩
    · obtain rfl : n = 0 := by omega
      rw [e2]; rfl
    · rw [e2]

set_option maxRecDepth 1000000 in
set_option maxHeartbeats 1000000 in
theorem digit_fc (n : Nat) (hn : n < 256) : FC Tryd.prog 67 [.str (natF n), .i 0] (.i (n : Int)) := by
  refine FC.intro Tryd.func67 rfl (Nat.le_of_ble_eq_true rfl) fun hfit => ?_
  have fit0 := hfit _ (.head _)
  have hsz := natF_size n
  have hs1 : (natF n).size ≤ 1 := by rw [hsz]; split <;> omega
  refine awp_seq ?_
  refine awp_region rfl (.n (fun _ => op_assign (.plain rfl)) (.nil _)) ?_
  refine awp_seq ?_
  refine awp_seq ?_
  refine awp_region rfl (.n (fun _ => op_move (.plain rfl)) (.n (fun _ => op_move (.plain rfl)) (.n (fun _ => op_lenS Tryd.underlying76 (.plain rfl)) (.n (fun _ => op_geq (.plain rfl) (.plain rfl)) (.nil _))))) ?_
  refine awp_cond rfl (fun h => ?_) (fun h => ?_)
  · (try simp only [decide_eq_true_eq, decide_eq_false_iff_not, Bool.and_eq_true, Bool.or_eq_true, Bool.and_eq_false_iff, Bool.or_eq_false_iff, Bool.not_eq_true', Bool.not_eq_false', Bool.not_eq_true, Bool.not_eq_false, Bool.true_eq_false, Bool.false_eq_true] at h); (try simp only [foldN, foldR, foldL, Int.toNat_natCast] at h)
    have h0 : n = 0 := Classical.byContradiction fun c => by rw [if_neg c] at hsz; omega
    refine awp_seq ?_
    refine awp_region rfl (.n (fun _ => op_assign (.plain rfl)) (.nil _)) ?_
    refine awp_ret ?_
    refine retQ.ret ?_
    refine ret1 rfl rfl rfl ?_
    rw [h0]; rfl
  · (try simp only [decide_eq_true_eq, decide_eq_false_iff_not, Bool.and_eq_true, Bool.or_eq_true, Bool.and_eq_false_iff, Bool.or_eq_false_iff, Bool.not_eq_true', Bool.not_eq_false', Bool.not_eq_true, Bool.not_eq_false, Bool.true_eq_false, Bool.false_eq_true] at h); (try simp only [foldN, foldR, foldL, Int.toNat_natCast] at h)
    have h0 : ¬ n = 0 := fun e => by rw [if_pos e] at hsz; omega
    rw [if_neg h0] at hsz
    have hat := natF_at hn h0
    have e1 : ((natF n).size : Int) - 1 - 0 = 0 := by omega
    refine awp_skip ?_
    refine awp_seq ?_
    refine awp_region rfl (.n (fun _ => op_move (.plain rfl)) (.n (fun _ => op_move (.plain rfl)) (.n (fun _ => op_lenS Tryd.underlying76 (.plain rfl)) (.n (fun _ => op_sub (.plain rfl) (.plain rfl) ?_) (.n (fun _ => op_move (.plain rfl)) (.n (fun _ => op_sub (.plain rfl) (.plain rfl) ?_) (.n (fun _ => op_indexS Tryd.underlying76 (.plain rfl) (.plain rfl) ?_) (.n (fun _ => op_convI Tryd.underlying5 Tryd.underlying3 (.plain rfl) ?_) (.n (fun _ => op_assign (.plain rfl)) (.nil _)))))))))) ?_
    · (try simp only [foldN, foldR, foldL, Int.toNat_natCast])
      unfold InR; omega
    · (try simp only [foldN, foldR, foldL, Int.toNat_natCast])
      unfold InR; omega
    · (try simp only [foldN, foldR, foldL, Int.toNat_natCast])
      omega
    · (try simp only [foldN, foldR, foldL, Int.toNat_natCast])
      rw [e1]
      show 0 ≤ byteAt (natF n) 0 ∧ byteAt (natF n) 0 < 256
      omega
    refine awp_ret ?_
    refine retQ.ret ?_
    refine ret1 rfl rfl rfl ?_
    rw [e1]
    exact congrArg PV.i hat

set_option maxRecDepth 1000000 in
set_option maxHeartbeats 1000000 in
theorem NatDiv_fc (a b : Nat) (ha : a < 256) (hb : b < 256) (hb0 : 0 < b) : FC Tryd.prog 66 [.str (natF a), .str (natF b)] (.tup [.str (natF (a / b)), .str (natF (a % b)), .bool true]) := by
  refine FC.intro Tryd.func66 rfl (Nat.le_of_ble_eq_true rfl) fun hfit => ?_
  have fit0 := hfit _ (.head _)
  have fit1 := hfit _ (.tail _ (.head _))
  refine awp_seq ?_
  refine awp_region rfl (.n (fun _ => op_assign (.plain rfl)) (.n (fun _ => op_assign (.plain rfl)) (.n (fun _ => op_assign (.plain rfl)) (.nil _)))) ?_
  refine awp_seq ?_
  refine awp_region rfl (.n (fun _ => op_move (.plain rfl)) (.n (fun _ => op_call1 Tryd.call65 (.plain rfl) (Trim256_fc a ha)) (.n (fun _ => op_assign (.plain rfl)) (.nil _)))) ?_
  refine awp_seq ?_
  refine awp_region rfl (.n (fun _ => op_move (.plain rfl)) (.n (fun _ => op_call1 Tryd.call65 (.plain rfl) (Trim256_fc b hb)) (.n (fun _ => op_assign (.plain rfl)) (.nil _)))) ?_
  refine awp_seq ?_
  refine awp_seq ?_
  refine awp_region rfl (.n (fun _ => op_move (.plain rfl)) (.n (fun _ => op_str_eql Tryd.underlying76 (.plain rfl) (.plain rfl)) (.nil _))) ?_
  refine awp_cond rfl (fun h => ?_) (fun h => ?_)
  · skip
    exfalso
    have := natF_nil.1 (of_decide_eq_true h)
    omega
  · skip
    refine awp_skip ?_
    refine awp_seq ?_
    refine awp_region rfl (.n (fun _ => op_move (.plain rfl)) (.n (fun _ => op_call1 Tryd.call89 (.plain rfl) (short_fc a ha)) (.n (fun _ => op_move (.plain rfl)) (.n (fun _ => op_extract (.plain rfl) rfl) (.n (fun _ => op_extract (.plain rfl) rfl) (.n (fun _ => op_assign (.plain rfl)) (.n (fun _ => op_assign (.plain rfl)) (.nil _)))))))) ?_
    refine awp_seq ?_
    refine awp_region rfl (.n (fun _ => op_move (.plain rfl)) (.n (fun _ => op_call1 Tryd.call89 (.plain rfl) (short_fc b hb)) (.n (fun _ => op_move (.plain rfl)) (.n (fun _ => op_extract (.plain rfl) rfl) (.n (fun _ => op_extract (.plain rfl) rfl) (.n (fun _ => op_assign (.plain rfl)) (.n (fun _ => op_assign (.plain rfl)) (.nil _)))))))) ?_
    refine awp_seq ?_
    refine awp_seq ?_
    refine awp_region rfl (.n (fun _ => op_move (.plain rfl)) (.n (fun _ => op_move (.plain rfl)) (.gn rfl rfl (fun hg _ => op_move (.plain rfl)) (.n (fun _ => op_and (.plain rfl) (.plain rfl) (.plain rfl) (fun h => eqT h)) (.nil _))))) ?_
    refine awp_cond rfl (fun h => ?_) (fun h => ?_)
    · skip
      refine awp_seq ?_
      refine awp_region_draw mixed rfl (.n (fun _ => op_move (.plain rfl)) (.n (fun _ => op_move (.plain rfl)) (.n (fun _ => op_quo (.plain rfl) (.plain rfl) ?_) (.n (fun _ => op_call1 Tryd.call51 (.plain rfl) (NatOf_fc (a / b) _ ?_ ?_)) (.n (fun _ => op_move (.plain rfl)) (.n (fun _ => op_move (.plain rfl)) (.n (fun _ => op_rem (.plain rfl) (.plain rfl) ?_) (.n (fun _ => op_call1 Tryd.call51 (.plain rfl) (NatOf_fc (a % b) _ ?_ ?_)) (.n (fun _ => op_assign (.plain rfl)) (.n (fun _ => op_assign (.plain rfl)) (.n (fun _ => op_assign (.plain rfl)) (.nil _)))))))))))) ?d1 ?_
      · (try simp only [foldN, foldR, foldL, Int.toNat_natCast])
        omega
      · (try simp only [foldN, foldR, foldL, Int.toNat_natCast])
        first | rfl | exact (Int.natCast_ediv a b).symm | simp
      · (try simp only [foldN, foldR, foldL, Int.toNat_natCast])
        exact Nat.lt_of_le_of_lt (Nat.div_le_self _ _) ha
      · (try simp only [foldN, foldR, foldL, Int.toNat_natCast])
        omega
      · (try simp only [foldN, foldR, foldL, Int.toNat_natCast])
        first | rfl | exact (Int.natCast_emod a b).symm | simp
      · (try simp only [foldN, foldR, foldL, Int.toNat_natCast])
        exact Nat.lt_of_le_of_lt (Nat.mod_le _ _) ha
      · kernel_rfl
      refine awp_ret ?_
      refine retQ.ret ?_
      refine ret3 rfl rfl rfl rfl rfl rfl rfl ?_
      rfl
    · skip
      exfalso
      exact absurd h (by decide)

set_option maxRecDepth 1000000 in
set_option maxHeartbeats 1000000 in
theorem Gcd_fc (a b : Nat) (ha : a < 256) (hb : b < 256) : FC Tryd.prog 88 [.str (natF a), .str (natF b)] (.str (natF (Nat.gcd a b))) := by
  refine FC.intro Tryd.func88 rfl (Nat.le_of_ble_eq_true rfl) fun hfit => ?_
  have fit0 := hfit _ (.head _)
  have fit1 := hfit _ (.tail _ (.head _))
  refine awp_seq ?_
  refine awp_region rfl (.n (fun _ => op_assign (.plain rfl)) (.nil _)) ?_
  refine awp_seq ?_
  refine awp_region rfl (.n (fun _ => op_move (.plain rfl)) (.n (fun _ => op_call1 Tryd.call65 (.plain rfl) (Trim256_fc a ha)) (.n (fun _ => op_assign (.plain rfl)) (.nil _)))) ?_
  refine awp_seq ?_
  refine awp_region rfl (.n (fun _ => op_move (.plain rfl)) (.n (fun _ => op_call1 Tryd.call65 (.plain rfl) (Trim256_fc b hb)) (.n (fun _ => op_assign (.plain rfl)) (.nil _)))) ?_
  refine awp_seq ?_
  refine awp_block ?_
  refine awp_loop (σ := Nat × Nat) (fun (s : Nat × Nat) => s.1 < 256 ∧ s.2 < 256 ∧ Nat.gcd s.1 s.2 = Nat.gcd a b) (fun (s : Nat × Nat) => ⟨[(0, .pv (.str (natF s.1))), (1, .pv (.str (natF s.2)))], []⟩) (fun (s : Nat × Nat) => s.2) (a, b) ?_ (Ent.kept ⟨rfl, rfl, trivial⟩ trivial) ?_
  · exact ⟨ha, hb, rfl⟩
  rintro ⟨a1, b1⟩ hp
  try dsimp only at hp
  obtain ⟨h1, h2, hg⟩ := hp
  refine awp_seq ?_
  refine awp_seq ?_
  refine awp_region rfl (.n (fun _ => op_move (.plain rfl)) (.n (fun _ => op_str_neq Tryd.underlying76 (.plain rfl) (.plain rfl)) (.nil _))) ?_
  refine awp_cond rfl (fun h => ?_) (fun h => ?_)
  · (try simp only [decide_eq_true_eq, decide_eq_false_iff_not, Bool.and_eq_true, Bool.or_eq_true, Bool.and_eq_false_iff, Bool.or_eq_false_iff, Bool.not_eq_true', Bool.not_eq_false', Bool.not_eq_true, Bool.not_eq_false, Bool.true_eq_false, Bool.false_eq_true] at h); (try simp only [foldN, foldR, foldL, Int.toNat_natCast] at h)
    have hb1 : ¬ b1 = 0 := fun e => h (natF_nil.2 e)
    have hmod := Nat.mod_lt a1 (show 0 < b1 by omega)
    refine awp_skip ?_
    refine awp_block ?_
    refine awp_seq ?_
    refine awp_region rfl (.n (fun _ => op_move (.plain rfl)) (.n (fun _ => op_move (.plain rfl)) (.n (fun _ => op_call2 Tryd.call66 (.plain rfl) (.plain rfl) (NatDiv_fc a1 b1 ?_ ?_ ?_)) (.n (fun _ => op_move (.plain rfl)) (.n (fun _ => op_extract (.plain rfl) rfl) (.n (fun _ => op_extract (.plain rfl) rfl) (.n (fun _ => op_extract (.plain rfl) rfl) (.n (fun _ => op_assign (.plain rfl)) (.n (fun _ => op_assign (.plain rfl)) (.n (fun _ => op_assign (.plain rfl)) (.nil _))))))))))) ?_
    · (try simp only [foldN, foldR, foldL, Int.toNat_natCast])
      omega
    · (try simp only [foldN, foldR, foldL, Int.toNat_natCast])
      omega
    · (try simp only [foldN, foldR, foldL, Int.toNat_natCast])
      omega
    refine awp_seq ?_
    refine awp_region rfl (.n (fun _ => op_move (.plain rfl)) (.n (fun _ => op_assign (.plain rfl)) (.nil _))) ?_
    refine awp_region rfl (.n (fun _ => op_move (.plain rfl)) (.n (fun _ => op_assign (.plain rfl)) (.nil _))) ?_
    exact ⟨(b1, a1 % b1), ⟨h2, by dsimp only; omega, gcd_step.trans hg⟩, by dsimp only; omega, (Ent.kept ⟨rfl, rfl, trivial⟩ trivial)⟩
  · (try simp only [decide_eq_true_eq, decide_eq_false_iff_not, Bool.and_eq_true, Bool.or_eq_true, Bool.and_eq_false_iff, Bool.or_eq_false_iff, Bool.not_eq_true', Bool.not_eq_false', Bool.not_eq_true, Bool.not_eq_false, Bool.true_eq_false, Bool.false_eq_true] at h); (try simp only [foldN, foldR, foldL, Int.toNat_natCast] at h)
    have hb1 : b1 = 0 := natF_nil.1 h
    subst hb1
    refine awp_exit ?_
    refine awp_seq ?_
    refine awp_region rfl (.n (fun _ => op_move (.plain rfl)) (.n (fun _ => op_assign (.plain rfl)) (.nil _))) ?_
    refine awp_ret ?_
    refine retQ.ret ?_
    refine ret1 rfl rfl rfl ?_
    rw [← hg, Nat.gcd_zero_right]

set_option maxRecDepth 1000000 in
set_option maxHeartbeats 1000000 in
theorem NatText_fc (n : Nat) (hn : n < 10) : FC Tryd.prog 50 [.str (natF n)] (.str (byteS (48 + (n : Int)))) := by
  refine FC.intro Tryd.func50 rfl (Nat.le_of_ble_eq_true rfl) fun hfit => ?_
  have fit0 := hfit _ (.head _)
  refine awp_seq ?_
  refine awp_region rfl (.n (fun _ => op_assign (.plain rfl)) (.nil _)) ?_
  refine awp_seq ?_
  refine awp_region rfl (.n (fun _ => op_move (.plain rfl)) (.n (fun _ => op_call1 Tryd.call65 (.plain rfl) (Trim256_fc n (by omega))) (.n (fun _ => op_assign (.plain rfl)) (.nil _)))) ?_
  refine awp_seq ?_
  refine awp_seq ?_
  refine awp_region rfl (.n (fun _ => op_move (.plain rfl)) (.n (fun _ => op_str_eql Tryd.underlying76 (.plain rfl) (.plain rfl)) (.nil _))) ?_
  refine awp_cond rfl (fun h => ?_) (fun h => ?_)
  · (try simp only [decide_eq_true_eq, decide_eq_false_iff_not, Bool.and_eq_true, Bool.or_eq_true, Bool.and_eq_false_iff, Bool.or_eq_false_iff, Bool.not_eq_true', Bool.not_eq_false', Bool.not_eq_true, Bool.not_eq_false, Bool.true_eq_false, Bool.false_eq_true] at h); (try simp only [foldN, foldR, foldL, Int.toNat_natCast] at h)
    have h0 := natF_nil.1 h
    subst h0
    refine awp_seq ?_
    refine awp_region rfl (.n (fun _ => op_assign (.plain rfl)) (.nil _)) ?_
    refine awp_ret ?_
    refine retQ.ret ?_
    refine ret1 rfl rfl rfl ?_
    rfl
  · (try simp only [decide_eq_true_eq, decide_eq_false_iff_not, Bool.and_eq_true, Bool.or_eq_true, Bool.and_eq_false_iff, Bool.or_eq_false_iff, Bool.not_eq_true', Bool.not_eq_false', Bool.not_eq_true, Bool.not_eq_false, Bool.true_eq_false, Bool.false_eq_true] at h); (try simp only [foldN, foldR, foldL, Int.toNat_natCast] at h)
    have hn0 : ¬ n = 0 := fun e => h (natF_nil.2 e)
    refine awp_skip ?_
    refine awp_seq ?_
    refine awp_region rfl (.n (fun _ => op_assign (.plain rfl)) (.nil _)) ?_
    refine awp_seq ?_
    refine awp_block ?_
    refine awp_loop (σ := Nat × ByteArray) (fun (s : Nat × ByteArray) => (s.1 = n ∧ s.2 = ⟨#[]⟩) ∨ (s.1 = 0 ∧ s.2 = byteS (48 + (n : Int)))) (fun (s : Nat × ByteArray) => ⟨[(0, .pv (.str (natF s.1))), (3, .pv (.str s.2))], []⟩) (fun (s : Nat × ByteArray) => s.1) (n, ⟨#[]⟩) ?_ (Ent.kept ⟨rfl, rfl, trivial⟩ trivial) ?_
    · exact .inl ⟨rfl, rfl⟩
    rintro ⟨m, s⟩ hp
    try dsimp only at hp
    have hs0 : 0 < m → m = n ∧ s = ⟨#[]⟩ := fun c => hp.elim id fun d => by omega
    refine awp_seq ?_
    refine awp_seq ?_
    refine awp_region rfl (.n (fun _ => op_move (.plain rfl)) (.n (fun _ => op_str_neq Tryd.underlying76 (.plain rfl) (.plain rfl)) (.nil _))) ?_
    refine awp_cond rfl (fun h => ?_) (fun h => ?_)
    · (try simp only [decide_eq_true_eq, decide_eq_false_iff_not, Bool.and_eq_true, Bool.or_eq_true, Bool.and_eq_false_iff, Bool.or_eq_false_iff, Bool.not_eq_true', Bool.not_eq_false', Bool.not_eq_true, Bool.not_eq_false, Bool.true_eq_false, Bool.false_eq_true] at h); (try simp only [foldN, foldR, foldL, Int.toNat_natCast] at h)
      have hm0 : ¬ m = 0 := fun e => h (natF_nil.2 e)
      obtain ⟨e1, e2⟩ := hs0 (by omega)
      subst e1
      subst e2
      refine awp_skip ?_
      refine awp_block ?_
      refine awp_seq ?_
      refine awp_region rfl (.n (fun _ => op_move (.plain rfl)) (.n (fun _ => op_call2 Tryd.call66 (.plain rfl) (.plain rfl) (NatDiv_fc m 10 ?_ ?_ ?_)) (.n (fun _ => op_move (.plain rfl)) (.n (fun _ => op_extract (.plain rfl) rfl) (.n (fun _ => op_extract (.plain rfl) rfl) (.n (fun _ => op_extract (.plain rfl) rfl) (.n (fun _ => op_assign (.plain rfl)) (.n (fun _ => op_assign (.plain rfl)) (.n (fun _ => op_assign (.plain rfl)) (.nil _)))))))))) ?_
      · (try simp only [foldN, foldR, foldL, Int.toNat_natCast])
        omega
      · (try simp only [foldN, foldR, foldL, Int.toNat_natCast])
        omega
      · (try simp only [foldN, foldR, foldL, Int.toNat_natCast])
        omega
      refine awp_seq ?_
      refine awp_region rfl (.n (fun _ => op_move (.plain rfl)) (.n (fun _ => op_call2 Tryd.call67 (.plain rfl) (.plain rfl) (digit_fc (m % 10) ?_)) (.n (fun _ => op_assign (.plain rfl)) (.nil _)))) ?_
      · (try simp only [foldN, foldR, foldL, Int.toNat_natCast])
        omega
      refine awp_seq ?_
      refine awp_region rfl (.n (fun _ => op_move (.plain rfl)) (.n (fun _ => op_add (.plain rfl) (.plain rfl) ?_) (.n (fun _ => op_conv8 Tryd.underlying3 Tryd.underlying5 (.plain rfl) ?_) (.n (fun _ => op_slit (pp := [(0, _)]) (α := Int) (d := 0) (f := (fun n => [.int .u8 n])) [_] ety41 rfl ⟨rfl, (.plain rfl), (by simp), trivial⟩ rfl (by decide) rfl) (.n (fun _ => op_byteStr Tryd.underlying41 Tryd.underlying5 Tryd.underlying9 (.plain rfl)) (.n (fun _ => op_move (.plain rfl)) (.n (fun _ => op_addS (.plain rfl) (.plain rfl) ?_) (.n (fun _ => op_assign (.plain rfl)) (.nil _))))))))) ?_
      · (try simp only [foldN, foldR, foldL, Int.toNat_natCast])
        unfold InR; omega
      · (try simp only [foldN, foldR, foldL, Int.toNat_natCast])
        omega
      · (try simp only [foldN, foldR, foldL, Int.toNat_natCast])
        show 1 + 0 ≤ _
        omega
      refine awp_region rfl (.n (fun _ => op_move (.plain rfl)) (.n (fun _ => op_assign (.plain rfl)) (.nil _))) ?_
      refine ⟨(0, byteS (48 + (m : Int))), .inr ⟨rfl, rfl⟩, by dsimp only; omega, (Ent.kept ⟨(congrArg (fun n => some (SV.pv (PV.str (natF n)))) (show m / 10 = 0 by omega)), (congrArg (fun s => some (SV.pv (PV.str s))) ((append_nilS _).trans (by rw [show m % 10 = m by omega]))), trivial⟩ trivial)⟩
    · (try simp only [decide_eq_true_eq, decide_eq_false_iff_not, Bool.and_eq_true, Bool.or_eq_true, Bool.and_eq_false_iff, Bool.or_eq_false_iff, Bool.not_eq_true', Bool.not_eq_false', Bool.not_eq_true, Bool.not_eq_false, Bool.true_eq_false, Bool.false_eq_true] at h); (try simp only [foldN, foldR, foldL, Int.toNat_natCast] at h)
      have hm0 : m = 0 := natF_nil.1 h
      refine awp_exit ?_
      refine awp_seq ?_
      refine awp_region rfl (.n (fun _ => op_move (.plain rfl)) (.n (fun _ => op_assign (.plain rfl)) (.nil _))) ?_
      refine awp_ret ?_
      refine retQ.ret ?_
      refine ret1 rfl rfl rfl ?_
      rcases hp with ⟨e1, _⟩ | ⟨_, e2⟩
      · omega
      · rw [e2]

set_option maxRecDepth 1000000 in
set_option maxHeartbeats 1000000 in
theorem Make1_fc (n : Nat) (hn : n < 256) : FC Tryd.prog 64 [.bool false, .str (natF n), .str (natF 1)] (.agg [.bool false, .str (natF n), .str (natF 1)]) := by
  refine FC.intro Tryd.func64 rfl (Nat.le_of_ble_eq_true rfl) fun hfit => ?_
  have fit0 := hfit _ (.head _)
  have fit1 := hfit _ (.tail _ (.head _))
  have fit2 := hfit _ (.tail _ (.tail _ (.head _)))
  refine awp_seq ?_
  refine awp_region rfl (.e (op_alloc 6 Tryd.zeroValue78 rfl rfl rfl) rfl (.nil _)) ?_
  refine awp_seq ?_
  refine awp_region rfl (.n (fun _ => op_move (.plain rfl)) (.n (fun _ => op_call1 Tryd.call65 (.plain rfl) (Trim256_fc n hn)) (.n (fun _ => op_assign (.plain rfl)) (.nil _)))) ?_
  refine awp_seq ?_
  refine awp_region rfl (.n (fun _ => op_move (.plain rfl)) (.n (fun _ => op_call1 Tryd.call65 (.plain rfl) (Trim256_fc 1 (by omega))) (.n (fun _ => op_assign (.plain rfl)) (.nil _)))) ?_
  refine awp_seq ?_
  refine awp_seq ?_
  refine awp_region rfl (.n (fun _ => op_move (.plain rfl)) (.n (fun _ => op_str_eql Tryd.underlying76 (.plain rfl) (.plain rfl)) (.n (fun _ => op_move (.plain rfl)) (.gn rfl rfl (fun hg _ => op_move (.plain rfl)) (.gn rfl rfl (fun hg _ => op_str_eql Tryd.underlying76 (.opt rfl fun h => h) (.plain rfl)) (.n (fun _ => op_or (.plain rfl) (.plain rfl) (.plain rfl) (fun h => eqF h)) (.nil _))))))) ?_
  refine awp_cond rfl (fun h => ?_) (fun h => ?_)
  · skip
    have h0 : n = 0 := Classical.byContradiction fun c => by
      have c1 : ¬ natF n = ⟨#[]⟩ := fun e => c (natF_nil.1 e)
      have c2 : ¬ natF 1 = ⟨#[]⟩ := fun e => absurd (natF_nil.1 e) (by decide)
      rw [decide_eq_false c1, decide_eq_false c2] at h
      cases h
    subst h0
    refine awp_seq ?_
    refine awp_region rfl (.n (fun _ => op_build (pp := [(2, _)]) (places := #[(0, 1), (1, 1), (2, 1)]) Tryd.underlying78 Tryd.zeroValue78 rfl (by intro w; kernel_rfl) ⟨rfl, (.plain rfl), (by simp), trivial⟩ rfl) (.e (op_storeRA Tryd.sizeOf78 (.plain rfl) (.plain rfl) rfl rfl (Nat.le_of_ble_eq_true rfl) rfl) rfl (.nil _))) ?_
    refine awp_ret ?_
    refine retQ.ret ?_
    refine retC rfl rfl Tryd.isAgg78 Tryd.sizeOf78 ?_
    rfl
  · skip
    refine awp_skip ?_
    refine awp_seq ?_
    refine awp_region rfl (.n (fun _ => op_move (.plain rfl)) (.n (fun _ => op_move (.plain rfl)) (.n (fun _ => op_call2 Tryd.call88 (.plain rfl) (.plain rfl) (Gcd_fc n 1 hn (by omega))) (.n (fun _ => op_assign (.plain rfl)) (.nil _))))) ?_
    refine awp_seq ?_
    refine awp_seq ?_
    refine awp_region rfl (.n (fun _ => op_move (.plain rfl)) (.n (fun _ => op_str_neq Tryd.underlying76 (.plain rfl) (.plain rfl)) (.nil _))) ?_
    refine awp_cond rfl (fun h => ?_) (fun h => ?_)
    · skip
      exfalso
      rw [Nat.gcd_one_right] at h
      exact absurd h (by decide)
    · skip
      refine awp_skip ?_
      refine awp_seq ?_
      refine awp_region rfl (.n (fun _ => op_move (.plain rfl)) (.n (fun _ => op_move (.plain rfl)) (.n (fun _ => op_move (.plain rfl)) (.n (fun _ => op_build (pp := [(0, _), (1, _), (2, _)]) (places := #[(0, 1), (1, 1), (2, 1)]) Tryd.underlying78 Tryd.zeroValue78 rfl (by intro w; kernel_rfl) ⟨rfl, (.plain rfl), (by simp), rfl, (.plain rfl), (by simp), rfl, (.plain rfl), (by simp), trivial⟩ rfl) (.e (op_storeRA Tryd.sizeOf78 (.plain rfl) (.plain rfl) rfl rfl (Nat.le_of_ble_eq_true rfl) rfl) rfl (.nil _)))))) ?_
      refine awp_ret ?_
      refine retQ.ret ?_
      refine retC rfl rfl Tryd.isAgg78 Tryd.sizeOf78 ?_
      rfl

set_option maxRecDepth 1000000 in
set_option maxHeartbeats 1000000 in
theorem Canon1_fc (n : Nat) (hn : n < 256) : FC Tryd.prog 49 [.agg [.bool false, .str (natF n), .str (natF 1)]] (.agg [.bool false, .str (natF n), .str (natF 1)]) := by
  refine FC.intro Tryd.func49 rfl (Nat.le_of_ble_eq_true rfl) fun hfit => ?_
  have fit0 := hfit _ (.head _)
  refine awp_seq ?_
  refine awp_region rfl (.n (fun _ => op_box (.plain rfl) (by simp)) (.e (op_alloc 2 Tryd.zeroValue78 rfl rfl rfl) rfl (.nil _))) ?_
  refine awp_seq ?_
  refine awp_region rfl (.n (fun _ => op_fieldAddr Tryd.underlying78 rfl rfl Tryd.sizeOf4 (.plain rfl)) (.n (fun _ => op_load Tryd.isAgg4 (.plain rfl)) (.n (fun _ => op_fieldAddr Tryd.underlying78 rfl rfl Tryd.sizeOf76 (.plain rfl)) (.n (fun _ => op_load Tryd.isAgg76 (.plain rfl)) (.n (fun _ => op_fieldAddr Tryd.underlying78 rfl rfl Tryd.sizeOf76 (.plain rfl)) (.n (fun _ => op_load Tryd.isAgg76 (.plain rfl)) (.n (fun _ => op_call3 Tryd.call64 (.plain rfl) (.plain rfl) (.plain rfl) (Make1_fc n hn)) (.e (op_storeRA Tryd.sizeOf78 (.plain rfl) (.plain rfl) rfl rfl (Nat.le_of_ble_eq_true rfl) rfl) rfl (.nil _))))))))) ?_
  refine awp_ret ?_
  refine retQ.ret ?_
  refine retC rfl rfl Tryd.isAgg78 Tryd.sizeOf78 ?_
  rfl

set_option maxRecDepth 1000000 in
set_option maxHeartbeats 1000000 in
theorem Of_fc (n : Nat) (x : Int) (hx : x = n) (hn : n < 256) : FC Tryd.prog 38 [.i x] (.agg [.bool false, .str (natF n), .str (natF 1)]) := by
  subst hx
  refine FC.intro Tryd.func38 rfl (Nat.le_of_ble_eq_true rfl) fun hfit => ?_
  refine awp_seq ?_
  refine awp_region rfl (.e (op_alloc 2 Tryd.zeroValue78 rfl rfl rfl) rfl (.nil _)) ?_
  refine awp_seq ?_
  refine awp_seq ?_
  refine awp_region rfl (.n (fun _ => op_move (.plain rfl)) (.n (fun _ => op_lss (.plain rfl) (.plain rfl)) (.nil _))) ?_
  refine awp_cond rfl (fun h => ?_) (fun h => ?_)
  · (try simp only [decide_eq_true_eq, decide_eq_false_iff_not, Bool.and_eq_true, Bool.or_eq_true, Bool.and_eq_false_iff, Bool.or_eq_false_iff, Bool.not_eq_true', Bool.not_eq_false', Bool.not_eq_true, Bool.not_eq_false, Bool.true_eq_false, Bool.false_eq_true] at h); (try simp only [foldN, foldR, foldL, Int.toNat_natCast] at h)
    exfalso
    omega
  · (try simp only [decide_eq_true_eq, decide_eq_false_iff_not, Bool.and_eq_true, Bool.or_eq_true, Bool.and_eq_false_iff, Bool.or_eq_false_iff, Bool.not_eq_true', Bool.not_eq_false', Bool.not_eq_true, Bool.not_eq_false, Bool.true_eq_false, Bool.false_eq_true] at h); (try simp only [foldN, foldR, foldL, Int.toNat_natCast] at h)
    refine awp_skip ?_
    refine awp_seq ?_
    refine awp_region rfl (.n (fun _ => op_move (.plain rfl)) (.n (fun _ => op_call1 Tryd.call51 (.plain rfl) (NatOf_fc n _ ?_ hn)) (.n (fun _ => op_assign (.plain rfl)) (.nil _)))) ?_
    · (try simp only [foldN, foldR, foldL, Int.toNat_natCast])
      try (first | rfl | omega)
    refine awp_seq ?_
    refine awp_region rfl (.n (fun _ => op_move (.plain rfl)) (.n (fun _ => op_build (pp := [(1, _), (2, _)]) (places := #[(0, 1), (1, 1), (2, 1)]) Tryd.underlying78 Tryd.zeroValue78 rfl (by intro w; kernel_rfl) ⟨rfl, (.plain rfl), (by simp), rfl, (.plain rfl), (by simp), trivial⟩ rfl) (.e (op_storeRA Tryd.sizeOf78 (.plain rfl) (.plain rfl) rfl rfl (Nat.le_of_ble_eq_true rfl) rfl) rfl (.nil _)))) ?_
    refine awp_ret ?_
    refine retQ.ret ?_
    refine retC rfl rfl Tryd.isAgg78 Tryd.sizeOf78 ?_
    rfl

set_option maxRecDepth 1000000 in
set_option maxHeartbeats 1000000 in
theorem Text_fc (n : Nat) (hn : n < 10) : FC Tryd.prog 37 [.agg [.bool false, .str (natF n), .str (natF 1)]] (.str (byteS (48 + (n : Int)))) := by
  refine FC.intro Tryd.func37 rfl (Nat.le_of_ble_eq_true rfl) fun hfit => ?_
  have fit0 := hfit _ (.head _)
  refine awp_seq ?_
  refine awp_region rfl (.e (op_boxO 1 (.plain rfl) (by simp) rfl) rfl (.n (fun _ => op_assign (.plain rfl)) (.nil _))) ?_
  refine awp_seq ?_
  refine awp_region rfl (.r (op_loadRA Tryd.isAgg78 Tryd.sizeOf78 (.plain rfl) rfl (by first | (simp; done) | exact Nat.le_of_ble_eq_true rfl) rfl) (.n (fun _ => op_call1 Tryd.call49 (.plain rfl) (Canon1_fc n (by omega))) (.e (op_storeRA Tryd.sizeOf78 (.plain rfl) (.plain rfl) rfl rfl (Nat.le_of_ble_eq_true rfl) rfl) rfl (.nil _)))) ?_
  refine awp_seq ?_
  refine awp_region rfl (.n (fun _ => op_fieldAddrR Tryd.underlying78 rfl rfl Tryd.sizeOf76 (.plain rfl)) (.r (op_loadR Tryd.isAgg76 (.plain rfl) rfl rfl) (.n (fun _ => op_call1 Tryd.call50 (.plain rfl) (NatText_fc n hn)) (.n (fun _ => op_assign (.plain rfl)) (.nil _))))) ?_
  refine awp_seq ?_
  refine awp_seq ?_
  refine awp_region rfl (.n (fun _ => op_fieldAddrR Tryd.underlying78 rfl rfl Tryd.sizeOf4 (.plain rfl)) (.r (op_loadR Tryd.isAgg4 (.plain rfl) rfl rfl) (.nil _))) ?_
  refine awp_cond rfl (fun h => ?_) (fun h => ?_)
  · skip
    exfalso
    cases h
  · skip
    refine awp_skip ?_
    refine awp_seq ?_
    refine awp_seq ?_
    refine awp_region rfl (.n (fun _ => op_fieldAddrR Tryd.underlying78 rfl rfl Tryd.sizeOf76 (.plain rfl)) (.r (op_loadR Tryd.isAgg76 (.plain rfl) rfl rfl) (.n (fun _ => op_str_neq Tryd.underlying76 (.plain rfl) (.plain rfl)) (.nil _)))) ?_
    refine awp_cond rfl (fun h => ?_) (fun h => ?_)
    · skip
      exfalso
      exact absurd h (by decide)
    · skip
      refine awp_skip ?_
      refine awp_seq ?_
      refine awp_region rfl (.n (fun _ => op_move (.plain rfl)) (.n (fun _ => op_assign (.plain rfl)) (.nil _))) ?_
      refine awp_ret ?_
      refine retQ.ret ?_
      refine ret1 rfl rfl rfl ?_
      rfl

end Go.Proofs.YtolmcapbpliaiaaDoor

