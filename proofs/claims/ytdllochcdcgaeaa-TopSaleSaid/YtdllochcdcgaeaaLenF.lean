/- bits.Len, of a number that is not below 0, on plain values. Conditions: the number is so. -/
import Derived.Test.YtdllochcdcgaeaaLen
import Derived.Test.YtdllochcdcgaeaaAbsF
namespace Go.Proofs.Ytdllochcdcgaeaa
open Go.Abs
theorem bitLenAux_iff : ∀ (f x n : Nat), x < 2 ^ f → (Lib.bitLenAux f x ≤ n ↔ x < 2 ^ n)
  | 0, x, n, h => by
    have : 0 < 2 ^ n := Nat.two_pow_pos n
    simp only [Lib.bitLenAux]
    omega
  | f + 1, x, n, h => by
    unfold Lib.bitLenAux
    split
    · rename_i e; subst e
      have : 0 < 2 ^ n := Nat.two_pow_pos n
      omega
    · cases n with
      | zero => simp; omega
      | succ n =>
        have := bitLenAux_iff f (x / 2) n (by rw [Nat.pow_succ] at h; omega)
        rw [Nat.pow_succ]
        omega
theorem Len_fc (m : Int) (h0 : 0 ≤ m) (h1 : m ≤ 9223372036854775807) : FC Try.prog 37 [.int .u64 m] (.i (Lib.bitLen m.toNat : Nat)) := by
  intro w vs F hF hr
  obtain ⟨x, xs, rfl, hx, hxs⟩ := hr.cons_inv
  obtain rfl := hxs.nil_inv
  obtain rfl := hx.int_inv
  refine Calls.mono (Try.bits_Len m w h0 (by omega)) ?_
  rintro e w' ⟨rfl, rfl⟩
  refine ⟨_, rfl, .int _ _ (inK_i64.2 ?_), rfl, rfl, rfl, Nat.le_refl _, fun b _ => rfl⟩
  have : Lib.bitLen m.toNat ≤ 64 := Lib.bitLen_le _ 64 (by omega) (by omega)
  unfold InR
  omega
end Go.Proofs.Ytdllochcdcgaeaa
