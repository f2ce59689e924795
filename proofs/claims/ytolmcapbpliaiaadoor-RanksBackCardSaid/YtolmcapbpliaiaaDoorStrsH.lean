/- strings.IndexByte and strings.Trim at an ASCII cutset, on plain values. Conditions: the cutset is ASCII and short. -/
import Derived.Test.YtolmcapbpliaiaaDoorStrsG
import Derived.Test.YtolmcapbpliaiaaDoorAbsW
namespace Go.Proofs.YtolmcapbpliaiaaDoor
open Go.Abs Go.RowKit
theorem dropWhile_len {α : Type} (p : α → Bool) : ∀ l : List α, (l.dropWhile p).length ≤ l.length
  | [] => Nat.le_refl _
  | a :: l => by
    simp only [List.dropWhile]
    split
    · exact Nat.le_succ_of_le (dropWhile_len p l)
    · exact Nat.le_refl _
theorem trimS_len (l cs : List UInt8) : (Lib.trimS l cs).length ≤ l.length := by
  unfold Lib.trimS Lib.trimLeftS Lib.trimRightS
  refine Nat.le_trans (dropWhile_len _ _) ?_
  rw [List.length_reverse]
  exact Nat.le_trans (dropWhile_len _ _) (by simp)
theorem Trim_fc (s c : ByteArray) (hc : c.size < 4294967281 ∧ c.data.toList.all (fun b => decide (b.toNat < 128)) = true) : FC Tryd.prog 54 [.str s, .str c] (.str ⟨(Lib.trimS s.data.toList c.data.toList).toArray⟩) := by
  intro w vs F hF hr
  obtain ⟨x, xs, rfl, hx, hxs⟩ := hr.cons_inv
  obtain ⟨y, ys, rfl, hy, hys⟩ := hxs.cons_inv
  obtain rfl := hys.nil_inv
  have hs := hx.fit.str_len
  obtain rfl := hx.str_inv
  obtain rfl := hy.str_inv
  refine Calls.mono (Tryd_trim s c w (by omega) hc.1 (ascii_of_all hc.2)) ?_
  rintro e w' ⟨rfl, hB⟩
  refine ⟨_, rfl, .str _ ?_, hB.os, hB.tape, hB.output, hB.size, hB.block⟩
  have := trimS_len s.data.toList c.data.toList
  have e : s.data.toList.length = s.size := by simp
  have e2 : ((⟨(Lib.trimS s.data.toList c.data.toList).toArray⟩ : ByteArray)).size = (Lib.trimS s.data.toList c.data.toList).length := by simp [ByteArray.size]
  omega
theorem indexByte_in (c : UInt8) : ∀ l : List UInt8, -1 ≤ Lib.indexByte l c ∧ Lib.indexByte l c < (l.length : Nat) + (1 : Int)
  | [] => by simp [Lib.indexByte]
  | b :: l => by
    have := indexByte_in c l
    simp only [Lib.indexByte, List.length_cons]
    split
    · omega
    · split <;> omega
theorem IndexByte_fc (s : ByteArray) (c : Int) : FC Tryd.prog 53 [.str s, .int .u8 c] (.i (Lib.indexByte s.data.toList c.toNat.toUInt8)) := by
  intro w vs F hF hr
  obtain ⟨x, xs, rfl, hx, hxs⟩ := hr.cons_inv
  obtain ⟨y, ys, rfl, hy, hys⟩ := hxs.cons_inv
  obtain rfl := hys.nil_inv
  have hs := hx.fit.str_len
  obtain rfl := hx.str_inv
  obtain rfl := hy.int_inv
  refine Calls.mono (Tryd_indexByte s c w) ?_
  rintro e w' ⟨rfl, rfl⟩
  refine ⟨_, rfl, .int _ _ (inK_i64.2 ?_), rfl, rfl, rfl, Nat.le_refl _, fun b _ => rfl⟩
  have h := indexByte_in c.toNat.toUInt8 s.data.toList
  have e : s.data.toList.length = s.size := by simp
  unfold InR
  omega
end Go.Proofs.YtolmcapbpliaiaaDoor
