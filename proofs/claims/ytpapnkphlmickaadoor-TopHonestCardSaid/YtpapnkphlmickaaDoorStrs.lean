/- strings.IndexByte and strings.Trim at an ASCII cutset, off the shelf, as contracts on plain values. Conditions: the cutset is ASCII and short. -/
import Derived.Test.YtpapnkphlmickaaDoorProg
import Derived.WalkKit
import Derived.Shelf.Strings.SlTrimAscii
import Derived.Shelf.Small.Strs
namespace Go.Proofs
open Go.Shelf Go.RowKit
def Tryd.lays160_ren : Go.Shelf.Ren := ⟨fun | 160 => 78 | 232 => 85 | 231 => 84 | 227 => 86 | 234 => 88 | 233 => 87 | 236 => 90 | 235 => 89 | 228 => 93 | 271 => 96 | 151 => 95 | 197 => 94 | 120 => 99 | 152 => 98 | 260 => 97 | 137 => 77 | 119 => 100 | 224 => 101 | 225 => 102 | 217 => 83 | 266 => 92 | n => n, fun | 9 => 9 | 4 => 4 | 3 => 3 | 5 => 5 | 117 => 101 | 116 => 100 | 0 => 0 | 124 => 104 | 21 => 21 | 105 => 106 | 46 => 111 | 119 => 110 | 139 => 114 | 138 => 113 | n => n, fun | 3 => 1 | 4 => 2 | n => n⟩
theorem Tryd.lays160 : Go.Proofs.Lays.n160 Tryd.prog Tryd.lays160_ren := {
  mixed := by kernel_rfl
  f119 := Tryd.func100.trans (congrArg some (by kernel_rfl))
  f120 := Tryd.func99.trans (congrArg some (by kernel_rfl))
  f137 := Tryd.func77.trans (congrArg some (by kernel_rfl))
  f151 := Tryd.func95.trans (congrArg some (by kernel_rfl))
  f152 := Tryd.func98.trans (congrArg some (by kernel_rfl))
  f160 := Tryd.func78.trans (congrArg some (by kernel_rfl))
  f197 := Tryd.func94.trans (congrArg some (by kernel_rfl))
  f217 := Tryd.func83.trans (congrArg some (by kernel_rfl))
  f224 := Tryd.func101.trans (congrArg some (by kernel_rfl))
  f225 := Tryd.func102.trans (congrArg some (by kernel_rfl))
  f227 := Tryd.func86.trans (congrArg some (by kernel_rfl))
  f228 := Tryd.func93.trans (congrArg some (by kernel_rfl))
  f231 := Tryd.func84.trans (congrArg some (by kernel_rfl))
  f232 := Tryd.func85.trans (congrArg some (by kernel_rfl))
  f233 := Tryd.func87.trans (congrArg some (by kernel_rfl))
  f234 := Tryd.func88.trans (congrArg some (by kernel_rfl))
  f235 := Tryd.func89.trans (congrArg some (by kernel_rfl))
  f236 := Tryd.func90.trans (congrArg some (by kernel_rfl))
  f260 := Tryd.func97.trans (congrArg some (by kernel_rfl))
  f266 := Tryd.func92.trans (congrArg some (by kernel_rfl))
  f271 := Tryd.func96.trans (congrArg some (by kernel_rfl))
  t0 := Tryd.underlying0
  a0 := Tryd.isAgg0
  z0 := Tryd.sizeOf0
  v0 := Tryd.zeroValue0
  t3 := Tryd.underlying3
  a3 := Tryd.isAgg3
  z3 := Tryd.sizeOf3
  v3 := Tryd.zeroValue3
  t4 := Tryd.underlying4
  a4 := Tryd.isAgg4
  z4 := Tryd.sizeOf4
  v4 := Tryd.zeroValue4
  t5 := Tryd.underlying5
  a5 := Tryd.isAgg5
  z5 := Tryd.sizeOf5
  v5 := Tryd.zeroValue5
  t9 := Tryd.underlying9
  a9 := Tryd.isAgg9
  z9 := Tryd.sizeOf9
  v9 := Tryd.zeroValue9
  t21 := Tryd.underlying21
  a21 := Tryd.isAgg21
  z21 := Tryd.sizeOf21
  v21 := Tryd.zeroValue21
  t46 := Tryd.underlying111
  a46 := Tryd.isAgg111
  z46 := Tryd.sizeOf111
  v46 := Tryd.zeroValue111
  t105 := Tryd.underlying106
  a105 := Tryd.isAgg106
  z105 := Tryd.sizeOf106
  v105 := Tryd.zeroValue106
  t116 := Tryd.underlying100
  a116 := Tryd.isAgg100
  z116 := Tryd.sizeOf100
  t117 := Tryd.underlying101
  a117 := Tryd.isAgg101
  z117 := Tryd.sizeOf101
  v117 := Tryd.zeroValue101
  t119 := Tryd.underlying110
  a119 := Tryd.isAgg110
  z119 := Tryd.sizeOf110
  t124 := Tryd.underlying104
  a124 := Tryd.isAgg104
  z124 := Tryd.sizeOf104
  v124 := Tryd.zeroValue104
  t138 := Tryd.underlying113
  a138 := Tryd.isAgg113
  z138 := Tryd.sizeOf113
  v138 := Tryd.zeroValue113
  t139 := Tryd.underlying114
  a139 := Tryd.isAgg114
  z139 := Tryd.sizeOf114
  v139 := Tryd.zeroValue114
  g3 := by kernel_rfl
  g4 := by kernel_rfl }
def Tryd.lays137_ren : Go.Shelf.Ren := ⟨fun | 137 => 77 | 217 => 83 | 266 => 92 | n => n, fun | 9 => 9 | 5 => 5 | 3 => 3 | n => n, fun | n => n⟩
theorem Tryd.lays137 : Go.Proofs.Lays.n137 Tryd.prog Tryd.lays137_ren := {
  mixed := by kernel_rfl
  f137 := Tryd.func77.trans (congrArg some (by kernel_rfl))
  f217 := Tryd.func83.trans (congrArg some (by kernel_rfl))
  f266 := Tryd.func92.trans (congrArg some (by kernel_rfl))
  t3 := Tryd.underlying3
  a3 := Tryd.isAgg3
  z3 := Tryd.sizeOf3
  v3 := Tryd.zeroValue3
  t5 := Tryd.underlying5
  a5 := Tryd.isAgg5
  z5 := Tryd.sizeOf5
  v5 := Tryd.zeroValue5
  t9 := Tryd.underlying9
  a9 := Tryd.isAgg9
  z9 := Tryd.sizeOf9
  v9 := Tryd.zeroValue9 }
theorem Tryd_trim (s cutset : ByteArray) (w : World) (hs : s.size ≤ 9223372036854775807) (hcs : cutset.size < 4294967281) (hascii : ∀ (j : Nat) b, cutset.data.toList[j]? = some b → b.toNat < 128) :
    Calls Tryd.prog 78 #[.string s, .string cutset] w fun e w' => e = .returned (.string ⟨(Lib.trimS s.data.toList cutset.data.toList).toArray⟩) ∧ Below w.heap.size w w' :=
  Any.strings_Trim_laid Tryd.lays160 (by kernel_rfl) s cutset w hs hcs hascii
theorem Tryd_indexByte (s : ByteArray) (c : Int) (w : World) :
    Calls Tryd.prog 77 #[.string s, .int .u8 c] w fun e w' => e = .returned (.int .i64 (Lib.indexByte s.data.toList c.toNat.toUInt8)) ∧ w' = w :=
  Any.strings_IndexByte Tryd.lays137 s c w
end Go.Proofs
