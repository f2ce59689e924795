/- strings.IndexByte and strings.Trim at an ASCII cutset, off the shelf, as contracts on plain values. Conditions: the cutset is ASCII and short. -/
import Derived.Test.YtolmcapbpliaiaaDoorProg
import Derived.WalkKit
import Derived.Shelf.Strings.SlTrimAscii
import Derived.Shelf.Small.Strs
namespace Go.Proofs
open Go.Shelf Go.RowKit
def Tryd.lays160_ren : Go.Shelf.Ren := ⟨fun | 160 => 54 | 232 => 71 | 231 => 70 | 227 => 72 | 234 => 74 | 233 => 73 | 236 => 76 | 235 => 75 | 228 => 92 | 271 => 94 | 151 => 93 | 197 => 78 | 120 => 108 | 152 => 107 | 260 => 95 | 137 => 53 | 119 => 113 | 224 => 97 | 225 => 96 | 217 => 69 | 266 => 91 | n => n, fun | 9 => 9 | 4 => 4 | 3 => 3 | 5 => 5 | 117 => 115 | 116 => 114 | 0 => 0 | 124 => 118 | 21 => 21 | 105 => 119 | 46 => 128 | 119 => 144 | 139 => 147 | 138 => 146 | n => n, fun | 3 => 2 | 4 => 3 | n => n⟩
theorem Tryd.lays160 : Go.Proofs.Lays.n160 Tryd.prog Tryd.lays160_ren := {
  mixed := by kernel_rfl
  f119 := Tryd.func113.trans (congrArg some (by kernel_rfl))
  f120 := Tryd.func108.trans (congrArg some (by kernel_rfl))
  f137 := Tryd.func53.trans (congrArg some (by kernel_rfl))
  f151 := Tryd.func93.trans (congrArg some (by kernel_rfl))
  f152 := Tryd.func107.trans (congrArg some (by kernel_rfl))
  f160 := Tryd.func54.trans (congrArg some (by kernel_rfl))
  f197 := Tryd.func78.trans (congrArg some (by kernel_rfl))
  f217 := Tryd.func69.trans (congrArg some (by kernel_rfl))
  f224 := Tryd.func97.trans (congrArg some (by kernel_rfl))
  f225 := Tryd.func96.trans (congrArg some (by kernel_rfl))
  f227 := Tryd.func72.trans (congrArg some (by kernel_rfl))
  f228 := Tryd.func92.trans (congrArg some (by kernel_rfl))
  f231 := Tryd.func70.trans (congrArg some (by kernel_rfl))
  f232 := Tryd.func71.trans (congrArg some (by kernel_rfl))
  f233 := Tryd.func73.trans (congrArg some (by kernel_rfl))
  f234 := Tryd.func74.trans (congrArg some (by kernel_rfl))
  f235 := Tryd.func75.trans (congrArg some (by kernel_rfl))
  f236 := Tryd.func76.trans (congrArg some (by kernel_rfl))
  f260 := Tryd.func95.trans (congrArg some (by kernel_rfl))
  f266 := Tryd.func91.trans (congrArg some (by kernel_rfl))
  f271 := Tryd.func94.trans (congrArg some (by kernel_rfl))
  t0 := Tryd.underlying0
  a0 := Tryd.isAgg0
  z0 := Tryd.sizeOf0
  v0 := Tryd.zeroValue0
  t3 := Tryd.underlying3
  a3 := Tryd.isAgg3
  z3 := Tryd.sizeOf3
  v3 := Tryd.zeroValue3
  t4 := Tryd.underlying4
  a4 := Tryd.isAgg4
  z4 := Tryd.sizeOf4
  v4 := Tryd.zeroValue4
  t5 := Tryd.underlying5
  a5 := Tryd.isAgg5
  z5 := Tryd.sizeOf5
  v5 := Tryd.zeroValue5
  t9 := Tryd.underlying9
  a9 := Tryd.isAgg9
  z9 := Tryd.sizeOf9
  v9 := Tryd.zeroValue9
  t21 := Tryd.underlying21
  a21 := Tryd.isAgg21
  z21 := Tryd.sizeOf21
  v21 := Tryd.zeroValue21
  t46 := Tryd.underlying128
  a46 := Tryd.isAgg128
  z46 := Tryd.sizeOf128
  v46 := Tryd.zeroValue128
  t105 := Tryd.underlying119
  a105 := Tryd.isAgg119
  z105 := Tryd.sizeOf119
  v105 := Tryd.zeroValue119
  t116 := Tryd.underlying114
  a116 := Tryd.isAgg114
  z116 := Tryd.sizeOf114
  t117 := Tryd.underlying115
  a117 := Tryd.isAgg115
  z117 := Tryd.sizeOf115
  v117 := Tryd.zeroValue115
  t119 := Tryd.underlying144
  a119 := Tryd.isAgg144
  z119 := Tryd.sizeOf144
  t124 := Tryd.underlying118
  a124 := Tryd.isAgg118
  z124 := Tryd.sizeOf118
  v124 := Tryd.zeroValue118
  t138 := Tryd.underlying146
  a138 := Tryd.isAgg146
  z138 := Tryd.sizeOf146
  v138 := Tryd.zeroValue146
  t139 := Tryd.underlying147
  a139 := Tryd.isAgg147
  z139 := Tryd.sizeOf147
  v139 := Tryd.zeroValue147
  g3 := by kernel_rfl
  g4 := by kernel_rfl }
def Tryd.lays137_ren : Go.Shelf.Ren := ⟨fun | 137 => 53 | 217 => 69 | 266 => 91 | n => n, fun | 9 => 9 | 5 => 5 | 3 => 3 | n => n, fun | n => n⟩
theorem Tryd.lays137 : Go.Proofs.Lays.n137 Tryd.prog Tryd.lays137_ren := {
  mixed := by kernel_rfl
  f137 := Tryd.func53.trans (congrArg some (by kernel_rfl))
  f217 := Tryd.func69.trans (congrArg some (by kernel_rfl))
  f266 := Tryd.func91.trans (congrArg some (by kernel_rfl))
  t3 := Tryd.underlying3
  a3 := Tryd.isAgg3
  z3 := Tryd.sizeOf3
  v3 := Tryd.zeroValue3
  t5 := Tryd.underlying5
  a5 := Tryd.isAgg5
  z5 := Tryd.sizeOf5
  v5 := Tryd.zeroValue5
  t9 := Tryd.underlying9
  a9 := Tryd.isAgg9
  z9 := Tryd.sizeOf9
  v9 := Tryd.zeroValue9 }
theorem Tryd_trim (s cutset : ByteArray) (w : World) (hs : s.size ≤ 9223372036854775807) (hcs : cutset.size < 4294967281) (hascii : ∀ (j : Nat) b, cutset.data.toList[j]? = some b → b.toNat < 128) :
    Calls Tryd.prog 54 #[.string s, .string cutset] w fun e w' => e = .returned (.string ⟨(Lib.trimS s.data.toList cutset.data.toList).toArray⟩) ∧ Below w.heap.size w w' :=
  Any.strings_Trim_laid Tryd.lays160 (by kernel_rfl) s cutset w hs hcs hascii
theorem Tryd_indexByte (s : ByteArray) (c : Int) (w : World) :
    Calls Tryd.prog 53 #[.string s, .int .u8 c] w fun e w' => e = .returned (.int .i64 (Lib.indexByte s.data.toList c.toNat.toUInt8)) ∧ w' = w :=
  Any.strings_IndexByte Tryd.lays137 s c w
end Go.Proofs
