/- strings.IndexByte and strings.Trim at an ASCII cutset, off the shelf, as contracts on plain values. Conditions: the cutset is ASCII and short. -/
import Derived.Test.YtolmcapbpliaiaaDoorProg
import Derived.WalkKit
import Derived.Ground.NamesProg
import Derived.Shelf.Lay
import Derived.Shelf.Strings.SlTrimAscii
import Derived.Shelf.Small.Strs
namespace Go.Proofs
open Go.Shelf Go.RowKit
shelf_lay Lays.n160 Nm 160 at Tryd as Tryd.lays160
shelf_lay Lays.n137 Nm 137 at Tryd as Tryd.lays137
theorem Tryd_trim (s cutset : ByteArray) (w : World) (hs : s.size ≤ 9223372036854775807) (hcs : cutset.size < 4294967281) (hascii : ∀ (j : Nat) b, cutset.data.toList[j]? = some b → b.toNat < 128) :
    Calls Tryd.prog 54 #[.string s, .string cutset] w fun e w' => e = .returned (.string ⟨(Lib.trimS s.data.toList cutset.data.toList).toArray⟩) ∧ Below w.heap.size w w' :=
  Any.strings_Trim_laid Tryd.lays160 (by kernel_rfl) s cutset w hs hcs hascii
theorem Tryd_indexByte (s : ByteArray) (c : Int) (w : World) :
    Calls Tryd.prog 53 #[.string s, .int .u8 c] w fun e w' => e = .returned (.int .i64 (Lib.indexByte s.data.toList c.toNat.toUInt8)) ∧ w' = w :=
  Any.strings_IndexByte Tryd.lays137 s c w
end Go.Proofs
