/- A world for the rows' witnesses. -/
import Derived.Test.YtiegkhoidabkhaaDoorA23
import Derived.Deep.DeepHandedRow
import Derived.Deep.DeepWitnessRowRef
namespace Go.Proofs.YtiegkhoidabkhaaDoor
open Go.RowKit

def u8s (l : List Int) : Array Value := (l.map fun z => Value.int .u8 z).toArray
def tab32 : List Int := [0, 1, 28, 2, 29, 14, 24, 3, 30, 22, 20, 15, 25, 17, 4, 8, 31, 27, 13, 23, 21, 19, 16, 7, 26, 12, 18, 6, 11, 5, 10, 9]
def tab64 : List Int := [0, 1, 56, 2, 57, 49, 28, 3, 61, 58, 42, 50, 38, 29, 17, 4, 62, 47, 59, 36, 45, 43, 51, 22, 53, 39, 33, 30, 24, 18, 12, 5, 63, 55, 48, 27, 60, 41, 37, 16, 46, 35, 44, 21, 52, 32, 23, 11, 54, 26, 40, 15, 34, 20, 31, 10, 25, 14, 19, 9, 13, 8, 7, 6]
def accTab : List Int := [128, 191, 160, 191, 128, 159, 144, 191, 128, 143, 0, 0, 0, 0, 0, 0, 0, 0, 0, 0, 0, 0, 0, 0, 0, 0, 0, 0, 0, 0, 0, 0]
abbrev synS : ByteArray := ⟨#[105, 110, 118, 97, 108, 105, 100, 32, 115, 121, 110, 116, 97, 120]⟩
abbrev rngS : ByteArray := ⟨#[118, 97, 108, 117, 101, 32, 111, 117, 116, 32, 111, 102, 32, 114, 97, 110, 103, 101]⟩
/-- The listed variables as their initialisers lay them; two blocks more for the two errors. -/
noncomputable def laidWorld (os : Os) : World :=
  let w0 := World.holding Tryd.prog os ⟨#[.cells #[.string synS] 158, .cells #[.string rngS] 158], #[], []⟩
  let N := (World.holding Tryd.prog default ⟨#[], #[], []⟩).heap.size
  let put (h : Array Obj) (g : Nat) (cs : Array Value) : Array Obj := h.modify g fun
    | .cells _ t frozen => .cells cs t frozen
    | o => o
  let h := put w0.heap 0 (strs shapeL)
  let h := put h 1 (strs wordL)
  let h := put h 3 (Lib.pow10Tab.map fun z => Value.int .u64 z).toArray
  let h := put h 4 (u8s tab32)
  let h := put h 5 (u8s tab64)
  let h := put h 6 (u8s (Lib.firstTab.map fun z => z))
  let h := put h 7 (u8s accTab)
  let h := put h 8 #[.iface 156 (.pointer (some ⟨N, 0, none⟩))]
  let h := put h 9 #[.iface 156 (.pointer (some ⟨N + 1, 0, none⟩))]
  { w0 with heap := h }
set_option maxRecDepth 100000
theorem laid_met (os : Os) (args : Array Value) : laidMet Tryd.prog Rows.labelWritesRow.laid ((laidWorld os).forCall (fun _ _ => 0) ⟨#[], args, []⟩).memory :=
  laidMet_of_run' 8 (by kernel_rfl) (by kernel_rfl)
end Go.Proofs.YtiegkhoidabkhaaDoor
