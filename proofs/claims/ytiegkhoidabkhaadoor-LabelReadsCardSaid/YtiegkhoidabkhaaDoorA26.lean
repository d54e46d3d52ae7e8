/- The laws' same: at two rows that hold one program. -/
import Derived.Test.YtiegkhoidabkhaaDoorA21
import Derived.BigQuiet
namespace Go.Proofs.YtiegkhoidabkhaaDoor
open Go.Shelf Go.RowKit Go.Maps

set_option maxRecDepth 100000 in
set_option maxHeartbeats 1000000 in
theorem same_any (A A' : Option Addr) (p : List Ins) (c c' : Nat) (w : World) (hp : RdIns w A p) (hq : RdIns w A' p) (hl : p.length ≤ 9223372036854775807) :
    Calls Tryd.prog 15 #[.slice A p.length c, .slice A' p.length c'] w fun e w' => e = .returned (.bool true) ∧ Below w.heap.size w w' := by
  have HP := Lib.hid hp; have HQ := Lib.hid hq
  clear hp hq
  go_enter Tryd.func15, Tryd.ntmps15
  go_wp2
  go_loopw [13] (fun v13 wr => ∃ k : Nat, k ≤ p.length ∧ v13 = .int .i64 k ∧ Hid (Below w.heap.size w wr))
    (fun v13 wr => p.length - (intOf v13).toNat)
  case atStart => exact ⟨0, by omega, rfl, Below.refl _ _⟩
  case round =>
    obtain ⟨k, hk, rfl, HB⟩ := hrel
    by_cases hlt : k < p.length
    · obtain ⟨x, hx⟩ : ∃ x, p[k]? = some x := ⟨_, List.getElem?_eq_getElem hlt⟩
      obtain ⟨ad, rfl, hc0, hc1, hc2, hc3⟩ := HP.out.belowH HB.out k x hx
      obtain ⟨ad', rfl, hd0, hd1, hd2, hd3⟩ := HQ.out.belowH HB.out k x hx
      clear hx
      go_wp2_with fail
      go_quiet (fail)
      go_wp2
      go_roundw
      case rel => exact ⟨k + 1, by omega, by go_num, below_drewN HB.out nq⟩
      case measure => simp [intOf]; omega
    · have hkl : k = p.length := by omega
      subst hkl
      go_wp2
      go_ret
      exact ⟨rfl, HB.out⟩
end Go.Proofs.YtiegkhoidabkhaaDoor
