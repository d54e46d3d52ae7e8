/- The reference's Op and Num. -/
import Derived.Test.YtiegkhoidabkhaaDoorA7
import Derived.Test.YtiegkhoidabkhaaDoorB13
namespace Go.Proofs.YtiegkhoidabkhaaDoor
open Go.Shelf Go.RowKit

set_option maxRecDepth 100000 in
set_option maxHeartbeats 1000000 in
theorem op_ref (s : List UInt8) (w : World) : Calls Tryd.prog 45 #[S s] w fun e w' => e = .returned (.int .i64 (opOf s)) ∧ Below w.heap.size w w' := by
  go_enter Tryd.func45, Tryd.ntmps45
  go_wp2_with fail
  refine (words_any _ (by rfl) _).mono ?_
  rintro e w2 ⟨g, cap, rfl, hcw, hgs, hb⟩
  have HC := Lib.hid hcw
  have HB := Lib.hid hb
  clear hcw hb
  go_wp2
  go_loop [7] (fun v7 => ∃ k : Nat, k ≤ 22 ∧ v7 = .int .i64 k ∧ ∀ j, j < k → wordL[j]? ≠ some s) (fun v7 => 22 - (intOf v7).toNat)
  case atStart => exact ⟨0, by omega, rfl, fun _ h => absurd h (by omega)⟩
  case round =>
    obtain ⟨k, hk, rfl, hj⟩ := hrel
    have HJ := Lib.hid hj; clear hj
    by_cases hlt : k < 22
    · obtain ⟨x, hx⟩ : ∃ x, wordL[k]? = some x := ⟨wordL[k]'(by simpa [wordL] using hlt), List.getElem?_eq_getElem _⟩
      have hc : w2.cell? ⟨g, k, none⟩ = some (S x) := by
        have := HC.out (k : Int) (by omega) (by omega)
        rw [Int.toNat_natCast] at this
        rw [this]
        simp [wordOf, List.getD_eq_getElem?_getD, hx]
      have HX := Lib.hid hx; clear hx
      by_cases he : x = s
      · subst he
        have hb : (x == x) = true := by simp
        go_wp2
        go_ret
        exact ⟨ret_int (opOf_yes x k HX.out HJ.out).symm, HB.out⟩
      · have hb : (x == s) = false := by simp [he]
        have HE := Lib.hid he; clear he
        go_wp2
        go_round
        case rel => exact ⟨k + 1, by omega, by go_num, fun j hj => by
          by_cases h : j = k
          · rw [h, HX.out]; simpa using HE.out
          · exact HJ.out j (by omega)⟩
        case measure => simp [intOf]; omega
    · go_wp2
      go_ret
      exact ⟨ret_int (opOf_no s fun j hj => HJ.out j (by omega)).symm, HB.out⟩
end Go.Proofs.YtiegkhoidabkhaaDoor
