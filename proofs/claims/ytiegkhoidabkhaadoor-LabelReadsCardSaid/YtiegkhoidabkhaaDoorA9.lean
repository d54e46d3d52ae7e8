/- Names and numbers: label.name, the reference's Name, label.number. -/
import Derived.Test.YtiegkhoidabkhaaDoorA6
import Derived.Test.YtiegkhoidabkhaaDoorB3
namespace Go.Proofs.YtiegkhoidabkhaaDoor
open Go.Shelf Go.RowKit

set_option maxRecDepth 100000 in
set_option maxHeartbeats 1000000 in
theorem name_any (s : List UInt8) (hl : s.length ≤ 9223372036854775807) (w : World) :
    Calls Tryd.prog 68 #[S s] w fun e w' => e = .returned (.bool (nameB s)) ∧ w' = w := by
  by_cases h0 : s.length = 0
  · have : s = [] := List.eq_nil_of_length_eq_zero h0
    subst this
    go_enter Tryd.func68, Tryd.ntmps68
    go_wp2
    go_ret
    exact ⟨ret_bool (by simp [nameB]), rfl⟩
  by_cases h8 : 8 < s.length
  · have e0 : ((s.length : Int) == 0) = false := by rw [beq_eq_false_iff_ne]; omega
    have HN := Lib.hid (nameB_long h8)
    go_enter Tryd.func68, Tryd.ntmps68
    go_wp2
    all_goals go_ret
    all_goals exact ⟨ret_bool HN.out.symm, rfl⟩
  have e0 : ((s.length : Int) == 0) = false := by rw [beq_eq_false_iff_ne]; omega
  have h1 : 1 ≤ s.length := by omega
  have h8' : s.length ≤ 8 := by omega
  clear h0 h8
  go_enter Tryd.func68, Tryd.ntmps68
  go_wp2
  go_loop [16] (fun v16 => ∃ k : Nat, k ≤ s.length ∧ v16 = .int .i64 k ∧ Hid (∀ j, j < k → okAt s j = true)) (fun v16 => s.length - (intOf v16).toNat)
  case atStart => exact ⟨0, by omega, rfl, fun j h => absurd h (by omega)⟩
  case round =>
    obtain ⟨k, hk, rfl, HJ⟩ := hrel
    by_cases hlt : k < s.length
    · obtain ⟨c, hc⟩ : ∃ c, s[k]? = some c := ⟨_, List.getElem?_eq_getElem hlt⟩
      have HC := Lib.hid (okAt_some hc)
      have hix := fun w' => run_idx_str w' s k c hc
      clear hc
      go_wp2
      all_goals first
        | (go_ret
           have hN : nameB s = false := by
             refine nameB_bad hlt ?_
             rw [HC.out]
             go_light
             clear hix HC
             first
               | (simp_all [okC, letterB, digitB]; done)
               | (simp_all [okC, letterB, digitB]; omega)
           exact ⟨ret_bool hN.symm, rfl⟩)
        | (go_round
           case rel =>
             have hO : okAt s k = true := by
               rw [HC.out]
               go_light
               clear hix HC
               first
                 | (simp_all [okC, letterB, digitB]; done)
                 | (simp_all [okC, letterB, digitB]; omega)
             exact ⟨k + 1, by omega, by go_num, fun j hj => by
               by_cases h : j = k
               · rw [h]; exact hO
               · exact HJ.out j (by omega)⟩
           case measure => simp [intOf]; omega)
    · have hkl : k = s.length := by omega
      subst hkl
      have HN := Lib.hid (nameB_of h1 h8' HJ.out)
      go_wp2
      go_ret
      exact ⟨ret_bool HN.out.symm, rfl⟩

set_option maxRecDepth 100000 in
set_option maxHeartbeats 1000000 in
theorem name_ref (s : List UInt8) (hl : s.length ≤ 9223372036854775807) (w : World) :
    Calls Tryd.prog 44 #[S s] w fun e w' => e = .returned (.bool (nameB s)) ∧ w' = w := by
  go_enter Tryd.func44, Tryd.ntmps44
  go_wp2
  go_loop [3] (fun v3 => ∃ k : Nat, k ≤ s.length ∧ v3 = .int .i64 k ∧ Hid (∀ j, j < k → okAt s j = true)) (fun v3 => s.length - (intOf v3).toNat)
  case atStart => exact ⟨0, by omega, rfl, fun j h => absurd h (by omega)⟩
  case round =>
    obtain ⟨k, hk, rfl, HJ⟩ := hrel
    by_cases hlt : k < s.length
    · obtain ⟨c, hc⟩ : ∃ c, s[k]? = some c := ⟨_, List.getElem?_eq_getElem hlt⟩
      have HC := Lib.hid (okAt_some hc)
      have hix := fun w' => run_idx_str w' s k c hc
      clear hc
      go_wp2
      all_goals first
        | (go_ret
           have hN : nameB s = false := by
             refine nameB_bad hlt ?_
             rw [HC.out]
             go_light
             clear hix HC
             first
               | (simp_all [okC, letterB, digitB]; done)
               | (simp_all [okC, letterB, digitB]; omega)
           exact ⟨ret_bool hN.symm, rfl⟩)
        | (go_round
           case rel =>
             have hO : okAt s k = true := by
               rw [HC.out]
               go_light
               clear hix HC
               first
                 | (simp_all [okC, letterB, digitB]; done)
                 | (simp_all [okC, letterB, digitB]; omega)
             exact ⟨k + 1, by omega, by go_num, fun j hj => by
               by_cases h : j = k
               · rw [h]; exact hO
               · exact HJ.out j (by omega)⟩
           case measure => simp [intOf]; omega)
    · have hkl : k = s.length := by omega
      subst hkl
      by_cases h1 : 1 ≤ s.length
      · by_cases h8 : s.length ≤ 8
        · have HN := Lib.hid (nameB_of h1 h8 HJ.out)
          go_wp2
          go_ret
          exact ⟨ret_bool (by rw [HN.out]; simp; omega), rfl⟩
        · have HN := Lib.hid (nameB_long (s := s) (by omega))
          go_wp2
          go_ret
          exact ⟨ret_bool (by rw [HN.out]; simp; omega), rfl⟩
      · have h0 : s = [] := List.eq_nil_of_length_eq_zero (by omega)
        subst h0
        go_wp2
        go_ret
        exact ⟨ret_bool (by simp [nameB]), rfl⟩
end Go.Proofs.YtiegkhoidabkhaaDoor
