/- label.number. -/
import Derived.Test.YtiegkhoidabkhaaDoorA9
import Derived.Lib.AtoiErrMem
namespace Go.Proofs.YtiegkhoidabkhaaDoor
open Go.Shelf Go.RowKit

set_option maxRecDepth 100000 in
set_option maxHeartbeats 1000000 in
theorem number_yes (s : List UInt8) (hl : s.length ≤ 65536) (v : Int) (hv : numOf s = some v) (w : World) (hg : Gl w) :
    Calls Tryd.prog 81 #[S s] w fun e w' => e = .returned (.tuple #[.int .i64 v, .bool true]) ∧ Below w.heap.size w w' := by
  obtain ⟨ha, hi⟩ : Lib.atoiAll s = .ok v ∧ Lib.itoa v = s := by
    unfold numOf at hv
    split at hv
    · rename_i u hu
      split at hv
      · rename_i h
        have := Option.some.inj hv
        subst this
        exact ⟨hu, h⟩
      · cases hv
    · cases hv
  obtain ⟨b0, b1⟩ := Lib.atoiAll_bounds ha
  have hc : Calls Tryd.prog 87 #[S s] w fun e w' => e = .returned (.tuple #[.int .i64 v, .nilIface]) ∧ Below w.heap.size w w' := by
    refine (Tryd.strconv_Atoi_ok ⟨s.toArray⟩ (by simp [ByteArray.size]; omega) v (by simpa using ha) w).mono ?_
    rintro e w' ⟨rfl, rfl | ⟨t, rfl⟩⟩
    · exact ⟨rfl, Below.refl _ _⟩
    · exact ⟨rfl, Lib.bytesWorld_below _ _ _⟩
  have hit := fun w1 (hb : Below w.heap.size w w1) => itoa_any v b0 b1 w1 (hg.belowH hb)
  have HIT := Lib.hid hit
  have hcmp : (Lib.itoa v == s) = true := by simp [hi]
  have HI := Lib.hid hi
  clear hit hi ha hv hg
  go_enter Tryd.func81, Tryd.ntmps81
  go_wp2_with fail
  refine hc.mono ?_
  rintro e w1 ⟨rfl, hb1⟩
  have hit := HIT.out w1 hb1
  go_wp2_with fail
  refine hit.mono ?_
  rintro e w2 ⟨rfl, hb2⟩
  have hb3 := below_next hb1 hb2
  go_wp2_with fail
  go_ret2
  exact ⟨rfl, hb3⟩

set_option maxRecDepth 100000 in
set_option maxHeartbeats 1000000 in
theorem number_no (s : List UInt8) (hl : s.length ≤ 65536) (hv : numOf s = none) (w : World) (hg : Gl w) :
    Calls Tryd.prog 81 #[S s] w fun e w' => (∃ n, e = .returned (.tuple #[.int .i64 n, .bool false])) ∧ Below w.heap.size w w' := by
  by_cases ho : ∃ v, Lib.atoiAll s = .ok v
  · obtain ⟨v, ha⟩ := ho
    have hi : Lib.itoa v ≠ s := by
      intro h
      simp [numOf, ha, h] at hv
    obtain ⟨b0, b1⟩ := Lib.atoiAll_bounds ha
    have hc : Calls Tryd.prog 87 #[S s] w fun e w' => e = .returned (.tuple #[.int .i64 v, .nilIface]) ∧ Below w.heap.size w w' := by
      refine (Tryd.strconv_Atoi_ok ⟨s.toArray⟩ (by simp [ByteArray.size]; omega) v (by simpa using ha) w).mono ?_
      rintro e w' ⟨rfl, rfl | ⟨t, rfl⟩⟩
      · exact ⟨rfl, Below.refl _ _⟩
      · exact ⟨rfl, Lib.bytesWorld_below _ _ _⟩
    have hit := fun w1 (hb : Below w.heap.size w w1) => itoa_any v b0 b1 w1 (hg.belowH hb)
    have HIT := Lib.hid hit
    have hcmp : (Lib.itoa v == s) = false := by simp [hi]
    have HI := Lib.hid hi
    clear hit hi ha hv hg
    go_enter Tryd.func81, Tryd.ntmps81
    go_wp2_with fail
    refine hc.mono ?_
    rintro e w1 ⟨rfl, hb1⟩
    have hit := HIT.out w1 hb1
    go_wp2_with fail
    refine hit.mono ?_
    rintro e w2 ⟨rfl, hb2⟩
    have hb3 := below_next hb1 hb2
    go_wp2_with fail
    go_ret2
    exact ⟨⟨_, rfl⟩, hb3⟩
  · have hc : Calls Tryd.prog 87 #[S s] w fun e w' => ∃ n t q, e = .returned (.tuple #[.int .i64 n, .iface t q]) ∧ Below w.heap.size w w' := by
      rcases ha : Lib.atoiAll s with v | _ | _
      · exact absurd ⟨v, ha⟩ ho
      · obtain ⟨t, q, h⟩ := hg.syn
        refine (Any.strconv_Atoi_syntax_var Tryd.laysC172 ⟨s.toArray⟩ (by simp [ByteArray.size]; omega) (by simpa using ha) t q w h).mono ?_
        rintro e w' ⟨N, rfl, _, _, hb⟩
        exact ⟨_, _, _, rfl, hb⟩
      · obtain ⟨t, q, h⟩ := hg.rng
        refine (Tryd.strconv_Atoi_range_var ⟨s.toArray⟩ (by simp [ByteArray.size]; omega) (by simpa using ha) t q w h).mono ?_
        rintro e w' ⟨N, rfl, _, _, hb⟩
        exact ⟨_, _, _, rfl, hb⟩
    clear ho hv hg
    go_enter Tryd.func81, Tryd.ntmps81
    go_wp2_with fail
    refine hc.mono ?_
    rintro e w1 ⟨n, t, q, rfl, hb1⟩
    go_wp2_with fail
    go_ret2
    exact ⟨⟨_, rfl⟩, hb1⟩
end Go.Proofs.YtiegkhoidabkhaaDoor
