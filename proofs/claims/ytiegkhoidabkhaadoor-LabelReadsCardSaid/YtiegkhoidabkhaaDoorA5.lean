/- The reference's Behind, Named. -/
import Derived.Test.YtiegkhoidabkhaaDoorA4
namespace Go.Proofs.YtiegkhoidabkhaaDoor
open Go.Shelf Go.RowKit

theorem op_cases {k : Int} (h0 : 0 ≤ k) (h1 : k < 22) : k = 0 ∨ k = 1 ∨ k = 2 ∨ k = 3 ∨ k = 4 ∨ k = 5 ∨ k = 6 ∨ k = 7 ∨ k = 8 ∨ k = 9 ∨ k = 10 ∨ k = 11 ∨ k = 12 ∨ k = 13 ∨ k = 14 ∨ k = 15 ∨ k = 16 ∨ k = 17 ∨ k = 18 ∨ k = 19 ∨ k = 20 ∨ k = 21 := by omega
theorem ret_S {a b : List UInt8} (h : a = b) : Ending.returned (S a) = .returned (S b) := by rw [h]
set_option maxRecDepth 100000 in
theorem behind_any (k : Int) (h0 : 0 ≤ k) (h1 : k < 22) (w : World) :
    Calls Tryd.prog 26 #[.int .i64 k] w fun e w' => e = .returned (S (shapeOf k)) ∧ w' = w := by
  rcases op_cases h0 h1 with rfl | rfl | rfl | rfl | rfl | rfl | rfl | rfl | rfl | rfl | rfl | rfl | rfl | rfl | rfl | rfl | rfl | rfl | rfl | rfl | rfl | rfl
  all_goals
    go_enter Tryd.func26, Tryd.ntmps26
    go_wp2
    go_ret
    exact ⟨rfl, rfl⟩

set_option maxRecDepth 100000 in
theorem named_any (A : Option Addr) (p : List Ins) (c : Nat) (j : Int) (w : World) (hp : RdIns w A p) (hl : p.length ≤ 9223372036854775807) :
    Calls Tryd.prog 27 #[.slice A p.length c, .int .i64 j] w fun e w' => e = .returned (.bool (namedB p j)) ∧ Below w.heap.size w w' := by
  have HP := Lib.hid hp; clear hp
  go_enter Tryd.func27, Tryd.ntmps27
  go_wp2
  go_loopw [9] (fun v9 wr => ∃ k : Nat, k ≤ p.length ∧ v9 = .int .i64 k ∧ Hid (Below w.heap.size w wr) ∧ Hid (namedB (p.take k) j = false))
    (fun v9 wr => p.length - (intOf v9).toNat)
  case atStart => exact ⟨0, by omega, rfl, Below.refl _ _, rfl⟩
  case round =>
    obtain ⟨k, hk, rfl, HB, HO⟩ := hrel
    by_cases hlt : k < p.length
    · obtain ⟨x, hx⟩ : ∃ x, p[k]? = some x := ⟨_, List.getElem?_eq_getElem hlt⟩
      obtain ⟨ad, rfl, hc0, hc1, hc2, hc3⟩ := HP.out.belowH HB.out k x hx
      have htake : p.take (k + 1) = p.take k ++ [x] := by rw [List.take_add_one, hx]; rfl
      have hs := HB.out.size
      have HTK := Lib.hid htake; have HX := Lib.hid hx
      clear htake hx
      have go : ∀ b : Bool, (goes x && x.a == j) = b → (b = false → namedB (p.take (k + 1)) j = false) ∧ (b = true → namedB p j = true) := by
        intro b hb
        refine ⟨fun h => by rw [HTK.out, namedB_snoc, HO.out, hb, h]; rfl, fun h => ?_⟩
        unfold namedB
        rw [List.any_eq_true]
        exact ⟨x, List.mem_of_getElem? HX.out, by rw [hb, h]⟩
      have GO := Lib.hid go
      clear go
      by_cases hop : goes x = true
      · have h3 : x.op = 3 ∨ x.op = 20 := by simpa [goes] using hop
        have HOP := Lib.hid hop
        clear hop
        by_cases ha : x.a = j
        · have hab : (x.a == j) = true := by simp [ha]
          have HN := Lib.hid ((GO.out true (by rw [HOP.out, hab]; rfl)).2 rfl)
          clear ha
          rcases h3 with h3 | h3
          · have b3 : (x.op == 3) = true := by simp [h3]
            have H3 := Lib.hid h3; clear h3
            go_wp2
            go_ret
            exact ⟨ret_bool HN.out.symm, HB.out.alloc hs _⟩
          · have b3 : (x.op == 3) = false := by simp [h3]
            have b20 : (x.op == 20) = true := by simp [h3]
            have H3 := Lib.hid h3; clear h3
            go_wp2
            go_ret
            exact ⟨ret_bool HN.out.symm, HB.out.alloc hs _⟩
        · have hab : (x.a == j) = false := by simp [ha]
          have HN := Lib.hid ((GO.out false (by rw [HOP.out, hab]; rfl)).1 rfl)
          clear ha
          rcases h3 with h3 | h3
          · have b3 : (x.op == 3) = true := by simp [h3]
            have H3 := Lib.hid h3; clear h3
            go_wp2
            go_roundw
            case rel => exact ⟨k + 1, by omega, by go_num, HB.out.alloc hs _, HN⟩
            case measure => simp [intOf]; omega
          · have b3 : (x.op == 3) = false := by simp [h3]
            have b20 : (x.op == 20) = true := by simp [h3]
            have H3 := Lib.hid h3; clear h3
            go_wp2
            go_roundw
            case rel => exact ⟨k + 1, by omega, by go_num, HB.out.alloc hs _, HN⟩
            case measure => simp [intOf]; omega
      · have hgf : goes x = false := by simpa using hop
        have HN := Lib.hid ((GO.out false (by rw [hgf]; rfl)).1 rfl)
        have b3 : (x.op == 3) = false := by
          unfold goes at hgf
          cases h : (x.op == 3) <;> simp_all
        have b20 : (x.op == 20) = false := by
          unfold goes at hgf
          cases h : (x.op == 20) <;> simp_all
        clear hop hgf
        go_wp2
        go_roundw
        case rel => exact ⟨k + 1, by omega, by go_num, HB.out.alloc hs _, HN⟩
        case measure => simp [intOf]; omega
    · have hkl : k = p.length := by omega
      subst hkl
      have hz := HO.out
      rw [List.take_length] at hz
      have HZ := Lib.hid hz
      clear hz HO
      go_wp2
      go_ret
      exact ⟨ret_bool HZ.out.symm, HB.out⟩
end Go.Proofs.YtiegkhoidabkhaaDoor
