/- The reference's At. The reference's Said. -/
import Derived.Test.YtiegkhoidabkhaaDoorA31
import Derived.Test.YtiegkhoidabkhaaDoorB11
import Derived.Test.YtiegkhoidabkhaaDoorA12
import Derived.Test.YtiegkhoidabkhaaDoorA9
namespace Go.Proofs.YtiegkhoidabkhaaDoor
open Go.Shelf Go.RowKit

/-- A slice of marks reads as a list. -/
def RdMk (w : World) (A : Option Addr) (ms : List (List UInt8 × Int)) : Prop := ∀ i x, ms[i]? = some x → ∃ ad, A = some ad ∧ w.cell? (ad.add (i * 2)) = some (S x.1) ∧ w.cell? ⟨(ad.add (i * 2)).block, (ad.add (i * 2)).off + 1, none⟩ = some (.int .i64 x.2)
theorem RdMk.belowH {w w1 : World} {A : Option Addr} {p : List (List UInt8 × Int)} (h : RdMk w A p) (hb : Below w.heap.size w w1) : RdMk w1 A p := fun i x hx => by
  obtain ⟨ad, e, h1, h2⟩ := h i x hx
  exact ⟨ad, e, cell_belowH hb h1, cell_belowH hb h2⟩
def atR (ms : List (List UInt8 × Int)) (n : List UInt8) : Int := match ms.find? fun p => p.1 == n with | some p => p.2 | none => -1
theorem atR_yes {ms : List (List UInt8 × Int)} {n : List UInt8} {k : Nat} {x : List UInt8 × Int} (h : ms[k]? = some x) (hx : x.1 = n) (hj : ∀ (j : Nat) (y : List UInt8 × Int), j < k → ms[j]? = some y → y.1 ≠ n) : atR ms n = x.2 := by
  have : ms.find? (fun p => p.1 == n) = some x := by
    rw [List.find?_eq_some_iff_getElem]
    obtain ⟨hk, he⟩ := List.getElem?_eq_some_iff.1 h
    refine ⟨by simp [hx], k, hk, he, fun j hj' => ?_⟩
    have := hj j ms[j] hj' (List.getElem?_eq_getElem (by omega))
    simpa using this
  unfold atR
  rw [this]
theorem atR_no {ms : List (List UInt8 × Int)} {n : List UInt8} (hj : ∀ (j : Nat) (y : List UInt8 × Int), ms[j]? = some y → y.1 ≠ n) : atR ms n = -1 := by
  have : ms.find? (fun p => p.1 == n) = none := by
    rw [List.find?_eq_none]
    intro x hx
    obtain ⟨i, hi⟩ := List.getElem?_of_mem hx
    simpa using hj i x hi
  unfold atR
  rw [this]

set_option maxRecDepth 100000 in
set_option maxHeartbeats 1000000 in
theorem at_ref (A : Option Addr) (ms : List (List UInt8 × Int)) (c : Nat) (n : List UInt8) (w : World) (hp : RdMk w A ms) (hl : ms.length ≤ 65536) :
    Calls Tryd.prog 33 #[.slice A ms.length c, S n] w fun e w' => e = .returned (.int .i64 (atR ms n)) ∧ Below w.heap.size w w' := by
  have HP := Lib.hid hp
  clear hp
  go_enter Tryd.func33, Tryd.ntmps33
  go_wp2
  go_loopw [9] (fun v9 wr => ∃ k : Nat, k ≤ ms.length ∧ v9 = .int .i64 k ∧ Hid (Below w.heap.size w wr) ∧ Hid (∀ (j : Nat) (y : List UInt8 × Int), j < k → ms[j]? = some y → y.1 ≠ n))
    (fun v9 wr => ms.length - (intOf v9).toNat)
  case atStart => exact ⟨0, by omega, rfl, Below.refl _ _, fun _ _ h => absurd h (by omega)⟩
  case round =>
    obtain ⟨k, hk, rfl, HB, HJ⟩ := hrel
    by_cases hlt : k < ms.length
    · obtain ⟨x, hx⟩ : ∃ x, ms[k]? = some x := ⟨_, List.getElem?_eq_getElem hlt⟩
      obtain ⟨ad, rfl, hc0, hc1⟩ := HP.out.belowH HB.out k x hx
      have HX := Lib.hid hx
      clear hx
      by_cases he : x.1 = n
      · have hb : (x.1 == n) = true := by simp [he]
        have HE := Lib.hid he
        clear he
        go_wp2
        go_ret
        exact ⟨ret_int (atR_yes HX.out HE.out HJ.out).symm, HB.out.alloc HB.out.size _⟩
      · have hb : (x.1 == n) = false := by simp [he]
        have HE := Lib.hid he
        clear he
        go_wp2
        go_roundw
        case rel => exact ⟨k + 1, by omega, by go_num, HB.out.alloc HB.out.size _, fun j y hj hy => by
          by_cases h : j = k
          · subst h
            have := HX.out.symm.trans hy
            injection this with this
            rw [← this]; exact HE.out
          · exact HJ.out j y (by omega) hy⟩
        case measure => simp [intOf]; omega
    · go_wp2
      go_ret
      exact ⟨ret_int (atR_no fun j y hy => HJ.out j y (by have := (List.getElem?_eq_some_iff.1 hy).1; omega) hy).symm, HB.out⟩
end Go.Proofs.YtiegkhoidabkhaaDoor
namespace Go.Proofs.YtiegkhoidabkhaaDoor
open Go.Shelf Go.RowKit

theorem extract_tail2 (c : UInt8) (d : List UInt8) : (⟨(c :: d).toArray⟩ : ByteArray).extract 1 (d.length + 1) = ⟨d.toArray⟩ := by
  rw [extract_S]
  simp
set_option maxRecDepth 100000 in
set_option maxHeartbeats 1000000 in
theorem said_mark (r : List UInt8) (hl : r.length ≤ 65536) (w : World) :
    Calls Tryd.prog 32 #[S (58 :: r)] w fun e w' => e = .returned (.tuple #[lineV r [] 0 0 0 0, .bool (nameB r)]) ∧ Below w.heap.size w w' := by
  have hi := fun w' => idx_zero w' 58 r
  have hx := extract_tail2 58 r
  have hlen : ((58 :: r).length : Int) = r.length + 1 := by simp
  have h58 : (((58 : UInt8).toNat : Int) == 58) = true := rfl
  go_enter Tryd.func32, Tryd.ntmps32
  go_wp2_with fail
  refine forget (fun wo => Ob wo w.heap.size (.cells (lineCells [] [] 0 0 0 0) 80) ∧ Below w.heap.size w wo) ⟨Ob.new w _, (Below.refl _ _).alloc (Nat.le_refl _) _⟩ ?_
  rintro wo ⟨hO, hB⟩
  have o0 : wo.cell? ⟨w.heap.size, 0, none⟩ = some (S []) := hO.cell 0
  have o1 : wo.cell? ⟨w.heap.size, 1, none⟩ = some (S []) := hO.cell 1
  have o2 : wo.cell? ⟨w.heap.size, 2, none⟩ = some (.int .i64 0) := hO.cell 2
  have o3 : wo.cell? ⟨w.heap.size, 3, none⟩ = some (.int .i64 0) := hO.cell 3
  have o4 : wo.cell? ⟨w.heap.size, 4, none⟩ = some (.int .i64 0) := hO.cell 4
  have o5 : wo.cell? ⟨w.heap.size, 5, none⟩ = some (.int .i64 0) := hO.cell 5
  have of : ∀ j, wo.frozen? ⟨w.heap.size, j, none⟩ = false := fun j => hO.frozen j
  have HB := Lib.hid hB
  clear hO hB
  go_region_with ((go_at_call 44; refine (name_ref r (by omega) _).mono ?_; rintro e w' ⟨rfl, rfl⟩))
  all_goals
    go_wp2
    refine bodyPost_ret (v := .tuple #[lineV r [] 0 0 0 0, .bool (nameB r)]) (by simp [results, Tryd.results32, go_sem, *]) rfl ⟨rfl, ?_⟩
    have hbb := HB.out
    go_grown
end Go.Proofs.YtiegkhoidabkhaaDoor
