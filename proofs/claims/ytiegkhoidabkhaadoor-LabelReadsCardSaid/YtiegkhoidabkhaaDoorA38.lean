/- A slice of strings that came in, as a list; an integer that came in lies in its kind. -/
import Derived.Test.YtiegkhoidabkhaaDoorA25
import Derived.Test.YtiegkhoidabkhaaDoorA11
import Derived.SliceStrings
namespace Go.Proofs.YtiegkhoidabkhaaDoor
open Go.ChangeShapes Go.WideShapes Go.ChangeAt Go.RowKit

theorem open_lines {H : Type} {enc : TypeId × Value → H} {W : World} {fuel : Nat} {a0 : Option Addr} {l0 c0 : Nat} {x : DataW H × List MemPlace} (h : DataW.trod enc Tryd.prog W 0 (fun _ => true) true fuel 40 [.slice a0 l0 c0] = some x) :
    ∃ A ls c, Value.slice a0 l0 c0 = .slice A ls.length c ∧ RdStr W A ls ∧ ls.length ≤ 9223372036854775807 ∧ (∀ s ∈ ls, s.length ≤ 9223372036854775807) ∧ ls.length ≤ c := by
  have hv1 : ∀ u : Value, [Value.slice a0 l0 c0] = [u] → Value.slice a0 l0 c0 = u := fun u hu => by simpa using hu
  rcases open_strings Tryd.underlying40 Tryd.underlying9 cells9 h with ⟨hcs, _⟩ | ⟨a, len, cap, ss, hcs, _, hl, hm, hsl, _, hc, hz⟩
  · exact ⟨none, [], 0, hv1 _ hcs, fun i s hs => by simp at hs, by simp, by simp, by simp⟩
  · unfold maxLen at hm hz
    have hlen : len ≤ ss.length := by rw [hsl]; simp only [if_true]; exact hl
    refine ⟨some a, (ss.take len).map (·.data.toList), cap, by simpa [Nat.min_eq_left hlen] using hv1 _ hcs, fun i s hs => ?_, by simp; omega, ?_, by simp; omega⟩
    · refine ⟨a, rfl, ?_⟩
      rw [List.getElem?_map, Option.map_eq_some_iff] at hs
      obtain ⟨b, hb, rfl⟩ := hs
      have hi := (List.getElem?_eq_some_iff.1 hb).1
      rw [List.length_take] at hi
      have hb2 : ss[i]? = some b := by rw [List.getElem?_take_of_lt (by omega)] at hb; exact hb
      rw [hc i (by omega), List.getD_eq_getElem?_getD, hb2]
      cases b; simp
    · intro s hs
      obtain ⟨b, hb, rfl⟩ := List.mem_map.1 hs
      have := hz b (List.mem_of_mem_take hb)
      rw [Array.length_toList]
      exact this
theorem int_in {H : Type} {enc : TypeId × Value → H} {W : World} {base : Nat} {sp : Nat → Bool} {held : Bool} {n : Int} {d : DataW H} {ps : List MemPlace} (h : DataW.Trod enc Tryd.prog W base sp held 3 (.int .i64 n) d ps) : -9223372036854775808 ≤ n ∧ n ≤ 9223372036854775807 := by
  obtain ⟨fuel, hf⟩ := h
  obtain ⟨c, e, _, hw⟩ := DataW.trod_int Tryd.underlying3 hf
  have : n = c := by simpa [Value.cells] using e
  subst this
  exact i64_wf hw
end Go.Proofs.YtiegkhoidabkhaaDoor
