/- Plain words: the lines that say nothing, and the text that one of them is put into. -/
import Derived.Test.YtiegkhoidabkhaaDoorB17
namespace Go.Proofs.YtiegkhoidabkhaaDoor

def oddL : List (List UInt8) := [[58], [58, 49, 97], [58, 97, 97, 97, 97, 97, 97, 97, 97, 97], [104, 97, 108, 116, 32, 48], [106, 117, 109, 112, 32, 51, 32, 48, 32, 48], [99, 111, 110, 115, 116, 32, 48], [101, 108, 115, 101], [32, 104, 97, 108, 116], [104, 97, 108, 116, 32], [119, 104, 97, 116], [97, 100, 100, 32, 48, 49, 32, 48], [97, 98, 111, 114, 116, 32, 45, 48]]
structure OddOk (b : List UInt8) : Prop where
  none : parseOf b = none
  ne : b ≠ []
  no : (10 : UInt8) ∉ b
  few : b.length ≤ 100
theorem odd_ok (i : Nat) (h : i < 12) : OddOk (oddL.getD i []) := by
  match i, h with
  | 0, _ => exact ⟨by kernel_rfl, by decide, by decide, by decide⟩
  | 1, _ => exact ⟨by kernel_rfl, by decide, by decide, by decide⟩
  | 2, _ => exact ⟨by kernel_rfl, by decide, by decide, by decide⟩
  | 3, _ => exact ⟨by kernel_rfl, by decide, by decide, by decide⟩
  | 4, _ => exact ⟨by kernel_rfl, by decide, by decide, by decide⟩
  | 5, _ => exact ⟨by kernel_rfl, by decide, by decide, by decide⟩
  | 6, _ => exact ⟨by kernel_rfl, by decide, by decide, by decide⟩
  | 7, _ => exact ⟨by kernel_rfl, by decide, by decide, by decide⟩
  | 8, _ => exact ⟨by kernel_rfl, by decide, by decide, by decide⟩
  | 9, _ => exact ⟨by kernel_rfl, by decide, by decide, by decide⟩
  | 10, _ => exact ⟨by kernel_rfl, by decide, by decide, by decide⟩
  | 11, _ => exact ⟨by kernel_rfl, by decide, by decide, by decide⟩

def putL (ls : List (List UInt8)) (bad : List UInt8) (k i : Nat) : List (List UInt8) := if i ≤ k then ls.take i else ls.take k ++ bad :: (ls.take i).drop k
def putT (ls : List (List UInt8)) (bad : List UInt8) (k i : Nat) : List UInt8 := (putL ls bad k i).flatMap fun x => x ++ [10]
theorem putT_zero (ls : List (List UInt8)) (bad : List UInt8) (k : Nat) : putT ls bad k 0 = [] := by simp [putT, putL]
theorem take_more (ls : List (List UInt8)) : ls.take (ls.length + 1) = ls := List.take_of_length_le (by omega)
theorem putT_all {ls : List (List UInt8)} {bad : List UInt8} {k : Nat} (hk : k ≤ ls.length) : putT ls bad k (ls.length + 1) = (ls.take k ++ bad :: ls.drop k).flatMap fun x => x ++ [10] := by
  rw [putT, putL, if_neg (by omega), take_more]
theorem putT_at {ls : List (List UInt8)} {bad : List UInt8} {k : Nat} {l : List UInt8} (hi : ls[k]? = some l) : putT ls bad k (k + 1) = putT ls bad k k ++ (bad ++ [10]) ++ (l ++ [10]) := by
  have hk := (List.getElem?_eq_some_iff.1 hi).1
  rw [putT, putT, putL, putL, if_neg (by omega), if_pos (Nat.le_refl _), List.take_add_one, hi]
  have e : (List.take k ls ++ (some l).toList).drop k = [l] := by
    rw [List.drop_append_of_le_length (by simp; omega)]
    simp
  rw [e]
  simp
theorem putT_end {ls : List (List UInt8)} {bad : List UInt8} : putT ls bad ls.length (ls.length + 1) = putT ls bad ls.length ls.length ++ (bad ++ [10]) := by
  rw [putT, putT, putL, putL, if_neg (by omega), if_pos (Nat.le_refl _), take_more]
  simp
theorem putT_other {ls : List (List UInt8)} {bad : List UInt8} {k i : Nat} (hne : i ≠ k) {l : List UInt8} (hi : ls[i]? = some l) : putT ls bad k (i + 1) = putT ls bad k i ++ (l ++ [10]) := by
  have hil := (List.getElem?_eq_some_iff.1 hi).1
  have ht : ls.take (i + 1) = ls.take i ++ [l] := by rw [List.take_add_one, hi]; rfl
  rw [putT, putT, putL, putL]
  by_cases h : i ≤ k
  · rw [if_pos (by omega), if_pos h, ht]; simp
  · rw [if_neg (by omega), if_neg h, ht, List.drop_append_of_le_length (by simp; omega)]
    simp
theorem putT_out {ls : List (List UInt8)} {bad : List UInt8} {k : Nat} (hk : k < ls.length) : putT ls bad k (ls.length + 1) = putT ls bad k ls.length := by
  rw [putT, putT, putL, putL, if_neg (by omega), if_neg (by omega), take_more, List.take_length]
theorem flat_take (ls : List (List UInt8)) (i : Nat) : ((ls.take i).flatMap fun x => x ++ [(10 : UInt8)]).length ≤ (ls.flatMap fun x => x ++ [(10 : UInt8)]).length := by
  have e : (ls.flatMap fun x => x ++ [(10 : UInt8)]).length = ((ls.take i).flatMap fun x => x ++ [(10 : UInt8)]).length + ((ls.drop i).flatMap fun x => x ++ [(10 : UInt8)]).length := by
    rw [← List.length_append, ← List.flatMap_append, List.take_append_drop]
  omega
theorem putT_len {ls : List (List UInt8)} {bad : List UInt8} (hj : joinOk ls = true) (hb : bad.length ≤ 100) (k i : Nat) : (putT ls bad k i).length ≤ 3000 := by
  have h1 := (joinOk_ls hj).2.2
  have h2 := sum_join ls
  rw [putT, putL]
  split
  · have := flat_take ls i; omega
  · rename_i hik
    rw [List.flatMap_append, List.flatMap_cons, List.length_append, List.length_append]
    have e : ((ls.take i).flatMap fun x => x ++ [(10 : UInt8)]).length = ((ls.take k).flatMap fun x => x ++ [(10 : UInt8)]).length + (((ls.take i).drop k).flatMap fun x => x ++ [(10 : UInt8)]).length := by
      have h3 := List.take_append_drop k (ls.take i)
      rw [List.take_take, Nat.min_eq_left (by omega)] at h3
      rw [← List.length_append, ← List.flatMap_append, h3]
    have := flat_take ls i
    simp only [List.length_append, List.length_singleton]
    omega
end Go.Proofs.YtiegkhoidabkhaaDoor
