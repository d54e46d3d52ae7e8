/- Plain words: lines that two more were put into are few enough; what is not held anywhere. -/
import Derived.Test.YtiegkhoidabkhaaDoorA39
import Derived.Test.YtiegkhoidabkhaaDoorB18
import Derived.Lib.IndexMore
namespace Go.Proofs.YtiegkhoidabkhaaDoor

theorem index_no (sub : List UInt8) (hn : sub ≠ []) : ∀ s : List UInt8, Lib.index s sub < 0 → ¬ sub <:+: s
  | [], _ => fun h => hn (List.eq_nil_of_infix_nil h)
  | b :: l, h => by
    unfold Lib.index at h
    split at h
    · omega
    · rename_i hp
      rw [List.infix_cons_iff]
      rintro (h1 | h1)
      · exact hp (List.isPrefixOf_iff_prefix.2 h1)
      · refine index_no sub hn l ?_ h1
        have h2 := Lib.index_ge l sub
        split at h
        · rename_i h3
          rw [beq_iff_eq] at h3; omega
        · omega
theorem contains_no {s sub : List UInt8} (h : Lib.contains s sub = false) (hn : sub ≠ []) : ¬ sub <:+: s := by
  unfold Lib.contains at h
  rw [decide_eq_false_iff_not] at h
  exact index_no sub hn s (by omega)
theorem infix_join {ls : List (List UInt8)} {l : List UInt8} (h : l ∈ ls) : l <:+: joinT ls := by
  obtain ⟨a, b, rfl⟩ := List.append_of_mem h
  rcases a with _ | ⟨x, a⟩
  · exact ⟨[], b.flatMap fun x => 10 :: x, by simp [joinT]⟩
  · exact ⟨x ++ (a.flatMap fun x => 10 :: x) ++ [10], b.flatMap fun x => 10 :: x, by simp [joinT]⟩
theorem join_le (ls : List (List UInt8)) : (joinT ls).length ≤ (ls.flatMap fun x => x ++ [(10 : UInt8)]).length := by
  cases ls with
  | nil => simp [joinT]
  | cons l ls =>
    have : ∀ ls : List (List UInt8), (ls.flatMap fun x => (10 : UInt8) :: x).length = (ls.flatMap fun x => x ++ [(10 : UInt8)]).length := fun ls => by
      induction ls with
      | nil => rfl
      | cons l ls ih => rw [List.flatMap_cons, List.flatMap_cons, List.length_append, List.length_append, ih]; simp
    rw [joinT, List.length_append, List.flatMap_cons, List.length_append, this]
    simp
theorem put_flat (ls : List (List UInt8)) (k : Nat) : ((putIn ls k).flatMap fun x => x ++ [(10 : UInt8)]).length = (ls.flatMap fun x => x ++ [(10 : UInt8)]).length + 11 := by
  have e : (ls.flatMap fun x => x ++ [(10 : UInt8)]).length = ((ls.take k).flatMap fun x => x ++ [(10 : UInt8)]).length + ((ls.drop k).flatMap fun x => x ++ [(10 : UInt8)]).length := by
    rw [← List.length_append, ← List.flatMap_append, List.take_append_drop]
  have z : zz.length = 8 := rfl
  rw [putIn, List.flatMap_append, List.flatMap_cons, List.flatMap_cons, List.length_append, List.length_append, List.length_append, e]
  simp only [List.length_append, List.length_cons, List.length_nil, z]
  omega
theorem put_mem {ls : List (List UInt8)} {k : Nat} {l : List UInt8} (h : l ∈ putIn ls k) : l ∈ ls ∨ l = [] ∨ l = 58 :: zz := by
  unfold putIn at h
  rcases List.mem_append.1 h with h | h
  · exact .inl (List.mem_of_mem_take h)
  · rcases List.mem_cons.1 h with rfl | h
    · exact .inr (.inl rfl)
    · rcases List.mem_cons.1 h with rfl | h
      · exact .inr (.inr rfl)
      · exact .inl (List.mem_of_mem_drop h)
theorem put_len {ls : List (List UInt8)} {k : Nat} (hk : k ≤ ls.length) : (putIn ls k).length = ls.length + 2 := by
  unfold putIn
  simp; omega
theorem flat_take' (ls : List (List UInt8)) (i : Nat) : ((ls.take i).flatMap fun x => x ++ [(10 : UInt8)]).length ≤ (ls.flatMap fun x => x ++ [(10 : UInt8)]).length := by
  have e : (ls.flatMap fun x => x ++ [(10 : UInt8)]).length = ((ls.take i).flatMap fun x => x ++ [(10 : UInt8)]).length + ((ls.drop i).flatMap fun x => x ++ [(10 : UInt8)]).length := by
    rw [← List.length_append, ← List.flatMap_append, List.take_append_drop]
  omega
theorem joinOk_put {ls : List (List UInt8)} {k : Nat} (hj : joinOk ls = true) (hk : k ≤ ls.length) (h58 : ls.length ≤ 58) (h2 : (joinT ls).length ≤ 2000) : joinOk (putIn ls k) = true := by
  obtain ⟨_, hno, _⟩ := joinOk_ls hj
  have hs := sum_join ls
  have hp := put_flat ls k
  refine joinOk_yes (by rw [put_len hk]; omega) fun j hjl => ?_
  obtain ⟨l, hl⟩ : ∃ l, (putIn ls k)[j]? = some l := ⟨_, List.getElem?_eq_getElem hjl⟩
  unfold LineOk
  rw [getD_of hl]
  constructor
  · have h1 := join_le ((putIn ls k).take j)
    have h3 := flat_take' (putIn ls k) (j + 1)
    rw [List.take_add_one, hl] at h3
    have e : (some l).toList = [l] := rfl
    rw [e, List.flatMap_append, List.length_append] at h3
    simp only [List.flatMap_cons, List.flatMap_nil, List.append_nil, List.length_append, List.length_singleton] at h3
    omega
  · rcases put_mem (List.mem_of_getElem? hl) with h | rfl | rfl
    · exact hno l h
    · simp
    · decide
end Go.Proofs.YtiegkhoidabkhaaDoor
