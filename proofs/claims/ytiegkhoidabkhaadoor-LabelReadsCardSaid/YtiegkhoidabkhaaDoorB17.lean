/- Plain words: lines as a text; a line that says nothing, put into a text. -/
import Derived.Test.YtiegkhoidabkhaaDoorB16
namespace Go.Proofs.YtiegkhoidabkhaaDoor

def joinT : List (List UInt8) → List UInt8
  | [] => []
  | l :: ls => l ++ ls.flatMap fun x => 10 :: x
theorem joinT_snoc (ls : List (List UInt8)) (l : List UInt8) : joinT (ls ++ [l]) = if ls = [] then l else joinT ls ++ 10 :: l := by
  cases ls with
  | nil => simp [joinT]
  | cons a r => simp [joinT]
def joinOk (ls : List (List UInt8)) : Bool := decide (ls.length ≤ 60) && decide (∀ k, k < ls.length → (joinT (ls.take k)).length + (ls.getD k []).length ≤ 2048 ∧ (10 : UInt8) ∉ ls.getD k [])
theorem pieces_one {c : UInt8} {s : List UInt8} : (pieces c s).length ≤ 1 ↔ c ∉ s := by
  constructor
  · intro h hc
    obtain ⟨a, b, rfl, ha⟩ : ∃ a b, s = a ++ c :: b ∧ c ∉ a := by
      clear h
      induction s with
      | nil => cases hc
      | cons x s ih =>
        by_cases hx : x = c
        · exact ⟨[], s, by rw [hx]; rfl, by simp⟩
        · rcases List.mem_cons.1 hc with e | hc'
          · exact absurd e.symm hx
          · obtain ⟨a, b, e, ha⟩ := ih hc'
            exact ⟨x :: a, b, by rw [e]; rfl, by
              intro h
              rcases List.mem_cons.1 h with e | h
              · exact hx e.symm
              · exact ha h⟩
    unfold pieces at h
    rw [piecesFrom_hit c a [] b ha] at h
    have := (piecesFrom_len c b []).1
    simp only [List.length_cons] at h
    omega
  · intro h
    unfold pieces
    rw [piecesFrom_none c s [] h]
    simp
theorem joinOk_ls {ls : List (List UInt8)} (h : joinOk ls = true) : ls.length ≤ 60 ∧ (∀ l ∈ ls, (10 : UInt8) ∉ l) ∧ (joinT ls).length ≤ 2049 := by
  simp only [joinOk, Bool.and_eq_true, decide_eq_true_eq] at h
  obtain ⟨h1, h2⟩ := h
  refine ⟨h1, fun l hl => ?_, ?_⟩
  · obtain ⟨i, hi, rfl⟩ := List.getElem_of_mem hl
    have := (h2 i hi).2
    rwa [List.getD_eq_getElem?_getD, List.getElem?_eq_getElem hi] at this
  · rcases List.eq_nil_or_concat ls with rfl | ⟨r, l, rfl⟩
    · simp [joinT]
    · have := (h2 r.length (by simp)).1
      rw [List.concat_eq_append] at this ⊢
      rw [joinT_snoc]
      simp at this
      split
      · omega
      · simp; omega
theorem numL_join (ls : List (List UInt8)) (h : ∀ l ∈ ls, (10 : UInt8) ∉ l) : linesOf (joinT ls) = numL 1 ls := by
  unfold linesOf
  cases ls with
  | nil => rfl
  | cons l ls =>
    rw [show joinT (l :: ls) = l ++ ls.flatMap fun x => (10 : UInt8) :: x from rfl, pieces_join 10 l ls (h l (List.mem_cons_self ..)) (fun x hx => h x (List.mem_cons_of_mem _ hx))]
theorem sum_join (ls : List (List UInt8)) : (ls.flatMap fun x => x ++ [10]).length ≤ (joinT ls).length + 1 := by
  cases ls with
  | nil => simp
  | cons l ls =>
    have : ∀ ls : List (List UInt8), (ls.flatMap fun x => x ++ [(10 : UInt8)]).length = (ls.flatMap fun x => (10 : UInt8) :: x).length := fun ls => by
      induction ls with
      | nil => rfl
      | cons l ls ih => rw [List.flatMap_cons, List.flatMap_cons, List.length_append, List.length_append, ih]; simp; omega
    rw [List.flatMap_cons, List.length_append, this, joinT]
    simp; omega
theorem walk_of_read {text : List UInt8} {s : Sheet} (h : readS text = .inr s) : text.length ≤ 4096 ∧ ∃ s1, runS (linesOf text) = some s1 ∧ endS s1 = .inr s := by
  unfold readS at h
  split at h
  · cases h
  · rename_i hl
    refine ⟨by omega, ?_⟩
    split at h
    · cases h
    · rename_i s1 hw
      exact ⟨s1, walk_run _ _ hw, h⟩
theorem line_le {ls : List (List UInt8)} {l : List UInt8} (h : l ∈ ls) : l.length ≤ (ls.flatMap fun x => x ++ [(10 : UInt8)]).length := by
  obtain ⟨a, b, rfl⟩ := List.append_of_mem h
  simp; omega
/-- A line that says nothing that can be, put into lines that are read. -/
theorem faults_read {ls : List (List UInt8)} {k : Nat} {bad : List UInt8} {s : Sheet} (hj : joinOk ls = true) (hr : readS (joinT ls) = .inr s) (hk : k ≤ ls.length) (hb : parseOf bad = none) (hn : bad ≠ []) (h10 : (10 : UInt8) ∉ bad) (hbl : bad.length ≤ 100) :
    readS ((ls.take k ++ bad :: ls.drop k).flatMap fun x => x ++ [10]) = .inl ((k : Int) + 1, 60) := by
  obtain ⟨h60, hno, hlen⟩ := joinOk_ls hj
  obtain ⟨_, s1, hs1, _⟩ := walk_of_read hr
  rw [numL_join ls hno] at hs1
  obtain ⟨sk, hsk, _⟩ := run_upto hs1 k
  have hno' : ∀ l ∈ ls.take k ++ bad :: ls.drop k, (10 : UInt8) ∉ l := by
    intro l hl
    rcases List.mem_append.1 hl with h | h
    · exact hno l (List.mem_of_mem_take h)
    · rcases List.mem_cons.1 h with rfl | h
      · exact h10
      · exact hno l (List.mem_of_mem_drop h)
  have hsum := sum_join ls
  have htot : ((ls.take k ++ bad :: ls.drop k).flatMap fun x => x ++ [(10 : UInt8)]).length ≤ 2049 + 1 + 101 := by
    have e : (ls.flatMap fun x => x ++ [(10 : UInt8)]).length = ((ls.take k).flatMap fun x => x ++ [(10 : UInt8)]).length + ((ls.drop k).flatMap fun x => x ++ [(10 : UInt8)]).length := by
      rw [← List.length_append, ← List.flatMap_append, List.take_append_drop]
    rw [List.flatMap_append, List.flatMap_cons, List.length_append, List.length_append]
    simp only [List.length_append, List.length_cons, List.length_nil]
    omega
  have hL : linesOf ((ls.take k ++ bad :: ls.drop k).flatMap fun x => x ++ [10]) = numL 1 (ls.take k ++ bad :: ls.drop k ++ [[]]) := by
    unfold linesOf
    rw [pieces_lines 10 _ hno']
  have hkl : (ls.take k).length = k := by rw [List.length_take]; omega
  unfold readS
  rw [if_neg (by omega), hL, @walkS_line_no (ls.take k ++ bad :: ls.drop k ++ [[]]) ?_ k bad ?_ hn sk ?_ ?_]
  · intro l hl
    rcases List.mem_append.1 hl with h | h
    · have := line_le h; omega
    · rw [List.mem_singleton] at h; subst h; simp
  · rw [List.append_assoc, List.getElem?_append_right (by omega), hkl]; simp
  · rw [List.append_assoc, List.take_append_of_le_length (by omega), List.take_take, Nat.min_self]; exact hsk
  · unfold takeS; rw [hb]
end Go.Proofs.YtiegkhoidabkhaaDoor
