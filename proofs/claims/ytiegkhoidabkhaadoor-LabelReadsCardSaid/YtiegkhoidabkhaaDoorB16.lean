/- Plain words: the reference's second way through the lines. -/
import Derived.Test.YtiegkhoidabkhaaDoorB15
import Derived.Test.YtiegkhoidabkhaaDoorA33
namespace Go.Proofs.YtiegkhoidabkhaaDoor

theorem atR_marks (ms : List Place) (n : List UInt8) : atR (ms.map Place.key) n = if hasMark ms n = true then atMark ms n else -1 := by
  unfold atR atMark hasMark
  rw [List.find?_map]
  have e : ((fun p : List UInt8 × Int => p.1 == n) ∘ Place.key) = fun p : Place => p.name == n := rfl
  rw [e]
  cases h : ms.find? fun p => p.name == n with
  | none =>
    have : ms.any (fun p => p.name == n) = false := by
      rw [List.any_eq_false]
      intro x hx
      exact List.find?_eq_none.1 h x hx
    rw [this]; simp
  | some q =>
    have : ms.any (fun p => p.name == n) = true := by
      rw [List.any_eq_true]
      exact ⟨q, List.mem_of_find?_eq_some h, (List.find?_eq_some_iff_append.1 h).1⟩
    rw [this]; simp [Place.key]
theorem takeS_goals {s s' : Sheet} {n : Int} {l : List UInt8} (h : takeS s n l = some s') : s.goals <+: s'.goals := by
  unfold takeS at h
  split at h
  · cases h
  · split at h
    · unfold takeIns at h
      split at h
      · cases h
      · obtain rfl := Option.some.inj h
        show s.goals <+: if _ then _ else _
        split
        · exact List.prefix_rfl
        · exact List.prefix_append _ _
    · unfold takeMark at h
      split at h
      · cases h
      · obtain rfl := Option.some.inj h
        exact List.prefix_rfl
theorem runS_app (a : List (Nat × List UInt8)) : ∀ (b : List (Nat × List UInt8)) (s : Sheet), runS (a ++ b) = some s → ∃ s1, runS a = some s1 ∧ s1.goals <+: s.goals :=
  snoc_ind (fun s h => ⟨s, by simpa using h, List.prefix_rfl⟩) fun l x ih s h => by
    rw [← List.append_assoc, runS_snoc] at h
    cases h1 : runS (a ++ l) with
    | none => rw [h1] at h; cases h
    | some s2 =>
      rw [h1] at h
      obtain ⟨s1, h2, h3⟩ := ih s2 h1
      exact ⟨s1, h2, h3.trans (takeS_goals h)⟩
/-- What was read ahead of line i. -/
theorem run_upto {L : List (List UInt8)} {s : Sheet} (h : runS (numL 1 L) = some s) (i : Nat) : ∃ si, runS (numL 1 (L.take i)) = some si ∧ si.goals <+: s.goals := by
  obtain ⟨b, hb⟩ := numL_take L i 1
  rw [← hb] at h
  exact runS_app _ b s h
theorem parse_mark_head {l : List UInt8} {y : Say} (h : parseOf l = some y) (hh : l.head? = some 58) : y.mark ≠ [] ∧ y.goal = [] ∧ y.mark = l.tail := by
  rw [parseOf, if_pos hh] at h
  unfold markOf at h
  split at h
  · rename_i hn
    rw [← Option.some.inj h]
    exact ⟨by intro e; simp only at e; rw [e] at hn; simp [nameB] at hn, rfl, rfl⟩
  · cases h
theorem parse_instr_head {l : List UInt8} {y : Say} (h : parseOf l = some y) (hh : l.head? ≠ some 58) : y.mark = [] ∧ instrOf l = some y := by
  rw [parseOf, if_neg hh] at h
  refine ⟨?_, h⟩
  unfold instrOf at h
  split at h
  · cases h
  · split at h
    · cases h
    · split at h
      · rw [← Option.some.inj h]
      · cases h
/-- A line more that was taken: what it says. -/
theorem run_line {L : List (List UInt8)} {s : Sheet} (h : runS (numL 1 L) = some s) (hl : ∀ l ∈ L, l.length ≤ 4096) {i : Nat} {l : List UInt8} (hi : L[i]? = some l) {si : Sheet} (hs : runS (numL 1 (L.take i)) = some si) :
    (l = [] ∧ runS (numL 1 (L.take (i + 1))) = some si) ∨ (l ≠ [] ∧ ∃ s', takeS si (i + 1 : Nat) l = some s' ∧ runS (numL 1 (L.take (i + 1))) = some s' ∧ s'.goals <+: s.goals) := by
  by_cases he : l = []
  · left
    refine ⟨he, ?_⟩
    rw [numL_snoc hi, if_pos he, List.append_nil]; exact hs
  · right
    refine ⟨he, ?_⟩
    obtain ⟨s', h1, h2⟩ := run_upto h (i + 1)
    have h3 := h1
    rw [numL_snoc hi, if_neg he, runS_snoc, hs] at h3
    refine ⟨s', ?_, h1, h2⟩
    have h4 : takeS si ((1 + i : Nat) : Int) (l.take 4096) = some s' := h3
    rw [List.take_of_length_le (hl l (List.mem_of_getElem? hi)), Nat.add_comm] at h4
    exact h4
theorem take_mark_is {s s' : Sheet} {n : Int} {l : List UInt8} (h : takeS s n l = some s') (hh : l.head? = some 58) : s'.prog = s.prog ∧ s'.goals = s.goals ∧ hasMark s.marks l.tail = false ∧ s'.marks = s.marks ++ [⟨l.tail, n, s.prog.length⟩] ∧ nameB l.tail = true := by
  unfold takeS at h
  cases hp : parseOf l with
  | none => rw [hp] at h; cases h
  | some y =>
    rw [hp] at h
    obtain ⟨h1, h2, h3⟩ := parse_mark_head hp hh
    simp only [if_neg h1] at h
    unfold takeMark at h
    split at h
    · cases h
    · rename_i hm
      obtain rfl := Option.some.inj h
      rw [h3] at hm ⊢
      refine ⟨rfl, rfl, by simpa using hm, rfl, ?_⟩
      rw [parseOf, if_pos hh] at hp
      unfold markOf at hp
      split at hp
      · assumption
      · cases hp
theorem take_instr_is {s s' : Sheet} {n : Int} {l : List UInt8} (h : takeS s n l = some s') (hh : l.head? ≠ some 58) : ∃ y, instrOf l = some y ∧ s.prog.length < 48 ∧ s'.prog = s.prog ++ [insOf y] ∧ s'.marks = s.marks ∧ s'.goals = (if y.goal = [] then s.goals else s.goals ++ [⟨y.goal, n, s.prog.length⟩]) := by
  unfold takeS at h
  cases hp : parseOf l with
  | none => rw [hp] at h; cases h
  | some y =>
    rw [hp] at h
    obtain ⟨h1, h2⟩ := parse_instr_head hp hh
    simp only [if_pos h1] at h
    unfold takeIns at h
    split at h
    · cases h
    · obtain rfl := Option.some.inj h
      exact ⟨y, h2, by omega, rfl, rfl, rfl⟩
theorem prefix_at {α : Type} {a b : List α} {x : α} (h : a ++ [x] <+: b) : b[a.length]? = some x := by
  obtain ⟨r, rfl⟩ := h
  simp
theorem walkS_line_no {L : List (List UInt8)} (hl : ∀ l ∈ L, l.length ≤ 4096) {i : Nat} {l : List UInt8} (hi : L[i]? = some l) (hne : l ≠ []) {si : Sheet} (hs : runS (numL 1 (L.take i)) = some si) (ht : takeS si (i + 1 : Nat) l = none) :
    walkS Sheet.empty (numL 1 L) = .inl ((i : Int) + 1) := by
  have h := @walk_stop (numL 1 L) (numL 1 (L.take i)) (1 + i, l) si hs (by
    show takeS si ((1 + i : Nat) : Int) (l.take 4096) = none
    rw [List.take_of_length_le (hl l (List.mem_of_getElem? hi)), Nat.add_comm]; exact ht) (by
      have := numL_take L (i + 1) 1
      rwa [numL_snoc hi, if_neg hne] at this)
  rw [h]
  congr 1
  show ((1 + i : Nat) : Int) = _
  omega
end Go.Proofs.YtiegkhoidabkhaaDoor
