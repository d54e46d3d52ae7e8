/- Plain words: the line that a reading tells is one of the text's. -/
import Derived.Test.YtiegkhoidabkhaaDoorB20
namespace Go.Proofs.YtiegkhoidabkhaaDoor

def LineIn (N : Nat) (n : Int) : Prop := 0 ≤ n ∧ n ≤ (N : Int)
theorem takeS_lines {N : Nat} {s t : Sheet} {i : Nat} {l : List UInt8} (hi : i ≤ N) (hs : ∀ g ∈ s.goals, LineIn N g.line) (h : takeS s i l = some t) : ∀ g ∈ t.goals, LineIn N g.line := by
  unfold takeS at h
  split at h
  · cases h
  · rename_i y _
    split at h
    · unfold takeIns at h
      split at h
      · cases h
      · obtain rfl := Option.some.inj h
        intro g hg
        have hg' : g ∈ (if y.goal = [] then s.goals else s.goals ++ [⟨y.goal, i, s.prog.length⟩]) := hg
        split at hg'
        · exact hs g hg'
        · rcases List.mem_append.1 hg' with hg' | hg'
          · exact hs g hg'
          · rw [List.mem_singleton] at hg'
            subst hg'
            exact ⟨by show (0 : Int) ≤ i; omega, by show (i : Int) ≤ N; omega⟩
    · unfold takeMark at h
      split at h
      · cases h
      · obtain rfl := Option.some.inj h
        exact hs
theorem walk_lines {N : Nat} : ∀ (xs : List (Nat × List UInt8)) (s : Sheet), (∀ x ∈ xs, x.1 ≤ N) → (∀ g ∈ s.goals, LineIn N g.line) →
    (∀ n, walkS s xs = .inl n → LineIn N n) ∧ (∀ t, walkS s xs = .inr t → ∀ g ∈ t.goals, LineIn N g.line)
  | [], s, _, hs => by
    refine ⟨fun n h => (by cases h), fun t h => ?_⟩
    have e : s = t := by injection h
    rw [← e]; exact hs
  | x :: xs, s, hx, hs => by
    have hx1 := hx x (List.mem_cons_self ..)
    rw [walkS]
    cases ht : takeS s x.1 (x.2.take 4096) with
    | none =>
      refine ⟨fun n h => ?_, fun t h => by cases h⟩
      injection h with h
      rw [← h]
      exact ⟨by omega, by omega⟩
    | some t => exact walk_lines xs t (fun y hy => hx y (List.mem_cons_of_mem _ hy)) (takeS_lines hx1 hs ht)
theorem goals_lines {N : Nat} {ms : List Place} : ∀ (gs : List Place) (p : List Ins) (n : Int), (∀ g ∈ gs, LineIn N g.line) → goalsS ms p gs = .inl n → LineIn N n
  | [], _, _, _, h => by cases h
  | g :: gs, p, n, hg, h => by
    rw [goalsS] at h
    split at h
    · exact goals_lines gs _ n (fun x hx => hg x (List.mem_cons_of_mem _ hx)) h
    · injection h with h
      rw [← h]
      exact hg g (List.mem_cons_self ..)
theorem numL_no : ∀ (L : List (List UInt8)) (i : Nat), ∀ x ∈ numL i L, x.1 ≤ i + L.length
  | [], _, x, hx => by simp [numL] at hx
  | s :: L, i, x, hx => by
    rw [numL] at hx
    simp only [List.length_cons]
    split at hx
    · have := numL_no L (i + 1) x hx; omega
    · rcases List.mem_cons.1 hx with rfl | hx
      · show i ≤ _; omega
      · have := numL_no L (i + 1) x hx; omega
theorem read_line {text : List UInt8} {n e : Int} (h : readS text = .inl (n, e)) : LineIn 5000 n := by
  unfold readS at h
  split at h
  · injection h with h
    injection h with h _
    rw [← h]; exact ⟨by omega, by omega⟩
  · rename_i hl
    have hx : ∀ x ∈ linesOf text, x.1 ≤ 5000 := fun x hx => by
      have h1 := numL_no (pieces 10 text) 1 x hx
      have h2 := (pieces_len 10 text).2
      omega
    obtain ⟨h1, h2⟩ := walk_lines (N := 5000) (linesOf text) Sheet.empty hx (by simp [Sheet.empty])
    split at h
    · rename_i m hm
      injection h with h
      injection h with h _
      rw [← h]; exact h1 m hm
    · rename_i s hs
      unfold endS at h
      split at h
      · rename_i m hm
        injection h with h
        injection h with h _
        rw [← h]; exact goals_lines _ _ m (h2 s hs) hm
      · cases h
/-- How the two readings stand to each other. -/
theorem put_err {k : Nat} {R1 R2 : (Int × Int) ⊕ Sheet} {n e : Int} (h : outR R2 = shR k R1) (h1 : R1 = .inl (n, e)) : R2 = .inl (sh k n, e) := by
  subst h1
  cases R2 with
  | inl q =>
    obtain ⟨a, b⟩ := q
    have h2 : Sum.inl (a, b) = (Sum.inl (sh k n, e) : (Int × Int) ⊕ List Ins) := h
    injection h2 with h2
    rw [h2]
  | inr s => cases h
theorem put_ok {k : Nat} {R1 R2 : (Int × Int) ⊕ Sheet} {s : Sheet} (h : outR R2 = shR k R1) (h1 : R1 = .inr s) : ∃ t, R2 = .inr t ∧ t.prog = s.prog := by
  subst h1
  cases R2 with
  | inl q => obtain ⟨a, b⟩ := q; cases h
  | inr t =>
    refine ⟨t, rfl, ?_⟩
    have h2 : Sum.inr t.prog = (Sum.inr s.prog : (Int × Int) ⊕ List Ins) := h
    injection h2
end Go.Proofs.YtiegkhoidabkhaaDoor
