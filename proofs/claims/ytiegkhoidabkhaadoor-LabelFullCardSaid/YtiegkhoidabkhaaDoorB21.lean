/- Plain words: texts of many halts. -/
import Derived.Test.YtiegkhoidabkhaaDoorB17
import Derived.Lib.Repeat
namespace Go.Proofs.YtiegkhoidabkhaaDoor

def haltL : List UInt8 := [104, 97, 108, 116]
def markA : List UInt8 := [58, 97]
def elseB : List UInt8 := [101, 108, 115, 101, 32, 98]
def textL (ls : List (List UInt8)) : List UInt8 := ls.flatMap fun x => x ++ [10]
def halt0 : Ins := ⟨0, 0, 0, 0⟩
theorem parse_halt : parseOf haltL = some ⟨[], [], 0, [0, 0, 0]⟩ := by kernel_rfl
theorem parse_markA : parseOf markA = some ⟨[97], [], 0, [0, 0, 0]⟩ := by kernel_rfl
theorem parse_elseB : parseOf elseB = some ⟨[], [98], 20, [0, 0, 0]⟩ := by kernel_rfl
theorem take_halt {s : Sheet} {i : Int} (h : s.prog.length < 48) : takeS s i haltL = some { s with prog := s.prog ++ [halt0] } := by
  unfold takeS
  rw [parse_halt]
  simp only [if_true]
  unfold takeIns
  rw [if_neg (by omega)]
  rfl
theorem numL_rep (i m : Nat) : numL i (List.replicate (m + 1) haltL) = numL i (List.replicate m haltL) ++ [(i + m, haltL)] := by
  rw [List.replicate_succ', numL_append, List.length_replicate]
  rfl
theorem run_halts {xs : List (Nat × List UInt8)} {s : Sheet} (h : runS xs = some s) (i : Nat) : ∀ m, s.prog.length + m ≤ 48 → runS (xs ++ numL i (List.replicate m haltL)) = some { s with prog := s.prog ++ List.replicate m halt0 }
  | 0, _ => by simpa [numL] using h
  | m + 1, hm => by
    rw [numL_rep, ← List.append_assoc, runS_snoc, run_halts h i m (by omega)]
    show takeS _ _ (haltL.take 4096) = _
    rw [show haltL.take 4096 = haltL from rfl, take_halt (by simp; omega)]
    rw [List.replicate_succ', List.append_assoc]
theorem rep_no (m : Nat) : ∀ l ∈ List.replicate m haltL, (10 : UInt8) ∉ l := fun l hl => by
  rw [List.eq_of_mem_replicate hl]; decide
theorem rep_len (m : Nat) : (textL (List.replicate m haltL)).length = 5 * m := by
  induction m with
  | zero => rfl
  | succ m ih =>
    rw [List.replicate_succ, textL, List.flatMap_cons, List.length_append]
    unfold textL at ih
    rw [ih]
    show 5 + 5 * m = _
    omega
theorem lines_text {ls : List (List UInt8)} (h : ∀ l ∈ ls, (10 : UInt8) ∉ l) : pieces 10 (textL ls) = ls ++ [[]] := pieces_lines 10 ls h
theorem run_end {ls : List (List UInt8)} : numL 1 (ls ++ [[]]) = numL 1 ls := by
  rw [numL_append]
  simp [numL]
theorem read_halts {n : Nat} (h : n ≤ 48) : ∃ s, readS (textL (List.replicate n haltL)) = .inr s ∧ s.prog.length = n := by
  have hl := rep_len n
  have hr := run_halts (xs := []) (s := Sheet.empty) rfl 1 n (by simp [Sheet.empty]; exact h)
  rw [List.nil_append] at hr
  refine ⟨{ Sheet.empty with prog := Sheet.empty.prog ++ List.replicate n halt0 }, ?_, by simp [Sheet.empty]⟩
  rw [readS, if_neg (by omega)]
  unfold linesOf
  rw [lines_text (rep_no n), run_end, runS_walk _ _ hr]
  rfl
theorem small_lines {ls : List (List UInt8)} (h : ∀ l ∈ ls, l.length ≤ 100) : ∀ l ∈ ls ++ [[]], l.length ≤ 4096 := fun l hl => by
  rcases List.mem_append.1 hl with h1 | h1
  · have := h l h1; omega
  · rw [List.mem_singleton] at h1; subst h1; simp
theorem rep_small (m : Nat) : ∀ l ∈ List.replicate m haltL, l.length ≤ 100 := fun l hl => by
  rw [List.eq_of_mem_replicate hl]; decide
theorem read_many {n : Nat} (h : 48 < n) (h2 : n ≤ 100) : readS (textL (List.replicate n haltL)) = .inl (49, 60) := by
  have hl := rep_len n
  have hr := run_halts (xs := []) (s := Sheet.empty) rfl 1 48 (by simp [Sheet.empty])
  rw [List.nil_append] at hr
  rw [readS, if_neg (by omega)]
  unfold linesOf
  rw [lines_text (rep_no n), @walkS_line_no (List.replicate n haltL ++ [[]]) (small_lines (rep_small n)) 48 haltL (by
    rw [List.getElem?_append_left (by simp; omega), List.getElem?_replicate, if_pos h]) (by decide) _ (by
    rw [List.take_append_of_le_length (by simp; omega), List.take_replicate, Nat.min_eq_left (by omega)]; exact hr) (by
    unfold takeS
    rw [parse_halt]
    simp only [if_true]
    unfold takeIns
    rw [if_pos (by simp [Sheet.empty])])]
  rfl
def twiceL (x : List UInt8) (a b : Nat) : List (List UInt8) := markA :: List.replicate a haltL ++ x :: List.replicate b haltL
theorem twice_text (x : List UInt8) (a b : Nat) : textL (twiceL x a b) = markA ++ [10] ++ textL (List.replicate a haltL) ++ (x ++ [10]) ++ textL (List.replicate b haltL) := by
  simp [textL, twiceL]
theorem twice_no {x : List UInt8} (hx : (10 : UInt8) ∉ x) (a b : Nat) : ∀ l ∈ twiceL x a b, (10 : UInt8) ∉ l := by
  intro l hl
  unfold twiceL at hl
  rcases List.mem_append.1 hl with h | h
  · rcases List.mem_cons.1 h with rfl | h
    · decide
    · exact rep_no a l h
  · rcases List.mem_cons.1 h with rfl | h
    · exact hx
    · exact rep_no b l h
theorem twice_small {x : List UInt8} (hx : x.length ≤ 100) (a b : Nat) : ∀ l ∈ twiceL x a b, l.length ≤ 100 := by
  intro l hl
  unfold twiceL at hl
  rcases List.mem_append.1 hl with h | h
  · rcases List.mem_cons.1 h with rfl | h
    · decide
    · exact rep_small a l h
  · rcases List.mem_cons.1 h with rfl | h
    · exact hx
    · exact rep_small b l h
theorem twice_len {x : List UInt8} (hx : x.length ≤ 10) {a b : Nat} (h : a + b ≤ 100) : (textL (twiceL x a b)).length ≤ 4096 := by
  have h1 := rep_len a
  have h2 := rep_len b
  rw [twice_text]
  simp only [List.length_append, List.length_singleton, h1, h2]
  show markA.length + 1 + 5 * a + (x.length + 1) + 5 * b ≤ 4096
  have : markA.length = 2 := rfl
  omega
def oneA : Sheet := ⟨[], [⟨[97], 1, 0⟩], []⟩
theorem run_first {a : Nat} (h : a ≤ 48) : runS (numL 1 (markA :: List.replicate a haltL)) = some { oneA with prog := List.replicate a halt0 } := by
  have h1 : runS [(1, markA)] = some oneA := by
    show takeS Sheet.empty ((1 : Nat) : Int) (markA.take 4096) = some oneA
    rw [show markA.take 4096 = markA from rfl]
    unfold takeS
    rw [parse_markA]
    rfl
  have h2 := run_halts h1 2 a (by simp [oneA]; exact h)
  have e : numL 1 (markA :: List.replicate a haltL) = [(1, markA)] ++ numL 2 (List.replicate a haltL) := by
    rw [numL, if_neg (by decide)]; rfl
  rw [e, h2]
  rfl
theorem twice_at (x : List UInt8) (a b : Nat) : (twiceL x a b ++ [[]])[a + 1]? = some x := by
  unfold twiceL
  rw [List.append_assoc, List.getElem?_append_right (by simp)]
  simp
theorem twice_take (x : List UInt8) (a b : Nat) : (twiceL x a b ++ [[]]).take (a + 1) = markA :: List.replicate a haltL := by
  unfold twiceL
  rw [List.append_assoc, List.take_append_of_le_length (by simp), List.take_of_length_le (by simp)]
theorem read_twice {a b : Nat} (h : a + b ≤ 47) : readS (textL (twiceL markA a b)) = .inl ((a : Int) + 2, 60) := by
  rw [readS, if_neg (by have := @twice_len markA (by decide) a b (by omega); omega)]
  unfold linesOf
  rw [lines_text (twice_no (by decide) a b), @walkS_line_no (twiceL markA a b ++ [[]]) (small_lines (twice_small (by decide) a b)) (a + 1) markA (twice_at markA a b) (by decide) _ (by rw [twice_take]; exact run_first (by omega)) (by
    unfold takeS
    rw [parse_markA]
    rfl)]
  show Sum.inl (((a + 1 : Nat) : Int) + 1, (60 : Int)) = _
  congr 2
theorem read_none {a b : Nat} (h : a + b ≤ 47) : readS (textL (twiceL elseB a b)) = .inl ((a : Int) + 2, 5) := by
  rw [readS, if_neg (by have := @twice_len elseB (by decide) a b (by omega); omega)]
  have h1 := run_first (a := a) (by omega)
  have h2 : runS (numL 1 (markA :: List.replicate a haltL) ++ [(a + 2, elseB)]) = some ⟨List.replicate a halt0 ++ [⟨20, 0, 0, 0⟩], [⟨[97], 1, 0⟩], [⟨[98], a + 2, a⟩]⟩ := by
    rw [runS_snoc, h1]
    show takeS _ ((a + 2 : Nat) : Int) (elseB.take 4096) = _
    rw [show elseB.take 4096 = elseB from rfl]
    unfold takeS
    rw [parse_elseB]
    simp only [if_true]
    unfold takeIns
    rw [if_neg (by simp; omega)]
    simp only [oneA, List.length_replicate]
    rfl
  have h3 := run_halts h2 (a + 3) b (by simp; omega)
  have e : numL 1 (twiceL elseB a b) = numL 1 (markA :: List.replicate a haltL) ++ [(a + 2, elseB)] ++ numL (a + 3) (List.replicate b haltL) := by
    unfold twiceL
    rw [numL_append, List.append_assoc]
    congr 1
    rw [numL, if_neg (by decide)]
    have : 1 + (markA :: List.replicate a haltL).length = a + 2 := by simp; omega
    rw [this]
    rfl
  unfold linesOf
  rw [lines_text (twice_no (by decide) a b), run_end, e, runS_walk _ _ h3]
  rfl
theorem repeat_text (n : Nat) : Lib.repeatL [104, 97, 108, 116, 10] n = textL (List.replicate n haltL) := by
  induction n with
  | zero => rfl
  | succ n ih =>
    rw [Lib.repeatL, ih, List.replicate_succ]
    rfl
end Go.Proofs.YtiegkhoidabkhaaDoor
