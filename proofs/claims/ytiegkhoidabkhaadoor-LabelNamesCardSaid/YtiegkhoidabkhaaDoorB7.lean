/- Plain words: a text's lines, and all that is read. -/
import Derived.Test.YtiegkhoidabkhaaDoorB6
namespace Go.Proofs.YtiegkhoidabkhaaDoor

/-- The lines that aren't empty, with their numbers. -/
def numL : Nat → List (List UInt8) → List (Nat × List UInt8)
  | _, [] => []
  | i, s :: r => if s = [] then numL (i + 1) r else (i, s) :: numL (i + 1) r
def linesOf (text : List UInt8) : List (Nat × List UInt8) := numL 1 (pieces 10 text)
theorem numL_append : ∀ (a b : List (List UInt8)) (i : Nat), numL i (a ++ b) = numL i a ++ numL (i + a.length) b
  | [], b, i => by simp [numL]
  | s :: a, b, i => by
    rw [List.cons_append, numL, numL]
    have := numL_append a b (i + 1)
    rw [List.length_cons, this, show i + 1 + a.length = i + (a.length + 1) by omega]
    split <;> simp
theorem numL_len : ∀ (a : List (List UInt8)) (i : Nat), (numL i a).length ≤ a.length
  | [], i => by simp [numL]
  | s :: a, i => by
    rw [numL]
    have := numL_len a (i + 1)
    split <;> simp <;> omega
theorem numL_take (a : List (List UInt8)) (k i : Nat) : numL i (a.take k) <+: numL i a := by
  have h := numL_append (a.take k) (a.drop k) i
  rw [List.take_append_drop] at h
  exact ⟨_, h.symm⟩
theorem numL_snoc {a : List (List UInt8)} {k : Nat} {s : List UInt8} (h : a[k]? = some s) (i : Nat) : numL i (a.take (k + 1)) = numL i (a.take k) ++ (if s = [] then [] else [(i + k, s)]) := by
  have hk : k < a.length := (List.getElem?_eq_some_iff.1 h).1
  rw [List.take_add_one, h, show (some s).toList = [s] from rfl, numL_append, List.length_take, Nat.min_eq_left (by omega)]
  simp [numL]
theorem numL_le : ∀ (a : List (List UInt8)) (i m : Nat), (∀ s ∈ a, s.length ≤ m) → ∀ x ∈ numL i a, x.2.length ≤ m ∧ x.2 ≠ []
  | [], _, _, _, x, hx => by simp [numL] at hx
  | s :: a, i, m, h, x, hx => by
    rw [numL] at hx
    split at hx
    · exact numL_le a (i + 1) m (fun t ht => h t (List.mem_cons_of_mem _ ht)) x hx
    · rename_i hs
      rcases List.mem_cons.1 hx with rfl | hx
      · exact ⟨h s (List.mem_cons_self ..), hs⟩
      · exact numL_le a (i + 1) m (fun t ht => h t (List.mem_cons_of_mem _ ht)) x hx

/-- One line more; a line is at most 4096 bytes. -/
def stepS (s : Option Sheet) (x : Nat × List UInt8) : Option Sheet := s.bind fun s => takeS s x.1 (x.2.take 4096)
def runS (xs : List (Nat × List UInt8)) : Option Sheet := xs.foldl stepS (some Sheet.empty)
theorem runS_snoc (xs : List (Nat × List UInt8)) (x : Nat × List UInt8) : runS (xs ++ [x]) = stepS (runS xs) x := by simp [runS, List.foldl_append]
end Go.Proofs.YtiegkhoidabkhaaDoor
