/- Plain words: a text's pieces. -/
import Derived.Test.YtiegkhoidabkhaaDoorA0
namespace Go.Proofs.YtiegkhoidabkhaaDoor

def piecesFrom (c : UInt8) (cur : List UInt8) : List UInt8 → List (List UInt8)
  | [] => [cur]
  | b :: l => if b = c then cur :: piecesFrom c [] l else piecesFrom c (cur ++ [b]) l
def pieces (c : UInt8) (s : List UInt8) : List (List UInt8) := piecesFrom c [] s
theorem piecesFrom_len (c : UInt8) : ∀ (l cur : List UInt8), 1 ≤ (piecesFrom c cur l).length ∧ (piecesFrom c cur l).length ≤ l.length + 1
  | [], cur => by simp [piecesFrom]
  | b :: l, cur => by
    unfold piecesFrom
    split
    · have := piecesFrom_len c l []
      simp only [List.length_cons]; omega
    · have := piecesFrom_len c l (cur ++ [b])
      simp only [List.length_cons]; omega
theorem piecesFrom_sum (c : UInt8) : ∀ (l cur : List UInt8), ∀ x ∈ piecesFrom c cur l, x.length ≤ cur.length + l.length
  | [], cur => by simp [piecesFrom]
  | b :: l, cur => by
    unfold piecesFrom
    split
    · intro x hx
      rcases List.mem_cons.1 hx with rfl | h
      · simp
      · have := piecesFrom_sum c l [] x h
        simp at this ⊢; omega
    · intro x hx
      have := piecesFrom_sum c l (cur ++ [b]) x hx
      simp at this ⊢; omega
theorem pieces_len (c : UInt8) (s : List UInt8) : 1 ≤ (pieces c s).length ∧ (pieces c s).length ≤ s.length + 1 := piecesFrom_len c s []
theorem pieces_le (c : UInt8) (s : List UInt8) : ∀ x ∈ pieces c s, x.length ≤ s.length := fun x hx => by have := piecesFrom_sum c s [] x hx; simpa using this
/-- No piece holds the sign at which it was cut. -/
theorem piecesFrom_no (c : UInt8) : ∀ (l cur : List UInt8), c ∉ cur → ∀ x ∈ piecesFrom c cur l, c ∉ x
  | [], cur, h => by simp [piecesFrom, h]
  | b :: l, cur, h => by
    unfold piecesFrom
    split
    · intro x hx
      rcases List.mem_cons.1 hx with rfl | h'
      · exact h
      · exact piecesFrom_no c l [] (by simp) x h'
    · rename_i hb
      exact piecesFrom_no c l (cur ++ [b]) (by simp [h]; exact fun e => hb e.symm)
end Go.Proofs.YtiegkhoidabkhaaDoor
