/- Plain words: a text's pieces. Plain words: names, numbers. -/
import Derived.Test.YtiegkhoidabkhaaDoorA0
import Derived.Lib.AtoiAll
namespace Go.Proofs.YtiegkhoidabkhaaDoor

def piecesFrom (c : UInt8) (cur : List UInt8) : List UInt8 → List (List UInt8)
  | [] => [cur]
  | b :: l => if b = c then cur :: piecesFrom c [] l else piecesFrom c (cur ++ [b]) l
def pieces (c : UInt8) (s : List UInt8) : List (List UInt8) := piecesFrom c [] s
theorem piecesFrom_len (c : UInt8) : ∀ (l cur : List UInt8), 1 ≤ (piecesFrom c cur l).length ∧ (piecesFrom c cur l).length ≤ l.length + 1
  | [], cur => by simp [piecesFrom]
  | b :: l, cur => by
    unfold piecesFrom
    split
    · have := piecesFrom_len c l []
      simp only [List.length_cons]; omega
    · have := piecesFrom_len c l (cur ++ [b])
      simp only [List.length_cons]; omega
theorem piecesFrom_sum (c : UInt8) : ∀ (l cur : List UInt8), ∀ x ∈ piecesFrom c cur l, x.length ≤ cur.length + l.length
  | [], cur => by simp [piecesFrom]
  | b :: l, cur => by
    unfold piecesFrom
    split
    · intro x hx
      rcases List.mem_cons.1 hx with rfl | h
      · simp
      · have := piecesFrom_sum c l [] x h
        simp at this ⊢; omega
    · intro x hx
      have := piecesFrom_sum c l (cur ++ [b]) x hx
      simp at this ⊢; omega
theorem pieces_len (c : UInt8) (s : List UInt8) : 1 ≤ (pieces c s).length ∧ (pieces c s).length ≤ s.length + 1 := piecesFrom_len c s []
theorem pieces_le (c : UInt8) (s : List UInt8) : ∀ x ∈ pieces c s, x.length ≤ s.length := fun x hx => by have := piecesFrom_sum c s [] x hx; simpa using this
/-- No piece holds the sign at which it was cut. -/
theorem piecesFrom_no (c : UInt8) : ∀ (l cur : List UInt8), c ∉ cur → ∀ x ∈ piecesFrom c cur l, c ∉ x
  | [], cur, h => by simp [piecesFrom, h]
  | b :: l, cur, h => by
    unfold piecesFrom
    split
    · intro x hx
      rcases List.mem_cons.1 hx with rfl | h'
      · exact h
      · exact piecesFrom_no c l [] (by simp) x h'
    · rename_i hb
      exact piecesFrom_no c l (cur ++ [b]) (by simp [h]; exact fun e => hb e.symm)
end Go.Proofs.YtiegkhoidabkhaaDoor
namespace Go.Proofs.YtiegkhoidabkhaaDoor

def letterB (c : UInt8) : Bool := decide (97 ≤ c.toNat) && decide (c.toNat ≤ 122)
def digitB (c : UInt8) : Bool := decide (48 ≤ c.toNat) && decide (c.toNat ≤ 57)
def okC (i : Nat) (c : UInt8) : Bool := letterB c || (decide (0 < i) && digitB c)
def okAt (s : List UInt8) (j : Nat) : Bool := match s[j]? with | some c => okC j c | none => true
def nameB (s : List UInt8) : Bool := decide (1 ≤ s.length) && decide (s.length ≤ 8) && decide (∀ j, j < s.length → okAt s j = true)
theorem nameB_of {s : List UInt8} (h1 : 1 ≤ s.length) (h8 : s.length ≤ 8) (h : ∀ j, j < s.length → okAt s j = true) : nameB s = true := by
  simp only [nameB, Bool.and_eq_true, decide_eq_true_eq]
  exact ⟨⟨h1, h8⟩, h⟩
theorem nameB_bad {s : List UInt8} {j : Nat} (hj : j < s.length) (h : okAt s j = false) : nameB s = false := by
  have : ¬ (∀ j, j < s.length → okAt s j = true) := fun hh => by rw [hh j hj] at h; cases h
  simp [nameB, this]
theorem nameB_nil {s : List UInt8} (h : s.length = 0) : nameB s = false := by simp [nameB, h]
theorem nameB_long {s : List UInt8} (h : 8 < s.length) : nameB s = false := by
  have : ¬ s.length ≤ 8 := by omega
  simp [nameB, this]
theorem okAt_some {s : List UInt8} {j : Nat} {c : UInt8} (h : s[j]? = some c) : okAt s j = okC j c := by simp [okAt, h]

/-- The number that a text is. -/
def numOf (s : List UInt8) : Option Int := match Lib.atoiAll s with | .ok v => if Lib.itoa v = s then some v else none | _ => none
end Go.Proofs.YtiegkhoidabkhaaDoor
