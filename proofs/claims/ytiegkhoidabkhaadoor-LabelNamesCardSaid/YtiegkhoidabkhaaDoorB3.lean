/- Plain words: names, numbers. -/
import Derived.Test.YtiegkhoidabkhaaDoorB2
import Derived.Lib.AtoiAll
namespace Go.Proofs.YtiegkhoidabkhaaDoor

def letterB (c : UInt8) : Bool := decide (97 ≤ c.toNat) && decide (c.toNat ≤ 122)
def digitB (c : UInt8) : Bool := decide (48 ≤ c.toNat) && decide (c.toNat ≤ 57)
def okC (i : Nat) (c : UInt8) : Bool := letterB c || (decide (0 < i) && digitB c)
def okAt (s : List UInt8) (j : Nat) : Bool := match s[j]? with | some c => okC j c | none => true
def nameB (s : List UInt8) : Bool := decide (1 ≤ s.length) && decide (s.length ≤ 8) && decide (∀ j, j < s.length → okAt s j = true)
theorem nameB_of {s : List UInt8} (h1 : 1 ≤ s.length) (h8 : s.length ≤ 8) (h : ∀ j, j < s.length → okAt s j = true) : nameB s = true := by
  simp only [nameB, Bool.and_eq_true, decide_eq_true_eq]
  exact ⟨⟨h1, h8⟩, h⟩
theorem nameB_bad {s : List UInt8} {j : Nat} (hj : j < s.length) (h : okAt s j = false) : nameB s = false := by
  have : ¬ (∀ j, j < s.length → okAt s j = true) := fun hh => by rw [hh j hj] at h; cases h
  simp [nameB, this]
theorem nameB_nil {s : List UInt8} (h : s.length = 0) : nameB s = false := by simp [nameB, h]
theorem nameB_long {s : List UInt8} (h : 8 < s.length) : nameB s = false := by
  have : ¬ s.length ≤ 8 := by omega
  simp [nameB, this]
theorem okAt_some {s : List UInt8} {j : Nat} {c : UInt8} (h : s[j]? = some c) : okAt s j = okC j c := by simp [okAt, h]

/-- The number that a text is. -/
def numOf (s : List UInt8) : Option Int := match Lib.atoiAll s with | .ok v => if Lib.itoa v = s then some v else none | _ => none
end Go.Proofs.YtiegkhoidabkhaaDoor
