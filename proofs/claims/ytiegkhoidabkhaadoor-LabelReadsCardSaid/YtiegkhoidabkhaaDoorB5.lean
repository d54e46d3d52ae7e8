/- strings.Split at one byte gives a text's pieces. -/
import Derived.Test.YtiegkhoidabkhaaDoorB3
import Derived.Lib.Split
import Derived.Lib.SplitLaws
namespace Go.Proofs.YtiegkhoidabkhaaDoor

theorem pre1 (c b : UInt8) (l : List UInt8) : [c].isPrefixOf (b :: l) = (c == b) := by
  show (c == b && true) = _
  rw [Bool.and_true]
theorem index_one : ∀ (s : List UInt8) (c : UInt8), (Lib.index s [c] = -1 ∧ c ∉ s) ∨ ∃ i a b : _, Lib.index s [c] = (i : Nat) ∧ s = a ++ c :: b ∧ a.length = i ∧ c ∉ a
  | [], c => .inl ⟨rfl, by simp⟩
  | b :: l, c => by
    unfold Lib.index
    rw [pre1]
    by_cases h : c = b
    · subst h
      exact .inr ⟨0, [], l, by simp, rfl, rfl, by simp⟩
    · have hb : (c == b) = false := by rw [beq_eq_false_iff_ne]; exact h
      rw [hb]
      rcases index_one l c with ⟨h1, h2⟩ | ⟨i, x, y, h1, h2, h3, h4⟩
      · left
        rw [h1]
        exact ⟨rfl, by simp [h, h2]⟩
      · right
        refine ⟨i + 1, b :: x, y, ?_, by rw [h2]; rfl, by simp [h3], by simp [h, h4]⟩
        rw [h1]
        have : ((i : Int) == -1) = false := by rw [beq_eq_false_iff_ne]; omega
        rw [this]
        simp
theorem piecesFrom_none (c : UInt8) : ∀ (s cur : List UInt8), c ∉ s → piecesFrom c cur s = [cur ++ s]
  | [], cur, _ => by simp [piecesFrom]
  | b :: l, cur, h => by
    have hb : b ≠ c := fun e => h (by simp [e])
    rw [piecesFrom, if_neg hb, piecesFrom_none c l _ (fun hl => h (by simp [hl]))]
    simp
theorem piecesFrom_hit (c : UInt8) : ∀ (a cur b : List UInt8), c ∉ a → piecesFrom c cur (a ++ c :: b) = (cur ++ a) :: piecesFrom c [] b
  | [], cur, b, _ => by simp [piecesFrom]
  | x :: a, cur, b, h => by
    have hb : x ≠ c := fun e => h (by simp [e])
    rw [List.cons_append, piecesFrom, if_neg hb, piecesFrom_hit c a _ b (fun hl => h (by simp [hl]))]
    simp
theorem split_pieces (c : UInt8) : ∀ (n : Nat) (s : List UInt8), s.length ≤ n → Lib.splitK [c] 0 (Lib.count s [c]) s = pieces c s
  | n, s, hn => by
    rcases index_one s c with ⟨h1, h2⟩ | ⟨i, a, b, h1, h2, h3, h4⟩
    · rw [Lib.count_miss h1, pieces, piecesFrom_none c s [] h2]
      rfl
    · have hd : s.drop (i + 1) = b := by rw [h2, ← h3]; simp
      have ht : s.take i = a := by rw [h2, ← h3]; simp
      rw [Lib.count_hit (by simp) h1, Nat.add_comm 1, Lib.splitK, h1]
      have hm : (((i : Nat) : Int) == -1) = false := by rw [beq_eq_false_iff_ne]; omega
      rw [hm]
      simp only [Bool.false_eq_true, if_false, Int.toNat_natCast, Nat.add_zero, List.length_singleton, hd, ht]
      have hb : b.length < s.length := by rw [h2]; simp; omega
      cases n with
      | zero => omega
      | succ n =>
        rw [split_pieces c n b (by omega)]
        unfold pieces
        rw [h2, piecesFrom_hit c a [] b h4]
        rfl
theorem splitB_pieces (c : UInt8) (s : List UInt8) : (Lib.splitB ⟨[c].toArray⟩ 0 (Lib.countB ⟨s.toArray⟩ ⟨[c].toArray⟩) ⟨s.toArray⟩).map Value.string = (pieces c s).map S := by
  have h := Lib.splitB_data ⟨[c].toArray⟩ 0 (Lib.countB ⟨s.toArray⟩ ⟨[c].toArray⟩) ⟨s.toArray⟩
  simp only at h
  rw [show Lib.countB ⟨s.toArray⟩ ⟨[c].toArray⟩ = Lib.count s [c] from rfl] at h ⊢
  rw [split_pieces c s.length s (Nat.le_refl _)] at h
  rw [← h, List.map_map]
  rfl
theorem count_pieces (c : UInt8) (s : List UInt8) : Lib.countB ⟨s.toArray⟩ ⟨[c].toArray⟩ + 1 = (pieces c s).length := by
  have h := congrArg List.length (splitB_pieces c s)
  rw [List.length_map, List.length_map] at h
  rw [← h]
  exact (Lib.splitB_all _ (by simp [ByteArray.size]) 0 _ _ rfl).symm
end Go.Proofs.YtiegkhoidabkhaaDoor
