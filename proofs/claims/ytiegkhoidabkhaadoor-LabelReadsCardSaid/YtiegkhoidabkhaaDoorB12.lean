/- Plain words: no program's text is too long to be read. -/
import Derived.Test.YtiegkhoidabkhaaDoorB11
namespace Go.Proofs.YtiegkhoidabkhaaDoor

theorem tellT_len2 (pre : List UInt8) (x : Ins) (hf : x.Fit) (hp : pre.length ≤ 1) : (tellT pre x).length ≤ 72 := by
  have h1 := word_len x.op
  have hn : ∀ n ∈ x.nums, (Lib.itoa n).length ≤ 20 := by
    intro n hn
    simp only [Ins.nums, List.mem_cons, List.not_mem_nil, or_false] at hn
    rcases hn with rfl | rfl | rfl
    · exact itoa_len _ hf.a0 hf.a1
    · exact itoa_len _ hf.b0 hf.b1
    · exact itoa_len _ hf.c0 hf.c1
  have : ∀ l : List (UInt8 × Int), (∀ q ∈ l, (Lib.itoa q.2).length ≤ 20) → (l.flatMap fun p => fieldT pre p.1 p.2).length ≤ 22 * l.length := by
    intro l
    induction l with
    | nil => intro _; simp
    | cons q l ih =>
      intro h
      have h1 := ih fun q hq => h q (List.mem_cons_of_mem _ hq)
      have h2 := h q (List.mem_cons_self ..)
      have h3 : (fieldT pre q.1 q.2).length ≤ 22 := by unfold fieldT; split <;> simp <;> omega
      simp only [List.flatMap_cons, List.length_append, List.length_cons]
      omega
  have h2 := this ((shapeOf x.op).zip x.nums) fun q hq => hn _ (List.of_mem_zip hq).2
  have h3 : ((shapeOf x.op).zip x.nums).length ≤ 3 := by rw [List.length_zip]; have := shape_len x.op; omega
  unfold tellT
  rw [List.length_append]
  omega
theorem mark_len {pre : List UInt8} (hp : pre.length ≤ 1) (p : List Ins) (i : Nat) (hi : i ≤ 48) : (if namedB p i = true then 58 :: (goalT pre i ++ [10]) else []).length ≤ 5 := by
  have := itoa_small (i := (i : Int)) (by omega) (by omega)
  split <;> simp [goalT] <;> omega
theorem textAt_len2 {pre : List UInt8} (hp : pre.length ≤ 1) {p : List Ins} (hf : ∀ x ∈ p, x.Fit) : ∀ k, k ≤ 48 → (textAt pre p k).length ≤ 78 * k
  | 0, _ => by simp [textAt]
  | k + 1, hk => by
    rw [textAt_succ, List.length_append]
    have h1 := textAt_len2 hp hf k (by omega)
    have h2 := mark_len hp p k (by omega)
    unfold lineT
    rw [List.length_append]
    cases hx : p[k]? with
    | none =>
      simp only [List.length_nil]
      omega
    | some x =>
      have := tellT_len2 pre x (hf x (List.mem_of_getElem? hx)) hp
      simp only [List.length_append, List.length_singleton]
      omega
theorem textT_len {pre : List UInt8} (hp : pre.length ≤ 1) {p : List Ins} (hf : ∀ x ∈ p, x.Fit) (hl : p.length ≤ 48) : (textT pre p).length ≤ 4096 := by
  have h1 := textAt_len2 hp hf p.length hl
  have h2 := mark_len hp p p.length hl
  unfold textT
  rw [textAt_succ, List.length_append]
  unfold lineT
  rw [List.length_append, List.getElem?_eq_none (Nat.le_refl _)]
  simp only [List.length_nil]
  omega
/-- What is written without an error is read back. -/
theorem wrS_back {pre : List UInt8} (hp : Letter pre) {p : List Ins} (hf : ∀ x ∈ p, x.Fit) (hw : (wrS pre p).2 = 0) : ∃ s, readS (wrS pre p).1 = .inr s ∧ s.prog = p := by
  have hp1 : pre.length ≤ 1 := by obtain ⟨c, rfl, _⟩ := hp; simp
  unfold wrS at hw ⊢
  split at hw
  · cases hw
  · split at hw
    · rename_i h1 h2
      rw [if_neg h1, if_pos h2]
      exact read_back hp hf (by omega) h2 (textT_len hp1 hf (by omega))
    · cases hw
theorem wrS_err {pre : List UInt8} {p : List Ins} (hw : (wrS pre p).2 ≠ 0) : (wrS pre p).1 = [] := by
  unfold wrS at hw ⊢
  split at hw
  · rename_i h; rw [if_pos h]
  · split at hw
    · exact absurd rfl hw
    · rename_i h1 h2; rw [if_neg h1, if_neg h2]
theorem wrS_len {pre : List UInt8} (hp : pre.length ≤ 1) {p : List Ins} (hf : ∀ x ∈ p, x.Fit) : (wrS pre p).1.length ≤ 4096 := by
  unfold wrS
  split
  · simp
  · split
    · exact textT_len hp hf (by omega)
    · simp
/-- The error does not hang on the letter. -/
theorem wrS_pre (pre pre' : List UInt8) (p : List Ins) : (wrS pre p).2 = (wrS pre' p).2 := by
  unfold wrS
  split
  · rfl
  · split <;> rfl
end Go.Proofs.YtiegkhoidabkhaaDoor
