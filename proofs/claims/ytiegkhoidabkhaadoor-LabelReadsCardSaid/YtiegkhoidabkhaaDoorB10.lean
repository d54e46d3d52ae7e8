/- Plain words: a program's line, and a mark's, read back. -/
import Derived.Test.YtiegkhoidabkhaaDoorB8
import Derived.Test.YtiegkhoidabkhaaDoorB9
import Derived.Test.YtiegkhoidabkhaaDoorB1
import Derived.Test.YtiegkhoidabkhaaDoorB5
import Derived.Test.YtiegkhoidabkhaaDoorA5
namespace Go.Proofs.YtiegkhoidabkhaaDoor

theorem numOf_itoa (v : Int) (h0 : -9223372036854775808 ≤ v) (h1 : v ≤ 9223372036854775807) : numOf (Lib.itoa v) = some v := by
  unfold numOf
  rw [atoi_itoa v h0 h1]
  simp
theorem no_sign {v : Int} {c : UInt8} (h1 : c ≠ 45) (h2 : ¬ (48 ≤ c.toNat ∧ c.toNat ≤ 57)) : c ∉ Lib.itoa v := fun h => by
  rcases itoa_sign v c h with h | h
  · exact h1 h
  · exact h2 h
/-- Pieces of words that hold none of the sign. -/
theorem pieces_join (c : UInt8) : ∀ (l : List UInt8) (ls : List (List UInt8)), c ∉ l → (∀ x ∈ ls, c ∉ x) → pieces c (l ++ ls.flatMap fun x => c :: x) = l :: ls
  | l, [], hl, _ => by
    rw [List.flatMap_nil, List.append_nil]
    unfold pieces
    rw [piecesFrom_none c l [] hl]
    rfl
  | l, x :: ls, hl, h => by
    rw [List.flatMap_cons]
    unfold pieces
    rw [List.cons_append, piecesFrom_hit c l [] _ hl]
    have := pieces_join c x ls (h x (List.mem_cons_self ..)) (fun y hy => h y (List.mem_cons_of_mem _ hy))
    unfold pieces at this
    rw [this]; rfl
theorem pieces_lines (c : UInt8) : ∀ (ls : List (List UInt8)), (∀ x ∈ ls, c ∉ x) → pieces c (ls.flatMap fun x => x ++ [c]) = ls ++ [[]]
  | [], _ => rfl
  | x :: ls, h => by
    rw [List.flatMap_cons, List.append_assoc, List.singleton_append]
    unfold pieces
    rw [piecesFrom_hit c x [] _ (h x (List.mem_cons_self ..))]
    have := pieces_lines c ls (fun y hy => h y (List.mem_cons_of_mem _ hy))
    unfold pieces at this
    rw [this]; rfl

/-- A letter ahead of names. -/
def Letter (pre : List UInt8) : Prop := ∃ c : UInt8, pre = [c] ∧ 97 ≤ c.toNat ∧ c.toNat ≤ 122
theorem letter_no {pre : List UInt8} (h : Letter pre) {c : UInt8} (hc : c.toNat < 97) : c ∉ pre := by
  obtain ⟨d, rfl, h1, _⟩ := h
  intro h
  rw [List.mem_singleton] at h
  subst h
  omega
theorem itoa_small {i : Int} (h0 : 0 ≤ i) (h1 : i ≤ 48) : (Lib.itoa i).length ≤ 2 := by
  have : ∀ k : Nat, k < 49 → (Lib.itoa (k : Int)).length ≤ 2 := by
    intro k hk
    unfold Lib.itoa
    rw [if_neg (by omega)]
    by_cases h : k < 10
    · rw [show ((k : Int)).toNat = k by omega, Lib.decDigits_one h]; simp
    · rw [show ((k : Int)).toNat = k by omega, Lib.decDigits_two h (by omega)]; simp
  have := this i.toNat (by omega)
  rwa [Int.toNat_of_nonneg h0] at this
theorem itoa_digits {i : Int} (h0 : 0 ≤ i) {c : UInt8} (h : c ∈ Lib.itoa i) : 48 ≤ c.toNat ∧ c.toNat ≤ 57 := by
  unfold Lib.itoa at h
  rw [if_neg (by omega)] at h
  exact dec_digit _ c h
theorem goal_name {pre : List UInt8} (hp : Letter pre) {i : Int} (h0 : 0 ≤ i) (h1 : i ≤ 48) : nameB (goalT pre i) = true := by
  have hs := itoa_small h0 h1
  obtain ⟨c, rfl, hc1, hc2⟩ := hp
  refine nameB_of (by simp [goalT]) (by simp [goalT]; omega) fun j hj => ?_
  obtain ⟨d, hd⟩ : ∃ d, (goalT [c] i)[j]? = some d := ⟨_, List.getElem?_eq_getElem hj⟩
  rw [okAt_some hd]
  cases j with
  | zero =>
    have : c = d := by simpa [goalT] using hd
    subst this
    simp [okC, letterB, hc1, hc2]
  | succ j =>
    have hm : d ∈ Lib.itoa i := by
      have : (Lib.itoa i)[j]? = some d := by simpa [goalT] using hd
      exact List.mem_of_getElem? this
    have := itoa_digits h0 hm
    simp [okC, digitB, this.1, this.2]
theorem goal_inj {pre : List UInt8} {a b : Int} (ha0 : 0 ≤ a) (ha1 : a ≤ 48) (hb0 : 0 ≤ b) (hb1 : b ≤ 48) (h : goalT pre a = goalT pre b) : a = b := by
  unfold goalT at h
  exact itoa_inj (by omega) (by omega) (by omega) (by omega) (List.append_cancel_left h)
theorem goal_no {pre : List UInt8} (hp : Letter pre) {a : Int} {c : UInt8} (h1 : c ≠ 45) (h2 : c.toNat < 48) : c ∉ goalT pre a := by
  unfold goalT
  intro h
  rcases List.mem_append.1 h with h | h
  · exact letter_no hp (by omega) h
  · exact no_sign h1 (by omega) h

/-- An instruction as it stands in a line that is read: its goal is still to come. -/
def bareI (x : Ins) : Ins := if goes x = true then fixI x 0 else x
def goalOf (pre : List UInt8) (x : Ins) : List UInt8 := if goes x = true then goalT pre x.a else []
theorem parse_mark_line {pre : List UInt8} (hp : Letter pre) {i : Int} (h0 : 0 ≤ i) (h1 : i ≤ 48) : parseOf (58 :: goalT pre i) = some ⟨goalT pre i, [], 0, [0, 0, 0]⟩ := by
  unfold parseOf markOf
  rw [List.head?_cons, if_pos rfl, List.tail_cons, if_pos (goal_name hp h0 h1)]
def fieldL (pre : List UInt8) (x : Ins) : List (List UInt8) := ((shapeOf x.op).zip x.nums).map fun p => if p.1 = 103 then pre ++ Lib.itoa p.2 else Lib.itoa p.2
theorem tell_fields (pre : List UInt8) (x : Ins) : tellT pre x = wordOf x.op ++ (fieldL pre x).flatMap fun f => 32 :: f := by
  unfold tellT fieldL
  rw [List.flatMap_map]
  rfl
theorem field_no {pre : List UInt8} (hp : Letter pre) {x : Ins} {c : UInt8} (h1 : c ≠ 45) (h2 : c.toNat < 48) : ∀ f ∈ fieldL pre x, c ∉ f := by
  intro f hf
  unfold fieldL at hf
  obtain ⟨q, _, rfl⟩ := List.mem_map.1 hf
  split
  · exact goal_no hp h1 h2 (a := q.2)
  · exact no_sign h1 (by omega)
theorem word_letters (k : Int) : ∀ c ∈ wordOf k, 97 ≤ c.toNat := by
  unfold wordOf
  have h : ∀ x ∈ wordL, ∀ c ∈ x, 97 ≤ c.toNat := by decide +kernel
  rw [List.getD_eq_getElem?_getD]
  cases hq : wordL[k.toNat]? with
  | none => simp
  | some s => exact h s (List.mem_of_getElem? hq)
theorem tell_pieces {pre : List UInt8} (hp : Letter pre) (x : Ins) : pieces 32 (tellT pre x) = wordOf x.op :: fieldL pre x := by
  rw [tell_fields]
  exact pieces_join 32 _ _ (fun h => by have := word_letters x.op 32 h; revert this; decide) (field_no hp (by decide) (by decide))
theorem op_word {k : Int} (h0 : 0 ≤ k) (h1 : k < 22) : opOf (wordOf k) = k := by
  have : ∀ n : Nat, n < 22 → opOf (wordL.getD n []) = n := by decide +kernel
  have := this k.toNat (by omega)
  unfold wordOf
  rw [this]; omega
theorem word_head {k : Int} (h0 : 0 ≤ k) (h1 : k < 22) : ∃ c r, wordOf k = c :: r := by
  have : ∀ n : Nat, n < 22 → wordL.getD n [] ≠ [] := by decide +kernel
  have := this k.toNat (by omega)
  unfold wordOf
  cases h : wordL.getD k.toNat [] with
  | nil => exact absurd h this
  | cons c r => exact ⟨c, r, rfl⟩
theorem fields_told {pre : List UInt8} (hp : Letter pre) {x : Ins} (hf : x.Fit) {n : Int} (hn : n ≤ 48) (ht : toldB x n = true) :
    ∃ f : List Int, fieldsOf x.op (fieldL pre x) = some (goalOf pre x, f) ∧ (⟨x.op, f.getD 0 0, f.getD 1 0, f.getD 2 0⟩ : Ins) = bareI x := by
  obtain ⟨o, a, b, c⟩ := x
  obtain ⟨h0, h1⟩ := told_op ht
  have ha := numOf_itoa a hf.a0 hf.a1
  have hb := numOf_itoa b hf.b0 hf.b1
  have hc := numOf_itoa c hf.c0 hf.c1
  have hg : goes ⟨o, a, b, c⟩ = true → nameB (pre ++ Lib.itoa a) = true := fun h => by
    have := told_goes ht h
    exact goal_name hp this.1 (by have := this.2; simp only at this; omega)
  simp only at h0 h1
  rcases op_cases h0 h1 with rfl | rfl | rfl | rfl | rfl | rfl | rfl | rfl | rfl | rfl | rfl | rfl | rfl | rfl | rfl | rfl | rfl | rfl | rfl | rfl | rfl | rfl
  all_goals
    simp [toldB, shapeOf, shapeL] at ht
    try simp [goes] at hg
    simp [fieldsOf, fieldL, shapeOf, shapeL, Ins.nums, fldRun, fldStep, ha, hb, hc, goalOf, goes, bareI, fixI, goalT, ht, hg]
theorem parse_tell {pre : List UInt8} (hp : Letter pre) {x : Ins} (hf : x.Fit) {n : Int} (hn : n ≤ 48) (ht : toldB x n = true) :
    ∃ y, parseOf (tellT pre x) = some y ∧ y.mark = [] ∧ y.goal = goalOf pre x ∧ insOf y = bareI x := by
  obtain ⟨h0, h1⟩ := told_op ht
  obtain ⟨f, hf1, hf2⟩ := fields_told hp hf hn ht
  obtain ⟨c, r, hw⟩ := word_head h0 h1
  have hc : 97 ≤ c.toNat := word_letters x.op c (by rw [hw]; simp)
  have hh : (tellT pre x).head? ≠ some 58 := by
    unfold tellT
    rw [hw]
    intro h
    have : c = 58 := by simpa using h
    subst this
    revert hc; decide
  refine ⟨⟨[], goalOf pre x, x.op, f⟩, ?_, rfl, rfl, hf2⟩
  unfold parseOf instrOf
  rw [if_neg hh, tell_pieces hp]
  simp only [op_word h0 h1]
  rw [if_neg (by omega), hf1]
end Go.Proofs.YtiegkhoidabkhaaDoor
