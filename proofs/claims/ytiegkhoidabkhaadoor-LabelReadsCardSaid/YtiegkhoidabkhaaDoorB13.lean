/- Plain words: a number, the long way: by its digits. -/
import Derived.Test.YtiegkhoidabkhaaDoorB10
namespace Go.Proofs.YtiegkhoidabkhaaDoor
open Go.Lib

def val (d : List UInt8) : Nat := d.foldl (fun n c => 10 * n + (c.toNat - 48)) 0
def digits (d : List UInt8) : Bool := d.all fun c => decide (48 ≤ c.toNat) && decide (c.toNat ≤ 57)
def badD (minus : Bool) (d : List UInt8) : Bool := d.length == 0 || decide (19 < d.length) || (decide (1 < d.length) && d.head? == some 48) || (minus && d == [48])
def numR (s : List UInt8) : Option Int :=
  let minus := s.head? == some 45
  let d := if minus = true then s.tail else s
  if badD minus d = true then none
  else if digits d = false then none
  else if minus = true then (if 9223372036854775808 < val d then none else some (-(val d : Int)))
  else (if 9223372036854775807 < val d then none else some (val d : Int))

theorem val_snoc (l : List UInt8) (c : UInt8) : val (l ++ [c]) = 10 * val l + (c.toNat - 48) := by simp [val]
theorem digits_snoc (l : List UInt8) (c : UInt8) : digits (l ++ [c]) = (digits l && (decide (48 ≤ c.toNat) && decide (c.toNat ≤ 57))) := by simp [digits]
theorem digits_cons (l : List UInt8) (c : UInt8) : digits (c :: l) = ((decide (48 ≤ c.toNat) && decide (c.toNat ≤ 57)) && digits l) := by simp [digits]
theorem val_lt : ∀ (l : List UInt8), digits l = true → val l < 10 ^ l.length := snoc_ind (fun _ => by simp [val]) fun l c ih h => by
  rw [digits_snoc] at h
  simp only [Bool.and_eq_true, decide_eq_true_eq] at h
  have := ih h.1
  rw [val_snoc, List.length_append, List.length_singleton, Nat.pow_succ]
  omega
theorem val_pos : ∀ (l : List UInt8), digits l = true → l ≠ [] → l.head? ≠ some 48 → 0 < val l := snoc_ind (fun _ h => absurd rfl h) fun l c ih h _ hh => by
  rw [digits_snoc] at h
  simp only [Bool.and_eq_true, decide_eq_true_eq] at h
  rw [val_snoc]
  cases l with
  | nil =>
    have : c ≠ 48 := by simpa using hh
    have : c.toNat ≠ 48 := fun e => this (by rw [← UInt8.toNat_inj, e]; rfl)
    simp [val]; omega
  | cons x l =>
    have := ih h.1 (by simp) (by simpa using hh)
    omega
theorem dec_val : ∀ (l : List UInt8), digits l = true → l ≠ [] → (l.length = 1 ∨ l.head? ≠ some 48) → decDigits (val l) = l := snoc_ind (fun _ h => absurd rfl h) fun l c ih h _ hh => by
  rw [digits_snoc] at h
  simp only [Bool.and_eq_true, decide_eq_true_eq] at h
  have hc : UInt8.ofNat (48 + (c.toNat - 48)) = c := by
    rw [show 48 + (c.toNat - 48) = c.toNat by omega]; simp
  rw [val_snoc]
  cases l with
  | nil =>
    rw [show 10 * val [] + (c.toNat - 48) = c.toNat - 48 by simp [val], decDigits_one (by omega), hc]; rfl
  | cons x l =>
    have hh' : (x :: l).head? ≠ some 48 := by
      rcases hh with hh | hh
      · simp at hh
      · simpa using hh
    have hp := val_pos (x :: l) h.1 (by simp) hh'
    have := ih h.1 (by simp) (.inr hh')
    rw [decDigits, dif_neg (by omega), show (10 * val (x :: l) + (c.toNat - 48)) / 10 = val (x :: l) by omega, show (10 * val (x :: l) + (c.toNat - 48)) % 10 = c.toNat - 48 by omega, this, hc]
theorem val_dec : ∀ (u : Nat), val (decDigits u) = u := fun u => by
  induction u using Nat.strongRecOn with
  | _ u ih =>
    rw [decDigits]
    split
    · have e : (UInt8.ofNat (48 + u)).toNat = 48 + u := by rw [UInt8.toNat_ofNat']; omega
      show 10 * 0 + ((UInt8.ofNat (48 + u)).toNat - 48) = u
      rw [e]
      omega
    · have e : (UInt8.ofNat (48 + u % 10)).toNat = 48 + u % 10 := by rw [UInt8.toNat_ofNat']; omega
      rw [val_snoc, ih (u / 10) (by omega), e]
      omega
theorem digits_dec (u : Nat) : digits (decDigits u) = true := by
  unfold digits
  rw [List.all_eq_true]
  intro c hc
  have := dec_digit u c hc
  simp [this.1, this.2]
theorem head_dec : ∀ (u : Nat), 0 < u → (decDigits u).head? ≠ some 48 := fun u => by
  induction u using Nat.strongRecOn with
  | _ u ih =>
    intro hu
    rw [decDigits]
    split
    · intro h
      have h1 : UInt8.ofNat (48 + u) = 48 := by simpa using h
      have e : (UInt8.ofNat (48 + u)).toNat = 48 + u := by rw [UInt8.toNat_ofNat']; omega
      rw [h1] at e
      have : (48 : UInt8).toNat = 48 := rfl
      omega
    · have := ih (u / 10) (by omega) (by omega)
      cases hd : decDigits (u / 10) with
      | nil => exact absurd hd (dec_ne _)
      | cons c r =>
        rw [hd] at this
        simpa using this
theorem len_dec {u k : Nat} (h : u < 10 ^ k) (hk : 1 ≤ k) : (decDigits u).length ≤ k := by
  rw [decDigits_length]
  exact nDigits_le k u h hk
theorem numR_itoa {v : Int} (h0 : -9223372036854775808 ≤ v) (h1 : v ≤ 9223372036854775807) : numR (itoa v) = some v := by
  unfold itoa
  split
  · rename_i hn
    have hl := len_dec (u := v.natAbs) (k := 19) (by omega) (by omega)
    have hh := head_dec v.natAbs (by omega)
    have hne := dec_ne v.natAbs
    have hz : decDigits v.natAbs ≠ [48] := fun e => by rw [e] at hh; exact hh rfl
    unfold numR
    simp only [List.head?_cons, List.tail_cons, beq_self_eq_true, if_true]
    have hb : badD true (decDigits v.natAbs) = false := by
      unfold badD
      have e1 : ((decDigits v.natAbs).length == 0) = false := by rw [beq_eq_false_iff_ne]; intro e; exact hne (List.length_eq_zero_iff.1 e)
      have e2 : decide (19 < (decDigits v.natAbs).length) = false := by rw [decide_eq_false_iff_not]; omega
      have e3 : ((decDigits v.natAbs).head? == some 48) = false := by rw [beq_eq_false_iff_ne]; exact hh
      have e4 : (decDigits v.natAbs == [48]) = false := by rw [beq_eq_false_iff_ne]; exact hz
      rw [e1, e2, e3, e4]; simp
    rw [hb, digits_dec, val_dec]
    simp only [Bool.false_eq_true, if_false, Bool.true_eq_false]
    rw [if_neg (by omega)]
    congr 1
    omega
  · rename_i hn
    have hl := len_dec (u := v.toNat) (k := 19) (by omega) (by omega)
    have hne := dec_ne v.toNat
    have hm : ((decDigits v.toNat).head? == some 45) = false := by
      rw [beq_eq_false_iff_ne]
      intro h
      have := dec_digit v.toNat 45 (List.mem_of_mem_head? h)
      revert this; decide
    unfold numR
    simp only [hm, Bool.false_eq_true, if_false]
    have hb : badD false (decDigits v.toNat) = false := by
      unfold badD
      have e1 : ((decDigits v.toNat).length == 0) = false := by rw [beq_eq_false_iff_ne]; intro e; exact hne (List.length_eq_zero_iff.1 e)
      have e2 : decide (19 < (decDigits v.toNat).length) = false := by rw [decide_eq_false_iff_not]; omega
      have e3 : (decide (1 < (decDigits v.toNat).length) && (decDigits v.toNat).head? == some 48) = false := by
        rcases Nat.eq_zero_or_pos v.toNat with h | h
        · rw [h, decDigits_one (by omega)]; rfl
        · have := head_dec v.toNat h
          have e : ((decDigits v.toNat).head? == some 48) = false := by rw [beq_eq_false_iff_ne]; exact this
          rw [e]; simp
      rw [e1, e2, e3]; simp
    rw [hb, digits_dec, val_dec]
    simp only [Bool.false_eq_true, if_false, Bool.true_eq_false]
    rw [if_neg (by omega)]
    congr 1
    omega
theorem numR_some {s : List UInt8} {v : Int} (h : numR s = some v) : itoa v = s ∧ -9223372036854775808 ≤ v ∧ v ≤ 9223372036854775807 := by
  unfold numR at h
  simp only at h
  generalize hm : (s.head? == some 45) = m at h
  cases m with
  | true =>
    obtain ⟨d, rfl⟩ : ∃ d, s = 45 :: d := by
      cases s with
      | nil => simp at hm
      | cons c r => exact ⟨r, by simpa using hm⟩
    simp only [List.tail_cons, if_true] at h
    split at h
    · cases h
    · rename_i hb
      split at h
      · cases h
      · rename_i hd
        split at h
        · cases h
        · have h := Option.some.inj h
          have hd' : digits d = true := by simpa using hd
          have hb' : badD true d = false := by simpa using hb
          unfold badD at hb'
          simp only [Bool.or_eq_false_iff, Bool.and_eq_false_iff, decide_eq_false_iff_not, beq_eq_false_iff_ne, Bool.true_and] at hb'
          obtain ⟨⟨⟨b1, b2⟩, b3⟩, b4⟩ := hb'
          have hne : d ≠ [] := fun e => b1 (by rw [e]; rfl)
          have hc : d.length = 1 ∨ d.head? ≠ some 48 := by
            rcases b3 with b3 | b3
            · left
              have : 0 < d.length := List.length_pos_iff.2 hne
              omega
            · exact .inr b3
          have hv := dec_val d hd' hne hc
          have hp : 0 < val d := by
            rcases Nat.eq_zero_or_pos (val d) with hz | hz
            · rw [hz, decDigits_one (by omega)] at hv
              exact absurd hv.symm (by simpa using b4)
            · exact hz
          refine ⟨?_, by omega, by omega⟩
          rw [← h]
          unfold itoa
          rw [if_pos (by omega), Int.natAbs_neg, Int.natAbs_natCast, hv]
  | false =>
    simp only [Bool.false_eq_true, if_false] at h
    split at h
    · cases h
    · rename_i hb
      split at h
      · cases h
      · rename_i hd
        split at h
        · cases h
        · have h := Option.some.inj h
          have hd' : digits s = true := by simpa using hd
          have hb' : badD false s = false := by simpa using hb
          unfold badD at hb'
          simp only [Bool.or_eq_false_iff, Bool.and_eq_false_iff, decide_eq_false_iff_not, beq_eq_false_iff_ne] at hb'
          obtain ⟨⟨⟨b1, b2⟩, b3⟩, b4⟩ := hb'
          have hne : s ≠ [] := fun e => b1 (by rw [e]; rfl)
          have hc : s.length = 1 ∨ s.head? ≠ some 48 := by
            rcases b3 with b3 | b3
            · left
              have : 0 < s.length := List.length_pos_iff.2 hne
              omega
            · exact .inr b3
          have hv := dec_val s hd' hne hc
          refine ⟨?_, by omega, by omega⟩
          rw [← h]
          unfold itoa
          rw [if_neg (by omega), Int.toNat_natCast, hv]
/-- BOTH WAYS TELL THE SAME NUMBERS. -/
theorem numR_numOf (s : List UInt8) : numR s = numOf s := by
  cases h : numR s with
  | some v =>
    obtain ⟨rfl, h0, h1⟩ := numR_some h
    exact (numOf_itoa v h0 h1).symm
  | none =>
    cases h2 : numOf s with
    | none => rfl
    | some v =>
      unfold numOf at h2
      split at h2
      · rename_i v' ha
        split at h2
        · rename_i hi
          have hr := Lib.atoiAll_bounds ha
          rw [← hi, numR_itoa hr.1 hr.2] at h
          cases h
        · cases h2
      · cases h2
end Go.Proofs.YtiegkhoidabkhaaDoor
