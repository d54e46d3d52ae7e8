/- Plain words: a number's numeral is read as that number. -/
import Derived.Lib.AtoiAll
import Derived.Lib.AtoiAllCases
import Derived.Lib.ItoaNum
namespace Go.Proofs.YtiegkhoidabkhaaDoor
open Go.Lib

theorem dec_digit : ∀ (u : Nat) (c : UInt8), c ∈ decDigits u → 48 ≤ c.toNat ∧ c.toNat ≤ 57 := fun u => by
  induction u using Nat.strongRecOn with
  | _ u ih =>
    intro c hc
    rw [decDigits] at hc
    split at hc
    · rw [List.mem_singleton] at hc
      subst hc
      rw [UInt8.toNat_ofNat']
      omega
    · rcases List.mem_append.1 hc with hc | hc
      · exact ih (u / 10) (by omega) c hc
      · rw [List.mem_singleton] at hc
        subst hc
        rw [UInt8.toNat_ofNat']
        omega
theorem dec_ne (u : Nat) : decDigits u ≠ [] := by
  rw [decDigits]
  split <;> simp
theorem parse_dec : ∀ (u : Nat) (r : List UInt8), u < 18446744073709551616 → parseUint10 0 (decDigits u ++ r) = parseUint10 u r := fun u => by
  induction u using Nat.strongRecOn with
  | _ u ih =>
    intro r hu
    rw [decDigits]
    split
    · rename_i h
      rw [List.singleton_append, parseUint10]
      have e : (UInt8.ofNat (48 + u)).toNat = 48 + u := by rw [UInt8.toNat_ofNat']; omega
      rw [e, if_pos (by omega), if_neg (by omega), if_neg (by omega)]
      congr 1
      omega
    · rename_i h
      rw [List.append_assoc, ih (u / 10) (by omega) _ (by omega), List.singleton_append, parseUint10]
      have e : (UInt8.ofNat (48 + u % 10)).toNat = 48 + u % 10 := by rw [UInt8.toNat_ofNat']; omega
      rw [e, if_pos (by omega), if_neg (by omega), if_neg (by omega)]
      congr 1
      omega
theorem mag_dec {u : Nat} (hu : u < 18446744073709551616) : parseMag (decDigits u) = .ok u := by
  unfold parseMag
  rw [if_neg (dec_ne u)]
  have := parse_dec u [] hu
  rw [List.append_nil] at this
  rw [this]; rfl
/-- strconv.Atoi of strconv.Itoa. -/
theorem atoi_itoa (v : Int) (h0 : -9223372036854775808 ≤ v) (h1 : v ≤ 9223372036854775807) : atoiAll (itoa v) = .ok v := by
  unfold itoa
  split
  · rename_i hn
    rw [atoiAll_minus, mag_dec (u := v.natAbs) (by omega), signed, if_neg (by omega)]
    congr 1
    omega
  · rename_i hn
    have hm := mag_dec (u := v.toNat) (by omega)
    cases hd : decDigits v.toNat with
    | nil => exact absurd hd (dec_ne _)
    | cons c r =>
      have hc := dec_digit v.toNat c (by rw [hd]; simp)
      rw [hd] at hm
      rw [atoiAll_plain c r (by omega) (by omega), hm, signless, if_neg (by omega)]
      congr 1
      omega
theorem itoa_inj {a b : Int} (ha0 : -9223372036854775808 ≤ a) (ha1 : a ≤ 9223372036854775807) (hb0 : -9223372036854775808 ≤ b) (hb1 : b ≤ 9223372036854775807) (h : itoa a = itoa b) : a = b := by
  have h1 := atoi_itoa a ha0 ha1
  rw [h, atoi_itoa b hb0 hb1] at h1
  injection h1 with h1
  exact h1.symm
/-- A numeral's signs: digits, and a minus. -/
theorem itoa_sign (v : Int) (c : UInt8) (h : c ∈ itoa v) : c = 45 ∨ (48 ≤ c.toNat ∧ c.toNat ≤ 57) := by
  unfold itoa at h
  split at h
  · rcases List.mem_cons.1 h with h | h
    · exact .inl h
    · exact .inr (dec_digit _ c h)
  · exact .inr (dec_digit _ c h)
theorem itoa_ne (v : Int) : itoa v ≠ [] := by
  unfold itoa
  split
  · simp
  · exact dec_ne _
end Go.Proofs.YtiegkhoidabkhaaDoor
