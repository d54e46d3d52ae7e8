/- The reference's Num. -/
import Derived.Test.YtiegkhoidabkhaaDoorA29
namespace Go.Proofs.YtiegkhoidabkhaaDoor
open Go.Shelf Go.RowKit

def NumPost (r : Option Int) (w : World) (e : Ending) (w' : World) : Prop := w' = w ∧ match r with
  | some v => e = .returned (.tuple #[.int .i64 v, .bool true])
  | none => ∃ v, e = .returned (.tuple #[.int .i64 v, .bool false])
theorem idx_zero (w : World) (c : UInt8) (r : List UInt8) : (Instr.index 9 (S (c :: r)) (.int .i64 0)).run Tryd.prog w = .ok (.int .u8 c.toNat) w := run_idx_str w (c :: r) 0 c rfl
theorem take_digits {s : List UInt8} {k : Nat} {b : UInt8} (hb : s[k]? = some b) : digits (s.take (k + 1)) = (digits (s.take k) && (decide (48 ≤ b.toNat) && decide (b.toNat ≤ 57))) := by
  rw [List.take_add_one, hb]
  exact digits_snoc _ _
theorem take_val {s : List UInt8} {k : Nat} {b : UInt8} (hb : s[k]? = some b) : val (s.take (k + 1)) = 10 * val (s.take k) + (b.toNat - 48) := by
  rw [List.take_add_one, hb]
  exact val_snoc _ _
theorem digits_not {s : List UInt8} {k : Nat} {b : UInt8} (hb : s[k]? = some b) (h : ¬ (48 ≤ b.toNat ∧ b.toNat ≤ 57)) : digits s = false := by
  cases hd : digits s with
  | false => rfl
  | true =>
    unfold digits at hd
    rw [List.all_eq_true] at hd
    have := hd b (List.mem_of_getElem? hb)
    simp only [Bool.and_eq_true, decide_eq_true_eq] at this
    exact absurd this h

theorem val_max {s : List UInt8} (hd : digits s = true) (hl : s.length ≤ 19) : val s < 10000000000000000000 := by
  have h1 := val_lt s hd
  have h2 : 10 ^ s.length ≤ 10 ^ 19 := Nat.pow_le_pow_right (by omega) hl
  omega
theorem digits_take {s : List UInt8} (k : Nat) (h : digits s = true) : digits (s.take k) = true := by
  unfold digits at h ⊢
  rw [List.all_eq_true] at h ⊢
  exact fun c hc => h c (List.mem_of_mem_take hc)
theorem u64_step {v u : Nat} {b : UInt8} (h : u = 10 * v + (b.toNat - 48)) (hb : 48 ≤ b.toNat) (hu : u < 10000000000000000000) : Value.int IntKind.u64 (IntKind.u64.wrap (IntKind.u64.wrap (10 * (v : Int)) + ((b.toNat : Int) - 48))) = Value.int IntKind.u64 (u : Int) := by
  congr 1
  have e : ∀ x : Int, IntKind.u64.wrap x = x % 18446744073709551616 := fun x => by simp [IntKind.wrap, IntKind.signed, IntKind.bits]
  rw [e, e]
  omega
theorem head_45 {c : UInt8} {r : List UInt8} (hc : c ≠ 45) : ((c :: r).head? == some 45) = false := by simpa using hc

set_option maxRecDepth 100000 in
set_option maxHeartbeats 2000000 in
theorem num_plain (c : UInt8) (r : List UInt8) (hc : c ≠ 45) (w : World) (hlw : (c :: r).length ≤ 65536) : Calls Tryd.prog 46 #[S (c :: r)] w (NumPost (numR (c :: r)) w) := by
  have h45 : ((c.toNat : Int) == 45) = false := by
    rw [beq_eq_false_iff_ne]; intro e
    exact hc (by rw [← UInt8.toNat_inj]; have : (45 : UInt8).toNat = 45 := rfl; omega)
  have hi := idx_zero w c r
  have hlen : ((c :: r).length : Int) = r.length + 1 := by simp
  have hm := head_45 (r := r) hc
  have hz : ((r.length : Int) + 1 == 0) = false := by rw [beq_eq_false_iff_ne]; omega
  by_cases h19 : 19 < r.length + 1
  · have hn : numR (c :: r) = none := by
      unfold numR
      have hb : badD false (c :: r) = true := by unfold badD; simp; left; omega
      simp only [hm, Bool.false_eq_true, if_false, hb, if_true]
    rw [hn]
    have h19' : (19 : Int) < r.length + 1 := by omega
    clear hn hc hm
    go_enter Tryd.func46, Tryd.ntmps46
    go_wp2
    go_ret2
    exact ⟨rfl, _, rfl⟩
  have h19' : ¬ (19 : Int) < r.length + 1 := by omega
  by_cases h0 : 1 < r.length + 1 ∧ c = 48
  · obtain ⟨h1, rfl⟩ := h0
    have hn : numR (48 :: r) = none := by
      unfold numR
      have hb : badD false (48 :: r) = true := by unfold badD; simp; right; omega
      simp only [hm, Bool.false_eq_true, if_false, hb, if_true]
    rw [hn]
    have h1' : (1 : Int) < r.length + 1 := by omega
    have h48 : (((48 : UInt8).toNat : Int) == 48) = true := rfl
    clear hn hc hm
    go_enter Tryd.func46, Tryd.ntmps46
    go_wp2
    go_ret2
    exact ⟨rfl, _, rfl⟩
  have hbad : badD false (c :: r) = false := by
    unfold badD
    have e1 : decide (19 < (c :: r).length) = false := by rw [decide_eq_false_iff_not]; simpa using h19
    have e2 : (decide (1 < (c :: r).length) && (c :: r).head? == some 48) = false := by
      rw [Bool.and_eq_false_iff]
      by_cases h : 1 < r.length + 1
      · right
        have : c ≠ 48 := fun e => h0 ⟨h, e⟩
        simpa using this
      · left
        rw [decide_eq_false_iff_not]; simpa using h
    rw [e1, e2]; rfl
  have hnum : numR (c :: r) = if digits (c :: r) = false then none else if 9223372036854775807 < val (c :: r) then none else some (val (c :: r) : Int) := by
    unfold numR
    simp only [hm, Bool.false_eq_true, if_false, hbad]
  have HN := Lib.hid hnum
  clear hnum hbad hm hc
  have hc48 : ((c.toNat : Int) == 48) = false ∨ ¬ (1 : Int) < r.length + 1 := by
    by_cases h1 : 1 < r.length + 1
    · left
      rw [beq_eq_false_iff_ne]; intro e
      exact h0 ⟨h1, by rw [← UInt8.toNat_inj]; have : (48 : UInt8).toNat = 48 := rfl; omega⟩
    · right; omega
  have hl19 : (c :: r).length ≤ 19 := by simp; omega
  have HL := Lib.hid hl19
  clear hl19 h0 h19
  have hrun : ∀ k b, (c :: r)[k]? = some b → (Instr.index 9 (S (c :: r)) (.int .i64 (k : Nat))).run Tryd.prog w = .ok (.int .u8 b.toNat) w := fun k b hb => run_idx_str w (c :: r) k b hb
  have HRUN := Lib.hid hrun
  clear hrun
  have key : ∀ h1 : Bool, True := fun _ => trivial
  clear key
  rcases hc48 with hc48 | h1'
  all_goals
    go_enter Tryd.func46, Tryd.ntmps46
    go_wp2
  all_goals
    generalize hS : c :: r = s at *
    go_loop [6, 7] (fun v6 v7 => ∃ k : Nat, k ≤ s.length ∧ v6 = .int .u64 (val (s.take k) : Int) ∧ v7 = .int .i64 k ∧ Hid (digits (s.take k) = true)) (fun v6 v7 => s.length - (intOf v7).toNat)
    case atStart => exact ⟨0, by omega, by simp [val], rfl, rfl⟩
    case round =>
      obtain ⟨k, hk, rfl, rfl, HD⟩ := hrel
      have hmx := val_max HD.out (by rw [List.length_take]; have := HL.out; omega)
      by_cases hlt : k < s.length
      · obtain ⟨b, hb⟩ : ∃ b, s[k]? = some b := ⟨_, List.getElem?_eq_getElem hlt⟩
        have hib := HRUN.out k b hb
        by_cases hdg : 48 ≤ b.toNat ∧ b.toNat ≤ 57
        · have ht := take_val hb
          have hd := take_digits hb
          rw [HD.out, decide_eq_true hdg.1, decide_eq_true hdg.2, Bool.and_self, Bool.and_self] at hd
          have HT := Lib.hid ht; have HD' := Lib.hid hd
          have d1 : ¬ (b.toNat : Int) < 48 := by omega
          have d2 : ¬ (57 : Int) < b.toNat := by omega
          have hsub : ((b.toNat : Int) - 48) % 256 = ((b.toNat - 48 : Nat) : Int) := by omega
          have hmx2 := val_max hd (by rw [List.length_take]; have := HL.out; omega)
          clear hb ht hd
          go_wp2
          refine ⟨⟨k + 1, by omega, ?_, by go_num, HD'.out⟩, ?_⟩
          · exact u64_step HT.out hdg.1 hmx2
          · simp [intOf]; omega
        · have hn : numR s = none := by rw [HN.out, digits_not hb hdg]; rfl
          rw [hn]
          clear hb
          rcases Nat.lt_or_ge b.toNat 48 with d1 | d1
          · have d1' : (b.toNat : Int) < 48 := by omega
            go_wp2
            go_ret2
            exact ⟨rfl, _, rfl⟩
          · have d1' : ¬ (b.toNat : Int) < 48 := by omega
            have d2' : (57 : Int) < b.toNat := by omega
            go_wp2
            go_ret2
            exact ⟨rfl, _, rfl⟩
      · have hkl : k = s.length := by omega
        subst hkl
        rw [List.take_length] at HD hmx
        rw [List.take_length]
        by_cases hbig : 9223372036854775807 < val s
        · have hn : numR s = none := by rw [HN.out, HD.out]; simp [hbig]
          rw [hn]
          have hb' : (9223372036854775807 : Int) < val s := by omega
          go_wp2
          go_ret2
          exact ⟨rfl, _, rfl⟩
        · have hn : numR s = some (val s : Int) := by rw [HN.out, HD.out]; simp [hbig]
          rw [hn]
          have hb' : ¬ (9223372036854775807 : Int) < val s := by omega
          go_wp2
          go_ret2
          exact ⟨rfl, rfl⟩
end Go.Proofs.YtiegkhoidabkhaaDoor
