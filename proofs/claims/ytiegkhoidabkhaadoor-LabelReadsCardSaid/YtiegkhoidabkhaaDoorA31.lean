/- The reference's Num behind a minus. -/
import Derived.Test.YtiegkhoidabkhaaDoorA30
namespace Go.Proofs.YtiegkhoidabkhaaDoor
open Go.Shelf Go.RowKit

theorem extract_tail (c : UInt8) (d : List UInt8) : (⟨(c :: d).toArray⟩ : ByteArray).extract 1 (d.length + 1) = ⟨d.toArray⟩ := by
  rw [extract_S]
  simp
set_option maxRecDepth 100000 in
set_option maxHeartbeats 2000000 in
theorem num_minus (d : List UInt8) (w : World) (hlw : (45 :: d).length ≤ 65536) : Calls Tryd.prog 46 #[S (45 :: d)] w (NumPost (numR (45 :: d)) w) := by
  have hi := idx_zero w 45 d
  have h45 : (((45 : UInt8).toNat : Int) == 45) = true := rfl
  have hx := extract_tail 45 d
  have hlen : ((45 :: d).length : Int) = d.length + 1 := by simp
  have hnr : numR (45 :: d) = if badD true d = true then none else if digits d = false then none else if 9223372036854775808 < val d then none else some (-(val d : Int)) := by
    unfold numR
    simp
  by_cases hd0 : d = []
  · subst hd0
    rw [hnr, show badD true [] = true from rfl, if_pos rfl]
    go_enter Tryd.func46, Tryd.ntmps46
    go_wp2
    go_ret2
    exact ⟨rfl, _, rfl⟩
  obtain ⟨c, r, rfl⟩ : ∃ c r, d = c :: r := by
    cases d with
    | nil => exact absurd rfl hd0
    | cons c r => exact ⟨c, r, rfl⟩
  clear hd0
  have hi2 := idx_zero w c r
  have hlen2 : ((c :: r).length : Int) = r.length + 1 := by simp
  have hz : ((r.length : Int) + 1 == 0) = false := by rw [beq_eq_false_iff_ne]; omega
  simp only [List.length_cons] at hx
  by_cases h19 : 19 < r.length + 1
  · have hn : numR (45 :: c :: r) = none := by
      have hb : badD true (c :: r) = true := by unfold badD; simp; left; left; omega
      rw [hnr, if_pos hb]
    rw [hn]
    have h19' : (19 : Int) < r.length + 1 := by omega
    clear hn hnr
    go_enter Tryd.func46, Tryd.ntmps46
    go_wp2
    go_ret2
    exact ⟨rfl, _, rfl⟩
  have h19' : ¬ (19 : Int) < r.length + 1 := by omega
  by_cases h0 : 1 < r.length + 1 ∧ c = 48
  · obtain ⟨h1, rfl⟩ := h0
    have hn : numR (45 :: 48 :: r) = none := by
      have hb : badD true (48 :: r) = true := by unfold badD; simp; left; right; omega
      rw [hnr, if_pos hb]
    rw [hn]
    have h1' : (1 : Int) < r.length + 1 := by omega
    have h48 : (((48 : UInt8).toNat : Int) == 48) = true := rfl
    clear hn hnr
    go_enter Tryd.func46, Tryd.ntmps46
    go_wp2
    go_ret2
    exact ⟨rfl, _, rfl⟩
  by_cases hzz : c :: r = [48]
  · injection hzz with hc hr
    subst hc hr
    have hn : numR [45, 48] = none := by rw [hnr]; rfl
    rw [hn]
    have hx2 : (⟨#[45, 48]⟩ : ByteArray).extract 1 2 = ⟨#[48]⟩ := hx
    have hq : ((⟨#[48]⟩ : ByteArray).toList == [48]) = true := by
      rw [ByteArray.toList_eq]; rfl
    clear hn hnr hx
    go_enter Tryd.func46, Tryd.ntmps46
    go_wp2
    go_ret2
    exact ⟨rfl, _, rfl⟩
  have hzb : ((c :: r) == [48]) = false := by rw [beq_eq_false_iff_ne]; exact hzz
  have h48 : (c :: r).head? ≠ some 48 := by
    intro h
    have hc : c = 48 := by simpa using h
    subst hc
    cases r with
    | nil => exact hzz rfl
    | cons x r => exact h0 ⟨by simp, rfl⟩
  have hbad : badD true (c :: r) = false := by
    unfold badD
    have e1 : decide (19 < (c :: r).length) = false := by rw [decide_eq_false_iff_not]; simpa using h19
    have e2 : ((c :: r).head? == some 48) = false := by rw [beq_eq_false_iff_ne]; exact h48
    rw [e1, e2, hzb]; simp
  rw [hbad, if_neg (by simp)] at hnr
  have HN := Lib.hid hnr
  have hc48 : ((c.toNat : Int) == 48) = false := by
    rw [beq_eq_false_iff_ne]; intro e
    exact h48 (by rw [List.head?_cons]; congr 1; rw [← UInt8.toNat_inj]; have : (48 : UInt8).toNat = 48 := rfl; omega)
  have hl19 : (c :: r).length ≤ 19 := by simp; omega
  have HL := Lib.hid hl19
  have H48 := Lib.hid h48
  have hrun : ∀ k b, (c :: r)[k]? = some b → (Instr.index 9 (S (c :: r)) (.int .i64 (k : Nat))).run Tryd.prog w = .ok (.int .u8 b.toNat) w := fun k b hb => run_idx_str w (c :: r) k b hb
  have HRUN := Lib.hid hrun
  clear hnr hbad hl19 h0 h19 h48 hrun hzz
  have h1 : (1 : Int) < r.length + 1 ∨ ¬ (1 : Int) < r.length + 1 := by omega
  rcases h1 with h1' | h1'
  all_goals
    go_enter Tryd.func46, Tryd.ntmps46
    go_wp2
  all_goals
    generalize hS : c :: r = s at *
    go_loop [6, 7] (fun v6 v7 => ∃ k : Nat, k ≤ s.length ∧ v6 = .int .u64 (val (s.take k) : Int) ∧ v7 = .int .i64 k ∧ Hid (digits (s.take k) = true)) (fun v6 v7 => s.length - (intOf v7).toNat)
    case atStart => exact ⟨0, by omega, by simp [val], rfl, rfl⟩
    case round =>
      obtain ⟨k, hk, rfl, rfl, HD⟩ := hrel
      have hmx := val_max HD.out (by rw [List.length_take]; have := HL.out; omega)
      by_cases hlt : k < s.length
      · obtain ⟨b, hb⟩ : ∃ b, s[k]? = some b := ⟨_, List.getElem?_eq_getElem hlt⟩
        have hib := HRUN.out k b hb
        by_cases hdg : 48 ≤ b.toNat ∧ b.toNat ≤ 57
        · have ht := take_val hb
          have hd := take_digits hb
          rw [HD.out, decide_eq_true hdg.1, decide_eq_true hdg.2, Bool.and_self, Bool.and_self] at hd
          have HT := Lib.hid ht; have HD' := Lib.hid hd
          have d1 : ¬ (b.toNat : Int) < 48 := by omega
          have d2 : ¬ (57 : Int) < b.toNat := by omega
          have hmx2 := val_max hd (by rw [List.length_take]; have := HL.out; omega)
          clear hb ht hd
          go_wp2
          refine ⟨⟨k + 1, by omega, ?_, by go_num, HD'.out⟩, ?_⟩
          · exact u64_step HT.out hdg.1 hmx2
          · simp [intOf]; omega
        · have hn : numR (45 :: s) = none := by rw [HN.out, digits_not hb hdg]; rfl
          rw [hn]
          clear hb
          rcases Nat.lt_or_ge b.toNat 48 with d1 | d1
          · have d1' : (b.toNat : Int) < 48 := by omega
            go_wp2
            go_ret2
            exact ⟨rfl, _, rfl⟩
          · have d1' : ¬ (b.toNat : Int) < 48 := by omega
            have d2' : (57 : Int) < b.toNat := by omega
            go_wp2
            go_ret2
            exact ⟨rfl, _, rfl⟩
      · have hkl : k = s.length := by omega
        subst hkl
        rw [List.take_length] at HD hmx
        rw [List.take_length]
        by_cases hbig : 9223372036854775808 < val s
        · have hn : numR (45 :: s) = none := by rw [HN.out, HD.out]; simp [hbig]
          rw [hn]
          have hb' : (9223372036854775808 : Int) < val s := by omega
          go_wp2
          go_ret2
          exact ⟨rfl, _, rfl⟩
        · have hn : numR (45 :: s) = some (-(val s : Int)) := by rw [HN.out, HD.out]; simp [hbig]
          rw [hn]
          have hb' : ¬ (9223372036854775808 : Int) < val s := by omega
          have hpos := val_pos s HD.out (by rw [← hS]; simp) H48.out
          go_wp2
          go_ret2
          refine ⟨rfl, ?_⟩
          show Ending.returned _ = Ending.returned _
          rw [show -((val s : Int) - 1) - 1 = -(val s : Int) by omega]
          rfl
set_option maxRecDepth 100000 in
set_option maxHeartbeats 2000000 in
theorem num_nil (w : World) : Calls Tryd.prog 46 #[S []] w (NumPost (numR []) w) := by
  rw [show numR [] = none from rfl]
  go_enter Tryd.func46, Tryd.ntmps46
  go_wp2
  go_ret2
  exact ⟨rfl, _, rfl⟩
theorem num_ref (s : List UInt8) (w : World) (hl : s.length ≤ 65536) : Calls Tryd.prog 46 #[S s] w (NumPost (numOf s) w) := by
  rw [← numR_numOf]
  cases s with
  | nil => exact num_nil w
  | cons c r =>
    by_cases hc : c = 45
    · subst hc
      exact num_minus r w hl
    · exact num_plain c r hc w hl
end Go.Proofs.YtiegkhoidabkhaaDoor
