/- The law LabelFull. -/
import Derived.Test.YtiegkhoidabkhaaDoorA21
import Derived.Test.YtiegkhoidabkhaaDoorB21
import Derived.Outline
import Derived.Deep.DeepFit
namespace Go.Proofs.YtiegkhoidabkhaaDoor
open Go.Shelf Go.RowKit Go.Maps

theorem rep_any (n : Nat) (h : n ≤ 100) (w : World) : Calls Tryd.prog 20 #[.string ⟨#[104, 97, 108, 116, 10]⟩, .int .i64 n] w fun e w' => e = .returned (S (textL (List.replicate n haltL))) ∧ Below w.heap.size w w' := by
  have hr := Tryd.strings_Repeat ⟨#[104, 97, 108, 116, 10]⟩ n w (by omega) (by simp [ByteArray.size]; omega)
  refine hr.mono ?_
  rintro e w' ⟨rfl, hb⟩
  exact ⟨by rw [show (⟨#[104, 97, 108, 116, 10]⟩ : ByteArray).data.toList = [104, 97, 108, 116, 10] from rfl, repeat_text], hb⟩
theorem reads_err {text : List UInt8} {n k : Int} (hr : readS text = .inl (n, k)) (hl : text.length ≤ 9223372036854775807) (w : World) (hg : Gl w) :
    Calls Tryd.prog 14 #[S text] w fun e w' => e = .returned (.tuple #[.slice none 0 0, .int .i64 n, .int .i64 k]) ∧ Below w.heap.size w w' := by
  refine (reads_any text hl w hg).mono ?_
  rintro e w' ⟨hb, h⟩
  rw [hr] at h
  exact ⟨h, hb⟩
theorem reads_ok {text : List UInt8} {s : Sheet} (hr : readS text = .inr s) (hl : text.length ≤ 9223372036854775807) (w : World) (hg : Gl w) :
    Calls Tryd.prog 14 #[S text] w fun e w' => ∃ A c, e = .returned (.tuple #[.slice A s.prog.length c, .int .i64 0, .int .i64 0]) ∧ RdIns w' A s.prog ∧ Below w.heap.size w w' := by
  refine (reads_any text hl w hg).mono ?_
  rintro e w' ⟨hb, h⟩
  rw [hr] at h
  obtain ⟨v, rfl, hown⟩ := h
  obtain ⟨A, c, rfl, hrd⟩ := rd_own hown
  exact ⟨A, c, rfl, hrd, hb⟩

set_option maxRecDepth 100000 in
set_option maxHeartbeats 2000000 in
theorem full_law (n : Int) (hn0 : -9223372036854775808 ≤ n) (hn1 : n ≤ 9223372036854775807) (at_ : Int) (ha0 : -9223372036854775808 ≤ at_) (ha1 : at_ ≤ 9223372036854775807) (w : World) (hg : Gl w) :
    Calls Tryd.prog 10 #[.int .i64 n, .int .i64 at_] w fun e w' => e = .returned (.bool true) ∧ Below w.heap.size w w' := by
  have ha := alive_any w hg
  have HG := Lib.hid hg
  clear hg
  by_cases h1 : n < 0
  · go_enter Tryd.func10, Tryd.ntmps10
    go_wp2_with fail
    refine ha.mono ?_
    rintro e w1 ⟨rfl, hb1⟩
    go_wp2_with fail
    go_ret
    exact ⟨rfl, hb1⟩
  by_cases h2 : 100 < n
  · go_enter Tryd.func10, Tryd.ntmps10
    go_wp2_with fail
    refine ha.mono ?_
    rintro e w1 ⟨rfl, hb1⟩
    go_wp2_with fail
    go_ret
    exact ⟨rfl, hb1⟩
  by_cases h3 : at_ < 0
  · go_enter Tryd.func10, Tryd.ntmps10
    go_wp2_with fail
    refine ha.mono ?_
    rintro e w1 ⟨rfl, hb1⟩
    go_wp2_with fail
    go_ret
    exact ⟨rfl, hb1⟩
  by_cases h4 : n < at_
  · go_enter Tryd.func10, Tryd.ntmps10
    go_wp2_with fail
    refine ha.mono ?_
    rintro e w1 ⟨rfl, hb1⟩
    go_wp2_with fail
    go_ret
    exact ⟨rfl, hb1⟩
  obtain ⟨m, rfl⟩ : ∃ m : Nat, n = m := ⟨n.toNat, by omega⟩
  obtain ⟨k, rfl⟩ : ∃ k : Nat, at_ = k := ⟨at_.toNat, by omega⟩
  have hm : m ≤ 100 := by omega
  have hk : k ≤ m := by omega
  have h4' : ¬ (m : Int) < k := by omega
  have hrep := rep_any m hm
  have hlen := rep_len m
  have hlen2 : (textL (List.replicate m haltL)).length ≤ 9223372036854775807 := by omega
  clear hlen
  by_cases h48 : 48 < m
  · have hr := fun w' hg' => reads_err (read_many h48 hm) hlen2 w' hg'
    have h48' : (48 : Int) < m := by omega
    have HREP := Lib.hid hrep; have HRD := Lib.hid hr
    clear hrep hr
    generalize textL (List.replicate m haltL) = t at *
    go_enter Tryd.func10, Tryd.ntmps10
    go_wp2_with fail
    refine ha.mono ?_
    rintro e w1 ⟨rfl, hb1⟩
    have HB1 := Lib.hid hb1
    clear ha hb1
    go_wp2_with fail
    refine (HREP.out w1).mono ?_
    rintro e w2 ⟨rfl, hb2⟩
    have HB2 := Lib.hid (below_next HB1.out hb2)
    clear hb2
    go_wp2_with fail
    refine (HRD.out w2 (HG.out.belowH HB2.out)).mono ?_
    rintro e w3 ⟨rfl, hb3⟩
    have HB3 := Lib.hid (below_next HB2.out hb3)
    clear hb3
    go_wp2_with fail
    go_ret
    exact ⟨rfl, HB3.out⟩
  · obtain ⟨s, hs, hsl⟩ := read_halts (n := m) (by omega)
    have hr := fun w' hg' => reads_ok hs hlen2 w' hg'
    rw [hsl] at hr
    have h48' : ¬ (48 : Int) < m := by omega
    have HREP := Lib.hid hrep; have HRD := Lib.hid hr
    clear hrep hr hs hsl
    by_cases h47 : 47 < m
    · have h47' : (47 : Int) < m := by omega
      generalize textL (List.replicate m haltL) = t at *
      go_enter Tryd.func10, Tryd.ntmps10
      go_wp2_with fail
      refine ha.mono ?_
      rintro e w1 ⟨rfl, hb1⟩
      have HB1 := Lib.hid hb1
      clear ha hb1
      go_wp2_with fail
      refine (HREP.out w1).mono ?_
      rintro e w2 ⟨rfl, hb2⟩
      have HB2 := Lib.hid (below_next HB1.out hb2)
      clear hb2
      go_wp2_with fail
      refine (HRD.out w2 (HG.out.belowH HB2.out)).mono ?_
      rintro e w3 ⟨A, c, rfl, _, hb3⟩
      have HB3 := Lib.hid (below_next HB2.out hb3)
      clear hb3
      go_wp2_with fail
      go_ret
      exact ⟨rfl, HB3.out⟩
    · have h47' : ¬ (47 : Int) < m := by omega
      obtain ⟨b, rfl⟩ : ∃ b, m = k + b := ⟨m - k, by omega⟩
      have hra := rep_any k (by omega)
      have hrb : ∀ w, Calls Tryd.prog 20 #[.string ⟨#[104, 97, 108, 116, 10]⟩, .int .i64 ((k : Int) + b - k)] w fun e w' => e = .returned (S (textL (List.replicate b haltL))) ∧ Below w.heap.size w w' := by
        have e : (k : Int) + b - k = b := by omega
        rw [e]
        exact rep_any b (by omega)
      have e1 := twice_text markA k b
      have e2 := twice_text elseB k b
      have hr1 := fun w' hg' => reads_err (read_twice (a := k) (b := b) (by omega)) (by have := @twice_len markA (by decide) k b (by omega); omega) w' hg'
      have hr2 := fun w' hg' => reads_err (read_none (a := k) (b := b) (by omega)) (by have := @twice_len elseB (by decide) k b (by omega); omega) w' hg'
      rw [e1] at hr1
      rw [e2] at hr2
      have hla := rep_len k
      have hlb := rep_len b
      have hla2 : (textL (List.replicate k haltL)).length ≤ 1000 := by omega
      have hlb2 : (textL (List.replicate b haltL)).length ≤ 1000 := by omega
      have HRA := Lib.hid hra; have HRB := Lib.hid hrb; have HR1 := Lib.hid hr1; have HR2 := Lib.hid hr2
      clear e1 e2 hra hrb hr1 hr2 hla hlb
      generalize textL (List.replicate (k + b) haltL) = t at *
      generalize textL (List.replicate k haltL) = ta at *
      generalize textL (List.replicate b haltL) = tb at *
      go_enter Tryd.func10, Tryd.ntmps10
      go_wp2_with fail
      refine ha.mono ?_
      rintro e w1 ⟨rfl, hb1⟩
      have HB1 := Lib.hid hb1
      clear ha hb1
      go_wp2_with fail
      refine (HREP.out w1).mono ?_
      rintro e w2 ⟨rfl, hb2⟩
      have HB2 := Lib.hid (below_next HB1.out hb2)
      clear hb2
      go_wp2_with fail
      refine (HRD.out w2 (HG.out.belowH HB2.out)).mono ?_
      rintro e w3 ⟨A, c, rfl, _, hb3⟩
      have HB3 := Lib.hid (below_next HB2.out hb3)
      clear hb3
      go_wp2_with fail
      refine (HRA.out w3).mono ?_
      rintro e w4 ⟨rfl, hb4⟩
      have HB4 := Lib.hid (below_next HB3.out hb4)
      clear hb4
      go_wp2_with fail
      refine (HRB.out w4).mono ?_
      rintro e w5 ⟨rfl, hb5⟩
      have HB5 := Lib.hid (below_next HB4.out hb5)
      clear hb5
      go_wp2_with fail
      refine (HR1.out w5 (HG.out.belowH HB5.out)).mono ?_
      rintro e w6 ⟨rfl, hb6⟩
      have HB6 := Lib.hid (below_next HB5.out hb6)
      clear hb6
      go_wp2_with fail
      refine (HRA.out w6).mono ?_
      rintro e w7 ⟨rfl, hb7⟩
      have HB7 := Lib.hid (below_next HB6.out hb7)
      clear hb7
      go_wp2_with fail
      refine (HRB.out w7).mono ?_
      rintro e w8 ⟨rfl, hb8⟩
      have HB8 := Lib.hid (below_next HB7.out hb8)
      clear hb8
      go_wp2_with fail
      refine (HR2.out w8 (HG.out.belowH HB8.out)).mono ?_
      rintro e w9 ⟨rfl, hb9⟩
      have HB9 := Lib.hid (below_next HB8.out hb9)
      clear hb9
      go_wp2_with fail
      go_ret
      exact ⟨rfl, HB9.out⟩
end Go.Proofs.YtiegkhoidabkhaaDoor
