/- The laws LabelReturns and LabelNames. -/
import Derived.Test.YtiegkhoidabkhaaDoorA26
import Derived.Test.YtiegkhoidabkhaaDoorA8
import Derived.Test.YtiegkhoidabkhaaDoorB12
namespace Go.Proofs.YtiegkhoidabkhaaDoor
open Go.Shelf Go.RowKit Go.Maps

theorem letter_p : Letter [112] := ⟨112, rfl, by decide, by decide⟩
/-- Reading a text that was written. -/
theorem reads_back {pre : List UInt8} (hpre : Letter pre) {p : List Ins} (hf : ∀ x ∈ p, x.Fit) (hw : (wrS pre p).2 = 0) (w : World) (hg : Gl w) :
    Calls Tryd.prog 14 #[S (wrS pre p).1] w fun e w' => Below w.heap.size w w' ∧ ∃ A c, e = .returned (.tuple #[.slice A p.length c, .int .i64 0, .int .i64 0]) ∧ RdIns w' A p := by
  have hlen := wrS_len (pre := pre) (by obtain ⟨c, rfl, _⟩ := hpre; simp) hf
  obtain ⟨s, hs, hsp⟩ := wrS_back hpre hf hw
  have hr := reads_any (wrS pre p).1 (by omega) w hg
  unfold ReadsPost at hr
  rw [hs] at hr
  refine hr.mono ?_
  rintro e w' ⟨hb, v, rfl, hown⟩
  rw [hsp] at hown
  obtain ⟨A, c, rfl, hrd⟩ := rd_own hown
  exact ⟨hb, A, c, rfl, hrd⟩

set_option maxRecDepth 100000 in
set_option maxHeartbeats 1000000 in
theorem returns_law (A : Option Addr) (p : List Ins) (c : Nat) (hf : ∀ x ∈ p, x.Fit) (w : World) (hg : Gl w) (hp : RdIns w A p) (hl : p.length ≤ 9223372036854775807) :
    Calls Tryd.prog 4 #[.slice A p.length c] w fun e w' => e = .returned (.bool true) ∧ Below w.heap.size w w' := by
  have h10 := hg.size
  have ha := alive_any w hg
  have HG := Lib.hid hg; have HP := Lib.hid hp; have HF := Lib.hid hf
  clear hg hp hf
  go_enter Tryd.func4, Tryd.ntmps4
  go_wp2_with fail
  refine ha.mono ?_
  rintro e w1 ⟨rfl, hb1⟩
  have HB1 := Lib.hid hb1
  clear ha hb1
  go_wp2_with fail
  refine (write_any A p c HF.out w1 (HG.out.belowH HB1.out) (HP.out.belowH HB1.out) hl).mono ?_
  rintro e w2 ⟨rfl, hb2⟩
  have HB2 := Lib.hid (below_next HB1.out hb2)
  clear HB1 hb2
  go_wp2_with fail
  refine (write_ref A p c [112] (by decide) HF.out w2 (HG.out.belowH HB2.out) (HP.out.belowH HB2.out) hl).mono ?_
  rintro e w3 ⟨rfl, hb3⟩
  have HB3 := Lib.hid (below_next HB2.out hb3)
  clear HB2 hb3
  by_cases hw : (wrS [112] p).2 = 0
  · have hr := reads_back letter_p HF.out hw w3 (HG.out.belowH HB3.out)
    rw [hw]
    have HW := Lib.hid hw
    clear hw
    generalize (wrS [112] p).1 = t at *
    go_wp2_with fail
    refine hr.mono ?_
    rintro e w4 ⟨hb4, A', c', rfl, hrd⟩
    have HB4 := Lib.hid (below_next HB3.out hb4)
    have hsame := same_any A A' p c c' w4 (HP.out.belowH HB4.out) hrd hl
    clear hr hb4 hrd HB3
    go_wp2_with fail
    refine hsame.mono ?_
    rintro e w5 ⟨rfl, hb5⟩
    have HB5 := Lib.hid (below_next HB4.out hb5)
    clear HB4 hb5 hsame
    go_wp2
    go_ret
    exact ⟨rfl, HB5.out⟩
  · have ht := wrS_err hw
    rw [ht]
    have hne : ((wrS [112] p).2 == 0) = false := by rw [beq_eq_false_iff_ne]; exact hw
    clear hw ht
    generalize (wrS [112] p).2 = k at *
    go_wp2
    go_ret
    exact ⟨rfl, HB3.out⟩
end Go.Proofs.YtiegkhoidabkhaaDoor
