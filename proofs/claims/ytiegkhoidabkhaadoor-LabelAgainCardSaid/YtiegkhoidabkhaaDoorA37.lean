/- The law LabelAgain. -/
import Derived.Test.YtiegkhoidabkhaaDoorA36
import Derived.Test.YtiegkhoidabkhaaDoorA27
namespace Go.Proofs.YtiegkhoidabkhaaDoor
open Go.Shelf Go.RowKit Go.Maps

set_option maxRecDepth 100000 in
set_option maxHeartbeats 1000000 in
theorem again_law (text : List UInt8) (hl : text.length ≤ 9223372036854775807) (w : World) (hg : Gl w) :
    Calls Tryd.prog 5 #[S text] w fun e w' => e = .returned (.bool true) ∧ Below w.heap.size w w' := by
  have ha := alive_any w hg
  have HG := Lib.hid hg
  clear hg
  go_enter Tryd.func5, Tryd.ntmps5
  go_wp2_with fail
  refine ha.mono ?_
  rintro e w1 ⟨rfl, hb1⟩
  have HB1 := Lib.hid hb1
  clear ha hb1
  have hr := reads_any text hl w1 (HG.out.belowH HB1.out)
  have hq := fun w' => ref_any text hl w'
  unfold ReadsPost at hr
  unfold RefPost at hq
  have he := @readS_err text
  have hgood := @read_good text
  have hwr := fun s h => @read_writes text s h [112]
  generalize readS text = R at *
  cases R with
  | inl p =>
    obtain ⟨n, k⟩ := p
    have hk := he rfl
    have hk2 : (k != 0) = true := by simpa using hk
    have HQ := Lib.hid hq
    clear he hgood hwr hq
    go_wp2_with fail
    refine hr.mono ?_
    rintro e w2 ⟨hb2, rfl⟩
    have HB2 := Lib.hid (below_next HB1.out hb2)
    clear hb2 hr
    go_wp2_with fail
    refine (HQ.out _).mono ?_
    rintro e w3 ⟨hb3, rfl⟩
    have HB3 := Lib.hid (below_next HB2.out hb3)
    clear hb3 HQ
    go_wp2
    go_ret
    exact ⟨rfl, HB3.out⟩
  | inr s =>
    have hw0 := hwr s rfl
    have hfit : ∀ x ∈ s.prog, x.Fit := fun x hx => ((hgood rfl).2 x hx).fit
    have hpl := (hgood rfl).1
    clear he hgood hwr
    dsimp only at hr hq
    generalize s.prog = P at *
    have hwa := fun A c w' hg' hr' => write_any A P c hfit w' hg' hr' (by omega)
    have hrb := fun w' hg' => reads_back letter_p hfit hw0 w' hg'
    simp only [hw0] at hwa
    clear hw0
    generalize (wrS [112] P).1 = t at *
    have HQ := Lib.hid hq; have HWA := Lib.hid hwa; have HRB := Lib.hid hrb
    clear hq hfit hwa hrb
    go_wp2_with fail
    refine hr.mono ?_
    rintro e w2 ⟨hb2, v, rfl, hown⟩
    obtain ⟨A, c, rfl, hrd⟩ := rd_own hown
    have HB2 := Lib.hid (below_next HB1.out hb2)
    have HRD := Lib.hid hrd
    clear hb2 hr hown hrd
    go_wp2_with fail
    refine (HQ.out _).mono ?_
    rintro e w3 ⟨hb3, v2, mv, rfl, _, _⟩
    have HB3 := Lib.hid (below_next HB2.out hb3)
    have HRD3 := Lib.hid (HRD.out.belowH hb3)
    clear hb3 HQ HRD
    go_wp2_with fail
    refine (HWA.out A c w3 (HG.out.belowH HB3.out) HRD3.out).mono ?_
    rintro e w4 ⟨rfl, hb4⟩
    have HB4 := Lib.hid (below_next HB3.out hb4)
    have HRD4 := Lib.hid (HRD3.out.belowH hb4)
    clear hb4 HRD3
    go_wp2_with fail
    refine (HRB.out w4 (HG.out.belowH HB4.out)).mono ?_
    rintro e w5 ⟨hb5, A', c', rfl, hrd5⟩
    have HB5 := Lib.hid (below_next HB4.out hb5)
    have HRD5 := Lib.hid (HRD4.out.belowH hb5)
    have HRD5' := Lib.hid hrd5
    clear hb5 hrd5 HRD4 HRB
    go_wp2_with fail
    refine (HWA.out A' c' w5 (HG.out.belowH HB5.out) HRD5'.out).mono ?_
    rintro e w6 ⟨rfl, hb6⟩
    have HB6 := Lib.hid (below_next HB5.out hb6)
    have HRD6 := Lib.hid (HRD5.out.belowH hb6)
    have HRD6' := Lib.hid (HRD5'.out.belowH hb6)
    have hsame := same_any A A' P c c' w6 HRD6.out HRD6'.out (by omega)
    clear hb6 HRD5 HRD5' HWA
    go_wp2_with fail
    refine hsame.mono ?_
    rintro e w7 ⟨rfl, hb7⟩
    have HB7 := Lib.hid (below_next HB6.out hb7)
    clear hsame hb7
    go_wp2
    go_ret
    exact ⟨rfl, HB7.out⟩
end Go.Proofs.YtiegkhoidabkhaaDoor
