/- The law LabelWrites. -/
import Derived.Test.YtiegkhoidabkhaaDoorA21
import Derived.Test.YtiegkhoidabkhaaDoorA8
namespace Go.Proofs.YtiegkhoidabkhaaDoor
open Go.Shelf Go.RowKit Go.Maps

set_option maxRecDepth 100000 in
set_option maxHeartbeats 1000000 in
theorem writes_law (A : Option Addr) (p : List Ins) (c : Nat) (hf : ∀ x ∈ p, x.Fit) (w : World) (hg : Gl w) (hp : RdIns w A p) (hl : p.length ≤ 9223372036854775807) :
    Calls Tryd.prog 3 #[.slice A p.length c] w fun e w' => e = .returned (.bool true) ∧ Below w.heap.size w w' := by
  have h10 := hg.size
  have ha := alive_any w hg
  have HG := Lib.hid hg; have HP := Lib.hid hp; have HF := Lib.hid hf
  clear hg hp hf
  go_enter Tryd.func3, Tryd.ntmps3
  go_wp2_with fail
  refine ha.mono ?_
  rintro e w1 ⟨rfl, hb1⟩
  have HB1 := Lib.hid hb1
  clear ha hb1
  go_wp2_with fail
  refine (write_any A p c HF.out w1 (HG.out.belowH HB1.out) (HP.out.belowH HB1.out) hl).mono ?_
  rintro e w2 ⟨rfl, hb2⟩
  have HB2 := Lib.hid (below_next HB1.out hb2)
  clear HB1 hb2
  go_wp2_with fail
  refine (write_ref A p c [112] (by decide) HF.out w2 (HG.out.belowH HB2.out) (HP.out.belowH HB2.out) hl).mono ?_
  rintro e w3 ⟨rfl, hb3⟩
  have HB3 := Lib.hid (below_next HB2.out hb3)
  clear HB2 hb3
  generalize wrS [112] p = R
  go_wp2
  go_ret
  exact ⟨rfl, HB3.out⟩
end Go.Proofs.YtiegkhoidabkhaaDoor
