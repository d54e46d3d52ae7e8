/- The law LabelNames. -/
import Derived.Test.YtiegkhoidabkhaaDoorA27
import Derived.Laws.IdiomStrings
namespace Go.Proofs.YtiegkhoidabkhaaDoor
open Go.Shelf Go.RowKit Go.Maps

def letterN (n : Int) : UInt8 := UInt8.ofNat (97 + ((IntKind.u64.wrap n).tmod 26).toNat)
theorem letter_q (n : Int) : 0 ≤ (IntKind.u64.wrap n).tmod 26 ∧ (IntKind.u64.wrap n).tmod 26 < 26 := by
  have h : 0 ≤ IntKind.u64.wrap n := by
    simp [IntKind.wrap, IntKind.signed, IntKind.bits]
    omega
  exact ⟨Int.tmod_nonneg _ h, Int.tmod_lt_of_pos _ (by omega)⟩
theorem letter_nat (n : Int) : ((letterN n).toNat : Int) = (97 + (IntKind.u64.wrap n).tmod 26) % 256 := by
  have := letter_q n
  unfold letterN
  rw [UInt8.toNat_ofNat']
  omega
theorem letter_n (n : Int) : Letter [letterN n] := by
  have h := letter_nat n
  have := letter_q n
  exact ⟨_, rfl, by omega, by omega⟩

set_option maxRecDepth 100000 in
set_option maxHeartbeats 1000000 in
theorem names_law (A : Option Addr) (p : List Ins) (c : Nat) (n : Int) (hf : ∀ x ∈ p, x.Fit) (w : World) (hg : Gl w) (hp : RdIns w A p) (hl : p.length ≤ 9223372036854775807) :
    Calls Tryd.prog 6 #[.slice A p.length c, .int .i64 n] w fun e w' => e = .returned (.bool true) ∧ Below w.heap.size w w' := by
  have h10 := hg.size
  have ha := alive_any w hg
  have HG := Lib.hid hg; have HP := Lib.hid hp; have HF := Lib.hid hf
  clear hg hp hf
  go_enter Tryd.func6, Tryd.ntmps6
  go_wp2_with fail
  refine ha.mono ?_
  rintro e w1 ⟨rfl, hb1⟩
  have HB1 := Lib.hid hb1
  clear ha hb1
  have hcv : Sem.run Tryd.prog (convert 38 9 (Value.slice (some ⟨w1.heap.size, 0, none⟩) 1 1)) (w1.alloc (Obj.cells #[Value.int .u8 ((97 + (IntKind.u64.wrap n).tmod 26) % 256)] 5)) =
      Result.ok (S [letterN n]) (w1.alloc (Obj.cells #[Value.int .u8 ((97 + (IntKind.u64.wrap n).tmod 26) % 256)] 5)) := by
    refine run_convert_bytes_back _ 38 9 5 ⟨w1.heap.size, 0, none⟩ 1 [letterN n] Tryd.underlying38 (by kernel_rfl) Tryd.underlying9 (fun j hj => ?_)
    have hj0 : j = 0 := by simpa using hj
    subst hj0
    show (w1.alloc _).cell? ⟨w1.heap.size, 0, none⟩ = some (.int .u8 ((letterN n).toNat : Int))
    rw [letter_nat]
    exact (Ob.new w1 (Obj.cells #[Value.int .u8 ((97 + (IntKind.u64.wrap n).tmod 26) % 256)] 5)).cell 0
  have HB1' : Hid (Below w.heap.size w (w1.alloc (Obj.cells #[Value.int .u8 ((97 + (IntKind.u64.wrap n).tmod 26) % 256)] 5))) := HB1.out.alloc HB1.out.size _
  go_wp2_with fail
  refine (write_ref A p c [letterN n] (by simp) HF.out _ (HG.out.belowH HB1'.out) (HP.out.belowH HB1'.out) hl).mono ?_
  rintro e w3 ⟨rfl, hb3⟩
  have HB3 := Lib.hid (below_next HB1'.out hb3)
  clear HB1 HB1' hb3 hcv
  by_cases hw : (wrS [letterN n] p).2 = 0
  · have hr := reads_back (letter_n n) HF.out hw w3 (HG.out.belowH HB3.out)
    rw [hw]
    clear hw
    generalize (wrS [letterN n] p).1 = t at *
    go_wp2_with fail
    refine hr.mono ?_
    rintro e w4 ⟨hb4, A', c', rfl, hrd⟩
    have HB4 := Lib.hid (below_next HB3.out hb4)
    have hsame := same_any A A' p c c' w4 (HP.out.belowH HB4.out) hrd hl
    clear hr hb4 hrd HB3
    go_wp2_with fail
    refine hsame.mono ?_
    rintro e w5 ⟨rfl, hb5⟩
    have HB5 := Lib.hid (below_next HB4.out hb5)
    clear HB4 hb5 hsame
    go_wp2
    go_ret
    exact ⟨rfl, HB5.out⟩
  · have hne : ((wrS [letterN n] p).2 == 0) = false := by rw [beq_eq_false_iff_ne]; exact hw
    clear hw
    generalize (wrS [letterN n] p).2 = k at *
    go_wp2
    go_ret
    exact ⟨rfl, HB3.out⟩
end Go.Proofs.YtiegkhoidabkhaaDoor
