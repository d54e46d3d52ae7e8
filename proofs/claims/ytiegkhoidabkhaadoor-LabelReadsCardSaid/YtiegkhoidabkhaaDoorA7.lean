/- The reference's Told. -/
import Derived.Test.YtiegkhoidabkhaaDoorA6
import Derived.Deep.RegionHeld3
namespace Go.Proofs.YtiegkhoidabkhaaDoor
open Go.Shelf Go.RowKit

def wordsS : List UInt8 := [104, 97, 108, 116, 32, 99, 111, 110, 115, 116, 32, 97, 100, 100, 32, 106, 117, 109, 112, 32, 98, 101, 103, 105, 110, 32, 101, 110, 100, 32, 108, 111, 97, 100, 32, 115, 116, 111, 114, 101, 32, 114, 101, 97, 100, 32, 119, 114, 105, 116, 101, 32, 99, 114, 101, 97, 116, 101, 32, 114, 101, 109, 111, 118, 101, 32, 114, 101, 110, 97, 109, 101, 32, 99, 117, 116, 32, 114, 101, 99, 118, 32, 115, 101, 110, 100, 32, 99, 111, 109, 109, 105, 116, 32, 97, 98, 111, 114, 116, 32, 111, 112, 101, 110, 32, 114, 101, 116, 114, 121, 32, 101, 108, 115, 101, 32, 105, 110, 101, 118]
theorem pieces_words : pieces 32 wordsS = wordL := by decide +kernel
theorem wordL_len : wordL.length = 22 := rfl
theorem words_any (s : List UInt8) (hs : s = wordsS) (w : World) :
    Calls Tryd.prog 31 #[S s, .int .u8 32] w fun e w' => ∃ g cap, e = .returned (.slice (some ⟨g, 0, none⟩) 22 cap) ∧ (∀ k : Int, 0 ≤ k → k < 22 → w'.cell? ⟨g, k.toNat, none⟩ = some (S (wordOf k))) ∧ w.heap.size ≤ g ∧ Below w.heap.size w w' := by
  subst hs
  refine (pieces_any wordsS 32 (by decide) w).mono ?_
  rintro e w' ⟨v, rfl, hown, hb⟩
  rw [pieces_words] at hown
  obtain ⟨g, cap, rfl, hg, _⟩ := hown.form (by decide)
  refine ⟨g, cap, rfl, fun k h0 h1 => ?_, hg, hb⟩
  have h22 : k.toNat < wordL.length := by rw [wordL_len]; omega
  have := hown.cells (g := g) rfl k.toNat (S (wordOf k)) (by rw [List.getElem?_map, List.getElem?_eq_getElem h22]; simp [wordOf, List.getD_eq_getElem?_getD, List.getElem?_eq_getElem h22])
  rw [← this]
  congr 1
  unfold Addr.add
  split <;> simp_all

set_option maxRecDepth 100000 in
set_option maxHeartbeats 1000000 in
theorem told_ref (x : Ins) (pre : List UInt8) (hp : pre.length ≤ 1) (hf : x.Fit) (h1 : 0 ≤ x.op) (h2 : x.op < 22) (w : World) (hg : Gl w) :
    Calls Tryd.prog 29 #[x.agg, S pre] w fun e w' => e = .returned (S (tellT pre x)) ∧ Below w.heap.size w w' := by
  have HG := Lib.hid hg; have HF := Lib.hid hf
  have h10 := hg.size
  clear hg hf
  go_enter Tryd.func29, Tryd.ntmps29
  go_wp2
  refine forget (fun wo => Ob wo w.heap.size (.cells #[.int .i64 x.op, .int .i64 x.a, .int .i64 x.b, .int .i64 x.c] 57) ∧ Below w.heap.size w wo) ⟨Ob.new w _, by go_grown⟩ ?_
  rintro wo ⟨hO, hB⟩
  have HO := Lib.hid hO; have HB := Lib.hid hB
  have c0 : wo.cell? ⟨w.heap.size, 0, none⟩ = some (.int .i64 x.op) := hO.cell 0
  clear hO hB
  go_region_with ((go_at_call 31; refine (words_any _ (by rfl) _).mono ?_; rintro e w2 ⟨g, cap, rfl, hcw0, hgs, hb⟩; have hcw := hcw0 x.op h1 h2; have hc0 := cell_belowH hb c0))
  all_goals
    have hO2 := Ob.belowH (w := wo.drew) HO.out hb
    have HB2 := Lib.hid (below_next (w1 := wo.drew) HB.out.drew hb)
    have d0 : w2.cell? ⟨w.heap.size, 0, none⟩ = some (.int .i64 x.op) := hO2.cell 0
    have d1 : w2.cell? ⟨w.heap.size, 1, none⟩ = some (.int .i64 x.a) := hO2.cell 1
    have d2 : w2.cell? ⟨w.heap.size, 2, none⟩ = some (.int .i64 x.b) := hO2.cell 2
    have d3 : w2.cell? ⟨w.heap.size, 3, none⟩ = some (.int .i64 x.c) := hO2.cell 3
    have HO2 := Lib.hid hO2
    clear hcw0 hcw hgs hb c0 hc0 hO2 HO HB
    go_wp2
    refine forget (fun wq => Ob wq w.heap.size (.cells #[.int .i64 x.op, .int .i64 x.a, .int .i64 x.b, .int .i64 x.c] 57) ∧ Ob wq w2.heap.size (.cells #[.int .i64 x.a, .int .i64 x.b, .int .i64 x.c] 92) ∧ Below w.heap.size w wq) ⟨HO2.out.alloc _, Ob.new _ _, HB2.out.alloc HB2.out.size _⟩ ?_
    clear d0 d1 d2 d3 HO2
    rintro wq ⟨hO, hA, hB⟩
    go_loopw [5, 7] (fun v5 v7 wr => ∃ k : Nat, k ≤ (shapeOf x.op).length ∧ v5 = S (tellAt pre x k) ∧ v7 = .int .i64 k ∧ Hid (Ob wr w.heap.size (.cells #[.int .i64 x.op, .int .i64 x.a, .int .i64 x.b, .int .i64 x.c] 57)) ∧ Hid (Ob wr w2.heap.size (.cells #[.int .i64 x.a, .int .i64 x.b, .int .i64 x.c] 92)) ∧ Hid (Below w.heap.size w wr) ∧ (tellAt pre x k).length ≤ 10 + 30 * k)
      (fun v5 v7 wr => (shapeOf x.op).length - (intOf v7).toNat)
    case atStart => exact ⟨0, by omega, by rw [tellAt_zero], rfl, hO, hA, hB, by rw [tellAt_zero]; have := word_len x.op; omega⟩
    case round =>
      clear hO hA hB
      obtain ⟨k, hk, rfl, rfl, HO, HA, HB, hL⟩ := hrel
      have hsl := shape_len x.op
      have e0 : wr.cell? ⟨w.heap.size, 0, none⟩ = some (.int .i64 x.op) := HO.out.cell 0
      by_cases hlt : k < (shapeOf x.op).length
      · obtain ⟨c, hc⟩ : ∃ c, (shapeOf x.op)[k]? = some c := ⟨_, List.getElem?_eq_getElem hlt⟩
        obtain ⟨n, hn, hn0, hn1⟩ : ∃ n, x.nums[k]? = some n ∧ -9223372036854775808 ≤ n ∧ n ≤ 9223372036854775807 := by
          have F := HF.out
          match k, (show k < 3 by omega) with
          | 0, _ => exact ⟨_, rfl, F.a0, F.a1⟩
          | 1, _ => exact ⟨_, rfl, F.b0, F.b1⟩
          | 2, _ => exact ⟨_, rfl, F.c0, F.c1⟩
        have hcell : wr.cell? ⟨w2.heap.size, k, none⟩ = some (.int .i64 n) := by
          rw [HA.out.cell]
          match k, (show k < 3 by omega), hn with
          | 0, _, hn => simpa [Ins.nums] using hn
          | 1, _, hn => simpa [Ins.nums] using hn
          | 2, _, hn => simpa [Ins.nums] using hn
        have hsucc := tellAt_succ pre x k c n hc hn
        have hasc := shape_ascii x.op k c hc
        have hix := fun w' => run_idx_str w' (shapeOf x.op) k c hc
        have hit := itoa_any n hn0 hn1 wr (HG.out.belowH HB.out)
        have hnl := itoa_len n hn0 hn1
        have hL' : (tellAt pre x (k + 1)).length ≤ 10 + 30 * (k + 1) := by
          rw [hsucc, List.length_append]
          have : (fieldT pre c n).length ≤ 30 := by unfold fieldT; split <;> simp <;> omega
          omega
        have HS := Lib.hid hsucc; have HL' := Lib.hid hL'; have HHC := Lib.hid hc; have HHN := Lib.hid hn
        clear hsucc hL' hc hn
        have hL2 : ((tellAt pre x k).length : Int) ≤ 1000 := by omega
        have hil : ((Lib.itoa n).length : Int) ≤ 1000 := by omega
        have hpl : (pre.length : Int) ≤ 1000 := by omega
        generalize tellAt pre x k = acc at *
        rcases hasc with rfl | rfl
        · go_wp2_with (first | (go_at_call 26; refine (behind_any _ h1 h2 _).mono ?_; rintro e w' ⟨rfl, rfl⟩) | (go_at_call 28; refine hit.mono ?_; rintro e w3 ⟨rfl, hb2⟩))
          go_roundw
          case rel => exact ⟨k + 1, by omega, by rw [HS.out]; simp [fieldT, ByteArray.mk_append_mk], by go_num, HO.out.belowH hb2, HA.out.belowH hb2, below_next HB.out hb2, HL'.out⟩
          case measure => simp [intOf]; omega
        · go_wp2_with (first | (go_at_call 26; refine (behind_any _ h1 h2 _).mono ?_; rintro e w' ⟨rfl, rfl⟩) | (go_at_call 28; refine hit.mono ?_; rintro e w3 ⟨rfl, hb2⟩))
          go_roundw
          case rel => exact ⟨k + 1, by omega, by rw [HS.out]; simp [fieldT, ByteArray.mk_append_mk], by go_num, HO.out.belowH hb2, HA.out.belowH hb2, below_next HB.out hb2, HL'.out⟩
          case measure => simp [intOf]; omega
      · have hkl : k = (shapeOf x.op).length := by omega
        subst hkl
        go_wp2_with (first | (go_at_call 26; refine (behind_any _ h1 h2 _).mono ?_; rintro e w' ⟨rfl, rfl⟩))
        go_ret
        exact ⟨ret_S (tellAt_all pre x _ (Nat.le_refl _)), HB.out⟩
end Go.Proofs.YtiegkhoidabkhaaDoor
