/- label.tell. -/
import Derived.Test.YtiegkhoidabkhaaDoorA1
namespace Go.Proofs.YtiegkhoidabkhaaDoor
open Go.RowKit

set_option maxRecDepth 100000 in
set_option maxHeartbeats 1000000 in
theorem tell_any (x : Ins) (hf : x.Fit) (h1 : 0 ≤ x.op) (h2 : x.op < 22) (w : World) (hg : Gl w) :
    Calls Tryd.prog 24 #[x.agg] w fun e w' => e = .returned (S (tellT [112] x)) ∧ Below w.heap.size w w' := by
  have hsh := hg.shape x.op h1 h2
  have hwd := hg.word x.op h1 h2
  have h10 := hg.size
  have hsh' : ∀ o o', ((w.alloc o).alloc o').cell? ⟨0, x.op.toNat, none⟩ = some (S (shapeOf x.op)) := fun o o' => by rw [World.cell?_alloc_lt _ _ _ (by simp), World.cell?_alloc_lt _ _ _ (by show 0 < _; omega)]; exact hsh
  have hwd' : ∀ o, (w.alloc o).cell? ⟨1, x.op.toNat, none⟩ = some (S (wordOf x.op)) := fun o => by rw [World.cell?_alloc_lt _ _ _ (by show 1 < _; omega)]; exact hwd
  clear hsh hwd
  have HG := Lib.hid hg; clear hg
  have HF := Lib.hid hf; clear hf
  go_enter Tryd.func24, Tryd.ntmps24
  go_wp2
  obtain ⟨wo, hwo⟩ : ∃ wo : World, wo = ((w.alloc (Obj.cells #[Value.int IntKind.i64 x.op, Value.int IntKind.i64 x.a, Value.int IntKind.i64 x.b, Value.int IntKind.i64 x.c] 57)).alloc (Obj.cells #[Value.int IntKind.i64 x.a, Value.int IntKind.i64 x.b, Value.int IntKind.i64 x.c] 92)).iter { data := (shapeOf x.op).toArray } 0 := ⟨_, rfl⟩
  have hB1 : Ob wo (w.heap.size + 1) (Obj.cells #[Value.int IntKind.i64 x.a, Value.int IntKind.i64 x.b, Value.int IntKind.i64 x.c] 92) := by rw [hwo]; exact (Ob.new' _ (by simp)).iter _ _
  have hB2 : Ob wo (w.heap.size + 1 + 1) (Obj.stringIter ⟨(shapeOf x.op).toArray⟩ 0) := by rw [hwo]; exact Ob.new' _ (by simp)
  have hbo : Below w.heap.size w wo := by rw [hwo]; unfold World.iter; go_grown
  rw [← hwo]
  clear hsh' hwd' hwo
  go_loopw [3] (fun v3 wr => ∃ k : Nat, k ≤ (shapeOf x.op).length ∧ v3 = S (tellAt [112] x k) ∧ Ob wr (w.heap.size + 1 + 1) (Obj.stringIter ⟨(shapeOf x.op).toArray⟩ k) ∧ Ob wr (w.heap.size + 1) (Obj.cells #[Value.int IntKind.i64 x.a, Value.int IntKind.i64 x.b, Value.int IntKind.i64 x.c] 92) ∧ Below w.heap.size w wr ∧ (tellAt [112] x k).length ≤ 10 + 30 * k)
    (fun v3 wr => (shapeOf x.op).length - wr.iterPos (w.heap.size + 1 + 1))
  case atStart => exact ⟨0, by omega, by rw [tellAt_zero], hB2, hB1, hbo, by rw [tellAt_zero]; have := word_len x.op; omega⟩
  case round =>
    obtain ⟨k, hk, rfl, hI, hA, hB, hL⟩ := hrel
    have hsl := shape_len x.op
    by_cases hlt : k < (shapeOf x.op).length
    · obtain ⟨c, hc⟩ : ∃ c, (shapeOf x.op)[k]? = some c := ⟨_, List.getElem?_eq_getElem hlt⟩
      obtain ⟨n, hn, hn0, hn1⟩ : ∃ n, x.nums[k]? = some n ∧ -9223372036854775808 ≤ n ∧ n ≤ 9223372036854775807 := by
        have F := HF.out
        match k, (show k < 3 by omega) with
        | 0, _ => exact ⟨_, rfl, F.a0, F.a1⟩
        | 1, _ => exact ⟨_, rfl, F.b0, F.b1⟩
        | 2, _ => exact ⟨_, rfl, F.c0, F.c1⟩
      have hcell : (wr.iterAt (w.heap.size + 1 + 1) ⟨(shapeOf x.op).toArray⟩ (k + 1)).cell? ⟨w.heap.size + 1, k, none⟩ = some (.int .i64 n) := by
        rw [(hA.iterAt (by omega) _ _).cell]
        match k, (show k < 3 by omega), hn with
        | 0, _, hn => simpa [Ins.nums] using hn
        | 1, _, hn => simpa [Ins.nums] using hn
        | 2, _, hn => simpa [Ins.nums] using hn
      have hsucc := tellAt_succ [112] x k c n hc hn
      have hasc := shape_ascii x.op k c hc
      have hgetc : (⟨(shapeOf x.op).toArray⟩ : ByteArray)[k]'(by simpa [ByteArray.size] using hlt) = c := by
        have := List.getElem?_eq_getElem hlt
        rw [hc] at this; injection this with this; exact this.symm
      have hnx : ∀ ty, (Instr.next (.pointer (some ⟨w.heap.size + 1 + 1, 0, none⟩)) true ty).run Tryd.prog wr = .ok (.tuple #[.bool true, .int .i64 k, .int .i32 c.toNat]) (wr.iterAt (w.heap.size + 1 + 1) ⟨(shapeOf x.op).toArray⟩ (k + 1)) := fun ty => by
        rw [Lib.run_next_ascii_at wr _ _ k ty hI (by simpa [ByteArray.size] using hlt) (by rw [hgetc]; rcases hasc with rfl | rfl <;> decide), hgetc]
      have hG1 : Gl (wr.iterAt (w.heap.size + 1 + 1) ⟨(shapeOf x.op).toArray⟩ (k + 1)) := HG.out.belowH (Lib.below_iterAt hB (by omega) _ _)
      have hI1 := hI.iterOn (k + 1)
      have hA1 := hA.iterAt (k := w.heap.size + 1 + 1) (by omega) ⟨(shapeOf x.op).toArray⟩ (k + 1)
      have hB1' := Lib.below_iterAt hB (k := w.heap.size + 1 + 1) (by omega) ⟨(shapeOf x.op).toArray⟩ (k + 1)
      generalize hw1 : wr.iterAt (w.heap.size + 1 + 1) ⟨(shapeOf x.op).toArray⟩ (k + 1) = w1 at *
      have hgo := goal_any n hn0 hn1 w1 hG1
      have hit := itoa_any n hn0 hn1 w1 hG1
      have hnl := itoa_len n hn0 hn1
      have hL' : (tellAt [112] x (k + 1)).length ≤ 10 + 30 * (k + 1) := by
        rw [hsucc, List.length_append]
        have : (fieldT [112] c n).length ≤ 30 := by unfold fieldT; split <;> simp <;> omega
        omega
      have HS := Lib.hid hsucc; have HL' := Lib.hid hL'; have HI1 := Lib.hid hI1; have HHC := Lib.hid hc; have HHN := Lib.hid hn; have HI := Lib.hid hI
      clear hsucc hgetc hG1 hI hA hB hL' hc hn HG HF hw1
      have hL2 : ((tellAt [112] x k).length : Int) ≤ 1000 := by omega
      generalize tellAt [112] x k = acc at *
      have hgl : ((goalT [112] n).length : Int) ≤ 1000 := by simp [goalT]; omega
      have hil : ((Lib.itoa n).length : Int) ≤ 1000 := by omega
      rcases hasc with rfl | rfl
      · go_wp2_with (go_at_call 23; refine hgo.mono ?_; rintro e w2 ⟨rfl, hb2⟩)
        go_roundw
        case rel => exact ⟨k + 1, by omega, by rw [HS.out]; rfl, HI1.out.belowH hb2, hA1.belowH hb2, below_next hB1' hb2, HL'.out⟩
        case measure => rw [(HI1.out.belowH hb2).pos, HI.out.pos]; omega
      · go_wp2_with (go_at_call 28; refine hit.mono ?_; rintro e w2 ⟨rfl, hb2⟩)
        go_roundw
        case rel => exact ⟨k + 1, by omega, by rw [HS.out]; rfl, HI1.out.belowH hb2, hA1.belowH hb2, below_next hB1' hb2, HL'.out⟩
        case measure => rw [(HI1.out.belowH hb2).pos, HI.out.pos]; omega
    · have hnx : ∀ ty, (Instr.next (.pointer (some ⟨w.heap.size + 1 + 1, 0, none⟩)) true ty).run Tryd.prog wr = .ok (.tuple #[.bool false]) wr := fun ty => Lib.run_next_end_at wr _ _ k ty hI (by simpa [ByteArray.size] using hlt)
      go_wp2
      go_ret
      exact ⟨by rw [← tellAt_all [112] x k (by omega)]; rfl, hB⟩
end Go.Proofs.YtiegkhoidabkhaaDoor
