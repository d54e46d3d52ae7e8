/- The reference's Said at an instruction's line. -/
import Derived.Test.YtiegkhoidabkhaaDoorA33
import Derived.Outline
namespace Go.Proofs.YtiegkhoidabkhaaDoor
open Go.Shelf Go.RowKit

theorem own_cap {w : World} {base n : Nat} {e : TypeId} {size : Nat} {v : Value} {xs : List Value} (h : w.ownsRow base e size v n xs) (h0 : 0 < n) :
    ∃ g cap, v = .slice (some ⟨g, 0, none⟩) n cap ∧ base ≤ g ∧ g < w.heap.size ∧ n ≤ cap ∧ cap ≤ 9223372036854775807 := by
  rcases h.2 with ⟨_, h1⟩ | ⟨g, cap, cur, rfl, hb, hh, hn, hc, _⟩
  · omega
  · exact ⟨g, cap, rfl, hb, Ob.lt (o := .cells cur e) hh, hn, hc⟩
set_option maxRecDepth 100000 in
set_option maxHeartbeats 2000000 in
theorem said_instr (c0 : UInt8) (l0 : List UInt8) (hh : c0 ≠ 58) (hl : (c0 :: l0).length ≤ 60000) (w : World) :
    Calls Tryd.prog 32 #[S (c0 :: l0)] w fun e w' => ∃ m g op a b c ok, e = .returned (.tuple #[lineV m g op a b c, .bool ok]) ∧ Below w.heap.size w w' ∧ ParseSay (instrOf (c0 :: l0)) m g op a b c ok := by
  have hi := fun w' => idx_zero w' c0 l0
  have h58 : ((c0.toNat : Int) == 58) = false := by
    rw [beq_eq_false_iff_ne]; intro e
    exact hh (by rw [← UInt8.toNat_inj]; have : (58 : UInt8).toNat = 58 := rfl; omega)
  obtain ⟨x, rest, hx⟩ := pieces_cons 32 (c0 :: l0)
  have hpl := pieces_len 32 (c0 :: l0)
  have hple := pieces_le 32 (c0 :: l0)
  have hpc := fun w' => pieces_any (c0 :: l0) 32 (by omega) w'
  have HX := Lib.hid hx; have HPL := Lib.hid hple; have HPC := Lib.hid hpc
  have hrl : rest.length + 1 ≤ (c0 :: l0).length + 1 := by rw [hx] at hpl; simpa using hpl.2
  clear hx hpl hple hpc hh
  generalize hL : c0 :: l0 = l at *
  go_enter Tryd.func32, Tryd.ntmps32
  go_wp2_with fail
  refine (HPC.out _).mono ?_
  rintro e w1 ⟨v, rfl, hown, hb1⟩
  rw [HX.out] at hown
  obtain ⟨g, cap, rfl, hgB, hgl, hnc, hcm⟩ := own_cap hown (by simp)
  have hR1 : Ob w1 w.heap.size (.cells (lineCells [] [] 0 0 0 0) 80) := (Ob.new w _).belowH hb1
  have hB1 : Below w.heap.size w w1 := below_then ((Below.refl _ w).alloc (Nat.le_refl _) _) (by simp) hb1
  have hcell : ∀ j s, (x :: rest)[j]? = some s → w1.cell? ⟨g, j, none⟩ = some (S s) := fun j s hj => by
    have hjl := (List.getElem?_eq_some_iff.1 hj).1
    rw [hown.cellAt j (by omega), List.getElem?_map, hj]
    rfl
  have hx0 : w1.cell? ⟨g, 0, none⟩ = some (S x) := hcell 0 x rfl
  have HR := Lib.hid hR1; have HB := Lib.hid hB1; have HC := Lib.hid hcell
  simp only [World.size_alloc] at hgB
  clear hown hb1 hR1 hB1 hcell
  go_wp2_with fail
  refine (op_ref x _).mono ?_
  rintro e w2 ⟨rfl, hb2⟩
  have hR2 := HR.out.belowH hb2
  have hB2 := below_next HB.out hb2
  have hC2 : ∀ j s, (x :: rest)[j]? = some s → w2.cell? ⟨g, j, none⟩ = some (S s) := fun j s hj => cell_belowH hb2 (HC.out j s hj)
  have HR2 := Lib.hid hR2; have HB2 := Lib.hid hB2; have HC2 := Lib.hid hC2
  have hg2 : g < w2.heap.size := by have := hb2.size; omega
  have r0 : w2.cell? ⟨w.heap.size, 0, none⟩ = some (S []) := hR2.cell 0
  have r1 : w2.cell? ⟨w.heap.size, 1, none⟩ = some (S []) := hR2.cell 1
  have r2 : w2.cell? ⟨w.heap.size, 2, none⟩ = some (.int .i64 0) := hR2.cell 2
  have r3 : w2.cell? ⟨w.heap.size, 3, none⟩ = some (.int .i64 0) := hR2.cell 3
  have r4 : w2.cell? ⟨w.heap.size, 4, none⟩ = some (.int .i64 0) := hR2.cell 4
  have r5 : w2.cell? ⟨w.heap.size, 5, none⟩ = some (.int .i64 0) := hR2.cell 5
  have rf : ∀ j, w2.frozen? ⟨w.heap.size, j, none⟩ = false := fun j => hR2.frozen j
  clear hb2 hR2 hB2 hC2 hx0 HR HB HC
  by_cases hk : opOf x < 0
  · have HN := Lib.hid (show instrOf l = none by simp [instrOf, HX.out, hk])
    go_wp2_with fail
    refine bodyPost_ret (v := .tuple #[lineV [] [] 0 0 0 0, .bool false]) (by simp [results, Tryd.results32, go_sem, *]) rfl ⟨[], [], 0, 0, 0, 0, false, rfl, ?_, by simp [ParseSay, HN.out]⟩
    have hbb := HB2.out
    go_grown
  have hk0 : 0 ≤ opOf x := by omega
  have hk1 : opOf x < 22 := by
    unfold opOf
    split
    · rename_i i hi
      rw [List.findIdx?_eq_some_iff_getElem] at hi
      obtain ⟨h, _⟩ := hi
      have : wordL.length = 22 := rfl
      omega
    · omega
  have hins : instrOf l = match fieldsOf (opOf x) rest with | some (g, f) => some ⟨[], g, opOf x, f⟩ | none => none := by
    simp [instrOf, HX.out, hk]
    rfl
  have HIN := Lib.hid hins
  have hbe := fun w' => behind_any (opOf x) hk0 hk1 w'
  have HBE := Lib.hid hbe
  clear hk hins hbe
  generalize opOf x = k at *
  simp only [List.length_cons] at hnc
  by_cases hne : rest.length = (shapeOf k).length
  · have hb : (((shapeOf k).length : Int) != (rest.length : Int)) = false := by rw [hne]; simp
    have HNE := Lib.hid hne
    clear hne
    go_wp2_with (go_at_call 26; refine (HBE.out _).mono ?_; rintro e w' ⟨rfl, rfl⟩)
    all_goals
      refine forget (fun wo => Hid (Ob wo w'.heap.size (.cells (lineCells [] [] k 0 0 0) 80)) ∧ Hid (Ob wo (w'.heap.size + 1) (.cells #[.int .i64 0, .int .i64 0, .int .i64 0] 92)) ∧ Hid (Below w'.heap.size w' wo)) ⟨(Ob.new _ _).alloc _, Ob.new' _ (by simp), by
        refine Below.alloc (Below.alloc (Below.refl _ _) (Nat.le_refl _) _) (by simp) _⟩ ?_
      rintro wo ⟨HO0, HF0, HB0⟩
      go_loopw [44] (fun v44 wr => ∃ (i : Nat) (g' : List UInt8) (f0 f1 f2 : Int), i ≤ rest.length ∧ v44 = .int .i64 i ∧ Hid (Ob wr w'.heap.size (.cells (lineCells [] g' k 0 0 0) 80)) ∧ Hid (Ob wr (w'.heap.size + 1) (.cells #[.int .i64 f0, .int .i64 f1, .int .i64 f2] 92)) ∧ Hid (Below w'.heap.size w' wr) ∧
          Hid (fldRun (((shapeOf k).zip rest).drop i) i g' [f0, f1, f2] = fieldsOf k rest))
        (fun v44 wr => rest.length - (intOf v44).toNat)
      case atStart => exact ⟨0, [], 0, 0, 0, by omega, rfl, HO0, HF0, HB0, Lib.hid (by rw [fieldsOf, if_pos HNE.out]; rfl)⟩
      case round =>
        clear HO0 HF0 HB0
        obtain ⟨i, g', f0, f1, f2, hil, rfl, HO, HF, HB, HX2⟩ := hrel
        by_cases hlt : i < rest.length
        · try (exfalso; omega)
          all_goals
            obtain ⟨s, hs⟩ : ∃ s, rest[i]? = some s := ⟨_, List.getElem?_eq_getElem hlt⟩
            obtain ⟨c, hc⟩ : ∃ c, (shapeOf k)[i]? = some c := ⟨_, List.getElem?_eq_getElem (by rw [← HNE.out]; exact hlt)⟩
            have hcs : wr.cell? ⟨g, 1 + i, none⟩ = some (S s) := cell_belowH HB.out (HC2.out (1 + i) s (by rw [Nat.add_comm]; simpa using hs))
            have hls : s.length ≤ 60000 := by
              have h1 := HPL.out s (by rw [HX.out]; exact List.mem_cons_of_mem _ (List.mem_of_getElem? hs))
              omega
            have hasc := shape_ascii k i c hc
            have hz : ((shapeOf k).zip rest)[i]? = some (c, s) := by rw [List.getElem?_zip_eq_some]; exact ⟨hc, hs⟩
            have hx := HX2.out
            rw [fldRun_drop hz] at hx
            have hix := fun w' => run_idx_str w' (shapeOf k) i c hc
            have hsl := shape_len k
            have hi3 : i < 3 := by have := HNE.out; omega
            have hOf : ∀ j, wr.frozen? ⟨w'.heap.size, j, none⟩ = false := fun j => HO.out.frozen j
            have hFf : ∀ j, wr.frozen? ⟨w'.heap.size + 1, j, none⟩ = false := fun j => HF.out.frozen j
            have o1 : wr.cell? ⟨w'.heap.size, 1, none⟩ = some (S g') := HO.out.cell 1
            have q0 : wr.cell? ⟨w.heap.size, 0, none⟩ = some (S []) := cell_belowH HB.out r0
            have q1 : wr.cell? ⟨w.heap.size, 1, none⟩ = some (S []) := cell_belowH HB.out r1
            have q2 : wr.cell? ⟨w.heap.size, 2, none⟩ = some (.int .i64 0) := cell_belowH HB.out r2
            have q3 : wr.cell? ⟨w.heap.size, 3, none⟩ = some (.int .i64 0) := cell_belowH HB.out r3
            have q4 : wr.cell? ⟨w.heap.size, 4, none⟩ = some (.int .i64 0) := cell_belowH HB.out r4
            have q5 : wr.cell? ⟨w.heap.size, 5, none⟩ = some (.int .i64 0) := cell_belowH HB.out r5
            have HRB := Lib.hid (HR2.out.belowH HB.out)
            have qf : ∀ j, wr.frozen? ⟨w.heap.size, j, none⟩ = false := fun j => HRB.out.frozen j
            have hBw := below_next HB2.out HB.out
            have HBW := Lib.hid hBw
            have hszw : w.heap.size < w'.heap.size := HR2.out.lt
            clear hs hc hz r0 r1 r2 r3 r4 r5 rf hBw
            rcases hasc with rfl | rfl
            · have hx2 : (if nameB s = true then fldRun (((shapeOf k).zip rest).drop (i + 1)) (i + 1) s [f0, f1, f2] else none) = fieldsOf k rest := by
                rw [← hx]
                simp only [fldStep, if_true]
                by_cases hn : nameB s = true <;> simp [hn]
              have HX3 := Lib.hid hx2
              clear hx hx2
              go_wp2_with (go_at_call 26; refine (HBE.out _).mono ?_; rintro e wr ⟨rfl, rfl⟩)
              obtain ⟨w2, hw2⟩ : ∃ w2, w2 = wr.setCell ⟨w'.heap.size, 1, none⟩ (S s) := ⟨_, rfl⟩
              rw [← hw2]
              have HO2 := Lib.hid (show Ob w2 w'.heap.size (.cells (lineCells [] s k 0 0 0) 80) by rw [hw2]; exact HO.out.set 1 _)
              have HF2 := Lib.hid (show Ob w2 (w'.heap.size + 1) (.cells #[.int .i64 f0, .int .i64 f1, .int .i64 f2] 92) by rw [hw2]; exact HF.out.far (by simp) _)
              have HRB2 := Lib.hid (show Ob w2 w.heap.size (.cells (lineCells [] [] 0 0 0 0) 80) by rw [hw2]; exact HRB.out.far (by show w.heap.size ≠ w'.heap.size; omega) _)
              have HB2' := Lib.hid (show Below w'.heap.size w' w2 by rw [hw2]; exact HB.out.setCell (by simp) _)
              have HBW2 := Lib.hid (show Below w.heap.size w w2 by rw [hw2]; exact HBW.out.setCell (by show w.heap.size ≤ w'.heap.size; omega) _)
              clear hw2 o1 hOf hFf hcs HO HF HB HBW HRB q0 q1 q2 q3 q4 q5 qf
              refine (name_ref s (by omega) _).mono ?_
              rintro e w3 ⟨rfl, rfl⟩
              by_cases hn : nameB s = true
              · rw [hn]
                have hx4 := HX3.out
                rw [if_pos hn] at hx4
                have HX4 := Lib.hid hx4
                clear hx4 hn
                go_wp2_with fail
                go_roundw
                case rel => exact ⟨i + 1, s, f0, f1, f2, by omega, by go_num, HO2, HF2, HB2', HX4⟩
                case measure => simp [intOf]; omega
              · have hn' : nameB s = false := by simpa using hn
                rw [hn']
                have hx4 := HX3.out
                rw [if_neg hn] at hx4
                have HN := Lib.hid (show instrOf l = none by rw [HIN.out, ← hx4])
                have q0 : w3.cell? ⟨w.heap.size, 0, none⟩ = some (S []) := HRB2.out.cell 0
                have q1 : w3.cell? ⟨w.heap.size, 1, none⟩ = some (S []) := HRB2.out.cell 1
                have q2 : w3.cell? ⟨w.heap.size, 2, none⟩ = some (.int .i64 0) := HRB2.out.cell 2
                have q3 : w3.cell? ⟨w.heap.size, 3, none⟩ = some (.int .i64 0) := HRB2.out.cell 3
                have q4 : w3.cell? ⟨w.heap.size, 4, none⟩ = some (.int .i64 0) := HRB2.out.cell 4
                have q5 : w3.cell? ⟨w.heap.size, 5, none⟩ = some (.int .i64 0) := HRB2.out.cell 5
                have qf : ∀ j, w3.frozen? ⟨w.heap.size, j, none⟩ = false := fun j => HRB2.out.frozen j
                clear hx4 hn hn'
                go_wp2_with fail
                refine bodyPost_ret (v := .tuple #[lineV [] [] 0 0 0 0, .bool false]) (by simp [results, Tryd.results32, go_sem, *]) rfl ⟨[], [], 0, 0, 0, 0, false, rfl, ?_, by simp [ParseSay, HN.out]⟩
                have hbb := HBW2.out
                go_grown
            · have hx2 : (match numOf s with | some v => fldRun (((shapeOf k).zip rest).drop (i + 1)) (i + 1) g' ([f0, f1, f2].set i v) | none => none) = fieldsOf k rest := by
                rw [← hx]
                simp only [fldStep]
                rw [if_neg (by decide)]
                cases numOf s <;> rfl
              have hnum := num_ref s wr (by omega)
              clear hx
              obtain ⟨u, hFc⟩ : ∃ u, wr.cell? ⟨w'.heap.size + 1, i, none⟩ = some u := by
                rw [HF.out.cell]
                exact ⟨_, Array.getElem?_eq_getElem (by simp; omega)⟩
              cases hno : numOf s with
              | some v =>
                rw [hno] at hx2
                unfold NumPost at hnum
                rw [hno] at hnum
                have HX3 := Lib.hid hx2
                have hI : ∃ f0' f1' f2', [f0, f1, f2].set i v = [f0', f1', f2'] ∧ (#[Value.int .i64 f0, Value.int .i64 f1, Value.int .i64 f2]).setIfInBounds i (Value.int .i64 v) = #[Value.int .i64 f0', Value.int .i64 f1', Value.int .i64 f2'] := by
                  match i, hi3 with
                  | 0, _ => exact ⟨_, _, _, rfl, rfl⟩
                  | 1, _ => exact ⟨_, _, _, rfl, rfl⟩
                  | 2, _ => exact ⟨_, _, _, rfl, rfl⟩
                obtain ⟨f0', f1', f2', e1, e2⟩ := hI
                have HE1 := Lib.hid e1; have HE2 := Lib.hid e2
                have HNUM := Lib.hid hnum
                clear e1 e2 hx2 hno hnum
                go_wp2_with (go_at_call 26; refine (HBE.out _).mono ?_; rintro e w2 ⟨rfl, rfl⟩)
                refine HNUM.out.mono ?_
                rintro e w3 ⟨rfl, rfl⟩
                clear HNUM
                go_wp2_with fail
                go_roundw
                case rel => exact ⟨i + 1, g', f0', f1', f2', by omega, by go_num, HO.out.farB (by omega) _, Lib.hid (by rw [← HE2.out]; exact HF.out.set i _), below_setB HB.out (by omega) _, Lib.hid (by rw [← HE1.out]; exact HX3.out)⟩
                case measure => simp [intOf]; omega
              | none =>
                rw [hno] at hx2
                unfold NumPost at hnum
                rw [hno] at hnum
                have HN := Lib.hid (show instrOf l = none by rw [HIN.out, ← hx2])
                have HNUM := Lib.hid hnum
                clear hx2 hno hnum
                go_wp2_with (go_at_call 26; refine (HBE.out _).mono ?_; rintro e w2 ⟨rfl, rfl⟩)
                refine HNUM.out.mono ?_
                rintro e w3 ⟨rfl, v, rfl⟩
                clear HNUM
                go_wp2_with fail
                refine bodyPost_ret (v := .tuple #[lineV [] [] 0 0 0 0, .bool false]) (by simp [results, Tryd.results32, go_sem, *]) rfl ⟨[], [], 0, 0, 0, 0, false, rfl, ?_, by simp [ParseSay, HN.out]⟩
                have hbb := HBW.out
                go_grown
        · have hx := HX2.out
          rw [fldRun_end (by rw [List.length_zip]; have := HNE.out; omega)] at hx
          have HPS := Lib.hid (show ParseSay (instrOf l) [] g' k f0 f1 f2 true from ParseSay.of HIN.out (FieldsSay.yes hx.symm))
          have c0 : wr.cell? ⟨w'.heap.size + 1, 0, none⟩ = some (.int .i64 f0) := HF.out.cell 0
          have c1 : wr.cell? ⟨w'.heap.size + 1, 1, none⟩ = some (.int .i64 f1) := HF.out.cell 1
          have c2 : wr.cell? ⟨w'.heap.size + 1, 2, none⟩ = some (.int .i64 f2) := HF.out.cell 2
          have o0 : wr.cell? ⟨w'.heap.size, 0, none⟩ = some (S []) := HO.out.cell 0
          have o1 : wr.cell? ⟨w'.heap.size, 1, none⟩ = some (S g') := HO.out.cell 1
          have o2 : wr.cell? ⟨w'.heap.size, 2, none⟩ = some (.int .i64 k) := HO.out.cell 2
          have o3 : wr.cell? ⟨w'.heap.size, 3, none⟩ = some (.int .i64 0) := HO.out.cell 3
          have o4 : wr.cell? ⟨w'.heap.size, 4, none⟩ = some (.int .i64 0) := HO.out.cell 4
          have o5 : wr.cell? ⟨w'.heap.size, 5, none⟩ = some (.int .i64 0) := HO.out.cell 5
          have of : ∀ j, wr.frozen? ⟨w'.heap.size, j, none⟩ = false := fun j => HO.out.frozen j
          have HRB := Lib.hid (HR2.out.belowH HB.out)
          have q0 : wr.cell? ⟨w.heap.size, 0, none⟩ = some (S []) := HRB.out.cell 0
          have q1 : wr.cell? ⟨w.heap.size, 1, none⟩ = some (S []) := HRB.out.cell 1
          have q2 : wr.cell? ⟨w.heap.size, 2, none⟩ = some (.int .i64 0) := HRB.out.cell 2
          have q3 : wr.cell? ⟨w.heap.size, 3, none⟩ = some (.int .i64 0) := HRB.out.cell 3
          have q4 : wr.cell? ⟨w.heap.size, 4, none⟩ = some (.int .i64 0) := HRB.out.cell 4
          have q5 : wr.cell? ⟨w.heap.size, 5, none⟩ = some (.int .i64 0) := HRB.out.cell 5
          have qf : ∀ j, wr.frozen? ⟨w.heap.size, j, none⟩ = false := fun j => HRB.out.frozen j
          have hszw : w.heap.size < w'.heap.size := HR2.out.lt
          have HBW := Lib.hid (below_next HB2.out HB.out)
          clear hx r0 r1 r2 r3 r4 r5 rf
          go_wp2_with fail
          refine bodyPost_ret (v := .tuple #[lineV [] g' k f0 f1 f2, .bool true]) (by simp [results, Tryd.results32, go_sem, *]) rfl ⟨[], g', k, f0, f1, f2, true, rfl, ?_, HPS.out⟩
          have hbb := HBW.out
          go_grown
  · have hb : (((shapeOf k).length : Int) != (rest.length : Int)) = true := by rw [bne_iff_ne]; omega
    have HNF := Lib.hid (show fieldsOf k rest = none by simp [fieldsOf, hne])
    have HN := Lib.hid (show instrOf l = none by rw [HIN.out, HNF.out])
    clear hne
    go_wp2_with (go_at_call 26; refine (HBE.out _).mono ?_; rintro e w' ⟨rfl, rfl⟩)
    refine bodyPost_ret (v := .tuple #[lineV [] [] 0 0 0 0, .bool false]) (by simp [results, Tryd.results32, go_sem, *]) rfl ⟨[], [], 0, 0, 0, 0, false, rfl, ?_, by simp [ParseSay, HN.out]⟩
    have hbb := HB2.out
    go_grown
end Go.Proofs.YtiegkhoidabkhaaDoor
