/- The law LabelReads. -/
import Derived.Test.YtiegkhoidabkhaaDoorA44
import Derived.BigQuiet
namespace Go.Proofs.YtiegkhoidabkhaaDoor
open Go.Shelf Go.RowKit Go.Maps
attribute [local go_sem] Oper.semAt_some

set_option maxRecDepth 100000 in
set_option maxHeartbeats 2000000 in
theorem reads_law (text : List UInt8) (hl : text.length ≤ 9223372036854775807) (stop : Int) (hs0 : -9223372036854775808 ≤ stop) (hs1 : stop ≤ 9223372036854775807) (w : World) (hg : Gl w) :
    Calls Tryd.prog 9 #[S text, .int .i64 stop] w fun e w' => e = .returned (.bool true) ∧ Below w.heap.size w w' := by
  have hB0 : Below w.heap.size w ((w.alloc (.cells #[.int .i64 stop] 3)).alloc (.cells #[.bool false] 4)) := (((Below.refl _ _).alloc (Nat.le_refl _) _).alloc (by simp) _)
  have ha := alive_any ((w.alloc (.cells #[.int .i64 stop] 3)).alloc (.cells #[.bool false] 4)) (hg.belowH hB0)
  have HG := Lib.hid hg
  clear hg
  refine (callsIn_wide (n := 10)).1 ?_
  refine callsIn_of_wp_marks Tryd.func9 rfl trivial ?_ rfl
  simp only [Tryd.ntmps9, List.size_toArray, List.length_cons, List.length_nil, Nat.reduceAdd, Nat.reduceSub, Array.replicate_succ, Array.replicate_zero, List.push_toArray, List.append_toArray, List.nil_append, List.cons_append]
  refine wpIn_wide.2 ?_
  go_wp2_with fail
  refine ha.mono ?_
  rintro e w1 ⟨rfl, hb1⟩
  have HB1 := Lib.hid (below_then hB0 (by simp; omega) hb1)
  have HST := Lib.hid (show Ob w1 w.heap.size (.cells #[.int .i64 stop] 3) from ((Ob.new w _).alloc _).belowH hb1)
  have HRS := Lib.hid (show Ob w1 (w.heap.size + 1) (.cells #[.bool false] 4) from (Ob.new' _ (by simp)).belowH hb1)
  clear ha hb1 hB0
  go_wp2_with fail
  refine (reads_u text hl w1 (HG.out.belowH HB1.out)).mono ?_
  rintro e w2 ⟨A, c, rfl, hrd, hb2⟩
  have HB2 := Lib.hid (below_next HB1.out hb2)
  have HST2 := Lib.hid (HST.out.belowH hb2); have HRS2 := Lib.hid (HRS.out.belowH hb2); have HRD := Lib.hid hrd
  clear hb2 hrd HST HRS HB1
  go_wp2_with fail
  refine (ref_u text hl w2).mono ?_
  rintro e w3 ⟨A', c', mv, rfl, hrd', hom, hb3⟩
  have hsz2 := HB2.out.size
  obtain ⟨Am, cm, rfl, _⟩ := rd_own_marks hom
  have HB3 := Lib.hid (below_next HB2.out hb3)
  have HST3 := Lib.hid (HST2.out.belowH hb3); have HRS3 := Lib.hid (HRS2.out.belowH hb3)
  have HRD3 := Lib.hid (HRD.out.belowH hb3); have HRD3' := Lib.hid hrd'
  have HOM := Lib.hid (own_mono hom hsz2)
  clear hb3 hrd' hom HST2 HRS2 HRD HB2 hsz2
  generalize hP : progOf text = P at *
  have hpl : P.length ≤ 48 := by rw [← hP]; exact progOf_len text
  clear hP
  generalize lineNo text = ln at *
  generalize errOf text = er at *
  obtain ⟨M, hM⟩ : ∃ M, M = marksOf text := ⟨_, rfl⟩
  rw [← hM] at HOM ⊢
  have HM := Lib.hid hM
  clear hM
  go_wp2_with fail
  refine (same_any A A' P c c' _ (HRD3.out.belowH ((Below.refl _ _).alloc (Nat.le_refl _) _)) (HRD3'.out.belowH ((Below.refl _ _).alloc (Nat.le_refl _) _)) (by omega)).mono ?_
  rintro e w4 ⟨rfl, hb4⟩
  have hMK4 := (Ob.new w3 (.cells #[.slice Am M.length cm] 33)).belowH hb4
  have hOM4 := own_below (HOM.out.alloc (.cells #[.slice Am M.length cm] 33)) hb4
  have hST4 := (HST3.out.alloc (.cells #[.slice Am M.length cm] 33)).belowH hb4
  have hRS4 := (HRS3.out.alloc (.cells #[.slice Am M.length cm] 33)).belowH hb4
  have hB4 := below_next (HB3.out.alloc HB3.out.size (.cells #[.slice Am M.length cm] 33)) hb4
  have hs34 := hb4.size
  have hr3 := HRS3.out.lt
  rw [World.size_alloc] at hs34
  have hF := LrF.mk (w := w) (b9 := w3.heap.size) (b12 := w4.heap.size) (stop := stop) (Am := Am) (cm := cm) (M := M) (kk := 0) (W := (w4.alloc (.cells #[.int .i64 0] 3))) (hST4.alloc _) (hRS4.alloc _) (hMK4.alloc _) (Ob.new _ _) (hOM4.alloc _) (hB4.alloc hB4.size _) ⟨by omega, by omega⟩
  have HF := Lib.hid hF
  clear hb4 hMK4 hOM4 hST4 hRS4 hB4 hF HST3 HRS3 HRD3 HRD3' HOM HB3
  go_wp2_with (go_at_call 19; refine (marks_any _ _).mono ?_; rintro e w' ⟨rfl, rfl⟩)
  refine forget (fun W => LrF w w3.heap.size w4.heap.size stop Am cm M 0 W ∧ Ob W (w4.heap.size + 1) (.cells #[S text] 9) ∧ W.heap.size = w4.heap.size + 2) ⟨HF.out.kept (World.grownBy_alloc _ _ none) (fun r e => by cases e), Ob.new' _ (by simp), by simp⟩ ?_
  rintro W0 ⟨hF, hbox, hsz⟩
  have HF := Lib.hid hF
  refine (wpIn_wide (n := 10)).1 ?_
  refine wpIn_rangeFunc_ownG rfl (by omega) (gf := 35) (lb := #[.pointer (some ⟨w4.heap.size + 1, 0, none⟩)]) rfl trivial (enters_of Tryd.func35 (by kernel_rfl) rfl)
    (marks_stops (10 - 1) (by omega) (w4.heap.size + 1) text hl W0 (HG.out.belowH hF.be) hbox) keepU_t (fun W l o o' _ hl ho _ => keepU_b W l o o' hl ho) (Below.refl _ _) (fun _ => rfl)
    (LrI w w3.heap.size w4.heap.size stop Am cm M) (LrX w w3.heap.size w4.heap.size stop Am cm M) (hsz ▸ lrI_own) (fun c => hsz ▸ lrX_own c) ⟨List.nil_prefix, hF⟩
    (fun x => { tmps := #[S text, .int .i64 stop, undef, .pointer (some ⟨w.heap.size, 0, none⟩), .pointer (some ⟨w.heap.size + 1, 0, none⟩), .slice A P.length c, .int .i64 ln, .int .i64 er, .slice A' P.length c', .pointer (some ⟨w3.heap.size, 0, none⟩), .int .i64 ln, .int .i64 er, .pointer (some ⟨w4.heap.size, 0, none⟩), S x.1, .int .i64 x.2, .bool true, .bool false, .tuple #[.slice A P.length c, .int .i64 ln, .int .i64 er], S text, .tuple #[.slice A P.length c, .int .i64 ln, .int .i64 er], .slice A P.length c, .int .i64 ln, .int .i64 er, .tuple #[.slice A' P.length c', .slice Am M.length cm, .int .i64 ln, .int .i64 er], S text, .tuple #[.slice A' P.length c', .slice Am M.length cm, .int .i64 ln, .int .i64 er], .slice A' P.length c', .slice Am M.length cm, .int .i64 ln, .int .i64 er, .int .i64 er, .int .i64 er, .bool false, .bool false, .int .i64 ln, .int .i64 ln, .bool false, .bool false, .bool false, .slice A P.length c, .slice A' P.length c', .bool true, .bool false, .bool false, S text, .func (.func 35) #[] #[.pointer (some ⟨w4.heap.size + 1, 0, none⟩)], S x.1, .int .i64 x.2, undef, undef, undef, undef, undef, undef, undef, undef, undef, undef, undef, undef, undef, undef, undef, undef, undef, undef, undef, undef, undef, undef, undef, undef, undef, undef, undef, undef, undef, undef, undef, undef, undef, undef, undef, undef], defers := [] }) ?assign ?body ?done ?stop
  case assign =>
    intro l x W K hK
    gi_wp2
    exact hK
  case body =>
    rintro l pre x W ⟨hpre, hF⟩ hlt
    have hpl2 := hpre.length_le
    have cK : W.cell? ⟨w4.heap.size, 0, none⟩ = some (.int .i64 (pre.length : Int)) := hF.kc.cell 0
    have c9 : W.cell? ⟨w3.heap.size, 0, none⟩ = some (.slice Am M.length cm) := hF.mr.cell 0
    have cS : W.cell? ⟨w.heap.size, 0, none⟩ = some (.int .i64 stop) := hF.st.cell 0
    have cR : W.cell? ⟨w.heap.size + 1, 0, none⟩ = some (.bool false) := hF.rs.cell 0
    have fK : W.frozen? ⟨w4.heap.size, 0, none⟩ = false := hF.kc.frozen 0
    have fR : W.frozen? ⟨w.heap.size + 1, 0, none⟩ = false := hF.rs.frozen 0
    have HFW := Lib.hid hF; have HPRE := Lib.hid hpre
    clear hF hpre HF hbox
    by_cases hge : pre.length < M.length
    · obtain ⟨m, hm⟩ : ∃ m, M[pre.length]? = some m := ⟨_, List.getElem?_eq_getElem hge⟩
      obtain ⟨gm, cm', hv, _, _⟩ := HFW.out.om.form (show 0 < M.length by omega)
      injection hv with hv1 hv2 hv3
      subst hv1
      clear hv2 hv3
      have q0 : W.cell? ⟨gm, pre.length * 2 + 0, none⟩ = some (S m.1) := mark_cell HFW.out.om rfl hm 0 (by omega)
      have q1 : W.cell? ⟨gm, pre.length * 2 + 1, none⟩ = some (.int .i64 m.2) := mark_cell HFW.out.om rfl hm 1 (by omega)
      rw [Nat.add_zero] at q0
      have hbad : x ≠ m → ¬ pre ++ [x] <+: M := fun hne hp => by
        obtain ⟨r, rfl⟩ := hp
        rw [List.append_assoc, List.getElem?_append_right (Nat.le_refl _), Nat.sub_self] at hm
        exact hne (by simpa using hm)
      have HBAD := Lib.hid hbad; have HMM := Lib.hid hm
      clear hbad hm
      obtain ⟨x1, x2⟩ := x
      obtain ⟨m1, m2⟩ := m
      by_cases hn : x1 = m1
      · subst hn
        by_cases hv : x2 = m2
        · subst hv
          have HNX := Lib.hid (prefix_next HPRE.out HMM.out)
          have HC := Lib.hid (HFW.out.count ((pre.length : Int) + 1))
          have HKU := Lib.hid (keepU_set HFW.out.kc (by decide) (i := 0) (.int .i64 ((pre.length : Int) + 1)))
          have hpl3 : (((pre ++ [(x1, x2)]).length : Nat) : Int) = (pre.length : Int) + 1 := by simp
          have HPL3 := Lib.hid hpl3
          clear hpl3
          by_cases hst : (pre.length : Int) + 1 = stop
          · have hsb : ((pre.length : Int) + 1 == stop) = true := by simp [hst]
            have HSTP := Lib.hid hst
            clear hst
            gi_wp2
            exact ⟨(KeepsOthers.setCell _ _ _).from _, .inr ⟨rfl, by rw [HPL3.out]; exact HSTP.out, by rw [HPL3.out]; exact HC.out⟩⟩
          · have hsb : ((pre.length : Int) + 1 == stop) = false := by simp [hst]
            clear hst
            gi_wp2
            exact ⟨(KeepsOthers.setCell _ _ _).from _, HKU.out, HNX.out, by rw [HPL3.out]; exact HC.out⟩
        · have hvb : (x2 == m2) = false := by simp [hv]
          have hvb2 : (x2 != m2) = true := by simp [hv]
          have HB := Lib.hid (HBAD.out fun e => hv (by injection e))
          clear hv
          gi_wp2
          exact ⟨(KeepsOthers.setCell _ _ _).from _, .inl HB.out⟩
      · have hnb : (x1 == m1) = false := by simp [hn]
        have hnb2 : (x1 != m1) = true := by simp [hn]
        have HB := Lib.hid (HBAD.out fun e => hn (by injection e))
        clear hn
        gi_wp2
        exact ⟨(KeepsOthers.setCell _ _ _).from _, .inl HB.out⟩
    · have hge' : ¬ (pre.length : Int) < M.length := by omega
      gi_wp2
      exact ⟨(KeepsOthers.setCell _ _ _).from _, .inl fun hp => by have := hp.length_le; simp at this; omega⟩
  case stop =>
    rintro D c pre W hD hpre hX hK
    rcases hX with hX | ⟨rfl, hst, hF⟩
    · exact absurd (HM.out ▸ hpre) hX
    · have hsb : ((pre.length : Int) == stop) = true := by simp [hst]
      have cK : W.cell? ⟨w4.heap.size, 0, none⟩ = some (.int .i64 (pre.length : Int)) := hF.kc.cell 0
      have cS : W.cell? ⟨w.heap.size, 0, none⟩ = some (.int .i64 stop) := hF.st.cell 0
      have cR : W.cell? ⟨w.heap.size + 1, 0, none⟩ = some (.bool false) := hF.rs.cell 0
      have fR : W.frozen? ⟨w.heap.size + 1, 0, none⟩ = false := hF.rs.frozen 0
      have HFW := Lib.hid hF; have HK := Lib.hid (show Ob W D _ from hK)
      clear hF HF hbox hK hst
      gi_wp2
      go_wp2
      refine ⟨by simp, .inl ⟨_, _, rfl, run_takeDeferred (HK.out.farB (b := w.heap.size + 1) (i := 0) (by omega) (.bool true)), ?_⟩⟩
      have hR := (HFW.out.rs.set 0 (.bool true)).grown (grownBy_putObj' _ D (.deferred none)) (by intro e; injection e with e; omega)
      have hbe := (below_setB (i := 0) HFW.out.be (show w.heap.size ≤ w.heap.size + 1 by omega) (.bool true)).grown (grownBy_putObj' _ D (.deferred none)) (by have := HFW.out.be.size; simpa using this) (by intro r e; injection e with e; omega)
      have c4 := hR.cell 0
      refine ⟨.bool true, ?_, rfl, hbe⟩
      simp [results, Tryd.results9, go_sem, c4]
  case done =>
    rename_i K hKK
    rintro D ys W hD hys ⟨hpre, hF⟩ hK
    have hkl : (ys.length : Int) = M.length := by rw [hys, HM.out]
    have cK : W.cell? ⟨w4.heap.size, 0, none⟩ = some (.int .i64 (ys.length : Int)) := hF.kc.cell 0
    rw [hkl] at cK
    have c9 : W.cell? ⟨w3.heap.size, 0, none⟩ = some (.slice Am M.length cm) := hF.mr.cell 0
    have cS : W.cell? ⟨w.heap.size, 0, none⟩ = some (.int .i64 stop) := hF.st.cell 0
    have cR : W.cell? ⟨w.heap.size + 1, 0, none⟩ = some (.bool false) := hF.rs.cell 0
    have fR : W.frozen? ⟨w.heap.size + 1, 0, none⟩ = false := hF.rs.frozen 0
    have HFW := Lib.hid hF; have HK := Lib.hid (show Ob W D _ from hK)
    clear hF HF hbox hK hys hkl hpre
    refine hKK _ _ ?_
    by_cases hst : (M.length : Int) = stop
    · have hsb : ((M.length : Int) == stop) = true := by simp [hst]
      clear hst
      go_wp2
      refine ⟨by simp, .inl ⟨_, _, rfl, run_takeDeferred (HK.out.farB (b := w.heap.size + 1) (i := 0) (by omega) (.bool true)), ?_⟩⟩
      have hR := (HFW.out.rs.set 0 (.bool true)).grown (grownBy_putObj' _ D (.deferred none)) (by intro e; injection e with e; omega)
      have hbe := (below_setB (i := 0) HFW.out.be (show w.heap.size ≤ w.heap.size + 1 by omega) (.bool true)).grown (grownBy_putObj' _ D (.deferred none)) (by have := HFW.out.be.size; simpa using this) (by intro r e; injection e with e; omega)
      have c4 := hR.cell 0
      refine ⟨.bool true, ?_, rfl, hbe⟩
      simp [results, Tryd.results9, go_sem, c4]
    · have hsb : ((M.length : Int) == stop) = false := by simp [hst]
      clear hst
      go_wp2
      refine ⟨by simp, .inl ⟨_, _, rfl, run_takeDeferred (HK.out.farB (b := w.heap.size + 1) (i := 0) (by omega) (.bool true)), ?_⟩⟩
      have hR := (HFW.out.rs.set 0 (.bool true)).grown (grownBy_putObj' _ D (.deferred none)) (by intro e; injection e with e; omega)
      have hbe := (below_setB (i := 0) HFW.out.be (show w.heap.size ≤ w.heap.size + 1 by omega) (.bool true)).grown (grownBy_putObj' _ D (.deferred none)) (by have := HFW.out.be.size; simpa using this) (by intro r e; injection e with e; omega)
      have c4 := hR.cell 0
      refine ⟨.bool true, ?_, rfl, hbe⟩
      simp [results, Tryd.results9, go_sem, c4]
end Go.Proofs.YtiegkhoidabkhaaDoor
