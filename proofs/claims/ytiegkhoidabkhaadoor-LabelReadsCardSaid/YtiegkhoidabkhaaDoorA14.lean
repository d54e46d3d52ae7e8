/- (*label.sheet).take at a mark. -/
import Derived.Test.YtiegkhoidabkhaaDoorA14a
import Derived.StillTailTactics
import Derived.BigRegion
import Derived.Deep.RegionLaw
namespace Go.Proofs.YtiegkhoidabkhaaDoor
open Go.Shelf Go.RowKit Go.Maps

theorem name_len {r : List UInt8} (h : nameB r = true) : r.length ≤ 8 := by
  by_cases h8 : 8 < r.length
  · rw [nameB_long h8] at h; cases h
  · omega
theorem name_ne {r : List UInt8} (h : nameB r = true) : r ≠ [] := by
  rintro rfl
  cases h
set_option maxRecDepth 100000 in
set_option maxHeartbeats 2000000 in
theorem take_mark (B b m : Nat) (s : Sheet) (n : Int) (l : List UInt8) (hl : l.length ≤ 60000) (r : List UInt8) (hp : parseOf l = some ⟨r, [], 0, [0, 0, 0]⟩) (hr : nameB r = true) (hln : s.marks.length ≤ 60000) (w : World) (hg : Gl w) (pv mv gv : Value) (hs : SheetAt B b m s pv mv gv w) :
    Calls Tryd.prog 43 #[.pointer (some ⟨b, 0, none⟩), .int .i64 n, S l] w (TakePost B b m s n l w) := by
  obtain ⟨Ap, cp, rfl⟩ := own_slice hs.op
  obtain ⟨Am, cm, rfl⟩ := own_slice hs.om
  obtain ⟨Ag, cg, rfl⟩ := own_slice hs.og
  have hpar := parse_any l hl w hg
  rw [hp] at hpar
  have HPAR := Lib.hid hp
  have hrl0 := name_len hr
  have HRL := Lib.hid hrl0
  have HS := Lib.hid hs
  have HSB := Lib.hid hs.ob.lt
  have HBB := Lib.hid hs.hb
  have HR := Lib.hid hr
  have hrn : (r == []) = false := by
    cases r with
    | nil => cases hr
    | cons => rfl
  have HRN := Lib.hid (name_ne hr)
  clear hg hs hr hp hrl0
  go_enter Tryd.func43, Tryd.ntmps43
  go_wp2_with fail
  refine hpar.mono ?_
  rintro e w1 ⟨r', g, op, a, b', c, ok, rfl, hb1, rfl, rfl, rfl, rfl, hf⟩
  have HB1 := Lib.hid hb1
  have HF := Lib.hid hf
  clear hb1 hf hpar
  go_wp2_with fail
  refine forget (fun wo => SheetAt B b m s (.slice Ap s.prog.length cp) (.slice Am s.marks.length cm) (.slice Ag s.goals.length cg) wo ∧ Ob wo w1.heap.size (.cells (lineCells r' [] 0 a b' c) 112) ∧ Below w.heap.size w wo)
    ⟨(HS.out.belowH HB1.out).belowH ((Below.refl _ _).alloc (Nat.le_refl _) _), Ob.new _ _, HB1.out.alloc HB1.out.size _⟩ ?_
  rintro wo ⟨hS, hL, hB⟩
  have s0 : wo.cell? ⟨b, 0, none⟩ = some (.slice Ap s.prog.length cp) := hS.ob.cell 0
  have s1 : wo.cell? ⟨b, 1, none⟩ = some (.slice Am s.marks.length cm) := hS.ob.cell 1
  have s2 : wo.cell? ⟨b, 2, none⟩ = some (.map (some m)) := hS.ob.cell 2
  have l0 : wo.cell? ⟨w1.heap.size, 0, none⟩ = some (S r') := hL.cell 0
  have hrl : r'.length ≤ 9223372036854775807 := by have := HRL.out; omega
  have hlk : ∀ nq, (Instr.lookup 75 (.map (some m)) (S r') true).run Tryd.prog (wo.drewN nq) = .ok (.tuple #[.int .i64 (lookN s.marks r'), .bool (hasMark s.marks r')]) (wo.drewN nq) := fun nq => look_names hS.ap hrl (w := wo.drewN nq) hS.nm
  have HSO := Lib.hid hS; have HL := Lib.hid hL; have HB := Lib.hid hB
  clear hS hL hB
  by_cases hh : hasMark s.marks r' = true
  · rw [hh] at hlk
    have HH := Lib.hid hh
    clear hh
    go_quiet (fail)
    go_wp2
    go_ret
    refine ⟨((Spares.refl b m w).below HB.out).drewN nq, below_drewN (HB.out.mono (Nat.le_trans HBB.out (Nat.le_of_lt HSB.out))) nq, ?_⟩
    rw [show takeS s n l = none by simp [takeS, HPAR.out, HRN.out, takeMark, HH.out]]
    rfl
  · have hh' : hasMark s.marks r' = false := by simpa using hh
    rw [hh'] at hlk
    have HH := Lib.hid hh'
    clear hh hh'
    go_quiet (fail)
    go_wp2
    clear hlk
    refine forget (fun wo => SheetAt B b m s (.slice Ap s.prog.length cp) (.slice Am s.marks.length cm) (.slice Ag s.goals.length cg) wo ∧ Ob wo w1.heap.size (.cells (lineCells r' [] 0 a b' c) 112) ∧ Below w.heap.size w wo)
      ⟨HSO.out.drewN nq, HL.out, below_drewN HB.out nq⟩ ?_
    clear s0 s1 s2 l0 HSO HL HB
    rintro w2 ⟨hS, hL, hB⟩
    have s0 : w2.cell? ⟨b, 0, none⟩ = some (.slice Ap s.prog.length cp) := hS.ob.cell 0
    have s1 : w2.cell? ⟨b, 1, none⟩ = some (.slice Am s.marks.length cm) := hS.ob.cell 1
    have s2 : w2.cell? ⟨b, 2, none⟩ = some (.map (some m)) := hS.ob.cell 2
    have l0 : w2.cell? ⟨w1.heap.size, 0, none⟩ = some (S r') := hL.cell 0
    have HSO := Lib.hid hS; have HL := Lib.hid hL; have HB := Lib.hid hB
    clear hS hL hB
    go_still_tail 11, (by kernel_rfl)
    change wpList _ _ _ _ _ w2.drew
    have hlp := HSO.out.lp
    refine wpList_mapUpdate_own _ rfl _ _ _ 75 rfl 9 3 law9 Tryd.underlying75 _ m s.marks.length _ rfl (HSO.out.drew.nm) (by unfold maxLen; omega) _ _ _ rfl rfl (key_mk r' hrl) _ [] (plainElem_int (H := Unit) Tryd.underlying3 (WalkArith.wf_i64 (by omega))) ?_
    intro w3 hnm3 hgrow3
    go_wp2_with fail
    have hS := HSO.out
    have hLm : w1.heap.size ≠ m := ob_map_ne HL.out hS.nm
    refine forget (fun wo => Ob wo b (.cells #[.slice Ap s.prog.length cp, .slice Am s.marks.length cm, .map (some m), .slice Ag s.goals.length cg] 77) ∧ OwnI wo B (.slice Ap s.prog.length cp) s.prog ∧ OwnP wo B (.slice Am s.marks.length cm) s.marks ∧ OwnP wo B (.slice Ag s.goals.length cg) s.goals ∧
        wo.ownsMap Tryd.prog 9 (plainElem Tryd.prog 3) m (s.marks.length + 1) ((namesD s.marks).put (.string r') (.lit (.int .i64 s.prog.length))) ∧ Ob wo w1.heap.size (.cells (lineCells r' [] 0 a b' c) 112) ∧ Spares b m w wo ∧ Below B w wo)
      ⟨(hS.drew.ob).grown hgrow3 (by simpa using hS.bm), hS.drew.op.kept hgrow3 (.inr (own_map_ne hS.op hS.nm)), hS.drew.om.kept hgrow3 (.inr (own_map_ne hS.om hS.nm)), hS.drew.og.kept hgrow3 (.inr (own_map_ne hS.og hS.nm)), hnm3, (HL.out.drew).grown hgrow3 (by simpa using hLm),
        (((Spares.refl b m w).below HB.out).drew).grown hgrow3 (fun g hg => .inl (by simpa using hg.symm)), ?_⟩ ?_
    · have hBw : Below B w w2.drew := (HB.out.mono (Nat.le_trans hS.hb (Nat.le_of_lt (HSB.out)))).drew
      exact hBw.grown hgrow3 (by have := hS.hb; have := hS.ob.lt; show B ≤ w2.heap.size; omega) (fun g hg => by have := hS.hm; simp at hg; omega)
    clear hS s0 s1 s2 l0 HSO HL HB hnm3 hgrow3 hlp
    rintro w4 ⟨hob, hop, hom, hog, hnm, hL, hsp, hB⟩
    have lb := hob.lt
    have ll := hL.lt
    have s0 : w4.cell? ⟨b, 0, none⟩ = some (.slice Ap s.prog.length cp) := hob.cell 0
    have s1 : w4.cell? ⟨b, 1, none⟩ = some (.slice Am s.marks.length cm) := hob.cell 1
    have sf : w4.frozen? ⟨b, 1, none⟩ = false := hob.frozen 1
    have l0 : w4.cell? ⟨w1.heap.size, 0, none⟩ = some (S r') := hL.cell 0
    have ab : (Value.slice Am s.marks.length cm).ownBlock ≠ some b := own_ne hom hob (by intro _ _ e; cases e)
    have al : (Value.slice Am s.marks.length cm).ownBlock ≠ some w1.heap.size := own_ne hom hL (by intro _ _ e; cases e)
    have hbw : B ≤ w4.heap.size := by have := HBB.out; omega
    obtain ⟨i0, hi0, hz0, hz1, hz2⟩ := info_parts info86
    have HOB := Lib.hid hob; have HOP := Lib.hid hop; have HOM := Lib.hid hom; have HOG := Lib.hid hog; have HNM := Lib.hid hnm; have HL := Lib.hid hL; have HSP := Lib.hid hsp; have HB4 := Lib.hid hB
    have q0 : ∀ o, (w4.alloc o).cell? ⟨b, 0, none⟩ = some (.slice Ap s.prog.length cp) := fun o => (hob.alloc o).cell 0
    have q1 : ∀ o, (w4.alloc o).cell? ⟨b, 1, none⟩ = some (.slice Am s.marks.length cm) := fun o => (hob.alloc o).cell 1
    have qf : ∀ o, (w4.alloc o).frozen? ⟨b, 1, none⟩ = false := fun o => (hob.alloc o).frozen 1
    have ql : ∀ o, (w4.alloc o).cell? ⟨w1.heap.size, 0, none⟩ = some (S r') := fun o => (hL.alloc o).cell 0
    clear hob hop hom hog hnm hL hsp hB
    go_wp2_with fail
    go_region_law ((refine step_append_lies _ (by rfl) _ _ _ (by rfl) B 86 i0 _ 3 32 Tryd.underlying74 hi0 hz0 hz1 hz2 rfl (by omega) (.slice Am s.marks.length cm) s.marks.length (s.marks.flatMap Place.cells) (by rfl) ((HOM.out.alloc _).drew) ⟨w4.heap.size, 0, none⟩ 1 1 [S r', .int .i64 n, .int .i64 s.prog.length] (by rfl) (by rfl) (World.news_of_block (cs := #[S r', .int .i64 n, .int .i64 s.prog.length]) (t := 86) (fr := (0, 0)) (heap_alloc_new w4 _)) (by simp [Value.oneCell']) (by omega) (by unfold maxLen; omega) (by omega) (by simp; omega) (w4.heap.size + 1) (by simp) ?_; intro gg cap w5 hown5 hgrow hat hlt5; have c5 : w5.frozen? ⟨b, 1, none⟩ = false := (hgrow.frozen_far ⟨b, 1, none⟩ (by show b < (w4.alloc _).heap.size; rw [World.size_alloc]; omega) (Ne.symm ab)).trans (qf _); have d5 : w5.cell? ⟨b, 1, none⟩ = some (.slice Am s.marks.length cm) := (hgrow.cell_far ⟨b, 1, none⟩ (by show b < (w4.alloc _).heap.size; rw [World.size_alloc]; omega) (Ne.symm ab)).trans (q1 _)))
    all_goals
      go_wp2
      go_ret
      exact mark_done HPAR.out HR.out HH.out HS.out HOB.out HOP.out HOM.out HOG.out HNM.out HSP.out HB4.out hown5 hgrow hat
end Go.Proofs.YtiegkhoidabkhaaDoor
