/- (*label.sheet).take at an instruction with a goal. -/
import Derived.Test.YtiegkhoidabkhaaDoorA15a
import Derived.StillTailTactics
import Derived.BigRegion
import Derived.Deep.RegionLaw
import Derived.Deep.DeepCutAuto
import Derived.Deep.CutBlock
namespace Go.Proofs.YtiegkhoidabkhaaDoor
open Go.Shelf Go.RowKit Go.Maps

set_option maxRecDepth 100000 in
set_option maxHeartbeats 2000000 in
theorem take_goal (B b m : Nat) (s : Sheet) (n : Int) (l : List UInt8) (hl : l.length ≤ 60000) (y : Say) (hp : parseOf l = some y) (hm : y.mark = []) (hgo : y.goal ≠ []) (hgl : s.goals.length ≤ 60000) (h48 : s.prog.length < 48) (w : World) (hg : Gl w) (pv mv gv : Value) (hs : SheetAt B b m s pv mv gv w) :
    Calls Tryd.prog 43 #[.pointer (some ⟨b, 0, none⟩), .int .i64 n, S l] w (TakePost B b m s n l w) := by
  obtain ⟨Ap, cp, rfl⟩ := own_slice hs.op
  obtain ⟨Ag, cg, rfl⟩ := own_slice hs.og
  have hpar := parse_any l hl w hg
  rw [hp] at hpar
  have h48n : ¬ 48 ≤ s.prog.length := by omega
  have HP := Lib.hid (show takeS s n l = some { s with prog := s.prog ++ [insOf y], goals := s.goals ++ [⟨y.goal, n, s.prog.length⟩] } by simp [takeS, hp, hm, takeIns, h48n, hgo])
  have HS := Lib.hid hs
  have HBB := Lib.hid hs.hb
  have HM := Lib.hid hm
  have HGO := Lib.hid hgo
  have HL := Lib.hid h48
  clear hg hs hp hm hgo
  go_enter Tryd.func43, Tryd.ntmps43
  go_wp2_with fail
  refine hpar.mono ?_
  rintro e w1 ⟨r', g, op, a, b', c, ok, rfl, hb1, rfl, hr, hgg, hop, hf⟩
  rw [HM.out] at hr
  subst hr
  subst hgg
  have hgn : (y.goal == []) = false := by
    cases h : y.goal with
    | nil => exact absurd h HGO.out
    | cons => rfl
  have hx : insOf y = ⟨op, a, b', c⟩ := by simp [insOf, hop, hf]
  have HX := Lib.hid hx
  have s0 : ∀ o, (w1.alloc o).cell? ⟨b, 0, none⟩ = some (.slice Ap s.prog.length cp) := fun o => ((HS.out.ob.belowH hb1).alloc o).cell 0
  have HB1 := Lib.hid hb1
  have h48' : (s.prog.length : Int) < 48 := by omega
  clear hb1 hpar hop hf h48 h48n hx
  go_upto_block 0 with fail
  refine forget (fun wo => SheetAt B b m s (.slice Ap s.prog.length cp) mv (.slice Ag s.goals.length cg) wo ∧ Ob wo w1.heap.size (.cells (lineCells [] y.goal op a b' c) 112) ∧ Below w.heap.size w wo)
    ⟨(HS.out.belowH HB1.out).belowH ((Below.refl _ _).alloc (Nat.le_refl _) _), Ob.new _ _, HB1.out.alloc HB1.out.size _⟩ ?_
  clear s0
  rintro w4 ⟨hS, hL, hB⟩
  have hbw : B ≤ w4.heap.size := by have := HBB.out; have := hS.ob.lt; omega
  have lb := hS.ob.lt
  have s0 : w4.cell? ⟨b, 0, none⟩ = some (.slice Ap s.prog.length cp) := hS.ob.cell 0
  have s3 : w4.cell? ⟨b, 3, none⟩ = some (.slice Ag s.goals.length cg) := hS.ob.cell 3
  have sf : w4.frozen? ⟨b, 3, none⟩ = false := hS.ob.frozen 3
  have l0 : w4.cell? ⟨w1.heap.size, 0, none⟩ = some (S []) := hL.cell 0
  have l1 : w4.cell? ⟨w1.heap.size, 1, none⟩ = some (S y.goal) := hL.cell 1
  have ab : (Value.slice Ag s.goals.length cg).ownBlock ≠ some b := own_ne hS.og hS.ob (by intro _ _ e; cases e)
  have q3 : ∀ o, (w4.alloc o).cell? ⟨b, 3, none⟩ = some (.slice Ag s.goals.length cg) := fun o => (hS.ob.alloc o).cell 3
  have qf : ∀ o, (w4.alloc o).frozen? ⟨b, 3, none⟩ = false := fun o => (hS.ob.alloc o).frozen 3
  obtain ⟨i0, hi0, hz0, hz1, hz2⟩ := info_parts info86
  have HS4 := Lib.hid hS; have HB4 := Lib.hid hB; have HL4 := Lib.hid hL
  clear hS hL hB
  go_cut [] (fun wc => ∃ gv', SheetAt B b m { s with goals := s.goals ++ [⟨y.goal, n, s.prog.length⟩] } (.slice Ap s.prog.length cp) mv gv' wc ∧ Ob wc w1.heap.size (.cells (lineCells [] y.goal op a b' c) 112) ∧ Spares b m w wc ∧ Below B w wc)
  case first =>
    go_wp2_with fail
    go_region_law ((refine step_append_lies _ (by rfl) _ _ _ (by rfl) B 86 i0 _ 3 32 Tryd.underlying74 hi0 hz0 hz1 hz2 rfl (by omega) (.slice Ag s.goals.length cg) s.goals.length (s.goals.flatMap Place.cells) (by rfl) ((HS4.out.og.alloc _).drew) ⟨w4.heap.size, 0, none⟩ 1 1 [S y.goal, .int .i64 n, .int .i64 s.prog.length] (by rfl) (by rfl) (World.news_of_block (cs := #[S y.goal, .int .i64 n, .int .i64 s.prog.length]) (t := 86) (fr := (0, 0)) (heap_alloc_new w4 _)) (by simp [Value.oneCell']) (by omega) (by unfold maxLen; omega) (by omega) (by simp; omega) (w4.heap.size + 1) (by simp) ?_; intro gg cap w5 hown5 hgrow hat hlt5; have c5 : w5.frozen? ⟨b, 3, none⟩ = false := (hgrow.frozen_far ⟨b, 3, none⟩ (by show b < (w4.alloc _).heap.size; rw [World.size_alloc]; omega) (Ne.symm ab)).trans (qf _); have d5 : w5.cell? ⟨b, 3, none⟩ = some (.slice Ag s.goals.length cg) := (hgrow.cell_far ⟨b, 3, none⟩ (by show b < (w4.alloc _).heap.size; rw [World.size_alloc]; omega) (Ne.symm ab)).trans (q3 _)))
    all_goals
      go_wp2_with fail
      go_meet
      case rel =>
        obtain ⟨k1, k2⟩ := step_spares (i := 3) (u := .slice (some ⟨gg, 0, none⟩) (s.goals.length + 1) cap) (.inr rfl) HBB.out lb HS4.out.og ((Spares.refl b m w).below HB4.out) (HB4.out.mono (Nat.le_trans HBB.out (Nat.le_of_lt HS.out.ob.lt))) hgrow
        have hL5 : Ob w5 w1.heap.size (.cells (lineCells [] y.goal op a b' c) 112) := (HL4.out.alloc _).drew.grown hgrow (Ne.symm (own_ne HS4.out.og HL4.out (by intro _ _ e; cases e)))
        exact ⟨_, sheet_goal (p := ⟨y.goal, n, s.prog.length⟩) HS4.out hown5 hgrow hat, hL5.farB (by intro e; have := (HS4.out.ob).eq (e ▸ HL4.out); cases this) _, k1, k2⟩
  case rest =>
    clear s0 s3 sf l0 l1 ab q3 qf hbw lb HS4 HB4 HL4
    obtain ⟨gv', hSc, hLc, hspc, hBc⟩ := hcut
    have hbw : B ≤ wc.heap.size := by have := HBB.out; have := hSc.ob.lt; omega
    have lb := hSc.ob.lt
    have s0 : wc.cell? ⟨b, 0, none⟩ = some (.slice Ap s.prog.length cp) := hSc.ob.cell 0
    have sf : wc.frozen? ⟨b, 0, none⟩ = false := hSc.ob.frozen 0
    have l2 : wc.cell? ⟨w1.heap.size, 2, none⟩ = some (.int .i64 op) := hLc.cell 2
    have l3 : wc.cell? ⟨w1.heap.size, 3, none⟩ = some (.int .i64 a) := hLc.cell 3
    have l4 : wc.cell? ⟨w1.heap.size, 4, none⟩ = some (.int .i64 b') := hLc.cell 4
    have l5 : wc.cell? ⟨w1.heap.size, 5, none⟩ = some (.int .i64 c) := hLc.cell 5
    have ab : (Value.slice Ap s.prog.length cp).ownBlock ≠ some b := own_ne hSc.op hSc.ob (by intro _ _ e; cases e)
    have q0 : ∀ o, (wc.alloc o).cell? ⟨b, 0, none⟩ = some (.slice Ap s.prog.length cp) := fun o => (hSc.ob.alloc o).cell 0
    have qf : ∀ o, (wc.alloc o).frozen? ⟨b, 0, none⟩ = false := fun o => (hSc.ob.alloc o).frozen 0
    obtain ⟨i1, hi1, hy0, hy1, hy2⟩ := info_parts info57
    have HSc := Lib.hid hSc; have HBc := Lib.hid hBc; have HSPc := Lib.hid hspc
    clear hSc hLc hspc hBc
    go_wp2_with fail
    go_region_law ((refine step_append_lies _ (by rfl) _ _ _ (by rfl) B 57 i1 _ 4 32 Tryd.underlying22 hi1 hy0 hy1 hy2 rfl (by omega) (.slice Ap s.prog.length cp) s.prog.length (s.prog.flatMap Ins.cells) (by rfl) ((HSc.out.op.alloc _).drew) ⟨wc.heap.size, 0, none⟩ 1 1 [.int .i64 op, .int .i64 a, .int .i64 b', .int .i64 c] (by rfl) (by rfl) (World.news_of_block (cs := #[.int .i64 op, .int .i64 a, .int .i64 b', .int .i64 c]) (t := 57) (fr := (0, 0)) (heap_alloc_new wc _)) (by simp [Value.oneCell']) (by omega) (by unfold maxLen; omega) (by omega) (by simp; omega) (wc.heap.size + 1) (by simp) ?_; intro gg cap w5 hown5 hgrow hat hlt5; have c5 : w5.frozen? ⟨b, 0, none⟩ = false := (hgrow.frozen_far ⟨b, 0, none⟩ (by show b < (wc.alloc _).heap.size; rw [World.size_alloc]; omega) (Ne.symm ab)).trans (qf _); have d5 : w5.cell? ⟨b, 0, none⟩ = some (.slice Ap s.prog.length cp) := (hgrow.cell_far ⟨b, 0, none⟩ (by show b < (wc.alloc _).heap.size; rw [World.size_alloc]; omega) (Ne.symm ab)).trans (q0 _)))
    all_goals
      go_wp2
      go_ret
      obtain ⟨k1, k2⟩ := step_spares (i := 0) (u := .slice (some ⟨gg, 0, none⟩) (s.prog.length + 1) cap) (.inl rfl) HBB.out lb HSc.out.op HSPc.out HBc.out hgrow
      refine ⟨k1, k2, ?_⟩
      rw [HP.out, HX.out]
      exact ⟨rfl, _, _, _, sheet_prog (s := { s with goals := s.goals ++ [⟨y.goal, n, s.prog.length⟩] }) (x := ⟨op, a, b', c⟩) HL.out HSc.out hown5 hgrow⟩
end Go.Proofs.YtiegkhoidabkhaaDoor
