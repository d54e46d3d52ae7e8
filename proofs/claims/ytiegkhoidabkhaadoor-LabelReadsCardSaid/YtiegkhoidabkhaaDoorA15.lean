/- (*label.sheet).take at an instruction without a goal; at a line that says nothing. -/
import Derived.Test.YtiegkhoidabkhaaDoorA15a
import Derived.StillTailTactics
import Derived.BigRegion
import Derived.Deep.RegionLaw
import Derived.Deep.DeepCutAuto
namespace Go.Proofs.YtiegkhoidabkhaaDoor
open Go.Shelf Go.RowKit Go.Maps

set_option maxRecDepth 100000 in
set_option maxHeartbeats 2000000 in
theorem take_none (B b m : Nat) (s : Sheet) (n : Int) (l : List UInt8) (hl : l.length ≤ 60000) (hp : parseOf l = none) (w : World) (hg : Gl w) (pv mv gv : Value) (hs : SheetAt B b m s pv mv gv w) :
    Calls Tryd.prog 43 #[.pointer (some ⟨b, 0, none⟩), .int .i64 n, S l] w (TakePost B b m s n l w) := by
  have hpar := parse_any l hl w hg
  rw [hp] at hpar
  have HP := Lib.hid (show takeS s n l = none by simp [takeS, hp])
  have HS := Lib.hid (Nat.le_trans hs.hb (Nat.le_of_lt hs.ob.lt))
  clear hg hs hp
  go_enter Tryd.func43, Tryd.ntmps43
  go_wp2_with fail
  refine hpar.mono ?_
  rintro e w1 ⟨r', g, op, a, b', c, ok, rfl, hb1, hok⟩
  obtain rfl : ok = false := hok
  have HB1 := Lib.hid hb1
  clear hb1 hpar
  go_wp2_with fail
  go_ret
  refine ⟨((Spares.refl b m w).below HB1.out).alloc _, (HB1.out.alloc HB1.out.size _).mono HS.out, ?_⟩
  rw [HP.out]
  rfl

set_option maxRecDepth 100000 in
set_option maxHeartbeats 2000000 in
theorem take_full (B b m : Nat) (s : Sheet) (n : Int) (l : List UInt8) (hl : l.length ≤ 60000) (y : Say) (hp : parseOf l = some y) (hm : y.mark = []) (h48 : 48 ≤ s.prog.length) (w : World) (hg : Gl w) (pv mv gv : Value) (hs : SheetAt B b m s pv mv gv w) :
    Calls Tryd.prog 43 #[.pointer (some ⟨b, 0, none⟩), .int .i64 n, S l] w (TakePost B b m s n l w) := by
  obtain ⟨Ap, cp, rfl⟩ := own_slice hs.op
  have hpar := parse_any l hl w hg
  rw [hp] at hpar
  have HP := Lib.hid (show takeS s n l = none by simp [takeS, hp, hm, takeIns, h48])
  have HS := Lib.hid hs
  have HSB := Lib.hid (Nat.le_trans hs.hb (Nat.le_of_lt hs.ob.lt))
  have HM := Lib.hid hm
  clear hg hs hp hm
  go_enter Tryd.func43, Tryd.ntmps43
  go_wp2_with fail
  refine hpar.mono ?_
  rintro e w1 ⟨r', g, op, a, b', c, ok, rfl, hb1, rfl, hr, hgg, hop, hf⟩
  rw [HM.out] at hr
  subst hr
  have s0 : ∀ o, (w1.alloc o).cell? ⟨b, 0, none⟩ = some (.slice Ap s.prog.length cp) := fun o => ((HS.out.ob.belowH hb1).alloc o).cell 0
  have HB1 := Lib.hid hb1
  have h48' : (48 : Int) ≤ (s.prog.length : Int) := by omega
  clear hb1 hpar hgg hop hf h48
  go_wp2_with fail
  go_ret
  refine ⟨((Spares.refl b m w).below HB1.out).alloc _, (HB1.out.alloc HB1.out.size _).mono HSB.out, ?_⟩
  rw [HP.out]
  rfl

set_option maxRecDepth 100000 in
set_option maxHeartbeats 2000000 in
theorem take_plain (B b m : Nat) (s : Sheet) (n : Int) (l : List UInt8) (hl : l.length ≤ 60000) (y : Say) (hp : parseOf l = some y) (hm : y.mark = []) (hgo : y.goal = []) (h48 : s.prog.length < 48) (w : World) (hg : Gl w) (pv mv gv : Value) (hs : SheetAt B b m s pv mv gv w) :
    Calls Tryd.prog 43 #[.pointer (some ⟨b, 0, none⟩), .int .i64 n, S l] w (TakePost B b m s n l w) := by
  obtain ⟨Ap, cp, rfl⟩ := own_slice hs.op
  have hpar := parse_any l hl w hg
  rw [hp] at hpar
  have h48n : ¬ 48 ≤ s.prog.length := by omega
  have HP := Lib.hid (show takeS s n l = some { s with prog := s.prog ++ [insOf y] } by simp [takeS, hp, hm, takeIns, h48n, hgo])
  have HS := Lib.hid hs
  have HBB := Lib.hid hs.hb
  have HM := Lib.hid hm
  have HGO := Lib.hid hgo
  have HL := Lib.hid h48
  clear hg hs hp hm hgo
  go_enter Tryd.func43, Tryd.ntmps43
  go_wp2_with fail
  refine hpar.mono ?_
  rintro e w1 ⟨r', g, op, a, b', c, ok, rfl, hb1, rfl, hr, hgg, hop, hf⟩
  rw [HM.out] at hr
  subst hr
  rw [HGO.out] at hgg
  subst hgg
  have hx : insOf y = ⟨op, a, b', c⟩ := by simp [insOf, hop, hf]
  have HX := Lib.hid hx
  have s0 : ∀ o, (w1.alloc o).cell? ⟨b, 0, none⟩ = some (.slice Ap s.prog.length cp) := fun o => ((HS.out.ob.belowH hb1).alloc o).cell 0
  have HB1 := Lib.hid hb1
  have h48' : (s.prog.length : Int) < 48 := by omega
  clear hb1 hpar hop hf h48 h48n hx
  go_wp2_with fail
  refine forget (fun wo => SheetAt B b m s (.slice Ap s.prog.length cp) mv gv wo ∧ Ob wo w1.heap.size (.cells (lineCells [] [] op a b' c) 112) ∧ Below w.heap.size w wo)
    ⟨(HS.out.belowH HB1.out).belowH ((Below.refl _ _).alloc (Nat.le_refl _) _), Ob.new _ _, HB1.out.alloc HB1.out.size _⟩ ?_
  clear s0
  rintro w4 ⟨hS, hL, hB⟩
  have hbw : B ≤ w4.heap.size := by have := HBB.out; have := hS.ob.lt; omega
  have lb := hS.ob.lt
  have s0 : w4.cell? ⟨b, 0, none⟩ = some (.slice Ap s.prog.length cp) := hS.ob.cell 0
  have sf : w4.frozen? ⟨b, 0, none⟩ = false := hS.ob.frozen 0
  have l2 : w4.cell? ⟨w1.heap.size, 2, none⟩ = some (.int .i64 op) := hL.cell 2
  have l3 : w4.cell? ⟨w1.heap.size, 3, none⟩ = some (.int .i64 a) := hL.cell 3
  have l4 : w4.cell? ⟨w1.heap.size, 4, none⟩ = some (.int .i64 b') := hL.cell 4
  have l5 : w4.cell? ⟨w1.heap.size, 5, none⟩ = some (.int .i64 c) := hL.cell 5
  have ab : (Value.slice Ap s.prog.length cp).ownBlock ≠ some b := own_ne hS.op hS.ob (by intro _ _ e; cases e)
  have q0 : ∀ o, (w4.alloc o).cell? ⟨b, 0, none⟩ = some (.slice Ap s.prog.length cp) := fun o => (hS.ob.alloc o).cell 0
  have qf : ∀ o, (w4.alloc o).frozen? ⟨b, 0, none⟩ = false := fun o => (hS.ob.alloc o).frozen 0
  obtain ⟨i0, hi0, hz0, hz1, hz2⟩ := info_parts info57
  have HS4 := Lib.hid hS; have HB4 := Lib.hid hB
  clear hS hL hB
  go_region_law ((refine step_append_lies _ (by rfl) _ _ _ (by rfl) B 57 i0 _ 4 32 Tryd.underlying22 hi0 hz0 hz1 hz2 rfl (by omega) (.slice Ap s.prog.length cp) s.prog.length (s.prog.flatMap Ins.cells) (by rfl) ((HS4.out.op.alloc _).drew) ⟨w4.heap.size, 0, none⟩ 1 1 [.int .i64 op, .int .i64 a, .int .i64 b', .int .i64 c] (by rfl) (by rfl) (World.news_of_block (cs := #[.int .i64 op, .int .i64 a, .int .i64 b', .int .i64 c]) (t := 57) (fr := (0, 0)) (heap_alloc_new w4 _)) (by simp [Value.oneCell']) (by omega) (by unfold maxLen; omega) (by omega) (by simp; omega) (w4.heap.size + 1) (by simp) ?_; intro gg cap w5 hown5 hgrow hat hlt5; have c5 : w5.frozen? ⟨b, 0, none⟩ = false := (hgrow.frozen_far ⟨b, 0, none⟩ (by show b < (w4.alloc _).heap.size; rw [World.size_alloc]; omega) (Ne.symm ab)).trans (qf _); have d5 : w5.cell? ⟨b, 0, none⟩ = some (.slice Ap s.prog.length cp) := (hgrow.cell_far ⟨b, 0, none⟩ (by show b < (w4.alloc _).heap.size; rw [World.size_alloc]; omega) (Ne.symm ab)).trans (q0 _)))
  all_goals
    go_wp2
    go_ret
    obtain ⟨k1, k2⟩ := step_spares (i := 0) (u := .slice (some ⟨gg, 0, none⟩) (s.prog.length + 1) cap) (.inl rfl) HBB.out lb HS4.out.op ((Spares.refl b m w).below HB4.out) (HB4.out.mono (Nat.le_trans HBB.out (Nat.le_of_lt HS.out.ob.lt))) hgrow
    refine ⟨k1, k2, ?_⟩
    rw [HP.out, HX.out]
    exact ⟨rfl, _, _, _, sheet_prog HL.out HS4.out hown5 hgrow⟩
end Go.Proofs.YtiegkhoidabkhaaDoor
