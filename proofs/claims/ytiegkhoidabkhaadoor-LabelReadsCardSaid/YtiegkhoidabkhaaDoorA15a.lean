/- (*label.sheet).take: the two appends at an instruction, in words of memory. -/
import Derived.Test.YtiegkhoidabkhaaDoorA14a
namespace Go.Proofs.YtiegkhoidabkhaaDoor
open Go.Shelf Go.RowKit Go.Maps

theorem own_append_ne' {w : World} {B e sz n k : Nat} {v mv : Value} {ys : List Value} {gg H : Nat} (hg : w.ownsRow B e sz mv k ys) (hne : mv.ownBlock = none ∨ mv.ownBlock ≠ v.ownBlock) (hat : v.ownBlock = some gg ∨ gg = H) (hH : w.heap.size ≤ H) {cap : Nat} :
    mv.ownBlock = none ∨ mv.ownBlock ≠ (Value.slice (some ⟨gg, 0, none⟩) n cap).ownBlock := by
  rcases hne with h | h
  · exact .inl h
  · right
    intro h2
    have h2' : mv.ownBlock = some gg := h2
    rcases hat with hat | rfl
    · exact h (by rw [h2', hat])
    · have := own_lt hg gg h2'
      omega
theorem own_kinds {w : World} {B B' e e' sz sz' n n' : Nat} {v v' : Value} {xs xs' : List Value} (h : w.ownsRow B e sz v n xs) (h' : w.ownsRow B' e' sz' v' n' xs') (hne : e ≠ e') : v.ownBlock = none ∨ v.ownBlock ≠ v'.ownBlock := by
  rcases hb : v.ownBlock with _ | g
  · exact .inl rfl
  · right
    intro h2
    obtain ⟨c1, f1, h3⟩ := own_kind h g hb
    obtain ⟨c2, f2, h4⟩ := own_kind h' g h2.symm
    rw [h3] at h4
    injection h4 with h4
    injection h4 with _ h5
    exact hne h5
theorem ne_sym {a b : Option Nat} (h : a = none ∨ a ≠ b) : b = none ∨ b ≠ a := by
  rcases h with h | h
  · subst h
    rcases b with _ | b
    · exact .inl rfl
    · exact .inr (by simp)
  · exact .inr (Ne.symm h)

theorem sheet_goal {B b m : Nat} {s : Sheet} {p : Place} {w4 w5 : World} {pv mv gv : Value} {o : Obj} {gg cap : Nat} (hS : SheetAt B b m s pv mv gv w4)
    (hown : w5.ownsRow B 86 3 (.slice (some ⟨gg, 0, none⟩) (s.goals.length + 1) cap) (s.goals.length + 1) (s.goals.flatMap Place.cells ++ p.cells))
    (hgrow : (w4.alloc o).drew.grownBy w5 gv.ownBlock) (hat : gv.ownBlock = some gg ∨ gg = w4.heap.size + 1) :
    SheetAt B b m { s with goals := s.goals ++ [p] } pv mv (.slice (some ⟨gg, 0, none⟩) (s.goals.length + 1) cap) (w5.setCell ⟨b, 3, none⟩ (.slice (some ⟨gg, 0, none⟩) (s.goals.length + 1) cap)) := by
  have hS4 : SheetAt B b m s pv mv gv (w4.alloc o).drew := ⟨hS.hb, hS.hm, (hS.ob.alloc o).drew, (hS.op.alloc o).drew, (hS.om.alloc o).drew, (hS.og.alloc o).drew, (hS.nm.alloc o).drew, hS.ne, hS.ap, hS.lp⟩
  have hob5 : Ob w5 b (.cells #[pv, mv, .map (some m), gv] 77) := hS4.ob.grown hgrow (Ne.symm (own_ne hS.og hS.ob (by intro _ _ e; cases e)))
  have hop5 : OwnI w5 B pv s.prog := hS4.op.kept hgrow (own_kinds hS.op hS.og (by decide))
  have hom5 : OwnP w5 B mv s.marks := hS4.om.kept hgrow hS.ne
  have hnm5 := hS4.nm.kept hgrow (fun e => own_map_ne hS.og hS.nm e.symm)
  have h1 : w5.ownsRow B 86 3 (.slice (some ⟨gg, 0, none⟩) (s.goals.length + 1) cap) (s.goals ++ [p]).length ((s.goals ++ [p]).flatMap Place.cells) := by
    rw [flat_place, List.length_append]; exact hown
  exact ⟨hS.hb, hS.hm, hob5.set 3 _, own_setB hop5 (own_ne hop5 hob5 (by intro _ _ e; cases e)) _, own_setB hom5 (own_ne hom5 hob5 (by intro _ _ e; cases e)) _, own_setB h1 (own_ne hown hob5 (by intro _ _ e; cases e)) _,
    hnm5.setCell (a := ⟨b, 3, none⟩) (Ne.symm hS.bm) _, own_append_ne' hS.om hS.ne hat (by omega), hS.ap, hS.lp⟩

theorem sheet_prog {B b m : Nat} {s : Sheet} {x : Ins} {w4 w5 : World} {pv mv gv : Value} {o : Obj} {gg cap : Nat} (hl : s.prog.length < 48) (hS : SheetAt B b m s pv mv gv w4)
    (hown : w5.ownsRow B 57 4 (.slice (some ⟨gg, 0, none⟩) (s.prog.length + 1) cap) (s.prog.length + 1) (s.prog.flatMap Ins.cells ++ x.cells))
    (hgrow : (w4.alloc o).drew.grownBy w5 pv.ownBlock) :
    SheetAt B b m { s with prog := s.prog ++ [x] } (.slice (some ⟨gg, 0, none⟩) (s.prog.length + 1) cap) mv gv (w5.setCell ⟨b, 0, none⟩ (.slice (some ⟨gg, 0, none⟩) (s.prog.length + 1) cap)) := by
  have hS4 : SheetAt B b m s pv mv gv (w4.alloc o).drew := ⟨hS.hb, hS.hm, (hS.ob.alloc o).drew, (hS.op.alloc o).drew, (hS.om.alloc o).drew, (hS.og.alloc o).drew, (hS.nm.alloc o).drew, hS.ne, hS.ap, hS.lp⟩
  have hob5 : Ob w5 b (.cells #[pv, mv, .map (some m), gv] 77) := hS4.ob.grown hgrow (Ne.symm (own_ne hS.op hS.ob (by intro _ _ e; cases e)))
  have hog5 : OwnP w5 B gv s.goals := hS4.og.kept hgrow (own_kinds hS.og hS.op (by decide))
  have hom5 : OwnP w5 B mv s.marks := hS4.om.kept hgrow (own_kinds hS.om hS.op (by decide))
  have hnm5 := hS4.nm.kept hgrow (fun e => own_map_ne hS.op hS.nm e.symm)
  have h1 : w5.ownsRow B 57 4 (.slice (some ⟨gg, 0, none⟩) (s.prog.length + 1) cap) (s.prog ++ [x]).length ((s.prog ++ [x]).flatMap Ins.cells) := by
    rw [flat_ins, List.length_append]; exact hown
  exact ⟨hS.hb, hS.hm, hob5.set 0 _, own_setB h1 (own_ne hown hob5 (by intro _ _ e; cases e)) _, own_setB hom5 (own_ne hom5 hob5 (by intro _ _ e; cases e)) _, own_setB hog5 (own_ne hog5 hob5 (by intro _ _ e; cases e)) _,
    hnm5.setCell (a := ⟨b, 0, none⟩) (Ne.symm hS.bm) _, hS.ne, hS.ap, by simp; omega⟩

/-- What the step spares, and what lies below. -/
theorem step_spares {B b m e sz n i : Nat} {w w4 w5 : World} {v u : Value} {xs : List Value} {o : Obj} (he : e = 57 ∨ e = 86) (hb : B ≤ b) (hlt : b < w4.heap.size) (hv : w4.ownsRow B e sz v n xs) (hsp : Spares b m w w4) (hB : Below B w w4)
    (hgrow : (w4.alloc o).drew.grownBy w5 v.ownBlock) : Spares b m w (w5.setCell ⟨b, i, none⟩ u) ∧ Below B w (w5.setCell ⟨b, i, none⟩ u) := by
  have hg4 : (w4.alloc o).drew.heap.size = w4.heap.size + 1 := by show (w4.alloc o).heap.size = _; rw [World.size_alloc]
  have hsp5 : Spares b m w w5 := ((hsp.alloc o).drew).grown hgrow (fun g hg => .inr (by
    obtain ⟨cs, fr, hc⟩ := own_kind ((hv.alloc o).drew) g hg
    rcases he with rfl | rfl
    · exact ⟨cs, fr, .inl hc⟩
    · exact ⟨cs, fr, .inr hc⟩))
  have hB5 : Below B w w5 := ((hB.alloc (by omega) o).drew).grown hgrow (by rw [hg4]; omega) (fun g hg => own_base hv g hg)
  exact ⟨hsp5.set _, below_setB hB5 hb _⟩
end Go.Proofs.YtiegkhoidabkhaaDoor
