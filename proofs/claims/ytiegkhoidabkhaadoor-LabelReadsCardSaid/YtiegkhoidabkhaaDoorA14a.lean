/- (*label.sheet).take. -/
import Derived.Test.YtiegkhoidabkhaaDoorA13
import Derived.StillTailTactics
import Derived.BigRegion
import Derived.Deep.RegionLaw
namespace Go.Proofs.YtiegkhoidabkhaaDoor
open Go.Shelf Go.RowKit Go.Maps

/-- What take hands back. -/
def TakePost (B b m : Nat) (s : Sheet) (n : Int) (l : List UInt8) (w : World) (e : Ending) (w' : World) : Prop :=
  Spares b m w w' ∧ Below B w w' ∧ (match takeS s n l with | some s' => e = .returned (.bool true) ∧ IsSheet B b m s' w' | none => e = .returned (.bool false))
theorem below_drewN {B : Nat} {w W : World} (h : Below B w W) (n : Nat) : Below B w (W.drewN n) := ⟨h.os, h.tape, h.output, h.size, h.block⟩
theorem SheetAt.drewN {B b m : Nat} {s : Sheet} {pv mv gv : Value} {w : World} (h : SheetAt B b m s pv mv gv w) (n : Nat) : SheetAt B b m s pv mv gv (w.drewN n) := ⟨h.hb, h.hm, h.ob, h.op, h.om, h.og, h.nm, h.ne, h.ap, h.lp⟩
theorem SheetAt.drew {B b m : Nat} {s : Sheet} {pv mv gv : Value} {w : World} (h : SheetAt B b m s pv mv gv w) : SheetAt B b m s pv mv gv w.drew := ⟨h.hb, h.hm, h.ob, h.op, h.om, h.og, h.nm, h.ne, h.ap, h.lp⟩
theorem SheetAt.bm {B b m : Nat} {s : Sheet} {pv mv gv : Value} {w : World} (h : SheetAt B b m s pv mv gv w) : b ≠ m := by
  rintro rfl
  obtain ⟨es, cl, hm, _⟩ := h.nm
  have := h.ob.eq (o' := .map es cl) hm
  cases this
theorem own_map_ne {w : World} {B e sz n m k : Nat} {v : Value} {xs : List Value} {D : DataW Unit} (h : w.ownsRow B e sz v n xs) (hm : w.ownsMap Tryd.prog 9 (plainElem Tryd.prog 3) m k D) : v.ownBlock ≠ some m := by
  obtain ⟨es, cl, hm, _⟩ := hm
  exact own_ne h (o := .map es cl) hm (by intro _ _ e; cases e)
theorem ob_map_ne {w : World} {g m k : Nat} {cs : Array Value} {t : TypeId} {fr : Nat × Nat} {D : DataW Unit} (h : Ob w g (.cells cs t fr)) (hm : w.ownsMap Tryd.prog 9 (plainElem Tryd.prog 3) m k D) : g ≠ m := by
  rintro rfl
  obtain ⟨es, cl, hm, _⟩ := hm
  have := h.eq (o' := .map es cl) hm
  cases this
theorem own_slice {w : World} {base n : Nat} {e : TypeId} {size : Nat} {v : Value} {xs : List Value} (h : w.ownsRow base e size v n xs) : ∃ A c, v = .slice A n c := by
  rcases h.2 with ⟨rfl, rfl⟩ | ⟨g, cap, cur, rfl, _⟩
  · exact ⟨none, 0, rfl⟩
  · exact ⟨_, cap, rfl⟩
theorem law9 : Keyed Tryd.prog 9 := string_keyed Tryd.underlying9
theorem zero3 (w : World) : (zeroValue 3).run Tryd.prog w = .ok (.int .i64 0) w := by kernel_rfl
theorem key_mk (s : List UInt8) (h : s.length ≤ 9223372036854775807) : keyOf Tryd.prog 9 (S s) = some (.string s) := by
  have := WideMaps.keyOf_string_mk (P := Tryd.prog) (s := ⟨s.toArray⟩) Tryd.underlying9 (by simp [ByteArray.size, maxLen]; omega)
  simpa using this
/-- The number that a look-up hands back. -/
def lookN (ms : List Place) (n : List UInt8) : Int := if hasMark ms n = true then atMark ms n else 0
theorem look_names {ms : List Place} {m k : Nat} {n : List UInt8} (hA : Apart ms) (hn : n.length ≤ 9223372036854775807) {w : World} (h : w.ownsMap Tryd.prog 9 (plainElem Tryd.prog 3) m k (namesD ms)) :
    (Instr.lookup 75 (.map (some m)) (S n) true).run Tryd.prog w = .ok (.tuple #[.int .i64 (lookN ms n), .bool (hasMark ms n)]) w := by
  obtain ⟨v, ps, hrun, hv⟩ := h.look_ok law9 Tryd.underlying75 (zero3 w) (plainElem_int (H := Unit) Tryd.underlying3 (by decide)) (key_mk n hn)
  rw [has_namesD] at hrun
  obtain ⟨c, rfl, hc, _⟩ := plainElem_int_inv Tryd.underlying3 hv
  have hc1 := congrArg Prod.fst hc
  simp only at hc1
  have : c = lookN ms n := by
    rw [at_namesD n ms hA] at hc1
    have h2 : Lit.int .i64 (atMark ms n) = Lit.int .i64 c := by injection hc1
    have h3 : atMark ms n = c := by injection h2
    rw [← h3]
    unfold lookN
    by_cases hm : hasMark ms n = true
    · rw [if_pos hm]
    · rw [if_neg hm]
      unfold atMark
      have : ms.find? (fun p => p.name == n) = none := by
        rw [List.find?_eq_none]
        intro x hx hh
        exact hm (List.any_eq_true.2 ⟨x, hx, hh⟩)
      rw [this]
  rw [hrun, this]

theorem set_grown (w : World) (b i : Nat) (u : Value) : w.grownBy (w.setCell ⟨b, i, none⟩ u) (some b) :=
  ⟨rfl, rfl, rfl, by simp [World.setCell], fun k _ hk => Below.heap_setCell _ _ _ _ (fun e => hk (by simp [e]))⟩
theorem own_setB {w : World} {B e sz n b i : Nat} {v : Value} {xs : List Value} (h : w.ownsRow B e sz v n xs) (hne : v.ownBlock ≠ some b) (u : Value) : (w.setCell ⟨b, i, none⟩ u).ownsRow B e sz v n xs := h.kept (set_grown w b i u) (.inr hne)
theorem own_append_ne {w : World} {B e sz n k : Nat} {v gv : Value} {ys : List Value} {gg H : Nat} (hg : w.ownsRow B e sz gv k ys) (hne : v.ownBlock = none ∨ v.ownBlock ≠ gv.ownBlock) (hat : v.ownBlock = some gg ∨ gg = H) (hH : w.heap.size ≤ H) {cap : Nat} :
    (Value.slice (some ⟨gg, 0, none⟩) n cap).ownBlock = none ∨ (Value.slice (some ⟨gg, 0, none⟩) n cap).ownBlock ≠ gv.ownBlock := by
  right
  intro h
  have h' : gv.ownBlock = some gg := by rw [← h]; rfl
  rcases hat with hat | rfl
  · rcases hne with hn | hn
    · rw [hn] at hat; cases hat
    · exact hn (by rw [hat, h'])
  · have := own_lt hg gg h'
    omega
theorem flat_place (ms : List Place) (p : Place) : (ms ++ [p]).flatMap Place.cells = ms.flatMap Place.cells ++ p.cells := by simp
theorem flat_ins (ms : List Ins) (p : Ins) : (ms ++ [p]).flatMap Ins.cells = ms.flatMap Ins.cells ++ p.cells := by simp
theorem mark_done {B b m : Nat} {s : Sheet} {n : Int} {l r : List UInt8} (hpar : parseOf l = some ⟨r, [], 0, [0, 0, 0]⟩) (hr : nameB r = true) (hno : hasMark s.marks r = false) {w w4 w5 : World} {pv mv gv : Value} {o : Obj} {gg cap : Nat}
    (hS : SheetAt B b m s pv mv gv w) (hob : Ob w4 b (.cells #[pv, mv, .map (some m), gv] 77)) (hop : OwnI w4 B pv s.prog) (hom : OwnP w4 B mv s.marks) (hog : OwnP w4 B gv s.goals)
    (hnm : w4.ownsMap Tryd.prog 9 (plainElem Tryd.prog 3) m (s.marks.length + 1) ((namesD s.marks).put (.string r) (.lit (.int .i64 s.prog.length)))) (hsp : Spares b m w w4) (hB : Below B w w4)
    (hown : w5.ownsRow B 86 3 (.slice (some ⟨gg, 0, none⟩) (s.marks.length + 1) cap) (s.marks.length + 1) (s.marks.flatMap Place.cells ++ [S r, .int .i64 n, .int .i64 s.prog.length]))
    (hgrow : (w4.alloc o).drew.grownBy w5 mv.ownBlock) (hat : mv.ownBlock = some gg ∨ gg = w4.heap.size + 1) :
    TakePost B b m s n l w (.returned (.bool true)) (w5.setCell ⟨b, 1, none⟩ (.slice (some ⟨gg, 0, none⟩) (s.marks.length + 1) cap)) := by
  have hrn : r ≠ [] := by
    rintro rfl
    cases hr
  have hg4 : (w4.alloc o).drew.heap.size = w4.heap.size + 1 := by show (w4.alloc o).heap.size = _; rw [World.size_alloc]
  have hob5 : Ob w5 b (.cells #[pv, mv, .map (some m), gv] 77) := (hob.alloc o).drew.grown hgrow (Ne.symm (own_ne hom hob (by intro _ _ e; cases e)))
  have hop5 : OwnI w5 B pv s.prog := ((hop.alloc o).drew).kept hgrow (by
    rcases h : pv.ownBlock with _ | g
    · exact .inl rfl
    · right
      intro h2
      obtain ⟨c1, f1, h3⟩ := own_kind hop g h
      obtain ⟨c2, f2, h4⟩ := own_kind hom g h2.symm
      rw [h3] at h4; cases h4)
  have hog5 : OwnP w5 B gv s.goals := ((hog.alloc o).drew).kept hgrow (by
    rcases h : gv.ownBlock with _ | g
    · exact .inl rfl
    · right
      intro h2
      rcases hS.ne with hn | hn
      · rw [hn] at h2; cases h2
      · exact hn (by rw [← h2, h]))
  have hnm5 := (hnm.alloc o).drew.kept hgrow (fun e => own_map_ne hom hnm e.symm)
  have hsp5 : Spares b m w w5 := ((hsp.alloc o).drew).grown hgrow (fun g hg => .inr (by
    obtain ⟨cs, fr, hc⟩ := own_kind ((hom.alloc o).drew) g hg
    exact ⟨cs, fr, .inr hc⟩))
  have hB5 : Below B w w5 := ((hB.alloc (by have := hS.hb; have := hob.lt; omega) o).drew).grown hgrow (by have := hS.hb; have := hob.lt; rw [hg4]; omega) (fun g hg => own_base hom g hg)
  refine ⟨hsp5.set _, below_setB hB5 hS.hb _, ?_⟩
  have ht : takeS s n l = some { s with marks := s.marks ++ [⟨r, n, s.prog.length⟩] } := by
    simp [takeS, hpar, hrn, takeMark, hno]
  rw [ht]
  refine ⟨rfl, pv, _, gv, hS.hb, hS.hm, hob5.set 1 _, ?_, ?_, ?_, ?_, own_append_ne hog hS.ne hat (by omega), apart_snoc hS.ap hno, hS.lp⟩
  · exact own_setB hop5 (own_ne hop5 hob5 (by intro _ _ e; cases e)) _
  · have h1 : w5.ownsRow B 86 3 (.slice (some ⟨gg, 0, none⟩) (s.marks.length + 1) cap) (s.marks ++ [Place.mk r n s.prog.length]).length ((s.marks ++ [Place.mk r n s.prog.length]).flatMap Place.cells) := by
      rw [flat_place, List.length_append]; exact hown
    exact own_setB h1 (own_ne hown hob5 (by intro _ _ e; cases e)) _
  · exact own_setB hog5 (own_ne hog5 hob5 (by intro _ _ e; cases e)) _
  · have h1 : w5.ownsMap Tryd.prog 9 (plainElem Tryd.prog 3) m (s.marks ++ [Place.mk r n s.prog.length]).length (namesD (s.marks ++ [Place.mk r n s.prog.length])) := by
      rw [namesD_snoc, List.length_append]; exact hnm5
    exact h1.setCell (a := ⟨b, 1, none⟩) (Ne.symm hS.bm) _

end Go.Proofs.YtiegkhoidabkhaaDoor
