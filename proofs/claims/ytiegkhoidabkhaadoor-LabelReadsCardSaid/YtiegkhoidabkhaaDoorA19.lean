/- label.read. -/
import Derived.RangeFuncWrites
import Derived.RangeFuncLeaves
import Derived.BigQuiet
import Derived.Test.YtiegkhoidabkhaaDoorA18
import Derived.Test.YtiegkhoidabkhaaDoorB8
namespace Go.Proofs.YtiegkhoidabkhaaDoor
open Go.Shelf Go.RowKit Go.Maps
attribute [local go_sem] Oper.semAt_some

def ReadPost (text : List UInt8) (w : World) (e : Ending) (w' : World) : Prop := Below w.heap.size w w' ∧ match readS text with
  | .inl (n, k) => e = .returned (.tuple #[.pointer none, .int .i64 n, .int .i64 k])
  | .inr s => ∃ b m, e = .returned (.tuple #[.pointer (some ⟨b, 0, none⟩), .int .i64 0, .int .i64 0]) ∧ IsSheet w.heap.size b m s w'

set_option maxRecDepth 100000 in
set_option maxHeartbeats 1000000 in
theorem read_long (text : List UInt8) (hl : 4096 < text.length) (hl2 : text.length ≤ 9223372036854775807) (w : World) : Calls Tryd.prog 30 #[S text] w (ReadPost text w) := by
  have hpost : ∀ w', Below w.heap.size w w' → ReadPost text w (.returned (.tuple #[.pointer none, .int .i64 0, .int .i64 3])) w' := fun w' hb => by
    refine ⟨hb, ?_⟩
    rw [readS, if_pos hl]
  have HP := Lib.hid hpost
  clear hpost
  generalize ReadPost text w = R at *
  have hl3 : (4096 : Int) < text.length := by omega
  go_enter Tryd.func30, Tryd.ntmps30
  go_wp2
  refine bodyPost_ret (v := .tuple #[.pointer none, .int .i64 0, .int .i64 3]) (by simp [results, Tryd.results30, go_sem, *]) rfl ?_
  exact HP.out _ (by go_grown)

/-- What lies about the sheet: the three results, the pointer to the sheet. -/
structure RdFrame (w : World) (x y z : Value) (W : World) : Prop where
  r0 : Ob W (w.heap.size) (.cells #[x] 71)
  r1 : Ob W (w.heap.size + 1) (.cells #[y] 3)
  r2 : Ob W (w.heap.size + 1 + 1) (.cells #[z] 24)
  sp : Ob W (w.heap.size + 1 + 1 + 1 + 1 + 1) (.cells #[.pointer (some ⟨w.heap.size + 1 + 1 + 1 + 1, 0, none⟩)] 71)
  be : Below w.heap.size w W
theorem RdFrame.kept {w W W' : World} {x y z : Value} {row : Option Nat} (h : RdFrame w x y z W) (hg : W.grownBy W' row) (hr : ∀ r, row = some r → w.heap.size + 7 ≤ r) : RdFrame w x y z W' :=
  have hne : ∀ k, k < w.heap.size + 7 → some k ≠ row := fun k hk e => by have := hr k e.symm; omega
  ⟨h.r0.grown hg (hne _ (by omega)), h.r1.grown hg (hne _ (by omega)), h.r2.grown hg (hne _ (by omega)), h.sp.grown hg (hne _ (by omega)), h.be.grown hg h.be.size (fun k e => by have := hr k e; omega)⟩
theorem SheetAt.kept {B b m : Nat} {s : Sheet} {pv mv gv : Value} {W W' : World} {row : Option Nat} (h : SheetAt B b m s pv mv gv W) (hg : W.grownBy W' row)
    (hr : ∀ r, row = some r → r ≠ b ∧ r ≠ m ∧ ∃ o : Obj, W.heap[r]? = some o ∧ o.isCells = false) : SheetAt B b m s pv mv gv W' := by
  have hk : ∀ {e sz n : Nat} {v : Value} {xs : List Value}, W.ownsRow B e sz v n xs → v.ownBlock = none ∨ v.ownBlock ≠ row := fun hv => by
    rcases row with _ | r
    · rcases h' : Value.ownBlock _ with _ | _
      · exact .inl rfl
      · exact .inr (by simp)
    · right
      obtain ⟨_, _, o, ho, hc⟩ := hr r rfl
      exact own_ne hv (o := o) ho (by rintro cs fr rfl; cases hc)
  have hnm := h.nm.kept hg (fun e => (hr m e.symm).2.1 rfl)
  exact ⟨h.hb, h.hm, h.ob.grown hg (fun e => (hr b e.symm).1 rfl), h.op.kept hg (hk h.op), h.om.kept hg (hk h.om), h.og.kept hg (hk h.og), hnm, h.ne, h.ap, h.lp⟩
theorem RdFrame.drewN {w W : World} {x y z : Value} (h : RdFrame w x y z W) (n : Nat) : RdFrame w x y z (W.drewN n) := ⟨h.r0, h.r1, h.r2, h.sp, below_drewN h.be n⟩
theorem RdFrame.drew {w W : World} {x y z : Value} (h : RdFrame w x y z W) : RdFrame w x y z W.drew := ⟨h.r0, h.r1, h.r2, h.sp, h.be.drew⟩
theorem RdFrame.far {w W : World} {x y z : Value} (h : RdFrame w x y z W) {g i : Nat} (h0 : g ≠ w.heap.size) (h1 : g ≠ w.heap.size + 1) (h2 : g ≠ w.heap.size + 1 + 1) (h5 : g ≠ w.heap.size + 1 + 1 + 1 + 1 + 1) (hB : w.heap.size ≤ g) (u : Value) : RdFrame w x y z (W.setCell ⟨g, i, none⟩ u) :=
  ⟨h.r0.farB (Ne.symm h0) u, h.r1.farB (Ne.symm h1) u, h.r2.farB (Ne.symm h2) u, h.sp.farB (Ne.symm h5) u, below_setB h.be hB u⟩
theorem ob_ne {W : World} {g h : Nat} {o o' : Obj} (hg : Ob W g o) (hh : Ob W h o') (hne : o ≠ o') : g ≠ h := by
  rintro rfl
  exact hne (hg.eq hh)
theorem RdFrame.three {w W : World} {x y z : Value} (h : RdFrame w x y z W) (x' y' z' : Value) : RdFrame w x' y' z' (((W.setCell ⟨w.heap.size, 0, none⟩ x').setCell ⟨w.heap.size + 1, 0, none⟩ y').setCell ⟨w.heap.size + 1 + 1, 0, none⟩ z') :=
  ⟨((h.r0.set 0 x').farB (by omega) y').farB (by omega) z', ((h.r1.farB (by omega) x').set 0 y').farB (by omega) z', ((h.r2.farB (by omega) x').farB (by omega) y').set 0 z',
    ((h.sp.farB (by omega) x').farB (by omega) y').farB (by omega) z', below_setB (below_setB (below_setB h.be (by omega) _) (by omega) _) (by omega) _⟩
theorem keeps_three {B b0 b1 b2 : Nat} {W : World} (x' y' z' : Value) : KeepsFrom B W (((W.setCell ⟨b0, 0, none⟩ x').setCell ⟨b1, 0, none⟩ y').setCell ⟨b2, 0, none⟩ z') :=
  (((KeepsOthers.setCell _ _ _).from B).trans ((KeepsOthers.setCell _ _ _).from B)).trans ((KeepsOthers.setCell _ _ _).from B)
abbrev RdI (w : World) (pre : List (Nat × List UInt8)) (W : World) : Prop := ∃ s, runS pre = some s ∧ IsSheet w.heap.size (w.heap.size + 1 + 1 + 1 + 1) (w.heap.size + 1 + 1 + 1) s W ∧ RdFrame w (.pointer none) (.int .i64 0) (.int .i64 0) W
abbrev RdX (w : World) (c : Code) (pre' : List (Nat × List UInt8)) (W : World) : Prop := c = .ret ∧ ∃ pre x s, pre' = pre ++ [x] ∧ runS pre = some s ∧ takeS s x.1 (x.2.take 4096) = none ∧ RdFrame w (.pointer none) (.int .i64 (x.1 : Int)) (.int .i64 60) W
theorem rdI_own (w : World) : OwnFrom (w.heap.size + 7) (RdI w) := fun pre W W' row ⟨s, hs, ⟨pv, mv, gv, hS⟩, hF⟩ hg hr =>
  ⟨s, hs, ⟨pv, mv, gv, hS.kept hg (fun r e => ⟨by have := (hr r e).1; omega, by have := (hr r e).1; omega, (hr r e).2⟩)⟩, hF.kept hg (fun r e => (hr r e).1)⟩
theorem rdX_own (w : World) (c : Code) : OwnFrom (w.heap.size + 7) (RdX w c) := fun _ _ _ _ ⟨hc, p, x, s, h1, h2, h3, hF⟩ hg hr => ⟨hc, p, x, s, h1, h2, h3, hF.kept hg (fun r e => (hr r e).1)⟩
theorem new_sheet {w W : World} {b m : Nat} (hb : w.heap.size ≤ b) (hm : w.heap.size ≤ m) (ho : Ob W b (.cells #[.slice none 0 0, .slice none 0 0, .map (some m), .slice none 0 0] 77))
    (hn : W.ownsMap Tryd.prog 9 (plainElem Tryd.prog 3) m 0 (namesD [])) : IsSheet w.heap.size b m Sheet.empty W :=
  ⟨_, _, _, hb, hm, ho, World.ownsRow_nil _ _ _ _, World.ownsRow_nil _ _ _ _, World.ownsRow_nil _ _ _ _, hn, .inl rfl, List.Pairwise.nil, by simp [Sheet.empty]⟩

theorem names_made {W : World} {k : Nat} (hk : k = W.heap.size) : (W.alloc (.map #[] 0)).ownsMap Tryd.prog 9 (plainElem Tryd.prog 3) k 0 (namesD []) := by
  subst hk
  exact World.ownsMap_made (H := Unit) W Tryd.prog 9 (plainElem Tryd.prog 3)
theorem below_made {h : Nat} {a w : World} (k : Below h a w) (hs : h ≤ a.heap.size) (o : Obj) : Below h a (w.alloc o) := k.alloc (Nat.le_trans hs k.size) o

theorem flat_get {α : Type} (f : α → List Value) (sz : Nat) : ∀ (l : List α), (∀ x ∈ l, (f x).length = sz) → ∀ (i r : Nat) (x : α), l[i]? = some x → r < sz → (l.flatMap f)[i * sz + r]? = (f x)[r]?
  | [], _, _, _, _, h, _ => by simp at h
  | y :: l, hf, 0, r, x, h, hr => by
    have : y = x := by simpa using h
    subst this
    rw [List.flatMap_cons, List.getElem?_append_left (by rw [hf y (List.mem_cons_self ..)]; omega)]
    simp
  | y :: l, hf, i + 1, r, x, h, hr => by
    have hy := hf y (List.mem_cons_self ..)
    rw [List.flatMap_cons, List.getElem?_append_right (by rw [hy, Nat.add_mul]; omega), hy, show (i + 1) * sz + r - sz = i * sz + r by rw [Nat.add_mul]; omega]
    exact flat_get f sz l (fun z hz => hf z (List.mem_cons_of_mem _ hz)) i r x (by simpa using h) hr
theorem flat_fix : ∀ (l : List Ins) (j : Nat) (a : Int), (l.flatMap Ins.cells).set (j * 4 + 1) (.int .i64 a) = (l.modify j fun x => fixI x a).flatMap Ins.cells
  | [], j, a => by simp
  | x :: l, 0, a => by simp [Ins.cells, fixI]
  | x :: l, j + 1, a => by
    rw [List.modify_succ_cons, List.flatMap_cons, List.flatMap_cons, ← flat_fix l j a, List.set_append_right _ _ (by simp [Ins.cells]; omega)]
    congr 2
    simp [Ins.cells]; omega
theorem places_cell {w : World} {B g n cap : Nat} {ps : List Place} (h : w.ownsRow B 86 3 (.slice (some ⟨g, 0, none⟩) n cap) n (ps.flatMap Place.cells)) {i : Nat} {x : Place} (hx : ps[i]? = some x) (r : Nat) (hr : r < 3) :
    w.cell? ⟨g, i * 3 + r, none⟩ = x.cells[r]? := by
  have hl := (List.getElem?_eq_some_iff.1 hx).1
  have hn : ps.length * 3 = n * 3 := by
    rw [← h.1, List.length_flatMap]
    have : ps.map (fun a => a.cells.length) = List.replicate ps.length 3 := by
      rw [show (fun a : Place => a.cells.length) = fun _ => 3 from rfl, List.map_const']
    rw [this, List.sum_replicate_nat]
  rw [h.cellAt _ (by omega), flat_get Place.cells 3 ps (fun _ _ => rfl) i r x hx hr]
theorem ins_flat_len (p : List Ins) : (p.flatMap Ins.cells).length = p.length * 4 := by
  rw [List.length_flatMap]
  have : p.map (fun a => a.cells.length) = List.replicate p.length 4 := by
    rw [show (fun a : Ins => a.cells.length) = fun _ => 4 from rfl, List.map_const']
  rw [this, List.sum_replicate_nat]

theorem SheetAt.setOther {B b m i : Nat} {s : Sheet} {pv mv gv : Value} {W : World} {g : Nat} {cs : Array Value} {t : TypeId} {fr : Nat × Nat} (h : SheetAt B b m s pv mv gv W) (hg : Ob W g (.cells cs t fr)) (h1 : t ≠ 57) (h2 : t ≠ 86) (h3 : t ≠ 77) (u : Value) :
    SheetAt B b m s pv mv gv (W.setCell ⟨g, i, none⟩ u) := by
  have hgb : b ≠ g := by
    rintro rfl
    have := h.ob.eq hg
    injection this with _ h4
    exact h3 h4.symm
  exact ⟨h.hb, h.hm, h.ob.farB hgb u, own_setB h.op (own_ne h.op hg (by intro _ _ e; injection e with _ e; exact h1 e)) u, own_setB h.om (own_ne h.om hg (by intro _ _ e; injection e with _ e; exact h2 e)) u,
    own_setB h.og (own_ne h.og hg (by intro _ _ e; injection e with _ e; exact h2 e)) u, h.nm.setCell (a := ⟨g, i, none⟩) (Ne.symm (ob_map_ne hg h.nm)) u, h.ne, h.ap, h.lp⟩
/-- A goal's number is laid into the instruction. -/
theorem SheetAt.fixed {B b m gp j cp n : Nat} {s : Sheet} {p : List Ins} {mv gv : Value} {W : World} (h : SheetAt B b m { s with prog := p } (.slice (some ⟨gp, 0, none⟩) n cp) mv gv W) (hn : n = p.length) (a : Int) :
    SheetAt B b m { s with prog := p.modify j fun x => fixI x a } (.slice (some ⟨gp, 0, none⟩) n cp) mv gv (W.setCell ⟨gp, j * 4 + 1, none⟩ (.int .i64 a)) := by
  subst hn
  obtain ⟨h1, h2⟩ := h.op.stored (j * 4 + 1) (.int .i64 a)
  have h3 : OwnI (W.setCell ⟨gp, j * 4 + 1, none⟩ (.int .i64 a)) B (.slice (some ⟨gp, 0, none⟩) p.length cp) (p.modify j fun x => fixI x a) := by
    unfold OwnI
    rw [← flat_fix, List.length_modify]
    exact h1
  exact ⟨h.hb, h.hm, h.ob.grown h2 (Ne.symm (own_ne h.op h.ob (by intro _ _ e; cases e))), h3, h.om.kept h2 (own_kinds h.om h.op (by decide)), h.og.kept h2 (own_kinds h.og h.op (by decide)), h.nm.kept h2 (fun e => own_map_ne h.op h.nm e.symm), h.ne, h.ap, by
    have := h.lp
    show (p.modify j fun x => fixI x a).length ≤ 48
    rw [List.length_modify]; exact this⟩

set_option maxRecDepth 100000 in
set_option maxHeartbeats 1000000 in
theorem read_short (text : List UInt8) (hl : text.length ≤ 4096) (w : World) (hg : Gl w) : Calls Tryd.prog 30 #[S text] w (ReadPost text w) := by
  have hmm := @run_makeMap Tryd.prog
  refine (callsIn_wide (n := 10)).1 ?_
  refine callsIn_of_wp_marks Tryd.func30 rfl trivial ?_ rfl
  simp only [Tryd.ntmps30, List.size_toArray, List.length_cons, List.length_nil, Nat.reduceAdd, Nat.reduceSub, Array.replicate_succ, Array.replicate_zero, List.push_toArray, List.append_toArray, List.nil_append, List.cons_append]
  refine wpIn_wide.2 ?_
  have hl3 : ¬ (4096 : Int) < text.length := by omega
  go_wp2_with (go_at_call 42; refine (lines_any _ _).mono ?_; rintro e w' ⟨rfl, rfl⟩)
  refine forget (fun W => RdI w [] W ∧ Ob W (w.heap.size + 1 + 1 + 1 + 1 + 1 + 1) (.cells #[S text] 9) ∧ W.heap.size = w.heap.size + 7) ⟨⟨Sheet.empty, rfl, new_sheet (by omega) (by omega) ?_ ?_, ?_, ?_, ?_, ?_, ?_⟩, ?_, ?_⟩ ?_
  · repeat first | exact Ob.new' _ (by simp) | refine Ob.alloc ?_ _
  · repeat first | exact names_made (by simp) | refine World.ownsMap.alloc ?_ _
  · repeat first | exact Ob.new' _ (by simp) | refine Ob.alloc ?_ _
  · repeat first | exact Ob.new' _ (by simp) | refine Ob.alloc ?_ _
  · repeat first | exact Ob.new' _ (by simp) | refine Ob.alloc ?_ _
  · repeat first | exact Ob.new' _ (by simp) | refine Ob.alloc ?_ _
  · repeat first | exact Below.refl _ _ | refine below_made ?_ (Nat.le_refl _) _
  · repeat first | exact Ob.new' _ (by simp) | refine Ob.alloc ?_ _
  · simp
  rintro W0 ⟨hI0, hbox, hsz⟩
  clear hmm
  refine (wpIn_wide (n := 10)).1 ?_
  refine wpIn_rangeFunc_ownG rfl (by omega) (gf := 54) (lb := #[.pointer (some ⟨w.heap.size + 1 + 1 + 1 + 1 + 1 + 1, 0, none⟩)]) rfl trivial (enters_of Tryd.func54 (by kernel_rfl) rfl)
    (lines_stops (10 - 1) (by omega) (w.heap.size + 1 + 1 + 1 + 1 + 1 + 1) text hl W0 (hg.belowH hI0.choose_spec.2.2.be) hbox) keepT_t (fun W l o o' _ hl ho _ => keepT_b W l o o' hl ho) (Below.refl _ _) (fun _ => rfl)
    (RdI w) (RdX w) (hsz ▸ rdI_own w) (fun c => hsz ▸ rdX_own w c) hI0
    (fun x => { tmps := #[S text, undef, .pointer (some ⟨w.heap.size, 0, none⟩), .pointer (some ⟨w.heap.size + 1, 0, none⟩), .pointer (some ⟨w.heap.size + 1 + 1, 0, none⟩), .pointer (some ⟨w.heap.size + 1 + 1 + 1 + 1 + 1, 0, none⟩), .int .i64 (x.1 : Int), S (x.2.take 4096), undef, undef, undef, undef, S text, .int .i64 (text.length : Int), .bool false, .map (some (w.heap.size + 1 + 1 + 1)), .agg #[.slice none 0 0, .slice none 0 0, .map (some (w.heap.size + 1 + 1 + 1)), .slice none 0 0], .pointer (some ⟨w.heap.size + 1 + 1 + 1 + 1, 0, none⟩), S text, .func (.func 54) #[] #[.pointer (some ⟨w.heap.size + 1 + 1 + 1 + 1 + 1 + 1, 0, none⟩)], .int .i64 (x.1 : Int), S (x.2.take 4096), undef, undef, undef, undef, undef, undef, undef, undef, undef, undef, undef, undef, undef, undef, undef, undef, undef, undef, undef, undef, undef, undef, undef, undef, undef, undef, undef, undef, undef, undef, undef, undef, undef, undef, undef, undef, undef, undef, undef, undef], defers := [] }) ?assign ?body ?done ?stop
  case assign =>
    intro l x W K hK
    gi_wp2
    exact hK
  case body =>
    rintro l pre x W ⟨s, hs, hS, hF⟩ hlt
    obtain ⟨pv, mv, gv, hSA⟩ := hS
    have hok := (runS_ok pre s hs).few
    have htk := take_any w.heap.size (w.heap.size + 1 + 1 + 1 + 1) (w.heap.size + 1 + 1 + 1) s (x.1 : Int) (x.2.take 4096) (by simp; omega) (by omega) (by omega) W (hg.belowH hF.be) ⟨pv, mv, gv, hSA⟩
    have cS : W.cell? ⟨w.heap.size + 1 + 1 + 1 + 1 + 1, 0, none⟩ = some (.pointer (some ⟨w.heap.size + 1 + 1 + 1 + 1, 0, none⟩)) := hF.sp.cell 0
    have HF := Lib.hid hF; have HS := Lib.hid hSA; have HR := Lib.hid hs
    clear hF hSA hs hok hI0
    gi_wp2_with fail
    refine ⟨trivial, (CallsIn.inRound l (callsIn_wide.2 htk)).mono ?_⟩
    rintro e W1 ⟨hsp, hbe, hm⟩
    have HF1 : Hid (RdFrame w (.pointer none) (.int .i64 0) (.int .i64 0) W1) := Lib.hid ⟨?_, ?_, ?_, ?_, HF.out.be.trans hbe⟩
    rotate_left
    · exact hsp.kept _ _ HF.out.r0 (by omega) (by omega) (by intro _ _ e; cases e) (by intro _ _ e; cases e)
    · exact hsp.kept _ _ HF.out.r1 (by omega) (by omega) (by intro _ _ e; cases e) (by intro _ _ e; cases e)
    · exact hsp.kept _ _ HF.out.r2 (by omega) (by omega) (by intro _ _ e; cases e) (by intro _ _ e; cases e)
    · exact hsp.kept _ _ HF.out.sp (by omega) (by omega) (by intro _ _ e; cases e) (by intro _ _ e; cases e)
    have HKF := Lib.hid (hsp.from (B := W0.heap.size) (by omega) (by omega))
    have HKT := Lib.hid (hsp.keepT HS.out)
    clear htk cS hsp hbe
    cases ht : takeS s (x.1 : Int) (x.2.take 4096) with
    | none =>
      rw [ht] at hm
      obtain rfl := hm
      have HTK := Lib.hid ht
      clear ht
      have c0 : W1.cell? ⟨w.heap.size, 0, none⟩ = some (.pointer none) := HF1.out.r0.cell 0
      have c1 : W1.cell? ⟨w.heap.size + 1, 0, none⟩ = some (.int .i64 0) := HF1.out.r1.cell 0
      have c2 : W1.cell? ⟨w.heap.size + 1 + 1, 0, none⟩ = some (.int .i64 0) := HF1.out.r2.cell 0
      have f0 : W1.frozen? ⟨w.heap.size, 0, none⟩ = false := HF1.out.r0.frozen 0
      have f1 : W1.frozen? ⟨w.heap.size + 1, 0, none⟩ = false := HF1.out.r1.frozen 0
      have f2 : W1.frozen? ⟨w.heap.size + 1 + 1, 0, none⟩ = false := HF1.out.r2.frozen 0
      gi_wp2
      exact ⟨HKF.out.trans (keeps_three _ _ _), rfl, pre, x, s, rfl, HR.out, HTK.out, HF1.out.three _ _ _⟩
    | some s' =>
      rw [ht] at hm
      obtain ⟨rfl, hS'⟩ := hm
      have HTK := Lib.hid ht
      have HS' := Lib.hid hS'
      clear ht hS'
      gi_wp2
      exact ⟨HKF.out, HKT.out, s', by rw [runS_snoc, HR.out]; exact HTK.out, HS'.out, HF1.out⟩
  case stop =>
    rintro D c pre W hD hpre ⟨rfl, p, x, s, rfl, hs, hx, hF⟩ hK
    have hrd : readS text = .inl ((x.1 : Int), 60) := by
      rw [readS, if_neg (by omega), walk_stop hs hx hpre]
    gi_wp2
    refine ⟨by simp, .inl ⟨_, _, rfl, run_takeDeferred hK, ?_⟩⟩
    have hF' : RdFrame w (.pointer none) (.int .i64 (x.1 : Int)) (.int .i64 60) (W.putObj D (.deferred none)) := hF.kept (grownBy_putObj' W D _) (fun r e => by cases e; omega)
    have c0 := hF'.r0.cell 0
    have c1 := hF'.r1.cell 0
    have c2 := hF'.r2.cell 0
    refine ⟨.tuple #[.pointer none, .int .i64 (x.1 : Int), .int .i64 60], ?_, hF'.be, ?_⟩
    · simp [results, Tryd.results30, go_sem, c0, c1, c2]
    · rw [hrd]
  case done =>
    rename_i K hKK
    rintro D ys W hD rfl ⟨s, hs, ⟨pv, mv, gv, hSA⟩, hF⟩ hK
    have hrd : readS text = endS s := by rw [readS, if_neg (by omega), runS_walk _ _ hs]
    have hok := runS_ok _ s hs
    have hgl : s.goals.length ≤ 5000 := by
      have h1 := hok.few
      have h2 := numL_len (pieces 10 text) 1
      have h3 := (pieces_len 10 text).2
      have h4 : (linesOf text).length = (numL 1 (pieces 10 text)).length := rfl
      omega
    have HRD := Lib.hid hrd
    have HIN := Lib.hid hok.inside
    have HNA := Lib.hid hok.named
    obtain ⟨Ag, cg, rfl⟩ := own_slice hSA.og
    have cS : W.cell? ⟨w.heap.size + 1 + 1 + 1 + 1 + 1, 0, none⟩ = some (.pointer (some ⟨w.heap.size + 1 + 1 + 1 + 1, 0, none⟩)) := hF.sp.cell 0
    have c3 : W.cell? ⟨w.heap.size + 1 + 1 + 1 + 1, 3, none⟩ = some (.slice Ag s.goals.length cg) := hSA.ob.cell 3
    have HF := Lib.hid hF; have HS := Lib.hid hSA; have HK := Lib.hid (show Ob W D _ from hK)
    clear hF hSA hs hok hI0 hrd hK hbox
    refine hKK _ _ ?_
    go_wp2
    go_loopw [33] (fun v33 wr => ∃ (k : Nat) (p : List Ins) (pv' : Value), k ≤ s.goals.length ∧ v33 = .int .i64 k ∧ p.length = s.prog.length ∧ Hid (SheetAt w.heap.size (w.heap.size + 1 + 1 + 1 + 1) (w.heap.size + 1 + 1 + 1) { s with prog := p } pv' mv (.slice Ag s.goals.length cg) wr) ∧
        Hid (RdFrame w (.pointer none) (.int .i64 0) (.int .i64 0) wr) ∧ Hid (Ob wr D (.deferred (some []))) ∧ Hid (goalsS s.marks s.prog s.goals = goalsS s.marks p (s.goals.drop k)))
      (fun v33 wr => s.goals.length - (intOf v33).toNat)
    case atStart => exact ⟨0, s.prog, pv, by omega, rfl, rfl, HS, HF, HK, rfl⟩
    case round =>
      clear HS HF HK cS c3
      obtain ⟨k, p, pv', hk, rfl, hpl, HS, HF, HK, HG⟩ := hrel
      have cS : wr.cell? ⟨w.heap.size + 1 + 1 + 1 + 1 + 1, 0, none⟩ = some (.pointer (some ⟨w.heap.size + 1 + 1 + 1 + 1, 0, none⟩)) := HF.out.sp.cell 0
      by_cases hlt : k < s.goals.length
      · obtain ⟨g, hg1⟩ : ∃ g, s.goals[k]? = some g := ⟨_, List.getElem?_eq_getElem hlt⟩
        obtain ⟨hp0, hp1⟩ := HIN.out g (List.mem_of_getElem? hg1)
        obtain ⟨j, hj⟩ : ∃ j : Nat, g.pos = j := ⟨g.pos.toNat, by omega⟩
        have hjl : j < p.length := by omega
        obtain ⟨gg, cg', hAg, hgB, hgl2⟩ := HS.out.og.form (show 0 < s.goals.length by omega)
        injection hAg with hAg _ hcg
        subst hAg hcg
        obtain ⟨gp, cp, rfl, hpB, hpl2⟩ := HS.out.op.form (show 0 < p.length by omega)
        have q0 : wr.cell? ⟨gg, k * 3 + 0, none⟩ = some (S g.name) := places_cell HS.out.og hg1 0 (by omega)
        have q1 : wr.cell? ⟨gg, k * 3 + 1, none⟩ = some (.int .i64 g.line) := places_cell HS.out.og hg1 1 (by omega)
        have q2 : wr.cell? ⟨gg, k * 3 + 2, none⟩ = some (.int .i64 g.pos) := places_cell HS.out.og hg1 2 (by omega)
        rw [Nat.add_zero] at q0
        have HG1 := Lib.hid hg1
        clear hg1 hp0 hp1
        go_wp2_with fail
        have hnl : g.name.length ≤ 9223372036854775807 := by have := name_len (HNA.out g (List.mem_of_getElem? HG1.out)); omega
        refine forget (fun wo => SheetAt w.heap.size (w.heap.size + 1 + 1 + 1 + 1) (w.heap.size + 1 + 1 + 1) { s with prog := p } (.slice (some ⟨gp, 0, none⟩) s.prog.length cp) mv (.slice (some ⟨gg, 0, none⟩) s.goals.length cg) wo ∧ RdFrame w (.pointer none) (.int .i64 0) (.int .i64 0) wo ∧ Ob wo D (.deferred (some [])) ∧ Ob wo wr.heap.size (.cells #[S g.name, .int .i64 g.line, .int .i64 (j : Int)] 86))
          ⟨hpl ▸ HS.out.belowH ((Below.refl _ _).alloc (Nat.le_refl _) _), HF.out.kept (World.grownBy_alloc wr _ none) (fun r e => by cases e), HK.out.alloc _, Ob.new _ _⟩ ?_
        clear q0 q1 q2 cS HS HF HK
        rintro wo ⟨hS, hF, hK, hP⟩
        have cS : wo.cell? ⟨w.heap.size + 1 + 1 + 1 + 1 + 1, 0, none⟩ = some (.pointer (some ⟨w.heap.size + 1 + 1 + 1 + 1, 0, none⟩)) := hF.sp.cell 0
        have s0 : wo.cell? ⟨w.heap.size + 1 + 1 + 1 + 1, 0, none⟩ = some (.slice (some ⟨gp, 0, none⟩) s.prog.length cp) := hS.ob.cell 0
        have s2 : wo.cell? ⟨w.heap.size + 1 + 1 + 1 + 1, 2, none⟩ = some (.map (some (w.heap.size + 1 + 1 + 1))) := hS.ob.cell 2
        have p0 : wo.cell? ⟨wr.heap.size, 0, none⟩ = some (S g.name) := hP.cell 0
        have p1 : wo.cell? ⟨wr.heap.size, 1, none⟩ = some (.int .i64 g.line) := hP.cell 1
        have p2 : wo.cell? ⟨wr.heap.size, 2, none⟩ = some (.int .i64 (j : Int)) := hP.cell 2
        have hlk : ∀ nq, (Instr.lookup 75 (.map (some (w.heap.size + 1 + 1 + 1))) (S g.name) true).run Tryd.prog (wo.drewN nq) = .ok (.tuple #[.int .i64 (lookN s.marks g.name), .bool (hasMark s.marks g.name)]) (wo.drewN nq) := fun nq => look_names hS.ap hnl (w := wo.drewN nq) hS.nm
        have HS := Lib.hid hS; have HF := Lib.hid hF; have HK := Lib.hid hK; have HP := Lib.hid hP
        clear hS hF hK hP
        by_cases hh : hasMark s.marks g.name = true
        · rw [hh] at hlk
          have HH := Lib.hid hh
          clear hh
          go_quiet (fail)
          go_wp2_with fail
          refine forget (fun wo => SheetAt w.heap.size (w.heap.size + 1 + 1 + 1 + 1) (w.heap.size + 1 + 1 + 1) { s with prog := p } (.slice (some ⟨gp, 0, none⟩) s.prog.length cp) mv (.slice (some ⟨gg, 0, none⟩) s.goals.length cg) wo ∧ RdFrame w (.pointer none) (.int .i64 0) (.int .i64 0) wo ∧ Ob wo D (.deferred (some [])) ∧ Ob wo wr.heap.size (.cells #[S g.name, .int .i64 g.line, .int .i64 (j : Int)] 86))
            ⟨HS.out.drewN nq, HF.out.drewN nq, HK.out.drewN nq, HP.out.drewN nq⟩ ?_
          clear cS s0 s2 p0 p1 p2 hlk HS HF HK HP
          rintro w2 ⟨hS, hF, hK, hP⟩
          have cS : w2.cell? ⟨w.heap.size + 1 + 1 + 1 + 1 + 1, 0, none⟩ = some (.pointer (some ⟨w.heap.size + 1 + 1 + 1 + 1, 0, none⟩)) := hF.sp.cell 0
          have s0 : w2.cell? ⟨w.heap.size + 1 + 1 + 1 + 1, 0, none⟩ = some (.slice (some ⟨gp, 0, none⟩) s.prog.length cp) := hS.ob.cell 0
          have p2 : w2.cell? ⟨wr.heap.size, 2, none⟩ = some (.int .i64 (j : Int)) := hP.cell 2
          have hop : OwnI w2 w.heap.size (.slice (some ⟨gp, 0, none⟩) p.length cp) p := by
            have := hS.op
            rw [← hpl] at this
            exact this
          have i0 : w2.cell? ⟨gp, j * 4 + 1, none⟩ = some (.int .i64 p[j].a) := by
            rw [hop.cellAt _ (by omega), flat_get Ins.cells 4 p (fun _ _ => rfl) j 1 p[j] (List.getElem?_eq_getElem hjl) (by omega)]
            rfl
          have fz : w2.frozen? ⟨gp, j * 4 + 1, none⟩ = false := hop.frozenAt _
          have HOP := Lib.hid hop
          clear hop
          have HS := Lib.hid hS; have HF := Lib.hid hF; have HK := Lib.hid hK; have HP := Lib.hid hP
          clear hS hF hK hP
          go_region
          go_wp2
          obtain ⟨csp, fsp, hgp⟩ := own_kind HOP.out gp rfl
          have hgp' : Ob w2 gp (.cells csp 57 fsp) := hgp
          have hS' := (HS.out.fixed hpl.symm (j := j) (lookN s.marks g.name)).drew
          have hF' := (HF.out.far (i := j * 4 + 1) (ob_ne hgp' HF.out.r0 (by intro e; injection e with _ e; cases e)) (ob_ne hgp' HF.out.r1 (by intro e; injection e with _ e; cases e)) (ob_ne hgp' HF.out.r2 (by intro e; injection e with _ e; cases e)) (ob_ne hgp' HF.out.sp (by intro e; injection e with _ e; cases e)) hpB (.int .i64 (lookN s.marks g.name))).drew
          have hK' := (HK.out.farB (b := gp) (i := j * 4 + 1) (ob_ne HK.out hgp' (by intro e; cases e)) (.int .i64 (lookN s.marks g.name))).drew
          have hgs : goalsS s.marks s.prog s.goals = goalsS s.marks (p.modify j fun x => fixI x (lookN s.marks g.name)) (s.goals.drop (k + 1)) := by
            rw [HG.out, goalsS_drop HG1.out, if_pos HH.out, hj, lookN, if_pos HH.out]
            rfl
          go_roundw
          case rel => exact ⟨k + 1, _, _, by omega, by go_num, by rw [List.length_modify]; exact hpl, hS', hF', hK', hgs⟩
          case measure => simp [intOf]; omega
        · have hh' : hasMark s.marks g.name = false := by simpa using hh
          rw [hh'] at hlk
          have HH := Lib.hid hh'
          clear hh hh'
          go_quiet (fail)
          go_wp2_with fail
          refine forget (fun wo => SheetAt w.heap.size (w.heap.size + 1 + 1 + 1 + 1) (w.heap.size + 1 + 1 + 1) { s with prog := p } (.slice (some ⟨gp, 0, none⟩) s.prog.length cp) mv (.slice (some ⟨gg, 0, none⟩) s.goals.length cg) wo ∧ RdFrame w (.pointer none) (.int .i64 0) (.int .i64 0) wo ∧ Ob wo D (.deferred (some [])) ∧ Ob wo wr.heap.size (.cells #[S g.name, .int .i64 g.line, .int .i64 (j : Int)] 86))
            ⟨HS.out.drewN nq, HF.out.drewN nq, HK.out.drewN nq, HP.out.drewN nq⟩ ?_
          clear cS s0 s2 p0 p1 p2 hlk HS HF HK HP
          rintro w2 ⟨hS, hF, hK, hP⟩
          have cS : w2.cell? ⟨w.heap.size + 1 + 1 + 1 + 1 + 1, 0, none⟩ = some (.pointer (some ⟨w.heap.size + 1 + 1 + 1 + 1, 0, none⟩)) := hF.sp.cell 0
          have s0 : w2.cell? ⟨w.heap.size + 1 + 1 + 1 + 1, 0, none⟩ = some (.slice (some ⟨gp, 0, none⟩) s.prog.length cp) := hS.ob.cell 0
          have p1 : w2.cell? ⟨wr.heap.size, 1, none⟩ = some (.int .i64 g.line) := hP.cell 1
          have c0 : w2.cell? ⟨w.heap.size, 0, none⟩ = some (.pointer none) := hF.r0.cell 0
          have c1 : w2.cell? ⟨w.heap.size + 1, 0, none⟩ = some (.int .i64 0) := hF.r1.cell 0
          have c2 : w2.cell? ⟨w.heap.size + 1 + 1, 0, none⟩ = some (.int .i64 0) := hF.r2.cell 0
          have f0 : w2.frozen? ⟨w.heap.size, 0, none⟩ = false := hF.r0.frozen 0
          have f1 : w2.frozen? ⟨w.heap.size + 1, 0, none⟩ = false := hF.r1.frozen 0
          have f2 : w2.frozen? ⟨w.heap.size + 1 + 1, 0, none⟩ = false := hF.r2.frozen 0
          have HS := Lib.hid hS; have HF := Lib.hid hF; have HK := Lib.hid hK; have HP := Lib.hid hP
          clear hS hF hK hP
          go_region
          go_wp2
          have he : endS s = .inl (g.line, 5) := by
            rw [endS, HG.out, goalsS_drop HG1.out, if_neg (by rw [HH.out]; simp)]
          have hF' := HF.out.three (.pointer none) (.int .i64 g.line) (.int .i64 5)
          have hK' := (((HK.out.farB (b := w.heap.size) (i := 0) (by omega) (.pointer none)).farB (b := w.heap.size + 1) (i := 0) (by omega) (.int .i64 g.line)).farB (b := w.heap.size + 1 + 1) (i := 0) (by omega) (.int .i64 5)).drew
          refine ⟨by simp, .inl ⟨_, _, rfl, run_takeDeferred hK', ?_⟩⟩
          have hF2 := (hF'.drew).kept (grownBy_putObj' _ D (.deferred none)) (fun r e => by cases e; omega)
          clear c0 c1 c2
          have c0 := hF2.r0.cell 0
          have c1 := hF2.r1.cell 0
          have c2 := hF2.r2.cell 0
          refine ⟨.tuple #[.pointer none, .int .i64 g.line, .int .i64 5], ?_, hF2.be, ?_⟩
          · simp [results, Tryd.results30, go_sem, c0, c1, c2]
          · rw [HRD.out, he]
      · have hkl : k = s.goals.length := by omega
        subst hkl
        have he : endS s = .inr { s with prog := p } := by
          rw [endS, HG.out, List.drop_length, goalsS]
        have HE := Lib.hid (HRD.out.trans he)
        clear he hlt
        have c0 : wr.cell? ⟨w.heap.size, 0, none⟩ = some (.pointer none) := HF.out.r0.cell 0
        have c1 : wr.cell? ⟨w.heap.size + 1, 0, none⟩ = some (.int .i64 0) := HF.out.r1.cell 0
        have c2 : wr.cell? ⟨w.heap.size + 1 + 1, 0, none⟩ = some (.int .i64 0) := HF.out.r2.cell 0
        have f0 : wr.frozen? ⟨w.heap.size, 0, none⟩ = false := HF.out.r0.frozen 0
        have f1 : wr.frozen? ⟨w.heap.size + 1, 0, none⟩ = false := HF.out.r1.frozen 0
        have f2 : wr.frozen? ⟨w.heap.size + 1 + 1, 0, none⟩ = false := HF.out.r2.frozen 0
        go_wp2
        have hF' := (HF.out.three (.pointer (some ⟨w.heap.size + 1 + 1 + 1 + 1, 0, none⟩)) (.int .i64 0) (.int .i64 0))
        have hK' := (((HK.out.farB (b := w.heap.size) (i := 0) (by omega) (.pointer (some ⟨w.heap.size + 1 + 1 + 1 + 1, 0, none⟩))).farB (b := w.heap.size + 1) (i := 0) (by omega) (.int .i64 0)).farB (b := w.heap.size + 1 + 1) (i := 0) (by omega) (.int .i64 0))
        have hS' := ((HS.out.setOther (i := 0) HF.out.r0 (by decide) (by decide) (by decide) (.pointer (some ⟨w.heap.size + 1 + 1 + 1 + 1, 0, none⟩))).setOther (i := 0) (HF.out.r1.farB (by omega) _) (by decide) (by decide) (by decide) (.int .i64 0)).setOther (i := 0) ((HF.out.r2.farB (by omega) _).farB (by omega) _) (by decide) (by decide) (by decide) (.int .i64 0)
        refine ⟨by simp, .inl ⟨_, _, rfl, run_takeDeferred hK', ?_⟩⟩
        have hF2 := hF'.kept (grownBy_putObj' _ D (.deferred none)) (fun r e => by cases e; omega)
        have hS2 := hS'.kept (grownBy_putObj' _ D (.deferred none)) (fun r e => by cases e; exact ⟨by omega, by omega, _, hK', rfl⟩)
        clear c0 c1 c2
        have c0 := hF2.r0.cell 0
        have c1 := hF2.r1.cell 0
        have c2 := hF2.r2.cell 0
        refine ⟨.tuple #[.pointer (some ⟨w.heap.size + 1 + 1 + 1 + 1, 0, none⟩), .int .i64 0, .int .i64 0], ?_, hF2.be, ?_⟩
        · simp [results, Tryd.results30, go_sem, c0, c1, c2]
        · rw [HE.out]
          exact ⟨_, _, rfl, _, _, _, hS2⟩
end Go.Proofs.YtiegkhoidabkhaaDoor
