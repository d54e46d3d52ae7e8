/- (*label.sheet).take: the words of memory. -/
import Derived.Test.YtiegkhoidabkhaaDoorA12
import Derived.Test.YtiegkhoidabkhaaDoorB8
import Derived.Maps.OwnSet
import Derived.Deep.RegionHeld3
import Derived.Deep.AppendLies
namespace Go.Proofs.YtiegkhoidabkhaaDoor
open Go.Shelf Go.RowKit Go.Maps

def Place.cells (p : Place) : List Value := [S p.name, .int .i64 p.line, .int .i64 p.pos]
theorem ins_one (x : Ins) : ∀ u ∈ x.cells, u.oneCell' = true := by intro u hu; simp [Ins.cells] at hu; rcases hu with rfl | rfl | rfl | rfl <;> rfl
theorem place_one (x : Place) : ∀ u ∈ x.cells, u.oneCell' = true := by intro u hu; simp [Place.cells] at hu; rcases hu with rfl | rfl | rfl <;> rfl
theorem info57 : (Tryd.prog.info? 57).map (fun i => (i.zero, i.size, i.bytes)) = some (some (.agg #[.int .i64 0, .int .i64 0, .int .i64 0, .int .i64 0]), 4, 32) := by kernel_rfl
theorem info86 : (Tryd.prog.info? 86).map (fun i => (i.zero, i.size, i.bytes)) = some (some (.agg #[S [], .int .i64 0, .int .i64 0]), 3, 32) := by kernel_rfl
abbrev OwnI (w : World) (B : Nat) (v : Value) (p : List Ins) : Prop := w.ownsRow B 57 4 v p.length (p.flatMap Ins.cells)
abbrev OwnP (w : World) (B : Nat) (v : Value) (p : List Place) : Prop := w.ownsRow B 86 3 v p.length (p.flatMap Place.cells)

/-- A sheet lies in block b, its names in block m; what is its own lies from B on. -/
structure SheetAt (B b m : Nat) (s : Sheet) (pv mv gv : Value) (w : World) : Prop where
  hb : B ≤ b
  hm : B ≤ m
  ob : Ob w b (.cells #[pv, mv, .map (some m), gv] 77)
  op : OwnI w B pv s.prog
  om : OwnP w B mv s.marks
  og : OwnP w B gv s.goals
  nm : w.ownsMap Tryd.prog 9 (plainElem Tryd.prog 3) m s.marks.length (namesD s.marks)
  ne : mv.ownBlock = none ∨ mv.ownBlock ≠ gv.ownBlock
  ap : Apart s.marks
  lp : s.prog.length ≤ 48
def IsSheet (B b m : Nat) (s : Sheet) (w : World) : Prop := ∃ pv mv gv, SheetAt B b m s pv mv gv w

/-- What a line that is taken leaves alone: each block but the sheet's, its names' and the rows of its kinds. -/
structure Spares (b m : Nat) (w w' : World) : Prop where
  os : w'.os = w.os
  tape : w'.tape = w.tape
  output : w'.output = w.output
  size : w.heap.size ≤ w'.heap.size
  kept : ∀ k o, Ob w k o → k ≠ b → k ≠ m → (∀ cs fr, o ≠ .cells cs 57 fr) → (∀ cs fr, o ≠ .cells cs 86 fr) → Ob w' k o
theorem Spares.refl (b m : Nat) (w : World) : Spares b m w w := ⟨rfl, rfl, rfl, Nat.le_refl _, fun _ _ h _ _ _ _ => h⟩
theorem Spares.trans {b m : Nat} {w w1 w2 : World} (h : Spares b m w w1) (k : Spares b m w1 w2) : Spares b m w w2 :=
  ⟨k.os.trans h.os, k.tape.trans h.tape, k.output.trans h.output, Nat.le_trans h.size k.size, fun i o hi h1 h2 h3 h4 => k.kept i o (h.kept i o hi h1 h2 h3 h4) h1 h2 h3 h4⟩
theorem Spares.below {b m : Nat} {w w1 w2 : World} (h : Spares b m w w1) (k : Below w1.heap.size w1 w2) : Spares b m w w2 :=
  h.trans ⟨k.os, k.tape, k.output, k.size, fun _ _ hi _ _ _ _ => hi.belowH k⟩
theorem Spares.drew {b m : Nat} {w w1 : World} (h : Spares b m w w1) : Spares b m w w1.drew := ⟨h.os, h.tape, h.output, h.size, h.kept⟩
theorem Spares.drewN {b m : Nat} {w w1 : World} (h : Spares b m w w1) (n : Nat) : Spares b m w (w1.drewN n) := ⟨h.os, h.tape, h.output, h.size, h.kept⟩
theorem Spares.alloc {b m : Nat} {w w1 : World} (h : Spares b m w w1) (o : Obj) : Spares b m w (w1.alloc o) := h.below ((Below.refl _ _).alloc (Nat.le_refl _) o)
theorem Spares.set {b m i : Nat} {w w1 : World} (h : Spares b m w w1) (u : Value) : Spares b m w (w1.setCell ⟨b, i, none⟩ u) :=
  h.trans ⟨rfl, rfl, rfl, by simp [World.setCell], fun _ _ hi h1 _ _ _ => hi.farB h1 u⟩
theorem Spares.grown {b m : Nat} {w w1 w2 : World} {row : Option Nat} (h : Spares b m w w1) (hg : w1.grownBy w2 row)
    (hr : ∀ g, row = some g → g = m ∨ ∃ cs fr, w1.heap[g]? = some (.cells cs 57 fr) ∨ w1.heap[g]? = some (.cells cs 86 fr)) : Spares b m w w2 :=
  h.trans ⟨hg.os, hg.tape, hg.output, hg.size, fun i o hi h1 h2 h3 h4 => hi.grown hg (by
    intro e
    rcases hr i e.symm with rfl | ⟨cs, fr, hc | hc⟩
    · exact h2 rfl
    · exact h3 cs fr (hi.eq hc)
    · exact h4 cs fr (hi.eq hc))⟩
theorem own_kind {w : World} {B e sz n : Nat} {v : Value} {xs : List Value} (h : w.ownsRow B e sz v n xs) (g : Nat) (hg : v.ownBlock = some g) : ∃ cs fr, w.heap[g]? = some (.cells cs e fr) := by
  rcases h.2 with ⟨rfl, _⟩ | ⟨g', cap, cur, rfl, _, hh, _⟩
  · simp [Value.ownBlock] at hg
  · have : g' = g := by simpa [Value.ownBlock] using hg
    subst this
    exact ⟨cur, _, hh⟩
theorem own_below {w w1 : World} {base : Nat} {e : TypeId} {size n : Nat} {v : Value} {xs : List Value} (h : w.ownsRow base e size v n xs) (hb : Below w.heap.size w w1) : w1.ownsRow base e size v n xs :=
  h.kept (grown_below hb none) (by cases v.ownBlock <;> simp)
theorem own_lt {w : World} {base : Nat} {e : TypeId} {size n : Nat} {v : Value} {xs : List Value} (h : w.ownsRow base e size v n xs) (k : Nat) (hk : v.ownBlock = some k) : k < w.heap.size := by
  rcases h.2 with ⟨rfl, _⟩ | ⟨g, cap, cur, rfl, hb, hh, _⟩
  · simp [Value.ownBlock] at hk
  · have : g = k := by simpa [Value.ownBlock] using hk
    subst this
    exact (Array.getElem?_eq_some_iff.1 hh).1
/-- A row of one kind is no block of another. -/
theorem own_ne {w : World} {B e sz n g : Nat} {v : Value} {xs : List Value} {o : Obj} (h : w.ownsRow B e sz v n xs) (ho : Ob w g o) (hne : ∀ cs fr, o ≠ .cells cs e fr) : v.ownBlock ≠ some g := by
  intro hg
  obtain ⟨cs, fr, hc⟩ := own_kind h g hg
  exact hne cs fr (ho.eq hc)
theorem SheetAt.belowH {B b m : Nat} {s : Sheet} {pv mv gv : Value} {w w1 : World} (h : SheetAt B b m s pv mv gv w) (hb : Below w.heap.size w w1) : SheetAt B b m s pv mv gv w1 :=
  ⟨h.hb, h.hm, h.ob.belowH hb, own_below h.op hb, own_below h.om hb, own_below h.og hb, h.nm.kept (grown_below hb none) (by simp), h.ne, h.ap, h.lp⟩
theorem parse_any (l : List UInt8) (hl : l.length ≤ 60000) (w : World) (hg : Gl w) :
    Calls Tryd.prog 56 #[S l] w fun e w' => ∃ m g op a b c ok, e = .returned (.tuple #[lineV m g op a b c, .bool ok]) ∧ Below w.heap.size w w' ∧ ParseSay (parseOf l) m g op a b c ok := by
  unfold parseOf
  by_cases hh : l.head? = some 58
  · rw [if_pos hh]
    obtain ⟨r, rfl⟩ : ∃ r, l = 58 :: r := by
      cases l with
      | nil => simp at hh
      | cons c r => exact ⟨r, by simp at hh; rw [hh]⟩
    refine (parse_mark r (by simp at hl; omega) w).mono ?_
    rintro e w' ⟨rfl, hb⟩
    refine ⟨r, [], 0, 0, 0, 0, nameB r, rfl, hb, ?_⟩
    show ParseSay (markOf r) _ _ _ _ _ _ _
    unfold markOf ParseSay
    by_cases hn : nameB r = true
    · simp [hn]
    · have hn' : nameB r = false := by simpa using hn
      simp [hn']
  · rw [if_neg hh]
    exact parse_instr l hh hl w hg
end Go.Proofs.YtiegkhoidabkhaaDoor
