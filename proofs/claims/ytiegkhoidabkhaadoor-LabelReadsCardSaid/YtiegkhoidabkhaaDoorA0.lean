/- The words that all texts of this seat share: what the program's tables hold, and that they hold it still. -/
import Derived.Test.YtiegkhoidabkhaaDoorProg
import Derived.WalkKit
import Derived.Lib.Hide
import Derived.Lib.ItoaNum
import Derived.Lib.LaidTab
import Derived.Lib.OthersKept
import Derived.Laws.OwnMore
import Derived.Deep.AppendLies
import Derived.ChangeAgain
import Derived.Deep.Draws
namespace Go.Proofs.YtiegkhoidabkhaaDoor
open Go.RowKit

def wordL : List (List UInt8) := [[104, 97, 108, 116], [99, 111, 110, 115, 116], [97, 100, 100], [106, 117, 109, 112], [98, 101, 103, 105, 110], [101, 110, 100], [108, 111, 97, 100], [115, 116, 111, 114, 101], [114, 101, 97, 100], [119, 114, 105, 116, 101], [99, 114, 101, 97, 116, 101], [114, 101, 109, 111, 118, 101], [114, 101, 110, 97, 109, 101], [99, 117, 116], [114, 101, 99, 118], [115, 101, 110, 100], [99, 111, 109, 109, 105, 116], [97, 98, 111, 114, 116], [111, 112, 101, 110], [114, 101, 116, 114, 121], [101, 108, 115, 101], [105, 110, 101, 118]]
def shapeL : List (List UInt8) := [[], [110, 110], [110, 110], [103, 110, 110], [], [], [110, 110], [110, 110], [110, 110, 110], [110, 110, 110], [110], [110], [110, 110], [110, 110], [110, 110], [110, 110], [110, 110], [110], [110, 110], [], [103], []]
def strs (l : List (List UInt8)) : Array Value := (l.map fun s => Value.string ⟨s.toArray⟩).toArray

/-- What the package-level variables hold that this seat's functions read. -/
structure Gl (w : World) : Prop where
  shapes : ∃ fr, w.heap[0]? = some (.cells (strs shapeL) 91 fr)
  words : ∃ fr, w.heap[1]? = some (.cells (strs wordL) 91 fr)
  pow : Lib.TabIs Tryd.prog w "internal/strconv.uint64pow10" .u64 Lib.pow10Tab
  syn : ∃ tp p, w.var? Tryd.prog "strconv.ErrSyntax" = some #[.iface tp p]
  rng : ∃ tp p, w.var? Tryd.prog "strconv.ErrRange" = some #[.iface tp p]
  len : ∃ m, w.cell? ⟨2, 0, none⟩ = some (.int .i64 m)

theorem run_index_arr {P : Program} (w : World) (t e : TypeId) (n : Nat) (cs : Array Value) (k : IntKind) (i : Int) (v : Value) (h : P.underlying t = some (.array n e)) (h0 : 0 ≤ i) (h1 : i < n) (hs : (P.info? e).map (·.size) = some 1) (hb : P.underlying e = some .string) (hv : cs[i.toNat]? = some v) :
    (Instr.index t (.agg cs) (.int k i)).run P w = .ok v w := by
  cases hq : P.info? e with
  | none => simp [hq] at hs
  | some inf =>
    have hs' : inf.size = 1 := by simpa [hq] using hs
    have hagg : (isAgg e).run P w = .ok false w := by
      unfold isAgg
      rw [Sem.run_bind, run_underlying hb w]
      rfl
    simp [Instr.index, run_underlying h, asIntOf, h0, h1, go_sem, sizeOf, typeInfo, hq, hs', hagg, hv]

theorem ret_int {k : IntKind} {a b : Int} (h : a = b) : Ending.returned (.int k a) = .returned (.int k b) := by rw [h]
theorem var_block {P : Program} {w w' : World} {n : String} {g : Nat} (hg : P.globalNamed n = some g) (hb : w'.heap[g]? = w.heap[g]?) : w'.var? P n = w.var? P n := by
  simp [World.var?, hg, hb]
theorem gPow : Tryd.prog.globalNamed "internal/strconv.uint64pow10" = some 3 := by kernel_rfl
theorem gSyn : Tryd.prog.globalNamed "strconv.ErrSyntax" = some 8 := by kernel_rfl
theorem gRng : Tryd.prog.globalNamed "strconv.ErrRange" = some 9 := by kernel_rfl
theorem Gl.keep {w w' : World} (h : Gl w) (e : ∀ k, k < 10 → w'.heap[k]? = w.heap[k]?) : Gl w' := by
  obtain ⟨f0, h0⟩ := h.shapes
  obtain ⟨f1, h1⟩ := h.words
  obtain ⟨m, h2⟩ := h.len
  refine ⟨⟨f0, by rw [e 0 (by omega)]; exact h0⟩, ⟨f1, by rw [e 1 (by omega)]; exact h1⟩, ?_, ?_, ?_, ⟨m, ?_⟩⟩
  · have := h.pow
    unfold Lib.TabIs at this ⊢
    rw [var_block gPow (e 3 (by omega))]; exact this
  · obtain ⟨t, p, h⟩ := h.syn
    exact ⟨t, p, by rw [var_block gSyn (e 8 (by omega))]; exact h⟩
  · obtain ⟨t, p, h⟩ := h.rng
    exact ⟨t, p, by rw [var_block gRng (e 9 (by omega))]; exact h⟩
  · rw [← h2]; exact World.cell?_of_block (w := w) (e 2 (by omega))
theorem Gl.size {w : World} (h : Gl w) : 10 ≤ w.heap.size := by
  obtain ⟨t, p, h⟩ := h.rng
  simp only [World.var?, gRng, Option.bind_some] at h
  rcases Nat.lt_or_ge 9 w.heap.size with h' | h'
  · exact h'
  · rw [Array.getElem?_eq_none h'] at h; cases h
theorem Gl.below {B : Nat} {w w' : World} (h : Gl w) (hb : Below B w w') (hB : 10 ≤ B) : Gl w' := h.keep fun k hk => hb.block k (by omega)
theorem Gl.belowH {w w' : World} (h : Gl w) (hb : Below w.heap.size w w') : Gl w' := h.below hb h.size
/-- The world behind a call that made memory for itself. -/
theorem below_then {B : Nat} {w w1 w2 : World} (h : Below B w w1) (hB : B ≤ w1.heap.size) (k : Below w1.heap.size w1 w2) : Below B w w2 := h.trans (k.mono hB)
theorem below_next {w w1 w2 : World} (h : Below w.heap.size w w1) (k : Below w1.heap.size w1 w2) : Below w.heap.size w w2 := below_then h h.size k

theorem own_base {w : World} {base : Nat} {e : TypeId} {size n : Nat} {v : Value} {xs : List Value} (h : w.ownsRow base e size v n xs) (k : Nat) (hk : v.ownBlock = some k) : base ≤ k := by
  rcases h.2 with ⟨rfl, _⟩ | ⟨g, cap, cur, rfl, hb, _⟩
  · simp [Value.ownBlock] at hk
  · have : g = k := by simpa [Value.ownBlock] using hk
    omega
/-- Block g is just o. -/
def Ob (w : World) (g : Nat) (o : Obj) : Prop := w.heap[g]? = some o
section
variable {w w' : World} {g : Nat} {o : Obj}
theorem Ob.lt (h : Ob w g o) : g < w.heap.size := by
  rcases Nat.lt_or_ge g w.heap.size with hlt | hge
  · exact hlt
  · unfold Ob at h; rw [Array.getElem?_eq_none hge] at h; cases h
theorem Ob.new (w : World) (o : Obj) : Ob (w.alloc o) w.heap.size o := heap_alloc_new w o
theorem Ob.new' {w : World} {k : Nat} (o : Obj) (h : k = w.heap.size) : Ob (w.alloc o) k o := by subst h; exact heap_alloc_new w o
theorem Ob.alloc (h : Ob w g o) (o' : Obj) : Ob (w.alloc o') g o := (Below.heap_alloc w o' g h.lt).trans h
theorem Ob.iter (h : Ob w g o) (s : ByteArray) (p : Nat) : Ob (w.iter s p) g o := h.alloc _
theorem Ob.iterNew (w : World) (s : ByteArray) (p : Nat) : Ob (w.iter s p) w.heap.size (.stringIter s p) := heap_alloc_new w _
theorem Ob.iterAt (h : Ob w g o) {k : Nat} (hk : g ≠ k) (s : ByteArray) (p : Nat) : Ob (w.iterAt k s p) g o := (Lib.iterAt_other w k g s p hk).trans h
theorem Ob.iterOn {s : ByteArray} {p : Nat} (h : Ob w g (.stringIter s p)) (p' : Nat) : Ob (w.iterAt g s p') g (.stringIter s p') := Lib.iterAt_heap w g s p p' h
theorem Ob.pos {s : ByteArray} {p : Nat} (h : Ob w g (.stringIter s p)) : w.iterPos g = p := by unfold Ob at h; simp [World.iterPos, h]
theorem Ob.drew (h : Ob w g o) : Ob w.drew g o := h
theorem Ob.drewN (h : Ob w g o) (n : Nat) : Ob (w.drewN n) g o := h
theorem Ob.below {B : Nat} (h : Ob w g o) (hb : Below B w w') (hg : g < B) : Ob w' g o := (hb.block g hg).trans h
theorem Ob.belowH (h : Ob w g o) (hb : Below w.heap.size w w') : Ob w' g o := h.below hb h.lt
theorem Ob.far (h : Ob w g o) {p : Addr} (hp : g ≠ p.block) (u : Value) : Ob (w.setCell p u) g o := (Below.heap_setCell w p u g hp).trans h
theorem Ob.set {cs : Array Value} {t : TypeId} {fr : Nat × Nat} (h : Ob w g (.cells cs t fr)) (i : Nat) (u : Value) : Ob (w.setCell ⟨g, i, none⟩ u) g (.cells (cs.setIfInBounds i u) t fr) := by
  unfold Ob at h ⊢
  simp [World.setCell, Array.getElem?_modify, h]
theorem Ob.cell {cs : Array Value} {t : TypeId} {fr : Nat × Nat} (h : Ob w g (.cells cs t fr)) (i : Nat) : w.cell? ⟨g, i, none⟩ = cs[i]? := cell_of_row w g i cs t fr h
theorem Ob.frozen {cs : Array Value} {t : TypeId} (h : Ob w g (.cells cs t (0, 0))) (i : Nat) : w.frozen? ⟨g, i, none⟩ = false := by
  unfold Ob at h
  simp [World.frozen?, h]
theorem Ob.grown {row : Option Nat} (h : Ob w g o) (hb : w.grownBy w' row) (hg : some g ≠ row) : Ob w' g o := (hb.block g h.lt hg).trans h
theorem Ob.eq {o' : Obj} (h : Ob w g o) (h' : Ob w g o') : o = o' := Option.some.inj (h.symm.trans h')
end

/-- Of the world behind a walk, only what is told of it is carried on. -/
theorem forget {P : Program} {C : Code} {Q : Exit → Act → World → Prop} {a : Act} {W : World} (R : World → Prop) (hR : R W) (h : ∀ wo, R wo → Code.wp P C Q a wo) : Code.wp P C Q a W := h W hR

abbrev S (l : List UInt8) : Value := .string ⟨l.toArray⟩

/-- The number of the first word that a text is. -/
def opOf (s : List UInt8) : Int := match wordL.findIdx? (· == s) with | some i => i | none => -1
theorem opOf_yes (s : List UInt8) (k : Nat) (h : wordL[k]? = some s) (hj : ∀ j, j < k → wordL[j]? ≠ some s) : opOf s = k := by
  have : wordL.findIdx? (· == s) = some k := by
    rw [List.findIdx?_eq_some_iff_getElem]
    obtain ⟨hk, he⟩ := List.getElem?_eq_some_iff.1 h
    exact ⟨hk, by simpa using he, fun j hj' => by
      have := hj j hj'
      rw [List.getElem?_eq_getElem (by omega)] at this
      simpa using this⟩
  rw [opOf, this]
theorem opOf_no (s : List UInt8) (hj : ∀ j, j < 22 → wordL[j]? ≠ some s) : opOf s = -1 := by
  have : wordL.findIdx? (· == s) = none := by
    rw [List.findIdx?_eq_none_iff]
    intro x hx
    obtain ⟨j, hj', he⟩ := List.getElem_of_mem hx
    have := hj j (by simpa [wordL] using hj')
    rw [List.getElem?_eq_getElem hj', he] at this
    simpa using this
  rw [opOf, this]

set_option maxRecDepth 100000 in
theorem op_any (s : List UInt8) (w : World) (hg : Gl w) : Calls Tryd.prog 69 #[S s] w fun e w' => e = .returned (.int .i64 (opOf s)) ∧ w' = w := by
  obtain ⟨fr, hw⟩ := hg.words
  clear hg
  go_enter Tryd.func69, Tryd.ntmps69
  go_wp2_with (first
    | (refine wpList_load_row rfl _ _ rfl 1 rfl 91 (strs wordL) fr _ hw Tryd.underlying91 rfl (by kernel_rfl) ?_))
  go_loop [6] (fun v6 => ∃ k : Nat, k ≤ 22 ∧ v6 = .int .i64 k ∧ ∀ j, j < k → wordL[j]? ≠ some s) (fun v6 => 22 - (intOf v6).toNat)
  case atStart => exact ⟨0, by omega, rfl, fun _ h => absurd h (by omega)⟩
  case round =>
    obtain ⟨k, hk, rfl, hj⟩ := hrel
    have HJ := Lib.hid hj; clear hj
    by_cases hlt : k < 22
    · obtain ⟨x, hx⟩ : ∃ x, wordL[k]? = some x := ⟨wordL[k]'(by simpa [wordL] using hlt), List.getElem?_eq_getElem _⟩
      have hix : (Instr.index 91 (.agg (strs wordL)) (.int .i64 k)).run Tryd.prog w = .ok (.string ⟨x.toArray⟩) w :=
        run_index_arr w 91 9 22 _ _ _ _ Tryd.underlying91 (by omega) (by omega) (by kernel_rfl) Tryd.underlying9 (by simp [strs, hx])
      have HX := Lib.hid hx; clear hx hw
      by_cases he : x = s
      · subst he
        go_wp2
        go_ret
        exact ⟨ret_int (opOf_yes x k HX.out HJ.out).symm, rfl⟩
      · have hb : (x == s) = false := by simp [he]
        have HE := Lib.hid he; clear he
        go_wp2
        go_round
        case rel => exact ⟨k + 1, by omega, by go_num, fun j hj => by
          by_cases h : j = k
          · rw [h, HX.out]; simpa using HE.out
          · exact HJ.out j (by omega)⟩
        case measure => simp [intOf]; omega
    · go_wp2
      go_ret
      exact ⟨ret_int (opOf_no s fun j hj => HJ.out j (by omega)).symm, rfl⟩
end Go.Proofs.YtiegkhoidabkhaaDoor
