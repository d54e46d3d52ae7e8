/- What the rows' listed variables hold. A world for the rows' witnesses. -/
import Derived.Test.YtiegkhoidabkhaaDoorRows
import Derived.Test.YtiegkhoidabkhaaDoorA0
import Derived.Lib.LaidU8
import Derived.Stop.LaidErr
import Derived.Shelf.Vars
import Derived.Deep.DeepHandedRow
import Derived.Deep.DeepWitnessRowRef
namespace Go.Proofs.YtiegkhoidabkhaaDoor
open Go.RowKit

theorem strs_of_tab {H : Type} {enc : TypeId × Value → H} {P : Program} {w : World} {base : Nat} {sp : Nat → Bool} {held : Bool} {fuel : Nat} {t e : TypeId} {n : Nat} {cs : List Value} {zs : List (List UInt8)} {p : List MemPlace}
    (ht : P.underlying t = some (.array n e)) (he : P.underlying e = some .string) (hce : P.cellsOf e = 1) (hct : P.cellsOf t = n)
    (h : DataW.trod enc P w base sp held fuel t cs = some (.agg (zs.map fun z => .lit (.string z)), p)) : cs = zs.map fun z => Value.string ⟨z.toArray⟩ := by
  cases fuel with
  | zero => simp [DataW.trod] at h
  | succ fuel =>
    simp only [DataW.trod, ht, hce, hct, Nat.mul_one] at h
    split at h
    · rename_i hl
      obtain ⟨xs, hm, hx⟩ := Option.map_eq_some_iff.1 h
      have hxs : xs.map (·.1) = zs.map fun z => (DataW.lit (.string z) : DataW H) := by
        have := congrArg Prod.fst hx
        simpa using this
      have hxl : xs.length = n := by simpa using Lib.mapM_length hm
      have hzl : zs.length = n := by
        have := congrArg List.length hxs
        simp at this
        omega
      apply List.ext_getElem?
      intro i
      by_cases hi : i < n
      · obtain ⟨b, hb, hf⟩ := Lib.mapM_at hm i i (by simp [hi])
        obtain ⟨z, hc, rfl, _⟩ := DataW.trod_string he hf
        have h1 : cs[i]? = some (.string z) := by
          have := congrArg (·[0]?) hc
          simpa [List.getElem?_take, List.getElem?_drop] using this
        have h2 : (xs.map (·.1))[i]? = some (DataW.lit (.string z.data.toList) : DataW H) := by simp [hb]
        rw [hxs] at h2
        simp only [List.getElem?_map, Option.map_eq_some_iff, DataW.lit.injEq, Lit.string.injEq] at h2
        obtain ⟨z', hz', rfl⟩ := h2
        simp [h1, hz']
      · rw [List.getElem?_eq_none (by omega), List.getElem?_eq_none (by simp; omega)]
    · cases h
theorem block_of_reads {P : Program} {W : World} {name : String} {zs : List (List UInt8)} {g : Nat} {t e : TypeId} {n : Nat} {zero : Array Value} (hsh : W.ShapedOpen P) (hlt : g < P.globals.size)
    (h0 : ((begin P (fun _ _ => 0) default).world.heap[g]?).bind Obj.row? = some (zero, t))
    (hg : P.globalNamed name = some g) (hty : (P.globals[g]?).map (·.type) = some t) (ht : P.underlying t = some (.array n e)) (he : P.underlying e = some .string) (hce : P.cellsOf e = 1) (hct : P.cellsOf t = n)
    (h : Lib.VarReads P W name (.agg (zs.map fun z => .lit (.string z)))) : ∃ fr, W.heap[g]? = some (.cells (strs zs) t fr) := by
  obtain ⟨cs, hh, _, _⟩ := hsh.1 g zero t hlt h0
  obtain ⟨g', t', cs', fuel, p, hg', ht', hv, hd⟩ := h
  obtain rfl := Option.some.inj (hg.symm.trans hg')
  obtain rfl := Option.some.inj (hty.symm.trans ht')
  have hc := strs_of_tab ht he hce hct hd
  unfold World.var? at hv
  rw [hg] at hv
  simp only [Option.bind_some, hh, Option.some.injEq] at hv
  subst hv
  refine ⟨(0, 0), ?_⟩
  rw [hh]
  unfold strs
  rw [← hc]
set_option maxRecDepth 100000
theorem gWords : Tryd.prog.globalNamed "countermand/label.words" = some 1 := by kernel_rfl
theorem gShapes : Tryd.prog.globalNamed "countermand/label.shapes" = some 0 := by kernel_rfl
theorem cells91 : Tryd.prog.cellsOf 91 = 22 := by kernel_rfl
theorem cells9 : Tryd.prog.cellsOf 9 = 1 := by kernel_rfl
theorem zero0 : ((begin Tryd.prog (fun _ _ => 0) default).world.heap[0]?).bind Obj.row? = some (strs (List.replicate 22 []), 91) := by kernel_rfl
theorem zero1 : ((begin Tryd.prog (fun _ _ => 0) default).world.heap[1]?).bind Obj.row? = some (strs (List.replicate 22 []), 91) := by kernel_rfl
theorem iface_of_reads {P : Program} {W : World} {name nm : String} {d : DataW Unit} {g : Nat} {ti : TypeId} {ms : Array (String × TypeId)} (hg : P.globalNamed name = some g) (hty : (P.globals[g]?).map (·.type) = some ti)
    (hi : P.underlying ti = some (.interface ms)) (h : Lib.VarReads P W name (.iface nm d)) : ∃ u v, W.var? P name = some #[.iface u v] := by
  obtain ⟨g', t', cs, fuel, p, hg', ht', hv, hd⟩ := h
  obtain rfl := Option.some.inj (hg.symm.trans hg')
  obtain rfl := Option.some.inj (hty.symm.trans ht')
  rw [hv]
  obtain ⟨l⟩ := cs
  cases fuel with
  | zero => simp [DataW.trod] at hd
  | succ fuel =>
    simp only [DataW.trod, hi] at hd
    split at hd <;> simp_all
def isIface (P : Program) (t : TypeId) : Bool := match P.underlying t with | some (.interface _) => true | _ => false
theorem under64 : ∃ ms, Tryd.prog.underlying 64 = some (.interface ms) := by
  have h : isIface Tryd.prog 64 = true := by kernel_rfl
  unfold isIface at h
  split at h
  · exact ⟨_, by assumption⟩
  · cases h
def tabOk (P : Program) (g n : Nat) : Bool := match P.globals[g]? with
  | some G => (match P.underlying G.type with
    | some (.array m e) => decide (m = n) && (match P.underlying e with | some (.int .u64) => true | _ => false) && decide (P.cellsOf e = 1) && decide (P.cellsOf G.type = n)
    | _ => false)
  | none => false
theorem tab_of_ok {P : Program} {g n : Nat} (h : tabOk P g n = true) : ∃ t e, (P.globals[g]?).map (·.type) = some t ∧ P.underlying t = some (.array n e) ∧ P.underlying e = some (.int .u64) ∧ P.cellsOf e = 1 ∧ P.cellsOf t = n := by
  unfold tabOk at h
  split at h
  · rename_i G hG
    split at h
    · rename_i m e he
      simp only [Bool.and_eq_true, decide_eq_true_eq] at h
      obtain ⟨⟨⟨rfl, h2⟩, h3⟩, h4⟩ := h
      refine ⟨G.type, e, by rw [hG]; rfl, he, ?_, h3, h4⟩
      split at h2
      · assumption
      · cases h2
    · cases h
  · cases h
theorem type8 : (Tryd.prog.globals[8]?).map (·.type) = some 64 := by kernel_rfl
theorem type9 : (Tryd.prog.globals[9]?).map (·.type) = some 64 := by kernel_rfl
theorem row_reads {W : World} (h : laidMetH Tryd.prog Rows.labelWritesRow.laid W) : laidMet Tryd.prog Rows.labelWritesRow.laid W := h
theorem gl_of {W : World} (hL : laidMetH Tryd.prog Rows.labelWritesRow.laid W) (hsh : W.ShapedOpen Tryd.prog) : Gl W := by
  have h := row_reads hL
  refine ⟨?_, ?_, ?_, ?_, ?_, ?_⟩
  · exact block_of_reads (zs := shapeL) hsh (of_decide_eq_true (by kernel_rfl)) zero0 gShapes (by kernel_rfl) Tryd.underlying91 Tryd.underlying9 cells9 cells91 (Lib.laidMet.reads h (.tail _ (.tail _ (.tail _ (.tail _ (.tail _ (.tail _ (.tail _ (.head _)))))))))
  · exact block_of_reads (zs := wordL) hsh (of_decide_eq_true (by kernel_rfl)) zero1 gWords (by kernel_rfl) Tryd.underlying91 Tryd.underlying9 cells9 cells91 (Lib.laidMet.reads h (.tail _ (.tail _ (.tail _ (.tail _ (.tail _ (.tail _ (.head _))))))))
  · obtain ⟨t, e, h1, h2, h3, h4, h5⟩ := tab_of_ok (P := Tryd.prog) (g := 3) (n := 20) (by kernel_rfl)
    exact Lib.tabIs_of_head (zs := Lib.pow10Tab) gPow h1 h2 h3 h4 h5 h.tail.tail
  · obtain ⟨ms, hi⟩ := under64
    exact iface_of_reads gSyn type8 hi (Lib.laidMet.reads h (.tail _ (.tail _ (.tail _ (.tail _ (.tail _ (.head _)))))))
  · obtain ⟨ms, hi⟩ := under64
    exact iface_of_reads gRng type9 hi (Lib.laidMet.reads h (.tail _ (.tail _ (.tail _ (.tail _ (.head _))))))
  · exact cell_of_shapedOpen_int (zero := #[.int .i64 0]) (t := 3) hsh (of_decide_eq_true (by kernel_rfl)) (by kernel_rfl) rfl (by kernel_rfl) (by kernel_rfl) Tryd.underlying3
end Go.Proofs.YtiegkhoidabkhaaDoor
namespace Go.Proofs.YtiegkhoidabkhaaDoor
open Go.RowKit

def u8s (l : List Int) : Array Value := (l.map fun z => Value.int .u8 z).toArray
def tab32 : List Int := [0, 1, 28, 2, 29, 14, 24, 3, 30, 22, 20, 15, 25, 17, 4, 8, 31, 27, 13, 23, 21, 19, 16, 7, 26, 12, 18, 6, 11, 5, 10, 9]
def tab64 : List Int := [0, 1, 56, 2, 57, 49, 28, 3, 61, 58, 42, 50, 38, 29, 17, 4, 62, 47, 59, 36, 45, 43, 51, 22, 53, 39, 33, 30, 24, 18, 12, 5, 63, 55, 48, 27, 60, 41, 37, 16, 46, 35, 44, 21, 52, 32, 23, 11, 54, 26, 40, 15, 34, 20, 31, 10, 25, 14, 19, 9, 13, 8, 7, 6]
def accTab : List Int := [128, 191, 160, 191, 128, 159, 144, 191, 128, 143, 0, 0, 0, 0, 0, 0, 0, 0, 0, 0, 0, 0, 0, 0, 0, 0, 0, 0, 0, 0, 0, 0]
abbrev synS : ByteArray := ⟨#[105, 110, 118, 97, 108, 105, 100, 32, 115, 121, 110, 116, 97, 120]⟩
abbrev rngS : ByteArray := ⟨#[118, 97, 108, 117, 101, 32, 111, 117, 116, 32, 111, 102, 32, 114, 97, 110, 103, 101]⟩
/-- The listed variables as their initialisers lay them; two blocks more for the two errors. -/
noncomputable def laidWorld (os : Os) : World :=
  let w0 := World.holding Tryd.prog os ⟨#[.cells #[.string synS] 158, .cells #[.string rngS] 158], #[], []⟩
  let N := (World.holding Tryd.prog default ⟨#[], #[], []⟩).heap.size
  let put (h : Array Obj) (g : Nat) (cs : Array Value) : Array Obj := h.modify g fun
    | .cells _ t frozen => .cells cs t frozen
    | o => o
  let h := put w0.heap 0 (strs shapeL)
  let h := put h 1 (strs wordL)
  let h := put h 3 (Lib.pow10Tab.map fun z => Value.int .u64 z).toArray
  let h := put h 4 (u8s tab32)
  let h := put h 5 (u8s tab64)
  let h := put h 6 (u8s (Lib.firstTab.map fun z => z))
  let h := put h 7 (u8s accTab)
  let h := put h 8 #[.iface 156 (.pointer (some ⟨N, 0, none⟩))]
  let h := put h 9 #[.iface 156 (.pointer (some ⟨N + 1, 0, none⟩))]
  { w0 with heap := h }
set_option maxRecDepth 100000
theorem laid_met (os : Os) (args : Array Value) : laidMet Tryd.prog Rows.labelWritesRow.laid ((laidWorld os).forCall (fun _ _ => 0) ⟨#[], args, []⟩).memory :=
  laidMet_of_run' 8 (by kernel_rfl) (by kernel_rfl)
end Go.Proofs.YtiegkhoidabkhaaDoor
