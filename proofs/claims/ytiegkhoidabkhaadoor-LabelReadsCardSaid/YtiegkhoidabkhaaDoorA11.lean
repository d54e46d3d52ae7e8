/- label.fields. -/
import Derived.Test.YtiegkhoidabkhaaDoorA10
import Derived.Test.YtiegkhoidabkhaaDoorB4
import Derived.BigRegion
namespace Go.Proofs.YtiegkhoidabkhaaDoor
open Go.Shelf Go.RowKit

theorem Ob.farB {w : World} {g b i : Nat} {o : Obj} (h : Ob w g o) (hp : g ≠ b) (u : Value) : Ob (w.setCell ⟨b, i, none⟩ u) g o := h.far (p := ⟨b, i, none⟩) hp u
theorem below_setB {B b i : Nat} {a w : World} (h : Below B a w) (hp : B ≤ b) (u : Value) : Below B a (w.setCell ⟨b, i, none⟩ u) := h.setCell (p := ⟨b, i, none⟩) hp u
/-- A slice of strings reads as a list. -/
def RdStr (w : World) (A : Option Addr) (ls : List (List UInt8)) : Prop := ∀ i s, ls[i]? = some s → ∃ ad, A = some ad ∧ w.cell? (ad.add i) = some (S s)
theorem RdStr.belowH {w w1 : World} {A : Option Addr} {ls : List (List UInt8)} (h : RdStr w A ls) (hb : Below w.heap.size w w1) : RdStr w1 A ls := fun i s hs => by
  obtain ⟨ad, e, hc⟩ := h i s hs
  exact ⟨ad, e, cell_belowH hb hc⟩
abbrev lineCells (m g : List UInt8) (op a b c : Int) : Array Value := #[S m, S g, .int .i64 op, .int .i64 a, .int .i64 b, .int .i64 c]
abbrev lineV (m g : List UInt8) (op a b c : Int) : Value := .agg (lineCells m g op a b c)

def FieldsSay (k : Int) (ls : List (List UInt8)) (g : List UInt8) (f0 f1 f2 : Int) (b : Bool) : Prop :=
  match fieldsOf k ls with | some (g', f') => b = true ∧ g = g' ∧ f' = [f0, f1, f2] | none => b = false
theorem FieldsSay.no {k : Int} {ls : List (List UInt8)} (h : fieldsOf k ls = none) (g : List UInt8) (f0 f1 f2 : Int) : FieldsSay k ls g f0 f1 f2 false := by
  simp [FieldsSay, h]
theorem FieldsSay.yes {k : Int} {ls : List (List UInt8)} {g : List UInt8} {f0 f1 f2 : Int} (h : fieldsOf k ls = some (g, [f0, f1, f2])) : FieldsSay k ls g f0 f1 f2 true := by
  simp [FieldsSay, h]
theorem numOf_range {s : List UInt8} {v : Int} (h : numOf s = some v) : -9223372036854775808 ≤ v ∧ v ≤ 9223372036854775807 := by
  unfold numOf at h
  split at h
  · rename_i u hu
    split at h
    · have := Option.some.inj h
      subst this
      exact Lib.atoiAll_bounds hu
    · cases h
  · cases h

set_option maxRecDepth 100000 in
set_option maxHeartbeats 1000000 in
theorem fields_any (k : Int) (h0 : 0 ≤ k) (h1 : k < 22) (A : Option Addr) (ls : List (List UInt8)) (cap : Nat) (hlen : ls.length ≤ 65536) (hll : ∀ s ∈ ls, s.length ≤ 65536) (w : World) (hg : Gl w) (hr : RdStr w A ls) :
    Calls Tryd.prog 70 #[.int .i64 k, .slice A ls.length cap] w fun e w' => ∃ g f0 f1 f2 b, e = .returned (.tuple #[lineV [] g k f0 f1 f2, .bool b]) ∧ Below w.heap.size w w' ∧ FieldsSay k ls g f0 f1 f2 b := by
  have h10 := hg.size
  have hsh := hg.shape k h0 h1
  have HG := Lib.hid hg; have HR := Lib.hid hr; have HL := Lib.hid hll
  have hsh' : ∀ o o', ((w.alloc o).alloc o').cell? ⟨0, k.toNat, none⟩ = some (S (shapeOf k)) := fun o o' => by rw [World.cell?_alloc_lt _ _ _ (by simp), World.cell?_alloc_lt _ _ _ (by show 0 < _; omega)]; exact hsh
  have hs3 := shape_len k
  clear hg hr hll hsh
  by_cases hne : ls.length = (shapeOf k).length
  · have hb : ((ls.length : Int) != ((shapeOf k).length : Int)) = false := by rw [hne]; simp
    have HNE := Lib.hid hne
    clear hne
    go_enter Tryd.func70, Tryd.ntmps70
    go_wp2
    refine forget (fun wo => Ob wo w.heap.size (.cells (lineCells [] [] 0 0 0 0) 112) ∧ Ob wo (w.heap.size + 1) (.cells (lineCells [] [] k 0 0 0) 112) ∧ Ob wo (w.heap.size + 1 + 1) (.cells #[.int .i64 0, .int .i64 0, .int .i64 0] 92) ∧ Below w.heap.size w wo)
      ⟨((Ob.new w _).alloc _).alloc _, (Ob.new' _ (by simp)).alloc _, Ob.new' _ (by simp), by go_grown⟩ ?_
    rintro wo ⟨hR, hO, hF, hB⟩
    clear hsh' hb
    go_loopw [25] (fun v25 wr => ∃ (i : Nat) (g : List UInt8) (f0 f1 f2 : Int), i ≤ ls.length ∧ v25 = .int .i64 i ∧ Hid (Ob wr w.heap.size (.cells (lineCells [] [] 0 0 0 0) 112)) ∧ Hid (Ob wr (w.heap.size + 1) (.cells (lineCells [] g k 0 0 0) 112)) ∧ Hid (Ob wr (w.heap.size + 1 + 1) (.cells #[.int .i64 f0, .int .i64 f1, .int .i64 f2] 92)) ∧ Hid (Below w.heap.size w wr) ∧
        Hid (fldRun (((shapeOf k).zip ls).drop i) i g [f0, f1, f2] = fieldsOf k ls))
      (fun v25 wr => ls.length - (intOf v25).toNat)
    case atStart => exact ⟨0, [], 0, 0, 0, by omega, rfl, hR, hO, hF, hB, by rw [fieldsOf, if_pos HNE.out]; rfl⟩
    case round =>
      clear hR hO hF hB
      obtain ⟨i, g, f0, f1, f2, hi, rfl, HRC, HO, HF, HB, HX⟩ := hrel
      have hsz := HB.out.size
      by_cases hlt : i < ls.length
      · obtain ⟨s, hs⟩ : ∃ s, ls[i]? = some s := ⟨_, List.getElem?_eq_getElem hlt⟩
        obtain ⟨c, hc⟩ : ∃ c, (shapeOf k)[i]? = some c := ⟨_, List.getElem?_eq_getElem (by rw [← HNE.out]; exact hlt)⟩
        obtain ⟨ad, rfl, hcs⟩ := HR.out.belowH HB.out i s hs
        have hls := HL.out s (List.mem_of_getElem? hs)
        have hasc := shape_ascii k i c hc
        have hz : ((shapeOf k).zip ls)[i]? = some (c, s) := by rw [List.getElem?_zip_eq_some]; exact ⟨hc, hs⟩
        have hx := HX.out
        rw [fldRun_drop hz] at hx
        have hix := fun w' => run_idx_str w' (shapeOf k) i c hc
        have hshr : wr.cell? ⟨0, k.toNat, none⟩ = some (S (shapeOf k)) := (HG.out.belowH HB.out).shape k h0 h1
        have hi3 : i < 3 := by have := HNE.out; omega
        have hOf : ∀ j, wr.frozen? ⟨w.heap.size + 1, j, none⟩ = false := fun j => HO.out.frozen j
        have hFf : ∀ j, wr.frozen? ⟨w.heap.size + 1 + 1, j, none⟩ = false := fun j => HF.out.frozen j
        have o1 : wr.cell? ⟨w.heap.size + 1, 1, none⟩ = some (S g) := HO.out.cell 1
        clear hs hc hz
        rcases hasc with rfl | rfl
        · have hx2 : (if nameB s = true then fldRun (((shapeOf k).zip ls).drop (i + 1)) (i + 1) s [f0, f1, f2] else none) = fieldsOf k ls := by
            rw [← hx]
            simp only [fldStep, if_true]
            by_cases hn : nameB s = true <;> simp [hn]
          have HX2 := Lib.hid hx2
          clear hx hx2
          go_wp2_with fail
          obtain ⟨w2, hw2⟩ : ∃ w2, w2 = wr.setCell ⟨w.heap.size + 1, 1, none⟩ (S s) := ⟨_, rfl⟩
          rw [← hw2]
          have hO2 : Ob w2 (w.heap.size + 1) (.cells (lineCells [] s k 0 0 0) 112) := by rw [hw2]; exact HO.out.set 1 _
          have hR2 : Ob w2 w.heap.size (.cells (lineCells [] [] 0 0 0 0) 112) := by rw [hw2]; exact HRC.out.far (by simp) _
          have hF2 : Ob w2 (w.heap.size + 1 + 1) (.cells #[.int .i64 f0, .int .i64 f1, .int .i64 f2] 92) := by rw [hw2]; exact HF.out.far (by simp) _
          have HB2 := Lib.hid (show Below w.heap.size w w2 by rw [hw2]; exact HB.out.setCell (by simp) _)
          have HO2 := Lib.hid hO2; have HR2 := Lib.hid hR2; have HF2 := Lib.hid hF2
          refine (name_any s (by omega) _).mono ?_
          rintro e w' ⟨rfl, rfl⟩
          clear hw2 o1 hOf hFf hshr hcs HO HF HRC hsz
          by_cases hn : nameB s = true
          · rw [hn]
            have hx3 := HX2.out
            rw [if_pos hn] at hx3
            have HX3 := Lib.hid hx3
            clear hx3 hn hO2 hR2 hF2
            go_wp2_with fail
            go_roundw
            case rel => exact ⟨i + 1, s, f0, f1, f2, by omega, by go_num, HR2, HO2, HF2, HB2, HX3⟩
            case measure => simp [intOf]; omega
          · have hn' : nameB s = false := by simpa using hn
            rw [hn']
            have hx3 := HX2.out
            rw [if_neg hn] at hx3
            have HX3 := Lib.hid hx3
            have o0 : w'.cell? ⟨w.heap.size + 1, 0, none⟩ = some (S []) := hO2.cell 0
            have o1 : w'.cell? ⟨w.heap.size + 1, 1, none⟩ = some (S s) := hO2.cell 1
            have o2 : w'.cell? ⟨w.heap.size + 1, 2, none⟩ = some (.int .i64 k) := hO2.cell 2
            have o3 : w'.cell? ⟨w.heap.size + 1, 3, none⟩ = some (.int .i64 0) := hO2.cell 3
            have o4 : w'.cell? ⟨w.heap.size + 1, 4, none⟩ = some (.int .i64 0) := hO2.cell 4
            have o5 : w'.cell? ⟨w.heap.size + 1, 5, none⟩ = some (.int .i64 0) := hO2.cell 5
            have r0 : w'.cell? ⟨w.heap.size, 0, none⟩ = some (S []) := hR2.cell 0
            have r1 : w'.cell? ⟨w.heap.size, 1, none⟩ = some (S []) := hR2.cell 1
            have r2 : w'.cell? ⟨w.heap.size, 2, none⟩ = some (.int .i64 0) := hR2.cell 2
            have r3 : w'.cell? ⟨w.heap.size, 3, none⟩ = some (.int .i64 0) := hR2.cell 3
            have r4 : w'.cell? ⟨w.heap.size, 4, none⟩ = some (.int .i64 0) := hR2.cell 4
            have r5 : w'.cell? ⟨w.heap.size, 5, none⟩ = some (.int .i64 0) := hR2.cell 5
            have rf : ∀ j, w'.frozen? ⟨w.heap.size, j, none⟩ = false := fun j => hR2.frozen j
            clear hx3 hn hn' hO2 hR2 hF2
            go_wp2_with fail
            refine bodyPost_ret (v := .tuple #[lineV [] s k 0 0 0, .bool false]) (by simp [results, Tryd.results70, go_sem, *]) rfl ⟨s, 0, 0, 0, false, rfl, ?_, FieldsSay.no HX3.out.symm _ _ _ _⟩
            have hbb := HB2.out
            go_grown
        · have hx2 : (match numOf s with | some v => fldRun (((shapeOf k).zip ls).drop (i + 1)) (i + 1) g ([f0, f1, f2].set i v) | none => none) = fieldsOf k ls := by
            rw [← hx]
            simp only [fldStep]
            rw [if_neg (by decide)]
            cases numOf s <;> rfl
          clear hx
          cases hno : numOf s with
          | some v =>
            rw [hno] at hx2
            have HX2 := Lib.hid hx2
            have hnum := number_yes s (by omega) v hno wr (HG.out.belowH HB.out)
            clear hx2 hno
            go_wp2_with fail
            refine hnum.mono ?_
            rintro e w2 ⟨rfl, hb2⟩
            have hO2 := HO.out.belowH hb2
            have hR2 := HRC.out.belowH hb2
            have hF2 := HF.out.belowH hb2
            have hB2 := below_next HB.out hb2
            have hFf2 : ∀ j, w2.frozen? ⟨w.heap.size + 1 + 1, j, none⟩ = false := fun j => hF2.frozen j
            have hFc : ∃ u, w2.cell? ⟨w.heap.size + 1 + 1, i, none⟩ = some u := by
              rw [hF2.cell]
              exact ⟨_, Array.getElem?_eq_getElem (by simp; omega)⟩
            obtain ⟨u, hFc⟩ := hFc
            have HO2 := Lib.hid hO2; have HR2 := Lib.hid hR2; have HF2 := Lib.hid hF2; have HB2 := Lib.hid hB2
            clear hO2 hR2 hF2 hB2 hb2 hOf hFf hshr hcs HO HF HRC hsz hnum o1
            have hI : ∃ f0' f1' f2', [f0, f1, f2].set i v = [f0', f1', f2'] ∧ (#[Value.int .i64 f0, Value.int .i64 f1, Value.int .i64 f2]).setIfInBounds i (Value.int .i64 v) = #[Value.int .i64 f0', Value.int .i64 f1', Value.int .i64 f2'] := by
              match i, hi3 with
              | 0, _ => exact ⟨_, _, _, rfl, rfl⟩
              | 1, _ => exact ⟨_, _, _, rfl, rfl⟩
              | 2, _ => exact ⟨_, _, _, rfl, rfl⟩
            obtain ⟨f0', f1', f2', e1, e2⟩ := hI
            have HE1 := Lib.hid e1; have HE2 := Lib.hid e2
            clear e1 e2
            go_wp2_with fail
            go_roundw
            case rel => exact ⟨i + 1, g, f0', f1', f2', by omega, by go_num, HR2.out.farB (by omega) _, HO2.out.farB (by omega) _, Lib.hid (by rw [← HE2.out]; exact HF2.out.set i _), below_setB HB2.out (by omega) _, Lib.hid (by rw [← HE1.out]; exact HX2.out)⟩
            case measure => simp [intOf]; omega
          | none =>
            rw [hno] at hx2
            have HX3 := Lib.hid hx2
            have hnum := number_no s (by omega) hno wr (HG.out.belowH HB.out)
            clear hx2 hno
            go_wp2_with fail
            refine hnum.mono ?_
            rintro e w2 ⟨⟨n, rfl⟩, hb2⟩
            have hO2 := HO.out.belowH hb2
            have hR2 := HRC.out.belowH hb2
            have hB2 := Lib.hid (below_next HB.out hb2)
            have o0 : w2.cell? ⟨w.heap.size + 1, 0, none⟩ = some (S []) := hO2.cell 0
            have o1 : w2.cell? ⟨w.heap.size + 1, 1, none⟩ = some (S g) := hO2.cell 1
            have o2 : w2.cell? ⟨w.heap.size + 1, 2, none⟩ = some (.int .i64 k) := hO2.cell 2
            have o3 : w2.cell? ⟨w.heap.size + 1, 3, none⟩ = some (.int .i64 0) := hO2.cell 3
            have o4 : w2.cell? ⟨w.heap.size + 1, 4, none⟩ = some (.int .i64 0) := hO2.cell 4
            have o5 : w2.cell? ⟨w.heap.size + 1, 5, none⟩ = some (.int .i64 0) := hO2.cell 5
            have r0 : w2.cell? ⟨w.heap.size, 0, none⟩ = some (S []) := hR2.cell 0
            have r1 : w2.cell? ⟨w.heap.size, 1, none⟩ = some (S []) := hR2.cell 1
            have r2 : w2.cell? ⟨w.heap.size, 2, none⟩ = some (.int .i64 0) := hR2.cell 2
            have r3 : w2.cell? ⟨w.heap.size, 3, none⟩ = some (.int .i64 0) := hR2.cell 3
            have r4 : w2.cell? ⟨w.heap.size, 4, none⟩ = some (.int .i64 0) := hR2.cell 4
            have r5 : w2.cell? ⟨w.heap.size, 5, none⟩ = some (.int .i64 0) := hR2.cell 5
            have rf : ∀ j, w2.frozen? ⟨w.heap.size, j, none⟩ = false := fun j => hR2.frozen j
            clear hb2 hOf hFf hshr hcs HO HF HRC hsz hnum hO2 hR2
            go_wp2_with fail
            refine bodyPost_ret (v := .tuple #[lineV [] g k 0 0 0, .bool false]) (by simp [results, Tryd.results70, go_sem, *]) rfl ⟨g, 0, 0, 0, false, rfl, ?_, FieldsSay.no HX3.out.symm _ _ _ _⟩
            have hbb := hB2.out
            go_grown
      · have hx := HX.out
        rw [fldRun_end (by rw [List.length_zip]; have := HNE.out; omega)] at hx
        have HX2 := Lib.hid hx
        have q0 : wr.cell? ⟨w.heap.size + 1 + 1, 0, none⟩ = some (.int .i64 f0) := HF.out.cell 0
        have q1 : wr.cell? ⟨w.heap.size + 1 + 1, 1, none⟩ = some (.int .i64 f1) := HF.out.cell 1
        have q2 : wr.cell? ⟨w.heap.size + 1 + 1, 2, none⟩ = some (.int .i64 f2) := HF.out.cell 2
        have o0 : wr.cell? ⟨w.heap.size + 1, 0, none⟩ = some (S []) := HO.out.cell 0
        have o1 : wr.cell? ⟨w.heap.size + 1, 1, none⟩ = some (S g) := HO.out.cell 1
        have o2 : wr.cell? ⟨w.heap.size + 1, 2, none⟩ = some (.int .i64 k) := HO.out.cell 2
        have o3 : wr.cell? ⟨w.heap.size + 1, 3, none⟩ = some (.int .i64 0) := HO.out.cell 3
        have o4 : wr.cell? ⟨w.heap.size + 1, 4, none⟩ = some (.int .i64 0) := HO.out.cell 4
        have o5 : wr.cell? ⟨w.heap.size + 1, 5, none⟩ = some (.int .i64 0) := HO.out.cell 5
        have of : ∀ j, wr.frozen? ⟨w.heap.size + 1, j, none⟩ = false := fun j => HO.out.frozen j
        have r0 : wr.cell? ⟨w.heap.size, 0, none⟩ = some (S []) := HRC.out.cell 0
        have r1 : wr.cell? ⟨w.heap.size, 1, none⟩ = some (S []) := HRC.out.cell 1
        have r2 : wr.cell? ⟨w.heap.size, 2, none⟩ = some (.int .i64 0) := HRC.out.cell 2
        have r3 : wr.cell? ⟨w.heap.size, 3, none⟩ = some (.int .i64 0) := HRC.out.cell 3
        have r4 : wr.cell? ⟨w.heap.size, 4, none⟩ = some (.int .i64 0) := HRC.out.cell 4
        have r5 : wr.cell? ⟨w.heap.size, 5, none⟩ = some (.int .i64 0) := HRC.out.cell 5
        have rf : ∀ j, wr.frozen? ⟨w.heap.size, j, none⟩ = false := fun j => HRC.out.frozen j
        clear hx HX
        go_wp2_with fail
        go_region
        go_wp2
        refine bodyPost_ret (v := .tuple #[lineV [] g k f0 f1 f2, .bool true]) (by simp [results, Tryd.results70, go_sem, *]) rfl ⟨g, f0, f1, f2, true, rfl, ?_, FieldsSay.yes HX2.out.symm⟩
        have hbb := HB.out
        go_grown
  · have hb : ((ls.length : Int) != ((shapeOf k).length : Int)) = true := by rw [bne_iff_ne]; omega
    have HN := Lib.hid (show fieldsOf k ls = none by simp [fieldsOf, hne])
    clear hne
    go_enter Tryd.func70, Tryd.ntmps70
    go_wp2
    refine bodyPost_ret (v := .tuple #[lineV [] [] k 0 0 0, .bool false]) (by simp [results, Tryd.results70, go_sem]) rfl ⟨[], 0, 0, 0, false, rfl, by go_grown, FieldsSay.no HN.out _ _ _ _⟩
end Go.Proofs.YtiegkhoidabkhaaDoor
