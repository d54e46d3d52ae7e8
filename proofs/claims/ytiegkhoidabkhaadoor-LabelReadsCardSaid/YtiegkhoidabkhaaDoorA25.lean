/- From the rows' reading to the walks' words, and back. -/
import Derived.Test.YtiegkhoidabkhaaDoorA24
import Derived.Test.YtiegkhoidabkhaaDoorA4
import Derived.WalkKit
import Derived.ProofKit
import Derived.OpenShut
import Derived.Carry
import Derived.Deep.Slices
namespace Go.Proofs.YtiegkhoidabkhaaDoor
open Go.ChangeShapes Go.WideShapes Go.ChangeAt Go.RowKit

def intAt (W : World) (a : Addr) : Int := match W.cell? a with | some (.int _ n) => n | _ => 0
theorem intAt_of {W : World} {a : Addr} {n : Int} (h : W.cell? a = some (.int .i64 n)) : intAt W a = n := by unfold intAt; rw [h]
def insAt (W : World) (g o : Nat) : Ins := ⟨intAt W ⟨g, o, none⟩, intAt W ⟨g, o + 1, none⟩, intAt W ⟨g, o + 2, none⟩, intAt W ⟨g, o + 3, none⟩⟩
theorem i64_wf {n : Int} (h : (Lit.int .i64 n).wf = true) : -9223372036854775808 ≤ n ∧ n ≤ 9223372036854775807 := by
  simpa [Lit.wf, IntKind.min, IntKind.max, IntKind.signed, IntKind.bits] using h
theorem cells57 : Tryd.prog.cellsOf 57 = 4 := by kernel_rfl
theorem cells3 : Tryd.prog.cellsOf 3 = 1 := by kernel_rfl
theorem cells55 : Tryd.prog.cellsOf 55 = 1 := by kernel_rfl
theorem take_drop_one {cs : List Value} {i : Nat} {v : Value} (h : (cs.drop i).take 1 = [v]) : cs[i]? = some v := by
  have := congrArg (·[0]?) h
  simpa [List.getElem?_take, List.getElem?_drop] using this
/-- Four integers. -/
theorem open_ins {H : Type} {enc : TypeId × Value → H} {W : World} {base n : Nat} {sp : Nat → Bool} {held : Bool} {cs : List Value} {x : DataW H × List MemPlace} (h : DataW.trod enc Tryd.prog W base sp held n 57 cs = some x) :
    ∃ y : Ins, y.Fit ∧ ∀ i, i < 4 → cs[i]? = y.cells[i]? := by
  obtain ⟨xs, m, rfl, _, _, hxl, hall⟩ := DataW.trod_struct Tryd.underlying57 h
  have hxl' : xs.length = 4 := hxl
  have h0 : DataW.trod enc Tryd.prog W base sp held m 55 ((cs.drop 0).take (Tryd.prog.cellsOf 55)) = xs[0]? := hall 0 _ rfl
  have h1 : DataW.trod enc Tryd.prog W base sp held m 3 ((cs.drop 1).take (Tryd.prog.cellsOf 3)) = xs[1]? := hall 1 _ rfl
  have h2 : DataW.trod enc Tryd.prog W base sp held m 3 ((cs.drop 2).take (Tryd.prog.cellsOf 3)) = xs[2]? := hall 2 _ rfl
  have h3 : DataW.trod enc Tryd.prog W base sp held m 3 ((cs.drop 3).take (Tryd.prog.cellsOf 3)) = xs[3]? := hall 3 _ rfl
  rw [cells55] at h0
  rw [cells3] at h1 h2 h3
  rw [List.getElem?_eq_getElem (show 0 < xs.length by omega)] at h0
  rw [List.getElem?_eq_getElem (show 1 < xs.length by omega)] at h1
  rw [List.getElem?_eq_getElem (show 2 < xs.length by omega)] at h2
  rw [List.getElem?_eq_getElem (show 3 < xs.length by omega)] at h3
  obtain ⟨o, e0, _, w0⟩ := DataW.trod_int Tryd.underlying55 h0
  obtain ⟨a, e1, _, w1⟩ := DataW.trod_int Tryd.underlying3 h1
  obtain ⟨b, e2, _, w2⟩ := DataW.trod_int Tryd.underlying3 h2
  obtain ⟨c, e3, _, w3⟩ := DataW.trod_int Tryd.underlying3 h3
  have w0 := i64_wf w0
  have w1 := i64_wf w1
  have w2 := i64_wf w2
  have w3 := i64_wf w3
  refine ⟨⟨o, a, b, c⟩, ⟨w1.1, w1.2, w2.1, w2.2, w3.1, w3.2, w0.1, w0.2⟩, fun i hi => ?_⟩
  have t0 := take_drop_one e0
  have t1 := take_drop_one e1
  have t2 := take_drop_one e2
  have t3 := take_drop_one e3
  match i, hi with
  | 0, _ => exact t0
  | 1, _ => exact t1
  | 2, _ => exact t2
  | 3, _ => exact t3
theorem add_none {g o r : Nat} : (Addr.add ⟨g, o, none⟩ r) = ⟨g, o + r, none⟩ := by
  unfold Addr.add
  split
  · subst_vars; rfl
  · rfl
/-- A slice of instructions that came in. -/
theorem open_prog {H : Type} {enc : TypeId × Value → H} {W : World} {fuel : Nat} {a0 : Option Addr} {l0 c0 : Nat} {x : DataW H × List MemPlace} (h : DataW.trod enc Tryd.prog W 0 (fun _ => true) true fuel 22 [.slice a0 l0 c0] = some x) :
    ∃ A p c, Value.slice a0 l0 c0 = .slice A p.length c ∧ (∀ y ∈ p, Ins.Fit y) ∧ RdIns W A p ∧ p.length ≤ maxLen := by
  have hv1 : ∀ u : Value, [Value.slice a0 l0 c0] = [u] → Value.slice a0 l0 c0 = u := fun u hu => by simpa using hu
  rcases Go.Deep.open_slice Tryd.underlying22 h with ⟨hcs, _⟩ | ⟨a, len, cap, m, n, D, Pl, hcs, _, hl, hm, hmm, _, hx⟩
  · exact ⟨none, [], 0, hv1 _ hcs, by simp, fun i x hx => by simp at hx, by simp⟩
  · simp only [if_true] at hmm
    subst hmm
    have key : ∀ i, i < len → ∃ y : Ins, y.Fit ∧ ∀ r, r < 4 → W.cell? ((a.add (i * 4)).add r) = y.cells[r]? := fun i hi => by
      obtain ⟨cs', h1, h2⟩ := hx i (by omega)
      rw [cells57] at h1
      obtain ⟨_, _, h3⟩ := World.cells?_some h1
      obtain ⟨y, hf, hy⟩ := open_ins h2
      exact ⟨y, hf, fun r hr => (h3 r hr).trans (hy r hr)⟩
    have hv := hv1 _ hcs
    rcases Nat.eq_zero_or_pos len with h0 | h0
    · subst h0
      exact ⟨some a, [], _, hv, by simp, fun i x hx => by simp at hx, by simp⟩
    · obtain ⟨g, o, spot⟩ := a
      obtain rfl : spot = none := by
        obtain ⟨y, _, hy⟩ := key 0 h0
        have := hy 0 (by omega)
        have := World.cell?_spot (v := .int .i64 y.op) this
        simpa [Addr.add] using this
      simp only [add_none] at key
      refine ⟨some ⟨g, o, none⟩, (List.range len).map fun i => insAt W g (o + i * 4), _, by simpa using hv, ?_, ?_, by simp; omega⟩
      · intro y hy
        obtain ⟨i, hi, rfl⟩ := List.mem_map.1 hy
        obtain ⟨y, hf, hy⟩ := key i (List.mem_range.1 hi)
        have e : insAt W g (o + i * 4) = y := by
          have hy0 : W.cell? ⟨g, o + i * 4, none⟩ = some (.int .i64 y.op) := hy 0 (by omega)
          unfold insAt
          rw [intAt_of hy0, intAt_of (hy 1 (by omega)), intAt_of (hy 2 (by omega)), intAt_of (hy 3 (by omega))]
        rw [e]; exact hf
      · intro i x hx
        have hi : i < len := by
          have := (List.getElem?_eq_some_iff.1 hx).1
          simpa using this
        have ex : insAt W g (o + i * 4) = x := by simpa [hi] using hx
        obtain ⟨y, hf, hy⟩ := key i hi
        have e : insAt W g (o + i * 4) = y := by
          have hy0 : W.cell? ⟨g, o + i * 4, none⟩ = some (.int .i64 y.op) := hy 0 (by omega)
          unfold insAt
          rw [intAt_of hy0, intAt_of (hy 1 (by omega)), intAt_of (hy 2 (by omega)), intAt_of (hy 3 (by omega))]
        rw [e] at ex
        subst ex
        refine ⟨_, rfl, ?_⟩
        rw [add_none]
        exact ⟨hy 0 (by omega), hy 1 (by omega), hy 2 (by omega), hy 3 (by omega)⟩

theorem Below.trodAll {H : Type} {enc : TypeId × Value → H} {P : Program} (hl : laidOutB P = true) {W W' : World} (hb : Below W.heap.size W W') : ∀ {ts : List TypeId} {vs : List Value} {ds : List (DataW H)} {ps : List MemPlace},
    (∀ t ∈ ts, P.readableRec t = true ∧ t < P.types.size) → DataW.TrodAll enc P W 0 (fun _ => true) true ts vs ds ps → (∀ x ∈ ps, x.block < W.heap.size) → DataW.TrodAll enc P W' 0 (fun b => decide (b < W.heap.size)) true ts vs ds ps
  | [], vs, ds, ps, _, h, _ => by
    obtain ⟨rfl, rfl, rfl⟩ := trodAll_nil h
    exact trodAll_mk0
  | t :: ts, vs, ds, ps, hr, h, hlt => by
    obtain ⟨v, vs', d, ds', p, q, rfl, rfl, rfl, h1, h2⟩ := trodAll_cons h
    have h3 := hr t (List.mem_cons_self ..)
    exact ⟨p, q, Go.RowKit.Below.trod hl h3.1 h3.2 h1 hb (fun x hx => hlt x (List.mem_append_left _ hx)), Below.trodAll hl hb (fun u hu => hr u (List.mem_cons_of_mem _ hu)) h2 (fun x hx => hlt x (List.mem_append_right _ hx)), rfl⟩
theorem laidOut : laidOutB Tryd.prog = true := by kernel_rfl
/-- The law returns true, and each argument reads as it did. -/
theorem law_post {H : Type} {enc : TypeId × Value → H} {W W' : World} {fn : Func} {s : ChangeSpec} {args : Array Value} {ds gs : List (DataW H)} {before : List MemPlace} (hres : fn.resultTypes = #[4]) (hp : ∀ t ∈ fn.params.toList, Tryd.prog.readableRec t = true ∧ t < Tryd.prog.types.size)
    (hv : s.vars = []) (hfn : s.fn H (ds ++ gs) = { results := [.lit (.bool true)], args := ds }) (hW : DataW.Whole enc Tryd.prog fn.params.toList s.vars false W args.toList ds gs before) (hb : Below W.heap.size W W') :
    s.post enc Tryd.prog fn false true false false W args (.bool true) W' := by
  have hlt := hW.lt
  have hW' := hW
  obtain ⟨p, q, hA, hV, rfl, _, _⟩ := hW
  refine ⟨ds, gs, p ++ q, [], p, [], hW', ?_, ?_, ?_, hb.frame _, fun h => by cases h⟩
  · rw [hfn, hres]
    exact trodAll_mk1 (shut_bool Tryd.underlying4 _)
  · rw [hfn]
    exact Below.trodAll laidOut hb hp hA (fun x hx => hlt x (List.mem_append_left _ hx))
  · rw [hfn, hv]
    rfl
end Go.Proofs.YtiegkhoidabkhaaDoor
