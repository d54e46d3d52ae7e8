/- label.parse. -/
import Derived.Test.YtiegkhoidabkhaaDoorA11
import Derived.Test.YtiegkhoidabkhaaDoorB5
namespace Go.Proofs.YtiegkhoidabkhaaDoor
open Go.Shelf Go.RowKit

def ParseSay (r : Option Say) (m g : List UInt8) (op a b c : Int) (ok : Bool) : Prop :=
  match r with | some x => ok = true ∧ m = x.mark ∧ g = x.goal ∧ op = x.op ∧ x.f = [a, b, c] | none => ok = false
theorem pieces_cons (c : UInt8) (s : List UInt8) : ∃ w rest, pieces c s = w :: rest := by
  have := pieces_len c s
  cases h : pieces c s with
  | nil => rw [h] at this; simp at this
  | cons w rest => exact ⟨w, rest, rfl⟩
theorem add_off (g o j : Nat) : (⟨g, o, none⟩ : Addr).add j = ⟨g, o + j, none⟩ := by unfold Addr.add; split <;> simp_all
theorem ParseSay.of {l : List UInt8} {k : Int} {rest : List (List UInt8)} (h : instrOf l = match fieldsOf k rest with | some (g, f) => some ⟨[], g, k, f⟩ | none => none) {g : List UInt8} {f0 f1 f2 : Int} {b : Bool} (hs : FieldsSay k rest g f0 f1 f2 b) : ParseSay (instrOf l) [] g k f0 f1 f2 b := by
  unfold FieldsSay at hs
  unfold ParseSay
  rw [h]
  cases hf : fieldsOf k rest with
  | none => rw [hf] at hs; simpa using hs
  | some r =>
    obtain ⟨g', f'⟩ := r
    rw [hf] at hs
    obtain ⟨rfl, rfl, rfl⟩ := hs
    simp
theorem hasPrefix_58 (l : List UInt8) : Lib.hasPrefix l [58] = (l.head? == some 58) := by
  cases l with
  | nil => rfl
  | cons c l =>
    show ((58 : UInt8) == c && true) = (some c == some (58 : UInt8))
    rw [Bool.and_true, Bool.eq_iff_iff, beq_iff_eq, beq_iff_eq]
    exact ⟨fun h => by rw [h], fun h => by injection h with h; exact h.symm⟩

set_option maxRecDepth 100000 in
set_option maxHeartbeats 1000000 in
theorem parse_mark (r : List UInt8) (hl : r.length ≤ 65536) (w : World) :
    Calls Tryd.prog 56 #[S (58 :: r)] w fun e w' => e = .returned (.tuple #[lineV r [] 0 0 0 0, .bool (nameB r)]) ∧ Below w.heap.size w w' := by
  have hc := fun w' => Tryd.strings_CutPrefix ⟨(58 :: r).toArray⟩ ⟨#[58]⟩ w'
  have e1 : Lib.trimPrefix (58 :: r) [58] = r := by simp [Lib.trimPrefix, Lib.hasPrefix]
  have e2 : Lib.hasPrefix (58 :: r) [58] = true := by rw [hasPrefix_58]; rfl
  simp only [e1, e2] at hc
  clear e1 e2
  go_enter Tryd.func56, Tryd.ntmps56
  go_wp2_with fail
  refine (hc _).mono ?_
  rintro e w1 ⟨rfl, rfl⟩
  go_wp2_with fail
  refine (name_any r (by omega) _).mono ?_
  rintro e w1 ⟨rfl, rfl⟩
  go_wp2_with fail
  refine bodyPost_ret (v := .tuple #[lineV r [] 0 0 0 0, .bool (nameB r)]) (by simp [results, Tryd.results56, go_sem]) rfl ⟨rfl, by go_grown⟩

set_option maxRecDepth 100000 in
set_option maxHeartbeats 1000000 in
theorem parse_instr (l : List UInt8) (hh : l.head? ≠ some 58) (hl : l.length ≤ 60000) (w : World) (hg : Gl w) :
    Calls Tryd.prog 56 #[S l] w fun e w' => ∃ m g op a b c ok, e = .returned (.tuple #[lineV m g op a b c, .bool ok]) ∧ Below w.heap.size w w' ∧ ParseSay (instrOf l) m g op a b c ok := by
  obtain ⟨x, rest, hx⟩ := pieces_cons 32 l
  obtain ⟨mx, hmx⟩ := hg.len
  have hpl := pieces_len 32 l
  have hple := pieces_le 32 l
  have h10 := hg.size
  have hc := fun w' => Tryd.strings_CutPrefix ⟨l.toArray⟩ ⟨#[58]⟩ w'
  have e2 : Lib.hasPrefix l [58] = false := by rw [hasPrefix_58, beq_eq_false_iff_ne]; exact hh
  simp only [e2] at hc
  have hsp : ∀ w', w'.cell? ⟨2, 0, none⟩ = some (.int .i64 mx) → Calls Tryd.prog 55 #[S l, S [32]] w' fun e w'' => e = .returned (.slice (some ⟨w'.heap.size, 0, none⟩) (rest.length + 1) (rest.length + 1)) ∧ w'' = w'.alloc (.cells ((pieces 32 l).map S).toArray 9) := fun w' hm => by
    refine (Tryd.strings_Split ⟨l.toArray⟩ ⟨[32].toArray⟩ mx w' (by simp [ByteArray.size]; omega) hm (by decide)).mono ?_
    rintro e w'' ⟨rfl, rfl⟩
    rw [splitB_pieces, count_pieces, hx]
    exact ⟨rfl, rfl⟩
  have HSP := Lib.hid hsp
  have HX := Lib.hid hx; have HG := Lib.hid hg; have HPL := Lib.hid hple
  have hrl : rest.length + 1 ≤ l.length + 1 := by rw [hx] at hpl; simpa using hpl.2
  clear e2 hsp hx hg hpl hple hh
  go_enter Tryd.func56, Tryd.ntmps56
  go_wp2_with fail
  refine (hc _).mono ?_
  rintro e w1 ⟨rfl, rfl⟩
  go_wp2_with fail
  refine (HSP.out _ (by rw [World.cell?_alloc_lt _ _ _ (by show 2 < _; omega)]; exact hmx)).mono ?_
  rintro e w1 ⟨rfl, hw1⟩
  have hP : Ob w1 (w.heap.size + 1) (.cells ((pieces 32 l).map S).toArray 9) := by rw [hw1]; exact Ob.new' _ (by simp)
  have hR : Ob w1 w.heap.size (.cells (lineCells [] [] 0 0 0 0) 112) := by rw [hw1]; exact (Ob.new w _).alloc _
  have hB : Below w.heap.size w w1 := by rw [hw1]; go_grown
  have hx0 : w1.cell? ⟨w.heap.size + 1, 0, none⟩ = some (S x) := by rw [hP.cell, HX.out]; simp
  have HP := Lib.hid hP; have HR := Lib.hid hR; have HB := Lib.hid hB
  have hsz : ∀ o, (w.alloc o).heap.size = w.heap.size + 1 := fun o => by simp
  clear hw1 hP hR hB
  go_wp2_with fail
  refine (op_any x _ (HG.out.belowH HB.out)).mono ?_
  rintro e w2 ⟨rfl, rfl⟩
  have r0 : w2.cell? ⟨w.heap.size, 0, none⟩ = some (S []) := HR.out.cell 0
  have r1 : w2.cell? ⟨w.heap.size, 1, none⟩ = some (S []) := HR.out.cell 1
  have r2 : w2.cell? ⟨w.heap.size, 2, none⟩ = some (.int .i64 0) := HR.out.cell 2
  have r3 : w2.cell? ⟨w.heap.size, 3, none⟩ = some (.int .i64 0) := HR.out.cell 3
  have r4 : w2.cell? ⟨w.heap.size, 4, none⟩ = some (.int .i64 0) := HR.out.cell 4
  have r5 : w2.cell? ⟨w.heap.size, 5, none⟩ = some (.int .i64 0) := HR.out.cell 5
  have rf : ∀ j, w2.frozen? ⟨w.heap.size, j, none⟩ = false := fun j => HR.out.frozen j
  by_cases hk : opOf x < 0
  · have HN := Lib.hid (show instrOf l = none by simp [instrOf, HX.out, hk])
    go_wp2_with fail
    refine bodyPost_ret (v := .tuple #[lineV [] [] 0 0 0 0, .bool false]) (by simp [results, Tryd.results56, go_sem, *]) rfl ⟨[], [], 0, 0, 0, 0, false, rfl, ?_, by simp [ParseSay, HN.out]⟩
    have hbb := HB.out
    go_grown
  · have hk0 : 0 ≤ opOf x := by omega
    have hk1 : opOf x < 22 := by
      unfold opOf
      split
      · rename_i i hi
        rw [List.findIdx?_eq_some_iff_getElem] at hi
        obtain ⟨h, _⟩ := hi
        have : wordL.length = 22 := rfl
        omega
      · omega
    have hfl := fun A cap w' hg' hr' => fields_any (opOf x) hk0 hk1 A rest cap (by omega) (fun s hs => by have := HPL.out s (by rw [HX.out]; exact List.mem_cons_of_mem _ hs); omega) w' hg' hr'
    have HFL := Lib.hid hfl
    have hins : instrOf l = match fieldsOf (opOf x) rest with | some (g, f) => some ⟨[], g, opOf x, f⟩ | none => none := by
      simp [instrOf, HX.out, hk]
      rfl
    have HIN := Lib.hid hins
    have hrs : ∀ i s, rest[i]? = some s → w2.cell? ⟨w.heap.size + 1, i + 1, none⟩ = some (S s) := fun i s hs => by
      rw [HP.out.cell, HX.out]; simp [hs]
    have HRS := Lib.hid hrs
    clear hk hfl hins hrs
    generalize opOf x = k at *
    cases rest with
    | nil =>
      go_wp2_with fail
      refine (HFL.out _ _ _ (HG.out.belowH HB.out) (fun i s hs => by simp at hs)).mono ?_
      rintro e w3 ⟨g, f0, f1, f2, b, rfl, hb3, hsay⟩
      have hR3 := HR.out.belowH hb3
      have q0 : w3.cell? ⟨w.heap.size, 0, none⟩ = some (S []) := hR3.cell 0
      have q1 : w3.cell? ⟨w.heap.size, 1, none⟩ = some (S []) := hR3.cell 1
      have q2 : w3.cell? ⟨w.heap.size, 2, none⟩ = some (.int .i64 0) := hR3.cell 2
      have q3 : w3.cell? ⟨w.heap.size, 3, none⟩ = some (.int .i64 0) := hR3.cell 3
      have q4 : w3.cell? ⟨w.heap.size, 4, none⟩ = some (.int .i64 0) := hR3.cell 4
      have q5 : w3.cell? ⟨w.heap.size, 5, none⟩ = some (.int .i64 0) := hR3.cell 5
      have qf : ∀ j, w3.frozen? ⟨w.heap.size, j, none⟩ = false := fun j => hR3.frozen j
      have hB3 := Lib.hid (below_next HB.out hb3)
      have HSAY := Lib.hid hsay
      clear hb3 hR3 hsay r0 r1 r2 r3 r4 r5 rf hx0
      go_wp2_with fail
      refine bodyPost_ret (v := .tuple #[lineV [] g k f0 f1 f2, .bool b]) (by simp [results, Tryd.results56, go_sem, *]) rfl ⟨[], g, k, f0, f1, f2, b, rfl, ?_, ParseSay.of HIN.out HSAY.out⟩
      have hbb := hB3.out
      go_grown
    | cons y rest =>
      go_wp2_with fail
      refine (HFL.out _ _ _ (HG.out.belowH HB.out) (fun i s hs => ⟨_, rfl, by rw [add_off, Nat.add_comm 1 i]; exact HRS.out i s hs⟩)).mono ?_
      rintro e w3 ⟨g, f0, f1, f2, b, rfl, hb3, hsay⟩
      have hR3 := HR.out.belowH hb3
      have q0 : w3.cell? ⟨w.heap.size, 0, none⟩ = some (S []) := hR3.cell 0
      have q1 : w3.cell? ⟨w.heap.size, 1, none⟩ = some (S []) := hR3.cell 1
      have q2 : w3.cell? ⟨w.heap.size, 2, none⟩ = some (.int .i64 0) := hR3.cell 2
      have q3 : w3.cell? ⟨w.heap.size, 3, none⟩ = some (.int .i64 0) := hR3.cell 3
      have q4 : w3.cell? ⟨w.heap.size, 4, none⟩ = some (.int .i64 0) := hR3.cell 4
      have q5 : w3.cell? ⟨w.heap.size, 5, none⟩ = some (.int .i64 0) := hR3.cell 5
      have qf : ∀ j, w3.frozen? ⟨w.heap.size, j, none⟩ = false := fun j => hR3.frozen j
      have hB3 := Lib.hid (below_next HB.out hb3)
      have HSAY := Lib.hid hsay
      clear hb3 hR3 hsay r0 r1 r2 r3 r4 r5 rf hx0
      go_wp2_with fail
      refine bodyPost_ret (v := .tuple #[lineV [] g k f0 f1 f2, .bool b]) (by simp [results, Tryd.results56, go_sem, *]) rfl ⟨[], g, k, f0, f1, f2, b, rfl, ?_, ParseSay.of HIN.out HSAY.out⟩
      have hbb := hB3.out
      go_grown
end Go.Proofs.YtiegkhoidabkhaaDoor
