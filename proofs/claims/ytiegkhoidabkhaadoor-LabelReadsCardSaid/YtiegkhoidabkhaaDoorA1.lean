/- label.Write and what it calls. -/
import Derived.Test.YtiegkhoidabkhaaDoorA0
import Derived.Test.YtiegkhoidabkhaaDoorShelf
import Derived.Lib.AppendIntMem
import Derived.Deep.Light
import Derived.Lib.OthersKept
import Derived.Handy
import Derived.BigQuiet
import Derived.Deep.QuietTactic
namespace Go.Proofs.YtiegkhoidabkhaaDoor
open Go.RowKit

structure Ins where
  op : Int
  a : Int
  b : Int
  c : Int
def Ins.cells (x : Ins) : List Value := [.int .i64 x.op, .int .i64 x.a, .int .i64 x.b, .int .i64 x.c]
abbrev Ins.agg (x : Ins) : Value := .agg #[.int .i64 x.op, .int .i64 x.a, .int .i64 x.b, .int .i64 x.c]
structure Ins.Fit (x : Ins) : Prop where
  a0 : -9223372036854775808 ≤ x.a
  a1 : x.a ≤ 9223372036854775807
  b0 : -9223372036854775808 ≤ x.b
  b1 : x.b ≤ 9223372036854775807
  c0 : -9223372036854775808 ≤ x.c
  c1 : x.c ≤ 9223372036854775807
  o0 : -9223372036854775808 ≤ x.op
  o1 : x.op ≤ 9223372036854775807

theorem itoa_any (n : Int) (h0 : -9223372036854775808 ≤ n) (h1 : n ≤ 9223372036854775807) (w : World) (hg : Gl w) :
    Calls Tryd.prog 28 #[.int .i64 n] w fun e w' => e = .returned (S (Lib.itoa n)) ∧ Below w.heap.size w w' := by
  refine (Tryd.strconv_Itoa n h0 h1 w hg.pow).mono ?_
  rintro e w' ⟨rfl, k, os, rfl⟩
  exact ⟨rfl, Lib.below_grow _ _ (Nat.le_refl _) _ _⟩

theorem nDigits_le : ∀ (k u : Nat), u < 10 ^ k → 1 ≤ k → Lib.nDigits u ≤ k
  | 0, _, _, h => by omega
  | 1, u, h, _ => by rw [Lib.nDigits_small (by omega)]; exact Nat.le_refl _
  | k + 2, u, h, _ => by
    by_cases hu : u < 10
    · rw [Lib.nDigits_small hu]; omega
    · rw [Lib.nDigits_big hu]
      have := nDigits_le (k + 1) (u / 10) (by rw [Nat.pow_succ] at h; omega) (by omega)
      omega
theorem itoa_len (n : Int) (h0 : -9223372036854775808 ≤ n) (h1 : n ≤ 9223372036854775807) : (Lib.itoa n).length ≤ 20 := by
  unfold Lib.itoa
  split
  · rw [List.length_cons, Lib.decDigits_length]
    have := nDigits_le 19 n.natAbs (by omega) (by omega)
    omega
  · rw [Lib.decDigits_length]
    have := nDigits_le 19 n.toNat (by omega) (by omega)
    omega

def goalT (pre : List UInt8) (n : Int) : List UInt8 := pre ++ Lib.itoa n

theorem goal_any (n : Int) (h0 : -9223372036854775808 ≤ n) (h1 : n ≤ 9223372036854775807) (w : World) (hg : Gl w) :
    Calls Tryd.prog 23 #[.int .i64 n] w fun e w' => e = .returned (S (goalT [112] n)) ∧ Below w.heap.size w w' := by
  have hc := itoa_any n h0 h1 w hg
  have hl := itoa_len n h0 h1
  have HG := Lib.hid hg; clear hg
  go_enter Tryd.func23, Tryd.ntmps23
  go_wp2_with (go_at_call 28; refine hc.mono ?_; rintro e w1 ⟨rfl, hb⟩)
  go_ret
  exact ⟨rfl, hb⟩

def shapeOf (k : Int) : List UInt8 := shapeL.getD k.toNat []
def toldB (x : Ins) (n : Int) : Bool := decide (0 ≤ x.op) && decide (x.op < 22) && (decide (0 < (shapeOf x.op).length) || x.a == 0) && (decide (1 < (shapeOf x.op).length) || x.b == 0) && (decide (2 < (shapeOf x.op).length) || x.c == 0)
  && (!((shapeOf x.op).head? == some 103) || (decide (0 ≤ x.a) && decide (x.a ≤ n)))

theorem Gl.shape {w : World} (hg : Gl w) (k : Int) (_ : 0 ≤ k) (h1 : k < 22) : w.cell? ⟨0, k.toNat, none⟩ = some (S (shapeOf k)) := by
  obtain ⟨fr, hs⟩ := hg.shapes
  rw [cell_of_row w 0 _ _ _ _ hs]
  have h22 : k.toNat < shapeL.length := by simp [shapeL]; omega
  simp [strs, shapeOf, List.getD_eq_getElem?_getD, List.getElem?_eq_getElem h22]
def wordOf (k : Int) : List UInt8 := wordL.getD k.toNat []
theorem Gl.word {w : World} (hg : Gl w) (k : Int) (_ : 0 ≤ k) (h1 : k < 22) : w.cell? ⟨1, k.toNat, none⟩ = some (S (wordOf k)) := by
  obtain ⟨fr, hs⟩ := hg.words
  rw [cell_of_row w 1 _ _ _ _ hs]
  have h22 : k.toNat < wordL.length := by simp [wordL]; omega
  simp [strs, wordOf, List.getD_eq_getElem?_getD, List.getElem?_eq_getElem h22]
theorem idx0 (a b c : Value) (w : World) : (Instr.index 92 (.agg #[a, b, c]) (.int .i64 0)).run Tryd.prog w = .ok a w := by kernel_rfl
theorem idx1 (a b c : Value) (w : World) : (Instr.index 92 (.agg #[a, b, c]) (.int .i64 1)).run Tryd.prog w = .ok b w := by kernel_rfl
theorem idx2 (a b c : Value) (w : World) : (Instr.index 92 (.agg #[a, b, c]) (.int .i64 2)).run Tryd.prog w = .ok c w := by kernel_rfl
theorem ret_bool {a b : Bool} (h : a = b) : Ending.returned (.bool a) = .returned (.bool b) := by rw [h]
theorem hasPrefix_g (l : List UInt8) : Lib.hasPrefix l [103] = (l.head? == some 103) := by
  cases l with
  | nil => rfl
  | cons c l =>
    show ((103 : UInt8) == c && true) = (some c == some (103 : UInt8))
    rw [Bool.and_true, Bool.eq_iff_iff, beq_iff_eq, beq_iff_eq]
    exact ⟨fun h => by rw [h], fun h => by injection h with h; exact h.symm⟩
set_option maxRecDepth 100000 in
theorem shape_len (k : Int) : (shapeOf k).length ≤ 3 := by
  unfold shapeOf
  have h : ∀ x ∈ shapeL, x.length ≤ 3 := by decide +kernel
  rw [List.getD_eq_getElem?_getD]
  cases hq : shapeL[k.toNat]? with
  | none => simp
  | some s => exact h s (List.mem_of_getElem? hq)

set_option maxRecDepth 100000 in
set_option maxHeartbeats 1000000 in
theorem told_any (x : Ins) (n : Int) (w : World) (hg : Gl w) :
    Calls Tryd.prog 21 #[x.agg, .int .i64 n] w fun e w' => e = .returned (.bool (toldB x n)) ∧ Below w.heap.size w w' := by
  by_cases h1 : x.op < 0
  · go_enter Tryd.func21, Tryd.ntmps21
    go_wp2
    go_ret
    exact ⟨by simp [toldB]; omega, by go_grown⟩
  by_cases h2 : 22 ≤ x.op
  · have h1' : 0 ≤ x.op := by omega
    go_enter Tryd.func21, Tryd.ntmps21
    go_wp2
    go_ret
    exact ⟨by simp [toldB]; omega, by go_grown⟩
  have h1' : 0 ≤ x.op := by omega
  have h2' : x.op < 22 := by omega
  have hcell := hg.shape x.op h1' h2'
  have h10 := hg.size
  clear h1 h2 hg
  have hl := shape_len x.op
  generalize hsh : shapeOf x.op = sh at hcell hl
  have HSH := Lib.hid hsh; clear hsh
  have hcell' : ∀ o, (w.alloc o).cell? ⟨0, x.op.toNat, none⟩ = some (S sh) := fun o => by rw [World.cell?_alloc_lt _ _ _ (by show 0 < _; omega)]; exact hcell
  clear hcell
  have j0 := fun a b c => idx0 a b c
  have j1 := fun a b c => idx1 a b c
  have j2 := fun a b c => idx2 a b c
  go_enter Tryd.func21, Tryd.ntmps21
  go_wp2
  refine wp_loop_rounds 4 ?_
  repeat any_goals (rw [rounds_succ]; go_wp2_with (go_at_call 37; refine (Tryd.strings_HasPrefix _ _ _).mono ?_; rintro e w' ⟨rfl, rfl⟩))
  all_goals go_ret
  all_goals refine ⟨ret_bool ?_, by go_grown⟩
  all_goals
    go_light
    try simp only [hasPrefix_g] at *
    simp only [toldB, HSH.out]
    clear hcell' j0 j1 j2 HSH
  all_goals
    rcases sh with _ | ⟨c0, _ | ⟨c1, _ | ⟨c2, _ | ⟨c3, sh⟩⟩⟩⟩
    all_goals first
      | (simp_all; done)
      | (simp_all; omega)
      | (simp_all; intros; omega)
      | skip
  go_goals

def fieldT (pre : List UInt8) (k : UInt8) (n : Int) : List UInt8 := 32 :: (if k = 103 then pre ++ Lib.itoa n else Lib.itoa n)
def Ins.nums (x : Ins) : List Int := [x.a, x.b, x.c]
def tellAt (pre : List UInt8) (x : Ins) (k : Nat) : List UInt8 := wordOf x.op ++ (((shapeOf x.op).zip x.nums).take k).flatMap fun p => fieldT pre p.1 p.2
def tellT (pre : List UInt8) (x : Ins) : List UInt8 := wordOf x.op ++ ((shapeOf x.op).zip x.nums).flatMap fun p => fieldT pre p.1 p.2
theorem tellAt_zero (pre : List UInt8) (x : Ins) : tellAt pre x 0 = wordOf x.op := by simp [tellAt]
theorem tellAt_succ (pre : List UInt8) (x : Ins) (k : Nat) (c : UInt8) (n : Int) (hc : (shapeOf x.op)[k]? = some c) (hn : x.nums[k]? = some n) : tellAt pre x (k + 1) = tellAt pre x k ++ fieldT pre c n := by
  have h : ((shapeOf x.op).zip x.nums)[k]? = some (c, n) := by rw [List.getElem?_zip_eq_some]; exact ⟨hc, hn⟩
  unfold tellAt
  rw [List.take_add_one, h]
  simp
theorem tellAt_all (pre : List UInt8) (x : Ins) (k : Nat) (h : (shapeOf x.op).length ≤ k) : tellAt pre x k = tellT pre x := by
  unfold tellAt tellT
  rw [List.take_of_length_le (by rw [List.length_zip]; omega)]
theorem word_len (k : Int) : (wordOf k).length ≤ 6 := by
  unfold wordOf
  have h : ∀ x ∈ wordL, x.length ≤ 6 := by decide +kernel
  rw [List.getD_eq_getElem?_getD]
  cases hq : wordL[k.toNat]? with
  | none => simp
  | some s => exact h s (List.mem_of_getElem? hq)
theorem shape_ascii (k : Int) (j : Nat) (c : UInt8) (hc : (shapeOf k)[j]? = some c) : c = 103 ∨ c = 110 := by
  unfold shapeOf at hc
  have h : ∀ x ∈ shapeL, ∀ c ∈ x, c = 103 ∨ c = 110 := by decide +kernel
  rw [List.getD_eq_getElem?_getD] at hc
  cases hq : shapeL[k.toNat]? with
  | none => rw [hq] at hc; simp at hc
  | some s =>
    rw [hq] at hc
    exact h s (List.mem_of_getElem? hq) c (List.mem_of_getElem? hc)

end Go.Proofs.YtiegkhoidabkhaaDoor
