/- The laws' joined. -/
import Derived.Test.YtiegkhoidabkhaaDoorA6
import Derived.Test.YtiegkhoidabkhaaDoorA11
import Derived.Test.YtiegkhoidabkhaaDoorA21
import Derived.Test.YtiegkhoidabkhaaDoorB17
import Derived.Outline
namespace Go.Proofs.YtiegkhoidabkhaaDoor
open Go.Shelf Go.RowKit

def joinS (ls : List (List UInt8)) : List UInt8 := if joinOk ls = true then joinT ls else []
def LineOk (ls : List (List UInt8)) (k : Nat) : Prop := (joinT (ls.take k)).length + (ls.getD k []).length ≤ 2048 ∧ (10 : UInt8) ∉ ls.getD k []
theorem joinOk_no {ls : List (List UInt8)} {k : Nat} (hk : k < ls.length) (h : ¬ LineOk ls k) : joinOk ls = false := by
  have : ¬ (∀ k, k < ls.length → (joinT (ls.take k)).length + (ls.getD k []).length ≤ 2048 ∧ (10 : UInt8) ∉ ls.getD k []) := fun hh => h (hh k hk)
  simp only [joinOk, decide_eq_false this, Bool.and_false]
theorem joinOk_yes {ls : List (List UInt8)} (h6 : ls.length ≤ 60) (h : ∀ k, k < ls.length → LineOk ls k) : joinOk ls = true := by
  simp only [joinOk, Bool.and_eq_true, decide_eq_true_eq]
  exact ⟨h6, h⟩
theorem joinOk_many {ls : List (List UInt8)} (h6 : 60 < ls.length) : joinOk ls = false := by
  have : ¬ ls.length ≤ 60 := by omega
  simp only [joinOk, decide_eq_false this, Bool.false_and]
theorem getD_of {ls : List (List UInt8)} {k : Nat} {l : List UInt8} (h : ls[k]? = some l) : ls.getD k [] = l := by
  rw [List.getD_eq_getElem?_getD, h]; rfl
theorem joinT_next {ls : List (List UInt8)} {k : Nat} {l : List UInt8} (h : ls[k]? = some l) : joinT (ls.take (k + 1)) = if k = 0 then l else joinT (ls.take k) ++ 10 :: l := by
  have hk := (List.getElem?_eq_some_iff.1 h).1
  rw [List.take_add_one, h]
  show joinT (ls.take k ++ [l]) = _
  rw [joinT_snoc]
  by_cases h0 : k = 0
  · subst h0; simp
  · rw [if_neg h0, if_neg]
    intro e
    have := congrArg List.length e
    rw [List.length_take, List.length_nil] at this
    omega
def JoinPost (ls : List (List UInt8)) (w : World) (e : Ending) (w' : World) : Prop := e = .returned (.tuple #[S (joinS ls), .bool (joinOk ls)]) ∧ Below w.heap.size w w'
theorem JoinPost.no {ls : List (List UInt8)} {w w' : World} (h : joinOk ls = false) (hb : Below w.heap.size w w') : JoinPost ls w (.returned (.tuple #[S [], .bool false])) w' := by
  refine ⟨?_, hb⟩
  rw [joinS, h]; rfl
theorem JoinPost.yes {ls : List (List UInt8)} {w w' : World} (h : joinOk ls = true) (hb : Below w.heap.size w w') : JoinPost ls w (.returned (.tuple #[S (joinT ls), .bool true])) w' := by
  refine ⟨?_, hb⟩
  rw [joinS, h]; rfl

set_option maxRecDepth 100000 in
set_option maxHeartbeats 1000000 in
theorem joined_any (A : Option Addr) (ls : List (List UInt8)) (c : Nat) (w : World) (hr : RdStr w A ls) (hl : ls.length ≤ 9223372036854775807) (hll : ∀ s ∈ ls, s.length ≤ 9223372036854775807) :
    Calls Tryd.prog 17 #[.slice A ls.length c] w (JoinPost ls w) := by
  by_cases h60 : 60 < ls.length
  · have HP := Lib.hid (fun w' => JoinPost.no (w := w) (w' := w') (joinOk_many h60))
    have h60' : (60 : Int) < ls.length := by omega
    clear hr
    go_enter Tryd.func17, Tryd.ntmps17
    go_wp2
    go_ret2
    exact HP.out _ (Below.refl _ _)
  have HR := Lib.hid hr; have HL := Lib.hid hll
  have h60' : ¬ (60 : Int) < ls.length := by omega
  clear hr hll
  go_enter Tryd.func17, Tryd.ntmps17
  go_wp2
  go_loopw [4, 12] (fun v4 v12 wr => ∃ k : Nat, k ≤ ls.length ∧ v4 = S (joinT (ls.take k)) ∧ v12 = .int .i64 k ∧ (joinT (ls.take k)).length ≤ 2049 ∧ Hid (Below w.heap.size w wr) ∧ Hid (∀ j, j < k → LineOk ls j))
    (fun v4 v12 wr => ls.length - (intOf v12).toNat)
  case atStart => exact ⟨0, by omega, rfl, rfl, by simp [joinT], Below.refl _ _, fun j h => absurd h (by omega)⟩
  case round =>
    obtain ⟨k, hk, rfl, rfl, hjl, HB, HO⟩ := hrel
    by_cases hlt : k < ls.length
    · obtain ⟨l, hi⟩ : ∃ l, ls[k]? = some l := ⟨_, List.getElem?_eq_getElem hlt⟩
      obtain ⟨ad, rfl, hc⟩ := HR.out.belowH HB.out k l hi
      have hll := HL.out l (List.mem_of_getElem? hi)
      have hnx := joinT_next hi
      have hgd := getD_of hi
      have hno : ¬ ((joinT (ls.take k)).length + l.length ≤ 2048 ∧ (10 : UInt8) ∉ l) → joinOk ls = false := fun h => joinOk_no hlt (by unfold LineOk; rw [hgd]; exact h)
      have hyes : ((joinT (ls.take k)).length + l.length ≤ 2048 ∧ (10 : UInt8) ∉ l) → LineOk ls k := fun h => by unfold LineOk; rw [hgd]; exact h
      have HNO := Lib.hid hno; have HYES := Lib.hid hyes; have HNX := Lib.hid hnx
      clear hi hnx hgd hno hyes
      generalize hacc : joinT (ls.take k) = acc at *
      have HACC := Lib.hid hacc
      clear hacc
      by_cases h1 : 2048 < l.length
      · have HP := Lib.hid (fun w' => JoinPost.no (w := w) (w' := w') (HNO.out (by omega)))
        have h1' : (2048 : Int) < l.length := by omega
        go_wp2_with fail
        go_ret2
        exact HP.out _ HB.out
      · have h1' : ¬ (2048 : Int) < l.length := by omega
        by_cases h2 : 2048 < acc.length + l.length
        · have HP := Lib.hid (fun w' => JoinPost.no (w := w) (w' := w') (HNO.out (by omega)))
          have h2' : (2048 : Int) < (acc.length : Int) + l.length := by omega
          go_wp2_with fail
          go_ret2
          exact HP.out _ HB.out
        · have h2' : ¬ (2048 : Int) < (acc.length : Int) + l.length := by omega
          have hpc := fun w' => pieces_any l 10 (by omega) w'
          have hp1 := @pieces_one 10 l
          have HPC := Lib.hid hpc; have HP1 := Lib.hid hp1
          have hpl := (pieces_len 10 l).2
          clear hpc hp1
          go_wp2_with fail
          refine (HPC.out _).mono ?_
          rintro e w2 ⟨v, rfl, hown, hb2⟩
          obtain ⟨A2, c2, rfl⟩ := own_slice hown
          have HB2 := Lib.hid (below_next HB.out hb2)
          clear hown hb2 HB HPC
          generalize (pieces 10 l).length = np at *
          by_cases h3 : 1 < np
          · have HP := Lib.hid (fun w' => JoinPost.no (w := w) (w' := w') (HNO.out (fun hh => by have := HP1.out.2 hh.2; omega)))
            have h3' : (1 : Int) < np := by omega
            go_wp2_with fail
            go_ret2
            exact HP.out _ HB2.out
          · have h3' : ¬ (1 : Int) < np := by omega
            have h10 : (10 : UInt8) ∉ l := HP1.out.1 (by omega)
            have HLK := Lib.hid (HYES.out ⟨by omega, h10⟩)
            have hall : ∀ j, j < k + 1 → LineOk ls j := fun j hj => by
              by_cases h : j = k
              · rw [h]; exact HLK.out
              · exact HO.out j (by omega)
            have HALL := Lib.hid hall
            clear hall h10
            by_cases hk0 : k = 0
            · have hnx := HNX.out
              rw [if_pos hk0] at hnx
              have HN2 := Lib.hid hnx
              subst hk0
              have hac0 : acc = [] := by rw [← HACC.out]; rfl
              have HAC := Lib.hid hac0
              clear hnx HNX hac0
              go_wp2_with fail
              go_roundw
              case rel => exact ⟨1, by omega, by rw [HN2.out, HAC.out]; simp [ByteArray.mk_append_mk], by go_num, by rw [HN2.out]; omega, HB2, HALL⟩
              case measure => simp [intOf]; omega
            · have hnx := HNX.out
              rw [if_neg hk0] at hnx
              have HN2 := Lib.hid hnx
              have hk0' : (0 : Int) < k := by omega
              clear hnx HNX
              go_wp2_with fail
              go_roundw
              case rel => exact ⟨k + 1, by omega, by rw [HN2.out]; simp [ByteArray.mk_append_mk], by go_num, by rw [HN2.out]; simp; omega, HB2, HALL⟩
              case measure => simp [intOf]; omega
    · have hkl : k = ls.length := by omega
      subst hkl
      have HP := Lib.hid (fun w' => JoinPost.yes (w := w) (w' := w') (joinOk_yes (by omega) HO.out))
      rw [List.take_length]
      go_wp2_with fail
      go_ret2
      exact HP.out _ HB.out
end Go.Proofs.YtiegkhoidabkhaaDoor
