/- The reference's Pieces. -/
import Derived.Test.YtiegkhoidabkhaaDoorA5
import Derived.Test.YtiegkhoidabkhaaDoorB3
namespace Go.Proofs.YtiegkhoidabkhaaDoor
open Go.Shelf Go.RowKit

theorem infoStr : (Tryd.prog.info? 9).map (fun i => (i.zero, i.size, i.bytes)) = some (some (.string ⟨#[]⟩), 1, 16) := by kernel_rfl
theorem run_idx_str (w : World) (s : List UInt8) (i : Nat) (b : UInt8) (h : s[i]? = some b) : (Instr.index 9 (S s) (.int .i64 i)).run Tryd.prog w = .ok (.int .u8 b.toNat) w := by
  obtain ⟨hl, he⟩ := List.getElem?_eq_some_iff.1 h
  rw [run_index_string w 9 ⟨s.toArray⟩ .i64 i Tryd.underlying9, dif_pos ⟨by omega, by simp [ByteArray.size]; omega⟩]
  have : (⟨s.toArray⟩ : ByteArray)[(i : Int).toNat]'(by simp [ByteArray.size]; omega) = b := by
    rw [← he]; rfl
  rw [this]

theorem extract_S (s : List UInt8) (f i : Nat) : (⟨s.toArray⟩ : ByteArray).extract f i = ⟨((s.take i).drop f).toArray⟩ := by
  apply ByteArray.ext
  simp [ByteArray.data_extract, List.extract_eq_take_drop, List.drop_take]

set_option maxRecDepth 100000 in
set_option maxHeartbeats 1000000 in
theorem pieces_any (s : List UInt8) (c : UInt8) (hl : s.length ≤ 65536) (w : World) :
    Calls Tryd.prog 31 #[S s, .int .u8 c.toNat] w fun e w' => ∃ v, e = .returned v ∧ w'.ownsRow w.heap.size 9 1 v (pieces c s).length ((pieces c s).map S) ∧ Below w.heap.size w w' := by
  obtain ⟨i0, hi, hz0, hz1, hz2⟩ := info_parts infoStr
  go_enter Tryd.func31, Tryd.ntmps31
  go_wp2
  go_loopw [5, 6, 7] (fun v5 v6 v7 wr => ∃ (out : List (List UInt8)) (f i : Nat), f ≤ i ∧ i ≤ s.length + 1 ∧ v6 = .int .i64 f ∧ v7 = .int .i64 i ∧ Hid (wr.ownsRow w.heap.size 9 1 v5 out.length (out.map S)) ∧ Hid (Below w.heap.size w wr) ∧ out.length ≤ i ∧
      Hid (if i ≤ s.length then out ++ piecesFrom c ((s.take i).drop f) (s.drop i) = pieces c s else out = pieces c s))
    (fun v5 v6 v7 wr => s.length + 1 - (intOf v7).toNat)
  case atStart => exact ⟨[], 0, 0, by omega, by omega, rfl, rfl, ⟨by simp, .inl ⟨rfl, rfl⟩⟩, Below.refl _ _, by simp, by rw [if_pos (by omega)]; rfl⟩
  case round =>
    obtain ⟨out, f, i, hfi, hil, rfl, rfl, HO, HB, hol, HP⟩ := hrel
    by_cases hlt : i ≤ s.length
    · have hP := HP.out
      rw [if_pos hlt] at hP
      by_cases he : i = s.length
      · subst he
        clear hlt
        have hP' : out ++ [s.drop f] = pieces c s := by rw [← hP]; simp [piecesFrom]
        have HP' := Lib.hid hP'
        clear hP' hP HP
        go_wp2_with (at_builtin; refine wpList_append_own _ rfl _ _ 40 rfl w.heap.size 9 i0 (.string ⟨#[]⟩) 1 16 Tryd.underlying40 hi hz0 hz1 hz2 rfl (by decide) _ _ _ rfl (HO.out.alloc _) ⟨wr.heap.size, 0, none⟩ 1 1 [.string ((⟨s.toArray⟩ : ByteArray).extract f s.length)] rfl rfl ?c1 ?c2 ?c3 ?c4 ?c5 ?_)
        case c1 =>
          intro j u hj
          match j, hj with
          | 0, hj => simp at hj; subst hj; simp [Addr.add]
        case c2 => intro u hu; simp at hu; subst hu; rfl
        case c3 => unfold maxLen; omega
        case c4 => omega
        case c5 => have := HB.out.size; rw [World.size_alloc]; omega
        intro v' w2 hown' hgrow hat
        rw [extract_S] at hown'
        have hO2 : w2.ownsRow w.heap.size 9 1 v' (out ++ [(s.take s.length).drop f]).length ((out ++ [(s.take s.length).drop f]).map S) := by simpa using hown'
        have HO2 := Lib.hid hO2
        have hB2 : Below w.heap.size w w2 := (HB.out.alloc HB.out.size _).grown hgrow (by have := HB.out.size; simp; omega) (own_base HO.out)
        have HB2 := Lib.hid hB2
        clear hown' hgrow hat HO HB hO2 hB2
        go_wp2_with fail
        go_roundw
        case rel => exact ⟨out ++ [(s.take s.length).drop f], s.length + 1, s.length + 1, by omega, by omega, by go_num, by go_num, HO2, HB2, by (rw [List.length_append, List.length_singleton]; omega), Lib.hid (by rw [if_neg (by omega), List.take_length]; exact HP'.out)⟩
        case measure => (simp [intOf])

      · obtain ⟨b, hb⟩ : ∃ b, s[i]? = some b := ⟨_, List.getElem?_eq_getElem (by omega)⟩
        have hix := fun w' => run_idx_str w' s i b hb
        have hne : ((i : Int) == s.length) = false := by rw [beq_eq_false_iff_ne]; omega
        have hdrop : s.drop i = b :: s.drop (i + 1) := by
          obtain ⟨hl', he'⟩ := List.getElem?_eq_some_iff.1 hb
          rw [List.drop_eq_getElem_cons hl', he']
        rw [hdrop, piecesFrom] at hP
        have hlt2 : i < s.length := by omega
        have htk : (s.take (i + 1)).drop f = (s.take i).drop f ++ [b] := by
          rw [List.take_add_one, hb]
          rw [show (some b).toList = [b] from rfl, List.drop_append_of_le_length (by simp; omega)]
        have HTK := Lib.hid htk
        clear htk hdrop he hlt hb
        by_cases hbc : b = c
        · rw [if_pos hbc] at hP
          have HP' := Lib.hid hP
          have hcmp : ((b.toNat : Int) == (c.toNat : Int)) = true := by rw [hbc]; simp
          clear hP HP hbc
          go_wp2_with (at_builtin; refine wpList_append_own _ rfl _ _ 40 rfl w.heap.size 9 i0 (.string ⟨#[]⟩) 1 16 Tryd.underlying40 hi hz0 hz1 hz2 rfl (by decide) _ _ _ rfl (HO.out.alloc _) ⟨wr.heap.size, 0, none⟩ 1 1 [.string ((⟨s.toArray⟩ : ByteArray).extract f i)] rfl rfl ?c1 ?c2 ?c3 ?c4 ?c5 ?_)
          case c1 =>
            intro j u hj
            match j, hj with
            | 0, hj => simp at hj; subst hj; simp [Addr.add]
          case c2 => intro u hu; simp at hu; subst hu; rfl
          case c3 => unfold maxLen; omega
          case c4 => omega
          case c5 => have := HB.out.size; rw [World.size_alloc]; omega
          intro v' w2 hown' hgrow hat
          rw [extract_S] at hown'
          have hO2 : w2.ownsRow w.heap.size 9 1 v' (out ++ [(s.take i).drop f]).length ((out ++ [(s.take i).drop f]).map S) := by simpa using hown'
          have HO2 := Lib.hid hO2
          have hB2 : Below w.heap.size w w2 := (HB.out.alloc HB.out.size _).grown hgrow (by have := HB.out.size; simp; omega) (own_base HO.out)
          have HB2 := Lib.hid hB2
          clear hown' hgrow hat HO HB hO2 hB2
          go_wp2_with fail
          go_roundw
          case rel => exact ⟨out ++ [(s.take i).drop f], i + 1, i + 1, by omega, by omega, by go_num, by go_num, HO2, HB2, by (rw [List.length_append, List.length_singleton]; omega), Lib.hid (by rw [if_pos (by omega)]; simpa using HP'.out)⟩
          case measure => simp [intOf]; omega

        · rw [if_neg hbc] at hP
          have HP' := Lib.hid hP
          have hcmp : ((b.toNat : Int) == (c.toNat : Int)) = false := by
            rw [beq_eq_false_iff_ne]
            intro e
            exact hbc (UInt8.toNat_inj.1 (by omega))
          clear hP HP hbc
          go_wp2_with fail
          go_roundw
          case rel => exact ⟨out, f, i + 1, by omega, by omega, rfl, by go_num, HO, HB, by omega, Lib.hid (by rw [if_pos (by omega), HTK.out]; exact HP'.out)⟩
          case measure => simp [intOf]; omega
    · have hP := HP.out
      rw [if_neg hlt] at hP
      subst hP
      go_wp2
      go_ret
      exact ⟨u5, rfl, HO.out, HB.out⟩
end Go.Proofs.YtiegkhoidabkhaaDoor
