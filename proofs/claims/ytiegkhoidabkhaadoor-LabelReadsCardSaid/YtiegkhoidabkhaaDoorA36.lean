/- The reference's Read. -/
import Derived.Test.YtiegkhoidabkhaaDoorA35
import Derived.Test.YtiegkhoidabkhaaDoorA21
import Derived.Outline
namespace Go.Proofs.YtiegkhoidabkhaaDoor
open Go.Shelf Go.RowKit

theorem ref_long (text : List UInt8) (hl : 4096 < text.length) (hl2 : text.length ≤ 9223372036854775807) (w : World) : Calls Tryd.prog 16 #[S text] w (RefPost text w) := by
  have hrd : readS text = .inl (0, 3) := by rw [readS, if_pos hl]
  have HP := Lib.hid (fun w' => RefPost.err (w := w) (w' := w') hrd)
  have hl3 : (4096 : Int) < text.length := by omega
  clear hrd
  generalize RefPost text w = R at *
  go_enter Tryd.func16, Tryd.ntmps16
  go_wp2
  refine bodyPost_ret (v := .tuple #[.slice none 0 0, .slice none 0 0, .int .i64 0, .int .i64 3]) (by simp [results, Tryd.results16, go_sem, *]) rfl ?_
  exact HP.out _ (Below.refl _ _)

theorem line_small {text : List UInt8} (h : text.length ≤ 4096) : ∀ l ∈ pieces 10 text, l.length ≤ 4096 := fun l hl => Nat.le_trans (pieces_le 10 text l hl) h
theorem read_stop {text : List UInt8} (h : text.length ≤ 4096) {i : Nat} {l : List UInt8} (hi : (pieces 10 text)[i]? = some l) (hne : l ≠ []) {si : Sheet} (hs : runS (numL 1 ((pieces 10 text).take i)) = some si) (ht : takeS si (i + 1 : Nat) l = none) :
    readS text = .inl ((i : Int) + 1, 60) := by
  rw [readS, if_neg (by omega)]
  unfold linesOf
  rw [walkS_line_no (line_small h) hi hne hs ht]
theorem read_on {text : List UInt8} (h : text.length ≤ 4096) {s : Sheet} (hs : runS (numL 1 (pieces 10 text)) = some s) : readS text = endS s := by
  rw [readS, if_neg (by omega)]
  unfold linesOf
  rw [runS_walk _ _ hs]

theorem rd_marks {w : World} {B : Nat} {v : Value} {ms : List Place} (h : OwnM w B v (ms.map Place.key)) : ∃ A c, v = .slice A ms.length c ∧ RdMk w A (ms.map Place.key) := by
  obtain ⟨A, c, rfl, hr⟩ := rd_own_marks h
  exact ⟨A, c, by rw [List.length_map], hr⟩
set_option maxRecDepth 100000 in
set_option maxHeartbeats 4000000 in
theorem ref_short (text : List UInt8) (hl : text.length ≤ 4096) (w : World) : Calls Tryd.prog 16 #[S text] w (RefPost text w) := by
  have hl3 : ¬ (4096 : Int) < text.length := by omega
  obtain ⟨i0, hi0, hz00, hz01, hz02⟩ := info_parts info57
  obtain ⟨i1, hi1, hz10, hz11, hz12⟩ := info_parts info51
  go_enter Tryd.func16, Tryd.ntmps16
  go_wp2_with fail
  refine (pieces_any text 10 (by omega) _).mono ?_
  rintro e w1 ⟨lv, rfl, hown, hb1⟩
  have hpl := pieces_len 10 text
  obtain ⟨g, cap, rfl, hgB, hgl, hnc, hcm⟩ := own_cap hown (by omega)
  have hLL : (pieces 10 text).length ≤ 4097 := by omega
  have HR0 := Lib.hid (show RM w (pieces 10 text) (.slice (some ⟨g, 0, none⟩) (pieces 10 text).length cap) (.slice none 0 0) (.slice none 0 0) [] [] w1 from
    ⟨World.ownsRow_nil _ _ _ _, World.ownsRow_nil _ _ _ _, hown, hb1⟩)
  clear hown hb1 hpl hl3
  have HSM := Lib.hid (line_small hl)
  have HST := Lib.hid (fun i l hi hne si hs ht => @read_stop text hl i l hi hne si hs ht)
  have HON := Lib.hid (fun s hs => @read_on text hl s hs)
  generalize hLdef : pieces 10 text = L at *
  clear hLdef
  go_wp2_with fail
  go_loopw [6, 7, 26] (fun v6 v7 v26 wr => ∃ (i : Nat) (s : Sheet), i ≤ L.length ∧ v26 = .int .i64 i ∧ Hid (runS (numL 1 (L.take i)) = some s) ∧ Hid (RM w L (.slice (some ⟨g, 0, none⟩) L.length cap) v6 v7 s.prog (s.marks.map Place.key) wr))
    (fun v6 v7 v26 wr => L.length - (intOf v26).toNat)
  case atStart => exact ⟨0, Sheet.empty, by omega, rfl, rfl, HR0⟩
  case round =>
    clear HR0
    obtain ⟨i, s, hil, rfl, HRUN, HM⟩ := hrel
    obtain ⟨Ap, cp, rfl⟩ := own_slice HM.out.op
    obtain ⟨Am, cm, rfl, hrm⟩ := rd_marks HM.out.om
    have hgood := runS_good _ s HRUN.out
    have h48 := hgood.few
    have hfew : (s.marks.map Place.key).length ≤ 5000 := by
      have h1 := (runS_ok _ s HRUN.out).few
      have h2 := numL_len (L.take i) 1
      rw [List.length_take] at h2
      rw [List.length_map]
      omega
    have HRM := Lib.hid hrm
    have HGOOD := Lib.hid hgood
    clear hrm hgood
    by_cases hlt : i < L.length
    · obtain ⟨l, hi⟩ : ∃ l, L[i]? = some l := ⟨_, List.getElem?_eq_getElem hlt⟩
      have hc : wr.cell? ⟨g, i, none⟩ = some (S l) := by
        rw [HM.out.os.cellAt i (by omega), List.getElem?_map, hi]; rfl
      have hls := HSM.out l (List.mem_of_getElem? hi)
      have HI := Lib.hid hi
      clear hi
      by_cases hne : l = []
      · subst hne
        have hnum : runS (numL 1 (L.take (i + 1))) = some s := by rw [numL_snoc HI.out, if_pos rfl, List.append_nil]; exact HRUN.out
        have HNUM := Lib.hid hnum
        clear hnum
        go_wp2_with fail
        go_roundw
        case rel => exact ⟨i + 1, s, by omega, by go_num, HNUM, HM⟩
        case measure => simp [intOf]; omega
      · have hsaid := fun w' => said_ref l hne (by omega) w'
        have hlb : (l == []) = false := by rw [beq_eq_false_iff_ne]; exact hne
        have HNE := Lib.hid hne
        have HSAID := Lib.hid hsaid
        clear hne hsaid
        go_wp2_with fail
        refine (HSAID.out _).mono ?_
        rintro e w2 ⟨m, gg, op, a, b, c, ok, rfl, hb2, hsay⟩
        have HM2 := Lib.hid (HM.out.belowH hb2)
        have HRM2 := Lib.hid (HRM.out.belowH hb2)
        clear hb2 HM HRM hc
        unfold ParseSay at hsay
        cases hp : parseOf l with
        | none =>
          rw [hp] at hsay
          subst hsay
          have hrd := HST.out i l HI.out HNE.out s HRUN.out (by unfold takeS; rw [hp])
          have HP := Lib.hid (fun w' => RefPost.err (w := w) (w' := w') hrd)
          clear hrd hp
          go_wp2_with fail
          refine bodyPost_ret (v := .tuple #[.slice none 0 0, .slice none 0 0, .int .i64 ((i : Int) + 1), .int .i64 60]) (by simp [results, Tryd.results16, go_sem, *]) rfl (HP.out _ ?_)
          exact HM2.out.be.alloc HM2.out.be.size _
        | some y =>
          rw [hp] at hsay
          obtain ⟨rfl, rfl, rfl, rfl, hf⟩ := hsay
          have HF := Lib.hid hf
          clear hf
          by_cases hh : l.head? = some 58
          · obtain ⟨hm, hgo, htl⟩ := parse_mark_head hp hh
            clear htl
            have htk : takeS s (i + 1 : Nat) l = takeMark s (i + 1 : Nat) y.mark := by
              unfold takeS
              rw [hp]
              simp only [if_neg hm]
            have hmb : (y.mark == []) = false := by rw [beq_eq_false_iff_ne]; exact hm
            have hmb2 : (y.mark != []) = true := by rw [bne_iff_ne]; exact hm
            have hmb3 : y.mark.isEmpty = false := by simpa using hm
            have hat := fun wo hrm' => at_ref Am (s.marks.map Place.key) cm y.mark wo hrm' (by omega)
            simp only [atR_marks, List.length_map] at hat
            have HAT := Lib.hid hat; have HTK := Lib.hid htk
            clear hat htk hm hgo hh hp
            generalize hmk : y.mark = m at *
            clear hmk
            go_wp2_with fail
            refine forgetC (fun wo => RM w L (.slice (some ⟨g, 0, none⟩) L.length cap) (.slice Ap s.prog.length cp) (.slice Am s.marks.length cm) s.prog (s.marks.map Place.key) wo ∧ RdMk wo Am (s.marks.map Place.key) ∧ Ob wo w2.heap.size (.cells (lineCells m y.goal y.op a b c) 80))
              ⟨HM2.out.alloc _, HRM2.out.belowH ((Below.refl _ _).alloc (Nat.le_refl _) _), Ob.new _ _⟩ ?_
            clear HM2 HRM2
            rintro wo ⟨hM3, hRM3, hO3⟩
            with_reducible refine (HAT.out _ hRM3).mono ?_
            rintro e w3 ⟨rfl, hb3⟩
            have HM := Lib.hid (hM3.belowH hb3)
            have hO := hO3.belowH hb3
            have o0 : w3.cell? ⟨w2.heap.size, 0, none⟩ = some (S m) := hO.cell 0
            clear hM3 hRM3 hO3 hb3 hO HAT
            by_cases hhm : hasMark s.marks m = true
            · rw [if_pos hhm]
              have hpos : 0 ≤ atMark s.marks m := (atMark_le (n := s.prog.length) HGOOD.out.marks m).1
              have hrd := HST.out i l HI.out HNE.out s HRUN.out (by rw [HTK.out, takeMark, if_pos hhm])
              have HP := Lib.hid (fun w' => RefPost.err (w := w) (w' := w') hrd)
              clear hrd hhm
              generalize atMark s.marks m = q at *
              go_wp2_with fail
              refine bodyPost_ret (v := .tuple #[.slice none 0 0, .slice none 0 0, .int .i64 ((i : Int) + 1), .int .i64 60]) (by simp [results, Tryd.results16, go_sem, *]) rfl (HP.out _ ?_)
              exact HM.out.be
            · rw [if_neg hhm]
              have hnum : runS (numL 1 (L.take (i + 1))) = some { s with marks := s.marks ++ [⟨m, (i + 1 : Nat), s.prog.length⟩] } := by
                rw [numL_snoc HI.out, if_neg HNE.out, runS_snoc, HRUN.out]
                show takeS s ((1 + i : Nat) : Int) (l.take 4096) = _
                rw [List.take_of_length_le hls, Nat.add_comm, HTK.out, takeMark, if_neg hhm]
              have HNUM := Lib.hid hnum
              clear hnum hhm
              have hom := HM.out.om
              simp only [OwnM, List.length_map] at hom
              have HOM := Lib.hid hom
              clear hom
              go_wp2_with (at_builtin; refine wpList_append_own _ rfl _ _ 33 rfl w.heap.size 51 i1 (.agg #[S [], .int .i64 0]) 2 24 Tryd.underlying33 hi1 hz10 hz11 hz12 rfl (by decide) _ _ _ rfl (HOM.out.alloc _) ⟨w3.heap.size, 0, none⟩ 1 1 [S m, .int .i64 s.prog.length] rfl rfl ?c1 ?c2 ?c3 ?c4 ?c5 ?_)
              case c1 =>
                intro j u hj
                match j, hj with
                | 0, hj => simp at hj; subst hj; simp [Addr.add]
                | 1, hj => simp at hj; subst hj; simp [Addr.add]
              case c2 => intro u hu; simp at hu; rcases hu with rfl | rfl <;> rfl
              case c3 => unfold maxLen; simp at hfew; omega
              case c4 => simp at hfew; omega
              case c5 => have := HM.out.be.size; rw [World.size_alloc]; omega
              intro v' w5 hown' hgrow hat5
              have hM5 : RM w L (.slice (some ⟨g, 0, none⟩) L.length cap) (.slice Ap s.prog.length cp) v' s.prog (s.marks.map Place.key ++ [(m, (s.prog.length : Int))]) w5 := (HM.out.alloc (.cells #[S m, .int .i64 s.prog.length] 51)).addM (by
                unfold OwnM
                rw [List.length_append, List.length_map, List.flatMap_append]
                exact hown') hgrow
              have HM5 := Lib.hid hM5
              clear hown' hgrow hat5 hM5 HM HOM o0
              go_wp2_with fail
              go_roundw
              case rel => exact ⟨i + 1, _, by omega, by go_num, HNUM, Lib.hid (by rw [List.map_append]; exact HM5.out)⟩
              case measure => simp [intOf]; omega
          · obtain ⟨hm, hin⟩ := parse_instr_head hp hh
            have htk : takeS s (i + 1 : Nat) l = takeIns s (i + 1 : Nat) y := by
              unfold takeS
              rw [hp]
              simp only [if_pos hm]
            have HTK := Lib.hid htk; have HMM := Lib.hid hm
            clear htk hin hh hp
            rw [hm]
            have hx : insOf y = ⟨y.op, a, b, c⟩ := by simp [insOf, HF.out]
            have HX := Lib.hid hx
            clear hm hx
            by_cases h48' : s.prog.length = 48
            · have hrd := HST.out i l HI.out HNE.out s HRUN.out (by rw [HTK.out, takeIns, if_pos (by omega)])
              have HP := Lib.hid (fun w' => RefPost.err (w := w) (w' := w') hrd)
              have h48b : ((s.prog.length : Int) == 48) = true := by rw [beq_iff_eq]; omega
              clear hrd
              go_wp2_with fail
              refine bodyPost_ret (v := .tuple #[.slice none 0 0, .slice none 0 0, .int .i64 ((i : Int) + 1), .int .i64 60]) (by simp [results, Tryd.results16, go_sem, *]) rfl (HP.out _ ?_)
              exact HM2.out.be.alloc HM2.out.be.size _
            · have h48b : ((s.prog.length : Int) == 48) = false := by rw [beq_eq_false_iff_ne]; omega
              have hnum : runS (numL 1 (L.take (i + 1))) = some { s with prog := s.prog ++ [insOf y], goals := if y.goal = [] then s.goals else s.goals ++ [⟨y.goal, (i + 1 : Nat), s.prog.length⟩] } := by
                rw [numL_snoc HI.out, if_neg HNE.out, runS_snoc, HRUN.out]
                show takeS s ((1 + i : Nat) : Int) (l.take 4096) = _
                rw [List.take_of_length_le hls, Nat.add_comm, HTK.out, takeIns, if_neg (by omega)]
              have HNUM := Lib.hid hnum
              clear hnum
              go_wp2_with (at_builtin; refine wpList_append_own _ rfl _ _ 22 rfl w.heap.size 57 i0 (.agg #[.int .i64 0, .int .i64 0, .int .i64 0, .int .i64 0]) 4 32 Tryd.underlying22 hi0 hz00 hz01 hz02 rfl (by decide) _ _ _ rfl ((HM2.out.op.alloc _).alloc _) ⟨w2.heap.size + 1, 0, none⟩ 1 1 [.int .i64 y.op, .int .i64 a, .int .i64 b, .int .i64 c] rfl rfl ?c1 ?c2 ?c3 ?c4 ?c5 ?_)
              case c1 =>
                intro j u hj
                match j, hj with
                | 0, hj => simp at hj; subst hj; simp [Addr.add]
                | 1, hj => simp at hj; subst hj; simp [Addr.add]
                | 2, hj => simp at hj; subst hj; simp [Addr.add]
                | 3, hj => simp at hj; subst hj; simp [Addr.add]
              case c2 => intro u hu; simp at hu; rcases hu with rfl | rfl | rfl | rfl <;> rfl
              case c3 => unfold maxLen; omega
              case c4 => omega
              case c5 => have := HM2.out.be.size; rw [World.size_alloc, World.size_alloc]; omega
              intro v' w5 hown' hgrow hat5
              have hM5 : RM w L (.slice (some ⟨g, 0, none⟩) L.length cap) v' (.slice Am s.marks.length cm) (s.prog ++ [insOf y]) (s.marks.map Place.key) w5 := ((HM2.out.alloc _).alloc _).addI (by
                unfold OwnI
                rw [List.length_append, List.flatMap_append, HX.out]
                exact hown') hgrow
              have HM5 := Lib.hid hM5
              clear hown' hgrow hat5 hM5 HM2
              go_wp2_with fail
              go_roundw
              case rel => exact ⟨i + 1, _, by omega, by go_num, HNUM, HM5⟩
              case measure => simp [intOf]; omega
    · have hrun := HRUN.out
      rw [show i = L.length by omega, List.take_length] at hrun
      have hrd := HON.out s hrun
      have HRUN := Lib.hid hrun; have HRD := Lib.hid hrd
      have HM0 := HM
      clear hrun hrd HM HRM HST HON
      go_wp2_with fail
      go_loopw [13, 83] (fun v13 v83 wr => ∃ (j : Nat) (sj : Sheet) (p : List Ins), j ≤ L.length ∧ v83 = .int .i64 j ∧ v13 = .int .i64 sj.prog.length ∧ p.length = s.prog.length ∧ Hid (runS (numL 1 (L.take j)) = some sj) ∧ Hid (RM w L (.slice (some ⟨g, 0, none⟩) L.length cap) (.slice Ap s.prog.length cp) (.slice Am s.marks.length cm) p (s.marks.map Place.key) wr) ∧
          Hid (goalsS s.marks s.prog s.goals = goalsS s.marks p (s.goals.drop sj.goals.length)))
        (fun v13 v83 wr => L.length - (intOf v83).toNat)
      case atStart => exact ⟨0, Sheet.empty, s.prog, by omega, rfl, rfl, rfl, rfl, HM0, rfl⟩
      case round =>
        clear HM0
        obtain ⟨j, sj, p, hjl, rfl, rfl, hpl, HJ, HM, HG⟩ := hrel
        by_cases hlt : j < L.length
        · obtain ⟨l, hi⟩ : ∃ l, L[j]? = some l := ⟨_, List.getElem?_eq_getElem hlt⟩
          have hc : wr.cell? ⟨g, j, none⟩ = some (S l) := by
            rw [HM.out.os.cellAt j (by omega), List.getElem?_map, hi]; rfl
          have hls := HSM.out l (List.mem_of_getElem? hi)
          have hline := run_line HRUN.out HSM.out hi HJ.out
          have HI := Lib.hid hi; have HLN := Lib.hid hline
          clear hi hline
          by_cases hne : l = []
          · subst hne
            have hnum : runS (numL 1 (L.take (j + 1))) = some sj := by rw [numL_snoc HI.out, if_pos rfl, List.append_nil]; exact HJ.out
            have HNUM := Lib.hid hnum
            clear hnum
            go_wp2_with fail
            go_roundw
            case rel => exact ⟨j + 1, sj, p, by omega, by go_num, rfl, hpl, HNUM, HM, HG⟩
            case measure => simp [intOf]; omega
          · obtain ⟨sn, htk, hrn, hpre⟩ := (HLN.out.resolve_left fun h => hne h.1).2
            have hlen := run_len HRUN.out hrn
            have hlb : (l == []) = false := by rw [beq_eq_false_iff_ne]; exact hne
            have HNE := Lib.hid hne; have HTK := Lib.hid htk; have HRN := Lib.hid hrn; have HPRE := Lib.hid hpre
            have hsaid := fun w' => said_ref l hne (by omega) w'
            have HSAID := Lib.hid hsaid
            obtain ⟨c0, l0, hcl⟩ : ∃ c r, l = c :: r := by
              cases l with
              | nil => exact absurd rfl hne
              | cons c r => exact ⟨c, r, rfl⟩
            have hix : ∀ w', (Instr.index 9 (S l) (.int .i64 0)).run Tryd.prog w' = .ok (.int .u8 c0.toNat) w' := fun w' => by rw [hcl]; exact idx_zero w' c0 l0
            have hhd : l.head? = some c0 := by rw [hcl]; rfl
            have HHD := Lib.hid hhd
            clear hne htk hrn hpre hsaid hcl hhd HLN
            by_cases h58 : c0 = 58
            · obtain ⟨e1, e2, _⟩ := take_mark_is HTK.out (by rw [HHD.out, h58])
              have h58b : ((c0.toNat : Int) == 58) = true := by rw [h58]; rfl
              have HE1 := Lib.hid e1; have HE2 := Lib.hid e2
              clear e1 e2 h58
              go_wp2_with fail
              go_roundw
              case rel => exact ⟨j + 1, sn, p, by omega, by go_num, by rw [HE1.out], hpl, HRN, HM, Lib.hid (by rw [HE2.out]; exact HG.out)⟩
              case measure => simp [intOf]; omega
            · obtain ⟨y, hin, hlt48, hpr, _, hgo⟩ := take_instr_is HTK.out (by rw [HHD.out]; simpa using h58)
              have h58b : ((c0.toNat : Int) == 58) = false := by
                rw [beq_eq_false_iff_ne]; intro e
                exact h58 (by rw [← UInt8.toNat_inj]; have : (58 : UInt8).toNat = 58 := rfl; omega)
              have hpar : parseOf l = some y := by rw [parseOf, if_neg (by rw [HHD.out]; simpa using h58)]; exact hin
              have hkl : sj.prog.length < p.length := by rw [hpl]; rw [hpr] at hlen; simp at hlen; omega
              have hsk : ((sn.prog.length : Nat) : Int) = sj.prog.length + 1 := by rw [hpr]; simp
              have HSK := Lib.hid hsk; have HGO := Lib.hid hgo; have HPAR := Lib.hid hpar
              clear hin hpr hgo h58 hpar hlen hsk
              go_wp2_with fail
              refine (HSAID.out _).mono ?_
              rintro e w2 ⟨m, gg, op, a, b, c, ok, rfl, hb2, hsay⟩
              rw [HPAR.out] at hsay
              obtain ⟨rfl, rfl, rfl, rfl, hf⟩ := hsay
              have HM2 := Lib.hid (HM.out.belowH hb2)
              clear hb2 HM hc hf
              by_cases hgn : y.goal = []
              · have HGE := Lib.hid (show sn.goals = sj.goals by rw [HGO.out, if_pos hgn])
                rw [hgn]
                clear hgn
                go_wp2_with fail
                go_roundw
                case rel => exact ⟨j + 1, sn, p, by omega, by go_num, by rw [HSK.out], hpl, HRN, HM2.out.alloc _, Lib.hid (by rw [HGE.out]; exact HG.out)⟩
                case measure => simp [intOf]; omega
              · have hge : sn.goals = sj.goals ++ [⟨y.goal, (j + 1 : Nat), sj.prog.length⟩] := by rw [HGO.out, if_neg hgn]
                have hgb : (y.goal == []) = false := by rw [beq_eq_false_iff_ne]; exact hgn
                have hgb2 : (y.goal != []) = true := by rw [bne_iff_ne]; exact hgn
                have hgb3 : y.goal.isEmpty = false := by simpa using hgn
                have hpre := HPRE.out
                rw [hge] at hpre
                have hat := prefix_at hpre
                have hdr := HG.out
                rw [goalsS_drop hat] at hdr
                have hgl1 : sn.goals.length = sj.goals.length + 1 := by rw [hge]; simp
                have HDR := Lib.hid hdr; have HGL := Lib.hid hgl1
                have hatc := fun wo hrm' => at_ref Am (s.marks.map Place.key) cm y.goal wo hrm' (by omega)
                simp only [atR_marks, List.length_map] at hatc
                have HAT := Lib.hid hatc
                clear hge hgn hpre hat hdr hgl1 hatc HGO HG
                obtain ⟨Am', cm', hv, hrm⟩ := rd_marks HM2.out.om
                obtain rfl : Am = Am' := by injection hv
                have HRM2 := Lib.hid hrm
                clear hv hrm
                generalize y.goal = gl at *
                go_wp2_with fail
                refine forgetC (fun wo => RM w L (.slice (some ⟨g, 0, none⟩) L.length cap) (.slice Ap s.prog.length cp) (.slice Am s.marks.length cm) p (s.marks.map Place.key) wo ∧ RdMk wo Am (s.marks.map Place.key))
                  ⟨HM2.out.alloc _, HRM2.out.belowH ((Below.refl _ _).alloc (Nat.le_refl _) _)⟩ ?_
                clear HM2 HRM2
                rintro wo ⟨hM3, hRM3⟩
                with_reducible refine (HAT.out _ hRM3).mono ?_
                rintro e w3 ⟨rfl, hb3⟩
                have HM := Lib.hid (hM3.belowH hb3)
                clear hM3 hRM3 hb3 HAT
                by_cases hhm : hasMark s.marks gl = true
                · rw [if_pos hhm]
                  have hpos : 0 ≤ atMark s.marks gl := (atMark_le (n := s.prog.length) HGOOD.out.marks gl).1
                  have hdr := HDR.out
                  rw [if_pos hhm] at hdr
                  have HDR2 := Lib.hid hdr
                  obtain ⟨gp, cp', hv, hpB, hpl2⟩ := HM.out.op.form (show 0 < p.length by omega)
                  clear hdr hhm
                  injection hv with hv1 hv2 hv3
                  subst hv1
                  clear hv2 hv3 hpl2
                  have i0 : w3.cell? ⟨gp, sj.prog.length * 4 + 1, none⟩ = some (.int .i64 p[sj.prog.length].a) := by
                    have hop := HM.out.op
                    unfold OwnI at hop
                    rw [hpl] at hop
                    rw [hop.cellAt _ (by omega), flat_get Ins.cells 4 p (fun _ _ => rfl) sj.prog.length 1 p[sj.prog.length] (List.getElem?_eq_getElem hkl) (by omega)]
                    rfl
                  have fz : w3.frozen? ⟨gp, sj.prog.length * 4 + 1, none⟩ = false := by
                    have hop := HM.out.op
                    unfold OwnI at hop
                    rw [hpl] at hop
                    exact hop.frozenAt _
                  generalize p[sj.prog.length].a = pa at *
                  generalize atMark s.marks gl = q at *
                  have hkl2 : sj.prog.length < s.prog.length := by omega
                  have HPL := Lib.hid hpl
                  clear hpl hkl
                  go_wp2_with fail
                  go_roundw
                  case rel => exact ⟨j + 1, sn, p.modify sj.prog.length fun x => fixI x q, by omega, by go_num, by rw [HSK.out], by rw [List.length_modify]; exact HPL.out, HRN, Lib.hid (HM.out.fixed HPL.out.symm q), Lib.hid (by rw [HGL.out]; exact HDR2.out)⟩
                  case measure => simp [intOf]; omega
                · rw [if_neg hhm]
                  have hrd : readS text = .inl ((j : Int) + 1, 5) := by
                    rw [HRD.out, endS, HDR.out, if_neg hhm]
                    rfl
                  have HP := Lib.hid (fun w' => RefPost.err (w := w) (w' := w') hrd)
                  clear hrd hhm
                  go_wp2_with fail
                  refine bodyPost_ret (v := .tuple #[.slice none 0 0, .slice none 0 0, .int .i64 ((j : Int) + 1), .int .i64 5]) (by simp [results, Tryd.results16, go_sem]) rfl (HP.out _ ?_)
                  exact HM.out.be
        · have hj := HJ.out
          rw [show j = L.length by omega, List.take_length, HRUN.out] at hj
          have hsj := Option.some.inj hj
          subst hsj
          have hrd : readS text = .inr { s with prog := p } := by
            rw [HRD.out, endS, HG.out, List.drop_length, goalsS]
          have HRD2 := Lib.hid hrd
          have hop := HM.out.op
          unfold OwnI at hop
          rw [hpl] at hop
          have HOP := Lib.hid hop
          clear hj hrd hop
          go_wp2_with fail
          refine bodyPost_ret (v := .tuple #[.slice Ap s.prog.length cp, .slice Am s.marks.length cm, .int .i64 0, .int .i64 0]) (by simp [results, Tryd.results16, go_sem, *]) rfl (RefPost.ok HRD2.out HM.out.be HM.out.op HM.out.om)
theorem ref_any (text : List UInt8) (hl : text.length ≤ 9223372036854775807) (w : World) : Calls Tryd.prog 16 #[S text] w (RefPost text w) := by
  by_cases h : 4096 < text.length
  · exact ref_long text h hl w
  · exact ref_short text (by omega) w
end Go.Proofs.YtiegkhoidabkhaaDoor
