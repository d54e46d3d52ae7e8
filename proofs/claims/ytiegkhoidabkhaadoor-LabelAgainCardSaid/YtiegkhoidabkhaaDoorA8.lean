/- The reference's Write. -/
import Derived.Test.YtiegkhoidabkhaaDoorA7
namespace Go.Proofs.YtiegkhoidabkhaaDoor
open Go.Shelf Go.RowKit

set_option maxRecDepth 100000 in
set_option maxHeartbeats 4000000 in
theorem write_ref (A : Option Addr) (p : List Ins) (c : Nat) (pre : List UInt8) (hpre : pre.length ≤ 1) (hf : ∀ x ∈ p, x.Fit) (w : World) (hg : Gl w) (hp : RdIns w A p) (hl : p.length ≤ 9223372036854775807) :
    Calls Tryd.prog 13 #[.slice A p.length c, S pre] w fun e w' => e = .returned (.tuple #[S (wrS pre p).1, .int .i64 (wrS pre p).2]) ∧ Below w.heap.size w w' := by
  by_cases h48 : 48 < p.length
  · go_enter Tryd.func13, Tryd.ntmps13
    go_wp2
    go_ret2
    exact ⟨by simp [wrS, h48], by go_grown⟩
  have HG := Lib.hid hg; have HP := Lib.hid hp; have HF := Lib.hid hf
  have h10 := hg.size
  clear hg hp hf
  go_enter Tryd.func13, Tryd.ntmps13
  go_wp2
  go_loopw [16] (fun v16 wr => ∃ k : Nat, k ≤ p.length ∧ v16 = .int .i64 k ∧ Hid (Below w.heap.size w wr) ∧ Hid (wrOk (p.take k) p.length = true))
    (fun v16 wr => p.length - (intOf v16).toNat)
  case atStart => exact ⟨0, by omega, rfl, Below.refl _ _, rfl⟩
  case round =>
    obtain ⟨k, hk, rfl, HB, HO⟩ := hrel
    by_cases hlt : k < p.length
    · obtain ⟨x, hx⟩ : ∃ x, p[k]? = some x := ⟨_, List.getElem?_eq_getElem hlt⟩
      obtain ⟨ad, rfl, hc0, hc1, hc2, hc3⟩ := HP.out.belowH HB.out k x hx
      have hs := HB.out.size
      have htake : p.take (k + 1) = p.take k ++ [x] := by rw [List.take_add_one, hx]; rfl
      have hO' : toldB x p.length = true → wrOk (p.take (k + 1)) p.length = true := by
        intro ht
        rw [htake]; unfold wrOk; rw [List.all_append]
        have := HO.out
        unfold wrOk at this
        rw [this]; simp [ht]
      have hno : toldB x p.length = false → wrOk p p.length = false := fun h => wrOk_no hx h
      have HO' := Lib.hid hO'; have HNO := Lib.hid hno
      clear hx htake hO' hno
      by_cases h1 : x.op < 0
      · go_wp2
        go_ret2
        exact ⟨by simp [wrS, h48, HNO.out (by simp [toldB]; omega)], HB.out.alloc hs _⟩
      by_cases h2 : 21 < x.op
      · have h1' : 0 ≤ x.op := by omega
        go_wp2
        go_ret2
        exact ⟨by simp [wrS, h48, HNO.out (by simp [toldB]; omega)], HB.out.alloc hs _⟩
      have h1' : 0 ≤ x.op := by omega
      have h2' : x.op ≤ 21 := by omega
      have hbe := fun w' => behind_any x.op h1' (by omega) w'
      have HB1 := Lib.hid (fun o => HB.out.alloc hs o)
      clear h1 h2
      have hop : decide (0 ≤ x.op) = true ∧ decide (x.op < 22) = true := ⟨decide_eq_true h1', decide_eq_true (by omega)⟩
      by_cases h3 : x.op = 3
      · have b3 : (x.op == 3) = true := by simp [h3]
        have hsh : shapeOf x.op = [103, 110, 110] := by rw [h3]; rfl
        have HT := Lib.hid (show toldB x p.length = (decide (0 ≤ x.a) && decide (x.a ≤ p.length)) by simp [toldB, hsh, hop])
        rw [hsh] at hbe
        clear h3 hsh hop
        go_wp2_with (go_at_call 26; refine (hbe _).mono ?_; rintro e w' ⟨rfl, rfl⟩)
        all_goals first
          | (go_ret2
             exact ⟨by simp [wrS, h48, HNO.out (by rw [HT.out]; simp; omega)], HB1.out _⟩)
          | (go_roundw
             case rel => exact ⟨k + 1, by omega, by go_num, HB1.out _, Lib.hid (HO'.out (by rw [HT.out]; simp; omega))⟩
             case measure => simp [intOf]; omega)
      by_cases h20 : x.op = 20
      · have b3 : (x.op == 3) = false := by simp [h20]
        have b20 : (x.op == 20) = true := by simp [h20]
        have hsh : shapeOf x.op = [103] := by rw [h20]; rfl
        have HT := Lib.hid (show toldB x p.length = ((x.b == 0) && (x.c == 0) && (decide (0 ≤ x.a) && decide (x.a ≤ p.length))) by simp [toldB, hsh, hop])
        rw [hsh] at hbe
        clear h3 h20 hsh hop
        go_wp2_with (go_at_call 26; refine (hbe _).mono ?_; rintro e w' ⟨rfl, rfl⟩)
        all_goals first
          | (go_ret2
             exact ⟨by simp [wrS, h48, HNO.out (by rw [HT.out]; go_light; simp_all; try omega)], HB1.out _⟩)
          | (go_roundw
             case rel => exact ⟨k + 1, by omega, by go_num, HB1.out _, Lib.hid (HO'.out (by rw [HT.out]; go_light; simp_all; try omega))⟩
             case measure => simp [intOf]; omega)
      · have b3 : (x.op == 3) = false := by simp [h3]
        have b20 : (x.op == 20) = false := by simp [h20]
        have hl3 := shape_len x.op
        have hh : (shapeOf x.op).head? ≠ some 103 := by
          rcases op_cases h1' (by omega) with h | h | h | h | h | h | h | h | h | h | h | h | h | h | h | h | h | h | h | h | h | h
          all_goals first
            | (exact absurd h h3)
            | (exact absurd h h20)
            | (rw [h]; decide)
        have HT := Lib.hid (show toldB x p.length = ((decide (0 < (shapeOf x.op).length) || x.a == 0) && (decide (1 < (shapeOf x.op).length) || x.b == 0) && (decide (2 < (shapeOf x.op).length) || x.c == 0)) by simp [toldB, hh, hop])
        generalize shapeOf x.op = sh at *
        clear h3 h20 hop hh
        go_wp2_with (go_at_call 26; refine (hbe _).mono ?_; rintro e w' ⟨rfl, rfl⟩)
        all_goals first
          | (go_ret2
             have hT : toldB x p.length = false := by
               rw [HT.out]
               go_light
               clear hbe
               rcases sh with _ | ⟨c0, _ | ⟨c1, _ | ⟨c2, _ | ⟨c3, sh⟩⟩⟩⟩
               all_goals first
                 | (simp_all; done)
                 | (simp_all; omega)
             exact ⟨by simp [wrS, h48, HNO.out hT], HB1.out _⟩)
          | (go_roundw
             case rel =>
               have hT : toldB x p.length = true := by
                 rw [HT.out]
                 go_light
                 clear hbe
                 rcases sh with _ | ⟨c0, _ | ⟨c1, _ | ⟨c2, _ | ⟨c3, sh⟩⟩⟩⟩
                 all_goals first
                   | (simp_all; done)
                   | (simp_all; omega)
               exact ⟨k + 1, by omega, by go_num, HB1.out _, Lib.hid (HO'.out hT)⟩
             case measure => simp [intOf]; omega)
    · have hkl : k = p.length := by omega
      subst hkl
      have hO := HO.out
      rw [List.take_length] at hO
      have HO' := Lib.hid hO
      clear hO HO
      go_wp2
      go_loopw [9, 10] (fun v9 v10 wq => ∃ k : Nat, k ≤ p.length + 1 ∧ v9 = S (textAt pre p k) ∧ v10 = .int .i64 k ∧ Hid (Below w.heap.size w wq))
        (fun v9 v10 wq => p.length + 1 - (intOf v10).toNat)
      case atStart => exact ⟨0, by omega, rfl, rfl, HB⟩
      case round =>
        clear HB
        obtain ⟨k, hk, rfl, rfl, HB⟩ := hrel
        by_cases hlt : k < p.length + 1
        · have hnm := named_any A p c k wr (HP.out.belowH HB.out) hl
          have htl0 := textAt_len pre p HF.out hpre k (by omega)
          have htl1 : ((textAt pre p k).length : Int) ≤ 100000 := by omega
          have hpl : (pre.length : Int) ≤ 1000 := by omega
          clear htl0
          by_cases hn : namedB p k = true
          · have HN1 := Lib.hid hn
            rw [hn] at hnm
            clear hn
            go_wp2_with fail
            refine hnm.mono ?_
            rintro e w2 ⟨rfl, hb2⟩
            have HB2 := Lib.hid (below_next HB.out hb2)
            clear hnm hb2
            have hit := itoa_any k (by omega) (by omega) w2 (HG.out.belowH HB2.out)
            have hil : ((Lib.itoa (k : Int)).length : Int) ≤ 1000 := by have := itoa_len k (by omega) (by omega); omega
            go_wp2_with fail
            refine hit.mono ?_
            rintro e w3 ⟨rfl, hb3⟩
            have HB4 := Lib.hid (below_next HB2.out hb3)
            clear hit hb3 HB2 HB
            by_cases hkl : k < p.length
            · obtain ⟨x, hx⟩ : ∃ x, p[k]? = some x := ⟨_, List.getElem?_eq_getElem hkl⟩
              have hfx := HF.out x (List.mem_of_getElem? hx)
              have hop := told_op (wrOk_at HO'.out hx)
              have hcs := HP.out.belowH HB4.out k x hx
              have htell := told_ref x pre hpre hfx hop.1 hop.2 w3 (HG.out.belowH HB4.out)
              have htl : ((tellT pre x).length : Int) ≤ 1000 := by have := tellT_len pre x hfx hpre; omega
              have hline : textAt pre p (k + 1) = (textAt pre p k ++ (58 :: (pre ++ (Lib.itoa (k : Int) ++ [10])))) ++ (tellT pre x ++ [10]) := by rw [textAt_succ, lineT, hx, HN1.out]; simp [goalT]
              have HLN := Lib.hid hline
              obtain ⟨ad, rfl, hc0, hc1, hc2, hc3⟩ := hcs
              clear hx hop hfx hline
              go_wp2_with fail
              refine htell.mono ?_
              rintro e w4 ⟨rfl, hb4⟩
              have HB5 := Lib.hid (below_next HB4.out hb4)
              clear htell hb4
              go_wp2_with fail
              go_roundw
              case rel => exact ⟨k + 1, by omega, by rw [HLN.out]; simp [ByteArray.mk_append_mk, goalT], by go_num, HB5⟩
              case measure => simp [intOf]; omega
            · have hx : p[k]? = none := List.getElem?_eq_none (by omega)
              have hline : textAt pre p (k + 1) = (textAt pre p k ++ (58 :: (pre ++ (Lib.itoa (k : Int) ++ [10])))) := by rw [textAt_succ, lineT, hx, HN1.out]; simp [goalT]
              have HLN := Lib.hid hline
              clear hline hx
              go_wp2_with fail
              go_roundw
              case rel => exact ⟨k + 1, by omega, by rw [HLN.out]; simp [ByteArray.mk_append_mk, goalT], by go_num, HB4⟩
              case measure => simp [intOf]; omega
          · have hn' : namedB p k = false := by simpa using hn
            have HN1 := Lib.hid hn'
            rw [hn'] at hnm
            clear hn hn'
            go_wp2_with fail
            refine hnm.mono ?_
            rintro e w3 ⟨rfl, hb2⟩
            have HB4 := Lib.hid (below_next HB.out hb2)
            clear hnm hb2 HB
            by_cases hkl : k < p.length
            · obtain ⟨x, hx⟩ : ∃ x, p[k]? = some x := ⟨_, List.getElem?_eq_getElem hkl⟩
              have hfx := HF.out x (List.mem_of_getElem? hx)
              have hop := told_op (wrOk_at HO'.out hx)
              have hcs := HP.out.belowH HB4.out k x hx
              have htell := told_ref x pre hpre hfx hop.1 hop.2 w3 (HG.out.belowH HB4.out)
              have htl : ((tellT pre x).length : Int) ≤ 1000 := by have := tellT_len pre x hfx hpre; omega
              have hline : textAt pre p (k + 1) = (textAt pre p k ++ ([] : List UInt8)) ++ (tellT pre x ++ [10]) := by rw [textAt_succ, lineT, hx, HN1.out]; simp [goalT]
              have HLN := Lib.hid hline
              obtain ⟨ad, rfl, hc0, hc1, hc2, hc3⟩ := hcs
              clear hx hop hfx hline
              go_wp2_with fail
              refine htell.mono ?_
              rintro e w4 ⟨rfl, hb4⟩
              have HB5 := Lib.hid (below_next HB4.out hb4)
              clear htell hb4
              go_wp2_with fail
              go_roundw
              case rel => exact ⟨k + 1, by omega, by rw [HLN.out]; simp [ByteArray.mk_append_mk, goalT], by go_num, HB5⟩
              case measure => simp [intOf]; omega
            · have hx : p[k]? = none := List.getElem?_eq_none (by omega)
              have hline : textAt pre p (k + 1) = (textAt pre p k ++ ([] : List UInt8)) := by rw [textAt_succ, lineT, hx, HN1.out]; simp [goalT]
              have HLN := Lib.hid hline
              clear hline hx
              go_wp2_with fail
              go_roundw
              case rel => exact ⟨k + 1, by omega, by rw [HLN.out]; simp [ByteArray.mk_append_mk, goalT], by go_num, HB4⟩
              case measure => simp [intOf]; omega
        · have hkl : k = p.length + 1 := by omega
          subst hkl
          go_wp2
          go_ret2
          exact ⟨by simp [wrS, h48, HO'.out, textT], HB.out⟩
end Go.Proofs.YtiegkhoidabkhaaDoor
