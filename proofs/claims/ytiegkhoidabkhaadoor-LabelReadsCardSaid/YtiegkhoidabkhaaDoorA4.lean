/- label.Write. -/
import Derived.Test.YtiegkhoidabkhaaDoorA3
import Derived.Test.YtiegkhoidabkhaaDoorB1
namespace Go.Proofs.YtiegkhoidabkhaaDoor
open Go.Shelf Go.RowKit

/-- Four cells hold an instruction. -/
def At4 (w : World) (a : Addr) (x : Ins) : Prop :=
  w.cell? a = some (.int .i64 x.op) ∧ w.cell? ⟨a.block, a.off + 1, none⟩ = some (.int .i64 x.a) ∧ w.cell? ⟨a.block, a.off + 2, none⟩ = some (.int .i64 x.b) ∧ w.cell? ⟨a.block, a.off + 3, none⟩ = some (.int .i64 x.c)
/-- A slice of instructions reads as a list. -/
def RdIns (w : World) (A : Option Addr) (p : List Ins) : Prop := ∀ i x, p[i]? = some x → ∃ ad, A = some ad ∧ At4 w (ad.add (i * 4)) x
theorem cell_belowH {w w1 : World} (h : Below w.heap.size w w1) {a : Addr} {v : Value} (hc : w.cell? a = some v) : w1.cell? a = some v := (h.cell (World.block_lt_of_cell? w a hc)).trans hc
theorem At4.belowH {w w1 : World} {a : Addr} {x : Ins} (h : At4 w a x) (hb : Below w.heap.size w w1) : At4 w1 a x :=
  ⟨cell_belowH hb h.1, cell_belowH hb h.2.1, cell_belowH hb h.2.2.1, cell_belowH hb h.2.2.2⟩
theorem RdIns.belowH {w w1 : World} {A : Option Addr} {p : List Ins} (h : RdIns w A p) (hb : Below w.heap.size w w1) : RdIns w1 A p := fun i x hx => by
  obtain ⟨ad, e, ha⟩ := h i x hx
  exact ⟨ad, e, ha.belowH hb⟩

set_option maxRecDepth 100000 in
set_option maxHeartbeats 2000000 in
theorem write_any (A : Option Addr) (p : List Ins) (c : Nat) (hf : ∀ x ∈ p, x.Fit) (w : World) (hg : Gl w) (hp : RdIns w A p) (hl : p.length ≤ 9223372036854775807) :
    Calls Tryd.prog 12 #[.slice A p.length c] w fun e w' => e = .returned (.tuple #[S (wrS [112] p).1, .int .i64 (wrS [112] p).2]) ∧ Below w.heap.size w w' := by
  by_cases h48 : 48 < p.length
  · go_enter Tryd.func12, Tryd.ntmps12
    go_wp2
    go_ret2
    exact ⟨by simp [wrS, h48], by go_grown⟩
  have HG := Lib.hid hg; have HP := Lib.hid hp; have HF := Lib.hid hf
  have h10 := hg.size
  clear hg hp hf
  go_enter Tryd.func12, Tryd.ntmps12
  go_wp2
  refine forget (fun wo => Ob wo w.heap.size (.cells (namedV []) 58) ∧ Below w.heap.size w wo) ⟨by rw [namedV_nil]; exact Ob.new w _, by go_grown⟩ ?_
  rintro wo ⟨hN, hB⟩
  have HN := Lib.hid hN; have HB := Lib.hid hB
  clear hN hB
  go_loopw [14] (fun v14 wr => ∃ k : Nat, k ≤ p.length ∧ v14 = .int .i64 k ∧ Hid (Ob wr w.heap.size (.cells (namedV (p.take k)) 58)) ∧ Hid (Below w.heap.size w wr) ∧ Hid (wrOk (p.take k) p.length = true))
    (fun v14 wr => p.length - (intOf v14).toNat)
  case atStart => exact ⟨0, by omega, rfl, HN, HB, rfl⟩
  case round =>
    clear HN HB
    obtain ⟨k, hk, rfl, HN, HB, HO⟩ := hrel
    by_cases hlt : k < p.length
    · obtain ⟨x, hx⟩ : ∃ x, p[k]? = some x := ⟨_, List.getElem?_eq_getElem hlt⟩
      obtain ⟨ad, rfl, hc0, hc1, hc2, hc3⟩ := HP.out.belowH HB.out k x hx
      have htold := fun w' h => told_any x p.length w' (HG.out.belowH h)
      have HT := Lib.hid htold
      have htake : p.take (k + 1) = p.take k ++ [x] := by rw [List.take_add_one, hx]; rfl
      have HX := Lib.hid hx; have HTK := Lib.hid htake
      clear hx htold htake
      go_wp2_with fail
      refine (HT.out _ (HB.out.alloc (by have := HB.out.size; omega) _)).mono ?_
      rintro e w2 ⟨rfl, hb2⟩
      have hN2 := ((HN.out.alloc (Obj.cells #[.int .i64 x.op, .int .i64 x.a, .int .i64 x.b, .int .i64 x.c] 57)).belowH hb2)
      have hC2 := (Ob.new wr (Obj.cells #[.int .i64 x.op, .int .i64 x.a, .int .i64 x.b, .int .i64 x.c] 57)).belowH hb2
      have d0 : w2.cell? ⟨wr.heap.size, 0, none⟩ = some (.int .i64 x.op) := hC2.cell 0
      have d1 : w2.cell? ⟨wr.heap.size, 1, none⟩ = some (.int .i64 x.a) := hC2.cell 1
      have hfz : ∀ i, w2.frozen? ⟨w.heap.size, i, none⟩ = false := fun i => hN2.frozen i
      have hB2 : Below w.heap.size w w2 := below_next (HB.out.alloc (HB.out.size) _) hb2
      have HN2 := Lib.hid hN2; have HB2 := Lib.hid hB2
      clear hN2 hC2 hb2 hB2
      by_cases ht : toldB x p.length = true
      · rw [ht]
        have hO' : wrOk (p.take (k + 1)) p.length = true := by
          rw [HTK.out]; unfold wrOk; rw [List.all_append]
          have := HO.out
          unfold wrOk at this
          rw [this]; simp [ht]
        have HO' := Lib.hid hO'
        clear hO'
        by_cases hgo : goes x = true
        · have hab := told_goes ht hgo
          obtain ⟨ha0, ha1⟩ := hab
          have ha2 : x.a < 49 := by omega
          have hca : w2.cell? ⟨w.heap.size, x.a.toNat, none⟩ = some (.bool (namedB (p.take k) x.a)) := by
            rw [HN2.out.cell, namedV_at _ _ (by omega), Int.toNat_of_nonneg ha0]
          have HG' := Lib.hid hgo
          have HT' := Lib.hid ht
          have h3 : x.op = 3 ∨ x.op = 20 := by simpa [goes] using hgo
          clear hgo ht
          rcases h3 with h3 | h3
          · have b3 : (x.op == 3) = true := by simp [h3]
            have H3 := Lib.hid h3; clear h3
            go_wp2
            go_roundw
            case rel => exact ⟨k + 1, by omega, by go_num, by rw [HTK.out, namedV_set _ x HG'.out ha0 (by omega)]; exact HN2.out.set _ _, HB2.out.setCell (Nat.le_refl _) _, HO'⟩
            case measure => simp [intOf]; omega
          · have b3 : (x.op == 3) = false := by simp [h3]
            have b20 : (x.op == 20) = true := by simp [h3]
            have H3 := Lib.hid h3; clear h3
            go_wp2
            go_roundw
            case rel => exact ⟨k + 1, by omega, by go_num, by rw [HTK.out, namedV_set _ x HG'.out ha0 (by omega)]; exact HN2.out.set _ _, HB2.out.setCell (Nat.le_refl _) _, HO'⟩
            case measure => simp [intOf]; omega
        · have hgf : goes x = false := by simpa using hgo
          have HG' := Lib.hid hgf
          have b3 : (x.op == 3) = false := by
            unfold goes at hgf
            cases h : (x.op == 3) <;> simp_all
          have b20 : (x.op == 20) = false := by
            unfold goes at hgf
            cases h : (x.op == 20) <;> simp_all
          clear hgo ht hgf
          go_wp2
          go_roundw
          case rel => exact ⟨k + 1, by omega, by go_num, by rw [HTK.out, namedV_skip _ x HG'.out]; exact HN2.out, HB2.out, HO'⟩
          case measure => simp [intOf]; omega
      · have hf : toldB x p.length = false := by simpa using ht
        have HF' := Lib.hid hf
        rw [hf]
        clear ht hf
        go_wp2
        go_ret2
        exact ⟨by simp [wrS, h48, wrOk_no HX.out HF'.out], HB2.out⟩
    · have hkl : k = p.length := by omega
      subst hkl
      rw [List.take_length] at HN HO
      have HO2 := HO.out
      have hN := HN.out
      have hB := HB.out
      have hs := hB.size
      have HO' := Lib.hid HO2
      clear HO2 HO
      go_wp2
      obtain ⟨wb, rfl⟩ : ∃ wb : World, wb = wr := ⟨_, rfl⟩
      refine forget (fun wo => Lib.IsBuilderF 62 5 wb.heap.size wb.heap.size (Lib.byteCells (textAt [112] p 0)) wo ∧ Below wb.heap.size wb wo) ⟨(Lib.fresh_isBuilder 62 5 wb).elim (fun h => .inl (.of h)) (fun h => .inr (.of h)), by go_grown⟩ ?_
      rintro wo2 ⟨hI, hB2⟩
      have HI := Lib.hid hI; have HB2 := Lib.hid hB2
      clear hI hB2 hN hB
      go_loopw [38] (fun v38 wq => ∃ k : Nat, k ≤ p.length + 1 ∧ v38 = .int .i64 k ∧ Hid (Lib.IsBuilderF 62 5 wb.heap.size wb.heap.size (Lib.byteCells (textAt [112] p k)) wq) ∧ Hid (Below wb.heap.size wb wq))
        (fun v38 wq => p.length + 1 - (intOf v38).toNat)
      case atStart => exact ⟨0, by omega, rfl, HI, HB2⟩
      case round =>
        clear HI HB2
        obtain ⟨k, hk, rfl, HI, HB2⟩ := hrel
        have htl0 := textAt_len [112] p HF.out (by decide) k (by omega)
        have HTL := Lib.hid htl0
        clear htl0
        by_cases hlt : k < p.length + 1
        · have hNk : wr.cell? ⟨w.heap.size, k, none⟩ = some (.bool (namedB p k)) := by
            rw [(HN.out.belowH HB2.out).cell, namedV_at _ _ (by omega)]
          by_cases hn : namedB p k = true
          · have hgo := goal_any k (by omega) (by omega) wr (HG.out.belowH (below_next HB.out HB2.out))
            have hgl : ((goalT [112] (k : Int)).length : Int) ≤ 1000 := by have := itoa_len k (by omega) (by omega); simp [goalT]; omega
            rw [hn] at hNk
            have HN1 := Lib.hid hn
            clear hn
            go_wp2_with fail
            refine hgo.mono ?_
            rintro e w2 ⟨rfl, hb2⟩
            have HI2 := Lib.hid (IsBuilderF_belowH HI.out hb2)
            have HB3 := Lib.hid (below_next HB2.out hb2)
            clear hgo hb2 hNk
            go_wp2_with fail
            refine (write_l wb.heap.size wb.heap.size _ _ w2 HI2.out (by have := HTL.out; simp [goalT] at hgl ⊢; omega) (HB3.out.size)).mono ?_
            rintro e w3 ⟨rfl, hI3, hb3⟩
            have hI4 : Lib.IsBuilderF 62 5 wb.heap.size wb.heap.size (Lib.byteCells (textAt [112] p k ++ (58 :: (goalT [112] k ++ [10])))) w3 := by simpa using hI3
            have HI4 := Lib.hid hI4
            clear hI4
            have HB4 := Lib.hid (HB3.out.trans hb3)
            clear HI2 HB3 hI3 hb3 HI
            by_cases hkl : k < p.length
            · obtain ⟨x, hx⟩ : ∃ x, p[k]? = some x := ⟨_, List.getElem?_eq_getElem hkl⟩
              have hfx := HF.out x (List.mem_of_getElem? hx)
              have hop := told_op (wrOk_at HO'.out hx)
              obtain ⟨ad, rfl, hc0, hc1, hc2, hc3⟩ := HP.out.belowH (below_next HB.out HB4.out) k x hx
              have htell := tell_any x hfx hop.1 hop.2 w3 (HG.out.belowH (below_next HB.out HB4.out))
              have htl : ((tellT [112] x).length : Int) ≤ 1000 := by have := tellT_len [112] x hfx (by decide); omega
              have HX := Lib.hid hx; have HOP := Lib.hid hop; have HFX := Lib.hid hfx
              clear hx hop hfx
              try subst hw3
              have hlen4 : ((58 :: (goalT [112] (k : Int) ++ [10]))).length ≤ 40 := by have := itoa_len k (by omega) (by omega); simp [goalT]; omega
              have hline : textAt [112] p (k + 1) = (textAt [112] p k ++ (58 :: (goalT [112] (k : Int) ++ [10]))) ++ (tellT [112] x ++ [10]) := by rw [textAt_succ, lineT, HX.out, HN1.out]; simp
              have HLN := Lib.hid hline
              clear hline
              go_wp2_with fail
              refine htell.mono ?_
              rintro e w4 ⟨rfl, hb4⟩
              have HI5 := Lib.hid (IsBuilderF_belowH HI4.out hb4)
              have HB5 := Lib.hid (below_next HB4.out hb4)
              clear htell hb4 HI4 HB4
              go_wp2_with fail
              refine (write_l wb.heap.size wb.heap.size _ _ w4 HI5.out (by have := HTL.out; simp at hlen4 ⊢; omega) (HB5.out.size)).mono ?_
              rintro e w5 ⟨rfl, hI6, hb6⟩
              have HI6 := Lib.hid hI6; have HB6 := Lib.hid (HB5.out.trans hb6)
              clear hI6 hb6 HI5 HB5
              go_wp2_with fail
              go_roundw
              case rel => exact ⟨k + 1, by omega, by go_num, Lib.hid (by rw [HLN.out]; simpa using HI6.out), HB6⟩
              case measure => simp [intOf]; omega
            · have hx : p[k]? = none := List.getElem?_eq_none (by omega)
              try subst hw3
              have hline : textAt [112] p (k + 1) = (textAt [112] p k ++ (58 :: (goalT [112] (k : Int) ++ [10]))) := by rw [textAt_succ, lineT, hx, HN1.out]; simp
              have HLN := Lib.hid hline
              clear hline hx
              go_wp2_with fail
              go_roundw
              case rel => exact ⟨k + 1, by omega, by go_num, by rw [HLN.out]; exact HI4.out, HB4⟩
              case measure => simp [intOf]; omega
          · have hn' : namedB p k = false := by simpa using hn
            rw [hn'] at hNk
            have HN1 := Lib.hid hn'
            clear hn hn'
            have HI4 : Hid (Lib.IsBuilderF 62 5 wb.heap.size wb.heap.size (Lib.byteCells (textAt [112] p k ++ [])) wr) := by rw [List.append_nil]; exact HI.out
            have HB4 := HB2
            obtain ⟨w3, hw3⟩ : ∃ w3 : World, w3 = wr := ⟨_, rfl⟩
            rw [← hw3] at HI4 HB4
            clear HI
            by_cases hkl : k < p.length
            · obtain ⟨x, hx⟩ : ∃ x, p[k]? = some x := ⟨_, List.getElem?_eq_getElem hkl⟩
              have hfx := HF.out x (List.mem_of_getElem? hx)
              have hop := told_op (wrOk_at HO'.out hx)
              obtain ⟨ad, rfl, hc0, hc1, hc2, hc3⟩ := HP.out.belowH (below_next HB.out HB4.out) k x hx
              have htell := tell_any x hfx hop.1 hop.2 w3 (HG.out.belowH (below_next HB.out HB4.out))
              have htl : ((tellT [112] x).length : Int) ≤ 1000 := by have := tellT_len [112] x hfx (by decide); omega
              have HX := Lib.hid hx; have HOP := Lib.hid hop; have HFX := Lib.hid hfx
              clear hx hop hfx
              try subst hw3
              have hlen4 : (([] : List UInt8)).length ≤ 40 := by simp
              have hline : textAt [112] p (k + 1) = (textAt [112] p k ++ ([] : List UInt8)) ++ (tellT [112] x ++ [10]) := by rw [textAt_succ, lineT, HX.out, HN1.out]; simp
              have HLN := Lib.hid hline
              clear hline
              go_wp2_with fail
              refine htell.mono ?_
              rintro e w4 ⟨rfl, hb4⟩
              have HI5 := Lib.hid (IsBuilderF_belowH HI4.out hb4)
              have HB5 := Lib.hid (below_next HB4.out hb4)
              clear htell hb4 HI4 HB4
              go_wp2_with fail
              refine (write_l wb.heap.size wb.heap.size _ _ w4 HI5.out (by have := HTL.out; simp at hlen4 ⊢; omega) (HB5.out.size)).mono ?_
              rintro e w5 ⟨rfl, hI6, hb6⟩
              have HI6 := Lib.hid hI6; have HB6 := Lib.hid (HB5.out.trans hb6)
              clear hI6 hb6 HI5 HB5
              go_wp2_with fail
              go_roundw
              case rel => exact ⟨k + 1, by omega, by go_num, Lib.hid (by rw [HLN.out]; simpa using HI6.out), HB6⟩
              case measure => simp [intOf]; omega
            · have hx : p[k]? = none := List.getElem?_eq_none (by omega)
              try subst hw3
              have hline : textAt [112] p (k + 1) = (textAt [112] p k ++ ([] : List UInt8)) := by rw [textAt_succ, lineT, hx, HN1.out]; simp
              have HLN := Lib.hid hline
              clear hline hx
              go_wp2_with fail
              go_roundw
              case rel => exact ⟨k + 1, by omega, by go_num, by rw [HLN.out]; exact HI4.out, HB4⟩
              case measure => simp [intOf]; omega
        · have hkl : k = p.length + 1 := by omega
          subst hkl
          clear hk
          go_wp2_with fail
          refine (Tryd.Builder_String_any_k wb.heap.size wb.heap.size _ wr HI.out HB2.out.size).mono ?_
          rintro e w2 ⟨rfl, _, hb2, _⟩
          go_wp2_with fail
          go_ret2
          exact ⟨by simp [wrS, h48, HO'.out, textT], HB.out.trans ((HB2.out.trans hb2).mono HB.out.size)⟩
end Go.Proofs.YtiegkhoidabkhaaDoor
