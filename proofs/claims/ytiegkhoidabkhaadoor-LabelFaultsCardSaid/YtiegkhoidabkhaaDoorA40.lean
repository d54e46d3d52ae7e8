/- The law LabelFaults. -/
import Derived.Test.YtiegkhoidabkhaaDoorA36
import Derived.Test.YtiegkhoidabkhaaDoorA39
import Derived.Test.YtiegkhoidabkhaaDoorB19
import Derived.Deep.Cut
import Derived.Outline
namespace Go.Proofs.YtiegkhoidabkhaaDoor
open Go.Shelf Go.RowKit Go.Maps

def kindN (n : Int) : Nat := ((IntKind.u64.wrap n).tmod 12).toNat
theorem kind_in (n : Int) : (IntKind.u64.wrap n).tmod 12 = (kindN n : Int) ∧ kindN n < 12 := by
  have h : 0 ≤ IntKind.u64.wrap n := by
    simp [IntKind.wrap, IntKind.signed, IntKind.bits]
    omega
  have h1 := Int.tmod_nonneg (12 : Int) h
  have h2 := Int.tmod_lt_of_pos (IntKind.u64.wrap n) (show (0 : Int) < 12 by omega)
  unfold kindN
  omega
theorem odd_cells (i : Nat) (h : i < 12) : (strs oddL)[i]? = some (S (oddL.getD i [])) := by
  match i, h with
  | 0, _ => rfl
  | 1, _ => rfl
  | 2, _ => rfl
  | 3, _ => rfl
  | 4, _ => rfl
  | 5, _ => rfl
  | 6, _ => rfl
  | 7, _ => rfl
  | 8, _ => rfl
  | 9, _ => rfl
  | 10, _ => rfl
  | 11, _ => rfl

set_option maxRecDepth 100000 in
set_option maxHeartbeats 1000000 in
theorem faults_law (A : Option Addr) (ls : List (List UInt8)) (c : Nat) (w : World) (hr : RdStr w A ls) (hl : ls.length ≤ 9223372036854775807) (hll : ∀ s ∈ ls, s.length ≤ 9223372036854775807) (at_ : Int) (ha0 : -9223372036854775808 ≤ at_) (ha1 : at_ ≤ 9223372036854775807) (kind : Int) (hk0 : -9223372036854775808 ≤ kind) (hk1 : kind ≤ 9223372036854775807) (hg : Gl w) :
    Calls Tryd.prog 7 #[.slice A ls.length c, .int .i64 at_, .int .i64 kind] w fun e w' => e = .returned (.bool true) ∧ Below w.heap.size w w' := by
  have ha := alive_any w hg
  have HG := Lib.hid hg; have HR := Lib.hid hr; have HL := Lib.hid hll
  clear hg hr hll
  go_enter Tryd.func7, Tryd.ntmps7
  go_wp2_with fail
  refine ha.mono ?_
  rintro e w1 ⟨rfl, hb1⟩
  have HB1 := Lib.hid hb1
  clear ha hb1
  go_wp2_with fail
  refine (joined_any A ls c w1 (HR.out.belowH HB1.out) hl HL.out).mono ?_
  rintro e w2 ⟨rfl, hb2⟩
  have HB2 := Lib.hid (below_next HB1.out hb2)
  clear hb2 HB1
  by_cases hj : joinOk ls = true
  · have hjs : joinS ls = joinT ls := by rw [joinS, if_pos hj]
    have h60 := (joinOk_ls hj).1
    have h49 := (joinOk_ls hj).2.2
    rw [hj, hjs]
    have HJ := Lib.hid hj
    clear hj hjs
    by_cases h0 : at_ < 0
    · go_wp2_with fail
      go_ret
      exact ⟨rfl, HB2.out⟩
    obtain ⟨k, rfl⟩ : ∃ k : Nat, at_ = k := ⟨at_.toNat, by omega⟩
    clear h0
    by_cases hk : ls.length < k
    · have hk' : (ls.length : Int) < k := by omega
      go_wp2_with fail
      go_ret
      exact ⟨rfl, HB2.out⟩
    have hk' : ¬ (ls.length : Int) < k := by omega
    have hq := ref_any (joinT ls) (by omega) w2
    unfold RefPost at hq
    have he := @readS_err (joinT ls)
    have hft := @faults_read ls k
    have HFT := Lib.hid (fun bad s hr hb hn h10 hbl => hft (bad := bad) (s := s) HJ.out hr (by omega) hb hn h10 hbl)
    clear hft
    generalize readS (joinT ls) = R at *
    cases R with
    | inl p =>
      obtain ⟨n, e⟩ := p
      dsimp only at hq
      have hke := he rfl
      have hke2 : (e != 0) = true := by simpa using hke
      clear he
      go_wp2_with fail
      refine hq.mono ?_
      rintro e' w3 ⟨hb3, rfl⟩
      have HB3 := Lib.hid (below_next HB2.out hb3)
      clear hb3 hq
      go_wp2_with fail
      go_ret
      exact ⟨rfl, HB3.out⟩
    | inr s =>
      dsimp only at hq
      clear he
      obtain ⟨hkd, hk12⟩ := kind_in kind
      have hodd := odd_ok (kindN kind) hk12
      have hoc := odd_cells (kindN kind) hk12
      have hread := HFT.out (oddL.getD (kindN kind) []) s rfl hodd.none hodd.ne hodd.no hodd.few
      rw [← putT_all (by omega)] at hread
      have hfew := hodd.few
      have HRD := Lib.hid hread; have HOC := Lib.hid hoc
      clear hread hodd hoc HFT
      generalize oddL.getD (kindN kind) [] = bad at *
      go_wp2_with fail
      refine hq.mono ?_
      rintro e' w3 ⟨hb3, v2, mv, rfl, _, _⟩
      have HB3 := Lib.hid (below_next HB2.out hb3)
      clear hb3 hq
      go_upto_region 10 with fail
      refine forget (fun wo => Ob wo w3.heap.size (.cells (strs oddL) 43) ∧ Below w.heap.size w wo) ⟨Ob.new w3 _, HB3.out.alloc HB3.out.size _⟩ ?_
      rintro wo ⟨hO, hB⟩
      have hcell : wo.cell? ⟨w3.heap.size, kindN kind, none⟩ = some (S bad) := by rw [hO.cell]; exact HOC.out
      have HB := Lib.hid hB
      have hbl : ∀ i, (putT ls bad k i).length ≤ 3000 := fun i => putT_len HJ.out hfew k i
      have HBL := Lib.hid hbl
      clear hO hB HB3 HB2 HOC hbl
      go_wp2_with fail
      clear hcell
      go_loopw [15, 16] (fun v15 v16 wr => ∃ i : Nat, i ≤ ls.length + 1 ∧ v15 = S (putT ls bad k i) ∧ v16 = .int .i64 i ∧ Hid (Below w.heap.size w wr))
        (fun v15 v16 wr => ls.length + 1 - (intOf v16).toNat)
      case atStart => exact ⟨0, by omega, by rw [putT_zero], rfl, HB⟩
      case round =>
        clear HB
        obtain ⟨i, hi, rfl, rfl, HB⟩ := hrel
        have htl := HBL.out i
        by_cases hlt : i ≤ ls.length
        · by_cases hil : i < ls.length
          · obtain ⟨l, hli⟩ : ∃ l, ls[i]? = some l := ⟨_, List.getElem?_eq_getElem hil⟩
            obtain ⟨ad, rfl, hc⟩ := HR.out.belowH HB.out i l hli
            have hll := HL.out l (List.mem_of_getElem? hli)
            have hll2 : l.length ≤ 3000 := by
              have h1 := line_le (List.mem_of_getElem? hli)
              have h2 := sum_join ls
              omega
            by_cases hik : i = k
            · subst hik
              have HN := Lib.hid (putT_at (bad := bad) hli)
              clear hli hlt
              generalize putT ls bad i i = acc at *
              go_wp2_with fail
              go_roundw
              case rel => exact ⟨i + 1, by omega, by rw [HN.out]; simp [ByteArray.mk_append_mk], by go_num, HB⟩
              case measure => simp [intOf]; omega
            · have HN := Lib.hid (putT_other (bad := bad) hik hli)
              have hne : ((i : Int) == k) = false := by rw [beq_eq_false_iff_ne]; omega
              clear hli hlt hik
              generalize putT ls bad k i = acc at *
              go_wp2_with fail
              go_roundw
              case rel => exact ⟨i + 1, by omega, by rw [HN.out]; simp [ByteArray.mk_append_mk], by go_num, HB⟩
              case measure => simp [intOf]; omega
          · obtain rfl : i = ls.length := by omega
            by_cases hik : ls.length = k
            · subst hik
              have HN := Lib.hid (putT_end (ls := ls) (bad := bad))
              clear hlt hil
              generalize putT ls bad ls.length ls.length = acc at *
              go_wp2_with fail
              go_roundw
              case rel => exact ⟨ls.length + 1, by omega, by rw [HN.out]; simp [ByteArray.mk_append_mk], by go_num, HB⟩
              case measure => simp [intOf]
            · have HN := Lib.hid (putT_out (bad := bad) (show k < ls.length by omega))
              have hne : ((ls.length : Int) == k) = false := by rw [beq_eq_false_iff_ne]; omega
              clear hlt hil hik
              go_wp2_with fail
              go_roundw
              case rel => exact ⟨ls.length + 1, by omega, by rw [HN.out], by go_num, HB⟩
              case measure => simp [intOf]
        · obtain rfl : i = ls.length + 1 := by omega
          have hrd := reads_any (putT ls bad k (ls.length + 1)) (by omega) wr (HG.out.belowH HB.out)
          unfold ReadsPost at hrd
          rw [HRD.out] at hrd
          dsimp only at hrd
          clear hlt
          generalize putT ls bad k (ls.length + 1) = tt at *
          go_wp2_with fail
          refine hrd.mono ?_
          rintro e w5 ⟨hb5, rfl⟩
          have HB5 := Lib.hid (below_next HB.out hb5)
          clear hb5 hrd
          go_wp2_with fail
          go_ret
          exact ⟨rfl, HB5.out⟩
  · have hj' : joinOk ls = false := by simpa using hj
    have hjs : joinS ls = [] := by rw [joinS, if_neg hj]
    rw [hj', hjs]
    clear hj hj' hjs
    go_wp2_with fail
    go_ret
    exact ⟨rfl, HB2.out⟩
end Go.Proofs.YtiegkhoidabkhaaDoor
