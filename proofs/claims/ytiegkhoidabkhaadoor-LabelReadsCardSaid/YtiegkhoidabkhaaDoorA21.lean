/- label.Read; the laws' alive. The laws' alive. -/
import Derived.Test.YtiegkhoidabkhaaDoorA19
import Derived.Test.YtiegkhoidabkhaaDoorA4
namespace Go.Proofs.YtiegkhoidabkhaaDoor
open Go.Shelf Go.RowKit Go.Maps

theorem read_any (text : List UInt8) (hl : text.length ≤ 9223372036854775807) (w : World) (hg : Gl w) : Calls Tryd.prog 30 #[S text] w (ReadPost text w) := by
  by_cases h : 4096 < text.length
  · exact read_long text h hl w
  · exact read_short text (by omega) w hg

def ReadsPost (text : List UInt8) (w : World) (e : Ending) (w' : World) : Prop := Below w.heap.size w w' ∧ match readS text with
  | .inl (n, k) => e = .returned (.tuple #[.slice none 0 0, .int .i64 n, .int .i64 k])
  | .inr s => ∃ v, e = .returned (.tuple #[v, .int .i64 0, .int .i64 0]) ∧ OwnI w' w.heap.size v s.prog

theorem walkS_line : ∀ (xs : List (Nat × List UInt8)) (s : Sheet) (n : Int), walkS s xs = .inl n → 0 < xs.length
  | [], _, _, h => by cases h
  | _ :: _, _, _, _ => by simp
theorem readS_err {text : List UInt8} {n k : Int} (h : readS text = .inl (n, k)) : (k == 0) = false := by
  unfold readS at h
  split at h
  · injection h with h; injection h with _ h; rw [← h]; rfl
  · split at h
    · injection h with h; injection h with _ h; rw [← h]; rfl
    · unfold endS at h
      split at h
      · injection h with h; injection h with _ h; rw [← h]; rfl
      · cases h

set_option maxRecDepth 100000 in
set_option maxHeartbeats 1000000 in
theorem reads_any (text : List UInt8) (hl : text.length ≤ 9223372036854775807) (w : World) (hg : Gl w) : Calls Tryd.prog 14 #[S text] w (ReadsPost text w) := by
  have hr := read_any text hl w hg
  unfold ReadPost at hr
  unfold ReadsPost
  have he := @readS_err text
  generalize readS text = R at *
  clear hg hl
  cases R with
  | inl p =>
    obtain ⟨n, k⟩ := p
    have hk := he rfl
    clear he
    go_enter Tryd.func14, Tryd.ntmps14
    go_wp2_with fail
    refine hr.mono ?_
    rintro e w1 ⟨hb, rfl⟩
    have HB := Lib.hid hb
    clear hr hb
    go_wp2
    exact bodyPost_ret (v := .tuple #[.slice none 0 0, .int .i64 n, .int .i64 k]) (by simp [results, Tryd.results14, go_sem]) rfl ⟨HB.out, rfl⟩
  | inr s =>
    clear he
    go_enter Tryd.func14, Tryd.ntmps14
    go_wp2_with fail
    refine hr.mono ?_
    rintro e w1 ⟨hb, b, m, rfl, pv, mv, gv, hS⟩
    have c0 : w1.cell? ⟨b, 0, none⟩ = some pv := hS.ob.cell 0
    have HB := Lib.hid hb; have HS := Lib.hid hS
    clear hr hb hS
    go_wp2
    exact bodyPost_ret (v := .tuple #[pv, .int .i64 0, .int .i64 0]) (by simp [results, Tryd.results14, go_sem]) rfl ⟨HB.out, pv, rfl, HS.out.op⟩

def aliveT : List UInt8 := [101, 108, 115, 101, 32, 120, 10, 58, 120, 10, 104, 97, 108, 116]
theorem alive_read : readS aliveT = .inr ⟨[⟨20, 1, 0, 0⟩, ⟨0, 0, 0, 0⟩], [⟨[120], 2, 1⟩], [⟨[120], 1, 0⟩]⟩ := by kernel_rfl
theorem alive_write : wrS [112] [⟨4, 0, 0, 0⟩, ⟨3, 3, 1, 2⟩, ⟨19, 0, 0, 0⟩, ⟨5, 0, 0, 0⟩] = ([98, 101, 103, 105, 110, 10, 106, 117, 109, 112, 32, 112, 51, 32, 49, 32, 50, 10, 114, 101, 116, 114, 121, 10, 58, 112, 51, 10, 101, 110, 100, 10], 0) := by kernel_rfl
end Go.Proofs.YtiegkhoidabkhaaDoor
namespace Go.Proofs.YtiegkhoidabkhaaDoor
open Go.Shelf Go.RowKit Go.Maps

theorem rd_cells {w : World} {g : Nat} {p : List Ins} (h : ∀ j, j < p.length * 4 → w.cell? ⟨g, j, none⟩ = (p.flatMap Ins.cells)[j]?) : RdIns w (some ⟨g, 0, none⟩) p := fun i x hx => by
  have hi := (List.getElem?_eq_some_iff.1 hx).1
  have key : ∀ r, r < 4 → w.cell? ⟨g, i * 4 + r, none⟩ = x.cells[r]? := fun r hr => by
    rw [h _ (by omega), flat_get Ins.cells 4 p (fun _ _ => rfl) i r x hx hr]
  refine ⟨_, rfl, ?_⟩
  have e : (Addr.add ⟨g, 0, none⟩ (i * 4)) = ⟨g, i * 4, none⟩ := by simp [Addr.add]; omega
  rw [e]
  exact ⟨key 0 (by omega), key 1 (by omega), key 2 (by omega), key 3 (by omega)⟩
theorem rd_block {w : World} {g : Nat} {p : List Ins} {t : TypeId} {fr : Nat × Nat} {cs : Array Value} (h : Ob w g (.cells cs t fr)) (hc : cs = (p.flatMap Ins.cells).toArray) : RdIns w (some ⟨g, 0, none⟩) p := by
  subst hc
  exact rd_cells fun j _ => by rw [h.cell]; simp
theorem rd_own {w : World} {B : Nat} {v : Value} {p : List Ins} (h : OwnI w B v p) : ∃ A c, v = .slice A p.length c ∧ RdIns w A p := by
  rcases Nat.eq_zero_or_pos p.length with h0 | h0
  · obtain ⟨A, c, rfl⟩ := own_slice h
    refine ⟨A, c, rfl, fun i x hx => ?_⟩
    have hi := (List.getElem?_eq_some_iff.1 hx).1
    omega
  · obtain ⟨g, c, rfl, _, _⟩ := h.form h0
    exact ⟨_, c, rfl, rd_cells fun j hj => h.cellAt j hj⟩
theorem forgetC {P : Program} {f : FuncId} {args : Array Value} {Q : Ending → World → Prop} {W : World} (R : World → Prop) (hR : R W) (h : ∀ wo, R wo → Calls P f args wo Q) : Calls P f args W Q := h W hR
def aliveP : List Ins := [⟨4, 0, 0, 0⟩, ⟨3, 3, 1, 2⟩, ⟨19, 0, 0, 0⟩, ⟨5, 0, 0, 0⟩]
theorem aliveP_fit : ∀ x ∈ aliveP, x.Fit := by
  intro x hx
  simp [aliveP] at hx
  rcases hx with rfl | rfl | rfl | rfl <;> exact ⟨by decide, by decide, by decide, by decide, by decide, by decide, by decide, by decide⟩

set_option maxRecDepth 100000 in
set_option maxHeartbeats 1000000 in
theorem alive_any (w : World) (hg : Gl w) : Calls Tryd.prog 11 #[] w fun e w' => e = .returned (.bool true) ∧ Below w.heap.size w w' := by
  have h10 := hg.size
  have HG := Lib.hid hg
  clear hg
  go_enter Tryd.func11, Tryd.ntmps11
  go_wp2_with fail
  refine forgetC (fun wo => RdIns wo (some ⟨w.heap.size, 0, none⟩) aliveP ∧ Below w.heap.size w wo) ⟨rd_block (Ob.new _ _) rfl, (Below.refl _ _).alloc (Nat.le_refl _) _⟩ ?_
  rintro wo ⟨hr, hb⟩
  have hw := write_any (some ⟨w.heap.size, 0, none⟩) aliveP 4 aliveP_fit wo (HG.out.belowH hb) hr (by decide)
  rw [show aliveP.length = 4 from rfl, show wrS [112] aliveP = _ from alive_write] at hw
  have HB := Lib.hid hb
  clear hr hb
  refine hw.mono ?_
  rintro e w1 ⟨rfl, hb1⟩
  have HB1 := Lib.hid (below_next HB.out hb1)
  clear HB hb1 hw
  have hr := reads_any aliveT (by decide) w1 (HG.out.belowH HB1.out)
  unfold ReadsPost at hr
  rw [alive_read] at hr
  go_wp2_with fail
  refine hr.mono ?_
  rintro e w2 ⟨hb2, v, rfl, hown⟩
  have HB2 := Lib.hid (below_next HB1.out hb2)
  clear HB1 hb2 hr
  obtain ⟨A, c, rfl, hrd⟩ := rd_own hown
  obtain ⟨ad, rfl, hc0, hc1, hc2, hc3⟩ := hrd 0 _ rfl
  have e0 : ad.add (0 * 4) = ad := by
    cases ad
    simp [Addr.add]
  rw [e0] at hc1
  clear hc0 hc2 hc3 e0
  clear hown hrd
  go_wp2
  go_ret
  exact ⟨rfl, HB2.out⟩
end Go.Proofs.YtiegkhoidabkhaaDoor
