/- label.Read; the laws' alive. -/
import Derived.Test.YtiegkhoidabkhaaDoorA19
import Derived.Test.YtiegkhoidabkhaaDoorA4
namespace Go.Proofs.YtiegkhoidabkhaaDoor
open Go.Shelf Go.RowKit Go.Maps

theorem read_any (text : List UInt8) (hl : text.length ≤ 9223372036854775807) (w : World) (hg : Gl w) : Calls Tryd.prog 30 #[S text] w (ReadPost text w) := by
  by_cases h : 4096 < text.length
  · exact read_long text h hl w
  · exact read_short text (by omega) w hg

def ReadsPost (text : List UInt8) (w : World) (e : Ending) (w' : World) : Prop := Below w.heap.size w w' ∧ match readS text with
  | .inl (n, k) => e = .returned (.tuple #[.slice none 0 0, .int .i64 n, .int .i64 k])
  | .inr s => ∃ v, e = .returned (.tuple #[v, .int .i64 0, .int .i64 0]) ∧ OwnI w' w.heap.size v s.prog

theorem walkS_line : ∀ (xs : List (Nat × List UInt8)) (s : Sheet) (n : Int), walkS s xs = .inl n → 0 < xs.length
  | [], _, _, h => by cases h
  | _ :: _, _, _, _ => by simp
theorem readS_err {text : List UInt8} {n k : Int} (h : readS text = .inl (n, k)) : (k == 0) = false := by
  unfold readS at h
  split at h
  · injection h with h; injection h with _ h; rw [← h]; rfl
  · split at h
    · injection h with h; injection h with _ h; rw [← h]; rfl
    · unfold endS at h
      split at h
      · injection h with h; injection h with _ h; rw [← h]; rfl
      · cases h

set_option maxRecDepth 100000 in
set_option maxHeartbeats 1000000 in
theorem reads_any (text : List UInt8) (hl : text.length ≤ 9223372036854775807) (w : World) (hg : Gl w) : Calls Tryd.prog 14 #[S text] w (ReadsPost text w) := by
  have hr := read_any text hl w hg
  unfold ReadPost at hr
  unfold ReadsPost
  have he := @readS_err text
  generalize readS text = R at *
  clear hg hl
  cases R with
  | inl p =>
    obtain ⟨n, k⟩ := p
    have hk := he rfl
    clear he
    go_enter Tryd.func14, Tryd.ntmps14
    go_wp2_with fail
    refine hr.mono ?_
    rintro e w1 ⟨hb, rfl⟩
    have HB := Lib.hid hb
    clear hr hb
    go_wp2
    exact bodyPost_ret (v := .tuple #[.slice none 0 0, .int .i64 n, .int .i64 k]) (by simp [results, Tryd.results14, go_sem]) rfl ⟨HB.out, rfl⟩
  | inr s =>
    clear he
    go_enter Tryd.func14, Tryd.ntmps14
    go_wp2_with fail
    refine hr.mono ?_
    rintro e w1 ⟨hb, b, m, rfl, pv, mv, gv, hS⟩
    have c0 : w1.cell? ⟨b, 0, none⟩ = some pv := hS.ob.cell 0
    have HB := Lib.hid hb; have HS := Lib.hid hS
    clear hr hb hS
    go_wp2
    exact bodyPost_ret (v := .tuple #[pv, .int .i64 0, .int .i64 0]) (by simp [results, Tryd.results14, go_sem]) rfl ⟨HB.out, pv, rfl, HS.out.op⟩

def aliveT : List UInt8 := [101, 108, 115, 101, 32, 120, 10, 58, 120, 10, 104, 97, 108, 116]
theorem alive_read : readS aliveT = .inr ⟨[⟨20, 1, 0, 0⟩, ⟨0, 0, 0, 0⟩], [⟨[120], 2, 1⟩], [⟨[120], 1, 0⟩]⟩ := by kernel_rfl
theorem alive_write : wrS [112] [⟨4, 0, 0, 0⟩, ⟨3, 3, 1, 2⟩, ⟨19, 0, 0, 0⟩, ⟨5, 0, 0, 0⟩] = ([98, 101, 103, 105, 110, 10, 106, 117, 109, 112, 32, 112, 51, 32, 49, 32, 50, 10, 114, 101, 116, 114, 121, 10, 58, 112, 51, 10, 101, 110, 100, 10], 0) := by kernel_rfl
end Go.Proofs.YtiegkhoidabkhaaDoor
