/- label.lines; (*label.sheet).take in one piece. -/
import Derived.Test.YtiegkhoidabkhaaDoorA17
import Derived.Test.YtiegkhoidabkhaaDoorA14
import Derived.Test.YtiegkhoidabkhaaDoorA15
import Derived.Test.YtiegkhoidabkhaaDoorA16
namespace Go.Proofs.YtiegkhoidabkhaaDoor
open Go.Shelf Go.RowKit

set_option maxRecDepth 100000 in
set_option maxHeartbeats 1000000 in
theorem lines_any (text : List UInt8) (w : World) :
    Calls Tryd.prog 42 #[S text] w fun e w' => e = .returned (.func (.func 54) #[] #[.pointer (some ⟨w.heap.size, 0, none⟩)]) ∧ w' = w.alloc (.cells #[S text] 9) := by
  go_enter Tryd.func42, Tryd.ntmps42
  go_wp2
  go_ret
  exact ⟨rfl, rfl⟩

theorem lines_stops (n : Nat) (hn : 1 ≤ n) (Bn : Nat) (text : List UInt8) (hl : text.length ≤ 4096) (w : World) (hg : Gl w) (hBn : Ob w Bn (.cells #[S text] 9)) :
    SeqStopsK Fence.wide n Tryd.prog 54 #[.pointer (some ⟨Bn, 0, none⟩)] lineArgs KeepT (fun ys => ys = linesOf text) (fun pre => pre <+: linesOf text) 5000 w := fun l J Jx W hW hJ _ hY h0 =>
  lines1_in n hn l Bn text hl J Jx hY W hJ (hg.belowH hW) (hBn.belowH hW) h0

theorem keepT_t {A B C : World} (h : KeepT A B) (k : KeepT B C) : KeepT A C := fun i cs fr hi => k i cs fr (h i cs fr hi)
theorem keepT_b (W : World) (l : Nat) (o o' : Obj) (h : W.heap[l]? = some o) (hc : o.isCells = false) : KeepT W (W.putObj l o') := fun i cs fr hi => by
  refine (World.putObj_heap_other (fun e => ?_)).trans hi
  subst e
  rw [h] at hi
  cases hi
  cases hc
theorem Spares.keepT {b m : Nat} {w w' : World} {B : Nat} {s : Sheet} {pv mv gv : Value} (h : Spares b m w w') (hs : SheetAt B b m s pv mv gv w) : KeepT w w' := fun i cs fr hi => by
  refine h.kept i _ hi ?_ ?_ (by intro _ _ e; cases e) (by intro _ _ e; cases e)
  · rintro rfl
    have := hs.ob.eq (o' := .cells cs 9 fr) hi
    cases this
  · rintro rfl
    obtain ⟨es, cl, hm, _⟩ := hs.nm
    rw [hm] at hi; cases hi
theorem Spares.from {b m B : Nat} {w w' : World} (h : Spares b m w w') (hb : b < B) (hm : m < B) : KeepsFrom B w w' := ⟨h.size, fun k o hk hi ho =>
  h.kept k o hi (by omega) (by omega) (by rintro cs fr rfl; cases ho) (by rintro cs fr rfl; cases ho)⟩

theorem parse_marked {l : List UInt8} {y : Say} (hp : parseOf l = some y) (hm : y.mark ≠ []) : ∃ r, y = ⟨r, [], 0, [0, 0, 0]⟩ ∧ nameB r = true := by
  unfold parseOf at hp
  split at hp
  · unfold markOf at hp
    split at hp
    · rename_i hn
      exact ⟨_, (Option.some.inj hp).symm, hn⟩
    · cases hp
  · unfold instrOf at hp
    split at hp
    · cases hp
    · split at hp
      · cases hp
      · split at hp
        · rw [← Option.some.inj hp] at hm
          exact absurd rfl hm
        · cases hp

theorem take_any (B b m : Nat) (s : Sheet) (n : Int) (l : List UInt8) (hl : l.length ≤ 60000) (hml : s.marks.length ≤ 60000) (hgl : s.goals.length ≤ 60000) (w : World) (hg : Gl w) (hs : IsSheet B b m s w) :
    Calls Tryd.prog 43 #[.pointer (some ⟨b, 0, none⟩), .int .i64 n, S l] w (TakePost B b m s n l w) := by
  obtain ⟨pv, mv, gv, hs⟩ := hs
  cases hp : parseOf l with
  | none => exact take_none B b m s n l hl hp w hg pv mv gv hs
  | some y =>
    by_cases hm : y.mark = []
    · by_cases h48 : 48 ≤ s.prog.length
      · exact take_full B b m s n l hl y hp hm h48 w hg pv mv gv hs
      · by_cases hgo : y.goal = []
        · exact take_plain B b m s n l hl y hp hm hgo (by omega) w hg pv mv gv hs
        · exact take_goal B b m s n l hl y hp hm hgo hgl (by omega) w hg pv mv gv hs
    · obtain ⟨r, rfl, hr⟩ := parse_marked hp hm
      exact take_mark B b m s n l hl r hp hr hml w hg pv mv gv hs
end Go.Proofs.YtiegkhoidabkhaaDoor
