/- label.Marks: the iterator. -/
import Derived.Test.YtiegkhoidabkhaaDoorA21
import Derived.Test.YtiegkhoidabkhaaDoorB11
import Derived.Test.YtiegkhoidabkhaaDoorB17
import Derived.Outline
namespace Go.Proofs.YtiegkhoidabkhaaDoor
open Go.Shelf Go.RowKit Go.Maps
attribute [local go_sem] Oper.semAt_some

/-- What a round that goes on keeps for the iterator: rows of places. -/
def KeepU (W W' : World) : Prop := ∀ (k : Nat) (cs : Array Value) (fr : Nat × Nat), W.heap[k]? = some (Obj.cells cs 86 fr) → W'.heap[k]? = some (Obj.cells cs 86 fr)
theorem keepU_t {A B C : World} (h : KeepU A B) (k : KeepU B C) : KeepU A C := fun i cs fr hi => k i cs fr (h i cs fr hi)
theorem keepU_b (W : World) (l : Nat) (o o' : Obj) (h : W.heap[l]? = some o) (hc : o.isCells = false) : KeepU W (W.putObj l o') := fun i cs fr hi => by
  refine (World.putObj_heap_other (fun e => ?_)).trans hi
  subst e
  rw [h] at hi
  cases hi
  cases hc
theorem keepU_alloc (W : World) (o : Obj) : KeepU W (W.alloc o) := fun i cs fr hi => (show Ob (W.alloc o) i _ from Ob.alloc hi o)
theorem own_keepU {W W' : World} {B n : Nat} {v : Value} {xs : List Value} (h : W.ownsRow B 86 3 v n xs) (k : KeepU W W') : W'.ownsRow B 86 3 v n xs := by
  refine ⟨h.1, ?_⟩
  rcases h.2 with h1 | ⟨g, cap, cur, h1, h2, h3, h4⟩
  · exact .inl h1
  · exact .inr ⟨g, cap, cur, h1, h2, k _ _ _ h3, h4⟩
def marksOf (text : List UInt8) : List (List UInt8 × Int) := match readS text with | .inl _ => [] | .inr s => s.marks.map Place.key
abbrev markArgs (x : List UInt8 × Int) : Array Value := #[S x.1, .int .i64 x.2]

theorem endS_marks {s1 s : Sheet} (h : endS s1 = .inr s) : s.marks = s1.marks := by
  unfold endS at h
  split at h
  · cases h
  · injection h with h
    rw [← h]

set_option maxRecDepth 100000 in
set_option maxHeartbeats 2000000 in
theorem marks1_in (n : Nat) (hn : 1 ≤ n) (l Bn : Nat) (text : List UInt8) (hl : text.length ≤ 9223372036854775807) (J Jx : List (List UInt8 × Int) → World → Prop)
    (hY : ∀ pre x W, J pre W → pre.length < 5000 → YieldAt Fence.wide (n - 1) Tryd.prog l (markArgs x) W fun e W' =>
      (e = .returned (.bool true) ∧ J (pre ++ [x]) W' ∧ KeepU W W') ∨ (e = .returned (.bool false) ∧ Jx (pre ++ [x]) W'))
    (W : World) (hJ : AbidesFrom W.heap.size J) (hg : Gl W) (hBn : Ob W Bn (.cells #[S text] 9)) (h0 : J [] W) :
    CallsIn Fence.wide n Tryd.prog 35 #[.func (.yield l) #[] #[], .pointer (some ⟨Bn, 0, none⟩)] W fun e W' => (∃ v, e = .returned v) ∧
      ((∃ ys, ys = marksOf text ∧ J ys W') ∨ (∃ pre, pre <+: marksOf text ∧ Jx pre W')) := by
  have c0 : W.cell? ⟨Bn, 0, none⟩ = some (S text) := hBn.cell 0
  have hrd := read_any text hl W hg
  unfold ReadPost at hrd
  have he := @readS_err text
  have hok : ∀ s, readS text = .inr s → s.marks.length ≤ 4999 := fun s h => by
    obtain ⟨h1, s1, h2, h3⟩ := walk_of_read h
    have h4 := (runS_ok _ _ h2).few
    have h5 := numL_len (pieces 10 text) 1
    have h6 := (pieces_len 10 text).2
    have h7 : (linesOf text).length = (numL 1 (pieces 10 text)).length := rfl
    have h8 : s.marks = s1.marks := endS_marks h3
    rw [h8]; omega
  unfold marksOf
  generalize readS text = R at *
  clear hBn hg
  refine callsIn_of_wp Tryd.func35 rfl trivial ?_ rfl
  simp only [Tryd.ntmps35, List.size_toArray, List.length_cons, List.length_nil, Nat.reduceAdd, Nat.reduceSub, Array.replicate_succ, Array.replicate_zero, List.push_toArray, List.append_toArray, List.nil_append, List.cons_append]
  cases R with
  | inl p =>
    obtain ⟨m, k⟩ := p
    have hk := he rfl
    have hk2 : (k != 0) = true := by simpa using hk
    dsimp only at hrd
    clear he hok
    gi_wp2_with (refine ⟨trivial, ?_⟩; gi_at_call 30; refine (callsIn_wide.2 hrd).mono ?_; rintro e w1 ⟨hb1, rfl⟩)
    refine bodyPost_ret (results_none rfl _ _ _) rfl ?_
    exact ⟨⟨_, rfl⟩, .inl (hJ _ _ _ none h0 (grown_below hb1 none) (fun r e => by cases e))⟩
  | inr s =>
    have hml := hok s rfl
    dsimp only at hrd
    clear he hok
    gi_wp2_with (refine ⟨trivial, ?_⟩; gi_at_call 30; refine (callsIn_wide.2 hrd).mono ?_; rintro e w1 ⟨hb1, b, m, rfl, pv, mv, gv, hS⟩; obtain ⟨Am, cm, rfl⟩ := own_slice hS.om; have s1 : w1.cell? ⟨b, 1, none⟩ = some (.slice Am s.marks.length cm) := hS.ob.cell 1)
    have hJ1 : J [] w1 := hJ _ _ _ none h0 (grown_below hb1 none) (fun r e => by cases e)
    have HOM := Lib.hid hS.om
    clear hS hb1 hrd c0 h0 s1
    gi_loopw [21] (fun i wr => ∃ k : Nat, k ≤ s.marks.length ∧ i = .int .i64 k ∧ J ((s.marks.map Place.key).take k) wr ∧ Hid (KeepU w1 wr))
      (fun i _ => s.marks.length - (intOf i).toNat)
    case atStart => exact ⟨0, Nat.zero_le _, rfl, by simpa using hJ1, fun _ _ _ h => h⟩
    case round =>
      clear hJ1
      obtain ⟨k, hk, rfl, hJs, HK⟩ := hrel
      by_cases hlt : k < s.marks.length
      · obtain ⟨x, hx⟩ : ∃ x, s.marks[k]? = some x := ⟨_, List.getElem?_eq_getElem hlt⟩
        have hom := own_keepU HOM.out HK.out
        obtain ⟨g, cap, hv, _, hgl⟩ := hom.form (show 0 < s.marks.length by omega)
        injection hv with hv1 hv2 hv3
        subst hv1
        clear hv2 hv3
        have q0 : wr.cell? ⟨g, k * 3 + 0, none⟩ = some (S x.name) := places_cell hom hx 0 (by omega)
        have q1 : wr.cell? ⟨g, k * 3 + 1, none⟩ = some (.int .i64 x.line) := places_cell hom hx 1 (by omega)
        have q2 : wr.cell? ⟨g, k * 3 + 2, none⟩ = some (.int .i64 x.pos) := places_cell hom hx 2 (by omega)
        rw [Nat.add_zero] at q0
        have htk : (s.marks.map Place.key).take (k + 1) = (s.marks.map Place.key).take k ++ [x.key] := by
          rw [List.take_add_one, List.getElem?_map, hx]; rfl
        have HTK := Lib.hid htk
        have hJa : ∀ o, J ((s.marks.map Place.key).take k) (wr.alloc o) := fun o => hJ _ _ _ none hJs (World.grownBy_alloc wr o none) (fun r e => by cases e)
        have hy := hY ((s.marks.map Place.key).take k) x.key (wr.alloc (.cells #[S x.name, .int .i64 x.line, .int .i64 x.pos] 86)) (hJa _) (by rw [List.length_take]; omega)
        have HK2 := Lib.hid (keepU_t HK.out (keepU_alloc wr (.cells #[S x.name, .int .i64 x.line, .int .i64 x.pos] 86)))
        clear hx htk hom hJa
        rw [show markArgs x.key = #[S x.name, .int .i64 x.pos] from rfl] at hy
        obtain ⟨fn, tmps, assign, body, hy, hR⟩ := hy
        gi_wp2
        refine hR.mono ?_
        rintro e W3 (⟨rfl, hJ3, hk3⟩ | ⟨rfl, hJx3⟩)
        · gi_wp2
          refine ⟨⟨k + 1, by omega, by simp, by rw [HTK.out]; exact hJ3, Lib.hid (keepU_t HK2.out hk3)⟩, ?_⟩
          simp [intOf]; omega
        · gi_wp2
          refine bodyPost_ret (results_none rfl _ _ _) rfl ?_
          exact ⟨⟨_, rfl⟩, .inr ⟨_, (show (s.marks.map Place.key).take k ++ [x.key] <+: s.marks.map Place.key from HTK.out ▸ List.take_prefix (k + 1) _), hJx3⟩⟩
      · have hkl : k = s.marks.length := by omega
        subst hkl
        rw [List.take_of_length_le (by simp)] at hJs
        gi_wp2
        go_end0
        exact ⟨⟨_, rfl⟩, .inl hJs⟩
theorem marks_any (text : List UInt8) (w : World) :
    Calls Tryd.prog 19 #[S text] w fun e w' => e = .returned (.func (.func 35) #[] #[.pointer (some ⟨w.heap.size, 0, none⟩)]) ∧ w' = w.alloc (.cells #[S text] 9) := by
  go_enter Tryd.func19, Tryd.ntmps19
  go_wp2
  go_ret
  exact ⟨rfl, rfl⟩
theorem marks_stops (n : Nat) (hn : 1 ≤ n) (Bn : Nat) (text : List UInt8) (hl : text.length ≤ 9223372036854775807) (w : World) (hg : Gl w) (hBn : Ob w Bn (.cells #[S text] 9)) :
    SeqStopsK Fence.wide n Tryd.prog 35 #[.pointer (some ⟨Bn, 0, none⟩)] markArgs KeepU (fun ys => ys = marksOf text) (fun pre => pre <+: marksOf text) 5000 w := fun l J Jx W hW hJ _ hY h0 =>
  marks1_in n hn l Bn text hl J Jx hY W hJ (hg.belowH hW) (hBn.belowH hW) h0
end Go.Proofs.YtiegkhoidabkhaaDoor
