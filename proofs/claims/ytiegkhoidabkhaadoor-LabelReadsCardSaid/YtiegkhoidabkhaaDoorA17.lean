/- label.lines: the iterator. -/
import Derived.RangeFuncNested
import Derived.RangeFuncBound
import Derived.RangeFuncCalls
import Derived.RangeFuncLeaves
import Derived.Shelf.Abstract
import Derived.Shelf.RegionOpen
import Derived.WalkKit
import Derived.OwnWalkIn
import Derived.TacticsInMore
import Derived.LoopNIn
import Derived.LoopIn
import Derived.Test.YtiegkhoidabkhaaDoorA13
import Derived.Test.YtiegkhoidabkhaaDoorB8
namespace Go.Proofs.YtiegkhoidabkhaaDoor
open Go.Shelf Go.RowKit
attribute [local go_sem] Oper.semAt_some

/-- What a round that goes on keeps for the iterator: rows of strings. -/
def KeepT (W W' : World) : Prop := ∀ (k : Nat) (cs : Array Value) (fr : Nat × Nat), W.heap[k]? = some (Obj.cells cs 9 fr) → W'.heap[k]? = some (Obj.cells cs 9 fr)
abbrev lineArgs (x : Nat × List UInt8) : Array Value := #[.int .i64 (x.1 : Int), S (x.2.take 4096)]

set_option maxRecDepth 100000 in
set_option maxHeartbeats 1000000 in
theorem lines1_in (n : Nat) (hn : 1 ≤ n) (l Bn : Nat) (text : List UInt8) (hl : text.length ≤ 4096) (J Jx : List (Nat × List UInt8) → World → Prop)
    (hY : ∀ pre x W, J pre W → pre.length < 5000 → YieldAt Fence.wide (n - 1) Tryd.prog l (lineArgs x) W fun e W' =>
      (e = .returned (.bool true) ∧ J (pre ++ [x]) W' ∧ KeepT W W') ∨ (e = .returned (.bool false) ∧ Jx (pre ++ [x]) W'))
    (W : World) (hJ : AbidesFrom W.heap.size J) (hg : Gl W) (hBn : Ob W Bn (.cells #[S text] 9)) (h0 : J [] W) :
    CallsIn Fence.wide n Tryd.prog 54 #[.func (.yield l) #[] #[], .pointer (some ⟨Bn, 0, none⟩)] W fun e W' => (∃ v, e = .returned v) ∧
      ((∃ ys, ys = linesOf text ∧ J ys W') ∨ (∃ pre, pre <+: linesOf text ∧ Jx pre W')) := by
  obtain ⟨mx, hmx⟩ := hg.len
  unfold linesOf
  have hpl := pieces_len 10 text
  have hple := pieces_le 10 text
  obtain ⟨P, hP⟩ : ∃ P, P = pieces 10 text := ⟨_, rfl⟩
  rw [← hP] at hpl hple ⊢
  have c0 : W.cell? ⟨Bn, 0, none⟩ = some (S text) := hBn.cell 0
  have hsp : Calls Tryd.prog 55 #[S text, S [10]] W fun e w'' => e = .returned (.slice (some ⟨W.heap.size, 0, none⟩) P.length P.length) ∧ w'' = W.alloc (.cells (P.map S).toArray 9) := by
    refine (Tryd.strings_Split ⟨text.toArray⟩ ⟨[10].toArray⟩ mx W (by simp [ByteArray.size]; omega) hmx (by decide)).mono ?_
    rintro e w'' ⟨rfl, rfl⟩
    rw [splitB_pieces, count_pieces, ← hP]
    exact ⟨rfl, rfl⟩
  clear hP
  refine callsIn_of_wp Tryd.func54 rfl trivial ?_ rfl
  simp only [Tryd.ntmps54, List.size_toArray, List.length_cons, List.length_nil, Nat.reduceAdd, Nat.reduceSub, Array.replicate_succ, Array.replicate_zero, List.push_toArray, List.append_toArray, List.nil_append, List.cons_append]
  gi_wp2_with (refine ⟨trivial, ?_⟩; gi_at_call 55; refine (callsIn_wide.2 hsp).mono ?_; rintro e w1 ⟨rfl, rfl⟩)
  have hJ1 : J [] (W.alloc (.cells (P.map S).toArray 9)) := hJ _ _ _ none h0 (World.grownBy_alloc W _ none) (fun r e => by cases e)
  have hP1 : Ob (W.alloc (.cells (P.map S).toArray 9)) W.heap.size (.cells (P.map S).toArray 9) := Ob.new _ _
  have HLE := Lib.hid hple
  clear hsp hple c0 hmx hBn hg
  gi_loopw [8] (fun i wr => ∃ k : Nat, k ≤ P.length ∧ i = .int .i64 k ∧ J (numL 1 (P.take k)) wr ∧ Ob wr W.heap.size (.cells (P.map S).toArray 9))
    (fun i _ => P.length - (intOf i).toNat)
  case atStart => exact ⟨0, Nat.zero_le _, rfl, by simpa [numL] using hJ1, hP1⟩
  case round =>
    clear hJ1 hP1
    obtain ⟨k, hk, rfl, hJs, hO⟩ := hrel
    by_cases hlt : k < P.length
    · obtain ⟨s, hs⟩ : ∃ s, P[k]? = some s := ⟨_, List.getElem?_eq_getElem hlt⟩
      have hcs : wr.cell? ⟨W.heap.size, k, none⟩ = some (S s) := by rw [hO.cell]; simp [hs]
      have hsn := numL_snoc hs 1
      by_cases he : s = []
      · rw [if_pos he] at hsn
        subst he
        have HSN := Lib.hid hsn
        clear hsn hs
        have he' : (([] : List UInt8) == []) = true := rfl
        gi_wp2
        refine ⟨fun _ h => (by cases h), ?_⟩
        gi_wp2
        have hx : numL 1 (List.take (k + 1) P) = numL 1 (List.take k P) ++ [] := HSN
        refine ⟨⟨k + 1, by omega, by simp, by rw [hx, List.append_nil]; exact hJs, hO⟩, ?_⟩
        simp [intOf]; omega
      · rw [if_neg he] at hsn
        have HSN := Lib.hid hsn
        have hsm := List.mem_of_getElem? hs
        clear hsn hs
        have he' : (s == []) = false := by simp [he]
        have hlen : (numL 1 (P.take k)).length < 5000 := by
          have := numL_len (P.take k) 1
          simp at this
          omega
        have hcast : ((1 + k : Nat) : Int) = (k : Int) + 1 := by omega
        have hs4 : s.take 4096 = s := by
          have hx : ∀ x ∈ P, x.length ≤ text.length := HLE
          have := hx s hsm
          exact List.take_of_length_le (by omega)
        have hy := hY _ (1 + k, s) wr hJs hlen
        rw [show lineArgs (1 + k, s) = #[.int .i64 ((k : Int) + 1), S s] by simp only [lineArgs, hcast, hs4]] at hy
        obtain ⟨fn, tmps, assign, body, hy, hR⟩ := hy
        gi_wp2
        refine hR.mono ?_
        rintro e W3 (⟨rfl, hJ3, hk3⟩ | ⟨rfl, hJx3⟩)
        · have hx : numL 1 (List.take (k + 1) P) = numL 1 (List.take k P) ++ [(1 + k, s)] := HSN
          gi_wp2
          refine ⟨⟨k + 1, by omega, by simp, by rw [hx]; exact hJ3, hk3 _ _ _ hO⟩, ?_⟩
          simp [intOf]; omega
        · gi_wp2
          refine bodyPost_ret (results_none rfl _ _ _) rfl ?_
          exact ⟨⟨_, rfl⟩, .inr ⟨_, (show numL 1 (List.take k P) ++ [(1 + k, s)] <+: numL 1 P from HSN ▸ numL_take P (k + 1) 1), hJx3⟩⟩
    · have hkl : k = P.length := by omega
      subst hkl
      rw [List.take_length] at hJs
      gi_wp2
      go_end0
      exact ⟨⟨_, rfl⟩, .inl ⟨_, rfl, hJs⟩⟩
end Go.Proofs.YtiegkhoidabkhaaDoor
