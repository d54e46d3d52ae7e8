/- The reference's Said at any line; words of memory for the reference's Read. -/
import Derived.Test.YtiegkhoidabkhaaDoorA34
import Derived.Test.YtiegkhoidabkhaaDoorA19
import Derived.Test.YtiegkhoidabkhaaDoorB16
namespace Go.Proofs.YtiegkhoidabkhaaDoor
open Go.Shelf Go.RowKit

theorem said_ref (l : List UInt8) (hne : l ≠ []) (hl : l.length ≤ 60000) (w : World) :
    Calls Tryd.prog 32 #[S l] w fun e w' => ∃ m g op a b c ok, e = .returned (.tuple #[lineV m g op a b c, .bool ok]) ∧ Below w.heap.size w w' ∧ ParseSay (parseOf l) m g op a b c ok := by
  obtain ⟨c0, r, rfl⟩ : ∃ c r, l = c :: r := by
    cases l with
    | nil => exact absurd rfl hne
    | cons c r => exact ⟨c, r, rfl⟩
  unfold parseOf
  by_cases hh : c0 = 58
  · subst hh
    rw [if_pos (by rfl)]
    refine (said_mark r (by simp at hl; omega) w).mono ?_
    rintro e w' ⟨rfl, hb⟩
    refine ⟨r, [], 0, 0, 0, 0, nameB r, rfl, hb, ?_⟩
    show ParseSay (markOf r) _ _ _ _ _ _ _
    unfold markOf ParseSay
    by_cases hn : nameB r = true
    · simp [hn]
    · have hn' : nameB r = false := by simpa using hn
      simp [hn']
  · rw [if_neg (by simpa using hh)]
    exact said_instr c0 r hh hl w

abbrev markCells (p : List UInt8 × Int) : List Value := [S p.1, .int .i64 p.2]
theorem info51 : (Tryd.prog.info? 51).map (fun i => (i.zero, i.size, i.bytes)) = some (some (.agg #[S [], .int .i64 0]), 2, 24) := by kernel_rfl
abbrev OwnM (w : World) (B : Nat) (v : Value) (ms : List (List UInt8 × Int)) : Prop := w.ownsRow B 51 2 v ms.length (ms.flatMap markCells)
abbrev OwnS (w : World) (B : Nat) (v : Value) (ls : List (List UInt8)) : Prop := w.ownsRow B 9 1 v ls.length (ls.map S)

/-- What the reference's Read holds: the instructions, the marks, the lines. -/
structure RM (w : World) (L : List (List UInt8)) (lv pv mv : Value) (p : List Ins) (ms : List (List UInt8 × Int)) (W : World) : Prop where
  op : OwnI W w.heap.size pv p
  om : OwnM W w.heap.size mv ms
  os : OwnS W w.heap.size lv L
  be : Below w.heap.size w W
theorem RM.belowH {w W W1 : World} {L : List (List UInt8)} {lv pv mv : Value} {p : List Ins} {ms : List (List UInt8 × Int)} (h : RM w L lv pv mv p ms W) (hb : Below W.heap.size W W1) : RM w L lv pv mv p ms W1 :=
  ⟨own_below h.op hb, own_below h.om hb, own_below h.os hb, below_next h.be hb⟩
theorem RM.alloc {w W : World} {L : List (List UInt8)} {lv pv mv : Value} {p : List Ins} {ms : List (List UInt8 × Int)} (h : RM w L lv pv mv p ms W) (o : Obj) : RM w L lv pv mv p ms (W.alloc o) :=
  h.belowH ((Below.refl _ _).alloc (Nat.le_refl _) _)
theorem RM.addI {w W W5 : World} {L : List (List UInt8)} {lv pv mv v' : Value} {p : List Ins} {ms : List (List UInt8 × Int)} {x : Ins} (h : RM w L lv pv mv p ms W) (hown : OwnI W5 w.heap.size v' (p ++ [x])) (hgrow : W.grownBy W5 pv.ownBlock) :
    RM w L lv v' mv (p ++ [x]) ms W5 :=
  ⟨hown, h.om.kept hgrow (own_kinds h.om h.op (by decide)), h.os.kept hgrow (own_kinds h.os h.op (by decide)), h.be.grown hgrow h.be.size (own_base h.op)⟩
theorem RM.addM {w W W5 : World} {L : List (List UInt8)} {lv pv mv v' : Value} {p : List Ins} {ms : List (List UInt8 × Int)} {x : List UInt8 × Int} (h : RM w L lv pv mv p ms W) (hown : OwnM W5 w.heap.size v' (ms ++ [x])) (hgrow : W.grownBy W5 mv.ownBlock) :
    RM w L lv pv v' p (ms ++ [x]) W5 :=
  ⟨h.op.kept hgrow (own_kinds h.op h.om (by decide)), hown, h.os.kept hgrow (own_kinds h.os h.om (by decide)), h.be.grown hgrow h.be.size (own_base h.om)⟩
theorem RM.fixed {w W : World} {L : List (List UInt8)} {lv mv : Value} {p : List Ins} {ms : List (List UInt8 × Int)} {gp n cp j : Nat} (h : RM w L lv (.slice (some ⟨gp, 0, none⟩) n cp) mv p ms W) (hn : n = p.length) (a : Int) :
    RM w L lv (.slice (some ⟨gp, 0, none⟩) n cp) mv (p.modify j fun x => fixI x a) ms (W.setCell ⟨gp, j * 4 + 1, none⟩ (.int .i64 a)) := by
  subst hn
  obtain ⟨h1, h2⟩ := h.op.stored (j * 4 + 1) (.int .i64 a)
  have h3 : OwnI (W.setCell ⟨gp, j * 4 + 1, none⟩ (.int .i64 a)) w.heap.size (.slice (some ⟨gp, 0, none⟩) p.length cp) (p.modify j fun x => fixI x a) := by
    unfold OwnI
    rw [← flat_fix, List.length_modify]
    exact h1
  exact ⟨h3, h.om.kept h2 (own_kinds h.om h.op (by decide)), h.os.kept h2 (own_kinds h.os h.op (by decide)), h.be.grown h2 h.be.size (own_base h.op)⟩
theorem rd_own_marks {w : World} {B : Nat} {v : Value} {ms : List (List UInt8 × Int)} (h : OwnM w B v ms) : ∃ A c, v = .slice A ms.length c ∧ RdMk w A ms := by
  rcases Nat.eq_zero_or_pos ms.length with h0 | h0
  · obtain ⟨A, c, rfl⟩ := own_slice h
    refine ⟨A, c, rfl, fun i x hx => ?_⟩
    have hi := (List.getElem?_eq_some_iff.1 hx).1
    omega
  · obtain ⟨g, c, rfl, _, _⟩ := h.form h0
    refine ⟨_, c, rfl, fun i x hx => ⟨_, rfl, ?_⟩⟩
    have hi := (List.getElem?_eq_some_iff.1 hx).1
    have e : (Addr.add ⟨g, 0, none⟩ (i * 2)) = ⟨g, i * 2, none⟩ := by rw [add_off]; simp
    rw [e]
    have key : ∀ r, r < 2 → w.cell? ⟨g, i * 2 + r, none⟩ = (markCells x)[r]? := fun r hr => by
      rw [h.cellAt _ (by omega), flat_get markCells 2 ms (fun _ _ => rfl) i r x hx hr]
    exact ⟨key 0 (by omega), key 1 (by omega)⟩
theorem takeS_len {s s' : Sheet} {n : Int} {l : List UInt8} (h : takeS s n l = some s') : s.prog.length ≤ s'.prog.length := by
  unfold takeS at h
  split at h
  · cases h
  · split at h
    · unfold takeIns at h
      split at h
      · cases h
      · obtain rfl := Option.some.inj h
        simp
    · unfold takeMark at h
      split at h
      · cases h
      · obtain rfl := Option.some.inj h
        exact Nat.le_refl _
theorem runS_len (a : List (Nat × List UInt8)) : ∀ (b : List (Nat × List UInt8)) (s s1 : Sheet), runS (a ++ b) = some s → runS a = some s1 → s1.prog.length ≤ s.prog.length :=
  snoc_ind (fun s s1 h h1 => by
    rw [List.append_nil, h1] at h
    rw [Option.some.inj h]; exact Nat.le_refl _) fun l x ih s s1 h h1 => by
    rw [← List.append_assoc, runS_snoc] at h
    cases h2 : runS (a ++ l) with
    | none => rw [h2] at h; cases h
    | some s2 =>
      rw [h2] at h
      exact Nat.le_trans (ih s2 s1 h2 h1) (takeS_len h)
theorem run_len {L : List (List UInt8)} {s si : Sheet} (h : runS (numL 1 L) = some s) {i : Nat} (hi : runS (numL 1 (L.take i)) = some si) : si.prog.length ≤ s.prog.length := by
  obtain ⟨b, hb⟩ := numL_take L i 1
  rw [← hb] at h
  exact runS_len _ b s si h hi
def RefPost (text : List UInt8) (w : World) (e : Ending) (w' : World) : Prop := Below w.heap.size w w' ∧ match readS text with
  | .inl (n, k) => e = .returned (.tuple #[.slice none 0 0, .slice none 0 0, .int .i64 n, .int .i64 k])
  | .inr s => ∃ v mv, e = .returned (.tuple #[v, mv, .int .i64 0, .int .i64 0]) ∧ OwnI w' w.heap.size v s.prog ∧ OwnM w' w.heap.size mv (s.marks.map Place.key)
theorem RefPost.err {text : List UInt8} {w w' : World} {n k : Int} (h : readS text = .inl (n, k)) (hb : Below w.heap.size w w') : RefPost text w (.returned (.tuple #[.slice none 0 0, .slice none 0 0, .int .i64 n, .int .i64 k])) w' := by
  refine ⟨hb, ?_⟩
  rw [h]
theorem RefPost.ok {text : List UInt8} {w w' : World} {s : Sheet} {v mv : Value} (h : readS text = .inr s) (hb : Below w.heap.size w w') (h1 : OwnI w' w.heap.size v s.prog) (h2 : OwnM w' w.heap.size mv (s.marks.map Place.key)) :
    RefPost text w (.returned (.tuple #[v, mv, .int .i64 0, .int .i64 0])) w' := by
  refine ⟨hb, ?_⟩
  rw [h]
  exact ⟨v, mv, rfl, h1, h2⟩
end Go.Proofs.YtiegkhoidabkhaaDoor
