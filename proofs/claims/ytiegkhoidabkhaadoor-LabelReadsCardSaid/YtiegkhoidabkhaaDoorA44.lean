/- Both readings in one form; words of memory for the law LabelReads. -/
import Derived.RangeFuncWrites
import Derived.RangeFuncLeaves
import Derived.Test.YtiegkhoidabkhaaDoorA36
import Derived.Test.YtiegkhoidabkhaaDoorA43
import Derived.Test.YtiegkhoidabkhaaDoorA26
import Derived.Outline
namespace Go.Proofs.YtiegkhoidabkhaaDoor
open Go.Shelf Go.RowKit Go.Maps

def progOf (text : List UInt8) : List Ins := match readS text with | .inl _ => [] | .inr s => s.prog
def lineNo (text : List UInt8) : Int := match readS text with | .inl (n, _) => n | .inr _ => 0
def errOf (text : List UInt8) : Int := match readS text with | .inl (_, k) => k | .inr _ => 0
theorem progOf_len (text : List UInt8) : (progOf text).length ≤ 48 := by
  unfold progOf
  cases h : readS text with
  | inl p => simp
  | inr s => exact (read_good h).1
theorem reads_u (text : List UInt8) (hl : text.length ≤ 9223372036854775807) (w : World) (hg : Gl w) :
    Calls Tryd.prog 14 #[S text] w fun e w' => ∃ A c, e = .returned (.tuple #[.slice A (progOf text).length c, .int .i64 (lineNo text), .int .i64 (errOf text)]) ∧ RdIns w' A (progOf text) ∧ Below w.heap.size w w' := by
  refine (reads_any text hl w hg).mono ?_
  rintro e w' ⟨hb, h⟩
  unfold progOf lineNo errOf
  cases hr : readS text with
  | inl p =>
    obtain ⟨n, k⟩ := p
    rw [hr] at h
    exact ⟨none, 0, h, fun i x hx => by simp at hx, hb⟩
  | inr s =>
    rw [hr] at h
    obtain ⟨v, rfl, hown⟩ := h
    obtain ⟨A, c, rfl, hrd⟩ := rd_own hown
    exact ⟨A, c, rfl, hrd, hb⟩
theorem ref_u (text : List UInt8) (hl : text.length ≤ 9223372036854775807) (w : World) :
    Calls Tryd.prog 16 #[S text] w fun e w' => ∃ A c mv, e = .returned (.tuple #[.slice A (progOf text).length c, mv, .int .i64 (lineNo text), .int .i64 (errOf text)]) ∧ RdIns w' A (progOf text) ∧ OwnM w' w.heap.size mv (marksOf text) ∧ Below w.heap.size w w' := by
  refine (ref_any text hl w).mono ?_
  rintro e w' ⟨hb, h⟩
  unfold progOf lineNo errOf marksOf
  cases hr : readS text with
  | inl p =>
    obtain ⟨n, k⟩ := p
    rw [hr] at h
    exact ⟨none, 0, .slice none 0 0, h, fun i x hx => by simp at hx, World.ownsRow_nil _ _ _ _, hb⟩
  | inr s =>
    rw [hr] at h
    obtain ⟨v, mv, rfl, hown, hom⟩ := h
    obtain ⟨A, c, rfl, hrd⟩ := rd_own hown
    exact ⟨A, c, mv, rfl, hrd, hom, hb⟩
theorem own_mono {w : World} {B B' e sz n : Nat} {v : Value} {xs : List Value} (h : w.ownsRow B e sz v n xs) (hB : B' ≤ B) : w.ownsRow B' e sz v n xs := by
  refine ⟨h.1, ?_⟩
  rcases h.2 with h1 | ⟨g, cap, cur, h1, h2, h3⟩
  · exact .inl h1
  · exact .inr ⟨g, cap, cur, h1, by omega, h3⟩
/-- What lies about the loop over the marks: what stops it, the result, the reference's marks, the count. -/
structure LrF (w : World) (b9 b12 : Nat) (stop : Int) (Am : Option Addr) (cm : Nat) (M : List (List UInt8 × Int)) (kk : Int) (W : World) : Prop where
  st : Ob W w.heap.size (.cells #[.int .i64 stop] 3)
  rs : Ob W (w.heap.size + 1) (.cells #[.bool false] 4)
  mr : Ob W b9 (.cells #[.slice Am M.length cm] 33)
  kc : Ob W b12 (.cells #[.int .i64 kk] 3)
  om : OwnM W w.heap.size (.slice Am M.length cm) M
  be : Below w.heap.size w W
  lo : w.heap.size + 1 < b9 ∧ b9 < b12
section
variable {w W W' : World} {b9 b12 : Nat} {stop : Int} {Am : Option Addr} {cm : Nat} {M : List (List UInt8 × Int)} {kk : Int}
theorem LrF.kept {row : Option Nat} (h : LrF w b9 b12 stop Am cm M kk W) (hg : W.grownBy W' row) (hr : ∀ r, row = some r → b12 < r ∧ ∃ o : Obj, W.heap[r]? = some o ∧ o.isCells = false) : LrF w b9 b12 stop Am cm M kk W' := by
  have hne : ∀ k, k ≤ b12 → some k ≠ row := fun k hk e => by have := (hr k e.symm).1; omega
  obtain ⟨l1, l2⟩ := h.lo
  have hk : (Value.slice Am M.length cm).ownBlock = none ∨ (Value.slice Am M.length cm).ownBlock ≠ row := by
    rcases row with _ | r
    · rcases h' : (Value.slice Am M.length cm).ownBlock with _ | _
      · exact .inl rfl
      · exact .inr (by simp)
    · right
      obtain ⟨_, o, ho, hc⟩ := hr r rfl
      exact own_ne h.om (o := o) ho (by rintro cs fr rfl; cases hc)
  exact ⟨h.st.grown hg (hne _ (by omega)), h.rs.grown hg (hne _ (by omega)), h.mr.grown hg (hne _ (by omega)), h.kc.grown hg (hne _ (by omega)), h.om.kept hg hk, h.be.grown hg h.be.size (fun r e => by have := (hr r e).1; omega), ⟨l1, l2⟩⟩
theorem LrF.drew (h : LrF w b9 b12 stop Am cm M kk W) : LrF w b9 b12 stop Am cm M kk W.drew := ⟨h.st, h.rs, h.mr, h.kc, h.om.drew, h.be.drew, h.lo⟩
theorem LrF.count (h : LrF w b9 b12 stop Am cm M kk W) (k2 : Int) : LrF w b9 b12 stop Am cm M k2 (W.setCell ⟨b12, 0, none⟩ (.int .i64 k2)) := by
  obtain ⟨l1, l2⟩ := h.lo
  exact ⟨h.st.farB (by omega) _, h.rs.farB (by omega) _, h.mr.farB (by omega) _, h.kc.set 0 _, own_setB h.om (own_ne h.om h.kc (by intro _ _ e; injection e with _ e; cases e)) _, below_setB h.be (by omega) _, ⟨l1, l2⟩⟩
theorem keepU_set {g i : Nat} {cs : Array Value} {t : TypeId} {fr : Nat × Nat} (hg : Ob W g (.cells cs t fr)) (ht : t ≠ 86) (u : Value) : KeepU W (W.setCell ⟨g, i, none⟩ u) := fun k cs' fr' hk => by
  have hne : k ≠ g := by
    rintro rfl
    have := hg.eq (o' := .cells cs' 86 fr') hk
    injection this with _ e
    exact ht e
  exact (show Ob (W.setCell ⟨g, i, none⟩ u) k _ from Ob.farB (o := .cells cs' 86 fr') hk hne u)
theorem keepU_drew : KeepU W W.drew := fun _ _ _ h => h
theorem mark_cell {i : Nat} {x : List UInt8 × Int} {g n : Nat} (h : OwnM W w.heap.size (.slice (some ⟨g, 0, none⟩) n cm) M) (hn : n = M.length) (hx : M[i]? = some x) (r : Nat) (hr : r < 2) : W.cell? ⟨g, i * 2 + r, none⟩ = (markCells x)[r]? := by
  subst hn
  have hi := (List.getElem?_eq_some_iff.1 hx).1
  rw [h.cellAt _ (by omega), flat_get markCells 2 M (fun _ _ => rfl) i r x hx hr]
end
theorem prefix_next {α : Type} {pre M : List α} {x : α} (h : pre <+: M) (hx : M[pre.length]? = some x) : pre ++ [x] <+: M := by
  obtain ⟨r, rfl⟩ := h
  rw [List.getElem?_append_right (Nat.le_refl _), Nat.sub_self] at hx
  cases r with
  | nil => simp at hx
  | cons y r =>
    have : y = x := by simpa using hx
    subst this
    exact ⟨r, by simp⟩
abbrev LrI (w : World) (b9 b12 : Nat) (stop : Int) (Am : Option Addr) (cm : Nat) (M : List (List UInt8 × Int)) (pre : List (List UInt8 × Int)) (W : World) : Prop := pre <+: M ∧ LrF w b9 b12 stop Am cm M pre.length W
/-- Where the loop is left: at an answer that parts, or where it is stopped. -/
abbrev LrX (w : World) (b9 b12 : Nat) (stop : Int) (Am : Option Addr) (cm : Nat) (M : List (List UInt8 × Int)) (c : Code) (pre : List (List UInt8 × Int)) (W : World) : Prop :=
  (¬ pre <+: M) ∨ (c = .exit 0 ∧ (pre.length : Int) = stop ∧ LrF w b9 b12 stop Am cm M pre.length W)
theorem lrI_own {w : World} {b9 n : Nat} {stop : Int} {Am : Option Addr} {cm : Nat} {M : List (List UInt8 × Int)} : OwnFrom (n + 2) (LrI w b9 n stop Am cm M) := fun _ _ _ _ ⟨h1, h2⟩ hg hr =>
  ⟨h1, h2.kept hg (fun r e => ⟨by have := (hr r e).1; omega, (hr r e).2⟩)⟩
theorem lrX_own {w : World} {b9 n : Nat} {stop : Int} {Am : Option Addr} {cm : Nat} {M : List (List UInt8 × Int)} (c : Code) : OwnFrom (n + 2) (LrX w b9 n stop Am cm M c) := fun _ _ _ _ h hg hr => by
  rcases h with h | ⟨h1, h2, h3⟩
  · exact .inl h
  · exact .inr ⟨h1, h2, h3.kept hg (fun r e => ⟨by have := (hr r e).1; omega, (hr r e).2⟩)⟩
end Go.Proofs.YtiegkhoidabkhaaDoor
