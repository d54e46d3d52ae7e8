/- Plain words: what is read, line by line. -/
import Derived.Test.YtiegkhoidabkhaaDoorB4
import Derived.Maps.Views
namespace Go.Proofs.YtiegkhoidabkhaaDoor

structure Place where
  name : List UInt8
  line : Int
  pos : Int
structure Sheet where
  prog : List Ins
  marks : List Place
  goals : List Place
def Sheet.empty : Sheet := ⟨[], [], []⟩
def insOf (y : Say) : Ins := ⟨y.op, y.f.getD 0 0, y.f.getD 1 0, y.f.getD 2 0⟩
def hasMark (ms : List Place) (n : List UInt8) : Bool := ms.any fun p => p.name == n
def atMark (ms : List Place) (n : List UInt8) : Int := match ms.find? fun p => p.name == n with | some p => p.pos | none => 0
def takeMark (s : Sheet) (n : Int) (m : List UInt8) : Option Sheet :=
  if hasMark s.marks m = true then none else some { s with marks := s.marks ++ [⟨m, n, s.prog.length⟩] }
def takeIns (s : Sheet) (n : Int) (y : Say) : Option Sheet :=
  if 48 ≤ s.prog.length then none
  else some { s with prog := s.prog ++ [insOf y], goals := if y.goal = [] then s.goals else s.goals ++ [⟨y.goal, n, s.prog.length⟩] }
def takeS (s : Sheet) (n : Int) (l : List UInt8) : Option Sheet :=
  match parseOf l with
  | none => none
  | some y => if y.mark = [] then takeIns s n y else takeMark s n y.mark

/-- The names' map. -/
def namesD (ms : List Place) : DataW Unit := ms.foldl (fun D p => D.put (.string p.name) (.lit (.int .i64 p.pos))) (.map [])
theorem namesD_snoc (ms : List Place) (p : Place) : namesD (ms ++ [p]) = (namesD ms).put (.string p.name) (.lit (.int .i64 p.pos)) := by simp [namesD]
theorem namesD_isMap (ms : List Place) : Maps.IsMap (namesD ms) := by
  unfold namesD
  generalize h : (DataW.map [] : DataW Unit) = D
  have hD : Maps.IsMap D := h ▸ Maps.isMap_empty
  clear h
  induction ms generalizing D with
  | nil => exact hD
  | cons p ms ih => exact ih _ (hD.put _ _)
/-- No name is a mark's twice. -/
def Apart (ms : List Place) : Prop := ms.Pairwise fun p q => p.name ≠ q.name
theorem keyLit_string (s : List UInt8) : WideAt.IsKeyLit (.string s) := trivial
theorem snoc_ind {α : Type} {P : List α → Prop} (h0 : P []) (hs : ∀ l a, P l → P (l ++ [a])) : ∀ l, P l := fun l => by
  have : ∀ m : List α, P m.reverse := by
    intro m
    induction m with
    | nil => exact h0
    | cons a m ih => rw [List.reverse_cons]; exact hs _ _ ih
  have h := this l.reverse
  rwa [List.reverse_reverse] at h
theorem hasMark_snoc (ms : List Place) (p : Place) (n : List UInt8) : hasMark (ms ++ [p]) n = (hasMark ms n || p.name == n) := by simp [hasMark]
theorem apart_snoc {ms : List Place} {p : Place} (h : Apart ms) (hn : hasMark ms p.name = false) : Apart (ms ++ [p]) := by
  unfold Apart
  rw [List.pairwise_append]
  refine ⟨h, by simp, fun q hq r hr => ?_⟩
  rw [List.mem_singleton] at hr
  subst hr
  intro e
  have : hasMark ms r.name = true := by
    unfold hasMark
    rw [List.any_eq_true]
    exact ⟨q, hq, by simp [e]⟩
  rw [this] at hn; cases hn
theorem has_namesD (n : List UInt8) : ∀ ms : List Place, Maps.has (namesD ms) (.string n) = hasMark ms n := snoc_ind (by rfl) fun ms p ih => by
  rw [namesD_snoc, hasMark_snoc]
  by_cases h : p.name = n
  · subst h
    rw [Maps.has_put_same (namesD_isMap ms) (keyLit_string _)]; simp
  · rw [Maps.has_put_other (by intro e; injection e with e; exact h e.symm), ih]
    simp [h]
theorem atMark_snoc (ms : List Place) (p : Place) (n : List UInt8) : atMark (ms ++ [p]) n = if hasMark ms n = true then atMark ms n else if p.name = n then p.pos else 0 := by
  unfold atMark hasMark
  rw [List.find?_append]
  cases h : ms.find? fun p => p.name == n with
  | none =>
    have : ms.any (fun p => p.name == n) = false := by
      rw [List.any_eq_false]
      intro x hx
      exact List.find?_eq_none.1 h x hx
    rw [this]
    by_cases hp : p.name = n <;> simp [hp, List.find?_cons]
  | some q =>
    have : ms.any (fun p => p.name == n) = true := by
      rw [List.any_eq_true]
      exact ⟨q, List.mem_of_find?_eq_some h, (List.find?_eq_some_iff_append.1 h).1⟩
    rw [this]
    simp
theorem at_namesD (n : List UInt8) : ∀ ms : List Place, Apart ms → (namesD ms).atKey (.string n) (.lit (.int .i64 0)) = .lit (.int .i64 (atMark ms n)) := snoc_ind (fun _ => by rfl) fun ms p ih hA => by
  have hA1 : Apart ms := (List.pairwise_append.1 hA).1
  have hA2 : hasMark ms p.name = false := by
    unfold hasMark
    rw [List.any_eq_false]
    intro q hq
    have := (List.pairwise_append.1 hA).2.2 q hq p (by simp)
    simpa using this
  rw [namesD_snoc, atMark_snoc]
  by_cases h : p.name = n
  · subst h
    rw [Maps.atKey_put_same (namesD_isMap ms) (keyLit_string _), hA2]; simp
  · rw [Maps.atKey_put_other (by intro e; injection e with e; exact h e.symm), ih hA1, if_neg h]
    by_cases hm : hasMark ms n = true
    · rw [if_pos hm]
    · rw [if_neg hm]
      have : atMark ms n = 0 := by
        unfold atMark
        have : ms.find? (fun p => p.name == n) = none := by
          rw [List.find?_eq_none]
          intro x hx hh
          exact hm (List.any_eq_true.2 ⟨x, hx, hh⟩)
        rw [this]
      rw [this]
end Go.Proofs.YtiegkhoidabkhaaDoor
