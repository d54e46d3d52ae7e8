/- Plain words: what is read, line by line. Plain words: a text's lines, and all that is read. Plain words: the whole reading. -/
import Derived.Test.YtiegkhoidabkhaaDoorB4
import Derived.Maps.Views
namespace Go.Proofs.YtiegkhoidabkhaaDoor

structure Place where
  name : List UInt8
  line : Int
  pos : Int
structure Sheet where
  prog : List Ins
  marks : List Place
  goals : List Place
def Sheet.empty : Sheet := ⟨[], [], []⟩
def insOf (y : Say) : Ins := ⟨y.op, y.f.getD 0 0, y.f.getD 1 0, y.f.getD 2 0⟩
def hasMark (ms : List Place) (n : List UInt8) : Bool := ms.any fun p => p.name == n
def atMark (ms : List Place) (n : List UInt8) : Int := match ms.find? fun p => p.name == n with | some p => p.pos | none => 0
def takeMark (s : Sheet) (n : Int) (m : List UInt8) : Option Sheet :=
  if hasMark s.marks m = true then none else some { s with marks := s.marks ++ [⟨m, n, s.prog.length⟩] }
def takeIns (s : Sheet) (n : Int) (y : Say) : Option Sheet :=
  if 48 ≤ s.prog.length then none
  else some { s with prog := s.prog ++ [insOf y], goals := if y.goal = [] then s.goals else s.goals ++ [⟨y.goal, n, s.prog.length⟩] }
def takeS (s : Sheet) (n : Int) (l : List UInt8) : Option Sheet :=
  match parseOf l with
  | none => none
  | some y => if y.mark = [] then takeIns s n y else takeMark s n y.mark

/-- The names' map. -/
def namesD (ms : List Place) : DataW Unit := ms.foldl (fun D p => D.put (.string p.name) (.lit (.int .i64 p.pos))) (.map [])
theorem namesD_snoc (ms : List Place) (p : Place) : namesD (ms ++ [p]) = (namesD ms).put (.string p.name) (.lit (.int .i64 p.pos)) := by simp [namesD]
theorem namesD_isMap (ms : List Place) : Maps.IsMap (namesD ms) := by
  unfold namesD
  generalize h : (DataW.map [] : DataW Unit) = D
  have hD : Maps.IsMap D := h ▸ Maps.isMap_empty
  clear h
  induction ms generalizing D with
  | nil => exact hD
  | cons p ms ih => exact ih _ (hD.put _ _)
/-- No name is a mark's twice. -/
def Apart (ms : List Place) : Prop := ms.Pairwise fun p q => p.name ≠ q.name
theorem keyLit_string (s : List UInt8) : WideAt.IsKeyLit (.string s) := trivial
theorem snoc_ind {α : Type} {P : List α → Prop} (h0 : P []) (hs : ∀ l a, P l → P (l ++ [a])) : ∀ l, P l := fun l => by
  have : ∀ m : List α, P m.reverse := by
    intro m
    induction m with
    | nil => exact h0
    | cons a m ih => rw [List.reverse_cons]; exact hs _ _ ih
  have h := this l.reverse
  rwa [List.reverse_reverse] at h
theorem hasMark_snoc (ms : List Place) (p : Place) (n : List UInt8) : hasMark (ms ++ [p]) n = (hasMark ms n || p.name == n) := by simp [hasMark]
theorem apart_snoc {ms : List Place} {p : Place} (h : Apart ms) (hn : hasMark ms p.name = false) : Apart (ms ++ [p]) := by
  unfold Apart
  rw [List.pairwise_append]
  refine ⟨h, by simp, fun q hq r hr => ?_⟩
  rw [List.mem_singleton] at hr
  subst hr
  intro e
  have : hasMark ms r.name = true := by
    unfold hasMark
    rw [List.any_eq_true]
    exact ⟨q, hq, by simp [e]⟩
  rw [this] at hn; cases hn
theorem has_namesD (n : List UInt8) : ∀ ms : List Place, Maps.has (namesD ms) (.string n) = hasMark ms n := snoc_ind (by rfl) fun ms p ih => by
  rw [namesD_snoc, hasMark_snoc]
  by_cases h : p.name = n
  · subst h
    rw [Maps.has_put_same (namesD_isMap ms) (keyLit_string _)]; simp
  · rw [Maps.has_put_other (by intro e; injection e with e; exact h e.symm), ih]
    simp [h]
theorem atMark_snoc (ms : List Place) (p : Place) (n : List UInt8) : atMark (ms ++ [p]) n = if hasMark ms n = true then atMark ms n else if p.name = n then p.pos else 0 := by
  unfold atMark hasMark
  rw [List.find?_append]
  cases h : ms.find? fun p => p.name == n with
  | none =>
    have : ms.any (fun p => p.name == n) = false := by
      rw [List.any_eq_false]
      intro x hx
      exact List.find?_eq_none.1 h x hx
    rw [this]
    by_cases hp : p.name = n <;> simp [hp]
  | some q =>
    have : ms.any (fun p => p.name == n) = true := by
      rw [List.any_eq_true]
      exact ⟨q, List.mem_of_find?_eq_some h, (List.find?_eq_some_iff_append.1 h).1⟩
    rw [this]
    simp
theorem at_namesD (n : List UInt8) : ∀ ms : List Place, Apart ms → (namesD ms).atKey (.string n) (.lit (.int .i64 0)) = .lit (.int .i64 (atMark ms n)) := snoc_ind (fun _ => by rfl) fun ms p ih hA => by
  have hA1 : Apart ms := (List.pairwise_append.1 hA).1
  have hA2 : hasMark ms p.name = false := by
    unfold hasMark
    rw [List.any_eq_false]
    intro q hq
    have := (List.pairwise_append.1 hA).2.2 q hq p (by simp)
    simpa using this
  rw [namesD_snoc, atMark_snoc]
  by_cases h : p.name = n
  · subst h
    rw [Maps.atKey_put_same (namesD_isMap ms) (keyLit_string _), hA2]; simp
  · rw [Maps.atKey_put_other (by intro e; injection e with e; exact h e.symm), ih hA1, if_neg h]
    by_cases hm : hasMark ms n = true
    · rw [if_pos hm]
    · rw [if_neg hm]
      have : atMark ms n = 0 := by
        unfold atMark
        have : ms.find? (fun p => p.name == n) = none := by
          rw [List.find?_eq_none]
          intro x hx hh
          exact hm (List.any_eq_true.2 ⟨x, hx, hh⟩)
        rw [this]
      rw [this]
end Go.Proofs.YtiegkhoidabkhaaDoor
namespace Go.Proofs.YtiegkhoidabkhaaDoor

/-- The lines that aren't empty, with their numbers. -/
def numL : Nat → List (List UInt8) → List (Nat × List UInt8)
  | _, [] => []
  | i, s :: r => if s = [] then numL (i + 1) r else (i, s) :: numL (i + 1) r
def linesOf (text : List UInt8) : List (Nat × List UInt8) := numL 1 (pieces 10 text)
theorem numL_append : ∀ (a b : List (List UInt8)) (i : Nat), numL i (a ++ b) = numL i a ++ numL (i + a.length) b
  | [], b, i => by simp [numL]
  | s :: a, b, i => by
    rw [List.cons_append, numL, numL]
    have := numL_append a b (i + 1)
    rw [List.length_cons, this, show i + 1 + a.length = i + (a.length + 1) by omega]
    split <;> simp
theorem numL_len : ∀ (a : List (List UInt8)) (i : Nat), (numL i a).length ≤ a.length
  | [], i => by simp [numL]
  | s :: a, i => by
    rw [numL]
    have := numL_len a (i + 1)
    split <;> simp <;> omega
theorem numL_take (a : List (List UInt8)) (k i : Nat) : numL i (a.take k) <+: numL i a := by
  have h := numL_append (a.take k) (a.drop k) i
  rw [List.take_append_drop] at h
  exact ⟨_, h.symm⟩
theorem numL_snoc {a : List (List UInt8)} {k : Nat} {s : List UInt8} (h : a[k]? = some s) (i : Nat) : numL i (a.take (k + 1)) = numL i (a.take k) ++ (if s = [] then [] else [(i + k, s)]) := by
  have hk : k < a.length := (List.getElem?_eq_some_iff.1 h).1
  rw [List.take_add_one, h, show (some s).toList = [s] from rfl, numL_append, List.length_take, Nat.min_eq_left (by omega)]
  simp [numL]
theorem numL_le : ∀ (a : List (List UInt8)) (i m : Nat), (∀ s ∈ a, s.length ≤ m) → ∀ x ∈ numL i a, x.2.length ≤ m ∧ x.2 ≠ []
  | [], _, _, _, x, hx => by simp [numL] at hx
  | s :: a, i, m, h, x, hx => by
    rw [numL] at hx
    split at hx
    · exact numL_le a (i + 1) m (fun t ht => h t (List.mem_cons_of_mem _ ht)) x hx
    · rename_i hs
      rcases List.mem_cons.1 hx with rfl | hx
      · exact ⟨h s (List.mem_cons_self ..), hs⟩
      · exact numL_le a (i + 1) m (fun t ht => h t (List.mem_cons_of_mem _ ht)) x hx

/-- One line more; a line is at most 4096 bytes. -/
def stepS (s : Option Sheet) (x : Nat × List UInt8) : Option Sheet := s.bind fun s => takeS s x.1 (x.2.take 4096)
def runS (xs : List (Nat × List UInt8)) : Option Sheet := xs.foldl stepS (some Sheet.empty)
theorem runS_snoc (xs : List (Nat × List UInt8)) (x : Nat × List UInt8) : runS (xs ++ [x]) = stepS (runS xs) x := by simp [runS, List.foldl_append]
end Go.Proofs.YtiegkhoidabkhaaDoor
namespace Go.Proofs.YtiegkhoidabkhaaDoor

def walkS (s : Sheet) : List (Nat × List UInt8) → Int ⊕ Sheet
  | [] => .inr s
  | x :: r => match takeS s x.1 (x.2.take 4096) with | none => .inl x.1 | some s' => walkS s' r
def fixI (x : Ins) (a : Int) : Ins := ⟨x.op, a, x.b, x.c⟩
def goalsS (ms : List Place) (p : List Ins) : List Place → Int ⊕ List Ins
  | [] => .inr p
  | g :: r => if hasMark ms g.name = true then goalsS ms (p.modify g.pos.toNat fun x => fixI x (atMark ms g.name)) r else .inl g.line
def endS (s : Sheet) : (Int × Int) ⊕ Sheet := match goalsS s.marks s.prog s.goals with | .inl n => .inl (n, 5) | .inr p => .inr { s with prog := p }
def readS (text : List UInt8) : (Int × Int) ⊕ Sheet :=
  if 4096 < text.length then .inl (0, 3) else match walkS Sheet.empty (linesOf text) with | .inl n => .inl (n, 60) | .inr s => endS s

theorem walkS_append : ∀ (a b : List (Nat × List UInt8)) (s : Sheet), walkS s (a ++ b) = match walkS s a with | .inl n => .inl n | .inr s' => walkS s' b
  | [], _, _ => rfl
  | x :: a, b, s => by
    rw [List.cons_append, walkS, walkS]
    cases takeS s x.1 (x.2.take 4096) with
    | none => rfl
    | some s' => exact walkS_append a b s'
theorem runS_walk : ∀ (xs : List (Nat × List UInt8)) (s : Sheet), runS xs = some s → walkS Sheet.empty xs = .inr s := snoc_ind (fun s h => by rw [show runS [] = some Sheet.empty from rfl] at h; rw [← Option.some.inj h]; rfl) fun l a ih s h => by
  rw [runS_snoc] at h
  cases h1 : runS l with
  | none => rw [h1] at h; cases h
  | some s1 =>
    rw [h1] at h
    have h2 : takeS s1 a.1 (a.2.take 4096) = some s := h
    rw [walkS_append, ih s1 h1]
    show walkS s1 [a] = _
    rw [walkS, h2]; rfl
/-- Where a line is not taken the reading ends. -/
theorem walk_stop {L pre : List (Nat × List UInt8)} {x : Nat × List UInt8} {s : Sheet} (hs : runS pre = some s) (hx : takeS s x.1 (x.2.take 4096) = none) (hp : pre ++ [x] <+: L) : walkS Sheet.empty L = .inl x.1 := by
  obtain ⟨r, rfl⟩ := hp
  rw [walkS_append, walkS_append, runS_walk pre s hs]
  show (match walkS s [x] with | .inl n => _ | .inr s' => _) = _
  rw [walkS, hx]

theorem fldRun_goal : ∀ (l : List (UInt8 × List UInt8)) (i : Nat) (g : List UInt8) (f : List Int) (g' : List UInt8) (f' : List Int), fldRun l i g f = some (g', f') → (g = [] ∨ nameB g = true) → g' = [] ∨ nameB g' = true
  | [], i, g, f, g', f', h, hg => by
    have h := Option.some.inj h
    injection h with h1 _
    rw [← h1]; exact hg
  | (c, s) :: l, i, g, f, g', f', h, hg => by
    rw [fldRun] at h
    unfold fldStep at h
    split at h
    · rename_i g2 f2 he
      refine fldRun_goal l (i + 1) g2 f2 g' f' h ?_
      split at he
      · split at he
        · rename_i hn
          have he := Option.some.inj he
          injection he with h1 _
          rw [← h1]; exact .inr hn
        · cases he
      · split at he
        · have he := Option.some.inj he
          injection he with h1 _
          rw [← h1]; exact hg
        · cases he
    · cases h
theorem parse_goal {l : List UInt8} {y : Say} (hp : parseOf l = some y) : y.goal = [] ∨ nameB y.goal = true := by
  unfold parseOf at hp
  split at hp
  · unfold markOf at hp
    split at hp
    · rw [← Option.some.inj hp]; exact .inl rfl
    · cases hp
  · unfold instrOf at hp
    split at hp
    · cases hp
    · split at hp
      · cases hp
      · split at hp
        · rename_i he
          unfold fieldsOf at he
          split at he
          · rw [← Option.some.inj hp]
            exact fldRun_goal _ _ _ _ _ _ he (.inl rfl)
          · cases he
        · cases hp

structure SheetOk (s : Sheet) (n : Nat) : Prop where
  few : s.marks.length + s.goals.length ≤ n
  inside : ∀ g ∈ s.goals, 0 ≤ g.pos ∧ g.pos < (s.prog.length : Int)
  named : ∀ g ∈ s.goals, nameB g.name = true
theorem takeS_ok {s s' : Sheet} {n : Nat} {i : Int} {l : List UInt8} (h : SheetOk s n) (ht : takeS s i l = some s') : SheetOk s' (n + 1) := by
  unfold takeS at ht
  split at ht
  · cases ht
  · rename_i y hpy
    split at ht
    · unfold takeIns at ht
      split at ht
      · cases ht
      · obtain rfl := Option.some.inj ht
        refine ⟨?_, ?_, ?_⟩
        · have := h.few
          show s.marks.length + (if y.goal = [] then s.goals else s.goals ++ [_]).length ≤ n + 1
          split
          · omega
          · simp; omega
        · intro g hg
          have hg' : g ∈ (if y.goal = [] then s.goals else s.goals ++ [⟨y.goal, i, s.prog.length⟩]) := hg
          have hln : ((s.prog ++ [insOf y]).length : Int) = s.prog.length + 1 := by simp
          show 0 ≤ g.pos ∧ g.pos < ((s.prog ++ [insOf y]).length : Int)
          rw [hln]
          split at hg'
          · have := h.inside g hg'; omega
          · rcases List.mem_append.1 hg' with hg' | hg'
            · have := h.inside g hg'; omega
            · rw [List.mem_singleton] at hg'
              subst hg'
              exact ⟨by simp, by show (s.prog.length : Int) < _; omega⟩
        · intro g hg
          have hg' : g ∈ (if y.goal = [] then s.goals else s.goals ++ [⟨y.goal, i, s.prog.length⟩]) := hg
          split at hg'
          · exact h.named g hg'
          · rename_i hne
            rcases List.mem_append.1 hg' with hg' | hg'
            · exact h.named g hg'
            · rw [List.mem_singleton] at hg'
              subst hg'
              exact (parse_goal hpy).resolve_left hne
    · unfold takeMark at ht
      split at ht
      · cases ht
      · obtain rfl := Option.some.inj ht
        exact ⟨by have := h.few; simp; omega, h.inside, h.named⟩
theorem runS_ok : ∀ (xs : List (Nat × List UInt8)) (s : Sheet), runS xs = some s → SheetOk s xs.length := snoc_ind (fun s h => by
    rw [show runS [] = some Sheet.empty from rfl] at h; rw [← Option.some.inj h]; exact ⟨by simp [Sheet.empty], by simp [Sheet.empty], by simp [Sheet.empty]⟩) fun l a ih s h => by
  rw [runS_snoc] at h
  cases h1 : runS l with
  | none => rw [h1] at h; cases h
  | some s1 =>
    rw [h1] at h
    have h2 : takeS s1 a.1 (a.2.take 4096) = some s := h
    rw [List.length_append]
    exact takeS_ok (ih s1 h1) h2
theorem goalsS_drop {ms gs : List Place} {p : List Ins} {k : Nat} {g : Place} (h : gs[k]? = some g) : goalsS ms p (gs.drop k) = if hasMark ms g.name = true then goalsS ms (p.modify g.pos.toNat fun x => fixI x (atMark ms g.name)) (gs.drop (k + 1)) else .inl g.line := by
  obtain ⟨hl, he⟩ := List.getElem?_eq_some_iff.1 h
  rw [List.drop_eq_getElem_cons hl, he, goalsS]
end Go.Proofs.YtiegkhoidabkhaaDoor
