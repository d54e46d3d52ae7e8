/- Plain words: the whole reading. -/
import Derived.Test.YtiegkhoidabkhaaDoorB7
namespace Go.Proofs.YtiegkhoidabkhaaDoor

def walkS (s : Sheet) : List (Nat × List UInt8) → Int ⊕ Sheet
  | [] => .inr s
  | x :: r => match takeS s x.1 (x.2.take 4096) with | none => .inl x.1 | some s' => walkS s' r
def fixI (x : Ins) (a : Int) : Ins := ⟨x.op, a, x.b, x.c⟩
def goalsS (ms : List Place) (p : List Ins) : List Place → Int ⊕ List Ins
  | [] => .inr p
  | g :: r => if hasMark ms g.name = true then goalsS ms (p.modify g.pos.toNat fun x => fixI x (atMark ms g.name)) r else .inl g.line
def endS (s : Sheet) : (Int × Int) ⊕ Sheet := match goalsS s.marks s.prog s.goals with | .inl n => .inl (n, 5) | .inr p => .inr { s with prog := p }
def readS (text : List UInt8) : (Int × Int) ⊕ Sheet :=
  if 4096 < text.length then .inl (0, 3) else match walkS Sheet.empty (linesOf text) with | .inl n => .inl (n, 60) | .inr s => endS s

theorem walkS_append : ∀ (a b : List (Nat × List UInt8)) (s : Sheet), walkS s (a ++ b) = match walkS s a with | .inl n => .inl n | .inr s' => walkS s' b
  | [], _, _ => rfl
  | x :: a, b, s => by
    rw [List.cons_append, walkS, walkS]
    cases takeS s x.1 (x.2.take 4096) with
    | none => rfl
    | some s' => exact walkS_append a b s'
theorem runS_walk : ∀ (xs : List (Nat × List UInt8)) (s : Sheet), runS xs = some s → walkS Sheet.empty xs = .inr s := snoc_ind (fun s h => by rw [show runS [] = some Sheet.empty from rfl] at h; rw [← Option.some.inj h]; rfl) fun l a ih s h => by
  rw [runS_snoc] at h
  cases h1 : runS l with
  | none => rw [h1] at h; cases h
  | some s1 =>
    rw [h1] at h
    have h2 : takeS s1 a.1 (a.2.take 4096) = some s := h
    rw [walkS_append, ih s1 h1]
    show walkS s1 [a] = _
    rw [walkS, h2]; rfl
/-- Where a line is not taken the reading ends. -/
theorem walk_stop {L pre : List (Nat × List UInt8)} {x : Nat × List UInt8} {s : Sheet} (hs : runS pre = some s) (hx : takeS s x.1 (x.2.take 4096) = none) (hp : pre ++ [x] <+: L) : walkS Sheet.empty L = .inl x.1 := by
  obtain ⟨r, rfl⟩ := hp
  rw [walkS_append, walkS_append, runS_walk pre s hs]
  show (match walkS s [x] with | .inl n => _ | .inr s' => _) = _
  rw [walkS, hx]

theorem fldRun_goal : ∀ (l : List (UInt8 × List UInt8)) (i : Nat) (g : List UInt8) (f : List Int) (g' : List UInt8) (f' : List Int), fldRun l i g f = some (g', f') → (g = [] ∨ nameB g = true) → g' = [] ∨ nameB g' = true
  | [], i, g, f, g', f', h, hg => by
    have h := Option.some.inj h
    injection h with h1 _
    rw [← h1]; exact hg
  | (c, s) :: l, i, g, f, g', f', h, hg => by
    rw [fldRun] at h
    unfold fldStep at h
    split at h
    · rename_i g2 f2 he
      refine fldRun_goal l (i + 1) g2 f2 g' f' h ?_
      split at he
      · split at he
        · rename_i hn
          have he := Option.some.inj he
          injection he with h1 _
          rw [← h1]; exact .inr hn
        · cases he
      · split at he
        · have he := Option.some.inj he
          injection he with h1 _
          rw [← h1]; exact hg
        · cases he
    · cases h
theorem parse_goal {l : List UInt8} {y : Say} (hp : parseOf l = some y) : y.goal = [] ∨ nameB y.goal = true := by
  unfold parseOf at hp
  split at hp
  · unfold markOf at hp
    split at hp
    · rw [← Option.some.inj hp]; exact .inl rfl
    · cases hp
  · unfold instrOf at hp
    split at hp
    · cases hp
    · split at hp
      · cases hp
      · split at hp
        · rename_i he
          unfold fieldsOf at he
          split at he
          · rw [← Option.some.inj hp]
            exact fldRun_goal _ _ _ _ _ _ he (.inl rfl)
          · cases he
        · cases hp

structure SheetOk (s : Sheet) (n : Nat) : Prop where
  few : s.marks.length + s.goals.length ≤ n
  inside : ∀ g ∈ s.goals, 0 ≤ g.pos ∧ g.pos < (s.prog.length : Int)
  named : ∀ g ∈ s.goals, nameB g.name = true
theorem takeS_ok {s s' : Sheet} {n : Nat} {i : Int} {l : List UInt8} (h : SheetOk s n) (ht : takeS s i l = some s') : SheetOk s' (n + 1) := by
  unfold takeS at ht
  split at ht
  · cases ht
  · rename_i y hpy
    split at ht
    · unfold takeIns at ht
      split at ht
      · cases ht
      · obtain rfl := Option.some.inj ht
        refine ⟨?_, ?_, ?_⟩
        · have := h.few
          show s.marks.length + (if y.goal = [] then s.goals else s.goals ++ [_]).length ≤ n + 1
          split
          · omega
          · simp; omega
        · intro g hg
          have hg' : g ∈ (if y.goal = [] then s.goals else s.goals ++ [⟨y.goal, i, s.prog.length⟩]) := hg
          have hln : ((s.prog ++ [insOf y]).length : Int) = s.prog.length + 1 := by simp
          show 0 ≤ g.pos ∧ g.pos < ((s.prog ++ [insOf y]).length : Int)
          rw [hln]
          split at hg'
          · have := h.inside g hg'; omega
          · rcases List.mem_append.1 hg' with hg' | hg'
            · have := h.inside g hg'; omega
            · rw [List.mem_singleton] at hg'
              subst hg'
              exact ⟨by simp, by show (s.prog.length : Int) < _; omega⟩
        · intro g hg
          have hg' : g ∈ (if y.goal = [] then s.goals else s.goals ++ [⟨y.goal, i, s.prog.length⟩]) := hg
          split at hg'
          · exact h.named g hg'
          · rename_i hne
            rcases List.mem_append.1 hg' with hg' | hg'
            · exact h.named g hg'
            · rw [List.mem_singleton] at hg'
              subst hg'
              exact (parse_goal hpy).resolve_left hne
    · unfold takeMark at ht
      split at ht
      · cases ht
      · obtain rfl := Option.some.inj ht
        exact ⟨by have := h.few; simp; omega, h.inside, h.named⟩
theorem runS_ok : ∀ (xs : List (Nat × List UInt8)) (s : Sheet), runS xs = some s → SheetOk s xs.length := snoc_ind (fun s h => by
    rw [show runS [] = some Sheet.empty from rfl] at h; rw [← Option.some.inj h]; exact ⟨by simp [Sheet.empty], by simp [Sheet.empty], by simp [Sheet.empty]⟩) fun l a ih s h => by
  rw [runS_snoc] at h
  cases h1 : runS l with
  | none => rw [h1] at h; cases h
  | some s1 =>
    rw [h1] at h
    have h2 : takeS s1 a.1 (a.2.take 4096) = some s := h
    rw [List.length_append]
    exact takeS_ok (ih s1 h1) h2
theorem goalsS_drop {ms gs : List Place} {p : List Ins} {k : Nat} {g : Place} (h : gs[k]? = some g) : goalsS ms p (gs.drop k) = if hasMark ms g.name = true then goalsS ms (p.modify g.pos.toNat fun x => fixI x (atMark ms g.name)) (gs.drop (k + 1)) else .inl g.line := by
  obtain ⟨hl, he⟩ := List.getElem?_eq_some_iff.1 h
  rw [List.drop_eq_getElem_cons hl, he, goalsS]
end Go.Proofs.YtiegkhoidabkhaaDoor
