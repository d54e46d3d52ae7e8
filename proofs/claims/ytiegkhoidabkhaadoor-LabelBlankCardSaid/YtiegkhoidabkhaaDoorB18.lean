/- Plain words: an empty line and a mark that nobody names, put into a text. -/
import Derived.Test.YtiegkhoidabkhaaDoorB17
namespace Go.Proofs.YtiegkhoidabkhaaDoor

def zz : List UInt8 := [122, 122, 122, 122, 122, 122, 122, 122]
theorem zz_name : nameB zz = true := by decide
theorem piecesFrom_infix (c : UInt8) : ∀ (l cur : List UInt8), ∀ x ∈ piecesFrom c cur l, x <:+: cur ++ l
  | [], cur => by intro x hx; simp [piecesFrom] at hx; subst hx; simp
  | b :: l, cur => by
    unfold piecesFrom
    split
    · intro x hx
      rcases List.mem_cons.1 hx with rfl | h
      · exact ⟨[], b :: l, by simp⟩
      · obtain ⟨u, v, e⟩ := piecesFrom_infix c l [] x h
        exact ⟨cur ++ b :: u, v, by simp at e ⊢; exact e⟩
    · intro x hx
      obtain ⟨u, v, e⟩ := piecesFrom_infix c l (cur ++ [b]) x hx
      exact ⟨u, v, by simp at e ⊢; exact e⟩
theorem pieces_infix (c : UInt8) (s : List UInt8) : ∀ x ∈ pieces c s, x <:+: s := fun x hx => by simpa using piecesFrom_infix c s [] x hx
theorem fldRun_goal_in : ∀ (l : List (UInt8 × List UInt8)) (i : Nat) (g : List UInt8) (f : List Int) (g' : List UInt8) (f' : List Int), fldRun l i g f = some (g', f') → g' = g ∨ g' ∈ l.map Prod.snd
  | [], i, g, f, g', f', h => by
    have h := Option.some.inj h
    injection h with h1 _
    exact .inl h1.symm
  | (c, s) :: l, i, g, f, g', f', h => by
    rw [fldRun] at h
    unfold fldStep at h
    split at h
    · rename_i g2 f2 he
      have h3 := fldRun_goal_in l (i + 1) g2 f2 g' f' h
      have h4 : g2 = g ∨ g2 = s := by
        split at he
        · split at he
          · have he := Option.some.inj he
            injection he with h1 _
            exact .inr h1.symm
          · cases he
        · split at he
          · have he := Option.some.inj he
            injection he with h1 _
            exact .inl h1.symm
          · cases he
      rcases h3 with rfl | h3
      · rcases h4 with rfl | rfl
        · exact .inl rfl
        · exact .inr (by simp)
      · exact .inr (by simp at h3 ⊢; exact .inr h3)
    · cases h
theorem parse_names {l : List UInt8} {y : Say} (h : parseOf l = some y) : (y.mark = [] ∨ y.mark <:+: l) ∧ (y.goal = [] ∨ y.goal <:+: l) := by
  by_cases hh : l.head? = some 58
  · obtain ⟨_, h2, h3⟩ := parse_mark_head h hh
    refine ⟨.inr ?_, .inl h2⟩
    rw [h3]; exact (List.tail_suffix l).isInfix
  · obtain ⟨h1, h2⟩ := parse_instr_head h hh
    refine ⟨.inl h1, ?_⟩
    unfold instrOf at h2
    split at h2
    · cases h2
    · rename_i w rest hp
      split at h2
      · cases h2
      · split at h2
        · rename_i g f hf
          rw [← Option.some.inj h2]
          show g = [] ∨ g <:+: l
          unfold fieldsOf at hf
          split at hf
          · rcases fldRun_goal_in _ _ _ _ _ _ hf with h | h
            · exact .inl h
            · right
              refine pieces_infix 32 l g ?_
              rw [hp]
              refine List.mem_cons_of_mem _ ?_
              obtain ⟨p, hp', rfl⟩ := List.mem_map.1 h
              exact (List.of_mem_zip hp').2
          · cases hf
        · cases h2

/-- A line's number behind the two lines that were put in behind the first k. -/
def sh (k : Nat) (n : Int) : Int := if (k : Int) < n then n + 2 else n
def Place.shift (k : Nat) (p : Place) : Place := ⟨p.name, sh k p.line, p.pos⟩
structure Beside (k : Nat) (s s' : Sheet) : Prop where
  prog : s'.prog = s.prog
  goals : s'.goals = s.goals.map (Place.shift k)
  has : ∀ n, n ≠ zz → hasMark s'.marks n = hasMark s.marks n
  pos : ∀ n, n ≠ zz → atMark s'.marks n = atMark s.marks n
  free : ∀ g ∈ s.goals, g.name ≠ zz
theorem not_in {l : List UInt8} (hl : ¬ zz <:+: l) {y : Say} (h : parseOf l = some y) : y.mark ≠ zz ∧ y.goal ≠ zz := by
  obtain ⟨h1, h2⟩ := parse_names h
  constructor
  · rintro e
    rw [e] at h1
    rcases h1 with h1 | h1
    · cases h1
    · exact hl h1
  · rintro e
    rw [e] at h2
    rcases h2 with h2 | h2
    · cases h2
    · exact hl h2
theorem take_beside {k n : Nat} {s s' : Sheet} {l : List UInt8} (h : Beside k s s') (hn : k < n) (hl : ¬ zz <:+: l) :
    (takeS s n l = none ∧ takeS s' ((n : Int) + 2) l = none) ∨ ∃ t t', takeS s n l = some t ∧ takeS s' ((n : Int) + 2) l = some t' ∧ Beside k t t' := by
  unfold takeS
  cases hp : parseOf l with
  | none => exact .inl ⟨rfl, rfl⟩
  | some y =>
    obtain ⟨hm, hgz⟩ := not_in hl hp
    simp only
    by_cases h0 : y.mark = []
    · simp only [if_pos h0]
      unfold takeIns
      rw [h.prog]
      by_cases h48 : 48 ≤ s.prog.length
      · simp only [if_pos h48]; exact .inl ⟨trivial, trivial⟩
      · simp only [if_neg h48]
        refine .inr ⟨_, _, rfl, rfl, ⟨rfl, ?_, h.has, h.pos, ?_⟩⟩
        · show (if y.goal = [] then s'.goals else _) = (if y.goal = [] then s.goals else _).map _
          by_cases hg : y.goal = []
          · simp only [if_pos hg]; exact h.goals
          · simp only [if_neg hg, h.goals, List.map_append]
            congr 1
            have : sh k (n : Int) = n + 2 := by unfold sh; rw [if_pos (by omega)]
            simp [Place.shift, this]
        · intro g hg
          have hg' : g ∈ (if y.goal = [] then s.goals else s.goals ++ [⟨y.goal, n, s.prog.length⟩]) := hg
          split at hg'
          · exact h.free g hg'
          · rcases List.mem_append.1 hg' with hg' | hg'
            · exact h.free g hg'
            · rw [List.mem_singleton] at hg'
              subst hg'; exact hgz
    · simp only [if_neg h0]
      unfold takeMark
      rw [h.has _ hm]
      by_cases hh : hasMark s.marks y.mark = true
      · simp only [if_pos hh]; exact .inl ⟨trivial, trivial⟩
      · simp only [if_neg hh]
        refine .inr ⟨_, _, rfl, rfl, ⟨h.prog, h.goals, ?_, ?_, h.free⟩⟩
        · intro m hmz
          show hasMark (s'.marks ++ _) m = hasMark (s.marks ++ _) m
          rw [hasMark_snoc, hasMark_snoc, h.has m hmz]
        · intro m hmz
          show atMark (s'.marks ++ _) m = atMark (s.marks ++ _) m
          rw [atMark_snoc, atMark_snoc, h.has m hmz, h.pos m hmz, h.prog]
/-- The lines behind. -/
theorem walk_beside {k : Nat} : ∀ (L : List (List UInt8)) (i : Nat) (s s' : Sheet), Beside k s s' → k < i → (∀ l ∈ L, ¬ zz <:+: l ∧ l.length ≤ 4096) →
    (∃ n : Nat, k < n ∧ walkS s (numL i L) = .inl n ∧ walkS s' (numL (i + 2) L) = .inl ((n : Int) + 2)) ∨ ∃ t t', walkS s (numL i L) = .inr t ∧ walkS s' (numL (i + 2) L) = .inr t' ∧ Beside k t t'
  | [], i, s, s', h, _, _ => .inr ⟨s, s', rfl, rfl, h⟩
  | l :: L, i, s, s', h, hi, hL => by
    have hL' : ∀ x ∈ L, ¬ zz <:+: x ∧ x.length ≤ 4096 := fun x hx => hL x (List.mem_cons_of_mem _ hx)
    obtain ⟨hz, hlen⟩ := hL l (List.mem_cons_self ..)
    rw [numL, numL]
    by_cases he : l = []
    · simp only [if_pos he]
      exact walk_beside L (i + 1) s s' h (by omega) hL'
    · simp only [if_neg he]
      rw [walkS, walkS]
      simp only [List.take_of_length_le hlen]
      have e : ((i + 2 : Nat) : Int) = (i : Int) + 2 := by omega
      rw [e]
      rcases take_beside h hi hz with ⟨h1, h2⟩ | ⟨t, t', h1, h2, h3⟩
      · rw [h1, h2]
        exact .inl ⟨i, hi, rfl, rfl⟩
      · rw [h1, h2]
        exact walk_beside L (i + 1) t t' h3 (by omega) hL'
theorem goals_beside {k : Nat} {ms ms' : List Place} (hh : ∀ n, n ≠ zz → hasMark ms' n = hasMark ms n) (hp : ∀ n, n ≠ zz → atMark ms' n = atMark ms n) : ∀ (gs : List Place) (p : List Ins), (∀ g ∈ gs, g.name ≠ zz) →
    goalsS ms' p (gs.map (Place.shift k)) = match goalsS ms p gs with | .inl n => .inl (sh k n) | .inr q => .inr q
  | [], p, _ => rfl
  | g :: gs, p, hf => by
    have hz := hf g (List.mem_cons_self ..)
    rw [List.map_cons, goalsS, goalsS]
    have e1 : (Place.shift k g).name = g.name := rfl
    have e2 : (Place.shift k g).pos = g.pos := rfl
    rw [e1, e2, hh _ hz, hp _ hz]
    by_cases h : hasMark ms g.name = true
    · simp only [if_pos h]
      exact goals_beside hh hp gs _ fun x hx => hf x (List.mem_cons_of_mem _ hx)
    · simp only [if_neg h]
      rfl
/-- What is known of a sheet that was read out of lines without that name. -/
structure Plain (k : Nat) (s : Sheet) : Prop where
  marks : ∀ m ∈ s.marks, m.name ≠ zz
  goals : ∀ g ∈ s.goals, g.name ≠ zz ∧ g.line ≤ k
theorem take_plain_is {k n : Nat} {s t : Sheet} {l : List UInt8} (h : Plain k s) (hn : n ≤ k) (hl : ¬ zz <:+: l) (ht : takeS s n l = some t) : Plain k t := by
  unfold takeS at ht
  cases hp : parseOf l with
  | none => rw [hp] at ht; cases ht
  | some y =>
    rw [hp] at ht
    obtain ⟨hm, hgz⟩ := not_in hl hp
    simp only at ht
    split at ht
    · unfold takeIns at ht
      split at ht
      · cases ht
      · obtain rfl := Option.some.inj ht
        refine ⟨h.marks, fun g hg => ?_⟩
        have hg' : g ∈ (if y.goal = [] then s.goals else s.goals ++ [⟨y.goal, n, s.prog.length⟩]) := hg
        split at hg'
        · exact h.goals g hg'
        · rcases List.mem_append.1 hg' with hg' | hg'
          · exact h.goals g hg'
          · rw [List.mem_singleton] at hg'
            subst hg'; exact ⟨hgz, by show (n : Int) ≤ k; omega⟩
    · unfold takeMark at ht
      split at ht
      · cases ht
      · obtain rfl := Option.some.inj ht
        refine ⟨fun m hm' => ?_, h.goals⟩
        rcases List.mem_append.1 hm' with hm' | hm'
        · exact h.marks m hm'
        · rw [List.mem_singleton] at hm'
          subst hm'; exact hm
theorem walk_plain {k : Nat} : ∀ (L : List (List UInt8)) (i : Nat) (s : Sheet), Plain k s → i + L.length ≤ k + 1 → (∀ l ∈ L, ¬ zz <:+: l ∧ l.length ≤ 4096) →
    (∃ n : Nat, n ≤ k ∧ walkS s (numL i L) = .inl n) ∨ ∃ t, walkS s (numL i L) = .inr t ∧ Plain k t
  | [], i, s, h, _, _ => .inr ⟨s, rfl, h⟩
  | l :: L, i, s, h, hi, hL => by
    have hL' : ∀ x ∈ L, ¬ zz <:+: x ∧ x.length ≤ 4096 := fun x hx => hL x (List.mem_cons_of_mem _ hx)
    obtain ⟨hz, hlen⟩ := hL l (List.mem_cons_self ..)
    simp only [List.length_cons] at hi
    rw [numL]
    by_cases he : l = []
    · simp only [if_pos he]
      exact walk_plain L (i + 1) s h (by omega) hL'
    · simp only [if_neg he]
      rw [walkS]
      simp only [List.take_of_length_le hlen]
      cases ht : takeS s i l with
      | none => exact .inl ⟨i, by omega, rfl⟩
      | some t => exact walk_plain L (i + 1) t (take_plain_is h (by omega) hz ht) (by omega) hL'
theorem hasMark_free {ms : List Place} (h : ∀ m ∈ ms, m.name ≠ zz) : hasMark ms zz = false := by
  unfold hasMark
  rw [List.any_eq_false]
  intro x hx
  simpa using h x hx
theorem beside_first {k : Nat} {s : Sheet} (h : Plain k s) : ∃ t, takeS s (k + 2 : Nat) (58 :: zz) = some t ∧ Beside k s t := by
  have hp : parseOf (58 :: zz) = some ⟨zz, [], 0, [0, 0, 0]⟩ := by kernel_rfl
  unfold takeS
  rw [hp]
  have h0 : ¬ zz = [] := by decide
  simp only [if_neg h0]
  unfold takeMark
  rw [hasMark_free h.marks]
  refine ⟨_, rfl, ⟨rfl, ?_, ?_, ?_, fun g hg => (h.goals g hg).1⟩⟩
  · have : s.goals.map (Place.shift k) = s.goals := by
      have : ∀ g ∈ s.goals, Place.shift k g = g := fun g hg => by
        have := (h.goals g hg).2
        unfold Place.shift sh
        rw [if_neg (by omega)]
      rw [List.map_congr_left this]; simp
    rw [this]
  · intro n hn
    show hasMark (s.marks ++ _) n = _
    rw [hasMark_snoc]
    have : (zz == n) = false := by rw [beq_eq_false_iff_ne]; exact fun e => hn e.symm
    rw [this]; simp
  · intro n hn
    show atMark (s.marks ++ _) n = _
    rw [atMark_snoc]
    have : ¬ zz = n := fun e => hn e.symm
    simp only [if_neg this]
    split
    · rfl
    · rename_i hf
      unfold atMark
      have : s.marks.find? (fun p => p.name == n) = none := by
        rw [List.find?_eq_none]
        intro x hx hxx
        exact hf (List.any_eq_true.2 ⟨x, hx, hxx⟩)
      rw [this]
/-- What a reading tells, the line's number moved. -/
def shR (k : Nat) (r : (Int × Int) ⊕ Sheet) : (Int × Int) ⊕ List Ins := match r with | .inl (n, e) => .inl (sh k n, e) | .inr s => .inr s.prog
def outR (r : (Int × Int) ⊕ Sheet) : (Int × Int) ⊕ List Ins := match r with | .inl (n, e) => .inl (n, e) | .inr s => .inr s.prog
def putIn (ls : List (List UInt8)) (k : Nat) : List (List UInt8) := ls.take k ++ [] :: (58 :: zz) :: ls.drop k
theorem walk_put {ls : List (List UInt8)} {k : Nat} (hk : k ≤ ls.length) (hL : ∀ l ∈ ls, ¬ zz <:+: l ∧ l.length ≤ 4096) :
    (∃ n : Int, walkS Sheet.empty (numL 1 ls) = .inl n ∧ walkS Sheet.empty (numL 1 (putIn ls k)) = .inl (sh k n)) ∨ ∃ t t', walkS Sheet.empty (numL 1 ls) = .inr t ∧ walkS Sheet.empty (numL 1 (putIn ls k)) = .inr t' ∧ Beside k t t' := by
  have hkl : (ls.take k).length = k := by rw [List.length_take]; omega
  have e1 : numL 1 ls = numL 1 (ls.take k) ++ numL (k + 1) (ls.drop k) := by
    have := numL_append (ls.take k) (ls.drop k) 1
    rw [List.take_append_drop, hkl, Nat.add_comm 1 k] at this
    exact this
  have e2 : numL 1 (putIn ls k) = numL 1 (ls.take k) ++ ((k + 2, 58 :: zz) :: numL (k + 1 + 2) (ls.drop k)) := by
    unfold putIn
    rw [numL_append, hkl, numL, if_pos rfl, numL, if_neg (by decide)]
    rw [show 1 + k + 1 = k + 2 by omega, show k + 2 + 1 = k + 1 + 2 by omega]
  rw [e1, e2, walkS_append, walkS_append]
  rcases walk_plain (k := k) (ls.take k) 1 Sheet.empty ⟨by simp [Sheet.empty], by simp [Sheet.empty]⟩ (by omega) (fun l hl => hL l (List.mem_of_mem_take hl)) with ⟨n, hn, h1⟩ | ⟨t, h1, h2⟩
  · rw [h1]
    exact .inl ⟨n, rfl, by unfold sh; rw [if_neg (by omega)]⟩
  · rw [h1]
    simp only
    obtain ⟨t', ht', hB⟩ := beside_first h2
    rw [walkS]
    simp only [show (58 :: zz).take 4096 = 58 :: zz from rfl]
    rw [ht']
    simp only
    rcases walk_beside (k := k) (ls.drop k) (k + 1) t t' hB (by omega) (fun l hl => hL l (List.mem_of_mem_drop hl)) with ⟨n, hn, h3, h4⟩ | ⟨u, u', h3, h4, h5⟩
    · exact .inl ⟨n, h3, by rw [h4]; unfold sh; rw [if_pos (by omega)]⟩
    · exact .inr ⟨u, u', h3, h4, h5⟩
theorem read_put {ls : List (List UInt8)} {k : Nat} (hk : k ≤ ls.length) (hL : ∀ l ∈ ls, ¬ zz <:+: l ∧ (10 : UInt8) ∉ l) (h1 : (joinT ls).length ≤ 4096) (h2 : (joinT (putIn ls k)).length ≤ 4096) :
    outR (readS (joinT (putIn ls k))) = shR k (readS (joinT ls)) := by
  have hno : ∀ l ∈ putIn ls k, (10 : UInt8) ∉ l := by
    intro l hl
    unfold putIn at hl
    rcases List.mem_append.1 hl with h | h
    · exact (hL l (List.mem_of_mem_take h)).2
    · rcases List.mem_cons.1 h with rfl | h
      · simp
      · rcases List.mem_cons.1 h with rfl | h
        · decide
        · exact (hL l (List.mem_of_mem_drop h)).2
  have hlen : ∀ l ∈ ls, l.length ≤ 4096 := fun l hl => by
    have h3 := line_le hl
    have h4 := sum_join ls
    obtain ⟨a, b, rfl⟩ := List.append_of_mem hl
    rcases a with _ | ⟨x, a⟩
    · simp [joinT] at h1; omega
    · simp [joinT] at h1; omega
  unfold readS
  rw [if_neg (by omega), if_neg (by omega), numL_join ls (fun l hl => (hL l hl).2), numL_join _ hno]
  rcases walk_put hk (fun l hl => ⟨(hL l hl).1, hlen l hl⟩) with ⟨n, h3, h4⟩ | ⟨t, t', h3, h4, h5⟩
  · rw [h3, h4]; rfl
  · rw [h3, h4]
    simp only
    unfold endS
    rw [h5.goals, h5.prog, goals_beside h5.has h5.pos t.goals t.prog h5.free]
    cases goalsS t.marks t.prog t.goals with
    | inl n => rfl
    | inr q => rfl
end Go.Proofs.YtiegkhoidabkhaaDoor
