/- Plain words: a program's text is read as that program. -/
import Derived.Test.YtiegkhoidabkhaaDoorB10
namespace Go.Proofs.YtiegkhoidabkhaaDoor

def Place.key (p : Place) : List UInt8 × Int := (p.name, p.pos)
def hasK (l : List (List UInt8 × Int)) (n : List UInt8) : Bool := l.any fun p => p.1 == n
def atK (l : List (List UInt8 × Int)) (n : List UInt8) : Int := match l.find? fun p => p.1 == n with | some p => p.2 | none => 0
theorem hasMark_key (ms : List Place) (n : List UInt8) : hasMark ms n = hasK (ms.map Place.key) n := by
  unfold hasMark hasK
  rw [List.any_map]
  rfl
theorem atMark_key (ms : List Place) (n : List UInt8) : atMark ms n = atK (ms.map Place.key) n := by
  unfold atMark atK
  rw [List.find?_map]
  have e : ((fun p : List UInt8 × Int => p.1 == n) ∘ Place.key) = fun p : Place => p.name == n := rfl
  rw [e]
  cases ms.find? fun p => p.name == n <;> rfl
theorem hasK_append (a b : List (List UInt8 × Int)) (n : List UInt8) : hasK (a ++ b) n = (hasK a n || hasK b n) := by simp [hasK]
theorem atK_append (a b : List (List UInt8 × Int)) (n : List UInt8) : atK (a ++ b) n = if hasK a n = true then atK a n else atK b n := by
  unfold atK hasK
  rw [List.find?_append]
  cases h : a.find? fun p => p.1 == n with
  | none =>
    have : a.any (fun p => p.1 == n) = false := by
      rw [List.any_eq_false]
      exact fun x hx => List.find?_eq_none.1 h x hx
    rw [this]; rfl
  | some q =>
    have : a.any (fun p => p.1 == n) = true := by
      rw [List.any_eq_true]
      exact ⟨q, List.mem_of_find?_eq_some h, (List.find?_eq_some_iff_append.1 h).1⟩
    rw [this]; rfl

/-- The marks of a program's text. -/
def marksP (pre : List UInt8) (p : List Ins) (k : Nat) : List (List UInt8 × Int) := (List.range k).flatMap fun (i : Nat) => if namedB p i = true then [(goalT pre i, (i : Int))] else []
theorem marksP_succ (pre : List UInt8) (p : List Ins) (k : Nat) : marksP pre p (k + 1) = marksP pre p k ++ if namedB p k = true then [(goalT pre k, (k : Int))] else [] := by simp [marksP, List.range_succ]
theorem hasK_one {pre : List UInt8} {k : Nat} {a : Int} (hk : k ≤ 48) (h0 : 0 ≤ a) (h1 : a ≤ 48) (b : Bool) : hasK (if b = true then [(goalT pre k, (k : Int))] else []) (goalT pre a) = (b && decide (a = k)) := by
  by_cases he : a = k
  · subst he
    cases b <;> simp [hasK]
  · have : goalT pre k ≠ goalT pre a := fun h => he (goal_inj (by omega) (by omega) h0 h1 h).symm
    cases b <;> simp [hasK, this, he]
theorem hasK_marks {pre : List UInt8} {p : List Ins} {a : Int} (h0 : 0 ≤ a) (h1 : a ≤ 48) : ∀ k : Nat, k ≤ 49 → hasK (marksP pre p k) (goalT pre a) = (decide (a < k) && namedB p a)
  | 0, _ => by
    have : decide (a < ((0 : Nat) : Int)) = false := by rw [decide_eq_false_iff_not]; omega
    rw [this]
    rfl
  | k + 1, hk => by
    rw [marksP_succ, hasK_append, hasK_marks h0 h1 k (by omega), hasK_one (by omega) h0 h1]
    by_cases he : a = k
    · subst he
      have e : decide ((k : Int) < ((k + 1 : Nat) : Int)) = true := by rw [decide_eq_true_eq]; omega
      rw [e]; simp
    · have e : decide (a < ((k + 1 : Nat) : Int)) = decide (a < (k : Int)) := by
        rw [decide_eq_decide]; omega
      rw [e]; simp [he]
theorem atK_marks {pre : List UInt8} {p : List Ins} {a : Int} (h0 : 0 ≤ a) (h1 : a ≤ 48) (hn : namedB p a = true) : ∀ k : Nat, k ≤ 49 → a < k → atK (marksP pre p k) (goalT pre a) = a
  | 0, _, h => by omega
  | k + 1, hk, h => by
    rw [marksP_succ, atK_append, hasK_marks h0 h1 k (by omega), hn]
    by_cases he : a = k
    · have e2 : ¬ a < (k : Int) := by omega
      simp only [e2, decide_false, Bool.false_and, Bool.false_eq_true, if_false]
      subst he
      rw [if_pos hn]
      simp [atK]
    · have e2 : a < (k : Int) := by omega
      simp only [e2, decide_true, Bool.true_and, if_true]
      exact atK_marks h0 h1 hn k (by omega) e2

/-- The goals of a program's text. -/
def goalsI (pre : List UInt8) : Nat → List Ins → List (List UInt8 × Int)
  | _, [] => []
  | i, x :: r => (if goes x = true then [(goalT pre x.a, (i : Int))] else []) ++ goalsI pre (i + 1) r
theorem goalsI_snoc (pre : List UInt8) : ∀ (l : List Ins) (i : Nat) (x : Ins), goalsI pre i (l ++ [x]) = goalsI pre i l ++ if goes x = true then [(goalT pre x.a, ((i + l.length : Nat) : Int))] else []
  | [], i, x => by simp [goalsI]
  | y :: l, i, x => by
    rw [List.cons_append, goalsI, goalsI, goalsI_snoc pre l (i + 1) x, List.append_assoc, List.length_cons, show i + 1 + l.length = i + (l.length + 1) by omega]
theorem fix_bare (x : Ins) (h : goes x = true) : fixI (bareI x) x.a = x := by
  unfold bareI
  rw [if_pos h]; rfl
theorem modify_at {α : Type} (f : α → α) : ∀ (done : List α) (x : α) (r : List α), (done ++ x :: r).modify done.length f = done ++ f x :: r
  | [], x, r => by simp
  | y :: done, x, r => by
    rw [List.cons_append, List.length_cons, List.modify_succ_cons, modify_at f done x r]; rfl
theorem goals_fixed {pre : List UInt8} {ms : List Place} : ∀ (r done : List Ins) (gs : List Place), gs.map Place.key = goalsI pre done.length r →
    (∀ x ∈ r, goes x = true → hasMark ms (goalT pre x.a) = true ∧ atMark ms (goalT pre x.a) = x.a) → goalsS ms (done ++ r.map bareI) gs = .inr (done ++ r)
  | [], done, gs, hg, _ => by
    have : gs = [] := by simpa [goalsI] using hg
    subst this
    simp [goalsS]
  | x :: r, done, gs, hg, hm => by
    have ih := goals_fixed (pre := pre) (ms := ms) r (done ++ [x])
    have hm' : ∀ y ∈ r, goes y = true → hasMark ms (goalT pre y.a) = true ∧ atMark ms (goalT pre y.a) = y.a := fun y hy => hm y (List.mem_cons_of_mem _ hy)
    rw [goalsI] at hg
    by_cases hx : goes x = true
    · obtain ⟨h1, h2⟩ := hm x (List.mem_cons_self ..) hx
      rw [if_pos hx] at hg
      cases gs with
      | nil => simp at hg
      | cons g gs =>
        rw [List.map_cons, List.singleton_append] at hg
        injection hg with hk hg
        have hk1 : g.name = goalT pre x.a := congrArg Prod.fst hk
        have hk2 : g.pos = done.length := congrArg Prod.snd hk
        have := ih gs (by rw [hg, List.length_append]; rfl) hm'
        rw [goalsS, hk1, if_pos h1, h2, hk2]
        rw [List.append_assoc, List.append_assoc, List.singleton_append, List.singleton_append] at this
        rw [← this]
        congr 1
        rw [List.map_cons, Int.toNat_natCast]
        rw [modify_at (fun y => fixI y x.a) done (bareI x) (r.map bareI), fix_bare x hx]
    · rw [if_neg hx, List.nil_append] at hg
      have := ih gs (by rw [hg, List.length_append]; rfl) hm'
      rw [List.append_assoc, List.append_assoc, List.singleton_append, List.singleton_append] at this
      rw [List.map_cons, show bareI x = x by unfold bareI; rw [if_neg hx]]
      exact this

/-- The lines of a program's text. -/
def lineG (pre : List UInt8) (p : List Ins) (i : Nat) : List (List UInt8) := (if namedB p i = true then [58 :: goalT pre i] else []) ++ (match p[i]? with | some x => [tellT pre x] | none => [])
def linesP (pre : List UInt8) (p : List Ins) (k : Nat) : List (List UInt8) := (List.range k).flatMap (lineG pre p)
theorem linesP_succ (pre : List UInt8) (p : List Ins) (k : Nat) : linesP pre p (k + 1) = linesP pre p k ++ lineG pre p k := by simp [linesP, List.range_succ]
theorem lineT_G (pre : List UInt8) (p : List Ins) (i : Nat) : lineT pre p i = (lineG pre p i).flatMap fun x => x ++ [10] := by
  unfold lineT lineG
  rw [List.flatMap_append]
  congr 1
  · split <;> simp
  · cases p[i]? <;> simp
theorem textAt_lines (pre : List UInt8) (p : List Ins) (k : Nat) : textAt pre p k = (linesP pre p k).flatMap fun x => x ++ [10] := by
  unfold textAt linesP
  rw [List.flatMap_assoc]
  congr 1
  funext i
  exact lineT_G pre p i
theorem tell_no {pre : List UInt8} (hp : Letter pre) (x : Ins) : (10 : UInt8) ∉ tellT pre x := by
  rw [tell_fields]
  intro h
  rcases List.mem_append.1 h with h | h
  · have := word_letters x.op 10 h
    revert this; decide
  · obtain ⟨f, hf, h⟩ := List.mem_flatMap.1 h
    rcases List.mem_cons.1 h with h | h
    · revert h; decide
    · exact field_no hp (by decide) (by decide) f hf h
theorem lines_no {pre : List UInt8} (hp : Letter pre) (p : List Ins) (k : Nat) : ∀ l ∈ linesP pre p k, (10 : UInt8) ∉ l := by
  intro l hl
  obtain ⟨i, _, h⟩ := List.mem_flatMap.1 hl
  rcases List.mem_append.1 h with h | h
  · split at h
    · rw [List.mem_singleton] at h
      subst h
      intro h
      rcases List.mem_cons.1 h with h | h
      · revert h; decide
      · exact goal_no hp (by decide) (by decide) h
    · cases h
  · split at h
    · rw [List.mem_singleton] at h
      subst h
      exact tell_no hp _
    · cases h

structure SheetIs (pre : List UInt8) (p : List Ins) (k : Nat) (s : Sheet) : Prop where
  prog : s.prog = (p.take k).map bareI
  marks : s.marks.map Place.key = marksP pre p k
  goals : s.goals.map Place.key = goalsI pre 0 (p.take k)
theorem tell_ne {pre : List UInt8} {x : Ins} (h0 : 0 ≤ x.op) (h1 : x.op < 22) : tellT pre x ≠ [] := by
  obtain ⟨c, r, hw⟩ := word_head h0 h1
  unfold tellT
  rw [hw]; simp
theorem run_lines {pre : List UInt8} (hp : Letter pre) {p : List Ins} (hf : ∀ x ∈ p, x.Fit) (hl : p.length ≤ 48) (hw : wrOk p p.length = true) : ∀ k, k ≤ p.length + 1 → ∃ s, runS (numL 1 (linesP pre p k)) = some s ∧ SheetIs pre p k s
  | 0, _ => ⟨Sheet.empty, rfl, rfl, rfl, rfl⟩
  | k + 1, hk => by
    obtain ⟨s, hs, h1, h2, h3⟩ := run_lines hp hf hl hw k (by omega)
    have hpl : s.prog.length = k := by rw [h1, List.length_map, List.length_take]; omega
    -- the mark
    have step1 : ∃ s1, runS (numL 1 (linesP pre p k ++ if namedB p k = true then [58 :: goalT pre k] else [])) = some s1 ∧ s1.prog = s.prog ∧ s1.marks.map Place.key = marksP pre p (k + 1) ∧ s1.goals = s.goals := by
      rw [numL_append]
      by_cases hn : namedB p k = true
      · rw [if_pos hn, numL, if_neg (by simp), numL, runS_snoc, hs]
        have htk : (58 :: goalT pre (k : Int)).take 4096 = 58 :: goalT pre k := by
          apply List.take_of_length_le
          have := itoa_small (i := (k : Int)) (by omega) (by omega)
          obtain ⟨c, rfl, _⟩ := hp
          simp [goalT]; omega
        have hno : hasMark s.marks (goalT pre k) = false := by
          rw [hasMark_key, h2, hasK_marks (by omega) (by omega) k (by omega)]
          simp
        have ht : stepS (some s) (1 + (linesP pre p k).length, 58 :: goalT pre (k : Int)) = some { s with marks := s.marks ++ [⟨goalT pre k, ((1 + (linesP pre p k).length : Nat) : Int), s.prog.length⟩] } := by
          show takeS s _ ((58 :: goalT pre (k : Int)).take 4096) = _
          rw [htk]
          unfold takeS
          rw [parse_mark_line hp (by omega) (by omega)]
          have hne : goalT pre (k : Int) ≠ [] := by obtain ⟨c, rfl, _⟩ := hp; simp [goalT]
          simp only [hne, if_false]
          unfold takeMark
          rw [hno]
          simp
        refine ⟨_, ht, rfl, ?_, rfl⟩
        rw [marksP_succ, if_pos hn, List.map_append, h2]
        simp [Place.key, hpl]
      · rw [if_neg hn, numL, List.append_nil]
        refine ⟨s, hs, rfl, ?_, rfl⟩
        rw [marksP_succ, if_neg hn, List.append_nil]; exact h2
    obtain ⟨s1, hs1, h11, h12, h13⟩ := step1
    have hlin : linesP pre p (k + 1) = (linesP pre p k ++ if namedB p k = true then [58 :: goalT pre k] else []) ++ (match p[k]? with | some x => [tellT pre x] | none => []) := by
      rw [linesP_succ, lineG, List.append_assoc]
    rw [hlin, numL_append]
    cases hx : p[k]? with
    | none =>
      have hkl : p.length ≤ k := List.getElem?_eq_none_iff.1 hx
      refine ⟨s1, by rw [numL, List.append_nil]; exact hs1, ?_, h12, ?_⟩
      · rw [h11, h1, List.take_of_length_le hkl, List.take_of_length_le (by omega)]
      · rw [h13, h3, List.take_of_length_le hkl, List.take_of_length_le (by omega)]
    | some x =>
      have hkl : k < p.length := (List.getElem?_eq_some_iff.1 hx).1
      have ht := wrOk_at hw hx
      have hfx := hf x (List.mem_of_getElem? hx)
      obtain ⟨o0, o1⟩ := told_op ht
      obtain ⟨y, hy, hy1, hy2, hy3⟩ := parse_tell hp hfx (by omega) ht
      have htk : (tellT pre x).take 4096 = tellT pre x := by
        apply List.take_of_length_le
        have := tellT_len pre x hfx (by obtain ⟨c, rfl, _⟩ := hp; simp)
        omega
      have htake : p.take (k + 1) = p.take k ++ [x] := by rw [List.take_add_one, hx]; rfl
      have hpl1 : s1.prog.length = k := by rw [h11]; exact hpl
      rw [numL, if_neg (tell_ne o0 o1), numL, runS_snoc, hs1]
      show ∃ s2, takeS s1 _ ((tellT pre x).take 4096) = some s2 ∧ _
      rw [htk]
      unfold takeS
      rw [hy]
      simp only [hy1, if_true]
      unfold takeIns
      rw [if_neg (by omega)]
      refine ⟨_, rfl, ?_, h12, ?_⟩
      · rw [htake, List.map_append, ← h1, ← h11]
        simp [hy3]
      · rw [htake, goalsI_snoc, ← h3, ← h13, hy2]
        unfold goalOf
        by_cases hg : goes x = true
        · have hne : goalT pre x.a ≠ [] := by obtain ⟨c, rfl, _⟩ := hp; simp [goalT]
          rw [if_pos hg, if_neg hne, List.map_append]
          simp [Place.key, hpl1, hg]
          omega
        · rw [if_neg hg]
          simp [hg]
theorem named_of {p : List Ins} {x : Ins} (h : x ∈ p) (hg : goes x = true) : namedB p x.a = true := by
  unfold namedB
  rw [List.any_eq_true]
  exact ⟨x, h, by simp [hg]⟩
/-- A PROGRAM's TEXT IS READ AGAIN AS THAT PROGRAM. -/
theorem read_back {pre : List UInt8} (hp : Letter pre) {p : List Ins} (hf : ∀ x ∈ p, x.Fit) (hl : p.length ≤ 48) (hw : wrOk p p.length = true) (hlen : (textT pre p).length ≤ 4096) : ∃ s, readS (textT pre p) = .inr s ∧ s.prog = p := by
  obtain ⟨s, hs, h1, h2, h3⟩ := run_lines hp hf hl hw (p.length + 1) (Nat.le_refl _)
  have hlo : linesOf (textT pre p) = numL 1 (linesP pre p (p.length + 1)) := by
    unfold linesOf textT
    rw [textAt_lines, pieces_lines 10 _ (lines_no hp p _), numL_append]
    simp [numL]
  rw [List.take_of_length_le (by omega)] at h1 h3
  have hfix := goals_fixed (pre := pre) (ms := s.marks) p [] s.goals h3 (fun x hx hg => by
    obtain ⟨i, hi⟩ := List.getElem?_of_mem hx
    have := told_goes (wrOk_at hw hi) hg
    have hn := named_of hx hg
    constructor
    · rw [hasMark_key, h2, hasK_marks this.1 (by omega) _ (by omega), hn]
      have : x.a < ((p.length + 1 : Nat) : Int) := by omega
      rw [decide_eq_true this]; rfl
    · rw [atMark_key, h2]
      exact atK_marks this.1 (by omega) hn _ (by omega) (by omega))
  rw [List.nil_append, List.nil_append, ← h1] at hfix
  refine ⟨{ s with prog := p }, ?_, rfl⟩
  rw [readS, if_neg (by omega), hlo, runS_walk _ s hs]
  simp only [endS, hfix]
end Go.Proofs.YtiegkhoidabkhaaDoor
