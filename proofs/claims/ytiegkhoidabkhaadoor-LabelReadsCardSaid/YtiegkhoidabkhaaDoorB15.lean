/- Plain words: what was read has a text. Plain words: what was read has a text. -/
import Derived.Test.YtiegkhoidabkhaaDoorB12
import Derived.Test.YtiegkhoidabkhaaDoorA11
namespace Go.Proofs.YtiegkhoidabkhaaDoor

def I64 (n : Int) : Prop := -9223372036854775808 ≤ n ∧ n ≤ 9223372036854775807
theorem i64_zero : I64 0 := ⟨by omega, by omega⟩
structure FldOk (sh g : List UInt8) (f : List Int) (a b c : Int) : Prop where
  hf : f = [a, b, c]
  ia : I64 a
  ib : I64 b
  ic : I64 c
  za : 0 < sh.length ∨ a = 0
  zb : 1 < sh.length ∨ b = 0
  zc : 2 < sh.length ∨ c = 0
  hg : g ≠ [] → sh.head? = some 103
  hh : sh.head? = some 103 → a = 0
theorem len_two {α : Type} {l : List α} (h : l.length = 2) : ∃ x y, l = [x, y] := by
  match l, h with
  | [x, y], _ => exact ⟨x, y, rfl⟩
theorem len_three {α : Type} {l : List α} (h : l.length = 3) : ∃ x y z, l = [x, y, z] := by
  match l, h with
  | [x, y, z], _ => exact ⟨x, y, z, rfl⟩
theorem fld_num {s : List UInt8} {i : Nat} {g : List UInt8} {f : List Int} {r : List UInt8 × List Int} (h : fldStep 110 s i g f = some r) : ∃ v, I64 v ∧ r = (g, f.set i v) := by
  unfold fldStep at h
  rw [if_neg (by decide)] at h
  split at h
  · rename_i v hv
    exact ⟨v, numOf_range hv, (Option.some.inj h).symm⟩
  · cases h
theorem fld_goal {s : List UInt8} {i : Nat} {g : List UInt8} {f : List Int} {r : List UInt8 × List Int} (h : fldStep 103 s i g f = some r) : r = (s, f) := by
  unfold fldStep at h
  rw [if_pos rfl] at h
  split at h
  · exact (Option.some.inj h).symm
  · cases h
theorem run_cons {c : UInt8} {s : List UInt8} {l : List (UInt8 × List UInt8)} {i : Nat} {g : List UInt8} {f : List Int} {r : List UInt8 × List Int} (h : fldRun ((c, s) :: l) i g f = some r) : ∃ g' f', fldStep c s i g f = some (g', f') ∧ fldRun l (i + 1) g' f' = some r := by
  rw [fldRun] at h
  split at h
  · rename_i g' f' he
    exact ⟨g', f', he, h⟩
  · cases h
theorem run_nil {i : Nat} {g : List UInt8} {f : List Int} {r : List UInt8 × List Int} (h : fldRun [] i g f = some r) : r = (g, f) := (Option.some.inj h).symm
theorem run_sh {sh : List UInt8} (hsh : sh = [] ∨ sh = [110] ∨ sh = [110, 110] ∨ sh = [110, 110, 110] ∨ sh = [103] ∨ sh = [103, 110, 110]) {ls : List (List UInt8)} {g : List UInt8} {f : List Int} (hl : ls.length = sh.length) (h : fldRun (sh.zip ls) 0 [] [0, 0, 0] = some (g, f)) :
    ∃ a b c, FldOk sh g f a b c := by
  rcases hsh with rfl | rfl | rfl | rfl | rfl | rfl
  · have := run_nil h
    injection this with h1 h2
    subst h1 h2
    exact ⟨0, 0, 0, rfl, i64_zero, i64_zero, i64_zero, .inr rfl, .inr rfl, .inr rfl, fun h => absurd rfl h, fun _ => rfl⟩
  · obtain ⟨x, rfl⟩ := List.length_eq_one_iff.1 hl
    obtain ⟨g1, f1, h1, h2⟩ := run_cons h
    obtain ⟨v, hv, e⟩ := fld_num h1
    injection e with e1 e2
    subst e1 e2
    have := run_nil h2
    injection this with e1 e2
    subst e1 e2
    exact ⟨v, 0, 0, rfl, hv, i64_zero, i64_zero, .inl (by simp), .inr rfl, .inr rfl, fun h => absurd rfl h, fun h => by simp at h⟩
  · obtain ⟨x, y, rfl⟩ := len_two hl
    obtain ⟨g1, f1, h1, h2⟩ := run_cons h
    obtain ⟨v, hv, e⟩ := fld_num h1
    injection e with e1 e2
    subst e1 e2
    obtain ⟨g1, f1, h1, h2⟩ := run_cons h2
    obtain ⟨u, hu, e⟩ := fld_num h1
    injection e with e1 e2
    subst e1 e2
    have := run_nil h2
    injection this with e1 e2
    subst e1 e2
    exact ⟨v, u, 0, rfl, hv, hu, i64_zero, .inl (by simp), .inl (by simp), .inr rfl, fun h => absurd rfl h, fun h => by simp at h⟩
  · obtain ⟨x, y, z, rfl⟩ := len_three hl
    obtain ⟨g1, f1, h1, h2⟩ := run_cons h
    obtain ⟨v, hv, e⟩ := fld_num h1
    injection e with e1 e2
    subst e1 e2
    obtain ⟨g1, f1, h1, h2⟩ := run_cons h2
    obtain ⟨u, hu, e⟩ := fld_num h1
    injection e with e1 e2
    subst e1 e2
    obtain ⟨g1, f1, h1, h2⟩ := run_cons h2
    obtain ⟨t, ht, e⟩ := fld_num h1
    injection e with e1 e2
    subst e1 e2
    have := run_nil h2
    injection this with e1 e2
    subst e1 e2
    exact ⟨v, u, t, rfl, hv, hu, ht, .inl (by simp), .inl (by simp), .inl (by simp), fun h => absurd rfl h, fun h => by simp at h⟩
  · obtain ⟨x, rfl⟩ := List.length_eq_one_iff.1 hl
    obtain ⟨g1, f1, h1, h2⟩ := run_cons h
    have e := fld_goal h1
    injection e with e1 e2
    subst e1 e2
    have := run_nil h2
    injection this with e1 e2
    subst e1 e2
    exact ⟨0, 0, 0, rfl, i64_zero, i64_zero, i64_zero, .inr rfl, .inr rfl, .inr rfl, fun _ => rfl, fun _ => rfl⟩
  · obtain ⟨x, y, z, rfl⟩ := len_three hl
    obtain ⟨g1, f1, h1, h2⟩ := run_cons h
    have e := fld_goal h1
    injection e with e1 e2
    subst e1 e2
    obtain ⟨g1, f1, h1, h2⟩ := run_cons h2
    obtain ⟨u, hu, e⟩ := fld_num h1
    injection e with e1 e2
    subst e1 e2
    obtain ⟨g1, f1, h1, h2⟩ := run_cons h2
    obtain ⟨t, ht, e⟩ := fld_num h1
    injection e with e1 e2
    subst e1 e2
    have := run_nil h2
    injection this with e1 e2
    subst e1 e2
    exact ⟨0, u, t, rfl, i64_zero, hu, ht, .inr rfl, .inl (by simp), .inl (by simp), fun _ => rfl, fun _ => rfl⟩
theorem shape_kinds {k : Int} (h0 : 0 ≤ k) (h1 : k < 22) : shapeOf k = [] ∨ shapeOf k = [110] ∨ shapeOf k = [110, 110] ∨ shapeOf k = [110, 110, 110] ∨ shapeOf k = [103] ∨ shapeOf k = [103, 110, 110] := by
  rcases op_cases h0 h1 with rfl | rfl | rfl | rfl | rfl | rfl | rfl | rfl | rfl | rfl | rfl | rfl | rfl | rfl | rfl | rfl | rfl | rfl | rfl | rfl | rfl | rfl
  all_goals decide
theorem shape_goes {x : Ins} (h0 : 0 ≤ x.op) (h1 : x.op < 22) : goes x = ((shapeOf x.op).head? == some 103) := by
  unfold goes
  generalize x.op = k at *
  rcases op_cases h0 h1 with rfl | rfl | rfl | rfl | rfl | rfl | rfl | rfl | rfl | rfl | rfl | rfl | rfl | rfl | rfl | rfl | rfl | rfl | rfl | rfl | rfl | rfl
  all_goals rfl
theorem opOf_range (s : List UInt8) (h : 0 ≤ opOf s) : opOf s < 22 := by
  unfold opOf at h ⊢
  cases hf : wordL.findIdx? (· == s) with
  | none => rw [hf] at h; simp at h
  | some i =>
    have := (List.findIdx?_eq_some_iff_getElem.1 hf).1
    have e : wordL.length = 22 := rfl
    show (i : Int) < 22
    omega
structure InsOk (x : Ins) : Prop where
  fit : x.Fit
  told : toldB x 0 = true
theorem said_ok {l : List UInt8} {y : Say} (h : parseOf l = some y) (hm : y.mark = []) : InsOk (insOf y) ∧ (y.goal ≠ [] → goes (insOf y) = true) := by
  unfold parseOf at h
  split at h
  · unfold markOf at h
    split at h
    · rename_i hn
      have := Option.some.inj h
      subst this
      simp only at hm
      rw [hm] at hn
      cases hn
    · cases h
  · unfold instrOf at h
    split at h
    · cases h
    · rename_i w rest _
      split at h
      · cases h
      · rename_i hop
        split at h
        · rename_i g f hfl
          have := Option.some.inj h
          subst this
          have h0 : 0 ≤ opOf w := by omega
          have h1 := opOf_range w h0
          unfold fieldsOf at hfl
          split at hfl
          · rename_i hlen
            obtain ⟨a, b, c, ok⟩ := run_sh (shape_kinds h0 h1) hlen hfl
            have hf := ok.hf
            subst hf
            have hins : insOf ⟨[], g, opOf w, [a, b, c]⟩ = ⟨opOf w, a, b, c⟩ := rfl
            rw [hins]
            refine ⟨⟨⟨ok.ia.1, ok.ia.2, ok.ib.1, ok.ib.2, ok.ic.1, ok.ic.2, by show -9223372036854775808 ≤ opOf w; omega, by show opOf w ≤ 9223372036854775807; omega⟩, ?_⟩, fun hg => ?_⟩
            · unfold toldB
              have e1 := ok.za
              have e2 := ok.zb
              have e3 := ok.zc
              have e4 := ok.hh
              simp only [Bool.and_eq_true, Bool.or_eq_true, decide_eq_true_eq, beq_iff_eq, Bool.not_eq_true']
              refine ⟨⟨⟨⟨⟨h0, h1⟩, e1⟩, e2⟩, e3⟩, ?_⟩
              by_cases hh : (shapeOf (opOf w)).head? = some 103
              · right
                have := e4 hh
                omega
              · left
                rw [beq_eq_false_iff_ne]; exact hh
            · rw [shape_goes h0 h1, beq_iff_eq]
              exact ok.hg hg
          · cases hfl
        · cases h
structure SheetGood (s : Sheet) : Prop where
  ins : ∀ x ∈ s.prog, InsOk x
  goals : ∀ g ∈ s.goals, ∃ j : Nat, g.pos = j ∧ ∃ x, s.prog[j]? = some x ∧ goes x = true
  marks : ∀ m ∈ s.marks, 0 ≤ m.pos ∧ m.pos ≤ (s.prog.length : Int)
  few : s.prog.length ≤ 48
theorem takeS_good {s s' : Sheet} {i : Int} {l : List UInt8} (h : SheetGood s) (ht : takeS s i l = some s') : SheetGood s' := by
  unfold takeS at ht
  split at ht
  · cases ht
  · rename_i y hpy
    split at ht
    · rename_i hm
      obtain ⟨hok, hgo⟩ := said_ok hpy hm
      unfold takeIns at ht
      split at ht
      · cases ht
      · rename_i h48
        obtain rfl := Option.some.inj ht
        have hold : ∀ g ∈ s.goals, ∃ j : Nat, g.pos = j ∧ ∃ x, (s.prog ++ [insOf y])[j]? = some x ∧ goes x = true := fun g hg => by
          obtain ⟨j, hj, x, hx, hgx⟩ := h.goals g hg
          exact ⟨j, hj, x, by rw [List.getElem?_append_left (List.getElem?_eq_some_iff.1 hx).1]; exact hx, hgx⟩
        refine ⟨?_, ?_, ?_, ?_⟩
        · intro x hx
          rcases List.mem_append.1 hx with hx | hx
          · exact h.ins x hx
          · rw [List.mem_singleton] at hx
            subst hx
            exact hok
        · intro g hg
          have hg' : g ∈ (if y.goal = [] then s.goals else s.goals ++ [⟨y.goal, i, s.prog.length⟩]) := hg
          split at hg'
          · exact hold g hg'
          · rename_i hne
            rcases List.mem_append.1 hg' with hg' | hg'
            · exact hold g hg'
            · rw [List.mem_singleton] at hg'
              subst hg'
              exact ⟨s.prog.length, rfl, insOf y, by simp, hgo hne⟩
        · intro m hm'
          have := h.marks m hm'
          have hln : ((s.prog ++ [insOf y]).length : Int) = s.prog.length + 1 := by simp
          show 0 ≤ m.pos ∧ m.pos ≤ ((s.prog ++ [insOf y]).length : Int)
          omega
        · show (s.prog ++ [insOf y]).length ≤ 48
          simp; omega
    · unfold takeMark at ht
      split at ht
      · cases ht
      · obtain rfl := Option.some.inj ht
        refine ⟨h.ins, h.goals, ?_, h.few⟩
        intro m hm'
        rcases List.mem_append.1 hm' with hm' | hm'
        · exact h.marks m hm'
        · rw [List.mem_singleton] at hm'
          subst hm'
          exact ⟨by simp, Int.le_refl _⟩
theorem runS_good : ∀ (xs : List (Nat × List UInt8)) (s : Sheet), runS xs = some s → SheetGood s := snoc_ind (fun s h => by
    rw [show runS [] = some Sheet.empty from rfl] at h; rw [← Option.some.inj h]; exact ⟨by simp [Sheet.empty], by simp [Sheet.empty], by simp [Sheet.empty], by simp [Sheet.empty]⟩) fun l a ih s h => by
  rw [runS_snoc] at h
  cases h1 : runS l with
  | none => rw [h1] at h; cases h
  | some s1 =>
    rw [h1] at h
    have h2 : takeS s1 a.1 (a.2.take 4096) = some s := h
    exact takeS_good (ih s1 h1) h2
theorem walk_run : ∀ (xs : List (Nat × List UInt8)) (s : Sheet), walkS Sheet.empty xs = .inr s → runS xs = some s := snoc_ind (fun s h => by
    have : Sheet.empty = s := by injection h
    rw [← this]; rfl) fun l a ih s h => by
  rw [walkS_append] at h
  cases h1 : walkS Sheet.empty l with
  | inl n => rw [h1] at h; cases h
  | inr s1 =>
    rw [h1] at h
    have h2 : walkS s1 [a] = .inr s := h
    rw [walkS] at h2
    rw [runS_snoc, ih s1 h1]
    show takeS s1 a.1 (a.2.take 4096) = some s
    cases ht : takeS s1 a.1 (a.2.take 4096) with
    | none => rw [ht] at h2; cases h2
    | some s2 =>
      rw [ht] at h2
      have : s2 = s := by
        have h3 : walkS s2 [] = .inr s := h2
        injection h3
      rw [this]
end Go.Proofs.YtiegkhoidabkhaaDoor
namespace Go.Proofs.YtiegkhoidabkhaaDoor

/-- An instruction of a program of n. -/
structure InsIn (n : Nat) (x : Ins) : Prop where
  fit : x.Fit
  told : toldB x n = true
theorem told_more {x : Ins} (h : toldB x 0 = true) (n : Nat) : toldB x n = true := by
  unfold toldB at h ⊢
  simp only [Bool.and_eq_true, Bool.or_eq_true, decide_eq_true_eq, beq_iff_eq, Bool.not_eq_true'] at h ⊢
  refine ⟨h.1, ?_⟩
  rcases h.2 with h2 | h2
  · exact .inl h2
  · exact .inr ⟨h2.1, by omega⟩
theorem fix_told {x : Ins} {n : Nat} {a : Int} (hn : n ≤ 48) (h : InsIn n x) (hg : goes x = true) (h0 : 0 ≤ a) (h1 : a ≤ n) : InsIn n (fixI x a) := by
  obtain ⟨hf, ht⟩ := h
  refine ⟨⟨by show -9223372036854775808 ≤ a; omega, by show a ≤ 9223372036854775807; omega, hf.b0, hf.b1, hf.c0, hf.c1, hf.o0, hf.o1⟩, ?_⟩
  obtain ⟨o0, o1⟩ := told_op ht
  have hs : (shapeOf x.op).head? = some 103 := by
    have := shape_goes o0 o1
    rw [hg] at this
    simpa using this.symm
  have hl : 0 < (shapeOf x.op).length := by
    cases h : shapeOf x.op with
    | nil => rw [h] at hs; cases hs
    | cons c r => simp
  unfold toldB at ht ⊢
  have e : (fixI x a).op = x.op := rfl
  have e1 : (fixI x a).a = a := rfl
  have e2 : (fixI x a).b = x.b := rfl
  have e3 : (fixI x a).c = x.c := rfl
  rw [e, e1, e2, e3]
  simp only [Bool.and_eq_true, Bool.or_eq_true, decide_eq_true_eq, beq_iff_eq, Bool.not_eq_true'] at ht ⊢
  exact ⟨⟨⟨⟨ht.1.1.1.1, .inl hl⟩, ht.1.1.2⟩, ht.1.2⟩, .inr ⟨h0, h1⟩⟩
theorem atMark_le {ms : List Place} {n : Nat} (h : ∀ m ∈ ms, 0 ≤ m.pos ∧ m.pos ≤ (n : Int)) (name : List UInt8) : 0 ≤ atMark ms name ∧ atMark ms name ≤ n := by
  unfold atMark
  cases hf : ms.find? fun p => p.name == name with
  | none => exact ⟨by simp, by simp⟩
  | some p => exact h p (List.mem_of_find?_eq_some hf)
theorem goals_good {ms : List Place} {n : Nat} (hn : n ≤ 48) (hms : ∀ m ∈ ms, 0 ≤ m.pos ∧ m.pos ≤ (n : Int)) : ∀ (gs : List Place) (p q : List Ins), p.length = n → (∀ x ∈ p, InsIn n x) → (∀ g ∈ gs, ∃ j : Nat, g.pos = j ∧ ∃ x, p[j]? = some x ∧ goes x = true) →
    goalsS ms p gs = .inr q → q.length = n ∧ ∀ x ∈ q, InsIn n x
  | [], p, q, hp, hi, _, h => by
    have : p = q := by injection h
    subst this
    exact ⟨hp, hi⟩
  | g :: gs, p, q, hp, hi, hg, h => by
    rw [goalsS] at h
    split at h
    · obtain ⟨j, hj, x, hx, hgx⟩ := hg g (List.mem_cons_self ..)
      obtain ⟨a0, a1⟩ := atMark_le hms g.name
      have hjl := (List.getElem?_eq_some_iff.1 hx).1
      refine goals_good hn hms gs _ q (by rw [List.length_modify]; exact hp) ?_ ?_ h
      · intro y hy
        obtain ⟨i, hi', he⟩ := List.getElem_of_mem hy
        rw [List.getElem_modify] at he
        split at he
        · rename_i hij
          rw [hj, Int.toNat_natCast] at hij
          subst hij
          have hxe : p[j] = x := (List.getElem?_eq_some_iff.1 hx).2
          rw [hxe] at he
          rw [← he]
          exact fix_told hn (hi x (List.mem_of_getElem? hx)) hgx a0 a1
        · rw [← he]
          exact hi _ (List.getElem_mem _)
      · intro g' hg'
        obtain ⟨j', hj', x', hx', hgx'⟩ := hg g' (List.mem_cons_of_mem _ hg')
        rw [hj, Int.toNat_natCast]
        by_cases he : j = j'
        · subst he
          refine ⟨j, hj', fixI x' (atMark ms g.name), ?_, ?_⟩
          · rw [List.getElem?_modify_eq, hx']; rfl
          · exact hgx'
        · refine ⟨j', hj', x', ?_, hgx'⟩
          rw [List.getElem?_modify_ne _ _ he]; exact hx'
    · cases h
/-- WHAT WAS READ IS A PROGRAM THAT HAS A TEXT. -/
theorem read_good {text : List UInt8} {s : Sheet} (h : readS text = .inr s) : s.prog.length ≤ 48 ∧ ∀ x ∈ s.prog, InsIn s.prog.length x := by
  unfold readS at h
  split at h
  · cases h
  · split at h
    · cases h
    · rename_i s0 hw
      have hgd := runS_good _ s0 (walk_run _ s0 hw)
      unfold endS at h
      split at h
      · cases h
      · rename_i p hp
        injection h with h
        subst h
        have := goals_good (n := s0.prog.length) hgd.few hgd.marks s0.goals s0.prog p rfl (fun x hx => ⟨(hgd.ins x hx).fit, told_more (hgd.ins x hx).told _⟩) hgd.goals hp
        show p.length ≤ 48 ∧ ∀ x ∈ p, InsIn p.length x
        rw [this.1]
        exact ⟨hgd.few, this.2⟩
theorem read_writes {text : List UInt8} {s : Sheet} (h : readS text = .inr s) (pre : List UInt8) : (wrS pre s.prog).2 = 0 := by
  obtain ⟨h1, h2⟩ := read_good h
  unfold wrS
  rw [if_neg (by omega)]
  have : wrOk s.prog s.prog.length = true := by
    unfold wrOk
    rw [List.all_eq_true]
    exact fun x hx => (h2 x hx).told
  rw [if_pos this]
end Go.Proofs.YtiegkhoidabkhaaDoor
