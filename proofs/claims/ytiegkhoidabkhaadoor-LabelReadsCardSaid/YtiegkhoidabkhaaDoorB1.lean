/- The plain words of a program's text. -/
import Derived.Test.YtiegkhoidabkhaaDoorA2
namespace Go.Proofs.YtiegkhoidabkhaaDoor

def goes (x : Ins) : Bool := x.op == 3 || x.op == 20
def namedB (p : List Ins) (i : Int) : Bool := p.any fun x => goes x && x.a == i
def wrOk (p : List Ins) (n : Nat) : Bool := p.all fun x => toldB x n
def lineT (pre : List UInt8) (p : List Ins) (i : Nat) : List UInt8 :=
  (if namedB p i = true then 58 :: (goalT pre i ++ [10]) else []) ++ (match p[i]? with | some x => tellT pre x ++ [10] | none => [])
def textAt (pre : List UInt8) (p : List Ins) (k : Nat) : List UInt8 := (List.range k).flatMap (lineT pre p)
def textT (pre : List UInt8) (p : List Ins) : List UInt8 := textAt pre p (p.length + 1)
def wrS (pre : List UInt8) (p : List Ins) : List UInt8 × Int := if 48 < p.length then ([], 3) else if wrOk p p.length = true then (textT pre p, 0) else ([], 1)

theorem textAt_succ (pre : List UInt8) (p : List Ins) (k : Nat) : textAt pre p (k + 1) = textAt pre p k ++ lineT pre p k := by
  simp [textAt, List.range_succ]
theorem tellT_len (pre : List UInt8) (x : Ins) (hf : x.Fit) (hp : pre.length ≤ 1) : (tellT pre x).length ≤ 100 := by
  have h1 := word_len x.op
  have hn : ∀ n ∈ x.nums, (Lib.itoa n).length ≤ 20 := by
    intro n hn
    simp only [Ins.nums, List.mem_cons, List.not_mem_nil, or_false] at hn
    rcases hn with rfl | rfl | rfl
    · exact itoa_len _ hf.a0 hf.a1
    · exact itoa_len _ hf.b0 hf.b1
    · exact itoa_len _ hf.c0 hf.c1
  have : ∀ l : List (UInt8 × Int), (∀ q ∈ l, (Lib.itoa q.2).length ≤ 20) → (l.flatMap fun p => fieldT pre p.1 p.2).length ≤ 22 * l.length := by
    intro l
    induction l with
    | nil => intro _; simp
    | cons q l ih =>
      intro h
      have h1 := ih fun q hq => h q (List.mem_cons_of_mem _ hq)
      have h2 := h q (List.mem_cons_self ..)
      have h3 : (fieldT pre q.1 q.2).length ≤ 22 := by unfold fieldT; split <;> simp <;> omega
      simp only [List.flatMap_cons, List.length_append, List.length_cons]
      omega
  have h2 := this ((shapeOf x.op).zip x.nums) fun q hq => hn _ (List.of_mem_zip hq).2
  have h3 : ((shapeOf x.op).zip x.nums).length ≤ 3 := by rw [List.length_zip]; have := shape_len x.op; omega
  unfold tellT
  rw [List.length_append]
  omega
theorem lineT_len (pre : List UInt8) (p : List Ins) (i : Nat) (hi : i ≤ 1000) (hf : ∀ x ∈ p, x.Fit) (hp : pre.length ≤ 1) : (lineT pre p i).length ≤ 150 := by
  unfold lineT
  rw [List.length_append]
  have h1 : (if namedB p i = true then 58 :: (goalT pre i ++ [10]) else []).length ≤ 30 := by
    have := itoa_len i (by omega) (by omega)
    split <;> simp [goalT] <;> omega
  have h2 : (match p[i]? with | some x => tellT pre x ++ [10] | none => []).length ≤ 101 := by
    split
    · rename_i x hx
      have := tellT_len pre x (hf x (List.mem_of_getElem? hx)) hp
      rw [List.length_append]
      exact Nat.add_le_add_right this 1
    · simp
  omega
theorem textAt_len (pre : List UInt8) (p : List Ins) (hf : ∀ x ∈ p, x.Fit) (hp : pre.length ≤ 1) : ∀ k, k ≤ 1000 → (textAt pre p k).length ≤ 150 * k
  | 0, _ => by simp [textAt]
  | k + 1, hk => by
    rw [textAt_succ, List.length_append]
    have h1 := textAt_len pre p hf hp k (by omega)
    have h2 := lineT_len pre p k (by omega) hf hp
    omega

/-- Which places are named by the first k. -/
def namedV (p : List Ins) : Array Value := ((List.range 49).map fun (i : Nat) => Value.bool (namedB p i)).toArray
theorem namedV_nil : namedV [] = (List.replicate 49 (Value.bool false)).toArray := rfl
theorem namedV_at (p : List Ins) (i : Nat) (h : i < 49) : (namedV p)[i]? = some (.bool (namedB p i)) := by
  simp [namedV, h]
theorem namedB_snoc (p : List Ins) (x : Ins) (i : Int) : namedB (p ++ [x]) i = (namedB p i || (goes x && x.a == i)) := by simp [namedB]
theorem namedV_skip (p : List Ins) (x : Ins) (h : goes x = false) : namedV (p ++ [x]) = namedV p := by
  unfold namedV
  congr 2
  funext i
  rw [namedB_snoc, h]; simp
theorem namedV_set (p : List Ins) (x : Ins) (h : goes x = true) (h0 : 0 ≤ x.a) (h1 : x.a ≤ 48) : namedV (p ++ [x]) = (namedV p).setIfInBounds x.a.toNat (.bool true) := by
  apply Array.ext_getElem?
  intro i
  rw [Array.getElem?_setIfInBounds]
  by_cases hi : i < 49
  · rw [namedV_at _ _ hi, namedV_at _ _ hi, namedB_snoc, h]
    by_cases he : x.a.toNat = i
    · have : (x.a == (i : Int)) = true := by rw [beq_iff_eq]; omega
      simp [he, this, namedV, hi]
    · have : (x.a == (i : Int)) = false := by rw [beq_eq_false_iff_ne]; omega
      simp [he, this]
  · have e1 : (namedV (p ++ [x]))[i]? = none := Array.getElem?_eq_none (by simp [namedV]; omega)
    have e2 : (namedV p)[i]? = none := Array.getElem?_eq_none (by simp [namedV]; omega)
    rw [e1, e2]
    have : x.a.toNat ≠ i := by omega
    simp [this]
theorem told_goes {x : Ins} {n : Int} (h : toldB x n = true) (hg : goes x = true) : 0 ≤ x.a ∧ x.a ≤ n := by
  have hs : (shapeOf x.op).head? = some 103 := by
    have : x.op = 3 ∨ x.op = 20 := by simpa [goes] using hg
    rcases this with e | e <;> rw [e] <;> rfl
  unfold toldB at h
  rw [hs] at h
  simp at h
  exact h.2
theorem told_op {x : Ins} {n : Int} (h : toldB x n = true) : 0 ≤ x.op ∧ x.op < 22 := by
  simp [toldB] at h
  omega
theorem wrOk_at {p : List Ins} {n k : Nat} {x : Ins} (h : wrOk p n = true) (hx : p[k]? = some x) : toldB x n = true := by
  unfold wrOk at h
  rw [List.all_eq_true] at h
  exact h x (List.mem_of_getElem? hx)
theorem wrOk_no {p : List Ins} {n k : Nat} {x : Ins} (hx : p[k]? = some x) (h : toldB x n = false) : wrOk p n = false := by
  by_cases hw : wrOk p n = true
  · rw [wrOk_at hw hx] at h; cases h
  · simpa using hw
end Go.Proofs.YtiegkhoidabkhaaDoor
