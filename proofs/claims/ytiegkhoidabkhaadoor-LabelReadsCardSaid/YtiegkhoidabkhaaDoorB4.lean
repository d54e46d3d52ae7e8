/- Plain words: what a line says. -/
import Derived.Test.YtiegkhoidabkhaaDoorB3
import Derived.Test.YtiegkhoidabkhaaDoorA1
namespace Go.Proofs.YtiegkhoidabkhaaDoor

def fldStep (c : UInt8) (s : List UInt8) (i : Nat) (g : List UInt8) (f : List Int) : Option (List UInt8 × List Int) :=
  if c = 103 then (if nameB s = true then some (s, f) else none) else match numOf s with | some v => some (g, f.set i v) | none => none
def fldRun : List (UInt8 × List UInt8) → Nat → List UInt8 → List Int → Option (List UInt8 × List Int)
  | [], _, g, f => some (g, f)
  | (c, s) :: l, i, g, f => match fldStep c s i g f with | some (g', f') => fldRun l (i + 1) g' f' | none => none
def fieldsOf (k : Int) (ls : List (List UInt8)) : Option (List UInt8 × List Int) :=
  if ls.length = (shapeOf k).length then fldRun ((shapeOf k).zip ls) 0 [] [0, 0, 0] else none
theorem fldRun_drop {l : List (UInt8 × List UInt8)} {k : Nat} {c : UInt8} {s : List UInt8} (h : l[k]? = some (c, s)) (g : List UInt8) (f : List Int) :
    fldRun (l.drop k) k g f = match fldStep c s k g f with | some (g', f') => fldRun (l.drop (k + 1)) (k + 1) g' f' | none => none := by
  obtain ⟨hl, he⟩ := List.getElem?_eq_some_iff.1 h
  rw [List.drop_eq_getElem_cons hl, he, fldRun]
theorem fldRun_end {l : List (UInt8 × List UInt8)} {k : Nat} (h : l.length ≤ k) (g : List UInt8) (f : List Int) : fldRun (l.drop k) k g f = some (g, f) := by
  rw [List.drop_eq_nil_of_le h, fldRun]

/-- What a line that is no empty one says: a mark's name, a goal's, an op, its numbers. -/
structure Say where
  mark : List UInt8
  goal : List UInt8
  op : Int
  f : List Int
def markOf (r : List UInt8) : Option Say := if nameB r = true then some ⟨r, [], 0, [0, 0, 0]⟩ else none
def instrOf (l : List UInt8) : Option Say :=
  match pieces 32 l with
  | [] => none
  | w :: rest => if opOf w < 0 then none else match fieldsOf (opOf w) rest with | some (g, f) => some ⟨[], g, opOf w, f⟩ | none => none
def parseOf (l : List UInt8) : Option Say := if l.head? = some 58 then markOf l.tail else instrOf l
end Go.Proofs.YtiegkhoidabkhaaDoor
