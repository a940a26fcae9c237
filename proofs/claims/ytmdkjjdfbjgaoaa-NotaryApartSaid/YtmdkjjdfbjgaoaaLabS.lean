/-
  The words of the plain functions that the generator writes.
-/
import GoSem.Core.Lib
import GoSem.Op.IntBits
namespace Go.Lab

/-- An array's numbers. -/
abbrev Arr (α : Type) (n : Nat) := { l : List α // l.length = n }
def zA (n : Nat) : Arr Int n := ⟨List.replicate n 0, by simp⟩
instance {n : Nat} : Inhabited (Arr Int n) := ⟨zA n⟩
def aget {n : Nat} (d : Arr Int n) (i : Int) : Int := d.1.getD i.toNat 0
def aset {n : Nat} (d : Arr Int n) (i x : Int) : Arr Int n := ⟨d.1.set i.toNat x, by simp [d.2]⟩

/-- How often a loop goes at most. -/
def fuel : Nat := 2 ^ 63

def getI {α : Type} [Inhabited α] (l : List α) (i : Int) : α := l.getD i.toNat default
def setI {α : Type} (l : List α) (i : Int) (x : α) : List α := l.set i.toNat x
def sliceI {α : Type} (l : List α) (lo hi : Int) : List α := (l.drop lo.toNat).take (hi.toNat - lo.toNat)
def bitAnd (k : IntKind) (x y : Int) : Int := k.wrap ((BitVec.ofInt k.bits x &&& BitVec.ofInt k.bits y).toNat : Int)
def bitOr (k : IntKind) (x y : Int) : Int := k.wrap ((BitVec.ofInt k.bits x ||| BitVec.ofInt k.bits y).toNat : Int)
def bitXor (k : IntKind) (x y : Int) : Int := k.wrap ((BitVec.ofInt k.bits x ^^^ BitVec.ofInt k.bits y).toNat : Int)
def bitAndNot (k : IntKind) (x y : Int) : Int := k.wrap ((BitVec.ofInt k.bits x &&& ~~~(BitVec.ofInt k.bits y)).toNat : Int)
def shV (left : Bool) (k : IntKind) (x y : Int) : Int := if left then k.wrap (x * 2 ^ (min y.toNat k.bits)) else x.fdiv (2 ^ (min y.toNat k.bits))
def imax (x y : Int) : Int := if y > x then y else x
def imin (x y : Int) : Int := if y < x then y else x
/-- A text out of bytes. -/
def bytesStr (l : List Int) : ByteArray := ⟨(l.map fun x => UInt8.ofNat x.toNat).toArray⟩
/-- A text's bytes. -/
def strBytes (s : ByteArray) : List Int := s.data.toList.map fun b => (b.toNat : Int)

theorem getI_some {α : Type} [Inhabited α] {l : List α} {i : Int} (h : 0 ≤ i ∧ i < (l.length : Int)) : l[i.toNat]? = some (getI l i) := by
  unfold getI
  rw [List.getD_eq_getElem?_getD, List.getElem?_eq_getElem (by omega)]
  rfl
theorem of_if_t {α : Type} {b : Bool} {x y r : α} (h : (if b = true then x else y) = r) (hb : b = true) : x = r := by rw [if_pos hb] at h; exact h
theorem of_if_f {α : Type} {b : Bool} {x y r : α} (h : (if b = true then x else y) = r) (hb : b = false) : y = r := by rw [if_neg (by simp [hb])] at h; exact h
theorem of_if_p {α : Type} {p : Prop} [Decidable p] {x y r : α} (h : (if p then x else y) = r) (hp : p) : x = r := by rw [if_pos hp] at h; exact h
end Go.Lab
