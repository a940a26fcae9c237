/-
  Plain facts of reading: the document's reader is as far as the program's.
-/
import Derived.Test.YthfmgobnanifnaaNumP
import Derived.Test.YthfmgobnanifnaaNumR
namespace Go.Proofs.Ythfmgobnanifnaa
open Go.Lab
set_option maxRecDepth 10000

/-- What is wrong in the end. -/
def endX (l : List Int) (e : Int) : Int := if e ≠ 0 then e else if l.length > 0 then 5 else 0
def Far (B l : List Int) (e a : Int) : Prop := ∃ m : Nat, m ≤ B.length ∧ a = (m : Int) ∧ (e = 0 → l = B.drop m)

theorem rd_keep {l : List Int} {e : Int} (he : e ≠ 0) (most : Int) : rd l e most = (0, l, e) := by unfold rd; rw [if_pos he]
theorem rdB_keep {l : List Int} {e : Int} (he : e ≠ 0) (most : Int) : rdB l e most = ([], l, e) := by unfold rdB; rw [if_pos he]

theorem far_drop {B l : List Int} {m j : Nat} (hm : m ≤ B.length) (hl : l = B.drop m) (hj : j ≤ l.length) : (B.length : Int) - ((l.drop j).length : Int) = ((m + j : Nat) : Int) ∧ m + j ≤ B.length ∧ l.drop j = B.drop (m + j) := by
  subst hl
  rw [List.drop_drop, List.length_drop]
  rw [List.length_drop] at hj
  refine ⟨by omega, by omega, rfl⟩

theorem copy8 (d : Arr Int 8) : copyA (zA 8) d.1 = d := by
  apply Subtype.ext
  have h := d.2
  simp only [copyA]
  rw [List.take_of_length_le (by omega), List.drop_eq_nil_of_le (by simp [zA, h]), List.append_nil]

end Go.Proofs.Ythfmgobnanifnaa
