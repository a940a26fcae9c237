/-
  Plain facts of digests: the document's are the program's.
-/
import Derived.Test.YthfmgobnanifnaaHashP
namespace Go.Proofs.Ythfmgobnanifnaa
open Go.Lab
set_option maxRecDepth 10000

theorem getI_of {l r : List Int} {i : Nat} {x : Int} (h : l.drop i = x :: r) : getI l (i : Int) = x ∧ l.drop (i + 1) = r ∧ i < l.length := by
  have hi : i < l.length := by
    apply Classical.byContradiction
    intro hn
    rw [List.drop_eq_nil_of_le (by omega)] at h; cases h
  have h1 := getI_drop (l := l) (i := (i : Int)) (by omega) (by omega)
  rw [show ((i : Int)).toNat = i by omega, show ((i : Int) + 1).toNat = i + 1 by omega, h] at h1
  injection h1 with h1 h2
  exact ⟨h1.symm, h2.symm, hi⟩

theorem take8 {l : List Int} (h : 8 ≤ l.length) : ∃ c0 c1 c2 c3 c4 c5 c6 c7 r, l = c0 :: c1 :: c2 :: c3 :: c4 :: c5 :: c6 :: c7 :: r := by
  match l, h with
  | c0 :: c1 :: c2 :: c3 :: c4 :: c5 :: c6 :: c7 :: r, _ => exact ⟨c0, c1, c2, c3, c4, c5, c6, c7, r, rfl⟩

theorem val256_zeros : ∀ z : Nat, val256 (List.replicate z 0) = 0
  | 0 => rfl
  | z + 1 => by simp [List.replicate_succ, val256, val256_zeros z]

end Go.Proofs.Ythfmgobnanifnaa
