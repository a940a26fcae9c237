/-
  Plain facts of purses: which the program takes for the same.
-/
import Derived.Test.YticlfbpmfejdoaaPursePure
namespace Go.Proofs.Yticlfbpmfejdoaa
open Go.Lab
set_option maxRecDepth 10000

instance : DecidableEq S_purse_Held := fun a b =>
  decidable_of_iff (a.f1 = b.f1 ∧ a.f2 = b.f2 ∧ a.f3 = b.f3 ∧ a.f4 = b.f4) (by
    obtain ⟨a1, a2, a3, a4⟩ := a
    obtain ⟨b1, b2, b3, b4⟩ := b
    simp)

theorem Equal_l1 (l1 l2 : List S_purse_Held) (he : l1.length = l2.length) (hl : l1.length ≤ 100) : ∀ (k i : Nat), l1.length - i < k → F.slices_Equal_purse_Held_purse_Held.l1 l1 l2 k (i : Int) = some (decide (l1.drop i = l2.drop i))
  | 0, _, h => absurd h (by omega)
  | k + 1, i, h => by
    unfold F.slices_Equal_purse_Held_purse_Held.l1
    by_cases hi : i < l1.length
    · rw [if_pos (by simpa using hi), if_pos (by omega), if_pos (by omega)]
      have h1 := getI_drop (l := l1) (i := (i : Int)) (by omega) (by omega)
      have h2 := getI_drop (l := l2) (i := (i : Int)) (by omega) (by omega)
      have hw : IntKind.i64.wrap ((i : Int) + 1) = ((i + 1 : Nat) : Int) := by rw [wrap_id (by omega) (by omega)]; omega
      rw [show ((i : Int)).toNat = i by omega, show ((i : Int) + 1).toNat = i + 1 by omega] at h1 h2
      rw [h1, h2, hw, Equal_l1 l1 l2 he hl k (i + 1) (by omega)]
      generalize getI l1 (i : Int) = a
      generalize getI l2 (i : Int) = b
      obtain ⟨a1, a2, a3, a4⟩ := a
      obtain ⟨b1, b2, b3, b4⟩ := b
      have hd : (a1.1 == b1.1) = decide (a1 = b1) := by
        by_cases h : a1 = b1
        · subst h; simp
        · have : a1.1 ≠ b1.1 := fun q => h (Subtype.ext q)
          simp [h, this]
      simp only [hd]
      by_cases c1 : a1 = b1 <;> by_cases c2 : a2 = b2 <;> by_cases c3 : a3 = b3 <;> by_cases c4 : a4 = b4 <;> simp [c1, c2, c3, c4]
    · rw [if_neg (by simpa using hi), List.drop_eq_nil_of_le (by omega), List.drop_eq_nil_of_le (by omega)]
      simp

theorem pSame_eq (d1 : Arr Int 8) (x1 : Int) (d2 : Arr Int 2) {l1 : List S_purse_Held} (d3 : Arr Int 8) (x2 : Int) (d4 : Arr Int 2) (l2 : List S_purse_Held) (hl : l1.length ≤ 100) :
    F.purse_Same d1 x1 d2 l1 d3 x2 d4 l2 = some (decide (d1 = d3 ∧ x1 = x2 ∧ d2 = d4 ∧ l1 = l2)) := by
  have hE : F.slices_Equal_purse_Held_purse_Held l1 l2 = some (decide (l1 = l2)) := by
    unfold F.slices_Equal_purse_Held_purse_Held
    by_cases he : l1.length = l2.length
    · rw [if_neg (by simp; omega)]
      have := Equal_l1 l1 l2 he hl fuel 0 (by rw [fuel_eq]; omega)
      simpa using this
    · rw [if_pos (by simp; omega)]
      have : l1 ≠ l2 := fun h => he (by rw [h])
      simp [this]
  unfold F.purse_Same F.purse_Same.c1
  rw [hE, Option.bind_some]
  have hd : (d1.1 == d3.1) = decide (d1 = d3) := by
    by_cases h : d1 = d3
    · subst h; simp
    · have : d1.1 ≠ d3.1 := fun q => h (Subtype.ext q)
      simp [h, this]
  have hd2 : (d2.1 == d4.1) = decide (d2 = d4) := by
    by_cases h : d2 = d4
    · subst h; simp
    · have : d2.1 ≠ d4.1 := fun q => h (Subtype.ext q)
      simp [h, this]
  rw [hd, hd2]
  by_cases a1 : d1 = d3 <;> by_cases a2 : x1 = x2 <;> by_cases a3 : d2 = d4 <;> simp [a1, a2, a3]
end Go.Proofs.Yticlfbpmfejdoaa
