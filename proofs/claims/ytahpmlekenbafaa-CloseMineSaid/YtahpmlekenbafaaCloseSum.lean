/-
  Plain laws of the sums: what the loops of package coin and of its reference come to.
-/
import Derived.Test.YtahpmlekenbafaaLabL
import Derived.Test.YtahpmlekenbafaaWCm3
namespace Go.Proofs.Ytahpmlekenbafaa
open Go.Lab
set_option linter.unusedVariables false

theorem told_ok : F.baizelaw35_told = some true := by kernel_rfl

def rightB (x : Int) : Bool := decide (x ≥ 0) && decide (x ≤ 1125899906842624)
theorem coin_Right_eq (x : Int) : F.coin_Right x = some (rightB x) := by
  unfold F.coin_Right F.coin_Right.c1 rightB
  by_cases h : x ≥ 0 <;> simp [h]
theorem ref_Right_eq (x : Int) : F.baizeref03_Right x = some (rightB x) := by
  unfold F.baizeref03_Right F.baizeref03_Right.c1 rightB
  by_cases h : x ≥ 0 <;> simp [h]
def addP (x y : Int) : Int × Int := if rightB x && rightB y && rightB (IntKind.i64.wrap (x + y)) then (IntKind.i64.wrap (x + y), 0) else (0, 2)
theorem coin_Add_eq (x y : Int) : F.coin_Add x y = some (addP x y) := by
  unfold F.coin_Add F.coin_Add.c1 addP
  simp only [coin_Right_eq, Option.bind_some]
  cases rightB x <;> cases rightB y <;> cases rightB (IntKind.i64.wrap (x + y)) <;> simp
theorem ref_Add_eq (x y : Int) : F.baizeref03_Add x y = some (addP x y) := by
  unfold F.baizeref03_Add F.baizeref03_Add.c1 addP
  simp only [ref_Right_eq, Option.bind_some]
  cases rightB x <;> cases rightB y <;> cases rightB (IntKind.i64.wrap (x + y)) <;> simp

def sumP : List Int → Int → Int × Int
  | [], x => (x, 0)
  | y :: ys, x => if ((addP x y).2 != 0) = true then (0, (addP x y).2) else sumP ys (addP x y).1

theorem coin_Sum_l1 (l : List Int) (hl : (l.length : Int) ≤ maxLen) : ∀ (k : Nat) (x i : Int), 0 ≤ i → i ≤ (l.length : Int) → (l.length : Int) - i < k → F.coin_Sum.l1 l k x i = some (sumP (l.drop i.toNat) x) := by
  have hm : (maxLen : Int) = 9223372036854775807 := rfl
  intro k
  induction k with
  | zero => intro x i h0 h1 h2; omega
  | succ k ih =>
    intro x i h0 h1 h2
    unfold F.coin_Sum.l1
    by_cases hi : i < (l.length : Int)
    · rw [getI_drop h0 hi]
      simp only [hi, h0, decide_true, if_true, and_self, coin_Add_eq, Option.bind_some, sumP]
      split
      · rfl
      · rw [wrap_succ h0 (by omega)]
        exact ih _ _ (by omega) (by omega) (by omega)
    · rw [drop_end hi]
      simp [hi, sumP]
theorem ref_Sum_l1 (l : List Int) (hl : (l.length : Int) ≤ maxLen) : ∀ (k : Nat) (x i : Int), 0 ≤ i → i ≤ (l.length : Int) → (l.length : Int) - i < k → F.baizeref03_Sum.l1 l k x i = some (sumP (l.drop i.toNat) x) := by
  have hm : (maxLen : Int) = 9223372036854775807 := rfl
  intro k
  induction k with
  | zero => intro x i h0 h1 h2; omega
  | succ k ih =>
    intro x i h0 h1 h2
    unfold F.baizeref03_Sum.l1
    by_cases hi : i < (l.length : Int)
    · rw [getI_drop h0 hi]
      simp only [hi, h0, decide_true, if_true, and_self, ref_Add_eq, Option.bind_some, sumP]
      split
      · rfl
      · rw [wrap_succ h0 (by omega)]
        exact ih _ _ (by omega) (by omega) (by omega)
    · rw [drop_end hi]
      simp [hi, sumP]
theorem coin_Sum_eq (l : List Int) (hl : l.length ≤ maxLen) : F.coin_Sum l = some (sumP l 0) := by
  have hm : (maxLen : Int) = 9223372036854775807 := rfl
  unfold F.coin_Sum
  rw [coin_Sum_l1 l (by omega) fuel 0 0 (by omega) (by omega) (by rw [fuel_eq]; omega)]
  rfl
theorem ref_Sum_eq (l : List Int) (hl : l.length ≤ maxLen) : F.baizeref03_Sum l = some (sumP l 0) := by
  have hm : (maxLen : Int) = 9223372036854775807 := rfl
  unfold F.baizeref03_Sum
  rw [ref_Sum_l1 l (by omega) fuel 0 0 (by omega) (by omega) (by rw [fuel_eq]; omega)]
  rfl

theorem IndexFunc_l1 (l : List Int) (hl : (l.length : Int) ≤ maxLen) : ∀ (k : Nat) (i : Int), 0 ≤ i → i ≤ (l.length : Int) → (l.length : Int) - i < k →
    ∃ r, F.slices_IndexFunc_int_int.l1 l k i = some r ∧ decide (r ≥ 0) = (l.drop i.toNat).any fun y => !rightB y := by
  have hm : (maxLen : Int) = 9223372036854775807 := rfl
  intro k
  induction k with
  | zero => intro i h0 h1 h2; omega
  | succ k ih =>
    intro i h0 h1 h2
    unfold F.slices_IndexFunc_int_int.l1
    by_cases hi : i < (l.length : Int)
    · rw [getI_drop h0 hi]
      simp only [hi, h0, decide_true, if_true, and_self, F.close_Adds_1, coin_Right_eq, Option.bind_some, List.any_cons]
      cases hr : rightB (getI l i)
      · exact ⟨i, by simp, by simp [h0]⟩
      · obtain ⟨r, h3, h4⟩ := ih (i + 1) (by omega) (by omega) (by omega)
        refine ⟨r, ?_, by simpa using h4⟩
        rw [wrap_succ h0 (by omega)]
        simpa using h3
    · rw [drop_end hi]
      exact ⟨-1, by simp [hi], by simp⟩
theorem ContainsFunc_eq (l : List Int) (hl : l.length ≤ maxLen) : F.slices_ContainsFunc_int_int l = some (l.any fun y => !rightB y) := by
  have hm : (maxLen : Int) = 9223372036854775807 := rfl
  unfold F.slices_ContainsFunc_int_int F.slices_IndexFunc_int_int
  obtain ⟨r, h1, h2⟩ := IndexFunc_l1 l (by omega) fuel 0 (by omega) (by omega) (by rw [fuel_eq]; omega)
  rw [h1]
  simp only [Option.bind_some, h2]
  rfl

def addsP (x1 x2 : Int) (l : List Int) : Int :=
  if x2 < 2 ∨ 8 < x2 then 1 else if rightB x1 = false then 2 else if (l.length : Int) ≠ x2 then 3 else if (l.any fun y => !rightB y) = true then 2 else
  if (sumP l 0).2 ≠ 0 ∨ (sumP l 0).1 ≠ x1 then 22 else 0

theorem close_Adds_eq (x1 x2 : Int) (l : List Int) (hl : l.length ≤ maxLen) : F.close_Adds x1 x2 l = some (addsP x1 x2 l) := by
  unfold F.close_Adds F.close_Adds.c1 addsP F.close_seated F.close_seated.c1
  simp only [coin_Right_eq, ContainsFunc_eq l hl, coin_Sum_eq l hl, Option.bind_some]
  by_cases h1 : x2 ≥ 2
  · by_cases h2 : x2 ≤ 8
    · have h3 : ¬ (x2 < 2 ∨ 8 < x2) := by omega
      simp only [h1, h2, h3, decide_true, if_true, if_false, Option.bind_some, Bool.not_true, Bool.false_eq_true]
      cases rightB x1
      · simp
      · simp only [Bool.not_true, Bool.false_eq_true, if_false]
        by_cases h4 : (l.length : Int) = x2
        · simp only [h4, bne_self_eq_false, Bool.false_eq_true, if_false, ne_eq, not_true, Bool.true_eq_false]
          cases l.any fun y => !rightB y
          · simp only [Bool.false_eq_true, if_false]
            by_cases h5 : (sumP l 0).2 = 0
            · by_cases h6 : (sumP l 0).1 = x1 <;> simp [h5, h6]
            · simp [h5]
          · simp
        · simp [h4]
    · have h3 : x2 < 2 ∨ 8 < x2 := by omega
      simp [h1, h2, h3]
  · have h3 : x2 < 2 ∨ 8 < x2 := by omega
    simp [h1, h3]
end Go.Proofs.Ytahpmlekenbafaa
