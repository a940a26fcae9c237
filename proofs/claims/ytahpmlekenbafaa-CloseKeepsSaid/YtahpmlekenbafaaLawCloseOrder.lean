/-
  The plain law of CloseOrder: what is wrong with payouts doesn't hang on their order.
-/
import Derived.Test.YtahpmlekenbafaaLawCloseAdds
namespace Go.Proofs.Ytahpmlekenbafaa
open Go.Lab
set_option linter.unusedVariables false

theorem rightB_iff {x : Int} : rightB x = true ↔ 0 ≤ x ∧ x ≤ 1125899906842624 := by
  unfold rightB; simp
theorem sum_nonneg : ∀ {l : List Int}, (∀ y ∈ l, rightB y = true) → 0 ≤ l.sum
  | [], _ => by simp
  | y :: ys, h => by
    have h1 := rightB_iff.1 (h y (by simp))
    have h2 := sum_nonneg (l := ys) fun z hz => h z (by simp [hz])
    rw [List.sum_cons]; omega
theorem sumP_right : ∀ (l : List Int) (x : Int), (∀ y ∈ l, rightB y = true) → rightB x = true → sumP l x = if x + l.sum ≤ 1125899906842624 then (x + l.sum, 0) else (0, 2)
  | [], x, _, hx => by
    have := rightB_iff.1 hx
    simp [sumP, this.2]
  | y :: ys, x, h, hx => by
    have h1 := rightB_iff.1 hx
    have h2 := rightB_iff.1 (h y (by simp))
    have h3 := sum_nonneg (l := ys) fun z hz => h z (by simp [hz])
    have hw : IntKind.i64.wrap (x + y) = x + y := wrap_id (by omega) (by omega)
    have ha : addP x y = if rightB (x + y) = true then (x + y, 0) else (0, 2) := by
      unfold addP
      rw [hw, hx, h y (by simp)]
      simp
    rw [sumP, ha, List.sum_cons]
    by_cases hr : rightB (x + y) = true
    · rw [if_pos hr]
      simp only [bne_self_eq_false, Bool.false_eq_true, if_false]
      rw [sumP_right ys (x + y) (fun z hz => h z (by simp [hz])) hr, Int.add_assoc]
    · rw [if_neg hr]
      have : ¬ (x + (y + ys.sum) ≤ 1125899906842624) := by
        intro hle
        exact hr (rightB_iff.2 ⟨by omega, by omega⟩)
      simp [this]

theorem addsP_rev (x1 x2 : Int) (l : List Int) : addsP x1 x2 l.reverse = addsP x1 x2 l := by
  unfold addsP
  simp only [List.length_reverse, List.any_reverse]
  by_cases ha : (l.any fun y => !rightB y) = true
  · simp [ha]
  · have hall : ∀ y ∈ l, rightB y = true := by
      intro y hy
      cases hr : rightB y with
      | true => rfl
      | false => exact absurd (List.any_eq_true.2 ⟨y, hy, by simp [hr]⟩) ha
    have e : sumP l.reverse 0 = sumP l 0 := by
      rw [sumP_right l 0 hall (by decide), sumP_right l.reverse 0 (fun y hy => hall y (by simpa using hy)) (by decide), List.sum_reverse]
    rw [e]

theorem closeOrder_l1 (x1 : Int) (l : List Int) (hl : l.length ≤ 8) : ∀ (k : Nat) (acc : List Int) (i : Int), -1 ≤ i → i < (l.length : Int) → i + 1 < k → acc.length + (i + 1).toNat ≤ 8 →
    acc ++ (l.take (i + 1).toNat).reverse = l.reverse → F.baizelaw35_CloseOrder.l1 x1 l k acc i = some true := by
  intro k
  induction k with
  | zero => intro acc i h0 h1 h2 h3 h4; omega
  | succ k ih =>
    intro acc i h0 h1 h2 h3 h4
    have hm : maxLen = 9223372036854775807 := rfl
    unfold F.baizelaw35_CloseOrder.l1
    by_cases hi : i ≥ 0
    · have hlen : acc.length + 1 ≤ 17592186044416 := by omega
      simp only [hi, h1, decide_true, if_true, and_self, List.length_singleton, hlen]
      rw [wrap_id (by omega) (by omega)]
      refine ih _ _ (by omega) (by omega) (by omega) (by simp; omega) ?_
      rw [← h4, List.append_assoc]
      congr 1
      have e : (i + 1).toNat = (i - 1 + 1).toNat + 1 := by omega
      have hlt : (i - 1 + 1).toNat < l.length := by omega
      rw [e, List.take_add_one, List.getElem?_eq_getElem hlt]
      simp only [Option.toList_some, List.reverse_append, List.reverse_cons, List.reverse_nil, List.nil_append]
      congr 2
      unfold getI
      rw [List.getD_eq_getElem?_getD, show i.toNat = (i - 1 + 1).toNat by omega, List.getElem?_eq_getElem hlt]
      rfl
    · have e : (i + 1).toNat = 0 := by omega
      rw [e] at h4
      simp only [List.take_zero, List.reverse_nil, List.append_nil] at h4
      subst h4
      simp only [hi, decide_false, Bool.false_eq_true, if_false, close_Adds_eq _ _ l (by omega), close_Adds_eq _ _ l.reverse (by simp; omega), Option.bind_some, addsP_rev, beq_self_eq_true, if_true, told_ok, F.baizelaw35_CloseOrder.c1]

theorem law_CloseOrder (x1 : Int) (l : List Int) (w0 : (Lit.int .i64 x1).wf = true) (w1 : l.length ≤ maxLen ∧ ∀ y ∈ l, (Lit.int .i64 y).wf = true) : F.baizelaw35_CloseOrder x1 l = some true := by
  unfold F.baizelaw35_CloseOrder
  by_cases h : (l.length : Int) > 8
  · simp [h, told_ok]
  · simp only [h, decide_false, Bool.false_eq_true, if_false]
    rw [wrap_id (by omega) (by omega)]
    refine closeOrder_l1 x1 l (by omega) fuel [] _ (by omega) (by omega) (by rw [fuel_eq]; omega) (by simp; omega) ?_
    rw [show ((l.length : Int) - 1 + 1).toNat = l.length by omega]
    simp
end Go.Proofs.Ytahpmlekenbafaa
