/-
  Plain facts of the transactions' functions: what Check comes to; the chapter's examples.
-/
import Derived.Test.YtjcmjedphijhjaaWTx2
import Derived.Test.YtjcmjedphijhjaaLabL
import Derived.KernelRfl
namespace Go.Proofs.Ytjcmjedphijhjaa
open Go.Lab

theorem known_true : F.baizelaw25_known = some true := by kernel_rfl

theorem in_eq (a b : Int) : F.tx_in a b = some (decide (0 ≤ a ∧ a ≤ b)) := by
  unfold F.tx_in F.tx_in.c1
  by_cases h : a ≥ 0 <;> simp [h] <;> omega

theorem chk_l1 (d : Arr Int 8) (x1 x2 x3 : Int) (l1 l2 : List Int) (k : Nat) :
    F.tx_Tx_Check.l1 d x1 x2 x3 l1 l2 [(63 : FnNo), (65 : FnNo), (66 : FnNo), (67 : FnNo), (68 : FnNo)] (k + 6) 0 =
      if (0 ≤ x1 ∧ x1 ≤ 1099511627776) ∧ (0 ≤ x2 ∧ x2 ≤ 1125899906842624) ∧ (0 ≤ x3 ∧ x3 ≤ 2) ∧ l1.length ≤ 32768 ∧ l2.length ≤ 1024 then
        (if (x3 != 0) = true then some 0 else (F.tx_Tx_Paid d x1 x2 x3 l1 l2).bind fun (d4, x10, x11) => some x11) else some 2 := by
  have w0 : IntKind.i64.wrap 1 = 1 := by decide
  have w1 : IntKind.i64.wrap 2 = 2 := by decide
  have w2 : IntKind.i64.wrap 3 = 3 := by decide
  have w3 : IntKind.i64.wrap 4 = 4 := by decide
  have w4 : IntKind.i64.wrap 5 = 5 := by decide
  have g0 : getI [(63 : FnNo), (65 : FnNo), (66 : FnNo), (67 : FnNo), (68 : FnNo)] 0 = 63 := rfl
  have g1 : getI [(63 : FnNo), (65 : FnNo), (66 : FnNo), (67 : FnNo), (68 : FnNo)] 1 = 65 := rfl
  have g2 : getI [(63 : FnNo), (65 : FnNo), (66 : FnNo), (67 : FnNo), (68 : FnNo)] 2 = 66 := rfl
  have g3 : getI [(63 : FnNo), (65 : FnNo), (66 : FnNo), (67 : FnNo), (68 : FnNo)] 3 = 67 := rfl
  have g4 : getI [(63 : FnNo), (65 : FnNo), (66 : FnNo), (67 : FnNo), (68 : FnNo)] 4 = 68 := rfl
  have d0 : F.disp_1 63 d x1 x2 x3 l1 l2 = some (decide (0 ≤ x1 ∧ x1 ≤ 1099511627776)) := by simp [F.disp_1, F.tx_limits_1, in_eq]
  have d1 : F.disp_1 65 d x1 x2 x3 l1 l2 = some (decide (0 ≤ x2 ∧ x2 ≤ 1125899906842624)) := by simp [F.disp_1, F.tx_limits_2, in_eq]
  have d2 : F.disp_1 66 d x1 x2 x3 l1 l2 = some (decide (0 ≤ x3 ∧ x3 ≤ 2)) := by simp [F.disp_1, F.tx_limits_3, in_eq]
  have d3 : F.disp_1 67 d x1 x2 x3 l1 l2 = some (decide (l1.length ≤ 32768)) := by simp [F.disp_1, F.tx_limits_4]; omega
  have d4 : F.disp_1 68 d x1 x2 x3 l1 l2 = some (decide (l2.length ≤ 1024)) := by simp [F.disp_1, F.tx_limits_5]; omega
  by_cases h0 : 0 ≤ x1 ∧ x1 ≤ 1099511627776
  case neg => rw [if_neg (fun h => h0 h.1)]; simp [F.tx_Tx_Check.l1, g0, d0, h0]
  by_cases h1 : 0 ≤ x2 ∧ x2 ≤ 1125899906842624
  case neg => rw [if_neg (fun h => h1 h.2.1)]; simp [F.tx_Tx_Check.l1, g0, g1, d0, d1, h0, h1, w0]
  by_cases h2 : 0 ≤ x3 ∧ x3 ≤ 2
  case neg => rw [if_neg (fun h => h2 h.2.2.1)]; simp [F.tx_Tx_Check.l1, g0, g1, g2, d0, d1, d2, h0, h1, h2, w0, w1]
  by_cases h3 : l1.length ≤ 32768
  case neg => rw [if_neg (fun h => h3 h.2.2.2.1)]; simp [F.tx_Tx_Check.l1, g0, g1, g2, g3, d0, d1, d2, d3, h0, h1, h2, h3, w0, w1, w2]
  by_cases h4 : l2.length ≤ 1024
  case neg => rw [if_neg (fun h => h4 h.2.2.2.2)]; simp [F.tx_Tx_Check.l1, g0, g1, g2, g3, g4, d0, d1, d2, d3, d4, h0, h1, h2, h3, h4, w0, w1, w2, w3]
  rw [if_pos ⟨h0, h1, h2, h3, h4⟩]
  simp [F.tx_Tx_Check.l1, g0, g1, g2, g3, g4, d0, d1, d2, d3, d4, h0, h1, h2, h3, h4, w0, w1, w2, w3, w4]

theorem check_eq (d : Arr Int 8) (x1 x2 x3 : Int) (l1 l2 : List Int) :
    F.tx_Tx_Check d x1 x2 x3 l1 l2 =
      if (0 ≤ x1 ∧ x1 ≤ 1099511627776) ∧ (0 ≤ x2 ∧ x2 ≤ 1125899906842624) ∧ (0 ≤ x3 ∧ x3 ≤ 2) ∧ l1.length ≤ 32768 ∧ l2.length ≤ 1024 then
        (if (x3 != 0) = true then some 0 else (F.tx_Tx_Paid d x1 x2 x3 l1 l2).bind fun (d4, x10, x11) => some x11) else some 2 := by
  unfold F.tx_Tx_Check F.tx_limits
  simp only [Option.bind_some]
  rw [show fuel = 9223372036854775802 + 6 from rfl]
  exact chk_l1 d x1 x2 x3 l1 l2 _
end Go.Proofs.Ytjcmjedphijhjaa
