/-
  The plain law of PurseActs: whatever is done with any purse, one deed behind the other, is as the document says.
-/
import Derived.Test.YticlfbpmfejdoaaPurseDeeds3
namespace Go.Proofs.Yticlfbpmfejdoaa
open Go.Lab
set_option maxRecDepth 10000

theorem acts_l1 (l2 : List S_baizelaw47_Deed) (hl2 : l2.length ≤ 40) : ∀ (k i : Nat) (d1 : Arr Int 8) (x1 : Int) (d2 : Arr Int 2) (r : List S_baizeref47_Held), l2.length - i < k → r.length ≤ 40 →
    F.baizelaw47_PurseActs.l1 l2 k d1 x1 d2 r d1 x1 d2 (r.map own1) (i : Int) = some true
  | k + 1, i, d1, x1, d2, r, hk, hr => by
    unfold F.baizelaw47_PurseActs.l1
    by_cases h : i < l2.length
    · have hw : IntKind.i64.wrap ((i : Int) + 1) = ((i + 1 : Nat) : Int) := by rw [wrap_id (by omega) (by omega)]; omega
      rw [if_pos (by simpa using h), if_pos (by omega), do_eq _ _ _ (by rw [List.length_map]; exact hr), Option.bind_some]
      generalize getI l2 (i : Int) = y
      have hlen := deed_len d1 x1 d2 (l := r.map own1) (y.f1.tmod 4) y.f2 y.f3 y.f4 y.f5
      rw [want_eq _ _ _ hr]
      generalize deed d1 x1 d2 (r.map own1) (y.f1.tmod 4) y.f2 y.f3 y.f4 y.f5 = q at hlen ⊢
      obtain ⟨e1, e2, e3, e4, e5⟩ := q
      simp only [rconv] at hlen ⊢
      rw [if_pos (by omega), Option.bind_some]
      simp only [bne_self_eq_false, Bool.false_eq_true, if_false]
      rw [Back_eq _ _ _ (by omega), Option.bind_some]
      simp only []
      rw [rSame_refl _ _ _ (by rw [List.length_map]; omega), Option.bind_some]
      unfold F.baizelaw47_PurseActs.c3 F.baizelaw47_PurseActs.c2
      rw [if_neg (by simp), hw]
      by_cases he : e5 = 0
      · rw [if_pos (by simpa using he)]
        have := acts_l1 l2 hl2 k (i + 1) e1 e2 e3 (e4.map own2) (by omega) (by rw [List.length_map]; omega)
        rw [map12] at this
        exact this
      · rw [if_neg (by simpa using he)]
        exact acts_l1 l2 hl2 k (i + 1) d1 x1 d2 r (by omega) hr
    · rw [if_neg (by simpa using h), told_true]; rfl

theorem law_PurseActs (y0 : S_baizeref47_Purse) (l1 : (List S_baizelaw47_Deed)) (w0 : wf_S_baizeref47_Purse y0) (w1 : (l1.length ≤ maxLen ∧ ∀ y ∈ l1, wf_S_baizelaw47_Deed y)) : F.baizelaw47_PurseActs y0.f1 y0.f2 y0.f3 y0.f4 l1 = some true := by
  have ct : ∀ d1 x1 d2 l l2, F.baizelaw47_PurseActs.c1 d1 x1 d2 l l2 true = some true := by
    intros; unfold F.baizelaw47_PurseActs.c1; rw [if_pos rfl, told_true]; rfl
  unfold F.baizelaw47_PurseActs F.baizelaw47_great
  rw [Option.bind_some]
  by_cases hg : y0.f4.length > 40
  · rw [if_pos (by simp; omega)]; exact ct ..
  rw [if_neg (by simp; omega)]
  by_cases hn : l1.length > 40
  · rw [decide_eq_true (by omega)]; exact ct ..
  rw [decide_eq_false (by omega)]
  unfold F.baizelaw47_PurseActs.c1
  rw [if_neg (by simp), Own_eq _ _ _ (by omega), Option.bind_some]
  exact acts_l1 l1 (by omega) fuel 0 _ _ _ _ (by rw [fuel_eq]; omega) (by omega)
end Go.Proofs.Yticlfbpmfejdoaa
