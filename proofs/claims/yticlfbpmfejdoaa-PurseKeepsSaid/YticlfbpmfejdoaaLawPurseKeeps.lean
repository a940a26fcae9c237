/-
  The plain law of PurseKeeps: the total stays, whatever is done, and the number is one more each time; what is refused tells nothing.
-/
import Derived.Test.YticlfbpmfejdoaaPurseKeep
namespace Go.Proofs.Yticlfbpmfejdoaa
open Go.Lab
set_option maxRecDepth 10000

/-- A purse's total, as it is told. -/
def told1 (x1 : Int) (d2 : Arr Int 2) (l : List S_purse_Held) : Int := if chk x1 d2 l ≠ 0 then 0 else (sumR (d2.1 ++ l.map (·.f2))).1

theorem told1_ok {x1 : Int} {d2 : Arr Int 2} {l : List S_purse_Held} (h : Ok x1 d2 l) : told1 x1 d2 l = tot d2 l := by
  have hc := chk_iff.2 h
  unfold told1
  rw [if_neg (by simpa using hc), (chk_ok hc).2.2.2.2.2.2.1]
  rfl

theorem keeps_l1 (l2 : List S_baizelaw47_Deed) (hl2 : l2.length ≤ 40) (t : Int) : ∀ (k i : Nat) (d1 : Arr Int 8) (x1 : Int) (d2 : Arr Int 2) (l : List S_purse_Held), l2.length - i < k → l.length ≤ 40 → told1 x1 d2 l = t →
    F.baizelaw47_PurseKeeps.l1 l2 t k d1 x1 d2 l (i : Int) = some true := by
  intro k
  induction k with
  | zero => exact fun i d1 x1 d2 l h _ _ => absurd h (by omega)
  | succ k ih =>
    intro i d1 x1 d2 l hk hl ht
    unfold F.baizelaw47_PurseKeeps.l1
    by_cases h : i < l2.length
    · have hw : IntKind.i64.wrap ((i : Int) + 1) = ((i + 1 : Nat) : Int) := by rw [wrap_id (by omega) (by omega)]; omega
      rw [if_pos (by simpa using h), if_pos (by omega), do_eq _ _ _ hl, Option.bind_some]
      generalize getI l2 (i : Int) = y
      have hq := deed_keeps d1 x1 d2 l (y.f1.tmod 4) y.f2 y.f3 y.f4 y.f5 _ rfl
      generalize deed d1 x1 d2 l (y.f1.tmod 4) y.f2 y.f3 y.f4 y.f5 = q at hq ⊢
      rcases hq with ⟨he, hz⟩ | ⟨hok, h1, h2, h3, h4, h5⟩
      · generalize q.2.2.2.2 = e at he hz
        subst hz
        unfold zr
        simp only []
        rw [if_pos (by simpa using he), pSame_eq _ _ _ _ _ _ _ (by simp), Option.bind_some, decide_eq_true ⟨rfl, rfl, rfl, rfl⟩, if_neg (by simp)]
        unfold F.baizelaw47_PurseKeeps.c2
        rw [hw]
        exact ih (i + 1) d1 x1 d2 l (by omega) hl ht
      · obtain ⟨e1, e2, e3, e4, e5⟩ := q
        simp only [] at h1 h2 h3 h4 h5 ⊢
        subst h1 h2 h3
        have hlen : e4.length ≤ 40 := by have := h4.2.2.2.1; omega
        have hnum := h4.1
        have htt : tot e3 e4 = t := by rw [h5, ← told1_ok hok, ht]
        rw [if_neg (by simp), Total_tot _ h4, Option.bind_some, htt, if_neg (by simp), wrap_id (x := x1 + 1) (by omega) (by omega), if_neg (by simp), Check_eq _ _ _ hlen, Option.bind_some, chk_iff.2 h4, if_neg (by simp)]
        unfold F.baizelaw47_PurseKeeps.c3 F.baizelaw47_PurseKeeps.c2
        rw [if_neg (by simp), hw]
        exact ih (i + 1) e1 (x1 + 1) e3 e4 (by omega) hlen (by rw [told1_ok h4, htt])
    · rw [if_neg (by simpa using h), told_true]; rfl

theorem law_PurseKeeps (y0 : S_baizeref47_Purse) (l1 : (List S_baizelaw47_Deed)) (w0 : wf_S_baizeref47_Purse y0) (w1 : (l1.length ≤ maxLen ∧ ∀ y ∈ l1, wf_S_baizelaw47_Deed y)) : F.baizelaw47_PurseKeeps y0.f1 y0.f2 y0.f3 y0.f4 l1 = some true := by
  have ct : ∀ d1 x1 d2 l l2, F.baizelaw47_PurseKeeps.c1 d1 x1 d2 l l2 true = some true := by
    intros; unfold F.baizelaw47_PurseKeeps.c1; rw [if_pos rfl, told_true]; rfl
  unfold F.baizelaw47_PurseKeeps F.baizelaw47_great
  rw [Option.bind_some]
  by_cases hg : y0.f4.length > 40
  · rw [if_pos (by simp; omega)]; exact ct ..
  rw [if_neg (by simp; omega)]
  by_cases hn : l1.length > 40
  · rw [decide_eq_true (by omega)]; exact ct ..
  rw [decide_eq_false (by omega)]
  unfold F.baizelaw47_PurseKeeps.c1
  have hl : (y0.f4.map own1).length ≤ 40 := by rw [List.length_map]; omega
  rw [if_neg (by simp), Own_eq _ _ _ (by omega), Option.bind_some]
  simp only []
  rw [Total_eq _ _ _ hl, Option.bind_some]
  exact keeps_l1 l1 (by omega) _ fuel 0 _ _ _ _ (by rw [fuel_eq]; omega) hl rfl
end Go.Proofs.Yticlfbpmfejdoaa
