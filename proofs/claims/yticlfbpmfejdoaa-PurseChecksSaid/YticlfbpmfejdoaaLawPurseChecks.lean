/-
  The plain law of PurseChecks: whether any purse may be, its total, what each side is paid, which are the same, what is found, and a new one, are as the document says.
-/
import Derived.Test.YticlfbpmfejdoaaPurseFew
namespace Go.Proofs.Yticlfbpmfejdoaa
open Go.Lab
set_option maxRecDepth 10000

theorem plcI_lt2 {l : List S_purse_Held} {n : List Int} (h : 0 ≤ plcI l n) : plcI l n < (l.length : Int) := by
  unfold plcI at h ⊢
  cases hp : plc l n with
  | none => rw [hp] at h; simp at h
  | some i => have := plc_lt hp; simp; omega

theorem Find_eq (d1 : Arr Int 8) (x1 : Int) (d2 : Arr Int 2) {l : List S_purse_Held} (hl : l.length ≤ 40) (d3 : Arr Int 8) :
    F.purse_Purse_Find d1 x1 d2 l d3 = some (if 0 ≤ plcI l d3.1 then ((getI l (plcI l d3.1)).f1, (getI l (plcI l d3.1)).f2, (getI l (plcI l d3.1)).f3, (getI l (plcI l d3.1)).f4, true) else (zA 8, 0, 0, 0, false)) := by
  unfold F.purse_Purse_Find
  rw [at_eq d1 x1 d2 d3 hl, Option.bind_some]
  by_cases h : 0 ≤ plcI l d3.1
  · have := plcI_lt2 h
    rw [if_neg (by simp; omega), if_pos (by omega), if_pos h]
  · rw [if_pos (by simp; omega), if_neg h]

theorem New_eq (d1 : Arr Int 8) (d2 : Arr Int 2) : F.purse_New d1 (aget d2 0) (aget d2 1) = some (if chk 0 d2 [] ≠ 0 then (zA 8, 0, zA 2, [], 2) else (d1, 0, d2, [], 0)) := by
  have h : (⟨[aget d2 0, aget d2 1], rfl⟩ : Arr Int 2) = d2 := (arr2 d2).symm
  unfold F.purse_New
  rw [h, Check_eq d1 0 d2 (by simp), Option.bind_some]
  by_cases h0 : chk 0 d2 [] = 0
  · rw [if_neg (by simpa using h0), if_neg (by simpa using h0)]
  · rw [if_pos (by simpa using h0), if_pos h0]

theorem checks_l1 (d1 : Arr Int 8) (x1 : Int) (d2 : Arr Int 2) (l1 l2 : List S_baizeref47_Held) (hl1 : l1.length ≤ 40) (hl2 : l2.length ≤ 40) : ∀ (k i : Nat), l2.length - i < k →
    F.baizelaw47_PurseChecks.l1 d1 x1 d2 l1 l2 d1 x1 d2 k (l1.map own1) (i : Int) = some true
  | k + 1, i, hk => by
    unfold F.baizelaw47_PurseChecks.l1
    by_cases h : i < l2.length
    · have hw : IntKind.i64.wrap ((i : Int) + 1) = ((i + 1 : Nat) : Int) := by rw [wrap_id (by omega) (by omega)]; omega
      have ih := checks_l1 d1 x1 d2 l1 l2 hl1 hl2 k (i + 1) (by omega)
      rw [if_pos (by simpa using h), if_pos (by omega), Find_eq _ _ _ (by rw [List.length_map]; exact hl1), Option.bind_some]
      generalize (getI l2 (i : Int)).f1 = n
      by_cases hp : 0 ≤ plcI (l1.map own1) n.1
      · have hlt := plcI_lt2 hp
        rw [if_pos hp]
        simp only []
        rw [if_pos (by omega), Place_eq _ _ _ _ hl1, Option.bind_some]
        rw [if_neg (by simp; omega), if_pos (by trivial), Own_eq _ _ _ hl1, Option.bind_some]
        simp only []
        rw [if_pos ⟨hp, hlt⟩, if_neg (by simp), if_neg (by simp)]
        unfold F.baizelaw47_PurseChecks.c3
        rw [if_neg (by simp), hw]
        exact ih
      · rw [if_neg hp]
        simp only []
        rw [if_pos (by omega), Place_eq _ _ _ _ hl1, Option.bind_some]
        rw [if_neg (by simp; omega), if_neg (by simp), if_pos (by decide)]
        unfold F.baizelaw47_PurseChecks.c3
        rw [if_neg (by simp), hw]
        exact ih
    · rw [if_neg (by simpa using h), New_eq, Option.bind_some]
      have hs : ∀ (a : Arr Int 8) (b : Int) (c : Arr Int 2), F.purse_Same a b c [] a b c [] = some true := by
        intro a b c
        rw [pSame_eq _ _ _ _ _ _ _ (by simp)]; simp
      have hc := rCheck_eq d1 0 d2 (l := []) (by simp)
      rw [List.map_nil] at hc
      by_cases h0 : chk 0 d2 [] = 0
      · rw [if_neg (by simpa using h0)]
        simp only []
        rw [hc, Option.bind_some, if_neg (by simpa using h0), if_pos (by decide), Own_eq _ _ _ (by simp), Option.bind_some, List.map_nil]
        simp only []
        rw [hs, Option.bind_some, if_pos rfl, told_true]; rfl
      · rw [if_pos h0]
        simp only []
        rw [hc, Option.bind_some, if_pos (by simpa using h0), if_pos (by decide), hs, Option.bind_some, if_pos rfl, told_true]; rfl

theorem law_PurseChecks (y0 : S_baizeref47_Purse) (y1 : S_baizeref47_Purse) (a2 : Int) (w0 : wf_S_baizeref47_Purse y0) (w1 : wf_S_baizeref47_Purse y1) (w2 : (Lit.int .i64 a2).wf = true) : F.baizelaw47_PurseChecks y0.f1 y0.f2 y0.f3 y0.f4 y1.f1 y1.f2 y1.f3 y1.f4 a2 = some true := by
  have ct : ∀ d1 x1 d2 l d3 x2 d4 l2 x3, F.baizelaw47_PurseChecks.c1 d1 x1 d2 l d3 x2 d4 l2 x3 true = some true := by
    intros; unfold F.baizelaw47_PurseChecks.c1; rw [if_pos rfl, told_true]; rfl
  unfold F.baizelaw47_PurseChecks F.baizelaw47_great
  rw [Option.bind_some]
  by_cases hg : y0.f4.length > 40
  · rw [if_pos (by simp; omega)]; exact ct ..
  rw [if_neg (by simp; omega), Option.bind_some]
  by_cases hn : y1.f4.length > 40
  · rw [decide_eq_true (by omega)]; exact ct ..
  rw [decide_eq_false (by omega)]
  have hl1 : y0.f4.length ≤ 40 := by omega
  have hl2 : y1.f4.length ≤ 40 := by omega
  have hm1 : (y0.f4.map own1).length ≤ 40 := by rw [List.length_map]; exact hl1
  unfold F.baizelaw47_PurseChecks.c1
  rw [if_neg (by simp), Own_eq _ _ _ hl1, Option.bind_some]
  simp only []
  rw [Check_eq _ _ _ hm1, Option.bind_some, rCheck_eq _ _ _ hl1, Option.bind_some, if_neg (by simp), Total_eq _ _ _ hm1, Option.bind_some, rTotal_eq _ _ _ hl1, Option.bind_some, if_neg (by simp)]
  rw [Pays_eq _ _ _ hm1, Option.bind_some, rPays_eq _ _ _ hl1, Pays_eq _ _ _ hm1, Option.bind_some, if_neg (by simp), Own_eq _ _ _ hl2, Option.bind_some]
  simp only []
  rw [pSame_eq _ _ _ _ _ _ _ (by omega), Option.bind_some, rSame_eq _ _ _ _ _ _ _ hl1, Option.bind_some]
  unfold F.baizelaw47_PurseChecks.c2
  rw [if_neg (by simp)]
  exact checks_l1 _ _ _ _ _ hl1 hl2 fuel 0 (by rw [fuel_eq]; omega)
end Go.Proofs.Yticlfbpmfejdoaa
