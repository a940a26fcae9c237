/-
  The plain law of PurseThere: what is told of a purse is read as it was, and what is read, told again, is the same bytes.
-/
import Derived.Test.YticlfbpmfejdoaaPurseCodec
import Derived.Test.YticlfbpmfejdoaaPurseSame
namespace Go.Proofs.Yticlfbpmfejdoaa
open Go.Lab
set_option maxRecDepth 10000

theorem there_c3 : F.baizelaw47_PurseThere.c3 = some true := by
  unfold F.baizelaw47_PurseThere.c3; rw [told_true]; rfl

theorem there_c2 {b : List Int} (hb : Byts b) (hl : b.length ≤ 1000) : F.baizelaw47_PurseThere.c2 b = some true := by
  unfold F.baizelaw47_PurseThere.c2
  rw [pDecode_eq hb (by omega), Option.bind_some]
  have hd := @allP_dec b hb
  generalize decP b = q at hd ⊢
  obtain ⟨q1, q2, q3, q4, q5⟩ := q
  simp only [] at hd ⊢
  by_cases h : q5 = 0
  · obtain ⟨ha, hc⟩ := hd h
    have h16 := (chk_ok hc).2.2.2.1
    have hE : F.purse_Purse_Encode q1 q2 q3 q4 = some (allP q1 q2 q3 q4, 0) := by rw [pEncode_eq _ _ _ (by omega), if_neg (by simpa using hc)]
    rw [if_pos (by simpa using h), hE, Option.bind_some]
    simp only []
    rw [if_neg (by simp), ha]
    unfold F.baizelaw47_PurseThere.c4
    rw [if_neg (by simp), there_c3]
  · rw [if_neg (by simpa using h), there_c3]

theorem law_PurseThere (y0 : S_baizeref47_Purse) (l1 : (List Int)) (w0 : wf_S_baizeref47_Purse y0) (w1 : (l1.length ≤ maxLen ∧ ∀ y ∈ l1, (Lit.int .u8 y).wf = true)) : F.baizelaw47_PurseThere y0.f1 y0.f2 y0.f3 y0.f4 l1 = some true := by
  have ct : ∀ d1 x1 d2 l l2, F.baizelaw47_PurseThere.c1 d1 x1 d2 l l2 true = some true := by
    intros; unfold F.baizelaw47_PurseThere.c1; rw [if_pos rfl, told_true]; rfl
  have hb1 : Byts y0.f1.1 := byts_wf w0.1
  have hbl : Byts l1 := byts_wf w1.2
  have hbh : ∀ h ∈ y0.f4.map own1, Byts h.f1.1 := by
    intro h hh
    obtain ⟨z, hz, rfl⟩ := List.mem_map.1 hh
    exact byts_wf (w0.2.2.2.2 z hz).1
  unfold F.baizelaw47_PurseThere F.baizelaw47_great
  rw [Option.bind_some]
  by_cases hg : y0.f4.length > 40
  · rw [if_pos (by simp; omega)]; exact ct ..
  rw [if_neg (by simp; omega)]
  by_cases hn : l1.length > 1000
  · rw [decide_eq_true (by omega)]; exact ct ..
  rw [decide_eq_false (by omega)]
  have hm : (y0.f4.map own1).length ≤ 40 := by rw [List.length_map]; omega
  unfold F.baizelaw47_PurseThere.c1
  rw [if_neg (by simp), Own_eq _ _ _ (by omega), Option.bind_some]
  simp only []
  have hE := pEncode_eq y0.f1 y0.f2 y0.f3 hm
  by_cases h : chk y0.f2 y0.f3 (y0.f4.map own1) = 0
  · rw [if_neg (by simpa using h)] at hE
    rw [hE, Option.bind_some]
    simp only []
    have hla := allP_len y0.f1 y0.f2 y0.f3 (y0.f4.map own1)
    rw [if_pos (by decide), pDecode_eq (allP_byts _ _ hb1 hbh) (by omega), Option.bind_some, decP_all _ h]
    simp only []
    rw [if_neg (by decide), pSame_eq _ _ _ _ _ _ _ (by omega), Option.bind_some, if_neg (by simp), pDigest_eq _ _ hm hb1 hbh, Option.bind_some, Option.bind_some]
    unfold F.baizelaw47_PurseThere.c5
    rw [if_neg (by simp)]
    exact there_c2 hbl (by omega)
  · rw [if_pos h] at hE
    rw [hE, Option.bind_some]
    simp only []
    rw [if_neg (by simpa using h)]
    exact there_c2 hbl (by omega)
end Go.Proofs.Yticlfbpmfejdoaa
