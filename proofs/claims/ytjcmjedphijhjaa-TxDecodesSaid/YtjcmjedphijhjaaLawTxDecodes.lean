/-
  The plain law of TxDecodes: the transaction of any bytes is the document's; what is decoded is encoded as just these bytes.
-/
import Derived.Test.YtjcmjedphijhjaaTxSames
namespace Go.Proofs.Ytjcmjedphijhjaa
open Go.Lab

theorem law_TxDecodes (l0 : (List Int)) (w0 : (l0.length ≤ maxLen ∧ ∀ y ∈ l0, (Lit.int .u8 y).wf = true)) : F.baizelaw25_TxDecodes l0 = some true := by
  have hb : Byts (l0.take 600) := (byts_wf w0.2).take 600
  have hl : (l0.take 600).length ≤ 600 := by rw [List.length_take]; omega
  have hc : sliceI l0 0 (imin (l0.length : Int) 600) = l0.take 600 := cut_list (l := l0) 600
  unfold F.baizelaw25_TxDecodes
  rw [if_pos (by rw [imin_eq]; split <;> omega), hc, Decode_eq hb (by omega), Decode_ref hb (by omega), Option.bind_some]
  have hall := all_dec hb
  have hsz : ∀ d x1 x2 x3 l1 l2 e, dec (l0.take 600) = (d, x1, x2, x3, l1, l2, e) → e = 0 → l1.length ≤ 600 ∧ l2.length ≤ 600 := by
    intro d x1 x2 x3 l1 l2 e h he
    rw [h] at hall
    have h5 := (hall he).1
    simp only [] at h5
    have : (allB d x1 x2 x3 l1 l2).length ≤ 600 := by rw [h5]; exact hl
    unfold allB at this
    simp only [List.length_append] at this
    omega
  have hsz2 := @dec_bad (l0.take 600)
  generalize dec (l0.take 600) = q at hall hsz hsz2 ⊢
  obtain ⟨d, x1, x2, x3, l1, l2, e⟩ := q
  simp only [] at hall hsz hsz2 ⊢
  rw [Option.bind_some]
  simp only []
  rw [if_neg (by simp)]
  unfold F.baizelaw25_Of
  rw [Option.bind_some]
  have hlens : l1.length ≤ 600 ∧ l2.length ≤ 600 := by
    by_cases he : e = 0
    · exact hsz d x1 x2 x3 l1 l2 e rfl he
    · obtain ⟨a, b⟩ := hsz2 he; subst a b; simp
  simp only []
  rw [refSame_eq _ _ _ _ _ _ _ _ _ _ (by omega) (by omega), Option.bind_some, decide_eq_true ⟨rfl, rfl, rfl, rfl, rfl, rfl⟩]
  unfold F.baizelaw25_TxDecodes.c1
  rw [if_neg (by simp), known_true, hc]
  by_cases he : e = 0
  case neg => rw [if_pos (by simpa using he)]; rfl
  obtain ⟨h1, h2, h3, h4, h5⟩ := hall he
  rw [if_neg (by simpa using he), Encode_eq h3 _ _ _ h4 (by omega), Option.bind_some, if_neg (by simpa using h2)]
  simp only [Option.bind_some]
  unfold F.baizelaw25_TxDecodes.c2
  rw [if_pos trivial, if_pos (by rfl), h1, Same_eq (by omega), Option.bind_some]
  simp
end Go.Proofs.Ytjcmjedphijhjaa
