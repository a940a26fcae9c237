/-
  The law StateReads: what is read of a signed state is what the document reads, and told again it's the same bytes.
-/
import Derived.Test.YthfmgobnanifnaaStateBack
namespace Go.Proofs.Ythfmgobnanifnaa
open Go.Lab
set_option maxRecDepth 10000

theorem told_reads : F.baizelaw32_told = some true := by kernel_rfl

theorem badS_of {B : List Int} (h : (decS B).2.2.2.2 ≠ 0) : decS B = badS (decS B).2.2.2.2 := by
  have hf : ∀ d n b acc q, (finS d n b acc q).2.2.2.2 ≠ 0 → finS d n b acc q = badS (finS d n b acc q).2.2.2.2 := by
    intro d n b acc q hh
    unfold finS at hh ⊢
    split
    · rfl
    · rename_i hx
      rw [if_neg hx] at hh
      exact absurd rfl hh
  unfold decS at h ⊢
  split
  · rfl
  rename_i c1; rw [if_neg c1] at h
  split
  · rfl
  rename_i c2; rw [if_neg c2] at h
  split
  · rfl
  rename_i c3; rw [if_neg c3] at h
  split
  · rfl
  rename_i c4; rw [if_neg c4] at h
  split
  · rfl
  rename_i c5; rw [if_neg c5] at h
  split
  · rfl
  rename_i c6; rw [if_neg c6] at h
  exact hf _ _ _ _ _ h

theorem law_StateReads (l0 : (List Int)) (w0 : (l0.length ≤ maxLen ∧ ∀ y ∈ l0, (Lit.int .u8 y).wf = true)) : F.baizelaw32_StateReads l0 = some true := by
  have hb := (byts_wf w0.2).take 5000
  have hl : (l0.take 5000).length ≤ 140737488355328 := by rw [List.length_take]; omega
  have hD := Decode_eq hb hl
  have hR := RefDecode_eq hb hl
  have hg := decS_good hb
  have hbad := badS_of (B := l0.take 5000)
  generalize decS (l0.take 5000) = q at hD hR hg hbad
  obtain ⟨d, n, b, s, e⟩ := q
  simp only [] at hg hbad
  unfold F.baizelaw32_StateReads
  rw [few_eq, Option.bind_some, hD, Option.bind_some]
  simp only []
  rw [hR, Option.bind_some]
  simp only []
  by_cases he : e = 0
  · obtain ⟨g1, g2, g3, g4, g5⟩ := hg he
    simp only [] at g1 g2 g3 g4 g5
    obtain ⟨hn, g6, g7, g8, g9⟩ := may_ok g1
    subst he
    have hE := Encode_eq d n b (s := s) (by omega)
    rw [if_pos g1, ← g2] at hE
    rw [plain_eq d n b (by omega), Option.bind_some]
    simp only []
    rw [told_reads, Option.bind_some, if_neg (by decide), if_neg (by decide), List.take_of_length_le (by omega), cutG_id (by omega) (fun z hz => by have := g9 z hz; omega), rSame_eq d n d n g4 g4 (by omega) g5 g5, Option.bind_some, decide_eq_true ⟨⟨rfl, rfl, rfl⟩, rfl⟩]
    unfold F.baizelaw32_StateReads.c1 F.baizelaw32_StateReads.c2
    rw [if_neg (by decide), if_neg (by decide), hE, Option.bind_some]
    simp
  · have hq := hbad he
    unfold badS at hq
    simp only [Prod.mk.injEq] at hq
    obtain ⟨rfl, rfl, rfl, rfl, _⟩ := hq
    rw [plain_eq (zA 8) 0 [] (by decide), Option.bind_some]
    simp only []
    rw [told_reads, Option.bind_some, if_neg (by decide), if_neg (by simp), List.take_of_length_le (by decide), cutG_id (by decide) (fun z hz => by simp at hz), rSame_eq (zA 8) 0 (zA 8) 0 (fun z hz => by simp at hz) (fun z hz => by simp at hz) (by decide) (fun z hz => by simp at hz) (fun z hz => by simp at hz), Option.bind_some, decide_eq_true ⟨⟨rfl, rfl, rfl⟩, rfl⟩]
    unfold F.baizelaw32_StateReads.c1
    rw [if_neg (by decide), if_pos (by simpa using he)]
end Go.Proofs.Ythfmgobnanifnaa
