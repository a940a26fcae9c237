/-
  Plain facts of reading: the document's reader is as far as the program's.
-/
import Derived.Test.YthfmgobnanifnaaNumP
import Derived.Test.YthfmgobnanifnaaNumR
namespace Go.Proofs.Ythfmgobnanifnaa
open Go.Lab
set_option maxRecDepth 10000

/-- What is wrong in the end. -/
def endX (l : List Int) (e : Int) : Int := if e ≠ 0 then e else if l.length > 0 then 5 else 0
def Far (B l : List Int) (e a : Int) : Prop := ∃ m : Nat, m ≤ B.length ∧ a = (m : Int) ∧ (e = 0 → l = B.drop m)

theorem rd_keep {l : List Int} {e : Int} (he : e ≠ 0) (most : Int) : rd l e most = (0, l, e) := by unfold rd; rw [if_pos he]
theorem rdB_keep {l : List Int} {e : Int} (he : e ≠ 0) (most : Int) : rdB l e most = ([], l, e) := by unfold rdB; rw [if_pos he]

theorem far_drop {B l : List Int} {m j : Nat} (hm : m ≤ B.length) (hl : l = B.drop m) (hj : j ≤ l.length) : (B.length : Int) - ((l.drop j).length : Int) = ((m + j : Nat) : Int) ∧ m + j ≤ B.length ∧ l.drop j = B.drop (m + j) := by
  subst hl
  rw [List.drop_drop, List.length_drop]
  rw [List.length_drop] at hj
  refine ⟨by omega, by omega, rfl⟩

theorem rread_step {B l : List Int} {e a : Int} (hb : Byts B) (hl : B.length ≤ 140737488355328) (h : Far B l e a) (most : Int) :
    ∃ a2 n2, F.baizeref01_Read B a e most = some (B, a2, (rd l e most).2.2, n2) ∧ Far B (rd l e most).2.1 (rd l e most).2.2 a2 ∧ ((rd l e most).2.2 = 0 → n2 = (rd l e most).1) := by
  obtain ⟨m, hm, rfl, hd⟩ := h
  rw [ref_Read_eq hb (by omega) hm]
  by_cases hz : e = 0
  · subst hz
    have hl2 := hd rfl
    rw [← hl2]
    obtain ⟨j, hj, hq⟩ := rd_left l 0 most
    obtain ⟨f1, f2, f3⟩ := far_drop hm hl2 hj
    rw [hq]
    exact ⟨_, _, rfl, ⟨m + j, f2, f1, fun _ => f3⟩, fun _ => rfl⟩
  · rw [rd_keep hz, rd_keep hz]
    refine ⟨_, _, rfl, ⟨m, hm, ?_, fun q => absurd q hz⟩, fun q => absurd q hz⟩
    simp only []
    rw [List.length_drop]; omega

theorem rsome_step {B l : List Int} {e a : Int} (hb : Byts B) (hl : B.length ≤ 140737488355328) (h : Far B l e a) {most : Int} (h0 : 0 ≤ most) (h1 : most ≤ 9223372036854775000) :
    ∃ a2 x2, F.baizeref01_Some B a e most = some (B, a2, (rdB l e most).2.2, x2) ∧ Far B (rdB l e most).2.1 (rdB l e most).2.2 a2 ∧ ((rdB l e most).2.2 = 0 → x2 = (rdB l e most).1) := by
  obtain ⟨m, hm, rfl, hd⟩ := h
  rw [ref_Some_eq hb hl hm _ h0 h1]
  by_cases hz : e = 0
  · subst hz
    have hl2 := hd rfl
    rw [← hl2]
    obtain ⟨j, hj, hq⟩ := rdB_left l 0 most
    obtain ⟨f1, f2, f3⟩ := far_drop hm hl2 hj
    rw [hq]
    exact ⟨_, _, rfl, ⟨m + j, f2, f1, fun _ => f3⟩, fun _ => rfl⟩
  · rw [rdB_keep hz, rdB_keep hz]
    refine ⟨_, _, rfl, ⟨m, hm, ?_, fun q => absurd q hz⟩, fun q => absurd q hz⟩
    simp only []
    rw [List.length_drop]; omega

theorem rend_step {B l : List Int} {e a : Int} (h : Far B l e a) : F.baizeref01_End B a e = some (endX l e) := by
  obtain ⟨m, hm, rfl, hd⟩ := h
  rw [ref_End_eq]
  unfold endX
  by_cases hz : e = 0
  · subst hz
    rw [hd rfl]
    simp only [List.length_drop]
    by_cases hc : m < B.length
    · simp [hc]; omega
    · simp [hc]; omega
  · rw [if_pos hz, if_pos hz]

theorem copy8 (d : Arr Int 8) : copyA (zA 8) d.1 = d := by
  apply Subtype.ext
  have h := d.2
  simp only [copyA]
  rw [List.take_of_length_le (by omega), List.drop_eq_nil_of_le (by simp [zA, h]), List.append_nil]

end Go.Proofs.Ythfmgobnanifnaa
