/-
  The law StateBytes: a signed state's bytes are the document's, and read again they're the same signed state.
-/
import Derived.Test.YthfmgobnanifnaaStateBack
namespace Go.Proofs.Ythfmgobnanifnaa
open Go.Lab
set_option maxRecDepth 10000

theorem told_bytes : F.baizelaw32_told = some true := by kernel_rfl

theorem law_StateBytes (y0 : S_state_Signed) (w0 : wf_S_state_Signed y0) : F.baizelaw32_StateBytes y0.f1 y0.f2 y0.f3 y0.f4 = some true := by
  obtain ⟨d, n, b0, s0⟩ := y0
  simp only []
  simp only [wf_S_state_Signed] at w0
  have hd : Byts d.1 := byts_wf w0.1.1
  have hb : Byts (b0.take 5000) := (byts_wf w0.1.2.2.2).take 5000
  have hs : ∀ z ∈ cutG s0, Byts z := cutG_byts (fun z hz => byts_wf (w0.2.2 z hz).2)
  have hl := cutG_len s0
  have hbl : (b0.take 5000).length ≤ 5000 := by rw [List.length_take]; omega
  unfold F.baizelaw32_StateBytes
  rw [plain_eq d n b0 (by have := w0.2.1; unfold maxLen at this; omega), Option.bind_some]
  simp only []
  generalize b0.take 5000 = b at hb hbl ⊢
  generalize cutG s0 = s at hs hl ⊢
  rw [Encode_eq d n b (by omega), Option.bind_some, right_eq d n b (by omega), Option.bind_some, told_bytes]
  cases hm : mayP n b s with
  | false =>
    rw [if_neg (c := false = true) (by decide)]
    simp only []
    rw [if_pos (by decide), Option.bind_some, if_pos rfl, if_pos (by decide)]
    rfl
  | true =>
    obtain ⟨hn, g6, g7, g8, g9⟩ := may_ok hm
    have hA := allS_byts (n := n) hd hb hs
    have hL := allS_len (d := d) (n := n) g6 g8 g9
    rw [if_pos (c := true = true) rfl]
    simp only []
    rw [if_neg (by decide), Decode_eq hA (by omega), decS_all d hm, Option.bind_some]
    simp only []
    rw [plain_eq d n b (by omega), Option.bind_some]
    simp only []
    rw [Option.bind_some, if_pos rfl, if_pos (by decide), rEncode_eq d hm, Option.bind_some, if_pos (by simp), if_pos (by decide), List.take_of_length_le (by omega), cutG_id (by omega) (fun z hz => by have := g9 z hz; omega),
      rSame_eq d n d n hb hb (by omega) hs hs, Option.bind_some, decide_eq_true ⟨⟨rfl, rfl, rfl⟩, rfl⟩, if_pos rfl, Same_eq d n d n b s (by omega) (by omega) (fun z hz => by have := g9 z hz; omega), Option.bind_some, decide_eq_true ⟨⟨rfl, rfl, rfl⟩, rfl⟩]
    rfl
end Go.Proofs.Ythfmgobnanifnaa
