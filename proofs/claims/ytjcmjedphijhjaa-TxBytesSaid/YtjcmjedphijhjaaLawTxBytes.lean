/-
  The plain law of TxBytes: whether any transaction may be, and its bytes, are the document's; it is decoded as it was.
-/
import Derived.Test.YtjcmjedphijhjaaWTx5
import Derived.Test.YtjcmjedphijhjaaTxSames
namespace Go.Proofs.Ytjcmjedphijhjaa
open Go.Lab

theorem ref_Bytes1_eq {x : List Int} (hl : x.length ≤ 140737488350000) : F.baizeref01_Bytes x = some (encN (x.length : Int) ++ x) := by
  have hw : IntKind.u64.wrap (x.length : Int) = (x.length : Int) := by rw [wrap_u64]; omega
  have h10 := encN_len (x.length : Int)
  unfold F.baizeref01_Bytes
  rw [hw, ref_Num_eq (by omega) (by omega), Option.bind_some, if_pos (by omega)]

theorem ref_Bytes_eq {d : Arr Int 8} (hb : Byts d.1) {x1 x2 x3 : Int} {l1 l2 : List Int} (h : chkT x1 x2 x3 l1 l2 = 0) : F.baizeref25_Bytes d x1 x2 x3 l1 l2 = some (allB d x1 x2 x3 l1 l2) := by
  obtain ⟨b1, b2, b3, b4, b5⟩ := chkT_ok h
  have hv := val256_8 hb
  have w1 : IntKind.u64.wrap x1 = x1 := by rw [wrap_u64]; omega
  have w2 : IntKind.u64.wrap x2 = x2 := by rw [wrap_u64]; omega
  have w3 : IntKind.u64.wrap x3 = x3 := by rw [wrap_u64]; omega
  have n1 := encN_len x1
  have n2 := encN_len x2
  have n3 := encN_len x3
  have n4 := encN_len (val256 d.1)
  have n5 := encN_len (l1.length : Int)
  have n6 := encN_len (l2.length : Int)
  unfold F.baizeref25_Bytes F.baizeref25_head
  rw [w1, w2, w3, ref_Num_eq b3.1 (by omega), Option.bind_some, ref_Num2_eq hb, Option.bind_some, ref_Num_eq hv.1 hv.2, Option.bind_some, if_pos (by omega), ref_Num_eq b1.1 (by omega), Option.bind_some,
    if_pos (by simp; omega), ref_Num_eq b2.1 (by omega), Option.bind_some, if_pos (by simp; omega), ref_Bytes1_eq (by omega), Option.bind_some, if_pos (by simp; omega), Option.bind_some, ref_Bytes1_eq (by omega), Option.bind_some,
    if_pos (by simp; omega)]
  simp only [allB, List.append_assoc, List.append_nil]

theorem law_TxBytes (y0 : S_tx_Tx) (w0 : wf_S_tx_Tx y0) : F.baizelaw25_TxBytes y0.f1 y0.f2 y0.f3 y0.f4 y0.f5 y0.f6 = some true := by
  have hd : Byts y0.f1.1 := byts_wf w0.1
  have h5 : Byts (y0.f5.take 400) := (byts_wf w0.2.2.2.2.1.2).take 400
  have h6 : Byts (y0.f6.take 1100) := (byts_wf w0.2.2.2.2.2.2).take 1100
  have k5 : (y0.f5.take 400).length ≤ 400 := by rw [List.length_take]; omega
  have k6 : (y0.f6.take 1100).length ≤ 1100 := by rw [List.length_take]; omega
  unfold F.baizelaw25_TxBytes
  rw [Cut_eq]
  unfold F.baizelaw25_Of
  simp only [Option.bind_some]
  generalize y0.f5.take 400 = p5 at *
  generalize y0.f6.take 1100 = p6 at *
  rw [Check_ref _ _ _ _ _ h5 (by omega), Option.bind_some, Encode_eq hd _ _ _ h5 (by omega), Option.bind_some, Check_tx _ _ _ _ _ h5 (by omega), Option.bind_some, if_neg (by simp)]
  by_cases c0 : chkT y0.f2 y0.f3 y0.f4 p5 p6 = 0
  case neg =>
    rw [if_pos c0]
    simp only []
    unfold F.baizelaw25_TxBytes.c1 F.baizelaw25_TxBytes.c2
    rw [if_neg (by simp), if_pos (by simpa using c0), known_true]
    rfl
  rw [if_neg (show ¬ (chkT y0.f2 y0.f3 y0.f4 p5 p6 ≠ 0) by simpa using c0), c0]
  simp only []
  have hle := allB_len y0.f1 y0.f2 y0.f3 y0.f4 p5 p6
  have hby := allB_byts y0.f1 y0.f2 y0.f3 y0.f4 h5 h6
  unfold F.baizelaw25_TxBytes.c1 F.baizelaw25_Of
  rw [if_neg (by simp), if_neg (by simp), Decode_eq hby (by omega), Option.bind_some, dec_all hd c0, known_true]
  simp only [Option.bind_some, if_true]
  rw [ref_Bytes_eq hd c0, Option.bind_some, Same_eq (by omega), Option.bind_some, decide_eq_true rfl, if_pos rfl, if_pos (by rfl), txSame_eq _ _ _ _ _ _ _ _ h5 h6 h5 h6, Option.bind_some, decide_eq_true ⟨rfl, rfl, rfl, rfl, rfl, rfl⟩,
    if_pos rfl, refSame_eq _ _ _ _ _ _ _ _ _ _ (by omega) (by omega), Option.bind_some, decide_eq_true ⟨rfl, rfl, rfl, rfl, rfl, rfl⟩]
  rfl
end Go.Proofs.Ytjcmjedphijhjaa
