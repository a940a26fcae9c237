/-
  The plain law of TxPays: who gets how much is the document's; what is made is told.
-/
import Derived.Test.YtjcmjedphijhjaaTxPure
import Derived.Test.YtjcmjedphijhjaaOctetPure
namespace Go.Proofs.Ytjcmjedphijhjaa
open Go.Lab

/-- Who gets how much. -/
def paid (x3 : Int) (l : List Int) : Arr Int 8 × Int × Int :=
  if x3 ≠ 0 then (zA 8, 0, 11) else
  if (rd (rd l 0 18446744073709551615).2.1 (rd l 0 18446744073709551615).2.2 1125899906842624).2.2 ≠ 0 then
    (zA 8, 0, (rd (rd l 0 18446744073709551615).2.1 (rd l 0 18446744073709551615).2.2 1125899906842624).2.2)
  else if (rd (rd l 0 18446744073709551615).2.1 (rd l 0 18446744073709551615).2.2 1125899906842624).2.1.length > 0 then (zA 8, 0, 5)
  else (fnum (rd l 0 18446744073709551615).1, (rd (rd l 0 18446744073709551615).2.1 (rd l 0 18446744073709551615).2.2 1125899906842624).1, 0)

theorem rd_byts {l : List Int} (hb : Byts l) (e most : Int) : Byts (rd l e most).2.1 := by
  obtain ⟨m, _, h⟩ := rd_left l e most
  rw [h]; exact hb.drop m
theorem rd_len (l : List Int) (e most : Int) : (rd l e most).2.1.length ≤ l.length := by
  obtain ⟨m, _, h⟩ := rd_left l e most
  rw [h, List.length_drop]; omega

theorem paid_tx (d : Arr Int 8) (x1 x2 x3 : Int) {l1 : List Int} (l2 : List Int) (hb : Byts l1) (hl : l1.length ≤ 140737488355328) : F.tx_Tx_Paid d x1 x2 x3 l1 l2 = some (paid x3 l1) := by
  unfold F.tx_Tx_Paid paid
  by_cases h3 : x3 = 0
  case neg => simp [h3]
  have hc : ([] : List Int).length + l1.length ≤ 140737488355328 := by rw [List.length_nil, Nat.zero_add]; exact hl
  have hn : F.octet_NewReader l1 = some (l1, 0) := by
    unfold F.octet_NewReader F.slices_Clone_byte_byte F.slices_Clone_byte_byte_some
    rw [if_pos hc]; rfl
  rw [if_neg (by simp [h3]), if_neg (by simp [h3]), hn, Option.bind_some]
  simp only []
  rw [Reader_Num_eq hb (by omega), Option.bind_some]
  generalize ha : rd l1 0 18446744073709551615 = a
  have hba : Byts a.2.1 := by rw [← ha]; exact rd_byts hb _ _
  have hla : a.2.1.length ≤ l1.length := by rw [← ha]; exact rd_len _ _ _
  obtain ⟨n, l, e⟩ := a
  simp only [] at hba hla ⊢
  rw [Reader_Num_eq hba (by omega), Option.bind_some]
  have hnum := rd_num hba e 1125899906842624
  generalize rd l e 1125899906842624 = b at hnum ⊢
  obtain ⟨m, r, f⟩ := b
  simp only [] at hnum ⊢
  unfold F.octet_Reader_End F.octet_Reader_Err F.octet_Reader_Left
  simp only [Option.bind_some]
  by_cases hf : f = 0
  case neg => simp [hf]
  by_cases hr : r.length > 0
  · simp [hf, hr]
  · have hw : IntKind.i64.wrap m = m := wrap_id (by omega) (by have := hnum.2.2 hf; omega)
    simp [hf, hr, FromNum_eq, hw]

theorem rd_any {l : List Int} (hb : Byts l) (e : Int) : rd l e 1125899906842624 =
    if (rd l e 18446744073709551615).2.2 = 0 ∧ (rd l e 18446744073709551615).1 > 1125899906842624 then (0, l, 2) else rd l e 18446744073709551615 := by
  have hp := numGo_prop l 0 0 (by omega) hb (by simp)
  unfold rd
  by_cases he : e = 0
  case neg => simp [he]
  by_cases h1 : (numGo l 0 0).2.2 = 0
  case neg => simp [he, h1]
  have h2 : ¬ (numGo l 0 0).1 > 18446744073709551615 := by
    rcases hp with ⟨_, _, h, _⟩ | ⟨h, _⟩
    · omega
    · exact absurd h1 h
  by_cases h3 : (numGo l 0 0).1 > 1125899906842624
  · simp [he, h1, h2, h3]
  · simp [he, h1, h2, h3]

theorem paid_ref (d : Arr Int 8) (x1 x2 x3 : Int) {l1 : List Int} (l2 : List Int) (hb : Byts l1) (hl : l1.length ≤ 140737488355328) : F.baizeref25_Paid d x1 x2 x3 l1 l2 = some (paid x3 l1) := by
  unfold F.baizeref25_Paid paid
  by_cases h3 : x3 = 0
  case neg => simp [h3]
  rw [if_neg (by simp [h3]), if_neg (by simp [h3])]
  have r1 := ref_Read_eq hb (by omega) (at0 := 0) (by omega) 0 18446744073709551615
  rw [List.drop_zero, show (((0 : Nat)) : Int) = 0 from rfl] at r1
  rw [r1, Option.bind_some]
  simp only []
  obtain ⟨m, hm, hd⟩ := rd_left l1 0 18446744073709551615
  have hba : Byts (rd l1 0 18446744073709551615).2.1 := rd_byts hb _ _
  have hna := rd_num hb 0 18446744073709551615
  generalize ha : rd l1 0 18446744073709551615 = a at hd hba hna ⊢
  obtain ⟨n, l, e⟩ := a
  simp only [] at hd hba hna ⊢
  subst hd
  have hat : (l1.length : Int) - ((l1.drop m).length : Int) = (m : Int) := by rw [List.length_drop]; omega
  rw [hat, ref_Read_eq hb (by omega) hm, Option.bind_some, rd_any hba]
  have hnc := rd_num hba e 18446744073709551615
  have hlc := rd_len (l1.drop m) e 18446744073709551615
  rw [List.length_drop] at hlc
  generalize rd (l1.drop m) e 18446744073709551615 = c at hnc hlc ⊢
  obtain ⟨k, r, f⟩ := c
  simp only [] at hnc hlc ⊢
  by_cases hf : f = 0
  case neg => simp [hf]
  by_cases hk : k > 1125899906842624
  · simp [hf, hk]
  by_cases hr : r.length > 0
  · have : (l1.length : Int) - (r.length : Int) < (l1.length : Int) := by omega
    simp [hf, hk, hr, this]
  · have : ¬ (l1.length : Int) - (r.length : Int) < (l1.length : Int) := by omega
    have hw : IntKind.i64.wrap k = k := wrap_id (by omega) (by omega)
    simp [hf, hk, hr, this, FromNum2_eq hna.1 hna.2.1, hw]

theorem payTo_tx {d : Arr Int 8} (hb : Byts d.1) (x : Int) : F.tx_PayTo d x = some (encN (val256 d.1) ++ encN (IntKind.u64.wrap x)) := by
  have hv := val256_8 hb
  have hu : 0 ≤ IntKind.u64.wrap x ∧ IntKind.u64.wrap x < 18446744073709551616 := by rw [wrap_u64]; omega
  unfold F.tx_PayTo F.tx_key
  have h10 := encN_len (val256 d.1)
  rw [hash_Num_eq hb, Option.bind_some, PutNum_eq (by simp) hv.1 hv.2]
  simp only [Option.bind_some, List.nil_append]
  rw [PutNum_eq (by omega) hu.1 hu.2]
  rfl

theorem payTo_ref {d : Arr Int 8} (hb : Byts d.1) (x : Int) : F.baizeref25_PayTo d x = some (encN (val256 d.1) ++ encN (IntKind.u64.wrap x)) := by
  have hv := val256_8 hb
  have hu : 0 ≤ IntKind.u64.wrap x ∧ IntKind.u64.wrap x < 18446744073709551616 := by rw [wrap_u64]; omega
  have h1 := encN_len (val256 d.1)
  have h2 := encN_len (IntKind.u64.wrap x)
  unfold F.baizeref25_PayTo
  rw [ref_Num2_eq hb, Option.bind_some, ref_Num_eq hv.1 hv.2, Option.bind_some, ref_Num_eq hu.1 hu.2, Option.bind_some, if_pos (by omega)]

theorem imin_eq (a b : Int) : imin a b = if b < a then b else a := rfl

theorem cut_list {l : List Int} (m : Nat) : sliceI l 0 (imin (l.length : Int) (m : Int)) = l.take m := by
  unfold sliceI
  rw [imin_eq]
  split
  · simp
  · simp only [Int.toNat_zero, List.drop_zero, Nat.sub_zero, Int.toNat_natCast]
    rw [List.take_of_length_le (by omega), List.take_of_length_le (by omega)]

theorem Cut_eq (d1 : Arr Int 8) (x1 x2 x3 : Int) (l1 l2 : List Int) : F.baizelaw25_Cut d1 x1 x2 x3 l1 l2 = some (d1, x1, x2, x3, l1.take 400, l2.take 1100) := by
  unfold F.baizelaw25_Cut
  rw [if_pos (by rw [imin_eq]; split <;> omega), if_pos (by rw [imin_eq]; split <;> omega)]
  have e1 := cut_list (l := l1) 400
  have e2 := cut_list (l := l2) 1100
  simp only [Int.cast_ofNat_Int] at e1 e2
  rw [e1, e2]

theorem law_TxPays (y0 : S_tx_Tx) (y1 : (Arr Int 8)) (a2 : Int) (w0 : wf_S_tx_Tx y0) (w1 : (∀ y ∈ y1.1, (Lit.int .u8 y).wf = true)) (w2 : (Lit.int .i64 a2).wf = true) : F.baizelaw25_TxPays y0.f1 y0.f2 y0.f3 y0.f4 y0.f5 y0.f6 y1 a2 = some true := by
  have hb1 : Byts y1.1 := byts_wf w1
  have hb5 : Byts (y0.f5.take 400) := (byts_wf w0.2.2.2.2.1.2).take 400
  have hl5 : (y0.f5.take 400).length ≤ 140737488355328 := by rw [List.length_take]; omega
  have hw := wf_i64.1 w2
  unfold F.baizelaw25_TxPays
  rw [Cut_eq, Option.bind_some]
  simp only []
  rw [paid_tx _ _ _ _ _ hb5 hl5, Option.bind_some]
  unfold F.baizelaw25_Of
  simp only [Option.bind_some]
  rw [paid_ref _ _ _ _ _ hb5 hl5]
  generalize paid y0.f4 (y0.f5.take 400) = p
  obtain ⟨pd, pn, pe⟩ := p
  simp only [Option.bind_some]
  rw [if_neg (by simp), if_neg (by simp), if_neg (by simp), payTo_tx hb1, payTo_ref hb1]
  have hv := val256_8 hb1
  have hlen : (encN (val256 y1.1) ++ encN (IntKind.u64.wrap a2)).length ≤ 20 := by
    have := encN_len (val256 y1.1); have := encN_len (IntKind.u64.wrap a2); rw [List.length_append]; omega
  have hby : Byts (encN (val256 y1.1) ++ encN (IntKind.u64.wrap a2)) := (encN_byts _).append (encN_byts _)
  simp only [Option.bind_some]
  rw [Same_eq (by omega), Option.bind_some, decide_eq_true rfl]
  unfold F.baizelaw25_TxPays.c1
  rw [if_neg (by simp), payTo_tx hb1, Option.bind_some, paid_tx _ _ _ _ _ hby (by omega), Option.bind_some]
  have hu : IntKind.u64.wrap a2 = a2 % 18446744073709551616 := wrap_u64 a2
  have hp : paid 0 (encN (val256 y1.1) ++ encN (IntKind.u64.wrap a2)) = if IntKind.u64.wrap a2 > 1125899906842624 then (zA 8, 0, 2) else (y1, IntKind.u64.wrap a2, 0) := by
    have hr1 : rd (encN (val256 y1.1) ++ encN (IntKind.u64.wrap a2)) 0 18446744073709551615 = (val256 y1.1, encN (IntKind.u64.wrap a2), 0) := by
      rw [rd_encN hv.1 hv.2, if_neg (by omega)]
    unfold paid
    rw [if_neg (by simp), hr1]
    simp only []
    have := rd_encN (n := IntKind.u64.wrap a2) (by omega) (by omega) [] 1125899906842624
    rw [List.append_nil] at this
    rw [this]
    by_cases h : IntKind.u64.wrap a2 > 1125899906842624
    · simp [h]
    · simp [h, fnum_val hb1]
  rw [hp]
  unfold F.baizelaw25_TxPays.c2 F.baizelaw25_TxPays.c3 F.baizelaw25_TxPays.c4
  rw [known_true]
  by_cases h0 : a2 < 0
  · have hg : IntKind.u64.wrap a2 > 1125899906842624 := by omega
    rw [if_pos hg]
    simp only []
    rw [if_pos (by simpa using h0)]
    rfl
  · have hus : IntKind.u64.wrap a2 = a2 := by omega
    rw [hus]
    by_cases hg : a2 > 1125899906842624
    · rw [if_pos hg]
      simp only []
      rw [if_neg (by simpa using h0), if_pos (by simpa using hg)]
      rfl
    · rw [if_neg hg]
      simp only []
      rw [if_neg (by simpa using h0), if_neg (by simpa using hg)]
      simp
end Go.Proofs.Ytjcmjedphijhjaa
