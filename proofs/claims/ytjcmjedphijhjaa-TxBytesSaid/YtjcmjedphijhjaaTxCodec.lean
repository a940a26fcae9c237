/-
  Plain facts of transactions' bytes: Check, Encode and Decode, the program's and the document's.
-/
import Derived.Test.YtjcmjedphijhjaaLawTxPays
import Derived.Test.YtjcmjedphijhjaaOctetPure2
namespace Go.Proofs.Ytjcmjedphijhjaa
open Go.Lab

/-- What is wrong with a transaction. -/
def chkT (x1 x2 x3 : Int) (l1 l2 : List Int) : Int :=
  if (0 ≤ x1 ∧ x1 ≤ 1099511627776) ∧ (0 ≤ x2 ∧ x2 ≤ 1125899906842624) ∧ (0 ≤ x3 ∧ x3 ≤ 2) ∧ l1.length ≤ 32768 ∧ l2.length ≤ 1024 then
    (if x3 ≠ 0 then 0 else (paid x3 l1).2.2) else 2

theorem Check_tx (d : Arr Int 8) (x1 x2 x3 : Int) {l1 : List Int} (l2 : List Int) (hb : Byts l1) (hl : l1.length ≤ 140737488355328) : F.tx_Tx_Check d x1 x2 x3 l1 l2 = some (chkT x1 x2 x3 l1 l2) := by
  rw [check_eq, paid_tx d x1 x2 x3 l2 hb hl]
  unfold chkT
  split
  · by_cases h : x3 = 0
    · simp [h]
    · simp [h]
  · rfl

theorem Check_ref (d : Arr Int 8) (x1 x2 x3 : Int) {l1 : List Int} (l2 : List Int) (hb : Byts l1) (hl : l1.length ≤ 140737488355328) : F.baizeref25_Check d x1 x2 x3 l1 l2 = some (chkT x1 x2 x3 l1 l2) := by
  have c1t : F.baizeref25_Check.c1 d x1 x2 x3 l1 l2 true = some 2 := by unfold F.baizeref25_Check.c1; rw [if_pos rfl]
  have c1f : F.baizeref25_Check.c1 d x1 x2 x3 l1 l2 false = some (if x3 ≠ 0 then 0 else (paid x3 l1).2.2) := by
    unfold F.baizeref25_Check.c1
    rw [if_neg (by simp), paid_ref d x1 x2 x3 l2 hb hl]
    by_cases h : x3 = 0
    · simp [h]
    · simp [h]
  unfold F.baizeref25_Check chkT
  by_cases h1 : x1 < 0
  · rw [if_pos (by simpa using h1), c1t, if_neg (by omega)]
  rw [if_neg (by simpa using h1)]
  by_cases h2 : x1 > 1099511627776
  · rw [if_pos (by simpa using h2), c1t, if_neg (by omega)]
  rw [if_neg (by simpa using h2)]
  by_cases h3 : x2 < 0
  · rw [if_pos (by simpa using h3), c1t, if_neg (by omega)]
  rw [if_neg (by simpa using h3)]
  by_cases h4 : x2 > 1125899906842624
  · rw [if_pos (by simpa using h4), c1t, if_neg (by omega)]
  rw [if_neg (by simpa using h4)]
  by_cases h5 : x3 < 0
  · rw [if_pos (by simpa using h5), c1t, if_neg (by omega)]
  rw [if_neg (by simpa using h5)]
  by_cases h6 : x3 > 2
  · rw [if_pos (by simpa using h6), c1t, if_neg (by omega)]
  rw [if_neg (by simpa using h6)]
  by_cases h7 : l1.length > 32768
  · rw [if_pos (by simp; omega), c1t, if_neg (by omega)]
  rw [if_neg (by simp; omega)]
  by_cases h8 : l2.length > 1024
  · rw [decide_eq_true (by omega), c1t, if_neg (by omega)]
  have hall : (0 ≤ x1 ∧ x1 ≤ 1099511627776) ∧ (0 ≤ x2 ∧ x2 ≤ 1125899906842624) ∧ (0 ≤ x3 ∧ x3 ≤ 2) ∧ l1.length ≤ 32768 ∧ l2.length ≤ 1024 := by omega
  rw [decide_eq_false (by omega), c1f, if_pos hall]

/-! ### Bytes -/

/-- All bytes of a transaction. -/
def allB (d : Arr Int 8) (x1 x2 x3 : Int) (l1 l2 : List Int) : List Int :=
  encN x3 ++ (encN (val256 d.1) ++ (encN x1 ++ (encN x2 ++ (encN (l1.length : Int) ++ (l1 ++ (encN (l2.length : Int) ++ (l2 ++ [])))))))

theorem chkT_ok {x1 x2 x3 : Int} {l1 l2 : List Int} (h : chkT x1 x2 x3 l1 l2 = 0) : (0 ≤ x1 ∧ x1 ≤ 1099511627776) ∧ (0 ≤ x2 ∧ x2 ≤ 1125899906842624) ∧ (0 ≤ x3 ∧ x3 ≤ 2) ∧ l1.length ≤ 32768 ∧ l2.length ≤ 1024 := by
  unfold chkT at h
  split at h
  · assumption
  · cases h

theorem PutBytes_eq {l x : List Int} (hl : l.length + x.length ≤ 140737488350000) : F.octet_PutBytes l x = some (l ++ (encN (x.length : Int) ++ x)) := by
  have hw : IntKind.u64.wrap (x.length : Int) = (x.length : Int) := by rw [wrap_u64]; omega
  have h10 := encN_len (x.length : Int)
  unfold F.octet_PutBytes
  rw [hw, PutNum_eq (by omega) (by omega) (by omega), Option.bind_some, if_pos (by rw [List.length_append]; omega), List.append_assoc]

theorem all_eq {d : Arr Int 8} (hb : Byts d.1) {x1 x2 x3 : Int} {l1 l2 : List Int} (h : chkT x1 x2 x3 l1 l2 = 0) : F.tx_Tx_all d x1 x2 x3 l1 l2 = some (allB d x1 x2 x3 l1 l2) := by
  obtain ⟨b1, b2, b3, b4, b5⟩ := chkT_ok h
  have hv := val256_8 hb
  have w1 : IntKind.u64.wrap x1 = x1 := by rw [wrap_u64]; omega
  have w2 : IntKind.u64.wrap x2 = x2 := by rw [wrap_u64]; omega
  have w3 : IntKind.u64.wrap x3 = x3 := by rw [wrap_u64]; omega
  have n1 := encN_len x1
  have n2 := encN_len x2
  have n3 := encN_len x3
  have n4 := encN_len (val256 d.1)
  have n5 := encN_len (l1.length : Int)
  unfold F.tx_Tx_all F.tx_Tx_bare F.tx_key
  rw [w1, w2, w3, PutNum_eq (by simp) (by omega) (by omega), Option.bind_some, hash_Num_eq hb, Option.bind_some, List.nil_append]
  rw [PutNum_eq (by omega) hv.1 hv.2, Option.bind_some, Option.bind_some, PutNum_eq (by simp; omega) (by omega) (by omega), Option.bind_some, PutNum_eq (by simp; omega) (by omega) (by omega), Option.bind_some,
    PutBytes_eq (by simp; omega), Option.bind_some, Option.bind_some, PutBytes_eq (by simp; omega), Option.bind_some]
  simp only [allB, List.append_assoc, List.append_nil]

theorem Encode_eq {d : Arr Int 8} (hb : Byts d.1) (x1 x2 x3 : Int) {l1 l2 : List Int} (hb1 : Byts l1) (hl1 : l1.length ≤ 140737488355328) :
    F.tx_Tx_Encode d x1 x2 x3 l1 l2 = some (if chkT x1 x2 x3 l1 l2 ≠ 0 then ([], chkT x1 x2 x3 l1 l2) else (allB d x1 x2 x3 l1 l2, 0)) := by
  unfold F.tx_Tx_Encode
  rw [Check_tx d x1 x2 x3 l2 hb1 hl1, Option.bind_some]
  by_cases h : chkT x1 x2 x3 l1 l2 = 0
  · rw [if_neg (by simpa using h), all_eq hb h, if_neg (by simpa using h)]; rfl
  · rw [if_pos (by simpa using h), if_pos h]

/-! ### Decode -/

/-- The transaction of bytes, or what is wrong. -/
def dec (b : List Int) : Arr Int 8 × Int × Int × Int × List Int × List Int × Int :=
  let a1 := rd b 0 2
  let a2 := rd a1.2.1 a1.2.2 18446744073709551615
  let a3 := rd a2.2.1 a2.2.2 1099511627776
  let a4 := rd a3.2.1 a3.2.2 1125899906842624
  let a5 := rdB a4.2.1 a4.2.2 32768
  let a6 := rdB a5.2.1 a5.2.2 1024
  let e := if a6.2.2 ≠ 0 then a6.2.2 else if a6.2.1.length > 0 then 5 else 0
  if e ≠ 0 then (zA 8, 0, 0, 0, [], [], e)
  else if chkT a3.1 a4.1 a1.1 a5.1 a6.1 ≠ 0 then (zA 8, 0, 0, 0, [], [], chkT a3.1 a4.1 a1.1 a5.1 a6.1)
  else (fnum a2.1, a3.1, a4.1, a1.1, a5.1, a6.1, 0)

theorem rd_num0 {l : List Int} (hb : Byts l) (e : Int) {most : Int} (h0 : 0 ≤ most) : 0 ≤ (rd l e most).1 ∧ (rd l e most).1 ≤ most := by
  have h := rd_num hb e most
  refine ⟨h.1, ?_⟩
  by_cases he : (rd l e most).2.2 = 0
  · exact h.2.2 he
  · have : (rd l e most).1 = 0 := by
      unfold rd at he ⊢
      split
      · rfl
      split
      · rfl
      split
      · rfl
      · rename_i h1 h2 h3
        rw [if_neg h1, if_neg h2, if_neg h3] at he
        exact absurd rfl he
    omega

theorem Decode_eq {b : List Int} (hb : Byts b) (hl : b.length ≤ 140737488355328) : F.tx_Decode b = some (dec b) := by
  have hc : ([] : List Int).length + b.length ≤ 140737488355328 := by rw [List.length_nil, Nat.zero_add]; exact hl
  have hn : F.octet_NewReader b = some (b, 0) := by
    unfold F.octet_NewReader F.slices_Clone_byte_byte F.slices_Clone_byte_byte_some
    rw [if_pos hc]; rfl
  unfold F.tx_Decode dec
  rw [hn, Option.bind_some]
  simp only []
  rw [Reader_Num_eq hb (by omega), Option.bind_some]
  have g1 := rd_num0 hb 0 (show (0 : Int) ≤ 2 by decide)
  have k1 := rd_byts hb 0 2
  have q1 := rd_len b 0 2
  generalize rd b 0 2 = a1 at g1 k1 q1 ⊢
  obtain ⟨n1, r1, e1⟩ := a1
  simp only [] at g1 k1 q1 ⊢
  rw [Reader_Num_eq k1 (by omega), Option.bind_some]
  have k2 := rd_byts k1 e1 18446744073709551615
  have q2 := rd_len r1 e1 18446744073709551615
  generalize rd r1 e1 18446744073709551615 = a2 at k2 q2 ⊢
  obtain ⟨n2, r2, e2⟩ := a2
  simp only [] at k2 q2 ⊢
  rw [FromNum_eq, Option.bind_some, Reader_Num_eq k2 (by omega), Option.bind_some]
  have g3 := rd_num0 k2 e2 (show (0 : Int) ≤ 1099511627776 by decide)
  have k3 := rd_byts k2 e2 1099511627776
  have q3 := rd_len r2 e2 1099511627776
  generalize rd r2 e2 1099511627776 = a3 at g3 k3 q3 ⊢
  obtain ⟨n3, r3, e3⟩ := a3
  simp only [] at g3 k3 q3 ⊢
  rw [Reader_Num_eq k3 (by omega), Option.bind_some]
  have g4 := rd_num0 k3 e3 (show (0 : Int) ≤ 1125899906842624 by decide)
  have k4 := rd_byts k3 e3 1125899906842624
  have q4 := rd_len r3 e3 1125899906842624
  generalize rd r3 e3 1125899906842624 = a4 at g4 k4 q4 ⊢
  obtain ⟨n4, r4, e4⟩ := a4
  simp only [] at g4 k4 q4 ⊢
  rw [Reader_Bytes_eq k4 (by omega) e4 (by decide) (by decide), Option.bind_some]
  have k5 := rdB_byts k4 e4 32768
  have q5 : (rdB r4 e4 32768).2.1.length ≤ r4.length := by obtain ⟨m, _, h⟩ := rdB_left r4 e4 32768; rw [h, List.length_drop]; omega
  have m5 := rdB_most (l := r4) e4 (show (0 : Int) ≤ 32768 by decide)
  generalize rdB r4 e4 32768 = a5 at k5 q5 m5 ⊢
  obtain ⟨x5, r5, e5⟩ := a5
  simp only [] at k5 q5 m5 ⊢
  rw [Reader_Bytes_eq k5.2 (by omega) e5 (by decide) (by decide), Option.bind_some]
  generalize rdB r5 e5 1024 = a6
  obtain ⟨x6, r6, e6⟩ := a6
  simp only []
  rw [Reader_End_eq, Option.bind_some]
  generalize (if e6 ≠ 0 then e6 else if r6.length > 0 then 5 else 0) = e
  by_cases he : e = 0
  case neg => rw [if_pos (by simpa using he), if_pos he]
  rw [if_neg (by simpa using he), if_neg (show ¬ (e ≠ 0) by simpa using he), wrap_id (x := n3) (by omega) (by omega), wrap_id (x := n4) (by omega) (by omega), wrap_id (x := n1) (by omega) (by omega), Check_tx _ _ _ _ _ k5.1 (by omega), Option.bind_some]
  by_cases hk : chkT n3 n4 n1 x5 x6 = 0
  · rw [if_neg (by simpa using hk), if_neg (show ¬ (chkT n3 n4 n1 x5 x6 ≠ 0) by simpa using hk)]
  · rw [if_pos (by simpa using hk), if_pos hk]

theorem at_of {B r : List Int} {m : Nat} (hm : m ≤ B.length) (h : r = B.drop m) : (B.length : Int) - (r.length : Int) = (m : Int) := by
  rw [h, List.length_drop]; omega

theorem drop_left {B r : List Int} {m j : Nat} (hm : m ≤ B.length) (hj : j ≤ (B.drop m).length) (h : r = (B.drop m).drop j) : ∃ q, q ≤ B.length ∧ r = B.drop q := by
  rw [List.length_drop] at hj
  exact ⟨m + j, by omega, by rw [h, List.drop_drop]⟩

theorem Decode_ref {b : List Int} (hb : Byts b) (hl : b.length ≤ 140737488355328) : F.baizeref25_Decode b = some (dec b) := by
  unfold F.baizeref25_Decode dec
  have s1 := ref_Read_eq hb (by omega) (at0 := 0) (by omega) 0 2
  rw [List.drop_zero, show (((0 : Nat)) : Int) = 0 from rfl] at s1
  rw [s1, Option.bind_some]
  simp only []
  have g1 := rd_num0 hb 0 (show (0 : Int) ≤ 2 by decide)
  obtain ⟨m1, hm1, hr1⟩ := rd_left b 0 2
  generalize rd b 0 2 = a1 at g1 hr1 ⊢
  obtain ⟨n1, r1, e1⟩ := a1
  simp only [] at g1 hr1 ⊢
  rw [at_of hm1 hr1, ref_Read_eq hb (by omega) hm1, ← hr1, Option.bind_some]
  have k1 : Byts r1 := by rw [hr1]; exact hb.drop m1
  obtain ⟨j2, hj2, hr2'⟩ := rd_left r1 e1 18446744073709551615
  rw [hr1] at hj2 hr2'
  obtain ⟨m2, hm2, hr2⟩ := drop_left hm1 hj2 hr2'
  rw [← hr1] at hr2
  have g2 := rd_num k1 e1 18446744073709551615
  generalize rd r1 e1 18446744073709551615 = a2 at g2 hr2 ⊢
  obtain ⟨n2, r2, e2⟩ := a2
  simp only [] at g2 hr2 ⊢
  rw [at_of hm2 hr2, ref_Read_eq hb (by omega) hm2, ← hr2, Option.bind_some]
  have k2 : Byts r2 := by rw [hr2]; exact hb.drop m2
  obtain ⟨j3, hj3, hr3'⟩ := rd_left r2 e2 1099511627776
  rw [hr2] at hj3 hr3'
  obtain ⟨m3, hm3, hr3⟩ := drop_left hm2 hj3 hr3'
  rw [← hr2] at hr3
  have g3 := rd_num0 k2 e2 (show (0 : Int) ≤ 1099511627776 by decide)
  generalize rd r2 e2 1099511627776 = a3 at g3 hr3 ⊢
  obtain ⟨n3, r3, e3⟩ := a3
  simp only [] at g3 hr3 ⊢
  rw [at_of hm3 hr3, ref_Read_eq hb (by omega) hm3, ← hr3, Option.bind_some]
  have k3 : Byts r3 := by rw [hr3]; exact hb.drop m3
  obtain ⟨j4, hj4, hr4'⟩ := rd_left r3 e3 1125899906842624
  rw [hr3] at hj4 hr4'
  obtain ⟨m4, hm4, hr4⟩ := drop_left hm3 hj4 hr4'
  rw [← hr3] at hr4
  have g4 := rd_num0 k3 e3 (show (0 : Int) ≤ 1125899906842624 by decide)
  generalize rd r3 e3 1125899906842624 = a4 at g4 hr4 ⊢
  obtain ⟨n4, r4, e4⟩ := a4
  simp only [] at g4 hr4 ⊢
  rw [at_of hm4 hr4, ref_Some_eq hb hl hm4 e4 (by decide) (by decide), ← hr4, Option.bind_some]
  have k4 : Byts r4 := by rw [hr4]; exact hb.drop m4
  obtain ⟨j5, hj5, hr5'⟩ := rdB_left r4 e4 32768
  rw [hr4] at hj5 hr5'
  obtain ⟨m5, hm5, hr5⟩ := drop_left hm4 hj5 hr5'
  rw [← hr4] at hr5
  have k5 := rdB_byts k4 e4 32768
  have b5 := rdB_most (l := r4) e4 (show (0 : Int) ≤ 32768 by decide)
  generalize rdB r4 e4 32768 = a5 at k5 b5 hr5 ⊢
  obtain ⟨x5, r5, e5⟩ := a5
  simp only [] at k5 b5 hr5 ⊢
  rw [at_of hm5 hr5, ref_Some_eq hb hl hm5 e5 (by decide) (by decide), ← hr5, Option.bind_some]
  have hlen6 : (rdB r5 e5 1024).2.1.length ≤ b.length := by
    obtain ⟨m, _, h⟩ := rdB_left r5 e5 1024
    rw [h, List.length_drop, hr5, List.length_drop]; omega
  generalize rdB r5 e5 1024 = a6 at hlen6 ⊢
  obtain ⟨x6, r6, e6⟩ := a6
  simp only [] at hlen6 ⊢
  rw [ref_End_eq, Option.bind_some]
  have hee : (if e6 ≠ 0 then e6 else if (b.length : Int) - (r6.length : Int) < (b.length : Int) then 5 else 0) = (if e6 ≠ 0 then e6 else if r6.length > 0 then (5 : Int) else 0) := by
    by_cases h : r6.length > 0
    · rw [if_pos (show (b.length : Int) - (r6.length : Int) < (b.length : Int) by omega), if_pos h]
    · rw [if_neg (show ¬ (b.length : Int) - (r6.length : Int) < (b.length : Int) by omega), if_neg h]
  rw [hee]
  generalize (if e6 ≠ 0 then e6 else if r6.length > 0 then (5 : Int) else 0) = e
  by_cases he : e = 0
  case neg => rw [if_pos (by simpa using he), if_pos he]
  rw [if_neg (by simpa using he), if_neg (show ¬ (e ≠ 0) by simpa using he), FromNum2_eq g2.1 g2.2.1, Option.bind_some, wrap_id (x := n3) (by omega) (by omega), wrap_id (x := n4) (by omega) (by omega), wrap_id (x := n1) (by omega) (by omega),
    Check_ref _ _ _ _ _ k5.1 (by omega), Option.bind_some]
  by_cases hk : chkT n3 n4 n1 x5 x6 = 0
  · rw [if_neg (by simpa using hk), if_neg (show ¬ (chkT n3 n4 n1 x5 x6 ≠ 0) by simpa using hk)]
  · rw [if_pos (by simpa using hk), if_pos hk]

theorem rd_ok {n most : Int} (h0 : 0 ≤ n) (h1 : n ≤ most) (h2 : n < 18446744073709551616) (r : List Int) : rd (encN n ++ r) 0 most = (n, r, 0) := by
  rw [rd_encN h0 h2, if_neg (by omega)]

/-- What was told is read as it was. -/
theorem dec_all {d : Arr Int 8} (hb : Byts d.1) {x1 x2 x3 : Int} {l1 l2 : List Int} (h : chkT x1 x2 x3 l1 l2 = 0) : dec (allB d x1 x2 x3 l1 l2) = (d, x1, x2, x3, l1, l2, 0) := by
  obtain ⟨b1, b2, b3, b4, b5⟩ := chkT_ok h
  have hv := val256_8 hb
  unfold dec allB
  simp only []
  rw [rd_ok b3.1 b3.2 (by omega)]
  simp only []
  rw [rd_ok hv.1 (by omega) hv.2]
  simp only []
  rw [rd_ok b1.1 b1.2 (by omega)]
  simp only []
  rw [rd_ok b2.1 b2.2 (by omega)]
  simp only []
  rw [rdB_enc _ (by omega) (by omega)]
  simp only []
  rw [rdB_enc _ (by omega) (by omega)]
  simp only [h, fnum_val hb]
  rfl

theorem rd_bad {l : List Int} {e most : Int} (h : (rd l e most).2.2 = 0) : e = 0 := by
  apply Classical.byContradiction
  intro he
  unfold rd at h
  rw [if_pos he] at h
  exact he h
theorem rdB_bad {l : List Int} {e most : Int} (h : (rdB l e most).2.2 = 0) : e = 0 := by
  apply Classical.byContradiction
  intro he
  unfold rdB at h
  rw [if_pos he] at h
  exact he h

theorem val_fnum {n : Int} (h0 : 0 ≤ n) (h1 : n < 18446744073709551616) : val256 (fnum n).1 = n := by
  simp only [fnum, val256]; omega

/-- What is read, told again, are these bytes. -/
theorem all_dec {b : List Int} (hb : Byts b) (h : (dec b).2.2.2.2.2.2 = 0) :
    allB (dec b).1 (dec b).2.1 (dec b).2.2.1 (dec b).2.2.2.1 (dec b).2.2.2.2.1 (dec b).2.2.2.2.2.1 = b ∧ chkT (dec b).2.1 (dec b).2.2.1 (dec b).2.2.2.1 (dec b).2.2.2.2.1 (dec b).2.2.2.2.2.1 = 0 ∧
      Byts (dec b).1.1 ∧ Byts (dec b).2.2.2.2.1 ∧ Byts (dec b).2.2.2.2.2.1 := by
  unfold dec at h ⊢
  simp only [] at h ⊢
  have k1 := rd_byts hb 0 2
  have i1 := @rd_inv b hb 2
  generalize rd b 0 2 = a1 at h k1 i1 ⊢
  obtain ⟨n1, r1, e1⟩ := a1
  simp only [] at h k1 ⊢
  have k2 := rd_byts k1 e1 18446744073709551615
  have g2 := rd_num k1 e1 18446744073709551615
  have i2 := @rd_inv r1 k1 18446744073709551615
  have z2 := @rd_bad r1 e1 18446744073709551615
  generalize ha2 : rd r1 e1 18446744073709551615 = a2 at h k2 g2 z2 ⊢
  obtain ⟨n2, r2, e2⟩ := a2
  simp only [] at h k2 g2 z2 ⊢
  have k3 := rd_byts k2 e2 1099511627776
  have i3 := @rd_inv r2 k2 1099511627776
  have z3 := @rd_bad r2 e2 1099511627776
  generalize ha3 : rd r2 e2 1099511627776 = a3 at h k3 z3 ⊢
  obtain ⟨n3, r3, e3⟩ := a3
  simp only [] at h k3 z3 ⊢
  have k4 := rd_byts k3 e3 1125899906842624
  have i4 := @rd_inv r3 k3 1125899906842624
  have z4 := @rd_bad r3 e3 1125899906842624
  generalize ha4 : rd r3 e3 1125899906842624 = a4 at h k4 z4 ⊢
  obtain ⟨n4, r4, e4⟩ := a4
  simp only [] at h k4 z4 ⊢
  have k5 := rdB_byts k4 e4 32768
  have i5 := @rdB_inv r4 k4 32768
  have z5 := @rdB_bad r4 e4 32768
  generalize ha5 : rdB r4 e4 32768 = a5 at h k5 z5 ⊢
  obtain ⟨x5, r5, e5⟩ := a5
  simp only [] at h k5 z5 ⊢
  have k6 := rdB_byts k5.2 e5 1024
  have i6 := @rdB_inv r5 k5.2 1024
  have z6 := @rdB_bad r5 e5 1024
  generalize ha6 : rdB r5 e5 1024 = a6 at h k6 z6 ⊢
  obtain ⟨x6, r6, e6⟩ := a6
  simp only [] at h k6 z6 ⊢
  by_cases h6 : e6 = 0
  case neg => rw [if_pos h6, if_pos h6] at h; exact absurd h h6
  rw [if_neg (show ¬ (e6 ≠ 0) by simpa using h6)] at h ⊢
  by_cases hr : r6.length > 0
  · rw [if_pos hr] at h; simp at h
  rw [if_neg hr] at h ⊢
  rw [if_neg (show ¬ ((0 : Int) ≠ 0) by simp)] at h ⊢
  by_cases hk : chkT n3 n4 n1 x5 x6 = 0
  case neg => rw [if_pos hk] at h; exact absurd h hk
  rw [if_neg (show ¬ (chkT n3 n4 n1 x5 x6 ≠ 0) by simpa using hk)]
  have hr6 : r6 = [] := List.eq_nil_of_length_eq_zero (by omega)
  subst hr6
  have e50 := z6 h6
  have e40 := z5 e50
  have e30 := z4 e40
  have e20 := z3 e30
  have e10 := z2 e20
  subst h6 e50 e40 e30 e20 e10
  refine ⟨?_, hk, ?_, k5.1, k6.1⟩
  · simp only [allB, val_fnum g2.1 g2.2.1]
    rw [i1 rfl, i2 ha2, i3 ha3, i4 ha4, i5 ha5, i6 ha6]
  · intro y hy
    simp only [fnum, List.mem_cons, List.not_mem_nil, or_false] at hy
    omega
end Go.Proofs.Ytjcmjedphijhjaa
