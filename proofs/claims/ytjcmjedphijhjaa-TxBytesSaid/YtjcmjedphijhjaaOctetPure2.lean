/-
  Plain facts of bytes with how many they are: read, written; what was read is written again.
-/
import Derived.Test.YtjcmjedphijhjaaWTx3
import Derived.Test.YtjcmjedphijhjaaOctetPure
namespace Go.Proofs.Ytjcmjedphijhjaa
open Go.Lab

/-- What a read of bytes gives: the bytes, what is left, the error. -/
def rdB (l : List Int) (e most : Int) : List Int × List Int × Int :=
  if e ≠ 0 then ([], l, e) else if (numGo l 0 0).2.2 ≠ 0 then ([], l, (numGo l 0 0).2.2) else if (numGo l 0 0).1 > most then ([], l, 2)
  else if (numGo l 0 0).1 > (l.length : Int) - (numGo l 0 0).2.1 then ([], l, 4)
  else ((l.drop (numGo l 0 0).2.1.toNat).take (numGo l 0 0).1.toNat, l.drop ((numGo l 0 0).2.1.toNat + (numGo l 0 0).1.toNat), 0)

theorem rdB_left (l : List Int) (e most : Int) : ∃ m, m ≤ l.length ∧ (rdB l e most).2.1 = l.drop m := by
  unfold rdB
  split
  · exact ⟨0, by omega, rfl⟩
  split
  · exact ⟨0, by omega, rfl⟩
  split
  · exact ⟨0, by omega, rfl⟩
  split
  · exact ⟨0, by omega, rfl⟩
  · by_cases h : (numGo l 0 0).2.1.toNat + (numGo l 0 0).1.toNat ≤ l.length
    · exact ⟨_, h, rfl⟩
    · exact ⟨l.length, by omega, by simp only [List.drop_length]; exact List.drop_eq_nil_of_le (by omega)⟩

theorem rdB_byts {l : List Int} (hb : Byts l) (e most : Int) : Byts (rdB l e most).1 ∧ Byts (rdB l e most).2.1 := by
  constructor
  · unfold rdB
    split
    · intro y hy; cases hy
    split
    · intro y hy; cases hy
    split
    · intro y hy; cases hy
    split
    · intro y hy; cases hy
    · exact (hb.drop _).take _
  · obtain ⟨m, _, h⟩ := rdB_left l e most
    rw [h]; exact hb.drop m

theorem rdB_most {l : List Int} (e : Int) {most : Int} (h0 : 0 ≤ most) : ((rdB l e most).1.length : Int) ≤ most := by
  unfold rdB
  split
  · simpa using h0
  split
  · simpa using h0
  split
  · simpa using h0
  split
  · simpa using h0
  · rename_i h1 h2 h3 h4
    simp only [List.length_take, List.length_drop]
    omega

theorem Reader_Bytes_eq {l : List Int} (hb : Byts l) (hl : l.length ≤ 140737488355328) (e : Int) {most : Int} (h0 : 0 ≤ most) (h1 : most ≤ 9223372036854775000) : F.octet_Reader_Bytes l e most = some (rdB l e most) := by
  have hp := numGo_prop l 0 0 (by omega) hb (by simp)
  unfold F.octet_Reader_Bytes F.octet_Reader_read_2 F.octet_Reader_Bytes_1 rdB
  by_cases he : e = 0
  case neg => simp [he]
  rw [number_eq hb (by omega)]
  generalize numGo l 0 0 = q at hp ⊢
  obtain ⟨n, k, f⟩ := q
  simp only [] at hp ⊢
  subst he
  simp only [bne_self_eq_false, Bool.false_eq_true, if_false, Option.bind_some, ne_eq, not_true_eq_false]
  rcases hp with ⟨rfl, g1, g2, g3, g4⟩ | ⟨h, rfl, rfl⟩
  case inr => simp [h]
  have hm : IntKind.u64.wrap (imax most 0) = most := by
    have : imax most 0 = most := by unfold imax; split <;> omega
    rw [this, wrap_u64]; omega
  have hk : IntKind.u64.wrap (IntKind.i64.wrap ((l.length : Int) - k)) = (l.length : Int) - k := by rw [wrap_id (by omega) (by omega), wrap_u64]; omega
  rw [hm, hk]
  by_cases c1 : n > most
  · simp [c1]
  by_cases c2 : n > (l.length : Int) - k
  · simp [c1, c2]
  have hw : IntKind.i64.wrap (k + IntKind.i64.wrap n) = k + n := by rw [wrap_id (x := n) (by omega) (by omega), wrap_id (by omega) (by omega)]
  have hs : sliceI l k (k + n) = (l.drop k.toNat).take n.toNat := by unfold sliceI; congr 1; omega
  have hc : F.slices_Clone_byte_byte ((l.drop k.toNat).take n.toNat) = some ((l.drop k.toNat).take n.toNat) := by
    have hcc : ([] : List Int).length + ((l.drop k.toNat).take n.toNat).length ≤ 140737488355328 := by rw [List.length_nil, Nat.zero_add, List.length_take, List.length_drop]; omega
    unfold F.slices_Clone_byte_byte F.slices_Clone_byte_byte_some
    rw [if_pos hcc]; rfl
  have hs2 : sliceI l (k + n) (l.length : Int) = l.drop (k.toNat + n.toNat) := by
    unfold sliceI; rw [List.take_of_length_le]
    · congr 1; omega
    · simp
  simp only [bne_self_eq_false, Bool.false_eq_true, if_false]
  rw [if_neg (by simpa using c1), if_neg (by simpa using c2), hw, if_pos (by omega), hs, hc]
  simp only [Option.bind_some, bne_self_eq_false, Bool.false_eq_true, if_false]
  rw [if_pos (by omega), hs2, if_neg c1, if_neg c2]
  rfl

theorem ref_Some_eq {B : List Int} (hb : Byts B) (hl : B.length ≤ 140737488355328) {at0 : Nat} (ha : at0 ≤ B.length) (e : Int) {most : Int} (h0 : 0 ≤ most) (h1 : most ≤ 9223372036854775000) :
    F.baizeref01_Some B (at0 : Int) e most = some (B, (B.length : Int) - ((rdB (B.drop at0) e most).2.1.length : Int), (rdB (B.drop at0) e most).2.2, (rdB (B.drop at0) e most).1) := by
  have hbd := hb.drop at0
  have hp := numGo_prop (B.drop at0) 0 0 (by omega) hbd (by simp)
  have hdl : (B.drop at0).length = B.length - at0 := List.length_drop ..
  unfold F.baizeref01_Some
  by_cases he : e = 0
  case neg => unfold rdB; simp [he]; omega
  rw [if_neg (by simp [he]), ref_Read_eq hb (by omega) ha, Option.bind_some]
  subst he
  simp only []
  rw [show decide (most < 0) = false from decide_eq_false (by omega)]
  unfold rd rdB
  generalize numGo (B.drop at0) 0 0 = q at hp ⊢
  obtain ⟨n, k, f⟩ := q
  simp only [] at hp ⊢
  unfold F.baizeref01_Some.c1 F.baizeref01_Fail
  rcases hp with ⟨rfl, g1, g2, g3, g4⟩ | ⟨h, rfl, rfl⟩
  case inr => simp [h]; omega
  have hany : ¬ n > 18446744073709551615 := by omega
  simp only [ne_eq, not_true_eq_false, if_false, hany, bne_self_eq_false, Bool.false_eq_true]
  have hat : (B.length : Int) - (((B.drop at0).drop k.toNat).length : Int) = (at0 : Int) + k := by rw [List.length_drop, hdl]; omega
  rw [hat]
  have hm : IntKind.u64.wrap most = most := by rw [wrap_u64]; omega
  have hk : IntKind.u64.wrap (IntKind.i64.wrap ((B.length : Int) - ((at0 : Int) + k))) = (B.length : Int) - ((at0 : Int) + k) := by rw [wrap_id (by omega) (by omega), wrap_u64]; omega
  rw [hm, hk, hdl]
  by_cases c1 : n > most
  · simp [c1]; omega
  by_cases c2 : n > ((B.length - at0 : Nat) : Int) - k
  · have c2' : n > (B.length : Int) - ((at0 : Int) + k) := by omega
    simp [c1, c2, c2']; omega
  have c2' : ¬ n > (B.length : Int) - ((at0 : Int) + k) := by omega
  have hw : IntKind.i64.wrap ((at0 : Int) + k + IntKind.i64.wrap n) = (at0 : Int) + k + n := by rw [wrap_id (x := n) (by omega) (by omega), wrap_id (by omega) (by omega)]
  have hs : sliceI B ((at0 : Int) + k) ((at0 : Int) + k + n) = ((B.drop at0).drop k.toNat).take n.toNat := by
    unfold sliceI; rw [List.drop_drop]; congr 1
    · omega
    · congr 1; omega
  have hcc : ([] : List Int).length + (((B.drop at0).drop k.toNat).take n.toNat).length ≤ 140737488355328 := by rw [List.length_nil, Nat.zero_add, List.length_take, List.length_drop, List.length_drop]; omega
  rw [if_neg (by simpa using c1), if_neg (by simpa using c2'), hw, if_pos (by omega), hs, if_pos hcc, List.nil_append, if_neg c1, if_neg c2]
  simp only [List.length_drop, Option.some.injEq, Prod.mk.injEq, and_true, true_and]
  omega

theorem ref_End_eq (B : List Int) (x1 e : Int) : F.baizeref01_End B x1 e = some (if e ≠ 0 then e else if x1 < (B.length : Int) then 5 else 0) := by
  unfold F.baizeref01_End F.baizeref01_End.c1
  by_cases he : e = 0
  · subst he
    by_cases h : x1 < (B.length : Int) <;> simp [h]
  · simp [he]

theorem Reader_End_eq (l : List Int) (e : Int) : F.octet_Reader_End l e = some (if e ≠ 0 then e else if l.length > 0 then 5 else 0) := by
  unfold F.octet_Reader_End F.octet_Reader_Err F.octet_Reader_Left
  by_cases he : e = 0
  · subst he
    by_cases h : l.length > 0 <;> simp [h]
  · simp [he]

/-! ### Written and read -/

theorem rdB_enc {x : List Int} (r : List Int) {most : Int} (hm : (x.length : Int) ≤ most) (hl : x.length < 9223372036854775000) : rdB (encN (x.length : Int) ++ (x ++ r)) 0 most = (x, r, 0) := by
  unfold rdB
  rw [numGo_encN (by omega) (by omega)]
  have e1 : ((encN (x.length : Int)).length : Int).toNat = (encN (x.length : Int)).length := by omega
  have e2 : ((x.length : Int)).toNat = x.length := by omega
  simp only [ne_eq, not_true_eq_false, if_false]
  rw [if_neg (by omega), if_neg (by simp; omega), e1, e2, List.drop_left, List.take_left, ← List.drop_drop, List.drop_left, List.drop_left]

theorem enc_cons {m : Nat} (h : 128 ≤ m) (j : Nat) : enc (j + 1) m = (128 + ((m % 128 : Nat) : Int)) :: enc j (m / 128) := by
  conv => lhs; unfold enc
  rw [if_neg (by omega)]

theorem numGo_inv : ∀ (l : List Int) (i : Nat) (acc n k : Int), i ≤ 10 → Byts l → numGo l i acc = (n, k, 0) →
    ∃ m : Nat, n = acc + (m : Int) * 128 ^ i ∧ l.take (k.toNat - i) = enc (10 - i) m ∧ (i : Int) < k ∧ (0 < i → 0 < m)
  | [], i, acc, n, k, _, _, h => by
    unfold numGo at h
    split at h <;> simp at h
  | x :: r, i, acc, n, k, hi, hb, h => by
    obtain ⟨hx, hb'⟩ := hb.cons
    unfold numGo at h
    split at h
    · simp at h
    split at h
    · simp at h
    split at h
    · simp at h
    rename_i h10 hz h9
    obtain ⟨j, hj⟩ : ∃ j, 10 - i = j + 1 := ⟨9 - i, by omega⟩
    split at h
    · rename_i hs
      simp only [Prod.mk.injEq] at h
      obtain ⟨rfl, rfl, _⟩ := h
      refine ⟨x.toNat, by rw [Int.toNat_of_nonneg hx.1], ?_, by omega, fun _ => by omega⟩
      rw [show ((i : Int) + 1).toNat - i = 1 by omega, hj]
      unfold enc
      rw [if_pos (by omega)]
      simp [Int.toNat_of_nonneg hx.1]
    · rename_i hs
      obtain ⟨m, hn, ht, hk, hm⟩ := numGo_inv r (i + 1) _ n k (by omega) hb' h
      have hm' := hm (by omega)
      refine ⟨(x % 128).toNat + 128 * m, ?_, ?_, by omega, fun _ => by omega⟩
      · rw [hn, Int.add_assoc]
        congr 1
        have e : (((x % 128).toNat + 128 * m : Nat) : Int) = x % 128 + 128 * (m : Int) := by omega
        rw [e, Int.add_mul, Int.pow_succ, Int.mul_comm 128 (m : Int), Int.mul_assoc, Int.mul_comm (128 ^ i) 128]
      · rw [hj, enc_cons (by omega), show k.toNat - i = (k.toNat - (i + 1)) + 1 by omega, List.take_succ_cons, ht]
        congr 1
        · omega
        · rw [show 10 - (i + 1) = j by omega]
          congr 1
          omega

theorem rd_inv {l : List Int} (hb : Byts l) {most n : Int} {r : List Int} (h : rd l 0 most = (n, r, 0)) : l = encN n ++ r := by
  unfold rd at h
  simp only [ne_eq, not_true_eq_false, if_false] at h
  split at h
  · rename_i hf; simp only [Prod.mk.injEq] at h; exact absurd h.2.2 hf
  split at h
  · simp at h
  rename_i h1 h2
  simp only [Prod.mk.injEq, and_true] at h
  obtain ⟨hn, hr⟩ := h
  have hz : (numGo l 0 0).2.2 = 0 := by simpa using h1
  obtain ⟨m, e1, e2, e3, _⟩ := numGo_inv l 0 0 (numGo l 0 0).1 (numGo l 0 0).2.1 (by omega) hb (Prod.ext rfl (Prod.ext rfl hz))
  have hm : n = (m : Int) := by rw [← hn, e1]; simp
  subst hm
  rw [← hr]
  have e4 : encN (m : Int) = l.take (numGo l 0 0).2.1.toNat := by rw [← Nat.sub_zero (numGo l 0 0).2.1.toNat, e2]; simp [encN]
  rw [e4, List.take_append_drop]

theorem rdB_inv {l : List Int} (hb : Byts l) {most : Int} {x r : List Int} (h : rdB l 0 most = (x, r, 0)) : l = encN (x.length : Int) ++ (x ++ r) := by
  have hp := numGo_prop l 0 0 (by omega) hb (by simp)
  unfold rdB at h
  simp only [ne_eq, not_true_eq_false, if_false] at h
  split at h
  · rename_i hf; simp only [Prod.mk.injEq] at h; exact absurd h.2.2 hf
  split at h
  · simp at h
  split at h
  · simp at h
  rename_i h1 h2 h3
  simp only [Prod.mk.injEq, and_true] at h
  obtain ⟨hx, hr⟩ := h
  have hz : (numGo l 0 0).2.2 = 0 := by simpa using h1
  obtain ⟨m, e1, e2, e3, _⟩ := numGo_inv l 0 0 (numGo l 0 0).1 (numGo l 0 0).2.1 (by omega) hb (Prod.ext rfl (Prod.ext rfl hz))
  rcases hp with ⟨_, g1, g2, g3, g4⟩ | ⟨h, _⟩
  case inr => exact absurd hz h
  have hxl : (x.length : Int) = (numGo l 0 0).1 := by rw [← hx, List.length_take, List.length_drop]; omega
  have e4 : encN (x.length : Int) = l.take (numGo l 0 0).2.1.toNat := by
    rw [hxl, e1, ← Nat.sub_zero (numGo l 0 0).2.1.toNat, e2]; simp [encN]
  have e5 : x ++ r = l.drop (numGo l 0 0).2.1.toNat := by
    rw [← hx, ← hr, ← List.drop_drop, List.take_append_drop]
  rw [e4, e5, List.take_append_drop]

theorem bytesStr_inj {a b : List Int} (ha : Byts a) (hb : Byts b) : ((bytesStr a).toList == (bytesStr b).toList) = decide (a = b) := by
  have key : ∀ l : List Int, (bytesStr l).toList = l.map fun x => UInt8.ofNat x.toNat := by
    intro l
    rw [ByteArray.toList_eq]
    simp [bytesStr]
  rw [key, key]
  by_cases h : a = b
  · subst h; simp
  · rw [decide_eq_false h]
    apply Bool.eq_false_iff.2
    intro he
    apply h
    have he' := eq_of_beq he
    have inv : ∀ l : List Int, Byts l → (l.map fun x => UInt8.ofNat x.toNat).map (fun u => (u.toNat : Int)) = l := by
      intro l hl
      rw [List.map_map]
      conv => rhs; rw [← List.map_id l]
      apply List.map_congr_left
      intro x hx
      have := hl x hx
      simp only [Function.comp, id, UInt8.toNat_ofNat']
      omega
    rw [← inv a ha, ← inv b hb, he']

theorem Equal_eq {a b : List Int} (ha : Byts a) (hb : Byts b) : F.bytes_Equal a b = some (decide (a = b)) := by
  unfold F.bytes_Equal
  rw [bytesStr_inj ha hb]
end Go.Proofs.Ytjcmjedphijhjaa
