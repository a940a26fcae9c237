/-
  Plain facts of numbers' and bytes' bytes: what the document's reader and writer come to.
-/
import Derived.Test.YthfmgobnanifnaaNumP
namespace Go.Proofs.Ythfmgobnanifnaa
open Go.Lab
set_option maxRecDepth 10000

theorem ref_l2 (l : List Int) (x5 : Int) (hb : Byts l) : ∀ (j k : Nat) (a : Int), j ≤ l.length → j < k → 0 ≤ a → a * 128 ^ j + valL (l.take j) < 18446744073709551616 → l.length ≤ 9223372036854775000 →
    F.baizeref01_number.l2 l x5 k a ((j : Int) - 1) = some (a * 128 ^ j + valL (l.take j), IntKind.i64.wrap (x5 + 1), 0)
  | 0, k + 1, a, _, _, _, _, _ => by
    unfold F.baizeref01_number.l2
    rw [if_neg (by simp)]
    simp [valL]
  | j + 1, k + 1, a, hj, hk, ha, hs, hlen => by
    have hlt : j < l.length := by omega
    have hx := hb l[j] (List.getElem_mem hlt)
    have hg : getI l (((j + 1 : Nat) : Int) - 1) = l[j] := by
      unfold getI
      rw [List.getD_eq_getElem?_getD, show (((j + 1 : Nat) : Int) - 1).toNat = j by omega, List.getElem?_eq_getElem hlt]; rfl
    have ht : valL (l.take (j + 1)) = valL (l.take j) + 128 ^ j * (l[j] % 128) := by
      rw [List.take_add_one, List.getElem?_eq_getElem hlt, Option.toList_some, valL_append, List.length_take, Nat.min_eq_left (by omega)]
      simp [valL]
    have hv := valL_bound (l.take j)
    have e : (128 * a + l[j] % 128) * 128 ^ j + valL (l.take j) = a * 128 ^ (j + 1) + valL (l.take (j + 1)) := by
      rw [ht, Int.pow_succ, Int.add_mul, Int.mul_comm 128 a, Int.mul_assoc a 128, Int.mul_comm 128 (128 ^ j), Int.mul_comm (l[j] % 128)]; omega
    have hpos : (0 : Int) < 128 ^ j := Int.pow_pos (by decide)
    have hsm : 128 * a + l[j] % 128 < 18446744073709551616 := by
      have h1 : 0 ≤ (128 * a + l[j] % 128) := by omega
      have h2 : (128 * a + l[j] % 128) * 1 ≤ (128 * a + l[j] % 128) * 128 ^ j := Int.mul_le_mul_of_nonneg_left (by omega) h1
      omega
    unfold F.baizeref01_number.l2
    rw [if_pos (by simp), if_pos ⟨by omega, by omega⟩, hg, Int.tmod_eq_emod_of_nonneg hx.1]
    have w1 : IntKind.u64.wrap (128 * a) = 128 * a := by rw [wrap_u64]; omega
    have w2 : IntKind.u64.wrap (l[j] % 128) = l[j] % 128 := by rw [wrap_u64]; omega
    have w3 : IntKind.u64.wrap (128 * a + l[j] % 128) = 128 * a + l[j] % 128 := by rw [wrap_u64]; omega
    have w4 : IntKind.i64.wrap (((j + 1 : Nat) : Int) - 1 - 1) = (j : Int) - 1 := by rw [wrap_id (by omega) (by omega)]; omega
    rw [w1, w2, w3, w4, ref_l2 l x5 hb j k (128 * a + l[j] % 128) (by omega) (by omega) (by omega) (by rw [e]; exact hs) hlen, e]

theorem ref_l1 : ∀ (r p : List Int) (k i : Nat), p.length = i → i ≤ 10 → Byts (p ++ r) → (∀ y ∈ p, 128 ≤ y) → r.length + 1 < k → (p ++ r).length ≤ 9223372036854775000 →
    F.baizeref01_number.l1 (p ++ r) k (i : Int) = some (numGo r i (valL p))
  | [], p, k + 1, i, hp, hi, _, _, _, _ => by
    unfold F.baizeref01_number.l1 F.baizeref01_number.c1 numGo
    rw [List.append_nil, hp, if_neg (by simp), if_neg (by simp), if_pos (by simp)]
    unfold F.baizeref01_number.c2
    by_cases h : i < 10
    · rw [if_pos (by simp; omega), if_pos h]
    · rw [if_neg (by simp; omega), if_neg h, if_pos (by simp; omega)]
      unfold F.baizeref01_number.c3
      rw [if_pos rfl]
  | x :: r, p, k + 1, i, hp, hi, hb, hpb, hk, hlen => by
    have hx := hb x (by simp)
    have hlt : (i : Int) < ((p ++ x :: r).length : Int) := by simp [hp]; omega
    have hg : getI (p ++ x :: r) (i : Int) = x := by rw [← hp]; exact getI_mid
    have hne : ¬ ((i : Int) == ((p ++ x :: r).length : Int)) = true := by simp only [beq_iff_eq]; omega
    have fin : ∀ q, F.baizeref01_number.c3 (p ++ x :: r) (i : Int) true = q → q = some (0, 0, 3) := by
      intro q h; rw [← h]; unfold F.baizeref01_number.c3; rw [if_pos rfl]
    have fin' : F.baizeref01_number.c3 (p ++ x :: r) (i : Int) true = some (0, 0, 3) := fin _ rfl
    unfold F.baizeref01_number.l1
    rw [if_pos (by simpa using hlt)]
    by_cases h10 : i = 10
    · rw [if_neg (by simp; omega)]
      unfold F.baizeref01_number.c1 numGo
      rw [if_neg (by simp), if_neg hne, if_pos h10]
      unfold F.baizeref01_number.c2
      rw [if_neg (by simp), if_pos (by simp; omega), fin']
    rw [if_pos (by simp; omega), if_pos ⟨by omega, hlt⟩, hg]
    unfold F.baizeref01_number.c1
    have hw1 : IntKind.i64.wrap ((i : Int) + 1) = ((i + 1 : Nat) : Int) := by rw [wrap_id (by omega) (by omega)]; omega
    by_cases hs : x < 128
    · rw [if_neg (by simp; omega), if_neg hne]
      unfold F.baizeref01_number.c2 numGo
      rw [if_neg (by simp), if_neg (by simp; omega), if_neg h10, hg]
      by_cases hz : x = 0 ∧ 0 < i
      · rw [if_pos hz, if_pos (by simp; omega), if_pos ⟨by omega, hlt⟩, if_pos (by simpa using hz.1), fin']
      rw [if_neg hz]
      have c3t : (i = 9 → getI (p ++ x :: r) 9 = x) := by
        intro h
        rw [show (i : Int) = 9 by omega] at hg
        exact hg
      have c3f : ¬ (i = 9 ∧ 2 ≤ x % 128) → F.baizeref01_number.c3 (p ++ x :: r) (i : Int) false = some (valL p + x * 128 ^ i, (i : Int) + 1, 0) := by
        intro h9
        unfold F.baizeref01_number.c3
        rw [if_neg (by simp)]
        have hv := valL_bound p
        rw [hp] at hv
        have htk : (p ++ x :: r).take (i + 1) = p ++ [x] := by
          rw [← hp, List.take_length_add_append]; simp
        have hval : valL ((p ++ x :: r).take (i + 1)) = valL p + x * 128 ^ i := by
          rw [htk, valL_append, hp]; simp only [valL]
          rw [show x % 128 = x by omega, Int.mul_zero, Int.add_zero, Int.mul_comm]
        have hbd : valL p + x * 128 ^ i < 18446744073709551616 := by
          have hi9 : i ≤ 9 := by omega
          by_cases h : i = 9
          · subst h
            have : x ≤ 1 := by omega
            have e9 : (128 : Int) ^ 9 = 9223372036854775808 := by decide
            rw [e9] at hv ⊢
            omega
          · have hle : (128 : Int) ^ (i + 1) ≤ 128 ^ 9 := by
              rw [pow128, pow128]; exact_mod_cast Nat.pow_le_pow_right (by decide) (by omega)
            have e9 : (128 : Int) ^ 9 = 9223372036854775808 := by decide
            rw [Int.pow_succ, e9] at hle
            have hpos : (0 : Int) < 128 ^ i := Int.pow_pos (by decide)
            have : x * 128 ^ i ≤ 127 * 128 ^ i := Int.mul_le_mul_of_nonneg_right (by omega) (by omega)
            omega
        have := ref_l2 (p ++ x :: r) (i : Int) hb (i + 1) fuel 0 (by simp [hp]) (by rw [fuel_eq]; simp [hp] at hlen; omega) (Int.le_refl _) (by rw [hval, Int.zero_mul]; omega) hlen
        rw [show (((i + 1 : Nat) : Int) - 1) = (i : Int) by omega, hval, Int.zero_mul, Int.zero_add, hw1] at this
        rw [this]; congr 3
      have mid : (if ((i : Int) == 9) = true then (if (0 : Int) ≤ 9 ∧ 9 < ((p ++ x :: r).length : Int) then (F.baizeref01_number.c3 (p ++ x :: r) (i : Int) (decide ((getI (p ++ x :: r) 9) > 1))) else none) else (F.baizeref01_number.c3 (p ++ x :: r) (i : Int) false)) =
          some (if i = 9 ∧ 2 ≤ x % 128 then (0, 0, 3) else if x < 128 then (valL p + x * 128 ^ i, (i : Int) + 1, 0) else numGo r (i + 1) (valL p + x % 128 * 128 ^ i)) := by
        by_cases h : i = 9
        · rw [if_pos (by simp; omega), if_pos ⟨by omega, by omega⟩, c3t h]
          by_cases h2 : 2 ≤ x % 128
          · rw [if_pos ⟨h, h2⟩, show decide (x > 1) = true by simp; omega, fin']
          · rw [if_neg (fun q => h2 q.2), show decide (x > 1) = false by simp; omega, c3f (fun q => h2 q.2), if_pos hs]
        · rw [if_neg (by simp; omega), if_neg (fun q => h q.1), c3f (fun q => h q.1), if_pos hs]
      by_cases hi0 : 0 < i
      · rw [if_pos (by simp; omega), if_pos ⟨by omega, hlt⟩, if_neg (by simp; omega)]
        exact mid
      · rw [if_neg (by simp; omega)]
        exact mid
    · rw [if_pos (by simp; omega), hw1]
      have ih := ref_l1 r (p ++ [x]) k (i + 1) (by simp [hp]) (by omega) (by simpa using hb) (by
        intro y hy
        rcases List.mem_append.1 hy with hy | hy
        · exact hpb y hy
        · simp at hy; omega) (by simp at hk; omega) (by simpa using hlen)
      rw [List.append_assoc] at ih
      rw [show ([x] ++ r : List Int) = x :: r from rfl] at ih
      rw [ih, valL_append, hp]
      conv => rhs; unfold numGo
      rw [if_neg h10, if_neg (by omega), if_neg hs]
      have hvv : valL [x] = x % 128 := by simp [valL]
      rw [hvv, Int.mul_comm (128 ^ i)]
      by_cases h9 : i = 9 ∧ 2 ≤ x % 128
      · rw [if_pos h9, h9.1]
        cases r with
        | nil => rfl
        | cons y r => simp [numGo]
      · rw [if_neg h9]

theorem ref_number_eq {l : List Int} (hb : Byts l) (hl : l.length ≤ 9223372036854775000) : F.baizeref01_number l = some (numGo l 0 0) := by
  have := ref_l1 l [] fuel 0 rfl (by omega) (by simpa using hb) (by simp) (by rw [fuel_eq]; omega) (by simpa using hl)
  simpa [F.baizeref01_number, valL] using this

theorem ref_Read_eq {B : List Int} (hb : Byts B) (hl : B.length ≤ 9223372036854775000) {at0 : Nat} (ha : at0 ≤ B.length) (e most : Int) :
    F.baizeref01_Read B (at0 : Int) e most = some (B, (B.length : Int) - ((rd (B.drop at0) e most).2.1.length : Int), (rd (B.drop at0) e most).2.2, (rd (B.drop at0) e most).1) := by
  have hbd := hb.drop at0
  have hp := numGo_prop (B.drop at0) 0 0 (by omega) hbd (by simp)
  have hdl : (B.drop at0).length = B.length - at0 := List.length_drop ..
  unfold F.baizeref01_Read rd
  by_cases he : e = 0
  case neg => simp [he]; omega
  have hs : sliceI B (at0 : Int) (B.length : Int) = B.drop at0 := by
    unfold sliceI; rw [List.take_of_length_le]; · simp
    · simp
  rw [if_neg (by simp [he]), if_pos (by omega), hs, ref_number_eq hbd (by rw [hdl]; omega)]
  generalize numGo (B.drop at0) 0 0 = q at hp ⊢
  obtain ⟨n, k, f⟩ := q
  simp only [] at hp ⊢
  subst he
  unfold F.baizeref01_Read.c2 F.baizeref01_Read.c1 F.baizeref01_Fail
  rcases hp with ⟨rfl, h1, h2, h3, h4⟩ | ⟨h, rfl, rfl⟩
  · by_cases hm : n > most
    · simp [hm]; omega
    · have hw : IntKind.i64.wrap ((at0 : Int) + k) = (at0 : Int) + k := wrap_id (by omega) (by omega)
      simp [hm, hw]
      omega
  · simp [h]; omega

theorem ref_Some_eq {B : List Int} (hb : Byts B) (hl : B.length ≤ 140737488355328) {at0 : Nat} (ha : at0 ≤ B.length) (e : Int) {most : Int} (h0 : 0 ≤ most) (h1 : most ≤ 9223372036854775000) :
    F.baizeref01_Some B (at0 : Int) e most = some (B, (B.length : Int) - ((rdB (B.drop at0) e most).2.1.length : Int), (rdB (B.drop at0) e most).2.2, (rdB (B.drop at0) e most).1) := by
  have hbd := hb.drop at0
  have hp := numGo_prop (B.drop at0) 0 0 (by omega) hbd (by simp)
  have hdl : (B.drop at0).length = B.length - at0 := List.length_drop ..
  unfold F.baizeref01_Some
  by_cases he : e = 0
  case neg => unfold rdB; simp [he]; omega
  rw [if_neg (by simp [he]), ref_Read_eq hb (by omega) ha, Option.bind_some]
  subst he
  simp only []
  rw [show decide (most < 0) = false from decide_eq_false (by omega)]
  unfold rd rdB
  generalize numGo (B.drop at0) 0 0 = q at hp ⊢
  obtain ⟨n, k, f⟩ := q
  simp only [] at hp ⊢
  unfold F.baizeref01_Some.c1 F.baizeref01_Fail
  rcases hp with ⟨rfl, g1, g2, g3, g4⟩ | ⟨h, rfl, rfl⟩
  case inr => simp [h]; omega
  have hany : ¬ n > 18446744073709551615 := by omega
  simp only [ne_eq, not_true_eq_false, if_false, hany, bne_self_eq_false, Bool.false_eq_true]
  have hat : (B.length : Int) - (((B.drop at0).drop k.toNat).length : Int) = (at0 : Int) + k := by rw [List.length_drop, hdl]; omega
  rw [hat]
  have hm : IntKind.u64.wrap most = most := by rw [wrap_u64]; omega
  have hk : IntKind.u64.wrap (IntKind.i64.wrap ((B.length : Int) - ((at0 : Int) + k))) = (B.length : Int) - ((at0 : Int) + k) := by rw [wrap_id (by omega) (by omega), wrap_u64]; omega
  rw [hm, hk, hdl]
  by_cases c1 : n > most
  · simp [c1]; omega
  by_cases c2 : n > ((B.length - at0 : Nat) : Int) - k
  · have c2' : n > (B.length : Int) - ((at0 : Int) + k) := by omega
    simp [c1, c2, c2']; omega
  have c2' : ¬ n > (B.length : Int) - ((at0 : Int) + k) := by omega
  have hw : IntKind.i64.wrap ((at0 : Int) + k + IntKind.i64.wrap n) = (at0 : Int) + k + n := by rw [wrap_id (x := n) (by omega) (by omega), wrap_id (by omega) (by omega)]
  have hs : sliceI B ((at0 : Int) + k) ((at0 : Int) + k + n) = ((B.drop at0).drop k.toNat).take n.toNat := by
    unfold sliceI; rw [List.drop_drop]; congr 1
    · omega
    · congr 1; omega
  have hcc : ([] : List Int).length + (((B.drop at0).drop k.toNat).take n.toNat).length ≤ 140737488355328 := by rw [List.length_nil, Nat.zero_add, List.length_take, List.length_drop, List.length_drop]; omega
  rw [if_neg (by simpa using c1), if_neg (by simpa using c2'), hw, if_pos (by omega), hs, if_pos hcc, List.nil_append, if_neg c1, if_neg c2]
  simp only [List.length_drop, Option.some.injEq, Prod.mk.injEq, and_true, true_and]
  omega

theorem ref_End_eq (B : List Int) (x1 e : Int) : F.baizeref01_End B x1 e = some (if e ≠ 0 then e else if x1 < (B.length : Int) then 5 else 0) := by
  unfold F.baizeref01_End F.baizeref01_End.c1
  by_cases he : e = 0
  · subst he
    by_cases h : x1 < (B.length : Int) <;> simp [h]
  · simp [he]

end Go.Proofs.Ythfmgobnanifnaa
