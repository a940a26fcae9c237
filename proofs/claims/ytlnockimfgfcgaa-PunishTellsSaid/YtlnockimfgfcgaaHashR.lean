/-
  Plain facts of digests: the document's are the program's.
-/
import Derived.Test.YtlnockimfgfcgaaHashP
namespace Go.Proofs.Ytlnockimfgfcgaa
open Go.Lab
set_option maxRecDepth 10000

theorem ref_Num2_l1 (d : Arr Int 8) (hb : Byts d.1) : ∀ (j k : Nat) (a : Int), j ≤ 8 → j < k → 0 ≤ a → a * 256 ^ j + val256 (d.1.take j) < 18446744073709551616 →
    F.baizeref02_Num.l1 d k a ((j : Int) - 1) = some (a * 256 ^ j + val256 (d.1.take j))
  | 0, k + 1, a, _, _, _, _ => by
    unfold F.baizeref02_Num.l1
    rw [if_neg (by simp)]
    simp [val256]
  | j + 1, k + 1, a, hj, hk, ha, hs => by
    have hlt : j < d.1.length := by rw [d.2]; omega
    have hx := hb d.1[j] (List.getElem_mem hlt)
    have hg : aget d (((j + 1 : Nat) : Int) - 1) = d.1[j] := by
      unfold aget
      rw [List.getD_eq_getElem?_getD, show (((j + 1 : Nat) : Int) - 1).toNat = j by omega, List.getElem?_eq_getElem hlt]; rfl
    have ht : val256 (d.1.take (j + 1)) = val256 (d.1.take j) + 256 ^ j * d.1[j] := by
      rw [List.take_add_one, List.getElem?_eq_getElem hlt, Option.toList_some, val256_append, List.length_take, Nat.min_eq_left (by omega)]
      simp [val256]
    have hv := val256_bound (hb.take j)
    have e : (a * 256 + d.1[j]) * 256 ^ j + val256 (d.1.take j) = a * 256 ^ (j + 1) + val256 (d.1.take (j + 1)) := by
      rw [ht, Int.pow_succ, Int.add_mul, Int.mul_assoc a 256, Int.mul_comm 256 (256 ^ j), Int.mul_comm d.1[j]]; omega
    have hpos : (0 : Int) < 256 ^ j := Int.pow_pos (by decide)
    have hsm : a * 256 + d.1[j] < 18446744073709551616 := by
      have h1 : 0 ≤ (a * 256 + d.1[j]) := by omega
      have h2 : (a * 256 + d.1[j]) * 1 ≤ (a * 256 + d.1[j]) * 256 ^ j := Int.mul_le_mul_of_nonneg_left (by omega) h1
      omega
    unfold F.baizeref02_Num.l1
    rw [if_pos (by simp), if_pos ⟨by omega, by omega⟩, hg]
    have w1 : IntKind.u64.wrap (a * 256) = a * 256 := by rw [wrap_u64]; omega
    have w2 : IntKind.u64.wrap d.1[j] = d.1[j] := by rw [wrap_u64]; omega
    have w3 : IntKind.u64.wrap (a * 256 + d.1[j]) = a * 256 + d.1[j] := by rw [wrap_u64]; omega
    have w4 : IntKind.i64.wrap (((j + 1 : Nat) : Int) - 1 - 1) = (j : Int) - 1 := by rw [wrap_id (by omega) (by omega)]; omega
    rw [w1, w2, w3, w4, ref_Num2_l1 d hb j k (a * 256 + d.1[j]) (by omega) (by omega) (by omega) (by rw [e]; exact hs), e]

theorem ref_Num2_eq {d : Arr Int 8} (hb : Byts d.1) : F.baizeref02_Num d = some (val256 d.1) := by
  have ht : d.1.take 8 = d.1 := List.take_of_length_le (by rw [d.2]; omega)
  have := ref_Num2_l1 d hb 8 fuel 0 (by omega) (by rw [fuel_eq]; omega) (Int.le_refl _) (by rw [ht, Int.zero_mul, Int.zero_add]; exact (val256_8 hb).2)
  rw [ht, Int.zero_mul, Int.zero_add] at this
  exact this

theorem FromNum2_l1 (n : Int) (h0 : 0 ≤ n) (h1 : n < 18446744073709551616) (k : Nat) : F.baizeref02_FromNum.l1 (k + 9) n (zA 8) 0 = some (fnum n) := by
  have w : ∀ z : Int, 0 ≤ z → z ≤ 64 → IntKind.i64.wrap z = z := fun z h1 h2 => wrap_id (by omega) (by omega)
  have td : ∀ m : Int, 0 ≤ m → m < 18446744073709551616 → IntKind.u64.wrap (m.tdiv 256) = m / 256 := by
    intro m a b; rw [Int.tdiv_eq_ediv_of_nonneg a, wrap_u64]; omega
  have tm : ∀ m : Int, 0 ≤ m → IntKind.u8.wrap (m.tmod 256) = m % 256 := by
    intro m a; rw [Int.tmod_eq_emod_of_nonneg a, wrap_byte]; omega
  have a1 := td n h0 h1
  have a2 := td (n / 256) (by omega) (by omega)
  have a3 := td (n / 256 / 256) (by omega) (by omega)
  have a4 := td (n / 256 / 256 / 256) (by omega) (by omega)
  have a5 := td (n / 256 / 256 / 256 / 256) (by omega) (by omega)
  have a6 := td (n / 256 / 256 / 256 / 256 / 256) (by omega) (by omega)
  have a7 := td (n / 256 / 256 / 256 / 256 / 256 / 256) (by omega) (by omega)
  have b0 := tm n h0
  have b1 := tm (n / 256) (by omega)
  have b2 := tm (n / 256 / 256) (by omega)
  have b3 := tm (n / 256 / 256 / 256) (by omega)
  have b4 := tm (n / 256 / 256 / 256 / 256) (by omega)
  have b5 := tm (n / 256 / 256 / 256 / 256 / 256) (by omega)
  have b6 := tm (n / 256 / 256 / 256 / 256 / 256 / 256) (by omega)
  have b7 := tm (n / 256 / 256 / 256 / 256 / 256 / 256 / 256) (by omega)
  simp only [F.baizeref02_FromNum.l1]
  simp (config := { decide := true }) only [w, if_true, Int.reduceLT, Int.reduceLE, Int.reduceAdd, and_self, decide_true, decide_false, Bool.false_eq_true, if_false]
  simp only [a1, a2, a3, a4, a5, a6, a7, b0, b1, b2, b3, b4, b5, b6, b7]
  congr 1
  apply Subtype.ext
  simp only [aset, zA, fnum]
  simp
  refine ⟨?_, ?_, ?_, ?_, ?_, ?_⟩ <;> congr 1 <;> omega

theorem FromNum2_eq {n : Int} (h0 : 0 ≤ n) (h1 : n < 18446744073709551616) : F.baizeref02_FromNum n = some (fnum n) := by
  unfold F.baizeref02_FromNum
  rw [show fuel = 9223372036854775799 + 9 from rfl]
  exact FromNum2_l1 n h0 h1 _

theorem left_eq (x : Int) : F.baizeref02_left x 32 = some (rot x 32 32) ∧ F.baizeref02_left x 24 = some (rot x 24 40) ∧ F.baizeref02_left x 16 = some (rot x 16 48) ∧ F.baizeref02_left x 63 = some (rot x 63 1) := by
  have w1 : IntKind.u64.wrap (64 - 32) = 32 := by decide
  have w2 : IntKind.u64.wrap (64 - 24) = 40 := by decide
  have w3 : IntKind.u64.wrap (64 - 16) = 48 := by decide
  have w4 : IntKind.u64.wrap (64 - 63) = 1 := by decide
  unfold F.baizeref02_left rot
  rw [w1, w2, w3, w4]
  exact ⟨rfl, rfl, rfl, rfl⟩

theorem rstir_step (k : Nat) (s : Int × Int × Int × Int) {r q : Int} (hi : r ≤ 6) (h1 : IntKind.u64.wrap (r + 1) = q) :
    F.baizeref02_Stir.l1 (k + 1) s.1 s.2.1 s.2.2.1 s.2.2.2 r = F.baizeref02_Stir.l1 k (rnd s r).1 (rnd s r).2.1 (rnd s r).2.2.1 (rnd s r).2.2.2 q := by
  conv => lhs; unfold F.baizeref02_Stir.l1
  rw [if_pos (by simpa using hi), h1, (left_eq _).1, Option.bind_some, (left_eq _).2.1, Option.bind_some, (left_eq _).2.2.1, Option.bind_some, (left_eq _).2.2.2, Option.bind_some]
  rfl

theorem rstir_eq (s : Int × Int × Int × Int) : F.baizeref02_Stir s.1 s.2.1 s.2.2.1 s.2.2.2 = some (stir6 s) := by
  unfold F.baizeref02_Stir
  rw [show fuel = 9223372036854775801 + 1 + 1 + 1 + 1 + 1 + 1 + 1 from rfl]
  rw [rstir_step _ s (r := 1) (q := 2) (by decide) (by decide), rstir_step _ _ (r := 2) (q := 3) (by decide) (by decide), rstir_step _ _ (r := 3) (q := 4) (by decide) (by decide),
    rstir_step _ _ (r := 4) (q := 5) (by decide) (by decide), rstir_step _ _ (r := 5) (q := 6) (by decide) (by decide), rstir_step _ _ (r := 6) (q := 7) (by decide) (by decide)]
  unfold F.baizeref02_Stir.l1
  rw [if_neg (by decide)]
  rfl

theorem In_eq (s : Int × Int × Int × Int) (n : Int) : F.baizeref02_In s.1 s.2.1 s.2.2.1 s.2.2.2 n = some (takeS s n) := by
  unfold F.baizeref02_In
  rw [rstir_eq (bitXor .u64 s.1 n, s.2), Option.bind_some]
  rfl

theorem getI_of {l r : List Int} {i : Nat} {x : Int} (h : l.drop i = x :: r) : getI l (i : Int) = x ∧ l.drop (i + 1) = r ∧ i < l.length := by
  have hi : i < l.length := by
    apply Classical.byContradiction
    intro hn
    rw [List.drop_eq_nil_of_le (by omega)] at h; cases h
  have h1 := getI_drop (l := l) (i := (i : Int)) (by omega) (by omega)
  rw [show ((i : Int)).toNat = i by omega, show ((i : Int) + 1).toNat = i + 1 by omega, h] at h1
  injection h1 with h1 h2
  exact ⟨h1.symm, h2.symm, hi⟩

theorem fill_l3 (nx : Int → Int → Int → Int → Int → Option (Int × Int × Int × Int)) (all : List Int) (s : Int × Int × Int × Int) (i : Nat) (hl : all.length ≤ 140737488355400) (k : Nat) {c0 c1 c2 c3 c4 c5 c6 c7 : Int} {r : List Int} (h : all.drop i = c0 :: c1 :: c2 :: c3 :: c4 :: c5 :: c6 :: c7 :: r)
    (hb : Byts [c0, c1, c2, c3, c4, c5, c6, c7]) :
    F.baizeref02_Bytes.l3 nx all s.1 s.2.1 s.2.2.1 s.2.2.2 (i : Int) (k + 9) (zA 8) 0 = nx (takeS s (val256 [c0, c1, c2, c3, c4, c5, c6, c7])).1 (takeS s (val256 [c0, c1, c2, c3, c4, c5, c6, c7])).2.1 (takeS s (val256 [c0, c1, c2, c3, c4, c5, c6, c7])).2.2.1 (takeS s (val256 [c0, c1, c2, c3, c4, c5, c6, c7])).2.2.2 ((i + 8 : Nat) : Int) := by
  obtain ⟨g0, h, p0⟩ := getI_of h
  obtain ⟨g1, h, p1⟩ := getI_of h
  obtain ⟨g2, h, p2⟩ := getI_of h
  obtain ⟨g3, h, p3⟩ := getI_of h
  obtain ⟨g4, h, p4⟩ := getI_of h
  obtain ⟨g5, h, p5⟩ := getI_of h
  obtain ⟨g6, h, p6⟩ := getI_of h
  obtain ⟨g7, h, p7⟩ := getI_of h
  have st : ∀ (j : Nat) (kk : Nat) (d : Arr Int 8) (c : Int), j < 8 → getI all ((i + j : Nat) : Int) = c → i + j < all.length →
      F.baizeref02_Bytes.l3 nx all s.1 s.2.1 s.2.2.1 s.2.2.2 (i : Int) (kk + 1) d (j : Int) = F.baizeref02_Bytes.l3 nx all s.1 s.2.1 s.2.2.1 s.2.2.2 (i : Int) kk (aset d (j : Int) c) ((j + 1 : Nat) : Int) := by
    intro j kk d c hj hg hlt
    have w1 : IntKind.i64.wrap ((i : Int) + (j : Int)) = ((i + j : Nat) : Int) := by rw [wrap_id (by omega) (by omega)]; omega
    have w2 : IntKind.i64.wrap ((j : Int) + 1) = ((j + 1 : Nat) : Int) := by rw [wrap_id (by omega) (by omega)]; omega
    conv => lhs; unfold F.baizeref02_Bytes.l3
    rw [if_pos (by simp; omega), w1, w2, if_pos (by omega), if_pos (by omega), hg]
  have e0 := st 0 (k + 8) (zA 8) c0 (by omega) g0 (by omega)
  have e1 := st 1 (k + 7) (aset (zA 8) 0 c0) c1 (by omega) g1 (by omega)
  have e2 := st 2 (k + 6) (aset (aset (zA 8) 0 c0) 1 c1) c2 (by omega) g2 (by omega)
  have e3 := st 3 (k + 5) (aset (aset (aset (zA 8) 0 c0) 1 c1) 2 c2) c3 (by omega) g3 (by omega)
  have e4 := st 4 (k + 4) (aset (aset (aset (aset (zA 8) 0 c0) 1 c1) 2 c2) 3 c3) c4 (by omega) g4 (by omega)
  have e5 := st 5 (k + 3) (aset (aset (aset (aset (aset (zA 8) 0 c0) 1 c1) 2 c2) 3 c3) 4 c4) c5 (by omega) g5 (by omega)
  have e6 := st 6 (k + 2) (aset (aset (aset (aset (aset (aset (zA 8) 0 c0) 1 c1) 2 c2) 3 c3) 4 c4) 5 c5) c6 (by omega) g6 (by omega)
  have e7 := st 7 (k + 1) (aset (aset (aset (aset (aset (aset (aset (zA 8) 0 c0) 1 c1) 2 c2) 3 c3) 4 c4) 5 c5) 6 c6) c7 (by omega) g7 (by omega)
  have ed : aset (aset (aset (aset (aset (aset (aset (aset (zA 8) 0 c0) 1 c1) 2 c2) 3 c3) 4 c4) 5 c5) 6 c6) 7 c7 = (⟨[c0, c1, c2, c3, c4, c5, c6, c7], rfl⟩ : Arr Int 8) := Subtype.ext rfl
  refine e0.trans (e1.trans (e2.trans (e3.trans (e4.trans (e5.trans (e6.trans (e7.trans ?_)))))))
  show F.baizeref02_Bytes.l3 nx all s.1 s.2.1 s.2.2.1 s.2.2.2 (i : Int) (k + 1) (aset (aset (aset (aset (aset (aset (aset (aset (zA 8) 0 c0) 1 c1) 2 c2) 3 c3) 4 c4) 5 c5) 6 c6) 7 c7) 8 = _
  rw [ed]
  conv => lhs; unfold F.baizeref02_Bytes.l3
  have w3 : IntKind.i64.wrap ((i : Int) + 8) = ((i + 8 : Nat) : Int) := by rw [wrap_id (by omega) (by omega)]; omega
  rw [if_neg (by decide), ref_Num2_eq (d := ⟨[c0, c1, c2, c3, c4, c5, c6, c7], rfl⟩) hb, Option.bind_some, In_eq, Option.bind_some, w3]

theorem take8 {l : List Int} (h : 8 ≤ l.length) : ∃ c0 c1 c2 c3 c4 c5 c6 c7 r, l = c0 :: c1 :: c2 :: c3 :: c4 :: c5 :: c6 :: c7 :: r := by
  match l, h with
  | c0 :: c1 :: c2 :: c3 :: c4 :: c5 :: c6 :: c7 :: r, _ => exact ⟨c0, c1, c2, c3, c4, c5, c6, c7, r, rfl⟩

theorem val256_zeros : ∀ z : Nat, val256 (List.replicate z 0) = 0
  | 0 => rfl
  | z + 1 => by simp [List.replicate_succ, val256, val256_zeros z]

theorem rchunk (l all : List Int) (hl : all.length ≤ 140737488355400) (hb : Byts all) (k : Nat) (s : Int × Int × Int × Int) (i : Nat) (h : i + 8 ≤ all.length) :
    F.baizeref02_Bytes.l2 l all (k + 1) s.1 s.2.1 s.2.2.1 s.2.2.2 (i : Int) = F.baizeref02_Bytes.l2 l all k (takeS s (val256 ((all.drop i).take 8))).1 (takeS s (val256 ((all.drop i).take 8))).2.1 (takeS s (val256 ((all.drop i).take 8))).2.2.1 (takeS s (val256 ((all.drop i).take 8))).2.2.2 ((i + 8 : Nat) : Int) := by
  obtain ⟨c0, c1, c2, c3, c4, c5, c6, c7, r, hd⟩ := take8 (l := all.drop i) (by rw [List.length_drop]; omega)
  have hbd := hb.drop i
  rw [hd] at hbd
  have hb8 : Byts [c0, c1, c2, c3, c4, c5, c6, c7] := fun y hy => hbd y (by simp at hy ⊢; rcases hy with h | h | h | h | h | h | h | h <;> simp [h])
  have ht : (all.drop i).take 8 = [c0, c1, c2, c3, c4, c5, c6, c7] := by rw [hd]; rfl
  rw [ht]
  conv => lhs; unfold F.baizeref02_Bytes.l2
  rw [if_pos (by simp; omega), show fuel = 9223372036854775799 + 9 from rfl, fill_l3 _ all s i hl _ hd hb8]

theorem rbytes_l2 (l all : List Int) (z : Nat) (ha : all = l ++ 1 :: List.replicate z 0) (hz : z < 8) (hm : all.length % 8 = 0) (hl : l.length ≤ 140737488355000) (hb : Byts l) : ∀ (j k : Nat) (s : Int × Int × Int × Int) (i : Nat), i % 8 = 0 → i ≤ l.length → l.length - i < j → j + 1 ≤ k →
    F.baizeref02_Bytes.l2 l all k s.1 s.2.1 s.2.2.1 s.2.2.2 (i : Int) = some (takeS (absorb j s (l.drop i)) (l.length : Int))
  | j + 1, k + 1, s, i, h8, hi, hj, hk => by
    have hla : all.length = l.length + 1 + z := by rw [ha]; simp; omega
    have hba : Byts all := by
      rw [ha]; refine hb.append fun y hy => ?_
      simp at hy
      omega
    have hd : all.drop i = l.drop i ++ 1 :: List.replicate z 0 := by rw [ha, List.drop_append_of_le_length hi]
    rw [rchunk l all (by omega) hba k s i (by omega)]
    unfold absorb
    by_cases hc : (l.drop i).length ≥ 8
    · have ht : (all.drop i).take 8 = (l.drop i).take 8 := by rw [hd, List.take_append_of_le_length hc]
      rw [List.length_drop] at hc
      rw [ht, if_pos (by rw [List.length_drop]; exact hc), rbytes_l2 l all z ha hz hm hl hb j k _ (i + 8) (by omega) (by omega) (by omega) (by omega), List.drop_drop]
    · rw [List.length_drop] at hc
      have hall : all.length = i + 8 := by omega
      have ht : (all.drop i).take 8 = l.drop i ++ 1 :: List.replicate z 0 := by rw [List.take_of_length_le (by rw [List.length_drop]; omega), hd]
      have hv : val256 ((all.drop i).take 8) = val256 (l.drop i) + 256 ^ (l.drop i).length := by
        rw [ht, val256_append]
        simp [val256, val256_zeros]
      have hu : IntKind.u64.wrap (l.length : Int) = (l.length : Int) := by rw [wrap_u64]; omega
      rw [if_neg (by rw [List.length_drop]; exact hc), hv]
      match k, hk with
      | k + 1, _ =>
        conv => lhs; unfold F.baizeref02_Bytes.l2
        rw [if_neg (by simp; omega), In_eq, Option.bind_some, hu]

theorem rpad_l1 (s : Int × Int × Int × Int) (l : List Int) : ∀ (j k : Nat) (a : List Int), j < 8 → (a.length + j) % 8 = 0 → j < k → a.length + j ≤ 140737488355328 →
    F.baizeref02_Bytes.l1 s.1 s.2.1 s.2.2.1 s.2.2.2 l k a = F.baizeref02_Bytes.l2 l (a ++ List.replicate j 0) fuel s.1 s.2.1 s.2.2.1 s.2.2.2 0
  | 0, k + 1, a, _, hm, _, _ => by
    unfold F.baizeref02_Bytes.l1
    have : ((a.length : Int).tmod 8) = 0 := by rw [Int.tmod_eq_emod_of_nonneg (by omega)]; omega
    rw [if_neg (by simp [this])]
    simp
  | j + 1, k + 1, a, hj, hm, hk, hl => by
    unfold F.baizeref02_Bytes.l1
    have : ((a.length : Int).tmod 8) ≠ 0 := by rw [Int.tmod_eq_emod_of_nonneg (by omega)]; omega
    rw [if_pos (by simpa using this), if_pos (by simp; omega), rpad_l1 s l j k (a ++ [0]) (by omega) (by simp; omega) (by omega) (by simp; omega)]
    simp [List.replicate_succ]

theorem rOf_eq {l : List Int} (hb : Byts l) (hl : l.length ≤ 140737488355000) : F.baizeref02_Of l = some (hOf l) := by
  obtain ⟨j, hj, hm⟩ : ∃ j, j < 8 ∧ (l.length + 1 + j) % 8 = 0 := ⟨(7 - l.length % 8), by omega, by omega⟩
  unfold F.baizeref02_Of F.baizeref02_Begin
  rw [Option.bind_some]
  simp only []
  unfold F.baizeref02_Bytes
  rw [if_pos (by simp; omega), if_pos (by simp; omega)]
  have h1 := rpad_l1 (beg 1) l j fuel (([] : List Int) ++ l ++ [1]) hj (by simp; omega) (by rw [fuel_eq]; omega) (by simp; omega)
  have h2 := rbytes_l2 l (([] : List Int) ++ l ++ [1] ++ List.replicate j 0) j (by simp) hj (by simp; omega) hl hb (l.length + 1) fuel (beg 1) 0 rfl (by omega) (by omega) (by rw [fuel_eq]; omega)
  rw [List.drop_zero] at h2
  have h3 : F.baizeref02_Bytes.l1 2611923443488327891 1376283091369227076 11820040416388919760 1 l fuel (([] : List Int) ++ l ++ [1]) = some (bytesS (beg 1) l) := h1.trans h2
  rw [h3, Option.bind_some]
  unfold hOf
  have hn := outN_u64 (bytesS (beg 1) l)
  generalize bytesS (beg 1) l = s at hn ⊢
  obtain ⟨a, b, c, d⟩ := s
  unfold F.baizeref02_Out
  unfold outN at hn ⊢
  simp only [] at hn ⊢
  rw [FromNum2_eq hn.1 hn.2, Option.bind_some, Option.bind_some]
end Go.Proofs.Ytlnockimfgfcgaa
