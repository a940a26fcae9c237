/-
  Plain facts of numbers' bytes: what the program's reader and the document's reader of a number come to, and their writers.
-/
import Derived.Test.YtjcmjedphijhjaaWTx2
import Derived.Test.YtjcmjedphijhjaaLabL
import Derived.KernelRfl
namespace Go.Proofs.Ytjcmjedphijhjaa
open Go.Lab

/-- Bytes. -/
def Byts (l : List Int) : Prop := ∀ y ∈ l, 0 ≤ y ∧ y < 256

theorem byts_wf {l : List Int} (h : ∀ y ∈ l, (Lit.int .u8 y).wf = true) : Byts l := by
  intro y hy
  have := h y hy
  simp [Lit.wf, IntKind.min, IntKind.max, IntKind.signed, IntKind.bits] at this
  omega
theorem Byts.drop {l : List Int} (h : Byts l) (n : Nat) : Byts (l.drop n) := fun y hy => h y (List.mem_of_mem_drop hy)
theorem Byts.take {l : List Int} (h : Byts l) (n : Nat) : Byts (l.take n) := fun y hy => h y (List.mem_of_mem_take hy)
theorem Byts.append {l r : List Int} (h : Byts l) (k : Byts r) : Byts (l ++ r) := fun y hy => (List.mem_append.1 hy).elim (h y) (k y)
theorem Byts.cons {x : Int} {l : List Int} (h : Byts (x :: l)) : (0 ≤ x ∧ x < 256) ∧ Byts l := ⟨h x (by simp), fun y hy => h y (by simp [hy])⟩

/-- A number's bytes, read. -/
def numGo : List Int → Nat → Int → Int × Int × Int
  | [], i, _ => if i < 10 then (0, 0, 4) else (0, 0, 3)
  | x :: r, i, acc =>
    if i = 10 then (0, 0, 3)
    else if x = 0 ∧ 0 < i then (0, 0, 3)
    else if i = 9 ∧ 2 ≤ x % 128 then (0, 0, 3)
    else if x < 128 then (acc + x * 128 ^ i, (i : Int) + 1, 0)
    else numGo r (i + 1) (acc + (x % 128) * 128 ^ i)

theorem and127 (x : Int) (h : 0 ≤ x ∧ x < 256) : bitAnd .u8 x 127 = x % 128 := by
  have key : ∀ i : Fin 256, bitAnd .u8 (i.val : Int) 127 = (i.val : Int) % 128 := by decide +kernel
  have := key ⟨x.toNat, by omega⟩
  simpa [Int.toNat_of_nonneg h.1] using this

theorem or128 (x : Int) (h : 0 ≤ x ∧ x < 256) : bitOr .u8 x 128 = 128 + x % 128 := by
  have key : ∀ i : Fin 256, bitOr .u8 (i.val : Int) 128 = 128 + (i.val : Int) % 128 := by decide +kernel
  have := key ⟨x.toNat, by omega⟩
  simpa [Int.toNat_of_nonneg h.1] using this

theorem len8_ok (x : Int) (h : 0 ≤ x ∧ x < 128) : ∃ b, F.math_bits_Len8 x = some b ∧ 0 ≤ b ∧ b ≤ 7 ∧ (2 ≤ b ↔ 2 ≤ x) := by
  have key : ∀ i : Fin 128, (match F.math_bits_Len8 (i.val : Int) with | some b => decide (0 ≤ b ∧ b ≤ 7 ∧ (2 ≤ b ↔ 2 ≤ (i.val : Int))) | none => false) = true := by decide +kernel
  have := key ⟨x.toNat, by omega⟩
  simp only [Int.toNat_of_nonneg h.1] at this
  split at this
  · rename_i b hb
    exact ⟨b, hb, of_decide_eq_true this⟩
  · cases this

theorem bitOr_nat {a b : Nat} (ha : a < 2 ^ 64) (hb : b < 2 ^ 64) : bitOr .u64 (a : Int) (b : Int) = ((a ||| b : Nat) : Int) := by
  have hab : a ||| b < 2 ^ 64 := Nat.or_lt_two_pow ha hb
  unfold bitOr
  rw [wrap_u64]
  rw [BitVec.toNat_or, BitVec.toNat_ofInt, BitVec.toNat_ofInt]
  show ((((a : Int) % ((2 ^ 64 : Nat) : Int)).toNat ||| ((b : Int) % ((2 ^ 64 : Nat) : Int)).toNat : Nat) : Int) % 18446744073709551616 = _
  have e1 : ((a : Int) % ((2 ^ 64 : Nat) : Int)).toNat = a := by omega
  have e2 : ((b : Int) % ((2 ^ 64 : Nat) : Int)).toNat = b := by omega
  rw [e1, e2]
  omega

theorem pow128 (i : Nat) : (128 : Int) ^ i = ((2 ^ (7 * i) : Nat) : Int) := by
  rw [Nat.pow_mul]; norm_cast

/-- What the bits ahead hold, and the next seven ones. -/
theorem or_shift {acc y : Int} {i : Nat} (ha : 0 ≤ acc ∧ acc < 128 ^ i) (hy : 0 ≤ y ∧ y < 128) (hi : i ≤ 9) (h9 : i = 9 → y < 2) :
    bitOr .u64 acc (shV true .u64 y (7 * (i : Int))) = acc + y * 128 ^ i ∧ acc + y * 128 ^ i < 128 ^ (i + 1) ∧ 0 ≤ acc + y * 128 ^ i := by
  obtain ⟨a, rfl⟩ := Int.eq_ofNat_of_zero_le ha.1
  obtain ⟨b, rfl⟩ := Int.eq_ofNat_of_zero_le hy.1
  have hb : b < 128 := by omega
  rw [pow128] at ha ⊢
  have ha' : a < 2 ^ (7 * i) := by omega
  have hsh : b * 2 ^ (7 * i) < 2 ^ 64 := by
    by_cases h : i = 9
    · subst h; have := h9 rfl; have hb2 : b < 2 := by omega
      calc b * 2 ^ (7 * 9) ≤ 1 * 2 ^ (7 * 9) := Nat.mul_le_mul_right _ (by omega)
        _ < 2 ^ 64 := by decide
    · calc b * 2 ^ (7 * i) < 128 * 2 ^ (7 * i) := Nat.mul_lt_mul_of_pos_right hb (Nat.two_pow_pos _)
        _ = 2 ^ (7 + 7 * i) := by rw [Nat.pow_add]
        _ ≤ 2 ^ 64 := Nat.pow_le_pow_right (by decide) (by omega)
  have hlt : a < 2 ^ 64 := Nat.lt_of_lt_of_le ha' (Nat.pow_le_pow_right (by decide) (by omega))
  have hs : shV true .u64 (b : Int) (7 * (i : Int)) = ((b <<< (7 * i) : Nat) : Int) := by
    unfold shV
    rw [if_pos rfl, show (7 * (i : Int)).toNat = 7 * i by omega, show IntKind.u64.bits = 64 from rfl, Nat.min_eq_left (by omega), wrap_u64, Nat.shiftLeft_eq]
    have : ((b : Int) * 2 ^ (7 * i)) = ((b * 2 ^ (7 * i) : Nat) : Int) := by push_cast; rfl
    rw [this]; omega
  have hor : a ||| b <<< (7 * i) = a + b * 2 ^ (7 * i) := by
    rw [Nat.or_comm, ← Nat.shiftLeft_add_eq_or_of_lt ha', Nat.shiftLeft_eq]; omega
  have hsum : a + b * 2 ^ (7 * i) < 2 ^ (7 * (i + 1)) := by
    have : (b + 1) * 2 ^ (7 * i) ≤ 128 * 2 ^ (7 * i) := Nat.mul_le_mul_right _ (by omega)
    rw [Nat.succ_mul] at this
    have e : 2 ^ (7 * (i + 1)) = 128 * 2 ^ (7 * i) := by rw [show 7 * (i + 1) = 7 + 7 * i by omega, Nat.pow_add]
    omega
  refine ⟨?_, ?_, ?_⟩
  · show bitOr .u64 (a : Int) (shV true .u64 (b : Int) (7 * (i : Int))) = _
    rw [hs, bitOr_nat hlt (by rw [Nat.shiftLeft_eq]; exact hsh), hor]
    push_cast; rfl
  · rw [pow128]
    have : ((a : Int) + (b : Int) * ((2 ^ (7 * i) : Nat) : Int)) = ((a + b * 2 ^ (7 * i) : Nat) : Int) := by push_cast; rfl
    show (a : Int) + (b : Int) * ((2 ^ (7 * i) : Nat) : Int) < _
    rw [this]; exact_mod_cast hsum
  · show 0 ≤ (a : Int) + (b : Int) * ((2 ^ (7 * i) : Nat) : Int)
    have : ((a : Int) + (b : Int) * ((2 ^ (7 * i) : Nat) : Int)) = ((a + b * 2 ^ (7 * i) : Nat) : Int) := by push_cast; rfl
    rw [this]; omega

/-! ### The program's reader of a number -/

theorem number_l1 : ∀ (r p : List Int) (k i : Nat) (acc : Int), p.length = i → i ≤ 10 → Byts r → (0 ≤ acc ∧ acc < 128 ^ i) → r.length < k → (p ++ r).length ≤ 9223372036854775000 →
    F.octet_number.l1 (p ++ r) k acc (i : Int) = some (numGo r i acc)
  | [], p, k + 1, i, acc, hp, hi, _, _, _, _ => by
    unfold F.octet_number.l1
    rw [List.append_nil, hp, if_neg (by simp)]
    unfold F.octet_number.c1 numGo
    rw [hp]
    by_cases h : i < 10
    · rw [if_pos (by simp; omega), if_pos h]
    · rw [if_neg (by simp; omega), if_neg h]
  | x :: r, p, k + 1, i, acc, hp, hi, hb, ha, hk, hlen => by
    obtain ⟨hx, hb'⟩ := hb.cons
    have hlt : (i : Int) < ((p ++ x :: r).length : Int) := by simp [hp]; omega
    have hg : getI (p ++ x :: r) (i : Int) = x := by
      unfold getI
      rw [List.getD_eq_getElem?_getD, show ((i : Int)).toNat = p.length by omega, List.getElem?_append_right (Nat.le_refl _)]
      simp
    unfold F.octet_number.l1 numGo
    rw [if_pos (by simpa using hlt), if_pos ⟨by omega, hlt⟩]
    by_cases h10 : i = 10
    · subst h10
      rw [if_pos (by rfl), if_pos rfl]
      unfold F.octet_number.c1
      rw [if_neg (by simp [hp]; omega)]
    rw [if_neg (by simp; omega), if_neg h10, hg]
    have h7 : IntKind.i64.wrap (7 * (i : Int)) = 7 * (i : Int) := wrap_id (by omega) (by omega)
    have hw1 : IntKind.i64.wrap ((i : Int) + 1) = ((i + 1 : Nat) : Int) := by rw [wrap_id (by omega) (by omega)]; omega
    have hm : 0 ≤ x % 128 ∧ x % 128 < 128 := by omega
    have hu : IntKind.u64.wrap (x % 128) = x % 128 := by rw [wrap_u64]; omega
    obtain ⟨b, hL, hb0, hb7, hb2⟩ := len8_ok (x % 128) hm
    have hbw : IntKind.i64.wrap (b + 7 * (i : Int)) = b + 7 * (i : Int) := wrap_id (by omega) (by omega)
    have c2 : ∀ q, (q = true ↔ x = 0 ∧ 0 < i) → F.octet_number.c2 (F.octet_number.l1 (p ++ x :: r) k) (p ++ x :: r) acc (i : Int) q =
        some (if x = 0 ∧ 0 < i then (0, 0, 3) else if i = 9 ∧ 2 ≤ x % 128 then (0, 0, 3) else if x < 128 then (acc + x * 128 ^ i, (i : Int) + 1, 0) else numGo r (i + 1) (acc + (x % 128) * 128 ^ i)) := by
      intro q hq
      unfold F.octet_number.c2
      by_cases hz : x = 0 ∧ 0 < i
      · rw [if_pos (hq.2 hz), if_pos hz]
      rw [if_neg (fun h => hz (hq.1 h)), if_neg hz, hg, and127 x hx, hL, Option.bind_some, h7, hbw]
      by_cases h9 : i = 9 ∧ 2 ≤ x % 128
      · rw [if_pos (by simp; omega), if_pos h9]
      rw [if_neg (by simp; omega), if_neg h9, if_pos (by omega), hu]
      obtain ⟨o1, o2, o3⟩ := or_shift ha hm (show i ≤ 9 by omega) (fun h => by omega)
      rw [o1, hw1]
      by_cases hs : x < 128
      · rw [if_pos (by simpa using hs), if_pos hs, show x % 128 = x by omega]; simp
      · rw [if_neg (by simpa using hs), if_neg hs]
        have := number_l1 r (p ++ [x]) k (i + 1) (acc + x % 128 * 128 ^ i) (by simp [hp]) (by omega) hb' ⟨o3, o2⟩ (by simp at hk; omega) (by simpa using hlen)
        rw [List.append_assoc] at this
        exact this
    by_cases hs : x < 128
    · rw [if_pos (by simpa using hs)]
      by_cases hz : x = 0
      · rw [if_pos (by simpa using hz)]
        exact c2 _ (by simp [hz])
      · rw [if_neg (by simpa using hz)]
        exact c2 _ (by simp [hz])
    · rw [if_neg (by simpa using hs)]
      exact c2 _ (by simp; omega)

theorem number_eq {l : List Int} (hb : Byts l) (hl : l.length ≤ 9223372036854775000) : F.octet_number l = some (numGo l 0 0) := by
  have := number_l1 l [] fuel 0 0 rfl (by omega) hb (by simp) (by rw [fuel_eq]; omega) hl
  simpa [F.octet_number] using this

/-! ### The document's reader of a number -/

/-- The value of so many bytes. -/
def valL : List Int → Int
  | [] => 0
  | x :: r => x % 128 + 128 * valL r

theorem valL_bound : ∀ (l : List Int), 0 ≤ valL l ∧ valL l < 128 ^ l.length
  | [] => by simp [valL]
  | x :: r => by
    have ih := valL_bound r
    simp only [valL, List.length_cons, Int.pow_succ]
    omega

theorem valL_append : ∀ (l r : List Int), valL (l ++ r) = valL l + 128 ^ l.length * valL r
  | [], r => by simp [valL]
  | x :: l, r => by
    simp only [List.cons_append, valL, valL_append l r, List.length_cons, Int.pow_succ]
    rw [Int.mul_add, ← Int.mul_assoc, Int.mul_comm 128 (128 ^ l.length), Int.add_assoc]

theorem ref_l2 (l : List Int) (x5 : Int) (hb : Byts l) : ∀ (j k : Nat) (a : Int), j ≤ l.length → j < k → 0 ≤ a → a * 128 ^ j + valL (l.take j) < 18446744073709551616 → l.length ≤ 9223372036854775000 →
    F.baizeref01_number.l2 l x5 k a ((j : Int) - 1) = some (a * 128 ^ j + valL (l.take j), IntKind.i64.wrap (x5 + 1), 0)
  | 0, k + 1, a, _, _, _, _, _ => by
    unfold F.baizeref01_number.l2
    rw [if_neg (by simp)]
    simp [valL]
  | j + 1, k + 1, a, hj, hk, ha, hs, hlen => by
    have hlt : j < l.length := by omega
    have hx := hb l[j] (List.getElem_mem hlt)
    have hg : getI l (((j + 1 : Nat) : Int) - 1) = l[j] := by
      unfold getI
      rw [List.getD_eq_getElem?_getD, show (((j + 1 : Nat) : Int) - 1).toNat = j by omega, List.getElem?_eq_getElem hlt]; rfl
    have ht : valL (l.take (j + 1)) = valL (l.take j) + 128 ^ j * (l[j] % 128) := by
      rw [List.take_add_one, List.getElem?_eq_getElem hlt, Option.toList_some, valL_append, List.length_take, Nat.min_eq_left (by omega)]
      simp [valL]
    have hv := valL_bound (l.take j)
    have e : (128 * a + l[j] % 128) * 128 ^ j + valL (l.take j) = a * 128 ^ (j + 1) + valL (l.take (j + 1)) := by
      rw [ht, Int.pow_succ, Int.add_mul, Int.mul_comm 128 a, Int.mul_assoc a 128, Int.mul_comm 128 (128 ^ j), Int.mul_comm (l[j] % 128)]; omega
    have hpos : (0 : Int) < 128 ^ j := Int.pow_pos (by decide)
    have hsm : 128 * a + l[j] % 128 < 18446744073709551616 := by
      have h1 : 0 ≤ (128 * a + l[j] % 128) := by omega
      have h2 : (128 * a + l[j] % 128) * 1 ≤ (128 * a + l[j] % 128) * 128 ^ j := Int.mul_le_mul_of_nonneg_left (by omega) h1
      omega
    unfold F.baizeref01_number.l2
    rw [if_pos (by simp), if_pos ⟨by omega, by omega⟩, hg, Int.tmod_eq_emod_of_nonneg hx.1]
    have w1 : IntKind.u64.wrap (128 * a) = 128 * a := by rw [wrap_u64]; omega
    have w2 : IntKind.u64.wrap (l[j] % 128) = l[j] % 128 := by rw [wrap_u64]; omega
    have w3 : IntKind.u64.wrap (128 * a + l[j] % 128) = 128 * a + l[j] % 128 := by rw [wrap_u64]; omega
    have w4 : IntKind.i64.wrap (((j + 1 : Nat) : Int) - 1 - 1) = (j : Int) - 1 := by rw [wrap_id (by omega) (by omega)]; omega
    rw [w1, w2, w3, w4, ref_l2 l x5 hb j k (128 * a + l[j] % 128) (by omega) (by omega) (by omega) (by rw [e]; exact hs) hlen, e]

theorem getI_mid {p r : List Int} {x : Int} : getI (p ++ x :: r) (p.length : Int) = x := by
  unfold getI
  rw [List.getD_eq_getElem?_getD, show ((p.length : Int)).toNat = p.length by omega, List.getElem?_append_right (Nat.le_refl _)]
  simp

theorem ref_l1 : ∀ (r p : List Int) (k i : Nat), p.length = i → i ≤ 10 → Byts (p ++ r) → (∀ y ∈ p, 128 ≤ y) → r.length + 1 < k → (p ++ r).length ≤ 9223372036854775000 →
    F.baizeref01_number.l1 (p ++ r) k (i : Int) = some (numGo r i (valL p))
  | [], p, k + 1, i, hp, hi, _, _, _, _ => by
    unfold F.baizeref01_number.l1 F.baizeref01_number.c1 numGo
    rw [List.append_nil, hp, if_neg (by simp), if_neg (by simp), if_pos (by simp)]
    unfold F.baizeref01_number.c2
    by_cases h : i < 10
    · rw [if_pos (by simp; omega), if_pos h]
    · rw [if_neg (by simp; omega), if_neg h, if_pos (by simp; omega)]
      unfold F.baizeref01_number.c3
      rw [if_pos rfl]
  | x :: r, p, k + 1, i, hp, hi, hb, hpb, hk, hlen => by
    have hx := hb x (by simp)
    have hlt : (i : Int) < ((p ++ x :: r).length : Int) := by simp [hp]; omega
    have hg : getI (p ++ x :: r) (i : Int) = x := by rw [← hp]; exact getI_mid
    have hne : ¬ ((i : Int) == ((p ++ x :: r).length : Int)) = true := by simp only [beq_iff_eq]; omega
    have fin : ∀ q, F.baizeref01_number.c3 (p ++ x :: r) (i : Int) true = q → q = some (0, 0, 3) := by
      intro q h; rw [← h]; unfold F.baizeref01_number.c3; rw [if_pos rfl]
    have fin' : F.baizeref01_number.c3 (p ++ x :: r) (i : Int) true = some (0, 0, 3) := fin _ rfl
    unfold F.baizeref01_number.l1
    rw [if_pos (by simpa using hlt)]
    by_cases h10 : i = 10
    · rw [if_neg (by simp; omega)]
      unfold F.baizeref01_number.c1 numGo
      rw [if_neg (by simp), if_neg hne, if_pos h10]
      unfold F.baizeref01_number.c2
      rw [if_neg (by simp), if_pos (by simp; omega), fin']
    rw [if_pos (by simp; omega), if_pos ⟨by omega, hlt⟩, hg]
    unfold F.baizeref01_number.c1
    have hw1 : IntKind.i64.wrap ((i : Int) + 1) = ((i + 1 : Nat) : Int) := by rw [wrap_id (by omega) (by omega)]; omega
    by_cases hs : x < 128
    · rw [if_neg (by simp; omega), if_neg hne]
      unfold F.baizeref01_number.c2 numGo
      rw [if_neg (by simp), if_neg (by simp; omega), if_neg h10, hg]
      by_cases hz : x = 0 ∧ 0 < i
      · rw [if_pos hz, if_pos (by simp; omega), if_pos ⟨by omega, hlt⟩, if_pos (by simpa using hz.1), fin']
      rw [if_neg hz]
      have c3t : (i = 9 → getI (p ++ x :: r) 9 = x) := by
        intro h
        rw [show (i : Int) = 9 by omega] at hg
        exact hg
      have c3f : ¬ (i = 9 ∧ 2 ≤ x % 128) → F.baizeref01_number.c3 (p ++ x :: r) (i : Int) false = some (valL p + x * 128 ^ i, (i : Int) + 1, 0) := by
        intro h9
        unfold F.baizeref01_number.c3
        rw [if_neg (by simp)]
        have hv := valL_bound p
        rw [hp] at hv
        have htk : (p ++ x :: r).take (i + 1) = p ++ [x] := by
          rw [← hp, List.take_length_add_append]; simp
        have hval : valL ((p ++ x :: r).take (i + 1)) = valL p + x * 128 ^ i := by
          rw [htk, valL_append, hp]; simp only [valL]
          rw [show x % 128 = x by omega, Int.mul_zero, Int.add_zero, Int.mul_comm]
        have hbd : valL p + x * 128 ^ i < 18446744073709551616 := by
          have hi9 : i ≤ 9 := by omega
          by_cases h : i = 9
          · subst h
            have : x ≤ 1 := by omega
            have e9 : (128 : Int) ^ 9 = 9223372036854775808 := by decide
            rw [e9] at hv ⊢
            omega
          · have hle : (128 : Int) ^ (i + 1) ≤ 128 ^ 9 := by
              rw [pow128, pow128]; exact_mod_cast Nat.pow_le_pow_right (by decide) (by omega)
            have e9 : (128 : Int) ^ 9 = 9223372036854775808 := by decide
            rw [Int.pow_succ, e9] at hle
            have hpos : (0 : Int) < 128 ^ i := Int.pow_pos (by decide)
            have : x * 128 ^ i ≤ 127 * 128 ^ i := Int.mul_le_mul_of_nonneg_right (by omega) (by omega)
            omega
        have := ref_l2 (p ++ x :: r) (i : Int) hb (i + 1) fuel 0 (by simp [hp]) (by rw [fuel_eq]; simp [hp] at hlen; omega) (Int.le_refl _) (by rw [hval, Int.zero_mul]; omega) hlen
        rw [show (((i + 1 : Nat) : Int) - 1) = (i : Int) by omega, hval, Int.zero_mul, Int.zero_add, hw1] at this
        rw [this]; congr 3
      have mid : (if ((i : Int) == 9) = true then (if (0 : Int) ≤ 9 ∧ 9 < ((p ++ x :: r).length : Int) then (F.baizeref01_number.c3 (p ++ x :: r) (i : Int) (decide ((getI (p ++ x :: r) 9) > 1))) else none) else (F.baizeref01_number.c3 (p ++ x :: r) (i : Int) false)) =
          some (if i = 9 ∧ 2 ≤ x % 128 then (0, 0, 3) else if x < 128 then (valL p + x * 128 ^ i, (i : Int) + 1, 0) else numGo r (i + 1) (valL p + x % 128 * 128 ^ i)) := by
        by_cases h : i = 9
        · rw [if_pos (by simp; omega), if_pos ⟨by omega, by omega⟩, c3t h]
          by_cases h2 : 2 ≤ x % 128
          · rw [if_pos ⟨h, h2⟩, show decide (x > 1) = true by simp; omega, fin']
          · rw [if_neg (fun q => h2 q.2), show decide (x > 1) = false by simp; omega, c3f (fun q => h2 q.2), if_pos hs]
        · rw [if_neg (by simp; omega), if_neg (fun q => h q.1), c3f (fun q => h q.1), if_pos hs]
      by_cases hi0 : 0 < i
      · rw [if_pos (by simp; omega), if_pos ⟨by omega, hlt⟩, if_neg (by simp; omega)]
        exact mid
      · rw [if_neg (by simp; omega)]
        exact mid
    · rw [if_pos (by simp; omega), hw1]
      have ih := ref_l1 r (p ++ [x]) k (i + 1) (by simp [hp]) (by omega) (by simpa using hb) (by
        intro y hy
        rcases List.mem_append.1 hy with hy | hy
        · exact hpb y hy
        · simp at hy; omega) (by simp at hk; omega) (by simpa using hlen)
      rw [List.append_assoc] at ih
      rw [show ([x] ++ r : List Int) = x :: r from rfl] at ih
      rw [ih, valL_append, hp]
      conv => rhs; unfold numGo
      rw [if_neg h10, if_neg (by omega), if_neg hs]
      have hvv : valL [x] = x % 128 := by simp [valL]
      rw [hvv, Int.mul_comm (128 ^ i)]
      by_cases h9 : i = 9 ∧ 2 ≤ x % 128
      · rw [if_pos h9, h9.1]
        cases r with
        | nil => rfl
        | cons y r => simp [numGo]
      · rw [if_neg h9]

theorem ref_number_eq {l : List Int} (hb : Byts l) (hl : l.length ≤ 9223372036854775000) : F.baizeref01_number l = some (numGo l 0 0) := by
  have := ref_l1 l [] fuel 0 rfl (by omega) (by simpa using hb) (by simp) (by rw [fuel_eq]; omega) (by simpa using hl)
  simpa [F.baizeref01_number, valL] using this

/-! ### What is read of bytes -/

theorem numGo_prop : ∀ (l : List Int) (i : Nat) (acc : Int), i ≤ 10 → Byts l → (0 ≤ acc ∧ acc < 128 ^ i) →
    ((numGo l i acc).2.2 = 0 ∧ 0 ≤ (numGo l i acc).1 ∧ (numGo l i acc).1 < 18446744073709551616 ∧ (i : Int) < (numGo l i acc).2.1 ∧ (numGo l i acc).2.1 ≤ (i : Int) + (l.length : Int)) ∨
      ((numGo l i acc).2.2 ≠ 0 ∧ (numGo l i acc).1 = 0 ∧ (numGo l i acc).2.1 = 0)
  | [], i, acc, _, _, _ => by
    unfold numGo
    split <;> simp
  | x :: r, i, acc, hi, hb, ha => by
    obtain ⟨hx, hb'⟩ := hb.cons
    unfold numGo
    split
    · simp
    split
    · simp
    split
    · simp
    have e9 : (128 : Int) ^ 9 = 9223372036854775808 := by decide
    rename_i h10 hz h9
    have hm : 0 ≤ x % 128 ∧ x % 128 < 128 := by omega
    obtain ⟨_, o2, o3⟩ := or_shift ha hm (show i ≤ 9 by omega) (fun h => by omega)
    split
    · rename_i hs
      left
      rw [show x % 128 = x by omega] at o2 o3
      refine ⟨rfl, o3, ?_, by simp; omega, by simp; omega⟩
      show acc + x * 128 ^ i < 18446744073709551616
      by_cases h : i = 9
      · subst h
        have : x ≤ 1 := by omega
        rw [e9] at ha ⊢; omega
      · have hle : (128 : Int) ^ (i + 1) ≤ 128 ^ 9 := by
          rw [pow128, pow128]; exact_mod_cast Nat.pow_le_pow_right (by decide) (by omega)
        rw [e9] at hle; omega
    · have ih := numGo_prop r (i + 1) (acc + x % 128 * 128 ^ i) (by omega) hb' ⟨o3, o2⟩
      rcases ih with ⟨h1, h2, h3, h4, h5⟩ | h
      · left; refine ⟨h1, h2, h3, by omega, by simp only [List.length_cons]; omega⟩
      · exact .inr h

/-- What a read of a number gives: the number, what is left, the error. -/
def rd (l : List Int) (e most : Int) : Int × List Int × Int :=
  if e ≠ 0 then (0, l, e) else if (numGo l 0 0).2.2 ≠ 0 then (0, l, (numGo l 0 0).2.2) else if (numGo l 0 0).1 > most then (0, l, 2)
  else ((numGo l 0 0).1, l.drop (numGo l 0 0).2.1.toNat, 0)

theorem rd_left (l : List Int) (e most : Int) : ∃ m, m ≤ l.length ∧ (rd l e most).2.1 = l.drop m := by
  unfold rd
  split
  · exact ⟨0, by omega, rfl⟩
  split
  · exact ⟨0, by omega, rfl⟩
  split
  · exact ⟨0, by omega, rfl⟩
  · by_cases h : (numGo l 0 0).2.1.toNat ≤ l.length
    · exact ⟨_, h, rfl⟩
    · exact ⟨l.length, by omega, by simp [List.drop_eq_nil_of_le (show l.length ≤ (numGo l 0 0).2.1.toNat by omega)]⟩

theorem rd_num {l : List Int} (hb : Byts l) (e most : Int) : 0 ≤ (rd l e most).1 ∧ (rd l e most).1 < 18446744073709551616 ∧ ((rd l e most).2.2 = 0 → (rd l e most).1 ≤ most) := by
  have hp := numGo_prop l 0 0 (by omega) hb (by simp)
  unfold rd
  split
  · simp; omega
  split
  · simp; omega
  split
  · simp
  · rename_i h1 h2 h3
    rcases hp with ⟨_, h, k, _⟩ | ⟨h, _⟩
    · exact ⟨h, k, fun _ => by simp at h3; exact h3⟩
    · exact absurd h h2

theorem Reader_Num_eq {l : List Int} (hb : Byts l) (hl : l.length ≤ 9223372036854775000) (e most : Int) : F.octet_Reader_Num l e most = some (rd l e most) := by
  have hp := numGo_prop l 0 0 (by omega) hb (by simp)
  unfold F.octet_Reader_Num F.octet_Reader_read F.octet_Reader_Num_1 rd
  by_cases he : e = 0
  case neg => simp [he]
  rw [number_eq hb hl]
  generalize numGo l 0 0 = q at hp ⊢
  obtain ⟨n, k, f⟩ := q
  simp only [] at hp ⊢
  subst he
  simp only [bne_self_eq_false, Bool.false_eq_true, if_false, Option.bind_some, ne_eq, not_true_eq_false]
  unfold F.octet_Reader_Num_1.c2 F.octet_Reader_Num_1.c1
  rcases hp with ⟨rfl, h1, h2, h3, h4⟩ | ⟨h, rfl, rfl⟩
  · by_cases hm : n > most
    · simp [hm]
    · have hk : k ≤ (l.length : Int) := by omega
      have hk0 : 0 ≤ k := by omega
      have hs : sliceI l k (l.length : Int) = l.drop k.toNat := by
        unfold sliceI; rw [List.take_of_length_le]; simp
      simp [hm, hk, hk0, hs]
  · simp [h]

theorem ref_Read_eq {B : List Int} (hb : Byts B) (hl : B.length ≤ 9223372036854775000) {at0 : Nat} (ha : at0 ≤ B.length) (e most : Int) :
    F.baizeref01_Read B (at0 : Int) e most = some (B, (B.length : Int) - ((rd (B.drop at0) e most).2.1.length : Int), (rd (B.drop at0) e most).2.2, (rd (B.drop at0) e most).1) := by
  have hbd := hb.drop at0
  have hp := numGo_prop (B.drop at0) 0 0 (by omega) hbd (by simp)
  have hdl : (B.drop at0).length = B.length - at0 := List.length_drop ..
  unfold F.baizeref01_Read rd
  by_cases he : e = 0
  case neg => simp [he]; omega
  have hs : sliceI B (at0 : Int) (B.length : Int) = B.drop at0 := by
    unfold sliceI; rw [List.take_of_length_le]; · simp
    · simp
  rw [if_neg (by simp [he]), if_pos (by omega), hs, ref_number_eq hbd (by rw [hdl]; omega)]
  generalize numGo (B.drop at0) 0 0 = q at hp ⊢
  obtain ⟨n, k, f⟩ := q
  simp only [] at hp ⊢
  subst he
  unfold F.baizeref01_Read.c2 F.baizeref01_Read.c1 F.baizeref01_Fail
  rcases hp with ⟨rfl, h1, h2, h3, h4⟩ | ⟨h, rfl, rfl⟩
  · by_cases hm : n > most
    · simp [hm]; omega
    · have hw : IntKind.i64.wrap ((at0 : Int) + k) = (at0 : Int) + k := wrap_id (by omega) (by omega)
      simp [hm, hw]
      omega
  · simp [h]; omega

/-! ### A number's bytes, written -/

/-- The bytes of a number. -/
def enc : Nat → Nat → List Int
  | 0, _ => []
  | k + 1, n => if n < 128 then [(n : Int)] else (128 + ((n % 128 : Nat) : Int)) :: enc k (n / 128)
def encN (n : Int) : List Int := enc 10 n.toNat

theorem enc_len : ∀ (k n : Nat), (enc k n).length ≤ k
  | 0, _ => by simp [enc]
  | k + 1, n => by unfold enc; split; simp; simp [enc_len k]
theorem enc_byts : ∀ (k n : Nat), Byts (enc k n)
  | 0, _ => by intro y hy; simp [enc] at hy
  | k + 1, n => by
    unfold enc
    split
    · intro y hy; simp at hy; omega
    · intro y hy
      rcases List.mem_cons.1 hy with rfl | hy
      · omega
      · exact enc_byts k _ y hy
theorem encN_byts (n : Int) : Byts (encN n) := enc_byts _ _
theorem encN_len (n : Int) : (encN n).length ≤ 10 := enc_len _ _

theorem put_l1 : ∀ (j k n : Nat) (l : List Int), n < 128 ^ j → 0 < j → j ≤ 10 → n < 18446744073709551616 → j ≤ k → l.length + j ≤ 140737488355328 → F.octet_PutNum.l1 k (n : Int) l = some (l ++ enc j n)
  | 0, _, _, _, _, h, _, _, _, _ => absurd h (by omega)
  | j + 1, 0, _, _, _, _, _, _, h, _ => absurd h (by omega)
  | j + 1, k + 1, n, l, hn, _, hj, hb, hk, hl => by
    have hu : IntKind.u8.wrap (n : Int) = ((n % 256 : Nat) : Int) := by rw [wrap_byte]; omega
    unfold F.octet_PutNum.l1 enc
    by_cases h : n < 128
    · rw [if_neg (by simp; omega), if_pos (by simp; omega), if_pos h, hu, Nat.mod_eq_of_lt (by omega)]
    · rw [if_pos (by simp; omega), if_pos (by simp; omega), if_neg h, hu, or128 _ (by omega)]
      have hj0 : 0 < j := by
        rcases Nat.eq_zero_or_pos j with h0 | h0
        · subst h0; simp at hn; omega
        · exact h0
      have hsh : shV false .u64 (n : Int) 7 = ((n / 128 : Nat) : Int) := by
        unfold shV
        rw [if_neg (by simp), show (min (7 : Int).toNat IntKind.u64.bits) = 7 from rfl, show (2 : Int) ^ 7 = 128 from rfl]
        rw [Int.fdiv_eq_ediv_of_nonneg _ (by decide)]; omega
      rw [hsh, put_l1 j k (n / 128) _ (by rw [Nat.pow_succ] at hn; exact Nat.div_lt_of_lt_mul (by rw [Nat.mul_comm]; exact hn)) hj0 (by omega) (by omega) (by omega) (by simp; omega)]
      rw [List.append_assoc, show ((n % 256 : Nat) : Int) % 128 = ((n % 128 : Nat) : Int) by omega]
      rfl

theorem lt_128_10 {n : Nat} (h : n < 18446744073709551616) : n < 128 ^ 10 := Nat.lt_of_lt_of_le h (by decide)

theorem PutNum_eq {l : List Int} (hl : l.length ≤ 140737488355000) {n : Int} (h0 : 0 ≤ n) (h1 : n < 18446744073709551616) : F.octet_PutNum l n = some (l ++ encN n) := by
  obtain ⟨m, rfl⟩ := Int.eq_ofNat_of_zero_le h0
  have := put_l1 10 fuel m l (lt_128_10 (by omega)) (by omega) (by omega) (by omega) (by rw [fuel_eq]; omega) (by omega)
  have hc : ([] : List Int).length + l.length ≤ 140737488355328 := by rw [List.length_nil, Nat.zero_add]; omega
  unfold F.octet_PutNum F.slices_Clone_byte_byte F.slices_Clone_byte_byte_some
  rw [if_pos hc, List.nil_append, Option.bind_some]
  exact this

theorem ref_num_l1 : ∀ (j k n : Nat) (l : List Int), n < 128 ^ j → 0 < j → j ≤ 10 → n < 18446744073709551616 → j ≤ k → l.length + j ≤ 140737488355328 → F.baizeref01_Num.l1 k (n : Int) l = some (l ++ enc j n)
  | 0, _, _, _, _, h, _, _, _, _ => absurd h (by omega)
  | j + 1, 0, _, _, _, _, _, _, h, _ => absurd h (by omega)
  | j + 1, k + 1, n, l, hn, _, hj, hb, hk, hl => by
    have hu : IntKind.u8.wrap (n : Int) = ((n % 256 : Nat) : Int) := by rw [wrap_byte]; omega
    have htm : (n : Int).tmod 128 = ((n % 128 : Nat) : Int) := by rw [Int.tmod_eq_emod_of_nonneg (by omega)]; omega
    have htd : (n : Int).tdiv 128 = ((n / 128 : Nat) : Int) := by rw [Int.tdiv_eq_ediv_of_nonneg (by omega)]; omega
    unfold F.baizeref01_Num.l1 enc
    by_cases h : n < 128
    · rw [if_neg (by simp; omega), if_pos (by simp; omega), if_pos h, hu, Nat.mod_eq_of_lt (by omega)]
    · rw [if_pos (by simp; omega), if_pos (by simp; omega), if_neg h, htm, htd]
      have hj0 : 0 < j := by
        rcases Nat.eq_zero_or_pos j with h0 | h0
        · subst h0; simp at hn; omega
        · exact h0
      have w1 : IntKind.u64.wrap (128 + ((n % 128 : Nat) : Int)) = 128 + ((n % 128 : Nat) : Int) := by rw [wrap_u64]; omega
      have w2 : IntKind.u8.wrap (128 + ((n % 128 : Nat) : Int)) = 128 + ((n % 128 : Nat) : Int) := by rw [wrap_byte]; omega
      have w3 : IntKind.u64.wrap ((n / 128 : Nat) : Int) = ((n / 128 : Nat) : Int) := by rw [wrap_u64]; omega
      rw [w1, w2, w3, ref_num_l1 j k (n / 128) _ (by rw [Nat.pow_succ] at hn; exact Nat.div_lt_of_lt_mul (by rw [Nat.mul_comm]; exact hn)) hj0 (by omega) (by omega) (by omega) (by simp; omega)]
      rw [List.append_assoc]; rfl

theorem ref_Num_eq {n : Int} (h0 : 0 ≤ n) (h1 : n < 18446744073709551616) : F.baizeref01_Num n = some (encN n) := by
  obtain ⟨m, rfl⟩ := Int.eq_ofNat_of_zero_le h0
  have := ref_num_l1 10 fuel m [] (lt_128_10 (by omega)) (by omega) (by omega) (by omega) (by rw [fuel_eq]; omega) (by simp)
  simpa [F.baizeref01_Num, encN] using this

/-- What is written is read. -/
theorem numGo_enc : ∀ (j n i : Nat) (acc : Int) (r : List Int), n < 128 ^ j → 0 < j → i + j ≤ 10 → (i + j = 10 → n < 2 * 128 ^ (9 - i)) → (0 < i → 0 < n) →
    numGo (enc j n ++ r) i acc = (acc + (n : Int) * 128 ^ i, (i : Int) + ((enc j n).length : Int), 0)
  | 0, _, _, _, _, _, h, _, _, _ => absurd h (by omega)
  | j + 1, n, i, acc, r, hn, _, hij, h10, hpos => by
    unfold enc
    by_cases h : n < 128
    · rw [if_pos h]
      simp only [List.cons_append, List.nil_append]
      unfold numGo
      rw [if_neg (by omega), if_neg (by omega), if_neg, if_pos (by omega)]
      · simp
      · intro ⟨h9, h2⟩
        have := h10 (by omega)
        rw [h9] at this; simp at this; omega
    · rw [if_neg h]
      simp only [List.cons_append]
      have hj0 : 0 < j := by
        rcases Nat.eq_zero_or_pos j with h0 | h0
        · subst h0; simp at hn; omega
        · exact h0
      have hdiv : n / 128 < 128 ^ j := by rw [Nat.pow_succ] at hn; exact Nat.div_lt_of_lt_mul (by rw [Nat.mul_comm]; exact hn)
      unfold numGo
      rw [if_neg (by omega), if_neg (by omega), if_neg, if_neg (by omega)]
      · have ih := numGo_enc j (n / 128) (i + 1) (acc + (128 + ((n % 128 : Nat) : Int)) % 128 * 128 ^ i) r hdiv hj0 (by omega) (by
          intro h
          have := h10 (by omega)
          have e : 9 - i = (9 - (i + 1)) + 1 := by omega
          rw [e, Nat.pow_succ] at this
          omega) (by omega)
        rw [ih]
        have e1 : (128 + ((n % 128 : Nat) : Int)) % 128 = ((n % 128 : Nat) : Int) := by omega
        have e2 : (n : Int) = ((n % 128 : Nat) : Int) + 128 * ((n / 128 : Nat) : Int) := by omega
        have e3 : (n : Int) * 128 ^ i = ((n % 128 : Nat) : Int) * 128 ^ i + ((n / 128 : Nat) : Int) * 128 ^ (i + 1) := by
          conv => lhs; rw [e2]
          rw [Int.add_mul, Int.pow_succ, Int.mul_comm 128 ((n / 128 : Nat) : Int), Int.mul_assoc, Int.mul_comm 128 (128 ^ i)]
        rw [e1, e3]
        simp only [List.length_cons, Prod.mk.injEq, and_true]
        constructor
        · omega
        · push_cast; omega
      · intro ⟨h9, _⟩
        have := h10 (by omega)
        rw [h9] at this; simp at this; omega

theorem numGo_encN {n : Int} (h0 : 0 ≤ n) (h1 : n < 18446744073709551616) (r : List Int) : numGo (encN n ++ r) 0 0 = (n, ((encN n).length : Int), 0) := by
  obtain ⟨m, rfl⟩ := Int.eq_ofNat_of_zero_le h0
  have := numGo_enc 10 m 0 0 r (lt_128_10 (by omega)) (by omega) (by omega) (by intro _; rw [show (2 : Nat) * 128 ^ (9 - 0) = 18446744073709551616 from by decide]; omega) (by omega)
  simpa [encN] using this

theorem rd_encN {n : Int} (h0 : 0 ≤ n) (h1 : n < 18446744073709551616) (r : List Int) (most : Int) : rd (encN n ++ r) 0 most = if n > most then (0, encN n ++ r, 2) else (n, r, 0) := by
  unfold rd
  rw [numGo_encN h0 h1]
  simp

/-! ### Digests and numbers -/

/-- The value of bytes, the lowest one first. -/
def val256 : List Int → Int
  | [] => 0
  | x :: r => x + 256 * val256 r

theorem val256_append : ∀ (l r : List Int), val256 (l ++ r) = val256 l + 256 ^ l.length * val256 r
  | [], r => by simp [val256]
  | x :: l, r => by
    simp only [List.cons_append, val256, val256_append l r, List.length_cons, Int.pow_succ]
    rw [Int.mul_add, ← Int.mul_assoc, Int.mul_comm 256 (256 ^ l.length), Int.add_assoc]

theorem val256_bound : ∀ {l : List Int}, Byts l → 0 ≤ val256 l ∧ val256 l < 256 ^ l.length
  | [], _ => by simp [val256]
  | x :: r, h => by
    obtain ⟨hx, hr⟩ := h.cons
    have ih := val256_bound hr
    simp only [val256, List.length_cons, Int.pow_succ]
    omega

theorem pow256 (i : Nat) : (256 : Int) ^ i = ((2 ^ (8 * i) : Nat) : Int) := by
  rw [Nat.pow_mul, show (2 : Nat) ^ 8 = 256 from rfl]
  exact (Int.natCast_pow 256 i).symm

theorem or_shift8 {acc y : Int} {i : Nat} (ha : 0 ≤ acc ∧ acc < 256 ^ i) (hy : 0 ≤ y ∧ y < 256) (hi : i ≤ 7) : bitOr .u64 acc (shV true .u64 y (8 * (i : Int))) = acc + y * 256 ^ i := by
  obtain ⟨a, rfl⟩ := Int.eq_ofNat_of_zero_le ha.1
  obtain ⟨b, rfl⟩ := Int.eq_ofNat_of_zero_le hy.1
  have hb : b < 256 := by omega
  rw [pow256] at ha ⊢
  have ha' : a < 2 ^ (8 * i) := by omega
  have hsh : b * 2 ^ (8 * i) < 2 ^ 64 := by
    calc b * 2 ^ (8 * i) < 256 * 2 ^ (8 * i) := Nat.mul_lt_mul_of_pos_right hb (Nat.two_pow_pos _)
      _ = 2 ^ (8 + 8 * i) := by rw [Nat.pow_add]
      _ ≤ 2 ^ 64 := Nat.pow_le_pow_right (by decide) (by omega)
  have hlt : a < 2 ^ 64 := Nat.lt_of_lt_of_le ha' (Nat.pow_le_pow_right (by decide) (by omega))
  have hs : shV true .u64 (b : Int) (8 * (i : Int)) = ((b <<< (8 * i) : Nat) : Int) := by
    unfold shV
    rw [if_pos rfl, show (8 * (i : Int)).toNat = 8 * i by omega, show IntKind.u64.bits = 64 from rfl, Nat.min_eq_left (by omega), wrap_u64, Nat.shiftLeft_eq]
    have : ((b : Int) * 2 ^ (8 * i)) = ((b * 2 ^ (8 * i) : Nat) : Int) := by push_cast; rfl
    rw [this]; omega
  have hor : a ||| b <<< (8 * i) = a + b * 2 ^ (8 * i) := by
    rw [Nat.or_comm, ← Nat.shiftLeft_add_eq_or_of_lt ha', Nat.shiftLeft_eq]; omega
  show bitOr .u64 (a : Int) (shV true .u64 (b : Int) (8 * (i : Int))) = _
  rw [hs, bitOr_nat hlt (by rw [Nat.shiftLeft_eq]; exact hsh), hor]
  push_cast; rfl

theorem hash_number_l1 : ∀ (r p : List Int) (k i : Nat), p.length = i → Byts (p ++ r) → r.length < k → (p ++ r).length ≤ 8 → F.hash_number.l1 (p ++ r) k (val256 p) (i : Int) = some (val256 (p ++ r))
  | [], p, k + 1, i, hp, _, _, _ => by
    unfold F.hash_number.l1
    rw [List.append_nil, hp, if_neg (by simp)]
  | x :: r, p, k + 1, i, hp, hb, hk, hl => by
    have hx := hb x (by simp)
    have hlt : (i : Int) < ((p ++ x :: r).length : Int) := by simp [hp]; omega
    have hi7 : i ≤ 7 := by simp [hp] at hl; omega
    have hg : getI (p ++ x :: r) (i : Int) = x := by rw [← hp]; exact getI_mid
    have hv := val256_bound (l := p) (fun y hy => hb y (by simp [hy]))
    rw [hp] at hv
    unfold F.hash_number.l1
    rw [if_pos (by simpa using hlt), if_pos ⟨by omega, hlt⟩, hg]
    have h8 : IntKind.i64.wrap (8 * (i : Int)) = 8 * (i : Int) := wrap_id (by omega) (by omega)
    have hw1 : IntKind.i64.wrap ((i : Int) + 1) = ((i + 1 : Nat) : Int) := by rw [wrap_id (by omega) (by omega)]; omega
    have hu : IntKind.u64.wrap x = x := by rw [wrap_u64]; omega
    rw [h8, if_pos (by omega), hu, or_shift8 hv hx hi7, hw1]
    have ih := hash_number_l1 r (p ++ [x]) k (i + 1) (by simp [hp]) (by simpa using hb) (by simp at hk; omega) (by simpa using hl)
    rw [List.append_assoc, val256_append, hp] at ih
    simp only [val256, Int.mul_zero, Int.add_zero, List.cons_append, List.nil_append] at ih
    rw [Int.mul_comm]; exact ih

theorem hash_number_eq {l : List Int} (hb : Byts l) (hl : l.length ≤ 8) : F.hash_number l = some (val256 l) := by
  have := hash_number_l1 l [] fuel 0 rfl (by simpa using hb) (by rw [fuel_eq]; omega) (by simpa using hl)
  simpa [F.hash_number, val256] using this

theorem hash_Num_eq {d : Arr Int 8} (hb : Byts d.1) : F.hash_Num d = some (val256 d.1) := by
  unfold F.hash_Num; rw [hash_number_eq hb (by rw [d.2]; omega)]; rfl

theorem ref_Num2_l1 (d : Arr Int 8) (hb : Byts d.1) : ∀ (j k : Nat) (a : Int), j ≤ 8 → j < k → 0 ≤ a → a * 256 ^ j + val256 (d.1.take j) < 18446744073709551616 →
    F.baizeref02_Num.l1 d k a ((j : Int) - 1) = some (a * 256 ^ j + val256 (d.1.take j))
  | 0, k + 1, a, _, _, _, _ => by
    unfold F.baizeref02_Num.l1
    rw [if_neg (by simp)]
    simp [val256]
  | j + 1, k + 1, a, hj, hk, ha, hs => by
    have hlt : j < d.1.length := by rw [d.2]; omega
    have hx := hb d.1[j] (List.getElem_mem hlt)
    have hg : aget d (((j + 1 : Nat) : Int) - 1) = d.1[j] := by
      unfold aget
      rw [List.getD_eq_getElem?_getD, show (((j + 1 : Nat) : Int) - 1).toNat = j by omega, List.getElem?_eq_getElem hlt]; rfl
    have ht : val256 (d.1.take (j + 1)) = val256 (d.1.take j) + 256 ^ j * d.1[j] := by
      rw [List.take_add_one, List.getElem?_eq_getElem hlt, Option.toList_some, val256_append, List.length_take, Nat.min_eq_left (by omega)]
      simp [val256]
    have hv := val256_bound (hb.take j)
    have e : (a * 256 + d.1[j]) * 256 ^ j + val256 (d.1.take j) = a * 256 ^ (j + 1) + val256 (d.1.take (j + 1)) := by
      rw [ht, Int.pow_succ, Int.add_mul, Int.mul_assoc a 256, Int.mul_comm 256 (256 ^ j), Int.mul_comm d.1[j]]; omega
    have hpos : (0 : Int) < 256 ^ j := Int.pow_pos (by decide)
    have hsm : a * 256 + d.1[j] < 18446744073709551616 := by
      have h1 : 0 ≤ (a * 256 + d.1[j]) := by omega
      have h2 : (a * 256 + d.1[j]) * 1 ≤ (a * 256 + d.1[j]) * 256 ^ j := Int.mul_le_mul_of_nonneg_left (by omega) h1
      omega
    unfold F.baizeref02_Num.l1
    rw [if_pos (by simp), if_pos ⟨by omega, by omega⟩, hg]
    have w1 : IntKind.u64.wrap (a * 256) = a * 256 := by rw [wrap_u64]; omega
    have w2 : IntKind.u64.wrap d.1[j] = d.1[j] := by rw [wrap_u64]; omega
    have w3 : IntKind.u64.wrap (a * 256 + d.1[j]) = a * 256 + d.1[j] := by rw [wrap_u64]; omega
    have w4 : IntKind.i64.wrap (((j + 1 : Nat) : Int) - 1 - 1) = (j : Int) - 1 := by rw [wrap_id (by omega) (by omega)]; omega
    rw [w1, w2, w3, w4, ref_Num2_l1 d hb j k (a * 256 + d.1[j]) (by omega) (by omega) (by omega) (by rw [e]; exact hs), e]

theorem val256_8 {d : Arr Int 8} (hb : Byts d.1) : 0 ≤ val256 d.1 ∧ val256 d.1 < 18446744073709551616 := by
  have := val256_bound hb
  rw [d.2] at this
  exact ⟨this.1, by have h := this.2; rwa [show (256 : Int) ^ 8 = 18446744073709551616 from by decide] at h⟩

theorem ref_Num2_eq {d : Arr Int 8} (hb : Byts d.1) : F.baizeref02_Num d = some (val256 d.1) := by
  have ht : d.1.take 8 = d.1 := List.take_of_length_le (by rw [d.2]; omega)
  have := ref_Num2_l1 d hb 8 fuel 0 (by omega) (by rw [fuel_eq]; omega) (Int.le_refl _) (by rw [ht, Int.zero_mul, Int.zero_add]; exact (val256_8 hb).2)
  rw [ht, Int.zero_mul, Int.zero_add] at this
  exact this

/-- A number's digest. -/
def fnum (n : Int) : Arr Int 8 := ⟨[n % 256, n / 256 % 256, n / 65536 % 256, n / 16777216 % 256, n / 4294967296 % 256, n / 1099511627776 % 256, n / 281474976710656 % 256, n / 72057594037927936 % 256], rfl⟩

theorem FromNum_l1 (n : Int) (k : Nat) : F.hash_FromNum.l1 n (k + 9) (zA 8) 0 = some (fnum n) := by
  have w : ∀ z : Int, 0 ≤ z → z ≤ 64 → IntKind.i64.wrap z = z := fun z h1 h2 => wrap_id (by omega) (by omega)
  have sh : ∀ (z : Int) (i : Nat), z = (i : Int) → i ≤ 56 → IntKind.u8.wrap (shV false .u64 n z) = n / 2 ^ i % 256 := by
    intro z i hz hi
    subst hz
    unfold shV
    rw [if_neg (by simp), show ((i : Int)).toNat = i by omega, show IntKind.u64.bits = 64 from rfl, Nat.min_eq_left (by omega), wrap_byte, Int.fdiv_eq_ediv_of_nonneg _ (Int.pow_nonneg (by decide))]
  have s0 := sh 0 0 rfl (by omega)
  have s1 := sh 8 8 rfl (by omega)
  have s2 := sh 16 16 rfl (by omega)
  have s3 := sh 24 24 rfl (by omega)
  have s4 := sh 32 32 rfl (by omega)
  have s5 := sh 40 40 rfl (by omega)
  have s6 := sh 48 48 rfl (by omega)
  have s7 := sh 56 56 rfl (by omega)
  simp only [F.hash_FromNum.l1]
  simp (config := { decide := true }) only [w, if_true, Int.reduceLT, Int.reduceLE, Int.reduceAdd, Int.reduceMul, and_self, decide_true, decide_false, Bool.false_eq_true, if_false]
  simp only [s0, s1, s2, s3, s4, s5, s6, s7]
  congr 1
  apply Subtype.ext
  simp [aset, zA, fnum]

theorem FromNum_eq (n : Int) : F.hash_FromNum n = some (fnum n) := by
  unfold F.hash_FromNum
  rw [show fuel = 9223372036854775799 + 9 from rfl]
  exact FromNum_l1 n _

theorem FromNum2_l1 (n : Int) (h0 : 0 ≤ n) (h1 : n < 18446744073709551616) (k : Nat) : F.baizeref02_FromNum.l1 (k + 9) n (zA 8) 0 = some (fnum n) := by
  have w : ∀ z : Int, 0 ≤ z → z ≤ 64 → IntKind.i64.wrap z = z := fun z h1 h2 => wrap_id (by omega) (by omega)
  have td : ∀ m : Int, 0 ≤ m → m < 18446744073709551616 → IntKind.u64.wrap (m.tdiv 256) = m / 256 := by
    intro m a b; rw [Int.tdiv_eq_ediv_of_nonneg a, wrap_u64]; omega
  have tm : ∀ m : Int, 0 ≤ m → IntKind.u8.wrap (m.tmod 256) = m % 256 := by
    intro m a; rw [Int.tmod_eq_emod_of_nonneg a, wrap_byte]; omega
  have a1 := td n h0 h1
  have a2 := td (n / 256) (by omega) (by omega)
  have a3 := td (n / 256 / 256) (by omega) (by omega)
  have a4 := td (n / 256 / 256 / 256) (by omega) (by omega)
  have a5 := td (n / 256 / 256 / 256 / 256) (by omega) (by omega)
  have a6 := td (n / 256 / 256 / 256 / 256 / 256) (by omega) (by omega)
  have a7 := td (n / 256 / 256 / 256 / 256 / 256 / 256) (by omega) (by omega)
  have b0 := tm n h0
  have b1 := tm (n / 256) (by omega)
  have b2 := tm (n / 256 / 256) (by omega)
  have b3 := tm (n / 256 / 256 / 256) (by omega)
  have b4 := tm (n / 256 / 256 / 256 / 256) (by omega)
  have b5 := tm (n / 256 / 256 / 256 / 256 / 256) (by omega)
  have b6 := tm (n / 256 / 256 / 256 / 256 / 256 / 256) (by omega)
  have b7 := tm (n / 256 / 256 / 256 / 256 / 256 / 256 / 256) (by omega)
  simp only [F.baizeref02_FromNum.l1]
  simp (config := { decide := true }) only [w, if_true, Int.reduceLT, Int.reduceLE, Int.reduceAdd, and_self, decide_true, decide_false, Bool.false_eq_true, if_false]
  simp only [a1, a2, a3, a4, a5, a6, a7, b0, b1, b2, b3, b4, b5, b6, b7]
  congr 1
  apply Subtype.ext
  simp only [aset, zA, fnum]
  simp
  refine ⟨?_, ?_, ?_, ?_, ?_, ?_⟩ <;> congr 1 <;> omega

theorem FromNum2_eq {n : Int} (h0 : 0 ≤ n) (h1 : n < 18446744073709551616) : F.baizeref02_FromNum n = some (fnum n) := by
  unfold F.baizeref02_FromNum
  rw [show fuel = 9223372036854775799 + 9 from rfl]
  exact FromNum2_l1 n h0 h1 _

theorem fnum_val {d : Arr Int 8} (hb : Byts d.1) : fnum (val256 d.1) = d := by
  obtain ⟨l, hl⟩ := d
  obtain ⟨a, l, rfl⟩ : ∃ a r, l = a :: r := by cases l with | nil => simp at hl | cons a r => exact ⟨a, r, rfl⟩
  obtain ⟨b, l, rfl⟩ : ∃ a r, l = a :: r := by cases l with | nil => simp at hl | cons a r => exact ⟨a, r, rfl⟩
  obtain ⟨c, l, rfl⟩ : ∃ a r, l = a :: r := by cases l with | nil => simp at hl | cons a r => exact ⟨a, r, rfl⟩
  obtain ⟨d, l, rfl⟩ : ∃ a r, l = a :: r := by cases l with | nil => simp at hl | cons a r => exact ⟨a, r, rfl⟩
  obtain ⟨e, l, rfl⟩ : ∃ a r, l = a :: r := by cases l with | nil => simp at hl | cons a r => exact ⟨a, r, rfl⟩
  obtain ⟨f, l, rfl⟩ : ∃ a r, l = a :: r := by cases l with | nil => simp at hl | cons a r => exact ⟨a, r, rfl⟩
  obtain ⟨g, l, rfl⟩ : ∃ a r, l = a :: r := by cases l with | nil => simp at hl | cons a r => exact ⟨a, r, rfl⟩
  obtain ⟨h, l, rfl⟩ : ∃ a r, l = a :: r := by cases l with | nil => simp at hl | cons a r => exact ⟨a, r, rfl⟩
  have hn : l = [] := by simpa using hl
  subst hn
  simp only [Byts, List.mem_cons, List.not_mem_nil, or_false, forall_eq_or_imp, forall_eq] at hb
  apply Subtype.ext
  simp only [fnum, val256, List.cons.injEq, and_true]
  refine ⟨?_, ?_, ?_, ?_, ?_, ?_, ?_, ?_⟩ <;> omega

theorem same_l1 (l1 l2 : List Int) (he : l1.length = l2.length) (hl : l1.length ≤ 9223372036854775000) : ∀ (k i : Nat), l1.length - i < k → F.baizeref01_Same.l1 l1 l2 k (i : Int) = some (decide (l1.drop i = l2.drop i))
  | 0, _, h => absurd h (by omega)
  | k + 1, i, h => by
    unfold F.baizeref01_Same.l1
    by_cases hi : i < l1.length
    · rw [if_pos (by simpa using hi), if_pos (by omega), if_pos (by omega)]
      have h1 := getI_drop (l := l1) (i := (i : Int)) (by omega) (by omega)
      have h2 := getI_drop (l := l2) (i := (i : Int)) (by omega) (by omega)
      have hw : IntKind.i64.wrap ((i : Int) + 1) = ((i + 1 : Nat) : Int) := by rw [wrap_id (by omega) (by omega)]; omega
      rw [show ((i : Int)).toNat = i by omega, show ((i : Int) + 1).toNat = i + 1 by omega] at h1 h2
      rw [h1, h2]
      by_cases hg : getI l1 (i : Int) = getI l2 (i : Int)
      · rw [if_neg (by simpa using hg), hw, same_l1 l1 l2 he hl k (i + 1) (by omega), hg]
        simp
      · rw [if_pos (by simpa using hg)]
        simp [hg]
    · rw [if_neg (by simpa using hi), List.drop_eq_nil_of_le (by omega), List.drop_eq_nil_of_le (by omega)]
      simp

theorem Same_eq {l1 l2 : List Int} (hl : l1.length ≤ 9223372036854775000) : F.baizeref01_Same l1 l2 = some (decide (l1 = l2)) := by
  unfold F.baizeref01_Same
  by_cases he : l1.length = l2.length
  · rw [if_neg (by simp; omega)]
    have := same_l1 l1 l2 he hl fuel 0 (by rw [fuel_eq]; omega)
    simpa using this
  · rw [if_pos (by simp; omega)]
    have : l1 ≠ l2 := fun h => he (by rw [h])
    simp [this]
end Go.Proofs.Ytjcmjedphijhjaa
