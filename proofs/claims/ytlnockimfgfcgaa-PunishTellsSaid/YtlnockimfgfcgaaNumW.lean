/-
  Plain facts of numbers' and bytes' bytes: what the program's reader and writer come to.
-/
import Derived.Test.YtlnockimfgfcgaaWPt5
import Derived.Test.YtlnockimfgfcgaaLabL
import Derived.KernelRfl
namespace Go.Proofs.Ytlnockimfgfcgaa
open Go.Lab
set_option maxRecDepth 10000

/-- Bytes. -/
def Byts (l : List Int) : Prop := ∀ y ∈ l, 0 ≤ y ∧ y < 256

theorem byts_wf {l : List Int} (h : ∀ y ∈ l, (Lit.int .u8 y).wf = true) : Byts l := by
  intro y hy
  have := h y hy
  simp [Lit.wf, IntKind.min, IntKind.max, IntKind.signed, IntKind.bits] at this
  omega

theorem Byts.drop {l : List Int} (h : Byts l) (n : Nat) : Byts (l.drop n) := fun y hy => h y (List.mem_of_mem_drop hy)

theorem Byts.take {l : List Int} (h : Byts l) (n : Nat) : Byts (l.take n) := fun y hy => h y (List.mem_of_mem_take hy)

theorem Byts.append {l r : List Int} (h : Byts l) (k : Byts r) : Byts (l ++ r) := fun y hy => (List.mem_append.1 hy).elim (h y) (k y)

theorem Byts.cons {x : Int} {l : List Int} (h : Byts (x :: l)) : (0 ≤ x ∧ x < 256) ∧ Byts l := ⟨h x (by simp), fun y hy => h y (by simp [hy])⟩

/-- A number's bytes, read. -/
def numGo : List Int → Nat → Int → Int × Int × Int
  | [], i, _ => if i < 10 then (0, 0, 4) else (0, 0, 3)
  | x :: r, i, acc =>
    if i = 10 then (0, 0, 3)
    else if x = 0 ∧ 0 < i then (0, 0, 3)
    else if i = 9 ∧ 2 ≤ x % 128 then (0, 0, 3)
    else if x < 128 then (acc + x * 128 ^ i, (i : Int) + 1, 0)
    else numGo r (i + 1) (acc + (x % 128) * 128 ^ i)

theorem and127 (x : Int) (h : 0 ≤ x ∧ x < 256) : bitAnd .u8 x 127 = x % 128 := by
  have key : ∀ i : Fin 256, bitAnd .u8 (i.val : Int) 127 = (i.val : Int) % 128 := by decide +kernel
  have := key ⟨x.toNat, by omega⟩
  simpa [Int.toNat_of_nonneg h.1] using this

theorem or128 (x : Int) (h : 0 ≤ x ∧ x < 256) : bitOr .u8 x 128 = 128 + x % 128 := by
  have key : ∀ i : Fin 256, bitOr .u8 (i.val : Int) 128 = 128 + (i.val : Int) % 128 := by decide +kernel
  have := key ⟨x.toNat, by omega⟩
  simpa [Int.toNat_of_nonneg h.1] using this

theorem bitOr_nat {a b : Nat} (ha : a < 2 ^ 64) (hb : b < 2 ^ 64) : bitOr .u64 (a : Int) (b : Int) = ((a ||| b : Nat) : Int) := by
  have hab : a ||| b < 2 ^ 64 := Nat.or_lt_two_pow ha hb
  unfold bitOr
  rw [wrap_u64]
  rw [BitVec.toNat_or, BitVec.toNat_ofInt, BitVec.toNat_ofInt]
  show ((((a : Int) % ((2 ^ 64 : Nat) : Int)).toNat ||| ((b : Int) % ((2 ^ 64 : Nat) : Int)).toNat : Nat) : Int) % 18446744073709551616 = _
  have e1 : ((a : Int) % ((2 ^ 64 : Nat) : Int)).toNat = a := by omega
  have e2 : ((b : Int) % ((2 ^ 64 : Nat) : Int)).toNat = b := by omega
  rw [e1, e2]
  omega

theorem pow128 (i : Nat) : (128 : Int) ^ i = ((2 ^ (7 * i) : Nat) : Int) := by
  rw [Nat.pow_mul]; norm_cast

/-- What the bits ahead hold, and the next seven ones. -/
theorem or_shift {acc y : Int} {i : Nat} (ha : 0 ≤ acc ∧ acc < 128 ^ i) (hy : 0 ≤ y ∧ y < 128) (hi : i ≤ 9) (h9 : i = 9 → y < 2) :
    bitOr .u64 acc (shV true .u64 y (7 * (i : Int))) = acc + y * 128 ^ i ∧ acc + y * 128 ^ i < 128 ^ (i + 1) ∧ 0 ≤ acc + y * 128 ^ i := by
  obtain ⟨a, rfl⟩ := Int.eq_ofNat_of_zero_le ha.1
  obtain ⟨b, rfl⟩ := Int.eq_ofNat_of_zero_le hy.1
  have hb : b < 128 := by omega
  rw [pow128] at ha ⊢
  have ha' : a < 2 ^ (7 * i) := by omega
  have hsh : b * 2 ^ (7 * i) < 2 ^ 64 := by
    by_cases h : i = 9
    · subst h; have := h9 rfl; have hb2 : b < 2 := by omega
      calc b * 2 ^ (7 * 9) ≤ 1 * 2 ^ (7 * 9) := Nat.mul_le_mul_right _ (by omega)
        _ < 2 ^ 64 := by decide
    · calc b * 2 ^ (7 * i) < 128 * 2 ^ (7 * i) := Nat.mul_lt_mul_of_pos_right hb (Nat.two_pow_pos _)
        _ = 2 ^ (7 + 7 * i) := by rw [Nat.pow_add]
        _ ≤ 2 ^ 64 := Nat.pow_le_pow_right (by decide) (by omega)
  have hlt : a < 2 ^ 64 := Nat.lt_of_lt_of_le ha' (Nat.pow_le_pow_right (by decide) (by omega))
  have hs : shV true .u64 (b : Int) (7 * (i : Int)) = ((b <<< (7 * i) : Nat) : Int) := by
    unfold shV
    rw [if_pos rfl, show (7 * (i : Int)).toNat = 7 * i by omega, show IntKind.u64.bits = 64 from rfl, Nat.min_eq_left (by omega), wrap_u64, Nat.shiftLeft_eq]
    have : ((b : Int) * 2 ^ (7 * i)) = ((b * 2 ^ (7 * i) : Nat) : Int) := by push_cast; rfl
    rw [this]; omega
  have hor : a ||| b <<< (7 * i) = a + b * 2 ^ (7 * i) := by
    rw [Nat.or_comm, ← Nat.shiftLeft_add_eq_or_of_lt ha', Nat.shiftLeft_eq]; omega
  have hsum : a + b * 2 ^ (7 * i) < 2 ^ (7 * (i + 1)) := by
    have : (b + 1) * 2 ^ (7 * i) ≤ 128 * 2 ^ (7 * i) := Nat.mul_le_mul_right _ (by omega)
    rw [Nat.succ_mul] at this
    have e : 2 ^ (7 * (i + 1)) = 128 * 2 ^ (7 * i) := by rw [show 7 * (i + 1) = 7 + 7 * i by omega, Nat.pow_add]
    omega
  refine ⟨?_, ?_, ?_⟩
  · show bitOr .u64 (a : Int) (shV true .u64 (b : Int) (7 * (i : Int))) = _
    rw [hs, bitOr_nat hlt (by rw [Nat.shiftLeft_eq]; exact hsh), hor]
    push_cast; rfl
  · rw [pow128]
    have : ((a : Int) + (b : Int) * ((2 ^ (7 * i) : Nat) : Int)) = ((a + b * 2 ^ (7 * i) : Nat) : Int) := by push_cast; rfl
    show (a : Int) + (b : Int) * ((2 ^ (7 * i) : Nat) : Int) < _
    rw [this]; exact_mod_cast hsum
  · show 0 ≤ (a : Int) + (b : Int) * ((2 ^ (7 * i) : Nat) : Int)
    have : ((a : Int) + (b : Int) * ((2 ^ (7 * i) : Nat) : Int)) = ((a + b * 2 ^ (7 * i) : Nat) : Int) := by push_cast; rfl
    rw [this]; omega

/-- The value of so many bytes. -/
def valL : List Int → Int
  | [] => 0
  | x :: r => x % 128 + 128 * valL r

theorem valL_bound : ∀ (l : List Int), 0 ≤ valL l ∧ valL l < 128 ^ l.length
  | [] => by simp [valL]
  | x :: r => by
    have ih := valL_bound r
    simp only [valL, List.length_cons, Int.pow_succ]
    omega

theorem valL_append : ∀ (l r : List Int), valL (l ++ r) = valL l + 128 ^ l.length * valL r
  | [], r => by simp [valL]
  | x :: l, r => by
    simp only [List.cons_append, valL, valL_append l r, List.length_cons, Int.pow_succ]
    rw [Int.mul_add, ← Int.mul_assoc, Int.mul_comm 128 (128 ^ l.length), Int.add_assoc]

theorem getI_mid {p r : List Int} {x : Int} : getI (p ++ x :: r) (p.length : Int) = x := by
  unfold getI
  rw [List.getD_eq_getElem?_getD, show ((p.length : Int)).toNat = p.length by omega, List.getElem?_append_right (Nat.le_refl _)]
  simp

theorem numGo_prop : ∀ (l : List Int) (i : Nat) (acc : Int), i ≤ 10 → Byts l → (0 ≤ acc ∧ acc < 128 ^ i) →
    ((numGo l i acc).2.2 = 0 ∧ 0 ≤ (numGo l i acc).1 ∧ (numGo l i acc).1 < 18446744073709551616 ∧ (i : Int) < (numGo l i acc).2.1 ∧ (numGo l i acc).2.1 ≤ (i : Int) + (l.length : Int)) ∨
      ((numGo l i acc).2.2 ≠ 0 ∧ (numGo l i acc).1 = 0 ∧ (numGo l i acc).2.1 = 0)
  | [], i, acc, _, _, _ => by
    unfold numGo
    split <;> simp
  | x :: r, i, acc, hi, hb, ha => by
    obtain ⟨hx, hb'⟩ := hb.cons
    unfold numGo
    split
    · simp
    split
    · simp
    split
    · simp
    have e9 : (128 : Int) ^ 9 = 9223372036854775808 := by decide
    rename_i h10 hz h9
    have hm : 0 ≤ x % 128 ∧ x % 128 < 128 := by omega
    obtain ⟨_, o2, o3⟩ := or_shift ha hm (show i ≤ 9 by omega) (fun h => by omega)
    split
    · rename_i hs
      left
      rw [show x % 128 = x by omega] at o2 o3
      refine ⟨rfl, o3, ?_, by simp; omega, by simp; omega⟩
      show acc + x * 128 ^ i < 18446744073709551616
      by_cases h : i = 9
      · subst h
        have : x ≤ 1 := by omega
        rw [e9] at ha ⊢; omega
      · have hle : (128 : Int) ^ (i + 1) ≤ 128 ^ 9 := by
          rw [pow128, pow128]; exact_mod_cast Nat.pow_le_pow_right (by decide) (by omega)
        rw [e9] at hle; omega
    · have ih := numGo_prop r (i + 1) (acc + x % 128 * 128 ^ i) (by omega) hb' ⟨o3, o2⟩
      rcases ih with ⟨h1, h2, h3, h4, h5⟩ | h
      · left; refine ⟨h1, h2, h3, by omega, by simp only [List.length_cons]; omega⟩
      · exact .inr h

/-- What a read of a number gives: the number, what is left, the error. -/
def rd (l : List Int) (e most : Int) : Int × List Int × Int :=
  if e ≠ 0 then (0, l, e) else if (numGo l 0 0).2.2 ≠ 0 then (0, l, (numGo l 0 0).2.2) else if (numGo l 0 0).1 > most then (0, l, 2)
  else ((numGo l 0 0).1, l.drop (numGo l 0 0).2.1.toNat, 0)

theorem rd_left (l : List Int) (e most : Int) : ∃ m, m ≤ l.length ∧ (rd l e most).2.1 = l.drop m := by
  unfold rd
  split
  · exact ⟨0, by omega, rfl⟩
  split
  · exact ⟨0, by omega, rfl⟩
  split
  · exact ⟨0, by omega, rfl⟩
  · by_cases h : (numGo l 0 0).2.1.toNat ≤ l.length
    · exact ⟨_, h, rfl⟩
    · exact ⟨l.length, by omega, by simp [List.drop_eq_nil_of_le (show l.length ≤ (numGo l 0 0).2.1.toNat by omega)]⟩

theorem rd_num {l : List Int} (hb : Byts l) (e most : Int) : 0 ≤ (rd l e most).1 ∧ (rd l e most).1 < 18446744073709551616 ∧ ((rd l e most).2.2 = 0 → (rd l e most).1 ≤ most) := by
  have hp := numGo_prop l 0 0 (by omega) hb (by simp)
  unfold rd
  split
  · simp; omega
  split
  · simp; omega
  split
  · simp
  · rename_i h1 h2 h3
    rcases hp with ⟨_, h, k, _⟩ | ⟨h, _⟩
    · exact ⟨h, k, fun _ => by simp at h3; exact h3⟩
    · exact absurd h h2

/-- The bytes of a number. -/
def enc : Nat → Nat → List Int
  | 0, _ => []
  | k + 1, n => if n < 128 then [(n : Int)] else (128 + ((n % 128 : Nat) : Int)) :: enc k (n / 128)

def encN (n : Int) : List Int := enc 10 n.toNat

theorem enc_len : ∀ (k n : Nat), (enc k n).length ≤ k
  | 0, _ => by simp [enc]
  | k + 1, n => by unfold enc; split; simp; simp [enc_len k]

theorem enc_byts : ∀ (k n : Nat), Byts (enc k n)
  | 0, _ => by intro y hy; simp [enc] at hy
  | k + 1, n => by
    unfold enc
    split
    · intro y hy; simp at hy; omega
    · intro y hy
      rcases List.mem_cons.1 hy with rfl | hy
      · omega
      · exact enc_byts k _ y hy

theorem encN_byts (n : Int) : Byts (encN n) := enc_byts _ _

theorem encN_len (n : Int) : (encN n).length ≤ 10 := enc_len _ _

theorem put_l1 : ∀ (j k n : Nat) (l : List Int), n < 128 ^ j → 0 < j → j ≤ 10 → n < 18446744073709551616 → j ≤ k → l.length + j ≤ 140737488355328 → F.octet_PutNum.l1 k (n : Int) l = some (l ++ enc j n)
  | 0, _, _, _, _, h, _, _, _, _ => absurd h (by omega)
  | j + 1, 0, _, _, _, _, _, _, h, _ => absurd h (by omega)
  | j + 1, k + 1, n, l, hn, _, hj, hb, hk, hl => by
    have hu : IntKind.u8.wrap (n : Int) = ((n % 256 : Nat) : Int) := by rw [wrap_byte]; omega
    unfold F.octet_PutNum.l1 enc
    by_cases h : n < 128
    · rw [if_neg (by simp; omega), if_pos (by simp; omega), if_pos h, hu, Nat.mod_eq_of_lt (by omega)]
    · rw [if_pos (by simp; omega), if_pos (by simp; omega), if_neg h, hu, or128 _ (by omega)]
      have hj0 : 0 < j := by
        rcases Nat.eq_zero_or_pos j with h0 | h0
        · subst h0; simp at hn; omega
        · exact h0
      have hsh : shV false .u64 (n : Int) 7 = ((n / 128 : Nat) : Int) := by
        unfold shV
        rw [if_neg (by simp), show (min (7 : Int).toNat IntKind.u64.bits) = 7 from rfl, show (2 : Int) ^ 7 = 128 from rfl]
        rw [Int.fdiv_eq_ediv_of_nonneg _ (by decide)]; omega
      rw [hsh, put_l1 j k (n / 128) _ (by rw [Nat.pow_succ] at hn; exact Nat.div_lt_of_lt_mul (by rw [Nat.mul_comm]; exact hn)) hj0 (by omega) (by omega) (by omega) (by simp; omega)]
      rw [List.append_assoc, show ((n % 256 : Nat) : Int) % 128 = ((n % 128 : Nat) : Int) by omega]
      rfl

theorem lt_128_10 {n : Nat} (h : n < 18446744073709551616) : n < 128 ^ 10 := Nat.lt_of_lt_of_le h (by decide)

theorem PutNum_eq {l : List Int} (hl : l.length ≤ 140737488355000) {n : Int} (h0 : 0 ≤ n) (h1 : n < 18446744073709551616) : F.octet_PutNum l n = some (l ++ encN n) := by
  obtain ⟨m, rfl⟩ := Int.eq_ofNat_of_zero_le h0
  have := put_l1 10 fuel m l (lt_128_10 (by omega)) (by omega) (by omega) (by omega) (by rw [fuel_eq]; omega) (by omega)
  have hc : ([] : List Int).length + l.length ≤ 140737488355328 := by rw [List.length_nil, Nat.zero_add]; omega
  unfold F.octet_PutNum F.slices_Clone_byte_byte F.slices_Clone_byte_byte_some
  rw [if_pos hc, List.nil_append, Option.bind_some]
  exact this

/-- What is written is read. -/
theorem numGo_enc : ∀ (j n i : Nat) (acc : Int) (r : List Int), n < 128 ^ j → 0 < j → i + j ≤ 10 → (i + j = 10 → n < 2 * 128 ^ (9 - i)) → (0 < i → 0 < n) →
    numGo (enc j n ++ r) i acc = (acc + (n : Int) * 128 ^ i, (i : Int) + ((enc j n).length : Int), 0)
  | 0, _, _, _, _, _, h, _, _, _ => absurd h (by omega)
  | j + 1, n, i, acc, r, hn, _, hij, h10, hpos => by
    unfold enc
    by_cases h : n < 128
    · rw [if_pos h]
      simp only [List.cons_append, List.nil_append]
      unfold numGo
      rw [if_neg (by omega), if_neg (by omega), if_neg, if_pos (by omega)]
      · simp
      · intro ⟨h9, h2⟩
        have := h10 (by omega)
        rw [h9] at this; simp at this; omega
    · rw [if_neg h]
      simp only [List.cons_append]
      have hj0 : 0 < j := by
        rcases Nat.eq_zero_or_pos j with h0 | h0
        · subst h0; simp at hn; omega
        · exact h0
      have hdiv : n / 128 < 128 ^ j := by rw [Nat.pow_succ] at hn; exact Nat.div_lt_of_lt_mul (by rw [Nat.mul_comm]; exact hn)
      unfold numGo
      rw [if_neg (by omega), if_neg (by omega), if_neg, if_neg (by omega)]
      · have ih := numGo_enc j (n / 128) (i + 1) (acc + (128 + ((n % 128 : Nat) : Int)) % 128 * 128 ^ i) r hdiv hj0 (by omega) (by
          intro h
          have := h10 (by omega)
          have e : 9 - i = (9 - (i + 1)) + 1 := by omega
          rw [e, Nat.pow_succ] at this
          omega) (by omega)
        rw [ih]
        have e1 : (128 + ((n % 128 : Nat) : Int)) % 128 = ((n % 128 : Nat) : Int) := by omega
        have e2 : (n : Int) = ((n % 128 : Nat) : Int) + 128 * ((n / 128 : Nat) : Int) := by omega
        have e3 : (n : Int) * 128 ^ i = ((n % 128 : Nat) : Int) * 128 ^ i + ((n / 128 : Nat) : Int) * 128 ^ (i + 1) := by
          conv => lhs; rw [e2]
          rw [Int.add_mul, Int.pow_succ, Int.mul_comm 128 ((n / 128 : Nat) : Int), Int.mul_assoc, Int.mul_comm 128 (128 ^ i)]
        rw [e1, e3]
        simp only [List.length_cons, Prod.mk.injEq, and_true]
        constructor
        · omega
        · push_cast; omega
      · intro ⟨h9, _⟩
        have := h10 (by omega)
        rw [h9] at this; simp at this; omega

theorem numGo_encN {n : Int} (h0 : 0 ≤ n) (h1 : n < 18446744073709551616) (r : List Int) : numGo (encN n ++ r) 0 0 = (n, ((encN n).length : Int), 0) := by
  obtain ⟨m, rfl⟩ := Int.eq_ofNat_of_zero_le h0
  have := numGo_enc 10 m 0 0 r (lt_128_10 (by omega)) (by omega) (by omega) (by intro _; rw [show (2 : Nat) * 128 ^ (9 - 0) = 18446744073709551616 from by decide]; omega) (by omega)
  simpa [encN] using this

theorem rd_encN {n : Int} (h0 : 0 ≤ n) (h1 : n < 18446744073709551616) (r : List Int) (most : Int) : rd (encN n ++ r) 0 most = if n > most then (0, encN n ++ r, 2) else (n, r, 0) := by
  unfold rd
  rw [numGo_encN h0 h1]
  simp

/-- What a read of bytes gives: the bytes, what is left, the error. -/
def rdB (l : List Int) (e most : Int) : List Int × List Int × Int :=
  if e ≠ 0 then ([], l, e) else if (numGo l 0 0).2.2 ≠ 0 then ([], l, (numGo l 0 0).2.2) else if (numGo l 0 0).1 > most then ([], l, 2)
  else if (numGo l 0 0).1 > (l.length : Int) - (numGo l 0 0).2.1 then ([], l, 4)
  else ((l.drop (numGo l 0 0).2.1.toNat).take (numGo l 0 0).1.toNat, l.drop ((numGo l 0 0).2.1.toNat + (numGo l 0 0).1.toNat), 0)

theorem rdB_left (l : List Int) (e most : Int) : ∃ m, m ≤ l.length ∧ (rdB l e most).2.1 = l.drop m := by
  unfold rdB
  split
  · exact ⟨0, by omega, rfl⟩
  split
  · exact ⟨0, by omega, rfl⟩
  split
  · exact ⟨0, by omega, rfl⟩
  split
  · exact ⟨0, by omega, rfl⟩
  · by_cases h : (numGo l 0 0).2.1.toNat + (numGo l 0 0).1.toNat ≤ l.length
    · exact ⟨_, h, rfl⟩
    · exact ⟨l.length, by omega, by simp only [List.drop_length]; exact List.drop_eq_nil_of_le (by omega)⟩

theorem rdB_byts {l : List Int} (hb : Byts l) (e most : Int) : Byts (rdB l e most).1 ∧ Byts (rdB l e most).2.1 := by
  constructor
  · unfold rdB
    split
    · intro y hy; cases hy
    split
    · intro y hy; cases hy
    split
    · intro y hy; cases hy
    split
    · intro y hy; cases hy
    · exact (hb.drop _).take _
  · obtain ⟨m, _, h⟩ := rdB_left l e most
    rw [h]; exact hb.drop m

theorem rdB_most {l : List Int} (e : Int) {most : Int} (h0 : 0 ≤ most) : ((rdB l e most).1.length : Int) ≤ most := by
  unfold rdB
  split
  · simpa using h0
  split
  · simpa using h0
  split
  · simpa using h0
  split
  · simpa using h0
  · rename_i h1 h2 h3 h4
    simp only [List.length_take, List.length_drop]
    omega

theorem rdB_enc {x : List Int} (r : List Int) {most : Int} (hm : (x.length : Int) ≤ most) (hl : x.length < 9223372036854775000) : rdB (encN (x.length : Int) ++ (x ++ r)) 0 most = (x, r, 0) := by
  unfold rdB
  rw [numGo_encN (by omega) (by omega)]
  have e1 : ((encN (x.length : Int)).length : Int).toNat = (encN (x.length : Int)).length := by omega
  have e2 : ((x.length : Int)).toNat = x.length := by omega
  simp only [ne_eq, not_true_eq_false, if_false]
  rw [if_neg (by omega), if_neg (by simp; omega), e1, e2, List.drop_left, List.take_left, ← List.drop_drop, List.drop_left, List.drop_left]

theorem enc_cons {m : Nat} (h : 128 ≤ m) (j : Nat) : enc (j + 1) m = (128 + ((m % 128 : Nat) : Int)) :: enc j (m / 128) := by
  conv => lhs; unfold enc
  rw [if_neg (by omega)]

theorem numGo_inv : ∀ (l : List Int) (i : Nat) (acc n k : Int), i ≤ 10 → Byts l → numGo l i acc = (n, k, 0) →
    ∃ m : Nat, n = acc + (m : Int) * 128 ^ i ∧ l.take (k.toNat - i) = enc (10 - i) m ∧ (i : Int) < k ∧ (0 < i → 0 < m)
  | [], i, acc, n, k, _, _, h => by
    unfold numGo at h
    split at h <;> simp at h
  | x :: r, i, acc, n, k, hi, hb, h => by
    obtain ⟨hx, hb'⟩ := hb.cons
    unfold numGo at h
    split at h
    · simp at h
    split at h
    · simp at h
    split at h
    · simp at h
    rename_i h10 hz h9
    obtain ⟨j, hj⟩ : ∃ j, 10 - i = j + 1 := ⟨9 - i, by omega⟩
    split at h
    · rename_i hs
      simp only [Prod.mk.injEq] at h
      obtain ⟨rfl, rfl, _⟩ := h
      refine ⟨x.toNat, by rw [Int.toNat_of_nonneg hx.1], ?_, by omega, fun _ => by omega⟩
      rw [show ((i : Int) + 1).toNat - i = 1 by omega, hj]
      unfold enc
      rw [if_pos (by omega)]
      simp [Int.toNat_of_nonneg hx.1]
    · rename_i hs
      obtain ⟨m, hn, ht, hk, hm⟩ := numGo_inv r (i + 1) _ n k (by omega) hb' h
      have hm' := hm (by omega)
      refine ⟨(x % 128).toNat + 128 * m, ?_, ?_, by omega, fun _ => by omega⟩
      · rw [hn, Int.add_assoc]
        congr 1
        have e : (((x % 128).toNat + 128 * m : Nat) : Int) = x % 128 + 128 * (m : Int) := by omega
        rw [e, Int.add_mul, Int.pow_succ, Int.mul_comm 128 (m : Int), Int.mul_assoc, Int.mul_comm (128 ^ i) 128]
      · rw [hj, enc_cons (by omega), show k.toNat - i = (k.toNat - (i + 1)) + 1 by omega, List.take_succ_cons, ht]
        congr 1
        · omega
        · rw [show 10 - (i + 1) = j by omega]
          congr 1
          omega

theorem rd_inv {l : List Int} (hb : Byts l) {most n : Int} {r : List Int} (h : rd l 0 most = (n, r, 0)) : l = encN n ++ r := by
  unfold rd at h
  simp only [ne_eq, not_true_eq_false, if_false] at h
  split at h
  · rename_i hf; simp only [Prod.mk.injEq] at h; exact absurd h.2.2 hf
  split at h
  · simp at h
  rename_i h1 h2
  simp only [Prod.mk.injEq, and_true] at h
  obtain ⟨hn, hr⟩ := h
  have hz : (numGo l 0 0).2.2 = 0 := by simpa using h1
  obtain ⟨m, e1, e2, e3, _⟩ := numGo_inv l 0 0 (numGo l 0 0).1 (numGo l 0 0).2.1 (by omega) hb (Prod.ext rfl (Prod.ext rfl hz))
  have hm : n = (m : Int) := by rw [← hn, e1]; simp
  subst hm
  rw [← hr]
  have e4 : encN (m : Int) = l.take (numGo l 0 0).2.1.toNat := by rw [← Nat.sub_zero (numGo l 0 0).2.1.toNat, e2]; simp [encN]
  rw [e4, List.take_append_drop]

theorem rdB_inv {l : List Int} (hb : Byts l) {most : Int} {x r : List Int} (h : rdB l 0 most = (x, r, 0)) : l = encN (x.length : Int) ++ (x ++ r) := by
  have hp := numGo_prop l 0 0 (by omega) hb (by simp)
  unfold rdB at h
  simp only [ne_eq, not_true_eq_false, if_false] at h
  split at h
  · rename_i hf; simp only [Prod.mk.injEq] at h; exact absurd h.2.2 hf
  split at h
  · simp at h
  split at h
  · simp at h
  rename_i h1 h2 h3
  simp only [Prod.mk.injEq, and_true] at h
  obtain ⟨hx, hr⟩ := h
  have hz : (numGo l 0 0).2.2 = 0 := by simpa using h1
  obtain ⟨m, e1, e2, e3, _⟩ := numGo_inv l 0 0 (numGo l 0 0).1 (numGo l 0 0).2.1 (by omega) hb (Prod.ext rfl (Prod.ext rfl hz))
  rcases hp with ⟨_, g1, g2, g3, g4⟩ | ⟨h, _⟩
  case inr => exact absurd hz h
  have hxl : (x.length : Int) = (numGo l 0 0).1 := by rw [← hx, List.length_take, List.length_drop]; omega
  have e4 : encN (x.length : Int) = l.take (numGo l 0 0).2.1.toNat := by
    rw [hxl, e1, ← Nat.sub_zero (numGo l 0 0).2.1.toNat, e2]; simp [encN]
  have e5 : x ++ r = l.drop (numGo l 0 0).2.1.toNat := by
    rw [← hx, ← hr, ← List.drop_drop, List.take_append_drop]
  rw [e4, e5, List.take_append_drop]

theorem bytesStr_inj {a b : List Int} (ha : Byts a) (hb : Byts b) : ((bytesStr a).toList == (bytesStr b).toList) = decide (a = b) := by
  have key : ∀ l : List Int, (bytesStr l).toList = l.map fun x => UInt8.ofNat x.toNat := by
    intro l
    rw [ByteArray.toList_eq]
    simp [bytesStr]
  rw [key, key]
  by_cases h : a = b
  · subst h; simp
  · rw [decide_eq_false h]
    apply Bool.eq_false_iff.2
    intro he
    apply h
    have he' := eq_of_beq he
    have inv : ∀ l : List Int, Byts l → (l.map fun x => UInt8.ofNat x.toNat).map (fun u => (u.toNat : Int)) = l := by
      intro l hl
      rw [List.map_map]
      conv => rhs; rw [← List.map_id l]
      apply List.map_congr_left
      intro x hx
      have := hl x hx
      simp only [Function.comp, id, UInt8.toNat_ofNat']
      omega
    rw [← inv a ha, ← inv b hb, he']

theorem rd_byts {l : List Int} (hb : Byts l) (e most : Int) : Byts (rd l e most).2.1 := by
  obtain ⟨m, _, h⟩ := rd_left l e most
  rw [h]; exact hb.drop m

theorem rd_len (l : List Int) (e most : Int) : (rd l e most).2.1.length ≤ l.length := by
  obtain ⟨m, _, h⟩ := rd_left l e most
  rw [h, List.length_drop]; omega

theorem PutBytes_eq {l x : List Int} (hl : l.length + x.length ≤ 140737488350000) : F.octet_PutBytes l x = some (l ++ (encN (x.length : Int) ++ x)) := by
  have hw : IntKind.u64.wrap (x.length : Int) = (x.length : Int) := by rw [wrap_u64]; omega
  have h10 := encN_len (x.length : Int)
  unfold F.octet_PutBytes
  rw [hw, PutNum_eq (by omega) (by omega) (by omega), Option.bind_some, if_pos (by rw [List.length_append]; omega), List.append_assoc]

theorem rd_num0 {l : List Int} (hb : Byts l) (e : Int) {most : Int} (h0 : 0 ≤ most) : 0 ≤ (rd l e most).1 ∧ (rd l e most).1 ≤ most := by
  have h := rd_num hb e most
  refine ⟨h.1, ?_⟩
  by_cases he : (rd l e most).2.2 = 0
  · exact h.2.2 he
  · have : (rd l e most).1 = 0 := by
      unfold rd at he ⊢
      split
      · rfl
      split
      · rfl
      split
      · rfl
      · rename_i h1 h2 h3
        rw [if_neg h1, if_neg h2, if_neg h3] at he
        exact absurd rfl he
    omega

theorem at_of {B r : List Int} {m : Nat} (hm : m ≤ B.length) (h : r = B.drop m) : (B.length : Int) - (r.length : Int) = (m : Int) := by
  rw [h, List.length_drop]; omega

theorem drop_left {B r : List Int} {m j : Nat} (hm : m ≤ B.length) (hj : j ≤ (B.drop m).length) (h : r = (B.drop m).drop j) : ∃ q, q ≤ B.length ∧ r = B.drop q := by
  rw [List.length_drop] at hj
  exact ⟨m + j, by omega, by rw [h, List.drop_drop]⟩

theorem rd_ok {n most : Int} (h0 : 0 ≤ n) (h1 : n ≤ most) (h2 : n < 18446744073709551616) (r : List Int) : rd (encN n ++ r) 0 most = (n, r, 0) := by
  rw [rd_encN h0 h2, if_neg (by omega)]

theorem rd_bad {l : List Int} {e most : Int} (h : (rd l e most).2.2 = 0) : e = 0 := by
  apply Classical.byContradiction
  intro he
  unfold rd at h
  rw [if_pos he] at h
  exact he h

theorem rdB_bad {l : List Int} {e most : Int} (h : (rdB l e most).2.2 = 0) : e = 0 := by
  apply Classical.byContradiction
  intro he
  unfold rdB at h
  rw [if_pos he] at h
  exact he h

end Go.Proofs.Ytlnockimfgfcgaa
