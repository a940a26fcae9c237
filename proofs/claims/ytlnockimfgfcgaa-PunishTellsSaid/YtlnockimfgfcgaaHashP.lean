/-
  Plain facts of digests: what the program's come to.
-/
import Derived.Test.YtlnockimfgfcgaaNumW
namespace Go.Proofs.Ytlnockimfgfcgaa
open Go.Lab
set_option maxRecDepth 10000

/-- The value of bytes, the lowest one first. -/
def val256 : List Int → Int
  | [] => 0
  | x :: r => x + 256 * val256 r

theorem val256_append : ∀ (l r : List Int), val256 (l ++ r) = val256 l + 256 ^ l.length * val256 r
  | [], r => by simp [val256]
  | x :: l, r => by
    simp only [List.cons_append, val256, val256_append l r, List.length_cons, Int.pow_succ]
    rw [Int.mul_add, ← Int.mul_assoc, Int.mul_comm 256 (256 ^ l.length), Int.add_assoc]

theorem val256_bound : ∀ {l : List Int}, Byts l → 0 ≤ val256 l ∧ val256 l < 256 ^ l.length
  | [], _ => by simp [val256]
  | x :: r, h => by
    obtain ⟨hx, hr⟩ := h.cons
    have ih := val256_bound hr
    simp only [val256, List.length_cons, Int.pow_succ]
    omega

theorem pow256 (i : Nat) : (256 : Int) ^ i = ((2 ^ (8 * i) : Nat) : Int) := by
  rw [Nat.pow_mul, show (2 : Nat) ^ 8 = 256 from rfl]
  exact (Int.natCast_pow 256 i).symm

theorem or_shift8 {acc y : Int} {i : Nat} (ha : 0 ≤ acc ∧ acc < 256 ^ i) (hy : 0 ≤ y ∧ y < 256) (hi : i ≤ 7) : bitOr .u64 acc (shV true .u64 y (8 * (i : Int))) = acc + y * 256 ^ i := by
  obtain ⟨a, rfl⟩ := Int.eq_ofNat_of_zero_le ha.1
  obtain ⟨b, rfl⟩ := Int.eq_ofNat_of_zero_le hy.1
  have hb : b < 256 := by omega
  rw [pow256] at ha ⊢
  have ha' : a < 2 ^ (8 * i) := by omega
  have hsh : b * 2 ^ (8 * i) < 2 ^ 64 := by
    calc b * 2 ^ (8 * i) < 256 * 2 ^ (8 * i) := Nat.mul_lt_mul_of_pos_right hb (Nat.two_pow_pos _)
      _ = 2 ^ (8 + 8 * i) := by rw [Nat.pow_add]
      _ ≤ 2 ^ 64 := Nat.pow_le_pow_right (by decide) (by omega)
  have hlt : a < 2 ^ 64 := Nat.lt_of_lt_of_le ha' (Nat.pow_le_pow_right (by decide) (by omega))
  have hs : shV true .u64 (b : Int) (8 * (i : Int)) = ((b <<< (8 * i) : Nat) : Int) := by
    unfold shV
    rw [if_pos rfl, show (8 * (i : Int)).toNat = 8 * i by omega, show IntKind.u64.bits = 64 from rfl, Nat.min_eq_left (by omega), wrap_u64, Nat.shiftLeft_eq]
    have : ((b : Int) * 2 ^ (8 * i)) = ((b * 2 ^ (8 * i) : Nat) : Int) := by push_cast; rfl
    rw [this]; omega
  have hor : a ||| b <<< (8 * i) = a + b * 2 ^ (8 * i) := by
    rw [Nat.or_comm, ← Nat.shiftLeft_add_eq_or_of_lt ha', Nat.shiftLeft_eq]; omega
  show bitOr .u64 (a : Int) (shV true .u64 (b : Int) (8 * (i : Int))) = _
  rw [hs, bitOr_nat hlt (by rw [Nat.shiftLeft_eq]; exact hsh), hor]
  push_cast; rfl

theorem hash_number_l1 : ∀ (r p : List Int) (k i : Nat), p.length = i → Byts (p ++ r) → r.length < k → (p ++ r).length ≤ 8 → F.hash_number.l1 (p ++ r) k (val256 p) (i : Int) = some (val256 (p ++ r))
  | [], p, k + 1, i, hp, _, _, _ => by
    unfold F.hash_number.l1
    rw [List.append_nil, hp, if_neg (by simp)]
  | x :: r, p, k + 1, i, hp, hb, hk, hl => by
    have hx := hb x (by simp)
    have hlt : (i : Int) < ((p ++ x :: r).length : Int) := by simp [hp]; omega
    have hi7 : i ≤ 7 := by simp [hp] at hl; omega
    have hg : getI (p ++ x :: r) (i : Int) = x := by rw [← hp]; exact getI_mid
    have hv := val256_bound (l := p) (fun y hy => hb y (by simp [hy]))
    rw [hp] at hv
    unfold F.hash_number.l1
    rw [if_pos (by simpa using hlt), if_pos ⟨by omega, hlt⟩, hg]
    have h8 : IntKind.i64.wrap (8 * (i : Int)) = 8 * (i : Int) := wrap_id (by omega) (by omega)
    have hw1 : IntKind.i64.wrap ((i : Int) + 1) = ((i + 1 : Nat) : Int) := by rw [wrap_id (by omega) (by omega)]; omega
    have hu : IntKind.u64.wrap x = x := by rw [wrap_u64]; omega
    rw [h8, if_pos (by omega), hu, or_shift8 hv hx hi7, hw1]
    have ih := hash_number_l1 r (p ++ [x]) k (i + 1) (by simp [hp]) (by simpa using hb) (by simp at hk; omega) (by simpa using hl)
    rw [List.append_assoc, val256_append, hp] at ih
    simp only [val256, Int.mul_zero, Int.add_zero, List.cons_append, List.nil_append] at ih
    rw [Int.mul_comm]; exact ih

theorem hash_number_eq {l : List Int} (hb : Byts l) (hl : l.length ≤ 8) : F.hash_number l = some (val256 l) := by
  have := hash_number_l1 l [] fuel 0 rfl (by simpa using hb) (by rw [fuel_eq]; omega) (by simpa using hl)
  simpa [F.hash_number, val256] using this

theorem val256_8 {d : Arr Int 8} (hb : Byts d.1) : 0 ≤ val256 d.1 ∧ val256 d.1 < 18446744073709551616 := by
  have := val256_bound hb
  rw [d.2] at this
  exact ⟨this.1, by have h := this.2; rwa [show (256 : Int) ^ 8 = 18446744073709551616 from by decide] at h⟩

/-- A number's digest. -/
def fnum (n : Int) : Arr Int 8 := ⟨[n % 256, n / 256 % 256, n / 65536 % 256, n / 16777216 % 256, n / 4294967296 % 256, n / 1099511627776 % 256, n / 281474976710656 % 256, n / 72057594037927936 % 256], rfl⟩

theorem FromNum_l1 (n : Int) (k : Nat) : F.hash_FromNum.l1 n (k + 9) (zA 8) 0 = some (fnum n) := by
  have w : ∀ z : Int, 0 ≤ z → z ≤ 64 → IntKind.i64.wrap z = z := fun z h1 h2 => wrap_id (by omega) (by omega)
  have sh : ∀ (z : Int) (i : Nat), z = (i : Int) → i ≤ 56 → IntKind.u8.wrap (shV false .u64 n z) = n / 2 ^ i % 256 := by
    intro z i hz hi
    subst hz
    unfold shV
    rw [if_neg (by simp), show ((i : Int)).toNat = i by omega, show IntKind.u64.bits = 64 from rfl, Nat.min_eq_left (by omega), wrap_byte, Int.fdiv_eq_ediv_of_nonneg _ (Int.pow_nonneg (by decide))]
  have s0 := sh 0 0 rfl (by omega)
  have s1 := sh 8 8 rfl (by omega)
  have s2 := sh 16 16 rfl (by omega)
  have s3 := sh 24 24 rfl (by omega)
  have s4 := sh 32 32 rfl (by omega)
  have s5 := sh 40 40 rfl (by omega)
  have s6 := sh 48 48 rfl (by omega)
  have s7 := sh 56 56 rfl (by omega)
  simp only [F.hash_FromNum.l1]
  simp (config := { decide := true }) only [w, if_true, Int.reduceLT, Int.reduceLE, Int.reduceAdd, Int.reduceMul, and_self, decide_true, decide_false, Bool.false_eq_true, if_false]
  simp only [s0, s1, s2, s3, s4, s5, s6, s7]
  congr 1
  apply Subtype.ext
  simp [aset, zA, fnum]

theorem FromNum_eq (n : Int) : F.hash_FromNum n = some (fnum n) := by
  unfold F.hash_FromNum
  rw [show fuel = 9223372036854775799 + 9 from rfl]
  exact FromNum_l1 n _

theorem fnum_val {d : Arr Int 8} (hb : Byts d.1) : fnum (val256 d.1) = d := by
  obtain ⟨l, hl⟩ := d
  obtain ⟨a, l, rfl⟩ : ∃ a r, l = a :: r := by cases l with | nil => simp at hl | cons a r => exact ⟨a, r, rfl⟩
  obtain ⟨b, l, rfl⟩ : ∃ a r, l = a :: r := by cases l with | nil => simp at hl | cons a r => exact ⟨a, r, rfl⟩
  obtain ⟨c, l, rfl⟩ : ∃ a r, l = a :: r := by cases l with | nil => simp at hl | cons a r => exact ⟨a, r, rfl⟩
  obtain ⟨d, l, rfl⟩ : ∃ a r, l = a :: r := by cases l with | nil => simp at hl | cons a r => exact ⟨a, r, rfl⟩
  obtain ⟨e, l, rfl⟩ : ∃ a r, l = a :: r := by cases l with | nil => simp at hl | cons a r => exact ⟨a, r, rfl⟩
  obtain ⟨f, l, rfl⟩ : ∃ a r, l = a :: r := by cases l with | nil => simp at hl | cons a r => exact ⟨a, r, rfl⟩
  obtain ⟨g, l, rfl⟩ : ∃ a r, l = a :: r := by cases l with | nil => simp at hl | cons a r => exact ⟨a, r, rfl⟩
  obtain ⟨h, l, rfl⟩ : ∃ a r, l = a :: r := by cases l with | nil => simp at hl | cons a r => exact ⟨a, r, rfl⟩
  have hn : l = [] := by simpa using hl
  subst hn
  simp only [Byts, List.mem_cons, List.not_mem_nil, or_false, forall_eq_or_imp, forall_eq] at hb
  apply Subtype.ext
  simp only [fnum, val256, List.cons.injEq, and_true]
  refine ⟨?_, ?_, ?_, ?_, ?_, ?_, ?_, ?_⟩ <;> omega

/-! ### States -/

/-- A word turned left. -/
def rot (x n m : Int) : Int := bitOr .u64 (shV true .u64 x n) (shV false .u64 x m)

/-- A round. -/
def rnd (s : Int × Int × Int × Int) (r : Int) : Int × Int × Int × Int :=
  let a := bitXor .u64 (IntKind.u64.wrap (s.1 + s.2.1)) r
  let d := rot (bitXor .u64 s.2.2.2 a) 32 32
  let c := IntKind.u64.wrap (s.2.2.1 + d)
  let b := rot (bitXor .u64 s.2.1 c) 24 40
  let a2 := IntKind.u64.wrap (a + b)
  let d2 := rot (bitXor .u64 d a2) 16 48
  let c2 := IntKind.u64.wrap (c + d2)
  (a2, rot (bitXor .u64 b c2) 63 1, c2, d2)

def stir6 (s : Int × Int × Int × Int) : Int × Int × Int × Int := rnd (rnd (rnd (rnd (rnd (rnd s 1) 2) 3) 4) 5) 6

/-- A number is taken in. -/
def takeS (s : Int × Int × Int × Int) (n : Int) : Int × Int × Int × Int := stir6 (bitXor .u64 s.1 n, s.2)

/-- Bytes are taken in, eight at a time. -/
def absorb : Nat → Int × Int × Int × Int → List Int → Int × Int × Int × Int
  | 0, s, _ => s
  | k + 1, s, l => if l.length ≥ 8 then absorb k (takeS s (val256 (l.take 8))) (l.drop 8) else takeS s (val256 l + 256 ^ l.length)

def bytesS (s : Int × Int × Int × Int) (l : List Int) : Int × Int × Int × Int := takeS (absorb (l.length + 1) s l) (l.length : Int)
def outN (s : Int × Int × Int × Int) : Int := bitXor .u64 s.1 s.2.2.1
def beg (k : Int) : Int × Int × Int × Int := (2611923443488327891, 1376283091369227076, 11820040416388919760, k)
/-- The digest of bytes. -/
def hOf (l : List Int) : Arr Int 8 := fnum (outN (bytesS (beg 1) l))

theorem rotate_eq (x : Int) : F.math_bits_RotateLeft64 x 32 = some (rot x 32 32) ∧ F.math_bits_RotateLeft64 x 24 = some (rot x 24 40) ∧ F.math_bits_RotateLeft64 x 16 = some (rot x 16 48) ∧ F.math_bits_RotateLeft64 x 63 = some (rot x 63 1) := by
  have e1 : bitAnd .u64 (IntKind.u64.wrap 32) 63 = 32 := by decide
  have e2 : bitAnd .u64 (IntKind.u64.wrap 24) 63 = 24 := by decide
  have e3 : bitAnd .u64 (IntKind.u64.wrap 16) 63 = 16 := by decide
  have e4 : bitAnd .u64 (IntKind.u64.wrap 63) 63 = 63 := by decide
  have w1 : IntKind.u64.wrap (64 - 32) = 32 := by decide
  have w2 : IntKind.u64.wrap (64 - 24) = 40 := by decide
  have w3 : IntKind.u64.wrap (64 - 16) = 48 := by decide
  have w4 : IntKind.u64.wrap (64 - 63) = 1 := by decide
  unfold F.math_bits_RotateLeft64 rot
  rw [e1, e2, e3, e4, w1, w2, w3, w4]
  exact ⟨rfl, rfl, rfl, rfl⟩

theorem stir_step (k : Nat) (s : Int × Int × Int × Int) {i r : Int} (hi : i < 6) (h1 : IntKind.i64.wrap (i + 1) = r) (h2 : IntKind.u64.wrap r = r) :
    F.hash_state_stir.l1 (k + 1) s.1 s.2.1 s.2.2.1 s.2.2.2 i = F.hash_state_stir.l1 k (rnd s r).1 (rnd s r).2.1 (rnd s r).2.2.1 (rnd s r).2.2.2 r := by
  conv => lhs; unfold F.hash_state_stir.l1
  rw [if_pos (by simpa using hi), h1, h2]
  unfold F.hash_state_mix
  rw [(rotate_eq _).1, Option.bind_some, (rotate_eq _).2.1, Option.bind_some, Option.bind_some]
  simp only []
  rw [(rotate_eq _).2.2.1, Option.bind_some, (rotate_eq _).2.2.2, Option.bind_some, Option.bind_some]
  rfl

theorem stir_eq (s : Int × Int × Int × Int) : F.hash_state_stir s.1 s.2.1 s.2.2.1 s.2.2.2 = some (stir6 s) := by
  unfold F.hash_state_stir
  rw [show fuel = 9223372036854775801 + 1 + 1 + 1 + 1 + 1 + 1 + 1 from rfl]
  rw [stir_step _ s (i := 0) (r := 1) (by decide) (by decide) (by decide), stir_step _ _ (i := 1) (r := 2) (by decide) (by decide) (by decide), stir_step _ _ (i := 2) (r := 3) (by decide) (by decide) (by decide),
    stir_step _ _ (i := 3) (r := 4) (by decide) (by decide) (by decide), stir_step _ _ (i := 4) (r := 5) (by decide) (by decide) (by decide), stir_step _ _ (i := 5) (r := 6) (by decide) (by decide) (by decide)]
  unfold F.hash_state_stir.l1
  rw [if_neg (by decide)]
  rfl

theorem take_eq (s : Int × Int × Int × Int) (n : Int) : F.hash_state_take s.1 s.2.1 s.2.2.1 s.2.2.2 n = some (takeS s n) := by
  unfold F.hash_state_take
  rw [stir_eq (bitXor .u64 s.1 n, s.2), Option.bind_some]
  rfl

theorem bytes_l1 (l1 : List Int) : ∀ (j k : Nat) (s : Int × Int × Int × Int) (l2 : List Int), l2.length < j → j ≤ k → Byts l2 → l2.length ≤ 140737488355328 → l1.length ≤ 140737488355328 →
    F.hash_state_bytes.l1 l1 k s.1 s.2.1 s.2.2.1 s.2.2.2 l2 = some (takeS (absorb j s l2) (l1.length : Int))
  | j + 1, k + 1, s, l2, h, hk, hb, hl, hl1 => by
    unfold F.hash_state_bytes.l1 absorb
    by_cases h8 : l2.length ≥ 8
    · have e1 : sliceI l2 0 8 = l2.take 8 := by simp [sliceI]
      have e2 : sliceI l2 8 (l2.length : Int) = l2.drop 8 := by
        unfold sliceI
        rw [show ((8 : Int)).toNat = 8 from rfl, List.take_of_length_le (by rw [List.length_drop]; omega)]
      rw [if_pos (by simp; omega), if_pos (by omega), e1, hash_number_eq (hb.take 8) (by rw [List.length_take]; omega), Option.bind_some, take_eq, Option.bind_some]
      simp only []
      rw [if_pos (by omega), e2, if_pos h8]
      exact bytes_l1 l1 j k _ (l2.drop 8) (by rw [List.length_drop]; omega) (by omega) (hb.drop 8) (by rw [List.length_drop]; omega) hl1
    · have hw : IntKind.i64.wrap (8 * (l2.length : Int)) = 8 * (l2.length : Int) := wrap_id (by omega) (by omega)
      have hu : IntKind.u64.wrap (l1.length : Int) = (l1.length : Int) := by rw [wrap_u64]; omega
      rw [if_neg (by simp; omega), hash_number_eq hb (by omega), Option.bind_some, hw, if_pos (by omega), or_shift8 (val256_bound hb) (by omega) (by omega), Int.one_mul, take_eq, Option.bind_some]
      simp only []
      rw [take_eq, Option.bind_some, hu, if_neg h8]

theorem Of_eq {l : List Int} (hb : Byts l) (hl : l.length ≤ 140737488355328) : F.hash_Of l = some (hOf l) := by
  have h : F.hash_state_bytes.l1 l fuel 2611923443488327891 1376283091369227076 11820040416388919760 1 l = some (bytesS (beg 1) l) :=
    bytes_l1 l (l.length + 1) fuel (beg 1) l (by omega) (by rw [fuel_eq]; omega) hb hl hl
  unfold F.hash_Of F.hash_begin hOf
  rw [Option.bind_some]
  simp only []
  unfold F.hash_state_bytes
  rw [h, Option.bind_some]
  generalize bytesS (beg 1) l = s
  obtain ⟨a, b, c, d⟩ := s
  unfold F.hash_state_digest F.hash_state_gives
  rw [Option.bind_some, FromNum_eq, Option.bind_some]
  rfl

theorem outN_u64 (s : Int × Int × Int × Int) : 0 ≤ outN s ∧ outN s < 18446744073709551616 := by
  unfold outN bitXor
  rw [wrap_u64]; omega
end Go.Proofs.Ytlnockimfgfcgaa
