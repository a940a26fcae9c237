/-
  Plain facts of octet's numbers with a sign, by the program.
-/
import Derived.Test.YtlnockimfgfcgaaNumW
namespace Go.Proofs.Ytlnockimfgfcgaa
open Go.Lab
set_option maxRecDepth 10000

/-- The number of one with a sign. -/
def zig (n : Int) : Int := if n < 0 then -(2 * n) - 1 else 2 * n

def I64 (x : Int) : Prop := -9223372036854775808 ≤ x ∧ x ≤ 9223372036854775807

theorem zig_range {n : Int} (h : I64 n) : 0 ≤ zig n ∧ zig n < 18446744073709551616 := by
  obtain ⟨h1, h2⟩ := h
  unfold zig
  split <;> omega

theorem zig_inj {a b : Int} (h : zig a = zig b) : a = b := by
  unfold zig at h
  split at h <;> split at h <;> omega

theorem xor_zero64 {x : Int} (h0 : 0 ≤ x) (h1 : x < 18446744073709551616) : bitXor .u64 x 0 = x := by
  obtain ⟨m, rfl⟩ := Int.eq_ofNat_of_zero_le h0
  unfold bitXor
  rw [wrap_u64, BitVec.toNat_xor, BitVec.toNat_ofInt, BitVec.toNat_ofInt]
  show ((((m : Int) % ((2 ^ 64 : Nat) : Int)).toNat ^^^ ((0 : Int) % ((2 ^ 64 : Nat) : Int)).toNat : Nat) : Int) % 18446744073709551616 = _
  have e1 : ((m : Int) % ((2 ^ 64 : Nat) : Int)).toNat = m := by omega
  rw [e1, show ((0 : Int) % ((2 ^ 64 : Nat) : Int)).toNat = 0 from rfl, Nat.xor_zero]
  omega

theorem nat_xor_ones {m : Nat} (h : m < 18446744073709551616) : m ^^^ 18446744073709551615 = 18446744073709551615 - m := by
  have key : (BitVec.ofNat 64 m ^^^ BitVec.allOnes 64).toNat = 2 ^ 64 - 1 - (BitVec.ofNat 64 m).toNat := by rw [BitVec.xor_allOnes, BitVec.toNat_not]
  rw [BitVec.toNat_xor, BitVec.toNat_ofNat, BitVec.toNat_allOnes, Nat.mod_eq_of_lt (by omega)] at key
  exact key

theorem xor_ones64 {x : Int} (h0 : 0 ≤ x) (h1 : x < 18446744073709551616) : bitXor .u64 x 18446744073709551615 = 18446744073709551615 - x := by
  obtain ⟨m, rfl⟩ := Int.eq_ofNat_of_zero_le h0
  unfold bitXor
  rw [wrap_u64, BitVec.toNat_xor, BitVec.toNat_ofInt, BitVec.toNat_ofInt]
  show ((((m : Int) % ((2 ^ 64 : Nat) : Int)).toNat ^^^ ((18446744073709551615 : Int) % ((2 ^ 64 : Nat) : Int)).toNat : Nat) : Int) % 18446744073709551616 = _
  have e1 : ((m : Int) % ((2 ^ 64 : Nat) : Int)).toNat = m := by omega
  rw [e1, show ((18446744073709551615 : Int) % ((2 ^ 64 : Nat) : Int)).toNat = 18446744073709551615 from rfl, nat_xor_ones (by omega)]
  omega

theorem turn_eq {n : Int} (h : I64 n) : F.octet_turn n = some (zig n) := by
  obtain ⟨h1, h2⟩ := h
  unfold F.octet_turn
  have hs : shV true .u64 (IntKind.u64.wrap n) 1 = n % 18446744073709551616 * 2 % 18446744073709551616 := by
    unfold shV
    rw [if_pos rfl, show ((1 : Int)).toNat = 1 from rfl, show IntKind.u64.bits = 64 from rfl, Nat.min_eq_left (by omega), wrap_u64, wrap_u64]
    rfl
  have hr : shV false .i64 n 63 = n / 9223372036854775808 := by
    unfold shV
    rw [if_neg (by simp), show ((63 : Int)).toNat = 63 from rfl, show IntKind.i64.bits = 64 from rfl, Nat.min_eq_left (by omega), Int.fdiv_eq_ediv_of_nonneg _ (by decide)]
    rfl
  rw [hs, hr]
  unfold zig
  by_cases hn : n < 0
  · rw [if_pos hn, show n / 9223372036854775808 = -1 by omega, show IntKind.u64.wrap (-1) = 18446744073709551615 from rfl, xor_ones64 (by omega) (by omega)]
    congr 1
    omega
  · rw [if_neg hn, show n / 9223372036854775808 = 0 by omega, show IntKind.u64.wrap 0 = 0 from rfl, xor_zero64 (by omega) (by omega)]
    congr 1
    omega

theorem PutInt_eq {l : List Int} (hl : l.length ≤ 140737488355000) {n : Int} (h : I64 n) : F.octet_PutInt l n = some (l ++ encN (zig n)) := by
  unfold F.octet_PutInt
  rw [turn_eq h, Option.bind_some, PutNum_eq hl (zig_range h).1 (zig_range h).2, Option.bind_some]

theorem strBytes_byts (s : ByteArray) : Byts (strBytes s) := by
  intro y hy
  simp only [strBytes, List.mem_map] at hy
  obtain ⟨b, _, rfl⟩ := hy
  have := b.toNat_lt
  omega

theorem PutText_eq {l : List Int} {s : ByteArray} (hl : l.length + (strBytes s).length ≤ 140737488350000) : F.octet_PutText l s = some (l ++ (encN ((strBytes s).length : Int) ++ strBytes s)) := by
  unfold F.octet_PutText
  rw [PutBytes_eq hl, Option.bind_some]
end Go.Proofs.Ytlnockimfgfcgaa
