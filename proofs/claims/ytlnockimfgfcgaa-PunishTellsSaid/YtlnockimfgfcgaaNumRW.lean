/-
  Plain facts of numbers' and bytes' bytes: what the document's reader and writer come to.
-/
import Derived.Test.YtlnockimfgfcgaaNumW
namespace Go.Proofs.Ytlnockimfgfcgaa
open Go.Lab
set_option maxRecDepth 10000

theorem ref_num_l1 : ∀ (j k n : Nat) (l : List Int), n < 128 ^ j → 0 < j → j ≤ 10 → n < 18446744073709551616 → j ≤ k → l.length + j ≤ 140737488355328 → F.baizeref01_Num.l1 k (n : Int) l = some (l ++ enc j n)
  | 0, _, _, _, _, h, _, _, _, _ => absurd h (by omega)
  | j + 1, 0, _, _, _, _, _, _, h, _ => absurd h (by omega)
  | j + 1, k + 1, n, l, hn, _, hj, hb, hk, hl => by
    have hu : IntKind.u8.wrap (n : Int) = ((n % 256 : Nat) : Int) := by rw [wrap_byte]; omega
    have htm : (n : Int).tmod 128 = ((n % 128 : Nat) : Int) := by rw [Int.tmod_eq_emod_of_nonneg (by omega)]; omega
    have htd : (n : Int).tdiv 128 = ((n / 128 : Nat) : Int) := by rw [Int.tdiv_eq_ediv_of_nonneg (by omega)]; omega
    unfold F.baizeref01_Num.l1 enc
    by_cases h : n < 128
    · rw [if_neg (by simp; omega), if_pos (by simp; omega), if_pos h, hu, Nat.mod_eq_of_lt (by omega)]
    · rw [if_pos (by simp; omega), if_pos (by simp; omega), if_neg h, htm, htd]
      have hj0 : 0 < j := by
        rcases Nat.eq_zero_or_pos j with h0 | h0
        · subst h0; simp at hn; omega
        · exact h0
      have w1 : IntKind.u64.wrap (128 + ((n % 128 : Nat) : Int)) = 128 + ((n % 128 : Nat) : Int) := by rw [wrap_u64]; omega
      have w2 : IntKind.u8.wrap (128 + ((n % 128 : Nat) : Int)) = 128 + ((n % 128 : Nat) : Int) := by rw [wrap_byte]; omega
      have w3 : IntKind.u64.wrap ((n / 128 : Nat) : Int) = ((n / 128 : Nat) : Int) := by rw [wrap_u64]; omega
      rw [w1, w2, w3, ref_num_l1 j k (n / 128) _ (by rw [Nat.pow_succ] at hn; exact Nat.div_lt_of_lt_mul (by rw [Nat.mul_comm]; exact hn)) hj0 (by omega) (by omega) (by omega) (by simp; omega)]
      rw [List.append_assoc]; rfl

theorem ref_Num_eq {n : Int} (h0 : 0 ≤ n) (h1 : n < 18446744073709551616) : F.baizeref01_Num n = some (encN n) := by
  obtain ⟨m, rfl⟩ := Int.eq_ofNat_of_zero_le h0
  have := ref_num_l1 10 fuel m [] (lt_128_10 (by omega)) (by omega) (by omega) (by omega) (by rw [fuel_eq]; omega) (by simp)
  simpa [F.baizeref01_Num, encN] using this

end Go.Proofs.Ytlnockimfgfcgaa
