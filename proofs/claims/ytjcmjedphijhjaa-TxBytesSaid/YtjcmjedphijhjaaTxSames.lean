/-
  Plain facts of transactions: which are the same.
-/
import Derived.Test.YtjcmjedphijhjaaTxCodec
namespace Go.Proofs.Ytjcmjedphijhjaa
open Go.Lab

theorem refSame_eq (d1 : Arr Int 8) (x1 x2 x3 : Int) {l1 l2 : List Int} (d2 : Arr Int 8) (x4 x5 x6 : Int) (l3 l4 : List Int) (h1 : l1.length ≤ 9223372036854775000) (h2 : l2.length ≤ 9223372036854775000) :
    F.baizeref25_Same d1 x1 x2 x3 l1 l2 d2 x4 x5 x6 l3 l4 = some (decide (d1 = d2 ∧ x1 = x4 ∧ x2 = x5 ∧ x3 = x6 ∧ l1 = l3 ∧ l2 = l4)) := by
  unfold F.baizeref25_Same F.baizeref25_Same.c1
  rw [Same_eq h1, Option.bind_some, Same_eq h2, Option.bind_some]
  have hd : (d1.1 == d2.1) = decide (d1 = d2) := by
    by_cases h : d1 = d2
    · subst h; simp
    · have : d1.1 ≠ d2.1 := fun q => h (Subtype.ext q)
      simp [h, this]
  rw [hd]
  by_cases a1 : d1 = d2 <;> by_cases a2 : x1 = x4 <;> by_cases a3 : x2 = x5 <;> by_cases a4 : x3 = x6 <;> by_cases a5 : l1 = l3 <;> simp [a1, a2, a3, a4, a5]

theorem txSame_eq (d1 : Arr Int 8) (x1 x2 x3 : Int) {l1 l2 : List Int} (d2 : Arr Int 8) (x4 x5 x6 : Int) {l3 l4 : List Int} (h1 : Byts l1) (h2 : Byts l2) (h3 : Byts l3) (h4 : Byts l4) :
    F.tx_Tx_Same d1 x1 x2 x3 l1 l2 d2 x4 x5 x6 l3 l4 = some (decide (d1 = d2 ∧ x1 = x4 ∧ x2 = x5 ∧ x3 = x6 ∧ l1 = l3 ∧ l2 = l4)) := by
  unfold F.tx_Tx_Same F.tx_Tx_Same.c1 F.tx_Tx_Same.c2
  rw [Equal_eq h1 h3, Option.bind_some, Equal_eq h2 h4, Option.bind_some]
  have hd : (d1.1 == d2.1) = decide (d1 = d2) := by
    by_cases h : d1 = d2
    · subst h; simp
    · have : d1.1 ≠ d2.1 := fun q => h (Subtype.ext q)
      simp [h, this]
  rw [hd]
  by_cases a1 : d1 = d2 <;> by_cases a2 : x1 = x4 <;> by_cases a3 : x2 = x5 <;> by_cases a4 : x3 = x6 <;> by_cases a5 : l1 = l3 <;> simp [a1, a2, a3, a4, a5]

theorem allB_byts (d : Arr Int 8) (x1 x2 x3 : Int) {l1 l2 : List Int} (h1 : Byts l1) (h2 : Byts l2) : Byts (allB d x1 x2 x3 l1 l2) := by
  unfold allB
  exact (encN_byts _).append ((encN_byts _).append ((encN_byts _).append ((encN_byts _).append ((encN_byts _).append (h1.append ((encN_byts _).append (h2.append (fun y hy => by cases hy))))))))

theorem allB_len (d : Arr Int 8) (x1 x2 x3 : Int) (l1 l2 : List Int) : (allB d x1 x2 x3 l1 l2).length ≤ 60 + l1.length + l2.length := by
  unfold allB
  have n1 := encN_len x1
  have n2 := encN_len x2
  have n3 := encN_len x3
  have n4 := encN_len (val256 d.1)
  have n5 := encN_len (l1.length : Int)
  have n6 := encN_len (l2.length : Int)
  simp only [List.length_append, List.length_nil]
  omega

theorem dec_bad {b : List Int} (h : (dec b).2.2.2.2.2.2 ≠ 0) : (dec b).2.2.2.2.1 = [] ∧ (dec b).2.2.2.2.2.1 = [] := by
  unfold dec at h ⊢
  simp only [] at h ⊢
  generalize rd b 0 2 = a1 at h ⊢
  generalize rd a1.2.1 a1.2.2 18446744073709551615 = a2 at h ⊢
  generalize rd a2.2.1 a2.2.2 1099511627776 = a3 at h ⊢
  generalize rd a3.2.1 a3.2.2 1125899906842624 = a4 at h ⊢
  generalize rdB a4.2.1 a4.2.2 32768 = a5 at h ⊢
  generalize rdB a5.2.1 a5.2.2 1024 = a6 at h ⊢
  generalize (if a6.2.2 ≠ 0 then a6.2.2 else if a6.2.1.length > 0 then (5 : Int) else 0) = e at h ⊢
  by_cases he : e = 0
  case neg => rw [if_pos he]; exact ⟨rfl, rfl⟩
  rw [if_neg (show ¬ (e ≠ 0) by simpa using he)] at h ⊢
  by_cases hk : chkT a3.1 a4.1 a1.1 a5.1 a6.1 = 0
  case neg => rw [if_pos hk]; exact ⟨rfl, rfl⟩
  rw [if_neg (show ¬ (chkT a3.1 a4.1 a1.1 a5.1 a6.1 ≠ 0) by simpa using hk)] at h
  exact absurd rfl h
end Go.Proofs.Ytjcmjedphijhjaa
