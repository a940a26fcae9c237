/-
  The plain law of TxBounds: each of a transaction's numbers may be as great as told, and no greater.
-/
import Derived.Test.YtjcmjedphijhjaaTxPure
namespace Go.Proofs.Ytjcmjedphijhjaa
open Go.Lab

theorem bounds_c1 (x3 x4 x5 : Int) (l1 l2 : List Int) (q : Bool) (h5 : x5 ≠ 0)
    (hq : q = true ↔ (0 ≤ x3 ∧ x3 ≤ 1099511627776) ∧ (0 ≤ x4 ∧ x4 ≤ 1125899906842624) ∧ (0 ≤ x5 ∧ x5 ≤ 2) ∧ l1.length ≤ 32768 ∧ l2.length ≤ 1024) :
    F.baizelaw25_TxBounds.c1 x3 x4 x5 l1 l2 q = some true := by
  have hn : (x5 != 0) = true := by simpa using h5
  unfold F.baizelaw25_TxBounds.c1
  simp only [known_true, check_eq, Option.bind_some, if_true, hn]
  cases q with
  | true =>
    rw [if_pos rfl, if_pos (hq.1 rfl)]
    rfl
  | false =>
    rw [if_neg (by simp), if_neg (fun h => by simpa using hq.2 h)]
    rfl

theorem law_TxBounds (a0 : Int) (a1 : Int) (w0 : (Lit.int .i64 a0).wf = true) (w1 : (Lit.int .u8 a1).wf = true) : F.baizelaw25_TxBounds a0 a1 = some true := by
  have hw := wf_i64.1 w0
  have hu1 : 0 ≤ IntKind.u64.wrap a0 := by rw [wrap_u64]; omega
  unfold F.baizelaw25_TxBounds
  split
  · split
    · rename_i h
      exact bounds_c1 _ _ _ _ _ _ (by decide) (by simp at h ⊢; omega)
    · rename_i h
      exact bounds_c1 _ _ _ _ _ _ (by decide) (by simp at h ⊢; omega)
  split
  · split
    · rename_i h
      exact bounds_c1 _ _ _ _ _ _ (by decide) (by simp at h ⊢; omega)
    · rename_i h
      exact bounds_c1 _ _ _ _ _ _ (by decide) (by simp at h ⊢; omega)
  split
  · have h9 : 0 ≤ (IntKind.u64.wrap a0).tmod 9 ∧ (IntKind.u64.wrap a0).tmod 9 < 9 := ⟨Int.tmod_nonneg _ hu1, Int.tmod_lt_of_pos _ (by decide)⟩
    rw [wrap_id (x := (IntKind.u64.wrap a0).tmod 9) (by omega) (by omega), wrap_id (x := 1 + (IntKind.u64.wrap a0).tmod 9) (by omega) (by omega)]
    exact bounds_c1 _ _ _ _ _ _ (by omega) (by simp; omega)
  split
  · have h9 : 0 ≤ (IntKind.u64.wrap a0).tmod 20 ∧ (IntKind.u64.wrap a0).tmod 20 < 20 := ⟨Int.tmod_nonneg _ hu1, Int.tmod_lt_of_pos _ (by decide)⟩
    rw [wrap_id (x := (IntKind.u64.wrap a0).tmod 20) (by omega) (by omega), wrap_id (x := 32760 + (IntKind.u64.wrap a0).tmod 20) (by omega) (by omega)]
    rw [if_pos (by omega)]
    exact bounds_c1 _ _ _ _ _ _ (by decide) (by simp)
  split
  · have h9 : 0 ≤ (IntKind.u64.wrap a0).tmod 50 ∧ (IntKind.u64.wrap a0).tmod 50 < 50 := ⟨Int.tmod_nonneg _ hu1, Int.tmod_lt_of_pos _ (by decide)⟩
    rw [wrap_id (x := (IntKind.u64.wrap a0).tmod 50) (by omega) (by omega), wrap_id (x := 1000 + (IntKind.u64.wrap a0).tmod 50) (by omega) (by omega)]
    rw [if_pos (by omega)]
    exact bounds_c1 _ _ _ _ _ _ (by decide) (by simp)
  · exact bounds_c1 _ _ _ _ _ _ (by decide) (by simp)
end Go.Proofs.Ytjcmjedphijhjaa
