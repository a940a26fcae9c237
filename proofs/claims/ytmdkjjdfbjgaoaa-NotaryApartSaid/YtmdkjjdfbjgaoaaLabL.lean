/-
  Plain helpers for the plain laws: wraps that change nothing, elements, loops over a list.
-/
import Derived.Test.YtmdkjjdfbjgaoaaLabS
import GoSem.Claim
namespace Go.Lab

theorem wrap_i64 (x : Int) : IntKind.i64.wrap x = (x + 9223372036854775808) % 18446744073709551616 - 9223372036854775808 := by
  simp [IntKind.wrap, IntKind.bits, IntKind.signed]
  split <;> omega
theorem wrap_u64 (x : Int) : IntKind.u64.wrap x = x % 18446744073709551616 := by simp [IntKind.wrap, IntKind.bits, IntKind.signed]
theorem wrap_byte (x : Int) : IntKind.u8.wrap x = x % 256 := by simp [IntKind.wrap, IntKind.bits, IntKind.signed]

theorem wrap_id {x : Int} (h1 : -9223372036854775808 ≤ x) (h2 : x ≤ 9223372036854775807) : IntKind.i64.wrap x = x := by
  rw [wrap_i64]; omega

theorem wrap_succ {x : Int} (h1 : 0 ≤ x) (h2 : x < 9223372036854775807) : IntKind.i64.wrap (x + 1) = x + 1 := wrap_id (by omega) (by omega)

theorem wrap_u8 {x : Int} (h1 : 0 ≤ x) (h2 : x ≤ 255) : IntKind.u8.wrap x = x := by
  rw [wrap_byte]; omega

theorem wf_i64 {x : Int} : (Lit.int .i64 x).wf = true ↔ -9223372036854775808 ≤ x ∧ x ≤ 9223372036854775807 := by
  simp [Lit.wf, IntKind.min, IntKind.max, IntKind.signed, IntKind.bits]

theorem getI_drop {α : Type} [Inhabited α] {l : List α} {i : Int} (h0 : 0 ≤ i) (h1 : i < (l.length : Int)) : l.drop i.toNat = getI l i :: l.drop (i + 1).toNat := by
  have hlt : i.toNat < l.length := by omega
  rw [List.drop_eq_getElem_cons hlt, show (i + 1).toNat = i.toNat + 1 by omega]
  unfold getI
  rw [List.getD_eq_getElem?_getD, List.getElem?_eq_getElem hlt]
  rfl

theorem drop_end {α : Type} {l : List α} {i : Int} (h1 : ¬ i < (l.length : Int)) : l.drop i.toNat = [] := List.drop_eq_nil_of_le (by omega)

theorem fuel_eq : fuel = 9223372036854775808 := rfl
theorem getI_mem {α : Type} [Inhabited α] {l : List α} {i : Int} (h0 : 0 ≤ i) (h1 : i < (l.length : Int)) : getI l i ∈ l := by
  have hlt : i.toNat < l.length := by omega
  unfold getI
  rw [List.getD_eq_getElem?_getD, List.getElem?_eq_getElem hlt]
  exact List.getElem_mem hlt
end Go.Lab
