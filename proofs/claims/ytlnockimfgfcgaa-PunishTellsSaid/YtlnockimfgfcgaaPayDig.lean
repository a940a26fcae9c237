/-
  Plain facts of what is signed of a payout, by the program.
-/
import Derived.Test.YtlnockimfgfcgaaStateDig
namespace Go.Proofs.Ytlnockimfgfcgaa
open Go.Lab
set_option maxRecDepth 10000

/-! ### What is signed of a payout -/

def payL (l : List Int) : List (List Int) := encN (l.length : Int) :: l.map fun n => encN (zig n)
theorem nums_len : ∀ l : List Int, (l.map fun n => encN (zig n)).flatten.length ≤ 10 * l.length
  | [] => by simp
  | x :: l => by
    have := nums_len l
    have h := encN_len (zig x)
    simp only [List.map_cons, List.flatten_cons, List.length_append, List.length_cons]
    omega
theorem nums_byts : ∀ l : List Int, Byts (l.map fun n => encN (zig n)).flatten
  | [] => by intro y hy; simp at hy
  | x :: l => (encN_byts (zig x)).append (nums_byts l)

end Go.Proofs.Ytlnockimfgfcgaa
