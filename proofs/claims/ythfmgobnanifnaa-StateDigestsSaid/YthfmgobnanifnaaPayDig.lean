/-
  Plain facts of what is signed of a payout, by the program.
-/
import Derived.Test.YthfmgobnanifnaaStateDig
namespace Go.Proofs.Ythfmgobnanifnaa
open Go.Lab
set_option maxRecDepth 10000

/-! ### What is signed of a payout -/

def payL (l : List Int) : List (List Int) := encN (l.length : Int) :: l.map fun n => encN (zig n)
def payD (d : Arr Int 8) (l : List Int) : Arr Int 8 := hOf (headB str_4 d ++ (payL l).flatten)

theorem nums_len : ∀ l : List Int, (l.map fun n => encN (zig n)).flatten.length ≤ 10 * l.length
  | [] => by simp
  | x :: l => by
    have := nums_len l
    have h := encN_len (zig x)
    simp only [List.map_cons, List.flatten_cons, List.length_append, List.length_cons]
    omega
theorem nums_byts : ∀ l : List Int, Byts (l.map fun n => encN (zig n)).flatten
  | [] => by intro y hy; simp at hy
  | x :: l => (encN_byts (zig x)).append (nums_byts l)

theorem Payout_l1 {d : Arr Int 8} (hd : Byts d.1) {l : List Int} (hl : l.length < 1000000) (hw : ∀ x ∈ l, I64 x) : ∀ (r p : List Int) (k : Nat), l = p ++ r → r.length < k →
    F.state_Payout_Digest.l1 d l k (encN (l.length : Int) :: p.map fun n => encN (zig n)) (p.length : Int) = some (payD d l) := by
  intro r
  induction r with
  | nil =>
    intro p k hp hk
    obtain ⟨k, rfl⟩ : ∃ j, k = j + 1 := ⟨k - 1, by omega⟩
    have hlp : l = p := by rw [hp]; simp
    unfold F.state_Payout_Digest.l1
    rw [if_neg (by rw [hlp]; simp), ← hlp]
    have h1 := nums_len l
    have h2 := encN_len (l.length : Int)
    have hf : (payL l).flatten = encN (l.length : Int) ++ (l.map fun n => encN (zig n)).flatten := rfl
    have e := state_of_eq (s := str_4) (Nat.le_of_ble_eq_true rfl) hd (l := payL l) (by simp [payL]; omega) (by rw [hf, List.length_append]; omega) (by rw [hf]; exact (encN_byts _).append (nums_byts l))
    show (F.state_of str_4 d (payL l)).bind _ = _
    rw [e, Option.bind_some]
    rfl
  | cons x r ih =>
    intro p k hp hk
    obtain ⟨k, rfl⟩ : ∃ j, k = j + 1 := ⟨k - 1, by simp at hk; omega⟩
    have hlen : l.length = p.length + r.length + 1 := by rw [hp]; simp; omega
    have hg : getI l (p.length : Int) = x := by rw [hp]; exact getI_cat
    unfold F.state_Payout_Digest.l1
    rw [if_pos (by simp; omega), if_pos (by omega), hg, number_eq (hw x (by rw [hp]; simp)), Option.bind_some, if_pos (by simp; omega), wrap_succ (by omega) (by omega)]
    have := ih (p ++ [x]) k (by rw [hp]; simp) (by simp at hk; omega)
    simp only [List.length_append, List.length_cons, List.length_nil, Nat.zero_add, List.map_append, List.map_cons, List.map_nil] at this
    exact this

theorem Payout_Digest_eq {d : Arr Int 8} (hd : Byts d.1) {l : List Int} (hl : l.length < 1000000) (hw : ∀ x ∈ l, I64 x) : F.state_Payout_Digest d l = some (payD d l) := by
  unfold F.state_Payout_Digest
  rw [show IntKind.u64.wrap (l.length : Int) = (l.length : Int) by rw [wrap_u64]; omega, PutNum_eq (by simp) (by omega) (by omega), Option.bind_some]
  exact Payout_l1 hd hl hw l [] fuel (by simp) (by rw [fuel_eq]; omega)

end Go.Proofs.Ythfmgobnanifnaa
