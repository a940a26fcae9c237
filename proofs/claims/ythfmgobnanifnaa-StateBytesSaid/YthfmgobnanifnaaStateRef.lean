/-
  Plain facts of what is signed of states, acts and payouts: the program's and the document's are the same bytes.
-/
import Derived.Test.YthfmgobnanifnaaPayDig
import Derived.Test.YthfmgobnanifnaaHashR
import Derived.Test.YthfmgobnanifnaaNumR
namespace Go.Proofs.Ythfmgobnanifnaa
open Go.Lab
set_option maxRecDepth 10000

def bytB (x : List Int) : List Int := encN (x.length : Int) ++ x
theorem bytB_len (x : List Int) : (bytB x).length ≤ 10 + x.length := by
  have := encN_len (x.length : Int)
  simp only [bytB, List.length_append]; omega
theorem bytB_byts {x : List Int} (h : Byts x) : Byts (bytB x) := (encN_byts _).append h

theorem rBytes_eq {x : List Int} (h : x.length ≤ 1000000000) : F.baizeref01_Bytes x = some (bytB x) := by
  have e := encN_len (x.length : Int)
  unfold F.baizeref01_Bytes bytB
  rw [show IntKind.u64.wrap (x.length : Int) = (x.length : Int) by rw [wrap_u64]; omega, ref_Num_eq (by omega) (by omega), Option.bind_some, if_pos (by omega)]

theorem head_eq (s : ByteArray) (d : Arr Int 8) : bytB (strBytes s) ++ bytB d.1 = headB s d := rfl

def stateB (d : Arr Int 8) (n : Int) (b : List Int) : List Int := headB str_0 d ++ (encN (zig n) ++ bytB b)
theorem stateB_byts {d : Arr Int 8} (hd : Byts d.1) (n : Int) {b : List Int} (hb : Byts b) : Byts (stateB d n b) := (headB_byts _ hd).append ((encN_byts _).append (bytB_byts hb))
theorem sS : (strBytes str_0).length = 5 := rfl
theorem stateB_len (d : Arr Int 8) (n : Int) (b : List Int) : (stateB d n b).length ≤ 100 + b.length := by
  have h1 := headB_len str_0 d
  have h2 := encN_len (zig n)
  have h3 := bytB_len b
  have h4 := sS
  unfold stateB
  simp only [List.length_append]; omega
/-! ### The program's -/

theorem Put0_eq {x : List Int} (h : x.length ≤ 1000000000) : F.octet_PutBytes [] x = some (bytB x) := by
  rw [PutBytes_eq (by simp; omega)]
  rfl

theorem State_eq {d : Arr Int 8} (hd : Byts d.1) {n : Int} (hn : I64 n) {b : List Int} (hb : Byts b) (hl : b.length ≤ 1000000) : F.state_State_Digest d n b = some (hOf (stateB d n b)) := by
  have h2 := encN_len (zig n)
  have h3 := bytB_len b
  have e := state_of_eq (s := str_0) (Nat.le_of_ble_eq_true rfl) hd (l := [encN (zig n), bytB b]) (by simp) (by simp; omega) (by simp only [List.flatten_cons, List.flatten_nil, List.append_nil]; exact (encN_byts _).append (bytB_byts hb))
  unfold F.state_State_Digest
  rw [number_eqS hn, Option.bind_some, Put0_eq (by omega), Option.bind_some, e, Option.bind_some]
  simp [stateB]

/-! ### The document's -/

/-! ### The statements' own -/

theorem told32 : F.baizelaw32_told = some true := by kernel_rfl

theorem imin_le (l : Int) (m : Int) (h0 : 0 ≤ l) (hm : 0 ≤ m) : 0 ≤ imin l m ∧ imin l m ≤ l ∧ imin l m ≤ m := by
  unfold imin
  split <;> omega

theorem few_eq (l : List Int) : F.baizelaw32_few l = some (l.take 5000) := by
  have h := imin_le (l.length : Int) 5000 (by omega) (by omega)
  unfold F.baizelaw32_few
  rw [if_pos (by omega)]
  congr 1
  unfold sliceI imin
  split
  · simp
  · rw [show ((0 : Int)).toNat = 0 from rfl, List.drop_zero, Int.toNat_natCast, Nat.sub_zero, List.take_of_length_le (Nat.le_refl _), List.take_of_length_le (by omega)]

theorem cut_eq (l : List Int) (m : Nat) : sliceI l 0 (imin (l.length : Int) (m : Int)) = l.take m := by
  unfold sliceI imin
  split
  · simp
  · rw [show ((0 : Int)).toNat = 0 from rfl, List.drop_zero, Int.toNat_natCast, Nat.sub_zero, List.take_of_length_le (Nat.le_refl _), List.take_of_length_le (by omega)]

theorem arr_same {n : Nat} (a : Arr Int n) : (a.1 == a.1) = true := by simp
theorem i64_wf {l : List Int} (h : ∀ y ∈ l, (Lit.int .i64 y).wf = true) : ∀ x ∈ l, I64 x := fun x hx => wf_i64.1 (h x hx)
end Go.Proofs.Ythfmgobnanifnaa
