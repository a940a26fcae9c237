/-
  Plain facts of what is signed of states, acts and payouts: the program's and the document's are the same bytes.
-/
import Derived.Test.YtlnockimfgfcgaaPayDig
import Derived.Test.YtlnockimfgfcgaaHashR
import Derived.Test.YtlnockimfgfcgaaNumRW
namespace Go.Proofs.Ytlnockimfgfcgaa
open Go.Lab
set_option maxRecDepth 10000

theorem fold_eq {n : Int} (h : I64 n) : F.baizeref01_Fold n = some (zig n) := by
  obtain ⟨h1, h2⟩ := h
  unfold F.baizeref01_Fold zig
  by_cases hn : n < 0
  · rw [if_pos (by simpa using hn), if_pos hn, wrap_id (x := n + 1) (by omega) (by omega), wrap_id (by omega) (by omega), wrap_u64, wrap_u64, wrap_u64]
    congr 1
    omega
  · rw [if_neg (by simpa using hn), if_neg hn, wrap_u64, wrap_u64]
    congr 1
    omega

theorem rnumber_eq {n : Int} (h : I64 n) : F.baizeref32_number n = some (encN (zig n)) := by
  have hz := zig_range h
  unfold F.baizeref32_number
  rw [fold_eq h, Option.bind_some, ref_Num_eq hz.1 hz.2, Option.bind_some]

def bytB (x : List Int) : List Int := encN (x.length : Int) ++ x
theorem bytB_len (x : List Int) : (bytB x).length ≤ 10 + x.length := by
  have := encN_len (x.length : Int)
  simp only [bytB, List.length_append]; omega
theorem bytB_byts {x : List Int} (h : Byts x) : Byts (bytB x) := (encN_byts _).append h

theorem rBytes_eq {x : List Int} (h : x.length ≤ 1000000000) : F.baizeref01_Bytes x = some (bytB x) := by
  have e := encN_len (x.length : Int)
  unfold F.baizeref01_Bytes bytB
  rw [show IntKind.u64.wrap (x.length : Int) = (x.length : Int) by rw [wrap_u64]; omega, ref_Num_eq (by omega) (by omega), Option.bind_some, if_pos (by omega)]

theorem rtext_eq {s : ByteArray} (h : (strBytes s).length ≤ 1000) : F.baizeref32_text s = some (bytB (strBytes s)) := by
  unfold F.baizeref32_text
  rw [rBytes_eq (by omega), Option.bind_some]

theorem head_eq (s : ByteArray) (d : Arr Int 8) : bytB (strBytes s) ++ bytB d.1 = headB s d := rfl

def stateB (d : Arr Int 8) (n : Int) (b : List Int) : List Int := headB str_0 d ++ (encN (zig n) ++ bytB b)
def actB (d : Arr Int 8) (n : Int) (a : Arr Int 8) (b : List Int) : List Int := headB str_3 d ++ (encN (zig n) ++ (bytB a.1 ++ bytB b))
theorem stateB_byts {d : Arr Int 8} (hd : Byts d.1) (n : Int) {b : List Int} (hb : Byts b) : Byts (stateB d n b) := (headB_byts _ hd).append ((encN_byts _).append (bytB_byts hb))
theorem actB_byts {d : Arr Int 8} (hd : Byts d.1) (n : Int) {a : Arr Int 8} (ha : Byts a.1) {b : List Int} (hb : Byts b) : Byts (actB d n a b) := (headB_byts _ hd).append ((encN_byts _).append ((bytB_byts ha).append (bytB_byts hb)))
theorem sS : (strBytes str_0).length = 5 := rfl
theorem sA : (strBytes str_3).length = 3 := rfl
theorem stateB_len (d : Arr Int 8) (n : Int) (b : List Int) : (stateB d n b).length ≤ 100 + b.length := by
  have h1 := headB_len str_0 d
  have h2 := encN_len (zig n)
  have h3 := bytB_len b
  have h4 := sS
  unfold stateB
  simp only [List.length_append]; omega
theorem actB_len (d : Arr Int 8) (n : Int) (a : Arr Int 8) (b : List Int) : (actB d n a b).length ≤ 100 + b.length := by
  have h1 := headB_len str_3 d
  have h2 := encN_len (zig n)
  have h3 := bytB_len b
  have h4 := sA
  have h5 := bytB_len a.1
  have h6 := a.2
  unfold actB
  simp only [List.length_append]; omega
/-! ### The program's -/

theorem Put0_eq {x : List Int} (h : x.length ≤ 1000000000) : F.octet_PutBytes [] x = some (bytB x) := by
  rw [PutBytes_eq (by simp; omega)]
  rfl

theorem State_eq {d : Arr Int 8} (hd : Byts d.1) {n : Int} (hn : I64 n) {b : List Int} (hb : Byts b) (hl : b.length ≤ 1000000) : F.state_State_Digest d n b = some (hOf (stateB d n b)) := by
  have h2 := encN_len (zig n)
  have h3 := bytB_len b
  have e := state_of_eq (s := str_0) (Nat.le_of_ble_eq_true rfl) hd (l := [encN (zig n), bytB b]) (by simp) (by simp; omega) (by simp only [List.flatten_cons, List.flatten_nil, List.append_nil]; exact (encN_byts _).append (bytB_byts hb))
  unfold F.state_State_Digest
  rw [number_eq hn, Option.bind_some, Put0_eq (by omega), Option.bind_some, e, Option.bind_some]
  simp [stateB]

theorem Act_eq {d : Arr Int 8} (hd : Byts d.1) {n : Int} (hn : I64 n) {a : Arr Int 8} (ha : Byts a.1) {b : List Int} (hb : Byts b) (hl : b.length ≤ 1000000) : F.state_Act_Digest d n a b = some (hOf (actB d n a b)) := by
  have h2 := encN_len (zig n)
  have h3 := bytB_len b
  have h4 := bytB_len a.1
  have h5 := a.2
  have e := state_of_eq (s := str_3) (Nat.le_of_ble_eq_true rfl) hd (l := [encN (zig n), bytB a.1, bytB b]) (by simp) (by simp; omega) (by simp only [List.flatten_cons, List.flatten_nil, List.append_nil]; exact (encN_byts _).append ((bytB_byts ha).append (bytB_byts hb)))
  unfold F.state_Act_Digest
  rw [number_eq hn, Option.bind_some, Put0_eq (by omega), Option.bind_some, Put0_eq (by omega), Option.bind_some, e, Option.bind_some]
  simp [actB]

/-! ### The document's -/

theorem rState_eq (d : Arr Int 8) {n : Int} (hn : I64 n) {b : List Int} (hl : b.length ≤ 1000000) : F.baizeref32_Bytes d n b = some (stateB d n b) := by
  have h2 := encN_len (zig n)
  have h3 := bytB_len b
  have h4 := bytB_len d.1
  have h5 := d.2
  have h6 := bytB_len (strBytes str_0)
  have h7 := sS
  unfold F.baizeref32_Bytes
  rw [rtext_eq (by omega), Option.bind_some, rBytes_eq (by omega), Option.bind_some, if_pos (by omega), rnumber_eq hn, Option.bind_some, if_pos (by simp only [List.length_append]; omega), rBytes_eq (by omega), Option.bind_some, if_pos (by simp only [List.length_append]; omega), head_eq]
  simp [stateB]

theorem rAct_eq (d : Arr Int 8) {n : Int} (hn : I64 n) (a : Arr Int 8) {b : List Int} (hl : b.length ≤ 1000000) : F.baizeref32_Act d n a b = some (actB d n a b) := by
  have h2 := encN_len (zig n)
  have h3 := bytB_len b
  have h4 := bytB_len d.1
  have h5 := d.2
  have h6 := bytB_len (strBytes str_3)
  have h7 := sA
  have h8 := bytB_len a.1
  have h9 := a.2
  unfold F.baizeref32_Act
  rw [rtext_eq (by omega), Option.bind_some, rBytes_eq (by omega), Option.bind_some, if_pos (by omega), rnumber_eq hn, Option.bind_some, if_pos (by simp only [List.length_append]; omega), rBytes_eq (by omega), Option.bind_some, if_pos (by simp only [List.length_append]; omega),
    rBytes_eq (by omega), Option.bind_some, if_pos (by simp only [List.length_append]; omega), head_eq]
  simp [actB]

theorem rOf32 {l : List Int} (hb : Byts l) (hl : l.length ≤ 1000000000) : F.baizeref32_Of l = some (hOf l) := by
  unfold F.baizeref32_Of
  rw [rOf_eq hb (by omega), Option.bind_some]

/-! ### The statements' own -/

theorem imin_le (l : Int) (m : Int) (h0 : 0 ≤ l) (hm : 0 ≤ m) : 0 ≤ imin l m ∧ imin l m ≤ l ∧ imin l m ≤ m := by
  unfold imin
  split <;> omega

theorem cut_eq (l : List Int) (m : Nat) : sliceI l 0 (imin (l.length : Int) (m : Int)) = l.take m := by
  unfold sliceI imin
  split
  · simp
  · rw [show ((0 : Int)).toNat = 0 from rfl, List.drop_zero, Int.toNat_natCast, Nat.sub_zero, List.take_of_length_le (Nat.le_refl _), List.take_of_length_le (by omega)]

theorem arr_same {n : Nat} (a : Arr Int n) : (a.1 == a.1) = true := by simp
theorem i64_wf {l : List Int} (h : ∀ y ∈ l, (Lit.int .i64 y).wf = true) : ∀ x ∈ l, I64 x := fun x hx => wf_i64.1 (h x hx)
end Go.Proofs.Ytlnockimfgfcgaa
