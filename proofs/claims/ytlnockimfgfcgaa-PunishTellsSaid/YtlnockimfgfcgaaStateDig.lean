/-
  Plain facts of what is signed of states, acts and payouts, by the program.
-/
import Derived.Test.YtlnockimfgfcgaaHashP
import Derived.Test.YtlnockimfgfcgaaNumI
namespace Go.Proofs.Ytlnockimfgfcgaa
open Go.Lab
set_option maxRecDepth 10000

theorem Grow_eq {n : Int} (h0 : 0 ≤ n) (h1 : n ≤ 140737488355328) : F.slices_Grow_byte_byte n = some [] := by
  unfold F.slices_Grow_byte_byte F.slices_Grow_byte_byte.c1
  have hw : IntKind.i64.wrap (n - IntKind.i64.wrap (0 - 0)) = n := by
    rw [show IntKind.i64.wrap (0 - 0) = 0 from rfl, Int.sub_zero, wrap_id (by omega) (by omega)]
  rw [hw, if_neg (by simp; omega)]
  by_cases h : n > 0
  · rw [if_pos (by simpa using h), if_pos ⟨h, h1⟩]
    simp
  · rw [if_neg (by simpa using h)]

theorem getI_cat {α : Type} [Inhabited α] {p r : List α} {x : α} : getI (p ++ x :: r) (p.length : Int) = x := by
  unfold getI
  simp

theorem Concat_l2 {l : List (List Int)} (hl : l.length < 1000000000) (ht : l.flatten.length ≤ 140737488355328) : ∀ (r p : List (List Int)) (k : Nat), l = p ++ r → r.length < k →
    F.slices_Concat_byte_byte.l2 l k p.flatten (p.length : Int) = some l.flatten := by
  intro r
  induction r with
  | nil =>
    intro p k hp hk
    obtain ⟨k, rfl⟩ : ∃ j, k = j + 1 := ⟨k - 1, by omega⟩
    have : l = p := by rw [hp]; simp
    unfold F.slices_Concat_byte_byte.l2
    rw [if_neg (by rw [this]; simp), this]
  | cons x r ih =>
    intro p k hp hk
    obtain ⟨k, rfl⟩ : ∃ j, k = j + 1 := ⟨k - 1, by simp at hk; omega⟩
    have hlen : l.length = p.length + r.length + 1 := by rw [hp]; simp; omega
    have hg : getI l (p.length : Int) = x := by rw [hp]; exact getI_cat
    have hf : l.flatten.length = p.flatten.length + x.length + r.flatten.length := by rw [hp]; simp only [List.flatten_append, List.flatten_cons, List.length_append]; omega
    unfold F.slices_Concat_byte_byte.l2
    rw [if_pos (by simp; omega), if_pos (by omega), hg, if_pos (by omega), wrap_succ (by omega) (by omega)]
    have := ih (p ++ [x]) k (by rw [hp]; simp) (by simp at hk; omega)
    simp only [List.length_append, List.length_cons, List.length_nil, Nat.zero_add, List.flatten_append, List.flatten_cons, List.flatten_nil, List.append_nil] at this
    exact this

theorem Concat_l1 {l : List (List Int)} (hl : l.length < 1000000000) (ht : l.flatten.length ≤ 140737488355328) : ∀ (r p : List (List Int)) (k : Nat), l = p ++ r → r.length < k →
    F.slices_Concat_byte_byte.l1 l k (p.flatten.length : Int) (p.length : Int) = some l.flatten := by
  intro r
  induction r with
  | nil =>
    intro p k hp hk
    obtain ⟨k, rfl⟩ : ∃ j, k = j + 1 := ⟨k - 1, by omega⟩
    have hlp : l = p := by rw [hp]; simp
    unfold F.slices_Concat_byte_byte.l1
    rw [if_neg (by rw [hlp]; simp), Grow_eq (by omega) (by rw [← hlp]; omega), Option.bind_some]
    exact Concat_l2 hl ht l [] fuel (by simp) (by rw [fuel_eq]; omega)
  | cons x r ih =>
    intro p k hp hk
    obtain ⟨k, rfl⟩ : ∃ j, k = j + 1 := ⟨k - 1, by simp at hk; omega⟩
    have hlen : l.length = p.length + r.length + 1 := by rw [hp]; simp; omega
    have hg : getI l (p.length : Int) = x := by rw [hp]; exact getI_cat
    have hf : l.flatten.length = p.flatten.length + x.length + r.flatten.length := by rw [hp]; simp only [List.flatten_append, List.flatten_cons, List.length_append]; omega
    have hw : IntKind.i64.wrap ((p.flatten.length : Int) + (x.length : Int)) = ((p.flatten.length + x.length : Nat) : Int) := by rw [wrap_id (by omega) (by omega)]; push_cast; rfl
    unfold F.slices_Concat_byte_byte.l1
    rw [if_pos (by simp; omega), if_pos (by omega), hg, hw, if_neg (by simp; omega), wrap_succ (by omega) (by omega)]
    have := ih (p ++ [x]) k (by rw [hp]; simp) (by simp at hk; omega)
    simp only [List.length_append, List.length_cons, List.length_nil, Nat.zero_add, List.flatten_append, List.flatten_cons, List.flatten_nil, List.append_nil] at this
    exact this

theorem Concat_eq {l : List (List Int)} (hl : l.length < 1000000000) (ht : l.flatten.length ≤ 140737488355328) : F.slices_Concat_byte_byte l = some l.flatten := by
  unfold F.slices_Concat_byte_byte
  exact Concat_l1 hl ht l [] fuel (by simp) (by rw [fuel_eq]; omega)

/-- What stands ahead of all that is signed. -/
def headB (s : ByteArray) (d : Arr Int 8) : List Int := encN ((strBytes s).length : Int) ++ strBytes s ++ (encN (d.1.length : Int) ++ d.1)
theorem headB_byts (s : ByteArray) {d : Arr Int 8} (hd : Byts d.1) : Byts (headB s d) := ((encN_byts _).append (strBytes_byts s)).append ((encN_byts _).append hd)
theorem headB_len (s : ByteArray) (d : Arr Int 8) : (headB s d).length ≤ (strBytes s).length + 28 := by
  unfold headB
  have h1 := encN_len ((strBytes s).length : Int)
  have h2 := encN_len (d.1.length : Int)
  have h3 := d.2
  simp only [List.length_append]
  omega

theorem state_of_eq {s : ByteArray} (hs : (strBytes s).length ≤ 1000) {d : Arr Int 8} (hd : Byts d.1) {l : List (List Int)} (hl : l.length < 1000000000) (ht : l.flatten.length ≤ 100000000000) (hb : Byts l.flatten) :
    F.state_of s d l = some (hOf (headB s d ++ l.flatten)) := by
  have h3 := d.2
  have hh := headB_len s d
  have h1 := encN_len ((strBytes s).length : Int)
  unfold F.state_of
  rw [PutText_eq (by simp; omega), Option.bind_some, List.nil_append, PutBytes_eq (by simp only [List.length_append]; omega), Option.bind_some, Concat_eq hl (by omega), Option.bind_some]
  change (if (headB s d).length + _ ≤ _ then (F.hash_Of (headB s d ++ _)).bind _ else _) = _
  rw [if_pos (by omega), Of_eq ((headB_byts s hd).append hb) (by rw [List.length_append]; omega), Option.bind_some]

theorem number_eq {n : Int} (h : I64 n) : F.state_number n = some (encN (zig n)) := by
  unfold F.state_number
  rw [PutInt_eq (by simp) h, Option.bind_some]
  rfl
end Go.Proofs.Ytlnockimfgfcgaa
