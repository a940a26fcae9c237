/-
  Plain facts of votes on payouts: what is signed, the book, and whether all agreed.
-/
import Derived.Test.YtahpmlekenbafaaStateDig
import Derived.Test.YtahpmlekenbafaaNotaryMiss
import Derived.Test.YtahpmlekenbafaaCloseSum
namespace Go.Proofs.Ytahpmlekenbafaa
open Go.Lab
set_option maxRecDepth 10000

/-! ### What is signed of a payout -/

def payL (l : List Int) : List (List Int) := encN (l.length : Int) :: l.map fun n => encN (zig n)
def payD (d : Arr Int 8) (l : List Int) : Arr Int 8 := hOf (headB str_0 d ++ (payL l).flatten)

theorem nums_len : ∀ l : List Int, (l.map fun n => encN (zig n)).flatten.length ≤ 10 * l.length
  | [] => by simp
  | x :: l => by
    have := nums_len l
    have h := encN_len (zig x)
    simp only [List.map_cons, List.flatten_cons, List.length_append, List.length_cons]
    omega
theorem nums_byts : ∀ l : List Int, Byts (l.map fun n => encN (zig n)).flatten
  | [] => by intro y hy; simp at hy
  | x :: l => (encN_byts (zig x)).append (nums_byts l)

theorem Payout_l1 {d : Arr Int 8} (hd : Byts d.1) {l : List Int} (hl : l.length < 1000000) (hw : ∀ x ∈ l, I64 x) : ∀ (r p : List Int) (k : Nat), l = p ++ r → r.length < k →
    F.state_Payout_Digest.l1 d l k (encN (l.length : Int) :: p.map fun n => encN (zig n)) (p.length : Int) = some (payD d l) := by
  intro r
  induction r with
  | nil =>
    intro p k hp hk
    obtain ⟨k, rfl⟩ : ∃ j, k = j + 1 := ⟨k - 1, by omega⟩
    have hlp : l = p := by rw [hp]; simp
    unfold F.state_Payout_Digest.l1
    rw [if_neg (by rw [hlp]; simp), ← hlp]
    have h1 := nums_len l
    have h2 := encN_len (l.length : Int)
    have hf : (payL l).flatten = encN (l.length : Int) ++ (l.map fun n => encN (zig n)).flatten := rfl
    have e := state_of_eq (s := str_0) (Nat.le_of_ble_eq_true rfl) hd (l := payL l) (by simp [payL]; omega) (by rw [hf, List.length_append]; omega) (by rw [hf]; exact (encN_byts _).append (nums_byts l))
    show (F.state_of str_0 d (payL l)).bind _ = _
    rw [e, Option.bind_some]
    rfl
  | cons x r ih =>
    intro p k hp hk
    obtain ⟨k, rfl⟩ : ∃ j, k = j + 1 := ⟨k - 1, by simp at hk; omega⟩
    have hlen : l.length = p.length + r.length + 1 := by rw [hp]; simp; omega
    have hg : getI l (p.length : Int) = x := by rw [hp]; exact getI_cat
    unfold F.state_Payout_Digest.l1
    rw [if_pos (by simp; omega), if_pos (by omega), hg, number_eq (hw x (by rw [hp]; simp)), Option.bind_some, if_pos (by simp; omega), wrap_succ (by omega) (by omega)]
    have := ih (p ++ [x]) k (by rw [hp]; simp) (by simp at hk; omega)
    simp only [List.length_append, List.length_cons, List.length_nil, Nat.zero_add, List.map_append, List.map_cons, List.map_nil] at this
    exact this

theorem Payout_Digest_eq {d : Arr Int 8} (hd : Byts d.1) {l : List Int} (hl : l.length < 1000000) (hw : ∀ x ∈ l, I64 x) : F.state_Payout_Digest d l = some (payD d l) := by
  unfold F.state_Payout_Digest
  rw [show IntKind.u64.wrap (l.length : Int) = (l.length : Int) by rw [wrap_u64]; omega, PutNum_eq (by simp) (by omega) (by omega), Option.bind_some]
  exact Payout_l1 hd hl hw l [] fuel (by simp) (by rw [fuel_eq]; omega)

/-! ### Who signed what -/

def atB (l : List Bool) (i : Nat) : Bool := decide (i < l.length) && getI l (i : Int)
theorem at_eq (l : List Bool) (i : Nat) : F.baizelaw35_at l (i : Int) = some (atB l i) := by
  unfold F.baizelaw35_at F.baizelaw35_at.c1 atB
  by_cases h : i < l.length
  · rw [if_pos (by simpa using h), if_pos (by omega)]
    simp [h]
  · rw [if_neg (by simpa using h)]
    simp [h]

/-- A seat's key. -/
def keyN (i : Nat) : Arr Int 8 := ⟨[((i + 1 : Nat) : Int), 0, 0, 0, 0, 0, 0, 0], rfl⟩
theorem keyN_inj {i j : Nat} (h : keyN i = keyN j) : i = j := by
  have := congrArg Subtype.val h
  simp only [keyN, List.cons.injEq] at this
  omega
theorem key_wrap {i : Nat} (h : i < 200) : (⟨[(IntKind.u8.wrap (IntKind.i64.wrap ((i : Int) + 1))), 0, 0, 0, 0, 0, 0, 0], rfl⟩ : Arr Int 8) = keyN i := by
  apply Subtype.ext
  simp only [keyN]
  rw [wrap_succ (by omega) (by omega), wrap_u8 (by omega) (by omega)]
  rfl

section
variable (m : Nat → Option (Arr Int 8))

/-- The book behind the votes of so many seats. -/
def voteE : Nat → List S_notary_entry
  | 0 => []
  | n + 1 => match m n with
    | some d => voteE n ++ [⟨keyN n, d⟩]
    | none => voteE n
def voteS (i : Nat) : List Int := match m i with
  | some _ => sigB (voteE m i).length
  | none => []

theorem voteE_len : ∀ n, (voteE m n).length ≤ n
  | 0 => Nat.le_refl _
  | n + 1 => by
    have := voteE_len n
    unfold voteE
    split <;> simp <;> omega

theorem voteE_idx (i : Nat) (D : Arr Int 8) : ∀ n, idxE (voteE m n) ⟨keyN i, D⟩ = if i < n ∧ m i = some D then some (voteE m i).length else none
  | 0 => by simp [voteE, idxE]
  | n + 1 => by
    have ih := voteE_idx i D n
    have hv : voteE m (n + 1) = (match m n with | some d => voteE m n ++ [⟨keyN n, d⟩] | none => voteE m n) := rfl
    rw [hv]
    cases hm : m n with
    | none =>
      simp only []
      rw [ih]
      by_cases h : i < n
      · simp [h, show i < n + 1 by omega]
      · by_cases h2 : i = n
        · subst h2; simp [hm]
        · simp [h, show ¬ i < n + 1 by omega]
    | some d =>
      simp only []
      rw [idxE_append, ih]
      by_cases h : i < n
      · by_cases h3 : m i = some D
        · simp [h, h3, show i < n + 1 by omega]
        · have : keyN i ≠ keyN n := fun q => by have := keyN_inj q; omega
          simp [h, h3, idxE, this]
      · by_cases h2 : i = n
        · subst h2
          by_cases h4 : d = D
          · subst h4; simp [hm, idxE]
          · have : ¬ (D = d) := fun q => h4 q.symm
            simp [hm, idxE, h4, this]
        · have : keyN i ≠ keyN n := fun q => h2 (keyN_inj q)
          simp [h, idxE, this, show ¬ i < n + 1 by omega]

theorem voteS_byts (i : Nat) : Byts (voteS m i) := by
  unfold voteS
  split
  · exact sigB_byts _
  · intro y hy; simp at hy

/-- A seat's signature is one of what it signed alone. -/
theorem vote_ok {n i : Nat} (h : i < n) (D : Arr Int 8) : okV (voteE m n) (keyN i) D (voteS m i) = decide (m i = some D) := by
  unfold okV voteS
  rw [voteE_idx]
  cases hm : m i with
  | none => simp
  | some d =>
    by_cases hd : d = D
    · simp [h, hd]
    · simp [hd]

theorem vote_sign {n : Nat} (d : Arr Int 8) : signL (voteE m n) ⟨keyN n, d⟩ = (voteE m n ++ [⟨keyN n, d⟩], (voteE m n).length) := by
  unfold signL
  rw [voteE_idx, if_neg (by omega)]
end

theorem getI_range {α : Type} [Inhabited α] (f : Nat → α) {n i : Nat} (h : i < n) : getI ((List.range n).map f) (i : Int) = f i := by
  unfold getI
  simp [List.getD_eq_getElem?_getD, h]

theorem missL_nil (es : List S_notary_entry) (D : Arr Int 8) (sigs : List (List Int)) (free : List Bool) : ∀ (r : List (Arr Int 8)) (b : Nat),
    missL es D sigs free r b = [] ↔ ∀ j, (hj : j < r.length) → atB free (b + j) = true ∨ (b + j < sigs.length ∧ okV es r[j] D (getI sigs ((b + j : Nat) : Int)) = true)
  | [], b => by simp [missL]
  | k :: r, b => by
    have ih := missL_nil es D sigs free r (b + 1)
    have split : (∀ j, (hj : j < (k :: r).length) → atB free (b + j) = true ∨ (b + j < sigs.length ∧ okV es (k :: r)[j] D (getI sigs ((b + j : Nat) : Int)) = true)) ↔
        (atB free b = true ∨ (b < sigs.length ∧ okV es k D (getI sigs (b : Int)) = true)) ∧ ∀ j, (hj : j < r.length) → atB free (b + 1 + j) = true ∨ (b + 1 + j < sigs.length ∧ okV es r[j] D (getI sigs ((b + 1 + j : Nat) : Int)) = true) := by
      constructor
      · intro h
        refine ⟨h 0 (Nat.zero_lt_succ _), fun j hj => ?_⟩
        have := h (j + 1) (by simp; omega)
        rw [show b + (j + 1) = b + 1 + j by omega] at this
        simpa using this
      · rintro ⟨h0, h1⟩ j hj
        cases j with
        | zero => simpa using h0
        | succ j =>
          have := h1 j (by simp at hj; omega)
          rw [show b + 1 + j = b + (j + 1) by omega] at this
          simpa using this
    rw [split, ← ih]
    have ha : (decide (b < free.length) && getI free (b : Int)) = atB free b := rfl
    simp only [missL, ha]
    cases atB free b with
    | true => simp
    | false =>
      simp only [Bool.false_eq_true, if_false, false_or]
      by_cases h2 : b < sigs.length
      · cases okV es k D (getI sigs (b : Int)) <;> simp [h2]
      · simp [h2]

/-! ### Agreeing -/

theorem Index_l1 (l : List Bool) (hl : l.length < 1000000) (q : Bool) : ∀ (r p : List Bool) (k : Nat), l = p ++ r → r.length < k →
    ∃ x, F.slices_Index_bool_bool.l1 l q k (p.length : Int) = some x ∧ decide (x ≥ 0) = r.any (fun y => q == y) := by
  intro r
  induction r with
  | nil =>
    intro p k hp hk
    obtain ⟨k, rfl⟩ : ∃ j, k = j + 1 := ⟨k - 1, by omega⟩
    have hlp : l = p := by rw [hp]; simp
    unfold F.slices_Index_bool_bool.l1
    rw [if_neg (by rw [hlp]; simp)]
    exact ⟨-1, rfl, rfl⟩
  | cons x r ih =>
    intro p k hp hk
    obtain ⟨k, rfl⟩ : ∃ j, k = j + 1 := ⟨k - 1, by simp at hk; omega⟩
    have hlen : l.length = p.length + r.length + 1 := by rw [hp]; simp; omega
    have hg : getI l (p.length : Int) = x := by rw [hp]; exact getI_cat
    unfold F.slices_Index_bool_bool.l1
    rw [if_pos (by simp; omega), if_pos (by omega), hg, wrap_succ (by omega) (by omega)]
    by_cases hq : (q == x) = true
    · rw [if_pos hq]
      exact ⟨_, rfl, by simp [hq]⟩
    · rw [if_neg hq]
      have := ih (p ++ [x]) k (by rw [hp]; simp) (by simp at hk; omega)
      simp only [List.length_append, List.length_cons, List.length_nil, Nat.zero_add] at this
      obtain ⟨z, h1, h2⟩ := this
      refine ⟨z, h1, ?_⟩
      rw [h2, List.any_cons]
      simp [hq]

theorem Contains_eq (l : List Bool) (hl : l.length < 1000000) (q : Bool) : F.slices_Contains_bool_bool l q = some (l.any fun y => q == y) := by
  unfold F.slices_Contains_bool_bool F.slices_Index_bool_bool
  obtain ⟨x, h1, h2⟩ := Index_l1 l hl q l [] fuel (by simp) (by rw [fuel_eq]; omega)
  simp only [List.length_nil, Int.natCast_zero] at h1
  rw [h1, Option.bind_some, h2]

theorem Agree_eq {es : List S_notary_entry} (hes : es.length ≤ 65536) {d : Arr Int 8} (hd : Byts d.1) {pays : List Int} (hp : pays.length < 1000) (hw : ∀ x ∈ pays, I64 x) (pot : Int) {keys : List (Arr Int 8)} (hk : keys.length < 1000)
    {sigs : List (List Int)} (hb : ∀ s ∈ sigs, Byts s) (hs : sigs.length = keys.length) {gone : List Bool} (hg : gone.length < 1000) :
    F.close_Agree es (places es) d pays pot keys sigs gone = some (if addsP pot keys.length pays ≠ 0 then addsP pot keys.length pays else if gone.length ≠ keys.length then 3 else
      if (gone.any fun y => false == y) = false then 28 else if missL es (payD d pays) sigs gone keys 0 = [] then 0 else 16) := by
  unfold F.close_Agree
  have hm : (maxLen : Int) = 9223372036854775807 := rfl
  rw [close_Adds_eq _ _ _ (by omega), Option.bind_some]
  by_cases h0 : addsP pot (keys.length : Int) pays = 0
  · have hn : 2 ≤ keys.length := by
      unfold addsP at h0
      split at h0
      · cases h0
      · omega
    rw [h0, if_neg (by simp)]
    simp only [ne_eq, not_true, if_false]
    by_cases h1 : gone.length = keys.length
    · rw [if_neg (by simp [h1]), Contains_eq _ (by omega), Option.bind_some]
      simp only [h1, not_true, if_false]
      cases gone.any fun y => false == y with
      | false => simp
      | true =>
        simp only [Bool.not_true, Bool.false_eq_true, if_false, Bool.true_eq_false]
        rw [Payout_Digest_eq hd (by omega) hw, Option.bind_some, All_eq hes (by omega) _ hb, Option.bind_some, if_neg (by omega)]
    · rw [if_pos (by simp; omega)]
      simp [h1]
  · rw [if_pos (by simpa using h0)]
    simp [h0]
end Go.Proofs.Ytahpmlekenbafaa
