/-
  Plain facts of seats that sign, each by its own key, one message or none: the book, whose signatures lack, how many signed.
-/
import Derived.Test.YthfmgobnanifnaaNotaryMiss
namespace Go.Proofs.Ythfmgobnanifnaa
open Go.Lab
set_option maxRecDepth 10000

def atB (l : List Bool) (i : Nat) : Bool := decide (i < l.length) && getI l (i : Int)

/-- The book behind what so many seats signed. -/
def voteE (key : Nat → Arr Int 8) (m : Nat → Option (Arr Int 8)) : Nat → List S_notary_entry
  | 0 => []
  | n + 1 => match m n with
    | some d => voteE key m n ++ [⟨key n, d⟩]
    | none => voteE key m n
def voteS (key : Nat → Arr Int 8) (m : Nat → Option (Arr Int 8)) (i : Nat) : List Int := match m i with
  | some _ => sigB (voteE key m i).length
  | none => []

theorem voteE_len (key : Nat → Arr Int 8) (m : Nat → Option (Arr Int 8)) : ∀ n, (voteE key m n).length ≤ n
  | 0 => Nat.le_refl _
  | n + 1 => by
    have := voteE_len key m n
    unfold voteE
    split <;> simp <;> omega

theorem voteE_idx {key : Nat → Arr Int 8} {w : Nat} (hi : ∀ i j, i < w → j < w → key i = key j → i = j) (m : Nat → Option (Arr Int 8)) {i : Nat} (hw : i < w) (D : Arr Int 8) : ∀ n, n ≤ w → idxE (voteE key m n) ⟨key i, D⟩ = if i < n ∧ m i = some D then some (voteE key m i).length else none
  | 0, _ => by simp [voteE, idxE]
  | n + 1, hn => by
    have ih := voteE_idx hi m hw D n (by omega)
    have hv : voteE key m (n + 1) = (match m n with | some d => voteE key m n ++ [⟨key n, d⟩] | none => voteE key m n) := rfl
    rw [hv]
    cases hm : m n with
    | none =>
      simp only []
      rw [ih]
      by_cases h : i < n
      · simp [h, show i < n + 1 by omega]
      · by_cases h2 : i = n
        · subst h2; simp [hm]
        · simp [h, show ¬ i < n + 1 by omega]
    | some d =>
      simp only []
      rw [idxE_append, ih]
      by_cases h : i < n
      · by_cases h3 : m i = some D
        · simp [h, h3, show i < n + 1 by omega]
        · have : key i ≠ key n := fun q => by have := hi i n hw (by omega) q; omega
          simp [h, h3, idxE, this]
      · by_cases h2 : i = n
        · subst h2
          by_cases h4 : d = D
          · subst h4; simp [hm, idxE]
          · have : ¬ (D = d) := fun q => h4 q.symm
            simp [hm, idxE, h4, this]
        · have : key i ≠ key n := fun q => h2 (hi i n hw (by omega) q)
          simp [h, idxE, this, show ¬ i < n + 1 by omega]

theorem voteS_byts (key : Nat → Arr Int 8) (m : Nat → Option (Arr Int 8)) (i : Nat) : Byts (voteS key m i) := by
  unfold voteS
  split
  · exact sigB_byts _
  · intro y hy; simp at hy

/-- A seat's signature is one of what it signed alone. -/
theorem vote_ok {key : Nat → Arr Int 8} {w : Nat} (hk : ∀ i j, i < w → j < w → key i = key j → i = j) (m : Nat → Option (Arr Int 8)) {n i : Nat} (h : i < n) (hn : n ≤ w) (D : Arr Int 8) : okV (voteE key m n) (key i) D (voteS key m i) = decide (m i = some D) := by
  unfold okV voteS
  rw [voteE_idx hk m (by omega) D n hn]
  cases hm : m i with
  | none => simp
  | some d =>
    by_cases hd : d = D
    · simp [h, hd]
    · simp [hd]

theorem vote_sign {key : Nat → Arr Int 8} {w : Nat} (hk : ∀ i j, i < w → j < w → key i = key j → i = j) (m : Nat → Option (Arr Int 8)) {n : Nat} (hn : n < w) (d : Arr Int 8) : signL (voteE key m n) ⟨key n, d⟩ = (voteE key m n ++ [⟨key n, d⟩], (voteE key m n).length) := by
  unfold signL
  rw [voteE_idx hk m hn d n (by omega), if_neg (by omega)]

theorem getI_range {α : Type} [Inhabited α] (f : Nat → α) {n i : Nat} (h : i < n) : getI ((List.range n).map f) (i : Int) = f i := by
  unfold getI
  simp [List.getD_eq_getElem?_getD, h]

theorem missL_nil (es : List S_notary_entry) (D : Arr Int 8) (sigs : List (List Int)) (free : List Bool) : ∀ (r : List (Arr Int 8)) (b : Nat),
    missL es D sigs free r b = [] ↔ ∀ j, (hj : j < r.length) → atB free (b + j) = true ∨ (b + j < sigs.length ∧ okV es r[j] D (getI sigs ((b + j : Nat) : Int)) = true)
  | [], b => by simp [missL]
  | k :: r, b => by
    have ih := missL_nil es D sigs free r (b + 1)
    have split : (∀ j, (hj : j < (k :: r).length) → atB free (b + j) = true ∨ (b + j < sigs.length ∧ okV es (k :: r)[j] D (getI sigs ((b + j : Nat) : Int)) = true)) ↔
        (atB free b = true ∨ (b < sigs.length ∧ okV es k D (getI sigs (b : Int)) = true)) ∧ ∀ j, (hj : j < r.length) → atB free (b + 1 + j) = true ∨ (b + 1 + j < sigs.length ∧ okV es r[j] D (getI sigs ((b + 1 + j : Nat) : Int)) = true) := by
      constructor
      · intro h
        refine ⟨h 0 (Nat.zero_lt_succ _), fun j hj => ?_⟩
        have := h (j + 1) (by simp; omega)
        rw [show b + (j + 1) = b + 1 + j by omega] at this
        simpa using this
      · rintro ⟨h0, h1⟩ j hj
        cases j with
        | zero => simpa using h0
        | succ j =>
          have := h1 j (by simp at hj; omega)
          rw [show b + 1 + j = b + (j + 1) by omega] at this
          simpa using this
    rw [split, ← ih]
    have ha : (decide (b < free.length) && getI free (b : Int)) = atB free b := rfl
    simp only [missL, ha]
    cases atB free b with
    | true => simp
    | false =>
      simp only [Bool.false_eq_true, if_false, false_or]
      by_cases h2 : b < sigs.length
      · cases okV es k D (getI sigs (b : Int)) <;> simp [h2]
      · simp [h2]

/-- All that aren't free signed it. -/
theorem miss_vote {key : Nat → Arr Int 8} {w : Nat} (hk : ∀ i j, i < w → j < w → key i = key j → i = j) (m : Nat → Option (Arr Int 8)) (D : Arr Int 8) (gone : List Bool) {n : Nat} (hn : n ≤ w) :
    missL (voteE key m n) D ((List.range n).map (voteS key m)) gone ((List.range n).map key) 0 = [] ↔ ∀ i, i < n → atB gone i = true ∨ m i = some D := by
  rw [missL_nil]
  constructor
  · intro h i hi
    have := h i (by simpa using hi)
    simp only [Nat.zero_add, List.length_map, List.length_range, List.getElem_map, List.getElem_range] at this
    rw [getI_range _ hi, vote_ok hk m hi hn] at this
    rcases this with h | h
    · exact .inl h
    · exact .inr (by simpa using h.2)
  · intro h i hi
    have hi2 : i < n := by simpa using hi
    simp only [Nat.zero_add, List.length_map, List.length_range, List.getElem_map, List.getElem_range]
    rw [getI_range _ hi2, vote_ok hk m hi2 hn]
    rcases h i hi2 with h | h
    · exact .inl h
    · exact .inr ⟨hi2, by simp [h]⟩

theorem sigs_byts (key : Nat → Arr Int 8) (m : Nat → Option (Arr Int 8)) (n : Nat) : ∀ s ∈ (List.range n).map (voteS key m), Byts s := by
  intro s hs
  simp only [List.mem_map] at hs
  obtain ⟨i, _, rfl⟩ := hs
  exact voteS_byts key m i

/-! ### How many signed -/

def countL (es : List S_notary_entry) (D : Arr Int 8) (sigs : List (List Int)) : List (Arr Int 8) → Nat → Nat
  | [], _ => 0
  | k :: r, b => (if (decide (b < sigs.length) && okV es k D (getI sigs (b : Int))) = true then 1 else 0) + countL es D sigs r (b + 1)

theorem countL_le (es : List S_notary_entry) (D : Arr Int 8) (sigs : List (List Int)) : ∀ (r : List (Arr Int 8)) (b : Nat), countL es D sigs r b ≤ r.length
  | [], _ => Nat.le_refl _
  | k :: r, b => by
    have := countL_le es D sigs r (b + 1)
    simp only [countL, List.length_cons]
    split <;> omega

theorem Count_l1 {es : List S_notary_entry} (hl : es.length ≤ 65536) {keys : List (Arr Int 8)} (hk : keys.length < 1000000) (D : Arr Int 8) {sigs : List (List Int)} (hb : ∀ s ∈ sigs, Byts s) :
    ∀ (r p : List (Arr Int 8)) (k c : Nat), keys = p ++ r → r.length < k → c ≤ p.length →
      F.state_Count.l1 es (places es) keys D sigs k (c : Int) (p.length : Int) = some ((c + countL es D sigs r p.length : Nat) : Int) := by
  intro r
  induction r with
  | nil =>
    intro p k c hp hkk hc
    obtain ⟨k, rfl⟩ : ∃ j, k = j + 1 := ⟨k - 1, by omega⟩
    have : keys.length = p.length := by rw [hp]; simp
    unfold F.state_Count.l1
    rw [if_neg (by simp; omega)]
    simp [countL]
  | cons x r ih =>
    intro p k c hp hkk hc
    obtain ⟨k, rfl⟩ : ∃ j, k = j + 1 := ⟨k - 1, by simp at hkk; omega⟩
    have hlen : keys.length = p.length + r.length + 1 := by rw [hp]; simp; omega
    have hg : getI keys (p.length : Int) = x := by rw [hp]; exact getI_mid'
    have h1 := fun c hc => ih (p ++ [x]) k c (by rw [hp]; simp) (by simp at hkk; omega) hc
    simp only [List.length_append, List.length_cons, List.length_nil, Nat.zero_add] at h1
    have hw : IntKind.i64.wrap ((p.length : Int) + 1) = ((p.length + 1 : Nat) : Int) := by rw [wrap_succ (by omega) (by omega)]; push_cast; rfl
    have hq : ∀ q : Bool, F.state_Count.c2 (F.state_Count.l1 es (places es) keys D sigs k) (c : Int) (p.length : Int) q = some ((c + ((if q = true then 1 else 0) + countL es D sigs r (p.length + 1)) : Nat) : Int) := by
      intro q
      unfold F.state_Count.c2 F.state_Count.c1
      rw [hw]
      cases q with
      | true =>
        rw [if_pos rfl, if_pos rfl, wrap_succ (by omega) (by omega), show (c : Int) + 1 = ((c + 1 : Nat) : Int) by push_cast; rfl, h1 _ (by omega)]
        congr 2
        omega
      | false =>
        rw [if_neg (by decide), if_neg (by decide), h1 _ (by omega)]
        congr 2
        omega
    unfold F.state_Count.l1
    rw [if_pos (by simp; omega), if_pos (by omega)]
    simp only [countL]
    by_cases hs : p.length < sigs.length
    · rw [if_pos (c := decide ((p.length : Int) < (sigs.length : Int)) = true) (by simpa using hs), if_pos (by omega), hg, Verify_ok hl _ _ (hb _ (getI_mem (by omega) (by omega))), Option.bind_some, hq]
      simp [hs]
    · rw [if_neg (c := decide ((p.length : Int) < (sigs.length : Int)) = true) (by simpa using hs), hq]
      simp [hs]

theorem Count_eq {es : List S_notary_entry} (hl : es.length ≤ 65536) {keys : List (Arr Int 8)} (hk : keys.length < 1000000) (D : Arr Int 8) {sigs : List (List Int)} (hb : ∀ s ∈ sigs, Byts s) :
    F.state_Count es (places es) keys D sigs = some ((countL es D sigs keys 0 : Nat) : Int) := by
  unfold F.state_Count
  have := Count_l1 hl hk D hb keys [] fuel 0 (by simp) (by rw [fuel_eq]; omega) (Nat.le_refl _)
  simpa using this

/-- How many of the first ones signed it. -/
def howMany (m : Nat → Option (Arr Int 8)) (D : Arr Int 8) : Nat → Nat
  | 0 => 0
  | n + 1 => howMany m D n + if m n = some D then 1 else 0

theorem count_range {key : Nat → Arr Int 8} {w : Nat} (hk : ∀ i j, i < w → j < w → key i = key j → i = j) (m : Nat → Option (Arr Int 8)) (D : Arr Int 8) {n : Nat} (hn : n ≤ w) : ∀ (j b : Nat), b + j = n →
    howMany m D b + countL (voteE key m n) D ((List.range n).map (voteS key m)) ((List.range' b j).map key) b = howMany m D n := by
  intro j
  induction j with
  | zero =>
    intro b hb
    have : b = n := by omega
    subst this
    simp [countL]
  | succ j ih =>
    intro b hb
    have := ih (b + 1) (by omega)
    have hbn : b < n := by omega
    rw [List.range'_succ, List.map_cons]
    simp only [countL]
    rw [getI_range _ hbn, vote_ok hk m hbn hn]
    simp only [howMany] at this
    by_cases h : m b = some D
    · simp [h, hbn] at this ⊢
      omega
    · simp [h, hbn] at this ⊢
      omega

theorem count_vote {key : Nat → Arr Int 8} {w : Nat} (hk : ∀ i j, i < w → j < w → key i = key j → i = j) (m : Nat → Option (Arr Int 8)) (D : Arr Int 8) {n : Nat} (hn : n ≤ w) :
    countL (voteE key m n) D ((List.range n).map (voteS key m)) ((List.range n).map key) 0 = howMany m D n := by
  have := count_range hk m D hn n 0 (by omega)
  rw [← List.range_eq_range'] at this
  simpa [howMany] using this
end Go.Proofs.Ythfmgobnanifnaa
