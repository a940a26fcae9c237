/-
  Plain facts of a book: what its signers sign, and what it verifies.
-/
import Derived.Test.YtmdkjjdfbjgaoaaBytesL
namespace Go.Proofs.Ytmdkjjdfbjgaoaa
open Go.Lab
set_option maxRecDepth 10000

instance : DecidableEq S_notary_entry := fun a b =>
  decidable_of_iff (a.f1 = b.f1 ∧ a.f2 = b.f2) (by
    obtain ⟨a1, a2⟩ := a
    obtain ⟨b1, b2⟩ := b
    simp)

theorem arr_beq {n : Nat} (a b : Arr Int n) : (a.1 == b.1) = decide (a = b) := by
  by_cases h : a = b
  · subst h; simp
  · have : a.1 ≠ b.1 := fun q => h (Subtype.ext q)
    simp [h, this]

theorem eqk_iff (x y : S_notary_entry) : eqk_S_notary_entry x y = decide (x = y) := by
  obtain ⟨a1, a2⟩ := x
  obtain ⟨b1, b2⟩ := y
  unfold eqk_S_notary_entry
  simp only [arr_beq]
  by_cases h1 : a1 = b1 <;> by_cases h2 : a2 = b2 <;> simp [h1, h2]

/-- An entry's number. -/
def idxE : List S_notary_entry → S_notary_entry → Option Nat
  | [], _ => none
  | x :: r, k => if k = x then some 0 else (idxE r k).map (· + 1)

/-- The places of entries, from a number on. -/
def placesF : Nat → List S_notary_entry → List (S_notary_entry × Int)
  | _, [] => []
  | s, x :: r => (x, (s : Int)) :: placesF (s + 1) r
def places (l : List S_notary_entry) : List (S_notary_entry × Int) := placesF 0 l

theorem mapAt_places : ∀ (l : List S_notary_entry) (s : Nat) (k : S_notary_entry), mapAt eqk_S_notary_entry (placesF s l) k = (idxE l k).map fun i => (i, ((s + i : Nat) : Int))
  | [], _, _ => rfl
  | x :: r, s, k => by
    unfold placesF mapAt idxE
    rw [eqk_iff]
    by_cases h : k = x
    · simp [h]
    · simp only [h, decide_false, Bool.false_eq_true, if_false]
      rw [mapAt_places r (s + 1) k, Option.map_map, Option.map_map]
      congr 1
      funext i
      simp only [Function.comp_apply, Prod.mk.injEq, true_and]
      omega

theorem places_append : ∀ (l : List S_notary_entry) (s : Nat) (k : S_notary_entry), placesF s (l ++ [k]) = placesF s l ++ [(k, ((s + l.length : Nat) : Int))]
  | [], _, _ => rfl
  | x :: r, s, k => by
    simp only [List.cons_append, placesF, places_append r (s + 1) k, List.length_cons]
    rw [show s + 1 + r.length = s + (r.length + 1) by omega]

theorem mapGet_places (l : List S_notary_entry) (k : S_notary_entry) : mapGet eqk_S_notary_entry 0 (places l) k = match idxE l k with | some i => ((i : Int), true) | none => (0, false) := by
  unfold mapGet places
  rw [mapAt_places]
  cases idxE l k with
  | none => rfl
  | some i => simp

theorem mapSet_places {l : List S_notary_entry} {k : S_notary_entry} (h : idxE l k = none) : mapSet eqk_S_notary_entry (places l) k (l.length : Int) = places (l ++ [k]) := by
  unfold mapSet places
  rw [mapAt_places, h, places_append]
  simp

theorem idxE_lt : ∀ {l : List S_notary_entry} {k : S_notary_entry} {i : Nat}, idxE l k = some i → i < l.length
  | x :: r, k, i, h => by
    unfold idxE at h
    split at h
    · cases h; simp
    · cases hr : idxE r k with
      | none => rw [hr] at h; cases h
      | some j =>
        rw [hr] at h
        simp only [Option.map_some, Option.some.injEq] at h
        have := idxE_lt hr
        simp only [List.length_cons]; omega

theorem idxE_get : ∀ {l : List S_notary_entry} {k : S_notary_entry} {i : Nat}, idxE l k = some i → l[i]? = some k
  | x :: r, k, i, h => by
    unfold idxE at h
    split at h
    · rename_i hk
      cases h; simp [hk]
    · cases hr : idxE r k with
      | none => rw [hr] at h; cases h
      | some j =>
        rw [hr] at h
        simp only [Option.map_some, Option.some.injEq] at h
        subst h
        simpa using idxE_get hr

theorem idxE_inj {l : List S_notary_entry} {k j : S_notary_entry} {i : Nat} (h1 : idxE l k = some i) (h2 : idxE l j = some i) : k = j := by
  have a := idxE_get h1
  have b := idxE_get h2
  rw [a] at b
  injection b

theorem idxE_none : ∀ {l : List S_notary_entry} {k : S_notary_entry}, idxE l k = none ↔ k ∉ l
  | [], k => by simp [idxE]
  | x :: r, k => by
    unfold idxE
    by_cases h : k = x
    · simp [h]
    · simp [h, idxE_none (l := r)]

theorem idxE_append : ∀ (l m : List S_notary_entry) (k : S_notary_entry), idxE (l ++ m) k = match idxE l k with | some i => some i | none => (idxE m k).map (· + l.length)
  | [], m, k => by cases h : idxE m k <;> simp [idxE, h]
  | x :: r, m, k => by
    simp only [List.cons_append, idxE]
    by_cases h : k = x
    · simp [h]
    · simp only [h, if_false]
      rw [idxE_append r m k]
      cases idxE r k with
      | some i => rfl
      | none =>
        simp only [Option.map_none]
        cases idxE m k with
        | none => rfl
        | some j => simp; omega

/-! ### Signing -/

/-- A signature. -/
def sigB (n : Nat) : List Int := [(n : Int) % 256, (n : Int) / 256 % 256]
theorem sigB_byts (n : Nat) : Byts (sigB n) := by
  intro y hy
  simp only [sigB, List.mem_cons, List.not_mem_nil, or_false] at hy
  rcases hy with rfl | rfl <;> omega
theorem sigB_inj {a b : Nat} (ha : a < 65536) (hb : b < 65536) (h : sigB a = sigB b) : a = b := by
  simp only [sigB, List.cons.injEq, and_true] at h
  omega

/-- What stands behind a signature, and its number. -/
def signL (l : List S_notary_entry) (k : S_notary_entry) : List S_notary_entry × Nat :=
  match idxE l k with
  | some i => (l, i)
  | none => (l ++ [k], l.length)

theorem signL_idx (l : List S_notary_entry) (k : S_notary_entry) : idxE (signL l k).1 k = some (signL l k).2 := by
  unfold signL
  cases h : idxE l k with
  | some i => exact h
  | none => simp [idxE_append, h, idxE]

theorem signL_keeps {l : List S_notary_entry} (k : S_notary_entry) {j : S_notary_entry} {i : Nat} (h : idxE l j = some i) : idxE (signL l k).1 j = some i := by
  unfold signL
  cases hk : idxE l k with
  | some _ => exact h
  | none => simp [idxE_append, h]

theorem signL_len (l : List S_notary_entry) (k : S_notary_entry) : (signL l k).1.length ≤ l.length + 1 ∧ l.length ≤ (signL l k).1.length ∧ (signL l k).2 < (signL l k).1.length := by
  refine ⟨?_, ?_, idxE_lt (signL_idx l k)⟩ <;> unfold signL <;> split <;> simp

theorem Sign_eq {l : List S_notary_entry} (hl : l.length < 65536) (k m : Arr Int 8) :
    F.notary_bookSigner_Sign l (places l) k m = some (sigB (signL l ⟨k, m⟩).2, 0, places (signL l ⟨k, m⟩).1, (signL l ⟨k, m⟩).1) := by
  have hs : ∀ n : Nat, n < 65536 → [IntKind.u8.wrap (n : Int), IntKind.u8.wrap (shV false .i64 (n : Int) 8)] = sigB n := by
    intro n hn
    have h8 : shV false .i64 (n : Int) 8 = (n : Int) / 256 := by
      unfold shV
      rw [if_neg (by simp), show ((8 : Int)).toNat = 8 from rfl, show IntKind.i64.bits = 64 from rfl, Nat.min_eq_left (by omega), Int.fdiv_eq_ediv_of_nonneg _ (by decide), show (2 : Int) ^ 8 = 256 from rfl]
    rw [h8, wrap_byte, wrap_byte]; rfl
  unfold F.notary_bookSigner_Sign F.notary_bookSigner_Sign.c1
  rw [mapGet_places]
  unfold signL
  cases h : idxE l ⟨k, m⟩ with
  | some i =>
    have := idxE_lt h
    simp only []
    rw [if_neg (by simp), hs i (by omega)]
  | none =>
    simp only []
    rw [if_pos (by simp), if_neg (by simp; omega), if_pos (by simp; omega), mapSet_places h, hs l.length hl]

theorem bitOr_i64 {a b : Nat} (ha : a < 2 ^ 62) (hb : b < 2 ^ 62) : bitOr .i64 (a : Int) (b : Int) = ((a ||| b : Nat) : Int) := by
  have hab : a ||| b < 2 ^ 62 := Nat.or_lt_two_pow ha hb
  have h1 : ∀ n : Nat, n < 2 ^ 62 → (BitVec.ofInt IntKind.i64.bits (n : Int)).toNat = n := by
    intro n hn
    rw [BitVec.toNat_ofInt]
    show ((n : Int) % ((2 ^ 64 : Nat) : Int)).toNat = n
    omega
  unfold bitOr
  rw [BitVec.toNat_or, h1 a ha, h1 b hb, wrap_i64]
  omega

theorem Verify_eq {l : List S_notary_entry} (hl : l.length ≤ 65536) (k m : Arr Int 8) {sig : List Int} (hb : Byts sig) :
    F.notary_Book_Verify l (places l) k m sig = some (match idxE l ⟨k, m⟩ with | some i => decide (sig = sigB i) | none => false) := by
  unfold F.notary_Book_Verify F.notary_Book_Verify.c1
  rw [mapGet_places]
  by_cases h2 : sig.length = 2
  case neg =>
    rw [if_pos (by simp; omega)]
    cases h : idxE l ⟨k, m⟩ with
    | none => rfl
    | some i =>
      have : sig ≠ sigB i := fun q => h2 (by rw [q]; rfl)
      simp [this]
  match sig, h2 with
  | [a, b], _ =>
    rw [if_neg (by simp)]
    cases h : idxE l ⟨k, m⟩ with
    | none => simp
    | some i =>
      have hi := idxE_lt h
      have ha := hb a (by simp)
      have hbb := hb b (by simp)
      simp only []
      rw [if_pos True.intro, if_pos (by simp), if_pos (by simp)]
      have g0 : getI [a, b] 0 = a := rfl
      have g1 : getI [a, b] 1 = b := rfl
      have hor : bitOr .i64 (IntKind.i64.wrap a) (shV true .i64 (IntKind.i64.wrap b) 8) = a + b * 256 := by
        obtain ⟨x, rfl⟩ := Int.eq_ofNat_of_zero_le ha.1
        obtain ⟨y, rfl⟩ := Int.eq_ofNat_of_zero_le hbb.1
        have hx : x < 256 := by omega
        have hy : y < 256 := by omega
        rw [wrap_id (by omega) (by omega), wrap_id (by omega) (by omega)]
        have hsh : shV true .i64 (y : Int) 8 = ((y <<< 8 : Nat) : Int) := by
          unfold shV
          rw [if_pos rfl, show ((8 : Int)).toNat = 8 from rfl, show IntKind.i64.bits = 64 from rfl, Nat.min_eq_left (by omega), Nat.shiftLeft_eq, wrap_i64]
          have : ((y : Int) * 2 ^ 8) = ((y * 2 ^ 8 : Nat) : Int) := by push_cast; rfl
          rw [this]; omega
        have hor : x ||| y <<< 8 = x + y * 256 := by
          rw [Nat.or_comm, ← Nat.shiftLeft_add_eq_or_of_lt (show x < 2 ^ 8 by omega), Nat.shiftLeft_eq]; omega
        show bitOr .i64 (x : Int) _ = _
        rw [hsh]
        rw [bitOr_i64 (by omega) (by rw [Nat.shiftLeft_eq]; omega), hor]
        push_cast
        omega
      rw [g0, g1, hor]
      congr 1
      have hd : ((i : Int) == a + b * 256) = decide ((i : Int) = a + b * 256) := by
        by_cases q : (i : Int) = a + b * 256 <;> simp [q]
      rw [hd]
      refine decide_eq_decide.2 ⟨fun q => ?_, fun q => ?_⟩
      · simp only [sigB, List.cons.injEq, and_true]; omega
      · simp only [sigB, List.cons.injEq, and_true] at q; omega
end Go.Proofs.Ytmdkjjdfbjgaoaa
