/-
  Plain facts of whose signatures lack, by a book.
-/
import Derived.Test.YthfmgobnanifnaaNotaryPure
namespace Go.Proofs.Ythfmgobnanifnaa
open Go.Lab
set_option maxRecDepth 10000

/-- Is it a signature, by a book? -/
def okV (es : List S_notary_entry) (k m : Arr Int 8) (sig : List Int) : Bool :=
  match idxE es ⟨k, m⟩ with
  | some i => decide (sig = sigB i)
  | none => false

theorem Verify_ok {es : List S_notary_entry} (hl : es.length ≤ 65536) (k m : Arr Int 8) {sig : List Int} (hb : Byts sig) : F.notary_Book_Verify es (places es) k m sig = some (okV es k m sig) := Verify_eq hl k m hb

/-- Whose signatures lack, from a number on. -/
def missL (es : List S_notary_entry) (m : Arr Int 8) (sigs : List (List Int)) (free : List Bool) : List (Arr Int 8) → Nat → List Int
  | [], _ => []
  | k :: r, b => if (decide (b < free.length) && getI free (b : Int)) = true then missL es m sigs free r (b + 1)
    else if (decide (b < sigs.length) && okV es k m (getI sigs (b : Int))) = true then missL es m sigs free r (b + 1)
    else (b : Int) :: missL es m sigs free r (b + 1)

theorem getI_mid' {α : Type} [Inhabited α] {p r : List α} {x : α} : getI (p ++ x :: r) (p.length : Int) = x := by
  unfold getI
  simp

theorem signed_eq {es : List S_notary_entry} (hl : es.length ≤ 65536) {sigs : List (List Int)} (hb : ∀ s ∈ sigs, Byts s) (k m : Arr Int 8) (b : Nat) :
    F.notary_signed es (places es) k m sigs (b : Int) = some (decide (b < sigs.length) && okV es k m (getI sigs (b : Int))) := by
  unfold F.notary_signed F.notary_signed.c1
  by_cases h : b < sigs.length
  · rw [if_pos (by simpa using h), if_pos (by omega), Verify_ok hl _ _ (hb _ (getI_mem (by omega) (by omega))), Option.bind_some]
    simp [h]
  · rw [if_neg (by simpa using h)]
    simp [h]

theorem Missing_l1 {es : List S_notary_entry} (hl : es.length ≤ 65536) {keys : List (Arr Int 8)} (hk : keys.length < 1000000) (m : Arr Int 8) {sigs : List (List Int)} (hb : ∀ s ∈ sigs, Byts s) (free : List Bool) :
    ∀ (r p : List (Arr Int 8)) (k : Nat) (acc : List Int), keys = p ++ r → r.length < k → acc.length ≤ p.length →
      F.notary_Missing.l1 es (places es) keys m sigs free k acc (p.length : Int) = some (acc ++ missL es m sigs free r p.length) := by
  intro r
  induction r with
  | nil =>
    intro p k acc hp hkk ha
    obtain ⟨k, rfl⟩ : ∃ j, k = j + 1 := ⟨k - 1, by omega⟩
    have : keys.length = p.length := by rw [hp]; simp
    unfold F.notary_Missing.l1
    rw [if_neg (by simp; omega)]
    simp [missL]
  | cons x r ih =>
    intro p k acc hp hkk ha
    obtain ⟨k, rfl⟩ : ∃ j, k = j + 1 := ⟨k - 1, by simp at hkk; omega⟩
    have hlen : keys.length = p.length + r.length + 1 := by rw [hp]; simp; omega
    have hg : getI keys (p.length : Int) = x := by rw [hp]; exact getI_mid'
    have h1 := fun acc ha => ih (p ++ [x]) k acc (by rw [hp]; simp) (by simp at hkk; omega) ha
    simp only [List.length_append, List.length_cons, List.length_nil, Nat.zero_add] at h1
    have hw : IntKind.i64.wrap ((p.length : Int) + 1) = ((p.length + 1 : Nat) : Int) := by rw [wrap_succ (by omega) (by omega)]; push_cast; rfl
    have hc : ∀ q : Bool, F.notary_Missing.c2 (F.notary_Missing.l1 es (places es) keys m sigs free k) es (places es) keys m sigs acc (p.length : Int) q =
        some (acc ++ if q = true then missL es m sigs free r (p.length + 1) else if (decide (p.length < sigs.length) && okV es x m (getI sigs (p.length : Int))) = true then missL es m sigs free r (p.length + 1)
          else (p.length : Int) :: missL es m sigs free r (p.length + 1)) := by
      intro q
      unfold F.notary_Missing.c2 F.notary_Missing.c3 F.notary_Missing.c1
      rw [hw, hg, signed_eq hl hb, Option.bind_some]
      cases q with
      | true => simp only [Bool.not_true, Bool.false_eq_true, if_false, if_true]; rw [h1 _ (by omega)]
      | false =>
        simp only [Bool.not_false, if_true, Bool.false_eq_true, if_false]
        cases (decide (p.length < sigs.length) && okV es x m (getI sigs (p.length : Int))) with
        | true => simp only [Bool.not_true, Bool.false_eq_true, if_false, if_true]; rw [h1 _ (by omega)]
        | false =>
          simp only [Bool.not_false, if_true, Bool.false_eq_true, if_false]
          rw [if_pos (by simp; omega), h1 _ (by simp; omega)]
          simp
    unfold F.notary_Missing.l1
    rw [if_pos (by simp; omega), if_pos (by omega)]
    simp only [missL]
    by_cases hf : p.length < free.length
    · rw [if_pos (by simpa using hf), if_pos (by omega), hc]
      simp [hf]
    · rw [if_neg (by simpa using hf), hc]
      simp [hf]

theorem Missing_eq {es : List S_notary_entry} (hl : es.length ≤ 65536) {keys : List (Arr Int 8)} (hk : keys.length < 1000000) (m : Arr Int 8) {sigs : List (List Int)} (hb : ∀ s ∈ sigs, Byts s) (free : List Bool) :
    F.notary_Missing es (places es) keys m sigs free = some (missL es m sigs free keys 0) := by
  unfold F.notary_Missing
  have := Missing_l1 hl hk m hb free keys [] fuel [] (by simp) (by rw [fuel_eq]; omega) (Nat.le_refl _)
  simpa using this

theorem All_eq {es : List S_notary_entry} (hl : es.length ≤ 65536) {keys : List (Arr Int 8)} (hk : keys.length < 1000000) (m : Arr Int 8) {sigs : List (List Int)} (hb : ∀ s ∈ sigs, Byts s) (free : List Bool) :
    F.notary_All es (places es) keys m sigs free = some (if keys.length = 0 ∨ sigs.length ≠ keys.length then 1 else if missL es m sigs free keys 0 = [] then 0 else 16) := by
  have hc : ∀ q : Bool, F.notary_All.c1 es (places es) keys m sigs free q = some (if q = true then 1 else if missL es m sigs free keys 0 = [] then 0 else 16) := by
    intro q
    unfold F.notary_All.c1
    cases q with
    | true => rfl
    | false =>
      simp only [Bool.false_eq_true, if_false]
      rw [Missing_eq hl hk m hb free, Option.bind_some]
      cases missL es m sigs free keys 0 with
      | nil => rfl
      | cons a r =>
        have : decide ((((a :: r).length : Nat) : Int) > 0) = true := by simp only [decide_eq_true_eq, List.length_cons]; omega
        simp only [this, if_true]
        simp
  unfold F.notary_All
  by_cases h0 : keys.length = 0
  · rw [if_pos (by simp [h0]), hc]
    simp [h0]
  · rw [if_neg (by simp; intro q; exact h0 (by rw [q]; rfl)), hc]
    by_cases h1 : sigs.length = keys.length
    · simp [h1, h0]
    · have : ((sigs.length : Int) != (keys.length : Int)) = true := by simp; omega
      rw [if_pos this, if_pos (.inr h1)]
end Go.Proofs.Ythfmgobnanifnaa
