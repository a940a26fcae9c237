/-
  Proved: whether all agreed, whoever signed what: of any pot and payouts, of seats of which each signs these, or other ones, or nothing, and is gone or not (of 10 seats).
-/
import Derived.Test.YtahpmlekenbafaaCloseLoop
namespace Go.Proofs.Ytahpmlekenbafaa
open Go.Lab
set_option maxRecDepth 10000

/-- Who is gone of the first ones; of the others nobody. -/
def goneL (gn : List Bool) (n i : Nat) : List Bool := (List.range i).map (atB gn) ++ List.replicate (n - i) false

theorem gone_get (gn : List Bool) {n i : Nat} (h : i < n) (q : Bool) : getI (setI (goneL gn n i) (i : Int) q) (i : Int) = q := by
  have hl : i < (goneL gn n i).length := by simp [goneL]; omega
  unfold getI setI
  simp [List.getD_eq_getElem?_getD, hl]

theorem gone_step (gn : List Bool) {n i : Nat} (h : i < n) : setI (goneL gn n i) (i : Int) (atB gn i) = goneL gn n (i + 1) := by
  unfold setI goneL
  rw [List.range_succ, List.map_append]
  obtain ⟨r, hr⟩ : ∃ r, n - i = r + 1 := ⟨n - i - 1, by omega⟩
  rw [hr, show n - (i + 1) = r by omega, List.replicate_succ]
  rw [List.set_append_right _ _ (by simp)]
  simp

def allG (gn : List Bool) (i : Nat) : Bool := decide (∀ j, j < i → atB gn j = true)
def allS (D E : Arr Int 8) (sg ot gn : List Bool) (i : Nat) : Bool := decide (∀ j, j < i → atB gn j = true ∨ atB sg j = true ∨ atB ot j = true ∧ D = E)

theorem allG_succ (gn : List Bool) (i : Nat) : allG gn (i + 1) = (allG gn i && atB gn i) := by
  unfold allG
  rw [Bool.eq_iff_iff]
  simp only [decide_eq_true_eq, Bool.and_eq_true]
  constructor
  · exact fun h => ⟨fun j hj => h j (by omega), h i (by omega)⟩
  · rintro ⟨h1, h2⟩ j hj
    rcases Nat.lt_succ_iff_lt_or_eq.1 hj with h | rfl
    · exact h1 j h
    · exact h2

theorem allS_succ (D E : Arr Int 8) (sg ot gn : List Bool) (i : Nat) : allS D E sg ot gn (i + 1) = (allS D E sg ot gn i && (atB gn i || (atB sg i || (atB ot i && decide (D = E))))) := by
  unfold allS
  rw [Bool.eq_iff_iff]
  simp only [decide_eq_true_eq, Bool.and_eq_true, Bool.or_eq_true]
  constructor
  · exact fun h => ⟨fun j hj => h j (by omega), h i (by omega)⟩
  · rintro ⟨h1, h2⟩ j hj
    rcases Nat.lt_succ_iff_lt_or_eq.1 hj with h | rfl
    · exact h1 j h
    · exact h2

section
variable {p o : List Int} {sg ot gn : List Bool}

theorem agrees_end {pot : Int} (hp : p.length ≤ 10) (wp : ∀ x ∈ p, I64 x) {m2 : Arr Int 8} {m : Nat → Option (Arr Int 8)}
    (hm : m = voteM (payD (⟨[7, 0, 0, 0, 0, 0, 0, 0], rfl⟩ : Arr Int 8) p) m2 sg ot) {w : Int}
    (hw : w = if addsP pot (p.length : Int) p ≠ 0 then addsP pot (p.length : Int) p else if allG gn p.length = true then 28 else if allS (payD (⟨[7, 0, 0, 0, 0, 0, 0, 0], rfl⟩ : Arr Int 8) p) m2 sg ot gn p.length = true then 0 else 16) :
    F.baizelaw35_CloseAgrees.c4 pot (voteE m p.length) (places (voteE m p.length)) ((List.range p.length).map keyN) ((List.range p.length).map (voteS m)) p (goneL gn p.length p.length) w = some true := by
  have hlen := voteE_len m p.length
  have hk : ((List.range p.length).map keyN).length = p.length := by simp
  have hgl : (goneL gn p.length p.length).length = p.length := by simp [goneL]
  have hG : goneL gn p.length p.length = (List.range p.length).map (atB gn) := by simp [goneL]
  have ha : ∀ i, i < p.length → atB (goneL gn p.length p.length) i = atB gn i := by
    intro i hi
    rw [hG]
    have : atB ((List.range p.length).map (atB gn)) i = (decide (i < ((List.range p.length).map (atB gn)).length) && getI ((List.range p.length).map (atB gn)) (i : Int)) := rfl
    rw [this, getI_range _ hi]
    simp [hi]
  have hany : ((goneL gn p.length p.length).any fun y => false == y) = !allG gn p.length := by
    rw [hG, Bool.eq_iff_iff]
    simp only [List.any_map, List.any_eq_true, List.mem_range, Function.comp_apply, beq_iff_eq, Bool.not_eq_true', allG, decide_eq_false_iff_not]
    constructor
    · rintro ⟨i, hi, hq⟩ h
      rw [h i hi] at hq
      cases hq
    · intro h
      apply Classical.byContradiction
      intro hn
      apply h
      intro i hi
      cases hq : atB gn i with
      | true => rfl
      | false => exact absurd ⟨i, hi, hq.symm⟩ hn
  have hmiss : missL (voteE m p.length) (payD (⟨[7, 0, 0, 0, 0, 0, 0, 0], rfl⟩ : Arr Int 8) p) ((List.range p.length).map (voteS m)) (goneL gn p.length p.length) ((List.range p.length).map keyN) 0 = [] ↔
      allS (payD (⟨[7, 0, 0, 0, 0, 0, 0, 0], rfl⟩ : Arr Int 8) p) m2 sg ot gn p.length = true := by
    rw [miss_vote]
    unfold allS
    rw [decide_eq_true_eq]
    constructor
    · intro h i hi
      rcases h i hi with h | h
      · rw [ha i hi] at h; exact .inl h
      · right
        rw [hm] at h
        unfold voteM at h
        by_cases c1 : atB sg i = true
        · exact .inl c1
        · rw [if_neg c1] at h
          by_cases c2 : atB ot i = true
          · rw [if_pos c2] at h
            injection h with h
            exact .inr ⟨c2, h.symm⟩
          · rw [if_neg c2] at h; cases h
    · intro h i hi
      rw [ha i hi, hm]
      unfold voteM
      rcases h i hi with h | h | ⟨h, e⟩
      · exact .inl h
      · exact .inr (by rw [if_pos h])
      · right
        rw [if_pos h, ← e]
        split <;> rfl
  unfold F.baizelaw35_CloseAgrees.c4 F.baizelaw35_CloseAgrees.c5
  rw [Agree_eq (by omega) seven_byts (by omega) wp pot (by omega) (sigs_byts m _) (by simp) (by omega), Option.bind_some, hk, hgl]
  have hw2 : (if addsP pot (p.length : Int) p ≠ 0 then addsP pot (p.length : Int) p else if p.length ≠ p.length then (3 : Int) else
      if ((goneL gn p.length p.length).any fun y => false == y) = false then 28 else if missL (voteE m p.length) (payD (⟨[7, 0, 0, 0, 0, 0, 0, 0], rfl⟩ : Arr Int 8) p) ((List.range p.length).map (voteS m)) (goneL gn p.length p.length) ((List.range p.length).map keyN) 0 = [] then 0 else 16) = w := by
    rw [hw, hany]
    by_cases h0 : addsP pot (p.length : Int) p ≠ 0
    · rw [if_pos h0, if_pos h0]
    · rw [if_neg h0, if_neg h0, if_neg (by simp)]
      cases allG gn p.length with
      | true => simp
      | false =>
        simp only [Bool.not_false, Bool.true_eq_false, if_false, Bool.false_eq_true]
        by_cases h1 : allS (payD (⟨[7, 0, 0, 0, 0, 0, 0, 0], rfl⟩ : Arr Int 8) p) m2 sg ot gn p.length = true
        · rw [if_pos (hmiss.2 h1), if_pos h1]
        · rw [if_neg (fun q => h1 (hmiss.1 q)), if_neg h1]
  rw [hw2, if_pos (by simp), if_pos (by simp; omega), Agree_eq (by omega) seven_byts (by omega) wp pot (by omega) (sigs_byts m _) (by simp) (by rw [List.length_append, hgl]; simp; omega), Option.bind_some, hk]
  have h3 : (goneL gn p.length p.length ++ [false]).length ≠ p.length := by rw [List.length_append, hgl]; simp
  rw [if_pos (c := ((if addsP pot (p.length : Int) p ≠ 0 then addsP pot (p.length : Int) p else if (goneL gn p.length p.length ++ [false]).length ≠ p.length then (3 : Int) else _) != 0) = true) (by
    by_cases h0 : addsP pot (p.length : Int) p ≠ 0
    · rw [if_pos h0]; simpa using h0
    · rw [if_neg h0, if_pos h3]; rfl), told_ok]
  rfl

theorem agrees_l1 {pot : Int} (hp : p.length ≤ 10) (ho : o.length ≤ 10) (wp : ∀ x ∈ p, I64 x) (wo : ∀ x ∈ o, I64 x) {m : Nat → Option (Arr Int 8)}
    (hm : m = voteM (payD (⟨[7, 0, 0, 0, 0, 0, 0, 0], rfl⟩ : Arr Int 8) p) (payD (⟨[7, 0, 0, 0, 0, 0, 0, 0], rfl⟩ : Arr Int 8) o) sg ot) : ∀ (j k i : Nat), i + j = p.length → j < k →
    F.baizelaw35_CloseAgrees.l1 pot p sg ot gn (voteE m p.length) (places (voteE m p.length)) ((List.range p.length).map keyN) ((List.range p.length).map (voteS m)) p o k (goneL gn p.length i) (allG gn i)
      (allS (payD (⟨[7, 0, 0, 0, 0, 0, 0, 0], rfl⟩ : Arr Int 8) p) (payD (⟨[7, 0, 0, 0, 0, 0, 0, 0], rfl⟩ : Arr Int 8) o) sg ot gn i) (i : Int) = some true := by
  have hP := Payout_Digest_eq seven_byts (l := p) (by omega) wp
  have hO := Payout_Digest_eq seven_byts (l := o) (by omega) wo
  have hend := fun w => agrees_end (p := p) (sg := sg) (ot := ot) (gn := gn) (pot := pot) hp wp hm (w := w)
  generalize payD (⟨[7, 0, 0, 0, 0, 0, 0, 0], rfl⟩ : Arr Int 8) p = D at *
  generalize payD (⟨[7, 0, 0, 0, 0, 0, 0, 0], rfl⟩ : Arr Int 8) o = E at *
  intro j
  induction j with
  | zero =>
    intro k i hi hk
    obtain ⟨k, rfl⟩ : ∃ j, k = j + 1 := ⟨k - 1, by omega⟩
    have hi : i = p.length := by omega
    subst hi
    have hmx : (maxLen : Int) = 9223372036854775807 := rfl
    unfold F.baizelaw35_CloseAgrees.l1
    rw [if_neg (by simp), ref_Adds_eq _ _ _ (by omega), Option.bind_some]
    by_cases h0 : addsP pot (p.length : Int) p = 0
    · rw [if_pos (by simpa using h0)]
      cases hg : allG gn p.length with
      | true =>
        rw [if_pos rfl]
        exact hend _ (by rw [if_neg (by simpa using h0), if_pos hg])
      | false =>
        rw [if_neg (by simp)]
        cases hs : allS D E sg ot gn p.length with
        | true =>
          rw [if_neg (by simp)]
          exact hend _ (by rw [if_neg (by simpa using h0), if_neg (by simp [hg]), if_pos hs, h0])
        | false =>
          rw [if_pos (by simp)]
          exact hend _ (by rw [if_neg (by simpa using h0), if_neg (by simp [hg]), if_neg (by simp [hs])])
    · rw [if_neg (by simpa using h0)]
      exact hend _ (by rw [if_pos h0])
  | succ j ih =>
    intro k i hi hk
    obtain ⟨k, rfl⟩ : ∃ j, k = j + 1 := ⟨k - 1, by omega⟩
    have hip : i < p.length := by omega
    have hgl : (goneL gn p.length i).length = p.length := by simp [goneL]; omega
    have hsl : (setI (goneL gn p.length i) (i : Int) (atB gn i)).length = p.length := by rw [setI_length, hgl]
    have hstep : ∀ q r : Bool, q = allG gn (i + 1) → r = allS D E sg ot gn (i + 1) →
        F.baizelaw35_CloseAgrees.c2 (F.baizelaw35_CloseAgrees.l1 pot p sg ot gn (voteE m p.length) (places (voteE m p.length)) ((List.range p.length).map keyN) ((List.range p.length).map (voteS m)) p o k) (i : Int) (setI (goneL gn p.length i) (i : Int) (atB gn i)) q r = some true := by
      intro q r hq hr
      subst hq hr
      unfold F.baizelaw35_CloseAgrees.c2
      rw [gone_step gn hip, wrap_succ (by omega) (by omega)]
      have := ih k (i + 1) (by omega) (by omega)
      rw [show (i : Int) + 1 = ((i + 1 : Nat) : Int) by push_cast; rfl]
      exact this
    have hc3 : ∀ q : Bool, q = allG gn (i + 1) → F.baizelaw35_CloseAgrees.c3 (F.baizelaw35_CloseAgrees.l1 pot p sg ot gn (voteE m p.length) (places (voteE m p.length)) ((List.range p.length).map keyN) ((List.range p.length).map (voteS m)) p o k) sg ot p o (goneL gn p.length i)
        (allS D E sg ot gn i) (i : Int) (atB gn i) q = some true := by
      intro q hq
      have hS := allS_succ D E sg ot gn i
      unfold F.baizelaw35_CloseAgrees.c3
      cases hs : allS D E sg ot gn i with
      | false =>
        rw [if_neg (by simp)]
        exact hstep _ _ hq (by rw [hS, hs]; rfl)
      | true =>
        rw [if_pos rfl, if_pos (by rw [hsl]; omega), gone_get gn hip]
        rw [hs, Bool.true_and] at hS
        cases hg : atB gn i with
        | true =>
          rw [if_pos rfl]
          rw [hg] at hstep hS
          exact hstep _ _ hq (by rw [hS]; rfl)
        | false =>
          rw [if_neg (by simp), at_eq, Option.bind_some]
          rw [hg, Bool.false_or] at hS
          rw [hg] at hstep
          cases h1 : atB sg i with
          | true =>
            rw [if_pos rfl]
            exact hstep _ _ hq (by rw [hS, h1]; rfl)
          | false =>
            rw [if_neg (by simp), at_eq, Option.bind_some]
            rw [h1, Bool.false_or] at hS
            cases h2 : atB ot i with
            | true =>
              rw [if_pos rfl, hP, Option.bind_some, hO, Option.bind_some, arr_beq]
              exact hstep _ _ hq (by rw [hS, h2, Bool.true_and])
            | false =>
              rw [if_neg (by simp)]
              exact hstep _ _ hq (by rw [hS, h2]; rfl)
    unfold F.baizelaw35_CloseAgrees.l1
    rw [if_pos (by simp; omega), at_eq, Option.bind_some, if_pos (by rw [hgl]; omega)]
    have hG := allG_succ gn i
    cases ha : allG gn i with
    | true =>
      rw [if_pos rfl, if_pos (by rw [hsl]; omega), gone_get gn hip]
      exact hc3 _ (by rw [hG, ha]; rfl)
    | false =>
      rw [if_neg (by simp)]
      exact hc3 _ (by rw [hG, ha]; rfl)
end

theorem law_CloseAgrees (a0 : Int) (y1 : S_baizelaw35_Both) (y2 : S_baizelaw35_Votes) (w0 : (Lit.int .i64 a0).wf = true) (w1 : wf_S_baizelaw35_Both y1) (w2 : wf_S_baizelaw35_Votes y2) : F.baizelaw35_CloseAgrees a0 y1.f1 y1.f2 y2.f1 y2.f2 y2.f3 = some true := by
  obtain ⟨p, o⟩ := y1
  obtain ⟨sg, ot, gn⟩ := y2
  simp only [wf_S_baizelaw35_Both] at w1
  simp only []
  have wp := i64_wf w1.1.2
  have wo := i64_wf w1.2.2
  have hc : ∀ q : Bool, (q = false → p.length ≤ 10 ∧ o.length ≤ 10) → F.baizelaw35_CloseAgrees.c1 a0 p o sg ot gn q = some true := by
    intro q hq
    unfold F.baizelaw35_CloseAgrees.c1
    cases q with
    | true => rw [if_pos rfl, told_ok]; rfl
    | false =>
      obtain ⟨b1, b2⟩ := hq rfl
      rw [if_neg (by simp), if_pos (by simp; omega), if_pos (by simp; omega), List.nil_append, List.nil_append, vote_eq seven_byts seven_byts (by omega) (by omega) wp wo sg ot gn (by omega), Option.bind_some]
      simp only []
      rw [if_pos (by omega)]
      have := agrees_l1 (pot := a0) (gn := gn) b1 b2 wp wo (m := voteM (payD (⟨[7, 0, 0, 0, 0, 0, 0, 0], rfl⟩ : Arr Int 8) p) (payD (⟨[7, 0, 0, 0, 0, 0, 0, 0], rfl⟩ : Arr Int 8) o) sg ot) rfl p.length fuel 0 (by omega) (by rw [fuel_eq]; omega)
      simpa [goneL, allG, allS] using this
  unfold F.baizelaw35_CloseAgrees
  by_cases h1 : (p.length : Int) > 10
  · rw [if_pos (by simpa using h1)]
    exact hc true (by simp)
  rw [if_neg (by simpa using h1)]
  refine hc _ (fun q => ?_)
  simp only [gt_iff_lt, decide_eq_false_iff_not, Int.not_lt] at q
  omega
end Go.Proofs.Ytahpmlekenbafaa
