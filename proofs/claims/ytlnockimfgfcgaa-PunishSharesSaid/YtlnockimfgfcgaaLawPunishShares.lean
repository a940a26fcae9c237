/-
  The plain law of PunishShares: what each seat has of a bond that any seat loses.
-/
import Derived.Test.YtlnockimfgfcgaaCoinPure
namespace Go.Proofs.Ytlnockimfgfcgaa
open Go.Lab
set_option linter.unusedVariables false
set_option linter.unusedSimpArgs false

theorem known_ok : F.baizelaw34_known = some true := by kernel_rfl

theorem Ints_l1 (l : List Int) (hl : (l.length : Int) ≤ maxLen) : ∀ (k : Nat) (i : Int), 0 ≤ i → i ≤ (l.length : Int) → (l.length : Int) - i < k → F.baizeref34_Ints.l1 l l k i = some true := by
  have hm : (maxLen : Int) = 9223372036854775807 := rfl
  intro k
  induction k with
  | zero => intro i h0 h1 h2; omega
  | succ k ih =>
    intro i h0 h1 h2
    unfold F.baizeref34_Ints.l1
    by_cases hi : i < (l.length : Int)
    · simp only [hi, h0, decide_true, if_true, and_self, bne_self_eq_false, Bool.false_eq_true, if_false]
      rw [wrap_succ h0 (by omega)]
      exact ih _ (by omega) (by omega) (by omega)
    · simp [hi]
theorem Ints_refl (l : List Int) (hl : l.length ≤ maxLen) : F.baizeref34_Ints l l = some true := by
  have hm : (maxLen : Int) = 9223372036854775807 := rfl
  unfold F.baizeref34_Ints
  rw [Ints_l1 l (by omega) fuel 0 (by omega) (by omega) (by rw [fuel_eq]; omega)]
  simp

theorem Index_l1 (l : List Int) (x : Int) (hl : l.length ≤ 20) : ∀ (k : Nat) (i : Int), 0 ≤ i → i ≤ (l.length : Int) → (l.length : Int) - i < k →
    ∃ r, F.slices_Index_int_int.l1 l x k i = some r ∧ decide (r ≥ 0) = (l.drop i.toNat).any fun y => x == y := by
  intro k
  induction k with
  | zero => intro i h0 h1 h2; omega
  | succ k ih =>
    intro i h0 h1 h2
    unfold F.slices_Index_int_int.l1
    by_cases hi : i < (l.length : Int)
    · rw [getI_drop h0 hi]
      simp only [hi, h0, decide_true, if_true, and_self, List.any_cons]
      by_cases hr : (x == getI l i) = true
      · exact ⟨i, by simp [hr], by simp [hr, h0]⟩
      · obtain ⟨r, h3, h4⟩ := ih (i + 1) (by omega) (by omega) (by omega)
        refine ⟨r, ?_, by simpa [hr] using h4⟩
        rw [wrap_succ h0 (by omega), if_neg hr]
        exact h3
    · rw [drop_end hi]
      exact ⟨-1, by simp [hi], by simp⟩
theorem Contains_eq (l : List Int) (x : Int) (hl : l.length ≤ 20) : F.slices_Contains_int_int l x = some (l.any fun y => x == y) := by
  unfold F.slices_Contains_int_int F.slices_Index_int_int
  obtain ⟨r, h1, h2⟩ := Index_l1 l x hl fuel 0 (by omega) (by omega) (by rw [fuel_eq]; omega)
  rw [h1]
  simp only [Option.bind_some, h2]
  rfl
theorem any1_01 : ∀ (l : List Int), (∀ w ∈ l, w = 0 ∨ w = 1) → ((l.any fun y => (1 : Int) == y) = false ↔ l.sum = 0)
  | [], _ => by simp
  | w :: ws, h => by
    have h1 := h w (by simp)
    have h2 := any1_01 ws fun z hz => h z (by simp [hz])
    have h3 := sum_01 ws fun z hz => h z (by simp [hz])
    rw [List.sum_cons, List.any_cons]
    rcases h1 with rfl | rfl
    · simpa using h2
    · simp; omega

def sharesFin (bond who : Int) (out : List Int) : Option (List Int × Int) :=
  (F.slices_Contains_int_int out 1).bind fun q11 => (if (!q11) = true then (if 0 ≤ who ∧ who < (out.length : Int) then (F.punish_Shares.c5 bond (setI out who 1)) else none) else (F.punish_Shares.c5 bond out))
theorem shares_l1 (bond who : Int) (gone : List Bool) (hl : gone.length ≤ 20) : ∀ (k : Nat) (out : List Int) (i : Int), 0 ≤ i → i ≤ (gone.length : Int) → (gone.length : Int) - i < k → out.length = gone.length → (∀ y ∈ out.drop i.toNat, y = 0) →
    F.punish_Shares.l1 bond who gone k out i = sharesFin bond who (out.take i.toNat ++ wts who (gone.drop i.toNat) i) := by
  intro k
  induction k with
  | zero => intro out i h0 h1 h2; omega
  | succ k ih =>
    intro out i h0 h1 h2 ho hz
    unfold F.punish_Shares.l1
    by_cases hi : i < (gone.length : Int)
    · have hio : i < (out.length : Int) := by omega
      have hzi := hz (getI out i) (by rw [getI_drop h0 hio]; simp)
      have hrest : ∀ y ∈ out.drop (i + 1).toNat, y = 0 := fun y hy' => hz y (by rw [getI_drop h0 hio]; exact List.mem_cons_of_mem _ hy')
      rw [getI_drop h0 hi]
      simp only [hi, h0, decide_true, if_true, and_self, wts]
      by_cases he : i = who ∨ getI gone i = true
      · have e : (if (i != who) = true then F.punish_Shares.c4 (F.punish_Shares.l1 bond who gone k) out i (!(getI gone i)) else F.punish_Shares.c4 (F.punish_Shares.l1 bond who gone k) out i false) = F.punish_Shares.l1 bond who gone k out (i + 1) := by
          simp only [F.punish_Shares.c4, F.punish_Shares.c3]
          rw [wrap_succ h0 (by omega)]
          rcases he with he | he
          · simp [he]
          · simp [he]
        rw [e, if_pos he, ih _ _ (by omega) (by omega) (by omega) ho hrest, take_succ_getI h0 hio, take_app_drop, hzi]
      · have h5 : i ≠ who := fun h => he (.inl h)
        have h6 : getI gone i = false := by cases hgi : getI gone i; rfl; exact absurd (.inr hgi) he
        simp only [bne_iff_ne, ne_eq, h5, not_false_eq_true, if_true, h6, Bool.not_false, F.punish_Shares.c4, F.punish_Shares.c3, hio, h0, and_self]
        rw [wrap_succ h0 (by omega), ih _ _ (by omega) (by omega) (by omega) (by rw [setI_length]; omega) (by rw [setI_drop h0 hio]; exact hrest), setI_take h0 hio, take_app_drop]
        simp
    · rw [drop_end hi]
      simp only [hi, decide_false, Bool.false_eq_true, if_false, wts, List.append_nil]
      rw [List.take_of_length_le (by omega)]
      rfl

/-- The weights of who shares. -/
def whoShares (who : Int) (gone : List Bool) : List Int := if (wts who gone 0).sum = 0 then setI (wts who gone 0) who 1 else wts who gone 0
def sharesP (bond who : Int) (gone : List Bool) : List Int × Int :=
  if rightB bond = false then ([], 2) else if (gone.length : Int) < 2 ∨ 8 < (gone.length : Int) then ([], 3) else if who < 0 ∨ (gone.length : Int) ≤ who then ([], 28) else (parts bond (whoShares who gone), 0)

theorem whoShares_01 (who : Int) (gone : List Bool) (h0 : 0 ≤ who) (h1 : who < (gone.length : Int)) : (∀ w ∈ whoShares who gone, w = 0 ∨ w = 1) ∧ (whoShares who gone).length = gone.length ∧ (whoShares who gone).sum ≠ 0 := by
  have h01 := wts_01 who gone 0
  have hl := wts_length who gone 0
  unfold whoShares
  split
  · rename_i hs
    refine ⟨fun w hw => ?_, by rw [setI_length, hl], ?_⟩
    · unfold setI at hw
      rcases List.mem_or_eq_of_mem_set hw with hw | rfl
      · exact h01 w hw
      · exact .inr rfl
    · unfold setI
      rw [set_sum _ _ _ (by omega), hs, wts_get who gone 0 who.toNat (by omega), if_pos (.inl (by omega))]
      omega
  · rename_i hs
    exact ⟨h01, hl, hs⟩

theorem punish_Shares_eq (bond who : Int) (gone : List Bool) (hl : gone.length ≤ 20) : F.punish_Shares bond who gone = some (sharesP bond who gone) := by
  unfold F.punish_Shares F.punish_Shares.c1 F.punish_Shares.c2 sharesP
  simp only [coin_Right_eq, Option.bind_some]
  by_cases hb : rightB bond = true
  · simp only [hb, Bool.not_true, Bool.false_eq_true, if_false, Bool.true_eq_false]
    by_cases h1 : (gone.length : Int) < 2
    · simp [h1]
    · by_cases h2 : (gone.length : Int) > 8
      · have h3 : (gone.length : Int) < 2 ∨ 8 < (gone.length : Int) := by omega
        simp [h1, h2]
      · have h3 : ¬ ((gone.length : Int) < 2 ∨ 8 < (gone.length : Int)) := by omega
        rw [if_neg h3]
        simp only [h1, h2, decide_false, Bool.false_eq_true, if_false]
        by_cases h4 : who < 0
        · simp [h4]
        · by_cases h5 : who ≥ (gone.length : Int)
          · have h6 : who < 0 ∨ (gone.length : Int) ≤ who := by omega
            simp [h4, h5]
          · have h6 : ¬ (who < 0 ∨ (gone.length : Int) ≤ who) := by omega
            have hc : (0 : Int) ≤ (gone.length : Int) ∧ (gone.length : Int) ≤ 17592186044416 := by omega
            rw [if_neg h6]
            simp only [h4, h5, decide_false, Bool.false_eq_true, if_false]
            rw [if_pos hc, shares_l1 bond who gone hl fuel _ 0 (by omega) (by omega) (by rw [fuel_eq]; omega) (by simp) (by intro y hy; simpa using (List.eq_of_mem_replicate (List.mem_of_mem_drop hy)))]
            simp only [Int.toNat_zero, List.take_zero, List.drop_zero, List.nil_append]
            obtain ⟨w1, w2, w3⟩ := whoShares_01 who gone (by omega) (by omega)
            have hwl := wts_length who gone 0
            have hfin : sharesFin bond who (wts who gone 0) = F.punish_Shares.c5 bond (whoShares who gone) := by
              unfold sharesFin whoShares
              rw [Contains_eq _ _ (by omega)]
              simp only [Option.bind_some]
              by_cases hs : (wts who gone 0).sum = 0
              · rw [(any1_01 _ (wts_01 who gone 0)).2 hs, if_pos hs]
                have : 0 ≤ who ∧ who < ((wts who gone 0).length : Int) := by omega
                simp only [Bool.not_false, if_true, this, and_self]
              · have : ((wts who gone 0).any fun y => (1 : Int) == y) = true := by
                  cases hc : (wts who gone 0).any fun y => (1 : Int) == y with
                  | true => rfl
                  | false => exact absurd ((any1_01 _ (wts_01 who gone 0)).1 hc) hs
                rw [this, if_neg hs]
                simp
            rw [hfin, F.punish_Shares.c5, Split_eq bond _ hb (by omega) (by omega) w1 w3]
            rfl
  · simp [hb]

theorem ref_l2 (bond who : Int) (gone : List Bool) (n : Int) (hl : gone.length ≤ 8) (hn : 0 < n) (hb0 : 0 ≤ bond) (hb1 : bond ≤ 1125899906842624) : ∀ (k : Nat) (out : List Int) (left i : Int), 0 ≤ i → i ≤ (gone.length : Int) → (gone.length : Int) - i < k → out.length = gone.length →
    0 ≤ left → left ≤ 1125899906842624 → (∀ y ∈ out.drop i.toNat, y = 0) →
    F.baizeref34_Shares.l2 bond who gone n k out left i = some (out.take i.toNat ++ give (wts who (gone.drop i.toNat) i) ((wts who (gone.drop i.toNat) i).map fun w => (bond / n) * w) left, 0) := by
  have hq0 : 0 ≤ bond / n := Int.ediv_nonneg hb0 (by omega)
  have hq1 : bond / n ≤ bond := Int.ediv_le_self n hb0
  have ht : IntKind.i64.wrap (bond.tdiv n) = bond / n := by rw [Int.tdiv_eq_ediv_of_nonneg hb0, wrap_id (by omega) (by omega)]
  have give0 : ∀ ws os, give ws os 0 = os := by intro ws os; cases ws <;> cases os <;> simp [give]
  intro k
  induction k with
  | zero => intro out left i h0 h1 h2; omega
  | succ k ih =>
    intro out left i h0 h1 h2 ho hl0 hl1 hz
    unfold F.baizeref34_Shares.l2
    by_cases hi : i < (gone.length : Int)
    · have hio : i < (out.length : Int) := by omega
      have hzi := hz (getI out i) (by rw [getI_drop h0 hio]; simp)
      have hrest : ∀ y ∈ out.drop (i + 1).toNat, y = 0 := fun y hy' => hz y (by rw [getI_drop h0 hio]; exact List.mem_cons_of_mem _ hy')
      rw [getI_drop h0 hi]
      simp only [hi, decide_true, if_true, wts, List.map_cons, h0, and_self]
      by_cases he : i = who ∨ getI gone i = true
      · have e : (if (i == who) = true then F.baizeref34_Shares.c7 (F.baizeref34_Shares.l2 bond who gone n k) bond n out left i true else F.baizeref34_Shares.c7 (F.baizeref34_Shares.l2 bond who gone n k) bond n out left i (getI gone i)) = F.baizeref34_Shares.l2 bond who gone n k out left (i + 1) := by
          simp only [F.baizeref34_Shares.c7, F.baizeref34_Shares.c6]
          rw [wrap_succ h0 (by omega)]
          rcases he with he | he
          · simp [he]
          · simp [he]
        rw [e, if_pos he, ih _ _ _ (by omega) (by omega) (by omega) ho hl0 hl1 hrest, take_succ_getI h0 hio, take_app_drop, hzi, Int.mul_zero]
        by_cases hlz : left = 0
        · subst hlz; rw [give0, give0]
        · simp only [give, hlz, if_false, if_true]
      · have h5 : i ≠ who := fun h => he (.inl h)
        have h6 : getI gone i = false := by cases hgi : getI gone i; rfl; exact absurd (.inr hgi) he
        rw [if_neg he]
        simp only [beq_iff_eq, h5, if_false, h6, F.baizeref34_Shares.c7, F.baizeref34_Shares.c6, Bool.false_eq_true, ne_eq, show ¬ n = 0 by omega, not_false_eq_true, if_true, h0, hio, and_self, ht, setI_length, getI_setI h0 hio, Int.mul_one]
        rw [wrap_succ h0 (by omega)]
        by_cases hlp : left > 0
        · simp only [hlp, decide_true, if_true]
          have hss : setI (setI out i (bond / n)) i (IntKind.i64.wrap (bond / n + 1)) = setI out i (bond / n + 1) := by
            unfold setI; rw [List.set_set, wrap_id (by omega) (by omega)]
          rw [hss, wrap_id (by omega) (by omega), ih _ _ _ (by omega) (by omega) (by omega) (by rw [setI_length]; omega) (by omega) (by omega) (by rw [setI_drop h0 hio]; exact hrest), setI_take h0 hio, take_app_drop]
          simp only [give, show ¬ left = 0 by omega, if_false]
          rw [if_neg (by decide)]
        · have hlz : left = 0 := by omega
          subst hlz
          simp only [show ¬ ((0 : Int) > 0) by omega, decide_false, Bool.false_eq_true, if_false]
          rw [ih _ _ _ (by omega) (by omega) (by omega) (by rw [setI_length]; omega) (by omega) (by omega) (by rw [setI_drop h0 hio]; exact hrest), setI_take h0 hio, take_app_drop, give0, give0]
    · rw [drop_end hi]
      simp only [hi, decide_false, Bool.false_eq_true, if_false, wts, List.map_nil, give, List.append_nil]
      rw [List.take_of_length_le (by omega)]

def refFin (bond who : Int) (gone : List Bool) (n : Int) : Option (List Int × Int) :=
  if (n == 0) = true then (if 0 ≤ who ∧ who < ((List.replicate (gone.length : Int).toNat (0 : Int)).length : Int) then (some ((setI (List.replicate (gone.length : Int).toNat (0 : Int)) who bond), 0)) else none) else (if n ≠ 0 then (F.baizeref34_Shares.l2 bond who gone n fuel (List.replicate (gone.length : Int).toNat (0 : Int)) (bond.tmod n) 0) else none)
theorem ref_l1 (bond who : Int) (gone : List Bool) (hl : gone.length ≤ 8) : ∀ (k : Nat) (n i : Int), 0 ≤ i → i ≤ (gone.length : Int) → (gone.length : Int) - i < k → 0 ≤ n → n ≤ i →
    F.baizeref34_Shares.l1 bond who gone k n i = refFin bond who gone (n + (wts who (gone.drop i.toNat) i).sum) := by
  intro k
  induction k with
  | zero => intro n i h0 h1 h2; omega
  | succ k ih =>
    intro n i h0 h1 h2 h3 h4
    unfold F.baizeref34_Shares.l1
    by_cases hi : i < (gone.length : Int)
    · rw [getI_drop h0 hi]
      simp only [hi, decide_true, if_true, h0, and_self, wts, List.sum_cons, F.baizeref34_Shares.c5, F.baizeref34_Shares.c4, bne_iff_ne, ne_eq]
      rw [wrap_succ h0 (by omega)]
      by_cases he : i = who
      · simp only [he, not_true, if_false, true_or, if_true, Bool.false_eq_true, Int.zero_add]
        subst he
        exact ih _ _ (by omega) (by omega) (by omega) h3 (by omega)
      · simp only [he, not_false_eq_true, if_true, false_or]
        cases getI gone i
        · simp only [Bool.not_false, if_true, Bool.false_eq_true, if_false]
          rw [wrap_succ h3 (by omega), ih _ _ (by omega) (by omega) (by omega) (by omega) (by omega), Int.add_assoc]
        · simp only [Bool.not_true, Bool.false_eq_true, if_false, if_true, Int.zero_add]
          exact ih _ _ (by omega) (by omega) (by omega) h3 (by omega)
    · rw [drop_end hi]
      simp only [hi, decide_false, Bool.false_eq_true, if_false, wts, List.sum_nil, Int.add_zero]
      rfl

theorem zeros_of : ∀ (l : List Int), (∀ w ∈ l, w = 0 ∨ w = 1) → l.sum = 0 → l = List.replicate l.length 0
  | [], _, _ => rfl
  | w :: ws, h, hs => by
    have h1 := h w (by simp)
    have hr : ∀ w ∈ ws, w = 0 ∨ w = 1 := fun z hz => h z (by simp [hz])
    have h3 := sum_01 ws hr
    rw [List.sum_cons] at hs
    have hw : w = 0 := by omega
    subst hw
    rw [List.length_cons, List.replicate_succ, ← zeros_of ws hr (by omega)]

theorem ref_Shares_eq (bond who : Int) (gone : List Bool) : F.baizeref34_Shares bond who gone = some (sharesP bond who gone) := by
  unfold F.baizeref34_Shares F.baizeref34_Shares.c1 F.baizeref34_Shares.c2 F.baizeref34_Shares.c3 sharesP rightB
  by_cases hb0 : bond < 0
  · have : ¬ bond ≥ 0 := by omega
    simp [hb0, this]
  · by_cases hb1 : bond > 1125899906842624
    · have : ¬ bond ≤ 1125899906842624 := by omega
      simp [hb0, hb1, this]
    · have e1 : bond ≥ 0 := by omega
      have e2 : bond ≤ 1125899906842624 := by omega
      simp only [hb0, hb1, e1, e2, decide_true, decide_false, Bool.and_self, Bool.false_eq_true, Bool.true_eq_false, if_false]
      by_cases h1 : (gone.length : Int) < 2
      · simp [h1]
      · by_cases h2 : (gone.length : Int) > 8
        · simp [h1, h2]
        · have h3 : ¬ ((gone.length : Int) < 2 ∨ 8 < (gone.length : Int)) := by omega
          rw [if_neg h3]
          simp only [h1, h2, decide_false, Bool.false_eq_true, if_false]
          by_cases h4 : who < 0
          · simp [h4]
          · by_cases h5 : who ≥ (gone.length : Int)
            · simp [h4, h5]
            · have h6 : ¬ (who < 0 ∨ (gone.length : Int) ≤ who) := by omega
              have hc : (0 : Int) ≤ (gone.length : Int) ∧ (gone.length : Int) ≤ 17592186044416 := by omega
              rw [if_neg h6]
              simp only [h4, h5, decide_false, Bool.false_eq_true, if_false]
              rw [if_pos hc, ref_l1 bond who gone (by omega) fuel 0 0 (by omega) (by omega) (by rw [fuel_eq]; omega) (by omega) (by omega)]
              simp only [Int.toNat_zero, List.drop_zero, Int.zero_add]
              have h01 := wts_01 who gone 0
              have hwl := wts_length who gone 0
              have hs01 := sum_01 _ h01
              unfold refFin whoShares
              by_cases hs : (wts who gone 0).sum = 0
              · have hz := zeros_of _ h01 hs
                have hw : 0 ≤ who ∧ who < ((List.replicate (gone.length : Int).toNat (0 : Int)).length : Int) := by simp; omega
                simp only [hs, beq_self_eq_true, if_true]
                rw [if_pos hw]
                congr 2
                unfold parts
                have hsum1 : (setI (wts who gone 0) who 1).sum = 1 := by
                  unfold setI
                  rw [set_sum _ _ _ (by omega), hs, wts_get who gone 0 who.toNat (by omega), if_pos (.inl (by omega))]
                  omega
                rw [hsum1, Int.ediv_one, Int.mul_one, Int.sub_self]
                have give0 : ∀ ws os, give ws os 0 = os := by intro ws os; cases ws <;> cases os <;> simp [give]
                rw [give0, hz, hwl]
                unfold setI
                rw [List.map_set, List.map_replicate, Int.mul_zero, Int.mul_one]
                simp
              · have hne : ¬ (((wts who gone 0).sum == 0) = true) := by simpa using hs
                rw [if_neg hne, if_pos hs]
                simp only [hs, if_false]
                have ht : bond.tmod (wts who gone 0).sum = bond - bond / (wts who gone 0).sum * (wts who gone 0).sum := by
                  rw [Int.tmod_eq_emod_of_nonneg e1, Int.emod_def, Int.mul_comm]
                have hm := Int.emod_nonneg bond hs
                have hm2 := Int.emod_lt_of_pos bond (show 0 < (wts who gone 0).sum by omega)
                have hd := Int.mul_ediv_add_emod bond (wts who gone 0).sum
                have hcm : (bond / (wts who gone 0).sum) * (wts who gone 0).sum = (wts who gone 0).sum * (bond / (wts who gone 0).sum) := Int.mul_comm _ _
                rw [ht, ref_l2 bond who gone _ (by omega) (by omega) e1 e2 fuel _ _ 0 (by omega) (by omega) (by rw [fuel_eq]; omega) (by simp) (by omega) (by omega) (by intro y hy; simpa using (List.eq_of_mem_replicate (List.mem_of_mem_drop hy)))]
                simp [parts]

theorem sum_take_succ {l : List Int} {i : Int} (h0 : 0 ≤ i) (h1 : i < (l.length : Int)) : (l.take (i + 1).toNat).sum = (l.take i.toNat).sum + getI l i := by
  rw [take_succ_getI h0 h1]; simp

theorem check_l1 (bond who : Int) (gone : List Bool) (sh : List Int) (q : Int) (hl : sh.length ≤ 8) (hg : gone.length = sh.length) (hw : 0 ≤ who ∧ who < (sh.length : Int)) (hq : 0 ≤ q ∧ q ≤ bond) (hb : bond ≤ 1125899906842624) (hs : sh.sum = bond) (hnn : ∀ y ∈ sh, 0 ≤ y ∧ y ≤ 1125899906842625)
    (h1 : ∀ i : Nat, i < sh.length → ((i : Int) ≠ who → gone.getD i false = true → sh.getD i 0 = 0) ∧ ((i : Int) ≠ who → gone.getD i false = false → q ≤ sh.getD i 0 ∧ sh.getD i 0 ≤ q + 1)) :
    ∀ (k : Nat) (sum least most i : Int), 0 ≤ i → i ≤ (sh.length : Int) → (sh.length : Int) - i < k → sum = (sh.take i.toNat).sum → 0 ≤ sum → sum ≤ 2125899906842624 * i → q ≤ least → least ≤ bond → 0 ≤ most → most ≤ q + 1 →
      F.baizelaw34_PunishShares.l1 bond who gone sh 0 k sum least most i = some true := by
  intro k
  induction k with
  | zero => intro sum least most i h0 h1 h2; omega
  | succ k ih =>
    intro sum least most i h0 hi1 h2 hsum hs0 hs1 ha hb' hc hd
    unfold F.baizelaw34_PunishShares.l1
    by_cases hi : i < (sh.length : Int)
    · have hig : i < (gone.length : Int) := by omega
      have hy := hnn _ (getI_mem h0 hi)
      have hD := h1 i.toNat (by omega)
      have e1 : sh.getD i.toNat 0 = getI sh i := rfl
      have e2 : gone.getD i.toNat false = getI gone i := rfl
      have e3 : ((i.toNat : Nat) : Int) = i := by omega
      rw [e1, e2, e3] at hD
      have hst := sum_take_succ h0 hi
      simp only [hi, h0, hig, decide_true, and_self, if_true, F.baizelaw34_PunishShares.c4, F.baizelaw34_PunishShares.c5, F.baizelaw34_PunishShares.c3]
      rw [wrap_succ h0 (by omega), wrap_id (by omega) (by omega)]
      by_cases hw' : i = who
      · have hf : ¬ ((i != who) = true) := by simp [hw']
        simp only [hf, if_false, Bool.false_eq_true]
        exact ih _ _ _ _ (by omega) (by omega) (by omega) (by omega) (by omega) (by omega) ha hb' hc hd
      · have hf : (i != who) = true := by simp [hw']
        simp only [hf, if_true]
        cases hgi : getI gone i with
        | true =>
          have hz := hD.1 hw' hgi
          simp only [if_true, hz, bne_self_eq_false, Bool.false_eq_true, if_false, Bool.not_true]
          exact ih _ _ _ _ (by omega) (by omega) (by omega) (by omega) (by omega) (by omega) ha hb' hc hd
        | false =>
          have hz := hD.2 hw' hgi
          simp only [Bool.false_eq_true, if_false, Bool.not_false, if_true]
          refine ih _ _ _ _ (by omega) (by omega) (by omega) (by omega) (by omega) (by omega) ?_ ?_ ?_ ?_
          · unfold imin; split <;> omega
          · unfold imin; split <;> omega
          · unfold imax; split <;> omega
          · unfold imax; split <;> omega
    · have hfull : sum = bond := by rw [hsum, List.take_of_length_le (by omega), hs]
      have hle : most - least ≤ 1 := by omega
      simp only [hi, decide_false, Bool.false_eq_true, if_false, bne_self_eq_false, hfull, beq_self_eq_true, if_true]
      rw [wrap_id (by omega) (by omega)]
      simp only [hle, decide_true, if_true, F.baizelaw34_PunishShares.c6]

theorem law_PunishShares (a0 : Int) (a1 : Int) (l2 : (List Bool)) (w0 : (Lit.int .i64 a0).wf = true) (w1 : (Lit.int .i64 a1).wf = true) (w2 : (l2.length ≤ maxLen ∧ ∀ y ∈ l2, True)) : F.baizelaw34_PunishShares a0 a1 l2 = some true := by
  have hmx : maxLen = 9223372036854775807 := rfl
  unfold F.baizelaw34_PunishShares F.baizelaw34_PunishShares.c1
  simp only [known_ok, Option.bind_some, Bool.not_true, Bool.false_eq_true, if_false]
  by_cases hl : (l2.length : Int) > 20
  · simp [hl]
  · simp only [hl, decide_false, Bool.false_eq_true, if_false, punish_Shares_eq a0 a1 l2 (by omega), ref_Shares_eq, Option.bind_some, bne_self_eq_false]
    have hlen : (sharesP a0 a1 l2).1.length ≤ maxLen := by
      unfold sharesP
      repeat' split
      · simp
      · simp
      · simp
      · unfold parts; rw [give_length, List.length_map, (whoShares_01 a1 l2 (by omega) (by omega)).2.1]; omega
    rw [Ints_refl _ hlen]
    simp only [Option.bind_some, Bool.not_true, F.baizelaw34_PunishShares.c2, Bool.false_eq_true, if_false]
    generalize hr : sharesP a0 a1 l2 = r
    obtain ⟨sh, e⟩ := r
    unfold sharesP at hr
    have empty : ∀ e : Int, e ≠ 0 → F.baizelaw34_PunishShares.l1 a0 a1 l2 [] e fuel 0 a0 0 0 = some true := by
      intro e he
      rw [fuel_eq]
      unfold F.baizelaw34_PunishShares.l1
      simp [he, F.baizelaw34_PunishShares.c6]
    split at hr
    · obtain ⟨rfl, rfl⟩ := Prod.mk.inj hr; exact empty 2 (by decide)
    rename_i hb
    split at hr
    · obtain ⟨rfl, rfl⟩ := Prod.mk.inj hr; exact empty 3 (by decide)
    rename_i h8
    split at hr
    · obtain ⟨rfl, rfl⟩ := Prod.mk.inj hr; exact empty 28 (by decide)
    rename_i hw
    obtain ⟨hsh, rfl⟩ := Prod.mk.inj hr
    have hbr : rightB a0 = true := by cases h : rightB a0; exact absurd h hb; rfl
    have hbb := rightB_iff.1 hbr
    obtain ⟨v1, v2, v3⟩ := whoShares_01 a1 l2 (by omega) (by omega)
    have vs := sum_01 _ v1
    have hq0 : 0 ≤ a0 / (whoShares a1 l2).sum := Int.ediv_nonneg hbb.1 (by omega)
    have hq1 := Int.ediv_le_self (whoShares a1 l2).sum hbb.1
    have hm := Int.emod_nonneg a0 v3
    have hm2 := Int.emod_lt_of_pos a0 (show 0 < (whoShares a1 l2).sum by omega)
    have hd := Int.mul_ediv_add_emod a0 (whoShares a1 l2).sum
    have hcm : (a0 / (whoShares a1 l2).sum) * (whoShares a1 l2).sum = (whoShares a1 l2).sum * (a0 / (whoShares a1 l2).sum) := Int.mul_comm _ _
    have hshl : sh.length = l2.length := by rw [← hsh]; unfold parts; rw [give_length, List.length_map, v2]
    have hget : ∀ i : Nat, i < l2.length → sh.getD i 0 = (a0 / (whoShares a1 l2).sum) * (whoShares a1 l2).getD i 0 ∨ ((whoShares a1 l2).getD i 0 ≠ 0 ∧ sh.getD i 0 = (a0 / (whoShares a1 l2).sum) * (whoShares a1 l2).getD i 0 + 1) := by
      intro i hi
      have hg := give_get (whoShares a1 l2) ((whoShares a1 l2).map fun w => (a0 / (whoShares a1 l2).sum) * w) (a0 - (a0 / (whoShares a1 l2).sum) * (whoShares a1 l2).sum) i
      have hmg : ((whoShares a1 l2).map fun w => (a0 / (whoShares a1 l2).sum) * w).getD i 0 = (a0 / (whoShares a1 l2).sum) * (whoShares a1 l2).getD i 0 := by
        rw [List.getD_eq_getElem?_getD, List.getElem?_map, List.getElem?_eq_getElem (by omega : i < (whoShares a1 l2).length), List.getD_eq_getElem?_getD, List.getElem?_eq_getElem (by omega : i < (whoShares a1 l2).length)]
        rfl
      rw [hmg] at hg
      rw [← hsh]; exact hg
    have hwi : ∀ i : Nat, i < l2.length → (i : Int) ≠ a1 → (whoShares a1 l2).getD i 0 = (if l2.getD i false = true then 0 else 1) := by
      intro i hi hne
      have hwg := wts_get a1 l2 0 i hi
      rw [Int.zero_add] at hwg
      have e : (wts a1 l2 0).getD i 0 = (if l2.getD i false = true then 0 else 1) := by rw [hwg]; simp [hne]
      unfold whoShares
      split
      · unfold setI
        rw [List.getD_eq_getElem?_getD, List.getElem?_set_ne (by omega), ← List.getD_eq_getElem?_getD, e]
      · exact e
    refine check_l1 a0 a1 l2 sh (a0 / (whoShares a1 l2).sum) (by omega) (by omega) (by omega) (by omega) hbb.2 ?_ ?_ ?_ fuel 0 a0 0 0 (by omega) (by omega) (by rw [fuel_eq]; omega) (by simp) (by omega) (by omega) hq1 (by omega) (by omega) (by omega)
    · rw [← hsh]; unfold parts
      rw [give_sum _ _ _ v1 (by simp) (by omega) (by omega), map_mul_sum]; omega
    · intro y hy
      obtain ⟨i, hi, rfl⟩ := List.mem_iff_getElem.1 hy
      have h7 := hget i (by omega)
      rw [List.getD_eq_getElem?_getD, List.getElem?_eq_getElem hi] at h7
      simp only [Option.getD_some] at h7
      have hwv : (whoShares a1 l2).getD i 0 = 0 ∨ (whoShares a1 l2).getD i 0 = 1 := v1 _ (by rw [List.getD_eq_getElem?_getD, List.getElem?_eq_getElem (by omega : i < (whoShares a1 l2).length)]; simp)
      rcases hwv with hwv | hwv <;> rw [hwv] at h7 <;> omega
    · intro i hi
      have h7 := hget i (by omega)
      refine ⟨fun hne hg => ?_, fun hne hg => ?_⟩
      · have := hwi i (by omega) hne
        rw [hg, if_pos rfl] at this
        rw [this] at h7; omega
      · have := hwi i (by omega) hne
        rw [hg, if_neg (by decide)] at this
        rw [this] at h7; omega
end Go.Proofs.Ytlnockimfgfcgaa
