/-
  Plain facts of purses: what Check, Total, the amounts come to.
-/
import Derived.Test.YticlfbpmfejdoaaWPt6
import Derived.Test.YticlfbpmfejdoaaLabL
import Derived.KernelRfl
namespace Go.Proofs.Yticlfbpmfejdoaa
open Go.Lab

theorem told_true : F.baizelaw47_told = some true := by kernel_rfl

/-- May a number be an amount? -/
def Right (x : Int) : Prop := 0 ≤ x ∧ x ≤ 1125899906842624
instance (x : Int) : Decidable (Right x) := by unfold Right; infer_instance

theorem Right_eq (x : Int) : F.coin_Right x = some (decide (Right x)) := by
  unfold F.coin_Right F.coin_Right.c1 Right
  by_cases h : x ≥ 0 <;> simp [h] <;> omega
theorem height_eq (x : Int) : F.purse_height x = some (decide (0 ≤ x ∧ x ≤ 1099511627776)) := by
  unfold F.purse_height F.purse_height.c1
  by_cases h : x ≥ 0 <;> simp [h] <;> omega
theorem side_eq (x : Int) : F.purse_side x = some (decide (0 ≤ x ∧ x < 2)) := by
  unfold F.purse_side F.purse_side.c1
  by_cases h : x ≥ 0 <;> simp [h] <;> omega
theorem some_eq (x : Int) : F.purse_some x = some (decide (0 < x ∧ x ≤ 1125899906842624)) := by
  unfold F.purse_some F.purse_some.c1
  rw [Right_eq]
  unfold Right
  by_cases h : x = 0
  · subst h; rfl
  · rw [if_pos (by simpa using h)]
    simp only [Option.bind_some]
    congr 1
    exact decide_eq_decide.2 (by omega)

theorem Add_eq {x y : Int} (hx : Right x) : F.coin_Add x y = some (if Right y ∧ Right (x + y) then (x + y, 0) else (0, 2)) := by
  unfold F.coin_Add F.coin_Add.c1
  simp only [Right_eq, Option.bind_some, hx, decide_true, Bool.not_true, Bool.false_eq_true, if_false]
  by_cases hy : Right y
  · have hw : IntKind.i64.wrap (x + y) = x + y := by unfold Right at hx hy; exact wrap_id (by omega) (by omega)
    rw [hw]
    by_cases hz : Right (x + y) <;> simp [hy, hz]
  · simp [hy]

def sumL : List Int → Int
  | [] => 0
  | x :: r => x + sumL r

theorem sumL_append : ∀ (l r : List Int), sumL (l ++ r) = sumL l + sumL r
  | [], r => by simp [sumL]
  | x :: l, r => by simp only [List.cons_append, sumL, sumL_append l r]; omega

theorem sumL_nonneg : ∀ {l : List Int}, (∀ x ∈ l, 0 ≤ x) → 0 ≤ sumL l
  | [], _ => by simp [sumL]
  | x :: r, h => by
    have := sumL_nonneg (l := r) (fun y hy => h y (by simp [hy]))
    have := h x (by simp)
    simp only [sumL]; omega

/-- All amounts together. -/
def sumR (l : List Int) : Int × Int := if (∀ x ∈ l, 0 ≤ x) ∧ sumL l ≤ 1125899906842624 then (sumL l, 0) else (0, 2)

theorem sum_l1 : ∀ (r p : List Int) (k : Nat), r.length < k → (∀ x ∈ p, 0 ≤ x) → sumL p ≤ 1125899906842624 → (p ++ r).length ≤ 9223372036854775000 →
    F.coin_Sum.l1 (p ++ r) k (sumL p) (p.length : Int) = some (sumR (p ++ r))
  | [], p, k + 1, _, hp, hs, _ => by
    unfold F.coin_Sum.l1 sumR
    rw [List.append_nil, if_neg (by simp), if_pos ⟨hp, hs⟩]
  | x :: r, p, k + 1, hk, hp, hs, hl => by
    have hlt : (p.length : Int) < ((p ++ x :: r).length : Int) := by simp; omega
    have hg : getI (p ++ x :: r) (p.length : Int) = x := by
      unfold getI
      rw [List.getD_eq_getElem?_getD, show ((p.length : Int)).toNat = p.length by omega, List.getElem?_append_right (Nat.le_refl _)]
      simp
    have hpn := sumL_nonneg hp
    unfold F.coin_Sum.l1
    rw [if_pos (by simpa using hlt), if_pos ⟨by omega, hlt⟩, hg, Add_eq ⟨hpn, hs⟩, Option.bind_some]
    have hw : IntKind.i64.wrap ((p.length : Int) + 1) = ((p ++ [x]).length : Int) := by
      rw [wrap_id (by omega) (by simp at hl; omega)]; simp
    by_cases h : Right x ∧ Right (sumL p + x)
    · rw [if_pos h]
      simp only [bne_self_eq_false, Bool.false_eq_true, if_false]
      have ih := sum_l1 r (p ++ [x]) k (by simp at hk; omega) (by
        intro y hy
        rcases List.mem_append.1 hy with hy | hy
        · exact hp y hy
        · simp at hy; subst hy; exact h.1.1) (by rw [sumL_append]; simp only [sumL]; have := h.2.2; omega) (by simpa using hl)
      rw [List.append_assoc, sumL_append] at ih
      simp only [sumL, Int.add_zero, List.cons_append, List.nil_append] at ih
      rw [hw]; exact ih
    · rw [if_neg h]
      simp only []
      unfold sumR
      rw [if_pos (by decide), if_neg]
      intro ⟨h1, h2⟩
      apply h
      have hx := h1 x (by simp)
      have hr := sumL_nonneg (l := r) (fun y hy => h1 y (by simp [hy]))
      rw [sumL_append] at h2
      simp only [sumL] at h2
      unfold Right; omega

theorem Sum_eq {l : List Int} (hl : l.length ≤ 9223372036854775000) : F.coin_Sum l = some (sumR l) := by
  have := sum_l1 l [] fuel (by rw [fuel_eq]; omega) (by simp) (by simp [sumL]) hl
  simpa [F.coin_Sum, sumL] using this

theorem amounts_l1 (l1 : List S_purse_Held) (hl : l1.length ≤ 40) : ∀ (k i : Nat) (a : List Int), i ≤ l1.length → l1.length - i < k → a.length ≤ 100 + i →
    F.purse_Purse_amounts.l1 l1 k a (i : Int) = some (a ++ (l1.drop i).map (·.f2))
  | k + 1, i, a, hi, hk, ha => by
    unfold F.purse_Purse_amounts.l1
    by_cases h : i < l1.length
    · have h1 := getI_drop (l := l1) (i := (i : Int)) (by omega) (by omega)
      rw [show ((i : Int)).toNat = i by omega, show ((i : Int) + 1).toNat = i + 1 by omega] at h1
      have hw : IntKind.i64.wrap ((i : Int) + 1) = ((i + 1 : Nat) : Int) := by rw [wrap_id (by omega) (by omega)]; omega
      rw [if_pos (by simpa using h), if_pos (by omega), if_pos (by simp; omega), hw, amounts_l1 l1 hl k (i + 1) _ (by omega) (by omega) (by simp; omega), h1]
      simp
    · rw [if_neg (by simpa using h), List.drop_eq_nil_of_le (by omega)]; simp

theorem amounts_eq (d1 : Arr Int 8) (x1 : Int) (d2 : Arr Int 2) {l1 : List S_purse_Held} (hl : l1.length ≤ 40) : F.purse_Purse_amounts d1 x1 d2 l1 = some (d2.1 ++ l1.map (·.f2)) := by
  have := amounts_l1 l1 hl fuel 0 d2.1 (by omega) (by rw [fuel_eq]; omega) (by rw [d2.2]; omega)
  simpa [F.purse_Purse_amounts] using this

/-- Is a held one right by itself? -/
def hOk (h : S_purse_Held) : Prop := (0 < h.f2 ∧ h.f2 ≤ 1125899906842624) ∧ (0 ≤ h.f3 ∧ h.f3 < 2) ∧ (0 ≤ h.f4 ∧ h.f4 ≤ 1099511627776)
instance (h : S_purse_Held) : Decidable (hOk h) := by unfold hOk; infer_instance

/-- What is wrong with what is held. -/
def heldGo : List S_purse_Held → List S_purse_Held → Int
  | _, [] => 0
  | p, x :: r => if hOk x then (if ∃ y ∈ p, y.f1.1 = x.f1.1 then 7 else heldGo (p ++ [x]) r) else 2

theorem held_l2 (nx : Int → Option Int) (l1 : List S_purse_Held) (i : Nat) (hi : i < l1.length) (hl : l1.length ≤ 40) : ∀ (k j : Nat), j ≤ i → i - j < k →
    F.purse_Purse_held.l2 nx l1 (i : Int) k (j : Int) = if ∃ y ∈ (l1.take i).drop j, y.f1.1 = (getI l1 (i : Int)).f1.1 then some 7 else nx ((i + 1 : Nat) : Int)
  | k + 1, j, hj, hk => by
    have hs : sliceI l1 0 (i : Int) = l1.take i := by simp [sliceI]
    have hlen : (l1.take i).length = i := by rw [List.length_take]; omega
    have hw : ∀ z : Nat, z ≤ 50 → IntKind.i64.wrap ((z : Int) + 1) = ((z + 1 : Nat) : Int) := fun z hz => by rw [wrap_id (by omega) (by omega)]; omega
    unfold F.purse_Purse_held.l2
    rw [hs, hlen]
    by_cases h : j < i
    · have h1 := getI_drop (l := l1.take i) (i := (j : Int)) (by omega) (by omega)
      rw [show ((j : Int)).toNat = j by omega, show ((j : Int) + 1).toNat = j + 1 by omega] at h1
      rw [if_pos (by simpa using h), if_pos (by omega), h1]
      by_cases he : (getI (l1.take i) (j : Int)).f1.1 = (getI l1 (i : Int)).f1.1
      · rw [if_pos (by simpa using he), if_pos ⟨_, by simp, he⟩]
      · rw [if_neg (by simpa using he), hw j (by omega), held_l2 nx l1 i hi hl k (j + 1) (by omega) (by omega)]
        simp [he]
    · rw [if_neg (by simpa using h), List.drop_eq_nil_of_le (by omega), if_neg (by simp), hw i (by omega)]

theorem held_l1 (l1 : List S_purse_Held) (hl : l1.length ≤ 40) : ∀ (k i : Nat), i ≤ l1.length → l1.length - i < k →
    F.purse_Purse_held.l1 l1 k (i : Int) = some (heldGo (l1.take i) (l1.drop i))
  | k + 1, i, hi, hk => by
    unfold F.purse_Purse_held.l1
    by_cases h : i < l1.length
    · have h1 := getI_drop (l := l1) (i := (i : Int)) (by omega) (by omega)
      rw [show ((i : Int)).toNat = i by omega, show ((i : Int) + 1).toNat = i + 1 by omega] at h1
      have ht : l1.take (i + 1) = l1.take i ++ [getI l1 (i : Int)] := by
        rw [List.take_add_one, List.getElem?_eq_getElem h, Option.toList_some]
        congr 2
        unfold getI
        rw [List.getD_eq_getElem?_getD, show ((i : Int)).toNat = i by omega, List.getElem?_eq_getElem h]; rfl
      have ih := held_l1 l1 hl k (i + 1) (by omega) (by omega)
      have hc : F.purse_Purse_held.c1 (F.purse_Purse_held.l1 l1 k) l1 (i : Int) false = some (if ∃ y ∈ l1.take i, y.f1.1 = (getI l1 (i : Int)).f1.1 then 7 else heldGo (l1.take i ++ [getI l1 (i : Int)]) (l1.drop (i + 1))) := by
        unfold F.purse_Purse_held.c1
        rw [if_neg (by simp), if_pos (by omega), show (0 : Int) = ((0 : Nat) : Int) from rfl, held_l2 _ l1 i h hl fuel 0 (by omega) (by rw [fuel_eq]; omega), List.drop_zero, ih, ← ht]
        split <;> rfl
      have hct : F.purse_Purse_held.c1 (F.purse_Purse_held.l1 l1 k) l1 (i : Int) true = some 2 := by unfold F.purse_Purse_held.c1; rw [if_pos rfl]
      rw [if_pos (by simpa using h), if_pos (by omega), some_eq, Option.bind_some, side_eq, Option.bind_some, height_eq, Option.bind_some, h1]
      unfold heldGo
      unfold hOk
      by_cases h2 : 0 < (getI l1 (i : Int)).f2 ∧ (getI l1 (i : Int)).f2 ≤ 1125899906842624
      · by_cases h3 : 0 ≤ (getI l1 (i : Int)).f3 ∧ (getI l1 (i : Int)).f3 < 2
        · by_cases h4 : 0 ≤ (getI l1 (i : Int)).f4 ∧ (getI l1 (i : Int)).f4 ≤ 1099511627776
          · simp only [h2, h3, h4, and_self, decide_true, Bool.not_true, Bool.false_eq_true, if_false, if_true, hc]
          · simp only [h2, h3, h4, and_self, and_false, decide_true, decide_false, Bool.not_true, Bool.not_false, Bool.false_eq_true, if_false, hct]
        · simp only [h2, h3, and_self, false_and, and_false, decide_true, decide_false, Bool.not_true, Bool.not_false, Bool.false_eq_true, if_false, if_true, hct]
      · simp only [h2, false_and, decide_false, Bool.not_false, if_true, if_false, hct]
    · rw [if_neg (by simpa using h), List.drop_eq_nil_of_le (by omega)]; rfl

def heldR (l : List S_purse_Held) : Int := if l.length > 16 then 8 else heldGo [] l

theorem held_eq (d1 : Arr Int 8) (x1 : Int) (d2 : Arr Int 2) {l : List S_purse_Held} (hl : l.length ≤ 40) : F.purse_Purse_held d1 x1 d2 l = some (heldR l) := by
  unfold F.purse_Purse_held heldR
  by_cases h : l.length > 16
  · rw [if_pos (by simp; omega), if_pos h]
  · rw [if_neg (by simp; omega), if_neg h]
    have := held_l1 l hl fuel 0 (by omega) (by rw [fuel_eq]; omega)
    simpa using this

/-- May a purse be? An error's number. -/
def chk (x1 : Int) (d2 : Arr Int 2) (l : List S_purse_Held) : Int :=
  if (0 ≤ x1 ∧ x1 ≤ 1099511627776) ∧ Right (aget d2 0) ∧ Right (aget d2 1) then (if heldR l ≠ 0 then heldR l else (sumR (d2.1 ++ l.map (·.f2))).2) else 2

theorem Check_eq (d1 : Arr Int 8) (x1 : Int) (d2 : Arr Int 2) {l : List S_purse_Held} (hl : l.length ≤ 40) : F.purse_Purse_Check d1 x1 d2 l = some (chk x1 d2 l) := by
  have c1t : F.purse_Purse_Check.c1 d1 x1 d2 l true = some 2 := by unfold F.purse_Purse_Check.c1; rw [if_pos rfl]
  have c1f : F.purse_Purse_Check.c1 d1 x1 d2 l false = some (if heldR l ≠ 0 then heldR l else (sumR (d2.1 ++ l.map (·.f2))).2) := by
    unfold F.purse_Purse_Check.c1
    rw [if_neg (by simp), held_eq d1 x1 d2 hl, Option.bind_some]
    by_cases h : heldR l = 0
    · rw [if_neg (by simpa using h), if_neg (by simpa using h), amounts_eq d1 x1 d2 hl, Option.bind_some, Sum_eq (by simp [d2.2]; omega)]
      rfl
    · rw [if_pos (by simpa using h), if_pos h]
  unfold F.purse_Purse_Check chk
  rw [height_eq, Option.bind_some, Right_eq, Option.bind_some, Right_eq, Option.bind_some]
  by_cases h0 : 0 ≤ x1 ∧ x1 ≤ 1099511627776
  · by_cases h1 : Right (aget d2 0)
    · by_cases h2 : Right (aget d2 1)
      · simp [h0, h1, h2, c1f]
      · simp [h0, h1, h2, c1t]
    · simp [h0, h1, c1t]
  · simp [h0, c1t]

theorem Total_eq (d1 : Arr Int 8) (x1 : Int) (d2 : Arr Int 2) {l : List S_purse_Held} (hl : l.length ≤ 40) :
    F.purse_Purse_Total d1 x1 d2 l = some (if chk x1 d2 l ≠ 0 then 0 else (sumR (d2.1 ++ l.map (·.f2))).1) := by
  unfold F.purse_Purse_Total
  rw [Check_eq d1 x1 d2 hl, Option.bind_some]
  by_cases h : chk x1 d2 l = 0
  · rw [if_neg (by simpa using h), if_neg (by simpa using h), amounts_eq d1 x1 d2 hl, Option.bind_some, Sum_eq (by simp [d2.2]; omega)]
    rfl
  · rw [if_pos (by simpa using h), if_pos h]

/-! ### What a right purse has -/

theorem heldGo_ok : ∀ (r p : List S_purse_Held), heldGo p r = 0 → ∀ x ∈ r, hOk x
  | [], _, _ => by simp
  | x :: r, p, h => by
    unfold heldGo at h
    split at h
    · rename_i hx
      split at h
      · cases h
      · intro y hy
        rcases List.mem_cons.1 hy with rfl | hy
        · exact hx
        · exact heldGo_ok r _ h y hy
    · cases h

theorem chk_ok {x1 : Int} {d2 : Arr Int 2} {l : List S_purse_Held} (h : chk x1 d2 l = 0) :
    (0 ≤ x1 ∧ x1 ≤ 1099511627776) ∧ Right (aget d2 0) ∧ Right (aget d2 1) ∧ l.length ≤ 16 ∧ (∀ x ∈ l, hOk x) ∧ aget d2 0 + aget d2 1 + sumL (l.map (·.f2)) ≤ 1125899906842624 ∧
      sumR (d2.1 ++ l.map (·.f2)) = (aget d2 0 + aget d2 1 + sumL (l.map (·.f2)), 0) ∧ heldGo [] l = 0 := by
  unfold chk at h
  split at h
  case isFalse => cases h
  rename_i h0
  split at h
  case isTrue h1 => exact absurd h h1
  rename_i h1
  have hz : heldR l = 0 := by simpa using h1
  unfold heldR at hz
  split at hz
  · cases hz
  rename_i h16
  have e2 : sumL (d2.1 ++ l.map (·.f2)) = aget d2 0 + aget d2 1 + sumL (l.map (·.f2)) := by
    obtain ⟨d, hd⟩ := d2
    match d, hd with
    | [a, b], _ => simp only [List.cons_append, List.nil_append, sumL, aget]; show a + (b + _) = a + b + _; omega
  unfold sumR at h ⊢
  split at h
  · rename_i hs
    rw [if_pos hs, e2]
    rw [e2] at hs
    exact ⟨h0.1, h0.2.1, h0.2.2, by omega, heldGo_ok l [] hz, hs.2, rfl, hz⟩
  · cases h

/-- The held ones, as the program's. -/
def own1 (h : S_baizeref47_Held) : S_purse_Held := ⟨h.f1, h.f2, h.f3, h.f4⟩

theorem Own_l1 (d1 : Arr Int 8) (x1 : Int) (d2 : Arr Int 2) (l : List S_baizeref47_Held) (hl : l.length ≤ 40) : ∀ (k i : Nat) (a : List S_purse_Held), i ≤ l.length → l.length - i < k → a.length ≤ i →
    F.baizelaw47_Own.l1 d1 x1 d2 l k a (i : Int) = some (d1, x1, d2, a ++ (l.drop i).map own1)
  | k + 1, i, a, hi, hk, ha => by
    unfold F.baizelaw47_Own.l1
    by_cases h : i < l.length
    · have h1 := getI_drop (l := l) (i := (i : Int)) (by omega) (by omega)
      rw [show ((i : Int)).toNat = i by omega, show ((i : Int) + 1).toNat = i + 1 by omega] at h1
      have hw : IntKind.i64.wrap ((i : Int) + 1) = ((i + 1 : Nat) : Int) := by rw [wrap_id (by omega) (by omega)]; omega
      rw [if_pos (by simpa using h), if_pos (by omega), if_pos (by simp; omega), hw, Own_l1 d1 x1 d2 l hl k (i + 1) _ (by omega) (by omega) (by simp; omega), h1]
      simp [own1]
    · rw [if_neg (by simpa using h), List.drop_eq_nil_of_le (by omega)]; simp

theorem Own_eq (d1 : Arr Int 8) (x1 : Int) (d2 : Arr Int 2) {l : List S_baizeref47_Held} (hl : l.length ≤ 40) : F.baizelaw47_Own d1 x1 d2 l = some (d1, x1, d2, l.map own1) := by
  have := Own_l1 d1 x1 d2 l hl fuel 0 [] (by omega) (by rw [fuel_eq]; omega) (by simp)
  simpa [F.baizelaw47_Own] using this
end Go.Proofs.Yticlfbpmfejdoaa
