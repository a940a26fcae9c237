/-
  Plain facts of purses: which are the same, and what each side is paid, by the program and by the document.
-/
import Derived.Test.YticlfbpmfejdoaaPurseDeeds
namespace Go.Proofs.Yticlfbpmfejdoaa
open Go.Lab
set_option maxRecDepth 10000

instance : DecidableEq S_purse_Held := fun a b =>
  decidable_of_iff (a.f1 = b.f1 ∧ a.f2 = b.f2 ∧ a.f3 = b.f3 ∧ a.f4 = b.f4) (by
    obtain ⟨a1, a2, a3, a4⟩ := a
    obtain ⟨b1, b2, b3, b4⟩ := b
    simp)

theorem Equal_l1 (l1 l2 : List S_purse_Held) (he : l1.length = l2.length) (hl : l1.length ≤ 100) : ∀ (k i : Nat), l1.length - i < k → F.slices_Equal_purse_Held_purse_Held.l1 l1 l2 k (i : Int) = some (decide (l1.drop i = l2.drop i))
  | 0, _, h => absurd h (by omega)
  | k + 1, i, h => by
    unfold F.slices_Equal_purse_Held_purse_Held.l1
    by_cases hi : i < l1.length
    · rw [if_pos (by simpa using hi), if_pos (by omega), if_pos (by omega)]
      have h1 := getI_drop (l := l1) (i := (i : Int)) (by omega) (by omega)
      have h2 := getI_drop (l := l2) (i := (i : Int)) (by omega) (by omega)
      have hw : IntKind.i64.wrap ((i : Int) + 1) = ((i + 1 : Nat) : Int) := by rw [wrap_id (by omega) (by omega)]; omega
      rw [show ((i : Int)).toNat = i by omega, show ((i : Int) + 1).toNat = i + 1 by omega] at h1 h2
      rw [h1, h2, hw, Equal_l1 l1 l2 he hl k (i + 1) (by omega)]
      generalize getI l1 (i : Int) = a
      generalize getI l2 (i : Int) = b
      obtain ⟨a1, a2, a3, a4⟩ := a
      obtain ⟨b1, b2, b3, b4⟩ := b
      have hd : (a1.1 == b1.1) = decide (a1 = b1) := by
        by_cases h : a1 = b1
        · subst h; simp
        · have : a1.1 ≠ b1.1 := fun q => h (Subtype.ext q)
          simp [h, this]
      simp only [hd]
      by_cases c1 : a1 = b1 <;> by_cases c2 : a2 = b2 <;> by_cases c3 : a3 = b3 <;> by_cases c4 : a4 = b4 <;> simp [c1, c2, c3, c4]
    · rw [if_neg (by simpa using hi), List.drop_eq_nil_of_le (by omega), List.drop_eq_nil_of_le (by omega)]
      simp

theorem pSame_eq (d1 : Arr Int 8) (x1 : Int) (d2 : Arr Int 2) {l1 : List S_purse_Held} (d3 : Arr Int 8) (x2 : Int) (d4 : Arr Int 2) (l2 : List S_purse_Held) (hl : l1.length ≤ 100) :
    F.purse_Same d1 x1 d2 l1 d3 x2 d4 l2 = some (decide (d1 = d3 ∧ x1 = x2 ∧ d2 = d4 ∧ l1 = l2)) := by
  have hE : F.slices_Equal_purse_Held_purse_Held l1 l2 = some (decide (l1 = l2)) := by
    unfold F.slices_Equal_purse_Held_purse_Held
    by_cases he : l1.length = l2.length
    · rw [if_neg (by simp; omega)]
      have := Equal_l1 l1 l2 he hl fuel 0 (by rw [fuel_eq]; omega)
      simpa using this
    · rw [if_pos (by simp; omega)]
      have : l1 ≠ l2 := fun h => he (by rw [h])
      simp [this]
  unfold F.purse_Same F.purse_Same.c1
  rw [hE, Option.bind_some]
  have hd : (d1.1 == d3.1) = decide (d1 = d3) := by
    by_cases h : d1 = d3
    · subst h; simp
    · have : d1.1 ≠ d3.1 := fun q => h (Subtype.ext q)
      simp [h, this]
  have hd2 : (d2.1 == d4.1) = decide (d2 = d4) := by
    by_cases h : d2 = d4
    · subst h; simp
    · have : d2.1 ≠ d4.1 := fun q => h (Subtype.ext q)
      simp [h, this]
  rw [hd, hd2]
  by_cases a1 : d1 = d3 <;> by_cases a2 : x1 = x2 <;> by_cases a3 : d2 = d4 <;> simp [a1, a2, a3]

def backS (s now : Int) : List S_purse_Held → Int
  | [] => 0
  | x :: r => (if x.f4 < now ∧ x.f3 = s then x.f2 else 0) + backS s now r

def outS (now : Int) : List S_purse_Held → Int
  | [] => 0
  | x :: r => (if x.f4 < now then 0 else x.f2) + outS now r

def mk3 (a b c : Int) : Arr Int 3 := ⟨[a, b, c], rfl⟩

theorem back_bounds (now : Int) : ∀ {l : List S_purse_Held}, (∀ x ∈ l, hOk x) → 0 ≤ backS 0 now l ∧ 0 ≤ backS 1 now l ∧ 0 ≤ outS now l ∧ backS 0 now l + backS 1 now l + outS now l = sumL (l.map (·.f2))
  | [], _ => by simp [backS, outS, sumL]
  | x :: r, h => by
    have ih := back_bounds now (l := r) (fun y hy => h y (by simp [hy]))
    have hx := h x (by simp)
    unfold hOk at hx
    simp only [backS, outS, List.map_cons, sumL]
    split <;> split <;> split <;> omega

theorem pays_l1 (l : List S_purse_Held) (now : Int) (hl : l.length ≤ 40) (hok : ∀ x ∈ l, hOk x) : ∀ (k i : Nat) (a b c : Int), i ≤ l.length → l.length - i < k → 0 ≤ a → 0 ≤ b → 0 ≤ c → a + b + c + sumL ((l.drop i).map (·.f2)) ≤ 1125899906842624 →
    F.purse_Purse_Pays.l1 l now k (mk3 a b c) (i : Int) = some (mk3 (a + backS 0 now (l.drop i)) (b + backS 1 now (l.drop i)) (c + outS now (l.drop i)))
  | k + 1, i, a, b, c, hi, hk, ha, hb, hc, hs => by
    unfold F.purse_Purse_Pays.l1
    by_cases h : i < l.length
    · have h1 := getI_drop (l := l) (i := (i : Int)) (by omega) (by omega)
      have hm := getI_mem (l := l) (i := (i : Int)) (by omega) (by omega)
      rw [show ((i : Int)).toNat = i by omega, show ((i : Int) + 1).toNat = i + 1 by omega] at h1
      have hw : IntKind.i64.wrap ((i : Int) + 1) = ((i + 1 : Nat) : Int) := by rw [wrap_id (by omega) (by omega)]; omega
      rw [if_pos (by simpa using h), if_pos (by omega), h1]
      rw [h1] at hs
      generalize getI l (i : Int) = x at hm hs ⊢
      have hx := hok x hm
      unfold hOk at hx
      have hr := sumL_nonneg (l := (l.drop (i + 1)).map (·.f2)) (by
        intro y hy
        obtain ⟨z, hz, rfl⟩ := List.mem_map.1 hy
        have := hok z (List.mem_of_mem_drop hz)
        unfold hOk at this; omega)
      simp only [List.map_cons, sumL] at hs
      unfold F.purse_Purse_Pays.c1
      rw [hw]
      by_cases h4 : x.f4 < now
      · rw [if_pos (by simpa using h4), if_pos (by omega), if_pos (by omega)]
        by_cases h3 : x.f3 = 0
        · rw [h3]
          rw [show aget (mk3 a b c) 0 = a from rfl, wrap_id (x := a + x.f2) (by omega) (by omega), show aset (mk3 a b c) 0 (a + x.f2) = mk3 (a + x.f2) b c from rfl]
          rw [pays_l1 l now hl hok k (i + 1) (a + x.f2) b c (by omega) (by omega) (by omega) hb hc (by omega)]
          simp only [backS, outS]
          rw [if_pos ⟨h4, h3⟩, if_neg (by omega), if_pos h4]
          simp only [Int.zero_add, Int.add_assoc]
        · have h31 : x.f3 = 1 := by omega
          rw [h31]
          rw [show aget (mk3 a b c) 1 = b from rfl, wrap_id (x := b + x.f2) (by omega) (by omega), show aset (mk3 a b c) 1 (b + x.f2) = mk3 a (b + x.f2) c from rfl]
          rw [pays_l1 l now hl hok k (i + 1) a (b + x.f2) c (by omega) (by omega) ha (by omega) hc (by omega)]
          simp only [backS, outS]
          rw [if_neg (by omega), if_pos ⟨h4, h31⟩, if_pos h4]
          simp only [Int.zero_add, Int.add_assoc]
      · rw [if_neg (by simpa using h4)]
        rw [show aget (mk3 a b c) 2 = c from rfl, wrap_id (x := c + x.f2) (by omega) (by omega), show aset (mk3 a b c) 2 (c + x.f2) = mk3 a b (c + x.f2) from rfl]
        rw [pays_l1 l now hl hok k (i + 1) a b (c + x.f2) (by omega) (by omega) ha hb (by omega) (by omega)]
        simp only [backS, outS]
        rw [if_neg (by omega), if_neg (by omega), if_neg h4]
        simp only [Int.zero_add, Int.add_assoc]
    · rw [if_neg (by simpa using h), List.drop_eq_nil_of_le (by omega)]
      simp [backS, outS]

theorem Pays_eq (d1 : Arr Int 8) (x1 : Int) (d2 : Arr Int 2) {l : List S_purse_Held} (hl : l.length ≤ 40) (now : Int) :
    F.purse_Purse_Pays d1 x1 d2 l now = some (if chk x1 d2 l = 0 then mk3 (aget d2 0 + backS 0 now l) (aget d2 1 + backS 1 now l) (outS now l) else zA 3) := by
  unfold F.purse_Purse_Pays
  rw [Check_eq d1 x1 d2 hl, Option.bind_some]
  by_cases h : chk x1 d2 l = 0
  · obtain ⟨_, h0, h1, _, hok, hs, _⟩ := chk_ok h
    rw [if_neg (by simpa using h), if_pos h]
    have := pays_l1 l now hl hok fuel 0 (aget d2 0) (aget d2 1) 0 (by omega) (by rw [fuel_eq]; omega) h0.1 h1.1 (Int.le_refl _) (by rw [List.drop_zero]; omega)
    show F.purse_Purse_Pays.l1 l now fuel (mk3 (aget d2 0) (aget d2 1) 0) 0 = _
    simpa using this
  · rw [if_pos (by simpa using h), if_neg h]

theorem getI_map (r : List S_baizeref47_Held) {i : Int} (h0 : 0 ≤ i) (h1 : i < (r.length : Int)) : getI (r.map own1) i = own1 (getI r i) := by
  have hlt : i.toNat < r.length := by omega
  unfold getI
  rw [List.getD_eq_getElem?_getD, List.getD_eq_getElem?_getD, List.getElem?_map, List.getElem?_eq_getElem hlt]
  rfl

/-! ### The document's Total, Pays, Same -/

theorem ref_total_l1 (l : List S_baizeref47_Held) (hok : ∀ x ∈ l.map own1, hOk x) : ∀ (k i : Nat) (a : Int), i ≤ l.length → l.length - i < k → l.length ≤ 40 → 0 ≤ a → a + sumL (((l.drop i).map own1).map (·.f2)) ≤ 1125899906842624 →
    F.baizeref47_Total.l1 l k a (i : Int) = some (a + sumL (((l.drop i).map own1).map (·.f2)))
  | k + 1, i, a, hi, hk, hl, ha, hs => by
    unfold F.baizeref47_Total.l1
    by_cases h : i < l.length
    · have h1 := getI_drop (l := l) (i := (i : Int)) (by omega) (by omega)
      have hm := getI_mem (l := l) (i := (i : Int)) (by omega) (by omega)
      rw [show ((i : Int)).toNat = i by omega, show ((i : Int) + 1).toNat = i + 1 by omega] at h1
      have hw : IntKind.i64.wrap ((i : Int) + 1) = ((i + 1 : Nat) : Int) := by rw [wrap_id (by omega) (by omega)]; omega
      rw [if_pos (by simpa using h), if_pos (by omega), h1, hw]
      rw [h1] at hs
      generalize getI l (i : Int) = x at hm hs ⊢
      have hx := hok (own1 x) (List.mem_map_of_mem hm)
      unfold hOk at hx
      have hr := sumL_nonneg (l := ((l.drop (i + 1)).map own1).map (·.f2)) (by
        intro y hy
        obtain ⟨z, hz, rfl⟩ := List.mem_map.1 hy
        have := hok z (by obtain ⟨u, hu, rfl⟩ := List.mem_map.1 hz; exact List.mem_map_of_mem (List.mem_of_mem_drop hu))
        unfold hOk at this; omega)
      simp only [List.map_cons, sumL] at hs ⊢
      have e2 : (own1 x).f2 = x.f2 := rfl
      rw [e2] at hs hx ⊢
      rw [wrap_id (by omega) (by omega), ref_total_l1 l hok k (i + 1) _ (by omega) (by omega) hl (by omega) (by omega)]
      congr 1; omega
    · rw [if_neg (by simpa using h), List.drop_eq_nil_of_le (by omega)]
      simp [sumL]

theorem rTotal_eq (d1 : Arr Int 8) (x1 : Int) (d2 : Arr Int 2) {l : List S_baizeref47_Held} (hl : l.length ≤ 40) :
    F.baizeref47_Total d1 x1 d2 l = some (if chk x1 d2 (l.map own1) ≠ 0 then 0 else (sumR (d2.1 ++ (l.map own1).map (·.f2))).1) := by
  unfold F.baizeref47_Total
  rw [rCheck_eq d1 x1 d2 hl, Option.bind_some]
  by_cases h : chk x1 d2 (l.map own1) = 0
  · obtain ⟨_, h0, h1, _, hok, hs, hq, _⟩ := chk_ok h
    unfold Right at h0 h1
    rw [if_neg (by simpa using h), if_neg (by simpa using h), hq, wrap_id (by omega) (by omega)]
    have := ref_total_l1 l hok fuel 0 (aget d2 0 + aget d2 1) (by omega) (by rw [fuel_eq]; omega) hl (by omega) (by rw [List.drop_zero]; exact hs)
    simpa using this
  · rw [if_pos (by simpa using h), if_pos h]

theorem ref_pays_l1 (l : List S_baizeref47_Held) (now : Int) (hl : l.length ≤ 40) (hok : ∀ x ∈ l.map own1, hOk x) : ∀ (k i : Nat) (d : Arr Int 3), l.length - i < k →
    F.baizeref47_Pays.l1 l now k d (i : Int) = F.purse_Purse_Pays.l1 (l.map own1) now k d (i : Int)
  | k + 1, i, d, hk => by
    unfold F.baizeref47_Pays.l1 F.purse_Purse_Pays.l1
    rw [List.length_map]
    by_cases h : i < l.length
    · have hw : IntKind.i64.wrap ((i : Int) + 1) = ((i + 1 : Nat) : Int) := by rw [wrap_id (by omega) (by omega)]; omega
      have hm := getI_mem (l := l) (i := (i : Int)) (by omega) (by omega)
      conv => lhs; rw [if_pos (by simpa using h), if_pos (by omega)]
      conv => rhs; rw [if_pos (by simpa using h), if_pos (by omega), getI_map l (by omega) (by omega)]
      unfold F.baizeref47_Pays.c1 F.purse_Purse_Pays.c1
      rw [hw]
      have ih := fun d => ref_pays_l1 l now hl hok k (i + 1) d (by omega)
      have hx := hok (own1 (getI l (i : Int))) (List.mem_map_of_mem hm)
      unfold hOk at hx
      generalize getI l (i : Int) = x at hx ⊢
      show _ = if decide (x.f4 < now) = true then (if 0 ≤ x.f3 ∧ x.f3 < 3 then (if 0 ≤ x.f3 ∧ x.f3 < 3 then _ else _) else _) else _
      have hx3 : 0 ≤ x.f3 ∧ x.f3 < 3 := by have : (own1 x).f3 = x.f3 := rfl; omega
      simp only [if_pos hx3, ih]
      rfl
    · rw [if_neg (by simpa using h), if_neg (by simpa using h)]

theorem rPays_eq (d1 : Arr Int 8) (x1 : Int) (d2 : Arr Int 2) {l : List S_baizeref47_Held} (hl : l.length ≤ 40) (now : Int) :
    F.baizeref47_Pays d1 x1 d2 l now = F.purse_Purse_Pays d1 x1 d2 (l.map own1) now := by
  unfold F.baizeref47_Pays F.purse_Purse_Pays
  rw [rCheck_eq d1 x1 d2 hl, Check_eq d1 x1 d2 (by rw [List.length_map]; exact hl), Option.bind_some, Option.bind_some]
  by_cases h : chk x1 d2 (l.map own1) = 0
  · rw [if_neg (by simpa using h), if_neg (by simpa using h)]
    exact ref_pays_l1 l now hl (chk_ok h).2.2.2.2.1 fuel 0 _ (by rw [fuel_eq]; omega)
  · rw [if_pos (by simpa using h), if_pos (by simpa using h)]

theorem ref_same_l1 (l1 l2 : List S_baizeref47_Held) (he : l1.length = l2.length) (hl : l1.length ≤ 40) : ∀ (k i : Nat), l1.length - i < k → F.baizeref47_Same.l1 l1 l2 k (i : Int) = some (decide ((l1.map own1).drop i = (l2.map own1).drop i))
  | k + 1, i, hk => by
    unfold F.baizeref47_Same.l1
    by_cases hi : i < l1.length
    · rw [if_pos (by simpa using hi), if_pos (by omega), if_pos (by omega)]
      have h1 := getI_drop (l := l1) (i := (i : Int)) (by omega) (by omega)
      have h2 := getI_drop (l := l2) (i := (i : Int)) (by omega) (by omega)
      have hw : IntKind.i64.wrap ((i : Int) + 1) = ((i + 1 : Nat) : Int) := by rw [wrap_id (by omega) (by omega)]; omega
      rw [show ((i : Int)).toNat = i by omega, show ((i : Int) + 1).toNat = i + 1 by omega] at h1 h2
      rw [hw, ref_same_l1 l1 l2 he hl k (i + 1) (by omega), ← List.map_drop, ← List.map_drop, ← List.map_drop, ← List.map_drop, h1, h2, List.map_cons, List.map_cons]
      generalize getI l1 (i : Int) = a
      generalize getI l2 (i : Int) = b
      obtain ⟨a1, a2, a3, a4⟩ := a
      obtain ⟨b1, b2, b3, b4⟩ := b
      have hd : (a1.1 == b1.1) = decide (a1 = b1) := by
        by_cases h : a1 = b1
        · subst h; simp
        · have : a1.1 ≠ b1.1 := fun q => h (Subtype.ext q)
          simp [h, this]
      simp only [hd, own1]
      by_cases c1 : a1 = b1 <;> by_cases c2 : a2 = b2 <;> by_cases c3 : a3 = b3 <;> by_cases c4 : a4 = b4 <;> simp [c1, c2, c3, c4]
    · rw [if_neg (by simpa using hi), List.drop_eq_nil_of_le (by rw [List.length_map]; omega), List.drop_eq_nil_of_le (by rw [List.length_map]; omega)]
      simp

theorem own1_inj {a b : S_baizeref47_Held} (h : own1 a = own1 b) : a = b := by
  have := congrArg own2 h; exact this

theorem rSame_eq (d1 : Arr Int 8) (x1 : Int) (d2 : Arr Int 2) {l1 : List S_baizeref47_Held} (d3 : Arr Int 8) (x2 : Int) (d4 : Arr Int 2) (l2 : List S_baizeref47_Held) (hl : l1.length ≤ 40) :
    F.baizeref47_Same d1 x1 d2 l1 d3 x2 d4 l2 = some (decide (d1 = d3 ∧ x1 = x2 ∧ d2 = d4 ∧ l1.map own1 = l2.map own1)) := by
  have hE : (if ((l1.length : Int) != (l2.length : Int)) = true then some false else F.baizeref47_Same.l1 l1 l2 fuel 0) = some (decide (l1.map own1 = l2.map own1)) := by
    by_cases he : l1.length = l2.length
    · rw [if_neg (by simp; omega)]
      have := ref_same_l1 l1 l2 he hl fuel 0 (by rw [fuel_eq]; omega)
      simpa using this
    · rw [if_pos (by simp; omega)]
      have : l1.map own1 ≠ l2.map own1 := fun h => he (by have := congrArg List.length h; simpa using this)
      simp [this]
  unfold F.baizeref47_Same F.baizeref47_Same.c1
  rw [hE]
  have hd : (d1.1 == d3.1) = decide (d1 = d3) := by
    by_cases h : d1 = d3
    · subst h; simp
    · have : d1.1 ≠ d3.1 := fun q => h (Subtype.ext q)
      simp [h, this]
  have hd2 : (d2.1 == d4.1) = decide (d2 = d4) := by
    by_cases h : d2 = d4
    · subst h; simp
    · have : d2.1 ≠ d4.1 := fun q => h (Subtype.ext q)
      simp [h, this]
  rw [hd, hd2]
  by_cases a1 : d1 = d3 <;> by_cases a2 : x1 = x2 <;> by_cases a3 : d2 = d4 <;> simp [a1, a2, a3]
end Go.Proofs.Yticlfbpmfejdoaa
