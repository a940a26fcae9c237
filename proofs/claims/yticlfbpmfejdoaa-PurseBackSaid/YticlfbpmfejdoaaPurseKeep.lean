/-
  Plain facts of purses: whatever is done a right purse stays right, and its total stays.
-/
import Derived.Test.YticlfbpmfejdoaaPurseDeeds3
namespace Go.Proofs.Yticlfbpmfejdoaa
open Go.Lab
set_option maxRecDepth 10000

theorem heldGo_iff : ∀ (r p : List S_purse_Held), heldGo p r = 0 ↔ (∀ x ∈ r, hOk x) ∧ r.Pairwise (fun x y => x.f1.1 ≠ y.f1.1) ∧ ∀ x ∈ r, ∀ y ∈ p, y.f1.1 ≠ x.f1.1
  | [], p => by simp [heldGo]
  | x :: r, p => by
    unfold heldGo
    by_cases hx : hOk x
    case neg => rw [if_neg hx]; simp [hx]
    rw [if_pos hx]
    by_cases hp : ∃ y ∈ p, y.f1.1 = x.f1.1
    · rw [if_pos hp]
      constructor
      · intro h; cases h
      · rintro ⟨_, _, h⟩
        obtain ⟨y, hy, he⟩ := hp
        exact absurd he (h x (by simp) y hy)
    · rw [if_neg hp, heldGo_iff r (p ++ [x])]
      constructor
      · rintro ⟨h1, h2, h3⟩
        refine ⟨fun y hy => ?_, List.pairwise_cons.2 ⟨fun y hy => h3 y hy x (by simp), h2⟩, fun y hy z hz => ?_⟩
        · rcases List.mem_cons.1 hy with rfl | hy
          · exact hx
          · exact h1 y hy
        · rcases List.mem_cons.1 hy with rfl | hy
          · exact fun he => hp ⟨z, hz, he⟩
          · exact h3 y hy z (by simp [hz])
      · rintro ⟨h1, h2, h3⟩
        obtain ⟨h4, h5⟩ := List.pairwise_cons.1 h2
        refine ⟨fun y hy => h1 y (by simp [hy]), h5, fun y hy z hz => ?_⟩
        rcases List.mem_append.1 hz with hz | hz
        · exact h3 y (by simp [hy]) z hz
        · simp at hz; subst hz; exact h4 y hy

/-- All that a purse has. -/
def tot (d2 : Arr Int 2) (l : List S_purse_Held) : Int := aget d2 0 + aget d2 1 + sumL (l.map (·.f2))

/-- What makes a purse right. -/
def Ok (x1 : Int) (d2 : Arr Int 2) (l : List S_purse_Held) : Prop :=
  (0 ≤ x1 ∧ x1 ≤ 1099511627776) ∧ 0 ≤ aget d2 0 ∧ 0 ≤ aget d2 1 ∧ l.length ≤ 16 ∧ (∀ x ∈ l, hOk x) ∧ l.Pairwise (fun x y => x.f1.1 ≠ y.f1.1) ∧ tot d2 l ≤ 1125899906842624

theorem chk_iff {x1 : Int} {d2 : Arr Int 2} {l : List S_purse_Held} : chk x1 d2 l = 0 ↔ Ok x1 d2 l := by
  constructor
  · intro h
    obtain ⟨h1, h2, h3, h4, h5, h6, _, h7⟩ := chk_ok h
    unfold Right at h2 h3
    exact ⟨h1, h2.1, h3.1, h4, h5, ((heldGo_iff l []).1 h7).2.1, h6⟩
  · rintro ⟨h1, h2, h3, h4, h5, h6, h7⟩
    have hs : 0 ≤ sumL (l.map (·.f2)) := sumL_nonneg (by
      intro y hy
      obtain ⟨z, hz, rfl⟩ := List.mem_map.1 hy
      have := h5 z hz
      unfold hOk at this; omega)
    have hg : heldGo [] l = 0 := (heldGo_iff l []).2 ⟨h5, h6, by simp⟩
    have hh : heldR l = 0 := by unfold heldR; rw [if_neg (by omega), hg]
    unfold tot at h7
    have e2 : sumL (d2.1 ++ l.map (·.f2)) = aget d2 0 + aget d2 1 + sumL (l.map (·.f2)) := by
      rw [arr2 d2]
      show sumL ([aget d2 0, aget d2 1] ++ _) = _
      simp only [List.cons_append, List.nil_append, sumL]
      show _ = aget d2 0 + aget d2 1 + _
      omega
    have hall : ∀ x ∈ d2.1 ++ l.map (·.f2), 0 ≤ x := by
      intro x hx
      rcases List.mem_append.1 hx with hx | hx
      · rw [arr2 d2] at hx
        have : x = aget d2 0 ∨ x = aget d2 1 := by simpa [mk2] using hx
        omega
      · obtain ⟨y, hy, rfl⟩ := List.mem_map.1 hx
        have := h5 y hy
        unfold hOk at this; omega
    unfold chk
    rw [if_pos ⟨h1, by unfold Right; omega, by unfold Right; omega⟩, if_neg (by simpa using hh)]
    unfold sumR
    rw [e2, if_pos ⟨hall, h7⟩]

theorem list_split {l : List S_purse_Held} {i : Int} (h0 : 0 ≤ i) (h1 : i < (l.length : Int)) : l = l.take i.toNat ++ (getI l i :: l.drop (i.toNat + 1)) := by
  have h := getI_drop h0 h1
  rw [show (i + 1).toNat = i.toNat + 1 by omega] at h
  rw [← h, List.take_append_drop]

theorem without_sum {l : List S_purse_Held} {i : Int} (h0 : 0 ≤ i) (h1 : i < (l.length : Int)) : sumL ((without l i).map (·.f2)) + (getI l i).f2 = sumL (l.map (·.f2)) := by
  conv => rhs; rw [list_split h0 h1]
  unfold without
  simp only [List.map_append, sumL_append, List.map_cons, sumL]
  omega

theorem without_sub (l : List S_purse_Held) (i : Int) : (without l i).Sublist l := by
  unfold without
  have h : (l.drop (i.toNat + 1)).Sublist (l.drop i.toNat) := by rw [← List.drop_drop]; exact List.drop_sublist _ _
  have := (List.Sublist.refl (l.take i.toNat)).append h
  rwa [List.take_append_drop] at this

theorem mv_get (d : Arr Int 2) (s u v : Int) (hs : s = 0 ∨ s = 1) : aget (mv d s u v) s = aget d s + u ∧ aget (mv d s u v) (1 - s) = aget d (1 - s) + v ∧ aget (mv d s u v) 0 + aget (mv d s u v) 1 = aget d 0 + aget d 1 + u + v := by
  unfold mv
  rcases hs with rfl | rfl
  · rw [if_pos rfl, show (1 : Int) - 0 = 1 from rfl, (aget_mk2 _ _).1, (aget_mk2 _ _).2]; exact ⟨rfl, rfl, by omega⟩
  · rw [if_neg (by decide), show (1 : Int) - 1 = 0 from rfl, (aget_mk2 _ _).1, (aget_mk2 _ _).2]; exact ⟨rfl, rfl, by omega⟩

theorem mv_nonneg {d : Arr Int 2} {s u v : Int} (hs : s = 0 ∨ s = 1) (h0 : 0 ≤ aget d s + u) (h1 : 0 ≤ aget d (1 - s) + v) : 0 ≤ aget (mv d s u v) 0 ∧ 0 ≤ aget (mv d s u v) 1 := by
  obtain ⟨a, b, _⟩ := mv_get d s u v hs
  rcases hs with rfl | rfl
  · rw [show (1 : Int) - 0 = 1 from rfl] at b h1; omega
  · rw [show (1 : Int) - 1 = 0 from rfl] at b h1; omega

theorem get_nonneg {x1 : Int} {d2 : Arr Int 2} {l : List S_purse_Held} (h : Ok x1 d2 l) {s : Int} (hs : s = 0 ∨ s = 1) : 0 ≤ aget d2 s ∧ 0 ≤ aget d2 (1 - s) := by
  rcases hs with rfl | rfl
  · exact ⟨h.2.1, h.2.2.1⟩
  · exact ⟨h.2.2.1, h.2.1⟩

theorem pay_ok {x1 : Int} {d2 : Arr Int 2} {l : List S_purse_Held} (h : Ok x1 d2 l) (hx : x1 ≠ 1099511627776) {s amt : Int} (he : payE d2 s amt = 0) :
    Ok (x1 + 1) (mv d2 s (-amt) amt) l ∧ tot (mv d2 s (-amt) amt) l = tot d2 l := by
  unfold payE at he
  split at he
  · cases he
  split at he
  · cases he
  split at he
  · cases he
  rename_i h1 h2 h3
  have hs : s = 0 ∨ s = 1 := by omega
  obtain ⟨g0, g1⟩ := get_nonneg h hs
  have hm := mv_get d2 s (-amt) amt hs
  have hn := mv_nonneg (d := d2) (u := -amt) (v := amt) hs (by omega) (by omega)
  obtain ⟨b1, b2, b3, b4, b5, b6, b7⟩ := h
  have ht : tot (mv d2 s (-amt) amt) l = tot d2 l := by unfold tot; omega
  exact ⟨⟨by omega, hn.1, hn.2, b4, b5, b6, by omega⟩, ht⟩

theorem hold_ok {x1 : Int} {d2 : Arr Int 2} {l : List S_purse_Held} (h : Ok x1 d2 l) (hx : x1 ≠ 1099511627776) {y : S_purse_Held} (he : holdE d2 l y = 0) :
    Ok (x1 + 1) (mv d2 y.f3 (-y.f2) 0) (l ++ [y]) ∧ tot (mv d2 y.f3 (-y.f2) 0) (l ++ [y]) = tot d2 l ∧ (∀ z ∈ l, z.f1.1 ≠ y.f1.1) ∧ hOk y := by
  unfold holdE at he
  split at he
  · cases he
  split at he
  · cases he
  split at he
  · cases he
  split at he
  · cases he
  split at he
  · cases he
  rename_i h1 h2 h3 h4 h5
  have hs : y.f3 = 0 ∨ y.f3 = 1 := by omega
  have hy : hOk y := ⟨by omega, by omega, by omega⟩
  have hnm : ∀ z ∈ l, z.f1.1 ≠ y.f1.1 := fun z hz he => h3 (plcI_pos.2 ⟨z, hz, he⟩)
  obtain ⟨g0, g1⟩ := get_nonneg h hs
  have hm := mv_get d2 y.f3 (-y.f2) 0 hs
  have hn := mv_nonneg (d := d2) (u := -y.f2) (v := 0) hs (by omega) (by omega)
  obtain ⟨b1, b2, b3, b4, b5, b6, b7⟩ := h
  have ht : tot (mv d2 y.f3 (-y.f2) 0) (l ++ [y]) = tot d2 l := by
    unfold tot
    rw [List.map_append, sumL_append]
    simp only [List.map_cons, List.map_nil, sumL]; omega
  refine ⟨⟨by omega, hn.1, hn.2, by simp; omega, ?_, ?_, by omega⟩, ht, hnm, hy⟩
  · intro z hz
    rcases List.mem_append.1 hz with hz | hz
    · exact b5 z hz
    · simp at hz; subst hz; exact hy
  · rw [List.pairwise_append]
    refine ⟨b6, by simp, fun z hz w hw => ?_⟩
    simp at hw; subst hw; exact hnm z hz

theorem part_ok {x1 : Int} {d2 : Arr Int 2} {l : List S_purse_Held} (h : Ok x1 d2 l) (hx : x1 ≠ 1099511627776) {i over : Int} (h0 : 0 ≤ i) (h1 : i < (l.length : Int)) (ho : 0 ≤ over ∧ over ≤ (getI l i).f2) :
    Ok (x1 + 1) (partD d2 (getI l i) over) (without l i) ∧ tot (partD d2 (getI l i) over) (without l i) = tot d2 l := by
  have hy := h.2.2.2.2.1 _ (getI_mem h0 h1)
  have hsum := without_sum h0 h1
  have hsub := without_sub l i
  unfold partD
  generalize getI l i = y at *
  unfold hOk at hy
  have hs : y.f3 = 0 ∨ y.f3 = 1 := by omega
  obtain ⟨g0, g1⟩ := get_nonneg h hs
  have hm := mv_get d2 y.f3 (y.f2 - over) over hs
  have hn := mv_nonneg (d := d2) (u := y.f2 - over) (v := over) hs (by omega) (by omega)
  obtain ⟨b1, b2, b3, b4, b5, b6, b7⟩ := h
  have ht : tot (mv d2 y.f3 (y.f2 - over) over) (without l i) = tot d2 l := by unfold tot; omega
  exact ⟨⟨by omega, hn.1, hn.2, by have := hsub.length_le; omega, fun z hz => b5 z (hsub.subset hz), b6.sublist hsub, by omega⟩, ht⟩

theorem fin_keeps {d1 : Arr Int 8} {x1 : Int} {d2 : Arr Int 2} {l : List S_purse_Held} {e : Int} {d2' : Arr Int 2} {l' : List S_purse_Held}
    (h : Ok x1 d2 l → x1 ≠ 1099511627776 → e = 0 → Ok (x1 + 1) d2' l' ∧ tot d2' l' = tot d2 l) :
    ((fin d1 x1 d2 l e d2' l').2.2.2.2 ≠ 0 ∧ fin d1 x1 d2 l e d2' l' = zr (fin d1 x1 d2 l e d2' l').2.2.2.2) ∨
      (Ok x1 d2 l ∧ x1 ≠ 1099511627776 ∧ e = 0 ∧ fin d1 x1 d2 l e d2' l' = (d1, x1 + 1, d2', l', 0) ∧ Ok (x1 + 1) d2' l' ∧ tot d2' l' = tot d2 l) := by
  unfold fin
  by_cases hc : chk x1 d2 l = 0
  case neg => rw [if_pos hc]; exact .inl ⟨by simp [zr], rfl⟩
  rw [if_neg (show ¬ (chk x1 d2 l ≠ 0) by simpa using hc)]
  by_cases hx : x1 = 1099511627776
  · rw [if_pos hx]; exact .inl ⟨by simp [zr], rfl⟩
  rw [if_neg hx]
  by_cases he : e = 0
  case neg => rw [if_pos he]; exact .inl ⟨by simpa [zr] using he, rfl⟩
  rw [if_neg (show ¬ (e ≠ 0) by simpa using he)]
  obtain ⟨a, b⟩ := h (chk_iff.1 hc) hx he
  exact .inr ⟨chk_iff.1 hc, hx, he, rfl, a, b⟩

theorem free_ok {x1 : Int} {d2 : Arr Int 2} {l : List S_purse_Held} (h : Ok x1 d2 l) (hx : x1 ≠ 1099511627776) {n : List Int} {over : Int} (he : freeE l n over = 0) :
    Ok (x1 + 1) (partD d2 (getI l (plcI l n)) over) (without l (plcI l n)) ∧ tot (partD d2 (getI l (plcI l n)) over) (without l (plcI l n)) = tot d2 l := by
  unfold freeE at he
  split at he
  · cases he
  split at he
  · cases he
  rename_i h1 h2
  obtain ⟨p0, p1⟩ := plcI_lt h1
  exact part_ok h hx p0 p1 (by omega)

theorem back_ok {x1 : Int} {d2 : Arr Int 2} {l : List S_purse_Held} (h : Ok x1 d2 l) (hx : x1 ≠ 1099511627776) {n : List Int} {now : Int} (he : backE l n now = 0) :
    Ok (x1 + 1) (partD d2 (getI l (plcI l n)) 0) (without l (plcI l n)) ∧ tot (partD d2 (getI l (plcI l n)) 0) (without l (plcI l n)) = tot d2 l := by
  unfold backE at he
  split at he
  · cases he
  split at he
  · cases he
  rename_i h1 h2
  obtain ⟨p0, p1⟩ := plcI_lt h1
  have hy := h.2.2.2.2.1 _ (getI_mem p0 p1)
  unfold hOk at hy
  exact part_ok h hx p0 p1 (by omega)

theorem deed_keeps (d1 : Arr Int 8) (x1 : Int) (d2 : Arr Int 2) (l : List S_purse_Held) (w : Int) (d3 : Arr Int 8) (amt s till : Int) (q : RP) (hq : deed d1 x1 d2 l w d3 amt s till = q) :
    (q.2.2.2.2 ≠ 0 ∧ q = zr q.2.2.2.2) ∨ (Ok x1 d2 l ∧ q.1 = d1 ∧ q.2.1 = x1 + 1 ∧ q.2.2.2.2 = 0 ∧ Ok q.2.1 q.2.2.1 q.2.2.2.1 ∧ tot q.2.2.1 q.2.2.2.1 = tot d2 l) := by
  have key : ∀ e d2' l', (Ok x1 d2 l → x1 ≠ 1099511627776 → e = 0 → Ok (x1 + 1) d2' l' ∧ tot d2' l' = tot d2 l) → fin d1 x1 d2 l e d2' l' = q →
      (q.2.2.2.2 ≠ 0 ∧ q = zr q.2.2.2.2) ∨ (Ok x1 d2 l ∧ q.1 = d1 ∧ q.2.1 = x1 + 1 ∧ q.2.2.2.2 = 0 ∧ Ok q.2.1 q.2.2.1 q.2.2.2.1 ∧ tot q.2.2.1 q.2.2.2.1 = tot d2 l) := by
    intro e d2' l' h hf
    rcases fin_keeps h with ⟨a, b⟩ | ⟨a, _, _, b, c, d⟩
    · rw [hf] at a b; exact .inl ⟨a, b⟩
    · rw [hf] at b; subst b; exact .inr ⟨a, rfl, rfl, rfl, c, d⟩
  unfold deed at hq
  split at hq
  · exact key _ _ _ (fun h hx he => pay_ok h hx he) hq
  split at hq
  · exact key _ _ _ (fun h hx he => ⟨(hold_ok h hx he).1, (hold_ok h hx he).2.1⟩) hq
  split at hq
  · exact key _ _ _ (fun h hx he => free_ok h hx he) hq
  · exact key _ _ _ (fun h hx he => back_ok h hx he) hq

/-! ### Sameness -/

instance : DecidableEq S_purse_Held := fun a b =>
  decidable_of_iff (a.f1 = b.f1 ∧ a.f2 = b.f2 ∧ a.f3 = b.f3 ∧ a.f4 = b.f4) (by
    obtain ⟨a1, a2, a3, a4⟩ := a
    obtain ⟨b1, b2, b3, b4⟩ := b
    simp)

theorem Equal_l1 (l1 l2 : List S_purse_Held) (he : l1.length = l2.length) (hl : l1.length ≤ 100) : ∀ (k i : Nat), l1.length - i < k → F.slices_Equal_purse_Held_purse_Held.l1 l1 l2 k (i : Int) = some (decide (l1.drop i = l2.drop i))
  | 0, _, h => absurd h (by omega)
  | k + 1, i, h => by
    unfold F.slices_Equal_purse_Held_purse_Held.l1
    by_cases hi : i < l1.length
    · rw [if_pos (by simpa using hi), if_pos (by omega), if_pos (by omega)]
      have h1 := getI_drop (l := l1) (i := (i : Int)) (by omega) (by omega)
      have h2 := getI_drop (l := l2) (i := (i : Int)) (by omega) (by omega)
      have hw : IntKind.i64.wrap ((i : Int) + 1) = ((i + 1 : Nat) : Int) := by rw [wrap_id (by omega) (by omega)]; omega
      rw [show ((i : Int)).toNat = i by omega, show ((i : Int) + 1).toNat = i + 1 by omega] at h1 h2
      rw [h1, h2, hw, Equal_l1 l1 l2 he hl k (i + 1) (by omega)]
      generalize getI l1 (i : Int) = a
      generalize getI l2 (i : Int) = b
      obtain ⟨a1, a2, a3, a4⟩ := a
      obtain ⟨b1, b2, b3, b4⟩ := b
      have hd : (a1.1 == b1.1) = decide (a1 = b1) := by
        by_cases h : a1 = b1
        · subst h; simp
        · have : a1.1 ≠ b1.1 := fun q => h (Subtype.ext q)
          simp [h, this]
      simp only [hd]
      by_cases c1 : a1 = b1 <;> by_cases c2 : a2 = b2 <;> by_cases c3 : a3 = b3 <;> by_cases c4 : a4 = b4 <;> simp [c1, c2, c3, c4]
    · rw [if_neg (by simpa using hi), List.drop_eq_nil_of_le (by omega), List.drop_eq_nil_of_le (by omega)]
      simp

theorem pSame_eq (d1 : Arr Int 8) (x1 : Int) (d2 : Arr Int 2) {l1 : List S_purse_Held} (d3 : Arr Int 8) (x2 : Int) (d4 : Arr Int 2) (l2 : List S_purse_Held) (hl : l1.length ≤ 100) :
    F.purse_Same d1 x1 d2 l1 d3 x2 d4 l2 = some (decide (d1 = d3 ∧ x1 = x2 ∧ d2 = d4 ∧ l1 = l2)) := by
  have hE : F.slices_Equal_purse_Held_purse_Held l1 l2 = some (decide (l1 = l2)) := by
    unfold F.slices_Equal_purse_Held_purse_Held
    by_cases he : l1.length = l2.length
    · rw [if_neg (by simp; omega)]
      have := Equal_l1 l1 l2 he hl fuel 0 (by rw [fuel_eq]; omega)
      simpa using this
    · rw [if_pos (by simp; omega)]
      have : l1 ≠ l2 := fun h => he (by rw [h])
      simp [this]
  unfold F.purse_Same F.purse_Same.c1
  rw [hE, Option.bind_some]
  have hd : (d1.1 == d3.1) = decide (d1 = d3) := by
    by_cases h : d1 = d3
    · subst h; simp
    · have : d1.1 ≠ d3.1 := fun q => h (Subtype.ext q)
      simp [h, this]
  have hd2 : (d2.1 == d4.1) = decide (d2 = d4) := by
    by_cases h : d2 = d4
    · subst h; simp
    · have : d2.1 ≠ d4.1 := fun q => h (Subtype.ext q)
      simp [h, this]
  rw [hd, hd2]
  by_cases a1 : d1 = d3 <;> by_cases a2 : x1 = x2 <;> by_cases a3 : d2 = d4 <;> simp [a1, a2, a3]

theorem Total_tot (d1 : Arr Int 8) {x1 : Int} {d2 : Arr Int 2} {l : List S_purse_Held} (h : Ok x1 d2 l) : F.purse_Purse_Total d1 x1 d2 l = some (tot d2 l) := by
  have hc := chk_iff.2 h
  rw [Total_eq _ _ _ (by have := h.2.2.2.1; omega), if_neg (by simpa using hc), (chk_ok hc).2.2.2.2.2.2.1]
  rfl
end Go.Proofs.Yticlfbpmfejdoaa
