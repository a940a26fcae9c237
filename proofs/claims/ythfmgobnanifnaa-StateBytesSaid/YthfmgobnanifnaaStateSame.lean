/-
  Plain facts of signed states: which are the same, what of them is looked at, what two come to together.
-/
import Derived.Test.YthfmgobnanifnaaStateRef
namespace Go.Proofs.Ythfmgobnanifnaa
open Go.Lab
set_option maxRecDepth 10000

theorem arr_eq32 {n : Nat} (a b : Arr Int n) : (a.1 == b.1) = decide (a = b) := by
  by_cases h : a = b
  · subst h; simp
  · have : a.1 ≠ b.1 := fun q => h (Subtype.ext q)
    simp [h, this]

theorem getI_c {α : Type} [Inhabited α] {p r : List α} {x : α} {n : Nat} (h : p.length = n) : getI (p ++ x :: r) (n : Int) = x := by
  subst h
  unfold getI
  simp

theorem Equal_l1 {l m : List Int} (hl : l.length < 1000000000) : ∀ (r q p p' : List Int) (k : Nat), l = p ++ r → m = p' ++ q → p.length = p'.length → r.length = q.length → r.length < k →
    F.slices_Equal_byte_byte.l1 l m k (p.length : Int) = some (decide (r = q)) := by
  intro r
  induction r with
  | nil =>
    intro q p p' k h1 h2 h3 h4 hk
    obtain ⟨k, rfl⟩ : ∃ j, k = j + 1 := ⟨k - 1, by omega⟩
    have hq : q = [] := List.eq_nil_of_length_eq_zero (by simpa using h4.symm)
    subst hq
    have : l.length = p.length := by rw [h1]; simp
    unfold F.slices_Equal_byte_byte.l1
    rw [if_neg (by simp; omega)]
    rfl
  | cons x r ih =>
    intro q p p' k h1 h2 h3 h4 hk
    obtain ⟨k, rfl⟩ : ∃ j, k = j + 1 := ⟨k - 1, by simp at hk; omega⟩
    obtain ⟨y, q, rfl⟩ : ∃ y z, q = y :: z := by
      cases q with
      | nil => simp at h4
      | cons y z => exact ⟨y, z, rfl⟩
    have e1 : l.length = p.length + r.length + 1 := by rw [h1]; simp; omega
    have e2 : m.length = p'.length + q.length + 1 := by rw [h2]; simp; omega
    simp only [List.length_cons, Nat.add_right_cancel_iff] at h4
    have g1 : getI l (p.length : Int) = x := by rw [h1]; exact getI_c rfl
    have g2 : getI m (p.length : Int) = y := by rw [h2]; exact getI_c h3.symm
    unfold F.slices_Equal_byte_byte.l1
    rw [if_pos (by simp; omega), if_pos (by omega), if_pos (by omega), g1, g2, wrap_succ (by omega) (by omega)]
    by_cases hxy : x = y
    · subst hxy
      rw [if_neg (by simp)]
      have := ih q (p ++ [x]) (p' ++ [x]) k (by rw [h1]; simp) (by rw [h2]; simp) (by simp [h3]) h4 (by simp at hk; omega)
      rw [List.length_append] at this
      simp only [List.length_cons, List.length_nil, Nat.zero_add] at this
      rw [show (p.length : Int) + 1 = ((p.length + 1 : Nat) : Int) by push_cast; rfl, this]
      congr 1
      exact decide_eq_decide.2 ⟨fun h => by rw [h], fun h => by simpa using h⟩
    · rw [if_pos (by simpa using hxy)]
      congr 1
      exact (decide_eq_false (fun h => hxy (by simpa using (List.cons.inj h).1))).symm

theorem Equal_eq {l m : List Int} (hl : l.length < 1000000000) : F.slices_Equal_byte_byte l m = some (decide (l = m)) := by
  unfold F.slices_Equal_byte_byte
  by_cases h : l.length = m.length
  · rw [if_neg (by simp [h])]
    exact Equal_l1 hl l m [] [] fuel (by simp) (by simp) rfl h (by rw [fuel_eq]; omega)
  · rw [if_pos (by simp; omega)]
    congr 1
    exact (decide_eq_false (fun q => h (by rw [q]))).symm

theorem EqualFunc_l1 {l m : List (List Int)} (hl : l.length < 1000000000) (hs : ∀ s ∈ l, s.length < 1000000000) : ∀ (r q p p' : List (List Int)) (k : Nat), l = p ++ r → m = p' ++ q → p.length = p'.length → r.length = q.length → r.length < k →
    F.slices_EqualFunc_byte_byte_byte_byte.l1 l m k (p.length : Int) = some (decide (r = q)) := by
  intro r
  induction r with
  | nil =>
    intro q p p' k h1 h2 h3 h4 hk
    obtain ⟨k, rfl⟩ : ∃ j, k = j + 1 := ⟨k - 1, by omega⟩
    have hq : q = [] := List.eq_nil_of_length_eq_zero (by simpa using h4.symm)
    subst hq
    have : l.length = p.length := by rw [h1]; simp
    unfold F.slices_EqualFunc_byte_byte_byte_byte.l1
    rw [if_neg (by simp; omega)]
    rfl
  | cons x r ih =>
    intro q p p' k h1 h2 h3 h4 hk
    obtain ⟨k, rfl⟩ : ∃ j, k = j + 1 := ⟨k - 1, by simp at hk; omega⟩
    obtain ⟨y, q, rfl⟩ : ∃ y z, q = y :: z := by
      cases q with
      | nil => simp at h4
      | cons y z => exact ⟨y, z, rfl⟩
    have e1 : l.length = p.length + r.length + 1 := by rw [h1]; simp; omega
    have e2 : m.length = p'.length + q.length + 1 := by rw [h2]; simp; omega
    simp only [List.length_cons, Nat.add_right_cancel_iff] at h4
    have g1 : getI l (p.length : Int) = x := by rw [h1]; exact getI_c rfl
    have g2 : getI m (p.length : Int) = y := by rw [h2]; exact getI_c h3.symm
    unfold F.slices_EqualFunc_byte_byte_byte_byte.l1
    rw [if_pos (by simp; omega), if_pos (by omega), if_pos (by omega), g1, g2, Equal_eq (hs x (by rw [h1]; simp)), Option.bind_some, wrap_succ (by omega) (by omega)]
    by_cases hxy : x = y
    · subst hxy
      rw [if_neg (by simp)]
      have := ih q (p ++ [x]) (p' ++ [x]) k (by rw [h1]; simp) (by rw [h2]; simp) (by simp [h3]) h4 (by simp at hk; omega)
      rw [List.length_append] at this
      simp only [List.length_cons, List.length_nil, Nat.zero_add] at this
      rw [show (p.length : Int) + 1 = ((p.length + 1 : Nat) : Int) by push_cast; rfl, this]
      congr 1
      exact decide_eq_decide.2 ⟨fun h => by rw [h], fun h => by simpa using h⟩
    · rw [if_pos (by simpa using hxy)]
      congr 1
      exact (decide_eq_false (fun h => hxy (by simpa using (List.cons.inj h).1))).symm

theorem EqualFunc_eq {l m : List (List Int)} (hl : l.length < 1000000000) (hs : ∀ s ∈ l, s.length < 1000000000) : F.slices_EqualFunc_byte_byte_byte_byte l m = some (decide (l = m)) := by
  unfold F.slices_EqualFunc_byte_byte_byte_byte
  by_cases h : l.length = m.length
  · rw [if_neg (by simp [h])]
    exact EqualFunc_l1 hl hs l m [] [] fuel (by simp) (by simp) rfl h (by rw [fuel_eq]; omega)
  · rw [if_pos (by simp; omega)]
    congr 1
    exact (decide_eq_false (fun q => h (by rw [q]))).symm

theorem same_eq (d : Arr Int 8) (x : Int) {l : List Int} (e : Arr Int 8) (y : Int) (m : List Int) (hl : l.length < 1000000000) : F.state_same d x l e y m = some (decide (d = e ∧ x = y ∧ l = m)) := by
  unfold F.state_same F.state_same.c1
  rw [arr_eq32, Equal_eq hl]
  by_cases h1 : d = e
  · by_cases h2 : x = y
    · simp [h1, h2]
    · simp [h1, h2]
  · simp [h1]

theorem Same_eq (d : Arr Int 8) (x : Int) {l : List Int} {s : List (List Int)} (e : Arr Int 8) (y : Int) (m : List Int) (t : List (List Int)) (hl : l.length < 1000000000) (hs : s.length < 1000000000) (hss : ∀ z ∈ s, z.length < 1000000000) :
    F.state_Signed_Same d x l s e y m t = some (decide ((d = e ∧ x = y ∧ l = m) ∧ s = t)) := by
  unfold F.state_Signed_Same F.state_Signed_Same.c1
  rw [same_eq d x e y m hl, Option.bind_some, EqualFunc_eq hs hss]
  by_cases h : d = e ∧ x = y ∧ l = m
  · rw [if_pos (by simpa using h), Option.bind_some]
    congr 1
    exact decide_eq_decide.2 ⟨fun q => ⟨h, q⟩, fun q => q.2⟩
  · rw [if_neg (by rw [decide_eq_false h]; decide), decide_eq_false (fun q => h q.1)]

theorem rsameS_eq (d : Arr Int 8) (x : Int) {l : List Int} (e : Arr Int 8) (y : Int) {m : List Int} (hl : Byts l) (hm : Byts m) : F.baizeref32_SameState d x l e y m = some (decide (d = e ∧ x = y ∧ l = m)) := by
  unfold F.baizeref32_SameState F.baizeref32_SameState.c1
  rw [arr_eq32, bytesStr_inj hl hm]
  by_cases h1 : d = e
  · by_cases h2 : x = y
    · simp [h1, h2]
    · simp [h1, h2]
  · simp [h1]

theorem rSame_l1 {l m : List (List Int)} (hl : l.length < 1000000000) (hb : ∀ s ∈ l, Byts s) (hc : ∀ s ∈ m, Byts s) : ∀ (r q p p' : List (List Int)) (k : Nat), l = p ++ r → m = p' ++ q → p.length = p'.length → r.length = q.length → r.length < k →
    F.baizeref32_Same.l1 l m k (p.length : Int) = some (decide (r = q)) := by
  intro r
  induction r with
  | nil =>
    intro q p p' k h1 h2 h3 h4 hk
    obtain ⟨k, rfl⟩ : ∃ j, k = j + 1 := ⟨k - 1, by omega⟩
    have hq : q = [] := List.eq_nil_of_length_eq_zero (by simpa using h4.symm)
    subst hq
    have : l.length = p.length := by rw [h1]; simp
    unfold F.baizeref32_Same.l1
    rw [if_neg (by simp; omega)]
    rfl
  | cons x r ih =>
    intro q p p' k h1 h2 h3 h4 hk
    obtain ⟨k, rfl⟩ : ∃ j, k = j + 1 := ⟨k - 1, by simp at hk; omega⟩
    obtain ⟨y, q, rfl⟩ : ∃ y z, q = y :: z := by
      cases q with
      | nil => simp at h4
      | cons y z => exact ⟨y, z, rfl⟩
    have e1 : l.length = p.length + r.length + 1 := by rw [h1]; simp; omega
    have e2 : m.length = p'.length + q.length + 1 := by rw [h2]; simp; omega
    simp only [List.length_cons, Nat.add_right_cancel_iff] at h4
    have g1 : getI l (p.length : Int) = x := by rw [h1]; exact getI_c rfl
    have g2 : getI m (p.length : Int) = y := by rw [h2]; exact getI_c h3.symm
    unfold F.baizeref32_Same.l1
    rw [if_pos (by simp; omega), if_pos (by omega), if_pos (by omega), g1, g2, bytesStr_inj (hb x (by rw [h1]; simp)) (hc y (by rw [h2]; simp)), wrap_succ (by omega) (by omega)]
    by_cases hxy : x = y
    · subst hxy
      rw [if_neg (by simp)]
      have := ih q (p ++ [x]) (p' ++ [x]) k (by rw [h1]; simp) (by rw [h2]; simp) (by simp [h3]) h4 (by simp at hk; omega)
      rw [List.length_append] at this
      simp only [List.length_cons, List.length_nil, Nat.zero_add] at this
      rw [show (p.length : Int) + 1 = ((p.length + 1 : Nat) : Int) by push_cast; rfl, this]
      congr 1
      exact decide_eq_decide.2 ⟨fun h => by rw [h], fun h => by simpa using h⟩
    · rw [if_pos (by simpa using hxy)]
      congr 1
      exact (decide_eq_false (fun h => hxy (by simpa using (List.cons.inj h).1))).symm

theorem rSame_eq (d : Arr Int 8) (x : Int) {l : List Int} {s : List (List Int)} (e : Arr Int 8) (y : Int) {m : List Int} {t : List (List Int)} (hl : Byts l) (hm : Byts m) (hs : s.length < 1000000000) (hb : ∀ z ∈ s, Byts z) (hc : ∀ z ∈ t, Byts z) :
    F.baizeref32_Same d x l s e y m t = some (decide ((d = e ∧ x = y ∧ l = m) ∧ s = t)) := by
  unfold F.baizeref32_Same F.baizeref32_Same.c1
  rw [rsameS_eq d x e y hl hm, Option.bind_some]
  by_cases h : d = e ∧ x = y ∧ l = m
  · rw [if_neg (by simpa using h)]
    by_cases hst : s.length = t.length
    · have h1 := rSame_l1 (l := s) (m := t) hs hb hc s t [] [] fuel (by simp) (by simp) rfl hst (by rw [fuel_eq]; omega)
      simp only [List.length_nil, Int.natCast_zero] at h1
      rw [if_neg (by simp [hst]), h1]
      congr 1
      exact decide_eq_decide.2 ⟨fun q => ⟨h, q⟩, fun q => q.2⟩
    · rw [if_pos (by simp; omega)]
      congr 1
      exact (decide_eq_false (fun q => hst (by rw [q.2]))).symm
  · rw [if_pos (by rw [decide_eq_false h]; decide), if_pos rfl]
    congr 1
    exact (decide_eq_false (fun q => h q.1)).symm

/-! ### What is looked at -/

def cutG (s : List (List Int)) : List (List Int) := (s.take 12).map (List.take 5000)

theorem plain_l1 (d : Arr Int 8) (x : Int) {s : List (List Int)} (hs : s.length ≤ 9223372036854775807) (b : List Int) : ∀ (j k i : Nat), i + j = 12 → j < k → i ≤ s.length →
    F.baizelaw32_plain.l1 d x s b k ((s.take i).map (List.take 5000)) (i : Int) = some (d, x, b, cutG s, d, x, b, cutG s) := by
  intro j
  induction j with
  | zero =>
    intro k i hi hk hil
    obtain ⟨k, rfl⟩ : ∃ j, k = j + 1 := ⟨k - 1, by omega⟩
    have : i = 12 := by omega
    subst this
    unfold F.baizelaw32_plain.l1 F.baizelaw32_plain.c1
    by_cases h : ((12 : Nat) : Int) < (s.length : Int)
    · rw [if_pos (by simpa using h), if_neg (by decide)]
      rfl
    · rw [if_neg (by simpa using h), if_neg (by decide)]
      rfl
  | succ j ih =>
    intro k i hi hk hil
    obtain ⟨k, rfl⟩ : ∃ j, k = j + 1 := ⟨k - 1, by omega⟩
    unfold F.baizelaw32_plain.l1 F.baizelaw32_plain.c1
    by_cases h : i < s.length
    · have hg : s.take (i + 1) = s.take i ++ [getI s (i : Int)] := by
        rw [List.take_add_one, List.getElem?_eq_getElem h]
        unfold getI
        simp [List.getD_eq_getElem?_getD, List.getElem?_eq_getElem h]
      have hl : ((s.take i).map (List.take 5000)).length ≤ 12 := by simp; omega
      rw [if_pos (by simpa using h), if_pos (by simp; omega), if_pos (by omega), few_eq, Option.bind_some, if_pos (by simp only [List.length_cons, List.length_nil]; omega), wrap_succ (by omega) (by omega)]
      have := ih k (i + 1) (by omega) (by omega) (by omega)
      rw [hg, List.map_append] at this
      rw [show (i : Int) + 1 = ((i + 1 : Nat) : Int) by push_cast; rfl]
      exact this
    · have : s.take i = s.take 12 := by rw [List.take_of_length_le (by omega), List.take_of_length_le (by omega)]
      rw [if_neg (by simpa using h), if_neg (by decide), this]
      rfl

theorem plain_eq (d : Arr Int 8) (x : Int) (b : List Int) {s : List (List Int)} (hs : s.length ≤ 9223372036854775807) : F.baizelaw32_plain d x b s = some (d, x, b.take 5000, cutG s, d, x, b.take 5000, cutG s) := by
  unfold F.baizelaw32_plain
  rw [few_eq, Option.bind_some]
  have := plain_l1 d x hs (b.take 5000) 12 fuel 0 (by omega) (by rw [fuel_eq]; omega) (Nat.zero_le _)
  simpa using this

theorem cutG_len (s : List (List Int)) : (cutG s).length ≤ 12 ∧ ∀ z ∈ cutG s, z.length ≤ 5000 := by
  unfold cutG
  refine ⟨by simp; omega, fun z hz => ?_⟩
  simp only [List.mem_map] at hz
  obtain ⟨y, _, rfl⟩ := hz
  rw [List.length_take]; omega
theorem cutG_byts {s : List (List Int)} (h : ∀ z ∈ s, Byts z) : ∀ z ∈ cutG s, Byts z := by
  unfold cutG
  intro z hz
  simp only [List.mem_map] at hz
  obtain ⟨y, hy, rfl⟩ := hz
  exact (h y (List.mem_of_mem_take hy)).take 5000
theorem cutG_id {s : List (List Int)} (h : s.length ≤ 12) (hs : ∀ z ∈ s, z.length ≤ 5000) : cutG s = s := by
  unfold cutG
  rw [List.take_of_length_le h]
  conv => rhs; rw [← List.map_id s]
  apply List.map_congr_left
  intro z hz
  exact List.take_of_length_le (hs z hz)
end Go.Proofs.Ythfmgobnanifnaa
