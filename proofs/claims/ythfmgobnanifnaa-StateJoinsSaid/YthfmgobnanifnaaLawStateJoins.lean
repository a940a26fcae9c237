/-
  Proved: of all two signed states it is told what they come to together.
-/
import Derived.Test.YthfmgobnanifnaaStateSame
namespace Go.Proofs.Ythfmgobnanifnaa
open Go.Lab
set_option maxRecDepth 10000

/-- The signatures of two together. -/
def joinS : List (List Int) → List (List Int) → List (List Int)
  | x :: r, y :: q => (if x.length = 0 then y else x) :: joinS r q
  | _, _ => []

theorem joinS_mem : ∀ {s t : List (List Int)} {z : List Int}, z ∈ joinS s t → z ∈ s ∨ z ∈ t
  | x :: r, y :: q, z, h => by
    rcases List.mem_cons.1 h with rfl | h
    · split
      · exact .inr (by simp)
      · exact .inl (by simp)
    · rcases joinS_mem h with h | h
      · exact .inl (by simp [h])
      · exact .inr (by simp [h])
  | [], _, _, h => by simp [joinS] at h
  | _ :: _, [], _, h => by simp [joinS] at h
theorem joinS_len : ∀ {s t : List (List Int)}, s.length = t.length → (joinS s t).length = s.length
  | [], [], _ => rfl
  | x :: r, y :: q, h => by simp [joinS, joinS_len (s := r) (t := q) (by simpa using h)]

theorem Clone32 {l : List Int} (h : l.length ≤ 140737488355328) : F.slices_Clone_byte_byte l = some l := by
  unfold F.slices_Clone_byte_byte F.slices_Clone_byte_byte_some
  rw [if_pos (by rw [List.length_nil, Nat.zero_add]; exact h)]
  rfl

section
variable {d : Arr Int 8} {x : Int} {b : List Int} {s t : List (List Int)}

theorem Join_l1 (hl : s.length ≤ 12) (hss : ∀ z ∈ s, z.length ≤ 5000) (htt : ∀ z ∈ t, z.length ≤ 5000) : ∀ (r q p p' : List (List Int)) (k : Nat) (acc : List (List Int)), s = p ++ r → t = p' ++ q → p.length = p'.length → r.length = q.length → r.length < k → acc.length = p.length →
    F.state_Join.l1 d x s t b k acc (p.length : Int) = some (d, x, b, acc ++ joinS r q, 0) := by
  intro r
  induction r with
  | nil =>
    intro q p p' k acc h1 h2 h3 h4 hk ha
    obtain ⟨k, rfl⟩ : ∃ j, k = j + 1 := ⟨k - 1, by omega⟩
    have : s.length = p.length := by rw [h1]; simp
    unfold F.state_Join.l1
    rw [if_neg (by simp; omega)]
    simp [joinS]
  | cons z r ih =>
    intro q p p' k acc h1 h2 h3 h4 hk ha
    obtain ⟨k, rfl⟩ : ∃ j, k = j + 1 := ⟨k - 1, by simp at hk; omega⟩
    obtain ⟨y, q, rfl⟩ : ∃ y z, q = y :: z := by
      cases q with
      | nil => simp at h4
      | cons y z => exact ⟨y, z, rfl⟩
    have e1 : s.length = p.length + r.length + 1 := by rw [h1]; simp; omega
    have e2 : t.length = p'.length + q.length + 1 := by rw [h2]; simp; omega
    simp only [List.length_cons, Nat.add_right_cancel_iff] at h4
    have g1 : getI s (p.length : Int) = z := by rw [h1]; exact getI_c rfl
    have g2 : getI t (p.length : Int) = y := by rw [h2]; exact getI_c h3.symm
    have lz := hss z (by rw [h1]; simp)
    have ly := htt y (by rw [h2]; simp)
    have step : ∀ w : List Int, w.length ≤ 5000 → w = (if z.length = 0 then y else z) → F.state_Join.c1 (F.state_Join.l1 d x s t b k) acc (p.length : Int) w = some (d, x, b, acc ++ joinS (z :: r) (y :: q), 0) := by
      intro w hw he
      unfold F.state_Join.c1
      rw [Clone32 (by omega), Option.bind_some, if_pos (by simp only [List.length_cons, List.length_nil]; omega), wrap_succ (by omega) (by omega)]
      have := ih q (p ++ [z]) (p' ++ [y]) k (acc ++ [w]) (by rw [h1]; simp) (by rw [h2]; simp) (by simp [h3]) h4 (by simp at hk; omega) (by simp [ha])
      rw [List.length_append] at this
      simp only [List.length_cons, List.length_nil, Nat.zero_add] at this
      rw [show (p.length : Int) + 1 = ((p.length + 1 : Nat) : Int) by push_cast; rfl, this, he]
      simp [joinS]
    unfold F.state_Join.l1
    rw [if_pos (by simp; omega), if_pos (by omega), g1]
    by_cases hz : z.length = 0
    · rw [if_pos (by simp [hz]), if_pos (by omega), g2]
      exact step y ly (by rw [if_pos hz])
    · rw [if_neg (by simp; intro q; exact hz (by rw [q]; rfl))]
      exact step z lz (by rw [if_neg hz])

theorem rJoin_l1 (hl : s.length ≤ 12) : ∀ (r q p p' : List (List Int)) (k : Nat) (acc : List (List Int)), s = p ++ r → t = p' ++ q → p.length = p'.length → r.length = q.length → r.length < k → acc.length = p.length →
    F.baizeref32_Join.l1 d x b s t k acc (p.length : Int) = some (d, x, b, acc ++ joinS r q, 0) := by
  intro r
  induction r with
  | nil =>
    intro q p p' k acc h1 h2 h3 h4 hk ha
    obtain ⟨k, rfl⟩ : ∃ j, k = j + 1 := ⟨k - 1, by omega⟩
    have : s.length = p.length := by rw [h1]; simp
    unfold F.baizeref32_Join.l1
    rw [if_neg (by simp; omega)]
    simp [joinS]
  | cons z r ih =>
    intro q p p' k acc h1 h2 h3 h4 hk ha
    obtain ⟨k, rfl⟩ : ∃ j, k = j + 1 := ⟨k - 1, by simp at hk; omega⟩
    obtain ⟨y, q, rfl⟩ : ∃ y z, q = y :: z := by
      cases q with
      | nil => simp at h4
      | cons y z => exact ⟨y, z, rfl⟩
    have e1 : s.length = p.length + r.length + 1 := by rw [h1]; simp; omega
    have e2 : t.length = p'.length + q.length + 1 := by rw [h2]; simp; omega
    simp only [List.length_cons, Nat.add_right_cancel_iff] at h4
    have g1 : getI s (p.length : Int) = z := by rw [h1]; exact getI_c rfl
    have g2 : getI t (p.length : Int) = y := by rw [h2]; exact getI_c h3.symm
    have step : ∀ w : List Int, w = (if z.length = 0 then y else z) → F.baizeref32_Join.c1 (F.baizeref32_Join.l1 d x b s t k) acc (p.length : Int) w = some (d, x, b, acc ++ joinS (z :: r) (y :: q), 0) := by
      intro w he
      unfold F.baizeref32_Join.c1
      rw [if_pos (by simp only [List.length_cons, List.length_nil]; omega), wrap_succ (by omega) (by omega)]
      have := ih q (p ++ [z]) (p' ++ [y]) k (acc ++ [w]) (by rw [h1]; simp) (by rw [h2]; simp) (by simp [h3]) h4 (by simp at hk; omega) (by simp [ha])
      rw [List.length_append] at this
      simp only [List.length_cons, List.length_nil, Nat.zero_add] at this
      rw [show (p.length : Int) + 1 = ((p.length + 1 : Nat) : Int) by push_cast; rfl, this, he]
      simp [joinS]
    unfold F.baizeref32_Join.l1
    rw [if_pos (by simp; omega), if_pos (by omega), g1]
    by_cases hz : z.length = 0
    · rw [if_pos (by simp [hz]), if_pos (by omega), g2]
      exact step y (by rw [if_pos hz])
    · rw [if_neg (by simp; intro q; exact hz (by rw [q]; rfl))]
      exact step z (by rw [if_neg hz])
end

/-- What two come to together. -/
def joinP (d : Arr Int 8) (x : Int) (b : List Int) (s : List (List Int)) (e : Arr Int 8) (y : Int) (c : List Int) (t : List (List Int)) : Arr Int 8 × Int × List Int × List (List Int) × Int :=
  if ¬ (d = e ∧ x = y ∧ b = c) then (zA 8, 0, [], [], 11) else if s.length ≠ t.length then (zA 8, 0, [], [], 3) else (d, x, b, joinS s t, 0)

theorem Join_eq (d : Arr Int 8) (x : Int) {b : List Int} {s : List (List Int)} (e : Arr Int 8) (y : Int) (c : List Int) {t : List (List Int)} (hb : b.length ≤ 5000) (hl : s.length ≤ 12) (hss : ∀ z ∈ s, z.length ≤ 5000) (htt : ∀ z ∈ t, z.length ≤ 5000) :
    F.state_Join d x b s e y c t = some (joinP d x b s e y c t) := by
  unfold F.state_Join joinP
  rw [same_eq d x e y c (by omega), Option.bind_some]
  by_cases h : d = e ∧ x = y ∧ b = c
  · rw [decide_eq_true h, if_neg (by decide), if_neg (c := ¬ (d = e ∧ x = y ∧ b = c)) (by simpa using h)]
    by_cases hst : s.length = t.length
    · rw [if_neg (by simp [hst]), if_neg (c := s.length ≠ t.length) (by simpa using hst), Clone32 (by omega), Option.bind_some]
      exact Join_l1 hl hss htt s t [] [] fuel [] (by simp) (by simp) rfl hst (by rw [fuel_eq]; omega) rfl
    · rw [if_pos (by simp; omega), if_pos (c := s.length ≠ t.length) hst]
  · rw [decide_eq_false h, if_pos (by decide), if_pos (c := ¬ (d = e ∧ x = y ∧ b = c)) h]

theorem rJoin_eq (d : Arr Int 8) (x : Int) {b : List Int} {s : List (List Int)} (e : Arr Int 8) (y : Int) {c : List Int} (t : List (List Int)) (hb : Byts b) (hc : Byts c) (hl : s.length ≤ 12) :
    F.baizeref32_Join d x b s e y c t = some (joinP d x b s e y c t) := by
  unfold F.baizeref32_Join joinP
  rw [rsameS_eq d x e y hb hc, Option.bind_some]
  by_cases h : d = e ∧ x = y ∧ b = c
  · rw [decide_eq_true h, if_neg (by decide), if_neg (c := ¬ (d = e ∧ x = y ∧ b = c)) (by simpa using h)]
    by_cases hst : s.length = t.length
    · rw [if_neg (by simp [hst]), if_neg (c := s.length ≠ t.length) (by simpa using hst)]
      exact rJoin_l1 hl s t [] [] fuel [] (by simp) (by simp) rfl hst (by rw [fuel_eq]; omega) rfl
    · rw [if_pos (by simp; omega), if_pos (c := s.length ≠ t.length) hst]
  · rw [decide_eq_false h, if_pos (by decide), if_pos (c := ¬ (d = e ∧ x = y ∧ b = c)) h]

theorem join_facts (d : Arr Int 8) (x : Int) {b : List Int} {s : List (List Int)} (e : Arr Int 8) (y : Int) (c : List Int) {t : List (List Int)} (hb : Byts b) (hbl : b.length ≤ 5000) (hl : s.length ≤ 12) (hs : ∀ z ∈ s, Byts z ∧ z.length ≤ 5000) (ht : ∀ z ∈ t, Byts z ∧ z.length ≤ 5000) :
    Byts (joinP d x b s e y c t).2.2.1 ∧ (joinP d x b s e y c t).2.2.1.length ≤ 5000 ∧ (joinP d x b s e y c t).2.2.2.1.length ≤ 12 ∧ ∀ z ∈ (joinP d x b s e y c t).2.2.2.1, Byts z ∧ z.length ≤ 5000 := by
  have he : Byts ([] : List Int) := fun y hy => by simp at hy
  unfold joinP
  split
  · exact ⟨he, by simp, by simp, fun z hz => by simp at hz⟩
  split
  · exact ⟨he, by simp, by simp, fun z hz => by simp at hz⟩
  · rename_i hst
    refine ⟨hb, hbl, ?_, fun z hz => ?_⟩
    · simp only []
      rw [joinS_len (Classical.not_not.1 hst)]
      exact hl
    · rcases joinS_mem hz with h | h
      · exact hs z h
      · exact ht z h

theorem joins_c1 (d : Arr Int 8) (x : Int) {b : List Int} {s t : List (List Int)} (e : Arr Int 8) (y : Int) {c : List Int} (hb : Byts b) (hc : Byts c) (hs : ∀ z ∈ s, Byts z) (ht : ∀ z ∈ t, Byts z) (hsl : s.length ≤ 9223372036854775807) (htl : t.length ≤ 9223372036854775807) :
    F.baizelaw32_StateJoins.c1 d x b s t e y c = some true := by
  have h1 : (b.take 5000).length ≤ 5000 := by rw [List.length_take]; omega
  have h2 : (c.take 5000).length ≤ 5000 := by rw [List.length_take]; omega
  have b1 := hb.take 5000
  have b2 := hc.take 5000
  have s1 := cutG_len s
  have t1 := cutG_len t
  have s2 := cutG_byts hs
  have t2 := cutG_byts ht
  unfold F.baizelaw32_StateJoins.c1 F.baizelaw32_StateJoins.c2
  rw [plain_eq d x b hsl, Option.bind_some]
  simp only []
  rw [plain_eq e y c htl, Option.bind_some]
  simp only []
  generalize b.take 5000 = b at *
  generalize c.take 5000 = c at *
  generalize cutG s = s at *
  generalize cutG t = t at *
  have hj := join_facts d x e y c b1 h1 s1.1 (fun z hz => ⟨s2 z hz, s1.2 z hz⟩) (fun z hz => ⟨t2 z hz, t1.2 z hz⟩) (b := b) (s := s) (t := t)
  rw [Join_eq d x e y c h1 s1.1 s1.2 t1.2, Option.bind_some, rJoin_eq d x e y t b1 b2 s1.1, Option.bind_some]
  generalize joinP d x b s e y c t = J at *
  obtain ⟨jd, jx, jb, js, je⟩ := J
  simp only [] at hj ⊢
  obtain ⟨j1, j2, j3, j4⟩ := hj
  rw [plain_eq jd jx jb (by omega), Option.bind_some]
  simp only []
  rw [List.take_of_length_le j2, cutG_id j3 (fun z hz => (j4 z hz).2), told32, Option.bind_some, if_pos rfl, if_pos (by simp), rSame_eq jd jx jd jx j1 j1 (by omega) (fun z hz => (j4 z hz).1) (fun z hz => (j4 z hz).1), Option.bind_some, if_pos (by simp),
    Same_eq d x e y c t (by omega) (by omega) (fun z hz => by have := s1.2 z hz; omega), Option.bind_some, rSame_eq d x e y b1 b2 (by omega) s2 t2, Option.bind_some, if_pos (by simp), Same_eq d x d x b s (by omega) (by omega) (fun z hz => by have := s1.2 z hz; omega), Option.bind_some]
  simp

theorem law_StateJoins (y0 : S_state_Signed) (y1 : S_state_Signed) (a2 : Bool) (w0 : wf_S_state_Signed y0) (w1 : wf_S_state_Signed y1) : F.baizelaw32_StateJoins y0.f1 y0.f2 y0.f3 y0.f4 y1.f1 y1.f2 y1.f3 y1.f4 a2 = some true := by
  obtain ⟨d, x, b, s⟩ := y0
  obtain ⟨e, y, c, t⟩ := y1
  simp only [wf_S_state_Signed] at w0 w1
  simp only []
  have hm : maxLen = 9223372036854775807 := rfl
  have hb := byts_wf w0.1.2.2.2
  have hc := byts_wf w1.1.2.2.2
  have hs : ∀ z ∈ s, Byts z := fun z hz => byts_wf (w0.2.2 z hz).2
  have ht : ∀ z ∈ t, Byts z := fun z hz => byts_wf (w1.2.2 z hz).2
  have hsl := w0.2.1
  have htl := w1.2.1
  unfold F.baizelaw32_StateJoins
  cases a2 with
  | true => rw [if_pos rfl]; exact joins_c1 d x d x hb hb hs ht (by omega) (by omega)
  | false => rw [if_neg (by decide)]; exact joins_c1 d x e y hb hc hs ht (by omega) (by omega)
end Go.Proofs.Ythfmgobnanifnaa
