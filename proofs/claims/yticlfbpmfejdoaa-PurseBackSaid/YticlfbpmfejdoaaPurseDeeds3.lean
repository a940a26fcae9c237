/-
  Plain facts of deeds on purses: the document's deeds.
-/
import Derived.Test.YticlfbpmfejdoaaPurseDeeds2
namespace Go.Proofs.Yticlfbpmfejdoaa
open Go.Lab
set_option maxRecDepth 10000

abbrev RR := Arr Int 8 × Int × Arr Int 2 × List S_baizeref47_Held × Int
def rconv (q : RP) : RR := (q.1, q.2.1, q.2.2.1, q.2.2.2.1.map own2, q.2.2.2.2)

theorem rnext_eq (d1 : Arr Int 8) (x1 : Int) (d2 : Arr Int 2) {r : List S_baizeref47_Held} (hl : r.length ≤ 40) : F.baizeref47_next d1 x1 d2 r =
    some (if chk x1 d2 (r.map own1) ≠ 0 then (zA 8, 0, zA 2, [], 3) else if x1 = 1099511627776 then (zA 8, 0, zA 2, [], 17) else (d1, x1 + 1, d2, r, 0)) := by
  unfold F.baizeref47_next
  rw [rCheck_eq _ _ _ hl, Option.bind_some]
  by_cases hc : chk x1 d2 (r.map own1) = 0
  case neg => simp [hc]
  by_cases hx : x1 = 1099511627776
  · rw [hc, if_neg (by simp), if_pos (by simpa using hx), if_neg (by simp), if_pos hx]
  have hb := (chk_ok hc).1
  have hcc : ([] : List S_baizeref47_Held).length + r.length ≤ 4398046511104 := by rw [List.length_nil, Nat.zero_add]; omega
  rw [hc, if_neg (by simp), if_neg (by simpa using hx), if_pos hcc, if_neg (by simp), if_neg hx, wrap_id (by omega) (by omega)]
  rfl

theorem rstep {d1 : Arr Int 8} {x1 : Int} {d2 : Arr Int 2} {r : List S_baizeref47_Held} (hl : r.length ≤ 40) (f : Arr Int 8 → Int → Arr Int 2 → List S_baizeref47_Held → Option RR) (e : Int) (d2' : Arr Int 2) (l' : List S_purse_Held)
    (h : chk x1 d2 (r.map own1) = 0 → x1 ≠ 1099511627776 → f d1 (x1 + 1) d2 r = some (if e ≠ 0 then (zA 8, 0, zA 2, [], e) else (d1, x1 + 1, d2', l'.map own2, 0))) :
    ((F.baizeref47_next d1 x1 d2 r).bind fun (d3, x4, d4, l2, x5) => (if (x5 != 0) = true then (some ((zA 8), 0, (zA 2), ([] : List S_baizeref47_Held), x5)) else f d3 x4 d4 l2)) = some (rconv (fin d1 x1 d2 (r.map own1) e d2' l')) := by
  rw [rnext_eq _ _ _ hl, Option.bind_some]
  unfold fin rconv zr
  by_cases hc : chk x1 d2 (r.map own1) = 0
  case neg => simp [hc]
  by_cases hx : x1 = 1099511627776
  · subst hx; simp [hc]
  have hf := h hc hx
  by_cases he : e = 0
  · simp [hc, hx, he] at hf ⊢; exact hf
  · simp [hc, hx, he] at hf ⊢; exact hf

theorem rPay_eq (d1 : Arr Int 8) (x1 : Int) (d2 : Arr Int 2) {r : List S_baizeref47_Held} (hl : r.length ≤ 40) (s amt : Int) :
    F.baizeref47_Pay d1 x1 d2 r s amt = some (rconv (fin d1 x1 d2 (r.map own1) (payE d2 s amt) (mv d2 s (-amt) amt) (r.map own1))) := by
  unfold F.baizeref47_Pay
  refine rstep hl (fun d3 x4 d4 l2 => if (s != 0) = true then F.baizeref47_Pay.c1 d2 s amt d3 x4 d4 l2 (s != 1) else F.baizeref47_Pay.c1 d2 s amt d3 x4 d4 l2 false) _ _ _ ?_
  intro hc hx
  obtain ⟨_, ha, hb, _⟩ := chk_ok hc
  have c1t : ∀ d3 x4 d4 l2, F.baizeref47_Pay.c1 d2 s amt d3 x4 d4 l2 true = some ((zA 8), 0, (zA 2), [], 28) := by intros; unfold F.baizeref47_Pay.c1; rw [if_pos rfl]
  rw [map21]
  by_cases hs : 0 ≤ s ∧ s < 2
  case neg =>
    have hE : payE d2 s amt = 28 := by unfold payE; rw [if_pos hs]
    rw [hE, if_pos (by simp; omega), show (s != 1) = true by simp; omega, c1t]; rfl
  have e1 : (if (s != 0) = true then F.baizeref47_Pay.c1 d2 s amt d1 (x1 + 1) d2 r (s != 1) else F.baizeref47_Pay.c1 d2 s amt d1 (x1 + 1) d2 r false) = F.baizeref47_Pay.c1 d2 s amt d1 (x1 + 1) d2 r false := by
    by_cases h0 : s = 0
    · simp [h0]
    · have : s = 1 := by omega
      subst this; rfl
  rw [e1]
  unfold F.baizeref47_Pay.c1
  rw [if_neg (by simp), positive_eq, Option.bind_some]
  by_cases hm : 0 < amt ∧ amt ≤ 1125899906842624
  case neg =>
    have hE : payE d2 s amt = 2 := by unfold payE; rw [if_neg (by simpa using hs), if_pos hm]
    rw [hE, decide_eq_false hm]; rfl
  rw [decide_eq_true hm, if_neg (by simp), if_pos hs]
  by_cases hf : amt > aget d2 s
  · have hE : payE d2 s amt = 21 := by unfold payE; rw [if_neg (by simpa using hs), if_neg (by simpa using hm), if_pos hf]
    rw [hE, if_pos (by simpa using hf)]; rfl
  have hE : payE d2 s amt = 0 := by unfold payE; rw [if_neg (by simpa using hs), if_neg (by simpa using hm), if_neg hf]
  rw [hE, if_neg (by simpa using hf), if_pos hs, if_pos hs, if_neg (show ¬ ((0 : Int) ≠ 0) by simp)]
  clear hE e1 c1t
  rw [arr2 d2] at hf ⊢
  generalize aget d2 0 = a at *
  generalize aget d2 1 = b at *
  unfold Right at ha hb
  have h01 : s = 0 ∨ s = 1 := by omega
  rcases h01 with rfl | rfl
  · rw [(aget_mk2 a b).1] at hf
    have w1 : IntKind.i64.wrap (1 - 0) = 1 := by decide
    rw [w1, if_pos (by decide), if_pos (by decide), (aget_mk2 a b).1, (aset_mk2 a b _).1, (aget_mk2 _ b).2, (aset_mk2 _ b _).2, wrap_id (x := a - amt) (by omega) (by omega), wrap_id (x := b + amt) (by omega) (by omega)]
    rfl
  · rw [(aget_mk2 a b).2] at hf
    have w1 : IntKind.i64.wrap (1 - 1) = 0 := by decide
    rw [w1, if_pos (by decide), if_pos (by decide), (aget_mk2 a b).2, (aset_mk2 a b _).2, (aget_mk2 a _).1, (aset_mk2 a _ _).1, wrap_id (x := b - amt) (by omega) (by omega), wrap_id (x := a + amt) (by omega) (by omega)]
    rfl

theorem rHold_eq (d1 : Arr Int 8) (x1 : Int) (d2 : Arr Int 2) {r : List S_baizeref47_Held} (hl : r.length ≤ 40) (d3 : Arr Int 8) (amt s till : Int) :
    F.baizeref47_Hold d1 x1 d2 r d3 amt s till = some (rconv (fin d1 x1 d2 (r.map own1) (holdE d2 (r.map own1) ⟨d3, amt, s, till⟩) (mv d2 s (-amt) 0) (r.map own1 ++ [⟨d3, amt, s, till⟩]))) := by
  unfold F.baizeref47_Hold
  refine rstep hl (fun d4 x5 d5 l2 => if (s != 0) = true then F.baizeref47_Hold.c1 d1 x1 d2 r d3 amt s till d4 x5 d5 l2 (s != 1) else F.baizeref47_Hold.c1 d1 x1 d2 r d3 amt s till d4 x5 d5 l2 false) _ _ _ ?_
  intro hc hx
  obtain ⟨_, ha, hb, _⟩ := chk_ok hc
  have c1t : F.baizeref47_Hold.c1 d1 x1 d2 r d3 amt s till d1 (x1 + 1) d2 r true = some ((zA 8), 0, (zA 2), [], 28) := by unfold F.baizeref47_Hold.c1; rw [if_pos rfl]
  have c2t : F.baizeref47_Hold.c2 d1 x1 d2 r d3 amt s till d1 (x1 + 1) d2 r true = some ((zA 8), 0, (zA 2), [], 2) := by unfold F.baizeref47_Hold.c2; rw [if_pos rfl]
  rw [List.map_append, map21]
  by_cases hs : 0 ≤ s ∧ s < 2
  case neg =>
    have hE : holdE d2 (r.map own1) ⟨d3, amt, s, till⟩ = 28 := by unfold holdE; rw [if_pos hs]
    rw [hE, if_pos (by simp; omega), show (s != 1) = true by simp; omega, c1t]; rfl
  have e1 : (if (s != 0) = true then F.baizeref47_Hold.c1 d1 x1 d2 r d3 amt s till d1 (x1 + 1) d2 r (s != 1) else F.baizeref47_Hold.c1 d1 x1 d2 r d3 amt s till d1 (x1 + 1) d2 r false) = F.baizeref47_Hold.c1 d1 x1 d2 r d3 amt s till d1 (x1 + 1) d2 r false := by
    by_cases h0 : s = 0
    · simp [h0]
    · have : s = 1 := by omega
      subst this; rfl
  rw [e1]
  unfold F.baizeref47_Hold.c1
  rw [if_neg (by simp), positive_eq, Option.bind_some, rheight_eq, Option.bind_some]
  by_cases hm : 0 < amt ∧ amt ≤ 1125899906842624
  case neg =>
    have hE : holdE d2 (r.map own1) ⟨d3, amt, s, till⟩ = 2 := by unfold holdE; rw [if_neg (by simpa using hs), if_pos (fun q => hm q.1)]
    rw [hE, decide_eq_false hm, if_pos (by rfl), c2t]; rfl
  by_cases ht : 0 ≤ till ∧ till ≤ 1099511627776
  case neg =>
    have hE : holdE d2 (r.map own1) ⟨d3, amt, s, till⟩ = 2 := by unfold holdE; rw [if_neg (by simpa using hs), if_pos (fun q => ht q.2)]
    rw [hE, decide_eq_true hm, decide_eq_false ht, if_neg (by simp), Bool.not_false, c2t]; rfl
  rw [decide_eq_true hm, decide_eq_true ht, if_neg (by simp), Bool.not_true]
  unfold F.baizeref47_Hold.c2
  rw [if_neg (by simp), Place_eq _ _ _ _ hl, Option.bind_some]
  have hE0 : holdE d2 (r.map own1) ⟨d3, amt, s, till⟩ = if plcI (r.map own1) d3.1 ≥ 0 then 7 else if (r.map own1).length = 16 then 8 else if amt > aget d2 s then 21 else 0 := by
    unfold holdE; rw [if_neg (by simpa using hs), if_neg (fun q => q ⟨hm, ht⟩)]
  rw [hE0]
  clear hE0 e1 c1t c2t
  by_cases hp : plcI (r.map own1) d3.1 ≥ 0
  · rw [if_pos (by simpa using hp), if_pos hp]; rfl
  rw [if_neg (by simpa using hp), if_neg hp, List.length_map]
  by_cases h16 : r.length = 16
  · rw [if_pos (by simp; omega), if_pos h16]; rfl
  rw [if_neg (by simp; omega), if_neg h16, if_pos hs]
  by_cases hf : amt > aget d2 s
  · rw [if_pos (by simpa using hf), if_pos hf]; rfl
  have hlen : r.length + [(⟨d3, amt, s, till⟩ : S_baizeref47_Held)].length ≤ 4398046511104 := by simp; omega
  rw [if_neg (by simpa using hf), if_pos hs, if_pos hs, if_pos hlen, if_neg hf, if_neg (by simp)]
  rw [arr2 d2] at hf ⊢
  generalize aget d2 0 = a at *
  generalize aget d2 1 = b at *
  unfold Right at ha hb
  have h01 : s = 0 ∨ s = 1 := by omega
  rcases h01 with rfl | rfl
  · rw [(aget_mk2 a b).1] at hf
    rw [(aget_mk2 a b).1, (aset_mk2 a b _).1, wrap_id (x := a - amt) (by omega) (by omega)]
    simp [mv, aget_mk2, Int.sub_eq_add_neg, own2]
  · rw [(aget_mk2 a b).2] at hf
    rw [(aget_mk2 a b).2, (aset_mk2 a b _).2, wrap_id (x := b - amt) (by omega) (by omega)]
    simp [mv, aget_mk2, Int.sub_eq_add_neg, own2]

theorem getI_map (r : List S_baizeref47_Held) {i : Int} (h0 : 0 ≤ i) (h1 : i < (r.length : Int)) : getI (r.map own1) i = own1 (getI r i) := by
  have hlt : i.toNat < r.length := by omega
  unfold getI
  rw [List.getD_eq_getElem?_getD, List.getD_eq_getElem?_getD, List.getElem?_map, List.getElem?_eq_getElem hlt]
  rfl

theorem rFree_eq (d1 : Arr Int 8) (x1 : Int) (d2 : Arr Int 2) {r : List S_baizeref47_Held} (hl : r.length ≤ 40) (d3 : Arr Int 8) (over : Int) :
    F.baizeref47_Free d1 x1 d2 r d3 over = some (rconv (fin d1 x1 d2 (r.map own1) (freeE (r.map own1) d3.1 over) (partD d2 (getI (r.map own1) (plcI (r.map own1) d3.1)) over) (without (r.map own1) (plcI (r.map own1) d3.1)))) := by
  unfold F.baizeref47_Free
  refine rstep hl (fun d4 x5 d5 l2 => (F.baizeref47_Place d1 x1 d2 r d3).bind fun p => (if decide (p < 0) = true then (some ((zA 8), 0, (zA 2), [], 9)) else (if (0 : Int) ≤ p ∧ p < (r.length : Int) then (if decide (over < 0) = true then (F.baizeref47_Free.c1 r over d4 x5 d5 p true) else (F.baizeref47_Free.c1 r over d4 x5 d5 p (decide (over > (getI r p).f2)))) else none))) _ _ _ ?_
  intro hc hx
  obtain ⟨_, ha, hb, _, hok, _⟩ := chk_ok hc
  rw [Place_eq _ _ _ _ hl, Option.bind_some]
  by_cases hp : plcI (r.map own1) d3.1 < 0
  · have hE : freeE (r.map own1) d3.1 over = 9 := by unfold freeE; rw [if_pos hp]
    rw [if_pos (by simpa using hp), hE]; rfl
  obtain ⟨p0, p1⟩ := plcI_lt hp
  have hmem := hok _ (getI_mem p0 p1)
  rw [List.length_map] at p1
  have hg := getI_map r p0 p1
  have c1t : F.baizeref47_Free.c1 r over d1 (x1 + 1) d2 (plcI (r.map own1) d3.1) true = some ((zA 8), 0, (zA 2), [], 2) := by unfold F.baizeref47_Free.c1; rw [if_pos rfl]
  rw [if_neg (by simpa using hp), if_pos ⟨p0, p1⟩]
  by_cases h0 : over < 0
  · have hE : freeE (r.map own1) d3.1 over = 2 := by unfold freeE; rw [if_neg hp, if_pos (.inl h0)]
    rw [if_pos (by simpa using h0), c1t, hE]; rfl
  rw [if_neg (by simpa using h0)]
  by_cases h1 : over > (getI r (plcI (r.map own1) d3.1)).f2
  · have hE : freeE (r.map own1) d3.1 over = 2 := by unfold freeE; rw [if_neg hp, if_pos (.inr (by rw [hg]; exact h1))]
    rw [decide_eq_true h1, c1t, hE]; rfl
  have hE : freeE (r.map own1) d3.1 over = 0 := by
    unfold freeE; rw [if_neg hp, if_neg]
    rintro (q | q)
    · exact h0 q
    · rw [hg] at q; exact h1 q
  rw [decide_eq_false h1, hE, if_neg (show ¬ ((0 : Int) ≠ 0) by simp), hg]
  rw [hg] at hmem
  generalize plcI (r.map own1) d3.1 = i at *
  unfold F.baizeref47_Free.c1
  have hw : IntKind.i64.wrap (i + 1) = i + 1 := wrap_id (by omega) (by omega)
  have hs1 : sliceI r 0 i = r.take i.toNat := by simp [sliceI]
  have hs2 : sliceI r (i + 1) (r.length : Int) = r.drop (i.toNat + 1) := by
    unfold sliceI; rw [List.take_of_length_le]
    · congr 1; omega
    · simp
  have hwo : (without (r.map own1) i).map own2 = r.take i.toNat ++ r.drop (i.toNat + 1) := by
    unfold without
    rw [List.map_append, ← List.map_take, ← List.map_drop, map21, map21]
  rw [hw, hs1, hs2, hwo]
  have hl1 : ([] : List S_baizeref47_Held).length + (r.take i.toNat).length ≤ 4398046511104 := by rw [List.length_nil, List.length_take]; omega
  have hl2 : (([] : List S_baizeref47_Held) ++ r.take i.toNat).length + (r.drop (i.toNat + 1)).length ≤ 4398046511104 := by rw [List.nil_append, List.length_take, List.length_drop]; omega
  rw [if_neg (by simp)]
  generalize getI r i = h at *
  unfold hOk at hmem
  have q2 : (own1 h).f2 = h.f2 := rfl
  have q3 : (own1 h).f3 = h.f3 := rfl
  have q4 : (own1 h).f4 = h.f4 := rfl
  rw [q2, q3, q4] at hmem
  unfold partD
  rw [q2, q3, arr2 d2]
  generalize aget d2 0 = a at *
  generalize aget d2 1 = b at *
  unfold Right at ha hb
  have h01 : h.f3 = 0 ∨ h.f3 = 1 := by omega
  rcases h01 with h3 | h3
  · rw [h3]
    have w1 : IntKind.i64.wrap (1 - 0) = 1 := by decide
    rw [w1, if_pos (by decide), if_pos (by decide), if_pos (by decide), if_pos (by decide), if_pos (by omega), if_pos hl1, if_pos (by omega), if_pos hl2, (aget_mk2 a b).2, (aset_mk2 a b _).2, (aget_mk2 a _).1, (aset_mk2 a _ _).1, wrap_id (x := a + h.f2) (by omega) (by omega),
      wrap_id (x := a + h.f2 - over) (by omega) (by omega), wrap_id (x := b + over) (by omega) (by omega), Int.add_sub_assoc]
    rfl
  · rw [h3]
    have w1 : IntKind.i64.wrap (1 - 1) = 0 := by decide
    rw [w1, if_pos (by decide), if_pos (by decide), if_pos (by decide), if_pos (by decide), if_pos (by omega), if_pos hl1, if_pos (by omega), if_pos hl2, (aget_mk2 a b).1, (aset_mk2 a b _).1, (aget_mk2 _ b).2, (aset_mk2 _ b _).2, wrap_id (x := b + h.f2) (by omega) (by omega),
      wrap_id (x := b + h.f2 - over) (by omega) (by omega), wrap_id (x := a + over) (by omega) (by omega), Int.add_sub_assoc]
    rfl

theorem rBack_eq (d1 : Arr Int 8) (x1 : Int) (d2 : Arr Int 2) {r : List S_baizeref47_Held} (hl : r.length ≤ 40) (d3 : Arr Int 8) (now : Int) :
    F.baizeref47_Back d1 x1 d2 r d3 now = some (rconv (fin d1 x1 d2 (r.map own1) (backE (r.map own1) d3.1 now) (partD d2 (getI (r.map own1) (plcI (r.map own1) d3.1)) 0) (without (r.map own1) (plcI (r.map own1) d3.1)))) := by
  unfold F.baizeref47_Back
  refine rstep hl (fun d4 x5 d5 l2 => (F.baizeref47_Place d1 x1 d2 r d3).bind fun p => (if decide (p < 0) = true then (some ((zA 8), 0, (zA 2), [], 9)) else (if (0 : Int) ≤ p ∧ p < (r.length : Int) then (if decide (now ≤ (getI r p).f4) = true then (some ((zA 8), 0, (zA 2), [], 20)) else ((F.baizeref47_Free d1 x1 d2 r d3 0).bind fun (d6, x6, d7, l3, x7) => (some (d6, x6, d7, l3, x7)))) else none))) _ _ _ ?_
  intro hc hx
  obtain ⟨_, ha, hb, _, hok, _⟩ := chk_ok hc
  rw [Place_eq _ _ _ _ hl, Option.bind_some]
  by_cases hp : plcI (r.map own1) d3.1 < 0
  · have hE : backE (r.map own1) d3.1 now = 9 := by unfold backE; rw [if_pos hp]
    rw [if_pos (by simpa using hp), hE]; rfl
  obtain ⟨p0, p1⟩ := plcI_lt hp
  have hmem := hok _ (getI_mem p0 p1)
  rw [List.length_map] at p1
  have hg := getI_map r p0 p1
  rw [if_neg (by simpa using hp), if_pos ⟨p0, p1⟩]
  by_cases h1 : now ≤ (getI r (plcI (r.map own1) d3.1)).f4
  · have hE : backE (r.map own1) d3.1 now = 20 := by unfold backE; rw [if_neg hp, if_pos (by rw [hg]; exact h1)]
    rw [if_pos (by simpa using h1), hE]; rfl
  have hE : backE (r.map own1) d3.1 now = 0 := by unfold backE; rw [if_neg hp, if_neg (by rw [hg]; exact h1)]
  have hF : freeE (r.map own1) d3.1 0 = 0 := by
    unfold freeE; rw [if_neg hp, if_neg]
    unfold hOk at hmem; omega
  rw [if_neg (by simpa using h1), hE, rFree_eq _ _ _ hl, Option.bind_some, hF]
  unfold rconv fin
  rw [if_neg (by simpa using hc), if_neg hx]
  rfl

theorem want_eq (d1 : Arr Int 8) (x1 : Int) (d2 : Arr Int 2) {r : List S_baizeref47_Held} (hl : r.length ≤ 40) (w : Int) (d3 : Arr Int 8) (amt s till : Int) :
    F.baizelaw47_want d1 x1 d2 r w d3 amt s till = some (rconv (deed d1 x1 d2 (r.map own1) (w.tmod 4) d3 amt s till)) := by
  have idn : ∀ (o : Option RR), (o.bind fun (d4, x6, d5, l2, x7) => some (d4, x6, d5, l2, x7)) = o := by intro o; cases o <;> rfl
  unfold F.baizelaw47_want deed
  by_cases h0 : w.tmod 4 = 0
  · rw [if_pos (by simpa using h0), if_pos h0, idn, rPay_eq _ _ _ hl]
  rw [if_neg (by simpa using h0), if_neg h0]
  by_cases h1 : w.tmod 4 = 1
  · rw [if_pos (by simpa using h1), if_pos h1, idn, rHold_eq _ _ _ hl]
  rw [if_neg (by simpa using h1), if_neg h1]
  by_cases h2 : w.tmod 4 = 2
  · rw [if_pos (by simpa using h2), if_pos h2, idn, rFree_eq _ _ _ hl]
  rw [if_neg (by simpa using h2), if_neg h2, idn, rBack_eq _ _ _ hl]

/-! ### Back and sameness -/

theorem Back_l1 (d1 : Arr Int 8) (x1 : Int) (d2 : Arr Int 2) (l : List S_purse_Held) (hl : l.length ≤ 41) : ∀ (k i : Nat) (a : List S_baizeref47_Held), i ≤ l.length → l.length - i < k → a.length ≤ i →
    F.baizelaw47_Back.l1 d1 x1 d2 l k a (i : Int) = some (d1, x1, d2, a ++ (l.drop i).map own2)
  | k + 1, i, a, hi, hk, ha => by
    unfold F.baizelaw47_Back.l1
    by_cases h : i < l.length
    · have h1 := getI_drop (l := l) (i := (i : Int)) (by omega) (by omega)
      rw [show ((i : Int)).toNat = i by omega, show ((i : Int) + 1).toNat = i + 1 by omega] at h1
      have hw : IntKind.i64.wrap ((i : Int) + 1) = ((i + 1 : Nat) : Int) := by rw [wrap_id (by omega) (by omega)]; omega
      rw [if_pos (by simpa using h), if_pos (by omega), if_pos (by simp; omega), hw, Back_l1 d1 x1 d2 l hl k (i + 1) _ (by omega) (by omega) (by simp; omega), h1]
      simp [own2]
    · rw [if_neg (by simpa using h), List.drop_eq_nil_of_le (by omega)]; simp

theorem Back_eq (d1 : Arr Int 8) (x1 : Int) (d2 : Arr Int 2) {l : List S_purse_Held} (hl : l.length ≤ 41) : F.baizelaw47_Back d1 x1 d2 l = some (d1, x1, d2, l.map own2) := by
  have := Back_l1 d1 x1 d2 l hl fuel 0 [] (by omega) (by rw [fuel_eq]; omega) (by simp)
  simpa [F.baizelaw47_Back] using this

theorem rSame_l1 (l : List S_baizeref47_Held) (hl : l.length ≤ 41) : ∀ (k i : Nat), l.length - i < k → F.baizeref47_Same.l1 l l k (i : Int) = some true
  | k + 1, i, hk => by
    unfold F.baizeref47_Same.l1
    by_cases h : i < l.length
    · have hw : IntKind.i64.wrap ((i : Int) + 1) = ((i + 1 : Nat) : Int) := by rw [wrap_id (by omega) (by omega)]; omega
      rw [if_pos (by simpa using h), if_pos (by omega), if_pos (by omega), if_neg (by simp), hw, rSame_l1 l hl k (i + 1) (by omega)]
    · rw [if_neg (by simpa using h)]

theorem rSame_refl (d1 : Arr Int 8) (x1 : Int) (d2 : Arr Int 2) {l : List S_baizeref47_Held} (hl : l.length ≤ 41) : F.baizeref47_Same d1 x1 d2 l d1 x1 d2 l = some true := by
  unfold F.baizeref47_Same F.baizeref47_Same.c1
  rw [if_neg (by simp), if_neg (by simp), if_neg (by simp), if_neg (by simp)]
  exact rSame_l1 l hl fuel 0 (by rw [fuel_eq]; omega)

theorem deed_len (d1 : Arr Int 8) (x1 : Int) (d2 : Arr Int 2) {l : List S_purse_Held} (w : Int) (d3 : Arr Int 8) (amt s till : Int) : (deed d1 x1 d2 l w d3 amt s till).2.2.2.1.length ≤ 17 := by
  have key : ∀ e d2' l', (chk x1 d2 l = 0 → l'.length ≤ 17) → (fin d1 x1 d2 l e d2' l').2.2.2.1.length ≤ 17 := by
    intro e d2' l' h
    unfold fin zr
    split
    · simp
    split
    · simp
    split
    · simp
    · rename_i hc _ _; exact h (by simpa using hc)
  have h16 : chk x1 d2 l = 0 → l.length ≤ 16 := fun h => (chk_ok h).2.2.2.1
  have hwo : ∀ i, (without l i).length ≤ l.length + 0 := by intro i; unfold without; rw [List.length_append, List.length_take, List.length_drop]; omega
  unfold deed
  split
  · exact key _ _ _ fun h => by have := h16 h; omega
  split
  · exact key _ _ _ fun h => by have := h16 h; simp; omega
  split
  · exact key _ _ _ fun h => by have := h16 h; have := hwo (plcI l d3.1); omega
  · exact key _ _ _ fun h => by have := h16 h; have := hwo (plcI l d3.1); omega
end Go.Proofs.Yticlfbpmfejdoaa
