/-
  Plain facts of deeds on purses: each deed of the program's and of the document's, in one form.
-/
import Derived.Test.YticlfbpmfejdoaaPurseDeeds
namespace Go.Proofs.Yticlfbpmfejdoaa
open Go.Lab
set_option maxRecDepth 10000

abbrev RP := Arr Int 8 × Int × Arr Int 2 × List S_purse_Held × Int
def zr (e : Int) : RP := (zA 8, 0, zA 2, [], e)
/-- Side s has u more, the other v more. -/
def mv (d : Arr Int 2) (s u v : Int) : Arr Int 2 := if s = 0 then mk2 (aget d 0 + u) (aget d 1 + v) else mk2 (aget d 0 + v) (aget d 1 + u)
/-- What a deed comes to: its error, or the next purse. -/
def fin (d1 : Arr Int 8) (x1 : Int) (d2 : Arr Int 2) (l : List S_purse_Held) (e : Int) (d2' : Arr Int 2) (l' : List S_purse_Held) : RP :=
  if chk x1 d2 l ≠ 0 then zr 3 else if x1 = 1099511627776 then zr 17 else if e ≠ 0 then zr e else (d1, x1 + 1, d2', l', 0)

def payE (d2 : Arr Int 2) (s amt : Int) : Int :=
  if ¬ (0 ≤ s ∧ s < 2) then 28 else if ¬ (0 < amt ∧ amt ≤ 1125899906842624) then 2 else if amt > aget d2 s then 21 else 0
def holdE (d2 : Arr Int 2) (l : List S_purse_Held) (h : S_purse_Held) : Int :=
  if ¬ (0 ≤ h.f3 ∧ h.f3 < 2) then 28 else if ¬ ((0 < h.f2 ∧ h.f2 ≤ 1125899906842624) ∧ (0 ≤ h.f4 ∧ h.f4 ≤ 1099511627776)) then 2
  else if plcI l h.f1.1 ≥ 0 then 7 else if l.length = 16 then 8 else if h.f2 > aget d2 h.f3 then 21 else 0
def freeE (l : List S_purse_Held) (n : List Int) (over : Int) : Int :=
  if plcI l n < 0 then 9 else if over < 0 ∨ over > (getI l (plcI l n)).f2 then 2 else 0
def backE (l : List S_purse_Held) (n : List Int) (now : Int) : Int :=
  if plcI l n < 0 then 9 else if now ≤ (getI l (plcI l n)).f4 then 20 else 0
def partD (d2 : Arr Int 2) (h : S_purse_Held) (over : Int) : Arr Int 2 := mv d2 h.f3 (h.f2 - over) over
def without (l : List S_purse_Held) (i : Int) : List S_purse_Held := l.take i.toNat ++ l.drop (i.toNat + 1)

theorem aget_mk2 (a b : Int) : aget (mk2 a b) 0 = a ∧ aget (mk2 a b) 1 = b := ⟨rfl, rfl⟩
theorem aset_mk2 (a b v : Int) : aset (mk2 a b) 0 v = mk2 v b ∧ aset (mk2 a b) 1 v = mk2 a v := ⟨rfl, rfl⟩

theorem clone_eq {l : List S_purse_Held} (hl : l.length ≤ 40) : F.slices_Clone_purse_Held_purse_Held l = some l := by
  have hc : ([] : List S_purse_Held).length + l.length ≤ 4398046511104 := by rw [List.length_nil, Nat.zero_add]; omega
  unfold F.slices_Clone_purse_Held_purse_Held F.slices_Clone_purse_Held_purse_Held_some
  rw [if_pos hc]; rfl

theorem plcI_lt {l : List S_purse_Held} {n : List Int} (h : ¬ plcI l n < 0) : 0 ≤ plcI l n ∧ plcI l n < (l.length : Int) := by
  refine ⟨by omega, ?_⟩
  unfold plcI at h ⊢
  cases hp : plc l n with
  | none => rw [hp] at h; simp at h
  | some i => have := plc_lt hp; simp; omega

/-! ### The program's deeds -/

theorem Pay1_eq (d1 : Arr Int 8) (X : Int) {d2 : Arr Int 2} (l : List S_purse_Held) (s amt : Int) (ha : Right (aget d2 0)) (hb : Right (aget d2 1)) :
    F.purse_Purse_Pay_1 d1 X d2 l s amt = some (if payE d2 s amt ≠ 0 then (payE d2 s amt, d1, X, d2, l) else (0, d1, X, mv d2 s (-amt) amt, l)) := by
  unfold F.purse_Purse_Pay_1 payE
  rw [side_eq, Option.bind_some]
  by_cases hs : 0 ≤ s ∧ s < 2
  case neg => simp [hs]
  rw [decide_eq_true hs, some_eq, Option.bind_some]
  by_cases hm : 0 < amt ∧ amt ≤ 1125899906842624
  case neg => simp [hs, hm]
  rw [decide_eq_true hm, if_neg (by simp), if_neg (by simp), if_pos hs]
  simp only [hs, hm, not_true_eq_false, if_false, and_self]
  by_cases hf : amt > aget d2 s
  · simp [hf]
  rw [if_neg (by simpa using hf), if_pos trivial, if_pos trivial, if_neg hf]
  rw [arr2 d2] at hf ⊢
  generalize aget d2 0 = a at *
  generalize aget d2 1 = b at *
  unfold Right at ha hb
  have h01 : s = 0 ∨ s = 1 := by omega
  rcases h01 with rfl | rfl
  · rw [(aget_mk2 a b).1] at hf
    have w1 : IntKind.i64.wrap (1 - 0) = 1 := by decide
    rw [w1, if_pos (by decide), if_pos (by decide), (aget_mk2 a b).1, (aset_mk2 a b _).1, (aget_mk2 _ b).2, (aset_mk2 _ b _).2, wrap_id (x := a - amt) (by omega) (by omega), wrap_id (x := b + amt) (by omega) (by omega)]
    rfl
  · rw [(aget_mk2 a b).2] at hf
    have w1 : IntKind.i64.wrap (1 - 1) = 0 := by decide
    rw [w1, if_pos (by decide), if_pos (by decide), (aget_mk2 a b).2, (aset_mk2 a b _).2, (aget_mk2 a _).1, (aset_mk2 a _ _).1, wrap_id (x := b - amt) (by omega) (by omega), wrap_id (x := a + amt) (by omega) (by omega)]
    rfl

theorem Hold1_eq (d1 : Arr Int 8) (X : Int) {d2 : Arr Int 2} {l : List S_purse_Held} (hl : l.length ≤ 40) (d3 : Arr Int 8) (amt s till : Int) (ha : Right (aget d2 0)) (hb : Right (aget d2 1)) :
    F.purse_Purse_Hold_1 d1 X d2 l d3 amt s till = some (if holdE d2 l ⟨d3, amt, s, till⟩ ≠ 0 then (holdE d2 l ⟨d3, amt, s, till⟩, d1, X, d2, l) else (0, d1, X, mv d2 s (-amt) 0, l ++ [⟨d3, amt, s, till⟩])) := by
  unfold F.purse_Purse_Hold_1 holdE
  rw [side_eq, Option.bind_some]
  by_cases hs : 0 ≤ s ∧ s < 2
  case neg => simp [hs]
  have c1t : F.purse_Purse_Hold_1.c1 d1 X d2 l d3 amt s till true = some (2, d1, X, d2, l) := by unfold F.purse_Purse_Hold_1.c1; rw [if_pos rfl]
  rw [decide_eq_true hs, some_eq, Option.bind_some, height_eq, Option.bind_some]
  by_cases hm : 0 < amt ∧ amt ≤ 1125899906842624
  case neg => simp [hs, hm, c1t]
  by_cases ht : 0 ≤ till ∧ till ≤ 1099511627776
  case neg => simp [hs, hm, ht, c1t]
  rw [decide_eq_true hm, decide_eq_true ht, if_neg (by simp), if_neg (by simp), Bool.not_true]
  simp only [hs, hm, ht, not_true_eq_false, if_false, and_self]
  unfold F.purse_Purse_Hold_1.c1
  rw [if_neg (by simp), at_eq _ _ _ _ hl, Option.bind_some]
  by_cases hp : plcI l d3.1 ≥ 0
  · simp [hp]
  rw [if_neg (by simpa using hp), if_neg hp]
  by_cases h16 : l.length = 16
  · simp [h16]
  rw [if_neg (by simp; omega), if_neg h16, if_pos hs]
  by_cases hf : amt > aget d2 s
  · simp [hf]
  have hlen : l.length + [(⟨d3, amt, s, till⟩ : S_purse_Held)].length ≤ 4398046511104 := by simp; omega
  rw [if_neg (by simpa using hf), if_pos hs, if_pos hs, if_pos hlen, if_neg hf]
  rw [arr2 d2] at hf ⊢
  generalize aget d2 0 = a at *
  generalize aget d2 1 = b at *
  unfold Right at ha hb
  have h01 : s = 0 ∨ s = 1 := by omega
  rcases h01 with rfl | rfl
  · rw [(aget_mk2 a b).1] at hf
    rw [(aget_mk2 a b).1, (aset_mk2 a b _).1, wrap_id (x := a - amt) (by omega) (by omega)]
    simp [mv, aget_mk2, Int.sub_eq_add_neg]
  · rw [(aget_mk2 a b).2] at hf
    rw [(aget_mk2 a b).2, (aset_mk2 a b _).2, wrap_id (x := b - amt) (by omega) (by omega)]
    simp [mv, aget_mk2, Int.sub_eq_add_neg]

theorem Delete_eq {l : List S_purse_Held} {i : Int} (hi : 0 ≤ i ∧ i < (l.length : Int)) : F.slices_Delete_purse_Held_purse_Held l i (i + 1) = some (without l i) := by
  unfold F.slices_Delete_purse_Held_purse_Held without
  have e : (i + 1).toNat = i.toNat + 1 := by omega
  rw [if_pos (by omega), if_neg (by simp; omega), if_pos (by omega), if_pos (by omega), if_pos (by omega), e, if_pos]
  simp only [List.length_append, List.length_take, List.length_drop]
  omega

theorem part_eq (d1 : Arr Int 8) (X : Int) {d2 : Arr Int 2} {l : List S_purse_Held} (hl : l.length ≤ 40) {i over : Int} (hi : 0 ≤ i ∧ i < (l.length : Int)) (ho : 0 ≤ over ∧ over ≤ (getI l i).f2)
    (hh : hOk (getI l i)) (ha : Right (aget d2 0)) (hb : Right (aget d2 1)) : F.purse_Purse_part d1 X d2 l i over = some (d1, X, partD d2 (getI l i) over, without l i) := by
  unfold F.purse_Purse_part partD
  have hw : IntKind.i64.wrap (i + 1) = i + 1 := wrap_id (by omega) (by omega)
  rw [if_pos hi, hw, Delete_eq hi, Option.bind_some]
  generalize getI l i = h at *
  unfold hOk at hh
  rw [arr2 d2]
  generalize aget d2 0 = a at *
  generalize aget d2 1 = b at *
  unfold Right at ha hb
  have h01 : h.f3 = 0 ∨ h.f3 = 1 := by omega
  rcases h01 with h3 | h3
  · rw [h3]
    have w1 : IntKind.i64.wrap (1 - 0) = 1 := by decide
    rw [w1, if_pos (by decide), if_pos (by decide), if_pos (by decide), if_pos (by decide), (aget_mk2 a b).2, (aset_mk2 a b _).2, (aget_mk2 a _).1, (aset_mk2 a _ _).1, wrap_id (x := h.f2 - over) (by omega) (by omega), wrap_id (x := a + (h.f2 - over)) (by omega) (by omega), wrap_id (x := b + over) (by omega) (by omega)]
    rfl
  · rw [h3]
    have w1 : IntKind.i64.wrap (1 - 1) = 0 := by decide
    rw [w1, if_pos (by decide), if_pos (by decide), if_pos (by decide), if_pos (by decide), (aget_mk2 a b).1, (aset_mk2 a b _).1, (aget_mk2 _ b).2, (aset_mk2 _ b _).2, wrap_id (x := h.f2 - over) (by omega) (by omega), wrap_id (x := b + (h.f2 - over)) (by omega) (by omega), wrap_id (x := a + over) (by omega) (by omega)]
    rfl

theorem Free1_eq (d1 : Arr Int 8) (X : Int) {d2 : Arr Int 2} {l : List S_purse_Held} (hl : l.length ≤ 40) (hok : ∀ x ∈ l, hOk x) (d3 : Arr Int 8) (over : Int) (ha : Right (aget d2 0)) (hb : Right (aget d2 1)) :
    F.purse_Purse_Free_1 d1 X d2 l d3 over = some (if freeE l d3.1 over ≠ 0 then (freeE l d3.1 over, d1, X, d2, l) else (0, d1, X, partD d2 (getI l (plcI l d3.1)) over, without l (plcI l d3.1))) := by
  unfold F.purse_Purse_Free_1
  rw [at_eq _ _ _ _ hl, Option.bind_some]
  by_cases hp : plcI l d3.1 < 0
  · have hE : freeE l d3.1 over = 9 := by unfold freeE; rw [if_pos hp]
    rw [if_pos (by simpa using hp), hE]; rfl
  obtain ⟨p0, p1⟩ := plcI_lt hp
  have c1t : F.purse_Purse_Free_1.c1 d1 X d2 l over (plcI l d3.1) true = some (2, d1, X, d2, l) := by unfold F.purse_Purse_Free_1.c1; rw [if_pos rfl]
  rw [if_neg (by simpa using hp)]
  by_cases h0 : over < 0
  · have hE : freeE l d3.1 over = 2 := by unfold freeE; rw [if_neg hp, if_pos (.inl h0)]
    rw [if_pos (by simpa using h0), c1t, hE]; rfl
  rw [if_neg (by simpa using h0), if_pos ⟨p0, p1⟩]
  by_cases h1 : over > (getI l (plcI l d3.1)).f2
  · have hE : freeE l d3.1 over = 2 := by unfold freeE; rw [if_neg hp, if_pos (.inr h1)]
    rw [decide_eq_true h1, c1t, hE]; rfl
  have hE : freeE l d3.1 over = 0 := by unfold freeE; rw [if_neg hp, if_neg (fun q => q.elim h0 h1)]
  rw [decide_eq_false h1, hE]
  unfold F.purse_Purse_Free_1.c1
  rw [if_neg (by simp), part_eq d1 X hl ⟨p0, p1⟩ (by omega) (hok _ (getI_mem p0 p1)) ha hb]
  rfl

theorem Back1_eq (d1 : Arr Int 8) (X : Int) {d2 : Arr Int 2} {l : List S_purse_Held} (hl : l.length ≤ 40) (hok : ∀ x ∈ l, hOk x) (d3 : Arr Int 8) (now : Int) (ha : Right (aget d2 0)) (hb : Right (aget d2 1)) :
    F.purse_Purse_Back_1 d1 X d2 l d3 now = some (if backE l d3.1 now ≠ 0 then (backE l d3.1 now, d1, X, d2, l) else (0, d1, X, partD d2 (getI l (plcI l d3.1)) 0, without l (plcI l d3.1))) := by
  unfold F.purse_Purse_Back_1
  rw [at_eq _ _ _ _ hl, Option.bind_some]
  by_cases hp : plcI l d3.1 < 0
  · have hE : backE l d3.1 now = 9 := by unfold backE; rw [if_pos hp]
    rw [if_pos (by simpa using hp), hE]; rfl
  obtain ⟨p0, p1⟩ := plcI_lt hp
  have hm := hok _ (getI_mem p0 p1)
  rw [if_neg (by simpa using hp), if_pos ⟨p0, p1⟩]
  by_cases h1 : now ≤ (getI l (plcI l d3.1)).f4
  · have hE : backE l d3.1 now = 20 := by unfold backE; rw [if_neg hp, if_pos h1]
    rw [if_pos (by simpa using h1), hE]; rfl
  have hE : backE l d3.1 now = 0 := by unfold backE; rw [if_neg hp, if_neg h1]
  rw [if_neg (by simpa using h1), hE, part_eq d1 X hl ⟨p0, p1⟩ (by unfold hOk at hm; omega) hm ha hb]
  rfl

/-- A deed, by its word. -/
def deed (d1 : Arr Int 8) (x1 : Int) (d2 : Arr Int 2) (l : List S_purse_Held) (w : Int) (d3 : Arr Int 8) (amt s till : Int) : RP :=
  if w = 0 then fin d1 x1 d2 l (payE d2 s amt) (mv d2 s (-amt) amt) l
  else if w = 1 then fin d1 x1 d2 l (holdE d2 l ⟨d3, amt, s, till⟩) (mv d2 s (-amt) 0) (l ++ [⟨d3, amt, s, till⟩])
  else if w = 2 then fin d1 x1 d2 l (freeE l d3.1 amt) (partD d2 (getI l (plcI l d3.1)) amt) (without l (plcI l d3.1))
  else fin d1 x1 d2 l (backE l d3.1 till) (partD d2 (getI l (plcI l d3.1)) 0) (without l (plcI l d3.1))

theorem next_fin {d1 : Arr Int 8} {x1 : Int} {d2 : Arr Int 2} {l : List S_purse_Held} (hl : l.length ≤ 40) (g : List S_purse_Held → Option (Int × Arr Int 8 × Int × Arr Int 2 × List S_purse_Held)) (e : Int) (d2' : Arr Int 2) (l' : List S_purse_Held)
    (h : chk x1 d2 l = 0 → x1 ≠ 1099511627776 → g l = some (if e ≠ 0 then (e, d1, x1 + 1, d2, l) else (0, d1, x1 + 1, d2', l'))) :
    ((F.purse_Purse_Check d1 x1 d2 l).bind fun x4 => (if (x4 != 0) = true then (some ((zA 8), 0, (zA 2), ([] : List S_purse_Held), 3)) else (if (x1 == 1099511627776) = true then (some ((zA 8), 0, (zA 2), [], 17)) else ((F.slices_Clone_purse_Held_purse_Held l).bind fun l2 => ((g l2).bind fun (x5, d3, x6, d4, d5) => (if (x5 != 0) = true then (some ((zA 8), 0, (zA 2), [], x5)) else (some (d3, x6, d4, d5, 0)))))))) = some (fin d1 x1 d2 l e d2' l') := by
  unfold fin zr
  rw [Check_eq _ _ _ hl, Option.bind_some]
  by_cases hc : chk x1 d2 l = 0
  case neg => simp [hc]
  by_cases hx : x1 = 1099511627776
  · rw [hc, if_neg (by simp), if_pos (by simpa using hx), if_neg (by simp), if_pos hx]
  rw [clone_eq hl, Option.bind_some, h hc hx]
  by_cases he : e = 0 <;> simp [hc, hx, he]

theorem do_eq (d1 : Arr Int 8) (x1 : Int) (d2 : Arr Int 2) {l : List S_purse_Held} (hl : l.length ≤ 40) (w : Int) (d3 : Arr Int 8) (amt s till : Int) :
    F.baizelaw47_do d1 x1 d2 l w d3 amt s till = some (deed d1 x1 d2 l (w.tmod 4) d3 amt s till) := by
  have hw : chk x1 d2 l = 0 → x1 ≠ 1099511627776 → IntKind.i64.wrap (x1 + 1) = x1 + 1 := by
    intro h _
    have := (chk_ok h).1
    exact wrap_id (by omega) (by omega)
  have idn : ∀ (o : Option RP), (o.bind fun (d4, x6, d5, l2, x7) => some (d4, x6, d5, l2, x7)) = o := by intro o; cases o <;> rfl
  unfold F.baizelaw47_do deed
  by_cases h0 : w.tmod 4 = 0
  · rw [if_pos (by simpa using h0), if_pos h0]
    unfold F.purse_Purse_Pay
    rw [idn, idn]
    unfold F.purse_Purse_next_4
    refine next_fin hl (fun l => _) _ _ _ ?_
    intro hc hx
    obtain ⟨_, r0, r1, _⟩ := chk_ok hc
    rw [hw hc hx, Pay1_eq d1 (x1 + 1) l s amt r0 r1]
  rw [if_neg (by simpa using h0), if_neg h0]
  by_cases h1 : w.tmod 4 = 1
  · rw [if_pos (by simpa using h1), if_pos h1]
    unfold F.purse_Purse_Hold
    rw [idn, idn]
    unfold F.purse_Purse_next
    refine next_fin hl (fun l => _) _ _ _ ?_
    intro hc hx
    obtain ⟨_, r0, r1, _⟩ := chk_ok hc
    rw [hw hc hx, Hold1_eq d1 (x1 + 1) hl d3 amt s till r0 r1]
  rw [if_neg (by simpa using h1), if_neg h1]
  by_cases h2 : w.tmod 4 = 2
  · rw [if_pos (by simpa using h2), if_pos h2]
    unfold F.purse_Purse_Free
    rw [idn, idn]
    unfold F.purse_Purse_next_2
    refine next_fin hl (fun l => _) _ _ _ ?_
    intro hc hx
    obtain ⟨_, r0, r1, _, hok, _⟩ := chk_ok hc
    rw [hw hc hx, Free1_eq d1 (x1 + 1) hl hok d3 amt r0 r1]
  rw [if_neg (by simpa using h2), if_neg h2]
  unfold F.purse_Purse_Back
  rw [idn, idn]
  unfold F.purse_Purse_next_3
  refine next_fin hl (fun l => _) _ _ _ ?_
  intro hc hx
  obtain ⟨_, r0, r1, _, hok, _⟩ := chk_ok hc
  rw [hw hc hx, Back1_eq d1 (x1 + 1) hl hok d3 till r0 r1]
end Go.Proofs.Yticlfbpmfejdoaa
