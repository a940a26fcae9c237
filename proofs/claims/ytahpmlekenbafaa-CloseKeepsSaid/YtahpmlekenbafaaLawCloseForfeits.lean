/-
  The plain law of CloseForfeits: payouts of which a seat loses its bond are as the document says.
-/
import Derived.Test.YtahpmlekenbafaaLawCloseOrder
namespace Go.Proofs.Ytahpmlekenbafaa
open Go.Lab
set_option linter.unusedVariables false

theorem setI_take {α : Type} {l : List α} {i : Int} {x : α} (h0 : 0 ≤ i) (h1 : i < (l.length : Int)) : (setI l i x).take (i + 1).toNat = l.take i.toNat ++ [x] := by
  have hlt : i.toNat < l.length := by omega
  unfold setI
  rw [show (i + 1).toNat = i.toNat + 1 by omega, List.set_eq_take_append_cons_drop, if_pos hlt, List.take_append, List.length_take, Nat.min_eq_left (by omega),
    List.take_of_length_le (by rw [List.length_take]; omega), show i.toNat + 1 - i.toNat = 1 by omega]
  simp
theorem setI_drop {α : Type} {l : List α} {i : Int} {x : α} (h0 : 0 ≤ i) (h1 : i < (l.length : Int)) : (setI l i x).drop (i + 1).toNat = l.drop (i + 1).toNat := by
  unfold setI
  rw [List.drop_set_of_lt (by omega)]
theorem getI_setI {α : Type} [Inhabited α] {l : List α} {i : Int} {x : α} (h0 : 0 ≤ i) (h1 : i < (l.length : Int)) : getI (setI l i x) i = x := by
  unfold getI setI
  rw [List.getD_eq_getElem?_getD, List.getElem?_set_self (by omega)]
  rfl
theorem take_app_drop {α : Type} {l : List α} {i : Int} {x : α} (rest : List α) : (l.take i.toNat ++ [x]) ++ rest = l.take i.toNat ++ x :: rest := by simp

theorem take_succ_getI {α : Type} [Inhabited α] {l : List α} {i : Int} (h0 : 0 ≤ i) (h1 : i < (l.length : Int)) : l.take (i + 1).toNat = l.take i.toNat ++ [getI l i] := by
  have hlt : i.toNat < l.length := by omega
  rw [show (i + 1).toNat = i.toNat + 1 by omega, List.take_add_one, List.getElem?_eq_getElem hlt]
  unfold getI
  rw [List.getD_eq_getElem?_getD, List.getElem?_eq_getElem hlt]
  rfl

/-- Two lists are alike just if they are one. -/
theorem Alike_l1 (l : List Int) (hl : (l.length : Int) ≤ maxLen) : ∀ (k : Nat) (i : Int), 0 ≤ i → i ≤ (l.length : Int) → (l.length : Int) - i < k → F.baizeref03_Alike.l1 l l k i = some true := by
  have hm : (maxLen : Int) = 9223372036854775807 := rfl
  intro k
  induction k with
  | zero => intro i h0 h1 h2; omega
  | succ k ih =>
    intro i h0 h1 h2
    unfold F.baizeref03_Alike.l1
    by_cases hi : i < (l.length : Int)
    · simp only [hi, h0, decide_true, if_true, and_self, bne_self_eq_false, Bool.false_eq_true, if_false]
      rw [wrap_succ h0 (by omega)]
      exact ih _ (by omega) (by omega) (by omega)
    · simp [hi]
theorem Alike_refl (l : List Int) (hl : l.length ≤ maxLen) : F.baizeref03_Alike l l = some true := by
  have hm : (maxLen : Int) = 9223372036854775807 := rfl
  unfold F.baizeref03_Alike
  rw [Alike_l1 l (by omega) fuel 0 (by omega) (by omega) (by rw [fuel_eq]; omega)]
  simp

/-- The weights of all others that are there. -/
def wts (seat : Int) : List Bool → Int → List Int
  | [], _ => []
  | g :: gs, j => (if j = seat ∨ g = true then 0 else 1) :: wts seat gs (j + 1)
theorem wts_length (seat : Int) : ∀ (gs : List Bool) (j : Int), (wts seat gs j).length = gs.length
  | [], _ => rfl
  | _ :: gs, j => by simp [wts, wts_length seat gs]
theorem wts_01 (seat : Int) : ∀ (gs : List Bool) (j : Int), ∀ w ∈ wts seat gs j, w = 0 ∨ w = 1
  | [], _, w, h => by simp [wts] at h
  | g :: gs, j, w, h => by
    simp only [wts, List.mem_cons] at h
    rcases h with rfl | h
    · split <;> simp
    · exact wts_01 seat gs _ w h

theorem others_l1 (seat : Int) (gone : List Bool) (hl : gone.length ≤ 10) : ∀ (k : Nat) (out : List Int) (some' : Bool) (i : Int), 0 ≤ i → i ≤ (gone.length : Int) → (gone.length : Int) - i < k → out.length = gone.length →
    F.close_others.l1 seat gone k out some' i = some (out.take i.toNat ++ wts seat (gone.drop i.toNat) i, some' || (wts seat (gone.drop i.toNat) i).any (· != 0)) := by
  intro k
  induction k with
  | zero => intro out s i h0 h1 h2; omega
  | succ k ih =>
    intro out s i h0 h1 h2 ho
    unfold F.close_others.l1
    by_cases hi : i < (gone.length : Int)
    · have hio : i < (out.length : Int) := by omega
      have hw : F.close_others_1 i seat gone = some (if i = seat ∨ getI gone i = true then 0 else 1) := by
        unfold F.close_others_1 F.close_others_1.c1
        by_cases he : i = seat
        · simp [he]
        · simp only [beq_iff_eq, he, if_false, h0, hi, and_self, if_true, false_or]
          cases getI gone i <;> rfl
      rw [getI_drop h0 hi]
      simp only [hi, h0, decide_true, if_true, and_self, hw, Option.bind_some, hio, setI_length, getI_setI h0 hio, F.close_others.c1, wts, List.any_cons]
      rw [wrap_succ h0 (by omega)]
      by_cases he : i = seat ∨ getI gone i = true
      · simp only [he, if_true, beq_self_eq_true, bne_self_eq_false, Bool.false_or]
        rw [ih _ _ _ (by omega) (by omega) (by omega) (by rw [setI_length]; omega), setI_take h0 hio, take_app_drop]
      · simp only [he, if_false, bne_iff_ne]
        rw [if_neg (by decide), ih _ _ _ (by omega) (by omega) (by omega) (by rw [setI_length]; omega), setI_take h0 hio, take_app_drop]
        simp
    · rw [drop_end hi]
      simp only [hi, decide_false, Bool.false_eq_true, if_false, wts, List.append_nil, List.any_nil, Bool.or_false]
      rw [List.take_of_length_le (by omega)]
theorem others_eq (seat : Int) (gone : List Bool) (hl : gone.length ≤ 10) : F.close_others seat gone = some (wts seat gone 0, (wts seat gone 0).any (· != 0)) := by
  unfold F.close_others
  have h1 : (0 : Int) ≤ (gone.length : Int) ∧ (gone.length : Int) ≤ 17592186044416 := by omega
  rw [if_pos h1, others_l1 seat gone hl fuel _ _ 0 (by omega) (by omega) (by rw [fuel_eq]; omega) (by simp)]
  simp

/-- One more each to the first ones. -/
def give : List Int → List Int → Int → List Int
  | w :: ws, o :: os, left => if left = 0 then o :: os else if w = 0 then o :: give ws os left else (o + 1) :: give ws os (left - 1)
  | _, os, _ => os
theorem give_length : ∀ (ws os : List Int) (left : Int), (give ws os left).length = os.length
  | [], os, _ => by cases os <;> rfl
  | _ :: _, [], _ => rfl
  | w :: ws, o :: os, left => by
    simp only [give]
    split
    · rfl
    · split <;> simp [give_length ws os]

theorem weigh_l1 (l : List Int) (hl : l.length ≤ 10) (h01 : ∀ w ∈ l, w = 0 ∨ w = 1) : ∀ (k : Nat) (acc i : Int), 0 ≤ i → i ≤ (l.length : Int) → (l.length : Int) - i < k → 0 ≤ acc → acc ≤ i →
    F.coin_weigh.l1 l k acc i = some (if acc + (l.drop i.toNat).sum = 0 then (0, 1) else (acc + (l.drop i.toNat).sum, 0)) := by
  intro k
  induction k with
  | zero => intro acc i h0 h1 h2; omega
  | succ k ih =>
    intro acc i h0 h1 h2 h3 h4
    unfold F.coin_weigh.l1
    by_cases hi : i < (l.length : Int)
    · have hw := h01 _ (getI_mem h0 hi)
      rw [getI_drop h0 hi]
      have n1 : ¬ (getI l i < 0) := by omega
      have n2 : ¬ (getI l i > 1024) := by omega
      simp only [hi, h0, decide_true, if_true, and_self, n1, n2, decide_false, Bool.false_eq_true, if_false, F.coin_weigh.c1, List.sum_cons]
      rw [wrap_id (by omega) (by omega), wrap_succ h0 (by omega), ih _ _ (by omega) (by omega) (by omega) (by omega) (by omega)]
      simp only [Int.add_assoc]
      by_cases hz : acc + (getI l i + (l.drop (i + 1).toNat).sum) = 0 <;> simp [hz]
    · rw [drop_end hi]
      simp only [hi, decide_false, Bool.false_eq_true, if_false, beq_iff_eq, List.sum_nil, Int.add_zero]
      split <;> rfl
theorem weigh_eq (l : List Int) (hl : l.length ≤ 10) (h01 : ∀ w ∈ l, w = 0 ∨ w = 1) : F.coin_weigh l = some (if l.sum = 0 then (0, 1) else (l.sum, 0)) := by
  unfold F.coin_weigh
  rw [weigh_l1 l hl h01 fuel 0 0 (by omega) (by omega) (by rw [fuel_eq]; omega) (by omega) (by omega)]
  simp
theorem sum_01 : ∀ (l : List Int), (∀ w ∈ l, w = 0 ∨ w = 1) → 0 ≤ l.sum ∧ l.sum ≤ l.length
  | [], _ => by simp
  | w :: ws, h => by
    have h1 := h w (by simp)
    have h2 := sum_01 ws fun z hz => h z (by simp [hz])
    rw [List.sum_cons, List.length_cons]; omega
theorem any_01 : ∀ (l : List Int), (∀ w ∈ l, w = 0 ∨ w = 1) → ((l.any (· != 0)) = false ↔ l.sum = 0)
  | [], _ => by simp
  | w :: ws, h => by
    have h1 := h w (by simp)
    have h2 := any_01 ws fun z hz => h z (by simp [hz])
    have h3 := sum_01 ws fun z hz => h z (by simp [hz])
    rw [List.sum_cons, List.any_cons]
    rcases h1 with rfl | rfl
    · simpa using h2
    · simp; omega

/-- The first parts. -/
theorem split_l1 (x1 n : Int) (ws : List Int) (hl : ws.length ≤ 10) (h01 : ∀ w ∈ ws, w = 0 ∨ w = 1) (hn : 0 < n) (hx0 : 0 ≤ x1) (hx1 : x1 ≤ 1125899906842624) : ∀ (k : Nat) (left : Int) (out : List Int) (i : Int), 0 ≤ i → i ≤ (ws.length : Int) →
    (ws.length : Int) - i < k → out.length = ws.length → -20000000000000000 ≤ left - (x1 / n) * (ws.drop i.toNat).sum → left ≤ 1125899906842624 →
    F.coin_Split.l1 x1 ws n k left out i = F.coin_Split.l2 ws fuel (left - (x1 / n) * (ws.drop i.toNat).sum) (out.take i.toNat ++ (ws.drop i.toNat).map fun w => (x1 / n) * w) 0 := by
  have hq0 : 0 ≤ x1 / n := Int.ediv_nonneg hx0 (by omega)
  have hq1 : x1 / n ≤ x1 := Int.ediv_le_self n hx0
  intro k
  induction k with
  | zero => intro left out i h0 h1 h2; omega
  | succ k ih =>
    intro left out i h0 h1 h2 ho hb1 hb2
    unfold F.coin_Split.l1
    by_cases hi : i < (ws.length : Int)
    · have hio : i < (out.length : Int) := by omega
      have hw := h01 _ (getI_mem h0 hi)
      have hs := sum_01 (ws.drop (i + 1).toNat) fun w hw => h01 w (List.mem_of_mem_drop hw)
      have hqs : 0 ≤ (x1 / n) * (ws.drop (i + 1).toNat).sum := Int.mul_nonneg hq0 hs.1
      have hp : IntKind.i64.wrap ((IntKind.i64.wrap (x1 * getI ws i)).tdiv n) = (x1 / n) * getI ws i := by
        rcases hw with hw | hw
        · rw [hw, Int.mul_zero, Int.mul_zero, wrap_id (x := 0) (by omega) (by omega), Int.zero_tdiv, wrap_id (x := 0) (by omega) (by omega)]
        · rw [hw, Int.mul_one, Int.mul_one, wrap_id (x := x1) (by omega) (by omega), Int.tdiv_eq_ediv_of_nonneg hx0, wrap_id (by omega) (by omega)]
      rw [getI_drop h0 hi] at hb1 ⊢
      simp only [hi, h0, decide_true, if_true, and_self, show n ≠ 0 by omega, ne_eq, not_false_eq_true, hio, setI_length, getI_setI h0 hio, hp, List.map_cons, List.sum_cons] at hb1 ⊢
      rw [Int.mul_add] at hb1
      have hp0 : 0 ≤ (x1 / n) * getI ws i := by rcases hw with hw | hw <;> rw [hw] <;> omega
      rw [wrap_id (by omega) (by omega), wrap_succ h0 (by omega), ih _ _ _ (by omega) (by omega) (by omega) (by rw [setI_length]; omega) (by omega) (by omega), setI_take h0 hio, take_app_drop, Int.mul_add]
      congr 1
      omega
    · rw [drop_end hi]
      simp only [hi, decide_false, Bool.false_eq_true, if_false, List.map_nil, List.append_nil, List.sum_nil, Int.mul_zero, Int.sub_zero]
      rw [List.take_of_length_le (by omega)]

theorem split_l2 (ws : List Int) (hl : ws.length ≤ 10) (h01 : ∀ w ∈ ws, w = 0 ∨ w = 1) : ∀ (k : Nat) (left : Int) (out : List Int) (i : Int), 0 ≤ i → i ≤ (ws.length : Int) → (ws.length : Int) - i < k → out.length = ws.length →
    0 ≤ left → left ≤ 1125899906842624 → (∀ y ∈ out.drop i.toNat, 0 ≤ y ∧ y ≤ 1125899906842624) → F.coin_Split.l2 ws k left out i = some (out.take i.toNat ++ give (ws.drop i.toNat) (out.drop i.toNat) left, 0) := by
  intro k
  induction k with
  | zero => intro left out i h0 h1 h2; omega
  | succ k ih =>
    intro left out i h0 h1 h2 ho hb0 hb1 hy
    unfold F.coin_Split.l2
    by_cases hi : i < (ws.length : Int)
    · have hio : i < (out.length : Int) := by omega
      have hyi := hy (getI out i) (by rw [getI_drop h0 hio]; simp)
      rw [getI_drop h0 hi, getI_drop h0 hio]
      simp only [hi, h0, decide_true, if_true, and_self, beq_iff_eq, hio, give, F.coin_Split.c2, F.coin_Split.c3]
      have hback : out.take i.toNat ++ getI out i :: out.drop (i + 1).toNat = out := by rw [← getI_drop h0 hio, List.take_append_drop]
      have hrest : ∀ y ∈ out.drop (i + 1).toNat, 0 ≤ y ∧ y ≤ 1125899906842624 := fun y hy' => hy y (by rw [getI_drop h0 hio]; exact List.mem_cons_of_mem _ hy')
      by_cases hz : left = 0
      · simp only [hz, if_true, hback]
      · rw [if_neg hz, if_neg hz]
        by_cases hw : getI ws i = 0
        · rw [if_pos hw, if_pos hw, wrap_succ h0 (by omega), ih _ _ _ (by omega) (by omega) (by omega) ho hb0 hb1 hrest]
          rw [take_succ_getI h0 hio, take_app_drop]
        · rw [if_neg hw, if_neg hw, wrap_succ h0 (by omega), wrap_id (by omega) (by omega), wrap_id (by omega) (by omega)]
          rw [ih _ _ _ (by omega) (by omega) (by omega) (by rw [setI_length]; omega) (by omega) (by omega) (by rw [setI_drop h0 hio]; exact hrest), setI_take h0 hio, setI_drop h0 hio, take_app_drop]
    · rw [drop_end hi, List.drop_eq_nil_of_le (by omega : out.length ≤ i.toNat)]
      simp only [hi, decide_false, Bool.false_eq_true, if_false, give, List.append_nil, F.coin_Split.c2]
      rw [List.take_of_length_le (by omega)]

/-- The parts of a sum among those that are there. -/
def parts (x1 : Int) (ws : List Int) : List Int := give ws (ws.map fun w => (x1 / ws.sum) * w) (x1 - (x1 / ws.sum) * ws.sum)
theorem Split_eq (x1 : Int) (ws : List Int) (hr : rightB x1 = true) (h0 : 0 < ws.length) (h8 : ws.length ≤ 8) (h01 : ∀ w ∈ ws, w = 0 ∨ w = 1) (hs : ws.sum ≠ 0) : F.coin_Split x1 ws = some (parts x1 ws, 0) := by
  have hx := rightB_iff.1 hr
  have hs2 := sum_01 ws h01
  have hn : 0 < ws.sum := by omega
  have hlo : ¬ ((ws.length : Int) = 0) := by omega
  have hhi : ¬ ((ws.length : Int) > 8) := by omega
  unfold F.coin_Split F.coin_Split.c1
  simp only [coin_Right_eq, hr, Option.bind_some, Bool.not_true, Bool.false_eq_true, if_false, beq_iff_eq, hlo, hhi, decide_false, weigh_eq ws (by omega) h01, hs]
  have hc : (0 : Int) ≤ (ws.length : Int) ∧ (ws.length : Int) ≤ 17592186044416 := by omega
  have hm := Int.emod_nonneg x1 (show ws.sum ≠ 0 by omega)
  have hm2 := Int.emod_lt_of_pos x1 hn
  have hd := Int.mul_ediv_add_emod x1 ws.sum
  have hcm : (x1 / ws.sum) * ws.sum = ws.sum * (x1 / ws.sum) := Int.mul_comm _ _
  have hq0 : 0 ≤ x1 / ws.sum := Int.ediv_nonneg hx.1 (by omega)
  have hq1 : x1 / ws.sum ≤ x1 := Int.ediv_le_self _ hx.1
  simp only [bne_self_eq_false, Bool.false_eq_true, if_false, hc, and_self, if_true]
  rw [split_l1 x1 ws.sum ws (by omega) h01 hn hx.1 hx.2 fuel x1 _ 0 (by omega) (by omega) (by rw [fuel_eq]; omega) (by simp) (by simp only [Int.toNat_zero, List.drop_zero]; omega) hx.2]
  simp only [Int.toNat_zero, List.drop_zero, List.take_zero, List.nil_append]
  rw [split_l2 ws (by omega) h01 fuel _ _ 0 (by omega) (by omega) (by rw [fuel_eq]; omega) (by simp) (by omega) (by omega) ?_]
  · simp [parts]
  · intro y hy
    simp only [Int.toNat_zero, List.drop_zero, List.mem_map] at hy
    obtain ⟨w, hw, rfl⟩ := hy
    rcases h01 w hw with rfl | rfl <;> omega
/-- Lists added. -/
def addl : List Int → List Int → List Int
  | a :: us, b :: bs => (a + b) :: addl us bs
  | us, _ => us
theorem addl_length : ∀ (us bs : List Int), (addl us bs).length = us.length
  | [], _ => rfl
  | _ :: _, [] => rfl
  | a :: us, b :: bs => by simp [addl, addl_length us bs]
theorem give_addl : ∀ (ws us bs : List Int) (left : Int), bs.length = us.length → give ws (addl us bs) left = addl us (give ws bs left)
  | [], us, bs, left, _ => by cases us <;> cases bs <;> rfl
  | w :: ws, [], bs, left, h => by
    have : bs = [] := List.eq_nil_of_length_eq_zero h
    subst this; rfl
  | w :: ws, a :: us, [], left, h => by simp at h
  | w :: ws, a :: us, b :: bs, left, h => by
    simp only [addl, give]
    split
    · simp [addl]
    · split
      · simp [addl, give_addl ws us bs left (by simpa using h)]
      · simp [addl, give_addl ws us bs (left - 1) (by simpa using h), Int.add_assoc]

theorem forfeit_l1 (ps : List Int) (hl : ps.length ≤ 10) (hp : ∀ y ∈ ps, 0 ≤ y ∧ y ≤ 3125899906842624) : ∀ (k : Nat) (out : List Int) (i : Int), 0 ≤ i → i ≤ (ps.length : Int) → (ps.length : Int) - i < k → out.length = ps.length →
    (∀ y ∈ out.drop i.toNat, -1125899906842624 ≤ y ∧ y ≤ 1125899906842624) → F.close_Forfeit.l1 ps k out i = some (out.take i.toNat ++ addl (out.drop i.toNat) (ps.drop i.toNat), 0) := by
  intro k
  induction k with
  | zero => intro out i h0 h1 h2; omega
  | succ k ih =>
    intro out i h0 h1 h2 ho hy
    unfold F.close_Forfeit.l1
    by_cases hi : i < (ps.length : Int)
    · have hio : i < (out.length : Int) := by omega
      have hyi := hy (getI out i) (by rw [getI_drop h0 hio]; simp)
      have hpi := hp _ (getI_mem h0 hi)
      have hrest : ∀ y ∈ out.drop (i + 1).toNat, -1125899906842624 ≤ y ∧ y ≤ 1125899906842624 := fun y hy' => hy y (by rw [getI_drop h0 hio]; exact List.mem_cons_of_mem _ hy')
      rw [getI_drop h0 hi, getI_drop h0 hio]
      simp only [hi, h0, decide_true, if_true, and_self, hio, addl]
      rw [wrap_succ h0 (by omega), wrap_id (by omega) (by omega), ih _ _ (by omega) (by omega) (by omega) (by rw [setI_length]; omega) (by rw [setI_drop h0 hio]; exact hrest),
        setI_take h0 hio, setI_drop h0 hio, take_app_drop]
    · rw [drop_end hi, List.drop_eq_nil_of_le (by omega : out.length ≤ i.toNat)]
      simp only [hi, decide_false, Bool.false_eq_true, if_false, addl, List.append_nil]
      rw [List.take_of_length_le (by omega)]

theorem Clone_eq (l : List Int) (hl : l.length ≤ 10) : F.slices_Clone_int_int l = some l := by
  unfold F.slices_Clone_int_int F.slices_Clone_int_int_some
  have : ([] : List Int).length + l.length ≤ 17592186044416 := by simp; omega
  rw [if_pos this]; rfl

theorem ref_Others_l1 (seat : Int) (gone : List Bool) (hl : gone.length ≤ 10) : ∀ (k : Nat) (n i : Int), 0 ≤ i → i ≤ (gone.length : Int) → (gone.length : Int) - i < k → 0 ≤ n → n ≤ i →
    F.baizeref35_Others.l1 seat gone k n i = some (n + (wts seat (gone.drop i.toNat) i).sum) := by
  intro k
  induction k with
  | zero => intro n i h0 h1 h2; omega
  | succ k ih =>
    intro n i h0 h1 h2 h3 h4
    unfold F.baizeref35_Others.l1
    by_cases hi : i < (gone.length : Int)
    · rw [getI_drop h0 hi]
      simp only [hi, decide_true, if_true, h0, and_self, wts, List.sum_cons, F.baizeref35_Others.c2, F.baizeref35_Others.c1, bne_iff_ne, ne_eq]
      rw [wrap_succ h0 (by omega)]
      by_cases he : i = seat
      · simp only [he, not_true, if_false, true_or, if_true, Bool.false_eq_true, Int.zero_add]
        subst he
        exact ih _ _ (by omega) (by omega) (by omega) h3 (by omega)
      · simp only [he, not_false_eq_true, if_true, false_or]
        cases getI gone i
        · simp only [Bool.not_false, if_true, Bool.false_eq_true, if_false]
          rw [wrap_succ h3 (by omega), ih _ _ (by omega) (by omega) (by omega) (by omega) (by omega), Int.add_assoc]
        · simp only [Bool.not_true, Bool.false_eq_true, if_false, if_true, Int.zero_add]
          exact ih _ _ (by omega) (by omega) (by omega) h3 (by omega)
    · rw [drop_end hi]
      simp [hi, wts]
theorem ref_Others_eq (seat : Int) (gone : List Bool) (hl : gone.length ≤ 10) : F.baizeref35_Others seat gone = some (wts seat gone 0).sum := by
  unfold F.baizeref35_Others
  rw [ref_Others_l1 seat gone hl fuel 0 0 (by omega) (by omega) (by rw [fuel_eq]; omega) (by omega) (by omega)]
  simp
theorem ref_l2 (l1 : List Int) (seat : Int) (gone : List Bool) (hl : gone.length ≤ 10) (hg : l1.length = gone.length) : ∀ (k : Nat) (out : List Int) (left i : Int), 0 ≤ i → i ≤ (gone.length : Int) → (gone.length : Int) - i < k →
    out.length = gone.length → 0 ≤ left → left ≤ 1125899906842624 → (∀ y ∈ out.drop i.toNat, -3125899906842624 ≤ y ∧ y ≤ 3125899906842624) →
    F.baizeref35_Forfeit.l2 l1 seat gone k out left i = some (out.take i.toNat ++ give (wts seat (gone.drop i.toNat) i) (out.drop i.toNat) left, 0) := by
  intro k
  induction k with
  | zero => intro out left i h0 h1 h2; omega
  | succ k ih =>
    intro out left i h0 h1 h2 ho hb0 hb1 hy
    unfold F.baizeref35_Forfeit.l2
    by_cases hi : i < (gone.length : Int)
    · have hio : i < (out.length : Int) := by omega
      have hil : i < (l1.length : Int) := by omega
      have hyi := hy (getI out i) (by rw [getI_drop h0 hio]; simp)
      have hrest : ∀ y ∈ out.drop (i + 1).toNat, -3125899906842624 ≤ y ∧ y ≤ 3125899906842624 := fun y hy' => hy y (by rw [getI_drop h0 hio]; exact List.mem_cons_of_mem _ hy')
      have hback : out.take i.toNat ++ getI out i :: out.drop (i + 1).toNat = out := by rw [← getI_drop h0 hio, List.take_append_drop]
      rw [getI_drop h0 hi, getI_drop h0 hio]
      simp only [hil, decide_true, if_true, F.baizeref35_Forfeit.c7, wts, give, decide_eq_true_eq]
      by_cases hz : left = 0
      · simp [hz, hback]
      · have hpos : left > 0 := by omega
        rw [if_pos hpos, if_neg hz]
        by_cases he : i = seat ∨ getI gone i = true
        · rw [if_pos he]
          have e : (if (i != seat) = true then (if 0 ≤ i ∧ i < (gone.length : Int) then F.baizeref35_Forfeit.c9 (F.baizeref35_Forfeit.l2 l1 seat gone k) out left i (!(getI gone i)) else none) else F.baizeref35_Forfeit.c9 (F.baizeref35_Forfeit.l2 l1 seat gone k) out left i false) =
              F.baizeref35_Forfeit.l2 l1 seat gone k out left (i + 1) := by
            simp only [F.baizeref35_Forfeit.c9, F.baizeref35_Forfeit.c8]
            rw [wrap_succ h0 (by omega)]
            rcases he with he | he
            · simp [he]
            · simp [he, h0, hi]
          rw [e, ih _ _ _ (by omega) (by omega) (by omega) ho hb0 hb1 hrest, take_succ_getI h0 hio, take_app_drop]
          simp
        · rw [if_neg he]
          have h5 : i ≠ seat := fun h => he (.inl h)
          have h6 : getI gone i = false := by cases hgi : getI gone i; rfl; exact absurd (.inr hgi) he
          simp only [bne_iff_ne, ne_eq, h5, not_false_eq_true, if_true, h0, hi, and_self, h6, Bool.not_false, F.baizeref35_Forfeit.c9, F.baizeref35_Forfeit.c8, hio]
          rw [wrap_succ h0 (by omega), wrap_id (by omega) (by omega), wrap_id (by omega) (by omega), ih _ _ _ (by omega) (by omega) (by omega) (by rw [setI_length]; omega) (by omega) (by omega) (by rw [setI_drop h0 hio]; exact hrest),
            setI_take h0 hio, setI_drop h0 hio, take_app_drop]
          simp
    · rw [drop_end hi, List.drop_eq_nil_of_le (by omega : out.length ≤ i.toNat)]
      have hil : ¬ i < (l1.length : Int) := by omega
      simp only [hil, decide_false, Bool.false_eq_true, if_false, F.baizeref35_Forfeit.c7, wts, give, List.append_nil]
      rw [List.take_of_length_le (by omega)]

theorem ref_l1 (l1 : List Int) (seat : Int) (gone : List Bool) (n b : Int) (hl : gone.length ≤ 10) (hg : l1.length = gone.length) (hn : 0 < n) (hb0 : 0 ≤ b) (hb1 : b ≤ 1125899906842624) : ∀ (k : Nat) (out : List Int) (i : Int), 0 ≤ i → i ≤ (gone.length : Int) →
    (gone.length : Int) - i < k → out.length = gone.length → (∀ y ∈ out.drop i.toNat, -1125899906842624 ≤ y ∧ y ≤ 1125899906842624) →
    F.baizeref35_Forfeit.l1 l1 seat gone n b k out i =
      F.baizeref35_Forfeit.l2 l1 seat gone fuel (out.take i.toNat ++ addl (out.drop i.toNat) ((wts seat (gone.drop i.toNat) i).map fun w => (b / n) * w)) (b - (b / n) * n) 0 := by
  have hq0 : 0 ≤ b / n := Int.ediv_nonneg hb0 (by omega)
  have hq1 : b / n ≤ b := Int.ediv_le_self n hb0
  have hm := Int.emod_nonneg b (show n ≠ 0 by omega)
  have hd := Int.mul_ediv_add_emod b n
  have hcm : (b / n) * n = n * (b / n) := Int.mul_comm _ _
  have hqn : 0 ≤ (b / n) * n := Int.mul_nonneg hq0 (by omega)
  have ht : IntKind.i64.wrap (b.tdiv n) = b / n := by rw [Int.tdiv_eq_ediv_of_nonneg hb0, wrap_id (by omega) (by omega)]
  intro k
  induction k with
  | zero => intro out i h0 h1 h2; omega
  | succ k ih =>
    intro out i h0 h1 h2 ho hy
    unfold F.baizeref35_Forfeit.l1
    by_cases hi : i < (gone.length : Int)
    · have hio : i < (out.length : Int) := by omega
      have hil : i < (l1.length : Int) := by omega
      have hyi := hy (getI out i) (by rw [getI_drop h0 hio]; simp)
      have hrest : ∀ y ∈ out.drop (i + 1).toNat, -1125899906842624 ≤ y ∧ y ≤ 1125899906842624 := fun y hy' => hy y (by rw [getI_drop h0 hio]; exact List.mem_cons_of_mem _ hy')
      rw [getI_drop h0 hi, getI_drop h0 hio]
      simp only [hil, decide_true, if_true, wts, List.map_cons, addl]
      by_cases he : i = seat ∨ getI gone i = true
      · rw [if_pos he]
        have e : (if (i != seat) = true then (if 0 ≤ i ∧ i < (gone.length : Int) then F.baizeref35_Forfeit.c6 (F.baizeref35_Forfeit.l1 l1 seat gone n b k) n b out i (!(getI gone i)) else none) else F.baizeref35_Forfeit.c6 (F.baizeref35_Forfeit.l1 l1 seat gone n b k) n b out i false) =
            F.baizeref35_Forfeit.l1 l1 seat gone n b k out (i + 1) := by
          simp only [F.baizeref35_Forfeit.c6, F.baizeref35_Forfeit.c5]
          rw [wrap_succ h0 (by omega)]
          rcases he with he | he
          · simp [he]
          · simp [he, h0, hi]
        rw [e, ih _ _ (by omega) (by omega) (by omega) ho hrest, take_succ_getI h0 hio, take_app_drop, Int.mul_zero, Int.add_zero]
      · rw [if_neg he]
        have h5 : i ≠ seat := fun h => he (.inl h)
        have h6 : getI gone i = false := by cases hgi : getI gone i; rfl; exact absurd (.inr hgi) he
        simp only [bne_iff_ne, ne_eq, h5, not_false_eq_true, if_true, h0, hi, and_self, h6, Bool.not_false, F.baizeref35_Forfeit.c6, F.baizeref35_Forfeit.c5, hio, show ¬ n = 0 by omega, ht]
        rw [wrap_succ h0 (by omega), wrap_id (by omega) (by omega), ih _ _ (by omega) (by omega) (by omega) (by rw [setI_length]; omega) (by rw [setI_drop h0 hio]; exact hrest),
          setI_take h0 hio, setI_drop h0 hio, take_app_drop, Int.mul_one]
    · rw [drop_end hi, List.drop_eq_nil_of_le (by omega : out.length ≤ i.toNat)]
      have hil : ¬ i < (l1.length : Int) := by omega
      simp only [hil, decide_false, Bool.false_eq_true, if_false, wts, List.map_nil, addl, List.append_nil, ne_eq, show ¬ n = 0 by omega, not_false_eq_true, if_true, ht]
      rw [List.take_of_length_le (by omega), wrap_id (x := b / n * n) (by omega) (by omega), wrap_id (by omega) (by omega)]
theorem sumP_ok : ∀ (l : List Int) (x : Int), (sumP l x).2 = 0 → ∀ y ∈ l, rightB y = true
  | [], _, _, y, h => by cases h
  | z :: zs, x, h, y, hy => by
    rw [sumP] at h
    by_cases he : (addP x z).2 = 0
    · have hz : rightB z = true := by
        unfold addP at he
        cases hz : rightB z with
        | true => rfl
        | false => rw [hz] at he; simp at he
      simp only [he, bne_self_eq_false, Bool.false_eq_true, if_false] at h
      rcases List.mem_cons.1 hy with rfl | hy
      · exact hz
      · exact sumP_ok zs _ h y hy
    · simp only [bne_iff_ne, ne_eq, he, not_false_eq_true, if_true] at h
theorem sumP_err : ∀ (l : List Int) (x : Int), (sumP l x).2 = 0 ∨ (sumP l x).2 = 2
  | [], _ => .inl rfl
  | z :: zs, x => by
    rw [sumP]
    have h : (addP x z).2 = 0 ∨ (addP x z).2 = 2 := by unfold addP; split <;> simp
    rcases h with h | h
    · simp only [h, bne_self_eq_false, Bool.false_eq_true, if_false]
      exact sumP_err zs _
    · simp [h]
theorem give_bounds : ∀ (ws os : List Int) (left : Int), (∀ y ∈ os, 0 ≤ y ∧ y ≤ 1125899906842624) → ∀ y ∈ give ws os left, 0 ≤ y ∧ y ≤ 1125899906842625
  | [], os, left, h, y, hy => by
    have e : give [] os left = os := by cases os <;> rfl
    rw [e] at hy
    have := h y hy; omega
  | _ :: _, [], left, h, y, hy => by simp [give] at hy
  | w :: ws, o :: os, left, h, y, hy => by
    have ho := h o (by simp)
    have hr : ∀ y ∈ os, 0 ≤ y ∧ y ≤ 1125899906842624 := fun y hy => h y (by simp [hy])
    simp only [give] at hy
    split at hy
    · have := h y hy; omega
    · split at hy
      · rcases List.mem_cons.1 hy with rfl | hy
        · omega
        · exact give_bounds ws os left hr y hy
      · rcases List.mem_cons.1 hy with rfl | hy
        · omega
        · exact give_bounds ws os _ hr y hy
/-- What is paid out of payouts of which a seat loses its bond, and what is wrong. -/
def forfeitP (pays : List Int) (seat bond : Int) (gone : List Bool) : List Int × Int :=
  if (pays.length : Int) < 2 ∨ 8 < (pays.length : Int) then ([], 1) else if (gone.length : Int) ≠ (pays.length : Int) then ([], 3) else if seat < 0 ∨ (pays.length : Int) ≤ seat then ([], 28) else
  if rightB bond = false ∨ (sumP pays 0).2 ≠ 0 then ([], 2) else
  if (wts seat gone 0).sum = 0 then (pays, 0) else
  (addl (setI pays seat (getI pays seat - imin bond (getI pays seat))) (parts (imin bond (getI pays seat)) (wts seat gone 0)), 0)

theorem setI_bounds {pays : List Int} {seat x : Int} (h : ∀ y ∈ pays, 0 ≤ y ∧ y ≤ 1125899906842624) (hx : -1125899906842624 ≤ x ∧ x ≤ 1125899906842624) : ∀ y ∈ setI pays seat x, -1125899906842624 ≤ y ∧ y ≤ 1125899906842624 := by
  intro y hy
  unfold setI at hy
  rcases List.mem_or_eq_of_mem_set hy with hy | rfl
  · have := h y hy; omega
  · exact hx

theorem close_Forfeit_eq (pays : List Int) (seat bond : Int) (gone : List Bool) (hl : pays.length ≤ 10) : F.close_Forfeit pays seat bond gone = some (forfeitP pays seat bond gone) := by
  have hmx : maxLen = 9223372036854775807 := rfl
  unfold F.close_Forfeit F.close_Forfeit.c1 forfeitP F.close_seated F.close_seated.c1
  by_cases h1 : (pays.length : Int) < 2 ∨ 8 < (pays.length : Int)
  · rw [if_pos h1]
    by_cases h2 : (pays.length : Int) ≥ 2
    · have h3 : ¬ (pays.length : Int) ≤ 8 := by omega
      simp [h2, h3]
    · simp [h2]
  · rw [if_neg h1]
    have h2 : (pays.length : Int) ≥ 2 := by omega
    have h3 : (pays.length : Int) ≤ 8 := by omega
    simp only [h2, h3, decide_true, if_true, Option.bind_some, Bool.not_true, Bool.false_eq_true, if_false, bne_iff_ne, ne_eq]
    by_cases h4 : (gone.length : Int) = (pays.length : Int)
    · have hl2 : gone.length ≤ 10 := by omega
      simp only [h4, not_true, if_false]
      by_cases h5 : seat < 0 ∨ (pays.length : Int) ≤ seat
      · rw [if_pos h5]
        by_cases h6 : seat < 0
        · simp [h6]
        · have h7 : seat ≥ (pays.length : Int) := by omega
          simp [h6, h7]
      · rw [if_neg h5]
        have h6 : ¬ seat < 0 := by omega
        have h7 : ¬ seat ≥ (pays.length : Int) := by omega
        simp only [h6, h7, decide_false, Bool.false_eq_true, if_false, coin_Right_eq, Option.bind_some, coin_Sum_eq pays (by omega)]
        by_cases h8 : rightB bond = false ∨ (sumP pays 0).2 ≠ 0
        · rw [if_pos h8]
          by_cases hb : rightB bond = true
          · have h9 : (sumP pays 0).2 ≠ 0 := by
              rcases h8 with h8 | h8
              · rw [hb] at h8; cases h8
              · exact h8
            have h10 := sumP_err pays 0
            rcases h10 with h10 | h10
            · exact absurd h10 h9
            · simp [hb, h10]
          · simp [hb]
        · rw [if_neg h8]
          have hb : rightB bond = true := by
            cases hb : rightB bond with
            | true => rfl
            | false => exact absurd (.inl hb) h8
          have hs : (sumP pays 0).2 = 0 := by
            by_cases hs : (sumP pays 0).2 = 0
            · exact hs
            · exact absurd (.inr hs) h8
          have hall : ∀ y ∈ pays, 0 ≤ y ∧ y ≤ 1125899906842624 := fun y hy => rightB_iff.1 (sumP_ok pays 0 hs y hy)
          have hbb := rightB_iff.1 hb
          have hpi := hall _ (getI_mem (l := pays) (i := seat) (by omega) (by omega))
          simp only [hb, hs, Bool.not_true, Bool.false_eq_true, if_false, not_true, Clone_eq pays hl, Option.bind_some, others_eq seat gone hl2]
          have h01 := wts_01 seat gone 0
          have hwl := wts_length seat gone 0
          by_cases h11 : (wts seat gone 0).sum = 0
          · have := (any_01 _ h01).2 h11
            simp only [this, Bool.not_false, if_true, h11]
          · have hany : ((wts seat gone 0).any fun x => x != 0) = true := by
              cases hany : (wts seat gone 0).any fun x => x != 0 with
              | true => rfl
              | false => exact absurd ((any_01 _ h01).1 hany) h11
            have hlost : 0 ≤ imin bond (getI pays seat) ∧ imin bond (getI pays seat) ≤ 1125899906842624 ∧ imin bond (getI pays seat) ≤ getI pays seat := by
              unfold imin; split <;> omega
            have h12 : 0 ≤ seat ∧ seat < (pays.length : Int) := by omega
            have hrl : rightB (imin bond (getI pays seat)) = true := rightB_iff.2 ⟨hlost.1, hlost.2.1⟩
            have h01s := sum_01 _ h01
            have hqb : ∀ y ∈ (wts seat gone 0).map fun w => (imin bond (getI pays seat) / (wts seat gone 0).sum) * w, 0 ≤ y ∧ y ≤ 1125899906842624 := by
              intro y hy
              obtain ⟨w, hw, rfl⟩ := List.mem_map.1 hy
              have hq0 : 0 ≤ imin bond (getI pays seat) / (wts seat gone 0).sum := Int.ediv_nonneg hlost.1 (by omega)
              have hq1 := Int.ediv_le_self (wts seat gone 0).sum hlost.1
              rcases h01 w hw with rfl | rfl <;> omega
            have hpl : (parts (imin bond (getI pays seat)) (wts seat gone 0)).length = pays.length := by
              unfold parts; rw [give_length, List.length_map, hwl]; omega
            simp only [hany, Bool.not_true, Bool.false_eq_true, if_false, h12, and_self, if_true, h11,
              Split_eq _ _ hrl (by omega) (by omega) h01 h11, Option.bind_some, not_true]
            rw [wrap_id (by omega) (by omega), forfeit_l1 _ (by omega) ?_ fuel _ 0 (by omega) (by omega) (by rw [fuel_eq]; omega) (by rw [setI_length]; omega) ?_]
            · simp
            · intro y hy
              have := give_bounds _ _ _ hqb y hy
              omega
            · intro y hy
              exact setI_bounds (x := getI pays seat - imin bond (getI pays seat)) hall (by omega) y (by simpa using hy)
    · simp [h4]

theorem ref_Forfeit_eq (pays : List Int) (seat bond : Int) (gone : List Bool) (hl : pays.length ≤ 10) (hl2 : gone.length ≤ 10) : F.baizeref35_Forfeit pays seat bond gone = some (forfeitP pays seat bond gone) := by
  have hmx : maxLen = 9223372036854775807 := rfl
  unfold F.baizeref35_Forfeit F.baizeref35_Forfeit.c1 forfeitP
  by_cases h1 : (pays.length : Int) < 2 ∨ 8 < (pays.length : Int)
  · rw [if_pos h1]
    by_cases h2 : (pays.length : Int) < 2
    · simp [h2]
    · have h3 : (pays.length : Int) > 8 := by omega
      simp [h2, h3]
  · rw [if_neg h1]
    have h2 : ¬ (pays.length : Int) < 2 := by omega
    have h3 : ¬ (pays.length : Int) > 8 := by omega
    simp only [h2, h3, decide_false, Bool.false_eq_true, if_false, bne_iff_ne, ne_eq]
    by_cases h4 : (gone.length : Int) = (pays.length : Int)
    · simp only [h4, not_true, if_false, F.baizeref35_Forfeit.c2]
      by_cases h5 : seat < 0 ∨ (pays.length : Int) ≤ seat
      · rw [if_pos h5]
        by_cases h6 : seat < 0
        · simp [h6]
        · have h7 : seat ≥ (pays.length : Int) := by omega
          simp [h6, h7]
      · rw [if_neg h5]
        have h6 : ¬ seat < 0 := by omega
        have h7 : ¬ seat ≥ (pays.length : Int) := by omega
        simp only [h6, h7, decide_false, Bool.false_eq_true, if_false, ref_Right_eq, Option.bind_some, ref_Sum_eq pays (by omega), F.baizeref35_Forfeit.c3, F.baizeref35_Forfeit.c4, bne_iff_ne, ne_eq]
        by_cases h8 : rightB bond = false ∨ (sumP pays 0).2 ≠ 0
        · rw [if_pos h8]
          by_cases hb : (sumP pays 0).2 = 0
          · have h9 : rightB bond = false := by
              rcases h8 with h8 | h8
              · exact h8
              · exact absurd hb h8
            simp [hb, h9]
          · simp [hb]
        · rw [if_neg h8]
          have hb : rightB bond = true := by
            cases hb : rightB bond with
            | true => rfl
            | false => exact absurd (.inl hb) h8
          have hs : (sumP pays 0).2 = 0 := by
            by_cases hs : (sumP pays 0).2 = 0
            · exact hs
            · exact absurd (.inr hs) h8
          have hall : ∀ y ∈ pays, 0 ≤ y ∧ y ≤ 1125899906842624 := fun y hy => rightB_iff.1 (sumP_ok pays 0 hs y hy)
          have hbb := rightB_iff.1 hb
          have hpi := hall _ (getI_mem (l := pays) (i := seat) (by omega) (by omega))
          have hc : ([] : List Int).length + pays.length ≤ 17592186044416 := by simp; omega
          simp only [hb, hs, Bool.not_true, Bool.false_eq_true, if_false, not_true, ref_Others_eq seat gone hl2, Option.bind_some, List.nil_append, beq_iff_eq]
          rw [if_pos (by simpa using hc)]
          have h01 := wts_01 seat gone 0
          have hwl := wts_length seat gone 0
          have h01s := sum_01 _ h01
          by_cases h11 : (wts seat gone 0).sum = 0
          · simp only [h11, if_true]
          · have hlost : 0 ≤ imin bond (getI pays seat) ∧ imin bond (getI pays seat) ≤ 1125899906842624 ∧ imin bond (getI pays seat) ≤ getI pays seat := by
              unfold imin; split <;> omega
            have h12 : 0 ≤ seat ∧ seat < (pays.length : Int) := by omega
            have key : F.baizeref35_Forfeit.l1 pays seat gone (wts seat gone 0).sum (imin bond (getI pays seat)) fuel (setI pays seat (IntKind.i64.wrap (getI pays seat - imin bond (getI pays seat)))) 0 =
                some (addl (setI pays seat (getI pays seat - imin bond (getI pays seat))) (parts (imin bond (getI pays seat)) (wts seat gone 0)), 0) := by
              have hm := Int.emod_nonneg (imin bond (getI pays seat)) h11
              have hd := Int.mul_ediv_add_emod (imin bond (getI pays seat)) (wts seat gone 0).sum
              have hcm : (imin bond (getI pays seat) / (wts seat gone 0).sum) * (wts seat gone 0).sum = (wts seat gone 0).sum * (imin bond (getI pays seat) / (wts seat gone 0).sum) := Int.mul_comm _ _
              have hq0 : 0 ≤ imin bond (getI pays seat) / (wts seat gone 0).sum := Int.ediv_nonneg hlost.1 (by omega)
              have hq1 := Int.ediv_le_self (wts seat gone 0).sum hlost.1
              have hqs : 0 ≤ (imin bond (getI pays seat) / (wts seat gone 0).sum) * (wts seat gone 0).sum := Int.mul_nonneg hq0 h01s.1
              have hset := setI_bounds (pays := pays) (seat := seat) (x := getI pays seat - imin bond (getI pays seat)) hall (by omega)
              rw [wrap_id (by omega) (by omega), ref_l1 pays seat gone _ _ hl2 (by omega) (by omega) hlost.1 hlost.2.1 fuel _ 0 (by omega) (by omega) (by rw [fuel_eq]; omega) (by rw [setI_length]; omega) (by simpa using hset)]
              simp only [Int.toNat_zero, List.take_zero, List.drop_zero, List.nil_append]
              rw [ref_l2 pays seat gone hl2 (by omega) fuel _ _ 0 (by omega) (by omega) (by rw [fuel_eq]; omega) (by rw [addl_length, setI_length]; omega) (by omega) (by omega) ?_]
              · simp only [Int.toNat_zero, List.take_zero, List.drop_zero, List.nil_append]
                rw [give_addl _ _ _ _ (by rw [List.length_map, hwl, setI_length]; omega)]
                rfl
              · intro y hy
                simp only [Int.toNat_zero, List.drop_zero] at hy
                have hadd : ∀ (us bs : List Int), (∀ y ∈ us, -1125899906842624 ≤ y ∧ y ≤ 1125899906842624) → (∀ y ∈ bs, 0 ≤ y ∧ y ≤ 1125899906842624) → ∀ y ∈ addl us bs, -3125899906842624 ≤ y ∧ y ≤ 3125899906842624 := by
                  intro us
                  induction us with
                  | nil => intro bs _ _ y hy; cases bs <;> simp [addl] at hy
                  | cons u us ihu =>
                    intro bs hu hbs y hy
                    cases bs with
                    | nil => have := hu y (by simpa [addl] using hy); omega
                    | cons b bs =>
                      simp only [addl, List.mem_cons] at hy
                      rcases hy with rfl | hy
                      · have h1 := hu u (by simp)
                        have h2 := hbs b (by simp)
                        omega
                      · exact ihu bs (fun z hz => hu z (by simp [hz])) (fun z hz => hbs z (by simp [hz])) y hy
                refine hadd _ _ hset ?_ y hy
                intro z hz
                obtain ⟨w, hw, rfl⟩ := List.mem_map.1 hz
                rcases h01 w hw with rfl | rfl <;> omega
            rw [if_neg h11, if_neg h11, if_pos h12]
            by_cases hgt : bond > getI pays seat
            · have him : imin bond (getI pays seat) = getI pays seat := by unfold imin; rw [if_pos (by omega)]
              rw [him] at key ⊢
              simp only [hgt, decide_true, if_true, h12, and_self]
              exact key
            · have him : imin bond (getI pays seat) = bond := by unfold imin; rw [if_neg (by omega)]
              rw [him] at key ⊢
              simp only [hgt, decide_false, Bool.false_eq_true, if_false, h12, and_self, if_true]
              exact key
    · simp [h4]

theorem forfeitP_length (pays : List Int) (seat bond : Int) (gone : List Bool) : (forfeitP pays seat bond gone).1.length ≤ pays.length := by
  unfold forfeitP
  repeat' split
  all_goals simp [addl_length, setI_length]

theorem law_CloseForfeits (l0 : (List Int)) (y1 : S_baizelaw35_Loss) (w0 : (l0.length ≤ maxLen ∧ ∀ y ∈ l0, (Lit.int .i64 y).wf = true)) (w1 : wf_S_baizelaw35_Loss y1) : F.baizelaw35_CloseForfeits l0 y1.f1 y1.f2 y1.f3 = some true := by
  have hmx : maxLen = 9223372036854775807 := rfl
  unfold F.baizelaw35_CloseForfeits F.baizelaw35_CloseForfeits.c1
  by_cases h1 : (l0.length : Int) > 10
  · simp [h1, told_ok]
  · by_cases h2 : (y1.f3.length : Int) > 10
    · simp [h2, told_ok]
    · have hlen := forfeitP_length l0 y1.f1 y1.f2 y1.f3
      simp only [h1, h2, decide_false, Bool.false_eq_true, if_false, close_Forfeit_eq l0 y1.f1 y1.f2 y1.f3 (by omega), ref_Forfeit_eq l0 y1.f1 y1.f2 y1.f3 (by omega) (by omega), Option.bind_some, beq_self_eq_true, if_true, Alike_refl (forfeitP l0 y1.f1 y1.f2 y1.f3).1 (by omega), told_ok, F.baizelaw35_CloseForfeits.c2]
end Go.Proofs.Ytahpmlekenbafaa
