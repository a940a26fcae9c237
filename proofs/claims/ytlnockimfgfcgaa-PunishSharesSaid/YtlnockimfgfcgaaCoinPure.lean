/-
  Plain laws of coin.Split: the parts of a sum among those that are there.
-/
import Derived.Test.YtlnockimfgfcgaaLabL
import Derived.Test.YtlnockimfgfcgaaWPun1
namespace Go.Proofs.Ytlnockimfgfcgaa
open Go.Lab
set_option linter.unusedVariables false
set_option linter.unusedSimpArgs false

def rightB (x : Int) : Bool := decide (x ≥ 0) && decide (x ≤ 1125899906842624)

theorem coin_Right_eq (x : Int) : F.coin_Right x = some (rightB x) := by
  unfold F.coin_Right F.coin_Right.c1 rightB
  by_cases h : x ≥ 0 <;> simp [h]

theorem rightB_iff {x : Int} : rightB x = true ↔ 0 ≤ x ∧ x ≤ 1125899906842624 := by
  unfold rightB; simp

theorem setI_take {α : Type} {l : List α} {i : Int} {x : α} (h0 : 0 ≤ i) (h1 : i < (l.length : Int)) : (setI l i x).take (i + 1).toNat = l.take i.toNat ++ [x] := by
  have hlt : i.toNat < l.length := by omega
  unfold setI
  rw [show (i + 1).toNat = i.toNat + 1 by omega, List.set_eq_take_append_cons_drop, if_pos hlt, List.take_append, List.length_take, Nat.min_eq_left (by omega),
    List.take_of_length_le (by rw [List.length_take]; omega), show i.toNat + 1 - i.toNat = 1 by omega]
  simp

theorem setI_drop {α : Type} {l : List α} {i : Int} {x : α} (h0 : 0 ≤ i) (h1 : i < (l.length : Int)) : (setI l i x).drop (i + 1).toNat = l.drop (i + 1).toNat := by
  unfold setI
  rw [List.drop_set_of_lt (by omega)]

theorem getI_setI {α : Type} [Inhabited α] {l : List α} {i : Int} {x : α} (h0 : 0 ≤ i) (h1 : i < (l.length : Int)) : getI (setI l i x) i = x := by
  unfold getI setI
  rw [List.getD_eq_getElem?_getD, List.getElem?_set_self (by omega)]
  rfl

theorem take_app_drop {α : Type} {l : List α} {i : Int} {x : α} (rest : List α) : (l.take i.toNat ++ [x]) ++ rest = l.take i.toNat ++ x :: rest := by simp


theorem take_succ_getI {α : Type} [Inhabited α] {l : List α} {i : Int} (h0 : 0 ≤ i) (h1 : i < (l.length : Int)) : l.take (i + 1).toNat = l.take i.toNat ++ [getI l i] := by
  have hlt : i.toNat < l.length := by omega
  rw [show (i + 1).toNat = i.toNat + 1 by omega, List.take_add_one, List.getElem?_eq_getElem hlt]
  unfold getI
  rw [List.getD_eq_getElem?_getD, List.getElem?_eq_getElem hlt]
  rfl


def wts (seat : Int) : List Bool → Int → List Int
  | [], _ => []
  | g :: gs, j => (if j = seat ∨ g = true then 0 else 1) :: wts seat gs (j + 1)

theorem wts_length (seat : Int) : ∀ (gs : List Bool) (j : Int), (wts seat gs j).length = gs.length
  | [], _ => rfl
  | _ :: gs, j => by simp [wts, wts_length seat gs]

theorem wts_01 (seat : Int) : ∀ (gs : List Bool) (j : Int), ∀ w ∈ wts seat gs j, w = 0 ∨ w = 1
  | [], _, w, h => by simp [wts] at h
  | g :: gs, j, w, h => by
    simp only [wts, List.mem_cons] at h
    rcases h with rfl | h
    · split <;> simp
    · exact wts_01 seat gs _ w h


def give : List Int → List Int → Int → List Int
  | w :: ws, o :: os, left => if left = 0 then o :: os else if w = 0 then o :: give ws os left else (o + 1) :: give ws os (left - 1)
  | _, os, _ => os

theorem give_length : ∀ (ws os : List Int) (left : Int), (give ws os left).length = os.length
  | [], os, _ => by cases os <;> rfl
  | _ :: _, [], _ => rfl
  | w :: ws, o :: os, left => by
    simp only [give]
    split
    · rfl
    · split <;> simp [give_length ws os]


theorem weigh_l1 (l : List Int) (hl : l.length ≤ 10) (h01 : ∀ w ∈ l, w = 0 ∨ w = 1) : ∀ (k : Nat) (acc i : Int), 0 ≤ i → i ≤ (l.length : Int) → (l.length : Int) - i < k → 0 ≤ acc → acc ≤ i →
    F.coin_weigh.l1 l k acc i = some (if acc + (l.drop i.toNat).sum = 0 then (0, 1) else (acc + (l.drop i.toNat).sum, 0)) := by
  intro k
  induction k with
  | zero => intro acc i h0 h1 h2; omega
  | succ k ih =>
    intro acc i h0 h1 h2 h3 h4
    unfold F.coin_weigh.l1
    by_cases hi : i < (l.length : Int)
    · have hw := h01 _ (getI_mem h0 hi)
      rw [getI_drop h0 hi]
      have n1 : ¬ (getI l i < 0) := by omega
      have n2 : ¬ (getI l i > 1024) := by omega
      simp only [hi, h0, decide_true, if_true, and_self, n1, n2, decide_false, Bool.false_eq_true, if_false, F.coin_weigh.c1, List.sum_cons]
      rw [wrap_id (by omega) (by omega), wrap_succ h0 (by omega), ih _ _ (by omega) (by omega) (by omega) (by omega) (by omega)]
      simp only [Int.add_assoc]
      by_cases hz : acc + (getI l i + (l.drop (i + 1).toNat).sum) = 0 <;> simp [hz]
    · rw [drop_end hi]
      simp only [hi, decide_false, Bool.false_eq_true, if_false, beq_iff_eq, List.sum_nil, Int.add_zero]
      split <;> rfl

theorem sum_01 : ∀ (l : List Int), (∀ w ∈ l, w = 0 ∨ w = 1) → 0 ≤ l.sum ∧ l.sum ≤ l.length
  | [], _ => by simp
  | w :: ws, h => by
    have h1 := h w (by simp)
    have h2 := sum_01 ws fun z hz => h z (by simp [hz])
    rw [List.sum_cons, List.length_cons]; omega

theorem weigh_eq (l : List Int) (hl : l.length ≤ 10) (h01 : ∀ w ∈ l, w = 0 ∨ w = 1) : F.coin_weigh l = some (if l.sum = 0 then (0, 1) else (l.sum, 0)) := by
  unfold F.coin_weigh
  rw [weigh_l1 l hl h01 fuel 0 0 (by omega) (by omega) (by rw [fuel_eq]; omega) (by omega) (by omega)]
  simp

theorem any_01 : ∀ (l : List Int), (∀ w ∈ l, w = 0 ∨ w = 1) → ((l.any (· != 0)) = false ↔ l.sum = 0)
  | [], _ => by simp
  | w :: ws, h => by
    have h1 := h w (by simp)
    have h2 := any_01 ws fun z hz => h z (by simp [hz])
    have h3 := sum_01 ws fun z hz => h z (by simp [hz])
    rw [List.sum_cons, List.any_cons]
    rcases h1 with rfl | rfl
    · simpa using h2
    · simp; omega


theorem split_l1 (x1 n : Int) (ws : List Int) (hl : ws.length ≤ 10) (h01 : ∀ w ∈ ws, w = 0 ∨ w = 1) (hn : 0 < n) (hx0 : 0 ≤ x1) (hx1 : x1 ≤ 1125899906842624) : ∀ (k : Nat) (left : Int) (out : List Int) (i : Int), 0 ≤ i → i ≤ (ws.length : Int) →
    (ws.length : Int) - i < k → out.length = ws.length → -20000000000000000 ≤ left - (x1 / n) * (ws.drop i.toNat).sum → left ≤ 1125899906842624 →
    F.coin_Split.l1 x1 ws n k left out i = F.coin_Split.l2 ws fuel (left - (x1 / n) * (ws.drop i.toNat).sum) (out.take i.toNat ++ (ws.drop i.toNat).map fun w => (x1 / n) * w) 0 := by
  have hq0 : 0 ≤ x1 / n := Int.ediv_nonneg hx0 (by omega)
  have hq1 : x1 / n ≤ x1 := Int.ediv_le_self n hx0
  intro k
  induction k with
  | zero => intro left out i h0 h1 h2; omega
  | succ k ih =>
    intro left out i h0 h1 h2 ho hb1 hb2
    unfold F.coin_Split.l1
    by_cases hi : i < (ws.length : Int)
    · have hio : i < (out.length : Int) := by omega
      have hw := h01 _ (getI_mem h0 hi)
      have hs := sum_01 (ws.drop (i + 1).toNat) fun w hw => h01 w (List.mem_of_mem_drop hw)
      have hqs : 0 ≤ (x1 / n) * (ws.drop (i + 1).toNat).sum := Int.mul_nonneg hq0 hs.1
      have hp : IntKind.i64.wrap ((IntKind.i64.wrap (x1 * getI ws i)).tdiv n) = (x1 / n) * getI ws i := by
        rcases hw with hw | hw
        · rw [hw, Int.mul_zero, Int.mul_zero, wrap_id (x := 0) (by omega) (by omega), Int.zero_tdiv, wrap_id (x := 0) (by omega) (by omega)]
        · rw [hw, Int.mul_one, Int.mul_one, wrap_id (x := x1) (by omega) (by omega), Int.tdiv_eq_ediv_of_nonneg hx0, wrap_id (by omega) (by omega)]
      rw [getI_drop h0 hi] at hb1 ⊢
      simp only [hi, h0, decide_true, if_true, and_self, show n ≠ 0 by omega, ne_eq, not_false_eq_true, hio, setI_length, getI_setI h0 hio, hp, List.map_cons, List.sum_cons] at hb1 ⊢
      rw [Int.mul_add] at hb1
      have hp0 : 0 ≤ (x1 / n) * getI ws i := by rcases hw with hw | hw <;> rw [hw] <;> omega
      rw [wrap_id (by omega) (by omega), wrap_succ h0 (by omega), ih _ _ _ (by omega) (by omega) (by omega) (by rw [setI_length]; omega) (by omega) (by omega), setI_take h0 hio, take_app_drop, Int.mul_add]
      congr 1
      omega
    · rw [drop_end hi]
      simp only [hi, decide_false, Bool.false_eq_true, if_false, List.map_nil, List.append_nil, List.sum_nil, Int.mul_zero, Int.sub_zero]
      rw [List.take_of_length_le (by omega)]


theorem split_l2 (ws : List Int) (hl : ws.length ≤ 10) (h01 : ∀ w ∈ ws, w = 0 ∨ w = 1) : ∀ (k : Nat) (left : Int) (out : List Int) (i : Int), 0 ≤ i → i ≤ (ws.length : Int) → (ws.length : Int) - i < k → out.length = ws.length →
    0 ≤ left → left ≤ 1125899906842624 → (∀ y ∈ out.drop i.toNat, 0 ≤ y ∧ y ≤ 1125899906842624) → F.coin_Split.l2 ws k left out i = some (out.take i.toNat ++ give (ws.drop i.toNat) (out.drop i.toNat) left, 0) := by
  intro k
  induction k with
  | zero => intro left out i h0 h1 h2; omega
  | succ k ih =>
    intro left out i h0 h1 h2 ho hb0 hb1 hy
    unfold F.coin_Split.l2
    by_cases hi : i < (ws.length : Int)
    · have hio : i < (out.length : Int) := by omega
      have hyi := hy (getI out i) (by rw [getI_drop h0 hio]; simp)
      rw [getI_drop h0 hi, getI_drop h0 hio]
      simp only [hi, h0, decide_true, if_true, and_self, beq_iff_eq, hio, give, F.coin_Split.c2, F.coin_Split.c3]
      have hback : out.take i.toNat ++ getI out i :: out.drop (i + 1).toNat = out := by rw [← getI_drop h0 hio, List.take_append_drop]
      have hrest : ∀ y ∈ out.drop (i + 1).toNat, 0 ≤ y ∧ y ≤ 1125899906842624 := fun y hy' => hy y (by rw [getI_drop h0 hio]; exact List.mem_cons_of_mem _ hy')
      by_cases hz : left = 0
      · simp only [hz, if_true, hback]
      · rw [if_neg hz, if_neg hz]
        by_cases hw : getI ws i = 0
        · rw [if_pos hw, if_pos hw, wrap_succ h0 (by omega), ih _ _ _ (by omega) (by omega) (by omega) ho hb0 hb1 hrest]
          rw [take_succ_getI h0 hio, take_app_drop]
        · rw [if_neg hw, if_neg hw, wrap_succ h0 (by omega), wrap_id (by omega) (by omega), wrap_id (by omega) (by omega)]
          rw [ih _ _ _ (by omega) (by omega) (by omega) (by rw [setI_length]; omega) (by omega) (by omega) (by rw [setI_drop h0 hio]; exact hrest), setI_take h0 hio, setI_drop h0 hio, take_app_drop]
    · rw [drop_end hi, List.drop_eq_nil_of_le (by omega : out.length ≤ i.toNat)]
      simp only [hi, decide_false, Bool.false_eq_true, if_false, give, List.append_nil, F.coin_Split.c2]
      rw [List.take_of_length_le (by omega)]


def parts (x1 : Int) (ws : List Int) : List Int := give ws (ws.map fun w => (x1 / ws.sum) * w) (x1 - (x1 / ws.sum) * ws.sum)

theorem Split_eq (x1 : Int) (ws : List Int) (hr : rightB x1 = true) (h0 : 0 < ws.length) (h8 : ws.length ≤ 8) (h01 : ∀ w ∈ ws, w = 0 ∨ w = 1) (hs : ws.sum ≠ 0) : F.coin_Split x1 ws = some (parts x1 ws, 0) := by
  have hx := rightB_iff.1 hr
  have hs2 := sum_01 ws h01
  have hn : 0 < ws.sum := by omega
  have hlo : ¬ ((ws.length : Int) = 0) := by omega
  have hhi : ¬ ((ws.length : Int) > 8) := by omega
  unfold F.coin_Split F.coin_Split.c1
  simp only [coin_Right_eq, hr, Option.bind_some, Bool.not_true, Bool.false_eq_true, if_false, beq_iff_eq, hlo, hhi, decide_false, weigh_eq ws (by omega) h01, hs]
  have hc : (0 : Int) ≤ (ws.length : Int) ∧ (ws.length : Int) ≤ 17592186044416 := by omega
  have hm := Int.emod_nonneg x1 (show ws.sum ≠ 0 by omega)
  have hm2 := Int.emod_lt_of_pos x1 hn
  have hd := Int.mul_ediv_add_emod x1 ws.sum
  have hcm : (x1 / ws.sum) * ws.sum = ws.sum * (x1 / ws.sum) := Int.mul_comm _ _
  have hq0 : 0 ≤ x1 / ws.sum := Int.ediv_nonneg hx.1 (by omega)
  have hq1 : x1 / ws.sum ≤ x1 := Int.ediv_le_self _ hx.1
  simp only [bne_self_eq_false, Bool.false_eq_true, if_false, hc, and_self, if_true]
  rw [split_l1 x1 ws.sum ws (by omega) h01 hn hx.1 hx.2 fuel x1 _ 0 (by omega) (by omega) (by rw [fuel_eq]; omega) (by simp) (by simp only [Int.toNat_zero, List.drop_zero]; omega) hx.2]
  simp only [Int.toNat_zero, List.drop_zero, List.take_zero, List.nil_append]
  rw [split_l2 ws (by omega) h01 fuel _ _ 0 (by omega) (by omega) (by rw [fuel_eq]; omega) (by simp) (by omega) (by omega) ?_]
  · simp [parts]
  · intro y hy
    simp only [Int.toNat_zero, List.drop_zero, List.mem_map] at hy
    obtain ⟨w, hw, rfl⟩ := hy
    rcases h01 w hw with rfl | rfl <;> omega

theorem give_get : ∀ (ws os : List Int) (left : Int) (i : Nat), (give ws os left).getD i 0 = os.getD i 0 ∨ (ws.getD i 0 ≠ 0 ∧ (give ws os left).getD i 0 = os.getD i 0 + 1)
  | [], os, left, i => by
    have e : give [] os left = os := by cases os <;> rfl
    rw [e]; exact .inl rfl
  | _ :: _, [], left, i => .inl rfl
  | w :: ws, o :: os, left, i => by
    simp only [give]
    split
    · exact .inl rfl
    · split
      · cases i with
        | zero => exact .inl rfl
        | succ i => simpa using give_get ws os left i
      · rename_i hw
        cases i with
        | zero =>
          right; exact ⟨by simpa using hw, by simp⟩
        | succ i => simpa using give_get ws os (left - 1) i

theorem give_sum : ∀ (ws os : List Int) (left : Int), (∀ w ∈ ws, w = 0 ∨ w = 1) → ws.length = os.length → 0 ≤ left → left ≤ ws.sum → (give ws os left).sum = os.sum + left
  | [], os, left, _, hl, h0, h1 => by
    have e : os = [] := List.eq_nil_of_length_eq_zero hl.symm
    subst e
    simp at h1
    simp [give]; omega
  | w :: ws, [], left, _, hl, _, _ => by simp at hl
  | w :: ws, o :: os, left, h, hl, h0, h1 => by
    have hw := h w (by simp)
    have hr : ∀ w ∈ ws, w = 0 ∨ w = 1 := fun z hz => h z (by simp [hz])
    have hs := sum_01 ws hr
    rw [List.sum_cons] at h1
    simp only [give]
    split
    · rename_i hz; subst hz; simp
    · split
      · rename_i hz
        rw [List.sum_cons, List.sum_cons, give_sum ws os left hr (by simpa using hl) h0 (by omega)]
        omega
      · rw [List.sum_cons, List.sum_cons, give_sum ws os (left - 1) hr (by simpa using hl) (by omega) (by omega)]
        omega

theorem wts_get (seat : Int) : ∀ (gs : List Bool) (j : Int) (i : Nat), i < gs.length → (wts seat gs j).getD i 0 = if j + i = seat ∨ gs.getD i false = true then 0 else 1
  | [], j, i, h => by simp at h
  | g :: gs, j, i, h => by
    cases i with
    | zero => simp [wts]
    | succ i =>
      simp only [wts, List.getD_cons_succ]
      rw [wts_get seat gs (j + 1) i (by simpa using h), show j + 1 + (i : Int) = j + ((i + 1 : Nat) : Int) by omega]

theorem map_mul_sum (q : Int) : ∀ (ws : List Int), (ws.map fun w => q * w).sum = q * ws.sum
  | [] => by simp
  | w :: ws => by simp only [List.map_cons, List.sum_cons, map_mul_sum q ws, Int.mul_add]

theorem set_sum : ∀ (l : List Int) (i : Nat) (x : Int), i < l.length → (l.set i x).sum = l.sum - l.getD i 0 + x
  | [], i, x, h => by simp at h
  | y :: ys, 0, x, h => by simp only [List.set_cons_zero, List.sum_cons, List.getD_cons_zero]; omega
  | y :: ys, i + 1, x, h => by
    simp only [List.set_cons_succ, List.sum_cons, List.getD_cons_succ, set_sum ys i x (by simpa using h)]
    omega

theorem le_sum : ∀ (l : List Int), (∀ y ∈ l, 0 ≤ y) → ∀ y ∈ l, y ≤ l.sum
  | [], _, y, hy => by cases hy
  | z :: zs, h, y, hy => by
    have hz := h z (by simp)
    have hr : 0 ≤ zs.sum := by
      clear hy
      induction zs with
      | nil => simp
      | cons w ws ih =>
        have hw := h w (by simp)
        rw [List.sum_cons]
        have := ih (fun v hv => h v (by rcases List.mem_cons.1 hv with rfl | hv <;> simp_all))
        omega
    rw [List.sum_cons]
    rcases List.mem_cons.1 hy with rfl | hy
    · omega
    · have := le_sum zs (fun v hv => h v (by simp [hv])) y hy
      omega


end Go.Proofs.Ytlnockimfgfcgaa
