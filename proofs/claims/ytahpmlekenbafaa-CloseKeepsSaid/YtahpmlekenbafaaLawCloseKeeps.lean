/-
  The plain law of CloseKeeps: whatever is forfeited, what all have stays.
-/
import Derived.Test.YtahpmlekenbafaaLawCloseForfeits
namespace Go.Proofs.Ytahpmlekenbafaa
open Go.Lab
set_option linter.unusedVariables false
set_option linter.unusedSimpArgs false

theorem give_get : ∀ (ws os : List Int) (left : Int) (i : Nat), (give ws os left).getD i 0 = os.getD i 0 ∨ (ws.getD i 0 ≠ 0 ∧ (give ws os left).getD i 0 = os.getD i 0 + 1)
  | [], os, left, i => by
    have e : give [] os left = os := by cases os <;> rfl
    rw [e]; exact .inl rfl
  | _ :: _, [], left, i => .inl rfl
  | w :: ws, o :: os, left, i => by
    simp only [give]
    split
    · exact .inl rfl
    · split
      · cases i with
        | zero => exact .inl rfl
        | succ i => simpa using give_get ws os left i
      · rename_i hw
        cases i with
        | zero =>
          right; exact ⟨by simpa using hw, by simp⟩
        | succ i => simpa using give_get ws os (left - 1) i
theorem give_sum : ∀ (ws os : List Int) (left : Int), (∀ w ∈ ws, w = 0 ∨ w = 1) → ws.length = os.length → 0 ≤ left → left ≤ ws.sum → (give ws os left).sum = os.sum + left
  | [], os, left, _, hl, h0, h1 => by
    have e : os = [] := List.eq_nil_of_length_eq_zero hl.symm
    subst e
    simp at h1
    simp [give]; omega
  | w :: ws, [], left, _, hl, _, _ => by simp at hl
  | w :: ws, o :: os, left, h, hl, h0, h1 => by
    have hw := h w (by simp)
    have hr : ∀ w ∈ ws, w = 0 ∨ w = 1 := fun z hz => h z (by simp [hz])
    have hs := sum_01 ws hr
    rw [List.sum_cons] at h1
    simp only [give]
    split
    · rename_i hz; subst hz; simp
    · split
      · rename_i hz
        rw [List.sum_cons, List.sum_cons, give_sum ws os left hr (by simpa using hl) h0 (by omega)]
        omega
      · rw [List.sum_cons, List.sum_cons, give_sum ws os (left - 1) hr (by simpa using hl) (by omega) (by omega)]
        omega
theorem addl_get : ∀ (us bs : List Int) (i : Nat), us.length = bs.length → (addl us bs).getD i 0 = us.getD i 0 + bs.getD i 0
  | [], bs, i, h => by
    have e : bs = [] := List.eq_nil_of_length_eq_zero h.symm
    subst e; simp [addl]
  | _ :: _, [], i, h => by simp at h
  | u :: us, b :: bs, i, h => by
    cases i with
    | zero => simp [addl]
    | succ i => simpa [addl] using addl_get us bs i (by simpa using h)
theorem addl_sum : ∀ (us bs : List Int), us.length = bs.length → (addl us bs).sum = us.sum + bs.sum
  | [], bs, h => by
    have e : bs = [] := List.eq_nil_of_length_eq_zero h.symm
    subst e; simp [addl]
  | _ :: _, [], h => by simp at h
  | u :: us, b :: bs, h => by
    simp only [addl, List.sum_cons, addl_sum us bs (by simpa using h)]
    omega
theorem wts_get (seat : Int) : ∀ (gs : List Bool) (j : Int) (i : Nat), i < gs.length → (wts seat gs j).getD i 0 = if j + i = seat ∨ gs.getD i false = true then 0 else 1
  | [], j, i, h => by simp at h
  | g :: gs, j, i, h => by
    cases i with
    | zero => simp [wts]
    | succ i =>
      simp only [wts, List.getD_cons_succ]
      rw [wts_get seat gs (j + 1) i (by simpa using h), show j + 1 + (i : Int) = j + ((i + 1 : Nat) : Int) by omega]
theorem map_mul_sum (q : Int) : ∀ (ws : List Int), (ws.map fun w => q * w).sum = q * ws.sum
  | [] => by simp
  | w :: ws => by simp only [List.map_cons, List.sum_cons, map_mul_sum q ws, Int.mul_add]
theorem set_sum : ∀ (l : List Int) (i : Nat) (x : Int), i < l.length → (l.set i x).sum = l.sum - l.getD i 0 + x
  | [], i, x, h => by simp at h
  | y :: ys, 0, x, h => by simp only [List.set_cons_zero, List.sum_cons, List.getD_cons_zero]; omega
  | y :: ys, i + 1, x, h => by
    simp only [List.set_cons_succ, List.sum_cons, List.getD_cons_succ, set_sum ys i x (by simpa using h)]
    omega
theorem le_sum : ∀ (l : List Int), (∀ y ∈ l, 0 ≤ y) → ∀ y ∈ l, y ≤ l.sum
  | [], _, y, hy => by cases hy
  | z :: zs, h, y, hy => by
    have hz := h z (by simp)
    have hr : 0 ≤ zs.sum := by
      clear hy
      induction zs with
      | nil => simp
      | cons w ws ih =>
        have hw := h w (by simp)
        rw [List.sum_cons]
        have := ih (fun v hv => h v (by rcases List.mem_cons.1 hv with rfl | hv <;> simp_all))
        omega
    rw [List.sum_cons]
    rcases List.mem_cons.1 hy with rfl | hy
    · omega
    · have := le_sum zs (fun v hv => h v (by simp [hv])) y hy
      omega

/-- What a forfeit that goes through leaves. -/
theorem forfeit_keeps (pays : List Int) (seat bond : Int) (gone : List Bool) (now : List Int) (h : forfeitP pays seat bond gone = (now, 0)) :
    now.length = pays.length ∧ gone.length = pays.length ∧ (sumP pays 0).2 = 0 ∧ sumP now 0 = sumP pays 0 ∧ (∀ y ∈ pays, 0 ≤ y ∧ y ≤ 1125899906842624) ∧ (∀ y ∈ now, 0 ≤ y ∧ y ≤ 1125899906842624) ∧ ∃ q, 0 ≤ q ∧ ∀ i : Nat, i < pays.length →
      ((i : Int) = seat → now.getD i 0 - pays.getD i 0 ≤ 0 ∧ pays.getD i 0 - now.getD i 0 ≤ bond) ∧
      ((i : Int) ≠ seat → gone.getD i false = true → now.getD i 0 - pays.getD i 0 = 0) ∧
      ((i : Int) ≠ seat → gone.getD i false = false → q ≤ now.getD i 0 - pays.getD i 0 ∧ now.getD i 0 - pays.getD i 0 ≤ q + 1) := by
  unfold forfeitP at h
  split at h
  · simp at h
  rename_i h1
  split at h
  · simp at h
  rename_i h2
  split at h
  · simp at h
  rename_i h3
  split at h
  · simp at h
  rename_i h4
  have hb : rightB bond = true := by
    cases hb : rightB bond with
    | true => rfl
    | false => exact absurd (.inl hb) h4
  have hs : (sumP pays 0).2 = 0 := by
    by_cases hs : (sumP pays 0).2 = 0
    · exact hs
    · exact absurd (.inr hs) h4
  have hallr := sumP_ok pays 0 hs
  have hall : ∀ y ∈ pays, 0 ≤ y ∧ y ≤ 1125899906842624 := fun y hy => rightB_iff.1 (hallr y hy)
  have hbb := rightB_iff.1 hb
  have hglen : gone.length = pays.length := by omega
  have h01 := wts_01 seat gone 0
  have hwl := wts_length seat gone 0
  have h01s := sum_01 _ h01
  split at h
  · rename_i h5
    obtain ⟨rfl, _⟩ := Prod.mk.inj h
    refine ⟨rfl, hglen, hs, rfl, hall, hall, 0, by omega, fun i hi => ⟨fun _ => by omega, fun _ _ => by omega, fun _ _ => by omega⟩⟩
  · rename_i h5
    obtain ⟨hnow, _⟩ := Prod.mk.inj h
    have hsp := sumP_right pays 0 hallr (by decide)
    have hss : pays.sum ≤ 1125899906842624 := by
      by_cases hle : 0 + pays.sum ≤ 1125899906842624
      · omega
      · rw [if_neg hle] at hsp; rw [hsp] at hs; cases hs
    have h6 : 0 ≤ seat ∧ seat < (pays.length : Int) := by omega
    have hpi := hall _ (getI_mem (l := pays) (i := seat) (by omega) (by omega))
    generalize hL : imin bond (getI pays seat) = lost at hnow
    have hlost : 0 ≤ lost ∧ lost ≤ bond ∧ lost ≤ getI pays seat := by
      rw [← hL]; unfold imin; split <;> omega
    generalize hW : wts seat gone 0 = ws at hnow h5 h01 hwl h01s
    have hq0 : 0 ≤ lost / ws.sum := Int.ediv_nonneg hlost.1 (by omega)
    have hm := Int.emod_nonneg lost h5
    have hm2 := Int.emod_lt_of_pos lost (show 0 < ws.sum by omega)
    have hd := Int.mul_ediv_add_emod lost ws.sum
    have hcm : (lost / ws.sum) * ws.sum = ws.sum * (lost / ws.sum) := Int.mul_comm _ _
    have hml : (ws.map fun w => (lost / ws.sum) * w).length = pays.length := by rw [List.length_map]; omega
    have hpsum : (parts lost ws).sum = lost := by
      unfold parts
      rw [give_sum _ _ _ h01 (by simp) (by omega) (by omega), map_mul_sum]
      omega
    have hplen : (parts lost ws).length = pays.length := by unfold parts; rw [give_length]; exact hml
    have hslen : (setI pays seat (getI pays seat - lost)).length = pays.length := setI_length _ _ _
    have hgi : getI pays seat = pays.getD seat.toNat 0 := rfl
    have hnlen : now.length = pays.length := by rw [← hnow, addl_length, hslen]
    have hget : ∀ i : Nat, i < pays.length → now.getD i 0 = (if (i : Int) = seat then pays.getD i 0 - lost else pays.getD i 0) + (parts lost ws).getD i 0 := by
      intro i hi
      rw [← hnow, addl_get _ _ _ (by omega)]
      congr 1
      unfold setI
      rw [List.getD_eq_getElem?_getD, List.getElem?_set]
      by_cases he : (i : Int) = seat
      · rw [if_pos (by omega), if_pos (by omega), if_pos he, hgi]
        simp only [Option.getD_some]
        congr 2
        omega
      · rw [if_neg (by omega), if_neg he, List.getD_eq_getElem?_getD]
    have hparts : ∀ i : Nat, i < pays.length → (((i : Int) = seat ∨ gone.getD i false = true) → (parts lost ws).getD i 0 = 0) ∧
        (¬ ((i : Int) = seat ∨ gone.getD i false = true) → lost / ws.sum ≤ (parts lost ws).getD i 0 ∧ (parts lost ws).getD i 0 ≤ lost / ws.sum + 1) := by
      intro i hi
      have hg := give_get ws (ws.map fun w => (lost / ws.sum) * w) (lost - (lost / ws.sum) * ws.sum) i
      have hwg := wts_get seat gone 0 i (by omega)
      rw [hW, Int.zero_add] at hwg
      have hmg : (ws.map fun w => (lost / ws.sum) * w).getD i 0 = (lost / ws.sum) * ws.getD i 0 := by
        rw [List.getD_eq_getElem?_getD, List.getElem?_map, List.getElem?_eq_getElem (by omega : i < ws.length), List.getD_eq_getElem?_getD, List.getElem?_eq_getElem (by omega : i < ws.length)]
        rfl
      rw [hmg] at hg
      unfold parts
      constructor
      · intro hc
        rw [if_pos hc] at hwg
        rw [hwg, Int.mul_zero] at hg
        rcases hg with hg | ⟨hg, _⟩
        · exact hg
        · exact absurd rfl hg
      · intro hc
        rw [if_neg hc] at hwg
        rw [hwg, Int.mul_one] at hg
        omega
    have hnn : ∀ y ∈ now, 0 ≤ y := by
      intro y hy
      obtain ⟨i, hi, rfl⟩ := List.mem_iff_getElem.1 hy
      have h7 := hget i (by omega)
      rw [List.getD_eq_getElem?_getD, List.getElem?_eq_getElem hi] at h7
      simp only [Option.getD_some] at h7
      have h8 := hparts i (by omega)
      have h9 := hall (pays.getD i 0) (by rw [List.getD_eq_getElem?_getD, List.getElem?_eq_getElem (by omega : i < pays.length)]; simp)
      have h10 : 0 ≤ (parts lost ws).getD i 0 := by
        by_cases hc : (i : Int) = seat ∨ gone.getD i false = true
        · rw [h8.1 hc]; omega
        · have := h8.2 hc; omega
      by_cases he : (i : Int) = seat
      · rw [if_pos he] at h7
        have : getI pays seat = pays.getD i 0 := by rw [hgi]; congr 1; omega
        omega
      · rw [if_neg he] at h7; omega
    have hnsum : now.sum = pays.sum := by
      rw [← hnow, addl_sum _ _ (by omega), hpsum]
      unfold setI
      rw [set_sum _ _ _ (by omega), hgi]
      omega
    have hn1 : ∀ y ∈ now, 0 ≤ y ∧ y ≤ 1125899906842624 := fun y hy => ⟨hnn y hy, by have := le_sum now hnn y hy; omega⟩
    refine ⟨hnlen, hglen, hs, ?_, hall, hn1, lost / ws.sum, hq0, fun i hi => ?_⟩
    · rw [hsp, sumP_right now 0 (fun y hy => rightB_iff.2 (hn1 y hy)) (by decide), hnsum]
    · have h7 := hget i hi
      have h8 := hparts i hi
      refine ⟨fun he => ?_, fun he hg => ?_, fun he hg => ?_⟩
      · rw [if_pos he, h8.1 (.inl he)] at h7
        omega
      · rw [if_neg he, h8.1 (.inr hg)] at h7
        omega
      · rw [if_neg he] at h7
        have := h8.2 (by rintro (h | h); exact he h; rw [hg] at h; cases h)
        omega
theorem keeps_l2 (nx1 : (List Int) → Int → Option Bool) (ls : List S_baizelaw35_Loss) (pays now : List Int) (x19 q : Int) (hx2 : x19 < 9223372036854775807) (hx0 : 0 ≤ x19) (hx1 : x19 < (ls.length : Int)) (hl : pays.length ≤ 10)
    (hn : now.length = pays.length) (hg : (getI ls x19).f3.length = pays.length) (hp : ∀ y ∈ pays, 0 ≤ y ∧ y ≤ 1125899906842624) (hnw : ∀ y ∈ now, 0 ≤ y ∧ y ≤ 1125899906842624) (hq : 0 ≤ q)
    (hd : ∀ i : Nat, i < pays.length → ((i : Int) = (getI ls x19).f1 → now.getD i 0 - pays.getD i 0 ≤ 0 ∧ pays.getD i 0 - now.getD i 0 ≤ (getI ls x19).f2) ∧
      ((i : Int) ≠ (getI ls x19).f1 → (getI ls x19).f3.getD i false = true → now.getD i 0 - pays.getD i 0 = 0) ∧
      ((i : Int) ≠ (getI ls x19).f1 → (getI ls x19).f3.getD i false = false → q ≤ now.getD i 0 - pays.getD i 0 ∧ now.getD i 0 - pays.getD i 0 ≤ q + 1)) :
    ∀ (k : Nat) (lo hi i : Int), 0 ≤ i → i ≤ (now.length : Int) → (now.length : Int) - i < k → ((lo = -1 ∧ hi = -1) ∨ (q ≤ lo ∧ lo ≤ hi ∧ hi ≤ q + 1)) → hi ≤ 1125899906842624 →
      F.baizelaw35_CloseKeeps.l2 nx1 ls pays x19 now k lo hi i = nx1 now (x19 + 1) := by
  intro k
  induction k with
  | zero => intro lo hi i h0 h1 h2; omega
  | succ k ih =>
    intro lo hi i h0 h1 h2 hJ hh
    unfold F.baizelaw35_CloseKeeps.l2
    by_cases hi' : i < (now.length : Int)
    · have hip : i < (pays.length : Int) := by omega
      have hig : i < ((getI ls x19).f3.length : Int) := by omega
      have b1 := hp _ (getI_mem h0 hip)
      have b2 := hnw _ (getI_mem h0 hi')
      have hD := hd i.toNat (by omega)
      have e1 : pays.getD i.toNat 0 = getI pays i := rfl
      have e2 : now.getD i.toNat 0 = getI now i := rfl
      have e3 : (getI ls x19).f3.getD i.toNat false = getI (getI ls x19).f3 i := rfl
      have e4 : ((i.toNat : Nat) : Int) = i := by omega
      rw [e1, e2, e3, e4] at hD
      have hw : IntKind.i64.wrap (getI now i - getI pays i) = getI now i - getI pays i := wrap_id (by omega) (by omega)
      have hw2 : IntKind.i64.wrap (0 - (getI now i - getI pays i)) = 0 - (getI now i - getI pays i) := wrap_id (by omega) (by omega)
      simp only [hi', h0, hip, hig, hx0, hx1, decide_true, and_self, if_true, hw, hw2, F.baizelaw35_CloseKeeps.c5, F.baizelaw35_CloseKeeps.c6, F.baizelaw35_CloseKeeps.c8, F.baizelaw35_CloseKeeps.c7, F.baizelaw35_CloseKeeps.c4, beq_iff_eq]
      rw [wrap_succ h0 (by omega)]
      by_cases hs : i = (getI ls x19).f1
      · have hA := hD.1 hs
        have n1 : ¬ (getI now i - getI pays i > 0) := by omega
        have n2 : ¬ (0 - (getI now i - getI pays i) > (getI ls x19).f2) := by omega
        simp only [hs] at n1 n2 ⊢
        simp only [if_true, n1, n2, decide_false, Bool.false_eq_true, if_false]
        have := ih lo hi (i + 1) (by omega) (by omega) (by omega) hJ hh
        rw [hs] at this
        exact this
      · rw [if_neg hs]
        cases hgi : getI (getI ls x19).f3 i with
        | true =>
          have hB := hD.2.1 hs hgi
          simp only [hB, show ¬ ((0 : Int) < 0) by omega, decide_false, Bool.false_eq_true, if_false, if_true, bne_self_eq_false, Bool.not_true]
          exact ih lo hi (i + 1) (by omega) (by omega) (by omega) hJ hh
        | false =>
          have hC := hD.2.2 hs hgi
          have n1 : ¬ (getI now i - getI pays i < 0) := by omega
          simp only [n1, decide_false, Bool.false_eq_true, if_false, if_true, Bool.not_false]
          have key : ∀ lo', (lo' = lo ∧ ¬ (lo < 0 ∨ getI now i - getI pays i < lo)) ∨ (lo' = getI now i - getI pays i ∧ (lo < 0 ∨ getI now i - getI pays i < lo)) →
              F.baizelaw35_CloseKeeps.l2 nx1 ls pays x19 now k lo' (imax hi (getI now i - getI pays i)) (i + 1) = nx1 now (x19 + 1) := by
            intro lo' hlo
            refine ih _ _ (i + 1) (by omega) (by omega) (by omega) (.inr ?_) ?_
            · unfold imax; split <;> omega
            · unfold imax; split <;> omega
          by_cases hlo : lo < 0
          · simp only [hlo, decide_true, if_true]
            exact key _ (.inr ⟨rfl, .inl hlo⟩)
          · by_cases hlo2 : getI now i - getI pays i < lo
            · simp only [hlo, hlo2, decide_true, decide_false, Bool.false_eq_true, if_true, if_false]
              exact key _ (.inr ⟨rfl, .inr hlo2⟩)
            · simp only [hlo, hlo2, decide_false, Bool.false_eq_true, if_false]
              exact key _ (.inl ⟨rfl, by omega⟩)
    · have n1 : ¬ (hi - lo > 1) := by omega
      simp only [hi', decide_false, Bool.false_eq_true, if_false, F.baizelaw35_CloseKeeps.c2]
      rw [wrap_id (by omega) (by omega)]
      simp only [n1, decide_false, Bool.false_eq_true, if_false]
      rw [wrap_succ hx0 hx2]

theorem keeps_l1 (ls : List S_baizelaw35_Loss) (x1 x2 : Int) (hls : ls.length ≤ 10) : ∀ (k : Nat) (pays : List Int) (i : Int), 0 ≤ i → i ≤ (ls.length : Int) → (ls.length : Int) - i < k → pays.length ≤ 8 → sumP pays 0 = (x1, x2) →
    F.baizelaw35_CloseKeeps.l1 ls x1 x2 k pays i = some true := by
  have hmx : maxLen = 9223372036854775807 := rfl
  intro k
  induction k with
  | zero => intro pays i h0 h1 h2; omega
  | succ k ih =>
    intro pays i h0 h1 h2 hl hs
    unfold F.baizelaw35_CloseKeeps.l1
    by_cases hi : i < (ls.length : Int)
    · simp only [hi, h0, decide_true, if_true, and_self, close_Forfeit_eq pays (getI ls i).f1 (getI ls i).f2 (getI ls i).f3 (by omega), Option.bind_some]
      generalize hf : forfeitP pays (getI ls i).f1 (getI ls i).f2 (getI ls i).f3 = r
      obtain ⟨now, e⟩ := r
      by_cases he : e = 0
      · subst he
        obtain ⟨hn, hg, hok, hsum, hp, hnw, q, hq, hd⟩ := forfeit_keeps _ _ _ _ _ hf
        have hx2 : x2 = 0 := by rw [hs] at hok; exact hok
        simp only [bne_self_eq_false, Bool.false_eq_true, if_false, ref_Sum_eq now (by omega), hsum, hs, hx2, Option.bind_some, F.baizelaw35_CloseKeeps.c3, hn]
        rw [keeps_l2 _ ls pays now i q (by omega) h0 hi (by omega) hn hg hp hnw hq hd fuel _ _ 0 (by omega) (by omega) (by rw [fuel_eq]; omega) (.inl ⟨rfl, rfl⟩) (by omega)]
        have h9 := ih now (i + 1) (by omega) (by omega) (by omega) (by omega) (by rw [hsum, hs])
        rw [hx2] at h9
        exact h9
      · have hnow : now = [] := by
          unfold forfeitP at hf
          repeat' split at hf
          all_goals
            obtain ⟨h3, h4⟩ := Prod.mk.inj hf
            first
            | exact h3.symm
            | exact absurd h4.symm he
        subst hnow
        have hne : (e != 0) = true := by simpa using he
        simp only [hne, if_true, List.length_nil, Int.natCast_zero, bne_self_eq_false, Bool.false_eq_true, if_false, F.baizelaw35_CloseKeeps.c2]
        rw [wrap_succ h0 (by omega)]
        exact ih pays (i + 1) (by omega) (by omega) (by omega) hl hs
    · simp [hi, told_ok]

theorem law_CloseKeeps (l0 : (List Int)) (l1 : (List S_baizelaw35_Loss)) (w0 : (l0.length ≤ maxLen ∧ ∀ y ∈ l0, (Lit.int .i64 y).wf = true)) (w1 : (l1.length ≤ maxLen ∧ ∀ y ∈ l1, wf_S_baizelaw35_Loss y)) : F.baizelaw35_CloseKeeps l0 l1 = some true := by
  have hmx : maxLen = 9223372036854775807 := rfl
  unfold F.baizelaw35_CloseKeeps F.baizelaw35_CloseKeeps.c1
  by_cases h1 : (l0.length : Int) > 8
  · simp [h1, told_ok]
  · by_cases h2 : (l1.length : Int) > 10
    · simp [h1, h2, told_ok]
    · have hc : ([] : List Int).length + l0.length ≤ 17592186044416 := by simp; omega
      simp only [h1, h2, decide_false, Bool.false_eq_true, if_false, hc, if_true, ref_Sum_eq l0 w0.1, Option.bind_some, List.nil_append]
      exact keeps_l1 l1 _ _ (by omega) fuel l0 0 (by omega) (by omega) (by rw [fuel_eq]; omega) (by omega) rfl
end Go.Proofs.Ytahpmlekenbafaa
