/-
  Proved: who signs two unlike things of one place is shown, whatever else is signed ahead, and behind; but not whoever signed one of both alone (20 things).
-/
import Derived.Test.YtlnockimfgfcgaaPunishPair
namespace Go.Proofs.Ytlnockimfgfcgaa
open Go.Lab
set_option maxRecDepth 10000

theorem key_next (x : Int) : keyS x ≠ keyS (IntKind.i64.wrap (x + 1)) := by
  intro h
  have := congrArg Subtype.val h
  simp only [keyS, List.cons.injEq] at this
  have h1 := this.1
  rw [wrap_i64] at h1
  omega

/-- A list's first, its middle, its last. -/
theorem ends {X Y : S_punish_Thing} {ts : List S_punish_Thing} {a : Nat} (h : a < ([X] ++ ts ++ [Y]).length) : (a = 0 ∧ getI ([X] ++ ts ++ [Y]) (a : Int) = X) ∨ (a = ts.length + 1 ∧ getI ([X] ++ ts ++ [Y]) (a : Int) = Y) ∨ (0 < a ∧ a < ts.length + 1 ∧ getI ([X] ++ ts ++ [Y]) (a : Int) ∈ ts) := by
  have hl : ([X] ++ ts ++ [Y]).length = ts.length + 2 := by simp
  by_cases h0 : a = 0
  · subst h0; exact .inl ⟨rfl, rfl⟩
  · by_cases h1 : a = ts.length + 1
    · subst h1
      refine .inr (.inl ⟨rfl, ?_⟩)
      unfold getI
      simp [List.getD_eq_getElem?_getD]
    · refine .inr (.inr ⟨by omega, by omega, ?_⟩)
      obtain ⟨b, rfl⟩ : ∃ b, a = b + 1 := ⟨a - 1, by omega⟩
      have : getI ([X] ++ ts ++ [Y]) ((b + 1 : Nat) : Int) = getI ts (b : Int) := by
        unfold getI
        have hb : b < ts.length := by omega
        simp [List.getD_eq_getElem?_getD, List.getElem?_append_left hb]
      rw [this]
      exact getI_mem (by omega) (by omega)

section
variable {es : List S_notary_entry} {X Y : S_punish_Thing} {ts : List S_punish_Thing} {k k' : Arr Int 8}

theorem only_ends (hes : es.length ≤ 65536) (hts : ∀ T ∈ ts, Made es T k') (hk : k ≠ k') {table : Arr Int 8} {a b : Nat} (hab : a < b) (hb : b < ([X] ++ ts ++ [Y]).length)
    (h : twiceP es table k (getI ([X] ++ ts ++ [Y]) (a : Int)) (getI ([X] ++ ts ++ [Y]) (b : Int)) = 0) : a = 0 ∧ b = ts.length + 1 ∧ getI ([X] ++ ts ++ [Y]) (a : Int) = X ∧ getI ([X] ++ ts ++ [Y]) (b : Int) = Y := by
  obtain ⟨_, _, _, _, h1, h2⟩ := twice_zero h
  have hl : ([X] ++ ts ++ [Y]).length = ts.length + 2 := by simp
  have no : ∀ T ∈ ts, okV es k (dig T) T.f9 ≠ true := fun T hT => by rw [made_other hes (hts T hT) hk]; decide
  rcases ends (X := X) (Y := Y) (ts := ts) (a := a) (by omega) with ⟨a0, ea⟩ | ⟨a1, ea⟩ | ⟨_, _, ea⟩
  · rcases ends (X := X) (Y := Y) (ts := ts) hb with ⟨b0, _⟩ | ⟨b1, eb⟩ | ⟨_, _, eb⟩
    · omega
    · exact ⟨a0, b1, ea, eb⟩
    · exact absurd h2 (no _ eb)
  · omega
  · exact absurd h1 (no _ ea)
end

theorem caught_end {l1 : List S_baizelaw34_Deed} {x1 x2 x3 : Int} {l2 l3 : List Int} {q1 : Bool} (o1 : OkD ⟨x1, x2, x3, l2, q1, 0, false⟩) (o2 : OkD ⟨x1, x2, x3, l3, q1, 0, false⟩) (hn : 0 ≤ x3 ∧ x3 ≤ 1099511627776)
    {es : List S_notary_entry} (hes : es.length ≤ 1000) {ts : List S_punish_Thing} (hl : ts.length ≤ 1000) (hok : ∀ T ∈ ts, OkT T) (hts : ∀ T ∈ ts, Made es T (keyS (IntKind.i64.wrap (x1 + 1)))) (k : Nat) {i : Int} (hi : ¬ i < (l1.length : Int)) :
    F.baizelaw34_PunishCaught.l1 l1 x1 x2 x3 l2 l3 q1 (k + 1) es (places es) ts i = some true := by
  have s1 := sign_eqD o1 (es := es) (by omega)
  simp only [] at s1
  generalize hbx : baseT ⟨x1, x2, x3, l2, q1, 0, false⟩ = bx at s1
  have okx : OkT bx := by rw [← hbx]; exact base_ok o1
  have g1 := signL_idx es ⟨keyS x1, dig bx⟩
  have g1l := signL_len es ⟨keyS x1, dig bx⟩
  have kp1 := fun T h => Made.keeps (T := T) (k := keyS (IntKind.i64.wrap (x1 + 1))) h ⟨keyS x1, dig bx⟩ (es := es)
  generalize signL es ⟨keyS x1, dig bx⟩ = r1 at s1 g1 g1l kp1
  have s2 := sign_eqD o2 (es := r1.1) (by omega)
  simp only [] at s2
  generalize hby : baseT ⟨x1, x2, x3, l3, q1, 0, false⟩ = by2 at s2
  have oky : OkT by2 := by rw [← hby]; exact base_ok o2
  have g2 := signL_idx r1.1 ⟨keyS x1, dig by2⟩
  have g2l := signL_len r1.1 ⟨keyS x1, dig by2⟩
  have g3 := signL_keeps (l := r1.1) ⟨keyS x1, dig by2⟩ g1
  have kp2 := fun T h => Made.keeps (T := T) (k := keyS (IntKind.i64.wrap (x1 + 1))) h ⟨keyS x1, dig by2⟩ (es := r1.1)
  generalize signL r1.1 ⟨keyS x1, dig by2⟩ = r2 at s2 g2 g2l g3 kp2
  have hsx : sigE r1.2 false = sigB r1.2 := rfl
  have hsy : sigE r2.2 false = sigB r2.2 := rfl
  rw [hsx] at s1
  rw [hsy] at s2
  have eX : withSig bx (sigB r1.2) = mkT (kindK x2) (tabQ q1) x3 (atD 0) l2 (sigB r1.2) := by rw [← hbx]; exact withSig_mkT _ _ _ _ _ _
  have eY : withSig by2 (sigB r2.2) = mkT (kindK x2) (tabQ q1) x3 (atD 0) l3 (sigB r2.2) := by rw [← hby]; exact withSig_mkT _ _ _ _ _ _
  have okX := withSig_ok okx (sigB_byts r1.2)
  have okY := withSig_ok oky (sigB_byts r2.2)
  have dX : dig (withSig bx (sigB r1.2)) = dig bx := rfl
  have dY : dig (withSig by2 (sigB r2.2)) = dig by2 := rfl
  have gX : (withSig bx (sigB r1.2)).f9 = sigB r1.2 := rfl
  have gY : (withSig by2 (sigB r2.2)).f9 = sigB r2.2 := rfl
  generalize hX : withSig bx (sigB r1.2) = X at *
  generalize hY : withSig by2 (sigB r2.2) = Y at *
  have vX : okV r2.1 (keyS x1) (dig X) X.f9 = true := made_ok (by rw [dX]; exact g3) gX
  have vY : okV r2.1 (keyS x1) (dig Y) Y.f9 = true := made_ok (by rw [dY]; exact g2) gY
  have hb2 : l2.length ≤ 60 := o1.2.2.2.2.1
  have hb3 : l3.length ≤ 60 := o2.2.2.2.2.1
  have cX : chkX X = 0 := by rw [eX]; exact mkT_chk (kindK_or _) _ _ hn (by omega) (by simp [sigB])
  have cY : chkX Y = 0 := by rw [eY]; exact mkT_chk (kindK_or _) _ _ hn (by omega) (by simp [sigB])
  obtain ⟨fX1, fX2, fX3, fX4, _⟩ := mkT_facts (kindK_or x2) (tabQ q1) x3 (atD 0) l2 (sigB r1.2)
  obtain ⟨fY1, fY2, fY3, fY4, _⟩ := mkT_facts (kindK_or x2) (tabQ q1) x3 (atD 0) l3 (sigB r2.2)
  rw [← eX] at fX1 fX2 fX3 fX4
  rw [← eY] at fY1 fY2 fY3 fY4
  have hes2 : r2.1.length ≤ 65536 := by omega
  have hts2 : ∀ T ∈ ts, Made r2.1 T (keyS (IntKind.i64.wrap (x1 + 1))) := fun T hT => kp2 T (kp1 T (hts T hT))
  have hne := key_next x1
  have okAll : ∀ T ∈ [X] ++ ts ++ [Y], OkT T := by
    intro T hT
    simp only [List.mem_append, List.mem_singleton] at hT
    rcases hT with (rfl | hT) | rfl
    · exact okX
    · exact hok T hT
    · exact okY
  have okInit : ∀ T ∈ [X] ++ ts, OkT T := fun T hT => okAll T (List.mem_append_left _ hT)
  have hlen : ([X] ++ ts ++ [Y]).length = ts.length + 2 := by simp
  have hXY : twiceP r2.1 (tabQ q1) (keyS x1) X Y = if dig X = dig Y then 7 else 0 := by
    unfold twiceP
    rw [if_neg (by rw [cX]; simp), if_neg (by rw [cY]; simp), if_neg (by rw [fX1, fY1]; simp), if_neg (by rw [fX2, fY2]; simp), if_neg (by rw [fX3, fY3, fX4, fY4]; simp), if_pos (c := okV r2.1 (keyS x1) (dig X) X.f9 = true ∧ okV r2.1 (keyS x1) (dig Y) Y.f9 = true) ⟨vX, vY⟩]
  -- of the whole, by this table
  have F1 : F.punish_Find r2.1 (places r2.1) (tabQ q1) (keyS x1) ([X] ++ ts ++ [Y]) = some (0, (if dig X = dig Y then 0 else ((ts.length + 1 : Nat) : Int)), !decide (dig X = dig Y)) := by
    by_cases hd : dig X = dig Y
    · rw [if_pos hd, decide_eq_true hd]
      refine find_none hes2 (by omega) okAll (fun a b hab hb h => ?_)
      obtain ⟨_, _, ea, eb⟩ := only_ends hes2 hts2 hne hab hb h
      rw [ea, eb, hXY, if_pos hd] at h
      cases h
    · rw [if_neg hd, decide_eq_false hd, Find_eqP hes2 (by omega) okAll]
      cases hs : scanB (showsF r2.1 (tabQ q1) (keyS x1) ([X] ++ ts ++ [Y])) 0 ([X] ++ ts ++ [Y]).length with
      | none =>
        have := scanB_all hs 0 (ts.length + 1) (by omega) (by omega) (by omega)
        have h0 : getI ([X] ++ ts ++ [Y]) ((0 : Nat) : Int) = X := rfl
        have h1 : getI ([X] ++ ts ++ [Y]) ((ts.length + 1 : Nat) : Int) = Y := by
          rcases ends (X := X) (Y := Y) (ts := ts) (a := ts.length + 1) (by omega) with ⟨z, _⟩ | ⟨_, z⟩ | ⟨_, z, _⟩
          · omega
          · exact z
          · omega
        unfold showsF at this
        rw [h0, h1, hXY, if_neg hd] at this
        exact absurd this (by decide)
      | some q =>
        obtain ⟨a, b⟩ := q
        obtain ⟨h1, h2, _, h3⟩ := scanB_some hs
        obtain ⟨ea, eb, _, _⟩ := only_ends hes2 hts2 hne h2 (by omega) (shows_true.1 h1)
        subst ea eb
        rfl
  have F2 : F.punish_Find r2.1 (places r2.1) (tabQ q1) (keyS x1) ([X] ++ ts) = some (0, 0, false) := by
    refine find_none hes2 (by simp; omega) okInit (fun a b hab hb h => ?_)
    have hb2 : b < ts.length + 1 := by simpa [Nat.add_comm] using hb
    have hp : ∀ c : Nat, c < ts.length + 1 → getI ([X] ++ ts) (c : Int) = getI ([X] ++ ts ++ [Y]) (c : Int) := by
      intro c hc
      unfold getI
      rw [List.getD_eq_getElem?_getD, List.getD_eq_getElem?_getD, List.getElem?_append_left (l₁ := [X] ++ ts) (by simp; omega)]
    rw [hp a (by omega), hp b hb2] at h
    obtain ⟨_, eb, _, _⟩ := only_ends hes2 hts2 hne hab (by omega) h
    omega
  have F3 : F.punish_Find r2.1 (places r2.1) (tabQ (!q1)) (keyS x1) ([X] ++ ts ++ [Y]) = some (0, 0, false) := by
    refine find_none hes2 (by omega) okAll (fun a b hab hb h => ?_)
    obtain ⟨_, _, ea, eb⟩ := only_ends hes2 hts2 hne hab hb h
    rw [ea, eb] at h
    obtain ⟨_, ht, _⟩ := twice_zero h
    rw [fX2] at ht
    exact tabQ_ne q1 ht.1
  have hw : IntKind.i64.wrap ((([X] ++ ts ++ [Y]).length : Int) - 1) = ((ts.length + 1 : Nat) : Int) := by rw [hlen, wrap_id (by omega) (by omega)]; push_cast; omega
  have hcut : sliceI ([X] ++ ts ++ [Y]) 0 ((ts.length + 1 : Nat) : Int) = [X] ++ ts := by
    unfold sliceI
    rw [show ((0 : Int)).toNat = 0 from rfl, List.drop_zero, Int.toNat_natCast, Nat.sub_zero, List.take_left' (by simp [Nat.add_comm])]
  have eqX : (⟨X.f1, X.f2, X.f3, X.f4, X.f5, X.f6, X.f7, X.f8, X.f9⟩ : S_punish_Thing) = X := rfl
  have eqY : (⟨Y.f1, Y.f2, Y.f3, Y.f4, Y.f5, Y.f6, Y.f7, Y.f8, Y.f9⟩ : S_punish_Thing) = Y := rfl
  unfold F.baizelaw34_PunishCaught.l1
  rw [if_neg (by simpa using hi), s1, Option.bind_some]
  simp only []
  rw [s2, Option.bind_some]
  simp only []
  rw [dig_eq okX, Option.bind_some, dig_eq okY, Option.bind_some, eqX, eqY, if_pos (by simp; omega), if_pos (by simp; omega), table_eq, Option.bind_some, key_eq, Option.bind_some, F1, Option.bind_some]
  simp only []
  rw [Option.bind_some, Option.bind_some, hw, if_pos (by rw [hlen]; omega), hcut, F2, Option.bind_some, table_eq, Option.bind_some, Option.bind_some, F3, Option.bind_some]
  simp only []
  rw [if_neg (by decide), if_neg (by decide), arr_beq]
  unfold F.baizelaw34_PunishCaught.c2 F.baizelaw34_PunishCaught.c3
  rw [if_neg (by simp), eqX, eqY, hw]
  by_cases hd : dig X = dig Y
  · rw [decide_eq_true hd, if_pos (by decide)]
  · rw [decide_eq_false hd, if_neg (by decide), if_pos (by decide), if_neg hd]
    simp

theorem caught_l1 {l1 : List S_baizelaw34_Deed} (hl : l1.length ≤ 20) {x1 x2 x3 : Int} {l2 l3 : List Int} {q1 : Bool} (o1 : OkD ⟨x1, x2, x3, l2, q1, 0, false⟩) (o2 : OkD ⟨x1, x2, x3, l3, q1, 0, false⟩) (hn : 0 ≤ x3 ∧ x3 ≤ 1099511627776) :
    ∀ (r p : List S_baizelaw34_Deed) (k : Nat) (es : List S_notary_entry) (ts : List S_punish_Thing), l1 = p ++ r → (∀ d ∈ r, OkD d) → r.length < k → es.length ≤ p.length → ts.length = p.length → (∀ T ∈ ts, OkT T) → (∀ T ∈ ts, Made es T (keyS (IntKind.i64.wrap (x1 + 1)))) →
      F.baizelaw34_PunishCaught.l1 l1 x1 x2 x3 l2 l3 q1 k es (places es) ts (p.length : Int) = some true := by
  intro r
  induction r with
  | nil =>
    intro p k es ts hp hd hk he ht hok hm
    obtain ⟨k, rfl⟩ : ∃ j, k = j + 1 := ⟨k - 1, by omega⟩
    have hlp : l1.length = p.length := by rw [hp]; simp
    exact caught_end o1 o2 hn (by omega) (by omega) hok hm k (by omega)
  | cons d r ih =>
    intro p k es ts hp hd hk he ht hok hm
    obtain ⟨k, rfl⟩ : ∃ j, k = j + 1 := ⟨k - 1, by simp at hk; omega⟩
    have hlen : l1.length = p.length + r.length + 1 := by rw [hp]; simp; omega
    have hg : getI l1 (p.length : Int) = d := by rw [hp]; exact getI_mid'
    have od := hd d (by simp)
    have hw : I64 (IntKind.i64.wrap (x1 + 1)) := by rw [wrap_i64]; unfold I64; omega
    have od2 : OkD ⟨IntKind.i64.wrap (x1 + 1), d.f2, d.f3, d.f4, d.f5, d.f6, d.f7⟩ := ⟨hw, od.2⟩
    have s := sign_eqD od2 (es := es) (by omega)
    simp only [] at s
    have ob := base_ok od2
    generalize hbt : baseT ⟨IntKind.i64.wrap (x1 + 1), d.f2, d.f3, d.f4, d.f5, d.f6, d.f7⟩ = bt at s ob
    have g := signL_idx es ⟨keyS (IntKind.i64.wrap (x1 + 1)), dig bt⟩
    have gl := signL_len es ⟨keyS (IntKind.i64.wrap (x1 + 1)), dig bt⟩
    have kp := fun T h => Made.keeps (T := T) (k := keyS (IntKind.i64.wrap (x1 + 1))) h ⟨keyS (IntKind.i64.wrap (x1 + 1)), dig bt⟩ (es := es)
    generalize signL es ⟨keyS (IntKind.i64.wrap (x1 + 1)), dig bt⟩ = rr at s g gl kp
    unfold F.baizelaw34_PunishCaught.l1
    rw [if_pos (by simp; omega), if_pos (by omega), hg, s, Option.bind_some]
    simp only []
    rw [if_pos (by simp; omega), wrap_succ (by omega) (by omega)]
    have := ih (p ++ [d]) k rr.1 (ts ++ [withSig bt (sigE rr.2 d.f7)]) (by rw [hp]; simp) (fun e he => hd e (by simp [he])) (by simp at hk; omega) (by simp; omega) (by simp; omega) (by
      intro T hT
      simp only [List.mem_append, List.mem_singleton] at hT
      rcases hT with hT | rfl
      · exact hok T hT
      · exact withSig_ok ob (sigE_byts _ _)) (by
      intro T hT
      simp only [List.mem_append, List.mem_singleton] at hT
      rcases hT with hT | rfl
      · exact kp T (hm T hT)
      · exact ⟨rr.2, d.f7, g, rfl⟩)
    rw [List.length_append] at this
    simp only [List.length_cons, List.length_nil, Nat.zero_add] at this
    rw [show (p.length : Int) + 1 = ((p.length + 1 : Nat) : Int) by push_cast; rfl]
    exact this

theorem law_PunishCaught (l0 : (List S_baizelaw34_Deed)) (a1 : Int) (a2 : Int) (a3 : Int) (l4 : (List Int)) (l5 : (List Int)) (a6 : Bool) (w0 : (l0.length ≤ maxLen ∧ ∀ y ∈ l0, wf_S_baizelaw34_Deed y)) (w1 : (Lit.int .i64 a1).wf = true) (w2 : (Lit.int .i64 a2).wf = true) (w3 : (Lit.int .i64 a3).wf = true) (w4 : (l4.length ≤ maxLen ∧ ∀ y ∈ l4, (Lit.int .u8 y).wf = true)) (w5 : (l5.length ≤ maxLen ∧ ∀ y ∈ l5, (Lit.int .u8 y).wf = true)) : F.baizelaw34_PunishCaught l0 a1 a2 a3 l4 l5 a6 = some true := by
  have hT : F.baizelaw34_PunishCaught.c1 l0 a1 a2 a3 l4 l5 a6 true = some true := by
    unfold F.baizelaw34_PunishCaught.c1
    rw [if_pos rfl, known_true]; rfl
  unfold F.baizelaw34_PunishCaught
  rw [known_true, Option.bind_some, if_neg (by decide), few_eqD w0.1, Option.bind_some]
  cases hf : (l0.all fun d => decide (d.f4.length ≤ 60)) && decide (l0.length ≤ 20) with
  | false => rw [if_pos (by decide)]; exact hT
  | true =>
    rw [Bool.and_eq_true, decide_eq_true_eq] at hf
    rw [if_neg (by decide)]
    by_cases c1 : (l4.length : Int) > 60
    · rw [if_pos (by simpa using c1)]; exact hT
    rw [if_neg (by simpa using c1)]
    by_cases c2 : (l5.length : Int) > 60
    · rw [if_pos (by simpa using c2)]; exact hT
    rw [if_neg (by simpa using c2)]
    by_cases c3 : a3 < 0
    · rw [if_pos (by simpa using c3)]; exact hT
    rw [if_neg (by simpa using c3)]
    by_cases c4 : a3 > 1099511627776
    · rw [decide_eq_true c4]; exact hT
    rw [decide_eq_false c4]
    unfold F.baizelaw34_PunishCaught.c1 F.notary_NewBook
    rw [if_neg (by decide), Option.bind_some]
    have h1 := wf_i64.1 w1
    have h2 := wf_i64.1 w2
    have h3 := wf_i64.1 w3
    exact caught_l1 hf.2 ⟨h1, h2, h3, byts_wf w4.2, by show l4.length ≤ 60; omega, by show (0 : Int) ≤ 0; omega, by show (0 : Int) < 256; omega⟩ ⟨h1, h2, h3, byts_wf w5.2, by show l5.length ≤ 60; omega, by show (0 : Int) ≤ 0; omega, by show (0 : Int) < 256; omega⟩ (by omega) l0 [] fuel [] [] (by simp) (okD_wf w0.2 hf.1) (by rw [fuel_eq]; omega) (Nat.le_refl _) rfl (fun T hT => by simp at hT) (fun T hT => by simp at hT)
end Go.Proofs.Ytlnockimfgfcgaa
