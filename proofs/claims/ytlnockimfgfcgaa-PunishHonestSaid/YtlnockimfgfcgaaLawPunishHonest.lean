/-
  Proved: who signs one thing of a place is never shown, whatever all others sign, and however often the honest one signs the same again (20 things).
-/
import Derived.Test.YtlnockimfgfcgaaPunishPair
namespace Go.Proofs.Ytlnockimfgfcgaa
open Go.Lab
set_option maxRecDepth 10000

/-- Two things of one place. -/
def sameP (A B : S_punish_Thing) : Prop := A.f1 = B.f1 ∧ tab A = tab B ∧ num A = num B ∧ plc A = plc B
theorem sameP.trans {A B C : S_punish_Thing} (h : sameP A B) (g : sameP B C) : sameP A C := ⟨h.1.trans g.1, h.2.1.trans g.2.1, h.2.2.1.trans g.2.2.1, h.2.2.2.trans g.2.2.2⟩
theorem sameP.symm {A B : S_punish_Thing} (h : sameP A B) : sameP B A := ⟨h.1.symm, h.2.1.symm, h.2.2.1.symm, h.2.2.2.symm⟩

theorem Place_eq {T : S_punish_Thing} (h : OkT T) : F.punish_Thing_Place T.f1 T.f2 T.f3 T.f4 T.f5 T.f6 T.f7 T.f8 T.f9 = some (tab T, num T, plc T) := by
  obtain ⟨b, hb⟩ := own_eq h
  unfold F.punish_Thing_Place
  rw [hb, Option.bind_some]

/-- What an honest one signed: of one place one digest. -/
def Coh (own : List S_punish_Thing) : Prop := ∀ A ∈ own, ∀ B ∈ own, sameP A B → dig A = dig B

section
variable {x1 : Int} {es : List S_notary_entry} {ts own : List S_punish_Thing} {x15 : Int}

/-- Behind the search the thing is signed. -/
def endH (nx : List S_notary_entry → List (S_notary_entry × Int) → List S_punish_Thing → List S_punish_Thing → Int → Option Bool) (x1 : Int) (es : List S_notary_entry) (ts own : List S_punish_Thing) (x15 : Int) (C : S_punish_Thing) : Option Bool :=
  nx (signL es ⟨keyS x1, dig C⟩).1 (places (signL es ⟨keyS x1, dig C⟩).1) (ts ++ [withSig C (sigB (signL es ⟨keyS x1, dig C⟩).2)]) (own ++ [withSig C (sigB (signL es ⟨keyS x1, dig C⟩).2)]) (IntKind.i64.wrap (x15 + 1))

theorem honest_l2 (nx : List S_notary_entry → List (S_notary_entry × Int) → List S_punish_Thing → List S_punish_Thing → Int → Option Bool) (hes : es.length < 60000) (hts : ts.length < 1000) (hol : own.length < 1000) (hok : ∀ T ∈ own, OkT T) (N : S_punish_Thing) :
    ∀ (j k i : Nat) (C : S_punish_Thing), i + j = own.length → j < k → OkT C → sameP C N → ((C = N ∧ ∀ a : Nat, a < i → ¬ sameP (getI own (a : Int)) N) ∨ C ∈ own) →
      ∃ C', OkT C' ∧ sameP C' N ∧ ((C' = N ∧ ∀ a : Nat, a < own.length → ¬ sameP (getI own (a : Int)) N) ∨ C' ∈ own) ∧
        F.baizelaw34_PunishHonest.l2 nx x1 es (places es) ts own x15 k C.f1 C.f2 C.f3 C.f4 C.f5 C.f6 C.f7 C.f8 C.f9 (i : Int) = endH nx x1 es ts own x15 C' := by
  intro j
  induction j with
  | zero =>
    intro k i C hi hk oc hs hc
    obtain ⟨k, rfl⟩ : ∃ j, k = j + 1 := ⟨k - 1, by omega⟩
    have : i = own.length := by omega
    subst this
    refine ⟨C, oc, hs, hc, ?_⟩
    unfold F.baizelaw34_PunishHonest.l2 F.notary_Book_Signer F.baizelaw34_PunishHonest.c2 endH
    rw [if_neg (by simp), key_eq, Option.bind_some, Option.bind_some, dig_eq oc, Option.bind_some, Sign_eq (by omega), Option.bind_some]
    simp only []
    rw [if_pos (by simp; omega), if_pos (by simp; omega)]
    rfl
  | succ j ih =>
    intro k i C hi hk oc hs hc
    obtain ⟨k, rfl⟩ : ∃ j, k = j + 1 := ⟨k - 1, by omega⟩
    have hmem : getI own (i : Int) ∈ own := getI_mem (by omega) (by omega)
    have oo := hok _ hmem
    -- on with the one in hand
    have stay : ¬ sameP (getI own (i : Int)) C → ∃ C', OkT C' ∧ sameP C' N ∧ ((C' = N ∧ ∀ a : Nat, a < own.length → ¬ sameP (getI own (a : Int)) N) ∨ C' ∈ own) ∧
        F.baizelaw34_PunishHonest.c4 (F.baizelaw34_PunishHonest.l2 nx x1 es (places es) ts own x15 k) own C.f1 C.f2 C.f3 C.f4 C.f5 C.f6 C.f7 C.f8 C.f9 (i : Int) false = endH nx x1 es ts own x15 C' := by
      intro hn
      obtain ⟨C', h1, h2, h3, h4⟩ := ih k (i + 1) C (by omega) (by omega) oc hs (by
        rcases hc with ⟨rfl, h⟩ | h
        · refine .inl ⟨rfl, fun a ha => ?_⟩
          rcases Nat.lt_succ_iff_lt_or_eq.1 ha with h' | rfl
          · exact h a h'
          · exact hn
        · exact .inr h)
      refine ⟨C', h1, h2, h3, ?_⟩
      unfold F.baizelaw34_PunishHonest.c4 F.baizelaw34_PunishHonest.c3
      rw [if_neg (by decide), wrap_succ (by omega) (by omega), show (i : Int) + 1 = ((i + 1 : Nat) : Int) by push_cast; rfl]
      exact h4
    unfold F.baizelaw34_PunishHonest.l2
    rw [if_pos (by simp; omega), if_pos (by omega), Place_eq oo, Option.bind_some]
    simp only []
    rw [Place_eq oc, Option.bind_some]
    simp only []
    by_cases c1 : (getI own (i : Int)).f1 = C.f1
    · rw [if_pos (by simpa using c1), arr_beq]
      by_cases c2 : tab (getI own (i : Int)) = tab C
      · rw [if_pos (by simpa using c2)]
        by_cases c3 : num (getI own (i : Int)) = num C
        · rw [if_pos (by simpa using c3), arr_beq]
          by_cases c4 : plc (getI own (i : Int)) = plc C
          · rw [decide_eq_true c4]
            have hp : sameP (getI own (i : Int)) C := ⟨c1, c2, c3, c4⟩
            obtain ⟨C', h1, h2, h3, h4⟩ := ih k (i + 1) (getI own (i : Int)) (by omega) (by omega) oo (hp.trans hs) (.inr hmem)
            refine ⟨C', h1, h2, h3, ?_⟩
            unfold F.baizelaw34_PunishHonest.c4 F.baizelaw34_PunishHonest.c3
            rw [if_pos rfl, wrap_succ (by omega) (by omega), show (i : Int) + 1 = ((i + 1 : Nat) : Int) by push_cast; rfl]
            exact h4
          · rw [decide_eq_false c4]
            exact stay (fun h => c4 h.2.2.2)
        · rw [if_neg (by simpa using c3)]
          exact stay (fun h => c3 h.2.2.1)
      · rw [if_neg (by simpa using c2)]
        exact stay (fun h => c2 h.2.1)
    · rw [if_neg (by simpa using c1)]
      exact stay (fun h => c1 h.1)
end

/-- What stands when so many have signed. -/
structure Inv (kh : Arr Int 8) (n : Nat) (es : List S_notary_entry) (ts own : List S_punish_Thing) : Prop where
  les : es.length ≤ n
  lts : ts.length ≤ n
  lown : own.length ≤ n
  oks : ∀ T ∈ ts, OkT T
  made : ∀ T ∈ ts, ∃ k, Made es T k ∧ (k = kh → T ∈ own)
  oown : ∀ T ∈ own, OkT T
  coh : Coh own

theorem honest_l3 {x1 : Int} {es : List S_notary_entry} {ts own : List S_punish_Thing} (h : Inv (keyS x1) 1000 es ts own) : ∀ (j k i : Nat), i + j = 2 → j < k → F.baizelaw34_PunishHonest.l3 x1 es (places es) ts k (i : Int) = some true := by
  have hes : es.length ≤ 65536 := by have := h.les; omega
  have hF : ∀ t : Arr Int 8, F.punish_Find es (places es) t (keyS x1) ts = some (0, 0, false) := by
    intro t
    refine find_none hes (by have := h.lts; omega) h.oks (fun a b hab hb hz => ?_)
    obtain ⟨z1, z2, z3, z4, z5, z6⟩ := twice_zero hz
    have ma := getI_mem' (l := ts) (a := a) (by omega)
    have mb := getI_mem' (l := ts) (a := b) hb
    have own_of : ∀ T ∈ ts, okV es (keyS x1) (dig T) T.f9 = true → T ∈ own := by
      intro T hT hv
      obtain ⟨k, h1, h2⟩ := h.made T hT
      by_cases hk : k = keyS x1
      · exact h2 hk
      · rw [made_other hes h1 (fun q => hk q.symm)] at hv
        cases hv
    exact z4 (h.coh _ (own_of _ ma z5) _ (own_of _ mb z6) ⟨z1, z2.1.trans z2.2.symm, z3.1, z3.2⟩)
  intro j
  induction j with
  | zero =>
    intro k i hi hk
    obtain ⟨k, rfl⟩ : ∃ j, k = j + 1 := ⟨k - 1, by omega⟩
    unfold F.baizelaw34_PunishHonest.l3
    rw [if_neg (by simp; omega)]
  | succ j ih =>
    intro k i hi hk
    obtain ⟨k, rfl⟩ : ∃ j, k = j + 1 := ⟨k - 1, by omega⟩
    unfold F.baizelaw34_PunishHonest.l3
    rw [if_pos (by simp; omega), if_pos (by simp; omega), table_eq, Option.bind_some, key_eq, Option.bind_some, hF, Option.bind_some]
    simp only []
    rw [if_neg (by decide), wrap_succ (by omega) (by omega)]
    have := ih k (i + 1) (by omega) (by omega)
    rw [show (i : Int) + 1 = ((i + 1 : Nat) : Int) by push_cast; rfl]
    exact this

theorem honest_l1 {l1 : List S_baizelaw34_Deed} (hl : l1.length ≤ 20) (x1 : Int) : ∀ (r p : List S_baizelaw34_Deed) (k : Nat) (es : List S_notary_entry) (ts own : List S_punish_Thing), l1 = p ++ r → (∀ d ∈ r, OkD d) → r.length < k → Inv (keyS x1) p.length es ts own →
    F.baizelaw34_PunishHonest.l1 l1 x1 k es (places es) ts own (p.length : Int) = some true := by
  intro r
  induction r with
  | nil =>
    intro p k es ts own hp hd hk h
    obtain ⟨k, rfl⟩ : ∃ j, k = j + 1 := ⟨k - 1, by omega⟩
    have hlp : l1.length = p.length := by rw [hp]; simp
    unfold F.baizelaw34_PunishHonest.l1
    rw [if_neg (by simp; omega)]
    exact honest_l3 ⟨by have := h.les; omega, by have := h.lts; omega, by have := h.lown; omega, h.oks, h.made, h.oown, h.coh⟩ 2 fuel 0 (by omega) (by rw [fuel_eq]; omega)
  | cons d r ih =>
    intro p k es ts own hp hd hk h
    obtain ⟨k, rfl⟩ : ∃ j, k = j + 1 := ⟨k - 1, by simp at hk; omega⟩
    have hlen : l1.length = p.length + r.length + 1 := by rw [hp]; simp; omega
    have hg : getI l1 (p.length : Int) = d := by rw [hp]; exact getI_mid'
    have od := hd d (by simp)
    have les := h.les
    have lts := h.lts
    have lown := h.lown
    have ob := base_ok od
    have next : ∀ (es' : List S_notary_entry) (ts' own' : List S_punish_Thing), Inv (keyS x1) (p.length + 1) es' ts' own' → F.baizelaw34_PunishHonest.l1 l1 x1 k es' (places es') ts' own' (IntKind.i64.wrap ((p.length : Int) + 1)) = some true := by
      intro es' ts' own' h'
      have := ih (p ++ [d]) k es' ts' own' (by rw [hp]; simp) (fun e he => hd e (by simp [he])) (by simp at hk; omega) (by rw [List.length_append]; exact h')
      rw [List.length_append] at this
      simp only [List.length_cons, List.length_nil, Nat.zero_add] at this
      rw [wrap_succ (by omega) (by omega), show (p.length : Int) + 1 = ((p.length + 1 : Nat) : Int) by push_cast; rfl]
      exact this
    unfold F.baizelaw34_PunishHonest.l1
    rw [if_pos (by simp; omega), if_pos (by omega), hg, key_eq, Option.bind_some, key_eq, Option.bind_some, arr_beq]
    by_cases hk2 : keyS d.f1 = keyS x1
    · rw [decide_eq_true hk2, if_neg (by decide), table_eq, Option.bind_some, kind_eq]
      have hat : (⟨[(d.f6.tmod 2), 0, 0, 0, 0, 0, 0, 0], rfl⟩ : Arr Int 8) = atD d.f6 := by
        apply Subtype.ext
        simp only [atD, List.cons.injEq, and_true]
        exact Int.tmod_eq_emod_of_nonneg od.2.2.2.2.2.1
      rw [hat, Of_eq34, Option.bind_some, of_mkT (kindK_or _)]
      simp only []
      have hbt : mkT (kindK d.f2) (tabQ d.f5) d.f3 (atD d.f6) d.f4 [] = baseT d := rfl
      rw [hbt]
      obtain ⟨C, oc, hs, hc, he⟩ := honest_l2 (x1 := x1) (es := es) (ts := ts) (own := own) (x15 := (p.length : Int)) (F.baizelaw34_PunishHonest.l1 l1 x1 k) (by omega) (by omega) (by omega) h.oown (baseT d) own.length fuel 0 (baseT d) (by omega) (by rw [fuel_eq]; omega) ob ⟨rfl, rfl, rfl, rfl⟩ (.inl ⟨rfl, fun a ha => absurd ha (Nat.not_lt_zero a)⟩)
      simp only [Int.natCast_zero] at he
      rw [he]
      unfold endH
      have gi := signL_idx es ⟨keyS x1, dig C⟩
      have gl := signL_len es ⟨keyS x1, dig C⟩
      have kp := fun T k hm => Made.keeps (es := es) (T := T) (k := k) hm ⟨keyS x1, dig C⟩
      generalize signL es ⟨keyS x1, dig C⟩ = R at gi gl kp
      have okT := withSig_ok oc (sigB_byts R.2)
      refine next _ _ _ ⟨by omega, by simp; omega, by simp; omega, ?_, ?_, ?_, ?_⟩
      · intro T hT
        simp only [List.mem_append, List.mem_singleton] at hT
        rcases hT with hT | rfl
        · exact h.oks T hT
        · exact okT
      · intro T hT
        simp only [List.mem_append, List.mem_singleton] at hT ⊢
        rcases hT with hT | rfl
        · obtain ⟨k', h1, h2⟩ := h.made T hT
          exact ⟨k', kp T k' h1, fun q => .inl (h2 q)⟩
        · exact ⟨keyS x1, ⟨R.2, false, gi, rfl⟩, fun _ => .inr rfl⟩
      · intro T hT
        simp only [List.mem_append, List.mem_singleton] at hT
        rcases hT with hT | rfl
        · exact h.oown T hT
        · exact okT
      · -- of one place one digest
        have new : ∀ A ∈ own, sameP A (withSig C (sigB R.2)) → dig A = dig C := by
          intro A hA hp2
          have hAC : sameP A C := hp2
          rcases hc with ⟨_, hno⟩ | hC
          · exfalso
            obtain ⟨a, ha, rfl⟩ := List.getElem_of_mem hA
            apply hno a ha
            have : getI own (a : Int) = own[a] := by
              unfold getI
              simp [List.getD_eq_getElem?_getD, List.getElem?_eq_getElem ha]
            rw [this]
            exact hAC.trans hs
          · exact h.coh A hA C hC hAC
        intro A hA B hB hAB
        simp only [List.mem_append, List.mem_singleton] at hA hB
        rcases hA with hA | rfl
        · rcases hB with hB | rfl
          · exact h.coh A hA B hB hAB
          · exact new A hA hAB
        · rcases hB with hB | rfl
          · exact (new B hB hAB.symm).symm
          · rfl
    · rw [decide_eq_false hk2, if_pos (by decide), sign_eqD od (by omega), Option.bind_some]
      simp only []
      have gi := signL_idx es ⟨keyS d.f1, dig (baseT d)⟩
      have gl := signL_len es ⟨keyS d.f1, dig (baseT d)⟩
      have kp := fun T k hm => Made.keeps (es := es) (T := T) (k := k) hm ⟨keyS d.f1, dig (baseT d)⟩
      generalize signL es ⟨keyS d.f1, dig (baseT d)⟩ = R at gi gl kp
      unfold F.baizelaw34_PunishHonest.c2
      rw [if_pos (by simp; omega)]
      refine next _ _ _ ⟨by omega, by simp; omega, by omega, ?_, ?_, h.oown, h.coh⟩
      · intro T hT
        simp only [List.mem_append, List.mem_singleton] at hT
        rcases hT with hT | hT
        · exact h.oks T hT
        · rw [hT]; exact withSig_ok ob (sigE_byts _ _)
      · intro T hT
        simp only [List.mem_append, List.mem_singleton] at hT
        rcases hT with hT | hT
        · obtain ⟨k', h1, h2⟩ := h.made T hT
          exact ⟨k', kp T k' h1, h2⟩
        · rw [hT]; exact ⟨keyS d.f1, ⟨R.2, d.f7, gi, rfl⟩, fun q => absurd q hk2⟩

theorem law_PunishHonest (l0 : (List S_baizelaw34_Deed)) (a1 : Int) (w0 : (l0.length ≤ maxLen ∧ ∀ y ∈ l0, wf_S_baizelaw34_Deed y)) (w1 : (Lit.int .i64 a1).wf = true) : F.baizelaw34_PunishHonest l0 a1 = some true := by
  unfold F.baizelaw34_PunishHonest
  rw [known_true, Option.bind_some, if_neg (by decide), few_eqD w0.1, Option.bind_some]
  unfold F.baizelaw34_PunishHonest.c1 F.notary_NewBook
  cases hf : (l0.all fun d => decide (d.f4.length ≤ 60)) && decide (l0.length ≤ 20) with
  | false => rw [if_pos (by decide), known_true]; rfl
  | true =>
    rw [Bool.and_eq_true, decide_eq_true_eq] at hf
    rw [if_neg (by decide), Option.bind_some]
    exact honest_l1 hf.2 a1 l0 [] fuel [] [] [] (by simp) (okD_wf w0.2 hf.1) (by rw [fuel_eq]; omega) ⟨Nat.le_refl _, Nat.le_refl _, Nat.le_refl _, fun T hT => by simp at hT, fun T hT => by simp at hT, fun T hT => by simp at hT, fun A hA => by simp at hA⟩
end Go.Proofs.Ytlnockimfgfcgaa
