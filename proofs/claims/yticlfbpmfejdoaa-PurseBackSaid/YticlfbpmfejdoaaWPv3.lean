/-
  Walks, written by program: each Go function computes the plain function of its name, in whatever world its arguments' facts hold.
-/
import Derived.Test.YticlfbpmfejdoaaWPv2
namespace Go.Proofs.Yticlfbpmfejdoaa
open Go.RowKit Go.Lab
attribute [local irreducible] WP CP NX wpList Code.wp Calls
set_option maxRecDepth 100000
set_option maxHeartbeats 4000000
set_option linter.unusedVariables false

def N.baizeref47_next_0 : List (List Nat) := [[], [0], [], [2], [2, 3], [], [5], [], [], [8], [7, 8, 9], [0, 1, 2, 3, 4, 5, 6, 7, 8, 9, 10], [0, 1, 2, 3, 4, 5, 6, 7, 8, 9, 10, 11], [0, 1, 2, 3, 4, 5, 6, 7, 8, 9, 10, 11, 12]]
def F.baizeref47_next (d1 : Arr Int 8) (x1 : Int) (d2 : Arr Int 2) (l1 : List S_baizeref47_Held) : Option ((Arr Int 8) × Int × (Arr Int 2) × (List S_baizeref47_Held) × Int) := ((F.baizeref47_Check d1 x1 d2 l1).bind fun x2 => (if (x2 != 0) = true then (some ((zA 8), 0, (zA 2), [], 3)) else (if (x1 == 1099511627776) = true then (some ((zA 8), 0, (zA 2), [], 17)) else (if ([] : List S_baizeref47_Held).length + l1.length ≤ 4398046511104 then (some (d1, (IntKind.i64.wrap (x1 + 1)), d2, (([] : List S_baizeref47_Held) ++ l1), 0)) else none))))
theorem P.baizeref47_next (g0 : GW) (r0 : Nat) (d1 : Arr Int 8) (x1 : Int) (d2 : Arr Int 2) (l1 : List S_baizeref47_Held) (a1 : Option Addr) (n1 : Nat) (c1 : Nat) (hR1 : RdS k_S_baizeref47_Held g0 60 a1 n1 c1 l1) (o1 : Arr Int 8) (o2 : Int) (o3 : Arr Int 2) (o4 : List S_baizeref47_Held) (o5 : Int) (hs : F.baizeref47_next d1 x1 d2 l1 = some (o1, o2, o3, o4, o5)) :
    Calls Try.prog 78 #[AG [encA .u8 d1, [.int .i64 x1], encA .i64 d2, [.slice a1 n1 c1]]] g0.w (Ret NoM g0 fun v g => ∃ (a_1 : Option Addr) (n_1 : Nat) (c_1 : Nat), v = .tuple #[AG [encA .u8 o1, [.int .i64 o2], encA .i64 o3, [.slice a_1 n_1 c_1]], .int .i64 o5] ∧ OwnS k_S_baizeref47_Held g r0 60 a_1 n_1 c_1 o4) := by
  refine calls_of (args := [AG [encA .u8 d1, [.int .i64 x1], encA .i64 d2, [.slice a1 n1 c1]]]) Try.func78 rfl (r0 + 0) ?_
  intro t ht htL
  refine ⟨_, rfl, ?_⟩
  refine CP.refr 24 [(0, AG [encA .u8 d1, [.int .i64 x1], encA .i64 d2, [.slice a1 n1 c1]])] (by kernel_rfl) (by kernel_rfl) ?_
  intro ds
  have tot : Step (fun l => NoM l ∨ t ≤ l) g0 g0 := Step.refl _ _
  unfold F.baizeref47_next at hs
  refine CP.seqR ?_
  refine WP.alloc (T := 26) (t + 1) [encA .u8 d1, [.int .i64 x1], encA .i64 d2, [.slice a1 n1 c1]] [8, 1, 2, 1] (by kernel_rfl) (by simp [len_encA]) ?_
  intro g1 b1 st1 hB1
  replace hR1 := hR1.mono st1 (fun x => x)
  replace tot := tot.trans st1.pure
  refine WP.alloc (T := 26) (t + 2) [encA .u8 (zA 8), [.int .i64 0], encA .i64 (zA 2), [.slice none 0 0]] [8, 1, 2, 1] (by kernel_rfl) (by simp [len_encA]) ?_
  intro g2 b2 st2 hB2
  replace hR1 := hR1.mono st2 (fun x => x)
  replace hB1 := hB1.mono st2 (fun x => x)
  replace tot := tot.trans st2.pure
  refine WP.still 1 (by kernel_rfl) ?_
  refine WP.done (by kernel_rfl) ?_
  refine NX.then_n ?_
  refine CP.seq ?_
  refine CP.seqR ?_
  refine WP.loadB (v := AG [encA .u8 d1, [.int .i64 x1], encA .i64 d2, [.slice a1 n1 c1]]) hB1 (by kernel_rfl) (by kernel_rfl) ?_
  replace hs := Option.bind_eq_some_iff.1 hs
  obtain ⟨x2, hk1, hs⟩ := hs
  have hcal1 := P.baizeref47_Check g2 d1 x1 d2 l1 a1 n1 c1 hR1 x2 hk1
  refine WP.callC hcal1 (by kernel_rfl) ?_
  rintro _ g3 st3 rfl
  replace hB1 := hB1.mono st3 (fun x => x)
  replace hR1 := hR1.mono st3 (fun x => x)
  replace hB2 := hB2.mono st3 (fun x => x)
  replace tot := tot.trans st3.pure
  refine WP.still 1 (by kernel_rfl) ?_
  refine WP.done (by kernel_rfl) ?_
  refine NX.then_n ?_
  refine CP.cond (b := (x2 != 0)) (by kernel_rfl) (fun h1 => ?_) (fun h1 => ?_)
  · replace hs := of_if_t hs h1
    refine CP.seqR ?_
    refine WP.buildS (places := #[(0, 8), (8, 1), (9, 2), (11, 1)]) (t := 26) [encA .u8 (zA 8), [.int .i64 0], encA .i64 (zA 2), [.slice none 0 0]] [8, 1, 2, 1] (by kernel_rfl) (by kernel_rfl) (by simp [len_encA]) (by kernel_rfl) (.nil) ?_
    refine WP.storeB (ty := 26) (off := 0) (v := AG [encA .u8 (zA 8), [.int .i64 0], encA .i64 (zA 2), [.slice none 0 0]]) hB2 [encA .u8 (zA 8), [.int .i64 0], encA .i64 (zA 2), [.slice none 0 0]] [8, 1, 2, 1] (by kernel_rfl) (by kernel_rfl) (by simp [len_encA]) (by kernel_rfl) [encA .u8 (zA 8), [.int .i64 0], encA .i64 (zA 2), [.slice none 0 0]] (by kernel_rfl) (.arr (.one rfl (.arr (.one rfl .nil)))) ?_
    intro g4 st4 hB3
    replace hB1 := hB1.mono st4 (WL.no1 (by omega))
    replace hR1 := hR1.mono st4 (WL.no1 (by omega))
    replace tot := tot.trans (st4.up1 (.inr (by omega)))
    clear hB2
    have hB2 := hB3
    clear hB3
    refine WP.still 1 (by kernel_rfl) ?_
    refine WP.done (by kernel_rfl) ?_
    refine NX.then_n ?_
    refine CP.ret ?_
    refine NX.then_r ?_
    replace hs := Option.some.inj hs
    simp only [Prod.mk.injEq] at hs
    obtain ⟨rfl, rfl, rfl, rfl, rfl⟩ := hs
    exact NX.fin (v := .tuple #[AG [encA .u8 (zA 8), [.int .i64 0], encA .i64 (zA 2), [.slice none 0 0]], .int .i64 3]) (Res.two rfl (RV.box (agg := true) (size := 12) (rs := [encA .u8 (zA 8), [.int .i64 0], encA .i64 (zA 2), [.slice none 0 0]]) hB2 (by kernel_rfl) (by kernel_rfl) (by kernel_rfl) (by kernel_rfl)) (RV.tmp (by kernel_rfl))) tot htL ⟨none, 0, 0, rfl, (OwnS.nil _ _ _ _)⟩
  replace hs := of_if_f hs h1
  refine CP.skip ?_
  refine NX.then_n ?_
  refine CP.seq ?_
  refine CP.seqR ?_
  refine WP.still 1 (by kernel_rfl) ?_
  refine WP.loadB (v := .int .i64 x1) hB1 (by kernel_rfl) (by kernel_rfl) ?_
  refine WP.still 1 (by kernel_rfl) ?_
  refine WP.done (by kernel_rfl) ?_
  refine NX.then_n ?_
  refine CP.cond (b := (x1 == 1099511627776)) (by kernel_rfl) (fun h2 => ?_) (fun h2 => ?_)
  · replace hs := of_if_t hs h2
    refine CP.seqR ?_
    refine WP.buildS (places := #[(0, 8), (8, 1), (9, 2), (11, 1)]) (t := 26) [encA .u8 (zA 8), [.int .i64 0], encA .i64 (zA 2), [.slice none 0 0]] [8, 1, 2, 1] (by kernel_rfl) (by kernel_rfl) (by simp [len_encA]) (by kernel_rfl) (.nil) ?_
    refine WP.storeB (ty := 26) (off := 0) (v := AG [encA .u8 (zA 8), [.int .i64 0], encA .i64 (zA 2), [.slice none 0 0]]) hB2 [encA .u8 (zA 8), [.int .i64 0], encA .i64 (zA 2), [.slice none 0 0]] [8, 1, 2, 1] (by kernel_rfl) (by kernel_rfl) (by simp [len_encA]) (by kernel_rfl) [encA .u8 (zA 8), [.int .i64 0], encA .i64 (zA 2), [.slice none 0 0]] (by kernel_rfl) (.arr (.one rfl (.arr (.one rfl .nil)))) ?_
    intro g5 st5 hB4
    replace hB1 := hB1.mono st5 (WL.no1 (by omega))
    replace hR1 := hR1.mono st5 (WL.no1 (by omega))
    replace tot := tot.trans (st5.up1 (.inr (by omega)))
    clear hB2
    have hB2 := hB4
    clear hB4
    refine WP.still 1 (by kernel_rfl) ?_
    refine WP.done (by kernel_rfl) ?_
    refine NX.then_n ?_
    refine CP.ret ?_
    refine NX.then_r ?_
    replace hs := Option.some.inj hs
    simp only [Prod.mk.injEq] at hs
    obtain ⟨rfl, rfl, rfl, rfl, rfl⟩ := hs
    exact NX.fin (v := .tuple #[AG [encA .u8 (zA 8), [.int .i64 0], encA .i64 (zA 2), [.slice none 0 0]], .int .i64 17]) (Res.two rfl (RV.box (agg := true) (size := 12) (rs := [encA .u8 (zA 8), [.int .i64 0], encA .i64 (zA 2), [.slice none 0 0]]) hB2 (by kernel_rfl) (by kernel_rfl) (by kernel_rfl) (by kernel_rfl)) (RV.tmp (by kernel_rfl))) tot htL ⟨none, 0, 0, rfl, (OwnS.nil _ _ _ _)⟩
  replace hs := of_if_f hs h2
  refine CP.skip ?_
  refine NX.then_n ?_
  refine CP.seq ?_
  by_cases hc1 : ([] : List S_baizeref47_Held).length + l1.length ≤ 4398046511104
  case neg => rw [if_neg hc1] at hs; cases hs
  replace hs := of_if_p hs hc1
  refine CP.drawL (by kernel_rfl) [1, 3, 6, 7, 9, 10, 11, 12] N.baizeref47_next_0 [⟨none, [], [], fun l g => Box g (t + 1) b1 26 [encA .u8 d1, [.int .i64 x1], encA .i64 d2, [.slice a1 n1 c1]] [8, 1, 2, 1]⟩, ⟨none, [], [], fun l g => RdS k_S_baizeref47_Held g 60 a1 n1 c1 l1⟩, ⟨none, [1], [], fun l g => Box g (t + 2) b2 26 [encA .u8 (zA 8), [.int .i64 0], encA .i64 (zA 2), [.slice none 0 0]] [8, 1, 2, 1]⟩, ⟨some 0, [], [0], fun l g => l.getD 0 undef = AG [encA .u8 d1]⟩, ⟨some 1, [], [1], fun l g => l.getD 0 undef = .int .i64 x1⟩, ⟨some 2, [], [2], fun l g => l.getD 0 undef = AG [encA .i64 d2]⟩, ⟨some 3, [0], [3], fun l g => ∃ (a2 : Option Addr), l.getD 0 undef = .slice a2 0 0 ∧ OwnS k_S_baizeref47_Held g (t + 3) 60 a2 0 0 ([] : List S_baizeref47_Held)⟩, ⟨some 4, [], [4], fun l g => l.getD 0 undef = .slice a1 n1 c1⟩, ⟨some 5, [0], [5], fun l g => ∃ (a3 : Option Addr) (c2 : Nat), l.getD 0 undef = .slice a3 (0 + n1) c2 ∧ OwnS k_S_baizeref47_Held g (t + 3) 60 a3 (0 + n1) c2 (([] : List S_baizeref47_Held) ++ l1)⟩, ⟨some 5, [], [3], fun l g => ∃ (a2 : Option Addr), l.getD 0 undef = .slice a2 0 0⟩, ⟨some 6, [0], [6, 5], fun l g => ∃ (a3 : Option Addr) (c2 : Nat), l.getD 0 undef = AG [encA .u8 d1, [.int .i64 (IntKind.i64.wrap (x1 + 1))], encA .i64 d2, [.slice a3 (0 + n1) c2]] ∧ l.getD 1 undef = .slice a3 (0 + n1) c2 ∧ OwnS k_S_baizeref47_Held g (t + 3) 60 a3 (0 + n1) c2 (([] : List S_baizeref47_Held) ++ l1)⟩, ⟨some 7, [0, 1], [6, 5], fun l g => ∃ (a3 : Option Addr) (c2 : Nat), l.getD 0 undef = AG [encA .u8 d1, [.int .i64 (IntKind.i64.wrap (x1 + 1))], encA .i64 d2, [.slice a3 (0 + n1) c2]] ∧ l.getD 1 undef = .slice a3 (0 + n1) c2 ∧ OwnS k_S_baizeref47_Held g (t + 3) 60 a3 (0 + n1) c2 (([] : List S_baizeref47_Held) ++ l1) ∧ Box g (t + 2) b2 26 [encA .u8 d1, [.int .i64 (IntKind.i64.wrap (x1 + 1))], encA .i64 d2, [.slice a3 (0 + n1) c2]] [8, 1, 2, 1]⟩] [[], [], [], [], [], [0], [], [1]] [(t + 3), (t + 2)] [0, 2, 5, 8, 13] [4] (by kernel_rfl) (by simp <;> omega) (by simp <;> omega) ⟨fun _ _ _ _ st h0 hl hj hB1 => (hB1.mono st (fun h => absurd (hl _ h) (by simp <;> omega))), fun _ _ _ _ st h0 hl hj hR1 => (RdS.mono (e := 60) hR1 st h0), fun _ _ _ _ st h0 hl hj hB2 => (hB2.mono st (hj 1 (by simp) _ rfl)), fun _ _ _ _ st h0 hl hj e0 => e0, fun _ _ _ _ st h0 hl hj e1 => e1, fun _ _ _ _ st h0 hl hj e2 => e2, fun _ _ _ _ st h0 hl hj ⟨a2, e3, hR2⟩ => ⟨a2, e3, (hR2.mono st h0 (hj 0 (by simp) _ rfl))⟩, fun _ _ _ _ st h0 hl hj e4 => e4, fun _ _ _ _ st h0 hl hj ⟨a3, c2, e5, hR3⟩ => ⟨a3, c2, e5, (hR3.mono st h0 (hj 0 (by simp) _ rfl))⟩, fun _ _ _ _ st h0 hl hj ⟨a2, e3⟩ => ⟨a2, e3⟩, fun _ _ _ _ st h0 hl hj ⟨a3, c2, e6, e5, hR3⟩ => ⟨a3, c2, e6, e5, (hR3.mono st h0 (hj 0 (by simp) _ rfl))⟩, fun _ _ _ _ st h0 hl hj ⟨a3, c2, e6, e5, hR3, hB2⟩ => ⟨a3, c2, e6, e5, (hR3.mono st h0 (hj 0 (by simp) _ rfl)), (hB2.mono st (hj 1 (by simp) _ rfl))⟩, trivial⟩ ⟨hB1, hR1, hB2, trivial, trivial, trivial, trivial, trivial, trivial, trivial, trivial, trivial, trivial⟩ (by kernel_rfl) (fun vs => by kernel_rfl) ?_ ?_ ?_
  · intro j hj
    have hq : j = 0 := by have h : j < 1 := hj; omega
    rcases hq with rfl
    · intro vs gq stq hl hf
      replace hl : vs.length = 8 := hl
      obtain ⟨v0, vs0, rfl, hl0⟩ := len_succ hl
      obtain ⟨v1, vs1, rfl, hl1⟩ := len_succ hl0
      obtain ⟨v2, vs2, rfl, hl2⟩ := len_succ hl1
      obtain ⟨v3, vs3, rfl, hl3⟩ := len_succ hl2
      obtain ⟨v4, vs4, rfl, hl4⟩ := len_succ hl3
      obtain ⟨v5, vs5, rfl, hl5⟩ := len_succ hl4
      obtain ⟨v6, vs6, rfl, hl6⟩ := len_succ hl5
      obtain ⟨v7, vs7, rfl, hl7⟩ := len_succ hl6
      obtain rfl := len_zero hl7
      have e1 := (show v1 = .int .i64 x1 from hf _ (List.mem_of_getElem? (i := 4) rfl) (by kernel_rfl))
      subst e1
      show Option.isSome _ = true
      kernel_rfl
  · intro j hj
    have hq : j = 0 ∨ j = 1 ∨ j = 2 ∨ j = 3 ∨ j = 4 ∨ j = 5 ∨ j = 6 ∨ j = 7 := by have h : j < 8 := hj; omega
    rcases hq with rfl | rfl | rfl | rfl | rfl | rfl | rfl | rfl
    · intro vs gq stq hl hf
      replace hl : vs.length = 8 := hl
      obtain ⟨v0, vs0, rfl, hl0⟩ := len_succ hl
      obtain ⟨v1, vs1, rfl, hl1⟩ := len_succ hl0
      obtain ⟨v2, vs2, rfl, hl2⟩ := len_succ hl1
      obtain ⟨v3, vs3, rfl, hl3⟩ := len_succ hl2
      obtain ⟨v4, vs4, rfl, hl4⟩ := len_succ hl3
      obtain ⟨v5, vs5, rfl, hl5⟩ := len_succ hl4
      obtain ⟨v6, vs6, rfl, hl6⟩ := len_succ hl5
      obtain ⟨v7, vs7, rfl, hl7⟩ := len_succ hl6
      obtain rfl := len_zero hl7
      have hB1 := (show Box gq (t + 1) b1 26 [encA .u8 d1, [.int .i64 x1], encA .i64 d2, [.slice a1 n1 c1]] [8, 1, 2, 1] from hf _ (List.mem_of_getElem? (i := 0) rfl) (by kernel_rfl))
      refine WP.loadB (v := AG [encA .u8 d1]) hB1 (by kernel_rfl) (by kernel_rfl) ?_
      refine WP.done (by kernel_rfl) (Shown.ok (v := AG [encA .u8 d1]) (by kernel_rfl) (Step.refl _ _) ?_)
      exact ⟨trivial, trivial, trivial, rfl, trivial, trivial, trivial, trivial, trivial, trivial, trivial, trivial, trivial⟩
    · intro vs gq stq hl hf
      replace hl : vs.length = 8 := hl
      obtain ⟨v0, vs0, rfl, hl0⟩ := len_succ hl
      obtain ⟨v1, vs1, rfl, hl1⟩ := len_succ hl0
      obtain ⟨v2, vs2, rfl, hl2⟩ := len_succ hl1
      obtain ⟨v3, vs3, rfl, hl3⟩ := len_succ hl2
      obtain ⟨v4, vs4, rfl, hl4⟩ := len_succ hl3
      obtain ⟨v5, vs5, rfl, hl5⟩ := len_succ hl4
      obtain ⟨v6, vs6, rfl, hl6⟩ := len_succ hl5
      obtain ⟨v7, vs7, rfl, hl7⟩ := len_succ hl6
      obtain rfl := len_zero hl7
      have hB1 := (show Box gq (t + 1) b1 26 [encA .u8 d1, [.int .i64 x1], encA .i64 d2, [.slice a1 n1 c1]] [8, 1, 2, 1] from hf _ (List.mem_of_getElem? (i := 0) rfl) (by kernel_rfl))
      refine WP.loadB (v := .int .i64 x1) hB1 (by kernel_rfl) (by kernel_rfl) ?_
      refine WP.done (by kernel_rfl) (Shown.ok (v := .int .i64 x1) (by kernel_rfl) (Step.refl _ _) ?_)
      exact ⟨trivial, trivial, trivial, trivial, rfl, trivial, trivial, trivial, trivial, trivial, trivial, trivial, trivial⟩
    · intro vs gq stq hl hf
      replace hl : vs.length = 8 := hl
      obtain ⟨v0, vs0, rfl, hl0⟩ := len_succ hl
      obtain ⟨v1, vs1, rfl, hl1⟩ := len_succ hl0
      obtain ⟨v2, vs2, rfl, hl2⟩ := len_succ hl1
      obtain ⟨v3, vs3, rfl, hl3⟩ := len_succ hl2
      obtain ⟨v4, vs4, rfl, hl4⟩ := len_succ hl3
      obtain ⟨v5, vs5, rfl, hl5⟩ := len_succ hl4
      obtain ⟨v6, vs6, rfl, hl6⟩ := len_succ hl5
      obtain ⟨v7, vs7, rfl, hl7⟩ := len_succ hl6
      obtain rfl := len_zero hl7
      have hB1 := (show Box gq (t + 1) b1 26 [encA .u8 d1, [.int .i64 x1], encA .i64 d2, [.slice a1 n1 c1]] [8, 1, 2, 1] from hf _ (List.mem_of_getElem? (i := 0) rfl) (by kernel_rfl))
      refine WP.loadB (v := AG [encA .i64 d2]) hB1 (by kernel_rfl) (by kernel_rfl) ?_
      refine WP.done (by kernel_rfl) (Shown.ok (v := AG [encA .i64 d2]) (by kernel_rfl) (Step.refl _ _) ?_)
      exact ⟨trivial, trivial, trivial, trivial, trivial, rfl, trivial, trivial, trivial, trivial, trivial, trivial, trivial⟩
    · intro vs gq stq hl hf
      replace hl : vs.length = 8 := hl
      obtain ⟨v0, vs0, rfl, hl0⟩ := len_succ hl
      obtain ⟨v1, vs1, rfl, hl1⟩ := len_succ hl0
      obtain ⟨v2, vs2, rfl, hl2⟩ := len_succ hl1
      obtain ⟨v3, vs3, rfl, hl3⟩ := len_succ hl2
      obtain ⟨v4, vs4, rfl, hl4⟩ := len_succ hl3
      obtain ⟨v5, vs5, rfl, hl5⟩ := len_succ hl4
      obtain ⟨v6, vs6, rfl, hl6⟩ := len_succ hl5
      obtain ⟨v7, vs7, rfl, hl7⟩ := len_succ hl6
      obtain rfl := len_zero hl7
      refine WP.mkSl (kd := k_S_baizeref47_Held) (t := 24) (e := 60) (bytes := 32) (t + 3) [] ([] : List S_baizeref47_Held) (by kernel_rfl) (by kernel_rfl) (Nat.le_of_ble_eq_true rfl) (Nat.le_of_ble_eq_true rfl) all_nil (rfl) rfl ?_
      intro g6 a2 st6 hR2
      refine WP.done (by kernel_rfl) (Shown.ok (v := .slice a2 0 0) (by kernel_rfl) st6.pure ?_)
      exact ⟨trivial, trivial, trivial, trivial, trivial, trivial, ⟨a2, rfl, hR2⟩, trivial, trivial, trivial, trivial, trivial, trivial⟩
    · intro vs gq stq hl hf
      replace hl : vs.length = 8 := hl
      obtain ⟨v0, vs0, rfl, hl0⟩ := len_succ hl
      obtain ⟨v1, vs1, rfl, hl1⟩ := len_succ hl0
      obtain ⟨v2, vs2, rfl, hl2⟩ := len_succ hl1
      obtain ⟨v3, vs3, rfl, hl3⟩ := len_succ hl2
      obtain ⟨v4, vs4, rfl, hl4⟩ := len_succ hl3
      obtain ⟨v5, vs5, rfl, hl5⟩ := len_succ hl4
      obtain ⟨v6, vs6, rfl, hl6⟩ := len_succ hl5
      obtain ⟨v7, vs7, rfl, hl7⟩ := len_succ hl6
      obtain rfl := len_zero hl7
      have hB1 := (show Box gq (t + 1) b1 26 [encA .u8 d1, [.int .i64 x1], encA .i64 d2, [.slice a1 n1 c1]] [8, 1, 2, 1] from hf _ (List.mem_of_getElem? (i := 0) rfl) (by kernel_rfl))
      refine WP.loadB (v := .slice a1 n1 c1) hB1 (by kernel_rfl) (by kernel_rfl) ?_
      refine WP.done (by kernel_rfl) (Shown.ok (v := .slice a1 n1 c1) (by kernel_rfl) (Step.refl _ _) ?_)
      exact ⟨trivial, trivial, trivial, trivial, trivial, trivial, trivial, rfl, trivial, trivial, trivial, trivial, trivial⟩
    · intro vs gq stq hl hf
      replace hl : vs.length = 8 := hl
      obtain ⟨v0, vs0, rfl, hl0⟩ := len_succ hl
      obtain ⟨v1, vs1, rfl, hl1⟩ := len_succ hl0
      obtain ⟨v2, vs2, rfl, hl2⟩ := len_succ hl1
      obtain ⟨v3, vs3, rfl, hl3⟩ := len_succ hl2
      obtain ⟨v4, vs4, rfl, hl4⟩ := len_succ hl3
      obtain ⟨v5, vs5, rfl, hl5⟩ := len_succ hl4
      obtain ⟨v6, vs6, rfl, hl6⟩ := len_succ hl5
      obtain ⟨v7, vs7, rfl, hl7⟩ := len_succ hl6
      obtain rfl := len_zero hl7
      have hR1 := (show RdS k_S_baizeref47_Held gq 60 a1 n1 c1 l1 from hf _ (List.mem_of_getElem? (i := 1) rfl) (by kernel_rfl))
      obtain ⟨a2, e3, hR2⟩ := (show ∃ (a2 : Option Addr), v3 = .slice a2 0 0 ∧ OwnS k_S_baizeref47_Held gq (t + 3) 60 a2 0 0 ([] : List S_baizeref47_Held) from hf _ (List.mem_of_getElem? (i := 6) rfl) (by kernel_rfl))
      subst e3
      have e4 := (show v4 = .slice a1 n1 c1 from hf _ (List.mem_of_getElem? (i := 7) rfl) (by kernel_rfl))
      subst e4
      refine WP.append (kd := k_S_baizeref47_Held) (t := 24) (e := 60) (bytes := 32) (a2 := a1) (c2 := c1) hR2 hR1.src hR1.len (by kernel_rfl) (by kernel_rfl) (by omega) (by simp only [maxLen]; omega) (by omega) ?_
      intro g7 a3 c2 st7 hR3
      refine WP.done (by kernel_rfl) (Shown.ok (v := .slice a3 (0 + n1) c2) (by kernel_rfl) st7 ?_)
      exact ⟨trivial, trivial, trivial, trivial, trivial, trivial, trivial, trivial, ⟨a3, c2, rfl, hR3⟩, ⟨a2, rfl⟩, trivial, trivial, trivial⟩
    · intro vs gq stq hl hf
      replace hl : vs.length = 8 := hl
      obtain ⟨v0, vs0, rfl, hl0⟩ := len_succ hl
      obtain ⟨v1, vs1, rfl, hl1⟩ := len_succ hl0
      obtain ⟨v2, vs2, rfl, hl2⟩ := len_succ hl1
      obtain ⟨v3, vs3, rfl, hl3⟩ := len_succ hl2
      obtain ⟨v4, vs4, rfl, hl4⟩ := len_succ hl3
      obtain ⟨v5, vs5, rfl, hl5⟩ := len_succ hl4
      obtain ⟨v6, vs6, rfl, hl6⟩ := len_succ hl5
      obtain ⟨v7, vs7, rfl, hl7⟩ := len_succ hl6
      obtain rfl := len_zero hl7
      have e0 := (show v0 = AG [encA .u8 d1] from hf _ (List.mem_of_getElem? (i := 3) rfl) (by kernel_rfl))
      subst e0
      have e1 := (show v1 = .int .i64 x1 from hf _ (List.mem_of_getElem? (i := 4) rfl) (by kernel_rfl))
      subst e1
      have e2 := (show v2 = AG [encA .i64 d2] from hf _ (List.mem_of_getElem? (i := 5) rfl) (by kernel_rfl))
      subst e2
      obtain ⟨a3, c2, e5, hR3⟩ := (show ∃ (a3 : Option Addr) (c2 : Nat), v5 = .slice a3 (0 + n1) c2 ∧ OwnS k_S_baizeref47_Held gq (t + 3) 60 a3 (0 + n1) c2 (([] : List S_baizeref47_Held) ++ l1) from hf _ (List.mem_of_getElem? (i := 8) rfl) (by kernel_rfl))
      subst e5
      refine WP.buildS (places := #[(0, 8), (8, 1), (9, 2), (11, 1)]) (t := 26) [encA .u8 (zA 8), [.int .i64 0], encA .i64 (zA 2), [.slice none 0 0]] [8, 1, 2, 1] (by kernel_rfl) (by kernel_rfl) (by simp [len_encA]) (by kernel_rfl) ((.cons (i := 0) (off := 0) (v := AG [encA .u8 d1]) (mid := [encA .u8 d1, [.int .i64 0], encA .i64 (zA 2), [.slice none 0 0]]) [encA .u8 d1] [8] (by kernel_rfl) (by kernel_rfl) (by simp [len_encA]) (by kernel_rfl) (.cons (i := 1) (off := 8) (v := .int .i64 (IntKind.i64.wrap (x1 + 1))) (mid := [encA .u8 d1, [.int .i64 (IntKind.i64.wrap (x1 + 1))], encA .i64 (zA 2), [.slice none 0 0]]) [[.int .i64 (IntKind.i64.wrap (x1 + 1))]] [1] (by kernel_rfl) (by kernel_rfl) rfl (by kernel_rfl) (.cons (i := 2) (off := 9) (v := AG [encA .i64 d2]) (mid := [encA .u8 d1, [.int .i64 (IntKind.i64.wrap (x1 + 1))], encA .i64 d2, [.slice none 0 0]]) [encA .i64 d2] [2] (by kernel_rfl) (by kernel_rfl) (by simp [len_encA]) (by kernel_rfl) (.cons (i := 3) (off := 11) (v := .slice a3 (0 + n1) c2) (mid := [encA .u8 d1, [.int .i64 (IntKind.i64.wrap (x1 + 1))], encA .i64 d2, [.slice a3 (0 + n1) c2]]) [[.slice a3 (0 + n1) c2]] [1] (by kernel_rfl) (by kernel_rfl) rfl (by kernel_rfl) .nil))))) ?_
      refine WP.done (by kernel_rfl) (Shown.ok (v := AG [encA .u8 d1, [.int .i64 (IntKind.i64.wrap (x1 + 1))], encA .i64 d2, [.slice a3 (0 + n1) c2]]) (by kernel_rfl) (Step.refl _ _) ?_)
      exact ⟨trivial, trivial, trivial, trivial, trivial, trivial, trivial, trivial, trivial, trivial, ⟨a3, c2, rfl, rfl, hR3⟩, trivial, trivial⟩
    · intro vs gq stq hl hf
      replace hl : vs.length = 8 := hl
      obtain ⟨v0, vs0, rfl, hl0⟩ := len_succ hl
      obtain ⟨v1, vs1, rfl, hl1⟩ := len_succ hl0
      obtain ⟨v2, vs2, rfl, hl2⟩ := len_succ hl1
      obtain ⟨v3, vs3, rfl, hl3⟩ := len_succ hl2
      obtain ⟨v4, vs4, rfl, hl4⟩ := len_succ hl3
      obtain ⟨v5, vs5, rfl, hl5⟩ := len_succ hl4
      obtain ⟨v6, vs6, rfl, hl6⟩ := len_succ hl5
      obtain ⟨v7, vs7, rfl, hl7⟩ := len_succ hl6
      obtain rfl := len_zero hl7
      have hB2 := (show Box gq (t + 2) b2 26 [encA .u8 (zA 8), [.int .i64 0], encA .i64 (zA 2), [.slice none 0 0]] [8, 1, 2, 1] from hf _ (List.mem_of_getElem? (i := 2) rfl) (by kernel_rfl))
      obtain ⟨a3, c2, e6, e5, hR3⟩ := (show ∃ (a3 : Option Addr) (c2 : Nat), v6 = AG [encA .u8 d1, [.int .i64 (IntKind.i64.wrap (x1 + 1))], encA .i64 d2, [.slice a3 (0 + n1) c2]] ∧ v5 = .slice a3 (0 + n1) c2 ∧ OwnS k_S_baizeref47_Held gq (t + 3) 60 a3 (0 + n1) c2 (([] : List S_baizeref47_Held) ++ l1) from hf _ (List.mem_of_getElem? (i := 10) rfl) (by kernel_rfl))
      subst e6
      subst e5
      refine WP.storeB (ty := 26) (off := 0) (v := AG [encA .u8 d1, [.int .i64 (IntKind.i64.wrap (x1 + 1))], encA .i64 d2, [.slice a3 (0 + n1) c2]]) hB2 [encA .u8 d1, [.int .i64 (IntKind.i64.wrap (x1 + 1))], encA .i64 d2, [.slice a3 (0 + n1) c2]] [8, 1, 2, 1] (by kernel_rfl) (by kernel_rfl) (by simp [len_encA]) (by kernel_rfl) [encA .u8 d1, [.int .i64 (IntKind.i64.wrap (x1 + 1))], encA .i64 d2, [.slice a3 (0 + n1) c2]] (by kernel_rfl) (.arr (.one rfl (.arr (.one rfl .nil)))) ?_
      intro g8 st8 hB5
      refine WP.done (by kernel_rfl) (Shown.ok (v := undef) (by kernel_rfl) st8 ?_)
      exact ⟨trivial, trivial, trivial, trivial, trivial, trivial, trivial, trivial, trivial, trivial, trivial, ⟨a3, c2, rfl, rfl, (hR3.mono st8 (WL.no (by simp <;> omega)) (WL.no (by simp <;> omega))), hB5⟩, trivial⟩
  intro vs g9 st9 hl hf
  replace hl : vs.length = 8 := hl
  obtain ⟨v0, vs0, rfl, hl0⟩ := len_succ hl
  obtain ⟨v1, vs1, rfl, hl1⟩ := len_succ hl0
  obtain ⟨v2, vs2, rfl, hl2⟩ := len_succ hl1
  obtain ⟨v3, vs3, rfl, hl3⟩ := len_succ hl2
  obtain ⟨v4, vs4, rfl, hl4⟩ := len_succ hl3
  obtain ⟨v5, vs5, rfl, hl5⟩ := len_succ hl4
  obtain ⟨v6, vs6, rfl, hl6⟩ := len_succ hl5
  obtain ⟨v7, vs7, rfl, hl7⟩ := len_succ hl6
  obtain rfl := len_zero hl7
  obtain ⟨a3, c2, e6, e5, hR3, hB2⟩ := (show ∃ (a3 : Option Addr) (c2 : Nat), v6 = AG [encA .u8 d1, [.int .i64 (IntKind.i64.wrap (x1 + 1))], encA .i64 d2, [.slice a3 (0 + n1) c2]] ∧ v5 = .slice a3 (0 + n1) c2 ∧ OwnS k_S_baizeref47_Held g9 (t + 3) 60 a3 (0 + n1) c2 (([] : List S_baizeref47_Held) ++ l1) ∧ Box g9 (t + 2) b2 26 [encA .u8 d1, [.int .i64 (IntKind.i64.wrap (x1 + 1))], encA .i64 d2, [.slice a3 (0 + n1) c2]] [8, 1, 2, 1] from hf _ (List.mem_of_getElem? (i := 11) rfl) (by kernel_rfl))
  subst e6
  subst e5
  replace tot := tot.trans (st9.up2 (.inr (by omega)) (.inr (by omega)))
  refine NX.then_n ?_
  refine CP.refr 24 [(2, .pointer (some ⟨b2, 0, none⟩)), (3, .int .i64 0)] (by kernel_rfl) (by kernel_rfl) ?_
  clear ds
  intro ds
  refine CP.ret ?_
  obtain ⟨g10, hw1, st10, hnew⟩ := hR3.relab (by omega) r0
  refine NX.regw hw1 ?_
  replace hB2 := hB2.mono st10 (WL.no1 (by omega))
  replace tot := tot.trans (st10.up1 (.inr (by omega)))
  clear hR3
  have hR3 := hnew
  clear hnew
  replace hs := Option.some.inj hs
  simp only [Prod.mk.injEq] at hs
  obtain ⟨rfl, rfl, rfl, rfl, rfl⟩ := hs
  exact NX.fin (v := .tuple #[AG [encA .u8 d1, [.int .i64 (IntKind.i64.wrap (x1 + 1))], encA .i64 d2, [.slice a3 (0 + n1) c2]], .int .i64 0]) (Res.two rfl (RV.box (agg := true) (size := 12) (rs := [encA .u8 d1, [.int .i64 (IntKind.i64.wrap (x1 + 1))], encA .i64 d2, [.slice a3 (0 + n1) c2]]) hB2 (by kernel_rfl) (by kernel_rfl) (by kernel_rfl) (by kernel_rfl)) (RV.tmp (by kernel_rfl))) tot htL ⟨a3, (0 + n1), c2, rfl, hR3⟩
def F.baizeref47_Pay.c1 (d2 : Arr Int 2) (x2 : Int) (x3 : Int) (d3 : Arr Int 8) (x4 : Int) (d4 : Arr Int 2) (l2 : List S_baizeref47_Held) (q1 : Bool) : Option ((Arr Int 8) × Int × (Arr Int 2) × (List S_baizeref47_Held) × Int) := (if q1 = true then (some ((zA 8), 0, (zA 2), [], 28)) else ((F.baizeref47_positive x3).bind fun q2 => (if (!q2) = true then (some ((zA 8), 0, (zA 2), [], 2)) else (if (0 : Int) ≤ x2 ∧ x2 < (2 : Int) then (if decide ((aget d2 x2) < x3) = true then (some ((zA 8), 0, (zA 2), [], 21)) else (if (0 : Int) ≤ x2 ∧ x2 < (2 : Int) then (if (0 : Int) ≤ x2 ∧ x2 < (2 : Int) then (if (0 : Int) ≤ (IntKind.i64.wrap (1 - x2)) ∧ (IntKind.i64.wrap (1 - x2)) < (2 : Int) then (if (0 : Int) ≤ (IntKind.i64.wrap (1 - x2)) ∧ (IntKind.i64.wrap (1 - x2)) < (2 : Int) then (some (d3, x4, (aset (aset d4 x2 (IntKind.i64.wrap ((aget d4 x2) - x3))) (IntKind.i64.wrap (1 - x2)) (IntKind.i64.wrap ((aget (aset d4 x2 (IntKind.i64.wrap ((aget d4 x2) - x3))) (IntKind.i64.wrap (1 - x2))) + x3))), l2, 0)) else none) else none) else none) else none)) else none))))
def F.baizeref47_Pay (d1 : Arr Int 8) (x1 : Int) (d2 : Arr Int 2) (l1 : List S_baizeref47_Held) (x2 : Int) (x3 : Int) : Option ((Arr Int 8) × Int × (Arr Int 2) × (List S_baizeref47_Held) × Int) := ((F.baizeref47_next d1 x1 d2 l1).bind fun (d3, x4, d4, l2, x5) => (if (x5 != 0) = true then (some ((zA 8), 0, (zA 2), [], x5)) else (if (x2 != 0) = true then (F.baizeref47_Pay.c1 d2 x2 x3 d3 x4 d4 l2 (x2 != 1)) else (F.baizeref47_Pay.c1 d2 x2 x3 d3 x4 d4 l2 false))))
theorem P.baizeref47_Pay (g0 : GW) (r0 : Nat) (d1 : Arr Int 8) (x1 : Int) (d2 : Arr Int 2) (l1 : List S_baizeref47_Held) (x2 : Int) (x3 : Int) (a1 : Option Addr) (n1 : Nat) (c1 : Nat) (hR1 : RdS k_S_baizeref47_Held g0 60 a1 n1 c1 l1) (o1 : Arr Int 8) (o2 : Int) (o3 : Arr Int 2) (o4 : List S_baizeref47_Held) (o5 : Int) (hs : F.baizeref47_Pay d1 x1 d2 l1 x2 x3 = some (o1, o2, o3, o4, o5)) :
    Calls Try.prog 43 #[AG [encA .u8 d1, [.int .i64 x1], encA .i64 d2, [.slice a1 n1 c1]], .int .i64 x2, .int .i64 x3] g0.w (Ret NoM g0 fun v g => ∃ (a_1 : Option Addr) (n_1 : Nat) (c_1 : Nat), v = .tuple #[AG [encA .u8 o1, [.int .i64 o2], encA .i64 o3, [.slice a_1 n_1 c_1]], .int .i64 o5] ∧ OwnS k_S_baizeref47_Held g r0 60 a_1 n_1 c_1 o4) := by
  refine calls_of (args := [AG [encA .u8 d1, [.int .i64 x1], encA .i64 d2, [.slice a1 n1 c1]], .int .i64 x2, .int .i64 x3]) Try.func43 rfl (r0 + 0) ?_
  intro t ht htL
  refine ⟨_, rfl, ?_⟩
  refine CP.refr 58 [(0, AG [encA .u8 d1, [.int .i64 x1], encA .i64 d2, [.slice a1 n1 c1]]), (1, .int .i64 x2), (2, .int .i64 x3)] (by kernel_rfl) (by kernel_rfl) ?_
  intro ds
  have tot : Step (fun l => NoM l ∨ t ≤ l) g0 g0 := Step.refl _ _
  unfold F.baizeref47_Pay at hs
  refine CP.seqR ?_
  refine WP.alloc (T := 26) (t + 1) [encA .u8 d1, [.int .i64 x1], encA .i64 d2, [.slice a1 n1 c1]] [8, 1, 2, 1] (by kernel_rfl) (by simp [len_encA]) ?_
  intro g1 b1 st1 hB1
  replace hR1 := hR1.mono st1 (fun x => x)
  replace tot := tot.trans st1.pure
  refine WP.alloc (T := 26) (t + 2) [encA .u8 (zA 8), [.int .i64 0], encA .i64 (zA 2), [.slice none 0 0]] [8, 1, 2, 1] (by kernel_rfl) (by simp [len_encA]) ?_
  intro g2 b2 st2 hB2
  replace hR1 := hR1.mono st2 (fun x => x)
  replace hB1 := hB1.mono st2 (fun x => x)
  replace tot := tot.trans st2.pure
  refine WP.still 1 (by kernel_rfl) ?_
  refine WP.done (by kernel_rfl) ?_
  refine NX.then_n ?_
  refine CP.seqR ?_
  refine WP.loadB (v := AG [encA .u8 d1, [.int .i64 x1], encA .i64 d2, [.slice a1 n1 c1]]) hB1 (by kernel_rfl) (by kernel_rfl) ?_
  replace hs := Option.bind_eq_some_iff.1 hs
  obtain ⟨⟨d3, x4, d4, l2, x5⟩, hk1, hs⟩ := hs
  dsimp only at hs
  have hcal1 := P.baizeref47_next g2 (t + 3) d1 x1 d2 l1 a1 n1 c1 hR1 d3 x4 d4 l2 x5 hk1
  refine WP.callC hcal1 (by kernel_rfl) ?_
  rintro _ g3 st3 ⟨a2, n2, c2, rfl, hR2⟩
  replace hB1 := hB1.mono st3 (fun x => x)
  replace hR1 := hR1.mono st3 (fun x => x)
  replace hB2 := hB2.mono st3 (fun x => x)
  replace tot := tot.trans st3.pure
  refine WP.still 3 (by kernel_rfl) ?_
  refine WP.alloc (T := 26) (t + 4) [encA .u8 (zA 8), [.int .i64 0], encA .i64 (zA 2), [.slice none 0 0]] [8, 1, 2, 1] (by kernel_rfl) (by simp [len_encA]) ?_
  intro g4 b3 st4 hB3
  replace hB1 := hB1.mono st4 (fun x => x)
  replace hR1 := hR1.mono st4 (fun x => x)
  replace hB2 := hB2.mono st4 (fun x => x)
  replace hR2 := hR2.mono st4 (fun x => x) (fun x => x)
  replace tot := tot.trans st4.pure
  refine WP.storeB (ty := 26) (off := 0) (v := AG [encA .u8 d3, [.int .i64 x4], encA .i64 d4, [.slice a2 n2 c2]]) hB3 [encA .u8 d3, [.int .i64 x4], encA .i64 d4, [.slice a2 n2 c2]] [8, 1, 2, 1] (by kernel_rfl) (by kernel_rfl) (by simp [len_encA]) (by kernel_rfl) [encA .u8 d3, [.int .i64 x4], encA .i64 d4, [.slice a2 n2 c2]] (by kernel_rfl) (.arr (.one rfl (.arr (.one rfl .nil)))) ?_
  intro g5 st5 hB4
  replace hB1 := hB1.mono st5 (WL.no1 (by omega))
  replace hR1 := hR1.mono st5 (WL.no1 (by omega))
  replace hB2 := hB2.mono st5 (WL.no1 (by omega))
  replace hR2 := hR2.mono st5 (WL.no1 (by omega)) (WL.no1 (by omega))
  replace tot := tot.trans (st5.up1 (.inr (by omega)))
  clear hB3
  have hB3 := hB4
  clear hB4
  refine WP.still 1 (by kernel_rfl) ?_
  refine WP.done (by kernel_rfl) ?_
  refine NX.then_n ?_
  refine CP.seq ?_
  refine CP.seqR ?_
  refine WP.still 2 (by kernel_rfl) ?_
  refine WP.done (by kernel_rfl) ?_
  refine NX.then_n ?_
  refine CP.refr 58 [(1, .int .i64 x2), (2, .int .i64 x3), (3, .pointer (some ⟨b1, 0, none⟩)), (6, .pointer (some ⟨b2, 0, none⟩)), (8, .pointer (some ⟨b3, 0, none⟩)), (9, .int .i64 x5), (16, .bool (x5 != 0))] (by kernel_rfl) (by kernel_rfl) ?_
  clear ds
  intro ds
  refine CP.cond (b := (x5 != 0)) (by kernel_rfl) (fun h1 => ?_) (fun h1 => ?_)
  · replace hs := of_if_t hs h1
    refine CP.seqR ?_
    refine WP.buildS (places := #[(0, 8), (8, 1), (9, 2), (11, 1)]) (t := 26) [encA .u8 (zA 8), [.int .i64 0], encA .i64 (zA 2), [.slice none 0 0]] [8, 1, 2, 1] (by kernel_rfl) (by kernel_rfl) (by simp [len_encA]) (by kernel_rfl) (.nil) ?_
    refine WP.still 1 (by kernel_rfl) ?_
    refine WP.storeB (ty := 26) (off := 0) (v := AG [encA .u8 (zA 8), [.int .i64 0], encA .i64 (zA 2), [.slice none 0 0]]) hB2 [encA .u8 (zA 8), [.int .i64 0], encA .i64 (zA 2), [.slice none 0 0]] [8, 1, 2, 1] (by kernel_rfl) (by kernel_rfl) (by simp [len_encA]) (by kernel_rfl) [encA .u8 (zA 8), [.int .i64 0], encA .i64 (zA 2), [.slice none 0 0]] (by kernel_rfl) (.arr (.one rfl (.arr (.one rfl .nil)))) ?_
    intro g6 st6 hB5
    replace hB1 := hB1.mono st6 (WL.no1 (by omega))
    replace hR1 := hR1.mono st6 (WL.no1 (by omega))
    replace hB3 := hB3.mono st6 (WL.no1 (by omega))
    replace hR2 := hR2.mono st6 (WL.no1 (by omega)) (WL.no1 (by omega))
    replace tot := tot.trans (st6.up1 (.inr (by omega)))
    clear hB2
    have hB2 := hB5
    clear hB5
    refine WP.still 1 (by kernel_rfl) ?_
    refine WP.done (by kernel_rfl) ?_
    refine NX.then_n ?_
    refine CP.ret ?_
    refine NX.then_r ?_
    replace hs := Option.some.inj hs
    simp only [Prod.mk.injEq] at hs
    obtain ⟨rfl, rfl, rfl, rfl, rfl⟩ := hs
    exact NX.fin (v := .tuple #[AG [encA .u8 (zA 8), [.int .i64 0], encA .i64 (zA 2), [.slice none 0 0]], .int .i64 x5]) (Res.two rfl (RV.box (agg := true) (size := 12) (rs := [encA .u8 (zA 8), [.int .i64 0], encA .i64 (zA 2), [.slice none 0 0]]) hB2 (by kernel_rfl) (by kernel_rfl) (by kernel_rfl) (by kernel_rfl)) (RV.tmp (by kernel_rfl))) tot htL ⟨none, 0, 0, rfl, (OwnS.nil _ _ _ _)⟩
  replace hs := of_if_f hs h1
  refine CP.skip ?_
  refine NX.then_n ?_
  refine CP.seq ?_
  refine CP.cut (fun tm g => ∃ (q1 : Bool), Fr 58 [(1, .int .i64 x2), (2, .int .i64 x3), (3, .pointer (some ⟨b1, 0, none⟩)), (6, .pointer (some ⟨b2, 0, none⟩)), (8, .pointer (some ⟨b3, 0, none⟩)), (24, .bool q1)] tm ∧ Step (fun l => NoM l ∨ t ≤ l) g0 g ∧ Box g (t + 1) b1 26 [encA .u8 d1, [.int .i64 x1], encA .i64 d2, [.slice a1 n1 c1]] [8, 1, 2, 1] ∧ RdS k_S_baizeref47_Held g 60 a1 n1 c1 l1 ∧ Box g (t + 2) b2 26 [encA .u8 (zA 8), [.int .i64 0], encA .i64 (zA 2), [.slice none 0 0]] [8, 1, 2, 1] ∧ Box g (t + 4) b3 26 [encA .u8 d3, [.int .i64 x4], encA .i64 d4, [.slice a2 n2 c2]] [8, 1, 2, 1] ∧ OwnS k_S_baizeref47_Held g (t + 3) 60 a2 n2 c2 l2 ∧ (F.baizeref47_Pay.c1 d2 x2 x3 d3 x4 d4 l2 q1) = some (o1, o2, o3, o4, o5)) ?_ ?_
  · refine CP.region ?_
    refine WP.still 3 (by kernel_rfl) ?_
    refine WP.guard 21 (b := (x2 != 0)) (by kernel_rfl) (fun h6 => ?_) (fun h6 => ?_)
    · replace hs := of_if_t hs h6
      refine WP.still 3 (by kernel_rfl) ?_
      refine WP.done (by kernel_rfl) ?_
      refine NX.post ?_
      exact ⟨(x2 != 1), ⟨by kernel_rfl, by kernel_rfl⟩, tot, hB1, hR1, hB2, hB3, hR2, hs⟩
    replace hs := of_if_f hs h6
    refine WP.still 3 (by kernel_rfl) ?_
    refine WP.done (by kernel_rfl) ?_
    refine NX.post ?_
    exact ⟨false, ⟨by kernel_rfl, by kernel_rfl⟩, tot, hB1, hR1, hB2, hB3, hR2, hs⟩
  clear tot hs hB1 hR1 hB2 hB3 hR2
  rintro tm g ⟨q1, hF, tot, hB1, hR1, hB2, hB3, hR2, hs⟩
  clear ds
  obtain ⟨ds, rfl⟩ := hF.open
  clear hF
  unfold F.baizeref47_Pay.c1 at hs
  refine CP.cond (b := q1) (by kernel_rfl) (fun h3 => ?_) (fun h3 => ?_)
  · replace hs := of_if_t hs h3
    refine CP.seqR ?_
    refine WP.buildS (places := #[(0, 8), (8, 1), (9, 2), (11, 1)]) (t := 26) [encA .u8 (zA 8), [.int .i64 0], encA .i64 (zA 2), [.slice none 0 0]] [8, 1, 2, 1] (by kernel_rfl) (by kernel_rfl) (by simp [len_encA]) (by kernel_rfl) (.nil) ?_
    refine WP.storeB (ty := 26) (off := 0) (v := AG [encA .u8 (zA 8), [.int .i64 0], encA .i64 (zA 2), [.slice none 0 0]]) hB2 [encA .u8 (zA 8), [.int .i64 0], encA .i64 (zA 2), [.slice none 0 0]] [8, 1, 2, 1] (by kernel_rfl) (by kernel_rfl) (by simp [len_encA]) (by kernel_rfl) [encA .u8 (zA 8), [.int .i64 0], encA .i64 (zA 2), [.slice none 0 0]] (by kernel_rfl) (.arr (.one rfl (.arr (.one rfl .nil)))) ?_
    intro g7 st7 hB6
    replace hB1 := hB1.mono st7 (WL.no1 (by omega))
    replace hR1 := hR1.mono st7 (WL.no1 (by omega))
    replace hB3 := hB3.mono st7 (WL.no1 (by omega))
    replace hR2 := hR2.mono st7 (WL.no1 (by omega)) (WL.no1 (by omega))
    replace tot := tot.trans (st7.up1 (.inr (by omega)))
    clear hB2
    have hB2 := hB6
    clear hB6
    refine WP.still 1 (by kernel_rfl) ?_
    refine WP.done (by kernel_rfl) ?_
    refine NX.then_n ?_
    refine CP.ret ?_
    refine NX.then_r ?_
    replace hs := Option.some.inj hs
    simp only [Prod.mk.injEq] at hs
    obtain ⟨rfl, rfl, rfl, rfl, rfl⟩ := hs
    exact NX.fin (v := .tuple #[AG [encA .u8 (zA 8), [.int .i64 0], encA .i64 (zA 2), [.slice none 0 0]], .int .i64 28]) (Res.two rfl (RV.box (agg := true) (size := 12) (rs := [encA .u8 (zA 8), [.int .i64 0], encA .i64 (zA 2), [.slice none 0 0]]) hB2 (by kernel_rfl) (by kernel_rfl) (by kernel_rfl) (by kernel_rfl)) (RV.tmp (by kernel_rfl))) tot htL ⟨none, 0, 0, rfl, (OwnS.nil _ _ _ _)⟩
  replace hs := of_if_f hs h3
  refine CP.skip ?_
  refine NX.then_n ?_
  refine CP.seq ?_
  refine CP.seqR ?_
  refine WP.still 1 (by kernel_rfl) ?_
  replace hs := Option.bind_eq_some_iff.1 hs
  obtain ⟨q2, hk2, hs⟩ := hs
  have hcal2 := P.baizeref47_positive g x3 q2 hk2
  refine WP.callC hcal2 (by kernel_rfl) ?_
  rintro _ g8 st8 rfl
  replace hB1 := hB1.mono st8 (fun x => x)
  replace hR1 := hR1.mono st8 (fun x => x)
  replace hB2 := hB2.mono st8 (fun x => x)
  replace hB3 := hB3.mono st8 (fun x => x)
  replace hR2 := hR2.mono st8 (fun x => x) (fun x => x)
  replace tot := tot.trans st8.pure
  refine WP.still 1 (by kernel_rfl) ?_
  refine WP.done (by kernel_rfl) ?_
  refine NX.then_n ?_
  refine CP.cond (b := (!q2)) (by kernel_rfl) (fun h4 => ?_) (fun h4 => ?_)
  · replace hs := of_if_t hs h4
    refine CP.seqR ?_
    refine WP.buildS (places := #[(0, 8), (8, 1), (9, 2), (11, 1)]) (t := 26) [encA .u8 (zA 8), [.int .i64 0], encA .i64 (zA 2), [.slice none 0 0]] [8, 1, 2, 1] (by kernel_rfl) (by kernel_rfl) (by simp [len_encA]) (by kernel_rfl) (.nil) ?_
    refine WP.storeB (ty := 26) (off := 0) (v := AG [encA .u8 (zA 8), [.int .i64 0], encA .i64 (zA 2), [.slice none 0 0]]) hB2 [encA .u8 (zA 8), [.int .i64 0], encA .i64 (zA 2), [.slice none 0 0]] [8, 1, 2, 1] (by kernel_rfl) (by kernel_rfl) (by simp [len_encA]) (by kernel_rfl) [encA .u8 (zA 8), [.int .i64 0], encA .i64 (zA 2), [.slice none 0 0]] (by kernel_rfl) (.arr (.one rfl (.arr (.one rfl .nil)))) ?_
    intro g9 st9 hB7
    replace hB1 := hB1.mono st9 (WL.no1 (by omega))
    replace hR1 := hR1.mono st9 (WL.no1 (by omega))
    replace hB3 := hB3.mono st9 (WL.no1 (by omega))
    replace hR2 := hR2.mono st9 (WL.no1 (by omega)) (WL.no1 (by omega))
    replace tot := tot.trans (st9.up1 (.inr (by omega)))
    clear hB2
    have hB2 := hB7
    clear hB7
    refine WP.still 1 (by kernel_rfl) ?_
    refine WP.done (by kernel_rfl) ?_
    refine NX.then_n ?_
    refine CP.ret ?_
    refine NX.then_r ?_
    replace hs := Option.some.inj hs
    simp only [Prod.mk.injEq] at hs
    obtain ⟨rfl, rfl, rfl, rfl, rfl⟩ := hs
    exact NX.fin (v := .tuple #[AG [encA .u8 (zA 8), [.int .i64 0], encA .i64 (zA 2), [.slice none 0 0]], .int .i64 2]) (Res.two rfl (RV.box (agg := true) (size := 12) (rs := [encA .u8 (zA 8), [.int .i64 0], encA .i64 (zA 2), [.slice none 0 0]]) hB2 (by kernel_rfl) (by kernel_rfl) (by kernel_rfl) (by kernel_rfl)) (RV.tmp (by kernel_rfl))) tot htL ⟨none, 0, 0, rfl, (OwnS.nil _ _ _ _)⟩
  replace hs := of_if_f hs h4
  refine CP.skip ?_
  refine NX.then_n ?_
  refine CP.seq ?_
  refine CP.seqR ?_
  refine WP.still 2 (by kernel_rfl) ?_
  by_cases hc1 : (0 : Int) ≤ x2 ∧ x2 < (2 : Int)
  case neg => rw [if_neg hc1] at hs; cases hs
  replace hs := of_if_p hs hc1
  refine WP.ixBox (t := 23) (e := 3) (m := 2) (size := 1) (b := b1) (off := 9) (k := .i64) (i := x2) (by kernel_rfl) (by kernel_rfl) hc1 ?_
  refine WP.loadE (ty := 3) (o := 9) (m := 2) (k := .i64) (d := d2) (i := x2) hB1 (by kernel_rfl) hc1 (by kernel_rfl) (by kernel_rfl) ?_
  refine WP.still 2 (by kernel_rfl) ?_
  refine WP.done (by kernel_rfl) ?_
  refine NX.then_n ?_
  refine CP.cond (b := decide ((aget d2 x2) < x3)) (by kernel_rfl) (fun h5 => ?_) (fun h5 => ?_)
  · replace hs := of_if_t hs h5
    refine CP.seqR ?_
    refine WP.buildS (places := #[(0, 8), (8, 1), (9, 2), (11, 1)]) (t := 26) [encA .u8 (zA 8), [.int .i64 0], encA .i64 (zA 2), [.slice none 0 0]] [8, 1, 2, 1] (by kernel_rfl) (by kernel_rfl) (by simp [len_encA]) (by kernel_rfl) (.nil) ?_
    refine WP.storeB (ty := 26) (off := 0) (v := AG [encA .u8 (zA 8), [.int .i64 0], encA .i64 (zA 2), [.slice none 0 0]]) hB2 [encA .u8 (zA 8), [.int .i64 0], encA .i64 (zA 2), [.slice none 0 0]] [8, 1, 2, 1] (by kernel_rfl) (by kernel_rfl) (by simp [len_encA]) (by kernel_rfl) [encA .u8 (zA 8), [.int .i64 0], encA .i64 (zA 2), [.slice none 0 0]] (by kernel_rfl) (.arr (.one rfl (.arr (.one rfl .nil)))) ?_
    intro g10 st10 hB8
    replace hB3 := hB3.mono st10 (WL.no1 (by omega))
    replace hR2 := hR2.mono st10 (WL.no1 (by omega)) (WL.no1 (by omega))
    replace tot := tot.trans (st10.up1 (.inr (by omega)))
    clear hB2
    have hB2 := hB8
    clear hB8
    refine WP.still 1 (by kernel_rfl) ?_
    refine WP.done (by kernel_rfl) ?_
    refine NX.then_n ?_
    refine CP.ret ?_
    refine NX.then_r ?_
    replace hs := Option.some.inj hs
    simp only [Prod.mk.injEq] at hs
    obtain ⟨rfl, rfl, rfl, rfl, rfl⟩ := hs
    exact NX.fin (v := .tuple #[AG [encA .u8 (zA 8), [.int .i64 0], encA .i64 (zA 2), [.slice none 0 0]], .int .i64 21]) (Res.two rfl (RV.box (agg := true) (size := 12) (rs := [encA .u8 (zA 8), [.int .i64 0], encA .i64 (zA 2), [.slice none 0 0]]) hB2 (by kernel_rfl) (by kernel_rfl) (by kernel_rfl) (by kernel_rfl)) (RV.tmp (by kernel_rfl))) tot htL ⟨none, 0, 0, rfl, (OwnS.nil _ _ _ _)⟩
  replace hs := of_if_f hs h5
  refine CP.skip ?_
  refine NX.then_n ?_
  refine CP.seqR ?_
  refine WP.still 3 (by kernel_rfl) ?_
  by_cases hc2 : (0 : Int) ≤ x2 ∧ x2 < (2 : Int)
  case neg => rw [if_neg hc2] at hs; cases hs
  replace hs := of_if_p hs hc2
  refine WP.ixBox (t := 23) (e := 3) (m := 2) (size := 1) (b := b3) (off := 9) (k := .i64) (i := x2) (by kernel_rfl) (by kernel_rfl) hc2 ?_
  refine WP.loadE (ty := 3) (o := 9) (m := 2) (k := .i64) (d := d4) (i := x2) hB3 (by kernel_rfl) hc2 (by kernel_rfl) (by kernel_rfl) ?_
  refine WP.still 3 (by kernel_rfl) ?_
  by_cases hc3 : (0 : Int) ≤ x2 ∧ x2 < (2 : Int)
  case neg => rw [if_neg hc3] at hs; cases hs
  replace hs := of_if_p hs hc3
  refine WP.ixBox (t := 23) (e := 3) (m := 2) (size := 1) (b := b3) (off := 9) (k := .i64) (i := x2) (by kernel_rfl) (by kernel_rfl) hc3 ?_
  refine WP.storeE (ty := 3) (o := 9) (m := 2) (k := .i64) (d := d4) (i := x2) (x := (IntKind.i64.wrap ((aget d4 x2) - x3))) hB3 (by kernel_rfl) hc3 (by kernel_rfl) (by kernel_rfl) [encA .u8 d3, [.int .i64 x4], encA .i64 (aset d4 x2 (IntKind.i64.wrap ((aget d4 x2) - x3))), [.slice a2 n2 c2]] (by kernel_rfl) ?_
  intro g11 st11 hB9
  replace hB2 := hB2.mono st11 (WL.no1 (by omega))
  replace hR2 := hR2.mono st11 (WL.no1 (by omega)) (WL.no1 (by omega))
  replace tot := tot.trans (st11.up1 (.inr (by omega)))
  clear hB3
  have hB3 := hB9
  clear hB9
  refine WP.done (by kernel_rfl) ?_
  refine NX.then_n ?_
  refine CP.refr 58 [(1, .int .i64 x2), (2, .int .i64 x3), (6, .pointer (some ⟨b2, 0, none⟩)), (8, .pointer (some ⟨b3, 0, none⟩))] (by kernel_rfl) (by kernel_rfl) ?_
  clear ds
  intro ds
  refine CP.seqR ?_
  refine WP.still 5 (by kernel_rfl) ?_
  by_cases hc4 : (0 : Int) ≤ (IntKind.i64.wrap (1 - x2)) ∧ (IntKind.i64.wrap (1 - x2)) < (2 : Int)
  case neg => rw [if_neg hc4] at hs; cases hs
  replace hs := of_if_p hs hc4
  refine WP.ixBox (t := 23) (e := 3) (m := 2) (size := 1) (b := b3) (off := 9) (k := .i64) (i := (IntKind.i64.wrap (1 - x2))) (by kernel_rfl) (by kernel_rfl) hc4 ?_
  refine WP.loadE (ty := 3) (o := 9) (m := 2) (k := .i64) (d := (aset d4 x2 (IntKind.i64.wrap ((aget d4 x2) - x3)))) (i := (IntKind.i64.wrap (1 - x2))) hB3 (by kernel_rfl) hc4 (by kernel_rfl) (by kernel_rfl) ?_
  refine WP.still 3 (by kernel_rfl) ?_
  by_cases hc5 : (0 : Int) ≤ (IntKind.i64.wrap (1 - x2)) ∧ (IntKind.i64.wrap (1 - x2)) < (2 : Int)
  case neg => rw [if_neg hc5] at hs; cases hs
  replace hs := of_if_p hs hc5
  refine WP.ixBox (t := 23) (e := 3) (m := 2) (size := 1) (b := b3) (off := 9) (k := .i64) (i := (IntKind.i64.wrap (1 - x2))) (by kernel_rfl) (by kernel_rfl) hc5 ?_
  refine WP.storeE (ty := 3) (o := 9) (m := 2) (k := .i64) (d := (aset d4 x2 (IntKind.i64.wrap ((aget d4 x2) - x3)))) (i := (IntKind.i64.wrap (1 - x2))) (x := (IntKind.i64.wrap ((aget (aset d4 x2 (IntKind.i64.wrap ((aget d4 x2) - x3))) (IntKind.i64.wrap (1 - x2))) + x3))) hB3 (by kernel_rfl) hc5 (by kernel_rfl) (by kernel_rfl) [encA .u8 d3, [.int .i64 x4], encA .i64 (aset (aset d4 x2 (IntKind.i64.wrap ((aget d4 x2) - x3))) (IntKind.i64.wrap (1 - x2)) (IntKind.i64.wrap ((aget (aset d4 x2 (IntKind.i64.wrap ((aget d4 x2) - x3))) (IntKind.i64.wrap (1 - x2))) + x3))), [.slice a2 n2 c2]] (by kernel_rfl) ?_
  intro g12 st12 hB10
  replace hB2 := hB2.mono st12 (WL.no1 (by omega))
  replace hR2 := hR2.mono st12 (WL.no1 (by omega)) (WL.no1 (by omega))
  replace tot := tot.trans (st12.up1 (.inr (by omega)))
  clear hB3
  have hB3 := hB10
  clear hB10
  refine WP.done (by kernel_rfl) ?_
  refine NX.then_n ?_
  refine CP.seqR ?_
  refine WP.loadB (v := AG [encA .u8 d3, [.int .i64 x4], encA .i64 (aset (aset d4 x2 (IntKind.i64.wrap ((aget d4 x2) - x3))) (IntKind.i64.wrap (1 - x2)) (IntKind.i64.wrap ((aget (aset d4 x2 (IntKind.i64.wrap ((aget d4 x2) - x3))) (IntKind.i64.wrap (1 - x2))) + x3))), [.slice a2 n2 c2]]) hB3 (by kernel_rfl) (by kernel_rfl) ?_
  refine WP.storeB (ty := 26) (off := 0) (v := AG [encA .u8 d3, [.int .i64 x4], encA .i64 (aset (aset d4 x2 (IntKind.i64.wrap ((aget d4 x2) - x3))) (IntKind.i64.wrap (1 - x2)) (IntKind.i64.wrap ((aget (aset d4 x2 (IntKind.i64.wrap ((aget d4 x2) - x3))) (IntKind.i64.wrap (1 - x2))) + x3))), [.slice a2 n2 c2]]) hB2 [encA .u8 d3, [.int .i64 x4], encA .i64 (aset (aset d4 x2 (IntKind.i64.wrap ((aget d4 x2) - x3))) (IntKind.i64.wrap (1 - x2)) (IntKind.i64.wrap ((aget (aset d4 x2 (IntKind.i64.wrap ((aget d4 x2) - x3))) (IntKind.i64.wrap (1 - x2))) + x3))), [.slice a2 n2 c2]] [8, 1, 2, 1] (by kernel_rfl) (by kernel_rfl) (by simp [len_encA]) (by kernel_rfl) [encA .u8 d3, [.int .i64 x4], encA .i64 (aset (aset d4 x2 (IntKind.i64.wrap ((aget d4 x2) - x3))) (IntKind.i64.wrap (1 - x2)) (IntKind.i64.wrap ((aget (aset d4 x2 (IntKind.i64.wrap ((aget d4 x2) - x3))) (IntKind.i64.wrap (1 - x2))) + x3))), [.slice a2 n2 c2]] (by kernel_rfl) (.arr (.one rfl (.arr (.one rfl .nil)))) ?_
  intro g13 st13 hB11
  replace hR2 := hR2.mono st13 (WL.no1 (by omega)) (WL.no1 (by omega))
  replace hB3 := hB3.mono st13 (WL.no1 (by omega))
  replace tot := tot.trans (st13.up1 (.inr (by omega)))
  clear hB2
  have hB2 := hB11
  clear hB11
  refine WP.still 1 (by kernel_rfl) ?_
  refine WP.done (by kernel_rfl) ?_
  refine NX.then_n ?_
  refine CP.refr 58 [(6, .pointer (some ⟨b2, 0, none⟩)), (7, .int .i64 0)] (by kernel_rfl) (by kernel_rfl) ?_
  clear ds
  intro ds
  refine CP.ret ?_
  obtain ⟨g14, hw1, st14, hnew⟩ := hR2.relab (by omega) r0
  refine NX.regw hw1 ?_
  replace hB2 := hB2.mono st14 (WL.no1 (by omega))
  replace tot := tot.trans (st14.up1 (.inr (by omega)))
  clear hR2
  have hR2 := hnew
  clear hnew
  replace hs := Option.some.inj hs
  simp only [Prod.mk.injEq] at hs
  obtain ⟨rfl, rfl, rfl, rfl, rfl⟩ := hs
  exact NX.fin (v := .tuple #[AG [encA .u8 d3, [.int .i64 x4], encA .i64 (aset (aset d4 x2 (IntKind.i64.wrap ((aget d4 x2) - x3))) (IntKind.i64.wrap (1 - x2)) (IntKind.i64.wrap ((aget (aset d4 x2 (IntKind.i64.wrap ((aget d4 x2) - x3))) (IntKind.i64.wrap (1 - x2))) + x3))), [.slice a2 n2 c2]], .int .i64 0]) (Res.two rfl (RV.box (agg := true) (size := 12) (rs := [encA .u8 d3, [.int .i64 x4], encA .i64 (aset (aset d4 x2 (IntKind.i64.wrap ((aget d4 x2) - x3))) (IntKind.i64.wrap (1 - x2)) (IntKind.i64.wrap ((aget (aset d4 x2 (IntKind.i64.wrap ((aget d4 x2) - x3))) (IntKind.i64.wrap (1 - x2))) + x3))), [.slice a2 n2 c2]]) hB2 (by kernel_rfl) (by kernel_rfl) (by kernel_rfl) (by kernel_rfl)) (RV.tmp (by kernel_rfl))) tot htL ⟨a2, n2, c2, rfl, hR2⟩
def N.baizeref47_Hold_0 : List (List Nat) := [[], [0], [], [0, 1, 2], [0, 1, 2, 3], [], [5], [0, 1, 2, 3, 4, 5, 6]]
def N.baizeref47_Hold_1 : List (List Nat) := [[], [0], [], [2], [], [2, 3, 4], [2, 3, 4, 5], [], [7], [2, 3, 4, 5, 6, 7, 8], [], [0, 1, 2, 3, 4, 5, 6, 7, 8, 9, 10], [0, 1, 2, 3, 4, 5, 6, 7, 8, 9, 10, 11]]
def F.baizeref47_Hold.c2 (d1 : Arr Int 8) (x1 : Int) (d2 : Arr Int 2) (l1 : List S_baizeref47_Held) (d3 : Arr Int 8) (x2 : Int) (x3 : Int) (x4 : Int) (d4 : Arr Int 8) (x5 : Int) (d5 : Arr Int 2) (l2 : List S_baizeref47_Held) (q4 : Bool) : Option ((Arr Int 8) × Int × (Arr Int 2) × (List S_baizeref47_Held) × Int) := (if q4 = true then (some ((zA 8), 0, (zA 2), [], 2)) else ((F.baizeref47_Place d1 x1 d2 l1 d3).bind fun x7 => (if decide (x7 ≥ 0) = true then (some ((zA 8), 0, (zA 2), [], 7)) else (if ((l1.length : Int) == 16) = true then (some ((zA 8), 0, (zA 2), [], 8)) else (if (0 : Int) ≤ x3 ∧ x3 < (2 : Int) then (if decide ((aget d2 x3) < x2) = true then (some ((zA 8), 0, (zA 2), [], 21)) else (if (0 : Int) ≤ x3 ∧ x3 < (2 : Int) then (if (0 : Int) ≤ x3 ∧ x3 < (2 : Int) then (if l2.length + ([(⟨d3, x2, x3, x4⟩ : S_baizeref47_Held)]).length ≤ 4398046511104 then (some (d4, x5, (aset d5 x3 (IntKind.i64.wrap ((aget d5 x3) - x2))), (l2 ++ [(⟨d3, x2, x3, x4⟩ : S_baizeref47_Held)]), 0)) else none) else none) else none)) else none)))))
def F.baizeref47_Hold.c1 (d1 : Arr Int 8) (x1 : Int) (d2 : Arr Int 2) (l1 : List S_baizeref47_Held) (d3 : Arr Int 8) (x2 : Int) (x3 : Int) (x4 : Int) (d4 : Arr Int 8) (x5 : Int) (d5 : Arr Int 2) (l2 : List S_baizeref47_Held) (q1 : Bool) : Option ((Arr Int 8) × Int × (Arr Int 2) × (List S_baizeref47_Held) × Int) := (if q1 = true then (some ((zA 8), 0, (zA 2), [], 28)) else ((F.baizeref47_positive x2).bind fun q5 => (if (!q5) = true then (F.baizeref47_Hold.c2 d1 x1 d2 l1 d3 x2 x3 x4 d4 x5 d5 l2 true) else ((F.baizeref47_height x4).bind fun q6 => (F.baizeref47_Hold.c2 d1 x1 d2 l1 d3 x2 x3 x4 d4 x5 d5 l2 (!q6))))))
def F.baizeref47_Hold (d1 : Arr Int 8) (x1 : Int) (d2 : Arr Int 2) (l1 : List S_baizeref47_Held) (d3 : Arr Int 8) (x2 : Int) (x3 : Int) (x4 : Int) : Option ((Arr Int 8) × Int × (Arr Int 2) × (List S_baizeref47_Held) × Int) := ((F.baizeref47_next d1 x1 d2 l1).bind fun (d4, x5, d5, l2, x6) => (if (x6 != 0) = true then (some ((zA 8), 0, (zA 2), [], x6)) else (if (x3 != 0) = true then (F.baizeref47_Hold.c1 d1 x1 d2 l1 d3 x2 x3 x4 d4 x5 d5 l2 (x3 != 1)) else (F.baizeref47_Hold.c1 d1 x1 d2 l1 d3 x2 x3 x4 d4 x5 d5 l2 false))))
theorem P.baizeref47_Hold (g0 : GW) (r0 : Nat) (d1 : Arr Int 8) (x1 : Int) (d2 : Arr Int 2) (l1 : List S_baizeref47_Held) (d3 : Arr Int 8) (x2 : Int) (x3 : Int) (x4 : Int) (a1 : Option Addr) (n1 : Nat) (c1 : Nat) (hR1 : RdS k_S_baizeref47_Held g0 60 a1 n1 c1 l1) (o1 : Arr Int 8) (o2 : Int) (o3 : Arr Int 2) (o4 : List S_baizeref47_Held) (o5 : Int) (hs : F.baizeref47_Hold d1 x1 d2 l1 d3 x2 x3 x4 = some (o1, o2, o3, o4, o5)) :
    Calls Try.prog 44 #[AG [encA .u8 d1, [.int .i64 x1], encA .i64 d2, [.slice a1 n1 c1]], AG [encA .u8 d3, [.int .i64 x2], [.int .i64 x3], [.int .i64 x4]]] g0.w (Ret NoM g0 fun v g => ∃ (a_1 : Option Addr) (n_1 : Nat) (c_1 : Nat), v = .tuple #[AG [encA .u8 o1, [.int .i64 o2], encA .i64 o3, [.slice a_1 n_1 c_1]], .int .i64 o5] ∧ OwnS k_S_baizeref47_Held g r0 60 a_1 n_1 c_1 o4) := by
  refine calls_of (args := [AG [encA .u8 d1, [.int .i64 x1], encA .i64 d2, [.slice a1 n1 c1]], AG [encA .u8 d3, [.int .i64 x2], [.int .i64 x3], [.int .i64 x4]]]) Try.func44 rfl (r0 + 0) ?_
  intro t ht htL
  refine ⟨_, rfl, ?_⟩
  refine CP.refr 76 [(0, AG [encA .u8 d1, [.int .i64 x1], encA .i64 d2, [.slice a1 n1 c1]]), (1, AG [encA .u8 d3, [.int .i64 x2], [.int .i64 x3], [.int .i64 x4]])] (by kernel_rfl) (by kernel_rfl) ?_
  intro ds
  have tot : Step (fun l => NoM l ∨ t ≤ l) g0 g0 := Step.refl _ _
  unfold F.baizeref47_Hold at hs
  refine CP.seqR ?_
  refine WP.alloc (T := 26) (t + 1) [encA .u8 d1, [.int .i64 x1], encA .i64 d2, [.slice a1 n1 c1]] [8, 1, 2, 1] (by kernel_rfl) (by simp [len_encA]) ?_
  intro g1 b1 st1 hB1
  replace hR1 := hR1.mono st1 (fun x => x)
  replace tot := tot.trans st1.pure
  refine WP.alloc (T := 60) (t + 2) [encA .u8 d3, [.int .i64 x2], [.int .i64 x3], [.int .i64 x4]] [8, 1, 1, 1] (by kernel_rfl) (by simp [len_encA]) ?_
  intro g2 b2 st2 hB2
  replace hR1 := hR1.mono st2 (fun x => x)
  replace hB1 := hB1.mono st2 (fun x => x)
  replace tot := tot.trans st2.pure
  refine WP.alloc (T := 26) (t + 3) [encA .u8 (zA 8), [.int .i64 0], encA .i64 (zA 2), [.slice none 0 0]] [8, 1, 2, 1] (by kernel_rfl) (by simp [len_encA]) ?_
  intro g3 b3 st3 hB3
  replace hR1 := hR1.mono st3 (fun x => x)
  replace hB1 := hB1.mono st3 (fun x => x)
  replace hB2 := hB2.mono st3 (fun x => x)
  replace tot := tot.trans st3.pure
  refine WP.still 1 (by kernel_rfl) ?_
  refine WP.done (by kernel_rfl) ?_
  refine NX.then_n ?_
  refine CP.seqR ?_
  refine WP.loadB (v := AG [encA .u8 d1, [.int .i64 x1], encA .i64 d2, [.slice a1 n1 c1]]) hB1 (by kernel_rfl) (by kernel_rfl) ?_
  replace hs := Option.bind_eq_some_iff.1 hs
  obtain ⟨⟨d4, x5, d5, l2, x6⟩, hk1, hs⟩ := hs
  dsimp only at hs
  have hcal1 := P.baizeref47_next g3 (t + 4) d1 x1 d2 l1 a1 n1 c1 hR1 d4 x5 d5 l2 x6 hk1
  refine WP.callC hcal1 (by kernel_rfl) ?_
  rintro _ g4 st4 ⟨a2, n2, c2, rfl, hR2⟩
  replace hB1 := hB1.mono st4 (fun x => x)
  replace hR1 := hR1.mono st4 (fun x => x)
  replace hB2 := hB2.mono st4 (fun x => x)
  replace hB3 := hB3.mono st4 (fun x => x)
  replace tot := tot.trans st4.pure
  refine WP.still 3 (by kernel_rfl) ?_
  refine WP.alloc (T := 26) (t + 5) [encA .u8 (zA 8), [.int .i64 0], encA .i64 (zA 2), [.slice none 0 0]] [8, 1, 2, 1] (by kernel_rfl) (by simp [len_encA]) ?_
  intro g5 b4 st5 hB4
  replace hB1 := hB1.mono st5 (fun x => x)
  replace hR1 := hR1.mono st5 (fun x => x)
  replace hB2 := hB2.mono st5 (fun x => x)
  replace hB3 := hB3.mono st5 (fun x => x)
  replace hR2 := hR2.mono st5 (fun x => x) (fun x => x)
  replace tot := tot.trans st5.pure
  refine WP.storeB (ty := 26) (off := 0) (v := AG [encA .u8 d4, [.int .i64 x5], encA .i64 d5, [.slice a2 n2 c2]]) hB4 [encA .u8 d4, [.int .i64 x5], encA .i64 d5, [.slice a2 n2 c2]] [8, 1, 2, 1] (by kernel_rfl) (by kernel_rfl) (by simp [len_encA]) (by kernel_rfl) [encA .u8 d4, [.int .i64 x5], encA .i64 d5, [.slice a2 n2 c2]] (by kernel_rfl) (.arr (.one rfl (.arr (.one rfl .nil)))) ?_
  intro g6 st6 hB5
  replace hB1 := hB1.mono st6 (WL.no1 (by omega))
  replace hR1 := hR1.mono st6 (WL.no1 (by omega))
  replace hB2 := hB2.mono st6 (WL.no1 (by omega))
  replace hB3 := hB3.mono st6 (WL.no1 (by omega))
  replace hR2 := hR2.mono st6 (WL.no1 (by omega)) (WL.no1 (by omega))
  replace tot := tot.trans (st6.up1 (.inr (by omega)))
  clear hB4
  have hB4 := hB5
  clear hB5
  refine WP.still 1 (by kernel_rfl) ?_
  refine WP.done (by kernel_rfl) ?_
  refine NX.then_n ?_
  refine CP.seq ?_
  refine CP.seqR ?_
  refine WP.still 2 (by kernel_rfl) ?_
  refine WP.done (by kernel_rfl) ?_
  refine NX.then_n ?_
  refine CP.refr 76 [(2, .pointer (some ⟨b1, 0, none⟩)), (3, .pointer (some ⟨b2, 0, none⟩)), (4, .pointer (some ⟨b3, 0, none⟩)), (6, .pointer (some ⟨b4, 0, none⟩)), (7, .int .i64 x6), (14, .bool (x6 != 0))] (by kernel_rfl) (by kernel_rfl) ?_
  clear ds
  intro ds
  refine CP.cond (b := (x6 != 0)) (by kernel_rfl) (fun h1 => ?_) (fun h1 => ?_)
  · replace hs := of_if_t hs h1
    refine CP.seqR ?_
    refine WP.buildS (places := #[(0, 8), (8, 1), (9, 2), (11, 1)]) (t := 26) [encA .u8 (zA 8), [.int .i64 0], encA .i64 (zA 2), [.slice none 0 0]] [8, 1, 2, 1] (by kernel_rfl) (by kernel_rfl) (by simp [len_encA]) (by kernel_rfl) (.nil) ?_
    refine WP.still 1 (by kernel_rfl) ?_
    refine WP.storeB (ty := 26) (off := 0) (v := AG [encA .u8 (zA 8), [.int .i64 0], encA .i64 (zA 2), [.slice none 0 0]]) hB3 [encA .u8 (zA 8), [.int .i64 0], encA .i64 (zA 2), [.slice none 0 0]] [8, 1, 2, 1] (by kernel_rfl) (by kernel_rfl) (by simp [len_encA]) (by kernel_rfl) [encA .u8 (zA 8), [.int .i64 0], encA .i64 (zA 2), [.slice none 0 0]] (by kernel_rfl) (.arr (.one rfl (.arr (.one rfl .nil)))) ?_
    intro g7 st7 hB6
    replace hB1 := hB1.mono st7 (WL.no1 (by omega))
    replace hR1 := hR1.mono st7 (WL.no1 (by omega))
    replace hB2 := hB2.mono st7 (WL.no1 (by omega))
    replace hB4 := hB4.mono st7 (WL.no1 (by omega))
    replace hR2 := hR2.mono st7 (WL.no1 (by omega)) (WL.no1 (by omega))
    replace tot := tot.trans (st7.up1 (.inr (by omega)))
    clear hB3
    have hB3 := hB6
    clear hB6
    refine WP.still 1 (by kernel_rfl) ?_
    refine WP.done (by kernel_rfl) ?_
    refine NX.then_n ?_
    refine CP.ret ?_
    refine NX.then_r ?_
    replace hs := Option.some.inj hs
    simp only [Prod.mk.injEq] at hs
    obtain ⟨rfl, rfl, rfl, rfl, rfl⟩ := hs
    exact NX.fin (v := .tuple #[AG [encA .u8 (zA 8), [.int .i64 0], encA .i64 (zA 2), [.slice none 0 0]], .int .i64 x6]) (Res.two rfl (RV.box (agg := true) (size := 12) (rs := [encA .u8 (zA 8), [.int .i64 0], encA .i64 (zA 2), [.slice none 0 0]]) hB3 (by kernel_rfl) (by kernel_rfl) (by kernel_rfl) (by kernel_rfl)) (RV.tmp (by kernel_rfl))) tot htL ⟨none, 0, 0, rfl, (OwnS.nil _ _ _ _)⟩
  replace hs := of_if_f hs h1
  refine CP.skip ?_
  refine NX.then_n ?_
  refine CP.seq ?_
  refine CP.cut (fun tm g => ∃ (q1 : Bool), Fr 76 [(2, .pointer (some ⟨b1, 0, none⟩)), (3, .pointer (some ⟨b2, 0, none⟩)), (4, .pointer (some ⟨b3, 0, none⟩)), (6, .pointer (some ⟨b4, 0, none⟩)), (24, .bool q1)] tm ∧ Step (fun l => NoM l ∨ t ≤ l) g0 g ∧ Box g (t + 1) b1 26 [encA .u8 d1, [.int .i64 x1], encA .i64 d2, [.slice a1 n1 c1]] [8, 1, 2, 1] ∧ RdS k_S_baizeref47_Held g 60 a1 n1 c1 l1 ∧ Box g (t + 2) b2 60 [encA .u8 d3, [.int .i64 x2], [.int .i64 x3], [.int .i64 x4]] [8, 1, 1, 1] ∧ Box g (t + 3) b3 26 [encA .u8 (zA 8), [.int .i64 0], encA .i64 (zA 2), [.slice none 0 0]] [8, 1, 2, 1] ∧ Box g (t + 5) b4 26 [encA .u8 d4, [.int .i64 x5], encA .i64 d5, [.slice a2 n2 c2]] [8, 1, 2, 1] ∧ OwnS k_S_baizeref47_Held g (t + 4) 60 a2 n2 c2 l2 ∧ (F.baizeref47_Hold.c1 d1 x1 d2 l1 d3 x2 x3 x4 d4 x5 d5 l2 q1) = some (o1, o2, o3, o4, o5)) ?_ ?_
  · refine CP.region ?_
    refine WP.still 1 (by kernel_rfl) ?_
    refine WP.loadB (v := .int .i64 x3) hB2 (by kernel_rfl) (by kernel_rfl) ?_
    refine WP.still 2 (by kernel_rfl) ?_
    refine WP.guard 20 (b := (x3 != 0)) (by kernel_rfl) (fun h10 => ?_) (fun h10 => ?_)
    · replace hs := of_if_t hs h10
      refine WP.still 1 (by kernel_rfl) ?_
      refine WP.loadB (v := .int .i64 x3) hB2 (by kernel_rfl) (by kernel_rfl) ?_
      refine WP.still 2 (by kernel_rfl) ?_
      refine WP.done (by kernel_rfl) ?_
      refine NX.post ?_
      exact ⟨(x3 != 1), ⟨by kernel_rfl, by kernel_rfl⟩, tot, hB1, hR1, hB2, hB3, hB4, hR2, hs⟩
    replace hs := of_if_f hs h10
    refine WP.still 4 (by kernel_rfl) ?_
    refine WP.done (by kernel_rfl) ?_
    refine NX.post ?_
    exact ⟨false, ⟨by kernel_rfl, by kernel_rfl⟩, tot, hB1, hR1, hB2, hB3, hB4, hR2, hs⟩
  clear tot hs hB1 hR1 hB2 hB3 hB4 hR2
  rintro tm g ⟨q1, hF, tot, hB1, hR1, hB2, hB3, hB4, hR2, hs⟩
  clear ds
  obtain ⟨ds, rfl⟩ := hF.open
  clear hF
  unfold F.baizeref47_Hold.c1 at hs
  refine CP.cond (b := q1) (by kernel_rfl) (fun h3 => ?_) (fun h3 => ?_)
  · replace hs := of_if_t hs h3
    refine CP.seqR ?_
    refine WP.buildS (places := #[(0, 8), (8, 1), (9, 2), (11, 1)]) (t := 26) [encA .u8 (zA 8), [.int .i64 0], encA .i64 (zA 2), [.slice none 0 0]] [8, 1, 2, 1] (by kernel_rfl) (by kernel_rfl) (by simp [len_encA]) (by kernel_rfl) (.nil) ?_
    refine WP.storeB (ty := 26) (off := 0) (v := AG [encA .u8 (zA 8), [.int .i64 0], encA .i64 (zA 2), [.slice none 0 0]]) hB3 [encA .u8 (zA 8), [.int .i64 0], encA .i64 (zA 2), [.slice none 0 0]] [8, 1, 2, 1] (by kernel_rfl) (by kernel_rfl) (by simp [len_encA]) (by kernel_rfl) [encA .u8 (zA 8), [.int .i64 0], encA .i64 (zA 2), [.slice none 0 0]] (by kernel_rfl) (.arr (.one rfl (.arr (.one rfl .nil)))) ?_
    intro g8 st8 hB7
    replace hB1 := hB1.mono st8 (WL.no1 (by omega))
    replace hR1 := hR1.mono st8 (WL.no1 (by omega))
    replace hB2 := hB2.mono st8 (WL.no1 (by omega))
    replace hB4 := hB4.mono st8 (WL.no1 (by omega))
    replace hR2 := hR2.mono st8 (WL.no1 (by omega)) (WL.no1 (by omega))
    replace tot := tot.trans (st8.up1 (.inr (by omega)))
    clear hB3
    have hB3 := hB7
    clear hB7
    refine WP.still 1 (by kernel_rfl) ?_
    refine WP.done (by kernel_rfl) ?_
    refine NX.then_n ?_
    refine CP.ret ?_
    refine NX.then_r ?_
    replace hs := Option.some.inj hs
    simp only [Prod.mk.injEq] at hs
    obtain ⟨rfl, rfl, rfl, rfl, rfl⟩ := hs
    exact NX.fin (v := .tuple #[AG [encA .u8 (zA 8), [.int .i64 0], encA .i64 (zA 2), [.slice none 0 0]], .int .i64 28]) (Res.two rfl (RV.box (agg := true) (size := 12) (rs := [encA .u8 (zA 8), [.int .i64 0], encA .i64 (zA 2), [.slice none 0 0]]) hB3 (by kernel_rfl) (by kernel_rfl) (by kernel_rfl) (by kernel_rfl)) (RV.tmp (by kernel_rfl))) tot htL ⟨none, 0, 0, rfl, (OwnS.nil _ _ _ _)⟩
  replace hs := of_if_f hs h3
  refine CP.skip ?_
  refine NX.then_n ?_
  refine CP.seq ?_
  refine CP.cut (fun tm g => ∃ (q4 : Bool), Fr 76 [(2, .pointer (some ⟨b1, 0, none⟩)), (3, .pointer (some ⟨b2, 0, none⟩)), (4, .pointer (some ⟨b3, 0, none⟩)), (6, .pointer (some ⟨b4, 0, none⟩)), (35, .bool q4)] tm ∧ Step (fun l => NoM l ∨ t ≤ l) g0 g ∧ Box g (t + 1) b1 26 [encA .u8 d1, [.int .i64 x1], encA .i64 d2, [.slice a1 n1 c1]] [8, 1, 2, 1] ∧ RdS k_S_baizeref47_Held g 60 a1 n1 c1 l1 ∧ Box g (t + 2) b2 60 [encA .u8 d3, [.int .i64 x2], [.int .i64 x3], [.int .i64 x4]] [8, 1, 1, 1] ∧ Box g (t + 3) b3 26 [encA .u8 (zA 8), [.int .i64 0], encA .i64 (zA 2), [.slice none 0 0]] [8, 1, 2, 1] ∧ Box g (t + 5) b4 26 [encA .u8 d4, [.int .i64 x5], encA .i64 d5, [.slice a2 n2 c2]] [8, 1, 2, 1] ∧ OwnS k_S_baizeref47_Held g (t + 4) 60 a2 n2 c2 l2 ∧ (F.baizeref47_Hold.c2 d1 x1 d2 l1 d3 x2 x3 x4 d4 x5 d5 l2 q4) = some (o1, o2, o3, o4, o5)) ?_ ?_
  · refine CP.region ?_
    refine WP.still 1 (by kernel_rfl) ?_
    refine WP.loadB (v := .int .i64 x2) hB2 (by kernel_rfl) (by kernel_rfl) ?_
    replace hs := Option.bind_eq_some_iff.1 hs
    obtain ⟨q5, hk5, hs⟩ := hs
    have hcal5 := P.baizeref47_positive g x2 q5 hk5
    refine WP.callC hcal5 (by kernel_rfl) ?_
    rintro _ g24 st24 rfl
    replace hB1 := hB1.mono st24 (fun x => x)
    replace hR1 := hR1.mono st24 (fun x => x)
    replace hB2 := hB2.mono st24 (fun x => x)
    replace hB3 := hB3.mono st24 (fun x => x)
    replace hB4 := hB4.mono st24 (fun x => x)
    replace hR2 := hR2.mono st24 (fun x => x) (fun x => x)
    replace tot := tot.trans st24.pure
    refine WP.still 2 (by kernel_rfl) ?_
    refine WP.guard 30 (b := (!q5)) (by kernel_rfl) (fun h9 => ?_) (fun h9 => ?_)
    · replace hs := of_if_t hs h9
      refine WP.still 5 (by kernel_rfl) ?_
      refine WP.done (by kernel_rfl) ?_
      refine NX.post ?_
      exact ⟨true, ⟨by kernel_rfl, by kernel_rfl⟩, tot, hB1, hR1, hB2, hB3, hB4, hR2, hs⟩
    replace hs := of_if_f hs h9
    refine WP.still 1 (by kernel_rfl) ?_
    refine WP.loadB (v := .int .i64 x4) hB2 (by kernel_rfl) (by kernel_rfl) ?_
    replace hs := Option.bind_eq_some_iff.1 hs
    obtain ⟨q6, hk6, hs⟩ := hs
    have hcal6 := P.baizeref47_height g24 x4 q6 hk6
    refine WP.callC hcal6 (by kernel_rfl) ?_
    rintro _ g25 st25 rfl
    replace hB1 := hB1.mono st25 (fun x => x)
    replace hR1 := hR1.mono st25 (fun x => x)
    replace hB2 := hB2.mono st25 (fun x => x)
    replace hB3 := hB3.mono st25 (fun x => x)
    replace hB4 := hB4.mono st25 (fun x => x)
    replace hR2 := hR2.mono st25 (fun x => x) (fun x => x)
    replace tot := tot.trans st25.pure
    refine WP.still 2 (by kernel_rfl) ?_
    refine WP.done (by kernel_rfl) ?_
    refine NX.post ?_
    exact ⟨(!q6), ⟨by kernel_rfl, by kernel_rfl⟩, tot, hB1, hR1, hB2, hB3, hB4, hR2, hs⟩
  clear tot hs hB1 hR1 hB2 hB3 hB4 hR2
  rintro tm g ⟨q4, hF, tot, hB1, hR1, hB2, hB3, hB4, hR2, hs⟩
  clear ds
  obtain ⟨ds, rfl⟩ := hF.open
  clear hF
  unfold F.baizeref47_Hold.c2 at hs
  refine CP.cond (b := q4) (by kernel_rfl) (fun h5 => ?_) (fun h5 => ?_)
  · replace hs := of_if_t hs h5
    refine CP.seqR ?_
    refine WP.buildS (places := #[(0, 8), (8, 1), (9, 2), (11, 1)]) (t := 26) [encA .u8 (zA 8), [.int .i64 0], encA .i64 (zA 2), [.slice none 0 0]] [8, 1, 2, 1] (by kernel_rfl) (by kernel_rfl) (by simp [len_encA]) (by kernel_rfl) (.nil) ?_
    refine WP.storeB (ty := 26) (off := 0) (v := AG [encA .u8 (zA 8), [.int .i64 0], encA .i64 (zA 2), [.slice none 0 0]]) hB3 [encA .u8 (zA 8), [.int .i64 0], encA .i64 (zA 2), [.slice none 0 0]] [8, 1, 2, 1] (by kernel_rfl) (by kernel_rfl) (by simp [len_encA]) (by kernel_rfl) [encA .u8 (zA 8), [.int .i64 0], encA .i64 (zA 2), [.slice none 0 0]] (by kernel_rfl) (.arr (.one rfl (.arr (.one rfl .nil)))) ?_
    intro g11 st11 hB8
    replace hB1 := hB1.mono st11 (WL.no1 (by omega))
    replace hR1 := hR1.mono st11 (WL.no1 (by omega))
    replace hB2 := hB2.mono st11 (WL.no1 (by omega))
    replace hB4 := hB4.mono st11 (WL.no1 (by omega))
    replace hR2 := hR2.mono st11 (WL.no1 (by omega)) (WL.no1 (by omega))
    replace tot := tot.trans (st11.up1 (.inr (by omega)))
    clear hB3
    have hB3 := hB8
    clear hB8
    refine WP.still 1 (by kernel_rfl) ?_
    refine WP.done (by kernel_rfl) ?_
    refine NX.then_n ?_
    refine CP.ret ?_
    refine NX.then_r ?_
    replace hs := Option.some.inj hs
    simp only [Prod.mk.injEq] at hs
    obtain ⟨rfl, rfl, rfl, rfl, rfl⟩ := hs
    exact NX.fin (v := .tuple #[AG [encA .u8 (zA 8), [.int .i64 0], encA .i64 (zA 2), [.slice none 0 0]], .int .i64 2]) (Res.two rfl (RV.box (agg := true) (size := 12) (rs := [encA .u8 (zA 8), [.int .i64 0], encA .i64 (zA 2), [.slice none 0 0]]) hB3 (by kernel_rfl) (by kernel_rfl) (by kernel_rfl) (by kernel_rfl)) (RV.tmp (by kernel_rfl))) tot htL ⟨none, 0, 0, rfl, (OwnS.nil _ _ _ _)⟩
  replace hs := of_if_f hs h5
  refine CP.skip ?_
  refine NX.then_n ?_
  refine CP.seq ?_
  refine CP.seqR ?_
  refine WP.loadB (v := AG [encA .u8 d1, [.int .i64 x1], encA .i64 d2, [.slice a1 n1 c1]]) hB1 (by kernel_rfl) (by kernel_rfl) ?_
  refine WP.still 1 (by kernel_rfl) ?_
  refine WP.loadB (v := AG [encA .u8 d3]) hB2 (by kernel_rfl) (by kernel_rfl) ?_
  replace hs := Option.bind_eq_some_iff.1 hs
  obtain ⟨x7, hk4, hs⟩ := hs
  have hcal4 := P.baizeref47_Place g d1 x1 d2 l1 d3 a1 n1 c1 hR1 x7 hk4
  refine WP.callC hcal4 (by kernel_rfl) ?_
  rintro _ g12 st12 rfl
  replace hB1 := hB1.mono st12 (fun x => x)
  replace hR1 := hR1.mono st12 (fun x => x)
  replace hB2 := hB2.mono st12 (fun x => x)
  replace hB3 := hB3.mono st12 (fun x => x)
  replace hB4 := hB4.mono st12 (fun x => x)
  replace hR2 := hR2.mono st12 (fun x => x) (fun x => x)
  replace tot := tot.trans st12.pure
  refine WP.still 1 (by kernel_rfl) ?_
  refine WP.done (by kernel_rfl) ?_
  refine NX.then_n ?_
  refine CP.cond (b := decide (x7 ≥ 0)) (by kernel_rfl) (fun h6 => ?_) (fun h6 => ?_)
  · replace hs := of_if_t hs h6
    refine CP.seqR ?_
    refine WP.buildS (places := #[(0, 8), (8, 1), (9, 2), (11, 1)]) (t := 26) [encA .u8 (zA 8), [.int .i64 0], encA .i64 (zA 2), [.slice none 0 0]] [8, 1, 2, 1] (by kernel_rfl) (by kernel_rfl) (by simp [len_encA]) (by kernel_rfl) (.nil) ?_
    refine WP.storeB (ty := 26) (off := 0) (v := AG [encA .u8 (zA 8), [.int .i64 0], encA .i64 (zA 2), [.slice none 0 0]]) hB3 [encA .u8 (zA 8), [.int .i64 0], encA .i64 (zA 2), [.slice none 0 0]] [8, 1, 2, 1] (by kernel_rfl) (by kernel_rfl) (by simp [len_encA]) (by kernel_rfl) [encA .u8 (zA 8), [.int .i64 0], encA .i64 (zA 2), [.slice none 0 0]] (by kernel_rfl) (.arr (.one rfl (.arr (.one rfl .nil)))) ?_
    intro g13 st13 hB9
    replace hB1 := hB1.mono st13 (WL.no1 (by omega))
    replace hR1 := hR1.mono st13 (WL.no1 (by omega))
    replace hB2 := hB2.mono st13 (WL.no1 (by omega))
    replace hB4 := hB4.mono st13 (WL.no1 (by omega))
    replace hR2 := hR2.mono st13 (WL.no1 (by omega)) (WL.no1 (by omega))
    replace tot := tot.trans (st13.up1 (.inr (by omega)))
    clear hB3
    have hB3 := hB9
    clear hB9
    refine WP.still 1 (by kernel_rfl) ?_
    refine WP.done (by kernel_rfl) ?_
    refine NX.then_n ?_
    refine CP.ret ?_
    refine NX.then_r ?_
    replace hs := Option.some.inj hs
    simp only [Prod.mk.injEq] at hs
    obtain ⟨rfl, rfl, rfl, rfl, rfl⟩ := hs
    exact NX.fin (v := .tuple #[AG [encA .u8 (zA 8), [.int .i64 0], encA .i64 (zA 2), [.slice none 0 0]], .int .i64 7]) (Res.two rfl (RV.box (agg := true) (size := 12) (rs := [encA .u8 (zA 8), [.int .i64 0], encA .i64 (zA 2), [.slice none 0 0]]) hB3 (by kernel_rfl) (by kernel_rfl) (by kernel_rfl) (by kernel_rfl)) (RV.tmp (by kernel_rfl))) tot htL ⟨none, 0, 0, rfl, (OwnS.nil _ _ _ _)⟩
  replace hs := of_if_f hs h6
  refine CP.skip ?_
  refine NX.then_n ?_
  refine CP.seq ?_
  refine CP.seqR ?_
  refine WP.still 1 (by kernel_rfl) ?_
  refine WP.loadB (v := .slice a1 n1 c1) hB1 (by kernel_rfl) (by kernel_rfl) ?_
  refine WP.len (a := a1) (cp := c1) hR1.len (by kernel_rfl) ?_
  refine WP.still 1 (by kernel_rfl) ?_
  refine WP.done (by kernel_rfl) ?_
  refine NX.then_n ?_
  refine CP.cond (b := ((l1.length : Int) == 16)) (by kernel_rfl) (fun h7 => ?_) (fun h7 => ?_)
  · replace hs := of_if_t hs h7
    refine CP.seqR ?_
    refine WP.buildS (places := #[(0, 8), (8, 1), (9, 2), (11, 1)]) (t := 26) [encA .u8 (zA 8), [.int .i64 0], encA .i64 (zA 2), [.slice none 0 0]] [8, 1, 2, 1] (by kernel_rfl) (by kernel_rfl) (by simp [len_encA]) (by kernel_rfl) (.nil) ?_
    refine WP.storeB (ty := 26) (off := 0) (v := AG [encA .u8 (zA 8), [.int .i64 0], encA .i64 (zA 2), [.slice none 0 0]]) hB3 [encA .u8 (zA 8), [.int .i64 0], encA .i64 (zA 2), [.slice none 0 0]] [8, 1, 2, 1] (by kernel_rfl) (by kernel_rfl) (by simp [len_encA]) (by kernel_rfl) [encA .u8 (zA 8), [.int .i64 0], encA .i64 (zA 2), [.slice none 0 0]] (by kernel_rfl) (.arr (.one rfl (.arr (.one rfl .nil)))) ?_
    intro g14 st14 hB10
    replace hB1 := hB1.mono st14 (WL.no1 (by omega))
    replace hR1 := hR1.mono st14 (WL.no1 (by omega))
    replace hB2 := hB2.mono st14 (WL.no1 (by omega))
    replace hB4 := hB4.mono st14 (WL.no1 (by omega))
    replace hR2 := hR2.mono st14 (WL.no1 (by omega)) (WL.no1 (by omega))
    replace tot := tot.trans (st14.up1 (.inr (by omega)))
    clear hB3
    have hB3 := hB10
    clear hB10
    refine WP.still 1 (by kernel_rfl) ?_
    refine WP.done (by kernel_rfl) ?_
    refine NX.then_n ?_
    refine CP.ret ?_
    refine NX.then_r ?_
    replace hs := Option.some.inj hs
    simp only [Prod.mk.injEq] at hs
    obtain ⟨rfl, rfl, rfl, rfl, rfl⟩ := hs
    exact NX.fin (v := .tuple #[AG [encA .u8 (zA 8), [.int .i64 0], encA .i64 (zA 2), [.slice none 0 0]], .int .i64 8]) (Res.two rfl (RV.box (agg := true) (size := 12) (rs := [encA .u8 (zA 8), [.int .i64 0], encA .i64 (zA 2), [.slice none 0 0]]) hB3 (by kernel_rfl) (by kernel_rfl) (by kernel_rfl) (by kernel_rfl)) (RV.tmp (by kernel_rfl))) tot htL ⟨none, 0, 0, rfl, (OwnS.nil _ _ _ _)⟩
  replace hs := of_if_f hs h7
  refine CP.skip ?_
  refine NX.then_n ?_
  refine CP.seq ?_
  refine CP.seq ?_
  by_cases hc1 : (0 : Int) ≤ x3 ∧ x3 < (2 : Int)
  case neg => rw [if_neg hc1] at hs; cases hs
  replace hs := of_if_p hs hc1
  refine CP.drawL (by kernel_rfl) [1, 3, 4, 6] N.baizeref47_Hold_0 [⟨none, [], [], fun l g => Box g (t + 1) b1 26 [encA .u8 d1, [.int .i64 x1], encA .i64 d2, [.slice a1 n1 c1]] [8, 1, 2, 1]⟩, ⟨none, [], [], fun l g => Box g (t + 2) b2 60 [encA .u8 d3, [.int .i64 x2], [.int .i64 x3], [.int .i64 x4]] [8, 1, 1, 1]⟩, ⟨some 0, [], [0], fun l g => l.getD 0 undef = .int .i64 x3⟩, ⟨some 1, [], [1], fun l g => l.getD 0 undef = .pointer (some ⟨b1, 9 + x3.toNat * 1, none⟩)⟩, ⟨some 2, [], [2], fun l g => l.getD 0 undef = .int .i64 (aget d2 x3)⟩, ⟨some 3, [], [3], fun l g => l.getD 0 undef = .int .i64 x2⟩] [[], [], [], []] [] [0, 2, 5] [7] (by kernel_rfl) (by simp) (by simp) ⟨fun _ _ _ _ st h0 hl hj hB1 => (hB1.mono st (fun h => absurd (hl _ h) (by simp))), fun _ _ _ _ st h0 hl hj hB2 => (hB2.mono st (fun h => absurd (hl _ h) (by simp))), fun _ _ _ _ st h0 hl hj e0 => e0, fun _ _ _ _ st h0 hl hj e1 => e1, fun _ _ _ _ st h0 hl hj e2 => e2, fun _ _ _ _ st h0 hl hj e3 => e3, trivial⟩ ⟨hB1, hB2, trivial, trivial, trivial, trivial, trivial⟩ (by kernel_rfl) (fun vs => by kernel_rfl) ?_ ?_ ?_
  · intro j hj
    have hq : j = 0 := by have h : j < 1 := hj; omega
    rcases hq with rfl
    · intro vs gq stq hl hf
      replace hl : vs.length = 4 := hl
      obtain ⟨v0, vs0, rfl, hl0⟩ := len_succ hl
      obtain ⟨v1, vs1, rfl, hl1⟩ := len_succ hl0
      obtain ⟨v2, vs2, rfl, hl2⟩ := len_succ hl1
      obtain ⟨v3, vs3, rfl, hl3⟩ := len_succ hl2
      obtain rfl := len_zero hl3
      have e2 := (show v2 = .int .i64 (aget d2 x3) from hf _ (List.mem_of_getElem? (i := 4) rfl) (by kernel_rfl))
      subst e2
      have e3 := (show v3 = .int .i64 x2 from hf _ (List.mem_of_getElem? (i := 5) rfl) (by kernel_rfl))
      subst e3
      show Option.isSome _ = true
      kernel_rfl
  · intro j hj
    have hq : j = 0 ∨ j = 1 ∨ j = 2 ∨ j = 3 := by have h : j < 4 := hj; omega
    rcases hq with rfl | rfl | rfl | rfl
    · intro vs gq stq hl hf
      replace hl : vs.length = 4 := hl
      obtain ⟨v0, vs0, rfl, hl0⟩ := len_succ hl
      obtain ⟨v1, vs1, rfl, hl1⟩ := len_succ hl0
      obtain ⟨v2, vs2, rfl, hl2⟩ := len_succ hl1
      obtain ⟨v3, vs3, rfl, hl3⟩ := len_succ hl2
      obtain rfl := len_zero hl3
      have hB2 := (show Box gq (t + 2) b2 60 [encA .u8 d3, [.int .i64 x2], [.int .i64 x3], [.int .i64 x4]] [8, 1, 1, 1] from hf _ (List.mem_of_getElem? (i := 1) rfl) (by kernel_rfl))
      refine WP.loadB (v := .int .i64 x3) hB2 (by kernel_rfl) (by kernel_rfl) ?_
      refine WP.done (by kernel_rfl) (Shown.ok (v := .int .i64 x3) (by kernel_rfl) (Step.refl _ _) ?_)
      exact ⟨trivial, trivial, rfl, trivial, trivial, trivial, trivial⟩
    · intro vs gq stq hl hf
      replace hl : vs.length = 4 := hl
      obtain ⟨v0, vs0, rfl, hl0⟩ := len_succ hl
      obtain ⟨v1, vs1, rfl, hl1⟩ := len_succ hl0
      obtain ⟨v2, vs2, rfl, hl2⟩ := len_succ hl1
      obtain ⟨v3, vs3, rfl, hl3⟩ := len_succ hl2
      obtain rfl := len_zero hl3
      have hB1 := (show Box gq (t + 1) b1 26 [encA .u8 d1, [.int .i64 x1], encA .i64 d2, [.slice a1 n1 c1]] [8, 1, 2, 1] from hf _ (List.mem_of_getElem? (i := 0) rfl) (by kernel_rfl))
      have e0 := (show v0 = .int .i64 x3 from hf _ (List.mem_of_getElem? (i := 2) rfl) (by kernel_rfl))
      subst e0
      refine WP.ixBox (t := 23) (e := 3) (m := 2) (size := 1) (b := b1) (off := 9) (k := .i64) (i := x3) (by kernel_rfl) (by kernel_rfl) hc1 ?_
      refine WP.done (by kernel_rfl) (Shown.ok (v := .pointer (some ⟨b1, 9 + x3.toNat * 1, none⟩)) (by kernel_rfl) (Step.refl _ _) ?_)
      exact ⟨trivial, trivial, trivial, rfl, trivial, trivial, trivial⟩
    · intro vs gq stq hl hf
      replace hl : vs.length = 4 := hl
      obtain ⟨v0, vs0, rfl, hl0⟩ := len_succ hl
      obtain ⟨v1, vs1, rfl, hl1⟩ := len_succ hl0
      obtain ⟨v2, vs2, rfl, hl2⟩ := len_succ hl1
      obtain ⟨v3, vs3, rfl, hl3⟩ := len_succ hl2
      obtain rfl := len_zero hl3
      have hB1 := (show Box gq (t + 1) b1 26 [encA .u8 d1, [.int .i64 x1], encA .i64 d2, [.slice a1 n1 c1]] [8, 1, 2, 1] from hf _ (List.mem_of_getElem? (i := 0) rfl) (by kernel_rfl))
      have e1 := (show v1 = .pointer (some ⟨b1, 9 + x3.toNat * 1, none⟩) from hf _ (List.mem_of_getElem? (i := 3) rfl) (by kernel_rfl))
      subst e1
      refine WP.loadE (ty := 3) (o := 9) (m := 2) (k := .i64) (d := d2) (i := x3) hB1 (by kernel_rfl) hc1 (by kernel_rfl) (by kernel_rfl) ?_
      refine WP.done (by kernel_rfl) (Shown.ok (v := .int .i64 (aget d2 x3)) (by kernel_rfl) (Step.refl _ _) ?_)
      exact ⟨trivial, trivial, trivial, trivial, rfl, trivial, trivial⟩
    · intro vs gq stq hl hf
      replace hl : vs.length = 4 := hl
      obtain ⟨v0, vs0, rfl, hl0⟩ := len_succ hl
      obtain ⟨v1, vs1, rfl, hl1⟩ := len_succ hl0
      obtain ⟨v2, vs2, rfl, hl2⟩ := len_succ hl1
      obtain ⟨v3, vs3, rfl, hl3⟩ := len_succ hl2
      obtain rfl := len_zero hl3
      have hB2 := (show Box gq (t + 2) b2 60 [encA .u8 d3, [.int .i64 x2], [.int .i64 x3], [.int .i64 x4]] [8, 1, 1, 1] from hf _ (List.mem_of_getElem? (i := 1) rfl) (by kernel_rfl))
      refine WP.loadB (v := .int .i64 x2) hB2 (by kernel_rfl) (by kernel_rfl) ?_
      refine WP.done (by kernel_rfl) (Shown.ok (v := .int .i64 x2) (by kernel_rfl) (Step.refl _ _) ?_)
      exact ⟨trivial, trivial, trivial, trivial, trivial, rfl, trivial⟩
  intro vs g15 st15 hl hf
  replace hl : vs.length = 4 := hl
  obtain ⟨v0, vs0, rfl, hl0⟩ := len_succ hl
  obtain ⟨v1, vs1, rfl, hl1⟩ := len_succ hl0
  obtain ⟨v2, vs2, rfl, hl2⟩ := len_succ hl1
  obtain ⟨v3, vs3, rfl, hl3⟩ := len_succ hl2
  obtain rfl := len_zero hl3
  have e2 := (show v2 = .int .i64 (aget d2 x3) from hf _ (List.mem_of_getElem? (i := 4) rfl) (by kernel_rfl))
  subst e2
  have e3 := (show v3 = .int .i64 x2 from hf _ (List.mem_of_getElem? (i := 5) rfl) (by kernel_rfl))
  subst e3
  replace hB2 := hB2.mono st15.toNo (fun x => x)
  replace hB3 := hB3.mono st15.toNo (fun x => x)
  replace hB4 := hB4.mono st15.toNo (fun x => x)
  replace hR2 := hR2.mono st15.toNo (fun x => x) (fun x => x)
  replace tot := tot.trans st15.toNo.pure
  refine NX.then_n ?_
  refine CP.refr 76 [(3, .pointer (some ⟨b2, 0, none⟩)), (4, .pointer (some ⟨b3, 0, none⟩)), (6, .pointer (some ⟨b4, 0, none⟩)), (55, .bool (decide ((aget d2 x3) < x2)))] (by kernel_rfl) (by kernel_rfl) ?_
  clear ds
  intro ds
  refine CP.cond (b := decide ((aget d2 x3) < x2)) (by kernel_rfl) (fun h8 => ?_) (fun h8 => ?_)
  · replace hs := of_if_t hs h8
    refine CP.seqR ?_
    refine WP.buildS (places := #[(0, 8), (8, 1), (9, 2), (11, 1)]) (t := 26) [encA .u8 (zA 8), [.int .i64 0], encA .i64 (zA 2), [.slice none 0 0]] [8, 1, 2, 1] (by kernel_rfl) (by kernel_rfl) (by simp [len_encA]) (by kernel_rfl) (.nil) ?_
    refine WP.storeB (ty := 26) (off := 0) (v := AG [encA .u8 (zA 8), [.int .i64 0], encA .i64 (zA 2), [.slice none 0 0]]) hB3 [encA .u8 (zA 8), [.int .i64 0], encA .i64 (zA 2), [.slice none 0 0]] [8, 1, 2, 1] (by kernel_rfl) (by kernel_rfl) (by simp [len_encA]) (by kernel_rfl) [encA .u8 (zA 8), [.int .i64 0], encA .i64 (zA 2), [.slice none 0 0]] (by kernel_rfl) (.arr (.one rfl (.arr (.one rfl .nil)))) ?_
    intro g16 st16 hB11
    replace hB2 := hB2.mono st16 (WL.no1 (by omega))
    replace hB4 := hB4.mono st16 (WL.no1 (by omega))
    replace hR2 := hR2.mono st16 (WL.no1 (by omega)) (WL.no1 (by omega))
    replace tot := tot.trans (st16.up1 (.inr (by omega)))
    clear hB3
    have hB3 := hB11
    clear hB11
    refine WP.still 1 (by kernel_rfl) ?_
    refine WP.done (by kernel_rfl) ?_
    refine NX.then_n ?_
    refine CP.ret ?_
    refine NX.then_r ?_
    replace hs := Option.some.inj hs
    simp only [Prod.mk.injEq] at hs
    obtain ⟨rfl, rfl, rfl, rfl, rfl⟩ := hs
    exact NX.fin (v := .tuple #[AG [encA .u8 (zA 8), [.int .i64 0], encA .i64 (zA 2), [.slice none 0 0]], .int .i64 21]) (Res.two rfl (RV.box (agg := true) (size := 12) (rs := [encA .u8 (zA 8), [.int .i64 0], encA .i64 (zA 2), [.slice none 0 0]]) hB3 (by kernel_rfl) (by kernel_rfl) (by kernel_rfl) (by kernel_rfl)) (RV.tmp (by kernel_rfl))) tot htL ⟨none, 0, 0, rfl, (OwnS.nil _ _ _ _)⟩
  replace hs := of_if_f hs h8
  refine CP.skip ?_
  refine NX.then_n ?_
  refine CP.seq ?_
  by_cases hc2 : (0 : Int) ≤ x3 ∧ x3 < (2 : Int)
  case neg => rw [if_neg hc2] at hs; cases hs
  replace hs := of_if_p hs hc2
  by_cases hc3 : (0 : Int) ≤ x3 ∧ x3 < (2 : Int)
  case neg => rw [if_neg hc3] at hs; cases hs
  replace hs := of_if_p hs hc3
  refine CP.drawL (by kernel_rfl) [1, 3, 5, 6, 8, 11, 12] N.baizeref47_Hold_1 [⟨none, [], [], fun l g => Box g (t + 2) b2 60 [encA .u8 d3, [.int .i64 x2], [.int .i64 x3], [.int .i64 x4]] [8, 1, 1, 1]⟩, ⟨none, [0], [], fun l g => Box g (t + 5) b4 26 [encA .u8 d4, [.int .i64 x5], encA .i64 d5, [.slice a2 n2 c2]] [8, 1, 2, 1]⟩, ⟨some 0, [], [0], fun l g => l.getD 0 undef = .int .i64 x3⟩, ⟨some 1, [], [1], fun l g => l.getD 0 undef = .int .i64 x3⟩, ⟨some 2, [], [2], fun l g => l.getD 0 undef = .pointer (some ⟨b4, 9 + x3.toNat * 1, none⟩)⟩, ⟨some 3, [], [3], fun l g => l.getD 0 undef = .int .i64 (aget d5 x3)⟩, ⟨some 4, [], [4], fun l g => l.getD 0 undef = .int .i64 x2⟩, ⟨some 5, [], [5], fun l g => l.getD 0 undef = .pointer (some ⟨b4, 9 + x3.toNat * 1, none⟩)⟩, ⟨some 6, [0], [], fun l g => Box g (t + 5) b4 26 [encA .u8 d4, [.int .i64 x5], encA .i64 (aset d5 x3 (IntKind.i64.wrap ((aget d5 x3) - x2))), [.slice a2 n2 c2]] [8, 1, 2, 1]⟩] [[], [], [], [], [], [], [0]] [(t + 5)] [0, 2, 4, 7, 10] [9] (by kernel_rfl) (by simp <;> omega) (by simp) ⟨fun _ _ _ _ st h0 hl hj hB2 => (hB2.mono st (fun h => absurd (hl _ h) (by simp <;> omega))), fun _ _ _ _ st h0 hl hj hB4 => (hB4.mono st (hj 0 (by simp) _ rfl)), fun _ _ _ _ st h0 hl hj e0 => e0, fun _ _ _ _ st h0 hl hj e1 => e1, fun _ _ _ _ st h0 hl hj e2 => e2, fun _ _ _ _ st h0 hl hj e3 => e3, fun _ _ _ _ st h0 hl hj e4 => e4, fun _ _ _ _ st h0 hl hj e5 => e5, fun _ _ _ _ st h0 hl hj hB4 => (hB4.mono st (hj 0 (by simp) _ rfl)), trivial⟩ ⟨hB2, hB4, trivial, trivial, trivial, trivial, trivial, trivial, trivial, trivial⟩ (by kernel_rfl) (fun vs => by kernel_rfl) ?_ ?_ ?_
  · intro j hj
    have hq : j = 0 := by have h : j < 1 := hj; omega
    rcases hq with rfl
    · intro vs gq stq hl hf
      replace hl : vs.length = 7 := hl
      obtain ⟨v0, vs0, rfl, hl0⟩ := len_succ hl
      obtain ⟨v1, vs1, rfl, hl1⟩ := len_succ hl0
      obtain ⟨v2, vs2, rfl, hl2⟩ := len_succ hl1
      obtain ⟨v3, vs3, rfl, hl3⟩ := len_succ hl2
      obtain ⟨v4, vs4, rfl, hl4⟩ := len_succ hl3
      obtain ⟨v5, vs5, rfl, hl5⟩ := len_succ hl4
      obtain ⟨v6, vs6, rfl, hl6⟩ := len_succ hl5
      obtain rfl := len_zero hl6
      have e3 := (show v3 = .int .i64 (aget d5 x3) from hf _ (List.mem_of_getElem? (i := 5) rfl) (by kernel_rfl))
      subst e3
      have e4 := (show v4 = .int .i64 x2 from hf _ (List.mem_of_getElem? (i := 6) rfl) (by kernel_rfl))
      subst e4
      show Option.isSome _ = true
      kernel_rfl
  · intro j hj
    have hq : j = 0 ∨ j = 1 ∨ j = 2 ∨ j = 3 ∨ j = 4 ∨ j = 5 ∨ j = 6 := by have h : j < 7 := hj; omega
    rcases hq with rfl | rfl | rfl | rfl | rfl | rfl | rfl
    · intro vs gq stq hl hf
      replace hl : vs.length = 7 := hl
      obtain ⟨v0, vs0, rfl, hl0⟩ := len_succ hl
      obtain ⟨v1, vs1, rfl, hl1⟩ := len_succ hl0
      obtain ⟨v2, vs2, rfl, hl2⟩ := len_succ hl1
      obtain ⟨v3, vs3, rfl, hl3⟩ := len_succ hl2
      obtain ⟨v4, vs4, rfl, hl4⟩ := len_succ hl3
      obtain ⟨v5, vs5, rfl, hl5⟩ := len_succ hl4
      obtain ⟨v6, vs6, rfl, hl6⟩ := len_succ hl5
      obtain rfl := len_zero hl6
      have hB2 := (show Box gq (t + 2) b2 60 [encA .u8 d3, [.int .i64 x2], [.int .i64 x3], [.int .i64 x4]] [8, 1, 1, 1] from hf _ (List.mem_of_getElem? (i := 0) rfl) (by kernel_rfl))
      refine WP.loadB (v := .int .i64 x3) hB2 (by kernel_rfl) (by kernel_rfl) ?_
      refine WP.done (by kernel_rfl) (Shown.ok (v := .int .i64 x3) (by kernel_rfl) (Step.refl _ _) ?_)
      exact ⟨trivial, trivial, rfl, trivial, trivial, trivial, trivial, trivial, trivial, trivial⟩
    · intro vs gq stq hl hf
      replace hl : vs.length = 7 := hl
      obtain ⟨v0, vs0, rfl, hl0⟩ := len_succ hl
      obtain ⟨v1, vs1, rfl, hl1⟩ := len_succ hl0
      obtain ⟨v2, vs2, rfl, hl2⟩ := len_succ hl1
      obtain ⟨v3, vs3, rfl, hl3⟩ := len_succ hl2
      obtain ⟨v4, vs4, rfl, hl4⟩ := len_succ hl3
      obtain ⟨v5, vs5, rfl, hl5⟩ := len_succ hl4
      obtain ⟨v6, vs6, rfl, hl6⟩ := len_succ hl5
      obtain rfl := len_zero hl6
      have hB2 := (show Box gq (t + 2) b2 60 [encA .u8 d3, [.int .i64 x2], [.int .i64 x3], [.int .i64 x4]] [8, 1, 1, 1] from hf _ (List.mem_of_getElem? (i := 0) rfl) (by kernel_rfl))
      refine WP.loadB (v := .int .i64 x3) hB2 (by kernel_rfl) (by kernel_rfl) ?_
      refine WP.done (by kernel_rfl) (Shown.ok (v := .int .i64 x3) (by kernel_rfl) (Step.refl _ _) ?_)
      exact ⟨trivial, trivial, trivial, rfl, trivial, trivial, trivial, trivial, trivial, trivial⟩
    · intro vs gq stq hl hf
      replace hl : vs.length = 7 := hl
      obtain ⟨v0, vs0, rfl, hl0⟩ := len_succ hl
      obtain ⟨v1, vs1, rfl, hl1⟩ := len_succ hl0
      obtain ⟨v2, vs2, rfl, hl2⟩ := len_succ hl1
      obtain ⟨v3, vs3, rfl, hl3⟩ := len_succ hl2
      obtain ⟨v4, vs4, rfl, hl4⟩ := len_succ hl3
      obtain ⟨v5, vs5, rfl, hl5⟩ := len_succ hl4
      obtain ⟨v6, vs6, rfl, hl6⟩ := len_succ hl5
      obtain rfl := len_zero hl6
      have hB4 := (show Box gq (t + 5) b4 26 [encA .u8 d4, [.int .i64 x5], encA .i64 d5, [.slice a2 n2 c2]] [8, 1, 2, 1] from hf _ (List.mem_of_getElem? (i := 1) rfl) (by kernel_rfl))
      have e1 := (show v1 = .int .i64 x3 from hf _ (List.mem_of_getElem? (i := 3) rfl) (by kernel_rfl))
      subst e1
      refine WP.ixBox (t := 23) (e := 3) (m := 2) (size := 1) (b := b4) (off := 9) (k := .i64) (i := x3) (by kernel_rfl) (by kernel_rfl) hc2 ?_
      refine WP.done (by kernel_rfl) (Shown.ok (v := .pointer (some ⟨b4, 9 + x3.toNat * 1, none⟩)) (by kernel_rfl) (Step.refl _ _) ?_)
      exact ⟨trivial, trivial, trivial, trivial, rfl, trivial, trivial, trivial, trivial, trivial⟩
    · intro vs gq stq hl hf
      replace hl : vs.length = 7 := hl
      obtain ⟨v0, vs0, rfl, hl0⟩ := len_succ hl
      obtain ⟨v1, vs1, rfl, hl1⟩ := len_succ hl0
      obtain ⟨v2, vs2, rfl, hl2⟩ := len_succ hl1
      obtain ⟨v3, vs3, rfl, hl3⟩ := len_succ hl2
      obtain ⟨v4, vs4, rfl, hl4⟩ := len_succ hl3
      obtain ⟨v5, vs5, rfl, hl5⟩ := len_succ hl4
      obtain ⟨v6, vs6, rfl, hl6⟩ := len_succ hl5
      obtain rfl := len_zero hl6
      have hB4 := (show Box gq (t + 5) b4 26 [encA .u8 d4, [.int .i64 x5], encA .i64 d5, [.slice a2 n2 c2]] [8, 1, 2, 1] from hf _ (List.mem_of_getElem? (i := 1) rfl) (by kernel_rfl))
      have e2 := (show v2 = .pointer (some ⟨b4, 9 + x3.toNat * 1, none⟩) from hf _ (List.mem_of_getElem? (i := 4) rfl) (by kernel_rfl))
      subst e2
      refine WP.loadE (ty := 3) (o := 9) (m := 2) (k := .i64) (d := d5) (i := x3) hB4 (by kernel_rfl) hc2 (by kernel_rfl) (by kernel_rfl) ?_
      refine WP.done (by kernel_rfl) (Shown.ok (v := .int .i64 (aget d5 x3)) (by kernel_rfl) (Step.refl _ _) ?_)
      exact ⟨trivial, trivial, trivial, trivial, trivial, rfl, trivial, trivial, trivial, trivial⟩
    · intro vs gq stq hl hf
      replace hl : vs.length = 7 := hl
      obtain ⟨v0, vs0, rfl, hl0⟩ := len_succ hl
      obtain ⟨v1, vs1, rfl, hl1⟩ := len_succ hl0
      obtain ⟨v2, vs2, rfl, hl2⟩ := len_succ hl1
      obtain ⟨v3, vs3, rfl, hl3⟩ := len_succ hl2
      obtain ⟨v4, vs4, rfl, hl4⟩ := len_succ hl3
      obtain ⟨v5, vs5, rfl, hl5⟩ := len_succ hl4
      obtain ⟨v6, vs6, rfl, hl6⟩ := len_succ hl5
      obtain rfl := len_zero hl6
      have hB2 := (show Box gq (t + 2) b2 60 [encA .u8 d3, [.int .i64 x2], [.int .i64 x3], [.int .i64 x4]] [8, 1, 1, 1] from hf _ (List.mem_of_getElem? (i := 0) rfl) (by kernel_rfl))
      refine WP.loadB (v := .int .i64 x2) hB2 (by kernel_rfl) (by kernel_rfl) ?_
      refine WP.done (by kernel_rfl) (Shown.ok (v := .int .i64 x2) (by kernel_rfl) (Step.refl _ _) ?_)
      exact ⟨trivial, trivial, trivial, trivial, trivial, trivial, rfl, trivial, trivial, trivial⟩
    · intro vs gq stq hl hf
      replace hl : vs.length = 7 := hl
      obtain ⟨v0, vs0, rfl, hl0⟩ := len_succ hl
      obtain ⟨v1, vs1, rfl, hl1⟩ := len_succ hl0
      obtain ⟨v2, vs2, rfl, hl2⟩ := len_succ hl1
      obtain ⟨v3, vs3, rfl, hl3⟩ := len_succ hl2
      obtain ⟨v4, vs4, rfl, hl4⟩ := len_succ hl3
      obtain ⟨v5, vs5, rfl, hl5⟩ := len_succ hl4
      obtain ⟨v6, vs6, rfl, hl6⟩ := len_succ hl5
      obtain rfl := len_zero hl6
      have hB4 := (show Box gq (t + 5) b4 26 [encA .u8 d4, [.int .i64 x5], encA .i64 d5, [.slice a2 n2 c2]] [8, 1, 2, 1] from hf _ (List.mem_of_getElem? (i := 1) rfl) (by kernel_rfl))
      have e0 := (show v0 = .int .i64 x3 from hf _ (List.mem_of_getElem? (i := 2) rfl) (by kernel_rfl))
      subst e0
      refine WP.ixBox (t := 23) (e := 3) (m := 2) (size := 1) (b := b4) (off := 9) (k := .i64) (i := x3) (by kernel_rfl) (by kernel_rfl) hc3 ?_
      refine WP.done (by kernel_rfl) (Shown.ok (v := .pointer (some ⟨b4, 9 + x3.toNat * 1, none⟩)) (by kernel_rfl) (Step.refl _ _) ?_)
      exact ⟨trivial, trivial, trivial, trivial, trivial, trivial, trivial, rfl, trivial, trivial⟩
    · intro vs gq stq hl hf
      replace hl : vs.length = 7 := hl
      obtain ⟨v0, vs0, rfl, hl0⟩ := len_succ hl
      obtain ⟨v1, vs1, rfl, hl1⟩ := len_succ hl0
      obtain ⟨v2, vs2, rfl, hl2⟩ := len_succ hl1
      obtain ⟨v3, vs3, rfl, hl3⟩ := len_succ hl2
      obtain ⟨v4, vs4, rfl, hl4⟩ := len_succ hl3
      obtain ⟨v5, vs5, rfl, hl5⟩ := len_succ hl4
      obtain ⟨v6, vs6, rfl, hl6⟩ := len_succ hl5
      obtain rfl := len_zero hl6
      have hB4 := (show Box gq (t + 5) b4 26 [encA .u8 d4, [.int .i64 x5], encA .i64 d5, [.slice a2 n2 c2]] [8, 1, 2, 1] from hf _ (List.mem_of_getElem? (i := 1) rfl) (by kernel_rfl))
      have e3 := (show v3 = .int .i64 (aget d5 x3) from hf _ (List.mem_of_getElem? (i := 5) rfl) (by kernel_rfl))
      subst e3
      have e4 := (show v4 = .int .i64 x2 from hf _ (List.mem_of_getElem? (i := 6) rfl) (by kernel_rfl))
      subst e4
      have e5 := (show v5 = .pointer (some ⟨b4, 9 + x3.toNat * 1, none⟩) from hf _ (List.mem_of_getElem? (i := 7) rfl) (by kernel_rfl))
      subst e5
      refine WP.storeE (ty := 3) (o := 9) (m := 2) (k := .i64) (d := d5) (i := x3) (x := (IntKind.i64.wrap ((aget d5 x3) - x2))) hB4 (by kernel_rfl) hc3 (by kernel_rfl) (by kernel_rfl) [encA .u8 d4, [.int .i64 x5], encA .i64 (aset d5 x3 (IntKind.i64.wrap ((aget d5 x3) - x2))), [.slice a2 n2 c2]] (by kernel_rfl) ?_
      intro g17 st17 hB12
      refine WP.done (by kernel_rfl) (Shown.ok (v := undef) (by kernel_rfl) st17 ?_)
      exact ⟨trivial, trivial, trivial, trivial, trivial, trivial, trivial, trivial, hB12, trivial⟩
  intro vs g18 st18 hl hf
  replace hl : vs.length = 7 := hl
  obtain ⟨v0, vs0, rfl, hl0⟩ := len_succ hl
  obtain ⟨v1, vs1, rfl, hl1⟩ := len_succ hl0
  obtain ⟨v2, vs2, rfl, hl2⟩ := len_succ hl1
  obtain ⟨v3, vs3, rfl, hl3⟩ := len_succ hl2
  obtain ⟨v4, vs4, rfl, hl4⟩ := len_succ hl3
  obtain ⟨v5, vs5, rfl, hl5⟩ := len_succ hl4
  obtain ⟨v6, vs6, rfl, hl6⟩ := len_succ hl5
  obtain rfl := len_zero hl6
  have hB4 := (show Box g18 (t + 5) b4 26 [encA .u8 d4, [.int .i64 x5], encA .i64 (aset d5 x3 (IntKind.i64.wrap ((aget d5 x3) - x2))), [.slice a2 n2 c2]] [8, 1, 2, 1] from hf _ (List.mem_of_getElem? (i := 8) rfl) (by kernel_rfl))
  replace hB2 := hB2.mono st18 (WL.no1 (by omega))
  replace hB3 := hB3.mono st18 (WL.no1 (by omega))
  replace hR2 := hR2.mono st18 (WL.no1 (by omega)) (WL.no1 (by omega))
  replace tot := tot.trans (st18.up1 (.inr (by omega)))
  refine NX.then_n ?_
  refine CP.refr 76 [(3, .pointer (some ⟨b2, 0, none⟩)), (4, .pointer (some ⟨b3, 0, none⟩)), (6, .pointer (some ⟨b4, 0, none⟩))] (by kernel_rfl) (by kernel_rfl) ?_
  clear ds
  intro ds
  refine CP.seqR ?_
  refine WP.still 1 (by kernel_rfl) ?_
  refine WP.loadB (v := .slice a2 n2 c2) hB4 (by kernel_rfl) (by kernel_rfl) ?_
  refine WP.loadB (v := AG [encA .u8 d3, [.int .i64 x2], [.int .i64 x3], [.int .i64 x4]]) hB2 (by kernel_rfl) (by kernel_rfl) ?_
  refine WP.mkSl (kd := k_S_baizeref47_Held) (t := 24) (e := 60) (bytes := 32) (t + 6) [AG [encA .u8 d3, [.int .i64 x2], [.int .i64 x3], [.int .i64 x4]]] [(⟨d3, x2, x3, x4⟩ : S_baizeref47_Held)] (by kernel_rfl) (by kernel_rfl) (Nat.le_of_ble_eq_true rfl) (Nat.le_of_ble_eq_true rfl) (all_cons (Kd.len k_S_baizeref47_Held (g := g18) (x := (⟨d3, x2, x3, x4⟩ : S_baizeref47_Held)) (k_S_baizeref47_Held.mk rfl rfl rfl rfl)) all_nil) (⟨_, _, rfl, (k_S_baizeref47_Held.mk rfl rfl rfl rfl), rfl⟩) rfl ?_
  intro g19 a3 st19 hR3
  replace hB2 := hB2.mono st19 (fun x => x)
  replace hB3 := hB3.mono st19 (fun x => x)
  replace hB4 := hB4.mono st19 (fun x => x)
  replace hR2 := hR2.mono st19 (fun x => x) (fun x => x)
  replace tot := tot.trans st19.pure
  by_cases hc4 : l2.length + ([(⟨d3, x2, x3, x4⟩ : S_baizeref47_Held)]).length ≤ 4398046511104
  case neg => rw [if_neg hc4] at hs; cases hs
  replace hs := of_if_p hs hc4
  refine WP.append (kd := k_S_baizeref47_Held) (t := 24) (e := 60) (bytes := 32) (a2 := a3) (c2 := 1) hR2 hR3.src hR3.len (by kernel_rfl) (by kernel_rfl) (by omega) (by simp only [maxLen]; omega) (by omega) ?_
  intro g20 a4 c3 st20 hR4
  replace hB2 := hB2.mono st20 (WL.no1 (by omega))
  replace hB3 := hB3.mono st20 (WL.no1 (by omega))
  replace hB4 := hB4.mono st20 (WL.no1 (by omega))
  replace hR3 := hR3.mono st20 (WL.no1 (by omega)) (WL.no1 (by omega))
  replace tot := tot.trans (st20.up1 (.inr (by omega)))
  refine WP.still 1 (by kernel_rfl) ?_
  refine WP.storeB (ty := 24) (off := 11) (v := .slice a4 (n2 + 1) c3) hB4 [[.slice a4 (n2 + 1) c3]] [1] (by kernel_rfl) (by kernel_rfl) rfl (by kernel_rfl) [encA .u8 d4, [.int .i64 x5], encA .i64 (aset d5 x3 (IntKind.i64.wrap ((aget d5 x3) - x2))), [.slice a4 (n2 + 1) c3]] (by kernel_rfl) (.one rfl .nil) ?_
  intro g21 st21 hB13
  replace hB2 := hB2.mono st21 (WL.no1 (by omega))
  replace hB3 := hB3.mono st21 (WL.no1 (by omega))
  replace hR4 := hR4.mono st21 (WL.no1 (by omega)) (WL.no1 (by omega))
  replace hR3 := hR3.mono st21 (WL.no1 (by omega)) (WL.no1 (by omega))
  replace tot := tot.trans (st21.up1 (.inr (by omega)))
  clear hB4
  have hB4 := hB13
  clear hB13
  refine WP.done (by kernel_rfl) ?_
  refine NX.then_n ?_
  refine CP.seqR ?_
  refine WP.loadB (v := AG [encA .u8 d4, [.int .i64 x5], encA .i64 (aset d5 x3 (IntKind.i64.wrap ((aget d5 x3) - x2))), [.slice a4 (n2 + 1) c3]]) hB4 (by kernel_rfl) (by kernel_rfl) ?_
  refine WP.storeB (ty := 26) (off := 0) (v := AG [encA .u8 d4, [.int .i64 x5], encA .i64 (aset d5 x3 (IntKind.i64.wrap ((aget d5 x3) - x2))), [.slice a4 (n2 + 1) c3]]) hB3 [encA .u8 d4, [.int .i64 x5], encA .i64 (aset d5 x3 (IntKind.i64.wrap ((aget d5 x3) - x2))), [.slice a4 (n2 + 1) c3]] [8, 1, 2, 1] (by kernel_rfl) (by kernel_rfl) (by simp [len_encA]) (by kernel_rfl) [encA .u8 d4, [.int .i64 x5], encA .i64 (aset d5 x3 (IntKind.i64.wrap ((aget d5 x3) - x2))), [.slice a4 (n2 + 1) c3]] (by kernel_rfl) (.arr (.one rfl (.arr (.one rfl .nil)))) ?_
  intro g22 st22 hB14
  replace hR4 := hR4.mono st22 (WL.no1 (by omega)) (WL.no1 (by omega))
  replace hB4 := hB4.mono st22 (WL.no1 (by omega))
  replace tot := tot.trans (st22.up1 (.inr (by omega)))
  clear hB3
  have hB3 := hB14
  clear hB14
  refine WP.still 1 (by kernel_rfl) ?_
  refine WP.done (by kernel_rfl) ?_
  refine NX.then_n ?_
  refine CP.ret ?_
  obtain ⟨g23, hw1, st23, hnew⟩ := hR4.relab (by omega) r0
  refine NX.regw hw1 ?_
  replace hB3 := hB3.mono st23 (WL.no1 (by omega))
  replace tot := tot.trans (st23.up1 (.inr (by omega)))
  clear hR4
  have hR4 := hnew
  clear hnew
  replace hs := Option.some.inj hs
  simp only [Prod.mk.injEq] at hs
  obtain ⟨rfl, rfl, rfl, rfl, rfl⟩ := hs
  exact NX.fin (v := .tuple #[AG [encA .u8 d4, [.int .i64 x5], encA .i64 (aset d5 x3 (IntKind.i64.wrap ((aget d5 x3) - x2))), [.slice a4 (n2 + 1) c3]], .int .i64 0]) (Res.two rfl (RV.box (agg := true) (size := 12) (rs := [encA .u8 d4, [.int .i64 x5], encA .i64 (aset d5 x3 (IntKind.i64.wrap ((aget d5 x3) - x2))), [.slice a4 (n2 + 1) c3]]) hB3 (by kernel_rfl) (by kernel_rfl) (by kernel_rfl) (by kernel_rfl)) (RV.tmp (by kernel_rfl))) tot htL ⟨a4, (n2 + 1), c3, rfl, hR4⟩
def N.baizeref47_Free_0 : List (List Nat) := [[], [0], [0, 1], [], [3], [3, 4], [], [3, 4, 5, 6], [3, 4, 5, 6, 7], [], [3, 4, 5, 6, 7, 8, 9], [], [0, 1, 2, 3, 4, 5, 6, 7, 8, 9, 10, 11], [0, 1, 2, 3, 4, 5, 6, 7, 8, 9, 10, 11, 12]]
def N.baizeref47_Free_1 : List (List Nat) := [[], [0], [], [2], [], [2, 3, 4], [2, 3, 4, 5], [], [7], [2, 3, 4, 5, 6, 7, 8], [], [2, 3, 4, 5, 6, 7, 8, 9, 10], [], [0, 1, 2, 3, 4, 5, 6, 7, 8, 9, 10, 11, 12], [0, 1, 2, 3, 4, 5, 6, 7, 8, 9, 10, 11, 12, 13]]
def N.baizeref47_Free_2 : List (List Nat) := [[], [], [1], [], [1, 2, 3], [0, 1, 2, 3, 4], [], [6], [], [8], [6, 7, 8, 9], [0, 1, 2, 3, 4, 5, 6, 7, 8, 9, 10], [0, 1, 2, 3, 4, 5, 6, 7, 8, 9, 10, 11], [0, 1, 2, 3, 4, 5, 6, 7, 8, 9, 10, 11, 12]]
def F.baizeref47_Free.c1 (l1 : List S_baizeref47_Held) (x2 : Int) (d4 : Arr Int 8) (x3 : Int) (d5 : Arr Int 2) (x5 : Int) (q1 : Bool) : Option ((Arr Int 8) × Int × (Arr Int 2) × (List S_baizeref47_Held) × Int) := (if q1 = true then (some ((zA 8), 0, (zA 2), [], 2)) else (if (0 : Int) ≤ (IntKind.i64.wrap (1 - ((getI l1 x5).f3))) ∧ (IntKind.i64.wrap (1 - ((getI l1 x5).f3))) < (2 : Int) then (if (0 : Int) ≤ (IntKind.i64.wrap (1 - ((getI l1 x5).f3))) ∧ (IntKind.i64.wrap (1 - ((getI l1 x5).f3))) < (2 : Int) then (if (0 : Int) ≤ (getI l1 x5).f3 ∧ (getI l1 x5).f3 < (2 : Int) then (if (0 : Int) ≤ (getI l1 x5).f3 ∧ (getI l1 x5).f3 < (2 : Int) then (if (0 : Int) ≤ 0 ∧ 0 ≤ x5 ∧ x5 ≤ (l1.length : Int) then (if ([] : List S_baizeref47_Held).length + (sliceI l1 0 x5).length ≤ 4398046511104 then (if (0 : Int) ≤ (IntKind.i64.wrap (x5 + 1)) ∧ (IntKind.i64.wrap (x5 + 1)) ≤ (l1.length : Int) ∧ (l1.length : Int) ≤ (l1.length : Int) then (if (([] : List S_baizeref47_Held) ++ (sliceI l1 0 x5)).length + (sliceI l1 (IntKind.i64.wrap (x5 + 1)) (l1.length : Int)).length ≤ 4398046511104 then (some (d4, x3, (aset (aset d5 (IntKind.i64.wrap (1 - ((getI l1 x5).f3))) (IntKind.i64.wrap ((aget d5 (IntKind.i64.wrap (1 - ((getI l1 x5).f3)))) + x2))) ((getI l1 x5).f3) (IntKind.i64.wrap ((IntKind.i64.wrap ((aget (aset d5 (IntKind.i64.wrap (1 - ((getI l1 x5).f3))) (IntKind.i64.wrap ((aget d5 (IntKind.i64.wrap (1 - ((getI l1 x5).f3)))) + x2))) ((getI l1 x5).f3)) + ((getI l1 x5).f2))) - x2))), ((([] : List S_baizeref47_Held) ++ (sliceI l1 0 x5)) ++ (sliceI l1 (IntKind.i64.wrap (x5 + 1)) (l1.length : Int))), 0)) else none) else none) else none) else none) else none) else none) else none) else none))
def F.baizeref47_Free (d1 : Arr Int 8) (x1 : Int) (d2 : Arr Int 2) (l1 : List S_baizeref47_Held) (d3 : Arr Int 8) (x2 : Int) : Option ((Arr Int 8) × Int × (Arr Int 2) × (List S_baizeref47_Held) × Int) := ((F.baizeref47_next d1 x1 d2 l1).bind fun (d4, x3, d5, l2, x4) => (if (x4 != 0) = true then (some ((zA 8), 0, (zA 2), [], x4)) else ((F.baizeref47_Place d1 x1 d2 l1 d3).bind fun x5 => (if decide (x5 < 0) = true then (some ((zA 8), 0, (zA 2), [], 9)) else (if (0 : Int) ≤ x5 ∧ x5 < (l1.length : Int) then (if decide (x2 < 0) = true then (F.baizeref47_Free.c1 l1 x2 d4 x3 d5 x5 true) else (F.baizeref47_Free.c1 l1 x2 d4 x3 d5 x5 (decide (x2 > (getI l1 x5).f2)))) else none)))))
theorem P.baizeref47_Free (g0 : GW) (r0 : Nat) (d1 : Arr Int 8) (x1 : Int) (d2 : Arr Int 2) (l1 : List S_baizeref47_Held) (d3 : Arr Int 8) (x2 : Int) (a1 : Option Addr) (n1 : Nat) (c1 : Nat) (hR1 : RdS k_S_baizeref47_Held g0 60 a1 n1 c1 l1) (o1 : Arr Int 8) (o2 : Int) (o3 : Arr Int 2) (o4 : List S_baizeref47_Held) (o5 : Int) (hs : F.baizeref47_Free d1 x1 d2 l1 d3 x2 = some (o1, o2, o3, o4, o5)) :
    Calls Try.prog 45 #[AG [encA .u8 d1, [.int .i64 x1], encA .i64 d2, [.slice a1 n1 c1]], AG [encA .u8 d3], .int .i64 x2] g0.w (Ret NoM g0 fun v g => ∃ (a_1 : Option Addr) (n_1 : Nat) (c_1 : Nat), v = .tuple #[AG [encA .u8 o1, [.int .i64 o2], encA .i64 o3, [.slice a_1 n_1 c_1]], .int .i64 o5] ∧ OwnS k_S_baizeref47_Held g r0 60 a_1 n_1 c_1 o4) := by
  refine calls_of (args := [AG [encA .u8 d1, [.int .i64 x1], encA .i64 d2, [.slice a1 n1 c1]], AG [encA .u8 d3], .int .i64 x2]) Try.func45 rfl (r0 + 0) ?_
  intro t ht htL
  refine ⟨_, rfl, ?_⟩
  refine CP.refr 82 [(0, AG [encA .u8 d1, [.int .i64 x1], encA .i64 d2, [.slice a1 n1 c1]]), (1, AG [encA .u8 d3]), (2, .int .i64 x2)] (by kernel_rfl) (by kernel_rfl) ?_
  intro ds
  have tot : Step (fun l => NoM l ∨ t ≤ l) g0 g0 := Step.refl _ _
  unfold F.baizeref47_Free at hs
  refine CP.seqR ?_
  refine WP.alloc (T := 26) (t + 1) [encA .u8 d1, [.int .i64 x1], encA .i64 d2, [.slice a1 n1 c1]] [8, 1, 2, 1] (by kernel_rfl) (by simp [len_encA]) ?_
  intro g1 b1 st1 hB1
  replace hR1 := hR1.mono st1 (fun x => x)
  replace tot := tot.trans st1.pure
  refine WP.alloc (T := 22) (t + 2) [encA .u8 d3] [8] (by kernel_rfl) (by simp [len_encA]) ?_
  intro g2 b2 st2 hB2
  replace hR1 := hR1.mono st2 (fun x => x)
  replace hB1 := hB1.mono st2 (fun x => x)
  replace tot := tot.trans st2.pure
  refine WP.alloc (T := 26) (t + 3) [encA .u8 (zA 8), [.int .i64 0], encA .i64 (zA 2), [.slice none 0 0]] [8, 1, 2, 1] (by kernel_rfl) (by simp [len_encA]) ?_
  intro g3 b3 st3 hB3
  replace hR1 := hR1.mono st3 (fun x => x)
  replace hB1 := hB1.mono st3 (fun x => x)
  replace hB2 := hB2.mono st3 (fun x => x)
  replace tot := tot.trans st3.pure
  refine WP.still 1 (by kernel_rfl) ?_
  refine WP.done (by kernel_rfl) ?_
  refine NX.then_n ?_
  refine CP.seqR ?_
  refine WP.loadB (v := AG [encA .u8 d1, [.int .i64 x1], encA .i64 d2, [.slice a1 n1 c1]]) hB1 (by kernel_rfl) (by kernel_rfl) ?_
  replace hs := Option.bind_eq_some_iff.1 hs
  obtain ⟨⟨d4, x3, d5, l2, x4⟩, hk1, hs⟩ := hs
  dsimp only at hs
  have hcal1 := P.baizeref47_next g3 (t + 4) d1 x1 d2 l1 a1 n1 c1 hR1 d4 x3 d5 l2 x4 hk1
  refine WP.callC hcal1 (by kernel_rfl) ?_
  rintro _ g4 st4 ⟨a2, n2, c2, rfl, hR2⟩
  replace hB1 := hB1.mono st4 (fun x => x)
  replace hR1 := hR1.mono st4 (fun x => x)
  replace hB2 := hB2.mono st4 (fun x => x)
  replace hB3 := hB3.mono st4 (fun x => x)
  replace tot := tot.trans st4.pure
  refine WP.still 3 (by kernel_rfl) ?_
  refine WP.alloc (T := 26) (t + 5) [encA .u8 (zA 8), [.int .i64 0], encA .i64 (zA 2), [.slice none 0 0]] [8, 1, 2, 1] (by kernel_rfl) (by simp [len_encA]) ?_
  intro g5 b4 st5 hB4
  replace hB1 := hB1.mono st5 (fun x => x)
  replace hR1 := hR1.mono st5 (fun x => x)
  replace hB2 := hB2.mono st5 (fun x => x)
  replace hB3 := hB3.mono st5 (fun x => x)
  replace hR2 := hR2.mono st5 (fun x => x) (fun x => x)
  replace tot := tot.trans st5.pure
  refine WP.storeB (ty := 26) (off := 0) (v := AG [encA .u8 d4, [.int .i64 x3], encA .i64 d5, [.slice a2 n2 c2]]) hB4 [encA .u8 d4, [.int .i64 x3], encA .i64 d5, [.slice a2 n2 c2]] [8, 1, 2, 1] (by kernel_rfl) (by kernel_rfl) (by simp [len_encA]) (by kernel_rfl) [encA .u8 d4, [.int .i64 x3], encA .i64 d5, [.slice a2 n2 c2]] (by kernel_rfl) (.arr (.one rfl (.arr (.one rfl .nil)))) ?_
  intro g6 st6 hB5
  replace hB1 := hB1.mono st6 (WL.no1 (by omega))
  replace hR1 := hR1.mono st6 (WL.no1 (by omega))
  replace hB2 := hB2.mono st6 (WL.no1 (by omega))
  replace hB3 := hB3.mono st6 (WL.no1 (by omega))
  replace hR2 := hR2.mono st6 (WL.no1 (by omega)) (WL.no1 (by omega))
  replace tot := tot.trans (st6.up1 (.inr (by omega)))
  clear hB4
  have hB4 := hB5
  clear hB5
  refine WP.still 1 (by kernel_rfl) ?_
  refine WP.done (by kernel_rfl) ?_
  refine NX.then_n ?_
  refine CP.seq ?_
  refine CP.seqR ?_
  refine WP.still 2 (by kernel_rfl) ?_
  refine WP.done (by kernel_rfl) ?_
  refine NX.then_n ?_
  refine CP.refr 82 [(2, .int .i64 x2), (3, .pointer (some ⟨b1, 0, none⟩)), (4, .pointer (some ⟨b2, 0, none⟩)), (6, .pointer (some ⟨b3, 0, none⟩)), (8, .pointer (some ⟨b4, 0, none⟩)), (9, .int .i64 x4), (18, .bool (x4 != 0))] (by kernel_rfl) (by kernel_rfl) ?_
  clear ds
  intro ds
  refine CP.cond (b := (x4 != 0)) (by kernel_rfl) (fun h1 => ?_) (fun h1 => ?_)
  · replace hs := of_if_t hs h1
    refine CP.seqR ?_
    refine WP.buildS (places := #[(0, 8), (8, 1), (9, 2), (11, 1)]) (t := 26) [encA .u8 (zA 8), [.int .i64 0], encA .i64 (zA 2), [.slice none 0 0]] [8, 1, 2, 1] (by kernel_rfl) (by kernel_rfl) (by simp [len_encA]) (by kernel_rfl) (.nil) ?_
    refine WP.still 1 (by kernel_rfl) ?_
    refine WP.storeB (ty := 26) (off := 0) (v := AG [encA .u8 (zA 8), [.int .i64 0], encA .i64 (zA 2), [.slice none 0 0]]) hB3 [encA .u8 (zA 8), [.int .i64 0], encA .i64 (zA 2), [.slice none 0 0]] [8, 1, 2, 1] (by kernel_rfl) (by kernel_rfl) (by simp [len_encA]) (by kernel_rfl) [encA .u8 (zA 8), [.int .i64 0], encA .i64 (zA 2), [.slice none 0 0]] (by kernel_rfl) (.arr (.one rfl (.arr (.one rfl .nil)))) ?_
    intro g7 st7 hB6
    replace hB1 := hB1.mono st7 (WL.no1 (by omega))
    replace hR1 := hR1.mono st7 (WL.no1 (by omega))
    replace hB2 := hB2.mono st7 (WL.no1 (by omega))
    replace hB4 := hB4.mono st7 (WL.no1 (by omega))
    replace hR2 := hR2.mono st7 (WL.no1 (by omega)) (WL.no1 (by omega))
    replace tot := tot.trans (st7.up1 (.inr (by omega)))
    clear hB3
    have hB3 := hB6
    clear hB6
    refine WP.still 1 (by kernel_rfl) ?_
    refine WP.done (by kernel_rfl) ?_
    refine NX.then_n ?_
    refine CP.ret ?_
    refine NX.then_r ?_
    replace hs := Option.some.inj hs
    simp only [Prod.mk.injEq] at hs
    obtain ⟨rfl, rfl, rfl, rfl, rfl⟩ := hs
    exact NX.fin (v := .tuple #[AG [encA .u8 (zA 8), [.int .i64 0], encA .i64 (zA 2), [.slice none 0 0]], .int .i64 x4]) (Res.two rfl (RV.box (agg := true) (size := 12) (rs := [encA .u8 (zA 8), [.int .i64 0], encA .i64 (zA 2), [.slice none 0 0]]) hB3 (by kernel_rfl) (by kernel_rfl) (by kernel_rfl) (by kernel_rfl)) (RV.tmp (by kernel_rfl))) tot htL ⟨none, 0, 0, rfl, (OwnS.nil _ _ _ _)⟩
  replace hs := of_if_f hs h1
  refine CP.skip ?_
  refine NX.then_n ?_
  refine CP.seqR ?_
  refine WP.loadB (v := AG [encA .u8 d1, [.int .i64 x1], encA .i64 d2, [.slice a1 n1 c1]]) hB1 (by kernel_rfl) (by kernel_rfl) ?_
  refine WP.loadB (v := AG [encA .u8 d3]) hB2 (by kernel_rfl) (by kernel_rfl) ?_
  replace hs := Option.bind_eq_some_iff.1 hs
  obtain ⟨x5, hk2, hs⟩ := hs
  have hcal2 := P.baizeref47_Place g6 d1 x1 d2 l1 d3 a1 n1 c1 hR1 x5 hk2
  refine WP.callC hcal2 (by kernel_rfl) ?_
  rintro _ g8 st8 rfl
  replace hB1 := hB1.mono st8 (fun x => x)
  replace hR1 := hR1.mono st8 (fun x => x)
  replace hB2 := hB2.mono st8 (fun x => x)
  replace hB3 := hB3.mono st8 (fun x => x)
  replace hB4 := hB4.mono st8 (fun x => x)
  replace hR2 := hR2.mono st8 (fun x => x) (fun x => x)
  replace tot := tot.trans st8.pure
  refine WP.still 1 (by kernel_rfl) ?_
  refine WP.done (by kernel_rfl) ?_
  refine NX.then_n ?_
  refine CP.seq ?_
  refine CP.seqR ?_
  refine WP.still 2 (by kernel_rfl) ?_
  refine WP.done (by kernel_rfl) ?_
  refine NX.then_n ?_
  refine CP.cond (b := decide (x5 < 0)) (by kernel_rfl) (fun h2 => ?_) (fun h2 => ?_)
  · replace hs := of_if_t hs h2
    refine CP.seqR ?_
    refine WP.buildS (places := #[(0, 8), (8, 1), (9, 2), (11, 1)]) (t := 26) [encA .u8 (zA 8), [.int .i64 0], encA .i64 (zA 2), [.slice none 0 0]] [8, 1, 2, 1] (by kernel_rfl) (by kernel_rfl) (by simp [len_encA]) (by kernel_rfl) (.nil) ?_
    refine WP.storeB (ty := 26) (off := 0) (v := AG [encA .u8 (zA 8), [.int .i64 0], encA .i64 (zA 2), [.slice none 0 0]]) hB3 [encA .u8 (zA 8), [.int .i64 0], encA .i64 (zA 2), [.slice none 0 0]] [8, 1, 2, 1] (by kernel_rfl) (by kernel_rfl) (by simp [len_encA]) (by kernel_rfl) [encA .u8 (zA 8), [.int .i64 0], encA .i64 (zA 2), [.slice none 0 0]] (by kernel_rfl) (.arr (.one rfl (.arr (.one rfl .nil)))) ?_
    intro g9 st9 hB7
    replace hB1 := hB1.mono st9 (WL.no1 (by omega))
    replace hR1 := hR1.mono st9 (WL.no1 (by omega))
    replace hB4 := hB4.mono st9 (WL.no1 (by omega))
    replace hR2 := hR2.mono st9 (WL.no1 (by omega)) (WL.no1 (by omega))
    replace tot := tot.trans (st9.up1 (.inr (by omega)))
    clear hB3
    have hB3 := hB7
    clear hB7
    refine WP.still 1 (by kernel_rfl) ?_
    refine WP.done (by kernel_rfl) ?_
    refine NX.then_n ?_
    refine CP.ret ?_
    refine NX.then_r ?_
    replace hs := Option.some.inj hs
    simp only [Prod.mk.injEq] at hs
    obtain ⟨rfl, rfl, rfl, rfl, rfl⟩ := hs
    exact NX.fin (v := .tuple #[AG [encA .u8 (zA 8), [.int .i64 0], encA .i64 (zA 2), [.slice none 0 0]], .int .i64 9]) (Res.two rfl (RV.box (agg := true) (size := 12) (rs := [encA .u8 (zA 8), [.int .i64 0], encA .i64 (zA 2), [.slice none 0 0]]) hB3 (by kernel_rfl) (by kernel_rfl) (by kernel_rfl) (by kernel_rfl)) (RV.tmp (by kernel_rfl))) tot htL ⟨none, 0, 0, rfl, (OwnS.nil _ _ _ _)⟩
  replace hs := of_if_f hs h2
  refine CP.skip ?_
  refine NX.then_n ?_
  refine CP.seqR ?_
  refine WP.still 1 (by kernel_rfl) ?_
  refine WP.loadB (v := .slice a1 n1 c1) hB1 (by kernel_rfl) (by kernel_rfl) ?_
  refine WP.still 1 (by kernel_rfl) ?_
  by_cases hc1 : (0 : Int) ≤ x5 ∧ x5 < (l1.length : Int)
  case neg => rw [if_neg hc1] at hs; cases hs
  replace hs := of_if_p hs hc1
  obtain ⟨b5, u1, ha1⟩ := hR1.at hc1
  refine WP.indexA (t := 24) (e := 60) (sz := 11) (cap := c1) (k := .i64) (i := x5) hR1.len ha1 (by kernel_rfl) (by kernel_rfl) hc1 ?_
  obtain ⟨cs1, hcR1, hcV1⟩ := hR1.src.view (getI_some hc1) ha1
  replace hcR1 := k_S_baizeref47_Held.opn hcR1
  refine WP.loadV [encA .u8 ((getI l1 x5).f1), [.int .i64 ((getI l1 x5).f2)], [.int .i64 ((getI l1 x5).f3)], [.int .i64 ((getI l1 x5).f4)]] [8, 1, 1, 1] hcV1 hcR1 (by simp [len_encA]) (f := 0) (ty := 60) (agg := true) (size := 11) (rs := [encA .u8 ((getI l1 x5).f1), [.int .i64 ((getI l1 x5).f2)], [.int .i64 ((getI l1 x5).f3)], [.int .i64 ((getI l1 x5).f4)]]) (v := AG [encA .u8 ((getI l1 x5).f1), [.int .i64 ((getI l1 x5).f2)], [.int .i64 ((getI l1 x5).f3)], [.int .i64 ((getI l1 x5).f4)]]) (by kernel_rfl) (by kernel_rfl) (by kernel_rfl) (by kernel_rfl) ?_
  refine WP.alloc (T := 60) (t + 6) [encA .u8 (zA 8), [.int .i64 0], [.int .i64 0], [.int .i64 0]] [8, 1, 1, 1] (by kernel_rfl) (by simp [len_encA]) ?_
  intro g10 b6 st10 hB8
  replace hB1 := hB1.mono st10 (fun x => x)
  replace hR1 := hR1.mono st10 (fun x => x)
  replace hB3 := hB3.mono st10 (fun x => x)
  replace hB4 := hB4.mono st10 (fun x => x)
  replace hR2 := hR2.mono st10 (fun x => x) (fun x => x)
  replace tot := tot.trans st10.pure
  refine WP.storeB (ty := 60) (off := 0) (v := AG [encA .u8 ((getI l1 x5).f1), [.int .i64 ((getI l1 x5).f2)], [.int .i64 ((getI l1 x5).f3)], [.int .i64 ((getI l1 x5).f4)]]) hB8 [encA .u8 ((getI l1 x5).f1), [.int .i64 ((getI l1 x5).f2)], [.int .i64 ((getI l1 x5).f3)], [.int .i64 ((getI l1 x5).f4)]] [8, 1, 1, 1] (by kernel_rfl) (by kernel_rfl) (by simp [len_encA]) (by kernel_rfl) [encA .u8 ((getI l1 x5).f1), [.int .i64 ((getI l1 x5).f2)], [.int .i64 ((getI l1 x5).f3)], [.int .i64 ((getI l1 x5).f4)]] (by kernel_rfl) (.arr (.one rfl (.one rfl (.one rfl .nil)))) ?_
  intro g11 st11 hB9
  replace hB1 := hB1.mono st11 (WL.no1 (by omega))
  replace hR1 := hR1.mono st11 (WL.no1 (by omega))
  replace hB3 := hB3.mono st11 (WL.no1 (by omega))
  replace hB4 := hB4.mono st11 (WL.no1 (by omega))
  replace hR2 := hR2.mono st11 (WL.no1 (by omega)) (WL.no1 (by omega))
  replace tot := tot.trans (st11.up1 (.inr (by omega)))
  clear hB8
  have hB8 := hB9
  clear hB9
  refine WP.done (by kernel_rfl) ?_
  refine NX.then_n ?_
  refine CP.refr 82 [(2, .int .i64 x2), (3, .pointer (some ⟨b1, 0, none⟩)), (6, .pointer (some ⟨b3, 0, none⟩)), (8, .pointer (some ⟨b4, 0, none⟩)), (10, .int .i64 x5), (11, .pointer (some ⟨b6, 0, none⟩))] (by kernel_rfl) (by kernel_rfl) ?_
  clear ds
  intro ds
  refine CP.seq ?_
  refine CP.cut (fun tm g => ∃ (q1 : Bool), Fr 82 [(2, .int .i64 x2), (3, .pointer (some ⟨b1, 0, none⟩)), (6, .pointer (some ⟨b3, 0, none⟩)), (8, .pointer (some ⟨b4, 0, none⟩)), (10, .int .i64 x5), (11, .pointer (some ⟨b6, 0, none⟩)), (39, .bool q1)] tm ∧ Step (fun l => NoM l ∨ t ≤ l) g0 g ∧ Box g (t + 1) b1 26 [encA .u8 d1, [.int .i64 x1], encA .i64 d2, [.slice a1 n1 c1]] [8, 1, 2, 1] ∧ RdS k_S_baizeref47_Held g 60 a1 n1 c1 l1 ∧ Box g (t + 3) b3 26 [encA .u8 (zA 8), [.int .i64 0], encA .i64 (zA 2), [.slice none 0 0]] [8, 1, 2, 1] ∧ Box g (t + 5) b4 26 [encA .u8 d4, [.int .i64 x3], encA .i64 d5, [.slice a2 n2 c2]] [8, 1, 2, 1] ∧ OwnS k_S_baizeref47_Held g (t + 4) 60 a2 n2 c2 l2 ∧ Box g (t + 6) b6 60 [encA .u8 ((getI l1 x5).f1), [.int .i64 ((getI l1 x5).f2)], [.int .i64 ((getI l1 x5).f3)], [.int .i64 ((getI l1 x5).f4)]] [8, 1, 1, 1] ∧ (F.baizeref47_Free.c1 l1 x2 d4 x3 d5 x5 q1) = some (o1, o2, o3, o4, o5)) ?_ ?_
  · refine CP.region ?_
    refine WP.still 3 (by kernel_rfl) ?_
    refine WP.guard 34 (b := decide (x2 < 0)) (by kernel_rfl) (fun h5 => ?_) (fun h5 => ?_)
    · replace hs := of_if_t hs h5
      refine WP.still 5 (by kernel_rfl) ?_
      refine WP.done (by kernel_rfl) ?_
      refine NX.post ?_
      exact ⟨true, ⟨by kernel_rfl, by kernel_rfl⟩, tot, hB1, hR1, hB3, hB4, hR2, hB8, hs⟩
    replace hs := of_if_f hs h5
    refine WP.still 2 (by kernel_rfl) ?_
    refine WP.loadB (v := .int .i64 ((getI l1 x5).f2)) hB8 (by kernel_rfl) (by kernel_rfl) ?_
    refine WP.still 2 (by kernel_rfl) ?_
    refine WP.done (by kernel_rfl) ?_
    refine NX.post ?_
    exact ⟨decide (x2 > (getI l1 x5).f2), ⟨by kernel_rfl, by kernel_rfl⟩, tot, hB1, hR1, hB3, hB4, hR2, hB8, hs⟩
  clear tot hs hB1 hR1 hB3 hB4 hR2 hB8
  rintro tm g ⟨q1, hF, tot, hB1, hR1, hB3, hB4, hR2, hB8, hs⟩
  clear ds
  obtain ⟨ds, rfl⟩ := hF.open
  clear hF
  unfold F.baizeref47_Free.c1 at hs
  refine CP.cond (b := q1) (by kernel_rfl) (fun h4 => ?_) (fun h4 => ?_)
  · replace hs := of_if_t hs h4
    refine CP.seqR ?_
    refine WP.buildS (places := #[(0, 8), (8, 1), (9, 2), (11, 1)]) (t := 26) [encA .u8 (zA 8), [.int .i64 0], encA .i64 (zA 2), [.slice none 0 0]] [8, 1, 2, 1] (by kernel_rfl) (by kernel_rfl) (by simp [len_encA]) (by kernel_rfl) (.nil) ?_
    refine WP.storeB (ty := 26) (off := 0) (v := AG [encA .u8 (zA 8), [.int .i64 0], encA .i64 (zA 2), [.slice none 0 0]]) hB3 [encA .u8 (zA 8), [.int .i64 0], encA .i64 (zA 2), [.slice none 0 0]] [8, 1, 2, 1] (by kernel_rfl) (by kernel_rfl) (by simp [len_encA]) (by kernel_rfl) [encA .u8 (zA 8), [.int .i64 0], encA .i64 (zA 2), [.slice none 0 0]] (by kernel_rfl) (.arr (.one rfl (.arr (.one rfl .nil)))) ?_
    intro g12 st12 hB10
    replace hB1 := hB1.mono st12 (WL.no1 (by omega))
    replace hR1 := hR1.mono st12 (WL.no1 (by omega))
    replace hB4 := hB4.mono st12 (WL.no1 (by omega))
    replace hR2 := hR2.mono st12 (WL.no1 (by omega)) (WL.no1 (by omega))
    replace hB8 := hB8.mono st12 (WL.no1 (by omega))
    replace tot := tot.trans (st12.up1 (.inr (by omega)))
    clear hB3
    have hB3 := hB10
    clear hB10
    refine WP.still 1 (by kernel_rfl) ?_
    refine WP.done (by kernel_rfl) ?_
    refine NX.then_n ?_
    refine CP.ret ?_
    refine NX.then_r ?_
    replace hs := Option.some.inj hs
    simp only [Prod.mk.injEq] at hs
    obtain ⟨rfl, rfl, rfl, rfl, rfl⟩ := hs
    exact NX.fin (v := .tuple #[AG [encA .u8 (zA 8), [.int .i64 0], encA .i64 (zA 2), [.slice none 0 0]], .int .i64 2]) (Res.two rfl (RV.box (agg := true) (size := 12) (rs := [encA .u8 (zA 8), [.int .i64 0], encA .i64 (zA 2), [.slice none 0 0]]) hB3 (by kernel_rfl) (by kernel_rfl) (by kernel_rfl) (by kernel_rfl)) (RV.tmp (by kernel_rfl))) tot htL ⟨none, 0, 0, rfl, (OwnS.nil _ _ _ _)⟩
  replace hs := of_if_f hs h4
  refine CP.skip ?_
  refine NX.then_n ?_
  refine CP.seq ?_
  by_cases hc2 : (0 : Int) ≤ (IntKind.i64.wrap (1 - ((getI l1 x5).f3))) ∧ (IntKind.i64.wrap (1 - ((getI l1 x5).f3))) < (2 : Int)
  case neg => rw [if_neg hc2] at hs; cases hs
  replace hs := of_if_p hs hc2
  by_cases hc3 : (0 : Int) ≤ (IntKind.i64.wrap (1 - ((getI l1 x5).f3))) ∧ (IntKind.i64.wrap (1 - ((getI l1 x5).f3))) < (2 : Int)
  case neg => rw [if_neg hc3] at hs; cases hs
  replace hs := of_if_p hs hc3
  refine CP.drawL (by kernel_rfl) [1, 4, 7, 8, 12, 13] N.baizeref47_Free_0 [⟨none, [0], [], fun l g => Box g (t + 5) b4 26 [encA .u8 d4, [.int .i64 x3], encA .i64 d5, [.slice a2 n2 c2]] [8, 1, 2, 1]⟩, ⟨none, [], [], fun l g => Box g (t + 6) b6 60 [encA .u8 ((getI l1 x5).f1), [.int .i64 ((getI l1 x5).f2)], [.int .i64 ((getI l1 x5).f3)], [.int .i64 ((getI l1 x5).f4)]] [8, 1, 1, 1]⟩, ⟨some 0, [], [0], fun l g => l.getD 0 undef = .int .i64 ((getI l1 x5).f3)⟩, ⟨some 1, [], [1], fun l g => l.getD 0 undef = .int .i64 ((getI l1 x5).f3)⟩, ⟨some 2, [], [2], fun l g => l.getD 0 undef = .pointer (some ⟨b4, 9 + (IntKind.i64.wrap (1 - ((getI l1 x5).f3))).toNat * 1, none⟩)⟩, ⟨some 3, [], [3], fun l g => l.getD 0 undef = .int .i64 (aget d5 (IntKind.i64.wrap (1 - ((getI l1 x5).f3))))⟩, ⟨some 4, [], [4], fun l g => l.getD 0 undef = .pointer (some ⟨b4, 9 + (IntKind.i64.wrap (1 - ((getI l1 x5).f3))).toNat * 1, none⟩)⟩, ⟨some 5, [0], [], fun l g => Box g (t + 5) b4 26 [encA .u8 d4, [.int .i64 x3], encA .i64 (aset d5 (IntKind.i64.wrap (1 - ((getI l1 x5).f3))) (IntKind.i64.wrap ((aget d5 (IntKind.i64.wrap (1 - ((getI l1 x5).f3)))) + x2))), [.slice a2 n2 c2]] [8, 1, 2, 1]⟩] [[], [], [], [], [], [0]] [(t + 5)] [0, 3, 6, 9, 11] [2, 5, 10] (by kernel_rfl) (by simp <;> omega) (by simp) ⟨fun _ _ _ _ st h0 hl hj hB4 => (hB4.mono st (hj 0 (by simp) _ rfl)), fun _ _ _ _ st h0 hl hj hB8 => (hB8.mono st (fun h => absurd (hl _ h) (by simp <;> omega))), fun _ _ _ _ st h0 hl hj e0 => e0, fun _ _ _ _ st h0 hl hj e1 => e1, fun _ _ _ _ st h0 hl hj e2 => e2, fun _ _ _ _ st h0 hl hj e3 => e3, fun _ _ _ _ st h0 hl hj e4 => e4, fun _ _ _ _ st h0 hl hj hB4 => (hB4.mono st (hj 0 (by simp) _ rfl)), trivial⟩ ⟨hB4, hB8, trivial, trivial, trivial, trivial, trivial, trivial, trivial⟩ (by kernel_rfl) (fun vs => by kernel_rfl) ?_ ?_ ?_
  · intro j hj
    have hq : j = 0 ∨ j = 1 ∨ j = 2 := by have h : j < 3 := hj; omega
    rcases hq with rfl | rfl | rfl
    · intro vs gq stq hl hf
      replace hl : vs.length = 6 := hl
      obtain ⟨v0, vs0, rfl, hl0⟩ := len_succ hl
      obtain ⟨v1, vs1, rfl, hl1⟩ := len_succ hl0
      obtain ⟨v2, vs2, rfl, hl2⟩ := len_succ hl1
      obtain ⟨v3, vs3, rfl, hl3⟩ := len_succ hl2
      obtain ⟨v4, vs4, rfl, hl4⟩ := len_succ hl3
      obtain ⟨v5, vs5, rfl, hl5⟩ := len_succ hl4
      obtain rfl := len_zero hl5
      have e0 := (show v0 = .int .i64 ((getI l1 x5).f3) from hf _ (List.mem_of_getElem? (i := 2) rfl) (by kernel_rfl))
      subst e0
      show Option.isSome _ = true
      kernel_rfl
    · intro vs gq stq hl hf
      replace hl : vs.length = 6 := hl
      obtain ⟨v0, vs0, rfl, hl0⟩ := len_succ hl
      obtain ⟨v1, vs1, rfl, hl1⟩ := len_succ hl0
      obtain ⟨v2, vs2, rfl, hl2⟩ := len_succ hl1
      obtain ⟨v3, vs3, rfl, hl3⟩ := len_succ hl2
      obtain ⟨v4, vs4, rfl, hl4⟩ := len_succ hl3
      obtain ⟨v5, vs5, rfl, hl5⟩ := len_succ hl4
      obtain rfl := len_zero hl5
      have e1 := (show v1 = .int .i64 ((getI l1 x5).f3) from hf _ (List.mem_of_getElem? (i := 3) rfl) (by kernel_rfl))
      subst e1
      show Option.isSome _ = true
      kernel_rfl
    · intro vs gq stq hl hf
      replace hl : vs.length = 6 := hl
      obtain ⟨v0, vs0, rfl, hl0⟩ := len_succ hl
      obtain ⟨v1, vs1, rfl, hl1⟩ := len_succ hl0
      obtain ⟨v2, vs2, rfl, hl2⟩ := len_succ hl1
      obtain ⟨v3, vs3, rfl, hl3⟩ := len_succ hl2
      obtain ⟨v4, vs4, rfl, hl4⟩ := len_succ hl3
      obtain ⟨v5, vs5, rfl, hl5⟩ := len_succ hl4
      obtain rfl := len_zero hl5
      have e3 := (show v3 = .int .i64 (aget d5 (IntKind.i64.wrap (1 - ((getI l1 x5).f3)))) from hf _ (List.mem_of_getElem? (i := 5) rfl) (by kernel_rfl))
      subst e3
      show Option.isSome _ = true
      kernel_rfl
  · intro j hj
    have hq : j = 0 ∨ j = 1 ∨ j = 2 ∨ j = 3 ∨ j = 4 ∨ j = 5 := by have h : j < 6 := hj; omega
    rcases hq with rfl | rfl | rfl | rfl | rfl | rfl
    · intro vs gq stq hl hf
      replace hl : vs.length = 6 := hl
      obtain ⟨v0, vs0, rfl, hl0⟩ := len_succ hl
      obtain ⟨v1, vs1, rfl, hl1⟩ := len_succ hl0
      obtain ⟨v2, vs2, rfl, hl2⟩ := len_succ hl1
      obtain ⟨v3, vs3, rfl, hl3⟩ := len_succ hl2
      obtain ⟨v4, vs4, rfl, hl4⟩ := len_succ hl3
      obtain ⟨v5, vs5, rfl, hl5⟩ := len_succ hl4
      obtain rfl := len_zero hl5
      have hB8 := (show Box gq (t + 6) b6 60 [encA .u8 ((getI l1 x5).f1), [.int .i64 ((getI l1 x5).f2)], [.int .i64 ((getI l1 x5).f3)], [.int .i64 ((getI l1 x5).f4)]] [8, 1, 1, 1] from hf _ (List.mem_of_getElem? (i := 1) rfl) (by kernel_rfl))
      refine WP.loadB (v := .int .i64 ((getI l1 x5).f3)) hB8 (by kernel_rfl) (by kernel_rfl) ?_
      refine WP.done (by kernel_rfl) (Shown.ok (v := .int .i64 ((getI l1 x5).f3)) (by kernel_rfl) (Step.refl _ _) ?_)
      exact ⟨trivial, trivial, rfl, trivial, trivial, trivial, trivial, trivial, trivial⟩
    · intro vs gq stq hl hf
      replace hl : vs.length = 6 := hl
      obtain ⟨v0, vs0, rfl, hl0⟩ := len_succ hl
      obtain ⟨v1, vs1, rfl, hl1⟩ := len_succ hl0
      obtain ⟨v2, vs2, rfl, hl2⟩ := len_succ hl1
      obtain ⟨v3, vs3, rfl, hl3⟩ := len_succ hl2
      obtain ⟨v4, vs4, rfl, hl4⟩ := len_succ hl3
      obtain ⟨v5, vs5, rfl, hl5⟩ := len_succ hl4
      obtain rfl := len_zero hl5
      have hB8 := (show Box gq (t + 6) b6 60 [encA .u8 ((getI l1 x5).f1), [.int .i64 ((getI l1 x5).f2)], [.int .i64 ((getI l1 x5).f3)], [.int .i64 ((getI l1 x5).f4)]] [8, 1, 1, 1] from hf _ (List.mem_of_getElem? (i := 1) rfl) (by kernel_rfl))
      refine WP.loadB (v := .int .i64 ((getI l1 x5).f3)) hB8 (by kernel_rfl) (by kernel_rfl) ?_
      refine WP.done (by kernel_rfl) (Shown.ok (v := .int .i64 ((getI l1 x5).f3)) (by kernel_rfl) (Step.refl _ _) ?_)
      exact ⟨trivial, trivial, trivial, rfl, trivial, trivial, trivial, trivial, trivial⟩
    · intro vs gq stq hl hf
      replace hl : vs.length = 6 := hl
      obtain ⟨v0, vs0, rfl, hl0⟩ := len_succ hl
      obtain ⟨v1, vs1, rfl, hl1⟩ := len_succ hl0
      obtain ⟨v2, vs2, rfl, hl2⟩ := len_succ hl1
      obtain ⟨v3, vs3, rfl, hl3⟩ := len_succ hl2
      obtain ⟨v4, vs4, rfl, hl4⟩ := len_succ hl3
      obtain ⟨v5, vs5, rfl, hl5⟩ := len_succ hl4
      obtain rfl := len_zero hl5
      have hB4 := (show Box gq (t + 5) b4 26 [encA .u8 d4, [.int .i64 x3], encA .i64 d5, [.slice a2 n2 c2]] [8, 1, 2, 1] from hf _ (List.mem_of_getElem? (i := 0) rfl) (by kernel_rfl))
      have e1 := (show v1 = .int .i64 ((getI l1 x5).f3) from hf _ (List.mem_of_getElem? (i := 3) rfl) (by kernel_rfl))
      subst e1
      refine WP.ixBox (t := 23) (e := 3) (m := 2) (size := 1) (b := b4) (off := 9) (k := .i64) (i := (IntKind.i64.wrap (1 - ((getI l1 x5).f3)))) (by kernel_rfl) (by kernel_rfl) hc2 ?_
      refine WP.done (by kernel_rfl) (Shown.ok (v := .pointer (some ⟨b4, 9 + (IntKind.i64.wrap (1 - ((getI l1 x5).f3))).toNat * 1, none⟩)) (by kernel_rfl) (Step.refl _ _) ?_)
      exact ⟨trivial, trivial, trivial, trivial, rfl, trivial, trivial, trivial, trivial⟩
    · intro vs gq stq hl hf
      replace hl : vs.length = 6 := hl
      obtain ⟨v0, vs0, rfl, hl0⟩ := len_succ hl
      obtain ⟨v1, vs1, rfl, hl1⟩ := len_succ hl0
      obtain ⟨v2, vs2, rfl, hl2⟩ := len_succ hl1
      obtain ⟨v3, vs3, rfl, hl3⟩ := len_succ hl2
      obtain ⟨v4, vs4, rfl, hl4⟩ := len_succ hl3
      obtain ⟨v5, vs5, rfl, hl5⟩ := len_succ hl4
      obtain rfl := len_zero hl5
      have hB4 := (show Box gq (t + 5) b4 26 [encA .u8 d4, [.int .i64 x3], encA .i64 d5, [.slice a2 n2 c2]] [8, 1, 2, 1] from hf _ (List.mem_of_getElem? (i := 0) rfl) (by kernel_rfl))
      have e2 := (show v2 = .pointer (some ⟨b4, 9 + (IntKind.i64.wrap (1 - ((getI l1 x5).f3))).toNat * 1, none⟩) from hf _ (List.mem_of_getElem? (i := 4) rfl) (by kernel_rfl))
      subst e2
      refine WP.loadE (ty := 3) (o := 9) (m := 2) (k := .i64) (d := d5) (i := (IntKind.i64.wrap (1 - ((getI l1 x5).f3)))) hB4 (by kernel_rfl) hc2 (by kernel_rfl) (by kernel_rfl) ?_
      refine WP.done (by kernel_rfl) (Shown.ok (v := .int .i64 (aget d5 (IntKind.i64.wrap (1 - ((getI l1 x5).f3))))) (by kernel_rfl) (Step.refl _ _) ?_)
      exact ⟨trivial, trivial, trivial, trivial, trivial, rfl, trivial, trivial, trivial⟩
    · intro vs gq stq hl hf
      replace hl : vs.length = 6 := hl
      obtain ⟨v0, vs0, rfl, hl0⟩ := len_succ hl
      obtain ⟨v1, vs1, rfl, hl1⟩ := len_succ hl0
      obtain ⟨v2, vs2, rfl, hl2⟩ := len_succ hl1
      obtain ⟨v3, vs3, rfl, hl3⟩ := len_succ hl2
      obtain ⟨v4, vs4, rfl, hl4⟩ := len_succ hl3
      obtain ⟨v5, vs5, rfl, hl5⟩ := len_succ hl4
      obtain rfl := len_zero hl5
      have hB4 := (show Box gq (t + 5) b4 26 [encA .u8 d4, [.int .i64 x3], encA .i64 d5, [.slice a2 n2 c2]] [8, 1, 2, 1] from hf _ (List.mem_of_getElem? (i := 0) rfl) (by kernel_rfl))
      have e0 := (show v0 = .int .i64 ((getI l1 x5).f3) from hf _ (List.mem_of_getElem? (i := 2) rfl) (by kernel_rfl))
      subst e0
      refine WP.ixBox (t := 23) (e := 3) (m := 2) (size := 1) (b := b4) (off := 9) (k := .i64) (i := (IntKind.i64.wrap (1 - ((getI l1 x5).f3)))) (by kernel_rfl) (by kernel_rfl) hc3 ?_
      refine WP.done (by kernel_rfl) (Shown.ok (v := .pointer (some ⟨b4, 9 + (IntKind.i64.wrap (1 - ((getI l1 x5).f3))).toNat * 1, none⟩)) (by kernel_rfl) (Step.refl _ _) ?_)
      exact ⟨trivial, trivial, trivial, trivial, trivial, trivial, rfl, trivial, trivial⟩
    · intro vs gq stq hl hf
      replace hl : vs.length = 6 := hl
      obtain ⟨v0, vs0, rfl, hl0⟩ := len_succ hl
      obtain ⟨v1, vs1, rfl, hl1⟩ := len_succ hl0
      obtain ⟨v2, vs2, rfl, hl2⟩ := len_succ hl1
      obtain ⟨v3, vs3, rfl, hl3⟩ := len_succ hl2
      obtain ⟨v4, vs4, rfl, hl4⟩ := len_succ hl3
      obtain ⟨v5, vs5, rfl, hl5⟩ := len_succ hl4
      obtain rfl := len_zero hl5
      have hB4 := (show Box gq (t + 5) b4 26 [encA .u8 d4, [.int .i64 x3], encA .i64 d5, [.slice a2 n2 c2]] [8, 1, 2, 1] from hf _ (List.mem_of_getElem? (i := 0) rfl) (by kernel_rfl))
      have e3 := (show v3 = .int .i64 (aget d5 (IntKind.i64.wrap (1 - ((getI l1 x5).f3)))) from hf _ (List.mem_of_getElem? (i := 5) rfl) (by kernel_rfl))
      subst e3
      have e4 := (show v4 = .pointer (some ⟨b4, 9 + (IntKind.i64.wrap (1 - ((getI l1 x5).f3))).toNat * 1, none⟩) from hf _ (List.mem_of_getElem? (i := 6) rfl) (by kernel_rfl))
      subst e4
      refine WP.storeE (ty := 3) (o := 9) (m := 2) (k := .i64) (d := d5) (i := (IntKind.i64.wrap (1 - ((getI l1 x5).f3)))) (x := (IntKind.i64.wrap ((aget d5 (IntKind.i64.wrap (1 - ((getI l1 x5).f3)))) + x2))) hB4 (by kernel_rfl) hc3 (by kernel_rfl) (by kernel_rfl) [encA .u8 d4, [.int .i64 x3], encA .i64 (aset d5 (IntKind.i64.wrap (1 - ((getI l1 x5).f3))) (IntKind.i64.wrap ((aget d5 (IntKind.i64.wrap (1 - ((getI l1 x5).f3)))) + x2))), [.slice a2 n2 c2]] (by kernel_rfl) ?_
      intro g13 st13 hB11
      refine WP.done (by kernel_rfl) (Shown.ok (v := undef) (by kernel_rfl) st13 ?_)
      exact ⟨trivial, trivial, trivial, trivial, trivial, trivial, trivial, hB11, trivial⟩
  intro vs g14 st14 hl hf
  replace hl : vs.length = 6 := hl
  obtain ⟨v0, vs0, rfl, hl0⟩ := len_succ hl
  obtain ⟨v1, vs1, rfl, hl1⟩ := len_succ hl0
  obtain ⟨v2, vs2, rfl, hl2⟩ := len_succ hl1
  obtain ⟨v3, vs3, rfl, hl3⟩ := len_succ hl2
  obtain ⟨v4, vs4, rfl, hl4⟩ := len_succ hl3
  obtain ⟨v5, vs5, rfl, hl5⟩ := len_succ hl4
  obtain rfl := len_zero hl5
  have hB4 := (show Box g14 (t + 5) b4 26 [encA .u8 d4, [.int .i64 x3], encA .i64 (aset d5 (IntKind.i64.wrap (1 - ((getI l1 x5).f3))) (IntKind.i64.wrap ((aget d5 (IntKind.i64.wrap (1 - ((getI l1 x5).f3)))) + x2))), [.slice a2 n2 c2]] [8, 1, 2, 1] from hf _ (List.mem_of_getElem? (i := 7) rfl) (by kernel_rfl))
  replace hB1 := hB1.mono st14 (WL.no1 (by omega))
  replace hR1 := hR1.mono st14 (WL.no1 (by omega))
  replace hB3 := hB3.mono st14 (WL.no1 (by omega))
  replace hR2 := hR2.mono st14 (WL.no1 (by omega)) (WL.no1 (by omega))
  replace hB8 := hB8.mono st14 (WL.no1 (by omega))
  replace tot := tot.trans (st14.up1 (.inr (by omega)))
  refine NX.then_n ?_
  refine CP.refr 82 [(2, .int .i64 x2), (3, .pointer (some ⟨b1, 0, none⟩)), (6, .pointer (some ⟨b3, 0, none⟩)), (8, .pointer (some ⟨b4, 0, none⟩)), (10, .int .i64 x5), (11, .pointer (some ⟨b6, 0, none⟩))] (by kernel_rfl) (by kernel_rfl) ?_
  clear ds
  intro ds
  refine CP.seq ?_
  by_cases hc4 : (0 : Int) ≤ (getI l1 x5).f3 ∧ (getI l1 x5).f3 < (2 : Int)
  case neg => rw [if_neg hc4] at hs; cases hs
  replace hs := of_if_p hs hc4
  by_cases hc5 : (0 : Int) ≤ (getI l1 x5).f3 ∧ (getI l1 x5).f3 < (2 : Int)
  case neg => rw [if_neg hc5] at hs; cases hs
  replace hs := of_if_p hs hc5
  refine CP.drawL (by kernel_rfl) [1, 3, 5, 6, 8, 13, 14] N.baizeref47_Free_1 [⟨none, [0], [], fun l g => Box g (t + 5) b4 26 [encA .u8 d4, [.int .i64 x3], encA .i64 (aset d5 (IntKind.i64.wrap (1 - ((getI l1 x5).f3))) (IntKind.i64.wrap ((aget d5 (IntKind.i64.wrap (1 - ((getI l1 x5).f3)))) + x2))), [.slice a2 n2 c2]] [8, 1, 2, 1]⟩, ⟨none, [], [], fun l g => Box g (t + 6) b6 60 [encA .u8 ((getI l1 x5).f1), [.int .i64 ((getI l1 x5).f2)], [.int .i64 ((getI l1 x5).f3)], [.int .i64 ((getI l1 x5).f4)]] [8, 1, 1, 1]⟩, ⟨some 0, [], [0], fun l g => l.getD 0 undef = .int .i64 ((getI l1 x5).f3)⟩, ⟨some 1, [], [1], fun l g => l.getD 0 undef = .int .i64 ((getI l1 x5).f3)⟩, ⟨some 2, [], [2], fun l g => l.getD 0 undef = .pointer (some ⟨b4, 9 + ((getI l1 x5).f3).toNat * 1, none⟩)⟩, ⟨some 3, [], [3], fun l g => l.getD 0 undef = .int .i64 (aget (aset d5 (IntKind.i64.wrap (1 - ((getI l1 x5).f3))) (IntKind.i64.wrap ((aget d5 (IntKind.i64.wrap (1 - ((getI l1 x5).f3)))) + x2))) ((getI l1 x5).f3))⟩, ⟨some 4, [], [4], fun l g => l.getD 0 undef = .int .i64 ((getI l1 x5).f2)⟩, ⟨some 5, [], [5], fun l g => l.getD 0 undef = .pointer (some ⟨b4, 9 + ((getI l1 x5).f3).toNat * 1, none⟩)⟩, ⟨some 6, [0], [], fun l g => Box g (t + 5) b4 26 [encA .u8 d4, [.int .i64 x3], encA .i64 (aset (aset d5 (IntKind.i64.wrap (1 - ((getI l1 x5).f3))) (IntKind.i64.wrap ((aget d5 (IntKind.i64.wrap (1 - ((getI l1 x5).f3)))) + x2))) ((getI l1 x5).f3) (IntKind.i64.wrap ((IntKind.i64.wrap ((aget (aset d5 (IntKind.i64.wrap (1 - ((getI l1 x5).f3))) (IntKind.i64.wrap ((aget d5 (IntKind.i64.wrap (1 - ((getI l1 x5).f3)))) + x2))) ((getI l1 x5).f3)) + ((getI l1 x5).f2))) - x2))), [.slice a2 n2 c2]] [8, 1, 2, 1]⟩] [[], [], [], [], [], [], [0]] [(t + 5)] [0, 2, 4, 7, 10, 12] [9, 11] (by kernel_rfl) (by simp <;> omega) (by simp) ⟨fun _ _ _ _ st h0 hl hj hB4 => (hB4.mono st (hj 0 (by simp) _ rfl)), fun _ _ _ _ st h0 hl hj hB8 => (hB8.mono st (fun h => absurd (hl _ h) (by simp <;> omega))), fun _ _ _ _ st h0 hl hj e0 => e0, fun _ _ _ _ st h0 hl hj e1 => e1, fun _ _ _ _ st h0 hl hj e2 => e2, fun _ _ _ _ st h0 hl hj e3 => e3, fun _ _ _ _ st h0 hl hj e4 => e4, fun _ _ _ _ st h0 hl hj e5 => e5, fun _ _ _ _ st h0 hl hj hB4 => (hB4.mono st (hj 0 (by simp) _ rfl)), trivial⟩ ⟨hB4, hB8, trivial, trivial, trivial, trivial, trivial, trivial, trivial, trivial⟩ (by kernel_rfl) (fun vs => by kernel_rfl) ?_ ?_ ?_
  · intro j hj
    have hq : j = 0 ∨ j = 1 := by have h : j < 2 := hj; omega
    rcases hq with rfl | rfl
    · intro vs gq stq hl hf
      replace hl : vs.length = 7 := hl
      obtain ⟨v0, vs0, rfl, hl0⟩ := len_succ hl
      obtain ⟨v1, vs1, rfl, hl1⟩ := len_succ hl0
      obtain ⟨v2, vs2, rfl, hl2⟩ := len_succ hl1
      obtain ⟨v3, vs3, rfl, hl3⟩ := len_succ hl2
      obtain ⟨v4, vs4, rfl, hl4⟩ := len_succ hl3
      obtain ⟨v5, vs5, rfl, hl5⟩ := len_succ hl4
      obtain ⟨v6, vs6, rfl, hl6⟩ := len_succ hl5
      obtain rfl := len_zero hl6
      have e3 := (show v3 = .int .i64 (aget (aset d5 (IntKind.i64.wrap (1 - ((getI l1 x5).f3))) (IntKind.i64.wrap ((aget d5 (IntKind.i64.wrap (1 - ((getI l1 x5).f3)))) + x2))) ((getI l1 x5).f3)) from hf _ (List.mem_of_getElem? (i := 5) rfl) (by kernel_rfl))
      subst e3
      have e4 := (show v4 = .int .i64 ((getI l1 x5).f2) from hf _ (List.mem_of_getElem? (i := 6) rfl) (by kernel_rfl))
      subst e4
      show Option.isSome _ = true
      kernel_rfl
    · intro vs gq stq hl hf
      replace hl : vs.length = 7 := hl
      obtain ⟨v0, vs0, rfl, hl0⟩ := len_succ hl
      obtain ⟨v1, vs1, rfl, hl1⟩ := len_succ hl0
      obtain ⟨v2, vs2, rfl, hl2⟩ := len_succ hl1
      obtain ⟨v3, vs3, rfl, hl3⟩ := len_succ hl2
      obtain ⟨v4, vs4, rfl, hl4⟩ := len_succ hl3
      obtain ⟨v5, vs5, rfl, hl5⟩ := len_succ hl4
      obtain ⟨v6, vs6, rfl, hl6⟩ := len_succ hl5
      obtain rfl := len_zero hl6
      have e3 := (show v3 = .int .i64 (aget (aset d5 (IntKind.i64.wrap (1 - ((getI l1 x5).f3))) (IntKind.i64.wrap ((aget d5 (IntKind.i64.wrap (1 - ((getI l1 x5).f3)))) + x2))) ((getI l1 x5).f3)) from hf _ (List.mem_of_getElem? (i := 5) rfl) (by kernel_rfl))
      subst e3
      have e4 := (show v4 = .int .i64 ((getI l1 x5).f2) from hf _ (List.mem_of_getElem? (i := 6) rfl) (by kernel_rfl))
      subst e4
      show Option.isSome _ = true
      kernel_rfl
  · intro j hj
    have hq : j = 0 ∨ j = 1 ∨ j = 2 ∨ j = 3 ∨ j = 4 ∨ j = 5 ∨ j = 6 := by have h : j < 7 := hj; omega
    rcases hq with rfl | rfl | rfl | rfl | rfl | rfl | rfl
    · intro vs gq stq hl hf
      replace hl : vs.length = 7 := hl
      obtain ⟨v0, vs0, rfl, hl0⟩ := len_succ hl
      obtain ⟨v1, vs1, rfl, hl1⟩ := len_succ hl0
      obtain ⟨v2, vs2, rfl, hl2⟩ := len_succ hl1
      obtain ⟨v3, vs3, rfl, hl3⟩ := len_succ hl2
      obtain ⟨v4, vs4, rfl, hl4⟩ := len_succ hl3
      obtain ⟨v5, vs5, rfl, hl5⟩ := len_succ hl4
      obtain ⟨v6, vs6, rfl, hl6⟩ := len_succ hl5
      obtain rfl := len_zero hl6
      have hB8 := (show Box gq (t + 6) b6 60 [encA .u8 ((getI l1 x5).f1), [.int .i64 ((getI l1 x5).f2)], [.int .i64 ((getI l1 x5).f3)], [.int .i64 ((getI l1 x5).f4)]] [8, 1, 1, 1] from hf _ (List.mem_of_getElem? (i := 1) rfl) (by kernel_rfl))
      refine WP.loadB (v := .int .i64 ((getI l1 x5).f3)) hB8 (by kernel_rfl) (by kernel_rfl) ?_
      refine WP.done (by kernel_rfl) (Shown.ok (v := .int .i64 ((getI l1 x5).f3)) (by kernel_rfl) (Step.refl _ _) ?_)
      exact ⟨trivial, trivial, rfl, trivial, trivial, trivial, trivial, trivial, trivial, trivial⟩
    · intro vs gq stq hl hf
      replace hl : vs.length = 7 := hl
      obtain ⟨v0, vs0, rfl, hl0⟩ := len_succ hl
      obtain ⟨v1, vs1, rfl, hl1⟩ := len_succ hl0
      obtain ⟨v2, vs2, rfl, hl2⟩ := len_succ hl1
      obtain ⟨v3, vs3, rfl, hl3⟩ := len_succ hl2
      obtain ⟨v4, vs4, rfl, hl4⟩ := len_succ hl3
      obtain ⟨v5, vs5, rfl, hl5⟩ := len_succ hl4
      obtain ⟨v6, vs6, rfl, hl6⟩ := len_succ hl5
      obtain rfl := len_zero hl6
      have hB8 := (show Box gq (t + 6) b6 60 [encA .u8 ((getI l1 x5).f1), [.int .i64 ((getI l1 x5).f2)], [.int .i64 ((getI l1 x5).f3)], [.int .i64 ((getI l1 x5).f4)]] [8, 1, 1, 1] from hf _ (List.mem_of_getElem? (i := 1) rfl) (by kernel_rfl))
      refine WP.loadB (v := .int .i64 ((getI l1 x5).f3)) hB8 (by kernel_rfl) (by kernel_rfl) ?_
      refine WP.done (by kernel_rfl) (Shown.ok (v := .int .i64 ((getI l1 x5).f3)) (by kernel_rfl) (Step.refl _ _) ?_)
      exact ⟨trivial, trivial, trivial, rfl, trivial, trivial, trivial, trivial, trivial, trivial⟩
    · intro vs gq stq hl hf
      replace hl : vs.length = 7 := hl
      obtain ⟨v0, vs0, rfl, hl0⟩ := len_succ hl
      obtain ⟨v1, vs1, rfl, hl1⟩ := len_succ hl0
      obtain ⟨v2, vs2, rfl, hl2⟩ := len_succ hl1
      obtain ⟨v3, vs3, rfl, hl3⟩ := len_succ hl2
      obtain ⟨v4, vs4, rfl, hl4⟩ := len_succ hl3
      obtain ⟨v5, vs5, rfl, hl5⟩ := len_succ hl4
      obtain ⟨v6, vs6, rfl, hl6⟩ := len_succ hl5
      obtain rfl := len_zero hl6
      have hB4 := (show Box gq (t + 5) b4 26 [encA .u8 d4, [.int .i64 x3], encA .i64 (aset d5 (IntKind.i64.wrap (1 - ((getI l1 x5).f3))) (IntKind.i64.wrap ((aget d5 (IntKind.i64.wrap (1 - ((getI l1 x5).f3)))) + x2))), [.slice a2 n2 c2]] [8, 1, 2, 1] from hf _ (List.mem_of_getElem? (i := 0) rfl) (by kernel_rfl))
      have e1 := (show v1 = .int .i64 ((getI l1 x5).f3) from hf _ (List.mem_of_getElem? (i := 3) rfl) (by kernel_rfl))
      subst e1
      refine WP.ixBox (t := 23) (e := 3) (m := 2) (size := 1) (b := b4) (off := 9) (k := .i64) (i := (getI l1 x5).f3) (by kernel_rfl) (by kernel_rfl) hc4 ?_
      refine WP.done (by kernel_rfl) (Shown.ok (v := .pointer (some ⟨b4, 9 + ((getI l1 x5).f3).toNat * 1, none⟩)) (by kernel_rfl) (Step.refl _ _) ?_)
      exact ⟨trivial, trivial, trivial, trivial, rfl, trivial, trivial, trivial, trivial, trivial⟩
    · intro vs gq stq hl hf
      replace hl : vs.length = 7 := hl
      obtain ⟨v0, vs0, rfl, hl0⟩ := len_succ hl
      obtain ⟨v1, vs1, rfl, hl1⟩ := len_succ hl0
      obtain ⟨v2, vs2, rfl, hl2⟩ := len_succ hl1
      obtain ⟨v3, vs3, rfl, hl3⟩ := len_succ hl2
      obtain ⟨v4, vs4, rfl, hl4⟩ := len_succ hl3
      obtain ⟨v5, vs5, rfl, hl5⟩ := len_succ hl4
      obtain ⟨v6, vs6, rfl, hl6⟩ := len_succ hl5
      obtain rfl := len_zero hl6
      have hB4 := (show Box gq (t + 5) b4 26 [encA .u8 d4, [.int .i64 x3], encA .i64 (aset d5 (IntKind.i64.wrap (1 - ((getI l1 x5).f3))) (IntKind.i64.wrap ((aget d5 (IntKind.i64.wrap (1 - ((getI l1 x5).f3)))) + x2))), [.slice a2 n2 c2]] [8, 1, 2, 1] from hf _ (List.mem_of_getElem? (i := 0) rfl) (by kernel_rfl))
      have e2 := (show v2 = .pointer (some ⟨b4, 9 + ((getI l1 x5).f3).toNat * 1, none⟩) from hf _ (List.mem_of_getElem? (i := 4) rfl) (by kernel_rfl))
      subst e2
      refine WP.loadE (ty := 3) (o := 9) (m := 2) (k := .i64) (d := (aset d5 (IntKind.i64.wrap (1 - ((getI l1 x5).f3))) (IntKind.i64.wrap ((aget d5 (IntKind.i64.wrap (1 - ((getI l1 x5).f3)))) + x2)))) (i := (getI l1 x5).f3) hB4 (by kernel_rfl) hc4 (by kernel_rfl) (by kernel_rfl) ?_
      refine WP.done (by kernel_rfl) (Shown.ok (v := .int .i64 (aget (aset d5 (IntKind.i64.wrap (1 - ((getI l1 x5).f3))) (IntKind.i64.wrap ((aget d5 (IntKind.i64.wrap (1 - ((getI l1 x5).f3)))) + x2))) ((getI l1 x5).f3))) (by kernel_rfl) (Step.refl _ _) ?_)
      exact ⟨trivial, trivial, trivial, trivial, trivial, rfl, trivial, trivial, trivial, trivial⟩
    · intro vs gq stq hl hf
      replace hl : vs.length = 7 := hl
      obtain ⟨v0, vs0, rfl, hl0⟩ := len_succ hl
      obtain ⟨v1, vs1, rfl, hl1⟩ := len_succ hl0
      obtain ⟨v2, vs2, rfl, hl2⟩ := len_succ hl1
      obtain ⟨v3, vs3, rfl, hl3⟩ := len_succ hl2
      obtain ⟨v4, vs4, rfl, hl4⟩ := len_succ hl3
      obtain ⟨v5, vs5, rfl, hl5⟩ := len_succ hl4
      obtain ⟨v6, vs6, rfl, hl6⟩ := len_succ hl5
      obtain rfl := len_zero hl6
      have hB8 := (show Box gq (t + 6) b6 60 [encA .u8 ((getI l1 x5).f1), [.int .i64 ((getI l1 x5).f2)], [.int .i64 ((getI l1 x5).f3)], [.int .i64 ((getI l1 x5).f4)]] [8, 1, 1, 1] from hf _ (List.mem_of_getElem? (i := 1) rfl) (by kernel_rfl))
      refine WP.loadB (v := .int .i64 ((getI l1 x5).f2)) hB8 (by kernel_rfl) (by kernel_rfl) ?_
      refine WP.done (by kernel_rfl) (Shown.ok (v := .int .i64 ((getI l1 x5).f2)) (by kernel_rfl) (Step.refl _ _) ?_)
      exact ⟨trivial, trivial, trivial, trivial, trivial, trivial, rfl, trivial, trivial, trivial⟩
    · intro vs gq stq hl hf
      replace hl : vs.length = 7 := hl
      obtain ⟨v0, vs0, rfl, hl0⟩ := len_succ hl
      obtain ⟨v1, vs1, rfl, hl1⟩ := len_succ hl0
      obtain ⟨v2, vs2, rfl, hl2⟩ := len_succ hl1
      obtain ⟨v3, vs3, rfl, hl3⟩ := len_succ hl2
      obtain ⟨v4, vs4, rfl, hl4⟩ := len_succ hl3
      obtain ⟨v5, vs5, rfl, hl5⟩ := len_succ hl4
      obtain ⟨v6, vs6, rfl, hl6⟩ := len_succ hl5
      obtain rfl := len_zero hl6
      have hB4 := (show Box gq (t + 5) b4 26 [encA .u8 d4, [.int .i64 x3], encA .i64 (aset d5 (IntKind.i64.wrap (1 - ((getI l1 x5).f3))) (IntKind.i64.wrap ((aget d5 (IntKind.i64.wrap (1 - ((getI l1 x5).f3)))) + x2))), [.slice a2 n2 c2]] [8, 1, 2, 1] from hf _ (List.mem_of_getElem? (i := 0) rfl) (by kernel_rfl))
      have e0 := (show v0 = .int .i64 ((getI l1 x5).f3) from hf _ (List.mem_of_getElem? (i := 2) rfl) (by kernel_rfl))
      subst e0
      refine WP.ixBox (t := 23) (e := 3) (m := 2) (size := 1) (b := b4) (off := 9) (k := .i64) (i := (getI l1 x5).f3) (by kernel_rfl) (by kernel_rfl) hc5 ?_
      refine WP.done (by kernel_rfl) (Shown.ok (v := .pointer (some ⟨b4, 9 + ((getI l1 x5).f3).toNat * 1, none⟩)) (by kernel_rfl) (Step.refl _ _) ?_)
      exact ⟨trivial, trivial, trivial, trivial, trivial, trivial, trivial, rfl, trivial, trivial⟩
    · intro vs gq stq hl hf
      replace hl : vs.length = 7 := hl
      obtain ⟨v0, vs0, rfl, hl0⟩ := len_succ hl
      obtain ⟨v1, vs1, rfl, hl1⟩ := len_succ hl0
      obtain ⟨v2, vs2, rfl, hl2⟩ := len_succ hl1
      obtain ⟨v3, vs3, rfl, hl3⟩ := len_succ hl2
      obtain ⟨v4, vs4, rfl, hl4⟩ := len_succ hl3
      obtain ⟨v5, vs5, rfl, hl5⟩ := len_succ hl4
      obtain ⟨v6, vs6, rfl, hl6⟩ := len_succ hl5
      obtain rfl := len_zero hl6
      have hB4 := (show Box gq (t + 5) b4 26 [encA .u8 d4, [.int .i64 x3], encA .i64 (aset d5 (IntKind.i64.wrap (1 - ((getI l1 x5).f3))) (IntKind.i64.wrap ((aget d5 (IntKind.i64.wrap (1 - ((getI l1 x5).f3)))) + x2))), [.slice a2 n2 c2]] [8, 1, 2, 1] from hf _ (List.mem_of_getElem? (i := 0) rfl) (by kernel_rfl))
      have e3 := (show v3 = .int .i64 (aget (aset d5 (IntKind.i64.wrap (1 - ((getI l1 x5).f3))) (IntKind.i64.wrap ((aget d5 (IntKind.i64.wrap (1 - ((getI l1 x5).f3)))) + x2))) ((getI l1 x5).f3)) from hf _ (List.mem_of_getElem? (i := 5) rfl) (by kernel_rfl))
      subst e3
      have e4 := (show v4 = .int .i64 ((getI l1 x5).f2) from hf _ (List.mem_of_getElem? (i := 6) rfl) (by kernel_rfl))
      subst e4
      have e5 := (show v5 = .pointer (some ⟨b4, 9 + ((getI l1 x5).f3).toNat * 1, none⟩) from hf _ (List.mem_of_getElem? (i := 7) rfl) (by kernel_rfl))
      subst e5
      refine WP.storeE (ty := 3) (o := 9) (m := 2) (k := .i64) (d := (aset d5 (IntKind.i64.wrap (1 - ((getI l1 x5).f3))) (IntKind.i64.wrap ((aget d5 (IntKind.i64.wrap (1 - ((getI l1 x5).f3)))) + x2)))) (i := (getI l1 x5).f3) (x := (IntKind.i64.wrap ((IntKind.i64.wrap ((aget (aset d5 (IntKind.i64.wrap (1 - ((getI l1 x5).f3))) (IntKind.i64.wrap ((aget d5 (IntKind.i64.wrap (1 - ((getI l1 x5).f3)))) + x2))) ((getI l1 x5).f3)) + ((getI l1 x5).f2))) - x2))) hB4 (by kernel_rfl) hc5 (by kernel_rfl) (by kernel_rfl) [encA .u8 d4, [.int .i64 x3], encA .i64 (aset (aset d5 (IntKind.i64.wrap (1 - ((getI l1 x5).f3))) (IntKind.i64.wrap ((aget d5 (IntKind.i64.wrap (1 - ((getI l1 x5).f3)))) + x2))) ((getI l1 x5).f3) (IntKind.i64.wrap ((IntKind.i64.wrap ((aget (aset d5 (IntKind.i64.wrap (1 - ((getI l1 x5).f3))) (IntKind.i64.wrap ((aget d5 (IntKind.i64.wrap (1 - ((getI l1 x5).f3)))) + x2))) ((getI l1 x5).f3)) + ((getI l1 x5).f2))) - x2))), [.slice a2 n2 c2]] (by kernel_rfl) ?_
      intro g15 st15 hB12
      refine WP.done (by kernel_rfl) (Shown.ok (v := undef) (by kernel_rfl) st15 ?_)
      exact ⟨trivial, trivial, trivial, trivial, trivial, trivial, trivial, trivial, hB12, trivial⟩
  intro vs g16 st16 hl hf
  replace hl : vs.length = 7 := hl
  obtain ⟨v0, vs0, rfl, hl0⟩ := len_succ hl
  obtain ⟨v1, vs1, rfl, hl1⟩ := len_succ hl0
  obtain ⟨v2, vs2, rfl, hl2⟩ := len_succ hl1
  obtain ⟨v3, vs3, rfl, hl3⟩ := len_succ hl2
  obtain ⟨v4, vs4, rfl, hl4⟩ := len_succ hl3
  obtain ⟨v5, vs5, rfl, hl5⟩ := len_succ hl4
  obtain ⟨v6, vs6, rfl, hl6⟩ := len_succ hl5
  obtain rfl := len_zero hl6
  have hB4 := (show Box g16 (t + 5) b4 26 [encA .u8 d4, [.int .i64 x3], encA .i64 (aset (aset d5 (IntKind.i64.wrap (1 - ((getI l1 x5).f3))) (IntKind.i64.wrap ((aget d5 (IntKind.i64.wrap (1 - ((getI l1 x5).f3)))) + x2))) ((getI l1 x5).f3) (IntKind.i64.wrap ((IntKind.i64.wrap ((aget (aset d5 (IntKind.i64.wrap (1 - ((getI l1 x5).f3))) (IntKind.i64.wrap ((aget d5 (IntKind.i64.wrap (1 - ((getI l1 x5).f3)))) + x2))) ((getI l1 x5).f3)) + ((getI l1 x5).f2))) - x2))), [.slice a2 n2 c2]] [8, 1, 2, 1] from hf _ (List.mem_of_getElem? (i := 8) rfl) (by kernel_rfl))
  replace hB1 := hB1.mono st16 (WL.no1 (by omega))
  replace hR1 := hR1.mono st16 (WL.no1 (by omega))
  replace hB3 := hB3.mono st16 (WL.no1 (by omega))
  replace hR2 := hR2.mono st16 (WL.no1 (by omega)) (WL.no1 (by omega))
  replace tot := tot.trans (st16.up1 (.inr (by omega)))
  refine NX.then_n ?_
  refine CP.refr 82 [(3, .pointer (some ⟨b1, 0, none⟩)), (6, .pointer (some ⟨b3, 0, none⟩)), (8, .pointer (some ⟨b4, 0, none⟩)), (10, .int .i64 x5)] (by kernel_rfl) (by kernel_rfl) ?_
  clear ds
  intro ds
  refine CP.seq ?_
  by_cases hc6 : (0 : Int) ≤ 0 ∧ 0 ≤ x5 ∧ x5 ≤ (l1.length : Int)
  case neg => rw [if_neg hc6] at hs; cases hs
  replace hs := of_if_p hs hc6
  by_cases hc7 : ([] : List S_baizeref47_Held).length + (sliceI l1 0 x5).length ≤ 4398046511104
  case neg => rw [if_neg hc7] at hs; cases hs
  replace hs := of_if_p hs hc7
  by_cases hc8 : (0 : Int) ≤ (IntKind.i64.wrap (x5 + 1)) ∧ (IntKind.i64.wrap (x5 + 1)) ≤ (l1.length : Int) ∧ (l1.length : Int) ≤ (l1.length : Int)
  case neg => rw [if_neg hc8] at hs; cases hs
  replace hs := of_if_p hs hc8
  by_cases hc9 : (([] : List S_baizeref47_Held) ++ (sliceI l1 0 x5)).length + (sliceI l1 (IntKind.i64.wrap (x5 + 1)) (l1.length : Int)).length ≤ 4398046511104
  case neg => rw [if_neg hc9] at hs; cases hs
  replace hs := of_if_p hs hc9
  refine CP.drawL (by kernel_rfl) [0, 2, 4, 5, 7, 10, 11, 13] N.baizeref47_Free_2 [⟨none, [], [], fun l g => Box g (t + 1) b1 26 [encA .u8 d1, [.int .i64 x1], encA .i64 d2, [.slice a1 n1 c1]] [8, 1, 2, 1]⟩, ⟨none, [], [], fun l g => RdS k_S_baizeref47_Held g 60 a1 n1 c1 l1⟩, ⟨none, [1], [], fun l g => Box g (t + 5) b4 26 [encA .u8 d4, [.int .i64 x3], encA .i64 (aset (aset d5 (IntKind.i64.wrap (1 - ((getI l1 x5).f3))) (IntKind.i64.wrap ((aget d5 (IntKind.i64.wrap (1 - ((getI l1 x5).f3)))) + x2))) ((getI l1 x5).f3) (IntKind.i64.wrap ((IntKind.i64.wrap ((aget (aset d5 (IntKind.i64.wrap (1 - ((getI l1 x5).f3))) (IntKind.i64.wrap ((aget d5 (IntKind.i64.wrap (1 - ((getI l1 x5).f3)))) + x2))) ((getI l1 x5).f3)) + ((getI l1 x5).f2))) - x2))), [.slice a2 n2 c2]] [8, 1, 2, 1]⟩, ⟨some 0, [0], [0], fun l g => ∃ (a3 : Option Addr), l.getD 0 undef = .slice a3 0 0 ∧ OwnS k_S_baizeref47_Held g (t + 7) 60 a3 0 0 ([] : List S_baizeref47_Held)⟩, ⟨some 1, [], [1], fun l g => l.getD 0 undef = .slice a1 n1 c1⟩, ⟨some 2, [], [2], fun l g => ∃ (a4 : Option Addr) (c3 : Nat), l.getD 0 undef = .slice a4 (x5.toNat - (0 : Int).toNat) c3 ∧ RdS k_S_baizeref47_Held g 60 a4 (x5.toNat - (0 : Int).toNat) c3 (sliceI l1 0 x5)⟩, ⟨some 3, [0], [3], fun l g => ∃ (a5 : Option Addr) (c4 : Nat), l.getD 0 undef = .slice a5 (0 + (x5.toNat - (0 : Int).toNat)) c4 ∧ OwnS k_S_baizeref47_Held g (t + 7) 60 a5 (0 + (x5.toNat - (0 : Int).toNat)) c4 (([] : List S_baizeref47_Held) ++ (sliceI l1 0 x5))⟩, ⟨some 3, [], [0], fun l g => ∃ (a3 : Option Addr), l.getD 0 undef = .slice a3 0 0⟩, ⟨some 4, [], [4], fun l g => l.getD 0 undef = .slice a1 n1 c1⟩, ⟨some 5, [], [5], fun l g => ∃ (a6 : Option Addr) (c5 : Nat), l.getD 0 undef = .slice a6 ((l1.length : Int).toNat - (IntKind.i64.wrap (x5 + 1)).toNat) c5 ∧ RdS k_S_baizeref47_Held g 60 a6 ((l1.length : Int).toNat - (IntKind.i64.wrap (x5 + 1)).toNat) c5 (sliceI l1 (IntKind.i64.wrap (x5 + 1)) (l1.length : Int))⟩, ⟨some 6, [0], [6], fun l g => ∃ (a7 : Option Addr) (c6 : Nat), l.getD 0 undef = .slice a7 ((0 + (x5.toNat - (0 : Int).toNat)) + ((l1.length : Int).toNat - (IntKind.i64.wrap (x5 + 1)).toNat)) c6 ∧ OwnS k_S_baizeref47_Held g (t + 7) 60 a7 ((0 + (x5.toNat - (0 : Int).toNat)) + ((l1.length : Int).toNat - (IntKind.i64.wrap (x5 + 1)).toNat)) c6 ((([] : List S_baizeref47_Held) ++ (sliceI l1 0 x5)) ++ (sliceI l1 (IntKind.i64.wrap (x5 + 1)) (l1.length : Int)))⟩, ⟨some 6, [], [3], fun l g => ∃ (a5 : Option Addr) (c4 : Nat), l.getD 0 undef = .slice a5 (0 + (x5.toNat - (0 : Int).toNat)) c4⟩, ⟨some 7, [0, 1], [6], fun l g => ∃ (a7 : Option Addr) (c6 : Nat), l.getD 0 undef = .slice a7 ((0 + (x5.toNat - (0 : Int).toNat)) + ((l1.length : Int).toNat - (IntKind.i64.wrap (x5 + 1)).toNat)) c6 ∧ OwnS k_S_baizeref47_Held g (t + 7) 60 a7 ((0 + (x5.toNat - (0 : Int).toNat)) + ((l1.length : Int).toNat - (IntKind.i64.wrap (x5 + 1)).toNat)) c6 ((([] : List S_baizeref47_Held) ++ (sliceI l1 0 x5)) ++ (sliceI l1 (IntKind.i64.wrap (x5 + 1)) (l1.length : Int))) ∧ Box g (t + 5) b4 26 [encA .u8 d4, [.int .i64 x3], encA .i64 (aset (aset d5 (IntKind.i64.wrap (1 - ((getI l1 x5).f3))) (IntKind.i64.wrap ((aget d5 (IntKind.i64.wrap (1 - ((getI l1 x5).f3)))) + x2))) ((getI l1 x5).f3) (IntKind.i64.wrap ((IntKind.i64.wrap ((aget (aset d5 (IntKind.i64.wrap (1 - ((getI l1 x5).f3))) (IntKind.i64.wrap ((aget d5 (IntKind.i64.wrap (1 - ((getI l1 x5).f3)))) + x2))) ((getI l1 x5).f3)) + ((getI l1 x5).f2))) - x2))), [.slice a7 ((0 + (x5.toNat - (0 : Int).toNat)) + ((l1.length : Int).toNat - (IntKind.i64.wrap (x5 + 1)).toNat)) c6]] [8, 1, 2, 1]⟩] [[], [], [], [0], [], [], [0], [1]] [(t + 7), (t + 5)] [1, 3, 6, 8, 9, 12] [] (by kernel_rfl) (by simp <;> omega) (by simp <;> omega) ⟨fun _ _ _ _ st h0 hl hj hB1 => (hB1.mono st (fun h => absurd (hl _ h) (by simp <;> omega))), fun _ _ _ _ st h0 hl hj hR1 => (RdS.mono (e := 60) hR1 st h0), fun _ _ _ _ st h0 hl hj hB4 => (hB4.mono st (hj 1 (by simp) _ rfl)), fun _ _ _ _ st h0 hl hj ⟨a3, e0, hR3⟩ => ⟨a3, e0, (hR3.mono st h0 (hj 0 (by simp) _ rfl))⟩, fun _ _ _ _ st h0 hl hj e1 => e1, fun _ _ _ _ st h0 hl hj ⟨a4, c3, e2, hR4⟩ => ⟨a4, c3, e2, (RdS.mono (e := 60) hR4 st h0)⟩, fun _ _ _ _ st h0 hl hj ⟨a5, c4, e3, hR5⟩ => ⟨a5, c4, e3, (hR5.mono st h0 (hj 0 (by simp) _ rfl))⟩, fun _ _ _ _ st h0 hl hj ⟨a3, e0⟩ => ⟨a3, e0⟩, fun _ _ _ _ st h0 hl hj e4 => e4, fun _ _ _ _ st h0 hl hj ⟨a6, c5, e5, hR6⟩ => ⟨a6, c5, e5, (RdS.mono (e := 60) hR6 st h0)⟩, fun _ _ _ _ st h0 hl hj ⟨a7, c6, e6, hR7⟩ => ⟨a7, c6, e6, (hR7.mono st h0 (hj 0 (by simp) _ rfl))⟩, fun _ _ _ _ st h0 hl hj ⟨a5, c4, e3⟩ => ⟨a5, c4, e3⟩, fun _ _ _ _ st h0 hl hj ⟨a7, c6, e6, hR7, hB4⟩ => ⟨a7, c6, e6, (hR7.mono st h0 (hj 0 (by simp) _ rfl)), (hB4.mono st (hj 1 (by simp) _ rfl))⟩, trivial⟩ ⟨hB1, hR1, hB4, trivial, trivial, trivial, trivial, trivial, trivial, trivial, trivial, trivial, trivial, trivial⟩ (by kernel_rfl) (fun vs => by kernel_rfl) ?_ ?_ ?_
  · intro j hj; exact absurd hj (by simp)
  · intro j hj
    have hq : j = 0 ∨ j = 1 ∨ j = 2 ∨ j = 3 ∨ j = 4 ∨ j = 5 ∨ j = 6 ∨ j = 7 := by have h : j < 8 := hj; omega
    rcases hq with rfl | rfl | rfl | rfl | rfl | rfl | rfl | rfl
    · intro vs gq stq hl hf
      replace hl : vs.length = 8 := hl
      obtain ⟨v0, vs0, rfl, hl0⟩ := len_succ hl
      obtain ⟨v1, vs1, rfl, hl1⟩ := len_succ hl0
      obtain ⟨v2, vs2, rfl, hl2⟩ := len_succ hl1
      obtain ⟨v3, vs3, rfl, hl3⟩ := len_succ hl2
      obtain ⟨v4, vs4, rfl, hl4⟩ := len_succ hl3
      obtain ⟨v5, vs5, rfl, hl5⟩ := len_succ hl4
      obtain ⟨v6, vs6, rfl, hl6⟩ := len_succ hl5
      obtain ⟨v7, vs7, rfl, hl7⟩ := len_succ hl6
      obtain rfl := len_zero hl7
      refine WP.mkSl (kd := k_S_baizeref47_Held) (t := 24) (e := 60) (bytes := 32) (t + 7) [] ([] : List S_baizeref47_Held) (by kernel_rfl) (by kernel_rfl) (Nat.le_of_ble_eq_true rfl) (Nat.le_of_ble_eq_true rfl) all_nil (rfl) rfl ?_
      intro g17 a3 st17 hR3
      refine WP.done (by kernel_rfl) (Shown.ok (v := .slice a3 0 0) (by kernel_rfl) st17.pure ?_)
      exact ⟨trivial, trivial, trivial, ⟨a3, rfl, hR3⟩, trivial, trivial, trivial, trivial, trivial, trivial, trivial, trivial, trivial, trivial⟩
    · intro vs gq stq hl hf
      replace hl : vs.length = 8 := hl
      obtain ⟨v0, vs0, rfl, hl0⟩ := len_succ hl
      obtain ⟨v1, vs1, rfl, hl1⟩ := len_succ hl0
      obtain ⟨v2, vs2, rfl, hl2⟩ := len_succ hl1
      obtain ⟨v3, vs3, rfl, hl3⟩ := len_succ hl2
      obtain ⟨v4, vs4, rfl, hl4⟩ := len_succ hl3
      obtain ⟨v5, vs5, rfl, hl5⟩ := len_succ hl4
      obtain ⟨v6, vs6, rfl, hl6⟩ := len_succ hl5
      obtain ⟨v7, vs7, rfl, hl7⟩ := len_succ hl6
      obtain rfl := len_zero hl7
      have hB1 := (show Box gq (t + 1) b1 26 [encA .u8 d1, [.int .i64 x1], encA .i64 d2, [.slice a1 n1 c1]] [8, 1, 2, 1] from hf _ (List.mem_of_getElem? (i := 0) rfl) (by kernel_rfl))
      refine WP.loadB (v := .slice a1 n1 c1) hB1 (by kernel_rfl) (by kernel_rfl) ?_
      refine WP.done (by kernel_rfl) (Shown.ok (v := .slice a1 n1 c1) (by kernel_rfl) (Step.refl _ _) ?_)
      exact ⟨trivial, trivial, trivial, trivial, rfl, trivial, trivial, trivial, trivial, trivial, trivial, trivial, trivial, trivial⟩
    · intro vs gq stq hl hf
      replace hl : vs.length = 8 := hl
      obtain ⟨v0, vs0, rfl, hl0⟩ := len_succ hl
      obtain ⟨v1, vs1, rfl, hl1⟩ := len_succ hl0
      obtain ⟨v2, vs2, rfl, hl2⟩ := len_succ hl1
      obtain ⟨v3, vs3, rfl, hl3⟩ := len_succ hl2
      obtain ⟨v4, vs4, rfl, hl4⟩ := len_succ hl3
      obtain ⟨v5, vs5, rfl, hl5⟩ := len_succ hl4
      obtain ⟨v6, vs6, rfl, hl6⟩ := len_succ hl5
      obtain ⟨v7, vs7, rfl, hl7⟩ := len_succ hl6
      obtain rfl := len_zero hl7
      have hR1 := (show RdS k_S_baizeref47_Held gq 60 a1 n1 c1 l1 from hf _ (List.mem_of_getElem? (i := 1) rfl) (by kernel_rfl))
      have e1 := (show v1 = .slice a1 n1 c1 from hf _ (List.mem_of_getElem? (i := 4) rfl) (by kernel_rfl))
      subst e1
      refine WP.sliceR (lo := none) (hi := some (.int .i64 x5)) hR1 0 x5 (by kernel_rfl) (.inl ⟨rfl, rfl⟩) (.inr ⟨_, rfl⟩) hc6 ?_
      intro a4 c3 hR4
      refine WP.done (by kernel_rfl) (Shown.ok (v := .slice a4 (x5.toNat - (0 : Int).toNat) c3) (by kernel_rfl) (Step.refl _ _) ?_)
      exact ⟨trivial, trivial, trivial, trivial, trivial, ⟨a4, c3, rfl, hR4⟩, trivial, trivial, trivial, trivial, trivial, trivial, trivial, trivial⟩
    · intro vs gq stq hl hf
      replace hl : vs.length = 8 := hl
      obtain ⟨v0, vs0, rfl, hl0⟩ := len_succ hl
      obtain ⟨v1, vs1, rfl, hl1⟩ := len_succ hl0
      obtain ⟨v2, vs2, rfl, hl2⟩ := len_succ hl1
      obtain ⟨v3, vs3, rfl, hl3⟩ := len_succ hl2
      obtain ⟨v4, vs4, rfl, hl4⟩ := len_succ hl3
      obtain ⟨v5, vs5, rfl, hl5⟩ := len_succ hl4
      obtain ⟨v6, vs6, rfl, hl6⟩ := len_succ hl5
      obtain ⟨v7, vs7, rfl, hl7⟩ := len_succ hl6
      obtain rfl := len_zero hl7
      obtain ⟨a3, e0, hR3⟩ := (show ∃ (a3 : Option Addr), v0 = .slice a3 0 0 ∧ OwnS k_S_baizeref47_Held gq (t + 7) 60 a3 0 0 ([] : List S_baizeref47_Held) from hf _ (List.mem_of_getElem? (i := 3) rfl) (by kernel_rfl))
      subst e0
      obtain ⟨a4, c3, e2, hR4⟩ := (show ∃ (a4 : Option Addr) (c3 : Nat), v2 = .slice a4 (x5.toNat - (0 : Int).toNat) c3 ∧ RdS k_S_baizeref47_Held gq 60 a4 (x5.toNat - (0 : Int).toNat) c3 (sliceI l1 0 x5) from hf _ (List.mem_of_getElem? (i := 5) rfl) (by kernel_rfl))
      subst e2
      refine WP.append (kd := k_S_baizeref47_Held) (t := 24) (e := 60) (bytes := 32) (a2 := a4) (c2 := c3) hR3 hR4.src hR4.len (by kernel_rfl) (by kernel_rfl) (by omega) (by simp only [maxLen]; omega) (by omega) ?_
      intro g18 a5 c4 st18 hR5
      refine WP.done (by kernel_rfl) (Shown.ok (v := .slice a5 (0 + (x5.toNat - (0 : Int).toNat)) c4) (by kernel_rfl) st18 ?_)
      exact ⟨trivial, trivial, trivial, trivial, trivial, trivial, ⟨a5, c4, rfl, hR5⟩, ⟨a3, rfl⟩, trivial, trivial, trivial, trivial, trivial, trivial⟩
    · intro vs gq stq hl hf
      replace hl : vs.length = 8 := hl
      obtain ⟨v0, vs0, rfl, hl0⟩ := len_succ hl
      obtain ⟨v1, vs1, rfl, hl1⟩ := len_succ hl0
      obtain ⟨v2, vs2, rfl, hl2⟩ := len_succ hl1
      obtain ⟨v3, vs3, rfl, hl3⟩ := len_succ hl2
      obtain ⟨v4, vs4, rfl, hl4⟩ := len_succ hl3
      obtain ⟨v5, vs5, rfl, hl5⟩ := len_succ hl4
      obtain ⟨v6, vs6, rfl, hl6⟩ := len_succ hl5
      obtain ⟨v7, vs7, rfl, hl7⟩ := len_succ hl6
      obtain rfl := len_zero hl7
      have hB1 := (show Box gq (t + 1) b1 26 [encA .u8 d1, [.int .i64 x1], encA .i64 d2, [.slice a1 n1 c1]] [8, 1, 2, 1] from hf _ (List.mem_of_getElem? (i := 0) rfl) (by kernel_rfl))
      refine WP.loadB (v := .slice a1 n1 c1) hB1 (by kernel_rfl) (by kernel_rfl) ?_
      refine WP.done (by kernel_rfl) (Shown.ok (v := .slice a1 n1 c1) (by kernel_rfl) (Step.refl _ _) ?_)
      exact ⟨trivial, trivial, trivial, trivial, trivial, trivial, trivial, trivial, rfl, trivial, trivial, trivial, trivial, trivial⟩
    · intro vs gq stq hl hf
      replace hl : vs.length = 8 := hl
      obtain ⟨v0, vs0, rfl, hl0⟩ := len_succ hl
      obtain ⟨v1, vs1, rfl, hl1⟩ := len_succ hl0
      obtain ⟨v2, vs2, rfl, hl2⟩ := len_succ hl1
      obtain ⟨v3, vs3, rfl, hl3⟩ := len_succ hl2
      obtain ⟨v4, vs4, rfl, hl4⟩ := len_succ hl3
      obtain ⟨v5, vs5, rfl, hl5⟩ := len_succ hl4
      obtain ⟨v6, vs6, rfl, hl6⟩ := len_succ hl5
      obtain ⟨v7, vs7, rfl, hl7⟩ := len_succ hl6
      obtain rfl := len_zero hl7
      have hR1 := (show RdS k_S_baizeref47_Held gq 60 a1 n1 c1 l1 from hf _ (List.mem_of_getElem? (i := 1) rfl) (by kernel_rfl))
      have e4 := (show v4 = .slice a1 n1 c1 from hf _ (List.mem_of_getElem? (i := 8) rfl) (by kernel_rfl))
      subst e4
      refine WP.sliceR (lo := some (.int .i64 (IntKind.i64.wrap (x5 + 1)))) (hi := none) hR1 (IntKind.i64.wrap (x5 + 1)) (l1.length : Int) (by kernel_rfl) (.inr ⟨_, rfl⟩) (.inl ⟨rfl, rfl⟩) hc8 ?_
      intro a6 c5 hR6
      refine WP.done (by kernel_rfl) (Shown.ok (v := .slice a6 ((l1.length : Int).toNat - (IntKind.i64.wrap (x5 + 1)).toNat) c5) (by kernel_rfl) (Step.refl _ _) ?_)
      exact ⟨trivial, trivial, trivial, trivial, trivial, trivial, trivial, trivial, trivial, ⟨a6, c5, rfl, hR6⟩, trivial, trivial, trivial, trivial⟩
    · intro vs gq stq hl hf
      replace hl : vs.length = 8 := hl
      obtain ⟨v0, vs0, rfl, hl0⟩ := len_succ hl
      obtain ⟨v1, vs1, rfl, hl1⟩ := len_succ hl0
      obtain ⟨v2, vs2, rfl, hl2⟩ := len_succ hl1
      obtain ⟨v3, vs3, rfl, hl3⟩ := len_succ hl2
      obtain ⟨v4, vs4, rfl, hl4⟩ := len_succ hl3
      obtain ⟨v5, vs5, rfl, hl5⟩ := len_succ hl4
      obtain ⟨v6, vs6, rfl, hl6⟩ := len_succ hl5
      obtain ⟨v7, vs7, rfl, hl7⟩ := len_succ hl6
      obtain rfl := len_zero hl7
      obtain ⟨a5, c4, e3, hR5⟩ := (show ∃ (a5 : Option Addr) (c4 : Nat), v3 = .slice a5 (0 + (x5.toNat - (0 : Int).toNat)) c4 ∧ OwnS k_S_baizeref47_Held gq (t + 7) 60 a5 (0 + (x5.toNat - (0 : Int).toNat)) c4 (([] : List S_baizeref47_Held) ++ (sliceI l1 0 x5)) from hf _ (List.mem_of_getElem? (i := 6) rfl) (by kernel_rfl))
      subst e3
      obtain ⟨a6, c5, e5, hR6⟩ := (show ∃ (a6 : Option Addr) (c5 : Nat), v5 = .slice a6 ((l1.length : Int).toNat - (IntKind.i64.wrap (x5 + 1)).toNat) c5 ∧ RdS k_S_baizeref47_Held gq 60 a6 ((l1.length : Int).toNat - (IntKind.i64.wrap (x5 + 1)).toNat) c5 (sliceI l1 (IntKind.i64.wrap (x5 + 1)) (l1.length : Int)) from hf _ (List.mem_of_getElem? (i := 9) rfl) (by kernel_rfl))
      subst e5
      refine WP.append (kd := k_S_baizeref47_Held) (t := 24) (e := 60) (bytes := 32) (a2 := a6) (c2 := c5) hR5 hR6.src hR6.len (by kernel_rfl) (by kernel_rfl) (by omega) (by simp only [maxLen]; omega) (by omega) ?_
      intro g19 a7 c6 st19 hR7
      refine WP.done (by kernel_rfl) (Shown.ok (v := .slice a7 ((0 + (x5.toNat - (0 : Int).toNat)) + ((l1.length : Int).toNat - (IntKind.i64.wrap (x5 + 1)).toNat)) c6) (by kernel_rfl) st19 ?_)
      exact ⟨trivial, trivial, trivial, trivial, trivial, trivial, trivial, trivial, trivial, trivial, ⟨a7, c6, rfl, hR7⟩, ⟨a5, c4, rfl⟩, trivial, trivial⟩
    · intro vs gq stq hl hf
      replace hl : vs.length = 8 := hl
      obtain ⟨v0, vs0, rfl, hl0⟩ := len_succ hl
      obtain ⟨v1, vs1, rfl, hl1⟩ := len_succ hl0
      obtain ⟨v2, vs2, rfl, hl2⟩ := len_succ hl1
      obtain ⟨v3, vs3, rfl, hl3⟩ := len_succ hl2
      obtain ⟨v4, vs4, rfl, hl4⟩ := len_succ hl3
      obtain ⟨v5, vs5, rfl, hl5⟩ := len_succ hl4
      obtain ⟨v6, vs6, rfl, hl6⟩ := len_succ hl5
      obtain ⟨v7, vs7, rfl, hl7⟩ := len_succ hl6
      obtain rfl := len_zero hl7
      have hB4 := (show Box gq (t + 5) b4 26 [encA .u8 d4, [.int .i64 x3], encA .i64 (aset (aset d5 (IntKind.i64.wrap (1 - ((getI l1 x5).f3))) (IntKind.i64.wrap ((aget d5 (IntKind.i64.wrap (1 - ((getI l1 x5).f3)))) + x2))) ((getI l1 x5).f3) (IntKind.i64.wrap ((IntKind.i64.wrap ((aget (aset d5 (IntKind.i64.wrap (1 - ((getI l1 x5).f3))) (IntKind.i64.wrap ((aget d5 (IntKind.i64.wrap (1 - ((getI l1 x5).f3)))) + x2))) ((getI l1 x5).f3)) + ((getI l1 x5).f2))) - x2))), [.slice a2 n2 c2]] [8, 1, 2, 1] from hf _ (List.mem_of_getElem? (i := 2) rfl) (by kernel_rfl))
      obtain ⟨a7, c6, e6, hR7⟩ := (show ∃ (a7 : Option Addr) (c6 : Nat), v6 = .slice a7 ((0 + (x5.toNat - (0 : Int).toNat)) + ((l1.length : Int).toNat - (IntKind.i64.wrap (x5 + 1)).toNat)) c6 ∧ OwnS k_S_baizeref47_Held gq (t + 7) 60 a7 ((0 + (x5.toNat - (0 : Int).toNat)) + ((l1.length : Int).toNat - (IntKind.i64.wrap (x5 + 1)).toNat)) c6 ((([] : List S_baizeref47_Held) ++ (sliceI l1 0 x5)) ++ (sliceI l1 (IntKind.i64.wrap (x5 + 1)) (l1.length : Int))) from hf _ (List.mem_of_getElem? (i := 10) rfl) (by kernel_rfl))
      subst e6
      refine WP.storeB (ty := 24) (off := 11) (v := .slice a7 ((0 + (x5.toNat - (0 : Int).toNat)) + ((l1.length : Int).toNat - (IntKind.i64.wrap (x5 + 1)).toNat)) c6) hB4 [[.slice a7 ((0 + (x5.toNat - (0 : Int).toNat)) + ((l1.length : Int).toNat - (IntKind.i64.wrap (x5 + 1)).toNat)) c6]] [1] (by kernel_rfl) (by kernel_rfl) rfl (by kernel_rfl) [encA .u8 d4, [.int .i64 x3], encA .i64 (aset (aset d5 (IntKind.i64.wrap (1 - ((getI l1 x5).f3))) (IntKind.i64.wrap ((aget d5 (IntKind.i64.wrap (1 - ((getI l1 x5).f3)))) + x2))) ((getI l1 x5).f3) (IntKind.i64.wrap ((IntKind.i64.wrap ((aget (aset d5 (IntKind.i64.wrap (1 - ((getI l1 x5).f3))) (IntKind.i64.wrap ((aget d5 (IntKind.i64.wrap (1 - ((getI l1 x5).f3)))) + x2))) ((getI l1 x5).f3)) + ((getI l1 x5).f2))) - x2))), [.slice a7 ((0 + (x5.toNat - (0 : Int).toNat)) + ((l1.length : Int).toNat - (IntKind.i64.wrap (x5 + 1)).toNat)) c6]] (by kernel_rfl) (.one rfl .nil) ?_
      intro g20 st20 hB13
      refine WP.done (by kernel_rfl) (Shown.ok (v := undef) (by kernel_rfl) st20 ?_)
      exact ⟨trivial, trivial, trivial, trivial, trivial, trivial, trivial, trivial, trivial, trivial, trivial, trivial, ⟨a7, c6, rfl, (hR7.mono st20 (WL.no (by simp <;> omega)) (WL.no (by simp <;> omega))), hB13⟩, trivial⟩
  intro vs g21 st21 hl hf
  replace hl : vs.length = 8 := hl
  obtain ⟨v0, vs0, rfl, hl0⟩ := len_succ hl
  obtain ⟨v1, vs1, rfl, hl1⟩ := len_succ hl0
  obtain ⟨v2, vs2, rfl, hl2⟩ := len_succ hl1
  obtain ⟨v3, vs3, rfl, hl3⟩ := len_succ hl2
  obtain ⟨v4, vs4, rfl, hl4⟩ := len_succ hl3
  obtain ⟨v5, vs5, rfl, hl5⟩ := len_succ hl4
  obtain ⟨v6, vs6, rfl, hl6⟩ := len_succ hl5
  obtain ⟨v7, vs7, rfl, hl7⟩ := len_succ hl6
  obtain rfl := len_zero hl7
  obtain ⟨a7, c6, e6, hR7, hB4⟩ := (show ∃ (a7 : Option Addr) (c6 : Nat), v6 = .slice a7 ((0 + (x5.toNat - (0 : Int).toNat)) + ((l1.length : Int).toNat - (IntKind.i64.wrap (x5 + 1)).toNat)) c6 ∧ OwnS k_S_baizeref47_Held g21 (t + 7) 60 a7 ((0 + (x5.toNat - (0 : Int).toNat)) + ((l1.length : Int).toNat - (IntKind.i64.wrap (x5 + 1)).toNat)) c6 ((([] : List S_baizeref47_Held) ++ (sliceI l1 0 x5)) ++ (sliceI l1 (IntKind.i64.wrap (x5 + 1)) (l1.length : Int))) ∧ Box g21 (t + 5) b4 26 [encA .u8 d4, [.int .i64 x3], encA .i64 (aset (aset d5 (IntKind.i64.wrap (1 - ((getI l1 x5).f3))) (IntKind.i64.wrap ((aget d5 (IntKind.i64.wrap (1 - ((getI l1 x5).f3)))) + x2))) ((getI l1 x5).f3) (IntKind.i64.wrap ((IntKind.i64.wrap ((aget (aset d5 (IntKind.i64.wrap (1 - ((getI l1 x5).f3))) (IntKind.i64.wrap ((aget d5 (IntKind.i64.wrap (1 - ((getI l1 x5).f3)))) + x2))) ((getI l1 x5).f3)) + ((getI l1 x5).f2))) - x2))), [.slice a7 ((0 + (x5.toNat - (0 : Int).toNat)) + ((l1.length : Int).toNat - (IntKind.i64.wrap (x5 + 1)).toNat)) c6]] [8, 1, 2, 1] from hf _ (List.mem_of_getElem? (i := 12) rfl) (by kernel_rfl))
  subst e6
  replace hB3 := hB3.mono st21 (WL.no2 (by omega) (by omega))
  replace tot := tot.trans (st21.up2 (.inr (by omega)) (.inr (by omega)))
  refine NX.then_n ?_
  refine CP.refr 82 [(6, .pointer (some ⟨b3, 0, none⟩)), (8, .pointer (some ⟨b4, 0, none⟩))] (by kernel_rfl) (by kernel_rfl) ?_
  clear ds
  intro ds
  refine CP.seqR ?_
  refine WP.loadB (v := AG [encA .u8 d4, [.int .i64 x3], encA .i64 (aset (aset d5 (IntKind.i64.wrap (1 - ((getI l1 x5).f3))) (IntKind.i64.wrap ((aget d5 (IntKind.i64.wrap (1 - ((getI l1 x5).f3)))) + x2))) ((getI l1 x5).f3) (IntKind.i64.wrap ((IntKind.i64.wrap ((aget (aset d5 (IntKind.i64.wrap (1 - ((getI l1 x5).f3))) (IntKind.i64.wrap ((aget d5 (IntKind.i64.wrap (1 - ((getI l1 x5).f3)))) + x2))) ((getI l1 x5).f3)) + ((getI l1 x5).f2))) - x2))), [.slice a7 ((0 + (x5.toNat - (0 : Int).toNat)) + ((l1.length : Int).toNat - (IntKind.i64.wrap (x5 + 1)).toNat)) c6]]) hB4 (by kernel_rfl) (by kernel_rfl) ?_
  refine WP.storeB (ty := 26) (off := 0) (v := AG [encA .u8 d4, [.int .i64 x3], encA .i64 (aset (aset d5 (IntKind.i64.wrap (1 - ((getI l1 x5).f3))) (IntKind.i64.wrap ((aget d5 (IntKind.i64.wrap (1 - ((getI l1 x5).f3)))) + x2))) ((getI l1 x5).f3) (IntKind.i64.wrap ((IntKind.i64.wrap ((aget (aset d5 (IntKind.i64.wrap (1 - ((getI l1 x5).f3))) (IntKind.i64.wrap ((aget d5 (IntKind.i64.wrap (1 - ((getI l1 x5).f3)))) + x2))) ((getI l1 x5).f3)) + ((getI l1 x5).f2))) - x2))), [.slice a7 ((0 + (x5.toNat - (0 : Int).toNat)) + ((l1.length : Int).toNat - (IntKind.i64.wrap (x5 + 1)).toNat)) c6]]) hB3 [encA .u8 d4, [.int .i64 x3], encA .i64 (aset (aset d5 (IntKind.i64.wrap (1 - ((getI l1 x5).f3))) (IntKind.i64.wrap ((aget d5 (IntKind.i64.wrap (1 - ((getI l1 x5).f3)))) + x2))) ((getI l1 x5).f3) (IntKind.i64.wrap ((IntKind.i64.wrap ((aget (aset d5 (IntKind.i64.wrap (1 - ((getI l1 x5).f3))) (IntKind.i64.wrap ((aget d5 (IntKind.i64.wrap (1 - ((getI l1 x5).f3)))) + x2))) ((getI l1 x5).f3)) + ((getI l1 x5).f2))) - x2))), [.slice a7 ((0 + (x5.toNat - (0 : Int).toNat)) + ((l1.length : Int).toNat - (IntKind.i64.wrap (x5 + 1)).toNat)) c6]] [8, 1, 2, 1] (by kernel_rfl) (by kernel_rfl) (by simp [len_encA]) (by kernel_rfl) [encA .u8 d4, [.int .i64 x3], encA .i64 (aset (aset d5 (IntKind.i64.wrap (1 - ((getI l1 x5).f3))) (IntKind.i64.wrap ((aget d5 (IntKind.i64.wrap (1 - ((getI l1 x5).f3)))) + x2))) ((getI l1 x5).f3) (IntKind.i64.wrap ((IntKind.i64.wrap ((aget (aset d5 (IntKind.i64.wrap (1 - ((getI l1 x5).f3))) (IntKind.i64.wrap ((aget d5 (IntKind.i64.wrap (1 - ((getI l1 x5).f3)))) + x2))) ((getI l1 x5).f3)) + ((getI l1 x5).f2))) - x2))), [.slice a7 ((0 + (x5.toNat - (0 : Int).toNat)) + ((l1.length : Int).toNat - (IntKind.i64.wrap (x5 + 1)).toNat)) c6]] (by kernel_rfl) (.arr (.one rfl (.arr (.one rfl .nil)))) ?_
  intro g22 st22 hB14
  replace hR7 := hR7.mono st22 (WL.no1 (by omega)) (WL.no1 (by omega))
  replace hB4 := hB4.mono st22 (WL.no1 (by omega))
  replace tot := tot.trans (st22.up1 (.inr (by omega)))
  clear hB3
  have hB3 := hB14
  clear hB14
  refine WP.still 1 (by kernel_rfl) ?_
  refine WP.done (by kernel_rfl) ?_
  refine NX.then_n ?_
  refine CP.ret ?_
  obtain ⟨g23, hw1, st23, hnew⟩ := hR7.relab (by omega) r0
  refine NX.regw hw1 ?_
  replace hB3 := hB3.mono st23 (WL.no1 (by omega))
  replace tot := tot.trans (st23.up1 (.inr (by omega)))
  clear hR7
  have hR7 := hnew
  clear hnew
  replace hs := Option.some.inj hs
  simp only [Prod.mk.injEq] at hs
  obtain ⟨rfl, rfl, rfl, rfl, rfl⟩ := hs
  exact NX.fin (v := .tuple #[AG [encA .u8 d4, [.int .i64 x3], encA .i64 (aset (aset d5 (IntKind.i64.wrap (1 - ((getI l1 x5).f3))) (IntKind.i64.wrap ((aget d5 (IntKind.i64.wrap (1 - ((getI l1 x5).f3)))) + x2))) ((getI l1 x5).f3) (IntKind.i64.wrap ((IntKind.i64.wrap ((aget (aset d5 (IntKind.i64.wrap (1 - ((getI l1 x5).f3))) (IntKind.i64.wrap ((aget d5 (IntKind.i64.wrap (1 - ((getI l1 x5).f3)))) + x2))) ((getI l1 x5).f3)) + ((getI l1 x5).f2))) - x2))), [.slice a7 ((0 + (x5.toNat - (0 : Int).toNat)) + ((l1.length : Int).toNat - (IntKind.i64.wrap (x5 + 1)).toNat)) c6]], .int .i64 0]) (Res.two rfl (RV.box (agg := true) (size := 12) (rs := [encA .u8 d4, [.int .i64 x3], encA .i64 (aset (aset d5 (IntKind.i64.wrap (1 - ((getI l1 x5).f3))) (IntKind.i64.wrap ((aget d5 (IntKind.i64.wrap (1 - ((getI l1 x5).f3)))) + x2))) ((getI l1 x5).f3) (IntKind.i64.wrap ((IntKind.i64.wrap ((aget (aset d5 (IntKind.i64.wrap (1 - ((getI l1 x5).f3))) (IntKind.i64.wrap ((aget d5 (IntKind.i64.wrap (1 - ((getI l1 x5).f3)))) + x2))) ((getI l1 x5).f3)) + ((getI l1 x5).f2))) - x2))), [.slice a7 ((0 + (x5.toNat - (0 : Int).toNat)) + ((l1.length : Int).toNat - (IntKind.i64.wrap (x5 + 1)).toNat)) c6]]) hB3 (by kernel_rfl) (by kernel_rfl) (by kernel_rfl) (by kernel_rfl)) (RV.tmp (by kernel_rfl))) tot htL ⟨a7, ((0 + (x5.toNat - (0 : Int).toNat)) + ((l1.length : Int).toNat - (IntKind.i64.wrap (x5 + 1)).toNat)), c6, rfl, hR7⟩
def F.baizeref47_Back (d1 : Arr Int 8) (x1 : Int) (d2 : Arr Int 2) (l1 : List S_baizeref47_Held) (d3 : Arr Int 8) (x2 : Int) : Option ((Arr Int 8) × Int × (Arr Int 2) × (List S_baizeref47_Held) × Int) := ((F.baizeref47_next d1 x1 d2 l1).bind fun (d4, x3, d5, l2, x4) => (if (x4 != 0) = true then (some ((zA 8), 0, (zA 2), [], x4)) else ((F.baizeref47_Place d1 x1 d2 l1 d3).bind fun x5 => (if decide (x5 < 0) = true then (some ((zA 8), 0, (zA 2), [], 9)) else (if (0 : Int) ≤ x5 ∧ x5 < (l1.length : Int) then (if decide (x2 ≤ (getI l1 x5).f4) = true then (some ((zA 8), 0, (zA 2), [], 20)) else ((F.baizeref47_Free d1 x1 d2 l1 d3 0).bind fun (d6, x6, d7, l3, x7) => (some (d6, x6, d7, l3, x7)))) else none)))))
theorem P.baizeref47_Back (g0 : GW) (r0 : Nat) (d1 : Arr Int 8) (x1 : Int) (d2 : Arr Int 2) (l1 : List S_baizeref47_Held) (d3 : Arr Int 8) (x2 : Int) (a1 : Option Addr) (n1 : Nat) (c1 : Nat) (hR1 : RdS k_S_baizeref47_Held g0 60 a1 n1 c1 l1) (o1 : Arr Int 8) (o2 : Int) (o3 : Arr Int 2) (o4 : List S_baizeref47_Held) (o5 : Int) (hs : F.baizeref47_Back d1 x1 d2 l1 d3 x2 = some (o1, o2, o3, o4, o5)) :
    Calls Try.prog 46 #[AG [encA .u8 d1, [.int .i64 x1], encA .i64 d2, [.slice a1 n1 c1]], AG [encA .u8 d3], .int .i64 x2] g0.w (Ret NoM g0 fun v g => ∃ (a_1 : Option Addr) (n_1 : Nat) (c_1 : Nat), v = .tuple #[AG [encA .u8 o1, [.int .i64 o2], encA .i64 o3, [.slice a_1 n_1 c_1]], .int .i64 o5] ∧ OwnS k_S_baizeref47_Held g r0 60 a_1 n_1 c_1 o4) := by
  refine calls_of (args := [AG [encA .u8 d1, [.int .i64 x1], encA .i64 d2, [.slice a1 n1 c1]], AG [encA .u8 d3], .int .i64 x2]) Try.func46 rfl (r0 + 0) ?_
  intro t ht htL
  refine ⟨_, rfl, ?_⟩
  refine CP.refr 40 [(0, AG [encA .u8 d1, [.int .i64 x1], encA .i64 d2, [.slice a1 n1 c1]]), (1, AG [encA .u8 d3]), (2, .int .i64 x2)] (by kernel_rfl) (by kernel_rfl) ?_
  intro ds
  have tot : Step (fun l => NoM l ∨ t ≤ l) g0 g0 := Step.refl _ _
  unfold F.baizeref47_Back at hs
  refine CP.seqR ?_
  refine WP.alloc (T := 26) (t + 1) [encA .u8 d1, [.int .i64 x1], encA .i64 d2, [.slice a1 n1 c1]] [8, 1, 2, 1] (by kernel_rfl) (by simp [len_encA]) ?_
  intro g1 b1 st1 hB1
  replace hR1 := hR1.mono st1 (fun x => x)
  replace tot := tot.trans st1.pure
  refine WP.alloc (T := 22) (t + 2) [encA .u8 d3] [8] (by kernel_rfl) (by simp [len_encA]) ?_
  intro g2 b2 st2 hB2
  replace hR1 := hR1.mono st2 (fun x => x)
  replace hB1 := hB1.mono st2 (fun x => x)
  replace tot := tot.trans st2.pure
  refine WP.alloc (T := 26) (t + 3) [encA .u8 (zA 8), [.int .i64 0], encA .i64 (zA 2), [.slice none 0 0]] [8, 1, 2, 1] (by kernel_rfl) (by simp [len_encA]) ?_
  intro g3 b3 st3 hB3
  replace hR1 := hR1.mono st3 (fun x => x)
  replace hB1 := hB1.mono st3 (fun x => x)
  replace hB2 := hB2.mono st3 (fun x => x)
  replace tot := tot.trans st3.pure
  refine WP.still 1 (by kernel_rfl) ?_
  refine WP.done (by kernel_rfl) ?_
  refine NX.then_n ?_
  refine CP.seqR ?_
  refine WP.loadB (v := AG [encA .u8 d1, [.int .i64 x1], encA .i64 d2, [.slice a1 n1 c1]]) hB1 (by kernel_rfl) (by kernel_rfl) ?_
  replace hs := Option.bind_eq_some_iff.1 hs
  obtain ⟨⟨d4, x3, d5, l2, x4⟩, hk1, hs⟩ := hs
  dsimp only at hs
  have hcal1 := P.baizeref47_next g3 (t + 4) d1 x1 d2 l1 a1 n1 c1 hR1 d4 x3 d5 l2 x4 hk1
  refine WP.callC hcal1 (by kernel_rfl) ?_
  rintro _ g4 st4 ⟨a2, n2, c2, rfl, hR2⟩
  replace hB1 := hB1.mono st4 (fun x => x)
  replace hR1 := hR1.mono st4 (fun x => x)
  replace hB2 := hB2.mono st4 (fun x => x)
  replace hB3 := hB3.mono st4 (fun x => x)
  replace tot := tot.trans st4.pure
  refine WP.still 3 (by kernel_rfl) ?_
  refine WP.alloc (T := 26) (t + 5) [encA .u8 (zA 8), [.int .i64 0], encA .i64 (zA 2), [.slice none 0 0]] [8, 1, 2, 1] (by kernel_rfl) (by simp [len_encA]) ?_
  intro g5 b4 st5 hB4
  replace hB1 := hB1.mono st5 (fun x => x)
  replace hR1 := hR1.mono st5 (fun x => x)
  replace hB2 := hB2.mono st5 (fun x => x)
  replace hB3 := hB3.mono st5 (fun x => x)
  replace hR2 := hR2.mono st5 (fun x => x) (fun x => x)
  replace tot := tot.trans st5.pure
  refine WP.storeB (ty := 26) (off := 0) (v := AG [encA .u8 d4, [.int .i64 x3], encA .i64 d5, [.slice a2 n2 c2]]) hB4 [encA .u8 d4, [.int .i64 x3], encA .i64 d5, [.slice a2 n2 c2]] [8, 1, 2, 1] (by kernel_rfl) (by kernel_rfl) (by simp [len_encA]) (by kernel_rfl) [encA .u8 d4, [.int .i64 x3], encA .i64 d5, [.slice a2 n2 c2]] (by kernel_rfl) (.arr (.one rfl (.arr (.one rfl .nil)))) ?_
  intro g6 st6 hB5
  replace hB1 := hB1.mono st6 (WL.no1 (by omega))
  replace hR1 := hR1.mono st6 (WL.no1 (by omega))
  replace hB2 := hB2.mono st6 (WL.no1 (by omega))
  replace hB3 := hB3.mono st6 (WL.no1 (by omega))
  replace hR2 := hR2.mono st6 (WL.no1 (by omega)) (WL.no1 (by omega))
  replace tot := tot.trans (st6.up1 (.inr (by omega)))
  clear hB4
  have hB4 := hB5
  clear hB5
  refine WP.still 1 (by kernel_rfl) ?_
  refine WP.done (by kernel_rfl) ?_
  refine NX.then_n ?_
  refine CP.seq ?_
  refine CP.seqR ?_
  refine WP.still 2 (by kernel_rfl) ?_
  refine WP.done (by kernel_rfl) ?_
  refine NX.then_n ?_
  refine CP.refr 40 [(2, .int .i64 x2), (3, .pointer (some ⟨b1, 0, none⟩)), (4, .pointer (some ⟨b2, 0, none⟩)), (6, .pointer (some ⟨b3, 0, none⟩)), (9, .int .i64 x4), (17, .bool (x4 != 0))] (by kernel_rfl) (by kernel_rfl) ?_
  clear ds
  intro ds
  refine CP.cond (b := (x4 != 0)) (by kernel_rfl) (fun h1 => ?_) (fun h1 => ?_)
  · replace hs := of_if_t hs h1
    refine CP.seqR ?_
    refine WP.buildS (places := #[(0, 8), (8, 1), (9, 2), (11, 1)]) (t := 26) [encA .u8 (zA 8), [.int .i64 0], encA .i64 (zA 2), [.slice none 0 0]] [8, 1, 2, 1] (by kernel_rfl) (by kernel_rfl) (by simp [len_encA]) (by kernel_rfl) (.nil) ?_
    refine WP.still 1 (by kernel_rfl) ?_
    refine WP.storeB (ty := 26) (off := 0) (v := AG [encA .u8 (zA 8), [.int .i64 0], encA .i64 (zA 2), [.slice none 0 0]]) hB3 [encA .u8 (zA 8), [.int .i64 0], encA .i64 (zA 2), [.slice none 0 0]] [8, 1, 2, 1] (by kernel_rfl) (by kernel_rfl) (by simp [len_encA]) (by kernel_rfl) [encA .u8 (zA 8), [.int .i64 0], encA .i64 (zA 2), [.slice none 0 0]] (by kernel_rfl) (.arr (.one rfl (.arr (.one rfl .nil)))) ?_
    intro g7 st7 hB6
    replace hB1 := hB1.mono st7 (WL.no1 (by omega))
    replace hR1 := hR1.mono st7 (WL.no1 (by omega))
    replace hB2 := hB2.mono st7 (WL.no1 (by omega))
    replace tot := tot.trans (st7.up1 (.inr (by omega)))
    clear hB3
    have hB3 := hB6
    clear hB6
    refine WP.still 1 (by kernel_rfl) ?_
    refine WP.done (by kernel_rfl) ?_
    refine NX.then_n ?_
    refine CP.ret ?_
    refine NX.then_r ?_
    replace hs := Option.some.inj hs
    simp only [Prod.mk.injEq] at hs
    obtain ⟨rfl, rfl, rfl, rfl, rfl⟩ := hs
    exact NX.fin (v := .tuple #[AG [encA .u8 (zA 8), [.int .i64 0], encA .i64 (zA 2), [.slice none 0 0]], .int .i64 x4]) (Res.two rfl (RV.box (agg := true) (size := 12) (rs := [encA .u8 (zA 8), [.int .i64 0], encA .i64 (zA 2), [.slice none 0 0]]) hB3 (by kernel_rfl) (by kernel_rfl) (by kernel_rfl) (by kernel_rfl)) (RV.tmp (by kernel_rfl))) tot htL ⟨none, 0, 0, rfl, (OwnS.nil _ _ _ _)⟩
  replace hs := of_if_f hs h1
  refine CP.skip ?_
  refine NX.then_n ?_
  refine CP.seqR ?_
  refine WP.loadB (v := AG [encA .u8 d1, [.int .i64 x1], encA .i64 d2, [.slice a1 n1 c1]]) hB1 (by kernel_rfl) (by kernel_rfl) ?_
  refine WP.loadB (v := AG [encA .u8 d3]) hB2 (by kernel_rfl) (by kernel_rfl) ?_
  replace hs := Option.bind_eq_some_iff.1 hs
  obtain ⟨x5, hk2, hs⟩ := hs
  have hcal2 := P.baizeref47_Place g6 d1 x1 d2 l1 d3 a1 n1 c1 hR1 x5 hk2
  refine WP.callC hcal2 (by kernel_rfl) ?_
  rintro _ g8 st8 rfl
  replace hB1 := hB1.mono st8 (fun x => x)
  replace hR1 := hR1.mono st8 (fun x => x)
  replace hB2 := hB2.mono st8 (fun x => x)
  replace hB3 := hB3.mono st8 (fun x => x)
  replace tot := tot.trans st8.pure
  refine WP.still 1 (by kernel_rfl) ?_
  refine WP.done (by kernel_rfl) ?_
  refine NX.then_n ?_
  refine CP.seq ?_
  refine CP.seqR ?_
  refine WP.still 2 (by kernel_rfl) ?_
  refine WP.done (by kernel_rfl) ?_
  refine NX.then_n ?_
  refine CP.cond (b := decide (x5 < 0)) (by kernel_rfl) (fun h2 => ?_) (fun h2 => ?_)
  · replace hs := of_if_t hs h2
    refine CP.seqR ?_
    refine WP.buildS (places := #[(0, 8), (8, 1), (9, 2), (11, 1)]) (t := 26) [encA .u8 (zA 8), [.int .i64 0], encA .i64 (zA 2), [.slice none 0 0]] [8, 1, 2, 1] (by kernel_rfl) (by kernel_rfl) (by simp [len_encA]) (by kernel_rfl) (.nil) ?_
    refine WP.storeB (ty := 26) (off := 0) (v := AG [encA .u8 (zA 8), [.int .i64 0], encA .i64 (zA 2), [.slice none 0 0]]) hB3 [encA .u8 (zA 8), [.int .i64 0], encA .i64 (zA 2), [.slice none 0 0]] [8, 1, 2, 1] (by kernel_rfl) (by kernel_rfl) (by simp [len_encA]) (by kernel_rfl) [encA .u8 (zA 8), [.int .i64 0], encA .i64 (zA 2), [.slice none 0 0]] (by kernel_rfl) (.arr (.one rfl (.arr (.one rfl .nil)))) ?_
    intro g9 st9 hB7
    replace hB1 := hB1.mono st9 (WL.no1 (by omega))
    replace hR1 := hR1.mono st9 (WL.no1 (by omega))
    replace hB2 := hB2.mono st9 (WL.no1 (by omega))
    replace tot := tot.trans (st9.up1 (.inr (by omega)))
    clear hB3
    have hB3 := hB7
    clear hB7
    refine WP.still 1 (by kernel_rfl) ?_
    refine WP.done (by kernel_rfl) ?_
    refine NX.then_n ?_
    refine CP.ret ?_
    refine NX.then_r ?_
    replace hs := Option.some.inj hs
    simp only [Prod.mk.injEq] at hs
    obtain ⟨rfl, rfl, rfl, rfl, rfl⟩ := hs
    exact NX.fin (v := .tuple #[AG [encA .u8 (zA 8), [.int .i64 0], encA .i64 (zA 2), [.slice none 0 0]], .int .i64 9]) (Res.two rfl (RV.box (agg := true) (size := 12) (rs := [encA .u8 (zA 8), [.int .i64 0], encA .i64 (zA 2), [.slice none 0 0]]) hB3 (by kernel_rfl) (by kernel_rfl) (by kernel_rfl) (by kernel_rfl)) (RV.tmp (by kernel_rfl))) tot htL ⟨none, 0, 0, rfl, (OwnS.nil _ _ _ _)⟩
  replace hs := of_if_f hs h2
  refine CP.skip ?_
  refine NX.then_n ?_
  refine CP.seq ?_
  refine CP.seqR ?_
  refine WP.still 2 (by kernel_rfl) ?_
  refine WP.loadB (v := .slice a1 n1 c1) hB1 (by kernel_rfl) (by kernel_rfl) ?_
  refine WP.still 1 (by kernel_rfl) ?_
  by_cases hc1 : (0 : Int) ≤ x5 ∧ x5 < (l1.length : Int)
  case neg => rw [if_neg hc1] at hs; cases hs
  replace hs := of_if_p hs hc1
  obtain ⟨b5, u1, ha1⟩ := hR1.at hc1
  refine WP.indexA (t := 24) (e := 60) (sz := 11) (cap := c1) (k := .i64) (i := x5) hR1.len ha1 (by kernel_rfl) (by kernel_rfl) hc1 ?_
  refine WP.still 1 (by kernel_rfl) ?_
  obtain ⟨cs1, hcR1, hcV1⟩ := hR1.src.view (getI_some hc1) ha1
  replace hcR1 := k_S_baizeref47_Held.opn hcR1
  refine WP.loadV [encA .u8 ((getI l1 x5).f1), [.int .i64 ((getI l1 x5).f2)], [.int .i64 ((getI l1 x5).f3)], [.int .i64 ((getI l1 x5).f4)]] [8, 1, 1, 1] hcV1 hcR1 (by simp [len_encA]) (f := 10) (ty := 3) (agg := false) (size := 1) (rs := [[.int .i64 ((getI l1 x5).f4)]]) (v := .int .i64 ((getI l1 x5).f4)) (by kernel_rfl) (by kernel_rfl) (by kernel_rfl) (by kernel_rfl) ?_
  refine WP.still 1 (by kernel_rfl) ?_
  refine WP.done (by kernel_rfl) ?_
  refine NX.then_n ?_
  refine CP.refr 40 [(3, .pointer (some ⟨b1, 0, none⟩)), (4, .pointer (some ⟨b2, 0, none⟩)), (6, .pointer (some ⟨b3, 0, none⟩)), (33, .bool (decide (x2 ≤ (getI l1 x5).f4)))] (by kernel_rfl) (by kernel_rfl) ?_
  clear ds
  intro ds
  refine CP.cond (b := decide (x2 ≤ (getI l1 x5).f4)) (by kernel_rfl) (fun h3 => ?_) (fun h3 => ?_)
  · replace hs := of_if_t hs h3
    refine CP.seqR ?_
    refine WP.buildS (places := #[(0, 8), (8, 1), (9, 2), (11, 1)]) (t := 26) [encA .u8 (zA 8), [.int .i64 0], encA .i64 (zA 2), [.slice none 0 0]] [8, 1, 2, 1] (by kernel_rfl) (by kernel_rfl) (by simp [len_encA]) (by kernel_rfl) (.nil) ?_
    refine WP.storeB (ty := 26) (off := 0) (v := AG [encA .u8 (zA 8), [.int .i64 0], encA .i64 (zA 2), [.slice none 0 0]]) hB3 [encA .u8 (zA 8), [.int .i64 0], encA .i64 (zA 2), [.slice none 0 0]] [8, 1, 2, 1] (by kernel_rfl) (by kernel_rfl) (by simp [len_encA]) (by kernel_rfl) [encA .u8 (zA 8), [.int .i64 0], encA .i64 (zA 2), [.slice none 0 0]] (by kernel_rfl) (.arr (.one rfl (.arr (.one rfl .nil)))) ?_
    intro g10 st10 hB8
    replace hB1 := hB1.mono st10 (WL.no1 (by omega))
    replace hR1 := hR1.mono st10 (WL.no1 (by omega))
    replace hB2 := hB2.mono st10 (WL.no1 (by omega))
    replace tot := tot.trans (st10.up1 (.inr (by omega)))
    clear hB3
    have hB3 := hB8
    clear hB8
    refine WP.still 1 (by kernel_rfl) ?_
    refine WP.done (by kernel_rfl) ?_
    refine NX.then_n ?_
    refine CP.ret ?_
    refine NX.then_r ?_
    replace hs := Option.some.inj hs
    simp only [Prod.mk.injEq] at hs
    obtain ⟨rfl, rfl, rfl, rfl, rfl⟩ := hs
    exact NX.fin (v := .tuple #[AG [encA .u8 (zA 8), [.int .i64 0], encA .i64 (zA 2), [.slice none 0 0]], .int .i64 20]) (Res.two rfl (RV.box (agg := true) (size := 12) (rs := [encA .u8 (zA 8), [.int .i64 0], encA .i64 (zA 2), [.slice none 0 0]]) hB3 (by kernel_rfl) (by kernel_rfl) (by kernel_rfl) (by kernel_rfl)) (RV.tmp (by kernel_rfl))) tot htL ⟨none, 0, 0, rfl, (OwnS.nil _ _ _ _)⟩
  replace hs := of_if_f hs h3
  refine CP.skip ?_
  refine NX.then_n ?_
  refine CP.seqR ?_
  refine WP.loadB (v := AG [encA .u8 d1, [.int .i64 x1], encA .i64 d2, [.slice a1 n1 c1]]) hB1 (by kernel_rfl) (by kernel_rfl) ?_
  refine WP.loadB (v := AG [encA .u8 d3]) hB2 (by kernel_rfl) (by kernel_rfl) ?_
  replace hs := Option.bind_eq_some_iff.1 hs
  obtain ⟨⟨d6, x6, d7, l3, x7⟩, hk3, hs⟩ := hs
  dsimp only at hs
  have hcal3 := P.baizeref47_Free g8 (t + 6) d1 x1 d2 l1 d3 0 a1 n1 c1 hR1 d6 x6 d7 l3 x7 hk3
  refine WP.callC hcal3 (by kernel_rfl) ?_
  rintro _ g11 st11 ⟨a3, n3, c3, rfl, hR3⟩
  replace hB1 := hB1.mono st11 (fun x => x)
  replace hR1 := hR1.mono st11 (fun x => x)
  replace hB2 := hB2.mono st11 (fun x => x)
  replace hB3 := hB3.mono st11 (fun x => x)
  replace tot := tot.trans st11.pure
  refine WP.still 2 (by kernel_rfl) ?_
  refine WP.storeB (ty := 26) (off := 0) (v := AG [encA .u8 d6, [.int .i64 x6], encA .i64 d7, [.slice a3 n3 c3]]) hB3 [encA .u8 d6, [.int .i64 x6], encA .i64 d7, [.slice a3 n3 c3]] [8, 1, 2, 1] (by kernel_rfl) (by kernel_rfl) (by simp [len_encA]) (by kernel_rfl) [encA .u8 d6, [.int .i64 x6], encA .i64 d7, [.slice a3 n3 c3]] (by kernel_rfl) (.arr (.one rfl (.arr (.one rfl .nil)))) ?_
  intro g12 st12 hB9
  replace hB1 := hB1.mono st12 (WL.no1 (by omega))
  replace hR1 := hR1.mono st12 (WL.no1 (by omega))
  replace hB2 := hB2.mono st12 (WL.no1 (by omega))
  replace hR3 := hR3.mono st12 (WL.no1 (by omega)) (WL.no1 (by omega))
  replace tot := tot.trans (st12.up1 (.inr (by omega)))
  clear hB3
  have hB3 := hB9
  clear hB9
  refine WP.still 1 (by kernel_rfl) ?_
  refine WP.done (by kernel_rfl) ?_
  refine NX.then_n ?_
  refine CP.ret ?_
  obtain ⟨g13, hw1, st13, hnew⟩ := hR3.relab (by omega) r0
  refine NX.regw hw1 ?_
  replace hB3 := hB3.mono st13 (WL.no1 (by omega))
  replace tot := tot.trans (st13.up1 (.inr (by omega)))
  clear hR3
  have hR3 := hnew
  clear hnew
  replace hs := Option.some.inj hs
  simp only [Prod.mk.injEq] at hs
  obtain ⟨rfl, rfl, rfl, rfl, rfl⟩ := hs
  exact NX.fin (v := .tuple #[AG [encA .u8 d6, [.int .i64 x6], encA .i64 d7, [.slice a3 n3 c3]], .int .i64 x7]) (Res.two rfl (RV.box (agg := true) (size := 12) (rs := [encA .u8 d6, [.int .i64 x6], encA .i64 d7, [.slice a3 n3 c3]]) hB3 (by kernel_rfl) (by kernel_rfl) (by kernel_rfl) (by kernel_rfl)) (RV.tmp (by kernel_rfl))) tot htL ⟨a3, n3, c3, rfl, hR3⟩
def F.baizelaw47_want (d1 : Arr Int 8) (x1 : Int) (d2 : Arr Int 2) (l1 : List S_baizeref47_Held) (x2 : Int) (d3 : Arr Int 8) (x3 : Int) (x4 : Int) (x5 : Int) : Option ((Arr Int 8) × Int × (Arr Int 2) × (List S_baizeref47_Held) × Int) := (if ((x2.tmod 4) == 0) = true then ((F.baizeref47_Pay d1 x1 d2 l1 x4 x3).bind fun (d4, x6, d5, l2, x7) => (some (d4, x6, d5, l2, x7))) else (if ((x2.tmod 4) == 1) = true then ((F.baizeref47_Hold d1 x1 d2 l1 d3 x3 x4 x5).bind fun (d6, x8, d7, l3, x9) => (some (d6, x8, d7, l3, x9))) else (if ((x2.tmod 4) == 2) = true then ((F.baizeref47_Free d1 x1 d2 l1 d3 x3).bind fun (d8, x10, d9, l4, x11) => (some (d8, x10, d9, l4, x11))) else ((F.baizeref47_Back d1 x1 d2 l1 d3 x5).bind fun (d10, x12, d11, l5, x13) => (some (d10, x12, d11, l5, x13))))))
theorem P.baizelaw47_want (g0 : GW) (r0 : Nat) (d1 : Arr Int 8) (x1 : Int) (d2 : Arr Int 2) (l1 : List S_baizeref47_Held) (x2 : Int) (d3 : Arr Int 8) (x3 : Int) (x4 : Int) (x5 : Int) (a1 : Option Addr) (n1 : Nat) (c1 : Nat) (hR1 : RdS k_S_baizeref47_Held g0 60 a1 n1 c1 l1) (o1 : Arr Int 8) (o2 : Int) (o3 : Arr Int 2) (o4 : List S_baizeref47_Held) (o5 : Int) (hs : F.baizelaw47_want d1 x1 d2 l1 x2 d3 x3 x4 x5 = some (o1, o2, o3, o4, o5)) :
    Calls Try.prog 17 #[AG [encA .u8 d1, [.int .i64 x1], encA .i64 d2, [.slice a1 n1 c1]], AG [[.int .u8 x2], encA .u8 d3, [.int .i64 x3], [.int .i64 x4], [.int .i64 x5]]] g0.w (Ret NoM g0 fun v g => ∃ (a_1 : Option Addr) (n_1 : Nat) (c_1 : Nat), v = .tuple #[AG [encA .u8 o1, [.int .i64 o2], encA .i64 o3, [.slice a_1 n_1 c_1]], .int .i64 o5] ∧ OwnS k_S_baizeref47_Held g r0 60 a_1 n_1 c_1 o4) := by
  refine calls_of (args := [AG [encA .u8 d1, [.int .i64 x1], encA .i64 d2, [.slice a1 n1 c1]], AG [[.int .u8 x2], encA .u8 d3, [.int .i64 x3], [.int .i64 x4], [.int .i64 x5]]]) Try.func17 rfl (r0 + 0) ?_
  intro t ht htL
  refine ⟨_, rfl, ?_⟩
  refine CP.refr 52 [(0, AG [encA .u8 d1, [.int .i64 x1], encA .i64 d2, [.slice a1 n1 c1]]), (1, AG [[.int .u8 x2], encA .u8 d3, [.int .i64 x3], [.int .i64 x4], [.int .i64 x5]])] (by kernel_rfl) (by kernel_rfl) ?_
  intro ds
  have tot : Step (fun l => NoM l ∨ t ≤ l) g0 g0 := Step.refl _ _
  unfold F.baizelaw47_want at hs
  refine CP.seqR ?_
  refine WP.alloc (T := 26) (t + 1) [encA .u8 d1, [.int .i64 x1], encA .i64 d2, [.slice a1 n1 c1]] [8, 1, 2, 1] (by kernel_rfl) (by simp [len_encA]) ?_
  intro g1 b1 st1 hB1
  replace hR1 := hR1.mono st1 (fun x => x)
  replace tot := tot.trans st1.pure
  refine WP.alloc (T := 43) (t + 2) [[.int .u8 x2], encA .u8 d3, [.int .i64 x3], [.int .i64 x4], [.int .i64 x5]] [1, 8, 1, 1, 1] (by kernel_rfl) (by simp [len_encA]) ?_
  intro g2 b2 st2 hB2
  replace hR1 := hR1.mono st2 (fun x => x)
  replace hB1 := hB1.mono st2 (fun x => x)
  replace tot := tot.trans st2.pure
  refine WP.alloc (T := 26) (t + 3) [encA .u8 (zA 8), [.int .i64 0], encA .i64 (zA 2), [.slice none 0 0]] [8, 1, 2, 1] (by kernel_rfl) (by simp [len_encA]) ?_
  intro g3 b3 st3 hB3
  replace hR1 := hR1.mono st3 (fun x => x)
  replace hB1 := hB1.mono st3 (fun x => x)
  replace hB2 := hB2.mono st3 (fun x => x)
  replace tot := tot.trans st3.pure
  refine WP.still 1 (by kernel_rfl) ?_
  refine WP.done (by kernel_rfl) ?_
  refine NX.then_n ?_
  refine CP.seq ?_
  refine CP.seqR ?_
  refine WP.still 1 (by kernel_rfl) ?_
  refine WP.loadB (v := .int .u8 x2) hB2 (by kernel_rfl) (by kernel_rfl) ?_
  refine WP.still 1 (by kernel_rfl) ?_
  refine WP.done (by kernel_rfl) ?_
  refine NX.then_n ?_
  refine CP.block ?_
  refine CP.seqR ?_
  refine WP.still 2 (by kernel_rfl) ?_
  refine WP.done (by kernel_rfl) ?_
  refine NX.then_n ?_
  refine CP.cond (b := ((x2.tmod 4) == 0)) (by kernel_rfl) (fun h1 => ?_) (fun h1 => ?_)
  · replace hs := of_if_t hs h1
    refine CP.seqR ?_
    refine WP.loadB (v := AG [encA .u8 d1, [.int .i64 x1], encA .i64 d2, [.slice a1 n1 c1]]) hB1 (by kernel_rfl) (by kernel_rfl) ?_
    refine WP.still 1 (by kernel_rfl) ?_
    refine WP.loadB (v := .int .i64 x4) hB2 (by kernel_rfl) (by kernel_rfl) ?_
    refine WP.still 1 (by kernel_rfl) ?_
    refine WP.loadB (v := .int .i64 x3) hB2 (by kernel_rfl) (by kernel_rfl) ?_
    replace hs := Option.bind_eq_some_iff.1 hs
    obtain ⟨⟨d4, x6, d5, l2, x7⟩, hk1, hs⟩ := hs
    dsimp only at hs
    have hcal1 := P.baizeref47_Pay g3 (t + 4) d1 x1 d2 l1 x4 x3 a1 n1 c1 hR1 d4 x6 d5 l2 x7 hk1
    refine WP.callC hcal1 (by kernel_rfl) ?_
    rintro _ g4 st4 ⟨a2, n2, c2, rfl, hR2⟩
    replace hB1 := hB1.mono st4 (fun x => x)
    replace hR1 := hR1.mono st4 (fun x => x)
    replace hB2 := hB2.mono st4 (fun x => x)
    replace hB3 := hB3.mono st4 (fun x => x)
    replace tot := tot.trans st4.pure
    refine WP.still 2 (by kernel_rfl) ?_
    refine WP.storeB (ty := 26) (off := 0) (v := AG [encA .u8 d4, [.int .i64 x6], encA .i64 d5, [.slice a2 n2 c2]]) hB3 [encA .u8 d4, [.int .i64 x6], encA .i64 d5, [.slice a2 n2 c2]] [8, 1, 2, 1] (by kernel_rfl) (by kernel_rfl) (by simp [len_encA]) (by kernel_rfl) [encA .u8 d4, [.int .i64 x6], encA .i64 d5, [.slice a2 n2 c2]] (by kernel_rfl) (.arr (.one rfl (.arr (.one rfl .nil)))) ?_
    intro g5 st5 hB4
    replace hB1 := hB1.mono st5 (WL.no1 (by omega))
    replace hR1 := hR1.mono st5 (WL.no1 (by omega))
    replace hB2 := hB2.mono st5 (WL.no1 (by omega))
    replace hR2 := hR2.mono st5 (WL.no1 (by omega)) (WL.no1 (by omega))
    replace tot := tot.trans (st5.up1 (.inr (by omega)))
    clear hB3
    have hB3 := hB4
    clear hB4
    refine WP.still 1 (by kernel_rfl) ?_
    refine WP.done (by kernel_rfl) ?_
    refine NX.then_n ?_
    refine CP.refr 52 [(4, .pointer (some ⟨b3, 0, none⟩)), (5, .int .i64 x7)] (by kernel_rfl) (by kernel_rfl) ?_
    clear ds
    intro ds
    refine CP.ret ?_
    refine NX.block_r ?_
    refine NX.then_r ?_
    obtain ⟨g6, hw1, st6, hnew⟩ := hR2.relab (by omega) r0
    refine NX.regw hw1 ?_
    replace hB3 := hB3.mono st6 (WL.no1 (by omega))
    replace tot := tot.trans (st6.up1 (.inr (by omega)))
    clear hR2
    have hR2 := hnew
    clear hnew
    replace hs := Option.some.inj hs
    simp only [Prod.mk.injEq] at hs
    obtain ⟨rfl, rfl, rfl, rfl, rfl⟩ := hs
    exact NX.fin (v := .tuple #[AG [encA .u8 d4, [.int .i64 x6], encA .i64 d5, [.slice a2 n2 c2]], .int .i64 x7]) (Res.two rfl (RV.box (agg := true) (size := 12) (rs := [encA .u8 d4, [.int .i64 x6], encA .i64 d5, [.slice a2 n2 c2]]) hB3 (by kernel_rfl) (by kernel_rfl) (by kernel_rfl) (by kernel_rfl)) (RV.tmp (by kernel_rfl))) tot htL ⟨a2, n2, c2, rfl, hR2⟩
  replace hs := of_if_f hs h1
  refine CP.seqR ?_
  refine WP.still 2 (by kernel_rfl) ?_
  refine WP.done (by kernel_rfl) ?_
  refine NX.then_n ?_
  refine CP.cond (b := ((x2.tmod 4) == 1)) (by kernel_rfl) (fun h2 => ?_) (fun h2 => ?_)
  · replace hs := of_if_t hs h2
    refine CP.seqR ?_
    refine WP.loadB (v := AG [encA .u8 d1, [.int .i64 x1], encA .i64 d2, [.slice a1 n1 c1]]) hB1 (by kernel_rfl) (by kernel_rfl) ?_
    refine WP.still 1 (by kernel_rfl) ?_
    refine WP.loadB (v := AG [encA .u8 d3]) hB2 (by kernel_rfl) (by kernel_rfl) ?_
    refine WP.still 1 (by kernel_rfl) ?_
    refine WP.loadB (v := .int .i64 x3) hB2 (by kernel_rfl) (by kernel_rfl) ?_
    refine WP.still 1 (by kernel_rfl) ?_
    refine WP.loadB (v := .int .i64 x4) hB2 (by kernel_rfl) (by kernel_rfl) ?_
    refine WP.still 1 (by kernel_rfl) ?_
    refine WP.loadB (v := .int .i64 x5) hB2 (by kernel_rfl) (by kernel_rfl) ?_
    refine WP.buildS (places := #[(0, 8), (8, 1), (9, 1), (10, 1)]) (t := 60) [encA .u8 (zA 8), [.int .i64 0], [.int .i64 0], [.int .i64 0]] [8, 1, 1, 1] (by kernel_rfl) (by kernel_rfl) (by simp [len_encA]) (by kernel_rfl) ((.cons (i := 0) (off := 0) (v := AG [encA .u8 d3]) (mid := [encA .u8 d3, [.int .i64 0], [.int .i64 0], [.int .i64 0]]) [encA .u8 d3] [8] (by kernel_rfl) (by kernel_rfl) (by simp [len_encA]) (by kernel_rfl) (.cons (i := 1) (off := 8) (v := .int .i64 x3) (mid := [encA .u8 d3, [.int .i64 x3], [.int .i64 0], [.int .i64 0]]) [[.int .i64 x3]] [1] (by kernel_rfl) (by kernel_rfl) rfl (by kernel_rfl) (.cons (i := 2) (off := 9) (v := .int .i64 x4) (mid := [encA .u8 d3, [.int .i64 x3], [.int .i64 x4], [.int .i64 0]]) [[.int .i64 x4]] [1] (by kernel_rfl) (by kernel_rfl) rfl (by kernel_rfl) (.cons (i := 3) (off := 10) (v := .int .i64 x5) (mid := [encA .u8 d3, [.int .i64 x3], [.int .i64 x4], [.int .i64 x5]]) [[.int .i64 x5]] [1] (by kernel_rfl) (by kernel_rfl) rfl (by kernel_rfl) .nil))))) ?_
    replace hs := Option.bind_eq_some_iff.1 hs
    obtain ⟨⟨d6, x8, d7, l3, x9⟩, hk2, hs⟩ := hs
    dsimp only at hs
    have hcal2 := P.baizeref47_Hold g3 (t + 5) d1 x1 d2 l1 d3 x3 x4 x5 a1 n1 c1 hR1 d6 x8 d7 l3 x9 hk2
    refine WP.callC hcal2 (by kernel_rfl) ?_
    rintro _ g7 st7 ⟨a3, n3, c3, rfl, hR3⟩
    replace hB1 := hB1.mono st7 (fun x => x)
    replace hR1 := hR1.mono st7 (fun x => x)
    replace hB2 := hB2.mono st7 (fun x => x)
    replace hB3 := hB3.mono st7 (fun x => x)
    replace tot := tot.trans st7.pure
    refine WP.still 2 (by kernel_rfl) ?_
    refine WP.storeB (ty := 26) (off := 0) (v := AG [encA .u8 d6, [.int .i64 x8], encA .i64 d7, [.slice a3 n3 c3]]) hB3 [encA .u8 d6, [.int .i64 x8], encA .i64 d7, [.slice a3 n3 c3]] [8, 1, 2, 1] (by kernel_rfl) (by kernel_rfl) (by simp [len_encA]) (by kernel_rfl) [encA .u8 d6, [.int .i64 x8], encA .i64 d7, [.slice a3 n3 c3]] (by kernel_rfl) (.arr (.one rfl (.arr (.one rfl .nil)))) ?_
    intro g8 st8 hB5
    replace hB1 := hB1.mono st8 (WL.no1 (by omega))
    replace hR1 := hR1.mono st8 (WL.no1 (by omega))
    replace hB2 := hB2.mono st8 (WL.no1 (by omega))
    replace hR3 := hR3.mono st8 (WL.no1 (by omega)) (WL.no1 (by omega))
    replace tot := tot.trans (st8.up1 (.inr (by omega)))
    clear hB3
    have hB3 := hB5
    clear hB5
    refine WP.still 1 (by kernel_rfl) ?_
    refine WP.done (by kernel_rfl) ?_
    refine NX.then_n ?_
    refine CP.refr 52 [(4, .pointer (some ⟨b3, 0, none⟩)), (5, .int .i64 x9)] (by kernel_rfl) (by kernel_rfl) ?_
    clear ds
    intro ds
    refine CP.ret ?_
    refine NX.block_r ?_
    refine NX.then_r ?_
    obtain ⟨g9, hw2, st9, hnew⟩ := hR3.relab (by omega) r0
    refine NX.regw hw2 ?_
    replace hB3 := hB3.mono st9 (WL.no1 (by omega))
    replace tot := tot.trans (st9.up1 (.inr (by omega)))
    clear hR3
    have hR3 := hnew
    clear hnew
    replace hs := Option.some.inj hs
    simp only [Prod.mk.injEq] at hs
    obtain ⟨rfl, rfl, rfl, rfl, rfl⟩ := hs
    exact NX.fin (v := .tuple #[AG [encA .u8 d6, [.int .i64 x8], encA .i64 d7, [.slice a3 n3 c3]], .int .i64 x9]) (Res.two rfl (RV.box (agg := true) (size := 12) (rs := [encA .u8 d6, [.int .i64 x8], encA .i64 d7, [.slice a3 n3 c3]]) hB3 (by kernel_rfl) (by kernel_rfl) (by kernel_rfl) (by kernel_rfl)) (RV.tmp (by kernel_rfl))) tot htL ⟨a3, n3, c3, rfl, hR3⟩
  replace hs := of_if_f hs h2
  refine CP.seqR ?_
  refine WP.still 2 (by kernel_rfl) ?_
  refine WP.done (by kernel_rfl) ?_
  refine NX.then_n ?_
  refine CP.refr 52 [(2, .pointer (some ⟨b1, 0, none⟩)), (3, .pointer (some ⟨b2, 0, none⟩)), (4, .pointer (some ⟨b3, 0, none⟩)), (34, .bool ((x2.tmod 4) == 2))] (by kernel_rfl) (by kernel_rfl) ?_
  clear ds
  intro ds
  refine CP.cond (b := ((x2.tmod 4) == 2)) (by kernel_rfl) (fun h3 => ?_) (fun h3 => ?_)
  · replace hs := of_if_t hs h3
    refine CP.seqR ?_
    refine WP.loadB (v := AG [encA .u8 d1, [.int .i64 x1], encA .i64 d2, [.slice a1 n1 c1]]) hB1 (by kernel_rfl) (by kernel_rfl) ?_
    refine WP.still 1 (by kernel_rfl) ?_
    refine WP.loadB (v := AG [encA .u8 d3]) hB2 (by kernel_rfl) (by kernel_rfl) ?_
    refine WP.still 1 (by kernel_rfl) ?_
    refine WP.loadB (v := .int .i64 x3) hB2 (by kernel_rfl) (by kernel_rfl) ?_
    replace hs := Option.bind_eq_some_iff.1 hs
    obtain ⟨⟨d8, x10, d9, l4, x11⟩, hk3, hs⟩ := hs
    dsimp only at hs
    have hcal3 := P.baizeref47_Free g3 (t + 6) d1 x1 d2 l1 d3 x3 a1 n1 c1 hR1 d8 x10 d9 l4 x11 hk3
    refine WP.callC hcal3 (by kernel_rfl) ?_
    rintro _ g10 st10 ⟨a4, n4, c4, rfl, hR4⟩
    replace hB1 := hB1.mono st10 (fun x => x)
    replace hR1 := hR1.mono st10 (fun x => x)
    replace hB2 := hB2.mono st10 (fun x => x)
    replace hB3 := hB3.mono st10 (fun x => x)
    replace tot := tot.trans st10.pure
    refine WP.still 2 (by kernel_rfl) ?_
    refine WP.storeB (ty := 26) (off := 0) (v := AG [encA .u8 d8, [.int .i64 x10], encA .i64 d9, [.slice a4 n4 c4]]) hB3 [encA .u8 d8, [.int .i64 x10], encA .i64 d9, [.slice a4 n4 c4]] [8, 1, 2, 1] (by kernel_rfl) (by kernel_rfl) (by simp [len_encA]) (by kernel_rfl) [encA .u8 d8, [.int .i64 x10], encA .i64 d9, [.slice a4 n4 c4]] (by kernel_rfl) (.arr (.one rfl (.arr (.one rfl .nil)))) ?_
    intro g11 st11 hB6
    replace hB1 := hB1.mono st11 (WL.no1 (by omega))
    replace hR1 := hR1.mono st11 (WL.no1 (by omega))
    replace hB2 := hB2.mono st11 (WL.no1 (by omega))
    replace hR4 := hR4.mono st11 (WL.no1 (by omega)) (WL.no1 (by omega))
    replace tot := tot.trans (st11.up1 (.inr (by omega)))
    clear hB3
    have hB3 := hB6
    clear hB6
    refine WP.still 1 (by kernel_rfl) ?_
    refine WP.done (by kernel_rfl) ?_
    refine NX.then_n ?_
    refine CP.ret ?_
    refine NX.block_r ?_
    refine NX.then_r ?_
    obtain ⟨g12, hw3, st12, hnew⟩ := hR4.relab (by omega) r0
    refine NX.regw hw3 ?_
    replace hB3 := hB3.mono st12 (WL.no1 (by omega))
    replace tot := tot.trans (st12.up1 (.inr (by omega)))
    clear hR4
    have hR4 := hnew
    clear hnew
    replace hs := Option.some.inj hs
    simp only [Prod.mk.injEq] at hs
    obtain ⟨rfl, rfl, rfl, rfl, rfl⟩ := hs
    exact NX.fin (v := .tuple #[AG [encA .u8 d8, [.int .i64 x10], encA .i64 d9, [.slice a4 n4 c4]], .int .i64 x11]) (Res.two rfl (RV.box (agg := true) (size := 12) (rs := [encA .u8 d8, [.int .i64 x10], encA .i64 d9, [.slice a4 n4 c4]]) hB3 (by kernel_rfl) (by kernel_rfl) (by kernel_rfl) (by kernel_rfl)) (RV.tmp (by kernel_rfl))) tot htL ⟨a4, n4, c4, rfl, hR4⟩
  replace hs := of_if_f hs h3
  refine CP.skip ?_
  refine NX.block_n ?_
  refine NX.then_n ?_
  refine CP.seqR ?_
  refine WP.loadB (v := AG [encA .u8 d1, [.int .i64 x1], encA .i64 d2, [.slice a1 n1 c1]]) hB1 (by kernel_rfl) (by kernel_rfl) ?_
  refine WP.still 1 (by kernel_rfl) ?_
  refine WP.loadB (v := AG [encA .u8 d3]) hB2 (by kernel_rfl) (by kernel_rfl) ?_
  refine WP.still 1 (by kernel_rfl) ?_
  refine WP.loadB (v := .int .i64 x5) hB2 (by kernel_rfl) (by kernel_rfl) ?_
  replace hs := Option.bind_eq_some_iff.1 hs
  obtain ⟨⟨d10, x12, d11, l5, x13⟩, hk4, hs⟩ := hs
  dsimp only at hs
  have hcal4 := P.baizeref47_Back g3 (t + 7) d1 x1 d2 l1 d3 x5 a1 n1 c1 hR1 d10 x12 d11 l5 x13 hk4
  refine WP.callC hcal4 (by kernel_rfl) ?_
  rintro _ g13 st13 ⟨a5, n5, c5, rfl, hR5⟩
  replace hB1 := hB1.mono st13 (fun x => x)
  replace hR1 := hR1.mono st13 (fun x => x)
  replace hB2 := hB2.mono st13 (fun x => x)
  replace hB3 := hB3.mono st13 (fun x => x)
  replace tot := tot.trans st13.pure
  refine WP.still 2 (by kernel_rfl) ?_
  refine WP.storeB (ty := 26) (off := 0) (v := AG [encA .u8 d10, [.int .i64 x12], encA .i64 d11, [.slice a5 n5 c5]]) hB3 [encA .u8 d10, [.int .i64 x12], encA .i64 d11, [.slice a5 n5 c5]] [8, 1, 2, 1] (by kernel_rfl) (by kernel_rfl) (by simp [len_encA]) (by kernel_rfl) [encA .u8 d10, [.int .i64 x12], encA .i64 d11, [.slice a5 n5 c5]] (by kernel_rfl) (.arr (.one rfl (.arr (.one rfl .nil)))) ?_
  intro g14 st14 hB7
  replace hB1 := hB1.mono st14 (WL.no1 (by omega))
  replace hR1 := hR1.mono st14 (WL.no1 (by omega))
  replace hB2 := hB2.mono st14 (WL.no1 (by omega))
  replace hR5 := hR5.mono st14 (WL.no1 (by omega)) (WL.no1 (by omega))
  replace tot := tot.trans (st14.up1 (.inr (by omega)))
  clear hB3
  have hB3 := hB7
  clear hB7
  refine WP.still 1 (by kernel_rfl) ?_
  refine WP.done (by kernel_rfl) ?_
  refine NX.then_n ?_
  refine CP.ret ?_
  obtain ⟨g15, hw4, st15, hnew⟩ := hR5.relab (by omega) r0
  refine NX.regw hw4 ?_
  replace hB3 := hB3.mono st15 (WL.no1 (by omega))
  replace tot := tot.trans (st15.up1 (.inr (by omega)))
  clear hR5
  have hR5 := hnew
  clear hnew
  replace hs := Option.some.inj hs
  simp only [Prod.mk.injEq] at hs
  obtain ⟨rfl, rfl, rfl, rfl, rfl⟩ := hs
  exact NX.fin (v := .tuple #[AG [encA .u8 d10, [.int .i64 x12], encA .i64 d11, [.slice a5 n5 c5]], .int .i64 x13]) (Res.two rfl (RV.box (agg := true) (size := 12) (rs := [encA .u8 d10, [.int .i64 x12], encA .i64 d11, [.slice a5 n5 c5]]) hB3 (by kernel_rfl) (by kernel_rfl) (by kernel_rfl) (by kernel_rfl)) (RV.tmp (by kernel_rfl))) tot htL ⟨a5, n5, c5, rfl, hR5⟩
def F.baizelaw47_Back.l1 (d1 : Arr Int 8) (x1 : Int) (d2 : Arr Int 2) (l1 : List S_purse_Held) : Nat → (List S_baizeref47_Held) → Int → Option ((Arr Int 8) × Int × (Arr Int 2) × (List S_baizeref47_Held))
  | 0, _, _ => none
  | k + 1, l2, x2 => (if decide (x2 < (l1.length : Int)) = true then (if (0 : Int) ≤ x2 ∧ x2 < (l1.length : Int) then (if l2.length + ([(⟨(getI l1 x2).f1, (getI l1 x2).f2, (getI l1 x2).f3, (getI l1 x2).f4⟩ : S_baizeref47_Held)]).length ≤ 4398046511104 then (F.baizelaw47_Back.l1 d1 x1 d2 l1 k (l2 ++ [(⟨(getI l1 x2).f1, (getI l1 x2).f2, (getI l1 x2).f3, (getI l1 x2).f4⟩ : S_baizeref47_Held)]) (IntKind.i64.wrap (x2 + 1))) else none) else none) else (some (d1, x1, d2, l2)))
def F.baizelaw47_Back (d1 : Arr Int 8) (x1 : Int) (d2 : Arr Int 2) (l1 : List S_purse_Held) : Option ((Arr Int 8) × Int × (Arr Int 2) × (List S_baizeref47_Held)) := (F.baizelaw47_Back.l1 d1 x1 d2 l1 fuel ([]) 0)
theorem P.baizelaw47_Back (g0 : GW) (r0 : Nat) (d1 : Arr Int 8) (x1 : Int) (d2 : Arr Int 2) (l1 : List S_purse_Held) (a1 : Option Addr) (n1 : Nat) (c1 : Nat) (hR1 : RdS k_S_purse_Held g0 56 a1 n1 c1 l1) (o1 : Arr Int 8) (o2 : Int) (o3 : Arr Int 2) (o4 : List S_baizeref47_Held) (hs : F.baizelaw47_Back d1 x1 d2 l1 = some (o1, o2, o3, o4)) :
    Calls Try.prog 19 #[AG [encA .u8 d1, [.int .i64 x1], encA .i64 d2, [.slice a1 n1 c1]]] g0.w (Ret NoM g0 fun v g => ∃ (a_1 : Option Addr) (n_1 : Nat) (c_1 : Nat), v = AG [encA .u8 o1, [.int .i64 o2], encA .i64 o3, [.slice a_1 n_1 c_1]] ∧ OwnS k_S_baizeref47_Held g r0 60 a_1 n_1 c_1 o4) := by
  refine calls_of (args := [AG [encA .u8 d1, [.int .i64 x1], encA .i64 d2, [.slice a1 n1 c1]]]) Try.func19 rfl (r0 + 0) ?_
  intro t ht htL
  refine ⟨_, rfl, ?_⟩
  refine CP.refr 40 [(0, AG [encA .u8 d1, [.int .i64 x1], encA .i64 d2, [.slice a1 n1 c1]])] (by kernel_rfl) (by kernel_rfl) ?_
  intro ds
  have tot : Step (fun l => NoM l ∨ t ≤ l) g0 g0 := Step.refl _ _
  unfold F.baizelaw47_Back at hs
  refine CP.seqR ?_
  refine WP.alloc (T := 32) (t + 1) [encA .u8 d1, [.int .i64 x1], encA .i64 d2, [.slice a1 n1 c1]] [8, 1, 2, 1] (by kernel_rfl) (by simp [len_encA]) ?_
  intro g1 b1 st1 hB1
  replace hR1 := hR1.mono st1 (fun x => x)
  replace tot := tot.trans st1.pure
  refine WP.alloc (T := 26) (t + 2) [encA .u8 (zA 8), [.int .i64 0], encA .i64 (zA 2), [.slice none 0 0]] [8, 1, 2, 1] (by kernel_rfl) (by simp [len_encA]) ?_
  intro g2 b2 st2 hB2
  replace hR1 := hR1.mono st2 (fun x => x)
  replace hB1 := hB1.mono st2 (fun x => x)
  replace tot := tot.trans st2.pure
  refine WP.done (by kernel_rfl) ?_
  refine NX.then_n ?_
  refine CP.seqR ?_
  refine WP.still 1 (by kernel_rfl) ?_
  refine WP.loadB (v := AG [encA .u8 d1]) hB1 (by kernel_rfl) (by kernel_rfl) ?_
  refine WP.still 1 (by kernel_rfl) ?_
  refine WP.loadB (v := .int .i64 x1) hB1 (by kernel_rfl) (by kernel_rfl) ?_
  refine WP.still 1 (by kernel_rfl) ?_
  refine WP.loadB (v := AG [encA .i64 d2]) hB1 (by kernel_rfl) (by kernel_rfl) ?_
  refine WP.buildS (places := #[(0, 8), (8, 1), (9, 2), (11, 1)]) (t := 26) [encA .u8 (zA 8), [.int .i64 0], encA .i64 (zA 2), [.slice none 0 0]] [8, 1, 2, 1] (by kernel_rfl) (by kernel_rfl) (by simp [len_encA]) (by kernel_rfl) ((.cons (i := 0) (off := 0) (v := AG [encA .u8 d1]) (mid := [encA .u8 d1, [.int .i64 0], encA .i64 (zA 2), [.slice none 0 0]]) [encA .u8 d1] [8] (by kernel_rfl) (by kernel_rfl) (by simp [len_encA]) (by kernel_rfl) (.cons (i := 1) (off := 8) (v := .int .i64 x1) (mid := [encA .u8 d1, [.int .i64 x1], encA .i64 (zA 2), [.slice none 0 0]]) [[.int .i64 x1]] [1] (by kernel_rfl) (by kernel_rfl) rfl (by kernel_rfl) (.cons (i := 2) (off := 9) (v := AG [encA .i64 d2]) (mid := [encA .u8 d1, [.int .i64 x1], encA .i64 d2, [.slice none 0 0]]) [encA .i64 d2] [2] (by kernel_rfl) (by kernel_rfl) (by simp [len_encA]) (by kernel_rfl) .nil)))) ?_
  refine WP.alloc (T := 26) (t + 3) [encA .u8 (zA 8), [.int .i64 0], encA .i64 (zA 2), [.slice none 0 0]] [8, 1, 2, 1] (by kernel_rfl) (by simp [len_encA]) ?_
  intro g3 b3 st3 hB3
  replace hB1 := hB1.mono st3 (fun x => x)
  replace hR1 := hR1.mono st3 (fun x => x)
  replace hB2 := hB2.mono st3 (fun x => x)
  replace tot := tot.trans st3.pure
  refine WP.storeB (ty := 26) (off := 0) (v := AG [encA .u8 d1, [.int .i64 x1], encA .i64 d2, [.slice none 0 0]]) hB3 [encA .u8 d1, [.int .i64 x1], encA .i64 d2, [.slice none 0 0]] [8, 1, 2, 1] (by kernel_rfl) (by kernel_rfl) (by simp [len_encA]) (by kernel_rfl) [encA .u8 d1, [.int .i64 x1], encA .i64 d2, [.slice none 0 0]] (by kernel_rfl) (.arr (.one rfl (.arr (.one rfl .nil)))) ?_
  intro g4 st4 hB4
  replace hB1 := hB1.mono st4 (WL.no1 (by omega))
  replace hR1 := hR1.mono st4 (WL.no1 (by omega))
  replace hB2 := hB2.mono st4 (WL.no1 (by omega))
  replace tot := tot.trans (st4.up1 (.inr (by omega)))
  clear hB3
  have hB3 := hB4
  clear hB4
  refine WP.done (by kernel_rfl) ?_
  refine NX.then_n ?_
  refine CP.seq ?_
  refine CP.seqR ?_
  refine WP.still 1 (by kernel_rfl) ?_
  refine WP.done (by kernel_rfl) ?_
  refine NX.then_n ?_
  refine CP.block ?_
  generalize fuel = k1 at hs
  refine CP.loop (fun k1 tm g => ∃ (l2 : List S_baizeref47_Held) (a4 : Option Addr) (n2 : Nat) (c3 : Nat) (x2 : Int), Fr 40 [(1, .pointer (some ⟨b1, 0, none⟩)), (2, .pointer (some ⟨b2, 0, none⟩)), (3, .pointer (some ⟨b3, 0, none⟩)), (4, .int .i64 x2)] tm ∧ Step (fun l => NoM l ∨ t ≤ l) g0 g ∧ Box g (t + 1) b1 32 [encA .u8 d1, [.int .i64 x1], encA .i64 d2, [.slice a1 n1 c1]] [8, 1, 2, 1] ∧ RdS k_S_purse_Held g 56 a1 n1 c1 l1 ∧ Box g (t + 2) b2 26 [encA .u8 (zA 8), [.int .i64 0], encA .i64 (zA 2), [.slice none 0 0]] [8, 1, 2, 1] ∧ Box g (t + 3) b3 26 [encA .u8 d1, [.int .i64 x1], encA .i64 d2, [.slice a4 n2 c3]] [8, 1, 2, 1] ∧ OwnS k_S_baizeref47_Held g (t + 6) 60 a4 n2 c3 l2 ∧ F.baizelaw47_Back.l1 d1 x1 d2 l1 k1 l2 x2 = some (o1, o2, o3, o4)) k1 ?_ ?_ ?_
  · exact ⟨[], none, 0, 0, 0, ⟨by kernel_rfl, by kernel_rfl⟩, tot, hB1, hR1, hB2, hB3, (OwnS.nil _ _ _ _), hs⟩
  · rintro tm g ⟨l2, a4, n2, c3, x2, hF, tot, hB1, hR1, hB2, hB3, hR4, hs⟩
    exact absurd hs (by simp [F.baizelaw47_Back.l1])
  clear tot hs hB1 hR1 hB2 hB3
  rintro k1 tm g ⟨l2, a4, n2, c3, x2, hF, tot, hB1, hR1, hB2, hB3, hR4, hs⟩
  clear ds
  obtain ⟨ds, rfl⟩ := hF.open
  clear hF
  unfold F.baizelaw47_Back.l1 at hs
  refine CP.seq ?_
  refine CP.seqR ?_
  refine WP.still 2 (by kernel_rfl) ?_
  refine WP.loadB (v := .slice a1 n1 c1) hB1 (by kernel_rfl) (by kernel_rfl) ?_
  refine WP.len (a := a1) (cp := c1) hR1.len (by kernel_rfl) ?_
  refine WP.still 1 (by kernel_rfl) ?_
  refine WP.done (by kernel_rfl) ?_
  refine NX.then_n ?_
  refine CP.cond (b := decide (x2 < (l1.length : Int))) (by kernel_rfl) (fun h3 => ?_) (fun h3 => ?_)
  · replace hs := of_if_t hs h3
    refine CP.skip ?_
    refine NX.then_n ?_
    refine CP.seq ?_
    refine CP.block ?_
    refine CP.seqR ?_
    refine WP.still 1 (by kernel_rfl) ?_
    refine WP.loadB (v := .slice a1 n1 c1) hB1 (by kernel_rfl) (by kernel_rfl) ?_
    refine WP.still 1 (by kernel_rfl) ?_
    by_cases hc5 : (0 : Int) ≤ x2 ∧ x2 < (l1.length : Int)
    case neg => rw [if_neg hc5] at hs; cases hs
    replace hs := of_if_p hs hc5
    obtain ⟨b8, u3, ha3⟩ := hR1.at hc5
    refine WP.indexA (t := 30) (e := 56) (sz := 11) (cap := c1) (k := .i64) (i := x2) hR1.len ha3 (by kernel_rfl) (by kernel_rfl) hc5 ?_
    obtain ⟨cs3, hcR3, hcV3⟩ := hR1.src.view (getI_some hc5) ha3
    replace hcR3 := k_S_purse_Held.opn hcR3
    refine WP.loadV [encA .u8 ((getI l1 x2).f1), [.int .i64 ((getI l1 x2).f2)], [.int .i64 ((getI l1 x2).f3)], [.int .i64 ((getI l1 x2).f4)]] [8, 1, 1, 1] hcV3 hcR3 (by simp [len_encA]) (f := 0) (ty := 56) (agg := true) (size := 11) (rs := [encA .u8 ((getI l1 x2).f1), [.int .i64 ((getI l1 x2).f2)], [.int .i64 ((getI l1 x2).f3)], [.int .i64 ((getI l1 x2).f4)]]) (v := AG [encA .u8 ((getI l1 x2).f1), [.int .i64 ((getI l1 x2).f2)], [.int .i64 ((getI l1 x2).f3)], [.int .i64 ((getI l1 x2).f4)]]) (by kernel_rfl) (by kernel_rfl) (by kernel_rfl) (by kernel_rfl) ?_
    refine WP.alloc (T := 56) (t + 9) [encA .u8 (zA 8), [.int .i64 0], [.int .i64 0], [.int .i64 0]] [8, 1, 1, 1] (by kernel_rfl) (by simp [len_encA]) ?_
    intro g17 b9 st17 hB13
    replace hB1 := hB1.mono st17 (fun x => x)
    replace hR1 := hR1.mono st17 (fun x => x)
    replace hB2 := hB2.mono st17 (fun x => x)
    replace hB3 := hB3.mono st17 (fun x => x)
    replace hR4 := hR4.mono st17 (fun x => x) (fun x => x)
    replace tot := tot.trans st17.pure
    refine WP.storeB (ty := 56) (off := 0) (v := AG [encA .u8 ((getI l1 x2).f1), [.int .i64 ((getI l1 x2).f2)], [.int .i64 ((getI l1 x2).f3)], [.int .i64 ((getI l1 x2).f4)]]) hB13 [encA .u8 ((getI l1 x2).f1), [.int .i64 ((getI l1 x2).f2)], [.int .i64 ((getI l1 x2).f3)], [.int .i64 ((getI l1 x2).f4)]] [8, 1, 1, 1] (by kernel_rfl) (by kernel_rfl) (by simp [len_encA]) (by kernel_rfl) [encA .u8 ((getI l1 x2).f1), [.int .i64 ((getI l1 x2).f2)], [.int .i64 ((getI l1 x2).f3)], [.int .i64 ((getI l1 x2).f4)]] (by kernel_rfl) (.arr (.one rfl (.one rfl (.one rfl .nil)))) ?_
    intro g18 st18 hB14
    replace hB1 := hB1.mono st18 (WL.no1 (by omega))
    replace hR1 := hR1.mono st18 (WL.no1 (by omega))
    replace hB2 := hB2.mono st18 (WL.no1 (by omega))
    replace hB3 := hB3.mono st18 (WL.no1 (by omega))
    replace hR4 := hR4.mono st18 (WL.no1 (by omega)) (WL.no1 (by omega))
    replace tot := tot.trans (st18.up1 (.inr (by omega)))
    clear hB13
    have hB13 := hB14
    clear hB14
    refine WP.done (by kernel_rfl) ?_
    refine NX.then_n ?_
    refine CP.region ?_
    refine WP.still 1 (by kernel_rfl) ?_
    refine WP.loadB (v := .slice a4 n2 c3) hB3 (by kernel_rfl) (by kernel_rfl) ?_
    refine WP.still 1 (by kernel_rfl) ?_
    refine WP.loadB (v := AG [encA .u8 ((getI l1 x2).f1)]) hB13 (by kernel_rfl) (by kernel_rfl) ?_
    refine WP.still 1 (by kernel_rfl) ?_
    refine WP.loadB (v := .int .i64 ((getI l1 x2).f2)) hB13 (by kernel_rfl) (by kernel_rfl) ?_
    refine WP.still 1 (by kernel_rfl) ?_
    refine WP.loadB (v := .int .i64 ((getI l1 x2).f3)) hB13 (by kernel_rfl) (by kernel_rfl) ?_
    refine WP.still 1 (by kernel_rfl) ?_
    refine WP.loadB (v := .int .i64 ((getI l1 x2).f4)) hB13 (by kernel_rfl) (by kernel_rfl) ?_
    refine WP.buildS (places := #[(0, 8), (8, 1), (9, 1), (10, 1)]) (t := 60) [encA .u8 (zA 8), [.int .i64 0], [.int .i64 0], [.int .i64 0]] [8, 1, 1, 1] (by kernel_rfl) (by kernel_rfl) (by simp [len_encA]) (by kernel_rfl) ((.cons (i := 0) (off := 0) (v := AG [encA .u8 ((getI l1 x2).f1)]) (mid := [encA .u8 ((getI l1 x2).f1), [.int .i64 0], [.int .i64 0], [.int .i64 0]]) [encA .u8 ((getI l1 x2).f1)] [8] (by kernel_rfl) (by kernel_rfl) (by simp [len_encA]) (by kernel_rfl) (.cons (i := 1) (off := 8) (v := .int .i64 ((getI l1 x2).f2)) (mid := [encA .u8 ((getI l1 x2).f1), [.int .i64 ((getI l1 x2).f2)], [.int .i64 0], [.int .i64 0]]) [[.int .i64 ((getI l1 x2).f2)]] [1] (by kernel_rfl) (by kernel_rfl) rfl (by kernel_rfl) (.cons (i := 2) (off := 9) (v := .int .i64 ((getI l1 x2).f3)) (mid := [encA .u8 ((getI l1 x2).f1), [.int .i64 ((getI l1 x2).f2)], [.int .i64 ((getI l1 x2).f3)], [.int .i64 0]]) [[.int .i64 ((getI l1 x2).f3)]] [1] (by kernel_rfl) (by kernel_rfl) rfl (by kernel_rfl) (.cons (i := 3) (off := 10) (v := .int .i64 ((getI l1 x2).f4)) (mid := [encA .u8 ((getI l1 x2).f1), [.int .i64 ((getI l1 x2).f2)], [.int .i64 ((getI l1 x2).f3)], [.int .i64 ((getI l1 x2).f4)]]) [[.int .i64 ((getI l1 x2).f4)]] [1] (by kernel_rfl) (by kernel_rfl) rfl (by kernel_rfl) .nil))))) ?_
    refine WP.mkSl (kd := k_S_baizeref47_Held) (t := 24) (e := 60) (bytes := 32) (t + 10) [AG [encA .u8 ((getI l1 x2).f1), [.int .i64 ((getI l1 x2).f2)], [.int .i64 ((getI l1 x2).f3)], [.int .i64 ((getI l1 x2).f4)]]] [(⟨(getI l1 x2).f1, (getI l1 x2).f2, (getI l1 x2).f3, (getI l1 x2).f4⟩ : S_baizeref47_Held)] (by kernel_rfl) (by kernel_rfl) (Nat.le_of_ble_eq_true rfl) (Nat.le_of_ble_eq_true rfl) (all_cons (Kd.len k_S_baizeref47_Held (g := g18) (x := (⟨(getI l1 x2).f1, (getI l1 x2).f2, (getI l1 x2).f3, (getI l1 x2).f4⟩ : S_baizeref47_Held)) (k_S_baizeref47_Held.mk rfl rfl rfl rfl)) all_nil) (⟨_, _, rfl, (k_S_baizeref47_Held.mk rfl rfl rfl rfl), rfl⟩) rfl ?_
    intro g19 a8 st19 hR8
    replace hB1 := hB1.mono st19 (fun x => x)
    replace hR1 := hR1.mono st19 (fun x => x)
    replace hB2 := hB2.mono st19 (fun x => x)
    replace hB3 := hB3.mono st19 (fun x => x)
    replace hR4 := hR4.mono st19 (fun x => x) (fun x => x)
    replace hB13 := hB13.mono st19 (fun x => x)
    replace tot := tot.trans st19.pure
    by_cases hc6 : l2.length + ([(⟨(getI l1 x2).f1, (getI l1 x2).f2, (getI l1 x2).f3, (getI l1 x2).f4⟩ : S_baizeref47_Held)]).length ≤ 4398046511104
    case neg => rw [if_neg hc6] at hs; cases hs
    replace hs := of_if_p hs hc6
    refine WP.append (kd := k_S_baizeref47_Held) (t := 24) (e := 60) (bytes := 32) (a2 := a8) (c2 := 1) hR4 hR8.src hR8.len (by kernel_rfl) (by kernel_rfl) (by omega) (by simp only [maxLen]; omega) (by omega) ?_
    intro g20 a9 c6 st20 hR9
    replace hB1 := hB1.mono st20 (WL.no1 (by omega))
    replace hR1 := hR1.mono st20 (WL.no1 (by omega))
    replace hB2 := hB2.mono st20 (WL.no1 (by omega))
    replace hB3 := hB3.mono st20 (WL.no1 (by omega))
    replace hB13 := hB13.mono st20 (WL.no1 (by omega))
    replace hR8 := hR8.mono st20 (WL.no1 (by omega)) (WL.no1 (by omega))
    replace tot := tot.trans (st20.up1 (.inr (by omega)))
    refine WP.still 1 (by kernel_rfl) ?_
    refine WP.storeB (ty := 24) (off := 11) (v := .slice a9 (n2 + 1) c6) hB3 [[.slice a9 (n2 + 1) c6]] [1] (by kernel_rfl) (by kernel_rfl) rfl (by kernel_rfl) [encA .u8 d1, [.int .i64 x1], encA .i64 d2, [.slice a9 (n2 + 1) c6]] (by kernel_rfl) (.one rfl .nil) ?_
    intro g21 st21 hB15
    replace hB1 := hB1.mono st21 (WL.no1 (by omega))
    replace hR1 := hR1.mono st21 (WL.no1 (by omega))
    replace hB2 := hB2.mono st21 (WL.no1 (by omega))
    replace hR9 := hR9.mono st21 (WL.no1 (by omega)) (WL.no1 (by omega))
    replace hB13 := hB13.mono st21 (WL.no1 (by omega))
    replace hR8 := hR8.mono st21 (WL.no1 (by omega)) (WL.no1 (by omega))
    replace tot := tot.trans (st21.up1 (.inr (by omega)))
    clear hB3
    have hB3 := hB15
    clear hB15
    refine WP.done (by kernel_rfl) ?_
    refine NX.block_n ?_
    refine NX.then_n ?_
    refine CP.refr 40 [(1, .pointer (some ⟨b1, 0, none⟩)), (2, .pointer (some ⟨b2, 0, none⟩)), (3, .pointer (some ⟨b3, 0, none⟩)), (4, .int .i64 x2)] (by kernel_rfl) (by kernel_rfl) ?_
    clear ds
    intro ds
    refine CP.region ?_
    refine WP.still 3 (by kernel_rfl) ?_
    refine WP.done (by kernel_rfl) ?_
    refine NX.post ?_
    exact ⟨(l2 ++ [(⟨(getI l1 x2).f1, (getI l1 x2).f2, (getI l1 x2).f3, (getI l1 x2).f4⟩ : S_baizeref47_Held)]), a9, (n2 + 1), c6, (IntKind.i64.wrap (x2 + 1)), ⟨by kernel_rfl, by kernel_rfl⟩, tot, hB1, hR1, hB2, hB3, hR9, hs⟩
  replace hs := of_if_f hs h3
  refine CP.exit ?_
  refine NX.then_e ?_
  refine NX.then_e ?_
  refine NX.block_s ?_
  refine NX.then_n ?_
  refine CP.seqR ?_
  refine WP.loadB (v := AG [encA .u8 d1, [.int .i64 x1], encA .i64 d2, [.slice a4 n2 c3]]) hB3 (by kernel_rfl) (by kernel_rfl) ?_
  refine WP.storeB (ty := 26) (off := 0) (v := AG [encA .u8 d1, [.int .i64 x1], encA .i64 d2, [.slice a4 n2 c3]]) hB2 [encA .u8 d1, [.int .i64 x1], encA .i64 d2, [.slice a4 n2 c3]] [8, 1, 2, 1] (by kernel_rfl) (by kernel_rfl) (by simp [len_encA]) (by kernel_rfl) [encA .u8 d1, [.int .i64 x1], encA .i64 d2, [.slice a4 n2 c3]] (by kernel_rfl) (.arr (.one rfl (.arr (.one rfl .nil)))) ?_
  intro g22 st22 hB16
  replace hR4 := hR4.mono st22 (WL.no1 (by omega)) (WL.no1 (by omega))
  replace hB3 := hB3.mono st22 (WL.no1 (by omega))
  replace tot := tot.trans (st22.up1 (.inr (by omega)))
  clear hB2
  have hB2 := hB16
  clear hB16
  refine WP.done (by kernel_rfl) ?_
  refine NX.then_n ?_
  refine CP.ret ?_
  obtain ⟨g23, hw1, st23, hnew⟩ := hR4.relab (by omega) r0
  refine NX.regw hw1 ?_
  replace hB2 := hB2.mono st23 (WL.no1 (by omega))
  replace tot := tot.trans (st23.up1 (.inr (by omega)))
  clear hR4
  have hR4 := hnew
  clear hnew
  replace hs := Option.some.inj hs
  simp only [Prod.mk.injEq] at hs
  obtain ⟨rfl, rfl, rfl, rfl⟩ := hs
  exact NX.fin (v := AG [encA .u8 d1, [.int .i64 x1], encA .i64 d2, [.slice a4 n2 c3]]) (Res.one rfl (RV.box (agg := true) (size := 12) (rs := [encA .u8 d1, [.int .i64 x1], encA .i64 d2, [.slice a4 n2 c3]]) hB2 (by kernel_rfl) (by kernel_rfl) (by kernel_rfl) (by kernel_rfl))) tot htL ⟨a4, n2, c3, rfl, hR4⟩
end Go.Proofs.Yticlfbpmfejdoaa
