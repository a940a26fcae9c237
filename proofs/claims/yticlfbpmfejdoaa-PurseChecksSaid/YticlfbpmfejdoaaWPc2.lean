/-
  Walks, written by program: each Go function computes the plain function of its name, in whatever world its arguments' facts hold.
-/
import Derived.Test.YticlfbpmfejdoaaWPc1
namespace Go.Proofs.Yticlfbpmfejdoaa
open Go.RowKit Go.Lab
attribute [local irreducible] WP CP NX wpList Code.wp Calls
set_option maxRecDepth 100000
set_option maxHeartbeats 4000000
set_option linter.unusedVariables false

def N.purse_Purse_Back_1_0 : List (List Nat) := [[], [], [1], [1, 2], [1, 2, 3], [], [1, 2, 3, 4, 5], [1, 2, 3, 4, 5, 6], [1, 2, 3, 4, 5, 6, 7], [0, 1, 2, 3, 4, 5, 6, 7, 8], [0, 1, 2, 3, 4, 5, 6, 7, 8, 9]]
def F.purse_Purse_Back_1 (d1 : Arr Int 8) (x1 : Int) (d2 : Arr Int 2) (l1 : List S_purse_Held) (d3 : Arr Int 8) (x2 : Int) : Option (Int × (Arr Int 8) × Int × (Arr Int 2) × (List S_purse_Held)) := ((F.purse_Purse_at d1 x1 d2 l1 d3).bind fun x3 => (if decide (x3 < 0) = true then (some (9, d1, x1, d2, l1)) else (if (0 : Int) ≤ x3 ∧ x3 < (l1.length : Int) then (if decide (x2 ≤ (getI l1 x3).f4) = true then (some (20, d1, x1, d2, l1)) else ((F.purse_Purse_part d1 x1 d2 l1 x3 0).bind fun (d4, x4, d5, d6) => (some (0, d4, x4, d5, d6)))) else none)))
theorem P.purse_Purse_Back_1 (g0 : GW) (m0 : Nat) (m1 : Nat) (m2 : Nat) (m3 : Nat) (d1 : Arr Int 8) (x1 : Int) (d2 : Arr Int 2) (l1 : List S_purse_Held) (d3 : Arr Int 8) (x2 : Int) (a1 : Option Addr) (n1 : Nat) (c1 : Nat) (b1 : Nat) (b2 : Nat) (b3 : Nat) (hR1 : OwnS k_S_purse_Held g0 m1 56 a1 n1 c1 l1) (hB1 : Box g0 m0 b1 32 [encA .u8 d1, [.int .i64 x1], encA .i64 d2, [.slice a1 n1 c1]] [8, 1, 2, 1]) (hB2 : Box g0 m2 b2 29 [encA .u8 d3] [8]) (hB3 : Box g0 m3 b3 3 [[.int .i64 x2]] [1]) (hm1_0 : m1 ≠ m0) (hm2_0 : m2 ≠ m0) (hm2_1 : m2 ≠ m1) (hm3_0 : m3 ≠ m0) (hm3_1 : m3 ≠ m1) (hm3_2 : m3 ≠ m2) (hm0 : m0 ≠ 0) (hm1 : m1 ≠ 0) (hm2 : m2 ≠ 0) (hm3 : m3 ≠ 0) (o1 : Int) (o2 : (Arr Int 8)) (o3 : Int) (o4 : (Arr Int 2)) (o5 : (List S_purse_Held)) (hs : F.purse_Purse_Back_1 d1 x1 d2 l1 d3 x2 = some (o1, o2, o3, o4, o5)) :
    Calls Try.prog 55 #[.pointer (some ⟨b1, 0, none⟩), .pointer (some ⟨b2, 0, none⟩), .pointer (some ⟨b3, 0, none⟩)] g0.w (Ret (WL [m0, m1]) g0 fun v g => ∃ (a_1 : Option Addr) (n_1 : Nat) (c_1 : Nat), v = .int .i64 o1 ∧ RdS k_S_purse_Held g 56 a_1 n_1 c_1 o5 ∧ Box g m0 b1 32 [encA .u8 o2, [.int .i64 o3], encA .i64 o4, [.slice a_1 n_1 c_1]] [8, 1, 2, 1]) := by
  refine calls_of (args := [.pointer (some ⟨b1, 0, none⟩), .pointer (some ⟨b2, 0, none⟩), .pointer (some ⟨b3, 0, none⟩)]) Try.func55 rfl (m0 + m1 + m2 + m3 + 0) ?_
  intro t ht htL
  refine ⟨_, rfl, ?_⟩
  refine CP.refr 28 [(0, .pointer (some ⟨b1, 0, none⟩)), (1, .pointer (some ⟨b2, 0, none⟩)), (2, .pointer (some ⟨b3, 0, none⟩))] (by kernel_rfl) (by kernel_rfl) ?_
  intro ds
  have tot : Step (fun l => (WL [m0, m1]) l ∨ t ≤ l) g0 g0 := Step.refl _ _
  unfold F.purse_Purse_Back_1 at hs
  refine CP.seqR ?_
  refine WP.still 1 (by kernel_rfl) ?_
  refine WP.done (by kernel_rfl) ?_
  refine NX.then_n ?_
  refine CP.seq ?_
  replace hs := Option.bind_eq_some_iff.1 hs
  obtain ⟨x3, hk1, hs⟩ := hs
  refine CP.drawL (by kernel_rfl) [2, 3, 4] [[], [0], [0, 1], [], [0, 1, 2, 3], [0, 1, 2, 3, 4]] [⟨none, [], [], fun l g => Box g m0 b1 32 [encA .u8 d1, [.int .i64 x1], encA .i64 d2, [.slice a1 n1 c1]] [8, 1, 2, 1]⟩, ⟨none, [0], [], fun l g => OwnS k_S_purse_Held g m1 56 a1 n1 c1 l1⟩, ⟨none, [], [], fun l g => Box g m2 b2 29 [encA .u8 d3] [8]⟩, ⟨some 0, [], [0], fun l g => l.getD 0 undef = AG [encA .u8 d1, [.int .i64 x1], encA .i64 d2, [.slice a1 n1 c1]]⟩, ⟨some 1, [], [1], fun l g => l.getD 0 undef = AG [encA .u8 d3]⟩, ⟨some 2, [], [2], fun l g => l.getD 0 undef = .int .i64 x3⟩, ⟨some 2, [0], [], fun l g => OwnS k_S_purse_Held g m1 56 a1 n1 c1 l1⟩] [[], [], [0]] [m1] [0, 1] [5] (by kernel_rfl) (by simp <;> omega) (by simp) ⟨fun _ _ _ _ st h0 hl hj hB1 => (hB1.mono st (fun h => absurd (hl _ h) (by simp <;> omega))), fun _ _ _ _ st h0 hl hj hR1 => (hR1.mono st h0 (hj 0 (by simp) _ rfl)), fun _ _ _ _ st h0 hl hj hB2 => (hB2.mono st (fun h => absurd (hl _ h) (by simp <;> omega))), fun _ _ _ _ st h0 hl hj e0 => e0, fun _ _ _ _ st h0 hl hj e1 => e1, fun _ _ _ _ st h0 hl hj e2 => e2, fun _ _ _ _ st h0 hl hj hR1 => (hR1.mono st h0 (hj 0 (by simp) _ rfl)), trivial⟩ ⟨hB1, hR1, hB2, trivial, trivial, trivial, trivial, trivial⟩ (by kernel_rfl) (fun vs => by kernel_rfl) ?_ ?_ ?_
  · intro j hj
    have hq : j = 0 := by have h : j < 1 := hj; omega
    rcases hq with rfl
    · intro vs gq stq hl hf
      obtain ⟨v0, v1, v2, rfl⟩ := len_k3 hl
      have e2 := (show v2 = .int .i64 x3 from hf _ (List.mem_of_getElem? (i := 5) rfl) (by kernel_rfl))
      subst e2
      show Option.isSome _ = true
      kernel_rfl
  · intro j hj
    have hq : j = 0 ∨ j = 1 ∨ j = 2 := by have h : j < 3 := hj; omega
    rcases hq with rfl | rfl | rfl
    · intro vs gq stq hl hf
      obtain ⟨v0, v1, v2, rfl⟩ := len_k3 hl
      have hB1 := (show Box gq m0 b1 32 [encA .u8 d1, [.int .i64 x1], encA .i64 d2, [.slice a1 n1 c1]] [8, 1, 2, 1] from hf _ (List.mem_of_getElem? (i := 0) rfl) (by kernel_rfl))
      refine WP.loadB (v := AG [encA .u8 d1, [.int .i64 x1], encA .i64 d2, [.slice a1 n1 c1]]) hB1 (by kernel_rfl) (by kernel_rfl) ?_
      refine WP.done (by kernel_rfl) (Shown.ok (v := AG [encA .u8 d1, [.int .i64 x1], encA .i64 d2, [.slice a1 n1 c1]]) (by kernel_rfl) (Step.refl _ _) ?_)
      exact ⟨trivial, trivial, trivial, rfl, trivial, trivial, trivial, trivial⟩
    · intro vs gq stq hl hf
      obtain ⟨v0, v1, v2, rfl⟩ := len_k3 hl
      have hB2 := (show Box gq m2 b2 29 [encA .u8 d3] [8] from hf _ (List.mem_of_getElem? (i := 2) rfl) (by kernel_rfl))
      refine WP.loadB (v := AG [encA .u8 d3]) hB2 (by kernel_rfl) (by kernel_rfl) ?_
      refine WP.done (by kernel_rfl) (Shown.ok (v := AG [encA .u8 d3]) (by kernel_rfl) (Step.refl _ _) ?_)
      exact ⟨trivial, trivial, trivial, trivial, rfl, trivial, trivial, trivial⟩
    · intro vs gq stq hl hf
      obtain ⟨v0, v1, v2, rfl⟩ := len_k3 hl
      have hR1 := (show OwnS k_S_purse_Held gq m1 56 a1 n1 c1 l1 from hf _ (List.mem_of_getElem? (i := 1) rfl) (by kernel_rfl))
      have e0 := (show v0 = AG [encA .u8 d1, [.int .i64 x1], encA .i64 d2, [.slice a1 n1 c1]] from hf _ (List.mem_of_getElem? (i := 3) rfl) (by kernel_rfl))
      subst e0
      have e1 := (show v1 = AG [encA .u8 d3] from hf _ (List.mem_of_getElem? (i := 4) rfl) (by kernel_rfl))
      subst e1
      have hS1 : 0 ∉ ([m1] : List Nat) := by simp <;> omega
      have stl1 := GW.lend_step gq [m1]
      have hRl1 := hR1.lendTo hS1 (by simp)
      refine WP.regw (g' := GW.lend gq [m1]) rfl ?_
      have hcal1 := P.purse_Purse_at (GW.lend gq [m1]) d1 x1 d2 l1 d3 a1 n1 c1 hRl1 x3 hk1
      refine WP.callC hcal1 (by kernel_rfl) ?_
      rintro _ g1 st1 rfl
      have st2 := (GW.back_step st1).lentS
      have hO1 := hR1.backTo hS1 (by simp) st1 (fun x => x)
      refine WP.regw (g' := GW.back gq g1 [m1]) rfl ?_
      generalize GW.back gq g1 [m1] = g2 at *
      refine WP.done (by kernel_rfl) (Shown.ok (v := .int .i64 x3) (by kernel_rfl) st2 ?_)
      exact ⟨trivial, trivial, trivial, trivial, trivial, rfl, hO1, trivial⟩
  intro vs g3 st3 hl hf
  obtain ⟨v0, v1, v2, rfl⟩ := len_k3 hl
  have e2 := (show v2 = .int .i64 x3 from hf _ (List.mem_of_getElem? (i := 5) rfl) (by kernel_rfl))
  subst e2
  have hR1 := (show OwnS k_S_purse_Held g3 m1 56 a1 n1 c1 l1 from hf _ (List.mem_of_getElem? (i := 6) rfl) (by kernel_rfl))
  replace hB1 := hB1.mono st3 (WL.no1 (by omega))
  replace hB3 := hB3.mono st3 (WL.no1 (by omega))
  replace tot := tot.trans (st3.up1 (.inl (by simp [WL])))
  refine NX.then_n ?_
  refine CP.refr 28 [(0, .pointer (some ⟨b1, 0, none⟩)), (2, .pointer (some ⟨b3, 0, none⟩)), (5, .int .i64 x3)] (by kernel_rfl) (by kernel_rfl) ?_
  clear ds
  intro ds
  refine CP.seq ?_
  refine CP.block ?_
  refine CP.seqR ?_
  refine WP.still 3 (by kernel_rfl) ?_
  refine WP.done (by kernel_rfl) ?_
  refine NX.then_n ?_
  refine CP.cond (b := decide (x3 < 0)) (by kernel_rfl) (fun h1 => ?_) (fun h1 => ?_)
  · replace hs := of_if_t hs h1
    refine CP.seqR ?_
    refine WP.still 1 (by kernel_rfl) ?_
    refine WP.done (by kernel_rfl) ?_
    refine NX.then_n ?_
    refine CP.ret ?_
    refine NX.block_r ?_
    refine NX.then_r ?_
    obtain ⟨g4, hw1, st4, hnew⟩ := hR1.freeze (by omega)
    refine NX.regw hw1 ?_
    replace hB1 := hB1.mono st4 (WL.no1 (by omega))
    replace tot := tot.trans (st4.up1 (.inl (by simp [WL])))
    clear hR1
    have hR1 := hnew
    clear hnew
    replace hs := Option.some.inj hs
    simp only [Prod.mk.injEq] at hs
    obtain ⟨rfl, rfl, rfl, rfl, rfl⟩ := hs
    exact NX.fin (v := .int .i64 9) (Res.still (by kernel_rfl)) tot htL ⟨a1, n1, c1, rfl, hR1, hB1⟩
  replace hs := of_if_f hs h1
  refine CP.seq ?_
  by_cases hc1 : (0 : Int) ≤ x3 ∧ x3 < (l1.length : Int)
  case neg => rw [if_neg hc1] at hs; cases hs
  replace hs := of_if_p hs hc1
  obtain ⟨b4, u1, ha1⟩ := hR1.at hc1
  refine CP.drawL (by kernel_rfl) [0, 4, 6, 8] N.purse_Purse_Back_1_0 [⟨none, [], [], fun l g => Box g m0 b1 32 [encA .u8 d1, [.int .i64 x1], encA .i64 d2, [.slice a1 n1 c1]] [8, 1, 2, 1]⟩, ⟨none, [], [], fun l g => OwnS k_S_purse_Held g m1 56 a1 n1 c1 l1⟩, ⟨none, [], [], fun l g => Box g m3 b3 3 [[.int .i64 x2]] [1]⟩, ⟨some 0, [], [0], fun l g => l.getD 0 undef = .int .i64 x2⟩, ⟨some 1, [], [1], fun l g => l.getD 0 undef = .slice a1 n1 c1⟩, ⟨some 2, [], [2], fun l g => l.getD 0 undef = .pointer (some ⟨b4, u1 + x3.toNat * 11, none⟩)⟩, ⟨some 3, [], [3], fun l g => l.getD 0 undef = .int .i64 ((getI l1 x3).f4)⟩] [[], [], [], []] [] [1, 2, 3, 5] [7, 9, 10] (by kernel_rfl) (by simp) (by simp) ⟨fun _ _ _ _ st h0 hl hj hB1 => (hB1.mono st (fun h => absurd (hl _ h) (by simp))), fun _ _ _ _ st h0 hl hj hR1 => (hR1.mono st h0 (fun h => absurd (hl _ h) (by simp))), fun _ _ _ _ st h0 hl hj hB3 => (hB3.mono st (fun h => absurd (hl _ h) (by simp))), fun _ _ _ _ st h0 hl hj e0 => e0, fun _ _ _ _ st h0 hl hj e1 => e1, fun _ _ _ _ st h0 hl hj e2 => e2, fun _ _ _ _ st h0 hl hj e3 => e3, trivial⟩ ⟨hB1, hR1, hB3, trivial, trivial, trivial, trivial, trivial⟩ (by kernel_rfl) (fun vs => by kernel_rfl) ?_ ?_ ?_
  · intro j hj
    have hq : j = 0 ∨ j = 1 ∨ j = 2 := by have h : j < 3 := hj; omega
    rcases hq with rfl | rfl | rfl
    · intro vs gq stq hl hf
      obtain ⟨v0, v1, v2, v3, rfl⟩ := len_k4 hl
      have e2 := (show v2 = .pointer (some ⟨b4, u1 + x3.toNat * 11, none⟩) from hf _ (List.mem_of_getElem? (i := 5) rfl) (by kernel_rfl))
      subst e2
      show Option.isSome _ = true
      kernel_rfl
    · intro vs gq stq hl hf
      obtain ⟨v0, v1, v2, v3, rfl⟩ := len_k4 hl
      have e0 := (show v0 = .int .i64 x2 from hf _ (List.mem_of_getElem? (i := 3) rfl) (by kernel_rfl))
      subst e0
      have e3 := (show v3 = .int .i64 ((getI l1 x3).f4) from hf _ (List.mem_of_getElem? (i := 6) rfl) (by kernel_rfl))
      subst e3
      show Option.isSome _ = true
      kernel_rfl
    · intro vs gq stq hl hf
      obtain ⟨v0, v1, v2, v3, rfl⟩ := len_k4 hl
      have e0 := (show v0 = .int .i64 x2 from hf _ (List.mem_of_getElem? (i := 3) rfl) (by kernel_rfl))
      subst e0
      have e3 := (show v3 = .int .i64 ((getI l1 x3).f4) from hf _ (List.mem_of_getElem? (i := 6) rfl) (by kernel_rfl))
      subst e3
      show Option.isSome _ = true
      kernel_rfl
  · intro j hj
    have hq : j = 0 ∨ j = 1 ∨ j = 2 ∨ j = 3 := by have h : j < 4 := hj; omega
    rcases hq with rfl | rfl | rfl | rfl
    · intro vs gq stq hl hf
      obtain ⟨v0, v1, v2, v3, rfl⟩ := len_k4 hl
      have hB3 := (show Box gq m3 b3 3 [[.int .i64 x2]] [1] from hf _ (List.mem_of_getElem? (i := 2) rfl) (by kernel_rfl))
      refine WP.loadB (v := .int .i64 x2) hB3 (by kernel_rfl) (by kernel_rfl) ?_
      refine WP.done (by kernel_rfl) (Shown.ok (v := .int .i64 x2) (by kernel_rfl) (Step.refl _ _) ?_)
      exact ⟨trivial, trivial, trivial, rfl, trivial, trivial, trivial, trivial⟩
    · intro vs gq stq hl hf
      obtain ⟨v0, v1, v2, v3, rfl⟩ := len_k4 hl
      have hB1 := (show Box gq m0 b1 32 [encA .u8 d1, [.int .i64 x1], encA .i64 d2, [.slice a1 n1 c1]] [8, 1, 2, 1] from hf _ (List.mem_of_getElem? (i := 0) rfl) (by kernel_rfl))
      refine WP.loadB (v := .slice a1 n1 c1) hB1 (by kernel_rfl) (by kernel_rfl) ?_
      refine WP.done (by kernel_rfl) (Shown.ok (v := .slice a1 n1 c1) (by kernel_rfl) (Step.refl _ _) ?_)
      exact ⟨trivial, trivial, trivial, trivial, rfl, trivial, trivial, trivial⟩
    · intro vs gq stq hl hf
      obtain ⟨v0, v1, v2, v3, rfl⟩ := len_k4 hl
      have hR1 := (show OwnS k_S_purse_Held gq m1 56 a1 n1 c1 l1 from hf _ (List.mem_of_getElem? (i := 1) rfl) (by kernel_rfl))
      have e1 := (show v1 = .slice a1 n1 c1 from hf _ (List.mem_of_getElem? (i := 4) rfl) (by kernel_rfl))
      subst e1
      refine WP.indexA (t := 30) (e := 56) (sz := 11) (cap := c1) (k := .i64) (i := x3) hR1.len ha1 (by kernel_rfl) (by kernel_rfl) hc1 ?_
      refine WP.done (by kernel_rfl) (Shown.ok (v := .pointer (some ⟨b4, u1 + x3.toNat * 11, none⟩)) (by kernel_rfl) (Step.refl _ _) ?_)
      exact ⟨trivial, trivial, trivial, trivial, trivial, rfl, trivial, trivial⟩
    · intro vs gq stq hl hf
      obtain ⟨v0, v1, v2, v3, rfl⟩ := len_k4 hl
      have hR1 := (show OwnS k_S_purse_Held gq m1 56 a1 n1 c1 l1 from hf _ (List.mem_of_getElem? (i := 1) rfl) (by kernel_rfl))
      have e2 := (show v2 = .pointer (some ⟨b4, u1 + x3.toNat * 11, none⟩) from hf _ (List.mem_of_getElem? (i := 5) rfl) (by kernel_rfl))
      subst e2
      obtain ⟨cs1, hcR1, hcV1⟩ := hR1.src.view (getI_some hc1) ha1
      replace hcR1 := k_S_purse_Held.opn hcR1
      refine WP.loadV [encA .u8 ((getI l1 x3).f1), [.int .i64 ((getI l1 x3).f2)], [.int .i64 ((getI l1 x3).f3)], [.int .i64 ((getI l1 x3).f4)]] [8, 1, 1, 1] hcV1 hcR1 (by simp [len_encA]) (f := 10) (ty := 3) (agg := false) (size := 1) (rs := [[.int .i64 ((getI l1 x3).f4)]]) (v := .int .i64 ((getI l1 x3).f4)) (by kernel_rfl) (by kernel_rfl) (by kernel_rfl) (by kernel_rfl) ?_
      refine WP.done (by kernel_rfl) (Shown.ok (v := .int .i64 ((getI l1 x3).f4)) (by kernel_rfl) (Step.refl _ _) ?_)
      exact ⟨trivial, trivial, trivial, trivial, trivial, trivial, rfl, trivial⟩
  intro vs g5 st5 hl hf
  obtain ⟨v0, v1, v2, v3, rfl⟩ := len_k4 hl
  have e0 := (show v0 = .int .i64 x2 from hf _ (List.mem_of_getElem? (i := 3) rfl) (by kernel_rfl))
  subst e0
  have e3 := (show v3 = .int .i64 ((getI l1 x3).f4) from hf _ (List.mem_of_getElem? (i := 6) rfl) (by kernel_rfl))
  subst e3
  replace hB1 := hB1.mono st5.toNo (fun x => x)
  replace hR1 := hR1.mono st5.toNo (fun x => x) (fun x => x)
  replace tot := tot.trans st5.toNo.pure
  refine NX.then_n ?_
  refine CP.refr 28 [(0, .pointer (some ⟨b1, 0, none⟩)), (5, .int .i64 x3), (14, .bool (decide (x2 ≤ (getI l1 x3).f4)))] (by kernel_rfl) (by kernel_rfl) ?_
  clear ds
  intro ds
  refine CP.cond (b := decide (x2 ≤ (getI l1 x3).f4)) (by kernel_rfl) (fun h2 => ?_) (fun h2 => ?_)
  · replace hs := of_if_t hs h2
    refine CP.seqR ?_
    refine WP.still 1 (by kernel_rfl) ?_
    refine WP.done (by kernel_rfl) ?_
    refine NX.then_n ?_
    refine CP.ret ?_
    refine NX.block_r ?_
    refine NX.then_r ?_
    obtain ⟨g6, hw2, st6, hnew⟩ := hR1.freeze (by omega)
    refine NX.regw hw2 ?_
    replace hB1 := hB1.mono st6 (WL.no1 (by omega))
    replace tot := tot.trans (st6.up1 (.inl (by simp [WL])))
    clear hR1
    have hR1 := hnew
    clear hnew
    replace hs := Option.some.inj hs
    simp only [Prod.mk.injEq] at hs
    obtain ⟨rfl, rfl, rfl, rfl, rfl⟩ := hs
    exact NX.fin (v := .int .i64 20) (Res.still (by kernel_rfl)) tot htL ⟨a1, n1, c1, rfl, hR1, hB1⟩
  replace hs := of_if_f hs h2
  refine CP.skip ?_
  refine NX.block_n ?_
  refine NX.then_n ?_
  refine CP.seqR ?_
  refine WP.still 2 (by kernel_rfl) ?_
  replace hs := Option.bind_eq_some_iff.1 hs
  obtain ⟨⟨d4, x4, d5, d6⟩, hk2, hs⟩ := hs
  dsimp only at hs
  have hcal2 := P.purse_Purse_part g5 m0 m1 d1 x1 d2 l1 x3 0 a1 n1 c1 b1 hR1 hB1 (by omega) (by omega) (by omega) d4 x4 d5 d6 hk2
  refine WP.callC hcal2 (by kernel_rfl) ?_
  rintro _ g7 st7 ⟨a2, n2, c2, rfl, hR2, hB4⟩
  replace tot := tot.trans (st7.up2 (.inl (by simp [WL])) (.inl (by simp [WL])))
  clear hB1
  have hB1 := hB4
  clear hB4
  refine WP.done (by kernel_rfl) ?_
  refine NX.then_n ?_
  refine CP.seqR ?_
  refine WP.still 1 (by kernel_rfl) ?_
  refine WP.done (by kernel_rfl) ?_
  refine NX.then_n ?_
  refine CP.ret ?_
  replace hs := Option.some.inj hs
  simp only [Prod.mk.injEq] at hs
  obtain ⟨rfl, rfl, rfl, rfl, rfl⟩ := hs
  exact NX.fin (v := .int .i64 0) (Res.still (by kernel_rfl)) tot htL ⟨a2, n2, c2, rfl, hR2, hB1⟩
def F.purse_Purse_next_3 (d1 : Arr Int 8) (x1 : Int) (d2 : Arr Int 2) (l1 : List S_purse_Held) (d3 : Arr Int 8) (x2 : Int) : Option ((Arr Int 8) × Int × (Arr Int 2) × (List S_purse_Held) × Int) := ((F.purse_Purse_Check d1 x1 d2 l1).bind fun x3 => (if (x3 != 0) = true then (some ((zA 8), 0, (zA 2), [], 3)) else (if (x1 == 1099511627776) = true then (some ((zA 8), 0, (zA 2), [], 17)) else ((F.slices_Clone_purse_Held_purse_Held l1).bind fun l2 => ((F.purse_Purse_Back_1 d1 (IntKind.i64.wrap (x1 + 1)) d2 l2 d3 x2).bind fun (x4, d4, x5, d5, d6) => (if (x4 != 0) = true then (some ((zA 8), 0, (zA 2), [], x4)) else (some (d4, x5, d5, d6, 0))))))))
theorem P.purse_Purse_next_3 (g0 : GW) (m0 : Nat) (m1 : Nat) (d1 : Arr Int 8) (x1 : Int) (d2 : Arr Int 2) (l1 : List S_purse_Held) (d3 : Arr Int 8) (x2 : Int) (a1 : Option Addr) (n1 : Nat) (c1 : Nat) (b1 : Nat) (b2 : Nat) (hR1 : RdS k_S_purse_Held g0 56 a1 n1 c1 l1) (hB1 : Box g0 m0 b1 29 [encA .u8 d3] [8]) (hB2 : Box g0 m1 b2 3 [[.int .i64 x2]] [1]) (hm1_0 : m1 ≠ m0) (hm0 : m0 ≠ 0) (hm1 : m1 ≠ 0) (o1 : Arr Int 8) (o2 : Int) (o3 : Arr Int 2) (o4 : List S_purse_Held) (o5 : Int) (hs : F.purse_Purse_next_3 d1 x1 d2 l1 d3 x2 = some (o1, o2, o3, o4, o5)) :
    Calls Try.prog 51 #[AG [encA .u8 d1, [.int .i64 x1], encA .i64 d2, [.slice a1 n1 c1]], .func (.func 55) #[] #[.pointer (some ⟨b1, 0, none⟩), .pointer (some ⟨b2, 0, none⟩)]] g0.w (Ret NoM g0 fun v g => ∃ (a_1 : Option Addr) (n_1 : Nat) (c_1 : Nat), v = .tuple #[AG [encA .u8 o1, [.int .i64 o2], encA .i64 o3, [.slice a_1 n_1 c_1]], .int .i64 o5] ∧ RdS k_S_purse_Held g 56 a_1 n_1 c_1 o4) := by
  refine calls_of (args := [AG [encA .u8 d1, [.int .i64 x1], encA .i64 d2, [.slice a1 n1 c1]], .func (.func 55) #[] #[.pointer (some ⟨b1, 0, none⟩), .pointer (some ⟨b2, 0, none⟩)]]) Try.func51 rfl (m0 + m1 + 0) ?_
  intro t ht htL
  refine ⟨_, rfl, ?_⟩
  refine CP.refr 34 [(0, AG [encA .u8 d1, [.int .i64 x1], encA .i64 d2, [.slice a1 n1 c1]]), (1, .func (.func 55) #[] #[.pointer (some ⟨b1, 0, none⟩), .pointer (some ⟨b2, 0, none⟩)])] (by kernel_rfl) (by kernel_rfl) ?_
  intro ds
  have tot : Step (fun l => NoM l ∨ t ≤ l) g0 g0 := Step.refl _ _
  unfold F.purse_Purse_next_3 at hs
  refine CP.seqR ?_
  refine WP.alloc (T := 32) (t + 1) [encA .u8 d1, [.int .i64 x1], encA .i64 d2, [.slice a1 n1 c1]] [8, 1, 2, 1] (by kernel_rfl) (by simp [len_encA]) ?_
  intro g1 b3 st1 hB3
  replace hR1 := hR1.mono st1 (fun x => x)
  replace hB1 := hB1.mono st1 (fun x => x)
  replace hB2 := hB2.mono st1 (fun x => x)
  replace tot := tot.trans st1.pure
  refine WP.alloc (T := 32) (t + 2) [encA .u8 (zA 8), [.int .i64 0], encA .i64 (zA 2), [.slice none 0 0]] [8, 1, 2, 1] (by kernel_rfl) (by simp [len_encA]) ?_
  intro g2 b4 st2 hB4
  replace hR1 := hR1.mono st2 (fun x => x)
  replace hB1 := hB1.mono st2 (fun x => x)
  replace hB2 := hB2.mono st2 (fun x => x)
  replace hB3 := hB3.mono st2 (fun x => x)
  replace tot := tot.trans st2.pure
  refine WP.still 1 (by kernel_rfl) ?_
  refine WP.done (by kernel_rfl) ?_
  refine NX.then_n ?_
  refine CP.seq ?_
  refine CP.block ?_
  refine CP.seqR ?_
  refine WP.loadB (v := AG [encA .u8 d1, [.int .i64 x1], encA .i64 d2, [.slice a1 n1 c1]]) hB3 (by kernel_rfl) (by kernel_rfl) ?_
  replace hs := Option.bind_eq_some_iff.1 hs
  obtain ⟨x3, hk1, hs⟩ := hs
  have hcal1 := P.purse_Purse_Check g2 d1 x1 d2 l1 a1 n1 c1 hR1 x3 hk1
  refine WP.callC hcal1 (by kernel_rfl) ?_
  rintro _ g3 st3 rfl
  replace hB1 := hB1.mono st3 (fun x => x)
  replace hB2 := hB2.mono st3 (fun x => x)
  replace hB3 := hB3.mono st3 (fun x => x)
  replace hR1 := hR1.mono st3 (fun x => x)
  replace hB4 := hB4.mono st3 (fun x => x)
  replace tot := tot.trans st3.pure
  refine WP.still 2 (by kernel_rfl) ?_
  refine WP.done (by kernel_rfl) ?_
  refine NX.then_n ?_
  refine CP.cond (b := (x3 != 0)) (by kernel_rfl) (fun h1 => ?_) (fun h1 => ?_)
  · replace hs := of_if_t hs h1
    refine CP.seqR ?_
    refine WP.buildS (places := #[(0, 8), (8, 1), (9, 2), (11, 1)]) (t := 32) [encA .u8 (zA 8), [.int .i64 0], encA .i64 (zA 2), [.slice none 0 0]] [8, 1, 2, 1] (by kernel_rfl) (by kernel_rfl) (by simp [len_encA]) (by kernel_rfl) (.nil) ?_
    refine WP.storeB (ty := 32) (off := 0) (v := AG [encA .u8 (zA 8), [.int .i64 0], encA .i64 (zA 2), [.slice none 0 0]]) hB4 [encA .u8 (zA 8), [.int .i64 0], encA .i64 (zA 2), [.slice none 0 0]] [8, 1, 2, 1] (by kernel_rfl) (by kernel_rfl) (by simp [len_encA]) (by kernel_rfl) [encA .u8 (zA 8), [.int .i64 0], encA .i64 (zA 2), [.slice none 0 0]] (by kernel_rfl) (.arr (.one rfl (.arr (.one rfl .nil)))) ?_
    intro g4 st4 hB5
    replace hB1 := hB1.mono st4 (WL.no1 (by omega))
    replace hB2 := hB2.mono st4 (WL.no1 (by omega))
    replace hB3 := hB3.mono st4 (WL.no1 (by omega))
    replace hR1 := hR1.mono st4 (WL.no1 (by omega))
    replace tot := tot.trans (st4.up1 (.inr (by omega)))
    clear hB4
    have hB4 := hB5
    clear hB5
    refine WP.still 1 (by kernel_rfl) ?_
    refine WP.done (by kernel_rfl) ?_
    refine NX.then_n ?_
    refine CP.ret ?_
    refine NX.block_r ?_
    refine NX.then_r ?_
    replace hs := Option.some.inj hs
    simp only [Prod.mk.injEq] at hs
    obtain ⟨rfl, rfl, rfl, rfl, rfl⟩ := hs
    exact NX.fin (v := .tuple #[AG [encA .u8 (zA 8), [.int .i64 0], encA .i64 (zA 2), [.slice none 0 0]], .int .i64 3]) (Res.two rfl (RV.box (agg := true) (size := 12) (rs := [encA .u8 (zA 8), [.int .i64 0], encA .i64 (zA 2), [.slice none 0 0]]) hB4 (by kernel_rfl) (by kernel_rfl) (by kernel_rfl) (by kernel_rfl)) (RV.tmp (by kernel_rfl))) tot htL ⟨none, 0, 0, rfl, (RdS.nil _ _ _)⟩
  replace hs := of_if_f hs h1
  refine CP.seqR ?_
  refine WP.still 1 (by kernel_rfl) ?_
  refine WP.loadB (v := .int .i64 x1) hB3 (by kernel_rfl) (by kernel_rfl) ?_
  refine WP.still 2 (by kernel_rfl) ?_
  refine WP.done (by kernel_rfl) ?_
  refine NX.then_n ?_
  refine CP.cond (b := (x1 == 1099511627776)) (by kernel_rfl) (fun h2 => ?_) (fun h2 => ?_)
  · replace hs := of_if_t hs h2
    refine CP.seqR ?_
    refine WP.buildS (places := #[(0, 8), (8, 1), (9, 2), (11, 1)]) (t := 32) [encA .u8 (zA 8), [.int .i64 0], encA .i64 (zA 2), [.slice none 0 0]] [8, 1, 2, 1] (by kernel_rfl) (by kernel_rfl) (by simp [len_encA]) (by kernel_rfl) (.nil) ?_
    refine WP.storeB (ty := 32) (off := 0) (v := AG [encA .u8 (zA 8), [.int .i64 0], encA .i64 (zA 2), [.slice none 0 0]]) hB4 [encA .u8 (zA 8), [.int .i64 0], encA .i64 (zA 2), [.slice none 0 0]] [8, 1, 2, 1] (by kernel_rfl) (by kernel_rfl) (by simp [len_encA]) (by kernel_rfl) [encA .u8 (zA 8), [.int .i64 0], encA .i64 (zA 2), [.slice none 0 0]] (by kernel_rfl) (.arr (.one rfl (.arr (.one rfl .nil)))) ?_
    intro g5 st5 hB6
    replace hB1 := hB1.mono st5 (WL.no1 (by omega))
    replace hB2 := hB2.mono st5 (WL.no1 (by omega))
    replace hB3 := hB3.mono st5 (WL.no1 (by omega))
    replace hR1 := hR1.mono st5 (WL.no1 (by omega))
    replace tot := tot.trans (st5.up1 (.inr (by omega)))
    clear hB4
    have hB4 := hB6
    clear hB6
    refine WP.still 1 (by kernel_rfl) ?_
    refine WP.done (by kernel_rfl) ?_
    refine NX.then_n ?_
    refine CP.refr 34 [(4, .pointer (some ⟨b4, 0, none⟩)), (5, .int .i64 17)] (by kernel_rfl) (by kernel_rfl) ?_
    clear ds
    intro ds
    refine CP.ret ?_
    refine NX.block_r ?_
    refine NX.then_r ?_
    replace hs := Option.some.inj hs
    simp only [Prod.mk.injEq] at hs
    obtain ⟨rfl, rfl, rfl, rfl, rfl⟩ := hs
    exact NX.fin (v := .tuple #[AG [encA .u8 (zA 8), [.int .i64 0], encA .i64 (zA 2), [.slice none 0 0]], .int .i64 17]) (Res.two rfl (RV.box (agg := true) (size := 12) (rs := [encA .u8 (zA 8), [.int .i64 0], encA .i64 (zA 2), [.slice none 0 0]]) hB4 (by kernel_rfl) (by kernel_rfl) (by kernel_rfl) (by kernel_rfl)) (RV.tmp (by kernel_rfl))) tot htL ⟨none, 0, 0, rfl, (RdS.nil _ _ _)⟩
  replace hs := of_if_f hs h2
  refine CP.skip ?_
  refine NX.block_n ?_
  refine NX.then_n ?_
  refine CP.seqR ?_
  refine WP.loadB (v := AG [encA .u8 d1, [.int .i64 x1], encA .i64 d2, [.slice a1 n1 c1]]) hB3 (by kernel_rfl) (by kernel_rfl) ?_
  refine WP.alloc (T := 32) (t + 3) [encA .u8 (zA 8), [.int .i64 0], encA .i64 (zA 2), [.slice none 0 0]] [8, 1, 2, 1] (by kernel_rfl) (by simp [len_encA]) ?_
  intro g6 b5 st6 hB7
  replace hB1 := hB1.mono st6 (fun x => x)
  replace hB2 := hB2.mono st6 (fun x => x)
  replace hB3 := hB3.mono st6 (fun x => x)
  replace hR1 := hR1.mono st6 (fun x => x)
  replace hB4 := hB4.mono st6 (fun x => x)
  replace tot := tot.trans st6.pure
  refine WP.storeB (ty := 32) (off := 0) (v := AG [encA .u8 d1, [.int .i64 x1], encA .i64 d2, [.slice a1 n1 c1]]) hB7 [encA .u8 d1, [.int .i64 x1], encA .i64 d2, [.slice a1 n1 c1]] [8, 1, 2, 1] (by kernel_rfl) (by kernel_rfl) (by simp [len_encA]) (by kernel_rfl) [encA .u8 d1, [.int .i64 x1], encA .i64 d2, [.slice a1 n1 c1]] (by kernel_rfl) (.arr (.one rfl (.arr (.one rfl .nil)))) ?_
  intro g7 st7 hB8
  replace hB1 := hB1.mono st7 (WL.no1 (by omega))
  replace hB2 := hB2.mono st7 (WL.no1 (by omega))
  replace hB3 := hB3.mono st7 (WL.no1 (by omega))
  replace hR1 := hR1.mono st7 (WL.no1 (by omega))
  replace hB4 := hB4.mono st7 (WL.no1 (by omega))
  replace tot := tot.trans (st7.up1 (.inr (by omega)))
  clear hB7
  have hB7 := hB8
  clear hB8
  refine WP.done (by kernel_rfl) ?_
  refine NX.then_n ?_
  refine CP.refr 34 [(1, .func (.func 55) #[] #[.pointer (some ⟨b1, 0, none⟩), .pointer (some ⟨b2, 0, none⟩)]), (2, .pointer (some ⟨b3, 0, none⟩)), (4, .pointer (some ⟨b4, 0, none⟩)), (6, .pointer (some ⟨b5, 0, none⟩))] (by kernel_rfl) (by kernel_rfl) ?_
  clear ds
  intro ds
  refine CP.seqR ?_
  refine WP.still 1 (by kernel_rfl) ?_
  refine WP.loadB (v := .int .i64 x1) hB7 (by kernel_rfl) (by kernel_rfl) ?_
  refine WP.still 2 (by kernel_rfl) ?_
  refine WP.storeB (ty := 3) (off := 8) (v := .int .i64 (IntKind.i64.wrap (x1 + 1))) hB7 [[.int .i64 (IntKind.i64.wrap (x1 + 1))]] [1] (by kernel_rfl) (by kernel_rfl) rfl (by kernel_rfl) [encA .u8 d1, [.int .i64 (IntKind.i64.wrap (x1 + 1))], encA .i64 d2, [.slice a1 n1 c1]] (by kernel_rfl) (.one rfl .nil) ?_
  intro g8 st8 hB9
  replace hB1 := hB1.mono st8 (WL.no1 (by omega))
  replace hB2 := hB2.mono st8 (WL.no1 (by omega))
  replace hB3 := hB3.mono st8 (WL.no1 (by omega))
  replace hR1 := hR1.mono st8 (WL.no1 (by omega))
  replace hB4 := hB4.mono st8 (WL.no1 (by omega))
  replace tot := tot.trans (st8.up1 (.inr (by omega)))
  clear hB7
  have hB7 := hB9
  clear hB9
  refine WP.done (by kernel_rfl) ?_
  refine NX.then_n ?_
  refine CP.seqR ?_
  refine WP.still 1 (by kernel_rfl) ?_
  refine WP.loadB (v := .slice a1 n1 c1) hB3 (by kernel_rfl) (by kernel_rfl) ?_
  replace hs := Option.bind_eq_some_iff.1 hs
  obtain ⟨l2, hk2, hs⟩ := hs
  have hcal2 := P.slices_Clone_purse_Held_purse_Held g8 (t + 4) l1 a1 n1 c1 hR1 l2 hk2
  refine WP.callC hcal2 (by kernel_rfl) ?_
  rintro _ g9 st9 ⟨a2, n2, c2, rfl, hR2⟩
  replace hB1 := hB1.mono st9 (fun x => x)
  replace hB2 := hB2.mono st9 (fun x => x)
  replace hB3 := hB3.mono st9 (fun x => x)
  replace hR1 := hR1.mono st9 (fun x => x)
  replace hB4 := hB4.mono st9 (fun x => x)
  replace hB7 := hB7.mono st9 (fun x => x)
  replace tot := tot.trans st9.pure
  refine WP.still 1 (by kernel_rfl) ?_
  refine WP.storeB (ty := 30) (off := 11) (v := .slice a2 n2 c2) hB7 [[.slice a2 n2 c2]] [1] (by kernel_rfl) (by kernel_rfl) rfl (by kernel_rfl) [encA .u8 d1, [.int .i64 (IntKind.i64.wrap (x1 + 1))], encA .i64 d2, [.slice a2 n2 c2]] (by kernel_rfl) (.one rfl .nil) ?_
  intro g10 st10 hB10
  replace hB1 := hB1.mono st10 (WL.no1 (by omega))
  replace hB2 := hB2.mono st10 (WL.no1 (by omega))
  replace hB3 := hB3.mono st10 (WL.no1 (by omega))
  replace hR1 := hR1.mono st10 (WL.no1 (by omega))
  replace hB4 := hB4.mono st10 (WL.no1 (by omega))
  replace hR2 := hR2.mono st10 (WL.no1 (by omega)) (WL.no1 (by omega))
  replace tot := tot.trans (st10.up1 (.inr (by omega)))
  clear hB7
  have hB7 := hB10
  clear hB10
  refine WP.done (by kernel_rfl) ?_
  refine NX.then_n ?_
  refine CP.seq ?_
  refine CP.seqR ?_
  refine WP.still 1 (by kernel_rfl) ?_
  replace hs := Option.bind_eq_some_iff.1 hs
  obtain ⟨⟨x4, d4, x5, d5, d6⟩, hk3, hs⟩ := hs
  dsimp only at hs
  have hcal3 := P.purse_Purse_Back_1 g10 (t + 3) (t + 4) m0 m1 d1 (IntKind.i64.wrap (x1 + 1)) d2 l2 d3 x2 a2 n2 c2 b5 b1 b2 hR2 hB7 hB1 hB2 (by omega) (by omega) (by omega) (by omega) (by omega) (by omega) (by omega) (by omega) (by omega) (by omega) x4 d4 x5 d5 d6 hk3
  refine WP.callC hcal3 (by kernel_rfl) ?_
  rintro _ g11 st11 ⟨a3, n3, c3, rfl, hR3, hB11⟩
  replace hB1 := hB1.mono st11 (WL.no2 (by omega) (by omega))
  replace hB2 := hB2.mono st11 (WL.no2 (by omega) (by omega))
  replace hB4 := hB4.mono st11 (WL.no2 (by omega) (by omega))
  replace tot := tot.trans (st11.up2 (.inr (by omega)) (.inr (by omega)))
  clear hB7
  have hB7 := hB11
  clear hB11
  refine WP.still 1 (by kernel_rfl) ?_
  refine WP.done (by kernel_rfl) ?_
  refine NX.then_n ?_
  refine CP.refr 34 [(4, .pointer (some ⟨b4, 0, none⟩)), (6, .pointer (some ⟨b5, 0, none⟩)), (7, .int .i64 x4)] (by kernel_rfl) (by kernel_rfl) ?_
  clear ds
  intro ds
  refine CP.seqR ?_
  refine WP.still 2 (by kernel_rfl) ?_
  refine WP.done (by kernel_rfl) ?_
  refine NX.then_n ?_
  refine CP.cond (b := (x4 != 0)) (by kernel_rfl) (fun h3 => ?_) (fun h3 => ?_)
  · replace hs := of_if_t hs h3
    refine CP.seqR ?_
    refine WP.buildS (places := #[(0, 8), (8, 1), (9, 2), (11, 1)]) (t := 32) [encA .u8 (zA 8), [.int .i64 0], encA .i64 (zA 2), [.slice none 0 0]] [8, 1, 2, 1] (by kernel_rfl) (by kernel_rfl) (by simp [len_encA]) (by kernel_rfl) (.nil) ?_
    refine WP.still 1 (by kernel_rfl) ?_
    refine WP.storeB (ty := 32) (off := 0) (v := AG [encA .u8 (zA 8), [.int .i64 0], encA .i64 (zA 2), [.slice none 0 0]]) hB4 [encA .u8 (zA 8), [.int .i64 0], encA .i64 (zA 2), [.slice none 0 0]] [8, 1, 2, 1] (by kernel_rfl) (by kernel_rfl) (by simp [len_encA]) (by kernel_rfl) [encA .u8 (zA 8), [.int .i64 0], encA .i64 (zA 2), [.slice none 0 0]] (by kernel_rfl) (.arr (.one rfl (.arr (.one rfl .nil)))) ?_
    intro g12 st12 hB12
    replace hB7 := hB7.mono st12 (WL.no1 (by omega))
    replace hR3 := hR3.mono st12 (WL.no1 (by omega))
    replace tot := tot.trans (st12.up1 (.inr (by omega)))
    clear hB4
    have hB4 := hB12
    clear hB12
    refine WP.still 1 (by kernel_rfl) ?_
    refine WP.done (by kernel_rfl) ?_
    refine NX.then_n ?_
    refine CP.ret ?_
    refine NX.then_r ?_
    replace hs := Option.some.inj hs
    simp only [Prod.mk.injEq] at hs
    obtain ⟨rfl, rfl, rfl, rfl, rfl⟩ := hs
    exact NX.fin (v := .tuple #[AG [encA .u8 (zA 8), [.int .i64 0], encA .i64 (zA 2), [.slice none 0 0]], .int .i64 x4]) (Res.two rfl (RV.box (agg := true) (size := 12) (rs := [encA .u8 (zA 8), [.int .i64 0], encA .i64 (zA 2), [.slice none 0 0]]) hB4 (by kernel_rfl) (by kernel_rfl) (by kernel_rfl) (by kernel_rfl)) (RV.tmp (by kernel_rfl))) tot htL ⟨none, 0, 0, rfl, (RdS.nil _ _ _)⟩
  replace hs := of_if_f hs h3
  refine CP.skip ?_
  refine NX.then_n ?_
  refine CP.seqR ?_
  refine WP.loadB (v := AG [encA .u8 d4, [.int .i64 x5], encA .i64 d5, [.slice a3 n3 c3]]) hB7 (by kernel_rfl) (by kernel_rfl) ?_
  refine WP.storeB (ty := 32) (off := 0) (v := AG [encA .u8 d4, [.int .i64 x5], encA .i64 d5, [.slice a3 n3 c3]]) hB4 [encA .u8 d4, [.int .i64 x5], encA .i64 d5, [.slice a3 n3 c3]] [8, 1, 2, 1] (by kernel_rfl) (by kernel_rfl) (by simp [len_encA]) (by kernel_rfl) [encA .u8 d4, [.int .i64 x5], encA .i64 d5, [.slice a3 n3 c3]] (by kernel_rfl) (.arr (.one rfl (.arr (.one rfl .nil)))) ?_
  intro g13 st13 hB13
  replace hR3 := hR3.mono st13 (WL.no1 (by omega))
  replace hB7 := hB7.mono st13 (WL.no1 (by omega))
  replace tot := tot.trans (st13.up1 (.inr (by omega)))
  clear hB4
  have hB4 := hB13
  clear hB13
  refine WP.still 1 (by kernel_rfl) ?_
  refine WP.done (by kernel_rfl) ?_
  refine NX.then_n ?_
  refine CP.ret ?_
  replace hs := Option.some.inj hs
  simp only [Prod.mk.injEq] at hs
  obtain ⟨rfl, rfl, rfl, rfl, rfl⟩ := hs
  exact NX.fin (v := .tuple #[AG [encA .u8 d4, [.int .i64 x5], encA .i64 d5, [.slice a3 n3 c3]], .int .i64 0]) (Res.two rfl (RV.box (agg := true) (size := 12) (rs := [encA .u8 d4, [.int .i64 x5], encA .i64 d5, [.slice a3 n3 c3]]) hB4 (by kernel_rfl) (by kernel_rfl) (by kernel_rfl) (by kernel_rfl)) (RV.tmp (by kernel_rfl))) tot htL ⟨a3, n3, c3, rfl, hR3⟩
def F.purse_Purse_Back (d1 : Arr Int 8) (x1 : Int) (d2 : Arr Int 2) (l1 : List S_purse_Held) (d3 : Arr Int 8) (x2 : Int) : Option ((Arr Int 8) × Int × (Arr Int 2) × (List S_purse_Held) × Int) := ((F.purse_Purse_next_3 d1 x1 d2 l1 d3 x2).bind fun (d4, x3, d5, l2, x4) => (some (d4, x3, d5, l2, x4)))
theorem P.purse_Purse_Back (g0 : GW) (d1 : Arr Int 8) (x1 : Int) (d2 : Arr Int 2) (l1 : List S_purse_Held) (d3 : Arr Int 8) (x2 : Int) (a1 : Option Addr) (n1 : Nat) (c1 : Nat) (hR1 : RdS k_S_purse_Held g0 56 a1 n1 c1 l1) (o1 : Arr Int 8) (o2 : Int) (o3 : Arr Int 2) (o4 : List S_purse_Held) (o5 : Int) (hs : F.purse_Purse_Back d1 x1 d2 l1 d3 x2 = some (o1, o2, o3, o4, o5)) :
    Calls Try.prog 23 #[AG [encA .u8 d1, [.int .i64 x1], encA .i64 d2, [.slice a1 n1 c1]], AG [encA .u8 d3], .int .i64 x2] g0.w (Ret NoM g0 fun v g => ∃ (a_1 : Option Addr) (n_1 : Nat) (c_1 : Nat), v = .tuple #[AG [encA .u8 o1, [.int .i64 o2], encA .i64 o3, [.slice a_1 n_1 c_1]], .int .i64 o5] ∧ RdS k_S_purse_Held g 56 a_1 n_1 c_1 o4) := by
  refine calls_of (args := [AG [encA .u8 d1, [.int .i64 x1], encA .i64 d2, [.slice a1 n1 c1]], AG [encA .u8 d3], .int .i64 x2]) Try.func23 rfl (0) ?_
  intro t ht htL
  refine ⟨_, rfl, ?_⟩
  refine CP.refr 13 [(0, AG [encA .u8 d1, [.int .i64 x1], encA .i64 d2, [.slice a1 n1 c1]]), (1, AG [encA .u8 d3]), (2, .int .i64 x2)] (by kernel_rfl) (by kernel_rfl) ?_
  intro ds
  have tot : Step (fun l => NoM l ∨ t ≤ l) g0 g0 := Step.refl _ _
  unfold F.purse_Purse_Back at hs
  refine CP.seqR ?_
  refine WP.alloc (T := 32) (t + 1) [encA .u8 d1, [.int .i64 x1], encA .i64 d2, [.slice a1 n1 c1]] [8, 1, 2, 1] (by kernel_rfl) (by simp [len_encA]) ?_
  intro g1 b1 st1 hB1
  replace hR1 := hR1.mono st1 (fun x => x)
  replace tot := tot.trans st1.pure
  refine WP.alloc (T := 29) (t + 2) [encA .u8 d3] [8] (by kernel_rfl) (by simp [len_encA]) ?_
  intro g2 b2 st2 hB2
  replace hR1 := hR1.mono st2 (fun x => x)
  replace hB1 := hB1.mono st2 (fun x => x)
  replace tot := tot.trans st2.pure
  refine WP.alloc (T := 3) (t + 3) [[.int .i64 x2]] [1] (by kernel_rfl) rfl ?_
  intro g3 b3 st3 hB3
  replace hR1 := hR1.mono st3 (fun x => x)
  replace hB1 := hB1.mono st3 (fun x => x)
  replace hB2 := hB2.mono st3 (fun x => x)
  replace tot := tot.trans st3.pure
  refine WP.alloc (T := 32) (t + 4) [encA .u8 (zA 8), [.int .i64 0], encA .i64 (zA 2), [.slice none 0 0]] [8, 1, 2, 1] (by kernel_rfl) (by simp [len_encA]) ?_
  intro g4 b4 st4 hB4
  replace hR1 := hR1.mono st4 (fun x => x)
  replace hB1 := hB1.mono st4 (fun x => x)
  replace hB2 := hB2.mono st4 (fun x => x)
  replace hB3 := hB3.mono st4 (fun x => x)
  replace tot := tot.trans st4.pure
  refine WP.still 1 (by kernel_rfl) ?_
  refine WP.done (by kernel_rfl) ?_
  refine NX.then_n ?_
  refine CP.seqR ?_
  refine WP.loadB (v := AG [encA .u8 d1, [.int .i64 x1], encA .i64 d2, [.slice a1 n1 c1]]) hB1 (by kernel_rfl) (by kernel_rfl) ?_
  refine WP.still 1 (by kernel_rfl) ?_
  replace hs := Option.bind_eq_some_iff.1 hs
  obtain ⟨⟨d4, x3, d5, l2, x4⟩, hk1, hs⟩ := hs
  dsimp only at hs
  have hcal1 := P.purse_Purse_next_3 g4 (t + 2) (t + 3) d1 x1 d2 l1 d3 x2 a1 n1 c1 b2 b3 hR1 hB2 hB3 (by omega) (by omega) (by omega) d4 x3 d5 l2 x4 hk1
  refine WP.callC hcal1 (by kernel_rfl) ?_
  rintro _ g5 st5 ⟨a2, n2, c2, rfl, hR2⟩
  replace hB1 := hB1.mono st5 (fun x => x)
  replace hR1 := hR1.mono st5 (fun x => x)
  replace hB2 := hB2.mono st5 (fun x => x)
  replace hB3 := hB3.mono st5 (fun x => x)
  replace hB4 := hB4.mono st5 (fun x => x)
  replace tot := tot.trans st5.pure
  refine WP.still 2 (by kernel_rfl) ?_
  refine WP.storeB (ty := 32) (off := 0) (v := AG [encA .u8 d4, [.int .i64 x3], encA .i64 d5, [.slice a2 n2 c2]]) hB4 [encA .u8 d4, [.int .i64 x3], encA .i64 d5, [.slice a2 n2 c2]] [8, 1, 2, 1] (by kernel_rfl) (by kernel_rfl) (by simp [len_encA]) (by kernel_rfl) [encA .u8 d4, [.int .i64 x3], encA .i64 d5, [.slice a2 n2 c2]] (by kernel_rfl) (.arr (.one rfl (.arr (.one rfl .nil)))) ?_
  intro g6 st6 hB5
  replace hB1 := hB1.mono st6 (WL.no1 (by omega))
  replace hR1 := hR1.mono st6 (WL.no1 (by omega))
  replace hB2 := hB2.mono st6 (WL.no1 (by omega))
  replace hB3 := hB3.mono st6 (WL.no1 (by omega))
  replace hR2 := hR2.mono st6 (WL.no1 (by omega))
  replace tot := tot.trans (st6.up1 (.inr (by omega)))
  clear hB4
  have hB4 := hB5
  clear hB5
  refine WP.still 1 (by kernel_rfl) ?_
  refine WP.done (by kernel_rfl) ?_
  refine NX.then_n ?_
  refine CP.ret ?_
  replace hs := Option.some.inj hs
  simp only [Prod.mk.injEq] at hs
  obtain ⟨rfl, rfl, rfl, rfl, rfl⟩ := hs
  exact NX.fin (v := .tuple #[AG [encA .u8 d4, [.int .i64 x3], encA .i64 d5, [.slice a2 n2 c2]], .int .i64 x4]) (Res.two rfl (RV.box (agg := true) (size := 12) (rs := [encA .u8 d4, [.int .i64 x3], encA .i64 d5, [.slice a2 n2 c2]]) hB4 (by kernel_rfl) (by kernel_rfl) (by kernel_rfl) (by kernel_rfl)) (RV.tmp (by kernel_rfl))) tot htL ⟨a2, n2, c2, rfl, hR2⟩
def F.purse_Purse_Total (d1 : Arr Int 8) (x1 : Int) (d2 : Arr Int 2) (l1 : List S_purse_Held) : Option (Int) := ((F.purse_Purse_Check d1 x1 d2 l1).bind fun x2 => (if (x2 != 0) = true then (some 0) else ((F.purse_Purse_amounts d1 x1 d2 l1).bind fun l2 => ((F.coin_Sum l2).bind fun (x3, x4) => (some x3)))))
theorem P.purse_Purse_Total (g0 : GW) (d1 : Arr Int 8) (x1 : Int) (d2 : Arr Int 2) (l1 : List S_purse_Held) (a1 : Option Addr) (n1 : Nat) (c1 : Nat) (hR1 : RdS k_S_purse_Held g0 56 a1 n1 c1 l1) (o1 : Int) (hs : F.purse_Purse_Total d1 x1 d2 l1 = some o1) :
    Calls Try.prog 15 #[AG [encA .u8 d1, [.int .i64 x1], encA .i64 d2, [.slice a1 n1 c1]]] g0.w (Ret NoM g0 fun v g => v = .int .i64 o1) := by
  refine calls_of (args := [AG [encA .u8 d1, [.int .i64 x1], encA .i64 d2, [.slice a1 n1 c1]]]) Try.func15 rfl (0) ?_
  intro t ht htL
  refine ⟨_, rfl, ?_⟩
  refine CP.refr 15 [(0, AG [encA .u8 d1, [.int .i64 x1], encA .i64 d2, [.slice a1 n1 c1]])] (by kernel_rfl) (by kernel_rfl) ?_
  intro ds
  have tot : Step (fun l => NoM l ∨ t ≤ l) g0 g0 := Step.refl _ _
  unfold F.purse_Purse_Total at hs
  refine CP.seqR ?_
  refine WP.alloc (T := 32) (t + 1) [encA .u8 d1, [.int .i64 x1], encA .i64 d2, [.slice a1 n1 c1]] [8, 1, 2, 1] (by kernel_rfl) (by simp [len_encA]) ?_
  intro g1 b1 st1 hB1
  replace hR1 := hR1.mono st1 (fun x => x)
  replace tot := tot.trans st1.pure
  refine WP.still 1 (by kernel_rfl) ?_
  refine WP.done (by kernel_rfl) ?_
  refine NX.then_n ?_
  refine CP.seq ?_
  refine CP.seqR ?_
  refine WP.loadB (v := AG [encA .u8 d1, [.int .i64 x1], encA .i64 d2, [.slice a1 n1 c1]]) hB1 (by kernel_rfl) (by kernel_rfl) ?_
  replace hs := Option.bind_eq_some_iff.1 hs
  obtain ⟨x2, hk1, hs⟩ := hs
  have hcal1 := P.purse_Purse_Check g1 d1 x1 d2 l1 a1 n1 c1 hR1 x2 hk1
  refine WP.callC hcal1 (by kernel_rfl) ?_
  rintro _ g2 st2 rfl
  replace hB1 := hB1.mono st2 (fun x => x)
  replace hR1 := hR1.mono st2 (fun x => x)
  replace tot := tot.trans st2.pure
  refine WP.still 1 (by kernel_rfl) ?_
  refine WP.done (by kernel_rfl) ?_
  refine NX.then_n ?_
  refine CP.cond (b := (x2 != 0)) (by kernel_rfl) (fun h1 => ?_) (fun h1 => ?_)
  · replace hs := of_if_t hs h1
    refine CP.seqR ?_
    refine WP.still 1 (by kernel_rfl) ?_
    refine WP.done (by kernel_rfl) ?_
    refine NX.then_n ?_
    refine CP.ret ?_
    refine NX.then_r ?_
    replace hs := Option.some.inj hs
    obtain rfl := hs
    exact NX.fin (v := .int .i64 0) (Res.still (by kernel_rfl)) tot htL rfl
  replace hs := of_if_f hs h1
  refine CP.skip ?_
  refine NX.then_n ?_
  refine CP.seqR ?_
  refine WP.loadB (v := AG [encA .u8 d1, [.int .i64 x1], encA .i64 d2, [.slice a1 n1 c1]]) hB1 (by kernel_rfl) (by kernel_rfl) ?_
  replace hs := Option.bind_eq_some_iff.1 hs
  obtain ⟨l2, hk2, hs⟩ := hs
  have hcal2 := P.purse_Purse_amounts g2 d1 x1 d2 l1 a1 n1 c1 hR1 l2 hk2
  refine WP.callC hcal2 (by kernel_rfl) ?_
  rintro _ g3 st3 ⟨a2, n2, c2, rfl, hR2⟩
  replace hB1 := hB1.mono st3 (fun x => x)
  replace hR1 := hR1.mono st3 (fun x => x)
  replace tot := tot.trans st3.pure
  replace hs := Option.bind_eq_some_iff.1 hs
  obtain ⟨⟨x3, x4⟩, hk3, hs⟩ := hs
  dsimp only at hs
  have hcal3 := P.coin_Sum g3 l2 a2 n2 c2 hR2 x3 x4 hk3
  refine WP.callC hcal3 (by kernel_rfl) ?_
  rintro _ g4 st4 rfl
  replace hB1 := hB1.mono st4 (fun x => x)
  replace hR1 := hR1.mono st4 (fun x => x)
  replace hR2 := hR2.mono st4 (fun x => x)
  replace tot := tot.trans st4.pure
  refine WP.still 5 (by kernel_rfl) ?_
  refine WP.done (by kernel_rfl) ?_
  refine NX.then_n ?_
  refine CP.refr 15 [(3, .int .i64 x3)] (by kernel_rfl) (by kernel_rfl) ?_
  clear ds
  intro ds
  refine CP.seqR ?_
  refine WP.still 2 (by kernel_rfl) ?_
  refine WP.done (by kernel_rfl) ?_
  refine NX.then_n ?_
  refine CP.ret ?_
  replace hs := Option.some.inj hs
  obtain rfl := hs
  exact NX.fin (v := .int .i64 x3) (Res.still (by kernel_rfl)) tot htL rfl
def F.baizelaw47_told.c1 (q1 : Bool) : Option (Bool) := (some q1)
def F.baizelaw47_told : Option (Bool) := ((F.purse_New (⟨[1, 0, 0, 0, 0, 0, 0, 0], rfl⟩ : Arr Int 8) 10 5).bind fun (d1, x1, d2, l1, x2) => ((F.purse_Purse_Hold d1 x1 d2 l1 (⟨[2, 0, 0, 0, 0, 0, 0, 0], rfl⟩ : Arr Int 8) 4 0 20).bind fun (d3, x3, d4, l2, x4) => ((F.purse_Purse_Free d3 x3 d4 l2 (⟨[2, 0, 0, 0, 0, 0, 0, 0], rfl⟩ : Arr Int 8) 3).bind fun (d5, x5, d6, l3, x6) => ((F.purse_Purse_Back d3 x3 d4 l2 (⟨[2, 0, 0, 0, 0, 0, 0, 0], rfl⟩ : Arr Int 8) 20).bind fun (d7, x7, d8, l4, x8) => ((F.purse_Purse_Back d3 x3 d4 l2 (⟨[2, 0, 0, 0, 0, 0, 0, 0], rfl⟩ : Arr Int 8) 21).bind fun (d9, x9, d10, l5, x10) => (if (x2 == 0) = true then (if (x4 == 0) = true then (if (x6 == 0) = true then (if (x8 == 20) = true then (if (x10 == 0) = true then (if (d4.1 == (⟨[6, 5], rfl⟩ : Arr Int 2).1) = true then (if (d6.1 == (⟨[7, 8], rfl⟩ : Arr Int 2).1) = true then (if (d10.1 == (⟨[10, 5], rfl⟩ : Arr Int 2).1) = true then (if (x5 == 2) = true then ((F.purse_Purse_Total d5 x5 d6 l3).bind fun x12 => (F.baizelaw47_told.c1 (x12 == 15))) else (F.baizelaw47_told.c1 false)) else (F.baizelaw47_told.c1 false)) else (F.baizelaw47_told.c1 false)) else (F.baizelaw47_told.c1 false)) else (F.baizelaw47_told.c1 false)) else (F.baizelaw47_told.c1 false)) else (F.baizelaw47_told.c1 false)) else (F.baizelaw47_told.c1 false)) else (F.baizelaw47_told.c1 false)))))))
theorem P.baizelaw47_told (g0 : GW) (o1 : Bool) (hs : F.baizelaw47_told = some o1) :
    Calls Try.prog 12 #[] g0.w (Ret NoM g0 fun v g => v = .bool o1) := by
  refine calls_of (args := []) Try.func12 rfl (0) ?_
  intro t ht htL
  refine ⟨_, rfl, ?_⟩
  refine CP.refr 87 [] (by kernel_rfl) (by kernel_rfl) ?_
  intro ds
  have tot : Step (fun l => NoM l ∨ t ≤ l) g0 g0 := Step.refl _ _
  unfold F.baizelaw47_told at hs
  refine CP.seqR ?_
  refine WP.still 1 (by kernel_rfl) ?_
  refine WP.done (by kernel_rfl) ?_
  refine NX.then_n ?_
  refine CP.seqR ?_
  refine WP.still 1 (by kernel_rfl) ?_
  replace hs := Option.bind_eq_some_iff.1 hs
  obtain ⟨⟨d1, x1, d2, l1, x2⟩, hk1, hs⟩ := hs
  dsimp only at hs
  have hcal1 := P.purse_New g0 (t + 1) (⟨[1, 0, 0, 0, 0, 0, 0, 0], rfl⟩ : Arr Int 8) 10 5 d1 x1 d2 l1 x2 hk1
  refine WP.callC hcal1 (by kernel_rfl) ?_
  rintro _ g1 st1 ⟨a1, n1, c1, rfl, hR1⟩
  replace tot := tot.trans st1.pure
  refine WP.still 3 (by kernel_rfl) ?_
  refine WP.alloc (T := 32) (t + 2) [encA .u8 (zA 8), [.int .i64 0], encA .i64 (zA 2), [.slice none 0 0]] [8, 1, 2, 1] (by kernel_rfl) (by simp [len_encA]) ?_
  intro g2 b1 st2 hB1
  replace hR1 := hR1.mono st2 (fun x => x) (fun x => x)
  replace tot := tot.trans st2.pure
  refine WP.storeB (ty := 32) (off := 0) (v := AG [encA .u8 d1, [.int .i64 x1], encA .i64 d2, [.slice a1 n1 c1]]) hB1 [encA .u8 d1, [.int .i64 x1], encA .i64 d2, [.slice a1 n1 c1]] [8, 1, 2, 1] (by kernel_rfl) (by kernel_rfl) (by simp [len_encA]) (by kernel_rfl) [encA .u8 d1, [.int .i64 x1], encA .i64 d2, [.slice a1 n1 c1]] (by kernel_rfl) (.arr (.one rfl (.arr (.one rfl .nil)))) ?_
  intro g3 st3 hB2
  replace hR1 := hR1.mono st3 (WL.no1 (by omega)) (WL.no1 (by omega))
  replace tot := tot.trans (st3.up1 (.inr (by omega)))
  clear hB1
  have hB1 := hB2
  clear hB2
  refine WP.still 1 (by kernel_rfl) ?_
  refine WP.done (by kernel_rfl) ?_
  refine NX.then_n ?_
  refine CP.seqR ?_
  refine WP.loadB (v := AG [encA .u8 d1, [.int .i64 x1], encA .i64 d2, [.slice a1 n1 c1]]) hB1 (by kernel_rfl) (by kernel_rfl) ?_
  refine WP.still 1 (by kernel_rfl) ?_
  refine WP.buildS (places := #[(0, 8), (8, 1), (9, 1), (10, 1)]) (t := 56) [encA .u8 (zA 8), [.int .i64 0], [.int .i64 0], [.int .i64 0]] [8, 1, 1, 1] (by kernel_rfl) (by kernel_rfl) (by simp [len_encA]) (by kernel_rfl) ((.cons (i := 0) (off := 0) (v := AG [encA .u8 (⟨[2, 0, 0, 0, 0, 0, 0, 0], rfl⟩ : Arr Int 8)]) (mid := [encA .u8 (⟨[2, 0, 0, 0, 0, 0, 0, 0], rfl⟩ : Arr Int 8), [.int .i64 0], [.int .i64 0], [.int .i64 0]]) [encA .u8 (⟨[2, 0, 0, 0, 0, 0, 0, 0], rfl⟩ : Arr Int 8)] [8] (by kernel_rfl) (by kernel_rfl) (by simp [len_encA]) (by kernel_rfl) (.cons (i := 1) (off := 8) (v := .int .i64 4) (mid := [encA .u8 (⟨[2, 0, 0, 0, 0, 0, 0, 0], rfl⟩ : Arr Int 8), [.int .i64 4], [.int .i64 0], [.int .i64 0]]) [[.int .i64 4]] [1] (by kernel_rfl) (by kernel_rfl) rfl (by kernel_rfl) (.cons (i := 3) (off := 10) (v := .int .i64 20) (mid := [encA .u8 (⟨[2, 0, 0, 0, 0, 0, 0, 0], rfl⟩ : Arr Int 8), [.int .i64 4], [.int .i64 0], [.int .i64 20]]) [[.int .i64 20]] [1] (by kernel_rfl) (by kernel_rfl) rfl (by kernel_rfl) .nil)))) ?_
  replace hs := Option.bind_eq_some_iff.1 hs
  obtain ⟨⟨d3, x3, d4, l2, x4⟩, hk2, hs⟩ := hs
  dsimp only at hs
  obtain ⟨g5, hw1, st5, hnew⟩ := hR1.freeze (by omega)
  refine WP.regw hw1 ?_
  replace hB1 := hB1.mono st5 (WL.no1 (by omega))
  replace tot := tot.trans (st5.up1 (.inr (by omega)))
  clear hR1
  have hR1 := hnew
  clear hnew
  have hcal2 := P.purse_Purse_Hold g5 d1 x1 d2 l1 (⟨[2, 0, 0, 0, 0, 0, 0, 0], rfl⟩ : Arr Int 8) 4 0 20 a1 n1 c1 hR1 d3 x3 d4 l2 x4 hk2
  refine WP.callC hcal2 (by kernel_rfl) ?_
  rintro _ g4 st4 ⟨a2, n2, c2, rfl, hR2⟩
  replace hB1 := hB1.mono st4 (fun x => x)
  replace hR1 := hR1.mono st4 (fun x => x)
  replace tot := tot.trans st4.pure
  refine WP.still 3 (by kernel_rfl) ?_
  refine WP.alloc (T := 32) (t + 3) [encA .u8 (zA 8), [.int .i64 0], encA .i64 (zA 2), [.slice none 0 0]] [8, 1, 2, 1] (by kernel_rfl) (by simp [len_encA]) ?_
  intro g6 b2 st6 hB3
  replace hB1 := hB1.mono st6 (fun x => x)
  replace hR1 := hR1.mono st6 (fun x => x)
  replace hR2 := hR2.mono st6 (fun x => x)
  replace tot := tot.trans st6.pure
  refine WP.storeB (ty := 32) (off := 0) (v := AG [encA .u8 d3, [.int .i64 x3], encA .i64 d4, [.slice a2 n2 c2]]) hB3 [encA .u8 d3, [.int .i64 x3], encA .i64 d4, [.slice a2 n2 c2]] [8, 1, 2, 1] (by kernel_rfl) (by kernel_rfl) (by simp [len_encA]) (by kernel_rfl) [encA .u8 d3, [.int .i64 x3], encA .i64 d4, [.slice a2 n2 c2]] (by kernel_rfl) (.arr (.one rfl (.arr (.one rfl .nil)))) ?_
  intro g7 st7 hB4
  replace hB1 := hB1.mono st7 (WL.no1 (by omega))
  replace hR1 := hR1.mono st7 (WL.no1 (by omega))
  replace hR2 := hR2.mono st7 (WL.no1 (by omega))
  replace tot := tot.trans (st7.up1 (.inr (by omega)))
  clear hB3
  have hB3 := hB4
  clear hB4
  refine WP.still 1 (by kernel_rfl) ?_
  refine WP.done (by kernel_rfl) ?_
  refine NX.then_n ?_
  refine CP.refr 87 [(2, .int .i64 x2), (3, .pointer (some ⟨b2, 0, none⟩)), (4, .int .i64 x4)] (by kernel_rfl) (by kernel_rfl) ?_
  clear ds
  intro ds
  refine CP.seqR ?_
  refine WP.loadB (v := AG [encA .u8 d3, [.int .i64 x3], encA .i64 d4, [.slice a2 n2 c2]]) hB3 (by kernel_rfl) (by kernel_rfl) ?_
  refine WP.still 1 (by kernel_rfl) ?_
  replace hs := Option.bind_eq_some_iff.1 hs
  obtain ⟨⟨d5, x5, d6, l3, x6⟩, hk3, hs⟩ := hs
  dsimp only at hs
  have hcal3 := P.purse_Purse_Free g7 d3 x3 d4 l2 (⟨[2, 0, 0, 0, 0, 0, 0, 0], rfl⟩ : Arr Int 8) 3 a2 n2 c2 hR2 d5 x5 d6 l3 x6 hk3
  refine WP.callC hcal3 (by kernel_rfl) ?_
  rintro _ g8 st8 ⟨a3, n3, c3, rfl, hR3⟩
  replace hB3 := hB3.mono st8 (fun x => x)
  replace hR2 := hR2.mono st8 (fun x => x)
  replace tot := tot.trans st8.pure
  refine WP.still 3 (by kernel_rfl) ?_
  refine WP.alloc (T := 32) (t + 4) [encA .u8 (zA 8), [.int .i64 0], encA .i64 (zA 2), [.slice none 0 0]] [8, 1, 2, 1] (by kernel_rfl) (by simp [len_encA]) ?_
  intro g9 b3 st9 hB5
  replace hB3 := hB3.mono st9 (fun x => x)
  replace hR2 := hR2.mono st9 (fun x => x)
  replace hR3 := hR3.mono st9 (fun x => x)
  replace tot := tot.trans st9.pure
  refine WP.storeB (ty := 32) (off := 0) (v := AG [encA .u8 d5, [.int .i64 x5], encA .i64 d6, [.slice a3 n3 c3]]) hB5 [encA .u8 d5, [.int .i64 x5], encA .i64 d6, [.slice a3 n3 c3]] [8, 1, 2, 1] (by kernel_rfl) (by kernel_rfl) (by simp [len_encA]) (by kernel_rfl) [encA .u8 d5, [.int .i64 x5], encA .i64 d6, [.slice a3 n3 c3]] (by kernel_rfl) (.arr (.one rfl (.arr (.one rfl .nil)))) ?_
  intro g10 st10 hB6
  replace hB3 := hB3.mono st10 (WL.no1 (by omega))
  replace hR2 := hR2.mono st10 (WL.no1 (by omega))
  replace hR3 := hR3.mono st10 (WL.no1 (by omega))
  replace tot := tot.trans (st10.up1 (.inr (by omega)))
  clear hB5
  have hB5 := hB6
  clear hB6
  refine WP.still 1 (by kernel_rfl) ?_
  refine WP.done (by kernel_rfl) ?_
  refine NX.then_n ?_
  refine CP.seqR ?_
  refine WP.loadB (v := AG [encA .u8 d3, [.int .i64 x3], encA .i64 d4, [.slice a2 n2 c2]]) hB3 (by kernel_rfl) (by kernel_rfl) ?_
  refine WP.still 1 (by kernel_rfl) ?_
  replace hs := Option.bind_eq_some_iff.1 hs
  obtain ⟨⟨d7, x7, d8, l4, x8⟩, hk4, hs⟩ := hs
  dsimp only at hs
  have hcal4 := P.purse_Purse_Back g10 d3 x3 d4 l2 (⟨[2, 0, 0, 0, 0, 0, 0, 0], rfl⟩ : Arr Int 8) 20 a2 n2 c2 hR2 d7 x7 d8 l4 x8 hk4
  refine WP.callC hcal4 (by kernel_rfl) ?_
  rintro _ g11 st11 ⟨a4, n4, c4, rfl, hR4⟩
  replace hB3 := hB3.mono st11 (fun x => x)
  replace hR2 := hR2.mono st11 (fun x => x)
  replace hB5 := hB5.mono st11 (fun x => x)
  replace hR3 := hR3.mono st11 (fun x => x)
  replace tot := tot.trans st11.pure
  refine WP.still 3 (by kernel_rfl) ?_
  refine WP.alloc (T := 32) (t + 5) [encA .u8 (zA 8), [.int .i64 0], encA .i64 (zA 2), [.slice none 0 0]] [8, 1, 2, 1] (by kernel_rfl) (by simp [len_encA]) ?_
  intro g12 b4 st12 hB7
  replace hB3 := hB3.mono st12 (fun x => x)
  replace hR2 := hR2.mono st12 (fun x => x)
  replace hB5 := hB5.mono st12 (fun x => x)
  replace hR3 := hR3.mono st12 (fun x => x)
  replace hR4 := hR4.mono st12 (fun x => x)
  replace tot := tot.trans st12.pure
  refine WP.storeB (ty := 32) (off := 0) (v := AG [encA .u8 d7, [.int .i64 x7], encA .i64 d8, [.slice a4 n4 c4]]) hB7 [encA .u8 d7, [.int .i64 x7], encA .i64 d8, [.slice a4 n4 c4]] [8, 1, 2, 1] (by kernel_rfl) (by kernel_rfl) (by simp [len_encA]) (by kernel_rfl) [encA .u8 d7, [.int .i64 x7], encA .i64 d8, [.slice a4 n4 c4]] (by kernel_rfl) (.arr (.one rfl (.arr (.one rfl .nil)))) ?_
  intro g13 st13 hB8
  replace hB3 := hB3.mono st13 (WL.no1 (by omega))
  replace hR2 := hR2.mono st13 (WL.no1 (by omega))
  replace hB5 := hB5.mono st13 (WL.no1 (by omega))
  replace hR3 := hR3.mono st13 (WL.no1 (by omega))
  replace hR4 := hR4.mono st13 (WL.no1 (by omega))
  replace tot := tot.trans (st13.up1 (.inr (by omega)))
  clear hB7
  have hB7 := hB8
  clear hB8
  refine WP.still 1 (by kernel_rfl) ?_
  refine WP.done (by kernel_rfl) ?_
  refine NX.then_n ?_
  refine CP.refr 87 [(2, .int .i64 x2), (3, .pointer (some ⟨b2, 0, none⟩)), (4, .int .i64 x4), (5, .pointer (some ⟨b3, 0, none⟩)), (6, .int .i64 x6), (8, .int .i64 x8)] (by kernel_rfl) (by kernel_rfl) ?_
  clear ds
  intro ds
  refine CP.seqR ?_
  refine WP.loadB (v := AG [encA .u8 d3, [.int .i64 x3], encA .i64 d4, [.slice a2 n2 c2]]) hB3 (by kernel_rfl) (by kernel_rfl) ?_
  refine WP.still 1 (by kernel_rfl) ?_
  replace hs := Option.bind_eq_some_iff.1 hs
  obtain ⟨⟨d9, x9, d10, l5, x10⟩, hk5, hs⟩ := hs
  dsimp only at hs
  have hcal5 := P.purse_Purse_Back g13 d3 x3 d4 l2 (⟨[2, 0, 0, 0, 0, 0, 0, 0], rfl⟩ : Arr Int 8) 21 a2 n2 c2 hR2 d9 x9 d10 l5 x10 hk5
  refine WP.callC hcal5 (by kernel_rfl) ?_
  rintro _ g14 st14 ⟨a5, n5, c5, rfl, hR5⟩
  replace hB3 := hB3.mono st14 (fun x => x)
  replace hR2 := hR2.mono st14 (fun x => x)
  replace hB5 := hB5.mono st14 (fun x => x)
  replace hR3 := hR3.mono st14 (fun x => x)
  replace tot := tot.trans st14.pure
  refine WP.still 3 (by kernel_rfl) ?_
  refine WP.alloc (T := 32) (t + 6) [encA .u8 (zA 8), [.int .i64 0], encA .i64 (zA 2), [.slice none 0 0]] [8, 1, 2, 1] (by kernel_rfl) (by simp [len_encA]) ?_
  intro g15 b5 st15 hB9
  replace hB3 := hB3.mono st15 (fun x => x)
  replace hR2 := hR2.mono st15 (fun x => x)
  replace hB5 := hB5.mono st15 (fun x => x)
  replace hR3 := hR3.mono st15 (fun x => x)
  replace hR5 := hR5.mono st15 (fun x => x)
  replace tot := tot.trans st15.pure
  refine WP.storeB (ty := 32) (off := 0) (v := AG [encA .u8 d9, [.int .i64 x9], encA .i64 d10, [.slice a5 n5 c5]]) hB9 [encA .u8 d9, [.int .i64 x9], encA .i64 d10, [.slice a5 n5 c5]] [8, 1, 2, 1] (by kernel_rfl) (by kernel_rfl) (by simp [len_encA]) (by kernel_rfl) [encA .u8 d9, [.int .i64 x9], encA .i64 d10, [.slice a5 n5 c5]] (by kernel_rfl) (.arr (.one rfl (.arr (.one rfl .nil)))) ?_
  intro g16 st16 hB10
  replace hB3 := hB3.mono st16 (WL.no1 (by omega))
  replace hR2 := hR2.mono st16 (WL.no1 (by omega))
  replace hB5 := hB5.mono st16 (WL.no1 (by omega))
  replace hR3 := hR3.mono st16 (WL.no1 (by omega))
  replace hR5 := hR5.mono st16 (WL.no1 (by omega))
  replace tot := tot.trans (st16.up1 (.inr (by omega)))
  clear hB9
  have hB9 := hB10
  clear hB10
  refine WP.still 1 (by kernel_rfl) ?_
  refine WP.done (by kernel_rfl) ?_
  refine NX.then_n ?_
  refine CP.cut (fun tm g => ∃ (q1 : Bool), Fr 87 [(0, .bool q1)] tm ∧ Step (fun l => NoM l ∨ t ≤ l) g0 g ∧ (F.baizelaw47_told.c1 q1) = some o1) ?_ ?_
  · refine CP.region ?_
    refine WP.still 3 (by kernel_rfl) ?_
    refine WP.guard 43 (b := (x2 == 0)) (by kernel_rfl) (fun h10 => ?_) (fun h10 => ?_)
    · replace hs := of_if_t hs h10
      refine WP.still 4 (by kernel_rfl) ?_
      refine WP.guard 47 (b := (x4 == 0)) (by kernel_rfl) (fun h11 => ?_) (fun h11 => ?_)
      · replace hs := of_if_t hs h11
        refine WP.still 4 (by kernel_rfl) ?_
        refine WP.guard 51 (b := (x6 == 0)) (by kernel_rfl) (fun h12 => ?_) (fun h12 => ?_)
        · replace hs := of_if_t hs h12
          refine WP.still 4 (by kernel_rfl) ?_
          refine WP.guard 55 (b := (x8 == 20)) (by kernel_rfl) (fun h13 => ?_) (fun h13 => ?_)
          · replace hs := of_if_t hs h13
            refine WP.still 4 (by kernel_rfl) ?_
            refine WP.guard 59 (b := (x10 == 0)) (by kernel_rfl) (fun h14 => ?_) (fun h14 => ?_)
            · replace hs := of_if_t hs h14
              refine WP.still 1 (by kernel_rfl) ?_
              refine WP.loadB (v := AG [encA .i64 d4]) hB3 (by kernel_rfl) (by kernel_rfl) ?_
              refine WP.still 1 (by kernel_rfl) ?_
              refine WP.eqV (by kernel_rfl) (by kernel_rfl) (EqV.arr (d := 9998) (t := 23) (e := 3) (m := 2) (k := .i64) (x := d4) (y := (⟨[6, 5], rfl⟩ : Arr Int 2)) (by kernel_rfl) (by kernel_rfl)) ?_
              refine WP.still 2 (by kernel_rfl) ?_
              refine WP.guard 65 (b := (d4.1 == (⟨[6, 5], rfl⟩ : Arr Int 2).1)) (by kernel_rfl) (fun h15 => ?_) (fun h15 => ?_)
              · replace hs := of_if_t hs h15
                refine WP.still 1 (by kernel_rfl) ?_
                refine WP.loadB (v := AG [encA .i64 d6]) hB5 (by kernel_rfl) (by kernel_rfl) ?_
                refine WP.still 1 (by kernel_rfl) ?_
                refine WP.eqV (by kernel_rfl) (by kernel_rfl) (EqV.arr (d := 9998) (t := 23) (e := 3) (m := 2) (k := .i64) (x := d6) (y := (⟨[7, 8], rfl⟩ : Arr Int 2)) (by kernel_rfl) (by kernel_rfl)) ?_
                refine WP.still 2 (by kernel_rfl) ?_
                refine WP.guard 71 (b := (d6.1 == (⟨[7, 8], rfl⟩ : Arr Int 2).1)) (by kernel_rfl) (fun h16 => ?_) (fun h16 => ?_)
                · replace hs := of_if_t hs h16
                  refine WP.still 1 (by kernel_rfl) ?_
                  refine WP.loadB (v := AG [encA .i64 d10]) hB9 (by kernel_rfl) (by kernel_rfl) ?_
                  refine WP.still 1 (by kernel_rfl) ?_
                  refine WP.eqV (by kernel_rfl) (by kernel_rfl) (EqV.arr (d := 9998) (t := 23) (e := 3) (m := 2) (k := .i64) (x := d10) (y := (⟨[10, 5], rfl⟩ : Arr Int 2)) (by kernel_rfl) (by kernel_rfl)) ?_
                  refine WP.still 2 (by kernel_rfl) ?_
                  refine WP.guard 77 (b := (d10.1 == (⟨[10, 5], rfl⟩ : Arr Int 2).1)) (by kernel_rfl) (fun h17 => ?_) (fun h17 => ?_)
                  · replace hs := of_if_t hs h17
                    refine WP.still 1 (by kernel_rfl) ?_
                    refine WP.loadB (v := .int .i64 x5) hB5 (by kernel_rfl) (by kernel_rfl) ?_
                    refine WP.still 3 (by kernel_rfl) ?_
                    refine WP.guard 82 (b := (x5 == 2)) (by kernel_rfl) (fun h18 => ?_) (fun h18 => ?_)
                    · replace hs := of_if_t hs h18
                      refine WP.loadB (v := AG [encA .u8 d5, [.int .i64 x5], encA .i64 d6, [.slice a3 n3 c3]]) hB5 (by kernel_rfl) (by kernel_rfl) ?_
                      replace hs := Option.bind_eq_some_iff.1 hs
                      obtain ⟨x12, hk7, hs⟩ := hs
                      have hcal7 := P.purse_Purse_Total g16 d5 x5 d6 l3 a3 n3 c3 hR3 x12 hk7
                      refine WP.callC hcal7 (by kernel_rfl) ?_
                      rintro _ g18 st18 rfl
                      replace hB3 := hB3.mono st18 (fun x => x)
                      replace hR2 := hR2.mono st18 (fun x => x)
                      replace hB5 := hB5.mono st18 (fun x => x)
                      replace hR3 := hR3.mono st18 (fun x => x)
                      replace hB9 := hB9.mono st18 (fun x => x)
                      replace hR5 := hR5.mono st18 (fun x => x)
                      replace tot := tot.trans st18.pure
                      refine WP.still 3 (by kernel_rfl) ?_
                      refine WP.done (by kernel_rfl) ?_
                      refine NX.post ?_
                      exact ⟨(x12 == 15), ⟨by kernel_rfl, by kernel_rfl⟩, tot, hs⟩
                    replace hs := of_if_f hs h18
                    refine WP.still 5 (by kernel_rfl) ?_
                    refine WP.done (by kernel_rfl) ?_
                    refine NX.post ?_
                    exact ⟨false, ⟨by kernel_rfl, by kernel_rfl⟩, tot, hs⟩
                  replace hs := of_if_f hs h17
                  refine WP.still 10 (by kernel_rfl) ?_
                  refine WP.done (by kernel_rfl) ?_
                  refine NX.post ?_
                  exact ⟨false, ⟨by kernel_rfl, by kernel_rfl⟩, tot, hs⟩
                replace hs := of_if_f hs h16
                refine WP.still 16 (by kernel_rfl) ?_
                refine WP.done (by kernel_rfl) ?_
                refine NX.post ?_
                exact ⟨false, ⟨by kernel_rfl, by kernel_rfl⟩, tot, hs⟩
              replace hs := of_if_f hs h15
              refine WP.still 22 (by kernel_rfl) ?_
              refine WP.done (by kernel_rfl) ?_
              refine NX.post ?_
              exact ⟨false, ⟨by kernel_rfl, by kernel_rfl⟩, tot, hs⟩
            replace hs := of_if_f hs h14
            refine WP.still 28 (by kernel_rfl) ?_
            refine WP.done (by kernel_rfl) ?_
            refine NX.post ?_
            exact ⟨false, ⟨by kernel_rfl, by kernel_rfl⟩, tot, hs⟩
          replace hs := of_if_f hs h13
          refine WP.still 32 (by kernel_rfl) ?_
          refine WP.done (by kernel_rfl) ?_
          refine NX.post ?_
          exact ⟨false, ⟨by kernel_rfl, by kernel_rfl⟩, tot, hs⟩
        replace hs := of_if_f hs h12
        refine WP.still 36 (by kernel_rfl) ?_
        refine WP.done (by kernel_rfl) ?_
        refine NX.post ?_
        exact ⟨false, ⟨by kernel_rfl, by kernel_rfl⟩, tot, hs⟩
      replace hs := of_if_f hs h11
      refine WP.still 40 (by kernel_rfl) ?_
      refine WP.done (by kernel_rfl) ?_
      refine NX.post ?_
      exact ⟨false, ⟨by kernel_rfl, by kernel_rfl⟩, tot, hs⟩
    replace hs := of_if_f hs h10
    refine WP.still 44 (by kernel_rfl) ?_
    refine WP.done (by kernel_rfl) ?_
    refine NX.post ?_
    exact ⟨false, ⟨by kernel_rfl, by kernel_rfl⟩, tot, hs⟩
  clear tot hs hB3 hR2 hB5 hR3 hB9 hR5
  rintro tm g ⟨q1, hF, tot, hs⟩
  clear ds
  obtain ⟨ds, rfl⟩ := hF.open
  clear hF
  unfold F.baizelaw47_told.c1 at hs
  refine CP.ret ?_
  replace hs := Option.some.inj hs
  obtain rfl := hs
  exact NX.fin (v := .bool q1) (Res.still (by kernel_rfl)) tot htL rfl
def F.baizelaw47_Own.l1 (d1 : Arr Int 8) (x1 : Int) (d2 : Arr Int 2) (l1 : List S_baizeref47_Held) : Nat → (List S_purse_Held) → Int → Option ((Arr Int 8) × Int × (Arr Int 2) × (List S_purse_Held))
  | 0, _, _ => none
  | k + 1, l2, x2 => (if decide (x2 < (l1.length : Int)) = true then (if (0 : Int) ≤ x2 ∧ x2 < (l1.length : Int) then (if l2.length + ([(⟨(getI l1 x2).f1, (getI l1 x2).f2, (getI l1 x2).f3, (getI l1 x2).f4⟩ : S_purse_Held)]).length ≤ 4398046511104 then (F.baizelaw47_Own.l1 d1 x1 d2 l1 k (l2 ++ [(⟨(getI l1 x2).f1, (getI l1 x2).f2, (getI l1 x2).f3, (getI l1 x2).f4⟩ : S_purse_Held)]) (IntKind.i64.wrap (x2 + 1))) else none) else none) else (some (d1, x1, d2, l2)))
def F.baizelaw47_Own (d1 : Arr Int 8) (x1 : Int) (d2 : Arr Int 2) (l1 : List S_baizeref47_Held) : Option ((Arr Int 8) × Int × (Arr Int 2) × (List S_purse_Held)) := (F.baizelaw47_Own.l1 d1 x1 d2 l1 fuel ([]) 0)
theorem P.baizelaw47_Own (g0 : GW) (r0 : Nat) (d1 : Arr Int 8) (x1 : Int) (d2 : Arr Int 2) (l1 : List S_baizeref47_Held) (a1 : Option Addr) (n1 : Nat) (c1 : Nat) (hR1 : RdS k_S_baizeref47_Held g0 60 a1 n1 c1 l1) (o1 : Arr Int 8) (o2 : Int) (o3 : Arr Int 2) (o4 : List S_purse_Held) (hs : F.baizelaw47_Own d1 x1 d2 l1 = some (o1, o2, o3, o4)) :
    Calls Try.prog 13 #[AG [encA .u8 d1, [.int .i64 x1], encA .i64 d2, [.slice a1 n1 c1]]] g0.w (Ret NoM g0 fun v g => ∃ (a_1 : Option Addr) (n_1 : Nat) (c_1 : Nat), v = AG [encA .u8 o1, [.int .i64 o2], encA .i64 o3, [.slice a_1 n_1 c_1]] ∧ OwnS k_S_purse_Held g r0 56 a_1 n_1 c_1 o4) := by
  refine calls_of (args := [AG [encA .u8 d1, [.int .i64 x1], encA .i64 d2, [.slice a1 n1 c1]]]) Try.func13 rfl (r0 + 0) ?_
  intro t ht htL
  refine ⟨_, rfl, ?_⟩
  refine CP.refr 40 [(0, AG [encA .u8 d1, [.int .i64 x1], encA .i64 d2, [.slice a1 n1 c1]])] (by kernel_rfl) (by kernel_rfl) ?_
  intro ds
  have tot : Step (fun l => NoM l ∨ t ≤ l) g0 g0 := Step.refl _ _
  unfold F.baizelaw47_Own at hs
  refine CP.seqR ?_
  refine WP.alloc (T := 26) (t + 1) [encA .u8 d1, [.int .i64 x1], encA .i64 d2, [.slice a1 n1 c1]] [8, 1, 2, 1] (by kernel_rfl) (by simp [len_encA]) ?_
  intro g1 b1 st1 hB1
  replace hR1 := hR1.mono st1 (fun x => x)
  replace tot := tot.trans st1.pure
  refine WP.alloc (T := 32) (t + 2) [encA .u8 (zA 8), [.int .i64 0], encA .i64 (zA 2), [.slice none 0 0]] [8, 1, 2, 1] (by kernel_rfl) (by simp [len_encA]) ?_
  intro g2 b2 st2 hB2
  replace hR1 := hR1.mono st2 (fun x => x)
  replace hB1 := hB1.mono st2 (fun x => x)
  replace tot := tot.trans st2.pure
  refine WP.done (by kernel_rfl) ?_
  refine NX.then_n ?_
  refine CP.seqR ?_
  refine WP.still 1 (by kernel_rfl) ?_
  refine WP.loadB (v := AG [encA .u8 d1]) hB1 (by kernel_rfl) (by kernel_rfl) ?_
  refine WP.still 1 (by kernel_rfl) ?_
  refine WP.loadB (v := .int .i64 x1) hB1 (by kernel_rfl) (by kernel_rfl) ?_
  refine WP.still 1 (by kernel_rfl) ?_
  refine WP.loadB (v := AG [encA .i64 d2]) hB1 (by kernel_rfl) (by kernel_rfl) ?_
  refine WP.buildS (places := #[(0, 8), (8, 1), (9, 2), (11, 1)]) (t := 32) [encA .u8 (zA 8), [.int .i64 0], encA .i64 (zA 2), [.slice none 0 0]] [8, 1, 2, 1] (by kernel_rfl) (by kernel_rfl) (by simp [len_encA]) (by kernel_rfl) ((.cons (i := 0) (off := 0) (v := AG [encA .u8 d1]) (mid := [encA .u8 d1, [.int .i64 0], encA .i64 (zA 2), [.slice none 0 0]]) [encA .u8 d1] [8] (by kernel_rfl) (by kernel_rfl) (by simp [len_encA]) (by kernel_rfl) (.cons (i := 1) (off := 8) (v := .int .i64 x1) (mid := [encA .u8 d1, [.int .i64 x1], encA .i64 (zA 2), [.slice none 0 0]]) [[.int .i64 x1]] [1] (by kernel_rfl) (by kernel_rfl) rfl (by kernel_rfl) (.cons (i := 2) (off := 9) (v := AG [encA .i64 d2]) (mid := [encA .u8 d1, [.int .i64 x1], encA .i64 d2, [.slice none 0 0]]) [encA .i64 d2] [2] (by kernel_rfl) (by kernel_rfl) (by simp [len_encA]) (by kernel_rfl) .nil)))) ?_
  refine WP.alloc (T := 32) (t + 3) [encA .u8 (zA 8), [.int .i64 0], encA .i64 (zA 2), [.slice none 0 0]] [8, 1, 2, 1] (by kernel_rfl) (by simp [len_encA]) ?_
  intro g3 b3 st3 hB3
  replace hB1 := hB1.mono st3 (fun x => x)
  replace hR1 := hR1.mono st3 (fun x => x)
  replace hB2 := hB2.mono st3 (fun x => x)
  replace tot := tot.trans st3.pure
  refine WP.storeB (ty := 32) (off := 0) (v := AG [encA .u8 d1, [.int .i64 x1], encA .i64 d2, [.slice none 0 0]]) hB3 [encA .u8 d1, [.int .i64 x1], encA .i64 d2, [.slice none 0 0]] [8, 1, 2, 1] (by kernel_rfl) (by kernel_rfl) (by simp [len_encA]) (by kernel_rfl) [encA .u8 d1, [.int .i64 x1], encA .i64 d2, [.slice none 0 0]] (by kernel_rfl) (.arr (.one rfl (.arr (.one rfl .nil)))) ?_
  intro g4 st4 hB4
  replace hB1 := hB1.mono st4 (WL.no1 (by omega))
  replace hR1 := hR1.mono st4 (WL.no1 (by omega))
  replace hB2 := hB2.mono st4 (WL.no1 (by omega))
  replace tot := tot.trans (st4.up1 (.inr (by omega)))
  clear hB3
  have hB3 := hB4
  clear hB4
  refine WP.done (by kernel_rfl) ?_
  refine NX.then_n ?_
  refine CP.seq ?_
  refine CP.seqR ?_
  refine WP.still 1 (by kernel_rfl) ?_
  refine WP.done (by kernel_rfl) ?_
  refine NX.then_n ?_
  refine CP.block ?_
  generalize fuel = k1 at hs
  refine CP.loop (fun k1 tm g => ∃ (l2 : List S_purse_Held) (a4 : Option Addr) (n2 : Nat) (c3 : Nat) (x2 : Int), Fr 40 [(1, .pointer (some ⟨b1, 0, none⟩)), (2, .pointer (some ⟨b2, 0, none⟩)), (3, .pointer (some ⟨b3, 0, none⟩)), (4, .int .i64 x2)] tm ∧ Step (fun l => NoM l ∨ t ≤ l) g0 g ∧ Box g (t + 1) b1 26 [encA .u8 d1, [.int .i64 x1], encA .i64 d2, [.slice a1 n1 c1]] [8, 1, 2, 1] ∧ RdS k_S_baizeref47_Held g 60 a1 n1 c1 l1 ∧ Box g (t + 2) b2 32 [encA .u8 (zA 8), [.int .i64 0], encA .i64 (zA 2), [.slice none 0 0]] [8, 1, 2, 1] ∧ Box g (t + 3) b3 32 [encA .u8 d1, [.int .i64 x1], encA .i64 d2, [.slice a4 n2 c3]] [8, 1, 2, 1] ∧ OwnS k_S_purse_Held g (t + 6) 56 a4 n2 c3 l2 ∧ F.baizelaw47_Own.l1 d1 x1 d2 l1 k1 l2 x2 = some (o1, o2, o3, o4)) k1 ?_ ?_ ?_
  · exact ⟨[], none, 0, 0, 0, ⟨by kernel_rfl, by kernel_rfl⟩, tot, hB1, hR1, hB2, hB3, (OwnS.nil _ _ _ _), hs⟩
  · rintro tm g ⟨l2, a4, n2, c3, x2, hF, tot, hB1, hR1, hB2, hB3, hR4, hs⟩
    exact absurd hs (by simp [F.baizelaw47_Own.l1])
  clear tot hs hB1 hR1 hB2 hB3
  rintro k1 tm g ⟨l2, a4, n2, c3, x2, hF, tot, hB1, hR1, hB2, hB3, hR4, hs⟩
  clear ds
  obtain ⟨ds, rfl⟩ := hF.open
  clear hF
  unfold F.baizelaw47_Own.l1 at hs
  refine CP.seq ?_
  refine CP.seqR ?_
  refine WP.still 2 (by kernel_rfl) ?_
  refine WP.loadB (v := .slice a1 n1 c1) hB1 (by kernel_rfl) (by kernel_rfl) ?_
  refine WP.len (a := a1) (cp := c1) hR1.len (by kernel_rfl) ?_
  refine WP.still 1 (by kernel_rfl) ?_
  refine WP.done (by kernel_rfl) ?_
  refine NX.then_n ?_
  refine CP.cond (b := decide (x2 < (l1.length : Int))) (by kernel_rfl) (fun h3 => ?_) (fun h3 => ?_)
  · replace hs := of_if_t hs h3
    refine CP.skip ?_
    refine NX.then_n ?_
    refine CP.seq ?_
    refine CP.block ?_
    refine CP.seqR ?_
    refine WP.still 1 (by kernel_rfl) ?_
    refine WP.loadB (v := .slice a1 n1 c1) hB1 (by kernel_rfl) (by kernel_rfl) ?_
    refine WP.still 1 (by kernel_rfl) ?_
    by_cases hc5 : (0 : Int) ≤ x2 ∧ x2 < (l1.length : Int)
    case neg => rw [if_neg hc5] at hs; cases hs
    replace hs := of_if_p hs hc5
    obtain ⟨b8, u3, ha3⟩ := hR1.at hc5
    refine WP.indexA (t := 24) (e := 60) (sz := 11) (cap := c1) (k := .i64) (i := x2) hR1.len ha3 (by kernel_rfl) (by kernel_rfl) hc5 ?_
    obtain ⟨cs3, hcR3, hcV3⟩ := hR1.src.view (getI_some hc5) ha3
    replace hcR3 := k_S_baizeref47_Held.opn hcR3
    refine WP.loadV [encA .u8 ((getI l1 x2).f1), [.int .i64 ((getI l1 x2).f2)], [.int .i64 ((getI l1 x2).f3)], [.int .i64 ((getI l1 x2).f4)]] [8, 1, 1, 1] hcV3 hcR3 (by simp [len_encA]) (f := 0) (ty := 60) (agg := true) (size := 11) (rs := [encA .u8 ((getI l1 x2).f1), [.int .i64 ((getI l1 x2).f2)], [.int .i64 ((getI l1 x2).f3)], [.int .i64 ((getI l1 x2).f4)]]) (v := AG [encA .u8 ((getI l1 x2).f1), [.int .i64 ((getI l1 x2).f2)], [.int .i64 ((getI l1 x2).f3)], [.int .i64 ((getI l1 x2).f4)]]) (by kernel_rfl) (by kernel_rfl) (by kernel_rfl) (by kernel_rfl) ?_
    refine WP.alloc (T := 60) (t + 9) [encA .u8 (zA 8), [.int .i64 0], [.int .i64 0], [.int .i64 0]] [8, 1, 1, 1] (by kernel_rfl) (by simp [len_encA]) ?_
    intro g17 b9 st17 hB13
    replace hB1 := hB1.mono st17 (fun x => x)
    replace hR1 := hR1.mono st17 (fun x => x)
    replace hB2 := hB2.mono st17 (fun x => x)
    replace hB3 := hB3.mono st17 (fun x => x)
    replace hR4 := hR4.mono st17 (fun x => x) (fun x => x)
    replace tot := tot.trans st17.pure
    refine WP.storeB (ty := 60) (off := 0) (v := AG [encA .u8 ((getI l1 x2).f1), [.int .i64 ((getI l1 x2).f2)], [.int .i64 ((getI l1 x2).f3)], [.int .i64 ((getI l1 x2).f4)]]) hB13 [encA .u8 ((getI l1 x2).f1), [.int .i64 ((getI l1 x2).f2)], [.int .i64 ((getI l1 x2).f3)], [.int .i64 ((getI l1 x2).f4)]] [8, 1, 1, 1] (by kernel_rfl) (by kernel_rfl) (by simp [len_encA]) (by kernel_rfl) [encA .u8 ((getI l1 x2).f1), [.int .i64 ((getI l1 x2).f2)], [.int .i64 ((getI l1 x2).f3)], [.int .i64 ((getI l1 x2).f4)]] (by kernel_rfl) (.arr (.one rfl (.one rfl (.one rfl .nil)))) ?_
    intro g18 st18 hB14
    replace hB1 := hB1.mono st18 (WL.no1 (by omega))
    replace hR1 := hR1.mono st18 (WL.no1 (by omega))
    replace hB2 := hB2.mono st18 (WL.no1 (by omega))
    replace hB3 := hB3.mono st18 (WL.no1 (by omega))
    replace hR4 := hR4.mono st18 (WL.no1 (by omega)) (WL.no1 (by omega))
    replace tot := tot.trans (st18.up1 (.inr (by omega)))
    clear hB13
    have hB13 := hB14
    clear hB14
    refine WP.done (by kernel_rfl) ?_
    refine NX.then_n ?_
    refine CP.region ?_
    refine WP.still 1 (by kernel_rfl) ?_
    refine WP.loadB (v := .slice a4 n2 c3) hB3 (by kernel_rfl) (by kernel_rfl) ?_
    refine WP.still 1 (by kernel_rfl) ?_
    refine WP.loadB (v := AG [encA .u8 ((getI l1 x2).f1)]) hB13 (by kernel_rfl) (by kernel_rfl) ?_
    refine WP.still 1 (by kernel_rfl) ?_
    refine WP.loadB (v := .int .i64 ((getI l1 x2).f2)) hB13 (by kernel_rfl) (by kernel_rfl) ?_
    refine WP.still 1 (by kernel_rfl) ?_
    refine WP.loadB (v := .int .i64 ((getI l1 x2).f3)) hB13 (by kernel_rfl) (by kernel_rfl) ?_
    refine WP.still 1 (by kernel_rfl) ?_
    refine WP.loadB (v := .int .i64 ((getI l1 x2).f4)) hB13 (by kernel_rfl) (by kernel_rfl) ?_
    refine WP.buildS (places := #[(0, 8), (8, 1), (9, 1), (10, 1)]) (t := 56) [encA .u8 (zA 8), [.int .i64 0], [.int .i64 0], [.int .i64 0]] [8, 1, 1, 1] (by kernel_rfl) (by kernel_rfl) (by simp [len_encA]) (by kernel_rfl) ((.cons (i := 0) (off := 0) (v := AG [encA .u8 ((getI l1 x2).f1)]) (mid := [encA .u8 ((getI l1 x2).f1), [.int .i64 0], [.int .i64 0], [.int .i64 0]]) [encA .u8 ((getI l1 x2).f1)] [8] (by kernel_rfl) (by kernel_rfl) (by simp [len_encA]) (by kernel_rfl) (.cons (i := 1) (off := 8) (v := .int .i64 ((getI l1 x2).f2)) (mid := [encA .u8 ((getI l1 x2).f1), [.int .i64 ((getI l1 x2).f2)], [.int .i64 0], [.int .i64 0]]) [[.int .i64 ((getI l1 x2).f2)]] [1] (by kernel_rfl) (by kernel_rfl) rfl (by kernel_rfl) (.cons (i := 2) (off := 9) (v := .int .i64 ((getI l1 x2).f3)) (mid := [encA .u8 ((getI l1 x2).f1), [.int .i64 ((getI l1 x2).f2)], [.int .i64 ((getI l1 x2).f3)], [.int .i64 0]]) [[.int .i64 ((getI l1 x2).f3)]] [1] (by kernel_rfl) (by kernel_rfl) rfl (by kernel_rfl) (.cons (i := 3) (off := 10) (v := .int .i64 ((getI l1 x2).f4)) (mid := [encA .u8 ((getI l1 x2).f1), [.int .i64 ((getI l1 x2).f2)], [.int .i64 ((getI l1 x2).f3)], [.int .i64 ((getI l1 x2).f4)]]) [[.int .i64 ((getI l1 x2).f4)]] [1] (by kernel_rfl) (by kernel_rfl) rfl (by kernel_rfl) .nil))))) ?_
    refine WP.mkSl (kd := k_S_purse_Held) (t := 30) (e := 56) (bytes := 32) (t + 10) [AG [encA .u8 ((getI l1 x2).f1), [.int .i64 ((getI l1 x2).f2)], [.int .i64 ((getI l1 x2).f3)], [.int .i64 ((getI l1 x2).f4)]]] [(⟨(getI l1 x2).f1, (getI l1 x2).f2, (getI l1 x2).f3, (getI l1 x2).f4⟩ : S_purse_Held)] (by kernel_rfl) (by kernel_rfl) (Nat.le_of_ble_eq_true rfl) (Nat.le_of_ble_eq_true rfl) (all_cons (Kd.len k_S_purse_Held (g := g18) (x := (⟨(getI l1 x2).f1, (getI l1 x2).f2, (getI l1 x2).f3, (getI l1 x2).f4⟩ : S_purse_Held)) (k_S_purse_Held.mk rfl rfl rfl rfl)) all_nil) (⟨_, _, rfl, (k_S_purse_Held.mk rfl rfl rfl rfl), rfl⟩) rfl ?_
    intro g19 a8 st19 hR8
    replace hB1 := hB1.mono st19 (fun x => x)
    replace hR1 := hR1.mono st19 (fun x => x)
    replace hB2 := hB2.mono st19 (fun x => x)
    replace hB3 := hB3.mono st19 (fun x => x)
    replace hR4 := hR4.mono st19 (fun x => x) (fun x => x)
    replace hB13 := hB13.mono st19 (fun x => x)
    replace tot := tot.trans st19.pure
    by_cases hc6 : l2.length + ([(⟨(getI l1 x2).f1, (getI l1 x2).f2, (getI l1 x2).f3, (getI l1 x2).f4⟩ : S_purse_Held)]).length ≤ 4398046511104
    case neg => rw [if_neg hc6] at hs; cases hs
    replace hs := of_if_p hs hc6
    refine WP.append (kd := k_S_purse_Held) (t := 30) (e := 56) (bytes := 32) (a2 := a8) (c2 := 1) hR4 hR8.src hR8.len (by kernel_rfl) (by kernel_rfl) (by omega) (by simp only [maxLen]; omega) (by omega) ?_
    intro g20 a9 c6 st20 hR9
    replace hB1 := hB1.mono st20 (WL.no1 (by omega))
    replace hR1 := hR1.mono st20 (WL.no1 (by omega))
    replace hB2 := hB2.mono st20 (WL.no1 (by omega))
    replace hB3 := hB3.mono st20 (WL.no1 (by omega))
    replace hB13 := hB13.mono st20 (WL.no1 (by omega))
    replace hR8 := hR8.mono st20 (WL.no1 (by omega)) (WL.no1 (by omega))
    replace tot := tot.trans (st20.up1 (.inr (by omega)))
    refine WP.still 1 (by kernel_rfl) ?_
    refine WP.storeB (ty := 30) (off := 11) (v := .slice a9 (n2 + 1) c6) hB3 [[.slice a9 (n2 + 1) c6]] [1] (by kernel_rfl) (by kernel_rfl) rfl (by kernel_rfl) [encA .u8 d1, [.int .i64 x1], encA .i64 d2, [.slice a9 (n2 + 1) c6]] (by kernel_rfl) (.one rfl .nil) ?_
    intro g21 st21 hB15
    replace hB1 := hB1.mono st21 (WL.no1 (by omega))
    replace hR1 := hR1.mono st21 (WL.no1 (by omega))
    replace hB2 := hB2.mono st21 (WL.no1 (by omega))
    replace hR9 := hR9.mono st21 (WL.no1 (by omega)) (WL.no1 (by omega))
    replace hB13 := hB13.mono st21 (WL.no1 (by omega))
    replace hR8 := hR8.mono st21 (WL.no1 (by omega)) (WL.no1 (by omega))
    replace tot := tot.trans (st21.up1 (.inr (by omega)))
    clear hB3
    have hB3 := hB15
    clear hB15
    refine WP.done (by kernel_rfl) ?_
    refine NX.block_n ?_
    refine NX.then_n ?_
    refine CP.refr 40 [(1, .pointer (some ⟨b1, 0, none⟩)), (2, .pointer (some ⟨b2, 0, none⟩)), (3, .pointer (some ⟨b3, 0, none⟩)), (4, .int .i64 x2)] (by kernel_rfl) (by kernel_rfl) ?_
    clear ds
    intro ds
    refine CP.region ?_
    refine WP.still 3 (by kernel_rfl) ?_
    refine WP.done (by kernel_rfl) ?_
    refine NX.post ?_
    exact ⟨(l2 ++ [(⟨(getI l1 x2).f1, (getI l1 x2).f2, (getI l1 x2).f3, (getI l1 x2).f4⟩ : S_purse_Held)]), a9, (n2 + 1), c6, (IntKind.i64.wrap (x2 + 1)), ⟨by kernel_rfl, by kernel_rfl⟩, tot, hB1, hR1, hB2, hB3, hR9, hs⟩
  replace hs := of_if_f hs h3
  refine CP.exit ?_
  refine NX.then_e ?_
  refine NX.then_e ?_
  refine NX.block_s ?_
  refine NX.then_n ?_
  refine CP.seqR ?_
  refine WP.loadB (v := AG [encA .u8 d1, [.int .i64 x1], encA .i64 d2, [.slice a4 n2 c3]]) hB3 (by kernel_rfl) (by kernel_rfl) ?_
  refine WP.storeB (ty := 32) (off := 0) (v := AG [encA .u8 d1, [.int .i64 x1], encA .i64 d2, [.slice a4 n2 c3]]) hB2 [encA .u8 d1, [.int .i64 x1], encA .i64 d2, [.slice a4 n2 c3]] [8, 1, 2, 1] (by kernel_rfl) (by kernel_rfl) (by simp [len_encA]) (by kernel_rfl) [encA .u8 d1, [.int .i64 x1], encA .i64 d2, [.slice a4 n2 c3]] (by kernel_rfl) (.arr (.one rfl (.arr (.one rfl .nil)))) ?_
  intro g22 st22 hB16
  replace hR4 := hR4.mono st22 (WL.no1 (by omega)) (WL.no1 (by omega))
  replace hB3 := hB3.mono st22 (WL.no1 (by omega))
  replace tot := tot.trans (st22.up1 (.inr (by omega)))
  clear hB2
  have hB2 := hB16
  clear hB16
  refine WP.done (by kernel_rfl) ?_
  refine NX.then_n ?_
  refine CP.ret ?_
  obtain ⟨g23, hw1, st23, hnew⟩ := hR4.relab (by omega) r0
  refine NX.regw hw1 ?_
  replace hB2 := hB2.mono st23 (WL.no1 (by omega))
  replace tot := tot.trans (st23.up1 (.inr (by omega)))
  clear hR4
  have hR4 := hnew
  clear hnew
  replace hs := Option.some.inj hs
  simp only [Prod.mk.injEq] at hs
  obtain ⟨rfl, rfl, rfl, rfl⟩ := hs
  exact NX.fin (v := AG [encA .u8 d1, [.int .i64 x1], encA .i64 d2, [.slice a4 n2 c3]]) (Res.one rfl (RV.box (agg := true) (size := 12) (rs := [encA .u8 d1, [.int .i64 x1], encA .i64 d2, [.slice a4 n2 c3]]) hB2 (by kernel_rfl) (by kernel_rfl) (by kernel_rfl) (by kernel_rfl))) tot htL ⟨a4, n2, c3, rfl, hR4⟩
def F.baizeref47_height.c1 (q1 : Bool) : Option (Bool) := (some q1)
def F.baizeref47_height (x1 : Int) : Option (Bool) := (if decide (x1 ≥ 0) = true then (F.baizeref47_height.c1 (decide (x1 ≤ 1099511627776))) else (F.baizeref47_height.c1 false))
theorem P.baizeref47_height (g0 : GW) (x1 : Int) (o1 : Bool) (hs : F.baizeref47_height x1 = some o1) :
    Calls Try.prog 56 #[.int .i64 x1] g0.w (Ret NoM g0 fun v g => v = .bool o1) := by
  refine calls_of (args := [.int .i64 x1]) Try.func56 rfl (0) ?_
  intro t ht htL
  refine ⟨_, rfl, ?_⟩
  refine CP.refr 9 [(0, .int .i64 x1)] (by kernel_rfl) (by kernel_rfl) ?_
  intro ds
  have tot : Step (fun l => NoM l ∨ t ≤ l) g0 g0 := Step.refl _ _
  unfold F.baizeref47_height at hs
  refine CP.seqR ?_
  refine WP.still 1 (by kernel_rfl) ?_
  refine WP.done (by kernel_rfl) ?_
  refine NX.then_n ?_
  refine CP.cut (fun tm g => ∃ (q1 : Bool), Fr 9 [(2, .bool q1)] tm ∧ Step (fun l => NoM l ∨ t ≤ l) g0 g ∧ (F.baizeref47_height.c1 q1) = some o1) ?_ ?_
  · refine CP.region ?_
    refine WP.still 3 (by kernel_rfl) ?_
    refine WP.guard 5 (b := decide (x1 ≥ 0)) (by kernel_rfl) (fun h2 => ?_) (fun h2 => ?_)
    · replace hs := of_if_t hs h2
      refine WP.still 4 (by kernel_rfl) ?_
      refine WP.done (by kernel_rfl) ?_
      refine NX.post ?_
      exact ⟨decide (x1 ≤ 1099511627776), ⟨by kernel_rfl, by kernel_rfl⟩, tot, hs⟩
    replace hs := of_if_f hs h2
    refine WP.still 4 (by kernel_rfl) ?_
    refine WP.done (by kernel_rfl) ?_
    refine NX.post ?_
    exact ⟨false, ⟨by kernel_rfl, by kernel_rfl⟩, tot, hs⟩
  clear tot hs
  rintro tm g ⟨q1, hF, tot, hs⟩
  clear ds
  obtain ⟨ds, rfl⟩ := hF.open
  clear hF
  unfold F.baizeref47_height.c1 at hs
  refine CP.ret ?_
  replace hs := Option.some.inj hs
  obtain rfl := hs
  exact NX.fin (v := .bool q1) (Res.still (by kernel_rfl)) tot htL rfl
def F.baizeref03_Right.c1 (q1 : Bool) : Option (Bool) := (some q1)
def F.baizeref03_Right (x1 : Int) : Option (Bool) := (if decide (x1 ≥ 0) = true then (F.baizeref03_Right.c1 (decide (x1 ≤ 1125899906842624))) else (F.baizeref03_Right.c1 false))
theorem P.baizeref03_Right (g0 : GW) (x1 : Int) (o1 : Bool) (hs : F.baizeref03_Right x1 = some o1) :
    Calls Try.prog 57 #[.int .i64 x1] g0.w (Ret NoM g0 fun v g => v = .bool o1) := by
  refine calls_of (args := [.int .i64 x1]) Try.func57 rfl (0) ?_
  intro t ht htL
  refine ⟨_, rfl, ?_⟩
  refine CP.refr 9 [(0, .int .i64 x1)] (by kernel_rfl) (by kernel_rfl) ?_
  intro ds
  have tot : Step (fun l => NoM l ∨ t ≤ l) g0 g0 := Step.refl _ _
  unfold F.baizeref03_Right at hs
  refine CP.seqR ?_
  refine WP.still 1 (by kernel_rfl) ?_
  refine WP.done (by kernel_rfl) ?_
  refine NX.then_n ?_
  refine CP.cut (fun tm g => ∃ (q1 : Bool), Fr 9 [(2, .bool q1)] tm ∧ Step (fun l => NoM l ∨ t ≤ l) g0 g ∧ (F.baizeref03_Right.c1 q1) = some o1) ?_ ?_
  · refine CP.region ?_
    refine WP.still 3 (by kernel_rfl) ?_
    refine WP.guard 5 (b := decide (x1 ≥ 0)) (by kernel_rfl) (fun h2 => ?_) (fun h2 => ?_)
    · replace hs := of_if_t hs h2
      refine WP.still 4 (by kernel_rfl) ?_
      refine WP.done (by kernel_rfl) ?_
      refine NX.post ?_
      exact ⟨decide (x1 ≤ 1125899906842624), ⟨by kernel_rfl, by kernel_rfl⟩, tot, hs⟩
    replace hs := of_if_f hs h2
    refine WP.still 4 (by kernel_rfl) ?_
    refine WP.done (by kernel_rfl) ?_
    refine NX.post ?_
    exact ⟨false, ⟨by kernel_rfl, by kernel_rfl⟩, tot, hs⟩
  clear tot hs
  rintro tm g ⟨q1, hF, tot, hs⟩
  clear ds
  obtain ⟨ds, rfl⟩ := hF.open
  clear hF
  unfold F.baizeref03_Right.c1 at hs
  refine CP.ret ?_
  replace hs := Option.some.inj hs
  obtain rfl := hs
  exact NX.fin (v := .bool q1) (Res.still (by kernel_rfl)) tot htL rfl
def F.baizeref47_positive.c1 (q2 : Bool) : Option (Bool) := (some q2)
def F.baizeref47_positive (x1 : Int) : Option (Bool) := ((F.baizeref03_Right x1).bind fun q3 => (if q3 = true then (F.baizeref47_positive.c1 (decide (x1 > 0))) else (F.baizeref47_positive.c1 false)))
theorem P.baizeref47_positive (g0 : GW) (x1 : Int) (o1 : Bool) (hs : F.baizeref47_positive x1 = some o1) :
    Calls Try.prog 58 #[.int .i64 x1] g0.w (Ret NoM g0 fun v g => v = .bool o1) := by
  refine calls_of (args := [.int .i64 x1]) Try.func58 rfl (0) ?_
  intro t ht htL
  refine ⟨_, rfl, ?_⟩
  refine CP.refr 9 [(0, .int .i64 x1)] (by kernel_rfl) (by kernel_rfl) ?_
  intro ds
  have tot : Step (fun l => NoM l ∨ t ≤ l) g0 g0 := Step.refl _ _
  unfold F.baizeref47_positive at hs
  refine CP.seqR ?_
  refine WP.still 1 (by kernel_rfl) ?_
  refine WP.done (by kernel_rfl) ?_
  refine NX.then_n ?_
  refine CP.cut (fun tm g => ∃ (q2 : Bool), Fr 9 [(2, .bool q2)] tm ∧ Step (fun l => NoM l ∨ t ≤ l) g0 g ∧ (F.baizeref47_positive.c1 q2) = some o1) ?_ ?_
  · refine CP.region ?_
    refine WP.still 1 (by kernel_rfl) ?_
    replace hs := Option.bind_eq_some_iff.1 hs
    obtain ⟨q3, hk2, hs⟩ := hs
    have hcal2 := P.baizeref03_Right g0 x1 q3 hk2
    refine WP.callC hcal2 (by kernel_rfl) ?_
    rintro _ g2 st2 rfl
    replace tot := tot.trans st2.pure
    refine WP.still 1 (by kernel_rfl) ?_
    refine WP.guard 5 (b := q3) (by kernel_rfl) (fun h2 => ?_) (fun h2 => ?_)
    · replace hs := of_if_t hs h2
      refine WP.still 4 (by kernel_rfl) ?_
      refine WP.done (by kernel_rfl) ?_
      refine NX.post ?_
      exact ⟨decide (x1 > 0), ⟨by kernel_rfl, by kernel_rfl⟩, tot, hs⟩
    replace hs := of_if_f hs h2
    refine WP.still 4 (by kernel_rfl) ?_
    refine WP.done (by kernel_rfl) ?_
    refine NX.post ?_
    exact ⟨false, ⟨by kernel_rfl, by kernel_rfl⟩, tot, hs⟩
  clear tot hs
  rintro tm g ⟨q2, hF, tot, hs⟩
  clear ds
  obtain ⟨ds, rfl⟩ := hF.open
  clear hF
  unfold F.baizeref47_positive.c1 at hs
  refine CP.ret ?_
  replace hs := Option.some.inj hs
  obtain rfl := hs
  exact NX.fin (v := .bool q2) (Res.still (by kernel_rfl)) tot htL rfl
def N.baizeref47_Place_0 : List (List Nat) := [[], [0], [], [0, 1, 2], [0, 1, 2, 3], [0, 1, 2, 3, 4], [], [0, 1, 2, 3, 4, 5, 6]]
def F.baizeref47_Place.l1 (l1 : List S_baizeref47_Held) (d3 : Arr Int 8) : Nat → Int → Option (Int)
  | 0, _ => none
  | k + 1, x2 => (if decide (x2 < (l1.length : Int)) = true then (if (0 : Int) ≤ x2 ∧ x2 < (l1.length : Int) then (if (((getI l1 x2).f1).1 == d3.1) = true then (some x2) else (F.baizeref47_Place.l1 l1 d3 k (IntKind.i64.wrap (x2 + 1)))) else none) else (some (-1)))
def F.baizeref47_Place (d1 : Arr Int 8) (x1 : Int) (d2 : Arr Int 2) (l1 : List S_baizeref47_Held) (d3 : Arr Int 8) : Option (Int) := (F.baizeref47_Place.l1 l1 d3 fuel 0)
theorem P.baizeref47_Place (g0 : GW) (d1 : Arr Int 8) (x1 : Int) (d2 : Arr Int 2) (l1 : List S_baizeref47_Held) (d3 : Arr Int 8) (a1 : Option Addr) (n1 : Nat) (c1 : Nat) (hR1 : RdS k_S_baizeref47_Held g0 60 a1 n1 c1 l1) (o1 : Int) (hs : F.baizeref47_Place d1 x1 d2 l1 d3 = some o1) :
    Calls Try.prog 28 #[AG [encA .u8 d1, [.int .i64 x1], encA .i64 d2, [.slice a1 n1 c1]], AG [encA .u8 d3]] g0.w (Ret NoM g0 fun v g => v = .int .i64 o1) := by
  refine calls_of (args := [AG [encA .u8 d1, [.int .i64 x1], encA .i64 d2, [.slice a1 n1 c1]], AG [encA .u8 d3]]) Try.func28 rfl (0) ?_
  intro t ht htL
  refine ⟨_, rfl, ?_⟩
  refine CP.refr 22 [(0, AG [encA .u8 d1, [.int .i64 x1], encA .i64 d2, [.slice a1 n1 c1]]), (1, AG [encA .u8 d3])] (by kernel_rfl) (by kernel_rfl) ?_
  intro ds
  have tot : Step (fun l => NoM l ∨ t ≤ l) g0 g0 := Step.refl _ _
  unfold F.baizeref47_Place at hs
  refine CP.seqR ?_
  refine WP.alloc (T := 26) (t + 1) [encA .u8 d1, [.int .i64 x1], encA .i64 d2, [.slice a1 n1 c1]] [8, 1, 2, 1] (by kernel_rfl) (by simp [len_encA]) ?_
  intro g1 b1 st1 hB1
  replace hR1 := hR1.mono st1 (fun x => x)
  replace tot := tot.trans st1.pure
  refine WP.alloc (T := 22) (t + 2) [encA .u8 d3] [8] (by kernel_rfl) (by simp [len_encA]) ?_
  intro g2 b2 st2 hB2
  replace hR1 := hR1.mono st2 (fun x => x)
  replace hB1 := hB1.mono st2 (fun x => x)
  replace tot := tot.trans st2.pure
  refine WP.still 1 (by kernel_rfl) ?_
  refine WP.done (by kernel_rfl) ?_
  refine NX.then_n ?_
  refine CP.seq ?_
  refine CP.seqR ?_
  refine WP.still 1 (by kernel_rfl) ?_
  refine WP.done (by kernel_rfl) ?_
  refine NX.then_n ?_
  refine CP.block ?_
  generalize fuel = k1 at hs
  refine CP.loop (fun k1 tm g => ∃ (x2 : Int), Fr 22 [(2, .pointer (some ⟨b1, 0, none⟩)), (3, .pointer (some ⟨b2, 0, none⟩)), (5, .int .i64 x2)] tm ∧ Step (fun l => NoM l ∨ t ≤ l) g0 g ∧ Box g (t + 1) b1 26 [encA .u8 d1, [.int .i64 x1], encA .i64 d2, [.slice a1 n1 c1]] [8, 1, 2, 1] ∧ RdS k_S_baizeref47_Held g 60 a1 n1 c1 l1 ∧ Box g (t + 2) b2 22 [encA .u8 d3] [8] ∧ F.baizeref47_Place.l1 l1 d3 k1 x2 = some o1) k1 ?_ ?_ ?_
  · exact ⟨0, ⟨by kernel_rfl, by kernel_rfl⟩, tot, hB1, hR1, hB2, hs⟩
  · rintro tm g ⟨x2, hF, tot, hB1, hR1, hB2, hs⟩
    exact absurd hs (by simp [F.baizeref47_Place.l1])
  clear tot hs hB1 hR1 hB2
  rintro k1 tm g ⟨x2, hF, tot, hB1, hR1, hB2, hs⟩
  clear ds
  obtain ⟨ds, rfl⟩ := hF.open
  clear hF
  unfold F.baizeref47_Place.l1 at hs
  refine CP.seq ?_
  refine CP.seqR ?_
  refine WP.still 2 (by kernel_rfl) ?_
  refine WP.loadB (v := .slice a1 n1 c1) hB1 (by kernel_rfl) (by kernel_rfl) ?_
  refine WP.len (a := a1) (cp := c1) hR1.len (by kernel_rfl) ?_
  refine WP.still 1 (by kernel_rfl) ?_
  refine WP.done (by kernel_rfl) ?_
  refine NX.then_n ?_
  refine CP.cond (b := decide (x2 < (l1.length : Int))) (by kernel_rfl) (fun h5 => ?_) (fun h5 => ?_)
  · replace hs := of_if_t hs h5
    refine CP.skip ?_
    refine NX.then_n ?_
    refine CP.seq ?_
    refine CP.block ?_
    refine CP.seq ?_
    by_cases hc3 : (0 : Int) ≤ x2 ∧ x2 < (l1.length : Int)
    case neg => rw [if_neg hc3] at hs; cases hs
    replace hs := of_if_p hs hc3
    obtain ⟨b5, u3, ha3⟩ := hR1.at hc3
    refine CP.drawL (by kernel_rfl) [1, 3, 5, 6, 7] N.baizeref47_Place_0 [⟨none, [], [], fun l g => Box g (t + 1) b1 26 [encA .u8 d1, [.int .i64 x1], encA .i64 d2, [.slice a1 n1 c1]] [8, 1, 2, 1]⟩, ⟨none, [], [], fun l g => RdS k_S_baizeref47_Held g 60 a1 n1 c1 l1⟩, ⟨none, [], [], fun l g => Box g (t + 2) b2 22 [encA .u8 d3] [8]⟩, ⟨some 0, [], [0], fun l g => l.getD 0 undef = .slice a1 n1 c1⟩, ⟨some 1, [], [1], fun l g => l.getD 0 undef = .pointer (some ⟨b5, u3 + x2.toNat * 11, none⟩)⟩, ⟨some 2, [], [2], fun l g => l.getD 0 undef = AG [encA .u8 ((getI l1 x2).f1)]⟩, ⟨some 3, [], [3], fun l g => l.getD 0 undef = AG [encA .u8 d3]⟩, ⟨some 4, [], [4], fun l g => l.getD 0 undef = .bool (((getI l1 x2).f1).1 == d3.1)⟩] [[], [], [], [], []] [] [0, 2] [4] (by kernel_rfl) (by simp) (by simp) ⟨fun _ _ _ _ st h0 hl hj hB1 => (hB1.mono st (fun h => absurd (hl _ h) (by simp))), fun _ _ _ _ st h0 hl hj hR1 => (RdS.mono (e := 60) hR1 st h0), fun _ _ _ _ st h0 hl hj hB2 => (hB2.mono st (fun h => absurd (hl _ h) (by simp))), fun _ _ _ _ st h0 hl hj e0 => e0, fun _ _ _ _ st h0 hl hj e1 => e1, fun _ _ _ _ st h0 hl hj e2 => e2, fun _ _ _ _ st h0 hl hj e3 => e3, fun _ _ _ _ st h0 hl hj e4 => e4, trivial⟩ ⟨hB1, hR1, hB2, trivial, trivial, trivial, trivial, trivial, trivial⟩ (by kernel_rfl) (fun vs => by kernel_rfl) ?_ ?_ ?_
    · intro j hj
      have hq : j = 0 := by have h : j < 1 := hj; omega
      rcases hq with rfl
      · intro vs gq stq hl hf
        obtain ⟨v0, v1, v2, v3, v4, rfl⟩ := len_k5 hl
        have e1 := (show v1 = .pointer (some ⟨b5, u3 + x2.toNat * 11, none⟩) from hf _ (List.mem_of_getElem? (i := 4) rfl) (by kernel_rfl))
        subst e1
        show Option.isSome _ = true
        kernel_rfl
    · intro j hj
      have hq : j = 0 ∨ j = 1 ∨ j = 2 ∨ j = 3 ∨ j = 4 := by have h : j < 5 := hj; omega
      rcases hq with rfl | rfl | rfl | rfl | rfl
      · intro vs gq stq hl hf
        obtain ⟨v0, v1, v2, v3, v4, rfl⟩ := len_k5 hl
        have hB1 := (show Box gq (t + 1) b1 26 [encA .u8 d1, [.int .i64 x1], encA .i64 d2, [.slice a1 n1 c1]] [8, 1, 2, 1] from hf _ (List.mem_of_getElem? (i := 0) rfl) (by kernel_rfl))
        refine WP.loadB (v := .slice a1 n1 c1) hB1 (by kernel_rfl) (by kernel_rfl) ?_
        refine WP.done (by kernel_rfl) (Shown.ok (v := .slice a1 n1 c1) (by kernel_rfl) (Step.refl _ _) ?_)
        exact ⟨trivial, trivial, trivial, rfl, trivial, trivial, trivial, trivial, trivial⟩
      · intro vs gq stq hl hf
        obtain ⟨v0, v1, v2, v3, v4, rfl⟩ := len_k5 hl
        have hR1 := (show RdS k_S_baizeref47_Held gq 60 a1 n1 c1 l1 from hf _ (List.mem_of_getElem? (i := 1) rfl) (by kernel_rfl))
        have e0 := (show v0 = .slice a1 n1 c1 from hf _ (List.mem_of_getElem? (i := 3) rfl) (by kernel_rfl))
        subst e0
        refine WP.indexA (t := 24) (e := 60) (sz := 11) (cap := c1) (k := .i64) (i := x2) hR1.len ha3 (by kernel_rfl) (by kernel_rfl) hc3 ?_
        refine WP.done (by kernel_rfl) (Shown.ok (v := .pointer (some ⟨b5, u3 + x2.toNat * 11, none⟩)) (by kernel_rfl) (Step.refl _ _) ?_)
        exact ⟨trivial, trivial, trivial, trivial, rfl, trivial, trivial, trivial, trivial⟩
      · intro vs gq stq hl hf
        obtain ⟨v0, v1, v2, v3, v4, rfl⟩ := len_k5 hl
        have hR1 := (show RdS k_S_baizeref47_Held gq 60 a1 n1 c1 l1 from hf _ (List.mem_of_getElem? (i := 1) rfl) (by kernel_rfl))
        have e1 := (show v1 = .pointer (some ⟨b5, u3 + x2.toNat * 11, none⟩) from hf _ (List.mem_of_getElem? (i := 4) rfl) (by kernel_rfl))
        subst e1
        obtain ⟨cs3, hcR3, hcV3⟩ := hR1.src.view (getI_some hc3) ha3
        replace hcR3 := k_S_baizeref47_Held.opn hcR3
        refine WP.loadV [encA .u8 ((getI l1 x2).f1), [.int .i64 ((getI l1 x2).f2)], [.int .i64 ((getI l1 x2).f3)], [.int .i64 ((getI l1 x2).f4)]] [8, 1, 1, 1] hcV3 hcR3 (by simp [len_encA]) (f := 0) (ty := 22) (agg := true) (size := 8) (rs := [encA .u8 ((getI l1 x2).f1)]) (v := AG [encA .u8 ((getI l1 x2).f1)]) (by kernel_rfl) (by kernel_rfl) (by kernel_rfl) (by kernel_rfl) ?_
        refine WP.done (by kernel_rfl) (Shown.ok (v := AG [encA .u8 ((getI l1 x2).f1)]) (by kernel_rfl) (Step.refl _ _) ?_)
        exact ⟨trivial, trivial, trivial, trivial, trivial, rfl, trivial, trivial, trivial⟩
      · intro vs gq stq hl hf
        obtain ⟨v0, v1, v2, v3, v4, rfl⟩ := len_k5 hl
        have hB2 := (show Box gq (t + 2) b2 22 [encA .u8 d3] [8] from hf _ (List.mem_of_getElem? (i := 2) rfl) (by kernel_rfl))
        refine WP.loadB (v := AG [encA .u8 d3]) hB2 (by kernel_rfl) (by kernel_rfl) ?_
        refine WP.done (by kernel_rfl) (Shown.ok (v := AG [encA .u8 d3]) (by kernel_rfl) (Step.refl _ _) ?_)
        exact ⟨trivial, trivial, trivial, trivial, trivial, trivial, rfl, trivial, trivial⟩
      · intro vs gq stq hl hf
        obtain ⟨v0, v1, v2, v3, v4, rfl⟩ := len_k5 hl
        have e2 := (show v2 = AG [encA .u8 ((getI l1 x2).f1)] from hf _ (List.mem_of_getElem? (i := 5) rfl) (by kernel_rfl))
        subst e2
        have e3 := (show v3 = AG [encA .u8 d3] from hf _ (List.mem_of_getElem? (i := 6) rfl) (by kernel_rfl))
        subst e3
        refine WP.eqV (by kernel_rfl) (by kernel_rfl) (EqV.arr (d := 9998) (t := 22) (e := 5) (m := 8) (k := .u8) (x := (getI l1 x2).f1) (y := d3) (by kernel_rfl) (by kernel_rfl)) ?_
        refine WP.done (by kernel_rfl) (Shown.ok (v := .bool (((getI l1 x2).f1).1 == d3.1)) (by kernel_rfl) (Step.refl _ _) ?_)
        exact ⟨trivial, trivial, trivial, trivial, trivial, trivial, trivial, rfl, trivial⟩
    intro vs g3 st3 hl hf
    obtain ⟨v0, v1, v2, v3, v4, rfl⟩ := len_k5 hl
    have e4 := (show v4 = .bool (((getI l1 x2).f1).1 == d3.1) from hf _ (List.mem_of_getElem? (i := 7) rfl) (by kernel_rfl))
    subst e4
    replace hB1 := hB1.mono st3.toNo (fun x => x)
    replace hR1 := hR1.mono st3.toNo (fun x => x)
    replace hB2 := hB2.mono st3.toNo (fun x => x)
    replace tot := tot.trans st3.toNo.pure
    refine NX.then_n ?_
    refine CP.refr 22 [(2, .pointer (some ⟨b1, 0, none⟩)), (3, .pointer (some ⟨b2, 0, none⟩)), (5, .int .i64 x2), (20, .bool (((getI l1 x2).f1).1 == d3.1))] (by kernel_rfl) (by kernel_rfl) ?_
    clear ds
    intro ds
    refine CP.cond (b := (((getI l1 x2).f1).1 == d3.1)) (by kernel_rfl) (fun h6 => ?_) (fun h6 => ?_)
    · replace hs := of_if_t hs h6
      refine CP.seqR ?_
      refine WP.still 2 (by kernel_rfl) ?_
      refine WP.done (by kernel_rfl) ?_
      refine NX.then_n ?_
      refine CP.ret ?_
      refine NX.block_r ?_
      refine NX.then_r ?_
      refine NX.then_r ?_
      refine NX.block_r ?_
      refine NX.then_r ?_
      replace hs := Option.some.inj hs
      obtain rfl := hs
      exact NX.fin (v := .int .i64 x2) (Res.still (by kernel_rfl)) tot htL rfl
    replace hs := of_if_f hs h6
    refine CP.skip ?_
    refine NX.block_n ?_
    refine NX.then_n ?_
    refine CP.region ?_
    refine WP.still 3 (by kernel_rfl) ?_
    refine WP.done (by kernel_rfl) ?_
    refine NX.post ?_
    exact ⟨(IntKind.i64.wrap (x2 + 1)), ⟨by kernel_rfl, by kernel_rfl⟩, tot, hB1, hR1, hB2, hs⟩
  replace hs := of_if_f hs h5
  refine CP.exit ?_
  refine NX.then_e ?_
  refine NX.then_e ?_
  refine NX.block_s ?_
  refine NX.then_n ?_
  refine CP.seqR ?_
  refine WP.still 1 (by kernel_rfl) ?_
  refine WP.done (by kernel_rfl) ?_
  refine NX.then_n ?_
  refine CP.ret ?_
  replace hs := Option.some.inj hs
  obtain rfl := hs
  exact NX.fin (v := .int .i64 (-1)) (Res.still (by kernel_rfl)) tot htL rfl
def N.baizeref47_Check_0 : List (List Nat) := [[], [0], [], [0, 1, 2], [0, 1, 2, 3], [], [5], [0, 1, 2, 3, 4, 5, 6], [0, 1, 2, 3, 4, 5, 6, 7]]
def F.baizeref47_Check.c2 (nx1 : Int → Int → Option (Int)) (l1 : List S_baizeref47_Held) (x3 : Int) (x4 : Int) (q15 : Bool) : Option (Int) := (if q15 = true then (some 2) else (if (0 : Int) ≤ 0 ∧ 0 ≤ x4 ∧ x4 ≤ (l1.length : Int) then ((F.baizeref47_Place (zA 8) 0 (zA 2) (sliceI l1 0 x4) ((getI l1 x4).f1)).bind fun x8 => (if decide (x8 ≥ 0) = true then (some 7) else (nx1 (IntKind.i64.wrap (x3 + ((getI l1 x4).f2))) (IntKind.i64.wrap (x4 + 1))))) else none))
def F.baizeref47_Check.l1 (l1 : List S_baizeref47_Held) : Nat → Int → Int → Option (Int)
  | 0, _, _ => none
  | k + 1, x3, x4 => (if decide (x4 < (l1.length : Int)) = true then (if (0 : Int) ≤ x4 ∧ x4 < (l1.length : Int) then ((F.baizeref47_positive ((getI l1 x4).f2)).bind fun q16 => (if (!q16) = true then (F.baizeref47_Check.c2 (F.baizeref47_Check.l1 l1 k) l1 x3 x4 true) else (if decide ((getI l1 x4).f3 < 0) = true then (F.baizeref47_Check.c2 (F.baizeref47_Check.l1 l1 k) l1 x3 x4 true) else (if decide ((getI l1 x4).f3 > 1) = true then (F.baizeref47_Check.c2 (F.baizeref47_Check.l1 l1 k) l1 x3 x4 true) else ((F.baizeref47_height ((getI l1 x4).f4)).bind fun q17 => (F.baizeref47_Check.c2 (F.baizeref47_Check.l1 l1 k) l1 x3 x4 (!q17))))))) else none) else ((F.baizeref03_Right x3).bind fun q18 => (if (!q18) = true then (some 2) else (some 0))))
def F.baizeref47_Check.c1 (d2 : Arr Int 2) (l1 : List S_baizeref47_Held) (q4 : Bool) : Option (Int) := (if q4 = true then (some 2) else (if decide ((l1.length : Int) > 16) = true then (some 8) else (F.baizeref47_Check.l1 l1 fuel (IntKind.i64.wrap ((aget d2 0) + (aget d2 1))) 0)))
def F.baizeref47_Check (d1 : Arr Int 8) (x1 : Int) (d2 : Arr Int 2) (l1 : List S_baizeref47_Held) : Option (Int) := ((F.baizeref47_height x1).bind fun q19 => (if (!q19) = true then (F.baizeref47_Check.c1 d2 l1 true) else ((F.baizeref03_Right (aget d2 0)).bind fun q20 => (if (!q20) = true then (F.baizeref47_Check.c1 d2 l1 true) else ((F.baizeref03_Right (aget d2 1)).bind fun q21 => (F.baizeref47_Check.c1 d2 l1 (!q21)))))))
theorem P.baizeref47_Check (g0 : GW) (d1 : Arr Int 8) (x1 : Int) (d2 : Arr Int 2) (l1 : List S_baizeref47_Held) (a1 : Option Addr) (n1 : Nat) (c1 : Nat) (hR1 : RdS k_S_baizeref47_Held g0 60 a1 n1 c1 l1) (o1 : Int) (hs : F.baizeref47_Check d1 x1 d2 l1 = some o1) :
    Calls Try.prog 24 #[AG [encA .u8 d1, [.int .i64 x1], encA .i64 d2, [.slice a1 n1 c1]]] g0.w (Ret NoM g0 fun v g => v = .int .i64 o1) := by
  refine calls_of (args := [AG [encA .u8 d1, [.int .i64 x1], encA .i64 d2, [.slice a1 n1 c1]]]) Try.func24 rfl (0) ?_
  intro t ht htL
  refine ⟨_, rfl, ?_⟩
  refine CP.refr 85 [(0, AG [encA .u8 d1, [.int .i64 x1], encA .i64 d2, [.slice a1 n1 c1]])] (by kernel_rfl) (by kernel_rfl) ?_
  intro ds
  have tot : Step (fun l => NoM l ∨ t ≤ l) g0 g0 := Step.refl _ _
  unfold F.baizeref47_Check at hs
  refine CP.seqR ?_
  refine WP.alloc (T := 26) (t + 1) [encA .u8 d1, [.int .i64 x1], encA .i64 d2, [.slice a1 n1 c1]] [8, 1, 2, 1] (by kernel_rfl) (by simp [len_encA]) ?_
  intro g1 b1 st1 hB1
  replace hR1 := hR1.mono st1 (fun x => x)
  replace tot := tot.trans st1.pure
  refine WP.still 1 (by kernel_rfl) ?_
  refine WP.done (by kernel_rfl) ?_
  refine NX.then_n ?_
  refine CP.seq ?_
  refine CP.cut (fun tm g => ∃ (q4 : Bool), Fr 85 [(1, .pointer (some ⟨b1, 0, none⟩)), (24, .bool q4)] tm ∧ Step (fun l => NoM l ∨ t ≤ l) g0 g ∧ Box g (t + 1) b1 26 [encA .u8 d1, [.int .i64 x1], encA .i64 d2, [.slice a1 n1 c1]] [8, 1, 2, 1] ∧ RdS k_S_baizeref47_Held g 60 a1 n1 c1 l1 ∧ (F.baizeref47_Check.c1 d2 l1 q4) = some o1) ?_ ?_
  · refine CP.region ?_
    refine WP.still 1 (by kernel_rfl) ?_
    refine WP.loadB (v := .int .i64 x1) hB1 (by kernel_rfl) (by kernel_rfl) ?_
    replace hs := Option.bind_eq_some_iff.1 hs
    obtain ⟨q19, hk18, hs⟩ := hs
    have hcal18 := P.baizeref47_height g1 x1 q19 hk18
    refine WP.callC hcal18 (by kernel_rfl) ?_
    rintro _ g26 st26 rfl
    replace hB1 := hB1.mono st26 (fun x => x)
    replace hR1 := hR1.mono st26 (fun x => x)
    replace tot := tot.trans st26.pure
    refine WP.still 2 (by kernel_rfl) ?_
    refine WP.guard 11 (b := (!q19)) (by kernel_rfl) (fun h29 => ?_) (fun h29 => ?_)
    · replace hs := of_if_t hs h29
      refine WP.still 13 (by kernel_rfl) ?_
      refine WP.done (by kernel_rfl) ?_
      refine NX.post ?_
      exact ⟨true, ⟨by kernel_rfl, by kernel_rfl⟩, tot, hB1, hR1, hs⟩
    replace hs := of_if_f hs h29
    refine WP.still 2 (by kernel_rfl) ?_
    refine WP.loadE (ty := 3) (o := 9) (m := 2) (k := .i64) (d := d2) (i := 0) hB1 (by kernel_rfl) (by decide) (by kernel_rfl) (by kernel_rfl) ?_
    replace hs := Option.bind_eq_some_iff.1 hs
    obtain ⟨q20, hk19, hs⟩ := hs
    have hcal19 := P.baizeref03_Right g26 (aget d2 0) q20 hk19
    refine WP.callC hcal19 (by kernel_rfl) ?_
    rintro _ g27 st27 rfl
    replace hB1 := hB1.mono st27 (fun x => x)
    replace hR1 := hR1.mono st27 (fun x => x)
    replace tot := tot.trans st27.pure
    refine WP.still 3 (by kernel_rfl) ?_
    refine WP.guard 18 (b := (!q20)) (by kernel_rfl) (fun h30 => ?_) (fun h30 => ?_)
    · replace hs := of_if_t hs h30
      refine WP.still 6 (by kernel_rfl) ?_
      refine WP.done (by kernel_rfl) ?_
      refine NX.post ?_
      exact ⟨true, ⟨by kernel_rfl, by kernel_rfl⟩, tot, hB1, hR1, hs⟩
    replace hs := of_if_f hs h30
    refine WP.still 2 (by kernel_rfl) ?_
    refine WP.loadE (ty := 3) (o := 9) (m := 2) (k := .i64) (d := d2) (i := 1) hB1 (by kernel_rfl) (by decide) (by kernel_rfl) (by kernel_rfl) ?_
    replace hs := Option.bind_eq_some_iff.1 hs
    obtain ⟨q21, hk20, hs⟩ := hs
    have hcal20 := P.baizeref03_Right g27 (aget d2 1) q21 hk20
    refine WP.callC hcal20 (by kernel_rfl) ?_
    rintro _ g28 st28 rfl
    replace hB1 := hB1.mono st28 (fun x => x)
    replace hR1 := hR1.mono st28 (fun x => x)
    replace tot := tot.trans st28.pure
    refine WP.still 2 (by kernel_rfl) ?_
    refine WP.done (by kernel_rfl) ?_
    refine NX.post ?_
    exact ⟨(!q21), ⟨by kernel_rfl, by kernel_rfl⟩, tot, hB1, hR1, hs⟩
  clear tot hs hB1 hR1
  rintro tm g ⟨q4, hF, tot, hB1, hR1, hs⟩
  clear ds
  obtain ⟨ds, rfl⟩ := hF.open
  clear hF
  unfold F.baizeref47_Check.c1 at hs
  refine CP.cond (b := q4) (by kernel_rfl) (fun h3 => ?_) (fun h3 => ?_)
  · replace hs := of_if_t hs h3
    refine CP.seqR ?_
    refine WP.still 1 (by kernel_rfl) ?_
    refine WP.done (by kernel_rfl) ?_
    refine NX.then_n ?_
    refine CP.ret ?_
    refine NX.then_r ?_
    replace hs := Option.some.inj hs
    obtain rfl := hs
    exact NX.fin (v := .int .i64 2) (Res.still (by kernel_rfl)) tot htL rfl
  replace hs := of_if_f hs h3
  refine CP.skip ?_
  refine NX.then_n ?_
  refine CP.seq ?_
  refine CP.seqR ?_
  refine WP.still 1 (by kernel_rfl) ?_
  refine WP.loadB (v := .slice a1 n1 c1) hB1 (by kernel_rfl) (by kernel_rfl) ?_
  refine WP.len (a := a1) (cp := c1) hR1.len (by kernel_rfl) ?_
  refine WP.still 1 (by kernel_rfl) ?_
  refine WP.done (by kernel_rfl) ?_
  refine NX.then_n ?_
  refine CP.cond (b := decide ((l1.length : Int) > 16)) (by kernel_rfl) (fun h4 => ?_) (fun h4 => ?_)
  · replace hs := of_if_t hs h4
    refine CP.seqR ?_
    refine WP.still 1 (by kernel_rfl) ?_
    refine WP.done (by kernel_rfl) ?_
    refine NX.then_n ?_
    refine CP.ret ?_
    refine NX.then_r ?_
    replace hs := Option.some.inj hs
    obtain rfl := hs
    exact NX.fin (v := .int .i64 8) (Res.still (by kernel_rfl)) tot htL rfl
  replace hs := of_if_f hs h4
  refine CP.skip ?_
  refine NX.then_n ?_
  refine CP.seqR ?_
  refine WP.still 2 (by kernel_rfl) ?_
  refine WP.loadE (ty := 3) (o := 9) (m := 2) (k := .i64) (d := d2) (i := 0) hB1 (by kernel_rfl) (by decide) (by kernel_rfl) (by kernel_rfl) ?_
  refine WP.still 2 (by kernel_rfl) ?_
  refine WP.loadE (ty := 3) (o := 9) (m := 2) (k := .i64) (d := d2) (i := 1) hB1 (by kernel_rfl) (by decide) (by kernel_rfl) (by kernel_rfl) ?_
  refine WP.still 2 (by kernel_rfl) ?_
  refine WP.done (by kernel_rfl) ?_
  refine NX.then_n ?_
  refine CP.seq ?_
  refine CP.seqR ?_
  refine WP.still 1 (by kernel_rfl) ?_
  refine WP.done (by kernel_rfl) ?_
  refine NX.then_n ?_
  refine CP.refr 85 [(1, .pointer (some ⟨b1, 0, none⟩)), (3, .int .i64 (IntKind.i64.wrap ((aget d2 0) + (aget d2 1)))), (4, .int .i64 0)] (by kernel_rfl) (by kernel_rfl) ?_
  clear ds
  intro ds
  refine CP.block ?_
  generalize fuel = k1 at hs
  refine CP.loop (fun k1 tm g => ∃ (x3 : Int) (x4 : Int), Fr 85 [(1, .pointer (some ⟨b1, 0, none⟩)), (3, .int .i64 x3), (4, .int .i64 x4)] tm ∧ Step (fun l => NoM l ∨ t ≤ l) g0 g ∧ Box g (t + 1) b1 26 [encA .u8 d1, [.int .i64 x1], encA .i64 d2, [.slice a1 n1 c1]] [8, 1, 2, 1] ∧ RdS k_S_baizeref47_Held g 60 a1 n1 c1 l1 ∧ F.baizeref47_Check.l1 l1 k1 x3 x4 = some o1) k1 ?_ ?_ ?_
  · exact ⟨(IntKind.i64.wrap ((aget d2 0) + (aget d2 1))), 0, ⟨by kernel_rfl, by kernel_rfl⟩, tot, hB1, hR1, hs⟩
  · rintro tm g ⟨x3, x4, hF, tot, hB1, hR1, hs⟩
    exact absurd hs (by simp [F.baizeref47_Check.l1])
  clear tot hs hB1 hR1
  rintro k1 tm g ⟨x3, x4, hF, tot, hB1, hR1, hs⟩
  clear ds
  obtain ⟨ds, rfl⟩ := hF.open
  clear hF
  unfold F.baizeref47_Check.l1 at hs
  refine CP.seq ?_
  refine CP.seqR ?_
  refine WP.still 2 (by kernel_rfl) ?_
  refine WP.loadB (v := .slice a1 n1 c1) hB1 (by kernel_rfl) (by kernel_rfl) ?_
  refine WP.len (a := a1) (cp := c1) hR1.len (by kernel_rfl) ?_
  refine WP.still 1 (by kernel_rfl) ?_
  refine WP.done (by kernel_rfl) ?_
  refine NX.then_n ?_
  refine CP.cond (b := decide (x4 < (l1.length : Int))) (by kernel_rfl) (fun h19 => ?_) (fun h19 => ?_)
  · replace hs := of_if_t hs h19
    refine CP.skip ?_
    refine NX.then_n ?_
    refine CP.seq ?_
    refine CP.block ?_
    refine CP.seqR ?_
    refine WP.still 1 (by kernel_rfl) ?_
    refine WP.loadB (v := .slice a1 n1 c1) hB1 (by kernel_rfl) (by kernel_rfl) ?_
    refine WP.still 1 (by kernel_rfl) ?_
    by_cases hc5 : (0 : Int) ≤ x4 ∧ x4 < (l1.length : Int)
    case neg => rw [if_neg hc5] at hs; cases hs
    replace hs := of_if_p hs hc5
    obtain ⟨b6, u3, ha3⟩ := hR1.at hc5
    refine WP.indexA (t := 24) (e := 60) (sz := 11) (cap := c1) (k := .i64) (i := x4) hR1.len ha3 (by kernel_rfl) (by kernel_rfl) hc5 ?_
    obtain ⟨cs3, hcR3, hcV3⟩ := hR1.src.view (getI_some hc5) ha3
    replace hcR3 := k_S_baizeref47_Held.opn hcR3
    refine WP.loadV [encA .u8 ((getI l1 x4).f1), [.int .i64 ((getI l1 x4).f2)], [.int .i64 ((getI l1 x4).f3)], [.int .i64 ((getI l1 x4).f4)]] [8, 1, 1, 1] hcV3 hcR3 (by simp [len_encA]) (f := 0) (ty := 60) (agg := true) (size := 11) (rs := [encA .u8 ((getI l1 x4).f1), [.int .i64 ((getI l1 x4).f2)], [.int .i64 ((getI l1 x4).f3)], [.int .i64 ((getI l1 x4).f4)]]) (v := AG [encA .u8 ((getI l1 x4).f1), [.int .i64 ((getI l1 x4).f2)], [.int .i64 ((getI l1 x4).f3)], [.int .i64 ((getI l1 x4).f4)]]) (by kernel_rfl) (by kernel_rfl) (by kernel_rfl) (by kernel_rfl) ?_
    refine WP.alloc (T := 60) (t + 4) [encA .u8 (zA 8), [.int .i64 0], [.int .i64 0], [.int .i64 0]] [8, 1, 1, 1] (by kernel_rfl) (by simp [len_encA]) ?_
    intro g17 b7 st17 hB6
    replace hB1 := hB1.mono st17 (fun x => x)
    replace hR1 := hR1.mono st17 (fun x => x)
    replace tot := tot.trans st17.pure
    refine WP.storeB (ty := 60) (off := 0) (v := AG [encA .u8 ((getI l1 x4).f1), [.int .i64 ((getI l1 x4).f2)], [.int .i64 ((getI l1 x4).f3)], [.int .i64 ((getI l1 x4).f4)]]) hB6 [encA .u8 ((getI l1 x4).f1), [.int .i64 ((getI l1 x4).f2)], [.int .i64 ((getI l1 x4).f3)], [.int .i64 ((getI l1 x4).f4)]] [8, 1, 1, 1] (by kernel_rfl) (by kernel_rfl) (by simp [len_encA]) (by kernel_rfl) [encA .u8 ((getI l1 x4).f1), [.int .i64 ((getI l1 x4).f2)], [.int .i64 ((getI l1 x4).f3)], [.int .i64 ((getI l1 x4).f4)]] (by kernel_rfl) (.arr (.one rfl (.one rfl (.one rfl .nil)))) ?_
    intro g18 st18 hB7
    replace hB1 := hB1.mono st18 (WL.no1 (by omega))
    replace hR1 := hR1.mono st18 (WL.no1 (by omega))
    replace tot := tot.trans (st18.up1 (.inr (by omega)))
    clear hB6
    have hB6 := hB7
    clear hB7
    refine WP.done (by kernel_rfl) ?_
    refine NX.then_n ?_
    refine CP.seq ?_
    refine CP.cut (fun tm g => ∃ (q15 : Bool), Fr 85 [(1, .pointer (some ⟨b1, 0, none⟩)), (3, .int .i64 x3), (4, .int .i64 x4), (5, .pointer (some ⟨b7, 0, none⟩)), (67, .bool q15)] tm ∧ Step (fun l => NoM l ∨ t ≤ l) g0 g ∧ Box g (t + 1) b1 26 [encA .u8 d1, [.int .i64 x1], encA .i64 d2, [.slice a1 n1 c1]] [8, 1, 2, 1] ∧ RdS k_S_baizeref47_Held g 60 a1 n1 c1 l1 ∧ Box g (t + 4) b7 60 [encA .u8 ((getI l1 x4).f1), [.int .i64 ((getI l1 x4).f2)], [.int .i64 ((getI l1 x4).f3)], [.int .i64 ((getI l1 x4).f4)]] [8, 1, 1, 1] ∧ (F.baizeref47_Check.c2 (F.baizeref47_Check.l1 l1 k1) l1 x3 x4 q15) = some o1) ?_ ?_
    · refine CP.region ?_
      refine WP.still 1 (by kernel_rfl) ?_
      refine WP.loadB (v := .int .i64 ((getI l1 x4).f2)) hB6 (by kernel_rfl) (by kernel_rfl) ?_
      replace hs := Option.bind_eq_some_iff.1 hs
      obtain ⟨q16, hk15, hs⟩ := hs
      have hcal15 := P.baizeref47_positive g18 ((getI l1 x4).f2) q16 hk15
      refine WP.callC hcal15 (by kernel_rfl) ?_
      rintro _ g23 st23 rfl
      replace hB1 := hB1.mono st23 (fun x => x)
      replace hR1 := hR1.mono st23 (fun x => x)
      replace hB6 := hB6.mono st23 (fun x => x)
      replace tot := tot.trans st23.pure
      refine WP.still 2 (by kernel_rfl) ?_
      refine WP.guard 52 (b := (!q16)) (by kernel_rfl) (fun h25 => ?_) (fun h25 => ?_)
      · replace hs := of_if_t hs h25
        refine WP.still 15 (by kernel_rfl) ?_
        refine WP.done (by kernel_rfl) ?_
        refine NX.post ?_
        exact ⟨true, ⟨by kernel_rfl, by kernel_rfl⟩, tot, hB1, hR1, hB6, hs⟩
      replace hs := of_if_f hs h25
      refine WP.still 1 (by kernel_rfl) ?_
      refine WP.loadB (v := .int .i64 ((getI l1 x4).f3)) hB6 (by kernel_rfl) (by kernel_rfl) ?_
      refine WP.still 3 (by kernel_rfl) ?_
      refine WP.guard 57 (b := decide ((getI l1 x4).f3 < 0)) (by kernel_rfl) (fun h26 => ?_) (fun h26 => ?_)
      · replace hs := of_if_t hs h26
        refine WP.still 10 (by kernel_rfl) ?_
        refine WP.done (by kernel_rfl) ?_
        refine NX.post ?_
        exact ⟨true, ⟨by kernel_rfl, by kernel_rfl⟩, tot, hB1, hR1, hB6, hs⟩
      replace hs := of_if_f hs h26
      refine WP.still 1 (by kernel_rfl) ?_
      refine WP.loadB (v := .int .i64 ((getI l1 x4).f3)) hB6 (by kernel_rfl) (by kernel_rfl) ?_
      refine WP.still 3 (by kernel_rfl) ?_
      refine WP.guard 62 (b := decide ((getI l1 x4).f3 > 1)) (by kernel_rfl) (fun h27 => ?_) (fun h27 => ?_)
      · replace hs := of_if_t hs h27
        refine WP.still 5 (by kernel_rfl) ?_
        refine WP.done (by kernel_rfl) ?_
        refine NX.post ?_
        exact ⟨true, ⟨by kernel_rfl, by kernel_rfl⟩, tot, hB1, hR1, hB6, hs⟩
      replace hs := of_if_f hs h27
      refine WP.still 1 (by kernel_rfl) ?_
      refine WP.loadB (v := .int .i64 ((getI l1 x4).f4)) hB6 (by kernel_rfl) (by kernel_rfl) ?_
      replace hs := Option.bind_eq_some_iff.1 hs
      obtain ⟨q17, hk16, hs⟩ := hs
      have hcal16 := P.baizeref47_height g23 ((getI l1 x4).f4) q17 hk16
      refine WP.callC hcal16 (by kernel_rfl) ?_
      rintro _ g24 st24 rfl
      replace hB1 := hB1.mono st24 (fun x => x)
      replace hR1 := hR1.mono st24 (fun x => x)
      replace hB6 := hB6.mono st24 (fun x => x)
      replace tot := tot.trans st24.pure
      refine WP.still 2 (by kernel_rfl) ?_
      refine WP.done (by kernel_rfl) ?_
      refine NX.post ?_
      exact ⟨(!q17), ⟨by kernel_rfl, by kernel_rfl⟩, tot, hB1, hR1, hB6, hs⟩
    clear tot hs hB1 hR1 hB6
    rintro tm g ⟨q15, hF, tot, hB1, hR1, hB6, hs⟩
    clear ds
    obtain ⟨ds, rfl⟩ := hF.open
    clear hF
    unfold F.baizeref47_Check.c2 at hs
    refine CP.cond (b := q15) (by kernel_rfl) (fun h23 => ?_) (fun h23 => ?_)
    · replace hs := of_if_t hs h23
      refine CP.seqR ?_
      refine WP.still 1 (by kernel_rfl) ?_
      refine WP.done (by kernel_rfl) ?_
      refine NX.then_n ?_
      refine CP.ret ?_
      refine NX.then_r ?_
      refine NX.block_r ?_
      refine NX.then_r ?_
      refine NX.then_r ?_
      refine NX.block_r ?_
      refine NX.then_r ?_
      replace hs := Option.some.inj hs
      obtain rfl := hs
      exact NX.fin (v := .int .i64 2) (Res.still (by kernel_rfl)) tot htL rfl
    replace hs := of_if_f hs h23
    refine CP.skip ?_
    refine NX.then_n ?_
    refine CP.seq ?_
    refine CP.seq ?_
    by_cases hc6 : (0 : Int) ≤ 0 ∧ 0 ≤ x4 ∧ x4 ≤ (l1.length : Int)
    case neg => rw [if_neg hc6] at hs; cases hs
    replace hs := of_if_p hs hc6
    replace hs := Option.bind_eq_some_iff.1 hs
    obtain ⟨x8, hk14, hs⟩ := hs
    refine CP.drawL (by kernel_rfl) [1, 3, 4, 6, 7] N.baizeref47_Check_0 [⟨none, [], [], fun l g => Box g (t + 1) b1 26 [encA .u8 d1, [.int .i64 x1], encA .i64 d2, [.slice a1 n1 c1]] [8, 1, 2, 1]⟩, ⟨none, [], [], fun l g => RdS k_S_baizeref47_Held g 60 a1 n1 c1 l1⟩, ⟨none, [], [], fun l g => Box g (t + 4) b7 60 [encA .u8 ((getI l1 x4).f1), [.int .i64 ((getI l1 x4).f2)], [.int .i64 ((getI l1 x4).f3)], [.int .i64 ((getI l1 x4).f4)]] [8, 1, 1, 1]⟩, ⟨some 0, [], [0], fun l g => l.getD 0 undef = .slice a1 n1 c1⟩, ⟨some 1, [], [1], fun l g => ∃ (a4 : Option Addr) (c4 : Nat), l.getD 0 undef = .slice a4 (x4.toNat - (0 : Int).toNat) c4 ∧ RdS k_S_baizeref47_Held g 60 a4 (x4.toNat - (0 : Int).toNat) c4 (sliceI l1 0 x4)⟩, ⟨some 2, [], [2, 1], fun l g => ∃ (a4 : Option Addr) (c4 : Nat), l.getD 0 undef = AG [encA .u8 (zA 8), [.int .i64 0], encA .i64 (zA 2), [.slice a4 (x4.toNat - (0 : Int).toNat) c4]] ∧ l.getD 1 undef = .slice a4 (x4.toNat - (0 : Int).toNat) c4 ∧ RdS k_S_baizeref47_Held g 60 a4 (x4.toNat - (0 : Int).toNat) c4 (sliceI l1 0 x4)⟩, ⟨some 3, [], [3], fun l g => l.getD 0 undef = AG [encA .u8 ((getI l1 x4).f1)]⟩, ⟨some 4, [], [4], fun l g => l.getD 0 undef = .int .i64 x8⟩] [[], [], [], [], []] [] [0, 2, 5] [8] (by kernel_rfl) (by simp) (by simp) ⟨fun _ _ _ _ st h0 hl hj hB1 => (hB1.mono st (fun h => absurd (hl _ h) (by simp))), fun _ _ _ _ st h0 hl hj hR1 => (RdS.mono (e := 60) hR1 st h0), fun _ _ _ _ st h0 hl hj hB6 => (hB6.mono st (fun h => absurd (hl _ h) (by simp))), fun _ _ _ _ st h0 hl hj e0 => e0, fun _ _ _ _ st h0 hl hj ⟨a4, c4, e1, hR4⟩ => ⟨a4, c4, e1, (RdS.mono (e := 60) hR4 st h0)⟩, fun _ _ _ _ st h0 hl hj ⟨a4, c4, e2, e1, hR4⟩ => ⟨a4, c4, e2, e1, (RdS.mono (e := 60) hR4 st h0)⟩, fun _ _ _ _ st h0 hl hj e3 => e3, fun _ _ _ _ st h0 hl hj e4 => e4, trivial⟩ ⟨hB1, hR1, hB6, trivial, trivial, trivial, trivial, trivial, trivial⟩ (by kernel_rfl) (fun vs => by kernel_rfl) ?_ ?_ ?_
    · intro j hj
      have hq : j = 0 := by have h : j < 1 := hj; omega
      rcases hq with rfl
      · intro vs gq stq hl hf
        obtain ⟨v0, v1, v2, v3, v4, rfl⟩ := len_k5 hl
        have e4 := (show v4 = .int .i64 x8 from hf _ (List.mem_of_getElem? (i := 7) rfl) (by kernel_rfl))
        subst e4
        show Option.isSome _ = true
        kernel_rfl
    · intro j hj
      have hq : j = 0 ∨ j = 1 ∨ j = 2 ∨ j = 3 ∨ j = 4 := by have h : j < 5 := hj; omega
      rcases hq with rfl | rfl | rfl | rfl | rfl
      · intro vs gq stq hl hf
        obtain ⟨v0, v1, v2, v3, v4, rfl⟩ := len_k5 hl
        have hB1 := (show Box gq (t + 1) b1 26 [encA .u8 d1, [.int .i64 x1], encA .i64 d2, [.slice a1 n1 c1]] [8, 1, 2, 1] from hf _ (List.mem_of_getElem? (i := 0) rfl) (by kernel_rfl))
        refine WP.loadB (v := .slice a1 n1 c1) hB1 (by kernel_rfl) (by kernel_rfl) ?_
        refine WP.done (by kernel_rfl) (Shown.ok (v := .slice a1 n1 c1) (by kernel_rfl) (Step.refl _ _) ?_)
        exact ⟨trivial, trivial, trivial, rfl, trivial, trivial, trivial, trivial, trivial⟩
      · intro vs gq stq hl hf
        obtain ⟨v0, v1, v2, v3, v4, rfl⟩ := len_k5 hl
        have hR1 := (show RdS k_S_baizeref47_Held gq 60 a1 n1 c1 l1 from hf _ (List.mem_of_getElem? (i := 1) rfl) (by kernel_rfl))
        have e0 := (show v0 = .slice a1 n1 c1 from hf _ (List.mem_of_getElem? (i := 3) rfl) (by kernel_rfl))
        subst e0
        refine WP.sliceR (lo := none) (hi := some (.int .i64 x4)) hR1 0 x4 (by kernel_rfl) (.inl ⟨rfl, rfl⟩) (.inr ⟨_, rfl⟩) hc6 ?_
        intro a4 c4 hR4
        refine WP.done (by kernel_rfl) (Shown.ok (v := .slice a4 (x4.toNat - (0 : Int).toNat) c4) (by kernel_rfl) (Step.refl _ _) ?_)
        exact ⟨trivial, trivial, trivial, trivial, ⟨a4, c4, rfl, hR4⟩, trivial, trivial, trivial, trivial⟩
      · intro vs gq stq hl hf
        obtain ⟨v0, v1, v2, v3, v4, rfl⟩ := len_k5 hl
        obtain ⟨a4, c4, e1, hR4⟩ := (show ∃ (a4 : Option Addr) (c4 : Nat), v1 = .slice a4 (x4.toNat - (0 : Int).toNat) c4 ∧ RdS k_S_baizeref47_Held gq 60 a4 (x4.toNat - (0 : Int).toNat) c4 (sliceI l1 0 x4) from hf _ (List.mem_of_getElem? (i := 4) rfl) (by kernel_rfl))
        subst e1
        refine WP.buildS (places := #[(0, 8), (8, 1), (9, 2), (11, 1)]) (t := 26) [encA .u8 (zA 8), [.int .i64 0], encA .i64 (zA 2), [.slice none 0 0]] [8, 1, 2, 1] (by kernel_rfl) (by kernel_rfl) (by simp [len_encA]) (by kernel_rfl) ((.cons (i := 3) (off := 11) (v := .slice a4 (x4.toNat - (0 : Int).toNat) c4) (mid := [encA .u8 (zA 8), [.int .i64 0], encA .i64 (zA 2), [.slice a4 (x4.toNat - (0 : Int).toNat) c4]]) [[.slice a4 (x4.toNat - (0 : Int).toNat) c4]] [1] (by kernel_rfl) (by kernel_rfl) rfl (by kernel_rfl) .nil)) ?_
        refine WP.done (by kernel_rfl) (Shown.ok (v := AG [encA .u8 (zA 8), [.int .i64 0], encA .i64 (zA 2), [.slice a4 (x4.toNat - (0 : Int).toNat) c4]]) (by kernel_rfl) (Step.refl _ _) ?_)
        exact ⟨trivial, trivial, trivial, trivial, trivial, ⟨a4, c4, rfl, rfl, hR4⟩, trivial, trivial, trivial⟩
      · intro vs gq stq hl hf
        obtain ⟨v0, v1, v2, v3, v4, rfl⟩ := len_k5 hl
        have hB6 := (show Box gq (t + 4) b7 60 [encA .u8 ((getI l1 x4).f1), [.int .i64 ((getI l1 x4).f2)], [.int .i64 ((getI l1 x4).f3)], [.int .i64 ((getI l1 x4).f4)]] [8, 1, 1, 1] from hf _ (List.mem_of_getElem? (i := 2) rfl) (by kernel_rfl))
        refine WP.loadB (v := AG [encA .u8 ((getI l1 x4).f1)]) hB6 (by kernel_rfl) (by kernel_rfl) ?_
        refine WP.done (by kernel_rfl) (Shown.ok (v := AG [encA .u8 ((getI l1 x4).f1)]) (by kernel_rfl) (Step.refl _ _) ?_)
        exact ⟨trivial, trivial, trivial, trivial, trivial, trivial, rfl, trivial, trivial⟩
      · intro vs gq stq hl hf
        obtain ⟨v0, v1, v2, v3, v4, rfl⟩ := len_k5 hl
        obtain ⟨a4, c4, e2, e1, hR4⟩ := (show ∃ (a4 : Option Addr) (c4 : Nat), v2 = AG [encA .u8 (zA 8), [.int .i64 0], encA .i64 (zA 2), [.slice a4 (x4.toNat - (0 : Int).toNat) c4]] ∧ v1 = .slice a4 (x4.toNat - (0 : Int).toNat) c4 ∧ RdS k_S_baizeref47_Held gq 60 a4 (x4.toNat - (0 : Int).toNat) c4 (sliceI l1 0 x4) from hf _ (List.mem_of_getElem? (i := 5) rfl) (by kernel_rfl))
        subst e2
        subst e1
        have e3 := (show v3 = AG [encA .u8 ((getI l1 x4).f1)] from hf _ (List.mem_of_getElem? (i := 6) rfl) (by kernel_rfl))
        subst e3
        have hcal14 := P.baizeref47_Place gq (zA 8) 0 (zA 2) (sliceI l1 0 x4) ((getI l1 x4).f1) a4 (x4.toNat - (0 : Int).toNat) c4 hR4 x8 hk14
        refine WP.callC hcal14 (by kernel_rfl) ?_
        rintro _ g21 st21 rfl
        refine WP.done (by kernel_rfl) (Shown.ok (v := .int .i64 x8) (by kernel_rfl) st21.pure ?_)
        exact ⟨trivial, trivial, trivial, trivial, trivial, trivial, trivial, rfl, trivial⟩
    intro vs g22 st22 hl hf
    obtain ⟨v0, v1, v2, v3, v4, rfl⟩ := len_k5 hl
    have e4 := (show v4 = .int .i64 x8 from hf _ (List.mem_of_getElem? (i := 7) rfl) (by kernel_rfl))
    subst e4
    replace hB1 := hB1.mono st22.toNo (fun x => x)
    replace hR1 := hR1.mono st22.toNo (fun x => x)
    replace hB6 := hB6.mono st22.toNo (fun x => x)
    replace tot := tot.trans st22.toNo.pure
    refine NX.then_n ?_
    refine CP.refr 85 [(1, .pointer (some ⟨b1, 0, none⟩)), (3, .int .i64 x3), (4, .int .i64 x4), (5, .pointer (some ⟨b7, 0, none⟩)), (6, .int .i64 x8)] (by kernel_rfl) (by kernel_rfl) ?_
    clear ds
    intro ds
    refine CP.seqR ?_
    refine WP.still 2 (by kernel_rfl) ?_
    refine WP.done (by kernel_rfl) ?_
    refine NX.then_n ?_
    refine CP.cond (b := decide (x8 ≥ 0)) (by kernel_rfl) (fun h24 => ?_) (fun h24 => ?_)
    · replace hs := of_if_t hs h24
      refine CP.seqR ?_
      refine WP.still 1 (by kernel_rfl) ?_
      refine WP.done (by kernel_rfl) ?_
      refine NX.then_n ?_
      refine CP.ret ?_
      refine NX.then_r ?_
      refine NX.block_r ?_
      refine NX.then_r ?_
      refine NX.then_r ?_
      refine NX.block_r ?_
      refine NX.then_r ?_
      replace hs := Option.some.inj hs
      obtain rfl := hs
      exact NX.fin (v := .int .i64 7) (Res.still (by kernel_rfl)) tot htL rfl
    replace hs := of_if_f hs h24
    refine CP.skip ?_
    refine NX.then_n ?_
    refine CP.region ?_
    refine WP.still 2 (by kernel_rfl) ?_
    refine WP.loadB (v := .int .i64 ((getI l1 x4).f2)) hB6 (by kernel_rfl) (by kernel_rfl) ?_
    refine WP.still 2 (by kernel_rfl) ?_
    refine WP.done (by kernel_rfl) ?_
    refine NX.block_n ?_
    refine NX.then_n ?_
    refine CP.region ?_
    refine WP.still 3 (by kernel_rfl) ?_
    refine WP.done (by kernel_rfl) ?_
    refine NX.post ?_
    exact ⟨(IntKind.i64.wrap (x3 + ((getI l1 x4).f2))), (IntKind.i64.wrap (x4 + 1)), ⟨by kernel_rfl, by kernel_rfl⟩, tot, hB1, hR1, hs⟩
  replace hs := of_if_f hs h19
  refine CP.exit ?_
  refine NX.then_e ?_
  refine NX.then_e ?_
  refine NX.block_s ?_
  refine NX.then_n ?_
  refine CP.seq ?_
  refine CP.seqR ?_
  refine WP.still 1 (by kernel_rfl) ?_
  replace hs := Option.bind_eq_some_iff.1 hs
  obtain ⟨q18, hk17, hs⟩ := hs
  have hcal17 := P.baizeref03_Right g x3 q18 hk17
  refine WP.callC hcal17 (by kernel_rfl) ?_
  rintro _ g25 st25 rfl
  replace tot := tot.trans st25.pure
  refine WP.still 1 (by kernel_rfl) ?_
  refine WP.done (by kernel_rfl) ?_
  refine NX.then_n ?_
  refine CP.cond (b := (!q18)) (by kernel_rfl) (fun h28 => ?_) (fun h28 => ?_)
  · replace hs := of_if_t hs h28
    refine CP.seqR ?_
    refine WP.still 1 (by kernel_rfl) ?_
    refine WP.done (by kernel_rfl) ?_
    refine NX.then_n ?_
    refine CP.ret ?_
    refine NX.then_r ?_
    replace hs := Option.some.inj hs
    obtain rfl := hs
    exact NX.fin (v := .int .i64 2) (Res.still (by kernel_rfl)) tot htL rfl
  replace hs := of_if_f hs h28
  refine CP.skip ?_
  refine NX.then_n ?_
  refine CP.seqR ?_
  refine WP.still 1 (by kernel_rfl) ?_
  refine WP.done (by kernel_rfl) ?_
  refine NX.then_n ?_
  refine CP.ret ?_
  replace hs := Option.some.inj hs
  obtain rfl := hs
  exact NX.fin (v := .int .i64 0) (Res.still (by kernel_rfl)) tot htL rfl
def F.baizeref47_Total.l1 (l1 : List S_baizeref47_Held) : Nat → Int → Int → Option (Int)
  | 0, _, _ => none
  | k + 1, x3, x4 => (if decide (x4 < (l1.length : Int)) = true then (if (0 : Int) ≤ x4 ∧ x4 < (l1.length : Int) then (F.baizeref47_Total.l1 l1 k (IntKind.i64.wrap (x3 + ((getI l1 x4).f2))) (IntKind.i64.wrap (x4 + 1))) else none) else (some x3))
def F.baizeref47_Total (d1 : Arr Int 8) (x1 : Int) (d2 : Arr Int 2) (l1 : List S_baizeref47_Held) : Option (Int) := ((F.baizeref47_Check d1 x1 d2 l1).bind fun x2 => (if (x2 != 0) = true then (some 0) else (F.baizeref47_Total.l1 l1 fuel (IntKind.i64.wrap ((aget d2 0) + (aget d2 1))) 0)))
theorem P.baizeref47_Total (g0 : GW) (d1 : Arr Int 8) (x1 : Int) (d2 : Arr Int 2) (l1 : List S_baizeref47_Held) (a1 : Option Addr) (n1 : Nat) (c1 : Nat) (hR1 : RdS k_S_baizeref47_Held g0 60 a1 n1 c1 l1) (o1 : Int) (hs : F.baizeref47_Total d1 x1 d2 l1 = some o1) :
    Calls Try.prog 25 #[AG [encA .u8 d1, [.int .i64 x1], encA .i64 d2, [.slice a1 n1 c1]]] g0.w (Ret NoM g0 fun v g => v = .int .i64 o1) := by
  refine calls_of (args := [AG [encA .u8 d1, [.int .i64 x1], encA .i64 d2, [.slice a1 n1 c1]]]) Try.func25 rfl (0) ?_
  intro t ht htL
  refine ⟨_, rfl, ?_⟩
  refine CP.refr 31 [(0, AG [encA .u8 d1, [.int .i64 x1], encA .i64 d2, [.slice a1 n1 c1]])] (by kernel_rfl) (by kernel_rfl) ?_
  intro ds
  have tot : Step (fun l => NoM l ∨ t ≤ l) g0 g0 := Step.refl _ _
  unfold F.baizeref47_Total at hs
  refine CP.seqR ?_
  refine WP.alloc (T := 26) (t + 1) [encA .u8 d1, [.int .i64 x1], encA .i64 d2, [.slice a1 n1 c1]] [8, 1, 2, 1] (by kernel_rfl) (by simp [len_encA]) ?_
  intro g1 b1 st1 hB1
  replace hR1 := hR1.mono st1 (fun x => x)
  replace tot := tot.trans st1.pure
  refine WP.still 1 (by kernel_rfl) ?_
  refine WP.done (by kernel_rfl) ?_
  refine NX.then_n ?_
  refine CP.seq ?_
  refine CP.seqR ?_
  refine WP.loadB (v := AG [encA .u8 d1, [.int .i64 x1], encA .i64 d2, [.slice a1 n1 c1]]) hB1 (by kernel_rfl) (by kernel_rfl) ?_
  replace hs := Option.bind_eq_some_iff.1 hs
  obtain ⟨x2, hk1, hs⟩ := hs
  have hcal1 := P.baizeref47_Check g1 d1 x1 d2 l1 a1 n1 c1 hR1 x2 hk1
  refine WP.callC hcal1 (by kernel_rfl) ?_
  rintro _ g2 st2 rfl
  replace hB1 := hB1.mono st2 (fun x => x)
  replace hR1 := hR1.mono st2 (fun x => x)
  replace tot := tot.trans st2.pure
  refine WP.still 1 (by kernel_rfl) ?_
  refine WP.done (by kernel_rfl) ?_
  refine NX.then_n ?_
  refine CP.cond (b := (x2 != 0)) (by kernel_rfl) (fun h1 => ?_) (fun h1 => ?_)
  · replace hs := of_if_t hs h1
    refine CP.seqR ?_
    refine WP.still 1 (by kernel_rfl) ?_
    refine WP.done (by kernel_rfl) ?_
    refine NX.then_n ?_
    refine CP.ret ?_
    refine NX.then_r ?_
    replace hs := Option.some.inj hs
    obtain rfl := hs
    exact NX.fin (v := .int .i64 0) (Res.still (by kernel_rfl)) tot htL rfl
  replace hs := of_if_f hs h1
  refine CP.skip ?_
  refine NX.then_n ?_
  refine CP.seqR ?_
  refine WP.still 2 (by kernel_rfl) ?_
  refine WP.loadE (ty := 3) (o := 9) (m := 2) (k := .i64) (d := d2) (i := 0) hB1 (by kernel_rfl) (by decide) (by kernel_rfl) (by kernel_rfl) ?_
  refine WP.still 2 (by kernel_rfl) ?_
  refine WP.loadE (ty := 3) (o := 9) (m := 2) (k := .i64) (d := d2) (i := 1) hB1 (by kernel_rfl) (by decide) (by kernel_rfl) (by kernel_rfl) ?_
  refine WP.still 2 (by kernel_rfl) ?_
  refine WP.done (by kernel_rfl) ?_
  refine NX.then_n ?_
  refine CP.refr 31 [(1, .pointer (some ⟨b1, 0, none⟩)), (3, .int .i64 (IntKind.i64.wrap ((aget d2 0) + (aget d2 1))))] (by kernel_rfl) (by kernel_rfl) ?_
  clear ds
  intro ds
  refine CP.seq ?_
  refine CP.seqR ?_
  refine WP.still 1 (by kernel_rfl) ?_
  refine WP.done (by kernel_rfl) ?_
  refine NX.then_n ?_
  refine CP.block ?_
  generalize fuel = k1 at hs
  refine CP.loop (fun k1 tm g => ∃ (x3 : Int) (x4 : Int), Fr 31 [(1, .pointer (some ⟨b1, 0, none⟩)), (3, .int .i64 x3), (4, .int .i64 x4)] tm ∧ Step (fun l => NoM l ∨ t ≤ l) g0 g ∧ Box g (t + 1) b1 26 [encA .u8 d1, [.int .i64 x1], encA .i64 d2, [.slice a1 n1 c1]] [8, 1, 2, 1] ∧ RdS k_S_baizeref47_Held g 60 a1 n1 c1 l1 ∧ F.baizeref47_Total.l1 l1 k1 x3 x4 = some o1) k1 ?_ ?_ ?_
  · exact ⟨(IntKind.i64.wrap ((aget d2 0) + (aget d2 1))), 0, ⟨by kernel_rfl, by kernel_rfl⟩, tot, hB1, hR1, hs⟩
  · rintro tm g ⟨x3, x4, hF, tot, hB1, hR1, hs⟩
    exact absurd hs (by simp [F.baizeref47_Total.l1])
  clear tot hs hB1 hR1
  rintro k1 tm g ⟨x3, x4, hF, tot, hB1, hR1, hs⟩
  clear ds
  obtain ⟨ds, rfl⟩ := hF.open
  clear hF
  unfold F.baizeref47_Total.l1 at hs
  refine CP.seq ?_
  refine CP.seqR ?_
  refine WP.still 2 (by kernel_rfl) ?_
  refine WP.loadB (v := .slice a1 n1 c1) hB1 (by kernel_rfl) (by kernel_rfl) ?_
  refine WP.len (a := a1) (cp := c1) hR1.len (by kernel_rfl) ?_
  refine WP.still 1 (by kernel_rfl) ?_
  refine WP.done (by kernel_rfl) ?_
  refine NX.then_n ?_
  refine CP.cond (b := decide (x4 < (l1.length : Int))) (by kernel_rfl) (fun h4 => ?_) (fun h4 => ?_)
  · replace hs := of_if_t hs h4
    refine CP.skip ?_
    refine NX.then_n ?_
    refine CP.seq ?_
    refine CP.block ?_
    refine CP.region ?_
    refine WP.still 2 (by kernel_rfl) ?_
    refine WP.loadB (v := .slice a1 n1 c1) hB1 (by kernel_rfl) (by kernel_rfl) ?_
    refine WP.still 1 (by kernel_rfl) ?_
    by_cases hc3 : (0 : Int) ≤ x4 ∧ x4 < (l1.length : Int)
    case neg => rw [if_neg hc3] at hs; cases hs
    replace hs := of_if_p hs hc3
    obtain ⟨b4, u3, ha3⟩ := hR1.at hc3
    refine WP.indexA (t := 24) (e := 60) (sz := 11) (cap := c1) (k := .i64) (i := x4) hR1.len ha3 (by kernel_rfl) (by kernel_rfl) hc3 ?_
    refine WP.still 1 (by kernel_rfl) ?_
    obtain ⟨cs3, hcR3, hcV3⟩ := hR1.src.view (getI_some hc3) ha3
    replace hcR3 := k_S_baizeref47_Held.opn hcR3
    refine WP.loadV [encA .u8 ((getI l1 x4).f1), [.int .i64 ((getI l1 x4).f2)], [.int .i64 ((getI l1 x4).f3)], [.int .i64 ((getI l1 x4).f4)]] [8, 1, 1, 1] hcV3 hcR3 (by simp [len_encA]) (f := 8) (ty := 3) (agg := false) (size := 1) (rs := [[.int .i64 ((getI l1 x4).f2)]]) (v := .int .i64 ((getI l1 x4).f2)) (by kernel_rfl) (by kernel_rfl) (by kernel_rfl) (by kernel_rfl) ?_
    refine WP.still 2 (by kernel_rfl) ?_
    refine WP.done (by kernel_rfl) ?_
    refine NX.block_n ?_
    refine NX.then_n ?_
    refine CP.refr 31 [(1, .pointer (some ⟨b1, 0, none⟩)), (3, .int .i64 (IntKind.i64.wrap (x3 + ((getI l1 x4).f2)))), (4, .int .i64 x4)] (by kernel_rfl) (by kernel_rfl) ?_
    clear ds
    intro ds
    refine CP.region ?_
    refine WP.still 3 (by kernel_rfl) ?_
    refine WP.done (by kernel_rfl) ?_
    refine NX.post ?_
    exact ⟨(IntKind.i64.wrap (x3 + ((getI l1 x4).f2))), (IntKind.i64.wrap (x4 + 1)), ⟨by kernel_rfl, by kernel_rfl⟩, tot, hB1, hR1, hs⟩
  replace hs := of_if_f hs h4
  refine CP.exit ?_
  refine NX.then_e ?_
  refine NX.then_e ?_
  refine NX.block_s ?_
  refine NX.then_n ?_
  refine CP.seqR ?_
  refine WP.still 2 (by kernel_rfl) ?_
  refine WP.done (by kernel_rfl) ?_
  refine NX.then_n ?_
  refine CP.ret ?_
  replace hs := Option.some.inj hs
  obtain rfl := hs
  exact NX.fin (v := .int .i64 x3) (Res.still (by kernel_rfl)) tot htL rfl
def F.purse_Purse_Pays.c1 (nx1 : (Arr Int 3) → Int → Option ((Arr Int 3))) (x4 : Int) (d7 : Arr Int 3) : Option ((Arr Int 3)) := (nx1 d7 (IntKind.i64.wrap (x4 + 1)))
def N.purse_Purse_Pays_0 : List (List Nat) := [[], [0], [0, 1], [0, 1, 2], [], [4], [0, 1, 2, 3, 4, 5], [0, 1, 2, 3, 4, 5, 6], [0, 1, 2, 3, 4, 5, 6, 7]]
def F.purse_Purse_Pays.l1 (l1 : List S_purse_Held) (x2 : Int) : Nat → (Arr Int 3) → Int → Option ((Arr Int 3))
  | 0, _, _ => none
  | k + 1, d4, x4 => (if decide (x4 < (l1.length : Int)) = true then (if (0 : Int) ≤ x4 ∧ x4 < (l1.length : Int) then (if decide ((getI l1 x4).f4 < x2) = true then (if (0 : Int) ≤ (getI l1 x4).f3 ∧ (getI l1 x4).f3 < (3 : Int) then (if (0 : Int) ≤ (getI l1 x4).f3 ∧ (getI l1 x4).f3 < (3 : Int) then (F.purse_Purse_Pays.c1 (F.purse_Purse_Pays.l1 l1 x2 k) x4 (aset d4 ((getI l1 x4).f3) (IntKind.i64.wrap ((aget d4 ((getI l1 x4).f3)) + ((getI l1 x4).f2))))) else none) else none) else (F.purse_Purse_Pays.c1 (F.purse_Purse_Pays.l1 l1 x2 k) x4 (aset d4 2 (IntKind.i64.wrap ((aget d4 2) + ((getI l1 x4).f2)))))) else none) else (some d4))
def F.purse_Purse_Pays (d1 : Arr Int 8) (x1 : Int) (d2 : Arr Int 2) (l1 : List S_purse_Held) (x2 : Int) : Option ((Arr Int 3)) := ((F.purse_Purse_Check d1 x1 d2 l1).bind fun x3 => (if (x3 != 0) = true then (some (zA 3)) else (F.purse_Purse_Pays.l1 l1 x2 fuel (⟨[(aget d2 0), (aget d2 1), 0], rfl⟩ : Arr Int 3) 0)))
theorem P.purse_Purse_Pays (g0 : GW) (d1 : Arr Int 8) (x1 : Int) (d2 : Arr Int 2) (l1 : List S_purse_Held) (x2 : Int) (a1 : Option Addr) (n1 : Nat) (c1 : Nat) (hR1 : RdS k_S_purse_Held g0 56 a1 n1 c1 l1) (o1 : Arr Int 3) (hs : F.purse_Purse_Pays d1 x1 d2 l1 x2 = some o1) :
    Calls Try.prog 14 #[AG [encA .u8 d1, [.int .i64 x1], encA .i64 d2, [.slice a1 n1 c1]], .int .i64 x2] g0.w (Ret NoM g0 fun v g => v = AG [encA .i64 o1]) := by
  refine calls_of (args := [AG [encA .u8 d1, [.int .i64 x1], encA .i64 d2, [.slice a1 n1 c1]], .int .i64 x2]) Try.func14 rfl (0) ?_
  intro t ht htL
  refine ⟨_, rfl, ?_⟩
  refine CP.refr 46 [(0, AG [encA .u8 d1, [.int .i64 x1], encA .i64 d2, [.slice a1 n1 c1]]), (1, .int .i64 x2)] (by kernel_rfl) (by kernel_rfl) ?_
  intro ds
  have tot : Step (fun l => NoM l ∨ t ≤ l) g0 g0 := Step.refl _ _
  unfold F.purse_Purse_Pays at hs
  refine CP.seqR ?_
  refine WP.alloc (T := 32) (t + 1) [encA .u8 d1, [.int .i64 x1], encA .i64 d2, [.slice a1 n1 c1]] [8, 1, 2, 1] (by kernel_rfl) (by simp [len_encA]) ?_
  intro g1 b1 st1 hB1
  replace hR1 := hR1.mono st1 (fun x => x)
  replace tot := tot.trans st1.pure
  refine WP.alloc (T := 34) (t + 2) [encA .i64 (zA 3)] [3] (by kernel_rfl) (by simp [len_encA]) ?_
  intro g2 b2 st2 hB2
  replace hR1 := hR1.mono st2 (fun x => x)
  replace hB1 := hB1.mono st2 (fun x => x)
  replace tot := tot.trans st2.pure
  refine WP.done (by kernel_rfl) ?_
  refine NX.then_n ?_
  refine CP.seq ?_
  refine CP.seqR ?_
  refine WP.loadB (v := AG [encA .u8 d1, [.int .i64 x1], encA .i64 d2, [.slice a1 n1 c1]]) hB1 (by kernel_rfl) (by kernel_rfl) ?_
  replace hs := Option.bind_eq_some_iff.1 hs
  obtain ⟨x3, hk1, hs⟩ := hs
  have hcal1 := P.purse_Purse_Check g2 d1 x1 d2 l1 a1 n1 c1 hR1 x3 hk1
  refine WP.callC hcal1 (by kernel_rfl) ?_
  rintro _ g3 st3 rfl
  replace hB1 := hB1.mono st3 (fun x => x)
  replace hR1 := hR1.mono st3 (fun x => x)
  replace hB2 := hB2.mono st3 (fun x => x)
  replace tot := tot.trans st3.pure
  refine WP.still 1 (by kernel_rfl) ?_
  refine WP.done (by kernel_rfl) ?_
  refine NX.then_n ?_
  refine CP.cond (b := (x3 != 0)) (by kernel_rfl) (fun h1 => ?_) (fun h1 => ?_)
  · replace hs := of_if_t hs h1
    refine CP.seqR ?_
    refine WP.still 1 (by kernel_rfl) ?_
    refine WP.storeB (ty := 34) (off := 0) (v := AG [encA .i64 (zA 3)]) hB2 [encA .i64 (zA 3)] [3] (by kernel_rfl) (by kernel_rfl) (by simp [len_encA]) (by kernel_rfl) [encA .i64 (zA 3)] (by kernel_rfl) (.arr .nil) ?_
    intro g4 st4 hB3
    replace hB1 := hB1.mono st4 (WL.no1 (by omega))
    replace hR1 := hR1.mono st4 (WL.no1 (by omega))
    replace tot := tot.trans (st4.up1 (.inr (by omega)))
    clear hB2
    have hB2 := hB3
    clear hB3
    refine WP.done (by kernel_rfl) ?_
    refine NX.then_n ?_
    refine CP.ret ?_
    refine NX.then_r ?_
    replace hs := Option.some.inj hs
    obtain rfl := hs
    exact NX.fin (v := AG [encA .i64 (zA 3)]) (Res.one rfl (RV.box (agg := true) (size := 3) (rs := [encA .i64 (zA 3)]) hB2 (by kernel_rfl) (by kernel_rfl) (by kernel_rfl) (by kernel_rfl))) tot htL rfl
  replace hs := of_if_f hs h1
  refine CP.skip ?_
  refine NX.then_n ?_
  refine CP.seqR ?_
  refine WP.still 2 (by kernel_rfl) ?_
  refine WP.loadE (ty := 3) (o := 9) (m := 2) (k := .i64) (d := d2) (i := 0) hB1 (by kernel_rfl) (by decide) (by kernel_rfl) (by kernel_rfl) ?_
  refine WP.still 2 (by kernel_rfl) ?_
  refine WP.loadE (ty := 3) (o := 9) (m := 2) (k := .i64) (d := d2) (i := 1) hB1 (by kernel_rfl) (by decide) (by kernel_rfl) (by kernel_rfl) ?_
  refine WP.still 1 (by kernel_rfl) ?_
  refine WP.alloc (T := 34) (t + 3) [encA .i64 (zA 3)] [3] (by kernel_rfl) (by simp [len_encA]) ?_
  intro g5 b3 st5 hB4
  replace hB1 := hB1.mono st5 (fun x => x)
  replace hR1 := hR1.mono st5 (fun x => x)
  replace hB2 := hB2.mono st5 (fun x => x)
  replace tot := tot.trans st5.pure
  refine WP.storeB (ty := 34) (off := 0) (v := AG [encA .i64 (⟨[(aget d2 0), (aget d2 1), 0], rfl⟩ : Arr Int 3)]) hB4 [encA .i64 (⟨[(aget d2 0), (aget d2 1), 0], rfl⟩ : Arr Int 3)] [3] (by kernel_rfl) (by kernel_rfl) (by simp [len_encA]) (by kernel_rfl) [encA .i64 (⟨[(aget d2 0), (aget d2 1), 0], rfl⟩ : Arr Int 3)] (by kernel_rfl) (.arr .nil) ?_
  intro g6 st6 hB5
  replace hB1 := hB1.mono st6 (WL.no1 (by omega))
  replace hR1 := hR1.mono st6 (WL.no1 (by omega))
  replace hB2 := hB2.mono st6 (WL.no1 (by omega))
  replace tot := tot.trans (st6.up1 (.inr (by omega)))
  clear hB4
  have hB4 := hB5
  clear hB5
  refine WP.done (by kernel_rfl) ?_
  refine NX.then_n ?_
  refine CP.refr 46 [(1, .int .i64 x2), (2, .pointer (some ⟨b1, 0, none⟩)), (4, .pointer (some ⟨b2, 0, none⟩)), (5, .pointer (some ⟨b3, 0, none⟩))] (by kernel_rfl) (by kernel_rfl) ?_
  clear ds
  intro ds
  refine CP.seq ?_
  refine CP.seqR ?_
  refine WP.still 1 (by kernel_rfl) ?_
  refine WP.loadB (v := .slice a1 n1 c1) hB1 (by kernel_rfl) (by kernel_rfl) ?_
  refine WP.len (a := a1) (cp := c1) hR1.len (by kernel_rfl) ?_
  refine WP.still 1 (by kernel_rfl) ?_
  refine WP.done (by kernel_rfl) ?_
  refine NX.then_n ?_
  refine CP.block ?_
  generalize fuel = k1 at hs
  refine CP.loop (fun k1 tm g => ∃ (d4 : Arr Int 3) (x4 : Int), Fr 46 [(1, .int .i64 x2), (4, .pointer (some ⟨b2, 0, none⟩)), (5, .pointer (some ⟨b3, 0, none⟩)), (20, .slice a1 n1 c1), (21, .int .i64 (l1.length : Int)), (22, .int .i64 x4)] tm ∧ Step (fun l => NoM l ∨ t ≤ l) g0 g ∧ Box g (t + 2) b2 34 [encA .i64 (zA 3)] [3] ∧ Box g (t + 3) b3 34 [encA .i64 d4] [3] ∧ RdS k_S_purse_Held g 56 a1 n1 c1 l1 ∧ F.purse_Purse_Pays.l1 l1 x2 k1 d4 x4 = some o1) k1 ?_ ?_ ?_
  · exact ⟨(⟨[(aget d2 0), (aget d2 1), 0], rfl⟩ : Arr Int 3), 0, ⟨by kernel_rfl, by kernel_rfl⟩, tot, hB2, hB4, hR1, hs⟩
  · rintro tm g ⟨d4, x4, hF, tot, hB2, hB4, hR1, hs⟩
    exact absurd hs (by simp [F.purse_Purse_Pays.l1])
  clear tot hs hB2 hB4 hR1
  rintro k1 tm g ⟨d4, x4, hF, tot, hB2, hB4, hR1, hs⟩
  clear ds
  obtain ⟨ds, rfl⟩ := hF.open
  clear hF
  unfold F.purse_Purse_Pays.l1 at hs
  refine CP.seqR ?_
  refine WP.still 1 (by kernel_rfl) ?_
  refine WP.done (by kernel_rfl) ?_
  refine NX.then_n ?_
  refine CP.seq ?_
  refine CP.cond (b := decide (x4 < (l1.length : Int))) (by kernel_rfl) (fun h6 => ?_) (fun h6 => ?_)
  · replace hs := of_if_t hs h6
    refine CP.skip ?_
    refine NX.then_n ?_
    refine CP.cut (fun tm g => ∃ (d7 : Arr Int 3), Fr 46 [(1, .int .i64 x2), (4, .pointer (some ⟨b2, 0, none⟩)), (5, .pointer (some ⟨b3, 0, none⟩)), (20, .slice a1 n1 c1), (21, .int .i64 (l1.length : Int)), (22, .int .i64 x4)] tm ∧ Step (fun l => NoM l ∨ t ≤ l) g0 g ∧ Box g (t + 2) b2 34 [encA .i64 (zA 3)] [3] ∧ Box g (t + 3) b3 34 [encA .i64 d7] [3] ∧ RdS k_S_purse_Held g 56 a1 n1 c1 l1 ∧ (F.purse_Purse_Pays.c1 (F.purse_Purse_Pays.l1 l1 x2 k1) x4 d7) = some o1) ?_ ?_
    · refine CP.block ?_
      refine CP.seqR ?_
      by_cases hc10 : (0 : Int) ≤ x4 ∧ x4 < (l1.length : Int)
      case neg => rw [if_neg hc10] at hs; cases hs
      replace hs := of_if_p hs hc10
      obtain ⟨b10, u4, ha4⟩ := hR1.at hc10
      refine WP.indexA (t := 30) (e := 56) (sz := 11) (cap := c1) (k := .i64) (i := x4) hR1.len ha4 (by kernel_rfl) (by kernel_rfl) hc10 ?_
      obtain ⟨cs4, hcR4, hcV4⟩ := hR1.src.view (getI_some hc10) ha4
      replace hcR4 := k_S_purse_Held.opn hcR4
      refine WP.loadV [encA .u8 ((getI l1 x4).f1), [.int .i64 ((getI l1 x4).f2)], [.int .i64 ((getI l1 x4).f3)], [.int .i64 ((getI l1 x4).f4)]] [8, 1, 1, 1] hcV4 hcR4 (by simp [len_encA]) (f := 0) (ty := 56) (agg := true) (size := 11) (rs := [encA .u8 ((getI l1 x4).f1), [.int .i64 ((getI l1 x4).f2)], [.int .i64 ((getI l1 x4).f3)], [.int .i64 ((getI l1 x4).f4)]]) (v := AG [encA .u8 ((getI l1 x4).f1), [.int .i64 ((getI l1 x4).f2)], [.int .i64 ((getI l1 x4).f3)], [.int .i64 ((getI l1 x4).f4)]]) (by kernel_rfl) (by kernel_rfl) (by kernel_rfl) (by kernel_rfl) ?_
      refine WP.alloc (T := 56) (t + 7) [encA .u8 (zA 8), [.int .i64 0], [.int .i64 0], [.int .i64 0]] [8, 1, 1, 1] (by kernel_rfl) (by simp [len_encA]) ?_
      intro g21 b11 st21 hB20
      replace hB2 := hB2.mono st21 (fun x => x)
      replace hB4 := hB4.mono st21 (fun x => x)
      replace hR1 := hR1.mono st21 (fun x => x)
      replace tot := tot.trans st21.pure
      refine WP.storeB (ty := 56) (off := 0) (v := AG [encA .u8 ((getI l1 x4).f1), [.int .i64 ((getI l1 x4).f2)], [.int .i64 ((getI l1 x4).f3)], [.int .i64 ((getI l1 x4).f4)]]) hB20 [encA .u8 ((getI l1 x4).f1), [.int .i64 ((getI l1 x4).f2)], [.int .i64 ((getI l1 x4).f3)], [.int .i64 ((getI l1 x4).f4)]] [8, 1, 1, 1] (by kernel_rfl) (by kernel_rfl) (by simp [len_encA]) (by kernel_rfl) [encA .u8 ((getI l1 x4).f1), [.int .i64 ((getI l1 x4).f2)], [.int .i64 ((getI l1 x4).f3)], [.int .i64 ((getI l1 x4).f4)]] (by kernel_rfl) (.arr (.one rfl (.one rfl (.one rfl .nil)))) ?_
      intro g22 st22 hB21
      replace hB2 := hB2.mono st22 (WL.no1 (by omega))
      replace hB4 := hB4.mono st22 (WL.no1 (by omega))
      replace hR1 := hR1.mono st22 (WL.no1 (by omega))
      replace tot := tot.trans (st22.up1 (.inr (by omega)))
      clear hB20
      have hB20 := hB21
      clear hB21
      refine WP.done (by kernel_rfl) ?_
      refine NX.then_n ?_
      refine CP.seqR ?_
      refine WP.still 1 (by kernel_rfl) ?_
      refine WP.loadB (v := .int .i64 ((getI l1 x4).f4)) hB20 (by kernel_rfl) (by kernel_rfl) ?_
      refine WP.still 2 (by kernel_rfl) ?_
      refine WP.done (by kernel_rfl) ?_
      refine NX.then_n ?_
      refine CP.cond (b := decide ((getI l1 x4).f4 < x2)) (by kernel_rfl) (fun h8 => ?_) (fun h8 => ?_)
      · replace hs := of_if_t hs h8
        by_cases hc11 : (0 : Int) ≤ (getI l1 x4).f3 ∧ (getI l1 x4).f3 < (3 : Int)
        case neg => rw [if_neg hc11] at hs; cases hs
        replace hs := of_if_p hs hc11
        by_cases hc12 : (0 : Int) ≤ (getI l1 x4).f3 ∧ (getI l1 x4).f3 < (3 : Int)
        case neg => rw [if_neg hc12] at hs; cases hs
        replace hs := of_if_p hs hc12
        refine CP.drawL (by kernel_rfl) [1, 2, 3, 5, 7, 8] N.purse_Purse_Pays_0 [⟨none, [0], [], fun l g => Box g (t + 3) b3 34 [encA .i64 d4] [3]⟩, ⟨none, [], [], fun l g => Box g (t + 7) b11 56 [encA .u8 ((getI l1 x4).f1), [.int .i64 ((getI l1 x4).f2)], [.int .i64 ((getI l1 x4).f3)], [.int .i64 ((getI l1 x4).f4)]] [8, 1, 1, 1]⟩, ⟨some 0, [], [0], fun l g => l.getD 0 undef = .int .i64 ((getI l1 x4).f3)⟩, ⟨some 1, [], [1], fun l g => l.getD 0 undef = .pointer (some ⟨b3, 0 + ((getI l1 x4).f3).toNat * 1, none⟩)⟩, ⟨some 2, [], [2], fun l g => l.getD 0 undef = .int .i64 (aget d4 ((getI l1 x4).f3))⟩, ⟨some 3, [], [3], fun l g => l.getD 0 undef = .int .i64 ((getI l1 x4).f2)⟩, ⟨some 4, [], [4], fun l g => l.getD 0 undef = .pointer (some ⟨b3, 0 + ((getI l1 x4).f3).toNat * 1, none⟩)⟩, ⟨some 5, [0], [], fun l g => Box g (t + 3) b3 34 [encA .i64 (aset d4 ((getI l1 x4).f3) (IntKind.i64.wrap ((aget d4 ((getI l1 x4).f3)) + ((getI l1 x4).f2))))] [3]⟩] [[], [], [], [], [], [0]] [(t + 3)] [0, 4] [6] (by kernel_rfl) (by simp <;> omega) (by simp) ⟨fun _ _ _ _ st h0 hl hj hB4 => (hB4.mono st (hj 0 (by simp) _ rfl)), fun _ _ _ _ st h0 hl hj hB20 => (hB20.mono st (fun h => absurd (hl _ h) (by simp <;> omega))), fun _ _ _ _ st h0 hl hj e0 => e0, fun _ _ _ _ st h0 hl hj e1 => e1, fun _ _ _ _ st h0 hl hj e2 => e2, fun _ _ _ _ st h0 hl hj e3 => e3, fun _ _ _ _ st h0 hl hj e4 => e4, fun _ _ _ _ st h0 hl hj hB4 => (hB4.mono st (hj 0 (by simp) _ rfl)), trivial⟩ ⟨hB4, hB20, trivial, trivial, trivial, trivial, trivial, trivial, trivial⟩ (by kernel_rfl) (fun vs => by kernel_rfl) ?_ ?_ ?_
        · intro j hj
          have hq : j = 0 := by have h : j < 1 := hj; omega
          rcases hq with rfl
          · intro vs gq stq hl hf
            obtain ⟨v0, v1, v2, v3, v4, v5, rfl⟩ := len_k6 hl
            have e2 := (show v2 = .int .i64 (aget d4 ((getI l1 x4).f3)) from hf _ (List.mem_of_getElem? (i := 4) rfl) (by kernel_rfl))
            subst e2
            have e3 := (show v3 = .int .i64 ((getI l1 x4).f2) from hf _ (List.mem_of_getElem? (i := 5) rfl) (by kernel_rfl))
            subst e3
            show Option.isSome _ = true
            kernel_rfl
        · intro j hj
          have hq : j = 0 ∨ j = 1 ∨ j = 2 ∨ j = 3 ∨ j = 4 ∨ j = 5 := by have h : j < 6 := hj; omega
          rcases hq with rfl | rfl | rfl | rfl | rfl | rfl
          · intro vs gq stq hl hf
            obtain ⟨v0, v1, v2, v3, v4, v5, rfl⟩ := len_k6 hl
            have hB20 := (show Box gq (t + 7) b11 56 [encA .u8 ((getI l1 x4).f1), [.int .i64 ((getI l1 x4).f2)], [.int .i64 ((getI l1 x4).f3)], [.int .i64 ((getI l1 x4).f4)]] [8, 1, 1, 1] from hf _ (List.mem_of_getElem? (i := 1) rfl) (by kernel_rfl))
            refine WP.loadB (v := .int .i64 ((getI l1 x4).f3)) hB20 (by kernel_rfl) (by kernel_rfl) ?_
            refine WP.done (by kernel_rfl) (Shown.ok (v := .int .i64 ((getI l1 x4).f3)) (by kernel_rfl) (Step.refl _ _) ?_)
            exact ⟨trivial, trivial, rfl, trivial, trivial, trivial, trivial, trivial, trivial⟩
          · intro vs gq stq hl hf
            obtain ⟨v0, v1, v2, v3, v4, v5, rfl⟩ := len_k6 hl
            have hB4 := (show Box gq (t + 3) b3 34 [encA .i64 d4] [3] from hf _ (List.mem_of_getElem? (i := 0) rfl) (by kernel_rfl))
            have e0 := (show v0 = .int .i64 ((getI l1 x4).f3) from hf _ (List.mem_of_getElem? (i := 2) rfl) (by kernel_rfl))
            subst e0
            refine WP.ixBox (t := 34) (e := 3) (m := 3) (size := 1) (b := b3) (off := 0) (k := .i64) (i := (getI l1 x4).f3) (by kernel_rfl) (by kernel_rfl) hc11 ?_
            refine WP.done (by kernel_rfl) (Shown.ok (v := .pointer (some ⟨b3, 0 + ((getI l1 x4).f3).toNat * 1, none⟩)) (by kernel_rfl) (Step.refl _ _) ?_)
            exact ⟨trivial, trivial, trivial, rfl, trivial, trivial, trivial, trivial, trivial⟩
          · intro vs gq stq hl hf
            obtain ⟨v0, v1, v2, v3, v4, v5, rfl⟩ := len_k6 hl
            have hB4 := (show Box gq (t + 3) b3 34 [encA .i64 d4] [3] from hf _ (List.mem_of_getElem? (i := 0) rfl) (by kernel_rfl))
            have e1 := (show v1 = .pointer (some ⟨b3, 0 + ((getI l1 x4).f3).toNat * 1, none⟩) from hf _ (List.mem_of_getElem? (i := 3) rfl) (by kernel_rfl))
            subst e1
            refine WP.loadE (ty := 3) (o := 0) (m := 3) (k := .i64) (d := d4) (i := (getI l1 x4).f3) hB4 (by kernel_rfl) hc11 (by kernel_rfl) (by kernel_rfl) ?_
            refine WP.done (by kernel_rfl) (Shown.ok (v := .int .i64 (aget d4 ((getI l1 x4).f3))) (by kernel_rfl) (Step.refl _ _) ?_)
            exact ⟨trivial, trivial, trivial, trivial, rfl, trivial, trivial, trivial, trivial⟩
          · intro vs gq stq hl hf
            obtain ⟨v0, v1, v2, v3, v4, v5, rfl⟩ := len_k6 hl
            have hB20 := (show Box gq (t + 7) b11 56 [encA .u8 ((getI l1 x4).f1), [.int .i64 ((getI l1 x4).f2)], [.int .i64 ((getI l1 x4).f3)], [.int .i64 ((getI l1 x4).f4)]] [8, 1, 1, 1] from hf _ (List.mem_of_getElem? (i := 1) rfl) (by kernel_rfl))
            refine WP.loadB (v := .int .i64 ((getI l1 x4).f2)) hB20 (by kernel_rfl) (by kernel_rfl) ?_
            refine WP.done (by kernel_rfl) (Shown.ok (v := .int .i64 ((getI l1 x4).f2)) (by kernel_rfl) (Step.refl _ _) ?_)
            exact ⟨trivial, trivial, trivial, trivial, trivial, rfl, trivial, trivial, trivial⟩
          · intro vs gq stq hl hf
            obtain ⟨v0, v1, v2, v3, v4, v5, rfl⟩ := len_k6 hl
            have hB4 := (show Box gq (t + 3) b3 34 [encA .i64 d4] [3] from hf _ (List.mem_of_getElem? (i := 0) rfl) (by kernel_rfl))
            have e0 := (show v0 = .int .i64 ((getI l1 x4).f3) from hf _ (List.mem_of_getElem? (i := 2) rfl) (by kernel_rfl))
            subst e0
            refine WP.ixBox (t := 34) (e := 3) (m := 3) (size := 1) (b := b3) (off := 0) (k := .i64) (i := (getI l1 x4).f3) (by kernel_rfl) (by kernel_rfl) hc12 ?_
            refine WP.done (by kernel_rfl) (Shown.ok (v := .pointer (some ⟨b3, 0 + ((getI l1 x4).f3).toNat * 1, none⟩)) (by kernel_rfl) (Step.refl _ _) ?_)
            exact ⟨trivial, trivial, trivial, trivial, trivial, trivial, rfl, trivial, trivial⟩
          · intro vs gq stq hl hf
            obtain ⟨v0, v1, v2, v3, v4, v5, rfl⟩ := len_k6 hl
            have hB4 := (show Box gq (t + 3) b3 34 [encA .i64 d4] [3] from hf _ (List.mem_of_getElem? (i := 0) rfl) (by kernel_rfl))
            have e2 := (show v2 = .int .i64 (aget d4 ((getI l1 x4).f3)) from hf _ (List.mem_of_getElem? (i := 4) rfl) (by kernel_rfl))
            subst e2
            have e3 := (show v3 = .int .i64 ((getI l1 x4).f2) from hf _ (List.mem_of_getElem? (i := 5) rfl) (by kernel_rfl))
            subst e3
            have e4 := (show v4 = .pointer (some ⟨b3, 0 + ((getI l1 x4).f3).toNat * 1, none⟩) from hf _ (List.mem_of_getElem? (i := 6) rfl) (by kernel_rfl))
            subst e4
            refine WP.storeE (ty := 3) (o := 0) (m := 3) (k := .i64) (d := d4) (i := (getI l1 x4).f3) (x := (IntKind.i64.wrap ((aget d4 ((getI l1 x4).f3)) + ((getI l1 x4).f2)))) hB4 (by kernel_rfl) hc12 (by kernel_rfl) (by kernel_rfl) [encA .i64 (aset d4 ((getI l1 x4).f3) (IntKind.i64.wrap ((aget d4 ((getI l1 x4).f3)) + ((getI l1 x4).f2))))] (by kernel_rfl) ?_
            intro g23 st23 hB22
            refine WP.done (by kernel_rfl) (Shown.ok (v := undef) (by kernel_rfl) st23 ?_)
            exact ⟨trivial, trivial, trivial, trivial, trivial, trivial, trivial, hB22, trivial⟩
        intro vs g24 st24 hl hf
        obtain ⟨v0, v1, v2, v3, v4, v5, rfl⟩ := len_k6 hl
        have hB4 := (show Box g24 (t + 3) b3 34 [encA .i64 (aset d4 ((getI l1 x4).f3) (IntKind.i64.wrap ((aget d4 ((getI l1 x4).f3)) + ((getI l1 x4).f2))))] [3] from hf _ (List.mem_of_getElem? (i := 7) rfl) (by kernel_rfl))
        replace hB2 := hB2.mono st24 (WL.no1 (by omega))
        replace hR1 := hR1.mono st24 (WL.no1 (by omega))
        replace tot := tot.trans (st24.up1 (.inr (by omega)))
        refine NX.block_n ?_
        refine NX.post ?_
        exact ⟨(aset d4 ((getI l1 x4).f3) (IntKind.i64.wrap ((aget d4 ((getI l1 x4).f3)) + ((getI l1 x4).f2)))), ⟨by kernel_rfl, by kernel_rfl⟩, tot, hB2, hB4, hR1, hs⟩
      replace hs := of_if_f hs h8
      refine CP.region ?_
      refine WP.still 1 (by kernel_rfl) ?_
      refine WP.loadE (ty := 3) (o := 0) (m := 3) (k := .i64) (d := d4) (i := 2) hB4 (by kernel_rfl) (by decide) (by kernel_rfl) (by kernel_rfl) ?_
      refine WP.still 1 (by kernel_rfl) ?_
      refine WP.loadB (v := .int .i64 ((getI l1 x4).f2)) hB20 (by kernel_rfl) (by kernel_rfl) ?_
      refine WP.still 2 (by kernel_rfl) ?_
      refine WP.storeE (ty := 3) (o := 0) (m := 3) (k := .i64) (d := d4) (i := 2) (x := (IntKind.i64.wrap ((aget d4 2) + ((getI l1 x4).f2)))) hB4 (by kernel_rfl) (by decide) (by kernel_rfl) (by kernel_rfl) [encA .i64 (aset d4 2 (IntKind.i64.wrap ((aget d4 2) + ((getI l1 x4).f2))))] (by kernel_rfl) ?_
      intro g25 st25 hB23
      replace hB2 := hB2.mono st25 (WL.no1 (by omega))
      replace hR1 := hR1.mono st25 (WL.no1 (by omega))
      replace hB20 := hB20.mono st25 (WL.no1 (by omega))
      replace tot := tot.trans (st25.up1 (.inr (by omega)))
      clear hB4
      have hB4 := hB23
      clear hB23
      refine WP.done (by kernel_rfl) ?_
      refine NX.block_n ?_
      refine NX.post ?_
      exact ⟨(aset d4 2 (IntKind.i64.wrap ((aget d4 2) + ((getI l1 x4).f2)))), ⟨by kernel_rfl, by kernel_rfl⟩, tot, hB2, hB4, hR1, hs⟩
    clear tot hs hB2 hB4 hR1
    rintro tm g ⟨d7, hF, tot, hB2, hB4, hR1, hs⟩
    clear ds
    obtain ⟨ds, rfl⟩ := hF.open
    clear hF
    unfold F.purse_Purse_Pays.c1 at hs
    refine CP.region ?_
    refine WP.still 2 (by kernel_rfl) ?_
    refine WP.done (by kernel_rfl) ?_
    refine NX.post ?_
    exact ⟨d7, (IntKind.i64.wrap (x4 + 1)), ⟨by kernel_rfl, by kernel_rfl⟩, tot, hB2, hB4, hR1, hs⟩
  replace hs := of_if_f hs h6
  refine CP.exit ?_
  refine NX.then_e ?_
  refine NX.then_e ?_
  refine NX.block_s ?_
  refine NX.then_n ?_
  refine CP.seqR ?_
  refine WP.loadB (v := AG [encA .i64 d4]) hB4 (by kernel_rfl) (by kernel_rfl) ?_
  refine WP.storeB (ty := 34) (off := 0) (v := AG [encA .i64 d4]) hB2 [encA .i64 d4] [3] (by kernel_rfl) (by kernel_rfl) (by simp [len_encA]) (by kernel_rfl) [encA .i64 d4] (by kernel_rfl) (.arr .nil) ?_
  intro g26 st26 hB24
  replace hB4 := hB4.mono st26 (WL.no1 (by omega))
  replace tot := tot.trans (st26.up1 (.inr (by omega)))
  clear hB2
  have hB2 := hB24
  clear hB24
  refine WP.done (by kernel_rfl) ?_
  refine NX.then_n ?_
  refine CP.ret ?_
  replace hs := Option.some.inj hs
  obtain rfl := hs
  exact NX.fin (v := AG [encA .i64 d4]) (Res.one rfl (RV.box (agg := true) (size := 3) (rs := [encA .i64 d4]) hB2 (by kernel_rfl) (by kernel_rfl) (by kernel_rfl) (by kernel_rfl))) tot htL rfl
def F.baizeref47_Pays.c1 (nx1 : (Arr Int 3) → Int → Option ((Arr Int 3))) (x4 : Int) (d7 : Arr Int 3) : Option ((Arr Int 3)) := (nx1 d7 (IntKind.i64.wrap (x4 + 1)))
def N.baizeref47_Pays_0 : List (List Nat) := [[], [0], [], [2], [2, 3], [2, 3, 4], [], [6], [2, 3, 4, 5, 6, 7], [0, 1, 2, 3, 4, 5, 6, 7, 8], [0, 1, 2, 3, 4, 5, 6, 7, 8, 9]]
def F.baizeref47_Pays.l1 (l1 : List S_baizeref47_Held) (x2 : Int) : Nat → (Arr Int 3) → Int → Option ((Arr Int 3))
  | 0, _, _ => none
  | k + 1, d4, x4 => (if decide (x4 < (l1.length : Int)) = true then (if (0 : Int) ≤ x4 ∧ x4 < (l1.length : Int) then (if decide ((getI l1 x4).f4 < x2) = true then (if (0 : Int) ≤ (getI l1 x4).f3 ∧ (getI l1 x4).f3 < (3 : Int) then (if (0 : Int) ≤ (getI l1 x4).f3 ∧ (getI l1 x4).f3 < (3 : Int) then (F.baizeref47_Pays.c1 (F.baizeref47_Pays.l1 l1 x2 k) x4 (aset d4 ((getI l1 x4).f3) (IntKind.i64.wrap ((aget d4 ((getI l1 x4).f3)) + ((getI l1 x4).f2))))) else none) else none) else (F.baizeref47_Pays.c1 (F.baizeref47_Pays.l1 l1 x2 k) x4 (aset d4 2 (IntKind.i64.wrap ((aget d4 2) + ((getI l1 x4).f2)))))) else none) else (some d4))
def F.baizeref47_Pays (d1 : Arr Int 8) (x1 : Int) (d2 : Arr Int 2) (l1 : List S_baizeref47_Held) (x2 : Int) : Option ((Arr Int 3)) := ((F.baizeref47_Check d1 x1 d2 l1).bind fun x3 => (if (x3 != 0) = true then (some (zA 3)) else (F.baizeref47_Pays.l1 l1 x2 fuel (⟨[(aget d2 0), (aget d2 1), 0], rfl⟩ : Arr Int 3) 0)))
theorem P.baizeref47_Pays (g0 : GW) (d1 : Arr Int 8) (x1 : Int) (d2 : Arr Int 2) (l1 : List S_baizeref47_Held) (x2 : Int) (a1 : Option Addr) (n1 : Nat) (c1 : Nat) (hR1 : RdS k_S_baizeref47_Held g0 60 a1 n1 c1 l1) (o1 : Arr Int 3) (hs : F.baizeref47_Pays d1 x1 d2 l1 x2 = some o1) :
    Calls Try.prog 26 #[AG [encA .u8 d1, [.int .i64 x1], encA .i64 d2, [.slice a1 n1 c1]], .int .i64 x2] g0.w (Ret NoM g0 fun v g => v = AG [encA .i64 o1]) := by
  refine calls_of (args := [AG [encA .u8 d1, [.int .i64 x1], encA .i64 d2, [.slice a1 n1 c1]], .int .i64 x2]) Try.func26 rfl (0) ?_
  intro t ht htL
  refine ⟨_, rfl, ?_⟩
  refine CP.refr 52 [(0, AG [encA .u8 d1, [.int .i64 x1], encA .i64 d2, [.slice a1 n1 c1]]), (1, .int .i64 x2)] (by kernel_rfl) (by kernel_rfl) ?_
  intro ds
  have tot : Step (fun l => NoM l ∨ t ≤ l) g0 g0 := Step.refl _ _
  unfold F.baizeref47_Pays at hs
  refine CP.seqR ?_
  refine WP.alloc (T := 26) (t + 1) [encA .u8 d1, [.int .i64 x1], encA .i64 d2, [.slice a1 n1 c1]] [8, 1, 2, 1] (by kernel_rfl) (by simp [len_encA]) ?_
  intro g1 b1 st1 hB1
  replace hR1 := hR1.mono st1 (fun x => x)
  replace tot := tot.trans st1.pure
  refine WP.alloc (T := 34) (t + 2) [encA .i64 (zA 3)] [3] (by kernel_rfl) (by simp [len_encA]) ?_
  intro g2 b2 st2 hB2
  replace hR1 := hR1.mono st2 (fun x => x)
  replace hB1 := hB1.mono st2 (fun x => x)
  replace tot := tot.trans st2.pure
  refine WP.done (by kernel_rfl) ?_
  refine NX.then_n ?_
  refine CP.seq ?_
  refine CP.seqR ?_
  refine WP.loadB (v := AG [encA .u8 d1, [.int .i64 x1], encA .i64 d2, [.slice a1 n1 c1]]) hB1 (by kernel_rfl) (by kernel_rfl) ?_
  replace hs := Option.bind_eq_some_iff.1 hs
  obtain ⟨x3, hk1, hs⟩ := hs
  have hcal1 := P.baizeref47_Check g2 d1 x1 d2 l1 a1 n1 c1 hR1 x3 hk1
  refine WP.callC hcal1 (by kernel_rfl) ?_
  rintro _ g3 st3 rfl
  replace hB1 := hB1.mono st3 (fun x => x)
  replace hR1 := hR1.mono st3 (fun x => x)
  replace hB2 := hB2.mono st3 (fun x => x)
  replace tot := tot.trans st3.pure
  refine WP.still 1 (by kernel_rfl) ?_
  refine WP.done (by kernel_rfl) ?_
  refine NX.then_n ?_
  refine CP.cond (b := (x3 != 0)) (by kernel_rfl) (fun h1 => ?_) (fun h1 => ?_)
  · replace hs := of_if_t hs h1
    refine CP.seqR ?_
    refine WP.still 1 (by kernel_rfl) ?_
    refine WP.storeB (ty := 34) (off := 0) (v := AG [encA .i64 (zA 3)]) hB2 [encA .i64 (zA 3)] [3] (by kernel_rfl) (by kernel_rfl) (by simp [len_encA]) (by kernel_rfl) [encA .i64 (zA 3)] (by kernel_rfl) (.arr .nil) ?_
    intro g4 st4 hB3
    replace hB1 := hB1.mono st4 (WL.no1 (by omega))
    replace hR1 := hR1.mono st4 (WL.no1 (by omega))
    replace tot := tot.trans (st4.up1 (.inr (by omega)))
    clear hB2
    have hB2 := hB3
    clear hB3
    refine WP.done (by kernel_rfl) ?_
    refine NX.then_n ?_
    refine CP.ret ?_
    refine NX.then_r ?_
    replace hs := Option.some.inj hs
    obtain rfl := hs
    exact NX.fin (v := AG [encA .i64 (zA 3)]) (Res.one rfl (RV.box (agg := true) (size := 3) (rs := [encA .i64 (zA 3)]) hB2 (by kernel_rfl) (by kernel_rfl) (by kernel_rfl) (by kernel_rfl))) tot htL rfl
  replace hs := of_if_f hs h1
  refine CP.skip ?_
  refine NX.then_n ?_
  refine CP.seqR ?_
  refine WP.still 2 (by kernel_rfl) ?_
  refine WP.loadE (ty := 3) (o := 9) (m := 2) (k := .i64) (d := d2) (i := 0) hB1 (by kernel_rfl) (by decide) (by kernel_rfl) (by kernel_rfl) ?_
  refine WP.still 2 (by kernel_rfl) ?_
  refine WP.loadE (ty := 3) (o := 9) (m := 2) (k := .i64) (d := d2) (i := 1) hB1 (by kernel_rfl) (by decide) (by kernel_rfl) (by kernel_rfl) ?_
  refine WP.still 1 (by kernel_rfl) ?_
  refine WP.alloc (T := 34) (t + 3) [encA .i64 (zA 3)] [3] (by kernel_rfl) (by simp [len_encA]) ?_
  intro g5 b3 st5 hB4
  replace hB1 := hB1.mono st5 (fun x => x)
  replace hR1 := hR1.mono st5 (fun x => x)
  replace hB2 := hB2.mono st5 (fun x => x)
  replace tot := tot.trans st5.pure
  refine WP.storeB (ty := 34) (off := 0) (v := AG [encA .i64 (⟨[(aget d2 0), (aget d2 1), 0], rfl⟩ : Arr Int 3)]) hB4 [encA .i64 (⟨[(aget d2 0), (aget d2 1), 0], rfl⟩ : Arr Int 3)] [3] (by kernel_rfl) (by kernel_rfl) (by simp [len_encA]) (by kernel_rfl) [encA .i64 (⟨[(aget d2 0), (aget d2 1), 0], rfl⟩ : Arr Int 3)] (by kernel_rfl) (.arr .nil) ?_
  intro g6 st6 hB5
  replace hB1 := hB1.mono st6 (WL.no1 (by omega))
  replace hR1 := hR1.mono st6 (WL.no1 (by omega))
  replace hB2 := hB2.mono st6 (WL.no1 (by omega))
  replace tot := tot.trans (st6.up1 (.inr (by omega)))
  clear hB4
  have hB4 := hB5
  clear hB5
  refine WP.done (by kernel_rfl) ?_
  refine NX.then_n ?_
  refine CP.refr 52 [(1, .int .i64 x2), (2, .pointer (some ⟨b1, 0, none⟩)), (4, .pointer (some ⟨b2, 0, none⟩)), (5, .pointer (some ⟨b3, 0, none⟩))] (by kernel_rfl) (by kernel_rfl) ?_
  clear ds
  intro ds
  refine CP.seq ?_
  refine CP.seqR ?_
  refine WP.still 1 (by kernel_rfl) ?_
  refine WP.done (by kernel_rfl) ?_
  refine NX.then_n ?_
  refine CP.block ?_
  generalize fuel = k1 at hs
  refine CP.loop (fun k1 tm g => ∃ (d4 : Arr Int 3) (x4 : Int), Fr 52 [(1, .int .i64 x2), (2, .pointer (some ⟨b1, 0, none⟩)), (4, .pointer (some ⟨b2, 0, none⟩)), (5, .pointer (some ⟨b3, 0, none⟩)), (6, .int .i64 x4)] tm ∧ Step (fun l => NoM l ∨ t ≤ l) g0 g ∧ Box g (t + 1) b1 26 [encA .u8 d1, [.int .i64 x1], encA .i64 d2, [.slice a1 n1 c1]] [8, 1, 2, 1] ∧ RdS k_S_baizeref47_Held g 60 a1 n1 c1 l1 ∧ Box g (t + 2) b2 34 [encA .i64 (zA 3)] [3] ∧ Box g (t + 3) b3 34 [encA .i64 d4] [3] ∧ F.baizeref47_Pays.l1 l1 x2 k1 d4 x4 = some o1) k1 ?_ ?_ ?_
  · exact ⟨(⟨[(aget d2 0), (aget d2 1), 0], rfl⟩ : Arr Int 3), 0, ⟨by kernel_rfl, by kernel_rfl⟩, tot, hB1, hR1, hB2, hB4, hs⟩
  · rintro tm g ⟨d4, x4, hF, tot, hB1, hR1, hB2, hB4, hs⟩
    exact absurd hs (by simp [F.baizeref47_Pays.l1])
  clear tot hs hB1 hR1 hB2 hB4
  rintro k1 tm g ⟨d4, x4, hF, tot, hB1, hR1, hB2, hB4, hs⟩
  clear ds
  obtain ⟨ds, rfl⟩ := hF.open
  clear hF
  unfold F.baizeref47_Pays.l1 at hs
  refine CP.seq ?_
  refine CP.seqR ?_
  refine WP.still 2 (by kernel_rfl) ?_
  refine WP.loadB (v := .slice a1 n1 c1) hB1 (by kernel_rfl) (by kernel_rfl) ?_
  refine WP.len (a := a1) (cp := c1) hR1.len (by kernel_rfl) ?_
  refine WP.still 1 (by kernel_rfl) ?_
  refine WP.done (by kernel_rfl) ?_
  refine NX.then_n ?_
  refine CP.cond (b := decide (x4 < (l1.length : Int))) (by kernel_rfl) (fun h6 => ?_) (fun h6 => ?_)
  · replace hs := of_if_t hs h6
    refine CP.skip ?_
    refine NX.then_n ?_
    refine CP.cut (fun tm g => ∃ (d7 : Arr Int 3), Fr 52 [(1, .int .i64 x2), (2, .pointer (some ⟨b1, 0, none⟩)), (4, .pointer (some ⟨b2, 0, none⟩)), (5, .pointer (some ⟨b3, 0, none⟩)), (6, .int .i64 x4)] tm ∧ Step (fun l => NoM l ∨ t ≤ l) g0 g ∧ Box g (t + 1) b1 26 [encA .u8 d1, [.int .i64 x1], encA .i64 d2, [.slice a1 n1 c1]] [8, 1, 2, 1] ∧ RdS k_S_baizeref47_Held g 60 a1 n1 c1 l1 ∧ Box g (t + 2) b2 34 [encA .i64 (zA 3)] [3] ∧ Box g (t + 3) b3 34 [encA .i64 d7] [3] ∧ (F.baizeref47_Pays.c1 (F.baizeref47_Pays.l1 l1 x2 k1) x4 d7) = some o1) ?_ ?_
    · refine CP.block ?_
      refine CP.seqR ?_
      refine WP.still 1 (by kernel_rfl) ?_
      refine WP.loadB (v := .slice a1 n1 c1) hB1 (by kernel_rfl) (by kernel_rfl) ?_
      refine WP.still 1 (by kernel_rfl) ?_
      by_cases hc10 : (0 : Int) ≤ x4 ∧ x4 < (l1.length : Int)
      case neg => rw [if_neg hc10] at hs; cases hs
      replace hs := of_if_p hs hc10
      obtain ⟨b10, u4, ha4⟩ := hR1.at hc10
      refine WP.indexA (t := 24) (e := 60) (sz := 11) (cap := c1) (k := .i64) (i := x4) hR1.len ha4 (by kernel_rfl) (by kernel_rfl) hc10 ?_
      obtain ⟨cs4, hcR4, hcV4⟩ := hR1.src.view (getI_some hc10) ha4
      replace hcR4 := k_S_baizeref47_Held.opn hcR4
      refine WP.loadV [encA .u8 ((getI l1 x4).f1), [.int .i64 ((getI l1 x4).f2)], [.int .i64 ((getI l1 x4).f3)], [.int .i64 ((getI l1 x4).f4)]] [8, 1, 1, 1] hcV4 hcR4 (by simp [len_encA]) (f := 0) (ty := 60) (agg := true) (size := 11) (rs := [encA .u8 ((getI l1 x4).f1), [.int .i64 ((getI l1 x4).f2)], [.int .i64 ((getI l1 x4).f3)], [.int .i64 ((getI l1 x4).f4)]]) (v := AG [encA .u8 ((getI l1 x4).f1), [.int .i64 ((getI l1 x4).f2)], [.int .i64 ((getI l1 x4).f3)], [.int .i64 ((getI l1 x4).f4)]]) (by kernel_rfl) (by kernel_rfl) (by kernel_rfl) (by kernel_rfl) ?_
      refine WP.alloc (T := 60) (t + 7) [encA .u8 (zA 8), [.int .i64 0], [.int .i64 0], [.int .i64 0]] [8, 1, 1, 1] (by kernel_rfl) (by simp [len_encA]) ?_
      intro g21 b11 st21 hB20
      replace hB1 := hB1.mono st21 (fun x => x)
      replace hR1 := hR1.mono st21 (fun x => x)
      replace hB2 := hB2.mono st21 (fun x => x)
      replace hB4 := hB4.mono st21 (fun x => x)
      replace tot := tot.trans st21.pure
      refine WP.storeB (ty := 60) (off := 0) (v := AG [encA .u8 ((getI l1 x4).f1), [.int .i64 ((getI l1 x4).f2)], [.int .i64 ((getI l1 x4).f3)], [.int .i64 ((getI l1 x4).f4)]]) hB20 [encA .u8 ((getI l1 x4).f1), [.int .i64 ((getI l1 x4).f2)], [.int .i64 ((getI l1 x4).f3)], [.int .i64 ((getI l1 x4).f4)]] [8, 1, 1, 1] (by kernel_rfl) (by kernel_rfl) (by simp [len_encA]) (by kernel_rfl) [encA .u8 ((getI l1 x4).f1), [.int .i64 ((getI l1 x4).f2)], [.int .i64 ((getI l1 x4).f3)], [.int .i64 ((getI l1 x4).f4)]] (by kernel_rfl) (.arr (.one rfl (.one rfl (.one rfl .nil)))) ?_
      intro g22 st22 hB21
      replace hB1 := hB1.mono st22 (WL.no1 (by omega))
      replace hR1 := hR1.mono st22 (WL.no1 (by omega))
      replace hB2 := hB2.mono st22 (WL.no1 (by omega))
      replace hB4 := hB4.mono st22 (WL.no1 (by omega))
      replace tot := tot.trans (st22.up1 (.inr (by omega)))
      clear hB20
      have hB20 := hB21
      clear hB21
      refine WP.done (by kernel_rfl) ?_
      refine NX.then_n ?_
      refine CP.seqR ?_
      refine WP.still 1 (by kernel_rfl) ?_
      refine WP.loadB (v := .int .i64 ((getI l1 x4).f4)) hB20 (by kernel_rfl) (by kernel_rfl) ?_
      refine WP.still 2 (by kernel_rfl) ?_
      refine WP.done (by kernel_rfl) ?_
      refine NX.then_n ?_
      refine CP.refr 52 [(1, .int .i64 x2), (2, .pointer (some ⟨b1, 0, none⟩)), (4, .pointer (some ⟨b2, 0, none⟩)), (5, .pointer (some ⟨b3, 0, none⟩)), (6, .int .i64 x4), (7, .pointer (some ⟨b11, 0, none⟩)), (34, .bool (decide ((getI l1 x4).f4 < x2)))] (by kernel_rfl) (by kernel_rfl) ?_
      clear ds
      intro ds
      refine CP.cond (b := decide ((getI l1 x4).f4 < x2)) (by kernel_rfl) (fun h8 => ?_) (fun h8 => ?_)
      · replace hs := of_if_t hs h8
        by_cases hc11 : (0 : Int) ≤ (getI l1 x4).f3 ∧ (getI l1 x4).f3 < (3 : Int)
        case neg => rw [if_neg hc11] at hs; cases hs
        replace hs := of_if_p hs hc11
        by_cases hc12 : (0 : Int) ≤ (getI l1 x4).f3 ∧ (getI l1 x4).f3 < (3 : Int)
        case neg => rw [if_neg hc12] at hs; cases hs
        replace hs := of_if_p hs hc12
        refine CP.drawL (by kernel_rfl) [1, 3, 4, 5, 7, 9, 10] N.baizeref47_Pays_0 [⟨none, [0], [], fun l g => Box g (t + 3) b3 34 [encA .i64 d4] [3]⟩, ⟨none, [], [], fun l g => Box g (t + 7) b11 60 [encA .u8 ((getI l1 x4).f1), [.int .i64 ((getI l1 x4).f2)], [.int .i64 ((getI l1 x4).f3)], [.int .i64 ((getI l1 x4).f4)]] [8, 1, 1, 1]⟩, ⟨some 0, [], [0], fun l g => l.getD 0 undef = .int .i64 ((getI l1 x4).f3)⟩, ⟨some 1, [], [1], fun l g => l.getD 0 undef = .int .i64 ((getI l1 x4).f3)⟩, ⟨some 2, [], [2], fun l g => l.getD 0 undef = .pointer (some ⟨b3, 0 + ((getI l1 x4).f3).toNat * 1, none⟩)⟩, ⟨some 3, [], [3], fun l g => l.getD 0 undef = .int .i64 (aget d4 ((getI l1 x4).f3))⟩, ⟨some 4, [], [4], fun l g => l.getD 0 undef = .int .i64 ((getI l1 x4).f2)⟩, ⟨some 5, [], [5], fun l g => l.getD 0 undef = .pointer (some ⟨b3, 0 + ((getI l1 x4).f3).toNat * 1, none⟩)⟩, ⟨some 6, [0], [], fun l g => Box g (t + 3) b3 34 [encA .i64 (aset d4 ((getI l1 x4).f3) (IntKind.i64.wrap ((aget d4 ((getI l1 x4).f3)) + ((getI l1 x4).f2))))] [3]⟩] [[], [], [], [], [], [], [0]] [(t + 3)] [0, 2, 6] [8] (by kernel_rfl) (by simp <;> omega) (by simp) ⟨fun _ _ _ _ st h0 hl hj hB4 => (hB4.mono st (hj 0 (by simp) _ rfl)), fun _ _ _ _ st h0 hl hj hB20 => (hB20.mono st (fun h => absurd (hl _ h) (by simp <;> omega))), fun _ _ _ _ st h0 hl hj e0 => e0, fun _ _ _ _ st h0 hl hj e1 => e1, fun _ _ _ _ st h0 hl hj e2 => e2, fun _ _ _ _ st h0 hl hj e3 => e3, fun _ _ _ _ st h0 hl hj e4 => e4, fun _ _ _ _ st h0 hl hj e5 => e5, fun _ _ _ _ st h0 hl hj hB4 => (hB4.mono st (hj 0 (by simp) _ rfl)), trivial⟩ ⟨hB4, hB20, trivial, trivial, trivial, trivial, trivial, trivial, trivial, trivial⟩ (by kernel_rfl) (fun vs => by kernel_rfl) ?_ ?_ ?_
        · intro j hj
          have hq : j = 0 := by have h : j < 1 := hj; omega
          rcases hq with rfl
          · intro vs gq stq hl hf
            obtain ⟨v0, v1, v2, v3, v4, v5, v6, rfl⟩ := len_k7 hl
            have e3 := (show v3 = .int .i64 (aget d4 ((getI l1 x4).f3)) from hf _ (List.mem_of_getElem? (i := 5) rfl) (by kernel_rfl))
            subst e3
            have e4 := (show v4 = .int .i64 ((getI l1 x4).f2) from hf _ (List.mem_of_getElem? (i := 6) rfl) (by kernel_rfl))
            subst e4
            show Option.isSome _ = true
            kernel_rfl
        · intro j hj
          have hq : j = 0 ∨ j = 1 ∨ j = 2 ∨ j = 3 ∨ j = 4 ∨ j = 5 ∨ j = 6 := by have h : j < 7 := hj; omega
          rcases hq with rfl | rfl | rfl | rfl | rfl | rfl | rfl
          · intro vs gq stq hl hf
            obtain ⟨v0, v1, v2, v3, v4, v5, v6, rfl⟩ := len_k7 hl
            have hB20 := (show Box gq (t + 7) b11 60 [encA .u8 ((getI l1 x4).f1), [.int .i64 ((getI l1 x4).f2)], [.int .i64 ((getI l1 x4).f3)], [.int .i64 ((getI l1 x4).f4)]] [8, 1, 1, 1] from hf _ (List.mem_of_getElem? (i := 1) rfl) (by kernel_rfl))
            refine WP.loadB (v := .int .i64 ((getI l1 x4).f3)) hB20 (by kernel_rfl) (by kernel_rfl) ?_
            refine WP.done (by kernel_rfl) (Shown.ok (v := .int .i64 ((getI l1 x4).f3)) (by kernel_rfl) (Step.refl _ _) ?_)
            exact ⟨trivial, trivial, rfl, trivial, trivial, trivial, trivial, trivial, trivial, trivial⟩
          · intro vs gq stq hl hf
            obtain ⟨v0, v1, v2, v3, v4, v5, v6, rfl⟩ := len_k7 hl
            have hB20 := (show Box gq (t + 7) b11 60 [encA .u8 ((getI l1 x4).f1), [.int .i64 ((getI l1 x4).f2)], [.int .i64 ((getI l1 x4).f3)], [.int .i64 ((getI l1 x4).f4)]] [8, 1, 1, 1] from hf _ (List.mem_of_getElem? (i := 1) rfl) (by kernel_rfl))
            refine WP.loadB (v := .int .i64 ((getI l1 x4).f3)) hB20 (by kernel_rfl) (by kernel_rfl) ?_
            refine WP.done (by kernel_rfl) (Shown.ok (v := .int .i64 ((getI l1 x4).f3)) (by kernel_rfl) (Step.refl _ _) ?_)
            exact ⟨trivial, trivial, trivial, rfl, trivial, trivial, trivial, trivial, trivial, trivial⟩
          · intro vs gq stq hl hf
            obtain ⟨v0, v1, v2, v3, v4, v5, v6, rfl⟩ := len_k7 hl
            have hB4 := (show Box gq (t + 3) b3 34 [encA .i64 d4] [3] from hf _ (List.mem_of_getElem? (i := 0) rfl) (by kernel_rfl))
            have e1 := (show v1 = .int .i64 ((getI l1 x4).f3) from hf _ (List.mem_of_getElem? (i := 3) rfl) (by kernel_rfl))
            subst e1
            refine WP.ixBox (t := 34) (e := 3) (m := 3) (size := 1) (b := b3) (off := 0) (k := .i64) (i := (getI l1 x4).f3) (by kernel_rfl) (by kernel_rfl) hc11 ?_
            refine WP.done (by kernel_rfl) (Shown.ok (v := .pointer (some ⟨b3, 0 + ((getI l1 x4).f3).toNat * 1, none⟩)) (by kernel_rfl) (Step.refl _ _) ?_)
            exact ⟨trivial, trivial, trivial, trivial, rfl, trivial, trivial, trivial, trivial, trivial⟩
          · intro vs gq stq hl hf
            obtain ⟨v0, v1, v2, v3, v4, v5, v6, rfl⟩ := len_k7 hl
            have hB4 := (show Box gq (t + 3) b3 34 [encA .i64 d4] [3] from hf _ (List.mem_of_getElem? (i := 0) rfl) (by kernel_rfl))
            have e2 := (show v2 = .pointer (some ⟨b3, 0 + ((getI l1 x4).f3).toNat * 1, none⟩) from hf _ (List.mem_of_getElem? (i := 4) rfl) (by kernel_rfl))
            subst e2
            refine WP.loadE (ty := 3) (o := 0) (m := 3) (k := .i64) (d := d4) (i := (getI l1 x4).f3) hB4 (by kernel_rfl) hc11 (by kernel_rfl) (by kernel_rfl) ?_
            refine WP.done (by kernel_rfl) (Shown.ok (v := .int .i64 (aget d4 ((getI l1 x4).f3))) (by kernel_rfl) (Step.refl _ _) ?_)
            exact ⟨trivial, trivial, trivial, trivial, trivial, rfl, trivial, trivial, trivial, trivial⟩
          · intro vs gq stq hl hf
            obtain ⟨v0, v1, v2, v3, v4, v5, v6, rfl⟩ := len_k7 hl
            have hB20 := (show Box gq (t + 7) b11 60 [encA .u8 ((getI l1 x4).f1), [.int .i64 ((getI l1 x4).f2)], [.int .i64 ((getI l1 x4).f3)], [.int .i64 ((getI l1 x4).f4)]] [8, 1, 1, 1] from hf _ (List.mem_of_getElem? (i := 1) rfl) (by kernel_rfl))
            refine WP.loadB (v := .int .i64 ((getI l1 x4).f2)) hB20 (by kernel_rfl) (by kernel_rfl) ?_
            refine WP.done (by kernel_rfl) (Shown.ok (v := .int .i64 ((getI l1 x4).f2)) (by kernel_rfl) (Step.refl _ _) ?_)
            exact ⟨trivial, trivial, trivial, trivial, trivial, trivial, rfl, trivial, trivial, trivial⟩
          · intro vs gq stq hl hf
            obtain ⟨v0, v1, v2, v3, v4, v5, v6, rfl⟩ := len_k7 hl
            have hB4 := (show Box gq (t + 3) b3 34 [encA .i64 d4] [3] from hf _ (List.mem_of_getElem? (i := 0) rfl) (by kernel_rfl))
            have e0 := (show v0 = .int .i64 ((getI l1 x4).f3) from hf _ (List.mem_of_getElem? (i := 2) rfl) (by kernel_rfl))
            subst e0
            refine WP.ixBox (t := 34) (e := 3) (m := 3) (size := 1) (b := b3) (off := 0) (k := .i64) (i := (getI l1 x4).f3) (by kernel_rfl) (by kernel_rfl) hc12 ?_
            refine WP.done (by kernel_rfl) (Shown.ok (v := .pointer (some ⟨b3, 0 + ((getI l1 x4).f3).toNat * 1, none⟩)) (by kernel_rfl) (Step.refl _ _) ?_)
            exact ⟨trivial, trivial, trivial, trivial, trivial, trivial, trivial, rfl, trivial, trivial⟩
          · intro vs gq stq hl hf
            obtain ⟨v0, v1, v2, v3, v4, v5, v6, rfl⟩ := len_k7 hl
            have hB4 := (show Box gq (t + 3) b3 34 [encA .i64 d4] [3] from hf _ (List.mem_of_getElem? (i := 0) rfl) (by kernel_rfl))
            have e3 := (show v3 = .int .i64 (aget d4 ((getI l1 x4).f3)) from hf _ (List.mem_of_getElem? (i := 5) rfl) (by kernel_rfl))
            subst e3
            have e4 := (show v4 = .int .i64 ((getI l1 x4).f2) from hf _ (List.mem_of_getElem? (i := 6) rfl) (by kernel_rfl))
            subst e4
            have e5 := (show v5 = .pointer (some ⟨b3, 0 + ((getI l1 x4).f3).toNat * 1, none⟩) from hf _ (List.mem_of_getElem? (i := 7) rfl) (by kernel_rfl))
            subst e5
            refine WP.storeE (ty := 3) (o := 0) (m := 3) (k := .i64) (d := d4) (i := (getI l1 x4).f3) (x := (IntKind.i64.wrap ((aget d4 ((getI l1 x4).f3)) + ((getI l1 x4).f2)))) hB4 (by kernel_rfl) hc12 (by kernel_rfl) (by kernel_rfl) [encA .i64 (aset d4 ((getI l1 x4).f3) (IntKind.i64.wrap ((aget d4 ((getI l1 x4).f3)) + ((getI l1 x4).f2))))] (by kernel_rfl) ?_
            intro g23 st23 hB22
            refine WP.done (by kernel_rfl) (Shown.ok (v := undef) (by kernel_rfl) st23 ?_)
            exact ⟨trivial, trivial, trivial, trivial, trivial, trivial, trivial, trivial, hB22, trivial⟩
        intro vs g24 st24 hl hf
        obtain ⟨v0, v1, v2, v3, v4, v5, v6, rfl⟩ := len_k7 hl
        have hB4 := (show Box g24 (t + 3) b3 34 [encA .i64 (aset d4 ((getI l1 x4).f3) (IntKind.i64.wrap ((aget d4 ((getI l1 x4).f3)) + ((getI l1 x4).f2))))] [3] from hf _ (List.mem_of_getElem? (i := 8) rfl) (by kernel_rfl))
        replace hB1 := hB1.mono st24 (WL.no1 (by omega))
        replace hR1 := hR1.mono st24 (WL.no1 (by omega))
        replace hB2 := hB2.mono st24 (WL.no1 (by omega))
        replace tot := tot.trans (st24.up1 (.inr (by omega)))
        refine NX.block_n ?_
        refine NX.post ?_
        exact ⟨(aset d4 ((getI l1 x4).f3) (IntKind.i64.wrap ((aget d4 ((getI l1 x4).f3)) + ((getI l1 x4).f2)))), ⟨by kernel_rfl, by kernel_rfl⟩, tot, hB1, hR1, hB2, hB4, hs⟩
      replace hs := of_if_f hs h8
      refine CP.region ?_
      refine WP.still 1 (by kernel_rfl) ?_
      refine WP.loadE (ty := 3) (o := 0) (m := 3) (k := .i64) (d := d4) (i := 2) hB4 (by kernel_rfl) (by decide) (by kernel_rfl) (by kernel_rfl) ?_
      refine WP.still 1 (by kernel_rfl) ?_
      refine WP.loadB (v := .int .i64 ((getI l1 x4).f2)) hB20 (by kernel_rfl) (by kernel_rfl) ?_
      refine WP.still 2 (by kernel_rfl) ?_
      refine WP.storeE (ty := 3) (o := 0) (m := 3) (k := .i64) (d := d4) (i := 2) (x := (IntKind.i64.wrap ((aget d4 2) + ((getI l1 x4).f2)))) hB4 (by kernel_rfl) (by decide) (by kernel_rfl) (by kernel_rfl) [encA .i64 (aset d4 2 (IntKind.i64.wrap ((aget d4 2) + ((getI l1 x4).f2))))] (by kernel_rfl) ?_
      intro g25 st25 hB23
      replace hB1 := hB1.mono st25 (WL.no1 (by omega))
      replace hR1 := hR1.mono st25 (WL.no1 (by omega))
      replace hB2 := hB2.mono st25 (WL.no1 (by omega))
      replace hB20 := hB20.mono st25 (WL.no1 (by omega))
      replace tot := tot.trans (st25.up1 (.inr (by omega)))
      clear hB4
      have hB4 := hB23
      clear hB23
      refine WP.done (by kernel_rfl) ?_
      refine NX.block_n ?_
      refine NX.post ?_
      exact ⟨(aset d4 2 (IntKind.i64.wrap ((aget d4 2) + ((getI l1 x4).f2)))), ⟨by kernel_rfl, by kernel_rfl⟩, tot, hB1, hR1, hB2, hB4, hs⟩
    clear tot hs hB1 hR1 hB2 hB4
    rintro tm g ⟨d7, hF, tot, hB1, hR1, hB2, hB4, hs⟩
    clear ds
    obtain ⟨ds, rfl⟩ := hF.open
    clear hF
    unfold F.baizeref47_Pays.c1 at hs
    refine CP.region ?_
    refine WP.still 3 (by kernel_rfl) ?_
    refine WP.done (by kernel_rfl) ?_
    refine NX.post ?_
    exact ⟨d7, (IntKind.i64.wrap (x4 + 1)), ⟨by kernel_rfl, by kernel_rfl⟩, tot, hB1, hR1, hB2, hB4, hs⟩
  replace hs := of_if_f hs h6
  refine CP.exit ?_
  refine NX.then_e ?_
  refine NX.then_e ?_
  refine NX.block_s ?_
  refine NX.then_n ?_
  refine CP.seqR ?_
  refine WP.loadB (v := AG [encA .i64 d4]) hB4 (by kernel_rfl) (by kernel_rfl) ?_
  refine WP.storeB (ty := 34) (off := 0) (v := AG [encA .i64 d4]) hB2 [encA .i64 d4] [3] (by kernel_rfl) (by kernel_rfl) (by simp [len_encA]) (by kernel_rfl) [encA .i64 d4] (by kernel_rfl) (.arr .nil) ?_
  intro g26 st26 hB24
  replace hB4 := hB4.mono st26 (WL.no1 (by omega))
  replace tot := tot.trans (st26.up1 (.inr (by omega)))
  clear hB2
  have hB2 := hB24
  clear hB24
  refine WP.done (by kernel_rfl) ?_
  refine NX.then_n ?_
  refine CP.ret ?_
  replace hs := Option.some.inj hs
  obtain rfl := hs
  exact NX.fin (v := AG [encA .i64 d4]) (Res.one rfl (RV.box (agg := true) (size := 3) (rs := [encA .i64 d4]) hB2 (by kernel_rfl) (by kernel_rfl) (by kernel_rfl) (by kernel_rfl))) tot htL rfl
def N.slices_Equal_purse_Held_purse_Held_0 : List (List Nat) := [[], [], [0, 1], [0, 1, 2], [], [], [4, 5], [4, 5, 6], [0, 1, 2, 3, 4, 5, 6, 7]]
def F.slices_Equal_purse_Held_purse_Held.l1 (l1 : List S_purse_Held) (l2 : List S_purse_Held) : Nat → Int → Option (Bool)
  | 0, _ => none
  | k + 1, x1 => (if decide (x1 < (l1.length : Int)) = true then (if (0 : Int) ≤ x1 ∧ x1 < (l1.length : Int) then (if (0 : Int) ≤ x1 ∧ x1 < (l2.length : Int) then (if (!((((getI l1 x1).f1).1 == ((getI l2 x1).f1).1) && ((((getI l1 x1).f2) == ((getI l2 x1).f2)) && ((((getI l1 x1).f3) == ((getI l2 x1).f3)) && (((getI l1 x1).f4) == ((getI l2 x1).f4)))))) = true then (some false) else (F.slices_Equal_purse_Held_purse_Held.l1 l1 l2 k (IntKind.i64.wrap (x1 + 1)))) else none) else none) else (some true))
def F.slices_Equal_purse_Held_purse_Held (l1 : List S_purse_Held) (l2 : List S_purse_Held) : Option (Bool) := (if ((l1.length : Int) != (l2.length : Int)) = true then (some false) else (F.slices_Equal_purse_Held_purse_Held.l1 l1 l2 fuel 0))
theorem P.slices_Equal_purse_Held_purse_Held (g0 : GW) (l1 : List S_purse_Held) (l2 : List S_purse_Held) (a1 : Option Addr) (n1 : Nat) (c1 : Nat) (a2 : Option Addr) (n2 : Nat) (c2 : Nat) (hR1 : RdS k_S_purse_Held g0 56 a1 n1 c1 l1) (hR2 : RdS k_S_purse_Held g0 56 a2 n2 c2 l2) (o1 : Bool) (hs : F.slices_Equal_purse_Held_purse_Held l1 l2 = some o1) :
    Calls Try.prog 47 #[.slice a1 n1 c1, .slice a2 n2 c2] g0.w (Ret NoM g0 fun v g => v = .bool o1) := by
  refine calls_of (args := [.slice a1 n1 c1, .slice a2 n2 c2]) Try.func47 rfl (0) ?_
  intro t ht htL
  refine ⟨_, rfl, ?_⟩
  refine CP.refr 26 [(0, .slice a1 n1 c1), (1, .slice a2 n2 c2)] (by kernel_rfl) (by kernel_rfl) ?_
  intro ds
  have tot : Step (fun l => NoM l ∨ t ≤ l) g0 g0 := Step.refl _ _
  unfold F.slices_Equal_purse_Held_purse_Held at hs
  refine CP.seqR ?_
  refine WP.still 1 (by kernel_rfl) ?_
  refine WP.done (by kernel_rfl) ?_
  refine NX.then_n ?_
  refine CP.seq ?_
  refine CP.seqR ?_
  refine WP.still 1 (by kernel_rfl) ?_
  refine WP.len (a := a1) (cp := c1) hR1.len (by kernel_rfl) ?_
  refine WP.still 1 (by kernel_rfl) ?_
  refine WP.len (a := a2) (cp := c2) hR2.len (by kernel_rfl) ?_
  refine WP.still 1 (by kernel_rfl) ?_
  refine WP.done (by kernel_rfl) ?_
  refine NX.then_n ?_
  refine CP.cond (b := ((l1.length : Int) != (l2.length : Int))) (by kernel_rfl) (fun h1 => ?_) (fun h1 => ?_)
  · replace hs := of_if_t hs h1
    refine CP.seqR ?_
    refine WP.still 1 (by kernel_rfl) ?_
    refine WP.done (by kernel_rfl) ?_
    refine NX.then_n ?_
    refine CP.ret ?_
    refine NX.then_r ?_
    replace hs := Option.some.inj hs
    obtain rfl := hs
    exact NX.fin (v := .bool false) (Res.still (by kernel_rfl)) tot htL rfl
  replace hs := of_if_f hs h1
  refine CP.skip ?_
  refine NX.then_n ?_
  refine CP.seq ?_
  refine CP.seqR ?_
  refine WP.still 1 (by kernel_rfl) ?_
  refine WP.len (a := a1) (cp := c1) hR1.len (by kernel_rfl) ?_
  refine WP.still 1 (by kernel_rfl) ?_
  refine WP.done (by kernel_rfl) ?_
  refine NX.then_n ?_
  refine CP.block ?_
  generalize fuel = k1 at hs
  refine CP.loop (fun k1 tm g => ∃ (x1 : Int), Fr 26 [(0, .slice a1 n1 c1), (1, .slice a2 n2 c2), (12, .int .i64 (l1.length : Int)), (13, .int .i64 x1)] tm ∧ Step (fun l => NoM l ∨ t ≤ l) g0 g ∧ RdS k_S_purse_Held g 56 a1 n1 c1 l1 ∧ RdS k_S_purse_Held g 56 a2 n2 c2 l2 ∧ F.slices_Equal_purse_Held_purse_Held.l1 l1 l2 k1 x1 = some o1) k1 ?_ ?_ ?_
  · exact ⟨0, ⟨by kernel_rfl, by kernel_rfl⟩, tot, hR1, hR2, hs⟩
  · rintro tm g ⟨x1, hF, tot, hR1, hR2, hs⟩
    exact absurd hs (by simp [F.slices_Equal_purse_Held_purse_Held.l1])
  clear tot hs hR1 hR2
  rintro k1 tm g ⟨x1, hF, tot, hR1, hR2, hs⟩
  clear ds
  obtain ⟨ds, rfl⟩ := hF.open
  clear hF
  unfold F.slices_Equal_purse_Held_purse_Held.l1 at hs
  refine CP.seqR ?_
  refine WP.still 1 (by kernel_rfl) ?_
  refine WP.done (by kernel_rfl) ?_
  refine NX.then_n ?_
  refine CP.seq ?_
  refine CP.cond (b := decide (x1 < (l1.length : Int))) (by kernel_rfl) (fun h6 => ?_) (fun h6 => ?_)
  · replace hs := of_if_t hs h6
    refine CP.skip ?_
    refine NX.then_n ?_
    refine CP.seq ?_
    refine CP.block ?_
    refine CP.seqR ?_
    refine WP.still 2 (by kernel_rfl) ?_
    refine WP.done (by kernel_rfl) ?_
    refine NX.then_n ?_
    refine CP.seq ?_
    by_cases hc5 : (0 : Int) ≤ x1 ∧ x1 < (l1.length : Int)
    case neg => rw [if_neg hc5] at hs; cases hs
    replace hs := of_if_p hs hc5
    by_cases hc6 : (0 : Int) ≤ x1 ∧ x1 < (l2.length : Int)
    case neg => rw [if_neg hc6] at hs; cases hs
    replace hs := of_if_p hs hc6
    obtain ⟨b5, u5, ha5⟩ := hR1.at hc5
    obtain ⟨b6, u6, ha6⟩ := hR2.at hc6
    refine CP.drawL (by kernel_rfl) [2, 3, 6, 7, 8] N.slices_Equal_purse_Held_purse_Held_0 [⟨none, [], [], fun l g => RdS k_S_purse_Held g 56 a1 n1 c1 l1⟩, ⟨none, [], [], fun l g => RdS k_S_purse_Held g 56 a2 n2 c2 l2⟩, ⟨some 0, [], [0], fun l g => l.getD 0 undef = .pointer (some ⟨b5, u5 + x1.toNat * 11, none⟩)⟩, ⟨some 1, [], [1], fun l g => l.getD 0 undef = AG [encA .u8 ((getI l1 x1).f1), [.int .i64 ((getI l1 x1).f2)], [.int .i64 ((getI l1 x1).f3)], [.int .i64 ((getI l1 x1).f4)]]⟩, ⟨some 2, [], [2], fun l g => l.getD 0 undef = .pointer (some ⟨b6, u6 + x1.toNat * 11, none⟩)⟩, ⟨some 3, [], [3], fun l g => l.getD 0 undef = AG [encA .u8 ((getI l2 x1).f1), [.int .i64 ((getI l2 x1).f2)], [.int .i64 ((getI l2 x1).f3)], [.int .i64 ((getI l2 x1).f4)]]⟩, ⟨some 4, [], [4], fun l g => l.getD 0 undef = .bool (!((((getI l1 x1).f1).1 == ((getI l2 x1).f1).1) && ((((getI l1 x1).f2) == ((getI l2 x1).f2)) && ((((getI l1 x1).f3) == ((getI l2 x1).f3)) && (((getI l1 x1).f4) == ((getI l2 x1).f4))))))⟩] [[], [], [], [], []] [] [0, 1, 4, 5] [] (by kernel_rfl) (by simp) (by simp) ⟨fun _ _ _ _ st h0 hl hj hR1 => (RdS.mono (e := 56) hR1 st h0), fun _ _ _ _ st h0 hl hj hR2 => (RdS.mono (e := 56) hR2 st h0), fun _ _ _ _ st h0 hl hj e0 => e0, fun _ _ _ _ st h0 hl hj e1 => e1, fun _ _ _ _ st h0 hl hj e2 => e2, fun _ _ _ _ st h0 hl hj e3 => e3, fun _ _ _ _ st h0 hl hj e4 => e4, trivial⟩ ⟨hR1, hR2, trivial, trivial, trivial, trivial, trivial, trivial⟩ (by kernel_rfl) (fun vs => by kernel_rfl) ?_ ?_ ?_
    · intro j hj; exact absurd hj (by simp)
    · intro j hj
      have hq : j = 0 ∨ j = 1 ∨ j = 2 ∨ j = 3 ∨ j = 4 := by have h : j < 5 := hj; omega
      rcases hq with rfl | rfl | rfl | rfl | rfl
      · intro vs gq stq hl hf
        obtain ⟨v0, v1, v2, v3, v4, rfl⟩ := len_k5 hl
        have hR1 := (show RdS k_S_purse_Held gq 56 a1 n1 c1 l1 from hf _ (List.mem_of_getElem? (i := 0) rfl) (by kernel_rfl))
        refine WP.indexA (t := 30) (e := 56) (sz := 11) (cap := c1) (k := .i64) (i := x1) hR1.len ha5 (by kernel_rfl) (by kernel_rfl) hc5 ?_
        refine WP.done (by kernel_rfl) (Shown.ok (v := .pointer (some ⟨b5, u5 + x1.toNat * 11, none⟩)) (by kernel_rfl) (Step.refl _ _) ?_)
        exact ⟨trivial, trivial, rfl, trivial, trivial, trivial, trivial, trivial⟩
      · intro vs gq stq hl hf
        obtain ⟨v0, v1, v2, v3, v4, rfl⟩ := len_k5 hl
        have hR1 := (show RdS k_S_purse_Held gq 56 a1 n1 c1 l1 from hf _ (List.mem_of_getElem? (i := 0) rfl) (by kernel_rfl))
        have e0 := (show v0 = .pointer (some ⟨b5, u5 + x1.toNat * 11, none⟩) from hf _ (List.mem_of_getElem? (i := 2) rfl) (by kernel_rfl))
        subst e0
        obtain ⟨cs5, hcR5, hcV5⟩ := hR1.src.view (getI_some hc5) ha5
        replace hcR5 := k_S_purse_Held.opn hcR5
        refine WP.loadV [encA .u8 ((getI l1 x1).f1), [.int .i64 ((getI l1 x1).f2)], [.int .i64 ((getI l1 x1).f3)], [.int .i64 ((getI l1 x1).f4)]] [8, 1, 1, 1] hcV5 hcR5 (by simp [len_encA]) (f := 0) (ty := 56) (agg := true) (size := 11) (rs := [encA .u8 ((getI l1 x1).f1), [.int .i64 ((getI l1 x1).f2)], [.int .i64 ((getI l1 x1).f3)], [.int .i64 ((getI l1 x1).f4)]]) (v := AG [encA .u8 ((getI l1 x1).f1), [.int .i64 ((getI l1 x1).f2)], [.int .i64 ((getI l1 x1).f3)], [.int .i64 ((getI l1 x1).f4)]]) (by kernel_rfl) (by kernel_rfl) (by kernel_rfl) (by kernel_rfl) ?_
        refine WP.done (by kernel_rfl) (Shown.ok (v := AG [encA .u8 ((getI l1 x1).f1), [.int .i64 ((getI l1 x1).f2)], [.int .i64 ((getI l1 x1).f3)], [.int .i64 ((getI l1 x1).f4)]]) (by kernel_rfl) (Step.refl _ _) ?_)
        exact ⟨trivial, trivial, trivial, rfl, trivial, trivial, trivial, trivial⟩
      · intro vs gq stq hl hf
        obtain ⟨v0, v1, v2, v3, v4, rfl⟩ := len_k5 hl
        have hR2 := (show RdS k_S_purse_Held gq 56 a2 n2 c2 l2 from hf _ (List.mem_of_getElem? (i := 1) rfl) (by kernel_rfl))
        refine WP.indexA (t := 30) (e := 56) (sz := 11) (cap := c2) (k := .i64) (i := x1) hR2.len ha6 (by kernel_rfl) (by kernel_rfl) hc6 ?_
        refine WP.done (by kernel_rfl) (Shown.ok (v := .pointer (some ⟨b6, u6 + x1.toNat * 11, none⟩)) (by kernel_rfl) (Step.refl _ _) ?_)
        exact ⟨trivial, trivial, trivial, trivial, rfl, trivial, trivial, trivial⟩
      · intro vs gq stq hl hf
        obtain ⟨v0, v1, v2, v3, v4, rfl⟩ := len_k5 hl
        have hR2 := (show RdS k_S_purse_Held gq 56 a2 n2 c2 l2 from hf _ (List.mem_of_getElem? (i := 1) rfl) (by kernel_rfl))
        have e2 := (show v2 = .pointer (some ⟨b6, u6 + x1.toNat * 11, none⟩) from hf _ (List.mem_of_getElem? (i := 4) rfl) (by kernel_rfl))
        subst e2
        obtain ⟨cs6, hcR6, hcV6⟩ := hR2.src.view (getI_some hc6) ha6
        replace hcR6 := k_S_purse_Held.opn hcR6
        refine WP.loadV [encA .u8 ((getI l2 x1).f1), [.int .i64 ((getI l2 x1).f2)], [.int .i64 ((getI l2 x1).f3)], [.int .i64 ((getI l2 x1).f4)]] [8, 1, 1, 1] hcV6 hcR6 (by simp [len_encA]) (f := 0) (ty := 56) (agg := true) (size := 11) (rs := [encA .u8 ((getI l2 x1).f1), [.int .i64 ((getI l2 x1).f2)], [.int .i64 ((getI l2 x1).f3)], [.int .i64 ((getI l2 x1).f4)]]) (v := AG [encA .u8 ((getI l2 x1).f1), [.int .i64 ((getI l2 x1).f2)], [.int .i64 ((getI l2 x1).f3)], [.int .i64 ((getI l2 x1).f4)]]) (by kernel_rfl) (by kernel_rfl) (by kernel_rfl) (by kernel_rfl) ?_
        refine WP.done (by kernel_rfl) (Shown.ok (v := AG [encA .u8 ((getI l2 x1).f1), [.int .i64 ((getI l2 x1).f2)], [.int .i64 ((getI l2 x1).f3)], [.int .i64 ((getI l2 x1).f4)]]) (by kernel_rfl) (Step.refl _ _) ?_)
        exact ⟨trivial, trivial, trivial, trivial, trivial, rfl, trivial, trivial⟩
      · intro vs gq stq hl hf
        obtain ⟨v0, v1, v2, v3, v4, rfl⟩ := len_k5 hl
        have e1 := (show v1 = AG [encA .u8 ((getI l1 x1).f1), [.int .i64 ((getI l1 x1).f2)], [.int .i64 ((getI l1 x1).f3)], [.int .i64 ((getI l1 x1).f4)]] from hf _ (List.mem_of_getElem? (i := 3) rfl) (by kernel_rfl))
        subst e1
        have e3 := (show v3 = AG [encA .u8 ((getI l2 x1).f1), [.int .i64 ((getI l2 x1).f2)], [.int .i64 ((getI l2 x1).f3)], [.int .i64 ((getI l2 x1).f4)]] from hf _ (List.mem_of_getElem? (i := 5) rfl) (by kernel_rfl))
        subst e3
        refine WP.neV (by kernel_rfl) (by kernel_rfl) (EqV.struct (d := 9999) (t := 56) (xs := [encA .u8 ((getI l1 x1).f1), [.int .i64 ((getI l1 x1).f2)], [.int .i64 ((getI l1 x1).f3)], [.int .i64 ((getI l1 x1).f4)]]) (ys := [encA .u8 ((getI l2 x1).f1), [.int .i64 ((getI l2 x1).f2)], [.int .i64 ((getI l2 x1).f3)], [.int .i64 ((getI l2 x1).f4)]]) (by kernel_rfl) (by kernel_rfl) (EqFi.cons (ns := [8, 1, 1, 1]) (ms := [8, 1, 1, 1]) (t' := 29) (x := AG [encA .u8 ((getI l1 x1).f1)]) (y := AG [encA .u8 ((getI l2 x1).f1)]) (by simp [len_encA]) (by simp [len_encA]) (by kernel_rfl) (by kernel_rfl) (EqV.arr (d := 9997) (t := 29) (e := 5) (m := 8) (k := .u8) (x := (getI l1 x1).f1) (y := (getI l2 x1).f1) (by kernel_rfl) (by kernel_rfl)) (EqFi.cons (ns := [8, 1, 1, 1]) (ms := [8, 1, 1, 1]) (t' := 3) (x := .int .i64 ((getI l1 x1).f2)) (y := .int .i64 ((getI l2 x1).f2)) (by simp [len_encA]) (by simp [len_encA]) (by kernel_rfl) (by kernel_rfl) (EqV.int (d := 9998) (k' := .i64) (by kernel_rfl)) (EqFi.cons (ns := [8, 1, 1, 1]) (ms := [8, 1, 1, 1]) (t' := 3) (x := .int .i64 ((getI l1 x1).f3)) (y := .int .i64 ((getI l2 x1).f3)) (by simp [len_encA]) (by simp [len_encA]) (by kernel_rfl) (by kernel_rfl) (EqV.int (d := 9998) (k' := .i64) (by kernel_rfl)) (EqFi.one (ns := [8, 1, 1, 1]) (ms := [8, 1, 1, 1]) (t' := 3) (x := .int .i64 ((getI l1 x1).f4)) (y := .int .i64 ((getI l2 x1).f4)) (by simp [len_encA]) (by simp [len_encA]) (by kernel_rfl) (by kernel_rfl) (EqV.int (d := 9998) (k' := .i64) (by kernel_rfl)) (Nat.le_of_ble_eq_true rfl)))))) ?_
        refine WP.done (by kernel_rfl) (Shown.ok (v := .bool (!((((getI l1 x1).f1).1 == ((getI l2 x1).f1).1) && ((((getI l1 x1).f2) == ((getI l2 x1).f2)) && ((((getI l1 x1).f3) == ((getI l2 x1).f3)) && (((getI l1 x1).f4) == ((getI l2 x1).f4))))))) (by kernel_rfl) (Step.refl _ _) ?_)
        exact ⟨trivial, trivial, trivial, trivial, trivial, trivial, rfl, trivial⟩
    intro vs g1 st1 hl hf
    obtain ⟨v0, v1, v2, v3, v4, rfl⟩ := len_k5 hl
    have e4 := (show v4 = .bool (!((((getI l1 x1).f1).1 == ((getI l2 x1).f1).1) && ((((getI l1 x1).f2) == ((getI l2 x1).f2)) && ((((getI l1 x1).f3) == ((getI l2 x1).f3)) && (((getI l1 x1).f4) == ((getI l2 x1).f4)))))) from hf _ (List.mem_of_getElem? (i := 6) rfl) (by kernel_rfl))
    subst e4
    replace hR1 := hR1.mono st1.toNo (fun x => x)
    replace hR2 := hR2.mono st1.toNo (fun x => x)
    replace tot := tot.trans st1.toNo.pure
    refine NX.then_n ?_
    refine CP.refr 26 [(0, .slice a1 n1 c1), (1, .slice a2 n2 c2), (12, .int .i64 (l1.length : Int)), (13, .int .i64 x1), (24, .bool (!((((getI l1 x1).f1).1 == ((getI l2 x1).f1).1) && ((((getI l1 x1).f2) == ((getI l2 x1).f2)) && ((((getI l1 x1).f3) == ((getI l2 x1).f3)) && (((getI l1 x1).f4) == ((getI l2 x1).f4)))))))] (by kernel_rfl) (by kernel_rfl) ?_
    clear ds
    intro ds
    refine CP.cond (b := (!((((getI l1 x1).f1).1 == ((getI l2 x1).f1).1) && ((((getI l1 x1).f2) == ((getI l2 x1).f2)) && ((((getI l1 x1).f3) == ((getI l2 x1).f3)) && (((getI l1 x1).f4) == ((getI l2 x1).f4))))))) (by kernel_rfl) (fun h7 => ?_) (fun h7 => ?_)
    · replace hs := of_if_t hs h7
      refine CP.seqR ?_
      refine WP.still 1 (by kernel_rfl) ?_
      refine WP.done (by kernel_rfl) ?_
      refine NX.then_n ?_
      refine CP.ret ?_
      refine NX.block_r ?_
      refine NX.then_r ?_
      refine NX.then_r ?_
      refine NX.block_r ?_
      refine NX.then_r ?_
      replace hs := Option.some.inj hs
      obtain rfl := hs
      exact NX.fin (v := .bool false) (Res.still (by kernel_rfl)) tot htL rfl
    replace hs := of_if_f hs h7
    refine CP.skip ?_
    refine NX.block_n ?_
    refine NX.then_n ?_
    refine CP.region ?_
    refine WP.still 2 (by kernel_rfl) ?_
    refine WP.done (by kernel_rfl) ?_
    refine NX.post ?_
    exact ⟨(IntKind.i64.wrap (x1 + 1)), ⟨by kernel_rfl, by kernel_rfl⟩, tot, hR1, hR2, hs⟩
  replace hs := of_if_f hs h6
  refine CP.exit ?_
  refine NX.then_e ?_
  refine NX.then_e ?_
  refine NX.block_s ?_
  refine NX.then_n ?_
  refine CP.seqR ?_
  refine WP.still 1 (by kernel_rfl) ?_
  refine WP.done (by kernel_rfl) ?_
  refine NX.then_n ?_
  refine CP.ret ?_
  replace hs := Option.some.inj hs
  obtain rfl := hs
  exact NX.fin (v := .bool true) (Res.still (by kernel_rfl)) tot htL rfl
def F.purse_Same.c1 (q2 : Bool) : Option (Bool) := (some q2)
def F.purse_Same (d1 : Arr Int 8) (x1 : Int) (d2 : Arr Int 2) (l1 : List S_purse_Held) (d3 : Arr Int 8) (x2 : Int) (d4 : Arr Int 2) (l2 : List S_purse_Held) : Option (Bool) := (if (d1.1 == d3.1) = true then (if (x1 == x2) = true then (if (d2.1 == d4.1) = true then ((F.slices_Equal_purse_Held_purse_Held l1 l2).bind fun q3 => (F.purse_Same.c1 q3)) else (F.purse_Same.c1 false)) else (F.purse_Same.c1 false)) else (F.purse_Same.c1 false))
theorem P.purse_Same (g0 : GW) (d1 : Arr Int 8) (x1 : Int) (d2 : Arr Int 2) (l1 : List S_purse_Held) (d3 : Arr Int 8) (x2 : Int) (d4 : Arr Int 2) (l2 : List S_purse_Held) (a1 : Option Addr) (n1 : Nat) (c1 : Nat) (a2 : Option Addr) (n2 : Nat) (c2 : Nat) (hR1 : RdS k_S_purse_Held g0 56 a1 n1 c1 l1) (hR2 : RdS k_S_purse_Held g0 56 a2 n2 c2 l2) (o1 : Bool) (hs : F.purse_Same d1 x1 d2 l1 d3 x2 d4 l2 = some o1) :
    Calls Try.prog 20 #[AG [encA .u8 d1, [.int .i64 x1], encA .i64 d2, [.slice a1 n1 c1]], AG [encA .u8 d3, [.int .i64 x2], encA .i64 d4, [.slice a2 n2 c2]]] g0.w (Ret NoM g0 fun v g => v = .bool o1) := by
  refine calls_of (args := [AG [encA .u8 d1, [.int .i64 x1], encA .i64 d2, [.slice a1 n1 c1]], AG [encA .u8 d3, [.int .i64 x2], encA .i64 d4, [.slice a2 n2 c2]]]) Try.func20 rfl (0) ?_
  intro t ht htL
  refine ⟨_, rfl, ?_⟩
  refine CP.refr 31 [(0, AG [encA .u8 d1, [.int .i64 x1], encA .i64 d2, [.slice a1 n1 c1]]), (1, AG [encA .u8 d3, [.int .i64 x2], encA .i64 d4, [.slice a2 n2 c2]])] (by kernel_rfl) (by kernel_rfl) ?_
  intro ds
  have tot : Step (fun l => NoM l ∨ t ≤ l) g0 g0 := Step.refl _ _
  unfold F.purse_Same at hs
  refine CP.seqR ?_
  refine WP.alloc (T := 32) (t + 1) [encA .u8 d1, [.int .i64 x1], encA .i64 d2, [.slice a1 n1 c1]] [8, 1, 2, 1] (by kernel_rfl) (by simp [len_encA]) ?_
  intro g1 b1 st1 hB1
  replace hR1 := hR1.mono st1 (fun x => x)
  replace hR2 := hR2.mono st1 (fun x => x)
  replace tot := tot.trans st1.pure
  refine WP.alloc (T := 32) (t + 2) [encA .u8 d3, [.int .i64 x2], encA .i64 d4, [.slice a2 n2 c2]] [8, 1, 2, 1] (by kernel_rfl) (by simp [len_encA]) ?_
  intro g2 b2 st2 hB2
  replace hR1 := hR1.mono st2 (fun x => x)
  replace hR2 := hR2.mono st2 (fun x => x)
  replace hB1 := hB1.mono st2 (fun x => x)
  replace tot := tot.trans st2.pure
  refine WP.still 1 (by kernel_rfl) ?_
  refine WP.done (by kernel_rfl) ?_
  refine NX.then_n ?_
  refine CP.cut (fun tm g => ∃ (q2 : Bool), Fr 31 [(4, .bool q2)] tm ∧ Step (fun l => NoM l ∨ t ≤ l) g0 g ∧ (F.purse_Same.c1 q2) = some o1) ?_ ?_
  · refine CP.region ?_
    refine WP.still 1 (by kernel_rfl) ?_
    refine WP.loadB (v := AG [encA .u8 d1]) hB1 (by kernel_rfl) (by kernel_rfl) ?_
    refine WP.still 1 (by kernel_rfl) ?_
    refine WP.loadB (v := AG [encA .u8 d3]) hB2 (by kernel_rfl) (by kernel_rfl) ?_
    refine WP.eqV (by kernel_rfl) (by kernel_rfl) (EqV.arr (d := 9998) (t := 29) (e := 5) (m := 8) (k := .u8) (x := d1) (y := d3) (by kernel_rfl) (by kernel_rfl)) ?_
    refine WP.still 1 (by kernel_rfl) ?_
    refine WP.guard 10 (b := (d1.1 == d3.1)) (by kernel_rfl) (fun h4 => ?_) (fun h4 => ?_)
    · replace hs := of_if_t hs h4
      refine WP.still 1 (by kernel_rfl) ?_
      refine WP.loadB (v := .int .i64 x1) hB1 (by kernel_rfl) (by kernel_rfl) ?_
      refine WP.still 1 (by kernel_rfl) ?_
      refine WP.loadB (v := .int .i64 x2) hB2 (by kernel_rfl) (by kernel_rfl) ?_
      refine WP.still 3 (by kernel_rfl) ?_
      refine WP.guard 17 (b := (x1 == x2)) (by kernel_rfl) (fun h5 => ?_) (fun h5 => ?_)
      · replace hs := of_if_t hs h5
        refine WP.still 1 (by kernel_rfl) ?_
        refine WP.loadB (v := AG [encA .i64 d2]) hB1 (by kernel_rfl) (by kernel_rfl) ?_
        refine WP.still 1 (by kernel_rfl) ?_
        refine WP.loadB (v := AG [encA .i64 d4]) hB2 (by kernel_rfl) (by kernel_rfl) ?_
        refine WP.eqV (by kernel_rfl) (by kernel_rfl) (EqV.arr (d := 9998) (t := 23) (e := 3) (m := 2) (k := .i64) (x := d2) (y := d4) (by kernel_rfl) (by kernel_rfl)) ?_
        refine WP.still 2 (by kernel_rfl) ?_
        refine WP.guard 24 (b := (d2.1 == d4.1)) (by kernel_rfl) (fun h6 => ?_) (fun h6 => ?_)
        · replace hs := of_if_t hs h6
          refine WP.still 1 (by kernel_rfl) ?_
          refine WP.loadB (v := .slice a1 n1 c1) hB1 (by kernel_rfl) (by kernel_rfl) ?_
          refine WP.still 1 (by kernel_rfl) ?_
          refine WP.loadB (v := .slice a2 n2 c2) hB2 (by kernel_rfl) (by kernel_rfl) ?_
          replace hs := Option.bind_eq_some_iff.1 hs
          obtain ⟨q3, hk2, hs⟩ := hs
          have hcal2 := P.slices_Equal_purse_Held_purse_Held g2 l1 l2 a1 n1 c1 a2 n2 c2 hR1 hR2 q3 hk2
          refine WP.callC hcal2 (by kernel_rfl) ?_
          rintro _ g4 st4 rfl
          replace hB1 := hB1.mono st4 (fun x => x)
          replace hR1 := hR1.mono st4 (fun x => x)
          replace hB2 := hB2.mono st4 (fun x => x)
          replace hR2 := hR2.mono st4 (fun x => x)
          replace tot := tot.trans st4.pure
          refine WP.still 2 (by kernel_rfl) ?_
          refine WP.done (by kernel_rfl) ?_
          refine NX.post ?_
          exact ⟨q3, ⟨by kernel_rfl, by kernel_rfl⟩, tot, hs⟩
        replace hs := of_if_f hs h6
        refine WP.still 7 (by kernel_rfl) ?_
        refine WP.done (by kernel_rfl) ?_
        refine NX.post ?_
        exact ⟨false, ⟨by kernel_rfl, by kernel_rfl⟩, tot, hs⟩
      replace hs := of_if_f hs h5
      refine WP.still 14 (by kernel_rfl) ?_
      refine WP.done (by kernel_rfl) ?_
      refine NX.post ?_
      exact ⟨false, ⟨by kernel_rfl, by kernel_rfl⟩, tot, hs⟩
    replace hs := of_if_f hs h4
    refine WP.still 21 (by kernel_rfl) ?_
    refine WP.done (by kernel_rfl) ?_
    refine NX.post ?_
    exact ⟨false, ⟨by kernel_rfl, by kernel_rfl⟩, tot, hs⟩
  clear tot hs hB1 hR1 hB2 hR2
  rintro tm g ⟨q2, hF, tot, hs⟩
  clear ds
  obtain ⟨ds, rfl⟩ := hF.open
  clear hF
  unfold F.purse_Same.c1 at hs
  refine CP.ret ?_
  replace hs := Option.some.inj hs
  obtain rfl := hs
  exact NX.fin (v := .bool q2) (Res.still (by kernel_rfl)) tot htL rfl
def N.baizeref47_Same_0 : List (List Nat) := [[], [0], [], [0, 1, 2], [0, 1, 2, 3], [], [5], [], [5, 6, 7], [5, 6, 7, 8], [0, 1, 2, 3, 4, 5, 6, 7, 8, 9]]
def F.baizeref47_Same.l1 (l1 : List S_baizeref47_Held) (l2 : List S_baizeref47_Held) : Nat → Int → Option (Bool)
  | 0, _ => none
  | k + 1, x3 => (if decide (x3 < (l1.length : Int)) = true then (if (0 : Int) ≤ x3 ∧ x3 < (l1.length : Int) then (if (0 : Int) ≤ x3 ∧ x3 < (l2.length : Int) then (if (!((((getI l1 x3).f1).1 == ((getI l2 x3).f1).1) && ((((getI l1 x3).f2) == ((getI l2 x3).f2)) && ((((getI l1 x3).f3) == ((getI l2 x3).f3)) && (((getI l1 x3).f4) == ((getI l2 x3).f4)))))) = true then (some false) else (F.baizeref47_Same.l1 l1 l2 k (IntKind.i64.wrap (x3 + 1)))) else none) else none) else (some true))
def F.baizeref47_Same.c1 (l1 : List S_baizeref47_Held) (l2 : List S_baizeref47_Held) (q1 : Bool) : Option (Bool) := (if q1 = true then (some false) else (F.baizeref47_Same.l1 l1 l2 fuel 0))
def F.baizeref47_Same (d1 : Arr Int 8) (x1 : Int) (d2 : Arr Int 2) (l1 : List S_baizeref47_Held) (d3 : Arr Int 8) (x2 : Int) (d4 : Arr Int 2) (l2 : List S_baizeref47_Held) : Option (Bool) := (if (!(d1.1 == d3.1)) = true then (F.baizeref47_Same.c1 l1 l2 true) else (if (x1 != x2) = true then (F.baizeref47_Same.c1 l1 l2 true) else (if (!(d2.1 == d4.1)) = true then (F.baizeref47_Same.c1 l1 l2 true) else (F.baizeref47_Same.c1 l1 l2 ((l1.length : Int) != (l2.length : Int))))))
theorem P.baizeref47_Same (g0 : GW) (d1 : Arr Int 8) (x1 : Int) (d2 : Arr Int 2) (l1 : List S_baizeref47_Held) (d3 : Arr Int 8) (x2 : Int) (d4 : Arr Int 2) (l2 : List S_baizeref47_Held) (a1 : Option Addr) (n1 : Nat) (c1 : Nat) (a2 : Option Addr) (n2 : Nat) (c2 : Nat) (hR1 : RdS k_S_baizeref47_Held g0 60 a1 n1 c1 l1) (hR2 : RdS k_S_baizeref47_Held g0 60 a2 n2 c2 l2) (o1 : Bool) (hs : F.baizeref47_Same d1 x1 d2 l1 d3 x2 d4 l2 = some o1) :
    Calls Try.prog 18 #[AG [encA .u8 d1, [.int .i64 x1], encA .i64 d2, [.slice a1 n1 c1]], AG [encA .u8 d3, [.int .i64 x2], encA .i64 d4, [.slice a2 n2 c2]]] g0.w (Ret NoM g0 fun v g => v = .bool o1) := by
  refine calls_of (args := [AG [encA .u8 d1, [.int .i64 x1], encA .i64 d2, [.slice a1 n1 c1]], AG [encA .u8 d3, [.int .i64 x2], encA .i64 d4, [.slice a2 n2 c2]]]) Try.func18 rfl (0) ?_
  intro t ht htL
  refine ⟨_, rfl, ?_⟩
  refine CP.refr 52 [(0, AG [encA .u8 d1, [.int .i64 x1], encA .i64 d2, [.slice a1 n1 c1]]), (1, AG [encA .u8 d3, [.int .i64 x2], encA .i64 d4, [.slice a2 n2 c2]])] (by kernel_rfl) (by kernel_rfl) ?_
  intro ds
  have tot : Step (fun l => NoM l ∨ t ≤ l) g0 g0 := Step.refl _ _
  unfold F.baizeref47_Same at hs
  refine CP.seqR ?_
  refine WP.alloc (T := 26) (t + 1) [encA .u8 d1, [.int .i64 x1], encA .i64 d2, [.slice a1 n1 c1]] [8, 1, 2, 1] (by kernel_rfl) (by simp [len_encA]) ?_
  intro g1 b1 st1 hB1
  replace hR1 := hR1.mono st1 (fun x => x)
  replace hR2 := hR2.mono st1 (fun x => x)
  replace tot := tot.trans st1.pure
  refine WP.alloc (T := 26) (t + 2) [encA .u8 d3, [.int .i64 x2], encA .i64 d4, [.slice a2 n2 c2]] [8, 1, 2, 1] (by kernel_rfl) (by simp [len_encA]) ?_
  intro g2 b2 st2 hB2
  replace hR1 := hR1.mono st2 (fun x => x)
  replace hR2 := hR2.mono st2 (fun x => x)
  replace hB1 := hB1.mono st2 (fun x => x)
  replace tot := tot.trans st2.pure
  refine WP.still 1 (by kernel_rfl) ?_
  refine WP.done (by kernel_rfl) ?_
  refine NX.then_n ?_
  refine CP.seq ?_
  refine CP.cut (fun tm g => ∃ (q1 : Bool), Fr 52 [(2, .pointer (some ⟨b1, 0, none⟩)), (3, .pointer (some ⟨b2, 0, none⟩)), (33, .bool q1)] tm ∧ Step (fun l => NoM l ∨ t ≤ l) g0 g ∧ Box g (t + 1) b1 26 [encA .u8 d1, [.int .i64 x1], encA .i64 d2, [.slice a1 n1 c1]] [8, 1, 2, 1] ∧ RdS k_S_baizeref47_Held g 60 a1 n1 c1 l1 ∧ Box g (t + 2) b2 26 [encA .u8 d3, [.int .i64 x2], encA .i64 d4, [.slice a2 n2 c2]] [8, 1, 2, 1] ∧ RdS k_S_baizeref47_Held g 60 a2 n2 c2 l2 ∧ (F.baizeref47_Same.c1 l1 l2 q1) = some o1) ?_ ?_
  · refine CP.region ?_
    refine WP.still 1 (by kernel_rfl) ?_
    refine WP.loadB (v := AG [encA .u8 d1]) hB1 (by kernel_rfl) (by kernel_rfl) ?_
    refine WP.still 1 (by kernel_rfl) ?_
    refine WP.loadB (v := AG [encA .u8 d3]) hB2 (by kernel_rfl) (by kernel_rfl) ?_
    refine WP.neV (by kernel_rfl) (by kernel_rfl) (EqV.arr (d := 9998) (t := 22) (e := 5) (m := 8) (k := .u8) (x := d1) (y := d3) (by kernel_rfl) (by kernel_rfl)) ?_
    refine WP.still 1 (by kernel_rfl) ?_
    refine WP.guard 11 (b := (!(d1.1 == d3.1))) (by kernel_rfl) (fun h11 => ?_) (fun h11 => ?_)
    · replace hs := of_if_t hs h11
      refine WP.still 22 (by kernel_rfl) ?_
      refine WP.done (by kernel_rfl) ?_
      refine NX.post ?_
      exact ⟨true, ⟨by kernel_rfl, by kernel_rfl⟩, tot, hB1, hR1, hB2, hR2, hs⟩
    replace hs := of_if_f hs h11
    refine WP.still 1 (by kernel_rfl) ?_
    refine WP.loadB (v := .int .i64 x1) hB1 (by kernel_rfl) (by kernel_rfl) ?_
    refine WP.still 1 (by kernel_rfl) ?_
    refine WP.loadB (v := .int .i64 x2) hB2 (by kernel_rfl) (by kernel_rfl) ?_
    refine WP.still 3 (by kernel_rfl) ?_
    refine WP.guard 18 (b := (x1 != x2)) (by kernel_rfl) (fun h12 => ?_) (fun h12 => ?_)
    · replace hs := of_if_t hs h12
      refine WP.still 15 (by kernel_rfl) ?_
      refine WP.done (by kernel_rfl) ?_
      refine NX.post ?_
      exact ⟨true, ⟨by kernel_rfl, by kernel_rfl⟩, tot, hB1, hR1, hB2, hR2, hs⟩
    replace hs := of_if_f hs h12
    refine WP.still 1 (by kernel_rfl) ?_
    refine WP.loadB (v := AG [encA .i64 d2]) hB1 (by kernel_rfl) (by kernel_rfl) ?_
    refine WP.still 1 (by kernel_rfl) ?_
    refine WP.loadB (v := AG [encA .i64 d4]) hB2 (by kernel_rfl) (by kernel_rfl) ?_
    refine WP.neV (by kernel_rfl) (by kernel_rfl) (EqV.arr (d := 9998) (t := 23) (e := 3) (m := 2) (k := .i64) (x := d2) (y := d4) (by kernel_rfl) (by kernel_rfl)) ?_
    refine WP.still 2 (by kernel_rfl) ?_
    refine WP.guard 25 (b := (!(d2.1 == d4.1))) (by kernel_rfl) (fun h13 => ?_) (fun h13 => ?_)
    · replace hs := of_if_t hs h13
      refine WP.still 8 (by kernel_rfl) ?_
      refine WP.done (by kernel_rfl) ?_
      refine NX.post ?_
      exact ⟨true, ⟨by kernel_rfl, by kernel_rfl⟩, tot, hB1, hR1, hB2, hR2, hs⟩
    replace hs := of_if_f hs h13
    refine WP.still 1 (by kernel_rfl) ?_
    refine WP.loadB (v := .slice a1 n1 c1) hB1 (by kernel_rfl) (by kernel_rfl) ?_
    refine WP.len (a := a1) (cp := c1) hR1.len (by kernel_rfl) ?_
    refine WP.still 1 (by kernel_rfl) ?_
    refine WP.loadB (v := .slice a2 n2 c2) hB2 (by kernel_rfl) (by kernel_rfl) ?_
    refine WP.len (a := a2) (cp := c2) hR2.len (by kernel_rfl) ?_
    refine WP.still 2 (by kernel_rfl) ?_
    refine WP.done (by kernel_rfl) ?_
    refine NX.post ?_
    exact ⟨((l1.length : Int) != (l2.length : Int)), ⟨by kernel_rfl, by kernel_rfl⟩, tot, hB1, hR1, hB2, hR2, hs⟩
  clear tot hs hB1 hR1 hB2 hR2
  rintro tm g ⟨q1, hF, tot, hB1, hR1, hB2, hR2, hs⟩
  clear ds
  obtain ⟨ds, rfl⟩ := hF.open
  clear hF
  unfold F.baizeref47_Same.c1 at hs
  refine CP.cond (b := q1) (by kernel_rfl) (fun h4 => ?_) (fun h4 => ?_)
  · replace hs := of_if_t hs h4
    refine CP.seqR ?_
    refine WP.still 1 (by kernel_rfl) ?_
    refine WP.done (by kernel_rfl) ?_
    refine NX.then_n ?_
    refine CP.ret ?_
    refine NX.then_r ?_
    replace hs := Option.some.inj hs
    obtain rfl := hs
    exact NX.fin (v := .bool false) (Res.still (by kernel_rfl)) tot htL rfl
  replace hs := of_if_f hs h4
  refine CP.skip ?_
  refine NX.then_n ?_
  refine CP.seq ?_
  refine CP.seqR ?_
  refine WP.still 1 (by kernel_rfl) ?_
  refine WP.done (by kernel_rfl) ?_
  refine NX.then_n ?_
  refine CP.block ?_
  generalize fuel = k1 at hs
  refine CP.loop (fun k1 tm g => ∃ (x3 : Int), Fr 52 [(2, .pointer (some ⟨b1, 0, none⟩)), (3, .pointer (some ⟨b2, 0, none⟩)), (5, .int .i64 x3)] tm ∧ Step (fun l => NoM l ∨ t ≤ l) g0 g ∧ Box g (t + 1) b1 26 [encA .u8 d1, [.int .i64 x1], encA .i64 d2, [.slice a1 n1 c1]] [8, 1, 2, 1] ∧ RdS k_S_baizeref47_Held g 60 a1 n1 c1 l1 ∧ Box g (t + 2) b2 26 [encA .u8 d3, [.int .i64 x2], encA .i64 d4, [.slice a2 n2 c2]] [8, 1, 2, 1] ∧ RdS k_S_baizeref47_Held g 60 a2 n2 c2 l2 ∧ F.baizeref47_Same.l1 l1 l2 k1 x3 = some o1) k1 ?_ ?_ ?_
  · exact ⟨0, ⟨by kernel_rfl, by kernel_rfl⟩, tot, hB1, hR1, hB2, hR2, hs⟩
  · rintro tm g ⟨x3, hF, tot, hB1, hR1, hB2, hR2, hs⟩
    exact absurd hs (by simp [F.baizeref47_Same.l1])
  clear tot hs hB1 hR1 hB2 hR2
  rintro k1 tm g ⟨x3, hF, tot, hB1, hR1, hB2, hR2, hs⟩
  clear ds
  obtain ⟨ds, rfl⟩ := hF.open
  clear hF
  unfold F.baizeref47_Same.l1 at hs
  refine CP.seq ?_
  refine CP.seqR ?_
  refine WP.still 2 (by kernel_rfl) ?_
  refine WP.loadB (v := .slice a1 n1 c1) hB1 (by kernel_rfl) (by kernel_rfl) ?_
  refine WP.len (a := a1) (cp := c1) hR1.len (by kernel_rfl) ?_
  refine WP.still 1 (by kernel_rfl) ?_
  refine WP.done (by kernel_rfl) ?_
  refine NX.then_n ?_
  refine CP.cond (b := decide (x3 < (l1.length : Int))) (by kernel_rfl) (fun h9 => ?_) (fun h9 => ?_)
  · replace hs := of_if_t hs h9
    refine CP.skip ?_
    refine NX.then_n ?_
    refine CP.seq ?_
    refine CP.block ?_
    refine CP.seq ?_
    by_cases hc5 : (0 : Int) ≤ x3 ∧ x3 < (l1.length : Int)
    case neg => rw [if_neg hc5] at hs; cases hs
    replace hs := of_if_p hs hc5
    by_cases hc6 : (0 : Int) ≤ x3 ∧ x3 < (l2.length : Int)
    case neg => rw [if_neg hc6] at hs; cases hs
    replace hs := of_if_p hs hc6
    obtain ⟨b7, u5, ha5⟩ := hR1.at hc5
    obtain ⟨b8, u6, ha6⟩ := hR2.at hc6
    refine CP.drawL (by kernel_rfl) [1, 3, 4, 6, 8, 9, 10] N.baizeref47_Same_0 [⟨none, [], [], fun l g => Box g (t + 1) b1 26 [encA .u8 d1, [.int .i64 x1], encA .i64 d2, [.slice a1 n1 c1]] [8, 1, 2, 1]⟩, ⟨none, [], [], fun l g => RdS k_S_baizeref47_Held g 60 a1 n1 c1 l1⟩, ⟨none, [], [], fun l g => Box g (t + 2) b2 26 [encA .u8 d3, [.int .i64 x2], encA .i64 d4, [.slice a2 n2 c2]] [8, 1, 2, 1]⟩, ⟨none, [], [], fun l g => RdS k_S_baizeref47_Held g 60 a2 n2 c2 l2⟩, ⟨some 0, [], [0], fun l g => l.getD 0 undef = .slice a1 n1 c1⟩, ⟨some 1, [], [1], fun l g => l.getD 0 undef = .pointer (some ⟨b7, u5 + x3.toNat * 11, none⟩)⟩, ⟨some 2, [], [2], fun l g => l.getD 0 undef = AG [encA .u8 ((getI l1 x3).f1), [.int .i64 ((getI l1 x3).f2)], [.int .i64 ((getI l1 x3).f3)], [.int .i64 ((getI l1 x3).f4)]]⟩, ⟨some 3, [], [3], fun l g => l.getD 0 undef = .slice a2 n2 c2⟩, ⟨some 4, [], [4], fun l g => l.getD 0 undef = .pointer (some ⟨b8, u6 + x3.toNat * 11, none⟩)⟩, ⟨some 5, [], [5], fun l g => l.getD 0 undef = AG [encA .u8 ((getI l2 x3).f1), [.int .i64 ((getI l2 x3).f2)], [.int .i64 ((getI l2 x3).f3)], [.int .i64 ((getI l2 x3).f4)]]⟩, ⟨some 6, [], [6], fun l g => l.getD 0 undef = .bool (!((((getI l1 x3).f1).1 == ((getI l2 x3).f1).1) && ((((getI l1 x3).f2) == ((getI l2 x3).f2)) && ((((getI l1 x3).f3) == ((getI l2 x3).f3)) && (((getI l1 x3).f4) == ((getI l2 x3).f4))))))⟩] [[], [], [], [], [], [], []] [] [0, 2, 5, 7] [] (by kernel_rfl) (by simp) (by simp) ⟨fun _ _ _ _ st h0 hl hj hB1 => (hB1.mono st (fun h => absurd (hl _ h) (by simp))), fun _ _ _ _ st h0 hl hj hR1 => (RdS.mono (e := 60) hR1 st h0), fun _ _ _ _ st h0 hl hj hB2 => (hB2.mono st (fun h => absurd (hl _ h) (by simp))), fun _ _ _ _ st h0 hl hj hR2 => (RdS.mono (e := 60) hR2 st h0), fun _ _ _ _ st h0 hl hj e0 => e0, fun _ _ _ _ st h0 hl hj e1 => e1, fun _ _ _ _ st h0 hl hj e2 => e2, fun _ _ _ _ st h0 hl hj e3 => e3, fun _ _ _ _ st h0 hl hj e4 => e4, fun _ _ _ _ st h0 hl hj e5 => e5, fun _ _ _ _ st h0 hl hj e6 => e6, trivial⟩ ⟨hB1, hR1, hB2, hR2, trivial, trivial, trivial, trivial, trivial, trivial, trivial, trivial⟩ (by kernel_rfl) (fun vs => by kernel_rfl) ?_ ?_ ?_
    · intro j hj; exact absurd hj (by simp)
    · intro j hj
      have hq : j = 0 ∨ j = 1 ∨ j = 2 ∨ j = 3 ∨ j = 4 ∨ j = 5 ∨ j = 6 := by have h : j < 7 := hj; omega
      rcases hq with rfl | rfl | rfl | rfl | rfl | rfl | rfl
      · intro vs gq stq hl hf
        obtain ⟨v0, v1, v2, v3, v4, v5, v6, rfl⟩ := len_k7 hl
        have hB1 := (show Box gq (t + 1) b1 26 [encA .u8 d1, [.int .i64 x1], encA .i64 d2, [.slice a1 n1 c1]] [8, 1, 2, 1] from hf _ (List.mem_of_getElem? (i := 0) rfl) (by kernel_rfl))
        refine WP.loadB (v := .slice a1 n1 c1) hB1 (by kernel_rfl) (by kernel_rfl) ?_
        refine WP.done (by kernel_rfl) (Shown.ok (v := .slice a1 n1 c1) (by kernel_rfl) (Step.refl _ _) ?_)
        exact ⟨trivial, trivial, trivial, trivial, rfl, trivial, trivial, trivial, trivial, trivial, trivial, trivial⟩
      · intro vs gq stq hl hf
        obtain ⟨v0, v1, v2, v3, v4, v5, v6, rfl⟩ := len_k7 hl
        have hR1 := (show RdS k_S_baizeref47_Held gq 60 a1 n1 c1 l1 from hf _ (List.mem_of_getElem? (i := 1) rfl) (by kernel_rfl))
        have e0 := (show v0 = .slice a1 n1 c1 from hf _ (List.mem_of_getElem? (i := 4) rfl) (by kernel_rfl))
        subst e0
        refine WP.indexA (t := 24) (e := 60) (sz := 11) (cap := c1) (k := .i64) (i := x3) hR1.len ha5 (by kernel_rfl) (by kernel_rfl) hc5 ?_
        refine WP.done (by kernel_rfl) (Shown.ok (v := .pointer (some ⟨b7, u5 + x3.toNat * 11, none⟩)) (by kernel_rfl) (Step.refl _ _) ?_)
        exact ⟨trivial, trivial, trivial, trivial, trivial, rfl, trivial, trivial, trivial, trivial, trivial, trivial⟩
      · intro vs gq stq hl hf
        obtain ⟨v0, v1, v2, v3, v4, v5, v6, rfl⟩ := len_k7 hl
        have hR1 := (show RdS k_S_baizeref47_Held gq 60 a1 n1 c1 l1 from hf _ (List.mem_of_getElem? (i := 1) rfl) (by kernel_rfl))
        have e1 := (show v1 = .pointer (some ⟨b7, u5 + x3.toNat * 11, none⟩) from hf _ (List.mem_of_getElem? (i := 5) rfl) (by kernel_rfl))
        subst e1
        obtain ⟨cs5, hcR5, hcV5⟩ := hR1.src.view (getI_some hc5) ha5
        replace hcR5 := k_S_baizeref47_Held.opn hcR5
        refine WP.loadV [encA .u8 ((getI l1 x3).f1), [.int .i64 ((getI l1 x3).f2)], [.int .i64 ((getI l1 x3).f3)], [.int .i64 ((getI l1 x3).f4)]] [8, 1, 1, 1] hcV5 hcR5 (by simp [len_encA]) (f := 0) (ty := 60) (agg := true) (size := 11) (rs := [encA .u8 ((getI l1 x3).f1), [.int .i64 ((getI l1 x3).f2)], [.int .i64 ((getI l1 x3).f3)], [.int .i64 ((getI l1 x3).f4)]]) (v := AG [encA .u8 ((getI l1 x3).f1), [.int .i64 ((getI l1 x3).f2)], [.int .i64 ((getI l1 x3).f3)], [.int .i64 ((getI l1 x3).f4)]]) (by kernel_rfl) (by kernel_rfl) (by kernel_rfl) (by kernel_rfl) ?_
        refine WP.done (by kernel_rfl) (Shown.ok (v := AG [encA .u8 ((getI l1 x3).f1), [.int .i64 ((getI l1 x3).f2)], [.int .i64 ((getI l1 x3).f3)], [.int .i64 ((getI l1 x3).f4)]]) (by kernel_rfl) (Step.refl _ _) ?_)
        exact ⟨trivial, trivial, trivial, trivial, trivial, trivial, rfl, trivial, trivial, trivial, trivial, trivial⟩
      · intro vs gq stq hl hf
        obtain ⟨v0, v1, v2, v3, v4, v5, v6, rfl⟩ := len_k7 hl
        have hB2 := (show Box gq (t + 2) b2 26 [encA .u8 d3, [.int .i64 x2], encA .i64 d4, [.slice a2 n2 c2]] [8, 1, 2, 1] from hf _ (List.mem_of_getElem? (i := 2) rfl) (by kernel_rfl))
        refine WP.loadB (v := .slice a2 n2 c2) hB2 (by kernel_rfl) (by kernel_rfl) ?_
        refine WP.done (by kernel_rfl) (Shown.ok (v := .slice a2 n2 c2) (by kernel_rfl) (Step.refl _ _) ?_)
        exact ⟨trivial, trivial, trivial, trivial, trivial, trivial, trivial, rfl, trivial, trivial, trivial, trivial⟩
      · intro vs gq stq hl hf
        obtain ⟨v0, v1, v2, v3, v4, v5, v6, rfl⟩ := len_k7 hl
        have hR2 := (show RdS k_S_baizeref47_Held gq 60 a2 n2 c2 l2 from hf _ (List.mem_of_getElem? (i := 3) rfl) (by kernel_rfl))
        have e3 := (show v3 = .slice a2 n2 c2 from hf _ (List.mem_of_getElem? (i := 7) rfl) (by kernel_rfl))
        subst e3
        refine WP.indexA (t := 24) (e := 60) (sz := 11) (cap := c2) (k := .i64) (i := x3) hR2.len ha6 (by kernel_rfl) (by kernel_rfl) hc6 ?_
        refine WP.done (by kernel_rfl) (Shown.ok (v := .pointer (some ⟨b8, u6 + x3.toNat * 11, none⟩)) (by kernel_rfl) (Step.refl _ _) ?_)
        exact ⟨trivial, trivial, trivial, trivial, trivial, trivial, trivial, trivial, rfl, trivial, trivial, trivial⟩
      · intro vs gq stq hl hf
        obtain ⟨v0, v1, v2, v3, v4, v5, v6, rfl⟩ := len_k7 hl
        have hR2 := (show RdS k_S_baizeref47_Held gq 60 a2 n2 c2 l2 from hf _ (List.mem_of_getElem? (i := 3) rfl) (by kernel_rfl))
        have e4 := (show v4 = .pointer (some ⟨b8, u6 + x3.toNat * 11, none⟩) from hf _ (List.mem_of_getElem? (i := 8) rfl) (by kernel_rfl))
        subst e4
        obtain ⟨cs6, hcR6, hcV6⟩ := hR2.src.view (getI_some hc6) ha6
        replace hcR6 := k_S_baizeref47_Held.opn hcR6
        refine WP.loadV [encA .u8 ((getI l2 x3).f1), [.int .i64 ((getI l2 x3).f2)], [.int .i64 ((getI l2 x3).f3)], [.int .i64 ((getI l2 x3).f4)]] [8, 1, 1, 1] hcV6 hcR6 (by simp [len_encA]) (f := 0) (ty := 60) (agg := true) (size := 11) (rs := [encA .u8 ((getI l2 x3).f1), [.int .i64 ((getI l2 x3).f2)], [.int .i64 ((getI l2 x3).f3)], [.int .i64 ((getI l2 x3).f4)]]) (v := AG [encA .u8 ((getI l2 x3).f1), [.int .i64 ((getI l2 x3).f2)], [.int .i64 ((getI l2 x3).f3)], [.int .i64 ((getI l2 x3).f4)]]) (by kernel_rfl) (by kernel_rfl) (by kernel_rfl) (by kernel_rfl) ?_
        refine WP.done (by kernel_rfl) (Shown.ok (v := AG [encA .u8 ((getI l2 x3).f1), [.int .i64 ((getI l2 x3).f2)], [.int .i64 ((getI l2 x3).f3)], [.int .i64 ((getI l2 x3).f4)]]) (by kernel_rfl) (Step.refl _ _) ?_)
        exact ⟨trivial, trivial, trivial, trivial, trivial, trivial, trivial, trivial, trivial, rfl, trivial, trivial⟩
      · intro vs gq stq hl hf
        obtain ⟨v0, v1, v2, v3, v4, v5, v6, rfl⟩ := len_k7 hl
        have e2 := (show v2 = AG [encA .u8 ((getI l1 x3).f1), [.int .i64 ((getI l1 x3).f2)], [.int .i64 ((getI l1 x3).f3)], [.int .i64 ((getI l1 x3).f4)]] from hf _ (List.mem_of_getElem? (i := 6) rfl) (by kernel_rfl))
        subst e2
        have e5 := (show v5 = AG [encA .u8 ((getI l2 x3).f1), [.int .i64 ((getI l2 x3).f2)], [.int .i64 ((getI l2 x3).f3)], [.int .i64 ((getI l2 x3).f4)]] from hf _ (List.mem_of_getElem? (i := 9) rfl) (by kernel_rfl))
        subst e5
        refine WP.neV (by kernel_rfl) (by kernel_rfl) (EqV.struct (d := 9999) (t := 60) (xs := [encA .u8 ((getI l1 x3).f1), [.int .i64 ((getI l1 x3).f2)], [.int .i64 ((getI l1 x3).f3)], [.int .i64 ((getI l1 x3).f4)]]) (ys := [encA .u8 ((getI l2 x3).f1), [.int .i64 ((getI l2 x3).f2)], [.int .i64 ((getI l2 x3).f3)], [.int .i64 ((getI l2 x3).f4)]]) (by kernel_rfl) (by kernel_rfl) (EqFi.cons (ns := [8, 1, 1, 1]) (ms := [8, 1, 1, 1]) (t' := 22) (x := AG [encA .u8 ((getI l1 x3).f1)]) (y := AG [encA .u8 ((getI l2 x3).f1)]) (by simp [len_encA]) (by simp [len_encA]) (by kernel_rfl) (by kernel_rfl) (EqV.arr (d := 9997) (t := 22) (e := 5) (m := 8) (k := .u8) (x := (getI l1 x3).f1) (y := (getI l2 x3).f1) (by kernel_rfl) (by kernel_rfl)) (EqFi.cons (ns := [8, 1, 1, 1]) (ms := [8, 1, 1, 1]) (t' := 3) (x := .int .i64 ((getI l1 x3).f2)) (y := .int .i64 ((getI l2 x3).f2)) (by simp [len_encA]) (by simp [len_encA]) (by kernel_rfl) (by kernel_rfl) (EqV.int (d := 9998) (k' := .i64) (by kernel_rfl)) (EqFi.cons (ns := [8, 1, 1, 1]) (ms := [8, 1, 1, 1]) (t' := 3) (x := .int .i64 ((getI l1 x3).f3)) (y := .int .i64 ((getI l2 x3).f3)) (by simp [len_encA]) (by simp [len_encA]) (by kernel_rfl) (by kernel_rfl) (EqV.int (d := 9998) (k' := .i64) (by kernel_rfl)) (EqFi.one (ns := [8, 1, 1, 1]) (ms := [8, 1, 1, 1]) (t' := 3) (x := .int .i64 ((getI l1 x3).f4)) (y := .int .i64 ((getI l2 x3).f4)) (by simp [len_encA]) (by simp [len_encA]) (by kernel_rfl) (by kernel_rfl) (EqV.int (d := 9998) (k' := .i64) (by kernel_rfl)) (Nat.le_of_ble_eq_true rfl)))))) ?_
        refine WP.done (by kernel_rfl) (Shown.ok (v := .bool (!((((getI l1 x3).f1).1 == ((getI l2 x3).f1).1) && ((((getI l1 x3).f2) == ((getI l2 x3).f2)) && ((((getI l1 x3).f3) == ((getI l2 x3).f3)) && (((getI l1 x3).f4) == ((getI l2 x3).f4))))))) (by kernel_rfl) (Step.refl _ _) ?_)
        exact ⟨trivial, trivial, trivial, trivial, trivial, trivial, trivial, trivial, trivial, trivial, rfl, trivial⟩
    intro vs g3 st3 hl hf
    obtain ⟨v0, v1, v2, v3, v4, v5, v6, rfl⟩ := len_k7 hl
    have e6 := (show v6 = .bool (!((((getI l1 x3).f1).1 == ((getI l2 x3).f1).1) && ((((getI l1 x3).f2) == ((getI l2 x3).f2)) && ((((getI l1 x3).f3) == ((getI l2 x3).f3)) && (((getI l1 x3).f4) == ((getI l2 x3).f4)))))) from hf _ (List.mem_of_getElem? (i := 10) rfl) (by kernel_rfl))
    subst e6
    replace hB1 := hB1.mono st3.toNo (fun x => x)
    replace hR1 := hR1.mono st3.toNo (fun x => x)
    replace hB2 := hB2.mono st3.toNo (fun x => x)
    replace hR2 := hR2.mono st3.toNo (fun x => x)
    replace tot := tot.trans st3.toNo.pure
    refine NX.then_n ?_
    refine CP.refr 52 [(2, .pointer (some ⟨b1, 0, none⟩)), (3, .pointer (some ⟨b2, 0, none⟩)), (5, .int .i64 x3), (51, .bool (!((((getI l1 x3).f1).1 == ((getI l2 x3).f1).1) && ((((getI l1 x3).f2) == ((getI l2 x3).f2)) && ((((getI l1 x3).f3) == ((getI l2 x3).f3)) && (((getI l1 x3).f4) == ((getI l2 x3).f4)))))))] (by kernel_rfl) (by kernel_rfl) ?_
    clear ds
    intro ds
    refine CP.cond (b := (!((((getI l1 x3).f1).1 == ((getI l2 x3).f1).1) && ((((getI l1 x3).f2) == ((getI l2 x3).f2)) && ((((getI l1 x3).f3) == ((getI l2 x3).f3)) && (((getI l1 x3).f4) == ((getI l2 x3).f4))))))) (by kernel_rfl) (fun h10 => ?_) (fun h10 => ?_)
    · replace hs := of_if_t hs h10
      refine CP.seqR ?_
      refine WP.still 1 (by kernel_rfl) ?_
      refine WP.done (by kernel_rfl) ?_
      refine NX.then_n ?_
      refine CP.ret ?_
      refine NX.block_r ?_
      refine NX.then_r ?_
      refine NX.then_r ?_
      refine NX.block_r ?_
      refine NX.then_r ?_
      replace hs := Option.some.inj hs
      obtain rfl := hs
      exact NX.fin (v := .bool false) (Res.still (by kernel_rfl)) tot htL rfl
    replace hs := of_if_f hs h10
    refine CP.skip ?_
    refine NX.block_n ?_
    refine NX.then_n ?_
    refine CP.region ?_
    refine WP.still 3 (by kernel_rfl) ?_
    refine WP.done (by kernel_rfl) ?_
    refine NX.post ?_
    exact ⟨(IntKind.i64.wrap (x3 + 1)), ⟨by kernel_rfl, by kernel_rfl⟩, tot, hB1, hR1, hB2, hR2, hs⟩
  replace hs := of_if_f hs h9
  refine CP.exit ?_
  refine NX.then_e ?_
  refine NX.then_e ?_
  refine NX.block_s ?_
  refine NX.then_n ?_
  refine CP.seqR ?_
  refine WP.still 1 (by kernel_rfl) ?_
  refine WP.done (by kernel_rfl) ?_
  refine NX.then_n ?_
  refine CP.ret ?_
  replace hs := Option.some.inj hs
  obtain rfl := hs
  exact NX.fin (v := .bool true) (Res.still (by kernel_rfl)) tot htL rfl
def F.purse_Purse_Find (d1 : Arr Int 8) (x1 : Int) (d2 : Arr Int 2) (l1 : List S_purse_Held) (d3 : Arr Int 8) : Option ((Arr Int 8) × Int × Int × Int × Bool) := ((F.purse_Purse_at d1 x1 d2 l1 d3).bind fun x2 => (if decide (x2 < 0) = true then (some ((zA 8), 0, 0, 0, false)) else (if (0 : Int) ≤ x2 ∧ x2 < (l1.length : Int) then (some ((getI l1 x2).f1, (getI l1 x2).f2, (getI l1 x2).f3, (getI l1 x2).f4, true)) else none)))
theorem P.purse_Purse_Find (g0 : GW) (d1 : Arr Int 8) (x1 : Int) (d2 : Arr Int 2) (l1 : List S_purse_Held) (d3 : Arr Int 8) (a1 : Option Addr) (n1 : Nat) (c1 : Nat) (hR1 : RdS k_S_purse_Held g0 56 a1 n1 c1 l1) (o1 : Arr Int 8) (o2 : Int) (o3 : Int) (o4 : Int) (o5 : Bool) (hs : F.purse_Purse_Find d1 x1 d2 l1 d3 = some (o1, o2, o3, o4, o5)) :
    Calls Try.prog 27 #[AG [encA .u8 d1, [.int .i64 x1], encA .i64 d2, [.slice a1 n1 c1]], AG [encA .u8 d3]] g0.w (Ret NoM g0 fun v g => v = .tuple #[AG [encA .u8 o1, [.int .i64 o2], [.int .i64 o3], [.int .i64 o4]], .bool o5]) := by
  refine calls_of (args := [AG [encA .u8 d1, [.int .i64 x1], encA .i64 d2, [.slice a1 n1 c1]], AG [encA .u8 d3]]) Try.func27 rfl (0) ?_
  intro t ht htL
  refine ⟨_, rfl, ?_⟩
  refine CP.refr 18 [(0, AG [encA .u8 d1, [.int .i64 x1], encA .i64 d2, [.slice a1 n1 c1]]), (1, AG [encA .u8 d3])] (by kernel_rfl) (by kernel_rfl) ?_
  intro ds
  have tot : Step (fun l => NoM l ∨ t ≤ l) g0 g0 := Step.refl _ _
  unfold F.purse_Purse_Find at hs
  refine CP.seqR ?_
  refine WP.alloc (T := 32) (t + 1) [encA .u8 d1, [.int .i64 x1], encA .i64 d2, [.slice a1 n1 c1]] [8, 1, 2, 1] (by kernel_rfl) (by simp [len_encA]) ?_
  intro g1 b1 st1 hB1
  replace hR1 := hR1.mono st1 (fun x => x)
  replace tot := tot.trans st1.pure
  refine WP.alloc (T := 29) (t + 2) [encA .u8 d3] [8] (by kernel_rfl) (by simp [len_encA]) ?_
  intro g2 b2 st2 hB2
  replace hR1 := hR1.mono st2 (fun x => x)
  replace hB1 := hB1.mono st2 (fun x => x)
  replace tot := tot.trans st2.pure
  refine WP.alloc (T := 56) (t + 3) [encA .u8 (zA 8), [.int .i64 0], [.int .i64 0], [.int .i64 0]] [8, 1, 1, 1] (by kernel_rfl) (by simp [len_encA]) ?_
  intro g3 b3 st3 hB3
  replace hR1 := hR1.mono st3 (fun x => x)
  replace hB1 := hB1.mono st3 (fun x => x)
  replace hB2 := hB2.mono st3 (fun x => x)
  replace tot := tot.trans st3.pure
  refine WP.still 1 (by kernel_rfl) ?_
  refine WP.done (by kernel_rfl) ?_
  refine NX.then_n ?_
  refine CP.seqR ?_
  refine WP.loadB (v := AG [encA .u8 d1, [.int .i64 x1], encA .i64 d2, [.slice a1 n1 c1]]) hB1 (by kernel_rfl) (by kernel_rfl) ?_
  refine WP.loadB (v := AG [encA .u8 d3]) hB2 (by kernel_rfl) (by kernel_rfl) ?_
  replace hs := Option.bind_eq_some_iff.1 hs
  obtain ⟨x2, hk1, hs⟩ := hs
  have hcal1 := P.purse_Purse_at g3 d1 x1 d2 l1 d3 a1 n1 c1 hR1 x2 hk1
  refine WP.callC hcal1 (by kernel_rfl) ?_
  rintro _ g4 st4 rfl
  replace hB1 := hB1.mono st4 (fun x => x)
  replace hR1 := hR1.mono st4 (fun x => x)
  replace hB2 := hB2.mono st4 (fun x => x)
  replace hB3 := hB3.mono st4 (fun x => x)
  replace tot := tot.trans st4.pure
  refine WP.still 1 (by kernel_rfl) ?_
  refine WP.done (by kernel_rfl) ?_
  refine NX.then_n ?_
  refine CP.seq ?_
  refine CP.seqR ?_
  refine WP.still 2 (by kernel_rfl) ?_
  refine WP.done (by kernel_rfl) ?_
  refine NX.then_n ?_
  refine CP.cond (b := decide (x2 < 0)) (by kernel_rfl) (fun h1 => ?_) (fun h1 => ?_)
  · replace hs := of_if_t hs h1
    refine CP.seqR ?_
    refine WP.buildS (places := #[(0, 8), (8, 1), (9, 1), (10, 1)]) (t := 56) [encA .u8 (zA 8), [.int .i64 0], [.int .i64 0], [.int .i64 0]] [8, 1, 1, 1] (by kernel_rfl) (by kernel_rfl) (by simp [len_encA]) (by kernel_rfl) (.nil) ?_
    refine WP.storeB (ty := 56) (off := 0) (v := AG [encA .u8 (zA 8), [.int .i64 0], [.int .i64 0], [.int .i64 0]]) hB3 [encA .u8 (zA 8), [.int .i64 0], [.int .i64 0], [.int .i64 0]] [8, 1, 1, 1] (by kernel_rfl) (by kernel_rfl) (by simp [len_encA]) (by kernel_rfl) [encA .u8 (zA 8), [.int .i64 0], [.int .i64 0], [.int .i64 0]] (by kernel_rfl) (.arr (.one rfl (.one rfl (.one rfl .nil)))) ?_
    intro g5 st5 hB4
    replace hB1 := hB1.mono st5 (WL.no1 (by omega))
    replace hR1 := hR1.mono st5 (WL.no1 (by omega))
    replace tot := tot.trans (st5.up1 (.inr (by omega)))
    clear hB3
    have hB3 := hB4
    clear hB4
    refine WP.still 1 (by kernel_rfl) ?_
    refine WP.done (by kernel_rfl) ?_
    refine NX.then_n ?_
    refine CP.refr 18 [(4, .pointer (some ⟨b3, 0, none⟩)), (5, .bool false)] (by kernel_rfl) (by kernel_rfl) ?_
    clear ds
    intro ds
    refine CP.ret ?_
    refine NX.then_r ?_
    replace hs := Option.some.inj hs
    simp only [Prod.mk.injEq] at hs
    obtain ⟨rfl, rfl, rfl, rfl, rfl⟩ := hs
    exact NX.fin (v := .tuple #[AG [encA .u8 (zA 8), [.int .i64 0], [.int .i64 0], [.int .i64 0]], .bool false]) (Res.two rfl (RV.box (agg := true) (size := 11) (rs := [encA .u8 (zA 8), [.int .i64 0], [.int .i64 0], [.int .i64 0]]) hB3 (by kernel_rfl) (by kernel_rfl) (by kernel_rfl) (by kernel_rfl)) (RV.tmp (by kernel_rfl))) tot htL rfl
  replace hs := of_if_f hs h1
  refine CP.skip ?_
  refine NX.then_n ?_
  refine CP.seqR ?_
  refine WP.still 1 (by kernel_rfl) ?_
  refine WP.loadB (v := .slice a1 n1 c1) hB1 (by kernel_rfl) (by kernel_rfl) ?_
  refine WP.still 1 (by kernel_rfl) ?_
  by_cases hc1 : (0 : Int) ≤ x2 ∧ x2 < (l1.length : Int)
  case neg => rw [if_neg hc1] at hs; cases hs
  replace hs := of_if_p hs hc1
  obtain ⟨b4, u1, ha1⟩ := hR1.at hc1
  refine WP.indexA (t := 30) (e := 56) (sz := 11) (cap := c1) (k := .i64) (i := x2) hR1.len ha1 (by kernel_rfl) (by kernel_rfl) hc1 ?_
  obtain ⟨cs1, hcR1, hcV1⟩ := hR1.src.view (getI_some hc1) ha1
  replace hcR1 := k_S_purse_Held.opn hcR1
  refine WP.loadV [encA .u8 ((getI l1 x2).f1), [.int .i64 ((getI l1 x2).f2)], [.int .i64 ((getI l1 x2).f3)], [.int .i64 ((getI l1 x2).f4)]] [8, 1, 1, 1] hcV1 hcR1 (by simp [len_encA]) (f := 0) (ty := 56) (agg := true) (size := 11) (rs := [encA .u8 ((getI l1 x2).f1), [.int .i64 ((getI l1 x2).f2)], [.int .i64 ((getI l1 x2).f3)], [.int .i64 ((getI l1 x2).f4)]]) (v := AG [encA .u8 ((getI l1 x2).f1), [.int .i64 ((getI l1 x2).f2)], [.int .i64 ((getI l1 x2).f3)], [.int .i64 ((getI l1 x2).f4)]]) (by kernel_rfl) (by kernel_rfl) (by kernel_rfl) (by kernel_rfl) ?_
  refine WP.storeB (ty := 56) (off := 0) (v := AG [encA .u8 ((getI l1 x2).f1), [.int .i64 ((getI l1 x2).f2)], [.int .i64 ((getI l1 x2).f3)], [.int .i64 ((getI l1 x2).f4)]]) hB3 [encA .u8 ((getI l1 x2).f1), [.int .i64 ((getI l1 x2).f2)], [.int .i64 ((getI l1 x2).f3)], [.int .i64 ((getI l1 x2).f4)]] [8, 1, 1, 1] (by kernel_rfl) (by kernel_rfl) (by simp [len_encA]) (by kernel_rfl) [encA .u8 ((getI l1 x2).f1), [.int .i64 ((getI l1 x2).f2)], [.int .i64 ((getI l1 x2).f3)], [.int .i64 ((getI l1 x2).f4)]] (by kernel_rfl) (.arr (.one rfl (.one rfl (.one rfl .nil)))) ?_
  intro g6 st6 hB5
  replace hB1 := hB1.mono st6 (WL.no1 (by omega))
  replace hR1 := hR1.mono st6 (WL.no1 (by omega))
  replace tot := tot.trans (st6.up1 (.inr (by omega)))
  clear hB3
  have hB3 := hB5
  clear hB5
  refine WP.still 1 (by kernel_rfl) ?_
  refine WP.done (by kernel_rfl) ?_
  refine NX.then_n ?_
  refine CP.refr 18 [(4, .pointer (some ⟨b3, 0, none⟩)), (5, .bool true)] (by kernel_rfl) (by kernel_rfl) ?_
  clear ds
  intro ds
  refine CP.ret ?_
  replace hs := Option.some.inj hs
  simp only [Prod.mk.injEq] at hs
  obtain ⟨rfl, rfl, rfl, rfl, rfl⟩ := hs
  exact NX.fin (v := .tuple #[AG [encA .u8 ((getI l1 x2).f1), [.int .i64 ((getI l1 x2).f2)], [.int .i64 ((getI l1 x2).f3)], [.int .i64 ((getI l1 x2).f4)]], .bool true]) (Res.two rfl (RV.box (agg := true) (size := 11) (rs := [encA .u8 ((getI l1 x2).f1), [.int .i64 ((getI l1 x2).f2)], [.int .i64 ((getI l1 x2).f3)], [.int .i64 ((getI l1 x2).f4)]]) hB3 (by kernel_rfl) (by kernel_rfl) (by kernel_rfl) (by kernel_rfl)) (RV.tmp (by kernel_rfl))) tot htL rfl
end Go.Proofs.Yticlfbpmfejdoaa
