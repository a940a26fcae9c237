/-
  Walks, written by program: each Go function computes the plain function of its name, in whatever world its arguments' facts hold.
-/
import Derived.Test.YticlfbpmfejdoaaWPt1
namespace Go.Proofs.Yticlfbpmfejdoaa
open Go.RowKit Go.Lab
attribute [local irreducible] WP CP NX wpList Code.wp Calls
set_option maxRecDepth 100000
set_option maxHeartbeats 4000000
set_option linter.unusedVariables false

def N.purse_Purse_Back_1_0 : List (List Nat) := [[], [], [1], [1, 2], [1, 2, 3], [], [1, 2, 3, 4, 5], [1, 2, 3, 4, 5, 6], [1, 2, 3, 4, 5, 6, 7], [0, 1, 2, 3, 4, 5, 6, 7, 8], [0, 1, 2, 3, 4, 5, 6, 7, 8, 9]]
def F.purse_Purse_Back_1 (d1 : Arr Int 8) (x1 : Int) (d2 : Arr Int 2) (l1 : List S_purse_Held) (d3 : Arr Int 8) (x2 : Int) : Option (Int × (Arr Int 8) × Int × (Arr Int 2) × (List S_purse_Held)) := ((F.purse_Purse_at d1 x1 d2 l1 d3).bind fun x3 => (if decide (x3 < 0) = true then (some (9, d1, x1, d2, l1)) else (if (0 : Int) ≤ x3 ∧ x3 < (l1.length : Int) then (if decide (x2 ≤ (getI l1 x3).f4) = true then (some (20, d1, x1, d2, l1)) else ((F.purse_Purse_part d1 x1 d2 l1 x3 0).bind fun (d4, x4, d5, d6) => (some (0, d4, x4, d5, d6)))) else none)))
theorem P.purse_Purse_Back_1 (g0 : GW) (m0 : Nat) (m1 : Nat) (m2 : Nat) (m3 : Nat) (d1 : Arr Int 8) (x1 : Int) (d2 : Arr Int 2) (l1 : List S_purse_Held) (d3 : Arr Int 8) (x2 : Int) (a1 : Option Addr) (n1 : Nat) (c1 : Nat) (b1 : Nat) (b2 : Nat) (b3 : Nat) (hR1 : OwnS k_S_purse_Held g0 m1 56 a1 n1 c1 l1) (hB1 : Box g0 m0 b1 32 [encA .u8 d1, [.int .i64 x1], encA .i64 d2, [.slice a1 n1 c1]] [8, 1, 2, 1]) (hB2 : Box g0 m2 b2 29 [encA .u8 d3] [8]) (hB3 : Box g0 m3 b3 3 [[.int .i64 x2]] [1]) (hm1_0 : m1 ≠ m0) (hm2_0 : m2 ≠ m0) (hm2_1 : m2 ≠ m1) (hm3_0 : m3 ≠ m0) (hm3_1 : m3 ≠ m1) (hm3_2 : m3 ≠ m2) (hm0 : m0 ≠ 0) (hm1 : m1 ≠ 0) (hm2 : m2 ≠ 0) (hm3 : m3 ≠ 0) (o1 : Int) (o2 : (Arr Int 8)) (o3 : Int) (o4 : (Arr Int 2)) (o5 : (List S_purse_Held)) (hs : F.purse_Purse_Back_1 d1 x1 d2 l1 d3 x2 = some (o1, o2, o3, o4, o5)) :
  Calls Try.prog 55 #[.pointer (some ⟨b1, 0, none⟩), .pointer (some ⟨b2, 0, none⟩), .pointer (some ⟨b3, 0, none⟩)] g0.w (Ret (WL [m0, m1]) g0 fun v g => ∃ (a_1 : Option Addr) (n_1 : Nat) (c_1 : Nat), v = .int .i64 o1 ∧ RdS k_S_purse_Held g 56 a_1 n_1 c_1 o5 ∧ Box g m0 b1 32 [encA .u8 o2, [.int .i64 o3], encA .i64 o4, [.slice a_1 n_1 c_1]] [8, 1, 2, 1]) := by
 refine calls_of (args := [.pointer (some ⟨b1, 0, none⟩), .pointer (some ⟨b2, 0, none⟩), .pointer (some ⟨b3, 0, none⟩)]) Try.func55 rfl (m0 + m1 + m2 + m3 + 0) ?_
 intro t ht htL
 refine ⟨_, rfl, ?_⟩
 refine CP.refr 28 [(0, .pointer (some ⟨b1, 0, none⟩)), (1, .pointer (some ⟨b2, 0, none⟩)), (2, .pointer (some ⟨b3, 0, none⟩))] (by kernel_rfl) (by kernel_rfl) ?_
 intro ds
 have tot : Step (fun l => (WL [m0, m1]) l ∨ t ≤ l) g0 g0 := Step.refl _ _
 unfold F.purse_Purse_Back_1 at hs
 refine CP.seqR ?_
 refine WP.stl 1 ?_
 refine WP.dn ?_
 refine NX.then_n ?_
 refine CP.seq ?_
 replace hs := Option.bind_eq_some_iff.1 hs
 obtain ⟨x3, hk1, hs⟩ := hs
 refine CP.drawL (by kernel_rfl) [2, 3, 4] [[], [0], [0, 1], [], [0, 1, 2, 3], [0, 1, 2, 3, 4]] [⟨none, [], [], fun l g => Box g m0 b1 32 [encA .u8 d1, [.int .i64 x1], encA .i64 d2, [.slice a1 n1 c1]] [8, 1, 2, 1]⟩, ⟨none, [0], [], fun l g => OwnS k_S_purse_Held g m1 56 a1 n1 c1 l1⟩, ⟨none, [], [], fun l g => Box g m2 b2 29 [encA .u8 d3] [8]⟩, ⟨some 0, [], [0], fun l g => l.getD 0 undef = AG [encA .u8 d1, [.int .i64 x1], encA .i64 d2, [.slice a1 n1 c1]]⟩, ⟨some 1, [], [1], fun l g => l.getD 0 undef = AG [encA .u8 d3]⟩, ⟨some 2, [], [2], fun l g => l.getD 0 undef = .int .i64 x3⟩, ⟨some 2, [0], [], fun l g => OwnS k_S_purse_Held g m1 56 a1 n1 c1 l1⟩] [[], [], [0]] [m1] [0, 1] [5] (by kernel_rfl) (by simp <;> omega) (by simp) ⟨fun _ _ _ _ st h0 hl hj hB1 => (hB1.mono st (fun h => absurd (hl _ h) (by simp <;> omega))), fun _ _ _ _ st h0 hl hj hR1 => (hR1.mono st h0 (hj 0 (by simp) _ rfl)), fun _ _ _ _ st h0 hl hj hB2 => (hB2.mono st (fun h => absurd (hl _ h) (by simp <;> omega))), fun _ _ _ _ st h0 hl hj e0 => e0, fun _ _ _ _ st h0 hl hj e1 => e1, fun _ _ _ _ st h0 hl hj e2 => e2, fun _ _ _ _ st h0 hl hj hR1 => (hR1.mono st h0 (hj 0 (by simp) _ rfl)), tv⟩ ⟨hB1, hR1, hB2, tv, tv, tv, tv, tv⟩ (by kernel_rfl) (fun vs => by kernel_rfl) ?_ ?_ ?_
 ·intro j hj
  have hq : j = 0 := by have h : j < 1 := hj; omega
  rcases hq with rfl
  ·intro vs gq stq hl hf
   obtain ⟨v0, v1, v2, rfl⟩ := len_k3 hl
   have e2 := (show v2 = .int .i64 x3 from hf _ (memI 5 rfl) (by kernel_rfl))
   subst e2
   show Option.isSome _ = true
   kernel_rfl
 ·intro j hj
  have hq : j = 0 ∨ j = 1 ∨ j = 2 := by have h : j < 3 := hj; omega
  rcases hq with rfl | rfl | rfl
  ·intro vs gq stq hl hf
   obtain ⟨v0, v1, v2, rfl⟩ := len_k3 hl
   have hB1 := (show Box gq m0 b1 32 [encA .u8 d1, [.int .i64 x1], encA .i64 d2, [.slice a1 n1 c1]] [8, 1, 2, 1] from hf _ (memI 0 rfl) (by kernel_rfl))
   refine WP.loadB (v := AG [encA .u8 d1, [.int .i64 x1], encA .i64 d2, [.slice a1 n1 c1]]) hB1 (by kernel_rfl) (by kernel_rfl) ?_
   refine WP.dn (Shown.ok (v := AG [encA .u8 d1, [.int .i64 x1], encA .i64 d2, [.slice a1 n1 c1]]) (by kernel_rfl) (Step.refl _ _) ?_)
   exact ⟨tv, tv, tv, rfl, tv, tv, tv, tv⟩
  ·intro vs gq stq hl hf
   obtain ⟨v0, v1, v2, rfl⟩ := len_k3 hl
   have hB2 := (show Box gq m2 b2 29 [encA .u8 d3] [8] from hf _ (memI 2 rfl) (by kernel_rfl))
   refine WP.loadB (v := AG [encA .u8 d3]) hB2 (by kernel_rfl) (by kernel_rfl) ?_
   refine WP.dn (Shown.ok (v := AG [encA .u8 d3]) (by kernel_rfl) (Step.refl _ _) ?_)
   exact ⟨tv, tv, tv, tv, rfl, tv, tv, tv⟩
  ·intro vs gq stq hl hf
   obtain ⟨v0, v1, v2, rfl⟩ := len_k3 hl
   have hR1 := (show OwnS k_S_purse_Held gq m1 56 a1 n1 c1 l1 from hf _ (memI 1 rfl) (by kernel_rfl))
   have e0 := (show v0 = AG [encA .u8 d1, [.int .i64 x1], encA .i64 d2, [.slice a1 n1 c1]] from hf _ (memI 3 rfl) (by kernel_rfl))
   subst e0
   have e1 := (show v1 = AG [encA .u8 d3] from hf _ (memI 4 rfl) (by kernel_rfl))
   subst e1
   have hS1 : 0 ∉ ([m1] : List Nat) := by simp <;> omega
   have stl1 := GW.lend_step gq [m1]
   have hRl1 := hR1.lendTo hS1 (by simp)
   refine WP.regw (g' := GW.lend gq [m1]) rfl ?_
   have hcal1 := P.purse_Purse_at (GW.lend gq [m1]) d1 x1 d2 l1 d3 a1 n1 c1 hRl1 x3 hk1
   refine WP.callC hcal1 (by kernel_rfl) ?_
   rintro _ g1 st1 rfl
   have st2 := (GW.back_step st1).lentS
   have hO1 := hR1.backTo hS1 (by simp) st1 (fun x => x)
   refine WP.regw (g' := GW.back gq g1 [m1]) rfl ?_
   generalize GW.back gq g1 [m1] = g2 at *
   refine WP.dn (Shown.o (v := .int .i64 x3) st2 ?_)
   exact ⟨tv, tv, tv, tv, tv, rfl, hO1, tv⟩
 intro vs g3 st3 hl hf
 obtain ⟨v0, v1, v2, rfl⟩ := len_k3 hl
 have e2 := (show v2 = .int .i64 x3 from hf _ (memI 5 rfl) (by kernel_rfl))
 subst e2
 have hR1 := (show OwnS k_S_purse_Held g3 m1 56 a1 n1 c1 l1 from hf _ (memI 6 rfl) (by kernel_rfl))
 replace hB1 := hB1.mono st3 (WL.no1 (by omega))
 replace hB3 := hB3.mono st3 (WL.no1 (by omega))
 replace tot := tot.trans (st3.up1 (.inl (by simp [WL])))
 refine NX.then_n ?_
 refine CP.refr 28 [(0, .pointer (some ⟨b1, 0, none⟩)), (2, .pointer (some ⟨b3, 0, none⟩)), (5, .int .i64 x3)] (by kernel_rfl) (by kernel_rfl) ?_
 clear ds
 intro ds
 refine CP.seq ?_
 refine CP.block ?_
 refine CP.seqR ?_
 refine WP.stl 3 ?_
 refine WP.dn ?_
 refine NX.then_n ?_
 refine CP.cond (b := decide (x3 < 0)) (by kernel_rfl) (fun h1 => ?_) (fun h1 => ?_)
 ·replace hs := of_if_t hs h1
  refine CP.seqR ?_
  refine WP.stl 1 ?_
  refine WP.dn ?_
  refine NX.then_n ?_
  refine CP.ret ?_
  refine NX.block_r ?_
  refine NX.then_r ?_
  obtain ⟨g4, hw1, st4, hnew⟩ := hR1.freeze (by omega)
  refine NX.regw hw1 ?_
  replace hB1 := hB1.mono st4 (WL.no1 (by omega))
  replace tot := tot.trans (st4.up1 (.inl (by simp [WL])))
  clear hR1
  have hR1 := hnew
  clear hnew
  replace hs := Option.some.inj hs
  simp only [Prod.mk.injEq] at hs
  obtain ⟨rfl, rfl, rfl, rfl, rfl⟩ := hs
  exact NX.fin (v := .int .i64 9) (Res.still (by kernel_rfl)) tot htL ⟨a1, n1, c1, rfl, hR1, hB1⟩
 replace hs := of_if_f hs h1
 refine CP.seq ?_
 by_cases hc1 : (0 : Int) ≤ x3 ∧ x3 < (l1.length : Int)
 case neg => rw [if_neg hc1] at hs; cases hs
 replace hs := of_if_p hs hc1
 obtain ⟨b4, u1, ha1⟩ := hR1.at hc1
 refine CP.drawL (by kernel_rfl) [0, 4, 6, 8] N.purse_Purse_Back_1_0 [⟨none, [], [], fun l g => Box g m0 b1 32 [encA .u8 d1, [.int .i64 x1], encA .i64 d2, [.slice a1 n1 c1]] [8, 1, 2, 1]⟩, ⟨none, [], [], fun l g => OwnS k_S_purse_Held g m1 56 a1 n1 c1 l1⟩, ⟨none, [], [], fun l g => Box g m3 b3 3 [[.int .i64 x2]] [1]⟩, ⟨some 0, [], [0], fun l g => l.getD 0 undef = .int .i64 x2⟩, ⟨some 1, [], [1], fun l g => l.getD 0 undef = .slice a1 n1 c1⟩, ⟨some 2, [], [2], fun l g => l.getD 0 undef = .pointer (some ⟨b4, u1 + x3.toNat * 11, none⟩)⟩, ⟨some 3, [], [3], fun l g => l.getD 0 undef = .int .i64 ((getI l1 x3).f4)⟩] [[], [], [], []] [] [1, 2, 3, 5] [7, 9, 10] (by kernel_rfl) (by simp) (by simp) ⟨fun _ _ _ _ st h0 hl hj hB1 => (hB1.mono st (fun h => absurd (hl _ h) (by simp))), fun _ _ _ _ st h0 hl hj hR1 => (hR1.mono st h0 (fun h => absurd (hl _ h) (by simp))), fun _ _ _ _ st h0 hl hj hB3 => (hB3.mono st (fun h => absurd (hl _ h) (by simp))), fun _ _ _ _ st h0 hl hj e0 => e0, fun _ _ _ _ st h0 hl hj e1 => e1, fun _ _ _ _ st h0 hl hj e2 => e2, fun _ _ _ _ st h0 hl hj e3 => e3, tv⟩ ⟨hB1, hR1, hB3, tv, tv, tv, tv, tv⟩ (by kernel_rfl) (fun vs => by kernel_rfl) ?_ ?_ ?_
 ·intro j hj
  have hq : j = 0 ∨ j = 1 ∨ j = 2 := by have h : j < 3 := hj; omega
  rcases hq with rfl | rfl | rfl
  ·intro vs gq stq hl hf
   obtain ⟨v0, v1, v2, v3, rfl⟩ := len_k4 hl
   have e2 := (show v2 = .pointer (some ⟨b4, u1 + x3.toNat * 11, none⟩) from hf _ (memI 5 rfl) (by kernel_rfl))
   subst e2
   show Option.isSome _ = true
   kernel_rfl
  ·intro vs gq stq hl hf
   obtain ⟨v0, v1, v2, v3, rfl⟩ := len_k4 hl
   have e0 := (show v0 = .int .i64 x2 from hf _ (memI 3 rfl) (by kernel_rfl))
   subst e0
   have e3 := (show v3 = .int .i64 ((getI l1 x3).f4) from hf _ (memI 6 rfl) (by kernel_rfl))
   subst e3
   show Option.isSome _ = true
   kernel_rfl
  ·intro vs gq stq hl hf
   obtain ⟨v0, v1, v2, v3, rfl⟩ := len_k4 hl
   have e0 := (show v0 = .int .i64 x2 from hf _ (memI 3 rfl) (by kernel_rfl))
   subst e0
   have e3 := (show v3 = .int .i64 ((getI l1 x3).f4) from hf _ (memI 6 rfl) (by kernel_rfl))
   subst e3
   show Option.isSome _ = true
   kernel_rfl
 ·intro j hj
  have hq : j = 0 ∨ j = 1 ∨ j = 2 ∨ j = 3 := by have h : j < 4 := hj; omega
  rcases hq with rfl | rfl | rfl | rfl
  ·intro vs gq stq hl hf
   obtain ⟨v0, v1, v2, v3, rfl⟩ := len_k4 hl
   have hB3 := (show Box gq m3 b3 3 [[.int .i64 x2]] [1] from hf _ (memI 2 rfl) (by kernel_rfl))
   refine WP.loadB (v := .int .i64 x2) hB3 (by kernel_rfl) (by kernel_rfl) ?_
   refine WP.dn (Shown.ok (v := .int .i64 x2) (by kernel_rfl) (Step.refl _ _) ?_)
   exact ⟨tv, tv, tv, rfl, tv, tv, tv, tv⟩
  ·intro vs gq stq hl hf
   obtain ⟨v0, v1, v2, v3, rfl⟩ := len_k4 hl
   have hB1 := (show Box gq m0 b1 32 [encA .u8 d1, [.int .i64 x1], encA .i64 d2, [.slice a1 n1 c1]] [8, 1, 2, 1] from hf _ (memI 0 rfl) (by kernel_rfl))
   refine WP.loadB (v := .slice a1 n1 c1) hB1 (by kernel_rfl) (by kernel_rfl) ?_
   refine WP.dn (Shown.ok (v := .slice a1 n1 c1) (by kernel_rfl) (Step.refl _ _) ?_)
   exact ⟨tv, tv, tv, tv, rfl, tv, tv, tv⟩
  ·intro vs gq stq hl hf
   obtain ⟨v0, v1, v2, v3, rfl⟩ := len_k4 hl
   have hR1 := (show OwnS k_S_purse_Held gq m1 56 a1 n1 c1 l1 from hf _ (memI 1 rfl) (by kernel_rfl))
   have e1 := (show v1 = .slice a1 n1 c1 from hf _ (memI 4 rfl) (by kernel_rfl))
   subst e1
   refine WP.indexA (t := 30) (e := 56) (sz := 11) (cap := c1) (k := .i64) (i := x3) hR1.len ha1 (by kernel_rfl) (by kernel_rfl) hc1 ?_
   refine WP.dn (Shown.ok (v := .pointer (some ⟨b4, u1 + x3.toNat * 11, none⟩)) (by kernel_rfl) (Step.refl _ _) ?_)
   exact ⟨tv, tv, tv, tv, tv, rfl, tv, tv⟩
  ·intro vs gq stq hl hf
   obtain ⟨v0, v1, v2, v3, rfl⟩ := len_k4 hl
   have hR1 := (show OwnS k_S_purse_Held gq m1 56 a1 n1 c1 l1 from hf _ (memI 1 rfl) (by kernel_rfl))
   have e2 := (show v2 = .pointer (some ⟨b4, u1 + x3.toNat * 11, none⟩) from hf _ (memI 5 rfl) (by kernel_rfl))
   subst e2
   obtain ⟨cs1, hcR1, hcV1⟩ := hR1.src.view (getI_some hc1) ha1
   replace hcR1 := k_S_purse_Held.opn hcR1
   refine WP.loadV [encA .u8 ((getI l1 x3).f1), [.int .i64 ((getI l1 x3).f2)], [.int .i64 ((getI l1 x3).f3)], [.int .i64 ((getI l1 x3).f4)]] [8, 1, 1, 1] hcV1 hcR1 (by simp [len_encA]) (f := 10) (ty := 3) (agg := false) (size := 1) (rs := [[.int .i64 ((getI l1 x3).f4)]]) (v := .int .i64 ((getI l1 x3).f4)) (by kernel_rfl) (by kernel_rfl) (by kernel_rfl) (by kernel_rfl) ?_
   refine WP.dn (Shown.ok (v := .int .i64 ((getI l1 x3).f4)) (by kernel_rfl) (Step.refl _ _) ?_)
   exact ⟨tv, tv, tv, tv, tv, tv, rfl, tv⟩
 intro vs g5 st5 hl hf
 obtain ⟨v0, v1, v2, v3, rfl⟩ := len_k4 hl
 have e0 := (show v0 = .int .i64 x2 from hf _ (memI 3 rfl) (by kernel_rfl))
 subst e0
 have e3 := (show v3 = .int .i64 ((getI l1 x3).f4) from hf _ (memI 6 rfl) (by kernel_rfl))
 subst e3
 replace hB1 := hB1.mono st5.toNo (fun x => x)
 replace hR1 := hR1.mono st5.toNo (fun x => x) (fun x => x)
 replace tot := tot.trans st5.toNo.pure
 refine NX.then_n ?_
 refine CP.refr 28 [(0, .pointer (some ⟨b1, 0, none⟩)), (5, .int .i64 x3), (14, .bool (decide (x2 ≤ (getI l1 x3).f4)))] (by kernel_rfl) (by kernel_rfl) ?_
 clear ds
 intro ds
 refine CP.cond (b := decide (x2 ≤ (getI l1 x3).f4)) (by kernel_rfl) (fun h2 => ?_) (fun h2 => ?_)
 ·replace hs := of_if_t hs h2
  refine CP.seqR ?_
  refine WP.stl 1 ?_
  refine WP.dn ?_
  refine NX.then_n ?_
  refine CP.ret ?_
  refine NX.block_r ?_
  refine NX.then_r ?_
  obtain ⟨g6, hw2, st6, hnew⟩ := hR1.freeze (by omega)
  refine NX.regw hw2 ?_
  replace hB1 := hB1.mono st6 (WL.no1 (by omega))
  replace tot := tot.trans (st6.up1 (.inl (by simp [WL])))
  clear hR1
  have hR1 := hnew
  clear hnew
  replace hs := Option.some.inj hs
  simp only [Prod.mk.injEq] at hs
  obtain ⟨rfl, rfl, rfl, rfl, rfl⟩ := hs
  exact NX.fin (v := .int .i64 20) (Res.still (by kernel_rfl)) tot htL ⟨a1, n1, c1, rfl, hR1, hB1⟩
 replace hs := of_if_f hs h2
 refine CP.skip ?_
 refine NX.block_n ?_
 refine NX.then_n ?_
 refine CP.seqR ?_
 refine WP.stl 2 ?_
 replace hs := Option.bind_eq_some_iff.1 hs
 obtain ⟨⟨d4, x4, d5, d6⟩, hk2, hs⟩ := hs
 dsimp only at hs
 have hcal2 := P.purse_Purse_part g5 m0 m1 d1 x1 d2 l1 x3 0 a1 n1 c1 b1 hR1 hB1 (by omega) (by omega) (by omega) d4 x4 d5 d6 hk2
 refine WP.callC hcal2 (by kernel_rfl) ?_
 rintro _ g7 st7 ⟨a2, n2, c2, rfl, hR2, hB4⟩
 replace tot := tot.trans (st7.up2 (.inl (by simp [WL])) (.inl (by simp [WL])))
 clear hB1
 have hB1 := hB4
 clear hB4
 refine WP.dn ?_
 refine NX.then_n ?_
 refine CP.seqR ?_
 refine WP.stl 1 ?_
 refine WP.dn ?_
 refine NX.then_n ?_
 refine CP.ret ?_
 replace hs := Option.some.inj hs
 simp only [Prod.mk.injEq] at hs
 obtain ⟨rfl, rfl, rfl, rfl, rfl⟩ := hs
 exact NX.fin (v := .int .i64 0) (Res.still (by kernel_rfl)) tot htL ⟨a2, n2, c2, rfl, hR2, hB1⟩
def F.purse_Purse_next_3 (d1 : Arr Int 8) (x1 : Int) (d2 : Arr Int 2) (l1 : List S_purse_Held) (d3 : Arr Int 8) (x2 : Int) : Option ((Arr Int 8) × Int × (Arr Int 2) × (List S_purse_Held) × Int) := ((F.purse_Purse_Check d1 x1 d2 l1).bind fun x3 => (if (x3 != 0) = true then (some ((zA 8), 0, (zA 2), [], 3)) else (if (x1 == 1099511627776) = true then (some ((zA 8), 0, (zA 2), [], 17)) else ((F.slices_Clone_purse_Held_purse_Held l1).bind fun l2 => ((F.purse_Purse_Back_1 d1 (IntKind.i64.wrap (x1 + 1)) d2 l2 d3 x2).bind fun (x4, d4, x5, d5, d6) => (if (x4 != 0) = true then (some ((zA 8), 0, (zA 2), [], x4)) else (some (d4, x5, d5, d6, 0))))))))
theorem P.purse_Purse_next_3 (g0 : GW) (m0 : Nat) (m1 : Nat) (d1 : Arr Int 8) (x1 : Int) (d2 : Arr Int 2) (l1 : List S_purse_Held) (d3 : Arr Int 8) (x2 : Int) (a1 : Option Addr) (n1 : Nat) (c1 : Nat) (b1 : Nat) (b2 : Nat) (hR1 : RdS k_S_purse_Held g0 56 a1 n1 c1 l1) (hB1 : Box g0 m0 b1 29 [encA .u8 d3] [8]) (hB2 : Box g0 m1 b2 3 [[.int .i64 x2]] [1]) (hm1_0 : m1 ≠ m0) (hm0 : m0 ≠ 0) (hm1 : m1 ≠ 0) (o1 : Arr Int 8) (o2 : Int) (o3 : Arr Int 2) (o4 : List S_purse_Held) (o5 : Int) (hs : F.purse_Purse_next_3 d1 x1 d2 l1 d3 x2 = some (o1, o2, o3, o4, o5)) :
  Calls Try.prog 51 #[AG [encA .u8 d1, [.int .i64 x1], encA .i64 d2, [.slice a1 n1 c1]], .func (.func 55) #[] #[.pointer (some ⟨b1, 0, none⟩), .pointer (some ⟨b2, 0, none⟩)]] g0.w (Ret NoM g0 fun v g => ∃ (a_1 : Option Addr) (n_1 : Nat) (c_1 : Nat), v = .tuple #[AG [encA .u8 o1, [.int .i64 o2], encA .i64 o3, [.slice a_1 n_1 c_1]], .int .i64 o5] ∧ RdS k_S_purse_Held g 56 a_1 n_1 c_1 o4) := by
 refine calls_of (args := [AG [encA .u8 d1, [.int .i64 x1], encA .i64 d2, [.slice a1 n1 c1]], .func (.func 55) #[] #[.pointer (some ⟨b1, 0, none⟩), .pointer (some ⟨b2, 0, none⟩)]]) Try.func51 rfl (m0 + m1 + 0) ?_
 intro t ht htL
 refine ⟨_, rfl, ?_⟩
 refine CP.refr 34 [(0, AG [encA .u8 d1, [.int .i64 x1], encA .i64 d2, [.slice a1 n1 c1]]), (1, .func (.func 55) #[] #[.pointer (some ⟨b1, 0, none⟩), .pointer (some ⟨b2, 0, none⟩)])] (by kernel_rfl) (by kernel_rfl) ?_
 intro ds
 have tot : Step (fun l => NoM l ∨ t ≤ l) g0 g0 := Step.refl _ _
 unfold F.purse_Purse_next_3 at hs
 refine CP.seqR ?_
 refine WP.alloc (T := 32) (t + 1) [encA .u8 d1, [.int .i64 x1], encA .i64 d2, [.slice a1 n1 c1]] [8, 1, 2, 1] (by kernel_rfl) (by simp [len_encA]) ?_
 intro g1 b3 st1 hB3
 replace hR1 := hR1.mono st1 (fun x => x)
 replace hB1 := hB1.mono st1 (fun x => x)
 replace hB2 := hB2.mono st1 (fun x => x)
 replace tot := tot.trans st1.pure
 refine WP.alloc (T := 32) (t + 2) [encA .u8 (zA 8), [.int .i64 0], encA .i64 (zA 2), [.slice none 0 0]] [8, 1, 2, 1] (by kernel_rfl) (by simp [len_encA]) ?_
 intro g2 b4 st2 hB4
 replace hR1 := hR1.mono st2 (fun x => x)
 replace hB1 := hB1.mono st2 (fun x => x)
 replace hB2 := hB2.mono st2 (fun x => x)
 replace hB3 := hB3.mono st2 (fun x => x)
 replace tot := tot.trans st2.pure
 refine WP.stl 1 ?_
 refine WP.dn ?_
 refine NX.then_n ?_
 refine CP.seq ?_
 refine CP.block ?_
 refine CP.seqR ?_
 refine WP.loadB (v := AG [encA .u8 d1, [.int .i64 x1], encA .i64 d2, [.slice a1 n1 c1]]) hB3 (by kernel_rfl) (by kernel_rfl) ?_
 replace hs := Option.bind_eq_some_iff.1 hs
 obtain ⟨x3, hk1, hs⟩ := hs
 have hcal1 := P.purse_Purse_Check g2 d1 x1 d2 l1 a1 n1 c1 hR1 x3 hk1
 refine WP.callC hcal1 (by kernel_rfl) ?_
 rintro _ g3 st3 rfl
 replace hB1 := hB1.mono st3 (fun x => x)
 replace hB2 := hB2.mono st3 (fun x => x)
 replace hB3 := hB3.mono st3 (fun x => x)
 replace hR1 := hR1.mono st3 (fun x => x)
 replace hB4 := hB4.mono st3 (fun x => x)
 replace tot := tot.trans st3.pure
 refine WP.stl 2 ?_
 refine WP.dn ?_
 refine NX.then_n ?_
 refine CP.cond (b := (x3 != 0)) (by kernel_rfl) (fun h1 => ?_) (fun h1 => ?_)
 ·replace hs := of_if_t hs h1
  refine CP.seqR ?_
  refine WP.buildS (places := #[(0, 8), (8, 1), (9, 2), (11, 1)]) (t := 32) [encA .u8 (zA 8), [.int .i64 0], encA .i64 (zA 2), [.slice none 0 0]] [8, 1, 2, 1] (by kernel_rfl) (by kernel_rfl) (by simp [len_encA]) (by kernel_rfl) (.nil) ?_
  refine WP.storeB (ty := 32) (off := 0) (v := AG [encA .u8 (zA 8), [.int .i64 0], encA .i64 (zA 2), [.slice none 0 0]]) hB4 [encA .u8 (zA 8), [.int .i64 0], encA .i64 (zA 2), [.slice none 0 0]] [8, 1, 2, 1] (by kernel_rfl) (by kernel_rfl) (by simp [len_encA]) (by kernel_rfl) [encA .u8 (zA 8), [.int .i64 0], encA .i64 (zA 2), [.slice none 0 0]] (by kernel_rfl) (.arr (.one rfl (.arr (.one rfl .nil)))) ?_
  intro g4 st4 hB5
  replace hB1 := hB1.mono st4 (WL.no1 (by omega))
  replace hB2 := hB2.mono st4 (WL.no1 (by omega))
  replace hB3 := hB3.mono st4 (WL.no1 (by omega))
  replace hR1 := hR1.mono st4 (WL.no1 (by omega))
  replace tot := tot.trans (st4.up1 (.inr (by omega)))
  clear hB4
  have hB4 := hB5
  clear hB5
  refine WP.stl 1 ?_
  refine WP.dn ?_
  refine NX.then_n ?_
  refine CP.ret ?_
  refine NX.block_r ?_
  refine NX.then_r ?_
  replace hs := Option.some.inj hs
  simp only [Prod.mk.injEq] at hs
  obtain ⟨rfl, rfl, rfl, rfl, rfl⟩ := hs
  exact NX.fin (v := .tuple #[AG [encA .u8 (zA 8), [.int .i64 0], encA .i64 (zA 2), [.slice none 0 0]], .int .i64 3]) (Res.two rfl (RV.box (agg := true) (size := 12) (rs := [encA .u8 (zA 8), [.int .i64 0], encA .i64 (zA 2), [.slice none 0 0]]) hB4 (by kernel_rfl) (by kernel_rfl) (by kernel_rfl) (by kernel_rfl)) (RV.tmp (by kernel_rfl))) tot htL ⟨none, 0, 0, rfl, (RdS.nil _ _ _)⟩
 replace hs := of_if_f hs h1
 refine CP.seqR ?_
 refine WP.stl 1 ?_
 refine WP.loadB (v := .int .i64 x1) hB3 (by kernel_rfl) (by kernel_rfl) ?_
 refine WP.stl 2 ?_
 refine WP.dn ?_
 refine NX.then_n ?_
 refine CP.cond (b := (x1 == 1099511627776)) (by kernel_rfl) (fun h2 => ?_) (fun h2 => ?_)
 ·replace hs := of_if_t hs h2
  refine CP.seqR ?_
  refine WP.buildS (places := #[(0, 8), (8, 1), (9, 2), (11, 1)]) (t := 32) [encA .u8 (zA 8), [.int .i64 0], encA .i64 (zA 2), [.slice none 0 0]] [8, 1, 2, 1] (by kernel_rfl) (by kernel_rfl) (by simp [len_encA]) (by kernel_rfl) (.nil) ?_
  refine WP.storeB (ty := 32) (off := 0) (v := AG [encA .u8 (zA 8), [.int .i64 0], encA .i64 (zA 2), [.slice none 0 0]]) hB4 [encA .u8 (zA 8), [.int .i64 0], encA .i64 (zA 2), [.slice none 0 0]] [8, 1, 2, 1] (by kernel_rfl) (by kernel_rfl) (by simp [len_encA]) (by kernel_rfl) [encA .u8 (zA 8), [.int .i64 0], encA .i64 (zA 2), [.slice none 0 0]] (by kernel_rfl) (.arr (.one rfl (.arr (.one rfl .nil)))) ?_
  intro g5 st5 hB6
  replace hB1 := hB1.mono st5 (WL.no1 (by omega))
  replace hB2 := hB2.mono st5 (WL.no1 (by omega))
  replace hB3 := hB3.mono st5 (WL.no1 (by omega))
  replace hR1 := hR1.mono st5 (WL.no1 (by omega))
  replace tot := tot.trans (st5.up1 (.inr (by omega)))
  clear hB4
  have hB4 := hB6
  clear hB6
  refine WP.stl 1 ?_
  refine WP.dn ?_
  refine NX.then_n ?_
  refine CP.refr 34 [(4, .pointer (some ⟨b4, 0, none⟩)), (5, .int .i64 17)] (by kernel_rfl) (by kernel_rfl) ?_
  clear ds
  intro ds
  refine CP.ret ?_
  refine NX.block_r ?_
  refine NX.then_r ?_
  replace hs := Option.some.inj hs
  simp only [Prod.mk.injEq] at hs
  obtain ⟨rfl, rfl, rfl, rfl, rfl⟩ := hs
  exact NX.fin (v := .tuple #[AG [encA .u8 (zA 8), [.int .i64 0], encA .i64 (zA 2), [.slice none 0 0]], .int .i64 17]) (Res.two rfl (RV.box (agg := true) (size := 12) (rs := [encA .u8 (zA 8), [.int .i64 0], encA .i64 (zA 2), [.slice none 0 0]]) hB4 (by kernel_rfl) (by kernel_rfl) (by kernel_rfl) (by kernel_rfl)) (RV.tmp (by kernel_rfl))) tot htL ⟨none, 0, 0, rfl, (RdS.nil _ _ _)⟩
 replace hs := of_if_f hs h2
 refine CP.skip ?_
 refine NX.block_n ?_
 refine NX.then_n ?_
 refine CP.seqR ?_
 refine WP.loadB (v := AG [encA .u8 d1, [.int .i64 x1], encA .i64 d2, [.slice a1 n1 c1]]) hB3 (by kernel_rfl) (by kernel_rfl) ?_
 refine WP.alloc (T := 32) (t + 3) [encA .u8 (zA 8), [.int .i64 0], encA .i64 (zA 2), [.slice none 0 0]] [8, 1, 2, 1] (by kernel_rfl) (by simp [len_encA]) ?_
 intro g6 b5 st6 hB7
 replace hB1 := hB1.mono st6 (fun x => x)
 replace hB2 := hB2.mono st6 (fun x => x)
 replace hB3 := hB3.mono st6 (fun x => x)
 replace hR1 := hR1.mono st6 (fun x => x)
 replace hB4 := hB4.mono st6 (fun x => x)
 replace tot := tot.trans st6.pure
 refine WP.storeB (ty := 32) (off := 0) (v := AG [encA .u8 d1, [.int .i64 x1], encA .i64 d2, [.slice a1 n1 c1]]) hB7 [encA .u8 d1, [.int .i64 x1], encA .i64 d2, [.slice a1 n1 c1]] [8, 1, 2, 1] (by kernel_rfl) (by kernel_rfl) (by simp [len_encA]) (by kernel_rfl) [encA .u8 d1, [.int .i64 x1], encA .i64 d2, [.slice a1 n1 c1]] (by kernel_rfl) (.arr (.one rfl (.arr (.one rfl .nil)))) ?_
 intro g7 st7 hB8
 replace hB1 := hB1.mono st7 (WL.no1 (by omega))
 replace hB2 := hB2.mono st7 (WL.no1 (by omega))
 replace hB3 := hB3.mono st7 (WL.no1 (by omega))
 replace hR1 := hR1.mono st7 (WL.no1 (by omega))
 replace hB4 := hB4.mono st7 (WL.no1 (by omega))
 replace tot := tot.trans (st7.up1 (.inr (by omega)))
 clear hB7
 have hB7 := hB8
 clear hB8
 refine WP.dn ?_
 refine NX.then_n ?_
 refine CP.refr 34 [(1, .func (.func 55) #[] #[.pointer (some ⟨b1, 0, none⟩), .pointer (some ⟨b2, 0, none⟩)]), (2, .pointer (some ⟨b3, 0, none⟩)), (4, .pointer (some ⟨b4, 0, none⟩)), (6, .pointer (some ⟨b5, 0, none⟩))] (by kernel_rfl) (by kernel_rfl) ?_
 clear ds
 intro ds
 refine CP.seqR ?_
 refine WP.stl 1 ?_
 refine WP.loadB (v := .int .i64 x1) hB7 (by kernel_rfl) (by kernel_rfl) ?_
 refine WP.stl 2 ?_
 refine WP.storeB (ty := 3) (off := 8) (v := .int .i64 (IntKind.i64.wrap (x1 + 1))) hB7 [[.int .i64 (IntKind.i64.wrap (x1 + 1))]] [1] (by kernel_rfl) (by kernel_rfl) rfl (by kernel_rfl) [encA .u8 d1, [.int .i64 (IntKind.i64.wrap (x1 + 1))], encA .i64 d2, [.slice a1 n1 c1]] (by kernel_rfl) (.one rfl .nil) ?_
 intro g8 st8 hB9
 replace hB1 := hB1.mono st8 (WL.no1 (by omega))
 replace hB2 := hB2.mono st8 (WL.no1 (by omega))
 replace hB3 := hB3.mono st8 (WL.no1 (by omega))
 replace hR1 := hR1.mono st8 (WL.no1 (by omega))
 replace hB4 := hB4.mono st8 (WL.no1 (by omega))
 replace tot := tot.trans (st8.up1 (.inr (by omega)))
 clear hB7
 have hB7 := hB9
 clear hB9
 refine WP.dn ?_
 refine NX.then_n ?_
 refine CP.seqR ?_
 refine WP.stl 1 ?_
 refine WP.loadB (v := .slice a1 n1 c1) hB3 (by kernel_rfl) (by kernel_rfl) ?_
 replace hs := Option.bind_eq_some_iff.1 hs
 obtain ⟨l2, hk2, hs⟩ := hs
 have hcal2 := P.slices_Clone_purse_Held_purse_Held g8 (t + 4) l1 a1 n1 c1 hR1 l2 hk2
 refine WP.callC hcal2 (by kernel_rfl) ?_
 rintro _ g9 st9 ⟨a2, n2, c2, rfl, hR2⟩
 replace hB1 := hB1.mono st9 (fun x => x)
 replace hB2 := hB2.mono st9 (fun x => x)
 replace hB3 := hB3.mono st9 (fun x => x)
 replace hR1 := hR1.mono st9 (fun x => x)
 replace hB4 := hB4.mono st9 (fun x => x)
 replace hB7 := hB7.mono st9 (fun x => x)
 replace tot := tot.trans st9.pure
 refine WP.stl 1 ?_
 refine WP.storeB (ty := 30) (off := 11) (v := .slice a2 n2 c2) hB7 [[.slice a2 n2 c2]] [1] (by kernel_rfl) (by kernel_rfl) rfl (by kernel_rfl) [encA .u8 d1, [.int .i64 (IntKind.i64.wrap (x1 + 1))], encA .i64 d2, [.slice a2 n2 c2]] (by kernel_rfl) (.one rfl .nil) ?_
 intro g10 st10 hB10
 replace hB1 := hB1.mono st10 (WL.no1 (by omega))
 replace hB2 := hB2.mono st10 (WL.no1 (by omega))
 replace hB3 := hB3.mono st10 (WL.no1 (by omega))
 replace hR1 := hR1.mono st10 (WL.no1 (by omega))
 replace hB4 := hB4.mono st10 (WL.no1 (by omega))
 replace hR2 := hR2.mono st10 (WL.no1 (by omega)) (WL.no1 (by omega))
 replace tot := tot.trans (st10.up1 (.inr (by omega)))
 clear hB7
 have hB7 := hB10
 clear hB10
 refine WP.dn ?_
 refine NX.then_n ?_
 refine CP.seq ?_
 refine CP.seqR ?_
 refine WP.stl 1 ?_
 replace hs := Option.bind_eq_some_iff.1 hs
 obtain ⟨⟨x4, d4, x5, d5, d6⟩, hk3, hs⟩ := hs
 dsimp only at hs
 have hcal3 := P.purse_Purse_Back_1 g10 (t + 3) (t + 4) m0 m1 d1 (IntKind.i64.wrap (x1 + 1)) d2 l2 d3 x2 a2 n2 c2 b5 b1 b2 hR2 hB7 hB1 hB2 (by omega) (by omega) (by omega) (by omega) (by omega) (by omega) (by omega) (by omega) (by omega) (by omega) x4 d4 x5 d5 d6 hk3
 refine WP.callC hcal3 (by kernel_rfl) ?_
 rintro _ g11 st11 ⟨a3, n3, c3, rfl, hR3, hB11⟩
 replace hB1 := hB1.mono st11 (WL.no2 (by omega) (by omega))
 replace hB2 := hB2.mono st11 (WL.no2 (by omega) (by omega))
 replace hB4 := hB4.mono st11 (WL.no2 (by omega) (by omega))
 replace tot := tot.trans (st11.up2 (.inr (by omega)) (.inr (by omega)))
 clear hB7
 have hB7 := hB11
 clear hB11
 refine WP.stl 1 ?_
 refine WP.dn ?_
 refine NX.then_n ?_
 refine CP.refr 34 [(4, .pointer (some ⟨b4, 0, none⟩)), (6, .pointer (some ⟨b5, 0, none⟩)), (7, .int .i64 x4)] (by kernel_rfl) (by kernel_rfl) ?_
 clear ds
 intro ds
 refine CP.seqR ?_
 refine WP.stl 2 ?_
 refine WP.dn ?_
 refine NX.then_n ?_
 refine CP.cond (b := (x4 != 0)) (by kernel_rfl) (fun h3 => ?_) (fun h3 => ?_)
 ·replace hs := of_if_t hs h3
  refine CP.seqR ?_
  refine WP.buildS (places := #[(0, 8), (8, 1), (9, 2), (11, 1)]) (t := 32) [encA .u8 (zA 8), [.int .i64 0], encA .i64 (zA 2), [.slice none 0 0]] [8, 1, 2, 1] (by kernel_rfl) (by kernel_rfl) (by simp [len_encA]) (by kernel_rfl) (.nil) ?_
  refine WP.stl 1 ?_
  refine WP.storeB (ty := 32) (off := 0) (v := AG [encA .u8 (zA 8), [.int .i64 0], encA .i64 (zA 2), [.slice none 0 0]]) hB4 [encA .u8 (zA 8), [.int .i64 0], encA .i64 (zA 2), [.slice none 0 0]] [8, 1, 2, 1] (by kernel_rfl) (by kernel_rfl) (by simp [len_encA]) (by kernel_rfl) [encA .u8 (zA 8), [.int .i64 0], encA .i64 (zA 2), [.slice none 0 0]] (by kernel_rfl) (.arr (.one rfl (.arr (.one rfl .nil)))) ?_
  intro g12 st12 hB12
  replace hB7 := hB7.mono st12 (WL.no1 (by omega))
  replace hR3 := hR3.mono st12 (WL.no1 (by omega))
  replace tot := tot.trans (st12.up1 (.inr (by omega)))
  clear hB4
  have hB4 := hB12
  clear hB12
  refine WP.stl 1 ?_
  refine WP.dn ?_
  refine NX.then_n ?_
  refine CP.ret ?_
  refine NX.then_r ?_
  replace hs := Option.some.inj hs
  simp only [Prod.mk.injEq] at hs
  obtain ⟨rfl, rfl, rfl, rfl, rfl⟩ := hs
  exact NX.fin (v := .tuple #[AG [encA .u8 (zA 8), [.int .i64 0], encA .i64 (zA 2), [.slice none 0 0]], .int .i64 x4]) (Res.two rfl (RV.box (agg := true) (size := 12) (rs := [encA .u8 (zA 8), [.int .i64 0], encA .i64 (zA 2), [.slice none 0 0]]) hB4 (by kernel_rfl) (by kernel_rfl) (by kernel_rfl) (by kernel_rfl)) (RV.tmp (by kernel_rfl))) tot htL ⟨none, 0, 0, rfl, (RdS.nil _ _ _)⟩
 replace hs := of_if_f hs h3
 refine CP.skip ?_
 refine NX.then_n ?_
 refine CP.seqR ?_
 refine WP.loadB (v := AG [encA .u8 d4, [.int .i64 x5], encA .i64 d5, [.slice a3 n3 c3]]) hB7 (by kernel_rfl) (by kernel_rfl) ?_
 refine WP.storeB (ty := 32) (off := 0) (v := AG [encA .u8 d4, [.int .i64 x5], encA .i64 d5, [.slice a3 n3 c3]]) hB4 [encA .u8 d4, [.int .i64 x5], encA .i64 d5, [.slice a3 n3 c3]] [8, 1, 2, 1] (by kernel_rfl) (by kernel_rfl) (by simp [len_encA]) (by kernel_rfl) [encA .u8 d4, [.int .i64 x5], encA .i64 d5, [.slice a3 n3 c3]] (by kernel_rfl) (.arr (.one rfl (.arr (.one rfl .nil)))) ?_
 intro g13 st13 hB13
 replace hR3 := hR3.mono st13 (WL.no1 (by omega))
 replace hB7 := hB7.mono st13 (WL.no1 (by omega))
 replace tot := tot.trans (st13.up1 (.inr (by omega)))
 clear hB4
 have hB4 := hB13
 clear hB13
 refine WP.stl 1 ?_
 refine WP.dn ?_
 refine NX.then_n ?_
 refine CP.ret ?_
 replace hs := Option.some.inj hs
 simp only [Prod.mk.injEq] at hs
 obtain ⟨rfl, rfl, rfl, rfl, rfl⟩ := hs
 exact NX.fin (v := .tuple #[AG [encA .u8 d4, [.int .i64 x5], encA .i64 d5, [.slice a3 n3 c3]], .int .i64 0]) (Res.two rfl (RV.box (agg := true) (size := 12) (rs := [encA .u8 d4, [.int .i64 x5], encA .i64 d5, [.slice a3 n3 c3]]) hB4 (by kernel_rfl) (by kernel_rfl) (by kernel_rfl) (by kernel_rfl)) (RV.tmp (by kernel_rfl))) tot htL ⟨a3, n3, c3, rfl, hR3⟩
def F.purse_Purse_Back (d1 : Arr Int 8) (x1 : Int) (d2 : Arr Int 2) (l1 : List S_purse_Held) (d3 : Arr Int 8) (x2 : Int) : Option ((Arr Int 8) × Int × (Arr Int 2) × (List S_purse_Held) × Int) := ((F.purse_Purse_next_3 d1 x1 d2 l1 d3 x2).bind fun (d4, x3, d5, l2, x4) => (some (d4, x3, d5, l2, x4)))
theorem P.purse_Purse_Back (g0 : GW) (d1 : Arr Int 8) (x1 : Int) (d2 : Arr Int 2) (l1 : List S_purse_Held) (d3 : Arr Int 8) (x2 : Int) (a1 : Option Addr) (n1 : Nat) (c1 : Nat) (hR1 : RdS k_S_purse_Held g0 56 a1 n1 c1 l1) (o1 : Arr Int 8) (o2 : Int) (o3 : Arr Int 2) (o4 : List S_purse_Held) (o5 : Int) (hs : F.purse_Purse_Back d1 x1 d2 l1 d3 x2 = some (o1, o2, o3, o4, o5)) :
  Calls Try.prog 23 #[AG [encA .u8 d1, [.int .i64 x1], encA .i64 d2, [.slice a1 n1 c1]], AG [encA .u8 d3], .int .i64 x2] g0.w (Ret NoM g0 fun v g => ∃ (a_1 : Option Addr) (n_1 : Nat) (c_1 : Nat), v = .tuple #[AG [encA .u8 o1, [.int .i64 o2], encA .i64 o3, [.slice a_1 n_1 c_1]], .int .i64 o5] ∧ RdS k_S_purse_Held g 56 a_1 n_1 c_1 o4) := by
 refine calls_of (args := [AG [encA .u8 d1, [.int .i64 x1], encA .i64 d2, [.slice a1 n1 c1]], AG [encA .u8 d3], .int .i64 x2]) Try.func23 rfl (0) ?_
 intro t ht htL
 refine ⟨_, rfl, ?_⟩
 refine CP.refr 13 [(0, AG [encA .u8 d1, [.int .i64 x1], encA .i64 d2, [.slice a1 n1 c1]]), (1, AG [encA .u8 d3]), (2, .int .i64 x2)] (by kernel_rfl) (by kernel_rfl) ?_
 intro ds
 have tot : Step (fun l => NoM l ∨ t ≤ l) g0 g0 := Step.refl _ _
 unfold F.purse_Purse_Back at hs
 refine CP.seqR ?_
 refine WP.alloc (T := 32) (t + 1) [encA .u8 d1, [.int .i64 x1], encA .i64 d2, [.slice a1 n1 c1]] [8, 1, 2, 1] (by kernel_rfl) (by simp [len_encA]) ?_
 intro g1 b1 st1 hB1
 replace hR1 := hR1.mono st1 (fun x => x)
 replace tot := tot.trans st1.pure
 refine WP.alloc (T := 29) (t + 2) [encA .u8 d3] [8] (by kernel_rfl) (by simp [len_encA]) ?_
 intro g2 b2 st2 hB2
 replace hR1 := hR1.mono st2 (fun x => x)
 replace hB1 := hB1.mono st2 (fun x => x)
 replace tot := tot.trans st2.pure
 refine WP.alloc (T := 3) (t + 3) [[.int .i64 x2]] [1] (by kernel_rfl) rfl ?_
 intro g3 b3 st3 hB3
 replace hR1 := hR1.mono st3 (fun x => x)
 replace hB1 := hB1.mono st3 (fun x => x)
 replace hB2 := hB2.mono st3 (fun x => x)
 replace tot := tot.trans st3.pure
 refine WP.alloc (T := 32) (t + 4) [encA .u8 (zA 8), [.int .i64 0], encA .i64 (zA 2), [.slice none 0 0]] [8, 1, 2, 1] (by kernel_rfl) (by simp [len_encA]) ?_
 intro g4 b4 st4 hB4
 replace hR1 := hR1.mono st4 (fun x => x)
 replace hB1 := hB1.mono st4 (fun x => x)
 replace hB2 := hB2.mono st4 (fun x => x)
 replace hB3 := hB3.mono st4 (fun x => x)
 replace tot := tot.trans st4.pure
 refine WP.stl 1 ?_
 refine WP.dn ?_
 refine NX.then_n ?_
 refine CP.seqR ?_
 refine WP.loadB (v := AG [encA .u8 d1, [.int .i64 x1], encA .i64 d2, [.slice a1 n1 c1]]) hB1 (by kernel_rfl) (by kernel_rfl) ?_
 refine WP.stl 1 ?_
 replace hs := Option.bind_eq_some_iff.1 hs
 obtain ⟨⟨d4, x3, d5, l2, x4⟩, hk1, hs⟩ := hs
 dsimp only at hs
 have hcal1 := P.purse_Purse_next_3 g4 (t + 2) (t + 3) d1 x1 d2 l1 d3 x2 a1 n1 c1 b2 b3 hR1 hB2 hB3 (by omega) (by omega) (by omega) d4 x3 d5 l2 x4 hk1
 refine WP.callC hcal1 (by kernel_rfl) ?_
 rintro _ g5 st5 ⟨a2, n2, c2, rfl, hR2⟩
 replace hB1 := hB1.mono st5 (fun x => x)
 replace hR1 := hR1.mono st5 (fun x => x)
 replace hB2 := hB2.mono st5 (fun x => x)
 replace hB3 := hB3.mono st5 (fun x => x)
 replace hB4 := hB4.mono st5 (fun x => x)
 replace tot := tot.trans st5.pure
 refine WP.stl 2 ?_
 refine WP.storeB (ty := 32) (off := 0) (v := AG [encA .u8 d4, [.int .i64 x3], encA .i64 d5, [.slice a2 n2 c2]]) hB4 [encA .u8 d4, [.int .i64 x3], encA .i64 d5, [.slice a2 n2 c2]] [8, 1, 2, 1] (by kernel_rfl) (by kernel_rfl) (by simp [len_encA]) (by kernel_rfl) [encA .u8 d4, [.int .i64 x3], encA .i64 d5, [.slice a2 n2 c2]] (by kernel_rfl) (.arr (.one rfl (.arr (.one rfl .nil)))) ?_
 intro g6 st6 hB5
 replace hB1 := hB1.mono st6 (WL.no1 (by omega))
 replace hR1 := hR1.mono st6 (WL.no1 (by omega))
 replace hB2 := hB2.mono st6 (WL.no1 (by omega))
 replace hB3 := hB3.mono st6 (WL.no1 (by omega))
 replace hR2 := hR2.mono st6 (WL.no1 (by omega))
 replace tot := tot.trans (st6.up1 (.inr (by omega)))
 clear hB4
 have hB4 := hB5
 clear hB5
 refine WP.stl 1 ?_
 refine WP.dn ?_
 refine NX.then_n ?_
 refine CP.ret ?_
 replace hs := Option.some.inj hs
 simp only [Prod.mk.injEq] at hs
 obtain ⟨rfl, rfl, rfl, rfl, rfl⟩ := hs
 exact NX.fin (v := .tuple #[AG [encA .u8 d4, [.int .i64 x3], encA .i64 d5, [.slice a2 n2 c2]], .int .i64 x4]) (Res.two rfl (RV.box (agg := true) (size := 12) (rs := [encA .u8 d4, [.int .i64 x3], encA .i64 d5, [.slice a2 n2 c2]]) hB4 (by kernel_rfl) (by kernel_rfl) (by kernel_rfl) (by kernel_rfl)) (RV.tmp (by kernel_rfl))) tot htL ⟨a2, n2, c2, rfl, hR2⟩
def F.purse_Purse_Total (d1 : Arr Int 8) (x1 : Int) (d2 : Arr Int 2) (l1 : List S_purse_Held) : Option (Int) := ((F.purse_Purse_Check d1 x1 d2 l1).bind fun x2 => (if (x2 != 0) = true then (some 0) else ((F.purse_Purse_amounts d1 x1 d2 l1).bind fun l2 => ((F.coin_Sum l2).bind fun (x3, x4) => (some x3)))))
theorem P.purse_Purse_Total (g0 : GW) (d1 : Arr Int 8) (x1 : Int) (d2 : Arr Int 2) (l1 : List S_purse_Held) (a1 : Option Addr) (n1 : Nat) (c1 : Nat) (hR1 : RdS k_S_purse_Held g0 56 a1 n1 c1 l1) (o1 : Int) (hs : F.purse_Purse_Total d1 x1 d2 l1 = some o1) :
  Calls Try.prog 15 #[AG [encA .u8 d1, [.int .i64 x1], encA .i64 d2, [.slice a1 n1 c1]]] g0.w (Ret NoM g0 fun v g => v = .int .i64 o1) := by
 refine calls_of (args := [AG [encA .u8 d1, [.int .i64 x1], encA .i64 d2, [.slice a1 n1 c1]]]) Try.func15 rfl (0) ?_
 intro t ht htL
 refine ⟨_, rfl, ?_⟩
 refine CP.refr 15 [(0, AG [encA .u8 d1, [.int .i64 x1], encA .i64 d2, [.slice a1 n1 c1]])] (by kernel_rfl) (by kernel_rfl) ?_
 intro ds
 have tot : Step (fun l => NoM l ∨ t ≤ l) g0 g0 := Step.refl _ _
 unfold F.purse_Purse_Total at hs
 refine CP.seqR ?_
 refine WP.alloc (T := 32) (t + 1) [encA .u8 d1, [.int .i64 x1], encA .i64 d2, [.slice a1 n1 c1]] [8, 1, 2, 1] (by kernel_rfl) (by simp [len_encA]) ?_
 intro g1 b1 st1 hB1
 replace hR1 := hR1.mono st1 (fun x => x)
 replace tot := tot.trans st1.pure
 refine WP.stl 1 ?_
 refine WP.dn ?_
 refine NX.then_n ?_
 refine CP.seq ?_
 refine CP.seqR ?_
 refine WP.loadB (v := AG [encA .u8 d1, [.int .i64 x1], encA .i64 d2, [.slice a1 n1 c1]]) hB1 (by kernel_rfl) (by kernel_rfl) ?_
 replace hs := Option.bind_eq_some_iff.1 hs
 obtain ⟨x2, hk1, hs⟩ := hs
 have hcal1 := P.purse_Purse_Check g1 d1 x1 d2 l1 a1 n1 c1 hR1 x2 hk1
 refine WP.callC hcal1 (by kernel_rfl) ?_
 rintro _ g2 st2 rfl
 replace hB1 := hB1.mono st2 (fun x => x)
 replace hR1 := hR1.mono st2 (fun x => x)
 replace tot := tot.trans st2.pure
 refine WP.stl 1 ?_
 refine WP.dn ?_
 refine NX.then_n ?_
 refine CP.cond (b := (x2 != 0)) (by kernel_rfl) (fun h1 => ?_) (fun h1 => ?_)
 ·replace hs := of_if_t hs h1
  refine CP.seqR ?_
  refine WP.stl 1 ?_
  refine WP.dn ?_
  refine NX.then_n ?_
  refine CP.ret ?_
  refine NX.then_r ?_
  replace hs := Option.some.inj hs
  obtain rfl := hs
  exact NX.fin (v := .int .i64 0) (Res.still (by kernel_rfl)) tot htL rfl
 replace hs := of_if_f hs h1
 refine CP.skip ?_
 refine NX.then_n ?_
 refine CP.seqR ?_
 refine WP.loadB (v := AG [encA .u8 d1, [.int .i64 x1], encA .i64 d2, [.slice a1 n1 c1]]) hB1 (by kernel_rfl) (by kernel_rfl) ?_
 replace hs := Option.bind_eq_some_iff.1 hs
 obtain ⟨l2, hk2, hs⟩ := hs
 have hcal2 := P.purse_Purse_amounts g2 d1 x1 d2 l1 a1 n1 c1 hR1 l2 hk2
 refine WP.callC hcal2 (by kernel_rfl) ?_
 rintro _ g3 st3 ⟨a2, n2, c2, rfl, hR2⟩
 replace hB1 := hB1.mono st3 (fun x => x)
 replace hR1 := hR1.mono st3 (fun x => x)
 replace tot := tot.trans st3.pure
 replace hs := Option.bind_eq_some_iff.1 hs
 obtain ⟨⟨x3, x4⟩, hk3, hs⟩ := hs
 dsimp only at hs
 have hcal3 := P.coin_Sum g3 l2 a2 n2 c2 hR2 x3 x4 hk3
 refine WP.callC hcal3 (by kernel_rfl) ?_
 rintro _ g4 st4 rfl
 replace hB1 := hB1.mono st4 (fun x => x)
 replace hR1 := hR1.mono st4 (fun x => x)
 replace hR2 := hR2.mono st4 (fun x => x)
 replace tot := tot.trans st4.pure
 refine WP.stl 5 ?_
 refine WP.dn ?_
 refine NX.then_n ?_
 refine CP.refr 15 [(3, .int .i64 x3)] (by kernel_rfl) (by kernel_rfl) ?_
 clear ds
 intro ds
 refine CP.seqR ?_
 refine WP.stl 2 ?_
 refine WP.dn ?_
 refine NX.then_n ?_
 refine CP.ret ?_
 replace hs := Option.some.inj hs
 obtain rfl := hs
 exact NX.fin (v := .int .i64 x3) (Res.still (by kernel_rfl)) tot htL rfl
def F.baizelaw47_told.c1 (q1 : Bool) : Option (Bool) := (some q1)
def F.baizelaw47_told : Option (Bool) := ((F.purse_New (⟨[1, 0, 0, 0, 0, 0, 0, 0], rfl⟩ : Arr Int 8) 10 5).bind fun (d1, x1, d2, l1, x2) => ((F.purse_Purse_Hold d1 x1 d2 l1 (⟨[2, 0, 0, 0, 0, 0, 0, 0], rfl⟩ : Arr Int 8) 4 0 20).bind fun (d3, x3, d4, l2, x4) => ((F.purse_Purse_Free d3 x3 d4 l2 (⟨[2, 0, 0, 0, 0, 0, 0, 0], rfl⟩ : Arr Int 8) 3).bind fun (d5, x5, d6, l3, x6) => ((F.purse_Purse_Back d3 x3 d4 l2 (⟨[2, 0, 0, 0, 0, 0, 0, 0], rfl⟩ : Arr Int 8) 20).bind fun (d7, x7, d8, l4, x8) => ((F.purse_Purse_Back d3 x3 d4 l2 (⟨[2, 0, 0, 0, 0, 0, 0, 0], rfl⟩ : Arr Int 8) 21).bind fun (d9, x9, d10, l5, x10) => (if (x2 == 0) = true then (if (x4 == 0) = true then (if (x6 == 0) = true then (if (x8 == 20) = true then (if (x10 == 0) = true then (if (d4.1 == (⟨[6, 5], rfl⟩ : Arr Int 2).1) = true then (if (d6.1 == (⟨[7, 8], rfl⟩ : Arr Int 2).1) = true then (if (d10.1 == (⟨[10, 5], rfl⟩ : Arr Int 2).1) = true then (if (x5 == 2) = true then ((F.purse_Purse_Total d5 x5 d6 l3).bind fun x12 => (F.baizelaw47_told.c1 (x12 == 15))) else (F.baizelaw47_told.c1 false)) else (F.baizelaw47_told.c1 false)) else (F.baizelaw47_told.c1 false)) else (F.baizelaw47_told.c1 false)) else (F.baizelaw47_told.c1 false)) else (F.baizelaw47_told.c1 false)) else (F.baizelaw47_told.c1 false)) else (F.baizelaw47_told.c1 false)) else (F.baizelaw47_told.c1 false)))))))
theorem P.baizelaw47_told (g0 : GW) (o1 : Bool) (hs : F.baizelaw47_told = some o1) :
  Calls Try.prog 12 #[] g0.w (Ret NoM g0 fun v g => v = .bool o1) := by
 refine calls_of (args := []) Try.func12 rfl (0) ?_
 intro t ht htL
 refine ⟨_, rfl, ?_⟩
 refine CP.refr 87 [] (by kernel_rfl) (by kernel_rfl) ?_
 intro ds
 have tot : Step (fun l => NoM l ∨ t ≤ l) g0 g0 := Step.refl _ _
 unfold F.baizelaw47_told at hs
 refine CP.seqR ?_
 refine WP.stl 1 ?_
 refine WP.dn ?_
 refine NX.then_n ?_
 refine CP.seqR ?_
 refine WP.stl 1 ?_
 replace hs := Option.bind_eq_some_iff.1 hs
 obtain ⟨⟨d1, x1, d2, l1, x2⟩, hk1, hs⟩ := hs
 dsimp only at hs
 have hcal1 := P.purse_New g0 (t + 1) (⟨[1, 0, 0, 0, 0, 0, 0, 0], rfl⟩ : Arr Int 8) 10 5 d1 x1 d2 l1 x2 hk1
 refine WP.callC hcal1 (by kernel_rfl) ?_
 rintro _ g1 st1 ⟨a1, n1, c1, rfl, hR1⟩
 replace tot := tot.trans st1.pure
 refine WP.stl 3 ?_
 refine WP.alloc (T := 32) (t + 2) [encA .u8 (zA 8), [.int .i64 0], encA .i64 (zA 2), [.slice none 0 0]] [8, 1, 2, 1] (by kernel_rfl) (by simp [len_encA]) ?_
 intro g2 b1 st2 hB1
 replace hR1 := hR1.mono st2 (fun x => x) (fun x => x)
 replace tot := tot.trans st2.pure
 refine WP.storeB (ty := 32) (off := 0) (v := AG [encA .u8 d1, [.int .i64 x1], encA .i64 d2, [.slice a1 n1 c1]]) hB1 [encA .u8 d1, [.int .i64 x1], encA .i64 d2, [.slice a1 n1 c1]] [8, 1, 2, 1] (by kernel_rfl) (by kernel_rfl) (by simp [len_encA]) (by kernel_rfl) [encA .u8 d1, [.int .i64 x1], encA .i64 d2, [.slice a1 n1 c1]] (by kernel_rfl) (.arr (.one rfl (.arr (.one rfl .nil)))) ?_
 intro g3 st3 hB2
 replace hR1 := hR1.mono st3 (WL.no1 (by omega)) (WL.no1 (by omega))
 replace tot := tot.trans (st3.up1 (.inr (by omega)))
 clear hB1
 have hB1 := hB2
 clear hB2
 refine WP.stl 1 ?_
 refine WP.dn ?_
 refine NX.then_n ?_
 refine CP.seqR ?_
 refine WP.loadB (v := AG [encA .u8 d1, [.int .i64 x1], encA .i64 d2, [.slice a1 n1 c1]]) hB1 (by kernel_rfl) (by kernel_rfl) ?_
 refine WP.stl 1 ?_
 refine WP.buildS (places := #[(0, 8), (8, 1), (9, 1), (10, 1)]) (t := 56) [encA .u8 (zA 8), [.int .i64 0], [.int .i64 0], [.int .i64 0]] [8, 1, 1, 1] (by kernel_rfl) (by kernel_rfl) (by simp [len_encA]) (by kernel_rfl) ((.cons (i := 0) (off := 0) (v := AG [encA .u8 (⟨[2, 0, 0, 0, 0, 0, 0, 0], rfl⟩ : Arr Int 8)]) (mid := [encA .u8 (⟨[2, 0, 0, 0, 0, 0, 0, 0], rfl⟩ : Arr Int 8), [.int .i64 0], [.int .i64 0], [.int .i64 0]]) [encA .u8 (⟨[2, 0, 0, 0, 0, 0, 0, 0], rfl⟩ : Arr Int 8)] [8] (by kernel_rfl) (by kernel_rfl) (by simp [len_encA]) (by kernel_rfl) (.cons (i := 1) (off := 8) (v := .int .i64 4) (mid := [encA .u8 (⟨[2, 0, 0, 0, 0, 0, 0, 0], rfl⟩ : Arr Int 8), [.int .i64 4], [.int .i64 0], [.int .i64 0]]) [[.int .i64 4]] [1] (by kernel_rfl) (by kernel_rfl) rfl (by kernel_rfl) (.cons (i := 3) (off := 10) (v := .int .i64 20) (mid := [encA .u8 (⟨[2, 0, 0, 0, 0, 0, 0, 0], rfl⟩ : Arr Int 8), [.int .i64 4], [.int .i64 0], [.int .i64 20]]) [[.int .i64 20]] [1] (by kernel_rfl) (by kernel_rfl) rfl (by kernel_rfl) .nil)))) ?_
 replace hs := Option.bind_eq_some_iff.1 hs
 obtain ⟨⟨d3, x3, d4, l2, x4⟩, hk2, hs⟩ := hs
 dsimp only at hs
 obtain ⟨g5, hw1, st5, hnew⟩ := hR1.freeze (by omega)
 refine WP.regw hw1 ?_
 replace hB1 := hB1.mono st5 (WL.no1 (by omega))
 replace tot := tot.trans (st5.up1 (.inr (by omega)))
 clear hR1
 have hR1 := hnew
 clear hnew
 have hcal2 := P.purse_Purse_Hold g5 d1 x1 d2 l1 (⟨[2, 0, 0, 0, 0, 0, 0, 0], rfl⟩ : Arr Int 8) 4 0 20 a1 n1 c1 hR1 d3 x3 d4 l2 x4 hk2
 refine WP.callC hcal2 (by kernel_rfl) ?_
 rintro _ g4 st4 ⟨a2, n2, c2, rfl, hR2⟩
 replace hB1 := hB1.mono st4 (fun x => x)
 replace hR1 := hR1.mono st4 (fun x => x)
 replace tot := tot.trans st4.pure
 refine WP.stl 3 ?_
 refine WP.alloc (T := 32) (t + 3) [encA .u8 (zA 8), [.int .i64 0], encA .i64 (zA 2), [.slice none 0 0]] [8, 1, 2, 1] (by kernel_rfl) (by simp [len_encA]) ?_
 intro g6 b2 st6 hB3
 replace hB1 := hB1.mono st6 (fun x => x)
 replace hR1 := hR1.mono st6 (fun x => x)
 replace hR2 := hR2.mono st6 (fun x => x)
 replace tot := tot.trans st6.pure
 refine WP.storeB (ty := 32) (off := 0) (v := AG [encA .u8 d3, [.int .i64 x3], encA .i64 d4, [.slice a2 n2 c2]]) hB3 [encA .u8 d3, [.int .i64 x3], encA .i64 d4, [.slice a2 n2 c2]] [8, 1, 2, 1] (by kernel_rfl) (by kernel_rfl) (by simp [len_encA]) (by kernel_rfl) [encA .u8 d3, [.int .i64 x3], encA .i64 d4, [.slice a2 n2 c2]] (by kernel_rfl) (.arr (.one rfl (.arr (.one rfl .nil)))) ?_
 intro g7 st7 hB4
 replace hB1 := hB1.mono st7 (WL.no1 (by omega))
 replace hR1 := hR1.mono st7 (WL.no1 (by omega))
 replace hR2 := hR2.mono st7 (WL.no1 (by omega))
 replace tot := tot.trans (st7.up1 (.inr (by omega)))
 clear hB3
 have hB3 := hB4
 clear hB4
 refine WP.stl 1 ?_
 refine WP.dn ?_
 refine NX.then_n ?_
 refine CP.refr 87 [(2, .int .i64 x2), (3, .pointer (some ⟨b2, 0, none⟩)), (4, .int .i64 x4)] (by kernel_rfl) (by kernel_rfl) ?_
 clear ds
 intro ds
 refine CP.seqR ?_
 refine WP.loadB (v := AG [encA .u8 d3, [.int .i64 x3], encA .i64 d4, [.slice a2 n2 c2]]) hB3 (by kernel_rfl) (by kernel_rfl) ?_
 refine WP.stl 1 ?_
 replace hs := Option.bind_eq_some_iff.1 hs
 obtain ⟨⟨d5, x5, d6, l3, x6⟩, hk3, hs⟩ := hs
 dsimp only at hs
 have hcal3 := P.purse_Purse_Free g7 d3 x3 d4 l2 (⟨[2, 0, 0, 0, 0, 0, 0, 0], rfl⟩ : Arr Int 8) 3 a2 n2 c2 hR2 d5 x5 d6 l3 x6 hk3
 refine WP.callC hcal3 (by kernel_rfl) ?_
 rintro _ g8 st8 ⟨a3, n3, c3, rfl, hR3⟩
 replace hB3 := hB3.mono st8 (fun x => x)
 replace hR2 := hR2.mono st8 (fun x => x)
 replace tot := tot.trans st8.pure
 refine WP.stl 3 ?_
 refine WP.alloc (T := 32) (t + 4) [encA .u8 (zA 8), [.int .i64 0], encA .i64 (zA 2), [.slice none 0 0]] [8, 1, 2, 1] (by kernel_rfl) (by simp [len_encA]) ?_
 intro g9 b3 st9 hB5
 replace hB3 := hB3.mono st9 (fun x => x)
 replace hR2 := hR2.mono st9 (fun x => x)
 replace hR3 := hR3.mono st9 (fun x => x)
 replace tot := tot.trans st9.pure
 refine WP.storeB (ty := 32) (off := 0) (v := AG [encA .u8 d5, [.int .i64 x5], encA .i64 d6, [.slice a3 n3 c3]]) hB5 [encA .u8 d5, [.int .i64 x5], encA .i64 d6, [.slice a3 n3 c3]] [8, 1, 2, 1] (by kernel_rfl) (by kernel_rfl) (by simp [len_encA]) (by kernel_rfl) [encA .u8 d5, [.int .i64 x5], encA .i64 d6, [.slice a3 n3 c3]] (by kernel_rfl) (.arr (.one rfl (.arr (.one rfl .nil)))) ?_
 intro g10 st10 hB6
 replace hB3 := hB3.mono st10 (WL.no1 (by omega))
 replace hR2 := hR2.mono st10 (WL.no1 (by omega))
 replace hR3 := hR3.mono st10 (WL.no1 (by omega))
 replace tot := tot.trans (st10.up1 (.inr (by omega)))
 clear hB5
 have hB5 := hB6
 clear hB6
 refine WP.stl 1 ?_
 refine WP.dn ?_
 refine NX.then_n ?_
 refine CP.seqR ?_
 refine WP.loadB (v := AG [encA .u8 d3, [.int .i64 x3], encA .i64 d4, [.slice a2 n2 c2]]) hB3 (by kernel_rfl) (by kernel_rfl) ?_
 refine WP.stl 1 ?_
 replace hs := Option.bind_eq_some_iff.1 hs
 obtain ⟨⟨d7, x7, d8, l4, x8⟩, hk4, hs⟩ := hs
 dsimp only at hs
 have hcal4 := P.purse_Purse_Back g10 d3 x3 d4 l2 (⟨[2, 0, 0, 0, 0, 0, 0, 0], rfl⟩ : Arr Int 8) 20 a2 n2 c2 hR2 d7 x7 d8 l4 x8 hk4
 refine WP.callC hcal4 (by kernel_rfl) ?_
 rintro _ g11 st11 ⟨a4, n4, c4, rfl, hR4⟩
 replace hB3 := hB3.mono st11 (fun x => x)
 replace hR2 := hR2.mono st11 (fun x => x)
 replace hB5 := hB5.mono st11 (fun x => x)
 replace hR3 := hR3.mono st11 (fun x => x)
 replace tot := tot.trans st11.pure
 refine WP.stl 3 ?_
 refine WP.alloc (T := 32) (t + 5) [encA .u8 (zA 8), [.int .i64 0], encA .i64 (zA 2), [.slice none 0 0]] [8, 1, 2, 1] (by kernel_rfl) (by simp [len_encA]) ?_
 intro g12 b4 st12 hB7
 replace hB3 := hB3.mono st12 (fun x => x)
 replace hR2 := hR2.mono st12 (fun x => x)
 replace hB5 := hB5.mono st12 (fun x => x)
 replace hR3 := hR3.mono st12 (fun x => x)
 replace hR4 := hR4.mono st12 (fun x => x)
 replace tot := tot.trans st12.pure
 refine WP.storeB (ty := 32) (off := 0) (v := AG [encA .u8 d7, [.int .i64 x7], encA .i64 d8, [.slice a4 n4 c4]]) hB7 [encA .u8 d7, [.int .i64 x7], encA .i64 d8, [.slice a4 n4 c4]] [8, 1, 2, 1] (by kernel_rfl) (by kernel_rfl) (by simp [len_encA]) (by kernel_rfl) [encA .u8 d7, [.int .i64 x7], encA .i64 d8, [.slice a4 n4 c4]] (by kernel_rfl) (.arr (.one rfl (.arr (.one rfl .nil)))) ?_
 intro g13 st13 hB8
 replace hB3 := hB3.mono st13 (WL.no1 (by omega))
 replace hR2 := hR2.mono st13 (WL.no1 (by omega))
 replace hB5 := hB5.mono st13 (WL.no1 (by omega))
 replace hR3 := hR3.mono st13 (WL.no1 (by omega))
 replace hR4 := hR4.mono st13 (WL.no1 (by omega))
 replace tot := tot.trans (st13.up1 (.inr (by omega)))
 clear hB7
 have hB7 := hB8
 clear hB8
 refine WP.stl 1 ?_
 refine WP.dn ?_
 refine NX.then_n ?_
 refine CP.refr 87 [(2, .int .i64 x2), (3, .pointer (some ⟨b2, 0, none⟩)), (4, .int .i64 x4), (5, .pointer (some ⟨b3, 0, none⟩)), (6, .int .i64 x6), (8, .int .i64 x8)] (by kernel_rfl) (by kernel_rfl) ?_
 clear ds
 intro ds
 refine CP.seqR ?_
 refine WP.loadB (v := AG [encA .u8 d3, [.int .i64 x3], encA .i64 d4, [.slice a2 n2 c2]]) hB3 (by kernel_rfl) (by kernel_rfl) ?_
 refine WP.stl 1 ?_
 replace hs := Option.bind_eq_some_iff.1 hs
 obtain ⟨⟨d9, x9, d10, l5, x10⟩, hk5, hs⟩ := hs
 dsimp only at hs
 have hcal5 := P.purse_Purse_Back g13 d3 x3 d4 l2 (⟨[2, 0, 0, 0, 0, 0, 0, 0], rfl⟩ : Arr Int 8) 21 a2 n2 c2 hR2 d9 x9 d10 l5 x10 hk5
 refine WP.callC hcal5 (by kernel_rfl) ?_
 rintro _ g14 st14 ⟨a5, n5, c5, rfl, hR5⟩
 replace hB3 := hB3.mono st14 (fun x => x)
 replace hR2 := hR2.mono st14 (fun x => x)
 replace hB5 := hB5.mono st14 (fun x => x)
 replace hR3 := hR3.mono st14 (fun x => x)
 replace tot := tot.trans st14.pure
 refine WP.stl 3 ?_
 refine WP.alloc (T := 32) (t + 6) [encA .u8 (zA 8), [.int .i64 0], encA .i64 (zA 2), [.slice none 0 0]] [8, 1, 2, 1] (by kernel_rfl) (by simp [len_encA]) ?_
 intro g15 b5 st15 hB9
 replace hB3 := hB3.mono st15 (fun x => x)
 replace hR2 := hR2.mono st15 (fun x => x)
 replace hB5 := hB5.mono st15 (fun x => x)
 replace hR3 := hR3.mono st15 (fun x => x)
 replace hR5 := hR5.mono st15 (fun x => x)
 replace tot := tot.trans st15.pure
 refine WP.storeB (ty := 32) (off := 0) (v := AG [encA .u8 d9, [.int .i64 x9], encA .i64 d10, [.slice a5 n5 c5]]) hB9 [encA .u8 d9, [.int .i64 x9], encA .i64 d10, [.slice a5 n5 c5]] [8, 1, 2, 1] (by kernel_rfl) (by kernel_rfl) (by simp [len_encA]) (by kernel_rfl) [encA .u8 d9, [.int .i64 x9], encA .i64 d10, [.slice a5 n5 c5]] (by kernel_rfl) (.arr (.one rfl (.arr (.one rfl .nil)))) ?_
 intro g16 st16 hB10
 replace hB3 := hB3.mono st16 (WL.no1 (by omega))
 replace hR2 := hR2.mono st16 (WL.no1 (by omega))
 replace hB5 := hB5.mono st16 (WL.no1 (by omega))
 replace hR3 := hR3.mono st16 (WL.no1 (by omega))
 replace hR5 := hR5.mono st16 (WL.no1 (by omega))
 replace tot := tot.trans (st16.up1 (.inr (by omega)))
 clear hB9
 have hB9 := hB10
 clear hB10
 refine WP.stl 1 ?_
 refine WP.dn ?_
 refine NX.then_n ?_
 refine CP.cut (fun tm g => ∃ (q1 : Bool), Fr 87 [(0, .bool q1)] tm ∧ Step (fun l => NoM l ∨ t ≤ l) g0 g ∧ (F.baizelaw47_told.c1 q1) = some o1) ?_ ?_
 ·refine CP.region ?_
  refine WP.stl 3 ?_
  refine WP.guard 43 (b := (x2 == 0)) (by kernel_rfl) (fun h10 => ?_) (fun h10 => ?_)
  ·replace hs := of_if_t hs h10
   refine WP.stl 4 ?_
   refine WP.guard 47 (b := (x4 == 0)) (by kernel_rfl) (fun h11 => ?_) (fun h11 => ?_)
   ·replace hs := of_if_t hs h11
    refine WP.stl 4 ?_
    refine WP.guard 51 (b := (x6 == 0)) (by kernel_rfl) (fun h12 => ?_) (fun h12 => ?_)
    ·replace hs := of_if_t hs h12
     refine WP.stl 4 ?_
     refine WP.guard 55 (b := (x8 == 20)) (by kernel_rfl) (fun h13 => ?_) (fun h13 => ?_)
     ·replace hs := of_if_t hs h13
      refine WP.stl 4 ?_
      refine WP.guard 59 (b := (x10 == 0)) (by kernel_rfl) (fun h14 => ?_) (fun h14 => ?_)
      ·replace hs := of_if_t hs h14
       refine WP.stl 1 ?_
       refine WP.loadB (v := AG [encA .i64 d4]) hB3 (by kernel_rfl) (by kernel_rfl) ?_
       refine WP.stl 1 ?_
       refine WP.eqV (by kernel_rfl) (by kernel_rfl) (EqV.arr (d := 9998) (t := 23) (e := 3) (m := 2) (k := .i64) (x := d4) (y := (⟨[6, 5], rfl⟩ : Arr Int 2)) (by kernel_rfl) (by kernel_rfl)) ?_
       refine WP.stl 2 ?_
       refine WP.guard 65 (b := (d4.1 == (⟨[6, 5], rfl⟩ : Arr Int 2).1)) (by kernel_rfl) (fun h15 => ?_) (fun h15 => ?_)
       ·replace hs := of_if_t hs h15
        refine WP.stl 1 ?_
        refine WP.loadB (v := AG [encA .i64 d6]) hB5 (by kernel_rfl) (by kernel_rfl) ?_
        refine WP.stl 1 ?_
        refine WP.eqV (by kernel_rfl) (by kernel_rfl) (EqV.arr (d := 9998) (t := 23) (e := 3) (m := 2) (k := .i64) (x := d6) (y := (⟨[7, 8], rfl⟩ : Arr Int 2)) (by kernel_rfl) (by kernel_rfl)) ?_
        refine WP.stl 2 ?_
        refine WP.guard 71 (b := (d6.1 == (⟨[7, 8], rfl⟩ : Arr Int 2).1)) (by kernel_rfl) (fun h16 => ?_) (fun h16 => ?_)
        ·replace hs := of_if_t hs h16
         refine WP.stl 1 ?_
         refine WP.loadB (v := AG [encA .i64 d10]) hB9 (by kernel_rfl) (by kernel_rfl) ?_
         refine WP.stl 1 ?_
         refine WP.eqV (by kernel_rfl) (by kernel_rfl) (EqV.arr (d := 9998) (t := 23) (e := 3) (m := 2) (k := .i64) (x := d10) (y := (⟨[10, 5], rfl⟩ : Arr Int 2)) (by kernel_rfl) (by kernel_rfl)) ?_
         refine WP.stl 2 ?_
         refine WP.guard 77 (b := (d10.1 == (⟨[10, 5], rfl⟩ : Arr Int 2).1)) (by kernel_rfl) (fun h17 => ?_) (fun h17 => ?_)
         ·replace hs := of_if_t hs h17
          refine WP.stl 1 ?_
          refine WP.loadB (v := .int .i64 x5) hB5 (by kernel_rfl) (by kernel_rfl) ?_
          refine WP.stl 3 ?_
          refine WP.guard 82 (b := (x5 == 2)) (by kernel_rfl) (fun h18 => ?_) (fun h18 => ?_)
          ·replace hs := of_if_t hs h18
           refine WP.loadB (v := AG [encA .u8 d5, [.int .i64 x5], encA .i64 d6, [.slice a3 n3 c3]]) hB5 (by kernel_rfl) (by kernel_rfl) ?_
           replace hs := Option.bind_eq_some_iff.1 hs
           obtain ⟨x12, hk7, hs⟩ := hs
           have hcal7 := P.purse_Purse_Total g16 d5 x5 d6 l3 a3 n3 c3 hR3 x12 hk7
           refine WP.callC hcal7 (by kernel_rfl) ?_
           rintro _ g18 st18 rfl
           replace hB3 := hB3.mono st18 (fun x => x)
           replace hR2 := hR2.mono st18 (fun x => x)
           replace hB5 := hB5.mono st18 (fun x => x)
           replace hR3 := hR3.mono st18 (fun x => x)
           replace hB9 := hB9.mono st18 (fun x => x)
           replace hR5 := hR5.mono st18 (fun x => x)
           replace tot := tot.trans st18.pure
           refine WP.stl 3 ?_
           refine WP.dn ?_
           refine NX.post ?_
           exact ⟨(x12 == 15), ⟨by kernel_rfl, by kernel_rfl⟩, tot, hs⟩
          replace hs := of_if_f hs h18
          refine WP.stl 5 ?_
          refine WP.dn ?_
          refine NX.post ?_
          exact ⟨false, ⟨by kernel_rfl, by kernel_rfl⟩, tot, hs⟩
         replace hs := of_if_f hs h17
         refine WP.stl 10 ?_
         refine WP.dn ?_
         refine NX.post ?_
         exact ⟨false, ⟨by kernel_rfl, by kernel_rfl⟩, tot, hs⟩
        replace hs := of_if_f hs h16
        refine WP.stl 16 ?_
        refine WP.dn ?_
        refine NX.post ?_
        exact ⟨false, ⟨by kernel_rfl, by kernel_rfl⟩, tot, hs⟩
       replace hs := of_if_f hs h15
       refine WP.stl 22 ?_
       refine WP.dn ?_
       refine NX.post ?_
       exact ⟨false, ⟨by kernel_rfl, by kernel_rfl⟩, tot, hs⟩
      replace hs := of_if_f hs h14
      refine WP.stl 28 ?_
      refine WP.dn ?_
      refine NX.post ?_
      exact ⟨false, ⟨by kernel_rfl, by kernel_rfl⟩, tot, hs⟩
     replace hs := of_if_f hs h13
     refine WP.stl 32 ?_
     refine WP.dn ?_
     refine NX.post ?_
     exact ⟨false, ⟨by kernel_rfl, by kernel_rfl⟩, tot, hs⟩
    replace hs := of_if_f hs h12
    refine WP.stl 36 ?_
    refine WP.dn ?_
    refine NX.post ?_
    exact ⟨false, ⟨by kernel_rfl, by kernel_rfl⟩, tot, hs⟩
   replace hs := of_if_f hs h11
   refine WP.stl 40 ?_
   refine WP.dn ?_
   refine NX.post ?_
   exact ⟨false, ⟨by kernel_rfl, by kernel_rfl⟩, tot, hs⟩
  replace hs := of_if_f hs h10
  refine WP.stl 44 ?_
  refine WP.dn ?_
  refine NX.post ?_
  exact ⟨false, ⟨by kernel_rfl, by kernel_rfl⟩, tot, hs⟩
 clear tot hs hB3 hR2 hB5 hR3 hB9 hR5
 rintro tm g ⟨q1, hF, tot, hs⟩
 clear ds
 obtain ⟨ds, rfl⟩ := hF.open
 clear hF
 unfold F.baizelaw47_told.c1 at hs
 refine CP.ret ?_
 replace hs := Option.some.inj hs
 obtain rfl := hs
 exact NX.fin (v := .bool q1) (Res.still (by kernel_rfl)) tot htL rfl
def F.baizelaw47_Own.l1 (d1 : Arr Int 8) (x1 : Int) (d2 : Arr Int 2) (l1 : List S_baizeref47_Held) : Nat → (List S_purse_Held) → Int → Option ((Arr Int 8) × Int × (Arr Int 2) × (List S_purse_Held))
 | 0, _, _ => none
 | k + 1, l2, x2 => (if decide (x2 < (l1.length : Int)) = true then (if (0 : Int) ≤ x2 ∧ x2 < (l1.length : Int) then (if l2.length + ([(⟨(getI l1 x2).f1, (getI l1 x2).f2, (getI l1 x2).f3, (getI l1 x2).f4⟩ : S_purse_Held)]).length ≤ 4398046511104 then (F.baizelaw47_Own.l1 d1 x1 d2 l1 k (l2 ++ [(⟨(getI l1 x2).f1, (getI l1 x2).f2, (getI l1 x2).f3, (getI l1 x2).f4⟩ : S_purse_Held)]) (IntKind.i64.wrap (x2 + 1))) else none) else none) else (some (d1, x1, d2, l2)))
def F.baizelaw47_Own (d1 : Arr Int 8) (x1 : Int) (d2 : Arr Int 2) (l1 : List S_baizeref47_Held) : Option ((Arr Int 8) × Int × (Arr Int 2) × (List S_purse_Held)) := (F.baizelaw47_Own.l1 d1 x1 d2 l1 fuel ([]) 0)
theorem P.baizelaw47_Own (g0 : GW) (r0 : Nat) (d1 : Arr Int 8) (x1 : Int) (d2 : Arr Int 2) (l1 : List S_baizeref47_Held) (a1 : Option Addr) (n1 : Nat) (c1 : Nat) (hR1 : RdS k_S_baizeref47_Held g0 60 a1 n1 c1 l1) (o1 : Arr Int 8) (o2 : Int) (o3 : Arr Int 2) (o4 : List S_purse_Held) (hs : F.baizelaw47_Own d1 x1 d2 l1 = some (o1, o2, o3, o4)) :
  Calls Try.prog 13 #[AG [encA .u8 d1, [.int .i64 x1], encA .i64 d2, [.slice a1 n1 c1]]] g0.w (Ret NoM g0 fun v g => ∃ (a_1 : Option Addr) (n_1 : Nat) (c_1 : Nat), v = AG [encA .u8 o1, [.int .i64 o2], encA .i64 o3, [.slice a_1 n_1 c_1]] ∧ OwnS k_S_purse_Held g r0 56 a_1 n_1 c_1 o4) := by
 refine calls_of (args := [AG [encA .u8 d1, [.int .i64 x1], encA .i64 d2, [.slice a1 n1 c1]]]) Try.func13 rfl (r0 + 0) ?_
 intro t ht htL
 refine ⟨_, rfl, ?_⟩
 refine CP.refr 40 [(0, AG [encA .u8 d1, [.int .i64 x1], encA .i64 d2, [.slice a1 n1 c1]])] (by kernel_rfl) (by kernel_rfl) ?_
 intro ds
 have tot : Step (fun l => NoM l ∨ t ≤ l) g0 g0 := Step.refl _ _
 unfold F.baizelaw47_Own at hs
 refine CP.seqR ?_
 refine WP.alloc (T := 26) (t + 1) [encA .u8 d1, [.int .i64 x1], encA .i64 d2, [.slice a1 n1 c1]] [8, 1, 2, 1] (by kernel_rfl) (by simp [len_encA]) ?_
 intro g1 b1 st1 hB1
 replace hR1 := hR1.mono st1 (fun x => x)
 replace tot := tot.trans st1.pure
 refine WP.alloc (T := 32) (t + 2) [encA .u8 (zA 8), [.int .i64 0], encA .i64 (zA 2), [.slice none 0 0]] [8, 1, 2, 1] (by kernel_rfl) (by simp [len_encA]) ?_
 intro g2 b2 st2 hB2
 replace hR1 := hR1.mono st2 (fun x => x)
 replace hB1 := hB1.mono st2 (fun x => x)
 replace tot := tot.trans st2.pure
 refine WP.dn ?_
 refine NX.then_n ?_
 refine CP.seqR ?_
 refine WP.stl 1 ?_
 refine WP.loadB (v := AG [encA .u8 d1]) hB1 (by kernel_rfl) (by kernel_rfl) ?_
 refine WP.stl 1 ?_
 refine WP.loadB (v := .int .i64 x1) hB1 (by kernel_rfl) (by kernel_rfl) ?_
 refine WP.stl 1 ?_
 refine WP.loadB (v := AG [encA .i64 d2]) hB1 (by kernel_rfl) (by kernel_rfl) ?_
 refine WP.buildS (places := #[(0, 8), (8, 1), (9, 2), (11, 1)]) (t := 32) [encA .u8 (zA 8), [.int .i64 0], encA .i64 (zA 2), [.slice none 0 0]] [8, 1, 2, 1] (by kernel_rfl) (by kernel_rfl) (by simp [len_encA]) (by kernel_rfl) ((.cons (i := 0) (off := 0) (v := AG [encA .u8 d1]) (mid := [encA .u8 d1, [.int .i64 0], encA .i64 (zA 2), [.slice none 0 0]]) [encA .u8 d1] [8] (by kernel_rfl) (by kernel_rfl) (by simp [len_encA]) (by kernel_rfl) (.cons (i := 1) (off := 8) (v := .int .i64 x1) (mid := [encA .u8 d1, [.int .i64 x1], encA .i64 (zA 2), [.slice none 0 0]]) [[.int .i64 x1]] [1] (by kernel_rfl) (by kernel_rfl) rfl (by kernel_rfl) (.cons (i := 2) (off := 9) (v := AG [encA .i64 d2]) (mid := [encA .u8 d1, [.int .i64 x1], encA .i64 d2, [.slice none 0 0]]) [encA .i64 d2] [2] (by kernel_rfl) (by kernel_rfl) (by simp [len_encA]) (by kernel_rfl) .nil)))) ?_
 refine WP.alloc (T := 32) (t + 3) [encA .u8 (zA 8), [.int .i64 0], encA .i64 (zA 2), [.slice none 0 0]] [8, 1, 2, 1] (by kernel_rfl) (by simp [len_encA]) ?_
 intro g3 b3 st3 hB3
 replace hB1 := hB1.mono st3 (fun x => x)
 replace hR1 := hR1.mono st3 (fun x => x)
 replace hB2 := hB2.mono st3 (fun x => x)
 replace tot := tot.trans st3.pure
 refine WP.storeB (ty := 32) (off := 0) (v := AG [encA .u8 d1, [.int .i64 x1], encA .i64 d2, [.slice none 0 0]]) hB3 [encA .u8 d1, [.int .i64 x1], encA .i64 d2, [.slice none 0 0]] [8, 1, 2, 1] (by kernel_rfl) (by kernel_rfl) (by simp [len_encA]) (by kernel_rfl) [encA .u8 d1, [.int .i64 x1], encA .i64 d2, [.slice none 0 0]] (by kernel_rfl) (.arr (.one rfl (.arr (.one rfl .nil)))) ?_
 intro g4 st4 hB4
 replace hB1 := hB1.mono st4 (WL.no1 (by omega))
 replace hR1 := hR1.mono st4 (WL.no1 (by omega))
 replace hB2 := hB2.mono st4 (WL.no1 (by omega))
 replace tot := tot.trans (st4.up1 (.inr (by omega)))
 clear hB3
 have hB3 := hB4
 clear hB4
 refine WP.dn ?_
 refine NX.then_n ?_
 refine CP.seq ?_
 refine CP.seqR ?_
 refine WP.stl 1 ?_
 refine WP.dn ?_
 refine NX.then_n ?_
 refine CP.block ?_
 generalize fuel = k1 at hs
 refine CP.loop (fun k1 tm g => ∃ (l2 : List S_purse_Held) (a4 : Option Addr) (n2 : Nat) (c3 : Nat) (x2 : Int), Fr 40 [(1, .pointer (some ⟨b1, 0, none⟩)), (2, .pointer (some ⟨b2, 0, none⟩)), (3, .pointer (some ⟨b3, 0, none⟩)), (4, .int .i64 x2)] tm ∧ Step (fun l => NoM l ∨ t ≤ l) g0 g ∧ Box g (t + 1) b1 26 [encA .u8 d1, [.int .i64 x1], encA .i64 d2, [.slice a1 n1 c1]] [8, 1, 2, 1] ∧ RdS k_S_baizeref47_Held g 60 a1 n1 c1 l1 ∧ Box g (t + 2) b2 32 [encA .u8 (zA 8), [.int .i64 0], encA .i64 (zA 2), [.slice none 0 0]] [8, 1, 2, 1] ∧ Box g (t + 3) b3 32 [encA .u8 d1, [.int .i64 x1], encA .i64 d2, [.slice a4 n2 c3]] [8, 1, 2, 1] ∧ OwnS k_S_purse_Held g (t + 6) 56 a4 n2 c3 l2 ∧ F.baizelaw47_Own.l1 d1 x1 d2 l1 k1 l2 x2 = some (o1, o2, o3, o4)) k1 ?_ ?_ ?_
 ·exact ⟨[], none, 0, 0, 0, ⟨by kernel_rfl, by kernel_rfl⟩, tot, hB1, hR1, hB2, hB3, (OwnS.nil _ _ _ _), hs⟩
 ·rintro tm g ⟨l2, a4, n2, c3, x2, hF, tot, hB1, hR1, hB2, hB3, hR4, hs⟩
  exact absurd hs (by simp [F.baizelaw47_Own.l1])
 clear tot hs hB1 hR1 hB2 hB3
 rintro k1 tm g ⟨l2, a4, n2, c3, x2, hF, tot, hB1, hR1, hB2, hB3, hR4, hs⟩
 clear ds
 obtain ⟨ds, rfl⟩ := hF.open
 clear hF
 unfold F.baizelaw47_Own.l1 at hs
 refine CP.seq ?_
 refine CP.seqR ?_
 refine WP.stl 2 ?_
 refine WP.loadB (v := .slice a1 n1 c1) hB1 (by kernel_rfl) (by kernel_rfl) ?_
 refine WP.len (a := a1) (cp := c1) hR1.len (by kernel_rfl) ?_
 refine WP.stl 1 ?_
 refine WP.dn ?_
 refine NX.then_n ?_
 refine CP.cond (b := decide (x2 < (l1.length : Int))) (by kernel_rfl) (fun h3 => ?_) (fun h3 => ?_)
 ·replace hs := of_if_t hs h3
  refine CP.skip ?_
  refine NX.then_n ?_
  refine CP.seq ?_
  refine CP.block ?_
  refine CP.seqR ?_
  refine WP.stl 1 ?_
  refine WP.loadB (v := .slice a1 n1 c1) hB1 (by kernel_rfl) (by kernel_rfl) ?_
  refine WP.stl 1 ?_
  by_cases hc5 : (0 : Int) ≤ x2 ∧ x2 < (l1.length : Int)
  case neg => rw [if_neg hc5] at hs; cases hs
  replace hs := of_if_p hs hc5
  obtain ⟨b8, u3, ha3⟩ := hR1.at hc5
  refine WP.indexA (t := 24) (e := 60) (sz := 11) (cap := c1) (k := .i64) (i := x2) hR1.len ha3 (by kernel_rfl) (by kernel_rfl) hc5 ?_
  obtain ⟨cs3, hcR3, hcV3⟩ := hR1.src.view (getI_some hc5) ha3
  replace hcR3 := k_S_baizeref47_Held.opn hcR3
  refine WP.loadV [encA .u8 ((getI l1 x2).f1), [.int .i64 ((getI l1 x2).f2)], [.int .i64 ((getI l1 x2).f3)], [.int .i64 ((getI l1 x2).f4)]] [8, 1, 1, 1] hcV3 hcR3 (by simp [len_encA]) (f := 0) (ty := 60) (agg := true) (size := 11) (rs := [encA .u8 ((getI l1 x2).f1), [.int .i64 ((getI l1 x2).f2)], [.int .i64 ((getI l1 x2).f3)], [.int .i64 ((getI l1 x2).f4)]]) (v := AG [encA .u8 ((getI l1 x2).f1), [.int .i64 ((getI l1 x2).f2)], [.int .i64 ((getI l1 x2).f3)], [.int .i64 ((getI l1 x2).f4)]]) (by kernel_rfl) (by kernel_rfl) (by kernel_rfl) (by kernel_rfl) ?_
  refine WP.alloc (T := 60) (t + 9) [encA .u8 (zA 8), [.int .i64 0], [.int .i64 0], [.int .i64 0]] [8, 1, 1, 1] (by kernel_rfl) (by simp [len_encA]) ?_
  intro g17 b9 st17 hB13
  replace hB1 := hB1.mono st17 (fun x => x)
  replace hR1 := hR1.mono st17 (fun x => x)
  replace hB2 := hB2.mono st17 (fun x => x)
  replace hB3 := hB3.mono st17 (fun x => x)
  replace hR4 := hR4.mono st17 (fun x => x) (fun x => x)
  replace tot := tot.trans st17.pure
  refine WP.storeB (ty := 60) (off := 0) (v := AG [encA .u8 ((getI l1 x2).f1), [.int .i64 ((getI l1 x2).f2)], [.int .i64 ((getI l1 x2).f3)], [.int .i64 ((getI l1 x2).f4)]]) hB13 [encA .u8 ((getI l1 x2).f1), [.int .i64 ((getI l1 x2).f2)], [.int .i64 ((getI l1 x2).f3)], [.int .i64 ((getI l1 x2).f4)]] [8, 1, 1, 1] (by kernel_rfl) (by kernel_rfl) (by simp [len_encA]) (by kernel_rfl) [encA .u8 ((getI l1 x2).f1), [.int .i64 ((getI l1 x2).f2)], [.int .i64 ((getI l1 x2).f3)], [.int .i64 ((getI l1 x2).f4)]] (by kernel_rfl) (.arr (.one rfl (.one rfl (.one rfl .nil)))) ?_
  intro g18 st18 hB14
  replace hB1 := hB1.mono st18 (WL.no1 (by omega))
  replace hR1 := hR1.mono st18 (WL.no1 (by omega))
  replace hB2 := hB2.mono st18 (WL.no1 (by omega))
  replace hB3 := hB3.mono st18 (WL.no1 (by omega))
  replace hR4 := hR4.mono st18 (WL.no1 (by omega)) (WL.no1 (by omega))
  replace tot := tot.trans (st18.up1 (.inr (by omega)))
  clear hB13
  have hB13 := hB14
  clear hB14
  refine WP.dn ?_
  refine NX.then_n ?_
  refine CP.region ?_
  refine WP.stl 1 ?_
  refine WP.loadB (v := .slice a4 n2 c3) hB3 (by kernel_rfl) (by kernel_rfl) ?_
  refine WP.stl 1 ?_
  refine WP.loadB (v := AG [encA .u8 ((getI l1 x2).f1)]) hB13 (by kernel_rfl) (by kernel_rfl) ?_
  refine WP.stl 1 ?_
  refine WP.loadB (v := .int .i64 ((getI l1 x2).f2)) hB13 (by kernel_rfl) (by kernel_rfl) ?_
  refine WP.stl 1 ?_
  refine WP.loadB (v := .int .i64 ((getI l1 x2).f3)) hB13 (by kernel_rfl) (by kernel_rfl) ?_
  refine WP.stl 1 ?_
  refine WP.loadB (v := .int .i64 ((getI l1 x2).f4)) hB13 (by kernel_rfl) (by kernel_rfl) ?_
  refine WP.buildS (places := #[(0, 8), (8, 1), (9, 1), (10, 1)]) (t := 56) [encA .u8 (zA 8), [.int .i64 0], [.int .i64 0], [.int .i64 0]] [8, 1, 1, 1] (by kernel_rfl) (by kernel_rfl) (by simp [len_encA]) (by kernel_rfl) ((.cons (i := 0) (off := 0) (v := AG [encA .u8 ((getI l1 x2).f1)]) (mid := [encA .u8 ((getI l1 x2).f1), [.int .i64 0], [.int .i64 0], [.int .i64 0]]) [encA .u8 ((getI l1 x2).f1)] [8] (by kernel_rfl) (by kernel_rfl) (by simp [len_encA]) (by kernel_rfl) (.cons (i := 1) (off := 8) (v := .int .i64 ((getI l1 x2).f2)) (mid := [encA .u8 ((getI l1 x2).f1), [.int .i64 ((getI l1 x2).f2)], [.int .i64 0], [.int .i64 0]]) [[.int .i64 ((getI l1 x2).f2)]] [1] (by kernel_rfl) (by kernel_rfl) rfl (by kernel_rfl) (.cons (i := 2) (off := 9) (v := .int .i64 ((getI l1 x2).f3)) (mid := [encA .u8 ((getI l1 x2).f1), [.int .i64 ((getI l1 x2).f2)], [.int .i64 ((getI l1 x2).f3)], [.int .i64 0]]) [[.int .i64 ((getI l1 x2).f3)]] [1] (by kernel_rfl) (by kernel_rfl) rfl (by kernel_rfl) (.cons (i := 3) (off := 10) (v := .int .i64 ((getI l1 x2).f4)) (mid := [encA .u8 ((getI l1 x2).f1), [.int .i64 ((getI l1 x2).f2)], [.int .i64 ((getI l1 x2).f3)], [.int .i64 ((getI l1 x2).f4)]]) [[.int .i64 ((getI l1 x2).f4)]] [1] (by kernel_rfl) (by kernel_rfl) rfl (by kernel_rfl) .nil))))) ?_
  refine WP.mkSl (kd := k_S_purse_Held) (t := 30) (e := 56) (bytes := 32) (t + 10) [AG [encA .u8 ((getI l1 x2).f1), [.int .i64 ((getI l1 x2).f2)], [.int .i64 ((getI l1 x2).f3)], [.int .i64 ((getI l1 x2).f4)]]] [(⟨(getI l1 x2).f1, (getI l1 x2).f2, (getI l1 x2).f3, (getI l1 x2).f4⟩ : S_purse_Held)] (by kernel_rfl) (by kernel_rfl) (Nat.le_of_ble_eq_true rfl) (Nat.le_of_ble_eq_true rfl) (all_cons (Kd.len k_S_purse_Held (g := g18) (x := (⟨(getI l1 x2).f1, (getI l1 x2).f2, (getI l1 x2).f3, (getI l1 x2).f4⟩ : S_purse_Held)) (k_S_purse_Held.mk rfl rfl rfl rfl)) all_nil) (⟨_, _, rfl, (k_S_purse_Held.mk rfl rfl rfl rfl), rfl⟩) rfl ?_
  intro g19 a8 st19 hR8
  replace hB1 := hB1.mono st19 (fun x => x)
  replace hR1 := hR1.mono st19 (fun x => x)
  replace hB2 := hB2.mono st19 (fun x => x)
  replace hB3 := hB3.mono st19 (fun x => x)
  replace hR4 := hR4.mono st19 (fun x => x) (fun x => x)
  replace hB13 := hB13.mono st19 (fun x => x)
  replace tot := tot.trans st19.pure
  by_cases hc6 : l2.length + ([(⟨(getI l1 x2).f1, (getI l1 x2).f2, (getI l1 x2).f3, (getI l1 x2).f4⟩ : S_purse_Held)]).length ≤ 4398046511104
  case neg => rw [if_neg hc6] at hs; cases hs
  replace hs := of_if_p hs hc6
  refine WP.append (kd := k_S_purse_Held) (t := 30) (e := 56) (bytes := 32) (a2 := a8) (c2 := 1) hR4 hR8.src hR8.len (by kernel_rfl) (by kernel_rfl) (by omega) (by simp only [maxLen]; omega) (by omega) ?_
  intro g20 a9 c6 st20 hR9
  replace hB1 := hB1.mono st20 (WL.no1 (by omega))
  replace hR1 := hR1.mono st20 (WL.no1 (by omega))
  replace hB2 := hB2.mono st20 (WL.no1 (by omega))
  replace hB3 := hB3.mono st20 (WL.no1 (by omega))
  replace hB13 := hB13.mono st20 (WL.no1 (by omega))
  replace hR8 := hR8.mono st20 (WL.no1 (by omega)) (WL.no1 (by omega))
  replace tot := tot.trans (st20.up1 (.inr (by omega)))
  refine WP.stl 1 ?_
  refine WP.storeB (ty := 30) (off := 11) (v := .slice a9 (n2 + 1) c6) hB3 [[.slice a9 (n2 + 1) c6]] [1] (by kernel_rfl) (by kernel_rfl) rfl (by kernel_rfl) [encA .u8 d1, [.int .i64 x1], encA .i64 d2, [.slice a9 (n2 + 1) c6]] (by kernel_rfl) (.one rfl .nil) ?_
  intro g21 st21 hB15
  replace hB1 := hB1.mono st21 (WL.no1 (by omega))
  replace hR1 := hR1.mono st21 (WL.no1 (by omega))
  replace hB2 := hB2.mono st21 (WL.no1 (by omega))
  replace hR9 := hR9.mono st21 (WL.no1 (by omega)) (WL.no1 (by omega))
  replace hB13 := hB13.mono st21 (WL.no1 (by omega))
  replace hR8 := hR8.mono st21 (WL.no1 (by omega)) (WL.no1 (by omega))
  replace tot := tot.trans (st21.up1 (.inr (by omega)))
  clear hB3
  have hB3 := hB15
  clear hB15
  refine WP.dn ?_
  refine NX.block_n ?_
  refine NX.then_n ?_
  refine CP.refr 40 [(1, .pointer (some ⟨b1, 0, none⟩)), (2, .pointer (some ⟨b2, 0, none⟩)), (3, .pointer (some ⟨b3, 0, none⟩)), (4, .int .i64 x2)] (by kernel_rfl) (by kernel_rfl) ?_
  clear ds
  intro ds
  refine CP.region ?_
  refine WP.stl 3 ?_
  refine WP.dn ?_
  refine NX.post ?_
  exact ⟨(l2 ++ [(⟨(getI l1 x2).f1, (getI l1 x2).f2, (getI l1 x2).f3, (getI l1 x2).f4⟩ : S_purse_Held)]), a9, (n2 + 1), c6, (IntKind.i64.wrap (x2 + 1)), ⟨by kernel_rfl, by kernel_rfl⟩, tot, hB1, hR1, hB2, hB3, hR9, hs⟩
 replace hs := of_if_f hs h3
 refine CP.exit ?_
 refine NX.then_e ?_
 refine NX.then_e ?_
 refine NX.block_s ?_
 refine NX.then_n ?_
 refine CP.seqR ?_
 refine WP.loadB (v := AG [encA .u8 d1, [.int .i64 x1], encA .i64 d2, [.slice a4 n2 c3]]) hB3 (by kernel_rfl) (by kernel_rfl) ?_
 refine WP.storeB (ty := 32) (off := 0) (v := AG [encA .u8 d1, [.int .i64 x1], encA .i64 d2, [.slice a4 n2 c3]]) hB2 [encA .u8 d1, [.int .i64 x1], encA .i64 d2, [.slice a4 n2 c3]] [8, 1, 2, 1] (by kernel_rfl) (by kernel_rfl) (by simp [len_encA]) (by kernel_rfl) [encA .u8 d1, [.int .i64 x1], encA .i64 d2, [.slice a4 n2 c3]] (by kernel_rfl) (.arr (.one rfl (.arr (.one rfl .nil)))) ?_
 intro g22 st22 hB16
 replace hR4 := hR4.mono st22 (WL.no1 (by omega)) (WL.no1 (by omega))
 replace hB3 := hB3.mono st22 (WL.no1 (by omega))
 replace tot := tot.trans (st22.up1 (.inr (by omega)))
 clear hB2
 have hB2 := hB16
 clear hB16
 refine WP.dn ?_
 refine NX.then_n ?_
 refine CP.ret ?_
 obtain ⟨g23, hw1, st23, hnew⟩ := hR4.relab (by omega) r0
 refine NX.regw hw1 ?_
 replace hB2 := hB2.mono st23 (WL.no1 (by omega))
 replace tot := tot.trans (st23.up1 (.inr (by omega)))
 clear hR4
 have hR4 := hnew
 clear hnew
 replace hs := Option.some.inj hs
 simp only [Prod.mk.injEq] at hs
 obtain ⟨rfl, rfl, rfl, rfl⟩ := hs
 exact NX.fin (v := AG [encA .u8 d1, [.int .i64 x1], encA .i64 d2, [.slice a4 n2 c3]]) (Res.one rfl (RV.box (agg := true) (size := 12) (rs := [encA .u8 d1, [.int .i64 x1], encA .i64 d2, [.slice a4 n2 c3]]) hB2 (by kernel_rfl) (by kernel_rfl) (by kernel_rfl) (by kernel_rfl))) tot htL ⟨a4, n2, c3, rfl, hR4⟩
def F.slices_Clone_byte_byte_nil : Option ((List Int)) := (some ([]))
theorem P.slices_Clone_byte_byte_nil (g0 : GW) (r0 : Nat) (o1 : List Int) (hs : F.slices_Clone_byte_byte_nil = some o1) :
  Calls Try.prog 90 #[.slice none 0 0] g0.w (Ret NoM g0 fun v g => ∃ (a_1 : Option Addr) (n_1 : Nat) (c_1 : Nat), v = .slice a_1 n_1 c_1 ∧ OwnS (Kd.int .u8) g r0 5 a_1 n_1 c_1 o1) := by
 refine calls_of (args := [.slice none 0 0]) Try.func90 rfl (r0 + 0) ?_
 intro t ht htL
 refine ⟨_, rfl, ?_⟩
 refine CP.refr 8 [(0, .slice none 0 0)] (by kernel_rfl) (by kernel_rfl) ?_
 intro ds
 have tot : Step (fun l => NoM l ∨ t ≤ l) g0 g0 := Step.refl _ _
 unfold F.slices_Clone_byte_byte_nil at hs
 refine CP.seqR ?_
 refine WP.stl 1 ?_
 refine WP.dn ?_
 refine NX.then_n ?_
 refine CP.seq ?_
 refine CP.seqR ?_
 refine WP.stl 2 ?_
 refine WP.dn ?_
 refine NX.then_n ?_
 refine CP.cond_t (by kernel_rfl) ?_
 refine CP.seqR ?_
 refine WP.stl 1 ?_
 refine WP.dn ?_
 refine NX.then_n ?_
 refine CP.ret ?_
 refine NX.then_r ?_
 replace hs := Option.some.inj hs
 obtain rfl := hs
 exact NX.fin (v := .slice none 0 0) (Res.still (by kernel_rfl)) tot htL ⟨none, 0, 0, rfl, (OwnS.nil _ _ _ _)⟩
def F.slices_Clone_byte_byte_some (l1 : List Int) : Option ((List Int)) := (if ([] : List Int).length + l1.length ≤ 140737488355328 then (some (([] : List Int) ++ l1)) else none)
theorem P.slices_Clone_byte_byte_some (g0 : GW) (r0 : Nat) (l1 : List Int) (n1 : Nat) (c1 : Nat) (p1 : Addr) (hR1 : RdS (Kd.int .u8) g0 5 (some p1) n1 c1 l1) (o1 : List Int) (hs : F.slices_Clone_byte_byte_some l1 = some o1) :
  Calls Try.prog 90 #[.slice (some p1) n1 c1] g0.w (Ret NoM g0 fun v g => ∃ (a_1 : Option Addr) (n_1 : Nat) (c_1 : Nat), v = .slice a_1 n_1 c_1 ∧ OwnS (Kd.int .u8) g r0 5 a_1 n_1 c_1 o1) := by
 refine calls_of (args := [.slice (some p1) n1 c1]) Try.func90 rfl (r0 + 0) ?_
 intro t ht htL
 refine ⟨_, rfl, ?_⟩
 refine CP.refr 8 [(0, .slice (some p1) n1 c1)] (by kernel_rfl) (by kernel_rfl) ?_
 intro ds
 have tot : Step (fun l => NoM l ∨ t ≤ l) g0 g0 := Step.refl _ _
 unfold F.slices_Clone_byte_byte_some at hs
 refine CP.seqR ?_
 refine WP.stl 1 ?_
 refine WP.dn ?_
 refine NX.then_n ?_
 refine CP.seq ?_
 refine CP.seqR ?_
 refine WP.stl 2 ?_
 refine WP.dn ?_
 refine NX.then_n ?_
 refine CP.cond_f (by kernel_rfl) ?_
 refine CP.skip ?_
 refine NX.then_n ?_
 refine CP.seqR ?_
 refine WP.mkSl (kd := (Kd.int .u8)) (t := 64) (e := 5) (bytes := 1) (t + 1) [] ([] : List Int) (by kernel_rfl) (by kernel_rfl) (Nat.le_of_ble_eq_true rfl) (Nat.le_of_ble_eq_true rfl) all_nil (rfl) rfl ?_
 intro g1 a1 st1 hR2
 replace hR1 := hR1.mono st1 (fun x => x)
 replace tot := tot.trans st1.pure
 refine WP.stl 1 ?_
 by_cases hc1 : ([] : List Int).length + l1.length ≤ 140737488355328
 case neg => rw [if_neg hc1] at hs; cases hs
 replace hs := of_if_p hs hc1
 refine WP.append (kd := (Kd.int .u8)) (t := 64) (e := 5) (bytes := 1) (a2 := (some p1)) (c2 := c1) hR2 hR1.src hR1.len (by kernel_rfl) (by kernel_rfl) (by omega) (by simp only [maxLen]; omega) (by omega) ?_
 intro g2 a2 c2 st2 hR3
 replace hR1 := hR1.mono st2 (WL.no1 (by omega))
 replace tot := tot.trans (st2.up1 (.inr (by omega)))
 refine WP.stl 1 ?_
 refine WP.dn ?_
 refine NX.then_n ?_
 refine CP.ret ?_
 obtain ⟨g3, hw1, st3, hnew⟩ := hR3.relab (by omega) r0
 refine NX.regw hw1 ?_
 replace tot := tot.trans (st3.up1 (.inr (by omega)))
 clear hR3
 have hR3 := hnew
 clear hnew
 replace hs := Option.some.inj hs
 obtain rfl := hs
 exact NX.fin (v := .slice a2 (0 + n1) c2) (Res.still (by kernel_rfl)) tot htL ⟨a2, (0 + n1), c2, rfl, hR3⟩
def F.slices_Clone_byte_byte (l1 : List Int) : Option ((List Int)) := F.slices_Clone_byte_byte_some l1
theorem P.slices_Clone_byte_byte (g0 : GW) (r0 : Nat) (l1 : List Int) (a1 : Option Addr) (n1 : Nat) (c1 : Nat) (hR1 : RdS (Kd.int .u8) g0 5 a1 n1 c1 l1) (o1 : List Int) (hs : F.slices_Clone_byte_byte l1 = some o1) :
  Calls Try.prog 90 #[.slice a1 n1 c1] g0.w (Ret NoM g0 fun v g => ∃ (a_1 : Option Addr) (n_1 : Nat) (c_1 : Nat), v = .slice a_1 n_1 c_1 ∧ OwnS (Kd.int .u8) g r0 5 a_1 n_1 c_1 o1) := by
 rcases hR1.nilOr with ⟨rfl, rfl, rfl, rfl⟩ | ⟨b, rfl⟩
 ·exact P.slices_Clone_byte_byte_nil _ _ _ hs
 ·exact P.slices_Clone_byte_byte_some _ _ _ _ _ _ hR1 _ hs
def F.octet_PutNum.l1 : Nat → Int → (List Int) → Option ((List Int))
 | 0, _, _ => none
 | k + 1, x2, l3 => (if decide (x2 ≥ 128) = true then (if l3.length + ([(bitOr .u8 (IntKind.u8.wrap x2) 128)]).length ≤ 140737488355328 then (F.octet_PutNum.l1 k (shV false .u64 x2 7) (l3 ++ [(bitOr .u8 (IntKind.u8.wrap x2) 128)])) else none) else (if l3.length + ([(IntKind.u8.wrap x2)]).length ≤ 140737488355328 then (some (l3 ++ [(IntKind.u8.wrap x2)])) else none))
def F.octet_PutNum (l1 : List Int) (x1 : Int) : Option ((List Int)) := ((F.slices_Clone_byte_byte l1).bind fun l2 => (F.octet_PutNum.l1 fuel x1 l2))
theorem P.octet_PutNum (g0 : GW) (r0 : Nat) (l1 : List Int) (x1 : Int) (a1 : Option Addr) (n1 : Nat) (c1 : Nat) (hR1 : RdS (Kd.int .u8) g0 5 a1 n1 c1 l1) (o1 : List Int) (hs : F.octet_PutNum l1 x1 = some o1) :
  Calls Try.prog 99 #[.slice a1 n1 c1, .int .u64 x1] g0.w (Ret NoM g0 fun v g => ∃ (a_1 : Option Addr) (n_1 : Nat) (c_1 : Nat), v = .slice a_1 n_1 c_1 ∧ OwnS (Kd.int .u8) g r0 5 a_1 n_1 c_1 o1) := by
 refine calls_of (args := [.slice a1 n1 c1, .int .u64 x1]) Try.func99 rfl (r0 + 0) ?_
 intro t ht htL
 refine ⟨_, rfl, ?_⟩
 refine CP.refr 23 [(0, .slice a1 n1 c1), (1, .int .u64 x1)] (by kernel_rfl) (by kernel_rfl) ?_
 intro ds
 have tot : Step (fun l => NoM l ∨ t ≤ l) g0 g0 := Step.refl _ _
 unfold F.octet_PutNum at hs
 refine CP.seqR ?_
 refine WP.stl 1 ?_
 refine WP.dn ?_
 refine NX.then_n ?_
 refine CP.seqR ?_
 refine WP.stl 1 ?_
 replace hs := Option.bind_eq_some_iff.1 hs
 obtain ⟨l2, hk1, hs⟩ := hs
 have hcal1 := P.slices_Clone_byte_byte g0 (t + 1) l1 a1 n1 c1 hR1 l2 hk1
 refine WP.callC hcal1 (by kernel_rfl) ?_
 rintro _ g1 st1 ⟨a2, n2, c2, rfl, hR2⟩
 replace hR1 := hR1.mono st1 (fun x => x)
 replace tot := tot.trans st1.pure
 refine WP.stl 1 ?_
 refine WP.dn ?_
 refine NX.then_n ?_
 refine CP.seq ?_
 refine CP.block ?_
 generalize fuel = k1 at hs
 refine CP.loop (fun k1 tm g => ∃ (x2 : Int) (l3 : List Int) (a7 : Option Addr) (n3 : Nat) (c5 : Nat), Fr 23 [(1, .int .u64 x2), (5, .slice a7 n3 c5)] tm ∧ Step (fun l => NoM l ∨ t ≤ l) g0 g ∧ OwnS (Kd.int .u8) g (t + 1) 5 a7 n3 c5 l3 ∧ F.octet_PutNum.l1 k1 x2 l3 = some o1) k1 ?_ ?_ ?_
 ·exact ⟨x1, l2, a2, n2, c2, ⟨by kernel_rfl, by kernel_rfl⟩, tot, hR2, hs⟩
 ·rintro tm g ⟨x2, l3, a7, n3, c5, hF, tot, hR7, hs⟩
  exact absurd hs (by simp [F.octet_PutNum.l1])
 clear tot hs hR2
 rintro k1 tm g ⟨x2, l3, a7, n3, c5, hF, tot, hR7, hs⟩
 clear ds
 obtain ⟨ds, rfl⟩ := hF.open
 clear hF
 unfold F.octet_PutNum.l1 at hs
 refine CP.seq ?_
 refine CP.seqR ?_
 refine WP.stl 2 ?_
 refine WP.dn ?_
 refine NX.then_n ?_
 refine CP.cond (b := decide (x2 ≥ 128)) (by kernel_rfl) (fun h3 => ?_) (fun h3 => ?_)
 ·replace hs := of_if_t hs h3
  refine CP.skip ?_
  refine NX.then_n ?_
  refine CP.block ?_
  refine CP.seqR ?_
  refine WP.stl 4 ?_
  refine WP.mkSl (kd := (Kd.int .u8)) (t := 64) (e := 5) (bytes := 1) (t + 6) [.int .u8 (bitOr .u8 (IntKind.u8.wrap x2) 128)] [(bitOr .u8 (IntKind.u8.wrap x2) 128)] (by kernel_rfl) (by kernel_rfl) (Nat.le_of_ble_eq_true rfl) (Nat.le_of_ble_eq_true rfl) (all_cons rfl all_nil) (⟨_, _, rfl, (by exact rfl), rfl⟩) rfl ?_
  intro g10 a13 st10 hR13
  replace hR7 := hR7.mono st10 (fun x => x) (fun x => x)
  replace tot := tot.trans st10.pure
  by_cases hc5 : l3.length + ([(bitOr .u8 (IntKind.u8.wrap x2) 128)]).length ≤ 140737488355328
  case neg => rw [if_neg hc5] at hs; cases hs
  replace hs := of_if_p hs hc5
  refine WP.append (kd := (Kd.int .u8)) (t := 64) (e := 5) (bytes := 1) (a2 := a13) (c2 := 1) hR7 hR13.src hR13.len (by kernel_rfl) (by kernel_rfl) (by omega) (by simp only [maxLen]; omega) (by omega) ?_
  intro g11 a14 c9 st11 hR14
  replace hR13 := hR13.mono st11 (WL.no1 (by omega)) (WL.no1 (by omega))
  replace tot := tot.trans (st11.up1 (.inr (by omega)))
  refine WP.stl 1 ?_
  refine WP.dn ?_
  refine NX.then_n ?_
  refine CP.region ?_
  refine WP.stl 3 ?_
  refine WP.dn ?_
  refine NX.block_n ?_
  refine NX.post ?_
  exact ⟨(shV false .u64 x2 7), (l3 ++ [(bitOr .u8 (IntKind.u8.wrap x2) 128)]), a14, (n3 + 1), c9, ⟨by kernel_rfl, by kernel_rfl⟩, tot, hR14, hs⟩
 replace hs := of_if_f hs h3
 refine CP.exit ?_
 refine NX.then_e ?_
 refine NX.then_e ?_
 refine NX.block_s ?_
 refine NX.then_n ?_
 refine CP.seqR ?_
 refine WP.stl 3 ?_
 refine WP.mkSl (kd := (Kd.int .u8)) (t := 64) (e := 5) (bytes := 1) (t + 7) [.int .u8 (IntKind.u8.wrap x2)] [(IntKind.u8.wrap x2)] (by kernel_rfl) (by kernel_rfl) (Nat.le_of_ble_eq_true rfl) (Nat.le_of_ble_eq_true rfl) (all_cons rfl all_nil) (⟨_, _, rfl, (by exact rfl), rfl⟩) rfl ?_
 intro g12 a15 st12 hR15
 replace hR7 := hR7.mono st12 (fun x => x) (fun x => x)
 replace tot := tot.trans st12.pure
 by_cases hc6 : l3.length + ([(IntKind.u8.wrap x2)]).length ≤ 140737488355328
 case neg => rw [if_neg hc6] at hs; cases hs
 replace hs := of_if_p hs hc6
 refine WP.append (kd := (Kd.int .u8)) (t := 64) (e := 5) (bytes := 1) (a2 := a15) (c2 := 1) hR7 hR15.src hR15.len (by kernel_rfl) (by kernel_rfl) (by omega) (by simp only [maxLen]; omega) (by omega) ?_
 intro g13 a16 c10 st13 hR16
 replace hR15 := hR15.mono st13 (WL.no1 (by omega)) (WL.no1 (by omega))
 replace tot := tot.trans (st13.up1 (.inr (by omega)))
 refine WP.stl 1 ?_
 refine WP.dn ?_
 refine NX.then_n ?_
 refine CP.ret ?_
 obtain ⟨g14, hw1, st14, hnew⟩ := hR16.relab (by omega) r0
 refine NX.regw hw1 ?_
 replace tot := tot.trans (st14.up1 (.inr (by omega)))
 clear hR16
 have hR16 := hnew
 clear hnew
 replace hs := Option.some.inj hs
 obtain rfl := hs
 exact NX.fin (v := .slice a16 (n3 + 1) c10) (Res.still (by kernel_rfl)) tot htL ⟨a16, (n3 + 1), c10, rfl, hR16⟩
def F.octet_PutBytes (l1 : List Int) (l2 : List Int) : Option ((List Int)) := ((F.octet_PutNum l1 (IntKind.u64.wrap (l2.length : Int))).bind fun l3 => (if l3.length + l2.length ≤ 140737488355328 then (some (l3 ++ l2)) else none))
theorem P.octet_PutBytes (g0 : GW) (r0 : Nat) (l1 : List Int) (l2 : List Int) (a1 : Option Addr) (n1 : Nat) (c1 : Nat) (a2 : Option Addr) (n2 : Nat) (c2 : Nat) (hR1 : RdS (Kd.int .u8) g0 5 a1 n1 c1 l1) (hR2 : RdS (Kd.int .u8) g0 5 a2 n2 c2 l2) (o1 : List Int) (hs : F.octet_PutBytes l1 l2 = some o1) :
  Calls Try.prog 82 #[.slice a1 n1 c1, .slice a2 n2 c2] g0.w (Ret NoM g0 fun v g => ∃ (a_1 : Option Addr) (n_1 : Nat) (c_1 : Nat), v = .slice a_1 n_1 c_1 ∧ OwnS (Kd.int .u8) g r0 5 a_1 n_1 c_1 o1) := by
 refine calls_of (args := [.slice a1 n1 c1, .slice a2 n2 c2]) Try.func82 rfl (r0 + 0) ?_
 intro t ht htL
 refine ⟨_, rfl, ?_⟩
 refine CP.refr 12 [(0, .slice a1 n1 c1), (1, .slice a2 n2 c2)] (by kernel_rfl) (by kernel_rfl) ?_
 intro ds
 have tot : Step (fun l => NoM l ∨ t ≤ l) g0 g0 := Step.refl _ _
 unfold F.octet_PutBytes at hs
 refine CP.seqR ?_
 refine WP.stl 1 ?_
 refine WP.dn ?_
 refine NX.then_n ?_
 refine CP.seqR ?_
 refine WP.stl 2 ?_
 refine WP.len (a := a2) (cp := c2) hR2.len (by kernel_rfl) ?_
 refine WP.stl 1 ?_
 replace hs := Option.bind_eq_some_iff.1 hs
 obtain ⟨l3, hk1, hs⟩ := hs
 have hcal1 := P.octet_PutNum g0 (t + 1) l1 (IntKind.u64.wrap (l2.length : Int)) a1 n1 c1 hR1 l3 hk1
 refine WP.callC hcal1 (by kernel_rfl) ?_
 rintro _ g1 st1 ⟨a3, n3, c3, rfl, hR3⟩
 replace hR1 := hR1.mono st1 (fun x => x)
 replace hR2 := hR2.mono st1 (fun x => x)
 replace tot := tot.trans st1.pure
 refine WP.stl 1 ?_
 by_cases hc1 : l3.length + l2.length ≤ 140737488355328
 case neg => rw [if_neg hc1] at hs; cases hs
 replace hs := of_if_p hs hc1
 refine WP.append (kd := (Kd.int .u8)) (t := 64) (e := 5) (bytes := 1) (a2 := a2) (c2 := c2) hR3 hR2.src hR2.len (by kernel_rfl) (by kernel_rfl) (by omega) (by simp only [maxLen]; omega) (by omega) ?_
 intro g2 a4 c4 st2 hR4
 replace hR1 := hR1.mono st2 (WL.no1 (by omega))
 replace hR2 := hR2.mono st2 (WL.no1 (by omega))
 replace tot := tot.trans (st2.up1 (.inr (by omega)))
 refine WP.stl 1 ?_
 refine WP.dn ?_
 refine NX.then_n ?_
 refine CP.ret ?_
 obtain ⟨g3, hw1, st3, hnew⟩ := hR4.relab (by omega) r0
 refine NX.regw hw1 ?_
 replace tot := tot.trans (st3.up1 (.inr (by omega)))
 clear hR4
 have hR4 := hnew
 clear hnew
 replace hs := Option.some.inj hs
 obtain rfl := hs
 exact NX.fin (v := .slice a4 (n3 + n2) c4) (Res.still (by kernel_rfl)) tot htL ⟨a4, (n3 + n2), c4, rfl, hR4⟩
def F.purse_put.l1 (l2 : List Int) : Nat → (List Int) → Int → Option ((List Int))
 | 0, _, _ => none
 | k + 1, l4, x1 => (if decide (x1 < (l2.length : Int)) = true then (if (0 : Int) ≤ x1 ∧ x1 < (l2.length : Int) then ((F.octet_PutNum l4 (IntKind.u64.wrap (getI l2 x1))).bind fun l7 => (F.purse_put.l1 l2 k l7 (IntKind.i64.wrap (x1 + 1)))) else none) else (some l4))
def F.purse_put (l1 : List Int) (l2 : List Int) : Option ((List Int)) := (F.purse_put.l1 l2 fuel l1 0)
theorem P.purse_put (g0 : GW) (l1 : List Int) (l2 : List Int) (a1 : Option Addr) (n1 : Nat) (c1 : Nat) (a2 : Option Addr) (n2 : Nat) (c2 : Nat) (hR1 : RdS (Kd.int .u8) g0 5 a1 n1 c1 l1) (hR2 : RdS (Kd.int .i64) g0 3 a2 n2 c2 l2) (o1 : List Int) (hs : F.purse_put l1 l2 = some o1) :
  Calls Try.prog 81 #[.slice a1 n1 c1, .slice a2 n2 c2] g0.w (Ret NoM g0 fun v g => ∃ (a_1 : Option Addr) (n_1 : Nat) (c_1 : Nat), v = .slice a_1 n_1 c_1 ∧ RdS (Kd.int .u8) g 5 a_1 n_1 c_1 o1) := by
 refine calls_of (args := [.slice a1 n1 c1, .slice a2 n2 c2]) Try.func81 rfl (0) ?_
 intro t ht htL
 refine ⟨_, rfl, ?_⟩
 refine CP.refr 19 [(0, .slice a1 n1 c1), (1, .slice a2 n2 c2)] (by kernel_rfl) (by kernel_rfl) ?_
 intro ds
 have tot : Step (fun l => NoM l ∨ t ≤ l) g0 g0 := Step.refl _ _
 unfold F.purse_put at hs
 refine CP.seqR ?_
 refine WP.stl 1 ?_
 refine WP.dn ?_
 refine NX.then_n ?_
 refine CP.seq ?_
 refine CP.seqR ?_
 refine WP.stl 1 ?_
 refine WP.len (a := a2) (cp := c2) hR2.len (by kernel_rfl) ?_
 refine WP.stl 1 ?_
 refine WP.dn ?_
 refine NX.then_n ?_
 refine CP.block ?_
 generalize fuel = k1 at hs
 refine CP.loop (fun k1 tm g => ∃ (l4 : List Int) (a4 : Option Addr) (n4 : Nat) (c4 : Nat) (x1 : Int), Fr 19 [(0, .slice a4 n4 c4), (7, .slice a2 n2 c2), (8, .int .i64 (l2.length : Int)), (9, .int .i64 x1)] tm ∧ Step (fun l => NoM l ∨ t ≤ l) g0 g ∧ RdS (Kd.int .u8) g 5 a4 n4 c4 l4 ∧ RdS (Kd.int .i64) g 3 a2 n2 c2 l2 ∧ F.purse_put.l1 l2 k1 l4 x1 = some o1) k1 ?_ ?_ ?_
 ·exact ⟨l1, a1, n1, c1, 0, ⟨by kernel_rfl, by kernel_rfl⟩, tot, hR1, hR2, hs⟩
 ·rintro tm g ⟨l4, a4, n4, c4, x1, hF, tot, hR4, hR2, hs⟩
  exact absurd hs (by simp [F.purse_put.l1])
 clear tot hs hR1 hR2
 rintro k1 tm g ⟨l4, a4, n4, c4, x1, hF, tot, hR4, hR2, hs⟩
 clear ds
 obtain ⟨ds, rfl⟩ := hF.open
 clear hF
 unfold F.purse_put.l1 at hs
 refine CP.seqR ?_
 refine WP.stl 1 ?_
 refine WP.dn ?_
 refine NX.then_n ?_
 refine CP.seq ?_
 refine CP.cond (b := decide (x1 < (l2.length : Int))) (by kernel_rfl) (fun h3 => ?_) (fun h3 => ?_)
 ·replace hs := of_if_t hs h3
  refine CP.skip ?_
  refine NX.then_n ?_
  refine CP.seq ?_
  refine CP.block ?_
  refine CP.seqR ?_
  by_cases hc3 : (0 : Int) ≤ x1 ∧ x1 < (l2.length : Int)
  case neg => rw [if_neg hc3] at hs; cases hs
  replace hs := of_if_p hs hc3
  obtain ⟨b3, u3, ha3⟩ := hR2.at hc3
  refine WP.indexA (t := 89) (e := 3) (sz := 1) (cap := c2) (k := .i64) (i := x1) hR2.len ha3 (by kernel_rfl) (by kernel_rfl) hc3 ?_
  obtain ⟨cs3, hcR3, hcV3⟩ := hR2.src.view (getI_some hc3) ha3
  replace hcR3 := Kd.o_int hcR3
  refine WP.loadV [[.int .i64 (getI l2 x1)]] [1] hcV3 hcR3 rfl (f := 0) (ty := 3) (agg := false) (size := 1) (rs := [[.int .i64 (getI l2 x1)]]) (v := .int .i64 (getI l2 x1)) (by kernel_rfl) (by kernel_rfl) (by kernel_rfl) (by kernel_rfl) ?_
  refine WP.stl 1 ?_
  refine WP.dn ?_
  refine NX.then_n ?_
  refine CP.region ?_
  refine WP.stl 3 ?_
  replace hs := Option.bind_eq_some_iff.1 hs
  obtain ⟨l7, hk3, hs⟩ := hs
  have hcal3 := P.octet_PutNum g (t + 3) l4 (IntKind.u64.wrap (getI l2 x1)) a4 n4 c4 hR4 l7 hk3
  refine WP.callC hcal3 (by kernel_rfl) ?_
  rintro _ g3 st3 ⟨a7, n7, c7, rfl, hR7⟩
  replace hR4 := hR4.mono st3 (fun x => x)
  replace hR2 := hR2.mono st3 (fun x => x)
  replace tot := tot.trans st3.pure
  refine WP.stl 1 ?_
  refine WP.dn ?_
  refine NX.block_n ?_
  refine NX.then_n ?_
  refine CP.region ?_
  refine WP.stl 2 ?_
  refine WP.dn ?_
  obtain ⟨g4, hw1, st4, hnew⟩ := hR7.freeze (by omega)
  refine NX.regw hw1 ?_
  replace hR2 := hR2.mono st4 (WL.no1 (by omega))
  replace tot := tot.trans (st4.up1 (.inr (by omega)))
  clear hR7
  have hR7 := hnew
  clear hnew
  refine NX.post ?_
  exact ⟨l7, a7, n7, c7, (IntKind.i64.wrap (x1 + 1)), ⟨by kernel_rfl, by kernel_rfl⟩, tot, hR7, hR2, hs⟩
 replace hs := of_if_f hs h3
 refine CP.exit ?_
 refine NX.then_e ?_
 refine NX.then_e ?_
 refine NX.block_s ?_
 refine NX.then_n ?_
 refine CP.seqR ?_
 refine WP.stl 2 ?_
 refine WP.dn ?_
 refine NX.then_n ?_
 refine CP.ret ?_
 replace hs := Option.some.inj hs
 obtain rfl := hs
 exact NX.fin (v := .slice a4 n4 c4) (Res.still (by kernel_rfl)) tot htL ⟨a4, n4, c4, rfl, hR4⟩
def N.purse_Purse_bytes_0 : List (List Nat) := [[], [0], [0, 1], [], [3], [], [5], [5, 6], [], [8], [8, 9], [], [11], [11, 12], [3, 4, 5, 6, 7, 8, 9, 10, 11, 12, 13], [0, 1, 2, 3, 4, 5, 6, 7, 8, 9, 10, 11, 12, 13, 14], [0, 1, 2, 3, 4, 5, 6, 7, 8, 9, 10, 11, 12, 13, 14, 15]]
def N.purse_Purse_bytes_1 : List (List Nat) := [[], [], [1], [0, 1, 2], [], [4], [], [6], [], [8], [4, 5, 6, 7, 8, 9], [0, 1, 2, 3, 4, 5, 6, 7, 8, 9, 10], [0, 1, 2, 3, 4, 5, 6, 7, 8, 9, 10, 11]]
def F.purse_Purse_bytes.l1 (l1 : List S_purse_Held) : Nat → (List Int) → Int → Option ((List Int))
 | 0, _, _ => none
 | k + 1, l6, x2 => (if decide (x2 < (l1.length : Int)) = true then (if (0 : Int) ≤ x2 ∧ x2 < (l1.length : Int) then ((F.octet_PutBytes l6 (((getI l1 x2).f1).1)).bind fun l10 => ((F.purse_put l10 ([(getI l1 x2).f2, (getI l1 x2).f3, (getI l1 x2).f4])).bind fun l11 => (F.purse_Purse_bytes.l1 l1 k l11 (IntKind.i64.wrap (x2 + 1))))) else none) else (some l6))
def F.purse_Purse_bytes (d1 : Arr Int 8) (x1 : Int) (d2 : Arr Int 2) (l1 : List S_purse_Held) : Option ((List Int)) := ((F.octet_PutBytes ([]) d1.1).bind fun l2 => ((F.purse_put l2 ([x1, (aget d2 0), (aget d2 1), (l1.length : Int)])).bind fun l3 => (F.purse_Purse_bytes.l1 l1 fuel l3 0)))
theorem P.purse_Purse_bytes (g0 : GW) (d1 : Arr Int 8) (x1 : Int) (d2 : Arr Int 2) (l1 : List S_purse_Held) (a1 : Option Addr) (n1 : Nat) (c1 : Nat) (hR1 : RdS k_S_purse_Held g0 56 a1 n1 c1 l1) (o1 : List Int) (hs : F.purse_Purse_bytes d1 x1 d2 l1 = some o1) :
  Calls Try.prog 59 #[AG [encA .u8 d1, [.int .i64 x1], encA .i64 d2, [.slice a1 n1 c1]]] g0.w (Ret NoM g0 fun v g => ∃ (a_1 : Option Addr) (n_1 : Nat) (c_1 : Nat), v = .slice a_1 n_1 c_1 ∧ RdS (Kd.int .u8) g 5 a_1 n_1 c_1 o1) := by
 refine calls_of (args := [AG [encA .u8 d1, [.int .i64 x1], encA .i64 d2, [.slice a1 n1 c1]]]) Try.func59 rfl (0) ?_
 intro t ht htL
 refine ⟨_, rfl, ?_⟩
 refine CP.refr 43 [(0, AG [encA .u8 d1, [.int .i64 x1], encA .i64 d2, [.slice a1 n1 c1]])] (by kernel_rfl) (by kernel_rfl) ?_
 intro ds
 have tot : Step (fun l => NoM l ∨ t ≤ l) g0 g0 := Step.refl _ _
 unfold F.purse_Purse_bytes at hs
 refine CP.seqR ?_
 refine WP.alloc (T := 32) (t + 1) [encA .u8 d1, [.int .i64 x1], encA .i64 d2, [.slice a1 n1 c1]] [8, 1, 2, 1] (by kernel_rfl) (by simp [len_encA]) ?_
 intro g1 b1 st1 hB1
 replace hR1 := hR1.mono st1 (fun x => x)
 replace tot := tot.trans st1.pure
 refine WP.stl 1 ?_
 refine WP.dn ?_
 refine NX.then_n ?_
 refine CP.seq ?_
 obtain ⟨g2, hw1, st2, hnew⟩ := hB1.relab 0
 refine CP.regw hw1 ?_
 replace hR1 := hR1.mono st2 (WL.no1 (by omega))
 replace tot := tot.trans (st2.up1 (.inr (by omega)))
 clear hB1
 have hB1 := hnew
 clear hnew
 replace hs := Option.bind_eq_some_iff.1 hs
 obtain ⟨l2, hk1, hs⟩ := hs
 replace hs := Option.bind_eq_some_iff.1 hs
 obtain ⟨l3, hk2, hs⟩ := hs
 refine CP.drawL (by kernel_rfl) [1, 2, 4, 7, 10, 12, 13, 14, 15] N.purse_Purse_bytes_0 [⟨none, [], [], fun l g => Box g 0 b1 32 [encA .u8 d1, [.int .i64 x1], encA .i64 d2, [.slice a1 n1 c1]] [8, 1, 2, 1]⟩, ⟨none, [], [], fun l g => RdS k_S_purse_Held g 56 a1 n1 c1 l1⟩, ⟨some 0, [], [0], fun l g => ∃ (a3 : Option Addr), l.getD 0 undef = .slice a3 ((8 : Int).toNat - (0 : Int).toNat) (8 - (0 : Int).toNat) ∧ RdS (Kd.int .u8) g 5 a3 ((8 : Int).toNat - (0 : Int).toNat) (8 - (0 : Int).toNat) d1.1⟩, ⟨some 1, [1], [1], fun l g => ∃ (a4 : Option Addr) (c2 : Nat), l.getD 0 undef = .slice a4 l2.length c2 ∧ OwnS (Kd.int .u8) g (t + 2) 5 a4 l2.length c2 l2⟩, ⟨some 2, [], [2], fun l g => l.getD 0 undef = .int .i64 x1⟩, ⟨some 3, [], [3], fun l g => l.getD 0 undef = .int .i64 (aget d2 0)⟩, ⟨some 4, [], [4], fun l g => l.getD 0 undef = .int .i64 (aget d2 1)⟩, ⟨some 5, [], [5], fun l g => l.getD 0 undef = .slice a1 n1 c1⟩, ⟨some 6, [], [6], fun l g => l.getD 0 undef = .int .i64 (l1.length : Int)⟩, ⟨some 7, [0], [7], fun l g => ∃ (a5 : Option Addr), l.getD 0 undef = .slice a5 4 4 ∧ OwnS (Kd.int .i64) g (t + 3) 3 a5 4 4 ([x1, (aget d2 0), (aget d2 1), (l1.length : Int)])⟩, ⟨some 8, [], [8], fun l g => ∃ (a6 : Option Addr) (c3 : Nat), l.getD 0 undef = .slice a6 l3.length c3 ∧ RdS (Kd.int .u8) g 5 a6 l3.length c3 l3⟩, ⟨some 8, [], [1], fun l g => ∃ (a4 : Option Addr) (c2 : Nat), l.getD 0 undef = .slice a4 l2.length c2 ∧ RdS (Kd.int .u8) g 5 a4 l2.length c2 l2⟩, ⟨some 8, [], [7], fun l g => ∃ (a5 : Option Addr), l.getD 0 undef = .slice a5 4 4 ∧ RdS (Kd.int .i64) g 3 a5 4 4 ([x1, (aget d2 0), (aget d2 1), (l1.length : Int)])⟩] [[], [], [], [], [], [], [], [], [0, 1]] [(t + 3), (t + 2)] [0, 3, 5, 6, 8, 9, 11] [16] (by kernel_rfl) (by simp <;> omega) (by simp <;> omega) ⟨fun _ _ _ _ st h0 hl hj hB1 => (hB1.mono st (fun h => absurd (hl _ h) (by simp <;> omega))), fun _ _ _ _ st h0 hl hj hR1 => (RdS.mono (e := 56) hR1 st h0), fun _ _ _ _ st h0 hl hj ⟨a3, e0, hR3⟩ => ⟨a3, e0, (RdS.mono (e := 5) hR3 st h0)⟩, fun _ _ _ _ st h0 hl hj ⟨a4, c2, e1, hR4⟩ => ⟨a4, c2, e1, (hR4.mono st h0 (hj 1 (by simp) _ rfl))⟩, fun _ _ _ _ st h0 hl hj e2 => e2, fun _ _ _ _ st h0 hl hj e3 => e3, fun _ _ _ _ st h0 hl hj e4 => e4, fun _ _ _ _ st h0 hl hj e5 => e5, fun _ _ _ _ st h0 hl hj e6 => e6, fun _ _ _ _ st h0 hl hj ⟨a5, e7, hR5⟩ => ⟨a5, e7, (hR5.mono st h0 (hj 0 (by simp) _ rfl))⟩, fun _ _ _ _ st h0 hl hj ⟨a6, c3, e8, hR6⟩ => ⟨a6, c3, e8, (RdS.mono (e := 5) hR6 st h0)⟩, fun _ _ _ _ st h0 hl hj ⟨a4, c2, e1, hR4⟩ => ⟨a4, c2, e1, (RdS.mono (e := 5) hR4 st h0)⟩, fun _ _ _ _ st h0 hl hj ⟨a5, e7, hR5⟩ => ⟨a5, e7, (RdS.mono (e := 3) hR5 st h0)⟩, tv⟩ ⟨hB1, hR1, tv, tv, tv, tv, tv, tv, tv, tv, tv, tv, tv, tv⟩ (by kernel_rfl) (fun vs => by kernel_rfl) ?_ ?_ ?_
 ·intro j hj
  have hq : j = 0 := by have h : j < 1 := hj; omega
  rcases hq with rfl
  ·intro vs gq stq hl hf
   obtain ⟨v0, v1, v2, v3, v4, v5, v6, v7, v8, rfl⟩ := len_k9 hl
   obtain ⟨a6, c3, e8, hR6⟩ := (show ∃ (a6 : Option Addr) (c3 : Nat), v8 = .slice a6 l3.length c3 ∧ RdS (Kd.int .u8) gq 5 a6 l3.length c3 l3 from hf _ (memI 10 rfl) (by kernel_rfl))
   subst e8
   show Option.isSome _ = true
   kernel_rfl
 ·intro j hj
  have hq : j = 0 ∨ j = 1 ∨ j = 2 ∨ j = 3 ∨ j = 4 ∨ j = 5 ∨ j = 6 ∨ j = 7 ∨ j = 8 := by have h : j < 9 := hj; omega
  rcases hq with rfl | rfl | rfl | rfl | rfl | rfl | rfl | rfl | rfl
  ·intro vs gq stq hl hf
   obtain ⟨v0, v1, v2, v3, v4, v5, v6, v7, v8, rfl⟩ := len_k9 hl
   have hB1 := (show Box gq 0 b1 32 [encA .u8 d1, [.int .i64 x1], encA .i64 d2, [.slice a1 n1 c1]] [8, 1, 2, 1] from hf _ (memI 0 rfl) (by kernel_rfl))
   refine WP.sliceZ (o := 0) (m := 8) (k := .u8) (d := d1) (e := 5) (lo := none) (hi := none) hB1 (by kernel_rfl) (0 : Int) (8 : Int) (by kernel_rfl) (.inl ⟨rfl, rfl⟩) (.inl ⟨rfl, rfl⟩) (by decide) ?_
   intro a3 hR3
   rw [sliceI_all (m := 8) (d := d1) (j := (8 : Int)) rfl] at hR3
   refine WP.dn (Shown.ok (v := .slice a3 ((8 : Int).toNat - (0 : Int).toNat) (8 - (0 : Int).toNat)) (by kernel_rfl) (Step.refl _ _) ?_)
   exact ⟨tv, tv, ⟨a3, rfl, hR3⟩, tv, tv, tv, tv, tv, tv, tv, tv, tv, tv, tv⟩
  ·intro vs gq stq hl hf
   obtain ⟨v0, v1, v2, v3, v4, v5, v6, v7, v8, rfl⟩ := len_k9 hl
   obtain ⟨a3, e0, hR3⟩ := (show ∃ (a3 : Option Addr), v0 = .slice a3 ((8 : Int).toNat - (0 : Int).toNat) (8 - (0 : Int).toNat) ∧ RdS (Kd.int .u8) gq 5 a3 ((8 : Int).toNat - (0 : Int).toNat) (8 - (0 : Int).toNat) d1.1 from hf _ (memI 2 rfl) (by kernel_rfl))
   subst e0
   have hcal1 := P.octet_PutBytes gq (t + 2) ([]) d1.1 none 0 0 a3 ((8 : Int).toNat - (0 : Int).toNat) (8 - (0 : Int).toNat) (RdS.nil _ _ _) hR3 l2 hk1
   refine WP.callC hcal1 (by kernel_rfl) ?_
   rintro _ g3 st3 ⟨a4, n2, c2, rfl, hR4⟩
   obtain rfl := hR4.len
   refine WP.dn (Shown.o (v := .slice a4 l2.length c2) st3.pure ?_)
   exact ⟨tv, tv, tv, ⟨a4, c2, rfl, hR4⟩, tv, tv, tv, tv, tv, tv, tv, tv, tv, tv⟩
  ·intro vs gq stq hl hf
   obtain ⟨v0, v1, v2, v3, v4, v5, v6, v7, v8, rfl⟩ := len_k9 hl
   have hB1 := (show Box gq 0 b1 32 [encA .u8 d1, [.int .i64 x1], encA .i64 d2, [.slice a1 n1 c1]] [8, 1, 2, 1] from hf _ (memI 0 rfl) (by kernel_rfl))
   refine WP.loadB (v := .int .i64 x1) hB1 (by kernel_rfl) (by kernel_rfl) ?_
   refine WP.dn (Shown.ok (v := .int .i64 x1) (by kernel_rfl) (Step.refl _ _) ?_)
   exact ⟨tv, tv, tv, tv, rfl, tv, tv, tv, tv, tv, tv, tv, tv, tv⟩
  ·intro vs gq stq hl hf
   obtain ⟨v0, v1, v2, v3, v4, v5, v6, v7, v8, rfl⟩ := len_k9 hl
   have hB1 := (show Box gq 0 b1 32 [encA .u8 d1, [.int .i64 x1], encA .i64 d2, [.slice a1 n1 c1]] [8, 1, 2, 1] from hf _ (memI 0 rfl) (by kernel_rfl))
   refine WP.loadE (ty := 3) (o := 9) (m := 2) (k := .i64) (d := d2) (i := 0) hB1 (by kernel_rfl) (by decide) (by kernel_rfl) (by kernel_rfl) ?_
   refine WP.dn (Shown.ok (v := .int .i64 (aget d2 0)) (by kernel_rfl) (Step.refl _ _) ?_)
   exact ⟨tv, tv, tv, tv, tv, rfl, tv, tv, tv, tv, tv, tv, tv, tv⟩
  ·intro vs gq stq hl hf
   obtain ⟨v0, v1, v2, v3, v4, v5, v6, v7, v8, rfl⟩ := len_k9 hl
   have hB1 := (show Box gq 0 b1 32 [encA .u8 d1, [.int .i64 x1], encA .i64 d2, [.slice a1 n1 c1]] [8, 1, 2, 1] from hf _ (memI 0 rfl) (by kernel_rfl))
   refine WP.loadE (ty := 3) (o := 9) (m := 2) (k := .i64) (d := d2) (i := 1) hB1 (by kernel_rfl) (by decide) (by kernel_rfl) (by kernel_rfl) ?_
   refine WP.dn (Shown.ok (v := .int .i64 (aget d2 1)) (by kernel_rfl) (Step.refl _ _) ?_)
   exact ⟨tv, tv, tv, tv, tv, tv, rfl, tv, tv, tv, tv, tv, tv, tv⟩
  ·intro vs gq stq hl hf
   obtain ⟨v0, v1, v2, v3, v4, v5, v6, v7, v8, rfl⟩ := len_k9 hl
   have hB1 := (show Box gq 0 b1 32 [encA .u8 d1, [.int .i64 x1], encA .i64 d2, [.slice a1 n1 c1]] [8, 1, 2, 1] from hf _ (memI 0 rfl) (by kernel_rfl))
   refine WP.loadB (v := .slice a1 n1 c1) hB1 (by kernel_rfl) (by kernel_rfl) ?_
   refine WP.dn (Shown.ok (v := .slice a1 n1 c1) (by kernel_rfl) (Step.refl _ _) ?_)
   exact ⟨tv, tv, tv, tv, tv, tv, tv, rfl, tv, tv, tv, tv, tv, tv⟩
  ·intro vs gq stq hl hf
   obtain ⟨v0, v1, v2, v3, v4, v5, v6, v7, v8, rfl⟩ := len_k9 hl
   have hR1 := (show RdS k_S_purse_Held gq 56 a1 n1 c1 l1 from hf _ (memI 1 rfl) (by kernel_rfl))
   have e5 := (show v5 = .slice a1 n1 c1 from hf _ (memI 7 rfl) (by kernel_rfl))
   subst e5
   refine WP.len (a := a1) (cp := c1) hR1.len (by kernel_rfl) ?_
   refine WP.dn (Shown.ok (v := .int .i64 (l1.length : Int)) (by kernel_rfl) (Step.refl _ _) ?_)
   exact ⟨tv, tv, tv, tv, tv, tv, tv, tv, rfl, tv, tv, tv, tv, tv⟩
  ·intro vs gq stq hl hf
   obtain ⟨v0, v1, v2, v3, v4, v5, v6, v7, v8, rfl⟩ := len_k9 hl
   have e2 := (show v2 = .int .i64 x1 from hf _ (memI 4 rfl) (by kernel_rfl))
   subst e2
   have e3 := (show v3 = .int .i64 (aget d2 0) from hf _ (memI 5 rfl) (by kernel_rfl))
   subst e3
   have e4 := (show v4 = .int .i64 (aget d2 1) from hf _ (memI 6 rfl) (by kernel_rfl))
   subst e4
   have e6 := (show v6 = .int .i64 (l1.length : Int) from hf _ (memI 8 rfl) (by kernel_rfl))
   subst e6
   refine WP.mkSl (kd := (Kd.int .i64)) (t := 89) (e := 3) (bytes := 8) (t + 3) [.int .i64 x1, .int .i64 (aget d2 0), .int .i64 (aget d2 1), .int .i64 (l1.length : Int)] [x1, (aget d2 0), (aget d2 1), (l1.length : Int)] (by kernel_rfl) (by kernel_rfl) (Nat.le_of_ble_eq_true rfl) (Nat.le_of_ble_eq_true rfl) (all_cons rfl (all_cons rfl (all_cons rfl (all_cons rfl all_nil)))) (⟨_, _, rfl, (by exact rfl), ⟨_, _, rfl, (by exact rfl), ⟨_, _, rfl, (by exact rfl), ⟨_, _, rfl, (by exact rfl), rfl⟩⟩⟩⟩) rfl ?_
   intro g4 a5 st4 hR5
   refine WP.dn (Shown.o (v := .slice a5 4 4) st4.pure ?_)
   exact ⟨tv, tv, tv, tv, tv, tv, tv, tv, tv, ⟨a5, rfl, hR5⟩, tv, tv, tv, tv⟩
  ·intro vs gq stq hl hf
   obtain ⟨v0, v1, v2, v3, v4, v5, v6, v7, v8, rfl⟩ := len_k9 hl
   obtain ⟨a4, c2, e1, hR4⟩ := (show ∃ (a4 : Option Addr) (c2 : Nat), v1 = .slice a4 l2.length c2 ∧ OwnS (Kd.int .u8) gq (t + 2) 5 a4 l2.length c2 l2 from hf _ (memI 3 rfl) (by kernel_rfl))
   subst e1
   obtain ⟨a5, e7, hR5⟩ := (show ∃ (a5 : Option Addr), v7 = .slice a5 4 4 ∧ OwnS (Kd.int .i64) gq (t + 3) 3 a5 4 4 ([x1, (aget d2 0), (aget d2 1), (l1.length : Int)]) from hf _ (memI 9 rfl) (by kernel_rfl))
   subst e7
   obtain ⟨gf2, hwf2, stf2, hnew⟩ := hR5.freeze (by omega)
   refine WP.regw hwf2 ?_
   replace hR4 := hR4.mono stf2 (WL.no (by simp <;> omega)) (WL.no (by simp <;> omega))
   clear hR5
   have hR5 := hnew
   clear hnew
   obtain ⟨gf1, hwf1, stf1, hnew⟩ := hR4.freeze (by omega)
   refine WP.regw hwf1 ?_
   replace hR5 := hR5.mono stf1 (WL.no (by simp <;> omega))
   clear hR4
   have hR4 := hnew
   clear hnew
   have hcal2 := P.purse_put gf1 l2 ([x1, (aget d2 0), (aget d2 1), (l1.length : Int)]) a4 l2.length c2 a5 4 4 hR4 hR5 l3 hk2
   refine WP.callC hcal2 (by kernel_rfl) ?_
   rintro _ g5 st5 ⟨a6, n3, c3, rfl, hR6⟩
   obtain rfl := hR6.len
   replace st5 : Step (WL []) _ _ := Step.pure st5
   have hz1 := hR4.mono st5 (WL.no (by simp <;> omega))
   have hz2 := hR5.mono st5 (WL.no (by simp <;> omega))
   replace st5 := Step.both stf1 st5
   replace st5 := Step.both stf2 st5
   refine WP.dn (Shown.o (v := .slice a6 l3.length c3) st5 ?_)
   exact ⟨tv, tv, tv, tv, tv, tv, tv, tv, tv, tv, ⟨a6, c3, rfl, hR6⟩, ⟨a4, c2, rfl, hz1⟩, ⟨a5, rfl, hz2⟩, tv⟩
 intro vs g6 st6 hl hf
 obtain ⟨v0, v1, v2, v3, v4, v5, v6, v7, v8, rfl⟩ := len_k9 hl
 obtain ⟨a6, c3, e8, hR6⟩ := (show ∃ (a6 : Option Addr) (c3 : Nat), v8 = .slice a6 l3.length c3 ∧ RdS (Kd.int .u8) g6 5 a6 l3.length c3 l3 from hf _ (memI 10 rfl) (by kernel_rfl))
 subst e8
 replace hB1 := hB1.mono st6 (WL.no2 (by omega) (by omega))
 replace hR1 := hR1.mono st6 (WL.no2 (by omega) (by omega))
 replace tot := tot.trans (st6.up2 (.inr (by omega)) (.inr (by omega)))
 refine NX.then_n ?_
 refine CP.refr 43 [(1, .pointer (some ⟨b1, 0, none⟩)), (3, .slice a6 l3.length c3)] (by kernel_rfl) (by kernel_rfl) ?_
 clear ds
 intro ds
 refine CP.seq ?_
 refine CP.seqR ?_
 refine WP.stl 1 ?_
 refine WP.loadB (v := .slice a1 n1 c1) hB1 (by kernel_rfl) (by kernel_rfl) ?_
 refine WP.len (a := a1) (cp := c1) hR1.len (by kernel_rfl) ?_
 refine WP.stl 1 ?_
 refine WP.dn ?_
 refine NX.then_n ?_
 refine CP.block ?_
 generalize fuel = k1 at hs
 refine CP.loop (fun k1 tm g => ∃ (l6 : List Int) (a12 : Option Addr) (n6 : Nat) (c6 : Nat) (x2 : Int), Fr 43 [(3, .slice a12 n6 c6), (23, .slice a1 n1 c1), (24, .int .i64 (l1.length : Int)), (25, .int .i64 x2)] tm ∧ Step (fun l => NoM l ∨ t ≤ l) g0 g ∧ RdS (Kd.int .u8) g 5 a12 n6 c6 l6 ∧ RdS k_S_purse_Held g 56 a1 n1 c1 l1 ∧ F.purse_Purse_bytes.l1 l1 k1 l6 x2 = some o1) k1 ?_ ?_ ?_
 ·exact ⟨l3, a6, l3.length, c3, 0, ⟨by kernel_rfl, by kernel_rfl⟩, tot, hR6, hR1, hs⟩
 ·rintro tm g ⟨l6, a12, n6, c6, x2, hF, tot, hR12, hR1, hs⟩
  exact absurd hs (by simp [F.purse_Purse_bytes.l1])
 clear tot hs hR6 hR1
 rintro k1 tm g ⟨l6, a12, n6, c6, x2, hF, tot, hR12, hR1, hs⟩
 clear ds
 obtain ⟨ds, rfl⟩ := hF.open
 clear hF
 unfold F.purse_Purse_bytes.l1 at hs
 refine CP.seqR ?_
 refine WP.stl 1 ?_
 refine WP.dn ?_
 refine NX.then_n ?_
 refine CP.seq ?_
 refine CP.cond (b := decide (x2 < (l1.length : Int))) (by kernel_rfl) (fun h3 => ?_) (fun h3 => ?_)
 ·replace hs := of_if_t hs h3
  refine CP.skip ?_
  refine NX.then_n ?_
  refine CP.seq ?_
  refine CP.block ?_
  refine CP.seqR ?_
  by_cases hc3 : (0 : Int) ≤ x2 ∧ x2 < (l1.length : Int)
  case neg => rw [if_neg hc3] at hs; cases hs
  replace hs := of_if_p hs hc3
  obtain ⟨b6, u3, ha3⟩ := hR1.at hc3
  refine WP.indexA (t := 30) (e := 56) (sz := 11) (cap := c1) (k := .i64) (i := x2) hR1.len ha3 (by kernel_rfl) (by kernel_rfl) hc3 ?_
  obtain ⟨cs3, hcR3, hcV3⟩ := hR1.src.view (getI_some hc3) ha3
  replace hcR3 := k_S_purse_Held.opn hcR3
  refine WP.loadV [encA .u8 ((getI l1 x2).f1), [.int .i64 ((getI l1 x2).f2)], [.int .i64 ((getI l1 x2).f3)], [.int .i64 ((getI l1 x2).f4)]] [8, 1, 1, 1] hcV3 hcR3 (by simp [len_encA]) (f := 0) (ty := 56) (agg := true) (size := 11) (rs := [encA .u8 ((getI l1 x2).f1), [.int .i64 ((getI l1 x2).f2)], [.int .i64 ((getI l1 x2).f3)], [.int .i64 ((getI l1 x2).f4)]]) (v := AG [encA .u8 ((getI l1 x2).f1), [.int .i64 ((getI l1 x2).f2)], [.int .i64 ((getI l1 x2).f3)], [.int .i64 ((getI l1 x2).f4)]]) (by kernel_rfl) (by kernel_rfl) (by kernel_rfl) (by kernel_rfl) ?_
  refine WP.alloc (T := 56) (t + 10) [encA .u8 (zA 8), [.int .i64 0], [.int .i64 0], [.int .i64 0]] [8, 1, 1, 1] (by kernel_rfl) (by simp [len_encA]) ?_
  intro g19 b7 st19 hB6
  replace hR12 := hR12.mono st19 (fun x => x)
  replace hR1 := hR1.mono st19 (fun x => x)
  replace tot := tot.trans st19.pure
  refine WP.storeB (ty := 56) (off := 0) (v := AG [encA .u8 ((getI l1 x2).f1), [.int .i64 ((getI l1 x2).f2)], [.int .i64 ((getI l1 x2).f3)], [.int .i64 ((getI l1 x2).f4)]]) hB6 [encA .u8 ((getI l1 x2).f1), [.int .i64 ((getI l1 x2).f2)], [.int .i64 ((getI l1 x2).f3)], [.int .i64 ((getI l1 x2).f4)]] [8, 1, 1, 1] (by kernel_rfl) (by kernel_rfl) (by simp [len_encA]) (by kernel_rfl) [encA .u8 ((getI l1 x2).f1), [.int .i64 ((getI l1 x2).f2)], [.int .i64 ((getI l1 x2).f3)], [.int .i64 ((getI l1 x2).f4)]] (by kernel_rfl) (.arr (.one rfl (.one rfl (.one rfl .nil)))) ?_
  intro g20 st20 hB7
  replace hR12 := hR12.mono st20 (WL.no1 (by omega))
  replace hR1 := hR1.mono st20 (WL.no1 (by omega))
  replace tot := tot.trans (st20.up1 (.inr (by omega)))
  clear hB6
  have hB6 := hB7
  clear hB7
  refine WP.dn ?_
  refine NX.then_n ?_
  obtain ⟨g21, hw4, st21, hnew⟩ := hB6.relab 0
  refine CP.regw hw4 ?_
  replace hR12 := hR12.mono st21 (WL.no1 (by omega))
  replace hR1 := hR1.mono st21 (WL.no1 (by omega))
  replace tot := tot.trans (st21.up1 (.inr (by omega)))
  clear hB6
  have hB6 := hnew
  clear hnew
  replace hs := Option.bind_eq_some_iff.1 hs
  obtain ⟨l10, hk7, hs⟩ := hs
  replace hs := Option.bind_eq_some_iff.1 hs
  obtain ⟨l11, hk8, hs⟩ := hs
  refine CP.drawL (by kernel_rfl) [2, 3, 5, 7, 9, 10, 11] N.purse_Purse_bytes_1 [⟨none, [], [], fun l g => RdS (Kd.int .u8) g 5 a12 n6 c6 l6⟩, ⟨none, [], [], fun l g => Box g 0 b7 56 [encA .u8 ((getI l1 x2).f1), [.int .i64 ((getI l1 x2).f2)], [.int .i64 ((getI l1 x2).f3)], [.int .i64 ((getI l1 x2).f4)]] [8, 1, 1, 1]⟩, ⟨some 0, [], [0], fun l g => ∃ (a20 : Option Addr), l.getD 0 undef = .slice a20 ((8 : Int).toNat - (0 : Int).toNat) (8 - (0 : Int).toNat) ∧ RdS (Kd.int .u8) g 5 a20 ((8 : Int).toNat - (0 : Int).toNat) (8 - (0 : Int).toNat) (((getI l1 x2).f1).1)⟩, ⟨some 1, [1], [1], fun l g => ∃ (a21 : Option Addr) (c10 : Nat), l.getD 0 undef = .slice a21 l10.length c10 ∧ OwnS (Kd.int .u8) g (t + 11) 5 a21 l10.length c10 l10⟩, ⟨some 2, [], [2], fun l g => l.getD 0 undef = .int .i64 ((getI l1 x2).f2)⟩, ⟨some 3, [], [3], fun l g => l.getD 0 undef = .int .i64 ((getI l1 x2).f3)⟩, ⟨some 4, [], [4], fun l g => l.getD 0 undef = .int .i64 ((getI l1 x2).f4)⟩, ⟨some 5, [0], [5], fun l g => ∃ (a22 : Option Addr), l.getD 0 undef = .slice a22 3 3 ∧ OwnS (Kd.int .i64) g (t + 12) 3 a22 3 3 ([(getI l1 x2).f2, (getI l1 x2).f3, (getI l1 x2).f4])⟩, ⟨some 6, [], [6], fun l g => ∃ (a23 : Option Addr) (c11 : Nat), l.getD 0 undef = .slice a23 l11.length c11 ∧ RdS (Kd.int .u8) g 5 a23 l11.length c11 l11⟩, ⟨some 6, [], [1], fun l g => ∃ (a21 : Option Addr) (c10 : Nat), l.getD 0 undef = .slice a21 l10.length c10 ∧ RdS (Kd.int .u8) g 5 a21 l10.length c10 l10⟩, ⟨some 6, [], [5], fun l g => ∃ (a22 : Option Addr), l.getD 0 undef = .slice a22 3 3 ∧ RdS (Kd.int .i64) g 3 a22 3 3 ([(getI l1 x2).f2, (getI l1 x2).f3, (getI l1 x2).f4])⟩] [[], [], [], [], [], [], [0, 1]] [(t + 12), (t + 11)] [0, 1, 4, 6, 8] [12] (by kernel_rfl) (by simp <;> omega) (by simp <;> omega) ⟨fun _ _ _ _ st h0 hl hj hR12 => (RdS.mono (e := 5) hR12 st h0), fun _ _ _ _ st h0 hl hj hB6 => (hB6.mono st (fun h => absurd (hl _ h) (by simp <;> omega))), fun _ _ _ _ st h0 hl hj ⟨a20, e0, hR20⟩ => ⟨a20, e0, (RdS.mono (e := 5) hR20 st h0)⟩, fun _ _ _ _ st h0 hl hj ⟨a21, c10, e1, hR21⟩ => ⟨a21, c10, e1, (hR21.mono st h0 (hj 1 (by simp) _ rfl))⟩, fun _ _ _ _ st h0 hl hj e2 => e2, fun _ _ _ _ st h0 hl hj e3 => e3, fun _ _ _ _ st h0 hl hj e4 => e4, fun _ _ _ _ st h0 hl hj ⟨a22, e5, hR22⟩ => ⟨a22, e5, (hR22.mono st h0 (hj 0 (by simp) _ rfl))⟩, fun _ _ _ _ st h0 hl hj ⟨a23, c11, e6, hR23⟩ => ⟨a23, c11, e6, (RdS.mono (e := 5) hR23 st h0)⟩, fun _ _ _ _ st h0 hl hj ⟨a21, c10, e1, hR21⟩ => ⟨a21, c10, e1, (RdS.mono (e := 5) hR21 st h0)⟩, fun _ _ _ _ st h0 hl hj ⟨a22, e5, hR22⟩ => ⟨a22, e5, (RdS.mono (e := 3) hR22 st h0)⟩, tv⟩ ⟨hR12, hB6, tv, tv, tv, tv, tv, tv, tv, tv, tv, tv⟩ (by kernel_rfl) (fun vs => by kernel_rfl) ?_ ?_ ?_
  ·intro j hj
   have hq : j = 0 := by have h : j < 1 := hj; omega
   rcases hq with rfl
   ·intro vs gq stq hl hf
    obtain ⟨v0, v1, v2, v3, v4, v5, v6, rfl⟩ := len_k7 hl
    obtain ⟨a23, c11, e6, hR23⟩ := (show ∃ (a23 : Option Addr) (c11 : Nat), v6 = .slice a23 l11.length c11 ∧ RdS (Kd.int .u8) gq 5 a23 l11.length c11 l11 from hf _ (memI 8 rfl) (by kernel_rfl))
    subst e6
    show Option.isSome _ = true
    kernel_rfl
  ·intro j hj
   have hq : j = 0 ∨ j = 1 ∨ j = 2 ∨ j = 3 ∨ j = 4 ∨ j = 5 ∨ j = 6 := by have h : j < 7 := hj; omega
   rcases hq with rfl | rfl | rfl | rfl | rfl | rfl | rfl
   ·intro vs gq stq hl hf
    obtain ⟨v0, v1, v2, v3, v4, v5, v6, rfl⟩ := len_k7 hl
    have hB6 := (show Box gq 0 b7 56 [encA .u8 ((getI l1 x2).f1), [.int .i64 ((getI l1 x2).f2)], [.int .i64 ((getI l1 x2).f3)], [.int .i64 ((getI l1 x2).f4)]] [8, 1, 1, 1] from hf _ (memI 1 rfl) (by kernel_rfl))
    refine WP.sliceZ (o := 0) (m := 8) (k := .u8) (d := (getI l1 x2).f1) (e := 5) (lo := none) (hi := none) hB6 (by kernel_rfl) (0 : Int) (8 : Int) (by kernel_rfl) (.inl ⟨rfl, rfl⟩) (.inl ⟨rfl, rfl⟩) (by decide) ?_
    intro a20 hR20
    rw [sliceI_all (m := 8) (d := (getI l1 x2).f1) (j := (8 : Int)) rfl] at hR20
    refine WP.dn (Shown.ok (v := .slice a20 ((8 : Int).toNat - (0 : Int).toNat) (8 - (0 : Int).toNat)) (by kernel_rfl) (Step.refl _ _) ?_)
    exact ⟨tv, tv, ⟨a20, rfl, hR20⟩, tv, tv, tv, tv, tv, tv, tv, tv, tv⟩
   ·intro vs gq stq hl hf
    obtain ⟨v0, v1, v2, v3, v4, v5, v6, rfl⟩ := len_k7 hl
    have hR12 := (show RdS (Kd.int .u8) gq 5 a12 n6 c6 l6 from hf _ (memI 0 rfl) (by kernel_rfl))
    obtain ⟨a20, e0, hR20⟩ := (show ∃ (a20 : Option Addr), v0 = .slice a20 ((8 : Int).toNat - (0 : Int).toNat) (8 - (0 : Int).toNat) ∧ RdS (Kd.int .u8) gq 5 a20 ((8 : Int).toNat - (0 : Int).toNat) (8 - (0 : Int).toNat) (((getI l1 x2).f1).1) from hf _ (memI 2 rfl) (by kernel_rfl))
    subst e0
    have hcal7 := P.octet_PutBytes gq (t + 11) l6 (((getI l1 x2).f1).1) a12 n6 c6 a20 ((8 : Int).toNat - (0 : Int).toNat) (8 - (0 : Int).toNat) hR12 hR20 l10 hk7
    refine WP.callC hcal7 (by kernel_rfl) ?_
    rintro _ g22 st22 ⟨a21, n10, c10, rfl, hR21⟩
    obtain rfl := hR21.len
    refine WP.dn (Shown.o (v := .slice a21 l10.length c10) st22.pure ?_)
    exact ⟨tv, tv, tv, ⟨a21, c10, rfl, hR21⟩, tv, tv, tv, tv, tv, tv, tv, tv⟩
   ·intro vs gq stq hl hf
    obtain ⟨v0, v1, v2, v3, v4, v5, v6, rfl⟩ := len_k7 hl
    have hB6 := (show Box gq 0 b7 56 [encA .u8 ((getI l1 x2).f1), [.int .i64 ((getI l1 x2).f2)], [.int .i64 ((getI l1 x2).f3)], [.int .i64 ((getI l1 x2).f4)]] [8, 1, 1, 1] from hf _ (memI 1 rfl) (by kernel_rfl))
    refine WP.loadB (v := .int .i64 ((getI l1 x2).f2)) hB6 (by kernel_rfl) (by kernel_rfl) ?_
    refine WP.dn (Shown.ok (v := .int .i64 ((getI l1 x2).f2)) (by kernel_rfl) (Step.refl _ _) ?_)
    exact ⟨tv, tv, tv, tv, rfl, tv, tv, tv, tv, tv, tv, tv⟩
   ·intro vs gq stq hl hf
    obtain ⟨v0, v1, v2, v3, v4, v5, v6, rfl⟩ := len_k7 hl
    have hB6 := (show Box gq 0 b7 56 [encA .u8 ((getI l1 x2).f1), [.int .i64 ((getI l1 x2).f2)], [.int .i64 ((getI l1 x2).f3)], [.int .i64 ((getI l1 x2).f4)]] [8, 1, 1, 1] from hf _ (memI 1 rfl) (by kernel_rfl))
    refine WP.loadB (v := .int .i64 ((getI l1 x2).f3)) hB6 (by kernel_rfl) (by kernel_rfl) ?_
    refine WP.dn (Shown.ok (v := .int .i64 ((getI l1 x2).f3)) (by kernel_rfl) (Step.refl _ _) ?_)
    exact ⟨tv, tv, tv, tv, tv, rfl, tv, tv, tv, tv, tv, tv⟩
   ·intro vs gq stq hl hf
    obtain ⟨v0, v1, v2, v3, v4, v5, v6, rfl⟩ := len_k7 hl
    have hB6 := (show Box gq 0 b7 56 [encA .u8 ((getI l1 x2).f1), [.int .i64 ((getI l1 x2).f2)], [.int .i64 ((getI l1 x2).f3)], [.int .i64 ((getI l1 x2).f4)]] [8, 1, 1, 1] from hf _ (memI 1 rfl) (by kernel_rfl))
    refine WP.loadB (v := .int .i64 ((getI l1 x2).f4)) hB6 (by kernel_rfl) (by kernel_rfl) ?_
    refine WP.dn (Shown.ok (v := .int .i64 ((getI l1 x2).f4)) (by kernel_rfl) (Step.refl _ _) ?_)
    exact ⟨tv, tv, tv, tv, tv, tv, rfl, tv, tv, tv, tv, tv⟩
   ·intro vs gq stq hl hf
    obtain ⟨v0, v1, v2, v3, v4, v5, v6, rfl⟩ := len_k7 hl
    have e2 := (show v2 = .int .i64 ((getI l1 x2).f2) from hf _ (memI 4 rfl) (by kernel_rfl))
    subst e2
    have e3 := (show v3 = .int .i64 ((getI l1 x2).f3) from hf _ (memI 5 rfl) (by kernel_rfl))
    subst e3
    have e4 := (show v4 = .int .i64 ((getI l1 x2).f4) from hf _ (memI 6 rfl) (by kernel_rfl))
    subst e4
    refine WP.mkSl (kd := (Kd.int .i64)) (t := 89) (e := 3) (bytes := 8) (t + 12) [.int .i64 ((getI l1 x2).f2), .int .i64 ((getI l1 x2).f3), .int .i64 ((getI l1 x2).f4)] [(getI l1 x2).f2, (getI l1 x2).f3, (getI l1 x2).f4] (by kernel_rfl) (by kernel_rfl) (Nat.le_of_ble_eq_true rfl) (Nat.le_of_ble_eq_true rfl) (all_cons rfl (all_cons rfl (all_cons rfl all_nil))) (⟨_, _, rfl, (by exact rfl), ⟨_, _, rfl, (by exact rfl), ⟨_, _, rfl, (by exact rfl), rfl⟩⟩⟩) rfl ?_
    intro g23 a22 st23 hR22
    refine WP.dn (Shown.o (v := .slice a22 3 3) st23.pure ?_)
    exact ⟨tv, tv, tv, tv, tv, tv, tv, ⟨a22, rfl, hR22⟩, tv, tv, tv, tv⟩
   ·intro vs gq stq hl hf
    obtain ⟨v0, v1, v2, v3, v4, v5, v6, rfl⟩ := len_k7 hl
    obtain ⟨a21, c10, e1, hR21⟩ := (show ∃ (a21 : Option Addr) (c10 : Nat), v1 = .slice a21 l10.length c10 ∧ OwnS (Kd.int .u8) gq (t + 11) 5 a21 l10.length c10 l10 from hf _ (memI 3 rfl) (by kernel_rfl))
    subst e1
    obtain ⟨a22, e5, hR22⟩ := (show ∃ (a22 : Option Addr), v5 = .slice a22 3 3 ∧ OwnS (Kd.int .i64) gq (t + 12) 3 a22 3 3 ([(getI l1 x2).f2, (getI l1 x2).f3, (getI l1 x2).f4]) from hf _ (memI 7 rfl) (by kernel_rfl))
    subst e5
    obtain ⟨gf8, hwf8, stf8, hnew⟩ := hR22.freeze (by omega)
    refine WP.regw hwf8 ?_
    replace hR21 := hR21.mono stf8 (WL.no (by simp <;> omega)) (WL.no (by simp <;> omega))
    clear hR22
    have hR22 := hnew
    clear hnew
    obtain ⟨gf7, hwf7, stf7, hnew⟩ := hR21.freeze (by omega)
    refine WP.regw hwf7 ?_
    replace hR22 := hR22.mono stf7 (WL.no (by simp <;> omega))
    clear hR21
    have hR21 := hnew
    clear hnew
    have hcal8 := P.purse_put gf7 l10 ([(getI l1 x2).f2, (getI l1 x2).f3, (getI l1 x2).f4]) a21 l10.length c10 a22 3 3 hR21 hR22 l11 hk8
    refine WP.callC hcal8 (by kernel_rfl) ?_
    rintro _ g24 st24 ⟨a23, n11, c11, rfl, hR23⟩
    obtain rfl := hR23.len
    replace st24 : Step (WL []) _ _ := Step.pure st24
    have hz7 := hR21.mono st24 (WL.no (by simp <;> omega))
    have hz8 := hR22.mono st24 (WL.no (by simp <;> omega))
    replace st24 := Step.both stf7 st24
    replace st24 := Step.both stf8 st24
    refine WP.dn (Shown.o (v := .slice a23 l11.length c11) st24 ?_)
    exact ⟨tv, tv, tv, tv, tv, tv, tv, tv, ⟨a23, c11, rfl, hR23⟩, ⟨a21, c10, rfl, hz7⟩, ⟨a22, rfl, hz8⟩, tv⟩
  intro vs g25 st25 hl hf
  obtain ⟨v0, v1, v2, v3, v4, v5, v6, rfl⟩ := len_k7 hl
  obtain ⟨a23, c11, e6, hR23⟩ := (show ∃ (a23 : Option Addr) (c11 : Nat), v6 = .slice a23 l11.length c11 ∧ RdS (Kd.int .u8) g25 5 a23 l11.length c11 l11 from hf _ (memI 8 rfl) (by kernel_rfl))
  subst e6
  replace hR1 := hR1.mono st25 (WL.no2 (by omega) (by omega))
  replace tot := tot.trans (st25.up2 (.inr (by omega)) (.inr (by omega)))
  refine NX.block_n ?_
  refine NX.then_n ?_
  refine CP.refr 43 [(3, .slice a23 l11.length c11), (23, .slice a1 n1 c1), (24, .int .i64 (l1.length : Int)), (25, .int .i64 x2)] (by kernel_rfl) (by kernel_rfl) ?_
  clear ds
  intro ds
  refine CP.region ?_
  refine WP.stl 2 ?_
  refine WP.dn ?_
  refine NX.post ?_
  exact ⟨l11, a23, l11.length, c11, (IntKind.i64.wrap (x2 + 1)), ⟨by kernel_rfl, by kernel_rfl⟩, tot, hR23, hR1, hs⟩
 replace hs := of_if_f hs h3
 refine CP.exit ?_
 refine NX.then_e ?_
 refine NX.then_e ?_
 refine NX.block_s ?_
 refine NX.then_n ?_
 refine CP.seqR ?_
 refine WP.stl 2 ?_
 refine WP.dn ?_
 refine NX.then_n ?_
 refine CP.ret ?_
 replace hs := Option.some.inj hs
 obtain rfl := hs
 exact NX.fin (v := .slice a12 n6 c6) (Res.still (by kernel_rfl)) tot htL ⟨a12, n6, c6, rfl, hR12⟩
def F.purse_Purse_Encode (d1 : Arr Int 8) (x1 : Int) (d2 : Arr Int 2) (l1 : List S_purse_Held) : Option ((List Int) × Int) := ((F.purse_Purse_Check d1 x1 d2 l1).bind fun x2 => (if (x2 != 0) = true then (some ([], x2)) else ((F.purse_Purse_bytes d1 x1 d2 l1).bind fun l2 => (some (l2, 0)))))
theorem P.purse_Purse_Encode (g0 : GW) (d1 : Arr Int 8) (x1 : Int) (d2 : Arr Int 2) (l1 : List S_purse_Held) (a1 : Option Addr) (n1 : Nat) (c1 : Nat) (hR1 : RdS k_S_purse_Held g0 56 a1 n1 c1 l1) (o1 : List Int) (o2 : Int) (hs : F.purse_Purse_Encode d1 x1 d2 l1 = some (o1, o2)) :
  Calls Try.prog 30 #[AG [encA .u8 d1, [.int .i64 x1], encA .i64 d2, [.slice a1 n1 c1]]] g0.w (Ret NoM g0 fun v g => ∃ (a_1 : Option Addr) (n_1 : Nat) (c_1 : Nat), v = .tuple #[.slice a_1 n_1 c_1, .int .i64 o2] ∧ RdS (Kd.int .u8) g 5 a_1 n_1 c_1 o1) := by
 refine calls_of (args := [AG [encA .u8 d1, [.int .i64 x1], encA .i64 d2, [.slice a1 n1 c1]]]) Try.func30 rfl (0) ?_
 intro t ht htL
 refine ⟨_, rfl, ?_⟩
 refine CP.refr 12 [(0, AG [encA .u8 d1, [.int .i64 x1], encA .i64 d2, [.slice a1 n1 c1]])] (by kernel_rfl) (by kernel_rfl) ?_
 intro ds
 have tot : Step (fun l => NoM l ∨ t ≤ l) g0 g0 := Step.refl _ _
 unfold F.purse_Purse_Encode at hs
 refine CP.seqR ?_
 refine WP.alloc (T := 32) (t + 1) [encA .u8 d1, [.int .i64 x1], encA .i64 d2, [.slice a1 n1 c1]] [8, 1, 2, 1] (by kernel_rfl) (by simp [len_encA]) ?_
 intro g1 b1 st1 hB1
 replace hR1 := hR1.mono st1 (fun x => x)
 replace tot := tot.trans st1.pure
 refine WP.stl 2 ?_
 refine WP.dn ?_
 refine NX.then_n ?_
 refine CP.seq ?_
 refine CP.seqR ?_
 refine WP.loadB (v := AG [encA .u8 d1, [.int .i64 x1], encA .i64 d2, [.slice a1 n1 c1]]) hB1 (by kernel_rfl) (by kernel_rfl) ?_
 replace hs := Option.bind_eq_some_iff.1 hs
 obtain ⟨x2, hk1, hs⟩ := hs
 have hcal1 := P.purse_Purse_Check g1 d1 x1 d2 l1 a1 n1 c1 hR1 x2 hk1
 refine WP.callC hcal1 (by kernel_rfl) ?_
 rintro _ g2 st2 rfl
 replace hB1 := hB1.mono st2 (fun x => x)
 replace hR1 := hR1.mono st2 (fun x => x)
 replace tot := tot.trans st2.pure
 refine WP.stl 1 ?_
 refine WP.dn ?_
 refine NX.then_n ?_
 refine CP.seqR ?_
 refine WP.stl 2 ?_
 refine WP.dn ?_
 refine NX.then_n ?_
 refine CP.cond (b := (x2 != 0)) (by kernel_rfl) (fun h1 => ?_) (fun h1 => ?_)
 ·replace hs := of_if_t hs h1
  refine CP.seqR ?_
  refine WP.stl 3 ?_
  refine WP.dn ?_
  refine NX.then_n ?_
  refine CP.ret ?_
  refine NX.then_r ?_
  replace hs := Option.some.inj hs
  obtain ⟨rfl, rfl⟩ := Prod.mk.inj hs
  exact NX.fin (v := .tuple #[.slice none 0 0, .int .i64 x2]) (Res.still (by kernel_rfl)) tot htL ⟨none, 0, 0, rfl, (RdS.nil _ _ _)⟩
 replace hs := of_if_f hs h1
 refine CP.skip ?_
 refine NX.then_n ?_
 refine CP.seqR ?_
 refine WP.loadB (v := AG [encA .u8 d1, [.int .i64 x1], encA .i64 d2, [.slice a1 n1 c1]]) hB1 (by kernel_rfl) (by kernel_rfl) ?_
 replace hs := Option.bind_eq_some_iff.1 hs
 obtain ⟨l2, hk2, hs⟩ := hs
 have hcal2 := P.purse_Purse_bytes g2 d1 x1 d2 l1 a1 n1 c1 hR1 l2 hk2
 refine WP.callC hcal2 (by kernel_rfl) ?_
 rintro _ g3 st3 ⟨a2, n2, c2, rfl, hR2⟩
 replace hB1 := hB1.mono st3 (fun x => x)
 replace hR1 := hR1.mono st3 (fun x => x)
 replace tot := tot.trans st3.pure
 refine WP.stl 2 ?_
 refine WP.dn ?_
 refine NX.then_n ?_
 refine CP.ret ?_
 replace hs := Option.some.inj hs
 obtain ⟨rfl, rfl⟩ := Prod.mk.inj hs
 exact NX.fin (v := .tuple #[.slice a2 n2 c2, .int .i64 0]) (Res.still (by kernel_rfl)) tot htL ⟨a2, n2, c2, rfl, hR2⟩
def F.baizeref47_height.c1 (q1 : Bool) : Option (Bool) := (some q1)
def F.baizeref47_height (x1 : Int) : Option (Bool) := (if decide (x1 ≥ 0) = true then (F.baizeref47_height.c1 (decide (x1 ≤ 1099511627776))) else (F.baizeref47_height.c1 false))
theorem P.baizeref47_height (g0 : GW) (x1 : Int) (o1 : Bool) (hs : F.baizeref47_height x1 = some o1) :
  Calls Try.prog 56 #[.int .i64 x1] g0.w (Ret NoM g0 fun v g => v = .bool o1) := by
 refine calls_of (args := [.int .i64 x1]) Try.func56 rfl (0) ?_
 intro t ht htL
 refine ⟨_, rfl, ?_⟩
 refine CP.refr 9 [(0, .int .i64 x1)] (by kernel_rfl) (by kernel_rfl) ?_
 intro ds
 have tot : Step (fun l => NoM l ∨ t ≤ l) g0 g0 := Step.refl _ _
 unfold F.baizeref47_height at hs
 refine CP.seqR ?_
 refine WP.stl 1 ?_
 refine WP.dn ?_
 refine NX.then_n ?_
 refine CP.cut (fun tm g => ∃ (q1 : Bool), Fr 9 [(2, .bool q1)] tm ∧ Step (fun l => NoM l ∨ t ≤ l) g0 g ∧ (F.baizeref47_height.c1 q1) = some o1) ?_ ?_
 ·refine CP.region ?_
  refine WP.stl 3 ?_
  refine WP.guard 5 (b := decide (x1 ≥ 0)) (by kernel_rfl) (fun h2 => ?_) (fun h2 => ?_)
  ·replace hs := of_if_t hs h2
   refine WP.stl 4 ?_
   refine WP.dn ?_
   refine NX.post ?_
   exact ⟨decide (x1 ≤ 1099511627776), ⟨by kernel_rfl, by kernel_rfl⟩, tot, hs⟩
  replace hs := of_if_f hs h2
  refine WP.stl 4 ?_
  refine WP.dn ?_
  refine NX.post ?_
  exact ⟨false, ⟨by kernel_rfl, by kernel_rfl⟩, tot, hs⟩
 clear tot hs
 rintro tm g ⟨q1, hF, tot, hs⟩
 clear ds
 obtain ⟨ds, rfl⟩ := hF.open
 clear hF
 unfold F.baizeref47_height.c1 at hs
 refine CP.ret ?_
 replace hs := Option.some.inj hs
 obtain rfl := hs
 exact NX.fin (v := .bool q1) (Res.still (by kernel_rfl)) tot htL rfl
def F.baizeref03_Right.c1 (q1 : Bool) : Option (Bool) := (some q1)
def F.baizeref03_Right (x1 : Int) : Option (Bool) := (if decide (x1 ≥ 0) = true then (F.baizeref03_Right.c1 (decide (x1 ≤ 1125899906842624))) else (F.baizeref03_Right.c1 false))
theorem P.baizeref03_Right (g0 : GW) (x1 : Int) (o1 : Bool) (hs : F.baizeref03_Right x1 = some o1) :
  Calls Try.prog 57 #[.int .i64 x1] g0.w (Ret NoM g0 fun v g => v = .bool o1) := by
 refine calls_of (args := [.int .i64 x1]) Try.func57 rfl (0) ?_
 intro t ht htL
 refine ⟨_, rfl, ?_⟩
 refine CP.refr 9 [(0, .int .i64 x1)] (by kernel_rfl) (by kernel_rfl) ?_
 intro ds
 have tot : Step (fun l => NoM l ∨ t ≤ l) g0 g0 := Step.refl _ _
 unfold F.baizeref03_Right at hs
 refine CP.seqR ?_
 refine WP.stl 1 ?_
 refine WP.dn ?_
 refine NX.then_n ?_
 refine CP.cut (fun tm g => ∃ (q1 : Bool), Fr 9 [(2, .bool q1)] tm ∧ Step (fun l => NoM l ∨ t ≤ l) g0 g ∧ (F.baizeref03_Right.c1 q1) = some o1) ?_ ?_
 ·refine CP.region ?_
  refine WP.stl 3 ?_
  refine WP.guard 5 (b := decide (x1 ≥ 0)) (by kernel_rfl) (fun h2 => ?_) (fun h2 => ?_)
  ·replace hs := of_if_t hs h2
   refine WP.stl 4 ?_
   refine WP.dn ?_
   refine NX.post ?_
   exact ⟨decide (x1 ≤ 1125899906842624), ⟨by kernel_rfl, by kernel_rfl⟩, tot, hs⟩
  replace hs := of_if_f hs h2
  refine WP.stl 4 ?_
  refine WP.dn ?_
  refine NX.post ?_
  exact ⟨false, ⟨by kernel_rfl, by kernel_rfl⟩, tot, hs⟩
 clear tot hs
 rintro tm g ⟨q1, hF, tot, hs⟩
 clear ds
 obtain ⟨ds, rfl⟩ := hF.open
 clear hF
 unfold F.baizeref03_Right.c1 at hs
 refine CP.ret ?_
 replace hs := Option.some.inj hs
 obtain rfl := hs
 exact NX.fin (v := .bool q1) (Res.still (by kernel_rfl)) tot htL rfl
def F.baizeref47_positive.c1 (q2 : Bool) : Option (Bool) := (some q2)
def F.baizeref47_positive (x1 : Int) : Option (Bool) := ((F.baizeref03_Right x1).bind fun q3 => (if q3 = true then (F.baizeref47_positive.c1 (decide (x1 > 0))) else (F.baizeref47_positive.c1 false)))
theorem P.baizeref47_positive (g0 : GW) (x1 : Int) (o1 : Bool) (hs : F.baizeref47_positive x1 = some o1) :
  Calls Try.prog 58 #[.int .i64 x1] g0.w (Ret NoM g0 fun v g => v = .bool o1) := by
 refine calls_of (args := [.int .i64 x1]) Try.func58 rfl (0) ?_
 intro t ht htL
 refine ⟨_, rfl, ?_⟩
 refine CP.refr 9 [(0, .int .i64 x1)] (by kernel_rfl) (by kernel_rfl) ?_
 intro ds
 have tot : Step (fun l => NoM l ∨ t ≤ l) g0 g0 := Step.refl _ _
 unfold F.baizeref47_positive at hs
 refine CP.seqR ?_
 refine WP.stl 1 ?_
 refine WP.dn ?_
 refine NX.then_n ?_
 refine CP.cut (fun tm g => ∃ (q2 : Bool), Fr 9 [(2, .bool q2)] tm ∧ Step (fun l => NoM l ∨ t ≤ l) g0 g ∧ (F.baizeref47_positive.c1 q2) = some o1) ?_ ?_
 ·refine CP.region ?_
  refine WP.stl 1 ?_
  replace hs := Option.bind_eq_some_iff.1 hs
  obtain ⟨q3, hk2, hs⟩ := hs
  have hcal2 := P.baizeref03_Right g0 x1 q3 hk2
  refine WP.callC hcal2 (by kernel_rfl) ?_
  rintro _ g2 st2 rfl
  replace tot := tot.trans st2.pure
  refine WP.stl 1 ?_
  refine WP.guard 5 (b := q3) (by kernel_rfl) (fun h2 => ?_) (fun h2 => ?_)
  ·replace hs := of_if_t hs h2
   refine WP.stl 4 ?_
   refine WP.dn ?_
   refine NX.post ?_
   exact ⟨decide (x1 > 0), ⟨by kernel_rfl, by kernel_rfl⟩, tot, hs⟩
  replace hs := of_if_f hs h2
  refine WP.stl 4 ?_
  refine WP.dn ?_
  refine NX.post ?_
  exact ⟨false, ⟨by kernel_rfl, by kernel_rfl⟩, tot, hs⟩
 clear tot hs
 rintro tm g ⟨q2, hF, tot, hs⟩
 clear ds
 obtain ⟨ds, rfl⟩ := hF.open
 clear hF
 unfold F.baizeref47_positive.c1 at hs
 refine CP.ret ?_
 replace hs := Option.some.inj hs
 obtain rfl := hs
 exact NX.fin (v := .bool q2) (Res.still (by kernel_rfl)) tot htL rfl
def N.baizeref47_Place_0 : List (List Nat) := [[], [0], [], [0, 1, 2], [0, 1, 2, 3], [0, 1, 2, 3, 4], [], [0, 1, 2, 3, 4, 5, 6]]
def F.baizeref47_Place.l1 (l1 : List S_baizeref47_Held) (d3 : Arr Int 8) : Nat → Int → Option (Int)
 | 0, _ => none
 | k + 1, x2 => (if decide (x2 < (l1.length : Int)) = true then (if (0 : Int) ≤ x2 ∧ x2 < (l1.length : Int) then (if (((getI l1 x2).f1).1 == d3.1) = true then (some x2) else (F.baizeref47_Place.l1 l1 d3 k (IntKind.i64.wrap (x2 + 1)))) else none) else (some (-1)))
def F.baizeref47_Place (d1 : Arr Int 8) (x1 : Int) (d2 : Arr Int 2) (l1 : List S_baizeref47_Held) (d3 : Arr Int 8) : Option (Int) := (F.baizeref47_Place.l1 l1 d3 fuel 0)
theorem P.baizeref47_Place (g0 : GW) (d1 : Arr Int 8) (x1 : Int) (d2 : Arr Int 2) (l1 : List S_baizeref47_Held) (d3 : Arr Int 8) (a1 : Option Addr) (n1 : Nat) (c1 : Nat) (hR1 : RdS k_S_baizeref47_Held g0 60 a1 n1 c1 l1) (o1 : Int) (hs : F.baizeref47_Place d1 x1 d2 l1 d3 = some o1) :
  Calls Try.prog 28 #[AG [encA .u8 d1, [.int .i64 x1], encA .i64 d2, [.slice a1 n1 c1]], AG [encA .u8 d3]] g0.w (Ret NoM g0 fun v g => v = .int .i64 o1) := by
 refine calls_of (args := [AG [encA .u8 d1, [.int .i64 x1], encA .i64 d2, [.slice a1 n1 c1]], AG [encA .u8 d3]]) Try.func28 rfl (0) ?_
 intro t ht htL
 refine ⟨_, rfl, ?_⟩
 refine CP.refr 22 [(0, AG [encA .u8 d1, [.int .i64 x1], encA .i64 d2, [.slice a1 n1 c1]]), (1, AG [encA .u8 d3])] (by kernel_rfl) (by kernel_rfl) ?_
 intro ds
 have tot : Step (fun l => NoM l ∨ t ≤ l) g0 g0 := Step.refl _ _
 unfold F.baizeref47_Place at hs
 refine CP.seqR ?_
 refine WP.alloc (T := 26) (t + 1) [encA .u8 d1, [.int .i64 x1], encA .i64 d2, [.slice a1 n1 c1]] [8, 1, 2, 1] (by kernel_rfl) (by simp [len_encA]) ?_
 intro g1 b1 st1 hB1
 replace hR1 := hR1.mono st1 (fun x => x)
 replace tot := tot.trans st1.pure
 refine WP.alloc (T := 22) (t + 2) [encA .u8 d3] [8] (by kernel_rfl) (by simp [len_encA]) ?_
 intro g2 b2 st2 hB2
 replace hR1 := hR1.mono st2 (fun x => x)
 replace hB1 := hB1.mono st2 (fun x => x)
 replace tot := tot.trans st2.pure
 refine WP.stl 1 ?_
 refine WP.dn ?_
 refine NX.then_n ?_
 refine CP.seq ?_
 refine CP.seqR ?_
 refine WP.stl 1 ?_
 refine WP.dn ?_
 refine NX.then_n ?_
 refine CP.block ?_
 generalize fuel = k1 at hs
 refine CP.loop (fun k1 tm g => ∃ (x2 : Int), Fr 22 [(2, .pointer (some ⟨b1, 0, none⟩)), (3, .pointer (some ⟨b2, 0, none⟩)), (5, .int .i64 x2)] tm ∧ Step (fun l => NoM l ∨ t ≤ l) g0 g ∧ Box g (t + 1) b1 26 [encA .u8 d1, [.int .i64 x1], encA .i64 d2, [.slice a1 n1 c1]] [8, 1, 2, 1] ∧ RdS k_S_baizeref47_Held g 60 a1 n1 c1 l1 ∧ Box g (t + 2) b2 22 [encA .u8 d3] [8] ∧ F.baizeref47_Place.l1 l1 d3 k1 x2 = some o1) k1 ?_ ?_ ?_
 ·exact ⟨0, ⟨by kernel_rfl, by kernel_rfl⟩, tot, hB1, hR1, hB2, hs⟩
 ·rintro tm g ⟨x2, hF, tot, hB1, hR1, hB2, hs⟩
  exact absurd hs (by simp [F.baizeref47_Place.l1])
 clear tot hs hB1 hR1 hB2
 rintro k1 tm g ⟨x2, hF, tot, hB1, hR1, hB2, hs⟩
 clear ds
 obtain ⟨ds, rfl⟩ := hF.open
 clear hF
 unfold F.baizeref47_Place.l1 at hs
 refine CP.seq ?_
 refine CP.seqR ?_
 refine WP.stl 2 ?_
 refine WP.loadB (v := .slice a1 n1 c1) hB1 (by kernel_rfl) (by kernel_rfl) ?_
 refine WP.len (a := a1) (cp := c1) hR1.len (by kernel_rfl) ?_
 refine WP.stl 1 ?_
 refine WP.dn ?_
 refine NX.then_n ?_
 refine CP.cond (b := decide (x2 < (l1.length : Int))) (by kernel_rfl) (fun h5 => ?_) (fun h5 => ?_)
 ·replace hs := of_if_t hs h5
  refine CP.skip ?_
  refine NX.then_n ?_
  refine CP.seq ?_
  refine CP.block ?_
  refine CP.seq ?_
  by_cases hc3 : (0 : Int) ≤ x2 ∧ x2 < (l1.length : Int)
  case neg => rw [if_neg hc3] at hs; cases hs
  replace hs := of_if_p hs hc3
  obtain ⟨b5, u3, ha3⟩ := hR1.at hc3
  refine CP.drawL (by kernel_rfl) [1, 3, 5, 6, 7] N.baizeref47_Place_0 [⟨none, [], [], fun l g => Box g (t + 1) b1 26 [encA .u8 d1, [.int .i64 x1], encA .i64 d2, [.slice a1 n1 c1]] [8, 1, 2, 1]⟩, ⟨none, [], [], fun l g => RdS k_S_baizeref47_Held g 60 a1 n1 c1 l1⟩, ⟨none, [], [], fun l g => Box g (t + 2) b2 22 [encA .u8 d3] [8]⟩, ⟨some 0, [], [0], fun l g => l.getD 0 undef = .slice a1 n1 c1⟩, ⟨some 1, [], [1], fun l g => l.getD 0 undef = .pointer (some ⟨b5, u3 + x2.toNat * 11, none⟩)⟩, ⟨some 2, [], [2], fun l g => l.getD 0 undef = AG [encA .u8 ((getI l1 x2).f1)]⟩, ⟨some 3, [], [3], fun l g => l.getD 0 undef = AG [encA .u8 d3]⟩, ⟨some 4, [], [4], fun l g => l.getD 0 undef = .bool (((getI l1 x2).f1).1 == d3.1)⟩] [[], [], [], [], []] [] [0, 2] [4] (by kernel_rfl) (by simp) (by simp) ⟨fun _ _ _ _ st h0 hl hj hB1 => (hB1.mono st (fun h => absurd (hl _ h) (by simp))), fun _ _ _ _ st h0 hl hj hR1 => (RdS.mono (e := 60) hR1 st h0), fun _ _ _ _ st h0 hl hj hB2 => (hB2.mono st (fun h => absurd (hl _ h) (by simp))), fun _ _ _ _ st h0 hl hj e0 => e0, fun _ _ _ _ st h0 hl hj e1 => e1, fun _ _ _ _ st h0 hl hj e2 => e2, fun _ _ _ _ st h0 hl hj e3 => e3, fun _ _ _ _ st h0 hl hj e4 => e4, tv⟩ ⟨hB1, hR1, hB2, tv, tv, tv, tv, tv, tv⟩ (by kernel_rfl) (fun vs => by kernel_rfl) ?_ ?_ ?_
  ·intro j hj
   have hq : j = 0 := by have h : j < 1 := hj; omega
   rcases hq with rfl
   ·intro vs gq stq hl hf
    obtain ⟨v0, v1, v2, v3, v4, rfl⟩ := len_k5 hl
    have e1 := (show v1 = .pointer (some ⟨b5, u3 + x2.toNat * 11, none⟩) from hf _ (memI 4 rfl) (by kernel_rfl))
    subst e1
    show Option.isSome _ = true
    kernel_rfl
  ·intro j hj
   have hq : j = 0 ∨ j = 1 ∨ j = 2 ∨ j = 3 ∨ j = 4 := by have h : j < 5 := hj; omega
   rcases hq with rfl | rfl | rfl | rfl | rfl
   ·intro vs gq stq hl hf
    obtain ⟨v0, v1, v2, v3, v4, rfl⟩ := len_k5 hl
    have hB1 := (show Box gq (t + 1) b1 26 [encA .u8 d1, [.int .i64 x1], encA .i64 d2, [.slice a1 n1 c1]] [8, 1, 2, 1] from hf _ (memI 0 rfl) (by kernel_rfl))
    refine WP.loadB (v := .slice a1 n1 c1) hB1 (by kernel_rfl) (by kernel_rfl) ?_
    refine WP.dn (Shown.ok (v := .slice a1 n1 c1) (by kernel_rfl) (Step.refl _ _) ?_)
    exact ⟨tv, tv, tv, rfl, tv, tv, tv, tv, tv⟩
   ·intro vs gq stq hl hf
    obtain ⟨v0, v1, v2, v3, v4, rfl⟩ := len_k5 hl
    have hR1 := (show RdS k_S_baizeref47_Held gq 60 a1 n1 c1 l1 from hf _ (memI 1 rfl) (by kernel_rfl))
    have e0 := (show v0 = .slice a1 n1 c1 from hf _ (memI 3 rfl) (by kernel_rfl))
    subst e0
    refine WP.indexA (t := 24) (e := 60) (sz := 11) (cap := c1) (k := .i64) (i := x2) hR1.len ha3 (by kernel_rfl) (by kernel_rfl) hc3 ?_
    refine WP.dn (Shown.ok (v := .pointer (some ⟨b5, u3 + x2.toNat * 11, none⟩)) (by kernel_rfl) (Step.refl _ _) ?_)
    exact ⟨tv, tv, tv, tv, rfl, tv, tv, tv, tv⟩
   ·intro vs gq stq hl hf
    obtain ⟨v0, v1, v2, v3, v4, rfl⟩ := len_k5 hl
    have hR1 := (show RdS k_S_baizeref47_Held gq 60 a1 n1 c1 l1 from hf _ (memI 1 rfl) (by kernel_rfl))
    have e1 := (show v1 = .pointer (some ⟨b5, u3 + x2.toNat * 11, none⟩) from hf _ (memI 4 rfl) (by kernel_rfl))
    subst e1
    obtain ⟨cs3, hcR3, hcV3⟩ := hR1.src.view (getI_some hc3) ha3
    replace hcR3 := k_S_baizeref47_Held.opn hcR3
    refine WP.loadV [encA .u8 ((getI l1 x2).f1), [.int .i64 ((getI l1 x2).f2)], [.int .i64 ((getI l1 x2).f3)], [.int .i64 ((getI l1 x2).f4)]] [8, 1, 1, 1] hcV3 hcR3 (by simp [len_encA]) (f := 0) (ty := 22) (agg := true) (size := 8) (rs := [encA .u8 ((getI l1 x2).f1)]) (v := AG [encA .u8 ((getI l1 x2).f1)]) (by kernel_rfl) (by kernel_rfl) (by kernel_rfl) (by kernel_rfl) ?_
    refine WP.dn (Shown.ok (v := AG [encA .u8 ((getI l1 x2).f1)]) (by kernel_rfl) (Step.refl _ _) ?_)
    exact ⟨tv, tv, tv, tv, tv, rfl, tv, tv, tv⟩
   ·intro vs gq stq hl hf
    obtain ⟨v0, v1, v2, v3, v4, rfl⟩ := len_k5 hl
    have hB2 := (show Box gq (t + 2) b2 22 [encA .u8 d3] [8] from hf _ (memI 2 rfl) (by kernel_rfl))
    refine WP.loadB (v := AG [encA .u8 d3]) hB2 (by kernel_rfl) (by kernel_rfl) ?_
    refine WP.dn (Shown.ok (v := AG [encA .u8 d3]) (by kernel_rfl) (Step.refl _ _) ?_)
    exact ⟨tv, tv, tv, tv, tv, tv, rfl, tv, tv⟩
   ·intro vs gq stq hl hf
    obtain ⟨v0, v1, v2, v3, v4, rfl⟩ := len_k5 hl
    have e2 := (show v2 = AG [encA .u8 ((getI l1 x2).f1)] from hf _ (memI 5 rfl) (by kernel_rfl))
    subst e2
    have e3 := (show v3 = AG [encA .u8 d3] from hf _ (memI 6 rfl) (by kernel_rfl))
    subst e3
    refine WP.eqV (by kernel_rfl) (by kernel_rfl) (EqV.arr (d := 9998) (t := 22) (e := 5) (m := 8) (k := .u8) (x := (getI l1 x2).f1) (y := d3) (by kernel_rfl) (by kernel_rfl)) ?_
    refine WP.dn (Shown.ok (v := .bool (((getI l1 x2).f1).1 == d3.1)) (by kernel_rfl) (Step.refl _ _) ?_)
    exact ⟨tv, tv, tv, tv, tv, tv, tv, rfl, tv⟩
  intro vs g3 st3 hl hf
  obtain ⟨v0, v1, v2, v3, v4, rfl⟩ := len_k5 hl
  have e4 := (show v4 = .bool (((getI l1 x2).f1).1 == d3.1) from hf _ (memI 7 rfl) (by kernel_rfl))
  subst e4
  replace hB1 := hB1.mono st3.toNo (fun x => x)
  replace hR1 := hR1.mono st3.toNo (fun x => x)
  replace hB2 := hB2.mono st3.toNo (fun x => x)
  replace tot := tot.trans st3.toNo.pure
  refine NX.then_n ?_
  refine CP.refr 22 [(2, .pointer (some ⟨b1, 0, none⟩)), (3, .pointer (some ⟨b2, 0, none⟩)), (5, .int .i64 x2), (20, .bool (((getI l1 x2).f1).1 == d3.1))] (by kernel_rfl) (by kernel_rfl) ?_
  clear ds
  intro ds
  refine CP.cond (b := (((getI l1 x2).f1).1 == d3.1)) (by kernel_rfl) (fun h6 => ?_) (fun h6 => ?_)
  ·replace hs := of_if_t hs h6
   refine CP.seqR ?_
   refine WP.stl 2 ?_
   refine WP.dn ?_
   refine NX.then_n ?_
   refine CP.ret ?_
   refine NX.block_r ?_
   refine NX.then_r ?_
   refine NX.then_r ?_
   refine NX.block_r ?_
   refine NX.then_r ?_
   replace hs := Option.some.inj hs
   obtain rfl := hs
   exact NX.fin (v := .int .i64 x2) (Res.still (by kernel_rfl)) tot htL rfl
  replace hs := of_if_f hs h6
  refine CP.skip ?_
  refine NX.block_n ?_
  refine NX.then_n ?_
  refine CP.region ?_
  refine WP.stl 3 ?_
  refine WP.dn ?_
  refine NX.post ?_
  exact ⟨(IntKind.i64.wrap (x2 + 1)), ⟨by kernel_rfl, by kernel_rfl⟩, tot, hB1, hR1, hB2, hs⟩
 replace hs := of_if_f hs h5
 refine CP.exit ?_
 refine NX.then_e ?_
 refine NX.then_e ?_
 refine NX.block_s ?_
 refine NX.then_n ?_
 refine CP.seqR ?_
 refine WP.stl 1 ?_
 refine WP.dn ?_
 refine NX.then_n ?_
 refine CP.ret ?_
 replace hs := Option.some.inj hs
 obtain rfl := hs
 exact NX.fin (v := .int .i64 (-1)) (Res.still (by kernel_rfl)) tot htL rfl
def N.baizeref47_Check_0 : List (List Nat) := [[], [0], [], [0, 1, 2], [0, 1, 2, 3], [], [5], [0, 1, 2, 3, 4, 5, 6], [0, 1, 2, 3, 4, 5, 6, 7]]
def F.baizeref47_Check.c2 (nx1 : Int → Int → Option (Int)) (l1 : List S_baizeref47_Held) (x3 : Int) (x4 : Int) (q15 : Bool) : Option (Int) := (if q15 = true then (some 2) else (if (0 : Int) ≤ 0 ∧ 0 ≤ x4 ∧ x4 ≤ (l1.length : Int) then ((F.baizeref47_Place (zA 8) 0 (zA 2) (sliceI l1 0 x4) ((getI l1 x4).f1)).bind fun x8 => (if decide (x8 ≥ 0) = true then (some 7) else (nx1 (IntKind.i64.wrap (x3 + ((getI l1 x4).f2))) (IntKind.i64.wrap (x4 + 1))))) else none))
def F.baizeref47_Check.l1 (l1 : List S_baizeref47_Held) : Nat → Int → Int → Option (Int)
 | 0, _, _ => none
 | k + 1, x3, x4 => (if decide (x4 < (l1.length : Int)) = true then (if (0 : Int) ≤ x4 ∧ x4 < (l1.length : Int) then ((F.baizeref47_positive ((getI l1 x4).f2)).bind fun q16 => (if (!q16) = true then (F.baizeref47_Check.c2 (F.baizeref47_Check.l1 l1 k) l1 x3 x4 true) else (if decide ((getI l1 x4).f3 < 0) = true then (F.baizeref47_Check.c2 (F.baizeref47_Check.l1 l1 k) l1 x3 x4 true) else (if decide ((getI l1 x4).f3 > 1) = true then (F.baizeref47_Check.c2 (F.baizeref47_Check.l1 l1 k) l1 x3 x4 true) else ((F.baizeref47_height ((getI l1 x4).f4)).bind fun q17 => (F.baizeref47_Check.c2 (F.baizeref47_Check.l1 l1 k) l1 x3 x4 (!q17))))))) else none) else ((F.baizeref03_Right x3).bind fun q18 => (if (!q18) = true then (some 2) else (some 0))))
def F.baizeref47_Check.c1 (d2 : Arr Int 2) (l1 : List S_baizeref47_Held) (q4 : Bool) : Option (Int) := (if q4 = true then (some 2) else (if decide ((l1.length : Int) > 16) = true then (some 8) else (F.baizeref47_Check.l1 l1 fuel (IntKind.i64.wrap ((aget d2 0) + (aget d2 1))) 0)))
def F.baizeref47_Check (d1 : Arr Int 8) (x1 : Int) (d2 : Arr Int 2) (l1 : List S_baizeref47_Held) : Option (Int) := ((F.baizeref47_height x1).bind fun q19 => (if (!q19) = true then (F.baizeref47_Check.c1 d2 l1 true) else ((F.baizeref03_Right (aget d2 0)).bind fun q20 => (if (!q20) = true then (F.baizeref47_Check.c1 d2 l1 true) else ((F.baizeref03_Right (aget d2 1)).bind fun q21 => (F.baizeref47_Check.c1 d2 l1 (!q21)))))))
theorem P.baizeref47_Check (g0 : GW) (d1 : Arr Int 8) (x1 : Int) (d2 : Arr Int 2) (l1 : List S_baizeref47_Held) (a1 : Option Addr) (n1 : Nat) (c1 : Nat) (hR1 : RdS k_S_baizeref47_Held g0 60 a1 n1 c1 l1) (o1 : Int) (hs : F.baizeref47_Check d1 x1 d2 l1 = some o1) :
  Calls Try.prog 24 #[AG [encA .u8 d1, [.int .i64 x1], encA .i64 d2, [.slice a1 n1 c1]]] g0.w (Ret NoM g0 fun v g => v = .int .i64 o1) := by
 refine calls_of (args := [AG [encA .u8 d1, [.int .i64 x1], encA .i64 d2, [.slice a1 n1 c1]]]) Try.func24 rfl (0) ?_
 intro t ht htL
 refine ⟨_, rfl, ?_⟩
 refine CP.refr 85 [(0, AG [encA .u8 d1, [.int .i64 x1], encA .i64 d2, [.slice a1 n1 c1]])] (by kernel_rfl) (by kernel_rfl) ?_
 intro ds
 have tot : Step (fun l => NoM l ∨ t ≤ l) g0 g0 := Step.refl _ _
 unfold F.baizeref47_Check at hs
 refine CP.seqR ?_
 refine WP.alloc (T := 26) (t + 1) [encA .u8 d1, [.int .i64 x1], encA .i64 d2, [.slice a1 n1 c1]] [8, 1, 2, 1] (by kernel_rfl) (by simp [len_encA]) ?_
 intro g1 b1 st1 hB1
 replace hR1 := hR1.mono st1 (fun x => x)
 replace tot := tot.trans st1.pure
 refine WP.stl 1 ?_
 refine WP.dn ?_
 refine NX.then_n ?_
 refine CP.seq ?_
 refine CP.cut (fun tm g => ∃ (q4 : Bool), Fr 85 [(1, .pointer (some ⟨b1, 0, none⟩)), (24, .bool q4)] tm ∧ Step (fun l => NoM l ∨ t ≤ l) g0 g ∧ Box g (t + 1) b1 26 [encA .u8 d1, [.int .i64 x1], encA .i64 d2, [.slice a1 n1 c1]] [8, 1, 2, 1] ∧ RdS k_S_baizeref47_Held g 60 a1 n1 c1 l1 ∧ (F.baizeref47_Check.c1 d2 l1 q4) = some o1) ?_ ?_
 ·refine CP.region ?_
  refine WP.stl 1 ?_
  refine WP.loadB (v := .int .i64 x1) hB1 (by kernel_rfl) (by kernel_rfl) ?_
  replace hs := Option.bind_eq_some_iff.1 hs
  obtain ⟨q19, hk18, hs⟩ := hs
  have hcal18 := P.baizeref47_height g1 x1 q19 hk18
  refine WP.callC hcal18 (by kernel_rfl) ?_
  rintro _ g26 st26 rfl
  replace hB1 := hB1.mono st26 (fun x => x)
  replace hR1 := hR1.mono st26 (fun x => x)
  replace tot := tot.trans st26.pure
  refine WP.stl 2 ?_
  refine WP.guard 11 (b := (!q19)) (by kernel_rfl) (fun h29 => ?_) (fun h29 => ?_)
  ·replace hs := of_if_t hs h29
   refine WP.stl 13 ?_
   refine WP.dn ?_
   refine NX.post ?_
   exact ⟨true, ⟨by kernel_rfl, by kernel_rfl⟩, tot, hB1, hR1, hs⟩
  replace hs := of_if_f hs h29
  refine WP.stl 2 ?_
  refine WP.loadE (ty := 3) (o := 9) (m := 2) (k := .i64) (d := d2) (i := 0) hB1 (by kernel_rfl) (by decide) (by kernel_rfl) (by kernel_rfl) ?_
  replace hs := Option.bind_eq_some_iff.1 hs
  obtain ⟨q20, hk19, hs⟩ := hs
  have hcal19 := P.baizeref03_Right g26 (aget d2 0) q20 hk19
  refine WP.callC hcal19 (by kernel_rfl) ?_
  rintro _ g27 st27 rfl
  replace hB1 := hB1.mono st27 (fun x => x)
  replace hR1 := hR1.mono st27 (fun x => x)
  replace tot := tot.trans st27.pure
  refine WP.stl 3 ?_
  refine WP.guard 18 (b := (!q20)) (by kernel_rfl) (fun h30 => ?_) (fun h30 => ?_)
  ·replace hs := of_if_t hs h30
   refine WP.stl 6 ?_
   refine WP.dn ?_
   refine NX.post ?_
   exact ⟨true, ⟨by kernel_rfl, by kernel_rfl⟩, tot, hB1, hR1, hs⟩
  replace hs := of_if_f hs h30
  refine WP.stl 2 ?_
  refine WP.loadE (ty := 3) (o := 9) (m := 2) (k := .i64) (d := d2) (i := 1) hB1 (by kernel_rfl) (by decide) (by kernel_rfl) (by kernel_rfl) ?_
  replace hs := Option.bind_eq_some_iff.1 hs
  obtain ⟨q21, hk20, hs⟩ := hs
  have hcal20 := P.baizeref03_Right g27 (aget d2 1) q21 hk20
  refine WP.callC hcal20 (by kernel_rfl) ?_
  rintro _ g28 st28 rfl
  replace hB1 := hB1.mono st28 (fun x => x)
  replace hR1 := hR1.mono st28 (fun x => x)
  replace tot := tot.trans st28.pure
  refine WP.stl 2 ?_
  refine WP.dn ?_
  refine NX.post ?_
  exact ⟨(!q21), ⟨by kernel_rfl, by kernel_rfl⟩, tot, hB1, hR1, hs⟩
 clear tot hs hB1 hR1
 rintro tm g ⟨q4, hF, tot, hB1, hR1, hs⟩
 clear ds
 obtain ⟨ds, rfl⟩ := hF.open
 clear hF
 unfold F.baizeref47_Check.c1 at hs
 refine CP.cond (b := q4) (by kernel_rfl) (fun h3 => ?_) (fun h3 => ?_)
 ·replace hs := of_if_t hs h3
  refine CP.seqR ?_
  refine WP.stl 1 ?_
  refine WP.dn ?_
  refine NX.then_n ?_
  refine CP.ret ?_
  refine NX.then_r ?_
  replace hs := Option.some.inj hs
  obtain rfl := hs
  exact NX.fin (v := .int .i64 2) (Res.still (by kernel_rfl)) tot htL rfl
 replace hs := of_if_f hs h3
 refine CP.skip ?_
 refine NX.then_n ?_
 refine CP.seq ?_
 refine CP.seqR ?_
 refine WP.stl 1 ?_
 refine WP.loadB (v := .slice a1 n1 c1) hB1 (by kernel_rfl) (by kernel_rfl) ?_
 refine WP.len (a := a1) (cp := c1) hR1.len (by kernel_rfl) ?_
 refine WP.stl 1 ?_
 refine WP.dn ?_
 refine NX.then_n ?_
 refine CP.cond (b := decide ((l1.length : Int) > 16)) (by kernel_rfl) (fun h4 => ?_) (fun h4 => ?_)
 ·replace hs := of_if_t hs h4
  refine CP.seqR ?_
  refine WP.stl 1 ?_
  refine WP.dn ?_
  refine NX.then_n ?_
  refine CP.ret ?_
  refine NX.then_r ?_
  replace hs := Option.some.inj hs
  obtain rfl := hs
  exact NX.fin (v := .int .i64 8) (Res.still (by kernel_rfl)) tot htL rfl
 replace hs := of_if_f hs h4
 refine CP.skip ?_
 refine NX.then_n ?_
 refine CP.seqR ?_
 refine WP.stl 2 ?_
 refine WP.loadE (ty := 3) (o := 9) (m := 2) (k := .i64) (d := d2) (i := 0) hB1 (by kernel_rfl) (by decide) (by kernel_rfl) (by kernel_rfl) ?_
 refine WP.stl 2 ?_
 refine WP.loadE (ty := 3) (o := 9) (m := 2) (k := .i64) (d := d2) (i := 1) hB1 (by kernel_rfl) (by decide) (by kernel_rfl) (by kernel_rfl) ?_
 refine WP.stl 2 ?_
 refine WP.dn ?_
 refine NX.then_n ?_
 refine CP.seq ?_
 refine CP.seqR ?_
 refine WP.stl 1 ?_
 refine WP.dn ?_
 refine NX.then_n ?_
 refine CP.refr 85 [(1, .pointer (some ⟨b1, 0, none⟩)), (3, .int .i64 (IntKind.i64.wrap ((aget d2 0) + (aget d2 1)))), (4, .int .i64 0)] (by kernel_rfl) (by kernel_rfl) ?_
 clear ds
 intro ds
 refine CP.block ?_
 generalize fuel = k1 at hs
 refine CP.loop (fun k1 tm g => ∃ (x3 : Int) (x4 : Int), Fr 85 [(1, .pointer (some ⟨b1, 0, none⟩)), (3, .int .i64 x3), (4, .int .i64 x4)] tm ∧ Step (fun l => NoM l ∨ t ≤ l) g0 g ∧ Box g (t + 1) b1 26 [encA .u8 d1, [.int .i64 x1], encA .i64 d2, [.slice a1 n1 c1]] [8, 1, 2, 1] ∧ RdS k_S_baizeref47_Held g 60 a1 n1 c1 l1 ∧ F.baizeref47_Check.l1 l1 k1 x3 x4 = some o1) k1 ?_ ?_ ?_
 ·exact ⟨(IntKind.i64.wrap ((aget d2 0) + (aget d2 1))), 0, ⟨by kernel_rfl, by kernel_rfl⟩, tot, hB1, hR1, hs⟩
 ·rintro tm g ⟨x3, x4, hF, tot, hB1, hR1, hs⟩
  exact absurd hs (by simp [F.baizeref47_Check.l1])
 clear tot hs hB1 hR1
 rintro k1 tm g ⟨x3, x4, hF, tot, hB1, hR1, hs⟩
 clear ds
 obtain ⟨ds, rfl⟩ := hF.open
 clear hF
 unfold F.baizeref47_Check.l1 at hs
 refine CP.seq ?_
 refine CP.seqR ?_
 refine WP.stl 2 ?_
 refine WP.loadB (v := .slice a1 n1 c1) hB1 (by kernel_rfl) (by kernel_rfl) ?_
 refine WP.len (a := a1) (cp := c1) hR1.len (by kernel_rfl) ?_
 refine WP.stl 1 ?_
 refine WP.dn ?_
 refine NX.then_n ?_
 refine CP.cond (b := decide (x4 < (l1.length : Int))) (by kernel_rfl) (fun h19 => ?_) (fun h19 => ?_)
 ·replace hs := of_if_t hs h19
  refine CP.skip ?_
  refine NX.then_n ?_
  refine CP.seq ?_
  refine CP.block ?_
  refine CP.seqR ?_
  refine WP.stl 1 ?_
  refine WP.loadB (v := .slice a1 n1 c1) hB1 (by kernel_rfl) (by kernel_rfl) ?_
  refine WP.stl 1 ?_
  by_cases hc5 : (0 : Int) ≤ x4 ∧ x4 < (l1.length : Int)
  case neg => rw [if_neg hc5] at hs; cases hs
  replace hs := of_if_p hs hc5
  obtain ⟨b6, u3, ha3⟩ := hR1.at hc5
  refine WP.indexA (t := 24) (e := 60) (sz := 11) (cap := c1) (k := .i64) (i := x4) hR1.len ha3 (by kernel_rfl) (by kernel_rfl) hc5 ?_
  obtain ⟨cs3, hcR3, hcV3⟩ := hR1.src.view (getI_some hc5) ha3
  replace hcR3 := k_S_baizeref47_Held.opn hcR3
  refine WP.loadV [encA .u8 ((getI l1 x4).f1), [.int .i64 ((getI l1 x4).f2)], [.int .i64 ((getI l1 x4).f3)], [.int .i64 ((getI l1 x4).f4)]] [8, 1, 1, 1] hcV3 hcR3 (by simp [len_encA]) (f := 0) (ty := 60) (agg := true) (size := 11) (rs := [encA .u8 ((getI l1 x4).f1), [.int .i64 ((getI l1 x4).f2)], [.int .i64 ((getI l1 x4).f3)], [.int .i64 ((getI l1 x4).f4)]]) (v := AG [encA .u8 ((getI l1 x4).f1), [.int .i64 ((getI l1 x4).f2)], [.int .i64 ((getI l1 x4).f3)], [.int .i64 ((getI l1 x4).f4)]]) (by kernel_rfl) (by kernel_rfl) (by kernel_rfl) (by kernel_rfl) ?_
  refine WP.alloc (T := 60) (t + 4) [encA .u8 (zA 8), [.int .i64 0], [.int .i64 0], [.int .i64 0]] [8, 1, 1, 1] (by kernel_rfl) (by simp [len_encA]) ?_
  intro g17 b7 st17 hB6
  replace hB1 := hB1.mono st17 (fun x => x)
  replace hR1 := hR1.mono st17 (fun x => x)
  replace tot := tot.trans st17.pure
  refine WP.storeB (ty := 60) (off := 0) (v := AG [encA .u8 ((getI l1 x4).f1), [.int .i64 ((getI l1 x4).f2)], [.int .i64 ((getI l1 x4).f3)], [.int .i64 ((getI l1 x4).f4)]]) hB6 [encA .u8 ((getI l1 x4).f1), [.int .i64 ((getI l1 x4).f2)], [.int .i64 ((getI l1 x4).f3)], [.int .i64 ((getI l1 x4).f4)]] [8, 1, 1, 1] (by kernel_rfl) (by kernel_rfl) (by simp [len_encA]) (by kernel_rfl) [encA .u8 ((getI l1 x4).f1), [.int .i64 ((getI l1 x4).f2)], [.int .i64 ((getI l1 x4).f3)], [.int .i64 ((getI l1 x4).f4)]] (by kernel_rfl) (.arr (.one rfl (.one rfl (.one rfl .nil)))) ?_
  intro g18 st18 hB7
  replace hB1 := hB1.mono st18 (WL.no1 (by omega))
  replace hR1 := hR1.mono st18 (WL.no1 (by omega))
  replace tot := tot.trans (st18.up1 (.inr (by omega)))
  clear hB6
  have hB6 := hB7
  clear hB7
  refine WP.dn ?_
  refine NX.then_n ?_
  refine CP.seq ?_
  refine CP.cut (fun tm g => ∃ (q15 : Bool), Fr 85 [(1, .pointer (some ⟨b1, 0, none⟩)), (3, .int .i64 x3), (4, .int .i64 x4), (5, .pointer (some ⟨b7, 0, none⟩)), (67, .bool q15)] tm ∧ Step (fun l => NoM l ∨ t ≤ l) g0 g ∧ Box g (t + 1) b1 26 [encA .u8 d1, [.int .i64 x1], encA .i64 d2, [.slice a1 n1 c1]] [8, 1, 2, 1] ∧ RdS k_S_baizeref47_Held g 60 a1 n1 c1 l1 ∧ Box g (t + 4) b7 60 [encA .u8 ((getI l1 x4).f1), [.int .i64 ((getI l1 x4).f2)], [.int .i64 ((getI l1 x4).f3)], [.int .i64 ((getI l1 x4).f4)]] [8, 1, 1, 1] ∧ (F.baizeref47_Check.c2 (F.baizeref47_Check.l1 l1 k1) l1 x3 x4 q15) = some o1) ?_ ?_
  ·refine CP.region ?_
   refine WP.stl 1 ?_
   refine WP.loadB (v := .int .i64 ((getI l1 x4).f2)) hB6 (by kernel_rfl) (by kernel_rfl) ?_
   replace hs := Option.bind_eq_some_iff.1 hs
   obtain ⟨q16, hk15, hs⟩ := hs
   have hcal15 := P.baizeref47_positive g18 ((getI l1 x4).f2) q16 hk15
   refine WP.callC hcal15 (by kernel_rfl) ?_
   rintro _ g23 st23 rfl
   replace hB1 := hB1.mono st23 (fun x => x)
   replace hR1 := hR1.mono st23 (fun x => x)
   replace hB6 := hB6.mono st23 (fun x => x)
   replace tot := tot.trans st23.pure
   refine WP.stl 2 ?_
   refine WP.guard 52 (b := (!q16)) (by kernel_rfl) (fun h25 => ?_) (fun h25 => ?_)
   ·replace hs := of_if_t hs h25
    refine WP.stl 15 ?_
    refine WP.dn ?_
    refine NX.post ?_
    exact ⟨true, ⟨by kernel_rfl, by kernel_rfl⟩, tot, hB1, hR1, hB6, hs⟩
   replace hs := of_if_f hs h25
   refine WP.stl 1 ?_
   refine WP.loadB (v := .int .i64 ((getI l1 x4).f3)) hB6 (by kernel_rfl) (by kernel_rfl) ?_
   refine WP.stl 3 ?_
   refine WP.guard 57 (b := decide ((getI l1 x4).f3 < 0)) (by kernel_rfl) (fun h26 => ?_) (fun h26 => ?_)
   ·replace hs := of_if_t hs h26
    refine WP.stl 10 ?_
    refine WP.dn ?_
    refine NX.post ?_
    exact ⟨true, ⟨by kernel_rfl, by kernel_rfl⟩, tot, hB1, hR1, hB6, hs⟩
   replace hs := of_if_f hs h26
   refine WP.stl 1 ?_
   refine WP.loadB (v := .int .i64 ((getI l1 x4).f3)) hB6 (by kernel_rfl) (by kernel_rfl) ?_
   refine WP.stl 3 ?_
   refine WP.guard 62 (b := decide ((getI l1 x4).f3 > 1)) (by kernel_rfl) (fun h27 => ?_) (fun h27 => ?_)
   ·replace hs := of_if_t hs h27
    refine WP.stl 5 ?_
    refine WP.dn ?_
    refine NX.post ?_
    exact ⟨true, ⟨by kernel_rfl, by kernel_rfl⟩, tot, hB1, hR1, hB6, hs⟩
   replace hs := of_if_f hs h27
   refine WP.stl 1 ?_
   refine WP.loadB (v := .int .i64 ((getI l1 x4).f4)) hB6 (by kernel_rfl) (by kernel_rfl) ?_
   replace hs := Option.bind_eq_some_iff.1 hs
   obtain ⟨q17, hk16, hs⟩ := hs
   have hcal16 := P.baizeref47_height g23 ((getI l1 x4).f4) q17 hk16
   refine WP.callC hcal16 (by kernel_rfl) ?_
   rintro _ g24 st24 rfl
   replace hB1 := hB1.mono st24 (fun x => x)
   replace hR1 := hR1.mono st24 (fun x => x)
   replace hB6 := hB6.mono st24 (fun x => x)
   replace tot := tot.trans st24.pure
   refine WP.stl 2 ?_
   refine WP.dn ?_
   refine NX.post ?_
   exact ⟨(!q17), ⟨by kernel_rfl, by kernel_rfl⟩, tot, hB1, hR1, hB6, hs⟩
  clear tot hs hB1 hR1 hB6
  rintro tm g ⟨q15, hF, tot, hB1, hR1, hB6, hs⟩
  clear ds
  obtain ⟨ds, rfl⟩ := hF.open
  clear hF
  unfold F.baizeref47_Check.c2 at hs
  refine CP.cond (b := q15) (by kernel_rfl) (fun h23 => ?_) (fun h23 => ?_)
  ·replace hs := of_if_t hs h23
   refine CP.seqR ?_
   refine WP.stl 1 ?_
   refine WP.dn ?_
   refine NX.then_n ?_
   refine CP.ret ?_
   refine NX.then_r ?_
   refine NX.block_r ?_
   refine NX.then_r ?_
   refine NX.then_r ?_
   refine NX.block_r ?_
   refine NX.then_r ?_
   replace hs := Option.some.inj hs
   obtain rfl := hs
   exact NX.fin (v := .int .i64 2) (Res.still (by kernel_rfl)) tot htL rfl
  replace hs := of_if_f hs h23
  refine CP.skip ?_
  refine NX.then_n ?_
  refine CP.seq ?_
  refine CP.seq ?_
  by_cases hc6 : (0 : Int) ≤ 0 ∧ 0 ≤ x4 ∧ x4 ≤ (l1.length : Int)
  case neg => rw [if_neg hc6] at hs; cases hs
  replace hs := of_if_p hs hc6
  replace hs := Option.bind_eq_some_iff.1 hs
  obtain ⟨x8, hk14, hs⟩ := hs
  refine CP.drawL (by kernel_rfl) [1, 3, 4, 6, 7] N.baizeref47_Check_0 [⟨none, [], [], fun l g => Box g (t + 1) b1 26 [encA .u8 d1, [.int .i64 x1], encA .i64 d2, [.slice a1 n1 c1]] [8, 1, 2, 1]⟩, ⟨none, [], [], fun l g => RdS k_S_baizeref47_Held g 60 a1 n1 c1 l1⟩, ⟨none, [], [], fun l g => Box g (t + 4) b7 60 [encA .u8 ((getI l1 x4).f1), [.int .i64 ((getI l1 x4).f2)], [.int .i64 ((getI l1 x4).f3)], [.int .i64 ((getI l1 x4).f4)]] [8, 1, 1, 1]⟩, ⟨some 0, [], [0], fun l g => l.getD 0 undef = .slice a1 n1 c1⟩, ⟨some 1, [], [1], fun l g => ∃ (a4 : Option Addr) (c4 : Nat), l.getD 0 undef = .slice a4 (x4.toNat - (0 : Int).toNat) c4 ∧ RdS k_S_baizeref47_Held g 60 a4 (x4.toNat - (0 : Int).toNat) c4 (sliceI l1 0 x4)⟩, ⟨some 2, [], [2, 1], fun l g => ∃ (a4 : Option Addr) (c4 : Nat), l.getD 0 undef = AG [encA .u8 (zA 8), [.int .i64 0], encA .i64 (zA 2), [.slice a4 (x4.toNat - (0 : Int).toNat) c4]] ∧ l.getD 1 undef = .slice a4 (x4.toNat - (0 : Int).toNat) c4 ∧ RdS k_S_baizeref47_Held g 60 a4 (x4.toNat - (0 : Int).toNat) c4 (sliceI l1 0 x4)⟩, ⟨some 3, [], [3], fun l g => l.getD 0 undef = AG [encA .u8 ((getI l1 x4).f1)]⟩, ⟨some 4, [], [4], fun l g => l.getD 0 undef = .int .i64 x8⟩] [[], [], [], [], []] [] [0, 2, 5] [8] (by kernel_rfl) (by simp) (by simp) ⟨fun _ _ _ _ st h0 hl hj hB1 => (hB1.mono st (fun h => absurd (hl _ h) (by simp))), fun _ _ _ _ st h0 hl hj hR1 => (RdS.mono (e := 60) hR1 st h0), fun _ _ _ _ st h0 hl hj hB6 => (hB6.mono st (fun h => absurd (hl _ h) (by simp))), fun _ _ _ _ st h0 hl hj e0 => e0, fun _ _ _ _ st h0 hl hj ⟨a4, c4, e1, hR4⟩ => ⟨a4, c4, e1, (RdS.mono (e := 60) hR4 st h0)⟩, fun _ _ _ _ st h0 hl hj ⟨a4, c4, e2, e1, hR4⟩ => ⟨a4, c4, e2, e1, (RdS.mono (e := 60) hR4 st h0)⟩, fun _ _ _ _ st h0 hl hj e3 => e3, fun _ _ _ _ st h0 hl hj e4 => e4, tv⟩ ⟨hB1, hR1, hB6, tv, tv, tv, tv, tv, tv⟩ (by kernel_rfl) (fun vs => by kernel_rfl) ?_ ?_ ?_
  ·intro j hj
   have hq : j = 0 := by have h : j < 1 := hj; omega
   rcases hq with rfl
   ·intro vs gq stq hl hf
    obtain ⟨v0, v1, v2, v3, v4, rfl⟩ := len_k5 hl
    have e4 := (show v4 = .int .i64 x8 from hf _ (memI 7 rfl) (by kernel_rfl))
    subst e4
    show Option.isSome _ = true
    kernel_rfl
  ·intro j hj
   have hq : j = 0 ∨ j = 1 ∨ j = 2 ∨ j = 3 ∨ j = 4 := by have h : j < 5 := hj; omega
   rcases hq with rfl | rfl | rfl | rfl | rfl
   ·intro vs gq stq hl hf
    obtain ⟨v0, v1, v2, v3, v4, rfl⟩ := len_k5 hl
    have hB1 := (show Box gq (t + 1) b1 26 [encA .u8 d1, [.int .i64 x1], encA .i64 d2, [.slice a1 n1 c1]] [8, 1, 2, 1] from hf _ (memI 0 rfl) (by kernel_rfl))
    refine WP.loadB (v := .slice a1 n1 c1) hB1 (by kernel_rfl) (by kernel_rfl) ?_
    refine WP.dn (Shown.ok (v := .slice a1 n1 c1) (by kernel_rfl) (Step.refl _ _) ?_)
    exact ⟨tv, tv, tv, rfl, tv, tv, tv, tv, tv⟩
   ·intro vs gq stq hl hf
    obtain ⟨v0, v1, v2, v3, v4, rfl⟩ := len_k5 hl
    have hR1 := (show RdS k_S_baizeref47_Held gq 60 a1 n1 c1 l1 from hf _ (memI 1 rfl) (by kernel_rfl))
    have e0 := (show v0 = .slice a1 n1 c1 from hf _ (memI 3 rfl) (by kernel_rfl))
    subst e0
    refine WP.sliceR (lo := none) (hi := some (.int .i64 x4)) hR1 0 x4 (by kernel_rfl) (.inl ⟨rfl, rfl⟩) (.inr ⟨_, rfl⟩) hc6 ?_
    intro a4 c4 hR4
    refine WP.dn (Shown.ok (v := .slice a4 (x4.toNat - (0 : Int).toNat) c4) (by kernel_rfl) (Step.refl _ _) ?_)
    exact ⟨tv, tv, tv, tv, ⟨a4, c4, rfl, hR4⟩, tv, tv, tv, tv⟩
   ·intro vs gq stq hl hf
    obtain ⟨v0, v1, v2, v3, v4, rfl⟩ := len_k5 hl
    obtain ⟨a4, c4, e1, hR4⟩ := (show ∃ (a4 : Option Addr) (c4 : Nat), v1 = .slice a4 (x4.toNat - (0 : Int).toNat) c4 ∧ RdS k_S_baizeref47_Held gq 60 a4 (x4.toNat - (0 : Int).toNat) c4 (sliceI l1 0 x4) from hf _ (memI 4 rfl) (by kernel_rfl))
    subst e1
    refine WP.buildS (places := #[(0, 8), (8, 1), (9, 2), (11, 1)]) (t := 26) [encA .u8 (zA 8), [.int .i64 0], encA .i64 (zA 2), [.slice none 0 0]] [8, 1, 2, 1] (by kernel_rfl) (by kernel_rfl) (by simp [len_encA]) (by kernel_rfl) ((.cons (i := 3) (off := 11) (v := .slice a4 (x4.toNat - (0 : Int).toNat) c4) (mid := [encA .u8 (zA 8), [.int .i64 0], encA .i64 (zA 2), [.slice a4 (x4.toNat - (0 : Int).toNat) c4]]) [[.slice a4 (x4.toNat - (0 : Int).toNat) c4]] [1] (by kernel_rfl) (by kernel_rfl) rfl (by kernel_rfl) .nil)) ?_
    refine WP.dn (Shown.ok (v := AG [encA .u8 (zA 8), [.int .i64 0], encA .i64 (zA 2), [.slice a4 (x4.toNat - (0 : Int).toNat) c4]]) (by kernel_rfl) (Step.refl _ _) ?_)
    exact ⟨tv, tv, tv, tv, tv, ⟨a4, c4, rfl, rfl, hR4⟩, tv, tv, tv⟩
   ·intro vs gq stq hl hf
    obtain ⟨v0, v1, v2, v3, v4, rfl⟩ := len_k5 hl
    have hB6 := (show Box gq (t + 4) b7 60 [encA .u8 ((getI l1 x4).f1), [.int .i64 ((getI l1 x4).f2)], [.int .i64 ((getI l1 x4).f3)], [.int .i64 ((getI l1 x4).f4)]] [8, 1, 1, 1] from hf _ (memI 2 rfl) (by kernel_rfl))
    refine WP.loadB (v := AG [encA .u8 ((getI l1 x4).f1)]) hB6 (by kernel_rfl) (by kernel_rfl) ?_
    refine WP.dn (Shown.ok (v := AG [encA .u8 ((getI l1 x4).f1)]) (by kernel_rfl) (Step.refl _ _) ?_)
    exact ⟨tv, tv, tv, tv, tv, tv, rfl, tv, tv⟩
   ·intro vs gq stq hl hf
    obtain ⟨v0, v1, v2, v3, v4, rfl⟩ := len_k5 hl
    obtain ⟨a4, c4, e2, e1, hR4⟩ := (show ∃ (a4 : Option Addr) (c4 : Nat), v2 = AG [encA .u8 (zA 8), [.int .i64 0], encA .i64 (zA 2), [.slice a4 (x4.toNat - (0 : Int).toNat) c4]] ∧ v1 = .slice a4 (x4.toNat - (0 : Int).toNat) c4 ∧ RdS k_S_baizeref47_Held gq 60 a4 (x4.toNat - (0 : Int).toNat) c4 (sliceI l1 0 x4) from hf _ (memI 5 rfl) (by kernel_rfl))
    subst e2
    subst e1
    have e3 := (show v3 = AG [encA .u8 ((getI l1 x4).f1)] from hf _ (memI 6 rfl) (by kernel_rfl))
    subst e3
    have hcal14 := P.baizeref47_Place gq (zA 8) 0 (zA 2) (sliceI l1 0 x4) ((getI l1 x4).f1) a4 (x4.toNat - (0 : Int).toNat) c4 hR4 x8 hk14
    refine WP.callC hcal14 (by kernel_rfl) ?_
    rintro _ g21 st21 rfl
    refine WP.dn (Shown.o (v := .int .i64 x8) st21.pure ?_)
    exact ⟨tv, tv, tv, tv, tv, tv, tv, rfl, tv⟩
  intro vs g22 st22 hl hf
  obtain ⟨v0, v1, v2, v3, v4, rfl⟩ := len_k5 hl
  have e4 := (show v4 = .int .i64 x8 from hf _ (memI 7 rfl) (by kernel_rfl))
  subst e4
  replace hB1 := hB1.mono st22.toNo (fun x => x)
  replace hR1 := hR1.mono st22.toNo (fun x => x)
  replace hB6 := hB6.mono st22.toNo (fun x => x)
  replace tot := tot.trans st22.toNo.pure
  refine NX.then_n ?_
  refine CP.refr 85 [(1, .pointer (some ⟨b1, 0, none⟩)), (3, .int .i64 x3), (4, .int .i64 x4), (5, .pointer (some ⟨b7, 0, none⟩)), (6, .int .i64 x8)] (by kernel_rfl) (by kernel_rfl) ?_
  clear ds
  intro ds
  refine CP.seqR ?_
  refine WP.stl 2 ?_
  refine WP.dn ?_
  refine NX.then_n ?_
  refine CP.cond (b := decide (x8 ≥ 0)) (by kernel_rfl) (fun h24 => ?_) (fun h24 => ?_)
  ·replace hs := of_if_t hs h24
   refine CP.seqR ?_
   refine WP.stl 1 ?_
   refine WP.dn ?_
   refine NX.then_n ?_
   refine CP.ret ?_
   refine NX.then_r ?_
   refine NX.block_r ?_
   refine NX.then_r ?_
   refine NX.then_r ?_
   refine NX.block_r ?_
   refine NX.then_r ?_
   replace hs := Option.some.inj hs
   obtain rfl := hs
   exact NX.fin (v := .int .i64 7) (Res.still (by kernel_rfl)) tot htL rfl
  replace hs := of_if_f hs h24
  refine CP.skip ?_
  refine NX.then_n ?_
  refine CP.region ?_
  refine WP.stl 2 ?_
  refine WP.loadB (v := .int .i64 ((getI l1 x4).f2)) hB6 (by kernel_rfl) (by kernel_rfl) ?_
  refine WP.stl 2 ?_
  refine WP.dn ?_
  refine NX.block_n ?_
  refine NX.then_n ?_
  refine CP.region ?_
  refine WP.stl 3 ?_
  refine WP.dn ?_
  refine NX.post ?_
  exact ⟨(IntKind.i64.wrap (x3 + ((getI l1 x4).f2))), (IntKind.i64.wrap (x4 + 1)), ⟨by kernel_rfl, by kernel_rfl⟩, tot, hB1, hR1, hs⟩
 replace hs := of_if_f hs h19
 refine CP.exit ?_
 refine NX.then_e ?_
 refine NX.then_e ?_
 refine NX.block_s ?_
 refine NX.then_n ?_
 refine CP.seq ?_
 refine CP.seqR ?_
 refine WP.stl 1 ?_
 replace hs := Option.bind_eq_some_iff.1 hs
 obtain ⟨q18, hk17, hs⟩ := hs
 have hcal17 := P.baizeref03_Right g x3 q18 hk17
 refine WP.callC hcal17 (by kernel_rfl) ?_
 rintro _ g25 st25 rfl
 replace tot := tot.trans st25.pure
 refine WP.stl 1 ?_
 refine WP.dn ?_
 refine NX.then_n ?_
 refine CP.cond (b := (!q18)) (by kernel_rfl) (fun h28 => ?_) (fun h28 => ?_)
 ·replace hs := of_if_t hs h28
  refine CP.seqR ?_
  refine WP.stl 1 ?_
  refine WP.dn ?_
  refine NX.then_n ?_
  refine CP.ret ?_
  refine NX.then_r ?_
  replace hs := Option.some.inj hs
  obtain rfl := hs
  exact NX.fin (v := .int .i64 2) (Res.still (by kernel_rfl)) tot htL rfl
 replace hs := of_if_f hs h28
 refine CP.skip ?_
 refine NX.then_n ?_
 refine CP.seqR ?_
 refine WP.stl 1 ?_
 refine WP.dn ?_
 refine NX.then_n ?_
 refine CP.ret ?_
 replace hs := Option.some.inj hs
 obtain rfl := hs
 exact NX.fin (v := .int .i64 0) (Res.still (by kernel_rfl)) tot htL rfl
def F.baizeref01_Num.l1 : Nat → Int → (List Int) → Option ((List Int))
 | 0, _, _ => none
 | k + 1, x2, l1 => (if decide (x2 ≥ 128) = true then (if l1.length + ([(IntKind.u8.wrap (IntKind.u64.wrap (128 + (x2.tmod 128))))]).length ≤ 140737488355328 then (F.baizeref01_Num.l1 k (IntKind.u64.wrap (x2.tdiv 128)) (l1 ++ [(IntKind.u8.wrap (IntKind.u64.wrap (128 + (x2.tmod 128))))])) else none) else (if l1.length + ([(IntKind.u8.wrap x2)]).length ≤ 140737488355328 then (some (l1 ++ [(IntKind.u8.wrap x2)])) else none))
def F.baizeref01_Num (x1 : Int) : Option ((List Int)) := (F.baizeref01_Num.l1 fuel x1 ([]))
theorem P.baizeref01_Num (g0 : GW) (r0 : Nat) (x1 : Int) (o1 : List Int) (hs : F.baizeref01_Num x1 = some o1) :
  Calls Try.prog 83 #[.int .u64 x1] g0.w (Ret NoM g0 fun v g => ∃ (a_1 : Option Addr) (n_1 : Nat) (c_1 : Nat), v = .slice a_1 n_1 c_1 ∧ OwnS (Kd.int .u8) g r0 5 a_1 n_1 c_1 o1) := by
 refine calls_of (args := [.int .u64 x1]) Try.func83 rfl (r0 + 0) ?_
 intro t ht htL
 refine ⟨_, rfl, ?_⟩
 refine CP.refr 20 [(0, .int .u64 x1)] (by kernel_rfl) (by kernel_rfl) ?_
 intro ds
 have tot : Step (fun l => NoM l ∨ t ≤ l) g0 g0 := Step.refl _ _
 unfold F.baizeref01_Num at hs
 refine CP.seqR ?_
 refine WP.stl 1 ?_
 refine WP.dn ?_
 refine NX.then_n ?_
 refine CP.seqR ?_
 refine WP.stl 1 ?_
 refine WP.dn ?_
 refine NX.then_n ?_
 refine CP.seq ?_
 refine CP.block ?_
 generalize fuel = k1 at hs
 refine CP.loop (fun k1 tm g => ∃ (x2 : Int) (l1 : List Int) (a5 : Option Addr) (n1 : Nat) (c3 : Nat), Fr 20 [(0, .int .u64 x2), (3, .slice a5 n1 c3)] tm ∧ Step (fun l => NoM l ∨ t ≤ l) g0 g ∧ OwnS (Kd.int .u8) g (t + 2) 5 a5 n1 c3 l1 ∧ F.baizeref01_Num.l1 k1 x2 l1 = some o1) k1 ?_ ?_ ?_
 ·exact ⟨x1, [], none, 0, 0, ⟨by kernel_rfl, by kernel_rfl⟩, tot, (OwnS.nil _ _ _ _), hs⟩
 ·rintro tm g ⟨x2, l1, a5, n1, c3, hF, tot, hR5, hs⟩
  exact absurd hs (by simp [F.baizeref01_Num.l1])
 clear tot hs
 rintro k1 tm g ⟨x2, l1, a5, n1, c3, hF, tot, hR5, hs⟩
 clear ds
 obtain ⟨ds, rfl⟩ := hF.open
 clear hF
 unfold F.baizeref01_Num.l1 at hs
 refine CP.seq ?_
 refine CP.seqR ?_
 refine WP.stl 2 ?_
 refine WP.dn ?_
 refine NX.then_n ?_
 refine CP.cond (b := decide (x2 ≥ 128)) (by kernel_rfl) (fun h3 => ?_) (fun h3 => ?_)
 ·replace hs := of_if_t hs h3
  refine CP.skip ?_
  refine NX.then_n ?_
  refine CP.block ?_
  refine CP.seqR ?_
  refine WP.stl 5 ?_
  refine WP.mkSl (kd := (Kd.int .u8)) (t := 64) (e := 5) (bytes := 1) (t + 7) [.int .u8 (IntKind.u8.wrap (IntKind.u64.wrap (128 + (x2.tmod 128))))] [(IntKind.u8.wrap (IntKind.u64.wrap (128 + (x2.tmod 128))))] (by kernel_rfl) (by kernel_rfl) (Nat.le_of_ble_eq_true rfl) (Nat.le_of_ble_eq_true rfl) (all_cons rfl all_nil) (⟨_, _, rfl, (by exact rfl), rfl⟩) rfl ?_
  intro g9 a11 st9 hR11
  replace hR5 := hR5.mono st9 (fun x => x) (fun x => x)
  replace tot := tot.trans st9.pure
  by_cases hc5 : l1.length + ([(IntKind.u8.wrap (IntKind.u64.wrap (128 + (x2.tmod 128))))]).length ≤ 140737488355328
  case neg => rw [if_neg hc5] at hs; cases hs
  replace hs := of_if_p hs hc5
  refine WP.append (kd := (Kd.int .u8)) (t := 64) (e := 5) (bytes := 1) (a2 := a11) (c2 := 1) hR5 hR11.src hR11.len (by kernel_rfl) (by kernel_rfl) (by omega) (by simp only [maxLen]; omega) (by omega) ?_
  intro g10 a12 c7 st10 hR12
  replace hR11 := hR11.mono st10 (WL.no1 (by omega)) (WL.no1 (by omega))
  replace tot := tot.trans (st10.up1 (.inr (by omega)))
  refine WP.stl 1 ?_
  refine WP.dn ?_
  refine NX.then_n ?_
  refine CP.region ?_
  refine WP.stl 3 ?_
  refine WP.dn ?_
  refine NX.block_n ?_
  refine NX.post ?_
  exact ⟨(IntKind.u64.wrap (x2.tdiv 128)), (l1 ++ [(IntKind.u8.wrap (IntKind.u64.wrap (128 + (x2.tmod 128))))]), a12, (n1 + 1), c7, ⟨by kernel_rfl, by kernel_rfl⟩, tot, hR12, hs⟩
 replace hs := of_if_f hs h3
 refine CP.exit ?_
 refine NX.then_e ?_
 refine NX.then_e ?_
 refine NX.block_s ?_
 refine NX.then_n ?_
 refine CP.seqR ?_
 refine WP.stl 3 ?_
 refine WP.mkSl (kd := (Kd.int .u8)) (t := 64) (e := 5) (bytes := 1) (t + 8) [.int .u8 (IntKind.u8.wrap x2)] [(IntKind.u8.wrap x2)] (by kernel_rfl) (by kernel_rfl) (Nat.le_of_ble_eq_true rfl) (Nat.le_of_ble_eq_true rfl) (all_cons rfl all_nil) (⟨_, _, rfl, (by exact rfl), rfl⟩) rfl ?_
 intro g11 a13 st11 hR13
 replace hR5 := hR5.mono st11 (fun x => x) (fun x => x)
 replace tot := tot.trans st11.pure
 by_cases hc6 : l1.length + ([(IntKind.u8.wrap x2)]).length ≤ 140737488355328
 case neg => rw [if_neg hc6] at hs; cases hs
 replace hs := of_if_p hs hc6
 refine WP.append (kd := (Kd.int .u8)) (t := 64) (e := 5) (bytes := 1) (a2 := a13) (c2 := 1) hR5 hR13.src hR13.len (by kernel_rfl) (by kernel_rfl) (by omega) (by simp only [maxLen]; omega) (by omega) ?_
 intro g12 a14 c8 st12 hR14
 replace hR13 := hR13.mono st12 (WL.no1 (by omega)) (WL.no1 (by omega))
 replace tot := tot.trans (st12.up1 (.inr (by omega)))
 refine WP.stl 1 ?_
 refine WP.dn ?_
 refine NX.then_n ?_
 refine CP.ret ?_
 obtain ⟨g13, hw1, st13, hnew⟩ := hR14.relab (by omega) r0
 refine NX.regw hw1 ?_
 replace tot := tot.trans (st13.up1 (.inr (by omega)))
 clear hR14
 have hR14 := hnew
 clear hnew
 replace hs := Option.some.inj hs
 obtain rfl := hs
 exact NX.fin (v := .slice a14 (n1 + 1) c8) (Res.still (by kernel_rfl)) tot htL ⟨a14, (n1 + 1), c8, rfl, hR14⟩
def F.baizeref01_Bytes (l1 : List Int) : Option ((List Int)) := ((F.baizeref01_Num (IntKind.u64.wrap (l1.length : Int))).bind fun l2 => (if l2.length + l1.length ≤ 140737488355328 then (some (l2 ++ l1)) else none))
theorem P.baizeref01_Bytes (g0 : GW) (r0 : Nat) (l1 : List Int) (a1 : Option Addr) (n1 : Nat) (c1 : Nat) (hR1 : RdS (Kd.int .u8) g0 5 a1 n1 c1 l1) (o1 : List Int) (hs : F.baizeref01_Bytes l1 = some o1) :
  Calls Try.prog 60 #[.slice a1 n1 c1] g0.w (Ret NoM g0 fun v g => ∃ (a_1 : Option Addr) (n_1 : Nat) (c_1 : Nat), v = .slice a_1 n_1 c_1 ∧ OwnS (Kd.int .u8) g r0 5 a_1 n_1 c_1 o1) := by
 refine calls_of (args := [.slice a1 n1 c1]) Try.func60 rfl (r0 + 0) ?_
 intro t ht htL
 refine ⟨_, rfl, ?_⟩
 refine CP.refr 9 [(0, .slice a1 n1 c1)] (by kernel_rfl) (by kernel_rfl) ?_
 intro ds
 have tot : Step (fun l => NoM l ∨ t ≤ l) g0 g0 := Step.refl _ _
 unfold F.baizeref01_Bytes at hs
 refine CP.seqR ?_
 refine WP.stl 1 ?_
 refine WP.dn ?_
 refine NX.then_n ?_
 refine CP.seqR ?_
 refine WP.stl 1 ?_
 refine WP.len (a := a1) (cp := c1) hR1.len (by kernel_rfl) ?_
 refine WP.stl 1 ?_
 replace hs := Option.bind_eq_some_iff.1 hs
 obtain ⟨l2, hk1, hs⟩ := hs
 have hcal1 := P.baizeref01_Num g0 (t + 1) (IntKind.u64.wrap (l1.length : Int)) l2 hk1
 refine WP.callC hcal1 (by kernel_rfl) ?_
 rintro _ g1 st1 ⟨a2, n2, c2, rfl, hR2⟩
 replace hR1 := hR1.mono st1 (fun x => x)
 replace tot := tot.trans st1.pure
 refine WP.stl 1 ?_
 by_cases hc1 : l2.length + l1.length ≤ 140737488355328
 case neg => rw [if_neg hc1] at hs; cases hs
 replace hs := of_if_p hs hc1
 refine WP.append (kd := (Kd.int .u8)) (t := 64) (e := 5) (bytes := 1) (a2 := a1) (c2 := c1) hR2 hR1.src hR1.len (by kernel_rfl) (by kernel_rfl) (by omega) (by simp only [maxLen]; omega) (by omega) ?_
 intro g2 a3 c3 st2 hR3
 replace hR1 := hR1.mono st2 (WL.no1 (by omega))
 replace tot := tot.trans (st2.up1 (.inr (by omega)))
 refine WP.stl 1 ?_
 refine WP.dn ?_
 refine NX.then_n ?_
 refine CP.ret ?_
 obtain ⟨g3, hw1, st3, hnew⟩ := hR3.relab (by omega) r0
 refine NX.regw hw1 ?_
 replace tot := tot.trans (st3.up1 (.inr (by omega)))
 clear hR3
 have hR3 := hnew
 clear hnew
 replace hs := Option.some.inj hs
 obtain rfl := hs
 exact NX.fin (v := .slice a3 (n2 + n1) c3) (Res.still (by kernel_rfl)) tot htL ⟨a3, (n2 + n1), c3, rfl, hR3⟩
def F.baizeref47_num (x1 : Int) : Option ((List Int)) := ((F.baizeref01_Num (IntKind.u64.wrap x1)).bind fun l1 => (some l1))
theorem P.baizeref47_num (g0 : GW) (r0 : Nat) (x1 : Int) (o1 : List Int) (hs : F.baizeref47_num x1 = some o1) :
  Calls Try.prog 61 #[.int .i64 x1] g0.w (Ret NoM g0 fun v g => ∃ (a_1 : Option Addr) (n_1 : Nat) (c_1 : Nat), v = .slice a_1 n_1 c_1 ∧ OwnS (Kd.int .u8) g r0 5 a_1 n_1 c_1 o1) := by
 refine calls_of (args := [.int .i64 x1]) Try.func61 rfl (r0 + 0) ?_
 intro t ht htL
 refine ⟨_, rfl, ?_⟩
 refine CP.refr 6 [(0, .int .i64 x1)] (by kernel_rfl) (by kernel_rfl) ?_
 intro ds
 have tot : Step (fun l => NoM l ∨ t ≤ l) g0 g0 := Step.refl _ _
 unfold F.baizeref47_num at hs
 refine CP.seqR ?_
 refine WP.stl 1 ?_
 refine WP.dn ?_
 refine NX.then_n ?_
 refine CP.seqR ?_
 refine WP.stl 2 ?_
 replace hs := Option.bind_eq_some_iff.1 hs
 obtain ⟨l1, hk1, hs⟩ := hs
 have hcal1 := P.baizeref01_Num g0 (t + 1) (IntKind.u64.wrap x1) l1 hk1
 refine WP.callC hcal1 (by kernel_rfl) ?_
 rintro _ g1 st1 ⟨a1, n1, c1, rfl, hR1⟩
 replace tot := tot.trans st1.pure
 refine WP.stl 1 ?_
 refine WP.dn ?_
 refine NX.then_n ?_
 refine CP.ret ?_
 obtain ⟨g2, hw1, st2, hnew⟩ := hR1.relab (by omega) r0
 refine NX.regw hw1 ?_
 replace tot := tot.trans (st2.up1 (.inr (by omega)))
 clear hR1
 have hR1 := hnew
 clear hnew
 replace hs := Option.some.inj hs
 obtain rfl := hs
 exact NX.fin (v := .slice a1 n1 c1) (Res.still (by kernel_rfl)) tot htL ⟨a1, n1, c1, rfl, hR1⟩
end Go.Proofs.Yticlfbpmfejdoaa
