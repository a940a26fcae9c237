/-
  Walks, written by program: each Go function computes the plain function of its name, in whatever world its arguments' facts hold.
-/
import Derived.Test.YthfmgobnanifnaaWSd2
namespace Go.Proofs.Ythfmgobnanifnaa
open Go.RowKit Go.Lab
attribute [local irreducible] WP CP NX wpList Code.wp Calls
set_option maxRecDepth 100000
set_option maxHeartbeats 4000000
set_option linter.unusedVariables false

def N.baizeref32_Act_0 : List (List Nat) := [[], [], [1], [0, 1, 2], [], [0, 1, 2, 3, 4], [0, 1, 2, 3, 4, 5], [0, 1, 2, 3, 4, 5, 6]]
def F.baizeref32_Act (d1 : Arr Int 8) (x1 : Int) (d2 : Arr Int 8) (l1 : List Int) : Option ((List Int)) := ((F.baizeref32_text str_3).bind fun l3 => ((F.baizeref01_Bytes d1.1).bind fun l4 => (if l3.length + l4.length ≤ 140737488355328 then ((F.baizeref32_number x1).bind fun l6 => (if (l3 ++ l4).length + l6.length ≤ 140737488355328 then ((F.baizeref01_Bytes d2.1).bind fun l7 => (if ((l3 ++ l4) ++ l6).length + l7.length ≤ 140737488355328 then ((F.baizeref01_Bytes l1).bind fun l8 => (if (((l3 ++ l4) ++ l6) ++ l7).length + l8.length ≤ 140737488355328 then (some ((((l3 ++ l4) ++ l6) ++ l7) ++ l8)) else none)) else none)) else none)) else none)))
theorem P.baizeref32_Act (g0 : GW) (r0 : Nat) (d1 : Arr Int 8) (x1 : Int) (d2 : Arr Int 8) (l1 : List Int) (a1 : Option Addr) (n1 : Nat) (c1 : Nat) (hR1 : RdS (Kd.int .u8) g0 5 a1 n1 c1 l1) (o1 : List Int) (hs : F.baizeref32_Act d1 x1 d2 l1 = some o1) :
  Calls Try.prog 13 #[AG [encA .u8 d1], .int .i64 x1, AG [encA .u8 d2], .slice a1 n1 c1] g0.w (Ret NoM g0 fun v g => ∃ (a_1 : Option Addr) (n_1 : Nat) (c_1 : Nat), v = .slice a_1 n_1 c_1 ∧ OwnS (Kd.int .u8) g r0 5 a_1 n_1 c_1 o1) := by
 refine calls_of (args := [AG [encA .u8 d1], .int .i64 x1, AG [encA .u8 d2], .slice a1 n1 c1]) Try.func13 rfl (r0 + 0) ?_
 intro t ht htL
 refine ⟨_, rfl, ?_⟩
 refine CP.refr 25 [(0, AG [encA .u8 d1]), (1, .int .i64 x1), (2, AG [encA .u8 d2]), (3, .slice a1 n1 c1)] (by kernel_rfl) (by kernel_rfl) ?_
 intro ds
 have tot : Step (fun l => NoM l ∨ t ≤ l) g0 g0 := Step.refl _ _
 unfold F.baizeref32_Act at hs
 refine CP.seqR ?_
 refine WP.alloc (T := 22) (t + 1) [encA .u8 d1] [8] (by kernel_rfl) (by simp [len_encA]) ?_
 intro g1 b1 st1 hB1
 replace hR1 := hR1.mono st1 (fun x => x)
 replace tot := tot.trans st1.pure
 refine WP.alloc (T := 22) (t + 2) [encA .u8 d2] [8] (by kernel_rfl) (by simp [len_encA]) ?_
 intro g2 b2 st2 hB2
 replace hR1 := hR1.mono st2 (fun x => x)
 replace hB1 := hB1.mono st2 (fun x => x)
 replace tot := tot.trans st2.pure
 refine WP.stl 1 ?_
 refine WP.dn ?_
 refine NX.then_n ?_
 refine CP.seq ?_
 obtain ⟨g4, hw1, st4, hnew⟩ := hB1.relab 0
 refine CP.regw hw1 ?_
 replace hR1 := hR1.mono st4 (WL.no1 (by omega))
 replace hB2 := hB2.mono st4 (WL.no1 (by omega))
 replace tot := tot.trans (st4.up1 (.inr (by omega)))
 clear hB1
 have hB1 := hnew
 clear hnew
 replace hs := Option.bind_eq_some_iff.1 hs
 obtain ⟨l3, hk2, hs⟩ := hs
 replace hs := Option.bind_eq_some_iff.1 hs
 obtain ⟨l4, hk3, hs⟩ := hs
 by_cases hc1 : l3.length + l4.length ≤ 140737488355328
 case neg => rw [if_neg hc1] at hs; cases hs
 replace hs := of_if_p hs hc1
 refine CP.drawL (by kernel_rfl) [0, 1, 2, 3] [[], [], [0, 1], [0, 1, 2], [0, 1, 2, 3]] [⟨none, [], [], fun l g => Box g 0 b1 22 [encA .u8 d1] [8]⟩, ⟨some 0, [0], [0], fun l g => ∃ (a4 : Option Addr) (c3 : Nat), l.getD 0 undef = .slice a4 l3.length c3 ∧ OwnS (Kd.int .u8) g (t + 4) 5 a4 l3.length c3 l3⟩, ⟨some 1, [], [1], fun l g => ∃ (a5 : Option Addr), l.getD 0 undef = .slice a5 ((8 : Int).toNat - (0 : Int).toNat) (8 - (0 : Int).toNat) ∧ RdS (Kd.int .u8) g 5 a5 ((8 : Int).toNat - (0 : Int).toNat) (8 - (0 : Int).toNat) d1.1⟩, ⟨some 2, [], [2], fun l g => ∃ (a6 : Option Addr) (c4 : Nat), l.getD 0 undef = .slice a6 l4.length c4 ∧ OwnS (Kd.int .u8) g (t + 5) 5 a6 l4.length c4 l4⟩, ⟨some 3, [0], [3], fun l g => ∃ (a7 : Option Addr) (c5 : Nat), l.getD 0 undef = .slice a7 (l3.length + l4.length) c5 ∧ OwnS (Kd.int .u8) g (t + 4) 5 a7 (l3.length + l4.length) c5 (l3 ++ l4)⟩, ⟨some 3, [], [0], fun l g => ∃ (a4 : Option Addr) (c3 : Nat), l.getD 0 undef = .slice a4 l3.length c3⟩] [[], [], [], [0]] [(t + 4)] [] [4] (by kernel_rfl) (by simp <;> omega) (by simp) ⟨fun _ _ _ _ st h0 hl hj hB1 => (hB1.mono st (fun h => absurd (hl _ h) (by simp <;> omega))), fun _ _ _ _ st h0 hl hj ⟨a4, c3, e0, hR4⟩ => ⟨a4, c3, e0, (hR4.mono st h0 (hj 0 (by simp) _ rfl))⟩, fun _ _ _ _ st h0 hl hj ⟨a5, e1, hR5⟩ => ⟨a5, e1, (RdS.mono (e := 5) hR5 st h0)⟩, fun _ _ _ _ st h0 hl hj ⟨a6, c4, e2, hR6⟩ => ⟨a6, c4, e2, (hR6.mono st h0 (fun h => absurd (hl _ h) (by simp <;> omega)))⟩, fun _ _ _ _ st h0 hl hj ⟨a7, c5, e3, hR7⟩ => ⟨a7, c5, e3, (hR7.mono st h0 (hj 0 (by simp) _ rfl))⟩, fun _ _ _ _ st h0 hl hj ⟨a4, c3, e0⟩ => ⟨a4, c3, e0⟩, tv⟩ ⟨hB1, tv, tv, tv, tv, tv, tv⟩ (by kernel_rfl) (fun vs => by kernel_rfl) ?_ ?_ ?_
 ·intro j hj
  have hq : j = 0 := by have h : j < 1 := hj; omega
  rcases hq with rfl
  ·intro vs gq stq hl hf
   obtain ⟨v0, v1, v2, v3, rfl⟩ := len_k4 hl
   obtain ⟨a7, c5, e3, hR7⟩ := (show ∃ (a7 : Option Addr) (c5 : Nat), v3 = .slice a7 (l3.length + l4.length) c5 ∧ OwnS (Kd.int .u8) gq (t + 4) 5 a7 (l3.length + l4.length) c5 (l3 ++ l4) from hf _ (memI 4 rfl) (by kernel_rfl))
   subst e3
   show Option.isSome _ = true
   kernel_rfl
 ·intro j hj
  have hq : j = 0 ∨ j = 1 ∨ j = 2 ∨ j = 3 := by have h : j < 4 := hj; omega
  rcases hq with rfl | rfl | rfl | rfl
  ·intro vs gq stq hl hf
   obtain ⟨v0, v1, v2, v3, rfl⟩ := len_k4 hl
   have hcal2 := P.baizeref32_text gq (t + 4) str_3 l3 hk2
   refine WP.callC hcal2 (by kernel_rfl) ?_
   rintro _ g5 st5 ⟨a4, n3, c3, rfl, hR4⟩
   obtain rfl := hR4.len
   refine WP.dn (Shown.o (v := .slice a4 l3.length c3) st5.pure ?_)
   exact ⟨tv, ⟨a4, c3, rfl, hR4⟩, tv, tv, tv, tv, tv⟩
  ·intro vs gq stq hl hf
   obtain ⟨v0, v1, v2, v3, rfl⟩ := len_k4 hl
   have hB1 := (show Box gq 0 b1 22 [encA .u8 d1] [8] from hf _ (memI 0 rfl) (by kernel_rfl))
   refine WP.sliceZ (o := 0) (m := 8) (k := .u8) (d := d1) (e := 5) (lo := none) (hi := none) hB1 (by kernel_rfl) (0 : Int) (8 : Int) (by kernel_rfl) (.inl ⟨rfl, rfl⟩) (.inl ⟨rfl, rfl⟩) (by decide) ?_
   intro a5 hR5
   rw [sliceI_all (m := 8) (d := d1) (j := (8 : Int)) rfl] at hR5
   refine WP.dn (Shown.ok (v := .slice a5 ((8 : Int).toNat - (0 : Int).toNat) (8 - (0 : Int).toNat)) (by kernel_rfl) (Step.refl _ _) ?_)
   exact ⟨tv, tv, ⟨a5, rfl, hR5⟩, tv, tv, tv, tv⟩
  ·intro vs gq stq hl hf
   obtain ⟨v0, v1, v2, v3, rfl⟩ := len_k4 hl
   obtain ⟨a5, e1, hR5⟩ := (show ∃ (a5 : Option Addr), v1 = .slice a5 ((8 : Int).toNat - (0 : Int).toNat) (8 - (0 : Int).toNat) ∧ RdS (Kd.int .u8) gq 5 a5 ((8 : Int).toNat - (0 : Int).toNat) (8 - (0 : Int).toNat) d1.1 from hf _ (memI 2 rfl) (by kernel_rfl))
   subst e1
   have hcal3 := P.baizeref01_Bytes gq (t + 5) d1.1 a5 ((8 : Int).toNat - (0 : Int).toNat) (8 - (0 : Int).toNat) hR5 l4 hk3
   refine WP.callC hcal3 (by kernel_rfl) ?_
   rintro _ g6 st6 ⟨a6, n4, c4, rfl, hR6⟩
   obtain rfl := hR6.len
   refine WP.dn (Shown.o (v := .slice a6 l4.length c4) st6.pure ?_)
   exact ⟨tv, tv, tv, ⟨a6, c4, rfl, hR6⟩, tv, tv, tv⟩
  ·intro vs gq stq hl hf
   obtain ⟨v0, v1, v2, v3, rfl⟩ := len_k4 hl
   obtain ⟨a4, c3, e0, hR4⟩ := (show ∃ (a4 : Option Addr) (c3 : Nat), v0 = .slice a4 l3.length c3 ∧ OwnS (Kd.int .u8) gq (t + 4) 5 a4 l3.length c3 l3 from hf _ (memI 1 rfl) (by kernel_rfl))
   subst e0
   obtain ⟨a6, c4, e2, hR6⟩ := (show ∃ (a6 : Option Addr) (c4 : Nat), v2 = .slice a6 l4.length c4 ∧ OwnS (Kd.int .u8) gq (t + 5) 5 a6 l4.length c4 l4 from hf _ (memI 3 rfl) (by kernel_rfl))
   subst e2
   refine WP.append (kd := (Kd.int .u8)) (t := 24) (e := 5) (bytes := 1) (a2 := a6) (c2 := c4) hR4 hR6.src hR6.len (by kernel_rfl) (by kernel_rfl) (by omega) (by simp only [maxLen]; omega) (by omega) ?_
   intro g7 a7 c5 st7 hR7
   refine WP.dn (Shown.o (v := .slice a7 (l3.length + l4.length) c5) st7 ?_)
   exact ⟨tv, tv, tv, tv, ⟨a7, c5, rfl, hR7⟩, ⟨a4, c3, rfl⟩, tv⟩
 intro vs g8 st8 hl hf
 obtain ⟨v0, v1, v2, v3, rfl⟩ := len_k4 hl
 obtain ⟨a7, c5, e3, hR7⟩ := (show ∃ (a7 : Option Addr) (c5 : Nat), v3 = .slice a7 (l3.length + l4.length) c5 ∧ OwnS (Kd.int .u8) g8 (t + 4) 5 a7 (l3.length + l4.length) c5 (l3 ++ l4) from hf _ (memI 4 rfl) (by kernel_rfl))
 subst e3
 replace hR1 := hR1.mono st8 (WL.no1 (by omega))
 replace hB2 := hB2.mono st8 (WL.no1 (by omega))
 replace tot := tot.trans (st8.up1 (.inr (by omega)))
 refine NX.then_n ?_
 refine CP.refr 25 [(1, .int .i64 x1), (3, .slice a1 n1 c1), (6, .pointer (some ⟨b2, 0, none⟩)), (9, .slice a7 (l3.length + l4.length) c5)] (by kernel_rfl) (by kernel_rfl) ?_
 clear ds
 intro ds
 refine CP.seq ?_
 obtain ⟨g11, hw2, st11, hnew⟩ := hB2.relab 0
 refine CP.regw hw2 ?_
 replace hR1 := hR1.mono st11 (WL.no1 (by omega))
 replace hR7 := hR7.mono st11 (WL.no1 (by omega)) (WL.no1 (by omega))
 replace tot := tot.trans (st11.up1 (.inr (by omega)))
 clear hB2
 have hB2 := hnew
 clear hnew
 replace hs := Option.bind_eq_some_iff.1 hs
 obtain ⟨l6, hk5, hs⟩ := hs
 by_cases hc3 : (l3 ++ l4).length + l6.length ≤ 140737488355328
 case neg => rw [if_neg hc3] at hs; cases hs
 replace hs := of_if_p hs hc3
 replace hs := Option.bind_eq_some_iff.1 hs
 obtain ⟨l7, hk6, hs⟩ := hs
 by_cases hc4 : ((l3 ++ l4) ++ l6).length + l7.length ≤ 140737488355328
 case neg => rw [if_neg hc4] at hs; cases hs
 replace hs := of_if_p hs hc4
 refine CP.drawL (by kernel_rfl) [2, 3, 4, 5, 6] N.baizeref32_Act_0 [⟨none, [], [], fun l g => Box g 0 b2 22 [encA .u8 d2] [8]⟩, ⟨none, [0], [], fun l g => OwnS (Kd.int .u8) g (t + 4) 5 a7 (l3.length + l4.length) c5 (l3 ++ l4)⟩, ⟨some 0, [], [0], fun l g => ∃ (a11 : Option Addr) (c8 : Nat), l.getD 0 undef = .slice a11 l6.length c8 ∧ OwnS (Kd.int .u8) g (t + 7) 5 a11 l6.length c8 l6⟩, ⟨some 1, [0], [1], fun l g => ∃ (a12 : Option Addr) (c9 : Nat), l.getD 0 undef = .slice a12 ((l3.length + l4.length) + l6.length) c9 ∧ OwnS (Kd.int .u8) g (t + 4) 5 a12 ((l3.length + l4.length) + l6.length) c9 ((l3 ++ l4) ++ l6)⟩, ⟨some 2, [], [2], fun l g => ∃ (a13 : Option Addr), l.getD 0 undef = .slice a13 ((8 : Int).toNat - (0 : Int).toNat) (8 - (0 : Int).toNat) ∧ RdS (Kd.int .u8) g 5 a13 ((8 : Int).toNat - (0 : Int).toNat) (8 - (0 : Int).toNat) d2.1⟩, ⟨some 3, [], [3], fun l g => ∃ (a14 : Option Addr) (c10 : Nat), l.getD 0 undef = .slice a14 l7.length c10 ∧ OwnS (Kd.int .u8) g (t + 8) 5 a14 l7.length c10 l7⟩, ⟨some 4, [0], [4], fun l g => ∃ (a15 : Option Addr) (c11 : Nat), l.getD 0 undef = .slice a15 (((l3.length + l4.length) + l6.length) + l7.length) c11 ∧ OwnS (Kd.int .u8) g (t + 4) 5 a15 (((l3.length + l4.length) + l6.length) + l7.length) c11 (((l3 ++ l4) ++ l6) ++ l7)⟩, ⟨some 4, [], [1], fun l g => ∃ (a12 : Option Addr) (c9 : Nat), l.getD 0 undef = .slice a12 ((l3.length + l4.length) + l6.length) c9⟩] [[], [0], [], [], [0]] [(t + 4)] [0, 1] [7] (by kernel_rfl) (by simp <;> omega) (by simp) ⟨fun _ _ _ _ st h0 hl hj hB2 => (hB2.mono st (fun h => absurd (hl _ h) (by simp <;> omega))), fun _ _ _ _ st h0 hl hj hR7 => (hR7.mono st h0 (hj 0 (by simp) _ rfl)), fun _ _ _ _ st h0 hl hj ⟨a11, c8, e0, hR11⟩ => ⟨a11, c8, e0, (hR11.mono st h0 (fun h => absurd (hl _ h) (by simp <;> omega)))⟩, fun _ _ _ _ st h0 hl hj ⟨a12, c9, e1, hR12⟩ => ⟨a12, c9, e1, (hR12.mono st h0 (hj 0 (by simp) _ rfl))⟩, fun _ _ _ _ st h0 hl hj ⟨a13, e2, hR13⟩ => ⟨a13, e2, (RdS.mono (e := 5) hR13 st h0)⟩, fun _ _ _ _ st h0 hl hj ⟨a14, c10, e3, hR14⟩ => ⟨a14, c10, e3, (hR14.mono st h0 (fun h => absurd (hl _ h) (by simp <;> omega)))⟩, fun _ _ _ _ st h0 hl hj ⟨a15, c11, e4, hR15⟩ => ⟨a15, c11, e4, (hR15.mono st h0 (hj 0 (by simp) _ rfl))⟩, fun _ _ _ _ st h0 hl hj ⟨a12, c9, e1⟩ => ⟨a12, c9, e1⟩, tv⟩ ⟨hB2, hR7, tv, tv, tv, tv, tv, tv, tv⟩ (by kernel_rfl) (fun vs => by kernel_rfl) ?_ ?_ ?_
 ·intro j hj
  have hq : j = 0 := by have h : j < 1 := hj; omega
  rcases hq with rfl
  ·intro vs gq stq hl hf
   obtain ⟨v0, v1, v2, v3, v4, rfl⟩ := len_k5 hl
   obtain ⟨a15, c11, e4, hR15⟩ := (show ∃ (a15 : Option Addr) (c11 : Nat), v4 = .slice a15 (((l3.length + l4.length) + l6.length) + l7.length) c11 ∧ OwnS (Kd.int .u8) gq (t + 4) 5 a15 (((l3.length + l4.length) + l6.length) + l7.length) c11 (((l3 ++ l4) ++ l6) ++ l7) from hf _ (memI 6 rfl) (by kernel_rfl))
   subst e4
   show Option.isSome _ = true
   kernel_rfl
 ·intro j hj
  have hq : j = 0 ∨ j = 1 ∨ j = 2 ∨ j = 3 ∨ j = 4 := by have h : j < 5 := hj; omega
  rcases hq with rfl | rfl | rfl | rfl | rfl
  ·intro vs gq stq hl hf
   obtain ⟨v0, v1, v2, v3, v4, rfl⟩ := len_k5 hl
   have hcal5 := P.baizeref32_number gq (t + 7) x1 l6 hk5
   refine WP.callC hcal5 (by kernel_rfl) ?_
   rintro _ g12 st12 ⟨a11, n6, c8, rfl, hR11⟩
   obtain rfl := hR11.len
   refine WP.dn (Shown.o (v := .slice a11 l6.length c8) st12.pure ?_)
   exact ⟨tv, tv, ⟨a11, c8, rfl, hR11⟩, tv, tv, tv, tv, tv, tv⟩
  ·intro vs gq stq hl hf
   obtain ⟨v0, v1, v2, v3, v4, rfl⟩ := len_k5 hl
   have hR7 := (show OwnS (Kd.int .u8) gq (t + 4) 5 a7 (l3.length + l4.length) c5 (l3 ++ l4) from hf _ (memI 1 rfl) (by kernel_rfl))
   obtain ⟨a11, c8, e0, hR11⟩ := (show ∃ (a11 : Option Addr) (c8 : Nat), v0 = .slice a11 l6.length c8 ∧ OwnS (Kd.int .u8) gq (t + 7) 5 a11 l6.length c8 l6 from hf _ (memI 2 rfl) (by kernel_rfl))
   subst e0
   refine WP.append (kd := (Kd.int .u8)) (t := 24) (e := 5) (bytes := 1) (a2 := a11) (c2 := c8) hR7 hR11.src hR11.len (by kernel_rfl) (by kernel_rfl) (by omega) (by simp only [maxLen]; omega) (by omega) ?_
   intro g13 a12 c9 st13 hR12
   refine WP.dn (Shown.o (v := .slice a12 ((l3.length + l4.length) + l6.length) c9) st13 ?_)
   exact ⟨tv, tv, tv, ⟨a12, c9, rfl, hR12⟩, tv, tv, tv, tv, tv⟩
  ·intro vs gq stq hl hf
   obtain ⟨v0, v1, v2, v3, v4, rfl⟩ := len_k5 hl
   have hB2 := (show Box gq 0 b2 22 [encA .u8 d2] [8] from hf _ (memI 0 rfl) (by kernel_rfl))
   refine WP.sliceZ (o := 0) (m := 8) (k := .u8) (d := d2) (e := 5) (lo := none) (hi := none) hB2 (by kernel_rfl) (0 : Int) (8 : Int) (by kernel_rfl) (.inl ⟨rfl, rfl⟩) (.inl ⟨rfl, rfl⟩) (by decide) ?_
   intro a13 hR13
   rw [sliceI_all (m := 8) (d := d2) (j := (8 : Int)) rfl] at hR13
   refine WP.dn (Shown.ok (v := .slice a13 ((8 : Int).toNat - (0 : Int).toNat) (8 - (0 : Int).toNat)) (by kernel_rfl) (Step.refl _ _) ?_)
   exact ⟨tv, tv, tv, tv, ⟨a13, rfl, hR13⟩, tv, tv, tv, tv⟩
  ·intro vs gq stq hl hf
   obtain ⟨v0, v1, v2, v3, v4, rfl⟩ := len_k5 hl
   obtain ⟨a13, e2, hR13⟩ := (show ∃ (a13 : Option Addr), v2 = .slice a13 ((8 : Int).toNat - (0 : Int).toNat) (8 - (0 : Int).toNat) ∧ RdS (Kd.int .u8) gq 5 a13 ((8 : Int).toNat - (0 : Int).toNat) (8 - (0 : Int).toNat) d2.1 from hf _ (memI 4 rfl) (by kernel_rfl))
   subst e2
   have hcal6 := P.baizeref01_Bytes gq (t + 8) d2.1 a13 ((8 : Int).toNat - (0 : Int).toNat) (8 - (0 : Int).toNat) hR13 l7 hk6
   refine WP.callC hcal6 (by kernel_rfl) ?_
   rintro _ g14 st14 ⟨a14, n7, c10, rfl, hR14⟩
   obtain rfl := hR14.len
   refine WP.dn (Shown.o (v := .slice a14 l7.length c10) st14.pure ?_)
   exact ⟨tv, tv, tv, tv, tv, ⟨a14, c10, rfl, hR14⟩, tv, tv, tv⟩
  ·intro vs gq stq hl hf
   obtain ⟨v0, v1, v2, v3, v4, rfl⟩ := len_k5 hl
   obtain ⟨a12, c9, e1, hR12⟩ := (show ∃ (a12 : Option Addr) (c9 : Nat), v1 = .slice a12 ((l3.length + l4.length) + l6.length) c9 ∧ OwnS (Kd.int .u8) gq (t + 4) 5 a12 ((l3.length + l4.length) + l6.length) c9 ((l3 ++ l4) ++ l6) from hf _ (memI 3 rfl) (by kernel_rfl))
   subst e1
   obtain ⟨a14, c10, e3, hR14⟩ := (show ∃ (a14 : Option Addr) (c10 : Nat), v3 = .slice a14 l7.length c10 ∧ OwnS (Kd.int .u8) gq (t + 8) 5 a14 l7.length c10 l7 from hf _ (memI 5 rfl) (by kernel_rfl))
   subst e3
   refine WP.append (kd := (Kd.int .u8)) (t := 24) (e := 5) (bytes := 1) (a2 := a14) (c2 := c10) hR12 hR14.src hR14.len (by kernel_rfl) (by kernel_rfl) (by omega) (by simp only [maxLen]; omega) (by omega) ?_
   intro g15 a15 c11 st15 hR15
   refine WP.dn (Shown.o (v := .slice a15 (((l3.length + l4.length) + l6.length) + l7.length) c11) st15 ?_)
   exact ⟨tv, tv, tv, tv, tv, tv, ⟨a15, c11, rfl, hR15⟩, ⟨a12, c9, rfl⟩, tv⟩
 intro vs g16 st16 hl hf
 obtain ⟨v0, v1, v2, v3, v4, rfl⟩ := len_k5 hl
 obtain ⟨a15, c11, e4, hR15⟩ := (show ∃ (a15 : Option Addr) (c11 : Nat), v4 = .slice a15 (((l3.length + l4.length) + l6.length) + l7.length) c11 ∧ OwnS (Kd.int .u8) g16 (t + 4) 5 a15 (((l3.length + l4.length) + l6.length) + l7.length) c11 (((l3 ++ l4) ++ l6) ++ l7) from hf _ (memI 6 rfl) (by kernel_rfl))
 subst e4
 replace hR1 := hR1.mono st16 (WL.no1 (by omega))
 replace tot := tot.trans (st16.up1 (.inr (by omega)))
 refine NX.then_n ?_
 refine CP.refr 25 [(3, .slice a1 n1 c1), (9, .slice a15 (((l3.length + l4.length) + l6.length) + l7.length) c11)] (by kernel_rfl) (by kernel_rfl) ?_
 clear ds
 intro ds
 refine CP.seqR ?_
 refine WP.stl 2 ?_
 replace hs := Option.bind_eq_some_iff.1 hs
 obtain ⟨l8, hk7, hs⟩ := hs
 have hcal7 := P.baizeref01_Bytes g16 (t + 9) l1 a1 n1 c1 hR1 l8 hk7
 refine WP.callC hcal7 (by kernel_rfl) ?_
 rintro _ g17 st17 ⟨a16, n8, c12, rfl, hR16⟩
 replace hR1 := hR1.mono st17 (fun x => x)
 replace hR15 := hR15.mono st17 (fun x => x) (fun x => x)
 replace tot := tot.trans st17.pure
 by_cases hc5 : (((l3 ++ l4) ++ l6) ++ l7).length + l8.length ≤ 140737488355328
 case neg => rw [if_neg hc5] at hs; cases hs
 replace hs := of_if_p hs hc5
 refine WP.append (kd := (Kd.int .u8)) (t := 24) (e := 5) (bytes := 1) (a2 := a16) (c2 := c12) hR15 hR16.src hR16.len (by kernel_rfl) (by kernel_rfl) (by omega) (by simp only [maxLen]; omega) (by omega) ?_
 intro g18 a17 c13 st18 hR17
 replace hR1 := hR1.mono st18 (WL.no1 (by omega))
 replace hR16 := hR16.mono st18 (WL.no1 (by omega)) (WL.no1 (by omega))
 replace tot := tot.trans (st18.up1 (.inr (by omega)))
 refine WP.stl 1 ?_
 refine WP.dn ?_
 refine NX.then_n ?_
 refine CP.ret ?_
 obtain ⟨g19, hw3, st19, hnew⟩ := hR17.relab (by omega) r0
 refine NX.regw hw3 ?_
 replace tot := tot.trans (st19.up1 (.inr (by omega)))
 clear hR17
 have hR17 := hnew
 clear hnew
 replace hs := Option.some.inj hs
 obtain rfl := hs
 exact NX.fin (v := .slice a17 ((((l3.length + l4.length) + l6.length) + l7.length) + n8) c13) (Res.still (by kernel_rfl)) tot htL ⟨a17, ((((l3.length + l4.length) + l6.length) + l7.length) + n8), c13, rfl, hR17⟩
def F.baizeref32_Pays.l1 (l1 : List Int) : Nat → (List Int) → Int → Option ((List Int))
 | 0, _, _ => none
 | k + 1, l7, x1 => (if decide (x1 < (l1.length : Int)) = true then (if (0 : Int) ≤ x1 ∧ x1 < (l1.length : Int) then ((F.baizeref32_number (getI l1 x1)).bind fun l10 => (if l7.length + l10.length ≤ 140737488355328 then (F.baizeref32_Pays.l1 l1 k (l7 ++ l10) (IntKind.i64.wrap (x1 + 1))) else none)) else none) else (some l7))
def F.baizeref32_Pays (d1 : Arr Int 8) (l1 : List Int) : Option ((List Int)) := ((F.baizeref32_text str_4).bind fun l3 => ((F.baizeref01_Bytes d1.1).bind fun l4 => (if l3.length + l4.length ≤ 140737488355328 then ((F.baizeref01_Num (IntKind.u64.wrap (l1.length : Int))).bind fun l5 => (if (l3 ++ l4).length + l5.length ≤ 140737488355328 then (F.baizeref32_Pays.l1 l1 fuel ((l3 ++ l4) ++ l5) 0) else none)) else none)))
theorem P.baizeref32_Pays (g0 : GW) (r0 : Nat) (d1 : Arr Int 8) (l1 : List Int) (a1 : Option Addr) (n1 : Nat) (c1 : Nat) (hR1 : RdS (Kd.int .i64) g0 3 a1 n1 c1 l1) (o1 : List Int) (hs : F.baizeref32_Pays d1 l1 = some o1) :
  Calls Try.prog 14 #[AG [encA .u8 d1], .slice a1 n1 c1] g0.w (Ret NoM g0 fun v g => ∃ (a_1 : Option Addr) (n_1 : Nat) (c_1 : Nat), v = .slice a_1 n_1 c_1 ∧ OwnS (Kd.int .u8) g r0 5 a_1 n_1 c_1 o1) := by
 refine calls_of (args := [AG [encA .u8 d1], .slice a1 n1 c1]) Try.func14 rfl (r0 + 0) ?_
 intro t ht htL
 refine ⟨_, rfl, ?_⟩
 refine CP.refr 31 [(0, AG [encA .u8 d1]), (1, .slice a1 n1 c1)] (by kernel_rfl) (by kernel_rfl) ?_
 intro ds
 have tot : Step (fun l => NoM l ∨ t ≤ l) g0 g0 := Step.refl _ _
 unfold F.baizeref32_Pays at hs
 refine CP.seqR ?_
 refine WP.alloc (T := 22) (t + 1) [encA .u8 d1] [8] (by kernel_rfl) (by simp [len_encA]) ?_
 intro g1 b1 st1 hB1
 replace hR1 := hR1.mono st1 (fun x => x)
 replace tot := tot.trans st1.pure
 refine WP.stl 1 ?_
 refine WP.dn ?_
 refine NX.then_n ?_
 refine CP.seq ?_
 obtain ⟨g3, hw1, st3, hnew⟩ := hB1.relab 0
 refine CP.regw hw1 ?_
 replace hR1 := hR1.mono st3 (WL.no1 (by omega))
 replace tot := tot.trans (st3.up1 (.inr (by omega)))
 clear hB1
 have hB1 := hnew
 clear hnew
 replace hs := Option.bind_eq_some_iff.1 hs
 obtain ⟨l3, hk2, hs⟩ := hs
 replace hs := Option.bind_eq_some_iff.1 hs
 obtain ⟨l4, hk3, hs⟩ := hs
 by_cases hc1 : l3.length + l4.length ≤ 140737488355328
 case neg => rw [if_neg hc1] at hs; cases hs
 replace hs := of_if_p hs hc1
 refine CP.drawL (by kernel_rfl) [0, 1, 2, 3] [[], [], [0, 1], [0, 1, 2], [0, 1, 2, 3]] [⟨none, [], [], fun l g => Box g 0 b1 22 [encA .u8 d1] [8]⟩, ⟨some 0, [0], [0], fun l g => ∃ (a4 : Option Addr) (c3 : Nat), l.getD 0 undef = .slice a4 l3.length c3 ∧ OwnS (Kd.int .u8) g (t + 3) 5 a4 l3.length c3 l3⟩, ⟨some 1, [], [1], fun l g => ∃ (a5 : Option Addr), l.getD 0 undef = .slice a5 ((8 : Int).toNat - (0 : Int).toNat) (8 - (0 : Int).toNat) ∧ RdS (Kd.int .u8) g 5 a5 ((8 : Int).toNat - (0 : Int).toNat) (8 - (0 : Int).toNat) d1.1⟩, ⟨some 2, [], [2], fun l g => ∃ (a6 : Option Addr) (c4 : Nat), l.getD 0 undef = .slice a6 l4.length c4 ∧ OwnS (Kd.int .u8) g (t + 4) 5 a6 l4.length c4 l4⟩, ⟨some 3, [0], [3], fun l g => ∃ (a7 : Option Addr) (c5 : Nat), l.getD 0 undef = .slice a7 (l3.length + l4.length) c5 ∧ OwnS (Kd.int .u8) g (t + 3) 5 a7 (l3.length + l4.length) c5 (l3 ++ l4)⟩, ⟨some 3, [], [0], fun l g => ∃ (a4 : Option Addr) (c3 : Nat), l.getD 0 undef = .slice a4 l3.length c3⟩] [[], [], [], [0]] [(t + 3)] [] [4] (by kernel_rfl) (by simp <;> omega) (by simp) ⟨fun _ _ _ _ st h0 hl hj hB1 => (hB1.mono st (fun h => absurd (hl _ h) (by simp <;> omega))), fun _ _ _ _ st h0 hl hj ⟨a4, c3, e0, hR4⟩ => ⟨a4, c3, e0, (hR4.mono st h0 (hj 0 (by simp) _ rfl))⟩, fun _ _ _ _ st h0 hl hj ⟨a5, e1, hR5⟩ => ⟨a5, e1, (RdS.mono (e := 5) hR5 st h0)⟩, fun _ _ _ _ st h0 hl hj ⟨a6, c4, e2, hR6⟩ => ⟨a6, c4, e2, (hR6.mono st h0 (fun h => absurd (hl _ h) (by simp <;> omega)))⟩, fun _ _ _ _ st h0 hl hj ⟨a7, c5, e3, hR7⟩ => ⟨a7, c5, e3, (hR7.mono st h0 (hj 0 (by simp) _ rfl))⟩, fun _ _ _ _ st h0 hl hj ⟨a4, c3, e0⟩ => ⟨a4, c3, e0⟩, tv⟩ ⟨hB1, tv, tv, tv, tv, tv, tv⟩ (by kernel_rfl) (fun vs => by kernel_rfl) ?_ ?_ ?_
 ·intro j hj
  have hq : j = 0 := by have h : j < 1 := hj; omega
  rcases hq with rfl
  ·intro vs gq stq hl hf
   obtain ⟨v0, v1, v2, v3, rfl⟩ := len_k4 hl
   obtain ⟨a7, c5, e3, hR7⟩ := (show ∃ (a7 : Option Addr) (c5 : Nat), v3 = .slice a7 (l3.length + l4.length) c5 ∧ OwnS (Kd.int .u8) gq (t + 3) 5 a7 (l3.length + l4.length) c5 (l3 ++ l4) from hf _ (memI 4 rfl) (by kernel_rfl))
   subst e3
   show Option.isSome _ = true
   kernel_rfl
 ·intro j hj
  have hq : j = 0 ∨ j = 1 ∨ j = 2 ∨ j = 3 := by have h : j < 4 := hj; omega
  rcases hq with rfl | rfl | rfl | rfl
  ·intro vs gq stq hl hf
   obtain ⟨v0, v1, v2, v3, rfl⟩ := len_k4 hl
   have hcal2 := P.baizeref32_text gq (t + 3) str_4 l3 hk2
   refine WP.callC hcal2 (by kernel_rfl) ?_
   rintro _ g4 st4 ⟨a4, n3, c3, rfl, hR4⟩
   obtain rfl := hR4.len
   refine WP.dn (Shown.o (v := .slice a4 l3.length c3) st4.pure ?_)
   exact ⟨tv, ⟨a4, c3, rfl, hR4⟩, tv, tv, tv, tv, tv⟩
  ·intro vs gq stq hl hf
   obtain ⟨v0, v1, v2, v3, rfl⟩ := len_k4 hl
   have hB1 := (show Box gq 0 b1 22 [encA .u8 d1] [8] from hf _ (memI 0 rfl) (by kernel_rfl))
   refine WP.sliceZ (o := 0) (m := 8) (k := .u8) (d := d1) (e := 5) (lo := none) (hi := none) hB1 (by kernel_rfl) (0 : Int) (8 : Int) (by kernel_rfl) (.inl ⟨rfl, rfl⟩) (.inl ⟨rfl, rfl⟩) (by decide) ?_
   intro a5 hR5
   rw [sliceI_all (m := 8) (d := d1) (j := (8 : Int)) rfl] at hR5
   refine WP.dn (Shown.ok (v := .slice a5 ((8 : Int).toNat - (0 : Int).toNat) (8 - (0 : Int).toNat)) (by kernel_rfl) (Step.refl _ _) ?_)
   exact ⟨tv, tv, ⟨a5, rfl, hR5⟩, tv, tv, tv, tv⟩
  ·intro vs gq stq hl hf
   obtain ⟨v0, v1, v2, v3, rfl⟩ := len_k4 hl
   obtain ⟨a5, e1, hR5⟩ := (show ∃ (a5 : Option Addr), v1 = .slice a5 ((8 : Int).toNat - (0 : Int).toNat) (8 - (0 : Int).toNat) ∧ RdS (Kd.int .u8) gq 5 a5 ((8 : Int).toNat - (0 : Int).toNat) (8 - (0 : Int).toNat) d1.1 from hf _ (memI 2 rfl) (by kernel_rfl))
   subst e1
   have hcal3 := P.baizeref01_Bytes gq (t + 4) d1.1 a5 ((8 : Int).toNat - (0 : Int).toNat) (8 - (0 : Int).toNat) hR5 l4 hk3
   refine WP.callC hcal3 (by kernel_rfl) ?_
   rintro _ g5 st5 ⟨a6, n4, c4, rfl, hR6⟩
   obtain rfl := hR6.len
   refine WP.dn (Shown.o (v := .slice a6 l4.length c4) st5.pure ?_)
   exact ⟨tv, tv, tv, ⟨a6, c4, rfl, hR6⟩, tv, tv, tv⟩
  ·intro vs gq stq hl hf
   obtain ⟨v0, v1, v2, v3, rfl⟩ := len_k4 hl
   obtain ⟨a4, c3, e0, hR4⟩ := (show ∃ (a4 : Option Addr) (c3 : Nat), v0 = .slice a4 l3.length c3 ∧ OwnS (Kd.int .u8) gq (t + 3) 5 a4 l3.length c3 l3 from hf _ (memI 1 rfl) (by kernel_rfl))
   subst e0
   obtain ⟨a6, c4, e2, hR6⟩ := (show ∃ (a6 : Option Addr) (c4 : Nat), v2 = .slice a6 l4.length c4 ∧ OwnS (Kd.int .u8) gq (t + 4) 5 a6 l4.length c4 l4 from hf _ (memI 3 rfl) (by kernel_rfl))
   subst e2
   refine WP.append (kd := (Kd.int .u8)) (t := 24) (e := 5) (bytes := 1) (a2 := a6) (c2 := c4) hR4 hR6.src hR6.len (by kernel_rfl) (by kernel_rfl) (by omega) (by simp only [maxLen]; omega) (by omega) ?_
   intro g6 a7 c5 st6 hR7
   refine WP.dn (Shown.o (v := .slice a7 (l3.length + l4.length) c5) st6 ?_)
   exact ⟨tv, tv, tv, tv, ⟨a7, c5, rfl, hR7⟩, ⟨a4, c3, rfl⟩, tv⟩
 intro vs g7 st7 hl hf
 obtain ⟨v0, v1, v2, v3, rfl⟩ := len_k4 hl
 obtain ⟨a7, c5, e3, hR7⟩ := (show ∃ (a7 : Option Addr) (c5 : Nat), v3 = .slice a7 (l3.length + l4.length) c5 ∧ OwnS (Kd.int .u8) g7 (t + 3) 5 a7 (l3.length + l4.length) c5 (l3 ++ l4) from hf _ (memI 4 rfl) (by kernel_rfl))
 subst e3
 replace hR1 := hR1.mono st7 (WL.no1 (by omega))
 replace tot := tot.trans (st7.up1 (.inr (by omega)))
 refine NX.then_n ?_
 refine CP.refr 31 [(1, .slice a1 n1 c1), (5, .slice a7 (l3.length + l4.length) c5)] (by kernel_rfl) (by kernel_rfl) ?_
 clear ds
 intro ds
 refine CP.seqR ?_
 refine WP.stl 2 ?_
 refine WP.len (a := a1) (cp := c1) hR1.len (by kernel_rfl) ?_
 refine WP.stl 1 ?_
 replace hs := Option.bind_eq_some_iff.1 hs
 obtain ⟨l5, hk4, hs⟩ := hs
 have hcal4 := P.baizeref01_Num g7 (t + 5) (IntKind.u64.wrap (l1.length : Int)) l5 hk4
 refine WP.callC hcal4 (by kernel_rfl) ?_
 rintro _ g8 st8 ⟨a8, n5, c6, rfl, hR8⟩
 replace hR1 := hR1.mono st8 (fun x => x)
 replace hR7 := hR7.mono st8 (fun x => x) (fun x => x)
 replace tot := tot.trans st8.pure
 by_cases hc2 : (l3 ++ l4).length + l5.length ≤ 140737488355328
 case neg => rw [if_neg hc2] at hs; cases hs
 replace hs := of_if_p hs hc2
 refine WP.append (kd := (Kd.int .u8)) (t := 24) (e := 5) (bytes := 1) (a2 := a8) (c2 := c6) hR7 hR8.src hR8.len (by kernel_rfl) (by kernel_rfl) (by omega) (by simp only [maxLen]; omega) (by omega) ?_
 intro g9 a9 c7 st9 hR9
 replace hR1 := hR1.mono st9 (WL.no1 (by omega))
 replace hR8 := hR8.mono st9 (WL.no1 (by omega)) (WL.no1 (by omega))
 replace tot := tot.trans (st9.up1 (.inr (by omega)))
 refine WP.stl 1 ?_
 refine WP.dn ?_
 refine NX.then_n ?_
 refine CP.seq ?_
 refine CP.seqR ?_
 refine WP.stl 1 ?_
 refine WP.dn ?_
 refine NX.then_n ?_
 refine CP.block ?_
 generalize fuel = k1 at hs
 refine CP.loop (fun k1 tm g => ∃ (l7 : List Int) (a12 : Option Addr) (n7 : Nat) (c10 : Nat) (x1 : Int), Fr 31 [(1, .slice a1 n1 c1), (5, .slice a12 n7 c10), (6, .int .i64 x1)] tm ∧ Step (fun l => NoM l ∨ t ≤ l) g0 g ∧ RdS (Kd.int .i64) g 3 a1 n1 c1 l1 ∧ OwnS (Kd.int .u8) g (t + 3) 5 a12 n7 c10 l7 ∧ F.baizeref32_Pays.l1 l1 k1 l7 x1 = some o1) k1 ?_ ?_ ?_
 ·exact ⟨((l3 ++ l4) ++ l5), a9, ((l3.length + l4.length) + n5), c7, 0, ⟨by kernel_rfl, by kernel_rfl⟩, tot, hR1, hR9, hs⟩
 ·rintro tm g ⟨l7, a12, n7, c10, x1, hF, tot, hR1, hR12, hs⟩
  exact absurd hs (by simp [F.baizeref32_Pays.l1])
 clear tot hs hR1 hR9
 rintro k1 tm g ⟨l7, a12, n7, c10, x1, hF, tot, hR1, hR12, hs⟩
 clear ds
 obtain ⟨ds, rfl⟩ := hF.open
 clear hF
 unfold F.baizeref32_Pays.l1 at hs
 refine CP.seq ?_
 refine CP.seqR ?_
 refine WP.stl 2 ?_
 refine WP.len (a := a1) (cp := c1) hR1.len (by kernel_rfl) ?_
 refine WP.stl 1 ?_
 refine WP.dn ?_
 refine NX.then_n ?_
 refine CP.cond (b := decide (x1 < (l1.length : Int))) (by kernel_rfl) (fun h3 => ?_) (fun h3 => ?_)
 ·replace hs := of_if_t hs h3
  refine CP.skip ?_
  refine NX.then_n ?_
  refine CP.seq ?_
  refine CP.block ?_
  refine CP.region ?_
  refine WP.stl 3 ?_
  by_cases hc7 : (0 : Int) ≤ x1 ∧ x1 < (l1.length : Int)
  case neg => rw [if_neg hc7] at hs; cases hs
  replace hs := of_if_p hs hc7
  obtain ⟨b4, u3, ha3⟩ := hR1.at hc7
  refine WP.indexA (t := 27) (e := 3) (sz := 1) (cap := c1) (k := .i64) (i := x1) hR1.len ha3 (by kernel_rfl) (by kernel_rfl) hc7 ?_
  obtain ⟨cs3, hcR3, hcV3⟩ := hR1.src.view (getI_some hc7) ha3
  replace hcR3 := Kd.o_int hcR3
  refine WP.loadV [[.int .i64 (getI l1 x1)]] [1] hcV3 hcR3 rfl (f := 0) (ty := 3) (agg := false) (size := 1) (rs := [[.int .i64 (getI l1 x1)]]) (v := .int .i64 (getI l1 x1)) (by kernel_rfl) (by kernel_rfl) (by kernel_rfl) (by kernel_rfl) ?_
  replace hs := Option.bind_eq_some_iff.1 hs
  obtain ⟨l10, hk7, hs⟩ := hs
  have hcal7 := P.baizeref32_number g (t + 8) (getI l1 x1) l10 hk7
  refine WP.callC hcal7 (by kernel_rfl) ?_
  rintro _ g14 st14 ⟨a16, n10, c14, rfl, hR16⟩
  replace hR1 := hR1.mono st14 (fun x => x)
  replace hR12 := hR12.mono st14 (fun x => x) (fun x => x)
  replace tot := tot.trans st14.pure
  by_cases hc8 : l7.length + l10.length ≤ 140737488355328
  case neg => rw [if_neg hc8] at hs; cases hs
  replace hs := of_if_p hs hc8
  refine WP.append (kd := (Kd.int .u8)) (t := 24) (e := 5) (bytes := 1) (a2 := a16) (c2 := c14) hR12 hR16.src hR16.len (by kernel_rfl) (by kernel_rfl) (by omega) (by simp only [maxLen]; omega) (by omega) ?_
  intro g15 a17 c15 st15 hR17
  replace hR1 := hR1.mono st15 (WL.no1 (by omega))
  replace hR16 := hR16.mono st15 (WL.no1 (by omega)) (WL.no1 (by omega))
  replace tot := tot.trans (st15.up1 (.inr (by omega)))
  refine WP.stl 1 ?_
  refine WP.dn ?_
  refine NX.block_n ?_
  refine NX.then_n ?_
  refine CP.region ?_
  refine WP.stl 3 ?_
  refine WP.dn ?_
  refine NX.post ?_
  exact ⟨(l7 ++ l10), a17, (n7 + n10), c15, (IntKind.i64.wrap (x1 + 1)), ⟨by kernel_rfl, by kernel_rfl⟩, tot, hR1, hR17, hs⟩
 replace hs := of_if_f hs h3
 refine CP.exit ?_
 refine NX.then_e ?_
 refine NX.then_e ?_
 refine NX.block_s ?_
 refine NX.then_n ?_
 refine CP.seqR ?_
 refine WP.stl 2 ?_
 refine WP.dn ?_
 refine NX.then_n ?_
 refine CP.ret ?_
 obtain ⟨g16, hw2, st16, hnew⟩ := hR12.relab (by omega) r0
 refine NX.regw hw2 ?_
 replace tot := tot.trans (st16.up1 (.inr (by omega)))
 clear hR12
 have hR12 := hnew
 clear hnew
 replace hs := Option.some.inj hs
 obtain rfl := hs
 exact NX.fin (v := .slice a12 n7 c10) (Res.still (by kernel_rfl)) tot htL ⟨a12, n7, c10, rfl, hR12⟩
def N.baizelaw32_StateDigests_0 : List (List Nat) := [[], [0], [0, 1], [], [3], [], [5], [5, 6], [5, 6, 7], [3, 4, 5, 6, 7, 8], [0, 1, 2], [0, 1, 2, 3, 4, 5, 6, 7, 8, 9, 10]]
def F.baizelaw32_StateDigests.c1 (q2 : Bool) : Option (Bool) := (some q2)
def N.baizelaw32_StateDigests_1 : List (List Nat) := [[], [0], [0, 1], [0, 1], [0, 1], [0, 1], [0, 1, 3, 4, 5], [0, 1, 3, 4, 5, 6], [0, 1, 2, 3, 4, 5, 6, 7], [0, 1, 2, 3, 4, 5, 6, 7, 8], [0, 1, 2, 3, 4, 5, 6, 7, 8, 9], [0, 1, 2, 3, 4, 5, 6, 7, 8, 9, 10], [0, 1, 2, 3, 4, 5, 6, 7, 8, 9, 10], [0, 1, 2, 3, 4, 5, 6, 7, 8, 9, 10], [0, 1, 2, 3, 4, 5, 6, 7, 8, 9, 10], [0, 1, 2, 3, 4, 5, 6, 7, 8, 9, 10, 14], [0, 1, 2, 3, 4, 5, 6, 7, 8, 9, 10], [0, 1, 2, 3, 4, 5, 6, 7, 8, 9, 10, 12, 13, 14, 15, 16], [0, 1, 2, 3, 4, 5, 6, 7, 8, 9, 10, 12, 13, 14, 15, 16, 17], [0, 1, 2, 3, 4, 5, 6, 7, 8, 9, 10, 11, 12, 13, 14, 15, 16, 17, 18], [0, 1, 2, 3, 4, 5, 6, 7, 8, 9, 10, 11, 12, 13, 14, 15, 16, 17, 18, 19], [0, 1, 2, 3, 4, 5, 6, 7, 8, 9, 10, 11, 12, 13, 14, 15, 16, 17, 18, 19, 20], [0, 1, 2, 3, 4, 5, 6, 7, 8, 9, 10, 11, 12, 13, 14, 15, 16, 17, 18, 19, 20, 21], [0, 1, 2, 3, 4, 5, 6, 7, 8, 9, 10, 11, 12, 13, 14, 15, 16, 17, 18, 19, 20, 21], [0, 1, 2, 3, 4, 5, 6, 7, 8, 9, 10, 11, 12, 13, 14, 15, 16, 17, 18, 19, 20, 21], [0, 1, 2, 3, 4, 5, 6, 7, 8, 9, 10, 11, 12, 13, 14, 15, 16, 17, 18, 19, 20, 21, 23, 24], [0, 1, 2, 3, 4, 5, 6, 7, 8, 9, 10, 11, 12, 13, 14, 15, 16, 17, 18, 19, 20, 21, 23, 24, 25], [0, 1, 2, 3, 4, 5, 6, 7, 8, 9, 10, 11, 12, 13, 14, 15, 16, 17, 18, 19, 20, 21, 22, 23, 24, 25, 26], [0, 1, 2, 3, 4, 5, 6, 7, 8, 9, 10, 11, 12, 13, 14, 15, 16, 17, 18, 19, 20, 21, 22, 23, 24, 25, 26, 27], [0, 1, 2, 3, 4, 5, 6, 7, 8, 9, 10, 11, 12, 13, 14, 15, 16, 17, 18, 19, 20, 21, 22, 23, 24, 25, 26, 27, 28]]
def F.baizelaw32_StateDigests (d1 : Arr Int 8) (x1 : Int) (l1 : List Int) (d2 : Arr Int 8) (l2 : List Int) : Option (Bool) := ((F.baizelaw32_few l1).bind fun l3 => (if (0 : Int) ≤ 0 ∧ 0 ≤ (imin (l2.length : Int) 20) ∧ (imin (l2.length : Int) 20) ≤ (l2.length : Int) then ((F.state_State_Digest d1 x1 l3).bind fun d3 => ((F.state_Act_Digest d1 x1 d2 l3).bind fun d4 => ((F.state_Payout_Digest d1 (sliceI l2 0 (imin (l2.length : Int) 20))).bind fun d5 => ((F.baizelaw32_told).bind fun q3 => (if q3 = true then ((F.baizeref32_Bytes d1 x1 l3).bind fun l7 => ((F.baizeref32_Of l7).bind fun d9 => (if (d3.1 == d9.1) = true then ((F.baizeref32_Act d1 x1 d2 l3).bind fun l8 => ((F.baizeref32_Of l8).bind fun d10 => (if (d4.1 == d10.1) = true then ((F.baizeref32_Pays d1 (sliceI l2 0 (imin (l2.length : Int) 20))).bind fun l9 => ((F.baizeref32_Of l9).bind fun d11 => (F.baizelaw32_StateDigests.c1 (d5.1 == d11.1)))) else (F.baizelaw32_StateDigests.c1 false)))) else (F.baizelaw32_StateDigests.c1 false)))) else (F.baizelaw32_StateDigests.c1 false)))))) else none))
theorem P.baizelaw32_StateDigests (g0 : GW) (d1 : Arr Int 8) (x1 : Int) (l1 : List Int) (d2 : Arr Int 8) (l2 : List Int) (a1 : Option Addr) (n1 : Nat) (c1 : Nat) (a2 : Option Addr) (n2 : Nat) (c2 : Nat) (hR1 : RdS (Kd.int .u8) g0 5 a1 n1 c1 l1) (hR2 : RdS (Kd.int .i64) g0 3 a2 n2 c2 l2) (o1 : Bool) (hs : F.baizelaw32_StateDigests d1 x1 l1 d2 l2 = some o1) :
  Calls Try.prog 6 #[AG [encA .u8 d1], .int .i64 x1, AG [[.slice a1 n1 c1], encA .u8 d2, [.slice a2 n2 c2]]] g0.w (Ret NoM g0 fun v g => v = .bool o1) := by
 refine calls_of (args := [AG [encA .u8 d1], .int .i64 x1, AG [[.slice a1 n1 c1], encA .u8 d2, [.slice a2 n2 c2]]]) Try.func6 rfl (0) ?_
 intro t ht htL
 refine ⟨_, rfl, ?_⟩
 refine CP.refr 67 [(0, AG [encA .u8 d1]), (1, .int .i64 x1), (2, AG [[.slice a1 n1 c1], encA .u8 d2, [.slice a2 n2 c2]])] (by kernel_rfl) (by kernel_rfl) ?_
 intro ds
 have tot : Step (fun l => NoM l ∨ t ≤ l) g0 g0 := Step.refl _ _
 unfold F.baizelaw32_StateDigests at hs
 refine CP.seqR ?_
 refine WP.alloc (T := 23) (t + 1) [encA .u8 d1] [8] (by kernel_rfl) (by simp [len_encA]) ?_
 intro g1 b1 st1 hB1
 replace hR1 := hR1.mono st1 (fun x => x)
 replace hR2 := hR2.mono st1 (fun x => x)
 replace tot := tot.trans st1.pure
 refine WP.alloc (T := 54) (t + 2) [[.slice a1 n1 c1], encA .u8 d2, [.slice a2 n2 c2]] [1, 8, 1] (by kernel_rfl) (by simp [len_encA]) ?_
 intro g2 b2 st2 hB2
 replace hR1 := hR1.mono st2 (fun x => x)
 replace hR2 := hR2.mono st2 (fun x => x)
 replace hB1 := hB1.mono st2 (fun x => x)
 replace tot := tot.trans st2.pure
 refine WP.stl 1 ?_
 refine WP.dn ?_
 refine NX.then_n ?_
 refine CP.seq ?_
 replace hs := Option.bind_eq_some_iff.1 hs
 obtain ⟨l3, hk1, hs⟩ := hs
 by_cases hc1 : (0 : Int) ≤ 0 ∧ 0 ≤ (imin (l2.length : Int) 20) ∧ (imin (l2.length : Int) 20) ≤ (l2.length : Int)
 case neg => rw [if_neg hc1] at hs; cases hs
 replace hs := of_if_p hs hc1
 refine CP.drawL (by kernel_rfl) [1, 2, 4, 6, 7, 9] N.baizelaw32_StateDigests_0 [⟨none, [], [], fun l g => Box g (t + 2) b2 54 [[.slice a1 n1 c1], encA .u8 d2, [.slice a2 n2 c2]] [1, 8, 1]⟩, ⟨none, [], [], fun l g => RdS (Kd.int .u8) g 5 a1 n1 c1 l1⟩, ⟨none, [], [], fun l g => RdS (Kd.int .i64) g 3 a2 n2 c2 l2⟩, ⟨some 0, [], [0], fun l g => l.getD 0 undef = .slice a1 n1 c1⟩, ⟨some 1, [], [1], fun l g => ∃ (a3 : Option Addr) (c3 : Nat), l.getD 0 undef = .slice a3 l3.length c3 ∧ RdS (Kd.int .u8) g 5 a3 l3.length c3 l3⟩, ⟨some 2, [], [2], fun l g => l.getD 0 undef = .slice a2 n2 c2⟩, ⟨some 3, [], [3], fun l g => l.getD 0 undef = .slice a2 n2 c2⟩, ⟨some 4, [], [4], fun l g => l.getD 0 undef = .int .i64 (l2.length : Int)⟩, ⟨some 5, [], [5], fun l g => ∃ (a4 : Option Addr) (c4 : Nat), l.getD 0 undef = .slice a4 ((imin (l2.length : Int) 20).toNat - (0 : Int).toNat) c4 ∧ RdS (Kd.int .i64) g 3 a4 ((imin (l2.length : Int) 20).toNat - (0 : Int).toNat) c4 (sliceI l2 0 (imin (l2.length : Int) 20))⟩] [[], [], [], [], [], []] [] [0, 3, 5] [8, 10, 11] (by kernel_rfl) (by simp) (by simp) ⟨fun _ _ _ _ st h0 hl hj hB2 => (hB2.mono st (fun h => absurd (hl _ h) (by simp))), fun _ _ _ _ st h0 hl hj hR1 => (RdS.mono (e := 5) hR1 st h0), fun _ _ _ _ st h0 hl hj hR2 => (RdS.mono (e := 3) hR2 st h0), fun _ _ _ _ st h0 hl hj e0 => e0, fun _ _ _ _ st h0 hl hj ⟨a3, c3, e1, hR3⟩ => ⟨a3, c3, e1, (RdS.mono (e := 5) hR3 st h0)⟩, fun _ _ _ _ st h0 hl hj e2 => e2, fun _ _ _ _ st h0 hl hj e3 => e3, fun _ _ _ _ st h0 hl hj e4 => e4, fun _ _ _ _ st h0 hl hj ⟨a4, c4, e5, hR4⟩ => ⟨a4, c4, e5, (RdS.mono (e := 3) hR4 st h0)⟩, tv⟩ ⟨hB2, hR1, hR2, tv, tv, tv, tv, tv, tv, tv⟩ (by kernel_rfl) (fun vs => by kernel_rfl) ?_ ?_ ?_
 ·intro j hj
  have hq : j = 0 ∨ j = 1 ∨ j = 2 := by have h : j < 3 := hj; omega
  rcases hq with rfl | rfl | rfl
  ·intro vs gq stq hl hf
   obtain ⟨v0, v1, v2, v3, v4, v5, rfl⟩ := len_k6 hl
   have e4 := (show v4 = .int .i64 (l2.length : Int) from hf _ (memI 7 rfl) (by kernel_rfl))
   subst e4
   show Option.isSome _ = true
   kernel_rfl
  ·intro vs gq stq hl hf
   obtain ⟨v0, v1, v2, v3, v4, v5, rfl⟩ := len_k6 hl
   obtain ⟨a3, c3, e1, hR3⟩ := (show ∃ (a3 : Option Addr) (c3 : Nat), v1 = .slice a3 l3.length c3 ∧ RdS (Kd.int .u8) gq 5 a3 l3.length c3 l3 from hf _ (memI 4 rfl) (by kernel_rfl))
   subst e1
   show Option.isSome _ = true
   kernel_rfl
  ·intro vs gq stq hl hf
   obtain ⟨v0, v1, v2, v3, v4, v5, rfl⟩ := len_k6 hl
   obtain ⟨a4, c4, e5, hR4⟩ := (show ∃ (a4 : Option Addr) (c4 : Nat), v5 = .slice a4 ((imin (l2.length : Int) 20).toNat - (0 : Int).toNat) c4 ∧ RdS (Kd.int .i64) gq 3 a4 ((imin (l2.length : Int) 20).toNat - (0 : Int).toNat) c4 (sliceI l2 0 (imin (l2.length : Int) 20)) from hf _ (memI 8 rfl) (by kernel_rfl))
   subst e5
   show Option.isSome _ = true
   kernel_rfl
 ·intro j hj
  have hq : j = 0 ∨ j = 1 ∨ j = 2 ∨ j = 3 ∨ j = 4 ∨ j = 5 := by have h : j < 6 := hj; omega
  rcases hq with rfl | rfl | rfl | rfl | rfl | rfl
  ·intro vs gq stq hl hf
   obtain ⟨v0, v1, v2, v3, v4, v5, rfl⟩ := len_k6 hl
   have hB2 := (show Box gq (t + 2) b2 54 [[.slice a1 n1 c1], encA .u8 d2, [.slice a2 n2 c2]] [1, 8, 1] from hf _ (memI 0 rfl) (by kernel_rfl))
   refine WP.loadB (v := .slice a1 n1 c1) hB2 (by kernel_rfl) (by kernel_rfl) ?_
   refine WP.dn (Shown.ok (v := .slice a1 n1 c1) (by kernel_rfl) (Step.refl _ _) ?_)
   exact ⟨tv, tv, tv, rfl, tv, tv, tv, tv, tv, tv⟩
  ·intro vs gq stq hl hf
   obtain ⟨v0, v1, v2, v3, v4, v5, rfl⟩ := len_k6 hl
   have hR1 := (show RdS (Kd.int .u8) gq 5 a1 n1 c1 l1 from hf _ (memI 1 rfl) (by kernel_rfl))
   have e0 := (show v0 = .slice a1 n1 c1 from hf _ (memI 3 rfl) (by kernel_rfl))
   subst e0
   have hcal1 := P.baizelaw32_few gq l1 a1 n1 c1 hR1 l3 hk1
   refine WP.callC hcal1 (by kernel_rfl) ?_
   rintro _ g3 st3 ⟨a3, n3, c3, rfl, hR3⟩
   obtain rfl := hR3.len
   refine WP.dn (Shown.o (v := .slice a3 l3.length c3) st3.pure ?_)
   exact ⟨tv, tv, tv, tv, ⟨a3, c3, rfl, hR3⟩, tv, tv, tv, tv, tv⟩
  ·intro vs gq stq hl hf
   obtain ⟨v0, v1, v2, v3, v4, v5, rfl⟩ := len_k6 hl
   have hB2 := (show Box gq (t + 2) b2 54 [[.slice a1 n1 c1], encA .u8 d2, [.slice a2 n2 c2]] [1, 8, 1] from hf _ (memI 0 rfl) (by kernel_rfl))
   refine WP.loadB (v := .slice a2 n2 c2) hB2 (by kernel_rfl) (by kernel_rfl) ?_
   refine WP.dn (Shown.ok (v := .slice a2 n2 c2) (by kernel_rfl) (Step.refl _ _) ?_)
   exact ⟨tv, tv, tv, tv, tv, rfl, tv, tv, tv, tv⟩
  ·intro vs gq stq hl hf
   obtain ⟨v0, v1, v2, v3, v4, v5, rfl⟩ := len_k6 hl
   have hB2 := (show Box gq (t + 2) b2 54 [[.slice a1 n1 c1], encA .u8 d2, [.slice a2 n2 c2]] [1, 8, 1] from hf _ (memI 0 rfl) (by kernel_rfl))
   refine WP.loadB (v := .slice a2 n2 c2) hB2 (by kernel_rfl) (by kernel_rfl) ?_
   refine WP.dn (Shown.ok (v := .slice a2 n2 c2) (by kernel_rfl) (Step.refl _ _) ?_)
   exact ⟨tv, tv, tv, tv, tv, tv, rfl, tv, tv, tv⟩
  ·intro vs gq stq hl hf
   obtain ⟨v0, v1, v2, v3, v4, v5, rfl⟩ := len_k6 hl
   have hR2 := (show RdS (Kd.int .i64) gq 3 a2 n2 c2 l2 from hf _ (memI 2 rfl) (by kernel_rfl))
   have e3 := (show v3 = .slice a2 n2 c2 from hf _ (memI 6 rfl) (by kernel_rfl))
   subst e3
   refine WP.len (a := a2) (cp := c2) hR2.len (by kernel_rfl) ?_
   refine WP.dn (Shown.ok (v := .int .i64 (l2.length : Int)) (by kernel_rfl) (Step.refl _ _) ?_)
   exact ⟨tv, tv, tv, tv, tv, tv, tv, rfl, tv, tv⟩
  ·intro vs gq stq hl hf
   obtain ⟨v0, v1, v2, v3, v4, v5, rfl⟩ := len_k6 hl
   have hR2 := (show RdS (Kd.int .i64) gq 3 a2 n2 c2 l2 from hf _ (memI 2 rfl) (by kernel_rfl))
   have e2 := (show v2 = .slice a2 n2 c2 from hf _ (memI 5 rfl) (by kernel_rfl))
   subst e2
   have e4 := (show v4 = .int .i64 (l2.length : Int) from hf _ (memI 7 rfl) (by kernel_rfl))
   subst e4
   refine WP.sliceR (lo := none) (hi := some (.int .i64 (imin (l2.length : Int) 20))) hR2 0 (imin (l2.length : Int) 20) (by kernel_rfl) (.inl ⟨rfl, rfl⟩) (.inr ⟨_, rfl⟩) hc1 ?_
   intro a4 c4 hR4
   refine WP.dn (Shown.ok (v := .slice a4 ((imin (l2.length : Int) 20).toNat - (0 : Int).toNat) c4) (by kernel_rfl) (Step.refl _ _) ?_)
   exact ⟨tv, tv, tv, tv, tv, tv, tv, tv, ⟨a4, c4, rfl, hR4⟩, tv⟩
 intro vs g4 st4 hl hf
 obtain ⟨v0, v1, v2, v3, v4, v5, rfl⟩ := len_k6 hl
 obtain ⟨a3, c3, e1, hR3⟩ := (show ∃ (a3 : Option Addr) (c3 : Nat), v1 = .slice a3 l3.length c3 ∧ RdS (Kd.int .u8) g4 5 a3 l3.length c3 l3 from hf _ (memI 4 rfl) (by kernel_rfl))
 subst e1
 obtain ⟨a4, c4, e5, hR4⟩ := (show ∃ (a4 : Option Addr) (c4 : Nat), v5 = .slice a4 ((imin (l2.length : Int) 20).toNat - (0 : Int).toNat) c4 ∧ RdS (Kd.int .i64) g4 3 a4 ((imin (l2.length : Int) 20).toNat - (0 : Int).toNat) c4 (sliceI l2 0 (imin (l2.length : Int) 20)) from hf _ (memI 8 rfl) (by kernel_rfl))
 subst e5
 replace hB1 := hB1.mono st4.toNo (fun x => x)
 replace hB2 := hB2.mono st4.toNo (fun x => x)
 replace hR1 := hR1.mono st4.toNo (fun x => x)
 replace hR2 := hR2.mono st4.toNo (fun x => x)
 replace tot := tot.trans st4.toNo.pure
 refine NX.then_n ?_
 refine CP.refr 67 [(1, .int .i64 x1), (3, .pointer (some ⟨b1, 0, none⟩)), (5, .pointer (some ⟨b2, 0, none⟩)), (7, .slice a3 l3.length c3), (8, .slice a4 ((imin (l2.length : Int) 20).toNat - (0 : Int).toNat) c4)] (by kernel_rfl) (by kernel_rfl) ?_
 clear ds
 intro ds
 refine CP.seqR ?_
 refine WP.loadB (v := AG [encA .u8 d1]) hB1 (by kernel_rfl) (by kernel_rfl) ?_
 refine WP.stl 2 ?_
 refine WP.buildS (places := #[(0, 8), (8, 1), (9, 1)]) (t := 26) [encA .u8 (zA 8), [.int .i64 0], [.slice none 0 0]] [8, 1, 1] (by kernel_rfl) (by kernel_rfl) (by simp [len_encA]) (by kernel_rfl) ((.cons (i := 0) (off := 0) (v := AG [encA .u8 d1]) (mid := [encA .u8 d1, [.int .i64 0], [.slice none 0 0]]) [encA .u8 d1] [8] (by kernel_rfl) (by kernel_rfl) (by simp [len_encA]) (by kernel_rfl) (.cons (i := 1) (off := 8) (v := .int .i64 x1) (mid := [encA .u8 d1, [.int .i64 x1], [.slice none 0 0]]) [[.int .i64 x1]] [1] (by kernel_rfl) (by kernel_rfl) rfl (by kernel_rfl) (.cons (i := 2) (off := 9) (v := .slice a3 l3.length c3) (mid := [encA .u8 d1, [.int .i64 x1], [.slice a3 l3.length c3]]) [[.slice a3 l3.length c3]] [1] (by kernel_rfl) (by kernel_rfl) rfl (by kernel_rfl) .nil)))) ?_
 replace hs := Option.bind_eq_some_iff.1 hs
 obtain ⟨d3, hk2, hs⟩ := hs
 have hcal2 := P.state_State_Digest g4 d1 x1 l3 a3 l3.length c3 hR3 d3 hk2
 refine WP.callC hcal2 (by kernel_rfl) ?_
 rintro _ g5 st5 rfl
 replace hB1 := hB1.mono st5 (fun x => x)
 replace hB2 := hB2.mono st5 (fun x => x)
 replace hR1 := hR1.mono st5 (fun x => x)
 replace hR2 := hR2.mono st5 (fun x => x)
 replace hR3 := hR3.mono st5 (fun x => x)
 replace hR4 := hR4.mono st5 (fun x => x)
 replace tot := tot.trans st5.pure
 refine WP.alloc (T := 23) (t + 3) [encA .u8 (zA 8)] [8] (by kernel_rfl) (by simp [len_encA]) ?_
 intro g6 b3 st6 hB3
 replace hB1 := hB1.mono st6 (fun x => x)
 replace hB2 := hB2.mono st6 (fun x => x)
 replace hR1 := hR1.mono st6 (fun x => x)
 replace hR2 := hR2.mono st6 (fun x => x)
 replace hR3 := hR3.mono st6 (fun x => x)
 replace hR4 := hR4.mono st6 (fun x => x)
 replace tot := tot.trans st6.pure
 refine WP.storeB (ty := 23) (off := 0) (v := AG [encA .u8 d3]) hB3 [encA .u8 d3] [8] (by kernel_rfl) (by kernel_rfl) (by simp [len_encA]) (by kernel_rfl) [encA .u8 d3] (by kernel_rfl) (.arr .nil) ?_
 intro g7 st7 hB4
 replace hB1 := hB1.mono st7 (WL.no1 (by omega))
 replace hB2 := hB2.mono st7 (WL.no1 (by omega))
 replace hR1 := hR1.mono st7 (WL.no1 (by omega))
 replace hR2 := hR2.mono st7 (WL.no1 (by omega))
 replace hR3 := hR3.mono st7 (WL.no1 (by omega))
 replace hR4 := hR4.mono st7 (WL.no1 (by omega))
 replace tot := tot.trans (st7.up1 (.inr (by omega)))
 clear hB3
 have hB3 := hB4
 clear hB4
 refine WP.dn ?_
 refine NX.then_n ?_
 refine CP.seqR ?_
 refine WP.loadB (v := AG [encA .u8 d1]) hB1 (by kernel_rfl) (by kernel_rfl) ?_
 refine WP.stl 2 ?_
 refine WP.loadB (v := AG [encA .u8 d2]) hB2 (by kernel_rfl) (by kernel_rfl) ?_
 refine WP.stl 1 ?_
 refine WP.buildS (places := #[(0, 8), (8, 1), (9, 8), (17, 1)]) (t := 56) [encA .u8 (zA 8), [.int .i64 0], encA .u8 (zA 8), [.slice none 0 0]] [8, 1, 8, 1] (by kernel_rfl) (by kernel_rfl) (by simp [len_encA]) (by kernel_rfl) ((.cons (i := 0) (off := 0) (v := AG [encA .u8 d1]) (mid := [encA .u8 d1, [.int .i64 0], encA .u8 (zA 8), [.slice none 0 0]]) [encA .u8 d1] [8] (by kernel_rfl) (by kernel_rfl) (by simp [len_encA]) (by kernel_rfl) (.cons (i := 1) (off := 8) (v := .int .i64 x1) (mid := [encA .u8 d1, [.int .i64 x1], encA .u8 (zA 8), [.slice none 0 0]]) [[.int .i64 x1]] [1] (by kernel_rfl) (by kernel_rfl) rfl (by kernel_rfl) (.cons (i := 2) (off := 9) (v := AG [encA .u8 d2]) (mid := [encA .u8 d1, [.int .i64 x1], encA .u8 d2, [.slice none 0 0]]) [encA .u8 d2] [8] (by kernel_rfl) (by kernel_rfl) (by simp [len_encA]) (by kernel_rfl) (.cons (i := 3) (off := 17) (v := .slice a3 l3.length c3) (mid := [encA .u8 d1, [.int .i64 x1], encA .u8 d2, [.slice a3 l3.length c3]]) [[.slice a3 l3.length c3]] [1] (by kernel_rfl) (by kernel_rfl) rfl (by kernel_rfl) .nil))))) ?_
 replace hs := Option.bind_eq_some_iff.1 hs
 obtain ⟨d4, hk3, hs⟩ := hs
 have hcal3 := P.state_Act_Digest g7 d1 x1 d2 l3 a3 l3.length c3 hR3 d4 hk3
 refine WP.callC hcal3 (by kernel_rfl) ?_
 rintro _ g8 st8 rfl
 replace hB1 := hB1.mono st8 (fun x => x)
 replace hB2 := hB2.mono st8 (fun x => x)
 replace hR1 := hR1.mono st8 (fun x => x)
 replace hR2 := hR2.mono st8 (fun x => x)
 replace hR3 := hR3.mono st8 (fun x => x)
 replace hR4 := hR4.mono st8 (fun x => x)
 replace hB3 := hB3.mono st8 (fun x => x)
 replace tot := tot.trans st8.pure
 refine WP.alloc (T := 23) (t + 4) [encA .u8 (zA 8)] [8] (by kernel_rfl) (by simp [len_encA]) ?_
 intro g9 b4 st9 hB5
 replace hB1 := hB1.mono st9 (fun x => x)
 replace hB2 := hB2.mono st9 (fun x => x)
 replace hR1 := hR1.mono st9 (fun x => x)
 replace hR2 := hR2.mono st9 (fun x => x)
 replace hR3 := hR3.mono st9 (fun x => x)
 replace hR4 := hR4.mono st9 (fun x => x)
 replace hB3 := hB3.mono st9 (fun x => x)
 replace tot := tot.trans st9.pure
 refine WP.storeB (ty := 23) (off := 0) (v := AG [encA .u8 d4]) hB5 [encA .u8 d4] [8] (by kernel_rfl) (by kernel_rfl) (by simp [len_encA]) (by kernel_rfl) [encA .u8 d4] (by kernel_rfl) (.arr .nil) ?_
 intro g10 st10 hB6
 replace hB1 := hB1.mono st10 (WL.no1 (by omega))
 replace hB2 := hB2.mono st10 (WL.no1 (by omega))
 replace hR1 := hR1.mono st10 (WL.no1 (by omega))
 replace hR2 := hR2.mono st10 (WL.no1 (by omega))
 replace hR3 := hR3.mono st10 (WL.no1 (by omega))
 replace hR4 := hR4.mono st10 (WL.no1 (by omega))
 replace hB3 := hB3.mono st10 (WL.no1 (by omega))
 replace tot := tot.trans (st10.up1 (.inr (by omega)))
 clear hB5
 have hB5 := hB6
 clear hB6
 refine WP.dn ?_
 refine NX.then_n ?_
 refine CP.refr 67 [(1, .int .i64 x1), (3, .pointer (some ⟨b1, 0, none⟩)), (5, .pointer (some ⟨b2, 0, none⟩)), (7, .slice a3 l3.length c3), (8, .slice a4 ((imin (l2.length : Int) 20).toNat - (0 : Int).toNat) c4), (9, .pointer (some ⟨b3, 0, none⟩)), (10, .pointer (some ⟨b4, 0, none⟩))] (by kernel_rfl) (by kernel_rfl) ?_
 clear ds
 intro ds
 refine CP.seqR ?_
 refine WP.loadB (v := AG [encA .u8 d1]) hB1 (by kernel_rfl) (by kernel_rfl) ?_
 refine WP.stl 1 ?_
 refine WP.buildS (places := #[(0, 8), (8, 1)]) (t := 58) [encA .u8 (zA 8), [.slice none 0 0]] [8, 1] (by kernel_rfl) (by kernel_rfl) (by simp [len_encA]) (by kernel_rfl) ((.cons (i := 0) (off := 0) (v := AG [encA .u8 d1]) (mid := [encA .u8 d1, [.slice none 0 0]]) [encA .u8 d1] [8] (by kernel_rfl) (by kernel_rfl) (by simp [len_encA]) (by kernel_rfl) (.cons (i := 1) (off := 8) (v := .slice a4 ((imin (l2.length : Int) 20).toNat - (0 : Int).toNat) c4) (mid := [encA .u8 d1, [.slice a4 ((imin (l2.length : Int) 20).toNat - (0 : Int).toNat) c4]]) [[.slice a4 ((imin (l2.length : Int) 20).toNat - (0 : Int).toNat) c4]] [1] (by kernel_rfl) (by kernel_rfl) rfl (by kernel_rfl) .nil))) ?_
 replace hs := Option.bind_eq_some_iff.1 hs
 obtain ⟨d5, hk4, hs⟩ := hs
 have hcal4 := P.state_Payout_Digest g10 d1 (sliceI l2 0 (imin (l2.length : Int) 20)) a4 ((imin (l2.length : Int) 20).toNat - (0 : Int).toNat) c4 hR4 d5 hk4
 refine WP.callC hcal4 (by kernel_rfl) ?_
 rintro _ g11 st11 rfl
 replace hB1 := hB1.mono st11 (fun x => x)
 replace hB2 := hB2.mono st11 (fun x => x)
 replace hR1 := hR1.mono st11 (fun x => x)
 replace hR2 := hR2.mono st11 (fun x => x)
 replace hR3 := hR3.mono st11 (fun x => x)
 replace hR4 := hR4.mono st11 (fun x => x)
 replace hB3 := hB3.mono st11 (fun x => x)
 replace hB5 := hB5.mono st11 (fun x => x)
 replace tot := tot.trans st11.pure
 refine WP.alloc (T := 23) (t + 5) [encA .u8 (zA 8)] [8] (by kernel_rfl) (by simp [len_encA]) ?_
 intro g12 b5 st12 hB7
 replace hB1 := hB1.mono st12 (fun x => x)
 replace hB2 := hB2.mono st12 (fun x => x)
 replace hR1 := hR1.mono st12 (fun x => x)
 replace hR2 := hR2.mono st12 (fun x => x)
 replace hR3 := hR3.mono st12 (fun x => x)
 replace hR4 := hR4.mono st12 (fun x => x)
 replace hB3 := hB3.mono st12 (fun x => x)
 replace hB5 := hB5.mono st12 (fun x => x)
 replace tot := tot.trans st12.pure
 refine WP.storeB (ty := 23) (off := 0) (v := AG [encA .u8 d5]) hB7 [encA .u8 d5] [8] (by kernel_rfl) (by kernel_rfl) (by simp [len_encA]) (by kernel_rfl) [encA .u8 d5] (by kernel_rfl) (.arr .nil) ?_
 intro g13 st13 hB8
 replace hB1 := hB1.mono st13 (WL.no1 (by omega))
 replace hB2 := hB2.mono st13 (WL.no1 (by omega))
 replace hR1 := hR1.mono st13 (WL.no1 (by omega))
 replace hR2 := hR2.mono st13 (WL.no1 (by omega))
 replace hR3 := hR3.mono st13 (WL.no1 (by omega))
 replace hR4 := hR4.mono st13 (WL.no1 (by omega))
 replace hB3 := hB3.mono st13 (WL.no1 (by omega))
 replace hB5 := hB5.mono st13 (WL.no1 (by omega))
 replace tot := tot.trans (st13.up1 (.inr (by omega)))
 clear hB7
 have hB7 := hB8
 clear hB8
 refine WP.dn ?_
 refine NX.then_n ?_
 refine CP.cut (fun tm g => ∃ (q2 : Bool), Fr 67 [(6, .bool q2)] tm ∧ Step (fun l => NoM l ∨ t ≤ l) g0 g ∧ (F.baizelaw32_StateDigests.c1 q2) = some o1) ?_ ?_
 ·replace hs := Option.bind_eq_some_iff.1 hs
  obtain ⟨q3, hk12, hs⟩ := hs
  refine bool_split (b := q3) (fun h4 => ?_) (fun h4 => ?_)
  ·replace hs := of_if_t hs h4
   replace hs := Option.bind_eq_some_iff.1 hs
   obtain ⟨l7, hk13, hs⟩ := hs
   replace hs := Option.bind_eq_some_iff.1 hs
   obtain ⟨d9, hk14, hs⟩ := hs
   refine bool_split (b := (d3.1 == d9.1)) (fun h5 => ?_) (fun h5 => ?_)
   ·replace hs := of_if_t hs h5
    replace hs := Option.bind_eq_some_iff.1 hs
    obtain ⟨l8, hk15, hs⟩ := hs
    replace hs := Option.bind_eq_some_iff.1 hs
    obtain ⟨d10, hk16, hs⟩ := hs
    refine bool_split (b := (d4.1 == d10.1)) (fun h6 => ?_) (fun h6 => ?_)
    ·replace hs := of_if_t hs h6
     replace hs := Option.bind_eq_some_iff.1 hs
     obtain ⟨l9, hk17, hs⟩ := hs
     replace hs := Option.bind_eq_some_iff.1 hs
     obtain ⟨d11, hk18, hs⟩ := hs
     refine CP.drawL (by kernel_rfl) [0, 1, 2, 3, 6, 7, 8, 10, 11, 12, 15, 17, 18, 19, 21, 22, 23, 25, 26, 27] N.baizelaw32_StateDigests_1 [⟨none, [], [], fun l g => Box g (t + 1) b1 23 [encA .u8 d1] [8]⟩, ⟨none, [], [], fun l g => Box g (t + 2) b2 54 [[.slice a1 n1 c1], encA .u8 d2, [.slice a2 n2 c2]] [1, 8, 1]⟩, ⟨none, [], [], fun l g => RdS (Kd.int .u8) g 5 a3 l3.length c3 l3⟩, ⟨none, [], [], fun l g => RdS (Kd.int .i64) g 3 a4 ((imin (l2.length : Int) 20).toNat - (0 : Int).toNat) c4 (sliceI l2 0 (imin (l2.length : Int) 20))⟩, ⟨none, [], [], fun l g => Box g (t + 3) b3 23 [encA .u8 d3] [8]⟩, ⟨none, [], [], fun l g => Box g (t + 4) b4 23 [encA .u8 d4] [8]⟩, ⟨none, [], [], fun l g => Box g (t + 5) b5 23 [encA .u8 d5] [8]⟩, ⟨some 0, [], [0], fun l g => l.getD 0 undef = .bool q3⟩, ⟨some 1, [], [1], fun l g => l.getD 0 undef = .bool true⟩, ⟨some 2, [], [2], fun l g => l.getD 0 undef = AG [encA .u8 d3]⟩, ⟨some 3, [], [3], fun l g => l.getD 0 undef = AG [encA .u8 d1]⟩, ⟨some 4, [0], [4], fun l g => ∃ (a8 : Option Addr) (c8 : Nat), l.getD 0 undef = .slice a8 l7.length c8 ∧ OwnS (Kd.int .u8) g (t + 9) 5 a8 l7.length c8 l7⟩, ⟨some 5, [], [5], fun l g => l.getD 0 undef = AG [encA .u8 d9]⟩, ⟨some 5, [0], [4], fun l g => ∃ (a8 : Option Addr) (c8 : Nat), l.getD 0 undef = .slice a8 l7.length c8 ∧ OwnS (Kd.int .u8) g (t + 9) 5 a8 l7.length c8 l7⟩, ⟨some 6, [], [6], fun l g => l.getD 0 undef = .bool (d3.1 == d9.1)⟩, ⟨some 7, [], [7], fun l g => l.getD 0 undef = .bool true⟩, ⟨some 8, [], [8], fun l g => l.getD 0 undef = AG [encA .u8 d4]⟩, ⟨some 9, [], [9], fun l g => l.getD 0 undef = AG [encA .u8 d1]⟩, ⟨some 10, [], [10], fun l g => l.getD 0 undef = AG [encA .u8 d2]⟩, ⟨some 11, [1], [11], fun l g => ∃ (a9 : Option Addr) (c9 : Nat), l.getD 0 undef = .slice a9 l8.length c9 ∧ OwnS (Kd.int .u8) g (t + 10) 5 a9 l8.length c9 l8⟩, ⟨some 12, [], [12], fun l g => l.getD 0 undef = AG [encA .u8 d10]⟩, ⟨some 12, [1], [11], fun l g => ∃ (a9 : Option Addr) (c9 : Nat), l.getD 0 undef = .slice a9 l8.length c9 ∧ OwnS (Kd.int .u8) g (t + 10) 5 a9 l8.length c9 l8⟩, ⟨some 13, [], [13], fun l g => l.getD 0 undef = .bool (d4.1 == d10.1)⟩, ⟨some 14, [], [14], fun l g => l.getD 0 undef = .bool true⟩, ⟨some 15, [], [15], fun l g => l.getD 0 undef = AG [encA .u8 d5]⟩, ⟨some 16, [], [16], fun l g => l.getD 0 undef = AG [encA .u8 d1]⟩, ⟨some 17, [2], [17], fun l g => ∃ (a10 : Option Addr) (c10 : Nat), l.getD 0 undef = .slice a10 l9.length c10 ∧ OwnS (Kd.int .u8) g (t + 11) 5 a10 l9.length c10 l9⟩, ⟨some 18, [], [18], fun l g => l.getD 0 undef = AG [encA .u8 d11]⟩, ⟨some 18, [2], [17], fun l g => ∃ (a10 : Option Addr) (c10 : Nat), l.getD 0 undef = .slice a10 l9.length c10 ∧ OwnS (Kd.int .u8) g (t + 11) 5 a10 l9.length c10 l9⟩, ⟨some 19, [], [19], fun l g => l.getD 0 undef = .bool (d5.1 == d11.1)⟩] [[], [], [], [], [], [0], [], [], [], [], [], [], [1], [], [], [], [], [], [2], []] [(t + 9), (t + 10), (t + 11)] [] [4, 5, 9, 13, 14, 16, 20, 24, 28, 29] (by kernel_rfl) (by simp <;> omega) (by simp <;> omega) ⟨fun _ _ _ _ st h0 hl hj hB1 => (hB1.mono st (fun h => absurd (hl _ h) (by simp <;> omega))), fun _ _ _ _ st h0 hl hj hB2 => (hB2.mono st (fun h => absurd (hl _ h) (by simp <;> omega))), fun _ _ _ _ st h0 hl hj hR3 => (RdS.mono (e := 5) hR3 st h0), fun _ _ _ _ st h0 hl hj hR4 => (RdS.mono (e := 3) hR4 st h0), fun _ _ _ _ st h0 hl hj hB3 => (hB3.mono st (fun h => absurd (hl _ h) (by simp <;> omega))), fun _ _ _ _ st h0 hl hj hB5 => (hB5.mono st (fun h => absurd (hl _ h) (by simp <;> omega))), fun _ _ _ _ st h0 hl hj hB7 => (hB7.mono st (fun h => absurd (hl _ h) (by simp <;> omega))), fun _ _ _ _ st h0 hl hj e0 => e0, fun _ _ _ _ st h0 hl hj e1 => e1, fun _ _ _ _ st h0 hl hj e2 => e2, fun _ _ _ _ st h0 hl hj e3 => e3, fun _ _ _ _ st h0 hl hj ⟨a8, c8, e4, hR8⟩ => ⟨a8, c8, e4, (hR8.mono st h0 (hj 0 (by simp) _ rfl))⟩, fun _ _ _ _ st h0 hl hj e5 => e5, fun _ _ _ _ st h0 hl hj ⟨a8, c8, e4, hR8⟩ => ⟨a8, c8, e4, (hR8.mono st h0 (hj 0 (by simp) _ rfl))⟩, fun _ _ _ _ st h0 hl hj e6 => e6, fun _ _ _ _ st h0 hl hj e7 => e7, fun _ _ _ _ st h0 hl hj e8 => e8, fun _ _ _ _ st h0 hl hj e9 => e9, fun _ _ _ _ st h0 hl hj e10 => e10, fun _ _ _ _ st h0 hl hj ⟨a9, c9, e11, hR9⟩ => ⟨a9, c9, e11, (hR9.mono st h0 (hj 1 (by simp) _ rfl))⟩, fun _ _ _ _ st h0 hl hj e12 => e12, fun _ _ _ _ st h0 hl hj ⟨a9, c9, e11, hR9⟩ => ⟨a9, c9, e11, (hR9.mono st h0 (hj 1 (by simp) _ rfl))⟩, fun _ _ _ _ st h0 hl hj e13 => e13, fun _ _ _ _ st h0 hl hj e14 => e14, fun _ _ _ _ st h0 hl hj e15 => e15, fun _ _ _ _ st h0 hl hj e16 => e16, fun _ _ _ _ st h0 hl hj ⟨a10, c10, e17, hR10⟩ => ⟨a10, c10, e17, (hR10.mono st h0 (hj 2 (by simp) _ rfl))⟩, fun _ _ _ _ st h0 hl hj e18 => e18, fun _ _ _ _ st h0 hl hj ⟨a10, c10, e17, hR10⟩ => ⟨a10, c10, e17, (hR10.mono st h0 (hj 2 (by simp) _ rfl))⟩, fun _ _ _ _ st h0 hl hj e19 => e19, tv⟩ ⟨hB1, hB2, hR3, hR4, hB3, hB5, hB7, tv, tv, tv, tv, tv, tv, tv, tv, tv, tv, tv, tv, tv, tv, tv, tv, tv, tv, tv, tv, tv, tv, tv, tv⟩ (by kernel_rfl) (fun vs => by kernel_rfl) ?_ ?_ ?_
     ·intro j hj
      have hq : j = 0 ∨ j = 1 ∨ j = 2 ∨ j = 3 ∨ j = 4 ∨ j = 5 ∨ j = 6 ∨ j = 7 ∨ j = 8 ∨ j = 9 := by have h : j < 10 := hj; omega
      rcases hq with rfl | rfl | rfl | rfl | rfl | rfl | rfl | rfl | rfl | rfl
      ·intro vs gq stq hl hf
       obtain ⟨v0, v1, v2, v3, v4, v5, v6, v7, v8, v9, v10, v11, v12, v13, v14, v15, v16, v17, v18, v19, rfl⟩ := len_k20 hl
       have e1 := (show v1 = .bool true from hf _ (memI 8 rfl) (by kernel_rfl))
       subst e1
       show Option.isSome _ = true
       kernel_rfl
      ·intro vs gq stq hl hf
       obtain ⟨v0, v1, v2, v3, v4, v5, v6, v7, v8, v9, v10, v11, v12, v13, v14, v15, v16, v17, v18, v19, rfl⟩ := len_k20 hl
       have e1 := (show v1 = .bool true from hf _ (memI 8 rfl) (by kernel_rfl))
       subst e1
       show Option.isSome _ = true
       kernel_rfl
      ·intro vs gq stq hl hf
       obtain ⟨v0, v1, v2, v3, v4, v5, v6, v7, v8, v9, v10, v11, v12, v13, v14, v15, v16, v17, v18, v19, rfl⟩ := len_k20 hl
       have e1 := (show v1 = .bool true from hf _ (memI 8 rfl) (by kernel_rfl))
       subst e1
       have e6 := (show v6 = .bool (d3.1 == d9.1) from hf _ (memI 14 rfl) (by kernel_rfl))
       subst e6
       show Option.isSome _ = true
       kernel_rfl
      ·intro vs gq stq hl hf
       obtain ⟨v0, v1, v2, v3, v4, v5, v6, v7, v8, v9, v10, v11, v12, v13, v14, v15, v16, v17, v18, v19, rfl⟩ := len_k20 hl
       have e7 := (show v7 = .bool true from hf _ (memI 15 rfl) (by kernel_rfl))
       subst e7
       show Option.isSome _ = true
       kernel_rfl
      ·intro vs gq stq hl hf
       obtain ⟨v0, v1, v2, v3, v4, v5, v6, v7, v8, v9, v10, v11, v12, v13, v14, v15, v16, v17, v18, v19, rfl⟩ := len_k20 hl
       have e7 := (show v7 = .bool true from hf _ (memI 15 rfl) (by kernel_rfl))
       subst e7
       show Option.isSome _ = true
       kernel_rfl
      ·intro vs gq stq hl hf
       obtain ⟨v0, v1, v2, v3, v4, v5, v6, v7, v8, v9, v10, v11, v12, v13, v14, v15, v16, v17, v18, v19, rfl⟩ := len_k20 hl
       have e7 := (show v7 = .bool true from hf _ (memI 15 rfl) (by kernel_rfl))
       subst e7
       show Option.isSome _ = true
       kernel_rfl
      ·intro vs gq stq hl hf
       obtain ⟨v0, v1, v2, v3, v4, v5, v6, v7, v8, v9, v10, v11, v12, v13, v14, v15, v16, v17, v18, v19, rfl⟩ := len_k20 hl
       have e7 := (show v7 = .bool true from hf _ (memI 15 rfl) (by kernel_rfl))
       subst e7
       have e13 := (show v13 = .bool (d4.1 == d10.1) from hf _ (memI 22 rfl) (by kernel_rfl))
       subst e13
       show Option.isSome _ = true
       kernel_rfl
      ·intro vs gq stq hl hf
       obtain ⟨v0, v1, v2, v3, v4, v5, v6, v7, v8, v9, v10, v11, v12, v13, v14, v15, v16, v17, v18, v19, rfl⟩ := len_k20 hl
       have e14 := (show v14 = .bool true from hf _ (memI 23 rfl) (by kernel_rfl))
       subst e14
       show Option.isSome _ = true
       kernel_rfl
      ·intro vs gq stq hl hf
       obtain ⟨v0, v1, v2, v3, v4, v5, v6, v7, v8, v9, v10, v11, v12, v13, v14, v15, v16, v17, v18, v19, rfl⟩ := len_k20 hl
       have e14 := (show v14 = .bool true from hf _ (memI 23 rfl) (by kernel_rfl))
       subst e14
       have e19 := (show v19 = .bool (d5.1 == d11.1) from hf _ (memI 29 rfl) (by kernel_rfl))
       subst e19
       show Option.isSome _ = true
       kernel_rfl
      ·intro vs gq stq hl hf
       obtain ⟨v0, v1, v2, v3, v4, v5, v6, v7, v8, v9, v10, v11, v12, v13, v14, v15, v16, v17, v18, v19, rfl⟩ := len_k20 hl
       have e14 := (show v14 = .bool true from hf _ (memI 23 rfl) (by kernel_rfl))
       subst e14
       have e19 := (show v19 = .bool (d5.1 == d11.1) from hf _ (memI 29 rfl) (by kernel_rfl))
       subst e19
       show Option.isSome _ = true
       kernel_rfl
     ·intro j hj
      have hq : j = 0 ∨ j = 1 ∨ j = 2 ∨ j = 3 ∨ j = 4 ∨ j = 5 ∨ j = 6 ∨ j = 7 ∨ j = 8 ∨ j = 9 ∨ j = 10 ∨ j = 11 ∨ j = 12 ∨ j = 13 ∨ j = 14 ∨ j = 15 ∨ j = 16 ∨ j = 17 ∨ j = 18 ∨ j = 19 := by have h : j < 20 := hj; omega
      rcases hq with rfl | rfl | rfl | rfl | rfl | rfl | rfl | rfl | rfl | rfl | rfl | rfl | rfl | rfl | rfl | rfl | rfl | rfl | rfl | rfl
      ·intro vs gq stq hl hf
       obtain ⟨v0, v1, v2, v3, v4, v5, v6, v7, v8, v9, v10, v11, v12, v13, v14, v15, v16, v17, v18, v19, rfl⟩ := len_k20 hl
       have hcal12 := P.baizelaw32_told gq q3 hk12
       refine WP.callC hcal12 (by kernel_rfl) ?_
       rintro _ g24 st24 rfl
       refine WP.dn (Shown.o (v := .bool q3) st24.pure ?_)
       exact ⟨tv, tv, tv, tv, tv, tv, tv, rfl, tv, tv, tv, tv, tv, tv, tv, tv, tv, tv, tv, tv, tv, tv, tv, tv, tv, tv, tv, tv, tv, tv, tv⟩
      ·intro vs gq stq hl hf
       obtain ⟨v0, v1, v2, v3, v4, v5, v6, v7, v8, v9, v10, v11, v12, v13, v14, v15, v16, v17, v18, v19, rfl⟩ := len_k20 hl
       have e0 := (show v0 = .bool q3 from hf _ (memI 7 rfl) (by kernel_rfl))
       subst e0
       refine WP.stl 1 ?_
       refine WP.dn (Shown.ok (v := .bool q3) (by kernel_rfl) (Step.refl _ _) ?_)
       exact ⟨tv, tv, tv, tv, tv, tv, tv, tv, congrArg Value.bool h4, tv, tv, tv, tv, tv, tv, tv, tv, tv, tv, tv, tv, tv, tv, tv, tv, tv, tv, tv, tv, tv, tv⟩
      ·intro vs gq stq hl hf
       obtain ⟨v0, v1, v2, v3, v4, v5, v6, v7, v8, v9, v10, v11, v12, v13, v14, v15, v16, v17, v18, v19, rfl⟩ := len_k20 hl
       have hB3 := (show Box gq (t + 3) b3 23 [encA .u8 d3] [8] from hf _ (memI 4 rfl) (by kernel_rfl))
       have e1 := (show v1 = .bool true from hf _ (memI 8 rfl) (by kernel_rfl))
       subst e1
       refine WP.loadB (v := AG [encA .u8 d3]) hB3 (by kernel_rfl) (by kernel_rfl) ?_
       refine WP.dn (Shown.ok (v := AG [encA .u8 d3]) (by kernel_rfl) (Step.refl _ _) ?_)
       exact ⟨tv, tv, tv, tv, tv, tv, tv, tv, tv, rfl, tv, tv, tv, tv, tv, tv, tv, tv, tv, tv, tv, tv, tv, tv, tv, tv, tv, tv, tv, tv, tv⟩
      ·intro vs gq stq hl hf
       obtain ⟨v0, v1, v2, v3, v4, v5, v6, v7, v8, v9, v10, v11, v12, v13, v14, v15, v16, v17, v18, v19, rfl⟩ := len_k20 hl
       have hB1 := (show Box gq (t + 1) b1 23 [encA .u8 d1] [8] from hf _ (memI 0 rfl) (by kernel_rfl))
       have e1 := (show v1 = .bool true from hf _ (memI 8 rfl) (by kernel_rfl))
       subst e1
       refine WP.loadB (v := AG [encA .u8 d1]) hB1 (by kernel_rfl) (by kernel_rfl) ?_
       refine WP.dn (Shown.ok (v := AG [encA .u8 d1]) (by kernel_rfl) (Step.refl _ _) ?_)
       exact ⟨tv, tv, tv, tv, tv, tv, tv, tv, tv, tv, rfl, tv, tv, tv, tv, tv, tv, tv, tv, tv, tv, tv, tv, tv, tv, tv, tv, tv, tv, tv, tv⟩
      ·intro vs gq stq hl hf
       obtain ⟨v0, v1, v2, v3, v4, v5, v6, v7, v8, v9, v10, v11, v12, v13, v14, v15, v16, v17, v18, v19, rfl⟩ := len_k20 hl
       have hR3 := (show RdS (Kd.int .u8) gq 5 a3 l3.length c3 l3 from hf _ (memI 2 rfl) (by kernel_rfl))
       have e1 := (show v1 = .bool true from hf _ (memI 8 rfl) (by kernel_rfl))
       subst e1
       have e3 := (show v3 = AG [encA .u8 d1] from hf _ (memI 10 rfl) (by kernel_rfl))
       subst e3
       have hcal13 := P.baizeref32_Bytes gq (t + 9) d1 x1 l3 a3 l3.length c3 hR3 l7 hk13
       refine WP.callC hcal13 (by kernel_rfl) ?_
       rintro _ g25 st25 ⟨a8, n7, c8, rfl, hR8⟩
       obtain rfl := hR8.len
       refine WP.dn (Shown.o (v := .slice a8 l7.length c8) st25.pure ?_)
       exact ⟨tv, tv, tv, tv, tv, tv, tv, tv, tv, tv, tv, ⟨a8, c8, rfl, hR8⟩, tv, tv, tv, tv, tv, tv, tv, tv, tv, tv, tv, tv, tv, tv, tv, tv, tv, tv, tv⟩
      ·intro vs gq stq hl hf
       obtain ⟨v0, v1, v2, v3, v4, v5, v6, v7, v8, v9, v10, v11, v12, v13, v14, v15, v16, v17, v18, v19, rfl⟩ := len_k20 hl
       have e1 := (show v1 = .bool true from hf _ (memI 8 rfl) (by kernel_rfl))
       subst e1
       obtain ⟨a8, c8, e4, hR8⟩ := (show ∃ (a8 : Option Addr) (c8 : Nat), v4 = .slice a8 l7.length c8 ∧ OwnS (Kd.int .u8) gq (t + 9) 5 a8 l7.length c8 l7 from hf _ (memI 11 rfl) (by kernel_rfl))
       subst e4
       have hS4 : 0 ∉ ([(t + 9)] : List Nat) := by simp <;> omega
       have stl4 := GW.lend_step gq [(t + 9)]
       have hRl4 := hR8.lendTo hS4 (by simp)
       refine WP.regw (g' := GW.lend gq [(t + 9)]) rfl ?_
       have hcal14 := P.baizeref32_Of (GW.lend gq [(t + 9)]) l7 a8 l7.length c8 hRl4 d9 hk14
       refine WP.callC hcal14 (by kernel_rfl) ?_
       rintro _ g26 st26 rfl
       have st27 := (GW.back_step st26).lentS
       have hO4 := hR8.backTo hS4 (by simp) st26 (fun x => x)
       refine WP.regw (g' := GW.back gq g26 [(t + 9)]) rfl ?_
       generalize GW.back gq g26 [(t + 9)] = g27 at *
       refine WP.dn (Shown.o (v := AG [encA .u8 d9]) st27 ?_)
       exact ⟨tv, tv, tv, tv, tv, tv, tv, tv, tv, tv, tv, tv, rfl, ⟨a8, c8, rfl, hO4⟩, tv, tv, tv, tv, tv, tv, tv, tv, tv, tv, tv, tv, tv, tv, tv, tv, tv⟩
      ·intro vs gq stq hl hf
       obtain ⟨v0, v1, v2, v3, v4, v5, v6, v7, v8, v9, v10, v11, v12, v13, v14, v15, v16, v17, v18, v19, rfl⟩ := len_k20 hl
       have e1 := (show v1 = .bool true from hf _ (memI 8 rfl) (by kernel_rfl))
       subst e1
       have e2 := (show v2 = AG [encA .u8 d3] from hf _ (memI 9 rfl) (by kernel_rfl))
       subst e2
       have e5 := (show v5 = AG [encA .u8 d9] from hf _ (memI 12 rfl) (by kernel_rfl))
       subst e5
       refine WP.eqV (by kernel_rfl) (by kernel_rfl) (EqV.arr (d := 9998) (t := 23) (e := 5) (m := 8) (k := .u8) (x := d3) (y := d9) (by kernel_rfl) (by kernel_rfl)) ?_
       refine WP.dn (Shown.ok (v := .bool (d3.1 == d9.1)) (by kernel_rfl) (Step.refl _ _) ?_)
       exact ⟨tv, tv, tv, tv, tv, tv, tv, tv, tv, tv, tv, tv, tv, tv, rfl, tv, tv, tv, tv, tv, tv, tv, tv, tv, tv, tv, tv, tv, tv, tv, tv⟩
      ·intro vs gq stq hl hf
       obtain ⟨v0, v1, v2, v3, v4, v5, v6, v7, v8, v9, v10, v11, v12, v13, v14, v15, v16, v17, v18, v19, rfl⟩ := len_k20 hl
       have e1 := (show v1 = .bool true from hf _ (memI 8 rfl) (by kernel_rfl))
       subst e1
       have e6 := (show v6 = .bool (d3.1 == d9.1) from hf _ (memI 14 rfl) (by kernel_rfl))
       subst e6
       refine WP.stl 1 ?_
       refine WP.dn (Shown.ok (v := .bool (d3.1 == d9.1)) (by kernel_rfl) (Step.refl _ _) ?_)
       exact ⟨tv, tv, tv, tv, tv, tv, tv, tv, tv, tv, tv, tv, tv, tv, tv, congrArg Value.bool h5, tv, tv, tv, tv, tv, tv, tv, tv, tv, tv, tv, tv, tv, tv, tv⟩
      ·intro vs gq stq hl hf
       obtain ⟨v0, v1, v2, v3, v4, v5, v6, v7, v8, v9, v10, v11, v12, v13, v14, v15, v16, v17, v18, v19, rfl⟩ := len_k20 hl
       have hB5 := (show Box gq (t + 4) b4 23 [encA .u8 d4] [8] from hf _ (memI 5 rfl) (by kernel_rfl))
       have e7 := (show v7 = .bool true from hf _ (memI 15 rfl) (by kernel_rfl))
       subst e7
       refine WP.loadB (v := AG [encA .u8 d4]) hB5 (by kernel_rfl) (by kernel_rfl) ?_
       refine WP.dn (Shown.ok (v := AG [encA .u8 d4]) (by kernel_rfl) (Step.refl _ _) ?_)
       exact ⟨tv, tv, tv, tv, tv, tv, tv, tv, tv, tv, tv, tv, tv, tv, tv, tv, rfl, tv, tv, tv, tv, tv, tv, tv, tv, tv, tv, tv, tv, tv, tv⟩
      ·intro vs gq stq hl hf
       obtain ⟨v0, v1, v2, v3, v4, v5, v6, v7, v8, v9, v10, v11, v12, v13, v14, v15, v16, v17, v18, v19, rfl⟩ := len_k20 hl
       have hB1 := (show Box gq (t + 1) b1 23 [encA .u8 d1] [8] from hf _ (memI 0 rfl) (by kernel_rfl))
       have e7 := (show v7 = .bool true from hf _ (memI 15 rfl) (by kernel_rfl))
       subst e7
       refine WP.loadB (v := AG [encA .u8 d1]) hB1 (by kernel_rfl) (by kernel_rfl) ?_
       refine WP.dn (Shown.ok (v := AG [encA .u8 d1]) (by kernel_rfl) (Step.refl _ _) ?_)
       exact ⟨tv, tv, tv, tv, tv, tv, tv, tv, tv, tv, tv, tv, tv, tv, tv, tv, tv, rfl, tv, tv, tv, tv, tv, tv, tv, tv, tv, tv, tv, tv, tv⟩
      ·intro vs gq stq hl hf
       obtain ⟨v0, v1, v2, v3, v4, v5, v6, v7, v8, v9, v10, v11, v12, v13, v14, v15, v16, v17, v18, v19, rfl⟩ := len_k20 hl
       have hB2 := (show Box gq (t + 2) b2 54 [[.slice a1 n1 c1], encA .u8 d2, [.slice a2 n2 c2]] [1, 8, 1] from hf _ (memI 1 rfl) (by kernel_rfl))
       have e7 := (show v7 = .bool true from hf _ (memI 15 rfl) (by kernel_rfl))
       subst e7
       refine WP.loadB (v := AG [encA .u8 d2]) hB2 (by kernel_rfl) (by kernel_rfl) ?_
       refine WP.dn (Shown.ok (v := AG [encA .u8 d2]) (by kernel_rfl) (Step.refl _ _) ?_)
       exact ⟨tv, tv, tv, tv, tv, tv, tv, tv, tv, tv, tv, tv, tv, tv, tv, tv, tv, tv, rfl, tv, tv, tv, tv, tv, tv, tv, tv, tv, tv, tv, tv⟩
      ·intro vs gq stq hl hf
       obtain ⟨v0, v1, v2, v3, v4, v5, v6, v7, v8, v9, v10, v11, v12, v13, v14, v15, v16, v17, v18, v19, rfl⟩ := len_k20 hl
       have hR3 := (show RdS (Kd.int .u8) gq 5 a3 l3.length c3 l3 from hf _ (memI 2 rfl) (by kernel_rfl))
       have e7 := (show v7 = .bool true from hf _ (memI 15 rfl) (by kernel_rfl))
       subst e7
       have e9 := (show v9 = AG [encA .u8 d1] from hf _ (memI 17 rfl) (by kernel_rfl))
       subst e9
       have e10 := (show v10 = AG [encA .u8 d2] from hf _ (memI 18 rfl) (by kernel_rfl))
       subst e10
       have hcal15 := P.baizeref32_Act gq (t + 10) d1 x1 d2 l3 a3 l3.length c3 hR3 l8 hk15
       refine WP.callC hcal15 (by kernel_rfl) ?_
       rintro _ g28 st28 ⟨a9, n8, c9, rfl, hR9⟩
       obtain rfl := hR9.len
       refine WP.dn (Shown.o (v := .slice a9 l8.length c9) st28.pure ?_)
       exact ⟨tv, tv, tv, tv, tv, tv, tv, tv, tv, tv, tv, tv, tv, tv, tv, tv, tv, tv, tv, ⟨a9, c9, rfl, hR9⟩, tv, tv, tv, tv, tv, tv, tv, tv, tv, tv, tv⟩
      ·intro vs gq stq hl hf
       obtain ⟨v0, v1, v2, v3, v4, v5, v6, v7, v8, v9, v10, v11, v12, v13, v14, v15, v16, v17, v18, v19, rfl⟩ := len_k20 hl
       have e7 := (show v7 = .bool true from hf _ (memI 15 rfl) (by kernel_rfl))
       subst e7
       obtain ⟨a9, c9, e11, hR9⟩ := (show ∃ (a9 : Option Addr) (c9 : Nat), v11 = .slice a9 l8.length c9 ∧ OwnS (Kd.int .u8) gq (t + 10) 5 a9 l8.length c9 l8 from hf _ (memI 19 rfl) (by kernel_rfl))
       subst e11
       have hS5 : 0 ∉ ([(t + 10)] : List Nat) := by simp <;> omega
       have stl5 := GW.lend_step gq [(t + 10)]
       have hRl5 := hR9.lendTo hS5 (by simp)
       refine WP.regw (g' := GW.lend gq [(t + 10)]) rfl ?_
       have hcal16 := P.baizeref32_Of (GW.lend gq [(t + 10)]) l8 a9 l8.length c9 hRl5 d10 hk16
       refine WP.callC hcal16 (by kernel_rfl) ?_
       rintro _ g29 st29 rfl
       have st30 := (GW.back_step st29).lentS
       have hO5 := hR9.backTo hS5 (by simp) st29 (fun x => x)
       refine WP.regw (g' := GW.back gq g29 [(t + 10)]) rfl ?_
       generalize GW.back gq g29 [(t + 10)] = g30 at *
       refine WP.dn (Shown.o (v := AG [encA .u8 d10]) st30 ?_)
       exact ⟨tv, tv, tv, tv, tv, tv, tv, tv, tv, tv, tv, tv, tv, tv, tv, tv, tv, tv, tv, tv, rfl, ⟨a9, c9, rfl, hO5⟩, tv, tv, tv, tv, tv, tv, tv, tv, tv⟩
      ·intro vs gq stq hl hf
       obtain ⟨v0, v1, v2, v3, v4, v5, v6, v7, v8, v9, v10, v11, v12, v13, v14, v15, v16, v17, v18, v19, rfl⟩ := len_k20 hl
       have e7 := (show v7 = .bool true from hf _ (memI 15 rfl) (by kernel_rfl))
       subst e7
       have e8 := (show v8 = AG [encA .u8 d4] from hf _ (memI 16 rfl) (by kernel_rfl))
       subst e8
       have e12 := (show v12 = AG [encA .u8 d10] from hf _ (memI 20 rfl) (by kernel_rfl))
       subst e12
       refine WP.eqV (by kernel_rfl) (by kernel_rfl) (EqV.arr (d := 9998) (t := 23) (e := 5) (m := 8) (k := .u8) (x := d4) (y := d10) (by kernel_rfl) (by kernel_rfl)) ?_
       refine WP.dn (Shown.ok (v := .bool (d4.1 == d10.1)) (by kernel_rfl) (Step.refl _ _) ?_)
       exact ⟨tv, tv, tv, tv, tv, tv, tv, tv, tv, tv, tv, tv, tv, tv, tv, tv, tv, tv, tv, tv, tv, tv, rfl, tv, tv, tv, tv, tv, tv, tv, tv⟩
      ·intro vs gq stq hl hf
       obtain ⟨v0, v1, v2, v3, v4, v5, v6, v7, v8, v9, v10, v11, v12, v13, v14, v15, v16, v17, v18, v19, rfl⟩ := len_k20 hl
       have e7 := (show v7 = .bool true from hf _ (memI 15 rfl) (by kernel_rfl))
       subst e7
       have e13 := (show v13 = .bool (d4.1 == d10.1) from hf _ (memI 22 rfl) (by kernel_rfl))
       subst e13
       refine WP.stl 1 ?_
       refine WP.dn (Shown.ok (v := .bool (d4.1 == d10.1)) (by kernel_rfl) (Step.refl _ _) ?_)
       exact ⟨tv, tv, tv, tv, tv, tv, tv, tv, tv, tv, tv, tv, tv, tv, tv, tv, tv, tv, tv, tv, tv, tv, tv, congrArg Value.bool h6, tv, tv, tv, tv, tv, tv, tv⟩
      ·intro vs gq stq hl hf
       obtain ⟨v0, v1, v2, v3, v4, v5, v6, v7, v8, v9, v10, v11, v12, v13, v14, v15, v16, v17, v18, v19, rfl⟩ := len_k20 hl
       have hB7 := (show Box gq (t + 5) b5 23 [encA .u8 d5] [8] from hf _ (memI 6 rfl) (by kernel_rfl))
       have e14 := (show v14 = .bool true from hf _ (memI 23 rfl) (by kernel_rfl))
       subst e14
       refine WP.loadB (v := AG [encA .u8 d5]) hB7 (by kernel_rfl) (by kernel_rfl) ?_
       refine WP.dn (Shown.ok (v := AG [encA .u8 d5]) (by kernel_rfl) (Step.refl _ _) ?_)
       exact ⟨tv, tv, tv, tv, tv, tv, tv, tv, tv, tv, tv, tv, tv, tv, tv, tv, tv, tv, tv, tv, tv, tv, tv, tv, rfl, tv, tv, tv, tv, tv, tv⟩
      ·intro vs gq stq hl hf
       obtain ⟨v0, v1, v2, v3, v4, v5, v6, v7, v8, v9, v10, v11, v12, v13, v14, v15, v16, v17, v18, v19, rfl⟩ := len_k20 hl
       have hB1 := (show Box gq (t + 1) b1 23 [encA .u8 d1] [8] from hf _ (memI 0 rfl) (by kernel_rfl))
       have e14 := (show v14 = .bool true from hf _ (memI 23 rfl) (by kernel_rfl))
       subst e14
       refine WP.loadB (v := AG [encA .u8 d1]) hB1 (by kernel_rfl) (by kernel_rfl) ?_
       refine WP.dn (Shown.ok (v := AG [encA .u8 d1]) (by kernel_rfl) (Step.refl _ _) ?_)
       exact ⟨tv, tv, tv, tv, tv, tv, tv, tv, tv, tv, tv, tv, tv, tv, tv, tv, tv, tv, tv, tv, tv, tv, tv, tv, tv, rfl, tv, tv, tv, tv, tv⟩
      ·intro vs gq stq hl hf
       obtain ⟨v0, v1, v2, v3, v4, v5, v6, v7, v8, v9, v10, v11, v12, v13, v14, v15, v16, v17, v18, v19, rfl⟩ := len_k20 hl
       have hR4 := (show RdS (Kd.int .i64) gq 3 a4 ((imin (l2.length : Int) 20).toNat - (0 : Int).toNat) c4 (sliceI l2 0 (imin (l2.length : Int) 20)) from hf _ (memI 3 rfl) (by kernel_rfl))
       have e14 := (show v14 = .bool true from hf _ (memI 23 rfl) (by kernel_rfl))
       subst e14
       have e16 := (show v16 = AG [encA .u8 d1] from hf _ (memI 25 rfl) (by kernel_rfl))
       subst e16
       have hcal17 := P.baizeref32_Pays gq (t + 11) d1 (sliceI l2 0 (imin (l2.length : Int) 20)) a4 ((imin (l2.length : Int) 20).toNat - (0 : Int).toNat) c4 hR4 l9 hk17
       refine WP.callC hcal17 (by kernel_rfl) ?_
       rintro _ g31 st31 ⟨a10, n9, c10, rfl, hR10⟩
       obtain rfl := hR10.len
       refine WP.dn (Shown.o (v := .slice a10 l9.length c10) st31.pure ?_)
       exact ⟨tv, tv, tv, tv, tv, tv, tv, tv, tv, tv, tv, tv, tv, tv, tv, tv, tv, tv, tv, tv, tv, tv, tv, tv, tv, tv, ⟨a10, c10, rfl, hR10⟩, tv, tv, tv, tv⟩
      ·intro vs gq stq hl hf
       obtain ⟨v0, v1, v2, v3, v4, v5, v6, v7, v8, v9, v10, v11, v12, v13, v14, v15, v16, v17, v18, v19, rfl⟩ := len_k20 hl
       have e14 := (show v14 = .bool true from hf _ (memI 23 rfl) (by kernel_rfl))
       subst e14
       obtain ⟨a10, c10, e17, hR10⟩ := (show ∃ (a10 : Option Addr) (c10 : Nat), v17 = .slice a10 l9.length c10 ∧ OwnS (Kd.int .u8) gq (t + 11) 5 a10 l9.length c10 l9 from hf _ (memI 26 rfl) (by kernel_rfl))
       subst e17
       have hS6 : 0 ∉ ([(t + 11)] : List Nat) := by simp <;> omega
       have stl6 := GW.lend_step gq [(t + 11)]
       have hRl6 := hR10.lendTo hS6 (by simp)
       refine WP.regw (g' := GW.lend gq [(t + 11)]) rfl ?_
       have hcal18 := P.baizeref32_Of (GW.lend gq [(t + 11)]) l9 a10 l9.length c10 hRl6 d11 hk18
       refine WP.callC hcal18 (by kernel_rfl) ?_
       rintro _ g32 st32 rfl
       have st33 := (GW.back_step st32).lentS
       have hO6 := hR10.backTo hS6 (by simp) st32 (fun x => x)
       refine WP.regw (g' := GW.back gq g32 [(t + 11)]) rfl ?_
       generalize GW.back gq g32 [(t + 11)] = g33 at *
       refine WP.dn (Shown.o (v := AG [encA .u8 d11]) st33 ?_)
       exact ⟨tv, tv, tv, tv, tv, tv, tv, tv, tv, tv, tv, tv, tv, tv, tv, tv, tv, tv, tv, tv, tv, tv, tv, tv, tv, tv, tv, rfl, ⟨a10, c10, rfl, hO6⟩, tv, tv⟩
      ·intro vs gq stq hl hf
       obtain ⟨v0, v1, v2, v3, v4, v5, v6, v7, v8, v9, v10, v11, v12, v13, v14, v15, v16, v17, v18, v19, rfl⟩ := len_k20 hl
       have e14 := (show v14 = .bool true from hf _ (memI 23 rfl) (by kernel_rfl))
       subst e14
       have e15 := (show v15 = AG [encA .u8 d5] from hf _ (memI 24 rfl) (by kernel_rfl))
       subst e15
       have e18 := (show v18 = AG [encA .u8 d11] from hf _ (memI 27 rfl) (by kernel_rfl))
       subst e18
       refine WP.eqV (by kernel_rfl) (by kernel_rfl) (EqV.arr (d := 9998) (t := 23) (e := 5) (m := 8) (k := .u8) (x := d5) (y := d11) (by kernel_rfl) (by kernel_rfl)) ?_
       refine WP.dn (Shown.ok (v := .bool (d5.1 == d11.1)) (by kernel_rfl) (Step.refl _ _) ?_)
       exact ⟨tv, tv, tv, tv, tv, tv, tv, tv, tv, tv, tv, tv, tv, tv, tv, tv, tv, tv, tv, tv, tv, tv, tv, tv, tv, tv, tv, tv, tv, rfl, tv⟩
     intro vs g34 st34 hl hf
     obtain ⟨v0, v1, v2, v3, v4, v5, v6, v7, v8, v9, v10, v11, v12, v13, v14, v15, v16, v17, v18, v19, rfl⟩ := len_k20 hl
     have e14 := (show v14 = .bool true from hf _ (memI 23 rfl) (by kernel_rfl))
     subst e14
     have e19 := (show v19 = .bool (d5.1 == d11.1) from hf _ (memI 29 rfl) (by kernel_rfl))
     subst e19
     replace tot := tot.trans (st34.up3 (.inr (by omega)) (.inr (by omega)) (.inr (by omega)))
     refine NX.post ?_
     exact ⟨(d5.1 == d11.1), ⟨by kernel_rfl, by kernel_rfl⟩, tot, hs⟩
    replace hs := of_if_f hs h6
    refine CP.drawL (by kernel_rfl) [0, 1, 2, 3, 6, 7, 8, 10, 11, 12, 15, 17, 18, 19, 21] N.baizelaw32_StateDigests_1 [⟨none, [], [], fun l g => Box g (t + 1) b1 23 [encA .u8 d1] [8]⟩, ⟨none, [], [], fun l g => Box g (t + 2) b2 54 [[.slice a1 n1 c1], encA .u8 d2, [.slice a2 n2 c2]] [1, 8, 1]⟩, ⟨none, [], [], fun l g => RdS (Kd.int .u8) g 5 a3 l3.length c3 l3⟩, ⟨none, [], [], fun l g => Box g (t + 3) b3 23 [encA .u8 d3] [8]⟩, ⟨none, [], [], fun l g => Box g (t + 4) b4 23 [encA .u8 d4] [8]⟩, ⟨some 0, [], [0], fun l g => l.getD 0 undef = .bool q3⟩, ⟨some 1, [], [1], fun l g => l.getD 0 undef = .bool true⟩, ⟨some 2, [], [2], fun l g => l.getD 0 undef = AG [encA .u8 d3]⟩, ⟨some 3, [], [3], fun l g => l.getD 0 undef = AG [encA .u8 d1]⟩, ⟨some 4, [0], [4], fun l g => ∃ (a8 : Option Addr) (c8 : Nat), l.getD 0 undef = .slice a8 l7.length c8 ∧ OwnS (Kd.int .u8) g (t + 9) 5 a8 l7.length c8 l7⟩, ⟨some 5, [], [5], fun l g => l.getD 0 undef = AG [encA .u8 d9]⟩, ⟨some 5, [0], [4], fun l g => ∃ (a8 : Option Addr) (c8 : Nat), l.getD 0 undef = .slice a8 l7.length c8 ∧ OwnS (Kd.int .u8) g (t + 9) 5 a8 l7.length c8 l7⟩, ⟨some 6, [], [6], fun l g => l.getD 0 undef = .bool (d3.1 == d9.1)⟩, ⟨some 7, [], [7], fun l g => l.getD 0 undef = .bool true⟩, ⟨some 8, [], [8], fun l g => l.getD 0 undef = AG [encA .u8 d4]⟩, ⟨some 9, [], [9], fun l g => l.getD 0 undef = AG [encA .u8 d1]⟩, ⟨some 10, [], [10], fun l g => l.getD 0 undef = AG [encA .u8 d2]⟩, ⟨some 11, [1], [11], fun l g => ∃ (a9 : Option Addr) (c9 : Nat), l.getD 0 undef = .slice a9 l8.length c9 ∧ OwnS (Kd.int .u8) g (t + 10) 5 a9 l8.length c9 l8⟩, ⟨some 12, [], [12], fun l g => l.getD 0 undef = AG [encA .u8 d10]⟩, ⟨some 12, [1], [11], fun l g => ∃ (a9 : Option Addr) (c9 : Nat), l.getD 0 undef = .slice a9 l8.length c9 ∧ OwnS (Kd.int .u8) g (t + 10) 5 a9 l8.length c9 l8⟩, ⟨some 13, [], [13], fun l g => l.getD 0 undef = .bool (d4.1 == d10.1)⟩, ⟨some 14, [], [14], fun l g => l.getD 0 undef = .bool false⟩] [[], [], [], [], [], [0], [], [], [], [], [], [], [1], [], []] [(t + 9), (t + 10)] [] [4, 5, 9, 13, 14, 16, 20, 22, 23, 24, 25, 26, 27, 28, 29] (by kernel_rfl) (by simp <;> omega) (by simp <;> omega) ⟨fun _ _ _ _ st h0 hl hj hB1 => (hB1.mono st (fun h => absurd (hl _ h) (by simp <;> omega))), fun _ _ _ _ st h0 hl hj hB2 => (hB2.mono st (fun h => absurd (hl _ h) (by simp <;> omega))), fun _ _ _ _ st h0 hl hj hR3 => (RdS.mono (e := 5) hR3 st h0), fun _ _ _ _ st h0 hl hj hB3 => (hB3.mono st (fun h => absurd (hl _ h) (by simp <;> omega))), fun _ _ _ _ st h0 hl hj hB5 => (hB5.mono st (fun h => absurd (hl _ h) (by simp <;> omega))), fun _ _ _ _ st h0 hl hj e0 => e0, fun _ _ _ _ st h0 hl hj e1 => e1, fun _ _ _ _ st h0 hl hj e2 => e2, fun _ _ _ _ st h0 hl hj e3 => e3, fun _ _ _ _ st h0 hl hj ⟨a8, c8, e4, hR8⟩ => ⟨a8, c8, e4, (hR8.mono st h0 (hj 0 (by simp) _ rfl))⟩, fun _ _ _ _ st h0 hl hj e5 => e5, fun _ _ _ _ st h0 hl hj ⟨a8, c8, e4, hR8⟩ => ⟨a8, c8, e4, (hR8.mono st h0 (hj 0 (by simp) _ rfl))⟩, fun _ _ _ _ st h0 hl hj e6 => e6, fun _ _ _ _ st h0 hl hj e7 => e7, fun _ _ _ _ st h0 hl hj e8 => e8, fun _ _ _ _ st h0 hl hj e9 => e9, fun _ _ _ _ st h0 hl hj e10 => e10, fun _ _ _ _ st h0 hl hj ⟨a9, c9, e11, hR9⟩ => ⟨a9, c9, e11, (hR9.mono st h0 (hj 1 (by simp) _ rfl))⟩, fun _ _ _ _ st h0 hl hj e12 => e12, fun _ _ _ _ st h0 hl hj ⟨a9, c9, e11, hR9⟩ => ⟨a9, c9, e11, (hR9.mono st h0 (hj 1 (by simp) _ rfl))⟩, fun _ _ _ _ st h0 hl hj e13 => e13, fun _ _ _ _ st h0 hl hj e14 => e14, tv⟩ ⟨hB1, hB2, hR3, hB3, hB5, tv, tv, tv, tv, tv, tv, tv, tv, tv, tv, tv, tv, tv, tv, tv, tv, tv, tv⟩ (by kernel_rfl) (fun vs => by kernel_rfl) ?_ ?_ ?_
    ·intro j hj
     have hq : j = 0 ∨ j = 1 ∨ j = 2 ∨ j = 3 ∨ j = 4 ∨ j = 5 ∨ j = 6 ∨ j = 7 ∨ j = 8 ∨ j = 9 ∨ j = 10 ∨ j = 11 ∨ j = 12 ∨ j = 13 ∨ j = 14 := by have h : j < 15 := hj; omega
     rcases hq with rfl | rfl | rfl | rfl | rfl | rfl | rfl | rfl | rfl | rfl | rfl | rfl | rfl | rfl | rfl
     ·intro vs gq stq hl hf
      obtain ⟨v0, v1, v2, v3, v4, v5, v6, v7, v8, v9, v10, v11, v12, v13, v14, rfl⟩ := len_k15 hl
      have e1 := (show v1 = .bool true from hf _ (memI 6 rfl) (by kernel_rfl))
      subst e1
      show Option.isSome _ = true
      kernel_rfl
     ·intro vs gq stq hl hf
      obtain ⟨v0, v1, v2, v3, v4, v5, v6, v7, v8, v9, v10, v11, v12, v13, v14, rfl⟩ := len_k15 hl
      have e1 := (show v1 = .bool true from hf _ (memI 6 rfl) (by kernel_rfl))
      subst e1
      show Option.isSome _ = true
      kernel_rfl
     ·intro vs gq stq hl hf
      obtain ⟨v0, v1, v2, v3, v4, v5, v6, v7, v8, v9, v10, v11, v12, v13, v14, rfl⟩ := len_k15 hl
      have e1 := (show v1 = .bool true from hf _ (memI 6 rfl) (by kernel_rfl))
      subst e1
      have e6 := (show v6 = .bool (d3.1 == d9.1) from hf _ (memI 12 rfl) (by kernel_rfl))
      subst e6
      show Option.isSome _ = true
      kernel_rfl
     ·intro vs gq stq hl hf
      obtain ⟨v0, v1, v2, v3, v4, v5, v6, v7, v8, v9, v10, v11, v12, v13, v14, rfl⟩ := len_k15 hl
      have e7 := (show v7 = .bool true from hf _ (memI 13 rfl) (by kernel_rfl))
      subst e7
      show Option.isSome _ = true
      kernel_rfl
     ·intro vs gq stq hl hf
      obtain ⟨v0, v1, v2, v3, v4, v5, v6, v7, v8, v9, v10, v11, v12, v13, v14, rfl⟩ := len_k15 hl
      have e7 := (show v7 = .bool true from hf _ (memI 13 rfl) (by kernel_rfl))
      subst e7
      show Option.isSome _ = true
      kernel_rfl
     ·intro vs gq stq hl hf
      obtain ⟨v0, v1, v2, v3, v4, v5, v6, v7, v8, v9, v10, v11, v12, v13, v14, rfl⟩ := len_k15 hl
      have e7 := (show v7 = .bool true from hf _ (memI 13 rfl) (by kernel_rfl))
      subst e7
      show Option.isSome _ = true
      kernel_rfl
     ·intro vs gq stq hl hf
      obtain ⟨v0, v1, v2, v3, v4, v5, v6, v7, v8, v9, v10, v11, v12, v13, v14, rfl⟩ := len_k15 hl
      have e7 := (show v7 = .bool true from hf _ (memI 13 rfl) (by kernel_rfl))
      subst e7
      have e13 := (show v13 = .bool (d4.1 == d10.1) from hf _ (memI 20 rfl) (by kernel_rfl))
      subst e13
      show Option.isSome _ = true
      kernel_rfl
     ·intro vs gq stq hl hf
      obtain ⟨v0, v1, v2, v3, v4, v5, v6, v7, v8, v9, v10, v11, v12, v13, v14, rfl⟩ := len_k15 hl
      have e14 := (show v14 = .bool false from hf _ (memI 21 rfl) (by kernel_rfl))
      subst e14
      show Option.isSome _ = true
      kernel_rfl
     ·intro vs gq stq hl hf
      obtain ⟨v0, v1, v2, v3, v4, v5, v6, v7, v8, v9, v10, v11, v12, v13, v14, rfl⟩ := len_k15 hl
      have e14 := (show v14 = .bool false from hf _ (memI 21 rfl) (by kernel_rfl))
      subst e14
      show Option.isSome _ = true
      kernel_rfl
     ·intro vs gq stq hl hf
      obtain ⟨v0, v1, v2, v3, v4, v5, v6, v7, v8, v9, v10, v11, v12, v13, v14, rfl⟩ := len_k15 hl
      have e14 := (show v14 = .bool false from hf _ (memI 21 rfl) (by kernel_rfl))
      subst e14
      show Option.isSome _ = true
      kernel_rfl
     ·intro vs gq stq hl hf
      obtain ⟨v0, v1, v2, v3, v4, v5, v6, v7, v8, v9, v10, v11, v12, v13, v14, rfl⟩ := len_k15 hl
      have e14 := (show v14 = .bool false from hf _ (memI 21 rfl) (by kernel_rfl))
      subst e14
      show Option.isSome _ = true
      kernel_rfl
     ·intro vs gq stq hl hf
      obtain ⟨v0, v1, v2, v3, v4, v5, v6, v7, v8, v9, v10, v11, v12, v13, v14, rfl⟩ := len_k15 hl
      have e14 := (show v14 = .bool false from hf _ (memI 21 rfl) (by kernel_rfl))
      subst e14
      show Option.isSome _ = true
      kernel_rfl
     ·intro vs gq stq hl hf
      obtain ⟨v0, v1, v2, v3, v4, v5, v6, v7, v8, v9, v10, v11, v12, v13, v14, rfl⟩ := len_k15 hl
      have e14 := (show v14 = .bool false from hf _ (memI 21 rfl) (by kernel_rfl))
      subst e14
      show Option.isSome _ = true
      kernel_rfl
     ·intro vs gq stq hl hf
      obtain ⟨v0, v1, v2, v3, v4, v5, v6, v7, v8, v9, v10, v11, v12, v13, v14, rfl⟩ := len_k15 hl
      have e14 := (show v14 = .bool false from hf _ (memI 21 rfl) (by kernel_rfl))
      subst e14
      show Option.isSome _ = true
      kernel_rfl
     ·intro vs gq stq hl hf
      obtain ⟨v0, v1, v2, v3, v4, v5, v6, v7, v8, v9, v10, v11, v12, v13, v14, rfl⟩ := len_k15 hl
      have e14 := (show v14 = .bool false from hf _ (memI 21 rfl) (by kernel_rfl))
      subst e14
      show Option.isSome _ = true
      kernel_rfl
    ·intro j hj
     have hq : j = 0 ∨ j = 1 ∨ j = 2 ∨ j = 3 ∨ j = 4 ∨ j = 5 ∨ j = 6 ∨ j = 7 ∨ j = 8 ∨ j = 9 ∨ j = 10 ∨ j = 11 ∨ j = 12 ∨ j = 13 ∨ j = 14 := by have h : j < 15 := hj; omega
     rcases hq with rfl | rfl | rfl | rfl | rfl | rfl | rfl | rfl | rfl | rfl | rfl | rfl | rfl | rfl | rfl
     ·intro vs gq stq hl hf
      obtain ⟨v0, v1, v2, v3, v4, v5, v6, v7, v8, v9, v10, v11, v12, v13, v14, rfl⟩ := len_k15 hl
      have hcal12 := P.baizelaw32_told gq q3 hk12
      refine WP.callC hcal12 (by kernel_rfl) ?_
      rintro _ g24 st24 rfl
      refine WP.dn (Shown.o (v := .bool q3) st24.pure ?_)
      exact ⟨tv, tv, tv, tv, tv, rfl, tv, tv, tv, tv, tv, tv, tv, tv, tv, tv, tv, tv, tv, tv, tv, tv, tv⟩
     ·intro vs gq stq hl hf
      obtain ⟨v0, v1, v2, v3, v4, v5, v6, v7, v8, v9, v10, v11, v12, v13, v14, rfl⟩ := len_k15 hl
      have e0 := (show v0 = .bool q3 from hf _ (memI 5 rfl) (by kernel_rfl))
      subst e0
      refine WP.stl 1 ?_
      refine WP.dn (Shown.ok (v := .bool q3) (by kernel_rfl) (Step.refl _ _) ?_)
      exact ⟨tv, tv, tv, tv, tv, tv, congrArg Value.bool h4, tv, tv, tv, tv, tv, tv, tv, tv, tv, tv, tv, tv, tv, tv, tv, tv⟩
     ·intro vs gq stq hl hf
      obtain ⟨v0, v1, v2, v3, v4, v5, v6, v7, v8, v9, v10, v11, v12, v13, v14, rfl⟩ := len_k15 hl
      have hB3 := (show Box gq (t + 3) b3 23 [encA .u8 d3] [8] from hf _ (memI 3 rfl) (by kernel_rfl))
      have e1 := (show v1 = .bool true from hf _ (memI 6 rfl) (by kernel_rfl))
      subst e1
      refine WP.loadB (v := AG [encA .u8 d3]) hB3 (by kernel_rfl) (by kernel_rfl) ?_
      refine WP.dn (Shown.ok (v := AG [encA .u8 d3]) (by kernel_rfl) (Step.refl _ _) ?_)
      exact ⟨tv, tv, tv, tv, tv, tv, tv, rfl, tv, tv, tv, tv, tv, tv, tv, tv, tv, tv, tv, tv, tv, tv, tv⟩
     ·intro vs gq stq hl hf
      obtain ⟨v0, v1, v2, v3, v4, v5, v6, v7, v8, v9, v10, v11, v12, v13, v14, rfl⟩ := len_k15 hl
      have hB1 := (show Box gq (t + 1) b1 23 [encA .u8 d1] [8] from hf _ (memI 0 rfl) (by kernel_rfl))
      have e1 := (show v1 = .bool true from hf _ (memI 6 rfl) (by kernel_rfl))
      subst e1
      refine WP.loadB (v := AG [encA .u8 d1]) hB1 (by kernel_rfl) (by kernel_rfl) ?_
      refine WP.dn (Shown.ok (v := AG [encA .u8 d1]) (by kernel_rfl) (Step.refl _ _) ?_)
      exact ⟨tv, tv, tv, tv, tv, tv, tv, tv, rfl, tv, tv, tv, tv, tv, tv, tv, tv, tv, tv, tv, tv, tv, tv⟩
     ·intro vs gq stq hl hf
      obtain ⟨v0, v1, v2, v3, v4, v5, v6, v7, v8, v9, v10, v11, v12, v13, v14, rfl⟩ := len_k15 hl
      have hR3 := (show RdS (Kd.int .u8) gq 5 a3 l3.length c3 l3 from hf _ (memI 2 rfl) (by kernel_rfl))
      have e1 := (show v1 = .bool true from hf _ (memI 6 rfl) (by kernel_rfl))
      subst e1
      have e3 := (show v3 = AG [encA .u8 d1] from hf _ (memI 8 rfl) (by kernel_rfl))
      subst e3
      have hcal13 := P.baizeref32_Bytes gq (t + 9) d1 x1 l3 a3 l3.length c3 hR3 l7 hk13
      refine WP.callC hcal13 (by kernel_rfl) ?_
      rintro _ g25 st25 ⟨a8, n7, c8, rfl, hR8⟩
      obtain rfl := hR8.len
      refine WP.dn (Shown.o (v := .slice a8 l7.length c8) st25.pure ?_)
      exact ⟨tv, tv, tv, tv, tv, tv, tv, tv, tv, ⟨a8, c8, rfl, hR8⟩, tv, tv, tv, tv, tv, tv, tv, tv, tv, tv, tv, tv, tv⟩
     ·intro vs gq stq hl hf
      obtain ⟨v0, v1, v2, v3, v4, v5, v6, v7, v8, v9, v10, v11, v12, v13, v14, rfl⟩ := len_k15 hl
      have e1 := (show v1 = .bool true from hf _ (memI 6 rfl) (by kernel_rfl))
      subst e1
      obtain ⟨a8, c8, e4, hR8⟩ := (show ∃ (a8 : Option Addr) (c8 : Nat), v4 = .slice a8 l7.length c8 ∧ OwnS (Kd.int .u8) gq (t + 9) 5 a8 l7.length c8 l7 from hf _ (memI 9 rfl) (by kernel_rfl))
      subst e4
      have hS4 : 0 ∉ ([(t + 9)] : List Nat) := by simp <;> omega
      have stl4 := GW.lend_step gq [(t + 9)]
      have hRl4 := hR8.lendTo hS4 (by simp)
      refine WP.regw (g' := GW.lend gq [(t + 9)]) rfl ?_
      have hcal14 := P.baizeref32_Of (GW.lend gq [(t + 9)]) l7 a8 l7.length c8 hRl4 d9 hk14
      refine WP.callC hcal14 (by kernel_rfl) ?_
      rintro _ g26 st26 rfl
      have st27 := (GW.back_step st26).lentS
      have hO4 := hR8.backTo hS4 (by simp) st26 (fun x => x)
      refine WP.regw (g' := GW.back gq g26 [(t + 9)]) rfl ?_
      generalize GW.back gq g26 [(t + 9)] = g27 at *
      refine WP.dn (Shown.o (v := AG [encA .u8 d9]) st27 ?_)
      exact ⟨tv, tv, tv, tv, tv, tv, tv, tv, tv, tv, rfl, ⟨a8, c8, rfl, hO4⟩, tv, tv, tv, tv, tv, tv, tv, tv, tv, tv, tv⟩
     ·intro vs gq stq hl hf
      obtain ⟨v0, v1, v2, v3, v4, v5, v6, v7, v8, v9, v10, v11, v12, v13, v14, rfl⟩ := len_k15 hl
      have e1 := (show v1 = .bool true from hf _ (memI 6 rfl) (by kernel_rfl))
      subst e1
      have e2 := (show v2 = AG [encA .u8 d3] from hf _ (memI 7 rfl) (by kernel_rfl))
      subst e2
      have e5 := (show v5 = AG [encA .u8 d9] from hf _ (memI 10 rfl) (by kernel_rfl))
      subst e5
      refine WP.eqV (by kernel_rfl) (by kernel_rfl) (EqV.arr (d := 9998) (t := 23) (e := 5) (m := 8) (k := .u8) (x := d3) (y := d9) (by kernel_rfl) (by kernel_rfl)) ?_
      refine WP.dn (Shown.ok (v := .bool (d3.1 == d9.1)) (by kernel_rfl) (Step.refl _ _) ?_)
      exact ⟨tv, tv, tv, tv, tv, tv, tv, tv, tv, tv, tv, tv, rfl, tv, tv, tv, tv, tv, tv, tv, tv, tv, tv⟩
     ·intro vs gq stq hl hf
      obtain ⟨v0, v1, v2, v3, v4, v5, v6, v7, v8, v9, v10, v11, v12, v13, v14, rfl⟩ := len_k15 hl
      have e1 := (show v1 = .bool true from hf _ (memI 6 rfl) (by kernel_rfl))
      subst e1
      have e6 := (show v6 = .bool (d3.1 == d9.1) from hf _ (memI 12 rfl) (by kernel_rfl))
      subst e6
      refine WP.stl 1 ?_
      refine WP.dn (Shown.ok (v := .bool (d3.1 == d9.1)) (by kernel_rfl) (Step.refl _ _) ?_)
      exact ⟨tv, tv, tv, tv, tv, tv, tv, tv, tv, tv, tv, tv, tv, congrArg Value.bool h5, tv, tv, tv, tv, tv, tv, tv, tv, tv⟩
     ·intro vs gq stq hl hf
      obtain ⟨v0, v1, v2, v3, v4, v5, v6, v7, v8, v9, v10, v11, v12, v13, v14, rfl⟩ := len_k15 hl
      have hB5 := (show Box gq (t + 4) b4 23 [encA .u8 d4] [8] from hf _ (memI 4 rfl) (by kernel_rfl))
      have e7 := (show v7 = .bool true from hf _ (memI 13 rfl) (by kernel_rfl))
      subst e7
      refine WP.loadB (v := AG [encA .u8 d4]) hB5 (by kernel_rfl) (by kernel_rfl) ?_
      refine WP.dn (Shown.ok (v := AG [encA .u8 d4]) (by kernel_rfl) (Step.refl _ _) ?_)
      exact ⟨tv, tv, tv, tv, tv, tv, tv, tv, tv, tv, tv, tv, tv, tv, rfl, tv, tv, tv, tv, tv, tv, tv, tv⟩
     ·intro vs gq stq hl hf
      obtain ⟨v0, v1, v2, v3, v4, v5, v6, v7, v8, v9, v10, v11, v12, v13, v14, rfl⟩ := len_k15 hl
      have hB1 := (show Box gq (t + 1) b1 23 [encA .u8 d1] [8] from hf _ (memI 0 rfl) (by kernel_rfl))
      have e7 := (show v7 = .bool true from hf _ (memI 13 rfl) (by kernel_rfl))
      subst e7
      refine WP.loadB (v := AG [encA .u8 d1]) hB1 (by kernel_rfl) (by kernel_rfl) ?_
      refine WP.dn (Shown.ok (v := AG [encA .u8 d1]) (by kernel_rfl) (Step.refl _ _) ?_)
      exact ⟨tv, tv, tv, tv, tv, tv, tv, tv, tv, tv, tv, tv, tv, tv, tv, rfl, tv, tv, tv, tv, tv, tv, tv⟩
     ·intro vs gq stq hl hf
      obtain ⟨v0, v1, v2, v3, v4, v5, v6, v7, v8, v9, v10, v11, v12, v13, v14, rfl⟩ := len_k15 hl
      have hB2 := (show Box gq (t + 2) b2 54 [[.slice a1 n1 c1], encA .u8 d2, [.slice a2 n2 c2]] [1, 8, 1] from hf _ (memI 1 rfl) (by kernel_rfl))
      have e7 := (show v7 = .bool true from hf _ (memI 13 rfl) (by kernel_rfl))
      subst e7
      refine WP.loadB (v := AG [encA .u8 d2]) hB2 (by kernel_rfl) (by kernel_rfl) ?_
      refine WP.dn (Shown.ok (v := AG [encA .u8 d2]) (by kernel_rfl) (Step.refl _ _) ?_)
      exact ⟨tv, tv, tv, tv, tv, tv, tv, tv, tv, tv, tv, tv, tv, tv, tv, tv, rfl, tv, tv, tv, tv, tv, tv⟩
     ·intro vs gq stq hl hf
      obtain ⟨v0, v1, v2, v3, v4, v5, v6, v7, v8, v9, v10, v11, v12, v13, v14, rfl⟩ := len_k15 hl
      have hR3 := (show RdS (Kd.int .u8) gq 5 a3 l3.length c3 l3 from hf _ (memI 2 rfl) (by kernel_rfl))
      have e7 := (show v7 = .bool true from hf _ (memI 13 rfl) (by kernel_rfl))
      subst e7
      have e9 := (show v9 = AG [encA .u8 d1] from hf _ (memI 15 rfl) (by kernel_rfl))
      subst e9
      have e10 := (show v10 = AG [encA .u8 d2] from hf _ (memI 16 rfl) (by kernel_rfl))
      subst e10
      have hcal15 := P.baizeref32_Act gq (t + 10) d1 x1 d2 l3 a3 l3.length c3 hR3 l8 hk15
      refine WP.callC hcal15 (by kernel_rfl) ?_
      rintro _ g28 st28 ⟨a9, n8, c9, rfl, hR9⟩
      obtain rfl := hR9.len
      refine WP.dn (Shown.o (v := .slice a9 l8.length c9) st28.pure ?_)
      exact ⟨tv, tv, tv, tv, tv, tv, tv, tv, tv, tv, tv, tv, tv, tv, tv, tv, tv, ⟨a9, c9, rfl, hR9⟩, tv, tv, tv, tv, tv⟩
     ·intro vs gq stq hl hf
      obtain ⟨v0, v1, v2, v3, v4, v5, v6, v7, v8, v9, v10, v11, v12, v13, v14, rfl⟩ := len_k15 hl
      have e7 := (show v7 = .bool true from hf _ (memI 13 rfl) (by kernel_rfl))
      subst e7
      obtain ⟨a9, c9, e11, hR9⟩ := (show ∃ (a9 : Option Addr) (c9 : Nat), v11 = .slice a9 l8.length c9 ∧ OwnS (Kd.int .u8) gq (t + 10) 5 a9 l8.length c9 l8 from hf _ (memI 17 rfl) (by kernel_rfl))
      subst e11
      have hS5 : 0 ∉ ([(t + 10)] : List Nat) := by simp <;> omega
      have stl5 := GW.lend_step gq [(t + 10)]
      have hRl5 := hR9.lendTo hS5 (by simp)
      refine WP.regw (g' := GW.lend gq [(t + 10)]) rfl ?_
      have hcal16 := P.baizeref32_Of (GW.lend gq [(t + 10)]) l8 a9 l8.length c9 hRl5 d10 hk16
      refine WP.callC hcal16 (by kernel_rfl) ?_
      rintro _ g29 st29 rfl
      have st30 := (GW.back_step st29).lentS
      have hO5 := hR9.backTo hS5 (by simp) st29 (fun x => x)
      refine WP.regw (g' := GW.back gq g29 [(t + 10)]) rfl ?_
      generalize GW.back gq g29 [(t + 10)] = g30 at *
      refine WP.dn (Shown.o (v := AG [encA .u8 d10]) st30 ?_)
      exact ⟨tv, tv, tv, tv, tv, tv, tv, tv, tv, tv, tv, tv, tv, tv, tv, tv, tv, tv, rfl, ⟨a9, c9, rfl, hO5⟩, tv, tv, tv⟩
     ·intro vs gq stq hl hf
      obtain ⟨v0, v1, v2, v3, v4, v5, v6, v7, v8, v9, v10, v11, v12, v13, v14, rfl⟩ := len_k15 hl
      have e7 := (show v7 = .bool true from hf _ (memI 13 rfl) (by kernel_rfl))
      subst e7
      have e8 := (show v8 = AG [encA .u8 d4] from hf _ (memI 14 rfl) (by kernel_rfl))
      subst e8
      have e12 := (show v12 = AG [encA .u8 d10] from hf _ (memI 18 rfl) (by kernel_rfl))
      subst e12
      refine WP.eqV (by kernel_rfl) (by kernel_rfl) (EqV.arr (d := 9998) (t := 23) (e := 5) (m := 8) (k := .u8) (x := d4) (y := d10) (by kernel_rfl) (by kernel_rfl)) ?_
      refine WP.dn (Shown.ok (v := .bool (d4.1 == d10.1)) (by kernel_rfl) (Step.refl _ _) ?_)
      exact ⟨tv, tv, tv, tv, tv, tv, tv, tv, tv, tv, tv, tv, tv, tv, tv, tv, tv, tv, tv, tv, rfl, tv, tv⟩
     ·intro vs gq stq hl hf
      obtain ⟨v0, v1, v2, v3, v4, v5, v6, v7, v8, v9, v10, v11, v12, v13, v14, rfl⟩ := len_k15 hl
      have e7 := (show v7 = .bool true from hf _ (memI 13 rfl) (by kernel_rfl))
      subst e7
      have e13 := (show v13 = .bool (d4.1 == d10.1) from hf _ (memI 20 rfl) (by kernel_rfl))
      subst e13
      refine WP.stl 1 ?_
      refine WP.dn (Shown.ok (v := .bool (d4.1 == d10.1)) (by kernel_rfl) (Step.refl _ _) ?_)
      exact ⟨tv, tv, tv, tv, tv, tv, tv, tv, tv, tv, tv, tv, tv, tv, tv, tv, tv, tv, tv, tv, tv, congrArg Value.bool h6, tv⟩
    intro vs g35 st35 hl hf
    obtain ⟨v0, v1, v2, v3, v4, v5, v6, v7, v8, v9, v10, v11, v12, v13, v14, rfl⟩ := len_k15 hl
    have e14 := (show v14 = .bool false from hf _ (memI 21 rfl) (by kernel_rfl))
    subst e14
    replace tot := tot.trans (st35.up2 (.inr (by omega)) (.inr (by omega)))
    refine NX.post ?_
    exact ⟨false, ⟨by kernel_rfl, by kernel_rfl⟩, tot, hs⟩
   replace hs := of_if_f hs h5
   refine CP.drawL (by kernel_rfl) [0, 1, 2, 3, 6, 7, 8, 10] N.baizelaw32_StateDigests_1 [⟨none, [], [], fun l g => Box g (t + 1) b1 23 [encA .u8 d1] [8]⟩, ⟨none, [], [], fun l g => RdS (Kd.int .u8) g 5 a3 l3.length c3 l3⟩, ⟨none, [], [], fun l g => Box g (t + 3) b3 23 [encA .u8 d3] [8]⟩, ⟨some 0, [], [0], fun l g => l.getD 0 undef = .bool q3⟩, ⟨some 1, [], [1], fun l g => l.getD 0 undef = .bool true⟩, ⟨some 2, [], [2], fun l g => l.getD 0 undef = AG [encA .u8 d3]⟩, ⟨some 3, [], [3], fun l g => l.getD 0 undef = AG [encA .u8 d1]⟩, ⟨some 4, [0], [4], fun l g => ∃ (a8 : Option Addr) (c8 : Nat), l.getD 0 undef = .slice a8 l7.length c8 ∧ OwnS (Kd.int .u8) g (t + 9) 5 a8 l7.length c8 l7⟩, ⟨some 5, [], [5], fun l g => l.getD 0 undef = AG [encA .u8 d9]⟩, ⟨some 5, [0], [4], fun l g => ∃ (a8 : Option Addr) (c8 : Nat), l.getD 0 undef = .slice a8 l7.length c8 ∧ OwnS (Kd.int .u8) g (t + 9) 5 a8 l7.length c8 l7⟩, ⟨some 6, [], [6], fun l g => l.getD 0 undef = .bool (d3.1 == d9.1)⟩, ⟨some 7, [], [7], fun l g => l.getD 0 undef = .bool false⟩] [[], [], [], [], [], [0], [], []] [(t + 9)] [] [4, 5, 9, 11, 12, 13, 14, 15, 16, 17, 18, 19, 20, 21, 22, 23, 24, 25, 26, 27, 28, 29] (by kernel_rfl) (by simp <;> omega) (by simp) ⟨fun _ _ _ _ st h0 hl hj hB1 => (hB1.mono st (fun h => absurd (hl _ h) (by simp <;> omega))), fun _ _ _ _ st h0 hl hj hR3 => (RdS.mono (e := 5) hR3 st h0), fun _ _ _ _ st h0 hl hj hB3 => (hB3.mono st (fun h => absurd (hl _ h) (by simp <;> omega))), fun _ _ _ _ st h0 hl hj e0 => e0, fun _ _ _ _ st h0 hl hj e1 => e1, fun _ _ _ _ st h0 hl hj e2 => e2, fun _ _ _ _ st h0 hl hj e3 => e3, fun _ _ _ _ st h0 hl hj ⟨a8, c8, e4, hR8⟩ => ⟨a8, c8, e4, (hR8.mono st h0 (hj 0 (by simp) _ rfl))⟩, fun _ _ _ _ st h0 hl hj e5 => e5, fun _ _ _ _ st h0 hl hj ⟨a8, c8, e4, hR8⟩ => ⟨a8, c8, e4, (hR8.mono st h0 (hj 0 (by simp) _ rfl))⟩, fun _ _ _ _ st h0 hl hj e6 => e6, fun _ _ _ _ st h0 hl hj e7 => e7, tv⟩ ⟨hB1, hR3, hB3, tv, tv, tv, tv, tv, tv, tv, tv, tv, tv⟩ (by kernel_rfl) (fun vs => by kernel_rfl) ?_ ?_ ?_
   ·intro j hj
    have hq : j = 0 ∨ j = 1 ∨ j = 2 ∨ j = 3 ∨ j = 4 ∨ j = 5 ∨ j = 6 ∨ j = 7 ∨ j = 8 ∨ j = 9 ∨ j = 10 ∨ j = 11 ∨ j = 12 ∨ j = 13 ∨ j = 14 ∨ j = 15 ∨ j = 16 ∨ j = 17 ∨ j = 18 ∨ j = 19 ∨ j = 20 ∨ j = 21 := by have h : j < 22 := hj; omega
    rcases hq with rfl | rfl | rfl | rfl | rfl | rfl | rfl | rfl | rfl | rfl | rfl | rfl | rfl | rfl | rfl | rfl | rfl | rfl | rfl | rfl | rfl | rfl
    ·intro vs gq stq hl hf
     obtain ⟨v0, v1, v2, v3, v4, v5, v6, v7, rfl⟩ := len_k8 hl
     have e1 := (show v1 = .bool true from hf _ (memI 4 rfl) (by kernel_rfl))
     subst e1
     show Option.isSome _ = true
     kernel_rfl
    ·intro vs gq stq hl hf
     obtain ⟨v0, v1, v2, v3, v4, v5, v6, v7, rfl⟩ := len_k8 hl
     have e1 := (show v1 = .bool true from hf _ (memI 4 rfl) (by kernel_rfl))
     subst e1
     show Option.isSome _ = true
     kernel_rfl
    ·intro vs gq stq hl hf
     obtain ⟨v0, v1, v2, v3, v4, v5, v6, v7, rfl⟩ := len_k8 hl
     have e1 := (show v1 = .bool true from hf _ (memI 4 rfl) (by kernel_rfl))
     subst e1
     have e6 := (show v6 = .bool (d3.1 == d9.1) from hf _ (memI 10 rfl) (by kernel_rfl))
     subst e6
     show Option.isSome _ = true
     kernel_rfl
    ·intro vs gq stq hl hf
     obtain ⟨v0, v1, v2, v3, v4, v5, v6, v7, rfl⟩ := len_k8 hl
     have e7 := (show v7 = .bool false from hf _ (memI 11 rfl) (by kernel_rfl))
     subst e7
     show Option.isSome _ = true
     kernel_rfl
    ·intro vs gq stq hl hf
     obtain ⟨v0, v1, v2, v3, v4, v5, v6, v7, rfl⟩ := len_k8 hl
     have e7 := (show v7 = .bool false from hf _ (memI 11 rfl) (by kernel_rfl))
     subst e7
     show Option.isSome _ = true
     kernel_rfl
    ·intro vs gq stq hl hf
     obtain ⟨v0, v1, v2, v3, v4, v5, v6, v7, rfl⟩ := len_k8 hl
     have e7 := (show v7 = .bool false from hf _ (memI 11 rfl) (by kernel_rfl))
     subst e7
     show Option.isSome _ = true
     kernel_rfl
    ·intro vs gq stq hl hf
     obtain ⟨v0, v1, v2, v3, v4, v5, v6, v7, rfl⟩ := len_k8 hl
     have e7 := (show v7 = .bool false from hf _ (memI 11 rfl) (by kernel_rfl))
     subst e7
     show Option.isSome _ = true
     kernel_rfl
    ·intro vs gq stq hl hf
     obtain ⟨v0, v1, v2, v3, v4, v5, v6, v7, rfl⟩ := len_k8 hl
     have e7 := (show v7 = .bool false from hf _ (memI 11 rfl) (by kernel_rfl))
     subst e7
     show Option.isSome _ = true
     kernel_rfl
    ·intro vs gq stq hl hf
     obtain ⟨v0, v1, v2, v3, v4, v5, v6, v7, rfl⟩ := len_k8 hl
     have e7 := (show v7 = .bool false from hf _ (memI 11 rfl) (by kernel_rfl))
     subst e7
     show Option.isSome _ = true
     kernel_rfl
    ·intro vs gq stq hl hf
     obtain ⟨v0, v1, v2, v3, v4, v5, v6, v7, rfl⟩ := len_k8 hl
     have e7 := (show v7 = .bool false from hf _ (memI 11 rfl) (by kernel_rfl))
     subst e7
     show Option.isSome _ = true
     kernel_rfl
    ·intro vs gq stq hl hf
     obtain ⟨v0, v1, v2, v3, v4, v5, v6, v7, rfl⟩ := len_k8 hl
     have e7 := (show v7 = .bool false from hf _ (memI 11 rfl) (by kernel_rfl))
     subst e7
     show Option.isSome _ = true
     kernel_rfl
    ·intro vs gq stq hl hf
     obtain ⟨v0, v1, v2, v3, v4, v5, v6, v7, rfl⟩ := len_k8 hl
     have e7 := (show v7 = .bool false from hf _ (memI 11 rfl) (by kernel_rfl))
     subst e7
     show Option.isSome _ = true
     kernel_rfl
    ·intro vs gq stq hl hf
     obtain ⟨v0, v1, v2, v3, v4, v5, v6, v7, rfl⟩ := len_k8 hl
     have e7 := (show v7 = .bool false from hf _ (memI 11 rfl) (by kernel_rfl))
     subst e7
     show Option.isSome _ = true
     kernel_rfl
    ·intro vs gq stq hl hf
     obtain ⟨v0, v1, v2, v3, v4, v5, v6, v7, rfl⟩ := len_k8 hl
     have e7 := (show v7 = .bool false from hf _ (memI 11 rfl) (by kernel_rfl))
     subst e7
     show Option.isSome _ = true
     kernel_rfl
    ·intro vs gq stq hl hf
     obtain ⟨v0, v1, v2, v3, v4, v5, v6, v7, rfl⟩ := len_k8 hl
     have e7 := (show v7 = .bool false from hf _ (memI 11 rfl) (by kernel_rfl))
     subst e7
     show Option.isSome _ = true
     kernel_rfl
    ·intro vs gq stq hl hf
     obtain ⟨v0, v1, v2, v3, v4, v5, v6, v7, rfl⟩ := len_k8 hl
     have e7 := (show v7 = .bool false from hf _ (memI 11 rfl) (by kernel_rfl))
     subst e7
     show Option.isSome _ = true
     kernel_rfl
    ·intro vs gq stq hl hf
     obtain ⟨v0, v1, v2, v3, v4, v5, v6, v7, rfl⟩ := len_k8 hl
     have e7 := (show v7 = .bool false from hf _ (memI 11 rfl) (by kernel_rfl))
     subst e7
     show Option.isSome _ = true
     kernel_rfl
    ·intro vs gq stq hl hf
     obtain ⟨v0, v1, v2, v3, v4, v5, v6, v7, rfl⟩ := len_k8 hl
     have e7 := (show v7 = .bool false from hf _ (memI 11 rfl) (by kernel_rfl))
     subst e7
     show Option.isSome _ = true
     kernel_rfl
    ·intro vs gq stq hl hf
     obtain ⟨v0, v1, v2, v3, v4, v5, v6, v7, rfl⟩ := len_k8 hl
     have e7 := (show v7 = .bool false from hf _ (memI 11 rfl) (by kernel_rfl))
     subst e7
     show Option.isSome _ = true
     kernel_rfl
    ·intro vs gq stq hl hf
     obtain ⟨v0, v1, v2, v3, v4, v5, v6, v7, rfl⟩ := len_k8 hl
     have e7 := (show v7 = .bool false from hf _ (memI 11 rfl) (by kernel_rfl))
     subst e7
     show Option.isSome _ = true
     kernel_rfl
    ·intro vs gq stq hl hf
     obtain ⟨v0, v1, v2, v3, v4, v5, v6, v7, rfl⟩ := len_k8 hl
     have e7 := (show v7 = .bool false from hf _ (memI 11 rfl) (by kernel_rfl))
     subst e7
     show Option.isSome _ = true
     kernel_rfl
    ·intro vs gq stq hl hf
     obtain ⟨v0, v1, v2, v3, v4, v5, v6, v7, rfl⟩ := len_k8 hl
     have e7 := (show v7 = .bool false from hf _ (memI 11 rfl) (by kernel_rfl))
     subst e7
     show Option.isSome _ = true
     kernel_rfl
   ·intro j hj
    have hq : j = 0 ∨ j = 1 ∨ j = 2 ∨ j = 3 ∨ j = 4 ∨ j = 5 ∨ j = 6 ∨ j = 7 := by have h : j < 8 := hj; omega
    rcases hq with rfl | rfl | rfl | rfl | rfl | rfl | rfl | rfl
    ·intro vs gq stq hl hf
     obtain ⟨v0, v1, v2, v3, v4, v5, v6, v7, rfl⟩ := len_k8 hl
     have hcal12 := P.baizelaw32_told gq q3 hk12
     refine WP.callC hcal12 (by kernel_rfl) ?_
     rintro _ g24 st24 rfl
     refine WP.dn (Shown.o (v := .bool q3) st24.pure ?_)
     exact ⟨tv, tv, tv, rfl, tv, tv, tv, tv, tv, tv, tv, tv, tv⟩
    ·intro vs gq stq hl hf
     obtain ⟨v0, v1, v2, v3, v4, v5, v6, v7, rfl⟩ := len_k8 hl
     have e0 := (show v0 = .bool q3 from hf _ (memI 3 rfl) (by kernel_rfl))
     subst e0
     refine WP.stl 1 ?_
     refine WP.dn (Shown.ok (v := .bool q3) (by kernel_rfl) (Step.refl _ _) ?_)
     exact ⟨tv, tv, tv, tv, congrArg Value.bool h4, tv, tv, tv, tv, tv, tv, tv, tv⟩
    ·intro vs gq stq hl hf
     obtain ⟨v0, v1, v2, v3, v4, v5, v6, v7, rfl⟩ := len_k8 hl
     have hB3 := (show Box gq (t + 3) b3 23 [encA .u8 d3] [8] from hf _ (memI 2 rfl) (by kernel_rfl))
     have e1 := (show v1 = .bool true from hf _ (memI 4 rfl) (by kernel_rfl))
     subst e1
     refine WP.loadB (v := AG [encA .u8 d3]) hB3 (by kernel_rfl) (by kernel_rfl) ?_
     refine WP.dn (Shown.ok (v := AG [encA .u8 d3]) (by kernel_rfl) (Step.refl _ _) ?_)
     exact ⟨tv, tv, tv, tv, tv, rfl, tv, tv, tv, tv, tv, tv, tv⟩
    ·intro vs gq stq hl hf
     obtain ⟨v0, v1, v2, v3, v4, v5, v6, v7, rfl⟩ := len_k8 hl
     have hB1 := (show Box gq (t + 1) b1 23 [encA .u8 d1] [8] from hf _ (memI 0 rfl) (by kernel_rfl))
     have e1 := (show v1 = .bool true from hf _ (memI 4 rfl) (by kernel_rfl))
     subst e1
     refine WP.loadB (v := AG [encA .u8 d1]) hB1 (by kernel_rfl) (by kernel_rfl) ?_
     refine WP.dn (Shown.ok (v := AG [encA .u8 d1]) (by kernel_rfl) (Step.refl _ _) ?_)
     exact ⟨tv, tv, tv, tv, tv, tv, rfl, tv, tv, tv, tv, tv, tv⟩
    ·intro vs gq stq hl hf
     obtain ⟨v0, v1, v2, v3, v4, v5, v6, v7, rfl⟩ := len_k8 hl
     have hR3 := (show RdS (Kd.int .u8) gq 5 a3 l3.length c3 l3 from hf _ (memI 1 rfl) (by kernel_rfl))
     have e1 := (show v1 = .bool true from hf _ (memI 4 rfl) (by kernel_rfl))
     subst e1
     have e3 := (show v3 = AG [encA .u8 d1] from hf _ (memI 6 rfl) (by kernel_rfl))
     subst e3
     have hcal13 := P.baizeref32_Bytes gq (t + 9) d1 x1 l3 a3 l3.length c3 hR3 l7 hk13
     refine WP.callC hcal13 (by kernel_rfl) ?_
     rintro _ g25 st25 ⟨a8, n7, c8, rfl, hR8⟩
     obtain rfl := hR8.len
     refine WP.dn (Shown.o (v := .slice a8 l7.length c8) st25.pure ?_)
     exact ⟨tv, tv, tv, tv, tv, tv, tv, ⟨a8, c8, rfl, hR8⟩, tv, tv, tv, tv, tv⟩
    ·intro vs gq stq hl hf
     obtain ⟨v0, v1, v2, v3, v4, v5, v6, v7, rfl⟩ := len_k8 hl
     have e1 := (show v1 = .bool true from hf _ (memI 4 rfl) (by kernel_rfl))
     subst e1
     obtain ⟨a8, c8, e4, hR8⟩ := (show ∃ (a8 : Option Addr) (c8 : Nat), v4 = .slice a8 l7.length c8 ∧ OwnS (Kd.int .u8) gq (t + 9) 5 a8 l7.length c8 l7 from hf _ (memI 7 rfl) (by kernel_rfl))
     subst e4
     have hS4 : 0 ∉ ([(t + 9)] : List Nat) := by simp <;> omega
     have stl4 := GW.lend_step gq [(t + 9)]
     have hRl4 := hR8.lendTo hS4 (by simp)
     refine WP.regw (g' := GW.lend gq [(t + 9)]) rfl ?_
     have hcal14 := P.baizeref32_Of (GW.lend gq [(t + 9)]) l7 a8 l7.length c8 hRl4 d9 hk14
     refine WP.callC hcal14 (by kernel_rfl) ?_
     rintro _ g26 st26 rfl
     have st27 := (GW.back_step st26).lentS
     have hO4 := hR8.backTo hS4 (by simp) st26 (fun x => x)
     refine WP.regw (g' := GW.back gq g26 [(t + 9)]) rfl ?_
     generalize GW.back gq g26 [(t + 9)] = g27 at *
     refine WP.dn (Shown.o (v := AG [encA .u8 d9]) st27 ?_)
     exact ⟨tv, tv, tv, tv, tv, tv, tv, tv, rfl, ⟨a8, c8, rfl, hO4⟩, tv, tv, tv⟩
    ·intro vs gq stq hl hf
     obtain ⟨v0, v1, v2, v3, v4, v5, v6, v7, rfl⟩ := len_k8 hl
     have e1 := (show v1 = .bool true from hf _ (memI 4 rfl) (by kernel_rfl))
     subst e1
     have e2 := (show v2 = AG [encA .u8 d3] from hf _ (memI 5 rfl) (by kernel_rfl))
     subst e2
     have e5 := (show v5 = AG [encA .u8 d9] from hf _ (memI 8 rfl) (by kernel_rfl))
     subst e5
     refine WP.eqV (by kernel_rfl) (by kernel_rfl) (EqV.arr (d := 9998) (t := 23) (e := 5) (m := 8) (k := .u8) (x := d3) (y := d9) (by kernel_rfl) (by kernel_rfl)) ?_
     refine WP.dn (Shown.ok (v := .bool (d3.1 == d9.1)) (by kernel_rfl) (Step.refl _ _) ?_)
     exact ⟨tv, tv, tv, tv, tv, tv, tv, tv, tv, tv, rfl, tv, tv⟩
    ·intro vs gq stq hl hf
     obtain ⟨v0, v1, v2, v3, v4, v5, v6, v7, rfl⟩ := len_k8 hl
     have e1 := (show v1 = .bool true from hf _ (memI 4 rfl) (by kernel_rfl))
     subst e1
     have e6 := (show v6 = .bool (d3.1 == d9.1) from hf _ (memI 10 rfl) (by kernel_rfl))
     subst e6
     refine WP.stl 1 ?_
     refine WP.dn (Shown.ok (v := .bool (d3.1 == d9.1)) (by kernel_rfl) (Step.refl _ _) ?_)
     exact ⟨tv, tv, tv, tv, tv, tv, tv, tv, tv, tv, tv, congrArg Value.bool h5, tv⟩
   intro vs g36 st36 hl hf
   obtain ⟨v0, v1, v2, v3, v4, v5, v6, v7, rfl⟩ := len_k8 hl
   have e7 := (show v7 = .bool false from hf _ (memI 11 rfl) (by kernel_rfl))
   subst e7
   replace tot := tot.trans (st36.up1 (.inr (by omega)))
   refine NX.post ?_
   exact ⟨false, ⟨by kernel_rfl, by kernel_rfl⟩, tot, hs⟩
  replace hs := of_if_f hs h4
  refine CP.drawL (by kernel_rfl) [0, 1] N.baizelaw32_StateDigests_1 [⟨some 0, [], [0], fun l g => l.getD 0 undef = .bool q3⟩, ⟨some 1, [], [1], fun l g => l.getD 0 undef = .bool false⟩] [[], []] [] [] [2, 3, 4, 5, 6, 7, 8, 9, 10, 11, 12, 13, 14, 15, 16, 17, 18, 19, 20, 21, 22, 23, 24, 25, 26, 27, 28, 29] (by kernel_rfl) (by simp) (by simp) ⟨fun _ _ _ _ st h0 hl hj e0 => e0, fun _ _ _ _ st h0 hl hj e1 => e1, tv⟩ ⟨tv, tv, tv⟩ (by kernel_rfl) (fun vs => by kernel_rfl) ?_ ?_ ?_
  ·intro j hj
   have hq : j = 0 ∨ j = 1 ∨ j = 2 ∨ j = 3 ∨ j = 4 ∨ j = 5 ∨ j = 6 ∨ j = 7 ∨ j = 8 ∨ j = 9 ∨ j = 10 ∨ j = 11 ∨ j = 12 ∨ j = 13 ∨ j = 14 ∨ j = 15 ∨ j = 16 ∨ j = 17 ∨ j = 18 ∨ j = 19 ∨ j = 20 ∨ j = 21 ∨ j = 22 ∨ j = 23 ∨ j = 24 ∨ j = 25 ∨ j = 26 ∨ j = 27 := by have h : j < 28 := hj; omega
   rcases hq with rfl | rfl | rfl | rfl | rfl | rfl | rfl | rfl | rfl | rfl | rfl | rfl | rfl | rfl | rfl | rfl | rfl | rfl | rfl | rfl | rfl | rfl | rfl | rfl | rfl | rfl | rfl | rfl
   ·intro vs gq stq hl hf
    obtain ⟨v0, v1, rfl⟩ := len_k2 hl
    have e1 := (show v1 = .bool false from hf _ (memI 1 rfl) (by kernel_rfl))
    subst e1
    show Option.isSome _ = true
    kernel_rfl
   ·intro vs gq stq hl hf
    obtain ⟨v0, v1, rfl⟩ := len_k2 hl
    have e1 := (show v1 = .bool false from hf _ (memI 1 rfl) (by kernel_rfl))
    subst e1
    show Option.isSome _ = true
    kernel_rfl
   ·intro vs gq stq hl hf
    obtain ⟨v0, v1, rfl⟩ := len_k2 hl
    have e1 := (show v1 = .bool false from hf _ (memI 1 rfl) (by kernel_rfl))
    subst e1
    show Option.isSome _ = true
    kernel_rfl
   ·intro vs gq stq hl hf
    obtain ⟨v0, v1, rfl⟩ := len_k2 hl
    have e1 := (show v1 = .bool false from hf _ (memI 1 rfl) (by kernel_rfl))
    subst e1
    show Option.isSome _ = true
    kernel_rfl
   ·intro vs gq stq hl hf
    obtain ⟨v0, v1, rfl⟩ := len_k2 hl
    have e1 := (show v1 = .bool false from hf _ (memI 1 rfl) (by kernel_rfl))
    subst e1
    show Option.isSome _ = true
    kernel_rfl
   ·intro vs gq stq hl hf
    obtain ⟨v0, v1, rfl⟩ := len_k2 hl
    have e1 := (show v1 = .bool false from hf _ (memI 1 rfl) (by kernel_rfl))
    subst e1
    show Option.isSome _ = true
    kernel_rfl
   ·intro vs gq stq hl hf
    obtain ⟨v0, v1, rfl⟩ := len_k2 hl
    have e1 := (show v1 = .bool false from hf _ (memI 1 rfl) (by kernel_rfl))
    subst e1
    show Option.isSome _ = true
    kernel_rfl
   ·intro vs gq stq hl hf
    obtain ⟨v0, v1, rfl⟩ := len_k2 hl
    have e1 := (show v1 = .bool false from hf _ (memI 1 rfl) (by kernel_rfl))
    subst e1
    show Option.isSome _ = true
    kernel_rfl
   ·intro vs gq stq hl hf
    obtain ⟨v0, v1, rfl⟩ := len_k2 hl
    have e1 := (show v1 = .bool false from hf _ (memI 1 rfl) (by kernel_rfl))
    subst e1
    show Option.isSome _ = true
    kernel_rfl
   ·intro vs gq stq hl hf
    obtain ⟨v0, v1, rfl⟩ := len_k2 hl
    have e1 := (show v1 = .bool false from hf _ (memI 1 rfl) (by kernel_rfl))
    subst e1
    show Option.isSome _ = true
    kernel_rfl
   ·intro vs gq stq hl hf
    obtain ⟨v0, v1, rfl⟩ := len_k2 hl
    have e1 := (show v1 = .bool false from hf _ (memI 1 rfl) (by kernel_rfl))
    subst e1
    show Option.isSome _ = true
    kernel_rfl
   ·intro vs gq stq hl hf
    obtain ⟨v0, v1, rfl⟩ := len_k2 hl
    have e1 := (show v1 = .bool false from hf _ (memI 1 rfl) (by kernel_rfl))
    subst e1
    show Option.isSome _ = true
    kernel_rfl
   ·intro vs gq stq hl hf
    obtain ⟨v0, v1, rfl⟩ := len_k2 hl
    have e1 := (show v1 = .bool false from hf _ (memI 1 rfl) (by kernel_rfl))
    subst e1
    show Option.isSome _ = true
    kernel_rfl
   ·intro vs gq stq hl hf
    obtain ⟨v0, v1, rfl⟩ := len_k2 hl
    have e1 := (show v1 = .bool false from hf _ (memI 1 rfl) (by kernel_rfl))
    subst e1
    show Option.isSome _ = true
    kernel_rfl
   ·intro vs gq stq hl hf
    obtain ⟨v0, v1, rfl⟩ := len_k2 hl
    have e1 := (show v1 = .bool false from hf _ (memI 1 rfl) (by kernel_rfl))
    subst e1
    show Option.isSome _ = true
    kernel_rfl
   ·intro vs gq stq hl hf
    obtain ⟨v0, v1, rfl⟩ := len_k2 hl
    have e1 := (show v1 = .bool false from hf _ (memI 1 rfl) (by kernel_rfl))
    subst e1
    show Option.isSome _ = true
    kernel_rfl
   ·intro vs gq stq hl hf
    obtain ⟨v0, v1, rfl⟩ := len_k2 hl
    have e1 := (show v1 = .bool false from hf _ (memI 1 rfl) (by kernel_rfl))
    subst e1
    show Option.isSome _ = true
    kernel_rfl
   ·intro vs gq stq hl hf
    obtain ⟨v0, v1, rfl⟩ := len_k2 hl
    have e1 := (show v1 = .bool false from hf _ (memI 1 rfl) (by kernel_rfl))
    subst e1
    show Option.isSome _ = true
    kernel_rfl
   ·intro vs gq stq hl hf
    obtain ⟨v0, v1, rfl⟩ := len_k2 hl
    have e1 := (show v1 = .bool false from hf _ (memI 1 rfl) (by kernel_rfl))
    subst e1
    show Option.isSome _ = true
    kernel_rfl
   ·intro vs gq stq hl hf
    obtain ⟨v0, v1, rfl⟩ := len_k2 hl
    have e1 := (show v1 = .bool false from hf _ (memI 1 rfl) (by kernel_rfl))
    subst e1
    show Option.isSome _ = true
    kernel_rfl
   ·intro vs gq stq hl hf
    obtain ⟨v0, v1, rfl⟩ := len_k2 hl
    have e1 := (show v1 = .bool false from hf _ (memI 1 rfl) (by kernel_rfl))
    subst e1
    show Option.isSome _ = true
    kernel_rfl
   ·intro vs gq stq hl hf
    obtain ⟨v0, v1, rfl⟩ := len_k2 hl
    have e1 := (show v1 = .bool false from hf _ (memI 1 rfl) (by kernel_rfl))
    subst e1
    show Option.isSome _ = true
    kernel_rfl
   ·intro vs gq stq hl hf
    obtain ⟨v0, v1, rfl⟩ := len_k2 hl
    have e1 := (show v1 = .bool false from hf _ (memI 1 rfl) (by kernel_rfl))
    subst e1
    show Option.isSome _ = true
    kernel_rfl
   ·intro vs gq stq hl hf
    obtain ⟨v0, v1, rfl⟩ := len_k2 hl
    have e1 := (show v1 = .bool false from hf _ (memI 1 rfl) (by kernel_rfl))
    subst e1
    show Option.isSome _ = true
    kernel_rfl
   ·intro vs gq stq hl hf
    obtain ⟨v0, v1, rfl⟩ := len_k2 hl
    have e1 := (show v1 = .bool false from hf _ (memI 1 rfl) (by kernel_rfl))
    subst e1
    show Option.isSome _ = true
    kernel_rfl
   ·intro vs gq stq hl hf
    obtain ⟨v0, v1, rfl⟩ := len_k2 hl
    have e1 := (show v1 = .bool false from hf _ (memI 1 rfl) (by kernel_rfl))
    subst e1
    show Option.isSome _ = true
    kernel_rfl
   ·intro vs gq stq hl hf
    obtain ⟨v0, v1, rfl⟩ := len_k2 hl
    have e1 := (show v1 = .bool false from hf _ (memI 1 rfl) (by kernel_rfl))
    subst e1
    show Option.isSome _ = true
    kernel_rfl
   ·intro vs gq stq hl hf
    obtain ⟨v0, v1, rfl⟩ := len_k2 hl
    have e1 := (show v1 = .bool false from hf _ (memI 1 rfl) (by kernel_rfl))
    subst e1
    show Option.isSome _ = true
    kernel_rfl
  ·intro j hj
   have hq : j = 0 ∨ j = 1 := by have h : j < 2 := hj; omega
   rcases hq with rfl | rfl
   ·intro vs gq stq hl hf
    obtain ⟨v0, v1, rfl⟩ := len_k2 hl
    have hcal12 := P.baizelaw32_told gq q3 hk12
    refine WP.callC hcal12 (by kernel_rfl) ?_
    rintro _ g24 st24 rfl
    refine WP.dn (Shown.o (v := .bool q3) st24.pure ?_)
    exact ⟨rfl, tv, tv⟩
   ·intro vs gq stq hl hf
    obtain ⟨v0, v1, rfl⟩ := len_k2 hl
    have e0 := (show v0 = .bool q3 from hf _ (memI 0 rfl) (by kernel_rfl))
    subst e0
    refine WP.stl 1 ?_
    refine WP.dn (Shown.ok (v := .bool q3) (by kernel_rfl) (Step.refl _ _) ?_)
    exact ⟨tv, congrArg Value.bool h4, tv⟩
  intro vs g37 st37 hl hf
  obtain ⟨v0, v1, rfl⟩ := len_k2 hl
  have e1 := (show v1 = .bool false from hf _ (memI 1 rfl) (by kernel_rfl))
  subst e1
  replace tot := tot.trans st37.toNo.pure
  refine NX.post ?_
  exact ⟨false, ⟨by kernel_rfl, by kernel_rfl⟩, tot, hs⟩
 clear tot hs hB1 hB2 hR1 hR2 hR3 hR4 hB3 hB5 hB7
 rintro tm g ⟨q2, hF, tot, hs⟩
 clear ds
 obtain ⟨ds, rfl⟩ := hF.open
 clear hF
 unfold F.baizelaw32_StateDigests.c1 at hs
 refine CP.ret ?_
 replace hs := Option.some.inj hs
 obtain rfl := hs
 exact NX.fin (v := .bool q2) (Res.still (by kernel_rfl)) tot htL rfl
end Go.Proofs.Ythfmgobnanifnaa
