/-
  Walks, written by program: each Go function computes the plain function of its name, in whatever world its arguments' facts hold.
-/
import Derived.Test.YticlfbpmfejdoaaWPt2
namespace Go.Proofs.Yticlfbpmfejdoaa
open Go.RowKit Go.Lab
attribute [local irreducible] WP CP NX wpList Code.wp Calls
set_option maxRecDepth 100000
set_option maxHeartbeats 4000000
set_option linter.unusedVariables false

def N.baizeref47_Bytes_0 : List (List Nat) := [[], [0], [0, 1], [], [3], [0, 1, 2, 3, 4], [0, 1, 2, 3, 4, 5], [0, 1, 2, 3, 4, 5, 6]]
def N.baizeref47_Bytes_1 : List (List Nat) := [[], [], [1], [1, 2], [1, 2, 3], [0, 1, 2, 3, 4], [], [6], [6, 7], [0, 1, 2, 3, 4, 5, 6, 7, 8], [0, 1, 2, 3, 4, 5, 6, 7, 8, 9], [0, 1, 2, 3, 4, 5, 6, 7, 8, 9, 10]]
def N.baizeref47_Bytes_2 : List (List Nat) := [[], [], [1], [1, 2], [0, 1, 2, 3], [], [5], [0, 1, 2, 3, 4, 5, 6], [0, 1, 2, 3, 4, 5, 6, 7], [], [9], [0, 1, 2, 3, 4, 5, 6, 7, 8, 9, 10], [0, 1, 2, 3, 4, 5, 6, 7, 8, 9, 10, 11], [0, 1, 2, 3, 4, 5, 6, 7, 8, 9, 10, 11, 12]]
def F.baizeref47_Bytes.l1 (l1 : List S_baizeref47_Held) : Nat → (List Int) → Int → Option ((List Int))
 | 0, _, _ => none
 | k + 1, l11, x2 => (if decide (x2 < (l1.length : Int)) = true then (if (0 : Int) ≤ x2 ∧ x2 < (l1.length : Int) then ((F.baizeref01_Bytes (((getI l1 x2).f1).1)).bind fun l17 => (if l11.length + l17.length ≤ 140737488355328 then ((F.baizeref47_num ((getI l1 x2).f2)).bind fun l18 => (if (l11 ++ l17).length + l18.length ≤ 140737488355328 then ((F.baizeref47_num ((getI l1 x2).f3)).bind fun l19 => (if ((l11 ++ l17) ++ l18).length + l19.length ≤ 140737488355328 then ((F.baizeref47_num ((getI l1 x2).f4)).bind fun l20 => (if (((l11 ++ l17) ++ l18) ++ l19).length + l20.length ≤ 140737488355328 then (F.baizeref47_Bytes.l1 l1 k ((((l11 ++ l17) ++ l18) ++ l19) ++ l20) (IntKind.i64.wrap (x2 + 1))) else none)) else none)) else none)) else none)) else none) else (some l11))
def F.baizeref47_Bytes (d1 : Arr Int 8) (x1 : Int) (d2 : Arr Int 2) (l1 : List S_baizeref47_Held) : Option ((List Int)) := ((F.baizeref01_Bytes d1.1).bind fun l2 => ((F.baizeref47_num x1).bind fun l3 => (if l2.length + l3.length ≤ 140737488355328 then ((F.baizeref47_num (aget d2 0)).bind fun l4 => (if (l2 ++ l3).length + l4.length ≤ 140737488355328 then ((F.baizeref47_num (aget d2 1)).bind fun l5 => (if ((l2 ++ l3) ++ l4).length + l5.length ≤ 140737488355328 then ((F.baizeref47_num (l1.length : Int)).bind fun l6 => (if (((l2 ++ l3) ++ l4) ++ l5).length + l6.length ≤ 140737488355328 then (F.baizeref47_Bytes.l1 l1 fuel ((((l2 ++ l3) ++ l4) ++ l5) ++ l6) 0) else none)) else none)) else none)) else none)))
theorem P.baizeref47_Bytes (g0 : GW) (r0 : Nat) (d1 : Arr Int 8) (x1 : Int) (d2 : Arr Int 2) (l1 : List S_baizeref47_Held) (a1 : Option Addr) (n1 : Nat) (c1 : Nat) (hR1 : RdS k_S_baizeref47_Held g0 60 a1 n1 c1 l1) (o1 : List Int) (hs : F.baizeref47_Bytes d1 x1 d2 l1 = some o1) :
  Calls Try.prog 31 #[AG [encA .u8 d1, [.int .i64 x1], encA .i64 d2, [.slice a1 n1 c1]]] g0.w (Ret NoM g0 fun v g => ∃ (a_1 : Option Addr) (n_1 : Nat) (c_1 : Nat), v = .slice a_1 n_1 c_1 ∧ OwnS (Kd.int .u8) g r0 5 a_1 n_1 c_1 o1) := by
 refine calls_of (args := [AG [encA .u8 d1, [.int .i64 x1], encA .i64 d2, [.slice a1 n1 c1]]]) Try.func31 rfl (r0 + 0) ?_
 intro t ht htL
 refine ⟨_, rfl, ?_⟩
 refine CP.refr 61 [(0, AG [encA .u8 d1, [.int .i64 x1], encA .i64 d2, [.slice a1 n1 c1]])] (by kernel_rfl) (by kernel_rfl) ?_
 intro ds
 have tot : Step (fun l => NoM l ∨ t ≤ l) g0 g0 := Step.refl _ _
 unfold F.baizeref47_Bytes at hs
 refine CP.seqR ?_
 refine WP.alloc (T := 26) (t + 1) [encA .u8 d1, [.int .i64 x1], encA .i64 d2, [.slice a1 n1 c1]] [8, 1, 2, 1] (by kernel_rfl) (by simp [len_encA]) ?_
 intro g1 b1 st1 hB1
 replace hR1 := hR1.mono st1 (fun x => x)
 replace tot := tot.trans st1.pure
 refine WP.stl 1 ?_
 refine WP.dn ?_
 refine NX.then_n ?_
 refine CP.seq ?_
 obtain ⟨g2, hw1, st2, hnew⟩ := hB1.relab 0
 refine CP.regw hw1 ?_
 replace hR1 := hR1.mono st2 (WL.no1 (by omega))
 replace tot := tot.trans (st2.up1 (.inr (by omega)))
 clear hB1
 have hB1 := hnew
 clear hnew
 replace hs := Option.bind_eq_some_iff.1 hs
 obtain ⟨l2, hk1, hs⟩ := hs
 replace hs := Option.bind_eq_some_iff.1 hs
 obtain ⟨l3, hk2, hs⟩ := hs
 by_cases hc1 : l2.length + l3.length ≤ 140737488355328
 case neg => rw [if_neg hc1] at hs; cases hs
 replace hs := of_if_p hs hc1
 refine CP.drawL (by kernel_rfl) [1, 2, 4, 5, 6] N.baizeref47_Bytes_0 [⟨none, [], [], fun l g => Box g 0 b1 26 [encA .u8 d1, [.int .i64 x1], encA .i64 d2, [.slice a1 n1 c1]] [8, 1, 2, 1]⟩, ⟨some 0, [], [0], fun l g => ∃ (a3 : Option Addr), l.getD 0 undef = .slice a3 ((8 : Int).toNat - (0 : Int).toNat) (8 - (0 : Int).toNat) ∧ RdS (Kd.int .u8) g 5 a3 ((8 : Int).toNat - (0 : Int).toNat) (8 - (0 : Int).toNat) d1.1⟩, ⟨some 1, [0], [1], fun l g => ∃ (a4 : Option Addr) (c2 : Nat), l.getD 0 undef = .slice a4 l2.length c2 ∧ OwnS (Kd.int .u8) g (t + 2) 5 a4 l2.length c2 l2⟩, ⟨some 2, [], [2], fun l g => l.getD 0 undef = .int .i64 x1⟩, ⟨some 3, [], [3], fun l g => ∃ (a5 : Option Addr) (c3 : Nat), l.getD 0 undef = .slice a5 l3.length c3 ∧ OwnS (Kd.int .u8) g (t + 3) 5 a5 l3.length c3 l3⟩, ⟨some 4, [0], [4], fun l g => ∃ (a6 : Option Addr) (c4 : Nat), l.getD 0 undef = .slice a6 (l2.length + l3.length) c4 ∧ OwnS (Kd.int .u8) g (t + 2) 5 a6 (l2.length + l3.length) c4 (l2 ++ l3)⟩, ⟨some 4, [], [1], fun l g => ∃ (a4 : Option Addr) (c2 : Nat), l.getD 0 undef = .slice a4 l2.length c2⟩] [[], [], [], [], [0]] [(t + 2)] [0, 3] [7] (by kernel_rfl) (by simp <;> omega) (by simp) ⟨fun _ _ _ _ st h0 hl hj hB1 => (hB1.mono st (fun h => absurd (hl _ h) (by simp <;> omega))), fun _ _ _ _ st h0 hl hj ⟨a3, e0, hR3⟩ => ⟨a3, e0, (RdS.mono (e := 5) hR3 st h0)⟩, fun _ _ _ _ st h0 hl hj ⟨a4, c2, e1, hR4⟩ => ⟨a4, c2, e1, (hR4.mono st h0 (hj 0 (by simp) _ rfl))⟩, fun _ _ _ _ st h0 hl hj e2 => e2, fun _ _ _ _ st h0 hl hj ⟨a5, c3, e3, hR5⟩ => ⟨a5, c3, e3, (hR5.mono st h0 (fun h => absurd (hl _ h) (by simp <;> omega)))⟩, fun _ _ _ _ st h0 hl hj ⟨a6, c4, e4, hR6⟩ => ⟨a6, c4, e4, (hR6.mono st h0 (hj 0 (by simp) _ rfl))⟩, fun _ _ _ _ st h0 hl hj ⟨a4, c2, e1⟩ => ⟨a4, c2, e1⟩, tv⟩ ⟨hB1, tv, tv, tv, tv, tv, tv, tv⟩ (by kernel_rfl) (fun vs => by kernel_rfl) ?_ ?_ ?_
 ·intro j hj
  have hq : j = 0 := by have h : j < 1 := hj; omega
  rcases hq with rfl
  ·intro vs gq stq hl hf
   obtain ⟨v0, v1, v2, v3, v4, rfl⟩ := len_k5 hl
   obtain ⟨a6, c4, e4, hR6⟩ := (show ∃ (a6 : Option Addr) (c4 : Nat), v4 = .slice a6 (l2.length + l3.length) c4 ∧ OwnS (Kd.int .u8) gq (t + 2) 5 a6 (l2.length + l3.length) c4 (l2 ++ l3) from hf _ (memI 5 rfl) (by kernel_rfl))
   subst e4
   show Option.isSome _ = true
   kernel_rfl
 ·intro j hj
  have hq : j = 0 ∨ j = 1 ∨ j = 2 ∨ j = 3 ∨ j = 4 := by have h : j < 5 := hj; omega
  rcases hq with rfl | rfl | rfl | rfl | rfl
  ·intro vs gq stq hl hf
   obtain ⟨v0, v1, v2, v3, v4, rfl⟩ := len_k5 hl
   have hB1 := (show Box gq 0 b1 26 [encA .u8 d1, [.int .i64 x1], encA .i64 d2, [.slice a1 n1 c1]] [8, 1, 2, 1] from hf _ (memI 0 rfl) (by kernel_rfl))
   refine WP.sliceZ (o := 0) (m := 8) (k := .u8) (d := d1) (e := 5) (lo := none) (hi := none) hB1 (by kernel_rfl) (0 : Int) (8 : Int) (by kernel_rfl) (.inl ⟨rfl, rfl⟩) (.inl ⟨rfl, rfl⟩) (by decide) ?_
   intro a3 hR3
   rw [sliceI_all (m := 8) (d := d1) (j := (8 : Int)) rfl] at hR3
   refine WP.dn (Shown.ok (v := .slice a3 ((8 : Int).toNat - (0 : Int).toNat) (8 - (0 : Int).toNat)) (by kernel_rfl) (Step.refl _ _) ?_)
   exact ⟨tv, ⟨a3, rfl, hR3⟩, tv, tv, tv, tv, tv, tv⟩
  ·intro vs gq stq hl hf
   obtain ⟨v0, v1, v2, v3, v4, rfl⟩ := len_k5 hl
   obtain ⟨a3, e0, hR3⟩ := (show ∃ (a3 : Option Addr), v0 = .slice a3 ((8 : Int).toNat - (0 : Int).toNat) (8 - (0 : Int).toNat) ∧ RdS (Kd.int .u8) gq 5 a3 ((8 : Int).toNat - (0 : Int).toNat) (8 - (0 : Int).toNat) d1.1 from hf _ (memI 1 rfl) (by kernel_rfl))
   subst e0
   have hcal1 := P.baizeref01_Bytes gq (t + 2) d1.1 a3 ((8 : Int).toNat - (0 : Int).toNat) (8 - (0 : Int).toNat) hR3 l2 hk1
   refine WP.callC hcal1 (by kernel_rfl) ?_
   rintro _ g3 st3 ⟨a4, n2, c2, rfl, hR4⟩
   obtain rfl := hR4.len
   refine WP.dn (Shown.o (v := .slice a4 l2.length c2) st3.pure ?_)
   exact ⟨tv, tv, ⟨a4, c2, rfl, hR4⟩, tv, tv, tv, tv, tv⟩
  ·intro vs gq stq hl hf
   obtain ⟨v0, v1, v2, v3, v4, rfl⟩ := len_k5 hl
   have hB1 := (show Box gq 0 b1 26 [encA .u8 d1, [.int .i64 x1], encA .i64 d2, [.slice a1 n1 c1]] [8, 1, 2, 1] from hf _ (memI 0 rfl) (by kernel_rfl))
   refine WP.loadB (v := .int .i64 x1) hB1 (by kernel_rfl) (by kernel_rfl) ?_
   refine WP.dn (Shown.ok (v := .int .i64 x1) (by kernel_rfl) (Step.refl _ _) ?_)
   exact ⟨tv, tv, tv, rfl, tv, tv, tv, tv⟩
  ·intro vs gq stq hl hf
   obtain ⟨v0, v1, v2, v3, v4, rfl⟩ := len_k5 hl
   have e2 := (show v2 = .int .i64 x1 from hf _ (memI 3 rfl) (by kernel_rfl))
   subst e2
   have hcal2 := P.baizeref47_num gq (t + 3) x1 l3 hk2
   refine WP.callC hcal2 (by kernel_rfl) ?_
   rintro _ g4 st4 ⟨a5, n3, c3, rfl, hR5⟩
   obtain rfl := hR5.len
   refine WP.dn (Shown.o (v := .slice a5 l3.length c3) st4.pure ?_)
   exact ⟨tv, tv, tv, tv, ⟨a5, c3, rfl, hR5⟩, tv, tv, tv⟩
  ·intro vs gq stq hl hf
   obtain ⟨v0, v1, v2, v3, v4, rfl⟩ := len_k5 hl
   obtain ⟨a4, c2, e1, hR4⟩ := (show ∃ (a4 : Option Addr) (c2 : Nat), v1 = .slice a4 l2.length c2 ∧ OwnS (Kd.int .u8) gq (t + 2) 5 a4 l2.length c2 l2 from hf _ (memI 2 rfl) (by kernel_rfl))
   subst e1
   obtain ⟨a5, c3, e3, hR5⟩ := (show ∃ (a5 : Option Addr) (c3 : Nat), v3 = .slice a5 l3.length c3 ∧ OwnS (Kd.int .u8) gq (t + 3) 5 a5 l3.length c3 l3 from hf _ (memI 4 rfl) (by kernel_rfl))
   subst e3
   refine WP.append (kd := (Kd.int .u8)) (t := 64) (e := 5) (bytes := 1) (a2 := a5) (c2 := c3) hR4 hR5.src hR5.len (by kernel_rfl) (by kernel_rfl) (by omega) (by simp only [maxLen]; omega) (by omega) ?_
   intro g5 a6 c4 st5 hR6
   refine WP.dn (Shown.o (v := .slice a6 (l2.length + l3.length) c4) st5 ?_)
   exact ⟨tv, tv, tv, tv, tv, ⟨a6, c4, rfl, hR6⟩, ⟨a4, c2, rfl⟩, tv⟩
 intro vs g6 st6 hl hf
 obtain ⟨v0, v1, v2, v3, v4, rfl⟩ := len_k5 hl
 obtain ⟨a6, c4, e4, hR6⟩ := (show ∃ (a6 : Option Addr) (c4 : Nat), v4 = .slice a6 (l2.length + l3.length) c4 ∧ OwnS (Kd.int .u8) g6 (t + 2) 5 a6 (l2.length + l3.length) c4 (l2 ++ l3) from hf _ (memI 5 rfl) (by kernel_rfl))
 subst e4
 replace hB1 := hB1.mono st6 (WL.no1 (by omega))
 replace hR1 := hR1.mono st6 (WL.no1 (by omega))
 replace tot := tot.trans (st6.up1 (.inr (by omega)))
 refine NX.then_n ?_
 refine CP.refr 61 [(1, .pointer (some ⟨b1, 0, none⟩)), (3, .slice a6 (l2.length + l3.length) c4)] (by kernel_rfl) (by kernel_rfl) ?_
 clear ds
 intro ds
 refine CP.seq ?_
 replace hs := Option.bind_eq_some_iff.1 hs
 obtain ⟨l4, hk3, hs⟩ := hs
 by_cases hc2 : (l2 ++ l3).length + l4.length ≤ 140737488355328
 case neg => rw [if_neg hc2] at hs; cases hs
 replace hs := of_if_p hs hc2
 replace hs := Option.bind_eq_some_iff.1 hs
 obtain ⟨l5, hk4, hs⟩ := hs
 by_cases hc3 : ((l2 ++ l3) ++ l4).length + l5.length ≤ 140737488355328
 case neg => rw [if_neg hc3] at hs; cases hs
 replace hs := of_if_p hs hc3
 refine CP.drawL (by kernel_rfl) [3, 4, 5, 8, 9, 10] N.baizeref47_Bytes_1 [⟨none, [], [], fun l g => Box g 0 b1 26 [encA .u8 d1, [.int .i64 x1], encA .i64 d2, [.slice a1 n1 c1]] [8, 1, 2, 1]⟩, ⟨none, [0], [], fun l g => OwnS (Kd.int .u8) g (t + 2) 5 a6 (l2.length + l3.length) c4 (l2 ++ l3)⟩, ⟨some 0, [], [0], fun l g => l.getD 0 undef = .int .i64 (aget d2 0)⟩, ⟨some 1, [], [1], fun l g => ∃ (a7 : Option Addr) (c5 : Nat), l.getD 0 undef = .slice a7 l4.length c5 ∧ OwnS (Kd.int .u8) g (t + 4) 5 a7 l4.length c5 l4⟩, ⟨some 2, [0], [2], fun l g => ∃ (a8 : Option Addr) (c6 : Nat), l.getD 0 undef = .slice a8 ((l2.length + l3.length) + l4.length) c6 ∧ OwnS (Kd.int .u8) g (t + 2) 5 a8 ((l2.length + l3.length) + l4.length) c6 ((l2 ++ l3) ++ l4)⟩, ⟨some 3, [], [3], fun l g => l.getD 0 undef = .int .i64 (aget d2 1)⟩, ⟨some 4, [], [4], fun l g => ∃ (a9 : Option Addr) (c7 : Nat), l.getD 0 undef = .slice a9 l5.length c7 ∧ OwnS (Kd.int .u8) g (t + 5) 5 a9 l5.length c7 l5⟩, ⟨some 5, [0], [5], fun l g => ∃ (a10 : Option Addr) (c8 : Nat), l.getD 0 undef = .slice a10 (((l2.length + l3.length) + l4.length) + l5.length) c8 ∧ OwnS (Kd.int .u8) g (t + 2) 5 a10 (((l2.length + l3.length) + l4.length) + l5.length) c8 (((l2 ++ l3) ++ l4) ++ l5)⟩, ⟨some 5, [], [2], fun l g => ∃ (a8 : Option Addr) (c6 : Nat), l.getD 0 undef = .slice a8 ((l2.length + l3.length) + l4.length) c6⟩] [[], [], [0], [], [], [0]] [(t + 2)] [0, 1, 2, 6, 7] [11] (by kernel_rfl) (by simp <;> omega) (by simp) ⟨fun _ _ _ _ st h0 hl hj hB1 => (hB1.mono st (fun h => absurd (hl _ h) (by simp <;> omega))), fun _ _ _ _ st h0 hl hj hR6 => (hR6.mono st h0 (hj 0 (by simp) _ rfl)), fun _ _ _ _ st h0 hl hj e0 => e0, fun _ _ _ _ st h0 hl hj ⟨a7, c5, e1, hR7⟩ => ⟨a7, c5, e1, (hR7.mono st h0 (fun h => absurd (hl _ h) (by simp <;> omega)))⟩, fun _ _ _ _ st h0 hl hj ⟨a8, c6, e2, hR8⟩ => ⟨a8, c6, e2, (hR8.mono st h0 (hj 0 (by simp) _ rfl))⟩, fun _ _ _ _ st h0 hl hj e3 => e3, fun _ _ _ _ st h0 hl hj ⟨a9, c7, e4, hR9⟩ => ⟨a9, c7, e4, (hR9.mono st h0 (fun h => absurd (hl _ h) (by simp <;> omega)))⟩, fun _ _ _ _ st h0 hl hj ⟨a10, c8, e5, hR10⟩ => ⟨a10, c8, e5, (hR10.mono st h0 (hj 0 (by simp) _ rfl))⟩, fun _ _ _ _ st h0 hl hj ⟨a8, c6, e2⟩ => ⟨a8, c6, e2⟩, tv⟩ ⟨hB1, hR6, tv, tv, tv, tv, tv, tv, tv, tv⟩ (by kernel_rfl) (fun vs => by kernel_rfl) ?_ ?_ ?_
 ·intro j hj
  have hq : j = 0 := by have h : j < 1 := hj; omega
  rcases hq with rfl
  ·intro vs gq stq hl hf
   obtain ⟨v0, v1, v2, v3, v4, v5, rfl⟩ := len_k6 hl
   obtain ⟨a10, c8, e5, hR10⟩ := (show ∃ (a10 : Option Addr) (c8 : Nat), v5 = .slice a10 (((l2.length + l3.length) + l4.length) + l5.length) c8 ∧ OwnS (Kd.int .u8) gq (t + 2) 5 a10 (((l2.length + l3.length) + l4.length) + l5.length) c8 (((l2 ++ l3) ++ l4) ++ l5) from hf _ (memI 7 rfl) (by kernel_rfl))
   subst e5
   show Option.isSome _ = true
   kernel_rfl
 ·intro j hj
  have hq : j = 0 ∨ j = 1 ∨ j = 2 ∨ j = 3 ∨ j = 4 ∨ j = 5 := by have h : j < 6 := hj; omega
  rcases hq with rfl | rfl | rfl | rfl | rfl | rfl
  ·intro vs gq stq hl hf
   obtain ⟨v0, v1, v2, v3, v4, v5, rfl⟩ := len_k6 hl
   have hB1 := (show Box gq 0 b1 26 [encA .u8 d1, [.int .i64 x1], encA .i64 d2, [.slice a1 n1 c1]] [8, 1, 2, 1] from hf _ (memI 0 rfl) (by kernel_rfl))
   refine WP.loadE (ty := 3) (o := 9) (m := 2) (k := .i64) (d := d2) (i := 0) hB1 (by kernel_rfl) (by decide) (by kernel_rfl) (by kernel_rfl) ?_
   refine WP.dn (Shown.ok (v := .int .i64 (aget d2 0)) (by kernel_rfl) (Step.refl _ _) ?_)
   exact ⟨tv, tv, rfl, tv, tv, tv, tv, tv, tv, tv⟩
  ·intro vs gq stq hl hf
   obtain ⟨v0, v1, v2, v3, v4, v5, rfl⟩ := len_k6 hl
   have e0 := (show v0 = .int .i64 (aget d2 0) from hf _ (memI 2 rfl) (by kernel_rfl))
   subst e0
   have hcal3 := P.baizeref47_num gq (t + 4) (aget d2 0) l4 hk3
   refine WP.callC hcal3 (by kernel_rfl) ?_
   rintro _ g7 st7 ⟨a7, n4, c5, rfl, hR7⟩
   obtain rfl := hR7.len
   refine WP.dn (Shown.o (v := .slice a7 l4.length c5) st7.pure ?_)
   exact ⟨tv, tv, tv, ⟨a7, c5, rfl, hR7⟩, tv, tv, tv, tv, tv, tv⟩
  ·intro vs gq stq hl hf
   obtain ⟨v0, v1, v2, v3, v4, v5, rfl⟩ := len_k6 hl
   have hR6 := (show OwnS (Kd.int .u8) gq (t + 2) 5 a6 (l2.length + l3.length) c4 (l2 ++ l3) from hf _ (memI 1 rfl) (by kernel_rfl))
   obtain ⟨a7, c5, e1, hR7⟩ := (show ∃ (a7 : Option Addr) (c5 : Nat), v1 = .slice a7 l4.length c5 ∧ OwnS (Kd.int .u8) gq (t + 4) 5 a7 l4.length c5 l4 from hf _ (memI 3 rfl) (by kernel_rfl))
   subst e1
   refine WP.append (kd := (Kd.int .u8)) (t := 64) (e := 5) (bytes := 1) (a2 := a7) (c2 := c5) hR6 hR7.src hR7.len (by kernel_rfl) (by kernel_rfl) (by omega) (by simp only [maxLen]; omega) (by omega) ?_
   intro g8 a8 c6 st8 hR8
   refine WP.dn (Shown.o (v := .slice a8 ((l2.length + l3.length) + l4.length) c6) st8 ?_)
   exact ⟨tv, tv, tv, tv, ⟨a8, c6, rfl, hR8⟩, tv, tv, tv, tv, tv⟩
  ·intro vs gq stq hl hf
   obtain ⟨v0, v1, v2, v3, v4, v5, rfl⟩ := len_k6 hl
   have hB1 := (show Box gq 0 b1 26 [encA .u8 d1, [.int .i64 x1], encA .i64 d2, [.slice a1 n1 c1]] [8, 1, 2, 1] from hf _ (memI 0 rfl) (by kernel_rfl))
   refine WP.loadE (ty := 3) (o := 9) (m := 2) (k := .i64) (d := d2) (i := 1) hB1 (by kernel_rfl) (by decide) (by kernel_rfl) (by kernel_rfl) ?_
   refine WP.dn (Shown.ok (v := .int .i64 (aget d2 1)) (by kernel_rfl) (Step.refl _ _) ?_)
   exact ⟨tv, tv, tv, tv, tv, rfl, tv, tv, tv, tv⟩
  ·intro vs gq stq hl hf
   obtain ⟨v0, v1, v2, v3, v4, v5, rfl⟩ := len_k6 hl
   have e3 := (show v3 = .int .i64 (aget d2 1) from hf _ (memI 5 rfl) (by kernel_rfl))
   subst e3
   have hcal4 := P.baizeref47_num gq (t + 5) (aget d2 1) l5 hk4
   refine WP.callC hcal4 (by kernel_rfl) ?_
   rintro _ g9 st9 ⟨a9, n5, c7, rfl, hR9⟩
   obtain rfl := hR9.len
   refine WP.dn (Shown.o (v := .slice a9 l5.length c7) st9.pure ?_)
   exact ⟨tv, tv, tv, tv, tv, tv, ⟨a9, c7, rfl, hR9⟩, tv, tv, tv⟩
  ·intro vs gq stq hl hf
   obtain ⟨v0, v1, v2, v3, v4, v5, rfl⟩ := len_k6 hl
   obtain ⟨a8, c6, e2, hR8⟩ := (show ∃ (a8 : Option Addr) (c6 : Nat), v2 = .slice a8 ((l2.length + l3.length) + l4.length) c6 ∧ OwnS (Kd.int .u8) gq (t + 2) 5 a8 ((l2.length + l3.length) + l4.length) c6 ((l2 ++ l3) ++ l4) from hf _ (memI 4 rfl) (by kernel_rfl))
   subst e2
   obtain ⟨a9, c7, e4, hR9⟩ := (show ∃ (a9 : Option Addr) (c7 : Nat), v4 = .slice a9 l5.length c7 ∧ OwnS (Kd.int .u8) gq (t + 5) 5 a9 l5.length c7 l5 from hf _ (memI 6 rfl) (by kernel_rfl))
   subst e4
   refine WP.append (kd := (Kd.int .u8)) (t := 64) (e := 5) (bytes := 1) (a2 := a9) (c2 := c7) hR8 hR9.src hR9.len (by kernel_rfl) (by kernel_rfl) (by omega) (by simp only [maxLen]; omega) (by omega) ?_
   intro g10 a10 c8 st10 hR10
   refine WP.dn (Shown.o (v := .slice a10 (((l2.length + l3.length) + l4.length) + l5.length) c8) st10 ?_)
   exact ⟨tv, tv, tv, tv, tv, tv, tv, ⟨a10, c8, rfl, hR10⟩, ⟨a8, c6, rfl⟩, tv⟩
 intro vs g11 st11 hl hf
 obtain ⟨v0, v1, v2, v3, v4, v5, rfl⟩ := len_k6 hl
 obtain ⟨a10, c8, e5, hR10⟩ := (show ∃ (a10 : Option Addr) (c8 : Nat), v5 = .slice a10 (((l2.length + l3.length) + l4.length) + l5.length) c8 ∧ OwnS (Kd.int .u8) g11 (t + 2) 5 a10 (((l2.length + l3.length) + l4.length) + l5.length) c8 (((l2 ++ l3) ++ l4) ++ l5) from hf _ (memI 7 rfl) (by kernel_rfl))
 subst e5
 replace hB1 := hB1.mono st11 (WL.no1 (by omega))
 replace hR1 := hR1.mono st11 (WL.no1 (by omega))
 replace tot := tot.trans (st11.up1 (.inr (by omega)))
 refine NX.then_n ?_
 refine CP.refr 61 [(1, .pointer (some ⟨b1, 0, none⟩)), (3, .slice a10 (((l2.length + l3.length) + l4.length) + l5.length) c8)] (by kernel_rfl) (by kernel_rfl) ?_
 clear ds
 intro ds
 refine CP.seqR ?_
 refine WP.stl 2 ?_
 refine WP.loadB (v := .slice a1 n1 c1) hB1 (by kernel_rfl) (by kernel_rfl) ?_
 refine WP.len (a := a1) (cp := c1) hR1.len (by kernel_rfl) ?_
 replace hs := Option.bind_eq_some_iff.1 hs
 obtain ⟨l6, hk5, hs⟩ := hs
 have hcal5 := P.baizeref47_num g11 (t + 6) (l1.length : Int) l6 hk5
 refine WP.callC hcal5 (by kernel_rfl) ?_
 rintro _ g12 st12 ⟨a11, n6, c9, rfl, hR11⟩
 replace hB1 := hB1.mono st12 (fun x => x)
 replace hR1 := hR1.mono st12 (fun x => x)
 replace hR10 := hR10.mono st12 (fun x => x) (fun x => x)
 replace tot := tot.trans st12.pure
 by_cases hc4 : (((l2 ++ l3) ++ l4) ++ l5).length + l6.length ≤ 140737488355328
 case neg => rw [if_neg hc4] at hs; cases hs
 replace hs := of_if_p hs hc4
 refine WP.append (kd := (Kd.int .u8)) (t := 64) (e := 5) (bytes := 1) (a2 := a11) (c2 := c9) hR10 hR11.src hR11.len (by kernel_rfl) (by kernel_rfl) (by omega) (by simp only [maxLen]; omega) (by omega) ?_
 intro g13 a12 c10 st13 hR12
 replace hB1 := hB1.mono st13 (WL.no1 (by omega))
 replace hR1 := hR1.mono st13 (WL.no1 (by omega))
 replace hR11 := hR11.mono st13 (WL.no1 (by omega)) (WL.no1 (by omega))
 replace tot := tot.trans (st13.up1 (.inr (by omega)))
 refine WP.stl 1 ?_
 refine WP.dn ?_
 refine NX.then_n ?_
 refine CP.seq ?_
 refine CP.seqR ?_
 refine WP.stl 1 ?_
 refine WP.dn ?_
 refine NX.then_n ?_
 refine CP.block ?_
 generalize fuel = k1 at hs
 refine CP.loop (fun k1 tm g => ∃ (l11 : List Int) (a22 : Option Addr) (n11 : Nat) (c19 : Nat) (x2 : Int), Fr 61 [(1, .pointer (some ⟨b1, 0, none⟩)), (3, .slice a22 n11 c19), (4, .int .i64 x2)] tm ∧ Step (fun l => NoM l ∨ t ≤ l) g0 g ∧ Box g 0 b1 26 [encA .u8 d1, [.int .i64 x1], encA .i64 d2, [.slice a1 n1 c1]] [8, 1, 2, 1] ∧ RdS k_S_baizeref47_Held g 60 a1 n1 c1 l1 ∧ OwnS (Kd.int .u8) g (t + 2) 5 a22 n11 c19 l11 ∧ F.baizeref47_Bytes.l1 l1 k1 l11 x2 = some o1) k1 ?_ ?_ ?_
 ·exact ⟨((((l2 ++ l3) ++ l4) ++ l5) ++ l6), a12, ((((l2.length + l3.length) + l4.length) + l5.length) + n6), c10, 0, ⟨by kernel_rfl, by kernel_rfl⟩, tot, hB1, hR1, hR12, hs⟩
 ·rintro tm g ⟨l11, a22, n11, c19, x2, hF, tot, hB1, hR1, hR22, hs⟩
  exact absurd hs (by simp [F.baizeref47_Bytes.l1])
 clear tot hs hB1 hR1 hR12
 rintro k1 tm g ⟨l11, a22, n11, c19, x2, hF, tot, hB1, hR1, hR22, hs⟩
 clear ds
 obtain ⟨ds, rfl⟩ := hF.open
 clear hF
 unfold F.baizeref47_Bytes.l1 at hs
 refine CP.seq ?_
 refine CP.seqR ?_
 refine WP.stl 2 ?_
 refine WP.loadB (v := .slice a1 n1 c1) hB1 (by kernel_rfl) (by kernel_rfl) ?_
 refine WP.len (a := a1) (cp := c1) hR1.len (by kernel_rfl) ?_
 refine WP.stl 1 ?_
 refine WP.dn ?_
 refine NX.then_n ?_
 refine CP.cond (b := decide (x2 < (l1.length : Int))) (by kernel_rfl) (fun h3 => ?_) (fun h3 => ?_)
 ·replace hs := of_if_t hs h3
  refine CP.skip ?_
  refine NX.then_n ?_
  refine CP.seq ?_
  refine CP.block ?_
  refine CP.seqR ?_
  refine WP.stl 1 ?_
  refine WP.loadB (v := .slice a1 n1 c1) hB1 (by kernel_rfl) (by kernel_rfl) ?_
  refine WP.stl 1 ?_
  by_cases hc15 : (0 : Int) ≤ x2 ∧ x2 < (l1.length : Int)
  case neg => rw [if_neg hc15] at hs; cases hs
  replace hs := of_if_p hs hc15
  obtain ⟨b6, u3, ha3⟩ := hR1.at hc15
  refine WP.indexA (t := 24) (e := 60) (sz := 11) (cap := c1) (k := .i64) (i := x2) hR1.len ha3 (by kernel_rfl) (by kernel_rfl) hc15 ?_
  obtain ⟨cs3, hcR3, hcV3⟩ := hR1.src.view (getI_some hc15) ha3
  replace hcR3 := k_S_baizeref47_Held.opn hcR3
  refine WP.loadV [encA .u8 ((getI l1 x2).f1), [.int .i64 ((getI l1 x2).f2)], [.int .i64 ((getI l1 x2).f3)], [.int .i64 ((getI l1 x2).f4)]] [8, 1, 1, 1] hcV3 hcR3 (by simp [len_encA]) (f := 0) (ty := 60) (agg := true) (size := 11) (rs := [encA .u8 ((getI l1 x2).f1), [.int .i64 ((getI l1 x2).f2)], [.int .i64 ((getI l1 x2).f3)], [.int .i64 ((getI l1 x2).f4)]]) (v := AG [encA .u8 ((getI l1 x2).f1), [.int .i64 ((getI l1 x2).f2)], [.int .i64 ((getI l1 x2).f3)], [.int .i64 ((getI l1 x2).f4)]]) (by kernel_rfl) (by kernel_rfl) (by kernel_rfl) (by kernel_rfl) ?_
  refine WP.alloc (T := 60) (t + 17) [encA .u8 (zA 8), [.int .i64 0], [.int .i64 0], [.int .i64 0]] [8, 1, 1, 1] (by kernel_rfl) (by simp [len_encA]) ?_
  intro g36 b7 st36 hB6
  replace hB1 := hB1.mono st36 (fun x => x)
  replace hR1 := hR1.mono st36 (fun x => x)
  replace hR22 := hR22.mono st36 (fun x => x) (fun x => x)
  replace tot := tot.trans st36.pure
  refine WP.storeB (ty := 60) (off := 0) (v := AG [encA .u8 ((getI l1 x2).f1), [.int .i64 ((getI l1 x2).f2)], [.int .i64 ((getI l1 x2).f3)], [.int .i64 ((getI l1 x2).f4)]]) hB6 [encA .u8 ((getI l1 x2).f1), [.int .i64 ((getI l1 x2).f2)], [.int .i64 ((getI l1 x2).f3)], [.int .i64 ((getI l1 x2).f4)]] [8, 1, 1, 1] (by kernel_rfl) (by kernel_rfl) (by simp [len_encA]) (by kernel_rfl) [encA .u8 ((getI l1 x2).f1), [.int .i64 ((getI l1 x2).f2)], [.int .i64 ((getI l1 x2).f3)], [.int .i64 ((getI l1 x2).f4)]] (by kernel_rfl) (.arr (.one rfl (.one rfl (.one rfl .nil)))) ?_
  intro g37 st37 hB7
  replace hB1 := hB1.mono st37 (WL.no1 (by omega))
  replace hR1 := hR1.mono st37 (WL.no1 (by omega))
  replace hR22 := hR22.mono st37 (WL.no1 (by omega)) (WL.no1 (by omega))
  replace tot := tot.trans (st37.up1 (.inr (by omega)))
  clear hB6
  have hB6 := hB7
  clear hB7
  refine WP.dn ?_
  refine NX.then_n ?_
  refine CP.seqR ?_
  refine WP.stl 2 ?_
  obtain ⟨g38, hw4, st38, hnew⟩ := hB6.relab 0
  refine WP.regw hw4 ?_
  replace hB1 := hB1.mono st38 (WL.no1 (by omega))
  replace hR1 := hR1.mono st38 (WL.no1 (by omega))
  replace hR22 := hR22.mono st38 (WL.no1 (by omega)) (WL.no1 (by omega))
  replace tot := tot.trans (st38.up1 (.inr (by omega)))
  clear hB6
  have hB6 := hnew
  clear hnew
  refine WP.sliceZ (o := 0) (m := 8) (k := .u8) (d := (getI l1 x2).f1) (e := 5) (lo := none) (hi := none) hB6 (by kernel_rfl) (0 : Int) (8 : Int) (by kernel_rfl) (.inl ⟨rfl, rfl⟩) (.inl ⟨rfl, rfl⟩) (by decide) ?_
  intro a33 hR33
  rw [sliceI_all (m := 8) (d := (getI l1 x2).f1) (j := (8 : Int)) rfl] at hR33
  replace hs := Option.bind_eq_some_iff.1 hs
  obtain ⟨l17, hk14, hs⟩ := hs
  have hcal14 := P.baizeref01_Bytes g38 (t + 18) (((getI l1 x2).f1).1) a33 ((8 : Int).toNat - (0 : Int).toNat) (8 - (0 : Int).toNat) hR33 l17 hk14
  refine WP.callC hcal14 (by kernel_rfl) ?_
  rintro _ g39 st39 ⟨a34, n17, c29, rfl, hR34⟩
  replace hB1 := hB1.mono st39 (fun x => x)
  replace hR1 := hR1.mono st39 (fun x => x)
  replace hR22 := hR22.mono st39 (fun x => x) (fun x => x)
  replace hB6 := hB6.mono st39 (fun x => x)
  replace hR33 := hR33.mono st39 (fun x => x)
  replace tot := tot.trans st39.pure
  by_cases hc16 : l11.length + l17.length ≤ 140737488355328
  case neg => rw [if_neg hc16] at hs; cases hs
  replace hs := of_if_p hs hc16
  refine WP.append (kd := (Kd.int .u8)) (t := 64) (e := 5) (bytes := 1) (a2 := a34) (c2 := c29) hR22 hR34.src hR34.len (by kernel_rfl) (by kernel_rfl) (by omega) (by simp only [maxLen]; omega) (by omega) ?_
  intro g40 a35 c30 st40 hR35
  replace hB1 := hB1.mono st40 (WL.no1 (by omega))
  replace hR1 := hR1.mono st40 (WL.no1 (by omega))
  replace hB6 := hB6.mono st40 (WL.no1 (by omega))
  replace hR33 := hR33.mono st40 (WL.no1 (by omega))
  replace hR34 := hR34.mono st40 (WL.no1 (by omega)) (WL.no1 (by omega))
  replace tot := tot.trans (st40.up1 (.inr (by omega)))
  refine WP.stl 1 ?_
  refine WP.dn ?_
  refine NX.then_n ?_
  refine CP.refr 61 [(1, .pointer (some ⟨b1, 0, none⟩)), (3, .slice a35 (n11 + n17) c30), (4, .int .i64 x2), (5, .pointer (some ⟨b7, 0, none⟩))] (by kernel_rfl) (by kernel_rfl) ?_
  clear ds
  intro ds
  replace hs := Option.bind_eq_some_iff.1 hs
  obtain ⟨l18, hk15, hs⟩ := hs
  by_cases hc17 : (l11 ++ l17).length + l18.length ≤ 140737488355328
  case neg => rw [if_neg hc17] at hs; cases hs
  replace hs := of_if_p hs hc17
  replace hs := Option.bind_eq_some_iff.1 hs
  obtain ⟨l19, hk16, hs⟩ := hs
  by_cases hc18 : ((l11 ++ l17) ++ l18).length + l19.length ≤ 140737488355328
  case neg => rw [if_neg hc18] at hs; cases hs
  replace hs := of_if_p hs hc18
  replace hs := Option.bind_eq_some_iff.1 hs
  obtain ⟨l20, hk17, hs⟩ := hs
  by_cases hc19 : (((l11 ++ l17) ++ l18) ++ l19).length + l20.length ≤ 140737488355328
  case neg => rw [if_neg hc19] at hs; cases hs
  replace hs := of_if_p hs hc19
  refine CP.drawL (by kernel_rfl) [2, 3, 4, 6, 7, 8, 10, 11, 12] N.baizeref47_Bytes_2 [⟨none, [0], [], fun l g => OwnS (Kd.int .u8) g (t + 2) 5 a35 (n11 + n17) c30 (l11 ++ l17)⟩, ⟨none, [], [], fun l g => Box g 0 b7 60 [encA .u8 ((getI l1 x2).f1), [.int .i64 ((getI l1 x2).f2)], [.int .i64 ((getI l1 x2).f3)], [.int .i64 ((getI l1 x2).f4)]] [8, 1, 1, 1]⟩, ⟨some 0, [], [0], fun l g => l.getD 0 undef = .int .i64 ((getI l1 x2).f2)⟩, ⟨some 1, [], [1], fun l g => ∃ (a36 : Option Addr) (c31 : Nat), l.getD 0 undef = .slice a36 l18.length c31 ∧ OwnS (Kd.int .u8) g (t + 19) 5 a36 l18.length c31 l18⟩, ⟨some 2, [0], [2], fun l g => ∃ (a37 : Option Addr) (c32 : Nat), l.getD 0 undef = .slice a37 ((n11 + n17) + l18.length) c32 ∧ OwnS (Kd.int .u8) g (t + 2) 5 a37 ((n11 + n17) + l18.length) c32 ((l11 ++ l17) ++ l18)⟩, ⟨some 3, [], [3], fun l g => l.getD 0 undef = .int .i64 ((getI l1 x2).f3)⟩, ⟨some 4, [], [4], fun l g => ∃ (a38 : Option Addr) (c33 : Nat), l.getD 0 undef = .slice a38 l19.length c33 ∧ OwnS (Kd.int .u8) g (t + 20) 5 a38 l19.length c33 l19⟩, ⟨some 5, [0], [5], fun l g => ∃ (a39 : Option Addr) (c34 : Nat), l.getD 0 undef = .slice a39 (((n11 + n17) + l18.length) + l19.length) c34 ∧ OwnS (Kd.int .u8) g (t + 2) 5 a39 (((n11 + n17) + l18.length) + l19.length) c34 (((l11 ++ l17) ++ l18) ++ l19)⟩, ⟨some 5, [], [2], fun l g => ∃ (a37 : Option Addr) (c32 : Nat), l.getD 0 undef = .slice a37 ((n11 + n17) + l18.length) c32⟩, ⟨some 6, [], [6], fun l g => l.getD 0 undef = .int .i64 ((getI l1 x2).f4)⟩, ⟨some 7, [], [7], fun l g => ∃ (a40 : Option Addr) (c35 : Nat), l.getD 0 undef = .slice a40 l20.length c35 ∧ OwnS (Kd.int .u8) g (t + 21) 5 a40 l20.length c35 l20⟩, ⟨some 8, [0], [8], fun l g => ∃ (a41 : Option Addr) (c36 : Nat), l.getD 0 undef = .slice a41 ((((n11 + n17) + l18.length) + l19.length) + l20.length) c36 ∧ OwnS (Kd.int .u8) g (t + 2) 5 a41 ((((n11 + n17) + l18.length) + l19.length) + l20.length) c36 ((((l11 ++ l17) ++ l18) ++ l19) ++ l20)⟩, ⟨some 8, [], [5], fun l g => ∃ (a39 : Option Addr) (c34 : Nat), l.getD 0 undef = .slice a39 (((n11 + n17) + l18.length) + l19.length) c34⟩] [[], [], [0], [], [], [0], [], [], [0]] [(t + 2)] [0, 1, 5, 9] [13] (by kernel_rfl) (by simp <;> omega) (by simp) ⟨fun _ _ _ _ st h0 hl hj hR35 => (hR35.mono st h0 (hj 0 (by simp) _ rfl)), fun _ _ _ _ st h0 hl hj hB6 => (hB6.mono st (fun h => absurd (hl _ h) (by simp <;> omega))), fun _ _ _ _ st h0 hl hj e0 => e0, fun _ _ _ _ st h0 hl hj ⟨a36, c31, e1, hR36⟩ => ⟨a36, c31, e1, (hR36.mono st h0 (fun h => absurd (hl _ h) (by simp <;> omega)))⟩, fun _ _ _ _ st h0 hl hj ⟨a37, c32, e2, hR37⟩ => ⟨a37, c32, e2, (hR37.mono st h0 (hj 0 (by simp) _ rfl))⟩, fun _ _ _ _ st h0 hl hj e3 => e3, fun _ _ _ _ st h0 hl hj ⟨a38, c33, e4, hR38⟩ => ⟨a38, c33, e4, (hR38.mono st h0 (fun h => absurd (hl _ h) (by simp <;> omega)))⟩, fun _ _ _ _ st h0 hl hj ⟨a39, c34, e5, hR39⟩ => ⟨a39, c34, e5, (hR39.mono st h0 (hj 0 (by simp) _ rfl))⟩, fun _ _ _ _ st h0 hl hj ⟨a37, c32, e2⟩ => ⟨a37, c32, e2⟩, fun _ _ _ _ st h0 hl hj e6 => e6, fun _ _ _ _ st h0 hl hj ⟨a40, c35, e7, hR40⟩ => ⟨a40, c35, e7, (hR40.mono st h0 (fun h => absurd (hl _ h) (by simp <;> omega)))⟩, fun _ _ _ _ st h0 hl hj ⟨a41, c36, e8, hR41⟩ => ⟨a41, c36, e8, (hR41.mono st h0 (hj 0 (by simp) _ rfl))⟩, fun _ _ _ _ st h0 hl hj ⟨a39, c34, e5⟩ => ⟨a39, c34, e5⟩, tv⟩ ⟨hR35, hB6, tv, tv, tv, tv, tv, tv, tv, tv, tv, tv, tv, tv⟩ (by kernel_rfl) (fun vs => by kernel_rfl) ?_ ?_ ?_
  ·intro j hj
   have hq : j = 0 := by have h : j < 1 := hj; omega
   rcases hq with rfl
   ·intro vs gq stq hl hf
    obtain ⟨v0, v1, v2, v3, v4, v5, v6, v7, v8, rfl⟩ := len_k9 hl
    obtain ⟨a41, c36, e8, hR41⟩ := (show ∃ (a41 : Option Addr) (c36 : Nat), v8 = .slice a41 ((((n11 + n17) + l18.length) + l19.length) + l20.length) c36 ∧ OwnS (Kd.int .u8) gq (t + 2) 5 a41 ((((n11 + n17) + l18.length) + l19.length) + l20.length) c36 ((((l11 ++ l17) ++ l18) ++ l19) ++ l20) from hf _ (memI 11 rfl) (by kernel_rfl))
    subst e8
    show Option.isSome _ = true
    kernel_rfl
  ·intro j hj
   have hq : j = 0 ∨ j = 1 ∨ j = 2 ∨ j = 3 ∨ j = 4 ∨ j = 5 ∨ j = 6 ∨ j = 7 ∨ j = 8 := by have h : j < 9 := hj; omega
   rcases hq with rfl | rfl | rfl | rfl | rfl | rfl | rfl | rfl | rfl
   ·intro vs gq stq hl hf
    obtain ⟨v0, v1, v2, v3, v4, v5, v6, v7, v8, rfl⟩ := len_k9 hl
    have hB6 := (show Box gq 0 b7 60 [encA .u8 ((getI l1 x2).f1), [.int .i64 ((getI l1 x2).f2)], [.int .i64 ((getI l1 x2).f3)], [.int .i64 ((getI l1 x2).f4)]] [8, 1, 1, 1] from hf _ (memI 1 rfl) (by kernel_rfl))
    refine WP.loadB (v := .int .i64 ((getI l1 x2).f2)) hB6 (by kernel_rfl) (by kernel_rfl) ?_
    refine WP.dn (Shown.ok (v := .int .i64 ((getI l1 x2).f2)) (by kernel_rfl) (Step.refl _ _) ?_)
    exact ⟨tv, tv, rfl, tv, tv, tv, tv, tv, tv, tv, tv, tv, tv, tv⟩
   ·intro vs gq stq hl hf
    obtain ⟨v0, v1, v2, v3, v4, v5, v6, v7, v8, rfl⟩ := len_k9 hl
    have e0 := (show v0 = .int .i64 ((getI l1 x2).f2) from hf _ (memI 2 rfl) (by kernel_rfl))
    subst e0
    have hcal15 := P.baizeref47_num gq (t + 19) ((getI l1 x2).f2) l18 hk15
    refine WP.callC hcal15 (by kernel_rfl) ?_
    rintro _ g41 st41 ⟨a36, n18, c31, rfl, hR36⟩
    obtain rfl := hR36.len
    refine WP.dn (Shown.o (v := .slice a36 l18.length c31) st41.pure ?_)
    exact ⟨tv, tv, tv, ⟨a36, c31, rfl, hR36⟩, tv, tv, tv, tv, tv, tv, tv, tv, tv, tv⟩
   ·intro vs gq stq hl hf
    obtain ⟨v0, v1, v2, v3, v4, v5, v6, v7, v8, rfl⟩ := len_k9 hl
    have hR35 := (show OwnS (Kd.int .u8) gq (t + 2) 5 a35 (n11 + n17) c30 (l11 ++ l17) from hf _ (memI 0 rfl) (by kernel_rfl))
    obtain ⟨a36, c31, e1, hR36⟩ := (show ∃ (a36 : Option Addr) (c31 : Nat), v1 = .slice a36 l18.length c31 ∧ OwnS (Kd.int .u8) gq (t + 19) 5 a36 l18.length c31 l18 from hf _ (memI 3 rfl) (by kernel_rfl))
    subst e1
    refine WP.append (kd := (Kd.int .u8)) (t := 64) (e := 5) (bytes := 1) (a2 := a36) (c2 := c31) hR35 hR36.src hR36.len (by kernel_rfl) (by kernel_rfl) (by omega) (by simp only [maxLen]; omega) (by omega) ?_
    intro g42 a37 c32 st42 hR37
    refine WP.dn (Shown.o (v := .slice a37 ((n11 + n17) + l18.length) c32) st42 ?_)
    exact ⟨tv, tv, tv, tv, ⟨a37, c32, rfl, hR37⟩, tv, tv, tv, tv, tv, tv, tv, tv, tv⟩
   ·intro vs gq stq hl hf
    obtain ⟨v0, v1, v2, v3, v4, v5, v6, v7, v8, rfl⟩ := len_k9 hl
    have hB6 := (show Box gq 0 b7 60 [encA .u8 ((getI l1 x2).f1), [.int .i64 ((getI l1 x2).f2)], [.int .i64 ((getI l1 x2).f3)], [.int .i64 ((getI l1 x2).f4)]] [8, 1, 1, 1] from hf _ (memI 1 rfl) (by kernel_rfl))
    refine WP.loadB (v := .int .i64 ((getI l1 x2).f3)) hB6 (by kernel_rfl) (by kernel_rfl) ?_
    refine WP.dn (Shown.ok (v := .int .i64 ((getI l1 x2).f3)) (by kernel_rfl) (Step.refl _ _) ?_)
    exact ⟨tv, tv, tv, tv, tv, rfl, tv, tv, tv, tv, tv, tv, tv, tv⟩
   ·intro vs gq stq hl hf
    obtain ⟨v0, v1, v2, v3, v4, v5, v6, v7, v8, rfl⟩ := len_k9 hl
    have e3 := (show v3 = .int .i64 ((getI l1 x2).f3) from hf _ (memI 5 rfl) (by kernel_rfl))
    subst e3
    have hcal16 := P.baizeref47_num gq (t + 20) ((getI l1 x2).f3) l19 hk16
    refine WP.callC hcal16 (by kernel_rfl) ?_
    rintro _ g43 st43 ⟨a38, n19, c33, rfl, hR38⟩
    obtain rfl := hR38.len
    refine WP.dn (Shown.o (v := .slice a38 l19.length c33) st43.pure ?_)
    exact ⟨tv, tv, tv, tv, tv, tv, ⟨a38, c33, rfl, hR38⟩, tv, tv, tv, tv, tv, tv, tv⟩
   ·intro vs gq stq hl hf
    obtain ⟨v0, v1, v2, v3, v4, v5, v6, v7, v8, rfl⟩ := len_k9 hl
    obtain ⟨a37, c32, e2, hR37⟩ := (show ∃ (a37 : Option Addr) (c32 : Nat), v2 = .slice a37 ((n11 + n17) + l18.length) c32 ∧ OwnS (Kd.int .u8) gq (t + 2) 5 a37 ((n11 + n17) + l18.length) c32 ((l11 ++ l17) ++ l18) from hf _ (memI 4 rfl) (by kernel_rfl))
    subst e2
    obtain ⟨a38, c33, e4, hR38⟩ := (show ∃ (a38 : Option Addr) (c33 : Nat), v4 = .slice a38 l19.length c33 ∧ OwnS (Kd.int .u8) gq (t + 20) 5 a38 l19.length c33 l19 from hf _ (memI 6 rfl) (by kernel_rfl))
    subst e4
    refine WP.append (kd := (Kd.int .u8)) (t := 64) (e := 5) (bytes := 1) (a2 := a38) (c2 := c33) hR37 hR38.src hR38.len (by kernel_rfl) (by kernel_rfl) (by omega) (by simp only [maxLen]; omega) (by omega) ?_
    intro g44 a39 c34 st44 hR39
    refine WP.dn (Shown.o (v := .slice a39 (((n11 + n17) + l18.length) + l19.length) c34) st44 ?_)
    exact ⟨tv, tv, tv, tv, tv, tv, tv, ⟨a39, c34, rfl, hR39⟩, ⟨a37, c32, rfl⟩, tv, tv, tv, tv, tv⟩
   ·intro vs gq stq hl hf
    obtain ⟨v0, v1, v2, v3, v4, v5, v6, v7, v8, rfl⟩ := len_k9 hl
    have hB6 := (show Box gq 0 b7 60 [encA .u8 ((getI l1 x2).f1), [.int .i64 ((getI l1 x2).f2)], [.int .i64 ((getI l1 x2).f3)], [.int .i64 ((getI l1 x2).f4)]] [8, 1, 1, 1] from hf _ (memI 1 rfl) (by kernel_rfl))
    refine WP.loadB (v := .int .i64 ((getI l1 x2).f4)) hB6 (by kernel_rfl) (by kernel_rfl) ?_
    refine WP.dn (Shown.ok (v := .int .i64 ((getI l1 x2).f4)) (by kernel_rfl) (Step.refl _ _) ?_)
    exact ⟨tv, tv, tv, tv, tv, tv, tv, tv, tv, rfl, tv, tv, tv, tv⟩
   ·intro vs gq stq hl hf
    obtain ⟨v0, v1, v2, v3, v4, v5, v6, v7, v8, rfl⟩ := len_k9 hl
    have e6 := (show v6 = .int .i64 ((getI l1 x2).f4) from hf _ (memI 9 rfl) (by kernel_rfl))
    subst e6
    have hcal17 := P.baizeref47_num gq (t + 21) ((getI l1 x2).f4) l20 hk17
    refine WP.callC hcal17 (by kernel_rfl) ?_
    rintro _ g45 st45 ⟨a40, n20, c35, rfl, hR40⟩
    obtain rfl := hR40.len
    refine WP.dn (Shown.o (v := .slice a40 l20.length c35) st45.pure ?_)
    exact ⟨tv, tv, tv, tv, tv, tv, tv, tv, tv, tv, ⟨a40, c35, rfl, hR40⟩, tv, tv, tv⟩
   ·intro vs gq stq hl hf
    obtain ⟨v0, v1, v2, v3, v4, v5, v6, v7, v8, rfl⟩ := len_k9 hl
    obtain ⟨a39, c34, e5, hR39⟩ := (show ∃ (a39 : Option Addr) (c34 : Nat), v5 = .slice a39 (((n11 + n17) + l18.length) + l19.length) c34 ∧ OwnS (Kd.int .u8) gq (t + 2) 5 a39 (((n11 + n17) + l18.length) + l19.length) c34 (((l11 ++ l17) ++ l18) ++ l19) from hf _ (memI 7 rfl) (by kernel_rfl))
    subst e5
    obtain ⟨a40, c35, e7, hR40⟩ := (show ∃ (a40 : Option Addr) (c35 : Nat), v7 = .slice a40 l20.length c35 ∧ OwnS (Kd.int .u8) gq (t + 21) 5 a40 l20.length c35 l20 from hf _ (memI 10 rfl) (by kernel_rfl))
    subst e7
    refine WP.append (kd := (Kd.int .u8)) (t := 64) (e := 5) (bytes := 1) (a2 := a40) (c2 := c35) hR39 hR40.src hR40.len (by kernel_rfl) (by kernel_rfl) (by omega) (by simp only [maxLen]; omega) (by omega) ?_
    intro g46 a41 c36 st46 hR41
    refine WP.dn (Shown.o (v := .slice a41 ((((n11 + n17) + l18.length) + l19.length) + l20.length) c36) st46 ?_)
    exact ⟨tv, tv, tv, tv, tv, tv, tv, tv, tv, tv, tv, ⟨a41, c36, rfl, hR41⟩, ⟨a39, c34, rfl⟩, tv⟩
  intro vs g47 st47 hl hf
  obtain ⟨v0, v1, v2, v3, v4, v5, v6, v7, v8, rfl⟩ := len_k9 hl
  obtain ⟨a41, c36, e8, hR41⟩ := (show ∃ (a41 : Option Addr) (c36 : Nat), v8 = .slice a41 ((((n11 + n17) + l18.length) + l19.length) + l20.length) c36 ∧ OwnS (Kd.int .u8) g47 (t + 2) 5 a41 ((((n11 + n17) + l18.length) + l19.length) + l20.length) c36 ((((l11 ++ l17) ++ l18) ++ l19) ++ l20) from hf _ (memI 11 rfl) (by kernel_rfl))
  subst e8
  replace hB1 := hB1.mono st47 (WL.no1 (by omega))
  replace hR1 := hR1.mono st47 (WL.no1 (by omega))
  replace tot := tot.trans (st47.up1 (.inr (by omega)))
  refine NX.block_n ?_
  refine NX.then_n ?_
  refine CP.refr 61 [(1, .pointer (some ⟨b1, 0, none⟩)), (3, .slice a41 ((((n11 + n17) + l18.length) + l19.length) + l20.length) c36), (4, .int .i64 x2)] (by kernel_rfl) (by kernel_rfl) ?_
  clear ds
  intro ds
  refine CP.region ?_
  refine WP.stl 3 ?_
  refine WP.dn ?_
  refine NX.post ?_
  exact ⟨((((l11 ++ l17) ++ l18) ++ l19) ++ l20), a41, ((((n11 + n17) + l18.length) + l19.length) + l20.length), c36, (IntKind.i64.wrap (x2 + 1)), ⟨by kernel_rfl, by kernel_rfl⟩, tot, hB1, hR1, hR41, hs⟩
 replace hs := of_if_f hs h3
 refine CP.exit ?_
 refine NX.then_e ?_
 refine NX.then_e ?_
 refine NX.block_s ?_
 refine NX.then_n ?_
 refine CP.seqR ?_
 refine WP.stl 2 ?_
 refine WP.dn ?_
 refine NX.then_n ?_
 refine CP.ret ?_
 obtain ⟨g48, hw5, st48, hnew⟩ := hR22.relab (by omega) r0
 refine NX.regw hw5 ?_
 replace tot := tot.trans (st48.up1 (.inr (by omega)))
 clear hR22
 have hR22 := hnew
 clear hnew
 replace hs := Option.some.inj hs
 obtain rfl := hs
 exact NX.fin (v := .slice a22 n11 c19) (Res.still (by kernel_rfl)) tot htL ⟨a22, n11, c19, rfl, hR22⟩
def F.octet_PutText (l1 : List Int) (s1 : ByteArray) : Option ((List Int)) := ((F.octet_PutBytes l1 (strBytes s1)).bind fun l2 => (some l2))
theorem P.octet_PutText (g0 : GW) (r0 : Nat) (l1 : List Int) (s1 : ByteArray) (a1 : Option Addr) (n1 : Nat) (c1 : Nat) (hR1 : RdS (Kd.int .u8) g0 5 a1 n1 c1 l1) (o1 : List Int) (hs : F.octet_PutText l1 s1 = some o1) :
  Calls Try.prog 63 #[.slice a1 n1 c1, .string s1] g0.w (Ret NoM g0 fun v g => ∃ (a_1 : Option Addr) (n_1 : Nat) (c_1 : Nat), v = .slice a_1 n_1 c_1 ∧ OwnS (Kd.int .u8) g r0 5 a_1 n_1 c_1 o1) := by
 refine calls_of (args := [.slice a1 n1 c1, .string s1]) Try.func63 rfl (r0 + 0) ?_
 intro t ht htL
 refine ⟨_, rfl, ?_⟩
 refine CP.refr 9 [(0, .slice a1 n1 c1), (1, .string s1)] (by kernel_rfl) (by kernel_rfl) ?_
 intro ds
 have tot : Step (fun l => NoM l ∨ t ≤ l) g0 g0 := Step.refl _ _
 unfold F.octet_PutText at hs
 refine CP.seqR ?_
 refine WP.stl 1 ?_
 refine WP.dn ?_
 refine NX.then_n ?_
 refine CP.seqR ?_
 refine WP.stl 2 ?_
 refine WP.toBytes (e := 5) (s := s1) (by kernel_rfl) ?_
 intro g1 a2 c2 st1 hR2
 replace hR1 := hR1.mono st1 (fun x => x)
 replace tot := tot.trans st1.pure
 replace hs := Option.bind_eq_some_iff.1 hs
 obtain ⟨l2, hk1, hs⟩ := hs
 have hcal1 := P.octet_PutBytes g1 (t + 1) l1 (strBytes s1) a1 n1 c1 a2 s1.size c2 hR1 hR2 l2 hk1
 refine WP.callC hcal1 (by kernel_rfl) ?_
 rintro _ g2 st2 ⟨a3, n2, c3, rfl, hR3⟩
 replace hR1 := hR1.mono st2 (fun x => x)
 replace hR2 := hR2.mono st2 (fun x => x)
 replace tot := tot.trans st2.pure
 refine WP.stl 1 ?_
 refine WP.dn ?_
 refine NX.then_n ?_
 refine CP.ret ?_
 obtain ⟨g3, hw1, st3, hnew⟩ := hR3.relab (by omega) r0
 refine NX.regw hw1 ?_
 replace tot := tot.trans (st3.up1 (.inr (by omega)))
 clear hR3
 have hR3 := hnew
 clear hnew
 replace hs := Option.some.inj hs
 obtain rfl := hs
 exact NX.fin (v := .slice a3 n2 c3) (Res.still (by kernel_rfl)) tot htL ⟨a3, n2, c3, rfl, hR3⟩
def F.hash_begin (x1 : Int) : Option (Int × Int × Int × Int) := (some (2611923443488327891, 1376283091369227076, 11820040416388919760, x1))
theorem P.hash_begin (g0 : GW) (x1 : Int) (o1 : Int) (o2 : Int) (o3 : Int) (o4 : Int) (hs : F.hash_begin x1 = some (o1, o2, o3, o4)) :
  Calls Try.prog 84 #[.int .u64 x1] g0.w (Ret NoM g0 fun v g => v = AG [[.int .u64 o1], [.int .u64 o2], [.int .u64 o3], [.int .u64 o4]]) := by
 refine calls_of (args := [.int .u64 x1]) Try.func84 rfl (0) ?_
 intro t ht htL
 refine ⟨_, rfl, ?_⟩
 refine CP.refr 5 [(0, .int .u64 x1)] (by kernel_rfl) (by kernel_rfl) ?_
 intro ds
 have tot : Step (fun l => NoM l ∨ t ≤ l) g0 g0 := Step.refl _ _
 unfold F.hash_begin at hs
 refine CP.seqR ?_
 refine WP.alloc (T := 142) (t + 1) [[.int .u64 0], [.int .u64 0], [.int .u64 0], [.int .u64 0]] [1, 1, 1, 1] (by kernel_rfl) rfl ?_
 intro g1 b1 st1 hB1
 replace tot := tot.trans st1.pure
 refine WP.dn ?_
 refine NX.then_n ?_
 refine CP.seqR ?_
 refine WP.stl 2 ?_
 refine WP.storeB (ty := 142) (off := 0) (v := AG [[.int .u64 2611923443488327891], [.int .u64 1376283091369227076], [.int .u64 11820040416388919760], [.int .u64 x1]]) hB1 [[.int .u64 2611923443488327891], [.int .u64 1376283091369227076], [.int .u64 11820040416388919760], [.int .u64 x1]] [1, 1, 1, 1] (by kernel_rfl) (by kernel_rfl) rfl (by kernel_rfl) [[.int .u64 2611923443488327891], [.int .u64 1376283091369227076], [.int .u64 11820040416388919760], [.int .u64 x1]] (by kernel_rfl) (.one rfl (.one rfl (.one rfl (.one rfl .nil)))) ?_
 intro g2 st2 hB2
 replace tot := tot.trans (st2.up1 (.inr (by omega)))
 clear hB1
 have hB1 := hB2
 clear hB2
 refine WP.dn ?_
 refine NX.then_n ?_
 refine CP.ret ?_
 replace hs := Option.some.inj hs
 simp only [Prod.mk.injEq] at hs
 obtain ⟨rfl, rfl, rfl, rfl⟩ := hs
 exact NX.fin (v := AG [[.int .u64 2611923443488327891], [.int .u64 1376283091369227076], [.int .u64 11820040416388919760], [.int .u64 x1]]) (Res.one rfl (RV.box (agg := true) (size := 4) (rs := [[.int .u64 2611923443488327891], [.int .u64 1376283091369227076], [.int .u64 11820040416388919760], [.int .u64 x1]]) hB1 (by kernel_rfl) (by kernel_rfl) (by kernel_rfl) (by kernel_rfl))) tot htL rfl
def F.hash_number.l1 (l1 : List Int) : Nat → Int → Int → Option (Int)
 | 0, _, _ => none
 | k + 1, x1, x2 => (if decide (x2 < (l1.length : Int)) = true then (if (0 : Int) ≤ x2 ∧ x2 < (l1.length : Int) then (if (0 : Int) ≤ (IntKind.i64.wrap (8 * x2)) then (F.hash_number.l1 l1 k (bitOr .u64 x1 (shV true .u64 (IntKind.u64.wrap (getI l1 x2)) (IntKind.i64.wrap (8 * x2)))) (IntKind.i64.wrap (x2 + 1))) else none) else none) else (some x1))
def F.hash_number (l1 : List Int) : Option (Int) := (F.hash_number.l1 l1 fuel 0 0)
theorem P.hash_number (g0 : GW) (l1 : List Int) (a1 : Option Addr) (n1 : Nat) (c1 : Nat) (hR1 : RdS (Kd.int .u8) g0 5 a1 n1 c1 l1) (o1 : Int) (hs : F.hash_number l1 = some o1) :
  Calls Try.prog 101 #[.slice a1 n1 c1] g0.w (Ret NoM g0 fun v g => v = .int .u64 o1) := by
 refine calls_of (args := [.slice a1 n1 c1]) Try.func101 rfl (0) ?_
 intro t ht htL
 refine ⟨_, rfl, ?_⟩
 refine CP.refr 22 [(0, .slice a1 n1 c1)] (by kernel_rfl) (by kernel_rfl) ?_
 intro ds
 have tot : Step (fun l => NoM l ∨ t ≤ l) g0 g0 := Step.refl _ _
 unfold F.hash_number at hs
 refine CP.seqR ?_
 refine WP.stl 1 ?_
 refine WP.dn ?_
 refine NX.then_n ?_
 refine CP.seqR ?_
 refine WP.stl 1 ?_
 refine WP.dn ?_
 refine NX.then_n ?_
 refine CP.seq ?_
 refine CP.seqR ?_
 refine WP.stl 1 ?_
 refine WP.len (a := a1) (cp := c1) hR1.len (by kernel_rfl) ?_
 refine WP.stl 1 ?_
 refine WP.dn ?_
 refine NX.then_n ?_
 refine CP.block ?_
 generalize fuel = k1 at hs
 refine CP.loop (fun k1 tm g => ∃ (x1 : Int) (x2 : Int), Fr 22 [(3, .int .u64 x1), (6, .slice a1 n1 c1), (7, .int .i64 (l1.length : Int)), (8, .int .i64 x2)] tm ∧ Step (fun l => NoM l ∨ t ≤ l) g0 g ∧ RdS (Kd.int .u8) g 5 a1 n1 c1 l1 ∧ F.hash_number.l1 l1 k1 x1 x2 = some o1) k1 ?_ ?_ ?_
 ·exact ⟨0, 0, ⟨by kernel_rfl, by kernel_rfl⟩, tot, hR1, hs⟩
 ·rintro tm g ⟨x1, x2, hF, tot, hR1, hs⟩
  exact absurd hs (by simp [F.hash_number.l1])
 clear tot hs hR1
 rintro k1 tm g ⟨x1, x2, hF, tot, hR1, hs⟩
 clear ds
 obtain ⟨ds, rfl⟩ := hF.open
 clear hF
 unfold F.hash_number.l1 at hs
 refine CP.seqR ?_
 refine WP.stl 1 ?_
 refine WP.dn ?_
 refine NX.then_n ?_
 refine CP.seq ?_
 refine CP.cond (b := decide (x2 < (l1.length : Int))) (by kernel_rfl) (fun h3 => ?_) (fun h3 => ?_)
 ·replace hs := of_if_t hs h3
  refine CP.skip ?_
  refine NX.then_n ?_
  refine CP.seq ?_
  refine CP.block ?_
  refine CP.seqR ?_
  refine WP.stl 1 ?_
  by_cases hc5 : (0 : Int) ≤ x2 ∧ x2 < (l1.length : Int)
  case neg => rw [if_neg hc5] at hs; cases hs
  replace hs := of_if_p hs hc5
  obtain ⟨b3, u3, ha3⟩ := hR1.at hc5
  refine WP.indexA (t := 64) (e := 5) (sz := 1) (cap := c1) (k := .i64) (i := x2) hR1.len ha3 (by kernel_rfl) (by kernel_rfl) hc5 ?_
  obtain ⟨cs3, hcR3, hcV3⟩ := hR1.src.view (getI_some hc5) ha3
  replace hcR3 := Kd.o_int hcR3
  refine WP.loadV [[.int .u8 (getI l1 x2)]] [1] hcV3 hcR3 rfl (f := 0) (ty := 5) (agg := false) (size := 1) (rs := [[.int .u8 (getI l1 x2)]]) (v := .int .u8 (getI l1 x2)) (by kernel_rfl) (by kernel_rfl) (by kernel_rfl) (by kernel_rfl) ?_
  refine WP.stl 2 ?_
  refine WP.dn ?_
  refine NX.then_n ?_
  refine CP.region ?_
  refine WP.stl 5 ?_
  by_cases hc6 : (0 : Int) ≤ (IntKind.i64.wrap (8 * x2))
  case neg => rw [if_neg hc6] at hs; cases hs
  replace hs := of_if_p hs hc6
  refine WP.shift (left := true) (k := .u64) (yk := .i64) (x := (IntKind.u64.wrap (getI l1 x2))) (y := (IntKind.i64.wrap (8 * x2))) (by kernel_rfl) hc6 ?_
  refine WP.stl 2 ?_
  refine WP.dn ?_
  refine NX.block_n ?_
  refine NX.then_n ?_
  refine CP.refr 22 [(3, .int .u64 (bitOr .u64 x1 (shV true .u64 (IntKind.u64.wrap (getI l1 x2)) (IntKind.i64.wrap (8 * x2))))), (6, .slice a1 n1 c1), (7, .int .i64 (l1.length : Int)), (8, .int .i64 x2)] (by kernel_rfl) (by kernel_rfl) ?_
  clear ds
  intro ds
  refine CP.region ?_
  refine WP.stl 2 ?_
  refine WP.dn ?_
  refine NX.post ?_
  exact ⟨(bitOr .u64 x1 (shV true .u64 (IntKind.u64.wrap (getI l1 x2)) (IntKind.i64.wrap (8 * x2)))), (IntKind.i64.wrap (x2 + 1)), ⟨by kernel_rfl, by kernel_rfl⟩, tot, hR1, hs⟩
 replace hs := of_if_f hs h3
 refine CP.exit ?_
 refine NX.then_e ?_
 refine NX.then_e ?_
 refine NX.block_s ?_
 refine NX.then_n ?_
 refine CP.seqR ?_
 refine WP.stl 2 ?_
 refine WP.dn ?_
 refine NX.then_n ?_
 refine CP.ret ?_
 replace hs := Option.some.inj hs
 obtain rfl := hs
 exact NX.fin (v := .int .u64 x1) (Res.still (by kernel_rfl)) tot htL rfl
def F.math_bits_RotateLeft64 (x1 : Int) (x2 : Int) : Option (Int) := (if (0 : Int) ≤ (bitAnd .u64 (IntKind.u64.wrap x2) 63) then (if (0 : Int) ≤ (IntKind.u64.wrap (64 - (bitAnd .u64 (IntKind.u64.wrap x2) 63))) then (some (bitOr .u64 (shV true .u64 x1 (bitAnd .u64 (IntKind.u64.wrap x2) 63)) (shV false .u64 x1 (IntKind.u64.wrap (64 - (bitAnd .u64 (IntKind.u64.wrap x2) 63)))))) else none) else none)
theorem P.math_bits_RotateLeft64 (g0 : GW) (x1 : Int) (x2 : Int) (o1 : Int) (hs : F.math_bits_RotateLeft64 x1 x2 = some o1) :
  Calls Try.prog 118 #[.int .u64 x1, .int .i64 x2] g0.w (Ret NoM g0 fun v g => v = .int .u64 o1) := by
 refine calls_of (args := [.int .u64 x1, .int .i64 x2]) Try.func118 rfl (0) ?_
 intro t ht htL
 refine ⟨_, rfl, ?_⟩
 refine CP.refr 17 [(0, .int .u64 x1), (1, .int .i64 x2)] (by kernel_rfl) (by kernel_rfl) ?_
 intro ds
 have tot : Step (fun l => NoM l ∨ t ≤ l) g0 g0 := Step.refl _ _
 unfold F.math_bits_RotateLeft64 at hs
 refine CP.seqR ?_
 refine WP.stl 1 ?_
 refine WP.dn ?_
 refine NX.then_n ?_
 refine CP.seqR ?_
 refine WP.stl 4 ?_
 refine WP.dn ?_
 refine NX.then_n ?_
 refine CP.seqR ?_
 refine WP.stl 2 ?_
 by_cases hc1 : (0 : Int) ≤ (bitAnd .u64 (IntKind.u64.wrap x2) 63)
 case neg => rw [if_neg hc1] at hs; cases hs
 replace hs := of_if_p hs hc1
 refine WP.shift (left := true) (k := .u64) (yk := .u64) (x := x1) (y := (bitAnd .u64 (IntKind.u64.wrap x2) 63)) (by kernel_rfl) hc1 ?_
 refine WP.stl 3 ?_
 by_cases hc2 : (0 : Int) ≤ (IntKind.u64.wrap (64 - (bitAnd .u64 (IntKind.u64.wrap x2) 63)))
 case neg => rw [if_neg hc2] at hs; cases hs
 replace hs := of_if_p hs hc2
 refine WP.shift (left := false) (k := .u64) (yk := .u64) (x := x1) (y := (IntKind.u64.wrap (64 - (bitAnd .u64 (IntKind.u64.wrap x2) 63)))) (by kernel_rfl) hc2 ?_
 refine WP.stl 2 ?_
 refine WP.dn ?_
 refine NX.then_n ?_
 refine CP.refr 17 [(4, .int .u64 (bitOr .u64 (shV true .u64 x1 (bitAnd .u64 (IntKind.u64.wrap x2) 63)) (shV false .u64 x1 (IntKind.u64.wrap (64 - (bitAnd .u64 (IntKind.u64.wrap x2) 63))))))] (by kernel_rfl) (by kernel_rfl) ?_
 clear ds
 intro ds
 refine CP.ret ?_
 replace hs := Option.some.inj hs
 obtain rfl := hs
 exact NX.fin (v := .int .u64 (bitOr .u64 (shV true .u64 x1 (bitAnd .u64 (IntKind.u64.wrap x2) 63)) (shV false .u64 x1 (IntKind.u64.wrap (64 - (bitAnd .u64 (IntKind.u64.wrap x2) 63)))))) (Res.still (by kernel_rfl)) tot htL rfl
def N.hash_state_mix_0 : List (List Nat) := [[], [], [1], [1, 2], [1, 2, 3], [], [5], [5, 6], [5, 6, 7], [1, 2, 3, 4, 5, 6, 7, 8], [], [1, 2, 3, 4, 5, 6, 7, 8, 9, 10], [0], [0, 1, 2, 3, 4, 5, 6, 7, 8, 9, 10, 11, 12], [0, 1, 2, 3, 4, 5, 6, 7, 8, 9, 10, 11, 12, 13]]
def N.hash_state_mix_1 : List (List Nat) := [[], [0], [0, 1], [0, 1, 2], [], [4], [4, 5], [4, 5, 6], [0, 1, 2, 3, 4, 5, 6, 7], [0], [0, 1, 2, 3, 4, 5, 6, 7, 8, 9], [0, 1, 2, 3, 4, 5, 6, 7, 8, 9, 10]]
def F.hash_state_mix (x1 : Int) (x2 : Int) (x3 : Int) (x4 : Int) (x5 : Int) (x6 : Int) : Option (Int × Int × Int × Int) := ((F.math_bits_RotateLeft64 (bitXor .u64 x4 x1) x5).bind fun x7 => ((F.math_bits_RotateLeft64 (bitXor .u64 x2 (IntKind.u64.wrap (x3 + x7))) x6).bind fun x8 => (some (x1, x8, (IntKind.u64.wrap (x3 + x7)), x7))))
theorem P.hash_state_mix (g0 : GW) (m0 : Nat) (x1 : Int) (x2 : Int) (x3 : Int) (x4 : Int) (x5 : Int) (x6 : Int) (b1 : Nat) (hB1 : Box g0 m0 b1 142 [[.int .u64 x1], [.int .u64 x2], [.int .u64 x3], [.int .u64 x4]] [1, 1, 1, 1]) (hm0 : m0 ≠ 0) (o1 : Int) (o2 : Int) (o3 : Int) (o4 : Int) (hs : F.hash_state_mix x1 x2 x3 x4 x5 x6 = some (o1, o2, o3, o4)) :
  Calls Try.prog 116 #[.pointer (some ⟨b1, 0, none⟩), .int .i64 x5, .int .i64 x6] g0.w (Ret (WL [m0]) g0 fun v g => v = .tuple #[] ∧ Box g m0 b1 142 [[.int .u64 o1], [.int .u64 o2], [.int .u64 o3], [.int .u64 o4]] [1, 1, 1, 1]) := by
 refine calls_of (args := [.pointer (some ⟨b1, 0, none⟩), .int .i64 x5, .int .i64 x6]) Try.func116 rfl (m0 + 0) ?_
 intro t ht htL
 refine ⟨_, rfl, ?_⟩
 refine CP.refr 45 [(0, .pointer (some ⟨b1, 0, none⟩)), (1, .int .i64 x5), (2, .int .i64 x6)] (by kernel_rfl) (by kernel_rfl) ?_
 intro ds
 have tot : Step (fun l => (WL [m0]) l ∨ t ≤ l) g0 g0 := Step.refl _ _
 unfold F.hash_state_mix at hs
 refine CP.seq ?_
 replace hs := Option.bind_eq_some_iff.1 hs
 obtain ⟨x7, hk1, hs⟩ := hs
 refine CP.drawL (by kernel_rfl) [4, 8, 11, 14] N.hash_state_mix_0 [⟨none, [0], [], fun l g => Box g m0 b1 142 [[.int .u64 x1], [.int .u64 x2], [.int .u64 x3], [.int .u64 x4]] [1, 1, 1, 1]⟩, ⟨some 0, [], [0], fun l g => l.getD 0 undef = .int .u64 x4⟩, ⟨some 1, [], [1], fun l g => l.getD 0 undef = .int .u64 x1⟩, ⟨some 2, [], [2], fun l g => l.getD 0 undef = .int .u64 x7⟩, ⟨some 3, [0], [], fun l g => Box g m0 b1 142 [[.int .u64 x1], [.int .u64 x2], [.int .u64 x3], [.int .u64 x7]] [1, 1, 1, 1]⟩] [[], [], [], [0]] [m0] [0, 1, 2, 3, 5, 6, 7, 10, 12, 13] [9] (by kernel_rfl) (by simp <;> omega) (by simp) ⟨fun _ _ _ _ st h0 hl hj hB1 => (hB1.mono st (hj 0 (by simp) _ rfl)), fun _ _ _ _ st h0 hl hj e0 => e0, fun _ _ _ _ st h0 hl hj e1 => e1, fun _ _ _ _ st h0 hl hj e2 => e2, fun _ _ _ _ st h0 hl hj hB1 => (hB1.mono st (hj 0 (by simp) _ rfl)), tv⟩ ⟨hB1, tv, tv, tv, tv, tv⟩ (by kernel_rfl) (fun vs => by kernel_rfl) ?_ ?_ ?_
 ·intro j hj
  have hq : j = 0 := by have h : j < 1 := hj; omega
  rcases hq with rfl
  ·intro vs gq stq hl hf
   obtain ⟨v0, v1, v2, v3, rfl⟩ := len_k4 hl
   have e0 := (show v0 = .int .u64 x4 from hf _ (memI 1 rfl) (by kernel_rfl))
   subst e0
   have e1 := (show v1 = .int .u64 x1 from hf _ (memI 2 rfl) (by kernel_rfl))
   subst e1
   show Option.isSome _ = true
   kernel_rfl
 ·intro j hj
  have hq : j = 0 ∨ j = 1 ∨ j = 2 ∨ j = 3 := by have h : j < 4 := hj; omega
  rcases hq with rfl | rfl | rfl | rfl
  ·intro vs gq stq hl hf
   obtain ⟨v0, v1, v2, v3, rfl⟩ := len_k4 hl
   have hB1 := (show Box gq m0 b1 142 [[.int .u64 x1], [.int .u64 x2], [.int .u64 x3], [.int .u64 x4]] [1, 1, 1, 1] from hf _ (memI 0 rfl) (by kernel_rfl))
   refine WP.loadB (v := .int .u64 x4) hB1 (by kernel_rfl) (by kernel_rfl) ?_
   refine WP.dn (Shown.ok (v := .int .u64 x4) (by kernel_rfl) (Step.refl _ _) ?_)
   exact ⟨tv, rfl, tv, tv, tv, tv⟩
  ·intro vs gq stq hl hf
   obtain ⟨v0, v1, v2, v3, rfl⟩ := len_k4 hl
   have hB1 := (show Box gq m0 b1 142 [[.int .u64 x1], [.int .u64 x2], [.int .u64 x3], [.int .u64 x4]] [1, 1, 1, 1] from hf _ (memI 0 rfl) (by kernel_rfl))
   refine WP.loadB (v := .int .u64 x1) hB1 (by kernel_rfl) (by kernel_rfl) ?_
   refine WP.dn (Shown.ok (v := .int .u64 x1) (by kernel_rfl) (Step.refl _ _) ?_)
   exact ⟨tv, tv, rfl, tv, tv, tv⟩
  ·intro vs gq stq hl hf
   obtain ⟨v0, v1, v2, v3, rfl⟩ := len_k4 hl
   have e0 := (show v0 = .int .u64 x4 from hf _ (memI 1 rfl) (by kernel_rfl))
   subst e0
   have e1 := (show v1 = .int .u64 x1 from hf _ (memI 2 rfl) (by kernel_rfl))
   subst e1
   have hcal1 := P.math_bits_RotateLeft64 gq (bitXor .u64 x4 x1) x5 x7 hk1
   refine WP.callC hcal1 (by kernel_rfl) ?_
   rintro _ g1 st1 rfl
   refine WP.dn (Shown.o (v := .int .u64 x7) st1.pure ?_)
   exact ⟨tv, tv, tv, rfl, tv, tv⟩
  ·intro vs gq stq hl hf
   obtain ⟨v0, v1, v2, v3, rfl⟩ := len_k4 hl
   have hB1 := (show Box gq m0 b1 142 [[.int .u64 x1], [.int .u64 x2], [.int .u64 x3], [.int .u64 x4]] [1, 1, 1, 1] from hf _ (memI 0 rfl) (by kernel_rfl))
   have e2 := (show v2 = .int .u64 x7 from hf _ (memI 3 rfl) (by kernel_rfl))
   subst e2
   refine WP.storeB (ty := 116) (off := 3) (v := .int .u64 x7) hB1 [[.int .u64 x7]] [1] (by kernel_rfl) (by kernel_rfl) rfl (by kernel_rfl) [[.int .u64 x1], [.int .u64 x2], [.int .u64 x3], [.int .u64 x7]] (by kernel_rfl) (.one rfl .nil) ?_
   intro g2 st2 hB2
   refine WP.dn (Shown.o (v := undef) st2 ?_)
   exact ⟨tv, tv, tv, tv, hB2, tv⟩
 intro vs g3 st3 hl hf
 obtain ⟨v0, v1, v2, v3, rfl⟩ := len_k4 hl
 have hB1 := (show Box g3 m0 b1 142 [[.int .u64 x1], [.int .u64 x2], [.int .u64 x3], [.int .u64 x7]] [1, 1, 1, 1] from hf _ (memI 4 rfl) (by kernel_rfl))
 replace tot := tot.trans (st3.up1 (.inl (by simp [WL])))
 refine NX.then_n ?_
 refine CP.refr 45 [(0, .pointer (some ⟨b1, 0, none⟩)), (2, .int .i64 x6)] (by kernel_rfl) (by kernel_rfl) ?_
 clear ds
 intro ds
 refine CP.seq ?_
 refine CP.drawL (by kernel_rfl) [3, 7, 11] N.hash_state_mix_1 [⟨none, [0], [], fun l g => Box g m0 b1 142 [[.int .u64 x1], [.int .u64 x2], [.int .u64 x3], [.int .u64 x7]] [1, 1, 1, 1]⟩, ⟨some 0, [], [0], fun l g => l.getD 0 undef = .int .u64 x3⟩, ⟨some 1, [], [1], fun l g => l.getD 0 undef = .int .u64 x7⟩, ⟨some 2, [0], [], fun l g => Box g m0 b1 142 [[.int .u64 x1], [.int .u64 x2], [.int .u64 (IntKind.u64.wrap (x3 + x7))], [.int .u64 x7]] [1, 1, 1, 1]⟩] [[], [], [0]] [m0] [0, 1, 2, 4, 5, 6, 9, 10] [8] (by kernel_rfl) (by simp <;> omega) (by simp) ⟨fun _ _ _ _ st h0 hl hj hB1 => (hB1.mono st (hj 0 (by simp) _ rfl)), fun _ _ _ _ st h0 hl hj e0 => e0, fun _ _ _ _ st h0 hl hj e1 => e1, fun _ _ _ _ st h0 hl hj hB1 => (hB1.mono st (hj 0 (by simp) _ rfl)), tv⟩ ⟨hB1, tv, tv, tv, tv⟩ (by kernel_rfl) (fun vs => by kernel_rfl) ?_ ?_ ?_
 ·intro j hj
  have hq : j = 0 := by have h : j < 1 := hj; omega
  rcases hq with rfl
  ·intro vs gq stq hl hf
   obtain ⟨v0, v1, v2, rfl⟩ := len_k3 hl
   have e0 := (show v0 = .int .u64 x3 from hf _ (memI 1 rfl) (by kernel_rfl))
   subst e0
   have e1 := (show v1 = .int .u64 x7 from hf _ (memI 2 rfl) (by kernel_rfl))
   subst e1
   show Option.isSome _ = true
   kernel_rfl
 ·intro j hj
  have hq : j = 0 ∨ j = 1 ∨ j = 2 := by have h : j < 3 := hj; omega
  rcases hq with rfl | rfl | rfl
  ·intro vs gq stq hl hf
   obtain ⟨v0, v1, v2, rfl⟩ := len_k3 hl
   have hB1 := (show Box gq m0 b1 142 [[.int .u64 x1], [.int .u64 x2], [.int .u64 x3], [.int .u64 x7]] [1, 1, 1, 1] from hf _ (memI 0 rfl) (by kernel_rfl))
   refine WP.loadB (v := .int .u64 x3) hB1 (by kernel_rfl) (by kernel_rfl) ?_
   refine WP.dn (Shown.ok (v := .int .u64 x3) (by kernel_rfl) (Step.refl _ _) ?_)
   exact ⟨tv, rfl, tv, tv, tv⟩
  ·intro vs gq stq hl hf
   obtain ⟨v0, v1, v2, rfl⟩ := len_k3 hl
   have hB1 := (show Box gq m0 b1 142 [[.int .u64 x1], [.int .u64 x2], [.int .u64 x3], [.int .u64 x7]] [1, 1, 1, 1] from hf _ (memI 0 rfl) (by kernel_rfl))
   refine WP.loadB (v := .int .u64 x7) hB1 (by kernel_rfl) (by kernel_rfl) ?_
   refine WP.dn (Shown.ok (v := .int .u64 x7) (by kernel_rfl) (Step.refl _ _) ?_)
   exact ⟨tv, tv, rfl, tv, tv⟩
  ·intro vs gq stq hl hf
   obtain ⟨v0, v1, v2, rfl⟩ := len_k3 hl
   have hB1 := (show Box gq m0 b1 142 [[.int .u64 x1], [.int .u64 x2], [.int .u64 x3], [.int .u64 x7]] [1, 1, 1, 1] from hf _ (memI 0 rfl) (by kernel_rfl))
   have e0 := (show v0 = .int .u64 x3 from hf _ (memI 1 rfl) (by kernel_rfl))
   subst e0
   have e1 := (show v1 = .int .u64 x7 from hf _ (memI 2 rfl) (by kernel_rfl))
   subst e1
   refine WP.storeB (ty := 116) (off := 2) (v := .int .u64 (IntKind.u64.wrap (x3 + x7))) hB1 [[.int .u64 (IntKind.u64.wrap (x3 + x7))]] [1] (by kernel_rfl) (by kernel_rfl) rfl (by kernel_rfl) [[.int .u64 x1], [.int .u64 x2], [.int .u64 (IntKind.u64.wrap (x3 + x7))], [.int .u64 x7]] (by kernel_rfl) (.one rfl .nil) ?_
   intro g4 st4 hB3
   refine WP.dn (Shown.o (v := undef) st4 ?_)
   exact ⟨tv, tv, tv, hB3, tv⟩
 intro vs g5 st5 hl hf
 obtain ⟨v0, v1, v2, rfl⟩ := len_k3 hl
 have hB1 := (show Box g5 m0 b1 142 [[.int .u64 x1], [.int .u64 x2], [.int .u64 (IntKind.u64.wrap (x3 + x7))], [.int .u64 x7]] [1, 1, 1, 1] from hf _ (memI 3 rfl) (by kernel_rfl))
 replace tot := tot.trans (st5.up1 (.inl (by simp [WL])))
 refine NX.then_n ?_
 refine CP.refr 45 [(0, .pointer (some ⟨b1, 0, none⟩)), (2, .int .i64 x6)] (by kernel_rfl) (by kernel_rfl) ?_
 clear ds
 intro ds
 replace hs := Option.bind_eq_some_iff.1 hs
 obtain ⟨x8, hk2, hs⟩ := hs
 refine CP.drawL (by kernel_rfl) [4, 8, 11, 14] N.hash_state_mix_0 [⟨none, [0], [], fun l g => Box g m0 b1 142 [[.int .u64 x1], [.int .u64 x2], [.int .u64 (IntKind.u64.wrap (x3 + x7))], [.int .u64 x7]] [1, 1, 1, 1]⟩, ⟨some 0, [], [0], fun l g => l.getD 0 undef = .int .u64 x2⟩, ⟨some 1, [], [1], fun l g => l.getD 0 undef = .int .u64 (IntKind.u64.wrap (x3 + x7))⟩, ⟨some 2, [], [2], fun l g => l.getD 0 undef = .int .u64 x8⟩, ⟨some 3, [0], [], fun l g => Box g m0 b1 142 [[.int .u64 x1], [.int .u64 x8], [.int .u64 (IntKind.u64.wrap (x3 + x7))], [.int .u64 x7]] [1, 1, 1, 1]⟩] [[], [], [], [0]] [m0] [0, 1, 2, 3, 5, 6, 7, 10, 12, 13] [9] (by kernel_rfl) (by simp <;> omega) (by simp) ⟨fun _ _ _ _ st h0 hl hj hB1 => (hB1.mono st (hj 0 (by simp) _ rfl)), fun _ _ _ _ st h0 hl hj e0 => e0, fun _ _ _ _ st h0 hl hj e1 => e1, fun _ _ _ _ st h0 hl hj e2 => e2, fun _ _ _ _ st h0 hl hj hB1 => (hB1.mono st (hj 0 (by simp) _ rfl)), tv⟩ ⟨hB1, tv, tv, tv, tv, tv⟩ (by kernel_rfl) (fun vs => by kernel_rfl) ?_ ?_ ?_
 ·intro j hj
  have hq : j = 0 := by have h : j < 1 := hj; omega
  rcases hq with rfl
  ·intro vs gq stq hl hf
   obtain ⟨v0, v1, v2, v3, rfl⟩ := len_k4 hl
   have e0 := (show v0 = .int .u64 x2 from hf _ (memI 1 rfl) (by kernel_rfl))
   subst e0
   have e1 := (show v1 = .int .u64 (IntKind.u64.wrap (x3 + x7)) from hf _ (memI 2 rfl) (by kernel_rfl))
   subst e1
   show Option.isSome _ = true
   kernel_rfl
 ·intro j hj
  have hq : j = 0 ∨ j = 1 ∨ j = 2 ∨ j = 3 := by have h : j < 4 := hj; omega
  rcases hq with rfl | rfl | rfl | rfl
  ·intro vs gq stq hl hf
   obtain ⟨v0, v1, v2, v3, rfl⟩ := len_k4 hl
   have hB1 := (show Box gq m0 b1 142 [[.int .u64 x1], [.int .u64 x2], [.int .u64 (IntKind.u64.wrap (x3 + x7))], [.int .u64 x7]] [1, 1, 1, 1] from hf _ (memI 0 rfl) (by kernel_rfl))
   refine WP.loadB (v := .int .u64 x2) hB1 (by kernel_rfl) (by kernel_rfl) ?_
   refine WP.dn (Shown.ok (v := .int .u64 x2) (by kernel_rfl) (Step.refl _ _) ?_)
   exact ⟨tv, rfl, tv, tv, tv, tv⟩
  ·intro vs gq stq hl hf
   obtain ⟨v0, v1, v2, v3, rfl⟩ := len_k4 hl
   have hB1 := (show Box gq m0 b1 142 [[.int .u64 x1], [.int .u64 x2], [.int .u64 (IntKind.u64.wrap (x3 + x7))], [.int .u64 x7]] [1, 1, 1, 1] from hf _ (memI 0 rfl) (by kernel_rfl))
   refine WP.loadB (v := .int .u64 (IntKind.u64.wrap (x3 + x7))) hB1 (by kernel_rfl) (by kernel_rfl) ?_
   refine WP.dn (Shown.ok (v := .int .u64 (IntKind.u64.wrap (x3 + x7))) (by kernel_rfl) (Step.refl _ _) ?_)
   exact ⟨tv, tv, rfl, tv, tv, tv⟩
  ·intro vs gq stq hl hf
   obtain ⟨v0, v1, v2, v3, rfl⟩ := len_k4 hl
   have e0 := (show v0 = .int .u64 x2 from hf _ (memI 1 rfl) (by kernel_rfl))
   subst e0
   have e1 := (show v1 = .int .u64 (IntKind.u64.wrap (x3 + x7)) from hf _ (memI 2 rfl) (by kernel_rfl))
   subst e1
   have hcal2 := P.math_bits_RotateLeft64 gq (bitXor .u64 x2 (IntKind.u64.wrap (x3 + x7))) x6 x8 hk2
   refine WP.callC hcal2 (by kernel_rfl) ?_
   rintro _ g6 st6 rfl
   refine WP.dn (Shown.o (v := .int .u64 x8) st6.pure ?_)
   exact ⟨tv, tv, tv, rfl, tv, tv⟩
  ·intro vs gq stq hl hf
   obtain ⟨v0, v1, v2, v3, rfl⟩ := len_k4 hl
   have hB1 := (show Box gq m0 b1 142 [[.int .u64 x1], [.int .u64 x2], [.int .u64 (IntKind.u64.wrap (x3 + x7))], [.int .u64 x7]] [1, 1, 1, 1] from hf _ (memI 0 rfl) (by kernel_rfl))
   have e2 := (show v2 = .int .u64 x8 from hf _ (memI 3 rfl) (by kernel_rfl))
   subst e2
   refine WP.storeB (ty := 116) (off := 1) (v := .int .u64 x8) hB1 [[.int .u64 x8]] [1] (by kernel_rfl) (by kernel_rfl) rfl (by kernel_rfl) [[.int .u64 x1], [.int .u64 x8], [.int .u64 (IntKind.u64.wrap (x3 + x7))], [.int .u64 x7]] (by kernel_rfl) (.one rfl .nil) ?_
   intro g7 st7 hB4
   refine WP.dn (Shown.o (v := undef) st7 ?_)
   exact ⟨tv, tv, tv, tv, hB4, tv⟩
 intro vs g8 st8 hl hf
 obtain ⟨v0, v1, v2, v3, rfl⟩ := len_k4 hl
 have hB1 := (show Box g8 m0 b1 142 [[.int .u64 x1], [.int .u64 x8], [.int .u64 (IntKind.u64.wrap (x3 + x7))], [.int .u64 x7]] [1, 1, 1, 1] from hf _ (memI 4 rfl) (by kernel_rfl))
 replace tot := tot.trans (st8.up1 (.inl (by simp [WL])))
 replace hs := Option.some.inj hs
 simp only [Prod.mk.injEq] at hs
 obtain ⟨rfl, rfl, rfl, rfl⟩ := hs
 exact NX.finE (v := .tuple #[]) (Res.still (by kernel_rfl)) tot htL ⟨rfl, hB1⟩
def N.hash_state_stir_0 : List (List Nat) := [[], [], [1], [1, 2], [1, 2, 3], [], [5], [5, 6], [5, 6, 7], [1, 2, 3, 4, 5, 6, 7, 8], [], [10], [10, 11], [1, 2, 3, 4, 5, 6, 7, 8, 9, 10, 11, 12], [0], [0, 1, 2, 3, 4, 5, 6, 7, 8, 9, 10, 11, 12, 13, 14], [0, 1, 2, 3, 4, 5, 6, 7, 8, 9, 10, 11, 12, 13, 14, 15]]
def N.hash_state_stir_1 : List (List Nat) := [[], [0], [0, 1], [0, 1, 2], [], [4], [4, 5], [4, 5, 6], [0, 1, 2, 3, 4, 5, 6, 7], [0], [0, 1, 2, 3, 4, 5, 6, 7, 8, 9], [0, 1, 2, 3, 4, 5, 6, 7, 8, 9, 10]]
def F.hash_state_stir.l1 : Nat → Int → Int → Int → Int → Int → Option (Int × Int × Int × Int)
 | 0, _, _, _, _, _ => none
 | k + 1, x13, x14, x15, x16, x17 => (if decide (x17 < 6) = true then ((F.hash_state_mix (bitXor .u64 (IntKind.u64.wrap (x13 + x14)) (IntKind.u64.wrap (IntKind.i64.wrap (x17 + 1)))) x14 x15 x16 32 24).bind fun (x31, x32, x33, x34) => ((F.hash_state_mix (IntKind.u64.wrap (x31 + x32)) x32 x33 x34 16 63).bind fun (x35, x36, x37, x38) => (F.hash_state_stir.l1 k x35 x36 x37 x38 (IntKind.i64.wrap (x17 + 1))))) else (some (x13, x14, x15, x16)))
def F.hash_state_stir (x1 : Int) (x2 : Int) (x3 : Int) (x4 : Int) : Option (Int × Int × Int × Int) := (F.hash_state_stir.l1 fuel x1 x2 x3 x4 0)
theorem P.hash_state_stir (g0 : GW) (m0 : Nat) (x1 : Int) (x2 : Int) (x3 : Int) (x4 : Int) (b1 : Nat) (hB1 : Box g0 m0 b1 142 [[.int .u64 x1], [.int .u64 x2], [.int .u64 x3], [.int .u64 x4]] [1, 1, 1, 1]) (hm0 : m0 ≠ 0) (o1 : Int) (o2 : Int) (o3 : Int) (o4 : Int) (hs : F.hash_state_stir x1 x2 x3 x4 = some (o1, o2, o3, o4)) :
  Calls Try.prog 113 #[.pointer (some ⟨b1, 0, none⟩)] g0.w (Ret (WL [m0]) g0 fun v g => v = .tuple #[] ∧ Box g m0 b1 142 [[.int .u64 o1], [.int .u64 o2], [.int .u64 o3], [.int .u64 o4]] [1, 1, 1, 1]) := by
 refine calls_of (args := [.pointer (some ⟨b1, 0, none⟩)]) Try.func113 rfl (m0 + 0) ?_
 intro t ht htL
 refine ⟨_, rfl, ?_⟩
 refine CP.refr 38 [(0, .pointer (some ⟨b1, 0, none⟩))] (by kernel_rfl) (by kernel_rfl) ?_
 intro ds
 have tot : Step (fun l => (WL [m0]) l ∨ t ≤ l) g0 g0 := Step.refl _ _
 unfold F.hash_state_stir at hs
 refine CP.seqR ?_
 refine WP.stl 1 ?_
 refine WP.dn ?_
 refine NX.then_n ?_
 refine CP.block ?_
 generalize fuel = k1 at hs
 refine CP.loop (fun k1 tm g => ∃ (x13 : Int) (x14 : Int) (x15 : Int) (x16 : Int) (x17 : Int), Fr 38 [(0, .pointer (some ⟨b1, 0, none⟩)), (3, .int .i64 x17)] tm ∧ Step (fun l => (WL [m0]) l ∨ t ≤ l) g0 g ∧ Box g m0 b1 142 [[.int .u64 x13], [.int .u64 x14], [.int .u64 x15], [.int .u64 x16]] [1, 1, 1, 1] ∧ F.hash_state_stir.l1 k1 x13 x14 x15 x16 x17 = some (o1, o2, o3, o4)) k1 ?_ ?_ ?_
 ·exact ⟨x1, x2, x3, x4, 0, ⟨by kernel_rfl, by kernel_rfl⟩, tot, hB1, hs⟩
 ·rintro tm g ⟨x13, x14, x15, x16, x17, hF, tot, hB1, hs⟩
  exact absurd hs (by simp [F.hash_state_stir.l1])
 clear tot hs hB1
 rintro k1 tm g ⟨x13, x14, x15, x16, x17, hF, tot, hB1, hs⟩
 clear ds
 obtain ⟨ds, rfl⟩ := hF.open
 clear hF
 unfold F.hash_state_stir.l1 at hs
 refine CP.seqR ?_
 refine WP.stl 1 ?_
 refine WP.dn ?_
 refine NX.then_n ?_
 refine CP.seq ?_
 refine CP.cond (b := decide (x17 < 6)) (by kernel_rfl) (fun h3 => ?_) (fun h3 => ?_)
 ·replace hs := of_if_t hs h3
  refine CP.skip ?_
  refine NX.then_n ?_
  refine CP.seq ?_
  refine CP.block ?_
  refine CP.seqR ?_
  refine WP.stl 2 ?_
  refine WP.dn ?_
  refine NX.then_n ?_
  refine CP.seq ?_
  refine CP.drawL (by kernel_rfl) [4, 8, 16] N.hash_state_stir_0 [⟨none, [0], [], fun l g => Box g m0 b1 142 [[.int .u64 x13], [.int .u64 x14], [.int .u64 x15], [.int .u64 x16]] [1, 1, 1, 1]⟩, ⟨some 0, [], [0], fun l g => l.getD 0 undef = .int .u64 x13⟩, ⟨some 1, [], [1], fun l g => l.getD 0 undef = .int .u64 x14⟩, ⟨some 2, [0], [], fun l g => Box g m0 b1 142 [[.int .u64 (bitXor .u64 (IntKind.u64.wrap (x13 + x14)) (IntKind.u64.wrap (IntKind.i64.wrap (x17 + 1))))], [.int .u64 x14], [.int .u64 x15], [.int .u64 x16]] [1, 1, 1, 1]⟩] [[], [], [0]] [m0] [0, 1, 2, 3, 5, 6, 7, 10, 11, 12, 14, 15] [9, 13] (by kernel_rfl) (by simp <;> omega) (by simp) ⟨fun _ _ _ _ st h0 hl hj hB1 => (hB1.mono st (hj 0 (by simp) _ rfl)), fun _ _ _ _ st h0 hl hj e0 => e0, fun _ _ _ _ st h0 hl hj e1 => e1, fun _ _ _ _ st h0 hl hj hB1 => (hB1.mono st (hj 0 (by simp) _ rfl)), tv⟩ ⟨hB1, tv, tv, tv, tv⟩ (by kernel_rfl) (fun vs => by kernel_rfl) ?_ ?_ ?_
  ·intro j hj
   have hq : j = 0 ∨ j = 1 := by have h : j < 2 := hj; omega
   rcases hq with rfl | rfl
   ·intro vs gq stq hl hf
    obtain ⟨v0, v1, v2, rfl⟩ := len_k3 hl
    have e0 := (show v0 = .int .u64 x13 from hf _ (memI 1 rfl) (by kernel_rfl))
    subst e0
    have e1 := (show v1 = .int .u64 x14 from hf _ (memI 2 rfl) (by kernel_rfl))
    subst e1
    show Option.isSome _ = true
    kernel_rfl
   ·intro vs gq stq hl hf
    obtain ⟨v0, v1, v2, rfl⟩ := len_k3 hl
    have e0 := (show v0 = .int .u64 x13 from hf _ (memI 1 rfl) (by kernel_rfl))
    subst e0
    have e1 := (show v1 = .int .u64 x14 from hf _ (memI 2 rfl) (by kernel_rfl))
    subst e1
    show Option.isSome _ = true
    kernel_rfl
  ·intro j hj
   have hq : j = 0 ∨ j = 1 ∨ j = 2 := by have h : j < 3 := hj; omega
   rcases hq with rfl | rfl | rfl
   ·intro vs gq stq hl hf
    obtain ⟨v0, v1, v2, rfl⟩ := len_k3 hl
    have hB1 := (show Box gq m0 b1 142 [[.int .u64 x13], [.int .u64 x14], [.int .u64 x15], [.int .u64 x16]] [1, 1, 1, 1] from hf _ (memI 0 rfl) (by kernel_rfl))
    refine WP.loadB (v := .int .u64 x13) hB1 (by kernel_rfl) (by kernel_rfl) ?_
    refine WP.dn (Shown.ok (v := .int .u64 x13) (by kernel_rfl) (Step.refl _ _) ?_)
    exact ⟨tv, rfl, tv, tv, tv⟩
   ·intro vs gq stq hl hf
    obtain ⟨v0, v1, v2, rfl⟩ := len_k3 hl
    have hB1 := (show Box gq m0 b1 142 [[.int .u64 x13], [.int .u64 x14], [.int .u64 x15], [.int .u64 x16]] [1, 1, 1, 1] from hf _ (memI 0 rfl) (by kernel_rfl))
    refine WP.loadB (v := .int .u64 x14) hB1 (by kernel_rfl) (by kernel_rfl) ?_
    refine WP.dn (Shown.ok (v := .int .u64 x14) (by kernel_rfl) (Step.refl _ _) ?_)
    exact ⟨tv, tv, rfl, tv, tv⟩
   ·intro vs gq stq hl hf
    obtain ⟨v0, v1, v2, rfl⟩ := len_k3 hl
    have hB1 := (show Box gq m0 b1 142 [[.int .u64 x13], [.int .u64 x14], [.int .u64 x15], [.int .u64 x16]] [1, 1, 1, 1] from hf _ (memI 0 rfl) (by kernel_rfl))
    have e0 := (show v0 = .int .u64 x13 from hf _ (memI 1 rfl) (by kernel_rfl))
    subst e0
    have e1 := (show v1 = .int .u64 x14 from hf _ (memI 2 rfl) (by kernel_rfl))
    subst e1
    refine WP.storeB (ty := 116) (off := 0) (v := .int .u64 (bitXor .u64 (IntKind.u64.wrap (x13 + x14)) (IntKind.u64.wrap (IntKind.i64.wrap (x17 + 1))))) hB1 [[.int .u64 (bitXor .u64 (IntKind.u64.wrap (x13 + x14)) (IntKind.u64.wrap (IntKind.i64.wrap (x17 + 1))))]] [1] (by kernel_rfl) (by kernel_rfl) rfl (by kernel_rfl) [[.int .u64 (bitXor .u64 (IntKind.u64.wrap (x13 + x14)) (IntKind.u64.wrap (IntKind.i64.wrap (x17 + 1))))], [.int .u64 x14], [.int .u64 x15], [.int .u64 x16]] (by kernel_rfl) (.one rfl .nil) ?_
    intro g9 st9 hB10
    refine WP.dn (Shown.o (v := undef) st9 ?_)
    exact ⟨tv, tv, tv, hB10, tv⟩
  intro vs g10 st10 hl hf
  obtain ⟨v0, v1, v2, rfl⟩ := len_k3 hl
  have hB1 := (show Box g10 m0 b1 142 [[.int .u64 (bitXor .u64 (IntKind.u64.wrap (x13 + x14)) (IntKind.u64.wrap (IntKind.i64.wrap (x17 + 1))))], [.int .u64 x14], [.int .u64 x15], [.int .u64 x16]] [1, 1, 1, 1] from hf _ (memI 3 rfl) (by kernel_rfl))
  replace tot := tot.trans (st10.up1 (.inl (by simp [WL])))
  refine NX.then_n ?_
  refine CP.refr 38 [(0, .pointer (some ⟨b1, 0, none⟩)), (3, .int .i64 x17)] (by kernel_rfl) (by kernel_rfl) ?_
  clear ds
  intro ds
  refine CP.seqR ?_
  refine WP.stl 1 ?_
  replace hs := Option.bind_eq_some_iff.1 hs
  obtain ⟨⟨x31, x32, x33, x34⟩, hk5, hs⟩ := hs
  dsimp only at hs
  have hcal5 := P.hash_state_mix g10 m0 (bitXor .u64 (IntKind.u64.wrap (x13 + x14)) (IntKind.u64.wrap (IntKind.i64.wrap (x17 + 1)))) x14 x15 x16 32 24 b1 hB1 (by omega) x31 x32 x33 x34 hk5
  refine WP.callC hcal5 (by kernel_rfl) ?_
  rintro _ g11 st11 ⟨rfl, hB11⟩
  replace tot := tot.trans (st11.up1 (.inl (by simp [WL])))
  clear hB1
  have hB1 := hB11
  clear hB11
  refine WP.dn ?_
  refine NX.then_n ?_
  refine CP.seq ?_
  refine CP.drawL (by kernel_rfl) [3, 7, 11] N.hash_state_stir_1 [⟨none, [0], [], fun l g => Box g m0 b1 142 [[.int .u64 x31], [.int .u64 x32], [.int .u64 x33], [.int .u64 x34]] [1, 1, 1, 1]⟩, ⟨some 0, [], [0], fun l g => l.getD 0 undef = .int .u64 x31⟩, ⟨some 1, [], [1], fun l g => l.getD 0 undef = .int .u64 x32⟩, ⟨some 2, [0], [], fun l g => Box g m0 b1 142 [[.int .u64 (IntKind.u64.wrap (x31 + x32))], [.int .u64 x32], [.int .u64 x33], [.int .u64 x34]] [1, 1, 1, 1]⟩] [[], [], [0]] [m0] [0, 1, 2, 4, 5, 6, 9, 10] [8] (by kernel_rfl) (by simp <;> omega) (by simp) ⟨fun _ _ _ _ st h0 hl hj hB1 => (hB1.mono st (hj 0 (by simp) _ rfl)), fun _ _ _ _ st h0 hl hj e0 => e0, fun _ _ _ _ st h0 hl hj e1 => e1, fun _ _ _ _ st h0 hl hj hB1 => (hB1.mono st (hj 0 (by simp) _ rfl)), tv⟩ ⟨hB1, tv, tv, tv, tv⟩ (by kernel_rfl) (fun vs => by kernel_rfl) ?_ ?_ ?_
  ·intro j hj
   have hq : j = 0 := by have h : j < 1 := hj; omega
   rcases hq with rfl
   ·intro vs gq stq hl hf
    obtain ⟨v0, v1, v2, rfl⟩ := len_k3 hl
    have e0 := (show v0 = .int .u64 x31 from hf _ (memI 1 rfl) (by kernel_rfl))
    subst e0
    have e1 := (show v1 = .int .u64 x32 from hf _ (memI 2 rfl) (by kernel_rfl))
    subst e1
    show Option.isSome _ = true
    kernel_rfl
  ·intro j hj
   have hq : j = 0 ∨ j = 1 ∨ j = 2 := by have h : j < 3 := hj; omega
   rcases hq with rfl | rfl | rfl
   ·intro vs gq stq hl hf
    obtain ⟨v0, v1, v2, rfl⟩ := len_k3 hl
    have hB1 := (show Box gq m0 b1 142 [[.int .u64 x31], [.int .u64 x32], [.int .u64 x33], [.int .u64 x34]] [1, 1, 1, 1] from hf _ (memI 0 rfl) (by kernel_rfl))
    refine WP.loadB (v := .int .u64 x31) hB1 (by kernel_rfl) (by kernel_rfl) ?_
    refine WP.dn (Shown.ok (v := .int .u64 x31) (by kernel_rfl) (Step.refl _ _) ?_)
    exact ⟨tv, rfl, tv, tv, tv⟩
   ·intro vs gq stq hl hf
    obtain ⟨v0, v1, v2, rfl⟩ := len_k3 hl
    have hB1 := (show Box gq m0 b1 142 [[.int .u64 x31], [.int .u64 x32], [.int .u64 x33], [.int .u64 x34]] [1, 1, 1, 1] from hf _ (memI 0 rfl) (by kernel_rfl))
    refine WP.loadB (v := .int .u64 x32) hB1 (by kernel_rfl) (by kernel_rfl) ?_
    refine WP.dn (Shown.ok (v := .int .u64 x32) (by kernel_rfl) (Step.refl _ _) ?_)
    exact ⟨tv, tv, rfl, tv, tv⟩
   ·intro vs gq stq hl hf
    obtain ⟨v0, v1, v2, rfl⟩ := len_k3 hl
    have hB1 := (show Box gq m0 b1 142 [[.int .u64 x31], [.int .u64 x32], [.int .u64 x33], [.int .u64 x34]] [1, 1, 1, 1] from hf _ (memI 0 rfl) (by kernel_rfl))
    have e0 := (show v0 = .int .u64 x31 from hf _ (memI 1 rfl) (by kernel_rfl))
    subst e0
    have e1 := (show v1 = .int .u64 x32 from hf _ (memI 2 rfl) (by kernel_rfl))
    subst e1
    refine WP.storeB (ty := 116) (off := 0) (v := .int .u64 (IntKind.u64.wrap (x31 + x32))) hB1 [[.int .u64 (IntKind.u64.wrap (x31 + x32))]] [1] (by kernel_rfl) (by kernel_rfl) rfl (by kernel_rfl) [[.int .u64 (IntKind.u64.wrap (x31 + x32))], [.int .u64 x32], [.int .u64 x33], [.int .u64 x34]] (by kernel_rfl) (.one rfl .nil) ?_
    intro g12 st12 hB12
    refine WP.dn (Shown.o (v := undef) st12 ?_)
    exact ⟨tv, tv, tv, hB12, tv⟩
  intro vs g13 st13 hl hf
  obtain ⟨v0, v1, v2, rfl⟩ := len_k3 hl
  have hB1 := (show Box g13 m0 b1 142 [[.int .u64 (IntKind.u64.wrap (x31 + x32))], [.int .u64 x32], [.int .u64 x33], [.int .u64 x34]] [1, 1, 1, 1] from hf _ (memI 3 rfl) (by kernel_rfl))
  replace tot := tot.trans (st13.up1 (.inl (by simp [WL])))
  refine NX.then_n ?_
  refine CP.refr 38 [(0, .pointer (some ⟨b1, 0, none⟩)), (3, .int .i64 x17)] (by kernel_rfl) (by kernel_rfl) ?_
  clear ds
  intro ds
  refine CP.region ?_
  refine WP.stl 1 ?_
  replace hs := Option.bind_eq_some_iff.1 hs
  obtain ⟨⟨x35, x36, x37, x38⟩, hk6, hs⟩ := hs
  dsimp only at hs
  have hcal6 := P.hash_state_mix g13 m0 (IntKind.u64.wrap (x31 + x32)) x32 x33 x34 16 63 b1 hB1 (by omega) x35 x36 x37 x38 hk6
  refine WP.callC hcal6 (by kernel_rfl) ?_
  rintro _ g14 st14 ⟨rfl, hB13⟩
  replace tot := tot.trans (st14.up1 (.inl (by simp [WL])))
  clear hB1
  have hB1 := hB13
  clear hB13
  refine WP.dn ?_
  refine NX.block_n ?_
  refine NX.then_n ?_
  refine CP.region ?_
  refine WP.stl 2 ?_
  refine WP.dn ?_
  refine NX.post ?_
  exact ⟨x35, x36, x37, x38, (IntKind.i64.wrap (x17 + 1)), ⟨by kernel_rfl, by kernel_rfl⟩, tot, hB1, hs⟩
 replace hs := of_if_f hs h3
 refine CP.exit ?_
 refine NX.then_e ?_
 refine NX.then_e ?_
 refine NX.block_s ?_
 replace hs := Option.some.inj hs
 simp only [Prod.mk.injEq] at hs
 obtain ⟨rfl, rfl, rfl, rfl⟩ := hs
 exact NX.finE (v := .tuple #[]) (Res.still (by kernel_rfl)) tot htL ⟨rfl, hB1⟩
def N.hash_state_take_0 : List (List Nat) := [[], [0], [0, 1], [0, 1, 2], [], [0, 1, 2, 3, 4], [0], [0, 1, 2, 3, 4, 5, 6], [0, 1, 2, 3, 4, 5, 6, 7]]
def F.hash_state_take (x1 : Int) (x2 : Int) (x3 : Int) (x4 : Int) (x5 : Int) : Option (Int × Int × Int × Int) := ((F.hash_state_stir (bitXor .u64 x1 x5) x2 x3 x4).bind fun (x6, x7, x8, x9) => (some (x6, x7, x8, x9)))
theorem P.hash_state_take (g0 : GW) (m0 : Nat) (x1 : Int) (x2 : Int) (x3 : Int) (x4 : Int) (x5 : Int) (b1 : Nat) (hB1 : Box g0 m0 b1 142 [[.int .u64 x1], [.int .u64 x2], [.int .u64 x3], [.int .u64 x4]] [1, 1, 1, 1]) (hm0 : m0 ≠ 0) (o1 : Int) (o2 : Int) (o3 : Int) (o4 : Int) (hs : F.hash_state_take x1 x2 x3 x4 x5 = some (o1, o2, o3, o4)) :
  Calls Try.prog 100 #[.pointer (some ⟨b1, 0, none⟩), .int .u64 x5] g0.w (Ret (WL [m0]) g0 fun v g => v = .tuple #[] ∧ Box g m0 b1 142 [[.int .u64 o1], [.int .u64 o2], [.int .u64 o3], [.int .u64 o4]] [1, 1, 1, 1]) := by
 refine calls_of (args := [.pointer (some ⟨b1, 0, none⟩), .int .u64 x5]) Try.func100 rfl (m0 + 0) ?_
 intro t ht htL
 refine ⟨_, rfl, ?_⟩
 refine CP.refr 14 [(0, .pointer (some ⟨b1, 0, none⟩)), (1, .int .u64 x5)] (by kernel_rfl) (by kernel_rfl) ?_
 intro ds
 have tot : Step (fun l => (WL [m0]) l ∨ t ≤ l) g0 g0 := Step.refl _ _
 unfold F.hash_state_take at hs
 refine CP.seq ?_
 refine CP.drawL (by kernel_rfl) [3, 8] N.hash_state_take_0 [⟨none, [0], [], fun l g => Box g m0 b1 142 [[.int .u64 x1], [.int .u64 x2], [.int .u64 x3], [.int .u64 x4]] [1, 1, 1, 1]⟩, ⟨some 0, [], [0], fun l g => l.getD 0 undef = .int .u64 x1⟩, ⟨some 1, [0], [], fun l g => Box g m0 b1 142 [[.int .u64 (bitXor .u64 x1 x5)], [.int .u64 x2], [.int .u64 x3], [.int .u64 x4]] [1, 1, 1, 1]⟩] [[], [0]] [m0] [0, 1, 2, 4, 6, 7] [5] (by kernel_rfl) (by simp <;> omega) (by simp) ⟨fun _ _ _ _ st h0 hl hj hB1 => (hB1.mono st (hj 0 (by simp) _ rfl)), fun _ _ _ _ st h0 hl hj e0 => e0, fun _ _ _ _ st h0 hl hj hB1 => (hB1.mono st (hj 0 (by simp) _ rfl)), tv⟩ ⟨hB1, tv, tv, tv⟩ (by kernel_rfl) (fun vs => by kernel_rfl) ?_ ?_ ?_
 ·intro j hj
  have hq : j = 0 := by have h : j < 1 := hj; omega
  rcases hq with rfl
  ·intro vs gq stq hl hf
   obtain ⟨v0, v1, rfl⟩ := len_k2 hl
   have e0 := (show v0 = .int .u64 x1 from hf _ (memI 1 rfl) (by kernel_rfl))
   subst e0
   show Option.isSome _ = true
   kernel_rfl
 ·intro j hj
  have hq : j = 0 ∨ j = 1 := by have h : j < 2 := hj; omega
  rcases hq with rfl | rfl
  ·intro vs gq stq hl hf
   obtain ⟨v0, v1, rfl⟩ := len_k2 hl
   have hB1 := (show Box gq m0 b1 142 [[.int .u64 x1], [.int .u64 x2], [.int .u64 x3], [.int .u64 x4]] [1, 1, 1, 1] from hf _ (memI 0 rfl) (by kernel_rfl))
   refine WP.loadB (v := .int .u64 x1) hB1 (by kernel_rfl) (by kernel_rfl) ?_
   refine WP.dn (Shown.ok (v := .int .u64 x1) (by kernel_rfl) (Step.refl _ _) ?_)
   exact ⟨tv, rfl, tv, tv⟩
  ·intro vs gq stq hl hf
   obtain ⟨v0, v1, rfl⟩ := len_k2 hl
   have hB1 := (show Box gq m0 b1 142 [[.int .u64 x1], [.int .u64 x2], [.int .u64 x3], [.int .u64 x4]] [1, 1, 1, 1] from hf _ (memI 0 rfl) (by kernel_rfl))
   have e0 := (show v0 = .int .u64 x1 from hf _ (memI 1 rfl) (by kernel_rfl))
   subst e0
   refine WP.storeB (ty := 116) (off := 0) (v := .int .u64 (bitXor .u64 x1 x5)) hB1 [[.int .u64 (bitXor .u64 x1 x5)]] [1] (by kernel_rfl) (by kernel_rfl) rfl (by kernel_rfl) [[.int .u64 (bitXor .u64 x1 x5)], [.int .u64 x2], [.int .u64 x3], [.int .u64 x4]] (by kernel_rfl) (.one rfl .nil) ?_
   intro g1 st1 hB2
   refine WP.dn (Shown.o (v := undef) st1 ?_)
   exact ⟨tv, tv, hB2, tv⟩
 intro vs g2 st2 hl hf
 obtain ⟨v0, v1, rfl⟩ := len_k2 hl
 have hB1 := (show Box g2 m0 b1 142 [[.int .u64 (bitXor .u64 x1 x5)], [.int .u64 x2], [.int .u64 x3], [.int .u64 x4]] [1, 1, 1, 1] from hf _ (memI 2 rfl) (by kernel_rfl))
 replace tot := tot.trans (st2.up1 (.inl (by simp [WL])))
 refine NX.then_n ?_
 refine CP.refr 14 [(0, .pointer (some ⟨b1, 0, none⟩))] (by kernel_rfl) (by kernel_rfl) ?_
 clear ds
 intro ds
 refine CP.region ?_
 refine WP.stl 1 ?_
 replace hs := Option.bind_eq_some_iff.1 hs
 obtain ⟨⟨x6, x7, x8, x9⟩, hk1, hs⟩ := hs
 dsimp only at hs
 have hcal1 := P.hash_state_stir g2 m0 (bitXor .u64 x1 x5) x2 x3 x4 b1 hB1 (by omega) x6 x7 x8 x9 hk1
 refine WP.callC hcal1 (by kernel_rfl) ?_
 rintro _ g3 st3 ⟨rfl, hB3⟩
 replace tot := tot.trans (st3.up1 (.inl (by simp [WL])))
 clear hB1
 have hB1 := hB3
 clear hB3
 refine WP.dn ?_
 replace hs := Option.some.inj hs
 simp only [Prod.mk.injEq] at hs
 obtain ⟨rfl, rfl, rfl, rfl⟩ := hs
 exact NX.finE (v := .tuple #[]) (Res.still (by kernel_rfl)) tot htL ⟨rfl, hB1⟩
def N.hash_state_bytes_0 : List (List Nat) := [[], [], [1], [], [3], [3, 4], [3, 4, 5], [1, 2, 3, 4, 5, 6], [0, 1, 2, 3, 4, 5, 6, 7]]
def F.hash_state_bytes.l1 (l1 : List Int) : Nat → Int → Int → Int → Int → (List Int) → Option (Int × Int × Int × Int)
 | 0, _, _, _, _, _ => none
 | k + 1, x19, x20, x21, x22, l2 => (if decide ((l2.length : Int) ≥ 8) = true then (if (0 : Int) ≤ 0 ∧ (0 : Int) ≤ 8 ∧ 8 ≤ (l2.length : Int) then ((F.hash_number (sliceI l2 0 8)).bind fun x41 => ((F.hash_state_take x19 x20 x21 x22 x41).bind fun (x42, x43, x44, x45) => (if (0 : Int) ≤ 8 ∧ 8 ≤ (l2.length : Int) ∧ (l2.length : Int) ≤ (l2.length : Int) then (F.hash_state_bytes.l1 l1 k x42 x43 x44 x45 (sliceI l2 8 (l2.length : Int))) else none))) else none) else ((F.hash_number l2).bind fun x46 => (if (0 : Int) ≤ (IntKind.i64.wrap (8 * (l2.length : Int))) then ((F.hash_state_take x19 x20 x21 x22 (bitOr .u64 x46 (shV true .u64 1 (IntKind.i64.wrap (8 * (l2.length : Int)))))).bind fun (x47, x48, x49, x50) => ((F.hash_state_take x47 x48 x49 x50 (IntKind.u64.wrap (l1.length : Int))).bind fun (x51, x52, x53, x54) => (some (x51, x52, x53, x54)))) else none)))
def F.hash_state_bytes (x1 : Int) (x2 : Int) (x3 : Int) (x4 : Int) (l1 : List Int) : Option (Int × Int × Int × Int) := (F.hash_state_bytes.l1 l1 fuel x1 x2 x3 x4 l1)
theorem P.hash_state_bytes (g0 : GW) (m0 : Nat) (x1 : Int) (x2 : Int) (x3 : Int) (x4 : Int) (l1 : List Int) (a1 : Option Addr) (n1 : Nat) (c1 : Nat) (b1 : Nat) (hR1 : RdS (Kd.int .u8) g0 5 a1 n1 c1 l1) (hB1 : Box g0 m0 b1 142 [[.int .u64 x1], [.int .u64 x2], [.int .u64 x3], [.int .u64 x4]] [1, 1, 1, 1]) (hm0 : m0 ≠ 0) (o1 : Int) (o2 : Int) (o3 : Int) (o4 : Int) (hs : F.hash_state_bytes x1 x2 x3 x4 l1 = some (o1, o2, o3, o4)) :
  Calls Try.prog 85 #[.pointer (some ⟨b1, 0, none⟩), .slice a1 n1 c1] g0.w (Ret (WL [m0]) g0 fun v g => v = .tuple #[] ∧ Box g m0 b1 142 [[.int .u64 o1], [.int .u64 o2], [.int .u64 o3], [.int .u64 o4]] [1, 1, 1, 1]) := by
 refine calls_of (args := [.pointer (some ⟨b1, 0, none⟩), .slice a1 n1 c1]) Try.func85 rfl (m0 + 0) ?_
 intro t ht htL
 refine ⟨_, rfl, ?_⟩
 refine CP.refr 30 [(0, .pointer (some ⟨b1, 0, none⟩)), (1, .slice a1 n1 c1)] (by kernel_rfl) (by kernel_rfl) ?_
 intro ds
 have tot : Step (fun l => (WL [m0]) l ∨ t ≤ l) g0 g0 := Step.refl _ _
 unfold F.hash_state_bytes at hs
 refine CP.seqR ?_
 refine WP.stl 1 ?_
 refine WP.len (a := a1) (cp := c1) hR1.len (by kernel_rfl) ?_
 refine WP.stl 1 ?_
 refine WP.dn ?_
 refine NX.then_n ?_
 refine CP.seq ?_
 refine CP.block ?_
 generalize fuel = k1 at hs
 refine CP.loop (fun k1 tm g => ∃ (x19 : Int) (x20 : Int) (x21 : Int) (x22 : Int) (l2 : List Int) (a4 : Option Addr) (n2 : Nat) (c4 : Nat), Fr 30 [(0, .pointer (some ⟨b1, 0, none⟩)), (1, .slice a4 n2 c4), (4, .int .i64 (l1.length : Int))] tm ∧ Step (fun l => (WL [m0]) l ∨ t ≤ l) g0 g ∧ Box g m0 b1 142 [[.int .u64 x19], [.int .u64 x20], [.int .u64 x21], [.int .u64 x22]] [1, 1, 1, 1] ∧ RdS (Kd.int .u8) g 5 a4 n2 c4 l2 ∧ F.hash_state_bytes.l1 l1 k1 x19 x20 x21 x22 l2 = some (o1, o2, o3, o4)) k1 ?_ ?_ ?_
 ·exact ⟨x1, x2, x3, x4, l1, a1, n1, c1, ⟨by kernel_rfl, by kernel_rfl⟩, tot, hB1, hR1, hs⟩
 ·rintro tm g ⟨x19, x20, x21, x22, l2, a4, n2, c4, hF, tot, hB1, hR4, hs⟩
  exact absurd hs (by simp [F.hash_state_bytes.l1])
 clear tot hs hB1 hR1
 rintro k1 tm g ⟨x19, x20, x21, x22, l2, a4, n2, c4, hF, tot, hB1, hR4, hs⟩
 clear ds
 obtain ⟨ds, rfl⟩ := hF.open
 clear hF
 unfold F.hash_state_bytes.l1 at hs
 refine CP.seq ?_
 refine CP.seqR ?_
 refine WP.stl 1 ?_
 refine WP.len (a := a4) (cp := c4) hR4.len (by kernel_rfl) ?_
 refine WP.stl 1 ?_
 refine WP.dn ?_
 refine NX.then_n ?_
 refine CP.cond (b := decide ((l2.length : Int) ≥ 8)) (by kernel_rfl) (fun h3 => ?_) (fun h3 => ?_)
 ·replace hs := of_if_t hs h3
  refine CP.skip ?_
  refine NX.then_n ?_
  refine CP.block ?_
  refine CP.seqR ?_
  refine WP.stl 2 ?_
  by_cases hc7 : (0 : Int) ≤ 0 ∧ (0 : Int) ≤ 8 ∧ 8 ≤ (l2.length : Int)
  case neg => rw [if_neg hc7] at hs; cases hs
  replace hs := of_if_p hs hc7
  refine WP.sliceR (lo := none) (hi := some (.int .i64 8)) hR4 0 8 (by kernel_rfl) (.inl ⟨rfl, rfl⟩) (.inr ⟨_, rfl⟩) hc7 ?_
  intro a8 c8 hR8
  replace hs := Option.bind_eq_some_iff.1 hs
  obtain ⟨x41, hk11, hs⟩ := hs
  have hcal11 := P.hash_number g (sliceI l2 0 8) a8 ((8 : Int).toNat - (0 : Int).toNat) c8 hR8 x41 hk11
  refine WP.callC hcal11 (by kernel_rfl) ?_
  rintro _ g11 st11 rfl
  replace hB1 := hB1.mono st11 (fun x => x)
  replace hR4 := hR4.mono st11 (fun x => x)
  replace hR8 := hR8.mono st11 (fun x => x)
  replace tot := tot.trans st11.pure
  replace hs := Option.bind_eq_some_iff.1 hs
  obtain ⟨⟨x42, x43, x44, x45⟩, hk12, hs⟩ := hs
  dsimp only at hs
  have hcal12 := P.hash_state_take g11 m0 x19 x20 x21 x22 x41 b1 hB1 (by omega) x42 x43 x44 x45 hk12
  refine WP.callC hcal12 (by kernel_rfl) ?_
  rintro _ g12 st12 ⟨rfl, hB8⟩
  replace hR4 := hR4.mono st12 (WL.no1 (by omega))
  replace hR8 := hR8.mono st12 (WL.no1 (by omega))
  replace tot := tot.trans (st12.up1 (.inl (by simp [WL])))
  clear hB1
  have hB1 := hB8
  clear hB8
  refine WP.dn ?_
  refine NX.then_n ?_
  refine CP.region ?_
  refine WP.stl 1 ?_
  by_cases hc8 : (0 : Int) ≤ 8 ∧ 8 ≤ (l2.length : Int) ∧ (l2.length : Int) ≤ (l2.length : Int)
  case neg => rw [if_neg hc8] at hs; cases hs
  replace hs := of_if_p hs hc8
  refine WP.sliceR (lo := some (.int .i64 8)) (hi := none) hR4 8 (l2.length : Int) (by kernel_rfl) (.inr ⟨_, rfl⟩) (.inl ⟨rfl, rfl⟩) hc8 ?_
  intro a9 c9 hR9
  refine WP.stl 1 ?_
  refine WP.dn ?_
  refine NX.block_n ?_
  refine NX.post ?_
  exact ⟨x42, x43, x44, x45, (sliceI l2 8 (l2.length : Int)), a9, ((l2.length : Int).toNat - (8 : Int).toNat), c9, ⟨by kernel_rfl, by kernel_rfl⟩, tot, hB1, hR9, hs⟩
 replace hs := of_if_f hs h3
 refine CP.exit ?_
 refine NX.then_e ?_
 refine NX.then_e ?_
 refine NX.block_s ?_
 refine NX.then_n ?_
 refine CP.seq ?_
 replace hs := Option.bind_eq_some_iff.1 hs
 obtain ⟨x46, hk13, hs⟩ := hs
 by_cases hc9 : (0 : Int) ≤ (IntKind.i64.wrap (8 * (l2.length : Int)))
 case neg => rw [if_neg hc9] at hs; cases hs
 replace hs := of_if_p hs hc9
 replace hs := Option.bind_eq_some_iff.1 hs
 obtain ⟨⟨x47, x48, x49, x50⟩, hk14, hs⟩ := hs
 dsimp only at hs
 refine CP.drawL (by kernel_rfl) [2, 4, 6, 8] N.hash_state_bytes_0 [⟨none, [0], [], fun l g => Box g m0 b1 142 [[.int .u64 x19], [.int .u64 x20], [.int .u64 x21], [.int .u64 x22]] [1, 1, 1, 1]⟩, ⟨none, [], [], fun l g => RdS (Kd.int .u8) g 5 a4 n2 c4 l2⟩, ⟨some 0, [], [0], fun l g => l.getD 0 undef = .int .u64 x46⟩, ⟨some 1, [], [1], fun l g => l.getD 0 undef = .int .i64 (l2.length : Int)⟩, ⟨some 2, [], [2], fun l g => l.getD 0 undef = .int .u64 (shV true .u64 1 (IntKind.i64.wrap (8 * (l2.length : Int))))⟩, ⟨some 3, [], [3], fun l g => l.getD 0 undef = .tuple #[]⟩, ⟨some 3, [0], [], fun l g => Box g m0 b1 142 [[.int .u64 x47], [.int .u64 x48], [.int .u64 x49], [.int .u64 x50]] [1, 1, 1, 1]⟩] [[], [], [], [0]] [m0] [0, 1, 3] [5, 7] (by kernel_rfl) (by simp <;> omega) (by simp) ⟨fun _ _ _ _ st h0 hl hj hB1 => (hB1.mono st (hj 0 (by simp) _ rfl)), fun _ _ _ _ st h0 hl hj hR4 => (RdS.mono (e := 5) hR4 st h0), fun _ _ _ _ st h0 hl hj e0 => e0, fun _ _ _ _ st h0 hl hj e1 => e1, fun _ _ _ _ st h0 hl hj e2 => e2, fun _ _ _ _ st h0 hl hj e3 => e3, fun _ _ _ _ st h0 hl hj hB1 => (hB1.mono st (hj 0 (by simp) _ rfl)), tv⟩ ⟨hB1, hR4, tv, tv, tv, tv, tv, tv⟩ (by kernel_rfl) (fun vs => by kernel_rfl) ?_ ?_ ?_
 ·intro j hj
  have hq : j = 0 ∨ j = 1 := by have h : j < 2 := hj; omega
  rcases hq with rfl | rfl
  ·intro vs gq stq hl hf
   obtain ⟨v0, v1, v2, v3, rfl⟩ := len_k4 hl
   have e1 := (show v1 = .int .i64 (l2.length : Int) from hf _ (memI 3 rfl) (by kernel_rfl))
   subst e1
   show Option.isSome _ = true
   kernel_rfl
  ·intro vs gq stq hl hf
   obtain ⟨v0, v1, v2, v3, rfl⟩ := len_k4 hl
   have e0 := (show v0 = .int .u64 x46 from hf _ (memI 2 rfl) (by kernel_rfl))
   subst e0
   have e2 := (show v2 = .int .u64 (shV true .u64 1 (IntKind.i64.wrap (8 * (l2.length : Int)))) from hf _ (memI 4 rfl) (by kernel_rfl))
   subst e2
   show Option.isSome _ = true
   kernel_rfl
 ·intro j hj
  have hq : j = 0 ∨ j = 1 ∨ j = 2 ∨ j = 3 := by have h : j < 4 := hj; omega
  rcases hq with rfl | rfl | rfl | rfl
  ·intro vs gq stq hl hf
   obtain ⟨v0, v1, v2, v3, rfl⟩ := len_k4 hl
   have hR4 := (show RdS (Kd.int .u8) gq 5 a4 n2 c4 l2 from hf _ (memI 1 rfl) (by kernel_rfl))
   have hcal13 := P.hash_number gq l2 a4 n2 c4 hR4 x46 hk13
   refine WP.callC hcal13 (by kernel_rfl) ?_
   rintro _ g13 st13 rfl
   refine WP.dn (Shown.o (v := .int .u64 x46) st13.pure ?_)
   exact ⟨tv, tv, rfl, tv, tv, tv, tv, tv⟩
  ·intro vs gq stq hl hf
   obtain ⟨v0, v1, v2, v3, rfl⟩ := len_k4 hl
   have hR4 := (show RdS (Kd.int .u8) gq 5 a4 n2 c4 l2 from hf _ (memI 1 rfl) (by kernel_rfl))
   refine WP.len (a := a4) (cp := c4) hR4.len (by kernel_rfl) ?_
   refine WP.dn (Shown.ok (v := .int .i64 (l2.length : Int)) (by kernel_rfl) (Step.refl _ _) ?_)
   exact ⟨tv, tv, tv, rfl, tv, tv, tv, tv⟩
  ·intro vs gq stq hl hf
   obtain ⟨v0, v1, v2, v3, rfl⟩ := len_k4 hl
   have e1 := (show v1 = .int .i64 (l2.length : Int) from hf _ (memI 3 rfl) (by kernel_rfl))
   subst e1
   refine WP.shift (left := true) (k := .u64) (yk := .i64) (x := 1) (y := (IntKind.i64.wrap (8 * (l2.length : Int)))) (by kernel_rfl) hc9 ?_
   refine WP.dn (Shown.ok (v := .int .u64 (shV true .u64 1 (IntKind.i64.wrap (8 * (l2.length : Int))))) (by kernel_rfl) (Step.refl _ _) ?_)
   exact ⟨tv, tv, tv, tv, rfl, tv, tv, tv⟩
  ·intro vs gq stq hl hf
   obtain ⟨v0, v1, v2, v3, rfl⟩ := len_k4 hl
   have hB1 := (show Box gq m0 b1 142 [[.int .u64 x19], [.int .u64 x20], [.int .u64 x21], [.int .u64 x22]] [1, 1, 1, 1] from hf _ (memI 0 rfl) (by kernel_rfl))
   have e0 := (show v0 = .int .u64 x46 from hf _ (memI 2 rfl) (by kernel_rfl))
   subst e0
   have e2 := (show v2 = .int .u64 (shV true .u64 1 (IntKind.i64.wrap (8 * (l2.length : Int)))) from hf _ (memI 4 rfl) (by kernel_rfl))
   subst e2
   have hcal14 := P.hash_state_take gq m0 x19 x20 x21 x22 (bitOr .u64 x46 (shV true .u64 1 (IntKind.i64.wrap (8 * (l2.length : Int))))) b1 hB1 (by omega) x47 x48 x49 x50 hk14
   refine WP.callC hcal14 (by kernel_rfl) ?_
   rintro _ g14 st14 ⟨rfl, hB9⟩
   refine WP.dn (Shown.o (v := .tuple #[]) st14 ?_)
   exact ⟨tv, tv, tv, tv, tv, rfl, hB9, tv⟩
 intro vs g15 st15 hl hf
 obtain ⟨v0, v1, v2, v3, rfl⟩ := len_k4 hl
 have hB1 := (show Box g15 m0 b1 142 [[.int .u64 x47], [.int .u64 x48], [.int .u64 x49], [.int .u64 x50]] [1, 1, 1, 1] from hf _ (memI 6 rfl) (by kernel_rfl))
 replace tot := tot.trans (st15.up1 (.inl (by simp [WL])))
 refine NX.then_n ?_
 refine CP.refr 30 [(0, .pointer (some ⟨b1, 0, none⟩)), (4, .int .i64 (l1.length : Int))] (by kernel_rfl) (by kernel_rfl) ?_
 clear ds
 intro ds
 refine CP.region ?_
 refine WP.stl 3 ?_
 replace hs := Option.bind_eq_some_iff.1 hs
 obtain ⟨⟨x51, x52, x53, x54⟩, hk15, hs⟩ := hs
 dsimp only at hs
 have hcal15 := P.hash_state_take g15 m0 x47 x48 x49 x50 (IntKind.u64.wrap (l1.length : Int)) b1 hB1 (by omega) x51 x52 x53 x54 hk15
 refine WP.callC hcal15 (by kernel_rfl) ?_
 rintro _ g16 st16 ⟨rfl, hB10⟩
 replace tot := tot.trans (st16.up1 (.inl (by simp [WL])))
 clear hB1
 have hB1 := hB10
 clear hB10
 refine WP.dn ?_
 replace hs := Option.some.inj hs
 simp only [Prod.mk.injEq] at hs
 obtain ⟨rfl, rfl, rfl, rfl⟩ := hs
 exact NX.finE (v := .tuple #[]) (Res.still (by kernel_rfl)) tot htL ⟨rfl, hB1⟩
def N.hash_state_gives_0 : List (List Nat) := [[], [0], [0, 1], [0, 1, 2], [], [4], [4, 5], [4, 5, 6], [0, 1, 2, 3, 4, 5, 6, 7], [0, 1, 2, 3, 4, 5, 6, 7, 8]]
def F.hash_state_gives (x1 : Int) (x2 : Int) (x3 : Int) (x4 : Int) : Option (Int) := (some (bitXor .u64 x1 x3))
theorem P.hash_state_gives (g0 : GW) (m0 : Nat) (x1 : Int) (x2 : Int) (x3 : Int) (x4 : Int) (b1 : Nat) (hB1 : Box g0 m0 b1 142 [[.int .u64 x1], [.int .u64 x2], [.int .u64 x3], [.int .u64 x4]] [1, 1, 1, 1]) (hm0 : m0 ≠ 0) (o1 : Int) (hs : F.hash_state_gives x1 x2 x3 x4 = some o1) :
  Calls Try.prog 103 #[.pointer (some ⟨b1, 0, none⟩)] g0.w (Ret NoM g0 fun v g => v = .int .u64 o1) := by
 refine calls_of (args := [.pointer (some ⟨b1, 0, none⟩)]) Try.func103 rfl (m0 + 0) ?_
 intro t ht htL
 refine ⟨_, rfl, ?_⟩
 refine CP.refr 12 [(0, .pointer (some ⟨b1, 0, none⟩))] (by kernel_rfl) (by kernel_rfl) ?_
 intro ds
 have tot : Step (fun l => NoM l ∨ t ≤ l) g0 g0 := Step.refl _ _
 unfold F.hash_state_gives at hs
 refine CP.seqR ?_
 refine WP.stl 1 ?_
 refine WP.dn ?_
 refine NX.then_n ?_
 refine CP.seq ?_
 refine CP.drawL (by kernel_rfl) [3, 7] N.hash_state_gives_0 [⟨none, [], [], fun l g => Box g m0 b1 142 [[.int .u64 x1], [.int .u64 x2], [.int .u64 x3], [.int .u64 x4]] [1, 1, 1, 1]⟩, ⟨some 0, [], [0], fun l g => l.getD 0 undef = .int .u64 x1⟩, ⟨some 1, [], [1], fun l g => l.getD 0 undef = .int .u64 x3⟩] [[], []] [] [0, 1, 2, 4, 5, 6] [8, 9] (by kernel_rfl) (by simp) (by simp) ⟨fun _ _ _ _ st h0 hl hj hB1 => (hB1.mono st (fun h => absurd (hl _ h) (by simp))), fun _ _ _ _ st h0 hl hj e0 => e0, fun _ _ _ _ st h0 hl hj e1 => e1, tv⟩ ⟨hB1, tv, tv, tv⟩ (by kernel_rfl) (fun vs => by kernel_rfl) ?_ ?_ ?_
 ·intro j hj
  have hq : j = 0 ∨ j = 1 := by have h : j < 2 := hj; omega
  rcases hq with rfl | rfl
  ·intro vs gq stq hl hf
   obtain ⟨v0, v1, rfl⟩ := len_k2 hl
   have e0 := (show v0 = .int .u64 x1 from hf _ (memI 1 rfl) (by kernel_rfl))
   subst e0
   have e1 := (show v1 = .int .u64 x3 from hf _ (memI 2 rfl) (by kernel_rfl))
   subst e1
   show Option.isSome _ = true
   kernel_rfl
  ·intro vs gq stq hl hf
   obtain ⟨v0, v1, rfl⟩ := len_k2 hl
   have e0 := (show v0 = .int .u64 x1 from hf _ (memI 1 rfl) (by kernel_rfl))
   subst e0
   have e1 := (show v1 = .int .u64 x3 from hf _ (memI 2 rfl) (by kernel_rfl))
   subst e1
   show Option.isSome _ = true
   kernel_rfl
 ·intro j hj
  have hq : j = 0 ∨ j = 1 := by have h : j < 2 := hj; omega
  rcases hq with rfl | rfl
  ·intro vs gq stq hl hf
   obtain ⟨v0, v1, rfl⟩ := len_k2 hl
   have hB1 := (show Box gq m0 b1 142 [[.int .u64 x1], [.int .u64 x2], [.int .u64 x3], [.int .u64 x4]] [1, 1, 1, 1] from hf _ (memI 0 rfl) (by kernel_rfl))
   refine WP.loadB (v := .int .u64 x1) hB1 (by kernel_rfl) (by kernel_rfl) ?_
   refine WP.dn (Shown.ok (v := .int .u64 x1) (by kernel_rfl) (Step.refl _ _) ?_)
   exact ⟨tv, rfl, tv, tv⟩
  ·intro vs gq stq hl hf
   obtain ⟨v0, v1, rfl⟩ := len_k2 hl
   have hB1 := (show Box gq m0 b1 142 [[.int .u64 x1], [.int .u64 x2], [.int .u64 x3], [.int .u64 x4]] [1, 1, 1, 1] from hf _ (memI 0 rfl) (by kernel_rfl))
   refine WP.loadB (v := .int .u64 x3) hB1 (by kernel_rfl) (by kernel_rfl) ?_
   refine WP.dn (Shown.ok (v := .int .u64 x3) (by kernel_rfl) (Step.refl _ _) ?_)
   exact ⟨tv, tv, rfl, tv⟩
 intro vs g1 st1 hl hf
 obtain ⟨v0, v1, rfl⟩ := len_k2 hl
 have e0 := (show v0 = .int .u64 x1 from hf _ (memI 1 rfl) (by kernel_rfl))
 subst e0
 have e1 := (show v1 = .int .u64 x3 from hf _ (memI 2 rfl) (by kernel_rfl))
 subst e1
 replace tot := tot.trans st1.toNo.pure
 refine NX.then_n ?_
 refine CP.refr 12 [(2, .int .u64 (bitXor .u64 x1 x3))] (by kernel_rfl) (by kernel_rfl) ?_
 clear ds
 intro ds
 refine CP.ret ?_
 replace hs := Option.some.inj hs
 obtain rfl := hs
 exact NX.fin (v := .int .u64 (bitXor .u64 x1 x3)) (Res.still (by kernel_rfl)) tot htL rfl
def F.hash_FromNum.l1 (x1 : Int) : Nat → (Arr Int 8) → Int → Option ((Arr Int 8))
 | 0, _, _ => none
 | k + 1, d1, x2 => (if decide (x2 < 8) = true then (if (0 : Int) ≤ (IntKind.i64.wrap (8 * x2)) then (if (0 : Int) ≤ x2 ∧ x2 < (8 : Int) then (F.hash_FromNum.l1 x1 k (aset d1 x2 (IntKind.u8.wrap (shV false .u64 x1 (IntKind.i64.wrap (8 * x2))))) (IntKind.i64.wrap (x2 + 1))) else none) else none) else (some d1))
def F.hash_FromNum (x1 : Int) : Option ((Arr Int 8)) := (F.hash_FromNum.l1 x1 fuel (zA 8) 0)
theorem P.hash_FromNum (g0 : GW) (x1 : Int) (o1 : Arr Int 8) (hs : F.hash_FromNum x1 = some o1) :
  Calls Try.prog 102 #[.int .u64 x1] g0.w (Ret NoM g0 fun v g => v = AG [encA .u8 o1]) := by
 refine calls_of (args := [.int .u64 x1]) Try.func102 rfl (0) ?_
 intro t ht htL
 refine ⟨_, rfl, ?_⟩
 refine CP.refr 17 [(0, .int .u64 x1)] (by kernel_rfl) (by kernel_rfl) ?_
 intro ds
 have tot : Step (fun l => NoM l ∨ t ≤ l) g0 g0 := Step.refl _ _
 unfold F.hash_FromNum at hs
 refine CP.seqR ?_
 refine WP.alloc (T := 29) (t + 1) [encA .u8 (zA 8)] [8] (by kernel_rfl) (by simp [len_encA]) ?_
 intro g1 b1 st1 hB1
 replace tot := tot.trans st1.pure
 refine WP.dn ?_
 refine NX.then_n ?_
 refine CP.seqR ?_
 refine WP.alloc (T := 29) (t + 2) [encA .u8 (zA 8)] [8] (by kernel_rfl) (by simp [len_encA]) ?_
 intro g2 b2 st2 hB2
 replace hB1 := hB1.mono st2 (fun x => x)
 replace tot := tot.trans st2.pure
 refine WP.dn ?_
 refine NX.then_n ?_
 refine CP.seq ?_
 refine CP.seqR ?_
 refine WP.stl 1 ?_
 refine WP.dn ?_
 refine NX.then_n ?_
 refine CP.block ?_
 generalize fuel = k1 at hs
 refine CP.loop (fun k1 tm g => ∃ (d1 : Arr Int 8) (x2 : Int), Fr 17 [(0, .int .u64 x1), (2, .pointer (some ⟨b1, 0, none⟩)), (3, .pointer (some ⟨b2, 0, none⟩)), (5, .int .i64 x2)] tm ∧ Step (fun l => NoM l ∨ t ≤ l) g0 g ∧ Box g (t + 1) b1 29 [encA .u8 (zA 8)] [8] ∧ Box g (t + 2) b2 29 [encA .u8 d1] [8] ∧ F.hash_FromNum.l1 x1 k1 d1 x2 = some o1) k1 ?_ ?_ ?_
 ·exact ⟨(zA 8), 0, ⟨by kernel_rfl, by kernel_rfl⟩, tot, hB1, hB2, hs⟩
 ·rintro tm g ⟨d1, x2, hF, tot, hB1, hB2, hs⟩
  exact absurd hs (by simp [F.hash_FromNum.l1])
 clear tot hs hB1 hB2
 rintro k1 tm g ⟨d1, x2, hF, tot, hB1, hB2, hs⟩
 clear ds
 obtain ⟨ds, rfl⟩ := hF.open
 clear hF
 unfold F.hash_FromNum.l1 at hs
 refine CP.seqR ?_
 refine WP.stl 1 ?_
 refine WP.dn ?_
 refine NX.then_n ?_
 refine CP.seq ?_
 refine CP.cond (b := decide (x2 < 8)) (by kernel_rfl) (fun h3 => ?_) (fun h3 => ?_)
 ·replace hs := of_if_t hs h3
  refine CP.skip ?_
  refine NX.then_n ?_
  refine CP.seq ?_
  refine CP.block ?_
  refine CP.seqR ?_
  refine WP.stl 2 ?_
  refine WP.dn ?_
  refine NX.then_n ?_
  refine CP.region ?_
  refine WP.stl 4 ?_
  by_cases hc4 : (0 : Int) ≤ (IntKind.i64.wrap (8 * x2))
  case neg => rw [if_neg hc4] at hs; cases hs
  replace hs := of_if_p hs hc4
  refine WP.shift (left := false) (k := .u64) (yk := .i64) (x := x1) (y := (IntKind.i64.wrap (8 * x2))) (by kernel_rfl) hc4 ?_
  refine WP.stl 1 ?_
  by_cases hc5 : (0 : Int) ≤ x2 ∧ x2 < (8 : Int)
  case neg => rw [if_neg hc5] at hs; cases hs
  replace hs := of_if_p hs hc5
  refine WP.ixBox (t := 29) (e := 5) (m := 8) (size := 1) (b := b2) (off := 0) (k := .i64) (i := x2) (by kernel_rfl) (by kernel_rfl) hc5 ?_
  refine WP.storeE (ty := 5) (o := 0) (m := 8) (k := .u8) (d := d1) (i := x2) (x := (IntKind.u8.wrap (shV false .u64 x1 (IntKind.i64.wrap (8 * x2))))) hB2 (by kernel_rfl) hc5 (by kernel_rfl) (by kernel_rfl) [encA .u8 (aset d1 x2 (IntKind.u8.wrap (shV false .u64 x1 (IntKind.i64.wrap (8 * x2)))))] (by kernel_rfl) ?_
  intro g7 st7 hB7
  replace hB1 := hB1.mono st7 (WL.no1 (by omega))
  replace tot := tot.trans (st7.up1 (.inr (by omega)))
  clear hB2
  have hB2 := hB7
  clear hB7
  refine WP.dn ?_
  refine NX.block_n ?_
  refine NX.then_n ?_
  refine CP.region ?_
  refine WP.stl 2 ?_
  refine WP.dn ?_
  refine NX.post ?_
  exact ⟨(aset d1 x2 (IntKind.u8.wrap (shV false .u64 x1 (IntKind.i64.wrap (8 * x2))))), (IntKind.i64.wrap (x2 + 1)), ⟨by kernel_rfl, by kernel_rfl⟩, tot, hB1, hB2, hs⟩
 replace hs := of_if_f hs h3
 refine CP.exit ?_
 refine NX.then_e ?_
 refine NX.then_e ?_
 refine NX.block_s ?_
 refine NX.then_n ?_
 refine CP.seqR ?_
 refine WP.loadB (v := AG [encA .u8 d1]) hB2 (by kernel_rfl) (by kernel_rfl) ?_
 refine WP.storeB (ty := 29) (off := 0) (v := AG [encA .u8 d1]) hB1 [encA .u8 d1] [8] (by kernel_rfl) (by kernel_rfl) (by simp [len_encA]) (by kernel_rfl) [encA .u8 d1] (by kernel_rfl) (.arr .nil) ?_
 intro g8 st8 hB8
 replace hB2 := hB2.mono st8 (WL.no1 (by omega))
 replace tot := tot.trans (st8.up1 (.inr (by omega)))
 clear hB1
 have hB1 := hB8
 clear hB8
 refine WP.dn ?_
 refine NX.then_n ?_
 refine CP.ret ?_
 replace hs := Option.some.inj hs
 obtain rfl := hs
 exact NX.fin (v := AG [encA .u8 d1]) (Res.one rfl (RV.box (agg := true) (size := 8) (rs := [encA .u8 d1]) hB1 (by kernel_rfl) (by kernel_rfl) (by kernel_rfl) (by kernel_rfl))) tot htL rfl
def F.hash_state_digest (x1 : Int) (x2 : Int) (x3 : Int) (x4 : Int) : Option ((Arr Int 8)) := ((F.hash_state_gives x1 x2 x3 x4).bind fun x5 => ((F.hash_FromNum x5).bind fun d1 => (some d1)))
theorem P.hash_state_digest (g0 : GW) (m0 : Nat) (x1 : Int) (x2 : Int) (x3 : Int) (x4 : Int) (b1 : Nat) (hB1 : Box g0 m0 b1 142 [[.int .u64 x1], [.int .u64 x2], [.int .u64 x3], [.int .u64 x4]] [1, 1, 1, 1]) (hm0 : m0 ≠ 0) (o1 : Arr Int 8) (hs : F.hash_state_digest x1 x2 x3 x4 = some o1) :
  Calls Try.prog 86 #[.pointer (some ⟨b1, 0, none⟩)] g0.w (Ret NoM g0 fun v g => v = AG [encA .u8 o1]) := by
 refine calls_of (args := [.pointer (some ⟨b1, 0, none⟩)]) Try.func86 rfl (m0 + 0) ?_
 intro t ht htL
 refine ⟨_, rfl, ?_⟩
 refine CP.refr 6 [(0, .pointer (some ⟨b1, 0, none⟩))] (by kernel_rfl) (by kernel_rfl) ?_
 intro ds
 have tot : Step (fun l => NoM l ∨ t ≤ l) g0 g0 := Step.refl _ _
 unfold F.hash_state_digest at hs
 refine CP.seqR ?_
 refine WP.alloc (T := 29) (t + 1) [encA .u8 (zA 8)] [8] (by kernel_rfl) (by simp [len_encA]) ?_
 intro g1 b2 st1 hB2
 replace hB1 := hB1.mono st1 (fun x => x)
 replace tot := tot.trans st1.pure
 refine WP.dn ?_
 refine NX.then_n ?_
 refine CP.seqR ?_
 refine WP.stl 1 ?_
 replace hs := Option.bind_eq_some_iff.1 hs
 obtain ⟨x5, hk1, hs⟩ := hs
 have hcal1 := P.hash_state_gives g1 m0 x1 x2 x3 x4 b1 hB1 (by omega) x5 hk1
 refine WP.callC hcal1 (by kernel_rfl) ?_
 rintro _ g2 st2 rfl
 replace hB1 := hB1.mono st2 (fun x => x)
 replace hB2 := hB2.mono st2 (fun x => x)
 replace tot := tot.trans st2.pure
 replace hs := Option.bind_eq_some_iff.1 hs
 obtain ⟨d1, hk2, hs⟩ := hs
 have hcal2 := P.hash_FromNum g2 x5 d1 hk2
 refine WP.callC hcal2 (by kernel_rfl) ?_
 rintro _ g3 st3 rfl
 replace hB1 := hB1.mono st3 (fun x => x)
 replace hB2 := hB2.mono st3 (fun x => x)
 replace tot := tot.trans st3.pure
 refine WP.storeB (ty := 29) (off := 0) (v := AG [encA .u8 d1]) hB2 [encA .u8 d1] [8] (by kernel_rfl) (by kernel_rfl) (by simp [len_encA]) (by kernel_rfl) [encA .u8 d1] (by kernel_rfl) (.arr .nil) ?_
 intro g4 st4 hB3
 replace hB1 := hB1.mono st4 (WL.no1 (by omega))
 replace tot := tot.trans (st4.up1 (.inr (by omega)))
 clear hB2
 have hB2 := hB3
 clear hB3
 refine WP.dn ?_
 refine NX.then_n ?_
 refine CP.ret ?_
 replace hs := Option.some.inj hs
 obtain rfl := hs
 exact NX.fin (v := AG [encA .u8 d1]) (Res.one rfl (RV.box (agg := true) (size := 8) (rs := [encA .u8 d1]) hB2 (by kernel_rfl) (by kernel_rfl) (by kernel_rfl) (by kernel_rfl))) tot htL rfl
def F.hash_Of (l1 : List Int) : Option ((Arr Int 8)) := ((F.hash_begin 1).bind fun (x1, x2, x3, x4) => ((F.hash_state_bytes x1 x2 x3 x4 l1).bind fun (x5, x6, x7, x8) => ((F.hash_state_digest x5 x6 x7 x8).bind fun d1 => (some d1))))
theorem P.hash_Of (g0 : GW) (l1 : List Int) (a1 : Option Addr) (n1 : Nat) (c1 : Nat) (hR1 : RdS (Kd.int .u8) g0 5 a1 n1 c1 l1) (o1 : Arr Int 8) (hs : F.hash_Of l1 = some o1) :
  Calls Try.prog 62 #[.slice a1 n1 c1] g0.w (Ret NoM g0 fun v g => v = AG [encA .u8 o1]) := by
 refine calls_of (args := [.slice a1 n1 c1]) Try.func62 rfl (0) ?_
 intro t ht htL
 refine ⟨_, rfl, ?_⟩
 refine CP.refr 8 [(0, .slice a1 n1 c1)] (by kernel_rfl) (by kernel_rfl) ?_
 intro ds
 have tot : Step (fun l => NoM l ∨ t ≤ l) g0 g0 := Step.refl _ _
 unfold F.hash_Of at hs
 refine CP.seqR ?_
 refine WP.alloc (T := 29) (t + 1) [encA .u8 (zA 8)] [8] (by kernel_rfl) (by simp [len_encA]) ?_
 intro g1 b1 st1 hB1
 replace hR1 := hR1.mono st1 (fun x => x)
 replace tot := tot.trans st1.pure
 refine WP.dn ?_
 refine NX.then_n ?_
 refine CP.seqR ?_
 replace hs := Option.bind_eq_some_iff.1 hs
 obtain ⟨⟨x1, x2, x3, x4⟩, hk1, hs⟩ := hs
 dsimp only at hs
 have hcal1 := P.hash_begin g1 1 x1 x2 x3 x4 hk1
 refine WP.callC hcal1 (by kernel_rfl) ?_
 rintro _ g2 st2 rfl
 replace hR1 := hR1.mono st2 (fun x => x)
 replace hB1 := hB1.mono st2 (fun x => x)
 replace tot := tot.trans st2.pure
 refine WP.alloc (T := 142) (t + 2) [[.int .u64 0], [.int .u64 0], [.int .u64 0], [.int .u64 0]] [1, 1, 1, 1] (by kernel_rfl) rfl ?_
 intro g3 b2 st3 hB2
 replace hR1 := hR1.mono st3 (fun x => x)
 replace hB1 := hB1.mono st3 (fun x => x)
 replace tot := tot.trans st3.pure
 refine WP.storeB (ty := 142) (off := 0) (v := AG [[.int .u64 x1], [.int .u64 x2], [.int .u64 x3], [.int .u64 x4]]) hB2 [[.int .u64 x1], [.int .u64 x2], [.int .u64 x3], [.int .u64 x4]] [1, 1, 1, 1] (by kernel_rfl) (by kernel_rfl) rfl (by kernel_rfl) [[.int .u64 x1], [.int .u64 x2], [.int .u64 x3], [.int .u64 x4]] (by kernel_rfl) (.one rfl (.one rfl (.one rfl (.one rfl .nil)))) ?_
 intro g4 st4 hB3
 replace hR1 := hR1.mono st4 (WL.no1 (by omega))
 replace hB1 := hB1.mono st4 (WL.no1 (by omega))
 replace tot := tot.trans (st4.up1 (.inr (by omega)))
 clear hB2
 have hB2 := hB3
 clear hB3
 refine WP.dn ?_
 refine NX.then_n ?_
 refine CP.seqR ?_
 refine WP.stl 1 ?_
 replace hs := Option.bind_eq_some_iff.1 hs
 obtain ⟨⟨x5, x6, x7, x8⟩, hk2, hs⟩ := hs
 dsimp only at hs
 have hcal2 := P.hash_state_bytes g4 (t + 2) x1 x2 x3 x4 l1 a1 n1 c1 b2 hR1 hB2 (by omega) x5 x6 x7 x8 hk2
 refine WP.callC hcal2 (by kernel_rfl) ?_
 rintro _ g5 st5 ⟨rfl, hB4⟩
 replace hR1 := hR1.mono st5 (WL.no1 (by omega))
 replace hB1 := hB1.mono st5 (WL.no1 (by omega))
 replace tot := tot.trans (st5.up1 (.inr (by omega)))
 clear hB2
 have hB2 := hB4
 clear hB4
 refine WP.dn ?_
 refine NX.then_n ?_
 refine CP.seqR ?_
 replace hs := Option.bind_eq_some_iff.1 hs
 obtain ⟨d1, hk3, hs⟩ := hs
 have hcal3 := P.hash_state_digest g5 (t + 2) x5 x6 x7 x8 b2 hB2 (by omega) d1 hk3
 refine WP.callC hcal3 (by kernel_rfl) ?_
 rintro _ g6 st6 rfl
 replace hB1 := hB1.mono st6 (fun x => x)
 replace hB2 := hB2.mono st6 (fun x => x)
 replace tot := tot.trans st6.pure
 refine WP.storeB (ty := 29) (off := 0) (v := AG [encA .u8 d1]) hB1 [encA .u8 d1] [8] (by kernel_rfl) (by kernel_rfl) (by simp [len_encA]) (by kernel_rfl) [encA .u8 d1] (by kernel_rfl) (.arr .nil) ?_
 intro g7 st7 hB5
 replace hB2 := hB2.mono st7 (WL.no1 (by omega))
 replace tot := tot.trans (st7.up1 (.inr (by omega)))
 clear hB1
 have hB1 := hB5
 clear hB5
 refine WP.dn ?_
 refine NX.then_n ?_
 refine CP.ret ?_
 replace hs := Option.some.inj hs
 obtain rfl := hs
 exact NX.fin (v := AG [encA .u8 d1]) (Res.one rfl (RV.box (agg := true) (size := 8) (rs := [encA .u8 d1]) hB1 (by kernel_rfl) (by kernel_rfl) (by kernel_rfl) (by kernel_rfl))) tot htL rfl
def F.purse_Purse_Digest (d1 : Arr Int 8) (x1 : Int) (d2 : Arr Int 2) (l1 : List S_purse_Held) : Option ((Arr Int 8)) := ((F.purse_Purse_Check d1 x1 d2 l1).bind fun x2 => (if (x2 != 0) = true then (some (zA 8)) else ((F.octet_PutText ([]) str_0).bind fun l2 => ((F.purse_Purse_bytes d1 x1 d2 l1).bind fun l3 => (if l2.length + l3.length ≤ 140737488355328 then ((F.hash_Of (l2 ++ l3)).bind fun d3 => (some d3)) else none)))))
theorem P.purse_Purse_Digest (g0 : GW) (d1 : Arr Int 8) (x1 : Int) (d2 : Arr Int 2) (l1 : List S_purse_Held) (a1 : Option Addr) (n1 : Nat) (c1 : Nat) (hR1 : RdS k_S_purse_Held g0 56 a1 n1 c1 l1) (o1 : Arr Int 8) (hs : F.purse_Purse_Digest d1 x1 d2 l1 = some o1) :
  Calls Try.prog 32 #[AG [encA .u8 d1, [.int .i64 x1], encA .i64 d2, [.slice a1 n1 c1]]] g0.w (Ret NoM g0 fun v g => v = AG [encA .u8 o1]) := by
 refine calls_of (args := [AG [encA .u8 d1, [.int .i64 x1], encA .i64 d2, [.slice a1 n1 c1]]]) Try.func32 rfl (0) ?_
 intro t ht htL
 refine ⟨_, rfl, ?_⟩
 refine CP.refr 12 [(0, AG [encA .u8 d1, [.int .i64 x1], encA .i64 d2, [.slice a1 n1 c1]])] (by kernel_rfl) (by kernel_rfl) ?_
 intro ds
 have tot : Step (fun l => NoM l ∨ t ≤ l) g0 g0 := Step.refl _ _
 unfold F.purse_Purse_Digest at hs
 refine CP.seqR ?_
 refine WP.alloc (T := 32) (t + 1) [encA .u8 d1, [.int .i64 x1], encA .i64 d2, [.slice a1 n1 c1]] [8, 1, 2, 1] (by kernel_rfl) (by simp [len_encA]) ?_
 intro g1 b1 st1 hB1
 replace hR1 := hR1.mono st1 (fun x => x)
 replace tot := tot.trans st1.pure
 refine WP.alloc (T := 29) (t + 2) [encA .u8 (zA 8)] [8] (by kernel_rfl) (by simp [len_encA]) ?_
 intro g2 b2 st2 hB2
 replace hR1 := hR1.mono st2 (fun x => x)
 replace hB1 := hB1.mono st2 (fun x => x)
 replace tot := tot.trans st2.pure
 refine WP.dn ?_
 refine NX.then_n ?_
 refine CP.seq ?_
 refine CP.seqR ?_
 refine WP.loadB (v := AG [encA .u8 d1, [.int .i64 x1], encA .i64 d2, [.slice a1 n1 c1]]) hB1 (by kernel_rfl) (by kernel_rfl) ?_
 replace hs := Option.bind_eq_some_iff.1 hs
 obtain ⟨x2, hk1, hs⟩ := hs
 have hcal1 := P.purse_Purse_Check g2 d1 x1 d2 l1 a1 n1 c1 hR1 x2 hk1
 refine WP.callC hcal1 (by kernel_rfl) ?_
 rintro _ g3 st3 rfl
 replace hB1 := hB1.mono st3 (fun x => x)
 replace hR1 := hR1.mono st3 (fun x => x)
 replace hB2 := hB2.mono st3 (fun x => x)
 replace tot := tot.trans st3.pure
 refine WP.stl 1 ?_
 refine WP.dn ?_
 refine NX.then_n ?_
 refine CP.cond (b := (x2 != 0)) (by kernel_rfl) (fun h1 => ?_) (fun h1 => ?_)
 ·replace hs := of_if_t hs h1
  refine CP.seqR ?_
  refine WP.stl 1 ?_
  refine WP.storeB (ty := 29) (off := 0) (v := AG [encA .u8 (zA 8)]) hB2 [encA .u8 (zA 8)] [8] (by kernel_rfl) (by kernel_rfl) (by simp [len_encA]) (by kernel_rfl) [encA .u8 (zA 8)] (by kernel_rfl) (.arr .nil) ?_
  intro g4 st4 hB3
  replace hB1 := hB1.mono st4 (WL.no1 (by omega))
  replace hR1 := hR1.mono st4 (WL.no1 (by omega))
  replace tot := tot.trans (st4.up1 (.inr (by omega)))
  clear hB2
  have hB2 := hB3
  clear hB3
  refine WP.dn ?_
  refine NX.then_n ?_
  refine CP.ret ?_
  refine NX.then_r ?_
  replace hs := Option.some.inj hs
  obtain rfl := hs
  exact NX.fin (v := AG [encA .u8 (zA 8)]) (Res.one rfl (RV.box (agg := true) (size := 8) (rs := [encA .u8 (zA 8)]) hB2 (by kernel_rfl) (by kernel_rfl) (by kernel_rfl) (by kernel_rfl))) tot htL rfl
 replace hs := of_if_f hs h1
 refine CP.skip ?_
 refine NX.then_n ?_
 refine CP.seq ?_
 replace hs := Option.bind_eq_some_iff.1 hs
 obtain ⟨l2, hk2, hs⟩ := hs
 replace hs := Option.bind_eq_some_iff.1 hs
 obtain ⟨l3, hk3, hs⟩ := hs
 by_cases hc1 : l2.length + l3.length ≤ 140737488355328
 case neg => rw [if_neg hc1] at hs; cases hs
 replace hs := of_if_p hs hc1
 replace hs := Option.bind_eq_some_iff.1 hs
 obtain ⟨d3, hk4, hs⟩ := hs
 refine CP.drawL (by kernel_rfl) [0, 1, 2, 3, 4, 5] [[], [], [0, 1], [0, 1, 2], [0, 1, 2, 3], [0, 1, 2, 3, 4]] [⟨none, [], [], fun l g => Box g (t + 1) b1 32 [encA .u8 d1, [.int .i64 x1], encA .i64 d2, [.slice a1 n1 c1]] [8, 1, 2, 1]⟩, ⟨none, [], [], fun l g => RdS k_S_purse_Held g 56 a1 n1 c1 l1⟩, ⟨none, [1], [], fun l g => Box g (t + 2) b2 29 [encA .u8 (zA 8)] [8]⟩, ⟨some 0, [0], [0], fun l g => ∃ (a2 : Option Addr) (c2 : Nat), l.getD 0 undef = .slice a2 l2.length c2 ∧ OwnS (Kd.int .u8) g (t + 3) 5 a2 l2.length c2 l2⟩, ⟨some 1, [], [1], fun l g => l.getD 0 undef = AG [encA .u8 d1, [.int .i64 x1], encA .i64 d2, [.slice a1 n1 c1]]⟩, ⟨some 2, [], [2], fun l g => ∃ (a3 : Option Addr) (c3 : Nat), l.getD 0 undef = .slice a3 l3.length c3 ∧ RdS (Kd.int .u8) g 5 a3 l3.length c3 l3⟩, ⟨some 3, [0], [3], fun l g => ∃ (a4 : Option Addr) (c4 : Nat), l.getD 0 undef = .slice a4 (l2.length + l3.length) c4 ∧ OwnS (Kd.int .u8) g (t + 3) 5 a4 (l2.length + l3.length) c4 (l2 ++ l3)⟩, ⟨some 3, [], [0], fun l g => ∃ (a2 : Option Addr) (c2 : Nat), l.getD 0 undef = .slice a2 l2.length c2⟩, ⟨some 4, [], [4], fun l g => l.getD 0 undef = AG [encA .u8 d3]⟩, ⟨some 4, [0], [3], fun l g => ∃ (a4 : Option Addr) (c4 : Nat), l.getD 0 undef = .slice a4 (l2.length + l3.length) c4 ∧ OwnS (Kd.int .u8) g (t + 3) 5 a4 (l2.length + l3.length) c4 (l2 ++ l3)⟩, ⟨some 5, [1], [], fun l g => Box g (t + 2) b2 29 [encA .u8 d3] [8]⟩] [[], [], [], [0], [0], [1]] [(t + 3), (t + 2)] [] [] (by kernel_rfl) (by simp <;> omega) (by simp <;> omega) ⟨fun _ _ _ _ st h0 hl hj hB1 => (hB1.mono st (fun h => absurd (hl _ h) (by simp <;> omega))), fun _ _ _ _ st h0 hl hj hR1 => (RdS.mono (e := 56) hR1 st h0), fun _ _ _ _ st h0 hl hj hB2 => (hB2.mono st (hj 1 (by simp) _ rfl)), fun _ _ _ _ st h0 hl hj ⟨a2, c2, e0, hR2⟩ => ⟨a2, c2, e0, (hR2.mono st h0 (hj 0 (by simp) _ rfl))⟩, fun _ _ _ _ st h0 hl hj e1 => e1, fun _ _ _ _ st h0 hl hj ⟨a3, c3, e2, hR3⟩ => ⟨a3, c3, e2, (RdS.mono (e := 5) hR3 st h0)⟩, fun _ _ _ _ st h0 hl hj ⟨a4, c4, e3, hR4⟩ => ⟨a4, c4, e3, (hR4.mono st h0 (hj 0 (by simp) _ rfl))⟩, fun _ _ _ _ st h0 hl hj ⟨a2, c2, e0⟩ => ⟨a2, c2, e0⟩, fun _ _ _ _ st h0 hl hj e4 => e4, fun _ _ _ _ st h0 hl hj ⟨a4, c4, e3, hR4⟩ => ⟨a4, c4, e3, (hR4.mono st h0 (hj 0 (by simp) _ rfl))⟩, fun _ _ _ _ st h0 hl hj hB2 => (hB2.mono st (hj 1 (by simp) _ rfl)), tv⟩ ⟨hB1, hR1, hB2, tv, tv, tv, tv, tv, tv, tv, tv, tv⟩ (by kernel_rfl) (fun vs => by kernel_rfl) ?_ ?_ ?_
 ·intro j hj; exact absurd hj (by simp)
 ·intro j hj
  have hq : j = 0 ∨ j = 1 ∨ j = 2 ∨ j = 3 ∨ j = 4 ∨ j = 5 := by have h : j < 6 := hj; omega
  rcases hq with rfl | rfl | rfl | rfl | rfl | rfl
  ·intro vs gq stq hl hf
   obtain ⟨v0, v1, v2, v3, v4, v5, rfl⟩ := len_k6 hl
   have hcal2 := P.octet_PutText gq (t + 3) ([]) str_0 none 0 0 (RdS.nil _ _ _) l2 hk2
   refine WP.callC hcal2 (by kernel_rfl) ?_
   rintro _ g5 st5 ⟨a2, n2, c2, rfl, hR2⟩
   obtain rfl := hR2.len
   refine WP.dn (Shown.o (v := .slice a2 l2.length c2) st5.pure ?_)
   exact ⟨tv, tv, tv, ⟨a2, c2, rfl, hR2⟩, tv, tv, tv, tv, tv, tv, tv, tv⟩
  ·intro vs gq stq hl hf
   obtain ⟨v0, v1, v2, v3, v4, v5, rfl⟩ := len_k6 hl
   have hB1 := (show Box gq (t + 1) b1 32 [encA .u8 d1, [.int .i64 x1], encA .i64 d2, [.slice a1 n1 c1]] [8, 1, 2, 1] from hf _ (memI 0 rfl) (by kernel_rfl))
   refine WP.loadB (v := AG [encA .u8 d1, [.int .i64 x1], encA .i64 d2, [.slice a1 n1 c1]]) hB1 (by kernel_rfl) (by kernel_rfl) ?_
   refine WP.dn (Shown.ok (v := AG [encA .u8 d1, [.int .i64 x1], encA .i64 d2, [.slice a1 n1 c1]]) (by kernel_rfl) (Step.refl _ _) ?_)
   exact ⟨tv, tv, tv, tv, rfl, tv, tv, tv, tv, tv, tv, tv⟩
  ·intro vs gq stq hl hf
   obtain ⟨v0, v1, v2, v3, v4, v5, rfl⟩ := len_k6 hl
   have hR1 := (show RdS k_S_purse_Held gq 56 a1 n1 c1 l1 from hf _ (memI 1 rfl) (by kernel_rfl))
   have e1 := (show v1 = AG [encA .u8 d1, [.int .i64 x1], encA .i64 d2, [.slice a1 n1 c1]] from hf _ (memI 4 rfl) (by kernel_rfl))
   subst e1
   have hcal3 := P.purse_Purse_bytes gq d1 x1 d2 l1 a1 n1 c1 hR1 l3 hk3
   refine WP.callC hcal3 (by kernel_rfl) ?_
   rintro _ g6 st6 ⟨a3, n3, c3, rfl, hR3⟩
   obtain rfl := hR3.len
   refine WP.dn (Shown.o (v := .slice a3 l3.length c3) st6.pure ?_)
   exact ⟨tv, tv, tv, tv, tv, ⟨a3, c3, rfl, hR3⟩, tv, tv, tv, tv, tv, tv⟩
  ·intro vs gq stq hl hf
   obtain ⟨v0, v1, v2, v3, v4, v5, rfl⟩ := len_k6 hl
   obtain ⟨a2, c2, e0, hR2⟩ := (show ∃ (a2 : Option Addr) (c2 : Nat), v0 = .slice a2 l2.length c2 ∧ OwnS (Kd.int .u8) gq (t + 3) 5 a2 l2.length c2 l2 from hf _ (memI 3 rfl) (by kernel_rfl))
   subst e0
   obtain ⟨a3, c3, e2, hR3⟩ := (show ∃ (a3 : Option Addr) (c3 : Nat), v2 = .slice a3 l3.length c3 ∧ RdS (Kd.int .u8) gq 5 a3 l3.length c3 l3 from hf _ (memI 5 rfl) (by kernel_rfl))
   subst e2
   refine WP.append (kd := (Kd.int .u8)) (t := 64) (e := 5) (bytes := 1) (a2 := a3) (c2 := c3) hR2 hR3.src hR3.len (by kernel_rfl) (by kernel_rfl) (by omega) (by simp only [maxLen]; omega) (by omega) ?_
   intro g7 a4 c4 st7 hR4
   refine WP.dn (Shown.o (v := .slice a4 (l2.length + l3.length) c4) st7 ?_)
   exact ⟨tv, tv, tv, tv, tv, tv, ⟨a4, c4, rfl, hR4⟩, ⟨a2, c2, rfl⟩, tv, tv, tv, tv⟩
  ·intro vs gq stq hl hf
   obtain ⟨v0, v1, v2, v3, v4, v5, rfl⟩ := len_k6 hl
   obtain ⟨a4, c4, e3, hR4⟩ := (show ∃ (a4 : Option Addr) (c4 : Nat), v3 = .slice a4 (l2.length + l3.length) c4 ∧ OwnS (Kd.int .u8) gq (t + 3) 5 a4 (l2.length + l3.length) c4 (l2 ++ l3) from hf _ (memI 6 rfl) (by kernel_rfl))
   subst e3
   have hS1 : 0 ∉ ([(t + 3)] : List Nat) := by simp <;> omega
   have stl1 := GW.lend_step gq [(t + 3)]
   have hRl1 := hR4.lendTo hS1 (by simp)
   refine WP.regw (g' := GW.lend gq [(t + 3)]) rfl ?_
   have hcal4 := P.hash_Of (GW.lend gq [(t + 3)]) (l2 ++ l3) a4 (l2.length + l3.length) c4 hRl1 d3 hk4
   refine WP.callC hcal4 (by kernel_rfl) ?_
   rintro _ g8 st8 rfl
   have st9 := (GW.back_step st8).lentS
   have hO1 := hR4.backTo hS1 (by simp) st8 (fun x => x)
   refine WP.regw (g' := GW.back gq g8 [(t + 3)]) rfl ?_
   generalize GW.back gq g8 [(t + 3)] = g9 at *
   refine WP.dn (Shown.o (v := AG [encA .u8 d3]) st9 ?_)
   exact ⟨tv, tv, tv, tv, tv, tv, tv, tv, rfl, ⟨a4, c4, rfl, hO1⟩, tv, tv⟩
  ·intro vs gq stq hl hf
   obtain ⟨v0, v1, v2, v3, v4, v5, rfl⟩ := len_k6 hl
   have hB2 := (show Box gq (t + 2) b2 29 [encA .u8 (zA 8)] [8] from hf _ (memI 2 rfl) (by kernel_rfl))
   have e4 := (show v4 = AG [encA .u8 d3] from hf _ (memI 8 rfl) (by kernel_rfl))
   subst e4
   refine WP.storeB (ty := 29) (off := 0) (v := AG [encA .u8 d3]) hB2 [encA .u8 d3] [8] (by kernel_rfl) (by kernel_rfl) (by simp [len_encA]) (by kernel_rfl) [encA .u8 d3] (by kernel_rfl) (.arr .nil) ?_
   intro g10 st10 hB4
   refine WP.dn (Shown.o (v := undef) st10 ?_)
   exact ⟨tv, tv, tv, tv, tv, tv, tv, tv, tv, tv, hB4, tv⟩
 intro vs g11 st11 hl hf
 obtain ⟨v0, v1, v2, v3, v4, v5, rfl⟩ := len_k6 hl
 have hB2 := (show Box g11 (t + 2) b2 29 [encA .u8 d3] [8] from hf _ (memI 10 rfl) (by kernel_rfl))
 replace tot := tot.trans (st11.up2 (.inr (by omega)) (.inr (by omega)))
 refine NX.then_n ?_
 refine CP.refr 12 [(2, .pointer (some ⟨b2, 0, none⟩))] (by kernel_rfl) (by kernel_rfl) ?_
 clear ds
 intro ds
 refine CP.ret ?_
 replace hs := Option.some.inj hs
 obtain rfl := hs
 exact NX.fin (v := AG [encA .u8 d3]) (Res.one rfl (RV.box (agg := true) (size := 8) (rs := [encA .u8 d3]) hB2 (by kernel_rfl) (by kernel_rfl) (by kernel_rfl) (by kernel_rfl))) tot htL rfl
def F.baizeref02_Begin (x1 : Int) : Option (Int × Int × Int × Int) := (some (2611923443488327891, 1376283091369227076, 11820040416388919760, x1))
theorem P.baizeref02_Begin (g0 : GW) (x1 : Int) (o1 : Int) (o2 : Int) (o3 : Int) (o4 : Int) (hs : F.baizeref02_Begin x1 = some (o1, o2, o3, o4)) :
  Calls Try.prog 89 #[.int .u64 x1] g0.w (Ret NoM g0 fun v g => v = AG [[.int .u64 o1], [.int .u64 o2], [.int .u64 o3], [.int .u64 o4]]) := by
 refine calls_of (args := [.int .u64 x1]) Try.func89 rfl (0) ?_
 intro t ht htL
 refine ⟨_, rfl, ?_⟩
 refine CP.refr 5 [(0, .int .u64 x1)] (by kernel_rfl) (by kernel_rfl) ?_
 intro ds
 have tot : Step (fun l => NoM l ∨ t ≤ l) g0 g0 := Step.refl _ _
 unfold F.baizeref02_Begin at hs
 refine CP.seqR ?_
 refine WP.alloc (T := 146) (t + 1) [[.int .u64 0], [.int .u64 0], [.int .u64 0], [.int .u64 0]] [1, 1, 1, 1] (by kernel_rfl) rfl ?_
 intro g1 b1 st1 hB1
 replace tot := tot.trans st1.pure
 refine WP.dn ?_
 refine NX.then_n ?_
 refine CP.seqR ?_
 refine WP.stl 2 ?_
 refine WP.storeB (ty := 146) (off := 0) (v := AG [[.int .u64 2611923443488327891], [.int .u64 1376283091369227076], [.int .u64 11820040416388919760], [.int .u64 x1]]) hB1 [[.int .u64 2611923443488327891], [.int .u64 1376283091369227076], [.int .u64 11820040416388919760], [.int .u64 x1]] [1, 1, 1, 1] (by kernel_rfl) (by kernel_rfl) rfl (by kernel_rfl) [[.int .u64 2611923443488327891], [.int .u64 1376283091369227076], [.int .u64 11820040416388919760], [.int .u64 x1]] (by kernel_rfl) (.one rfl (.one rfl (.one rfl (.one rfl .nil)))) ?_
 intro g2 st2 hB2
 replace tot := tot.trans (st2.up1 (.inr (by omega)))
 clear hB1
 have hB1 := hB2
 clear hB2
 refine WP.dn ?_
 refine NX.then_n ?_
 refine CP.ret ?_
 replace hs := Option.some.inj hs
 simp only [Prod.mk.injEq] at hs
 obtain ⟨rfl, rfl, rfl, rfl⟩ := hs
 exact NX.fin (v := AG [[.int .u64 2611923443488327891], [.int .u64 1376283091369227076], [.int .u64 11820040416388919760], [.int .u64 x1]]) (Res.one rfl (RV.box (agg := true) (size := 4) (rs := [[.int .u64 2611923443488327891], [.int .u64 1376283091369227076], [.int .u64 11820040416388919760], [.int .u64 x1]]) hB1 (by kernel_rfl) (by kernel_rfl) (by kernel_rfl) (by kernel_rfl))) tot htL rfl
def F.baizeref02_Num.l1 (d1 : Arr Int 8) : Nat → Int → Int → Option (Int)
 | 0, _, _ => none
 | k + 1, x1, x2 => (if decide (x2 ≥ 0) = true then (if (0 : Int) ≤ x2 ∧ x2 < (8 : Int) then (F.baizeref02_Num.l1 d1 k (IntKind.u64.wrap ((IntKind.u64.wrap (x1 * 256)) + (IntKind.u64.wrap (aget d1 x2)))) (IntKind.i64.wrap (x2 - 1))) else none) else (some x1))
def F.baizeref02_Num (d1 : Arr Int 8) : Option (Int) := (F.baizeref02_Num.l1 d1 fuel 0 7)
theorem P.baizeref02_Num (g0 : GW) (d1 : Arr Int 8) (o1 : Int) (hs : F.baizeref02_Num d1 = some o1) :
  Calls Try.prog 106 #[AG [encA .u8 d1]] g0.w (Ret NoM g0 fun v g => v = .int .u64 o1) := by
 refine calls_of (args := [AG [encA .u8 d1]]) Try.func106 rfl (0) ?_
 intro t ht htL
 refine ⟨_, rfl, ?_⟩
 refine CP.refr 17 [(0, AG [encA .u8 d1])] (by kernel_rfl) (by kernel_rfl) ?_
 intro ds
 have tot : Step (fun l => NoM l ∨ t ≤ l) g0 g0 := Step.refl _ _
 unfold F.baizeref02_Num at hs
 refine CP.seqR ?_
 refine WP.alloc (T := 22) (t + 1) [encA .u8 d1] [8] (by kernel_rfl) (by simp [len_encA]) ?_
 intro g1 b1 st1 hB1
 replace tot := tot.trans st1.pure
 refine WP.stl 1 ?_
 refine WP.dn ?_
 refine NX.then_n ?_
 refine CP.seqR ?_
 refine WP.stl 1 ?_
 refine WP.dn ?_
 refine NX.then_n ?_
 refine CP.seq ?_
 refine CP.seqR ?_
 refine WP.stl 1 ?_
 refine WP.dn ?_
 refine NX.then_n ?_
 refine CP.block ?_
 generalize fuel = k1 at hs
 refine CP.loop (fun k1 tm g => ∃ (x1 : Int) (x2 : Int), Fr 17 [(1, .pointer (some ⟨b1, 0, none⟩)), (3, .int .u64 x1), (4, .int .i64 x2)] tm ∧ Step (fun l => NoM l ∨ t ≤ l) g0 g ∧ Box g (t + 1) b1 22 [encA .u8 d1] [8] ∧ F.baizeref02_Num.l1 d1 k1 x1 x2 = some o1) k1 ?_ ?_ ?_
 ·exact ⟨0, 7, ⟨by kernel_rfl, by kernel_rfl⟩, tot, hB1, hs⟩
 ·rintro tm g ⟨x1, x2, hF, tot, hB1, hs⟩
  exact absurd hs (by simp [F.baizeref02_Num.l1])
 clear tot hs hB1
 rintro k1 tm g ⟨x1, x2, hF, tot, hB1, hs⟩
 clear ds
 obtain ⟨ds, rfl⟩ := hF.open
 clear hF
 unfold F.baizeref02_Num.l1 at hs
 refine CP.seq ?_
 refine CP.seqR ?_
 refine WP.stl 2 ?_
 refine WP.dn ?_
 refine NX.then_n ?_
 refine CP.cond (b := decide (x2 ≥ 0)) (by kernel_rfl) (fun h3 => ?_) (fun h3 => ?_)
 ·replace hs := of_if_t hs h3
  refine CP.skip ?_
  refine NX.then_n ?_
  refine CP.seq ?_
  refine CP.block ?_
  refine CP.region ?_
  refine WP.stl 3 ?_
  by_cases hc2 : (0 : Int) ≤ x2 ∧ x2 < (8 : Int)
  case neg => rw [if_neg hc2] at hs; cases hs
  replace hs := of_if_p hs hc2
  refine WP.ixBox (t := 22) (e := 5) (m := 8) (size := 1) (b := b1) (off := 0) (k := .i64) (i := x2) (by kernel_rfl) (by kernel_rfl) hc2 ?_
  refine WP.loadE (ty := 5) (o := 0) (m := 8) (k := .u8) (d := d1) (i := x2) hB1 (by kernel_rfl) hc2 (by kernel_rfl) (by kernel_rfl) ?_
  refine WP.stl 3 ?_
  refine WP.dn ?_
  refine NX.block_n ?_
  refine NX.then_n ?_
  refine CP.region ?_
  refine WP.stl 3 ?_
  refine WP.dn ?_
  refine NX.post ?_
  exact ⟨(IntKind.u64.wrap ((IntKind.u64.wrap (x1 * 256)) + (IntKind.u64.wrap (aget d1 x2)))), (IntKind.i64.wrap (x2 - 1)), ⟨by kernel_rfl, by kernel_rfl⟩, tot, hB1, hs⟩
 replace hs := of_if_f hs h3
 refine CP.exit ?_
 refine NX.then_e ?_
 refine NX.then_e ?_
 refine NX.block_s ?_
 refine NX.then_n ?_
 refine CP.seqR ?_
 refine WP.stl 2 ?_
 refine WP.dn ?_
 refine NX.then_n ?_
 refine CP.ret ?_
 replace hs := Option.some.inj hs
 obtain rfl := hs
 exact NX.fin (v := .int .u64 x1) (Res.still (by kernel_rfl)) tot htL rfl
def F.baizeref02_left (x1 : Int) (x2 : Int) : Option (Int) := (if (0 : Int) ≤ x2 then (if (0 : Int) ≤ (IntKind.u64.wrap (64 - x2)) then (some (bitOr .u64 (shV true .u64 x1 x2) (shV false .u64 x1 (IntKind.u64.wrap (64 - x2))))) else none) else none)
theorem P.baizeref02_left (g0 : GW) (x1 : Int) (x2 : Int) (o1 : Int) (hs : F.baizeref02_left x1 x2 = some o1) :
  Calls Try.prog 117 #[.int .u64 x1, .int .u64 x2] g0.w (Ret NoM g0 fun v g => v = .int .u64 o1) := by
 refine calls_of (args := [.int .u64 x1, .int .u64 x2]) Try.func117 rfl (0) ?_
 intro t ht htL
 refine ⟨_, rfl, ?_⟩
 refine CP.refr 13 [(0, .int .u64 x1), (1, .int .u64 x2)] (by kernel_rfl) (by kernel_rfl) ?_
 intro ds
 have tot : Step (fun l => NoM l ∨ t ≤ l) g0 g0 := Step.refl _ _
 unfold F.baizeref02_left at hs
 refine CP.seqR ?_
 refine WP.stl 1 ?_
 refine WP.dn ?_
 refine NX.then_n ?_
 refine CP.seqR ?_
 refine WP.stl 2 ?_
 by_cases hc1 : (0 : Int) ≤ x2
 case neg => rw [if_neg hc1] at hs; cases hs
 replace hs := of_if_p hs hc1
 refine WP.shift (left := true) (k := .u64) (yk := .u64) (x := x1) (y := x2) (by kernel_rfl) hc1 ?_
 refine WP.stl 3 ?_
 by_cases hc2 : (0 : Int) ≤ (IntKind.u64.wrap (64 - x2))
 case neg => rw [if_neg hc2] at hs; cases hs
 replace hs := of_if_p hs hc2
 refine WP.shift (left := false) (k := .u64) (yk := .u64) (x := x1) (y := (IntKind.u64.wrap (64 - x2))) (by kernel_rfl) hc2 ?_
 refine WP.stl 2 ?_
 refine WP.dn ?_
 refine NX.then_n ?_
 refine CP.ret ?_
 replace hs := Option.some.inj hs
 obtain rfl := hs
 exact NX.fin (v := .int .u64 (bitOr .u64 (shV true .u64 x1 x2) (shV false .u64 x1 (IntKind.u64.wrap (64 - x2))))) (Res.still (by kernel_rfl)) tot htL rfl
def F.baizeref02_Stir.l1 : Nat → Int → Int → Int → Int → Int → Option (Int × Int × Int × Int)
 | 0, _, _, _, _, _ => none
 | k + 1, x9, x10, x11, x12, x13 => (if decide (x13 ≤ 6) = true then ((F.baizeref02_left (bitXor .u64 x12 (bitXor .u64 (IntKind.u64.wrap (x9 + x10)) x13)) 32).bind fun x23 => ((F.baizeref02_left (bitXor .u64 x10 (IntKind.u64.wrap (x11 + x23))) 24).bind fun x24 => ((F.baizeref02_left (bitXor .u64 x23 (IntKind.u64.wrap ((bitXor .u64 (IntKind.u64.wrap (x9 + x10)) x13) + x24))) 16).bind fun x25 => ((F.baizeref02_left (bitXor .u64 x24 (IntKind.u64.wrap ((IntKind.u64.wrap (x11 + x23)) + x25))) 63).bind fun x26 => (F.baizeref02_Stir.l1 k (IntKind.u64.wrap ((bitXor .u64 (IntKind.u64.wrap (x9 + x10)) x13) + x24)) x26 (IntKind.u64.wrap ((IntKind.u64.wrap (x11 + x23)) + x25)) x25 (IntKind.u64.wrap (x13 + 1))))))) else (some (x9, x10, x11, x12)))
def F.baizeref02_Stir (x1 : Int) (x2 : Int) (x3 : Int) (x4 : Int) : Option (Int × Int × Int × Int) := (F.baizeref02_Stir.l1 fuel x1 x2 x3 x4 1)
theorem P.baizeref02_Stir (g0 : GW) (x1 : Int) (x2 : Int) (x3 : Int) (x4 : Int) (o1 : Int) (o2 : Int) (o3 : Int) (o4 : Int) (hs : F.baizeref02_Stir x1 x2 x3 x4 = some (o1, o2, o3, o4)) :
  Calls Try.prog 114 #[AG [[.int .u64 x1], [.int .u64 x2], [.int .u64 x3], [.int .u64 x4]]] g0.w (Ret NoM g0 fun v g => v = AG [[.int .u64 o1], [.int .u64 o2], [.int .u64 o3], [.int .u64 o4]]) := by
 refine calls_of (args := [AG [[.int .u64 x1], [.int .u64 x2], [.int .u64 x3], [.int .u64 x4]]]) Try.func114 rfl (0) ?_
 intro t ht htL
 refine ⟨_, rfl, ?_⟩
 refine CP.refr 63 [(0, AG [[.int .u64 x1], [.int .u64 x2], [.int .u64 x3], [.int .u64 x4]])] (by kernel_rfl) (by kernel_rfl) ?_
 intro ds
 have tot : Step (fun l => NoM l ∨ t ≤ l) g0 g0 := Step.refl _ _
 unfold F.baizeref02_Stir at hs
 refine CP.seqR ?_
 refine WP.alloc (T := 146) (t + 1) [[.int .u64 x1], [.int .u64 x2], [.int .u64 x3], [.int .u64 x4]] [1, 1, 1, 1] (by kernel_rfl) rfl ?_
 intro g1 b1 st1 hB1
 replace tot := tot.trans st1.pure
 refine WP.alloc (T := 146) (t + 2) [[.int .u64 0], [.int .u64 0], [.int .u64 0], [.int .u64 0]] [1, 1, 1, 1] (by kernel_rfl) rfl ?_
 intro g2 b2 st2 hB2
 replace hB1 := hB1.mono st2 (fun x => x)
 replace tot := tot.trans st2.pure
 refine WP.dn ?_
 refine NX.then_n ?_
 refine CP.seq ?_
 refine CP.seqR ?_
 refine WP.stl 1 ?_
 refine WP.dn ?_
 refine NX.then_n ?_
 refine CP.block ?_
 generalize fuel = k1 at hs
 refine CP.loop (fun k1 tm g => ∃ (x9 : Int) (x10 : Int) (x11 : Int) (x12 : Int) (x13 : Int), Fr 63 [(1, .pointer (some ⟨b1, 0, none⟩)), (2, .pointer (some ⟨b2, 0, none⟩)), (3, .int .u64 x13)] tm ∧ Step (fun l => NoM l ∨ t ≤ l) g0 g ∧ Box g (t + 1) b1 146 [[.int .u64 x9], [.int .u64 x10], [.int .u64 x11], [.int .u64 x12]] [1, 1, 1, 1] ∧ Box g (t + 2) b2 146 [[.int .u64 0], [.int .u64 0], [.int .u64 0], [.int .u64 0]] [1, 1, 1, 1] ∧ F.baizeref02_Stir.l1 k1 x9 x10 x11 x12 x13 = some (o1, o2, o3, o4)) k1 ?_ ?_ ?_
 ·exact ⟨x1, x2, x3, x4, 1, ⟨by kernel_rfl, by kernel_rfl⟩, tot, hB1, hB2, hs⟩
 ·rintro tm g ⟨x9, x10, x11, x12, x13, hF, tot, hB1, hB2, hs⟩
  exact absurd hs (by simp [F.baizeref02_Stir.l1])
 clear tot hs hB1 hB2
 rintro k1 tm g ⟨x9, x10, x11, x12, x13, hF, tot, hB1, hB2, hs⟩
 clear ds
 obtain ⟨ds, rfl⟩ := hF.open
 clear hF
 unfold F.baizeref02_Stir.l1 at hs
 refine CP.seq ?_
 refine CP.seqR ?_
 refine WP.stl 2 ?_
 refine WP.dn ?_
 refine NX.then_n ?_
 refine CP.cond (b := decide (x13 ≤ 6)) (by kernel_rfl) (fun h3 => ?_) (fun h3 => ?_)
 ·replace hs := of_if_t hs h3
  refine CP.skip ?_
  refine NX.then_n ?_
  refine CP.seq ?_
  refine CP.block ?_
  refine CP.seqR ?_
  refine WP.stl 1 ?_
  refine WP.loadB (v := .int .u64 x9) hB1 (by kernel_rfl) (by kernel_rfl) ?_
  refine WP.stl 1 ?_
  refine WP.loadB (v := .int .u64 x10) hB1 (by kernel_rfl) (by kernel_rfl) ?_
  refine WP.stl 4 ?_
  refine WP.storeB (ty := 116) (off := 0) (v := .int .u64 (bitXor .u64 (IntKind.u64.wrap (x9 + x10)) x13)) hB1 [[.int .u64 (bitXor .u64 (IntKind.u64.wrap (x9 + x10)) x13)]] [1] (by kernel_rfl) (by kernel_rfl) rfl (by kernel_rfl) [[.int .u64 (bitXor .u64 (IntKind.u64.wrap (x9 + x10)) x13)], [.int .u64 x10], [.int .u64 x11], [.int .u64 x12]] (by kernel_rfl) (.one rfl .nil) ?_
  intro g29 st29 hB21
  replace hB2 := hB2.mono st29 (WL.no1 (by omega))
  replace tot := tot.trans (st29.up1 (.inr (by omega)))
  clear hB1
  have hB1 := hB21
  clear hB21
  refine WP.dn ?_
  refine NX.then_n ?_
  refine CP.seqR ?_
  refine WP.stl 1 ?_
  refine WP.loadB (v := .int .u64 x12) hB1 (by kernel_rfl) (by kernel_rfl) ?_
  refine WP.stl 1 ?_
  refine WP.loadB (v := .int .u64 (bitXor .u64 (IntKind.u64.wrap (x9 + x10)) x13)) hB1 (by kernel_rfl) (by kernel_rfl) ?_
  refine WP.stl 1 ?_
  replace hs := Option.bind_eq_some_iff.1 hs
  obtain ⟨x23, hk9, hs⟩ := hs
  have hcal9 := P.baizeref02_left g29 (bitXor .u64 x12 (bitXor .u64 (IntKind.u64.wrap (x9 + x10)) x13)) 32 x23 hk9
  refine WP.callC hcal9 (by kernel_rfl) ?_
  rintro _ g30 st30 rfl
  replace hB1 := hB1.mono st30 (fun x => x)
  replace hB2 := hB2.mono st30 (fun x => x)
  replace tot := tot.trans st30.pure
  refine WP.stl 1 ?_
  refine WP.storeB (ty := 116) (off := 3) (v := .int .u64 x23) hB1 [[.int .u64 x23]] [1] (by kernel_rfl) (by kernel_rfl) rfl (by kernel_rfl) [[.int .u64 (bitXor .u64 (IntKind.u64.wrap (x9 + x10)) x13)], [.int .u64 x10], [.int .u64 x11], [.int .u64 x23]] (by kernel_rfl) (.one rfl .nil) ?_
  intro g31 st31 hB22
  replace hB2 := hB2.mono st31 (WL.no1 (by omega))
  replace tot := tot.trans (st31.up1 (.inr (by omega)))
  clear hB1
  have hB1 := hB22
  clear hB22
  refine WP.dn ?_
  refine NX.then_n ?_
  refine CP.refr 63 [(1, .pointer (some ⟨b1, 0, none⟩)), (2, .pointer (some ⟨b2, 0, none⟩)), (3, .int .u64 x13)] (by kernel_rfl) (by kernel_rfl) ?_
  clear ds
  intro ds
  refine CP.seqR ?_
  refine WP.stl 1 ?_
  refine WP.loadB (v := .int .u64 x11) hB1 (by kernel_rfl) (by kernel_rfl) ?_
  refine WP.stl 1 ?_
  refine WP.loadB (v := .int .u64 x23) hB1 (by kernel_rfl) (by kernel_rfl) ?_
  refine WP.stl 2 ?_
  refine WP.storeB (ty := 116) (off := 2) (v := .int .u64 (IntKind.u64.wrap (x11 + x23))) hB1 [[.int .u64 (IntKind.u64.wrap (x11 + x23))]] [1] (by kernel_rfl) (by kernel_rfl) rfl (by kernel_rfl) [[.int .u64 (bitXor .u64 (IntKind.u64.wrap (x9 + x10)) x13)], [.int .u64 x10], [.int .u64 (IntKind.u64.wrap (x11 + x23))], [.int .u64 x23]] (by kernel_rfl) (.one rfl .nil) ?_
  intro g32 st32 hB23
  replace hB2 := hB2.mono st32 (WL.no1 (by omega))
  replace tot := tot.trans (st32.up1 (.inr (by omega)))
  clear hB1
  have hB1 := hB23
  clear hB23
  refine WP.dn ?_
  refine NX.then_n ?_
  refine CP.seqR ?_
  refine WP.stl 1 ?_
  refine WP.loadB (v := .int .u64 x10) hB1 (by kernel_rfl) (by kernel_rfl) ?_
  refine WP.stl 1 ?_
  refine WP.loadB (v := .int .u64 (IntKind.u64.wrap (x11 + x23))) hB1 (by kernel_rfl) (by kernel_rfl) ?_
  refine WP.stl 1 ?_
  replace hs := Option.bind_eq_some_iff.1 hs
  obtain ⟨x24, hk10, hs⟩ := hs
  have hcal10 := P.baizeref02_left g32 (bitXor .u64 x10 (IntKind.u64.wrap (x11 + x23))) 24 x24 hk10
  refine WP.callC hcal10 (by kernel_rfl) ?_
  rintro _ g33 st33 rfl
  replace hB1 := hB1.mono st33 (fun x => x)
  replace hB2 := hB2.mono st33 (fun x => x)
  replace tot := tot.trans st33.pure
  refine WP.stl 1 ?_
  refine WP.storeB (ty := 116) (off := 1) (v := .int .u64 x24) hB1 [[.int .u64 x24]] [1] (by kernel_rfl) (by kernel_rfl) rfl (by kernel_rfl) [[.int .u64 (bitXor .u64 (IntKind.u64.wrap (x9 + x10)) x13)], [.int .u64 x24], [.int .u64 (IntKind.u64.wrap (x11 + x23))], [.int .u64 x23]] (by kernel_rfl) (.one rfl .nil) ?_
  intro g34 st34 hB24
  replace hB2 := hB2.mono st34 (WL.no1 (by omega))
  replace tot := tot.trans (st34.up1 (.inr (by omega)))
  clear hB1
  have hB1 := hB24
  clear hB24
  refine WP.dn ?_
  refine NX.then_n ?_
  refine CP.refr 63 [(1, .pointer (some ⟨b1, 0, none⟩)), (2, .pointer (some ⟨b2, 0, none⟩)), (3, .int .u64 x13)] (by kernel_rfl) (by kernel_rfl) ?_
  clear ds
  intro ds
  refine CP.seqR ?_
  refine WP.stl 1 ?_
  refine WP.loadB (v := .int .u64 (bitXor .u64 (IntKind.u64.wrap (x9 + x10)) x13)) hB1 (by kernel_rfl) (by kernel_rfl) ?_
  refine WP.stl 1 ?_
  refine WP.loadB (v := .int .u64 x24) hB1 (by kernel_rfl) (by kernel_rfl) ?_
  refine WP.stl 2 ?_
  refine WP.storeB (ty := 116) (off := 0) (v := .int .u64 (IntKind.u64.wrap ((bitXor .u64 (IntKind.u64.wrap (x9 + x10)) x13) + x24))) hB1 [[.int .u64 (IntKind.u64.wrap ((bitXor .u64 (IntKind.u64.wrap (x9 + x10)) x13) + x24))]] [1] (by kernel_rfl) (by kernel_rfl) rfl (by kernel_rfl) [[.int .u64 (IntKind.u64.wrap ((bitXor .u64 (IntKind.u64.wrap (x9 + x10)) x13) + x24))], [.int .u64 x24], [.int .u64 (IntKind.u64.wrap (x11 + x23))], [.int .u64 x23]] (by kernel_rfl) (.one rfl .nil) ?_
  intro g35 st35 hB25
  replace hB2 := hB2.mono st35 (WL.no1 (by omega))
  replace tot := tot.trans (st35.up1 (.inr (by omega)))
  clear hB1
  have hB1 := hB25
  clear hB25
  refine WP.dn ?_
  refine NX.then_n ?_
  refine CP.seqR ?_
  refine WP.stl 1 ?_
  refine WP.loadB (v := .int .u64 x23) hB1 (by kernel_rfl) (by kernel_rfl) ?_
  refine WP.stl 1 ?_
  refine WP.loadB (v := .int .u64 (IntKind.u64.wrap ((bitXor .u64 (IntKind.u64.wrap (x9 + x10)) x13) + x24))) hB1 (by kernel_rfl) (by kernel_rfl) ?_
  refine WP.stl 1 ?_
  replace hs := Option.bind_eq_some_iff.1 hs
  obtain ⟨x25, hk11, hs⟩ := hs
  have hcal11 := P.baizeref02_left g35 (bitXor .u64 x23 (IntKind.u64.wrap ((bitXor .u64 (IntKind.u64.wrap (x9 + x10)) x13) + x24))) 16 x25 hk11
  refine WP.callC hcal11 (by kernel_rfl) ?_
  rintro _ g36 st36 rfl
  replace hB1 := hB1.mono st36 (fun x => x)
  replace hB2 := hB2.mono st36 (fun x => x)
  replace tot := tot.trans st36.pure
  refine WP.stl 1 ?_
  refine WP.storeB (ty := 116) (off := 3) (v := .int .u64 x25) hB1 [[.int .u64 x25]] [1] (by kernel_rfl) (by kernel_rfl) rfl (by kernel_rfl) [[.int .u64 (IntKind.u64.wrap ((bitXor .u64 (IntKind.u64.wrap (x9 + x10)) x13) + x24))], [.int .u64 x24], [.int .u64 (IntKind.u64.wrap (x11 + x23))], [.int .u64 x25]] (by kernel_rfl) (.one rfl .nil) ?_
  intro g37 st37 hB26
  replace hB2 := hB2.mono st37 (WL.no1 (by omega))
  replace tot := tot.trans (st37.up1 (.inr (by omega)))
  clear hB1
  have hB1 := hB26
  clear hB26
  refine WP.dn ?_
  refine NX.then_n ?_
  refine CP.refr 63 [(1, .pointer (some ⟨b1, 0, none⟩)), (2, .pointer (some ⟨b2, 0, none⟩)), (3, .int .u64 x13)] (by kernel_rfl) (by kernel_rfl) ?_
  clear ds
  intro ds
  refine CP.seqR ?_
  refine WP.stl 1 ?_
  refine WP.loadB (v := .int .u64 (IntKind.u64.wrap (x11 + x23))) hB1 (by kernel_rfl) (by kernel_rfl) ?_
  refine WP.stl 1 ?_
  refine WP.loadB (v := .int .u64 x25) hB1 (by kernel_rfl) (by kernel_rfl) ?_
  refine WP.stl 2 ?_
  refine WP.storeB (ty := 116) (off := 2) (v := .int .u64 (IntKind.u64.wrap ((IntKind.u64.wrap (x11 + x23)) + x25))) hB1 [[.int .u64 (IntKind.u64.wrap ((IntKind.u64.wrap (x11 + x23)) + x25))]] [1] (by kernel_rfl) (by kernel_rfl) rfl (by kernel_rfl) [[.int .u64 (IntKind.u64.wrap ((bitXor .u64 (IntKind.u64.wrap (x9 + x10)) x13) + x24))], [.int .u64 x24], [.int .u64 (IntKind.u64.wrap ((IntKind.u64.wrap (x11 + x23)) + x25))], [.int .u64 x25]] (by kernel_rfl) (.one rfl .nil) ?_
  intro g38 st38 hB27
  replace hB2 := hB2.mono st38 (WL.no1 (by omega))
  replace tot := tot.trans (st38.up1 (.inr (by omega)))
  clear hB1
  have hB1 := hB27
  clear hB27
  refine WP.dn ?_
  refine NX.then_n ?_
  refine CP.region ?_
  refine WP.stl 1 ?_
  refine WP.loadB (v := .int .u64 x24) hB1 (by kernel_rfl) (by kernel_rfl) ?_
  refine WP.stl 1 ?_
  refine WP.loadB (v := .int .u64 (IntKind.u64.wrap ((IntKind.u64.wrap (x11 + x23)) + x25))) hB1 (by kernel_rfl) (by kernel_rfl) ?_
  refine WP.stl 1 ?_
  replace hs := Option.bind_eq_some_iff.1 hs
  obtain ⟨x26, hk12, hs⟩ := hs
  have hcal12 := P.baizeref02_left g38 (bitXor .u64 x24 (IntKind.u64.wrap ((IntKind.u64.wrap (x11 + x23)) + x25))) 63 x26 hk12
  refine WP.callC hcal12 (by kernel_rfl) ?_
  rintro _ g39 st39 rfl
  replace hB1 := hB1.mono st39 (fun x => x)
  replace hB2 := hB2.mono st39 (fun x => x)
  replace tot := tot.trans st39.pure
  refine WP.stl 1 ?_
  refine WP.storeB (ty := 116) (off := 1) (v := .int .u64 x26) hB1 [[.int .u64 x26]] [1] (by kernel_rfl) (by kernel_rfl) rfl (by kernel_rfl) [[.int .u64 (IntKind.u64.wrap ((bitXor .u64 (IntKind.u64.wrap (x9 + x10)) x13) + x24))], [.int .u64 x26], [.int .u64 (IntKind.u64.wrap ((IntKind.u64.wrap (x11 + x23)) + x25))], [.int .u64 x25]] (by kernel_rfl) (.one rfl .nil) ?_
  intro g40 st40 hB28
  replace hB2 := hB2.mono st40 (WL.no1 (by omega))
  replace tot := tot.trans (st40.up1 (.inr (by omega)))
  clear hB1
  have hB1 := hB28
  clear hB28
  refine WP.dn ?_
  refine NX.block_n ?_
  refine NX.then_n ?_
  refine CP.refr 63 [(1, .pointer (some ⟨b1, 0, none⟩)), (2, .pointer (some ⟨b2, 0, none⟩)), (3, .int .u64 x13)] (by kernel_rfl) (by kernel_rfl) ?_
  clear ds
  intro ds
  refine CP.region ?_
  refine WP.stl 3 ?_
  refine WP.dn ?_
  refine NX.post ?_
  exact ⟨(IntKind.u64.wrap ((bitXor .u64 (IntKind.u64.wrap (x9 + x10)) x13) + x24)), x26, (IntKind.u64.wrap ((IntKind.u64.wrap (x11 + x23)) + x25)), x25, (IntKind.u64.wrap (x13 + 1)), ⟨by kernel_rfl, by kernel_rfl⟩, tot, hB1, hB2, hs⟩
 replace hs := of_if_f hs h3
 refine CP.exit ?_
 refine NX.then_e ?_
 refine NX.then_e ?_
 refine NX.block_s ?_
 refine NX.then_n ?_
 refine CP.seqR ?_
 refine WP.loadB (v := AG [[.int .u64 x9], [.int .u64 x10], [.int .u64 x11], [.int .u64 x12]]) hB1 (by kernel_rfl) (by kernel_rfl) ?_
 refine WP.storeB (ty := 146) (off := 0) (v := AG [[.int .u64 x9], [.int .u64 x10], [.int .u64 x11], [.int .u64 x12]]) hB2 [[.int .u64 x9], [.int .u64 x10], [.int .u64 x11], [.int .u64 x12]] [1, 1, 1, 1] (by kernel_rfl) (by kernel_rfl) rfl (by kernel_rfl) [[.int .u64 x9], [.int .u64 x10], [.int .u64 x11], [.int .u64 x12]] (by kernel_rfl) (.one rfl (.one rfl (.one rfl (.one rfl .nil)))) ?_
 intro g41 st41 hB29
 replace hB1 := hB1.mono st41 (WL.no1 (by omega))
 replace tot := tot.trans (st41.up1 (.inr (by omega)))
 clear hB2
 have hB2 := hB29
 clear hB29
 refine WP.dn ?_
 refine NX.then_n ?_
 refine CP.ret ?_
 replace hs := Option.some.inj hs
 simp only [Prod.mk.injEq] at hs
 obtain ⟨rfl, rfl, rfl, rfl⟩ := hs
 exact NX.fin (v := AG [[.int .u64 x9], [.int .u64 x10], [.int .u64 x11], [.int .u64 x12]]) (Res.one rfl (RV.box (agg := true) (size := 4) (rs := [[.int .u64 x9], [.int .u64 x10], [.int .u64 x11], [.int .u64 x12]]) hB2 (by kernel_rfl) (by kernel_rfl) (by kernel_rfl) (by kernel_rfl))) tot htL rfl
def F.baizeref02_In (x1 : Int) (x2 : Int) (x3 : Int) (x4 : Int) (x5 : Int) : Option (Int × Int × Int × Int) := ((F.baizeref02_Stir (bitXor .u64 x1 x5) x2 x3 x4).bind fun (x6, x7, x8, x9) => (some (x6, x7, x8, x9)))
theorem P.baizeref02_In (g0 : GW) (x1 : Int) (x2 : Int) (x3 : Int) (x4 : Int) (x5 : Int) (o1 : Int) (o2 : Int) (o3 : Int) (o4 : Int) (hs : F.baizeref02_In x1 x2 x3 x4 x5 = some (o1, o2, o3, o4)) :
  Calls Try.prog 105 #[AG [[.int .u64 x1], [.int .u64 x2], [.int .u64 x3], [.int .u64 x4]], .int .u64 x5] g0.w (Ret NoM g0 fun v g => v = AG [[.int .u64 o1], [.int .u64 o2], [.int .u64 o3], [.int .u64 o4]]) := by
 refine calls_of (args := [AG [[.int .u64 x1], [.int .u64 x2], [.int .u64 x3], [.int .u64 x4]], .int .u64 x5]) Try.func105 rfl (0) ?_
 intro t ht htL
 refine ⟨_, rfl, ?_⟩
 refine CP.refr 12 [(0, AG [[.int .u64 x1], [.int .u64 x2], [.int .u64 x3], [.int .u64 x4]]), (1, .int .u64 x5)] (by kernel_rfl) (by kernel_rfl) ?_
 intro ds
 have tot : Step (fun l => NoM l ∨ t ≤ l) g0 g0 := Step.refl _ _
 unfold F.baizeref02_In at hs
 refine CP.seqR ?_
 refine WP.alloc (T := 146) (t + 1) [[.int .u64 x1], [.int .u64 x2], [.int .u64 x3], [.int .u64 x4]] [1, 1, 1, 1] (by kernel_rfl) rfl ?_
 intro g1 b1 st1 hB1
 replace tot := tot.trans st1.pure
 refine WP.alloc (T := 146) (t + 2) [[.int .u64 0], [.int .u64 0], [.int .u64 0], [.int .u64 0]] [1, 1, 1, 1] (by kernel_rfl) rfl ?_
 intro g2 b2 st2 hB2
 replace hB1 := hB1.mono st2 (fun x => x)
 replace tot := tot.trans st2.pure
 refine WP.dn ?_
 refine NX.then_n ?_
 refine CP.seqR ?_
 refine WP.stl 1 ?_
 refine WP.loadB (v := .int .u64 x1) hB1 (by kernel_rfl) (by kernel_rfl) ?_
 refine WP.stl 3 ?_
 refine WP.storeB (ty := 116) (off := 0) (v := .int .u64 (bitXor .u64 x1 x5)) hB1 [[.int .u64 (bitXor .u64 x1 x5)]] [1] (by kernel_rfl) (by kernel_rfl) rfl (by kernel_rfl) [[.int .u64 (bitXor .u64 x1 x5)], [.int .u64 x2], [.int .u64 x3], [.int .u64 x4]] (by kernel_rfl) (.one rfl .nil) ?_
 intro g3 st3 hB3
 replace hB2 := hB2.mono st3 (WL.no1 (by omega))
 replace tot := tot.trans (st3.up1 (.inr (by omega)))
 clear hB1
 have hB1 := hB3
 clear hB3
 refine WP.dn ?_
 refine NX.then_n ?_
 refine CP.seqR ?_
 refine WP.loadB (v := AG [[.int .u64 (bitXor .u64 x1 x5)], [.int .u64 x2], [.int .u64 x3], [.int .u64 x4]]) hB1 (by kernel_rfl) (by kernel_rfl) ?_
 replace hs := Option.bind_eq_some_iff.1 hs
 obtain ⟨⟨x6, x7, x8, x9⟩, hk1, hs⟩ := hs
 dsimp only at hs
 have hcal1 := P.baizeref02_Stir g3 (bitXor .u64 x1 x5) x2 x3 x4 x6 x7 x8 x9 hk1
 refine WP.callC hcal1 (by kernel_rfl) ?_
 rintro _ g4 st4 rfl
 replace hB1 := hB1.mono st4 (fun x => x)
 replace hB2 := hB2.mono st4 (fun x => x)
 replace tot := tot.trans st4.pure
 refine WP.storeB (ty := 146) (off := 0) (v := AG [[.int .u64 x6], [.int .u64 x7], [.int .u64 x8], [.int .u64 x9]]) hB2 [[.int .u64 x6], [.int .u64 x7], [.int .u64 x8], [.int .u64 x9]] [1, 1, 1, 1] (by kernel_rfl) (by kernel_rfl) rfl (by kernel_rfl) [[.int .u64 x6], [.int .u64 x7], [.int .u64 x8], [.int .u64 x9]] (by kernel_rfl) (.one rfl (.one rfl (.one rfl (.one rfl .nil)))) ?_
 intro g5 st5 hB4
 replace hB1 := hB1.mono st5 (WL.no1 (by omega))
 replace tot := tot.trans (st5.up1 (.inr (by omega)))
 clear hB2
 have hB2 := hB4
 clear hB4
 refine WP.dn ?_
 refine NX.then_n ?_
 refine CP.ret ?_
 replace hs := Option.some.inj hs
 simp only [Prod.mk.injEq] at hs
 obtain ⟨rfl, rfl, rfl, rfl⟩ := hs
 exact NX.fin (v := AG [[.int .u64 x6], [.int .u64 x7], [.int .u64 x8], [.int .u64 x9]]) (Res.one rfl (RV.box (agg := true) (size := 4) (rs := [[.int .u64 x6], [.int .u64 x7], [.int .u64 x8], [.int .u64 x9]]) hB2 (by kernel_rfl) (by kernel_rfl) (by kernel_rfl) (by kernel_rfl))) tot htL rfl
def F.baizeref02_Bytes.l3 (nx2 : Int → Int → Int → Int → Int → Option (Int × Int × Int × Int)) (l2 : List Int) (x105 : Int) (x106 : Int) (x107 : Int) (x108 : Int) (x109 : Int) : Nat → (Arr Int 8) → Int → Option (Int × Int × Int × Int)
 | 0, _, _ => none
 | k + 1, d13, x136 => (if decide (x136 < 8) = true then (if (0 : Int) ≤ (IntKind.i64.wrap (x109 + x136)) ∧ (IntKind.i64.wrap (x109 + x136)) < (l2.length : Int) then (if (0 : Int) ≤ x136 ∧ x136 < (8 : Int) then (F.baizeref02_Bytes.l3 nx2 l2 x105 x106 x107 x108 x109 k (aset d13 x136 (getI l2 (IntKind.i64.wrap (x109 + x136)))) (IntKind.i64.wrap (x136 + 1))) else none) else none) else ((F.baizeref02_Num d13).bind fun x143 => ((F.baizeref02_In x105 x106 x107 x108 x143).bind fun (x144, x145, x146, x147) => (nx2 x144 x145 x146 x147 (IntKind.i64.wrap (x109 + 8))))))
def F.baizeref02_Bytes.l2 (l1 : List Int) (l2 : List Int) : Nat → Int → Int → Int → Int → Int → Option (Int × Int × Int × Int)
 | 0, _, _, _, _, _ => none
 | k + 1, x105, x106, x107, x108, x109 => (if decide (x109 < (l2.length : Int)) = true then (F.baizeref02_Bytes.l3 (F.baizeref02_Bytes.l2 l1 l2 k) l2 x105 x106 x107 x108 x109 fuel (zA 8) 0) else ((F.baizeref02_In x105 x106 x107 x108 (IntKind.u64.wrap (l1.length : Int))).bind fun (x148, x149, x150, x151) => (some (x148, x149, x150, x151))))
def F.baizeref02_Bytes.l1 (x1 : Int) (x2 : Int) (x3 : Int) (x4 : Int) (l1 : List Int) : Nat → (List Int) → Option (Int × Int × Int × Int)
 | 0, _ => none
 | k + 1, l2 => (if (((l2.length : Int).tmod 8) != 0) = true then (if l2.length + ([0]).length ≤ 140737488355328 then (F.baizeref02_Bytes.l1 x1 x2 x3 x4 l1 k (l2 ++ [0])) else none) else (F.baizeref02_Bytes.l2 l1 l2 fuel x1 x2 x3 x4 0))
def F.baizeref02_Bytes (x1 : Int) (x2 : Int) (x3 : Int) (x4 : Int) (l1 : List Int) : Option (Int × Int × Int × Int) := (if ([] : List Int).length + l1.length ≤ 140737488355328 then (if (([] : List Int) ++ l1).length + ([1]).length ≤ 140737488355328 then (F.baizeref02_Bytes.l1 x1 x2 x3 x4 l1 fuel ((([] : List Int) ++ l1) ++ [1])) else none) else none)
theorem P.baizeref02_Bytes (g0 : GW) (x1 : Int) (x2 : Int) (x3 : Int) (x4 : Int) (l1 : List Int) (a1 : Option Addr) (n1 : Nat) (c1 : Nat) (hR1 : RdS (Kd.int .u8) g0 5 a1 n1 c1 l1) (o1 : Int) (o2 : Int) (o3 : Int) (o4 : Int) (hs : F.baizeref02_Bytes x1 x2 x3 x4 l1 = some (o1, o2, o3, o4)) :
  Calls Try.prog 88 #[AG [[.int .u64 x1], [.int .u64 x2], [.int .u64 x3], [.int .u64 x4]], .slice a1 n1 c1] g0.w (Ret NoM g0 fun v g => v = AG [[.int .u64 o1], [.int .u64 o2], [.int .u64 o3], [.int .u64 o4]]) := by
 refine calls_of (args := [AG [[.int .u64 x1], [.int .u64 x2], [.int .u64 x3], [.int .u64 x4]], .slice a1 n1 c1]) Try.func88 rfl (0) ?_
 intro t ht htL
 refine ⟨_, rfl, ?_⟩
 refine CP.refr 49 [(0, AG [[.int .u64 x1], [.int .u64 x2], [.int .u64 x3], [.int .u64 x4]]), (1, .slice a1 n1 c1)] (by kernel_rfl) (by kernel_rfl) ?_
 intro ds
 have tot : Step (fun l => NoM l ∨ t ≤ l) g0 g0 := Step.refl _ _
 unfold F.baizeref02_Bytes at hs
 refine CP.seqR ?_
 refine WP.alloc (T := 146) (t + 1) [[.int .u64 x1], [.int .u64 x2], [.int .u64 x3], [.int .u64 x4]] [1, 1, 1, 1] (by kernel_rfl) rfl ?_
 intro g1 b1 st1 hB1
 replace hR1 := hR1.mono st1 (fun x => x)
 replace tot := tot.trans st1.pure
 refine WP.alloc (T := 146) (t + 2) [[.int .u64 0], [.int .u64 0], [.int .u64 0], [.int .u64 0]] [1, 1, 1, 1] (by kernel_rfl) rfl ?_
 intro g2 b2 st2 hB2
 replace hR1 := hR1.mono st2 (fun x => x)
 replace hB1 := hB1.mono st2 (fun x => x)
 replace tot := tot.trans st2.pure
 refine WP.dn ?_
 refine NX.then_n ?_
 refine CP.seqR ?_
 refine WP.mkSl (kd := (Kd.int .u8)) (t := 64) (e := 5) (bytes := 1) (t + 3) [] ([] : List Int) (by kernel_rfl) (by kernel_rfl) (Nat.le_of_ble_eq_true rfl) (Nat.le_of_ble_eq_true rfl) all_nil (rfl) rfl ?_
 intro g3 a2 st3 hR2
 replace hR1 := hR1.mono st3 (fun x => x)
 replace hB1 := hB1.mono st3 (fun x => x)
 replace hB2 := hB2.mono st3 (fun x => x)
 replace tot := tot.trans st3.pure
 refine WP.stl 1 ?_
 by_cases hc1 : ([] : List Int).length + l1.length ≤ 140737488355328
 case neg => rw [if_neg hc1] at hs; cases hs
 replace hs := of_if_p hs hc1
 refine WP.append (kd := (Kd.int .u8)) (t := 64) (e := 5) (bytes := 1) (a2 := a1) (c2 := c1) hR2 hR1.src hR1.len (by kernel_rfl) (by kernel_rfl) (by omega) (by simp only [maxLen]; omega) (by omega) ?_
 intro g4 a3 c2 st4 hR3
 replace hR1 := hR1.mono st4 (WL.no1 (by omega))
 replace hB1 := hB1.mono st4 (WL.no1 (by omega))
 replace hB2 := hB2.mono st4 (WL.no1 (by omega))
 replace tot := tot.trans (st4.up1 (.inr (by omega)))
 refine WP.mkSl (kd := (Kd.int .u8)) (t := 64) (e := 5) (bytes := 1) (t + 4) [.int .u8 1] [1] (by kernel_rfl) (by kernel_rfl) (Nat.le_of_ble_eq_true rfl) (Nat.le_of_ble_eq_true rfl) (all_cons rfl all_nil) (⟨_, _, rfl, (by exact rfl), rfl⟩) rfl ?_
 intro g5 a4 st5 hR4
 replace hR1 := hR1.mono st5 (fun x => x)
 replace hB1 := hB1.mono st5 (fun x => x)
 replace hB2 := hB2.mono st5 (fun x => x)
 replace hR3 := hR3.mono st5 (fun x => x) (fun x => x)
 replace tot := tot.trans st5.pure
 by_cases hc2 : (([] : List Int) ++ l1).length + ([1]).length ≤ 140737488355328
 case neg => rw [if_neg hc2] at hs; cases hs
 replace hs := of_if_p hs hc2
 refine WP.append (kd := (Kd.int .u8)) (t := 64) (e := 5) (bytes := 1) (a2 := a4) (c2 := 1) hR3 hR4.src hR4.len (by kernel_rfl) (by kernel_rfl) (by omega) (by simp only [maxLen]; omega) (by omega) ?_
 intro g6 a5 c3 st6 hR5
 replace hR1 := hR1.mono st6 (WL.no1 (by omega))
 replace hB1 := hB1.mono st6 (WL.no1 (by omega))
 replace hB2 := hB2.mono st6 (WL.no1 (by omega))
 replace hR4 := hR4.mono st6 (WL.no1 (by omega)) (WL.no1 (by omega))
 replace tot := tot.trans (st6.up1 (.inr (by omega)))
 refine WP.stl 1 ?_
 refine WP.dn ?_
 refine NX.then_n ?_
 refine CP.seq ?_
 refine CP.block ?_
 generalize fuel = k1 at hs
 refine CP.loop (fun k1 tm g => ∃ (l2 : List Int) (a8 : Option Addr) (n2 : Nat) (c5 : Nat), Fr 49 [(1, .slice a1 n1 c1), (2, .pointer (some ⟨b1, 0, none⟩)), (4, .pointer (some ⟨b2, 0, none⟩)), (5, .slice a8 n2 c5)] tm ∧ Step (fun l => NoM l ∨ t ≤ l) g0 g ∧ RdS (Kd.int .u8) g 5 a1 n1 c1 l1 ∧ Box g (t + 1) b1 146 [[.int .u64 x1], [.int .u64 x2], [.int .u64 x3], [.int .u64 x4]] [1, 1, 1, 1] ∧ Box g (t + 2) b2 146 [[.int .u64 0], [.int .u64 0], [.int .u64 0], [.int .u64 0]] [1, 1, 1, 1] ∧ OwnS (Kd.int .u8) g (t + 3) 5 a8 n2 c5 l2 ∧ F.baizeref02_Bytes.l1 x1 x2 x3 x4 l1 k1 l2 = some (o1, o2, o3, o4)) k1 ?_ ?_ ?_
 ·exact ⟨((([] : List Int) ++ l1) ++ [1]), a5, ((0 + n1) + 1), c3, ⟨by kernel_rfl, by kernel_rfl⟩, tot, hR1, hB1, hB2, hR5, hs⟩
 ·rintro tm g ⟨l2, a8, n2, c5, hF, tot, hR1, hB1, hB2, hR8, hs⟩
  exact absurd hs (by simp [F.baizeref02_Bytes.l1])
 clear tot hs hR1 hB1 hB2 hR5
 rintro k1 tm g ⟨l2, a8, n2, c5, hF, tot, hR1, hB1, hB2, hR8, hs⟩
 clear ds
 obtain ⟨ds, rfl⟩ := hF.open
 clear hF
 unfold F.baizeref02_Bytes.l1 at hs
 refine CP.seq ?_
 refine CP.seqR ?_
 refine WP.stl 1 ?_
 refine WP.len (a := a8) (cp := c5) hR8.len (by kernel_rfl) ?_
 refine WP.stl 2 ?_
 refine WP.dn ?_
 refine NX.then_n ?_
 refine CP.cond (b := (((l2.length : Int).tmod 8) != 0)) (by kernel_rfl) (fun h15 => ?_) (fun h15 => ?_)
 ·replace hs := of_if_t hs h15
  refine CP.skip ?_
  refine NX.then_n ?_
  refine CP.block ?_
  refine CP.region ?_
  refine WP.stl 1 ?_
  refine WP.mkSl (kd := (Kd.int .u8)) (t := 64) (e := 5) (bytes := 1) (t + 11) [.int .u8 0] [0] (by kernel_rfl) (by kernel_rfl) (Nat.le_of_ble_eq_true rfl) (Nat.le_of_ble_eq_true rfl) (all_cons rfl all_nil) (⟨_, _, rfl, (by exact rfl), rfl⟩) rfl ?_
  intro g59 a12 st59 hR12
  replace hR1 := hR1.mono st59 (fun x => x)
  replace hB1 := hB1.mono st59 (fun x => x)
  replace hB2 := hB2.mono st59 (fun x => x)
  replace hR8 := hR8.mono st59 (fun x => x) (fun x => x)
  replace tot := tot.trans st59.pure
  by_cases hc17 : l2.length + ([0]).length ≤ 140737488355328
  case neg => rw [if_neg hc17] at hs; cases hs
  replace hs := of_if_p hs hc17
  refine WP.append (kd := (Kd.int .u8)) (t := 64) (e := 5) (bytes := 1) (a2 := a12) (c2 := 1) hR8 hR12.src hR12.len (by kernel_rfl) (by kernel_rfl) (by omega) (by simp only [maxLen]; omega) (by omega) ?_
  intro g60 a13 c8 st60 hR13
  replace hR1 := hR1.mono st60 (WL.no1 (by omega))
  replace hB1 := hB1.mono st60 (WL.no1 (by omega))
  replace hB2 := hB2.mono st60 (WL.no1 (by omega))
  replace hR12 := hR12.mono st60 (WL.no1 (by omega)) (WL.no1 (by omega))
  replace tot := tot.trans (st60.up1 (.inr (by omega)))
  refine WP.stl 1 ?_
  refine WP.dn ?_
  refine NX.block_n ?_
  refine NX.post ?_
  exact ⟨(l2 ++ [0]), a13, (n2 + 1), c8, ⟨by kernel_rfl, by kernel_rfl⟩, tot, hR1, hB1, hB2, hR13, hs⟩
 replace hs := of_if_f hs h15
 refine CP.exit ?_
 refine NX.then_e ?_
 refine NX.then_e ?_
 refine NX.block_s ?_
 refine NX.then_n ?_
 refine CP.seq ?_
 refine CP.seqR ?_
 refine WP.stl 1 ?_
 refine WP.dn ?_
 refine NX.then_n ?_
 refine CP.block ?_
 generalize fuel = k2 at hs
 refine CP.loop (fun k2 tm g => ∃ (x105 : Int) (x106 : Int) (x107 : Int) (x108 : Int) (x109 : Int), Fr 49 [(1, .slice a1 n1 c1), (2, .pointer (some ⟨b1, 0, none⟩)), (4, .pointer (some ⟨b2, 0, none⟩)), (5, .slice a8 n2 c5), (6, .int .i64 x109)] tm ∧ Step (fun l => NoM l ∨ t ≤ l) g0 g ∧ RdS (Kd.int .u8) g 5 a1 n1 c1 l1 ∧ Box g (t + 1) b1 146 [[.int .u64 x105], [.int .u64 x106], [.int .u64 x107], [.int .u64 x108]] [1, 1, 1, 1] ∧ Box g (t + 2) b2 146 [[.int .u64 0], [.int .u64 0], [.int .u64 0], [.int .u64 0]] [1, 1, 1, 1] ∧ OwnS (Kd.int .u8) g (t + 3) 5 a8 n2 c5 l2 ∧ F.baizeref02_Bytes.l2 l1 l2 k2 x105 x106 x107 x108 x109 = some (o1, o2, o3, o4)) k2 ?_ ?_ ?_
 ·exact ⟨x1, x2, x3, x4, 0, ⟨by kernel_rfl, by kernel_rfl⟩, tot, hR1, hB1, hB2, hR8, hs⟩
 ·rintro tm g ⟨x105, x106, x107, x108, x109, hF, tot, hR1, hB1, hB2, hR8, hs⟩
  exact absurd hs (by simp [F.baizeref02_Bytes.l2])
 clear tot hs hR1 hB1 hB2 hR8
 rintro k2 tm g ⟨x105, x106, x107, x108, x109, hF, tot, hR1, hB1, hB2, hR8, hs⟩
 clear ds
 obtain ⟨ds, rfl⟩ := hF.open
 clear hF
 unfold F.baizeref02_Bytes.l2 at hs
 refine CP.seq ?_
 refine CP.seqR ?_
 refine WP.stl 2 ?_
 refine WP.len (a := a8) (cp := c5) hR8.len (by kernel_rfl) ?_
 refine WP.stl 1 ?_
 refine WP.dn ?_
 refine NX.then_n ?_
 refine CP.cond (b := decide (x109 < (l2.length : Int))) (by kernel_rfl) (fun h22 => ?_) (fun h22 => ?_)
 ·replace hs := of_if_t hs h22
  refine CP.skip ?_
  refine NX.then_n ?_
  refine CP.seq ?_
  refine CP.block ?_
  refine CP.seqR ?_
  refine WP.stl 1 ?_
  refine WP.alloc (T := 22) (t + 14) [encA .u8 (zA 8)] [8] (by kernel_rfl) (by simp [len_encA]) ?_
  intro g85 b21 st85 hB45
  replace hR1 := hR1.mono st85 (fun x => x)
  replace hB1 := hB1.mono st85 (fun x => x)
  replace hB2 := hB2.mono st85 (fun x => x)
  replace hR8 := hR8.mono st85 (fun x => x) (fun x => x)
  replace tot := tot.trans st85.pure
  refine WP.storeB (ty := 22) (off := 0) (v := AG [encA .u8 (zA 8)]) hB45 [encA .u8 (zA 8)] [8] (by kernel_rfl) (by kernel_rfl) (by simp [len_encA]) (by kernel_rfl) [encA .u8 (zA 8)] (by kernel_rfl) (.arr .nil) ?_
  intro g86 st86 hB46
  replace hR1 := hR1.mono st86 (WL.no1 (by omega))
  replace hB1 := hB1.mono st86 (WL.no1 (by omega))
  replace hB2 := hB2.mono st86 (WL.no1 (by omega))
  replace hR8 := hR8.mono st86 (WL.no1 (by omega)) (WL.no1 (by omega))
  replace tot := tot.trans (st86.up1 (.inr (by omega)))
  clear hB45
  have hB45 := hB46
  clear hB46
  refine WP.dn ?_
  refine NX.then_n ?_
  refine CP.seq ?_
  refine CP.seqR ?_
  refine WP.stl 1 ?_
  refine WP.dn ?_
  refine NX.then_n ?_
  refine CP.block ?_
  generalize fuel = k3 at hs
  refine CP.loop (fun k3 tm g => ∃ (d13 : Arr Int 8) (x136 : Int), Fr 49 [(1, .slice a1 n1 c1), (2, .pointer (some ⟨b1, 0, none⟩)), (4, .pointer (some ⟨b2, 0, none⟩)), (5, .slice a8 n2 c5), (6, .int .i64 x109), (7, .pointer (some ⟨b21, 0, none⟩)), (8, .int .i64 x136)] tm ∧ Step (fun l => NoM l ∨ t ≤ l) g0 g ∧ RdS (Kd.int .u8) g 5 a1 n1 c1 l1 ∧ Box g (t + 1) b1 146 [[.int .u64 x105], [.int .u64 x106], [.int .u64 x107], [.int .u64 x108]] [1, 1, 1, 1] ∧ Box g (t + 2) b2 146 [[.int .u64 0], [.int .u64 0], [.int .u64 0], [.int .u64 0]] [1, 1, 1, 1] ∧ OwnS (Kd.int .u8) g (t + 3) 5 a8 n2 c5 l2 ∧ Box g (t + 14) b21 22 [encA .u8 d13] [8] ∧ F.baizeref02_Bytes.l3 (F.baizeref02_Bytes.l2 l1 l2 k2) l2 x105 x106 x107 x108 x109 k3 d13 x136 = some (o1, o2, o3, o4)) k3 ?_ ?_ ?_
  ·exact ⟨(zA 8), 0, ⟨by kernel_rfl, by kernel_rfl⟩, tot, hR1, hB1, hB2, hR8, hB45, hs⟩
  ·rintro tm g ⟨d13, x136, hF, tot, hR1, hB1, hB2, hR8, hB45, hs⟩
   exact absurd hs (by simp [F.baizeref02_Bytes.l3])
  clear tot hs hR1 hB1 hB2 hR8 hB45
  rintro k3 tm g ⟨d13, x136, hF, tot, hR1, hB1, hB2, hR8, hB45, hs⟩
  clear ds
  obtain ⟨ds, rfl⟩ := hF.open
  clear hF
  unfold F.baizeref02_Bytes.l3 at hs
  refine CP.seq ?_
  refine CP.seqR ?_
  refine WP.stl 2 ?_
  refine WP.dn ?_
  refine NX.then_n ?_
  refine CP.cond (b := decide (x136 < 8)) (by kernel_rfl) (fun h25 => ?_) (fun h25 => ?_)
  ·replace hs := of_if_t hs h25
   refine CP.skip ?_
   refine NX.then_n ?_
   refine CP.seq ?_
   refine CP.block ?_
   refine CP.region ?_
   refine WP.stl 5 ?_
   by_cases hc27 : (0 : Int) ≤ (IntKind.i64.wrap (x109 + x136)) ∧ (IntKind.i64.wrap (x109 + x136)) < (l2.length : Int)
   case neg => rw [if_neg hc27] at hs; cases hs
   replace hs := of_if_p hs hc27
   obtain ⟨b24, u15, ha15⟩ := hR8.at hc27
   refine WP.indexA (t := 64) (e := 5) (sz := 1) (cap := c5) (k := .i64) (i := (IntKind.i64.wrap (x109 + x136))) hR8.len ha15 (by kernel_rfl) (by kernel_rfl) hc27 ?_
   obtain ⟨cs15, hcR15, hcV15⟩ := hR8.src.view (getI_some hc27) ha15
   replace hcR15 := Kd.o_int hcR15
   refine WP.loadV [[.int .u8 (getI l2 (IntKind.i64.wrap (x109 + x136)))]] [1] hcV15 hcR15 rfl (f := 0) (ty := 5) (agg := false) (size := 1) (rs := [[.int .u8 (getI l2 (IntKind.i64.wrap (x109 + x136)))]]) (v := .int .u8 (getI l2 (IntKind.i64.wrap (x109 + x136)))) (by kernel_rfl) (by kernel_rfl) (by kernel_rfl) (by kernel_rfl) ?_
   by_cases hc28 : (0 : Int) ≤ x136 ∧ x136 < (8 : Int)
   case neg => rw [if_neg hc28] at hs; cases hs
   replace hs := of_if_p hs hc28
   refine WP.ixBox (t := 22) (e := 5) (m := 8) (size := 1) (b := b21) (off := 0) (k := .i64) (i := x136) (by kernel_rfl) (by kernel_rfl) hc28 ?_
   refine WP.storeE (ty := 5) (o := 0) (m := 8) (k := .u8) (d := d13) (i := x136) (x := (getI l2 (IntKind.i64.wrap (x109 + x136)))) hB45 (by kernel_rfl) hc28 (by kernel_rfl) (by kernel_rfl) [encA .u8 (aset d13 x136 (getI l2 (IntKind.i64.wrap (x109 + x136))))] (by kernel_rfl) ?_
   intro g95 st95 hB51
   replace hR1 := hR1.mono st95 (WL.no1 (by omega))
   replace hB1 := hB1.mono st95 (WL.no1 (by omega))
   replace hB2 := hB2.mono st95 (WL.no1 (by omega))
   replace hR8 := hR8.mono st95 (WL.no1 (by omega)) (WL.no1 (by omega))
   replace tot := tot.trans (st95.up1 (.inr (by omega)))
   clear hB45
   have hB45 := hB51
   clear hB51
   refine WP.dn ?_
   refine NX.block_n ?_
   refine NX.then_n ?_
   refine CP.region ?_
   refine WP.stl 3 ?_
   refine WP.dn ?_
   refine NX.post ?_
   exact ⟨(aset d13 x136 (getI l2 (IntKind.i64.wrap (x109 + x136)))), (IntKind.i64.wrap (x136 + 1)), ⟨by kernel_rfl, by kernel_rfl⟩, tot, hR1, hB1, hB2, hR8, hB45, hs⟩
  replace hs := of_if_f hs h25
  refine CP.exit ?_
  refine NX.then_e ?_
  refine NX.then_e ?_
  refine NX.block_s ?_
  refine NX.then_n ?_
  replace hs := Option.bind_eq_some_iff.1 hs
  obtain ⟨x143, hk35, hs⟩ := hs
  replace hs := Option.bind_eq_some_iff.1 hs
  obtain ⟨⟨x144, x145, x146, x147⟩, hk36, hs⟩ := hs
  dsimp only at hs
  refine CP.drawL (by kernel_rfl) [0, 1, 2, 3, 4] [[], [], [1], [0, 1, 2], [0, 1, 2, 3]] [⟨none, [0], [], fun l g => Box g (t + 1) b1 146 [[.int .u64 x105], [.int .u64 x106], [.int .u64 x107], [.int .u64 x108]] [1, 1, 1, 1]⟩, ⟨none, [], [], fun l g => Box g (t + 14) b21 22 [encA .u8 d13] [8]⟩, ⟨some 0, [], [0], fun l g => l.getD 0 undef = AG [[.int .u64 x105], [.int .u64 x106], [.int .u64 x107], [.int .u64 x108]]⟩, ⟨some 1, [], [1], fun l g => l.getD 0 undef = AG [encA .u8 d13]⟩, ⟨some 2, [], [2], fun l g => l.getD 0 undef = .int .u64 x143⟩, ⟨some 3, [], [3], fun l g => l.getD 0 undef = AG [[.int .u64 x144], [.int .u64 x145], [.int .u64 x146], [.int .u64 x147]]⟩, ⟨some 4, [0], [], fun l g => Box g (t + 1) b1 146 [[.int .u64 x144], [.int .u64 x145], [.int .u64 x146], [.int .u64 x147]] [1, 1, 1, 1]⟩] [[], [], [], [], [0]] [(t + 1)] [] [] (by kernel_rfl) (by simp <;> omega) (by simp) ⟨fun _ _ _ _ st h0 hl hj hB1 => (hB1.mono st (hj 0 (by simp) _ rfl)), fun _ _ _ _ st h0 hl hj hB45 => (hB45.mono st (fun h => absurd (hl _ h) (by simp <;> omega))), fun _ _ _ _ st h0 hl hj e0 => e0, fun _ _ _ _ st h0 hl hj e1 => e1, fun _ _ _ _ st h0 hl hj e2 => e2, fun _ _ _ _ st h0 hl hj e3 => e3, fun _ _ _ _ st h0 hl hj hB1 => (hB1.mono st (hj 0 (by simp) _ rfl)), tv⟩ ⟨hB1, hB45, tv, tv, tv, tv, tv, tv⟩ (by kernel_rfl) (fun vs => by kernel_rfl) ?_ ?_ ?_
  ·intro j hj; exact absurd hj (by simp)
  ·intro j hj
   have hq : j = 0 ∨ j = 1 ∨ j = 2 ∨ j = 3 ∨ j = 4 := by have h : j < 5 := hj; omega
   rcases hq with rfl | rfl | rfl | rfl | rfl
   ·intro vs gq stq hl hf
    obtain ⟨v0, v1, v2, v3, v4, rfl⟩ := len_k5 hl
    have hB1 := (show Box gq (t + 1) b1 146 [[.int .u64 x105], [.int .u64 x106], [.int .u64 x107], [.int .u64 x108]] [1, 1, 1, 1] from hf _ (memI 0 rfl) (by kernel_rfl))
    refine WP.loadB (v := AG [[.int .u64 x105], [.int .u64 x106], [.int .u64 x107], [.int .u64 x108]]) hB1 (by kernel_rfl) (by kernel_rfl) ?_
    refine WP.dn (Shown.ok (v := AG [[.int .u64 x105], [.int .u64 x106], [.int .u64 x107], [.int .u64 x108]]) (by kernel_rfl) (Step.refl _ _) ?_)
    exact ⟨tv, tv, rfl, tv, tv, tv, tv, tv⟩
   ·intro vs gq stq hl hf
    obtain ⟨v0, v1, v2, v3, v4, rfl⟩ := len_k5 hl
    have hB45 := (show Box gq (t + 14) b21 22 [encA .u8 d13] [8] from hf _ (memI 1 rfl) (by kernel_rfl))
    refine WP.loadB (v := AG [encA .u8 d13]) hB45 (by kernel_rfl) (by kernel_rfl) ?_
    refine WP.dn (Shown.ok (v := AG [encA .u8 d13]) (by kernel_rfl) (Step.refl _ _) ?_)
    exact ⟨tv, tv, tv, rfl, tv, tv, tv, tv⟩
   ·intro vs gq stq hl hf
    obtain ⟨v0, v1, v2, v3, v4, rfl⟩ := len_k5 hl
    have e1 := (show v1 = AG [encA .u8 d13] from hf _ (memI 3 rfl) (by kernel_rfl))
    subst e1
    have hcal35 := P.baizeref02_Num gq d13 x143 hk35
    refine WP.callC hcal35 (by kernel_rfl) ?_
    rintro _ g96 st96 rfl
    refine WP.dn (Shown.o (v := .int .u64 x143) st96.pure ?_)
    exact ⟨tv, tv, tv, tv, rfl, tv, tv, tv⟩
   ·intro vs gq stq hl hf
    obtain ⟨v0, v1, v2, v3, v4, rfl⟩ := len_k5 hl
    have e0 := (show v0 = AG [[.int .u64 x105], [.int .u64 x106], [.int .u64 x107], [.int .u64 x108]] from hf _ (memI 2 rfl) (by kernel_rfl))
    subst e0
    have e2 := (show v2 = .int .u64 x143 from hf _ (memI 4 rfl) (by kernel_rfl))
    subst e2
    have hcal36 := P.baizeref02_In gq x105 x106 x107 x108 x143 x144 x145 x146 x147 hk36
    refine WP.callC hcal36 (by kernel_rfl) ?_
    rintro _ g97 st97 rfl
    refine WP.dn (Shown.o (v := AG [[.int .u64 x144], [.int .u64 x145], [.int .u64 x146], [.int .u64 x147]]) st97.pure ?_)
    exact ⟨tv, tv, tv, tv, tv, rfl, tv, tv⟩
   ·intro vs gq stq hl hf
    obtain ⟨v0, v1, v2, v3, v4, rfl⟩ := len_k5 hl
    have hB1 := (show Box gq (t + 1) b1 146 [[.int .u64 x105], [.int .u64 x106], [.int .u64 x107], [.int .u64 x108]] [1, 1, 1, 1] from hf _ (memI 0 rfl) (by kernel_rfl))
    have e3 := (show v3 = AG [[.int .u64 x144], [.int .u64 x145], [.int .u64 x146], [.int .u64 x147]] from hf _ (memI 5 rfl) (by kernel_rfl))
    subst e3
    refine WP.storeB (ty := 146) (off := 0) (v := AG [[.int .u64 x144], [.int .u64 x145], [.int .u64 x146], [.int .u64 x147]]) hB1 [[.int .u64 x144], [.int .u64 x145], [.int .u64 x146], [.int .u64 x147]] [1, 1, 1, 1] (by kernel_rfl) (by kernel_rfl) rfl (by kernel_rfl) [[.int .u64 x144], [.int .u64 x145], [.int .u64 x146], [.int .u64 x147]] (by kernel_rfl) (.one rfl (.one rfl (.one rfl (.one rfl .nil)))) ?_
    intro g98 st98 hB52
    refine WP.dn (Shown.o (v := undef) st98 ?_)
    exact ⟨tv, tv, tv, tv, tv, tv, hB52, tv⟩
  intro vs g99 st99 hl hf
  obtain ⟨v0, v1, v2, v3, v4, rfl⟩ := len_k5 hl
  have hB1 := (show Box g99 (t + 1) b1 146 [[.int .u64 x144], [.int .u64 x145], [.int .u64 x146], [.int .u64 x147]] [1, 1, 1, 1] from hf _ (memI 6 rfl) (by kernel_rfl))
  replace hR1 := hR1.mono st99 (WL.no1 (by omega))
  replace hB2 := hB2.mono st99 (WL.no1 (by omega))
  replace hR8 := hR8.mono st99 (WL.no1 (by omega)) (WL.no1 (by omega))
  replace tot := tot.trans (st99.up1 (.inr (by omega)))
  refine NX.block_n ?_
  refine NX.then_n ?_
  refine CP.refr 49 [(1, .slice a1 n1 c1), (2, .pointer (some ⟨b1, 0, none⟩)), (4, .pointer (some ⟨b2, 0, none⟩)), (5, .slice a8 n2 c5), (6, .int .i64 x109)] (by kernel_rfl) (by kernel_rfl) ?_
  clear ds
  intro ds
  refine CP.region ?_
  refine WP.stl 3 ?_
  refine WP.dn ?_
  refine NX.post ?_
  exact ⟨x144, x145, x146, x147, (IntKind.i64.wrap (x109 + 8)), ⟨by kernel_rfl, by kernel_rfl⟩, tot, hR1, hB1, hB2, hR8, hs⟩
 replace hs := of_if_f hs h22
 refine CP.exit ?_
 refine NX.then_e ?_
 refine NX.then_e ?_
 refine NX.block_s ?_
 refine NX.then_n ?_
 refine CP.seqR ?_
 refine WP.loadB (v := AG [[.int .u64 x105], [.int .u64 x106], [.int .u64 x107], [.int .u64 x108]]) hB1 (by kernel_rfl) (by kernel_rfl) ?_
 refine WP.stl 1 ?_
 refine WP.len (a := a1) (cp := c1) hR1.len (by kernel_rfl) ?_
 refine WP.stl 1 ?_
 replace hs := Option.bind_eq_some_iff.1 hs
 obtain ⟨⟨x148, x149, x150, x151⟩, hk37, hs⟩ := hs
 dsimp only at hs
 have hcal37 := P.baizeref02_In g x105 x106 x107 x108 (IntKind.u64.wrap (l1.length : Int)) x148 x149 x150 x151 hk37
 refine WP.callC hcal37 (by kernel_rfl) ?_
 rintro _ g100 st100 rfl
 replace hR1 := hR1.mono st100 (fun x => x)
 replace hB1 := hB1.mono st100 (fun x => x)
 replace hB2 := hB2.mono st100 (fun x => x)
 replace tot := tot.trans st100.pure
 refine WP.storeB (ty := 146) (off := 0) (v := AG [[.int .u64 x148], [.int .u64 x149], [.int .u64 x150], [.int .u64 x151]]) hB2 [[.int .u64 x148], [.int .u64 x149], [.int .u64 x150], [.int .u64 x151]] [1, 1, 1, 1] (by kernel_rfl) (by kernel_rfl) rfl (by kernel_rfl) [[.int .u64 x148], [.int .u64 x149], [.int .u64 x150], [.int .u64 x151]] (by kernel_rfl) (.one rfl (.one rfl (.one rfl (.one rfl .nil)))) ?_
 intro g101 st101 hB53
 replace hR1 := hR1.mono st101 (WL.no1 (by omega))
 replace hB1 := hB1.mono st101 (WL.no1 (by omega))
 replace tot := tot.trans (st101.up1 (.inr (by omega)))
 clear hB2
 have hB2 := hB53
 clear hB53
 refine WP.dn ?_
 refine NX.then_n ?_
 refine CP.ret ?_
 replace hs := Option.some.inj hs
 simp only [Prod.mk.injEq] at hs
 obtain ⟨rfl, rfl, rfl, rfl⟩ := hs
 exact NX.fin (v := AG [[.int .u64 x148], [.int .u64 x149], [.int .u64 x150], [.int .u64 x151]]) (Res.one rfl (RV.box (agg := true) (size := 4) (rs := [[.int .u64 x148], [.int .u64 x149], [.int .u64 x150], [.int .u64 x151]]) hB2 (by kernel_rfl) (by kernel_rfl) (by kernel_rfl) (by kernel_rfl))) tot htL rfl
def F.baizeref02_FromNum.l1 : Nat → Int → (Arr Int 8) → Int → Option ((Arr Int 8))
 | 0, _, _, _ => none
 | k + 1, x2, d1, x3 => (if decide (x3 < 8) = true then (if (0 : Int) ≤ x3 ∧ x3 < (8 : Int) then (F.baizeref02_FromNum.l1 k (IntKind.u64.wrap (x2.tdiv 256)) (aset d1 x3 (IntKind.u8.wrap (x2.tmod 256))) (IntKind.i64.wrap (x3 + 1))) else none) else (some d1))
def F.baizeref02_FromNum (x1 : Int) : Option ((Arr Int 8)) := (F.baizeref02_FromNum.l1 fuel x1 (zA 8) 0)
theorem P.baizeref02_FromNum (g0 : GW) (x1 : Int) (o1 : Arr Int 8) (hs : F.baizeref02_FromNum x1 = some o1) :
  Calls Try.prog 104 #[.int .u64 x1] g0.w (Ret NoM g0 fun v g => v = AG [encA .u8 o1]) := by
 refine calls_of (args := [.int .u64 x1]) Try.func104 rfl (0) ?_
 intro t ht htL
 refine ⟨_, rfl, ?_⟩
 refine CP.refr 18 [(0, .int .u64 x1)] (by kernel_rfl) (by kernel_rfl) ?_
 intro ds
 have tot : Step (fun l => NoM l ∨ t ≤ l) g0 g0 := Step.refl _ _
 unfold F.baizeref02_FromNum at hs
 refine CP.seqR ?_
 refine WP.alloc (T := 22) (t + 1) [encA .u8 (zA 8)] [8] (by kernel_rfl) (by simp [len_encA]) ?_
 intro g1 b1 st1 hB1
 replace tot := tot.trans st1.pure
 refine WP.dn ?_
 refine NX.then_n ?_
 refine CP.seqR ?_
 refine WP.stl 1 ?_
 refine WP.alloc (T := 22) (t + 2) [encA .u8 (zA 8)] [8] (by kernel_rfl) (by simp [len_encA]) ?_
 intro g2 b2 st2 hB2
 replace hB1 := hB1.mono st2 (fun x => x)
 replace tot := tot.trans st2.pure
 refine WP.storeB (ty := 22) (off := 0) (v := AG [encA .u8 (zA 8)]) hB2 [encA .u8 (zA 8)] [8] (by kernel_rfl) (by kernel_rfl) (by simp [len_encA]) (by kernel_rfl) [encA .u8 (zA 8)] (by kernel_rfl) (.arr .nil) ?_
 intro g3 st3 hB3
 replace hB1 := hB1.mono st3 (WL.no1 (by omega))
 replace tot := tot.trans (st3.up1 (.inr (by omega)))
 clear hB2
 have hB2 := hB3
 clear hB3
 refine WP.dn ?_
 refine NX.then_n ?_
 refine CP.seq ?_
 refine CP.seqR ?_
 refine WP.stl 1 ?_
 refine WP.dn ?_
 refine NX.then_n ?_
 refine CP.block ?_
 generalize fuel = k1 at hs
 refine CP.loop (fun k1 tm g => ∃ (x2 : Int) (d1 : Arr Int 8) (x3 : Int), Fr 18 [(0, .int .u64 x2), (2, .pointer (some ⟨b1, 0, none⟩)), (3, .pointer (some ⟨b2, 0, none⟩)), (4, .int .i64 x3)] tm ∧ Step (fun l => NoM l ∨ t ≤ l) g0 g ∧ Box g (t + 1) b1 22 [encA .u8 (zA 8)] [8] ∧ Box g (t + 2) b2 22 [encA .u8 d1] [8] ∧ F.baizeref02_FromNum.l1 k1 x2 d1 x3 = some o1) k1 ?_ ?_ ?_
 ·exact ⟨x1, (zA 8), 0, ⟨by kernel_rfl, by kernel_rfl⟩, tot, hB1, hB2, hs⟩
 ·rintro tm g ⟨x2, d1, x3, hF, tot, hB1, hB2, hs⟩
  exact absurd hs (by simp [F.baizeref02_FromNum.l1])
 clear tot hs hB1 hB2
 rintro k1 tm g ⟨x2, d1, x3, hF, tot, hB1, hB2, hs⟩
 clear ds
 obtain ⟨ds, rfl⟩ := hF.open
 clear hF
 unfold F.baizeref02_FromNum.l1 at hs
 refine CP.seq ?_
 refine CP.seqR ?_
 refine WP.stl 2 ?_
 refine WP.dn ?_
 refine NX.then_n ?_
 refine CP.cond (b := decide (x3 < 8)) (by kernel_rfl) (fun h3 => ?_) (fun h3 => ?_)
 ·replace hs := of_if_t hs h3
  refine CP.skip ?_
  refine NX.then_n ?_
  refine CP.seq ?_
  refine CP.block ?_
  refine CP.seqR ?_
  refine WP.stl 4 ?_
  by_cases hc2 : (0 : Int) ≤ x3 ∧ x3 < (8 : Int)
  case neg => rw [if_neg hc2] at hs; cases hs
  replace hs := of_if_p hs hc2
  refine WP.ixBox (t := 22) (e := 5) (m := 8) (size := 1) (b := b2) (off := 0) (k := .i64) (i := x3) (by kernel_rfl) (by kernel_rfl) hc2 ?_
  refine WP.storeE (ty := 5) (o := 0) (m := 8) (k := .u8) (d := d1) (i := x3) (x := (IntKind.u8.wrap (x2.tmod 256))) hB2 (by kernel_rfl) hc2 (by kernel_rfl) (by kernel_rfl) [encA .u8 (aset d1 x3 (IntKind.u8.wrap (x2.tmod 256)))] (by kernel_rfl) ?_
  intro g8 st8 hB8
  replace hB1 := hB1.mono st8 (WL.no1 (by omega))
  replace tot := tot.trans (st8.up1 (.inr (by omega)))
  clear hB2
  have hB2 := hB8
  clear hB8
  refine WP.dn ?_
  refine NX.then_n ?_
  refine CP.region ?_
  refine WP.stl 3 ?_
  refine WP.dn ?_
  refine NX.block_n ?_
  refine NX.then_n ?_
  refine CP.region ?_
  refine WP.stl 3 ?_
  refine WP.dn ?_
  refine NX.post ?_
  exact ⟨(IntKind.u64.wrap (x2.tdiv 256)), (aset d1 x3 (IntKind.u8.wrap (x2.tmod 256))), (IntKind.i64.wrap (x3 + 1)), ⟨by kernel_rfl, by kernel_rfl⟩, tot, hB1, hB2, hs⟩
 replace hs := of_if_f hs h3
 refine CP.exit ?_
 refine NX.then_e ?_
 refine NX.then_e ?_
 refine NX.block_s ?_
 refine NX.then_n ?_
 refine CP.seqR ?_
 refine WP.loadB (v := AG [encA .u8 d1]) hB2 (by kernel_rfl) (by kernel_rfl) ?_
 refine WP.storeB (ty := 22) (off := 0) (v := AG [encA .u8 d1]) hB1 [encA .u8 d1] [8] (by kernel_rfl) (by kernel_rfl) (by simp [len_encA]) (by kernel_rfl) [encA .u8 d1] (by kernel_rfl) (.arr .nil) ?_
 intro g9 st9 hB9
 replace hB2 := hB2.mono st9 (WL.no1 (by omega))
 replace tot := tot.trans (st9.up1 (.inr (by omega)))
 clear hB1
 have hB1 := hB9
 clear hB9
 refine WP.dn ?_
 refine NX.then_n ?_
 refine CP.ret ?_
 replace hs := Option.some.inj hs
 obtain rfl := hs
 exact NX.fin (v := AG [encA .u8 d1]) (Res.one rfl (RV.box (agg := true) (size := 8) (rs := [encA .u8 d1]) hB1 (by kernel_rfl) (by kernel_rfl) (by kernel_rfl) (by kernel_rfl))) tot htL rfl
def F.baizeref02_Out (x1 : Int) (x2 : Int) (x3 : Int) (x4 : Int) : Option ((Arr Int 8)) := ((F.baizeref02_FromNum (bitXor .u64 x1 x3)).bind fun d1 => (some d1))
theorem P.baizeref02_Out (g0 : GW) (x1 : Int) (x2 : Int) (x3 : Int) (x4 : Int) (o1 : Arr Int 8) (hs : F.baizeref02_Out x1 x2 x3 x4 = some o1) :
  Calls Try.prog 87 #[AG [[.int .u64 x1], [.int .u64 x2], [.int .u64 x3], [.int .u64 x4]]] g0.w (Ret NoM g0 fun v g => v = AG [encA .u8 o1]) := by
 refine calls_of (args := [AG [[.int .u64 x1], [.int .u64 x2], [.int .u64 x3], [.int .u64 x4]]]) Try.func87 rfl (0) ?_
 intro t ht htL
 refine ⟨_, rfl, ?_⟩
 refine CP.refr 9 [(0, AG [[.int .u64 x1], [.int .u64 x2], [.int .u64 x3], [.int .u64 x4]])] (by kernel_rfl) (by kernel_rfl) ?_
 intro ds
 have tot : Step (fun l => NoM l ∨ t ≤ l) g0 g0 := Step.refl _ _
 unfold F.baizeref02_Out at hs
 refine CP.seqR ?_
 refine WP.alloc (T := 146) (t + 1) [[.int .u64 x1], [.int .u64 x2], [.int .u64 x3], [.int .u64 x4]] [1, 1, 1, 1] (by kernel_rfl) rfl ?_
 intro g1 b1 st1 hB1
 replace tot := tot.trans st1.pure
 refine WP.alloc (T := 22) (t + 2) [encA .u8 (zA 8)] [8] (by kernel_rfl) (by simp [len_encA]) ?_
 intro g2 b2 st2 hB2
 replace hB1 := hB1.mono st2 (fun x => x)
 replace tot := tot.trans st2.pure
 refine WP.dn ?_
 refine NX.then_n ?_
 refine CP.seqR ?_
 refine WP.stl 1 ?_
 refine WP.loadB (v := .int .u64 x1) hB1 (by kernel_rfl) (by kernel_rfl) ?_
 refine WP.stl 1 ?_
 refine WP.loadB (v := .int .u64 x3) hB1 (by kernel_rfl) (by kernel_rfl) ?_
 refine WP.stl 1 ?_
 replace hs := Option.bind_eq_some_iff.1 hs
 obtain ⟨d1, hk1, hs⟩ := hs
 have hcal1 := P.baizeref02_FromNum g2 (bitXor .u64 x1 x3) d1 hk1
 refine WP.callC hcal1 (by kernel_rfl) ?_
 rintro _ g3 st3 rfl
 replace hB1 := hB1.mono st3 (fun x => x)
 replace hB2 := hB2.mono st3 (fun x => x)
 replace tot := tot.trans st3.pure
 refine WP.storeB (ty := 22) (off := 0) (v := AG [encA .u8 d1]) hB2 [encA .u8 d1] [8] (by kernel_rfl) (by kernel_rfl) (by simp [len_encA]) (by kernel_rfl) [encA .u8 d1] (by kernel_rfl) (.arr .nil) ?_
 intro g4 st4 hB3
 replace hB1 := hB1.mono st4 (WL.no1 (by omega))
 replace tot := tot.trans (st4.up1 (.inr (by omega)))
 clear hB2
 have hB2 := hB3
 clear hB3
 refine WP.dn ?_
 refine NX.then_n ?_
 refine CP.ret ?_
 replace hs := Option.some.inj hs
 obtain rfl := hs
 exact NX.fin (v := AG [encA .u8 d1]) (Res.one rfl (RV.box (agg := true) (size := 8) (rs := [encA .u8 d1]) hB2 (by kernel_rfl) (by kernel_rfl) (by kernel_rfl) (by kernel_rfl))) tot htL rfl
def F.baizeref02_Of (l1 : List Int) : Option ((Arr Int 8)) := ((F.baizeref02_Begin 1).bind fun (x1, x2, x3, x4) => ((F.baizeref02_Bytes x1 x2 x3 x4 l1).bind fun (x5, x6, x7, x8) => ((F.baizeref02_Out x5 x6 x7 x8).bind fun d1 => (some d1))))
theorem P.baizeref02_Of (g0 : GW) (l1 : List Int) (a1 : Option Addr) (n1 : Nat) (c1 : Nat) (hR1 : RdS (Kd.int .u8) g0 5 a1 n1 c1 l1) (o1 : Arr Int 8) (hs : F.baizeref02_Of l1 = some o1) :
  Calls Try.prog 64 #[.slice a1 n1 c1] g0.w (Ret NoM g0 fun v g => v = AG [encA .u8 o1]) := by
 refine calls_of (args := [.slice a1 n1 c1]) Try.func64 rfl (0) ?_
 intro t ht htL
 refine ⟨_, rfl, ?_⟩
 refine CP.refr 7 [(0, .slice a1 n1 c1)] (by kernel_rfl) (by kernel_rfl) ?_
 intro ds
 have tot : Step (fun l => NoM l ∨ t ≤ l) g0 g0 := Step.refl _ _
 unfold F.baizeref02_Of at hs
 refine CP.seqR ?_
 refine WP.alloc (T := 22) (t + 1) [encA .u8 (zA 8)] [8] (by kernel_rfl) (by simp [len_encA]) ?_
 intro g1 b1 st1 hB1
 replace hR1 := hR1.mono st1 (fun x => x)
 replace tot := tot.trans st1.pure
 refine WP.dn ?_
 refine NX.then_n ?_
 refine CP.seqR ?_
 replace hs := Option.bind_eq_some_iff.1 hs
 obtain ⟨⟨x1, x2, x3, x4⟩, hk1, hs⟩ := hs
 dsimp only at hs
 have hcal1 := P.baizeref02_Begin g1 1 x1 x2 x3 x4 hk1
 refine WP.callC hcal1 (by kernel_rfl) ?_
 rintro _ g2 st2 rfl
 replace hR1 := hR1.mono st2 (fun x => x)
 replace hB1 := hB1.mono st2 (fun x => x)
 replace tot := tot.trans st2.pure
 refine WP.stl 1 ?_
 replace hs := Option.bind_eq_some_iff.1 hs
 obtain ⟨⟨x5, x6, x7, x8⟩, hk2, hs⟩ := hs
 dsimp only at hs
 have hcal2 := P.baizeref02_Bytes g2 x1 x2 x3 x4 l1 a1 n1 c1 hR1 x5 x6 x7 x8 hk2
 refine WP.callC hcal2 (by kernel_rfl) ?_
 rintro _ g3 st3 rfl
 replace hR1 := hR1.mono st3 (fun x => x)
 replace hB1 := hB1.mono st3 (fun x => x)
 replace tot := tot.trans st3.pure
 replace hs := Option.bind_eq_some_iff.1 hs
 obtain ⟨d1, hk3, hs⟩ := hs
 have hcal3 := P.baizeref02_Out g3 x5 x6 x7 x8 d1 hk3
 refine WP.callC hcal3 (by kernel_rfl) ?_
 rintro _ g4 st4 rfl
 replace hR1 := hR1.mono st4 (fun x => x)
 replace hB1 := hB1.mono st4 (fun x => x)
 replace tot := tot.trans st4.pure
 refine WP.storeB (ty := 22) (off := 0) (v := AG [encA .u8 d1]) hB1 [encA .u8 d1] [8] (by kernel_rfl) (by kernel_rfl) (by simp [len_encA]) (by kernel_rfl) [encA .u8 d1] (by kernel_rfl) (.arr .nil) ?_
 intro g5 st5 hB2
 replace hR1 := hR1.mono st5 (WL.no1 (by omega))
 replace tot := tot.trans (st5.up1 (.inr (by omega)))
 clear hB1
 have hB1 := hB2
 clear hB2
 refine WP.dn ?_
 refine NX.then_n ?_
 refine CP.ret ?_
 replace hs := Option.some.inj hs
 obtain rfl := hs
 exact NX.fin (v := AG [encA .u8 d1]) (Res.one rfl (RV.box (agg := true) (size := 8) (rs := [encA .u8 d1]) hB1 (by kernel_rfl) (by kernel_rfl) (by kernel_rfl) (by kernel_rfl))) tot htL rfl
def N.baizeref47_Digest_0 : List (List Nat) := [[], [0], [0, 1], [], [0, 1, 2, 3], [0, 1, 2, 3, 4], [0, 1, 2, 3, 4, 5], [0, 1, 2, 3, 4, 5, 6]]
def F.baizeref47_Digest (d1 : Arr Int 8) (x1 : Int) (d2 : Arr Int 2) (l1 : List S_baizeref47_Held) : Option ((Arr Int 8)) := ((F.baizeref47_Check d1 x1 d2 l1).bind fun x2 => (if (x2 != 0) = true then (some (zA 8)) else ((F.baizeref01_Bytes ([112, 117, 114, 115, 101])).bind fun l2 => ((F.baizeref47_Bytes d1 x1 d2 l1).bind fun l3 => (if l2.length + l3.length ≤ 140737488355328 then ((F.baizeref02_Of (l2 ++ l3)).bind fun d3 => (some d3)) else none)))))
theorem P.baizeref47_Digest (g0 : GW) (d1 : Arr Int 8) (x1 : Int) (d2 : Arr Int 2) (l1 : List S_baizeref47_Held) (a1 : Option Addr) (n1 : Nat) (c1 : Nat) (hR1 : RdS k_S_baizeref47_Held g0 60 a1 n1 c1 l1) (o1 : Arr Int 8) (hs : F.baizeref47_Digest d1 x1 d2 l1 = some o1) :
  Calls Try.prog 33 #[AG [encA .u8 d1, [.int .i64 x1], encA .i64 d2, [.slice a1 n1 c1]]] g0.w (Ret NoM g0 fun v g => v = AG [encA .u8 o1]) := by
 refine calls_of (args := [AG [encA .u8 d1, [.int .i64 x1], encA .i64 d2, [.slice a1 n1 c1]]]) Try.func33 rfl (0) ?_
 intro t ht htL
 refine ⟨_, rfl, ?_⟩
 refine CP.refr 14 [(0, AG [encA .u8 d1, [.int .i64 x1], encA .i64 d2, [.slice a1 n1 c1]])] (by kernel_rfl) (by kernel_rfl) ?_
 intro ds
 have tot : Step (fun l => NoM l ∨ t ≤ l) g0 g0 := Step.refl _ _
 unfold F.baizeref47_Digest at hs
 refine CP.seqR ?_
 refine WP.alloc (T := 26) (t + 1) [encA .u8 d1, [.int .i64 x1], encA .i64 d2, [.slice a1 n1 c1]] [8, 1, 2, 1] (by kernel_rfl) (by simp [len_encA]) ?_
 intro g1 b1 st1 hB1
 replace hR1 := hR1.mono st1 (fun x => x)
 replace tot := tot.trans st1.pure
 refine WP.alloc (T := 22) (t + 2) [encA .u8 (zA 8)] [8] (by kernel_rfl) (by simp [len_encA]) ?_
 intro g2 b2 st2 hB2
 replace hR1 := hR1.mono st2 (fun x => x)
 replace hB1 := hB1.mono st2 (fun x => x)
 replace tot := tot.trans st2.pure
 refine WP.dn ?_
 refine NX.then_n ?_
 refine CP.seq ?_
 refine CP.seqR ?_
 refine WP.loadB (v := AG [encA .u8 d1, [.int .i64 x1], encA .i64 d2, [.slice a1 n1 c1]]) hB1 (by kernel_rfl) (by kernel_rfl) ?_
 replace hs := Option.bind_eq_some_iff.1 hs
 obtain ⟨x2, hk1, hs⟩ := hs
 have hcal1 := P.baizeref47_Check g2 d1 x1 d2 l1 a1 n1 c1 hR1 x2 hk1
 refine WP.callC hcal1 (by kernel_rfl) ?_
 rintro _ g3 st3 rfl
 replace hB1 := hB1.mono st3 (fun x => x)
 replace hR1 := hR1.mono st3 (fun x => x)
 replace hB2 := hB2.mono st3 (fun x => x)
 replace tot := tot.trans st3.pure
 refine WP.stl 1 ?_
 refine WP.dn ?_
 refine NX.then_n ?_
 refine CP.cond (b := (x2 != 0)) (by kernel_rfl) (fun h1 => ?_) (fun h1 => ?_)
 ·replace hs := of_if_t hs h1
  refine CP.seqR ?_
  refine WP.stl 1 ?_
  refine WP.storeB (ty := 22) (off := 0) (v := AG [encA .u8 (zA 8)]) hB2 [encA .u8 (zA 8)] [8] (by kernel_rfl) (by kernel_rfl) (by simp [len_encA]) (by kernel_rfl) [encA .u8 (zA 8)] (by kernel_rfl) (.arr .nil) ?_
  intro g4 st4 hB3
  replace hB1 := hB1.mono st4 (WL.no1 (by omega))
  replace hR1 := hR1.mono st4 (WL.no1 (by omega))
  replace tot := tot.trans (st4.up1 (.inr (by omega)))
  clear hB2
  have hB2 := hB3
  clear hB3
  refine WP.dn ?_
  refine NX.then_n ?_
  refine CP.ret ?_
  refine NX.then_r ?_
  replace hs := Option.some.inj hs
  obtain rfl := hs
  exact NX.fin (v := AG [encA .u8 (zA 8)]) (Res.one rfl (RV.box (agg := true) (size := 8) (rs := [encA .u8 (zA 8)]) hB2 (by kernel_rfl) (by kernel_rfl) (by kernel_rfl) (by kernel_rfl))) tot htL rfl
 replace hs := of_if_f hs h1
 refine CP.skip ?_
 refine NX.then_n ?_
 refine CP.seq ?_
 replace hs := Option.bind_eq_some_iff.1 hs
 obtain ⟨l2, hk2, hs⟩ := hs
 replace hs := Option.bind_eq_some_iff.1 hs
 obtain ⟨l3, hk3, hs⟩ := hs
 by_cases hc1 : l2.length + l3.length ≤ 140737488355328
 case neg => rw [if_neg hc1] at hs; cases hs
 replace hs := of_if_p hs hc1
 replace hs := Option.bind_eq_some_iff.1 hs
 obtain ⟨d3, hk4, hs⟩ := hs
 refine CP.drawL (by kernel_rfl) [0, 1, 2, 3, 4, 5, 6, 7] N.baizeref47_Digest_0 [⟨none, [], [], fun l g => Box g (t + 1) b1 26 [encA .u8 d1, [.int .i64 x1], encA .i64 d2, [.slice a1 n1 c1]] [8, 1, 2, 1]⟩, ⟨none, [], [], fun l g => RdS k_S_baizeref47_Held g 60 a1 n1 c1 l1⟩, ⟨none, [2], [], fun l g => Box g (t + 2) b2 22 [encA .u8 (zA 8)] [8]⟩, ⟨some 0, [0], [0], fun l g => ∃ (a2 : Option Addr), l.getD 0 undef = .slice a2 5 5 ∧ OwnS (Kd.int .u8) g (t + 3) 5 a2 5 5 ([112, 117, 114, 115, 101])⟩, ⟨some 1, [], [1, 0], fun l g => ∃ (a2 : Option Addr), l.getD 0 undef = .slice a2 5 5 ∧ l.getD 1 undef = .slice a2 5 5 ∧ RdS (Kd.int .u8) g 5 a2 5 5 ([112, 117, 114, 115, 101])⟩, ⟨some 2, [1], [2], fun l g => ∃ (a3 : Option Addr) (c2 : Nat), l.getD 0 undef = .slice a3 l2.length c2 ∧ OwnS (Kd.int .u8) g (t + 4) 5 a3 l2.length c2 l2⟩, ⟨some 3, [], [3], fun l g => l.getD 0 undef = AG [encA .u8 d1, [.int .i64 x1], encA .i64 d2, [.slice a1 n1 c1]]⟩, ⟨some 4, [], [4], fun l g => ∃ (a4 : Option Addr) (c3 : Nat), l.getD 0 undef = .slice a4 l3.length c3 ∧ OwnS (Kd.int .u8) g (t + 5) 5 a4 l3.length c3 l3⟩, ⟨some 5, [1], [5], fun l g => ∃ (a5 : Option Addr) (c4 : Nat), l.getD 0 undef = .slice a5 (l2.length + l3.length) c4 ∧ OwnS (Kd.int .u8) g (t + 4) 5 a5 (l2.length + l3.length) c4 (l2 ++ l3)⟩, ⟨some 5, [], [2], fun l g => ∃ (a3 : Option Addr) (c2 : Nat), l.getD 0 undef = .slice a3 l2.length c2⟩, ⟨some 6, [], [6], fun l g => l.getD 0 undef = AG [encA .u8 d3]⟩, ⟨some 6, [1], [5], fun l g => ∃ (a5 : Option Addr) (c4 : Nat), l.getD 0 undef = .slice a5 (l2.length + l3.length) c4 ∧ OwnS (Kd.int .u8) g (t + 4) 5 a5 (l2.length + l3.length) c4 (l2 ++ l3)⟩, ⟨some 7, [2], [], fun l g => Box g (t + 2) b2 22 [encA .u8 d3] [8]⟩] [[], [0], [], [], [], [1], [1], [2]] [(t + 3), (t + 4), (t + 2)] [] [] (by kernel_rfl) (by simp <;> omega) (by simp <;> omega) ⟨fun _ _ _ _ st h0 hl hj hB1 => (hB1.mono st (fun h => absurd (hl _ h) (by simp <;> omega))), fun _ _ _ _ st h0 hl hj hR1 => (RdS.mono (e := 60) hR1 st h0), fun _ _ _ _ st h0 hl hj hB2 => (hB2.mono st (hj 2 (by simp) _ rfl)), fun _ _ _ _ st h0 hl hj ⟨a2, e0, hR2⟩ => ⟨a2, e0, (hR2.mono st h0 (hj 0 (by simp) _ rfl))⟩, fun _ _ _ _ st h0 hl hj ⟨a2, e1, e0, hR3⟩ => ⟨a2, e1, e0, (RdS.mono (e := 5) hR3 st h0)⟩, fun _ _ _ _ st h0 hl hj ⟨a3, c2, e2, hR4⟩ => ⟨a3, c2, e2, (hR4.mono st h0 (hj 1 (by simp) _ rfl))⟩, fun _ _ _ _ st h0 hl hj e3 => e3, fun _ _ _ _ st h0 hl hj ⟨a4, c3, e4, hR5⟩ => ⟨a4, c3, e4, (hR5.mono st h0 (fun h => absurd (hl _ h) (by simp <;> omega)))⟩, fun _ _ _ _ st h0 hl hj ⟨a5, c4, e5, hR6⟩ => ⟨a5, c4, e5, (hR6.mono st h0 (hj 1 (by simp) _ rfl))⟩, fun _ _ _ _ st h0 hl hj ⟨a3, c2, e2⟩ => ⟨a3, c2, e2⟩, fun _ _ _ _ st h0 hl hj e6 => e6, fun _ _ _ _ st h0 hl hj ⟨a5, c4, e5, hR6⟩ => ⟨a5, c4, e5, (hR6.mono st h0 (hj 1 (by simp) _ rfl))⟩, fun _ _ _ _ st h0 hl hj hB2 => (hB2.mono st (hj 2 (by simp) _ rfl)), tv⟩ ⟨hB1, hR1, hB2, tv, tv, tv, tv, tv, tv, tv, tv, tv, tv, tv⟩ (by kernel_rfl) (fun vs => by kernel_rfl) ?_ ?_ ?_
 ·intro j hj; exact absurd hj (by simp)
 ·intro j hj
  have hq : j = 0 ∨ j = 1 ∨ j = 2 ∨ j = 3 ∨ j = 4 ∨ j = 5 ∨ j = 6 ∨ j = 7 := by have h : j < 8 := hj; omega
  rcases hq with rfl | rfl | rfl | rfl | rfl | rfl | rfl | rfl
  ·intro vs gq stq hl hf
   obtain ⟨v0, v1, v2, v3, v4, v5, v6, v7, rfl⟩ := len_k8 hl
   refine WP.mkSl (kd := (Kd.int .u8)) (t := 64) (e := 5) (bytes := 1) (t + 3) [.int .u8 112, .int .u8 117, .int .u8 114, .int .u8 115, .int .u8 101] [112, 117, 114, 115, 101] (by kernel_rfl) (by kernel_rfl) (Nat.le_of_ble_eq_true rfl) (Nat.le_of_ble_eq_true rfl) (all_cons rfl (all_cons rfl (all_cons rfl (all_cons rfl (all_cons rfl all_nil))))) (⟨_, _, rfl, (by exact rfl), ⟨_, _, rfl, (by exact rfl), ⟨_, _, rfl, (by exact rfl), ⟨_, _, rfl, (by exact rfl), ⟨_, _, rfl, (by exact rfl), rfl⟩⟩⟩⟩⟩) rfl ?_
   intro g5 a2 st5 hR2
   refine WP.dn (Shown.o (v := .slice a2 5 5) st5.pure ?_)
   exact ⟨tv, tv, tv, ⟨a2, rfl, hR2⟩, tv, tv, tv, tv, tv, tv, tv, tv, tv, tv⟩
  ·intro vs gq stq hl hf
   obtain ⟨v0, v1, v2, v3, v4, v5, v6, v7, rfl⟩ := len_k8 hl
   obtain ⟨a2, e0, hR2⟩ := (show ∃ (a2 : Option Addr), v0 = .slice a2 5 5 ∧ OwnS (Kd.int .u8) gq (t + 3) 5 a2 5 5 ([112, 117, 114, 115, 101]) from hf _ (memI 3 rfl) (by kernel_rfl))
   subst e0
   refine WP.markB hR2 (by omega) (Nat.le_of_ble_eq_true rfl) (by kernel_rfl) ?_
   intro g6 st6 hR3
   refine WP.dn (Shown.o (v := .slice a2 5 5) st6 ?_)
   exact ⟨tv, tv, tv, tv, ⟨a2, rfl, rfl, hR3⟩, tv, tv, tv, tv, tv, tv, tv, tv, tv⟩
  ·intro vs gq stq hl hf
   obtain ⟨v0, v1, v2, v3, v4, v5, v6, v7, rfl⟩ := len_k8 hl
   obtain ⟨a2, e1, e0, hR3⟩ := (show ∃ (a2 : Option Addr), v1 = .slice a2 5 5 ∧ v0 = .slice a2 5 5 ∧ RdS (Kd.int .u8) gq 5 a2 5 5 ([112, 117, 114, 115, 101]) from hf _ (memI 4 rfl) (by kernel_rfl))
   subst e1
   subst e0
   have hcal2 := P.baizeref01_Bytes gq (t + 4) ([112, 117, 114, 115, 101]) a2 5 5 hR3 l2 hk2
   refine WP.callC hcal2 (by kernel_rfl) ?_
   rintro _ g7 st7 ⟨a3, n2, c2, rfl, hR4⟩
   obtain rfl := hR4.len
   refine WP.dn (Shown.o (v := .slice a3 l2.length c2) st7.pure ?_)
   exact ⟨tv, tv, tv, tv, tv, ⟨a3, c2, rfl, hR4⟩, tv, tv, tv, tv, tv, tv, tv, tv⟩
  ·intro vs gq stq hl hf
   obtain ⟨v0, v1, v2, v3, v4, v5, v6, v7, rfl⟩ := len_k8 hl
   have hB1 := (show Box gq (t + 1) b1 26 [encA .u8 d1, [.int .i64 x1], encA .i64 d2, [.slice a1 n1 c1]] [8, 1, 2, 1] from hf _ (memI 0 rfl) (by kernel_rfl))
   refine WP.loadB (v := AG [encA .u8 d1, [.int .i64 x1], encA .i64 d2, [.slice a1 n1 c1]]) hB1 (by kernel_rfl) (by kernel_rfl) ?_
   refine WP.dn (Shown.ok (v := AG [encA .u8 d1, [.int .i64 x1], encA .i64 d2, [.slice a1 n1 c1]]) (by kernel_rfl) (Step.refl _ _) ?_)
   exact ⟨tv, tv, tv, tv, tv, tv, rfl, tv, tv, tv, tv, tv, tv, tv⟩
  ·intro vs gq stq hl hf
   obtain ⟨v0, v1, v2, v3, v4, v5, v6, v7, rfl⟩ := len_k8 hl
   have hR1 := (show RdS k_S_baizeref47_Held gq 60 a1 n1 c1 l1 from hf _ (memI 1 rfl) (by kernel_rfl))
   have e3 := (show v3 = AG [encA .u8 d1, [.int .i64 x1], encA .i64 d2, [.slice a1 n1 c1]] from hf _ (memI 6 rfl) (by kernel_rfl))
   subst e3
   have hcal3 := P.baizeref47_Bytes gq (t + 5) d1 x1 d2 l1 a1 n1 c1 hR1 l3 hk3
   refine WP.callC hcal3 (by kernel_rfl) ?_
   rintro _ g8 st8 ⟨a4, n3, c3, rfl, hR5⟩
   obtain rfl := hR5.len
   refine WP.dn (Shown.o (v := .slice a4 l3.length c3) st8.pure ?_)
   exact ⟨tv, tv, tv, tv, tv, tv, tv, ⟨a4, c3, rfl, hR5⟩, tv, tv, tv, tv, tv, tv⟩
  ·intro vs gq stq hl hf
   obtain ⟨v0, v1, v2, v3, v4, v5, v6, v7, rfl⟩ := len_k8 hl
   obtain ⟨a3, c2, e2, hR4⟩ := (show ∃ (a3 : Option Addr) (c2 : Nat), v2 = .slice a3 l2.length c2 ∧ OwnS (Kd.int .u8) gq (t + 4) 5 a3 l2.length c2 l2 from hf _ (memI 5 rfl) (by kernel_rfl))
   subst e2
   obtain ⟨a4, c3, e4, hR5⟩ := (show ∃ (a4 : Option Addr) (c3 : Nat), v4 = .slice a4 l3.length c3 ∧ OwnS (Kd.int .u8) gq (t + 5) 5 a4 l3.length c3 l3 from hf _ (memI 7 rfl) (by kernel_rfl))
   subst e4
   refine WP.append (kd := (Kd.int .u8)) (t := 64) (e := 5) (bytes := 1) (a2 := a4) (c2 := c3) hR4 hR5.src hR5.len (by kernel_rfl) (by kernel_rfl) (by omega) (by simp only [maxLen]; omega) (by omega) ?_
   intro g9 a5 c4 st9 hR6
   refine WP.dn (Shown.o (v := .slice a5 (l2.length + l3.length) c4) st9 ?_)
   exact ⟨tv, tv, tv, tv, tv, tv, tv, tv, ⟨a5, c4, rfl, hR6⟩, ⟨a3, c2, rfl⟩, tv, tv, tv, tv⟩
  ·intro vs gq stq hl hf
   obtain ⟨v0, v1, v2, v3, v4, v5, v6, v7, rfl⟩ := len_k8 hl
   obtain ⟨a5, c4, e5, hR6⟩ := (show ∃ (a5 : Option Addr) (c4 : Nat), v5 = .slice a5 (l2.length + l3.length) c4 ∧ OwnS (Kd.int .u8) gq (t + 4) 5 a5 (l2.length + l3.length) c4 (l2 ++ l3) from hf _ (memI 8 rfl) (by kernel_rfl))
   subst e5
   have hS1 : 0 ∉ ([(t + 4)] : List Nat) := by simp <;> omega
   have stl1 := GW.lend_step gq [(t + 4)]
   have hRl1 := hR6.lendTo hS1 (by simp)
   refine WP.regw (g' := GW.lend gq [(t + 4)]) rfl ?_
   have hcal4 := P.baizeref02_Of (GW.lend gq [(t + 4)]) (l2 ++ l3) a5 (l2.length + l3.length) c4 hRl1 d3 hk4
   refine WP.callC hcal4 (by kernel_rfl) ?_
   rintro _ g10 st10 rfl
   have st11 := (GW.back_step st10).lentS
   have hO1 := hR6.backTo hS1 (by simp) st10 (fun x => x)
   refine WP.regw (g' := GW.back gq g10 [(t + 4)]) rfl ?_
   generalize GW.back gq g10 [(t + 4)] = g11 at *
   refine WP.dn (Shown.o (v := AG [encA .u8 d3]) st11 ?_)
   exact ⟨tv, tv, tv, tv, tv, tv, tv, tv, tv, tv, rfl, ⟨a5, c4, rfl, hO1⟩, tv, tv⟩
  ·intro vs gq stq hl hf
   obtain ⟨v0, v1, v2, v3, v4, v5, v6, v7, rfl⟩ := len_k8 hl
   have hB2 := (show Box gq (t + 2) b2 22 [encA .u8 (zA 8)] [8] from hf _ (memI 2 rfl) (by kernel_rfl))
   have e6 := (show v6 = AG [encA .u8 d3] from hf _ (memI 10 rfl) (by kernel_rfl))
   subst e6
   refine WP.storeB (ty := 22) (off := 0) (v := AG [encA .u8 d3]) hB2 [encA .u8 d3] [8] (by kernel_rfl) (by kernel_rfl) (by simp [len_encA]) (by kernel_rfl) [encA .u8 d3] (by kernel_rfl) (.arr .nil) ?_
   intro g12 st12 hB4
   refine WP.dn (Shown.o (v := undef) st12 ?_)
   exact ⟨tv, tv, tv, tv, tv, tv, tv, tv, tv, tv, tv, tv, hB4, tv⟩
 intro vs g13 st13 hl hf
 obtain ⟨v0, v1, v2, v3, v4, v5, v6, v7, rfl⟩ := len_k8 hl
 have hB2 := (show Box g13 (t + 2) b2 22 [encA .u8 d3] [8] from hf _ (memI 12 rfl) (by kernel_rfl))
 replace tot := tot.trans (st13.up3 (.inr (by omega)) (.inr (by omega)) (.inr (by omega)))
 refine NX.then_n ?_
 refine CP.refr 14 [(2, .pointer (some ⟨b2, 0, none⟩))] (by kernel_rfl) (by kernel_rfl) ?_
 clear ds
 intro ds
 refine CP.ret ?_
 replace hs := Option.some.inj hs
 obtain rfl := hs
 exact NX.fin (v := AG [encA .u8 d3]) (Res.one rfl (RV.box (agg := true) (size := 8) (rs := [encA .u8 d3]) hB2 (by kernel_rfl) (by kernel_rfl) (by kernel_rfl) (by kernel_rfl))) tot htL rfl
def F.octet_NewReader (l1 : List Int) : Option ((List Int) × Int) := ((F.slices_Clone_byte_byte l1).bind fun l2 => (some (l2, 0)))
theorem P.octet_NewReader (g0 : GW) (r0 : Nat) (l1 : List Int) (a1 : Option Addr) (n1 : Nat) (c1 : Nat) (hR1 : RdS (Kd.int .u8) g0 5 a1 n1 c1 l1) (o1 : List Int) (o2 : Int) (hs : F.octet_NewReader l1 = some (o1, o2)) :
  Calls Try.prog 65 #[.slice a1 n1 c1] g0.w (Ret NoM g0 fun v g => ∃ (b_1 : Nat) (a_2 : Option Addr) (n_2 : Nat) (c_2 : Nat), v = .pointer (some ⟨b_1, 0, none⟩) ∧ Box g r0 b_1 150 [[.slice a_2 n_2 c_2], [.int .i64 o2]] [1, 1] ∧ RdS (Kd.int .u8) g 5 a_2 n_2 c_2 o1) := by
 refine calls_of (args := [.slice a1 n1 c1]) Try.func65 rfl (r0 + 0) ?_
 intro t ht htL
 refine ⟨_, rfl, ?_⟩
 refine CP.refr 7 [(0, .slice a1 n1 c1)] (by kernel_rfl) (by kernel_rfl) ?_
 intro ds
 have tot : Step (fun l => NoM l ∨ t ≤ l) g0 g0 := Step.refl _ _
 unfold F.octet_NewReader at hs
 refine CP.seqR ?_
 refine WP.stl 1 ?_
 refine WP.dn ?_
 refine NX.then_n ?_
 refine CP.seqR ?_
 refine WP.stl 1 ?_
 replace hs := Option.bind_eq_some_iff.1 hs
 obtain ⟨l2, hk1, hs⟩ := hs
 have hcal1 := P.slices_Clone_byte_byte g0 (t + 1) l1 a1 n1 c1 hR1 l2 hk1
 refine WP.callC hcal1 (by kernel_rfl) ?_
 rintro _ g1 st1 ⟨a2, n2, c2, rfl, hR2⟩
 replace hR1 := hR1.mono st1 (fun x => x)
 replace tot := tot.trans st1.pure
 refine WP.stl 1 ?_
 refine WP.alloc (T := 150) (t + 2) [[.slice a2 n2 c2], [.int .i64 0]] [1, 1] (by kernel_rfl) rfl ?_
 intro g2 b1 st2 hB1
 replace hR1 := hR1.mono st2 (fun x => x)
 replace hR2 := hR2.mono st2 (fun x => x) (fun x => x)
 replace tot := tot.trans st2.pure
 refine WP.stl 1 ?_
 refine WP.dn ?_
 refine NX.then_n ?_
 refine CP.ret ?_
 obtain ⟨g3, hw1, st3, hnew⟩ := hB1.relab r0
 refine NX.regw hw1 ?_
 replace hR2 := hR2.mono st3 (WL.no1 (by omega)) (WL.no1 (by omega))
 replace tot := tot.trans (st3.up1 (.inr (by omega)))
 clear hB1
 have hB1 := hnew
 clear hnew
 obtain ⟨g4, hw2, st4, hnew⟩ := hR2.freeze (by omega)
 refine NX.regw hw2 ?_
 replace hB1 := hB1.mono st4 (WL.no1 (by omega))
 replace tot := tot.trans (st4.up1 (.inr (by omega)))
 clear hR2
 have hR2 := hnew
 clear hnew
 replace hs := Option.some.inj hs
 obtain ⟨rfl, rfl⟩ := Prod.mk.inj hs
 exact NX.fin (v := .pointer (some ⟨b1, 0, none⟩)) (Res.still (by kernel_rfl)) tot htL ⟨b1, a2, n2, c2, rfl, hB1, hR2⟩
def F.math_bits_Len8 (x1 : Int) : Option (Int) := (if (0 : Int) ≤ x1 ∧ x1 < (str_1.size : Int) then (some (IntKind.i64.wrap (getI (strBytes str_1) x1))) else none)
theorem P.math_bits_Len8 (g0 : GW) (x1 : Int) (o1 : Int) (hs : F.math_bits_Len8 x1 = some o1) :
  Calls Try.prog 115 #[.int .u8 x1] g0.w (Ret NoM g0 fun v g => v = .int .i64 o1) := by
 refine calls_of (args := [.int .u8 x1]) Try.func115 rfl (0) ?_
 intro t ht htL
 refine ⟨_, rfl, ?_⟩
 refine CP.refr 6 [(0, .int .u8 x1)] (by kernel_rfl) (by kernel_rfl) ?_
 intro ds
 have tot : Step (fun l => NoM l ∨ t ≤ l) g0 g0 := Step.refl _ _
 unfold F.math_bits_Len8 at hs
 refine CP.seqR ?_
 refine WP.stl 1 ?_
 refine WP.dn ?_
 refine NX.then_n ?_
 refine CP.seqR ?_
 refine WP.stl 1 ?_
 by_cases hc1 : (0 : Int) ≤ x1 ∧ x1 < (str_1.size : Int)
 case neg => rw [if_neg hc1] at hs; cases hs
 replace hs := of_if_p hs hc1
 refine WP.indexS (s := str_1) (k := .u8) (i := x1) (by kernel_rfl) hc1 ?_
 refine WP.stl 2 ?_
 refine WP.dn ?_
 refine NX.then_n ?_
 refine CP.ret ?_
 replace hs := Option.some.inj hs
 obtain rfl := hs
 exact NX.fin (v := .int .i64 (IntKind.i64.wrap (getI (strBytes str_1) x1))) (Res.still (by kernel_rfl)) tot htL rfl
def F.octet_number.c1 (l1 : List Int) : Option (Int × Int × Int) := (if decide ((l1.length : Int) < 10) = true then (some (0, 0, 4)) else (some (0, 0, 3)))
def F.octet_number.c2 (nx1 : Int → Int → Option (Int × Int × Int)) (l1 : List Int) (x8 : Int) (x9 : Int) (q5 : Bool) : Option (Int × Int × Int) := (if q5 = true then (some (0, 0, 3)) else ((F.math_bits_Len8 (bitAnd .u8 (getI l1 x9) 127)).bind fun x13 => (if decide ((IntKind.i64.wrap (x13 + (IntKind.i64.wrap (7 * x9)))) > 64) = true then (some (0, 0, 3)) else (if (0 : Int) ≤ (IntKind.i64.wrap (7 * x9)) then (if decide ((getI l1 x9) < 128) = true then (some ((bitOr .u64 x8 (shV true .u64 (IntKind.u64.wrap (bitAnd .u8 (getI l1 x9) 127)) (IntKind.i64.wrap (7 * x9)))), (IntKind.i64.wrap (x9 + 1)), 0)) else (nx1 (bitOr .u64 x8 (shV true .u64 (IntKind.u64.wrap (bitAnd .u8 (getI l1 x9) 127)) (IntKind.i64.wrap (7 * x9)))) (IntKind.i64.wrap (x9 + 1)))) else none))))
def F.octet_number.l1 (l1 : List Int) : Nat → Int → Int → Option (Int × Int × Int)
 | 0, _, _ => none
 | k + 1, x8, x9 => (if decide (x9 < (l1.length : Int)) = true then (if (0 : Int) ≤ x9 ∧ x9 < (l1.length : Int) then (if (x9 == 10) = true then (F.octet_number.c1 l1) else (if decide ((getI l1 x9) < 128) = true then (if ((getI l1 x9) == 0) = true then (F.octet_number.c2 (F.octet_number.l1 l1 k) l1 x8 x9 (decide (x9 > 0))) else (F.octet_number.c2 (F.octet_number.l1 l1 k) l1 x8 x9 false)) else (F.octet_number.c2 (F.octet_number.l1 l1 k) l1 x8 x9 false))) else none) else (F.octet_number.c1 l1))
def F.octet_number (l1 : List Int) : Option (Int × Int × Int) := (F.octet_number.l1 l1 fuel 0 0)
theorem P.octet_number (g0 : GW) (l1 : List Int) (a1 : Option Addr) (n1 : Nat) (c1 : Nat) (hR1 : RdS (Kd.int .u8) g0 5 a1 n1 c1 l1) (o1 : Int) (o2 : Int) (o3 : Int) (hs : F.octet_number l1 = some (o1, o2, o3)) :
  Calls Try.prog 109 #[.slice a1 n1 c1] g0.w (Ret NoM g0 fun v g => v = .tuple #[.int .u64 o1, .int .i64 o2, .int .i64 o3]) := by
 refine calls_of (args := [.slice a1 n1 c1]) Try.func109 rfl (0) ?_
 intro t ht htL
 refine ⟨_, rfl, ?_⟩
 refine CP.refr 54 [(0, .slice a1 n1 c1)] (by kernel_rfl) (by kernel_rfl) ?_
 intro ds
 have tot : Step (fun l => NoM l ∨ t ≤ l) g0 g0 := Step.refl _ _
 unfold F.octet_number at hs
 refine CP.seqR ?_
 refine WP.stl 3 ?_
 refine WP.dn ?_
 refine NX.then_n ?_
 refine CP.scope ?_
 refine CP.seqR ?_
 refine WP.stl 1 ?_
 refine WP.dn ?_
 refine NX.then_n ?_
 refine CP.seq ?_
 refine CP.label ?_
 refine NX.then_n ?_
 refine CP.cut (fun tm g => Fr 54 [(0, .slice a1 n1 c1)] tm ∧ Step (fun l => NoM l ∨ t ≤ l) g0 g ∧ RdS (Kd.int .u8) g 5 a1 n1 c1 l1 ∧ (F.octet_number.c1 l1) = some (o1, o2, o3)) ?_ ?_
 ·refine CP.seqR ?_
  refine WP.stl 1 ?_
  refine WP.len (a := a1) (cp := c1) hR1.len (by kernel_rfl) ?_
  refine WP.stl 1 ?_
  refine WP.dn ?_
  refine NX.then_n ?_
  refine CP.block ?_
  generalize fuel = k1 at hs
  refine CP.loop (fun k1 tm g => ∃ (x8 : Int) (x9 : Int), Fr 54 [(0, .slice a1 n1 c1), (5, .int .u64 x8), (8, .slice a1 n1 c1), (9, .int .i64 (l1.length : Int)), (10, .int .i64 x9)] tm ∧ Step (fun l => NoM l ∨ t ≤ l) g0 g ∧ RdS (Kd.int .u8) g 5 a1 n1 c1 l1 ∧ F.octet_number.l1 l1 k1 x8 x9 = some (o1, o2, o3)) k1 ?_ ?_ ?_
  ·exact ⟨0, 0, ⟨by kernel_rfl, by kernel_rfl⟩, tot, hR1, hs⟩
  ·rintro tm g ⟨x8, x9, hF, tot, hR1, hs⟩
   exact absurd hs (by simp [F.octet_number.l1])
  clear tot hs hR1
  rintro k1 tm g ⟨x8, x9, hF, tot, hR1, hs⟩
  clear ds
  obtain ⟨ds, rfl⟩ := hF.open
  clear hF
  unfold F.octet_number.l1 at hs
  refine CP.seqR ?_
  refine WP.stl 1 ?_
  refine WP.dn ?_
  refine NX.then_n ?_
  refine CP.seq ?_
  refine CP.cond (b := decide (x9 < (l1.length : Int))) (by kernel_rfl) (fun h30 => ?_) (fun h30 => ?_)
  ·replace hs := of_if_t hs h30
   refine CP.skip ?_
   refine NX.then_n ?_
   refine CP.seq ?_
   refine CP.block ?_
   refine CP.seqR ?_
   refine WP.stl 1 ?_
   by_cases hc9 : (0 : Int) ≤ x9 ∧ x9 < (l1.length : Int)
   case neg => rw [if_neg hc9] at hs; cases hs
   replace hs := of_if_p hs hc9
   obtain ⟨b5, u5, ha5⟩ := hR1.at hc9
   refine WP.indexA (t := 64) (e := 5) (sz := 1) (cap := c1) (k := .i64) (i := x9) hR1.len ha5 (by kernel_rfl) (by kernel_rfl) hc9 ?_
   obtain ⟨cs5, hcR5, hcV5⟩ := hR1.src.view (getI_some hc9) ha5
   replace hcR5 := Kd.o_int hcR5
   refine WP.loadV [[.int .u8 (getI l1 x9)]] [1] hcV5 hcR5 rfl (f := 0) (ty := 5) (agg := false) (size := 1) (rs := [[.int .u8 (getI l1 x9)]]) (v := .int .u8 (getI l1 x9)) (by kernel_rfl) (by kernel_rfl) (by kernel_rfl) (by kernel_rfl) ?_
   refine WP.stl 2 ?_
   refine WP.dn ?_
   refine NX.then_n ?_
   refine CP.seq ?_
   refine CP.block ?_
   refine CP.seqR ?_
   refine WP.stl 3 ?_
   refine WP.dn ?_
   refine NX.then_n ?_
   refine CP.cond (b := (x9 == 10)) (by kernel_rfl) (fun h31 => ?_) (fun h31 => ?_)
   ·replace hs := of_if_t hs h31
    refine CP.exit ?_
    refine NX.block_o (by rfl) ?_
    refine NX.then_e ?_
    refine NX.block_o (by rfl) ?_
    refine NX.then_e ?_
    refine NX.then_e ?_
    refine NX.block_s ?_
    refine NX.post ?_
    exact ⟨⟨by kernel_rfl, by kernel_rfl⟩, tot, hR1, hs⟩
   replace hs := of_if_f hs h31
   refine CP.cut (fun tm g => ∃ (q5 : Bool), Fr 54 [(0, .slice a1 n1 c1), (5, .int .u64 x8), (6, .int .i64 x9), (7, .int .u8 (getI l1 x9)), (8, .slice a1 n1 c1), (9, .int .i64 (l1.length : Int)), (10, .int .i64 x9), (18, .bool q5)] tm ∧ Step (fun l => NoM l ∨ t ≤ l) g0 g ∧ RdS (Kd.int .u8) g 5 a1 n1 c1 l1 ∧ (F.octet_number.c2 (F.octet_number.l1 l1 k1) l1 x8 x9 q5) = some (o1, o2, o3)) ?_ ?_
   ·refine CP.region ?_
    refine WP.stl 3 ?_
    refine WP.guard 21 (b := decide ((getI l1 x9) < 128)) (by kernel_rfl) (fun h37 => ?_) (fun h37 => ?_)
    ·replace hs := of_if_t hs h37
     refine WP.stl 4 ?_
     refine WP.guard 25 (b := ((getI l1 x9) == 0)) (by kernel_rfl) (fun h38 => ?_) (fun h38 => ?_)
     ·replace hs := of_if_t hs h38
      refine WP.stl 4 ?_
      refine WP.dn ?_
      refine NX.post ?_
      exact ⟨decide (x9 > 0), ⟨by kernel_rfl, by kernel_rfl⟩, tot, hR1, hs⟩
     replace hs := of_if_f hs h38
     refine WP.stl 4 ?_
     refine WP.dn ?_
     refine NX.post ?_
     exact ⟨false, ⟨by kernel_rfl, by kernel_rfl⟩, tot, hR1, hs⟩
    replace hs := of_if_f hs h37
    refine WP.stl 8 ?_
    refine WP.dn ?_
    refine NX.post ?_
    exact ⟨false, ⟨by kernel_rfl, by kernel_rfl⟩, tot, hR1, hs⟩
   clear tot hs hR1
   rintro tm g ⟨q5, hF, tot, hR1, hs⟩
   clear ds
   obtain ⟨ds, rfl⟩ := hF.open
   clear hF
   unfold F.octet_number.c2 at hs
   refine CP.cond (b := q5) (by kernel_rfl) (fun h34 => ?_) (fun h34 => ?_)
   ·replace hs := of_if_t hs h34
    refine CP.seqR ?_
    refine WP.stl 3 ?_
    refine WP.dn ?_
    refine NX.then_n ?_
    refine CP.ret ?_
    refine NX.block_r ?_
    refine NX.then_r ?_
    refine NX.block_r ?_
    refine NX.then_r ?_
    refine NX.then_r ?_
    refine NX.block_r ?_
    refine NX.then_r ?_
    refine NX.scope_r ?_
    replace hs := Option.some.inj hs
    simp only [Prod.mk.injEq] at hs
    obtain ⟨rfl, rfl, rfl⟩ := hs
    exact NX.fin (v := .tuple #[.int .u64 0, .int .i64 0, .int .i64 3]) (Res.still (by kernel_rfl)) tot htL rfl
   replace hs := of_if_f hs h34
   refine CP.seqR ?_
   refine WP.stl 2 ?_
   replace hs := Option.bind_eq_some_iff.1 hs
   obtain ⟨x13, hk5, hs⟩ := hs
   have hcal5 := P.math_bits_Len8 g (bitAnd .u8 (getI l1 x9) 127) x13 hk5
   refine WP.callC hcal5 (by kernel_rfl) ?_
   rintro _ g5 st5 rfl
   replace hR1 := hR1.mono st5 (fun x => x)
   replace tot := tot.trans st5.pure
   refine WP.stl 5 ?_
   refine WP.dn ?_
   refine NX.then_n ?_
   refine CP.cond (b := decide ((IntKind.i64.wrap (x13 + (IntKind.i64.wrap (7 * x9)))) > 64)) (by kernel_rfl) (fun h35 => ?_) (fun h35 => ?_)
   ·replace hs := of_if_t hs h35
    refine CP.seqR ?_
    refine WP.stl 3 ?_
    refine WP.dn ?_
    refine NX.then_n ?_
    refine CP.ret ?_
    refine NX.block_r ?_
    refine NX.then_r ?_
    refine NX.block_r ?_
    refine NX.then_r ?_
    refine NX.then_r ?_
    refine NX.block_r ?_
    refine NX.then_r ?_
    refine NX.scope_r ?_
    replace hs := Option.some.inj hs
    simp only [Prod.mk.injEq] at hs
    obtain ⟨rfl, rfl, rfl⟩ := hs
    exact NX.fin (v := .tuple #[.int .u64 0, .int .i64 0, .int .i64 3]) (Res.still (by kernel_rfl)) tot htL rfl
   replace hs := of_if_f hs h35
   refine CP.skip ?_
   refine NX.block_n ?_
   refine NX.then_n ?_
   refine CP.seqR ?_
   refine WP.stl 6 ?_
   by_cases hc10 : (0 : Int) ≤ (IntKind.i64.wrap (7 * x9))
   case neg => rw [if_neg hc10] at hs; cases hs
   replace hs := of_if_p hs hc10
   refine WP.shift (left := true) (k := .u64) (yk := .i64) (x := (IntKind.u64.wrap (bitAnd .u8 (getI l1 x9) 127))) (y := (IntKind.i64.wrap (7 * x9))) (by kernel_rfl) hc10 ?_
   refine WP.stl 2 ?_
   refine WP.dn ?_
   refine NX.then_n ?_
   refine CP.refr 54 [(0, .slice a1 n1 c1), (5, .int .u64 (bitOr .u64 x8 (shV true .u64 (IntKind.u64.wrap (bitAnd .u8 (getI l1 x9) 127)) (IntKind.i64.wrap (7 * x9))))), (6, .int .i64 x9), (7, .int .u8 (getI l1 x9)), (8, .slice a1 n1 c1), (9, .int .i64 (l1.length : Int)), (10, .int .i64 x9)] (by kernel_rfl) (by kernel_rfl) ?_
   clear ds
   intro ds
   refine CP.seqR ?_
   refine WP.stl 2 ?_
   refine WP.dn ?_
   refine NX.then_n ?_
   refine CP.cond (b := decide ((getI l1 x9) < 128)) (by kernel_rfl) (fun h36 => ?_) (fun h36 => ?_)
   ·replace hs := of_if_t hs h36
    refine CP.seqR ?_
    refine WP.stl 6 ?_
    refine WP.dn ?_
    refine NX.then_n ?_
    refine CP.ret ?_
    refine NX.block_r ?_
    refine NX.then_r ?_
    refine NX.then_r ?_
    refine NX.block_r ?_
    refine NX.then_r ?_
    refine NX.scope_r ?_
    replace hs := Option.some.inj hs
    simp only [Prod.mk.injEq] at hs
    obtain ⟨rfl, rfl, rfl⟩ := hs
    exact NX.fin (v := .tuple #[.int .u64 (bitOr .u64 x8 (shV true .u64 (IntKind.u64.wrap (bitAnd .u8 (getI l1 x9) 127)) (IntKind.i64.wrap (7 * x9)))), .int .i64 (IntKind.i64.wrap (x9 + 1)), .int .i64 0]) (Res.still (by kernel_rfl)) tot htL rfl
   replace hs := of_if_f hs h36
   refine CP.skip ?_
   refine NX.block_n ?_
   refine NX.then_n ?_
   refine CP.region ?_
   refine WP.stl 2 ?_
   refine WP.dn ?_
   refine NX.post ?_
   exact ⟨(bitOr .u64 x8 (shV true .u64 (IntKind.u64.wrap (bitAnd .u8 (getI l1 x9) 127)) (IntKind.i64.wrap (7 * x9)))), (IntKind.i64.wrap (x9 + 1)), ⟨by kernel_rfl, by kernel_rfl⟩, tot, hR1, hs⟩
  replace hs := of_if_f hs h30
  refine CP.exit ?_
  refine NX.then_e ?_
  refine NX.then_e ?_
  refine NX.block_s ?_
  refine NX.post ?_
  exact ⟨⟨by kernel_rfl, by kernel_rfl⟩, tot, hR1, hs⟩
 clear tot hs hR1
 rintro tm g ⟨hF, tot, hR1, hs⟩
 clear ds
 obtain ⟨ds, rfl⟩ := hF.open
 clear hF
 unfold F.octet_number.c1 at hs
 refine CP.seq ?_
 refine CP.seqR ?_
 refine WP.stl 1 ?_
 refine WP.len (a := a1) (cp := c1) hR1.len (by kernel_rfl) ?_
 refine WP.stl 1 ?_
 refine WP.dn ?_
 refine NX.then_n ?_
 refine CP.cond (b := decide ((l1.length : Int) < 10)) (by kernel_rfl) (fun h15 => ?_) (fun h15 => ?_)
 ·replace hs := of_if_t hs h15
  refine CP.seqR ?_
  refine WP.stl 3 ?_
  refine WP.dn ?_
  refine NX.then_n ?_
  refine CP.ret ?_
  refine NX.then_r ?_
  refine NX.scope_r ?_
  replace hs := Option.some.inj hs
  simp only [Prod.mk.injEq] at hs
  obtain ⟨rfl, rfl, rfl⟩ := hs
  exact NX.fin (v := .tuple #[.int .u64 0, .int .i64 0, .int .i64 4]) (Res.still (by kernel_rfl)) tot htL rfl
 replace hs := of_if_f hs h15
 refine CP.skip ?_
 refine NX.then_n ?_
 refine CP.seqR ?_
 refine WP.stl 3 ?_
 refine WP.dn ?_
 refine NX.then_n ?_
 refine CP.ret ?_
 refine NX.scope_r ?_
 replace hs := Option.some.inj hs
 simp only [Prod.mk.injEq] at hs
 obtain ⟨rfl, rfl, rfl⟩ := hs
 exact NX.fin (v := .tuple #[.int .u64 0, .int .i64 0, .int .i64 3]) (Res.still (by kernel_rfl)) tot htL rfl
end Go.Proofs.Yticlfbpmfejdoaa
