/-
  Walks, written by program: each Go function computes the plain function of its name, in whatever world its arguments' facts hold.
-/
import Derived.Test.YtlnockimfgfcgaaWPt2
namespace Go.Proofs.Ytlnockimfgfcgaa
open Go.RowKit Go.Lab
attribute [local irreducible] WP CP NX wpList Code.wp Calls
set_option maxRecDepth 100000
set_option maxHeartbeats 4000000
set_option linter.unusedVariables false

def F.baizeref32_Bytes (d1 : Arr Int 8) (x1 : Int) (l1 : List Int) : Option ((List Int)) := ((F.baizeref32_text str_0).bind fun l3 => ((F.baizeref01_Bytes d1.1).bind fun l4 => (if l3.length + l4.length ≤ 140737488355328 then ((F.baizeref32_number x1).bind fun l5 => (if (l3 ++ l4).length + l5.length ≤ 140737488355328 then ((F.baizeref01_Bytes l1).bind fun l6 => (if ((l3 ++ l4) ++ l5).length + l6.length ≤ 140737488355328 then (some (((l3 ++ l4) ++ l5) ++ l6)) else none)) else none)) else none)))
theorem P.baizeref32_Bytes (g0 : GW) (r0 : Nat) (d1 : Arr Int 8) (x1 : Int) (l1 : List Int) (a1 : Option Addr) (n1 : Nat) (c1 : Nat) (hR1 : RdS (Kd.int .u8) g0 5 a1 n1 c1 l1) (o1 : List Int) (hs : F.baizeref32_Bytes d1 x1 l1 = some o1) :
  Calls Try.prog 63 #[AG [encA .u8 d1], .int .i64 x1, .slice a1 n1 c1] g0.w (Ret NoM g0 fun v g => ∃ (a_1 : Option Addr) (n_1 : Nat) (c_1 : Nat), v = .slice a_1 n_1 c_1 ∧ OwnS (Kd.int .u8) g r0 5 a_1 n_1 c_1 o1) := by
 refine calls_of (args := [AG [encA .u8 d1], .int .i64 x1, .slice a1 n1 c1]) Try.func63 rfl (r0 + 0) ?_
 intro t ht htL
 refine ⟨_, rfl, ?_⟩
 refine CP.refr 19 [(0, AG [encA .u8 d1]), (1, .int .i64 x1), (2, .slice a1 n1 c1)] (by kernel_rfl) (by kernel_rfl) ?_
 intro ds
 have tot : Step (fun l => NoM l ∨ t ≤ l) g0 g0 := Step.refl _ _
 unfold F.baizeref32_Bytes at hs
 refine CP.seqR ?_
 refine WP.alloc (T := 32) (t + 1) [encA .u8 d1] [8] (by kernel_rfl) (by simp [len_encA]) ?_
 intro g1 b1 st1 hB1
 replace hR1 := hR1.mono st1 (fun x => x)
 replace tot := tot.trans st1.pure
 refine WP.stl 1 ?_
 refine WP.dn ?_
 refine NX.then_n ?_
 refine CP.seq ?_
 obtain ⟨g3, hw1, st3, hnew⟩ := hB1.relab 0
 refine CP.regw hw1 ?_
 replace hR1 := hR1.mono st3 (WL.no1 (by omega))
 replace tot := tot.trans (st3.up1 (.inr (by omega)))
 clear hB1
 have hB1 := hnew
 clear hnew
 replace hs := Option.bind_eq_some_iff.1 hs
 obtain ⟨l3, hk2, hs⟩ := hs
 replace hs := Option.bind_eq_some_iff.1 hs
 obtain ⟨l4, hk3, hs⟩ := hs
 by_cases hc1 : l3.length + l4.length ≤ 140737488355328
 case neg => rw [if_neg hc1] at hs; cases hs
 replace hs := of_if_p hs hc1
 refine CP.drawL (by kernel_rfl) [0, 1, 2, 3] [[], [], [0, 1], [0, 1, 2], [0, 1, 2, 3]] [⟨none, [], [], fun l g => Box g 0 b1 32 [encA .u8 d1] [8]⟩, ⟨some 0, [0], [0], fun l g => ∃ (a4 : Option Addr) (c3 : Nat), l.getD 0 undef = .slice a4 l3.length c3 ∧ OwnS (Kd.int .u8) g (t + 3) 5 a4 l3.length c3 l3⟩, ⟨some 1, [], [1], fun l g => ∃ (a5 : Option Addr), l.getD 0 undef = .slice a5 ((8 : Int).toNat - (0 : Int).toNat) (8 - (0 : Int).toNat) ∧ RdS (Kd.int .u8) g 5 a5 ((8 : Int).toNat - (0 : Int).toNat) (8 - (0 : Int).toNat) d1.1⟩, ⟨some 2, [], [2], fun l g => ∃ (a6 : Option Addr) (c4 : Nat), l.getD 0 undef = .slice a6 l4.length c4 ∧ OwnS (Kd.int .u8) g (t + 4) 5 a6 l4.length c4 l4⟩, ⟨some 3, [0], [3], fun l g => ∃ (a7 : Option Addr) (c5 : Nat), l.getD 0 undef = .slice a7 (l3.length + l4.length) c5 ∧ OwnS (Kd.int .u8) g (t + 3) 5 a7 (l3.length + l4.length) c5 (l3 ++ l4)⟩, ⟨some 3, [], [0], fun l g => ∃ (a4 : Option Addr) (c3 : Nat), l.getD 0 undef = .slice a4 l3.length c3⟩] [[], [], [], [0]] [(t + 3)] [] [4] (by kernel_rfl) (by simp <;> omega) (by simp) ⟨fun _ _ _ _ st h0 hl hj hB1 => (hB1.mono st (fun h => absurd (hl _ h) (by simp <;> omega))), fun _ _ _ _ st h0 hl hj ⟨a4, c3, e0, hR4⟩ => ⟨a4, c3, e0, (hR4.mono st h0 (hj 0 (by simp) _ rfl))⟩, fun _ _ _ _ st h0 hl hj ⟨a5, e1, hR5⟩ => ⟨a5, e1, (RdS.mono (e := 5) hR5 st h0)⟩, fun _ _ _ _ st h0 hl hj ⟨a6, c4, e2, hR6⟩ => ⟨a6, c4, e2, (hR6.mono st h0 (fun h => absurd (hl _ h) (by simp <;> omega)))⟩, fun _ _ _ _ st h0 hl hj ⟨a7, c5, e3, hR7⟩ => ⟨a7, c5, e3, (hR7.mono st h0 (hj 0 (by simp) _ rfl))⟩, fun _ _ _ _ st h0 hl hj ⟨a4, c3, e0⟩ => ⟨a4, c3, e0⟩, tv⟩ ⟨hB1, tv, tv, tv, tv, tv, tv⟩ (by kernel_rfl) (fun vs => by kernel_rfl) ?_ ?_ ?_
 ·intro j hj
  have hq : j = 0 := by have h : j < 1 := hj; omega
  rcases hq with rfl
  ·intro vs gq stq hl hf
   obtain ⟨v0, v1, v2, v3, rfl⟩ := len_k4 hl
   obtain ⟨a7, c5, e3, hR7⟩ := (show ∃ (a7 : Option Addr) (c5 : Nat), v3 = .slice a7 (l3.length + l4.length) c5 ∧ OwnS (Kd.int .u8) gq (t + 3) 5 a7 (l3.length + l4.length) c5 (l3 ++ l4) from hf _ (memI 4 rfl) (by kernel_rfl))
   subst e3
   show Option.isSome _ = true
   kernel_rfl
 ·intro j hj
  have hq : j = 0 ∨ j = 1 ∨ j = 2 ∨ j = 3 := by have h : j < 4 := hj; omega
  rcases hq with rfl | rfl | rfl | rfl
  ·intro vs gq stq hl hf
   obtain ⟨v0, v1, v2, v3, rfl⟩ := len_k4 hl
   have hcal2 := P.baizeref32_text gq (t + 3) str_0 l3 hk2
   refine WP.callC hcal2 (by kernel_rfl) ?_
   rintro _ g4 st4 ⟨a4, n3, c3, rfl, hR4⟩
   obtain rfl := hR4.len
   refine WP.dn (Shown.o (v := .slice a4 l3.length c3) st4.pure ?_)
   exact ⟨tv, ⟨a4, c3, rfl, hR4⟩, tv, tv, tv, tv, tv⟩
  ·intro vs gq stq hl hf
   obtain ⟨v0, v1, v2, v3, rfl⟩ := len_k4 hl
   have hB1 := (show Box gq 0 b1 32 [encA .u8 d1] [8] from hf _ (memI 0 rfl) (by kernel_rfl))
   refine WP.sliceZ (o := 0) (m := 8) (k := .u8) (d := d1) (e := 5) (lo := none) (hi := none) hB1 (by kernel_rfl) (0 : Int) (8 : Int) (by kernel_rfl) (.inl ⟨rfl, rfl⟩) (.inl ⟨rfl, rfl⟩) (by decide) ?_
   intro a5 hR5
   rw [sliceI_all (m := 8) (d := d1) (j := (8 : Int)) rfl] at hR5
   refine WP.dn (Shown.ok (v := .slice a5 ((8 : Int).toNat - (0 : Int).toNat) (8 - (0 : Int).toNat)) (by kernel_rfl) (Step.refl _ _) ?_)
   exact ⟨tv, tv, ⟨a5, rfl, hR5⟩, tv, tv, tv, tv⟩
  ·intro vs gq stq hl hf
   obtain ⟨v0, v1, v2, v3, rfl⟩ := len_k4 hl
   obtain ⟨a5, e1, hR5⟩ := (show ∃ (a5 : Option Addr), v1 = .slice a5 ((8 : Int).toNat - (0 : Int).toNat) (8 - (0 : Int).toNat) ∧ RdS (Kd.int .u8) gq 5 a5 ((8 : Int).toNat - (0 : Int).toNat) (8 - (0 : Int).toNat) d1.1 from hf _ (memI 2 rfl) (by kernel_rfl))
   subst e1
   have hcal3 := P.baizeref01_Bytes gq (t + 4) d1.1 a5 ((8 : Int).toNat - (0 : Int).toNat) (8 - (0 : Int).toNat) hR5 l4 hk3
   refine WP.callC hcal3 (by kernel_rfl) ?_
   rintro _ g5 st5 ⟨a6, n4, c4, rfl, hR6⟩
   obtain rfl := hR6.len
   refine WP.dn (Shown.o (v := .slice a6 l4.length c4) st5.pure ?_)
   exact ⟨tv, tv, tv, ⟨a6, c4, rfl, hR6⟩, tv, tv, tv⟩
  ·intro vs gq stq hl hf
   obtain ⟨v0, v1, v2, v3, rfl⟩ := len_k4 hl
   obtain ⟨a4, c3, e0, hR4⟩ := (show ∃ (a4 : Option Addr) (c3 : Nat), v0 = .slice a4 l3.length c3 ∧ OwnS (Kd.int .u8) gq (t + 3) 5 a4 l3.length c3 l3 from hf _ (memI 1 rfl) (by kernel_rfl))
   subst e0
   obtain ⟨a6, c4, e2, hR6⟩ := (show ∃ (a6 : Option Addr) (c4 : Nat), v2 = .slice a6 l4.length c4 ∧ OwnS (Kd.int .u8) gq (t + 4) 5 a6 l4.length c4 l4 from hf _ (memI 3 rfl) (by kernel_rfl))
   subst e2
   refine WP.append (kd := (Kd.int .u8)) (t := 33) (e := 5) (bytes := 1) (a2 := a6) (c2 := c4) hR4 hR6.src hR6.len (by kernel_rfl) (by kernel_rfl) (by omega) (by simp only [maxLen]; omega) (by omega) ?_
   intro g6 a7 c5 st6 hR7
   refine WP.dn (Shown.o (v := .slice a7 (l3.length + l4.length) c5) st6 ?_)
   exact ⟨tv, tv, tv, tv, ⟨a7, c5, rfl, hR7⟩, ⟨a4, c3, rfl⟩, tv⟩
 intro vs g7 st7 hl hf
 obtain ⟨v0, v1, v2, v3, rfl⟩ := len_k4 hl
 obtain ⟨a7, c5, e3, hR7⟩ := (show ∃ (a7 : Option Addr) (c5 : Nat), v3 = .slice a7 (l3.length + l4.length) c5 ∧ OwnS (Kd.int .u8) g7 (t + 3) 5 a7 (l3.length + l4.length) c5 (l3 ++ l4) from hf _ (memI 4 rfl) (by kernel_rfl))
 subst e3
 replace hR1 := hR1.mono st7 (WL.no1 (by omega))
 replace tot := tot.trans (st7.up1 (.inr (by omega)))
 refine NX.then_n ?_
 refine CP.refr 19 [(1, .int .i64 x1), (2, .slice a1 n1 c1), (7, .slice a7 (l3.length + l4.length) c5)] (by kernel_rfl) (by kernel_rfl) ?_
 clear ds
 intro ds
 refine CP.seqR ?_
 refine WP.stl 2 ?_
 replace hs := Option.bind_eq_some_iff.1 hs
 obtain ⟨l5, hk4, hs⟩ := hs
 have hcal4 := P.baizeref32_number g7 (t + 5) x1 l5 hk4
 refine WP.callC hcal4 (by kernel_rfl) ?_
 rintro _ g8 st8 ⟨a8, n5, c6, rfl, hR8⟩
 replace hR1 := hR1.mono st8 (fun x => x)
 replace hR7 := hR7.mono st8 (fun x => x) (fun x => x)
 replace tot := tot.trans st8.pure
 by_cases hc2 : (l3 ++ l4).length + l5.length ≤ 140737488355328
 case neg => rw [if_neg hc2] at hs; cases hs
 replace hs := of_if_p hs hc2
 refine WP.append (kd := (Kd.int .u8)) (t := 33) (e := 5) (bytes := 1) (a2 := a8) (c2 := c6) hR7 hR8.src hR8.len (by kernel_rfl) (by kernel_rfl) (by omega) (by simp only [maxLen]; omega) (by omega) ?_
 intro g9 a9 c7 st9 hR9
 replace hR1 := hR1.mono st9 (WL.no1 (by omega))
 replace hR8 := hR8.mono st9 (WL.no1 (by omega)) (WL.no1 (by omega))
 replace tot := tot.trans (st9.up1 (.inr (by omega)))
 refine WP.stl 1 ?_
 replace hs := Option.bind_eq_some_iff.1 hs
 obtain ⟨l6, hk5, hs⟩ := hs
 have hcal5 := P.baizeref01_Bytes g9 (t + 6) l1 a1 n1 c1 hR1 l6 hk5
 refine WP.callC hcal5 (by kernel_rfl) ?_
 rintro _ g10 st10 ⟨a10, n6, c8, rfl, hR10⟩
 replace hR1 := hR1.mono st10 (fun x => x)
 replace hR8 := hR8.mono st10 (fun x => x) (fun x => x)
 replace hR9 := hR9.mono st10 (fun x => x) (fun x => x)
 replace tot := tot.trans st10.pure
 by_cases hc3 : ((l3 ++ l4) ++ l5).length + l6.length ≤ 140737488355328
 case neg => rw [if_neg hc3] at hs; cases hs
 replace hs := of_if_p hs hc3
 refine WP.append (kd := (Kd.int .u8)) (t := 33) (e := 5) (bytes := 1) (a2 := a10) (c2 := c8) hR9 hR10.src hR10.len (by kernel_rfl) (by kernel_rfl) (by omega) (by simp only [maxLen]; omega) (by omega) ?_
 intro g11 a11 c9 st11 hR11
 replace hR1 := hR1.mono st11 (WL.no1 (by omega))
 replace hR8 := hR8.mono st11 (WL.no1 (by omega)) (WL.no1 (by omega))
 replace hR10 := hR10.mono st11 (WL.no1 (by omega)) (WL.no1 (by omega))
 replace tot := tot.trans (st11.up1 (.inr (by omega)))
 refine WP.stl 1 ?_
 refine WP.dn ?_
 refine NX.then_n ?_
 refine CP.ret ?_
 obtain ⟨g12, hw2, st12, hnew⟩ := hR11.relab (by omega) r0
 refine NX.regw hw2 ?_
 replace tot := tot.trans (st12.up1 (.inr (by omega)))
 clear hR11
 have hR11 := hnew
 clear hnew
 replace hs := Option.some.inj hs
 obtain rfl := hs
 exact NX.fin (v := .slice a11 (((l3.length + l4.length) + n5) + n6) c9) (Res.still (by kernel_rfl)) tot htL ⟨a11, (((l3.length + l4.length) + n5) + n6), c9, rfl, hR11⟩
def F.baizeref02_Begin (x1 : Int) : Option (Int × Int × Int × Int) := (some (2611923443488327891, 1376283091369227076, 11820040416388919760, x1))
theorem P.baizeref02_Begin (g0 : GW) (x1 : Int) (o1 : Int) (o2 : Int) (o3 : Int) (o4 : Int) (hs : F.baizeref02_Begin x1 = some (o1, o2, o3, o4)) :
  Calls Try.prog 90 #[.int .u64 x1] g0.w (Ret NoM g0 fun v g => v = AG [[.int .u64 o1], [.int .u64 o2], [.int .u64 o3], [.int .u64 o4]]) := by
 refine calls_of (args := [.int .u64 x1]) Try.func90 rfl (0) ?_
 intro t ht htL
 refine ⟨_, rfl, ?_⟩
 refine CP.refr 5 [(0, .int .u64 x1)] (by kernel_rfl) (by kernel_rfl) ?_
 intro ds
 have tot : Step (fun l => NoM l ∨ t ≤ l) g0 g0 := Step.refl _ _
 unfold F.baizeref02_Begin at hs
 refine CP.seqR ?_
 refine WP.alloc (T := 157) (t + 1) [[.int .u64 0], [.int .u64 0], [.int .u64 0], [.int .u64 0]] [1, 1, 1, 1] (by kernel_rfl) rfl ?_
 intro g1 b1 st1 hB1
 replace tot := tot.trans st1.pure
 refine WP.dn ?_
 refine NX.then_n ?_
 refine CP.seqR ?_
 refine WP.stl 2 ?_
 refine WP.storeB (ty := 157) (off := 0) (v := AG [[.int .u64 2611923443488327891], [.int .u64 1376283091369227076], [.int .u64 11820040416388919760], [.int .u64 x1]]) hB1 [[.int .u64 2611923443488327891], [.int .u64 1376283091369227076], [.int .u64 11820040416388919760], [.int .u64 x1]] [1, 1, 1, 1] (by kernel_rfl) (by kernel_rfl) rfl (by kernel_rfl) [[.int .u64 2611923443488327891], [.int .u64 1376283091369227076], [.int .u64 11820040416388919760], [.int .u64 x1]] (by kernel_rfl) (.one rfl (.one rfl (.one rfl (.one rfl .nil)))) ?_
 intro g2 st2 hB2
 replace tot := tot.trans (st2.up1 (.inr (by omega)))
 clear hB1
 have hB1 := hB2
 clear hB2
 refine WP.dn ?_
 refine NX.then_n ?_
 refine CP.ret ?_
 replace hs := Option.some.inj hs
 simp only [Prod.mk.injEq] at hs
 obtain ⟨rfl, rfl, rfl, rfl⟩ := hs
 exact NX.fin (v := AG [[.int .u64 2611923443488327891], [.int .u64 1376283091369227076], [.int .u64 11820040416388919760], [.int .u64 x1]]) (Res.one rfl (RV.box (agg := true) (size := 4) (rs := [[.int .u64 2611923443488327891], [.int .u64 1376283091369227076], [.int .u64 11820040416388919760], [.int .u64 x1]]) hB1 (by kernel_rfl) (by kernel_rfl) (by kernel_rfl) (by kernel_rfl))) tot htL rfl
def F.baizeref02_Num.l1 (d1 : Arr Int 8) : Nat → Int → Int → Option (Int)
 | 0, _, _ => none
 | k + 1, x1, x2 => (if decide (x2 ≥ 0) = true then (if (0 : Int) ≤ x2 ∧ x2 < (8 : Int) then (F.baizeref02_Num.l1 d1 k (IntKind.u64.wrap ((IntKind.u64.wrap (x1 * 256)) + (IntKind.u64.wrap (aget d1 x2)))) (IntKind.i64.wrap (x2 - 1))) else none) else (some x1))
def F.baizeref02_Num (d1 : Arr Int 8) : Option (Int) := (F.baizeref02_Num.l1 d1 fuel 0 7)
theorem P.baizeref02_Num (g0 : GW) (d1 : Arr Int 8) (o1 : Int) (hs : F.baizeref02_Num d1 = some o1) :
  Calls Try.prog 99 #[AG [encA .u8 d1]] g0.w (Ret NoM g0 fun v g => v = .int .u64 o1) := by
 refine calls_of (args := [AG [encA .u8 d1]]) Try.func99 rfl (0) ?_
 intro t ht htL
 refine ⟨_, rfl, ?_⟩
 refine CP.refr 17 [(0, AG [encA .u8 d1])] (by kernel_rfl) (by kernel_rfl) ?_
 intro ds
 have tot : Step (fun l => NoM l ∨ t ≤ l) g0 g0 := Step.refl _ _
 unfold F.baizeref02_Num at hs
 refine CP.seqR ?_
 refine WP.alloc (T := 32) (t + 1) [encA .u8 d1] [8] (by kernel_rfl) (by simp [len_encA]) ?_
 intro g1 b1 st1 hB1
 replace tot := tot.trans st1.pure
 refine WP.stl 1 ?_
 refine WP.dn ?_
 refine NX.then_n ?_
 refine CP.seqR ?_
 refine WP.stl 1 ?_
 refine WP.dn ?_
 refine NX.then_n ?_
 refine CP.seq ?_
 refine CP.seqR ?_
 refine WP.stl 1 ?_
 refine WP.dn ?_
 refine NX.then_n ?_
 refine CP.block ?_
 generalize fuel = k1 at hs
 refine CP.loop (fun k1 tm g => ∃ (x1 : Int) (x2 : Int), Fr 17 [(1, .pointer (some ⟨b1, 0, none⟩)), (3, .int .u64 x1), (4, .int .i64 x2)] tm ∧ Step (fun l => NoM l ∨ t ≤ l) g0 g ∧ Box g (t + 1) b1 32 [encA .u8 d1] [8] ∧ F.baizeref02_Num.l1 d1 k1 x1 x2 = some o1) k1 ?_ ?_ ?_
 ·exact ⟨0, 7, ⟨by kernel_rfl, by kernel_rfl⟩, tot, hB1, hs⟩
 ·rintro tm g ⟨x1, x2, hF, tot, hB1, hs⟩
  exact absurd hs (by simp [F.baizeref02_Num.l1])
 clear tot hs hB1
 rintro k1 tm g ⟨x1, x2, hF, tot, hB1, hs⟩
 clear ds
 obtain ⟨ds, rfl⟩ := hF.open
 clear hF
 unfold F.baizeref02_Num.l1 at hs
 refine CP.seq ?_
 refine CP.seqR ?_
 refine WP.stl 2 ?_
 refine WP.dn ?_
 refine NX.then_n ?_
 refine CP.cond (b := decide (x2 ≥ 0)) (by kernel_rfl) (fun h3 => ?_) (fun h3 => ?_)
 ·replace hs := of_if_t hs h3
  refine CP.skip ?_
  refine NX.then_n ?_
  refine CP.seq ?_
  refine CP.block ?_
  refine CP.region ?_
  refine WP.stl 3 ?_
  by_cases hc2 : (0 : Int) ≤ x2 ∧ x2 < (8 : Int)
  case neg => rw [if_neg hc2] at hs; cases hs
  replace hs := of_if_p hs hc2
  refine WP.ixBox (t := 32) (e := 5) (m := 8) (size := 1) (b := b1) (off := 0) (k := .i64) (i := x2) (by kernel_rfl) (by kernel_rfl) hc2 ?_
  refine WP.loadE (ty := 5) (o := 0) (m := 8) (k := .u8) (d := d1) (i := x2) hB1 (by kernel_rfl) hc2 (by kernel_rfl) (by kernel_rfl) ?_
  refine WP.stl 3 ?_
  refine WP.dn ?_
  refine NX.block_n ?_
  refine NX.then_n ?_
  refine CP.region ?_
  refine WP.stl 3 ?_
  refine WP.dn ?_
  refine NX.post ?_
  exact ⟨(IntKind.u64.wrap ((IntKind.u64.wrap (x1 * 256)) + (IntKind.u64.wrap (aget d1 x2)))), (IntKind.i64.wrap (x2 - 1)), ⟨by kernel_rfl, by kernel_rfl⟩, tot, hB1, hs⟩
 replace hs := of_if_f hs h3
 refine CP.exit ?_
 refine NX.then_e ?_
 refine NX.then_e ?_
 refine NX.block_s ?_
 refine NX.then_n ?_
 refine CP.seqR ?_
 refine WP.stl 2 ?_
 refine WP.dn ?_
 refine NX.then_n ?_
 refine CP.ret ?_
 replace hs := Option.some.inj hs
 obtain rfl := hs
 exact NX.fin (v := .int .u64 x1) (Res.still (by kernel_rfl)) tot htL rfl
def F.baizeref02_left (x1 : Int) (x2 : Int) : Option (Int) := (if (0 : Int) ≤ x2 then (if (0 : Int) ≤ (IntKind.u64.wrap (64 - x2)) then (some (bitOr .u64 (shV true .u64 x1 x2) (shV false .u64 x1 (IntKind.u64.wrap (64 - x2))))) else none) else none)
theorem P.baizeref02_left (g0 : GW) (x1 : Int) (x2 : Int) (o1 : Int) (hs : F.baizeref02_left x1 x2 = some o1) :
  Calls Try.prog 106 #[.int .u64 x1, .int .u64 x2] g0.w (Ret NoM g0 fun v g => v = .int .u64 o1) := by
 refine calls_of (args := [.int .u64 x1, .int .u64 x2]) Try.func106 rfl (0) ?_
 intro t ht htL
 refine ⟨_, rfl, ?_⟩
 refine CP.refr 13 [(0, .int .u64 x1), (1, .int .u64 x2)] (by kernel_rfl) (by kernel_rfl) ?_
 intro ds
 have tot : Step (fun l => NoM l ∨ t ≤ l) g0 g0 := Step.refl _ _
 unfold F.baizeref02_left at hs
 refine CP.seqR ?_
 refine WP.stl 1 ?_
 refine WP.dn ?_
 refine NX.then_n ?_
 refine CP.seqR ?_
 refine WP.stl 2 ?_
 by_cases hc1 : (0 : Int) ≤ x2
 case neg => rw [if_neg hc1] at hs; cases hs
 replace hs := of_if_p hs hc1
 refine WP.shift (left := true) (k := .u64) (yk := .u64) (x := x1) (y := x2) (by kernel_rfl) hc1 ?_
 refine WP.stl 3 ?_
 by_cases hc2 : (0 : Int) ≤ (IntKind.u64.wrap (64 - x2))
 case neg => rw [if_neg hc2] at hs; cases hs
 replace hs := of_if_p hs hc2
 refine WP.shift (left := false) (k := .u64) (yk := .u64) (x := x1) (y := (IntKind.u64.wrap (64 - x2))) (by kernel_rfl) hc2 ?_
 refine WP.stl 2 ?_
 refine WP.dn ?_
 refine NX.then_n ?_
 refine CP.ret ?_
 replace hs := Option.some.inj hs
 obtain rfl := hs
 exact NX.fin (v := .int .u64 (bitOr .u64 (shV true .u64 x1 x2) (shV false .u64 x1 (IntKind.u64.wrap (64 - x2))))) (Res.still (by kernel_rfl)) tot htL rfl
def F.baizeref02_Stir.l1 : Nat → Int → Int → Int → Int → Int → Option (Int × Int × Int × Int)
 | 0, _, _, _, _, _ => none
 | k + 1, x9, x10, x11, x12, x13 => (if decide (x13 ≤ 6) = true then ((F.baizeref02_left (bitXor .u64 x12 (bitXor .u64 (IntKind.u64.wrap (x9 + x10)) x13)) 32).bind fun x23 => ((F.baizeref02_left (bitXor .u64 x10 (IntKind.u64.wrap (x11 + x23))) 24).bind fun x24 => ((F.baizeref02_left (bitXor .u64 x23 (IntKind.u64.wrap ((bitXor .u64 (IntKind.u64.wrap (x9 + x10)) x13) + x24))) 16).bind fun x25 => ((F.baizeref02_left (bitXor .u64 x24 (IntKind.u64.wrap ((IntKind.u64.wrap (x11 + x23)) + x25))) 63).bind fun x26 => (F.baizeref02_Stir.l1 k (IntKind.u64.wrap ((bitXor .u64 (IntKind.u64.wrap (x9 + x10)) x13) + x24)) x26 (IntKind.u64.wrap ((IntKind.u64.wrap (x11 + x23)) + x25)) x25 (IntKind.u64.wrap (x13 + 1))))))) else (some (x9, x10, x11, x12)))
def F.baizeref02_Stir (x1 : Int) (x2 : Int) (x3 : Int) (x4 : Int) : Option (Int × Int × Int × Int) := (F.baizeref02_Stir.l1 fuel x1 x2 x3 x4 1)
theorem P.baizeref02_Stir (g0 : GW) (x1 : Int) (x2 : Int) (x3 : Int) (x4 : Int) (o1 : Int) (o2 : Int) (o3 : Int) (o4 : Int) (hs : F.baizeref02_Stir x1 x2 x3 x4 = some (o1, o2, o3, o4)) :
  Calls Try.prog 104 #[AG [[.int .u64 x1], [.int .u64 x2], [.int .u64 x3], [.int .u64 x4]]] g0.w (Ret NoM g0 fun v g => v = AG [[.int .u64 o1], [.int .u64 o2], [.int .u64 o3], [.int .u64 o4]]) := by
 refine calls_of (args := [AG [[.int .u64 x1], [.int .u64 x2], [.int .u64 x3], [.int .u64 x4]]]) Try.func104 rfl (0) ?_
 intro t ht htL
 refine ⟨_, rfl, ?_⟩
 refine CP.refr 63 [(0, AG [[.int .u64 x1], [.int .u64 x2], [.int .u64 x3], [.int .u64 x4]])] (by kernel_rfl) (by kernel_rfl) ?_
 intro ds
 have tot : Step (fun l => NoM l ∨ t ≤ l) g0 g0 := Step.refl _ _
 unfold F.baizeref02_Stir at hs
 refine CP.seqR ?_
 refine WP.alloc (T := 157) (t + 1) [[.int .u64 x1], [.int .u64 x2], [.int .u64 x3], [.int .u64 x4]] [1, 1, 1, 1] (by kernel_rfl) rfl ?_
 intro g1 b1 st1 hB1
 replace tot := tot.trans st1.pure
 refine WP.alloc (T := 157) (t + 2) [[.int .u64 0], [.int .u64 0], [.int .u64 0], [.int .u64 0]] [1, 1, 1, 1] (by kernel_rfl) rfl ?_
 intro g2 b2 st2 hB2
 replace hB1 := hB1.mono st2 (fun x => x)
 replace tot := tot.trans st2.pure
 refine WP.dn ?_
 refine NX.then_n ?_
 refine CP.seq ?_
 refine CP.seqR ?_
 refine WP.stl 1 ?_
 refine WP.dn ?_
 refine NX.then_n ?_
 refine CP.block ?_
 generalize fuel = k1 at hs
 refine CP.loop (fun k1 tm g => ∃ (x9 : Int) (x10 : Int) (x11 : Int) (x12 : Int) (x13 : Int), Fr 63 [(1, .pointer (some ⟨b1, 0, none⟩)), (2, .pointer (some ⟨b2, 0, none⟩)), (3, .int .u64 x13)] tm ∧ Step (fun l => NoM l ∨ t ≤ l) g0 g ∧ Box g (t + 1) b1 157 [[.int .u64 x9], [.int .u64 x10], [.int .u64 x11], [.int .u64 x12]] [1, 1, 1, 1] ∧ Box g (t + 2) b2 157 [[.int .u64 0], [.int .u64 0], [.int .u64 0], [.int .u64 0]] [1, 1, 1, 1] ∧ F.baizeref02_Stir.l1 k1 x9 x10 x11 x12 x13 = some (o1, o2, o3, o4)) k1 ?_ ?_ ?_
 ·exact ⟨x1, x2, x3, x4, 1, ⟨by kernel_rfl, by kernel_rfl⟩, tot, hB1, hB2, hs⟩
 ·rintro tm g ⟨x9, x10, x11, x12, x13, hF, tot, hB1, hB2, hs⟩
  exact absurd hs (by simp [F.baizeref02_Stir.l1])
 clear tot hs hB1 hB2
 rintro k1 tm g ⟨x9, x10, x11, x12, x13, hF, tot, hB1, hB2, hs⟩
 clear ds
 obtain ⟨ds, rfl⟩ := hF.open
 clear hF
 unfold F.baizeref02_Stir.l1 at hs
 refine CP.seq ?_
 refine CP.seqR ?_
 refine WP.stl 2 ?_
 refine WP.dn ?_
 refine NX.then_n ?_
 refine CP.cond (b := decide (x13 ≤ 6)) (by kernel_rfl) (fun h3 => ?_) (fun h3 => ?_)
 ·replace hs := of_if_t hs h3
  refine CP.skip ?_
  refine NX.then_n ?_
  refine CP.seq ?_
  refine CP.block ?_
  refine CP.seqR ?_
  refine WP.stl 1 ?_
  refine WP.loadB (v := .int .u64 x9) hB1 (by kernel_rfl) (by kernel_rfl) ?_
  refine WP.stl 1 ?_
  refine WP.loadB (v := .int .u64 x10) hB1 (by kernel_rfl) (by kernel_rfl) ?_
  refine WP.stl 4 ?_
  refine WP.storeB (ty := 95) (off := 0) (v := .int .u64 (bitXor .u64 (IntKind.u64.wrap (x9 + x10)) x13)) hB1 [[.int .u64 (bitXor .u64 (IntKind.u64.wrap (x9 + x10)) x13)]] [1] (by kernel_rfl) (by kernel_rfl) rfl (by kernel_rfl) [[.int .u64 (bitXor .u64 (IntKind.u64.wrap (x9 + x10)) x13)], [.int .u64 x10], [.int .u64 x11], [.int .u64 x12]] (by kernel_rfl) (.one rfl .nil) ?_
  intro g29 st29 hB21
  replace hB2 := hB2.mono st29 (WL.no1 (by omega))
  replace tot := tot.trans (st29.up1 (.inr (by omega)))
  clear hB1
  have hB1 := hB21
  clear hB21
  refine WP.dn ?_
  refine NX.then_n ?_
  refine CP.seqR ?_
  refine WP.stl 1 ?_
  refine WP.loadB (v := .int .u64 x12) hB1 (by kernel_rfl) (by kernel_rfl) ?_
  refine WP.stl 1 ?_
  refine WP.loadB (v := .int .u64 (bitXor .u64 (IntKind.u64.wrap (x9 + x10)) x13)) hB1 (by kernel_rfl) (by kernel_rfl) ?_
  refine WP.stl 1 ?_
  replace hs := Option.bind_eq_some_iff.1 hs
  obtain ⟨x23, hk9, hs⟩ := hs
  have hcal9 := P.baizeref02_left g29 (bitXor .u64 x12 (bitXor .u64 (IntKind.u64.wrap (x9 + x10)) x13)) 32 x23 hk9
  refine WP.callC hcal9 (by kernel_rfl) ?_
  rintro _ g30 st30 rfl
  replace hB1 := hB1.mono st30 (fun x => x)
  replace hB2 := hB2.mono st30 (fun x => x)
  replace tot := tot.trans st30.pure
  refine WP.stl 1 ?_
  refine WP.storeB (ty := 95) (off := 3) (v := .int .u64 x23) hB1 [[.int .u64 x23]] [1] (by kernel_rfl) (by kernel_rfl) rfl (by kernel_rfl) [[.int .u64 (bitXor .u64 (IntKind.u64.wrap (x9 + x10)) x13)], [.int .u64 x10], [.int .u64 x11], [.int .u64 x23]] (by kernel_rfl) (.one rfl .nil) ?_
  intro g31 st31 hB22
  replace hB2 := hB2.mono st31 (WL.no1 (by omega))
  replace tot := tot.trans (st31.up1 (.inr (by omega)))
  clear hB1
  have hB1 := hB22
  clear hB22
  refine WP.dn ?_
  refine NX.then_n ?_
  refine CP.refr 63 [(1, .pointer (some ⟨b1, 0, none⟩)), (2, .pointer (some ⟨b2, 0, none⟩)), (3, .int .u64 x13)] (by kernel_rfl) (by kernel_rfl) ?_
  clear ds
  intro ds
  refine CP.seqR ?_
  refine WP.stl 1 ?_
  refine WP.loadB (v := .int .u64 x11) hB1 (by kernel_rfl) (by kernel_rfl) ?_
  refine WP.stl 1 ?_
  refine WP.loadB (v := .int .u64 x23) hB1 (by kernel_rfl) (by kernel_rfl) ?_
  refine WP.stl 2 ?_
  refine WP.storeB (ty := 95) (off := 2) (v := .int .u64 (IntKind.u64.wrap (x11 + x23))) hB1 [[.int .u64 (IntKind.u64.wrap (x11 + x23))]] [1] (by kernel_rfl) (by kernel_rfl) rfl (by kernel_rfl) [[.int .u64 (bitXor .u64 (IntKind.u64.wrap (x9 + x10)) x13)], [.int .u64 x10], [.int .u64 (IntKind.u64.wrap (x11 + x23))], [.int .u64 x23]] (by kernel_rfl) (.one rfl .nil) ?_
  intro g32 st32 hB23
  replace hB2 := hB2.mono st32 (WL.no1 (by omega))
  replace tot := tot.trans (st32.up1 (.inr (by omega)))
  clear hB1
  have hB1 := hB23
  clear hB23
  refine WP.dn ?_
  refine NX.then_n ?_
  refine CP.seqR ?_
  refine WP.stl 1 ?_
  refine WP.loadB (v := .int .u64 x10) hB1 (by kernel_rfl) (by kernel_rfl) ?_
  refine WP.stl 1 ?_
  refine WP.loadB (v := .int .u64 (IntKind.u64.wrap (x11 + x23))) hB1 (by kernel_rfl) (by kernel_rfl) ?_
  refine WP.stl 1 ?_
  replace hs := Option.bind_eq_some_iff.1 hs
  obtain ⟨x24, hk10, hs⟩ := hs
  have hcal10 := P.baizeref02_left g32 (bitXor .u64 x10 (IntKind.u64.wrap (x11 + x23))) 24 x24 hk10
  refine WP.callC hcal10 (by kernel_rfl) ?_
  rintro _ g33 st33 rfl
  replace hB1 := hB1.mono st33 (fun x => x)
  replace hB2 := hB2.mono st33 (fun x => x)
  replace tot := tot.trans st33.pure
  refine WP.stl 1 ?_
  refine WP.storeB (ty := 95) (off := 1) (v := .int .u64 x24) hB1 [[.int .u64 x24]] [1] (by kernel_rfl) (by kernel_rfl) rfl (by kernel_rfl) [[.int .u64 (bitXor .u64 (IntKind.u64.wrap (x9 + x10)) x13)], [.int .u64 x24], [.int .u64 (IntKind.u64.wrap (x11 + x23))], [.int .u64 x23]] (by kernel_rfl) (.one rfl .nil) ?_
  intro g34 st34 hB24
  replace hB2 := hB2.mono st34 (WL.no1 (by omega))
  replace tot := tot.trans (st34.up1 (.inr (by omega)))
  clear hB1
  have hB1 := hB24
  clear hB24
  refine WP.dn ?_
  refine NX.then_n ?_
  refine CP.refr 63 [(1, .pointer (some ⟨b1, 0, none⟩)), (2, .pointer (some ⟨b2, 0, none⟩)), (3, .int .u64 x13)] (by kernel_rfl) (by kernel_rfl) ?_
  clear ds
  intro ds
  refine CP.seqR ?_
  refine WP.stl 1 ?_
  refine WP.loadB (v := .int .u64 (bitXor .u64 (IntKind.u64.wrap (x9 + x10)) x13)) hB1 (by kernel_rfl) (by kernel_rfl) ?_
  refine WP.stl 1 ?_
  refine WP.loadB (v := .int .u64 x24) hB1 (by kernel_rfl) (by kernel_rfl) ?_
  refine WP.stl 2 ?_
  refine WP.storeB (ty := 95) (off := 0) (v := .int .u64 (IntKind.u64.wrap ((bitXor .u64 (IntKind.u64.wrap (x9 + x10)) x13) + x24))) hB1 [[.int .u64 (IntKind.u64.wrap ((bitXor .u64 (IntKind.u64.wrap (x9 + x10)) x13) + x24))]] [1] (by kernel_rfl) (by kernel_rfl) rfl (by kernel_rfl) [[.int .u64 (IntKind.u64.wrap ((bitXor .u64 (IntKind.u64.wrap (x9 + x10)) x13) + x24))], [.int .u64 x24], [.int .u64 (IntKind.u64.wrap (x11 + x23))], [.int .u64 x23]] (by kernel_rfl) (.one rfl .nil) ?_
  intro g35 st35 hB25
  replace hB2 := hB2.mono st35 (WL.no1 (by omega))
  replace tot := tot.trans (st35.up1 (.inr (by omega)))
  clear hB1
  have hB1 := hB25
  clear hB25
  refine WP.dn ?_
  refine NX.then_n ?_
  refine CP.seqR ?_
  refine WP.stl 1 ?_
  refine WP.loadB (v := .int .u64 x23) hB1 (by kernel_rfl) (by kernel_rfl) ?_
  refine WP.stl 1 ?_
  refine WP.loadB (v := .int .u64 (IntKind.u64.wrap ((bitXor .u64 (IntKind.u64.wrap (x9 + x10)) x13) + x24))) hB1 (by kernel_rfl) (by kernel_rfl) ?_
  refine WP.stl 1 ?_
  replace hs := Option.bind_eq_some_iff.1 hs
  obtain ⟨x25, hk11, hs⟩ := hs
  have hcal11 := P.baizeref02_left g35 (bitXor .u64 x23 (IntKind.u64.wrap ((bitXor .u64 (IntKind.u64.wrap (x9 + x10)) x13) + x24))) 16 x25 hk11
  refine WP.callC hcal11 (by kernel_rfl) ?_
  rintro _ g36 st36 rfl
  replace hB1 := hB1.mono st36 (fun x => x)
  replace hB2 := hB2.mono st36 (fun x => x)
  replace tot := tot.trans st36.pure
  refine WP.stl 1 ?_
  refine WP.storeB (ty := 95) (off := 3) (v := .int .u64 x25) hB1 [[.int .u64 x25]] [1] (by kernel_rfl) (by kernel_rfl) rfl (by kernel_rfl) [[.int .u64 (IntKind.u64.wrap ((bitXor .u64 (IntKind.u64.wrap (x9 + x10)) x13) + x24))], [.int .u64 x24], [.int .u64 (IntKind.u64.wrap (x11 + x23))], [.int .u64 x25]] (by kernel_rfl) (.one rfl .nil) ?_
  intro g37 st37 hB26
  replace hB2 := hB2.mono st37 (WL.no1 (by omega))
  replace tot := tot.trans (st37.up1 (.inr (by omega)))
  clear hB1
  have hB1 := hB26
  clear hB26
  refine WP.dn ?_
  refine NX.then_n ?_
  refine CP.refr 63 [(1, .pointer (some ⟨b1, 0, none⟩)), (2, .pointer (some ⟨b2, 0, none⟩)), (3, .int .u64 x13)] (by kernel_rfl) (by kernel_rfl) ?_
  clear ds
  intro ds
  refine CP.seqR ?_
  refine WP.stl 1 ?_
  refine WP.loadB (v := .int .u64 (IntKind.u64.wrap (x11 + x23))) hB1 (by kernel_rfl) (by kernel_rfl) ?_
  refine WP.stl 1 ?_
  refine WP.loadB (v := .int .u64 x25) hB1 (by kernel_rfl) (by kernel_rfl) ?_
  refine WP.stl 2 ?_
  refine WP.storeB (ty := 95) (off := 2) (v := .int .u64 (IntKind.u64.wrap ((IntKind.u64.wrap (x11 + x23)) + x25))) hB1 [[.int .u64 (IntKind.u64.wrap ((IntKind.u64.wrap (x11 + x23)) + x25))]] [1] (by kernel_rfl) (by kernel_rfl) rfl (by kernel_rfl) [[.int .u64 (IntKind.u64.wrap ((bitXor .u64 (IntKind.u64.wrap (x9 + x10)) x13) + x24))], [.int .u64 x24], [.int .u64 (IntKind.u64.wrap ((IntKind.u64.wrap (x11 + x23)) + x25))], [.int .u64 x25]] (by kernel_rfl) (.one rfl .nil) ?_
  intro g38 st38 hB27
  replace hB2 := hB2.mono st38 (WL.no1 (by omega))
  replace tot := tot.trans (st38.up1 (.inr (by omega)))
  clear hB1
  have hB1 := hB27
  clear hB27
  refine WP.dn ?_
  refine NX.then_n ?_
  refine CP.region ?_
  refine WP.stl 1 ?_
  refine WP.loadB (v := .int .u64 x24) hB1 (by kernel_rfl) (by kernel_rfl) ?_
  refine WP.stl 1 ?_
  refine WP.loadB (v := .int .u64 (IntKind.u64.wrap ((IntKind.u64.wrap (x11 + x23)) + x25))) hB1 (by kernel_rfl) (by kernel_rfl) ?_
  refine WP.stl 1 ?_
  replace hs := Option.bind_eq_some_iff.1 hs
  obtain ⟨x26, hk12, hs⟩ := hs
  have hcal12 := P.baizeref02_left g38 (bitXor .u64 x24 (IntKind.u64.wrap ((IntKind.u64.wrap (x11 + x23)) + x25))) 63 x26 hk12
  refine WP.callC hcal12 (by kernel_rfl) ?_
  rintro _ g39 st39 rfl
  replace hB1 := hB1.mono st39 (fun x => x)
  replace hB2 := hB2.mono st39 (fun x => x)
  replace tot := tot.trans st39.pure
  refine WP.stl 1 ?_
  refine WP.storeB (ty := 95) (off := 1) (v := .int .u64 x26) hB1 [[.int .u64 x26]] [1] (by kernel_rfl) (by kernel_rfl) rfl (by kernel_rfl) [[.int .u64 (IntKind.u64.wrap ((bitXor .u64 (IntKind.u64.wrap (x9 + x10)) x13) + x24))], [.int .u64 x26], [.int .u64 (IntKind.u64.wrap ((IntKind.u64.wrap (x11 + x23)) + x25))], [.int .u64 x25]] (by kernel_rfl) (.one rfl .nil) ?_
  intro g40 st40 hB28
  replace hB2 := hB2.mono st40 (WL.no1 (by omega))
  replace tot := tot.trans (st40.up1 (.inr (by omega)))
  clear hB1
  have hB1 := hB28
  clear hB28
  refine WP.dn ?_
  refine NX.block_n ?_
  refine NX.then_n ?_
  refine CP.refr 63 [(1, .pointer (some ⟨b1, 0, none⟩)), (2, .pointer (some ⟨b2, 0, none⟩)), (3, .int .u64 x13)] (by kernel_rfl) (by kernel_rfl) ?_
  clear ds
  intro ds
  refine CP.region ?_
  refine WP.stl 3 ?_
  refine WP.dn ?_
  refine NX.post ?_
  exact ⟨(IntKind.u64.wrap ((bitXor .u64 (IntKind.u64.wrap (x9 + x10)) x13) + x24)), x26, (IntKind.u64.wrap ((IntKind.u64.wrap (x11 + x23)) + x25)), x25, (IntKind.u64.wrap (x13 + 1)), ⟨by kernel_rfl, by kernel_rfl⟩, tot, hB1, hB2, hs⟩
 replace hs := of_if_f hs h3
 refine CP.exit ?_
 refine NX.then_e ?_
 refine NX.then_e ?_
 refine NX.block_s ?_
 refine NX.then_n ?_
 refine CP.seqR ?_
 refine WP.loadB (v := AG [[.int .u64 x9], [.int .u64 x10], [.int .u64 x11], [.int .u64 x12]]) hB1 (by kernel_rfl) (by kernel_rfl) ?_
 refine WP.storeB (ty := 157) (off := 0) (v := AG [[.int .u64 x9], [.int .u64 x10], [.int .u64 x11], [.int .u64 x12]]) hB2 [[.int .u64 x9], [.int .u64 x10], [.int .u64 x11], [.int .u64 x12]] [1, 1, 1, 1] (by kernel_rfl) (by kernel_rfl) rfl (by kernel_rfl) [[.int .u64 x9], [.int .u64 x10], [.int .u64 x11], [.int .u64 x12]] (by kernel_rfl) (.one rfl (.one rfl (.one rfl (.one rfl .nil)))) ?_
 intro g41 st41 hB29
 replace hB1 := hB1.mono st41 (WL.no1 (by omega))
 replace tot := tot.trans (st41.up1 (.inr (by omega)))
 clear hB2
 have hB2 := hB29
 clear hB29
 refine WP.dn ?_
 refine NX.then_n ?_
 refine CP.ret ?_
 replace hs := Option.some.inj hs
 simp only [Prod.mk.injEq] at hs
 obtain ⟨rfl, rfl, rfl, rfl⟩ := hs
 exact NX.fin (v := AG [[.int .u64 x9], [.int .u64 x10], [.int .u64 x11], [.int .u64 x12]]) (Res.one rfl (RV.box (agg := true) (size := 4) (rs := [[.int .u64 x9], [.int .u64 x10], [.int .u64 x11], [.int .u64 x12]]) hB2 (by kernel_rfl) (by kernel_rfl) (by kernel_rfl) (by kernel_rfl))) tot htL rfl
def F.baizeref02_In (x1 : Int) (x2 : Int) (x3 : Int) (x4 : Int) (x5 : Int) : Option (Int × Int × Int × Int) := ((F.baizeref02_Stir (bitXor .u64 x1 x5) x2 x3 x4).bind fun (x6, x7, x8, x9) => (some (x6, x7, x8, x9)))
theorem P.baizeref02_In (g0 : GW) (x1 : Int) (x2 : Int) (x3 : Int) (x4 : Int) (x5 : Int) (o1 : Int) (o2 : Int) (o3 : Int) (o4 : Int) (hs : F.baizeref02_In x1 x2 x3 x4 x5 = some (o1, o2, o3, o4)) :
  Calls Try.prog 98 #[AG [[.int .u64 x1], [.int .u64 x2], [.int .u64 x3], [.int .u64 x4]], .int .u64 x5] g0.w (Ret NoM g0 fun v g => v = AG [[.int .u64 o1], [.int .u64 o2], [.int .u64 o3], [.int .u64 o4]]) := by
 refine calls_of (args := [AG [[.int .u64 x1], [.int .u64 x2], [.int .u64 x3], [.int .u64 x4]], .int .u64 x5]) Try.func98 rfl (0) ?_
 intro t ht htL
 refine ⟨_, rfl, ?_⟩
 refine CP.refr 12 [(0, AG [[.int .u64 x1], [.int .u64 x2], [.int .u64 x3], [.int .u64 x4]]), (1, .int .u64 x5)] (by kernel_rfl) (by kernel_rfl) ?_
 intro ds
 have tot : Step (fun l => NoM l ∨ t ≤ l) g0 g0 := Step.refl _ _
 unfold F.baizeref02_In at hs
 refine CP.seqR ?_
 refine WP.alloc (T := 157) (t + 1) [[.int .u64 x1], [.int .u64 x2], [.int .u64 x3], [.int .u64 x4]] [1, 1, 1, 1] (by kernel_rfl) rfl ?_
 intro g1 b1 st1 hB1
 replace tot := tot.trans st1.pure
 refine WP.alloc (T := 157) (t + 2) [[.int .u64 0], [.int .u64 0], [.int .u64 0], [.int .u64 0]] [1, 1, 1, 1] (by kernel_rfl) rfl ?_
 intro g2 b2 st2 hB2
 replace hB1 := hB1.mono st2 (fun x => x)
 replace tot := tot.trans st2.pure
 refine WP.dn ?_
 refine NX.then_n ?_
 refine CP.seqR ?_
 refine WP.stl 1 ?_
 refine WP.loadB (v := .int .u64 x1) hB1 (by kernel_rfl) (by kernel_rfl) ?_
 refine WP.stl 3 ?_
 refine WP.storeB (ty := 95) (off := 0) (v := .int .u64 (bitXor .u64 x1 x5)) hB1 [[.int .u64 (bitXor .u64 x1 x5)]] [1] (by kernel_rfl) (by kernel_rfl) rfl (by kernel_rfl) [[.int .u64 (bitXor .u64 x1 x5)], [.int .u64 x2], [.int .u64 x3], [.int .u64 x4]] (by kernel_rfl) (.one rfl .nil) ?_
 intro g3 st3 hB3
 replace hB2 := hB2.mono st3 (WL.no1 (by omega))
 replace tot := tot.trans (st3.up1 (.inr (by omega)))
 clear hB1
 have hB1 := hB3
 clear hB3
 refine WP.dn ?_
 refine NX.then_n ?_
 refine CP.seqR ?_
 refine WP.loadB (v := AG [[.int .u64 (bitXor .u64 x1 x5)], [.int .u64 x2], [.int .u64 x3], [.int .u64 x4]]) hB1 (by kernel_rfl) (by kernel_rfl) ?_
 replace hs := Option.bind_eq_some_iff.1 hs
 obtain ⟨⟨x6, x7, x8, x9⟩, hk1, hs⟩ := hs
 dsimp only at hs
 have hcal1 := P.baizeref02_Stir g3 (bitXor .u64 x1 x5) x2 x3 x4 x6 x7 x8 x9 hk1
 refine WP.callC hcal1 (by kernel_rfl) ?_
 rintro _ g4 st4 rfl
 replace hB1 := hB1.mono st4 (fun x => x)
 replace hB2 := hB2.mono st4 (fun x => x)
 replace tot := tot.trans st4.pure
 refine WP.storeB (ty := 157) (off := 0) (v := AG [[.int .u64 x6], [.int .u64 x7], [.int .u64 x8], [.int .u64 x9]]) hB2 [[.int .u64 x6], [.int .u64 x7], [.int .u64 x8], [.int .u64 x9]] [1, 1, 1, 1] (by kernel_rfl) (by kernel_rfl) rfl (by kernel_rfl) [[.int .u64 x6], [.int .u64 x7], [.int .u64 x8], [.int .u64 x9]] (by kernel_rfl) (.one rfl (.one rfl (.one rfl (.one rfl .nil)))) ?_
 intro g5 st5 hB4
 replace hB1 := hB1.mono st5 (WL.no1 (by omega))
 replace tot := tot.trans (st5.up1 (.inr (by omega)))
 clear hB2
 have hB2 := hB4
 clear hB4
 refine WP.dn ?_
 refine NX.then_n ?_
 refine CP.ret ?_
 replace hs := Option.some.inj hs
 simp only [Prod.mk.injEq] at hs
 obtain ⟨rfl, rfl, rfl, rfl⟩ := hs
 exact NX.fin (v := AG [[.int .u64 x6], [.int .u64 x7], [.int .u64 x8], [.int .u64 x9]]) (Res.one rfl (RV.box (agg := true) (size := 4) (rs := [[.int .u64 x6], [.int .u64 x7], [.int .u64 x8], [.int .u64 x9]]) hB2 (by kernel_rfl) (by kernel_rfl) (by kernel_rfl) (by kernel_rfl))) tot htL rfl
def F.baizeref02_Bytes.l3 (nx2 : Int → Int → Int → Int → Int → Option (Int × Int × Int × Int)) (l2 : List Int) (x105 : Int) (x106 : Int) (x107 : Int) (x108 : Int) (x109 : Int) : Nat → (Arr Int 8) → Int → Option (Int × Int × Int × Int)
 | 0, _, _ => none
 | k + 1, d13, x136 => (if decide (x136 < 8) = true then (if (0 : Int) ≤ (IntKind.i64.wrap (x109 + x136)) ∧ (IntKind.i64.wrap (x109 + x136)) < (l2.length : Int) then (if (0 : Int) ≤ x136 ∧ x136 < (8 : Int) then (F.baizeref02_Bytes.l3 nx2 l2 x105 x106 x107 x108 x109 k (aset d13 x136 (getI l2 (IntKind.i64.wrap (x109 + x136)))) (IntKind.i64.wrap (x136 + 1))) else none) else none) else ((F.baizeref02_Num d13).bind fun x143 => ((F.baizeref02_In x105 x106 x107 x108 x143).bind fun (x144, x145, x146, x147) => (nx2 x144 x145 x146 x147 (IntKind.i64.wrap (x109 + 8))))))
def F.baizeref02_Bytes.l2 (l1 : List Int) (l2 : List Int) : Nat → Int → Int → Int → Int → Int → Option (Int × Int × Int × Int)
 | 0, _, _, _, _, _ => none
 | k + 1, x105, x106, x107, x108, x109 => (if decide (x109 < (l2.length : Int)) = true then (F.baizeref02_Bytes.l3 (F.baizeref02_Bytes.l2 l1 l2 k) l2 x105 x106 x107 x108 x109 fuel (zA 8) 0) else ((F.baizeref02_In x105 x106 x107 x108 (IntKind.u64.wrap (l1.length : Int))).bind fun (x148, x149, x150, x151) => (some (x148, x149, x150, x151))))
def F.baizeref02_Bytes.l1 (x1 : Int) (x2 : Int) (x3 : Int) (x4 : Int) (l1 : List Int) : Nat → (List Int) → Option (Int × Int × Int × Int)
 | 0, _ => none
 | k + 1, l2 => (if (((l2.length : Int).tmod 8) != 0) = true then (if l2.length + ([0]).length ≤ 140737488355328 then (F.baizeref02_Bytes.l1 x1 x2 x3 x4 l1 k (l2 ++ [0])) else none) else (F.baizeref02_Bytes.l2 l1 l2 fuel x1 x2 x3 x4 0))
def F.baizeref02_Bytes (x1 : Int) (x2 : Int) (x3 : Int) (x4 : Int) (l1 : List Int) : Option (Int × Int × Int × Int) := (if ([] : List Int).length + l1.length ≤ 140737488355328 then (if (([] : List Int) ++ l1).length + ([1]).length ≤ 140737488355328 then (F.baizeref02_Bytes.l1 x1 x2 x3 x4 l1 fuel ((([] : List Int) ++ l1) ++ [1])) else none) else none)
theorem P.baizeref02_Bytes (g0 : GW) (x1 : Int) (x2 : Int) (x3 : Int) (x4 : Int) (l1 : List Int) (a1 : Option Addr) (n1 : Nat) (c1 : Nat) (hR1 : RdS (Kd.int .u8) g0 5 a1 n1 c1 l1) (o1 : Int) (o2 : Int) (o3 : Int) (o4 : Int) (hs : F.baizeref02_Bytes x1 x2 x3 x4 l1 = some (o1, o2, o3, o4)) :
  Calls Try.prog 89 #[AG [[.int .u64 x1], [.int .u64 x2], [.int .u64 x3], [.int .u64 x4]], .slice a1 n1 c1] g0.w (Ret NoM g0 fun v g => v = AG [[.int .u64 o1], [.int .u64 o2], [.int .u64 o3], [.int .u64 o4]]) := by
 refine calls_of (args := [AG [[.int .u64 x1], [.int .u64 x2], [.int .u64 x3], [.int .u64 x4]], .slice a1 n1 c1]) Try.func89 rfl (0) ?_
 intro t ht htL
 refine ⟨_, rfl, ?_⟩
 refine CP.refr 49 [(0, AG [[.int .u64 x1], [.int .u64 x2], [.int .u64 x3], [.int .u64 x4]]), (1, .slice a1 n1 c1)] (by kernel_rfl) (by kernel_rfl) ?_
 intro ds
 have tot : Step (fun l => NoM l ∨ t ≤ l) g0 g0 := Step.refl _ _
 unfold F.baizeref02_Bytes at hs
 refine CP.seqR ?_
 refine WP.alloc (T := 157) (t + 1) [[.int .u64 x1], [.int .u64 x2], [.int .u64 x3], [.int .u64 x4]] [1, 1, 1, 1] (by kernel_rfl) rfl ?_
 intro g1 b1 st1 hB1
 replace hR1 := hR1.mono st1 (fun x => x)
 replace tot := tot.trans st1.pure
 refine WP.alloc (T := 157) (t + 2) [[.int .u64 0], [.int .u64 0], [.int .u64 0], [.int .u64 0]] [1, 1, 1, 1] (by kernel_rfl) rfl ?_
 intro g2 b2 st2 hB2
 replace hR1 := hR1.mono st2 (fun x => x)
 replace hB1 := hB1.mono st2 (fun x => x)
 replace tot := tot.trans st2.pure
 refine WP.dn ?_
 refine NX.then_n ?_
 refine CP.seqR ?_
 refine WP.mkSl (kd := (Kd.int .u8)) (t := 33) (e := 5) (bytes := 1) (t + 3) [] ([] : List Int) (by kernel_rfl) (by kernel_rfl) (Nat.le_of_ble_eq_true rfl) (Nat.le_of_ble_eq_true rfl) all_nil (rfl) rfl ?_
 intro g3 a2 st3 hR2
 replace hR1 := hR1.mono st3 (fun x => x)
 replace hB1 := hB1.mono st3 (fun x => x)
 replace hB2 := hB2.mono st3 (fun x => x)
 replace tot := tot.trans st3.pure
 refine WP.stl 1 ?_
 by_cases hc1 : ([] : List Int).length + l1.length ≤ 140737488355328
 case neg => rw [if_neg hc1] at hs; cases hs
 replace hs := of_if_p hs hc1
 refine WP.append (kd := (Kd.int .u8)) (t := 33) (e := 5) (bytes := 1) (a2 := a1) (c2 := c1) hR2 hR1.src hR1.len (by kernel_rfl) (by kernel_rfl) (by omega) (by simp only [maxLen]; omega) (by omega) ?_
 intro g4 a3 c2 st4 hR3
 replace hR1 := hR1.mono st4 (WL.no1 (by omega))
 replace hB1 := hB1.mono st4 (WL.no1 (by omega))
 replace hB2 := hB2.mono st4 (WL.no1 (by omega))
 replace tot := tot.trans (st4.up1 (.inr (by omega)))
 refine WP.mkSl (kd := (Kd.int .u8)) (t := 33) (e := 5) (bytes := 1) (t + 4) [.int .u8 1] [1] (by kernel_rfl) (by kernel_rfl) (Nat.le_of_ble_eq_true rfl) (Nat.le_of_ble_eq_true rfl) (all_cons rfl all_nil) (⟨_, _, rfl, (by exact rfl), rfl⟩) rfl ?_
 intro g5 a4 st5 hR4
 replace hR1 := hR1.mono st5 (fun x => x)
 replace hB1 := hB1.mono st5 (fun x => x)
 replace hB2 := hB2.mono st5 (fun x => x)
 replace hR3 := hR3.mono st5 (fun x => x) (fun x => x)
 replace tot := tot.trans st5.pure
 by_cases hc2 : (([] : List Int) ++ l1).length + ([1]).length ≤ 140737488355328
 case neg => rw [if_neg hc2] at hs; cases hs
 replace hs := of_if_p hs hc2
 refine WP.append (kd := (Kd.int .u8)) (t := 33) (e := 5) (bytes := 1) (a2 := a4) (c2 := 1) hR3 hR4.src hR4.len (by kernel_rfl) (by kernel_rfl) (by omega) (by simp only [maxLen]; omega) (by omega) ?_
 intro g6 a5 c3 st6 hR5
 replace hR1 := hR1.mono st6 (WL.no1 (by omega))
 replace hB1 := hB1.mono st6 (WL.no1 (by omega))
 replace hB2 := hB2.mono st6 (WL.no1 (by omega))
 replace hR4 := hR4.mono st6 (WL.no1 (by omega)) (WL.no1 (by omega))
 replace tot := tot.trans (st6.up1 (.inr (by omega)))
 refine WP.stl 1 ?_
 refine WP.dn ?_
 refine NX.then_n ?_
 refine CP.seq ?_
 refine CP.block ?_
 generalize fuel = k1 at hs
 refine CP.loop (fun k1 tm g => ∃ (l2 : List Int) (a8 : Option Addr) (n2 : Nat) (c5 : Nat), Fr 49 [(1, .slice a1 n1 c1), (2, .pointer (some ⟨b1, 0, none⟩)), (4, .pointer (some ⟨b2, 0, none⟩)), (5, .slice a8 n2 c5)] tm ∧ Step (fun l => NoM l ∨ t ≤ l) g0 g ∧ RdS (Kd.int .u8) g 5 a1 n1 c1 l1 ∧ Box g (t + 1) b1 157 [[.int .u64 x1], [.int .u64 x2], [.int .u64 x3], [.int .u64 x4]] [1, 1, 1, 1] ∧ Box g (t + 2) b2 157 [[.int .u64 0], [.int .u64 0], [.int .u64 0], [.int .u64 0]] [1, 1, 1, 1] ∧ OwnS (Kd.int .u8) g (t + 3) 5 a8 n2 c5 l2 ∧ F.baizeref02_Bytes.l1 x1 x2 x3 x4 l1 k1 l2 = some (o1, o2, o3, o4)) k1 ?_ ?_ ?_
 ·exact ⟨((([] : List Int) ++ l1) ++ [1]), a5, ((0 + n1) + 1), c3, ⟨by kernel_rfl, by kernel_rfl⟩, tot, hR1, hB1, hB2, hR5, hs⟩
 ·rintro tm g ⟨l2, a8, n2, c5, hF, tot, hR1, hB1, hB2, hR8, hs⟩
  exact absurd hs (by simp [F.baizeref02_Bytes.l1])
 clear tot hs hR1 hB1 hB2 hR5
 rintro k1 tm g ⟨l2, a8, n2, c5, hF, tot, hR1, hB1, hB2, hR8, hs⟩
 clear ds
 obtain ⟨ds, rfl⟩ := hF.open
 clear hF
 unfold F.baizeref02_Bytes.l1 at hs
 refine CP.seq ?_
 refine CP.seqR ?_
 refine WP.stl 1 ?_
 refine WP.len (a := a8) (cp := c5) hR8.len (by kernel_rfl) ?_
 refine WP.stl 2 ?_
 refine WP.dn ?_
 refine NX.then_n ?_
 refine CP.cond (b := (((l2.length : Int).tmod 8) != 0)) (by kernel_rfl) (fun h15 => ?_) (fun h15 => ?_)
 ·replace hs := of_if_t hs h15
  refine CP.skip ?_
  refine NX.then_n ?_
  refine CP.block ?_
  refine CP.region ?_
  refine WP.stl 1 ?_
  refine WP.mkSl (kd := (Kd.int .u8)) (t := 33) (e := 5) (bytes := 1) (t + 11) [.int .u8 0] [0] (by kernel_rfl) (by kernel_rfl) (Nat.le_of_ble_eq_true rfl) (Nat.le_of_ble_eq_true rfl) (all_cons rfl all_nil) (⟨_, _, rfl, (by exact rfl), rfl⟩) rfl ?_
  intro g59 a12 st59 hR12
  replace hR1 := hR1.mono st59 (fun x => x)
  replace hB1 := hB1.mono st59 (fun x => x)
  replace hB2 := hB2.mono st59 (fun x => x)
  replace hR8 := hR8.mono st59 (fun x => x) (fun x => x)
  replace tot := tot.trans st59.pure
  by_cases hc17 : l2.length + ([0]).length ≤ 140737488355328
  case neg => rw [if_neg hc17] at hs; cases hs
  replace hs := of_if_p hs hc17
  refine WP.append (kd := (Kd.int .u8)) (t := 33) (e := 5) (bytes := 1) (a2 := a12) (c2 := 1) hR8 hR12.src hR12.len (by kernel_rfl) (by kernel_rfl) (by omega) (by simp only [maxLen]; omega) (by omega) ?_
  intro g60 a13 c8 st60 hR13
  replace hR1 := hR1.mono st60 (WL.no1 (by omega))
  replace hB1 := hB1.mono st60 (WL.no1 (by omega))
  replace hB2 := hB2.mono st60 (WL.no1 (by omega))
  replace hR12 := hR12.mono st60 (WL.no1 (by omega)) (WL.no1 (by omega))
  replace tot := tot.trans (st60.up1 (.inr (by omega)))
  refine WP.stl 1 ?_
  refine WP.dn ?_
  refine NX.block_n ?_
  refine NX.post ?_
  exact ⟨(l2 ++ [0]), a13, (n2 + 1), c8, ⟨by kernel_rfl, by kernel_rfl⟩, tot, hR1, hB1, hB2, hR13, hs⟩
 replace hs := of_if_f hs h15
 refine CP.exit ?_
 refine NX.then_e ?_
 refine NX.then_e ?_
 refine NX.block_s ?_
 refine NX.then_n ?_
 refine CP.seq ?_
 refine CP.seqR ?_
 refine WP.stl 1 ?_
 refine WP.dn ?_
 refine NX.then_n ?_
 refine CP.block ?_
 generalize fuel = k2 at hs
 refine CP.loop (fun k2 tm g => ∃ (x105 : Int) (x106 : Int) (x107 : Int) (x108 : Int) (x109 : Int), Fr 49 [(1, .slice a1 n1 c1), (2, .pointer (some ⟨b1, 0, none⟩)), (4, .pointer (some ⟨b2, 0, none⟩)), (5, .slice a8 n2 c5), (6, .int .i64 x109)] tm ∧ Step (fun l => NoM l ∨ t ≤ l) g0 g ∧ RdS (Kd.int .u8) g 5 a1 n1 c1 l1 ∧ Box g (t + 1) b1 157 [[.int .u64 x105], [.int .u64 x106], [.int .u64 x107], [.int .u64 x108]] [1, 1, 1, 1] ∧ Box g (t + 2) b2 157 [[.int .u64 0], [.int .u64 0], [.int .u64 0], [.int .u64 0]] [1, 1, 1, 1] ∧ OwnS (Kd.int .u8) g (t + 3) 5 a8 n2 c5 l2 ∧ F.baizeref02_Bytes.l2 l1 l2 k2 x105 x106 x107 x108 x109 = some (o1, o2, o3, o4)) k2 ?_ ?_ ?_
 ·exact ⟨x1, x2, x3, x4, 0, ⟨by kernel_rfl, by kernel_rfl⟩, tot, hR1, hB1, hB2, hR8, hs⟩
 ·rintro tm g ⟨x105, x106, x107, x108, x109, hF, tot, hR1, hB1, hB2, hR8, hs⟩
  exact absurd hs (by simp [F.baizeref02_Bytes.l2])
 clear tot hs hR1 hB1 hB2 hR8
 rintro k2 tm g ⟨x105, x106, x107, x108, x109, hF, tot, hR1, hB1, hB2, hR8, hs⟩
 clear ds
 obtain ⟨ds, rfl⟩ := hF.open
 clear hF
 unfold F.baizeref02_Bytes.l2 at hs
 refine CP.seq ?_
 refine CP.seqR ?_
 refine WP.stl 2 ?_
 refine WP.len (a := a8) (cp := c5) hR8.len (by kernel_rfl) ?_
 refine WP.stl 1 ?_
 refine WP.dn ?_
 refine NX.then_n ?_
 refine CP.cond (b := decide (x109 < (l2.length : Int))) (by kernel_rfl) (fun h22 => ?_) (fun h22 => ?_)
 ·replace hs := of_if_t hs h22
  refine CP.skip ?_
  refine NX.then_n ?_
  refine CP.seq ?_
  refine CP.block ?_
  refine CP.seqR ?_
  refine WP.stl 1 ?_
  refine WP.alloc (T := 32) (t + 14) [encA .u8 (zA 8)] [8] (by kernel_rfl) (by simp [len_encA]) ?_
  intro g85 b21 st85 hB45
  replace hR1 := hR1.mono st85 (fun x => x)
  replace hB1 := hB1.mono st85 (fun x => x)
  replace hB2 := hB2.mono st85 (fun x => x)
  replace hR8 := hR8.mono st85 (fun x => x) (fun x => x)
  replace tot := tot.trans st85.pure
  refine WP.storeB (ty := 32) (off := 0) (v := AG [encA .u8 (zA 8)]) hB45 [encA .u8 (zA 8)] [8] (by kernel_rfl) (by kernel_rfl) (by simp [len_encA]) (by kernel_rfl) [encA .u8 (zA 8)] (by kernel_rfl) (.arr .nil) ?_
  intro g86 st86 hB46
  replace hR1 := hR1.mono st86 (WL.no1 (by omega))
  replace hB1 := hB1.mono st86 (WL.no1 (by omega))
  replace hB2 := hB2.mono st86 (WL.no1 (by omega))
  replace hR8 := hR8.mono st86 (WL.no1 (by omega)) (WL.no1 (by omega))
  replace tot := tot.trans (st86.up1 (.inr (by omega)))
  clear hB45
  have hB45 := hB46
  clear hB46
  refine WP.dn ?_
  refine NX.then_n ?_
  refine CP.seq ?_
  refine CP.seqR ?_
  refine WP.stl 1 ?_
  refine WP.dn ?_
  refine NX.then_n ?_
  refine CP.block ?_
  generalize fuel = k3 at hs
  refine CP.loop (fun k3 tm g => ∃ (d13 : Arr Int 8) (x136 : Int), Fr 49 [(1, .slice a1 n1 c1), (2, .pointer (some ⟨b1, 0, none⟩)), (4, .pointer (some ⟨b2, 0, none⟩)), (5, .slice a8 n2 c5), (6, .int .i64 x109), (7, .pointer (some ⟨b21, 0, none⟩)), (8, .int .i64 x136)] tm ∧ Step (fun l => NoM l ∨ t ≤ l) g0 g ∧ RdS (Kd.int .u8) g 5 a1 n1 c1 l1 ∧ Box g (t + 1) b1 157 [[.int .u64 x105], [.int .u64 x106], [.int .u64 x107], [.int .u64 x108]] [1, 1, 1, 1] ∧ Box g (t + 2) b2 157 [[.int .u64 0], [.int .u64 0], [.int .u64 0], [.int .u64 0]] [1, 1, 1, 1] ∧ OwnS (Kd.int .u8) g (t + 3) 5 a8 n2 c5 l2 ∧ Box g (t + 14) b21 32 [encA .u8 d13] [8] ∧ F.baizeref02_Bytes.l3 (F.baizeref02_Bytes.l2 l1 l2 k2) l2 x105 x106 x107 x108 x109 k3 d13 x136 = some (o1, o2, o3, o4)) k3 ?_ ?_ ?_
  ·exact ⟨(zA 8), 0, ⟨by kernel_rfl, by kernel_rfl⟩, tot, hR1, hB1, hB2, hR8, hB45, hs⟩
  ·rintro tm g ⟨d13, x136, hF, tot, hR1, hB1, hB2, hR8, hB45, hs⟩
   exact absurd hs (by simp [F.baizeref02_Bytes.l3])
  clear tot hs hR1 hB1 hB2 hR8 hB45
  rintro k3 tm g ⟨d13, x136, hF, tot, hR1, hB1, hB2, hR8, hB45, hs⟩
  clear ds
  obtain ⟨ds, rfl⟩ := hF.open
  clear hF
  unfold F.baizeref02_Bytes.l3 at hs
  refine CP.seq ?_
  refine CP.seqR ?_
  refine WP.stl 2 ?_
  refine WP.dn ?_
  refine NX.then_n ?_
  refine CP.cond (b := decide (x136 < 8)) (by kernel_rfl) (fun h25 => ?_) (fun h25 => ?_)
  ·replace hs := of_if_t hs h25
   refine CP.skip ?_
   refine NX.then_n ?_
   refine CP.seq ?_
   refine CP.block ?_
   refine CP.region ?_
   refine WP.stl 5 ?_
   by_cases hc27 : (0 : Int) ≤ (IntKind.i64.wrap (x109 + x136)) ∧ (IntKind.i64.wrap (x109 + x136)) < (l2.length : Int)
   case neg => rw [if_neg hc27] at hs; cases hs
   replace hs := of_if_p hs hc27
   obtain ⟨b24, u15, ha15⟩ := hR8.at hc27
   refine WP.indexA (t := 33) (e := 5) (sz := 1) (cap := c5) (k := .i64) (i := (IntKind.i64.wrap (x109 + x136))) hR8.len ha15 (by kernel_rfl) (by kernel_rfl) hc27 ?_
   obtain ⟨cs15, hcR15, hcV15⟩ := hR8.src.view (getI_some hc27) ha15
   replace hcR15 := Kd.o_int hcR15
   refine WP.loadV [[.int .u8 (getI l2 (IntKind.i64.wrap (x109 + x136)))]] [1] hcV15 hcR15 rfl (f := 0) (ty := 5) (agg := false) (size := 1) (rs := [[.int .u8 (getI l2 (IntKind.i64.wrap (x109 + x136)))]]) (v := .int .u8 (getI l2 (IntKind.i64.wrap (x109 + x136)))) (by kernel_rfl) (by kernel_rfl) (by kernel_rfl) (by kernel_rfl) ?_
   by_cases hc28 : (0 : Int) ≤ x136 ∧ x136 < (8 : Int)
   case neg => rw [if_neg hc28] at hs; cases hs
   replace hs := of_if_p hs hc28
   refine WP.ixBox (t := 32) (e := 5) (m := 8) (size := 1) (b := b21) (off := 0) (k := .i64) (i := x136) (by kernel_rfl) (by kernel_rfl) hc28 ?_
   refine WP.storeE (ty := 5) (o := 0) (m := 8) (k := .u8) (d := d13) (i := x136) (x := (getI l2 (IntKind.i64.wrap (x109 + x136)))) hB45 (by kernel_rfl) hc28 (by kernel_rfl) (by kernel_rfl) [encA .u8 (aset d13 x136 (getI l2 (IntKind.i64.wrap (x109 + x136))))] (by kernel_rfl) ?_
   intro g95 st95 hB51
   replace hR1 := hR1.mono st95 (WL.no1 (by omega))
   replace hB1 := hB1.mono st95 (WL.no1 (by omega))
   replace hB2 := hB2.mono st95 (WL.no1 (by omega))
   replace hR8 := hR8.mono st95 (WL.no1 (by omega)) (WL.no1 (by omega))
   replace tot := tot.trans (st95.up1 (.inr (by omega)))
   clear hB45
   have hB45 := hB51
   clear hB51
   refine WP.dn ?_
   refine NX.block_n ?_
   refine NX.then_n ?_
   refine CP.region ?_
   refine WP.stl 3 ?_
   refine WP.dn ?_
   refine NX.post ?_
   exact ⟨(aset d13 x136 (getI l2 (IntKind.i64.wrap (x109 + x136)))), (IntKind.i64.wrap (x136 + 1)), ⟨by kernel_rfl, by kernel_rfl⟩, tot, hR1, hB1, hB2, hR8, hB45, hs⟩
  replace hs := of_if_f hs h25
  refine CP.exit ?_
  refine NX.then_e ?_
  refine NX.then_e ?_
  refine NX.block_s ?_
  refine NX.then_n ?_
  replace hs := Option.bind_eq_some_iff.1 hs
  obtain ⟨x143, hk35, hs⟩ := hs
  replace hs := Option.bind_eq_some_iff.1 hs
  obtain ⟨⟨x144, x145, x146, x147⟩, hk36, hs⟩ := hs
  dsimp only at hs
  refine CP.drawL (by kernel_rfl) [0, 1, 2, 3, 4] [[], [], [1], [0, 1, 2], [0, 1, 2, 3]] [⟨none, [0], [], fun l g => Box g (t + 1) b1 157 [[.int .u64 x105], [.int .u64 x106], [.int .u64 x107], [.int .u64 x108]] [1, 1, 1, 1]⟩, ⟨none, [], [], fun l g => Box g (t + 14) b21 32 [encA .u8 d13] [8]⟩, ⟨some 0, [], [0], fun l g => l.getD 0 undef = AG [[.int .u64 x105], [.int .u64 x106], [.int .u64 x107], [.int .u64 x108]]⟩, ⟨some 1, [], [1], fun l g => l.getD 0 undef = AG [encA .u8 d13]⟩, ⟨some 2, [], [2], fun l g => l.getD 0 undef = .int .u64 x143⟩, ⟨some 3, [], [3], fun l g => l.getD 0 undef = AG [[.int .u64 x144], [.int .u64 x145], [.int .u64 x146], [.int .u64 x147]]⟩, ⟨some 4, [0], [], fun l g => Box g (t + 1) b1 157 [[.int .u64 x144], [.int .u64 x145], [.int .u64 x146], [.int .u64 x147]] [1, 1, 1, 1]⟩] [[], [], [], [], [0]] [(t + 1)] [] [] (by kernel_rfl) (by simp <;> omega) (by simp) ⟨fun _ _ _ _ st h0 hl hj hB1 => (hB1.mono st (hj 0 (by simp) _ rfl)), fun _ _ _ _ st h0 hl hj hB45 => (hB45.mono st (fun h => absurd (hl _ h) (by simp <;> omega))), fun _ _ _ _ st h0 hl hj e0 => e0, fun _ _ _ _ st h0 hl hj e1 => e1, fun _ _ _ _ st h0 hl hj e2 => e2, fun _ _ _ _ st h0 hl hj e3 => e3, fun _ _ _ _ st h0 hl hj hB1 => (hB1.mono st (hj 0 (by simp) _ rfl)), tv⟩ ⟨hB1, hB45, tv, tv, tv, tv, tv, tv⟩ (by kernel_rfl) (fun vs => by kernel_rfl) ?_ ?_ ?_
  ·intro j hj; exact absurd hj (by simp)
  ·intro j hj
   have hq : j = 0 ∨ j = 1 ∨ j = 2 ∨ j = 3 ∨ j = 4 := by have h : j < 5 := hj; omega
   rcases hq with rfl | rfl | rfl | rfl | rfl
   ·intro vs gq stq hl hf
    obtain ⟨v0, v1, v2, v3, v4, rfl⟩ := len_k5 hl
    have hB1 := (show Box gq (t + 1) b1 157 [[.int .u64 x105], [.int .u64 x106], [.int .u64 x107], [.int .u64 x108]] [1, 1, 1, 1] from hf _ (memI 0 rfl) (by kernel_rfl))
    refine WP.loadB (v := AG [[.int .u64 x105], [.int .u64 x106], [.int .u64 x107], [.int .u64 x108]]) hB1 (by kernel_rfl) (by kernel_rfl) ?_
    refine WP.dn (Shown.ok (v := AG [[.int .u64 x105], [.int .u64 x106], [.int .u64 x107], [.int .u64 x108]]) (by kernel_rfl) (Step.refl _ _) ?_)
    exact ⟨tv, tv, rfl, tv, tv, tv, tv, tv⟩
   ·intro vs gq stq hl hf
    obtain ⟨v0, v1, v2, v3, v4, rfl⟩ := len_k5 hl
    have hB45 := (show Box gq (t + 14) b21 32 [encA .u8 d13] [8] from hf _ (memI 1 rfl) (by kernel_rfl))
    refine WP.loadB (v := AG [encA .u8 d13]) hB45 (by kernel_rfl) (by kernel_rfl) ?_
    refine WP.dn (Shown.ok (v := AG [encA .u8 d13]) (by kernel_rfl) (Step.refl _ _) ?_)
    exact ⟨tv, tv, tv, rfl, tv, tv, tv, tv⟩
   ·intro vs gq stq hl hf
    obtain ⟨v0, v1, v2, v3, v4, rfl⟩ := len_k5 hl
    have e1 := (show v1 = AG [encA .u8 d13] from hf _ (memI 3 rfl) (by kernel_rfl))
    subst e1
    have hcal35 := P.baizeref02_Num gq d13 x143 hk35
    refine WP.callC hcal35 (by kernel_rfl) ?_
    rintro _ g96 st96 rfl
    refine WP.dn (Shown.o (v := .int .u64 x143) st96.pure ?_)
    exact ⟨tv, tv, tv, tv, rfl, tv, tv, tv⟩
   ·intro vs gq stq hl hf
    obtain ⟨v0, v1, v2, v3, v4, rfl⟩ := len_k5 hl
    have e0 := (show v0 = AG [[.int .u64 x105], [.int .u64 x106], [.int .u64 x107], [.int .u64 x108]] from hf _ (memI 2 rfl) (by kernel_rfl))
    subst e0
    have e2 := (show v2 = .int .u64 x143 from hf _ (memI 4 rfl) (by kernel_rfl))
    subst e2
    have hcal36 := P.baizeref02_In gq x105 x106 x107 x108 x143 x144 x145 x146 x147 hk36
    refine WP.callC hcal36 (by kernel_rfl) ?_
    rintro _ g97 st97 rfl
    refine WP.dn (Shown.o (v := AG [[.int .u64 x144], [.int .u64 x145], [.int .u64 x146], [.int .u64 x147]]) st97.pure ?_)
    exact ⟨tv, tv, tv, tv, tv, rfl, tv, tv⟩
   ·intro vs gq stq hl hf
    obtain ⟨v0, v1, v2, v3, v4, rfl⟩ := len_k5 hl
    have hB1 := (show Box gq (t + 1) b1 157 [[.int .u64 x105], [.int .u64 x106], [.int .u64 x107], [.int .u64 x108]] [1, 1, 1, 1] from hf _ (memI 0 rfl) (by kernel_rfl))
    have e3 := (show v3 = AG [[.int .u64 x144], [.int .u64 x145], [.int .u64 x146], [.int .u64 x147]] from hf _ (memI 5 rfl) (by kernel_rfl))
    subst e3
    refine WP.storeB (ty := 157) (off := 0) (v := AG [[.int .u64 x144], [.int .u64 x145], [.int .u64 x146], [.int .u64 x147]]) hB1 [[.int .u64 x144], [.int .u64 x145], [.int .u64 x146], [.int .u64 x147]] [1, 1, 1, 1] (by kernel_rfl) (by kernel_rfl) rfl (by kernel_rfl) [[.int .u64 x144], [.int .u64 x145], [.int .u64 x146], [.int .u64 x147]] (by kernel_rfl) (.one rfl (.one rfl (.one rfl (.one rfl .nil)))) ?_
    intro g98 st98 hB52
    refine WP.dn (Shown.o (v := undef) st98 ?_)
    exact ⟨tv, tv, tv, tv, tv, tv, hB52, tv⟩
  intro vs g99 st99 hl hf
  obtain ⟨v0, v1, v2, v3, v4, rfl⟩ := len_k5 hl
  have hB1 := (show Box g99 (t + 1) b1 157 [[.int .u64 x144], [.int .u64 x145], [.int .u64 x146], [.int .u64 x147]] [1, 1, 1, 1] from hf _ (memI 6 rfl) (by kernel_rfl))
  replace hR1 := hR1.mono st99 (WL.no1 (by omega))
  replace hB2 := hB2.mono st99 (WL.no1 (by omega))
  replace hR8 := hR8.mono st99 (WL.no1 (by omega)) (WL.no1 (by omega))
  replace tot := tot.trans (st99.up1 (.inr (by omega)))
  refine NX.block_n ?_
  refine NX.then_n ?_
  refine CP.refr 49 [(1, .slice a1 n1 c1), (2, .pointer (some ⟨b1, 0, none⟩)), (4, .pointer (some ⟨b2, 0, none⟩)), (5, .slice a8 n2 c5), (6, .int .i64 x109)] (by kernel_rfl) (by kernel_rfl) ?_
  clear ds
  intro ds
  refine CP.region ?_
  refine WP.stl 3 ?_
  refine WP.dn ?_
  refine NX.post ?_
  exact ⟨x144, x145, x146, x147, (IntKind.i64.wrap (x109 + 8)), ⟨by kernel_rfl, by kernel_rfl⟩, tot, hR1, hB1, hB2, hR8, hs⟩
 replace hs := of_if_f hs h22
 refine CP.exit ?_
 refine NX.then_e ?_
 refine NX.then_e ?_
 refine NX.block_s ?_
 refine NX.then_n ?_
 refine CP.seqR ?_
 refine WP.loadB (v := AG [[.int .u64 x105], [.int .u64 x106], [.int .u64 x107], [.int .u64 x108]]) hB1 (by kernel_rfl) (by kernel_rfl) ?_
 refine WP.stl 1 ?_
 refine WP.len (a := a1) (cp := c1) hR1.len (by kernel_rfl) ?_
 refine WP.stl 1 ?_
 replace hs := Option.bind_eq_some_iff.1 hs
 obtain ⟨⟨x148, x149, x150, x151⟩, hk37, hs⟩ := hs
 dsimp only at hs
 have hcal37 := P.baizeref02_In g x105 x106 x107 x108 (IntKind.u64.wrap (l1.length : Int)) x148 x149 x150 x151 hk37
 refine WP.callC hcal37 (by kernel_rfl) ?_
 rintro _ g100 st100 rfl
 replace hR1 := hR1.mono st100 (fun x => x)
 replace hB1 := hB1.mono st100 (fun x => x)
 replace hB2 := hB2.mono st100 (fun x => x)
 replace tot := tot.trans st100.pure
 refine WP.storeB (ty := 157) (off := 0) (v := AG [[.int .u64 x148], [.int .u64 x149], [.int .u64 x150], [.int .u64 x151]]) hB2 [[.int .u64 x148], [.int .u64 x149], [.int .u64 x150], [.int .u64 x151]] [1, 1, 1, 1] (by kernel_rfl) (by kernel_rfl) rfl (by kernel_rfl) [[.int .u64 x148], [.int .u64 x149], [.int .u64 x150], [.int .u64 x151]] (by kernel_rfl) (.one rfl (.one rfl (.one rfl (.one rfl .nil)))) ?_
 intro g101 st101 hB53
 replace hR1 := hR1.mono st101 (WL.no1 (by omega))
 replace hB1 := hB1.mono st101 (WL.no1 (by omega))
 replace tot := tot.trans (st101.up1 (.inr (by omega)))
 clear hB2
 have hB2 := hB53
 clear hB53
 refine WP.dn ?_
 refine NX.then_n ?_
 refine CP.ret ?_
 replace hs := Option.some.inj hs
 simp only [Prod.mk.injEq] at hs
 obtain ⟨rfl, rfl, rfl, rfl⟩ := hs
 exact NX.fin (v := AG [[.int .u64 x148], [.int .u64 x149], [.int .u64 x150], [.int .u64 x151]]) (Res.one rfl (RV.box (agg := true) (size := 4) (rs := [[.int .u64 x148], [.int .u64 x149], [.int .u64 x150], [.int .u64 x151]]) hB2 (by kernel_rfl) (by kernel_rfl) (by kernel_rfl) (by kernel_rfl))) tot htL rfl
def F.baizeref02_FromNum.l1 : Nat → Int → (Arr Int 8) → Int → Option ((Arr Int 8))
 | 0, _, _, _ => none
 | k + 1, x2, d1, x3 => (if decide (x3 < 8) = true then (if (0 : Int) ≤ x3 ∧ x3 < (8 : Int) then (F.baizeref02_FromNum.l1 k (IntKind.u64.wrap (x2.tdiv 256)) (aset d1 x3 (IntKind.u8.wrap (x2.tmod 256))) (IntKind.i64.wrap (x3 + 1))) else none) else (some d1))
def F.baizeref02_FromNum (x1 : Int) : Option ((Arr Int 8)) := (F.baizeref02_FromNum.l1 fuel x1 (zA 8) 0)
theorem P.baizeref02_FromNum (g0 : GW) (x1 : Int) (o1 : Arr Int 8) (hs : F.baizeref02_FromNum x1 = some o1) :
  Calls Try.prog 97 #[.int .u64 x1] g0.w (Ret NoM g0 fun v g => v = AG [encA .u8 o1]) := by
 refine calls_of (args := [.int .u64 x1]) Try.func97 rfl (0) ?_
 intro t ht htL
 refine ⟨_, rfl, ?_⟩
 refine CP.refr 18 [(0, .int .u64 x1)] (by kernel_rfl) (by kernel_rfl) ?_
 intro ds
 have tot : Step (fun l => NoM l ∨ t ≤ l) g0 g0 := Step.refl _ _
 unfold F.baizeref02_FromNum at hs
 refine CP.seqR ?_
 refine WP.alloc (T := 32) (t + 1) [encA .u8 (zA 8)] [8] (by kernel_rfl) (by simp [len_encA]) ?_
 intro g1 b1 st1 hB1
 replace tot := tot.trans st1.pure
 refine WP.dn ?_
 refine NX.then_n ?_
 refine CP.seqR ?_
 refine WP.stl 1 ?_
 refine WP.alloc (T := 32) (t + 2) [encA .u8 (zA 8)] [8] (by kernel_rfl) (by simp [len_encA]) ?_
 intro g2 b2 st2 hB2
 replace hB1 := hB1.mono st2 (fun x => x)
 replace tot := tot.trans st2.pure
 refine WP.storeB (ty := 32) (off := 0) (v := AG [encA .u8 (zA 8)]) hB2 [encA .u8 (zA 8)] [8] (by kernel_rfl) (by kernel_rfl) (by simp [len_encA]) (by kernel_rfl) [encA .u8 (zA 8)] (by kernel_rfl) (.arr .nil) ?_
 intro g3 st3 hB3
 replace hB1 := hB1.mono st3 (WL.no1 (by omega))
 replace tot := tot.trans (st3.up1 (.inr (by omega)))
 clear hB2
 have hB2 := hB3
 clear hB3
 refine WP.dn ?_
 refine NX.then_n ?_
 refine CP.seq ?_
 refine CP.seqR ?_
 refine WP.stl 1 ?_
 refine WP.dn ?_
 refine NX.then_n ?_
 refine CP.block ?_
 generalize fuel = k1 at hs
 refine CP.loop (fun k1 tm g => ∃ (x2 : Int) (d1 : Arr Int 8) (x3 : Int), Fr 18 [(0, .int .u64 x2), (2, .pointer (some ⟨b1, 0, none⟩)), (3, .pointer (some ⟨b2, 0, none⟩)), (4, .int .i64 x3)] tm ∧ Step (fun l => NoM l ∨ t ≤ l) g0 g ∧ Box g (t + 1) b1 32 [encA .u8 (zA 8)] [8] ∧ Box g (t + 2) b2 32 [encA .u8 d1] [8] ∧ F.baizeref02_FromNum.l1 k1 x2 d1 x3 = some o1) k1 ?_ ?_ ?_
 ·exact ⟨x1, (zA 8), 0, ⟨by kernel_rfl, by kernel_rfl⟩, tot, hB1, hB2, hs⟩
 ·rintro tm g ⟨x2, d1, x3, hF, tot, hB1, hB2, hs⟩
  exact absurd hs (by simp [F.baizeref02_FromNum.l1])
 clear tot hs hB1 hB2
 rintro k1 tm g ⟨x2, d1, x3, hF, tot, hB1, hB2, hs⟩
 clear ds
 obtain ⟨ds, rfl⟩ := hF.open
 clear hF
 unfold F.baizeref02_FromNum.l1 at hs
 refine CP.seq ?_
 refine CP.seqR ?_
 refine WP.stl 2 ?_
 refine WP.dn ?_
 refine NX.then_n ?_
 refine CP.cond (b := decide (x3 < 8)) (by kernel_rfl) (fun h3 => ?_) (fun h3 => ?_)
 ·replace hs := of_if_t hs h3
  refine CP.skip ?_
  refine NX.then_n ?_
  refine CP.seq ?_
  refine CP.block ?_
  refine CP.seqR ?_
  refine WP.stl 4 ?_
  by_cases hc2 : (0 : Int) ≤ x3 ∧ x3 < (8 : Int)
  case neg => rw [if_neg hc2] at hs; cases hs
  replace hs := of_if_p hs hc2
  refine WP.ixBox (t := 32) (e := 5) (m := 8) (size := 1) (b := b2) (off := 0) (k := .i64) (i := x3) (by kernel_rfl) (by kernel_rfl) hc2 ?_
  refine WP.storeE (ty := 5) (o := 0) (m := 8) (k := .u8) (d := d1) (i := x3) (x := (IntKind.u8.wrap (x2.tmod 256))) hB2 (by kernel_rfl) hc2 (by kernel_rfl) (by kernel_rfl) [encA .u8 (aset d1 x3 (IntKind.u8.wrap (x2.tmod 256)))] (by kernel_rfl) ?_
  intro g8 st8 hB8
  replace hB1 := hB1.mono st8 (WL.no1 (by omega))
  replace tot := tot.trans (st8.up1 (.inr (by omega)))
  clear hB2
  have hB2 := hB8
  clear hB8
  refine WP.dn ?_
  refine NX.then_n ?_
  refine CP.region ?_
  refine WP.stl 3 ?_
  refine WP.dn ?_
  refine NX.block_n ?_
  refine NX.then_n ?_
  refine CP.region ?_
  refine WP.stl 3 ?_
  refine WP.dn ?_
  refine NX.post ?_
  exact ⟨(IntKind.u64.wrap (x2.tdiv 256)), (aset d1 x3 (IntKind.u8.wrap (x2.tmod 256))), (IntKind.i64.wrap (x3 + 1)), ⟨by kernel_rfl, by kernel_rfl⟩, tot, hB1, hB2, hs⟩
 replace hs := of_if_f hs h3
 refine CP.exit ?_
 refine NX.then_e ?_
 refine NX.then_e ?_
 refine NX.block_s ?_
 refine NX.then_n ?_
 refine CP.seqR ?_
 refine WP.loadB (v := AG [encA .u8 d1]) hB2 (by kernel_rfl) (by kernel_rfl) ?_
 refine WP.storeB (ty := 32) (off := 0) (v := AG [encA .u8 d1]) hB1 [encA .u8 d1] [8] (by kernel_rfl) (by kernel_rfl) (by simp [len_encA]) (by kernel_rfl) [encA .u8 d1] (by kernel_rfl) (.arr .nil) ?_
 intro g9 st9 hB9
 replace hB2 := hB2.mono st9 (WL.no1 (by omega))
 replace tot := tot.trans (st9.up1 (.inr (by omega)))
 clear hB1
 have hB1 := hB9
 clear hB9
 refine WP.dn ?_
 refine NX.then_n ?_
 refine CP.ret ?_
 replace hs := Option.some.inj hs
 obtain rfl := hs
 exact NX.fin (v := AG [encA .u8 d1]) (Res.one rfl (RV.box (agg := true) (size := 8) (rs := [encA .u8 d1]) hB1 (by kernel_rfl) (by kernel_rfl) (by kernel_rfl) (by kernel_rfl))) tot htL rfl
def F.baizeref02_Out (x1 : Int) (x2 : Int) (x3 : Int) (x4 : Int) : Option ((Arr Int 8)) := ((F.baizeref02_FromNum (bitXor .u64 x1 x3)).bind fun d1 => (some d1))
theorem P.baizeref02_Out (g0 : GW) (x1 : Int) (x2 : Int) (x3 : Int) (x4 : Int) (o1 : Arr Int 8) (hs : F.baizeref02_Out x1 x2 x3 x4 = some o1) :
  Calls Try.prog 88 #[AG [[.int .u64 x1], [.int .u64 x2], [.int .u64 x3], [.int .u64 x4]]] g0.w (Ret NoM g0 fun v g => v = AG [encA .u8 o1]) := by
 refine calls_of (args := [AG [[.int .u64 x1], [.int .u64 x2], [.int .u64 x3], [.int .u64 x4]]]) Try.func88 rfl (0) ?_
 intro t ht htL
 refine ⟨_, rfl, ?_⟩
 refine CP.refr 9 [(0, AG [[.int .u64 x1], [.int .u64 x2], [.int .u64 x3], [.int .u64 x4]])] (by kernel_rfl) (by kernel_rfl) ?_
 intro ds
 have tot : Step (fun l => NoM l ∨ t ≤ l) g0 g0 := Step.refl _ _
 unfold F.baizeref02_Out at hs
 refine CP.seqR ?_
 refine WP.alloc (T := 157) (t + 1) [[.int .u64 x1], [.int .u64 x2], [.int .u64 x3], [.int .u64 x4]] [1, 1, 1, 1] (by kernel_rfl) rfl ?_
 intro g1 b1 st1 hB1
 replace tot := tot.trans st1.pure
 refine WP.alloc (T := 32) (t + 2) [encA .u8 (zA 8)] [8] (by kernel_rfl) (by simp [len_encA]) ?_
 intro g2 b2 st2 hB2
 replace hB1 := hB1.mono st2 (fun x => x)
 replace tot := tot.trans st2.pure
 refine WP.dn ?_
 refine NX.then_n ?_
 refine CP.seqR ?_
 refine WP.stl 1 ?_
 refine WP.loadB (v := .int .u64 x1) hB1 (by kernel_rfl) (by kernel_rfl) ?_
 refine WP.stl 1 ?_
 refine WP.loadB (v := .int .u64 x3) hB1 (by kernel_rfl) (by kernel_rfl) ?_
 refine WP.stl 1 ?_
 replace hs := Option.bind_eq_some_iff.1 hs
 obtain ⟨d1, hk1, hs⟩ := hs
 have hcal1 := P.baizeref02_FromNum g2 (bitXor .u64 x1 x3) d1 hk1
 refine WP.callC hcal1 (by kernel_rfl) ?_
 rintro _ g3 st3 rfl
 replace hB1 := hB1.mono st3 (fun x => x)
 replace hB2 := hB2.mono st3 (fun x => x)
 replace tot := tot.trans st3.pure
 refine WP.storeB (ty := 32) (off := 0) (v := AG [encA .u8 d1]) hB2 [encA .u8 d1] [8] (by kernel_rfl) (by kernel_rfl) (by simp [len_encA]) (by kernel_rfl) [encA .u8 d1] (by kernel_rfl) (.arr .nil) ?_
 intro g4 st4 hB3
 replace hB1 := hB1.mono st4 (WL.no1 (by omega))
 replace tot := tot.trans (st4.up1 (.inr (by omega)))
 clear hB2
 have hB2 := hB3
 clear hB3
 refine WP.dn ?_
 refine NX.then_n ?_
 refine CP.ret ?_
 replace hs := Option.some.inj hs
 obtain rfl := hs
 exact NX.fin (v := AG [encA .u8 d1]) (Res.one rfl (RV.box (agg := true) (size := 8) (rs := [encA .u8 d1]) hB2 (by kernel_rfl) (by kernel_rfl) (by kernel_rfl) (by kernel_rfl))) tot htL rfl
def F.baizeref02_Of (l1 : List Int) : Option ((Arr Int 8)) := ((F.baizeref02_Begin 1).bind fun (x1, x2, x3, x4) => ((F.baizeref02_Bytes x1 x2 x3 x4 l1).bind fun (x5, x6, x7, x8) => ((F.baizeref02_Out x5 x6 x7 x8).bind fun d1 => (some d1))))
theorem P.baizeref02_Of (g0 : GW) (l1 : List Int) (a1 : Option Addr) (n1 : Nat) (c1 : Nat) (hR1 : RdS (Kd.int .u8) g0 5 a1 n1 c1 l1) (o1 : Arr Int 8) (hs : F.baizeref02_Of l1 = some o1) :
  Calls Try.prog 80 #[.slice a1 n1 c1] g0.w (Ret NoM g0 fun v g => v = AG [encA .u8 o1]) := by
 refine calls_of (args := [.slice a1 n1 c1]) Try.func80 rfl (0) ?_
 intro t ht htL
 refine ⟨_, rfl, ?_⟩
 refine CP.refr 7 [(0, .slice a1 n1 c1)] (by kernel_rfl) (by kernel_rfl) ?_
 intro ds
 have tot : Step (fun l => NoM l ∨ t ≤ l) g0 g0 := Step.refl _ _
 unfold F.baizeref02_Of at hs
 refine CP.seqR ?_
 refine WP.alloc (T := 32) (t + 1) [encA .u8 (zA 8)] [8] (by kernel_rfl) (by simp [len_encA]) ?_
 intro g1 b1 st1 hB1
 replace hR1 := hR1.mono st1 (fun x => x)
 replace tot := tot.trans st1.pure
 refine WP.dn ?_
 refine NX.then_n ?_
 refine CP.seqR ?_
 replace hs := Option.bind_eq_some_iff.1 hs
 obtain ⟨⟨x1, x2, x3, x4⟩, hk1, hs⟩ := hs
 dsimp only at hs
 have hcal1 := P.baizeref02_Begin g1 1 x1 x2 x3 x4 hk1
 refine WP.callC hcal1 (by kernel_rfl) ?_
 rintro _ g2 st2 rfl
 replace hR1 := hR1.mono st2 (fun x => x)
 replace hB1 := hB1.mono st2 (fun x => x)
 replace tot := tot.trans st2.pure
 refine WP.stl 1 ?_
 replace hs := Option.bind_eq_some_iff.1 hs
 obtain ⟨⟨x5, x6, x7, x8⟩, hk2, hs⟩ := hs
 dsimp only at hs
 have hcal2 := P.baizeref02_Bytes g2 x1 x2 x3 x4 l1 a1 n1 c1 hR1 x5 x6 x7 x8 hk2
 refine WP.callC hcal2 (by kernel_rfl) ?_
 rintro _ g3 st3 rfl
 replace hR1 := hR1.mono st3 (fun x => x)
 replace hB1 := hB1.mono st3 (fun x => x)
 replace tot := tot.trans st3.pure
 replace hs := Option.bind_eq_some_iff.1 hs
 obtain ⟨d1, hk3, hs⟩ := hs
 have hcal3 := P.baizeref02_Out g3 x5 x6 x7 x8 d1 hk3
 refine WP.callC hcal3 (by kernel_rfl) ?_
 rintro _ g4 st4 rfl
 replace hR1 := hR1.mono st4 (fun x => x)
 replace hB1 := hB1.mono st4 (fun x => x)
 replace tot := tot.trans st4.pure
 refine WP.storeB (ty := 32) (off := 0) (v := AG [encA .u8 d1]) hB1 [encA .u8 d1] [8] (by kernel_rfl) (by kernel_rfl) (by simp [len_encA]) (by kernel_rfl) [encA .u8 d1] (by kernel_rfl) (.arr .nil) ?_
 intro g5 st5 hB2
 replace hR1 := hR1.mono st5 (WL.no1 (by omega))
 replace tot := tot.trans (st5.up1 (.inr (by omega)))
 clear hB1
 have hB1 := hB2
 clear hB2
 refine WP.dn ?_
 refine NX.then_n ?_
 refine CP.ret ?_
 replace hs := Option.some.inj hs
 obtain rfl := hs
 exact NX.fin (v := AG [encA .u8 d1]) (Res.one rfl (RV.box (agg := true) (size := 8) (rs := [encA .u8 d1]) hB1 (by kernel_rfl) (by kernel_rfl) (by kernel_rfl) (by kernel_rfl))) tot htL rfl
def F.baizeref32_Of (l1 : List Int) : Option ((Arr Int 8)) := ((F.baizeref02_Of l1).bind fun d1 => (some d1))
theorem P.baizeref32_Of (g0 : GW) (l1 : List Int) (a1 : Option Addr) (n1 : Nat) (c1 : Nat) (hR1 : RdS (Kd.int .u8) g0 5 a1 n1 c1 l1) (o1 : Arr Int 8) (hs : F.baizeref32_Of l1 = some o1) :
  Calls Try.prog 62 #[.slice a1 n1 c1] g0.w (Ret NoM g0 fun v g => v = AG [encA .u8 o1]) := by
 refine calls_of (args := [.slice a1 n1 c1]) Try.func62 rfl (0) ?_
 intro t ht htL
 refine ⟨_, rfl, ?_⟩
 refine CP.refr 5 [(0, .slice a1 n1 c1)] (by kernel_rfl) (by kernel_rfl) ?_
 intro ds
 have tot : Step (fun l => NoM l ∨ t ≤ l) g0 g0 := Step.refl _ _
 unfold F.baizeref32_Of at hs
 refine CP.seqR ?_
 refine WP.alloc (T := 32) (t + 1) [encA .u8 (zA 8)] [8] (by kernel_rfl) (by simp [len_encA]) ?_
 intro g1 b1 st1 hB1
 replace hR1 := hR1.mono st1 (fun x => x)
 replace tot := tot.trans st1.pure
 refine WP.dn ?_
 refine NX.then_n ?_
 refine CP.seqR ?_
 refine WP.stl 1 ?_
 replace hs := Option.bind_eq_some_iff.1 hs
 obtain ⟨d1, hk1, hs⟩ := hs
 have hcal1 := P.baizeref02_Of g1 l1 a1 n1 c1 hR1 d1 hk1
 refine WP.callC hcal1 (by kernel_rfl) ?_
 rintro _ g2 st2 rfl
 replace hR1 := hR1.mono st2 (fun x => x)
 replace hB1 := hB1.mono st2 (fun x => x)
 replace tot := tot.trans st2.pure
 refine WP.storeB (ty := 32) (off := 0) (v := AG [encA .u8 d1]) hB1 [encA .u8 d1] [8] (by kernel_rfl) (by kernel_rfl) (by simp [len_encA]) (by kernel_rfl) [encA .u8 d1] (by kernel_rfl) (.arr .nil) ?_
 intro g3 st3 hB2
 replace hR1 := hR1.mono st3 (WL.no1 (by omega))
 replace tot := tot.trans (st3.up1 (.inr (by omega)))
 clear hB1
 have hB1 := hB2
 clear hB2
 refine WP.dn ?_
 refine NX.then_n ?_
 refine CP.ret ?_
 replace hs := Option.some.inj hs
 obtain rfl := hs
 exact NX.fin (v := AG [encA .u8 d1]) (Res.one rfl (RV.box (agg := true) (size := 8) (rs := [encA .u8 d1]) hB1 (by kernel_rfl) (by kernel_rfl) (by kernel_rfl) (by kernel_rfl))) tot htL rfl
def N.baizeref32_Act_0 : List (List Nat) := [[], [], [1], [0, 1, 2], [], [0, 1, 2, 3, 4], [0, 1, 2, 3, 4, 5], [0, 1, 2, 3, 4, 5, 6]]
def F.baizeref32_Act (d1 : Arr Int 8) (x1 : Int) (d2 : Arr Int 8) (l1 : List Int) : Option ((List Int)) := ((F.baizeref32_text str_3).bind fun l3 => ((F.baizeref01_Bytes d1.1).bind fun l4 => (if l3.length + l4.length ≤ 140737488355328 then ((F.baizeref32_number x1).bind fun l6 => (if (l3 ++ l4).length + l6.length ≤ 140737488355328 then ((F.baizeref01_Bytes d2.1).bind fun l7 => (if ((l3 ++ l4) ++ l6).length + l7.length ≤ 140737488355328 then ((F.baizeref01_Bytes l1).bind fun l8 => (if (((l3 ++ l4) ++ l6) ++ l7).length + l8.length ≤ 140737488355328 then (some ((((l3 ++ l4) ++ l6) ++ l7) ++ l8)) else none)) else none)) else none)) else none)))
theorem P.baizeref32_Act (g0 : GW) (r0 : Nat) (d1 : Arr Int 8) (x1 : Int) (d2 : Arr Int 8) (l1 : List Int) (a1 : Option Addr) (n1 : Nat) (c1 : Nat) (hR1 : RdS (Kd.int .u8) g0 5 a1 n1 c1 l1) (o1 : List Int) (hs : F.baizeref32_Act d1 x1 d2 l1 = some o1) :
  Calls Try.prog 64 #[AG [encA .u8 d1], .int .i64 x1, AG [encA .u8 d2], .slice a1 n1 c1] g0.w (Ret NoM g0 fun v g => ∃ (a_1 : Option Addr) (n_1 : Nat) (c_1 : Nat), v = .slice a_1 n_1 c_1 ∧ OwnS (Kd.int .u8) g r0 5 a_1 n_1 c_1 o1) := by
 refine calls_of (args := [AG [encA .u8 d1], .int .i64 x1, AG [encA .u8 d2], .slice a1 n1 c1]) Try.func64 rfl (r0 + 0) ?_
 intro t ht htL
 refine ⟨_, rfl, ?_⟩
 refine CP.refr 25 [(0, AG [encA .u8 d1]), (1, .int .i64 x1), (2, AG [encA .u8 d2]), (3, .slice a1 n1 c1)] (by kernel_rfl) (by kernel_rfl) ?_
 intro ds
 have tot : Step (fun l => NoM l ∨ t ≤ l) g0 g0 := Step.refl _ _
 unfold F.baizeref32_Act at hs
 refine CP.seqR ?_
 refine WP.alloc (T := 32) (t + 1) [encA .u8 d1] [8] (by kernel_rfl) (by simp [len_encA]) ?_
 intro g1 b1 st1 hB1
 replace hR1 := hR1.mono st1 (fun x => x)
 replace tot := tot.trans st1.pure
 refine WP.alloc (T := 32) (t + 2) [encA .u8 d2] [8] (by kernel_rfl) (by simp [len_encA]) ?_
 intro g2 b2 st2 hB2
 replace hR1 := hR1.mono st2 (fun x => x)
 replace hB1 := hB1.mono st2 (fun x => x)
 replace tot := tot.trans st2.pure
 refine WP.stl 1 ?_
 refine WP.dn ?_
 refine NX.then_n ?_
 refine CP.seq ?_
 obtain ⟨g4, hw1, st4, hnew⟩ := hB1.relab 0
 refine CP.regw hw1 ?_
 replace hR1 := hR1.mono st4 (WL.no1 (by omega))
 replace hB2 := hB2.mono st4 (WL.no1 (by omega))
 replace tot := tot.trans (st4.up1 (.inr (by omega)))
 clear hB1
 have hB1 := hnew
 clear hnew
 replace hs := Option.bind_eq_some_iff.1 hs
 obtain ⟨l3, hk2, hs⟩ := hs
 replace hs := Option.bind_eq_some_iff.1 hs
 obtain ⟨l4, hk3, hs⟩ := hs
 by_cases hc1 : l3.length + l4.length ≤ 140737488355328
 case neg => rw [if_neg hc1] at hs; cases hs
 replace hs := of_if_p hs hc1
 refine CP.drawL (by kernel_rfl) [0, 1, 2, 3] [[], [], [0, 1], [0, 1, 2], [0, 1, 2, 3]] [⟨none, [], [], fun l g => Box g 0 b1 32 [encA .u8 d1] [8]⟩, ⟨some 0, [0], [0], fun l g => ∃ (a4 : Option Addr) (c3 : Nat), l.getD 0 undef = .slice a4 l3.length c3 ∧ OwnS (Kd.int .u8) g (t + 4) 5 a4 l3.length c3 l3⟩, ⟨some 1, [], [1], fun l g => ∃ (a5 : Option Addr), l.getD 0 undef = .slice a5 ((8 : Int).toNat - (0 : Int).toNat) (8 - (0 : Int).toNat) ∧ RdS (Kd.int .u8) g 5 a5 ((8 : Int).toNat - (0 : Int).toNat) (8 - (0 : Int).toNat) d1.1⟩, ⟨some 2, [], [2], fun l g => ∃ (a6 : Option Addr) (c4 : Nat), l.getD 0 undef = .slice a6 l4.length c4 ∧ OwnS (Kd.int .u8) g (t + 5) 5 a6 l4.length c4 l4⟩, ⟨some 3, [0], [3], fun l g => ∃ (a7 : Option Addr) (c5 : Nat), l.getD 0 undef = .slice a7 (l3.length + l4.length) c5 ∧ OwnS (Kd.int .u8) g (t + 4) 5 a7 (l3.length + l4.length) c5 (l3 ++ l4)⟩, ⟨some 3, [], [0], fun l g => ∃ (a4 : Option Addr) (c3 : Nat), l.getD 0 undef = .slice a4 l3.length c3⟩] [[], [], [], [0]] [(t + 4)] [] [4] (by kernel_rfl) (by simp <;> omega) (by simp) ⟨fun _ _ _ _ st h0 hl hj hB1 => (hB1.mono st (fun h => absurd (hl _ h) (by simp <;> omega))), fun _ _ _ _ st h0 hl hj ⟨a4, c3, e0, hR4⟩ => ⟨a4, c3, e0, (hR4.mono st h0 (hj 0 (by simp) _ rfl))⟩, fun _ _ _ _ st h0 hl hj ⟨a5, e1, hR5⟩ => ⟨a5, e1, (RdS.mono (e := 5) hR5 st h0)⟩, fun _ _ _ _ st h0 hl hj ⟨a6, c4, e2, hR6⟩ => ⟨a6, c4, e2, (hR6.mono st h0 (fun h => absurd (hl _ h) (by simp <;> omega)))⟩, fun _ _ _ _ st h0 hl hj ⟨a7, c5, e3, hR7⟩ => ⟨a7, c5, e3, (hR7.mono st h0 (hj 0 (by simp) _ rfl))⟩, fun _ _ _ _ st h0 hl hj ⟨a4, c3, e0⟩ => ⟨a4, c3, e0⟩, tv⟩ ⟨hB1, tv, tv, tv, tv, tv, tv⟩ (by kernel_rfl) (fun vs => by kernel_rfl) ?_ ?_ ?_
 ·intro j hj
  have hq : j = 0 := by have h : j < 1 := hj; omega
  rcases hq with rfl
  ·intro vs gq stq hl hf
   obtain ⟨v0, v1, v2, v3, rfl⟩ := len_k4 hl
   obtain ⟨a7, c5, e3, hR7⟩ := (show ∃ (a7 : Option Addr) (c5 : Nat), v3 = .slice a7 (l3.length + l4.length) c5 ∧ OwnS (Kd.int .u8) gq (t + 4) 5 a7 (l3.length + l4.length) c5 (l3 ++ l4) from hf _ (memI 4 rfl) (by kernel_rfl))
   subst e3
   show Option.isSome _ = true
   kernel_rfl
 ·intro j hj
  have hq : j = 0 ∨ j = 1 ∨ j = 2 ∨ j = 3 := by have h : j < 4 := hj; omega
  rcases hq with rfl | rfl | rfl | rfl
  ·intro vs gq stq hl hf
   obtain ⟨v0, v1, v2, v3, rfl⟩ := len_k4 hl
   have hcal2 := P.baizeref32_text gq (t + 4) str_3 l3 hk2
   refine WP.callC hcal2 (by kernel_rfl) ?_
   rintro _ g5 st5 ⟨a4, n3, c3, rfl, hR4⟩
   obtain rfl := hR4.len
   refine WP.dn (Shown.o (v := .slice a4 l3.length c3) st5.pure ?_)
   exact ⟨tv, ⟨a4, c3, rfl, hR4⟩, tv, tv, tv, tv, tv⟩
  ·intro vs gq stq hl hf
   obtain ⟨v0, v1, v2, v3, rfl⟩ := len_k4 hl
   have hB1 := (show Box gq 0 b1 32 [encA .u8 d1] [8] from hf _ (memI 0 rfl) (by kernel_rfl))
   refine WP.sliceZ (o := 0) (m := 8) (k := .u8) (d := d1) (e := 5) (lo := none) (hi := none) hB1 (by kernel_rfl) (0 : Int) (8 : Int) (by kernel_rfl) (.inl ⟨rfl, rfl⟩) (.inl ⟨rfl, rfl⟩) (by decide) ?_
   intro a5 hR5
   rw [sliceI_all (m := 8) (d := d1) (j := (8 : Int)) rfl] at hR5
   refine WP.dn (Shown.ok (v := .slice a5 ((8 : Int).toNat - (0 : Int).toNat) (8 - (0 : Int).toNat)) (by kernel_rfl) (Step.refl _ _) ?_)
   exact ⟨tv, tv, ⟨a5, rfl, hR5⟩, tv, tv, tv, tv⟩
  ·intro vs gq stq hl hf
   obtain ⟨v0, v1, v2, v3, rfl⟩ := len_k4 hl
   obtain ⟨a5, e1, hR5⟩ := (show ∃ (a5 : Option Addr), v1 = .slice a5 ((8 : Int).toNat - (0 : Int).toNat) (8 - (0 : Int).toNat) ∧ RdS (Kd.int .u8) gq 5 a5 ((8 : Int).toNat - (0 : Int).toNat) (8 - (0 : Int).toNat) d1.1 from hf _ (memI 2 rfl) (by kernel_rfl))
   subst e1
   have hcal3 := P.baizeref01_Bytes gq (t + 5) d1.1 a5 ((8 : Int).toNat - (0 : Int).toNat) (8 - (0 : Int).toNat) hR5 l4 hk3
   refine WP.callC hcal3 (by kernel_rfl) ?_
   rintro _ g6 st6 ⟨a6, n4, c4, rfl, hR6⟩
   obtain rfl := hR6.len
   refine WP.dn (Shown.o (v := .slice a6 l4.length c4) st6.pure ?_)
   exact ⟨tv, tv, tv, ⟨a6, c4, rfl, hR6⟩, tv, tv, tv⟩
  ·intro vs gq stq hl hf
   obtain ⟨v0, v1, v2, v3, rfl⟩ := len_k4 hl
   obtain ⟨a4, c3, e0, hR4⟩ := (show ∃ (a4 : Option Addr) (c3 : Nat), v0 = .slice a4 l3.length c3 ∧ OwnS (Kd.int .u8) gq (t + 4) 5 a4 l3.length c3 l3 from hf _ (memI 1 rfl) (by kernel_rfl))
   subst e0
   obtain ⟨a6, c4, e2, hR6⟩ := (show ∃ (a6 : Option Addr) (c4 : Nat), v2 = .slice a6 l4.length c4 ∧ OwnS (Kd.int .u8) gq (t + 5) 5 a6 l4.length c4 l4 from hf _ (memI 3 rfl) (by kernel_rfl))
   subst e2
   refine WP.append (kd := (Kd.int .u8)) (t := 33) (e := 5) (bytes := 1) (a2 := a6) (c2 := c4) hR4 hR6.src hR6.len (by kernel_rfl) (by kernel_rfl) (by omega) (by simp only [maxLen]; omega) (by omega) ?_
   intro g7 a7 c5 st7 hR7
   refine WP.dn (Shown.o (v := .slice a7 (l3.length + l4.length) c5) st7 ?_)
   exact ⟨tv, tv, tv, tv, ⟨a7, c5, rfl, hR7⟩, ⟨a4, c3, rfl⟩, tv⟩
 intro vs g8 st8 hl hf
 obtain ⟨v0, v1, v2, v3, rfl⟩ := len_k4 hl
 obtain ⟨a7, c5, e3, hR7⟩ := (show ∃ (a7 : Option Addr) (c5 : Nat), v3 = .slice a7 (l3.length + l4.length) c5 ∧ OwnS (Kd.int .u8) g8 (t + 4) 5 a7 (l3.length + l4.length) c5 (l3 ++ l4) from hf _ (memI 4 rfl) (by kernel_rfl))
 subst e3
 replace hR1 := hR1.mono st8 (WL.no1 (by omega))
 replace hB2 := hB2.mono st8 (WL.no1 (by omega))
 replace tot := tot.trans (st8.up1 (.inr (by omega)))
 refine NX.then_n ?_
 refine CP.refr 25 [(1, .int .i64 x1), (3, .slice a1 n1 c1), (6, .pointer (some ⟨b2, 0, none⟩)), (9, .slice a7 (l3.length + l4.length) c5)] (by kernel_rfl) (by kernel_rfl) ?_
 clear ds
 intro ds
 refine CP.seq ?_
 obtain ⟨g11, hw2, st11, hnew⟩ := hB2.relab 0
 refine CP.regw hw2 ?_
 replace hR1 := hR1.mono st11 (WL.no1 (by omega))
 replace hR7 := hR7.mono st11 (WL.no1 (by omega)) (WL.no1 (by omega))
 replace tot := tot.trans (st11.up1 (.inr (by omega)))
 clear hB2
 have hB2 := hnew
 clear hnew
 replace hs := Option.bind_eq_some_iff.1 hs
 obtain ⟨l6, hk5, hs⟩ := hs
 by_cases hc3 : (l3 ++ l4).length + l6.length ≤ 140737488355328
 case neg => rw [if_neg hc3] at hs; cases hs
 replace hs := of_if_p hs hc3
 replace hs := Option.bind_eq_some_iff.1 hs
 obtain ⟨l7, hk6, hs⟩ := hs
 by_cases hc4 : ((l3 ++ l4) ++ l6).length + l7.length ≤ 140737488355328
 case neg => rw [if_neg hc4] at hs; cases hs
 replace hs := of_if_p hs hc4
 refine CP.drawL (by kernel_rfl) [2, 3, 4, 5, 6] N.baizeref32_Act_0 [⟨none, [], [], fun l g => Box g 0 b2 32 [encA .u8 d2] [8]⟩, ⟨none, [0], [], fun l g => OwnS (Kd.int .u8) g (t + 4) 5 a7 (l3.length + l4.length) c5 (l3 ++ l4)⟩, ⟨some 0, [], [0], fun l g => ∃ (a11 : Option Addr) (c8 : Nat), l.getD 0 undef = .slice a11 l6.length c8 ∧ OwnS (Kd.int .u8) g (t + 7) 5 a11 l6.length c8 l6⟩, ⟨some 1, [0], [1], fun l g => ∃ (a12 : Option Addr) (c9 : Nat), l.getD 0 undef = .slice a12 ((l3.length + l4.length) + l6.length) c9 ∧ OwnS (Kd.int .u8) g (t + 4) 5 a12 ((l3.length + l4.length) + l6.length) c9 ((l3 ++ l4) ++ l6)⟩, ⟨some 2, [], [2], fun l g => ∃ (a13 : Option Addr), l.getD 0 undef = .slice a13 ((8 : Int).toNat - (0 : Int).toNat) (8 - (0 : Int).toNat) ∧ RdS (Kd.int .u8) g 5 a13 ((8 : Int).toNat - (0 : Int).toNat) (8 - (0 : Int).toNat) d2.1⟩, ⟨some 3, [], [3], fun l g => ∃ (a14 : Option Addr) (c10 : Nat), l.getD 0 undef = .slice a14 l7.length c10 ∧ OwnS (Kd.int .u8) g (t + 8) 5 a14 l7.length c10 l7⟩, ⟨some 4, [0], [4], fun l g => ∃ (a15 : Option Addr) (c11 : Nat), l.getD 0 undef = .slice a15 (((l3.length + l4.length) + l6.length) + l7.length) c11 ∧ OwnS (Kd.int .u8) g (t + 4) 5 a15 (((l3.length + l4.length) + l6.length) + l7.length) c11 (((l3 ++ l4) ++ l6) ++ l7)⟩, ⟨some 4, [], [1], fun l g => ∃ (a12 : Option Addr) (c9 : Nat), l.getD 0 undef = .slice a12 ((l3.length + l4.length) + l6.length) c9⟩] [[], [0], [], [], [0]] [(t + 4)] [0, 1] [7] (by kernel_rfl) (by simp <;> omega) (by simp) ⟨fun _ _ _ _ st h0 hl hj hB2 => (hB2.mono st (fun h => absurd (hl _ h) (by simp <;> omega))), fun _ _ _ _ st h0 hl hj hR7 => (hR7.mono st h0 (hj 0 (by simp) _ rfl)), fun _ _ _ _ st h0 hl hj ⟨a11, c8, e0, hR11⟩ => ⟨a11, c8, e0, (hR11.mono st h0 (fun h => absurd (hl _ h) (by simp <;> omega)))⟩, fun _ _ _ _ st h0 hl hj ⟨a12, c9, e1, hR12⟩ => ⟨a12, c9, e1, (hR12.mono st h0 (hj 0 (by simp) _ rfl))⟩, fun _ _ _ _ st h0 hl hj ⟨a13, e2, hR13⟩ => ⟨a13, e2, (RdS.mono (e := 5) hR13 st h0)⟩, fun _ _ _ _ st h0 hl hj ⟨a14, c10, e3, hR14⟩ => ⟨a14, c10, e3, (hR14.mono st h0 (fun h => absurd (hl _ h) (by simp <;> omega)))⟩, fun _ _ _ _ st h0 hl hj ⟨a15, c11, e4, hR15⟩ => ⟨a15, c11, e4, (hR15.mono st h0 (hj 0 (by simp) _ rfl))⟩, fun _ _ _ _ st h0 hl hj ⟨a12, c9, e1⟩ => ⟨a12, c9, e1⟩, tv⟩ ⟨hB2, hR7, tv, tv, tv, tv, tv, tv, tv⟩ (by kernel_rfl) (fun vs => by kernel_rfl) ?_ ?_ ?_
 ·intro j hj
  have hq : j = 0 := by have h : j < 1 := hj; omega
  rcases hq with rfl
  ·intro vs gq stq hl hf
   obtain ⟨v0, v1, v2, v3, v4, rfl⟩ := len_k5 hl
   obtain ⟨a15, c11, e4, hR15⟩ := (show ∃ (a15 : Option Addr) (c11 : Nat), v4 = .slice a15 (((l3.length + l4.length) + l6.length) + l7.length) c11 ∧ OwnS (Kd.int .u8) gq (t + 4) 5 a15 (((l3.length + l4.length) + l6.length) + l7.length) c11 (((l3 ++ l4) ++ l6) ++ l7) from hf _ (memI 6 rfl) (by kernel_rfl))
   subst e4
   show Option.isSome _ = true
   kernel_rfl
 ·intro j hj
  have hq : j = 0 ∨ j = 1 ∨ j = 2 ∨ j = 3 ∨ j = 4 := by have h : j < 5 := hj; omega
  rcases hq with rfl | rfl | rfl | rfl | rfl
  ·intro vs gq stq hl hf
   obtain ⟨v0, v1, v2, v3, v4, rfl⟩ := len_k5 hl
   have hcal5 := P.baizeref32_number gq (t + 7) x1 l6 hk5
   refine WP.callC hcal5 (by kernel_rfl) ?_
   rintro _ g12 st12 ⟨a11, n6, c8, rfl, hR11⟩
   obtain rfl := hR11.len
   refine WP.dn (Shown.o (v := .slice a11 l6.length c8) st12.pure ?_)
   exact ⟨tv, tv, ⟨a11, c8, rfl, hR11⟩, tv, tv, tv, tv, tv, tv⟩
  ·intro vs gq stq hl hf
   obtain ⟨v0, v1, v2, v3, v4, rfl⟩ := len_k5 hl
   have hR7 := (show OwnS (Kd.int .u8) gq (t + 4) 5 a7 (l3.length + l4.length) c5 (l3 ++ l4) from hf _ (memI 1 rfl) (by kernel_rfl))
   obtain ⟨a11, c8, e0, hR11⟩ := (show ∃ (a11 : Option Addr) (c8 : Nat), v0 = .slice a11 l6.length c8 ∧ OwnS (Kd.int .u8) gq (t + 7) 5 a11 l6.length c8 l6 from hf _ (memI 2 rfl) (by kernel_rfl))
   subst e0
   refine WP.append (kd := (Kd.int .u8)) (t := 33) (e := 5) (bytes := 1) (a2 := a11) (c2 := c8) hR7 hR11.src hR11.len (by kernel_rfl) (by kernel_rfl) (by omega) (by simp only [maxLen]; omega) (by omega) ?_
   intro g13 a12 c9 st13 hR12
   refine WP.dn (Shown.o (v := .slice a12 ((l3.length + l4.length) + l6.length) c9) st13 ?_)
   exact ⟨tv, tv, tv, ⟨a12, c9, rfl, hR12⟩, tv, tv, tv, tv, tv⟩
  ·intro vs gq stq hl hf
   obtain ⟨v0, v1, v2, v3, v4, rfl⟩ := len_k5 hl
   have hB2 := (show Box gq 0 b2 32 [encA .u8 d2] [8] from hf _ (memI 0 rfl) (by kernel_rfl))
   refine WP.sliceZ (o := 0) (m := 8) (k := .u8) (d := d2) (e := 5) (lo := none) (hi := none) hB2 (by kernel_rfl) (0 : Int) (8 : Int) (by kernel_rfl) (.inl ⟨rfl, rfl⟩) (.inl ⟨rfl, rfl⟩) (by decide) ?_
   intro a13 hR13
   rw [sliceI_all (m := 8) (d := d2) (j := (8 : Int)) rfl] at hR13
   refine WP.dn (Shown.ok (v := .slice a13 ((8 : Int).toNat - (0 : Int).toNat) (8 - (0 : Int).toNat)) (by kernel_rfl) (Step.refl _ _) ?_)
   exact ⟨tv, tv, tv, tv, ⟨a13, rfl, hR13⟩, tv, tv, tv, tv⟩
  ·intro vs gq stq hl hf
   obtain ⟨v0, v1, v2, v3, v4, rfl⟩ := len_k5 hl
   obtain ⟨a13, e2, hR13⟩ := (show ∃ (a13 : Option Addr), v2 = .slice a13 ((8 : Int).toNat - (0 : Int).toNat) (8 - (0 : Int).toNat) ∧ RdS (Kd.int .u8) gq 5 a13 ((8 : Int).toNat - (0 : Int).toNat) (8 - (0 : Int).toNat) d2.1 from hf _ (memI 4 rfl) (by kernel_rfl))
   subst e2
   have hcal6 := P.baizeref01_Bytes gq (t + 8) d2.1 a13 ((8 : Int).toNat - (0 : Int).toNat) (8 - (0 : Int).toNat) hR13 l7 hk6
   refine WP.callC hcal6 (by kernel_rfl) ?_
   rintro _ g14 st14 ⟨a14, n7, c10, rfl, hR14⟩
   obtain rfl := hR14.len
   refine WP.dn (Shown.o (v := .slice a14 l7.length c10) st14.pure ?_)
   exact ⟨tv, tv, tv, tv, tv, ⟨a14, c10, rfl, hR14⟩, tv, tv, tv⟩
  ·intro vs gq stq hl hf
   obtain ⟨v0, v1, v2, v3, v4, rfl⟩ := len_k5 hl
   obtain ⟨a12, c9, e1, hR12⟩ := (show ∃ (a12 : Option Addr) (c9 : Nat), v1 = .slice a12 ((l3.length + l4.length) + l6.length) c9 ∧ OwnS (Kd.int .u8) gq (t + 4) 5 a12 ((l3.length + l4.length) + l6.length) c9 ((l3 ++ l4) ++ l6) from hf _ (memI 3 rfl) (by kernel_rfl))
   subst e1
   obtain ⟨a14, c10, e3, hR14⟩ := (show ∃ (a14 : Option Addr) (c10 : Nat), v3 = .slice a14 l7.length c10 ∧ OwnS (Kd.int .u8) gq (t + 8) 5 a14 l7.length c10 l7 from hf _ (memI 5 rfl) (by kernel_rfl))
   subst e3
   refine WP.append (kd := (Kd.int .u8)) (t := 33) (e := 5) (bytes := 1) (a2 := a14) (c2 := c10) hR12 hR14.src hR14.len (by kernel_rfl) (by kernel_rfl) (by omega) (by simp only [maxLen]; omega) (by omega) ?_
   intro g15 a15 c11 st15 hR15
   refine WP.dn (Shown.o (v := .slice a15 (((l3.length + l4.length) + l6.length) + l7.length) c11) st15 ?_)
   exact ⟨tv, tv, tv, tv, tv, tv, ⟨a15, c11, rfl, hR15⟩, ⟨a12, c9, rfl⟩, tv⟩
 intro vs g16 st16 hl hf
 obtain ⟨v0, v1, v2, v3, v4, rfl⟩ := len_k5 hl
 obtain ⟨a15, c11, e4, hR15⟩ := (show ∃ (a15 : Option Addr) (c11 : Nat), v4 = .slice a15 (((l3.length + l4.length) + l6.length) + l7.length) c11 ∧ OwnS (Kd.int .u8) g16 (t + 4) 5 a15 (((l3.length + l4.length) + l6.length) + l7.length) c11 (((l3 ++ l4) ++ l6) ++ l7) from hf _ (memI 6 rfl) (by kernel_rfl))
 subst e4
 replace hR1 := hR1.mono st16 (WL.no1 (by omega))
 replace tot := tot.trans (st16.up1 (.inr (by omega)))
 refine NX.then_n ?_
 refine CP.refr 25 [(3, .slice a1 n1 c1), (9, .slice a15 (((l3.length + l4.length) + l6.length) + l7.length) c11)] (by kernel_rfl) (by kernel_rfl) ?_
 clear ds
 intro ds
 refine CP.seqR ?_
 refine WP.stl 2 ?_
 replace hs := Option.bind_eq_some_iff.1 hs
 obtain ⟨l8, hk7, hs⟩ := hs
 have hcal7 := P.baizeref01_Bytes g16 (t + 9) l1 a1 n1 c1 hR1 l8 hk7
 refine WP.callC hcal7 (by kernel_rfl) ?_
 rintro _ g17 st17 ⟨a16, n8, c12, rfl, hR16⟩
 replace hR1 := hR1.mono st17 (fun x => x)
 replace hR15 := hR15.mono st17 (fun x => x) (fun x => x)
 replace tot := tot.trans st17.pure
 by_cases hc5 : (((l3 ++ l4) ++ l6) ++ l7).length + l8.length ≤ 140737488355328
 case neg => rw [if_neg hc5] at hs; cases hs
 replace hs := of_if_p hs hc5
 refine WP.append (kd := (Kd.int .u8)) (t := 33) (e := 5) (bytes := 1) (a2 := a16) (c2 := c12) hR15 hR16.src hR16.len (by kernel_rfl) (by kernel_rfl) (by omega) (by simp only [maxLen]; omega) (by omega) ?_
 intro g18 a17 c13 st18 hR17
 replace hR1 := hR1.mono st18 (WL.no1 (by omega))
 replace hR16 := hR16.mono st18 (WL.no1 (by omega)) (WL.no1 (by omega))
 replace tot := tot.trans (st18.up1 (.inr (by omega)))
 refine WP.stl 1 ?_
 refine WP.dn ?_
 refine NX.then_n ?_
 refine CP.ret ?_
 obtain ⟨g19, hw3, st19, hnew⟩ := hR17.relab (by omega) r0
 refine NX.regw hw3 ?_
 replace tot := tot.trans (st19.up1 (.inr (by omega)))
 clear hR17
 have hR17 := hnew
 clear hnew
 replace hs := Option.some.inj hs
 obtain rfl := hs
 exact NX.fin (v := .slice a17 ((((l3.length + l4.length) + l6.length) + l7.length) + n8) c13) (Res.still (by kernel_rfl)) tot htL ⟨a17, ((((l3.length + l4.length) + l6.length) + l7.length) + n8), c13, rfl, hR17⟩
def F.baizeref34_Digest (x1 : Int) (d1 : Arr Int 8) (x2 : Int) (d2 : Arr Int 8) (l1 : List Int) (l2 : List Int) (q1 : Bool) : Option ((Arr Int 8)) := (if (x1 == 0) = true then ((F.baizeref32_Bytes d1 x2 l1).bind fun l3 => ((F.baizeref32_Of l3).bind fun d3 => (some d3))) else (if (x1 == 1) = true then ((F.baizeref32_Act d1 x2 d2 l1).bind fun l4 => ((F.baizeref32_Of l4).bind fun d4 => (some d4))) else (some (zA 8))))
theorem P.baizeref34_Digest (g0 : GW) (x1 : Int) (d1 : Arr Int 8) (x2 : Int) (d2 : Arr Int 8) (l1 : List Int) (l2 : List Int) (q1 : Bool) (a1 : Option Addr) (n1 : Nat) (c1 : Nat) (a2 : Option Addr) (n2 : Nat) (c2 : Nat) (hR1 : RdS (Kd.int .u8) g0 5 a1 n1 c1 l1) (hR2 : RdS (Kd.int .u8) g0 5 a2 n2 c2 l2) (o1 : Arr Int 8) (hs : F.baizeref34_Digest x1 d1 x2 d2 l1 l2 q1 = some o1) :
  Calls Try.prog 30 #[AG [[.int .i64 x1], encA .u8 d1, [.int .i64 x2], encA .u8 d2, [.slice a1 n1 c1], [.slice a2 n2 c2], [.bool q1]]] g0.w (Ret NoM g0 fun v g => v = AG [encA .u8 o1]) := by
 refine calls_of (args := [AG [[.int .i64 x1], encA .u8 d1, [.int .i64 x2], encA .u8 d2, [.slice a1 n1 c1], [.slice a2 n2 c2], [.bool q1]]]) Try.func30 rfl (0) ?_
 intro t ht htL
 refine ⟨_, rfl, ?_⟩
 refine CP.refr 28 [(0, AG [[.int .i64 x1], encA .u8 d1, [.int .i64 x2], encA .u8 d2, [.slice a1 n1 c1], [.slice a2 n2 c2], [.bool q1]])] (by kernel_rfl) (by kernel_rfl) ?_
 intro ds
 have tot : Step (fun l => NoM l ∨ t ≤ l) g0 g0 := Step.refl _ _
 unfold F.baizeref34_Digest at hs
 refine CP.seqR ?_
 refine WP.alloc (T := 35) (t + 1) [[.int .i64 x1], encA .u8 d1, [.int .i64 x2], encA .u8 d2, [.slice a1 n1 c1], [.slice a2 n2 c2], [.bool q1]] [1, 8, 1, 8, 1, 1, 1] (by kernel_rfl) (by simp [len_encA]) ?_
 intro g1 b1 st1 hB1
 replace hR1 := hR1.mono st1 (fun x => x)
 replace hR2 := hR2.mono st1 (fun x => x)
 replace tot := tot.trans st1.pure
 refine WP.alloc (T := 32) (t + 2) [encA .u8 (zA 8)] [8] (by kernel_rfl) (by simp [len_encA]) ?_
 intro g2 b2 st2 hB2
 replace hR1 := hR1.mono st2 (fun x => x)
 replace hR2 := hR2.mono st2 (fun x => x)
 replace hB1 := hB1.mono st2 (fun x => x)
 replace tot := tot.trans st2.pure
 refine WP.dn ?_
 refine NX.then_n ?_
 refine CP.seq ?_
 refine CP.seqR ?_
 refine WP.stl 1 ?_
 refine WP.loadB (v := .int .i64 x1) hB1 (by kernel_rfl) (by kernel_rfl) ?_
 refine WP.stl 1 ?_
 refine WP.dn ?_
 refine NX.then_n ?_
 refine CP.cond (b := (x1 == 0)) (by kernel_rfl) (fun h1 => ?_) (fun h1 => ?_)
 ·replace hs := of_if_t hs h1
  refine CP.seqR ?_
  refine WP.stl 1 ?_
  refine WP.loadB (v := AG [encA .u8 d1]) hB1 (by kernel_rfl) (by kernel_rfl) ?_
  refine WP.stl 1 ?_
  refine WP.loadB (v := .int .i64 x2) hB1 (by kernel_rfl) (by kernel_rfl) ?_
  refine WP.stl 1 ?_
  refine WP.loadB (v := .slice a1 n1 c1) hB1 (by kernel_rfl) (by kernel_rfl) ?_
  replace hs := Option.bind_eq_some_iff.1 hs
  obtain ⟨l3, hk1, hs⟩ := hs
  have hcal1 := P.baizeref32_Bytes g2 (t + 3) d1 x2 l1 a1 n1 c1 hR1 l3 hk1
  refine WP.callC hcal1 (by kernel_rfl) ?_
  rintro _ g3 st3 ⟨a3, n3, c3, rfl, hR3⟩
  replace hB1 := hB1.mono st3 (fun x => x)
  replace hR1 := hR1.mono st3 (fun x => x)
  replace hR2 := hR2.mono st3 (fun x => x)
  replace hB2 := hB2.mono st3 (fun x => x)
  replace tot := tot.trans st3.pure
  replace hs := Option.bind_eq_some_iff.1 hs
  obtain ⟨d3, hk2, hs⟩ := hs
  have hS1 : 0 ∉ ([(t + 3)] : List Nat) := by simp <;> omega
  have stl1 := GW.lend_step g3 [(t + 3)]
  have hRl1 := hR3.lendTo hS1 (by simp)
  refine WP.regw (g' := GW.lend g3 [(t + 3)]) rfl ?_
  have hcal2 := P.baizeref32_Of (GW.lend g3 [(t + 3)]) l3 a3 n3 c3 hRl1 d3 hk2
  refine WP.callC hcal2 (by kernel_rfl) ?_
  rintro _ g4 st4 rfl
  have st5 := (GW.back_step st4).lentS
  have hO1 := hR3.backTo hS1 (by simp) st4 (fun x => x)
  refine WP.regw (g' := GW.back g3 g4 [(t + 3)]) rfl ?_
  generalize GW.back g3 g4 [(t + 3)] = g5 at *
  replace hB1 := hB1.mono st5 (WL.no1 (by omega))
  replace hR1 := hR1.mono st5 (WL.no1 (by omega))
  replace hR2 := hR2.mono st5 (WL.no1 (by omega))
  replace hB2 := hB2.mono st5 (WL.no1 (by omega))
  replace tot := tot.trans (st5.up1 (.inr (by omega)))
  clear hR3
  have hR3 : OwnS (Kd.int .u8) g5 (t + 3) 5 a3 n3 c3 l3 := hO1
  clear hO1
  refine WP.storeB (ty := 32) (off := 0) (v := AG [encA .u8 d3]) hB2 [encA .u8 d3] [8] (by kernel_rfl) (by kernel_rfl) (by simp [len_encA]) (by kernel_rfl) [encA .u8 d3] (by kernel_rfl) (.arr .nil) ?_
  intro g6 st6 hB3
  replace hB1 := hB1.mono st6 (WL.no1 (by omega))
  replace hR1 := hR1.mono st6 (WL.no1 (by omega))
  replace hR2 := hR2.mono st6 (WL.no1 (by omega))
  replace hR3 := hR3.mono st6 (WL.no1 (by omega)) (WL.no1 (by omega))
  replace tot := tot.trans (st6.up1 (.inr (by omega)))
  clear hB2
  have hB2 := hB3
  clear hB3
  refine WP.dn ?_
  refine NX.then_n ?_
  refine CP.refr 28 [(2, .pointer (some ⟨b2, 0, none⟩))] (by kernel_rfl) (by kernel_rfl) ?_
  clear ds
  intro ds
  refine CP.ret ?_
  refine NX.then_r ?_
  replace hs := Option.some.inj hs
  obtain rfl := hs
  exact NX.fin (v := AG [encA .u8 d3]) (Res.one rfl (RV.box (agg := true) (size := 8) (rs := [encA .u8 d3]) hB2 (by kernel_rfl) (by kernel_rfl) (by kernel_rfl) (by kernel_rfl))) tot htL rfl
 replace hs := of_if_f hs h1
 refine CP.skip ?_
 refine NX.then_n ?_
 refine CP.seq ?_
 refine CP.seqR ?_
 refine WP.stl 1 ?_
 refine WP.loadB (v := .int .i64 x1) hB1 (by kernel_rfl) (by kernel_rfl) ?_
 refine WP.stl 1 ?_
 refine WP.dn ?_
 refine NX.then_n ?_
 refine CP.cond (b := (x1 == 1)) (by kernel_rfl) (fun h2 => ?_) (fun h2 => ?_)
 ·replace hs := of_if_t hs h2
  refine CP.seqR ?_
  refine WP.stl 1 ?_
  refine WP.loadB (v := AG [encA .u8 d1]) hB1 (by kernel_rfl) (by kernel_rfl) ?_
  refine WP.stl 1 ?_
  refine WP.loadB (v := .int .i64 x2) hB1 (by kernel_rfl) (by kernel_rfl) ?_
  refine WP.stl 1 ?_
  refine WP.loadB (v := AG [encA .u8 d2]) hB1 (by kernel_rfl) (by kernel_rfl) ?_
  refine WP.stl 1 ?_
  refine WP.loadB (v := .slice a1 n1 c1) hB1 (by kernel_rfl) (by kernel_rfl) ?_
  replace hs := Option.bind_eq_some_iff.1 hs
  obtain ⟨l4, hk3, hs⟩ := hs
  have hcal3 := P.baizeref32_Act g2 (t + 4) d1 x2 d2 l1 a1 n1 c1 hR1 l4 hk3
  refine WP.callC hcal3 (by kernel_rfl) ?_
  rintro _ g7 st7 ⟨a4, n4, c4, rfl, hR4⟩
  replace hB1 := hB1.mono st7 (fun x => x)
  replace hR1 := hR1.mono st7 (fun x => x)
  replace hR2 := hR2.mono st7 (fun x => x)
  replace hB2 := hB2.mono st7 (fun x => x)
  replace tot := tot.trans st7.pure
  replace hs := Option.bind_eq_some_iff.1 hs
  obtain ⟨d4, hk4, hs⟩ := hs
  have hS2 : 0 ∉ ([(t + 4)] : List Nat) := by simp <;> omega
  have stl2 := GW.lend_step g7 [(t + 4)]
  have hRl2 := hR4.lendTo hS2 (by simp)
  refine WP.regw (g' := GW.lend g7 [(t + 4)]) rfl ?_
  have hcal4 := P.baizeref32_Of (GW.lend g7 [(t + 4)]) l4 a4 n4 c4 hRl2 d4 hk4
  refine WP.callC hcal4 (by kernel_rfl) ?_
  rintro _ g8 st8 rfl
  have st9 := (GW.back_step st8).lentS
  have hO2 := hR4.backTo hS2 (by simp) st8 (fun x => x)
  refine WP.regw (g' := GW.back g7 g8 [(t + 4)]) rfl ?_
  generalize GW.back g7 g8 [(t + 4)] = g9 at *
  replace hB1 := hB1.mono st9 (WL.no1 (by omega))
  replace hR1 := hR1.mono st9 (WL.no1 (by omega))
  replace hR2 := hR2.mono st9 (WL.no1 (by omega))
  replace hB2 := hB2.mono st9 (WL.no1 (by omega))
  replace tot := tot.trans (st9.up1 (.inr (by omega)))
  clear hR4
  have hR4 : OwnS (Kd.int .u8) g9 (t + 4) 5 a4 n4 c4 l4 := hO2
  clear hO2
  refine WP.storeB (ty := 32) (off := 0) (v := AG [encA .u8 d4]) hB2 [encA .u8 d4] [8] (by kernel_rfl) (by kernel_rfl) (by simp [len_encA]) (by kernel_rfl) [encA .u8 d4] (by kernel_rfl) (.arr .nil) ?_
  intro g10 st10 hB4
  replace hB1 := hB1.mono st10 (WL.no1 (by omega))
  replace hR1 := hR1.mono st10 (WL.no1 (by omega))
  replace hR2 := hR2.mono st10 (WL.no1 (by omega))
  replace hR4 := hR4.mono st10 (WL.no1 (by omega)) (WL.no1 (by omega))
  replace tot := tot.trans (st10.up1 (.inr (by omega)))
  clear hB2
  have hB2 := hB4
  clear hB4
  refine WP.dn ?_
  refine NX.then_n ?_
  refine CP.refr 28 [(2, .pointer (some ⟨b2, 0, none⟩))] (by kernel_rfl) (by kernel_rfl) ?_
  clear ds
  intro ds
  refine CP.ret ?_
  refine NX.then_r ?_
  replace hs := Option.some.inj hs
  obtain rfl := hs
  exact NX.fin (v := AG [encA .u8 d4]) (Res.one rfl (RV.box (agg := true) (size := 8) (rs := [encA .u8 d4]) hB2 (by kernel_rfl) (by kernel_rfl) (by kernel_rfl) (by kernel_rfl))) tot htL rfl
 replace hs := of_if_f hs h2
 refine CP.skip ?_
 refine NX.then_n ?_
 refine CP.seqR ?_
 refine WP.stl 1 ?_
 refine WP.storeB (ty := 32) (off := 0) (v := AG [encA .u8 (zA 8)]) hB2 [encA .u8 (zA 8)] [8] (by kernel_rfl) (by kernel_rfl) (by simp [len_encA]) (by kernel_rfl) [encA .u8 (zA 8)] (by kernel_rfl) (.arr .nil) ?_
 intro g11 st11 hB5
 replace tot := tot.trans (st11.up1 (.inr (by omega)))
 clear hB2
 have hB2 := hB5
 clear hB5
 refine WP.dn ?_
 refine NX.then_n ?_
 refine CP.ret ?_
 replace hs := Option.some.inj hs
 obtain rfl := hs
 exact NX.fin (v := AG [encA .u8 (zA 8)]) (Res.one rfl (RV.box (agg := true) (size := 8) (rs := [encA .u8 (zA 8)]) hB2 (by kernel_rfl) (by kernel_rfl) (by kernel_rfl) (by kernel_rfl))) tot htL rfl
def N.punish_Twice_0 : List (List Nat) := [[], [0], [], [0, 1, 2], [], [], [0, 1, 2, 3, 4, 5], [0, 1, 2, 3, 4, 5, 6]]
def F.punish_Twice.c3 (q15 : Bool) : Option (Int) := (if q15 = true then (some 16) else (some 0))
def N.punish_Twice_1 : List (List Nat) := [[], [], [], [2], [], [4], [0], [0, 6], [0, 6, 7], [0, 1, 2, 3, 4, 5, 6, 7, 8], [0, 1, 2, 3, 4, 5, 6, 7, 8, 9], [0, 1, 2, 3, 4, 5, 6, 7, 8, 9, 10], [0, 1, 2, 3, 4, 5, 6, 7, 8, 9, 10, 11], [0, 1, 2, 3, 4, 5, 6, 7, 8, 9, 10, 11], [0, 1, 2, 3, 4, 5, 6, 7, 8, 9, 10, 11], [0, 1, 2, 3, 4, 5, 6, 7, 8, 9, 10, 11, 14], [0, 1, 2, 3, 4, 5, 6, 7, 8, 9, 10, 11], [0, 1, 2, 3, 4, 5, 6, 7, 8, 9, 10, 11, 16], [0, 1, 2, 3, 4, 5, 6, 7, 8, 9, 10, 11, 12], [0, 1, 2, 3, 4, 5, 6, 7, 8, 9, 10, 11, 12, 18], [0, 1, 2, 3, 4, 5, 6, 7, 8, 9, 10, 11, 12, 18, 19], [0, 1, 2, 3, 4, 5, 6, 7, 8, 9, 10, 11, 12, 13, 14, 15, 16, 17, 18, 19, 20], [0, 1, 2, 3, 4, 5, 6, 7, 8, 9, 10, 11, 12, 13, 14, 15, 16, 17, 18, 19, 20, 21], [0, 1, 2, 3, 4, 5, 6, 7, 8, 9, 10, 11, 12, 13, 14, 15, 16, 17, 18, 19, 20, 21, 22], [0, 1, 2, 3, 4, 5, 6, 7, 8, 9, 10, 11, 12, 13, 14, 15, 16, 17, 18, 19, 20, 21, 22, 23]]
def F.punish_Twice.c2 (l1 : List S_notary_entry) (w1 : (List (S_notary_entry × Int))) (d2 : Arr Int 8) (x1 : Int) (d3 : Arr Int 8) (x2 : Int) (l2 : List Int) (d4 : Arr Int 8) (x3 : Int) (d5 : Arr Int 8) (l3 : List Int) (l4 : List Int) (x4 : Int) (d6 : Arr Int 8) (x5 : Int) (l5 : List Int) (d7 : Arr Int 8) (x6 : Int) (d8 : Arr Int 8) (l6 : List Int) (l7 : List Int) (q12 : Bool) : Option (Int) := (if q12 = true then (some 18) else ((F.punish_Thing_Digest x1 d3 x2 l2 d4 x3 d5 l3 l4).bind fun d29 => ((F.punish_Thing_Digest x4 d6 x5 l5 d7 x6 d8 l6 l7).bind fun d30 => (if (d29.1 == d30.1) = true then (some 7) else ((F.punish_Thing_Digest x1 d3 x2 l2 d4 x3 d5 l3 l4).bind fun d33 => ((F.notary_Book_Verify l1 w1 d2 d33 l4).bind fun q16 => (if (!q16) = true then (F.punish_Twice.c3 true) else ((F.punish_Thing_Digest x4 d6 x5 l5 d7 x6 d8 l6 l7).bind fun d34 => ((F.notary_Book_Verify l1 w1 d2 d34 l7).bind fun q17 => (F.punish_Twice.c3 (!q17)))))))))))
def F.punish_Twice.c1 (l1 : List S_notary_entry) (w1 : (List (S_notary_entry × Int))) (d2 : Arr Int 8) (x1 : Int) (d3 : Arr Int 8) (x2 : Int) (l2 : List Int) (d4 : Arr Int 8) (x3 : Int) (d5 : Arr Int 8) (l3 : List Int) (l4 : List Int) (x4 : Int) (d6 : Arr Int 8) (x5 : Int) (l5 : List Int) (d7 : Arr Int 8) (x6 : Int) (d8 : Arr Int 8) (l6 : List Int) (l7 : List Int) (x18 : Int) (d26 : Arr Int 8) (x19 : Int) (d28 : Arr Int 8) (q11 : Bool) : Option (Int) := (if q11 = true then (some 6) else (if (x18 != x19) = true then (F.punish_Twice.c2 l1 w1 d2 x1 d3 x2 l2 d4 x3 d5 l3 l4 x4 d6 x5 l5 d7 x6 d8 l6 l7 true) else (F.punish_Twice.c2 l1 w1 d2 x1 d3 x2 l2 d4 x3 d5 l3 l4 x4 d6 x5 l5 d7 x6 d8 l6 l7 (!(d26.1 == d28.1)))))
def F.punish_Twice.l1 (l1 : List S_notary_entry) (w1 : (List (S_notary_entry × Int))) (d1 : Arr Int 8) (d2 : Arr Int 8) (x1 : Int) (d3 : Arr Int 8) (x2 : Int) (l2 : List Int) (d4 : Arr Int 8) (x3 : Int) (d5 : Arr Int 8) (l3 : List Int) (l4 : List Int) (x4 : Int) (d6 : Arr Int 8) (x5 : Int) (l5 : List Int) (d7 : Arr Int 8) (x6 : Int) (d8 : Arr Int 8) (l6 : List Int) (l7 : List Int) : Nat → Int → Option (Int)
 | 0, _ => none
 | k + 1, x10 => (if decide (x10 < 2) = true then (if (x10 == 0) = true then ((F.punish_Thing_Check x1 d3 x2 l2 d4 x3 d5 l3 l4).bind fun x16 => (if (x16 != 0) = true then (some x16) else (F.punish_Twice.l1 l1 w1 d1 d2 x1 d3 x2 l2 d4 x3 d5 l3 l4 x4 d6 x5 l5 d7 x6 d8 l6 l7 k (IntKind.i64.wrap (x10 + 1))))) else (if x10 = 1 then ((F.punish_Thing_Check x4 d6 x5 l5 d7 x6 d8 l6 l7).bind fun x17 => (if (x17 != 0) = true then (some x17) else (F.punish_Twice.l1 l1 w1 d1 d2 x1 d3 x2 l2 d4 x3 d5 l3 l4 x4 d6 x5 l5 d7 x6 d8 l6 l7 k (IntKind.i64.wrap (x10 + 1))))) else none)) else ((F.punish_Thing_own x1 d3 x2 l2 d4 x3 d5 l3 l4).bind fun (d25, x18, d26, l12) => ((F.punish_Thing_own x4 d6 x5 l5 d7 x6 d8 l6 l7).bind fun (d27, x19, d28, l13) => (if (x1 != x4) = true then (some 11) else (if (!(d25.1 == d1.1)) = true then (F.punish_Twice.c1 l1 w1 d2 x1 d3 x2 l2 d4 x3 d5 l3 l4 x4 d6 x5 l5 d7 x6 d8 l6 l7 x18 d26 x19 d28 true) else (F.punish_Twice.c1 l1 w1 d2 x1 d3 x2 l2 d4 x3 d5 l3 l4 x4 d6 x5 l5 d7 x6 d8 l6 l7 x18 d26 x19 d28 (!(d27.1 == d1.1))))))))
def F.punish_Twice (l1 : List S_notary_entry) (w1 : (List (S_notary_entry × Int))) (d1 : Arr Int 8) (d2 : Arr Int 8) (x1 : Int) (d3 : Arr Int 8) (x2 : Int) (l2 : List Int) (d4 : Arr Int 8) (x3 : Int) (d5 : Arr Int 8) (l3 : List Int) (l4 : List Int) (x4 : Int) (d6 : Arr Int 8) (x5 : Int) (l5 : List Int) (d7 : Arr Int 8) (x6 : Int) (d8 : Arr Int 8) (l6 : List Int) (l7 : List Int) : Option (Int) := (F.punish_Twice.l1 l1 w1 d1 d2 x1 d3 x2 l2 d4 x3 d5 l3 l4 x4 d6 x5 l5 d7 x6 d8 l6 l7 fuel 0)
theorem P.punish_Twice (g0 : GW) (m0 : Nat) (m1 : Nat) (l1 : List S_notary_entry) (w1 : (List (S_notary_entry × Int))) (d1 : Arr Int 8) (d2 : Arr Int 8) (x1 : Int) (d3 : Arr Int 8) (x2 : Int) (l2 : List Int) (d4 : Arr Int 8) (x3 : Int) (d5 : Arr Int 8) (l3 : List Int) (l4 : List Int) (x4 : Int) (d6 : Arr Int 8) (x5 : Int) (l5 : List Int) (d7 : Arr Int 8) (x6 : Int) (d8 : Arr Int 8) (l6 : List Int) (l7 : List Int) (a1 : Option Addr) (n1 : Nat) (c1 : Nat) (a2 : Option Addr) (n2 : Nat) (c2 : Nat) (a3 : Option Addr) (n3 : Nat) (c3 : Nat) (a4 : Option Addr) (n4 : Nat) (c4 : Nat) (a5 : Option Addr) (n5 : Nat) (c5 : Nat) (a6 : Option Addr) (n6 : Nat) (c6 : Nat) (a7 : Option Addr) (n7 : Nat) (c7 : Nat) (b1 : Nat) (b2 : Nat) (hR1 : RdS k_S_notary_entry g0 126 a1 n1 c1 l1) (hR2 : RdS (Kd.int .u8) g0 5 a2 n2 c2 l2) (hR3 : RdS (Kd.int .u8) g0 5 a3 n3 c3 l3) (hR4 : RdS (Kd.int .u8) g0 5 a4 n4 c4 l4) (hR5 : RdS (Kd.int .u8) g0 5 a5 n5 c5 l5) (hR6 : RdS (Kd.int .u8) g0 5 a6 n6 c6 l6) (hR7 : RdS (Kd.int .u8) g0 5 a7 n7 c7 l7) (hB1 : MapB g0 m1 b2 kv_S_notary_entry (Value.int .i64) w1) (hB2 : Box g0 m0 b1 121 [[.slice a1 n1 c1], [.map (some b2)]] [1, 1]) (hm1_0 : m1 ≠ m0) (hm0 : m0 ≠ 0) (hm1 : m1 ≠ 0) (o1 : Int) (hs : F.punish_Twice l1 w1 d1 d2 x1 d3 x2 l2 d4 x3 d5 l3 l4 x4 d6 x5 l5 d7 x6 d8 l6 l7 = some o1) :
  Calls Try.prog 31 #[.iface 57 (.pointer (some ⟨b1, 0, none⟩)), AG [encA .u8 d1], AG [encA .u8 d2], AG [[.int .i64 x1], encA .u8 d3, [.int .i64 x2], [.slice a2 n2 c2], encA .u8 d4, [.int .i64 x3], encA .u8 d5, [.slice a3 n3 c3], [.slice a4 n4 c4]], AG [[.int .i64 x4], encA .u8 d6, [.int .i64 x5], [.slice a5 n5 c5], encA .u8 d7, [.int .i64 x6], encA .u8 d8, [.slice a6 n6 c6], [.slice a7 n7 c7]]] g0.w (Ret NoM g0 fun v g => v = .int .i64 o1) := by
 refine calls_of (args := [.iface 57 (.pointer (some ⟨b1, 0, none⟩)), AG [encA .u8 d1], AG [encA .u8 d2], AG [[.int .i64 x1], encA .u8 d3, [.int .i64 x2], [.slice a2 n2 c2], encA .u8 d4, [.int .i64 x3], encA .u8 d5, [.slice a3 n3 c3], [.slice a4 n4 c4]], AG [[.int .i64 x4], encA .u8 d6, [.int .i64 x5], [.slice a5 n5 c5], encA .u8 d7, [.int .i64 x6], encA .u8 d8, [.slice a6 n6 c6], [.slice a7 n7 c7]]]) Try.func31 rfl (m0 + m1 + 0) ?_
 intro t ht htL
 refine ⟨_, rfl, ?_⟩
 refine CP.refr 95 [(0, .iface 57 (.pointer (some ⟨b1, 0, none⟩))), (1, AG [encA .u8 d1]), (2, AG [encA .u8 d2]), (3, AG [[.int .i64 x1], encA .u8 d3, [.int .i64 x2], [.slice a2 n2 c2], encA .u8 d4, [.int .i64 x3], encA .u8 d5, [.slice a3 n3 c3], [.slice a4 n4 c4]]), (4, AG [[.int .i64 x4], encA .u8 d6, [.int .i64 x5], [.slice a5 n5 c5], encA .u8 d7, [.int .i64 x6], encA .u8 d8, [.slice a6 n6 c6], [.slice a7 n7 c7]])] (by kernel_rfl) (by kernel_rfl) ?_
 intro ds
 have tot : Step (fun l => NoM l ∨ t ≤ l) g0 g0 := Step.refl _ _
 unfold F.punish_Twice at hs
 refine CP.seqR ?_
 refine WP.alloc (T := 37) (t + 1) [encA .u8 d1] [8] (by kernel_rfl) (by simp [len_encA]) ?_
 intro g1 b3 st1 hB3
 replace hB2 := hB2.mono st1 (fun x => x)
 replace hR1 := hR1.mono st1 (fun x => x)
 replace hB1 := hB1.mono st1 (fun x => x)
 replace hR2 := hR2.mono st1 (fun x => x)
 replace hR3 := hR3.mono st1 (fun x => x)
 replace hR4 := hR4.mono st1 (fun x => x)
 replace hR5 := hR5.mono st1 (fun x => x)
 replace hR6 := hR6.mono st1 (fun x => x)
 replace hR7 := hR7.mono st1 (fun x => x)
 replace tot := tot.trans st1.pure
 refine WP.alloc (T := 37) (t + 2) [encA .u8 d2] [8] (by kernel_rfl) (by simp [len_encA]) ?_
 intro g2 b4 st2 hB4
 replace hB2 := hB2.mono st2 (fun x => x)
 replace hR1 := hR1.mono st2 (fun x => x)
 replace hB1 := hB1.mono st2 (fun x => x)
 replace hR2 := hR2.mono st2 (fun x => x)
 replace hR3 := hR3.mono st2 (fun x => x)
 replace hR4 := hR4.mono st2 (fun x => x)
 replace hR5 := hR5.mono st2 (fun x => x)
 replace hR6 := hR6.mono st2 (fun x => x)
 replace hR7 := hR7.mono st2 (fun x => x)
 replace hB3 := hB3.mono st2 (fun x => x)
 replace tot := tot.trans st2.pure
 refine WP.alloc (T := 43) (t + 3) [[.int .i64 x1], encA .u8 d3, [.int .i64 x2], [.slice a2 n2 c2], encA .u8 d4, [.int .i64 x3], encA .u8 d5, [.slice a3 n3 c3], [.slice a4 n4 c4]] [1, 8, 1, 1, 8, 1, 8, 1, 1] (by kernel_rfl) (by simp [len_encA]) ?_
 intro g3 b5 st3 hB5
 replace hB2 := hB2.mono st3 (fun x => x)
 replace hR1 := hR1.mono st3 (fun x => x)
 replace hB1 := hB1.mono st3 (fun x => x)
 replace hR2 := hR2.mono st3 (fun x => x)
 replace hR3 := hR3.mono st3 (fun x => x)
 replace hR4 := hR4.mono st3 (fun x => x)
 replace hR5 := hR5.mono st3 (fun x => x)
 replace hR6 := hR6.mono st3 (fun x => x)
 replace hR7 := hR7.mono st3 (fun x => x)
 replace hB3 := hB3.mono st3 (fun x => x)
 replace hB4 := hB4.mono st3 (fun x => x)
 replace tot := tot.trans st3.pure
 refine WP.alloc (T := 43) (t + 4) [[.int .i64 x4], encA .u8 d6, [.int .i64 x5], [.slice a5 n5 c5], encA .u8 d7, [.int .i64 x6], encA .u8 d8, [.slice a6 n6 c6], [.slice a7 n7 c7]] [1, 8, 1, 1, 8, 1, 8, 1, 1] (by kernel_rfl) (by simp [len_encA]) ?_
 intro g4 b6 st4 hB6
 replace hB2 := hB2.mono st4 (fun x => x)
 replace hR1 := hR1.mono st4 (fun x => x)
 replace hB1 := hB1.mono st4 (fun x => x)
 replace hR2 := hR2.mono st4 (fun x => x)
 replace hR3 := hR3.mono st4 (fun x => x)
 replace hR4 := hR4.mono st4 (fun x => x)
 replace hR5 := hR5.mono st4 (fun x => x)
 replace hR6 := hR6.mono st4 (fun x => x)
 replace hR7 := hR7.mono st4 (fun x => x)
 replace hB3 := hB3.mono st4 (fun x => x)
 replace hB4 := hB4.mono st4 (fun x => x)
 replace hB5 := hB5.mono st4 (fun x => x)
 replace tot := tot.trans st4.pure
 refine WP.stl 1 ?_
 refine WP.dn ?_
 refine NX.then_n ?_
 refine CP.seq ?_
 refine CP.seqR ?_
 refine WP.stl 2 ?_
 refine WP.dn ?_
 refine NX.then_n ?_
 refine CP.cond_f (by kernel_rfl) ?_
 refine CP.skip ?_
 refine NX.then_n ?_
 refine CP.seq ?_
 refine CP.seqR ?_
 refine WP.loadB (v := AG [[.int .i64 x1], encA .u8 d3, [.int .i64 x2], [.slice a2 n2 c2], encA .u8 d4, [.int .i64 x3], encA .u8 d5, [.slice a3 n3 c3], [.slice a4 n4 c4]]) hB5 (by kernel_rfl) (by kernel_rfl) ?_
 refine WP.loadB (v := AG [[.int .i64 x4], encA .u8 d6, [.int .i64 x5], [.slice a5 n5 c5], encA .u8 d7, [.int .i64 x6], encA .u8 d8, [.slice a6 n6 c6], [.slice a7 n7 c7]]) hB6 (by kernel_rfl) (by kernel_rfl) ?_
 refine WP.buildA (e := 43) (m := 2) (size := 30) (t := 132) [[.int .i64 0], encA .u8 (zA 8), [.int .i64 0], [.slice none 0 0], encA .u8 (zA 8), [.int .i64 0], encA .u8 (zA 8), [.slice none 0 0], [.slice none 0 0], [.int .i64 0], encA .u8 (zA 8), [.int .i64 0], [.slice none 0 0], encA .u8 (zA 8), [.int .i64 0], encA .u8 (zA 8), [.slice none 0 0], [.slice none 0 0]] [1, 8, 1, 1, 8, 1, 8, 1, 1, 1, 8, 1, 1, 8, 1, 8, 1, 1] (by kernel_rfl) (by kernel_rfl) (by simp [len_encA]) (by kernel_rfl) ((.cons (i := 0) (off := 0) (v := AG [[.int .i64 x1], encA .u8 d3, [.int .i64 x2], [.slice a2 n2 c2], encA .u8 d4, [.int .i64 x3], encA .u8 d5, [.slice a3 n3 c3], [.slice a4 n4 c4]]) (mid := [[.int .i64 x1], encA .u8 d3, [.int .i64 x2], [.slice a2 n2 c2], encA .u8 d4, [.int .i64 x3], encA .u8 d5, [.slice a3 n3 c3], [.slice a4 n4 c4], [.int .i64 0], encA .u8 (zA 8), [.int .i64 0], [.slice none 0 0], encA .u8 (zA 8), [.int .i64 0], encA .u8 (zA 8), [.slice none 0 0], [.slice none 0 0]]) [[.int .i64 x1], encA .u8 d3, [.int .i64 x2], [.slice a2 n2 c2], encA .u8 d4, [.int .i64 x3], encA .u8 d5, [.slice a3 n3 c3], [.slice a4 n4 c4]] [1, 8, 1, 1, 8, 1, 8, 1, 1] (by kernel_rfl) (by kernel_rfl) (by simp [len_encA]) (by kernel_rfl) (.cons (i := 1) (off := 30) (v := AG [[.int .i64 x4], encA .u8 d6, [.int .i64 x5], [.slice a5 n5 c5], encA .u8 d7, [.int .i64 x6], encA .u8 d8, [.slice a6 n6 c6], [.slice a7 n7 c7]]) (mid := [[.int .i64 x1], encA .u8 d3, [.int .i64 x2], [.slice a2 n2 c2], encA .u8 d4, [.int .i64 x3], encA .u8 d5, [.slice a3 n3 c3], [.slice a4 n4 c4], [.int .i64 x4], encA .u8 d6, [.int .i64 x5], [.slice a5 n5 c5], encA .u8 d7, [.int .i64 x6], encA .u8 d8, [.slice a6 n6 c6], [.slice a7 n7 c7]]) [[.int .i64 x4], encA .u8 d6, [.int .i64 x5], [.slice a5 n5 c5], encA .u8 d7, [.int .i64 x6], encA .u8 d8, [.slice a6 n6 c6], [.slice a7 n7 c7]] [1, 8, 1, 1, 8, 1, 8, 1, 1] (by kernel_rfl) (by kernel_rfl) (by simp [len_encA]) (by kernel_rfl) .nil))) ?_
 refine WP.stl 1 ?_
 refine WP.dn ?_
 refine NX.then_n ?_
 refine CP.block ?_
 generalize fuel = k1 at hs
 refine CP.loop (fun k1 tm g => ∃ (x10 : Int), Fr 95 [(0, .iface 57 (.pointer (some ⟨b1, 0, none⟩))), (6, .pointer (some ⟨b3, 0, none⟩)), (7, .pointer (some ⟨b4, 0, none⟩)), (8, .pointer (some ⟨b5, 0, none⟩)), (9, .pointer (some ⟨b6, 0, none⟩)), (20, AG [[.int .i64 x1], encA .u8 d3, [.int .i64 x2], [.slice a2 n2 c2], encA .u8 d4, [.int .i64 x3], encA .u8 d5, [.slice a3 n3 c3], [.slice a4 n4 c4], [.int .i64 x4], encA .u8 d6, [.int .i64 x5], [.slice a5 n5 c5], encA .u8 d7, [.int .i64 x6], encA .u8 d8, [.slice a6 n6 c6], [.slice a7 n7 c7]]), (21, .int .i64 x10)] tm ∧ Step (fun l => NoM l ∨ t ≤ l) g0 g ∧ Box g m0 b1 121 [[.slice a1 n1 c1], [.map (some b2)]] [1, 1] ∧ RdS k_S_notary_entry g 126 a1 n1 c1 l1 ∧ MapB g m1 b2 kv_S_notary_entry (Value.int .i64) w1 ∧ Box g (t + 1) b3 37 [encA .u8 d1] [8] ∧ Box g (t + 2) b4 37 [encA .u8 d2] [8] ∧ Box g (t + 3) b5 43 [[.int .i64 x1], encA .u8 d3, [.int .i64 x2], [.slice a2 n2 c2], encA .u8 d4, [.int .i64 x3], encA .u8 d5, [.slice a3 n3 c3], [.slice a4 n4 c4]] [1, 8, 1, 1, 8, 1, 8, 1, 1] ∧ RdS (Kd.int .u8) g 5 a2 n2 c2 l2 ∧ RdS (Kd.int .u8) g 5 a3 n3 c3 l3 ∧ RdS (Kd.int .u8) g 5 a4 n4 c4 l4 ∧ Box g (t + 4) b6 43 [[.int .i64 x4], encA .u8 d6, [.int .i64 x5], [.slice a5 n5 c5], encA .u8 d7, [.int .i64 x6], encA .u8 d8, [.slice a6 n6 c6], [.slice a7 n7 c7]] [1, 8, 1, 1, 8, 1, 8, 1, 1] ∧ RdS (Kd.int .u8) g 5 a5 n5 c5 l5 ∧ RdS (Kd.int .u8) g 5 a6 n6 c6 l6 ∧ RdS (Kd.int .u8) g 5 a7 n7 c7 l7 ∧ F.punish_Twice.l1 l1 w1 d1 d2 x1 d3 x2 l2 d4 x3 d5 l3 l4 x4 d6 x5 l5 d7 x6 d8 l6 l7 k1 x10 = some o1) k1 ?_ ?_ ?_
 ·exact ⟨0, ⟨by kernel_rfl, by kernel_rfl⟩, tot, hB2, hR1, hB1, hB3, hB4, hB5, hR2, hR3, hR4, hB6, hR5, hR6, hR7, hs⟩
 ·rintro tm g ⟨x10, hF, tot, hB2, hR1, hB1, hB3, hB4, hB5, hR2, hR3, hR4, hB6, hR5, hR6, hR7, hs⟩
  exact absurd hs (by simp [F.punish_Twice.l1])
 clear tot hs hB2 hR1 hB1 hB3 hB4 hB5 hR2 hR3 hR4 hB6 hR5 hR6 hR7
 rintro k1 tm g ⟨x10, hF, tot, hB2, hR1, hB1, hB3, hB4, hB5, hR2, hR3, hR4, hB6, hR5, hR6, hR7, hs⟩
 clear ds
 obtain ⟨ds, rfl⟩ := hF.open
 clear hF
 unfold F.punish_Twice.l1 at hs
 refine CP.seqR ?_
 refine WP.stl 1 ?_
 refine WP.dn ?_
 refine NX.then_n ?_
 refine CP.seq ?_
 refine CP.cond (b := decide (x10 < 2)) (by kernel_rfl) (fun h23 => ?_) (fun h23 => ?_)
 ·replace hs := of_if_t hs h23
  refine CP.skip ?_
  refine NX.then_n ?_
  refine CP.seq ?_
  refine CP.block ?_
  refine CP.seqR ?_
  refine bool_split (b := (x10 == 0)) (fun h24 => ?_) (fun h24 => ?_)
  ·replace hs := of_if_t hs h24
   refine WP.indexG (e := 43) (len := 2) (size := 30) (k := .i64) (i := x10) (segs := [[.int .i64 x1], encA .u8 d3, [.int .i64 x2], [.slice a2 n2 c2], encA .u8 d4, [.int .i64 x3], encA .u8 d5, [.slice a3 n3 c3], [.slice a4 n4 c4], [.int .i64 x4], encA .u8 d6, [.int .i64 x5], [.slice a5 n5 c5], encA .u8 d7, [.int .i64 x6], encA .u8 d8, [.slice a6 n6 c6], [.slice a7 n7 c7]]) (ns := [1, 8, 1, 1, 8, 1, 8, 1, 1, 1, 8, 1, 1, 8, 1, 8, 1, 1]) (v := AG [[.int .i64 x1], encA .u8 d3, [.int .i64 x2], [.slice a2 n2 c2], encA .u8 d4, [.int .i64 x3], encA .u8 d5, [.slice a3 n3 c3], [.slice a4 n4 c4]]) 0 (eq_of_beq h24) (Nat.le_of_ble_eq_true rfl) (by simp [len_encA]) (by kernel_rfl) (by kernel_rfl) (by kernel_rfl) ?_
   refine WP.alloc (T := 43) (t + 12) [[.int .i64 0], encA .u8 (zA 8), [.int .i64 0], [.slice none 0 0], encA .u8 (zA 8), [.int .i64 0], encA .u8 (zA 8), [.slice none 0 0], [.slice none 0 0]] [1, 8, 1, 1, 8, 1, 8, 1, 1] (by kernel_rfl) (by simp [len_encA]) ?_
   intro g38 b14 st38 hB21
   replace hB2 := hB2.mono st38 (fun x => x)
   replace hR1 := hR1.mono st38 (fun x => x)
   replace hB1 := hB1.mono st38 (fun x => x)
   replace hB3 := hB3.mono st38 (fun x => x)
   replace hB4 := hB4.mono st38 (fun x => x)
   replace hB5 := hB5.mono st38 (fun x => x)
   replace hR2 := hR2.mono st38 (fun x => x)
   replace hR3 := hR3.mono st38 (fun x => x)
   replace hR4 := hR4.mono st38 (fun x => x)
   replace hB6 := hB6.mono st38 (fun x => x)
   replace hR5 := hR5.mono st38 (fun x => x)
   replace hR6 := hR6.mono st38 (fun x => x)
   replace hR7 := hR7.mono st38 (fun x => x)
   replace tot := tot.trans st38.pure
   refine WP.storeB (ty := 43) (off := 0) (v := AG [[.int .i64 x1], encA .u8 d3, [.int .i64 x2], [.slice a2 n2 c2], encA .u8 d4, [.int .i64 x3], encA .u8 d5, [.slice a3 n3 c3], [.slice a4 n4 c4]]) hB21 [[.int .i64 x1], encA .u8 d3, [.int .i64 x2], [.slice a2 n2 c2], encA .u8 d4, [.int .i64 x3], encA .u8 d5, [.slice a3 n3 c3], [.slice a4 n4 c4]] [1, 8, 1, 1, 8, 1, 8, 1, 1] (by kernel_rfl) (by kernel_rfl) (by simp [len_encA]) (by kernel_rfl) [[.int .i64 x1], encA .u8 d3, [.int .i64 x2], [.slice a2 n2 c2], encA .u8 d4, [.int .i64 x3], encA .u8 d5, [.slice a3 n3 c3], [.slice a4 n4 c4]] (by kernel_rfl) (.one rfl (.arr (.one rfl (.one rfl (.arr (.one rfl (.arr (.one rfl (.one rfl .nil))))))))) ?_
   intro g39 st39 hB22
   replace hB2 := hB2.mono st39 (WL.no1 (by omega))
   replace hR1 := hR1.mono st39 (WL.no1 (by omega))
   replace hB1 := hB1.mono st39 (WL.no1 (by omega))
   replace hB3 := hB3.mono st39 (WL.no1 (by omega))
   replace hB4 := hB4.mono st39 (WL.no1 (by omega))
   replace hB5 := hB5.mono st39 (WL.no1 (by omega))
   replace hR2 := hR2.mono st39 (WL.no1 (by omega))
   replace hR3 := hR3.mono st39 (WL.no1 (by omega))
   replace hR4 := hR4.mono st39 (WL.no1 (by omega))
   replace hB6 := hB6.mono st39 (WL.no1 (by omega))
   replace hR5 := hR5.mono st39 (WL.no1 (by omega))
   replace hR6 := hR6.mono st39 (WL.no1 (by omega))
   replace hR7 := hR7.mono st39 (WL.no1 (by omega))
   replace tot := tot.trans (st39.up1 (.inr (by omega)))
   clear hB21
   have hB21 := hB22
   clear hB22
   refine WP.dn ?_
   refine NX.then_n ?_
   refine CP.seqR ?_
   refine WP.loadB (v := AG [[.int .i64 x1], encA .u8 d3, [.int .i64 x2], [.slice a2 n2 c2], encA .u8 d4, [.int .i64 x3], encA .u8 d5, [.slice a3 n3 c3], [.slice a4 n4 c4]]) hB21 (by kernel_rfl) (by kernel_rfl) ?_
   replace hs := Option.bind_eq_some_iff.1 hs
   obtain ⟨x16, hk20, hs⟩ := hs
   have hcal20 := P.punish_Thing_Check g39 x1 d3 x2 l2 d4 x3 d5 l3 l4 a2 n2 c2 a3 n3 c3 a4 n4 c4 hR2 hR3 hR4 x16 hk20
   refine WP.callC hcal20 (by kernel_rfl) ?_
   rintro _ g40 st40 rfl
   replace hB2 := hB2.mono st40 (fun x => x)
   replace hR1 := hR1.mono st40 (fun x => x)
   replace hB1 := hB1.mono st40 (fun x => x)
   replace hB3 := hB3.mono st40 (fun x => x)
   replace hB4 := hB4.mono st40 (fun x => x)
   replace hB5 := hB5.mono st40 (fun x => x)
   replace hR2 := hR2.mono st40 (fun x => x)
   replace hR3 := hR3.mono st40 (fun x => x)
   replace hR4 := hR4.mono st40 (fun x => x)
   replace hB6 := hB6.mono st40 (fun x => x)
   replace hR5 := hR5.mono st40 (fun x => x)
   replace hR6 := hR6.mono st40 (fun x => x)
   replace hR7 := hR7.mono st40 (fun x => x)
   replace hB21 := hB21.mono st40 (fun x => x)
   replace tot := tot.trans st40.pure
   refine WP.stl 1 ?_
   refine WP.dn ?_
   refine NX.then_n ?_
   refine CP.seqR ?_
   refine WP.stl 2 ?_
   refine WP.dn ?_
   refine NX.then_n ?_
   refine CP.cond (b := (x16 != 0)) (by kernel_rfl) (fun h25 => ?_) (fun h25 => ?_)
   ·replace hs := of_if_t hs h25
    refine CP.seqR ?_
    refine WP.stl 2 ?_
    refine WP.dn ?_
    refine NX.then_n ?_
    refine CP.ret ?_
    refine NX.block_r ?_
    refine NX.then_r ?_
    refine NX.then_r ?_
    refine NX.block_r ?_
    refine NX.then_r ?_
    replace hs := Option.some.inj hs
    obtain rfl := hs
    exact NX.fin (v := .int .i64 x16) (Res.still (by kernel_rfl)) tot htL rfl
   replace hs := of_if_f hs h25
   refine CP.skip ?_
   refine NX.block_n ?_
   refine NX.then_n ?_
   refine CP.region ?_
   refine WP.stl 2 ?_
   refine WP.dn ?_
   refine NX.post ?_
   exact ⟨(IntKind.i64.wrap (x10 + 1)), ⟨by kernel_rfl, by kernel_rfl⟩, tot, hB2, hR1, hB1, hB3, hB4, hB5, hR2, hR3, hR4, hB6, hR5, hR6, hR7, hs⟩
  replace hs := of_if_f hs h24
  by_cases hc2 : x10 = 1
  case neg => rw [if_neg hc2] at hs; cases hs
  replace hs := of_if_p hs hc2
  refine WP.indexG (e := 43) (len := 2) (size := 30) (k := .i64) (i := x10) (segs := [[.int .i64 x1], encA .u8 d3, [.int .i64 x2], [.slice a2 n2 c2], encA .u8 d4, [.int .i64 x3], encA .u8 d5, [.slice a3 n3 c3], [.slice a4 n4 c4], [.int .i64 x4], encA .u8 d6, [.int .i64 x5], [.slice a5 n5 c5], encA .u8 d7, [.int .i64 x6], encA .u8 d8, [.slice a6 n6 c6], [.slice a7 n7 c7]]) (ns := [1, 8, 1, 1, 8, 1, 8, 1, 1, 1, 8, 1, 1, 8, 1, 8, 1, 1]) (v := AG [[.int .i64 x4], encA .u8 d6, [.int .i64 x5], [.slice a5 n5 c5], encA .u8 d7, [.int .i64 x6], encA .u8 d8, [.slice a6 n6 c6], [.slice a7 n7 c7]]) 1 hc2 (Nat.le_of_ble_eq_true rfl) (by simp [len_encA]) (by kernel_rfl) (by kernel_rfl) (by kernel_rfl) ?_
  refine WP.alloc (T := 43) (t + 13) [[.int .i64 0], encA .u8 (zA 8), [.int .i64 0], [.slice none 0 0], encA .u8 (zA 8), [.int .i64 0], encA .u8 (zA 8), [.slice none 0 0], [.slice none 0 0]] [1, 8, 1, 1, 8, 1, 8, 1, 1] (by kernel_rfl) (by simp [len_encA]) ?_
  intro g41 b15 st41 hB23
  replace hB2 := hB2.mono st41 (fun x => x)
  replace hR1 := hR1.mono st41 (fun x => x)
  replace hB1 := hB1.mono st41 (fun x => x)
  replace hB3 := hB3.mono st41 (fun x => x)
  replace hB4 := hB4.mono st41 (fun x => x)
  replace hB5 := hB5.mono st41 (fun x => x)
  replace hR2 := hR2.mono st41 (fun x => x)
  replace hR3 := hR3.mono st41 (fun x => x)
  replace hR4 := hR4.mono st41 (fun x => x)
  replace hB6 := hB6.mono st41 (fun x => x)
  replace hR5 := hR5.mono st41 (fun x => x)
  replace hR6 := hR6.mono st41 (fun x => x)
  replace hR7 := hR7.mono st41 (fun x => x)
  replace tot := tot.trans st41.pure
  refine WP.storeB (ty := 43) (off := 0) (v := AG [[.int .i64 x4], encA .u8 d6, [.int .i64 x5], [.slice a5 n5 c5], encA .u8 d7, [.int .i64 x6], encA .u8 d8, [.slice a6 n6 c6], [.slice a7 n7 c7]]) hB23 [[.int .i64 x4], encA .u8 d6, [.int .i64 x5], [.slice a5 n5 c5], encA .u8 d7, [.int .i64 x6], encA .u8 d8, [.slice a6 n6 c6], [.slice a7 n7 c7]] [1, 8, 1, 1, 8, 1, 8, 1, 1] (by kernel_rfl) (by kernel_rfl) (by simp [len_encA]) (by kernel_rfl) [[.int .i64 x4], encA .u8 d6, [.int .i64 x5], [.slice a5 n5 c5], encA .u8 d7, [.int .i64 x6], encA .u8 d8, [.slice a6 n6 c6], [.slice a7 n7 c7]] (by kernel_rfl) (.one rfl (.arr (.one rfl (.one rfl (.arr (.one rfl (.arr (.one rfl (.one rfl .nil))))))))) ?_
  intro g42 st42 hB24
  replace hB2 := hB2.mono st42 (WL.no1 (by omega))
  replace hR1 := hR1.mono st42 (WL.no1 (by omega))
  replace hB1 := hB1.mono st42 (WL.no1 (by omega))
  replace hB3 := hB3.mono st42 (WL.no1 (by omega))
  replace hB4 := hB4.mono st42 (WL.no1 (by omega))
  replace hB5 := hB5.mono st42 (WL.no1 (by omega))
  replace hR2 := hR2.mono st42 (WL.no1 (by omega))
  replace hR3 := hR3.mono st42 (WL.no1 (by omega))
  replace hR4 := hR4.mono st42 (WL.no1 (by omega))
  replace hB6 := hB6.mono st42 (WL.no1 (by omega))
  replace hR5 := hR5.mono st42 (WL.no1 (by omega))
  replace hR6 := hR6.mono st42 (WL.no1 (by omega))
  replace hR7 := hR7.mono st42 (WL.no1 (by omega))
  replace tot := tot.trans (st42.up1 (.inr (by omega)))
  clear hB23
  have hB23 := hB24
  clear hB24
  refine WP.dn ?_
  refine NX.then_n ?_
  refine CP.seqR ?_
  refine WP.loadB (v := AG [[.int .i64 x4], encA .u8 d6, [.int .i64 x5], [.slice a5 n5 c5], encA .u8 d7, [.int .i64 x6], encA .u8 d8, [.slice a6 n6 c6], [.slice a7 n7 c7]]) hB23 (by kernel_rfl) (by kernel_rfl) ?_
  replace hs := Option.bind_eq_some_iff.1 hs
  obtain ⟨x17, hk21, hs⟩ := hs
  have hcal21 := P.punish_Thing_Check g42 x4 d6 x5 l5 d7 x6 d8 l6 l7 a5 n5 c5 a6 n6 c6 a7 n7 c7 hR5 hR6 hR7 x17 hk21
  refine WP.callC hcal21 (by kernel_rfl) ?_
  rintro _ g43 st43 rfl
  replace hB2 := hB2.mono st43 (fun x => x)
  replace hR1 := hR1.mono st43 (fun x => x)
  replace hB1 := hB1.mono st43 (fun x => x)
  replace hB3 := hB3.mono st43 (fun x => x)
  replace hB4 := hB4.mono st43 (fun x => x)
  replace hB5 := hB5.mono st43 (fun x => x)
  replace hR2 := hR2.mono st43 (fun x => x)
  replace hR3 := hR3.mono st43 (fun x => x)
  replace hR4 := hR4.mono st43 (fun x => x)
  replace hB6 := hB6.mono st43 (fun x => x)
  replace hR5 := hR5.mono st43 (fun x => x)
  replace hR6 := hR6.mono st43 (fun x => x)
  replace hR7 := hR7.mono st43 (fun x => x)
  replace hB23 := hB23.mono st43 (fun x => x)
  replace tot := tot.trans st43.pure
  refine WP.stl 1 ?_
  refine WP.dn ?_
  refine NX.then_n ?_
  refine CP.seqR ?_
  refine WP.stl 2 ?_
  refine WP.dn ?_
  refine NX.then_n ?_
  refine CP.cond (b := (x17 != 0)) (by kernel_rfl) (fun h26 => ?_) (fun h26 => ?_)
  ·replace hs := of_if_t hs h26
   refine CP.seqR ?_
   refine WP.stl 2 ?_
   refine WP.dn ?_
   refine NX.then_n ?_
   refine CP.ret ?_
   refine NX.block_r ?_
   refine NX.then_r ?_
   refine NX.then_r ?_
   refine NX.block_r ?_
   refine NX.then_r ?_
   replace hs := Option.some.inj hs
   obtain rfl := hs
   exact NX.fin (v := .int .i64 x17) (Res.still (by kernel_rfl)) tot htL rfl
  replace hs := of_if_f hs h26
  refine CP.skip ?_
  refine NX.block_n ?_
  refine NX.then_n ?_
  refine CP.region ?_
  refine WP.stl 2 ?_
  refine WP.dn ?_
  refine NX.post ?_
  exact ⟨(IntKind.i64.wrap (x10 + 1)), ⟨by kernel_rfl, by kernel_rfl⟩, tot, hB2, hR1, hB1, hB3, hB4, hB5, hR2, hR3, hR4, hB6, hR5, hR6, hR7, hs⟩
 replace hs := of_if_f hs h23
 refine CP.exit ?_
 refine NX.then_e ?_
 refine NX.then_e ?_
 refine NX.block_s ?_
 refine NX.then_n ?_
 refine CP.seq ?_
 replace hs := Option.bind_eq_some_iff.1 hs
 obtain ⟨⟨d25, x18, d26, l12⟩, hk22, hs⟩ := hs
 dsimp only at hs
 replace hs := Option.bind_eq_some_iff.1 hs
 obtain ⟨⟨d27, x19, d28, l13⟩, hk23, hs⟩ := hs
 dsimp only at hs
 refine CP.drawL (by kernel_rfl) [0, 1, 2, 3, 4, 5, 6, 7] N.punish_Twice_0 [⟨none, [], [], fun l g => Box g (t + 3) b5 43 [[.int .i64 x1], encA .u8 d3, [.int .i64 x2], [.slice a2 n2 c2], encA .u8 d4, [.int .i64 x3], encA .u8 d5, [.slice a3 n3 c3], [.slice a4 n4 c4]] [1, 8, 1, 1, 8, 1, 8, 1, 1]⟩, ⟨none, [], [], fun l g => RdS (Kd.int .u8) g 5 a2 n2 c2 l2⟩, ⟨none, [], [], fun l g => RdS (Kd.int .u8) g 5 a3 n3 c3 l3⟩, ⟨none, [], [], fun l g => RdS (Kd.int .u8) g 5 a4 n4 c4 l4⟩, ⟨none, [], [], fun l g => Box g (t + 4) b6 43 [[.int .i64 x4], encA .u8 d6, [.int .i64 x5], [.slice a5 n5 c5], encA .u8 d7, [.int .i64 x6], encA .u8 d8, [.slice a6 n6 c6], [.slice a7 n7 c7]] [1, 8, 1, 1, 8, 1, 8, 1, 1]⟩, ⟨none, [], [], fun l g => RdS (Kd.int .u8) g 5 a5 n5 c5 l5⟩, ⟨none, [], [], fun l g => RdS (Kd.int .u8) g 5 a6 n6 c6 l6⟩, ⟨none, [], [], fun l g => RdS (Kd.int .u8) g 5 a7 n7 c7 l7⟩, ⟨some 0, [], [0], fun l g => l.getD 0 undef = AG [[.int .i64 x1], encA .u8 d3, [.int .i64 x2], [.slice a2 n2 c2], encA .u8 d4, [.int .i64 x3], encA .u8 d5, [.slice a3 n3 c3], [.slice a4 n4 c4]]⟩, ⟨some 1, [], [1], fun l g => ∃ (a12 : Option Addr) (c12 : Nat), l.getD 0 undef = AG [encA .u8 d25, [.int .i64 x18], encA .u8 d26, [.slice a12 l12.length c12]] ∧ RdS (Kd.int .u8) g 5 a12 l12.length c12 l12⟩, ⟨some 2, [], [2], fun l g => l.getD 0 undef = AG [[.int .i64 x4], encA .u8 d6, [.int .i64 x5], [.slice a5 n5 c5], encA .u8 d7, [.int .i64 x6], encA .u8 d8, [.slice a6 n6 c6], [.slice a7 n7 c7]]⟩, ⟨some 3, [], [3], fun l g => ∃ (a13 : Option Addr) (c13 : Nat), l.getD 0 undef = AG [encA .u8 d27, [.int .i64 x19], encA .u8 d28, [.slice a13 l13.length c13]] ∧ RdS (Kd.int .u8) g 5 a13 l13.length c13 l13⟩, ⟨some 4, [0], [4], fun l g => ∃ (b16 : Nat), l.getD 0 undef = .pointer (some ⟨b16, 0, none⟩) ∧ Box g (t + 14) b16 91 [encA .u8 (zA 8), [.int .i64 0], encA .u8 (zA 8), [.slice none 0 0]] [8, 1, 8, 1]⟩, ⟨some 5, [1], [5], fun l g => ∃ (b17 : Nat), l.getD 0 undef = .pointer (some ⟨b17, 0, none⟩) ∧ Box g (t + 15) b17 91 [encA .u8 (zA 8), [.int .i64 0], encA .u8 (zA 8), [.slice none 0 0]] [8, 1, 8, 1]⟩, ⟨some 6, [0], [4, 1], fun l g => ∃ (b16 : Nat) (a12 : Option Addr) (c12 : Nat), l.getD 0 undef = .pointer (some ⟨b16, 0, none⟩) ∧ l.getD 1 undef = AG [encA .u8 d25, [.int .i64 x18], encA .u8 d26, [.slice a12 l12.length c12]] ∧ Box g (t + 14) b16 91 [encA .u8 d25, [.int .i64 x18], encA .u8 d26, [.slice a12 l12.length c12]] [8, 1, 8, 1] ∧ RdS (Kd.int .u8) g 5 a12 l12.length c12 l12⟩, ⟨some 7, [1], [5, 3], fun l g => ∃ (b17 : Nat) (a13 : Option Addr) (c13 : Nat), l.getD 0 undef = .pointer (some ⟨b17, 0, none⟩) ∧ l.getD 1 undef = AG [encA .u8 d27, [.int .i64 x19], encA .u8 d28, [.slice a13 l13.length c13]] ∧ Box g (t + 15) b17 91 [encA .u8 d27, [.int .i64 x19], encA .u8 d28, [.slice a13 l13.length c13]] [8, 1, 8, 1] ∧ RdS (Kd.int .u8) g 5 a13 l13.length c13 l13⟩] [[], [], [], [], [], [], [0], [1]] [(t + 14), (t + 15)] [] [] (by kernel_rfl) (by simp <;> omega) (by simp <;> omega) ⟨fun _ _ _ _ st h0 hl hj hB5 => (hB5.mono st (fun h => absurd (hl _ h) (by simp <;> omega))), fun _ _ _ _ st h0 hl hj hR2 => (RdS.mono (e := 5) hR2 st h0), fun _ _ _ _ st h0 hl hj hR3 => (RdS.mono (e := 5) hR3 st h0), fun _ _ _ _ st h0 hl hj hR4 => (RdS.mono (e := 5) hR4 st h0), fun _ _ _ _ st h0 hl hj hB6 => (hB6.mono st (fun h => absurd (hl _ h) (by simp <;> omega))), fun _ _ _ _ st h0 hl hj hR5 => (RdS.mono (e := 5) hR5 st h0), fun _ _ _ _ st h0 hl hj hR6 => (RdS.mono (e := 5) hR6 st h0), fun _ _ _ _ st h0 hl hj hR7 => (RdS.mono (e := 5) hR7 st h0), fun _ _ _ _ st h0 hl hj e0 => e0, fun _ _ _ _ st h0 hl hj ⟨a12, c12, e1, hR12⟩ => ⟨a12, c12, e1, (RdS.mono (e := 5) hR12 st h0)⟩, fun _ _ _ _ st h0 hl hj e2 => e2, fun _ _ _ _ st h0 hl hj ⟨a13, c13, e3, hR13⟩ => ⟨a13, c13, e3, (RdS.mono (e := 5) hR13 st h0)⟩, fun _ _ _ _ st h0 hl hj ⟨b16, e4, hB25⟩ => ⟨b16, e4, (hB25.mono st (hj 0 (by simp) _ rfl))⟩, fun _ _ _ _ st h0 hl hj ⟨b17, e5, hB26⟩ => ⟨b17, e5, (hB26.mono st (hj 1 (by simp) _ rfl))⟩, fun _ _ _ _ st h0 hl hj ⟨b16, a12, c12, e4, e1, hB25, hR12⟩ => ⟨b16, a12, c12, e4, e1, (hB25.mono st (hj 0 (by simp) _ rfl)), (RdS.mono (e := 5) hR12 st h0)⟩, fun _ _ _ _ st h0 hl hj ⟨b17, a13, c13, e5, e3, hB26, hR13⟩ => ⟨b17, a13, c13, e5, e3, (hB26.mono st (hj 1 (by simp) _ rfl)), (RdS.mono (e := 5) hR13 st h0)⟩, tv⟩ ⟨hB5, hR2, hR3, hR4, hB6, hR5, hR6, hR7, tv, tv, tv, tv, tv, tv, tv, tv, tv⟩ (by kernel_rfl) (fun vs => by kernel_rfl) ?_ ?_ ?_
 ·intro j hj; exact absurd hj (by simp)
 ·intro j hj
  have hq : j = 0 ∨ j = 1 ∨ j = 2 ∨ j = 3 ∨ j = 4 ∨ j = 5 ∨ j = 6 ∨ j = 7 := by have h : j < 8 := hj; omega
  rcases hq with rfl | rfl | rfl | rfl | rfl | rfl | rfl | rfl
  ·intro vs gq stq hl hf
   obtain ⟨v0, v1, v2, v3, v4, v5, v6, v7, rfl⟩ := len_k8 hl
   have hB5 := (show Box gq (t + 3) b5 43 [[.int .i64 x1], encA .u8 d3, [.int .i64 x2], [.slice a2 n2 c2], encA .u8 d4, [.int .i64 x3], encA .u8 d5, [.slice a3 n3 c3], [.slice a4 n4 c4]] [1, 8, 1, 1, 8, 1, 8, 1, 1] from hf _ (memI 0 rfl) (by kernel_rfl))
   refine WP.loadB (v := AG [[.int .i64 x1], encA .u8 d3, [.int .i64 x2], [.slice a2 n2 c2], encA .u8 d4, [.int .i64 x3], encA .u8 d5, [.slice a3 n3 c3], [.slice a4 n4 c4]]) hB5 (by kernel_rfl) (by kernel_rfl) ?_
   refine WP.dn (Shown.ok (v := AG [[.int .i64 x1], encA .u8 d3, [.int .i64 x2], [.slice a2 n2 c2], encA .u8 d4, [.int .i64 x3], encA .u8 d5, [.slice a3 n3 c3], [.slice a4 n4 c4]]) (by kernel_rfl) (Step.refl _ _) ?_)
   exact ⟨tv, tv, tv, tv, tv, tv, tv, tv, rfl, tv, tv, tv, tv, tv, tv, tv, tv⟩
  ·intro vs gq stq hl hf
   obtain ⟨v0, v1, v2, v3, v4, v5, v6, v7, rfl⟩ := len_k8 hl
   have hR2 := (show RdS (Kd.int .u8) gq 5 a2 n2 c2 l2 from hf _ (memI 1 rfl) (by kernel_rfl))
   have hR3 := (show RdS (Kd.int .u8) gq 5 a3 n3 c3 l3 from hf _ (memI 2 rfl) (by kernel_rfl))
   have hR4 := (show RdS (Kd.int .u8) gq 5 a4 n4 c4 l4 from hf _ (memI 3 rfl) (by kernel_rfl))
   have e0 := (show v0 = AG [[.int .i64 x1], encA .u8 d3, [.int .i64 x2], [.slice a2 n2 c2], encA .u8 d4, [.int .i64 x3], encA .u8 d5, [.slice a3 n3 c3], [.slice a4 n4 c4]] from hf _ (memI 8 rfl) (by kernel_rfl))
   subst e0
   have hcal22 := P.punish_Thing_own gq x1 d3 x2 l2 d4 x3 d5 l3 l4 a2 n2 c2 a3 n3 c3 a4 n4 c4 hR2 hR3 hR4 d25 x18 d26 l12 hk22
   refine WP.callC hcal22 (by kernel_rfl) ?_
   rintro _ g44 st44 ⟨a12, n12, c12, rfl, hR12⟩
   obtain rfl := hR12.len
   refine WP.dn (Shown.o (v := AG [encA .u8 d25, [.int .i64 x18], encA .u8 d26, [.slice a12 l12.length c12]]) st44.pure ?_)
   exact ⟨tv, tv, tv, tv, tv, tv, tv, tv, tv, ⟨a12, c12, rfl, hR12⟩, tv, tv, tv, tv, tv, tv, tv⟩
  ·intro vs gq stq hl hf
   obtain ⟨v0, v1, v2, v3, v4, v5, v6, v7, rfl⟩ := len_k8 hl
   have hB6 := (show Box gq (t + 4) b6 43 [[.int .i64 x4], encA .u8 d6, [.int .i64 x5], [.slice a5 n5 c5], encA .u8 d7, [.int .i64 x6], encA .u8 d8, [.slice a6 n6 c6], [.slice a7 n7 c7]] [1, 8, 1, 1, 8, 1, 8, 1, 1] from hf _ (memI 4 rfl) (by kernel_rfl))
   refine WP.loadB (v := AG [[.int .i64 x4], encA .u8 d6, [.int .i64 x5], [.slice a5 n5 c5], encA .u8 d7, [.int .i64 x6], encA .u8 d8, [.slice a6 n6 c6], [.slice a7 n7 c7]]) hB6 (by kernel_rfl) (by kernel_rfl) ?_
   refine WP.dn (Shown.ok (v := AG [[.int .i64 x4], encA .u8 d6, [.int .i64 x5], [.slice a5 n5 c5], encA .u8 d7, [.int .i64 x6], encA .u8 d8, [.slice a6 n6 c6], [.slice a7 n7 c7]]) (by kernel_rfl) (Step.refl _ _) ?_)
   exact ⟨tv, tv, tv, tv, tv, tv, tv, tv, tv, tv, rfl, tv, tv, tv, tv, tv, tv⟩
  ·intro vs gq stq hl hf
   obtain ⟨v0, v1, v2, v3, v4, v5, v6, v7, rfl⟩ := len_k8 hl
   have hR5 := (show RdS (Kd.int .u8) gq 5 a5 n5 c5 l5 from hf _ (memI 5 rfl) (by kernel_rfl))
   have hR6 := (show RdS (Kd.int .u8) gq 5 a6 n6 c6 l6 from hf _ (memI 6 rfl) (by kernel_rfl))
   have hR7 := (show RdS (Kd.int .u8) gq 5 a7 n7 c7 l7 from hf _ (memI 7 rfl) (by kernel_rfl))
   have e2 := (show v2 = AG [[.int .i64 x4], encA .u8 d6, [.int .i64 x5], [.slice a5 n5 c5], encA .u8 d7, [.int .i64 x6], encA .u8 d8, [.slice a6 n6 c6], [.slice a7 n7 c7]] from hf _ (memI 10 rfl) (by kernel_rfl))
   subst e2
   have hcal23 := P.punish_Thing_own gq x4 d6 x5 l5 d7 x6 d8 l6 l7 a5 n5 c5 a6 n6 c6 a7 n7 c7 hR5 hR6 hR7 d27 x19 d28 l13 hk23
   refine WP.callC hcal23 (by kernel_rfl) ?_
   rintro _ g45 st45 ⟨a13, n13, c13, rfl, hR13⟩
   obtain rfl := hR13.len
   refine WP.dn (Shown.o (v := AG [encA .u8 d27, [.int .i64 x19], encA .u8 d28, [.slice a13 l13.length c13]]) st45.pure ?_)
   exact ⟨tv, tv, tv, tv, tv, tv, tv, tv, tv, tv, tv, ⟨a13, c13, rfl, hR13⟩, tv, tv, tv, tv, tv⟩
  ·intro vs gq stq hl hf
   obtain ⟨v0, v1, v2, v3, v4, v5, v6, v7, rfl⟩ := len_k8 hl
   refine WP.alloc (T := 91) (t + 14) [encA .u8 (zA 8), [.int .i64 0], encA .u8 (zA 8), [.slice none 0 0]] [8, 1, 8, 1] (by kernel_rfl) (by simp [len_encA]) ?_
   intro g46 b16 st46 hB25
   refine WP.dn (Shown.o (v := .pointer (some ⟨b16, 0, none⟩)) st46.pure ?_)
   exact ⟨tv, tv, tv, tv, tv, tv, tv, tv, tv, tv, tv, tv, ⟨b16, rfl, hB25⟩, tv, tv, tv, tv⟩
  ·intro vs gq stq hl hf
   obtain ⟨v0, v1, v2, v3, v4, v5, v6, v7, rfl⟩ := len_k8 hl
   refine WP.alloc (T := 91) (t + 15) [encA .u8 (zA 8), [.int .i64 0], encA .u8 (zA 8), [.slice none 0 0]] [8, 1, 8, 1] (by kernel_rfl) (by simp [len_encA]) ?_
   intro g47 b17 st47 hB26
   refine WP.dn (Shown.o (v := .pointer (some ⟨b17, 0, none⟩)) st47.pure ?_)
   exact ⟨tv, tv, tv, tv, tv, tv, tv, tv, tv, tv, tv, tv, tv, ⟨b17, rfl, hB26⟩, tv, tv, tv⟩
  ·intro vs gq stq hl hf
   obtain ⟨v0, v1, v2, v3, v4, v5, v6, v7, rfl⟩ := len_k8 hl
   obtain ⟨a12, c12, e1, hR12⟩ := (show ∃ (a12 : Option Addr) (c12 : Nat), v1 = AG [encA .u8 d25, [.int .i64 x18], encA .u8 d26, [.slice a12 l12.length c12]] ∧ RdS (Kd.int .u8) gq 5 a12 l12.length c12 l12 from hf _ (memI 9 rfl) (by kernel_rfl))
   subst e1
   obtain ⟨b16, e4, hB25⟩ := (show ∃ (b16 : Nat), v4 = .pointer (some ⟨b16, 0, none⟩) ∧ Box gq (t + 14) b16 91 [encA .u8 (zA 8), [.int .i64 0], encA .u8 (zA 8), [.slice none 0 0]] [8, 1, 8, 1] from hf _ (memI 12 rfl) (by kernel_rfl))
   subst e4
   refine WP.storeB (ty := 91) (off := 0) (v := AG [encA .u8 d25, [.int .i64 x18], encA .u8 d26, [.slice a12 l12.length c12]]) hB25 [encA .u8 d25, [.int .i64 x18], encA .u8 d26, [.slice a12 l12.length c12]] [8, 1, 8, 1] (by kernel_rfl) (by kernel_rfl) (by simp [len_encA]) (by kernel_rfl) [encA .u8 d25, [.int .i64 x18], encA .u8 d26, [.slice a12 l12.length c12]] (by kernel_rfl) (.arr (.one rfl (.arr (.one rfl .nil)))) ?_
   intro g48 st48 hB27
   refine WP.dn (Shown.o (v := undef) st48 ?_)
   exact ⟨tv, tv, tv, tv, tv, tv, tv, tv, tv, tv, tv, tv, tv, tv, ⟨b16, a12, c12, rfl, rfl, hB27, (hR12.mono st48 (WL.no (by simp <;> omega)))⟩, tv, tv⟩
  ·intro vs gq stq hl hf
   obtain ⟨v0, v1, v2, v3, v4, v5, v6, v7, rfl⟩ := len_k8 hl
   obtain ⟨a13, c13, e3, hR13⟩ := (show ∃ (a13 : Option Addr) (c13 : Nat), v3 = AG [encA .u8 d27, [.int .i64 x19], encA .u8 d28, [.slice a13 l13.length c13]] ∧ RdS (Kd.int .u8) gq 5 a13 l13.length c13 l13 from hf _ (memI 11 rfl) (by kernel_rfl))
   subst e3
   obtain ⟨b17, e5, hB26⟩ := (show ∃ (b17 : Nat), v5 = .pointer (some ⟨b17, 0, none⟩) ∧ Box gq (t + 15) b17 91 [encA .u8 (zA 8), [.int .i64 0], encA .u8 (zA 8), [.slice none 0 0]] [8, 1, 8, 1] from hf _ (memI 13 rfl) (by kernel_rfl))
   subst e5
   refine WP.storeB (ty := 91) (off := 0) (v := AG [encA .u8 d27, [.int .i64 x19], encA .u8 d28, [.slice a13 l13.length c13]]) hB26 [encA .u8 d27, [.int .i64 x19], encA .u8 d28, [.slice a13 l13.length c13]] [8, 1, 8, 1] (by kernel_rfl) (by kernel_rfl) (by simp [len_encA]) (by kernel_rfl) [encA .u8 d27, [.int .i64 x19], encA .u8 d28, [.slice a13 l13.length c13]] (by kernel_rfl) (.arr (.one rfl (.arr (.one rfl .nil)))) ?_
   intro g49 st49 hB28
   refine WP.dn (Shown.o (v := undef) st49 ?_)
   exact ⟨tv, tv, tv, tv, tv, tv, tv, tv, tv, tv, tv, tv, tv, tv, tv, ⟨b17, a13, c13, rfl, rfl, hB28, (hR13.mono st49 (WL.no (by simp <;> omega)))⟩, tv⟩
 intro vs g50 st50 hl hf
 obtain ⟨v0, v1, v2, v3, v4, v5, v6, v7, rfl⟩ := len_k8 hl
 obtain ⟨b16, a12, c12, e4, e1, hB25, hR12⟩ := (show ∃ (b16 : Nat) (a12 : Option Addr) (c12 : Nat), v4 = .pointer (some ⟨b16, 0, none⟩) ∧ v1 = AG [encA .u8 d25, [.int .i64 x18], encA .u8 d26, [.slice a12 l12.length c12]] ∧ Box g50 (t + 14) b16 91 [encA .u8 d25, [.int .i64 x18], encA .u8 d26, [.slice a12 l12.length c12]] [8, 1, 8, 1] ∧ RdS (Kd.int .u8) g50 5 a12 l12.length c12 l12 from hf _ (memI 14 rfl) (by kernel_rfl))
 subst e4
 subst e1
 obtain ⟨b17, a13, c13, e5, e3, hB26, hR13⟩ := (show ∃ (b17 : Nat) (a13 : Option Addr) (c13 : Nat), v5 = .pointer (some ⟨b17, 0, none⟩) ∧ v3 = AG [encA .u8 d27, [.int .i64 x19], encA .u8 d28, [.slice a13 l13.length c13]] ∧ Box g50 (t + 15) b17 91 [encA .u8 d27, [.int .i64 x19], encA .u8 d28, [.slice a13 l13.length c13]] [8, 1, 8, 1] ∧ RdS (Kd.int .u8) g50 5 a13 l13.length c13 l13 from hf _ (memI 15 rfl) (by kernel_rfl))
 subst e5
 subst e3
 replace hB2 := hB2.mono st50 (WL.no2 (by omega) (by omega))
 replace hR1 := hR1.mono st50 (WL.no2 (by omega) (by omega))
 replace hB1 := hB1.mono st50 (WL.no2 (by omega) (by omega))
 replace hB3 := hB3.mono st50 (WL.no2 (by omega) (by omega))
 replace hB4 := hB4.mono st50 (WL.no2 (by omega) (by omega))
 replace hB5 := hB5.mono st50 (WL.no2 (by omega) (by omega))
 replace hR2 := hR2.mono st50 (WL.no2 (by omega) (by omega))
 replace hR3 := hR3.mono st50 (WL.no2 (by omega) (by omega))
 replace hR4 := hR4.mono st50 (WL.no2 (by omega) (by omega))
 replace hB6 := hB6.mono st50 (WL.no2 (by omega) (by omega))
 replace hR5 := hR5.mono st50 (WL.no2 (by omega) (by omega))
 replace hR6 := hR6.mono st50 (WL.no2 (by omega) (by omega))
 replace hR7 := hR7.mono st50 (WL.no2 (by omega) (by omega))
 replace tot := tot.trans (st50.up2 (.inr (by omega)) (.inr (by omega)))
 refine NX.then_n ?_
 refine CP.refr 95 [(0, .iface 57 (.pointer (some ⟨b1, 0, none⟩))), (6, .pointer (some ⟨b3, 0, none⟩)), (7, .pointer (some ⟨b4, 0, none⟩)), (8, .pointer (some ⟨b5, 0, none⟩)), (9, .pointer (some ⟨b6, 0, none⟩)), (14, .pointer (some ⟨b16, 0, none⟩)), (15, .pointer (some ⟨b17, 0, none⟩))] (by kernel_rfl) (by kernel_rfl) ?_
 clear ds
 intro ds
 refine CP.seq ?_
 refine CP.block ?_
 refine CP.seqR ?_
 refine WP.stl 1 ?_
 refine WP.loadB (v := .int .i64 x1) hB5 (by kernel_rfl) (by kernel_rfl) ?_
 refine WP.stl 1 ?_
 refine WP.loadB (v := .int .i64 x4) hB6 (by kernel_rfl) (by kernel_rfl) ?_
 refine WP.stl 2 ?_
 refine WP.dn ?_
 refine NX.then_n ?_
 refine CP.cond (b := (x1 != x4)) (by kernel_rfl) (fun h27 => ?_) (fun h27 => ?_)
 ·replace hs := of_if_t hs h27
  refine CP.seqR ?_
  refine WP.stl 1 ?_
  refine WP.dn ?_
  refine NX.then_n ?_
  refine CP.ret ?_
  refine NX.block_r ?_
  refine NX.then_r ?_
  replace hs := Option.some.inj hs
  obtain rfl := hs
  exact NX.fin (v := .int .i64 11) (Res.still (by kernel_rfl)) tot htL rfl
 replace hs := of_if_f hs h27
 refine CP.cut (fun tm g => ∃ (q11 : Bool), Fr 95 [(0, .iface 57 (.pointer (some ⟨b1, 0, none⟩))), (7, .pointer (some ⟨b4, 0, none⟩)), (8, .pointer (some ⟨b5, 0, none⟩)), (9, .pointer (some ⟨b6, 0, none⟩)), (14, .pointer (some ⟨b16, 0, none⟩)), (15, .pointer (some ⟨b17, 0, none⟩)), (40, .bool q11)] tm ∧ Step (fun l => NoM l ∨ t ≤ l) g0 g ∧ Box g m0 b1 121 [[.slice a1 n1 c1], [.map (some b2)]] [1, 1] ∧ RdS k_S_notary_entry g 126 a1 n1 c1 l1 ∧ MapB g m1 b2 kv_S_notary_entry (Value.int .i64) w1 ∧ Box g (t + 2) b4 37 [encA .u8 d2] [8] ∧ Box g (t + 3) b5 43 [[.int .i64 x1], encA .u8 d3, [.int .i64 x2], [.slice a2 n2 c2], encA .u8 d4, [.int .i64 x3], encA .u8 d5, [.slice a3 n3 c3], [.slice a4 n4 c4]] [1, 8, 1, 1, 8, 1, 8, 1, 1] ∧ RdS (Kd.int .u8) g 5 a2 n2 c2 l2 ∧ RdS (Kd.int .u8) g 5 a3 n3 c3 l3 ∧ RdS (Kd.int .u8) g 5 a4 n4 c4 l4 ∧ Box g (t + 4) b6 43 [[.int .i64 x4], encA .u8 d6, [.int .i64 x5], [.slice a5 n5 c5], encA .u8 d7, [.int .i64 x6], encA .u8 d8, [.slice a6 n6 c6], [.slice a7 n7 c7]] [1, 8, 1, 1, 8, 1, 8, 1, 1] ∧ RdS (Kd.int .u8) g 5 a5 n5 c5 l5 ∧ RdS (Kd.int .u8) g 5 a6 n6 c6 l6 ∧ RdS (Kd.int .u8) g 5 a7 n7 c7 l7 ∧ Box g (t + 14) b16 91 [encA .u8 d25, [.int .i64 x18], encA .u8 d26, [.slice a12 l12.length c12]] [8, 1, 8, 1] ∧ RdS (Kd.int .u8) g 5 a12 l12.length c12 l12 ∧ Box g (t + 15) b17 91 [encA .u8 d27, [.int .i64 x19], encA .u8 d28, [.slice a13 l13.length c13]] [8, 1, 8, 1] ∧ RdS (Kd.int .u8) g 5 a13 l13.length c13 l13 ∧ (F.punish_Twice.c1 l1 w1 d2 x1 d3 x2 l2 d4 x3 d5 l3 l4 x4 d6 x5 l5 d7 x6 d8 l6 l7 x18 d26 x19 d28 q11) = some o1) ?_ ?_
 ·refine CP.region ?_
  refine WP.stl 1 ?_
  refine WP.loadB (v := AG [encA .u8 d25]) hB25 (by kernel_rfl) (by kernel_rfl) ?_
  refine WP.loadB (v := AG [encA .u8 d1]) hB3 (by kernel_rfl) (by kernel_rfl) ?_
  refine WP.neV (by kernel_rfl) (by kernel_rfl) (EqV.arr (d := 9998) (t := 37) (e := 5) (m := 8) (k := .u8) (x := d25) (y := d1) (by kernel_rfl) (by kernel_rfl)) ?_
  refine WP.stl 1 ?_
  refine WP.guard 45 (b := (!(d25.1 == d1.1))) (by kernel_rfl) (fun h37 => ?_) (fun h37 => ?_)
  ·replace hs := of_if_t hs h37
   refine WP.stl 6 ?_
   refine WP.dn ?_
   refine NX.post ?_
   exact ⟨true, ⟨by kernel_rfl, by kernel_rfl⟩, tot, hB2, hR1, hB1, hB4, hB5, hR2, hR3, hR4, hB6, hR5, hR6, hR7, hB25, hR12, hB26, hR13, hs⟩
  replace hs := of_if_f hs h37
  refine WP.stl 1 ?_
  refine WP.loadB (v := AG [encA .u8 d27]) hB26 (by kernel_rfl) (by kernel_rfl) ?_
  refine WP.loadB (v := AG [encA .u8 d1]) hB3 (by kernel_rfl) (by kernel_rfl) ?_
  refine WP.neV (by kernel_rfl) (by kernel_rfl) (EqV.arr (d := 9998) (t := 37) (e := 5) (m := 8) (k := .u8) (x := d27) (y := d1) (by kernel_rfl) (by kernel_rfl)) ?_
  refine WP.stl 2 ?_
  refine WP.dn ?_
  refine NX.post ?_
  exact ⟨(!(d27.1 == d1.1)), ⟨by kernel_rfl, by kernel_rfl⟩, tot, hB2, hR1, hB1, hB4, hB5, hR2, hR3, hR4, hB6, hR5, hR6, hR7, hB25, hR12, hB26, hR13, hs⟩
 clear tot hs hB2 hR1 hB1 hB3 hB4 hB5 hR2 hR3 hR4 hB6 hR5 hR6 hR7 hB25 hR12 hB26 hR13
 rintro tm g ⟨q11, hF, tot, hB2, hR1, hB1, hB4, hB5, hR2, hR3, hR4, hB6, hR5, hR6, hR7, hB25, hR12, hB26, hR13, hs⟩
 clear ds
 obtain ⟨ds, rfl⟩ := hF.open
 clear hF
 unfold F.punish_Twice.c1 at hs
 refine CP.cond (b := q11) (by kernel_rfl) (fun h29 => ?_) (fun h29 => ?_)
 ·replace hs := of_if_t hs h29
  refine CP.seqR ?_
  refine WP.stl 1 ?_
  refine WP.dn ?_
  refine NX.then_n ?_
  refine CP.ret ?_
  refine NX.block_r ?_
  refine NX.then_r ?_
  replace hs := Option.some.inj hs
  obtain rfl := hs
  exact NX.fin (v := .int .i64 6) (Res.still (by kernel_rfl)) tot htL rfl
 replace hs := of_if_f hs h29
 refine CP.cut (fun tm g => ∃ (q12 : Bool), Fr 95 [(0, .iface 57 (.pointer (some ⟨b1, 0, none⟩))), (7, .pointer (some ⟨b4, 0, none⟩)), (8, .pointer (some ⟨b5, 0, none⟩)), (9, .pointer (some ⟨b6, 0, none⟩)), (51, .bool q12)] tm ∧ Step (fun l => NoM l ∨ t ≤ l) g0 g ∧ Box g m0 b1 121 [[.slice a1 n1 c1], [.map (some b2)]] [1, 1] ∧ RdS k_S_notary_entry g 126 a1 n1 c1 l1 ∧ MapB g m1 b2 kv_S_notary_entry (Value.int .i64) w1 ∧ Box g (t + 2) b4 37 [encA .u8 d2] [8] ∧ Box g (t + 3) b5 43 [[.int .i64 x1], encA .u8 d3, [.int .i64 x2], [.slice a2 n2 c2], encA .u8 d4, [.int .i64 x3], encA .u8 d5, [.slice a3 n3 c3], [.slice a4 n4 c4]] [1, 8, 1, 1, 8, 1, 8, 1, 1] ∧ RdS (Kd.int .u8) g 5 a2 n2 c2 l2 ∧ RdS (Kd.int .u8) g 5 a3 n3 c3 l3 ∧ RdS (Kd.int .u8) g 5 a4 n4 c4 l4 ∧ Box g (t + 4) b6 43 [[.int .i64 x4], encA .u8 d6, [.int .i64 x5], [.slice a5 n5 c5], encA .u8 d7, [.int .i64 x6], encA .u8 d8, [.slice a6 n6 c6], [.slice a7 n7 c7]] [1, 8, 1, 1, 8, 1, 8, 1, 1] ∧ RdS (Kd.int .u8) g 5 a5 n5 c5 l5 ∧ RdS (Kd.int .u8) g 5 a6 n6 c6 l6 ∧ RdS (Kd.int .u8) g 5 a7 n7 c7 l7 ∧ (F.punish_Twice.c2 l1 w1 d2 x1 d3 x2 l2 d4 x3 d5 l3 l4 x4 d6 x5 l5 d7 x6 d8 l6 l7 q12) = some o1) ?_ ?_
 ·refine CP.region ?_
  refine WP.stl 1 ?_
  refine WP.loadB (v := .int .i64 x18) hB25 (by kernel_rfl) (by kernel_rfl) ?_
  refine WP.stl 1 ?_
  refine WP.loadB (v := .int .i64 x19) hB26 (by kernel_rfl) (by kernel_rfl) ?_
  refine WP.stl 2 ?_
  refine WP.guard 57 (b := (x18 != x19)) (by kernel_rfl) (fun h36 => ?_) (fun h36 => ?_)
  ·replace hs := of_if_t hs h36
   refine WP.stl 7 ?_
   refine WP.dn ?_
   refine NX.post ?_
   exact ⟨true, ⟨by kernel_rfl, by kernel_rfl⟩, tot, hB2, hR1, hB1, hB4, hB5, hR2, hR3, hR4, hB6, hR5, hR6, hR7, hs⟩
  replace hs := of_if_f hs h36
  refine WP.stl 1 ?_
  refine WP.loadB (v := AG [encA .u8 d26]) hB25 (by kernel_rfl) (by kernel_rfl) ?_
  refine WP.stl 1 ?_
  refine WP.loadB (v := AG [encA .u8 d28]) hB26 (by kernel_rfl) (by kernel_rfl) ?_
  refine WP.neV (by kernel_rfl) (by kernel_rfl) (EqV.arr (d := 9998) (t := 37) (e := 5) (m := 8) (k := .u8) (x := d26) (y := d28) (by kernel_rfl) (by kernel_rfl)) ?_
  refine WP.stl 2 ?_
  refine WP.dn ?_
  refine NX.post ?_
  exact ⟨(!(d26.1 == d28.1)), ⟨by kernel_rfl, by kernel_rfl⟩, tot, hB2, hR1, hB1, hB4, hB5, hR2, hR3, hR4, hB6, hR5, hR6, hR7, hs⟩
 clear tot hs hB2 hR1 hB1 hB4 hB5 hR2 hR3 hR4 hB6 hR5 hR6 hR7 hB25 hR12 hB26 hR13
 rintro tm g ⟨q12, hF, tot, hB2, hR1, hB1, hB4, hB5, hR2, hR3, hR4, hB6, hR5, hR6, hR7, hs⟩
 clear ds
 obtain ⟨ds, rfl⟩ := hF.open
 clear hF
 unfold F.punish_Twice.c2 at hs
 refine CP.cond (b := q12) (by kernel_rfl) (fun h31 => ?_) (fun h31 => ?_)
 ·replace hs := of_if_t hs h31
  refine CP.seqR ?_
  refine WP.stl 1 ?_
  refine WP.dn ?_
  refine NX.then_n ?_
  refine CP.ret ?_
  refine NX.block_r ?_
  refine NX.then_r ?_
  replace hs := Option.some.inj hs
  obtain rfl := hs
  exact NX.fin (v := .int .i64 18) (Res.still (by kernel_rfl)) tot htL rfl
 replace hs := of_if_f hs h31
 refine CP.seq ?_
 replace hs := Option.bind_eq_some_iff.1 hs
 obtain ⟨d29, hk24, hs⟩ := hs
 replace hs := Option.bind_eq_some_iff.1 hs
 obtain ⟨d30, hk25, hs⟩ := hs
 refine CP.drawL (by kernel_rfl) [0, 1, 2, 3, 4] [[], [0], [], [0, 1, 2], [0, 1, 2, 3], [0, 1, 2, 3, 4]] [⟨none, [], [], fun l g => Box g (t + 3) b5 43 [[.int .i64 x1], encA .u8 d3, [.int .i64 x2], [.slice a2 n2 c2], encA .u8 d4, [.int .i64 x3], encA .u8 d5, [.slice a3 n3 c3], [.slice a4 n4 c4]] [1, 8, 1, 1, 8, 1, 8, 1, 1]⟩, ⟨none, [], [], fun l g => RdS (Kd.int .u8) g 5 a2 n2 c2 l2⟩, ⟨none, [], [], fun l g => RdS (Kd.int .u8) g 5 a3 n3 c3 l3⟩, ⟨none, [], [], fun l g => RdS (Kd.int .u8) g 5 a4 n4 c4 l4⟩, ⟨none, [], [], fun l g => Box g (t + 4) b6 43 [[.int .i64 x4], encA .u8 d6, [.int .i64 x5], [.slice a5 n5 c5], encA .u8 d7, [.int .i64 x6], encA .u8 d8, [.slice a6 n6 c6], [.slice a7 n7 c7]] [1, 8, 1, 1, 8, 1, 8, 1, 1]⟩, ⟨none, [], [], fun l g => RdS (Kd.int .u8) g 5 a5 n5 c5 l5⟩, ⟨none, [], [], fun l g => RdS (Kd.int .u8) g 5 a6 n6 c6 l6⟩, ⟨none, [], [], fun l g => RdS (Kd.int .u8) g 5 a7 n7 c7 l7⟩, ⟨some 0, [], [0], fun l g => l.getD 0 undef = AG [[.int .i64 x1], encA .u8 d3, [.int .i64 x2], [.slice a2 n2 c2], encA .u8 d4, [.int .i64 x3], encA .u8 d5, [.slice a3 n3 c3], [.slice a4 n4 c4]]⟩, ⟨some 1, [], [1], fun l g => l.getD 0 undef = AG [encA .u8 d29]⟩, ⟨some 2, [], [2], fun l g => l.getD 0 undef = AG [[.int .i64 x4], encA .u8 d6, [.int .i64 x5], [.slice a5 n5 c5], encA .u8 d7, [.int .i64 x6], encA .u8 d8, [.slice a6 n6 c6], [.slice a7 n7 c7]]⟩, ⟨some 3, [], [3], fun l g => l.getD 0 undef = AG [encA .u8 d30]⟩, ⟨some 4, [], [4], fun l g => l.getD 0 undef = .bool (d29.1 == d30.1)⟩] [[], [], [], [], []] [] [] [5] (by kernel_rfl) (by simp) (by simp) ⟨fun _ _ _ _ st h0 hl hj hB5 => (hB5.mono st (fun h => absurd (hl _ h) (by simp))), fun _ _ _ _ st h0 hl hj hR2 => (RdS.mono (e := 5) hR2 st h0), fun _ _ _ _ st h0 hl hj hR3 => (RdS.mono (e := 5) hR3 st h0), fun _ _ _ _ st h0 hl hj hR4 => (RdS.mono (e := 5) hR4 st h0), fun _ _ _ _ st h0 hl hj hB6 => (hB6.mono st (fun h => absurd (hl _ h) (by simp))), fun _ _ _ _ st h0 hl hj hR5 => (RdS.mono (e := 5) hR5 st h0), fun _ _ _ _ st h0 hl hj hR6 => (RdS.mono (e := 5) hR6 st h0), fun _ _ _ _ st h0 hl hj hR7 => (RdS.mono (e := 5) hR7 st h0), fun _ _ _ _ st h0 hl hj e0 => e0, fun _ _ _ _ st h0 hl hj e1 => e1, fun _ _ _ _ st h0 hl hj e2 => e2, fun _ _ _ _ st h0 hl hj e3 => e3, fun _ _ _ _ st h0 hl hj e4 => e4, tv⟩ ⟨hB5, hR2, hR3, hR4, hB6, hR5, hR6, hR7, tv, tv, tv, tv, tv, tv⟩ (by kernel_rfl) (fun vs => by kernel_rfl) ?_ ?_ ?_
 ·intro j hj
  have hq : j = 0 := by have h : j < 1 := hj; omega
  rcases hq with rfl
  ·intro vs gq stq hl hf
   obtain ⟨v0, v1, v2, v3, v4, rfl⟩ := len_k5 hl
   have e4 := (show v4 = .bool (d29.1 == d30.1) from hf _ (memI 12 rfl) (by kernel_rfl))
   subst e4
   show Option.isSome _ = true
   kernel_rfl
 ·intro j hj
  have hq : j = 0 ∨ j = 1 ∨ j = 2 ∨ j = 3 ∨ j = 4 := by have h : j < 5 := hj; omega
  rcases hq with rfl | rfl | rfl | rfl | rfl
  ·intro vs gq stq hl hf
   obtain ⟨v0, v1, v2, v3, v4, rfl⟩ := len_k5 hl
   have hB5 := (show Box gq (t + 3) b5 43 [[.int .i64 x1], encA .u8 d3, [.int .i64 x2], [.slice a2 n2 c2], encA .u8 d4, [.int .i64 x3], encA .u8 d5, [.slice a3 n3 c3], [.slice a4 n4 c4]] [1, 8, 1, 1, 8, 1, 8, 1, 1] from hf _ (memI 0 rfl) (by kernel_rfl))
   refine WP.loadB (v := AG [[.int .i64 x1], encA .u8 d3, [.int .i64 x2], [.slice a2 n2 c2], encA .u8 d4, [.int .i64 x3], encA .u8 d5, [.slice a3 n3 c3], [.slice a4 n4 c4]]) hB5 (by kernel_rfl) (by kernel_rfl) ?_
   refine WP.dn (Shown.ok (v := AG [[.int .i64 x1], encA .u8 d3, [.int .i64 x2], [.slice a2 n2 c2], encA .u8 d4, [.int .i64 x3], encA .u8 d5, [.slice a3 n3 c3], [.slice a4 n4 c4]]) (by kernel_rfl) (Step.refl _ _) ?_)
   exact ⟨tv, tv, tv, tv, tv, tv, tv, tv, rfl, tv, tv, tv, tv, tv⟩
  ·intro vs gq stq hl hf
   obtain ⟨v0, v1, v2, v3, v4, rfl⟩ := len_k5 hl
   have hR2 := (show RdS (Kd.int .u8) gq 5 a2 n2 c2 l2 from hf _ (memI 1 rfl) (by kernel_rfl))
   have hR3 := (show RdS (Kd.int .u8) gq 5 a3 n3 c3 l3 from hf _ (memI 2 rfl) (by kernel_rfl))
   have hR4 := (show RdS (Kd.int .u8) gq 5 a4 n4 c4 l4 from hf _ (memI 3 rfl) (by kernel_rfl))
   have e0 := (show v0 = AG [[.int .i64 x1], encA .u8 d3, [.int .i64 x2], [.slice a2 n2 c2], encA .u8 d4, [.int .i64 x3], encA .u8 d5, [.slice a3 n3 c3], [.slice a4 n4 c4]] from hf _ (memI 8 rfl) (by kernel_rfl))
   subst e0
   have hcal24 := P.punish_Thing_Digest gq x1 d3 x2 l2 d4 x3 d5 l3 l4 a2 n2 c2 a3 n3 c3 a4 n4 c4 hR2 hR3 hR4 d29 hk24
   refine WP.callC hcal24 (by kernel_rfl) ?_
   rintro _ g51 st51 rfl
   refine WP.dn (Shown.o (v := AG [encA .u8 d29]) st51.pure ?_)
   exact ⟨tv, tv, tv, tv, tv, tv, tv, tv, tv, rfl, tv, tv, tv, tv⟩
  ·intro vs gq stq hl hf
   obtain ⟨v0, v1, v2, v3, v4, rfl⟩ := len_k5 hl
   have hB6 := (show Box gq (t + 4) b6 43 [[.int .i64 x4], encA .u8 d6, [.int .i64 x5], [.slice a5 n5 c5], encA .u8 d7, [.int .i64 x6], encA .u8 d8, [.slice a6 n6 c6], [.slice a7 n7 c7]] [1, 8, 1, 1, 8, 1, 8, 1, 1] from hf _ (memI 4 rfl) (by kernel_rfl))
   refine WP.loadB (v := AG [[.int .i64 x4], encA .u8 d6, [.int .i64 x5], [.slice a5 n5 c5], encA .u8 d7, [.int .i64 x6], encA .u8 d8, [.slice a6 n6 c6], [.slice a7 n7 c7]]) hB6 (by kernel_rfl) (by kernel_rfl) ?_
   refine WP.dn (Shown.ok (v := AG [[.int .i64 x4], encA .u8 d6, [.int .i64 x5], [.slice a5 n5 c5], encA .u8 d7, [.int .i64 x6], encA .u8 d8, [.slice a6 n6 c6], [.slice a7 n7 c7]]) (by kernel_rfl) (Step.refl _ _) ?_)
   exact ⟨tv, tv, tv, tv, tv, tv, tv, tv, tv, tv, rfl, tv, tv, tv⟩
  ·intro vs gq stq hl hf
   obtain ⟨v0, v1, v2, v3, v4, rfl⟩ := len_k5 hl
   have hR5 := (show RdS (Kd.int .u8) gq 5 a5 n5 c5 l5 from hf _ (memI 5 rfl) (by kernel_rfl))
   have hR6 := (show RdS (Kd.int .u8) gq 5 a6 n6 c6 l6 from hf _ (memI 6 rfl) (by kernel_rfl))
   have hR7 := (show RdS (Kd.int .u8) gq 5 a7 n7 c7 l7 from hf _ (memI 7 rfl) (by kernel_rfl))
   have e2 := (show v2 = AG [[.int .i64 x4], encA .u8 d6, [.int .i64 x5], [.slice a5 n5 c5], encA .u8 d7, [.int .i64 x6], encA .u8 d8, [.slice a6 n6 c6], [.slice a7 n7 c7]] from hf _ (memI 10 rfl) (by kernel_rfl))
   subst e2
   have hcal25 := P.punish_Thing_Digest gq x4 d6 x5 l5 d7 x6 d8 l6 l7 a5 n5 c5 a6 n6 c6 a7 n7 c7 hR5 hR6 hR7 d30 hk25
   refine WP.callC hcal25 (by kernel_rfl) ?_
   rintro _ g52 st52 rfl
   refine WP.dn (Shown.o (v := AG [encA .u8 d30]) st52.pure ?_)
   exact ⟨tv, tv, tv, tv, tv, tv, tv, tv, tv, tv, tv, rfl, tv, tv⟩
  ·intro vs gq stq hl hf
   obtain ⟨v0, v1, v2, v3, v4, rfl⟩ := len_k5 hl
   have e1 := (show v1 = AG [encA .u8 d29] from hf _ (memI 9 rfl) (by kernel_rfl))
   subst e1
   have e3 := (show v3 = AG [encA .u8 d30] from hf _ (memI 11 rfl) (by kernel_rfl))
   subst e3
   refine WP.eqV (by kernel_rfl) (by kernel_rfl) (EqV.arr (d := 9998) (t := 37) (e := 5) (m := 8) (k := .u8) (x := d29) (y := d30) (by kernel_rfl) (by kernel_rfl)) ?_
   refine WP.dn (Shown.ok (v := .bool (d29.1 == d30.1)) (by kernel_rfl) (Step.refl _ _) ?_)
   exact ⟨tv, tv, tv, tv, tv, tv, tv, tv, tv, tv, tv, tv, rfl, tv⟩
 intro vs g53 st53 hl hf
 obtain ⟨v0, v1, v2, v3, v4, rfl⟩ := len_k5 hl
 have e4 := (show v4 = .bool (d29.1 == d30.1) from hf _ (memI 12 rfl) (by kernel_rfl))
 subst e4
 replace hB2 := hB2.mono st53.toNo (fun x => x)
 replace hR1 := hR1.mono st53.toNo (fun x => x)
 replace hB1 := hB1.mono st53.toNo (fun x => x)
 replace hB4 := hB4.mono st53.toNo (fun x => x)
 replace hB5 := hB5.mono st53.toNo (fun x => x)
 replace hR2 := hR2.mono st53.toNo (fun x => x)
 replace hR3 := hR3.mono st53.toNo (fun x => x)
 replace hR4 := hR4.mono st53.toNo (fun x => x)
 replace hB6 := hB6.mono st53.toNo (fun x => x)
 replace hR5 := hR5.mono st53.toNo (fun x => x)
 replace hR6 := hR6.mono st53.toNo (fun x => x)
 replace hR7 := hR7.mono st53.toNo (fun x => x)
 replace tot := tot.trans st53.toNo.pure
 refine NX.then_n ?_
 refine CP.refr 95 [(0, .iface 57 (.pointer (some ⟨b1, 0, none⟩))), (7, .pointer (some ⟨b4, 0, none⟩)), (8, .pointer (some ⟨b5, 0, none⟩)), (9, .pointer (some ⟨b6, 0, none⟩)), (64, .bool (d29.1 == d30.1))] (by kernel_rfl) (by kernel_rfl) ?_
 clear ds
 intro ds
 refine CP.cond (b := (d29.1 == d30.1)) (by kernel_rfl) (fun h32 => ?_) (fun h32 => ?_)
 ·replace hs := of_if_t hs h32
  refine CP.seqR ?_
  refine WP.stl 1 ?_
  refine WP.dn ?_
  refine NX.then_n ?_
  refine CP.ret ?_
  refine NX.block_r ?_
  refine NX.then_r ?_
  replace hs := Option.some.inj hs
  obtain rfl := hs
  exact NX.fin (v := .int .i64 7) (Res.still (by kernel_rfl)) tot htL rfl
 replace hs := of_if_f hs h32
 refine CP.cut (fun tm g => ∃ (q15 : Bool), Fr 95 [(70, .bool q15)] tm ∧ Step (fun l => NoM l ∨ t ≤ l) g0 g ∧ (F.punish_Twice.c3 q15) = some o1) ?_ ?_
 ·replace hs := Option.bind_eq_some_iff.1 hs
  obtain ⟨d33, hk30, hs⟩ := hs
  replace hs := Option.bind_eq_some_iff.1 hs
  obtain ⟨q16, hk31, hs⟩ := hs
  refine bool_split (b := (!q16)) (fun h35 => ?_) (fun h35 => ?_)
  ·replace hs := of_if_t hs h35
   refine CP.drawL (by kernel_rfl) [1, 2, 3, 5, 9, 11] N.punish_Twice_1 [⟨none, [], [], fun l g => Box g m0 b1 121 [[.slice a1 n1 c1], [.map (some b2)]] [1, 1]⟩, ⟨none, [], [], fun l g => RdS k_S_notary_entry g 126 a1 n1 c1 l1⟩, ⟨none, [], [], fun l g => MapB g m1 b2 kv_S_notary_entry (Value.int .i64) w1⟩, ⟨none, [], [], fun l g => Box g (t + 2) b4 37 [encA .u8 d2] [8]⟩, ⟨none, [], [], fun l g => Box g (t + 3) b5 43 [[.int .i64 x1], encA .u8 d3, [.int .i64 x2], [.slice a2 n2 c2], encA .u8 d4, [.int .i64 x3], encA .u8 d5, [.slice a3 n3 c3], [.slice a4 n4 c4]] [1, 8, 1, 1, 8, 1, 8, 1, 1]⟩, ⟨none, [], [], fun l g => RdS (Kd.int .u8) g 5 a2 n2 c2 l2⟩, ⟨none, [], [], fun l g => RdS (Kd.int .u8) g 5 a3 n3 c3 l3⟩, ⟨none, [], [], fun l g => RdS (Kd.int .u8) g 5 a4 n4 c4 l4⟩, ⟨some 0, [], [0], fun l g => l.getD 0 undef = AG [encA .u8 d2]⟩, ⟨some 1, [], [1], fun l g => l.getD 0 undef = AG [[.int .i64 x1], encA .u8 d3, [.int .i64 x2], [.slice a2 n2 c2], encA .u8 d4, [.int .i64 x3], encA .u8 d5, [.slice a3 n3 c3], [.slice a4 n4 c4]]⟩, ⟨some 2, [], [2], fun l g => l.getD 0 undef = AG [encA .u8 d33]⟩, ⟨some 3, [], [3], fun l g => l.getD 0 undef = .slice a4 n4 c4⟩, ⟨some 4, [], [4], fun l g => l.getD 0 undef = .bool q16⟩, ⟨some 5, [], [5], fun l g => l.getD 0 undef = .bool true⟩] [[], [], [], [], [], []] [] [0, 4, 6, 7, 8] [10, 12, 13, 14, 15, 16, 17, 18, 19, 20, 21, 22, 23, 24] (by kernel_rfl) (by simp) (by simp) ⟨fun _ _ _ _ st h0 hl hj hB2 => (hB2.mono st (fun h => absurd (hl _ h) (by simp))), fun _ _ _ _ st h0 hl hj hR1 => (RdS.mono (e := 126) hR1 st h0), fun _ _ _ _ st h0 hl hj hB1 => (hB1.mono st (fun h => absurd (hl _ h) (by simp))), fun _ _ _ _ st h0 hl hj hB4 => (hB4.mono st (fun h => absurd (hl _ h) (by simp))), fun _ _ _ _ st h0 hl hj hB5 => (hB5.mono st (fun h => absurd (hl _ h) (by simp))), fun _ _ _ _ st h0 hl hj hR2 => (RdS.mono (e := 5) hR2 st h0), fun _ _ _ _ st h0 hl hj hR3 => (RdS.mono (e := 5) hR3 st h0), fun _ _ _ _ st h0 hl hj hR4 => (RdS.mono (e := 5) hR4 st h0), fun _ _ _ _ st h0 hl hj e0 => e0, fun _ _ _ _ st h0 hl hj e1 => e1, fun _ _ _ _ st h0 hl hj e2 => e2, fun _ _ _ _ st h0 hl hj e3 => e3, fun _ _ _ _ st h0 hl hj e4 => e4, fun _ _ _ _ st h0 hl hj e5 => e5, tv⟩ ⟨hB2, hR1, hB1, hB4, hB5, hR2, hR3, hR4, tv, tv, tv, tv, tv, tv, tv⟩ (by kernel_rfl) (fun vs => by kernel_rfl) ?_ ?_ ?_
   ·intro j hj
    have hq : j = 0 ∨ j = 1 ∨ j = 2 ∨ j = 3 ∨ j = 4 ∨ j = 5 ∨ j = 6 ∨ j = 7 ∨ j = 8 ∨ j = 9 ∨ j = 10 ∨ j = 11 ∨ j = 12 ∨ j = 13 := by have h : j < 14 := hj; omega
    rcases hq with rfl | rfl | rfl | rfl | rfl | rfl | rfl | rfl | rfl | rfl | rfl | rfl | rfl | rfl
    ·intro vs gq stq hl hf
     obtain ⟨v0, v1, v2, v3, v4, v5, rfl⟩ := len_k6 hl
     have e4 := (show v4 = .bool q16 from hf _ (memI 12 rfl) (by kernel_rfl))
     subst e4
     show Option.isSome _ = true
     kernel_rfl
    ·intro vs gq stq hl hf
     obtain ⟨v0, v1, v2, v3, v4, v5, rfl⟩ := len_k6 hl
     have e5 := (show v5 = .bool true from hf _ (memI 13 rfl) (by kernel_rfl))
     subst e5
     show Option.isSome _ = true
     kernel_rfl
    ·intro vs gq stq hl hf
     obtain ⟨v0, v1, v2, v3, v4, v5, rfl⟩ := len_k6 hl
     have e5 := (show v5 = .bool true from hf _ (memI 13 rfl) (by kernel_rfl))
     subst e5
     show Option.isSome _ = true
     kernel_rfl
    ·intro vs gq stq hl hf
     obtain ⟨v0, v1, v2, v3, v4, v5, rfl⟩ := len_k6 hl
     have e5 := (show v5 = .bool true from hf _ (memI 13 rfl) (by kernel_rfl))
     subst e5
     show Option.isSome _ = true
     kernel_rfl
    ·intro vs gq stq hl hf
     obtain ⟨v0, v1, v2, v3, v4, v5, rfl⟩ := len_k6 hl
     have e5 := (show v5 = .bool true from hf _ (memI 13 rfl) (by kernel_rfl))
     subst e5
     show Option.isSome _ = true
     kernel_rfl
    ·intro vs gq stq hl hf
     obtain ⟨v0, v1, v2, v3, v4, v5, rfl⟩ := len_k6 hl
     have e5 := (show v5 = .bool true from hf _ (memI 13 rfl) (by kernel_rfl))
     subst e5
     show Option.isSome _ = true
     kernel_rfl
    ·intro vs gq stq hl hf
     obtain ⟨v0, v1, v2, v3, v4, v5, rfl⟩ := len_k6 hl
     have e5 := (show v5 = .bool true from hf _ (memI 13 rfl) (by kernel_rfl))
     subst e5
     show Option.isSome _ = true
     kernel_rfl
    ·intro vs gq stq hl hf
     obtain ⟨v0, v1, v2, v3, v4, v5, rfl⟩ := len_k6 hl
     have e5 := (show v5 = .bool true from hf _ (memI 13 rfl) (by kernel_rfl))
     subst e5
     show Option.isSome _ = true
     kernel_rfl
    ·intro vs gq stq hl hf
     obtain ⟨v0, v1, v2, v3, v4, v5, rfl⟩ := len_k6 hl
     have e5 := (show v5 = .bool true from hf _ (memI 13 rfl) (by kernel_rfl))
     subst e5
     show Option.isSome _ = true
     kernel_rfl
    ·intro vs gq stq hl hf
     obtain ⟨v0, v1, v2, v3, v4, v5, rfl⟩ := len_k6 hl
     have e5 := (show v5 = .bool true from hf _ (memI 13 rfl) (by kernel_rfl))
     subst e5
     show Option.isSome _ = true
     kernel_rfl
    ·intro vs gq stq hl hf
     obtain ⟨v0, v1, v2, v3, v4, v5, rfl⟩ := len_k6 hl
     have e5 := (show v5 = .bool true from hf _ (memI 13 rfl) (by kernel_rfl))
     subst e5
     show Option.isSome _ = true
     kernel_rfl
    ·intro vs gq stq hl hf
     obtain ⟨v0, v1, v2, v3, v4, v5, rfl⟩ := len_k6 hl
     have e5 := (show v5 = .bool true from hf _ (memI 13 rfl) (by kernel_rfl))
     subst e5
     show Option.isSome _ = true
     kernel_rfl
    ·intro vs gq stq hl hf
     obtain ⟨v0, v1, v2, v3, v4, v5, rfl⟩ := len_k6 hl
     have e5 := (show v5 = .bool true from hf _ (memI 13 rfl) (by kernel_rfl))
     subst e5
     show Option.isSome _ = true
     kernel_rfl
    ·intro vs gq stq hl hf
     obtain ⟨v0, v1, v2, v3, v4, v5, rfl⟩ := len_k6 hl
     have e5 := (show v5 = .bool true from hf _ (memI 13 rfl) (by kernel_rfl))
     subst e5
     show Option.isSome _ = true
     kernel_rfl
   ·intro j hj
    have hq : j = 0 ∨ j = 1 ∨ j = 2 ∨ j = 3 ∨ j = 4 ∨ j = 5 := by have h : j < 6 := hj; omega
    rcases hq with rfl | rfl | rfl | rfl | rfl | rfl
    ·intro vs gq stq hl hf
     obtain ⟨v0, v1, v2, v3, v4, v5, rfl⟩ := len_k6 hl
     have hB4 := (show Box gq (t + 2) b4 37 [encA .u8 d2] [8] from hf _ (memI 3 rfl) (by kernel_rfl))
     refine WP.loadB (v := AG [encA .u8 d2]) hB4 (by kernel_rfl) (by kernel_rfl) ?_
     refine WP.dn (Shown.ok (v := AG [encA .u8 d2]) (by kernel_rfl) (Step.refl _ _) ?_)
     exact ⟨tv, tv, tv, tv, tv, tv, tv, tv, rfl, tv, tv, tv, tv, tv, tv⟩
    ·intro vs gq stq hl hf
     obtain ⟨v0, v1, v2, v3, v4, v5, rfl⟩ := len_k6 hl
     have hB5 := (show Box gq (t + 3) b5 43 [[.int .i64 x1], encA .u8 d3, [.int .i64 x2], [.slice a2 n2 c2], encA .u8 d4, [.int .i64 x3], encA .u8 d5, [.slice a3 n3 c3], [.slice a4 n4 c4]] [1, 8, 1, 1, 8, 1, 8, 1, 1] from hf _ (memI 4 rfl) (by kernel_rfl))
     refine WP.loadB (v := AG [[.int .i64 x1], encA .u8 d3, [.int .i64 x2], [.slice a2 n2 c2], encA .u8 d4, [.int .i64 x3], encA .u8 d5, [.slice a3 n3 c3], [.slice a4 n4 c4]]) hB5 (by kernel_rfl) (by kernel_rfl) ?_
     refine WP.dn (Shown.ok (v := AG [[.int .i64 x1], encA .u8 d3, [.int .i64 x2], [.slice a2 n2 c2], encA .u8 d4, [.int .i64 x3], encA .u8 d5, [.slice a3 n3 c3], [.slice a4 n4 c4]]) (by kernel_rfl) (Step.refl _ _) ?_)
     exact ⟨tv, tv, tv, tv, tv, tv, tv, tv, tv, rfl, tv, tv, tv, tv, tv⟩
    ·intro vs gq stq hl hf
     obtain ⟨v0, v1, v2, v3, v4, v5, rfl⟩ := len_k6 hl
     have hR2 := (show RdS (Kd.int .u8) gq 5 a2 n2 c2 l2 from hf _ (memI 5 rfl) (by kernel_rfl))
     have hR3 := (show RdS (Kd.int .u8) gq 5 a3 n3 c3 l3 from hf _ (memI 6 rfl) (by kernel_rfl))
     have hR4 := (show RdS (Kd.int .u8) gq 5 a4 n4 c4 l4 from hf _ (memI 7 rfl) (by kernel_rfl))
     have e1 := (show v1 = AG [[.int .i64 x1], encA .u8 d3, [.int .i64 x2], [.slice a2 n2 c2], encA .u8 d4, [.int .i64 x3], encA .u8 d5, [.slice a3 n3 c3], [.slice a4 n4 c4]] from hf _ (memI 9 rfl) (by kernel_rfl))
     subst e1
     have hcal30 := P.punish_Thing_Digest gq x1 d3 x2 l2 d4 x3 d5 l3 l4 a2 n2 c2 a3 n3 c3 a4 n4 c4 hR2 hR3 hR4 d33 hk30
     refine WP.callC hcal30 (by kernel_rfl) ?_
     rintro _ g58 st58 rfl
     refine WP.dn (Shown.o (v := AG [encA .u8 d33]) st58.pure ?_)
     exact ⟨tv, tv, tv, tv, tv, tv, tv, tv, tv, tv, rfl, tv, tv, tv, tv⟩
    ·intro vs gq stq hl hf
     obtain ⟨v0, v1, v2, v3, v4, v5, rfl⟩ := len_k6 hl
     have hB5 := (show Box gq (t + 3) b5 43 [[.int .i64 x1], encA .u8 d3, [.int .i64 x2], [.slice a2 n2 c2], encA .u8 d4, [.int .i64 x3], encA .u8 d5, [.slice a3 n3 c3], [.slice a4 n4 c4]] [1, 8, 1, 1, 8, 1, 8, 1, 1] from hf _ (memI 4 rfl) (by kernel_rfl))
     refine WP.loadB (v := .slice a4 n4 c4) hB5 (by kernel_rfl) (by kernel_rfl) ?_
     refine WP.dn (Shown.ok (v := .slice a4 n4 c4) (by kernel_rfl) (Step.refl _ _) ?_)
     exact ⟨tv, tv, tv, tv, tv, tv, tv, tv, tv, tv, tv, rfl, tv, tv, tv⟩
    ·intro vs gq stq hl hf
     obtain ⟨v0, v1, v2, v3, v4, v5, rfl⟩ := len_k6 hl
     have hB2 := (show Box gq m0 b1 121 [[.slice a1 n1 c1], [.map (some b2)]] [1, 1] from hf _ (memI 0 rfl) (by kernel_rfl))
     have hR1 := (show RdS k_S_notary_entry gq 126 a1 n1 c1 l1 from hf _ (memI 1 rfl) (by kernel_rfl))
     have hB1 := (show MapB gq m1 b2 kv_S_notary_entry (Value.int .i64) w1 from hf _ (memI 2 rfl) (by kernel_rfl))
     have hR4 := (show RdS (Kd.int .u8) gq 5 a4 n4 c4 l4 from hf _ (memI 7 rfl) (by kernel_rfl))
     have e0 := (show v0 = AG [encA .u8 d2] from hf _ (memI 8 rfl) (by kernel_rfl))
     subst e0
     have e2 := (show v2 = AG [encA .u8 d33] from hf _ (memI 10 rfl) (by kernel_rfl))
     subst e2
     have e3 := (show v3 = .slice a4 n4 c4 from hf _ (memI 11 rfl) (by kernel_rfl))
     subst e3
     have hcal31 := P.notary_Book_Verify gq m0 m1 l1 w1 d2 d33 l4 a1 n1 c1 a4 n4 c4 b1 b2 hR1 hR4 hB1 hB2 (by omega) (by omega) (by omega) q16 hk31
     refine WP.callC hcal31 (by kernel_rfl) ?_
     rintro _ g59 st59 rfl
     refine WP.dn (Shown.o (v := .bool q16) st59.pure ?_)
     exact ⟨tv, tv, tv, tv, tv, tv, tv, tv, tv, tv, tv, tv, rfl, tv, tv⟩
    ·intro vs gq stq hl hf
     obtain ⟨v0, v1, v2, v3, v4, v5, rfl⟩ := len_k6 hl
     have e4 := (show v4 = .bool q16 from hf _ (memI 12 rfl) (by kernel_rfl))
     subst e4
     refine WP.stl 1 ?_
     refine WP.dn (Shown.ok (v := .bool (!q16)) (by kernel_rfl) (Step.refl _ _) ?_)
     exact ⟨tv, tv, tv, tv, tv, tv, tv, tv, tv, tv, tv, tv, tv, congrArg Value.bool h35, tv⟩
   intro vs g60 st60 hl hf
   obtain ⟨v0, v1, v2, v3, v4, v5, rfl⟩ := len_k6 hl
   have e5 := (show v5 = .bool true from hf _ (memI 13 rfl) (by kernel_rfl))
   subst e5
   replace tot := tot.trans st60.toNo.pure
   refine NX.post ?_
   exact ⟨true, ⟨by kernel_rfl, by kernel_rfl⟩, tot, hs⟩
  replace hs := of_if_f hs h35
  replace hs := Option.bind_eq_some_iff.1 hs
  obtain ⟨d34, hk32, hs⟩ := hs
  replace hs := Option.bind_eq_some_iff.1 hs
  obtain ⟨q17, hk33, hs⟩ := hs
  refine CP.drawL (by kernel_rfl) [1, 2, 3, 5, 9, 11, 13, 14, 15, 17, 21] N.punish_Twice_1 [⟨none, [], [], fun l g => Box g m0 b1 121 [[.slice a1 n1 c1], [.map (some b2)]] [1, 1]⟩, ⟨none, [], [], fun l g => RdS k_S_notary_entry g 126 a1 n1 c1 l1⟩, ⟨none, [], [], fun l g => MapB g m1 b2 kv_S_notary_entry (Value.int .i64) w1⟩, ⟨none, [], [], fun l g => Box g (t + 2) b4 37 [encA .u8 d2] [8]⟩, ⟨none, [], [], fun l g => Box g (t + 3) b5 43 [[.int .i64 x1], encA .u8 d3, [.int .i64 x2], [.slice a2 n2 c2], encA .u8 d4, [.int .i64 x3], encA .u8 d5, [.slice a3 n3 c3], [.slice a4 n4 c4]] [1, 8, 1, 1, 8, 1, 8, 1, 1]⟩, ⟨none, [], [], fun l g => RdS (Kd.int .u8) g 5 a2 n2 c2 l2⟩, ⟨none, [], [], fun l g => RdS (Kd.int .u8) g 5 a3 n3 c3 l3⟩, ⟨none, [], [], fun l g => RdS (Kd.int .u8) g 5 a4 n4 c4 l4⟩, ⟨none, [], [], fun l g => Box g (t + 4) b6 43 [[.int .i64 x4], encA .u8 d6, [.int .i64 x5], [.slice a5 n5 c5], encA .u8 d7, [.int .i64 x6], encA .u8 d8, [.slice a6 n6 c6], [.slice a7 n7 c7]] [1, 8, 1, 1, 8, 1, 8, 1, 1]⟩, ⟨none, [], [], fun l g => RdS (Kd.int .u8) g 5 a5 n5 c5 l5⟩, ⟨none, [], [], fun l g => RdS (Kd.int .u8) g 5 a6 n6 c6 l6⟩, ⟨none, [], [], fun l g => RdS (Kd.int .u8) g 5 a7 n7 c7 l7⟩, ⟨some 0, [], [0], fun l g => l.getD 0 undef = AG [encA .u8 d2]⟩, ⟨some 1, [], [1], fun l g => l.getD 0 undef = AG [[.int .i64 x1], encA .u8 d3, [.int .i64 x2], [.slice a2 n2 c2], encA .u8 d4, [.int .i64 x3], encA .u8 d5, [.slice a3 n3 c3], [.slice a4 n4 c4]]⟩, ⟨some 2, [], [2], fun l g => l.getD 0 undef = AG [encA .u8 d33]⟩, ⟨some 3, [], [3], fun l g => l.getD 0 undef = .slice a4 n4 c4⟩, ⟨some 4, [], [4], fun l g => l.getD 0 undef = .bool q16⟩, ⟨some 5, [], [5], fun l g => l.getD 0 undef = .bool false⟩, ⟨some 6, [], [6], fun l g => l.getD 0 undef = AG [encA .u8 d2]⟩, ⟨some 7, [], [7], fun l g => l.getD 0 undef = AG [[.int .i64 x4], encA .u8 d6, [.int .i64 x5], [.slice a5 n5 c5], encA .u8 d7, [.int .i64 x6], encA .u8 d8, [.slice a6 n6 c6], [.slice a7 n7 c7]]⟩, ⟨some 8, [], [8], fun l g => l.getD 0 undef = AG [encA .u8 d34]⟩, ⟨some 9, [], [9], fun l g => l.getD 0 undef = .slice a7 n7 c7⟩, ⟨some 10, [], [10], fun l g => l.getD 0 undef = .bool q17⟩] [[], [], [], [], [], [], [], [], [], [], []] [] [0, 4, 6, 7, 8] [10, 12, 16, 18, 19, 20, 22, 23, 24] (by kernel_rfl) (by simp) (by simp) ⟨fun _ _ _ _ st h0 hl hj hB2 => (hB2.mono st (fun h => absurd (hl _ h) (by simp))), fun _ _ _ _ st h0 hl hj hR1 => (RdS.mono (e := 126) hR1 st h0), fun _ _ _ _ st h0 hl hj hB1 => (hB1.mono st (fun h => absurd (hl _ h) (by simp))), fun _ _ _ _ st h0 hl hj hB4 => (hB4.mono st (fun h => absurd (hl _ h) (by simp))), fun _ _ _ _ st h0 hl hj hB5 => (hB5.mono st (fun h => absurd (hl _ h) (by simp))), fun _ _ _ _ st h0 hl hj hR2 => (RdS.mono (e := 5) hR2 st h0), fun _ _ _ _ st h0 hl hj hR3 => (RdS.mono (e := 5) hR3 st h0), fun _ _ _ _ st h0 hl hj hR4 => (RdS.mono (e := 5) hR4 st h0), fun _ _ _ _ st h0 hl hj hB6 => (hB6.mono st (fun h => absurd (hl _ h) (by simp))), fun _ _ _ _ st h0 hl hj hR5 => (RdS.mono (e := 5) hR5 st h0), fun _ _ _ _ st h0 hl hj hR6 => (RdS.mono (e := 5) hR6 st h0), fun _ _ _ _ st h0 hl hj hR7 => (RdS.mono (e := 5) hR7 st h0), fun _ _ _ _ st h0 hl hj e0 => e0, fun _ _ _ _ st h0 hl hj e1 => e1, fun _ _ _ _ st h0 hl hj e2 => e2, fun _ _ _ _ st h0 hl hj e3 => e3, fun _ _ _ _ st h0 hl hj e4 => e4, fun _ _ _ _ st h0 hl hj e5 => e5, fun _ _ _ _ st h0 hl hj e6 => e6, fun _ _ _ _ st h0 hl hj e7 => e7, fun _ _ _ _ st h0 hl hj e8 => e8, fun _ _ _ _ st h0 hl hj e9 => e9, fun _ _ _ _ st h0 hl hj e10 => e10, tv⟩ ⟨hB2, hR1, hB1, hB4, hB5, hR2, hR3, hR4, hB6, hR5, hR6, hR7, tv, tv, tv, tv, tv, tv, tv, tv, tv, tv, tv, tv⟩ (by kernel_rfl) (fun vs => by kernel_rfl) ?_ ?_ ?_
  ·intro j hj
   have hq : j = 0 ∨ j = 1 ∨ j = 2 ∨ j = 3 ∨ j = 4 ∨ j = 5 ∨ j = 6 ∨ j = 7 ∨ j = 8 := by have h : j < 9 := hj; omega
   rcases hq with rfl | rfl | rfl | rfl | rfl | rfl | rfl | rfl | rfl
   ·intro vs gq stq hl hf
    obtain ⟨v0, v1, v2, v3, v4, v5, v6, v7, v8, v9, v10, rfl⟩ := len_k11 hl
    have e4 := (show v4 = .bool q16 from hf _ (memI 16 rfl) (by kernel_rfl))
    subst e4
    show Option.isSome _ = true
    kernel_rfl
   ·intro vs gq stq hl hf
    obtain ⟨v0, v1, v2, v3, v4, v5, v6, v7, v8, v9, v10, rfl⟩ := len_k11 hl
    have e5 := (show v5 = .bool false from hf _ (memI 17 rfl) (by kernel_rfl))
    subst e5
    show Option.isSome _ = true
    kernel_rfl
   ·intro vs gq stq hl hf
    obtain ⟨v0, v1, v2, v3, v4, v5, v6, v7, v8, v9, v10, rfl⟩ := len_k11 hl
    have e5 := (show v5 = .bool false from hf _ (memI 17 rfl) (by kernel_rfl))
    subst e5
    show Option.isSome _ = true
    kernel_rfl
   ·intro vs gq stq hl hf
    obtain ⟨v0, v1, v2, v3, v4, v5, v6, v7, v8, v9, v10, rfl⟩ := len_k11 hl
    have e5 := (show v5 = .bool false from hf _ (memI 17 rfl) (by kernel_rfl))
    subst e5
    show Option.isSome _ = true
    kernel_rfl
   ·intro vs gq stq hl hf
    obtain ⟨v0, v1, v2, v3, v4, v5, v6, v7, v8, v9, v10, rfl⟩ := len_k11 hl
    have e5 := (show v5 = .bool false from hf _ (memI 17 rfl) (by kernel_rfl))
    subst e5
    show Option.isSome _ = true
    kernel_rfl
   ·intro vs gq stq hl hf
    obtain ⟨v0, v1, v2, v3, v4, v5, v6, v7, v8, v9, v10, rfl⟩ := len_k11 hl
    have e5 := (show v5 = .bool false from hf _ (memI 17 rfl) (by kernel_rfl))
    subst e5
    show Option.isSome _ = true
    kernel_rfl
   ·intro vs gq stq hl hf
    obtain ⟨v0, v1, v2, v3, v4, v5, v6, v7, v8, v9, v10, rfl⟩ := len_k11 hl
    have e5 := (show v5 = .bool false from hf _ (memI 17 rfl) (by kernel_rfl))
    subst e5
    have e10 := (show v10 = .bool q17 from hf _ (memI 22 rfl) (by kernel_rfl))
    subst e10
    show Option.isSome _ = true
    kernel_rfl
   ·intro vs gq stq hl hf
    obtain ⟨v0, v1, v2, v3, v4, v5, v6, v7, v8, v9, v10, rfl⟩ := len_k11 hl
    have e5 := (show v5 = .bool false from hf _ (memI 17 rfl) (by kernel_rfl))
    subst e5
    have e10 := (show v10 = .bool q17 from hf _ (memI 22 rfl) (by kernel_rfl))
    subst e10
    show Option.isSome _ = true
    kernel_rfl
   ·intro vs gq stq hl hf
    obtain ⟨v0, v1, v2, v3, v4, v5, v6, v7, v8, v9, v10, rfl⟩ := len_k11 hl
    have e5 := (show v5 = .bool false from hf _ (memI 17 rfl) (by kernel_rfl))
    subst e5
    have e10 := (show v10 = .bool q17 from hf _ (memI 22 rfl) (by kernel_rfl))
    subst e10
    show Option.isSome _ = true
    kernel_rfl
  ·intro j hj
   have hq : j = 0 ∨ j = 1 ∨ j = 2 ∨ j = 3 ∨ j = 4 ∨ j = 5 ∨ j = 6 ∨ j = 7 ∨ j = 8 ∨ j = 9 ∨ j = 10 := by have h : j < 11 := hj; omega
   rcases hq with rfl | rfl | rfl | rfl | rfl | rfl | rfl | rfl | rfl | rfl | rfl
   ·intro vs gq stq hl hf
    obtain ⟨v0, v1, v2, v3, v4, v5, v6, v7, v8, v9, v10, rfl⟩ := len_k11 hl
    have hB4 := (show Box gq (t + 2) b4 37 [encA .u8 d2] [8] from hf _ (memI 3 rfl) (by kernel_rfl))
    refine WP.loadB (v := AG [encA .u8 d2]) hB4 (by kernel_rfl) (by kernel_rfl) ?_
    refine WP.dn (Shown.ok (v := AG [encA .u8 d2]) (by kernel_rfl) (Step.refl _ _) ?_)
    exact ⟨tv, tv, tv, tv, tv, tv, tv, tv, tv, tv, tv, tv, rfl, tv, tv, tv, tv, tv, tv, tv, tv, tv, tv, tv⟩
   ·intro vs gq stq hl hf
    obtain ⟨v0, v1, v2, v3, v4, v5, v6, v7, v8, v9, v10, rfl⟩ := len_k11 hl
    have hB5 := (show Box gq (t + 3) b5 43 [[.int .i64 x1], encA .u8 d3, [.int .i64 x2], [.slice a2 n2 c2], encA .u8 d4, [.int .i64 x3], encA .u8 d5, [.slice a3 n3 c3], [.slice a4 n4 c4]] [1, 8, 1, 1, 8, 1, 8, 1, 1] from hf _ (memI 4 rfl) (by kernel_rfl))
    refine WP.loadB (v := AG [[.int .i64 x1], encA .u8 d3, [.int .i64 x2], [.slice a2 n2 c2], encA .u8 d4, [.int .i64 x3], encA .u8 d5, [.slice a3 n3 c3], [.slice a4 n4 c4]]) hB5 (by kernel_rfl) (by kernel_rfl) ?_
    refine WP.dn (Shown.ok (v := AG [[.int .i64 x1], encA .u8 d3, [.int .i64 x2], [.slice a2 n2 c2], encA .u8 d4, [.int .i64 x3], encA .u8 d5, [.slice a3 n3 c3], [.slice a4 n4 c4]]) (by kernel_rfl) (Step.refl _ _) ?_)
    exact ⟨tv, tv, tv, tv, tv, tv, tv, tv, tv, tv, tv, tv, tv, rfl, tv, tv, tv, tv, tv, tv, tv, tv, tv, tv⟩
   ·intro vs gq stq hl hf
    obtain ⟨v0, v1, v2, v3, v4, v5, v6, v7, v8, v9, v10, rfl⟩ := len_k11 hl
    have hR2 := (show RdS (Kd.int .u8) gq 5 a2 n2 c2 l2 from hf _ (memI 5 rfl) (by kernel_rfl))
    have hR3 := (show RdS (Kd.int .u8) gq 5 a3 n3 c3 l3 from hf _ (memI 6 rfl) (by kernel_rfl))
    have hR4 := (show RdS (Kd.int .u8) gq 5 a4 n4 c4 l4 from hf _ (memI 7 rfl) (by kernel_rfl))
    have e1 := (show v1 = AG [[.int .i64 x1], encA .u8 d3, [.int .i64 x2], [.slice a2 n2 c2], encA .u8 d4, [.int .i64 x3], encA .u8 d5, [.slice a3 n3 c3], [.slice a4 n4 c4]] from hf _ (memI 13 rfl) (by kernel_rfl))
    subst e1
    have hcal30 := P.punish_Thing_Digest gq x1 d3 x2 l2 d4 x3 d5 l3 l4 a2 n2 c2 a3 n3 c3 a4 n4 c4 hR2 hR3 hR4 d33 hk30
    refine WP.callC hcal30 (by kernel_rfl) ?_
    rintro _ g58 st58 rfl
    refine WP.dn (Shown.o (v := AG [encA .u8 d33]) st58.pure ?_)
    exact ⟨tv, tv, tv, tv, tv, tv, tv, tv, tv, tv, tv, tv, tv, tv, rfl, tv, tv, tv, tv, tv, tv, tv, tv, tv⟩
   ·intro vs gq stq hl hf
    obtain ⟨v0, v1, v2, v3, v4, v5, v6, v7, v8, v9, v10, rfl⟩ := len_k11 hl
    have hB5 := (show Box gq (t + 3) b5 43 [[.int .i64 x1], encA .u8 d3, [.int .i64 x2], [.slice a2 n2 c2], encA .u8 d4, [.int .i64 x3], encA .u8 d5, [.slice a3 n3 c3], [.slice a4 n4 c4]] [1, 8, 1, 1, 8, 1, 8, 1, 1] from hf _ (memI 4 rfl) (by kernel_rfl))
    refine WP.loadB (v := .slice a4 n4 c4) hB5 (by kernel_rfl) (by kernel_rfl) ?_
    refine WP.dn (Shown.ok (v := .slice a4 n4 c4) (by kernel_rfl) (Step.refl _ _) ?_)
    exact ⟨tv, tv, tv, tv, tv, tv, tv, tv, tv, tv, tv, tv, tv, tv, tv, rfl, tv, tv, tv, tv, tv, tv, tv, tv⟩
   ·intro vs gq stq hl hf
    obtain ⟨v0, v1, v2, v3, v4, v5, v6, v7, v8, v9, v10, rfl⟩ := len_k11 hl
    have hB2 := (show Box gq m0 b1 121 [[.slice a1 n1 c1], [.map (some b2)]] [1, 1] from hf _ (memI 0 rfl) (by kernel_rfl))
    have hR1 := (show RdS k_S_notary_entry gq 126 a1 n1 c1 l1 from hf _ (memI 1 rfl) (by kernel_rfl))
    have hB1 := (show MapB gq m1 b2 kv_S_notary_entry (Value.int .i64) w1 from hf _ (memI 2 rfl) (by kernel_rfl))
    have hR4 := (show RdS (Kd.int .u8) gq 5 a4 n4 c4 l4 from hf _ (memI 7 rfl) (by kernel_rfl))
    have e0 := (show v0 = AG [encA .u8 d2] from hf _ (memI 12 rfl) (by kernel_rfl))
    subst e0
    have e2 := (show v2 = AG [encA .u8 d33] from hf _ (memI 14 rfl) (by kernel_rfl))
    subst e2
    have e3 := (show v3 = .slice a4 n4 c4 from hf _ (memI 15 rfl) (by kernel_rfl))
    subst e3
    have hcal31 := P.notary_Book_Verify gq m0 m1 l1 w1 d2 d33 l4 a1 n1 c1 a4 n4 c4 b1 b2 hR1 hR4 hB1 hB2 (by omega) (by omega) (by omega) q16 hk31
    refine WP.callC hcal31 (by kernel_rfl) ?_
    rintro _ g59 st59 rfl
    refine WP.dn (Shown.o (v := .bool q16) st59.pure ?_)
    exact ⟨tv, tv, tv, tv, tv, tv, tv, tv, tv, tv, tv, tv, tv, tv, tv, tv, rfl, tv, tv, tv, tv, tv, tv, tv⟩
   ·intro vs gq stq hl hf
    obtain ⟨v0, v1, v2, v3, v4, v5, v6, v7, v8, v9, v10, rfl⟩ := len_k11 hl
    have e4 := (show v4 = .bool q16 from hf _ (memI 16 rfl) (by kernel_rfl))
    subst e4
    refine WP.stl 1 ?_
    refine WP.dn (Shown.ok (v := .bool (!q16)) (by kernel_rfl) (Step.refl _ _) ?_)
    exact ⟨tv, tv, tv, tv, tv, tv, tv, tv, tv, tv, tv, tv, tv, tv, tv, tv, tv, congrArg Value.bool h35, tv, tv, tv, tv, tv, tv⟩
   ·intro vs gq stq hl hf
    obtain ⟨v0, v1, v2, v3, v4, v5, v6, v7, v8, v9, v10, rfl⟩ := len_k11 hl
    have hB4 := (show Box gq (t + 2) b4 37 [encA .u8 d2] [8] from hf _ (memI 3 rfl) (by kernel_rfl))
    have e5 := (show v5 = .bool false from hf _ (memI 17 rfl) (by kernel_rfl))
    subst e5
    refine WP.loadB (v := AG [encA .u8 d2]) hB4 (by kernel_rfl) (by kernel_rfl) ?_
    refine WP.dn (Shown.ok (v := AG [encA .u8 d2]) (by kernel_rfl) (Step.refl _ _) ?_)
    exact ⟨tv, tv, tv, tv, tv, tv, tv, tv, tv, tv, tv, tv, tv, tv, tv, tv, tv, tv, rfl, tv, tv, tv, tv, tv⟩
   ·intro vs gq stq hl hf
    obtain ⟨v0, v1, v2, v3, v4, v5, v6, v7, v8, v9, v10, rfl⟩ := len_k11 hl
    have hB6 := (show Box gq (t + 4) b6 43 [[.int .i64 x4], encA .u8 d6, [.int .i64 x5], [.slice a5 n5 c5], encA .u8 d7, [.int .i64 x6], encA .u8 d8, [.slice a6 n6 c6], [.slice a7 n7 c7]] [1, 8, 1, 1, 8, 1, 8, 1, 1] from hf _ (memI 8 rfl) (by kernel_rfl))
    have e5 := (show v5 = .bool false from hf _ (memI 17 rfl) (by kernel_rfl))
    subst e5
    refine WP.loadB (v := AG [[.int .i64 x4], encA .u8 d6, [.int .i64 x5], [.slice a5 n5 c5], encA .u8 d7, [.int .i64 x6], encA .u8 d8, [.slice a6 n6 c6], [.slice a7 n7 c7]]) hB6 (by kernel_rfl) (by kernel_rfl) ?_
    refine WP.dn (Shown.ok (v := AG [[.int .i64 x4], encA .u8 d6, [.int .i64 x5], [.slice a5 n5 c5], encA .u8 d7, [.int .i64 x6], encA .u8 d8, [.slice a6 n6 c6], [.slice a7 n7 c7]]) (by kernel_rfl) (Step.refl _ _) ?_)
    exact ⟨tv, tv, tv, tv, tv, tv, tv, tv, tv, tv, tv, tv, tv, tv, tv, tv, tv, tv, tv, rfl, tv, tv, tv, tv⟩
   ·intro vs gq stq hl hf
    obtain ⟨v0, v1, v2, v3, v4, v5, v6, v7, v8, v9, v10, rfl⟩ := len_k11 hl
    have hR5 := (show RdS (Kd.int .u8) gq 5 a5 n5 c5 l5 from hf _ (memI 9 rfl) (by kernel_rfl))
    have hR6 := (show RdS (Kd.int .u8) gq 5 a6 n6 c6 l6 from hf _ (memI 10 rfl) (by kernel_rfl))
    have hR7 := (show RdS (Kd.int .u8) gq 5 a7 n7 c7 l7 from hf _ (memI 11 rfl) (by kernel_rfl))
    have e5 := (show v5 = .bool false from hf _ (memI 17 rfl) (by kernel_rfl))
    subst e5
    have e7 := (show v7 = AG [[.int .i64 x4], encA .u8 d6, [.int .i64 x5], [.slice a5 n5 c5], encA .u8 d7, [.int .i64 x6], encA .u8 d8, [.slice a6 n6 c6], [.slice a7 n7 c7]] from hf _ (memI 19 rfl) (by kernel_rfl))
    subst e7
    have hcal32 := P.punish_Thing_Digest gq x4 d6 x5 l5 d7 x6 d8 l6 l7 a5 n5 c5 a6 n6 c6 a7 n7 c7 hR5 hR6 hR7 d34 hk32
    refine WP.callC hcal32 (by kernel_rfl) ?_
    rintro _ g61 st61 rfl
    refine WP.dn (Shown.o (v := AG [encA .u8 d34]) st61.pure ?_)
    exact ⟨tv, tv, tv, tv, tv, tv, tv, tv, tv, tv, tv, tv, tv, tv, tv, tv, tv, tv, tv, tv, rfl, tv, tv, tv⟩
   ·intro vs gq stq hl hf
    obtain ⟨v0, v1, v2, v3, v4, v5, v6, v7, v8, v9, v10, rfl⟩ := len_k11 hl
    have hB6 := (show Box gq (t + 4) b6 43 [[.int .i64 x4], encA .u8 d6, [.int .i64 x5], [.slice a5 n5 c5], encA .u8 d7, [.int .i64 x6], encA .u8 d8, [.slice a6 n6 c6], [.slice a7 n7 c7]] [1, 8, 1, 1, 8, 1, 8, 1, 1] from hf _ (memI 8 rfl) (by kernel_rfl))
    have e5 := (show v5 = .bool false from hf _ (memI 17 rfl) (by kernel_rfl))
    subst e5
    refine WP.loadB (v := .slice a7 n7 c7) hB6 (by kernel_rfl) (by kernel_rfl) ?_
    refine WP.dn (Shown.ok (v := .slice a7 n7 c7) (by kernel_rfl) (Step.refl _ _) ?_)
    exact ⟨tv, tv, tv, tv, tv, tv, tv, tv, tv, tv, tv, tv, tv, tv, tv, tv, tv, tv, tv, tv, tv, rfl, tv, tv⟩
   ·intro vs gq stq hl hf
    obtain ⟨v0, v1, v2, v3, v4, v5, v6, v7, v8, v9, v10, rfl⟩ := len_k11 hl
    have hB2 := (show Box gq m0 b1 121 [[.slice a1 n1 c1], [.map (some b2)]] [1, 1] from hf _ (memI 0 rfl) (by kernel_rfl))
    have hR1 := (show RdS k_S_notary_entry gq 126 a1 n1 c1 l1 from hf _ (memI 1 rfl) (by kernel_rfl))
    have hB1 := (show MapB gq m1 b2 kv_S_notary_entry (Value.int .i64) w1 from hf _ (memI 2 rfl) (by kernel_rfl))
    have hR7 := (show RdS (Kd.int .u8) gq 5 a7 n7 c7 l7 from hf _ (memI 11 rfl) (by kernel_rfl))
    have e5 := (show v5 = .bool false from hf _ (memI 17 rfl) (by kernel_rfl))
    subst e5
    have e6 := (show v6 = AG [encA .u8 d2] from hf _ (memI 18 rfl) (by kernel_rfl))
    subst e6
    have e8 := (show v8 = AG [encA .u8 d34] from hf _ (memI 20 rfl) (by kernel_rfl))
    subst e8
    have e9 := (show v9 = .slice a7 n7 c7 from hf _ (memI 21 rfl) (by kernel_rfl))
    subst e9
    have hcal33 := P.notary_Book_Verify gq m0 m1 l1 w1 d2 d34 l7 a1 n1 c1 a7 n7 c7 b1 b2 hR1 hR7 hB1 hB2 (by omega) (by omega) (by omega) q17 hk33
    refine WP.callC hcal33 (by kernel_rfl) ?_
    rintro _ g62 st62 rfl
    refine WP.dn (Shown.o (v := .bool q17) st62.pure ?_)
    exact ⟨tv, tv, tv, tv, tv, tv, tv, tv, tv, tv, tv, tv, tv, tv, tv, tv, tv, tv, tv, tv, tv, tv, rfl, tv⟩
  intro vs g63 st63 hl hf
  obtain ⟨v0, v1, v2, v3, v4, v5, v6, v7, v8, v9, v10, rfl⟩ := len_k11 hl
  have e5 := (show v5 = .bool false from hf _ (memI 17 rfl) (by kernel_rfl))
  subst e5
  have e10 := (show v10 = .bool q17 from hf _ (memI 22 rfl) (by kernel_rfl))
  subst e10
  replace tot := tot.trans st63.toNo.pure
  refine NX.post ?_
  exact ⟨(!q17), ⟨by kernel_rfl, by kernel_rfl⟩, tot, hs⟩
 clear tot hs hB2 hR1 hB1 hB4 hB5 hR2 hR3 hR4 hB6 hR5 hR6 hR7
 rintro tm g ⟨q15, hF, tot, hs⟩
 clear ds
 obtain ⟨ds, rfl⟩ := hF.open
 clear hF
 unfold F.punish_Twice.c3 at hs
 refine CP.cond (b := q15) (by kernel_rfl) (fun h34 => ?_) (fun h34 => ?_)
 ·replace hs := of_if_t hs h34
  refine CP.seqR ?_
  refine WP.stl 1 ?_
  refine WP.dn ?_
  refine NX.then_n ?_
  refine CP.ret ?_
  refine NX.block_r ?_
  refine NX.then_r ?_
  replace hs := Option.some.inj hs
  obtain rfl := hs
  exact NX.fin (v := .int .i64 16) (Res.still (by kernel_rfl)) tot htL rfl
 replace hs := of_if_f hs h34
 refine CP.skip ?_
 refine NX.block_n ?_
 refine NX.then_n ?_
 refine CP.seqR ?_
 refine WP.stl 1 ?_
 refine WP.dn ?_
 refine NX.then_n ?_
 refine CP.ret ?_
 replace hs := Option.some.inj hs
 obtain rfl := hs
 exact NX.fin (v := .int .i64 0) (Res.still (by kernel_rfl)) tot htL rfl
end Go.Proofs.Ytlnockimfgfcgaa
