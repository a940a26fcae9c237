/-
  Walks, written by program: each Go function computes the plain function of its name, in whatever world its arguments' facts hold.
-/
import Derived.Test.YtlnockimfgfcgaaWPt1
namespace Go.Proofs.Ytlnockimfgfcgaa
open Go.RowKit Go.Lab
attribute [local irreducible] WP CP NX wpList Code.wp Calls
set_option maxRecDepth 100000
set_option maxHeartbeats 4000000
set_option linter.unusedVariables false

def F.hash_Of (l1 : List Int) : Option ((Arr Int 8)) := ((F.hash_begin 1).bind fun (x1, x2, x3, x4) => ((F.hash_state_bytes x1 x2 x3 x4 l1).bind fun (x5, x6, x7, x8) => ((F.hash_state_digest x5 x6 x7 x8).bind fun d1 => (some d1))))
theorem P.hash_Of (g0 : GW) (l1 : List Int) (a1 : Option Addr) (n1 : Nat) (c1 : Nat) (hR1 : RdS (Kd.int .u8) g0 5 a1 n1 c1 l1) (o1 : Arr Int 8) (hs : F.hash_Of l1 = some o1) :
  Calls Try.prog 85 #[.slice a1 n1 c1] g0.w (Ret NoM g0 fun v g => v = AG [encA .u8 o1]) := by
 refine calls_of (args := [.slice a1 n1 c1]) Try.func85 rfl (0) ?_
 intro t ht htL
 refine ⟨_, rfl, ?_⟩
 refine CP.refr 8 [(0, .slice a1 n1 c1)] (by kernel_rfl) (by kernel_rfl) ?_
 intro ds
 have tot : Step (fun l => NoM l ∨ t ≤ l) g0 g0 := Step.refl _ _
 unfold F.hash_Of at hs
 refine CP.seqR ?_
 refine WP.alloc (T := 37) (t + 1) [encA .u8 (zA 8)] [8] (by kernel_rfl) (by simp [len_encA]) ?_
 intro g1 b1 st1 hB1
 replace hR1 := hR1.mono st1 (fun x => x)
 replace tot := tot.trans st1.pure
 refine WP.dn ?_
 refine NX.then_n ?_
 refine CP.seqR ?_
 replace hs := Option.bind_eq_some_iff.1 hs
 obtain ⟨⟨x1, x2, x3, x4⟩, hk1, hs⟩ := hs
 dsimp only at hs
 have hcal1 := P.hash_begin g1 1 x1 x2 x3 x4 hk1
 refine WP.callC hcal1 (by kernel_rfl) ?_
 rintro _ g2 st2 rfl
 replace hR1 := hR1.mono st2 (fun x => x)
 replace hB1 := hB1.mono st2 (fun x => x)
 replace tot := tot.trans st2.pure
 refine WP.alloc (T := 161) (t + 2) [[.int .u64 0], [.int .u64 0], [.int .u64 0], [.int .u64 0]] [1, 1, 1, 1] (by kernel_rfl) rfl ?_
 intro g3 b2 st3 hB2
 replace hR1 := hR1.mono st3 (fun x => x)
 replace hB1 := hB1.mono st3 (fun x => x)
 replace tot := tot.trans st3.pure
 refine WP.storeB (ty := 161) (off := 0) (v := AG [[.int .u64 x1], [.int .u64 x2], [.int .u64 x3], [.int .u64 x4]]) hB2 [[.int .u64 x1], [.int .u64 x2], [.int .u64 x3], [.int .u64 x4]] [1, 1, 1, 1] (by kernel_rfl) (by kernel_rfl) rfl (by kernel_rfl) [[.int .u64 x1], [.int .u64 x2], [.int .u64 x3], [.int .u64 x4]] (by kernel_rfl) (.one rfl (.one rfl (.one rfl (.one rfl .nil)))) ?_
 intro g4 st4 hB3
 replace hR1 := hR1.mono st4 (WL.no1 (by omega))
 replace hB1 := hB1.mono st4 (WL.no1 (by omega))
 replace tot := tot.trans (st4.up1 (.inr (by omega)))
 clear hB2
 have hB2 := hB3
 clear hB3
 refine WP.dn ?_
 refine NX.then_n ?_
 refine CP.seqR ?_
 refine WP.stl 1 ?_
 replace hs := Option.bind_eq_some_iff.1 hs
 obtain ⟨⟨x5, x6, x7, x8⟩, hk2, hs⟩ := hs
 dsimp only at hs
 have hcal2 := P.hash_state_bytes g4 (t + 2) x1 x2 x3 x4 l1 a1 n1 c1 b2 hR1 hB2 (by omega) x5 x6 x7 x8 hk2
 refine WP.callC hcal2 (by kernel_rfl) ?_
 rintro _ g5 st5 ⟨rfl, hB4⟩
 replace hR1 := hR1.mono st5 (WL.no1 (by omega))
 replace hB1 := hB1.mono st5 (WL.no1 (by omega))
 replace tot := tot.trans (st5.up1 (.inr (by omega)))
 clear hB2
 have hB2 := hB4
 clear hB4
 refine WP.dn ?_
 refine NX.then_n ?_
 refine CP.seqR ?_
 replace hs := Option.bind_eq_some_iff.1 hs
 obtain ⟨d1, hk3, hs⟩ := hs
 have hcal3 := P.hash_state_digest g5 (t + 2) x5 x6 x7 x8 b2 hB2 (by omega) d1 hk3
 refine WP.callC hcal3 (by kernel_rfl) ?_
 rintro _ g6 st6 rfl
 replace hB1 := hB1.mono st6 (fun x => x)
 replace hB2 := hB2.mono st6 (fun x => x)
 replace tot := tot.trans st6.pure
 refine WP.storeB (ty := 37) (off := 0) (v := AG [encA .u8 d1]) hB1 [encA .u8 d1] [8] (by kernel_rfl) (by kernel_rfl) (by simp [len_encA]) (by kernel_rfl) [encA .u8 d1] (by kernel_rfl) (.arr .nil) ?_
 intro g7 st7 hB5
 replace hB2 := hB2.mono st7 (WL.no1 (by omega))
 replace tot := tot.trans (st7.up1 (.inr (by omega)))
 clear hB1
 have hB1 := hB5
 clear hB5
 refine WP.dn ?_
 refine NX.then_n ?_
 refine CP.ret ?_
 replace hs := Option.some.inj hs
 obtain rfl := hs
 exact NX.fin (v := AG [encA .u8 d1]) (Res.one rfl (RV.box (agg := true) (size := 8) (rs := [encA .u8 d1]) hB1 (by kernel_rfl) (by kernel_rfl) (by kernel_rfl) (by kernel_rfl))) tot htL rfl
def F.state_of (s1 : ByteArray) (d1 : Arr Int 8) (l1 : List (List Int)) : Option ((Arr Int 8)) := ((F.octet_PutText ([]) s1).bind fun l3 => ((F.octet_PutBytes l3 d1.1).bind fun l4 => ((F.slices_Concat_byte_byte l1).bind fun l5 => (if l4.length + l5.length ≤ 140737488355328 then ((F.hash_Of (l4 ++ l5)).bind fun d2 => (some d2)) else none))))
theorem P.state_of (g0 : GW) (s1 : ByteArray) (d1 : Arr Int 8) (l1 : List (List Int)) (a1 : Option Addr) (n1 : Nat) (c1 : Nat) (hR1 : RdS (Kd.slice 5 (Kd.int .u8)) g0 33 a1 n1 c1 l1) (o1 : Arr Int 8) (hs : F.state_of s1 d1 l1 = some o1) :
  Calls Try.prog 78 #[.string s1, AG [encA .u8 d1], .slice a1 n1 c1] g0.w (Ret NoM g0 fun v g => v = AG [encA .u8 o1]) := by
 refine calls_of (args := [.string s1, AG [encA .u8 d1], .slice a1 n1 c1]) Try.func78 rfl (0) ?_
 intro t ht htL
 refine ⟨_, rfl, ?_⟩
 refine CP.refr 17 [(0, .string s1), (1, AG [encA .u8 d1]), (2, .slice a1 n1 c1)] (by kernel_rfl) (by kernel_rfl) ?_
 intro ds
 have tot : Step (fun l => NoM l ∨ t ≤ l) g0 g0 := Step.refl _ _
 unfold F.state_of at hs
 refine CP.seqR ?_
 refine WP.alloc (T := 37) (t + 1) [encA .u8 d1] [8] (by kernel_rfl) (by simp [len_encA]) ?_
 intro g1 b1 st1 hB1
 replace hR1 := hR1.mono st1 (fun x => x)
 replace tot := tot.trans st1.pure
 refine WP.alloc (T := 37) (t + 2) [encA .u8 (zA 8)] [8] (by kernel_rfl) (by simp [len_encA]) ?_
 intro g2 b2 st2 hB2
 replace hR1 := hR1.mono st2 (fun x => x)
 replace hB1 := hB1.mono st2 (fun x => x)
 replace tot := tot.trans st2.pure
 refine WP.dn ?_
 refine NX.then_n ?_
 refine CP.seq ?_
 obtain ⟨g4, hw1, st4, hnew⟩ := hB1.relab 0
 refine CP.regw hw1 ?_
 replace hR1 := hR1.mono st4 (WL.no1 (by omega))
 replace hB2 := hB2.mono st4 (WL.no1 (by omega))
 replace tot := tot.trans (st4.up1 (.inr (by omega)))
 clear hB1
 have hB1 := hnew
 clear hnew
 replace hs := Option.bind_eq_some_iff.1 hs
 obtain ⟨l3, hk2, hs⟩ := hs
 replace hs := Option.bind_eq_some_iff.1 hs
 obtain ⟨l4, hk3, hs⟩ := hs
 refine CP.drawL (by kernel_rfl) [1, 2, 3] [[], [0], [], [0, 1, 2], [0, 1, 2, 3]] [⟨none, [], [], fun l g => Box g 0 b1 37 [encA .u8 d1] [8]⟩, ⟨some 0, [0], [0], fun l g => ∃ (a4 : Option Addr) (c3 : Nat), l.getD 0 undef = .slice a4 l3.length c3 ∧ OwnS (Kd.int .u8) g (t + 4) 5 a4 l3.length c3 l3⟩, ⟨some 1, [], [1], fun l g => ∃ (a5 : Option Addr), l.getD 0 undef = .slice a5 ((8 : Int).toNat - (0 : Int).toNat) (8 - (0 : Int).toNat) ∧ RdS (Kd.int .u8) g 5 a5 ((8 : Int).toNat - (0 : Int).toNat) (8 - (0 : Int).toNat) d1.1⟩, ⟨some 2, [], [2], fun l g => ∃ (a6 : Option Addr) (c4 : Nat), l.getD 0 undef = .slice a6 l4.length c4 ∧ OwnS (Kd.int .u8) g (t + 5) 5 a6 l4.length c4 l4⟩, ⟨some 2, [], [0], fun l g => ∃ (a4 : Option Addr) (c3 : Nat), l.getD 0 undef = .slice a4 l3.length c3 ∧ RdS (Kd.int .u8) g 5 a4 l3.length c3 l3⟩] [[], [], [0]] [(t + 4)] [0] [4] (by kernel_rfl) (by simp <;> omega) (by simp) ⟨fun _ _ _ _ st h0 hl hj hB1 => (hB1.mono st (fun h => absurd (hl _ h) (by simp <;> omega))), fun _ _ _ _ st h0 hl hj ⟨a4, c3, e0, hR4⟩ => ⟨a4, c3, e0, (hR4.mono st h0 (hj 0 (by simp) _ rfl))⟩, fun _ _ _ _ st h0 hl hj ⟨a5, e1, hR5⟩ => ⟨a5, e1, (RdS.mono (e := 5) hR5 st h0)⟩, fun _ _ _ _ st h0 hl hj ⟨a6, c4, e2, hR6⟩ => ⟨a6, c4, e2, (hR6.mono st h0 (fun h => absurd (hl _ h) (by simp <;> omega)))⟩, fun _ _ _ _ st h0 hl hj ⟨a4, c3, e0, hR4⟩ => ⟨a4, c3, e0, (RdS.mono (e := 5) hR4 st h0)⟩, tv⟩ ⟨hB1, tv, tv, tv, tv, tv⟩ (by kernel_rfl) (fun vs => by kernel_rfl) ?_ ?_ ?_
 ·intro j hj
  have hq : j = 0 := by have h : j < 1 := hj; omega
  rcases hq with rfl
  ·intro vs gq stq hl hf
   obtain ⟨v0, v1, v2, rfl⟩ := len_k3 hl
   obtain ⟨a6, c4, e2, hR6⟩ := (show ∃ (a6 : Option Addr) (c4 : Nat), v2 = .slice a6 l4.length c4 ∧ OwnS (Kd.int .u8) gq (t + 5) 5 a6 l4.length c4 l4 from hf _ (memI 3 rfl) (by kernel_rfl))
   subst e2
   show Option.isSome _ = true
   kernel_rfl
 ·intro j hj
  have hq : j = 0 ∨ j = 1 ∨ j = 2 := by have h : j < 3 := hj; omega
  rcases hq with rfl | rfl | rfl
  ·intro vs gq stq hl hf
   obtain ⟨v0, v1, v2, rfl⟩ := len_k3 hl
   have hcal2 := P.octet_PutText gq (t + 4) ([]) s1 none 0 0 (RdS.nil _ _ _) l3 hk2
   refine WP.callC hcal2 (by kernel_rfl) ?_
   rintro _ g5 st5 ⟨a4, n3, c3, rfl, hR4⟩
   obtain rfl := hR4.len
   refine WP.dn (Shown.o (v := .slice a4 l3.length c3) st5.pure ?_)
   exact ⟨tv, ⟨a4, c3, rfl, hR4⟩, tv, tv, tv, tv⟩
  ·intro vs gq stq hl hf
   obtain ⟨v0, v1, v2, rfl⟩ := len_k3 hl
   have hB1 := (show Box gq 0 b1 37 [encA .u8 d1] [8] from hf _ (memI 0 rfl) (by kernel_rfl))
   refine WP.sliceZ (o := 0) (m := 8) (k := .u8) (d := d1) (e := 5) (lo := none) (hi := none) hB1 (by kernel_rfl) (0 : Int) (8 : Int) (by kernel_rfl) (.inl ⟨rfl, rfl⟩) (.inl ⟨rfl, rfl⟩) (by decide) ?_
   intro a5 hR5
   rw [sliceI_all (m := 8) (d := d1) (j := (8 : Int)) rfl] at hR5
   refine WP.dn (Shown.ok (v := .slice a5 ((8 : Int).toNat - (0 : Int).toNat) (8 - (0 : Int).toNat)) (by kernel_rfl) (Step.refl _ _) ?_)
   exact ⟨tv, tv, ⟨a5, rfl, hR5⟩, tv, tv, tv⟩
  ·intro vs gq stq hl hf
   obtain ⟨v0, v1, v2, rfl⟩ := len_k3 hl
   obtain ⟨a4, c3, e0, hR4⟩ := (show ∃ (a4 : Option Addr) (c3 : Nat), v0 = .slice a4 l3.length c3 ∧ OwnS (Kd.int .u8) gq (t + 4) 5 a4 l3.length c3 l3 from hf _ (memI 1 rfl) (by kernel_rfl))
   subst e0
   obtain ⟨a5, e1, hR5⟩ := (show ∃ (a5 : Option Addr), v1 = .slice a5 ((8 : Int).toNat - (0 : Int).toNat) (8 - (0 : Int).toNat) ∧ RdS (Kd.int .u8) gq 5 a5 ((8 : Int).toNat - (0 : Int).toNat) (8 - (0 : Int).toNat) d1.1 from hf _ (memI 2 rfl) (by kernel_rfl))
   subst e1
   obtain ⟨gf1, hwf1, stf1, hnew⟩ := hR4.freeze (by omega)
   refine WP.regw hwf1 ?_
   replace hR5 := hR5.mono stf1 (WL.no (by simp <;> omega))
   clear hR4
   have hR4 := hnew
   clear hnew
   have hcal3 := P.octet_PutBytes gf1 (t + 5) l3 d1.1 a4 l3.length c3 a5 ((8 : Int).toNat - (0 : Int).toNat) (8 - (0 : Int).toNat) hR4 hR5 l4 hk3
   refine WP.callC hcal3 (by kernel_rfl) ?_
   rintro _ g6 st6 ⟨a6, n4, c4, rfl, hR6⟩
   obtain rfl := hR6.len
   replace st6 : Step (WL []) _ _ := Step.pure st6
   have hz1 := hR4.mono st6 (WL.no (by simp <;> omega))
   replace st6 := Step.both stf1 st6
   refine WP.dn (Shown.o (v := .slice a6 l4.length c4) st6 ?_)
   exact ⟨tv, tv, tv, ⟨a6, c4, rfl, hR6⟩, ⟨a4, c3, rfl, hz1⟩, tv⟩
 intro vs g7 st7 hl hf
 obtain ⟨v0, v1, v2, rfl⟩ := len_k3 hl
 obtain ⟨a6, c4, e2, hR6⟩ := (show ∃ (a6 : Option Addr) (c4 : Nat), v2 = .slice a6 l4.length c4 ∧ OwnS (Kd.int .u8) g7 (t + 5) 5 a6 l4.length c4 l4 from hf _ (memI 3 rfl) (by kernel_rfl))
 subst e2
 replace hR1 := hR1.mono st7 (WL.no1 (by omega))
 replace hB2 := hB2.mono st7 (WL.no1 (by omega))
 replace tot := tot.trans (st7.up1 (.inr (by omega)))
 refine NX.then_n ?_
 refine CP.refr 17 [(2, .slice a1 n1 c1), (6, .pointer (some ⟨b2, 0, none⟩)), (7, .slice a6 l4.length c4)] (by kernel_rfl) (by kernel_rfl) ?_
 clear ds
 intro ds
 refine CP.seqR ?_
 refine WP.stl 2 ?_
 replace hs := Option.bind_eq_some_iff.1 hs
 obtain ⟨l5, hk4, hs⟩ := hs
 have hcal4 := P.slices_Concat_byte_byte g7 (t + 6) l1 a1 n1 c1 hR1 l5 hk4
 refine WP.callC hcal4 (by kernel_rfl) ?_
 rintro _ g8 st8 ⟨a7, n5, c5, rfl, hR7⟩
 replace hR1 := hR1.mono st8 (fun x => x)
 replace hB2 := hB2.mono st8 (fun x => x)
 replace hR6 := hR6.mono st8 (fun x => x) (fun x => x)
 replace tot := tot.trans st8.pure
 by_cases hc1 : l4.length + l5.length ≤ 140737488355328
 case neg => rw [if_neg hc1] at hs; cases hs
 replace hs := of_if_p hs hc1
 refine WP.append (kd := (Kd.int .u8)) (t := 33) (e := 5) (bytes := 1) (a2 := a7) (c2 := c5) hR6 hR7.src hR7.len (by kernel_rfl) (by kernel_rfl) (by omega) (by simp only [maxLen]; omega) (by omega) ?_
 intro g9 a8 c6 st9 hR8
 replace hR1 := hR1.mono st9 (WL.no1 (by omega))
 replace hB2 := hB2.mono st9 (WL.no1 (by omega))
 replace hR7 := hR7.mono st9 (WL.no1 (by omega)) (WL.no1 (by omega))
 replace tot := tot.trans (st9.up1 (.inr (by omega)))
 replace hs := Option.bind_eq_some_iff.1 hs
 obtain ⟨d2, hk5, hs⟩ := hs
 have hS1 : 0 ∉ ([(t + 5)] : List Nat) := by simp <;> omega
 have stl1 := GW.lend_step g9 [(t + 5)]
 have hRl1 := hR8.lendTo hS1 (by simp)
 refine WP.regw (g' := GW.lend g9 [(t + 5)]) rfl ?_
 have hcal5 := P.hash_Of (GW.lend g9 [(t + 5)]) (l4 ++ l5) a8 (l4.length + n5) c6 hRl1 d2 hk5
 refine WP.callC hcal5 (by kernel_rfl) ?_
 rintro _ g10 st10 rfl
 have st11 := (GW.back_step st10).lentS
 have hO1 := hR8.backTo hS1 (by simp) st10 (fun x => x)
 refine WP.regw (g' := GW.back g9 g10 [(t + 5)]) rfl ?_
 generalize GW.back g9 g10 [(t + 5)] = g11 at *
 replace hR1 := hR1.mono st11 (WL.no1 (by omega))
 replace hB2 := hB2.mono st11 (WL.no1 (by omega))
 replace hR7 := hR7.mono st11 (WL.no1 (by omega)) (WL.no1 (by omega))
 replace tot := tot.trans (st11.up1 (.inr (by omega)))
 clear hR8
 have hR8 : OwnS (Kd.int .u8) g11 (t + 5) 5 a8 (l4.length + n5) c6 (l4 ++ l5) := hO1
 clear hO1
 refine WP.storeB (ty := 37) (off := 0) (v := AG [encA .u8 d2]) hB2 [encA .u8 d2] [8] (by kernel_rfl) (by kernel_rfl) (by simp [len_encA]) (by kernel_rfl) [encA .u8 d2] (by kernel_rfl) (.arr .nil) ?_
 intro g12 st12 hB3
 replace hR1 := hR1.mono st12 (WL.no1 (by omega))
 replace hR7 := hR7.mono st12 (WL.no1 (by omega)) (WL.no1 (by omega))
 replace hR8 := hR8.mono st12 (WL.no1 (by omega)) (WL.no1 (by omega))
 replace tot := tot.trans (st12.up1 (.inr (by omega)))
 clear hB2
 have hB2 := hB3
 clear hB3
 refine WP.dn ?_
 refine NX.then_n ?_
 refine CP.ret ?_
 replace hs := Option.some.inj hs
 obtain rfl := hs
 exact NX.fin (v := AG [encA .u8 d2]) (Res.one rfl (RV.box (agg := true) (size := 8) (rs := [encA .u8 d2]) hB2 (by kernel_rfl) (by kernel_rfl) (by kernel_rfl) (by kernel_rfl))) tot htL rfl
def N.state_State_Digest_0 : List (List Nat) := [[], [0], [], [2], [2, 3], [], [5], [2, 3, 4, 5, 6], [2, 3, 4, 5, 6, 7], [0, 1, 2, 3, 4, 5, 6, 7, 8], [0, 1, 2, 3, 4, 5, 6, 7, 8, 9]]
def F.state_State_Digest (d1 : Arr Int 8) (x1 : Int) (l1 : List Int) : Option ((Arr Int 8)) := ((F.state_number x1).bind fun l2 => ((F.octet_PutBytes ([]) l1).bind fun l3 => ((F.state_of str_0 d1 ([l2, l3])).bind fun d2 => (some d2))))
theorem P.state_State_Digest (g0 : GW) (d1 : Arr Int 8) (x1 : Int) (l1 : List Int) (a1 : Option Addr) (n1 : Nat) (c1 : Nat) (hR1 : RdS (Kd.int .u8) g0 5 a1 n1 c1 l1) (o1 : Arr Int 8) (hs : F.state_State_Digest d1 x1 l1 = some o1) :
  Calls Try.prog 58 #[AG [encA .u8 d1, [.int .i64 x1], [.slice a1 n1 c1]]] g0.w (Ret NoM g0 fun v g => v = AG [encA .u8 o1]) := by
 refine calls_of (args := [AG [encA .u8 d1, [.int .i64 x1], [.slice a1 n1 c1]]]) Try.func58 rfl (0) ?_
 intro t ht htL
 refine ⟨_, rfl, ?_⟩
 refine CP.refr 13 [(0, AG [encA .u8 d1, [.int .i64 x1], [.slice a1 n1 c1]])] (by kernel_rfl) (by kernel_rfl) ?_
 intro ds
 have tot : Step (fun l => NoM l ∨ t ≤ l) g0 g0 := Step.refl _ _
 unfold F.state_State_Digest at hs
 refine CP.seqR ?_
 refine WP.alloc (T := 39) (t + 1) [encA .u8 d1, [.int .i64 x1], [.slice a1 n1 c1]] [8, 1, 1] (by kernel_rfl) (by simp [len_encA]) ?_
 intro g1 b1 st1 hB1
 replace hR1 := hR1.mono st1 (fun x => x)
 replace tot := tot.trans st1.pure
 refine WP.alloc (T := 37) (t + 2) [encA .u8 (zA 8)] [8] (by kernel_rfl) (by simp [len_encA]) ?_
 intro g2 b2 st2 hB2
 replace hR1 := hR1.mono st2 (fun x => x)
 replace hB1 := hB1.mono st2 (fun x => x)
 replace tot := tot.trans st2.pure
 refine WP.dn ?_
 refine NX.then_n ?_
 refine CP.seq ?_
 replace hs := Option.bind_eq_some_iff.1 hs
 obtain ⟨l2, hk1, hs⟩ := hs
 replace hs := Option.bind_eq_some_iff.1 hs
 obtain ⟨l3, hk2, hs⟩ := hs
 replace hs := Option.bind_eq_some_iff.1 hs
 obtain ⟨d2, hk3, hs⟩ := hs
 refine CP.drawL (by kernel_rfl) [1, 3, 4, 6, 7, 8, 9, 10] N.state_State_Digest_0 [⟨none, [], [], fun l g => Box g (t + 1) b1 39 [encA .u8 d1, [.int .i64 x1], [.slice a1 n1 c1]] [8, 1, 1]⟩, ⟨none, [], [], fun l g => RdS (Kd.int .u8) g 5 a1 n1 c1 l1⟩, ⟨none, [3], [], fun l g => Box g (t + 2) b2 37 [encA .u8 (zA 8)] [8]⟩, ⟨some 0, [], [0], fun l g => l.getD 0 undef = AG [encA .u8 d1]⟩, ⟨some 1, [], [1], fun l g => l.getD 0 undef = .int .i64 x1⟩, ⟨some 2, [1], [2], fun l g => ∃ (a2 : Option Addr) (c2 : Nat), l.getD 0 undef = .slice a2 l2.length c2 ∧ OwnS (Kd.int .u8) g (t + 3) 5 a2 l2.length c2 l2⟩, ⟨some 3, [], [3], fun l g => l.getD 0 undef = .slice a1 n1 c1⟩, ⟨some 4, [0], [4], fun l g => ∃ (a3 : Option Addr) (c3 : Nat), l.getD 0 undef = .slice a3 l3.length c3 ∧ OwnS (Kd.int .u8) g (t + 4) 5 a3 l3.length c3 l3⟩, ⟨some 5, [2], [5], fun l g => ∃ (a4 : Option Addr), l.getD 0 undef = .slice a4 2 2 ∧ OwnS (Kd.slice 5 (Kd.int .u8)) g (t + 5) 33 a4 2 2 ([l2, l3])⟩, ⟨some 5, [], [2], fun l g => ∃ (a2 : Option Addr) (c2 : Nat), l.getD 0 undef = .slice a2 l2.length c2 ∧ RdS (Kd.int .u8) g 5 a2 l2.length c2 l2⟩, ⟨some 5, [], [4], fun l g => ∃ (a3 : Option Addr) (c3 : Nat), l.getD 0 undef = .slice a3 l3.length c3 ∧ RdS (Kd.int .u8) g 5 a3 l3.length c3 l3⟩, ⟨some 6, [], [6], fun l g => l.getD 0 undef = AG [encA .u8 d2]⟩, ⟨some 6, [2], [5], fun l g => ∃ (a4 : Option Addr), l.getD 0 undef = .slice a4 2 2 ∧ OwnS (Kd.slice 5 (Kd.int .u8)) g (t + 5) 33 a4 2 2 ([l2, l3])⟩, ⟨some 7, [3], [], fun l g => Box g (t + 2) b2 37 [encA .u8 d2] [8]⟩] [[], [], [], [], [], [0, 1], [2], [3]] [(t + 4), (t + 3), (t + 5), (t + 2)] [0, 2, 5] [] (by kernel_rfl) (by simp <;> omega) (by simp <;> omega) ⟨fun _ _ _ _ st h0 hl hj hB1 => (hB1.mono st (fun h => absurd (hl _ h) (by simp <;> omega))), fun _ _ _ _ st h0 hl hj hR1 => (RdS.mono (e := 5) hR1 st h0), fun _ _ _ _ st h0 hl hj hB2 => (hB2.mono st (hj 3 (by simp) _ rfl)), fun _ _ _ _ st h0 hl hj e0 => e0, fun _ _ _ _ st h0 hl hj e1 => e1, fun _ _ _ _ st h0 hl hj ⟨a2, c2, e2, hR2⟩ => ⟨a2, c2, e2, (hR2.mono st h0 (hj 1 (by simp) _ rfl))⟩, fun _ _ _ _ st h0 hl hj e3 => e3, fun _ _ _ _ st h0 hl hj ⟨a3, c3, e4, hR3⟩ => ⟨a3, c3, e4, (hR3.mono st h0 (hj 0 (by simp) _ rfl))⟩, fun _ _ _ _ st h0 hl hj ⟨a4, e5, hR4⟩ => ⟨a4, e5, (hR4.mono st h0 (hj 2 (by simp) _ rfl))⟩, fun _ _ _ _ st h0 hl hj ⟨a2, c2, e2, hR2⟩ => ⟨a2, c2, e2, (RdS.mono (e := 5) hR2 st h0)⟩, fun _ _ _ _ st h0 hl hj ⟨a3, c3, e4, hR3⟩ => ⟨a3, c3, e4, (RdS.mono (e := 5) hR3 st h0)⟩, fun _ _ _ _ st h0 hl hj e6 => e6, fun _ _ _ _ st h0 hl hj ⟨a4, e5, hR4⟩ => ⟨a4, e5, (hR4.mono st h0 (hj 2 (by simp) _ rfl))⟩, fun _ _ _ _ st h0 hl hj hB2 => (hB2.mono st (hj 3 (by simp) _ rfl)), tv⟩ ⟨hB1, hR1, hB2, tv, tv, tv, tv, tv, tv, tv, tv, tv, tv, tv, tv⟩ (by kernel_rfl) (fun vs => by kernel_rfl) ?_ ?_ ?_
 ·intro j hj; exact absurd hj (by simp)
 ·intro j hj
  have hq : j = 0 ∨ j = 1 ∨ j = 2 ∨ j = 3 ∨ j = 4 ∨ j = 5 ∨ j = 6 ∨ j = 7 := by have h : j < 8 := hj; omega
  rcases hq with rfl | rfl | rfl | rfl | rfl | rfl | rfl | rfl
  ·intro vs gq stq hl hf
   obtain ⟨v0, v1, v2, v3, v4, v5, v6, v7, rfl⟩ := len_k8 hl
   have hB1 := (show Box gq (t + 1) b1 39 [encA .u8 d1, [.int .i64 x1], [.slice a1 n1 c1]] [8, 1, 1] from hf _ (memI 0 rfl) (by kernel_rfl))
   refine WP.loadB (v := AG [encA .u8 d1]) hB1 (by kernel_rfl) (by kernel_rfl) ?_
   refine WP.dn (Shown.ok (v := AG [encA .u8 d1]) (by kernel_rfl) (Step.refl _ _) ?_)
   exact ⟨tv, tv, tv, rfl, tv, tv, tv, tv, tv, tv, tv, tv, tv, tv, tv⟩
  ·intro vs gq stq hl hf
   obtain ⟨v0, v1, v2, v3, v4, v5, v6, v7, rfl⟩ := len_k8 hl
   have hB1 := (show Box gq (t + 1) b1 39 [encA .u8 d1, [.int .i64 x1], [.slice a1 n1 c1]] [8, 1, 1] from hf _ (memI 0 rfl) (by kernel_rfl))
   refine WP.loadB (v := .int .i64 x1) hB1 (by kernel_rfl) (by kernel_rfl) ?_
   refine WP.dn (Shown.ok (v := .int .i64 x1) (by kernel_rfl) (Step.refl _ _) ?_)
   exact ⟨tv, tv, tv, tv, rfl, tv, tv, tv, tv, tv, tv, tv, tv, tv, tv⟩
  ·intro vs gq stq hl hf
   obtain ⟨v0, v1, v2, v3, v4, v5, v6, v7, rfl⟩ := len_k8 hl
   have e1 := (show v1 = .int .i64 x1 from hf _ (memI 4 rfl) (by kernel_rfl))
   subst e1
   have hcal1 := P.state_number gq (t + 3) x1 l2 hk1
   refine WP.callC hcal1 (by kernel_rfl) ?_
   rintro _ g3 st3 ⟨a2, n2, c2, rfl, hR2⟩
   obtain rfl := hR2.len
   refine WP.dn (Shown.o (v := .slice a2 l2.length c2) st3.pure ?_)
   exact ⟨tv, tv, tv, tv, tv, ⟨a2, c2, rfl, hR2⟩, tv, tv, tv, tv, tv, tv, tv, tv, tv⟩
  ·intro vs gq stq hl hf
   obtain ⟨v0, v1, v2, v3, v4, v5, v6, v7, rfl⟩ := len_k8 hl
   have hB1 := (show Box gq (t + 1) b1 39 [encA .u8 d1, [.int .i64 x1], [.slice a1 n1 c1]] [8, 1, 1] from hf _ (memI 0 rfl) (by kernel_rfl))
   refine WP.loadB (v := .slice a1 n1 c1) hB1 (by kernel_rfl) (by kernel_rfl) ?_
   refine WP.dn (Shown.ok (v := .slice a1 n1 c1) (by kernel_rfl) (Step.refl _ _) ?_)
   exact ⟨tv, tv, tv, tv, tv, tv, rfl, tv, tv, tv, tv, tv, tv, tv, tv⟩
  ·intro vs gq stq hl hf
   obtain ⟨v0, v1, v2, v3, v4, v5, v6, v7, rfl⟩ := len_k8 hl
   have hR1 := (show RdS (Kd.int .u8) gq 5 a1 n1 c1 l1 from hf _ (memI 1 rfl) (by kernel_rfl))
   have e3 := (show v3 = .slice a1 n1 c1 from hf _ (memI 6 rfl) (by kernel_rfl))
   subst e3
   have hcal2 := P.octet_PutBytes gq (t + 4) ([]) l1 none 0 0 a1 n1 c1 (RdS.nil _ _ _) hR1 l3 hk2
   refine WP.callC hcal2 (by kernel_rfl) ?_
   rintro _ g4 st4 ⟨a3, n3, c3, rfl, hR3⟩
   obtain rfl := hR3.len
   refine WP.dn (Shown.o (v := .slice a3 l3.length c3) st4.pure ?_)
   exact ⟨tv, tv, tv, tv, tv, tv, tv, ⟨a3, c3, rfl, hR3⟩, tv, tv, tv, tv, tv, tv, tv⟩
  ·intro vs gq stq hl hf
   obtain ⟨v0, v1, v2, v3, v4, v5, v6, v7, rfl⟩ := len_k8 hl
   obtain ⟨a2, c2, e2, hR2⟩ := (show ∃ (a2 : Option Addr) (c2 : Nat), v2 = .slice a2 l2.length c2 ∧ OwnS (Kd.int .u8) gq (t + 3) 5 a2 l2.length c2 l2 from hf _ (memI 5 rfl) (by kernel_rfl))
   subst e2
   obtain ⟨a3, c3, e4, hR3⟩ := (show ∃ (a3 : Option Addr) (c3 : Nat), v4 = .slice a3 l3.length c3 ∧ OwnS (Kd.int .u8) gq (t + 4) 5 a3 l3.length c3 l3 from hf _ (memI 7 rfl) (by kernel_rfl))
   subst e4
   obtain ⟨gf2, hwf2, stf2, hnew⟩ := hR3.freeze (by omega)
   refine WP.regw hwf2 ?_
   replace hR2 := hR2.mono stf2 (WL.no (by simp <;> omega)) (WL.no (by simp <;> omega))
   clear hR3
   have hR3 := hnew
   clear hnew
   obtain ⟨gf1, hwf1, stf1, hnew⟩ := hR2.freeze (by omega)
   refine WP.regw hwf1 ?_
   replace hR3 := hR3.mono stf1 (WL.no (by simp <;> omega))
   clear hR2
   have hR2 := hnew
   clear hnew
   refine WP.mkSl (kd := (Kd.slice 5 (Kd.int .u8))) (t := 150) (e := 33) (bytes := 24) (t + 5) [.slice a2 l2.length c2, .slice a3 l3.length c3] [l2, l3] (by kernel_rfl) (by kernel_rfl) (Nat.le_of_ble_eq_true rfl) (Nat.le_of_ble_eq_true rfl) (all_cons rfl (all_cons rfl all_nil)) (⟨_, _, rfl, (by exact ⟨_, _, _, rfl, hR2⟩), ⟨_, _, rfl, (by exact ⟨_, _, _, rfl, hR3⟩), rfl⟩⟩) rfl ?_
   intro g5 a4 st5 hR4
   replace st5 : Step (WL []) _ _ := Step.pure st5
   have hz1 := hR2.mono st5 (WL.no (by simp <;> omega))
   have hz2 := hR3.mono st5 (WL.no (by simp <;> omega))
   replace st5 := Step.both stf1 st5
   replace st5 := Step.both stf2 st5
   refine WP.dn (Shown.o (v := .slice a4 2 2) st5 ?_)
   exact ⟨tv, tv, tv, tv, tv, tv, tv, tv, ⟨a4, rfl, hR4⟩, ⟨a2, c2, rfl, hz1⟩, ⟨a3, c3, rfl, hz2⟩, tv, tv, tv, tv⟩
  ·intro vs gq stq hl hf
   obtain ⟨v0, v1, v2, v3, v4, v5, v6, v7, rfl⟩ := len_k8 hl
   have e0 := (show v0 = AG [encA .u8 d1] from hf _ (memI 3 rfl) (by kernel_rfl))
   subst e0
   obtain ⟨a4, e5, hR4⟩ := (show ∃ (a4 : Option Addr), v5 = .slice a4 2 2 ∧ OwnS (Kd.slice 5 (Kd.int .u8)) gq (t + 5) 33 a4 2 2 ([l2, l3]) from hf _ (memI 8 rfl) (by kernel_rfl))
   subst e5
   have hS1 : 0 ∉ ([(t + 5)] : List Nat) := by simp <;> omega
   have stl1 := GW.lend_step gq [(t + 5)]
   have hRl1 := hR4.lendTo hS1 (by simp)
   refine WP.regw (g' := GW.lend gq [(t + 5)]) rfl ?_
   have hcal3 := P.state_of (GW.lend gq [(t + 5)]) str_0 d1 ([l2, l3]) a4 2 2 hRl1 d2 hk3
   refine WP.callC hcal3 (by kernel_rfl) ?_
   rintro _ g6 st6 rfl
   have st7 := (GW.back_step st6).lentS
   have hO1 := hR4.backTo hS1 (by simp) st6 (fun x => x)
   refine WP.regw (g' := GW.back gq g6 [(t + 5)]) rfl ?_
   generalize GW.back gq g6 [(t + 5)] = g7 at *
   refine WP.dn (Shown.o (v := AG [encA .u8 d2]) st7 ?_)
   exact ⟨tv, tv, tv, tv, tv, tv, tv, tv, tv, tv, tv, rfl, ⟨a4, rfl, hO1⟩, tv, tv⟩
  ·intro vs gq stq hl hf
   obtain ⟨v0, v1, v2, v3, v4, v5, v6, v7, rfl⟩ := len_k8 hl
   have hB2 := (show Box gq (t + 2) b2 37 [encA .u8 (zA 8)] [8] from hf _ (memI 2 rfl) (by kernel_rfl))
   have e6 := (show v6 = AG [encA .u8 d2] from hf _ (memI 11 rfl) (by kernel_rfl))
   subst e6
   refine WP.storeB (ty := 37) (off := 0) (v := AG [encA .u8 d2]) hB2 [encA .u8 d2] [8] (by kernel_rfl) (by kernel_rfl) (by simp [len_encA]) (by kernel_rfl) [encA .u8 d2] (by kernel_rfl) (.arr .nil) ?_
   intro g8 st8 hB3
   refine WP.dn (Shown.o (v := undef) st8 ?_)
   exact ⟨tv, tv, tv, tv, tv, tv, tv, tv, tv, tv, tv, tv, tv, hB3, tv⟩
 intro vs g9 st9 hl hf
 obtain ⟨v0, v1, v2, v3, v4, v5, v6, v7, rfl⟩ := len_k8 hl
 have hB2 := (show Box g9 (t + 2) b2 37 [encA .u8 d2] [8] from hf _ (memI 13 rfl) (by kernel_rfl))
 replace tot := tot.trans (st9.up (by intro l hl; simp at hl; rcases hl with rfl | rfl | rfl | rfl <;> first | exact .inr (by omega) | exact .inl (by simp [WL])))
 refine NX.then_n ?_
 refine CP.refr 13 [(2, .pointer (some ⟨b2, 0, none⟩))] (by kernel_rfl) (by kernel_rfl) ?_
 clear ds
 intro ds
 refine CP.ret ?_
 replace hs := Option.some.inj hs
 obtain rfl := hs
 exact NX.fin (v := AG [encA .u8 d2]) (Res.one rfl (RV.box (agg := true) (size := 8) (rs := [encA .u8 d2]) hB2 (by kernel_rfl) (by kernel_rfl) (by kernel_rfl) (by kernel_rfl))) tot htL rfl
def N.state_Act_Digest_0 : List (List Nat) := [[], [0], [], [2], [2, 3], [], [5], [2, 3, 4, 5, 6], [], [8], [2, 3, 4, 5, 6, 7, 8, 9], [2, 3, 4, 5, 6, 7, 8, 9, 10], [0, 1, 2, 3, 4, 5, 6, 7, 8, 9, 10, 11], [0, 1, 2, 3, 4, 5, 6, 7, 8, 9, 10, 11, 12]]
def F.state_Act_Digest (d1 : Arr Int 8) (x1 : Int) (d2 : Arr Int 8) (l1 : List Int) : Option ((Arr Int 8)) := ((F.state_number x1).bind fun l3 => ((F.octet_PutBytes ([]) d2.1).bind fun l4 => ((F.octet_PutBytes ([]) l1).bind fun l5 => ((F.state_of str_3 d1 ([l3, l4, l5])).bind fun d3 => (some d3)))))
theorem P.state_Act_Digest (g0 : GW) (d1 : Arr Int 8) (x1 : Int) (d2 : Arr Int 8) (l1 : List Int) (a1 : Option Addr) (n1 : Nat) (c1 : Nat) (hR1 : RdS (Kd.int .u8) g0 5 a1 n1 c1 l1) (o1 : Arr Int 8) (hs : F.state_Act_Digest d1 x1 d2 l1 = some o1) :
  Calls Try.prog 59 #[AG [encA .u8 d1, [.int .i64 x1], encA .u8 d2, [.slice a1 n1 c1]]] g0.w (Ret NoM g0 fun v g => v = AG [encA .u8 o1]) := by
 refine calls_of (args := [AG [encA .u8 d1, [.int .i64 x1], encA .u8 d2, [.slice a1 n1 c1]]]) Try.func59 rfl (0) ?_
 intro t ht htL
 refine ⟨_, rfl, ?_⟩
 refine CP.refr 16 [(0, AG [encA .u8 d1, [.int .i64 x1], encA .u8 d2, [.slice a1 n1 c1]])] (by kernel_rfl) (by kernel_rfl) ?_
 intro ds
 have tot : Step (fun l => NoM l ∨ t ≤ l) g0 g0 := Step.refl _ _
 unfold F.state_Act_Digest at hs
 refine CP.seqR ?_
 refine WP.alloc (T := 41) (t + 1) [encA .u8 d1, [.int .i64 x1], encA .u8 d2, [.slice a1 n1 c1]] [8, 1, 8, 1] (by kernel_rfl) (by simp [len_encA]) ?_
 intro g1 b1 st1 hB1
 replace hR1 := hR1.mono st1 (fun x => x)
 replace tot := tot.trans st1.pure
 refine WP.alloc (T := 37) (t + 2) [encA .u8 (zA 8)] [8] (by kernel_rfl) (by simp [len_encA]) ?_
 intro g2 b2 st2 hB2
 replace hR1 := hR1.mono st2 (fun x => x)
 replace hB1 := hB1.mono st2 (fun x => x)
 replace tot := tot.trans st2.pure
 refine WP.dn ?_
 refine NX.then_n ?_
 refine CP.seq ?_
 obtain ⟨g4, hw1, st4, hnew⟩ := hB1.relab 0
 refine CP.regw hw1 ?_
 replace hR1 := hR1.mono st4 (WL.no1 (by omega))
 replace hB2 := hB2.mono st4 (WL.no1 (by omega))
 replace tot := tot.trans (st4.up1 (.inr (by omega)))
 clear hB1
 have hB1 := hnew
 clear hnew
 replace hs := Option.bind_eq_some_iff.1 hs
 obtain ⟨l3, hk2, hs⟩ := hs
 replace hs := Option.bind_eq_some_iff.1 hs
 obtain ⟨l4, hk3, hs⟩ := hs
 replace hs := Option.bind_eq_some_iff.1 hs
 obtain ⟨l5, hk4, hs⟩ := hs
 replace hs := Option.bind_eq_some_iff.1 hs
 obtain ⟨d3, hk5, hs⟩ := hs
 refine CP.drawL (by kernel_rfl) [1, 3, 4, 6, 7, 9, 10, 11, 12, 13] N.state_Act_Digest_0 [⟨none, [], [], fun l g => Box g 0 b1 41 [encA .u8 d1, [.int .i64 x1], encA .u8 d2, [.slice a1 n1 c1]] [8, 1, 8, 1]⟩, ⟨none, [], [], fun l g => RdS (Kd.int .u8) g 5 a1 n1 c1 l1⟩, ⟨none, [4], [], fun l g => Box g (t + 2) b2 37 [encA .u8 (zA 8)] [8]⟩, ⟨some 0, [], [0], fun l g => l.getD 0 undef = AG [encA .u8 d1]⟩, ⟨some 1, [], [1], fun l g => l.getD 0 undef = .int .i64 x1⟩, ⟨some 2, [2], [2], fun l g => ∃ (a4 : Option Addr) (c3 : Nat), l.getD 0 undef = .slice a4 l3.length c3 ∧ OwnS (Kd.int .u8) g (t + 4) 5 a4 l3.length c3 l3⟩, ⟨some 3, [], [3], fun l g => ∃ (a5 : Option Addr), l.getD 0 undef = .slice a5 ((8 : Int).toNat - (0 : Int).toNat) (8 - (0 : Int).toNat) ∧ RdS (Kd.int .u8) g 5 a5 ((8 : Int).toNat - (0 : Int).toNat) (8 - (0 : Int).toNat) d2.1⟩, ⟨some 4, [1], [4], fun l g => ∃ (a6 : Option Addr) (c4 : Nat), l.getD 0 undef = .slice a6 l4.length c4 ∧ OwnS (Kd.int .u8) g (t + 5) 5 a6 l4.length c4 l4⟩, ⟨some 5, [], [5], fun l g => l.getD 0 undef = .slice a1 n1 c1⟩, ⟨some 6, [0], [6], fun l g => ∃ (a7 : Option Addr) (c5 : Nat), l.getD 0 undef = .slice a7 l5.length c5 ∧ OwnS (Kd.int .u8) g (t + 6) 5 a7 l5.length c5 l5⟩, ⟨some 7, [3], [7], fun l g => ∃ (a8 : Option Addr), l.getD 0 undef = .slice a8 3 3 ∧ OwnS (Kd.slice 5 (Kd.int .u8)) g (t + 7) 33 a8 3 3 ([l3, l4, l5])⟩, ⟨some 7, [], [2], fun l g => ∃ (a4 : Option Addr) (c3 : Nat), l.getD 0 undef = .slice a4 l3.length c3 ∧ RdS (Kd.int .u8) g 5 a4 l3.length c3 l3⟩, ⟨some 7, [], [4], fun l g => ∃ (a6 : Option Addr) (c4 : Nat), l.getD 0 undef = .slice a6 l4.length c4 ∧ RdS (Kd.int .u8) g 5 a6 l4.length c4 l4⟩, ⟨some 7, [], [6], fun l g => ∃ (a7 : Option Addr) (c5 : Nat), l.getD 0 undef = .slice a7 l5.length c5 ∧ RdS (Kd.int .u8) g 5 a7 l5.length c5 l5⟩, ⟨some 8, [], [8], fun l g => l.getD 0 undef = AG [encA .u8 d3]⟩, ⟨some 8, [3], [7], fun l g => ∃ (a8 : Option Addr), l.getD 0 undef = .slice a8 3 3 ∧ OwnS (Kd.slice 5 (Kd.int .u8)) g (t + 7) 33 a8 3 3 ([l3, l4, l5])⟩, ⟨some 9, [4], [], fun l g => Box g (t + 2) b2 37 [encA .u8 d3] [8]⟩] [[], [], [], [], [], [], [], [0, 1, 2], [3], [4]] [(t + 6), (t + 5), (t + 4), (t + 7), (t + 2)] [0, 2, 5, 8] [] (by kernel_rfl) (by simp <;> omega) (by simp <;> omega) ⟨fun _ _ _ _ st h0 hl hj hB1 => (hB1.mono st (fun h => absurd (hl _ h) (by simp <;> omega))), fun _ _ _ _ st h0 hl hj hR1 => (RdS.mono (e := 5) hR1 st h0), fun _ _ _ _ st h0 hl hj hB2 => (hB2.mono st (hj 4 (by simp) _ rfl)), fun _ _ _ _ st h0 hl hj e0 => e0, fun _ _ _ _ st h0 hl hj e1 => e1, fun _ _ _ _ st h0 hl hj ⟨a4, c3, e2, hR4⟩ => ⟨a4, c3, e2, (hR4.mono st h0 (hj 2 (by simp) _ rfl))⟩, fun _ _ _ _ st h0 hl hj ⟨a5, e3, hR5⟩ => ⟨a5, e3, (RdS.mono (e := 5) hR5 st h0)⟩, fun _ _ _ _ st h0 hl hj ⟨a6, c4, e4, hR6⟩ => ⟨a6, c4, e4, (hR6.mono st h0 (hj 1 (by simp) _ rfl))⟩, fun _ _ _ _ st h0 hl hj e5 => e5, fun _ _ _ _ st h0 hl hj ⟨a7, c5, e6, hR7⟩ => ⟨a7, c5, e6, (hR7.mono st h0 (hj 0 (by simp) _ rfl))⟩, fun _ _ _ _ st h0 hl hj ⟨a8, e7, hR8⟩ => ⟨a8, e7, (hR8.mono st h0 (hj 3 (by simp) _ rfl))⟩, fun _ _ _ _ st h0 hl hj ⟨a4, c3, e2, hR4⟩ => ⟨a4, c3, e2, (RdS.mono (e := 5) hR4 st h0)⟩, fun _ _ _ _ st h0 hl hj ⟨a6, c4, e4, hR6⟩ => ⟨a6, c4, e4, (RdS.mono (e := 5) hR6 st h0)⟩, fun _ _ _ _ st h0 hl hj ⟨a7, c5, e6, hR7⟩ => ⟨a7, c5, e6, (RdS.mono (e := 5) hR7 st h0)⟩, fun _ _ _ _ st h0 hl hj e8 => e8, fun _ _ _ _ st h0 hl hj ⟨a8, e7, hR8⟩ => ⟨a8, e7, (hR8.mono st h0 (hj 3 (by simp) _ rfl))⟩, fun _ _ _ _ st h0 hl hj hB2 => (hB2.mono st (hj 4 (by simp) _ rfl)), tv⟩ ⟨hB1, hR1, hB2, tv, tv, tv, tv, tv, tv, tv, tv, tv, tv, tv, tv, tv, tv, tv⟩ (by kernel_rfl) (fun vs => by kernel_rfl) ?_ ?_ ?_
 ·intro j hj; exact absurd hj (by simp)
 ·intro j hj
  have hq : j = 0 ∨ j = 1 ∨ j = 2 ∨ j = 3 ∨ j = 4 ∨ j = 5 ∨ j = 6 ∨ j = 7 ∨ j = 8 ∨ j = 9 := by have h : j < 10 := hj; omega
  rcases hq with rfl | rfl | rfl | rfl | rfl | rfl | rfl | rfl | rfl | rfl
  ·intro vs gq stq hl hf
   obtain ⟨v0, v1, v2, v3, v4, v5, v6, v7, v8, v9, rfl⟩ := len_k10 hl
   have hB1 := (show Box gq 0 b1 41 [encA .u8 d1, [.int .i64 x1], encA .u8 d2, [.slice a1 n1 c1]] [8, 1, 8, 1] from hf _ (memI 0 rfl) (by kernel_rfl))
   refine WP.loadB (v := AG [encA .u8 d1]) hB1 (by kernel_rfl) (by kernel_rfl) ?_
   refine WP.dn (Shown.ok (v := AG [encA .u8 d1]) (by kernel_rfl) (Step.refl _ _) ?_)
   exact ⟨tv, tv, tv, rfl, tv, tv, tv, tv, tv, tv, tv, tv, tv, tv, tv, tv, tv, tv⟩
  ·intro vs gq stq hl hf
   obtain ⟨v0, v1, v2, v3, v4, v5, v6, v7, v8, v9, rfl⟩ := len_k10 hl
   have hB1 := (show Box gq 0 b1 41 [encA .u8 d1, [.int .i64 x1], encA .u8 d2, [.slice a1 n1 c1]] [8, 1, 8, 1] from hf _ (memI 0 rfl) (by kernel_rfl))
   refine WP.loadB (v := .int .i64 x1) hB1 (by kernel_rfl) (by kernel_rfl) ?_
   refine WP.dn (Shown.ok (v := .int .i64 x1) (by kernel_rfl) (Step.refl _ _) ?_)
   exact ⟨tv, tv, tv, tv, rfl, tv, tv, tv, tv, tv, tv, tv, tv, tv, tv, tv, tv, tv⟩
  ·intro vs gq stq hl hf
   obtain ⟨v0, v1, v2, v3, v4, v5, v6, v7, v8, v9, rfl⟩ := len_k10 hl
   have e1 := (show v1 = .int .i64 x1 from hf _ (memI 4 rfl) (by kernel_rfl))
   subst e1
   have hcal2 := P.state_number gq (t + 4) x1 l3 hk2
   refine WP.callC hcal2 (by kernel_rfl) ?_
   rintro _ g5 st5 ⟨a4, n3, c3, rfl, hR4⟩
   obtain rfl := hR4.len
   refine WP.dn (Shown.o (v := .slice a4 l3.length c3) st5.pure ?_)
   exact ⟨tv, tv, tv, tv, tv, ⟨a4, c3, rfl, hR4⟩, tv, tv, tv, tv, tv, tv, tv, tv, tv, tv, tv, tv⟩
  ·intro vs gq stq hl hf
   obtain ⟨v0, v1, v2, v3, v4, v5, v6, v7, v8, v9, rfl⟩ := len_k10 hl
   have hB1 := (show Box gq 0 b1 41 [encA .u8 d1, [.int .i64 x1], encA .u8 d2, [.slice a1 n1 c1]] [8, 1, 8, 1] from hf _ (memI 0 rfl) (by kernel_rfl))
   refine WP.sliceZ (o := 9) (m := 8) (k := .u8) (d := d2) (e := 5) (lo := none) (hi := none) hB1 (by kernel_rfl) (0 : Int) (8 : Int) (by kernel_rfl) (.inl ⟨rfl, rfl⟩) (.inl ⟨rfl, rfl⟩) (by decide) ?_
   intro a5 hR5
   rw [sliceI_all (m := 8) (d := d2) (j := (8 : Int)) rfl] at hR5
   refine WP.dn (Shown.ok (v := .slice a5 ((8 : Int).toNat - (0 : Int).toNat) (8 - (0 : Int).toNat)) (by kernel_rfl) (Step.refl _ _) ?_)
   exact ⟨tv, tv, tv, tv, tv, tv, ⟨a5, rfl, hR5⟩, tv, tv, tv, tv, tv, tv, tv, tv, tv, tv, tv⟩
  ·intro vs gq stq hl hf
   obtain ⟨v0, v1, v2, v3, v4, v5, v6, v7, v8, v9, rfl⟩ := len_k10 hl
   obtain ⟨a5, e3, hR5⟩ := (show ∃ (a5 : Option Addr), v3 = .slice a5 ((8 : Int).toNat - (0 : Int).toNat) (8 - (0 : Int).toNat) ∧ RdS (Kd.int .u8) gq 5 a5 ((8 : Int).toNat - (0 : Int).toNat) (8 - (0 : Int).toNat) d2.1 from hf _ (memI 6 rfl) (by kernel_rfl))
   subst e3
   have hcal3 := P.octet_PutBytes gq (t + 5) ([]) d2.1 none 0 0 a5 ((8 : Int).toNat - (0 : Int).toNat) (8 - (0 : Int).toNat) (RdS.nil _ _ _) hR5 l4 hk3
   refine WP.callC hcal3 (by kernel_rfl) ?_
   rintro _ g6 st6 ⟨a6, n4, c4, rfl, hR6⟩
   obtain rfl := hR6.len
   refine WP.dn (Shown.o (v := .slice a6 l4.length c4) st6.pure ?_)
   exact ⟨tv, tv, tv, tv, tv, tv, tv, ⟨a6, c4, rfl, hR6⟩, tv, tv, tv, tv, tv, tv, tv, tv, tv, tv⟩
  ·intro vs gq stq hl hf
   obtain ⟨v0, v1, v2, v3, v4, v5, v6, v7, v8, v9, rfl⟩ := len_k10 hl
   have hB1 := (show Box gq 0 b1 41 [encA .u8 d1, [.int .i64 x1], encA .u8 d2, [.slice a1 n1 c1]] [8, 1, 8, 1] from hf _ (memI 0 rfl) (by kernel_rfl))
   refine WP.loadB (v := .slice a1 n1 c1) hB1 (by kernel_rfl) (by kernel_rfl) ?_
   refine WP.dn (Shown.ok (v := .slice a1 n1 c1) (by kernel_rfl) (Step.refl _ _) ?_)
   exact ⟨tv, tv, tv, tv, tv, tv, tv, tv, rfl, tv, tv, tv, tv, tv, tv, tv, tv, tv⟩
  ·intro vs gq stq hl hf
   obtain ⟨v0, v1, v2, v3, v4, v5, v6, v7, v8, v9, rfl⟩ := len_k10 hl
   have hR1 := (show RdS (Kd.int .u8) gq 5 a1 n1 c1 l1 from hf _ (memI 1 rfl) (by kernel_rfl))
   have e5 := (show v5 = .slice a1 n1 c1 from hf _ (memI 8 rfl) (by kernel_rfl))
   subst e5
   have hcal4 := P.octet_PutBytes gq (t + 6) ([]) l1 none 0 0 a1 n1 c1 (RdS.nil _ _ _) hR1 l5 hk4
   refine WP.callC hcal4 (by kernel_rfl) ?_
   rintro _ g7 st7 ⟨a7, n5, c5, rfl, hR7⟩
   obtain rfl := hR7.len
   refine WP.dn (Shown.o (v := .slice a7 l5.length c5) st7.pure ?_)
   exact ⟨tv, tv, tv, tv, tv, tv, tv, tv, tv, ⟨a7, c5, rfl, hR7⟩, tv, tv, tv, tv, tv, tv, tv, tv⟩
  ·intro vs gq stq hl hf
   obtain ⟨v0, v1, v2, v3, v4, v5, v6, v7, v8, v9, rfl⟩ := len_k10 hl
   obtain ⟨a4, c3, e2, hR4⟩ := (show ∃ (a4 : Option Addr) (c3 : Nat), v2 = .slice a4 l3.length c3 ∧ OwnS (Kd.int .u8) gq (t + 4) 5 a4 l3.length c3 l3 from hf _ (memI 5 rfl) (by kernel_rfl))
   subst e2
   obtain ⟨a6, c4, e4, hR6⟩ := (show ∃ (a6 : Option Addr) (c4 : Nat), v4 = .slice a6 l4.length c4 ∧ OwnS (Kd.int .u8) gq (t + 5) 5 a6 l4.length c4 l4 from hf _ (memI 7 rfl) (by kernel_rfl))
   subst e4
   obtain ⟨a7, c5, e6, hR7⟩ := (show ∃ (a7 : Option Addr) (c5 : Nat), v6 = .slice a7 l5.length c5 ∧ OwnS (Kd.int .u8) gq (t + 6) 5 a7 l5.length c5 l5 from hf _ (memI 9 rfl) (by kernel_rfl))
   subst e6
   obtain ⟨gf3, hwf3, stf3, hnew⟩ := hR7.freeze (by omega)
   refine WP.regw hwf3 ?_
   replace hR4 := hR4.mono stf3 (WL.no (by simp <;> omega)) (WL.no (by simp <;> omega))
   replace hR6 := hR6.mono stf3 (WL.no (by simp <;> omega)) (WL.no (by simp <;> omega))
   clear hR7
   have hR7 := hnew
   clear hnew
   obtain ⟨gf2, hwf2, stf2, hnew⟩ := hR6.freeze (by omega)
   refine WP.regw hwf2 ?_
   replace hR4 := hR4.mono stf2 (WL.no (by simp <;> omega)) (WL.no (by simp <;> omega))
   replace hR7 := hR7.mono stf2 (WL.no (by simp <;> omega))
   clear hR6
   have hR6 := hnew
   clear hnew
   obtain ⟨gf1, hwf1, stf1, hnew⟩ := hR4.freeze (by omega)
   refine WP.regw hwf1 ?_
   replace hR6 := hR6.mono stf1 (WL.no (by simp <;> omega))
   replace hR7 := hR7.mono stf1 (WL.no (by simp <;> omega))
   clear hR4
   have hR4 := hnew
   clear hnew
   refine WP.mkSl (kd := (Kd.slice 5 (Kd.int .u8))) (t := 150) (e := 33) (bytes := 24) (t + 7) [.slice a4 l3.length c3, .slice a6 l4.length c4, .slice a7 l5.length c5] [l3, l4, l5] (by kernel_rfl) (by kernel_rfl) (Nat.le_of_ble_eq_true rfl) (Nat.le_of_ble_eq_true rfl) (all_cons rfl (all_cons rfl (all_cons rfl all_nil))) (⟨_, _, rfl, (by exact ⟨_, _, _, rfl, hR4⟩), ⟨_, _, rfl, (by exact ⟨_, _, _, rfl, hR6⟩), ⟨_, _, rfl, (by exact ⟨_, _, _, rfl, hR7⟩), rfl⟩⟩⟩) rfl ?_
   intro g8 a8 st8 hR8
   replace st8 : Step (WL []) _ _ := Step.pure st8
   have hz1 := hR4.mono st8 (WL.no (by simp <;> omega))
   have hz2 := hR6.mono st8 (WL.no (by simp <;> omega))
   have hz3 := hR7.mono st8 (WL.no (by simp <;> omega))
   replace st8 := Step.both stf1 st8
   replace st8 := Step.both stf2 st8
   replace st8 := Step.both stf3 st8
   refine WP.dn (Shown.o (v := .slice a8 3 3) st8 ?_)
   exact ⟨tv, tv, tv, tv, tv, tv, tv, tv, tv, tv, ⟨a8, rfl, hR8⟩, ⟨a4, c3, rfl, hz1⟩, ⟨a6, c4, rfl, hz2⟩, ⟨a7, c5, rfl, hz3⟩, tv, tv, tv, tv⟩
  ·intro vs gq stq hl hf
   obtain ⟨v0, v1, v2, v3, v4, v5, v6, v7, v8, v9, rfl⟩ := len_k10 hl
   have e0 := (show v0 = AG [encA .u8 d1] from hf _ (memI 3 rfl) (by kernel_rfl))
   subst e0
   obtain ⟨a8, e7, hR8⟩ := (show ∃ (a8 : Option Addr), v7 = .slice a8 3 3 ∧ OwnS (Kd.slice 5 (Kd.int .u8)) gq (t + 7) 33 a8 3 3 ([l3, l4, l5]) from hf _ (memI 10 rfl) (by kernel_rfl))
   subst e7
   have hS1 : 0 ∉ ([(t + 7)] : List Nat) := by simp <;> omega
   have stl1 := GW.lend_step gq [(t + 7)]
   have hRl1 := hR8.lendTo hS1 (by simp)
   refine WP.regw (g' := GW.lend gq [(t + 7)]) rfl ?_
   have hcal5 := P.state_of (GW.lend gq [(t + 7)]) str_3 d1 ([l3, l4, l5]) a8 3 3 hRl1 d3 hk5
   refine WP.callC hcal5 (by kernel_rfl) ?_
   rintro _ g9 st9 rfl
   have st10 := (GW.back_step st9).lentS
   have hO1 := hR8.backTo hS1 (by simp) st9 (fun x => x)
   refine WP.regw (g' := GW.back gq g9 [(t + 7)]) rfl ?_
   generalize GW.back gq g9 [(t + 7)] = g10 at *
   refine WP.dn (Shown.o (v := AG [encA .u8 d3]) st10 ?_)
   exact ⟨tv, tv, tv, tv, tv, tv, tv, tv, tv, tv, tv, tv, tv, tv, rfl, ⟨a8, rfl, hO1⟩, tv, tv⟩
  ·intro vs gq stq hl hf
   obtain ⟨v0, v1, v2, v3, v4, v5, v6, v7, v8, v9, rfl⟩ := len_k10 hl
   have hB2 := (show Box gq (t + 2) b2 37 [encA .u8 (zA 8)] [8] from hf _ (memI 2 rfl) (by kernel_rfl))
   have e8 := (show v8 = AG [encA .u8 d3] from hf _ (memI 14 rfl) (by kernel_rfl))
   subst e8
   refine WP.storeB (ty := 37) (off := 0) (v := AG [encA .u8 d3]) hB2 [encA .u8 d3] [8] (by kernel_rfl) (by kernel_rfl) (by simp [len_encA]) (by kernel_rfl) [encA .u8 d3] (by kernel_rfl) (.arr .nil) ?_
   intro g11 st11 hB3
   refine WP.dn (Shown.o (v := undef) st11 ?_)
   exact ⟨tv, tv, tv, tv, tv, tv, tv, tv, tv, tv, tv, tv, tv, tv, tv, tv, hB3, tv⟩
 intro vs g12 st12 hl hf
 obtain ⟨v0, v1, v2, v3, v4, v5, v6, v7, v8, v9, rfl⟩ := len_k10 hl
 have hB2 := (show Box g12 (t + 2) b2 37 [encA .u8 d3] [8] from hf _ (memI 16 rfl) (by kernel_rfl))
 replace tot := tot.trans (st12.up (by intro l hl; simp at hl; rcases hl with rfl | rfl | rfl | rfl | rfl <;> first | exact .inr (by omega) | exact .inl (by simp [WL])))
 refine NX.then_n ?_
 refine CP.refr 16 [(2, .pointer (some ⟨b2, 0, none⟩))] (by kernel_rfl) (by kernel_rfl) ?_
 clear ds
 intro ds
 refine CP.ret ?_
 replace hs := Option.some.inj hs
 obtain rfl := hs
 exact NX.fin (v := AG [encA .u8 d3]) (Res.one rfl (RV.box (agg := true) (size := 8) (rs := [encA .u8 d3]) hB2 (by kernel_rfl) (by kernel_rfl) (by kernel_rfl) (by kernel_rfl))) tot htL rfl
def F.punish_Thing_Digest (x1 : Int) (d1 : Arr Int 8) (x2 : Int) (l1 : List Int) (d2 : Arr Int 8) (x3 : Int) (d3 : Arr Int 8) (l2 : List Int) (l3 : List Int) : Option ((Arr Int 8)) := (if (x1 == 0) = true then ((F.state_State_Digest d1 x2 l1).bind fun d4 => (some d4)) else (if (x1 == 1) = true then ((F.state_Act_Digest d2 x3 d3 l2).bind fun d5 => (some d5)) else (some (zA 8))))
theorem P.punish_Thing_Digest (g0 : GW) (x1 : Int) (d1 : Arr Int 8) (x2 : Int) (l1 : List Int) (d2 : Arr Int 8) (x3 : Int) (d3 : Arr Int 8) (l2 : List Int) (l3 : List Int) (a1 : Option Addr) (n1 : Nat) (c1 : Nat) (a2 : Option Addr) (n2 : Nat) (c2 : Nat) (a3 : Option Addr) (n3 : Nat) (c3 : Nat) (hR1 : RdS (Kd.int .u8) g0 5 a1 n1 c1 l1) (hR2 : RdS (Kd.int .u8) g0 5 a2 n2 c2 l2) (hR3 : RdS (Kd.int .u8) g0 5 a3 n3 c3 l3) (o1 : Arr Int 8) (hs : F.punish_Thing_Digest x1 d1 x2 l1 d2 x3 d3 l2 l3 = some o1) :
  Calls Try.prog 24 #[AG [[.int .i64 x1], encA .u8 d1, [.int .i64 x2], [.slice a1 n1 c1], encA .u8 d2, [.int .i64 x3], encA .u8 d3, [.slice a2 n2 c2], [.slice a3 n3 c3]]] g0.w (Ret NoM g0 fun v g => v = AG [encA .u8 o1]) := by
 refine calls_of (args := [AG [[.int .i64 x1], encA .u8 d1, [.int .i64 x2], [.slice a1 n1 c1], encA .u8 d2, [.int .i64 x3], encA .u8 d3, [.slice a2 n2 c2], [.slice a3 n3 c3]]]) Try.func24 rfl (0) ?_
 intro t ht htL
 refine ⟨_, rfl, ?_⟩
 refine CP.refr 16 [(0, AG [[.int .i64 x1], encA .u8 d1, [.int .i64 x2], [.slice a1 n1 c1], encA .u8 d2, [.int .i64 x3], encA .u8 d3, [.slice a2 n2 c2], [.slice a3 n3 c3]])] (by kernel_rfl) (by kernel_rfl) ?_
 intro ds
 have tot : Step (fun l => NoM l ∨ t ≤ l) g0 g0 := Step.refl _ _
 unfold F.punish_Thing_Digest at hs
 refine CP.seqR ?_
 refine WP.alloc (T := 43) (t + 1) [[.int .i64 x1], encA .u8 d1, [.int .i64 x2], [.slice a1 n1 c1], encA .u8 d2, [.int .i64 x3], encA .u8 d3, [.slice a2 n2 c2], [.slice a3 n3 c3]] [1, 8, 1, 1, 8, 1, 8, 1, 1] (by kernel_rfl) (by simp [len_encA]) ?_
 intro g1 b1 st1 hB1
 replace hR1 := hR1.mono st1 (fun x => x)
 replace hR2 := hR2.mono st1 (fun x => x)
 replace hR3 := hR3.mono st1 (fun x => x)
 replace tot := tot.trans st1.pure
 refine WP.alloc (T := 37) (t + 2) [encA .u8 (zA 8)] [8] (by kernel_rfl) (by simp [len_encA]) ?_
 intro g2 b2 st2 hB2
 replace hR1 := hR1.mono st2 (fun x => x)
 replace hR2 := hR2.mono st2 (fun x => x)
 replace hR3 := hR3.mono st2 (fun x => x)
 replace hB1 := hB1.mono st2 (fun x => x)
 replace tot := tot.trans st2.pure
 refine WP.dn ?_
 refine NX.then_n ?_
 refine CP.seq ?_
 refine CP.seqR ?_
 refine WP.stl 1 ?_
 refine WP.loadB (v := .int .i64 x1) hB1 (by kernel_rfl) (by kernel_rfl) ?_
 refine WP.dn ?_
 refine NX.then_n ?_
 refine CP.block ?_
 refine CP.seqR ?_
 refine WP.stl 2 ?_
 refine WP.dn ?_
 refine NX.then_n ?_
 refine CP.cond (b := (x1 == 0)) (by kernel_rfl) (fun h1 => ?_) (fun h1 => ?_)
 ·replace hs := of_if_t hs h1
  refine CP.seqR ?_
  refine WP.stl 1 ?_
  refine WP.loadB (v := AG [encA .u8 d1, [.int .i64 x2], [.slice a1 n1 c1]]) hB1 (by kernel_rfl) (by kernel_rfl) ?_
  replace hs := Option.bind_eq_some_iff.1 hs
  obtain ⟨d4, hk1, hs⟩ := hs
  have hcal1 := P.state_State_Digest g2 d1 x2 l1 a1 n1 c1 hR1 d4 hk1
  refine WP.callC hcal1 (by kernel_rfl) ?_
  rintro _ g3 st3 rfl
  replace hB1 := hB1.mono st3 (fun x => x)
  replace hR1 := hR1.mono st3 (fun x => x)
  replace hR2 := hR2.mono st3 (fun x => x)
  replace hR3 := hR3.mono st3 (fun x => x)
  replace hB2 := hB2.mono st3 (fun x => x)
  replace tot := tot.trans st3.pure
  refine WP.storeB (ty := 37) (off := 0) (v := AG [encA .u8 d4]) hB2 [encA .u8 d4] [8] (by kernel_rfl) (by kernel_rfl) (by simp [len_encA]) (by kernel_rfl) [encA .u8 d4] (by kernel_rfl) (.arr .nil) ?_
  intro g4 st4 hB3
  replace hB1 := hB1.mono st4 (WL.no1 (by omega))
  replace hR1 := hR1.mono st4 (WL.no1 (by omega))
  replace hR2 := hR2.mono st4 (WL.no1 (by omega))
  replace hR3 := hR3.mono st4 (WL.no1 (by omega))
  replace tot := tot.trans (st4.up1 (.inr (by omega)))
  clear hB2
  have hB2 := hB3
  clear hB3
  refine WP.dn ?_
  refine NX.then_n ?_
  refine CP.ret ?_
  refine NX.block_r ?_
  refine NX.then_r ?_
  replace hs := Option.some.inj hs
  obtain rfl := hs
  exact NX.fin (v := AG [encA .u8 d4]) (Res.one rfl (RV.box (agg := true) (size := 8) (rs := [encA .u8 d4]) hB2 (by kernel_rfl) (by kernel_rfl) (by kernel_rfl) (by kernel_rfl))) tot htL rfl
 replace hs := of_if_f hs h1
 refine CP.seqR ?_
 refine WP.stl 2 ?_
 refine WP.dn ?_
 refine NX.then_n ?_
 refine CP.cond (b := (x1 == 1)) (by kernel_rfl) (fun h2 => ?_) (fun h2 => ?_)
 ·replace hs := of_if_t hs h2
  refine CP.seqR ?_
  refine WP.stl 1 ?_
  refine WP.loadB (v := AG [encA .u8 d2, [.int .i64 x3], encA .u8 d3, [.slice a2 n2 c2]]) hB1 (by kernel_rfl) (by kernel_rfl) ?_
  replace hs := Option.bind_eq_some_iff.1 hs
  obtain ⟨d5, hk2, hs⟩ := hs
  have hcal2 := P.state_Act_Digest g2 d2 x3 d3 l2 a2 n2 c2 hR2 d5 hk2
  refine WP.callC hcal2 (by kernel_rfl) ?_
  rintro _ g5 st5 rfl
  replace hB1 := hB1.mono st5 (fun x => x)
  replace hR1 := hR1.mono st5 (fun x => x)
  replace hR2 := hR2.mono st5 (fun x => x)
  replace hR3 := hR3.mono st5 (fun x => x)
  replace hB2 := hB2.mono st5 (fun x => x)
  replace tot := tot.trans st5.pure
  refine WP.storeB (ty := 37) (off := 0) (v := AG [encA .u8 d5]) hB2 [encA .u8 d5] [8] (by kernel_rfl) (by kernel_rfl) (by simp [len_encA]) (by kernel_rfl) [encA .u8 d5] (by kernel_rfl) (.arr .nil) ?_
  intro g6 st6 hB4
  replace hB1 := hB1.mono st6 (WL.no1 (by omega))
  replace hR1 := hR1.mono st6 (WL.no1 (by omega))
  replace hR2 := hR2.mono st6 (WL.no1 (by omega))
  replace hR3 := hR3.mono st6 (WL.no1 (by omega))
  replace tot := tot.trans (st6.up1 (.inr (by omega)))
  clear hB2
  have hB2 := hB4
  clear hB4
  refine WP.dn ?_
  refine NX.then_n ?_
  refine CP.ret ?_
  refine NX.block_r ?_
  refine NX.then_r ?_
  replace hs := Option.some.inj hs
  obtain rfl := hs
  exact NX.fin (v := AG [encA .u8 d5]) (Res.one rfl (RV.box (agg := true) (size := 8) (rs := [encA .u8 d5]) hB2 (by kernel_rfl) (by kernel_rfl) (by kernel_rfl) (by kernel_rfl))) tot htL rfl
 replace hs := of_if_f hs h2
 refine CP.skip ?_
 refine NX.block_n ?_
 refine NX.then_n ?_
 refine CP.seqR ?_
 refine WP.stl 1 ?_
 refine WP.storeB (ty := 37) (off := 0) (v := AG [encA .u8 (zA 8)]) hB2 [encA .u8 (zA 8)] [8] (by kernel_rfl) (by kernel_rfl) (by simp [len_encA]) (by kernel_rfl) [encA .u8 (zA 8)] (by kernel_rfl) (.arr .nil) ?_
 intro g7 st7 hB5
 replace tot := tot.trans (st7.up1 (.inr (by omega)))
 clear hB2
 have hB2 := hB5
 clear hB5
 refine WP.dn ?_
 refine NX.then_n ?_
 refine CP.ret ?_
 replace hs := Option.some.inj hs
 obtain rfl := hs
 exact NX.fin (v := AG [encA .u8 (zA 8)]) (Res.one rfl (RV.box (agg := true) (size := 8) (rs := [encA .u8 (zA 8)]) hB2 (by kernel_rfl) (by kernel_rfl) (by kernel_rfl) (by kernel_rfl))) tot htL rfl
def N.notary_bookSigner_Sign_0 : List (List Nat) := [[], [0], [0, 1], [0, 1, 2], [], [0, 1, 2, 3, 4], [0, 1, 2, 3, 4, 5], [0, 1, 2, 3, 4, 5, 6], [0, 1, 2, 3, 4, 5, 6], [0, 1, 2, 3, 4, 5, 6, 7], [0, 1, 2, 3, 4, 5, 6, 7, 8, 9]]
def F.notary_bookSigner_Sign.c1 (l2 : List S_notary_entry) (w2 : (List (S_notary_entry × Int))) (x1 : Int) : Option ((List Int) × Int × (List (S_notary_entry × Int)) × (List S_notary_entry)) := (some ([(IntKind.u8.wrap x1), (IntKind.u8.wrap (shV false .i64 x1 8))], 0, w2, l2))
def N.notary_bookSigner_Sign_1 : List (List Nat) := [[], [], [1], [1, 2], [1, 2, 3], [], [5], [1, 2, 3, 4, 5, 6], [0, 1, 2, 3, 4, 5, 6, 7], [0, 1, 2, 3, 4, 5, 6, 7, 8], [0, 1, 2, 3, 4, 5, 6, 7, 8, 9]]
def F.notary_bookSigner_Sign (l1 : List S_notary_entry) (w1 : (List (S_notary_entry × Int))) (d1 : Arr Int 8) (d2 : Arr Int 8) : Option ((List Int) × Int × (List (S_notary_entry × Int)) × (List S_notary_entry)) := (if (!((mapGet eqk_S_notary_entry 0 w1 (⟨d1, d2⟩ : S_notary_entry)).2)) = true then (if ((l1.length : Int) == 65536) = true then (some ([], 17, w1, l1)) else (if l1.length + ([(⟨d1, d2⟩ : S_notary_entry)]).length ≤ 8796093022208 then (F.notary_bookSigner_Sign.c1 (l1 ++ [(⟨d1, d2⟩ : S_notary_entry)]) (mapSet eqk_S_notary_entry w1 (⟨d1, d2⟩ : S_notary_entry) (l1.length : Int)) (l1.length : Int)) else none)) else (F.notary_bookSigner_Sign.c1 l1 w1 ((mapGet eqk_S_notary_entry 0 w1 (⟨d1, d2⟩ : S_notary_entry)).1)))
theorem P.notary_bookSigner_Sign (g0 : GW) (m0 : Nat) (m1 : Nat) (m2 : Nat) (r0 : Nat) (l1 : List S_notary_entry) (w1 : (List (S_notary_entry × Int))) (d1 : Arr Int 8) (d2 : Arr Int 8) (a1 : Option Addr) (n1 : Nat) (c1 : Nat) (b1 : Nat) (b2 : Nat) (hR1 : OwnS k_S_notary_entry g0 m1 126 a1 n1 c1 l1) (hB1 : MapB g0 m2 b2 kv_S_notary_entry (Value.int .i64) w1) (hB2 : Box g0 m0 b1 121 [[.slice a1 n1 c1], [.map (some b2)]] [1, 1]) (hm1_0 : m1 ≠ m0) (hm2_0 : m2 ≠ m0) (hm2_1 : m2 ≠ m1) (hm0 : m0 ≠ 0) (hm1 : m1 ≠ 0) (hm2 : m2 ≠ 0) (o1 : List Int) (o2 : Int) (o3 : (List (S_notary_entry × Int))) (o4 : (List S_notary_entry)) (hs : F.notary_bookSigner_Sign l1 w1 d1 d2 = some (o1, o2, o3, o4)) :
  Calls Try.prog 128 #[AG [[.pointer (some ⟨b1, 0, none⟩)], encA .u8 d1], AG [encA .u8 d2]] g0.w (Ret (WL [m2, m0, m1]) g0 fun v g => ∃ (a_1 : Option Addr) (n_1 : Nat) (c_1 : Nat) (a_4 : Option Addr) (n_4 : Nat) (c_4 : Nat), v = .tuple #[.slice a_1 n_1 c_1, .int .i64 o2] ∧ OwnS (Kd.int .u8) g r0 5 a_1 n_1 c_1 o1 ∧ MapB g m2 b2 kv_S_notary_entry (Value.int .i64) o3 ∧ OwnS k_S_notary_entry g m1 126 a_4 n_4 c_4 o4 ∧ Box g m0 b1 121 [[.slice a_4 n_4 c_4], [.map (some b2)]] [1, 1]) := by
 refine calls_of (args := [AG [[.pointer (some ⟨b1, 0, none⟩)], encA .u8 d1], AG [encA .u8 d2]]) Try.func128 rfl (m0 + m1 + m2 + r0 + 0) ?_
 intro t ht htL
 refine ⟨_, rfl, ?_⟩
 refine CP.refr 62 [(0, AG [[.pointer (some ⟨b1, 0, none⟩)], encA .u8 d1]), (1, AG [encA .u8 d2])] (by kernel_rfl) (by kernel_rfl) ?_
 intro ds
 have tot : Step (fun l => (WL [m2, m0, m1]) l ∨ t ≤ l) g0 g0 := Step.refl _ _
 unfold F.notary_bookSigner_Sign at hs
 refine CP.seqR ?_
 refine WP.alloc (T := 123) (t + 1) [[.pointer (some ⟨b1, 0, none⟩)], encA .u8 d1] [1, 8] (by kernel_rfl) (by simp [len_encA]) ?_
 intro g1 b3 st1 hB3
 replace hB2 := hB2.mono st1 (fun x => x)
 replace hR1 := hR1.mono st1 (fun x => x) (fun x => x)
 replace hB1 := hB1.mono st1 (fun x => x)
 replace tot := tot.trans st1.pure
 refine WP.alloc (T := 37) (t + 2) [encA .u8 d2] [8] (by kernel_rfl) (by simp [len_encA]) ?_
 intro g2 b4 st2 hB4
 replace hB2 := hB2.mono st2 (fun x => x)
 replace hR1 := hR1.mono st2 (fun x => x) (fun x => x)
 replace hB1 := hB1.mono st2 (fun x => x)
 replace hB3 := hB3.mono st2 (fun x => x)
 replace tot := tot.trans st2.pure
 refine WP.stl 2 ?_
 refine WP.dn ?_
 refine NX.then_n ?_
 refine CP.seqR ?_
 refine WP.stl 1 ?_
 refine WP.loadB (v := .pointer (some ⟨b1, 0, none⟩)) hB3 (by kernel_rfl) (by kernel_rfl) ?_
 refine WP.stl 1 ?_
 refine WP.dn ?_
 refine NX.then_n ?_
 refine CP.seq ?_
 refine CP.seqR ?_
 refine WP.stl 2 ?_
 refine WP.dn ?_
 refine NX.then_n ?_
 refine CP.cond_f (by kernel_rfl) ?_
 refine CP.skip ?_
 refine NX.then_n ?_
 refine CP.seqR ?_
 refine WP.stl 1 ?_
 refine WP.loadB (v := AG [encA .u8 d1]) hB3 (by kernel_rfl) (by kernel_rfl) ?_
 refine WP.loadB (v := AG [encA .u8 d2]) hB4 (by kernel_rfl) (by kernel_rfl) ?_
 refine WP.buildS (places := #[(0, 8), (8, 8)]) (t := 126) [encA .u8 (zA 8), encA .u8 (zA 8)] [8, 8] (by kernel_rfl) (by kernel_rfl) (by simp [len_encA]) (by kernel_rfl) ((.cons (i := 0) (off := 0) (v := AG [encA .u8 d1]) (mid := [encA .u8 d1, encA .u8 (zA 8)]) [encA .u8 d1] [8] (by kernel_rfl) (by kernel_rfl) (by simp [len_encA]) (by kernel_rfl) (.cons (i := 1) (off := 8) (v := AG [encA .u8 d2]) (mid := [encA .u8 d1, encA .u8 d2]) [encA .u8 d2] [8] (by kernel_rfl) (by kernel_rfl) (by simp [len_encA]) (by kernel_rfl) .nil))) ?_
 refine WP.alloc (T := 126) (t + 3) [encA .u8 (zA 8), encA .u8 (zA 8)] [8, 8] (by kernel_rfl) (by simp [len_encA]) ?_
 intro g3 b5 st3 hB5
 replace hB1 := hB1.mono st3 (fun x => x)
 replace hB2 := hB2.mono st3 (fun x => x)
 replace hR1 := hR1.mono st3 (fun x => x) (fun x => x)
 replace hB3 := hB3.mono st3 (fun x => x)
 replace hB4 := hB4.mono st3 (fun x => x)
 replace tot := tot.trans st3.pure
 refine WP.storeB (ty := 126) (off := 0) (v := AG [encA .u8 d1, encA .u8 d2]) hB5 [encA .u8 d1, encA .u8 d2] [8, 8] (by kernel_rfl) (by kernel_rfl) (by simp [len_encA]) (by kernel_rfl) [encA .u8 d1, encA .u8 d2] (by kernel_rfl) (.arr (.arr .nil)) ?_
 intro g4 st4 hB6
 replace hB1 := hB1.mono st4 (WL.no1 (by omega))
 replace hB2 := hB2.mono st4 (WL.no1 (by omega))
 replace hR1 := hR1.mono st4 (WL.no1 (by omega)) (WL.no1 (by omega))
 replace hB3 := hB3.mono st4 (WL.no1 (by omega))
 replace hB4 := hB4.mono st4 (WL.no1 (by omega))
 replace tot := tot.trans (st4.up1 (.inr (by omega)))
 clear hB5
 have hB5 := hB6
 clear hB6
 refine WP.dn ?_
 refine NX.then_n ?_
 refine CP.refr 62 [(6, .pointer (some ⟨b1, 0, none⟩)), (7, .pointer (some ⟨b5, 0, none⟩))] (by kernel_rfl) (by kernel_rfl) ?_
 clear ds
 intro ds
 refine CP.seq ?_
 refine CP.drawL (by kernel_rfl) [3, 4, 5] N.notary_bookSigner_Sign_0 [⟨none, [], [], fun l g => MapB g m2 b2 kv_S_notary_entry (Value.int .i64) w1⟩, ⟨none, [], [], fun l g => Box g m0 b1 121 [[.slice a1 n1 c1], [.map (some b2)]] [1, 1]⟩, ⟨none, [], [], fun l g => Box g (t + 3) b5 126 [encA .u8 d1, encA .u8 d2] [8, 8]⟩, ⟨some 0, [], [0], fun l g => l.getD 0 undef = .map (some b2)⟩, ⟨some 1, [], [1], fun l g => l.getD 0 undef = AG [encA .u8 d1, encA .u8 d2]⟩, ⟨some 2, [], [2], fun l g => l.getD 0 undef = .tuple #[.int .i64 ((mapGet eqk_S_notary_entry 0 w1 (⟨d1, d2⟩ : S_notary_entry)).1), .bool ((mapGet eqk_S_notary_entry 0 w1 (⟨d1, d2⟩ : S_notary_entry)).2)]⟩] [[], [], []] [] [0, 1, 2] [6, 7, 8, 9, 10] (by kernel_rfl) (by simp) (by simp) ⟨fun _ _ _ _ st h0 hl hj hB1 => (hB1.mono st (fun h => absurd (hl _ h) (by simp))), fun _ _ _ _ st h0 hl hj hB2 => (hB2.mono st (fun h => absurd (hl _ h) (by simp))), fun _ _ _ _ st h0 hl hj hB5 => (hB5.mono st (fun h => absurd (hl _ h) (by simp))), fun _ _ _ _ st h0 hl hj e0 => e0, fun _ _ _ _ st h0 hl hj e1 => e1, fun _ _ _ _ st h0 hl hj e2 => e2, tv⟩ ⟨hB1, hB2, hB5, tv, tv, tv, tv⟩ (by kernel_rfl) (fun vs => by kernel_rfl) ?_ ?_ ?_
 ·intro j hj
  have hq : j = 0 ∨ j = 1 ∨ j = 2 ∨ j = 3 ∨ j = 4 := by have h : j < 5 := hj; omega
  rcases hq with rfl | rfl | rfl | rfl | rfl
  ·intro vs gq stq hl hf
   obtain ⟨v0, v1, v2, rfl⟩ := len_k3 hl
   have e2 := (show v2 = .tuple #[.int .i64 ((mapGet eqk_S_notary_entry 0 w1 (⟨d1, d2⟩ : S_notary_entry)).1), .bool ((mapGet eqk_S_notary_entry 0 w1 (⟨d1, d2⟩ : S_notary_entry)).2)] from hf _ (memI 5 rfl) (by kernel_rfl))
   subst e2
   show Option.isSome _ = true
   kernel_rfl
  ·intro vs gq stq hl hf
   obtain ⟨v0, v1, v2, rfl⟩ := len_k3 hl
   have e2 := (show v2 = .tuple #[.int .i64 ((mapGet eqk_S_notary_entry 0 w1 (⟨d1, d2⟩ : S_notary_entry)).1), .bool ((mapGet eqk_S_notary_entry 0 w1 (⟨d1, d2⟩ : S_notary_entry)).2)] from hf _ (memI 5 rfl) (by kernel_rfl))
   subst e2
   show Option.isSome _ = true
   kernel_rfl
  ·intro vs gq stq hl hf
   obtain ⟨v0, v1, v2, rfl⟩ := len_k3 hl
   have e2 := (show v2 = .tuple #[.int .i64 ((mapGet eqk_S_notary_entry 0 w1 (⟨d1, d2⟩ : S_notary_entry)).1), .bool ((mapGet eqk_S_notary_entry 0 w1 (⟨d1, d2⟩ : S_notary_entry)).2)] from hf _ (memI 5 rfl) (by kernel_rfl))
   subst e2
   show Option.isSome _ = true
   kernel_rfl
  ·intro vs gq stq hl hf
   obtain ⟨v0, v1, v2, rfl⟩ := len_k3 hl
   have e2 := (show v2 = .tuple #[.int .i64 ((mapGet eqk_S_notary_entry 0 w1 (⟨d1, d2⟩ : S_notary_entry)).1), .bool ((mapGet eqk_S_notary_entry 0 w1 (⟨d1, d2⟩ : S_notary_entry)).2)] from hf _ (memI 5 rfl) (by kernel_rfl))
   subst e2
   show Option.isSome _ = true
   kernel_rfl
  ·intro vs gq stq hl hf
   obtain ⟨v0, v1, v2, rfl⟩ := len_k3 hl
   have e2 := (show v2 = .tuple #[.int .i64 ((mapGet eqk_S_notary_entry 0 w1 (⟨d1, d2⟩ : S_notary_entry)).1), .bool ((mapGet eqk_S_notary_entry 0 w1 (⟨d1, d2⟩ : S_notary_entry)).2)] from hf _ (memI 5 rfl) (by kernel_rfl))
   subst e2
   show Option.isSome _ = true
   kernel_rfl
 ·intro j hj
  have hq : j = 0 ∨ j = 1 ∨ j = 2 := by have h : j < 3 := hj; omega
  rcases hq with rfl | rfl | rfl
  ·intro vs gq stq hl hf
   obtain ⟨v0, v1, v2, rfl⟩ := len_k3 hl
   have hB2 := (show Box gq m0 b1 121 [[.slice a1 n1 c1], [.map (some b2)]] [1, 1] from hf _ (memI 1 rfl) (by kernel_rfl))
   refine WP.loadB (v := .map (some b2)) hB2 (by kernel_rfl) (by kernel_rfl) ?_
   refine WP.dn (Shown.ok (v := .map (some b2)) (by kernel_rfl) (Step.refl _ _) ?_)
   exact ⟨tv, tv, tv, rfl, tv, tv, tv⟩
  ·intro vs gq stq hl hf
   obtain ⟨v0, v1, v2, rfl⟩ := len_k3 hl
   have hB5 := (show Box gq (t + 3) b5 126 [encA .u8 d1, encA .u8 d2] [8, 8] from hf _ (memI 2 rfl) (by kernel_rfl))
   refine WP.loadB (v := AG [encA .u8 d1, encA .u8 d2]) hB5 (by kernel_rfl) (by kernel_rfl) ?_
   refine WP.dn (Shown.ok (v := AG [encA .u8 d1, encA .u8 d2]) (by kernel_rfl) (Step.refl _ _) ?_)
   exact ⟨tv, tv, tv, tv, rfl, tv, tv⟩
  ·intro vs gq stq hl hf
   obtain ⟨v0, v1, v2, rfl⟩ := len_k3 hl
   have hB1 := (show MapB gq m2 b2 kv_S_notary_entry (Value.int .i64) w1 from hf _ (memI 0 rfl) (by kernel_rfl))
   have e0 := (show v0 = .map (some b2) from hf _ (memI 3 rfl) (by kernel_rfl))
   subst e0
   have e1 := (show v1 = AG [encA .u8 d1, encA .u8 d2] from hf _ (memI 4 rfl) (by kernel_rfl))
   subst e1
   refine WP.mapGet (et := 3) (z := 0) (k := (⟨d1, d2⟩ : S_notary_entry)) hB1 keyOk_S_notary_entry (by kernel_rfl) (by kernel_rfl) ?_
   refine WP.dn (Shown.ok (v := .tuple #[.int .i64 ((mapGet eqk_S_notary_entry 0 w1 (⟨d1, d2⟩ : S_notary_entry)).1), .bool ((mapGet eqk_S_notary_entry 0 w1 (⟨d1, d2⟩ : S_notary_entry)).2)]) (by kernel_rfl) (Step.refl _ _) ?_)
   exact ⟨tv, tv, tv, tv, tv, rfl, tv⟩
 intro vs g5 st5 hl hf
 obtain ⟨v0, v1, v2, rfl⟩ := len_k3 hl
 have e2 := (show v2 = .tuple #[.int .i64 ((mapGet eqk_S_notary_entry 0 w1 (⟨d1, d2⟩ : S_notary_entry)).1), .bool ((mapGet eqk_S_notary_entry 0 w1 (⟨d1, d2⟩ : S_notary_entry)).2)] from hf _ (memI 5 rfl) (by kernel_rfl))
 subst e2
 replace hB1 := hB1.mono st5.toNo (fun x => x)
 replace hB2 := hB2.mono st5.toNo (fun x => x)
 replace hR1 := hR1.mono st5.toNo (fun x => x) (fun x => x)
 replace hB5 := hB5.mono st5.toNo (fun x => x)
 replace tot := tot.trans st5.toNo.pure
 refine NX.then_n ?_
 refine CP.refr 62 [(6, .pointer (some ⟨b1, 0, none⟩)), (7, .pointer (some ⟨b5, 0, none⟩)), (8, .int .i64 ((mapGet eqk_S_notary_entry 0 w1 (⟨d1, d2⟩ : S_notary_entry)).1)), (9, .bool ((mapGet eqk_S_notary_entry 0 w1 (⟨d1, d2⟩ : S_notary_entry)).2))] (by kernel_rfl) (by kernel_rfl) ?_
 clear ds
 intro ds
 refine CP.cut (fun tm g => ∃ (l2 : List S_notary_entry) (a4 : Option Addr) (n2 : Nat) (c3 : Nat) (w2 : (List (S_notary_entry × Int))) (x1 : Int), Fr 62 [(8, .int .i64 x1)] tm ∧ Step (fun l => (WL [m2, m0, m1]) l ∨ t ≤ l) g0 g ∧ Box g m0 b1 121 [[.slice a4 n2 c3], [.map (some b2)]] [1, 1] ∧ OwnS k_S_notary_entry g m1 126 a4 n2 c3 l2 ∧ MapB g m2 b2 kv_S_notary_entry (Value.int .i64) w2 ∧ (F.notary_bookSigner_Sign.c1 l2 w2 x1) = some (o1, o2, o3, o4)) ?_ ?_
 ·refine CP.seqR ?_
  refine WP.stl 2 ?_
  refine WP.dn ?_
  refine NX.then_n ?_
  refine CP.cond (b := (!((mapGet eqk_S_notary_entry 0 w1 (⟨d1, d2⟩ : S_notary_entry)).2))) (by kernel_rfl) (fun h3 => ?_) (fun h3 => ?_)
  ·replace hs := of_if_t hs h3
   refine CP.seq ?_
   refine CP.seqR ?_
   refine WP.stl 3 ?_
   refine WP.loadB (v := .slice a1 n1 c1) hB2 (by kernel_rfl) (by kernel_rfl) ?_
   refine WP.len (a := a1) (cp := c1) hR1.len (by kernel_rfl) ?_
   refine WP.stl 1 ?_
   refine WP.dn ?_
   refine NX.then_n ?_
   refine CP.cond (b := ((l1.length : Int) == 65536)) (by kernel_rfl) (fun h4 => ?_) (fun h4 => ?_)
   ·replace hs := of_if_t hs h4
    refine CP.seqR ?_
    refine WP.stl 2 ?_
    refine WP.dn ?_
    refine NX.then_n ?_
    refine CP.ret ?_
    refine NX.then_r ?_
    refine NX.then_r ?_
    replace hs := Option.some.inj hs
    simp only [Prod.mk.injEq] at hs
    obtain ⟨rfl, rfl, rfl, rfl⟩ := hs
    exact NX.fin (v := .tuple #[.slice none 0 0, .int .i64 17]) (Res.still (by kernel_rfl)) tot htL ⟨none, 0, 0, a1, n1, c1, rfl, (OwnS.nil _ _ _ _), hB1, hR1, hB2⟩
   replace hs := of_if_f hs h4
   refine CP.skip ?_
   refine NX.then_n ?_
   refine CP.seqR ?_
   refine WP.stl 3 ?_
   refine WP.loadB (v := .slice a1 n1 c1) hB2 (by kernel_rfl) (by kernel_rfl) ?_
   refine WP.len (a := a1) (cp := c1) hR1.len (by kernel_rfl) ?_
   refine WP.stl 1 ?_
   refine WP.dn ?_
   refine NX.then_n ?_
   refine CP.refr 62 [(6, .pointer (some ⟨b1, 0, none⟩)), (7, .pointer (some ⟨b5, 0, none⟩)), (8, .int .i64 (l1.length : Int))] (by kernel_rfl) (by kernel_rfl) ?_
   clear ds
   intro ds
   refine CP.seq ?_
   by_cases hc2 : l1.length + ([(⟨d1, d2⟩ : S_notary_entry)]).length ≤ 8796093022208
   case neg => rw [if_neg hc2] at hs; cases hs
   replace hs := of_if_p hs hc2
   refine CP.drawL (by kernel_rfl) [4, 5, 6, 7, 10] N.notary_bookSigner_Sign_1 [⟨none, [1], [], fun l g => Box g m0 b1 121 [[.slice a1 n1 c1], [.map (some b2)]] [1, 1]⟩, ⟨none, [0], [], fun l g => OwnS k_S_notary_entry g m1 126 a1 n1 c1 l1⟩, ⟨none, [], [], fun l g => Box g (t + 3) b5 126 [encA .u8 d1, encA .u8 d2] [8, 8]⟩, ⟨some 0, [], [0], fun l g => l.getD 0 undef = .slice a1 n1 c1⟩, ⟨some 1, [], [1], fun l g => l.getD 0 undef = AG [encA .u8 d1, encA .u8 d2]⟩, ⟨some 2, [], [2], fun l g => ∃ (a6 : Option Addr), l.getD 0 undef = .slice a6 1 1 ∧ OwnS k_S_notary_entry g (t + 6) 126 a6 1 1 ([(⟨d1, d2⟩ : S_notary_entry)])⟩, ⟨some 3, [0], [3], fun l g => ∃ (a7 : Option Addr) (c4 : Nat), l.getD 0 undef = .slice a7 (n1 + 1) c4 ∧ OwnS k_S_notary_entry g m1 126 a7 (n1 + 1) c4 (l1 ++ [(⟨d1, d2⟩ : S_notary_entry)])⟩, ⟨some 4, [0, 1], [3], fun l g => ∃ (a7 : Option Addr) (c4 : Nat), l.getD 0 undef = .slice a7 (n1 + 1) c4 ∧ OwnS k_S_notary_entry g m1 126 a7 (n1 + 1) c4 (l1 ++ [(⟨d1, d2⟩ : S_notary_entry)]) ∧ Box g m0 b1 121 [[.slice a7 (n1 + 1) c4], [.map (some b2)]] [1, 1]⟩] [[], [], [], [0], [1]] [m1, m0] [0, 1, 2, 3, 8, 9] [] (by kernel_rfl) (by simp <;> omega) (by simp <;> omega) ⟨fun _ _ _ _ st h0 hl hj hB2 => (hB2.mono st (hj 1 (by simp) _ rfl)), fun _ _ _ _ st h0 hl hj hR1 => (hR1.mono st h0 (hj 0 (by simp) _ rfl)), fun _ _ _ _ st h0 hl hj hB5 => (hB5.mono st (fun h => absurd (hl _ h) (by simp <;> omega))), fun _ _ _ _ st h0 hl hj e0 => e0, fun _ _ _ _ st h0 hl hj e1 => e1, fun _ _ _ _ st h0 hl hj ⟨a6, e2, hR6⟩ => ⟨a6, e2, (hR6.mono st h0 (fun h => absurd (hl _ h) (by simp <;> omega)))⟩, fun _ _ _ _ st h0 hl hj ⟨a7, c4, e3, hR7⟩ => ⟨a7, c4, e3, (hR7.mono st h0 (hj 0 (by simp) _ rfl))⟩, fun _ _ _ _ st h0 hl hj ⟨a7, c4, e3, hR7, hB2⟩ => ⟨a7, c4, e3, (hR7.mono st h0 (hj 0 (by simp) _ rfl)), (hB2.mono st (hj 1 (by simp) _ rfl))⟩, tv⟩ ⟨hB2, hR1, hB5, tv, tv, tv, tv, tv, tv⟩ (by kernel_rfl) (fun vs => by kernel_rfl) ?_ ?_ ?_
   ·intro j hj; exact absurd hj (by simp)
   ·intro j hj
    have hq : j = 0 ∨ j = 1 ∨ j = 2 ∨ j = 3 ∨ j = 4 := by have h : j < 5 := hj; omega
    rcases hq with rfl | rfl | rfl | rfl | rfl
    ·intro vs gq stq hl hf
     obtain ⟨v0, v1, v2, v3, v4, rfl⟩ := len_k5 hl
     have hB2 := (show Box gq m0 b1 121 [[.slice a1 n1 c1], [.map (some b2)]] [1, 1] from hf _ (memI 0 rfl) (by kernel_rfl))
     refine WP.loadB (v := .slice a1 n1 c1) hB2 (by kernel_rfl) (by kernel_rfl) ?_
     refine WP.dn (Shown.ok (v := .slice a1 n1 c1) (by kernel_rfl) (Step.refl _ _) ?_)
     exact ⟨tv, tv, tv, rfl, tv, tv, tv, tv, tv⟩
    ·intro vs gq stq hl hf
     obtain ⟨v0, v1, v2, v3, v4, rfl⟩ := len_k5 hl
     have hB5 := (show Box gq (t + 3) b5 126 [encA .u8 d1, encA .u8 d2] [8, 8] from hf _ (memI 2 rfl) (by kernel_rfl))
     refine WP.loadB (v := AG [encA .u8 d1, encA .u8 d2]) hB5 (by kernel_rfl) (by kernel_rfl) ?_
     refine WP.dn (Shown.ok (v := AG [encA .u8 d1, encA .u8 d2]) (by kernel_rfl) (Step.refl _ _) ?_)
     exact ⟨tv, tv, tv, tv, rfl, tv, tv, tv, tv⟩
    ·intro vs gq stq hl hf
     obtain ⟨v0, v1, v2, v3, v4, rfl⟩ := len_k5 hl
     have e1 := (show v1 = AG [encA .u8 d1, encA .u8 d2] from hf _ (memI 4 rfl) (by kernel_rfl))
     subst e1
     refine WP.mkSl (kd := k_S_notary_entry) (t := 119) (e := 126) (bytes := 16) (t + 6) [AG [encA .u8 d1, encA .u8 d2]] [(⟨d1, d2⟩ : S_notary_entry)] (by kernel_rfl) (by kernel_rfl) (Nat.le_of_ble_eq_true rfl) (Nat.le_of_ble_eq_true rfl) (all_cons (Kd.len k_S_notary_entry (g := gq) (x := (⟨d1, d2⟩ : S_notary_entry)) (k_S_notary_entry.mk rfl rfl)) all_nil) (⟨_, _, rfl, (k_S_notary_entry.mk rfl rfl), rfl⟩) rfl ?_
     intro g12 a6 st12 hR6
     refine WP.dn (Shown.o (v := .slice a6 1 1) st12.pure ?_)
     exact ⟨tv, tv, tv, tv, tv, ⟨a6, rfl, hR6⟩, tv, tv, tv⟩
    ·intro vs gq stq hl hf
     obtain ⟨v0, v1, v2, v3, v4, rfl⟩ := len_k5 hl
     have hR1 := (show OwnS k_S_notary_entry gq m1 126 a1 n1 c1 l1 from hf _ (memI 1 rfl) (by kernel_rfl))
     have e0 := (show v0 = .slice a1 n1 c1 from hf _ (memI 3 rfl) (by kernel_rfl))
     subst e0
     obtain ⟨a6, e2, hR6⟩ := (show ∃ (a6 : Option Addr), v2 = .slice a6 1 1 ∧ OwnS k_S_notary_entry gq (t + 6) 126 a6 1 1 ([(⟨d1, d2⟩ : S_notary_entry)]) from hf _ (memI 5 rfl) (by kernel_rfl))
     subst e2
     refine WP.append (kd := k_S_notary_entry) (t := 119) (e := 126) (bytes := 16) (a2 := a6) (c2 := 1) hR1 hR6.src hR6.len (by kernel_rfl) (by kernel_rfl) (by omega) (by simp only [maxLen]; omega) (by omega) ?_
     intro g13 a7 c4 st13 hR7
     refine WP.dn (Shown.o (v := .slice a7 (n1 + 1) c4) st13 ?_)
     exact ⟨tv, tv, tv, tv, tv, tv, ⟨a7, c4, rfl, hR7⟩, tv, tv⟩
    ·intro vs gq stq hl hf
     obtain ⟨v0, v1, v2, v3, v4, rfl⟩ := len_k5 hl
     have hB2 := (show Box gq m0 b1 121 [[.slice a1 n1 c1], [.map (some b2)]] [1, 1] from hf _ (memI 0 rfl) (by kernel_rfl))
     obtain ⟨a7, c4, e3, hR7⟩ := (show ∃ (a7 : Option Addr) (c4 : Nat), v3 = .slice a7 (n1 + 1) c4 ∧ OwnS k_S_notary_entry gq m1 126 a7 (n1 + 1) c4 (l1 ++ [(⟨d1, d2⟩ : S_notary_entry)]) from hf _ (memI 6 rfl) (by kernel_rfl))
     subst e3
     refine WP.storeB (ty := 119) (off := 0) (v := .slice a7 (n1 + 1) c4) hB2 [[.slice a7 (n1 + 1) c4]] [1] (by kernel_rfl) (by kernel_rfl) rfl (by kernel_rfl) [[.slice a7 (n1 + 1) c4], [.map (some b2)]] (by kernel_rfl) (.one rfl .nil) ?_
     intro g14 st14 hB9
     refine WP.dn (Shown.o (v := undef) st14 ?_)
     exact ⟨tv, tv, tv, tv, tv, tv, tv, ⟨a7, c4, rfl, (hR7.mono st14 (WL.no (by simp <;> omega)) (WL.no (by simp <;> omega))), hB9⟩, tv⟩
   intro vs g15 st15 hl hf
   obtain ⟨v0, v1, v2, v3, v4, rfl⟩ := len_k5 hl
   obtain ⟨a7, c4, e3, hR7, hB2⟩ := (show ∃ (a7 : Option Addr) (c4 : Nat), v3 = .slice a7 (n1 + 1) c4 ∧ OwnS k_S_notary_entry g15 m1 126 a7 (n1 + 1) c4 (l1 ++ [(⟨d1, d2⟩ : S_notary_entry)]) ∧ Box g15 m0 b1 121 [[.slice a7 (n1 + 1) c4], [.map (some b2)]] [1, 1] from hf _ (memI 7 rfl) (by kernel_rfl))
   subst e3
   replace hB1 := hB1.mono st15 (WL.no2 (by omega) (by omega))
   replace hB5 := hB5.mono st15 (WL.no2 (by omega) (by omega))
   replace tot := tot.trans (st15.up2 (.inl (by simp [WL])) (.inl (by simp [WL])))
   refine NX.then_n ?_
   refine CP.refr 62 [(6, .pointer (some ⟨b1, 0, none⟩)), (7, .pointer (some ⟨b5, 0, none⟩)), (8, .int .i64 (l1.length : Int))] (by kernel_rfl) (by kernel_rfl) ?_
   clear ds
   intro ds
   refine CP.drawL (by kernel_rfl) [3, 4, 6] [[], [0], [0, 1], [0, 1, 2], [], [], [0, 1, 2, 3, 4, 5]] [⟨none, [0], [], fun l g => MapB g m2 b2 kv_S_notary_entry (Value.int .i64) w1⟩, ⟨none, [], [], fun l g => Box g m0 b1 121 [[.slice a7 (n1 + 1) c4], [.map (some b2)]] [1, 1]⟩, ⟨none, [], [], fun l g => Box g (t + 3) b5 126 [encA .u8 d1, encA .u8 d2] [8, 8]⟩, ⟨some 0, [], [0], fun l g => l.getD 0 undef = .map (some b2)⟩, ⟨some 1, [], [1], fun l g => l.getD 0 undef = AG [encA .u8 d1, encA .u8 d2]⟩, ⟨some 2, [0], [], fun l g => MapB g m2 b2 kv_S_notary_entry (Value.int .i64) (mapSet eqk_S_notary_entry w1 (⟨d1, d2⟩ : S_notary_entry) (l1.length : Int))⟩] [[], [], [0]] [m2] [0, 1, 2, 5] [] (by kernel_rfl) (by simp <;> omega) (by simp) ⟨fun _ _ _ _ st h0 hl hj hB1 => (hB1.mono st (hj 0 (by simp) _ rfl)), fun _ _ _ _ st h0 hl hj hB2 => (hB2.mono st (fun h => absurd (hl _ h) (by simp <;> omega))), fun _ _ _ _ st h0 hl hj hB5 => (hB5.mono st (fun h => absurd (hl _ h) (by simp <;> omega))), fun _ _ _ _ st h0 hl hj e0 => e0, fun _ _ _ _ st h0 hl hj e1 => e1, fun _ _ _ _ st h0 hl hj hB1 => (hB1.mono st (hj 0 (by simp) _ rfl)), tv⟩ ⟨hB1, hB2, hB5, tv, tv, tv, tv⟩ (by kernel_rfl) (fun vs => by kernel_rfl) ?_ ?_ ?_
   ·intro j hj; exact absurd hj (by simp)
   ·intro j hj
    have hq : j = 0 ∨ j = 1 ∨ j = 2 := by have h : j < 3 := hj; omega
    rcases hq with rfl | rfl | rfl
    ·intro vs gq stq hl hf
     obtain ⟨v0, v1, v2, rfl⟩ := len_k3 hl
     have hB2 := (show Box gq m0 b1 121 [[.slice a7 (n1 + 1) c4], [.map (some b2)]] [1, 1] from hf _ (memI 1 rfl) (by kernel_rfl))
     refine WP.loadB (v := .map (some b2)) hB2 (by kernel_rfl) (by kernel_rfl) ?_
     refine WP.dn (Shown.ok (v := .map (some b2)) (by kernel_rfl) (Step.refl _ _) ?_)
     exact ⟨tv, tv, tv, rfl, tv, tv, tv⟩
    ·intro vs gq stq hl hf
     obtain ⟨v0, v1, v2, rfl⟩ := len_k3 hl
     have hB5 := (show Box gq (t + 3) b5 126 [encA .u8 d1, encA .u8 d2] [8, 8] from hf _ (memI 2 rfl) (by kernel_rfl))
     refine WP.loadB (v := AG [encA .u8 d1, encA .u8 d2]) hB5 (by kernel_rfl) (by kernel_rfl) ?_
     refine WP.dn (Shown.ok (v := AG [encA .u8 d1, encA .u8 d2]) (by kernel_rfl) (Step.refl _ _) ?_)
     exact ⟨tv, tv, tv, tv, rfl, tv, tv⟩
    ·intro vs gq stq hl hf
     obtain ⟨v0, v1, v2, rfl⟩ := len_k3 hl
     have hB1 := (show MapB gq m2 b2 kv_S_notary_entry (Value.int .i64) w1 from hf _ (memI 0 rfl) (by kernel_rfl))
     have e0 := (show v0 = .map (some b2) from hf _ (memI 3 rfl) (by kernel_rfl))
     subst e0
     have e1 := (show v1 = AG [encA .u8 d1, encA .u8 d2] from hf _ (memI 4 rfl) (by kernel_rfl))
     subst e1
     refine WP.mapSet (k := (⟨d1, d2⟩ : S_notary_entry)) (v := (l1.length : Int)) hB1 keyOk_S_notary_entry (by kernel_rfl) ?_
     intro g16 st16 hB10
     refine WP.dn (Shown.o (v := undef) st16 ?_)
     exact ⟨tv, tv, tv, tv, tv, hB10, tv⟩
   intro vs g17 st17 hl hf
   obtain ⟨v0, v1, v2, rfl⟩ := len_k3 hl
   have hB1 := (show MapB g17 m2 b2 kv_S_notary_entry (Value.int .i64) (mapSet eqk_S_notary_entry w1 (⟨d1, d2⟩ : S_notary_entry) (l1.length : Int)) from hf _ (memI 5 rfl) (by kernel_rfl))
   replace hB2 := hB2.mono st17 (WL.no1 (by omega))
   replace hR7 := hR7.mono st17 (WL.no1 (by omega)) (WL.no1 (by omega))
   replace tot := tot.trans (st17.up1 (.inl (by simp [WL])))
   refine NX.post ?_
   exact ⟨(l1 ++ [(⟨d1, d2⟩ : S_notary_entry)]), a7, (n1 + 1), c4, (mapSet eqk_S_notary_entry w1 (⟨d1, d2⟩ : S_notary_entry) (l1.length : Int)), (l1.length : Int), ⟨by kernel_rfl, by kernel_rfl⟩, tot, hB2, hR7, hB1, hs⟩
  replace hs := of_if_f hs h3
  refine CP.skip ?_
  refine NX.post ?_
  exact ⟨l1, a1, n1, c1, w1, (mapGet eqk_S_notary_entry 0 w1 (⟨d1, d2⟩ : S_notary_entry)).1, ⟨by kernel_rfl, by kernel_rfl⟩, tot, hB2, hR1, hB1, hs⟩
 clear tot hs hB1 hB2 hR1 hB5
 rintro tm g ⟨l2, a4, n2, c3, w2, x1, hF, tot, hB2, hR4, hB1, hs⟩
 clear ds
 obtain ⟨ds, rfl⟩ := hF.open
 clear hF
 unfold F.notary_bookSigner_Sign.c1 at hs
 refine CP.seqR ?_
 refine WP.stl 5 ?_
 refine WP.mkSl (kd := (Kd.int .u8)) (t := 33) (e := 5) (bytes := 1) (t + 5) [.int .u8 (IntKind.u8.wrap x1), .int .u8 (IntKind.u8.wrap (shV false .i64 x1 8))] [(IntKind.u8.wrap x1), (IntKind.u8.wrap (shV false .i64 x1 8))] (by kernel_rfl) (by kernel_rfl) (Nat.le_of_ble_eq_true rfl) (Nat.le_of_ble_eq_true rfl) (all_cons rfl (all_cons rfl all_nil)) (⟨_, _, rfl, (by exact rfl), ⟨_, _, rfl, (by exact rfl), rfl⟩⟩) rfl ?_
 intro g10 a5 st10 hR5
 replace hB2 := hB2.mono st10 (fun x => x)
 replace hR4 := hR4.mono st10 (fun x => x) (fun x => x)
 replace hB1 := hB1.mono st10 (fun x => x)
 replace tot := tot.trans st10.pure
 refine WP.stl 2 ?_
 refine WP.dn ?_
 refine NX.then_n ?_
 refine CP.ret ?_
 obtain ⟨g11, hw1, st11, hnew⟩ := hR5.relab (by omega) r0
 refine NX.regw hw1 ?_
 replace hB2 := hB2.mono st11 (WL.no1 (by omega))
 replace hR4 := hR4.mono st11 (WL.no1 (by omega)) (WL.no1 (by omega))
 replace hB1 := hB1.mono st11 (WL.no1 (by omega))
 replace tot := tot.trans (st11.up1 (.inr (by omega)))
 clear hR5
 have hR5 := hnew
 clear hnew
 replace hs := Option.some.inj hs
 simp only [Prod.mk.injEq] at hs
 obtain ⟨rfl, rfl, rfl, rfl⟩ := hs
 exact NX.fin (v := .tuple #[.slice a5 2 2, .int .i64 0]) (Res.still (by kernel_rfl)) tot htL ⟨a5, 2, 2, a4, n2, c3, rfl, hR5, hB1, hR4, hB2⟩
def N.notary_Book_Verify_0 : List (List Nat) := [[], [0], [0, 1], [0, 1, 2], [], [], [4, 5], [0, 1, 2, 3, 4, 5, 6], [0, 1, 2, 3, 4, 5, 6, 7], [0, 1, 2, 3, 4, 5, 6, 7, 8], [0, 1, 2, 3, 4, 5, 6, 7, 8], [0, 1, 2, 3, 4, 5, 6, 7, 8, 9], [0, 1, 2, 3, 4, 5, 6, 7, 8, 9, 10, 11]]
def F.notary_Book_Verify.c1 (q1 : Bool) : Option (Bool) := (some q1)
def N.notary_Book_Verify_1 : List (List Nat) := [[], [0], [0, 1], [0, 1], [0, 1, 3], [0, 1, 3, 4], [0, 1, 3, 4, 5], [0, 1], [0, 1, 7], [0, 1, 7, 8], [0, 1, 7, 8, 9], [0, 1, 7, 8, 9, 10], [0, 1, 3, 4, 5, 6, 7, 8, 9, 10, 11], [0, 1, 2, 3, 4, 5, 6, 7, 8, 9, 10, 11, 12], [0, 1, 2, 3, 4, 5, 6, 7, 8, 9, 10, 11, 12, 13], [0, 1, 2, 3, 4, 5, 6, 7, 8, 9, 10, 11, 12, 13, 14]]
def F.notary_Book_Verify (l1 : List S_notary_entry) (w1 : (List (S_notary_entry × Int))) (d1 : Arr Int 8) (d2 : Arr Int 8) (l2 : List Int) : Option (Bool) := (if ((l2.length : Int) != 2) = true then (some false) else (if (mapGet eqk_S_notary_entry 0 w1 (⟨d1, d2⟩ : S_notary_entry)).2 = true then (if (0 : Int) ≤ 0 ∧ 0 < (l2.length : Int) then (if (0 : Int) ≤ 1 ∧ 1 < (l2.length : Int) then (F.notary_Book_Verify.c1 (((mapGet eqk_S_notary_entry 0 w1 (⟨d1, d2⟩ : S_notary_entry)).1) == (bitOr .i64 (IntKind.i64.wrap (getI l2 0)) (shV true .i64 (IntKind.i64.wrap (getI l2 1)) 8)))) else none) else none) else (F.notary_Book_Verify.c1 false)))
theorem P.notary_Book_Verify (g0 : GW) (m0 : Nat) (m1 : Nat) (l1 : List S_notary_entry) (w1 : (List (S_notary_entry × Int))) (d1 : Arr Int 8) (d2 : Arr Int 8) (l2 : List Int) (a1 : Option Addr) (n1 : Nat) (c1 : Nat) (a2 : Option Addr) (n2 : Nat) (c2 : Nat) (b1 : Nat) (b2 : Nat) (hR1 : RdS k_S_notary_entry g0 126 a1 n1 c1 l1) (hR2 : RdS (Kd.int .u8) g0 5 a2 n2 c2 l2) (hB1 : MapB g0 m1 b2 kv_S_notary_entry (Value.int .i64) w1) (hB2 : Box g0 m0 b1 121 [[.slice a1 n1 c1], [.map (some b2)]] [1, 1]) (hm1_0 : m1 ≠ m0) (hm0 : m0 ≠ 0) (hm1 : m1 ≠ 0) (o1 : Bool) (hs : F.notary_Book_Verify l1 w1 d1 d2 l2 = some o1) :
  Calls Try.prog 25 #[.pointer (some ⟨b1, 0, none⟩), AG [encA .u8 d1], AG [encA .u8 d2], .slice a2 n2 c2] g0.w (Ret NoM g0 fun v g => v = .bool o1) := by
 refine calls_of (args := [.pointer (some ⟨b1, 0, none⟩), AG [encA .u8 d1], AG [encA .u8 d2], .slice a2 n2 c2]) Try.func25 rfl (m0 + m1 + 0) ?_
 intro t ht htL
 refine ⟨_, rfl, ?_⟩
 refine CP.refr 44 [(0, .pointer (some ⟨b1, 0, none⟩)), (1, AG [encA .u8 d1]), (2, AG [encA .u8 d2]), (3, .slice a2 n2 c2)] (by kernel_rfl) (by kernel_rfl) ?_
 intro ds
 have tot : Step (fun l => NoM l ∨ t ≤ l) g0 g0 := Step.refl _ _
 unfold F.notary_Book_Verify at hs
 refine CP.seqR ?_
 refine WP.alloc (T := 37) (t + 1) [encA .u8 d1] [8] (by kernel_rfl) (by simp [len_encA]) ?_
 intro g1 b3 st1 hB3
 replace hB2 := hB2.mono st1 (fun x => x)
 replace hR1 := hR1.mono st1 (fun x => x)
 replace hB1 := hB1.mono st1 (fun x => x)
 replace hR2 := hR2.mono st1 (fun x => x)
 replace tot := tot.trans st1.pure
 refine WP.alloc (T := 37) (t + 2) [encA .u8 d2] [8] (by kernel_rfl) (by simp [len_encA]) ?_
 intro g2 b4 st2 hB4
 replace hB2 := hB2.mono st2 (fun x => x)
 replace hR1 := hR1.mono st2 (fun x => x)
 replace hB1 := hB1.mono st2 (fun x => x)
 replace hR2 := hR2.mono st2 (fun x => x)
 replace hB3 := hB3.mono st2 (fun x => x)
 replace tot := tot.trans st2.pure
 refine WP.stl 1 ?_
 refine WP.dn ?_
 refine NX.then_n ?_
 refine CP.seq ?_
 refine CP.seq ?_
 refine CP.region ?_
 refine WP.stl 4 ?_
 refine WP.len (a := a2) (cp := c2) hR2.len (by kernel_rfl) ?_
 refine WP.stl 2 ?_
 refine WP.dn ?_
 refine NX.then_n ?_
 refine CP.cond (b := ((l2.length : Int) != 2)) (by kernel_rfl) (fun h1 => ?_) (fun h1 => ?_)
 ·replace hs := of_if_t hs h1
  refine CP.seqR ?_
  refine WP.stl 1 ?_
  refine WP.dn ?_
  refine NX.then_n ?_
  refine CP.ret ?_
  refine NX.then_r ?_
  replace hs := Option.some.inj hs
  obtain rfl := hs
  exact NX.fin (v := .bool false) (Res.still (by kernel_rfl)) tot htL rfl
 replace hs := of_if_f hs h1
 refine CP.skip ?_
 refine NX.then_n ?_
 refine CP.seq ?_
 refine CP.drawL (by kernel_rfl) [3, 4, 5, 6, 7] N.notary_Book_Verify_0 [⟨none, [], [], fun l g => Box g m0 b1 121 [[.slice a1 n1 c1], [.map (some b2)]] [1, 1]⟩, ⟨none, [], [], fun l g => MapB g m1 b2 kv_S_notary_entry (Value.int .i64) w1⟩, ⟨none, [], [], fun l g => Box g (t + 1) b3 37 [encA .u8 d1] [8]⟩, ⟨none, [], [], fun l g => Box g (t + 2) b4 37 [encA .u8 d2] [8]⟩, ⟨some 0, [], [0], fun l g => l.getD 0 undef = .map (some b2)⟩, ⟨some 1, [], [1], fun l g => l.getD 0 undef = AG [encA .u8 d1]⟩, ⟨some 2, [], [2], fun l g => l.getD 0 undef = AG [encA .u8 d2]⟩, ⟨some 3, [], [3], fun l g => l.getD 0 undef = AG [encA .u8 d1, encA .u8 d2]⟩, ⟨some 4, [], [4], fun l g => l.getD 0 undef = .tuple #[.int .i64 ((mapGet eqk_S_notary_entry 0 w1 (⟨d1, d2⟩ : S_notary_entry)).1), .bool ((mapGet eqk_S_notary_entry 0 w1 (⟨d1, d2⟩ : S_notary_entry)).2)]⟩] [[], [], [], [], []] [] [0, 1, 2] [8, 9, 10, 11, 12] (by kernel_rfl) (by simp) (by simp) ⟨fun _ _ _ _ st h0 hl hj hB2 => (hB2.mono st (fun h => absurd (hl _ h) (by simp))), fun _ _ _ _ st h0 hl hj hB1 => (hB1.mono st (fun h => absurd (hl _ h) (by simp))), fun _ _ _ _ st h0 hl hj hB3 => (hB3.mono st (fun h => absurd (hl _ h) (by simp))), fun _ _ _ _ st h0 hl hj hB4 => (hB4.mono st (fun h => absurd (hl _ h) (by simp))), fun _ _ _ _ st h0 hl hj e0 => e0, fun _ _ _ _ st h0 hl hj e1 => e1, fun _ _ _ _ st h0 hl hj e2 => e2, fun _ _ _ _ st h0 hl hj e3 => e3, fun _ _ _ _ st h0 hl hj e4 => e4, tv⟩ ⟨hB2, hB1, hB3, hB4, tv, tv, tv, tv, tv, tv⟩ (by kernel_rfl) (fun vs => by kernel_rfl) ?_ ?_ ?_
 ·intro j hj
  have hq : j = 0 ∨ j = 1 ∨ j = 2 ∨ j = 3 ∨ j = 4 := by have h : j < 5 := hj; omega
  rcases hq with rfl | rfl | rfl | rfl | rfl
  ·intro vs gq stq hl hf
   obtain ⟨v0, v1, v2, v3, v4, rfl⟩ := len_k5 hl
   have e4 := (show v4 = .tuple #[.int .i64 ((mapGet eqk_S_notary_entry 0 w1 (⟨d1, d2⟩ : S_notary_entry)).1), .bool ((mapGet eqk_S_notary_entry 0 w1 (⟨d1, d2⟩ : S_notary_entry)).2)] from hf _ (memI 8 rfl) (by kernel_rfl))
   subst e4
   show Option.isSome _ = true
   kernel_rfl
  ·intro vs gq stq hl hf
   obtain ⟨v0, v1, v2, v3, v4, rfl⟩ := len_k5 hl
   have e4 := (show v4 = .tuple #[.int .i64 ((mapGet eqk_S_notary_entry 0 w1 (⟨d1, d2⟩ : S_notary_entry)).1), .bool ((mapGet eqk_S_notary_entry 0 w1 (⟨d1, d2⟩ : S_notary_entry)).2)] from hf _ (memI 8 rfl) (by kernel_rfl))
   subst e4
   show Option.isSome _ = true
   kernel_rfl
  ·intro vs gq stq hl hf
   obtain ⟨v0, v1, v2, v3, v4, rfl⟩ := len_k5 hl
   have e4 := (show v4 = .tuple #[.int .i64 ((mapGet eqk_S_notary_entry 0 w1 (⟨d1, d2⟩ : S_notary_entry)).1), .bool ((mapGet eqk_S_notary_entry 0 w1 (⟨d1, d2⟩ : S_notary_entry)).2)] from hf _ (memI 8 rfl) (by kernel_rfl))
   subst e4
   show Option.isSome _ = true
   kernel_rfl
  ·intro vs gq stq hl hf
   obtain ⟨v0, v1, v2, v3, v4, rfl⟩ := len_k5 hl
   have e4 := (show v4 = .tuple #[.int .i64 ((mapGet eqk_S_notary_entry 0 w1 (⟨d1, d2⟩ : S_notary_entry)).1), .bool ((mapGet eqk_S_notary_entry 0 w1 (⟨d1, d2⟩ : S_notary_entry)).2)] from hf _ (memI 8 rfl) (by kernel_rfl))
   subst e4
   show Option.isSome _ = true
   kernel_rfl
  ·intro vs gq stq hl hf
   obtain ⟨v0, v1, v2, v3, v4, rfl⟩ := len_k5 hl
   have e4 := (show v4 = .tuple #[.int .i64 ((mapGet eqk_S_notary_entry 0 w1 (⟨d1, d2⟩ : S_notary_entry)).1), .bool ((mapGet eqk_S_notary_entry 0 w1 (⟨d1, d2⟩ : S_notary_entry)).2)] from hf _ (memI 8 rfl) (by kernel_rfl))
   subst e4
   show Option.isSome _ = true
   kernel_rfl
 ·intro j hj
  have hq : j = 0 ∨ j = 1 ∨ j = 2 ∨ j = 3 ∨ j = 4 := by have h : j < 5 := hj; omega
  rcases hq with rfl | rfl | rfl | rfl | rfl
  ·intro vs gq stq hl hf
   obtain ⟨v0, v1, v2, v3, v4, rfl⟩ := len_k5 hl
   have hB2 := (show Box gq m0 b1 121 [[.slice a1 n1 c1], [.map (some b2)]] [1, 1] from hf _ (memI 0 rfl) (by kernel_rfl))
   refine WP.loadB (v := .map (some b2)) hB2 (by kernel_rfl) (by kernel_rfl) ?_
   refine WP.dn (Shown.ok (v := .map (some b2)) (by kernel_rfl) (Step.refl _ _) ?_)
   exact ⟨tv, tv, tv, tv, rfl, tv, tv, tv, tv, tv⟩
  ·intro vs gq stq hl hf
   obtain ⟨v0, v1, v2, v3, v4, rfl⟩ := len_k5 hl
   have hB3 := (show Box gq (t + 1) b3 37 [encA .u8 d1] [8] from hf _ (memI 2 rfl) (by kernel_rfl))
   refine WP.loadB (v := AG [encA .u8 d1]) hB3 (by kernel_rfl) (by kernel_rfl) ?_
   refine WP.dn (Shown.ok (v := AG [encA .u8 d1]) (by kernel_rfl) (Step.refl _ _) ?_)
   exact ⟨tv, tv, tv, tv, tv, rfl, tv, tv, tv, tv⟩
  ·intro vs gq stq hl hf
   obtain ⟨v0, v1, v2, v3, v4, rfl⟩ := len_k5 hl
   have hB4 := (show Box gq (t + 2) b4 37 [encA .u8 d2] [8] from hf _ (memI 3 rfl) (by kernel_rfl))
   refine WP.loadB (v := AG [encA .u8 d2]) hB4 (by kernel_rfl) (by kernel_rfl) ?_
   refine WP.dn (Shown.ok (v := AG [encA .u8 d2]) (by kernel_rfl) (Step.refl _ _) ?_)
   exact ⟨tv, tv, tv, tv, tv, tv, rfl, tv, tv, tv⟩
  ·intro vs gq stq hl hf
   obtain ⟨v0, v1, v2, v3, v4, rfl⟩ := len_k5 hl
   have e1 := (show v1 = AG [encA .u8 d1] from hf _ (memI 5 rfl) (by kernel_rfl))
   subst e1
   have e2 := (show v2 = AG [encA .u8 d2] from hf _ (memI 6 rfl) (by kernel_rfl))
   subst e2
   refine WP.buildS (places := #[(0, 8), (8, 8)]) (t := 126) [encA .u8 (zA 8), encA .u8 (zA 8)] [8, 8] (by kernel_rfl) (by kernel_rfl) (by simp [len_encA]) (by kernel_rfl) ((.cons (i := 0) (off := 0) (v := AG [encA .u8 d1]) (mid := [encA .u8 d1, encA .u8 (zA 8)]) [encA .u8 d1] [8] (by kernel_rfl) (by kernel_rfl) (by simp [len_encA]) (by kernel_rfl) (.cons (i := 1) (off := 8) (v := AG [encA .u8 d2]) (mid := [encA .u8 d1, encA .u8 d2]) [encA .u8 d2] [8] (by kernel_rfl) (by kernel_rfl) (by simp [len_encA]) (by kernel_rfl) .nil))) ?_
   refine WP.dn (Shown.ok (v := AG [encA .u8 d1, encA .u8 d2]) (by kernel_rfl) (Step.refl _ _) ?_)
   exact ⟨tv, tv, tv, tv, tv, tv, tv, rfl, tv, tv⟩
  ·intro vs gq stq hl hf
   obtain ⟨v0, v1, v2, v3, v4, rfl⟩ := len_k5 hl
   have hB1 := (show MapB gq m1 b2 kv_S_notary_entry (Value.int .i64) w1 from hf _ (memI 1 rfl) (by kernel_rfl))
   have e0 := (show v0 = .map (some b2) from hf _ (memI 4 rfl) (by kernel_rfl))
   subst e0
   have e3 := (show v3 = AG [encA .u8 d1, encA .u8 d2] from hf _ (memI 7 rfl) (by kernel_rfl))
   subst e3
   refine WP.mapGet (et := 3) (z := 0) (k := (⟨d1, d2⟩ : S_notary_entry)) hB1 keyOk_S_notary_entry (by kernel_rfl) (by kernel_rfl) ?_
   refine WP.dn (Shown.ok (v := .tuple #[.int .i64 ((mapGet eqk_S_notary_entry 0 w1 (⟨d1, d2⟩ : S_notary_entry)).1), .bool ((mapGet eqk_S_notary_entry 0 w1 (⟨d1, d2⟩ : S_notary_entry)).2)]) (by kernel_rfl) (Step.refl _ _) ?_)
   exact ⟨tv, tv, tv, tv, tv, tv, tv, tv, rfl, tv⟩
 intro vs g3 st3 hl hf
 obtain ⟨v0, v1, v2, v3, v4, rfl⟩ := len_k5 hl
 have e4 := (show v4 = .tuple #[.int .i64 ((mapGet eqk_S_notary_entry 0 w1 (⟨d1, d2⟩ : S_notary_entry)).1), .bool ((mapGet eqk_S_notary_entry 0 w1 (⟨d1, d2⟩ : S_notary_entry)).2)] from hf _ (memI 8 rfl) (by kernel_rfl))
 subst e4
 replace hR2 := hR2.mono st3.toNo (fun x => x)
 replace tot := tot.trans st3.toNo.pure
 refine NX.then_n ?_
 refine CP.refr 44 [(3, .slice a2 n2 c2), (9, .int .i64 ((mapGet eqk_S_notary_entry 0 w1 (⟨d1, d2⟩ : S_notary_entry)).1)), (10, .bool ((mapGet eqk_S_notary_entry 0 w1 (⟨d1, d2⟩ : S_notary_entry)).2))] (by kernel_rfl) (by kernel_rfl) ?_
 clear ds
 intro ds
 refine CP.cut (fun tm g => ∃ (q1 : Bool), Fr 44 [(8, .bool q1)] tm ∧ Step (fun l => NoM l ∨ t ≤ l) g0 g ∧ (F.notary_Book_Verify.c1 q1) = some o1) ?_ ?_
 ·refine bool_split (b := (mapGet eqk_S_notary_entry 0 w1 (⟨d1, d2⟩ : S_notary_entry)).2) (fun h3 => ?_) (fun h3 => ?_)
  ·replace hs := of_if_t hs h3
   by_cases hc3 : (0 : Int) ≤ 0 ∧ 0 < (l2.length : Int)
   case neg => rw [if_neg hc3] at hs; cases hs
   replace hs := of_if_p hs hc3
   by_cases hc4 : (0 : Int) ≤ 1 ∧ 1 < (l2.length : Int)
   case neg => rw [if_neg hc4] at hs; cases hs
   replace hs := of_if_p hs hc4
   obtain ⟨b7, u3, ha3⟩ := hR2.at hc3
   obtain ⟨b8, u4, ha4⟩ := hR2.at hc4
   refine CP.drawL (by kernel_rfl) [1, 4, 5, 8, 9] N.notary_Book_Verify_1 [⟨none, [], [], fun l g => RdS (Kd.int .u8) g 5 a2 n2 c2 l2⟩, ⟨some 0, [], [0], fun l g => l.getD 0 undef = .bool true⟩, ⟨some 1, [], [1], fun l g => l.getD 0 undef = .pointer (some ⟨b7, u3 + (0 : Int).toNat * 1, none⟩)⟩, ⟨some 2, [], [2], fun l g => l.getD 0 undef = .int .u8 (getI l2 0)⟩, ⟨some 3, [], [3], fun l g => l.getD 0 undef = .pointer (some ⟨b8, u4 + (1 : Int).toNat * 1, none⟩)⟩, ⟨some 4, [], [4], fun l g => l.getD 0 undef = .int .u8 (getI l2 1)⟩] [[], [], [], [], []] [] [0] [2, 3, 6, 7, 10, 11, 12, 13, 14, 15] (by kernel_rfl) (by simp) (by simp) ⟨fun _ _ _ _ st h0 hl hj hR2 => (RdS.mono (e := 5) hR2 st h0), fun _ _ _ _ st h0 hl hj e0 => e0, fun _ _ _ _ st h0 hl hj e1 => e1, fun _ _ _ _ st h0 hl hj e2 => e2, fun _ _ _ _ st h0 hl hj e3 => e3, fun _ _ _ _ st h0 hl hj e4 => e4, tv⟩ ⟨hR2, tv, tv, tv, tv, tv, tv⟩ (by kernel_rfl) (fun vs => by kernel_rfl) ?_ ?_ ?_
   ·intro j hj
    have hq : j = 0 ∨ j = 1 ∨ j = 2 ∨ j = 3 ∨ j = 4 ∨ j = 5 ∨ j = 6 ∨ j = 7 ∨ j = 8 ∨ j = 9 := by have h : j < 10 := hj; omega
    rcases hq with rfl | rfl | rfl | rfl | rfl | rfl | rfl | rfl | rfl | rfl
    ·intro vs gq stq hl hf
     obtain ⟨v0, v1, v2, v3, v4, rfl⟩ := len_k5 hl
     have e0 := (show v0 = .bool true from hf _ (memI 1 rfl) (by kernel_rfl))
     subst e0
     show Option.isSome _ = true
     kernel_rfl
    ·intro vs gq stq hl hf
     obtain ⟨v0, v1, v2, v3, v4, rfl⟩ := len_k5 hl
     have e0 := (show v0 = .bool true from hf _ (memI 1 rfl) (by kernel_rfl))
     subst e0
     show Option.isSome _ = true
     kernel_rfl
    ·intro vs gq stq hl hf
     obtain ⟨v0, v1, v2, v3, v4, rfl⟩ := len_k5 hl
     have e0 := (show v0 = .bool true from hf _ (memI 1 rfl) (by kernel_rfl))
     subst e0
     have e2 := (show v2 = .int .u8 (getI l2 0) from hf _ (memI 3 rfl) (by kernel_rfl))
     subst e2
     show Option.isSome _ = true
     kernel_rfl
    ·intro vs gq stq hl hf
     obtain ⟨v0, v1, v2, v3, v4, rfl⟩ := len_k5 hl
     have e0 := (show v0 = .bool true from hf _ (memI 1 rfl) (by kernel_rfl))
     subst e0
     show Option.isSome _ = true
     kernel_rfl
    ·intro vs gq stq hl hf
     obtain ⟨v0, v1, v2, v3, v4, rfl⟩ := len_k5 hl
     have e0 := (show v0 = .bool true from hf _ (memI 1 rfl) (by kernel_rfl))
     subst e0
     have e4 := (show v4 = .int .u8 (getI l2 1) from hf _ (memI 5 rfl) (by kernel_rfl))
     subst e4
     show Option.isSome _ = true
     kernel_rfl
    ·intro vs gq stq hl hf
     obtain ⟨v0, v1, v2, v3, v4, rfl⟩ := len_k5 hl
     have e0 := (show v0 = .bool true from hf _ (memI 1 rfl) (by kernel_rfl))
     subst e0
     have e4 := (show v4 = .int .u8 (getI l2 1) from hf _ (memI 5 rfl) (by kernel_rfl))
     subst e4
     show Option.isSome _ = true
     kernel_rfl
    ·intro vs gq stq hl hf
     obtain ⟨v0, v1, v2, v3, v4, rfl⟩ := len_k5 hl
     have e0 := (show v0 = .bool true from hf _ (memI 1 rfl) (by kernel_rfl))
     subst e0
     have e2 := (show v2 = .int .u8 (getI l2 0) from hf _ (memI 3 rfl) (by kernel_rfl))
     subst e2
     have e4 := (show v4 = .int .u8 (getI l2 1) from hf _ (memI 5 rfl) (by kernel_rfl))
     subst e4
     show Option.isSome _ = true
     kernel_rfl
    ·intro vs gq stq hl hf
     obtain ⟨v0, v1, v2, v3, v4, rfl⟩ := len_k5 hl
     have e0 := (show v0 = .bool true from hf _ (memI 1 rfl) (by kernel_rfl))
     subst e0
     have e2 := (show v2 = .int .u8 (getI l2 0) from hf _ (memI 3 rfl) (by kernel_rfl))
     subst e2
     have e4 := (show v4 = .int .u8 (getI l2 1) from hf _ (memI 5 rfl) (by kernel_rfl))
     subst e4
     show Option.isSome _ = true
     kernel_rfl
    ·intro vs gq stq hl hf
     obtain ⟨v0, v1, v2, v3, v4, rfl⟩ := len_k5 hl
     have e0 := (show v0 = .bool true from hf _ (memI 1 rfl) (by kernel_rfl))
     subst e0
     have e2 := (show v2 = .int .u8 (getI l2 0) from hf _ (memI 3 rfl) (by kernel_rfl))
     subst e2
     have e4 := (show v4 = .int .u8 (getI l2 1) from hf _ (memI 5 rfl) (by kernel_rfl))
     subst e4
     show Option.isSome _ = true
     kernel_rfl
    ·intro vs gq stq hl hf
     obtain ⟨v0, v1, v2, v3, v4, rfl⟩ := len_k5 hl
     have e0 := (show v0 = .bool true from hf _ (memI 1 rfl) (by kernel_rfl))
     subst e0
     have e2 := (show v2 = .int .u8 (getI l2 0) from hf _ (memI 3 rfl) (by kernel_rfl))
     subst e2
     have e4 := (show v4 = .int .u8 (getI l2 1) from hf _ (memI 5 rfl) (by kernel_rfl))
     subst e4
     show Option.isSome _ = true
     kernel_rfl
   ·intro j hj
    have hq : j = 0 ∨ j = 1 ∨ j = 2 ∨ j = 3 ∨ j = 4 := by have h : j < 5 := hj; omega
    rcases hq with rfl | rfl | rfl | rfl | rfl
    ·intro vs gq stq hl hf
     obtain ⟨v0, v1, v2, v3, v4, rfl⟩ := len_k5 hl
     refine WP.stl 1 ?_
     refine WP.dn (Shown.ok (v := .bool ((mapGet eqk_S_notary_entry 0 w1 (⟨d1, d2⟩ : S_notary_entry)).2)) (by kernel_rfl) (Step.refl _ _) ?_)
     exact ⟨tv, congrArg Value.bool h3, tv, tv, tv, tv, tv⟩
    ·intro vs gq stq hl hf
     obtain ⟨v0, v1, v2, v3, v4, rfl⟩ := len_k5 hl
     have hR2 := (show RdS (Kd.int .u8) gq 5 a2 n2 c2 l2 from hf _ (memI 0 rfl) (by kernel_rfl))
     have e0 := (show v0 = .bool true from hf _ (memI 1 rfl) (by kernel_rfl))
     subst e0
     refine WP.indexA (t := 33) (e := 5) (sz := 1) (cap := c2) (k := .i64) (i := 0) hR2.len ha3 (by kernel_rfl) (by kernel_rfl) hc3 ?_
     refine WP.dn (Shown.ok (v := .pointer (some ⟨b7, u3 + (0 : Int).toNat * 1, none⟩)) (by kernel_rfl) (Step.refl _ _) ?_)
     exact ⟨tv, tv, rfl, tv, tv, tv, tv⟩
    ·intro vs gq stq hl hf
     obtain ⟨v0, v1, v2, v3, v4, rfl⟩ := len_k5 hl
     have hR2 := (show RdS (Kd.int .u8) gq 5 a2 n2 c2 l2 from hf _ (memI 0 rfl) (by kernel_rfl))
     have e0 := (show v0 = .bool true from hf _ (memI 1 rfl) (by kernel_rfl))
     subst e0
     have e1 := (show v1 = .pointer (some ⟨b7, u3 + (0 : Int).toNat * 1, none⟩) from hf _ (memI 2 rfl) (by kernel_rfl))
     subst e1
     obtain ⟨cs3, hcR3, hcV3⟩ := hR2.src.view (getI_some hc3) ha3
     replace hcR3 := Kd.o_int hcR3
     refine WP.loadV [[.int .u8 (getI l2 0)]] [1] hcV3 hcR3 rfl (f := 0) (ty := 5) (agg := false) (size := 1) (rs := [[.int .u8 (getI l2 0)]]) (v := .int .u8 (getI l2 0)) (by kernel_rfl) (by kernel_rfl) (by kernel_rfl) (by kernel_rfl) ?_
     refine WP.dn (Shown.ok (v := .int .u8 (getI l2 0)) (by kernel_rfl) (Step.refl _ _) ?_)
     exact ⟨tv, tv, tv, rfl, tv, tv, tv⟩
    ·intro vs gq stq hl hf
     obtain ⟨v0, v1, v2, v3, v4, rfl⟩ := len_k5 hl
     have hR2 := (show RdS (Kd.int .u8) gq 5 a2 n2 c2 l2 from hf _ (memI 0 rfl) (by kernel_rfl))
     have e0 := (show v0 = .bool true from hf _ (memI 1 rfl) (by kernel_rfl))
     subst e0
     refine WP.indexA (t := 33) (e := 5) (sz := 1) (cap := c2) (k := .i64) (i := 1) hR2.len ha4 (by kernel_rfl) (by kernel_rfl) hc4 ?_
     refine WP.dn (Shown.ok (v := .pointer (some ⟨b8, u4 + (1 : Int).toNat * 1, none⟩)) (by kernel_rfl) (Step.refl _ _) ?_)
     exact ⟨tv, tv, tv, tv, rfl, tv, tv⟩
    ·intro vs gq stq hl hf
     obtain ⟨v0, v1, v2, v3, v4, rfl⟩ := len_k5 hl
     have hR2 := (show RdS (Kd.int .u8) gq 5 a2 n2 c2 l2 from hf _ (memI 0 rfl) (by kernel_rfl))
     have e0 := (show v0 = .bool true from hf _ (memI 1 rfl) (by kernel_rfl))
     subst e0
     have e3 := (show v3 = .pointer (some ⟨b8, u4 + (1 : Int).toNat * 1, none⟩) from hf _ (memI 4 rfl) (by kernel_rfl))
     subst e3
     obtain ⟨cs4, hcR4, hcV4⟩ := hR2.src.view (getI_some hc4) ha4
     replace hcR4 := Kd.o_int hcR4
     refine WP.loadV [[.int .u8 (getI l2 1)]] [1] hcV4 hcR4 rfl (f := 0) (ty := 5) (agg := false) (size := 1) (rs := [[.int .u8 (getI l2 1)]]) (v := .int .u8 (getI l2 1)) (by kernel_rfl) (by kernel_rfl) (by kernel_rfl) (by kernel_rfl) ?_
     refine WP.dn (Shown.ok (v := .int .u8 (getI l2 1)) (by kernel_rfl) (Step.refl _ _) ?_)
     exact ⟨tv, tv, tv, tv, tv, rfl, tv⟩
   intro vs g4 st4 hl hf
   obtain ⟨v0, v1, v2, v3, v4, rfl⟩ := len_k5 hl
   have e0 := (show v0 = .bool true from hf _ (memI 1 rfl) (by kernel_rfl))
   subst e0
   have e2 := (show v2 = .int .u8 (getI l2 0) from hf _ (memI 3 rfl) (by kernel_rfl))
   subst e2
   have e4 := (show v4 = .int .u8 (getI l2 1) from hf _ (memI 5 rfl) (by kernel_rfl))
   subst e4
   replace tot := tot.trans st4.toNo.pure
   refine NX.post ?_
   exact ⟨(((mapGet eqk_S_notary_entry 0 w1 (⟨d1, d2⟩ : S_notary_entry)).1) == (bitOr .i64 (IntKind.i64.wrap (getI l2 0)) (shV true .i64 (IntKind.i64.wrap (getI l2 1)) 8))), ⟨by kernel_rfl, by kernel_rfl⟩, tot, hs⟩
  replace hs := of_if_f hs h3
  refine CP.drawL (by kernel_rfl) [1] N.notary_Book_Verify_1 [⟨some 0, [], [0], fun l g => l.getD 0 undef = .bool false⟩] [[]] [] [0] [2, 3, 4, 5, 6, 7, 8, 9, 10, 11, 12, 13, 14, 15] (by kernel_rfl) (by simp) (by simp) ⟨fun _ _ _ _ st h0 hl hj e0 => e0, tv⟩ ⟨tv, tv⟩ (by kernel_rfl) (fun vs => by kernel_rfl) ?_ ?_ ?_
  ·intro j hj
   have hq : j = 0 ∨ j = 1 ∨ j = 2 ∨ j = 3 ∨ j = 4 ∨ j = 5 ∨ j = 6 ∨ j = 7 ∨ j = 8 ∨ j = 9 ∨ j = 10 ∨ j = 11 ∨ j = 12 ∨ j = 13 := by have h : j < 14 := hj; omega
   rcases hq with rfl | rfl | rfl | rfl | rfl | rfl | rfl | rfl | rfl | rfl | rfl | rfl | rfl | rfl
   ·intro vs gq stq hl hf
    obtain ⟨v0, rfl⟩ := len_k1 hl
    have e0 := (show v0 = .bool false from hf _ (memI 0 rfl) (by kernel_rfl))
    subst e0
    show Option.isSome _ = true
    kernel_rfl
   ·intro vs gq stq hl hf
    obtain ⟨v0, rfl⟩ := len_k1 hl
    have e0 := (show v0 = .bool false from hf _ (memI 0 rfl) (by kernel_rfl))
    subst e0
    show Option.isSome _ = true
    kernel_rfl
   ·intro vs gq stq hl hf
    obtain ⟨v0, rfl⟩ := len_k1 hl
    have e0 := (show v0 = .bool false from hf _ (memI 0 rfl) (by kernel_rfl))
    subst e0
    show Option.isSome _ = true
    kernel_rfl
   ·intro vs gq stq hl hf
    obtain ⟨v0, rfl⟩ := len_k1 hl
    have e0 := (show v0 = .bool false from hf _ (memI 0 rfl) (by kernel_rfl))
    subst e0
    show Option.isSome _ = true
    kernel_rfl
   ·intro vs gq stq hl hf
    obtain ⟨v0, rfl⟩ := len_k1 hl
    have e0 := (show v0 = .bool false from hf _ (memI 0 rfl) (by kernel_rfl))
    subst e0
    show Option.isSome _ = true
    kernel_rfl
   ·intro vs gq stq hl hf
    obtain ⟨v0, rfl⟩ := len_k1 hl
    have e0 := (show v0 = .bool false from hf _ (memI 0 rfl) (by kernel_rfl))
    subst e0
    show Option.isSome _ = true
    kernel_rfl
   ·intro vs gq stq hl hf
    obtain ⟨v0, rfl⟩ := len_k1 hl
    have e0 := (show v0 = .bool false from hf _ (memI 0 rfl) (by kernel_rfl))
    subst e0
    show Option.isSome _ = true
    kernel_rfl
   ·intro vs gq stq hl hf
    obtain ⟨v0, rfl⟩ := len_k1 hl
    have e0 := (show v0 = .bool false from hf _ (memI 0 rfl) (by kernel_rfl))
    subst e0
    show Option.isSome _ = true
    kernel_rfl
   ·intro vs gq stq hl hf
    obtain ⟨v0, rfl⟩ := len_k1 hl
    have e0 := (show v0 = .bool false from hf _ (memI 0 rfl) (by kernel_rfl))
    subst e0
    show Option.isSome _ = true
    kernel_rfl
   ·intro vs gq stq hl hf
    obtain ⟨v0, rfl⟩ := len_k1 hl
    have e0 := (show v0 = .bool false from hf _ (memI 0 rfl) (by kernel_rfl))
    subst e0
    show Option.isSome _ = true
    kernel_rfl
   ·intro vs gq stq hl hf
    obtain ⟨v0, rfl⟩ := len_k1 hl
    have e0 := (show v0 = .bool false from hf _ (memI 0 rfl) (by kernel_rfl))
    subst e0
    show Option.isSome _ = true
    kernel_rfl
   ·intro vs gq stq hl hf
    obtain ⟨v0, rfl⟩ := len_k1 hl
    have e0 := (show v0 = .bool false from hf _ (memI 0 rfl) (by kernel_rfl))
    subst e0
    show Option.isSome _ = true
    kernel_rfl
   ·intro vs gq stq hl hf
    obtain ⟨v0, rfl⟩ := len_k1 hl
    have e0 := (show v0 = .bool false from hf _ (memI 0 rfl) (by kernel_rfl))
    subst e0
    show Option.isSome _ = true
    kernel_rfl
   ·intro vs gq stq hl hf
    obtain ⟨v0, rfl⟩ := len_k1 hl
    have e0 := (show v0 = .bool false from hf _ (memI 0 rfl) (by kernel_rfl))
    subst e0
    show Option.isSome _ = true
    kernel_rfl
  ·intro j hj
   have hq : j = 0 := by have h : j < 1 := hj; omega
   rcases hq with rfl
   ·intro vs gq stq hl hf
    obtain ⟨v0, rfl⟩ := len_k1 hl
    refine WP.stl 1 ?_
    refine WP.dn (Shown.ok (v := .bool ((mapGet eqk_S_notary_entry 0 w1 (⟨d1, d2⟩ : S_notary_entry)).2)) (by kernel_rfl) (Step.refl _ _) ?_)
    exact ⟨congrArg Value.bool h3, tv⟩
  intro vs g5 st5 hl hf
  obtain ⟨v0, rfl⟩ := len_k1 hl
  have e0 := (show v0 = .bool false from hf _ (memI 0 rfl) (by kernel_rfl))
  subst e0
  replace tot := tot.trans st5.toNo.pure
  refine NX.post ?_
  exact ⟨false, ⟨by kernel_rfl, by kernel_rfl⟩, tot, hs⟩
 clear tot hs hR2
 rintro tm g ⟨q1, hF, tot, hs⟩
 clear ds
 obtain ⟨ds, rfl⟩ := hF.open
 clear hF
 unfold F.notary_Book_Verify.c1 at hs
 refine CP.ret ?_
 replace hs := Option.some.inj hs
 obtain rfl := hs
 exact NX.fin (v := .bool q1) (Res.still (by kernel_rfl)) tot htL rfl
def F.punish_Thing_known.c1 (q1 : Bool) : Option (Bool) := (some q1)
def F.punish_Thing_known (x1 : Int) (d1 : Arr Int 8) (x2 : Int) (l1 : List Int) (d2 : Arr Int 8) (x3 : Int) (d3 : Arr Int 8) (l2 : List Int) (l3 : List Int) : Option (Bool) := (if (x1 == 0) = true then (F.punish_Thing_known.c1 true) else (F.punish_Thing_known.c1 (x1 == 1)))
theorem P.punish_Thing_known (g0 : GW) (x1 : Int) (d1 : Arr Int 8) (x2 : Int) (l1 : List Int) (d2 : Arr Int 8) (x3 : Int) (d3 : Arr Int 8) (l2 : List Int) (l3 : List Int) (a1 : Option Addr) (n1 : Nat) (c1 : Nat) (a2 : Option Addr) (n2 : Nat) (c2 : Nat) (a3 : Option Addr) (n3 : Nat) (c3 : Nat) (hR1 : RdS (Kd.int .u8) g0 5 a1 n1 c1 l1) (hR2 : RdS (Kd.int .u8) g0 5 a2 n2 c2 l2) (hR3 : RdS (Kd.int .u8) g0 5 a3 n3 c3 l3) (o1 : Bool) (hs : F.punish_Thing_known x1 d1 x2 l1 d2 x3 d3 l2 l3 = some o1) :
  Calls Try.prog 60 #[AG [[.int .i64 x1], encA .u8 d1, [.int .i64 x2], [.slice a1 n1 c1], encA .u8 d2, [.int .i64 x3], encA .u8 d3, [.slice a2 n2 c2], [.slice a3 n3 c3]]] g0.w (Ret NoM g0 fun v g => v = .bool o1) := by
 refine calls_of (args := [AG [[.int .i64 x1], encA .u8 d1, [.int .i64 x2], [.slice a1 n1 c1], encA .u8 d2, [.int .i64 x3], encA .u8 d3, [.slice a2 n2 c2], [.slice a3 n3 c3]]]) Try.func60 rfl (0) ?_
 intro t ht htL
 refine ⟨_, rfl, ?_⟩
 refine CP.refr 11 [(0, AG [[.int .i64 x1], encA .u8 d1, [.int .i64 x2], [.slice a1 n1 c1], encA .u8 d2, [.int .i64 x3], encA .u8 d3, [.slice a2 n2 c2], [.slice a3 n3 c3]])] (by kernel_rfl) (by kernel_rfl) ?_
 intro ds
 have tot : Step (fun l => NoM l ∨ t ≤ l) g0 g0 := Step.refl _ _
 unfold F.punish_Thing_known at hs
 refine CP.seqR ?_
 refine WP.alloc (T := 43) (t + 1) [[.int .i64 x1], encA .u8 d1, [.int .i64 x2], [.slice a1 n1 c1], encA .u8 d2, [.int .i64 x3], encA .u8 d3, [.slice a2 n2 c2], [.slice a3 n3 c3]] [1, 8, 1, 1, 8, 1, 8, 1, 1] (by kernel_rfl) (by simp [len_encA]) ?_
 intro g1 b1 st1 hB1
 replace hR1 := hR1.mono st1 (fun x => x)
 replace hR2 := hR2.mono st1 (fun x => x)
 replace hR3 := hR3.mono st1 (fun x => x)
 replace tot := tot.trans st1.pure
 refine WP.stl 1 ?_
 refine WP.dn ?_
 refine NX.then_n ?_
 refine CP.cut (fun tm g => ∃ (q1 : Bool), Fr 11 [(2, .bool q1)] tm ∧ Step (fun l => NoM l ∨ t ≤ l) g0 g ∧ (F.punish_Thing_known.c1 q1) = some o1) ?_ ?_
 ·refine CP.region ?_
  refine WP.stl 1 ?_
  refine WP.loadB (v := .int .i64 x1) hB1 (by kernel_rfl) (by kernel_rfl) ?_
  refine WP.stl 2 ?_
  refine WP.guard 6 (b := (x1 == 0)) (by kernel_rfl) (fun h2 => ?_) (fun h2 => ?_)
  ·replace hs := of_if_t hs h2
   refine WP.stl 5 ?_
   refine WP.dn ?_
   refine NX.post ?_
   exact ⟨true, ⟨by kernel_rfl, by kernel_rfl⟩, tot, hs⟩
  replace hs := of_if_f hs h2
  refine WP.stl 1 ?_
  refine WP.loadB (v := .int .i64 x1) hB1 (by kernel_rfl) (by kernel_rfl) ?_
  refine WP.stl 3 ?_
  refine WP.dn ?_
  refine NX.post ?_
  exact ⟨(x1 == 1), ⟨by kernel_rfl, by kernel_rfl⟩, tot, hs⟩
 clear tot hs hB1 hR1 hR2 hR3
 rintro tm g ⟨q1, hF, tot, hs⟩
 clear ds
 obtain ⟨ds, rfl⟩ := hF.open
 clear hF
 unfold F.punish_Thing_known.c1 at hs
 refine CP.ret ?_
 replace hs := Option.some.inj hs
 obtain rfl := hs
 exact NX.fin (v := .bool q1) (Res.still (by kernel_rfl)) tot htL rfl
def F.punish_Thing_bodies (x1 : Int) (d1 : Arr Int 8) (x2 : Int) (l1 : List Int) (d2 : Arr Int 8) (x3 : Int) (d3 : Arr Int 8) (l2 : List Int) (l3 : List Int) : Option ((Arr Int 8) × Int × (Arr Int 8) × (List Int) × (Arr Int 8) × Int × (Arr Int 8) × (List Int)) := (some (d1, x2, (zA 8), l1, d2, x3, d3, l2))
theorem P.punish_Thing_bodies (g0 : GW) (x1 : Int) (d1 : Arr Int 8) (x2 : Int) (l1 : List Int) (d2 : Arr Int 8) (x3 : Int) (d3 : Arr Int 8) (l2 : List Int) (l3 : List Int) (a1 : Option Addr) (n1 : Nat) (c1 : Nat) (a2 : Option Addr) (n2 : Nat) (c2 : Nat) (a3 : Option Addr) (n3 : Nat) (c3 : Nat) (hR1 : RdS (Kd.int .u8) g0 5 a1 n1 c1 l1) (hR2 : RdS (Kd.int .u8) g0 5 a2 n2 c2 l2) (hR3 : RdS (Kd.int .u8) g0 5 a3 n3 c3 l3) (o1 : Arr Int 8) (o2 : Int) (o3 : Arr Int 8) (o4 : List Int) (o5 : Arr Int 8) (o6 : Int) (o7 : Arr Int 8) (o8 : List Int) (hs : F.punish_Thing_bodies x1 d1 x2 l1 d2 x3 d3 l2 l3 = some (o1, o2, o3, o4, o5, o6, o7, o8)) :
  Calls Try.prog 55 #[AG [[.int .i64 x1], encA .u8 d1, [.int .i64 x2], [.slice a1 n1 c1], encA .u8 d2, [.int .i64 x3], encA .u8 d3, [.slice a2 n2 c2], [.slice a3 n3 c3]]] g0.w (Ret NoM g0 fun v g => ∃ (a_1 : Option Addr) (n_1 : Nat) (c_1 : Nat) (a_4 : Option Addr) (n_4 : Nat) (c_4 : Nat), v = AG [encA .u8 o1, [.int .i64 o2], encA .u8 o3, [.slice a_1 n_1 c_1], encA .u8 o5, [.int .i64 o6], encA .u8 o7, [.slice a_4 n_4 c_4]] ∧ RdS (Kd.int .u8) g 5 a_1 n_1 c_1 o4 ∧ RdS (Kd.int .u8) g 5 a_4 n_4 c_4 o8) := by
 refine calls_of (args := [AG [[.int .i64 x1], encA .u8 d1, [.int .i64 x2], [.slice a1 n1 c1], encA .u8 d2, [.int .i64 x3], encA .u8 d3, [.slice a2 n2 c2], [.slice a3 n3 c3]]]) Try.func55 rfl (0) ?_
 intro t ht htL
 refine ⟨_, rfl, ?_⟩
 refine CP.refr 28 [(0, AG [[.int .i64 x1], encA .u8 d1, [.int .i64 x2], [.slice a1 n1 c1], encA .u8 d2, [.int .i64 x3], encA .u8 d3, [.slice a2 n2 c2], [.slice a3 n3 c3]])] (by kernel_rfl) (by kernel_rfl) ?_
 intro ds
 have tot : Step (fun l => NoM l ∨ t ≤ l) g0 g0 := Step.refl _ _
 unfold F.punish_Thing_bodies at hs
 refine CP.seqR ?_
 refine WP.alloc (T := 43) (t + 1) [[.int .i64 x1], encA .u8 d1, [.int .i64 x2], [.slice a1 n1 c1], encA .u8 d2, [.int .i64 x3], encA .u8 d3, [.slice a2 n2 c2], [.slice a3 n3 c3]] [1, 8, 1, 1, 8, 1, 8, 1, 1] (by kernel_rfl) (by simp [len_encA]) ?_
 intro g1 b1 st1 hB1
 replace hR1 := hR1.mono st1 (fun x => x)
 replace hR2 := hR2.mono st1 (fun x => x)
 replace hR3 := hR3.mono st1 (fun x => x)
 replace tot := tot.trans st1.pure
 refine WP.alloc (T := 115) (t + 2) [encA .u8 (zA 8), [.int .i64 0], encA .u8 (zA 8), [.slice none 0 0], encA .u8 (zA 8), [.int .i64 0], encA .u8 (zA 8), [.slice none 0 0]] [8, 1, 8, 1, 8, 1, 8, 1] (by kernel_rfl) (by simp [len_encA]) ?_
 intro g2 b2 st2 hB2
 replace hR1 := hR1.mono st2 (fun x => x)
 replace hR2 := hR2.mono st2 (fun x => x)
 replace hR3 := hR3.mono st2 (fun x => x)
 replace hB1 := hB1.mono st2 (fun x => x)
 replace tot := tot.trans st2.pure
 refine WP.dn ?_
 refine NX.then_n ?_
 refine CP.seqR ?_
 refine WP.stl 2 ?_
 refine WP.loadB (v := AG [encA .u8 d1]) hB1 (by kernel_rfl) (by kernel_rfl) ?_
 refine WP.stl 2 ?_
 refine WP.loadB (v := .int .i64 x2) hB1 (by kernel_rfl) (by kernel_rfl) ?_
 refine WP.stl 3 ?_
 refine WP.loadB (v := .slice a1 n1 c1) hB1 (by kernel_rfl) (by kernel_rfl) ?_
 refine WP.buildS (places := #[(0, 8), (8, 1), (9, 8), (17, 1)]) (t := 91) [encA .u8 (zA 8), [.int .i64 0], encA .u8 (zA 8), [.slice none 0 0]] [8, 1, 8, 1] (by kernel_rfl) (by kernel_rfl) (by simp [len_encA]) (by kernel_rfl) ((.cons (i := 0) (off := 0) (v := AG [encA .u8 d1]) (mid := [encA .u8 d1, [.int .i64 0], encA .u8 (zA 8), [.slice none 0 0]]) [encA .u8 d1] [8] (by kernel_rfl) (by kernel_rfl) (by simp [len_encA]) (by kernel_rfl) (.cons (i := 1) (off := 8) (v := .int .i64 x2) (mid := [encA .u8 d1, [.int .i64 x2], encA .u8 (zA 8), [.slice none 0 0]]) [[.int .i64 x2]] [1] (by kernel_rfl) (by kernel_rfl) rfl (by kernel_rfl) (.cons (i := 2) (off := 9) (v := AG [encA .u8 (zA 8)]) (mid := [encA .u8 d1, [.int .i64 x2], encA .u8 (zA 8), [.slice none 0 0]]) [encA .u8 (zA 8)] [8] (by kernel_rfl) (by kernel_rfl) (by simp [len_encA]) (by kernel_rfl) (.cons (i := 3) (off := 17) (v := .slice a1 n1 c1) (mid := [encA .u8 d1, [.int .i64 x2], encA .u8 (zA 8), [.slice a1 n1 c1]]) [[.slice a1 n1 c1]] [1] (by kernel_rfl) (by kernel_rfl) rfl (by kernel_rfl) .nil))))) ?_
 refine WP.stl 2 ?_
 refine WP.loadB (v := AG [encA .u8 d2]) hB1 (by kernel_rfl) (by kernel_rfl) ?_
 refine WP.stl 2 ?_
 refine WP.loadB (v := .int .i64 x3) hB1 (by kernel_rfl) (by kernel_rfl) ?_
 refine WP.stl 2 ?_
 refine WP.loadB (v := AG [encA .u8 d3]) hB1 (by kernel_rfl) (by kernel_rfl) ?_
 refine WP.stl 2 ?_
 refine WP.loadB (v := .slice a2 n2 c2) hB1 (by kernel_rfl) (by kernel_rfl) ?_
 refine WP.buildS (places := #[(0, 8), (8, 1), (9, 8), (17, 1)]) (t := 91) [encA .u8 (zA 8), [.int .i64 0], encA .u8 (zA 8), [.slice none 0 0]] [8, 1, 8, 1] (by kernel_rfl) (by kernel_rfl) (by simp [len_encA]) (by kernel_rfl) ((.cons (i := 0) (off := 0) (v := AG [encA .u8 d2]) (mid := [encA .u8 d2, [.int .i64 0], encA .u8 (zA 8), [.slice none 0 0]]) [encA .u8 d2] [8] (by kernel_rfl) (by kernel_rfl) (by simp [len_encA]) (by kernel_rfl) (.cons (i := 1) (off := 8) (v := .int .i64 x3) (mid := [encA .u8 d2, [.int .i64 x3], encA .u8 (zA 8), [.slice none 0 0]]) [[.int .i64 x3]] [1] (by kernel_rfl) (by kernel_rfl) rfl (by kernel_rfl) (.cons (i := 2) (off := 9) (v := AG [encA .u8 d3]) (mid := [encA .u8 d2, [.int .i64 x3], encA .u8 d3, [.slice none 0 0]]) [encA .u8 d3] [8] (by kernel_rfl) (by kernel_rfl) (by simp [len_encA]) (by kernel_rfl) (.cons (i := 3) (off := 17) (v := .slice a2 n2 c2) (mid := [encA .u8 d2, [.int .i64 x3], encA .u8 d3, [.slice a2 n2 c2]]) [[.slice a2 n2 c2]] [1] (by kernel_rfl) (by kernel_rfl) rfl (by kernel_rfl) .nil))))) ?_
 refine WP.buildA (e := 91) (m := 2) (size := 18) (t := 115) [encA .u8 (zA 8), [.int .i64 0], encA .u8 (zA 8), [.slice none 0 0], encA .u8 (zA 8), [.int .i64 0], encA .u8 (zA 8), [.slice none 0 0]] [8, 1, 8, 1, 8, 1, 8, 1] (by kernel_rfl) (by kernel_rfl) (by simp [len_encA]) (by kernel_rfl) ((.cons (i := 0) (off := 0) (v := AG [encA .u8 d1, [.int .i64 x2], encA .u8 (zA 8), [.slice a1 n1 c1]]) (mid := [encA .u8 d1, [.int .i64 x2], encA .u8 (zA 8), [.slice a1 n1 c1], encA .u8 (zA 8), [.int .i64 0], encA .u8 (zA 8), [.slice none 0 0]]) [encA .u8 d1, [.int .i64 x2], encA .u8 (zA 8), [.slice a1 n1 c1]] [8, 1, 8, 1] (by kernel_rfl) (by kernel_rfl) (by simp [len_encA]) (by kernel_rfl) (.cons (i := 1) (off := 18) (v := AG [encA .u8 d2, [.int .i64 x3], encA .u8 d3, [.slice a2 n2 c2]]) (mid := [encA .u8 d1, [.int .i64 x2], encA .u8 (zA 8), [.slice a1 n1 c1], encA .u8 d2, [.int .i64 x3], encA .u8 d3, [.slice a2 n2 c2]]) [encA .u8 d2, [.int .i64 x3], encA .u8 d3, [.slice a2 n2 c2]] [8, 1, 8, 1] (by kernel_rfl) (by kernel_rfl) (by simp [len_encA]) (by kernel_rfl) .nil))) ?_
 refine WP.storeB (ty := 115) (off := 0) (v := AG [encA .u8 d1, [.int .i64 x2], encA .u8 (zA 8), [.slice a1 n1 c1], encA .u8 d2, [.int .i64 x3], encA .u8 d3, [.slice a2 n2 c2]]) hB2 [encA .u8 d1, [.int .i64 x2], encA .u8 (zA 8), [.slice a1 n1 c1], encA .u8 d2, [.int .i64 x3], encA .u8 d3, [.slice a2 n2 c2]] [8, 1, 8, 1, 8, 1, 8, 1] (by kernel_rfl) (by kernel_rfl) (by simp [len_encA]) (by kernel_rfl) [encA .u8 d1, [.int .i64 x2], encA .u8 (zA 8), [.slice a1 n1 c1], encA .u8 d2, [.int .i64 x3], encA .u8 d3, [.slice a2 n2 c2]] (by kernel_rfl) (.arr (.one rfl (.arr (.one rfl (.arr (.one rfl (.arr (.one rfl .nil)))))))) ?_
 intro g3 st3 hB3
 replace hB1 := hB1.mono st3 (WL.no1 (by omega))
 replace hR1 := hR1.mono st3 (WL.no1 (by omega))
 replace hR2 := hR2.mono st3 (WL.no1 (by omega))
 replace hR3 := hR3.mono st3 (WL.no1 (by omega))
 replace tot := tot.trans (st3.up1 (.inr (by omega)))
 clear hB2
 have hB2 := hB3
 clear hB3
 refine WP.dn ?_
 refine NX.then_n ?_
 refine CP.refr 28 [(2, .pointer (some ⟨b2, 0, none⟩))] (by kernel_rfl) (by kernel_rfl) ?_
 clear ds
 intro ds
 refine CP.ret ?_
 replace hs := Option.some.inj hs
 simp only [Prod.mk.injEq] at hs
 obtain ⟨rfl, rfl, rfl, rfl, rfl, rfl, rfl, rfl⟩ := hs
 exact NX.fin (v := AG [encA .u8 d1, [.int .i64 x2], encA .u8 (zA 8), [.slice a1 n1 c1], encA .u8 d2, [.int .i64 x3], encA .u8 d3, [.slice a2 n2 c2]]) (Res.one rfl (RV.box (agg := true) (size := 36) (rs := [encA .u8 d1, [.int .i64 x2], encA .u8 (zA 8), [.slice a1 n1 c1], encA .u8 d2, [.int .i64 x3], encA .u8 d3, [.slice a2 n2 c2]]) hB2 (by kernel_rfl) (by kernel_rfl) (by kernel_rfl) (by kernel_rfl))) tot htL ⟨a1, n1, c1, a2, n2, c2, rfl, hR1, hR2⟩
def F.punish_Thing_own (x1 : Int) (d1 : Arr Int 8) (x2 : Int) (l1 : List Int) (d2 : Arr Int 8) (x3 : Int) (d3 : Arr Int 8) (l2 : List Int) (l3 : List Int) : Option ((Arr Int 8) × Int × (Arr Int 8) × (List Int)) := ((F.punish_Thing_known x1 d1 x2 l1 d2 x3 d3 l2 l3).bind fun q1 => (if (!q1) = true then (some ((zA 8), 0, (zA 8), [])) else ((F.punish_Thing_bodies x1 d1 x2 l1 d2 x3 d3 l2 l3).bind fun (d4, x4, d5, l4, d6, x5, d7, l5) => (if (x1 == 0) = true then (some (d4, x4, d5, l4)) else (if x1 = 1 then (some (d6, x5, d7, l5)) else none)))))
theorem P.punish_Thing_own (g0 : GW) (x1 : Int) (d1 : Arr Int 8) (x2 : Int) (l1 : List Int) (d2 : Arr Int 8) (x3 : Int) (d3 : Arr Int 8) (l2 : List Int) (l3 : List Int) (a1 : Option Addr) (n1 : Nat) (c1 : Nat) (a2 : Option Addr) (n2 : Nat) (c2 : Nat) (a3 : Option Addr) (n3 : Nat) (c3 : Nat) (hR1 : RdS (Kd.int .u8) g0 5 a1 n1 c1 l1) (hR2 : RdS (Kd.int .u8) g0 5 a2 n2 c2 l2) (hR3 : RdS (Kd.int .u8) g0 5 a3 n3 c3 l3) (o1 : Arr Int 8) (o2 : Int) (o3 : Arr Int 8) (o4 : List Int) (hs : F.punish_Thing_own x1 d1 x2 l1 d2 x3 d3 l2 l3 = some (o1, o2, o3, o4)) :
  Calls Try.prog 40 #[AG [[.int .i64 x1], encA .u8 d1, [.int .i64 x2], [.slice a1 n1 c1], encA .u8 d2, [.int .i64 x3], encA .u8 d3, [.slice a2 n2 c2], [.slice a3 n3 c3]]] g0.w (Ret NoM g0 fun v g => ∃ (a_1 : Option Addr) (n_1 : Nat) (c_1 : Nat), v = AG [encA .u8 o1, [.int .i64 o2], encA .u8 o3, [.slice a_1 n_1 c_1]] ∧ RdS (Kd.int .u8) g 5 a_1 n_1 c_1 o4) := by
 refine calls_of (args := [AG [[.int .i64 x1], encA .u8 d1, [.int .i64 x2], [.slice a1 n1 c1], encA .u8 d2, [.int .i64 x3], encA .u8 d3, [.slice a2 n2 c2], [.slice a3 n3 c3]]]) Try.func40 rfl (0) ?_
 intro t ht htL
 refine ⟨_, rfl, ?_⟩
 refine CP.refr 12 [(0, AG [[.int .i64 x1], encA .u8 d1, [.int .i64 x2], [.slice a1 n1 c1], encA .u8 d2, [.int .i64 x3], encA .u8 d3, [.slice a2 n2 c2], [.slice a3 n3 c3]])] (by kernel_rfl) (by kernel_rfl) ?_
 intro ds
 have tot : Step (fun l => NoM l ∨ t ≤ l) g0 g0 := Step.refl _ _
 unfold F.punish_Thing_own at hs
 refine CP.seqR ?_
 refine WP.alloc (T := 43) (t + 1) [[.int .i64 x1], encA .u8 d1, [.int .i64 x2], [.slice a1 n1 c1], encA .u8 d2, [.int .i64 x3], encA .u8 d3, [.slice a2 n2 c2], [.slice a3 n3 c3]] [1, 8, 1, 1, 8, 1, 8, 1, 1] (by kernel_rfl) (by simp [len_encA]) ?_
 intro g1 b1 st1 hB1
 replace hR1 := hR1.mono st1 (fun x => x)
 replace hR2 := hR2.mono st1 (fun x => x)
 replace hR3 := hR3.mono st1 (fun x => x)
 replace tot := tot.trans st1.pure
 refine WP.alloc (T := 91) (t + 2) [encA .u8 (zA 8), [.int .i64 0], encA .u8 (zA 8), [.slice none 0 0]] [8, 1, 8, 1] (by kernel_rfl) (by simp [len_encA]) ?_
 intro g2 b2 st2 hB2
 replace hR1 := hR1.mono st2 (fun x => x)
 replace hR2 := hR2.mono st2 (fun x => x)
 replace hR3 := hR3.mono st2 (fun x => x)
 replace hB1 := hB1.mono st2 (fun x => x)
 replace tot := tot.trans st2.pure
 refine WP.dn ?_
 refine NX.then_n ?_
 refine CP.seq ?_
 refine CP.seqR ?_
 refine WP.loadB (v := AG [[.int .i64 x1], encA .u8 d1, [.int .i64 x2], [.slice a1 n1 c1], encA .u8 d2, [.int .i64 x3], encA .u8 d3, [.slice a2 n2 c2], [.slice a3 n3 c3]]) hB1 (by kernel_rfl) (by kernel_rfl) ?_
 replace hs := Option.bind_eq_some_iff.1 hs
 obtain ⟨q1, hk1, hs⟩ := hs
 have hcal1 := P.punish_Thing_known g2 x1 d1 x2 l1 d2 x3 d3 l2 l3 a1 n1 c1 a2 n2 c2 a3 n3 c3 hR1 hR2 hR3 q1 hk1
 refine WP.callC hcal1 (by kernel_rfl) ?_
 rintro _ g3 st3 rfl
 replace hB1 := hB1.mono st3 (fun x => x)
 replace hR1 := hR1.mono st3 (fun x => x)
 replace hR2 := hR2.mono st3 (fun x => x)
 replace hR3 := hR3.mono st3 (fun x => x)
 replace hB2 := hB2.mono st3 (fun x => x)
 replace tot := tot.trans st3.pure
 refine WP.stl 1 ?_
 refine WP.dn ?_
 refine NX.then_n ?_
 refine CP.cond (b := (!q1)) (by kernel_rfl) (fun h1 => ?_) (fun h1 => ?_)
 ·replace hs := of_if_t hs h1
  refine CP.seqR ?_
  refine WP.buildS (places := #[(0, 8), (8, 1), (9, 8), (17, 1)]) (t := 91) [encA .u8 (zA 8), [.int .i64 0], encA .u8 (zA 8), [.slice none 0 0]] [8, 1, 8, 1] (by kernel_rfl) (by kernel_rfl) (by simp [len_encA]) (by kernel_rfl) (.nil) ?_
  refine WP.storeB (ty := 91) (off := 0) (v := AG [encA .u8 (zA 8), [.int .i64 0], encA .u8 (zA 8), [.slice none 0 0]]) hB2 [encA .u8 (zA 8), [.int .i64 0], encA .u8 (zA 8), [.slice none 0 0]] [8, 1, 8, 1] (by kernel_rfl) (by kernel_rfl) (by simp [len_encA]) (by kernel_rfl) [encA .u8 (zA 8), [.int .i64 0], encA .u8 (zA 8), [.slice none 0 0]] (by kernel_rfl) (.arr (.one rfl (.arr (.one rfl .nil)))) ?_
  intro g4 st4 hB3
  replace hB1 := hB1.mono st4 (WL.no1 (by omega))
  replace hR1 := hR1.mono st4 (WL.no1 (by omega))
  replace hR2 := hR2.mono st4 (WL.no1 (by omega))
  replace hR3 := hR3.mono st4 (WL.no1 (by omega))
  replace tot := tot.trans (st4.up1 (.inr (by omega)))
  clear hB2
  have hB2 := hB3
  clear hB3
  refine WP.dn ?_
  refine NX.then_n ?_
  refine CP.ret ?_
  refine NX.then_r ?_
  replace hs := Option.some.inj hs
  simp only [Prod.mk.injEq] at hs
  obtain ⟨rfl, rfl, rfl, rfl⟩ := hs
  exact NX.fin (v := AG [encA .u8 (zA 8), [.int .i64 0], encA .u8 (zA 8), [.slice none 0 0]]) (Res.one rfl (RV.box (agg := true) (size := 18) (rs := [encA .u8 (zA 8), [.int .i64 0], encA .u8 (zA 8), [.slice none 0 0]]) hB2 (by kernel_rfl) (by kernel_rfl) (by kernel_rfl) (by kernel_rfl))) tot htL ⟨none, 0, 0, rfl, (RdS.nil _ _ _)⟩
 replace hs := of_if_f hs h1
 refine CP.skip ?_
 refine NX.then_n ?_
 refine CP.seq ?_
 replace hs := Option.bind_eq_some_iff.1 hs
 obtain ⟨⟨d4, x4, d5, l4, d6, x5, d7, l5⟩, hk2, hs⟩ := hs
 dsimp only at hs
 refine bool_split (b := (x1 == 0)) (fun h2 => ?_) (fun h2 => ?_)
 ·replace hs := of_if_t hs h2
  refine CP.drawL (by kernel_rfl) [0, 1, 3, 4, 5] [[], [0], [], [2], [0, 1, 2, 3], [0, 1, 2, 3, 4]] [⟨none, [], [], fun l g => Box g (t + 1) b1 43 [[.int .i64 x1], encA .u8 d1, [.int .i64 x2], [.slice a1 n1 c1], encA .u8 d2, [.int .i64 x3], encA .u8 d3, [.slice a2 n2 c2], [.slice a3 n3 c3]] [1, 8, 1, 1, 8, 1, 8, 1, 1]⟩, ⟨none, [], [], fun l g => RdS (Kd.int .u8) g 5 a1 n1 c1 l1⟩, ⟨none, [], [], fun l g => RdS (Kd.int .u8) g 5 a2 n2 c2 l2⟩, ⟨none, [], [], fun l g => RdS (Kd.int .u8) g 5 a3 n3 c3 l3⟩, ⟨none, [0], [], fun l g => Box g (t + 2) b2 91 [encA .u8 (zA 8), [.int .i64 0], encA .u8 (zA 8), [.slice none 0 0]] [8, 1, 8, 1]⟩, ⟨some 0, [], [0], fun l g => l.getD 0 undef = AG [[.int .i64 x1], encA .u8 d1, [.int .i64 x2], [.slice a1 n1 c1], encA .u8 d2, [.int .i64 x3], encA .u8 d3, [.slice a2 n2 c2], [.slice a3 n3 c3]]⟩, ⟨some 1, [], [1], fun l g => ∃ (a4 : Option Addr) (c4 : Nat) (a5 : Option Addr) (c5 : Nat), l.getD 0 undef = AG [encA .u8 d4, [.int .i64 x4], encA .u8 d5, [.slice a4 l4.length c4], encA .u8 d6, [.int .i64 x5], encA .u8 d7, [.slice a5 l5.length c5]] ∧ RdS (Kd.int .u8) g 5 a4 l4.length c4 l4 ∧ RdS (Kd.int .u8) g 5 a5 l5.length c5 l5⟩, ⟨some 2, [], [2], fun l g => l.getD 0 undef = .int .i64 x1⟩, ⟨some 3, [], [3, 1], fun l g => ∃ (a4 : Option Addr) (c4 : Nat) (a5 : Option Addr) (c5 : Nat), l.getD 0 undef = AG [encA .u8 d4, [.int .i64 x4], encA .u8 d5, [.slice a4 l4.length c4]] ∧ l.getD 1 undef = AG [encA .u8 d4, [.int .i64 x4], encA .u8 d5, [.slice a4 l4.length c4], encA .u8 d6, [.int .i64 x5], encA .u8 d7, [.slice a5 l5.length c5]] ∧ RdS (Kd.int .u8) g 5 a4 l4.length c4 l4 ∧ RdS (Kd.int .u8) g 5 a5 l5.length c5 l5⟩, ⟨some 4, [0], [3, 1], fun l g => ∃ (a4 : Option Addr) (c4 : Nat) (a5 : Option Addr) (c5 : Nat), l.getD 0 undef = AG [encA .u8 d4, [.int .i64 x4], encA .u8 d5, [.slice a4 l4.length c4]] ∧ l.getD 1 undef = AG [encA .u8 d4, [.int .i64 x4], encA .u8 d5, [.slice a4 l4.length c4], encA .u8 d6, [.int .i64 x5], encA .u8 d7, [.slice a5 l5.length c5]] ∧ RdS (Kd.int .u8) g 5 a4 l4.length c4 l4 ∧ RdS (Kd.int .u8) g 5 a5 l5.length c5 l5 ∧ Box g (t + 2) b2 91 [encA .u8 d4, [.int .i64 x4], encA .u8 d5, [.slice a4 l4.length c4]] [8, 1, 8, 1]⟩] [[], [], [], [], [0]] [(t + 2)] [2] [] (by kernel_rfl) (by simp <;> omega) (by simp) ⟨fun _ _ _ _ st h0 hl hj hB1 => (hB1.mono st (fun h => absurd (hl _ h) (by simp <;> omega))), fun _ _ _ _ st h0 hl hj hR1 => (RdS.mono (e := 5) hR1 st h0), fun _ _ _ _ st h0 hl hj hR2 => (RdS.mono (e := 5) hR2 st h0), fun _ _ _ _ st h0 hl hj hR3 => (RdS.mono (e := 5) hR3 st h0), fun _ _ _ _ st h0 hl hj hB2 => (hB2.mono st (hj 0 (by simp) _ rfl)), fun _ _ _ _ st h0 hl hj e0 => e0, fun _ _ _ _ st h0 hl hj ⟨a4, c4, a5, c5, e1, hR4, hR5⟩ => ⟨a4, c4, a5, c5, e1, (RdS.mono (e := 5) hR4 st h0), (RdS.mono (e := 5) hR5 st h0)⟩, fun _ _ _ _ st h0 hl hj e2 => e2, fun _ _ _ _ st h0 hl hj ⟨a4, c4, a5, c5, e3, e1, hR4, hR5⟩ => ⟨a4, c4, a5, c5, e3, e1, (RdS.mono (e := 5) hR4 st h0), (RdS.mono (e := 5) hR5 st h0)⟩, fun _ _ _ _ st h0 hl hj ⟨a4, c4, a5, c5, e3, e1, hR4, hR5, hB2⟩ => ⟨a4, c4, a5, c5, e3, e1, (RdS.mono (e := 5) hR4 st h0), (RdS.mono (e := 5) hR5 st h0), (hB2.mono st (hj 0 (by simp) _ rfl))⟩, tv⟩ ⟨hB1, hR1, hR2, hR3, hB2, tv, tv, tv, tv, tv, tv⟩ (by kernel_rfl) (fun vs => by kernel_rfl) ?_ ?_ ?_
  ·intro j hj; exact absurd hj (by simp)
  ·intro j hj
   have hq : j = 0 ∨ j = 1 ∨ j = 2 ∨ j = 3 ∨ j = 4 := by have h : j < 5 := hj; omega
   rcases hq with rfl | rfl | rfl | rfl | rfl
   ·intro vs gq stq hl hf
    obtain ⟨v0, v1, v2, v3, v4, rfl⟩ := len_k5 hl
    have hB1 := (show Box gq (t + 1) b1 43 [[.int .i64 x1], encA .u8 d1, [.int .i64 x2], [.slice a1 n1 c1], encA .u8 d2, [.int .i64 x3], encA .u8 d3, [.slice a2 n2 c2], [.slice a3 n3 c3]] [1, 8, 1, 1, 8, 1, 8, 1, 1] from hf _ (memI 0 rfl) (by kernel_rfl))
    refine WP.loadB (v := AG [[.int .i64 x1], encA .u8 d1, [.int .i64 x2], [.slice a1 n1 c1], encA .u8 d2, [.int .i64 x3], encA .u8 d3, [.slice a2 n2 c2], [.slice a3 n3 c3]]) hB1 (by kernel_rfl) (by kernel_rfl) ?_
    refine WP.dn (Shown.ok (v := AG [[.int .i64 x1], encA .u8 d1, [.int .i64 x2], [.slice a1 n1 c1], encA .u8 d2, [.int .i64 x3], encA .u8 d3, [.slice a2 n2 c2], [.slice a3 n3 c3]]) (by kernel_rfl) (Step.refl _ _) ?_)
    exact ⟨tv, tv, tv, tv, tv, rfl, tv, tv, tv, tv, tv⟩
   ·intro vs gq stq hl hf
    obtain ⟨v0, v1, v2, v3, v4, rfl⟩ := len_k5 hl
    have hR1 := (show RdS (Kd.int .u8) gq 5 a1 n1 c1 l1 from hf _ (memI 1 rfl) (by kernel_rfl))
    have hR2 := (show RdS (Kd.int .u8) gq 5 a2 n2 c2 l2 from hf _ (memI 2 rfl) (by kernel_rfl))
    have hR3 := (show RdS (Kd.int .u8) gq 5 a3 n3 c3 l3 from hf _ (memI 3 rfl) (by kernel_rfl))
    have e0 := (show v0 = AG [[.int .i64 x1], encA .u8 d1, [.int .i64 x2], [.slice a1 n1 c1], encA .u8 d2, [.int .i64 x3], encA .u8 d3, [.slice a2 n2 c2], [.slice a3 n3 c3]] from hf _ (memI 5 rfl) (by kernel_rfl))
    subst e0
    have hcal2 := P.punish_Thing_bodies gq x1 d1 x2 l1 d2 x3 d3 l2 l3 a1 n1 c1 a2 n2 c2 a3 n3 c3 hR1 hR2 hR3 d4 x4 d5 l4 d6 x5 d7 l5 hk2
    refine WP.callC hcal2 (by kernel_rfl) ?_
    rintro _ g5 st5 ⟨a4, n4, c4, a5, n5, c5, rfl, hR4, hR5⟩
    obtain rfl := hR4.len
    obtain rfl := hR5.len
    refine WP.dn (Shown.o (v := AG [encA .u8 d4, [.int .i64 x4], encA .u8 d5, [.slice a4 l4.length c4], encA .u8 d6, [.int .i64 x5], encA .u8 d7, [.slice a5 l5.length c5]]) st5.pure ?_)
    exact ⟨tv, tv, tv, tv, tv, tv, ⟨a4, c4, a5, c5, rfl, hR4, hR5⟩, tv, tv, tv, tv⟩
   ·intro vs gq stq hl hf
    obtain ⟨v0, v1, v2, v3, v4, rfl⟩ := len_k5 hl
    have hB1 := (show Box gq (t + 1) b1 43 [[.int .i64 x1], encA .u8 d1, [.int .i64 x2], [.slice a1 n1 c1], encA .u8 d2, [.int .i64 x3], encA .u8 d3, [.slice a2 n2 c2], [.slice a3 n3 c3]] [1, 8, 1, 1, 8, 1, 8, 1, 1] from hf _ (memI 0 rfl) (by kernel_rfl))
    refine WP.loadB (v := .int .i64 x1) hB1 (by kernel_rfl) (by kernel_rfl) ?_
    refine WP.dn (Shown.ok (v := .int .i64 x1) (by kernel_rfl) (Step.refl _ _) ?_)
    exact ⟨tv, tv, tv, tv, tv, tv, tv, rfl, tv, tv, tv⟩
   ·intro vs gq stq hl hf
    obtain ⟨v0, v1, v2, v3, v4, rfl⟩ := len_k5 hl
    obtain ⟨a4, c4, a5, c5, e1, hR4, hR5⟩ := (show ∃ (a4 : Option Addr) (c4 : Nat) (a5 : Option Addr) (c5 : Nat), v1 = AG [encA .u8 d4, [.int .i64 x4], encA .u8 d5, [.slice a4 l4.length c4], encA .u8 d6, [.int .i64 x5], encA .u8 d7, [.slice a5 l5.length c5]] ∧ RdS (Kd.int .u8) gq 5 a4 l4.length c4 l4 ∧ RdS (Kd.int .u8) gq 5 a5 l5.length c5 l5 from hf _ (memI 6 rfl) (by kernel_rfl))
    subst e1
    have e2 := (show v2 = .int .i64 x1 from hf _ (memI 7 rfl) (by kernel_rfl))
    subst e2
    refine WP.indexG (e := 91) (len := 2) (size := 18) (k := .i64) (i := x1) (segs := [encA .u8 d4, [.int .i64 x4], encA .u8 d5, [.slice a4 l4.length c4], encA .u8 d6, [.int .i64 x5], encA .u8 d7, [.slice a5 l5.length c5]]) (ns := [8, 1, 8, 1, 8, 1, 8, 1]) (v := AG [encA .u8 d4, [.int .i64 x4], encA .u8 d5, [.slice a4 l4.length c4]]) 0 (eq_of_beq h2) (Nat.le_of_ble_eq_true rfl) (by simp [len_encA]) (by kernel_rfl) (by kernel_rfl) (by kernel_rfl) ?_
    refine WP.dn (Shown.ok (v := AG [encA .u8 d4, [.int .i64 x4], encA .u8 d5, [.slice a4 l4.length c4]]) (by kernel_rfl) (Step.refl _ _) ?_)
    exact ⟨tv, tv, tv, tv, tv, tv, tv, tv, ⟨a4, c4, a5, c5, rfl, rfl, hR4, hR5⟩, tv, tv⟩
   ·intro vs gq stq hl hf
    obtain ⟨v0, v1, v2, v3, v4, rfl⟩ := len_k5 hl
    have hB2 := (show Box gq (t + 2) b2 91 [encA .u8 (zA 8), [.int .i64 0], encA .u8 (zA 8), [.slice none 0 0]] [8, 1, 8, 1] from hf _ (memI 4 rfl) (by kernel_rfl))
    obtain ⟨a4, c4, a5, c5, e3, e1, hR4, hR5⟩ := (show ∃ (a4 : Option Addr) (c4 : Nat) (a5 : Option Addr) (c5 : Nat), v3 = AG [encA .u8 d4, [.int .i64 x4], encA .u8 d5, [.slice a4 l4.length c4]] ∧ v1 = AG [encA .u8 d4, [.int .i64 x4], encA .u8 d5, [.slice a4 l4.length c4], encA .u8 d6, [.int .i64 x5], encA .u8 d7, [.slice a5 l5.length c5]] ∧ RdS (Kd.int .u8) gq 5 a4 l4.length c4 l4 ∧ RdS (Kd.int .u8) gq 5 a5 l5.length c5 l5 from hf _ (memI 8 rfl) (by kernel_rfl))
    subst e3
    subst e1
    refine WP.storeB (ty := 91) (off := 0) (v := AG [encA .u8 d4, [.int .i64 x4], encA .u8 d5, [.slice a4 l4.length c4]]) hB2 [encA .u8 d4, [.int .i64 x4], encA .u8 d5, [.slice a4 l4.length c4]] [8, 1, 8, 1] (by kernel_rfl) (by kernel_rfl) (by simp [len_encA]) (by kernel_rfl) [encA .u8 d4, [.int .i64 x4], encA .u8 d5, [.slice a4 l4.length c4]] (by kernel_rfl) (.arr (.one rfl (.arr (.one rfl .nil)))) ?_
    intro g6 st6 hB4
    refine WP.dn (Shown.o (v := undef) st6 ?_)
    exact ⟨tv, tv, tv, tv, tv, tv, tv, tv, tv, ⟨a4, c4, a5, c5, rfl, rfl, (hR4.mono st6 (WL.no (by simp <;> omega))), (hR5.mono st6 (WL.no (by simp <;> omega))), hB4⟩, tv⟩
  intro vs g7 st7 hl hf
  obtain ⟨v0, v1, v2, v3, v4, rfl⟩ := len_k5 hl
  obtain ⟨a4, c4, a5, c5, e3, e1, hR4, hR5, hB2⟩ := (show ∃ (a4 : Option Addr) (c4 : Nat) (a5 : Option Addr) (c5 : Nat), v3 = AG [encA .u8 d4, [.int .i64 x4], encA .u8 d5, [.slice a4 l4.length c4]] ∧ v1 = AG [encA .u8 d4, [.int .i64 x4], encA .u8 d5, [.slice a4 l4.length c4], encA .u8 d6, [.int .i64 x5], encA .u8 d7, [.slice a5 l5.length c5]] ∧ RdS (Kd.int .u8) g7 5 a4 l4.length c4 l4 ∧ RdS (Kd.int .u8) g7 5 a5 l5.length c5 l5 ∧ Box g7 (t + 2) b2 91 [encA .u8 d4, [.int .i64 x4], encA .u8 d5, [.slice a4 l4.length c4]] [8, 1, 8, 1] from hf _ (memI 9 rfl) (by kernel_rfl))
  subst e3
  subst e1
  replace tot := tot.trans (st7.up1 (.inr (by omega)))
  refine NX.then_n ?_
  refine CP.refr 12 [(2, .pointer (some ⟨b2, 0, none⟩))] (by kernel_rfl) (by kernel_rfl) ?_
  clear ds
  intro ds
  refine CP.ret ?_
  replace hs := Option.some.inj hs
  simp only [Prod.mk.injEq] at hs
  obtain ⟨rfl, rfl, rfl, rfl⟩ := hs
  exact NX.fin (v := AG [encA .u8 d4, [.int .i64 x4], encA .u8 d5, [.slice a4 l4.length c4]]) (Res.one rfl (RV.box (agg := true) (size := 18) (rs := [encA .u8 d4, [.int .i64 x4], encA .u8 d5, [.slice a4 l4.length c4]]) hB2 (by kernel_rfl) (by kernel_rfl) (by kernel_rfl) (by kernel_rfl))) tot htL ⟨a4, l4.length, c4, rfl, hR4⟩
 replace hs := of_if_f hs h2
 by_cases hc1 : x1 = 1
 case neg => rw [if_neg hc1] at hs; cases hs
 replace hs := of_if_p hs hc1
 refine CP.drawL (by kernel_rfl) [0, 1, 3, 4, 5] [[], [0], [], [2], [0, 1, 2, 3], [0, 1, 2, 3, 4]] [⟨none, [], [], fun l g => Box g (t + 1) b1 43 [[.int .i64 x1], encA .u8 d1, [.int .i64 x2], [.slice a1 n1 c1], encA .u8 d2, [.int .i64 x3], encA .u8 d3, [.slice a2 n2 c2], [.slice a3 n3 c3]] [1, 8, 1, 1, 8, 1, 8, 1, 1]⟩, ⟨none, [], [], fun l g => RdS (Kd.int .u8) g 5 a1 n1 c1 l1⟩, ⟨none, [], [], fun l g => RdS (Kd.int .u8) g 5 a2 n2 c2 l2⟩, ⟨none, [], [], fun l g => RdS (Kd.int .u8) g 5 a3 n3 c3 l3⟩, ⟨none, [0], [], fun l g => Box g (t + 2) b2 91 [encA .u8 (zA 8), [.int .i64 0], encA .u8 (zA 8), [.slice none 0 0]] [8, 1, 8, 1]⟩, ⟨some 0, [], [0], fun l g => l.getD 0 undef = AG [[.int .i64 x1], encA .u8 d1, [.int .i64 x2], [.slice a1 n1 c1], encA .u8 d2, [.int .i64 x3], encA .u8 d3, [.slice a2 n2 c2], [.slice a3 n3 c3]]⟩, ⟨some 1, [], [1], fun l g => ∃ (a4 : Option Addr) (c4 : Nat) (a5 : Option Addr) (c5 : Nat), l.getD 0 undef = AG [encA .u8 d4, [.int .i64 x4], encA .u8 d5, [.slice a4 l4.length c4], encA .u8 d6, [.int .i64 x5], encA .u8 d7, [.slice a5 l5.length c5]] ∧ RdS (Kd.int .u8) g 5 a4 l4.length c4 l4 ∧ RdS (Kd.int .u8) g 5 a5 l5.length c5 l5⟩, ⟨some 2, [], [2], fun l g => l.getD 0 undef = .int .i64 x1⟩, ⟨some 3, [], [3, 1], fun l g => ∃ (a4 : Option Addr) (c4 : Nat) (a5 : Option Addr) (c5 : Nat), l.getD 0 undef = AG [encA .u8 d6, [.int .i64 x5], encA .u8 d7, [.slice a5 l5.length c5]] ∧ l.getD 1 undef = AG [encA .u8 d4, [.int .i64 x4], encA .u8 d5, [.slice a4 l4.length c4], encA .u8 d6, [.int .i64 x5], encA .u8 d7, [.slice a5 l5.length c5]] ∧ RdS (Kd.int .u8) g 5 a4 l4.length c4 l4 ∧ RdS (Kd.int .u8) g 5 a5 l5.length c5 l5⟩, ⟨some 4, [0], [3, 1], fun l g => ∃ (a4 : Option Addr) (c4 : Nat) (a5 : Option Addr) (c5 : Nat), l.getD 0 undef = AG [encA .u8 d6, [.int .i64 x5], encA .u8 d7, [.slice a5 l5.length c5]] ∧ l.getD 1 undef = AG [encA .u8 d4, [.int .i64 x4], encA .u8 d5, [.slice a4 l4.length c4], encA .u8 d6, [.int .i64 x5], encA .u8 d7, [.slice a5 l5.length c5]] ∧ RdS (Kd.int .u8) g 5 a4 l4.length c4 l4 ∧ RdS (Kd.int .u8) g 5 a5 l5.length c5 l5 ∧ Box g (t + 2) b2 91 [encA .u8 d6, [.int .i64 x5], encA .u8 d7, [.slice a5 l5.length c5]] [8, 1, 8, 1]⟩] [[], [], [], [], [0]] [(t + 2)] [2] [] (by kernel_rfl) (by simp <;> omega) (by simp) ⟨fun _ _ _ _ st h0 hl hj hB1 => (hB1.mono st (fun h => absurd (hl _ h) (by simp <;> omega))), fun _ _ _ _ st h0 hl hj hR1 => (RdS.mono (e := 5) hR1 st h0), fun _ _ _ _ st h0 hl hj hR2 => (RdS.mono (e := 5) hR2 st h0), fun _ _ _ _ st h0 hl hj hR3 => (RdS.mono (e := 5) hR3 st h0), fun _ _ _ _ st h0 hl hj hB2 => (hB2.mono st (hj 0 (by simp) _ rfl)), fun _ _ _ _ st h0 hl hj e0 => e0, fun _ _ _ _ st h0 hl hj ⟨a4, c4, a5, c5, e1, hR4, hR5⟩ => ⟨a4, c4, a5, c5, e1, (RdS.mono (e := 5) hR4 st h0), (RdS.mono (e := 5) hR5 st h0)⟩, fun _ _ _ _ st h0 hl hj e2 => e2, fun _ _ _ _ st h0 hl hj ⟨a4, c4, a5, c5, e3, e1, hR4, hR5⟩ => ⟨a4, c4, a5, c5, e3, e1, (RdS.mono (e := 5) hR4 st h0), (RdS.mono (e := 5) hR5 st h0)⟩, fun _ _ _ _ st h0 hl hj ⟨a4, c4, a5, c5, e3, e1, hR4, hR5, hB2⟩ => ⟨a4, c4, a5, c5, e3, e1, (RdS.mono (e := 5) hR4 st h0), (RdS.mono (e := 5) hR5 st h0), (hB2.mono st (hj 0 (by simp) _ rfl))⟩, tv⟩ ⟨hB1, hR1, hR2, hR3, hB2, tv, tv, tv, tv, tv, tv⟩ (by kernel_rfl) (fun vs => by kernel_rfl) ?_ ?_ ?_
 ·intro j hj; exact absurd hj (by simp)
 ·intro j hj
  have hq : j = 0 ∨ j = 1 ∨ j = 2 ∨ j = 3 ∨ j = 4 := by have h : j < 5 := hj; omega
  rcases hq with rfl | rfl | rfl | rfl | rfl
  ·intro vs gq stq hl hf
   obtain ⟨v0, v1, v2, v3, v4, rfl⟩ := len_k5 hl
   have hB1 := (show Box gq (t + 1) b1 43 [[.int .i64 x1], encA .u8 d1, [.int .i64 x2], [.slice a1 n1 c1], encA .u8 d2, [.int .i64 x3], encA .u8 d3, [.slice a2 n2 c2], [.slice a3 n3 c3]] [1, 8, 1, 1, 8, 1, 8, 1, 1] from hf _ (memI 0 rfl) (by kernel_rfl))
   refine WP.loadB (v := AG [[.int .i64 x1], encA .u8 d1, [.int .i64 x2], [.slice a1 n1 c1], encA .u8 d2, [.int .i64 x3], encA .u8 d3, [.slice a2 n2 c2], [.slice a3 n3 c3]]) hB1 (by kernel_rfl) (by kernel_rfl) ?_
   refine WP.dn (Shown.ok (v := AG [[.int .i64 x1], encA .u8 d1, [.int .i64 x2], [.slice a1 n1 c1], encA .u8 d2, [.int .i64 x3], encA .u8 d3, [.slice a2 n2 c2], [.slice a3 n3 c3]]) (by kernel_rfl) (Step.refl _ _) ?_)
   exact ⟨tv, tv, tv, tv, tv, rfl, tv, tv, tv, tv, tv⟩
  ·intro vs gq stq hl hf
   obtain ⟨v0, v1, v2, v3, v4, rfl⟩ := len_k5 hl
   have hR1 := (show RdS (Kd.int .u8) gq 5 a1 n1 c1 l1 from hf _ (memI 1 rfl) (by kernel_rfl))
   have hR2 := (show RdS (Kd.int .u8) gq 5 a2 n2 c2 l2 from hf _ (memI 2 rfl) (by kernel_rfl))
   have hR3 := (show RdS (Kd.int .u8) gq 5 a3 n3 c3 l3 from hf _ (memI 3 rfl) (by kernel_rfl))
   have e0 := (show v0 = AG [[.int .i64 x1], encA .u8 d1, [.int .i64 x2], [.slice a1 n1 c1], encA .u8 d2, [.int .i64 x3], encA .u8 d3, [.slice a2 n2 c2], [.slice a3 n3 c3]] from hf _ (memI 5 rfl) (by kernel_rfl))
   subst e0
   have hcal2 := P.punish_Thing_bodies gq x1 d1 x2 l1 d2 x3 d3 l2 l3 a1 n1 c1 a2 n2 c2 a3 n3 c3 hR1 hR2 hR3 d4 x4 d5 l4 d6 x5 d7 l5 hk2
   refine WP.callC hcal2 (by kernel_rfl) ?_
   rintro _ g5 st5 ⟨a4, n4, c4, a5, n5, c5, rfl, hR4, hR5⟩
   obtain rfl := hR4.len
   obtain rfl := hR5.len
   refine WP.dn (Shown.o (v := AG [encA .u8 d4, [.int .i64 x4], encA .u8 d5, [.slice a4 l4.length c4], encA .u8 d6, [.int .i64 x5], encA .u8 d7, [.slice a5 l5.length c5]]) st5.pure ?_)
   exact ⟨tv, tv, tv, tv, tv, tv, ⟨a4, c4, a5, c5, rfl, hR4, hR5⟩, tv, tv, tv, tv⟩
  ·intro vs gq stq hl hf
   obtain ⟨v0, v1, v2, v3, v4, rfl⟩ := len_k5 hl
   have hB1 := (show Box gq (t + 1) b1 43 [[.int .i64 x1], encA .u8 d1, [.int .i64 x2], [.slice a1 n1 c1], encA .u8 d2, [.int .i64 x3], encA .u8 d3, [.slice a2 n2 c2], [.slice a3 n3 c3]] [1, 8, 1, 1, 8, 1, 8, 1, 1] from hf _ (memI 0 rfl) (by kernel_rfl))
   refine WP.loadB (v := .int .i64 x1) hB1 (by kernel_rfl) (by kernel_rfl) ?_
   refine WP.dn (Shown.ok (v := .int .i64 x1) (by kernel_rfl) (Step.refl _ _) ?_)
   exact ⟨tv, tv, tv, tv, tv, tv, tv, rfl, tv, tv, tv⟩
  ·intro vs gq stq hl hf
   obtain ⟨v0, v1, v2, v3, v4, rfl⟩ := len_k5 hl
   obtain ⟨a4, c4, a5, c5, e1, hR4, hR5⟩ := (show ∃ (a4 : Option Addr) (c4 : Nat) (a5 : Option Addr) (c5 : Nat), v1 = AG [encA .u8 d4, [.int .i64 x4], encA .u8 d5, [.slice a4 l4.length c4], encA .u8 d6, [.int .i64 x5], encA .u8 d7, [.slice a5 l5.length c5]] ∧ RdS (Kd.int .u8) gq 5 a4 l4.length c4 l4 ∧ RdS (Kd.int .u8) gq 5 a5 l5.length c5 l5 from hf _ (memI 6 rfl) (by kernel_rfl))
   subst e1
   have e2 := (show v2 = .int .i64 x1 from hf _ (memI 7 rfl) (by kernel_rfl))
   subst e2
   refine WP.indexG (e := 91) (len := 2) (size := 18) (k := .i64) (i := x1) (segs := [encA .u8 d4, [.int .i64 x4], encA .u8 d5, [.slice a4 l4.length c4], encA .u8 d6, [.int .i64 x5], encA .u8 d7, [.slice a5 l5.length c5]]) (ns := [8, 1, 8, 1, 8, 1, 8, 1]) (v := AG [encA .u8 d6, [.int .i64 x5], encA .u8 d7, [.slice a5 l5.length c5]]) 1 hc1 (Nat.le_of_ble_eq_true rfl) (by simp [len_encA]) (by kernel_rfl) (by kernel_rfl) (by kernel_rfl) ?_
   refine WP.dn (Shown.ok (v := AG [encA .u8 d6, [.int .i64 x5], encA .u8 d7, [.slice a5 l5.length c5]]) (by kernel_rfl) (Step.refl _ _) ?_)
   exact ⟨tv, tv, tv, tv, tv, tv, tv, tv, ⟨a4, c4, a5, c5, rfl, rfl, hR4, hR5⟩, tv, tv⟩
  ·intro vs gq stq hl hf
   obtain ⟨v0, v1, v2, v3, v4, rfl⟩ := len_k5 hl
   have hB2 := (show Box gq (t + 2) b2 91 [encA .u8 (zA 8), [.int .i64 0], encA .u8 (zA 8), [.slice none 0 0]] [8, 1, 8, 1] from hf _ (memI 4 rfl) (by kernel_rfl))
   obtain ⟨a4, c4, a5, c5, e3, e1, hR4, hR5⟩ := (show ∃ (a4 : Option Addr) (c4 : Nat) (a5 : Option Addr) (c5 : Nat), v3 = AG [encA .u8 d6, [.int .i64 x5], encA .u8 d7, [.slice a5 l5.length c5]] ∧ v1 = AG [encA .u8 d4, [.int .i64 x4], encA .u8 d5, [.slice a4 l4.length c4], encA .u8 d6, [.int .i64 x5], encA .u8 d7, [.slice a5 l5.length c5]] ∧ RdS (Kd.int .u8) gq 5 a4 l4.length c4 l4 ∧ RdS (Kd.int .u8) gq 5 a5 l5.length c5 l5 from hf _ (memI 8 rfl) (by kernel_rfl))
   subst e3
   subst e1
   refine WP.storeB (ty := 91) (off := 0) (v := AG [encA .u8 d6, [.int .i64 x5], encA .u8 d7, [.slice a5 l5.length c5]]) hB2 [encA .u8 d6, [.int .i64 x5], encA .u8 d7, [.slice a5 l5.length c5]] [8, 1, 8, 1] (by kernel_rfl) (by kernel_rfl) (by simp [len_encA]) (by kernel_rfl) [encA .u8 d6, [.int .i64 x5], encA .u8 d7, [.slice a5 l5.length c5]] (by kernel_rfl) (.arr (.one rfl (.arr (.one rfl .nil)))) ?_
   intro g8 st8 hB5
   refine WP.dn (Shown.o (v := undef) st8 ?_)
   exact ⟨tv, tv, tv, tv, tv, tv, tv, tv, tv, ⟨a4, c4, a5, c5, rfl, rfl, (hR4.mono st8 (WL.no (by simp <;> omega))), (hR5.mono st8 (WL.no (by simp <;> omega))), hB5⟩, tv⟩
 intro vs g9 st9 hl hf
 obtain ⟨v0, v1, v2, v3, v4, rfl⟩ := len_k5 hl
 obtain ⟨a4, c4, a5, c5, e3, e1, hR4, hR5, hB2⟩ := (show ∃ (a4 : Option Addr) (c4 : Nat) (a5 : Option Addr) (c5 : Nat), v3 = AG [encA .u8 d6, [.int .i64 x5], encA .u8 d7, [.slice a5 l5.length c5]] ∧ v1 = AG [encA .u8 d4, [.int .i64 x4], encA .u8 d5, [.slice a4 l4.length c4], encA .u8 d6, [.int .i64 x5], encA .u8 d7, [.slice a5 l5.length c5]] ∧ RdS (Kd.int .u8) g9 5 a4 l4.length c4 l4 ∧ RdS (Kd.int .u8) g9 5 a5 l5.length c5 l5 ∧ Box g9 (t + 2) b2 91 [encA .u8 d6, [.int .i64 x5], encA .u8 d7, [.slice a5 l5.length c5]] [8, 1, 8, 1] from hf _ (memI 9 rfl) (by kernel_rfl))
 subst e3
 subst e1
 replace tot := tot.trans (st9.up1 (.inr (by omega)))
 refine NX.then_n ?_
 refine CP.refr 12 [(2, .pointer (some ⟨b2, 0, none⟩))] (by kernel_rfl) (by kernel_rfl) ?_
 clear ds
 intro ds
 refine CP.ret ?_
 replace hs := Option.some.inj hs
 simp only [Prod.mk.injEq] at hs
 obtain ⟨rfl, rfl, rfl, rfl⟩ := hs
 exact NX.fin (v := AG [encA .u8 d6, [.int .i64 x5], encA .u8 d7, [.slice a5 l5.length c5]]) (Res.one rfl (RV.box (agg := true) (size := 18) (rs := [encA .u8 d6, [.int .i64 x5], encA .u8 d7, [.slice a5 l5.length c5]]) hB2 (by kernel_rfl) (by kernel_rfl) (by kernel_rfl) (by kernel_rfl))) tot htL ⟨a5, l5.length, c5, rfl, hR5⟩
def N.punish_Thing_Place_0 : List (List Nat) := [[], [0], [], [2], [], [4], [0, 1], [0, 1, 2, 3, 6], [0, 1, 2, 3, 4, 5, 6, 7]]
def F.punish_Thing_Place (x1 : Int) (d1 : Arr Int 8) (x2 : Int) (l1 : List Int) (d2 : Arr Int 8) (x3 : Int) (d3 : Arr Int 8) (l2 : List Int) (l3 : List Int) : Option ((Arr Int 8) × Int × (Arr Int 8)) := ((F.punish_Thing_own x1 d1 x2 l1 d2 x3 d3 l2 l3).bind fun (d4, x4, d5, l4) => (some (d4, x4, d5)))
theorem P.punish_Thing_Place (g0 : GW) (x1 : Int) (d1 : Arr Int 8) (x2 : Int) (l1 : List Int) (d2 : Arr Int 8) (x3 : Int) (d3 : Arr Int 8) (l2 : List Int) (l3 : List Int) (a1 : Option Addr) (n1 : Nat) (c1 : Nat) (a2 : Option Addr) (n2 : Nat) (c2 : Nat) (a3 : Option Addr) (n3 : Nat) (c3 : Nat) (hR1 : RdS (Kd.int .u8) g0 5 a1 n1 c1 l1) (hR2 : RdS (Kd.int .u8) g0 5 a2 n2 c2 l2) (hR3 : RdS (Kd.int .u8) g0 5 a3 n3 c3 l3) (o1 : Arr Int 8) (o2 : Int) (o3 : Arr Int 8) (hs : F.punish_Thing_Place x1 d1 x2 l1 d2 x3 d3 l2 l3 = some (o1, o2, o3)) :
  Calls Try.prog 26 #[AG [[.int .i64 x1], encA .u8 d1, [.int .i64 x2], [.slice a1 n1 c1], encA .u8 d2, [.int .i64 x3], encA .u8 d3, [.slice a2 n2 c2], [.slice a3 n3 c3]]] g0.w (Ret NoM g0 fun v g => v = .tuple #[AG [encA .u8 o1], .int .i64 o2, AG [encA .u8 o3]]) := by
 refine calls_of (args := [AG [[.int .i64 x1], encA .u8 d1, [.int .i64 x2], [.slice a1 n1 c1], encA .u8 d2, [.int .i64 x3], encA .u8 d3, [.slice a2 n2 c2], [.slice a3 n3 c3]]]) Try.func26 rfl (0) ?_
 intro t ht htL
 refine ⟨_, rfl, ?_⟩
 refine CP.refr 14 [(0, AG [[.int .i64 x1], encA .u8 d1, [.int .i64 x2], [.slice a1 n1 c1], encA .u8 d2, [.int .i64 x3], encA .u8 d3, [.slice a2 n2 c2], [.slice a3 n3 c3]])] (by kernel_rfl) (by kernel_rfl) ?_
 intro ds
 have tot : Step (fun l => NoM l ∨ t ≤ l) g0 g0 := Step.refl _ _
 unfold F.punish_Thing_Place at hs
 refine CP.seqR ?_
 refine WP.alloc (T := 43) (t + 1) [[.int .i64 x1], encA .u8 d1, [.int .i64 x2], [.slice a1 n1 c1], encA .u8 d2, [.int .i64 x3], encA .u8 d3, [.slice a2 n2 c2], [.slice a3 n3 c3]] [1, 8, 1, 1, 8, 1, 8, 1, 1] (by kernel_rfl) (by simp [len_encA]) ?_
 intro g1 b1 st1 hB1
 replace hR1 := hR1.mono st1 (fun x => x)
 replace hR2 := hR2.mono st1 (fun x => x)
 replace hR3 := hR3.mono st1 (fun x => x)
 replace tot := tot.trans st1.pure
 refine WP.alloc (T := 37) (t + 2) [encA .u8 (zA 8)] [8] (by kernel_rfl) (by simp [len_encA]) ?_
 intro g2 b2 st2 hB2
 replace hR1 := hR1.mono st2 (fun x => x)
 replace hR2 := hR2.mono st2 (fun x => x)
 replace hR3 := hR3.mono st2 (fun x => x)
 replace hB1 := hB1.mono st2 (fun x => x)
 replace tot := tot.trans st2.pure
 refine WP.stl 1 ?_
 refine WP.alloc (T := 37) (t + 3) [encA .u8 (zA 8)] [8] (by kernel_rfl) (by simp [len_encA]) ?_
 intro g3 b3 st3 hB3
 replace hR1 := hR1.mono st3 (fun x => x)
 replace hR2 := hR2.mono st3 (fun x => x)
 replace hR3 := hR3.mono st3 (fun x => x)
 replace hB1 := hB1.mono st3 (fun x => x)
 replace hB2 := hB2.mono st3 (fun x => x)
 replace tot := tot.trans st3.pure
 refine WP.dn ?_
 refine NX.then_n ?_
 refine CP.seqR ?_
 refine WP.loadB (v := AG [[.int .i64 x1], encA .u8 d1, [.int .i64 x2], [.slice a1 n1 c1], encA .u8 d2, [.int .i64 x3], encA .u8 d3, [.slice a2 n2 c2], [.slice a3 n3 c3]]) hB1 (by kernel_rfl) (by kernel_rfl) ?_
 replace hs := Option.bind_eq_some_iff.1 hs
 obtain ⟨⟨d4, x4, d5, l4⟩, hk1, hs⟩ := hs
 dsimp only at hs
 have hcal1 := P.punish_Thing_own g3 x1 d1 x2 l1 d2 x3 d3 l2 l3 a1 n1 c1 a2 n2 c2 a3 n3 c3 hR1 hR2 hR3 d4 x4 d5 l4 hk1
 refine WP.callC hcal1 (by kernel_rfl) ?_
 rintro _ g4 st4 ⟨a4, n4, c4, rfl, hR4⟩
 replace hB1 := hB1.mono st4 (fun x => x)
 replace hR1 := hR1.mono st4 (fun x => x)
 replace hR2 := hR2.mono st4 (fun x => x)
 replace hR3 := hR3.mono st4 (fun x => x)
 replace hB2 := hB2.mono st4 (fun x => x)
 replace hB3 := hB3.mono st4 (fun x => x)
 replace tot := tot.trans st4.pure
 refine WP.alloc (T := 91) (t + 4) [encA .u8 (zA 8), [.int .i64 0], encA .u8 (zA 8), [.slice none 0 0]] [8, 1, 8, 1] (by kernel_rfl) (by simp [len_encA]) ?_
 intro g5 b4 st5 hB4
 replace hB1 := hB1.mono st5 (fun x => x)
 replace hR1 := hR1.mono st5 (fun x => x)
 replace hR2 := hR2.mono st5 (fun x => x)
 replace hR3 := hR3.mono st5 (fun x => x)
 replace hB2 := hB2.mono st5 (fun x => x)
 replace hB3 := hB3.mono st5 (fun x => x)
 replace hR4 := hR4.mono st5 (fun x => x)
 replace tot := tot.trans st5.pure
 refine WP.storeB (ty := 91) (off := 0) (v := AG [encA .u8 d4, [.int .i64 x4], encA .u8 d5, [.slice a4 n4 c4]]) hB4 [encA .u8 d4, [.int .i64 x4], encA .u8 d5, [.slice a4 n4 c4]] [8, 1, 8, 1] (by kernel_rfl) (by kernel_rfl) (by simp [len_encA]) (by kernel_rfl) [encA .u8 d4, [.int .i64 x4], encA .u8 d5, [.slice a4 n4 c4]] (by kernel_rfl) (.arr (.one rfl (.arr (.one rfl .nil)))) ?_
 intro g6 st6 hB5
 replace hB1 := hB1.mono st6 (WL.no1 (by omega))
 replace hR1 := hR1.mono st6 (WL.no1 (by omega))
 replace hR2 := hR2.mono st6 (WL.no1 (by omega))
 replace hR3 := hR3.mono st6 (WL.no1 (by omega))
 replace hB2 := hB2.mono st6 (WL.no1 (by omega))
 replace hB3 := hB3.mono st6 (WL.no1 (by omega))
 replace hR4 := hR4.mono st6 (WL.no1 (by omega))
 replace tot := tot.trans (st6.up1 (.inr (by omega)))
 clear hB4
 have hB4 := hB5
 clear hB5
 refine WP.dn ?_
 refine NX.then_n ?_
 refine CP.seq ?_
 refine CP.drawL (by kernel_rfl) [1, 3, 5, 6, 8] N.punish_Thing_Place_0 [⟨none, [0], [], fun l g => Box g (t + 2) b2 37 [encA .u8 (zA 8)] [8]⟩, ⟨none, [1], [], fun l g => Box g (t + 3) b3 37 [encA .u8 (zA 8)] [8]⟩, ⟨none, [], [], fun l g => Box g (t + 4) b4 91 [encA .u8 d4, [.int .i64 x4], encA .u8 d5, [.slice a4 n4 c4]] [8, 1, 8, 1]⟩, ⟨some 0, [], [0], fun l g => l.getD 0 undef = AG [encA .u8 d4]⟩, ⟨some 1, [], [1], fun l g => l.getD 0 undef = .int .i64 x4⟩, ⟨some 2, [], [2], fun l g => l.getD 0 undef = AG [encA .u8 d5]⟩, ⟨some 3, [0], [], fun l g => Box g (t + 2) b2 37 [encA .u8 d4] [8]⟩, ⟨some 4, [1], [], fun l g => Box g (t + 3) b3 37 [encA .u8 d5] [8]⟩] [[], [], [], [0], [1]] [(t + 2), (t + 3)] [0, 2, 4] [7] (by kernel_rfl) (by simp <;> omega) (by simp <;> omega) ⟨fun _ _ _ _ st h0 hl hj hB2 => (hB2.mono st (hj 0 (by simp) _ rfl)), fun _ _ _ _ st h0 hl hj hB3 => (hB3.mono st (hj 1 (by simp) _ rfl)), fun _ _ _ _ st h0 hl hj hB4 => (hB4.mono st (fun h => absurd (hl _ h) (by simp <;> omega))), fun _ _ _ _ st h0 hl hj e0 => e0, fun _ _ _ _ st h0 hl hj e1 => e1, fun _ _ _ _ st h0 hl hj e2 => e2, fun _ _ _ _ st h0 hl hj hB2 => (hB2.mono st (hj 0 (by simp) _ rfl)), fun _ _ _ _ st h0 hl hj hB3 => (hB3.mono st (hj 1 (by simp) _ rfl)), tv⟩ ⟨hB2, hB3, hB4, tv, tv, tv, tv, tv, tv⟩ (by kernel_rfl) (fun vs => by kernel_rfl) ?_ ?_ ?_
 ·intro j hj
  have hq : j = 0 := by have h : j < 1 := hj; omega
  rcases hq with rfl
  ·intro vs gq stq hl hf
   obtain ⟨v0, v1, v2, v3, v4, rfl⟩ := len_k5 hl
   have e1 := (show v1 = .int .i64 x4 from hf _ (memI 4 rfl) (by kernel_rfl))
   subst e1
   show Option.isSome _ = true
   kernel_rfl
 ·intro j hj
  have hq : j = 0 ∨ j = 1 ∨ j = 2 ∨ j = 3 ∨ j = 4 := by have h : j < 5 := hj; omega
  rcases hq with rfl | rfl | rfl | rfl | rfl
  ·intro vs gq stq hl hf
   obtain ⟨v0, v1, v2, v3, v4, rfl⟩ := len_k5 hl
   have hB4 := (show Box gq (t + 4) b4 91 [encA .u8 d4, [.int .i64 x4], encA .u8 d5, [.slice a4 n4 c4]] [8, 1, 8, 1] from hf _ (memI 2 rfl) (by kernel_rfl))
   refine WP.loadB (v := AG [encA .u8 d4]) hB4 (by kernel_rfl) (by kernel_rfl) ?_
   refine WP.dn (Shown.ok (v := AG [encA .u8 d4]) (by kernel_rfl) (Step.refl _ _) ?_)
   exact ⟨tv, tv, tv, rfl, tv, tv, tv, tv, tv⟩
  ·intro vs gq stq hl hf
   obtain ⟨v0, v1, v2, v3, v4, rfl⟩ := len_k5 hl
   have hB4 := (show Box gq (t + 4) b4 91 [encA .u8 d4, [.int .i64 x4], encA .u8 d5, [.slice a4 n4 c4]] [8, 1, 8, 1] from hf _ (memI 2 rfl) (by kernel_rfl))
   refine WP.loadB (v := .int .i64 x4) hB4 (by kernel_rfl) (by kernel_rfl) ?_
   refine WP.dn (Shown.ok (v := .int .i64 x4) (by kernel_rfl) (Step.refl _ _) ?_)
   exact ⟨tv, tv, tv, tv, rfl, tv, tv, tv, tv⟩
  ·intro vs gq stq hl hf
   obtain ⟨v0, v1, v2, v3, v4, rfl⟩ := len_k5 hl
   have hB4 := (show Box gq (t + 4) b4 91 [encA .u8 d4, [.int .i64 x4], encA .u8 d5, [.slice a4 n4 c4]] [8, 1, 8, 1] from hf _ (memI 2 rfl) (by kernel_rfl))
   refine WP.loadB (v := AG [encA .u8 d5]) hB4 (by kernel_rfl) (by kernel_rfl) ?_
   refine WP.dn (Shown.ok (v := AG [encA .u8 d5]) (by kernel_rfl) (Step.refl _ _) ?_)
   exact ⟨tv, tv, tv, tv, tv, rfl, tv, tv, tv⟩
  ·intro vs gq stq hl hf
   obtain ⟨v0, v1, v2, v3, v4, rfl⟩ := len_k5 hl
   have hB2 := (show Box gq (t + 2) b2 37 [encA .u8 (zA 8)] [8] from hf _ (memI 0 rfl) (by kernel_rfl))
   have e0 := (show v0 = AG [encA .u8 d4] from hf _ (memI 3 rfl) (by kernel_rfl))
   subst e0
   refine WP.storeB (ty := 37) (off := 0) (v := AG [encA .u8 d4]) hB2 [encA .u8 d4] [8] (by kernel_rfl) (by kernel_rfl) (by simp [len_encA]) (by kernel_rfl) [encA .u8 d4] (by kernel_rfl) (.arr .nil) ?_
   intro g7 st7 hB6
   refine WP.dn (Shown.o (v := undef) st7 ?_)
   exact ⟨tv, tv, tv, tv, tv, tv, hB6, tv, tv⟩
  ·intro vs gq stq hl hf
   obtain ⟨v0, v1, v2, v3, v4, rfl⟩ := len_k5 hl
   have hB3 := (show Box gq (t + 3) b3 37 [encA .u8 (zA 8)] [8] from hf _ (memI 1 rfl) (by kernel_rfl))
   have e2 := (show v2 = AG [encA .u8 d5] from hf _ (memI 5 rfl) (by kernel_rfl))
   subst e2
   refine WP.storeB (ty := 37) (off := 0) (v := AG [encA .u8 d5]) hB3 [encA .u8 d5] [8] (by kernel_rfl) (by kernel_rfl) (by simp [len_encA]) (by kernel_rfl) [encA .u8 d5] (by kernel_rfl) (.arr .nil) ?_
   intro g8 st8 hB7
   refine WP.dn (Shown.o (v := undef) st8 ?_)
   exact ⟨tv, tv, tv, tv, tv, tv, tv, hB7, tv⟩
 intro vs g9 st9 hl hf
 obtain ⟨v0, v1, v2, v3, v4, rfl⟩ := len_k5 hl
 have e1 := (show v1 = .int .i64 x4 from hf _ (memI 4 rfl) (by kernel_rfl))
 subst e1
 have hB2 := (show Box g9 (t + 2) b2 37 [encA .u8 d4] [8] from hf _ (memI 6 rfl) (by kernel_rfl))
 have hB3 := (show Box g9 (t + 3) b3 37 [encA .u8 d5] [8] from hf _ (memI 7 rfl) (by kernel_rfl))
 replace tot := tot.trans (st9.up2 (.inr (by omega)) (.inr (by omega)))
 refine NX.then_n ?_
 refine CP.refr 14 [(2, .pointer (some ⟨b2, 0, none⟩)), (3, .int .i64 x4), (4, .pointer (some ⟨b3, 0, none⟩))] (by kernel_rfl) (by kernel_rfl) ?_
 clear ds
 intro ds
 refine CP.ret ?_
 replace hs := Option.some.inj hs
 simp only [Prod.mk.injEq] at hs
 obtain ⟨rfl, rfl, rfl⟩ := hs
 exact NX.fin (v := .tuple #[AG [encA .u8 d4], .int .i64 x4, AG [encA .u8 d5]]) (Res.three rfl (RV.box (agg := true) (size := 8) (rs := [encA .u8 d4]) hB2 (by kernel_rfl) (by kernel_rfl) (by kernel_rfl) (by kernel_rfl)) (RV.tmp (by kernel_rfl)) (RV.box (agg := true) (size := 8) (rs := [encA .u8 d5]) hB3 (by kernel_rfl) (by kernel_rfl) (by kernel_rfl) (by kernel_rfl))) tot htL rfl
def F.baizeref34_Check.c2 (q3 : Bool) : Option (Int) := (if q3 = true then (some 2) else (some 0))
def F.baizeref34_Check.c1 (x2 : Int) (l1 : List Int) (l2 : List Int) (q1 : Bool) (q2 : Bool) : Option (Int) := (if q2 = true then (some 11) else (if q1 = true then (some 3) else (if decide (x2 < 0) = true then (F.baizeref34_Check.c2 true) else (if decide (x2 > 1099511627776) = true then (F.baizeref34_Check.c2 true) else (if decide ((l1.length : Int) > 4096) = true then (F.baizeref34_Check.c2 true) else (F.baizeref34_Check.c2 (decide ((l2.length : Int) > 4096))))))))
def F.baizeref34_Check (x1 : Int) (d1 : Arr Int 8) (x2 : Int) (d2 : Arr Int 8) (l1 : List Int) (l2 : List Int) (q1 : Bool) : Option (Int) := (if (x1 != 0) = true then (F.baizeref34_Check.c1 x2 l1 l2 q1 (x1 != 1)) else (F.baizeref34_Check.c1 x2 l1 l2 q1 false))
theorem P.baizeref34_Check (g0 : GW) (x1 : Int) (d1 : Arr Int 8) (x2 : Int) (d2 : Arr Int 8) (l1 : List Int) (l2 : List Int) (q1 : Bool) (a1 : Option Addr) (n1 : Nat) (c1 : Nat) (a2 : Option Addr) (n2 : Nat) (c2 : Nat) (hR1 : RdS (Kd.int .u8) g0 5 a1 n1 c1 l1) (hR2 : RdS (Kd.int .u8) g0 5 a2 n2 c2 l2) (o1 : Int) (hs : F.baizeref34_Check x1 d1 x2 d2 l1 l2 q1 = some o1) :
  Calls Try.prog 27 #[AG [[.int .i64 x1], encA .u8 d1, [.int .i64 x2], encA .u8 d2, [.slice a1 n1 c1], [.slice a2 n2 c2], [.bool q1]]] g0.w (Ret NoM g0 fun v g => v = .int .i64 o1) := by
 refine calls_of (args := [AG [[.int .i64 x1], encA .u8 d1, [.int .i64 x2], encA .u8 d2, [.slice a1 n1 c1], [.slice a2 n2 c2], [.bool q1]]]) Try.func27 rfl (0) ?_
 intro t ht htL
 refine ⟨_, rfl, ?_⟩
 refine CP.refr 33 [(0, AG [[.int .i64 x1], encA .u8 d1, [.int .i64 x2], encA .u8 d2, [.slice a1 n1 c1], [.slice a2 n2 c2], [.bool q1]])] (by kernel_rfl) (by kernel_rfl) ?_
 intro ds
 have tot : Step (fun l => NoM l ∨ t ≤ l) g0 g0 := Step.refl _ _
 unfold F.baizeref34_Check at hs
 refine CP.seqR ?_
 refine WP.alloc (T := 35) (t + 1) [[.int .i64 x1], encA .u8 d1, [.int .i64 x2], encA .u8 d2, [.slice a1 n1 c1], [.slice a2 n2 c2], [.bool q1]] [1, 8, 1, 8, 1, 1, 1] (by kernel_rfl) (by simp [len_encA]) ?_
 intro g1 b1 st1 hB1
 replace hR1 := hR1.mono st1 (fun x => x)
 replace hR2 := hR2.mono st1 (fun x => x)
 replace tot := tot.trans st1.pure
 refine WP.stl 1 ?_
 refine WP.dn ?_
 refine NX.then_n ?_
 refine CP.seq ?_
 refine CP.cut (fun tm g => ∃ (q2 : Bool), Fr 33 [(1, .pointer (some ⟨b1, 0, none⟩)), (10, .bool q2)] tm ∧ Step (fun l => NoM l ∨ t ≤ l) g0 g ∧ Box g (t + 1) b1 35 [[.int .i64 x1], encA .u8 d1, [.int .i64 x2], encA .u8 d2, [.slice a1 n1 c1], [.slice a2 n2 c2], [.bool q1]] [1, 8, 1, 8, 1, 1, 1] ∧ RdS (Kd.int .u8) g 5 a1 n1 c1 l1 ∧ RdS (Kd.int .u8) g 5 a2 n2 c2 l2 ∧ (F.baizeref34_Check.c1 x2 l1 l2 q1 q2) = some o1) ?_ ?_
 ·refine CP.region ?_
  refine WP.stl 1 ?_
  refine WP.loadB (v := .int .i64 x1) hB1 (by kernel_rfl) (by kernel_rfl) ?_
  refine WP.stl 2 ?_
  refine WP.guard 6 (b := (x1 != 0)) (by kernel_rfl) (fun h11 => ?_) (fun h11 => ?_)
  ·replace hs := of_if_t hs h11
   refine WP.stl 1 ?_
   refine WP.loadB (v := .int .i64 x1) hB1 (by kernel_rfl) (by kernel_rfl) ?_
   refine WP.stl 2 ?_
   refine WP.dn ?_
   refine NX.post ?_
   exact ⟨(x1 != 1), ⟨by kernel_rfl, by kernel_rfl⟩, tot, hB1, hR1, hR2, hs⟩
  replace hs := of_if_f hs h11
  refine WP.stl 4 ?_
  refine WP.dn ?_
  refine NX.post ?_
  exact ⟨false, ⟨by kernel_rfl, by kernel_rfl⟩, tot, hB1, hR1, hR2, hs⟩
 clear tot hs hB1 hR1 hR2
 rintro tm g ⟨q2, hF, tot, hB1, hR1, hR2, hs⟩
 clear ds
 obtain ⟨ds, rfl⟩ := hF.open
 clear hF
 unfold F.baizeref34_Check.c1 at hs
 refine CP.cond (b := q2) (by kernel_rfl) (fun h2 => ?_) (fun h2 => ?_)
 ·replace hs := of_if_t hs h2
  refine CP.seqR ?_
  refine WP.stl 1 ?_
  refine WP.dn ?_
  refine NX.then_n ?_
  refine CP.ret ?_
  refine NX.then_r ?_
  replace hs := Option.some.inj hs
  obtain rfl := hs
  exact NX.fin (v := .int .i64 11) (Res.still (by kernel_rfl)) tot htL rfl
 replace hs := of_if_f hs h2
 refine CP.skip ?_
 refine NX.then_n ?_
 refine CP.seq ?_
 refine CP.seqR ?_
 refine WP.stl 1 ?_
 refine WP.loadB (v := .bool q1) hB1 (by kernel_rfl) (by kernel_rfl) ?_
 refine WP.dn ?_
 refine NX.then_n ?_
 refine CP.cond (b := q1) (by kernel_rfl) (fun h3 => ?_) (fun h3 => ?_)
 ·replace hs := of_if_t hs h3
  refine CP.seqR ?_
  refine WP.stl 1 ?_
  refine WP.dn ?_
  refine NX.then_n ?_
  refine CP.ret ?_
  refine NX.then_r ?_
  replace hs := Option.some.inj hs
  obtain rfl := hs
  exact NX.fin (v := .int .i64 3) (Res.still (by kernel_rfl)) tot htL rfl
 replace hs := of_if_f hs h3
 refine CP.skip ?_
 refine NX.then_n ?_
 refine CP.seq ?_
 refine CP.cut (fun tm g => ∃ (q3 : Bool), Fr 33 [(32, .bool q3)] tm ∧ Step (fun l => NoM l ∨ t ≤ l) g0 g ∧ (F.baizeref34_Check.c2 q3) = some o1) ?_ ?_
 ·refine CP.region ?_
  refine WP.stl 1 ?_
  refine WP.loadB (v := .int .i64 x2) hB1 (by kernel_rfl) (by kernel_rfl) ?_
  refine WP.stl 2 ?_
  refine WP.guard 16 (b := decide (x2 < 0)) (by kernel_rfl) (fun h8 => ?_) (fun h8 => ?_)
  ·replace hs := of_if_t hs h8
   refine WP.stl 16 ?_
   refine WP.dn ?_
   refine NX.post ?_
   exact ⟨true, ⟨by kernel_rfl, by kernel_rfl⟩, tot, hs⟩
  replace hs := of_if_f hs h8
  refine WP.stl 1 ?_
  refine WP.loadB (v := .int .i64 x2) hB1 (by kernel_rfl) (by kernel_rfl) ?_
  refine WP.stl 3 ?_
  refine WP.guard 21 (b := decide (x2 > 1099511627776)) (by kernel_rfl) (fun h9 => ?_) (fun h9 => ?_)
  ·replace hs := of_if_t hs h9
   refine WP.stl 11 ?_
   refine WP.dn ?_
   refine NX.post ?_
   exact ⟨true, ⟨by kernel_rfl, by kernel_rfl⟩, tot, hs⟩
  replace hs := of_if_f hs h9
  refine WP.stl 1 ?_
  refine WP.loadB (v := .slice a1 n1 c1) hB1 (by kernel_rfl) (by kernel_rfl) ?_
  refine WP.len (a := a1) (cp := c1) hR1.len (by kernel_rfl) ?_
  refine WP.stl 3 ?_
  refine WP.guard 27 (b := decide ((l1.length : Int) > 4096)) (by kernel_rfl) (fun h10 => ?_) (fun h10 => ?_)
  ·replace hs := of_if_t hs h10
   refine WP.stl 5 ?_
   refine WP.dn ?_
   refine NX.post ?_
   exact ⟨true, ⟨by kernel_rfl, by kernel_rfl⟩, tot, hs⟩
  replace hs := of_if_f hs h10
  refine WP.stl 1 ?_
  refine WP.loadB (v := .slice a2 n2 c2) hB1 (by kernel_rfl) (by kernel_rfl) ?_
  refine WP.len (a := a2) (cp := c2) hR2.len (by kernel_rfl) ?_
  refine WP.stl 2 ?_
  refine WP.dn ?_
  refine NX.post ?_
  exact ⟨decide ((l2.length : Int) > 4096), ⟨by kernel_rfl, by kernel_rfl⟩, tot, hs⟩
 clear tot hs hB1 hR1 hR2
 rintro tm g ⟨q3, hF, tot, hs⟩
 clear ds
 obtain ⟨ds, rfl⟩ := hF.open
 clear hF
 unfold F.baizeref34_Check.c2 at hs
 refine CP.cond (b := q3) (by kernel_rfl) (fun h7 => ?_) (fun h7 => ?_)
 ·replace hs := of_if_t hs h7
  refine CP.seqR ?_
  refine WP.stl 1 ?_
  refine WP.dn ?_
  refine NX.then_n ?_
  refine CP.ret ?_
  refine NX.then_r ?_
  replace hs := Option.some.inj hs
  obtain rfl := hs
  exact NX.fin (v := .int .i64 2) (Res.still (by kernel_rfl)) tot htL rfl
 replace hs := of_if_f hs h7
 refine CP.skip ?_
 refine NX.then_n ?_
 refine CP.seqR ?_
 refine WP.stl 1 ?_
 refine WP.dn ?_
 refine NX.then_n ?_
 refine CP.ret ?_
 replace hs := Option.some.inj hs
 obtain rfl := hs
 exact NX.fin (v := .int .i64 0) (Res.still (by kernel_rfl)) tot htL rfl
def F.baizeref34_At (x1 : Int) (d1 : Arr Int 8) (x2 : Int) (d2 : Arr Int 8) (l1 : List Int) (l2 : List Int) (q1 : Bool) : Option ((Arr Int 8)) := (if (x1 == 1) = true then (some d2) else (some (zA 8)))
theorem P.baizeref34_At (g0 : GW) (x1 : Int) (d1 : Arr Int 8) (x2 : Int) (d2 : Arr Int 8) (l1 : List Int) (l2 : List Int) (q1 : Bool) (a1 : Option Addr) (n1 : Nat) (c1 : Nat) (a2 : Option Addr) (n2 : Nat) (c2 : Nat) (hR1 : RdS (Kd.int .u8) g0 5 a1 n1 c1 l1) (hR2 : RdS (Kd.int .u8) g0 5 a2 n2 c2 l2) (o1 : Arr Int 8) (hs : F.baizeref34_At x1 d1 x2 d2 l1 l2 q1 = some o1) :
  Calls Try.prog 28 #[AG [[.int .i64 x1], encA .u8 d1, [.int .i64 x2], encA .u8 d2, [.slice a1 n1 c1], [.slice a2 n2 c2], [.bool q1]]] g0.w (Ret NoM g0 fun v g => v = AG [encA .u8 o1]) := by
 refine calls_of (args := [AG [[.int .i64 x1], encA .u8 d1, [.int .i64 x2], encA .u8 d2, [.slice a1 n1 c1], [.slice a2 n2 c2], [.bool q1]]]) Try.func28 rfl (0) ?_
 intro t ht htL
 refine ⟨_, rfl, ?_⟩
 refine CP.refr 9 [(0, AG [[.int .i64 x1], encA .u8 d1, [.int .i64 x2], encA .u8 d2, [.slice a1 n1 c1], [.slice a2 n2 c2], [.bool q1]])] (by kernel_rfl) (by kernel_rfl) ?_
 intro ds
 have tot : Step (fun l => NoM l ∨ t ≤ l) g0 g0 := Step.refl _ _
 unfold F.baizeref34_At at hs
 refine CP.seqR ?_
 refine WP.alloc (T := 35) (t + 1) [[.int .i64 x1], encA .u8 d1, [.int .i64 x2], encA .u8 d2, [.slice a1 n1 c1], [.slice a2 n2 c2], [.bool q1]] [1, 8, 1, 8, 1, 1, 1] (by kernel_rfl) (by simp [len_encA]) ?_
 intro g1 b1 st1 hB1
 replace hR1 := hR1.mono st1 (fun x => x)
 replace hR2 := hR2.mono st1 (fun x => x)
 replace tot := tot.trans st1.pure
 refine WP.alloc (T := 32) (t + 2) [encA .u8 (zA 8)] [8] (by kernel_rfl) (by simp [len_encA]) ?_
 intro g2 b2 st2 hB2
 replace hR1 := hR1.mono st2 (fun x => x)
 replace hR2 := hR2.mono st2 (fun x => x)
 replace hB1 := hB1.mono st2 (fun x => x)
 replace tot := tot.trans st2.pure
 refine WP.dn ?_
 refine NX.then_n ?_
 refine CP.seq ?_
 refine CP.seqR ?_
 refine WP.stl 1 ?_
 refine WP.loadB (v := .int .i64 x1) hB1 (by kernel_rfl) (by kernel_rfl) ?_
 refine WP.stl 1 ?_
 refine WP.dn ?_
 refine NX.then_n ?_
 refine CP.cond (b := (x1 == 1)) (by kernel_rfl) (fun h1 => ?_) (fun h1 => ?_)
 ·replace hs := of_if_t hs h1
  refine CP.seqR ?_
  refine WP.stl 1 ?_
  refine WP.loadB (v := AG [encA .u8 d2]) hB1 (by kernel_rfl) (by kernel_rfl) ?_
  refine WP.storeB (ty := 32) (off := 0) (v := AG [encA .u8 d2]) hB2 [encA .u8 d2] [8] (by kernel_rfl) (by kernel_rfl) (by simp [len_encA]) (by kernel_rfl) [encA .u8 d2] (by kernel_rfl) (.arr .nil) ?_
  intro g3 st3 hB3
  replace hB1 := hB1.mono st3 (WL.no1 (by omega))
  replace hR1 := hR1.mono st3 (WL.no1 (by omega))
  replace hR2 := hR2.mono st3 (WL.no1 (by omega))
  replace tot := tot.trans (st3.up1 (.inr (by omega)))
  clear hB2
  have hB2 := hB3
  clear hB3
  refine WP.dn ?_
  refine NX.then_n ?_
  refine CP.ret ?_
  refine NX.then_r ?_
  replace hs := Option.some.inj hs
  obtain rfl := hs
  exact NX.fin (v := AG [encA .u8 d2]) (Res.one rfl (RV.box (agg := true) (size := 8) (rs := [encA .u8 d2]) hB2 (by kernel_rfl) (by kernel_rfl) (by kernel_rfl) (by kernel_rfl))) tot htL rfl
 replace hs := of_if_f hs h1
 refine CP.skip ?_
 refine NX.then_n ?_
 refine CP.seqR ?_
 refine WP.stl 1 ?_
 refine WP.storeB (ty := 32) (off := 0) (v := AG [encA .u8 (zA 8)]) hB2 [encA .u8 (zA 8)] [8] (by kernel_rfl) (by kernel_rfl) (by simp [len_encA]) (by kernel_rfl) [encA .u8 (zA 8)] (by kernel_rfl) (.arr .nil) ?_
 intro g4 st4 hB4
 replace tot := tot.trans (st4.up1 (.inr (by omega)))
 clear hB2
 have hB2 := hB4
 clear hB4
 refine WP.dn ?_
 refine NX.then_n ?_
 refine CP.ret ?_
 replace hs := Option.some.inj hs
 obtain rfl := hs
 exact NX.fin (v := AG [encA .u8 (zA 8)]) (Res.one rfl (RV.box (agg := true) (size := 8) (rs := [encA .u8 (zA 8)]) hB2 (by kernel_rfl) (by kernel_rfl) (by kernel_rfl) (by kernel_rfl))) tot htL rfl
def F.punish_body_none.c1 (q1 : Bool) : Option (Bool) := (some q1)
def F.punish_body_none (d1 : Arr Int 8) (x1 : Int) (d2 : Arr Int 8) (l1 : List Int) : Option (Bool) := (if (d1.1 == (zA 8).1) = true then (if (x1 == 0) = true then (if (d2.1 == (zA 8).1) = true then (F.punish_body_none.c1 ((l1.length : Int) == 0)) else (F.punish_body_none.c1 false)) else (F.punish_body_none.c1 false)) else (F.punish_body_none.c1 false))
theorem P.punish_body_none (g0 : GW) (d1 : Arr Int 8) (x1 : Int) (d2 : Arr Int 8) (l1 : List Int) (a1 : Option Addr) (n1 : Nat) (c1 : Nat) (hR1 : RdS (Kd.int .u8) g0 5 a1 n1 c1 l1) (o1 : Bool) (hs : F.punish_body_none d1 x1 d2 l1 = some o1) :
  Calls Try.prog 61 #[AG [encA .u8 d1, [.int .i64 x1], encA .u8 d2, [.slice a1 n1 c1]]] g0.w (Ret NoM g0 fun v g => v = .bool o1) := by
 refine calls_of (args := [AG [encA .u8 d1, [.int .i64 x1], encA .u8 d2, [.slice a1 n1 c1]]]) Try.func61 rfl (0) ?_
 intro t ht htL
 refine ⟨_, rfl, ?_⟩
 refine CP.refr 24 [(0, AG [encA .u8 d1, [.int .i64 x1], encA .u8 d2, [.slice a1 n1 c1]])] (by kernel_rfl) (by kernel_rfl) ?_
 intro ds
 have tot : Step (fun l => NoM l ∨ t ≤ l) g0 g0 := Step.refl _ _
 unfold F.punish_body_none at hs
 refine CP.seqR ?_
 refine WP.alloc (T := 91) (t + 1) [encA .u8 d1, [.int .i64 x1], encA .u8 d2, [.slice a1 n1 c1]] [8, 1, 8, 1] (by kernel_rfl) (by simp [len_encA]) ?_
 intro g1 b1 st1 hB1
 replace hR1 := hR1.mono st1 (fun x => x)
 replace tot := tot.trans st1.pure
 refine WP.stl 1 ?_
 refine WP.dn ?_
 refine NX.then_n ?_
 refine CP.cut (fun tm g => ∃ (q1 : Bool), Fr 24 [(2, .bool q1)] tm ∧ Step (fun l => NoM l ∨ t ≤ l) g0 g ∧ (F.punish_body_none.c1 q1) = some o1) ?_ ?_
 ·refine CP.region ?_
  refine WP.stl 1 ?_
  refine WP.loadB (v := AG [encA .u8 d1]) hB1 (by kernel_rfl) (by kernel_rfl) ?_
  refine WP.stl 1 ?_
  refine WP.eqV (by kernel_rfl) (by kernel_rfl) (EqV.arr (d := 9998) (t := 37) (e := 5) (m := 8) (k := .u8) (x := d1) (y := (zA 8)) (by kernel_rfl) (by kernel_rfl)) ?_
  refine WP.stl 1 ?_
  refine WP.guard 7 (b := (d1.1 == (zA 8).1)) (by kernel_rfl) (fun h4 => ?_) (fun h4 => ?_)
  ·replace hs := of_if_t hs h4
   refine WP.stl 1 ?_
   refine WP.loadB (v := .int .i64 x1) hB1 (by kernel_rfl) (by kernel_rfl) ?_
   refine WP.stl 3 ?_
   refine WP.guard 12 (b := (x1 == 0)) (by kernel_rfl) (fun h5 => ?_) (fun h5 => ?_)
   ·replace hs := of_if_t hs h5
    refine WP.stl 1 ?_
    refine WP.loadB (v := AG [encA .u8 d2]) hB1 (by kernel_rfl) (by kernel_rfl) ?_
    refine WP.stl 1 ?_
    refine WP.eqV (by kernel_rfl) (by kernel_rfl) (EqV.arr (d := 9998) (t := 37) (e := 5) (m := 8) (k := .u8) (x := d2) (y := (zA 8)) (by kernel_rfl) (by kernel_rfl)) ?_
    refine WP.stl 2 ?_
    refine WP.guard 18 (b := (d2.1 == (zA 8).1)) (by kernel_rfl) (fun h6 => ?_) (fun h6 => ?_)
    ·replace hs := of_if_t hs h6
     refine WP.stl 1 ?_
     refine WP.loadB (v := .slice a1 n1 c1) hB1 (by kernel_rfl) (by kernel_rfl) ?_
     refine WP.len (a := a1) (cp := c1) hR1.len (by kernel_rfl) ?_
     refine WP.stl 3 ?_
     refine WP.dn ?_
     refine NX.post ?_
     exact ⟨((l1.length : Int) == 0), ⟨by kernel_rfl, by kernel_rfl⟩, tot, hs⟩
    replace hs := of_if_f hs h6
    refine WP.stl 6 ?_
    refine WP.dn ?_
    refine NX.post ?_
    exact ⟨false, ⟨by kernel_rfl, by kernel_rfl⟩, tot, hs⟩
   replace hs := of_if_f hs h5
   refine WP.stl 12 ?_
   refine WP.dn ?_
   refine NX.post ?_
   exact ⟨false, ⟨by kernel_rfl, by kernel_rfl⟩, tot, hs⟩
  replace hs := of_if_f hs h4
  refine WP.stl 17 ?_
  refine WP.dn ?_
  refine NX.post ?_
  exact ⟨false, ⟨by kernel_rfl, by kernel_rfl⟩, tot, hs⟩
 clear tot hs hB1 hR1
 rintro tm g ⟨q1, hF, tot, hs⟩
 clear ds
 obtain ⟨ds, rfl⟩ := hF.open
 clear hF
 unfold F.punish_body_none.c1 at hs
 refine CP.ret ?_
 replace hs := Option.some.inj hs
 obtain rfl := hs
 exact NX.fin (v := .bool q1) (Res.still (by kernel_rfl)) tot htL rfl
def N.punish_Thing_Check_0 : List (List Nat) := [[], [0], [], [2], [2, 3], [0, 1, 2, 3, 4], [0, 1, 2, 3, 4, 5], [0, 1, 2, 3, 4, 5, 6], [0, 1, 2, 3, 4, 5, 6, 7]]
def F.punish_Thing_Check.c1 (q3 : Bool) : Option (Int) := (if q3 = true then (some 2) else (some 0))
def F.punish_Thing_Check.c2 (q5 : Bool) : Option (Int) := (if q5 = true then (some 2) else (some 0))
def F.punish_Thing_Check (x1 : Int) (d1 : Arr Int 8) (x2 : Int) (l1 : List Int) (d2 : Arr Int 8) (x3 : Int) (d3 : Arr Int 8) (l2 : List Int) (l3 : List Int) : Option (Int) := ((F.punish_Thing_known x1 d1 x2 l1 d2 x3 d3 l2 l3).bind fun q1 => (if (!q1) = true then (some 11) else ((F.punish_Thing_own x1 d1 x2 l1 d2 x3 d3 l2 l3).bind fun (d4, x4, d5, l4) => ((F.punish_Thing_bodies x1 d1 x2 l1 d2 x3 d3 l2 l3).bind fun (d6, x5, d7, l5, d8, x6, d9, l6) => (if ((IntKind.i64.wrap (1 - x1)) == 0) = true then ((F.punish_body_none d6 x5 d7 l5).bind fun q2 => (if (!q2) = true then (some 3) else (if decide (x4 < 0) = true then (F.punish_Thing_Check.c1 true) else (if decide (x4 > 1099511627776) = true then (F.punish_Thing_Check.c1 true) else (if decide ((l4.length : Int) > 4096) = true then (F.punish_Thing_Check.c1 true) else (F.punish_Thing_Check.c1 (decide ((l3.length : Int) > 4096)))))))) else (if (IntKind.i64.wrap (1 - x1)) = 1 then ((F.punish_body_none d8 x6 d9 l6).bind fun q4 => (if (!q4) = true then (some 3) else (if decide (x4 < 0) = true then (F.punish_Thing_Check.c2 true) else (if decide (x4 > 1099511627776) = true then (F.punish_Thing_Check.c2 true) else (if decide ((l4.length : Int) > 4096) = true then (F.punish_Thing_Check.c2 true) else (F.punish_Thing_Check.c2 (decide ((l3.length : Int) > 4096)))))))) else none))))))
theorem P.punish_Thing_Check (g0 : GW) (x1 : Int) (d1 : Arr Int 8) (x2 : Int) (l1 : List Int) (d2 : Arr Int 8) (x3 : Int) (d3 : Arr Int 8) (l2 : List Int) (l3 : List Int) (a1 : Option Addr) (n1 : Nat) (c1 : Nat) (a2 : Option Addr) (n2 : Nat) (c2 : Nat) (a3 : Option Addr) (n3 : Nat) (c3 : Nat) (hR1 : RdS (Kd.int .u8) g0 5 a1 n1 c1 l1) (hR2 : RdS (Kd.int .u8) g0 5 a2 n2 c2 l2) (hR3 : RdS (Kd.int .u8) g0 5 a3 n3 c3 l3) (o1 : Int) (hs : F.punish_Thing_Check x1 d1 x2 l1 d2 x3 d3 l2 l3 = some o1) :
  Calls Try.prog 29 #[AG [[.int .i64 x1], encA .u8 d1, [.int .i64 x2], [.slice a1 n1 c1], encA .u8 d2, [.int .i64 x3], encA .u8 d3, [.slice a2 n2 c2], [.slice a3 n3 c3]]] g0.w (Ret NoM g0 fun v g => v = .int .i64 o1) := by
 refine calls_of (args := [AG [[.int .i64 x1], encA .u8 d1, [.int .i64 x2], [.slice a1 n1 c1], encA .u8 d2, [.int .i64 x3], encA .u8 d3, [.slice a2 n2 c2], [.slice a3 n3 c3]]]) Try.func29 rfl (0) ?_
 intro t ht htL
 refine ⟨_, rfl, ?_⟩
 refine CP.refr 39 [(0, AG [[.int .i64 x1], encA .u8 d1, [.int .i64 x2], [.slice a1 n1 c1], encA .u8 d2, [.int .i64 x3], encA .u8 d3, [.slice a2 n2 c2], [.slice a3 n3 c3]])] (by kernel_rfl) (by kernel_rfl) ?_
 intro ds
 have tot : Step (fun l => NoM l ∨ t ≤ l) g0 g0 := Step.refl _ _
 unfold F.punish_Thing_Check at hs
 refine CP.seqR ?_
 refine WP.alloc (T := 43) (t + 1) [[.int .i64 x1], encA .u8 d1, [.int .i64 x2], [.slice a1 n1 c1], encA .u8 d2, [.int .i64 x3], encA .u8 d3, [.slice a2 n2 c2], [.slice a3 n3 c3]] [1, 8, 1, 1, 8, 1, 8, 1, 1] (by kernel_rfl) (by simp [len_encA]) ?_
 intro g1 b1 st1 hB1
 replace hR1 := hR1.mono st1 (fun x => x)
 replace hR2 := hR2.mono st1 (fun x => x)
 replace hR3 := hR3.mono st1 (fun x => x)
 replace tot := tot.trans st1.pure
 refine WP.stl 1 ?_
 refine WP.dn ?_
 refine NX.then_n ?_
 refine CP.seq ?_
 refine CP.seqR ?_
 refine WP.loadB (v := AG [[.int .i64 x1], encA .u8 d1, [.int .i64 x2], [.slice a1 n1 c1], encA .u8 d2, [.int .i64 x3], encA .u8 d3, [.slice a2 n2 c2], [.slice a3 n3 c3]]) hB1 (by kernel_rfl) (by kernel_rfl) ?_
 replace hs := Option.bind_eq_some_iff.1 hs
 obtain ⟨q1, hk1, hs⟩ := hs
 have hcal1 := P.punish_Thing_known g1 x1 d1 x2 l1 d2 x3 d3 l2 l3 a1 n1 c1 a2 n2 c2 a3 n3 c3 hR1 hR2 hR3 q1 hk1
 refine WP.callC hcal1 (by kernel_rfl) ?_
 rintro _ g2 st2 rfl
 replace hB1 := hB1.mono st2 (fun x => x)
 replace hR1 := hR1.mono st2 (fun x => x)
 replace hR2 := hR2.mono st2 (fun x => x)
 replace hR3 := hR3.mono st2 (fun x => x)
 replace tot := tot.trans st2.pure
 refine WP.stl 1 ?_
 refine WP.dn ?_
 refine NX.then_n ?_
 refine CP.cond (b := (!q1)) (by kernel_rfl) (fun h1 => ?_) (fun h1 => ?_)
 ·replace hs := of_if_t hs h1
  refine CP.seqR ?_
  refine WP.stl 1 ?_
  refine WP.dn ?_
  refine NX.then_n ?_
  refine CP.ret ?_
  refine NX.then_r ?_
  replace hs := Option.some.inj hs
  obtain rfl := hs
  exact NX.fin (v := .int .i64 11) (Res.still (by kernel_rfl)) tot htL rfl
 replace hs := of_if_f hs h1
 refine CP.skip ?_
 refine NX.then_n ?_
 refine CP.seqR ?_
 refine WP.loadB (v := AG [[.int .i64 x1], encA .u8 d1, [.int .i64 x2], [.slice a1 n1 c1], encA .u8 d2, [.int .i64 x3], encA .u8 d3, [.slice a2 n2 c2], [.slice a3 n3 c3]]) hB1 (by kernel_rfl) (by kernel_rfl) ?_
 replace hs := Option.bind_eq_some_iff.1 hs
 obtain ⟨⟨d4, x4, d5, l4⟩, hk2, hs⟩ := hs
 dsimp only at hs
 have hcal2 := P.punish_Thing_own g2 x1 d1 x2 l1 d2 x3 d3 l2 l3 a1 n1 c1 a2 n2 c2 a3 n3 c3 hR1 hR2 hR3 d4 x4 d5 l4 hk2
 refine WP.callC hcal2 (by kernel_rfl) ?_
 rintro _ g3 st3 ⟨a4, n4, c4, rfl, hR4⟩
 replace hB1 := hB1.mono st3 (fun x => x)
 replace hR1 := hR1.mono st3 (fun x => x)
 replace hR2 := hR2.mono st3 (fun x => x)
 replace hR3 := hR3.mono st3 (fun x => x)
 replace tot := tot.trans st3.pure
 refine WP.alloc (T := 91) (t + 2) [encA .u8 (zA 8), [.int .i64 0], encA .u8 (zA 8), [.slice none 0 0]] [8, 1, 8, 1] (by kernel_rfl) (by simp [len_encA]) ?_
 intro g4 b2 st4 hB2
 replace hB1 := hB1.mono st4 (fun x => x)
 replace hR1 := hR1.mono st4 (fun x => x)
 replace hR2 := hR2.mono st4 (fun x => x)
 replace hR3 := hR3.mono st4 (fun x => x)
 replace hR4 := hR4.mono st4 (fun x => x)
 replace tot := tot.trans st4.pure
 refine WP.storeB (ty := 91) (off := 0) (v := AG [encA .u8 d4, [.int .i64 x4], encA .u8 d5, [.slice a4 n4 c4]]) hB2 [encA .u8 d4, [.int .i64 x4], encA .u8 d5, [.slice a4 n4 c4]] [8, 1, 8, 1] (by kernel_rfl) (by kernel_rfl) (by simp [len_encA]) (by kernel_rfl) [encA .u8 d4, [.int .i64 x4], encA .u8 d5, [.slice a4 n4 c4]] (by kernel_rfl) (.arr (.one rfl (.arr (.one rfl .nil)))) ?_
 intro g5 st5 hB3
 replace hB1 := hB1.mono st5 (WL.no1 (by omega))
 replace hR1 := hR1.mono st5 (WL.no1 (by omega))
 replace hR2 := hR2.mono st5 (WL.no1 (by omega))
 replace hR3 := hR3.mono st5 (WL.no1 (by omega))
 replace hR4 := hR4.mono st5 (WL.no1 (by omega))
 replace tot := tot.trans (st5.up1 (.inr (by omega)))
 clear hB2
 have hB2 := hB3
 clear hB3
 refine WP.dn ?_
 refine NX.then_n ?_
 refine CP.seq ?_
 refine CP.block ?_
 refine CP.seq ?_
 replace hs := Option.bind_eq_some_iff.1 hs
 obtain ⟨⟨d6, x5, d7, l5, d8, x6, d9, l6⟩, hk3, hs⟩ := hs
 dsimp only at hs
 refine bool_split (b := ((IntKind.i64.wrap (1 - x1)) == 0)) (fun h2 => ?_) (fun h2 => ?_)
 ·replace hs := of_if_t hs h2
  replace hs := Option.bind_eq_some_iff.1 hs
  obtain ⟨q2, hk4, hs⟩ := hs
  refine CP.drawL (by kernel_rfl) [0, 1, 3, 5, 6] N.punish_Thing_Check_0 [⟨none, [], [], fun l g => Box g (t + 1) b1 43 [[.int .i64 x1], encA .u8 d1, [.int .i64 x2], [.slice a1 n1 c1], encA .u8 d2, [.int .i64 x3], encA .u8 d3, [.slice a2 n2 c2], [.slice a3 n3 c3]] [1, 8, 1, 1, 8, 1, 8, 1, 1]⟩, ⟨none, [], [], fun l g => RdS (Kd.int .u8) g 5 a1 n1 c1 l1⟩, ⟨none, [], [], fun l g => RdS (Kd.int .u8) g 5 a2 n2 c2 l2⟩, ⟨none, [], [], fun l g => RdS (Kd.int .u8) g 5 a3 n3 c3 l3⟩, ⟨some 0, [], [0], fun l g => l.getD 0 undef = AG [[.int .i64 x1], encA .u8 d1, [.int .i64 x2], [.slice a1 n1 c1], encA .u8 d2, [.int .i64 x3], encA .u8 d3, [.slice a2 n2 c2], [.slice a3 n3 c3]]⟩, ⟨some 1, [], [1], fun l g => ∃ (a5 : Option Addr) (c5 : Nat) (a6 : Option Addr) (c6 : Nat), l.getD 0 undef = AG [encA .u8 d6, [.int .i64 x5], encA .u8 d7, [.slice a5 l5.length c5], encA .u8 d8, [.int .i64 x6], encA .u8 d9, [.slice a6 l6.length c6]] ∧ RdS (Kd.int .u8) g 5 a5 l5.length c5 l5 ∧ RdS (Kd.int .u8) g 5 a6 l6.length c6 l6⟩, ⟨some 2, [], [2], fun l g => l.getD 0 undef = .int .i64 x1⟩, ⟨some 3, [], [3, 1], fun l g => ∃ (a5 : Option Addr) (c5 : Nat) (a6 : Option Addr) (c6 : Nat), l.getD 0 undef = AG [encA .u8 d6, [.int .i64 x5], encA .u8 d7, [.slice a5 l5.length c5]] ∧ l.getD 1 undef = AG [encA .u8 d6, [.int .i64 x5], encA .u8 d7, [.slice a5 l5.length c5], encA .u8 d8, [.int .i64 x6], encA .u8 d9, [.slice a6 l6.length c6]] ∧ RdS (Kd.int .u8) g 5 a5 l5.length c5 l5 ∧ RdS (Kd.int .u8) g 5 a6 l6.length c6 l6⟩, ⟨some 4, [], [4], fun l g => l.getD 0 undef = .bool q2⟩] [[], [], [], [], []] [] [2] [4, 7, 8] (by kernel_rfl) (by simp) (by simp) ⟨fun _ _ _ _ st h0 hl hj hB1 => (hB1.mono st (fun h => absurd (hl _ h) (by simp))), fun _ _ _ _ st h0 hl hj hR1 => (RdS.mono (e := 5) hR1 st h0), fun _ _ _ _ st h0 hl hj hR2 => (RdS.mono (e := 5) hR2 st h0), fun _ _ _ _ st h0 hl hj hR3 => (RdS.mono (e := 5) hR3 st h0), fun _ _ _ _ st h0 hl hj e0 => e0, fun _ _ _ _ st h0 hl hj ⟨a5, c5, a6, c6, e1, hR5, hR6⟩ => ⟨a5, c5, a6, c6, e1, (RdS.mono (e := 5) hR5 st h0), (RdS.mono (e := 5) hR6 st h0)⟩, fun _ _ _ _ st h0 hl hj e2 => e2, fun _ _ _ _ st h0 hl hj ⟨a5, c5, a6, c6, e3, e1, hR5, hR6⟩ => ⟨a5, c5, a6, c6, e3, e1, (RdS.mono (e := 5) hR5 st h0), (RdS.mono (e := 5) hR6 st h0)⟩, fun _ _ _ _ st h0 hl hj e4 => e4, tv⟩ ⟨hB1, hR1, hR2, hR3, tv, tv, tv, tv, tv, tv⟩ (by kernel_rfl) (fun vs => by kernel_rfl) ?_ ?_ ?_
  ·intro j hj
   have hq : j = 0 ∨ j = 1 ∨ j = 2 := by have h : j < 3 := hj; omega
   rcases hq with rfl | rfl | rfl
   ·intro vs gq stq hl hf
    obtain ⟨v0, v1, v2, v3, v4, rfl⟩ := len_k5 hl
    have e2 := (show v2 = .int .i64 x1 from hf _ (memI 6 rfl) (by kernel_rfl))
    subst e2
    show Option.isSome _ = true
    kernel_rfl
   ·intro vs gq stq hl hf
    obtain ⟨v0, v1, v2, v3, v4, rfl⟩ := len_k5 hl
    have e4 := (show v4 = .bool q2 from hf _ (memI 8 rfl) (by kernel_rfl))
    subst e4
    show Option.isSome _ = true
    kernel_rfl
   ·intro vs gq stq hl hf
    obtain ⟨v0, v1, v2, v3, v4, rfl⟩ := len_k5 hl
    have e4 := (show v4 = .bool q2 from hf _ (memI 8 rfl) (by kernel_rfl))
    subst e4
    show Option.isSome _ = true
    kernel_rfl
  ·intro j hj
   have hq : j = 0 ∨ j = 1 ∨ j = 2 ∨ j = 3 ∨ j = 4 := by have h : j < 5 := hj; omega
   rcases hq with rfl | rfl | rfl | rfl | rfl
   ·intro vs gq stq hl hf
    obtain ⟨v0, v1, v2, v3, v4, rfl⟩ := len_k5 hl
    have hB1 := (show Box gq (t + 1) b1 43 [[.int .i64 x1], encA .u8 d1, [.int .i64 x2], [.slice a1 n1 c1], encA .u8 d2, [.int .i64 x3], encA .u8 d3, [.slice a2 n2 c2], [.slice a3 n3 c3]] [1, 8, 1, 1, 8, 1, 8, 1, 1] from hf _ (memI 0 rfl) (by kernel_rfl))
    refine WP.loadB (v := AG [[.int .i64 x1], encA .u8 d1, [.int .i64 x2], [.slice a1 n1 c1], encA .u8 d2, [.int .i64 x3], encA .u8 d3, [.slice a2 n2 c2], [.slice a3 n3 c3]]) hB1 (by kernel_rfl) (by kernel_rfl) ?_
    refine WP.dn (Shown.ok (v := AG [[.int .i64 x1], encA .u8 d1, [.int .i64 x2], [.slice a1 n1 c1], encA .u8 d2, [.int .i64 x3], encA .u8 d3, [.slice a2 n2 c2], [.slice a3 n3 c3]]) (by kernel_rfl) (Step.refl _ _) ?_)
    exact ⟨tv, tv, tv, tv, rfl, tv, tv, tv, tv, tv⟩
   ·intro vs gq stq hl hf
    obtain ⟨v0, v1, v2, v3, v4, rfl⟩ := len_k5 hl
    have hR1 := (show RdS (Kd.int .u8) gq 5 a1 n1 c1 l1 from hf _ (memI 1 rfl) (by kernel_rfl))
    have hR2 := (show RdS (Kd.int .u8) gq 5 a2 n2 c2 l2 from hf _ (memI 2 rfl) (by kernel_rfl))
    have hR3 := (show RdS (Kd.int .u8) gq 5 a3 n3 c3 l3 from hf _ (memI 3 rfl) (by kernel_rfl))
    have e0 := (show v0 = AG [[.int .i64 x1], encA .u8 d1, [.int .i64 x2], [.slice a1 n1 c1], encA .u8 d2, [.int .i64 x3], encA .u8 d3, [.slice a2 n2 c2], [.slice a3 n3 c3]] from hf _ (memI 4 rfl) (by kernel_rfl))
    subst e0
    have hcal3 := P.punish_Thing_bodies gq x1 d1 x2 l1 d2 x3 d3 l2 l3 a1 n1 c1 a2 n2 c2 a3 n3 c3 hR1 hR2 hR3 d6 x5 d7 l5 d8 x6 d9 l6 hk3
    refine WP.callC hcal3 (by kernel_rfl) ?_
    rintro _ g6 st6 ⟨a5, n5, c5, a6, n6, c6, rfl, hR5, hR6⟩
    obtain rfl := hR5.len
    obtain rfl := hR6.len
    refine WP.dn (Shown.o (v := AG [encA .u8 d6, [.int .i64 x5], encA .u8 d7, [.slice a5 l5.length c5], encA .u8 d8, [.int .i64 x6], encA .u8 d9, [.slice a6 l6.length c6]]) st6.pure ?_)
    exact ⟨tv, tv, tv, tv, tv, ⟨a5, c5, a6, c6, rfl, hR5, hR6⟩, tv, tv, tv, tv⟩
   ·intro vs gq stq hl hf
    obtain ⟨v0, v1, v2, v3, v4, rfl⟩ := len_k5 hl
    have hB1 := (show Box gq (t + 1) b1 43 [[.int .i64 x1], encA .u8 d1, [.int .i64 x2], [.slice a1 n1 c1], encA .u8 d2, [.int .i64 x3], encA .u8 d3, [.slice a2 n2 c2], [.slice a3 n3 c3]] [1, 8, 1, 1, 8, 1, 8, 1, 1] from hf _ (memI 0 rfl) (by kernel_rfl))
    refine WP.loadB (v := .int .i64 x1) hB1 (by kernel_rfl) (by kernel_rfl) ?_
    refine WP.dn (Shown.ok (v := .int .i64 x1) (by kernel_rfl) (Step.refl _ _) ?_)
    exact ⟨tv, tv, tv, tv, tv, tv, rfl, tv, tv, tv⟩
   ·intro vs gq stq hl hf
    obtain ⟨v0, v1, v2, v3, v4, rfl⟩ := len_k5 hl
    obtain ⟨a5, c5, a6, c6, e1, hR5, hR6⟩ := (show ∃ (a5 : Option Addr) (c5 : Nat) (a6 : Option Addr) (c6 : Nat), v1 = AG [encA .u8 d6, [.int .i64 x5], encA .u8 d7, [.slice a5 l5.length c5], encA .u8 d8, [.int .i64 x6], encA .u8 d9, [.slice a6 l6.length c6]] ∧ RdS (Kd.int .u8) gq 5 a5 l5.length c5 l5 ∧ RdS (Kd.int .u8) gq 5 a6 l6.length c6 l6 from hf _ (memI 5 rfl) (by kernel_rfl))
    subst e1
    have e2 := (show v2 = .int .i64 x1 from hf _ (memI 6 rfl) (by kernel_rfl))
    subst e2
    refine WP.indexG (e := 91) (len := 2) (size := 18) (k := .i64) (i := (IntKind.i64.wrap (1 - x1))) (segs := [encA .u8 d6, [.int .i64 x5], encA .u8 d7, [.slice a5 l5.length c5], encA .u8 d8, [.int .i64 x6], encA .u8 d9, [.slice a6 l6.length c6]]) (ns := [8, 1, 8, 1, 8, 1, 8, 1]) (v := AG [encA .u8 d6, [.int .i64 x5], encA .u8 d7, [.slice a5 l5.length c5]]) 0 (eq_of_beq h2) (Nat.le_of_ble_eq_true rfl) (by simp [len_encA]) (by kernel_rfl) (by kernel_rfl) (by kernel_rfl) ?_
    refine WP.dn (Shown.ok (v := AG [encA .u8 d6, [.int .i64 x5], encA .u8 d7, [.slice a5 l5.length c5]]) (by kernel_rfl) (Step.refl _ _) ?_)
    exact ⟨tv, tv, tv, tv, tv, tv, tv, ⟨a5, c5, a6, c6, rfl, rfl, hR5, hR6⟩, tv, tv⟩
   ·intro vs gq stq hl hf
    obtain ⟨v0, v1, v2, v3, v4, rfl⟩ := len_k5 hl
    obtain ⟨a5, c5, a6, c6, e3, e1, hR5, hR6⟩ := (show ∃ (a5 : Option Addr) (c5 : Nat) (a6 : Option Addr) (c6 : Nat), v3 = AG [encA .u8 d6, [.int .i64 x5], encA .u8 d7, [.slice a5 l5.length c5]] ∧ v1 = AG [encA .u8 d6, [.int .i64 x5], encA .u8 d7, [.slice a5 l5.length c5], encA .u8 d8, [.int .i64 x6], encA .u8 d9, [.slice a6 l6.length c6]] ∧ RdS (Kd.int .u8) gq 5 a5 l5.length c5 l5 ∧ RdS (Kd.int .u8) gq 5 a6 l6.length c6 l6 from hf _ (memI 7 rfl) (by kernel_rfl))
    subst e3
    subst e1
    have hcal4 := P.punish_body_none gq d6 x5 d7 l5 a5 l5.length c5 hR5 q2 hk4
    refine WP.callC hcal4 (by kernel_rfl) ?_
    rintro _ g7 st7 rfl
    refine WP.dn (Shown.o (v := .bool q2) st7.pure ?_)
    exact ⟨tv, tv, tv, tv, tv, tv, tv, tv, rfl, tv⟩
  intro vs g8 st8 hl hf
  obtain ⟨v0, v1, v2, v3, v4, rfl⟩ := len_k5 hl
  have e4 := (show v4 = .bool q2 from hf _ (memI 8 rfl) (by kernel_rfl))
  subst e4
  replace hB1 := hB1.mono st8.toNo (fun x => x)
  replace hR1 := hR1.mono st8.toNo (fun x => x)
  replace hR2 := hR2.mono st8.toNo (fun x => x)
  replace hR3 := hR3.mono st8.toNo (fun x => x)
  replace hB2 := hB2.mono st8.toNo (fun x => x)
  replace hR4 := hR4.mono st8.toNo (fun x => x)
  replace tot := tot.trans st8.toNo.pure
  refine NX.then_n ?_
  refine CP.refr 39 [(1, .pointer (some ⟨b1, 0, none⟩)), (3, .pointer (some ⟨b2, 0, none⟩)), (9, .bool (!q2))] (by kernel_rfl) (by kernel_rfl) ?_
  clear ds
  intro ds
  refine CP.cond (b := (!q2)) (by kernel_rfl) (fun h3 => ?_) (fun h3 => ?_)
  ·replace hs := of_if_t hs h3
   refine CP.seqR ?_
   refine WP.stl 1 ?_
   refine WP.dn ?_
   refine NX.then_n ?_
   refine CP.ret ?_
   refine NX.block_r ?_
   refine NX.then_r ?_
   replace hs := Option.some.inj hs
   obtain rfl := hs
   exact NX.fin (v := .int .i64 3) (Res.still (by kernel_rfl)) tot htL rfl
  replace hs := of_if_f hs h3
  refine CP.cut (fun tm g => ∃ (q3 : Bool), Fr 39 [(18, .bool q3)] tm ∧ Step (fun l => NoM l ∨ t ≤ l) g0 g ∧ (F.punish_Thing_Check.c1 q3) = some o1) ?_ ?_
  ·refine CP.region ?_
   refine WP.stl 1 ?_
   refine WP.loadB (v := .int .i64 x4) hB2 (by kernel_rfl) (by kernel_rfl) ?_
   refine WP.stl 2 ?_
   refine WP.guard 22 (b := decide (x4 < 0)) (by kernel_rfl) (fun h8 => ?_) (fun h8 => ?_)
   ·replace hs := of_if_t hs h8
    refine WP.stl 17 ?_
    refine WP.dn ?_
    refine NX.post ?_
    exact ⟨true, ⟨by kernel_rfl, by kernel_rfl⟩, tot, hs⟩
   replace hs := of_if_f hs h8
   refine WP.stl 1 ?_
   refine WP.loadB (v := .int .i64 x4) hB2 (by kernel_rfl) (by kernel_rfl) ?_
   refine WP.stl 3 ?_
   refine WP.guard 27 (b := decide (x4 > 1099511627776)) (by kernel_rfl) (fun h9 => ?_) (fun h9 => ?_)
   ·replace hs := of_if_t hs h9
    refine WP.stl 12 ?_
    refine WP.dn ?_
    refine NX.post ?_
    exact ⟨true, ⟨by kernel_rfl, by kernel_rfl⟩, tot, hs⟩
   replace hs := of_if_f hs h9
   refine WP.stl 1 ?_
   refine WP.loadB (v := .slice a4 n4 c4) hB2 (by kernel_rfl) (by kernel_rfl) ?_
   refine WP.len (a := a4) (cp := c4) hR4.len (by kernel_rfl) ?_
   refine WP.stl 3 ?_
   refine WP.guard 33 (b := decide ((l4.length : Int) > 4096)) (by kernel_rfl) (fun h10 => ?_) (fun h10 => ?_)
   ·replace hs := of_if_t hs h10
    refine WP.stl 6 ?_
    refine WP.dn ?_
    refine NX.post ?_
    exact ⟨true, ⟨by kernel_rfl, by kernel_rfl⟩, tot, hs⟩
   replace hs := of_if_f hs h10
   refine WP.stl 1 ?_
   refine WP.loadB (v := .slice a3 n3 c3) hB1 (by kernel_rfl) (by kernel_rfl) ?_
   refine WP.len (a := a3) (cp := c3) hR3.len (by kernel_rfl) ?_
   refine WP.stl 3 ?_
   refine WP.dn ?_
   refine NX.post ?_
   exact ⟨decide ((l3.length : Int) > 4096), ⟨by kernel_rfl, by kernel_rfl⟩, tot, hs⟩
  clear tot hs hB1 hR1 hR2 hR3 hB2 hR4
  rintro tm g ⟨q3, hF, tot, hs⟩
  clear ds
  obtain ⟨ds, rfl⟩ := hF.open
  clear hF
  unfold F.punish_Thing_Check.c1 at hs
  refine CP.cond (b := q3) (by kernel_rfl) (fun h7 => ?_) (fun h7 => ?_)
  ·replace hs := of_if_t hs h7
   refine CP.seqR ?_
   refine WP.stl 1 ?_
   refine WP.dn ?_
   refine NX.then_n ?_
   refine CP.ret ?_
   refine NX.block_r ?_
   refine NX.then_r ?_
   replace hs := Option.some.inj hs
   obtain rfl := hs
   exact NX.fin (v := .int .i64 2) (Res.still (by kernel_rfl)) tot htL rfl
  replace hs := of_if_f hs h7
  refine CP.skip ?_
  refine NX.block_n ?_
  refine NX.then_n ?_
  refine CP.seqR ?_
  refine WP.stl 1 ?_
  refine WP.dn ?_
  refine NX.then_n ?_
  refine CP.ret ?_
  replace hs := Option.some.inj hs
  obtain rfl := hs
  exact NX.fin (v := .int .i64 0) (Res.still (by kernel_rfl)) tot htL rfl
 replace hs := of_if_f hs h2
 by_cases hc1 : (IntKind.i64.wrap (1 - x1)) = 1
 case neg => rw [if_neg hc1] at hs; cases hs
 replace hs := of_if_p hs hc1
 replace hs := Option.bind_eq_some_iff.1 hs
 obtain ⟨q4, hk5, hs⟩ := hs
 refine CP.drawL (by kernel_rfl) [0, 1, 3, 5, 6] N.punish_Thing_Check_0 [⟨none, [], [], fun l g => Box g (t + 1) b1 43 [[.int .i64 x1], encA .u8 d1, [.int .i64 x2], [.slice a1 n1 c1], encA .u8 d2, [.int .i64 x3], encA .u8 d3, [.slice a2 n2 c2], [.slice a3 n3 c3]] [1, 8, 1, 1, 8, 1, 8, 1, 1]⟩, ⟨none, [], [], fun l g => RdS (Kd.int .u8) g 5 a1 n1 c1 l1⟩, ⟨none, [], [], fun l g => RdS (Kd.int .u8) g 5 a2 n2 c2 l2⟩, ⟨none, [], [], fun l g => RdS (Kd.int .u8) g 5 a3 n3 c3 l3⟩, ⟨some 0, [], [0], fun l g => l.getD 0 undef = AG [[.int .i64 x1], encA .u8 d1, [.int .i64 x2], [.slice a1 n1 c1], encA .u8 d2, [.int .i64 x3], encA .u8 d3, [.slice a2 n2 c2], [.slice a3 n3 c3]]⟩, ⟨some 1, [], [1], fun l g => ∃ (a5 : Option Addr) (c5 : Nat) (a6 : Option Addr) (c6 : Nat), l.getD 0 undef = AG [encA .u8 d6, [.int .i64 x5], encA .u8 d7, [.slice a5 l5.length c5], encA .u8 d8, [.int .i64 x6], encA .u8 d9, [.slice a6 l6.length c6]] ∧ RdS (Kd.int .u8) g 5 a5 l5.length c5 l5 ∧ RdS (Kd.int .u8) g 5 a6 l6.length c6 l6⟩, ⟨some 2, [], [2], fun l g => l.getD 0 undef = .int .i64 x1⟩, ⟨some 3, [], [3, 1], fun l g => ∃ (a5 : Option Addr) (c5 : Nat) (a6 : Option Addr) (c6 : Nat), l.getD 0 undef = AG [encA .u8 d8, [.int .i64 x6], encA .u8 d9, [.slice a6 l6.length c6]] ∧ l.getD 1 undef = AG [encA .u8 d6, [.int .i64 x5], encA .u8 d7, [.slice a5 l5.length c5], encA .u8 d8, [.int .i64 x6], encA .u8 d9, [.slice a6 l6.length c6]] ∧ RdS (Kd.int .u8) g 5 a5 l5.length c5 l5 ∧ RdS (Kd.int .u8) g 5 a6 l6.length c6 l6⟩, ⟨some 4, [], [4], fun l g => l.getD 0 undef = .bool q4⟩] [[], [], [], [], []] [] [2] [4, 7, 8] (by kernel_rfl) (by simp) (by simp) ⟨fun _ _ _ _ st h0 hl hj hB1 => (hB1.mono st (fun h => absurd (hl _ h) (by simp))), fun _ _ _ _ st h0 hl hj hR1 => (RdS.mono (e := 5) hR1 st h0), fun _ _ _ _ st h0 hl hj hR2 => (RdS.mono (e := 5) hR2 st h0), fun _ _ _ _ st h0 hl hj hR3 => (RdS.mono (e := 5) hR3 st h0), fun _ _ _ _ st h0 hl hj e0 => e0, fun _ _ _ _ st h0 hl hj ⟨a5, c5, a6, c6, e1, hR5, hR6⟩ => ⟨a5, c5, a6, c6, e1, (RdS.mono (e := 5) hR5 st h0), (RdS.mono (e := 5) hR6 st h0)⟩, fun _ _ _ _ st h0 hl hj e2 => e2, fun _ _ _ _ st h0 hl hj ⟨a5, c5, a6, c6, e3, e1, hR5, hR6⟩ => ⟨a5, c5, a6, c6, e3, e1, (RdS.mono (e := 5) hR5 st h0), (RdS.mono (e := 5) hR6 st h0)⟩, fun _ _ _ _ st h0 hl hj e4 => e4, tv⟩ ⟨hB1, hR1, hR2, hR3, tv, tv, tv, tv, tv, tv⟩ (by kernel_rfl) (fun vs => by kernel_rfl) ?_ ?_ ?_
 ·intro j hj
  have hq : j = 0 ∨ j = 1 ∨ j = 2 := by have h : j < 3 := hj; omega
  rcases hq with rfl | rfl | rfl
  ·intro vs gq stq hl hf
   obtain ⟨v0, v1, v2, v3, v4, rfl⟩ := len_k5 hl
   have e2 := (show v2 = .int .i64 x1 from hf _ (memI 6 rfl) (by kernel_rfl))
   subst e2
   show Option.isSome _ = true
   kernel_rfl
  ·intro vs gq stq hl hf
   obtain ⟨v0, v1, v2, v3, v4, rfl⟩ := len_k5 hl
   have e4 := (show v4 = .bool q4 from hf _ (memI 8 rfl) (by kernel_rfl))
   subst e4
   show Option.isSome _ = true
   kernel_rfl
  ·intro vs gq stq hl hf
   obtain ⟨v0, v1, v2, v3, v4, rfl⟩ := len_k5 hl
   have e4 := (show v4 = .bool q4 from hf _ (memI 8 rfl) (by kernel_rfl))
   subst e4
   show Option.isSome _ = true
   kernel_rfl
 ·intro j hj
  have hq : j = 0 ∨ j = 1 ∨ j = 2 ∨ j = 3 ∨ j = 4 := by have h : j < 5 := hj; omega
  rcases hq with rfl | rfl | rfl | rfl | rfl
  ·intro vs gq stq hl hf
   obtain ⟨v0, v1, v2, v3, v4, rfl⟩ := len_k5 hl
   have hB1 := (show Box gq (t + 1) b1 43 [[.int .i64 x1], encA .u8 d1, [.int .i64 x2], [.slice a1 n1 c1], encA .u8 d2, [.int .i64 x3], encA .u8 d3, [.slice a2 n2 c2], [.slice a3 n3 c3]] [1, 8, 1, 1, 8, 1, 8, 1, 1] from hf _ (memI 0 rfl) (by kernel_rfl))
   refine WP.loadB (v := AG [[.int .i64 x1], encA .u8 d1, [.int .i64 x2], [.slice a1 n1 c1], encA .u8 d2, [.int .i64 x3], encA .u8 d3, [.slice a2 n2 c2], [.slice a3 n3 c3]]) hB1 (by kernel_rfl) (by kernel_rfl) ?_
   refine WP.dn (Shown.ok (v := AG [[.int .i64 x1], encA .u8 d1, [.int .i64 x2], [.slice a1 n1 c1], encA .u8 d2, [.int .i64 x3], encA .u8 d3, [.slice a2 n2 c2], [.slice a3 n3 c3]]) (by kernel_rfl) (Step.refl _ _) ?_)
   exact ⟨tv, tv, tv, tv, rfl, tv, tv, tv, tv, tv⟩
  ·intro vs gq stq hl hf
   obtain ⟨v0, v1, v2, v3, v4, rfl⟩ := len_k5 hl
   have hR1 := (show RdS (Kd.int .u8) gq 5 a1 n1 c1 l1 from hf _ (memI 1 rfl) (by kernel_rfl))
   have hR2 := (show RdS (Kd.int .u8) gq 5 a2 n2 c2 l2 from hf _ (memI 2 rfl) (by kernel_rfl))
   have hR3 := (show RdS (Kd.int .u8) gq 5 a3 n3 c3 l3 from hf _ (memI 3 rfl) (by kernel_rfl))
   have e0 := (show v0 = AG [[.int .i64 x1], encA .u8 d1, [.int .i64 x2], [.slice a1 n1 c1], encA .u8 d2, [.int .i64 x3], encA .u8 d3, [.slice a2 n2 c2], [.slice a3 n3 c3]] from hf _ (memI 4 rfl) (by kernel_rfl))
   subst e0
   have hcal3 := P.punish_Thing_bodies gq x1 d1 x2 l1 d2 x3 d3 l2 l3 a1 n1 c1 a2 n2 c2 a3 n3 c3 hR1 hR2 hR3 d6 x5 d7 l5 d8 x6 d9 l6 hk3
   refine WP.callC hcal3 (by kernel_rfl) ?_
   rintro _ g6 st6 ⟨a5, n5, c5, a6, n6, c6, rfl, hR5, hR6⟩
   obtain rfl := hR5.len
   obtain rfl := hR6.len
   refine WP.dn (Shown.o (v := AG [encA .u8 d6, [.int .i64 x5], encA .u8 d7, [.slice a5 l5.length c5], encA .u8 d8, [.int .i64 x6], encA .u8 d9, [.slice a6 l6.length c6]]) st6.pure ?_)
   exact ⟨tv, tv, tv, tv, tv, ⟨a5, c5, a6, c6, rfl, hR5, hR6⟩, tv, tv, tv, tv⟩
  ·intro vs gq stq hl hf
   obtain ⟨v0, v1, v2, v3, v4, rfl⟩ := len_k5 hl
   have hB1 := (show Box gq (t + 1) b1 43 [[.int .i64 x1], encA .u8 d1, [.int .i64 x2], [.slice a1 n1 c1], encA .u8 d2, [.int .i64 x3], encA .u8 d3, [.slice a2 n2 c2], [.slice a3 n3 c3]] [1, 8, 1, 1, 8, 1, 8, 1, 1] from hf _ (memI 0 rfl) (by kernel_rfl))
   refine WP.loadB (v := .int .i64 x1) hB1 (by kernel_rfl) (by kernel_rfl) ?_
   refine WP.dn (Shown.ok (v := .int .i64 x1) (by kernel_rfl) (Step.refl _ _) ?_)
   exact ⟨tv, tv, tv, tv, tv, tv, rfl, tv, tv, tv⟩
  ·intro vs gq stq hl hf
   obtain ⟨v0, v1, v2, v3, v4, rfl⟩ := len_k5 hl
   obtain ⟨a5, c5, a6, c6, e1, hR5, hR6⟩ := (show ∃ (a5 : Option Addr) (c5 : Nat) (a6 : Option Addr) (c6 : Nat), v1 = AG [encA .u8 d6, [.int .i64 x5], encA .u8 d7, [.slice a5 l5.length c5], encA .u8 d8, [.int .i64 x6], encA .u8 d9, [.slice a6 l6.length c6]] ∧ RdS (Kd.int .u8) gq 5 a5 l5.length c5 l5 ∧ RdS (Kd.int .u8) gq 5 a6 l6.length c6 l6 from hf _ (memI 5 rfl) (by kernel_rfl))
   subst e1
   have e2 := (show v2 = .int .i64 x1 from hf _ (memI 6 rfl) (by kernel_rfl))
   subst e2
   refine WP.indexG (e := 91) (len := 2) (size := 18) (k := .i64) (i := (IntKind.i64.wrap (1 - x1))) (segs := [encA .u8 d6, [.int .i64 x5], encA .u8 d7, [.slice a5 l5.length c5], encA .u8 d8, [.int .i64 x6], encA .u8 d9, [.slice a6 l6.length c6]]) (ns := [8, 1, 8, 1, 8, 1, 8, 1]) (v := AG [encA .u8 d8, [.int .i64 x6], encA .u8 d9, [.slice a6 l6.length c6]]) 1 hc1 (Nat.le_of_ble_eq_true rfl) (by simp [len_encA]) (by kernel_rfl) (by kernel_rfl) (by kernel_rfl) ?_
   refine WP.dn (Shown.ok (v := AG [encA .u8 d8, [.int .i64 x6], encA .u8 d9, [.slice a6 l6.length c6]]) (by kernel_rfl) (Step.refl _ _) ?_)
   exact ⟨tv, tv, tv, tv, tv, tv, tv, ⟨a5, c5, a6, c6, rfl, rfl, hR5, hR6⟩, tv, tv⟩
  ·intro vs gq stq hl hf
   obtain ⟨v0, v1, v2, v3, v4, rfl⟩ := len_k5 hl
   obtain ⟨a5, c5, a6, c6, e3, e1, hR5, hR6⟩ := (show ∃ (a5 : Option Addr) (c5 : Nat) (a6 : Option Addr) (c6 : Nat), v3 = AG [encA .u8 d8, [.int .i64 x6], encA .u8 d9, [.slice a6 l6.length c6]] ∧ v1 = AG [encA .u8 d6, [.int .i64 x5], encA .u8 d7, [.slice a5 l5.length c5], encA .u8 d8, [.int .i64 x6], encA .u8 d9, [.slice a6 l6.length c6]] ∧ RdS (Kd.int .u8) gq 5 a5 l5.length c5 l5 ∧ RdS (Kd.int .u8) gq 5 a6 l6.length c6 l6 from hf _ (memI 7 rfl) (by kernel_rfl))
   subst e3
   subst e1
   have hcal5 := P.punish_body_none gq d8 x6 d9 l6 a6 l6.length c6 hR6 q4 hk5
   refine WP.callC hcal5 (by kernel_rfl) ?_
   rintro _ g9 st9 rfl
   refine WP.dn (Shown.o (v := .bool q4) st9.pure ?_)
   exact ⟨tv, tv, tv, tv, tv, tv, tv, tv, rfl, tv⟩
 intro vs g10 st10 hl hf
 obtain ⟨v0, v1, v2, v3, v4, rfl⟩ := len_k5 hl
 have e4 := (show v4 = .bool q4 from hf _ (memI 8 rfl) (by kernel_rfl))
 subst e4
 replace hB1 := hB1.mono st10.toNo (fun x => x)
 replace hR1 := hR1.mono st10.toNo (fun x => x)
 replace hR2 := hR2.mono st10.toNo (fun x => x)
 replace hR3 := hR3.mono st10.toNo (fun x => x)
 replace hB2 := hB2.mono st10.toNo (fun x => x)
 replace hR4 := hR4.mono st10.toNo (fun x => x)
 replace tot := tot.trans st10.toNo.pure
 refine NX.then_n ?_
 refine CP.refr 39 [(1, .pointer (some ⟨b1, 0, none⟩)), (3, .pointer (some ⟨b2, 0, none⟩)), (9, .bool (!q4))] (by kernel_rfl) (by kernel_rfl) ?_
 clear ds
 intro ds
 refine CP.cond (b := (!q4)) (by kernel_rfl) (fun h11 => ?_) (fun h11 => ?_)
 ·replace hs := of_if_t hs h11
  refine CP.seqR ?_
  refine WP.stl 1 ?_
  refine WP.dn ?_
  refine NX.then_n ?_
  refine CP.ret ?_
  refine NX.block_r ?_
  refine NX.then_r ?_
  replace hs := Option.some.inj hs
  obtain rfl := hs
  exact NX.fin (v := .int .i64 3) (Res.still (by kernel_rfl)) tot htL rfl
 replace hs := of_if_f hs h11
 refine CP.cut (fun tm g => ∃ (q5 : Bool), Fr 39 [(18, .bool q5)] tm ∧ Step (fun l => NoM l ∨ t ≤ l) g0 g ∧ (F.punish_Thing_Check.c2 q5) = some o1) ?_ ?_
 ·refine CP.region ?_
  refine WP.stl 1 ?_
  refine WP.loadB (v := .int .i64 x4) hB2 (by kernel_rfl) (by kernel_rfl) ?_
  refine WP.stl 2 ?_
  refine WP.guard 22 (b := decide (x4 < 0)) (by kernel_rfl) (fun h16 => ?_) (fun h16 => ?_)
  ·replace hs := of_if_t hs h16
   refine WP.stl 17 ?_
   refine WP.dn ?_
   refine NX.post ?_
   exact ⟨true, ⟨by kernel_rfl, by kernel_rfl⟩, tot, hs⟩
  replace hs := of_if_f hs h16
  refine WP.stl 1 ?_
  refine WP.loadB (v := .int .i64 x4) hB2 (by kernel_rfl) (by kernel_rfl) ?_
  refine WP.stl 3 ?_
  refine WP.guard 27 (b := decide (x4 > 1099511627776)) (by kernel_rfl) (fun h17 => ?_) (fun h17 => ?_)
  ·replace hs := of_if_t hs h17
   refine WP.stl 12 ?_
   refine WP.dn ?_
   refine NX.post ?_
   exact ⟨true, ⟨by kernel_rfl, by kernel_rfl⟩, tot, hs⟩
  replace hs := of_if_f hs h17
  refine WP.stl 1 ?_
  refine WP.loadB (v := .slice a4 n4 c4) hB2 (by kernel_rfl) (by kernel_rfl) ?_
  refine WP.len (a := a4) (cp := c4) hR4.len (by kernel_rfl) ?_
  refine WP.stl 3 ?_
  refine WP.guard 33 (b := decide ((l4.length : Int) > 4096)) (by kernel_rfl) (fun h18 => ?_) (fun h18 => ?_)
  ·replace hs := of_if_t hs h18
   refine WP.stl 6 ?_
   refine WP.dn ?_
   refine NX.post ?_
   exact ⟨true, ⟨by kernel_rfl, by kernel_rfl⟩, tot, hs⟩
  replace hs := of_if_f hs h18
  refine WP.stl 1 ?_
  refine WP.loadB (v := .slice a3 n3 c3) hB1 (by kernel_rfl) (by kernel_rfl) ?_
  refine WP.len (a := a3) (cp := c3) hR3.len (by kernel_rfl) ?_
  refine WP.stl 3 ?_
  refine WP.dn ?_
  refine NX.post ?_
  exact ⟨decide ((l3.length : Int) > 4096), ⟨by kernel_rfl, by kernel_rfl⟩, tot, hs⟩
 clear tot hs hB1 hR1 hR2 hR3 hB2 hR4
 rintro tm g ⟨q5, hF, tot, hs⟩
 clear ds
 obtain ⟨ds, rfl⟩ := hF.open
 clear hF
 unfold F.punish_Thing_Check.c2 at hs
 refine CP.cond (b := q5) (by kernel_rfl) (fun h15 => ?_) (fun h15 => ?_)
 ·replace hs := of_if_t hs h15
  refine CP.seqR ?_
  refine WP.stl 1 ?_
  refine WP.dn ?_
  refine NX.then_n ?_
  refine CP.ret ?_
  refine NX.block_r ?_
  refine NX.then_r ?_
  replace hs := Option.some.inj hs
  obtain rfl := hs
  exact NX.fin (v := .int .i64 2) (Res.still (by kernel_rfl)) tot htL rfl
 replace hs := of_if_f hs h15
 refine CP.skip ?_
 refine NX.block_n ?_
 refine NX.then_n ?_
 refine CP.seqR ?_
 refine WP.stl 1 ?_
 refine WP.dn ?_
 refine NX.then_n ?_
 refine CP.ret ?_
 replace hs := Option.some.inj hs
 obtain rfl := hs
 exact NX.fin (v := .int .i64 0) (Res.still (by kernel_rfl)) tot htL rfl
def F.baizeref01_Num.l1 : Nat → Int → (List Int) → Option ((List Int))
 | 0, _, _ => none
 | k + 1, x2, l1 => (if decide (x2 ≥ 128) = true then (if l1.length + ([(IntKind.u8.wrap (IntKind.u64.wrap (128 + (x2.tmod 128))))]).length ≤ 140737488355328 then (F.baizeref01_Num.l1 k (IntKind.u64.wrap (x2.tdiv 128)) (l1 ++ [(IntKind.u8.wrap (IntKind.u64.wrap (128 + (x2.tmod 128))))])) else none) else (if l1.length + ([(IntKind.u8.wrap x2)]).length ≤ 140737488355328 then (some (l1 ++ [(IntKind.u8.wrap x2)])) else none))
def F.baizeref01_Num (x1 : Int) : Option ((List Int)) := (F.baizeref01_Num.l1 fuel x1 ([]))
theorem P.baizeref01_Num (g0 : GW) (r0 : Nat) (x1 : Int) (o1 : List Int) (hs : F.baizeref01_Num x1 = some o1) :
  Calls Try.prog 43 #[.int .u64 x1] g0.w (Ret NoM g0 fun v g => ∃ (a_1 : Option Addr) (n_1 : Nat) (c_1 : Nat), v = .slice a_1 n_1 c_1 ∧ OwnS (Kd.int .u8) g r0 5 a_1 n_1 c_1 o1) := by
 refine calls_of (args := [.int .u64 x1]) Try.func43 rfl (r0 + 0) ?_
 intro t ht htL
 refine ⟨_, rfl, ?_⟩
 refine CP.refr 20 [(0, .int .u64 x1)] (by kernel_rfl) (by kernel_rfl) ?_
 intro ds
 have tot : Step (fun l => NoM l ∨ t ≤ l) g0 g0 := Step.refl _ _
 unfold F.baizeref01_Num at hs
 refine CP.seqR ?_
 refine WP.stl 1 ?_
 refine WP.dn ?_
 refine NX.then_n ?_
 refine CP.seqR ?_
 refine WP.stl 1 ?_
 refine WP.dn ?_
 refine NX.then_n ?_
 refine CP.seq ?_
 refine CP.block ?_
 generalize fuel = k1 at hs
 refine CP.loop (fun k1 tm g => ∃ (x2 : Int) (l1 : List Int) (a5 : Option Addr) (n1 : Nat) (c3 : Nat), Fr 20 [(0, .int .u64 x2), (3, .slice a5 n1 c3)] tm ∧ Step (fun l => NoM l ∨ t ≤ l) g0 g ∧ OwnS (Kd.int .u8) g (t + 2) 5 a5 n1 c3 l1 ∧ F.baizeref01_Num.l1 k1 x2 l1 = some o1) k1 ?_ ?_ ?_
 ·exact ⟨x1, [], none, 0, 0, ⟨by kernel_rfl, by kernel_rfl⟩, tot, (OwnS.nil _ _ _ _), hs⟩
 ·rintro tm g ⟨x2, l1, a5, n1, c3, hF, tot, hR5, hs⟩
  exact absurd hs (by simp [F.baizeref01_Num.l1])
 clear tot hs
 rintro k1 tm g ⟨x2, l1, a5, n1, c3, hF, tot, hR5, hs⟩
 clear ds
 obtain ⟨ds, rfl⟩ := hF.open
 clear hF
 unfold F.baizeref01_Num.l1 at hs
 refine CP.seq ?_
 refine CP.seqR ?_
 refine WP.stl 2 ?_
 refine WP.dn ?_
 refine NX.then_n ?_
 refine CP.cond (b := decide (x2 ≥ 128)) (by kernel_rfl) (fun h3 => ?_) (fun h3 => ?_)
 ·replace hs := of_if_t hs h3
  refine CP.skip ?_
  refine NX.then_n ?_
  refine CP.block ?_
  refine CP.seqR ?_
  refine WP.stl 5 ?_
  refine WP.mkSl (kd := (Kd.int .u8)) (t := 33) (e := 5) (bytes := 1) (t + 7) [.int .u8 (IntKind.u8.wrap (IntKind.u64.wrap (128 + (x2.tmod 128))))] [(IntKind.u8.wrap (IntKind.u64.wrap (128 + (x2.tmod 128))))] (by kernel_rfl) (by kernel_rfl) (Nat.le_of_ble_eq_true rfl) (Nat.le_of_ble_eq_true rfl) (all_cons rfl all_nil) (⟨_, _, rfl, (by exact rfl), rfl⟩) rfl ?_
  intro g9 a11 st9 hR11
  replace hR5 := hR5.mono st9 (fun x => x) (fun x => x)
  replace tot := tot.trans st9.pure
  by_cases hc5 : l1.length + ([(IntKind.u8.wrap (IntKind.u64.wrap (128 + (x2.tmod 128))))]).length ≤ 140737488355328
  case neg => rw [if_neg hc5] at hs; cases hs
  replace hs := of_if_p hs hc5
  refine WP.append (kd := (Kd.int .u8)) (t := 33) (e := 5) (bytes := 1) (a2 := a11) (c2 := 1) hR5 hR11.src hR11.len (by kernel_rfl) (by kernel_rfl) (by omega) (by simp only [maxLen]; omega) (by omega) ?_
  intro g10 a12 c7 st10 hR12
  replace hR11 := hR11.mono st10 (WL.no1 (by omega)) (WL.no1 (by omega))
  replace tot := tot.trans (st10.up1 (.inr (by omega)))
  refine WP.stl 1 ?_
  refine WP.dn ?_
  refine NX.then_n ?_
  refine CP.region ?_
  refine WP.stl 3 ?_
  refine WP.dn ?_
  refine NX.block_n ?_
  refine NX.post ?_
  exact ⟨(IntKind.u64.wrap (x2.tdiv 128)), (l1 ++ [(IntKind.u8.wrap (IntKind.u64.wrap (128 + (x2.tmod 128))))]), a12, (n1 + 1), c7, ⟨by kernel_rfl, by kernel_rfl⟩, tot, hR12, hs⟩
 replace hs := of_if_f hs h3
 refine CP.exit ?_
 refine NX.then_e ?_
 refine NX.then_e ?_
 refine NX.block_s ?_
 refine NX.then_n ?_
 refine CP.seqR ?_
 refine WP.stl 3 ?_
 refine WP.mkSl (kd := (Kd.int .u8)) (t := 33) (e := 5) (bytes := 1) (t + 8) [.int .u8 (IntKind.u8.wrap x2)] [(IntKind.u8.wrap x2)] (by kernel_rfl) (by kernel_rfl) (Nat.le_of_ble_eq_true rfl) (Nat.le_of_ble_eq_true rfl) (all_cons rfl all_nil) (⟨_, _, rfl, (by exact rfl), rfl⟩) rfl ?_
 intro g11 a13 st11 hR13
 replace hR5 := hR5.mono st11 (fun x => x) (fun x => x)
 replace tot := tot.trans st11.pure
 by_cases hc6 : l1.length + ([(IntKind.u8.wrap x2)]).length ≤ 140737488355328
 case neg => rw [if_neg hc6] at hs; cases hs
 replace hs := of_if_p hs hc6
 refine WP.append (kd := (Kd.int .u8)) (t := 33) (e := 5) (bytes := 1) (a2 := a13) (c2 := 1) hR5 hR13.src hR13.len (by kernel_rfl) (by kernel_rfl) (by omega) (by simp only [maxLen]; omega) (by omega) ?_
 intro g12 a14 c8 st12 hR14
 replace hR13 := hR13.mono st12 (WL.no1 (by omega)) (WL.no1 (by omega))
 replace tot := tot.trans (st12.up1 (.inr (by omega)))
 refine WP.stl 1 ?_
 refine WP.dn ?_
 refine NX.then_n ?_
 refine CP.ret ?_
 obtain ⟨g13, hw1, st13, hnew⟩ := hR14.relab (by omega) r0
 refine NX.regw hw1 ?_
 replace tot := tot.trans (st13.up1 (.inr (by omega)))
 clear hR14
 have hR14 := hnew
 clear hnew
 replace hs := Option.some.inj hs
 obtain rfl := hs
 exact NX.fin (v := .slice a14 (n1 + 1) c8) (Res.still (by kernel_rfl)) tot htL ⟨a14, (n1 + 1), c8, rfl, hR14⟩
def F.baizeref01_Bytes (l1 : List Int) : Option ((List Int)) := ((F.baizeref01_Num (IntKind.u64.wrap (l1.length : Int))).bind fun l2 => (if l2.length + l1.length ≤ 140737488355328 then (some (l2 ++ l1)) else none))
theorem P.baizeref01_Bytes (g0 : GW) (r0 : Nat) (l1 : List Int) (a1 : Option Addr) (n1 : Nat) (c1 : Nat) (hR1 : RdS (Kd.int .u8) g0 5 a1 n1 c1 l1) (o1 : List Int) (hs : F.baizeref01_Bytes l1 = some o1) :
  Calls Try.prog 44 #[.slice a1 n1 c1] g0.w (Ret NoM g0 fun v g => ∃ (a_1 : Option Addr) (n_1 : Nat) (c_1 : Nat), v = .slice a_1 n_1 c_1 ∧ OwnS (Kd.int .u8) g r0 5 a_1 n_1 c_1 o1) := by
 refine calls_of (args := [.slice a1 n1 c1]) Try.func44 rfl (r0 + 0) ?_
 intro t ht htL
 refine ⟨_, rfl, ?_⟩
 refine CP.refr 9 [(0, .slice a1 n1 c1)] (by kernel_rfl) (by kernel_rfl) ?_
 intro ds
 have tot : Step (fun l => NoM l ∨ t ≤ l) g0 g0 := Step.refl _ _
 unfold F.baizeref01_Bytes at hs
 refine CP.seqR ?_
 refine WP.stl 1 ?_
 refine WP.dn ?_
 refine NX.then_n ?_
 refine CP.seqR ?_
 refine WP.stl 1 ?_
 refine WP.len (a := a1) (cp := c1) hR1.len (by kernel_rfl) ?_
 refine WP.stl 1 ?_
 replace hs := Option.bind_eq_some_iff.1 hs
 obtain ⟨l2, hk1, hs⟩ := hs
 have hcal1 := P.baizeref01_Num g0 (t + 1) (IntKind.u64.wrap (l1.length : Int)) l2 hk1
 refine WP.callC hcal1 (by kernel_rfl) ?_
 rintro _ g1 st1 ⟨a2, n2, c2, rfl, hR2⟩
 replace hR1 := hR1.mono st1 (fun x => x)
 replace tot := tot.trans st1.pure
 refine WP.stl 1 ?_
 by_cases hc1 : l2.length + l1.length ≤ 140737488355328
 case neg => rw [if_neg hc1] at hs; cases hs
 replace hs := of_if_p hs hc1
 refine WP.append (kd := (Kd.int .u8)) (t := 33) (e := 5) (bytes := 1) (a2 := a1) (c2 := c1) hR2 hR1.src hR1.len (by kernel_rfl) (by kernel_rfl) (by omega) (by simp only [maxLen]; omega) (by omega) ?_
 intro g2 a3 c3 st2 hR3
 replace hR1 := hR1.mono st2 (WL.no1 (by omega))
 replace tot := tot.trans (st2.up1 (.inr (by omega)))
 refine WP.stl 1 ?_
 refine WP.dn ?_
 refine NX.then_n ?_
 refine CP.ret ?_
 obtain ⟨g3, hw1, st3, hnew⟩ := hR3.relab (by omega) r0
 refine NX.regw hw1 ?_
 replace tot := tot.trans (st3.up1 (.inr (by omega)))
 clear hR3
 have hR3 := hnew
 clear hnew
 replace hs := Option.some.inj hs
 obtain rfl := hs
 exact NX.fin (v := .slice a3 (n2 + n1) c3) (Res.still (by kernel_rfl)) tot htL ⟨a3, (n2 + n1), c3, rfl, hR3⟩
def F.baizeref32_text (s1 : ByteArray) : Option ((List Int)) := ((F.baizeref01_Bytes (strBytes s1)).bind fun l1 => (some l1))
theorem P.baizeref32_text (g0 : GW) (r0 : Nat) (s1 : ByteArray) (o1 : List Int) (hs : F.baizeref32_text s1 = some o1) :
  Calls Try.prog 81 #[.string s1] g0.w (Ret NoM g0 fun v g => ∃ (a_1 : Option Addr) (n_1 : Nat) (c_1 : Nat), v = .slice a_1 n_1 c_1 ∧ OwnS (Kd.int .u8) g r0 5 a_1 n_1 c_1 o1) := by
 refine calls_of (args := [.string s1]) Try.func81 rfl (r0 + 0) ?_
 intro t ht htL
 refine ⟨_, rfl, ?_⟩
 refine CP.refr 6 [(0, .string s1)] (by kernel_rfl) (by kernel_rfl) ?_
 intro ds
 have tot : Step (fun l => NoM l ∨ t ≤ l) g0 g0 := Step.refl _ _
 unfold F.baizeref32_text at hs
 refine CP.seqR ?_
 refine WP.stl 1 ?_
 refine WP.dn ?_
 refine NX.then_n ?_
 refine CP.seqR ?_
 refine WP.stl 1 ?_
 refine WP.toBytes (e := 5) (s := s1) (by kernel_rfl) ?_
 intro g1 a1 c1 st1 hR1
 replace tot := tot.trans st1.pure
 replace hs := Option.bind_eq_some_iff.1 hs
 obtain ⟨l1, hk1, hs⟩ := hs
 have hcal1 := P.baizeref01_Bytes g1 (t + 1) (strBytes s1) a1 s1.size c1 hR1 l1 hk1
 refine WP.callC hcal1 (by kernel_rfl) ?_
 rintro _ g2 st2 ⟨a2, n1, c2, rfl, hR2⟩
 replace hR1 := hR1.mono st2 (fun x => x)
 replace tot := tot.trans st2.pure
 refine WP.stl 1 ?_
 refine WP.dn ?_
 refine NX.then_n ?_
 refine CP.ret ?_
 obtain ⟨g3, hw1, st3, hnew⟩ := hR2.relab (by omega) r0
 refine NX.regw hw1 ?_
 replace tot := tot.trans (st3.up1 (.inr (by omega)))
 clear hR2
 have hR2 := hnew
 clear hnew
 replace hs := Option.some.inj hs
 obtain rfl := hs
 exact NX.fin (v := .slice a2 n1 c2) (Res.still (by kernel_rfl)) tot htL ⟨a2, n1, c2, rfl, hR2⟩
def F.baizeref01_Fold (x1 : Int) : Option (Int) := (if decide (x1 < 0) = true then (some (IntKind.u64.wrap ((IntKind.u64.wrap (2 * (IntKind.u64.wrap (IntKind.i64.wrap (0 - (IntKind.i64.wrap (x1 + 1))))))) + 1))) else (some (IntKind.u64.wrap (2 * (IntKind.u64.wrap x1)))))
theorem P.baizeref01_Fold (g0 : GW) (x1 : Int) (o1 : Int) (hs : F.baizeref01_Fold x1 = some o1) :
  Calls Try.prog 91 #[.int .i64 x1] g0.w (Ret NoM g0 fun v g => v = .int .u64 o1) := by
 refine calls_of (args := [.int .i64 x1]) Try.func91 rfl (0) ?_
 intro t ht htL
 refine ⟨_, rfl, ?_⟩
 refine CP.refr 14 [(0, .int .i64 x1)] (by kernel_rfl) (by kernel_rfl) ?_
 intro ds
 have tot : Step (fun l => NoM l ∨ t ≤ l) g0 g0 := Step.refl _ _
 unfold F.baizeref01_Fold at hs
 refine CP.seqR ?_
 refine WP.stl 1 ?_
 refine WP.dn ?_
 refine NX.then_n ?_
 refine CP.seq ?_
 refine CP.seqR ?_
 refine WP.stl 2 ?_
 refine WP.dn ?_
 refine NX.then_n ?_
 refine CP.cond (b := decide (x1 < 0)) (by kernel_rfl) (fun h1 => ?_) (fun h1 => ?_)
 ·replace hs := of_if_t hs h1
  refine CP.seqR ?_
  refine WP.stl 7 ?_
  refine WP.dn ?_
  refine NX.then_n ?_
  refine CP.ret ?_
  refine NX.then_r ?_
  replace hs := Option.some.inj hs
  obtain rfl := hs
  exact NX.fin (v := .int .u64 (IntKind.u64.wrap ((IntKind.u64.wrap (2 * (IntKind.u64.wrap (IntKind.i64.wrap (0 - (IntKind.i64.wrap (x1 + 1))))))) + 1))) (Res.still (by kernel_rfl)) tot htL rfl
 replace hs := of_if_f hs h1
 refine CP.skip ?_
 refine NX.then_n ?_
 refine CP.seqR ?_
 refine WP.stl 4 ?_
 refine WP.dn ?_
 refine NX.then_n ?_
 refine CP.ret ?_
 replace hs := Option.some.inj hs
 obtain rfl := hs
 exact NX.fin (v := .int .u64 (IntKind.u64.wrap (2 * (IntKind.u64.wrap x1)))) (Res.still (by kernel_rfl)) tot htL rfl
def F.baizeref32_number (x1 : Int) : Option ((List Int)) := ((F.baizeref01_Fold x1).bind fun x2 => ((F.baizeref01_Num x2).bind fun l1 => (some l1)))
theorem P.baizeref32_number (g0 : GW) (r0 : Nat) (x1 : Int) (o1 : List Int) (hs : F.baizeref32_number x1 = some o1) :
  Calls Try.prog 82 #[.int .i64 x1] g0.w (Ret NoM g0 fun v g => ∃ (a_1 : Option Addr) (n_1 : Nat) (c_1 : Nat), v = .slice a_1 n_1 c_1 ∧ OwnS (Kd.int .u8) g r0 5 a_1 n_1 c_1 o1) := by
 refine calls_of (args := [.int .i64 x1]) Try.func82 rfl (r0 + 0) ?_
 intro t ht htL
 refine ⟨_, rfl, ?_⟩
 refine CP.refr 6 [(0, .int .i64 x1)] (by kernel_rfl) (by kernel_rfl) ?_
 intro ds
 have tot : Step (fun l => NoM l ∨ t ≤ l) g0 g0 := Step.refl _ _
 unfold F.baizeref32_number at hs
 refine CP.seqR ?_
 refine WP.stl 1 ?_
 refine WP.dn ?_
 refine NX.then_n ?_
 refine CP.seqR ?_
 refine WP.stl 1 ?_
 replace hs := Option.bind_eq_some_iff.1 hs
 obtain ⟨x2, hk1, hs⟩ := hs
 have hcal1 := P.baizeref01_Fold g0 x1 x2 hk1
 refine WP.callC hcal1 (by kernel_rfl) ?_
 rintro _ g1 st1 rfl
 replace tot := tot.trans st1.pure
 replace hs := Option.bind_eq_some_iff.1 hs
 obtain ⟨l1, hk2, hs⟩ := hs
 have hcal2 := P.baizeref01_Num g1 (t + 1) x2 l1 hk2
 refine WP.callC hcal2 (by kernel_rfl) ?_
 rintro _ g2 st2 ⟨a1, n1, c1, rfl, hR1⟩
 replace tot := tot.trans st2.pure
 refine WP.stl 1 ?_
 refine WP.dn ?_
 refine NX.then_n ?_
 refine CP.ret ?_
 obtain ⟨g3, hw1, st3, hnew⟩ := hR1.relab (by omega) r0
 refine NX.regw hw1 ?_
 replace tot := tot.trans (st3.up1 (.inr (by omega)))
 clear hR1
 have hR1 := hnew
 clear hnew
 replace hs := Option.some.inj hs
 obtain rfl := hs
 exact NX.fin (v := .slice a1 n1 c1) (Res.still (by kernel_rfl)) tot htL ⟨a1, n1, c1, rfl, hR1⟩
end Go.Proofs.Ytlnockimfgfcgaa
