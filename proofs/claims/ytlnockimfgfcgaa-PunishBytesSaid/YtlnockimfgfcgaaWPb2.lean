/-
  Walks, written by program: each Go function computes the plain function of its name, in whatever world its arguments' facts hold.
-/
import Derived.Test.YtlnockimfgfcgaaWPb1
namespace Go.Proofs.Ytlnockimfgfcgaa
open Go.RowKit Go.Lab
attribute [local irreducible] WP CP NX wpList Code.wp Calls
set_option maxRecDepth 100000
set_option maxHeartbeats 4000000
set_option linter.unusedVariables false

def N.punish_Thing_Encode_0 : List (List Nat) := [[], [0], [0, 1], [0, 1, 2], [], [4], [0, 1, 2, 3, 4, 5], [0, 1, 2, 3, 4, 5, 6]]
def N.punish_Thing_Encode_1 : List (List Nat) := [[], [], [1], [0, 1, 2], [], [4], [0, 1, 2, 3, 4, 5], [0, 1, 2, 3, 4, 5, 6], [0, 1, 2, 3, 4, 5, 6, 7]]
def F.punish_Thing_Encode.c1 (l3 : List Int) (l4 : List Int) (l10 : List Int) : Option ((List Int) × Int) := ((F.octet_PutBytes l10 l4).bind fun l12 => ((F.octet_PutBytes l12 l3).bind fun l13 => (some (l13, 0))))
def F.punish_Thing_Encode (x1 : Int) (d1 : Arr Int 8) (x2 : Int) (l1 : List Int) (d2 : Arr Int 8) (x3 : Int) (d3 : Arr Int 8) (l2 : List Int) (l3 : List Int) : Option ((List Int) × Int) := ((F.punish_Thing_Check x1 d1 x2 l1 d2 x3 d3 l2 l3).bind fun x4 => (if (x4 != 0) = true then (some ([], x4)) else ((F.punish_Thing_own x1 d1 x2 l1 d2 x3 d3 l2 l3).bind fun (d4, x5, d5, l4) => ((F.octet_PutNum ([]) (IntKind.u64.wrap x1)).bind fun l6 => ((F.octet_PutBytes l6 d4.1).bind fun l7 => ((F.octet_PutNum l7 (IntKind.u64.wrap x5)).bind fun l8 => (if (x1 == 1) = true then ((F.octet_PutBytes l8 d5.1).bind fun l14 => (F.punish_Thing_Encode.c1 l3 l4 l14)) else (F.punish_Thing_Encode.c1 l3 l4 l8))))))))
theorem P.punish_Thing_Encode (g0 : GW) (r0 : Nat) (x1 : Int) (d1 : Arr Int 8) (x2 : Int) (l1 : List Int) (d2 : Arr Int 8) (x3 : Int) (d3 : Arr Int 8) (l2 : List Int) (l3 : List Int) (a1 : Option Addr) (n1 : Nat) (c1 : Nat) (a2 : Option Addr) (n2 : Nat) (c2 : Nat) (a3 : Option Addr) (n3 : Nat) (c3 : Nat) (hR1 : RdS (Kd.int .u8) g0 5 a1 n1 c1 l1) (hR2 : RdS (Kd.int .u8) g0 5 a2 n2 c2 l2) (hR3 : RdS (Kd.int .u8) g0 5 a3 n3 c3 l3) (o1 : List Int) (o2 : Int) (hs : F.punish_Thing_Encode x1 d1 x2 l1 d2 x3 d3 l2 l3 = some (o1, o2)) :
  Calls Try.prog 14 #[AG [[.int .i64 x1], encA .u8 d1, [.int .i64 x2], [.slice a1 n1 c1], encA .u8 d2, [.int .i64 x3], encA .u8 d3, [.slice a2 n2 c2], [.slice a3 n3 c3]]] g0.w (Ret NoM g0 fun v g => ∃ (a_1 : Option Addr) (n_1 : Nat) (c_1 : Nat), v = .tuple #[.slice a_1 n_1 c_1, .int .i64 o2] ∧ OwnS (Kd.int .u8) g r0 5 a_1 n_1 c_1 o1) := by
 refine calls_of (args := [AG [[.int .i64 x1], encA .u8 d1, [.int .i64 x2], [.slice a1 n1 c1], encA .u8 d2, [.int .i64 x3], encA .u8 d3, [.slice a2 n2 c2], [.slice a3 n3 c3]]]) Try.func14 rfl (r0 + 0) ?_
 intro t ht htL
 refine ⟨_, rfl, ?_⟩
 refine CP.refr 40 [(0, AG [[.int .i64 x1], encA .u8 d1, [.int .i64 x2], [.slice a1 n1 c1], encA .u8 d2, [.int .i64 x3], encA .u8 d3, [.slice a2 n2 c2], [.slice a3 n3 c3]])] (by kernel_rfl) (by kernel_rfl) ?_
 intro ds
 have tot : Step (fun l => NoM l ∨ t ≤ l) g0 g0 := Step.refl _ _
 unfold F.punish_Thing_Encode at hs
 refine CP.seqR ?_
 refine WP.alloc (T := 43) (t + 1) [[.int .i64 x1], encA .u8 d1, [.int .i64 x2], [.slice a1 n1 c1], encA .u8 d2, [.int .i64 x3], encA .u8 d3, [.slice a2 n2 c2], [.slice a3 n3 c3]] [1, 8, 1, 1, 8, 1, 8, 1, 1] (by kernel_rfl) (by simp [len_encA]) ?_
 intro g1 b1 st1 hB1
 replace hR1 := hR1.mono st1 (fun x => x)
 replace hR2 := hR2.mono st1 (fun x => x)
 replace hR3 := hR3.mono st1 (fun x => x)
 replace tot := tot.trans st1.pure
 refine WP.stl 2 ?_
 refine WP.dn ?_
 refine NX.then_n ?_
 refine CP.seq ?_
 refine CP.seqR ?_
 refine WP.loadB (v := AG [[.int .i64 x1], encA .u8 d1, [.int .i64 x2], [.slice a1 n1 c1], encA .u8 d2, [.int .i64 x3], encA .u8 d3, [.slice a2 n2 c2], [.slice a3 n3 c3]]) hB1 (by kernel_rfl) (by kernel_rfl) ?_
 replace hs := Option.bind_eq_some_iff.1 hs
 obtain ⟨x4, hk1, hs⟩ := hs
 have hcal1 := P.punish_Thing_Check g1 x1 d1 x2 l1 d2 x3 d3 l2 l3 a1 n1 c1 a2 n2 c2 a3 n3 c3 hR1 hR2 hR3 x4 hk1
 refine WP.callC hcal1 (by kernel_rfl) ?_
 rintro _ g2 st2 rfl
 replace hB1 := hB1.mono st2 (fun x => x)
 replace hR1 := hR1.mono st2 (fun x => x)
 replace hR2 := hR2.mono st2 (fun x => x)
 replace hR3 := hR3.mono st2 (fun x => x)
 replace tot := tot.trans st2.pure
 refine WP.stl 1 ?_
 refine WP.dn ?_
 refine NX.then_n ?_
 refine CP.seqR ?_
 refine WP.stl 2 ?_
 refine WP.dn ?_
 refine NX.then_n ?_
 refine CP.cond (b := (x4 != 0)) (by kernel_rfl) (fun h1 => ?_) (fun h1 => ?_)
 ·replace hs := of_if_t hs h1
  refine CP.seqR ?_
  refine WP.stl 3 ?_
  refine WP.dn ?_
  refine NX.then_n ?_
  refine CP.ret ?_
  refine NX.then_r ?_
  replace hs := Option.some.inj hs
  obtain ⟨rfl, rfl⟩ := Prod.mk.inj hs
  exact NX.fin (v := .tuple #[.slice none 0 0, .int .i64 x4]) (Res.still (by kernel_rfl)) tot htL ⟨none, 0, 0, rfl, (OwnS.nil _ _ _ _)⟩
 replace hs := of_if_f hs h1
 refine CP.skip ?_
 refine NX.then_n ?_
 refine CP.seqR ?_
 refine WP.loadB (v := AG [[.int .i64 x1], encA .u8 d1, [.int .i64 x2], [.slice a1 n1 c1], encA .u8 d2, [.int .i64 x3], encA .u8 d3, [.slice a2 n2 c2], [.slice a3 n3 c3]]) hB1 (by kernel_rfl) (by kernel_rfl) ?_
 replace hs := Option.bind_eq_some_iff.1 hs
 obtain ⟨⟨d4, x5, d5, l4⟩, hk2, hs⟩ := hs
 dsimp only at hs
 have hcal2 := P.punish_Thing_own g2 x1 d1 x2 l1 d2 x3 d3 l2 l3 a1 n1 c1 a2 n2 c2 a3 n3 c3 hR1 hR2 hR3 d4 x5 d5 l4 hk2
 refine WP.callC hcal2 (by kernel_rfl) ?_
 rintro _ g3 st3 ⟨a4, n4, c4, rfl, hR4⟩
 replace hB1 := hB1.mono st3 (fun x => x)
 replace hR1 := hR1.mono st3 (fun x => x)
 replace hR2 := hR2.mono st3 (fun x => x)
 replace hR3 := hR3.mono st3 (fun x => x)
 replace tot := tot.trans st3.pure
 refine WP.alloc (T := 91) (t + 2) [encA .u8 (zA 8), [.int .i64 0], encA .u8 (zA 8), [.slice none 0 0]] [8, 1, 8, 1] (by kernel_rfl) (by simp [len_encA]) ?_
 intro g4 b2 st4 hB2
 replace hB1 := hB1.mono st4 (fun x => x)
 replace hR1 := hR1.mono st4 (fun x => x)
 replace hR2 := hR2.mono st4 (fun x => x)
 replace hR3 := hR3.mono st4 (fun x => x)
 replace hR4 := hR4.mono st4 (fun x => x)
 replace tot := tot.trans st4.pure
 refine WP.storeB (ty := 91) (off := 0) (v := AG [encA .u8 d4, [.int .i64 x5], encA .u8 d5, [.slice a4 n4 c4]]) hB2 [encA .u8 d4, [.int .i64 x5], encA .u8 d5, [.slice a4 n4 c4]] [8, 1, 8, 1] (by kernel_rfl) (by kernel_rfl) (by simp [len_encA]) (by kernel_rfl) [encA .u8 d4, [.int .i64 x5], encA .u8 d5, [.slice a4 n4 c4]] (by kernel_rfl) (.arr (.one rfl (.arr (.one rfl .nil)))) ?_
 intro g5 st5 hB3
 replace hB1 := hB1.mono st5 (WL.no1 (by omega))
 replace hR1 := hR1.mono st5 (WL.no1 (by omega))
 replace hR2 := hR2.mono st5 (WL.no1 (by omega))
 replace hR3 := hR3.mono st5 (WL.no1 (by omega))
 replace hR4 := hR4.mono st5 (WL.no1 (by omega))
 replace tot := tot.trans (st5.up1 (.inr (by omega)))
 clear hB2
 have hB2 := hB3
 clear hB3
 refine WP.dn ?_
 refine NX.then_n ?_
 refine CP.seq ?_
 obtain ⟨g7, hw1, st7, hnew⟩ := hB2.relab 0
 refine CP.regw hw1 ?_
 replace hB1 := hB1.mono st7 (WL.no1 (by omega))
 replace hR1 := hR1.mono st7 (WL.no1 (by omega))
 replace hR2 := hR2.mono st7 (WL.no1 (by omega))
 replace hR3 := hR3.mono st7 (WL.no1 (by omega))
 replace hR4 := hR4.mono st7 (WL.no1 (by omega))
 replace tot := tot.trans (st7.up1 (.inr (by omega)))
 clear hB2
 have hB2 := hnew
 clear hnew
 replace hs := Option.bind_eq_some_iff.1 hs
 obtain ⟨l6, hk4, hs⟩ := hs
 replace hs := Option.bind_eq_some_iff.1 hs
 obtain ⟨l7, hk5, hs⟩ := hs
 refine CP.drawL (by kernel_rfl) [1, 3, 5, 6] N.punish_Thing_Encode_0 [⟨none, [], [], fun l g => Box g (t + 1) b1 43 [[.int .i64 x1], encA .u8 d1, [.int .i64 x2], [.slice a1 n1 c1], encA .u8 d2, [.int .i64 x3], encA .u8 d3, [.slice a2 n2 c2], [.slice a3 n3 c3]] [1, 8, 1, 1, 8, 1, 8, 1, 1]⟩, ⟨none, [], [], fun l g => Box g 0 b2 91 [encA .u8 d4, [.int .i64 x5], encA .u8 d5, [.slice a4 n4 c4]] [8, 1, 8, 1]⟩, ⟨some 0, [], [0], fun l g => l.getD 0 undef = .int .i64 x1⟩, ⟨some 1, [0], [1], fun l g => ∃ (a7 : Option Addr) (c6 : Nat), l.getD 0 undef = .slice a7 l6.length c6 ∧ OwnS (Kd.int .u8) g (t + 4) 5 a7 l6.length c6 l6⟩, ⟨some 2, [], [2], fun l g => ∃ (a8 : Option Addr), l.getD 0 undef = .slice a8 ((8 : Int).toNat - (0 : Int).toNat) (8 - (0 : Int).toNat) ∧ RdS (Kd.int .u8) g 5 a8 ((8 : Int).toNat - (0 : Int).toNat) (8 - (0 : Int).toNat) d4.1⟩, ⟨some 3, [], [3], fun l g => ∃ (a9 : Option Addr) (c7 : Nat), l.getD 0 undef = .slice a9 l7.length c7 ∧ OwnS (Kd.int .u8) g (t + 5) 5 a9 l7.length c7 l7⟩, ⟨some 3, [], [1], fun l g => ∃ (a7 : Option Addr) (c6 : Nat), l.getD 0 undef = .slice a7 l6.length c6 ∧ RdS (Kd.int .u8) g 5 a7 l6.length c6 l6⟩] [[], [], [], [0]] [(t + 4)] [0, 4] [2, 7] (by kernel_rfl) (by simp <;> omega) (by simp) ⟨fun _ _ _ _ st h0 hl hj hB1 => (hB1.mono st (fun h => absurd (hl _ h) (by simp <;> omega))), fun _ _ _ _ st h0 hl hj hB2 => (hB2.mono st (fun h => absurd (hl _ h) (by simp <;> omega))), fun _ _ _ _ st h0 hl hj e0 => e0, fun _ _ _ _ st h0 hl hj ⟨a7, c6, e1, hR7⟩ => ⟨a7, c6, e1, (hR7.mono st h0 (hj 0 (by simp) _ rfl))⟩, fun _ _ _ _ st h0 hl hj ⟨a8, e2, hR8⟩ => ⟨a8, e2, (RdS.mono (e := 5) hR8 st h0)⟩, fun _ _ _ _ st h0 hl hj ⟨a9, c7, e3, hR9⟩ => ⟨a9, c7, e3, (hR9.mono st h0 (fun h => absurd (hl _ h) (by simp <;> omega)))⟩, fun _ _ _ _ st h0 hl hj ⟨a7, c6, e1, hR7⟩ => ⟨a7, c6, e1, (RdS.mono (e := 5) hR7 st h0)⟩, tv⟩ ⟨hB1, hB2, tv, tv, tv, tv, tv, tv⟩ (by kernel_rfl) (fun vs => by kernel_rfl) ?_ ?_ ?_
 ·intro j hj
  have hq : j = 0 ∨ j = 1 := by have h : j < 2 := hj; omega
  rcases hq with rfl | rfl
  ·intro vs gq stq hl hf
   obtain ⟨v0, v1, v2, v3, rfl⟩ := len_k4 hl
   have e0 := (show v0 = .int .i64 x1 from hf _ (memI 2 rfl) (by kernel_rfl))
   subst e0
   show Option.isSome _ = true
   kernel_rfl
  ·intro vs gq stq hl hf
   obtain ⟨v0, v1, v2, v3, rfl⟩ := len_k4 hl
   obtain ⟨a9, c7, e3, hR9⟩ := (show ∃ (a9 : Option Addr) (c7 : Nat), v3 = .slice a9 l7.length c7 ∧ OwnS (Kd.int .u8) gq (t + 5) 5 a9 l7.length c7 l7 from hf _ (memI 5 rfl) (by kernel_rfl))
   subst e3
   show Option.isSome _ = true
   kernel_rfl
 ·intro j hj
  have hq : j = 0 ∨ j = 1 ∨ j = 2 ∨ j = 3 := by have h : j < 4 := hj; omega
  rcases hq with rfl | rfl | rfl | rfl
  ·intro vs gq stq hl hf
   obtain ⟨v0, v1, v2, v3, rfl⟩ := len_k4 hl
   have hB1 := (show Box gq (t + 1) b1 43 [[.int .i64 x1], encA .u8 d1, [.int .i64 x2], [.slice a1 n1 c1], encA .u8 d2, [.int .i64 x3], encA .u8 d3, [.slice a2 n2 c2], [.slice a3 n3 c3]] [1, 8, 1, 1, 8, 1, 8, 1, 1] from hf _ (memI 0 rfl) (by kernel_rfl))
   refine WP.loadB (v := .int .i64 x1) hB1 (by kernel_rfl) (by kernel_rfl) ?_
   refine WP.dn (Shown.ok (v := .int .i64 x1) (by kernel_rfl) (Step.refl _ _) ?_)
   exact ⟨tv, tv, rfl, tv, tv, tv, tv, tv⟩
  ·intro vs gq stq hl hf
   obtain ⟨v0, v1, v2, v3, rfl⟩ := len_k4 hl
   have e0 := (show v0 = .int .i64 x1 from hf _ (memI 2 rfl) (by kernel_rfl))
   subst e0
   have hcal4 := P.octet_PutNum gq (t + 4) ([]) (IntKind.u64.wrap x1) none 0 0 (RdS.nil _ _ _) l6 hk4
   refine WP.callC hcal4 (by kernel_rfl) ?_
   rintro _ g8 st8 ⟨a7, n6, c6, rfl, hR7⟩
   obtain rfl := hR7.len
   refine WP.dn (Shown.o (v := .slice a7 l6.length c6) st8.pure ?_)
   exact ⟨tv, tv, tv, ⟨a7, c6, rfl, hR7⟩, tv, tv, tv, tv⟩
  ·intro vs gq stq hl hf
   obtain ⟨v0, v1, v2, v3, rfl⟩ := len_k4 hl
   have hB2 := (show Box gq 0 b2 91 [encA .u8 d4, [.int .i64 x5], encA .u8 d5, [.slice a4 n4 c4]] [8, 1, 8, 1] from hf _ (memI 1 rfl) (by kernel_rfl))
   refine WP.sliceZ (o := 0) (m := 8) (k := .u8) (d := d4) (e := 5) (lo := none) (hi := none) hB2 (by kernel_rfl) (0 : Int) (8 : Int) (by kernel_rfl) (.inl ⟨rfl, rfl⟩) (.inl ⟨rfl, rfl⟩) (by decide) ?_
   intro a8 hR8
   rw [sliceI_all (m := 8) (d := d4) (j := (8 : Int)) rfl] at hR8
   refine WP.dn (Shown.ok (v := .slice a8 ((8 : Int).toNat - (0 : Int).toNat) (8 - (0 : Int).toNat)) (by kernel_rfl) (Step.refl _ _) ?_)
   exact ⟨tv, tv, tv, tv, ⟨a8, rfl, hR8⟩, tv, tv, tv⟩
  ·intro vs gq stq hl hf
   obtain ⟨v0, v1, v2, v3, rfl⟩ := len_k4 hl
   obtain ⟨a7, c6, e1, hR7⟩ := (show ∃ (a7 : Option Addr) (c6 : Nat), v1 = .slice a7 l6.length c6 ∧ OwnS (Kd.int .u8) gq (t + 4) 5 a7 l6.length c6 l6 from hf _ (memI 3 rfl) (by kernel_rfl))
   subst e1
   obtain ⟨a8, e2, hR8⟩ := (show ∃ (a8 : Option Addr), v2 = .slice a8 ((8 : Int).toNat - (0 : Int).toNat) (8 - (0 : Int).toNat) ∧ RdS (Kd.int .u8) gq 5 a8 ((8 : Int).toNat - (0 : Int).toNat) (8 - (0 : Int).toNat) d4.1 from hf _ (memI 4 rfl) (by kernel_rfl))
   subst e2
   obtain ⟨gf1, hwf1, stf1, hnew⟩ := hR7.freeze (by omega)
   refine WP.regw hwf1 ?_
   replace hR8 := hR8.mono stf1 (WL.no (by simp <;> omega))
   clear hR7
   have hR7 := hnew
   clear hnew
   have hcal5 := P.octet_PutBytes gf1 (t + 5) l6 d4.1 a7 l6.length c6 a8 ((8 : Int).toNat - (0 : Int).toNat) (8 - (0 : Int).toNat) hR7 hR8 l7 hk5
   refine WP.callC hcal5 (by kernel_rfl) ?_
   rintro _ g9 st9 ⟨a9, n7, c7, rfl, hR9⟩
   obtain rfl := hR9.len
   replace st9 : Step (WL []) _ _ := Step.pure st9
   have hz1 := hR7.mono st9 (WL.no (by simp <;> omega))
   replace st9 := Step.both stf1 st9
   refine WP.dn (Shown.o (v := .slice a9 l7.length c7) st9 ?_)
   exact ⟨tv, tv, tv, tv, tv, ⟨a9, c7, rfl, hR9⟩, ⟨a7, c6, rfl, hz1⟩, tv⟩
 intro vs g10 st10 hl hf
 obtain ⟨v0, v1, v2, v3, rfl⟩ := len_k4 hl
 obtain ⟨a9, c7, e3, hR9⟩ := (show ∃ (a9 : Option Addr) (c7 : Nat), v3 = .slice a9 l7.length c7 ∧ OwnS (Kd.int .u8) g10 (t + 5) 5 a9 l7.length c7 l7 from hf _ (memI 5 rfl) (by kernel_rfl))
 subst e3
 replace hB1 := hB1.mono st10 (WL.no1 (by omega))
 replace hR1 := hR1.mono st10 (WL.no1 (by omega))
 replace hR2 := hR2.mono st10 (WL.no1 (by omega))
 replace hR3 := hR3.mono st10 (WL.no1 (by omega))
 replace hB2 := hB2.mono st10 (WL.no1 (by omega))
 replace hR4 := hR4.mono st10 (WL.no1 (by omega))
 replace tot := tot.trans (st10.up1 (.inr (by omega)))
 refine NX.then_n ?_
 refine CP.refr 40 [(1, .pointer (some ⟨b1, 0, none⟩)), (5, .pointer (some ⟨b2, 0, none⟩)), (6, .slice a9 l7.length c7)] (by kernel_rfl) (by kernel_rfl) ?_
 clear ds
 intro ds
 refine CP.seqR ?_
 refine WP.stl 2 ?_
 refine WP.loadB (v := .int .i64 x5) hB2 (by kernel_rfl) (by kernel_rfl) ?_
 refine WP.stl 1 ?_
 replace hs := Option.bind_eq_some_iff.1 hs
 obtain ⟨l8, hk6, hs⟩ := hs
 obtain ⟨g12, hw2, st12, hnew⟩ := hR9.freeze (by omega)
 refine WP.regw hw2 ?_
 replace hB1 := hB1.mono st12 (WL.no1 (by omega))
 replace hR1 := hR1.mono st12 (WL.no1 (by omega))
 replace hR2 := hR2.mono st12 (WL.no1 (by omega))
 replace hR3 := hR3.mono st12 (WL.no1 (by omega))
 replace hB2 := hB2.mono st12 (WL.no1 (by omega))
 replace hR4 := hR4.mono st12 (WL.no1 (by omega))
 replace tot := tot.trans (st12.up1 (.inr (by omega)))
 clear hR9
 have hR9 := hnew
 clear hnew
 have hcal6 := P.octet_PutNum g12 (t + 6) l7 (IntKind.u64.wrap x5) a9 l7.length c7 hR9 l8 hk6
 refine WP.callC hcal6 (by kernel_rfl) ?_
 rintro _ g11 st11 ⟨a10, n8, c8, rfl, hR10⟩
 replace hB1 := hB1.mono st11 (fun x => x)
 replace hR1 := hR1.mono st11 (fun x => x)
 replace hR2 := hR2.mono st11 (fun x => x)
 replace hR3 := hR3.mono st11 (fun x => x)
 replace hB2 := hB2.mono st11 (fun x => x)
 replace hR4 := hR4.mono st11 (fun x => x)
 replace hR9 := hR9.mono st11 (fun x => x)
 replace tot := tot.trans st11.pure
 refine WP.stl 1 ?_
 refine WP.dn ?_
 refine NX.then_n ?_
 refine CP.cut (fun tm g => ∃ (l10 : List Int) (a13 : Option Addr) (n10 : Nat) (c10 : Nat), Fr 40 [(1, .pointer (some ⟨b1, 0, none⟩)), (5, .pointer (some ⟨b2, 0, none⟩)), (6, .slice a13 n10 c10)] tm ∧ Step (fun l => NoM l ∨ t ≤ l) g0 g ∧ Box g (t + 1) b1 43 [[.int .i64 x1], encA .u8 d1, [.int .i64 x2], [.slice a1 n1 c1], encA .u8 d2, [.int .i64 x3], encA .u8 d3, [.slice a2 n2 c2], [.slice a3 n3 c3]] [1, 8, 1, 1, 8, 1, 8, 1, 1] ∧ RdS (Kd.int .u8) g 5 a1 n1 c1 l1 ∧ RdS (Kd.int .u8) g 5 a2 n2 c2 l2 ∧ RdS (Kd.int .u8) g 5 a3 n3 c3 l3 ∧ Box g 0 b2 91 [encA .u8 d4, [.int .i64 x5], encA .u8 d5, [.slice a4 n4 c4]] [8, 1, 8, 1] ∧ RdS (Kd.int .u8) g 5 a4 n4 c4 l4 ∧ OwnS (Kd.int .u8) g (t + 7) 5 a13 n10 c10 l10 ∧ (F.punish_Thing_Encode.c1 l3 l4 l10) = some (o1, o2)) ?_ ?_
 ·refine CP.seqR ?_
  refine WP.stl 1 ?_
  refine WP.loadB (v := .int .i64 x1) hB1 (by kernel_rfl) (by kernel_rfl) ?_
  refine WP.stl 1 ?_
  refine WP.dn ?_
  refine NX.then_n ?_
  refine CP.cond (b := (x1 == 1)) (by kernel_rfl) (fun h3 => ?_) (fun h3 => ?_)
  ·replace hs := of_if_t hs h3
   refine CP.region ?_
   refine WP.stl 2 ?_
   refine WP.sliceZ (o := 9) (m := 8) (k := .u8) (d := d5) (e := 5) (lo := none) (hi := none) hB2 (by kernel_rfl) (0 : Int) (8 : Int) (by kernel_rfl) (.inl ⟨rfl, rfl⟩) (.inl ⟨rfl, rfl⟩) (by decide) ?_
   intro a17 hR17
   rw [sliceI_all (m := 8) (d := d5) (j := (8 : Int)) rfl] at hR17
   replace hs := Option.bind_eq_some_iff.1 hs
   obtain ⟨l14, hk11, hs⟩ := hs
   obtain ⟨g22, hw6, st22, hnew⟩ := hR10.freeze (by omega)
   refine WP.regw hw6 ?_
   replace hB1 := hB1.mono st22 (WL.no1 (by omega))
   replace hR1 := hR1.mono st22 (WL.no1 (by omega))
   replace hR2 := hR2.mono st22 (WL.no1 (by omega))
   replace hR3 := hR3.mono st22 (WL.no1 (by omega))
   replace hB2 := hB2.mono st22 (WL.no1 (by omega))
   replace hR4 := hR4.mono st22 (WL.no1 (by omega))
   replace hR17 := hR17.mono st22 (WL.no1 (by omega))
   replace tot := tot.trans (st22.up1 (.inr (by omega)))
   clear hR10
   have hR10 := hnew
   clear hnew
   have hcal11 := P.octet_PutBytes g22 (t + 11) l8 d5.1 a10 n8 c8 a17 ((8 : Int).toNat - (0 : Int).toNat) (8 - (0 : Int).toNat) hR10 hR17 l14 hk11
   refine WP.callC hcal11 (by kernel_rfl) ?_
   rintro _ g21 st21 ⟨a18, n14, c14, rfl, hR18⟩
   replace hB1 := hB1.mono st21 (fun x => x)
   replace hR1 := hR1.mono st21 (fun x => x)
   replace hR2 := hR2.mono st21 (fun x => x)
   replace hR3 := hR3.mono st21 (fun x => x)
   replace hB2 := hB2.mono st21 (fun x => x)
   replace hR4 := hR4.mono st21 (fun x => x)
   replace hR10 := hR10.mono st21 (fun x => x)
   replace hR17 := hR17.mono st21 (fun x => x)
   replace tot := tot.trans st21.pure
   refine WP.stl 1 ?_
   refine WP.dn ?_
   obtain ⟨g23, hw7, st23, hnew⟩ := hR18.relab (by omega) (t + 7)
   refine NX.regw hw7 ?_
   replace hB1 := hB1.mono st23 (WL.no1 (by omega))
   replace hR1 := hR1.mono st23 (WL.no1 (by omega))
   replace hR2 := hR2.mono st23 (WL.no1 (by omega))
   replace hR3 := hR3.mono st23 (WL.no1 (by omega))
   replace hB2 := hB2.mono st23 (WL.no1 (by omega))
   replace hR4 := hR4.mono st23 (WL.no1 (by omega))
   replace tot := tot.trans (st23.up1 (.inr (by omega)))
   clear hR18
   have hR18 := hnew
   clear hnew
   refine NX.post ?_
   exact ⟨l14, a18, n14, c14, ⟨by kernel_rfl, by kernel_rfl⟩, tot, hB1, hR1, hR2, hR3, hB2, hR4, hR18, hs⟩
  replace hs := of_if_f hs h3
  refine CP.skip ?_
  obtain ⟨g24, hw8, st24, hnew⟩ := hR10.relab (by omega) (t + 7)
  refine NX.regw hw8 ?_
  replace hB1 := hB1.mono st24 (WL.no1 (by omega))
  replace hR1 := hR1.mono st24 (WL.no1 (by omega))
  replace hR2 := hR2.mono st24 (WL.no1 (by omega))
  replace hR3 := hR3.mono st24 (WL.no1 (by omega))
  replace hB2 := hB2.mono st24 (WL.no1 (by omega))
  replace hR4 := hR4.mono st24 (WL.no1 (by omega))
  replace tot := tot.trans (st24.up1 (.inr (by omega)))
  clear hR10
  have hR10 := hnew
  clear hnew
  refine NX.post ?_
  exact ⟨l8, a10, n8, c8, ⟨by kernel_rfl, by kernel_rfl⟩, tot, hB1, hR1, hR2, hR3, hB2, hR4, hR10, hs⟩
 clear tot hs hB1 hR1 hR2 hR3 hB2 hR4 hR10
 rintro tm g ⟨l10, a13, n10, c10, hF, tot, hB1, hR1, hR2, hR3, hB2, hR4, hR13, hs⟩
 clear ds
 obtain ⟨ds, rfl⟩ := hF.open
 clear hF
 unfold F.punish_Thing_Encode.c1 at hs
 refine CP.seq ?_
 obtain ⟨g16, hw4, st16, hnew⟩ := hR13.freeze (by omega)
 refine CP.regw hw4 ?_
 replace hB1 := hB1.mono st16 (WL.no1 (by omega))
 replace hR1 := hR1.mono st16 (WL.no1 (by omega))
 replace hR2 := hR2.mono st16 (WL.no1 (by omega))
 replace hR3 := hR3.mono st16 (WL.no1 (by omega))
 replace hB2 := hB2.mono st16 (WL.no1 (by omega))
 replace hR4 := hR4.mono st16 (WL.no1 (by omega))
 replace tot := tot.trans (st16.up1 (.inr (by omega)))
 clear hR13
 have hR13 := hnew
 clear hnew
 replace hs := Option.bind_eq_some_iff.1 hs
 obtain ⟨l12, hk9, hs⟩ := hs
 replace hs := Option.bind_eq_some_iff.1 hs
 obtain ⟨l13, hk10, hs⟩ := hs
 refine CP.drawL (by kernel_rfl) [2, 3, 5, 6] N.punish_Thing_Encode_1 [⟨none, [], [], fun l g => Box g (t + 1) b1 43 [[.int .i64 x1], encA .u8 d1, [.int .i64 x2], [.slice a1 n1 c1], encA .u8 d2, [.int .i64 x3], encA .u8 d3, [.slice a2 n2 c2], [.slice a3 n3 c3]] [1, 8, 1, 1, 8, 1, 8, 1, 1]⟩, ⟨none, [], [], fun l g => RdS (Kd.int .u8) g 5 a3 n3 c3 l3⟩, ⟨none, [], [], fun l g => Box g 0 b2 91 [encA .u8 d4, [.int .i64 x5], encA .u8 d5, [.slice a4 n4 c4]] [8, 1, 8, 1]⟩, ⟨none, [], [], fun l g => RdS (Kd.int .u8) g 5 a4 n4 c4 l4⟩, ⟨none, [], [], fun l g => RdS (Kd.int .u8) g 5 a13 n10 c10 l10⟩, ⟨some 0, [], [0], fun l g => l.getD 0 undef = .slice a4 n4 c4⟩, ⟨some 1, [0], [1], fun l g => ∃ (a15 : Option Addr) (c12 : Nat), l.getD 0 undef = .slice a15 l12.length c12 ∧ OwnS (Kd.int .u8) g (t + 9) 5 a15 l12.length c12 l12⟩, ⟨some 2, [], [2], fun l g => l.getD 0 undef = .slice a3 n3 c3⟩, ⟨some 3, [], [3], fun l g => ∃ (a16 : Option Addr) (c13 : Nat), l.getD 0 undef = .slice a16 l13.length c13 ∧ OwnS (Kd.int .u8) g (t + 10) 5 a16 l13.length c13 l13⟩, ⟨some 3, [], [1], fun l g => ∃ (a15 : Option Addr) (c12 : Nat), l.getD 0 undef = .slice a15 l12.length c12 ∧ RdS (Kd.int .u8) g 5 a15 l12.length c12 l12⟩] [[], [], [], [0]] [(t + 9)] [0, 1, 4, 8] [7] (by kernel_rfl) (by simp <;> omega) (by simp) ⟨fun _ _ _ _ st h0 hl hj hB1 => (hB1.mono st (fun h => absurd (hl _ h) (by simp <;> omega))), fun _ _ _ _ st h0 hl hj hR3 => (RdS.mono (e := 5) hR3 st h0), fun _ _ _ _ st h0 hl hj hB2 => (hB2.mono st (fun h => absurd (hl _ h) (by simp <;> omega))), fun _ _ _ _ st h0 hl hj hR4 => (RdS.mono (e := 5) hR4 st h0), fun _ _ _ _ st h0 hl hj hR13 => (RdS.mono (e := 5) hR13 st h0), fun _ _ _ _ st h0 hl hj e0 => e0, fun _ _ _ _ st h0 hl hj ⟨a15, c12, e1, hR15⟩ => ⟨a15, c12, e1, (hR15.mono st h0 (hj 0 (by simp) _ rfl))⟩, fun _ _ _ _ st h0 hl hj e2 => e2, fun _ _ _ _ st h0 hl hj ⟨a16, c13, e3, hR16⟩ => ⟨a16, c13, e3, (hR16.mono st h0 (fun h => absurd (hl _ h) (by simp <;> omega)))⟩, fun _ _ _ _ st h0 hl hj ⟨a15, c12, e1, hR15⟩ => ⟨a15, c12, e1, (RdS.mono (e := 5) hR15 st h0)⟩, tv⟩ ⟨hB1, hR3, hB2, hR4, hR13, tv, tv, tv, tv, tv, tv⟩ (by kernel_rfl) (fun vs => by kernel_rfl) ?_ ?_ ?_
 ·intro j hj
  have hq : j = 0 := by have h : j < 1 := hj; omega
  rcases hq with rfl
  ·intro vs gq stq hl hf
   obtain ⟨v0, v1, v2, v3, rfl⟩ := len_k4 hl
   obtain ⟨a16, c13, e3, hR16⟩ := (show ∃ (a16 : Option Addr) (c13 : Nat), v3 = .slice a16 l13.length c13 ∧ OwnS (Kd.int .u8) gq (t + 10) 5 a16 l13.length c13 l13 from hf _ (memI 8 rfl) (by kernel_rfl))
   subst e3
   show Option.isSome _ = true
   kernel_rfl
 ·intro j hj
  have hq : j = 0 ∨ j = 1 ∨ j = 2 ∨ j = 3 := by have h : j < 4 := hj; omega
  rcases hq with rfl | rfl | rfl | rfl
  ·intro vs gq stq hl hf
   obtain ⟨v0, v1, v2, v3, rfl⟩ := len_k4 hl
   have hB2 := (show Box gq 0 b2 91 [encA .u8 d4, [.int .i64 x5], encA .u8 d5, [.slice a4 n4 c4]] [8, 1, 8, 1] from hf _ (memI 2 rfl) (by kernel_rfl))
   refine WP.loadB (v := .slice a4 n4 c4) hB2 (by kernel_rfl) (by kernel_rfl) ?_
   refine WP.dn (Shown.ok (v := .slice a4 n4 c4) (by kernel_rfl) (Step.refl _ _) ?_)
   exact ⟨tv, tv, tv, tv, tv, rfl, tv, tv, tv, tv, tv⟩
  ·intro vs gq stq hl hf
   obtain ⟨v0, v1, v2, v3, rfl⟩ := len_k4 hl
   have hR4 := (show RdS (Kd.int .u8) gq 5 a4 n4 c4 l4 from hf _ (memI 3 rfl) (by kernel_rfl))
   have hR13 := (show RdS (Kd.int .u8) gq 5 a13 n10 c10 l10 from hf _ (memI 4 rfl) (by kernel_rfl))
   have e0 := (show v0 = .slice a4 n4 c4 from hf _ (memI 5 rfl) (by kernel_rfl))
   subst e0
   have hcal9 := P.octet_PutBytes gq (t + 9) l10 l4 a13 n10 c10 a4 n4 c4 hR13 hR4 l12 hk9
   refine WP.callC hcal9 (by kernel_rfl) ?_
   rintro _ g17 st17 ⟨a15, n12, c12, rfl, hR15⟩
   obtain rfl := hR15.len
   refine WP.dn (Shown.o (v := .slice a15 l12.length c12) st17.pure ?_)
   exact ⟨tv, tv, tv, tv, tv, tv, ⟨a15, c12, rfl, hR15⟩, tv, tv, tv, tv⟩
  ·intro vs gq stq hl hf
   obtain ⟨v0, v1, v2, v3, rfl⟩ := len_k4 hl
   have hB1 := (show Box gq (t + 1) b1 43 [[.int .i64 x1], encA .u8 d1, [.int .i64 x2], [.slice a1 n1 c1], encA .u8 d2, [.int .i64 x3], encA .u8 d3, [.slice a2 n2 c2], [.slice a3 n3 c3]] [1, 8, 1, 1, 8, 1, 8, 1, 1] from hf _ (memI 0 rfl) (by kernel_rfl))
   refine WP.loadB (v := .slice a3 n3 c3) hB1 (by kernel_rfl) (by kernel_rfl) ?_
   refine WP.dn (Shown.ok (v := .slice a3 n3 c3) (by kernel_rfl) (Step.refl _ _) ?_)
   exact ⟨tv, tv, tv, tv, tv, tv, tv, rfl, tv, tv, tv⟩
  ·intro vs gq stq hl hf
   obtain ⟨v0, v1, v2, v3, rfl⟩ := len_k4 hl
   have hR3 := (show RdS (Kd.int .u8) gq 5 a3 n3 c3 l3 from hf _ (memI 1 rfl) (by kernel_rfl))
   obtain ⟨a15, c12, e1, hR15⟩ := (show ∃ (a15 : Option Addr) (c12 : Nat), v1 = .slice a15 l12.length c12 ∧ OwnS (Kd.int .u8) gq (t + 9) 5 a15 l12.length c12 l12 from hf _ (memI 6 rfl) (by kernel_rfl))
   subst e1
   have e2 := (show v2 = .slice a3 n3 c3 from hf _ (memI 7 rfl) (by kernel_rfl))
   subst e2
   obtain ⟨gf2, hwf2, stf2, hnew⟩ := hR15.freeze (by omega)
   refine WP.regw hwf2 ?_
   replace hR3 := hR3.mono stf2 (WL.no (by simp <;> omega))
   clear hR15
   have hR15 := hnew
   clear hnew
   have hcal10 := P.octet_PutBytes gf2 (t + 10) l12 l3 a15 l12.length c12 a3 n3 c3 hR15 hR3 l13 hk10
   refine WP.callC hcal10 (by kernel_rfl) ?_
   rintro _ g18 st18 ⟨a16, n13, c13, rfl, hR16⟩
   obtain rfl := hR16.len
   replace st18 : Step (WL []) _ _ := Step.pure st18
   have hz2 := hR15.mono st18 (WL.no (by simp <;> omega))
   replace st18 := Step.both stf2 st18
   refine WP.dn (Shown.o (v := .slice a16 l13.length c13) st18 ?_)
   exact ⟨tv, tv, tv, tv, tv, tv, tv, tv, ⟨a16, c13, rfl, hR16⟩, ⟨a15, c12, rfl, hz2⟩, tv⟩
 intro vs g19 st19 hl hf
 obtain ⟨v0, v1, v2, v3, rfl⟩ := len_k4 hl
 obtain ⟨a16, c13, e3, hR16⟩ := (show ∃ (a16 : Option Addr) (c13 : Nat), v3 = .slice a16 l13.length c13 ∧ OwnS (Kd.int .u8) g19 (t + 10) 5 a16 l13.length c13 l13 from hf _ (memI 8 rfl) (by kernel_rfl))
 subst e3
 replace tot := tot.trans (st19.up1 (.inr (by omega)))
 refine NX.then_n ?_
 refine CP.refr 40 [(2, .slice a16 l13.length c13), (3, .int .i64 0)] (by kernel_rfl) (by kernel_rfl) ?_
 clear ds
 intro ds
 refine CP.ret ?_
 obtain ⟨g20, hw5, st20, hnew⟩ := hR16.relab (by omega) r0
 refine NX.regw hw5 ?_
 replace tot := tot.trans (st20.up1 (.inr (by omega)))
 clear hR16
 have hR16 := hnew
 clear hnew
 replace hs := Option.some.inj hs
 obtain ⟨rfl, rfl⟩ := Prod.mk.inj hs
 exact NX.fin (v := .tuple #[.slice a16 l13.length c13, .int .i64 0]) (Res.still (by kernel_rfl)) tot htL ⟨a16, l13.length, c13, rfl, hR16⟩
def F.baizeref34_Check.c2 (q3 : Bool) : Option (Int) := (if q3 = true then (some 2) else (some 0))
def F.baizeref34_Check.c1 (x2 : Int) (l1 : List Int) (l2 : List Int) (q1 : Bool) (q2 : Bool) : Option (Int) := (if q2 = true then (some 11) else (if q1 = true then (some 3) else (if decide (x2 < 0) = true then (F.baizeref34_Check.c2 true) else (if decide (x2 > 1099511627776) = true then (F.baizeref34_Check.c2 true) else (if decide ((l1.length : Int) > 4096) = true then (F.baizeref34_Check.c2 true) else (F.baizeref34_Check.c2 (decide ((l2.length : Int) > 4096))))))))
def F.baizeref34_Check (x1 : Int) (d1 : Arr Int 8) (x2 : Int) (d2 : Arr Int 8) (l1 : List Int) (l2 : List Int) (q1 : Bool) : Option (Int) := (if (x1 != 0) = true then (F.baizeref34_Check.c1 x2 l1 l2 q1 (x1 != 1)) else (F.baizeref34_Check.c1 x2 l1 l2 q1 false))
theorem P.baizeref34_Check (g0 : GW) (x1 : Int) (d1 : Arr Int 8) (x2 : Int) (d2 : Arr Int 8) (l1 : List Int) (l2 : List Int) (q1 : Bool) (a1 : Option Addr) (n1 : Nat) (c1 : Nat) (a2 : Option Addr) (n2 : Nat) (c2 : Nat) (hR1 : RdS (Kd.int .u8) g0 5 a1 n1 c1 l1) (hR2 : RdS (Kd.int .u8) g0 5 a2 n2 c2 l2) (o1 : Int) (hs : F.baizeref34_Check x1 d1 x2 d2 l1 l2 q1 = some o1) :
  Calls Try.prog 27 #[AG [[.int .i64 x1], encA .u8 d1, [.int .i64 x2], encA .u8 d2, [.slice a1 n1 c1], [.slice a2 n2 c2], [.bool q1]]] g0.w (Ret NoM g0 fun v g => v = .int .i64 o1) := by
 refine calls_of (args := [AG [[.int .i64 x1], encA .u8 d1, [.int .i64 x2], encA .u8 d2, [.slice a1 n1 c1], [.slice a2 n2 c2], [.bool q1]]]) Try.func27 rfl (0) ?_
 intro t ht htL
 refine ⟨_, rfl, ?_⟩
 refine CP.refr 33 [(0, AG [[.int .i64 x1], encA .u8 d1, [.int .i64 x2], encA .u8 d2, [.slice a1 n1 c1], [.slice a2 n2 c2], [.bool q1]])] (by kernel_rfl) (by kernel_rfl) ?_
 intro ds
 have tot : Step (fun l => NoM l ∨ t ≤ l) g0 g0 := Step.refl _ _
 unfold F.baizeref34_Check at hs
 refine CP.seqR ?_
 refine WP.alloc (T := 35) (t + 1) [[.int .i64 x1], encA .u8 d1, [.int .i64 x2], encA .u8 d2, [.slice a1 n1 c1], [.slice a2 n2 c2], [.bool q1]] [1, 8, 1, 8, 1, 1, 1] (by kernel_rfl) (by simp [len_encA]) ?_
 intro g1 b1 st1 hB1
 replace hR1 := hR1.mono st1 (fun x => x)
 replace hR2 := hR2.mono st1 (fun x => x)
 replace tot := tot.trans st1.pure
 refine WP.stl 1 ?_
 refine WP.dn ?_
 refine NX.then_n ?_
 refine CP.seq ?_
 refine CP.cut (fun tm g => ∃ (q2 : Bool), Fr 33 [(1, .pointer (some ⟨b1, 0, none⟩)), (10, .bool q2)] tm ∧ Step (fun l => NoM l ∨ t ≤ l) g0 g ∧ Box g (t + 1) b1 35 [[.int .i64 x1], encA .u8 d1, [.int .i64 x2], encA .u8 d2, [.slice a1 n1 c1], [.slice a2 n2 c2], [.bool q1]] [1, 8, 1, 8, 1, 1, 1] ∧ RdS (Kd.int .u8) g 5 a1 n1 c1 l1 ∧ RdS (Kd.int .u8) g 5 a2 n2 c2 l2 ∧ (F.baizeref34_Check.c1 x2 l1 l2 q1 q2) = some o1) ?_ ?_
 ·refine CP.region ?_
  refine WP.stl 1 ?_
  refine WP.loadB (v := .int .i64 x1) hB1 (by kernel_rfl) (by kernel_rfl) ?_
  refine WP.stl 2 ?_
  refine WP.guard 6 (b := (x1 != 0)) (by kernel_rfl) (fun h11 => ?_) (fun h11 => ?_)
  ·replace hs := of_if_t hs h11
   refine WP.stl 1 ?_
   refine WP.loadB (v := .int .i64 x1) hB1 (by kernel_rfl) (by kernel_rfl) ?_
   refine WP.stl 2 ?_
   refine WP.dn ?_
   refine NX.post ?_
   exact ⟨(x1 != 1), ⟨by kernel_rfl, by kernel_rfl⟩, tot, hB1, hR1, hR2, hs⟩
  replace hs := of_if_f hs h11
  refine WP.stl 4 ?_
  refine WP.dn ?_
  refine NX.post ?_
  exact ⟨false, ⟨by kernel_rfl, by kernel_rfl⟩, tot, hB1, hR1, hR2, hs⟩
 clear tot hs hB1 hR1 hR2
 rintro tm g ⟨q2, hF, tot, hB1, hR1, hR2, hs⟩
 clear ds
 obtain ⟨ds, rfl⟩ := hF.open
 clear hF
 unfold F.baizeref34_Check.c1 at hs
 refine CP.cond (b := q2) (by kernel_rfl) (fun h2 => ?_) (fun h2 => ?_)
 ·replace hs := of_if_t hs h2
  refine CP.seqR ?_
  refine WP.stl 1 ?_
  refine WP.dn ?_
  refine NX.then_n ?_
  refine CP.ret ?_
  refine NX.then_r ?_
  replace hs := Option.some.inj hs
  obtain rfl := hs
  exact NX.fin (v := .int .i64 11) (Res.still (by kernel_rfl)) tot htL rfl
 replace hs := of_if_f hs h2
 refine CP.skip ?_
 refine NX.then_n ?_
 refine CP.seq ?_
 refine CP.seqR ?_
 refine WP.stl 1 ?_
 refine WP.loadB (v := .bool q1) hB1 (by kernel_rfl) (by kernel_rfl) ?_
 refine WP.dn ?_
 refine NX.then_n ?_
 refine CP.cond (b := q1) (by kernel_rfl) (fun h3 => ?_) (fun h3 => ?_)
 ·replace hs := of_if_t hs h3
  refine CP.seqR ?_
  refine WP.stl 1 ?_
  refine WP.dn ?_
  refine NX.then_n ?_
  refine CP.ret ?_
  refine NX.then_r ?_
  replace hs := Option.some.inj hs
  obtain rfl := hs
  exact NX.fin (v := .int .i64 3) (Res.still (by kernel_rfl)) tot htL rfl
 replace hs := of_if_f hs h3
 refine CP.skip ?_
 refine NX.then_n ?_
 refine CP.seq ?_
 refine CP.cut (fun tm g => ∃ (q3 : Bool), Fr 33 [(32, .bool q3)] tm ∧ Step (fun l => NoM l ∨ t ≤ l) g0 g ∧ (F.baizeref34_Check.c2 q3) = some o1) ?_ ?_
 ·refine CP.region ?_
  refine WP.stl 1 ?_
  refine WP.loadB (v := .int .i64 x2) hB1 (by kernel_rfl) (by kernel_rfl) ?_
  refine WP.stl 2 ?_
  refine WP.guard 16 (b := decide (x2 < 0)) (by kernel_rfl) (fun h8 => ?_) (fun h8 => ?_)
  ·replace hs := of_if_t hs h8
   refine WP.stl 16 ?_
   refine WP.dn ?_
   refine NX.post ?_
   exact ⟨true, ⟨by kernel_rfl, by kernel_rfl⟩, tot, hs⟩
  replace hs := of_if_f hs h8
  refine WP.stl 1 ?_
  refine WP.loadB (v := .int .i64 x2) hB1 (by kernel_rfl) (by kernel_rfl) ?_
  refine WP.stl 3 ?_
  refine WP.guard 21 (b := decide (x2 > 1099511627776)) (by kernel_rfl) (fun h9 => ?_) (fun h9 => ?_)
  ·replace hs := of_if_t hs h9
   refine WP.stl 11 ?_
   refine WP.dn ?_
   refine NX.post ?_
   exact ⟨true, ⟨by kernel_rfl, by kernel_rfl⟩, tot, hs⟩
  replace hs := of_if_f hs h9
  refine WP.stl 1 ?_
  refine WP.loadB (v := .slice a1 n1 c1) hB1 (by kernel_rfl) (by kernel_rfl) ?_
  refine WP.len (a := a1) (cp := c1) hR1.len (by kernel_rfl) ?_
  refine WP.stl 3 ?_
  refine WP.guard 27 (b := decide ((l1.length : Int) > 4096)) (by kernel_rfl) (fun h10 => ?_) (fun h10 => ?_)
  ·replace hs := of_if_t hs h10
   refine WP.stl 5 ?_
   refine WP.dn ?_
   refine NX.post ?_
   exact ⟨true, ⟨by kernel_rfl, by kernel_rfl⟩, tot, hs⟩
  replace hs := of_if_f hs h10
  refine WP.stl 1 ?_
  refine WP.loadB (v := .slice a2 n2 c2) hB1 (by kernel_rfl) (by kernel_rfl) ?_
  refine WP.len (a := a2) (cp := c2) hR2.len (by kernel_rfl) ?_
  refine WP.stl 2 ?_
  refine WP.dn ?_
  refine NX.post ?_
  exact ⟨decide ((l2.length : Int) > 4096), ⟨by kernel_rfl, by kernel_rfl⟩, tot, hs⟩
 clear tot hs hB1 hR1 hR2
 rintro tm g ⟨q3, hF, tot, hs⟩
 clear ds
 obtain ⟨ds, rfl⟩ := hF.open
 clear hF
 unfold F.baizeref34_Check.c2 at hs
 refine CP.cond (b := q3) (by kernel_rfl) (fun h7 => ?_) (fun h7 => ?_)
 ·replace hs := of_if_t hs h7
  refine CP.seqR ?_
  refine WP.stl 1 ?_
  refine WP.dn ?_
  refine NX.then_n ?_
  refine CP.ret ?_
  refine NX.then_r ?_
  replace hs := Option.some.inj hs
  obtain rfl := hs
  exact NX.fin (v := .int .i64 2) (Res.still (by kernel_rfl)) tot htL rfl
 replace hs := of_if_f hs h7
 refine CP.skip ?_
 refine NX.then_n ?_
 refine CP.seqR ?_
 refine WP.stl 1 ?_
 refine WP.dn ?_
 refine NX.then_n ?_
 refine CP.ret ?_
 replace hs := Option.some.inj hs
 obtain rfl := hs
 exact NX.fin (v := .int .i64 0) (Res.still (by kernel_rfl)) tot htL rfl
def F.baizeref01_Num.l1 : Nat → Int → (List Int) → Option ((List Int))
 | 0, _, _ => none
 | k + 1, x2, l1 => (if decide (x2 ≥ 128) = true then (if l1.length + ([(IntKind.u8.wrap (IntKind.u64.wrap (128 + (x2.tmod 128))))]).length ≤ 140737488355328 then (F.baizeref01_Num.l1 k (IntKind.u64.wrap (x2.tdiv 128)) (l1 ++ [(IntKind.u8.wrap (IntKind.u64.wrap (128 + (x2.tmod 128))))])) else none) else (if l1.length + ([(IntKind.u8.wrap x2)]).length ≤ 140737488355328 then (some (l1 ++ [(IntKind.u8.wrap x2)])) else none))
def F.baizeref01_Num (x1 : Int) : Option ((List Int)) := (F.baizeref01_Num.l1 fuel x1 ([]))
theorem P.baizeref01_Num (g0 : GW) (r0 : Nat) (x1 : Int) (o1 : List Int) (hs : F.baizeref01_Num x1 = some o1) :
  Calls Try.prog 43 #[.int .u64 x1] g0.w (Ret NoM g0 fun v g => ∃ (a_1 : Option Addr) (n_1 : Nat) (c_1 : Nat), v = .slice a_1 n_1 c_1 ∧ OwnS (Kd.int .u8) g r0 5 a_1 n_1 c_1 o1) := by
 refine calls_of (args := [.int .u64 x1]) Try.func43 rfl (r0 + 0) ?_
 intro t ht htL
 refine ⟨_, rfl, ?_⟩
 refine CP.refr 20 [(0, .int .u64 x1)] (by kernel_rfl) (by kernel_rfl) ?_
 intro ds
 have tot : Step (fun l => NoM l ∨ t ≤ l) g0 g0 := Step.refl _ _
 unfold F.baizeref01_Num at hs
 refine CP.seqR ?_
 refine WP.stl 1 ?_
 refine WP.dn ?_
 refine NX.then_n ?_
 refine CP.seqR ?_
 refine WP.stl 1 ?_
 refine WP.dn ?_
 refine NX.then_n ?_
 refine CP.seq ?_
 refine CP.block ?_
 generalize fuel = k1 at hs
 refine CP.loop (fun k1 tm g => ∃ (x2 : Int) (l1 : List Int) (a5 : Option Addr) (n1 : Nat) (c3 : Nat), Fr 20 [(0, .int .u64 x2), (3, .slice a5 n1 c3)] tm ∧ Step (fun l => NoM l ∨ t ≤ l) g0 g ∧ OwnS (Kd.int .u8) g (t + 2) 5 a5 n1 c3 l1 ∧ F.baizeref01_Num.l1 k1 x2 l1 = some o1) k1 ?_ ?_ ?_
 ·exact ⟨x1, [], none, 0, 0, ⟨by kernel_rfl, by kernel_rfl⟩, tot, (OwnS.nil _ _ _ _), hs⟩
 ·rintro tm g ⟨x2, l1, a5, n1, c3, hF, tot, hR5, hs⟩
  exact absurd hs (by simp [F.baizeref01_Num.l1])
 clear tot hs
 rintro k1 tm g ⟨x2, l1, a5, n1, c3, hF, tot, hR5, hs⟩
 clear ds
 obtain ⟨ds, rfl⟩ := hF.open
 clear hF
 unfold F.baizeref01_Num.l1 at hs
 refine CP.seq ?_
 refine CP.seqR ?_
 refine WP.stl 2 ?_
 refine WP.dn ?_
 refine NX.then_n ?_
 refine CP.cond (b := decide (x2 ≥ 128)) (by kernel_rfl) (fun h3 => ?_) (fun h3 => ?_)
 ·replace hs := of_if_t hs h3
  refine CP.skip ?_
  refine NX.then_n ?_
  refine CP.block ?_
  refine CP.seqR ?_
  refine WP.stl 5 ?_
  refine WP.mkSl (kd := (Kd.int .u8)) (t := 33) (e := 5) (bytes := 1) (t + 7) [.int .u8 (IntKind.u8.wrap (IntKind.u64.wrap (128 + (x2.tmod 128))))] [(IntKind.u8.wrap (IntKind.u64.wrap (128 + (x2.tmod 128))))] (by kernel_rfl) (by kernel_rfl) (Nat.le_of_ble_eq_true rfl) (Nat.le_of_ble_eq_true rfl) (all_cons rfl all_nil) (⟨_, _, rfl, (by exact rfl), rfl⟩) rfl ?_
  intro g9 a11 st9 hR11
  replace hR5 := hR5.mono st9 (fun x => x) (fun x => x)
  replace tot := tot.trans st9.pure
  by_cases hc5 : l1.length + ([(IntKind.u8.wrap (IntKind.u64.wrap (128 + (x2.tmod 128))))]).length ≤ 140737488355328
  case neg => rw [if_neg hc5] at hs; cases hs
  replace hs := of_if_p hs hc5
  refine WP.append (kd := (Kd.int .u8)) (t := 33) (e := 5) (bytes := 1) (a2 := a11) (c2 := 1) hR5 hR11.src hR11.len (by kernel_rfl) (by kernel_rfl) (by omega) (by simp only [maxLen]; omega) (by omega) ?_
  intro g10 a12 c7 st10 hR12
  replace hR11 := hR11.mono st10 (WL.no1 (by omega)) (WL.no1 (by omega))
  replace tot := tot.trans (st10.up1 (.inr (by omega)))
  refine WP.stl 1 ?_
  refine WP.dn ?_
  refine NX.then_n ?_
  refine CP.region ?_
  refine WP.stl 3 ?_
  refine WP.dn ?_
  refine NX.block_n ?_
  refine NX.post ?_
  exact ⟨(IntKind.u64.wrap (x2.tdiv 128)), (l1 ++ [(IntKind.u8.wrap (IntKind.u64.wrap (128 + (x2.tmod 128))))]), a12, (n1 + 1), c7, ⟨by kernel_rfl, by kernel_rfl⟩, tot, hR12, hs⟩
 replace hs := of_if_f hs h3
 refine CP.exit ?_
 refine NX.then_e ?_
 refine NX.then_e ?_
 refine NX.block_s ?_
 refine NX.then_n ?_
 refine CP.seqR ?_
 refine WP.stl 3 ?_
 refine WP.mkSl (kd := (Kd.int .u8)) (t := 33) (e := 5) (bytes := 1) (t + 8) [.int .u8 (IntKind.u8.wrap x2)] [(IntKind.u8.wrap x2)] (by kernel_rfl) (by kernel_rfl) (Nat.le_of_ble_eq_true rfl) (Nat.le_of_ble_eq_true rfl) (all_cons rfl all_nil) (⟨_, _, rfl, (by exact rfl), rfl⟩) rfl ?_
 intro g11 a13 st11 hR13
 replace hR5 := hR5.mono st11 (fun x => x) (fun x => x)
 replace tot := tot.trans st11.pure
 by_cases hc6 : l1.length + ([(IntKind.u8.wrap x2)]).length ≤ 140737488355328
 case neg => rw [if_neg hc6] at hs; cases hs
 replace hs := of_if_p hs hc6
 refine WP.append (kd := (Kd.int .u8)) (t := 33) (e := 5) (bytes := 1) (a2 := a13) (c2 := 1) hR5 hR13.src hR13.len (by kernel_rfl) (by kernel_rfl) (by omega) (by simp only [maxLen]; omega) (by omega) ?_
 intro g12 a14 c8 st12 hR14
 replace hR13 := hR13.mono st12 (WL.no1 (by omega)) (WL.no1 (by omega))
 replace tot := tot.trans (st12.up1 (.inr (by omega)))
 refine WP.stl 1 ?_
 refine WP.dn ?_
 refine NX.then_n ?_
 refine CP.ret ?_
 obtain ⟨g13, hw1, st13, hnew⟩ := hR14.relab (by omega) r0
 refine NX.regw hw1 ?_
 replace tot := tot.trans (st13.up1 (.inr (by omega)))
 clear hR14
 have hR14 := hnew
 clear hnew
 replace hs := Option.some.inj hs
 obtain rfl := hs
 exact NX.fin (v := .slice a14 (n1 + 1) c8) (Res.still (by kernel_rfl)) tot htL ⟨a14, (n1 + 1), c8, rfl, hR14⟩
def F.baizeref01_Bytes (l1 : List Int) : Option ((List Int)) := ((F.baizeref01_Num (IntKind.u64.wrap (l1.length : Int))).bind fun l2 => (if l2.length + l1.length ≤ 140737488355328 then (some (l2 ++ l1)) else none))
theorem P.baizeref01_Bytes (g0 : GW) (r0 : Nat) (l1 : List Int) (a1 : Option Addr) (n1 : Nat) (c1 : Nat) (hR1 : RdS (Kd.int .u8) g0 5 a1 n1 c1 l1) (o1 : List Int) (hs : F.baizeref01_Bytes l1 = some o1) :
  Calls Try.prog 44 #[.slice a1 n1 c1] g0.w (Ret NoM g0 fun v g => ∃ (a_1 : Option Addr) (n_1 : Nat) (c_1 : Nat), v = .slice a_1 n_1 c_1 ∧ OwnS (Kd.int .u8) g r0 5 a_1 n_1 c_1 o1) := by
 refine calls_of (args := [.slice a1 n1 c1]) Try.func44 rfl (r0 + 0) ?_
 intro t ht htL
 refine ⟨_, rfl, ?_⟩
 refine CP.refr 9 [(0, .slice a1 n1 c1)] (by kernel_rfl) (by kernel_rfl) ?_
 intro ds
 have tot : Step (fun l => NoM l ∨ t ≤ l) g0 g0 := Step.refl _ _
 unfold F.baizeref01_Bytes at hs
 refine CP.seqR ?_
 refine WP.stl 1 ?_
 refine WP.dn ?_
 refine NX.then_n ?_
 refine CP.seqR ?_
 refine WP.stl 1 ?_
 refine WP.len (a := a1) (cp := c1) hR1.len (by kernel_rfl) ?_
 refine WP.stl 1 ?_
 replace hs := Option.bind_eq_some_iff.1 hs
 obtain ⟨l2, hk1, hs⟩ := hs
 have hcal1 := P.baizeref01_Num g0 (t + 1) (IntKind.u64.wrap (l1.length : Int)) l2 hk1
 refine WP.callC hcal1 (by kernel_rfl) ?_
 rintro _ g1 st1 ⟨a2, n2, c2, rfl, hR2⟩
 replace hR1 := hR1.mono st1 (fun x => x)
 replace tot := tot.trans st1.pure
 refine WP.stl 1 ?_
 by_cases hc1 : l2.length + l1.length ≤ 140737488355328
 case neg => rw [if_neg hc1] at hs; cases hs
 replace hs := of_if_p hs hc1
 refine WP.append (kd := (Kd.int .u8)) (t := 33) (e := 5) (bytes := 1) (a2 := a1) (c2 := c1) hR2 hR1.src hR1.len (by kernel_rfl) (by kernel_rfl) (by omega) (by simp only [maxLen]; omega) (by omega) ?_
 intro g2 a3 c3 st2 hR3
 replace hR1 := hR1.mono st2 (WL.no1 (by omega))
 replace tot := tot.trans (st2.up1 (.inr (by omega)))
 refine WP.stl 1 ?_
 refine WP.dn ?_
 refine NX.then_n ?_
 refine CP.ret ?_
 obtain ⟨g3, hw1, st3, hnew⟩ := hR3.relab (by omega) r0
 refine NX.regw hw1 ?_
 replace tot := tot.trans (st3.up1 (.inr (by omega)))
 clear hR3
 have hR3 := hnew
 clear hnew
 replace hs := Option.some.inj hs
 obtain rfl := hs
 exact NX.fin (v := .slice a3 (n2 + n1) c3) (Res.still (by kernel_rfl)) tot htL ⟨a3, (n2 + n1), c3, rfl, hR3⟩
def N.baizeref34_Encode_0 : List (List Nat) := [[], [0], [0, 1], [0, 1, 2], [], [4], [0, 1, 2, 3, 4, 5], [0, 1, 2, 3, 4, 5, 6], [0, 1, 2, 3, 4, 5, 6, 7]]
def N.baizeref34_Encode_1 : List (List Nat) := [[], [], [1], [1, 2], [0, 1, 2, 3], [], [5], [0, 1, 2, 3, 4, 5, 6], [0, 1, 2, 3, 4, 5, 6, 7], [0, 1, 2, 3, 4, 5, 6, 7, 8], [0, 1, 2, 3, 4, 5, 6, 7, 8, 9]]
def F.baizeref34_Encode.c1 (l1 : List Int) (l2 : List Int) (l8 : List Int) : Option ((List Int) × Int) := ((F.baizeref01_Bytes l1).bind fun l9 => (if l8.length + l9.length ≤ 140737488355328 then ((F.baizeref01_Bytes l2).bind fun l10 => (if (l8 ++ l9).length + l10.length ≤ 140737488355328 then (some (((l8 ++ l9) ++ l10), 0)) else none)) else none))
def F.baizeref34_Encode (x1 : Int) (d1 : Arr Int 8) (x2 : Int) (d2 : Arr Int 8) (l1 : List Int) (l2 : List Int) (q1 : Bool) : Option ((List Int) × Int) := ((F.baizeref34_Check x1 d1 x2 d2 l1 l2 q1).bind fun x3 => (if (x3 != 0) = true then (some ([], x3)) else ((F.baizeref01_Num (IntKind.u64.wrap x1)).bind fun l4 => ((F.baizeref01_Bytes d1.1).bind fun l5 => (if l4.length + l5.length ≤ 140737488355328 then ((F.baizeref01_Num (IntKind.u64.wrap x2)).bind fun l6 => (if (l4 ++ l5).length + l6.length ≤ 140737488355328 then (if (x1 == 1) = true then ((F.baizeref01_Bytes d2.1).bind fun l11 => (if ((l4 ++ l5) ++ l6).length + l11.length ≤ 140737488355328 then (F.baizeref34_Encode.c1 l1 l2 (((l4 ++ l5) ++ l6) ++ l11)) else none)) else (F.baizeref34_Encode.c1 l1 l2 ((l4 ++ l5) ++ l6))) else none)) else none)))))
theorem P.baizeref34_Encode (g0 : GW) (r0 : Nat) (x1 : Int) (d1 : Arr Int 8) (x2 : Int) (d2 : Arr Int 8) (l1 : List Int) (l2 : List Int) (q1 : Bool) (a1 : Option Addr) (n1 : Nat) (c1 : Nat) (a2 : Option Addr) (n2 : Nat) (c2 : Nat) (hR1 : RdS (Kd.int .u8) g0 5 a1 n1 c1 l1) (hR2 : RdS (Kd.int .u8) g0 5 a2 n2 c2 l2) (o1 : List Int) (o2 : Int) (hs : F.baizeref34_Encode x1 d1 x2 d2 l1 l2 q1 = some (o1, o2)) :
  Calls Try.prog 15 #[AG [[.int .i64 x1], encA .u8 d1, [.int .i64 x2], encA .u8 d2, [.slice a1 n1 c1], [.slice a2 n2 c2], [.bool q1]]] g0.w (Ret NoM g0 fun v g => ∃ (a_1 : Option Addr) (n_1 : Nat) (c_1 : Nat), v = .tuple #[.slice a_1 n_1 c_1, .int .i64 o2] ∧ OwnS (Kd.int .u8) g r0 5 a_1 n_1 c_1 o1) := by
 refine calls_of (args := [AG [[.int .i64 x1], encA .u8 d1, [.int .i64 x2], encA .u8 d2, [.slice a1 n1 c1], [.slice a2 n2 c2], [.bool q1]]]) Try.func15 rfl (r0 + 0) ?_
 intro t ht htL
 refine ⟨_, rfl, ?_⟩
 refine CP.refr 42 [(0, AG [[.int .i64 x1], encA .u8 d1, [.int .i64 x2], encA .u8 d2, [.slice a1 n1 c1], [.slice a2 n2 c2], [.bool q1]])] (by kernel_rfl) (by kernel_rfl) ?_
 intro ds
 have tot : Step (fun l => NoM l ∨ t ≤ l) g0 g0 := Step.refl _ _
 unfold F.baizeref34_Encode at hs
 refine CP.seqR ?_
 refine WP.alloc (T := 35) (t + 1) [[.int .i64 x1], encA .u8 d1, [.int .i64 x2], encA .u8 d2, [.slice a1 n1 c1], [.slice a2 n2 c2], [.bool q1]] [1, 8, 1, 8, 1, 1, 1] (by kernel_rfl) (by simp [len_encA]) ?_
 intro g1 b1 st1 hB1
 replace hR1 := hR1.mono st1 (fun x => x)
 replace hR2 := hR2.mono st1 (fun x => x)
 replace tot := tot.trans st1.pure
 refine WP.stl 2 ?_
 refine WP.dn ?_
 refine NX.then_n ?_
 refine CP.seq ?_
 refine CP.seqR ?_
 refine WP.loadB (v := AG [[.int .i64 x1], encA .u8 d1, [.int .i64 x2], encA .u8 d2, [.slice a1 n1 c1], [.slice a2 n2 c2], [.bool q1]]) hB1 (by kernel_rfl) (by kernel_rfl) ?_
 replace hs := Option.bind_eq_some_iff.1 hs
 obtain ⟨x3, hk1, hs⟩ := hs
 have hcal1 := P.baizeref34_Check g1 x1 d1 x2 d2 l1 l2 q1 a1 n1 c1 a2 n2 c2 hR1 hR2 x3 hk1
 refine WP.callC hcal1 (by kernel_rfl) ?_
 rintro _ g2 st2 rfl
 replace hB1 := hB1.mono st2 (fun x => x)
 replace hR1 := hR1.mono st2 (fun x => x)
 replace hR2 := hR2.mono st2 (fun x => x)
 replace tot := tot.trans st2.pure
 refine WP.stl 1 ?_
 refine WP.dn ?_
 refine NX.then_n ?_
 refine CP.seqR ?_
 refine WP.stl 2 ?_
 refine WP.dn ?_
 refine NX.then_n ?_
 refine CP.cond (b := (x3 != 0)) (by kernel_rfl) (fun h1 => ?_) (fun h1 => ?_)
 ·replace hs := of_if_t hs h1
  refine CP.seqR ?_
  refine WP.stl 3 ?_
  refine WP.dn ?_
  refine NX.then_n ?_
  refine CP.ret ?_
  refine NX.then_r ?_
  replace hs := Option.some.inj hs
  obtain ⟨rfl, rfl⟩ := Prod.mk.inj hs
  exact NX.fin (v := .tuple #[.slice none 0 0, .int .i64 x3]) (Res.still (by kernel_rfl)) tot htL ⟨none, 0, 0, rfl, (OwnS.nil _ _ _ _)⟩
 replace hs := of_if_f hs h1
 refine CP.skip ?_
 refine NX.then_n ?_
 refine CP.seq ?_
 obtain ⟨g4, hw1, st4, hnew⟩ := hB1.relab 0
 refine CP.regw hw1 ?_
 replace hR1 := hR1.mono st4 (WL.no1 (by omega))
 replace hR2 := hR2.mono st4 (WL.no1 (by omega))
 replace tot := tot.trans (st4.up1 (.inr (by omega)))
 clear hB1
 have hB1 := hnew
 clear hnew
 replace hs := Option.bind_eq_some_iff.1 hs
 obtain ⟨l4, hk3, hs⟩ := hs
 replace hs := Option.bind_eq_some_iff.1 hs
 obtain ⟨l5, hk4, hs⟩ := hs
 by_cases hc1 : l4.length + l5.length ≤ 140737488355328
 case neg => rw [if_neg hc1] at hs; cases hs
 replace hs := of_if_p hs hc1
 refine CP.drawL (by kernel_rfl) [1, 3, 5, 6, 7] N.baizeref34_Encode_0 [⟨none, [], [], fun l g => Box g 0 b1 35 [[.int .i64 x1], encA .u8 d1, [.int .i64 x2], encA .u8 d2, [.slice a1 n1 c1], [.slice a2 n2 c2], [.bool q1]] [1, 8, 1, 8, 1, 1, 1]⟩, ⟨some 0, [], [0], fun l g => l.getD 0 undef = .int .i64 x1⟩, ⟨some 1, [0], [1], fun l g => ∃ (a5 : Option Addr) (c4 : Nat), l.getD 0 undef = .slice a5 l4.length c4 ∧ OwnS (Kd.int .u8) g (t + 3) 5 a5 l4.length c4 l4⟩, ⟨some 2, [], [2], fun l g => ∃ (a6 : Option Addr), l.getD 0 undef = .slice a6 ((8 : Int).toNat - (0 : Int).toNat) (8 - (0 : Int).toNat) ∧ RdS (Kd.int .u8) g 5 a6 ((8 : Int).toNat - (0 : Int).toNat) (8 - (0 : Int).toNat) d1.1⟩, ⟨some 3, [], [3], fun l g => ∃ (a7 : Option Addr) (c5 : Nat), l.getD 0 undef = .slice a7 l5.length c5 ∧ OwnS (Kd.int .u8) g (t + 4) 5 a7 l5.length c5 l5⟩, ⟨some 4, [0], [4], fun l g => ∃ (a8 : Option Addr) (c6 : Nat), l.getD 0 undef = .slice a8 (l4.length + l5.length) c6 ∧ OwnS (Kd.int .u8) g (t + 3) 5 a8 (l4.length + l5.length) c6 (l4 ++ l5)⟩, ⟨some 4, [], [1], fun l g => ∃ (a5 : Option Addr) (c4 : Nat), l.getD 0 undef = .slice a5 l4.length c4⟩] [[], [], [], [], [0]] [(t + 3)] [0, 4] [2, 8] (by kernel_rfl) (by simp <;> omega) (by simp) ⟨fun _ _ _ _ st h0 hl hj hB1 => (hB1.mono st (fun h => absurd (hl _ h) (by simp <;> omega))), fun _ _ _ _ st h0 hl hj e0 => e0, fun _ _ _ _ st h0 hl hj ⟨a5, c4, e1, hR5⟩ => ⟨a5, c4, e1, (hR5.mono st h0 (hj 0 (by simp) _ rfl))⟩, fun _ _ _ _ st h0 hl hj ⟨a6, e2, hR6⟩ => ⟨a6, e2, (RdS.mono (e := 5) hR6 st h0)⟩, fun _ _ _ _ st h0 hl hj ⟨a7, c5, e3, hR7⟩ => ⟨a7, c5, e3, (hR7.mono st h0 (fun h => absurd (hl _ h) (by simp <;> omega)))⟩, fun _ _ _ _ st h0 hl hj ⟨a8, c6, e4, hR8⟩ => ⟨a8, c6, e4, (hR8.mono st h0 (hj 0 (by simp) _ rfl))⟩, fun _ _ _ _ st h0 hl hj ⟨a5, c4, e1⟩ => ⟨a5, c4, e1⟩, tv⟩ ⟨hB1, tv, tv, tv, tv, tv, tv, tv⟩ (by kernel_rfl) (fun vs => by kernel_rfl) ?_ ?_ ?_
 ·intro j hj
  have hq : j = 0 ∨ j = 1 := by have h : j < 2 := hj; omega
  rcases hq with rfl | rfl
  ·intro vs gq stq hl hf
   obtain ⟨v0, v1, v2, v3, v4, rfl⟩ := len_k5 hl
   have e0 := (show v0 = .int .i64 x1 from hf _ (memI 1 rfl) (by kernel_rfl))
   subst e0
   show Option.isSome _ = true
   kernel_rfl
  ·intro vs gq stq hl hf
   obtain ⟨v0, v1, v2, v3, v4, rfl⟩ := len_k5 hl
   obtain ⟨a8, c6, e4, hR8⟩ := (show ∃ (a8 : Option Addr) (c6 : Nat), v4 = .slice a8 (l4.length + l5.length) c6 ∧ OwnS (Kd.int .u8) gq (t + 3) 5 a8 (l4.length + l5.length) c6 (l4 ++ l5) from hf _ (memI 5 rfl) (by kernel_rfl))
   subst e4
   show Option.isSome _ = true
   kernel_rfl
 ·intro j hj
  have hq : j = 0 ∨ j = 1 ∨ j = 2 ∨ j = 3 ∨ j = 4 := by have h : j < 5 := hj; omega
  rcases hq with rfl | rfl | rfl | rfl | rfl
  ·intro vs gq stq hl hf
   obtain ⟨v0, v1, v2, v3, v4, rfl⟩ := len_k5 hl
   have hB1 := (show Box gq 0 b1 35 [[.int .i64 x1], encA .u8 d1, [.int .i64 x2], encA .u8 d2, [.slice a1 n1 c1], [.slice a2 n2 c2], [.bool q1]] [1, 8, 1, 8, 1, 1, 1] from hf _ (memI 0 rfl) (by kernel_rfl))
   refine WP.loadB (v := .int .i64 x1) hB1 (by kernel_rfl) (by kernel_rfl) ?_
   refine WP.dn (Shown.ok (v := .int .i64 x1) (by kernel_rfl) (Step.refl _ _) ?_)
   exact ⟨tv, rfl, tv, tv, tv, tv, tv, tv⟩
  ·intro vs gq stq hl hf
   obtain ⟨v0, v1, v2, v3, v4, rfl⟩ := len_k5 hl
   have e0 := (show v0 = .int .i64 x1 from hf _ (memI 1 rfl) (by kernel_rfl))
   subst e0
   have hcal3 := P.baizeref01_Num gq (t + 3) (IntKind.u64.wrap x1) l4 hk3
   refine WP.callC hcal3 (by kernel_rfl) ?_
   rintro _ g5 st5 ⟨a5, n4, c4, rfl, hR5⟩
   obtain rfl := hR5.len
   refine WP.dn (Shown.o (v := .slice a5 l4.length c4) st5.pure ?_)
   exact ⟨tv, tv, ⟨a5, c4, rfl, hR5⟩, tv, tv, tv, tv, tv⟩
  ·intro vs gq stq hl hf
   obtain ⟨v0, v1, v2, v3, v4, rfl⟩ := len_k5 hl
   have hB1 := (show Box gq 0 b1 35 [[.int .i64 x1], encA .u8 d1, [.int .i64 x2], encA .u8 d2, [.slice a1 n1 c1], [.slice a2 n2 c2], [.bool q1]] [1, 8, 1, 8, 1, 1, 1] from hf _ (memI 0 rfl) (by kernel_rfl))
   refine WP.sliceZ (o := 1) (m := 8) (k := .u8) (d := d1) (e := 5) (lo := none) (hi := none) hB1 (by kernel_rfl) (0 : Int) (8 : Int) (by kernel_rfl) (.inl ⟨rfl, rfl⟩) (.inl ⟨rfl, rfl⟩) (by decide) ?_
   intro a6 hR6
   rw [sliceI_all (m := 8) (d := d1) (j := (8 : Int)) rfl] at hR6
   refine WP.dn (Shown.ok (v := .slice a6 ((8 : Int).toNat - (0 : Int).toNat) (8 - (0 : Int).toNat)) (by kernel_rfl) (Step.refl _ _) ?_)
   exact ⟨tv, tv, tv, ⟨a6, rfl, hR6⟩, tv, tv, tv, tv⟩
  ·intro vs gq stq hl hf
   obtain ⟨v0, v1, v2, v3, v4, rfl⟩ := len_k5 hl
   obtain ⟨a6, e2, hR6⟩ := (show ∃ (a6 : Option Addr), v2 = .slice a6 ((8 : Int).toNat - (0 : Int).toNat) (8 - (0 : Int).toNat) ∧ RdS (Kd.int .u8) gq 5 a6 ((8 : Int).toNat - (0 : Int).toNat) (8 - (0 : Int).toNat) d1.1 from hf _ (memI 3 rfl) (by kernel_rfl))
   subst e2
   have hcal4 := P.baizeref01_Bytes gq (t + 4) d1.1 a6 ((8 : Int).toNat - (0 : Int).toNat) (8 - (0 : Int).toNat) hR6 l5 hk4
   refine WP.callC hcal4 (by kernel_rfl) ?_
   rintro _ g6 st6 ⟨a7, n5, c5, rfl, hR7⟩
   obtain rfl := hR7.len
   refine WP.dn (Shown.o (v := .slice a7 l5.length c5) st6.pure ?_)
   exact ⟨tv, tv, tv, tv, ⟨a7, c5, rfl, hR7⟩, tv, tv, tv⟩
  ·intro vs gq stq hl hf
   obtain ⟨v0, v1, v2, v3, v4, rfl⟩ := len_k5 hl
   obtain ⟨a5, c4, e1, hR5⟩ := (show ∃ (a5 : Option Addr) (c4 : Nat), v1 = .slice a5 l4.length c4 ∧ OwnS (Kd.int .u8) gq (t + 3) 5 a5 l4.length c4 l4 from hf _ (memI 2 rfl) (by kernel_rfl))
   subst e1
   obtain ⟨a7, c5, e3, hR7⟩ := (show ∃ (a7 : Option Addr) (c5 : Nat), v3 = .slice a7 l5.length c5 ∧ OwnS (Kd.int .u8) gq (t + 4) 5 a7 l5.length c5 l5 from hf _ (memI 4 rfl) (by kernel_rfl))
   subst e3
   refine WP.append (kd := (Kd.int .u8)) (t := 33) (e := 5) (bytes := 1) (a2 := a7) (c2 := c5) hR5 hR7.src hR7.len (by kernel_rfl) (by kernel_rfl) (by omega) (by simp only [maxLen]; omega) (by omega) ?_
   intro g7 a8 c6 st7 hR8
   refine WP.dn (Shown.o (v := .slice a8 (l4.length + l5.length) c6) st7 ?_)
   exact ⟨tv, tv, tv, tv, tv, ⟨a8, c6, rfl, hR8⟩, ⟨a5, c4, rfl⟩, tv⟩
 intro vs g8 st8 hl hf
 obtain ⟨v0, v1, v2, v3, v4, rfl⟩ := len_k5 hl
 obtain ⟨a8, c6, e4, hR8⟩ := (show ∃ (a8 : Option Addr) (c6 : Nat), v4 = .slice a8 (l4.length + l5.length) c6 ∧ OwnS (Kd.int .u8) g8 (t + 3) 5 a8 (l4.length + l5.length) c6 (l4 ++ l5) from hf _ (memI 5 rfl) (by kernel_rfl))
 subst e4
 replace hB1 := hB1.mono st8 (WL.no1 (by omega))
 replace hR1 := hR1.mono st8 (WL.no1 (by omega))
 replace hR2 := hR2.mono st8 (WL.no1 (by omega))
 replace tot := tot.trans (st8.up1 (.inr (by omega)))
 refine NX.then_n ?_
 refine CP.refr 42 [(1, .pointer (some ⟨b1, 0, none⟩)), (5, .slice a8 (l4.length + l5.length) c6)] (by kernel_rfl) (by kernel_rfl) ?_
 clear ds
 intro ds
 refine CP.seqR ?_
 refine WP.stl 2 ?_
 refine WP.loadB (v := .int .i64 x2) hB1 (by kernel_rfl) (by kernel_rfl) ?_
 refine WP.stl 1 ?_
 replace hs := Option.bind_eq_some_iff.1 hs
 obtain ⟨l6, hk5, hs⟩ := hs
 have hcal5 := P.baizeref01_Num g8 (t + 5) (IntKind.u64.wrap x2) l6 hk5
 refine WP.callC hcal5 (by kernel_rfl) ?_
 rintro _ g9 st9 ⟨a9, n6, c7, rfl, hR9⟩
 replace hB1 := hB1.mono st9 (fun x => x)
 replace hR1 := hR1.mono st9 (fun x => x)
 replace hR2 := hR2.mono st9 (fun x => x)
 replace hR8 := hR8.mono st9 (fun x => x) (fun x => x)
 replace tot := tot.trans st9.pure
 by_cases hc2 : (l4 ++ l5).length + l6.length ≤ 140737488355328
 case neg => rw [if_neg hc2] at hs; cases hs
 replace hs := of_if_p hs hc2
 refine WP.append (kd := (Kd.int .u8)) (t := 33) (e := 5) (bytes := 1) (a2 := a9) (c2 := c7) hR8 hR9.src hR9.len (by kernel_rfl) (by kernel_rfl) (by omega) (by simp only [maxLen]; omega) (by omega) ?_
 intro g10 a10 c8 st10 hR10
 replace hB1 := hB1.mono st10 (WL.no1 (by omega))
 replace hR1 := hR1.mono st10 (WL.no1 (by omega))
 replace hR2 := hR2.mono st10 (WL.no1 (by omega))
 replace hR9 := hR9.mono st10 (WL.no1 (by omega)) (WL.no1 (by omega))
 replace tot := tot.trans (st10.up1 (.inr (by omega)))
 refine WP.stl 1 ?_
 refine WP.dn ?_
 refine NX.then_n ?_
 refine CP.cut (fun tm g => ∃ (l8 : List Int) (a14 : Option Addr) (n8 : Nat) (c11 : Nat), Fr 42 [(1, .pointer (some ⟨b1, 0, none⟩)), (5, .slice a14 n8 c11)] tm ∧ Step (fun l => NoM l ∨ t ≤ l) g0 g ∧ Box g 0 b1 35 [[.int .i64 x1], encA .u8 d1, [.int .i64 x2], encA .u8 d2, [.slice a1 n1 c1], [.slice a2 n2 c2], [.bool q1]] [1, 8, 1, 8, 1, 1, 1] ∧ RdS (Kd.int .u8) g 5 a1 n1 c1 l1 ∧ RdS (Kd.int .u8) g 5 a2 n2 c2 l2 ∧ OwnS (Kd.int .u8) g (t + 3) 5 a14 n8 c11 l8 ∧ (F.baizeref34_Encode.c1 l1 l2 l8) = some (o1, o2)) ?_ ?_
 ·refine CP.seqR ?_
  refine WP.stl 1 ?_
  refine WP.loadB (v := .int .i64 x1) hB1 (by kernel_rfl) (by kernel_rfl) ?_
  refine WP.stl 1 ?_
  refine WP.dn ?_
  refine NX.then_n ?_
  refine CP.cond (b := (x1 == 1)) (by kernel_rfl) (fun h3 => ?_) (fun h3 => ?_)
  ·replace hs := of_if_t hs h3
   refine CP.region ?_
   refine WP.stl 2 ?_
   refine WP.sliceZ (o := 10) (m := 8) (k := .u8) (d := d2) (e := 5) (lo := none) (hi := none) hB1 (by kernel_rfl) (0 : Int) (8 : Int) (by kernel_rfl) (.inl ⟨rfl, rfl⟩) (.inl ⟨rfl, rfl⟩) (by decide) ?_
   intro a19 hR19
   rw [sliceI_all (m := 8) (d := d2) (j := (8 : Int)) rfl] at hR19
   replace hs := Option.bind_eq_some_iff.1 hs
   obtain ⟨l11, hk9, hs⟩ := hs
   have hcal9 := P.baizeref01_Bytes g10 (t + 9) d2.1 a19 ((8 : Int).toNat - (0 : Int).toNat) (8 - (0 : Int).toNat) hR19 l11 hk9
   refine WP.callC hcal9 (by kernel_rfl) ?_
   rintro _ g19 st19 ⟨a20, n11, c16, rfl, hR20⟩
   replace hB1 := hB1.mono st19 (fun x => x)
   replace hR1 := hR1.mono st19 (fun x => x)
   replace hR2 := hR2.mono st19 (fun x => x)
   replace hR10 := hR10.mono st19 (fun x => x) (fun x => x)
   replace hR19 := hR19.mono st19 (fun x => x)
   replace tot := tot.trans st19.pure
   by_cases hc6 : ((l4 ++ l5) ++ l6).length + l11.length ≤ 140737488355328
   case neg => rw [if_neg hc6] at hs; cases hs
   replace hs := of_if_p hs hc6
   refine WP.append (kd := (Kd.int .u8)) (t := 33) (e := 5) (bytes := 1) (a2 := a20) (c2 := c16) hR10 hR20.src hR20.len (by kernel_rfl) (by kernel_rfl) (by omega) (by simp only [maxLen]; omega) (by omega) ?_
   intro g20 a21 c17 st20 hR21
   replace hB1 := hB1.mono st20 (WL.no1 (by omega))
   replace hR1 := hR1.mono st20 (WL.no1 (by omega))
   replace hR2 := hR2.mono st20 (WL.no1 (by omega))
   replace hR19 := hR19.mono st20 (WL.no1 (by omega))
   replace hR20 := hR20.mono st20 (WL.no1 (by omega)) (WL.no1 (by omega))
   replace tot := tot.trans (st20.up1 (.inr (by omega)))
   refine WP.stl 1 ?_
   refine WP.dn ?_
   refine NX.post ?_
   exact ⟨(((l4 ++ l5) ++ l6) ++ l11), a21, (((l4.length + l5.length) + n6) + n11), c17, ⟨by kernel_rfl, by kernel_rfl⟩, tot, hB1, hR1, hR2, hR21, hs⟩
  replace hs := of_if_f hs h3
  refine CP.skip ?_
  refine NX.post ?_
  exact ⟨((l4 ++ l5) ++ l6), a10, ((l4.length + l5.length) + n6), c8, ⟨by kernel_rfl, by kernel_rfl⟩, tot, hB1, hR1, hR2, hR10, hs⟩
 clear tot hs hB1 hR1 hR2 hR10
 rintro tm g ⟨l8, a14, n8, c11, hF, tot, hB1, hR1, hR2, hR14, hs⟩
 clear ds
 obtain ⟨ds, rfl⟩ := hF.open
 clear hF
 unfold F.baizeref34_Encode.c1 at hs
 refine CP.seq ?_
 replace hs := Option.bind_eq_some_iff.1 hs
 obtain ⟨l9, hk7, hs⟩ := hs
 by_cases hc4 : l8.length + l9.length ≤ 140737488355328
 case neg => rw [if_neg hc4] at hs; cases hs
 replace hs := of_if_p hs hc4
 replace hs := Option.bind_eq_some_iff.1 hs
 obtain ⟨l10, hk8, hs⟩ := hs
 by_cases hc5 : (l8 ++ l9).length + l10.length ≤ 140737488355328
 case neg => rw [if_neg hc5] at hs; cases hs
 replace hs := of_if_p hs hc5
 refine CP.drawL (by kernel_rfl) [2, 3, 4, 6, 7, 8] N.baizeref34_Encode_1 [⟨none, [], [], fun l g => Box g 0 b1 35 [[.int .i64 x1], encA .u8 d1, [.int .i64 x2], encA .u8 d2, [.slice a1 n1 c1], [.slice a2 n2 c2], [.bool q1]] [1, 8, 1, 8, 1, 1, 1]⟩, ⟨none, [], [], fun l g => RdS (Kd.int .u8) g 5 a1 n1 c1 l1⟩, ⟨none, [], [], fun l g => RdS (Kd.int .u8) g 5 a2 n2 c2 l2⟩, ⟨none, [0], [], fun l g => OwnS (Kd.int .u8) g (t + 3) 5 a14 n8 c11 l8⟩, ⟨some 0, [], [0], fun l g => l.getD 0 undef = .slice a1 n1 c1⟩, ⟨some 1, [], [1], fun l g => ∃ (a15 : Option Addr) (c12 : Nat), l.getD 0 undef = .slice a15 l9.length c12 ∧ OwnS (Kd.int .u8) g (t + 7) 5 a15 l9.length c12 l9⟩, ⟨some 2, [0], [2], fun l g => ∃ (a16 : Option Addr) (c13 : Nat), l.getD 0 undef = .slice a16 (n8 + l9.length) c13 ∧ OwnS (Kd.int .u8) g (t + 3) 5 a16 (n8 + l9.length) c13 (l8 ++ l9)⟩, ⟨some 3, [], [3], fun l g => l.getD 0 undef = .slice a2 n2 c2⟩, ⟨some 4, [], [4], fun l g => ∃ (a17 : Option Addr) (c14 : Nat), l.getD 0 undef = .slice a17 l10.length c14 ∧ OwnS (Kd.int .u8) g (t + 8) 5 a17 l10.length c14 l10⟩, ⟨some 5, [0], [5], fun l g => ∃ (a18 : Option Addr) (c15 : Nat), l.getD 0 undef = .slice a18 ((n8 + l9.length) + l10.length) c15 ∧ OwnS (Kd.int .u8) g (t + 3) 5 a18 ((n8 + l9.length) + l10.length) c15 ((l8 ++ l9) ++ l10)⟩, ⟨some 5, [], [2], fun l g => ∃ (a16 : Option Addr) (c13 : Nat), l.getD 0 undef = .slice a16 (n8 + l9.length) c13⟩] [[], [], [0], [], [], [0]] [(t + 3)] [0, 1, 5, 10] [9] (by kernel_rfl) (by simp <;> omega) (by simp) ⟨fun _ _ _ _ st h0 hl hj hB1 => (hB1.mono st (fun h => absurd (hl _ h) (by simp <;> omega))), fun _ _ _ _ st h0 hl hj hR1 => (RdS.mono (e := 5) hR1 st h0), fun _ _ _ _ st h0 hl hj hR2 => (RdS.mono (e := 5) hR2 st h0), fun _ _ _ _ st h0 hl hj hR14 => (hR14.mono st h0 (hj 0 (by simp) _ rfl)), fun _ _ _ _ st h0 hl hj e0 => e0, fun _ _ _ _ st h0 hl hj ⟨a15, c12, e1, hR15⟩ => ⟨a15, c12, e1, (hR15.mono st h0 (fun h => absurd (hl _ h) (by simp <;> omega)))⟩, fun _ _ _ _ st h0 hl hj ⟨a16, c13, e2, hR16⟩ => ⟨a16, c13, e2, (hR16.mono st h0 (hj 0 (by simp) _ rfl))⟩, fun _ _ _ _ st h0 hl hj e3 => e3, fun _ _ _ _ st h0 hl hj ⟨a17, c14, e4, hR17⟩ => ⟨a17, c14, e4, (hR17.mono st h0 (fun h => absurd (hl _ h) (by simp <;> omega)))⟩, fun _ _ _ _ st h0 hl hj ⟨a18, c15, e5, hR18⟩ => ⟨a18, c15, e5, (hR18.mono st h0 (hj 0 (by simp) _ rfl))⟩, fun _ _ _ _ st h0 hl hj ⟨a16, c13, e2⟩ => ⟨a16, c13, e2⟩, tv⟩ ⟨hB1, hR1, hR2, hR14, tv, tv, tv, tv, tv, tv, tv, tv⟩ (by kernel_rfl) (fun vs => by kernel_rfl) ?_ ?_ ?_
 ·intro j hj
  have hq : j = 0 := by have h : j < 1 := hj; omega
  rcases hq with rfl
  ·intro vs gq stq hl hf
   obtain ⟨v0, v1, v2, v3, v4, v5, rfl⟩ := len_k6 hl
   obtain ⟨a18, c15, e5, hR18⟩ := (show ∃ (a18 : Option Addr) (c15 : Nat), v5 = .slice a18 ((n8 + l9.length) + l10.length) c15 ∧ OwnS (Kd.int .u8) gq (t + 3) 5 a18 ((n8 + l9.length) + l10.length) c15 ((l8 ++ l9) ++ l10) from hf _ (memI 9 rfl) (by kernel_rfl))
   subst e5
   show Option.isSome _ = true
   kernel_rfl
 ·intro j hj
  have hq : j = 0 ∨ j = 1 ∨ j = 2 ∨ j = 3 ∨ j = 4 ∨ j = 5 := by have h : j < 6 := hj; omega
  rcases hq with rfl | rfl | rfl | rfl | rfl | rfl
  ·intro vs gq stq hl hf
   obtain ⟨v0, v1, v2, v3, v4, v5, rfl⟩ := len_k6 hl
   have hB1 := (show Box gq 0 b1 35 [[.int .i64 x1], encA .u8 d1, [.int .i64 x2], encA .u8 d2, [.slice a1 n1 c1], [.slice a2 n2 c2], [.bool q1]] [1, 8, 1, 8, 1, 1, 1] from hf _ (memI 0 rfl) (by kernel_rfl))
   refine WP.loadB (v := .slice a1 n1 c1) hB1 (by kernel_rfl) (by kernel_rfl) ?_
   refine WP.dn (Shown.ok (v := .slice a1 n1 c1) (by kernel_rfl) (Step.refl _ _) ?_)
   exact ⟨tv, tv, tv, tv, rfl, tv, tv, tv, tv, tv, tv, tv⟩
  ·intro vs gq stq hl hf
   obtain ⟨v0, v1, v2, v3, v4, v5, rfl⟩ := len_k6 hl
   have hR1 := (show RdS (Kd.int .u8) gq 5 a1 n1 c1 l1 from hf _ (memI 1 rfl) (by kernel_rfl))
   have e0 := (show v0 = .slice a1 n1 c1 from hf _ (memI 4 rfl) (by kernel_rfl))
   subst e0
   have hcal7 := P.baizeref01_Bytes gq (t + 7) l1 a1 n1 c1 hR1 l9 hk7
   refine WP.callC hcal7 (by kernel_rfl) ?_
   rintro _ g13 st13 ⟨a15, n9, c12, rfl, hR15⟩
   obtain rfl := hR15.len
   refine WP.dn (Shown.o (v := .slice a15 l9.length c12) st13.pure ?_)
   exact ⟨tv, tv, tv, tv, tv, ⟨a15, c12, rfl, hR15⟩, tv, tv, tv, tv, tv, tv⟩
  ·intro vs gq stq hl hf
   obtain ⟨v0, v1, v2, v3, v4, v5, rfl⟩ := len_k6 hl
   have hR14 := (show OwnS (Kd.int .u8) gq (t + 3) 5 a14 n8 c11 l8 from hf _ (memI 3 rfl) (by kernel_rfl))
   obtain ⟨a15, c12, e1, hR15⟩ := (show ∃ (a15 : Option Addr) (c12 : Nat), v1 = .slice a15 l9.length c12 ∧ OwnS (Kd.int .u8) gq (t + 7) 5 a15 l9.length c12 l9 from hf _ (memI 5 rfl) (by kernel_rfl))
   subst e1
   refine WP.append (kd := (Kd.int .u8)) (t := 33) (e := 5) (bytes := 1) (a2 := a15) (c2 := c12) hR14 hR15.src hR15.len (by kernel_rfl) (by kernel_rfl) (by omega) (by simp only [maxLen]; omega) (by omega) ?_
   intro g14 a16 c13 st14 hR16
   refine WP.dn (Shown.o (v := .slice a16 (n8 + l9.length) c13) st14 ?_)
   exact ⟨tv, tv, tv, tv, tv, tv, ⟨a16, c13, rfl, hR16⟩, tv, tv, tv, tv, tv⟩
  ·intro vs gq stq hl hf
   obtain ⟨v0, v1, v2, v3, v4, v5, rfl⟩ := len_k6 hl
   have hB1 := (show Box gq 0 b1 35 [[.int .i64 x1], encA .u8 d1, [.int .i64 x2], encA .u8 d2, [.slice a1 n1 c1], [.slice a2 n2 c2], [.bool q1]] [1, 8, 1, 8, 1, 1, 1] from hf _ (memI 0 rfl) (by kernel_rfl))
   refine WP.loadB (v := .slice a2 n2 c2) hB1 (by kernel_rfl) (by kernel_rfl) ?_
   refine WP.dn (Shown.ok (v := .slice a2 n2 c2) (by kernel_rfl) (Step.refl _ _) ?_)
   exact ⟨tv, tv, tv, tv, tv, tv, tv, rfl, tv, tv, tv, tv⟩
  ·intro vs gq stq hl hf
   obtain ⟨v0, v1, v2, v3, v4, v5, rfl⟩ := len_k6 hl
   have hR2 := (show RdS (Kd.int .u8) gq 5 a2 n2 c2 l2 from hf _ (memI 2 rfl) (by kernel_rfl))
   have e3 := (show v3 = .slice a2 n2 c2 from hf _ (memI 7 rfl) (by kernel_rfl))
   subst e3
   have hcal8 := P.baizeref01_Bytes gq (t + 8) l2 a2 n2 c2 hR2 l10 hk8
   refine WP.callC hcal8 (by kernel_rfl) ?_
   rintro _ g15 st15 ⟨a17, n10, c14, rfl, hR17⟩
   obtain rfl := hR17.len
   refine WP.dn (Shown.o (v := .slice a17 l10.length c14) st15.pure ?_)
   exact ⟨tv, tv, tv, tv, tv, tv, tv, tv, ⟨a17, c14, rfl, hR17⟩, tv, tv, tv⟩
  ·intro vs gq stq hl hf
   obtain ⟨v0, v1, v2, v3, v4, v5, rfl⟩ := len_k6 hl
   obtain ⟨a16, c13, e2, hR16⟩ := (show ∃ (a16 : Option Addr) (c13 : Nat), v2 = .slice a16 (n8 + l9.length) c13 ∧ OwnS (Kd.int .u8) gq (t + 3) 5 a16 (n8 + l9.length) c13 (l8 ++ l9) from hf _ (memI 6 rfl) (by kernel_rfl))
   subst e2
   obtain ⟨a17, c14, e4, hR17⟩ := (show ∃ (a17 : Option Addr) (c14 : Nat), v4 = .slice a17 l10.length c14 ∧ OwnS (Kd.int .u8) gq (t + 8) 5 a17 l10.length c14 l10 from hf _ (memI 8 rfl) (by kernel_rfl))
   subst e4
   refine WP.append (kd := (Kd.int .u8)) (t := 33) (e := 5) (bytes := 1) (a2 := a17) (c2 := c14) hR16 hR17.src hR17.len (by kernel_rfl) (by kernel_rfl) (by omega) (by simp only [maxLen]; omega) (by omega) ?_
   intro g16 a18 c15 st16 hR18
   refine WP.dn (Shown.o (v := .slice a18 ((n8 + l9.length) + l10.length) c15) st16 ?_)
   exact ⟨tv, tv, tv, tv, tv, tv, tv, tv, tv, ⟨a18, c15, rfl, hR18⟩, ⟨a16, c13, rfl⟩, tv⟩
 intro vs g17 st17 hl hf
 obtain ⟨v0, v1, v2, v3, v4, v5, rfl⟩ := len_k6 hl
 obtain ⟨a18, c15, e5, hR18⟩ := (show ∃ (a18 : Option Addr) (c15 : Nat), v5 = .slice a18 ((n8 + l9.length) + l10.length) c15 ∧ OwnS (Kd.int .u8) g17 (t + 3) 5 a18 ((n8 + l9.length) + l10.length) c15 ((l8 ++ l9) ++ l10) from hf _ (memI 9 rfl) (by kernel_rfl))
 subst e5
 replace tot := tot.trans (st17.up1 (.inr (by omega)))
 refine NX.then_n ?_
 refine CP.refr 42 [(2, .slice a18 ((n8 + l9.length) + l10.length) c15), (3, .int .i64 0)] (by kernel_rfl) (by kernel_rfl) ?_
 clear ds
 intro ds
 refine CP.ret ?_
 obtain ⟨g18, hw2, st18, hnew⟩ := hR18.relab (by omega) r0
 refine NX.regw hw2 ?_
 replace tot := tot.trans (st18.up1 (.inr (by omega)))
 clear hR18
 have hR18 := hnew
 clear hnew
 replace hs := Option.some.inj hs
 obtain ⟨rfl, rfl⟩ := Prod.mk.inj hs
 exact NX.fin (v := .tuple #[.slice a18 ((n8 + l9.length) + l10.length) c15, .int .i64 0]) (Res.still (by kernel_rfl)) tot htL ⟨a18, ((n8 + l9.length) + l10.length), c15, rfl, hR18⟩
def F.octet_NewReader (l1 : List Int) : Option ((List Int) × Int) := ((F.slices_Clone_byte_byte l1).bind fun l2 => (some (l2, 0)))
theorem P.octet_NewReader (g0 : GW) (r0 : Nat) (l1 : List Int) (a1 : Option Addr) (n1 : Nat) (c1 : Nat) (hR1 : RdS (Kd.int .u8) g0 5 a1 n1 c1 l1) (o1 : List Int) (o2 : Int) (hs : F.octet_NewReader l1 = some (o1, o2)) :
  Calls Try.prog 45 #[.slice a1 n1 c1] g0.w (Ret NoM g0 fun v g => ∃ (b_1 : Nat) (a_2 : Option Addr) (n_2 : Nat) (c_2 : Nat), v = .pointer (some ⟨b_1, 0, none⟩) ∧ Box g r0 b_1 138 [[.slice a_2 n_2 c_2], [.int .i64 o2]] [1, 1] ∧ RdS (Kd.int .u8) g 5 a_2 n_2 c_2 o1) := by
 refine calls_of (args := [.slice a1 n1 c1]) Try.func45 rfl (r0 + 0) ?_
 intro t ht htL
 refine ⟨_, rfl, ?_⟩
 refine CP.refr 7 [(0, .slice a1 n1 c1)] (by kernel_rfl) (by kernel_rfl) ?_
 intro ds
 have tot : Step (fun l => NoM l ∨ t ≤ l) g0 g0 := Step.refl _ _
 unfold F.octet_NewReader at hs
 refine CP.seqR ?_
 refine WP.stl 1 ?_
 refine WP.dn ?_
 refine NX.then_n ?_
 refine CP.seqR ?_
 refine WP.stl 1 ?_
 replace hs := Option.bind_eq_some_iff.1 hs
 obtain ⟨l2, hk1, hs⟩ := hs
 have hcal1 := P.slices_Clone_byte_byte g0 (t + 1) l1 a1 n1 c1 hR1 l2 hk1
 refine WP.callC hcal1 (by kernel_rfl) ?_
 rintro _ g1 st1 ⟨a2, n2, c2, rfl, hR2⟩
 replace hR1 := hR1.mono st1 (fun x => x)
 replace tot := tot.trans st1.pure
 refine WP.stl 1 ?_
 refine WP.alloc (T := 138) (t + 2) [[.slice a2 n2 c2], [.int .i64 0]] [1, 1] (by kernel_rfl) rfl ?_
 intro g2 b1 st2 hB1
 replace hR1 := hR1.mono st2 (fun x => x)
 replace hR2 := hR2.mono st2 (fun x => x) (fun x => x)
 replace tot := tot.trans st2.pure
 refine WP.stl 1 ?_
 refine WP.dn ?_
 refine NX.then_n ?_
 refine CP.ret ?_
 obtain ⟨g3, hw1, st3, hnew⟩ := hB1.relab r0
 refine NX.regw hw1 ?_
 replace hR2 := hR2.mono st3 (WL.no1 (by omega)) (WL.no1 (by omega))
 replace tot := tot.trans (st3.up1 (.inr (by omega)))
 clear hB1
 have hB1 := hnew
 clear hnew
 obtain ⟨g4, hw2, st4, hnew⟩ := hR2.freeze (by omega)
 refine NX.regw hw2 ?_
 replace hB1 := hB1.mono st4 (WL.no1 (by omega))
 replace tot := tot.trans (st4.up1 (.inr (by omega)))
 clear hR2
 have hR2 := hnew
 clear hnew
 replace hs := Option.some.inj hs
 obtain ⟨rfl, rfl⟩ := Prod.mk.inj hs
 exact NX.fin (v := .pointer (some ⟨b1, 0, none⟩)) (Res.still (by kernel_rfl)) tot htL ⟨b1, a2, n2, c2, rfl, hB1, hR2⟩
def F.math_bits_Len8 (x1 : Int) : Option (Int) := (if (0 : Int) ≤ x1 ∧ x1 < (str_0.size : Int) then (some (IntKind.i64.wrap (getI (strBytes str_0) x1))) else none)
theorem P.math_bits_Len8 (g0 : GW) (x1 : Int) (o1 : Int) (hs : F.math_bits_Len8 x1 = some o1) :
  Calls Try.prog 83 #[.int .u8 x1] g0.w (Ret NoM g0 fun v g => v = .int .i64 o1) := by
 refine calls_of (args := [.int .u8 x1]) Try.func83 rfl (0) ?_
 intro t ht htL
 refine ⟨_, rfl, ?_⟩
 refine CP.refr 6 [(0, .int .u8 x1)] (by kernel_rfl) (by kernel_rfl) ?_
 intro ds
 have tot : Step (fun l => NoM l ∨ t ≤ l) g0 g0 := Step.refl _ _
 unfold F.math_bits_Len8 at hs
 refine CP.seqR ?_
 refine WP.stl 1 ?_
 refine WP.dn ?_
 refine NX.then_n ?_
 refine CP.seqR ?_
 refine WP.stl 1 ?_
 by_cases hc1 : (0 : Int) ≤ x1 ∧ x1 < (str_0.size : Int)
 case neg => rw [if_neg hc1] at hs; cases hs
 replace hs := of_if_p hs hc1
 refine WP.indexS (s := str_0) (k := .u8) (i := x1) (by kernel_rfl) hc1 ?_
 refine WP.stl 2 ?_
 refine WP.dn ?_
 refine NX.then_n ?_
 refine CP.ret ?_
 replace hs := Option.some.inj hs
 obtain rfl := hs
 exact NX.fin (v := .int .i64 (IntKind.i64.wrap (getI (strBytes str_0) x1))) (Res.still (by kernel_rfl)) tot htL rfl
def F.octet_number.c1 (l1 : List Int) : Option (Int × Int × Int) := (if decide ((l1.length : Int) < 10) = true then (some (0, 0, 4)) else (some (0, 0, 3)))
def F.octet_number.c2 (nx1 : Int → Int → Option (Int × Int × Int)) (l1 : List Int) (x8 : Int) (x9 : Int) (q5 : Bool) : Option (Int × Int × Int) := (if q5 = true then (some (0, 0, 3)) else ((F.math_bits_Len8 (bitAnd .u8 (getI l1 x9) 127)).bind fun x13 => (if decide ((IntKind.i64.wrap (x13 + (IntKind.i64.wrap (7 * x9)))) > 64) = true then (some (0, 0, 3)) else (if (0 : Int) ≤ (IntKind.i64.wrap (7 * x9)) then (if decide ((getI l1 x9) < 128) = true then (some ((bitOr .u64 x8 (shV true .u64 (IntKind.u64.wrap (bitAnd .u8 (getI l1 x9) 127)) (IntKind.i64.wrap (7 * x9)))), (IntKind.i64.wrap (x9 + 1)), 0)) else (nx1 (bitOr .u64 x8 (shV true .u64 (IntKind.u64.wrap (bitAnd .u8 (getI l1 x9) 127)) (IntKind.i64.wrap (7 * x9)))) (IntKind.i64.wrap (x9 + 1)))) else none))))
def F.octet_number.l1 (l1 : List Int) : Nat → Int → Int → Option (Int × Int × Int)
 | 0, _, _ => none
 | k + 1, x8, x9 => (if decide (x9 < (l1.length : Int)) = true then (if (0 : Int) ≤ x9 ∧ x9 < (l1.length : Int) then (if (x9 == 10) = true then (F.octet_number.c1 l1) else (if decide ((getI l1 x9) < 128) = true then (if ((getI l1 x9) == 0) = true then (F.octet_number.c2 (F.octet_number.l1 l1 k) l1 x8 x9 (decide (x9 > 0))) else (F.octet_number.c2 (F.octet_number.l1 l1 k) l1 x8 x9 false)) else (F.octet_number.c2 (F.octet_number.l1 l1 k) l1 x8 x9 false))) else none) else (F.octet_number.c1 l1))
def F.octet_number (l1 : List Int) : Option (Int × Int × Int) := (F.octet_number.l1 l1 fuel 0 0)
theorem P.octet_number (g0 : GW) (l1 : List Int) (a1 : Option Addr) (n1 : Nat) (c1 : Nat) (hR1 : RdS (Kd.int .u8) g0 5 a1 n1 c1 l1) (o1 : Int) (o2 : Int) (o3 : Int) (hs : F.octet_number l1 = some (o1, o2, o3)) :
  Calls Try.prog 72 #[.slice a1 n1 c1] g0.w (Ret NoM g0 fun v g => v = .tuple #[.int .u64 o1, .int .i64 o2, .int .i64 o3]) := by
 refine calls_of (args := [.slice a1 n1 c1]) Try.func72 rfl (0) ?_
 intro t ht htL
 refine ⟨_, rfl, ?_⟩
 refine CP.refr 54 [(0, .slice a1 n1 c1)] (by kernel_rfl) (by kernel_rfl) ?_
 intro ds
 have tot : Step (fun l => NoM l ∨ t ≤ l) g0 g0 := Step.refl _ _
 unfold F.octet_number at hs
 refine CP.seqR ?_
 refine WP.stl 3 ?_
 refine WP.dn ?_
 refine NX.then_n ?_
 refine CP.scope ?_
 refine CP.seqR ?_
 refine WP.stl 1 ?_
 refine WP.dn ?_
 refine NX.then_n ?_
 refine CP.seq ?_
 refine CP.label ?_
 refine NX.then_n ?_
 refine CP.cut (fun tm g => Fr 54 [(0, .slice a1 n1 c1)] tm ∧ Step (fun l => NoM l ∨ t ≤ l) g0 g ∧ RdS (Kd.int .u8) g 5 a1 n1 c1 l1 ∧ (F.octet_number.c1 l1) = some (o1, o2, o3)) ?_ ?_
 ·refine CP.seqR ?_
  refine WP.stl 1 ?_
  refine WP.len (a := a1) (cp := c1) hR1.len (by kernel_rfl) ?_
  refine WP.stl 1 ?_
  refine WP.dn ?_
  refine NX.then_n ?_
  refine CP.block ?_
  generalize fuel = k1 at hs
  refine CP.loop (fun k1 tm g => ∃ (x8 : Int) (x9 : Int), Fr 54 [(0, .slice a1 n1 c1), (5, .int .u64 x8), (8, .slice a1 n1 c1), (9, .int .i64 (l1.length : Int)), (10, .int .i64 x9)] tm ∧ Step (fun l => NoM l ∨ t ≤ l) g0 g ∧ RdS (Kd.int .u8) g 5 a1 n1 c1 l1 ∧ F.octet_number.l1 l1 k1 x8 x9 = some (o1, o2, o3)) k1 ?_ ?_ ?_
  ·exact ⟨0, 0, ⟨by kernel_rfl, by kernel_rfl⟩, tot, hR1, hs⟩
  ·rintro tm g ⟨x8, x9, hF, tot, hR1, hs⟩
   exact absurd hs (by simp [F.octet_number.l1])
  clear tot hs hR1
  rintro k1 tm g ⟨x8, x9, hF, tot, hR1, hs⟩
  clear ds
  obtain ⟨ds, rfl⟩ := hF.open
  clear hF
  unfold F.octet_number.l1 at hs
  refine CP.seqR ?_
  refine WP.stl 1 ?_
  refine WP.dn ?_
  refine NX.then_n ?_
  refine CP.seq ?_
  refine CP.cond (b := decide (x9 < (l1.length : Int))) (by kernel_rfl) (fun h30 => ?_) (fun h30 => ?_)
  ·replace hs := of_if_t hs h30
   refine CP.skip ?_
   refine NX.then_n ?_
   refine CP.seq ?_
   refine CP.block ?_
   refine CP.seqR ?_
   refine WP.stl 1 ?_
   by_cases hc9 : (0 : Int) ≤ x9 ∧ x9 < (l1.length : Int)
   case neg => rw [if_neg hc9] at hs; cases hs
   replace hs := of_if_p hs hc9
   obtain ⟨b5, u5, ha5⟩ := hR1.at hc9
   refine WP.indexA (t := 33) (e := 5) (sz := 1) (cap := c1) (k := .i64) (i := x9) hR1.len ha5 (by kernel_rfl) (by kernel_rfl) hc9 ?_
   obtain ⟨cs5, hcR5, hcV5⟩ := hR1.src.view (getI_some hc9) ha5
   replace hcR5 := Kd.o_int hcR5
   refine WP.loadV [[.int .u8 (getI l1 x9)]] [1] hcV5 hcR5 rfl (f := 0) (ty := 5) (agg := false) (size := 1) (rs := [[.int .u8 (getI l1 x9)]]) (v := .int .u8 (getI l1 x9)) (by kernel_rfl) (by kernel_rfl) (by kernel_rfl) (by kernel_rfl) ?_
   refine WP.stl 2 ?_
   refine WP.dn ?_
   refine NX.then_n ?_
   refine CP.seq ?_
   refine CP.block ?_
   refine CP.seqR ?_
   refine WP.stl 3 ?_
   refine WP.dn ?_
   refine NX.then_n ?_
   refine CP.cond (b := (x9 == 10)) (by kernel_rfl) (fun h31 => ?_) (fun h31 => ?_)
   ·replace hs := of_if_t hs h31
    refine CP.exit ?_
    refine NX.block_o (by rfl) ?_
    refine NX.then_e ?_
    refine NX.block_o (by rfl) ?_
    refine NX.then_e ?_
    refine NX.then_e ?_
    refine NX.block_s ?_
    refine NX.post ?_
    exact ⟨⟨by kernel_rfl, by kernel_rfl⟩, tot, hR1, hs⟩
   replace hs := of_if_f hs h31
   refine CP.cut (fun tm g => ∃ (q5 : Bool), Fr 54 [(0, .slice a1 n1 c1), (5, .int .u64 x8), (6, .int .i64 x9), (7, .int .u8 (getI l1 x9)), (8, .slice a1 n1 c1), (9, .int .i64 (l1.length : Int)), (10, .int .i64 x9), (18, .bool q5)] tm ∧ Step (fun l => NoM l ∨ t ≤ l) g0 g ∧ RdS (Kd.int .u8) g 5 a1 n1 c1 l1 ∧ (F.octet_number.c2 (F.octet_number.l1 l1 k1) l1 x8 x9 q5) = some (o1, o2, o3)) ?_ ?_
   ·refine CP.region ?_
    refine WP.stl 3 ?_
    refine WP.guard 21 (b := decide ((getI l1 x9) < 128)) (by kernel_rfl) (fun h37 => ?_) (fun h37 => ?_)
    ·replace hs := of_if_t hs h37
     refine WP.stl 4 ?_
     refine WP.guard 25 (b := ((getI l1 x9) == 0)) (by kernel_rfl) (fun h38 => ?_) (fun h38 => ?_)
     ·replace hs := of_if_t hs h38
      refine WP.stl 4 ?_
      refine WP.dn ?_
      refine NX.post ?_
      exact ⟨decide (x9 > 0), ⟨by kernel_rfl, by kernel_rfl⟩, tot, hR1, hs⟩
     replace hs := of_if_f hs h38
     refine WP.stl 4 ?_
     refine WP.dn ?_
     refine NX.post ?_
     exact ⟨false, ⟨by kernel_rfl, by kernel_rfl⟩, tot, hR1, hs⟩
    replace hs := of_if_f hs h37
    refine WP.stl 8 ?_
    refine WP.dn ?_
    refine NX.post ?_
    exact ⟨false, ⟨by kernel_rfl, by kernel_rfl⟩, tot, hR1, hs⟩
   clear tot hs hR1
   rintro tm g ⟨q5, hF, tot, hR1, hs⟩
   clear ds
   obtain ⟨ds, rfl⟩ := hF.open
   clear hF
   unfold F.octet_number.c2 at hs
   refine CP.cond (b := q5) (by kernel_rfl) (fun h34 => ?_) (fun h34 => ?_)
   ·replace hs := of_if_t hs h34
    refine CP.seqR ?_
    refine WP.stl 3 ?_
    refine WP.dn ?_
    refine NX.then_n ?_
    refine CP.ret ?_
    refine NX.block_r ?_
    refine NX.then_r ?_
    refine NX.block_r ?_
    refine NX.then_r ?_
    refine NX.then_r ?_
    refine NX.block_r ?_
    refine NX.then_r ?_
    refine NX.scope_r ?_
    replace hs := Option.some.inj hs
    simp only [Prod.mk.injEq] at hs
    obtain ⟨rfl, rfl, rfl⟩ := hs
    exact NX.fin (v := .tuple #[.int .u64 0, .int .i64 0, .int .i64 3]) (Res.still (by kernel_rfl)) tot htL rfl
   replace hs := of_if_f hs h34
   refine CP.seqR ?_
   refine WP.stl 2 ?_
   replace hs := Option.bind_eq_some_iff.1 hs
   obtain ⟨x13, hk5, hs⟩ := hs
   have hcal5 := P.math_bits_Len8 g (bitAnd .u8 (getI l1 x9) 127) x13 hk5
   refine WP.callC hcal5 (by kernel_rfl) ?_
   rintro _ g5 st5 rfl
   replace hR1 := hR1.mono st5 (fun x => x)
   replace tot := tot.trans st5.pure
   refine WP.stl 5 ?_
   refine WP.dn ?_
   refine NX.then_n ?_
   refine CP.cond (b := decide ((IntKind.i64.wrap (x13 + (IntKind.i64.wrap (7 * x9)))) > 64)) (by kernel_rfl) (fun h35 => ?_) (fun h35 => ?_)
   ·replace hs := of_if_t hs h35
    refine CP.seqR ?_
    refine WP.stl 3 ?_
    refine WP.dn ?_
    refine NX.then_n ?_
    refine CP.ret ?_
    refine NX.block_r ?_
    refine NX.then_r ?_
    refine NX.block_r ?_
    refine NX.then_r ?_
    refine NX.then_r ?_
    refine NX.block_r ?_
    refine NX.then_r ?_
    refine NX.scope_r ?_
    replace hs := Option.some.inj hs
    simp only [Prod.mk.injEq] at hs
    obtain ⟨rfl, rfl, rfl⟩ := hs
    exact NX.fin (v := .tuple #[.int .u64 0, .int .i64 0, .int .i64 3]) (Res.still (by kernel_rfl)) tot htL rfl
   replace hs := of_if_f hs h35
   refine CP.skip ?_
   refine NX.block_n ?_
   refine NX.then_n ?_
   refine CP.seqR ?_
   refine WP.stl 6 ?_
   by_cases hc10 : (0 : Int) ≤ (IntKind.i64.wrap (7 * x9))
   case neg => rw [if_neg hc10] at hs; cases hs
   replace hs := of_if_p hs hc10
   refine WP.shift (left := true) (k := .u64) (yk := .i64) (x := (IntKind.u64.wrap (bitAnd .u8 (getI l1 x9) 127))) (y := (IntKind.i64.wrap (7 * x9))) (by kernel_rfl) hc10 ?_
   refine WP.stl 2 ?_
   refine WP.dn ?_
   refine NX.then_n ?_
   refine CP.refr 54 [(0, .slice a1 n1 c1), (5, .int .u64 (bitOr .u64 x8 (shV true .u64 (IntKind.u64.wrap (bitAnd .u8 (getI l1 x9) 127)) (IntKind.i64.wrap (7 * x9))))), (6, .int .i64 x9), (7, .int .u8 (getI l1 x9)), (8, .slice a1 n1 c1), (9, .int .i64 (l1.length : Int)), (10, .int .i64 x9)] (by kernel_rfl) (by kernel_rfl) ?_
   clear ds
   intro ds
   refine CP.seqR ?_
   refine WP.stl 2 ?_
   refine WP.dn ?_
   refine NX.then_n ?_
   refine CP.cond (b := decide ((getI l1 x9) < 128)) (by kernel_rfl) (fun h36 => ?_) (fun h36 => ?_)
   ·replace hs := of_if_t hs h36
    refine CP.seqR ?_
    refine WP.stl 6 ?_
    refine WP.dn ?_
    refine NX.then_n ?_
    refine CP.ret ?_
    refine NX.block_r ?_
    refine NX.then_r ?_
    refine NX.then_r ?_
    refine NX.block_r ?_
    refine NX.then_r ?_
    refine NX.scope_r ?_
    replace hs := Option.some.inj hs
    simp only [Prod.mk.injEq] at hs
    obtain ⟨rfl, rfl, rfl⟩ := hs
    exact NX.fin (v := .tuple #[.int .u64 (bitOr .u64 x8 (shV true .u64 (IntKind.u64.wrap (bitAnd .u8 (getI l1 x9) 127)) (IntKind.i64.wrap (7 * x9)))), .int .i64 (IntKind.i64.wrap (x9 + 1)), .int .i64 0]) (Res.still (by kernel_rfl)) tot htL rfl
   replace hs := of_if_f hs h36
   refine CP.skip ?_
   refine NX.block_n ?_
   refine NX.then_n ?_
   refine CP.region ?_
   refine WP.stl 2 ?_
   refine WP.dn ?_
   refine NX.post ?_
   exact ⟨(bitOr .u64 x8 (shV true .u64 (IntKind.u64.wrap (bitAnd .u8 (getI l1 x9) 127)) (IntKind.i64.wrap (7 * x9)))), (IntKind.i64.wrap (x9 + 1)), ⟨by kernel_rfl, by kernel_rfl⟩, tot, hR1, hs⟩
  replace hs := of_if_f hs h30
  refine CP.exit ?_
  refine NX.then_e ?_
  refine NX.then_e ?_
  refine NX.block_s ?_
  refine NX.post ?_
  exact ⟨⟨by kernel_rfl, by kernel_rfl⟩, tot, hR1, hs⟩
 clear tot hs hR1
 rintro tm g ⟨hF, tot, hR1, hs⟩
 clear ds
 obtain ⟨ds, rfl⟩ := hF.open
 clear hF
 unfold F.octet_number.c1 at hs
 refine CP.seq ?_
 refine CP.seqR ?_
 refine WP.stl 1 ?_
 refine WP.len (a := a1) (cp := c1) hR1.len (by kernel_rfl) ?_
 refine WP.stl 1 ?_
 refine WP.dn ?_
 refine NX.then_n ?_
 refine CP.cond (b := decide ((l1.length : Int) < 10)) (by kernel_rfl) (fun h15 => ?_) (fun h15 => ?_)
 ·replace hs := of_if_t hs h15
  refine CP.seqR ?_
  refine WP.stl 3 ?_
  refine WP.dn ?_
  refine NX.then_n ?_
  refine CP.ret ?_
  refine NX.then_r ?_
  refine NX.scope_r ?_
  replace hs := Option.some.inj hs
  simp only [Prod.mk.injEq] at hs
  obtain ⟨rfl, rfl, rfl⟩ := hs
  exact NX.fin (v := .tuple #[.int .u64 0, .int .i64 0, .int .i64 4]) (Res.still (by kernel_rfl)) tot htL rfl
 replace hs := of_if_f hs h15
 refine CP.skip ?_
 refine NX.then_n ?_
 refine CP.seqR ?_
 refine WP.stl 3 ?_
 refine WP.dn ?_
 refine NX.then_n ?_
 refine CP.ret ?_
 refine NX.scope_r ?_
 replace hs := Option.some.inj hs
 simp only [Prod.mk.injEq] at hs
 obtain ⟨rfl, rfl, rfl⟩ := hs
 exact NX.fin (v := .tuple #[.int .u64 0, .int .i64 0, .int .i64 3]) (Res.still (by kernel_rfl)) tot htL rfl
def F.octet_Reader_Num_1.c1 (x3 : Int) (x4 : Int) (x6 : Int) : Option (Int × Int × Int) := (some (x4, x6, x3))
def F.octet_Reader_Num_1.c2 (x3 : Int) (x4 : Int) (x5 : Int) (q2 : Bool) : Option (Int × Int × Int) := (if q2 = true then (F.octet_Reader_Num_1.c1 x3 x4 2) else (F.octet_Reader_Num_1.c1 x3 x4 x5))
def F.octet_Reader_Num_1 (l1 : List Int) (x1 : Int) (x2 : Int) : Option (Int × Int × Int) := ((F.octet_number l1).bind fun (x3, x4, x5) => (if (x5 == 0) = true then (F.octet_Reader_Num_1.c2 x3 x4 x5 (decide (x3 > x1))) else (F.octet_Reader_Num_1.c2 x3 x4 x5 false)))
theorem P.octet_Reader_Num_1 (g0 : GW) (m0 : Nat) (m1 : Nat) (l1 : List Int) (x1 : Int) (x2 : Int) (a1 : Option Addr) (n1 : Nat) (c1 : Nat) (b1 : Nat) (b2 : Nat) (hR1 : RdS (Kd.int .u8) g0 5 a1 n1 c1 l1) (hB1 : Box g0 m0 b1 95 [[.int .u64 x1]] [1]) (hB2 : Box g0 m1 b2 95 [[.int .u64 x2]] [1]) (hm1_0 : m1 ≠ m0) (hm0 : m0 ≠ 0) (hm1 : m1 ≠ 0) (o1 : Int) (o2 : Int) (o3 : Int) (hs : F.octet_Reader_Num_1 l1 x1 x2 = some (o1, o2, o3)) :
  Calls Try.prog 71 #[.slice a1 n1 c1, .pointer (some ⟨b1, 0, none⟩), .pointer (some ⟨b2, 0, none⟩)] g0.w (Ret (WL [m1]) g0 fun v g => v = .tuple #[.int .i64 o1, .int .i64 o2] ∧ Box g m1 b2 95 [[.int .u64 o3]] [1]) := by
 refine calls_of (args := [.slice a1 n1 c1, .pointer (some ⟨b1, 0, none⟩), .pointer (some ⟨b2, 0, none⟩)]) Try.func71 rfl (m0 + m1 + 0) ?_
 intro t ht htL
 refine ⟨_, rfl, ?_⟩
 refine CP.refr 25 [(0, .slice a1 n1 c1), (1, .pointer (some ⟨b1, 0, none⟩)), (2, .pointer (some ⟨b2, 0, none⟩))] (by kernel_rfl) (by kernel_rfl) ?_
 intro ds
 have tot : Step (fun l => (WL [m1]) l ∨ t ≤ l) g0 g0 := Step.refl _ _
 unfold F.octet_Reader_Num_1 at hs
 refine CP.seqR ?_
 refine WP.stl 2 ?_
 refine WP.dn ?_
 refine NX.then_n ?_
 refine CP.seqR ?_
 refine WP.stl 1 ?_
 replace hs := Option.bind_eq_some_iff.1 hs
 obtain ⟨⟨x3, x4, x5⟩, hk1, hs⟩ := hs
 dsimp only at hs
 have hcal1 := P.octet_number g0 l1 a1 n1 c1 hR1 x3 x4 x5 hk1
 refine WP.callC hcal1 (by kernel_rfl) ?_
 rintro _ g1 st1 rfl
 replace hR1 := hR1.mono st1 (fun x => x)
 replace hB1 := hB1.mono st1 (fun x => x)
 replace hB2 := hB2.mono st1 (fun x => x)
 replace tot := tot.trans st1.pure
 refine WP.stl 7 ?_
 refine WP.dn ?_
 refine NX.then_n ?_
 refine CP.cut (fun tm g => ∃ (x6 : Int), Fr 25 [(2, .pointer (some ⟨b2, 0, none⟩)), (6, .int .u64 x3), (7, .int .i64 x4), (8, .int .i64 x6)] tm ∧ Step (fun l => (WL [m1]) l ∨ t ≤ l) g0 g ∧ Box g m1 b2 95 [[.int .u64 x2]] [1] ∧ (F.octet_Reader_Num_1.c1 x3 x4 x6) = some (o1, o2, o3)) ?_ ?_
 ·refine CP.cut (fun tm g => ∃ (q2 : Bool), Fr 25 [(2, .pointer (some ⟨b2, 0, none⟩)), (6, .int .u64 x3), (7, .int .i64 x4), (8, .int .i64 x5), (21, .bool q2)] tm ∧ Step (fun l => (WL [m1]) l ∨ t ≤ l) g0 g ∧ Box g m1 b2 95 [[.int .u64 x2]] [1] ∧ (F.octet_Reader_Num_1.c2 x3 x4 x5 q2) = some (o1, o2, o3)) ?_ ?_
  ·refine CP.region ?_
   refine WP.stl 3 ?_
   refine WP.guard 17 (b := (x5 == 0)) (by kernel_rfl) (fun h5 => ?_) (fun h5 => ?_)
   ·replace hs := of_if_t hs h5
    refine WP.stl 1 ?_
    refine WP.loadB (v := .int .u64 x1) hB1 (by kernel_rfl) (by kernel_rfl) ?_
    refine WP.stl 2 ?_
    refine WP.dn ?_
    refine NX.post ?_
    exact ⟨decide (x3 > x1), ⟨by kernel_rfl, by kernel_rfl⟩, tot, hB2, hs⟩
   replace hs := of_if_f hs h5
   refine WP.stl 4 ?_
   refine WP.dn ?_
   refine NX.post ?_
   exact ⟨false, ⟨by kernel_rfl, by kernel_rfl⟩, tot, hB2, hs⟩
  clear tot hs hB1 hB2
  rintro tm g ⟨q2, hF, tot, hB2, hs⟩
  clear ds
  obtain ⟨ds, rfl⟩ := hF.open
  clear hF
  unfold F.octet_Reader_Num_1.c2 at hs
  refine CP.cond (b := q2) (by kernel_rfl) (fun h4 => ?_) (fun h4 => ?_)
  ·replace hs := of_if_t hs h4
   refine CP.region ?_
   refine WP.stl 1 ?_
   refine WP.dn ?_
   refine NX.post ?_
   exact ⟨2, ⟨by kernel_rfl, by kernel_rfl⟩, tot, hB2, hs⟩
  replace hs := of_if_f hs h4
  refine CP.skip ?_
  refine NX.post ?_
  exact ⟨x5, ⟨by kernel_rfl, by kernel_rfl⟩, tot, hB2, hs⟩
 clear tot hs hB1 hB2
 rintro tm g ⟨x6, hF, tot, hB2, hs⟩
 clear ds
 obtain ⟨ds, rfl⟩ := hF.open
 clear hF
 unfold F.octet_Reader_Num_1.c1 at hs
 refine CP.seqR ?_
 refine WP.stl 1 ?_
 refine WP.storeB (ty := 95) (off := 0) (v := .int .u64 x3) hB2 [[.int .u64 x3]] [1] (by kernel_rfl) (by kernel_rfl) rfl (by kernel_rfl) [[.int .u64 x3]] (by kernel_rfl) (.one rfl .nil) ?_
 intro g2 st2 hB3
 replace tot := tot.trans (st2.up1 (.inl (by simp [WL])))
 clear hB2
 have hB2 := hB3
 clear hB3
 refine WP.dn ?_
 refine NX.then_n ?_
 refine CP.seqR ?_
 refine WP.stl 4 ?_
 refine WP.dn ?_
 refine NX.then_n ?_
 refine CP.ret ?_
 replace hs := Option.some.inj hs
 simp only [Prod.mk.injEq] at hs
 obtain ⟨rfl, rfl, rfl⟩ := hs
 exact NX.fin (v := .tuple #[.int .i64 x4, .int .i64 x6]) (Res.still (by kernel_rfl)) tot htL ⟨rfl, hB2⟩
def F.octet_Reader_read (l1 : List Int) (x1 : Int) (x2 : Int) (x3 : Int) : Option (Bool × (List Int) × Int × Int) := (if (x1 != 0) = true then (some (false, l1, x1, x3)) else ((F.octet_Reader_Num_1 l1 x2 x3).bind fun (x4, x5, x6) => (if (x5 != 0) = true then (some (false, l1, x5, x6)) else (if (0 : Int) ≤ x4 ∧ x4 ≤ (l1.length : Int) ∧ (l1.length : Int) ≤ (l1.length : Int) then (some (true, (sliceI l1 x4 (l1.length : Int)), x1, x6)) else none))))
theorem P.octet_Reader_read (g0 : GW) (m0 : Nat) (m1 : Nat) (m2 : Nat) (l1 : List Int) (x1 : Int) (x2 : Int) (x3 : Int) (a1 : Option Addr) (n1 : Nat) (c1 : Nat) (b1 : Nat) (b2 : Nat) (b3 : Nat) (hR1 : RdS (Kd.int .u8) g0 5 a1 n1 c1 l1) (hB1 : Box g0 m0 b1 138 [[.slice a1 n1 c1], [.int .i64 x1]] [1, 1]) (hB2 : Box g0 m1 b2 95 [[.int .u64 x2]] [1]) (hB3 : Box g0 m2 b3 95 [[.int .u64 x3]] [1]) (hm1_0 : m1 ≠ m0) (hm2_0 : m2 ≠ m0) (hm2_1 : m2 ≠ m1) (hm0 : m0 ≠ 0) (hm1 : m1 ≠ 0) (hm2 : m2 ≠ 0) (o1 : Bool) (o2 : (List Int)) (o3 : Int) (o4 : Int) (hs : F.octet_Reader_read l1 x1 x2 x3 = some (o1, o2, o3, o4)) :
  Calls Try.prog 70 #[.pointer (some ⟨b1, 0, none⟩), .func (.func 71) #[] #[.pointer (some ⟨b2, 0, none⟩), .pointer (some ⟨b3, 0, none⟩)]] g0.w (Ret (WL [m0, m2]) g0 fun v g => ∃ (a_1 : Option Addr) (n_1 : Nat) (c_1 : Nat), v = .bool o1 ∧ RdS (Kd.int .u8) g 5 a_1 n_1 c_1 o2 ∧ Box g m0 b1 138 [[.slice a_1 n_1 c_1], [.int .i64 o3]] [1, 1] ∧ Box g m2 b3 95 [[.int .u64 o4]] [1]) := by
 refine calls_of (args := [.pointer (some ⟨b1, 0, none⟩), .func (.func 71) #[] #[.pointer (some ⟨b2, 0, none⟩), .pointer (some ⟨b3, 0, none⟩)]]) Try.func70 rfl (m0 + m1 + m2 + 0) ?_
 intro t ht htL
 refine ⟨_, rfl, ?_⟩
 refine CP.refr 40 [(0, .pointer (some ⟨b1, 0, none⟩)), (1, .func (.func 71) #[] #[.pointer (some ⟨b2, 0, none⟩), .pointer (some ⟨b3, 0, none⟩)])] (by kernel_rfl) (by kernel_rfl) ?_
 intro ds
 have tot : Step (fun l => (WL [m0, m2]) l ∨ t ≤ l) g0 g0 := Step.refl _ _
 unfold F.octet_Reader_read at hs
 refine CP.seqR ?_
 refine WP.stl 1 ?_
 refine WP.dn ?_
 refine NX.then_n ?_
 refine CP.seq ?_
 refine CP.seq ?_
 refine CP.region ?_
 refine WP.stl 6 ?_
 refine WP.loadB (v := .int .i64 x1) hB1 (by kernel_rfl) (by kernel_rfl) ?_
 refine WP.stl 2 ?_
 refine WP.dn ?_
 refine NX.then_n ?_
 refine CP.cond (b := (x1 != 0)) (by kernel_rfl) (fun h1 => ?_) (fun h1 => ?_)
 ·replace hs := of_if_t hs h1
  refine CP.seqR ?_
  refine WP.stl 1 ?_
  refine WP.dn ?_
  refine NX.then_n ?_
  refine CP.ret ?_
  refine NX.then_r ?_
  replace hs := Option.some.inj hs
  simp only [Prod.mk.injEq] at hs
  obtain ⟨rfl, rfl, rfl, rfl⟩ := hs
  exact NX.fin (v := .bool false) (Res.still (by kernel_rfl)) tot htL ⟨a1, n1, c1, rfl, hR1, hB1, hB3⟩
 replace hs := of_if_f hs h1
 refine CP.skip ?_
 refine NX.then_n ?_
 refine CP.seqR ?_
 refine WP.stl 4 ?_
 refine WP.loadB (v := .slice a1 n1 c1) hB1 (by kernel_rfl) (by kernel_rfl) ?_
 replace hs := Option.bind_eq_some_iff.1 hs
 obtain ⟨⟨x4, x5, x6⟩, hk1, hs⟩ := hs
 dsimp only at hs
 have hcal1 := P.octet_Reader_Num_1 g0 m1 m2 l1 x2 x3 a1 n1 c1 b2 b3 hR1 hB2 hB3 (by omega) (by omega) (by omega) x4 x5 x6 hk1
 refine WP.callC hcal1 (by kernel_rfl) ?_
 rintro _ g1 st1 ⟨rfl, hB4⟩
 replace hB1 := hB1.mono st1 (WL.no1 (by omega))
 replace hR1 := hR1.mono st1 (WL.no1 (by omega))
 replace hB2 := hB2.mono st1 (WL.no1 (by omega))
 replace tot := tot.trans (st1.up1 (.inl (by simp [WL])))
 clear hB3
 have hB3 := hB4
 clear hB4
 refine WP.stl 5 ?_
 refine WP.dn ?_
 refine NX.then_n ?_
 refine CP.refr 40 [(0, .pointer (some ⟨b1, 0, none⟩)), (5, .int .i64 x4), (6, .int .i64 x5)] (by kernel_rfl) (by kernel_rfl) ?_
 clear ds
 intro ds
 refine CP.seq ?_
 refine CP.seqR ?_
 refine WP.stl 2 ?_
 refine WP.dn ?_
 refine NX.then_n ?_
 refine CP.cond (b := (x5 != 0)) (by kernel_rfl) (fun h2 => ?_) (fun h2 => ?_)
 ·replace hs := of_if_t hs h2
  refine CP.seqR ?_
  refine WP.stl 4 ?_
  refine WP.storeB (ty := 25) (off := 1) (v := .int .i64 x5) hB1 [[.int .i64 x5]] [1] (by kernel_rfl) (by kernel_rfl) rfl (by kernel_rfl) [[.slice a1 n1 c1], [.int .i64 x5]] (by kernel_rfl) (.one rfl .nil) ?_
  intro g2 st2 hB5
  replace hR1 := hR1.mono st2 (WL.no1 (by omega))
  replace hB3 := hB3.mono st2 (WL.no1 (by omega))
  replace tot := tot.trans (st2.up1 (.inl (by simp [WL])))
  clear hB1
  have hB1 := hB5
  clear hB5
  refine WP.dn ?_
  refine NX.then_n ?_
  refine CP.seqR ?_
  refine WP.stl 1 ?_
  refine WP.dn ?_
  refine NX.then_n ?_
  refine CP.ret ?_
  refine NX.then_r ?_
  replace hs := Option.some.inj hs
  simp only [Prod.mk.injEq] at hs
  obtain ⟨rfl, rfl, rfl, rfl⟩ := hs
  exact NX.fin (v := .bool false) (Res.still (by kernel_rfl)) tot htL ⟨a1, n1, c1, rfl, hR1, hB1, hB3⟩
 replace hs := of_if_f hs h2
 refine CP.skip ?_
 refine NX.then_n ?_
 refine CP.seqR ?_
 refine WP.stl 4 ?_
 refine WP.loadB (v := .slice a1 n1 c1) hB1 (by kernel_rfl) (by kernel_rfl) ?_
 refine WP.stl 1 ?_
 by_cases hc1 : (0 : Int) ≤ x4 ∧ x4 ≤ (l1.length : Int) ∧ (l1.length : Int) ≤ (l1.length : Int)
 case neg => rw [if_neg hc1] at hs; cases hs
 replace hs := of_if_p hs hc1
 refine WP.sliceR (lo := some (.int .i64 x4)) (hi := none) hR1 x4 (l1.length : Int) (by kernel_rfl) (.inr ⟨_, rfl⟩) (.inl ⟨rfl, rfl⟩) hc1 ?_
 intro a2 c2 hR2
 refine WP.stl 2 ?_
 refine WP.storeB (ty := 33) (off := 0) (v := .slice a2 ((l1.length : Int).toNat - x4.toNat) c2) hB1 [[.slice a2 ((l1.length : Int).toNat - x4.toNat) c2]] [1] (by kernel_rfl) (by kernel_rfl) rfl (by kernel_rfl) [[.slice a2 ((l1.length : Int).toNat - x4.toNat) c2], [.int .i64 x1]] (by kernel_rfl) (.one rfl .nil) ?_
 intro g3 st3 hB6
 replace hR2 := hR2.mono st3 (WL.no1 (by omega))
 replace hB3 := hB3.mono st3 (WL.no1 (by omega))
 replace hR1 := hR1.mono st3 (WL.no1 (by omega))
 replace tot := tot.trans (st3.up1 (.inl (by simp [WL])))
 clear hB1
 have hB1 := hB6
 clear hB6
 refine WP.dn ?_
 refine NX.then_n ?_
 refine CP.seqR ?_
 refine WP.stl 1 ?_
 refine WP.dn ?_
 refine NX.then_n ?_
 refine CP.refr 40 [(4, .bool true)] (by kernel_rfl) (by kernel_rfl) ?_
 clear ds
 intro ds
 refine CP.ret ?_
 replace hs := Option.some.inj hs
 simp only [Prod.mk.injEq] at hs
 obtain ⟨rfl, rfl, rfl, rfl⟩ := hs
 exact NX.fin (v := .bool true) (Res.still (by kernel_rfl)) tot htL ⟨a2, ((l1.length : Int).toNat - x4.toNat), c2, rfl, hR2, hB1, hB3⟩
def F.octet_Reader_Num (l1 : List Int) (x1 : Int) (x2 : Int) : Option (Int × (List Int) × Int) := ((F.octet_Reader_read l1 x1 x2 0).bind fun (q1, d1, x3, x4) => (if (!q1) = true then (some (0, d1, x3)) else (some (x4, d1, x3))))
theorem P.octet_Reader_Num (g0 : GW) (m0 : Nat) (l1 : List Int) (x1 : Int) (x2 : Int) (a1 : Option Addr) (n1 : Nat) (c1 : Nat) (b1 : Nat) (hR1 : RdS (Kd.int .u8) g0 5 a1 n1 c1 l1) (hB1 : Box g0 m0 b1 138 [[.slice a1 n1 c1], [.int .i64 x1]] [1, 1]) (hm0 : m0 ≠ 0) (o1 : Int) (o2 : (List Int)) (o3 : Int) (hs : F.octet_Reader_Num l1 x1 x2 = some (o1, o2, o3)) :
  Calls Try.prog 46 #[.pointer (some ⟨b1, 0, none⟩), .int .u64 x2] g0.w (Ret (WL [m0]) g0 fun v g => ∃ (a_1 : Option Addr) (n_1 : Nat) (c_1 : Nat), v = .int .u64 o1 ∧ RdS (Kd.int .u8) g 5 a_1 n_1 c_1 o2 ∧ Box g m0 b1 138 [[.slice a_1 n_1 c_1], [.int .i64 o3]] [1, 1]) := by
 refine calls_of (args := [.pointer (some ⟨b1, 0, none⟩), .int .u64 x2]) Try.func46 rfl (m0 + 0) ?_
 intro t ht htL
 refine ⟨_, rfl, ?_⟩
 refine CP.refr 13 [(0, .pointer (some ⟨b1, 0, none⟩)), (1, .int .u64 x2)] (by kernel_rfl) (by kernel_rfl) ?_
 intro ds
 have tot : Step (fun l => (WL [m0]) l ∨ t ≤ l) g0 g0 := Step.refl _ _
 unfold F.octet_Reader_Num at hs
 refine CP.seqR ?_
 refine WP.alloc (T := 95) (t + 1) [[.int .u64 x2]] [1] (by kernel_rfl) rfl ?_
 intro g1 b2 st1 hB2
 replace hB1 := hB1.mono st1 (fun x => x)
 replace hR1 := hR1.mono st1 (fun x => x)
 replace tot := tot.trans st1.pure
 refine WP.stl 1 ?_
 refine WP.dn ?_
 refine NX.then_n ?_
 refine CP.seqR ?_
 refine WP.alloc (T := 95) (t + 2) [[.int .u64 0]] [1] (by kernel_rfl) rfl ?_
 intro g2 b3 st2 hB3
 replace hB1 := hB1.mono st2 (fun x => x)
 replace hR1 := hR1.mono st2 (fun x => x)
 replace hB2 := hB2.mono st2 (fun x => x)
 replace tot := tot.trans st2.pure
 refine WP.dn ?_
 refine NX.then_n ?_
 refine CP.seqR ?_
 refine WP.stl 2 ?_
 replace hs := Option.bind_eq_some_iff.1 hs
 obtain ⟨⟨q1, d1, x3, x4⟩, hk1, hs⟩ := hs
 dsimp only at hs
 have hcal1 := P.octet_Reader_read g2 m0 (t + 1) (t + 2) l1 x1 x2 0 a1 n1 c1 b1 b2 b3 hR1 hB1 hB2 hB3 (by omega) (by omega) (by omega) (by omega) (by omega) (by omega) q1 d1 x3 x4 hk1
 refine WP.callC hcal1 (by kernel_rfl) ?_
 rintro _ g3 st3 ⟨a2, n2, c2, rfl, hR2, hB4, hB5⟩
 replace hB2 := hB2.mono st3 (WL.no2 (by omega) (by omega))
 replace tot := tot.trans (st3.up2 (.inl (by simp [WL])) (.inr (by omega)))
 clear hB1
 have hB1 := hB4
 clear hB4
 clear hB3
 have hB3 := hB5
 clear hB5
 refine WP.stl 1 ?_
 refine WP.dn ?_
 refine NX.then_n ?_
 refine CP.seq ?_
 refine CP.seqR ?_
 refine WP.stl 2 ?_
 refine WP.dn ?_
 refine NX.then_n ?_
 refine CP.cond (b := (!q1)) (by kernel_rfl) (fun h1 => ?_) (fun h1 => ?_)
 ·replace hs := of_if_t hs h1
  refine CP.seqR ?_
  refine WP.stl 1 ?_
  refine WP.dn ?_
  refine NX.then_n ?_
  refine CP.ret ?_
  refine NX.then_r ?_
  replace hs := Option.some.inj hs
  simp only [Prod.mk.injEq] at hs
  obtain ⟨rfl, rfl, rfl⟩ := hs
  exact NX.fin (v := .int .u64 0) (Res.still (by kernel_rfl)) tot htL ⟨a2, n2, c2, rfl, hR2, hB1⟩
 replace hs := of_if_f hs h1
 refine CP.skip ?_
 refine NX.then_n ?_
 refine CP.seqR ?_
 refine WP.loadB (v := .int .u64 x4) hB3 (by kernel_rfl) (by kernel_rfl) ?_
 refine WP.stl 1 ?_
 refine WP.dn ?_
 refine NX.then_n ?_
 refine CP.ret ?_
 replace hs := Option.some.inj hs
 simp only [Prod.mk.injEq] at hs
 obtain ⟨rfl, rfl, rfl⟩ := hs
 exact NX.fin (v := .int .u64 x4) (Res.still (by kernel_rfl)) tot htL ⟨a2, n2, c2, rfl, hR2, hB1⟩
def F.octet_Reader_Bytes_1 (l1 : List Int) (x1 : Int) (l2 : List Int) : Option (Int × Int × (List Int)) := ((F.octet_number l1).bind fun (x2, x3, x4) => (if (x4 != 0) = true then (some (0, x4, l2)) else (if decide (x2 > (IntKind.u64.wrap (imax x1 0))) = true then (some (0, 2, l2)) else (if decide (x2 > (IntKind.u64.wrap (IntKind.i64.wrap ((l1.length : Int) - x3)))) = true then (some (0, 4, l2)) else (if (0 : Int) ≤ x3 ∧ x3 ≤ (IntKind.i64.wrap (x3 + (IntKind.i64.wrap x2))) ∧ (IntKind.i64.wrap (x3 + (IntKind.i64.wrap x2))) ≤ (l1.length : Int) then ((F.slices_Clone_byte_byte (sliceI l1 x3 (IntKind.i64.wrap (x3 + (IntKind.i64.wrap x2))))).bind fun l3 => (some ((IntKind.i64.wrap (x3 + (IntKind.i64.wrap x2))), 0, l3))) else none)))))
theorem P.octet_Reader_Bytes_1 (g0 : GW) (m0 : Nat) (m1 : Nat) (l1 : List Int) (x1 : Int) (l2 : List Int) (a1 : Option Addr) (n1 : Nat) (c1 : Nat) (a2 : Option Addr) (n2 : Nat) (c2 : Nat) (b1 : Nat) (b2 : Nat) (hR1 : RdS (Kd.int .u8) g0 5 a1 n1 c1 l1) (hR2 : RdS (Kd.int .u8) g0 5 a2 n2 c2 l2) (hB1 : Box g0 m0 b1 3 [[.int .i64 x1]] [1]) (hB2 : Box g0 m1 b2 33 [[.slice a2 n2 c2]] [1]) (hm1_0 : m1 ≠ m0) (hm0 : m0 ≠ 0) (hm1 : m1 ≠ 0) (o1 : Int) (o2 : Int) (o3 : (List Int)) (hs : F.octet_Reader_Bytes_1 l1 x1 l2 = some (o1, o2, o3)) :
  Calls Try.prog 74 #[.slice a1 n1 c1, .pointer (some ⟨b1, 0, none⟩), .pointer (some ⟨b2, 0, none⟩)] g0.w (Ret (WL [m1]) g0 fun v g => ∃ (a_1 : Option Addr) (n_1 : Nat) (c_1 : Nat), v = .tuple #[.int .i64 o1, .int .i64 o2] ∧ RdS (Kd.int .u8) g 5 a_1 n_1 c_1 o3 ∧ Box g m1 b2 33 [[.slice a_1 n_1 c_1]] [1]) := by
 refine calls_of (args := [.slice a1 n1 c1, .pointer (some ⟨b1, 0, none⟩), .pointer (some ⟨b2, 0, none⟩)]) Try.func74 rfl (m0 + m1 + 0) ?_
 intro t ht htL
 refine ⟨_, rfl, ?_⟩
 refine CP.refr 44 [(0, .slice a1 n1 c1), (1, .pointer (some ⟨b1, 0, none⟩)), (2, .pointer (some ⟨b2, 0, none⟩))] (by kernel_rfl) (by kernel_rfl) ?_
 intro ds
 have tot : Step (fun l => (WL [m1]) l ∨ t ≤ l) g0 g0 := Step.refl _ _
 unfold F.octet_Reader_Bytes_1 at hs
 refine CP.seqR ?_
 refine WP.stl 2 ?_
 refine WP.dn ?_
 refine NX.then_n ?_
 refine CP.seqR ?_
 refine WP.stl 1 ?_
 replace hs := Option.bind_eq_some_iff.1 hs
 obtain ⟨⟨x2, x3, x4⟩, hk1, hs⟩ := hs
 dsimp only at hs
 have hcal1 := P.octet_number g0 l1 a1 n1 c1 hR1 x2 x3 x4 hk1
 refine WP.callC hcal1 (by kernel_rfl) ?_
 rintro _ g1 st1 rfl
 replace hR1 := hR1.mono st1 (fun x => x)
 replace hB1 := hB1.mono st1 (fun x => x)
 replace hB2 := hB2.mono st1 (fun x => x)
 replace hR2 := hR2.mono st1 (fun x => x)
 replace tot := tot.trans st1.pure
 refine WP.stl 7 ?_
 refine WP.dn ?_
 refine NX.then_n ?_
 refine CP.seq ?_
 refine CP.block ?_
 refine CP.seqR ?_
 refine WP.stl 3 ?_
 refine WP.dn ?_
 refine NX.then_n ?_
 refine CP.refr 44 [(0, .slice a1 n1 c1), (1, .pointer (some ⟨b1, 0, none⟩)), (2, .pointer (some ⟨b2, 0, none⟩)), (6, .int .u64 x2), (7, .int .i64 x3), (8, .int .i64 x4), (16, .bool (x4 != 0))] (by kernel_rfl) (by kernel_rfl) ?_
 clear ds
 intro ds
 refine CP.cond (b := (x4 != 0)) (by kernel_rfl) (fun h1 => ?_) (fun h1 => ?_)
 ·replace hs := of_if_t hs h1
  refine CP.seqR ?_
  refine WP.stl 3 ?_
  refine WP.dn ?_
  refine NX.then_n ?_
  refine CP.ret ?_
  refine NX.block_r ?_
  refine NX.then_r ?_
  replace hs := Option.some.inj hs
  simp only [Prod.mk.injEq] at hs
  obtain ⟨rfl, rfl, rfl⟩ := hs
  exact NX.fin (v := .tuple #[.int .i64 0, .int .i64 x4]) (Res.still (by kernel_rfl)) tot htL ⟨a2, n2, c2, rfl, hR2, hB2⟩
 replace hs := of_if_f hs h1
 refine CP.seqR ?_
 refine WP.stl 1 ?_
 refine WP.loadB (v := .int .i64 x1) hB1 (by kernel_rfl) (by kernel_rfl) ?_
 refine WP.stl 4 ?_
 refine WP.dn ?_
 refine NX.then_n ?_
 refine CP.cond (b := decide (x2 > (IntKind.u64.wrap (imax x1 0)))) (by kernel_rfl) (fun h2 => ?_) (fun h2 => ?_)
 ·replace hs := of_if_t hs h2
  refine CP.seqR ?_
  refine WP.stl 2 ?_
  refine WP.dn ?_
  refine NX.then_n ?_
  refine CP.ret ?_
  refine NX.block_r ?_
  refine NX.then_r ?_
  replace hs := Option.some.inj hs
  simp only [Prod.mk.injEq] at hs
  obtain ⟨rfl, rfl, rfl⟩ := hs
  exact NX.fin (v := .tuple #[.int .i64 0, .int .i64 2]) (Res.still (by kernel_rfl)) tot htL ⟨a2, n2, c2, rfl, hR2, hB2⟩
 replace hs := of_if_f hs h2
 refine CP.seqR ?_
 refine WP.stl 2 ?_
 refine WP.len (a := a1) (cp := c1) hR1.len (by kernel_rfl) ?_
 refine WP.stl 5 ?_
 refine WP.dn ?_
 refine NX.then_n ?_
 refine CP.refr 44 [(0, .slice a1 n1 c1), (2, .pointer (some ⟨b2, 0, none⟩)), (6, .int .u64 x2), (7, .int .i64 x3), (26, .bool (decide (x2 > (IntKind.u64.wrap (IntKind.i64.wrap ((l1.length : Int) - x3))))))] (by kernel_rfl) (by kernel_rfl) ?_
 clear ds
 intro ds
 refine CP.cond (b := decide (x2 > (IntKind.u64.wrap (IntKind.i64.wrap ((l1.length : Int) - x3))))) (by kernel_rfl) (fun h3 => ?_) (fun h3 => ?_)
 ·replace hs := of_if_t hs h3
  refine CP.seqR ?_
  refine WP.stl 2 ?_
  refine WP.dn ?_
  refine NX.then_n ?_
  refine CP.ret ?_
  refine NX.block_r ?_
  refine NX.then_r ?_
  replace hs := Option.some.inj hs
  simp only [Prod.mk.injEq] at hs
  obtain ⟨rfl, rfl, rfl⟩ := hs
  exact NX.fin (v := .tuple #[.int .i64 0, .int .i64 4]) (Res.still (by kernel_rfl)) tot htL ⟨a2, n2, c2, rfl, hR2, hB2⟩
 replace hs := of_if_f hs h3
 refine CP.skip ?_
 refine NX.block_n ?_
 refine NX.then_n ?_
 refine CP.seqR ?_
 refine WP.stl 5 ?_
 refine WP.dn ?_
 refine NX.then_n ?_
 refine CP.seqR ?_
 refine WP.stl 3 ?_
 by_cases hc1 : (0 : Int) ≤ x3 ∧ x3 ≤ (IntKind.i64.wrap (x3 + (IntKind.i64.wrap x2))) ∧ (IntKind.i64.wrap (x3 + (IntKind.i64.wrap x2))) ≤ (l1.length : Int)
 case neg => rw [if_neg hc1] at hs; cases hs
 replace hs := of_if_p hs hc1
 refine WP.sliceR (lo := some (.int .i64 x3)) (hi := some (.int .i64 (IntKind.i64.wrap (x3 + (IntKind.i64.wrap x2))))) hR1 x3 (IntKind.i64.wrap (x3 + (IntKind.i64.wrap x2))) (by kernel_rfl) (.inr ⟨_, rfl⟩) (.inr ⟨_, rfl⟩) hc1 ?_
 intro a3 c3 hR3
 replace hs := Option.bind_eq_some_iff.1 hs
 obtain ⟨l3, hk2, hs⟩ := hs
 have hcal2 := P.slices_Clone_byte_byte g1 (t + 1) (sliceI l1 x3 (IntKind.i64.wrap (x3 + (IntKind.i64.wrap x2)))) a3 ((IntKind.i64.wrap (x3 + (IntKind.i64.wrap x2))).toNat - x3.toNat) c3 hR3 l3 hk2
 refine WP.callC hcal2 (by kernel_rfl) ?_
 rintro _ g2 st2 ⟨a4, n3, c4, rfl, hR4⟩
 replace hR1 := hR1.mono st2 (fun x => x)
 replace hB2 := hB2.mono st2 (fun x => x)
 replace hR2 := hR2.mono st2 (fun x => x)
 replace hR3 := hR3.mono st2 (fun x => x)
 replace tot := tot.trans st2.pure
 refine WP.storeB (ty := 33) (off := 0) (v := .slice a4 n3 c4) hB2 [[.slice a4 n3 c4]] [1] (by kernel_rfl) (by kernel_rfl) rfl (by kernel_rfl) [[.slice a4 n3 c4]] (by kernel_rfl) (.one rfl .nil) ?_
 intro g3 st3 hB3
 replace hR1 := hR1.mono st3 (WL.no1 (by omega))
 replace hR4 := hR4.mono st3 (WL.no1 (by omega)) (WL.no1 (by omega))
 replace hR3 := hR3.mono st3 (WL.no1 (by omega))
 replace tot := tot.trans (st3.up1 (.inl (by simp [WL])))
 clear hB2
 have hB2 := hB3
 clear hB3
 refine WP.dn ?_
 refine NX.then_n ?_
 refine CP.seqR ?_
 refine WP.stl 3 ?_
 refine WP.dn ?_
 refine NX.then_n ?_
 refine CP.refr 44 [(4, .int .i64 (IntKind.i64.wrap (x3 + (IntKind.i64.wrap x2)))), (5, .int .i64 0)] (by kernel_rfl) (by kernel_rfl) ?_
 clear ds
 intro ds
 refine CP.ret ?_
 obtain ⟨g4, hw1, st4, hnew⟩ := hR4.freeze (by omega)
 refine NX.regw hw1 ?_
 replace hB2 := hB2.mono st4 (WL.no1 (by omega))
 replace tot := tot.trans (st4.up1 (.inr (by omega)))
 clear hR4
 have hR4 := hnew
 clear hnew
 replace hs := Option.some.inj hs
 simp only [Prod.mk.injEq] at hs
 obtain ⟨rfl, rfl, rfl⟩ := hs
 exact NX.fin (v := .tuple #[.int .i64 (IntKind.i64.wrap (x3 + (IntKind.i64.wrap x2))), .int .i64 0]) (Res.still (by kernel_rfl)) tot htL ⟨a4, n3, c4, rfl, hR4, hB2⟩
def F.octet_Reader_read_2 (l1 : List Int) (x1 : Int) (x2 : Int) (l2 : List Int) : Option (Bool × (List Int) × Int × (List Int)) := (if (x1 != 0) = true then (some (false, l1, x1, l2)) else ((F.octet_Reader_Bytes_1 l1 x2 l2).bind fun (x3, x4, d1) => (if (x4 != 0) = true then (some (false, l1, x4, d1)) else (if (0 : Int) ≤ x3 ∧ x3 ≤ (l1.length : Int) ∧ (l1.length : Int) ≤ (l1.length : Int) then (some (true, (sliceI l1 x3 (l1.length : Int)), x1, d1)) else none))))
theorem P.octet_Reader_read_2 (g0 : GW) (m0 : Nat) (m1 : Nat) (m2 : Nat) (l1 : List Int) (x1 : Int) (x2 : Int) (l2 : List Int) (a1 : Option Addr) (n1 : Nat) (c1 : Nat) (a2 : Option Addr) (n2 : Nat) (c2 : Nat) (b1 : Nat) (b2 : Nat) (b3 : Nat) (hR1 : RdS (Kd.int .u8) g0 5 a1 n1 c1 l1) (hR2 : RdS (Kd.int .u8) g0 5 a2 n2 c2 l2) (hB1 : Box g0 m0 b1 138 [[.slice a1 n1 c1], [.int .i64 x1]] [1, 1]) (hB2 : Box g0 m1 b2 3 [[.int .i64 x2]] [1]) (hB3 : Box g0 m2 b3 33 [[.slice a2 n2 c2]] [1]) (hm1_0 : m1 ≠ m0) (hm2_0 : m2 ≠ m0) (hm2_1 : m2 ≠ m1) (hm0 : m0 ≠ 0) (hm1 : m1 ≠ 0) (hm2 : m2 ≠ 0) (o1 : Bool) (o2 : (List Int)) (o3 : Int) (o4 : (List Int)) (hs : F.octet_Reader_read_2 l1 x1 x2 l2 = some (o1, o2, o3, o4)) :
  Calls Try.prog 70 #[.pointer (some ⟨b1, 0, none⟩), .func (.func 74) #[] #[.pointer (some ⟨b2, 0, none⟩), .pointer (some ⟨b3, 0, none⟩)]] g0.w (Ret (WL [m0, m2]) g0 fun v g => ∃ (a_1 : Option Addr) (n_1 : Nat) (c_1 : Nat) (a_4 : Option Addr) (n_4 : Nat) (c_4 : Nat), v = .bool o1 ∧ RdS (Kd.int .u8) g 5 a_1 n_1 c_1 o2 ∧ Box g m0 b1 138 [[.slice a_1 n_1 c_1], [.int .i64 o3]] [1, 1] ∧ RdS (Kd.int .u8) g 5 a_4 n_4 c_4 o4 ∧ Box g m2 b3 33 [[.slice a_4 n_4 c_4]] [1]) := by
 refine calls_of (args := [.pointer (some ⟨b1, 0, none⟩), .func (.func 74) #[] #[.pointer (some ⟨b2, 0, none⟩), .pointer (some ⟨b3, 0, none⟩)]]) Try.func70 rfl (m0 + m1 + m2 + 0) ?_
 intro t ht htL
 refine ⟨_, rfl, ?_⟩
 refine CP.refr 40 [(0, .pointer (some ⟨b1, 0, none⟩)), (1, .func (.func 74) #[] #[.pointer (some ⟨b2, 0, none⟩), .pointer (some ⟨b3, 0, none⟩)])] (by kernel_rfl) (by kernel_rfl) ?_
 intro ds
 have tot : Step (fun l => (WL [m0, m2]) l ∨ t ≤ l) g0 g0 := Step.refl _ _
 unfold F.octet_Reader_read_2 at hs
 refine CP.seqR ?_
 refine WP.stl 1 ?_
 refine WP.dn ?_
 refine NX.then_n ?_
 refine CP.seq ?_
 refine CP.seq ?_
 refine CP.region ?_
 refine WP.stl 6 ?_
 refine WP.loadB (v := .int .i64 x1) hB1 (by kernel_rfl) (by kernel_rfl) ?_
 refine WP.stl 2 ?_
 refine WP.dn ?_
 refine NX.then_n ?_
 refine CP.cond (b := (x1 != 0)) (by kernel_rfl) (fun h1 => ?_) (fun h1 => ?_)
 ·replace hs := of_if_t hs h1
  refine CP.seqR ?_
  refine WP.stl 1 ?_
  refine WP.dn ?_
  refine NX.then_n ?_
  refine CP.ret ?_
  refine NX.then_r ?_
  replace hs := Option.some.inj hs
  simp only [Prod.mk.injEq] at hs
  obtain ⟨rfl, rfl, rfl, rfl⟩ := hs
  exact NX.fin (v := .bool false) (Res.still (by kernel_rfl)) tot htL ⟨a1, n1, c1, a2, n2, c2, rfl, hR1, hB1, hR2, hB3⟩
 replace hs := of_if_f hs h1
 refine CP.skip ?_
 refine NX.then_n ?_
 refine CP.seqR ?_
 refine WP.stl 4 ?_
 refine WP.loadB (v := .slice a1 n1 c1) hB1 (by kernel_rfl) (by kernel_rfl) ?_
 replace hs := Option.bind_eq_some_iff.1 hs
 obtain ⟨⟨x3, x4, d1⟩, hk1, hs⟩ := hs
 dsimp only at hs
 have hcal1 := P.octet_Reader_Bytes_1 g0 m1 m2 l1 x2 l2 a1 n1 c1 a2 n2 c2 b2 b3 hR1 hR2 hB2 hB3 (by omega) (by omega) (by omega) x3 x4 d1 hk1
 refine WP.callC hcal1 (by kernel_rfl) ?_
 rintro _ g1 st1 ⟨a3, n3, c3, rfl, hR3, hB4⟩
 replace hB1 := hB1.mono st1 (WL.no1 (by omega))
 replace hR1 := hR1.mono st1 (WL.no1 (by omega))
 replace hB2 := hB2.mono st1 (WL.no1 (by omega))
 replace tot := tot.trans (st1.up1 (.inl (by simp [WL])))
 clear hB3
 have hB3 := hB4
 clear hB4
 refine WP.stl 5 ?_
 refine WP.dn ?_
 refine NX.then_n ?_
 refine CP.refr 40 [(0, .pointer (some ⟨b1, 0, none⟩)), (5, .int .i64 x3), (6, .int .i64 x4)] (by kernel_rfl) (by kernel_rfl) ?_
 clear ds
 intro ds
 refine CP.seq ?_
 refine CP.seqR ?_
 refine WP.stl 2 ?_
 refine WP.dn ?_
 refine NX.then_n ?_
 refine CP.cond (b := (x4 != 0)) (by kernel_rfl) (fun h2 => ?_) (fun h2 => ?_)
 ·replace hs := of_if_t hs h2
  refine CP.seqR ?_
  refine WP.stl 4 ?_
  refine WP.storeB (ty := 25) (off := 1) (v := .int .i64 x4) hB1 [[.int .i64 x4]] [1] (by kernel_rfl) (by kernel_rfl) rfl (by kernel_rfl) [[.slice a1 n1 c1], [.int .i64 x4]] (by kernel_rfl) (.one rfl .nil) ?_
  intro g2 st2 hB5
  replace hR1 := hR1.mono st2 (WL.no1 (by omega))
  replace hB3 := hB3.mono st2 (WL.no1 (by omega))
  replace hR3 := hR3.mono st2 (WL.no1 (by omega))
  replace tot := tot.trans (st2.up1 (.inl (by simp [WL])))
  clear hB1
  have hB1 := hB5
  clear hB5
  refine WP.dn ?_
  refine NX.then_n ?_
  refine CP.seqR ?_
  refine WP.stl 1 ?_
  refine WP.dn ?_
  refine NX.then_n ?_
  refine CP.ret ?_
  refine NX.then_r ?_
  replace hs := Option.some.inj hs
  simp only [Prod.mk.injEq] at hs
  obtain ⟨rfl, rfl, rfl, rfl⟩ := hs
  exact NX.fin (v := .bool false) (Res.still (by kernel_rfl)) tot htL ⟨a1, n1, c1, a3, n3, c3, rfl, hR1, hB1, hR3, hB3⟩
 replace hs := of_if_f hs h2
 refine CP.skip ?_
 refine NX.then_n ?_
 refine CP.seqR ?_
 refine WP.stl 4 ?_
 refine WP.loadB (v := .slice a1 n1 c1) hB1 (by kernel_rfl) (by kernel_rfl) ?_
 refine WP.stl 1 ?_
 by_cases hc1 : (0 : Int) ≤ x3 ∧ x3 ≤ (l1.length : Int) ∧ (l1.length : Int) ≤ (l1.length : Int)
 case neg => rw [if_neg hc1] at hs; cases hs
 replace hs := of_if_p hs hc1
 refine WP.sliceR (lo := some (.int .i64 x3)) (hi := none) hR1 x3 (l1.length : Int) (by kernel_rfl) (.inr ⟨_, rfl⟩) (.inl ⟨rfl, rfl⟩) hc1 ?_
 intro a4 c4 hR4
 refine WP.stl 2 ?_
 refine WP.storeB (ty := 33) (off := 0) (v := .slice a4 ((l1.length : Int).toNat - x3.toNat) c4) hB1 [[.slice a4 ((l1.length : Int).toNat - x3.toNat) c4]] [1] (by kernel_rfl) (by kernel_rfl) rfl (by kernel_rfl) [[.slice a4 ((l1.length : Int).toNat - x3.toNat) c4], [.int .i64 x1]] (by kernel_rfl) (.one rfl .nil) ?_
 intro g3 st3 hB6
 replace hR4 := hR4.mono st3 (WL.no1 (by omega))
 replace hB3 := hB3.mono st3 (WL.no1 (by omega))
 replace hR3 := hR3.mono st3 (WL.no1 (by omega))
 replace hR1 := hR1.mono st3 (WL.no1 (by omega))
 replace tot := tot.trans (st3.up1 (.inl (by simp [WL])))
 clear hB1
 have hB1 := hB6
 clear hB6
 refine WP.dn ?_
 refine NX.then_n ?_
 refine CP.seqR ?_
 refine WP.stl 1 ?_
 refine WP.dn ?_
 refine NX.then_n ?_
 refine CP.refr 40 [(4, .bool true)] (by kernel_rfl) (by kernel_rfl) ?_
 clear ds
 intro ds
 refine CP.ret ?_
 replace hs := Option.some.inj hs
 simp only [Prod.mk.injEq] at hs
 obtain ⟨rfl, rfl, rfl, rfl⟩ := hs
 exact NX.fin (v := .bool true) (Res.still (by kernel_rfl)) tot htL ⟨a4, ((l1.length : Int).toNat - x3.toNat), c4, a3, n3, c3, rfl, hR4, hB1, hR3, hB3⟩
def F.octet_Reader_Bytes (l1 : List Int) (x1 : Int) (x2 : Int) : Option ((List Int) × (List Int) × Int) := ((F.octet_Reader_read_2 l1 x1 x2 ([])).bind fun (q1, d1, x3, d2) => (if (!q1) = true then (some ([], d1, x3)) else (some (d2, d1, x3))))
theorem P.octet_Reader_Bytes (g0 : GW) (m0 : Nat) (l1 : List Int) (x1 : Int) (x2 : Int) (a1 : Option Addr) (n1 : Nat) (c1 : Nat) (b1 : Nat) (hR1 : RdS (Kd.int .u8) g0 5 a1 n1 c1 l1) (hB1 : Box g0 m0 b1 138 [[.slice a1 n1 c1], [.int .i64 x1]] [1, 1]) (hm0 : m0 ≠ 0) (o1 : List Int) (o2 : (List Int)) (o3 : Int) (hs : F.octet_Reader_Bytes l1 x1 x2 = some (o1, o2, o3)) :
  Calls Try.prog 48 #[.pointer (some ⟨b1, 0, none⟩), .int .i64 x2] g0.w (Ret (WL [m0]) g0 fun v g => ∃ (a_1 : Option Addr) (n_1 : Nat) (c_1 : Nat) (a_4 : Option Addr) (n_4 : Nat) (c_4 : Nat), v = .slice a_1 n_1 c_1 ∧ RdS (Kd.int .u8) g 5 a_1 n_1 c_1 o1 ∧ RdS (Kd.int .u8) g 5 a_4 n_4 c_4 o2 ∧ Box g m0 b1 138 [[.slice a_4 n_4 c_4], [.int .i64 o3]] [1, 1]) := by
 refine calls_of (args := [.pointer (some ⟨b1, 0, none⟩), .int .i64 x2]) Try.func48 rfl (m0 + 0) ?_
 intro t ht htL
 refine ⟨_, rfl, ?_⟩
 refine CP.refr 13 [(0, .pointer (some ⟨b1, 0, none⟩)), (1, .int .i64 x2)] (by kernel_rfl) (by kernel_rfl) ?_
 intro ds
 have tot : Step (fun l => (WL [m0]) l ∨ t ≤ l) g0 g0 := Step.refl _ _
 unfold F.octet_Reader_Bytes at hs
 refine CP.seqR ?_
 refine WP.alloc (T := 3) (t + 1) [[.int .i64 x2]] [1] (by kernel_rfl) rfl ?_
 intro g1 b2 st1 hB2
 replace hB1 := hB1.mono st1 (fun x => x)
 replace hR1 := hR1.mono st1 (fun x => x)
 replace tot := tot.trans st1.pure
 refine WP.stl 1 ?_
 refine WP.dn ?_
 refine NX.then_n ?_
 refine CP.seqR ?_
 refine WP.alloc (T := 33) (t + 2) [[.slice none 0 0]] [1] (by kernel_rfl) rfl ?_
 intro g2 b3 st2 hB3
 replace hB1 := hB1.mono st2 (fun x => x)
 replace hR1 := hR1.mono st2 (fun x => x)
 replace hB2 := hB2.mono st2 (fun x => x)
 replace tot := tot.trans st2.pure
 refine WP.dn ?_
 refine NX.then_n ?_
 refine CP.seqR ?_
 refine WP.stl 2 ?_
 replace hs := Option.bind_eq_some_iff.1 hs
 obtain ⟨⟨q1, d1, x3, d2⟩, hk1, hs⟩ := hs
 dsimp only at hs
 have hcal1 := P.octet_Reader_read_2 g2 m0 (t + 1) (t + 2) l1 x1 x2 ([]) a1 n1 c1 none 0 0 b1 b2 b3 hR1 (RdS.nil _ _ _) hB1 hB2 hB3 (by omega) (by omega) (by omega) (by omega) (by omega) (by omega) q1 d1 x3 d2 hk1
 refine WP.callC hcal1 (by kernel_rfl) ?_
 rintro _ g3 st3 ⟨a2, n2, c2, a3, n3, c3, rfl, hR2, hB4, hR3, hB5⟩
 replace hB2 := hB2.mono st3 (WL.no2 (by omega) (by omega))
 replace tot := tot.trans (st3.up2 (.inl (by simp [WL])) (.inr (by omega)))
 clear hB1
 have hB1 := hB4
 clear hB4
 clear hB3
 have hB3 := hB5
 clear hB5
 refine WP.stl 1 ?_
 refine WP.dn ?_
 refine NX.then_n ?_
 refine CP.seq ?_
 refine CP.seqR ?_
 refine WP.stl 2 ?_
 refine WP.dn ?_
 refine NX.then_n ?_
 refine CP.cond (b := (!q1)) (by kernel_rfl) (fun h1 => ?_) (fun h1 => ?_)
 ·replace hs := of_if_t hs h1
  refine CP.seqR ?_
  refine WP.stl 1 ?_
  refine WP.dn ?_
  refine NX.then_n ?_
  refine CP.ret ?_
  refine NX.then_r ?_
  replace hs := Option.some.inj hs
  simp only [Prod.mk.injEq] at hs
  obtain ⟨rfl, rfl, rfl⟩ := hs
  exact NX.fin (v := .slice none 0 0) (Res.still (by kernel_rfl)) tot htL ⟨none, 0, 0, a2, n2, c2, rfl, (RdS.nil _ _ _), hR2, hB1⟩
 replace hs := of_if_f hs h1
 refine CP.skip ?_
 refine NX.then_n ?_
 refine CP.seqR ?_
 refine WP.loadB (v := .slice a3 n3 c3) hB3 (by kernel_rfl) (by kernel_rfl) ?_
 refine WP.stl 1 ?_
 refine WP.dn ?_
 refine NX.then_n ?_
 refine CP.ret ?_
 replace hs := Option.some.inj hs
 simp only [Prod.mk.injEq] at hs
 obtain ⟨rfl, rfl, rfl⟩ := hs
 exact NX.fin (v := .slice a3 n3 c3) (Res.still (by kernel_rfl)) tot htL ⟨a3, n3, c3, a2, n2, c2, rfl, hR3, hR2, hB1⟩
def F.octet_Reader_Err (l1 : List Int) (x1 : Int) : Option (Int) := (some x1)
theorem P.octet_Reader_Err (g0 : GW) (m0 : Nat) (l1 : List Int) (x1 : Int) (a1 : Option Addr) (n1 : Nat) (c1 : Nat) (b1 : Nat) (hR1 : RdS (Kd.int .u8) g0 5 a1 n1 c1 l1) (hB1 : Box g0 m0 b1 138 [[.slice a1 n1 c1], [.int .i64 x1]] [1, 1]) (hm0 : m0 ≠ 0) (o1 : Int) (hs : F.octet_Reader_Err l1 x1 = some o1) :
  Calls Try.prog 73 #[.pointer (some ⟨b1, 0, none⟩)] g0.w (Ret NoM g0 fun v g => v = .int .i64 o1) := by
 refine calls_of (args := [.pointer (some ⟨b1, 0, none⟩)]) Try.func73 rfl (m0 + 0) ?_
 intro t ht htL
 refine ⟨_, rfl, ?_⟩
 refine CP.refr 9 [(0, .pointer (some ⟨b1, 0, none⟩))] (by kernel_rfl) (by kernel_rfl) ?_
 intro ds
 have tot : Step (fun l => NoM l ∨ t ≤ l) g0 g0 := Step.refl _ _
 unfold F.octet_Reader_Err at hs
 refine CP.seqR ?_
 refine WP.stl 1 ?_
 refine WP.dn ?_
 refine NX.then_n ?_
 refine CP.seq ?_
 refine CP.seqR ?_
 refine WP.stl 2 ?_
 refine WP.dn ?_
 refine NX.then_n ?_
 refine CP.cond_f (by kernel_rfl) ?_
 refine CP.skip ?_
 refine NX.then_n ?_
 refine CP.seqR ?_
 refine WP.stl 3 ?_
 refine WP.loadB (v := .int .i64 x1) hB1 (by kernel_rfl) (by kernel_rfl) ?_
 refine WP.stl 1 ?_
 refine WP.dn ?_
 refine NX.then_n ?_
 refine CP.ret ?_
 replace hs := Option.some.inj hs
 obtain rfl := hs
 exact NX.fin (v := .int .i64 x1) (Res.still (by kernel_rfl)) tot htL rfl
def F.punish_reader_digest.c1 (l2 : List Int) (d1 : (List Int)) (x2 : Int) (q2 : Bool) : Option ((Arr Int 8) × (List Int) × Int × Bool) := (some ((copyA (zA 8) l2), d1, x2, q2))
def F.punish_reader_digest (l1 : List Int) (x1 : Int) (q1 : Bool) : Option ((Arr Int 8) × (List Int) × Int × Bool) := (if q1 = true then (some ((zA 8), l1, x1, q1)) else ((F.octet_Reader_Bytes l1 x1 8).bind fun (l2, d1, x2) => ((F.octet_Reader_Err d1 x2).bind fun x4 => (if (x4 == 0) = true then (F.punish_reader_digest.c1 l2 d1 x2 ((l2.length : Int) != 8)) else (F.punish_reader_digest.c1 l2 d1 x2 false)))))
theorem P.punish_reader_digest (g0 : GW) (m0 : Nat) (m1 : Nat) (l1 : List Int) (x1 : Int) (q1 : Bool) (a1 : Option Addr) (n1 : Nat) (c1 : Nat) (b1 : Nat) (b2 : Nat) (hR1 : RdS (Kd.int .u8) g0 5 a1 n1 c1 l1) (hB1 : Box g0 m1 b2 138 [[.slice a1 n1 c1], [.int .i64 x1]] [1, 1]) (hB2 : Box g0 m0 b1 102 [[.pointer (some ⟨b2, 0, none⟩)], [.bool q1]] [1, 1]) (hm1_0 : m1 ≠ m0) (hm0 : m0 ≠ 0) (hm1 : m1 ≠ 0) (o1 : Arr Int 8) (o2 : (List Int)) (o3 : Int) (o4 : Bool) (hs : F.punish_reader_digest l1 x1 q1 = some (o1, o2, o3, o4)) :
  Calls Try.prog 47 #[.pointer (some ⟨b1, 0, none⟩)] g0.w (Ret (WL [m1, m0]) g0 fun v g => ∃ (a_1 : Option Addr) (n_1 : Nat) (c_1 : Nat), v = AG [encA .u8 o1] ∧ RdS (Kd.int .u8) g 5 a_1 n_1 c_1 o2 ∧ Box g m1 b2 138 [[.slice a_1 n_1 c_1], [.int .i64 o3]] [1, 1] ∧ Box g m0 b1 102 [[.pointer (some ⟨b2, 0, none⟩)], [.bool o4]] [1, 1]) := by
 refine calls_of (args := [.pointer (some ⟨b1, 0, none⟩)]) Try.func47 rfl (m0 + m1 + 0) ?_
 intro t ht htL
 refine ⟨_, rfl, ?_⟩
 refine CP.refr 33 [(0, .pointer (some ⟨b1, 0, none⟩))] (by kernel_rfl) (by kernel_rfl) ?_
 intro ds
 have tot : Step (fun l => (WL [m1, m0]) l ∨ t ≤ l) g0 g0 := Step.refl _ _
 unfold F.punish_reader_digest at hs
 refine CP.seqR ?_
 refine WP.alloc (T := 37) (t + 1) [encA .u8 (zA 8)] [8] (by kernel_rfl) (by simp [len_encA]) ?_
 intro g1 b3 st1 hB3
 replace hB2 := hB2.mono st1 (fun x => x)
 replace hB1 := hB1.mono st1 (fun x => x)
 replace hR1 := hR1.mono st1 (fun x => x)
 replace tot := tot.trans st1.pure
 refine WP.dn ?_
 refine NX.then_n ?_
 refine CP.seqR ?_
 refine WP.alloc (T := 37) (t + 2) [encA .u8 (zA 8)] [8] (by kernel_rfl) (by simp [len_encA]) ?_
 intro g2 b4 st2 hB4
 replace hB2 := hB2.mono st2 (fun x => x)
 replace hB1 := hB1.mono st2 (fun x => x)
 replace hR1 := hR1.mono st2 (fun x => x)
 replace hB3 := hB3.mono st2 (fun x => x)
 replace tot := tot.trans st2.pure
 refine WP.dn ?_
 refine NX.then_n ?_
 refine CP.seq ?_
 refine CP.seqR ?_
 refine WP.stl 3 ?_
 refine WP.loadB (v := .bool q1) hB2 (by kernel_rfl) (by kernel_rfl) ?_
 refine WP.dn ?_
 refine NX.then_n ?_
 refine CP.cond (b := q1) (by kernel_rfl) (fun h1 => ?_) (fun h1 => ?_)
 ·replace hs := of_if_t hs h1
  refine CP.seqR ?_
  refine WP.loadB (v := AG [encA .u8 (zA 8)]) hB4 (by kernel_rfl) (by kernel_rfl) ?_
  refine WP.storeB (ty := 37) (off := 0) (v := AG [encA .u8 (zA 8)]) hB3 [encA .u8 (zA 8)] [8] (by kernel_rfl) (by kernel_rfl) (by simp [len_encA]) (by kernel_rfl) [encA .u8 (zA 8)] (by kernel_rfl) (.arr .nil) ?_
  intro g3 st3 hB5
  replace hB2 := hB2.mono st3 (WL.no1 (by omega))
  replace hB1 := hB1.mono st3 (WL.no1 (by omega))
  replace hR1 := hR1.mono st3 (WL.no1 (by omega))
  replace hB4 := hB4.mono st3 (WL.no1 (by omega))
  replace tot := tot.trans (st3.up1 (.inr (by omega)))
  clear hB3
  have hB3 := hB5
  clear hB5
  refine WP.dn ?_
  refine NX.then_n ?_
  refine CP.ret ?_
  refine NX.then_r ?_
  replace hs := Option.some.inj hs
  simp only [Prod.mk.injEq] at hs
  obtain ⟨rfl, rfl, rfl, rfl⟩ := hs
  exact NX.fin (v := AG [encA .u8 (zA 8)]) (Res.one rfl (RV.box (agg := true) (size := 8) (rs := [encA .u8 (zA 8)]) hB3 (by kernel_rfl) (by kernel_rfl) (by kernel_rfl) (by kernel_rfl))) tot htL ⟨a1, n1, c1, rfl, hR1, hB1, hB2⟩
 replace hs := of_if_f hs h1
 refine CP.skip ?_
 refine NX.then_n ?_
 refine CP.seqR ?_
 refine WP.stl 3 ?_
 refine WP.loadB (v := .pointer (some ⟨b2, 0, none⟩)) hB2 (by kernel_rfl) (by kernel_rfl) ?_
 replace hs := Option.bind_eq_some_iff.1 hs
 obtain ⟨⟨l2, d1, x2⟩, hk1, hs⟩ := hs
 dsimp only at hs
 have hcal1 := P.octet_Reader_Bytes g2 m1 l1 x1 8 a1 n1 c1 b2 hR1 hB1 (by omega) l2 d1 x2 hk1
 refine WP.callC hcal1 (by kernel_rfl) ?_
 rintro _ g4 st4 ⟨a2, n2, c2, a3, n3, c3, rfl, hR2, hR3, hB6⟩
 replace hB2 := hB2.mono st4 (WL.no1 (by omega))
 replace hB3 := hB3.mono st4 (WL.no1 (by omega))
 replace hB4 := hB4.mono st4 (WL.no1 (by omega))
 replace tot := tot.trans (st4.up1 (.inl (by simp [WL])))
 clear hB1
 have hB1 := hB6
 clear hB6
 refine WP.stl 1 ?_
 refine WP.dn ?_
 refine NX.then_n ?_
 refine CP.cut (fun tm g => ∃ (q2 : Bool), Fr 33 [(2, .pointer (some ⟨b3, 0, none⟩)), (3, .pointer (some ⟨b4, 0, none⟩)), (4, .slice a2 n2 c2)] tm ∧ Step (fun l => (WL [m1, m0]) l ∨ t ≤ l) g0 g ∧ Box g m0 b1 102 [[.pointer (some ⟨b2, 0, none⟩)], [.bool q2]] [1, 1] ∧ Box g m1 b2 138 [[.slice a3 n3 c3], [.int .i64 x2]] [1, 1] ∧ RdS (Kd.int .u8) g 5 a3 n3 c3 d1 ∧ Box g (t + 1) b3 37 [encA .u8 (zA 8)] [8] ∧ Box g (t + 2) b4 37 [encA .u8 (zA 8)] [8] ∧ RdS (Kd.int .u8) g 5 a2 n2 c2 l2 ∧ (F.punish_reader_digest.c1 l2 d1 x2 q2) = some (o1, o2, o3, o4)) ?_ ?_
 ·refine CP.region ?_
  refine WP.stl 4 ?_
  refine WP.loadB (v := .pointer (some ⟨b2, 0, none⟩)) hB2 (by kernel_rfl) (by kernel_rfl) ?_
  replace hs := Option.bind_eq_some_iff.1 hs
  obtain ⟨x4, hk3, hs⟩ := hs
  have hcal3 := P.octet_Reader_Err g4 m1 d1 x2 a3 n3 c3 b2 hR3 hB1 (by omega) x4 hk3
  refine WP.callC hcal3 (by kernel_rfl) ?_
  rintro _ g10 st10 rfl
  replace hB2 := hB2.mono st10 (fun x => x)
  replace hB1 := hB1.mono st10 (fun x => x)
  replace hR3 := hR3.mono st10 (fun x => x)
  replace hB3 := hB3.mono st10 (fun x => x)
  replace hB4 := hB4.mono st10 (fun x => x)
  replace hR2 := hR2.mono st10 (fun x => x)
  replace tot := tot.trans st10.pure
  refine WP.stl 2 ?_
  refine WP.guard 22 (b := (x4 == 0)) (by kernel_rfl) (fun h3 => ?_) (fun h3 => ?_)
  ·replace hs := of_if_t hs h3
   refine WP.stl 1 ?_
   refine WP.len (a := a2) (cp := c2) hR2.len (by kernel_rfl) ?_
   refine WP.stl 4 ?_
   refine WP.storeB (ty := 4) (off := 1) (v := .bool ((l2.length : Int) != 8)) hB2 [[.bool ((l2.length : Int) != 8)]] [1] (by kernel_rfl) (by kernel_rfl) rfl (by kernel_rfl) [[.pointer (some ⟨b2, 0, none⟩)], [.bool ((l2.length : Int) != 8)]] (by kernel_rfl) (.one rfl .nil) ?_
   intro g11 st11 hB11
   replace hB1 := hB1.mono st11 (WL.no1 (by omega))
   replace hR3 := hR3.mono st11 (WL.no1 (by omega))
   replace hB3 := hB3.mono st11 (WL.no1 (by omega))
   replace hB4 := hB4.mono st11 (WL.no1 (by omega))
   replace hR2 := hR2.mono st11 (WL.no1 (by omega))
   replace tot := tot.trans (st11.up1 (.inl (by simp [WL])))
   clear hB2
   have hB2 := hB11
   clear hB11
   refine WP.dn ?_
   refine NX.post ?_
   exact ⟨((l2.length : Int) != 8), ⟨by kernel_rfl, by kernel_rfl⟩, tot, hB2, hB1, hR3, hB3, hB4, hR2, hs⟩
  replace hs := of_if_f hs h3
  refine WP.stl 6 ?_
  refine WP.storeB (ty := 4) (off := 1) (v := .bool false) hB2 [[.bool false]] [1] (by kernel_rfl) (by kernel_rfl) rfl (by kernel_rfl) [[.pointer (some ⟨b2, 0, none⟩)], [.bool false]] (by kernel_rfl) (.one rfl .nil) ?_
  intro g12 st12 hB12
  replace hB1 := hB1.mono st12 (WL.no1 (by omega))
  replace hR3 := hR3.mono st12 (WL.no1 (by omega))
  replace hB3 := hB3.mono st12 (WL.no1 (by omega))
  replace hB4 := hB4.mono st12 (WL.no1 (by omega))
  replace hR2 := hR2.mono st12 (WL.no1 (by omega))
  replace tot := tot.trans (st12.up1 (.inl (by simp [WL])))
  clear hB2
  have hB2 := hB12
  clear hB12
  refine WP.dn ?_
  refine NX.post ?_
  exact ⟨false, ⟨by kernel_rfl, by kernel_rfl⟩, tot, hB2, hB1, hR3, hB3, hB4, hR2, hs⟩
 clear tot hs hB2 hB1 hR3 hB3 hB4 hR2
 rintro tm g ⟨q2, hF, tot, hB2, hB1, hR3, hB3, hB4, hR2, hs⟩
 clear ds
 obtain ⟨ds, rfl⟩ := hF.open
 clear hF
 unfold F.punish_reader_digest.c1 at hs
 refine CP.seqR ?_
 refine WP.sliceN (t := 37) (e := 5) (m := 8) (size := 1) (b := b4) (o := 0) (by kernel_rfl) ?_
 refine WP.stl 1 ?_
 refine WP.copyB (o := 0) (m := 8) (k := .u8) (d := (zA 8)) hB4 (by kernel_rfl) (t := 33) (e := 5) (bytes := 1) (a := a2) (c2 := c2) hR2.src hR2.len (by kernel_rfl) (by kernel_rfl) hR2.none0 [encA .u8 (copyA (zA 8) l2)] (by kernel_rfl) ?_
 intro g8 st8 hB9
 replace hB2 := hB2.mono st8 (WL.no1 (by omega))
 replace hB1 := hB1.mono st8 (WL.no1 (by omega))
 replace hR3 := hR3.mono st8 (WL.no1 (by omega))
 replace hB3 := hB3.mono st8 (WL.no1 (by omega))
 replace hR2 := hR2.mono st8 (WL.no1 (by omega))
 replace tot := tot.trans (st8.up1 (.inr (by omega)))
 clear hB4
 have hB4 := hB9
 clear hB9
 refine WP.dn ?_
 refine NX.then_n ?_
 refine CP.seqR ?_
 refine WP.loadB (v := AG [encA .u8 (copyA (zA 8) l2)]) hB4 (by kernel_rfl) (by kernel_rfl) ?_
 refine WP.storeB (ty := 37) (off := 0) (v := AG [encA .u8 (copyA (zA 8) l2)]) hB3 [encA .u8 (copyA (zA 8) l2)] [8] (by kernel_rfl) (by kernel_rfl) (by simp [len_encA]) (by kernel_rfl) [encA .u8 (copyA (zA 8) l2)] (by kernel_rfl) (.arr .nil) ?_
 intro g9 st9 hB10
 replace hB2 := hB2.mono st9 (WL.no1 (by omega))
 replace hB1 := hB1.mono st9 (WL.no1 (by omega))
 replace hR3 := hR3.mono st9 (WL.no1 (by omega))
 replace hB4 := hB4.mono st9 (WL.no1 (by omega))
 replace tot := tot.trans (st9.up1 (.inr (by omega)))
 clear hB3
 have hB3 := hB10
 clear hB10
 refine WP.dn ?_
 refine NX.then_n ?_
 refine CP.ret ?_
 replace hs := Option.some.inj hs
 simp only [Prod.mk.injEq] at hs
 obtain ⟨rfl, rfl, rfl, rfl⟩ := hs
 exact NX.fin (v := AG [encA .u8 (copyA (zA 8) l2)]) (Res.one rfl (RV.box (agg := true) (size := 8) (rs := [encA .u8 (copyA (zA 8) l2)]) hB3 (by kernel_rfl) (by kernel_rfl) (by kernel_rfl) (by kernel_rfl))) tot htL ⟨a3, n3, c3, rfl, hR3, hB1, hB2⟩
def F.octet_Reader_Left (l1 : List Int) (x1 : Int) : Option (Int) := (some (l1.length : Int))
theorem P.octet_Reader_Left (g0 : GW) (m0 : Nat) (l1 : List Int) (x1 : Int) (a1 : Option Addr) (n1 : Nat) (c1 : Nat) (b1 : Nat) (hR1 : RdS (Kd.int .u8) g0 5 a1 n1 c1 l1) (hB1 : Box g0 m0 b1 138 [[.slice a1 n1 c1], [.int .i64 x1]] [1, 1]) (hm0 : m0 ≠ 0) (o1 : Int) (hs : F.octet_Reader_Left l1 x1 = some o1) :
  Calls Try.prog 75 #[.pointer (some ⟨b1, 0, none⟩)] g0.w (Ret NoM g0 fun v g => v = .int .i64 o1) := by
 refine calls_of (args := [.pointer (some ⟨b1, 0, none⟩)]) Try.func75 rfl (m0 + 0) ?_
 intro t ht htL
 refine ⟨_, rfl, ?_⟩
 refine CP.refr 10 [(0, .pointer (some ⟨b1, 0, none⟩))] (by kernel_rfl) (by kernel_rfl) ?_
 intro ds
 have tot : Step (fun l => NoM l ∨ t ≤ l) g0 g0 := Step.refl _ _
 unfold F.octet_Reader_Left at hs
 refine CP.seqR ?_
 refine WP.stl 1 ?_
 refine WP.dn ?_
 refine NX.then_n ?_
 refine CP.seq ?_
 refine CP.seqR ?_
 refine WP.stl 2 ?_
 refine WP.dn ?_
 refine NX.then_n ?_
 refine CP.cond_f (by kernel_rfl) ?_
 refine CP.skip ?_
 refine NX.then_n ?_
 refine CP.seqR ?_
 refine WP.stl 3 ?_
 refine WP.loadB (v := .slice a1 n1 c1) hB1 (by kernel_rfl) (by kernel_rfl) ?_
 refine WP.len (a := a1) (cp := c1) hR1.len (by kernel_rfl) ?_
 refine WP.stl 1 ?_
 refine WP.dn ?_
 refine NX.then_n ?_
 refine CP.ret ?_
 replace hs := Option.some.inj hs
 obtain rfl := hs
 exact NX.fin (v := .int .i64 (l1.length : Int)) (Res.still (by kernel_rfl)) tot htL rfl
def F.octet_Reader_End (l1 : List Int) (x1 : Int) : Option (Int) := ((F.octet_Reader_Err l1 x1).bind fun x2 => (if (x2 != 0) = true then (some x2) else ((F.octet_Reader_Left l1 x1).bind fun x3 => (if decide (x3 > 0) = true then (some 5) else (some 0)))))
theorem P.octet_Reader_End (g0 : GW) (m0 : Nat) (l1 : List Int) (x1 : Int) (a1 : Option Addr) (n1 : Nat) (c1 : Nat) (b1 : Nat) (hR1 : RdS (Kd.int .u8) g0 5 a1 n1 c1 l1) (hB1 : Box g0 m0 b1 138 [[.slice a1 n1 c1], [.int .i64 x1]] [1, 1]) (hm0 : m0 ≠ 0) (o1 : Int) (hs : F.octet_Reader_End l1 x1 = some o1) :
  Calls Try.prog 49 #[.pointer (some ⟨b1, 0, none⟩)] g0.w (Ret NoM g0 fun v g => v = .int .i64 o1) := by
 refine calls_of (args := [.pointer (some ⟨b1, 0, none⟩)]) Try.func49 rfl (m0 + 0) ?_
 intro t ht htL
 refine ⟨_, rfl, ?_⟩
 refine CP.refr 12 [(0, .pointer (some ⟨b1, 0, none⟩))] (by kernel_rfl) (by kernel_rfl) ?_
 intro ds
 have tot : Step (fun l => NoM l ∨ t ≤ l) g0 g0 := Step.refl _ _
 unfold F.octet_Reader_End at hs
 refine CP.seqR ?_
 refine WP.stl 1 ?_
 refine WP.dn ?_
 refine NX.then_n ?_
 refine CP.seq ?_
 refine CP.seqR ?_
 refine WP.stl 1 ?_
 replace hs := Option.bind_eq_some_iff.1 hs
 obtain ⟨x2, hk1, hs⟩ := hs
 have hcal1 := P.octet_Reader_Err g0 m0 l1 x1 a1 n1 c1 b1 hR1 hB1 (by omega) x2 hk1
 refine WP.callC hcal1 (by kernel_rfl) ?_
 rintro _ g1 st1 rfl
 replace hB1 := hB1.mono st1 (fun x => x)
 replace hR1 := hR1.mono st1 (fun x => x)
 replace tot := tot.trans st1.pure
 refine WP.stl 1 ?_
 refine WP.dn ?_
 refine NX.then_n ?_
 refine CP.seqR ?_
 refine WP.stl 2 ?_
 refine WP.dn ?_
 refine NX.then_n ?_
 refine CP.cond (b := (x2 != 0)) (by kernel_rfl) (fun h1 => ?_) (fun h1 => ?_)
 ·replace hs := of_if_t hs h1
  refine CP.seqR ?_
  refine WP.stl 2 ?_
  refine WP.dn ?_
  refine NX.then_n ?_
  refine CP.ret ?_
  refine NX.then_r ?_
  replace hs := Option.some.inj hs
  obtain rfl := hs
  exact NX.fin (v := .int .i64 x2) (Res.still (by kernel_rfl)) tot htL rfl
 replace hs := of_if_f hs h1
 refine CP.skip ?_
 refine NX.then_n ?_
 refine CP.seq ?_
 refine CP.seqR ?_
 refine WP.stl 1 ?_
 replace hs := Option.bind_eq_some_iff.1 hs
 obtain ⟨x3, hk2, hs⟩ := hs
 have hcal2 := P.octet_Reader_Left g1 m0 l1 x1 a1 n1 c1 b1 hR1 hB1 (by omega) x3 hk2
 refine WP.callC hcal2 (by kernel_rfl) ?_
 rintro _ g2 st2 rfl
 replace hB1 := hB1.mono st2 (fun x => x)
 replace hR1 := hR1.mono st2 (fun x => x)
 replace tot := tot.trans st2.pure
 refine WP.stl 1 ?_
 refine WP.dn ?_
 refine NX.then_n ?_
 refine CP.cond (b := decide (x3 > 0)) (by kernel_rfl) (fun h2 => ?_) (fun h2 => ?_)
 ·replace hs := of_if_t hs h2
  refine CP.seqR ?_
  refine WP.stl 1 ?_
  refine WP.dn ?_
  refine NX.then_n ?_
  refine CP.ret ?_
  refine NX.then_r ?_
  replace hs := Option.some.inj hs
  obtain rfl := hs
  exact NX.fin (v := .int .i64 5) (Res.still (by kernel_rfl)) tot htL rfl
 replace hs := of_if_f hs h2
 refine CP.skip ?_
 refine NX.then_n ?_
 refine CP.seqR ?_
 refine WP.stl 1 ?_
 refine WP.dn ?_
 refine NX.then_n ?_
 refine CP.ret ?_
 replace hs := Option.some.inj hs
 obtain rfl := hs
 exact NX.fin (v := .int .i64 0) (Res.still (by kernel_rfl)) tot htL rfl
def N.punish_Decode_0 : List (List Nat) := [[], [0], [0, 1], [0, 1, 2], [0, 1, 2, 3], [], [5], [5, 6], [5, 6, 7], [0, 1, 2, 3, 4, 5, 6, 7, 8], [0, 1, 2, 3, 4], [0, 1, 2, 3, 4, 5, 6, 7, 8, 9, 10], [0, 1, 2, 3, 4, 5, 6, 7, 8, 9, 10, 11], [0, 1, 2, 3, 4, 5, 6, 7, 8, 9, 10, 11, 12]]
def F.punish_Decode.c2 (x2 : Int) (l5 : List Int) (d10 : Arr Int 8) (x12 : Int) (l6 : List Int) (d11 : Arr Int 8) (x13 : Int) (d12 : Arr Int 8) (l7 : List Int) : Option (Int × (Arr Int 8) × Int × (List Int) × (Arr Int 8) × Int × (Arr Int 8) × (List Int) × (List Int) × Int) := (some ((IntKind.i64.wrap x2), d10, x12, l6, d11, x13, d12, l7, l5, 0))
def F.punish_Decode.c1 (x2 : Int) (d2 : Arr Int 8) (x5 : Int) (l3 : List Int) (x8 : Int) (q3 : Bool) (d7 : Arr Int 8) : Option (Int × (Arr Int 8) × Int × (List Int) × (Arr Int 8) × Int × (Arr Int 8) × (List Int) × (List Int) × Int) := (if q3 = true then (some (0, (zA 8), 0, [], (zA 8), 0, (zA 8), [], [], 3)) else ((F.octet_Reader_Bytes l3 x8 4096).bind fun (l4, d8, x9) => ((F.octet_Reader_Bytes d8 x9 4096).bind fun (l5, d9, x10) => ((F.octet_Reader_End d9 x10).bind fun x11 => (if (x11 != 0) = true then (some (0, (zA 8), 0, [], (zA 8), 0, (zA 8), [], [], x11)) else (if ((IntKind.i64.wrap x2) == 0) = true then (F.punish_Decode.c2 x2 l5 d2 (IntKind.i64.wrap x5) l4 (zA 8) 0 (zA 8) ([])) else (F.punish_Decode.c2 x2 l5 (zA 8) 0 ([]) d2 (IntKind.i64.wrap x5) d7 l4)))))))
def F.punish_Decode (l1 : List Int) : Option (Int × (Arr Int 8) × Int × (List Int) × (Arr Int 8) × Int × (Arr Int 8) × (List Int) × (List Int) × Int) := ((F.octet_NewReader l1).bind fun (l2, x1) => ((F.octet_Reader_Num l2 x1 1).bind fun (x2, d1, x3) => ((F.punish_reader_digest d1 x3 false).bind fun (d2, d3, x4, q1) => (if q1 = true then (some (0, (zA 8), 0, [], (zA 8), 0, (zA 8), [], [], 3)) else ((F.octet_Reader_Num d3 x4 1099511627776).bind fun (x5, d4, x6) => (if ((IntKind.i64.wrap x2) == 1) = true then ((F.punish_reader_digest d4 x6 q1).bind fun (d13, d14, x14, q4) => (F.punish_Decode.c1 x2 d2 x5 d14 x14 q4 d13)) else (F.punish_Decode.c1 x2 d2 x5 d4 x6 q1 (zA 8))))))))
theorem P.punish_Decode (g0 : GW) (l1 : List Int) (a1 : Option Addr) (n1 : Nat) (c1 : Nat) (hR1 : RdS (Kd.int .u8) g0 5 a1 n1 c1 l1) (o1 : Int) (o2 : Arr Int 8) (o3 : Int) (o4 : List Int) (o5 : Arr Int 8) (o6 : Int) (o7 : Arr Int 8) (o8 : List Int) (o9 : List Int) (o10 : Int) (hs : F.punish_Decode l1 = some (o1, o2, o3, o4, o5, o6, o7, o8, o9, o10)) :
  Calls Try.prog 16 #[.slice a1 n1 c1] g0.w (Ret NoM g0 fun v g => ∃ (a_1 : Option Addr) (n_1 : Nat) (c_1 : Nat) (a_4 : Option Addr) (n_4 : Nat) (c_4 : Nat) (a_7 : Option Addr) (n_7 : Nat) (c_7 : Nat), v = .tuple #[AG [[.int .i64 o1], encA .u8 o2, [.int .i64 o3], [.slice a_1 n_1 c_1], encA .u8 o5, [.int .i64 o6], encA .u8 o7, [.slice a_4 n_4 c_4], [.slice a_7 n_7 c_7]], .int .i64 o10] ∧ RdS (Kd.int .u8) g 5 a_1 n_1 c_1 o4 ∧ RdS (Kd.int .u8) g 5 a_4 n_4 c_4 o8 ∧ RdS (Kd.int .u8) g 5 a_7 n_7 c_7 o9) := by
 refine calls_of (args := [.slice a1 n1 c1]) Try.func16 rfl (0) ?_
 intro t ht htL
 refine ⟨_, rfl, ?_⟩
 refine CP.refr 88 [(0, .slice a1 n1 c1)] (by kernel_rfl) (by kernel_rfl) ?_
 intro ds
 have tot : Step (fun l => NoM l ∨ t ≤ l) g0 g0 := Step.refl _ _
 unfold F.punish_Decode at hs
 refine CP.seqR ?_
 refine WP.alloc (T := 43) (t + 1) [[.int .i64 0], encA .u8 (zA 8), [.int .i64 0], [.slice none 0 0], encA .u8 (zA 8), [.int .i64 0], encA .u8 (zA 8), [.slice none 0 0], [.slice none 0 0]] [1, 8, 1, 1, 8, 1, 8, 1, 1] (by kernel_rfl) (by simp [len_encA]) ?_
 intro g1 b1 st1 hB1
 replace hR1 := hR1.mono st1 (fun x => x)
 replace tot := tot.trans st1.pure
 refine WP.stl 1 ?_
 refine WP.dn ?_
 refine NX.then_n ?_
 refine CP.seqR ?_
 refine WP.stl 1 ?_
 replace hs := Option.bind_eq_some_iff.1 hs
 obtain ⟨⟨l2, x1⟩, hk1, hs⟩ := hs
 dsimp only at hs
 have hcal1 := P.octet_NewReader g1 (t + 2) l1 a1 n1 c1 hR1 l2 x1 hk1
 refine WP.callC hcal1 (by kernel_rfl) ?_
 rintro _ g2 st2 ⟨b2, a2, n2, c2, rfl, hB2, hR2⟩
 replace hR1 := hR1.mono st2 (fun x => x)
 replace hB1 := hB1.mono st2 (fun x => x)
 replace tot := tot.trans st2.pure
 refine WP.stl 1 ?_
 refine WP.alloc (T := 102) (t + 3) [[.pointer (some ⟨b2, 0, none⟩)], [.bool false]] [1, 1] (by kernel_rfl) rfl ?_
 intro g3 b3 st3 hB3
 replace hR1 := hR1.mono st3 (fun x => x)
 replace hB1 := hB1.mono st3 (fun x => x)
 replace hB2 := hB2.mono st3 (fun x => x)
 replace hR2 := hR2.mono st3 (fun x => x)
 replace tot := tot.trans st3.pure
 refine WP.stl 1 ?_
 refine WP.dn ?_
 refine NX.then_n ?_
 refine CP.seqR ?_
 refine WP.stl 3 ?_
 refine WP.loadB (v := .pointer (some ⟨b2, 0, none⟩)) hB3 (by kernel_rfl) (by kernel_rfl) ?_
 replace hs := Option.bind_eq_some_iff.1 hs
 obtain ⟨⟨x2, d1, x3⟩, hk2, hs⟩ := hs
 dsimp only at hs
 have hcal2 := P.octet_Reader_Num g3 (t + 2) l2 x1 1 a2 n2 c2 b2 hR2 hB2 (by omega) x2 d1 x3 hk2
 refine WP.callC hcal2 (by kernel_rfl) ?_
 rintro _ g4 st4 ⟨a3, n3, c3, rfl, hR3, hB4⟩
 replace hB1 := hB1.mono st4 (WL.no1 (by omega))
 replace hB3 := hB3.mono st4 (WL.no1 (by omega))
 replace tot := tot.trans (st4.up1 (.inr (by omega)))
 clear hB2
 have hB2 := hB4
 clear hB4
 refine WP.stl 1 ?_
 refine WP.buildS (places := #[(0, 1), (1, 10), (11, 18), (29, 1)]) (t := 43) [[.int .i64 0], encA .u8 (zA 8), [.int .i64 0], [.slice none 0 0], encA .u8 (zA 8), [.int .i64 0], encA .u8 (zA 8), [.slice none 0 0], [.slice none 0 0]] [1, 8, 1, 1, 8, 1, 8, 1, 1] (by kernel_rfl) (by kernel_rfl) (by simp [len_encA]) (by kernel_rfl) ((.cons (i := 0) (off := 0) (v := .int .i64 (IntKind.i64.wrap x2)) (mid := [[.int .i64 (IntKind.i64.wrap x2)], encA .u8 (zA 8), [.int .i64 0], [.slice none 0 0], encA .u8 (zA 8), [.int .i64 0], encA .u8 (zA 8), [.slice none 0 0], [.slice none 0 0]]) [[.int .i64 (IntKind.i64.wrap x2)]] [1] (by kernel_rfl) (by kernel_rfl) rfl (by kernel_rfl) .nil)) ?_
 refine WP.alloc (T := 43) (t + 4) [[.int .i64 0], encA .u8 (zA 8), [.int .i64 0], [.slice none 0 0], encA .u8 (zA 8), [.int .i64 0], encA .u8 (zA 8), [.slice none 0 0], [.slice none 0 0]] [1, 8, 1, 1, 8, 1, 8, 1, 1] (by kernel_rfl) (by simp [len_encA]) ?_
 intro g5 b4 st5 hB5
 replace hB1 := hB1.mono st5 (fun x => x)
 replace hB3 := hB3.mono st5 (fun x => x)
 replace hB2 := hB2.mono st5 (fun x => x)
 replace hR3 := hR3.mono st5 (fun x => x)
 replace tot := tot.trans st5.pure
 refine WP.storeB (ty := 43) (off := 0) (v := AG [[.int .i64 (IntKind.i64.wrap x2)], encA .u8 (zA 8), [.int .i64 0], [.slice none 0 0], encA .u8 (zA 8), [.int .i64 0], encA .u8 (zA 8), [.slice none 0 0], [.slice none 0 0]]) hB5 [[.int .i64 (IntKind.i64.wrap x2)], encA .u8 (zA 8), [.int .i64 0], [.slice none 0 0], encA .u8 (zA 8), [.int .i64 0], encA .u8 (zA 8), [.slice none 0 0], [.slice none 0 0]] [1, 8, 1, 1, 8, 1, 8, 1, 1] (by kernel_rfl) (by kernel_rfl) (by simp [len_encA]) (by kernel_rfl) [[.int .i64 (IntKind.i64.wrap x2)], encA .u8 (zA 8), [.int .i64 0], [.slice none 0 0], encA .u8 (zA 8), [.int .i64 0], encA .u8 (zA 8), [.slice none 0 0], [.slice none 0 0]] (by kernel_rfl) (.one rfl (.arr (.one rfl (.one rfl (.arr (.one rfl (.arr (.one rfl (.one rfl .nil))))))))) ?_
 intro g6 st6 hB6
 replace hB1 := hB1.mono st6 (WL.no1 (by omega))
 replace hB3 := hB3.mono st6 (WL.no1 (by omega))
 replace hB2 := hB2.mono st6 (WL.no1 (by omega))
 replace hR3 := hR3.mono st6 (WL.no1 (by omega))
 replace tot := tot.trans (st6.up1 (.inr (by omega)))
 clear hB5
 have hB5 := hB6
 clear hB6
 refine WP.dn ?_
 refine NX.then_n ?_
 refine CP.refr 88 [(2, .pointer (some ⟨b1, 0, none⟩)), (4, .pointer (some ⟨b3, 0, none⟩)), (5, .pointer (some ⟨b4, 0, none⟩))] (by kernel_rfl) (by kernel_rfl) ?_
 clear ds
 intro ds
 refine CP.seqR ?_
 refine WP.stl 1 ?_
 replace hs := Option.bind_eq_some_iff.1 hs
 obtain ⟨⟨d2, d3, x4, q1⟩, hk3, hs⟩ := hs
 dsimp only at hs
 have hcal3 := P.punish_reader_digest g6 (t + 3) (t + 2) d1 x3 false a3 n3 c3 b3 b2 hR3 hB2 hB3 (by omega) (by omega) (by omega) d2 d3 x4 q1 hk3
 refine WP.callC hcal3 (by kernel_rfl) ?_
 rintro _ g7 st7 ⟨a4, n4, c4, rfl, hR4, hB7, hB8⟩
 replace hB1 := hB1.mono st7 (WL.no2 (by omega) (by omega))
 replace hB5 := hB5.mono st7 (WL.no2 (by omega) (by omega))
 replace tot := tot.trans (st7.up2 (.inr (by omega)) (.inr (by omega)))
 clear hB2
 have hB2 := hB7
 clear hB7
 clear hB3
 have hB3 := hB8
 clear hB8
 refine WP.buildS (places := #[(0, 8), (8, 1), (9, 8), (17, 1)]) (t := 91) [encA .u8 (zA 8), [.int .i64 0], encA .u8 (zA 8), [.slice none 0 0]] [8, 1, 8, 1] (by kernel_rfl) (by kernel_rfl) (by simp [len_encA]) (by kernel_rfl) ((.cons (i := 0) (off := 0) (v := AG [encA .u8 d2]) (mid := [encA .u8 d2, [.int .i64 0], encA .u8 (zA 8), [.slice none 0 0]]) [encA .u8 d2] [8] (by kernel_rfl) (by kernel_rfl) (by simp [len_encA]) (by kernel_rfl) .nil)) ?_
 refine WP.alloc (T := 91) (t + 5) [encA .u8 (zA 8), [.int .i64 0], encA .u8 (zA 8), [.slice none 0 0]] [8, 1, 8, 1] (by kernel_rfl) (by simp [len_encA]) ?_
 intro g8 b5 st8 hB9
 replace hB1 := hB1.mono st8 (fun x => x)
 replace hB3 := hB3.mono st8 (fun x => x)
 replace hB2 := hB2.mono st8 (fun x => x)
 replace hR4 := hR4.mono st8 (fun x => x)
 replace hB5 := hB5.mono st8 (fun x => x)
 replace tot := tot.trans st8.pure
 refine WP.storeB (ty := 91) (off := 0) (v := AG [encA .u8 d2, [.int .i64 0], encA .u8 (zA 8), [.slice none 0 0]]) hB9 [encA .u8 d2, [.int .i64 0], encA .u8 (zA 8), [.slice none 0 0]] [8, 1, 8, 1] (by kernel_rfl) (by kernel_rfl) (by simp [len_encA]) (by kernel_rfl) [encA .u8 d2, [.int .i64 0], encA .u8 (zA 8), [.slice none 0 0]] (by kernel_rfl) (.arr (.one rfl (.arr (.one rfl .nil)))) ?_
 intro g9 st9 hB10
 replace hB1 := hB1.mono st9 (WL.no1 (by omega))
 replace hB3 := hB3.mono st9 (WL.no1 (by omega))
 replace hB2 := hB2.mono st9 (WL.no1 (by omega))
 replace hR4 := hR4.mono st9 (WL.no1 (by omega))
 replace hB5 := hB5.mono st9 (WL.no1 (by omega))
 replace tot := tot.trans (st9.up1 (.inr (by omega)))
 clear hB9
 have hB9 := hB10
 clear hB10
 refine WP.dn ?_
 refine NX.then_n ?_
 refine CP.seq ?_
 refine CP.seqR ?_
 refine WP.stl 3 ?_
 refine WP.loadB (v := .bool q1) hB3 (by kernel_rfl) (by kernel_rfl) ?_
 refine WP.dn ?_
 refine NX.then_n ?_
 refine CP.cond (b := q1) (by kernel_rfl) (fun h1 => ?_) (fun h1 => ?_)
 ·replace hs := of_if_t hs h1
  refine CP.seqR ?_
  refine WP.buildS (places := #[(0, 1), (1, 10), (11, 18), (29, 1)]) (t := 43) [[.int .i64 0], encA .u8 (zA 8), [.int .i64 0], [.slice none 0 0], encA .u8 (zA 8), [.int .i64 0], encA .u8 (zA 8), [.slice none 0 0], [.slice none 0 0]] [1, 8, 1, 1, 8, 1, 8, 1, 1] (by kernel_rfl) (by kernel_rfl) (by simp [len_encA]) (by kernel_rfl) (.nil) ?_
  refine WP.storeB (ty := 43) (off := 0) (v := AG [[.int .i64 0], encA .u8 (zA 8), [.int .i64 0], [.slice none 0 0], encA .u8 (zA 8), [.int .i64 0], encA .u8 (zA 8), [.slice none 0 0], [.slice none 0 0]]) hB1 [[.int .i64 0], encA .u8 (zA 8), [.int .i64 0], [.slice none 0 0], encA .u8 (zA 8), [.int .i64 0], encA .u8 (zA 8), [.slice none 0 0], [.slice none 0 0]] [1, 8, 1, 1, 8, 1, 8, 1, 1] (by kernel_rfl) (by kernel_rfl) (by simp [len_encA]) (by kernel_rfl) [[.int .i64 0], encA .u8 (zA 8), [.int .i64 0], [.slice none 0 0], encA .u8 (zA 8), [.int .i64 0], encA .u8 (zA 8), [.slice none 0 0], [.slice none 0 0]] (by kernel_rfl) (.one rfl (.arr (.one rfl (.one rfl (.arr (.one rfl (.arr (.one rfl (.one rfl .nil))))))))) ?_
  intro g10 st10 hB11
  replace hB3 := hB3.mono st10 (WL.no1 (by omega))
  replace hB2 := hB2.mono st10 (WL.no1 (by omega))
  replace hR4 := hR4.mono st10 (WL.no1 (by omega))
  replace hB5 := hB5.mono st10 (WL.no1 (by omega))
  replace hB9 := hB9.mono st10 (WL.no1 (by omega))
  replace tot := tot.trans (st10.up1 (.inr (by omega)))
  clear hB1
  have hB1 := hB11
  clear hB11
  refine WP.stl 1 ?_
  refine WP.dn ?_
  refine NX.then_n ?_
  refine CP.ret ?_
  refine NX.then_r ?_
  replace hs := Option.some.inj hs
  simp only [Prod.mk.injEq] at hs
  obtain ⟨rfl, rfl, rfl, rfl, rfl, rfl, rfl, rfl, rfl, rfl⟩ := hs
  exact NX.fin (v := .tuple #[AG [[.int .i64 0], encA .u8 (zA 8), [.int .i64 0], [.slice none 0 0], encA .u8 (zA 8), [.int .i64 0], encA .u8 (zA 8), [.slice none 0 0], [.slice none 0 0]], .int .i64 3]) (Res.two rfl (RV.box (agg := true) (size := 30) (rs := [[.int .i64 0], encA .u8 (zA 8), [.int .i64 0], [.slice none 0 0], encA .u8 (zA 8), [.int .i64 0], encA .u8 (zA 8), [.slice none 0 0], [.slice none 0 0]]) hB1 (by kernel_rfl) (by kernel_rfl) (by kernel_rfl) (by kernel_rfl)) (RV.tmp (by kernel_rfl))) tot htL ⟨none, 0, 0, none, 0, 0, none, 0, 0, rfl, (RdS.nil _ _ _), (RdS.nil _ _ _), (RdS.nil _ _ _)⟩
 replace hs := of_if_f hs h1
 refine CP.skip ?_
 refine NX.then_n ?_
 refine CP.seqR ?_
 refine WP.stl 3 ?_
 refine WP.loadB (v := .pointer (some ⟨b2, 0, none⟩)) hB3 (by kernel_rfl) (by kernel_rfl) ?_
 replace hs := Option.bind_eq_some_iff.1 hs
 obtain ⟨⟨x5, d4, x6⟩, hk4, hs⟩ := hs
 dsimp only at hs
 have hcal4 := P.octet_Reader_Num g9 (t + 2) d3 x4 1099511627776 a4 n4 c4 b2 hR4 hB2 (by omega) x5 d4 x6 hk4
 refine WP.callC hcal4 (by kernel_rfl) ?_
 rintro _ g11 st11 ⟨a5, n5, c5, rfl, hR5, hB12⟩
 replace hB1 := hB1.mono st11 (WL.no1 (by omega))
 replace hB3 := hB3.mono st11 (WL.no1 (by omega))
 replace hB5 := hB5.mono st11 (WL.no1 (by omega))
 replace hB9 := hB9.mono st11 (WL.no1 (by omega))
 replace tot := tot.trans (st11.up1 (.inr (by omega)))
 clear hB2
 have hB2 := hB12
 clear hB12
 refine WP.stl 2 ?_
 refine WP.storeB (ty := 3) (off := 8) (v := .int .i64 (IntKind.i64.wrap x5)) hB9 [[.int .i64 (IntKind.i64.wrap x5)]] [1] (by kernel_rfl) (by kernel_rfl) rfl (by kernel_rfl) [encA .u8 d2, [.int .i64 (IntKind.i64.wrap x5)], encA .u8 (zA 8), [.slice none 0 0]] (by kernel_rfl) (.one rfl .nil) ?_
 intro g12 st12 hB13
 replace hB1 := hB1.mono st12 (WL.no1 (by omega))
 replace hB3 := hB3.mono st12 (WL.no1 (by omega))
 replace hB2 := hB2.mono st12 (WL.no1 (by omega))
 replace hR5 := hR5.mono st12 (WL.no1 (by omega))
 replace hB5 := hB5.mono st12 (WL.no1 (by omega))
 replace tot := tot.trans (st12.up1 (.inr (by omega)))
 clear hB9
 have hB9 := hB13
 clear hB13
 refine WP.dn ?_
 refine NX.then_n ?_
 refine CP.refr 88 [(2, .pointer (some ⟨b1, 0, none⟩)), (4, .pointer (some ⟨b3, 0, none⟩)), (5, .pointer (some ⟨b4, 0, none⟩)), (6, .pointer (some ⟨b5, 0, none⟩))] (by kernel_rfl) (by kernel_rfl) ?_
 clear ds
 intro ds
 refine CP.cut (fun tm g => ∃ (l3 : List Int) (a7 : Option Addr) (n7 : Nat) (c7 : Nat) (x8 : Int) (q3 : Bool) (d7 : Arr Int 8), Fr 88 [(2, .pointer (some ⟨b1, 0, none⟩)), (4, .pointer (some ⟨b3, 0, none⟩)), (5, .pointer (some ⟨b4, 0, none⟩)), (6, .pointer (some ⟨b5, 0, none⟩))] tm ∧ Step (fun l => NoM l ∨ t ≤ l) g0 g ∧ Box g (t + 1) b1 43 [[.int .i64 0], encA .u8 (zA 8), [.int .i64 0], [.slice none 0 0], encA .u8 (zA 8), [.int .i64 0], encA .u8 (zA 8), [.slice none 0 0], [.slice none 0 0]] [1, 8, 1, 1, 8, 1, 8, 1, 1] ∧ Box g (t + 3) b3 102 [[.pointer (some ⟨b2, 0, none⟩)], [.bool q3]] [1, 1] ∧ Box g (t + 2) b2 138 [[.slice a7 n7 c7], [.int .i64 x8]] [1, 1] ∧ RdS (Kd.int .u8) g 5 a7 n7 c7 l3 ∧ Box g (t + 4) b4 43 [[.int .i64 (IntKind.i64.wrap x2)], encA .u8 (zA 8), [.int .i64 0], [.slice none 0 0], encA .u8 (zA 8), [.int .i64 0], encA .u8 (zA 8), [.slice none 0 0], [.slice none 0 0]] [1, 8, 1, 1, 8, 1, 8, 1, 1] ∧ Box g (t + 5) b5 91 [encA .u8 d2, [.int .i64 (IntKind.i64.wrap x5)], encA .u8 d7, [.slice none 0 0]] [8, 1, 8, 1] ∧ (F.punish_Decode.c1 x2 d2 x5 l3 x8 q3 d7) = some (o1, o2, o3, o4, o5, o6, o7, o8, o9, o10)) ?_ ?_
 ·refine CP.seqR ?_
  refine WP.stl 1 ?_
  refine WP.loadB (v := .int .i64 (IntKind.i64.wrap x2)) hB5 (by kernel_rfl) (by kernel_rfl) ?_
  refine WP.stl 1 ?_
  refine WP.dn ?_
  refine NX.then_n ?_
  refine CP.cond (b := ((IntKind.i64.wrap x2) == 1)) (by kernel_rfl) (fun h7 => ?_) (fun h7 => ?_)
  ·replace hs := of_if_t hs h7
   refine CP.region ?_
   refine WP.stl 1 ?_
   replace hs := Option.bind_eq_some_iff.1 hs
   obtain ⟨⟨d13, d14, x14, q4⟩, hk9, hs⟩ := hs
   dsimp only at hs
   have hcal9 := P.punish_reader_digest g12 (t + 3) (t + 2) d4 x6 q1 a5 n5 c5 b3 b2 hR5 hB2 hB3 (by omega) (by omega) (by omega) d13 d14 x14 q4 hk9
   refine WP.callC hcal9 (by kernel_rfl) ?_
   rintro _ g28 st28 ⟨a14, n14, c14, rfl, hR14, hB28, hB29⟩
   replace hB1 := hB1.mono st28 (WL.no2 (by omega) (by omega))
   replace hB5 := hB5.mono st28 (WL.no2 (by omega) (by omega))
   replace hB9 := hB9.mono st28 (WL.no2 (by omega) (by omega))
   replace tot := tot.trans (st28.up2 (.inr (by omega)) (.inr (by omega)))
   clear hB2
   have hB2 := hB28
   clear hB28
   clear hB3
   have hB3 := hB29
   clear hB29
   refine WP.stl 1 ?_
   refine WP.storeB (ty := 37) (off := 9) (v := AG [encA .u8 d13]) hB9 [encA .u8 d13] [8] (by kernel_rfl) (by kernel_rfl) (by simp [len_encA]) (by kernel_rfl) [encA .u8 d2, [.int .i64 (IntKind.i64.wrap x5)], encA .u8 d13, [.slice none 0 0]] (by kernel_rfl) (.arr .nil) ?_
   intro g29 st29 hB30
   replace hB1 := hB1.mono st29 (WL.no1 (by omega))
   replace hB3 := hB3.mono st29 (WL.no1 (by omega))
   replace hB2 := hB2.mono st29 (WL.no1 (by omega))
   replace hR14 := hR14.mono st29 (WL.no1 (by omega))
   replace hB5 := hB5.mono st29 (WL.no1 (by omega))
   replace tot := tot.trans (st29.up1 (.inr (by omega)))
   clear hB9
   have hB9 := hB30
   clear hB30
   refine WP.dn ?_
   refine NX.post ?_
   exact ⟨d14, a14, n14, c14, x14, q4, d13, ⟨by kernel_rfl, by kernel_rfl⟩, tot, hB1, hB3, hB2, hR14, hB5, hB9, hs⟩
  replace hs := of_if_f hs h7
  refine CP.skip ?_
  refine NX.post ?_
  exact ⟨d4, a5, n5, c5, x6, q1, (zA 8), ⟨by kernel_rfl, by kernel_rfl⟩, tot, hB1, hB3, hB2, hR5, hB5, hB9, hs⟩
 clear tot hs hB1 hB3 hB2 hR5 hB5 hB9
 rintro tm g ⟨l3, a7, n7, c7, x8, q3, d7, hF, tot, hB1, hB3, hB2, hR7, hB5, hB9, hs⟩
 clear ds
 obtain ⟨ds, rfl⟩ := hF.open
 clear hF
 unfold F.punish_Decode.c1 at hs
 refine CP.seq ?_
 refine CP.seqR ?_
 refine WP.stl 3 ?_
 refine WP.loadB (v := .bool q3) hB3 (by kernel_rfl) (by kernel_rfl) ?_
 refine WP.dn ?_
 refine NX.then_n ?_
 refine CP.cond (b := q3) (by kernel_rfl) (fun h3 => ?_) (fun h3 => ?_)
 ·replace hs := of_if_t hs h3
  refine CP.seqR ?_
  refine WP.buildS (places := #[(0, 1), (1, 10), (11, 18), (29, 1)]) (t := 43) [[.int .i64 0], encA .u8 (zA 8), [.int .i64 0], [.slice none 0 0], encA .u8 (zA 8), [.int .i64 0], encA .u8 (zA 8), [.slice none 0 0], [.slice none 0 0]] [1, 8, 1, 1, 8, 1, 8, 1, 1] (by kernel_rfl) (by kernel_rfl) (by simp [len_encA]) (by kernel_rfl) (.nil) ?_
  refine WP.storeB (ty := 43) (off := 0) (v := AG [[.int .i64 0], encA .u8 (zA 8), [.int .i64 0], [.slice none 0 0], encA .u8 (zA 8), [.int .i64 0], encA .u8 (zA 8), [.slice none 0 0], [.slice none 0 0]]) hB1 [[.int .i64 0], encA .u8 (zA 8), [.int .i64 0], [.slice none 0 0], encA .u8 (zA 8), [.int .i64 0], encA .u8 (zA 8), [.slice none 0 0], [.slice none 0 0]] [1, 8, 1, 1, 8, 1, 8, 1, 1] (by kernel_rfl) (by kernel_rfl) (by simp [len_encA]) (by kernel_rfl) [[.int .i64 0], encA .u8 (zA 8), [.int .i64 0], [.slice none 0 0], encA .u8 (zA 8), [.int .i64 0], encA .u8 (zA 8), [.slice none 0 0], [.slice none 0 0]] (by kernel_rfl) (.one rfl (.arr (.one rfl (.one rfl (.arr (.one rfl (.arr (.one rfl (.one rfl .nil))))))))) ?_
  intro g15 st15 hB17
  replace hB3 := hB3.mono st15 (WL.no1 (by omega))
  replace hB2 := hB2.mono st15 (WL.no1 (by omega))
  replace hR7 := hR7.mono st15 (WL.no1 (by omega))
  replace hB5 := hB5.mono st15 (WL.no1 (by omega))
  replace hB9 := hB9.mono st15 (WL.no1 (by omega))
  replace tot := tot.trans (st15.up1 (.inr (by omega)))
  clear hB1
  have hB1 := hB17
  clear hB17
  refine WP.stl 1 ?_
  refine WP.dn ?_
  refine NX.then_n ?_
  refine CP.ret ?_
  refine NX.then_r ?_
  replace hs := Option.some.inj hs
  simp only [Prod.mk.injEq] at hs
  obtain ⟨rfl, rfl, rfl, rfl, rfl, rfl, rfl, rfl, rfl, rfl⟩ := hs
  exact NX.fin (v := .tuple #[AG [[.int .i64 0], encA .u8 (zA 8), [.int .i64 0], [.slice none 0 0], encA .u8 (zA 8), [.int .i64 0], encA .u8 (zA 8), [.slice none 0 0], [.slice none 0 0]], .int .i64 3]) (Res.two rfl (RV.box (agg := true) (size := 30) (rs := [[.int .i64 0], encA .u8 (zA 8), [.int .i64 0], [.slice none 0 0], encA .u8 (zA 8), [.int .i64 0], encA .u8 (zA 8), [.slice none 0 0], [.slice none 0 0]]) hB1 (by kernel_rfl) (by kernel_rfl) (by kernel_rfl) (by kernel_rfl)) (RV.tmp (by kernel_rfl))) tot htL ⟨none, 0, 0, none, 0, 0, none, 0, 0, rfl, (RdS.nil _ _ _), (RdS.nil _ _ _), (RdS.nil _ _ _)⟩
 replace hs := of_if_f hs h3
 refine CP.skip ?_
 refine NX.then_n ?_
 refine CP.seq ?_
 replace hs := Option.bind_eq_some_iff.1 hs
 obtain ⟨⟨l4, d8, x9⟩, hk6, hs⟩ := hs
 dsimp only at hs
 replace hs := Option.bind_eq_some_iff.1 hs
 obtain ⟨⟨l5, d9, x10⟩, hk7, hs⟩ := hs
 dsimp only at hs
 refine CP.drawL (by kernel_rfl) [3, 4, 8, 9, 11, 13] N.punish_Decode_0 [⟨none, [], [], fun l g => Box g (t + 3) b3 102 [[.pointer (some ⟨b2, 0, none⟩)], [.bool q3]] [1, 1]⟩, ⟨none, [0], [], fun l g => Box g (t + 2) b2 138 [[.slice a7 n7 c7], [.int .i64 x8]] [1, 1]⟩, ⟨none, [], [], fun l g => RdS (Kd.int .u8) g 5 a7 n7 c7 l3⟩, ⟨none, [2], [], fun l g => Box g (t + 4) b4 43 [[.int .i64 (IntKind.i64.wrap x2)], encA .u8 (zA 8), [.int .i64 0], [.slice none 0 0], encA .u8 (zA 8), [.int .i64 0], encA .u8 (zA 8), [.slice none 0 0], [.slice none 0 0]] [1, 8, 1, 1, 8, 1, 8, 1, 1]⟩, ⟨none, [1], [], fun l g => Box g (t + 5) b5 91 [encA .u8 d2, [.int .i64 (IntKind.i64.wrap x5)], encA .u8 d7, [.slice none 0 0]] [8, 1, 8, 1]⟩, ⟨some 0, [], [0], fun l g => l.getD 0 undef = .pointer (some ⟨b2, 0, none⟩)⟩, ⟨some 1, [0], [1], fun l g => ∃ (a8 : Option Addr) (c8 : Nat) (a9 : Option Addr) (c9 : Nat), l.getD 0 undef = .slice a8 l4.length c8 ∧ RdS (Kd.int .u8) g 5 a8 l4.length c8 l4 ∧ RdS (Kd.int .u8) g 5 a9 d8.length c9 d8 ∧ Box g (t + 2) b2 138 [[.slice a9 d8.length c9], [.int .i64 x9]] [1, 1]⟩, ⟨some 2, [], [2], fun l g => l.getD 0 undef = .pointer (some ⟨b2, 0, none⟩)⟩, ⟨some 3, [0], [3], fun l g => ∃ (a10 : Option Addr) (c10 : Nat) (a11 : Option Addr) (c11 : Nat), l.getD 0 undef = .slice a10 l5.length c10 ∧ RdS (Kd.int .u8) g 5 a10 l5.length c10 l5 ∧ RdS (Kd.int .u8) g 5 a11 d9.length c11 d9 ∧ Box g (t + 2) b2 138 [[.slice a11 d9.length c11], [.int .i64 x10]] [1, 1]⟩, ⟨some 3, [], [1], fun l g => ∃ (a8 : Option Addr) (c8 : Nat) (a9 : Option Addr) (c9 : Nat), l.getD 0 undef = .slice a8 l4.length c8 ∧ RdS (Kd.int .u8) g 5 a8 l4.length c8 l4 ∧ RdS (Kd.int .u8) g 5 a9 d8.length c9 d8⟩, ⟨some 4, [1], [1], fun l g => ∃ (a8 : Option Addr) (c8 : Nat) (a9 : Option Addr) (c9 : Nat), l.getD 0 undef = .slice a8 l4.length c8 ∧ RdS (Kd.int .u8) g 5 a8 l4.length c8 l4 ∧ RdS (Kd.int .u8) g 5 a9 d8.length c9 d8 ∧ Box g (t + 5) b5 91 [encA .u8 d2, [.int .i64 (IntKind.i64.wrap x5)], encA .u8 d7, [.slice a8 l4.length c8]] [8, 1, 8, 1]⟩, ⟨some 5, [0, 2], [3], fun l g => ∃ (a10 : Option Addr) (c10 : Nat) (a11 : Option Addr) (c11 : Nat), l.getD 0 undef = .slice a10 l5.length c10 ∧ RdS (Kd.int .u8) g 5 a10 l5.length c10 l5 ∧ RdS (Kd.int .u8) g 5 a11 d9.length c11 d9 ∧ Box g (t + 2) b2 138 [[.slice a11 d9.length c11], [.int .i64 x10]] [1, 1] ∧ Box g (t + 4) b4 43 [[.int .i64 (IntKind.i64.wrap x2)], encA .u8 (zA 8), [.int .i64 0], [.slice none 0 0], encA .u8 (zA 8), [.int .i64 0], encA .u8 (zA 8), [.slice none 0 0], [.slice a10 l5.length c10]] [1, 8, 1, 1, 8, 1, 8, 1, 1]⟩] [[], [0], [], [0], [1], [2]] [(t + 2), (t + 5), (t + 4)] [0, 1, 2, 5, 6, 7, 10, 12] [] (by kernel_rfl) (by simp <;> omega) (by simp <;> omega) ⟨fun _ _ _ _ st h0 hl hj hB3 => (hB3.mono st (fun h => absurd (hl _ h) (by simp <;> omega))), fun _ _ _ _ st h0 hl hj hB2 => (hB2.mono st (hj 0 (by simp) _ rfl)), fun _ _ _ _ st h0 hl hj hR7 => (RdS.mono (e := 5) hR7 st h0), fun _ _ _ _ st h0 hl hj hB5 => (hB5.mono st (hj 2 (by simp) _ rfl)), fun _ _ _ _ st h0 hl hj hB9 => (hB9.mono st (hj 1 (by simp) _ rfl)), fun _ _ _ _ st h0 hl hj e0 => e0, fun _ _ _ _ st h0 hl hj ⟨a8, c8, a9, c9, e1, hR8, hR9, hB2⟩ => ⟨a8, c8, a9, c9, e1, (RdS.mono (e := 5) hR8 st h0), (RdS.mono (e := 5) hR9 st h0), (hB2.mono st (hj 0 (by simp) _ rfl))⟩, fun _ _ _ _ st h0 hl hj e2 => e2, fun _ _ _ _ st h0 hl hj ⟨a10, c10, a11, c11, e3, hR10, hR11, hB2⟩ => ⟨a10, c10, a11, c11, e3, (RdS.mono (e := 5) hR10 st h0), (RdS.mono (e := 5) hR11 st h0), (hB2.mono st (hj 0 (by simp) _ rfl))⟩, fun _ _ _ _ st h0 hl hj ⟨a8, c8, a9, c9, e1, hR8, hR9⟩ => ⟨a8, c8, a9, c9, e1, (RdS.mono (e := 5) hR8 st h0), (RdS.mono (e := 5) hR9 st h0)⟩, fun _ _ _ _ st h0 hl hj ⟨a8, c8, a9, c9, e1, hR8, hR9, hB9⟩ => ⟨a8, c8, a9, c9, e1, (RdS.mono (e := 5) hR8 st h0), (RdS.mono (e := 5) hR9 st h0), (hB9.mono st (hj 1 (by simp) _ rfl))⟩, fun _ _ _ _ st h0 hl hj ⟨a10, c10, a11, c11, e3, hR10, hR11, hB2, hB5⟩ => ⟨a10, c10, a11, c11, e3, (RdS.mono (e := 5) hR10 st h0), (RdS.mono (e := 5) hR11 st h0), (hB2.mono st (hj 0 (by simp) _ rfl)), (hB5.mono st (hj 2 (by simp) _ rfl))⟩, tv⟩ ⟨hB3, hB2, hR7, hB5, hB9, tv, tv, tv, tv, tv, tv, tv, tv⟩ (by kernel_rfl) (fun vs => by kernel_rfl) ?_ ?_ ?_
 ·intro j hj; exact absurd hj (by simp)
 ·intro j hj
  have hq : j = 0 ∨ j = 1 ∨ j = 2 ∨ j = 3 ∨ j = 4 ∨ j = 5 := by have h : j < 6 := hj; omega
  rcases hq with rfl | rfl | rfl | rfl | rfl | rfl
  ·intro vs gq stq hl hf
   obtain ⟨v0, v1, v2, v3, v4, v5, rfl⟩ := len_k6 hl
   have hB3 := (show Box gq (t + 3) b3 102 [[.pointer (some ⟨b2, 0, none⟩)], [.bool q3]] [1, 1] from hf _ (memI 0 rfl) (by kernel_rfl))
   refine WP.loadB (v := .pointer (some ⟨b2, 0, none⟩)) hB3 (by kernel_rfl) (by kernel_rfl) ?_
   refine WP.dn (Shown.ok (v := .pointer (some ⟨b2, 0, none⟩)) (by kernel_rfl) (Step.refl _ _) ?_)
   exact ⟨tv, tv, tv, tv, tv, rfl, tv, tv, tv, tv, tv, tv, tv⟩
  ·intro vs gq stq hl hf
   obtain ⟨v0, v1, v2, v3, v4, v5, rfl⟩ := len_k6 hl
   have hB2 := (show Box gq (t + 2) b2 138 [[.slice a7 n7 c7], [.int .i64 x8]] [1, 1] from hf _ (memI 1 rfl) (by kernel_rfl))
   have hR7 := (show RdS (Kd.int .u8) gq 5 a7 n7 c7 l3 from hf _ (memI 2 rfl) (by kernel_rfl))
   have e0 := (show v0 = .pointer (some ⟨b2, 0, none⟩) from hf _ (memI 5 rfl) (by kernel_rfl))
   subst e0
   have hcal6 := P.octet_Reader_Bytes gq (t + 2) l3 x8 4096 a7 n7 c7 b2 hR7 hB2 (by omega) l4 d8 x9 hk6
   refine WP.callC hcal6 (by kernel_rfl) ?_
   rintro _ g16 st16 ⟨a8, n8, c8, a9, n9, c9, rfl, hR8, hR9, hB18⟩
   obtain rfl := hR8.len
   obtain rfl := hR9.len
   refine WP.dn (Shown.o (v := .slice a8 l4.length c8) st16 ?_)
   exact ⟨tv, tv, tv, tv, tv, tv, ⟨a8, c8, a9, c9, rfl, hR8, hR9, hB18⟩, tv, tv, tv, tv, tv, tv⟩
  ·intro vs gq stq hl hf
   obtain ⟨v0, v1, v2, v3, v4, v5, rfl⟩ := len_k6 hl
   have hB3 := (show Box gq (t + 3) b3 102 [[.pointer (some ⟨b2, 0, none⟩)], [.bool q3]] [1, 1] from hf _ (memI 0 rfl) (by kernel_rfl))
   refine WP.loadB (v := .pointer (some ⟨b2, 0, none⟩)) hB3 (by kernel_rfl) (by kernel_rfl) ?_
   refine WP.dn (Shown.ok (v := .pointer (some ⟨b2, 0, none⟩)) (by kernel_rfl) (Step.refl _ _) ?_)
   exact ⟨tv, tv, tv, tv, tv, tv, tv, rfl, tv, tv, tv, tv, tv⟩
  ·intro vs gq stq hl hf
   obtain ⟨v0, v1, v2, v3, v4, v5, rfl⟩ := len_k6 hl
   obtain ⟨a8, c8, a9, c9, e1, hR8, hR9, hB2⟩ := (show ∃ (a8 : Option Addr) (c8 : Nat) (a9 : Option Addr) (c9 : Nat), v1 = .slice a8 l4.length c8 ∧ RdS (Kd.int .u8) gq 5 a8 l4.length c8 l4 ∧ RdS (Kd.int .u8) gq 5 a9 d8.length c9 d8 ∧ Box gq (t + 2) b2 138 [[.slice a9 d8.length c9], [.int .i64 x9]] [1, 1] from hf _ (memI 6 rfl) (by kernel_rfl))
   subst e1
   have e2 := (show v2 = .pointer (some ⟨b2, 0, none⟩) from hf _ (memI 7 rfl) (by kernel_rfl))
   subst e2
   have hcal7 := P.octet_Reader_Bytes gq (t + 2) d8 x9 4096 a9 d8.length c9 b2 hR9 hB2 (by omega) l5 d9 x10 hk7
   refine WP.callC hcal7 (by kernel_rfl) ?_
   rintro _ g17 st17 ⟨a10, n10, c10, a11, n11, c11, rfl, hR10, hR11, hB19⟩
   obtain rfl := hR10.len
   obtain rfl := hR11.len
   refine WP.dn (Shown.o (v := .slice a10 l5.length c10) st17 ?_)
   exact ⟨tv, tv, tv, tv, tv, tv, tv, tv, ⟨a10, c10, a11, c11, rfl, hR10, hR11, hB19⟩, ⟨a8, c8, a9, c9, rfl, (hR8.mono st17 (WL.no (by simp <;> omega))), (hR9.mono st17 (WL.no (by simp <;> omega)))⟩, tv, tv, tv⟩
  ·intro vs gq stq hl hf
   obtain ⟨v0, v1, v2, v3, v4, v5, rfl⟩ := len_k6 hl
   have hB9 := (show Box gq (t + 5) b5 91 [encA .u8 d2, [.int .i64 (IntKind.i64.wrap x5)], encA .u8 d7, [.slice none 0 0]] [8, 1, 8, 1] from hf _ (memI 4 rfl) (by kernel_rfl))
   obtain ⟨a8, c8, a9, c9, e1, hR8, hR9⟩ := (show ∃ (a8 : Option Addr) (c8 : Nat) (a9 : Option Addr) (c9 : Nat), v1 = .slice a8 l4.length c8 ∧ RdS (Kd.int .u8) gq 5 a8 l4.length c8 l4 ∧ RdS (Kd.int .u8) gq 5 a9 d8.length c9 d8 from hf _ (memI 9 rfl) (by kernel_rfl))
   subst e1
   refine WP.storeB (ty := 33) (off := 17) (v := .slice a8 l4.length c8) hB9 [[.slice a8 l4.length c8]] [1] (by kernel_rfl) (by kernel_rfl) rfl (by kernel_rfl) [encA .u8 d2, [.int .i64 (IntKind.i64.wrap x5)], encA .u8 d7, [.slice a8 l4.length c8]] (by kernel_rfl) (.one rfl .nil) ?_
   intro g18 st18 hB20
   refine WP.dn (Shown.o (v := undef) st18 ?_)
   exact ⟨tv, tv, tv, tv, tv, tv, tv, tv, tv, tv, ⟨a8, c8, a9, c9, rfl, (hR8.mono st18 (WL.no (by simp <;> omega))), (hR9.mono st18 (WL.no (by simp <;> omega))), hB20⟩, tv, tv⟩
  ·intro vs gq stq hl hf
   obtain ⟨v0, v1, v2, v3, v4, v5, rfl⟩ := len_k6 hl
   have hB5 := (show Box gq (t + 4) b4 43 [[.int .i64 (IntKind.i64.wrap x2)], encA .u8 (zA 8), [.int .i64 0], [.slice none 0 0], encA .u8 (zA 8), [.int .i64 0], encA .u8 (zA 8), [.slice none 0 0], [.slice none 0 0]] [1, 8, 1, 1, 8, 1, 8, 1, 1] from hf _ (memI 3 rfl) (by kernel_rfl))
   obtain ⟨a10, c10, a11, c11, e3, hR10, hR11, hB2⟩ := (show ∃ (a10 : Option Addr) (c10 : Nat) (a11 : Option Addr) (c11 : Nat), v3 = .slice a10 l5.length c10 ∧ RdS (Kd.int .u8) gq 5 a10 l5.length c10 l5 ∧ RdS (Kd.int .u8) gq 5 a11 d9.length c11 d9 ∧ Box gq (t + 2) b2 138 [[.slice a11 d9.length c11], [.int .i64 x10]] [1, 1] from hf _ (memI 8 rfl) (by kernel_rfl))
   subst e3
   refine WP.storeB (ty := 33) (off := 29) (v := .slice a10 l5.length c10) hB5 [[.slice a10 l5.length c10]] [1] (by kernel_rfl) (by kernel_rfl) rfl (by kernel_rfl) [[.int .i64 (IntKind.i64.wrap x2)], encA .u8 (zA 8), [.int .i64 0], [.slice none 0 0], encA .u8 (zA 8), [.int .i64 0], encA .u8 (zA 8), [.slice none 0 0], [.slice a10 l5.length c10]] (by kernel_rfl) (.one rfl .nil) ?_
   intro g19 st19 hB21
   refine WP.dn (Shown.o (v := undef) st19 ?_)
   exact ⟨tv, tv, tv, tv, tv, tv, tv, tv, tv, tv, tv, ⟨a10, c10, a11, c11, rfl, (hR10.mono st19 (WL.no (by simp <;> omega))), (hR11.mono st19 (WL.no (by simp <;> omega))), (hB2.mono st19 (WL.no (by simp <;> omega))), hB21⟩, tv⟩
 intro vs g20 st20 hl hf
 obtain ⟨v0, v1, v2, v3, v4, v5, rfl⟩ := len_k6 hl
 obtain ⟨a8, c8, a9, c9, e1, hR8, hR9, hB9⟩ := (show ∃ (a8 : Option Addr) (c8 : Nat) (a9 : Option Addr) (c9 : Nat), v1 = .slice a8 l4.length c8 ∧ RdS (Kd.int .u8) g20 5 a8 l4.length c8 l4 ∧ RdS (Kd.int .u8) g20 5 a9 d8.length c9 d8 ∧ Box g20 (t + 5) b5 91 [encA .u8 d2, [.int .i64 (IntKind.i64.wrap x5)], encA .u8 d7, [.slice a8 l4.length c8]] [8, 1, 8, 1] from hf _ (memI 10 rfl) (by kernel_rfl))
 subst e1
 obtain ⟨a10, c10, a11, c11, e3, hR10, hR11, hB2, hB5⟩ := (show ∃ (a10 : Option Addr) (c10 : Nat) (a11 : Option Addr) (c11 : Nat), v3 = .slice a10 l5.length c10 ∧ RdS (Kd.int .u8) g20 5 a10 l5.length c10 l5 ∧ RdS (Kd.int .u8) g20 5 a11 d9.length c11 d9 ∧ Box g20 (t + 2) b2 138 [[.slice a11 d9.length c11], [.int .i64 x10]] [1, 1] ∧ Box g20 (t + 4) b4 43 [[.int .i64 (IntKind.i64.wrap x2)], encA .u8 (zA 8), [.int .i64 0], [.slice none 0 0], encA .u8 (zA 8), [.int .i64 0], encA .u8 (zA 8), [.slice none 0 0], [.slice a10 l5.length c10]] [1, 8, 1, 1, 8, 1, 8, 1, 1] from hf _ (memI 11 rfl) (by kernel_rfl))
 subst e3
 replace hB1 := hB1.mono st20 (WL.no3 (by omega) (by omega) (by omega))
 replace hB3 := hB3.mono st20 (WL.no3 (by omega) (by omega) (by omega))
 replace tot := tot.trans (st20.up3 (.inr (by omega)) (.inr (by omega)) (.inr (by omega)))
 refine NX.then_n ?_
 refine CP.refr 88 [(2, .pointer (some ⟨b1, 0, none⟩)), (4, .pointer (some ⟨b3, 0, none⟩)), (5, .pointer (some ⟨b4, 0, none⟩)), (6, .pointer (some ⟨b5, 0, none⟩))] (by kernel_rfl) (by kernel_rfl) ?_
 clear ds
 intro ds
 refine CP.seq ?_
 refine CP.seqR ?_
 refine WP.stl 3 ?_
 refine WP.loadB (v := .pointer (some ⟨b2, 0, none⟩)) hB3 (by kernel_rfl) (by kernel_rfl) ?_
 replace hs := Option.bind_eq_some_iff.1 hs
 obtain ⟨x11, hk8, hs⟩ := hs
 have hcal8 := P.octet_Reader_End g20 (t + 2) d9 x10 a11 d9.length c11 b2 hR11 hB2 (by omega) x11 hk8
 refine WP.callC hcal8 (by kernel_rfl) ?_
 rintro _ g21 st21 rfl
 replace hB1 := hB1.mono st21 (fun x => x)
 replace hB3 := hB3.mono st21 (fun x => x)
 replace hB2 := hB2.mono st21 (fun x => x)
 replace hR11 := hR11.mono st21 (fun x => x)
 replace hB5 := hB5.mono st21 (fun x => x)
 replace hR10 := hR10.mono st21 (fun x => x)
 replace hB9 := hB9.mono st21 (fun x => x)
 replace hR8 := hR8.mono st21 (fun x => x)
 replace tot := tot.trans st21.pure
 refine WP.stl 1 ?_
 refine WP.dn ?_
 refine NX.then_n ?_
 refine CP.seqR ?_
 refine WP.stl 2 ?_
 refine WP.dn ?_
 refine NX.then_n ?_
 refine CP.cond (b := (x11 != 0)) (by kernel_rfl) (fun h4 => ?_) (fun h4 => ?_)
 ·replace hs := of_if_t hs h4
  refine CP.seqR ?_
  refine WP.buildS (places := #[(0, 1), (1, 10), (11, 18), (29, 1)]) (t := 43) [[.int .i64 0], encA .u8 (zA 8), [.int .i64 0], [.slice none 0 0], encA .u8 (zA 8), [.int .i64 0], encA .u8 (zA 8), [.slice none 0 0], [.slice none 0 0]] [1, 8, 1, 1, 8, 1, 8, 1, 1] (by kernel_rfl) (by kernel_rfl) (by simp [len_encA]) (by kernel_rfl) (.nil) ?_
  refine WP.stl 1 ?_
  refine WP.storeB (ty := 43) (off := 0) (v := AG [[.int .i64 0], encA .u8 (zA 8), [.int .i64 0], [.slice none 0 0], encA .u8 (zA 8), [.int .i64 0], encA .u8 (zA 8), [.slice none 0 0], [.slice none 0 0]]) hB1 [[.int .i64 0], encA .u8 (zA 8), [.int .i64 0], [.slice none 0 0], encA .u8 (zA 8), [.int .i64 0], encA .u8 (zA 8), [.slice none 0 0], [.slice none 0 0]] [1, 8, 1, 1, 8, 1, 8, 1, 1] (by kernel_rfl) (by kernel_rfl) (by simp [len_encA]) (by kernel_rfl) [[.int .i64 0], encA .u8 (zA 8), [.int .i64 0], [.slice none 0 0], encA .u8 (zA 8), [.int .i64 0], encA .u8 (zA 8), [.slice none 0 0], [.slice none 0 0]] (by kernel_rfl) (.one rfl (.arr (.one rfl (.one rfl (.arr (.one rfl (.arr (.one rfl (.one rfl .nil))))))))) ?_
  intro g22 st22 hB22
  replace hB5 := hB5.mono st22 (WL.no1 (by omega))
  replace hR10 := hR10.mono st22 (WL.no1 (by omega))
  replace hB9 := hB9.mono st22 (WL.no1 (by omega))
  replace hR8 := hR8.mono st22 (WL.no1 (by omega))
  replace tot := tot.trans (st22.up1 (.inr (by omega)))
  clear hB1
  have hB1 := hB22
  clear hB22
  refine WP.stl 1 ?_
  refine WP.dn ?_
  refine NX.then_n ?_
  refine CP.ret ?_
  refine NX.then_r ?_
  replace hs := Option.some.inj hs
  simp only [Prod.mk.injEq] at hs
  obtain ⟨rfl, rfl, rfl, rfl, rfl, rfl, rfl, rfl, rfl, rfl⟩ := hs
  exact NX.fin (v := .tuple #[AG [[.int .i64 0], encA .u8 (zA 8), [.int .i64 0], [.slice none 0 0], encA .u8 (zA 8), [.int .i64 0], encA .u8 (zA 8), [.slice none 0 0], [.slice none 0 0]], .int .i64 x11]) (Res.two rfl (RV.box (agg := true) (size := 30) (rs := [[.int .i64 0], encA .u8 (zA 8), [.int .i64 0], [.slice none 0 0], encA .u8 (zA 8), [.int .i64 0], encA .u8 (zA 8), [.slice none 0 0], [.slice none 0 0]]) hB1 (by kernel_rfl) (by kernel_rfl) (by kernel_rfl) (by kernel_rfl)) (RV.tmp (by kernel_rfl))) tot htL ⟨none, 0, 0, none, 0, 0, none, 0, 0, rfl, (RdS.nil _ _ _), (RdS.nil _ _ _), (RdS.nil _ _ _)⟩
 replace hs := of_if_f hs h4
 refine CP.skip ?_
 refine NX.then_n ?_
 refine CP.cut (fun tm g => ∃ (d10 : Arr Int 8) (x12 : Int) (l6 : List Int) (a12 : Option Addr) (n12 : Nat) (c12 : Nat) (d11 : Arr Int 8) (x13 : Int) (d12 : Arr Int 8) (l7 : List Int) (a13 : Option Addr) (n13 : Nat) (c13 : Nat), Fr 88 [(2, .pointer (some ⟨b1, 0, none⟩)), (5, .pointer (some ⟨b4, 0, none⟩))] tm ∧ Step (fun l => NoM l ∨ t ≤ l) g0 g ∧ Box g (t + 1) b1 43 [[.int .i64 0], encA .u8 (zA 8), [.int .i64 0], [.slice none 0 0], encA .u8 (zA 8), [.int .i64 0], encA .u8 (zA 8), [.slice none 0 0], [.slice none 0 0]] [1, 8, 1, 1, 8, 1, 8, 1, 1] ∧ Box g (t + 4) b4 43 [[.int .i64 (IntKind.i64.wrap x2)], encA .u8 d10, [.int .i64 x12], [.slice a12 n12 c12], encA .u8 d11, [.int .i64 x13], encA .u8 d12, [.slice a13 n13 c13], [.slice a10 l5.length c10]] [1, 8, 1, 1, 8, 1, 8, 1, 1] ∧ RdS (Kd.int .u8) g 5 a12 n12 c12 l6 ∧ RdS (Kd.int .u8) g 5 a13 n13 c13 l7 ∧ RdS (Kd.int .u8) g 5 a10 l5.length c10 l5 ∧ (F.punish_Decode.c2 x2 l5 d10 x12 l6 d11 x13 d12 l7) = some (o1, o2, o3, o4, o5, o6, o7, o8, o9, o10)) ?_ ?_
 ·refine CP.seqR ?_
  refine WP.stl 1 ?_
  refine WP.loadB (v := .int .i64 (IntKind.i64.wrap x2)) hB5 (by kernel_rfl) (by kernel_rfl) ?_
  refine WP.stl 1 ?_
  refine WP.dn ?_
  refine NX.then_n ?_
  refine CP.cond (b := ((IntKind.i64.wrap x2) == 0)) (by kernel_rfl) (fun h6 => ?_) (fun h6 => ?_)
  ·replace hs := of_if_t hs h6
   refine CP.region ?_
   refine WP.stl 1 ?_
   refine WP.loadB (v := AG [encA .u8 d2]) hB9 (by kernel_rfl) (by kernel_rfl) ?_
   refine WP.stl 1 ?_
   refine WP.loadB (v := .int .i64 (IntKind.i64.wrap x5)) hB9 (by kernel_rfl) (by kernel_rfl) ?_
   refine WP.stl 1 ?_
   refine WP.loadB (v := .slice a8 l4.length c8) hB9 (by kernel_rfl) (by kernel_rfl) ?_
   refine WP.buildS (places := #[(0, 8), (8, 1), (9, 1)]) (t := 39) [encA .u8 (zA 8), [.int .i64 0], [.slice none 0 0]] [8, 1, 1] (by kernel_rfl) (by kernel_rfl) (by simp [len_encA]) (by kernel_rfl) ((.cons (i := 0) (off := 0) (v := AG [encA .u8 d2]) (mid := [encA .u8 d2, [.int .i64 0], [.slice none 0 0]]) [encA .u8 d2] [8] (by kernel_rfl) (by kernel_rfl) (by simp [len_encA]) (by kernel_rfl) (.cons (i := 1) (off := 8) (v := .int .i64 (IntKind.i64.wrap x5)) (mid := [encA .u8 d2, [.int .i64 (IntKind.i64.wrap x5)], [.slice none 0 0]]) [[.int .i64 (IntKind.i64.wrap x5)]] [1] (by kernel_rfl) (by kernel_rfl) rfl (by kernel_rfl) (.cons (i := 2) (off := 9) (v := .slice a8 l4.length c8) (mid := [encA .u8 d2, [.int .i64 (IntKind.i64.wrap x5)], [.slice a8 l4.length c8]]) [[.slice a8 l4.length c8]] [1] (by kernel_rfl) (by kernel_rfl) rfl (by kernel_rfl) .nil)))) ?_
   refine WP.stl 1 ?_
   refine WP.storeB (ty := 39) (off := 1) (v := AG [encA .u8 d2, [.int .i64 (IntKind.i64.wrap x5)], [.slice a8 l4.length c8]]) hB5 [encA .u8 d2, [.int .i64 (IntKind.i64.wrap x5)], [.slice a8 l4.length c8]] [8, 1, 1] (by kernel_rfl) (by kernel_rfl) (by simp [len_encA]) (by kernel_rfl) [[.int .i64 (IntKind.i64.wrap x2)], encA .u8 d2, [.int .i64 (IntKind.i64.wrap x5)], [.slice a8 l4.length c8], encA .u8 (zA 8), [.int .i64 0], encA .u8 (zA 8), [.slice none 0 0], [.slice a10 l5.length c10]] (by kernel_rfl) (.arr (.one rfl (.one rfl .nil))) ?_
   intro g26 st26 hB26
   replace hB1 := hB1.mono st26 (WL.no1 (by omega))
   replace hR8 := hR8.mono st26 (WL.no1 (by omega))
   replace hR10 := hR10.mono st26 (WL.no1 (by omega))
   replace hB9 := hB9.mono st26 (WL.no1 (by omega))
   replace tot := tot.trans (st26.up1 (.inr (by omega)))
   clear hB5
   have hB5 := hB26
   clear hB26
   refine WP.dn ?_
   refine NX.post ?_
   exact ⟨d2, (IntKind.i64.wrap x5), l4, a8, l4.length, c8, (zA 8), 0, (zA 8), [], none, 0, 0, ⟨by kernel_rfl, by kernel_rfl⟩, tot, hB1, hB5, hR8, (RdS.nil _ _ _), hR10, hs⟩
  replace hs := of_if_f hs h6
  refine CP.region ?_
  refine WP.stl 1 ?_
  refine WP.loadB (v := AG [encA .u8 d2]) hB9 (by kernel_rfl) (by kernel_rfl) ?_
  refine WP.stl 1 ?_
  refine WP.loadB (v := .int .i64 (IntKind.i64.wrap x5)) hB9 (by kernel_rfl) (by kernel_rfl) ?_
  refine WP.stl 1 ?_
  refine WP.loadB (v := AG [encA .u8 d7]) hB9 (by kernel_rfl) (by kernel_rfl) ?_
  refine WP.stl 1 ?_
  refine WP.loadB (v := .slice a8 l4.length c8) hB9 (by kernel_rfl) (by kernel_rfl) ?_
  refine WP.buildS (places := #[(0, 8), (8, 1), (9, 8), (17, 1)]) (t := 41) [encA .u8 (zA 8), [.int .i64 0], encA .u8 (zA 8), [.slice none 0 0]] [8, 1, 8, 1] (by kernel_rfl) (by kernel_rfl) (by simp [len_encA]) (by kernel_rfl) ((.cons (i := 0) (off := 0) (v := AG [encA .u8 d2]) (mid := [encA .u8 d2, [.int .i64 0], encA .u8 (zA 8), [.slice none 0 0]]) [encA .u8 d2] [8] (by kernel_rfl) (by kernel_rfl) (by simp [len_encA]) (by kernel_rfl) (.cons (i := 1) (off := 8) (v := .int .i64 (IntKind.i64.wrap x5)) (mid := [encA .u8 d2, [.int .i64 (IntKind.i64.wrap x5)], encA .u8 (zA 8), [.slice none 0 0]]) [[.int .i64 (IntKind.i64.wrap x5)]] [1] (by kernel_rfl) (by kernel_rfl) rfl (by kernel_rfl) (.cons (i := 2) (off := 9) (v := AG [encA .u8 d7]) (mid := [encA .u8 d2, [.int .i64 (IntKind.i64.wrap x5)], encA .u8 d7, [.slice none 0 0]]) [encA .u8 d7] [8] (by kernel_rfl) (by kernel_rfl) (by simp [len_encA]) (by kernel_rfl) (.cons (i := 3) (off := 17) (v := .slice a8 l4.length c8) (mid := [encA .u8 d2, [.int .i64 (IntKind.i64.wrap x5)], encA .u8 d7, [.slice a8 l4.length c8]]) [[.slice a8 l4.length c8]] [1] (by kernel_rfl) (by kernel_rfl) rfl (by kernel_rfl) .nil))))) ?_
  refine WP.stl 1 ?_
  refine WP.storeB (ty := 41) (off := 11) (v := AG [encA .u8 d2, [.int .i64 (IntKind.i64.wrap x5)], encA .u8 d7, [.slice a8 l4.length c8]]) hB5 [encA .u8 d2, [.int .i64 (IntKind.i64.wrap x5)], encA .u8 d7, [.slice a8 l4.length c8]] [8, 1, 8, 1] (by kernel_rfl) (by kernel_rfl) (by simp [len_encA]) (by kernel_rfl) [[.int .i64 (IntKind.i64.wrap x2)], encA .u8 (zA 8), [.int .i64 0], [.slice none 0 0], encA .u8 d2, [.int .i64 (IntKind.i64.wrap x5)], encA .u8 d7, [.slice a8 l4.length c8], [.slice a10 l5.length c10]] (by kernel_rfl) (.arr (.one rfl (.arr (.one rfl .nil)))) ?_
  intro g27 st27 hB27
  replace hB1 := hB1.mono st27 (WL.no1 (by omega))
  replace hR8 := hR8.mono st27 (WL.no1 (by omega))
  replace hR10 := hR10.mono st27 (WL.no1 (by omega))
  replace hB9 := hB9.mono st27 (WL.no1 (by omega))
  replace tot := tot.trans (st27.up1 (.inr (by omega)))
  clear hB5
  have hB5 := hB27
  clear hB27
  refine WP.dn ?_
  refine NX.post ?_
  exact ⟨(zA 8), 0, [], none, 0, 0, d2, (IntKind.i64.wrap x5), d7, l4, a8, l4.length, c8, ⟨by kernel_rfl, by kernel_rfl⟩, tot, hB1, hB5, (RdS.nil _ _ _), hR8, hR10, hs⟩
 clear tot hs hB1 hB5 hR10 hB9 hR8
 rintro tm g ⟨d10, x12, l6, a12, n12, c12, d11, x13, d12, l7, a13, n13, c13, hF, tot, hB1, hB5, hR12, hR13, hR10, hs⟩
 clear ds
 obtain ⟨ds, rfl⟩ := hF.open
 clear hF
 unfold F.punish_Decode.c2 at hs
 refine CP.seqR ?_
 refine WP.loadB (v := AG [[.int .i64 (IntKind.i64.wrap x2)], encA .u8 d10, [.int .i64 x12], [.slice a12 n12 c12], encA .u8 d11, [.int .i64 x13], encA .u8 d12, [.slice a13 n13 c13], [.slice a10 l5.length c10]]) hB5 (by kernel_rfl) (by kernel_rfl) ?_
 refine WP.storeB (ty := 43) (off := 0) (v := AG [[.int .i64 (IntKind.i64.wrap x2)], encA .u8 d10, [.int .i64 x12], [.slice a12 n12 c12], encA .u8 d11, [.int .i64 x13], encA .u8 d12, [.slice a13 n13 c13], [.slice a10 l5.length c10]]) hB1 [[.int .i64 (IntKind.i64.wrap x2)], encA .u8 d10, [.int .i64 x12], [.slice a12 n12 c12], encA .u8 d11, [.int .i64 x13], encA .u8 d12, [.slice a13 n13 c13], [.slice a10 l5.length c10]] [1, 8, 1, 1, 8, 1, 8, 1, 1] (by kernel_rfl) (by kernel_rfl) (by simp [len_encA]) (by kernel_rfl) [[.int .i64 (IntKind.i64.wrap x2)], encA .u8 d10, [.int .i64 x12], [.slice a12 n12 c12], encA .u8 d11, [.int .i64 x13], encA .u8 d12, [.slice a13 n13 c13], [.slice a10 l5.length c10]] (by kernel_rfl) (.one rfl (.arr (.one rfl (.one rfl (.arr (.one rfl (.arr (.one rfl (.one rfl .nil))))))))) ?_
 intro g25 st25 hB25
 replace hR12 := hR12.mono st25 (WL.no1 (by omega))
 replace hR13 := hR13.mono st25 (WL.no1 (by omega))
 replace hR10 := hR10.mono st25 (WL.no1 (by omega))
 replace hB5 := hB5.mono st25 (WL.no1 (by omega))
 replace tot := tot.trans (st25.up1 (.inr (by omega)))
 clear hB1
 have hB1 := hB25
 clear hB25
 refine WP.stl 1 ?_
 refine WP.dn ?_
 refine NX.then_n ?_
 refine CP.ret ?_
 replace hs := Option.some.inj hs
 simp only [Prod.mk.injEq] at hs
 obtain ⟨rfl, rfl, rfl, rfl, rfl, rfl, rfl, rfl, rfl, rfl⟩ := hs
 exact NX.fin (v := .tuple #[AG [[.int .i64 (IntKind.i64.wrap x2)], encA .u8 d10, [.int .i64 x12], [.slice a12 n12 c12], encA .u8 d11, [.int .i64 x13], encA .u8 d12, [.slice a13 n13 c13], [.slice a10 l5.length c10]], .int .i64 0]) (Res.two rfl (RV.box (agg := true) (size := 30) (rs := [[.int .i64 (IntKind.i64.wrap x2)], encA .u8 d10, [.int .i64 x12], [.slice a12 n12 c12], encA .u8 d11, [.int .i64 x13], encA .u8 d12, [.slice a13 n13 c13], [.slice a10 l5.length c10]]) hB1 (by kernel_rfl) (by kernel_rfl) (by kernel_rfl) (by kernel_rfl)) (RV.tmp (by kernel_rfl))) tot htL ⟨a12, n12, c12, a13, n13, c13, a10, l5.length, c10, rfl, hR12, hR13, hR10⟩
def F.baizeref01_number.l2 (l1 : List Int) (x5 : Int) : Nat → Int → Int → Option (Int × Int × Int)
 | 0, _, _ => none
 | k + 1, x11, x12 => (if decide (x12 ≥ 0) = true then (if (0 : Int) ≤ x12 ∧ x12 < (l1.length : Int) then (F.baizeref01_number.l2 l1 x5 k (IntKind.u64.wrap ((IntKind.u64.wrap (128 * x11)) + (IntKind.u64.wrap ((getI l1 x12).tmod 128)))) (IntKind.i64.wrap (x12 - 1))) else none) else (some (x11, (IntKind.i64.wrap (x5 + 1)), 0)))
def F.baizeref01_number.c3 (l1 : List Int) (x5 : Int) (q9 : Bool) : Option (Int × Int × Int) := (if q9 = true then (some (0, 0, 3)) else (F.baizeref01_number.l2 l1 x5 fuel 0 x5))
def F.baizeref01_number.c2 (l1 : List Int) (x5 : Int) (q8 : Bool) : Option (Int × Int × Int) := (if q8 = true then (some (0, 0, 4)) else (if (x5 == 10) = true then (F.baizeref01_number.c3 l1 x5 true) else (if decide (x5 > 0) = true then (if (0 : Int) ≤ x5 ∧ x5 < (l1.length : Int) then (if ((getI l1 x5) == 0) = true then (F.baizeref01_number.c3 l1 x5 true) else (if (x5 == 9) = true then (if (0 : Int) ≤ 9 ∧ 9 < (l1.length : Int) then (F.baizeref01_number.c3 l1 x5 (decide ((getI l1 9) > 1))) else none) else (F.baizeref01_number.c3 l1 x5 false))) else none) else (if (x5 == 9) = true then (if (0 : Int) ≤ 9 ∧ 9 < (l1.length : Int) then (F.baizeref01_number.c3 l1 x5 (decide ((getI l1 9) > 1))) else none) else (F.baizeref01_number.c3 l1 x5 false)))))
def F.baizeref01_number.c1 (nx1 : Int → Option (Int × Int × Int)) (l1 : List Int) (x5 : Int) (q7 : Bool) : Option (Int × Int × Int) := (if q7 = true then (nx1 (IntKind.i64.wrap (x5 + 1))) else (if (x5 == (l1.length : Int)) = true then (F.baizeref01_number.c2 l1 x5 (decide (x5 < 10))) else (F.baizeref01_number.c2 l1 x5 false)))
def F.baizeref01_number.l1 (l1 : List Int) : Nat → Int → Option (Int × Int × Int)
 | 0, _ => none
 | k + 1, x5 => (if decide (x5 < (l1.length : Int)) = true then (if decide (x5 < 10) = true then (if (0 : Int) ≤ x5 ∧ x5 < (l1.length : Int) then (F.baizeref01_number.c1 (F.baizeref01_number.l1 l1 k) l1 x5 (decide ((getI l1 x5) ≥ 128))) else none) else (F.baizeref01_number.c1 (F.baizeref01_number.l1 l1 k) l1 x5 false)) else (F.baizeref01_number.c1 (F.baizeref01_number.l1 l1 k) l1 x5 false))
def F.baizeref01_number (l1 : List Int) : Option (Int × Int × Int) := (F.baizeref01_number.l1 l1 fuel 0)
theorem P.baizeref01_number (g0 : GW) (l1 : List Int) (a1 : Option Addr) (n1 : Nat) (c1 : Nat) (hR1 : RdS (Kd.int .u8) g0 5 a1 n1 c1 l1) (o1 : Int) (o2 : Int) (o3 : Int) (hs : F.baizeref01_number l1 = some (o1, o2, o3)) :
  Calls Try.prog 76 #[.slice a1 n1 c1] g0.w (Ret NoM g0 fun v g => v = .tuple #[.int .u64 o1, .int .i64 o2, .int .i64 o3]) := by
 refine calls_of (args := [.slice a1 n1 c1]) Try.func76 rfl (0) ?_
 intro t ht htL
 refine ⟨_, rfl, ?_⟩
 refine CP.refr 73 [(0, .slice a1 n1 c1)] (by kernel_rfl) (by kernel_rfl) ?_
 intro ds
 have tot : Step (fun l => NoM l ∨ t ≤ l) g0 g0 := Step.refl _ _
 unfold F.baizeref01_number at hs
 refine CP.seqR ?_
 refine WP.stl 3 ?_
 refine WP.dn ?_
 refine NX.then_n ?_
 refine CP.seqR ?_
 refine WP.stl 1 ?_
 refine WP.dn ?_
 refine NX.then_n ?_
 refine CP.seq ?_
 refine CP.block ?_
 generalize fuel = k1 at hs
 refine CP.loop (fun k1 tm g => ∃ (x5 : Int), Fr 73 [(0, .slice a1 n1 c1), (5, .int .i64 x5)] tm ∧ Step (fun l => NoM l ∨ t ≤ l) g0 g ∧ RdS (Kd.int .u8) g 5 a1 n1 c1 l1 ∧ F.baizeref01_number.l1 l1 k1 x5 = some (o1, o2, o3)) k1 ?_ ?_ ?_
 ·exact ⟨0, ⟨by kernel_rfl, by kernel_rfl⟩, tot, hR1, hs⟩
 ·rintro tm g ⟨x5, hF, tot, hR1, hs⟩
  exact absurd hs (by simp [F.baizeref01_number.l1])
 clear tot hs hR1
 rintro k1 tm g ⟨x5, hF, tot, hR1, hs⟩
 clear ds
 obtain ⟨ds, rfl⟩ := hF.open
 clear hF
 unfold F.baizeref01_number.l1 at hs
 refine CP.seq ?_
 refine CP.cut (fun tm g => ∃ (q7 : Bool), Fr 73 [(0, .slice a1 n1 c1), (5, .int .i64 x5), (22, .bool q7)] tm ∧ Step (fun l => NoM l ∨ t ≤ l) g0 g ∧ RdS (Kd.int .u8) g 5 a1 n1 c1 l1 ∧ (F.baizeref01_number.c1 (F.baizeref01_number.l1 l1 k1) l1 x5 q7) = some (o1, o2, o3)) ?_ ?_
 ·refine CP.region ?_
  refine WP.stl 2 ?_
  refine WP.len (a := a1) (cp := c1) hR1.len (by kernel_rfl) ?_
  refine WP.stl 2 ?_
  refine WP.guard 12 (b := decide (x5 < (l1.length : Int))) (by kernel_rfl) (fun h47 => ?_) (fun h47 => ?_)
  ·replace hs := of_if_t hs h47
   refine WP.stl 4 ?_
   refine WP.guard 16 (b := decide (x5 < 10)) (by kernel_rfl) (fun h48 => ?_) (fun h48 => ?_)
   ·replace hs := of_if_t hs h48
    refine WP.stl 2 ?_
    by_cases hc23 : (0 : Int) ≤ x5 ∧ x5 < (l1.length : Int)
    case neg => rw [if_neg hc23] at hs; cases hs
    replace hs := of_if_p hs hc23
    obtain ⟨b23, u23, ha23⟩ := hR1.at hc23
    refine WP.indexA (t := 33) (e := 5) (sz := 1) (cap := c1) (k := .i64) (i := x5) hR1.len ha23 (by kernel_rfl) (by kernel_rfl) hc23 ?_
    obtain ⟨cs23, hcR23, hcV23⟩ := hR1.src.view (getI_some hc23) ha23
    replace hcR23 := Kd.o_int hcR23
    refine WP.loadV [[.int .u8 (getI l1 x5)]] [1] hcV23 hcR23 rfl (f := 0) (ty := 5) (agg := false) (size := 1) (rs := [[.int .u8 (getI l1 x5)]]) (v := .int .u8 (getI l1 x5)) (by kernel_rfl) (by kernel_rfl) (by kernel_rfl) (by kernel_rfl) ?_
    refine WP.stl 2 ?_
    refine WP.dn ?_
    refine NX.post ?_
    exact ⟨decide ((getI l1 x5) ≥ 128), ⟨by kernel_rfl, by kernel_rfl⟩, tot, hR1, hs⟩
   replace hs := of_if_f hs h48
   refine WP.stl 6 ?_
   refine WP.dn ?_
   refine NX.post ?_
   exact ⟨false, ⟨by kernel_rfl, by kernel_rfl⟩, tot, hR1, hs⟩
  replace hs := of_if_f hs h47
  refine WP.stl 10 ?_
  refine WP.dn ?_
  refine NX.post ?_
  exact ⟨false, ⟨by kernel_rfl, by kernel_rfl⟩, tot, hR1, hs⟩
 clear tot hs hR1
 rintro tm g ⟨q7, hF, tot, hR1, hs⟩
 clear ds
 obtain ⟨ds, rfl⟩ := hF.open
 clear hF
 unfold F.baizeref01_number.c1 at hs
 refine CP.cond (b := q7) (by kernel_rfl) (fun h29 => ?_) (fun h29 => ?_)
 ·replace hs := of_if_t hs h29
  refine CP.skip ?_
  refine NX.then_n ?_
  refine CP.block ?_
  refine CP.region ?_
  refine WP.stl 3 ?_
  refine WP.dn ?_
  refine NX.block_n ?_
  refine NX.post ?_
  exact ⟨(IntKind.i64.wrap (x5 + 1)), ⟨by kernel_rfl, by kernel_rfl⟩, tot, hR1, hs⟩
 replace hs := of_if_f hs h29
 refine CP.exit ?_
 refine NX.then_e ?_
 refine NX.then_e ?_
 refine NX.block_s ?_
 refine NX.then_n ?_
 refine CP.seq ?_
 refine CP.cut (fun tm g => ∃ (q8 : Bool), Fr 73 [(0, .slice a1 n1 c1), (5, .int .i64 x5), (32, .bool q8)] tm ∧ Step (fun l => NoM l ∨ t ≤ l) g0 g ∧ RdS (Kd.int .u8) g 5 a1 n1 c1 l1 ∧ (F.baizeref01_number.c2 l1 x5 q8) = some (o1, o2, o3)) ?_ ?_
 ·refine CP.region ?_
  refine WP.stl 2 ?_
  refine WP.len (a := a1) (cp := c1) hR1.len (by kernel_rfl) ?_
  refine WP.stl 2 ?_
  refine WP.guard 29 (b := (x5 == (l1.length : Int))) (by kernel_rfl) (fun h46 => ?_) (fun h46 => ?_)
  ·replace hs := of_if_t hs h46
   refine WP.stl 3 ?_
   refine WP.dn ?_
   refine NX.post ?_
   exact ⟨decide (x5 < 10), ⟨by kernel_rfl, by kernel_rfl⟩, tot, hR1, hs⟩
  replace hs := of_if_f hs h46
  refine WP.stl 3 ?_
  refine WP.dn ?_
  refine NX.post ?_
  exact ⟨false, ⟨by kernel_rfl, by kernel_rfl⟩, tot, hR1, hs⟩
 clear tot hs hR1
 rintro tm g ⟨q8, hF, tot, hR1, hs⟩
 clear ds
 obtain ⟨ds, rfl⟩ := hF.open
 clear hF
 unfold F.baizeref01_number.c2 at hs
 refine CP.cond (b := q8) (by kernel_rfl) (fun h31 => ?_) (fun h31 => ?_)
 ·replace hs := of_if_t hs h31
  refine CP.seqR ?_
  refine WP.stl 3 ?_
  refine WP.dn ?_
  refine NX.then_n ?_
  refine CP.ret ?_
  refine NX.then_r ?_
  replace hs := Option.some.inj hs
  simp only [Prod.mk.injEq] at hs
  obtain ⟨rfl, rfl, rfl⟩ := hs
  exact NX.fin (v := .tuple #[.int .u64 0, .int .i64 0, .int .i64 4]) (Res.still (by kernel_rfl)) tot htL rfl
 replace hs := of_if_f hs h31
 refine CP.skip ?_
 refine NX.then_n ?_
 refine CP.seq ?_
 refine CP.cut (fun tm g => ∃ (q9 : Bool), Fr 73 [(0, .slice a1 n1 c1), (5, .int .i64 x5), (55, .bool q9)] tm ∧ Step (fun l => NoM l ∨ t ≤ l) g0 g ∧ RdS (Kd.int .u8) g 5 a1 n1 c1 l1 ∧ (F.baizeref01_number.c3 l1 x5 q9) = some (o1, o2, o3)) ?_ ?_
 ·refine CP.region ?_
  refine WP.stl 3 ?_
  refine WP.guard 35 (b := (x5 == 10)) (by kernel_rfl) (fun h41 => ?_) (fun h41 => ?_)
  ·replace hs := of_if_t hs h41
   refine WP.stl 20 ?_
   refine WP.dn ?_
   refine NX.post ?_
   exact ⟨true, ⟨by kernel_rfl, by kernel_rfl⟩, tot, hR1, hs⟩
  replace hs := of_if_f hs h41
  refine WP.stl 3 ?_
  refine WP.guard 38 (b := decide (x5 > 0)) (by kernel_rfl) (fun h42 => ?_) (fun h42 => ?_)
  ·replace hs := of_if_t hs h42
   refine WP.stl 2 ?_
   by_cases hc20 : (0 : Int) ≤ x5 ∧ x5 < (l1.length : Int)
   case neg => rw [if_neg hc20] at hs; cases hs
   replace hs := of_if_p hs hc20
   obtain ⟨b20, u20, ha20⟩ := hR1.at hc20
   refine WP.indexA (t := 33) (e := 5) (sz := 1) (cap := c1) (k := .i64) (i := x5) hR1.len ha20 (by kernel_rfl) (by kernel_rfl) hc20 ?_
   obtain ⟨cs20, hcR20, hcV20⟩ := hR1.src.view (getI_some hc20) ha20
   replace hcR20 := Kd.o_int hcR20
   refine WP.loadV [[.int .u8 (getI l1 x5)]] [1] hcV20 hcR20 rfl (f := 0) (ty := 5) (agg := false) (size := 1) (rs := [[.int .u8 (getI l1 x5)]]) (v := .int .u8 (getI l1 x5)) (by kernel_rfl) (by kernel_rfl) (by kernel_rfl) (by kernel_rfl) ?_
   refine WP.stl 4 ?_
   refine WP.guard 46 (b := ((getI l1 x5) == 0)) (by kernel_rfl) (fun h43 => ?_) (fun h43 => ?_)
   ·replace hs := of_if_t hs h43
    refine WP.stl 9 ?_
    refine WP.dn ?_
    refine NX.post ?_
    exact ⟨true, ⟨by kernel_rfl, by kernel_rfl⟩, tot, hR1, hs⟩
   replace hs := of_if_f hs h43
   refine WP.stl 3 ?_
   refine WP.guard 49 (b := (x5 == 9)) (by kernel_rfl) (fun h44 => ?_) (fun h44 => ?_)
   ·replace hs := of_if_t hs h44
    refine WP.stl 1 ?_
    by_cases hc21 : (0 : Int) ≤ 9 ∧ 9 < (l1.length : Int)
    case neg => rw [if_neg hc21] at hs; cases hs
    replace hs := of_if_p hs hc21
    obtain ⟨b21, u21, ha21⟩ := hR1.at hc21
    refine WP.indexA (t := 33) (e := 5) (sz := 1) (cap := c1) (k := .i64) (i := 9) hR1.len ha21 (by kernel_rfl) (by kernel_rfl) hc21 ?_
    obtain ⟨cs21, hcR21, hcV21⟩ := hR1.src.view (getI_some hc21) ha21
    replace hcR21 := Kd.o_int hcR21
    refine WP.loadV [[.int .u8 (getI l1 9)]] [1] hcV21 hcR21 rfl (f := 0) (ty := 5) (agg := false) (size := 1) (rs := [[.int .u8 (getI l1 9)]]) (v := .int .u8 (getI l1 9)) (by kernel_rfl) (by kernel_rfl) (by kernel_rfl) (by kernel_rfl) ?_
    refine WP.stl 3 ?_
    refine WP.dn ?_
    refine NX.post ?_
    exact ⟨decide ((getI l1 9) > 1), ⟨by kernel_rfl, by kernel_rfl⟩, tot, hR1, hs⟩
   replace hs := of_if_f hs h44
   refine WP.stl 6 ?_
   refine WP.dn ?_
   refine NX.post ?_
   exact ⟨false, ⟨by kernel_rfl, by kernel_rfl⟩, tot, hR1, hs⟩
  replace hs := of_if_f hs h42
  refine WP.stl 11 ?_
  refine WP.guard 49 (b := (x5 == 9)) (by kernel_rfl) (fun h45 => ?_) (fun h45 => ?_)
  ·replace hs := of_if_t hs h45
   refine WP.stl 1 ?_
   by_cases hc22 : (0 : Int) ≤ 9 ∧ 9 < (l1.length : Int)
   case neg => rw [if_neg hc22] at hs; cases hs
   replace hs := of_if_p hs hc22
   obtain ⟨b22, u22, ha22⟩ := hR1.at hc22
   refine WP.indexA (t := 33) (e := 5) (sz := 1) (cap := c1) (k := .i64) (i := 9) hR1.len ha22 (by kernel_rfl) (by kernel_rfl) hc22 ?_
   obtain ⟨cs22, hcR22, hcV22⟩ := hR1.src.view (getI_some hc22) ha22
   replace hcR22 := Kd.o_int hcR22
   refine WP.loadV [[.int .u8 (getI l1 9)]] [1] hcV22 hcR22 rfl (f := 0) (ty := 5) (agg := false) (size := 1) (rs := [[.int .u8 (getI l1 9)]]) (v := .int .u8 (getI l1 9)) (by kernel_rfl) (by kernel_rfl) (by kernel_rfl) (by kernel_rfl) ?_
   refine WP.stl 3 ?_
   refine WP.dn ?_
   refine NX.post ?_
   exact ⟨decide ((getI l1 9) > 1), ⟨by kernel_rfl, by kernel_rfl⟩, tot, hR1, hs⟩
  replace hs := of_if_f hs h45
  refine WP.stl 6 ?_
  refine WP.dn ?_
  refine NX.post ?_
  exact ⟨false, ⟨by kernel_rfl, by kernel_rfl⟩, tot, hR1, hs⟩
 clear tot hs hR1
 rintro tm g ⟨q9, hF, tot, hR1, hs⟩
 clear ds
 obtain ⟨ds, rfl⟩ := hF.open
 clear hF
 unfold F.baizeref01_number.c3 at hs
 refine CP.cond (b := q9) (by kernel_rfl) (fun h37 => ?_) (fun h37 => ?_)
 ·replace hs := of_if_t hs h37
  refine CP.seqR ?_
  refine WP.stl 3 ?_
  refine WP.dn ?_
  refine NX.then_n ?_
  refine CP.ret ?_
  refine NX.then_r ?_
  replace hs := Option.some.inj hs
  simp only [Prod.mk.injEq] at hs
  obtain ⟨rfl, rfl, rfl⟩ := hs
  exact NX.fin (v := .tuple #[.int .u64 0, .int .i64 0, .int .i64 3]) (Res.still (by kernel_rfl)) tot htL rfl
 replace hs := of_if_f hs h37
 refine CP.skip ?_
 refine NX.then_n ?_
 refine CP.seqR ?_
 refine WP.stl 1 ?_
 refine WP.dn ?_
 refine NX.then_n ?_
 refine CP.seq ?_
 refine CP.seqR ?_
 refine WP.stl 2 ?_
 refine WP.dn ?_
 refine NX.then_n ?_
 refine CP.block ?_
 generalize fuel = k2 at hs
 refine CP.loop (fun k2 tm g => ∃ (x11 : Int) (x12 : Int), Fr 73 [(0, .slice a1 n1 c1), (5, .int .i64 x5), (6, .int .u64 x11), (7, .int .i64 x12)] tm ∧ Step (fun l => NoM l ∨ t ≤ l) g0 g ∧ RdS (Kd.int .u8) g 5 a1 n1 c1 l1 ∧ F.baizeref01_number.l2 l1 x5 k2 x11 x12 = some (o1, o2, o3)) k2 ?_ ?_ ?_
 ·exact ⟨0, x5, ⟨by kernel_rfl, by kernel_rfl⟩, tot, hR1, hs⟩
 ·rintro tm g ⟨x11, x12, hF, tot, hR1, hs⟩
  exact absurd hs (by simp [F.baizeref01_number.l2])
 clear tot hs hR1
 rintro k2 tm g ⟨x11, x12, hF, tot, hR1, hs⟩
 clear ds
 obtain ⟨ds, rfl⟩ := hF.open
 clear hF
 unfold F.baizeref01_number.l2 at hs
 refine CP.seq ?_
 refine CP.seqR ?_
 refine WP.stl 2 ?_
 refine WP.dn ?_
 refine NX.then_n ?_
 refine CP.cond (b := decide (x12 ≥ 0)) (by kernel_rfl) (fun h40 => ?_) (fun h40 => ?_)
 ·replace hs := of_if_t hs h40
  refine CP.skip ?_
  refine NX.then_n ?_
  refine CP.seq ?_
  refine CP.block ?_
  refine CP.region ?_
  refine WP.stl 4 ?_
  by_cases hc19 : (0 : Int) ≤ x12 ∧ x12 < (l1.length : Int)
  case neg => rw [if_neg hc19] at hs; cases hs
  replace hs := of_if_p hs hc19
  obtain ⟨b19, u19, ha19⟩ := hR1.at hc19
  refine WP.indexA (t := 33) (e := 5) (sz := 1) (cap := c1) (k := .i64) (i := x12) hR1.len ha19 (by kernel_rfl) (by kernel_rfl) hc19 ?_
  obtain ⟨cs19, hcR19, hcV19⟩ := hR1.src.view (getI_some hc19) ha19
  replace hcR19 := Kd.o_int hcR19
  refine WP.loadV [[.int .u8 (getI l1 x12)]] [1] hcV19 hcR19 rfl (f := 0) (ty := 5) (agg := false) (size := 1) (rs := [[.int .u8 (getI l1 x12)]]) (v := .int .u8 (getI l1 x12)) (by kernel_rfl) (by kernel_rfl) (by kernel_rfl) (by kernel_rfl) ?_
  refine WP.stl 4 ?_
  refine WP.dn ?_
  refine NX.block_n ?_
  refine NX.then_n ?_
  refine CP.region ?_
  refine WP.stl 3 ?_
  refine WP.dn ?_
  refine NX.post ?_
  exact ⟨(IntKind.u64.wrap ((IntKind.u64.wrap (128 * x11)) + (IntKind.u64.wrap ((getI l1 x12).tmod 128)))), (IntKind.i64.wrap (x12 - 1)), ⟨by kernel_rfl, by kernel_rfl⟩, tot, hR1, hs⟩
 replace hs := of_if_f hs h40
 refine CP.exit ?_
 refine NX.then_e ?_
 refine NX.then_e ?_
 refine NX.block_s ?_
 refine NX.then_n ?_
 refine CP.seqR ?_
 refine WP.stl 6 ?_
 refine WP.dn ?_
 refine NX.then_n ?_
 refine CP.ret ?_
 replace hs := Option.some.inj hs
 simp only [Prod.mk.injEq] at hs
 obtain ⟨rfl, rfl, rfl⟩ := hs
 exact NX.fin (v := .tuple #[.int .u64 x11, .int .i64 (IntKind.i64.wrap (x5 + 1)), .int .i64 0]) (Res.still (by kernel_rfl)) tot htL rfl
def F.baizeref01_Fail (l1 : List Int) (x1 : Int) (x2 : Int) (x3 : Int) : Option ((List Int) × Int × Int) := (some (l1, x1, x3))
theorem P.baizeref01_Fail (g0 : GW) (l1 : List Int) (x1 : Int) (x2 : Int) (x3 : Int) (a1 : Option Addr) (n1 : Nat) (c1 : Nat) (hR1 : RdS (Kd.int .u8) g0 5 a1 n1 c1 l1) (o1 : List Int) (o2 : Int) (o3 : Int) (hs : F.baizeref01_Fail l1 x1 x2 x3 = some (o1, o2, o3)) :
  Calls Try.prog 77 #[AG [[.slice a1 n1 c1], [.int .i64 x1], [.int .i64 x2]], .int .i64 x3] g0.w (Ret NoM g0 fun v g => ∃ (a_1 : Option Addr) (n_1 : Nat) (c_1 : Nat), v = AG [[.slice a_1 n_1 c_1], [.int .i64 o2], [.int .i64 o3]] ∧ RdS (Kd.int .u8) g 5 a_1 n_1 c_1 o1) := by
 refine calls_of (args := [AG [[.slice a1 n1 c1], [.int .i64 x1], [.int .i64 x2]], .int .i64 x3]) Try.func77 rfl (0) ?_
 intro t ht htL
 refine ⟨_, rfl, ?_⟩
 refine CP.refr 8 [(0, AG [[.slice a1 n1 c1], [.int .i64 x1], [.int .i64 x2]]), (1, .int .i64 x3)] (by kernel_rfl) (by kernel_rfl) ?_
 intro ds
 have tot : Step (fun l => NoM l ∨ t ≤ l) g0 g0 := Step.refl _ _
 unfold F.baizeref01_Fail at hs
 refine CP.seqR ?_
 refine WP.alloc (T := 106) (t + 1) [[.slice a1 n1 c1], [.int .i64 x1], [.int .i64 x2]] [1, 1, 1] (by kernel_rfl) rfl ?_
 intro g1 b1 st1 hB1
 replace hR1 := hR1.mono st1 (fun x => x)
 replace tot := tot.trans st1.pure
 refine WP.alloc (T := 106) (t + 2) [[.slice none 0 0], [.int .i64 0], [.int .i64 0]] [1, 1, 1] (by kernel_rfl) rfl ?_
 intro g2 b2 st2 hB2
 replace hR1 := hR1.mono st2 (fun x => x)
 replace hB1 := hB1.mono st2 (fun x => x)
 replace tot := tot.trans st2.pure
 refine WP.dn ?_
 refine NX.then_n ?_
 refine CP.seqR ?_
 refine WP.stl 2 ?_
 refine WP.storeB (ty := 3) (off := 2) (v := .int .i64 x3) hB1 [[.int .i64 x3]] [1] (by kernel_rfl) (by kernel_rfl) rfl (by kernel_rfl) [[.slice a1 n1 c1], [.int .i64 x1], [.int .i64 x3]] (by kernel_rfl) (.one rfl .nil) ?_
 intro g3 st3 hB3
 replace hR1 := hR1.mono st3 (WL.no1 (by omega))
 replace hB2 := hB2.mono st3 (WL.no1 (by omega))
 replace tot := tot.trans (st3.up1 (.inr (by omega)))
 clear hB1
 have hB1 := hB3
 clear hB3
 refine WP.dn ?_
 refine NX.then_n ?_
 refine CP.seqR ?_
 refine WP.loadB (v := AG [[.slice a1 n1 c1], [.int .i64 x1], [.int .i64 x3]]) hB1 (by kernel_rfl) (by kernel_rfl) ?_
 refine WP.storeB (ty := 106) (off := 0) (v := AG [[.slice a1 n1 c1], [.int .i64 x1], [.int .i64 x3]]) hB2 [[.slice a1 n1 c1], [.int .i64 x1], [.int .i64 x3]] [1, 1, 1] (by kernel_rfl) (by kernel_rfl) rfl (by kernel_rfl) [[.slice a1 n1 c1], [.int .i64 x1], [.int .i64 x3]] (by kernel_rfl) (.one rfl (.one rfl (.one rfl .nil))) ?_
 intro g4 st4 hB4
 replace hB1 := hB1.mono st4 (WL.no1 (by omega))
 replace hR1 := hR1.mono st4 (WL.no1 (by omega))
 replace tot := tot.trans (st4.up1 (.inr (by omega)))
 clear hB2
 have hB2 := hB4
 clear hB4
 refine WP.dn ?_
 refine NX.then_n ?_
 refine CP.ret ?_
 replace hs := Option.some.inj hs
 simp only [Prod.mk.injEq] at hs
 obtain ⟨rfl, rfl, rfl⟩ := hs
 exact NX.fin (v := AG [[.slice a1 n1 c1], [.int .i64 x1], [.int .i64 x3]]) (Res.one rfl (RV.box (agg := true) (size := 3) (rs := [[.slice a1 n1 c1], [.int .i64 x1], [.int .i64 x3]]) hB2 (by kernel_rfl) (by kernel_rfl) (by kernel_rfl) (by kernel_rfl))) tot htL ⟨a1, n1, c1, rfl, hR1⟩
def F.baizeref01_Read.c1 (l1 : List Int) (x1 : Int) (x2 : Int) (x4 : Int) (x5 : Int) (x7 : Int) : Option ((List Int) × Int × Int × Int) := (if (x7 != 0) = true then ((F.baizeref01_Fail l1 x1 x2 x7).bind fun (l2, x8, x9) => (some (l2, x8, x9, 0))) else (some (l1, (IntKind.i64.wrap (x1 + x5)), x2, x4)))
def F.baizeref01_Read.c2 (l1 : List Int) (x1 : Int) (x2 : Int) (x4 : Int) (x5 : Int) (x6 : Int) (q2 : Bool) : Option ((List Int) × Int × Int × Int) := (if q2 = true then (F.baizeref01_Read.c1 l1 x1 x2 x4 x5 2) else (F.baizeref01_Read.c1 l1 x1 x2 x4 x5 x6))
def F.baizeref01_Read (l1 : List Int) (x1 : Int) (x2 : Int) (x3 : Int) : Option ((List Int) × Int × Int × Int) := (if (x2 != 0) = true then (some (l1, x1, x2, 0)) else (if (0 : Int) ≤ x1 ∧ x1 ≤ (l1.length : Int) ∧ (l1.length : Int) ≤ (l1.length : Int) then ((F.baizeref01_number (sliceI l1 x1 (l1.length : Int))).bind fun (x4, x5, x6) => (if (x6 == 0) = true then (F.baizeref01_Read.c2 l1 x1 x2 x4 x5 x6 (decide (x4 > x3))) else (F.baizeref01_Read.c2 l1 x1 x2 x4 x5 x6 false))) else none))
theorem P.baizeref01_Read (g0 : GW) (l1 : List Int) (x1 : Int) (x2 : Int) (x3 : Int) (a1 : Option Addr) (n1 : Nat) (c1 : Nat) (hR1 : RdS (Kd.int .u8) g0 5 a1 n1 c1 l1) (o1 : List Int) (o2 : Int) (o3 : Int) (o4 : Int) (hs : F.baizeref01_Read l1 x1 x2 x3 = some (o1, o2, o3, o4)) :
  Calls Try.prog 50 #[AG [[.slice a1 n1 c1], [.int .i64 x1], [.int .i64 x2]], .int .u64 x3] g0.w (Ret NoM g0 fun v g => ∃ (a_1 : Option Addr) (n_1 : Nat) (c_1 : Nat), v = .tuple #[AG [[.slice a_1 n_1 c_1], [.int .i64 o2], [.int .i64 o3]], .int .u64 o4] ∧ RdS (Kd.int .u8) g 5 a_1 n_1 c_1 o1) := by
 refine calls_of (args := [AG [[.slice a1 n1 c1], [.int .i64 x1], [.int .i64 x2]], .int .u64 x3]) Try.func50 rfl (0) ?_
 intro t ht htL
 refine ⟨_, rfl, ?_⟩
 refine CP.refr 42 [(0, AG [[.slice a1 n1 c1], [.int .i64 x1], [.int .i64 x2]]), (1, .int .u64 x3)] (by kernel_rfl) (by kernel_rfl) ?_
 intro ds
 have tot : Step (fun l => NoM l ∨ t ≤ l) g0 g0 := Step.refl _ _
 unfold F.baizeref01_Read at hs
 refine CP.seqR ?_
 refine WP.alloc (T := 106) (t + 1) [[.slice a1 n1 c1], [.int .i64 x1], [.int .i64 x2]] [1, 1, 1] (by kernel_rfl) rfl ?_
 intro g1 b1 st1 hB1
 replace hR1 := hR1.mono st1 (fun x => x)
 replace tot := tot.trans st1.pure
 refine WP.alloc (T := 106) (t + 2) [[.slice none 0 0], [.int .i64 0], [.int .i64 0]] [1, 1, 1] (by kernel_rfl) rfl ?_
 intro g2 b2 st2 hB2
 replace hR1 := hR1.mono st2 (fun x => x)
 replace hB1 := hB1.mono st2 (fun x => x)
 replace tot := tot.trans st2.pure
 refine WP.stl 1 ?_
 refine WP.dn ?_
 refine NX.then_n ?_
 refine CP.seq ?_
 refine CP.seqR ?_
 refine WP.stl 1 ?_
 refine WP.loadB (v := .int .i64 x2) hB1 (by kernel_rfl) (by kernel_rfl) ?_
 refine WP.stl 1 ?_
 refine WP.dn ?_
 refine NX.then_n ?_
 refine CP.cond (b := (x2 != 0)) (by kernel_rfl) (fun h1 => ?_) (fun h1 => ?_)
 ·replace hs := of_if_t hs h1
  refine CP.seqR ?_
  refine WP.loadB (v := AG [[.slice a1 n1 c1], [.int .i64 x1], [.int .i64 x2]]) hB1 (by kernel_rfl) (by kernel_rfl) ?_
  refine WP.storeB (ty := 106) (off := 0) (v := AG [[.slice a1 n1 c1], [.int .i64 x1], [.int .i64 x2]]) hB2 [[.slice a1 n1 c1], [.int .i64 x1], [.int .i64 x2]] [1, 1, 1] (by kernel_rfl) (by kernel_rfl) rfl (by kernel_rfl) [[.slice a1 n1 c1], [.int .i64 x1], [.int .i64 x2]] (by kernel_rfl) (.one rfl (.one rfl (.one rfl .nil))) ?_
  intro g3 st3 hB3
  replace hB1 := hB1.mono st3 (WL.no1 (by omega))
  replace hR1 := hR1.mono st3 (WL.no1 (by omega))
  replace tot := tot.trans (st3.up1 (.inr (by omega)))
  clear hB2
  have hB2 := hB3
  clear hB3
  refine WP.stl 1 ?_
  refine WP.dn ?_
  refine NX.then_n ?_
  refine CP.ret ?_
  refine NX.then_r ?_
  replace hs := Option.some.inj hs
  simp only [Prod.mk.injEq] at hs
  obtain ⟨rfl, rfl, rfl, rfl⟩ := hs
  exact NX.fin (v := .tuple #[AG [[.slice a1 n1 c1], [.int .i64 x1], [.int .i64 x2]], .int .u64 0]) (Res.two rfl (RV.box (agg := true) (size := 3) (rs := [[.slice a1 n1 c1], [.int .i64 x1], [.int .i64 x2]]) hB2 (by kernel_rfl) (by kernel_rfl) (by kernel_rfl) (by kernel_rfl)) (RV.tmp (by kernel_rfl))) tot htL ⟨a1, n1, c1, rfl, hR1⟩
 replace hs := of_if_f hs h1
 refine CP.skip ?_
 refine NX.then_n ?_
 refine CP.seqR ?_
 refine WP.stl 1 ?_
 refine WP.loadB (v := .slice a1 n1 c1) hB1 (by kernel_rfl) (by kernel_rfl) ?_
 refine WP.stl 1 ?_
 refine WP.loadB (v := .int .i64 x1) hB1 (by kernel_rfl) (by kernel_rfl) ?_
 by_cases hc1 : (0 : Int) ≤ x1 ∧ x1 ≤ (l1.length : Int) ∧ (l1.length : Int) ≤ (l1.length : Int)
 case neg => rw [if_neg hc1] at hs; cases hs
 replace hs := of_if_p hs hc1
 refine WP.sliceR (lo := some (.int .i64 x1)) (hi := none) hR1 x1 (l1.length : Int) (by kernel_rfl) (.inr ⟨_, rfl⟩) (.inl ⟨rfl, rfl⟩) hc1 ?_
 intro a2 c2 hR2
 replace hs := Option.bind_eq_some_iff.1 hs
 obtain ⟨⟨x4, x5, x6⟩, hk1, hs⟩ := hs
 dsimp only at hs
 have hcal1 := P.baizeref01_number g2 (sliceI l1 x1 (l1.length : Int)) a2 ((l1.length : Int).toNat - x1.toNat) c2 hR2 x4 x5 x6 hk1
 refine WP.callC hcal1 (by kernel_rfl) ?_
 rintro _ g4 st4 rfl
 replace hB1 := hB1.mono st4 (fun x => x)
 replace hR1 := hR1.mono st4 (fun x => x)
 replace hB2 := hB2.mono st4 (fun x => x)
 replace hR2 := hR2.mono st4 (fun x => x)
 replace tot := tot.trans st4.pure
 refine WP.stl 7 ?_
 refine WP.dn ?_
 refine NX.then_n ?_
 refine CP.refr 42 [(1, .int .u64 x3), (2, .pointer (some ⟨b1, 0, none⟩)), (4, .pointer (some ⟨b2, 0, none⟩)), (6, .int .u64 x4), (7, .int .i64 x5), (8, .int .i64 x6)] (by kernel_rfl) (by kernel_rfl) ?_
 clear ds
 intro ds
 refine CP.cut (fun tm g => ∃ (x7 : Int), Fr 42 [(2, .pointer (some ⟨b1, 0, none⟩)), (4, .pointer (some ⟨b2, 0, none⟩)), (6, .int .u64 x4), (7, .int .i64 x5), (8, .int .i64 x7)] tm ∧ Step (fun l => NoM l ∨ t ≤ l) g0 g ∧ Box g (t + 1) b1 106 [[.slice a1 n1 c1], [.int .i64 x1], [.int .i64 x2]] [1, 1, 1] ∧ RdS (Kd.int .u8) g 5 a1 n1 c1 l1 ∧ Box g (t + 2) b2 106 [[.slice none 0 0], [.int .i64 0], [.int .i64 0]] [1, 1, 1] ∧ (F.baizeref01_Read.c1 l1 x1 x2 x4 x5 x7) = some (o1, o2, o3, o4)) ?_ ?_
 ·refine CP.cut (fun tm g => ∃ (q2 : Bool), Fr 42 [(2, .pointer (some ⟨b1, 0, none⟩)), (4, .pointer (some ⟨b2, 0, none⟩)), (6, .int .u64 x4), (7, .int .i64 x5), (8, .int .i64 x6), (29, .bool q2)] tm ∧ Step (fun l => NoM l ∨ t ≤ l) g0 g ∧ Box g (t + 1) b1 106 [[.slice a1 n1 c1], [.int .i64 x1], [.int .i64 x2]] [1, 1, 1] ∧ RdS (Kd.int .u8) g 5 a1 n1 c1 l1 ∧ Box g (t + 2) b2 106 [[.slice none 0 0], [.int .i64 0], [.int .i64 0]] [1, 1, 1] ∧ (F.baizeref01_Read.c2 l1 x1 x2 x4 x5 x6 q2) = some (o1, o2, o3, o4)) ?_ ?_
  ·refine CP.region ?_
   refine WP.stl 3 ?_
   refine WP.guard 25 (b := (x6 == 0)) (by kernel_rfl) (fun h7 => ?_) (fun h7 => ?_)
   ·replace hs := of_if_t hs h7
    refine WP.stl 4 ?_
    refine WP.dn ?_
    refine NX.post ?_
    exact ⟨decide (x4 > x3), ⟨by kernel_rfl, by kernel_rfl⟩, tot, hB1, hR1, hB2, hs⟩
   replace hs := of_if_f hs h7
   refine WP.stl 4 ?_
   refine WP.dn ?_
   refine NX.post ?_
   exact ⟨false, ⟨by kernel_rfl, by kernel_rfl⟩, tot, hB1, hR1, hB2, hs⟩
  clear tot hs hB1 hR1 hB2
  rintro tm g ⟨q2, hF, tot, hB1, hR1, hB2, hs⟩
  clear ds
  obtain ⟨ds, rfl⟩ := hF.open
  clear hF
  unfold F.baizeref01_Read.c2 at hs
  refine CP.cond (b := q2) (by kernel_rfl) (fun h6 => ?_) (fun h6 => ?_)
  ·replace hs := of_if_t hs h6
   refine CP.region ?_
   refine WP.stl 1 ?_
   refine WP.dn ?_
   refine NX.post ?_
   exact ⟨2, ⟨by kernel_rfl, by kernel_rfl⟩, tot, hB1, hR1, hB2, hs⟩
  replace hs := of_if_f hs h6
  refine CP.skip ?_
  refine NX.post ?_
  exact ⟨x6, ⟨by kernel_rfl, by kernel_rfl⟩, tot, hB1, hR1, hB2, hs⟩
 clear tot hs hB1 hR1 hB2
 rintro tm g ⟨x7, hF, tot, hB1, hR1, hB2, hs⟩
 clear ds
 obtain ⟨ds, rfl⟩ := hF.open
 clear hF
 unfold F.baizeref01_Read.c1 at hs
 refine CP.seq ?_
 refine CP.seqR ?_
 refine WP.stl 2 ?_
 refine WP.dn ?_
 refine NX.then_n ?_
 refine CP.cond (b := (x7 != 0)) (by kernel_rfl) (fun h4 => ?_) (fun h4 => ?_)
 ·replace hs := of_if_t hs h4
  refine CP.seqR ?_
  refine WP.loadB (v := AG [[.slice a1 n1 c1], [.int .i64 x1], [.int .i64 x2]]) hB1 (by kernel_rfl) (by kernel_rfl) ?_
  refine WP.stl 1 ?_
  replace hs := Option.bind_eq_some_iff.1 hs
  obtain ⟨⟨l2, x8, x9⟩, hk2, hs⟩ := hs
  dsimp only at hs
  have hcal2 := P.baizeref01_Fail g l1 x1 x2 x7 a1 n1 c1 hR1 l2 x8 x9 hk2
  refine WP.callC hcal2 (by kernel_rfl) ?_
  rintro _ g5 st5 ⟨a3, n2, c3, rfl, hR3⟩
  replace hB1 := hB1.mono st5 (fun x => x)
  replace hR1 := hR1.mono st5 (fun x => x)
  replace hB2 := hB2.mono st5 (fun x => x)
  replace tot := tot.trans st5.pure
  refine WP.storeB (ty := 106) (off := 0) (v := AG [[.slice a3 n2 c3], [.int .i64 x8], [.int .i64 x9]]) hB2 [[.slice a3 n2 c3], [.int .i64 x8], [.int .i64 x9]] [1, 1, 1] (by kernel_rfl) (by kernel_rfl) rfl (by kernel_rfl) [[.slice a3 n2 c3], [.int .i64 x8], [.int .i64 x9]] (by kernel_rfl) (.one rfl (.one rfl (.one rfl .nil))) ?_
  intro g6 st6 hB4
  replace hB1 := hB1.mono st6 (WL.no1 (by omega))
  replace hR1 := hR1.mono st6 (WL.no1 (by omega))
  replace hR3 := hR3.mono st6 (WL.no1 (by omega))
  replace tot := tot.trans (st6.up1 (.inr (by omega)))
  clear hB2
  have hB2 := hB4
  clear hB4
  refine WP.stl 1 ?_
  refine WP.dn ?_
  refine NX.then_n ?_
  refine CP.ret ?_
  refine NX.then_r ?_
  replace hs := Option.some.inj hs
  simp only [Prod.mk.injEq] at hs
  obtain ⟨rfl, rfl, rfl, rfl⟩ := hs
  exact NX.fin (v := .tuple #[AG [[.slice a3 n2 c3], [.int .i64 x8], [.int .i64 x9]], .int .u64 0]) (Res.two rfl (RV.box (agg := true) (size := 3) (rs := [[.slice a3 n2 c3], [.int .i64 x8], [.int .i64 x9]]) hB2 (by kernel_rfl) (by kernel_rfl) (by kernel_rfl) (by kernel_rfl)) (RV.tmp (by kernel_rfl))) tot htL ⟨a3, n2, c3, rfl, hR3⟩
 replace hs := of_if_f hs h4
 refine CP.skip ?_
 refine NX.then_n ?_
 refine CP.seqR ?_
 refine WP.stl 1 ?_
 refine WP.loadB (v := .int .i64 x1) hB1 (by kernel_rfl) (by kernel_rfl) ?_
 refine WP.stl 3 ?_
 refine WP.storeB (ty := 3) (off := 1) (v := .int .i64 (IntKind.i64.wrap (x1 + x5))) hB1 [[.int .i64 (IntKind.i64.wrap (x1 + x5))]] [1] (by kernel_rfl) (by kernel_rfl) rfl (by kernel_rfl) [[.slice a1 n1 c1], [.int .i64 (IntKind.i64.wrap (x1 + x5))], [.int .i64 x2]] (by kernel_rfl) (.one rfl .nil) ?_
 intro g7 st7 hB5
 replace hR1 := hR1.mono st7 (WL.no1 (by omega))
 replace hB2 := hB2.mono st7 (WL.no1 (by omega))
 replace tot := tot.trans (st7.up1 (.inr (by omega)))
 clear hB1
 have hB1 := hB5
 clear hB5
 refine WP.dn ?_
 refine NX.then_n ?_
 refine CP.seqR ?_
 refine WP.loadB (v := AG [[.slice a1 n1 c1], [.int .i64 (IntKind.i64.wrap (x1 + x5))], [.int .i64 x2]]) hB1 (by kernel_rfl) (by kernel_rfl) ?_
 refine WP.stl 1 ?_
 refine WP.storeB (ty := 106) (off := 0) (v := AG [[.slice a1 n1 c1], [.int .i64 (IntKind.i64.wrap (x1 + x5))], [.int .i64 x2]]) hB2 [[.slice a1 n1 c1], [.int .i64 (IntKind.i64.wrap (x1 + x5))], [.int .i64 x2]] [1, 1, 1] (by kernel_rfl) (by kernel_rfl) rfl (by kernel_rfl) [[.slice a1 n1 c1], [.int .i64 (IntKind.i64.wrap (x1 + x5))], [.int .i64 x2]] (by kernel_rfl) (.one rfl (.one rfl (.one rfl .nil))) ?_
 intro g8 st8 hB6
 replace hB1 := hB1.mono st8 (WL.no1 (by omega))
 replace hR1 := hR1.mono st8 (WL.no1 (by omega))
 replace tot := tot.trans (st8.up1 (.inr (by omega)))
 clear hB2
 have hB2 := hB6
 clear hB6
 refine WP.stl 1 ?_
 refine WP.dn ?_
 refine NX.then_n ?_
 refine CP.ret ?_
 replace hs := Option.some.inj hs
 simp only [Prod.mk.injEq] at hs
 obtain ⟨rfl, rfl, rfl, rfl⟩ := hs
 exact NX.fin (v := .tuple #[AG [[.slice a1 n1 c1], [.int .i64 (IntKind.i64.wrap (x1 + x5))], [.int .i64 x2]], .int .u64 x4]) (Res.two rfl (RV.box (agg := true) (size := 3) (rs := [[.slice a1 n1 c1], [.int .i64 (IntKind.i64.wrap (x1 + x5))], [.int .i64 x2]]) hB2 (by kernel_rfl) (by kernel_rfl) (by kernel_rfl) (by kernel_rfl)) (RV.tmp (by kernel_rfl))) tot htL ⟨a1, n1, c1, rfl, hR1⟩
end Go.Proofs.Ytlnockimfgfcgaa
