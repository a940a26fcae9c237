/-
  Walks, written by program: each Go function computes the plain function of its name, in whatever world its arguments' facts hold.
-/
import Derived.Test.YthfmgobnanifnaaWSr3
namespace Go.Proofs.Ythfmgobnanifnaa
open Go.RowKit Go.Lab
attribute [local irreducible] WP CP NX wpList Code.wp Calls
set_option maxRecDepth 100000
set_option maxHeartbeats 4000000
set_option linter.unusedVariables false

def N.state_Signed_Encode_0 : List (List Nat) := [[], [0], [0, 1], [0, 1, 2], [], [4], [4, 5], [4, 5, 6], [0, 1, 2, 3, 4, 5, 6, 7], [0, 1, 2, 3, 4, 5, 6, 7, 8]]
def N.state_Signed_Encode_1 : List (List Nat) := [[], [], [1], [1, 2], [0, 1, 2, 3], [], [5], [5, 6], [5, 6, 7], [0, 1, 2, 3, 4, 5, 6, 7, 8], [0, 1, 2, 3, 4, 5, 6, 7, 8, 9]]
def F.state_Signed_Encode.l1 (l2 : List (List Int)) : Nat → (List Int) → Int → Option ((List Int) × Int)
 | 0, _, _ => none
 | k + 1, l9, x2 => (if decide (x2 < (l2.length : Int)) = true then (if (0 : Int) ≤ x2 ∧ x2 < (l2.length : Int) then ((F.octet_PutBytes l9 (getI l2 x2)).bind fun l12 => (F.state_Signed_Encode.l1 l2 k l12 (IntKind.i64.wrap (x2 + 1)))) else none) else (some (l9, 0)))
def F.state_Signed_Encode (d1 : Arr Int 8) (x1 : Int) (l1 : List Int) (l2 : List (List Int)) : Option ((List Int) × Int) := ((F.state_Signed_may d1 x1 l1 l2).bind fun q1 => (if (!q1) = true then (some ([], 2)) else ((F.octet_PutBytes ([]) d1.1).bind fun l3 => ((F.octet_PutNum l3 (IntKind.u64.wrap x1)).bind fun l4 => ((F.octet_PutBytes l4 l1).bind fun l6 => ((F.octet_PutNum l6 (IntKind.u64.wrap (l2.length : Int))).bind fun l7 => (F.state_Signed_Encode.l1 l2 fuel l7 0)))))))
theorem P.state_Signed_Encode (g0 : GW) (r0 : Nat) (d1 : Arr Int 8) (x1 : Int) (l1 : List Int) (l2 : List (List Int)) (a1 : Option Addr) (n1 : Nat) (c1 : Nat) (a2 : Option Addr) (n2 : Nat) (c2 : Nat) (hR1 : RdS (Kd.int .u8) g0 5 a1 n1 c1 l1) (hR2 : RdS (Kd.slice 5 (Kd.int .u8)) g0 24 a2 n2 c2 l2) (o1 : List Int) (o2 : Int) (hs : F.state_Signed_Encode d1 x1 l1 l2 = some (o1, o2)) :
  Calls Try.prog 31 #[AG [encA .u8 d1, [.int .i64 x1], [.slice a1 n1 c1], [.slice a2 n2 c2]]] g0.w (Ret NoM g0 fun v g => ∃ (a_1 : Option Addr) (n_1 : Nat) (c_1 : Nat), v = .tuple #[.slice a_1 n_1 c_1, .int .i64 o2] ∧ OwnS (Kd.int .u8) g r0 5 a_1 n_1 c_1 o1) := by
 refine calls_of (args := [AG [encA .u8 d1, [.int .i64 x1], [.slice a1 n1 c1], [.slice a2 n2 c2]]]) Try.func31 rfl (r0 + 0) ?_
 intro t ht htL
 refine ⟨_, rfl, ?_⟩
 refine CP.refr 41 [(0, AG [encA .u8 d1, [.int .i64 x1], [.slice a1 n1 c1], [.slice a2 n2 c2]])] (by kernel_rfl) (by kernel_rfl) ?_
 intro ds
 have tot : Step (fun l => NoM l ∨ t ≤ l) g0 g0 := Step.refl _ _
 unfold F.state_Signed_Encode at hs
 refine CP.seqR ?_
 refine WP.alloc (T := 61) (t + 1) [encA .u8 d1, [.int .i64 x1], [.slice a1 n1 c1], [.slice a2 n2 c2]] [8, 1, 1, 1] (by kernel_rfl) (by simp [len_encA]) ?_
 intro g1 b1 st1 hB1
 replace hR1 := hR1.mono st1 (fun x => x)
 replace hR2 := hR2.mono st1 (fun x => x)
 replace tot := tot.trans st1.pure
 refine WP.stl 2 ?_
 refine WP.dn ?_
 refine NX.then_n ?_
 refine CP.seq ?_
 refine CP.seqR ?_
 refine WP.loadB (v := AG [encA .u8 d1, [.int .i64 x1], [.slice a1 n1 c1], [.slice a2 n2 c2]]) hB1 (by kernel_rfl) (by kernel_rfl) ?_
 replace hs := Option.bind_eq_some_iff.1 hs
 obtain ⟨q1, hk1, hs⟩ := hs
 have hcal1 := P.state_Signed_may g1 d1 x1 l1 l2 a1 n1 c1 a2 n2 c2 hR1 hR2 q1 hk1
 refine WP.callC hcal1 (by kernel_rfl) ?_
 rintro _ g2 st2 rfl
 replace hB1 := hB1.mono st2 (fun x => x)
 replace hR1 := hR1.mono st2 (fun x => x)
 replace hR2 := hR2.mono st2 (fun x => x)
 replace tot := tot.trans st2.pure
 refine WP.stl 1 ?_
 refine WP.dn ?_
 refine NX.then_n ?_
 refine CP.cond (b := (!q1)) (by kernel_rfl) (fun h1 => ?_) (fun h1 => ?_)
 ·replace hs := of_if_t hs h1
  refine CP.seqR ?_
  refine WP.stl 2 ?_
  refine WP.dn ?_
  refine NX.then_n ?_
  refine CP.ret ?_
  refine NX.then_r ?_
  replace hs := Option.some.inj hs
  obtain ⟨rfl, rfl⟩ := Prod.mk.inj hs
  exact NX.fin (v := .tuple #[.slice none 0 0, .int .i64 2]) (Res.still (by kernel_rfl)) tot htL ⟨none, 0, 0, rfl, (OwnS.nil _ _ _ _)⟩
 replace hs := of_if_f hs h1
 refine CP.skip ?_
 refine NX.then_n ?_
 refine CP.seq ?_
 obtain ⟨g3, hw1, st3, hnew⟩ := hB1.relab 0
 refine CP.regw hw1 ?_
 replace hR1 := hR1.mono st3 (WL.no1 (by omega))
 replace hR2 := hR2.mono st3 (WL.no1 (by omega))
 replace tot := tot.trans (st3.up1 (.inr (by omega)))
 clear hB1
 have hB1 := hnew
 clear hnew
 replace hs := Option.bind_eq_some_iff.1 hs
 obtain ⟨l3, hk2, hs⟩ := hs
 replace hs := Option.bind_eq_some_iff.1 hs
 obtain ⟨l4, hk3, hs⟩ := hs
 refine CP.drawL (by kernel_rfl) [2, 3, 6, 8] N.state_Signed_Encode_0 [⟨none, [], [], fun l g => Box g 0 b1 61 [encA .u8 d1, [.int .i64 x1], [.slice a1 n1 c1], [.slice a2 n2 c2]] [8, 1, 1, 1]⟩, ⟨some 0, [], [0], fun l g => ∃ (a4 : Option Addr), l.getD 0 undef = .slice a4 ((8 : Int).toNat - (0 : Int).toNat) (8 - (0 : Int).toNat) ∧ RdS (Kd.int .u8) g 5 a4 ((8 : Int).toNat - (0 : Int).toNat) (8 - (0 : Int).toNat) d1.1⟩, ⟨some 1, [0], [1], fun l g => ∃ (a5 : Option Addr) (c3 : Nat), l.getD 0 undef = .slice a5 l3.length c3 ∧ OwnS (Kd.int .u8) g (t + 2) 5 a5 l3.length c3 l3⟩, ⟨some 2, [], [2], fun l g => l.getD 0 undef = .int .i64 x1⟩, ⟨some 3, [], [3], fun l g => ∃ (a6 : Option Addr) (c4 : Nat), l.getD 0 undef = .slice a6 l4.length c4 ∧ OwnS (Kd.int .u8) g (t + 3) 5 a6 l4.length c4 l4⟩, ⟨some 3, [], [1], fun l g => ∃ (a5 : Option Addr) (c3 : Nat), l.getD 0 undef = .slice a5 l3.length c3 ∧ RdS (Kd.int .u8) g 5 a5 l3.length c3 l3⟩] [[], [], [], [0]] [(t + 2)] [0, 1, 4, 5] [7, 9] (by kernel_rfl) (by simp <;> omega) (by simp) ⟨fun _ _ _ _ st h0 hl hj hB1 => (hB1.mono st (fun h => absurd (hl _ h) (by simp <;> omega))), fun _ _ _ _ st h0 hl hj ⟨a4, e0, hR4⟩ => ⟨a4, e0, (RdS.mono (e := 5) hR4 st h0)⟩, fun _ _ _ _ st h0 hl hj ⟨a5, c3, e1, hR5⟩ => ⟨a5, c3, e1, (hR5.mono st h0 (hj 0 (by simp) _ rfl))⟩, fun _ _ _ _ st h0 hl hj e2 => e2, fun _ _ _ _ st h0 hl hj ⟨a6, c4, e3, hR6⟩ => ⟨a6, c4, e3, (hR6.mono st h0 (fun h => absurd (hl _ h) (by simp <;> omega)))⟩, fun _ _ _ _ st h0 hl hj ⟨a5, c3, e1, hR5⟩ => ⟨a5, c3, e1, (RdS.mono (e := 5) hR5 st h0)⟩, tv⟩ ⟨hB1, tv, tv, tv, tv, tv, tv⟩ (by kernel_rfl) (fun vs => by kernel_rfl) ?_ ?_ ?_
 ·intro j hj
  have hq : j = 0 ∨ j = 1 := by have h : j < 2 := hj; omega
  rcases hq with rfl | rfl
  ·intro vs gq stq hl hf
   obtain ⟨v0, v1, v2, v3, rfl⟩ := len_k4 hl
   have e2 := (show v2 = .int .i64 x1 from hf _ (memI 3 rfl) (by kernel_rfl))
   subst e2
   show Option.isSome _ = true
   kernel_rfl
  ·intro vs gq stq hl hf
   obtain ⟨v0, v1, v2, v3, rfl⟩ := len_k4 hl
   obtain ⟨a6, c4, e3, hR6⟩ := (show ∃ (a6 : Option Addr) (c4 : Nat), v3 = .slice a6 l4.length c4 ∧ OwnS (Kd.int .u8) gq (t + 3) 5 a6 l4.length c4 l4 from hf _ (memI 4 rfl) (by kernel_rfl))
   subst e3
   show Option.isSome _ = true
   kernel_rfl
 ·intro j hj
  have hq : j = 0 ∨ j = 1 ∨ j = 2 ∨ j = 3 := by have h : j < 4 := hj; omega
  rcases hq with rfl | rfl | rfl | rfl
  ·intro vs gq stq hl hf
   obtain ⟨v0, v1, v2, v3, rfl⟩ := len_k4 hl
   have hB1 := (show Box gq 0 b1 61 [encA .u8 d1, [.int .i64 x1], [.slice a1 n1 c1], [.slice a2 n2 c2]] [8, 1, 1, 1] from hf _ (memI 0 rfl) (by kernel_rfl))
   refine WP.sliceZ (o := 0) (m := 8) (k := .u8) (d := d1) (e := 5) (lo := none) (hi := none) hB1 (by kernel_rfl) (0 : Int) (8 : Int) (by kernel_rfl) (.inl ⟨rfl, rfl⟩) (.inl ⟨rfl, rfl⟩) (by decide) ?_
   intro a4 hR4
   rw [sliceI_all (m := 8) (d := d1) (j := (8 : Int)) rfl] at hR4
   refine WP.dn (Shown.ok (v := .slice a4 ((8 : Int).toNat - (0 : Int).toNat) (8 - (0 : Int).toNat)) (by kernel_rfl) (Step.refl _ _) ?_)
   exact ⟨tv, ⟨a4, rfl, hR4⟩, tv, tv, tv, tv, tv⟩
  ·intro vs gq stq hl hf
   obtain ⟨v0, v1, v2, v3, rfl⟩ := len_k4 hl
   obtain ⟨a4, e0, hR4⟩ := (show ∃ (a4 : Option Addr), v0 = .slice a4 ((8 : Int).toNat - (0 : Int).toNat) (8 - (0 : Int).toNat) ∧ RdS (Kd.int .u8) gq 5 a4 ((8 : Int).toNat - (0 : Int).toNat) (8 - (0 : Int).toNat) d1.1 from hf _ (memI 1 rfl) (by kernel_rfl))
   subst e0
   have hcal2 := P.octet_PutBytes gq (t + 2) ([]) d1.1 none 0 0 a4 ((8 : Int).toNat - (0 : Int).toNat) (8 - (0 : Int).toNat) (RdS.nil _ _ _) hR4 l3 hk2
   refine WP.callC hcal2 (by kernel_rfl) ?_
   rintro _ g4 st4 ⟨a5, n3, c3, rfl, hR5⟩
   obtain rfl := hR5.len
   refine WP.dn (Shown.o (v := .slice a5 l3.length c3) st4.pure ?_)
   exact ⟨tv, tv, ⟨a5, c3, rfl, hR5⟩, tv, tv, tv, tv⟩
  ·intro vs gq stq hl hf
   obtain ⟨v0, v1, v2, v3, rfl⟩ := len_k4 hl
   have hB1 := (show Box gq 0 b1 61 [encA .u8 d1, [.int .i64 x1], [.slice a1 n1 c1], [.slice a2 n2 c2]] [8, 1, 1, 1] from hf _ (memI 0 rfl) (by kernel_rfl))
   refine WP.loadB (v := .int .i64 x1) hB1 (by kernel_rfl) (by kernel_rfl) ?_
   refine WP.dn (Shown.ok (v := .int .i64 x1) (by kernel_rfl) (Step.refl _ _) ?_)
   exact ⟨tv, tv, tv, rfl, tv, tv, tv⟩
  ·intro vs gq stq hl hf
   obtain ⟨v0, v1, v2, v3, rfl⟩ := len_k4 hl
   obtain ⟨a5, c3, e1, hR5⟩ := (show ∃ (a5 : Option Addr) (c3 : Nat), v1 = .slice a5 l3.length c3 ∧ OwnS (Kd.int .u8) gq (t + 2) 5 a5 l3.length c3 l3 from hf _ (memI 2 rfl) (by kernel_rfl))
   subst e1
   have e2 := (show v2 = .int .i64 x1 from hf _ (memI 3 rfl) (by kernel_rfl))
   subst e2
   obtain ⟨gf1, hwf1, stf1, hnew⟩ := hR5.freeze (by omega)
   refine WP.regw hwf1 ?_
   clear hR5
   have hR5 := hnew
   clear hnew
   have hcal3 := P.octet_PutNum gf1 (t + 3) l3 (IntKind.u64.wrap x1) a5 l3.length c3 hR5 l4 hk3
   refine WP.callC hcal3 (by kernel_rfl) ?_
   rintro _ g5 st5 ⟨a6, n4, c4, rfl, hR6⟩
   obtain rfl := hR6.len
   replace st5 : Step (WL []) _ _ := Step.pure st5
   have hz1 := hR5.mono st5 (WL.no (by simp <;> omega))
   replace st5 := Step.both stf1 st5
   refine WP.dn (Shown.o (v := .slice a6 l4.length c4) st5 ?_)
   exact ⟨tv, tv, tv, tv, ⟨a6, c4, rfl, hR6⟩, ⟨a5, c3, rfl, hz1⟩, tv⟩
 intro vs g6 st6 hl hf
 obtain ⟨v0, v1, v2, v3, rfl⟩ := len_k4 hl
 obtain ⟨a6, c4, e3, hR6⟩ := (show ∃ (a6 : Option Addr) (c4 : Nat), v3 = .slice a6 l4.length c4 ∧ OwnS (Kd.int .u8) g6 (t + 3) 5 a6 l4.length c4 l4 from hf _ (memI 4 rfl) (by kernel_rfl))
 subst e3
 replace hB1 := hB1.mono st6 (WL.no1 (by omega))
 replace hR1 := hR1.mono st6 (WL.no1 (by omega))
 replace hR2 := hR2.mono st6 (WL.no1 (by omega))
 replace tot := tot.trans (st6.up1 (.inr (by omega)))
 refine NX.then_n ?_
 refine CP.refr 41 [(1, .pointer (some ⟨b1, 0, none⟩)), (4, .slice a6 l4.length c4)] (by kernel_rfl) (by kernel_rfl) ?_
 clear ds
 intro ds
 refine CP.seq ?_
 obtain ⟨g8, hw2, st8, hnew⟩ := hR6.freeze (by omega)
 refine CP.regw hw2 ?_
 replace hB1 := hB1.mono st8 (WL.no1 (by omega))
 replace hR1 := hR1.mono st8 (WL.no1 (by omega))
 replace hR2 := hR2.mono st8 (WL.no1 (by omega))
 replace tot := tot.trans (st8.up1 (.inr (by omega)))
 clear hR6
 have hR6 := hnew
 clear hnew
 replace hs := Option.bind_eq_some_iff.1 hs
 obtain ⟨l6, hk5, hs⟩ := hs
 replace hs := Option.bind_eq_some_iff.1 hs
 obtain ⟨l7, hk6, hs⟩ := hs
 refine CP.drawL (by kernel_rfl) [3, 4, 6, 7, 9] N.state_Signed_Encode_1 [⟨none, [], [], fun l g => Box g 0 b1 61 [encA .u8 d1, [.int .i64 x1], [.slice a1 n1 c1], [.slice a2 n2 c2]] [8, 1, 1, 1]⟩, ⟨none, [], [], fun l g => RdS (Kd.int .u8) g 5 a1 n1 c1 l1⟩, ⟨none, [], [], fun l g => RdS (Kd.slice 5 (Kd.int .u8)) g 24 a2 n2 c2 l2⟩, ⟨none, [], [], fun l g => RdS (Kd.int .u8) g 5 a6 l4.length c4 l4⟩, ⟨some 0, [], [0], fun l g => l.getD 0 undef = .slice a1 n1 c1⟩, ⟨some 1, [0], [1], fun l g => ∃ (a8 : Option Addr) (c6 : Nat), l.getD 0 undef = .slice a8 l6.length c6 ∧ OwnS (Kd.int .u8) g (t + 5) 5 a8 l6.length c6 l6⟩, ⟨some 2, [], [2], fun l g => l.getD 0 undef = .slice a2 n2 c2⟩, ⟨some 3, [], [3], fun l g => l.getD 0 undef = .int .i64 (l2.length : Int)⟩, ⟨some 4, [], [4], fun l g => ∃ (a9 : Option Addr) (c7 : Nat), l.getD 0 undef = .slice a9 l7.length c7 ∧ OwnS (Kd.int .u8) g (t + 6) 5 a9 l7.length c7 l7⟩, ⟨some 4, [], [1], fun l g => ∃ (a8 : Option Addr) (c6 : Nat), l.getD 0 undef = .slice a8 l6.length c6 ∧ RdS (Kd.int .u8) g 5 a8 l6.length c6 l6⟩] [[], [], [], [], [0]] [(t + 5)] [0, 1, 2, 5] [8, 10] (by kernel_rfl) (by simp <;> omega) (by simp) ⟨fun _ _ _ _ st h0 hl hj hB1 => (hB1.mono st (fun h => absurd (hl _ h) (by simp <;> omega))), fun _ _ _ _ st h0 hl hj hR1 => (RdS.mono (e := 5) hR1 st h0), fun _ _ _ _ st h0 hl hj hR2 => (RdS.mono (e := 24) hR2 st h0), fun _ _ _ _ st h0 hl hj hR6 => (RdS.mono (e := 5) hR6 st h0), fun _ _ _ _ st h0 hl hj e0 => e0, fun _ _ _ _ st h0 hl hj ⟨a8, c6, e1, hR8⟩ => ⟨a8, c6, e1, (hR8.mono st h0 (hj 0 (by simp) _ rfl))⟩, fun _ _ _ _ st h0 hl hj e2 => e2, fun _ _ _ _ st h0 hl hj e3 => e3, fun _ _ _ _ st h0 hl hj ⟨a9, c7, e4, hR9⟩ => ⟨a9, c7, e4, (hR9.mono st h0 (fun h => absurd (hl _ h) (by simp <;> omega)))⟩, fun _ _ _ _ st h0 hl hj ⟨a8, c6, e1, hR8⟩ => ⟨a8, c6, e1, (RdS.mono (e := 5) hR8 st h0)⟩, tv⟩ ⟨hB1, hR1, hR2, hR6, tv, tv, tv, tv, tv, tv, tv⟩ (by kernel_rfl) (fun vs => by kernel_rfl) ?_ ?_ ?_
 ·intro j hj
  have hq : j = 0 ∨ j = 1 := by have h : j < 2 := hj; omega
  rcases hq with rfl | rfl
  ·intro vs gq stq hl hf
   obtain ⟨v0, v1, v2, v3, v4, rfl⟩ := len_k5 hl
   have e3 := (show v3 = .int .i64 (l2.length : Int) from hf _ (memI 7 rfl) (by kernel_rfl))
   subst e3
   show Option.isSome _ = true
   kernel_rfl
  ·intro vs gq stq hl hf
   obtain ⟨v0, v1, v2, v3, v4, rfl⟩ := len_k5 hl
   obtain ⟨a9, c7, e4, hR9⟩ := (show ∃ (a9 : Option Addr) (c7 : Nat), v4 = .slice a9 l7.length c7 ∧ OwnS (Kd.int .u8) gq (t + 6) 5 a9 l7.length c7 l7 from hf _ (memI 8 rfl) (by kernel_rfl))
   subst e4
   show Option.isSome _ = true
   kernel_rfl
 ·intro j hj
  have hq : j = 0 ∨ j = 1 ∨ j = 2 ∨ j = 3 ∨ j = 4 := by have h : j < 5 := hj; omega
  rcases hq with rfl | rfl | rfl | rfl | rfl
  ·intro vs gq stq hl hf
   obtain ⟨v0, v1, v2, v3, v4, rfl⟩ := len_k5 hl
   have hB1 := (show Box gq 0 b1 61 [encA .u8 d1, [.int .i64 x1], [.slice a1 n1 c1], [.slice a2 n2 c2]] [8, 1, 1, 1] from hf _ (memI 0 rfl) (by kernel_rfl))
   refine WP.loadB (v := .slice a1 n1 c1) hB1 (by kernel_rfl) (by kernel_rfl) ?_
   refine WP.dn (Shown.ok (v := .slice a1 n1 c1) (by kernel_rfl) (Step.refl _ _) ?_)
   exact ⟨tv, tv, tv, tv, rfl, tv, tv, tv, tv, tv, tv⟩
  ·intro vs gq stq hl hf
   obtain ⟨v0, v1, v2, v3, v4, rfl⟩ := len_k5 hl
   have hR1 := (show RdS (Kd.int .u8) gq 5 a1 n1 c1 l1 from hf _ (memI 1 rfl) (by kernel_rfl))
   have hR6 := (show RdS (Kd.int .u8) gq 5 a6 l4.length c4 l4 from hf _ (memI 3 rfl) (by kernel_rfl))
   have e0 := (show v0 = .slice a1 n1 c1 from hf _ (memI 4 rfl) (by kernel_rfl))
   subst e0
   have hcal5 := P.octet_PutBytes gq (t + 5) l4 l1 a6 l4.length c4 a1 n1 c1 hR6 hR1 l6 hk5
   refine WP.callC hcal5 (by kernel_rfl) ?_
   rintro _ g9 st9 ⟨a8, n6, c6, rfl, hR8⟩
   obtain rfl := hR8.len
   refine WP.dn (Shown.o (v := .slice a8 l6.length c6) st9.pure ?_)
   exact ⟨tv, tv, tv, tv, tv, ⟨a8, c6, rfl, hR8⟩, tv, tv, tv, tv, tv⟩
  ·intro vs gq stq hl hf
   obtain ⟨v0, v1, v2, v3, v4, rfl⟩ := len_k5 hl
   have hB1 := (show Box gq 0 b1 61 [encA .u8 d1, [.int .i64 x1], [.slice a1 n1 c1], [.slice a2 n2 c2]] [8, 1, 1, 1] from hf _ (memI 0 rfl) (by kernel_rfl))
   refine WP.loadB (v := .slice a2 n2 c2) hB1 (by kernel_rfl) (by kernel_rfl) ?_
   refine WP.dn (Shown.ok (v := .slice a2 n2 c2) (by kernel_rfl) (Step.refl _ _) ?_)
   exact ⟨tv, tv, tv, tv, tv, tv, rfl, tv, tv, tv, tv⟩
  ·intro vs gq stq hl hf
   obtain ⟨v0, v1, v2, v3, v4, rfl⟩ := len_k5 hl
   have hR2 := (show RdS (Kd.slice 5 (Kd.int .u8)) gq 24 a2 n2 c2 l2 from hf _ (memI 2 rfl) (by kernel_rfl))
   have e2 := (show v2 = .slice a2 n2 c2 from hf _ (memI 6 rfl) (by kernel_rfl))
   subst e2
   refine WP.len (a := a2) (cp := c2) hR2.len (by kernel_rfl) ?_
   refine WP.dn (Shown.ok (v := .int .i64 (l2.length : Int)) (by kernel_rfl) (Step.refl _ _) ?_)
   exact ⟨tv, tv, tv, tv, tv, tv, tv, rfl, tv, tv, tv⟩
  ·intro vs gq stq hl hf
   obtain ⟨v0, v1, v2, v3, v4, rfl⟩ := len_k5 hl
   obtain ⟨a8, c6, e1, hR8⟩ := (show ∃ (a8 : Option Addr) (c6 : Nat), v1 = .slice a8 l6.length c6 ∧ OwnS (Kd.int .u8) gq (t + 5) 5 a8 l6.length c6 l6 from hf _ (memI 5 rfl) (by kernel_rfl))
   subst e1
   have e3 := (show v3 = .int .i64 (l2.length : Int) from hf _ (memI 7 rfl) (by kernel_rfl))
   subst e3
   obtain ⟨gf2, hwf2, stf2, hnew⟩ := hR8.freeze (by omega)
   refine WP.regw hwf2 ?_
   clear hR8
   have hR8 := hnew
   clear hnew
   have hcal6 := P.octet_PutNum gf2 (t + 6) l6 (IntKind.u64.wrap (l2.length : Int)) a8 l6.length c6 hR8 l7 hk6
   refine WP.callC hcal6 (by kernel_rfl) ?_
   rintro _ g10 st10 ⟨a9, n7, c7, rfl, hR9⟩
   obtain rfl := hR9.len
   replace st10 : Step (WL []) _ _ := Step.pure st10
   have hz2 := hR8.mono st10 (WL.no (by simp <;> omega))
   replace st10 := Step.both stf2 st10
   refine WP.dn (Shown.o (v := .slice a9 l7.length c7) st10 ?_)
   exact ⟨tv, tv, tv, tv, tv, tv, tv, tv, ⟨a9, c7, rfl, hR9⟩, ⟨a8, c6, rfl, hz2⟩, tv⟩
 intro vs g11 st11 hl hf
 obtain ⟨v0, v1, v2, v3, v4, rfl⟩ := len_k5 hl
 obtain ⟨a9, c7, e4, hR9⟩ := (show ∃ (a9 : Option Addr) (c7 : Nat), v4 = .slice a9 l7.length c7 ∧ OwnS (Kd.int .u8) g11 (t + 6) 5 a9 l7.length c7 l7 from hf _ (memI 8 rfl) (by kernel_rfl))
 subst e4
 replace hB1 := hB1.mono st11 (WL.no1 (by omega))
 replace hR1 := hR1.mono st11 (WL.no1 (by omega))
 replace hR2 := hR2.mono st11 (WL.no1 (by omega))
 replace tot := tot.trans (st11.up1 (.inr (by omega)))
 refine NX.then_n ?_
 refine CP.refr 41 [(1, .pointer (some ⟨b1, 0, none⟩)), (4, .slice a9 l7.length c7)] (by kernel_rfl) (by kernel_rfl) ?_
 clear ds
 intro ds
 refine CP.seq ?_
 refine CP.seqR ?_
 refine WP.stl 1 ?_
 refine WP.loadB (v := .slice a2 n2 c2) hB1 (by kernel_rfl) (by kernel_rfl) ?_
 refine WP.len (a := a2) (cp := c2) hR2.len (by kernel_rfl) ?_
 refine WP.stl 1 ?_
 refine WP.dn ?_
 refine NX.then_n ?_
 refine CP.block ?_
 generalize fuel = k1 at hs
 refine CP.loop (fun k1 tm g => ∃ (l9 : List Int) (a12 : Option Addr) (n10 : Nat) (c10 : Nat) (x2 : Int), Fr 41 [(4, .slice a12 n10 c10), (30, .slice a2 n2 c2), (31, .int .i64 (l2.length : Int)), (32, .int .i64 x2)] tm ∧ Step (fun l => NoM l ∨ t ≤ l) g0 g ∧ OwnS (Kd.int .u8) g (t + 6) 5 a12 n10 c10 l9 ∧ RdS (Kd.slice 5 (Kd.int .u8)) g 24 a2 n2 c2 l2 ∧ F.state_Signed_Encode.l1 l2 k1 l9 x2 = some (o1, o2)) k1 ?_ ?_ ?_
 ·exact ⟨l7, a9, l7.length, c7, 0, ⟨by kernel_rfl, by kernel_rfl⟩, tot, hR9, hR2, hs⟩
 ·rintro tm g ⟨l9, a12, n10, c10, x2, hF, tot, hR12, hR2, hs⟩
  exact absurd hs (by simp [F.state_Signed_Encode.l1])
 clear tot hs hR9 hR2
 rintro k1 tm g ⟨l9, a12, n10, c10, x2, hF, tot, hR12, hR2, hs⟩
 clear ds
 obtain ⟨ds, rfl⟩ := hF.open
 clear hF
 unfold F.state_Signed_Encode.l1 at hs
 refine CP.seqR ?_
 refine WP.stl 1 ?_
 refine WP.dn ?_
 refine NX.then_n ?_
 refine CP.seq ?_
 refine CP.cond (b := decide (x2 < (l2.length : Int))) (by kernel_rfl) (fun h4 => ?_) (fun h4 => ?_)
 ·replace hs := of_if_t hs h4
  refine CP.skip ?_
  refine NX.then_n ?_
  refine CP.seq ?_
  refine CP.block ?_
  refine CP.seqR ?_
  by_cases hc3 : (0 : Int) ≤ x2 ∧ x2 < (l2.length : Int)
  case neg => rw [if_neg hc3] at hs; cases hs
  replace hs := of_if_p hs hc3
  obtain ⟨b4, u3, ha3⟩ := hR2.at hc3
  refine WP.indexA (t := 42) (e := 24) (sz := 1) (cap := c2) (k := .i64) (i := x2) hR2.len ha3 (by kernel_rfl) (by kernel_rfl) hc3 ?_
  obtain ⟨cs3, hcR3, hcV3⟩ := hR2.src.view (getI_some hc3) ha3
  obtain ⟨a16, n14, c14, hcR3, hR16⟩ := Kd.o_sl hcR3
  refine WP.loadV [[.slice a16 n14 c14]] [1] hcV3 hcR3 rfl (f := 0) (ty := 24) (agg := false) (size := 1) (rs := [[.slice a16 n14 c14]]) (v := .slice a16 n14 c14) (by kernel_rfl) (by kernel_rfl) (by kernel_rfl) (by kernel_rfl) ?_
  refine WP.stl 1 ?_
  refine WP.dn ?_
  refine NX.then_n ?_
  refine CP.region ?_
  refine WP.stl 2 ?_
  replace hs := Option.bind_eq_some_iff.1 hs
  obtain ⟨l12, hk9, hs⟩ := hs
  obtain ⟨g17, hw5, st17, hnew⟩ := hR12.freeze (by omega)
  refine WP.regw hw5 ?_
  replace hR2 := hR2.mono st17 (WL.no1 (by omega))
  replace hR16 := hR16.mono st17 (WL.no1 (by omega))
  replace tot := tot.trans (st17.up1 (.inr (by omega)))
  clear hR12
  have hR12 := hnew
  clear hnew
  have hcal9 := P.octet_PutBytes g17 (t + 9) l9 (getI l2 x2) a12 n10 c10 a16 n14 c14 hR12 hR16 l12 hk9
  refine WP.callC hcal9 (by kernel_rfl) ?_
  rintro _ g16 st16 ⟨a17, n15, c15, rfl, hR17⟩
  replace hR12 := hR12.mono st16 (fun x => x)
  replace hR2 := hR2.mono st16 (fun x => x)
  replace hR16 := hR16.mono st16 (fun x => x)
  replace tot := tot.trans st16.pure
  refine WP.stl 1 ?_
  refine WP.dn ?_
  refine NX.block_n ?_
  refine NX.then_n ?_
  refine CP.region ?_
  refine WP.stl 2 ?_
  refine WP.dn ?_
  obtain ⟨g18, hw6, st18, hnew⟩ := hR17.relab (by omega) (t + 6)
  refine NX.regw hw6 ?_
  replace hR2 := hR2.mono st18 (WL.no1 (by omega))
  replace tot := tot.trans (st18.up1 (.inr (by omega)))
  clear hR17
  have hR17 := hnew
  clear hnew
  refine NX.post ?_
  exact ⟨l12, a17, n15, c15, (IntKind.i64.wrap (x2 + 1)), ⟨by kernel_rfl, by kernel_rfl⟩, tot, hR17, hR2, hs⟩
 replace hs := of_if_f hs h4
 refine CP.exit ?_
 refine NX.then_e ?_
 refine NX.then_e ?_
 refine NX.block_s ?_
 refine NX.then_n ?_
 refine CP.seqR ?_
 refine WP.stl 3 ?_
 refine WP.dn ?_
 refine NX.then_n ?_
 refine CP.ret ?_
 obtain ⟨g19, hw7, st19, hnew⟩ := hR12.relab (by omega) r0
 refine NX.regw hw7 ?_
 replace tot := tot.trans (st19.up1 (.inr (by omega)))
 clear hR12
 have hR12 := hnew
 clear hnew
 replace hs := Option.some.inj hs
 obtain ⟨rfl, rfl⟩ := Prod.mk.inj hs
 exact NX.fin (v := .tuple #[.slice a12 n10 c10, .int .i64 0]) (Res.still (by kernel_rfl)) tot htL ⟨a12, n10, c10, rfl, hR12⟩
def F.baizelaw32_StateReads.c2 (q4 : Bool) : Option (Bool) := (some q4)
def F.baizelaw32_StateReads.c1 (l2 : List Int) (d1 : Arr Int 8) (x1 : Int) (l3 : List Int) (l4 : List (List Int)) (x4 : Int) (q3 : Bool) : Option (Bool) := (if q3 = true then (some false) else (if (x4 != 0) = true then (some true) else ((F.state_Signed_Encode d1 x1 l3 l4).bind fun (l11, x7) => (if (x7 == 0) = true then (F.baizelaw32_StateReads.c2 ((bytesStr l11).toList == (bytesStr l2).toList)) else (F.baizelaw32_StateReads.c2 false)))))
def F.baizelaw32_StateReads (l1 : List Int) : Option (Bool) := ((F.baizelaw32_few l1).bind fun l2 => ((F.state_Decode l2).bind fun (d1, x1, l3, l4, x2) => ((F.baizeref32_Decode l2).bind fun (d2, x3, l5, l6, x4) => ((F.baizelaw32_plain d1 x1 l3 l4).bind fun (d3, x5, l7, l8, d4, x6, l9, l10) => ((F.baizelaw32_told).bind fun q5 => (if (!q5) = true then (F.baizelaw32_StateReads.c1 l2 d1 x1 l3 l4 x4 true) else (if (x2 != x4) = true then (F.baizelaw32_StateReads.c1 l2 d1 x1 l3 l4 x4 true) else ((F.baizeref32_Same d4 x6 l9 l10 d2 x3 l5 l6).bind fun q6 => (F.baizelaw32_StateReads.c1 l2 d1 x1 l3 l4 x4 (!q6))))))))))
theorem P.baizelaw32_StateReads (g0 : GW) (l1 : List Int) (a1 : Option Addr) (n1 : Nat) (c1 : Nat) (hR1 : RdS (Kd.int .u8) g0 5 a1 n1 c1 l1) (o1 : Bool) (hs : F.baizelaw32_StateReads l1 = some o1) :
  Calls Try.prog 8 #[.slice a1 n1 c1] g0.w (Ret NoM g0 fun v g => v = .bool o1) := by
 refine calls_of (args := [.slice a1 n1 c1]) Try.func8 rfl (0) ?_
 intro t ht htL
 refine ⟨_, rfl, ?_⟩
 refine CP.refr 57 [(0, .slice a1 n1 c1)] (by kernel_rfl) (by kernel_rfl) ?_
 intro ds
 have tot : Step (fun l => NoM l ∨ t ≤ l) g0 g0 := Step.refl _ _
 unfold F.baizelaw32_StateReads at hs
 refine CP.seqR ?_
 refine WP.stl 1 ?_
 refine WP.dn ?_
 refine NX.then_n ?_
 refine CP.seqR ?_
 refine WP.stl 1 ?_
 replace hs := Option.bind_eq_some_iff.1 hs
 obtain ⟨l2, hk1, hs⟩ := hs
 have hcal1 := P.baizelaw32_few g0 l1 a1 n1 c1 hR1 l2 hk1
 refine WP.callC hcal1 (by kernel_rfl) ?_
 rintro _ g1 st1 ⟨a2, n2, c2, rfl, hR2⟩
 replace hR1 := hR1.mono st1 (fun x => x)
 replace tot := tot.trans st1.pure
 refine WP.stl 1 ?_
 refine WP.dn ?_
 refine NX.then_n ?_
 refine CP.seqR ?_
 refine WP.stl 1 ?_
 replace hs := Option.bind_eq_some_iff.1 hs
 obtain ⟨⟨d1, x1, l3, l4, x2⟩, hk2, hs⟩ := hs
 dsimp only at hs
 have hcal2 := P.state_Decode g1 (t + 1) (t + 2) l2 a2 n2 c2 hR2 d1 x1 l3 l4 x2 hk2
 refine WP.callC hcal2 (by kernel_rfl) ?_
 rintro _ g2 st2 ⟨a3, n3, c3, a4, n4, c4, rfl, hR3, hR4⟩
 replace hR2 := hR2.mono st2 (fun x => x)
 replace tot := tot.trans st2.pure
 refine WP.stl 3 ?_
 refine WP.alloc (T := 61) (t + 3) [encA .u8 (zA 8), [.int .i64 0], [.slice none 0 0], [.slice none 0 0]] [8, 1, 1, 1] (by kernel_rfl) (by simp [len_encA]) ?_
 intro g3 b1 st3 hB1
 replace hR2 := hR2.mono st3 (fun x => x)
 replace hR3 := hR3.mono st3 (fun x => x) (fun x => x)
 replace hR4 := hR4.mono st3 (fun x => x) (fun x => x)
 replace tot := tot.trans st3.pure
 refine WP.storeB (ty := 61) (off := 0) (v := AG [encA .u8 d1, [.int .i64 x1], [.slice a3 n3 c3], [.slice a4 n4 c4]]) hB1 [encA .u8 d1, [.int .i64 x1], [.slice a3 n3 c3], [.slice a4 n4 c4]] [8, 1, 1, 1] (by kernel_rfl) (by kernel_rfl) (by simp [len_encA]) (by kernel_rfl) [encA .u8 d1, [.int .i64 x1], [.slice a3 n3 c3], [.slice a4 n4 c4]] (by kernel_rfl) (.arr (.one rfl (.one rfl (.one rfl .nil)))) ?_
 intro g4 st4 hB2
 replace hR2 := hR2.mono st4 (WL.no1 (by omega))
 replace hR3 := hR3.mono st4 (WL.no1 (by omega)) (WL.no1 (by omega))
 replace hR4 := hR4.mono st4 (WL.no1 (by omega)) (WL.no1 (by omega))
 replace tot := tot.trans (st4.up1 (.inr (by omega)))
 clear hB1
 have hB1 := hB2
 clear hB2
 refine WP.stl 1 ?_
 refine WP.dn ?_
 refine NX.then_n ?_
 refine CP.seqR ?_
 refine WP.stl 1 ?_
 replace hs := Option.bind_eq_some_iff.1 hs
 obtain ⟨⟨d2, x3, l5, l6, x4⟩, hk3, hs⟩ := hs
 dsimp only at hs
 have hcal3 := P.baizeref32_Decode g4 (t + 4) (t + 5) l2 a2 n2 c2 hR2 d2 x3 l5 l6 x4 hk3
 refine WP.callC hcal3 (by kernel_rfl) ?_
 rintro _ g5 st5 ⟨a5, n5, c5, a6, n6, c6, rfl, hR5, hR6⟩
 replace hR2 := hR2.mono st5 (fun x => x)
 replace hB1 := hB1.mono st5 (fun x => x)
 replace hR3 := hR3.mono st5 (fun x => x) (fun x => x)
 replace hR4 := hR4.mono st5 (fun x => x) (fun x => x)
 replace tot := tot.trans st5.pure
 refine WP.stl 3 ?_
 refine WP.alloc (T := 65) (t + 6) [encA .u8 (zA 8), [.int .i64 0], [.slice none 0 0], [.slice none 0 0]] [8, 1, 1, 1] (by kernel_rfl) (by simp [len_encA]) ?_
 intro g6 b2 st6 hB3
 replace hR2 := hR2.mono st6 (fun x => x)
 replace hB1 := hB1.mono st6 (fun x => x)
 replace hR3 := hR3.mono st6 (fun x => x) (fun x => x)
 replace hR4 := hR4.mono st6 (fun x => x) (fun x => x)
 replace hR5 := hR5.mono st6 (fun x => x) (fun x => x)
 replace hR6 := hR6.mono st6 (fun x => x) (fun x => x)
 replace tot := tot.trans st6.pure
 refine WP.storeB (ty := 65) (off := 0) (v := AG [encA .u8 d2, [.int .i64 x3], [.slice a5 n5 c5], [.slice a6 n6 c6]]) hB3 [encA .u8 d2, [.int .i64 x3], [.slice a5 n5 c5], [.slice a6 n6 c6]] [8, 1, 1, 1] (by kernel_rfl) (by kernel_rfl) (by simp [len_encA]) (by kernel_rfl) [encA .u8 d2, [.int .i64 x3], [.slice a5 n5 c5], [.slice a6 n6 c6]] (by kernel_rfl) (.arr (.one rfl (.one rfl (.one rfl .nil)))) ?_
 intro g7 st7 hB4
 replace hR2 := hR2.mono st7 (WL.no1 (by omega))
 replace hB1 := hB1.mono st7 (WL.no1 (by omega))
 replace hR3 := hR3.mono st7 (WL.no1 (by omega)) (WL.no1 (by omega))
 replace hR4 := hR4.mono st7 (WL.no1 (by omega)) (WL.no1 (by omega))
 replace hR5 := hR5.mono st7 (WL.no1 (by omega)) (WL.no1 (by omega))
 replace hR6 := hR6.mono st7 (WL.no1 (by omega)) (WL.no1 (by omega))
 replace tot := tot.trans (st7.up1 (.inr (by omega)))
 clear hB3
 have hB3 := hB4
 clear hB4
 refine WP.stl 1 ?_
 refine WP.dn ?_
 refine NX.then_n ?_
 refine CP.refr 57 [(0, .slice a2 n2 c2), (3, .pointer (some ⟨b1, 0, none⟩)), (4, .int .i64 x2), (5, .pointer (some ⟨b2, 0, none⟩)), (6, .int .i64 x4)] (by kernel_rfl) (by kernel_rfl) ?_
 clear ds
 intro ds
 refine CP.seqR ?_
 refine WP.loadB (v := AG [encA .u8 d1, [.int .i64 x1], [.slice a3 n3 c3], [.slice a4 n4 c4]]) hB1 (by kernel_rfl) (by kernel_rfl) ?_
 replace hs := Option.bind_eq_some_iff.1 hs
 obtain ⟨⟨d3, x5, l7, l8, d4, x6, l9, l10⟩, hk4, hs⟩ := hs
 dsimp only at hs
 obtain ⟨g9, hw1, st9, hnew⟩ := hR3.freeze (by omega)
 refine WP.regw hw1 ?_
 replace hR2 := hR2.mono st9 (WL.no1 (by omega))
 replace hB1 := hB1.mono st9 (WL.no1 (by omega))
 replace hR4 := hR4.mono st9 (WL.no1 (by omega)) (WL.no1 (by omega))
 replace hB3 := hB3.mono st9 (WL.no1 (by omega))
 replace hR5 := hR5.mono st9 (WL.no1 (by omega)) (WL.no1 (by omega))
 replace hR6 := hR6.mono st9 (WL.no1 (by omega)) (WL.no1 (by omega))
 replace tot := tot.trans (st9.up1 (.inr (by omega)))
 clear hR3
 have hR3 := hnew
 clear hnew
 obtain ⟨g10, hw2, st10, hnew⟩ := hR4.freeze (by omega)
 refine WP.regw hw2 ?_
 replace hR2 := hR2.mono st10 (WL.no1 (by omega))
 replace hB1 := hB1.mono st10 (WL.no1 (by omega))
 replace hR3 := hR3.mono st10 (WL.no1 (by omega))
 replace hB3 := hB3.mono st10 (WL.no1 (by omega))
 replace hR5 := hR5.mono st10 (WL.no1 (by omega)) (WL.no1 (by omega))
 replace hR6 := hR6.mono st10 (WL.no1 (by omega)) (WL.no1 (by omega))
 replace tot := tot.trans (st10.up1 (.inr (by omega)))
 clear hR4
 have hR4 := hnew
 clear hnew
 have hcal4 := P.baizelaw32_plain g10 d1 x1 l3 l4 a3 n3 c3 a4 n4 c4 hR3 hR4 d3 x5 l7 l8 d4 x6 l9 l10 hk4
 refine WP.callC hcal4 (by kernel_rfl) ?_
 rintro _ g8 st8 ⟨a7, n7, c7, a8, n8, c8, a9, n9, c9, a10, n10, c10, rfl, hR7, hR8, hR9, hR10⟩
 replace hR2 := hR2.mono st8 (fun x => x)
 replace hB1 := hB1.mono st8 (fun x => x)
 replace hR3 := hR3.mono st8 (fun x => x)
 replace hR4 := hR4.mono st8 (fun x => x)
 replace hB3 := hB3.mono st8 (fun x => x)
 replace hR5 := hR5.mono st8 (fun x => x) (fun x => x)
 replace hR6 := hR6.mono st8 (fun x => x) (fun x => x)
 replace tot := tot.trans st8.pure
 refine WP.stl 3 ?_
 refine WP.alloc (T := 61) (t + 7) [encA .u8 (zA 8), [.int .i64 0], [.slice none 0 0], [.slice none 0 0]] [8, 1, 1, 1] (by kernel_rfl) (by simp [len_encA]) ?_
 intro g11 b3 st11 hB5
 replace hR2 := hR2.mono st11 (fun x => x)
 replace hB1 := hB1.mono st11 (fun x => x)
 replace hR3 := hR3.mono st11 (fun x => x)
 replace hR4 := hR4.mono st11 (fun x => x)
 replace hB3 := hB3.mono st11 (fun x => x)
 replace hR5 := hR5.mono st11 (fun x => x) (fun x => x)
 replace hR6 := hR6.mono st11 (fun x => x) (fun x => x)
 replace hR7 := hR7.mono st11 (fun x => x)
 replace hR8 := hR8.mono st11 (fun x => x)
 replace hR9 := hR9.mono st11 (fun x => x)
 replace hR10 := hR10.mono st11 (fun x => x)
 replace tot := tot.trans st11.pure
 refine WP.alloc (T := 65) (t + 8) [encA .u8 (zA 8), [.int .i64 0], [.slice none 0 0], [.slice none 0 0]] [8, 1, 1, 1] (by kernel_rfl) (by simp [len_encA]) ?_
 intro g12 b4 st12 hB6
 replace hR2 := hR2.mono st12 (fun x => x)
 replace hB1 := hB1.mono st12 (fun x => x)
 replace hR3 := hR3.mono st12 (fun x => x)
 replace hR4 := hR4.mono st12 (fun x => x)
 replace hB3 := hB3.mono st12 (fun x => x)
 replace hR5 := hR5.mono st12 (fun x => x) (fun x => x)
 replace hR6 := hR6.mono st12 (fun x => x) (fun x => x)
 replace hR7 := hR7.mono st12 (fun x => x)
 replace hR8 := hR8.mono st12 (fun x => x)
 replace hR9 := hR9.mono st12 (fun x => x)
 replace hR10 := hR10.mono st12 (fun x => x)
 replace hB5 := hB5.mono st12 (fun x => x)
 replace tot := tot.trans st12.pure
 refine WP.storeB (ty := 61) (off := 0) (v := AG [encA .u8 d3, [.int .i64 x5], [.slice a7 n7 c7], [.slice a8 n8 c8]]) hB5 [encA .u8 d3, [.int .i64 x5], [.slice a7 n7 c7], [.slice a8 n8 c8]] [8, 1, 1, 1] (by kernel_rfl) (by kernel_rfl) (by simp [len_encA]) (by kernel_rfl) [encA .u8 d3, [.int .i64 x5], [.slice a7 n7 c7], [.slice a8 n8 c8]] (by kernel_rfl) (.arr (.one rfl (.one rfl (.one rfl .nil)))) ?_
 intro g13 st13 hB7
 replace hR2 := hR2.mono st13 (WL.no1 (by omega))
 replace hB1 := hB1.mono st13 (WL.no1 (by omega))
 replace hR3 := hR3.mono st13 (WL.no1 (by omega))
 replace hR4 := hR4.mono st13 (WL.no1 (by omega))
 replace hB3 := hB3.mono st13 (WL.no1 (by omega))
 replace hR5 := hR5.mono st13 (WL.no1 (by omega)) (WL.no1 (by omega))
 replace hR6 := hR6.mono st13 (WL.no1 (by omega)) (WL.no1 (by omega))
 replace hR7 := hR7.mono st13 (WL.no1 (by omega))
 replace hR8 := hR8.mono st13 (WL.no1 (by omega))
 replace hR9 := hR9.mono st13 (WL.no1 (by omega))
 replace hR10 := hR10.mono st13 (WL.no1 (by omega))
 replace hB6 := hB6.mono st13 (WL.no1 (by omega))
 replace tot := tot.trans (st13.up1 (.inr (by omega)))
 clear hB5
 have hB5 := hB7
 clear hB7
 refine WP.storeB (ty := 65) (off := 0) (v := AG [encA .u8 d4, [.int .i64 x6], [.slice a9 n9 c9], [.slice a10 n10 c10]]) hB6 [encA .u8 d4, [.int .i64 x6], [.slice a9 n9 c9], [.slice a10 n10 c10]] [8, 1, 1, 1] (by kernel_rfl) (by kernel_rfl) (by simp [len_encA]) (by kernel_rfl) [encA .u8 d4, [.int .i64 x6], [.slice a9 n9 c9], [.slice a10 n10 c10]] (by kernel_rfl) (.arr (.one rfl (.one rfl (.one rfl .nil)))) ?_
 intro g14 st14 hB8
 replace hR2 := hR2.mono st14 (WL.no1 (by omega))
 replace hB1 := hB1.mono st14 (WL.no1 (by omega))
 replace hR3 := hR3.mono st14 (WL.no1 (by omega))
 replace hR4 := hR4.mono st14 (WL.no1 (by omega))
 replace hB3 := hB3.mono st14 (WL.no1 (by omega))
 replace hR5 := hR5.mono st14 (WL.no1 (by omega)) (WL.no1 (by omega))
 replace hR6 := hR6.mono st14 (WL.no1 (by omega)) (WL.no1 (by omega))
 replace hR7 := hR7.mono st14 (WL.no1 (by omega))
 replace hR8 := hR8.mono st14 (WL.no1 (by omega))
 replace hR9 := hR9.mono st14 (WL.no1 (by omega))
 replace hR10 := hR10.mono st14 (WL.no1 (by omega))
 replace hB5 := hB5.mono st14 (WL.no1 (by omega))
 replace tot := tot.trans (st14.up1 (.inr (by omega)))
 clear hB6
 have hB6 := hB8
 clear hB8
 refine WP.dn ?_
 refine NX.then_n ?_
 refine CP.seq ?_
 refine CP.cut (fun tm g => ∃ (q3 : Bool), Fr 57 [(0, .slice a2 n2 c2), (3, .pointer (some ⟨b1, 0, none⟩)), (6, .int .i64 x4), (40, .bool q3)] tm ∧ Step (fun l => NoM l ∨ t ≤ l) g0 g ∧ RdS (Kd.int .u8) g 5 a2 n2 c2 l2 ∧ Box g (t + 3) b1 61 [encA .u8 d1, [.int .i64 x1], [.slice a3 n3 c3], [.slice a4 n4 c4]] [8, 1, 1, 1] ∧ RdS (Kd.int .u8) g 5 a3 n3 c3 l3 ∧ RdS (Kd.slice 5 (Kd.int .u8)) g 24 a4 n4 c4 l4 ∧ (F.baizelaw32_StateReads.c1 l2 d1 x1 l3 l4 x4 q3) = some o1) ?_ ?_
 ·refine CP.region ?_
  replace hs := Option.bind_eq_some_iff.1 hs
  obtain ⟨q5, hk8, hs⟩ := hs
  have hcal8 := P.baizelaw32_told g14 q5 hk8
  refine WP.callC hcal8 (by kernel_rfl) ?_
  rintro _ g19 st19 rfl
  replace hR2 := hR2.mono st19 (fun x => x)
  replace hB1 := hB1.mono st19 (fun x => x)
  replace hR3 := hR3.mono st19 (fun x => x)
  replace hR4 := hR4.mono st19 (fun x => x)
  replace hB3 := hB3.mono st19 (fun x => x)
  replace hR5 := hR5.mono st19 (fun x => x) (fun x => x)
  replace hR6 := hR6.mono st19 (fun x => x) (fun x => x)
  replace hB6 := hB6.mono st19 (fun x => x)
  replace hR9 := hR9.mono st19 (fun x => x)
  replace hR10 := hR10.mono st19 (fun x => x)
  replace tot := tot.trans st19.pure
  refine WP.stl 2 ?_
  refine WP.guard 30 (b := (!q5)) (by kernel_rfl) (fun h7 => ?_) (fun h7 => ?_)
  ·replace hs := of_if_t hs h7
   refine WP.stl 10 ?_
   refine WP.dn ?_
   refine NX.post ?_
   exact ⟨true, ⟨by kernel_rfl, by kernel_rfl⟩, tot, hR2, hB1, hR3, hR4, hs⟩
  replace hs := of_if_f hs h7
  refine WP.stl 5 ?_
  refine WP.guard 35 (b := (x2 != x4)) (by kernel_rfl) (fun h8 => ?_) (fun h8 => ?_)
  ·replace hs := of_if_t hs h8
   refine WP.stl 5 ?_
   refine WP.dn ?_
   refine NX.post ?_
   exact ⟨true, ⟨by kernel_rfl, by kernel_rfl⟩, tot, hR2, hB1, hR3, hR4, hs⟩
  replace hs := of_if_f hs h8
  refine WP.loadB (v := AG [encA .u8 d4, [.int .i64 x6], [.slice a9 n9 c9], [.slice a10 n10 c10]]) hB6 (by kernel_rfl) (by kernel_rfl) ?_
  refine WP.loadB (v := AG [encA .u8 d2, [.int .i64 x3], [.slice a5 n5 c5], [.slice a6 n6 c6]]) hB3 (by kernel_rfl) (by kernel_rfl) ?_
  replace hs := Option.bind_eq_some_iff.1 hs
  obtain ⟨q6, hk9, hs⟩ := hs
  have hS2 : 0 ∉ ([(t + 4), (t + 5)] : List Nat) := by simp <;> omega
  have stl2 := GW.lend_step g19 [(t + 4), (t + 5)]
  have hRl3 := hR5.lendTo hS2 (by simp)
  have hRl4 := hR6.lendTo hS2 (by simp)
  refine WP.regw (g' := GW.lend g19 [(t + 4), (t + 5)]) rfl ?_
  have hcal9 := P.baizeref32_Same (GW.lend g19 [(t + 4), (t + 5)]) d4 x6 l9 l10 d2 x3 l5 l6 a9 n9 c9 a10 n10 c10 a5 n5 c5 a6 n6 c6 (hR9.mono stl2 (WL.no (by simp <;> omega))) (hR10.mono stl2 (WL.no (by simp <;> omega))) hRl3 hRl4 q6 hk9
  refine WP.callC hcal9 (by kernel_rfl) ?_
  rintro _ g20 st20 rfl
  have st21 := (GW.back_step st20).lentS
  have hO3 := hR5.backTo hS2 (by simp) st20 (fun x => x)
  have hO4 := hR6.backTo hS2 (by simp) st20 (fun x => x)
  refine WP.regw (g' := GW.back g19 g20 [(t + 4), (t + 5)]) rfl ?_
  generalize GW.back g19 g20 [(t + 4), (t + 5)] = g21 at *
  replace hR2 := hR2.mono st21 (WL.no2 (by omega) (by omega))
  replace hB1 := hB1.mono st21 (WL.no2 (by omega) (by omega))
  replace hR3 := hR3.mono st21 (WL.no2 (by omega) (by omega))
  replace hR4 := hR4.mono st21 (WL.no2 (by omega) (by omega))
  replace hB3 := hB3.mono st21 (WL.no2 (by omega) (by omega))
  replace hB6 := hB6.mono st21 (WL.no2 (by omega) (by omega))
  replace hR9 := hR9.mono st21 (WL.no2 (by omega) (by omega))
  replace hR10 := hR10.mono st21 (WL.no2 (by omega) (by omega))
  replace tot := tot.trans (st21.up2 (.inr (by omega)) (.inr (by omega)))
  clear hR5
  have hR5 : OwnS (Kd.int .u8) g21 (t + 4) 5 a5 n5 c5 l5 := hO3
  clear hO3
  clear hR6
  have hR6 : OwnS (Kd.slice 5 (Kd.int .u8)) g21 (t + 5) 24 a6 n6 c6 l6 := hO4
  clear hO4
  refine WP.stl 2 ?_
  refine WP.dn ?_
  refine NX.post ?_
  exact ⟨(!q6), ⟨by kernel_rfl, by kernel_rfl⟩, tot, hR2, hB1, hR3, hR4, hs⟩
 clear tot hs hR2 hB1 hR3 hR4 hB3 hR5 hR6 hB6 hR9 hR10
 rintro tm g ⟨q3, hF, tot, hR2, hB1, hR3, hR4, hs⟩
 clear ds
 obtain ⟨ds, rfl⟩ := hF.open
 clear hF
 unfold F.baizelaw32_StateReads.c1 at hs
 refine CP.cond (b := q3) (by kernel_rfl) (fun h3 => ?_) (fun h3 => ?_)
 ·replace hs := of_if_t hs h3
  refine CP.seqR ?_
  refine WP.stl 1 ?_
  refine WP.dn ?_
  refine NX.then_n ?_
  refine CP.ret ?_
  refine NX.then_r ?_
  replace hs := Option.some.inj hs
  obtain rfl := hs
  exact NX.fin (v := .bool false) (Res.still (by kernel_rfl)) tot htL rfl
 replace hs := of_if_f hs h3
 refine CP.skip ?_
 refine NX.then_n ?_
 refine CP.seq ?_
 refine CP.seqR ?_
 refine WP.stl 2 ?_
 refine WP.dn ?_
 refine NX.then_n ?_
 refine CP.cond (b := (x4 != 0)) (by kernel_rfl) (fun h4 => ?_) (fun h4 => ?_)
 ·replace hs := of_if_t hs h4
  refine CP.seqR ?_
  refine WP.stl 1 ?_
  refine WP.dn ?_
  refine NX.then_n ?_
  refine CP.ret ?_
  refine NX.then_r ?_
  replace hs := Option.some.inj hs
  obtain rfl := hs
  exact NX.fin (v := .bool true) (Res.still (by kernel_rfl)) tot htL rfl
 replace hs := of_if_f hs h4
 refine CP.skip ?_
 refine NX.then_n ?_
 refine CP.seqR ?_
 refine WP.loadB (v := AG [encA .u8 d1, [.int .i64 x1], [.slice a3 n3 c3], [.slice a4 n4 c4]]) hB1 (by kernel_rfl) (by kernel_rfl) ?_
 replace hs := Option.bind_eq_some_iff.1 hs
 obtain ⟨⟨l11, x7⟩, hk7, hs⟩ := hs
 dsimp only at hs
 have hcal7 := P.state_Signed_Encode g (t + 9) d1 x1 l3 l4 a3 n3 c3 a4 n4 c4 hR3 hR4 l11 x7 hk7
 refine WP.callC hcal7 (by kernel_rfl) ?_
 rintro _ g18 st18 ⟨a11, n11, c11, rfl, hR11⟩
 replace hR2 := hR2.mono st18 (fun x => x)
 replace hB1 := hB1.mono st18 (fun x => x)
 replace hR3 := hR3.mono st18 (fun x => x)
 replace hR4 := hR4.mono st18 (fun x => x)
 replace tot := tot.trans st18.pure
 refine WP.stl 5 ?_
 refine WP.dn ?_
 refine NX.then_n ?_
 refine CP.cut (fun tm g => ∃ (q4 : Bool), Fr 57 [(2, .bool q4)] tm ∧ Step (fun l => NoM l ∨ t ≤ l) g0 g ∧ (F.baizelaw32_StateReads.c2 q4) = some o1) ?_ ?_
 ·refine CP.region ?_
  refine WP.stl 3 ?_
  refine WP.guard 50 (b := (x7 == 0)) (by kernel_rfl) (fun h6 => ?_) (fun h6 => ?_)
  ·replace hs := of_if_t hs h6
   refine WP.stl 1 ?_
   refine WP.toStr (a := a11) (cp := c11) hR11.src hR11.len (by kernel_rfl) ?_
   refine WP.stl 1 ?_
   refine WP.toStr (a := a2) (cp := c2) hR2.src hR2.len (by kernel_rfl) ?_
   refine WP.stl 3 ?_
   refine WP.dn ?_
   refine NX.post ?_
   exact ⟨((bytesStr l11).toList == (bytesStr l2).toList), ⟨by kernel_rfl, by kernel_rfl⟩, tot, hs⟩
  replace hs := of_if_f hs h6
  refine WP.stl 7 ?_
  refine WP.dn ?_
  refine NX.post ?_
  exact ⟨false, ⟨by kernel_rfl, by kernel_rfl⟩, tot, hs⟩
 clear tot hs hR2 hR11
 rintro tm g ⟨q4, hF, tot, hs⟩
 clear ds
 obtain ⟨ds, rfl⟩ := hF.open
 clear hF
 unfold F.baizelaw32_StateReads.c2 at hs
 refine CP.ret ?_
 replace hs := Option.some.inj hs
 obtain rfl := hs
 exact NX.fin (v := .bool q4) (Res.still (by kernel_rfl)) tot htL rfl
end Go.Proofs.Ythfmgobnanifnaa
