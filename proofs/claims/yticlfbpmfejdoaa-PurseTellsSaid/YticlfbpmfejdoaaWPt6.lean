/-
  Walks, written by program: each Go function computes the plain function of its name, in whatever world its arguments' facts hold.
-/
import Derived.Test.YticlfbpmfejdoaaWPt5
namespace Go.Proofs.Yticlfbpmfejdoaa
open Go.RowKit Go.Lab
attribute [local irreducible] WP CP NX wpList Code.wp Calls
set_option maxRecDepth 100000
set_option maxHeartbeats 4000000
set_option linter.unusedVariables false

def F.baizelaw47_PurseTells.c3 (q7 : Bool) : Option (Bool) := (some q7)
def N.baizelaw47_PurseTells_0 : List (List Nat) := [[], [], [0, 1], [0, 1, 2], [0, 1, 2, 3], [0, 1, 2, 3, 4], [0, 1, 2, 3], [0, 1, 2, 3, 4, 5, 6], [0, 1, 2, 3, 4, 5, 6, 7], [0, 1, 2, 3, 4, 5, 6, 7, 8], [0, 1, 2, 3, 4, 5, 6, 7, 8, 9], [0, 1, 2, 3, 4, 5, 6, 7, 8, 9, 10], [0, 1, 2, 3, 4, 5, 6, 7, 8, 9, 10, 11]]
def F.baizelaw47_PurseTells.c2 (l2 : List Int) (q4 : Bool) : Option (Bool) := (if q4 = true then (some false) else ((F.purse_Decode l2).bind fun (d21, x9, d22, l11, x10) => ((F.baizeref47_Decode l2).bind fun (d23, x11, d24, l12, x12) => (if (x10 == x12) = true then ((F.baizelaw47_Back d21 x9 d22 l11).bind fun (d31, x16, d32, l16) => ((F.baizeref47_Same d31 x16 d32 l16 d23 x11 d24 l12).bind fun q8 => (if q8 = true then ((F.baizelaw47_told).bind fun q9 => (F.baizelaw47_PurseTells.c3 q9)) else (F.baizelaw47_PurseTells.c3 false)))) else (F.baizelaw47_PurseTells.c3 false)))))
def N.baizelaw47_PurseTells_1 : List (List Nat) := [[], [], [0, 1], [0, 1, 2], [0, 1, 2, 3], [0, 1, 2, 3, 4], [0, 1, 2, 3, 4, 5], [0, 1, 2, 3, 4, 5, 6], [0, 1, 2, 3, 4, 5, 6, 7], [0, 1, 2, 3, 4, 5, 6, 7, 8], [0, 1, 2, 3, 4, 5, 6, 7, 8, 9], [0, 1, 2, 3, 4, 5, 6, 7, 8, 9, 10], [0, 1, 2, 3, 4, 5, 6, 7, 8, 9, 10, 11], [0, 1, 2, 3, 4, 5, 6, 7, 8, 9, 10, 11, 12], [0, 1, 2, 3, 4, 5, 6, 7, 8, 9, 10, 11, 12, 13], [0, 1, 2, 3, 4, 5, 6, 7, 8, 9, 10, 11, 12, 13, 14], [0, 1, 2, 3, 4, 5, 6, 7, 8, 9, 10, 11, 12, 13, 14, 15], [0, 1, 2, 3, 4, 5, 6, 7, 8, 9, 10, 11, 12, 13, 14, 15, 16], [0, 1, 2, 3, 4, 5, 6, 7, 8, 9, 10, 11, 12, 13, 14, 15], [0, 1, 2, 3, 4, 5, 6, 7, 8, 9, 10, 11, 12, 13, 14, 15, 18], [0, 1, 2, 3, 4, 5, 6, 7, 8, 9, 10, 11, 12, 13, 14, 15, 18, 19], [0, 1, 2, 3, 4, 5, 6, 7, 8, 9, 10, 11, 12, 13, 14, 15, 16, 17, 18, 19, 20], [0, 1, 2, 3, 4, 5, 6, 7, 8, 9, 10, 11, 12, 13, 14, 15, 16, 17, 18, 19, 20, 21], [0, 1, 2, 3, 4, 5, 6, 7, 8, 9, 10, 11, 12, 13, 14, 15, 16, 17, 18, 19, 20, 21, 22], [0, 1, 2, 3, 4, 5, 6, 7, 8, 9, 10, 11, 12, 13, 14, 15, 16, 17, 18, 19, 20, 21, 22, 23], [0, 1, 2, 3, 4, 5, 6, 7, 8, 9, 10, 11, 12, 13, 14, 15, 16, 17, 18, 19, 20, 21, 22, 23, 24], [0, 1, 2, 3, 4, 5, 6, 7, 8, 9, 10, 11, 12, 13, 14, 15, 16, 17, 18, 19, 20, 21, 22, 23, 24, 25], [0, 1, 2, 3, 4, 5, 6, 7, 8, 9, 10, 11, 12, 13, 14, 15, 16, 17, 18, 19, 20, 21, 22, 23, 24, 25, 26], [0, 1, 2, 3, 4, 5, 6, 7, 8, 9, 10, 11, 12, 13, 14, 15, 16, 17, 18, 19, 20, 21, 22, 23, 24], [0, 1, 2, 3, 4, 5, 6, 7, 8, 9, 10, 11, 12, 13, 14, 15, 16, 17, 18, 19, 20, 21, 22, 23, 24, 25, 26, 27, 28], [0, 1, 2, 3, 4, 5, 6, 7, 8, 9, 10, 11, 12, 13, 14, 15, 16, 17, 18, 19, 20, 21, 22, 23, 24, 25, 26, 27, 28, 29], [0, 1, 2, 3, 4, 5, 6, 7, 8, 9, 10, 11, 12, 13, 14, 15, 16, 17, 18, 19, 20, 21, 22, 23, 24, 25, 26, 27, 28, 29, 30]]
def F.baizelaw47_PurseTells.c1 (d1 : Arr Int 8) (x1 : Int) (d2 : Arr Int 2) (l1 : List S_baizeref47_Held) (l2 : List Int) (q2 : Bool) : Option (Bool) := (if q2 = true then ((F.baizelaw47_told).bind fun q3 => (some q3)) else ((F.baizelaw47_Own d1 x1 d2 l1).bind fun (d3, x2, d4, l3) => ((F.purse_Purse_Encode d3 x2 d4 l3).bind fun (l4, x3) => ((F.baizeref47_Check d1 x1 d2 l1).bind fun x4 => (if (x3 != x4) = true then (F.baizelaw47_PurseTells.c2 l2 true) else (if (x4 != 0) = true then (if ((l4.length : Int) != 0) = true then (F.baizelaw47_PurseTells.c2 l2 true) else (if (x4 == 0) = true then ((F.baizeref47_Bytes d1 x1 d2 l1).bind fun l17 => (if (!((bytesStr l4).toList == (bytesStr l17).toList)) = true then (F.baizelaw47_PurseTells.c2 l2 true) else ((F.baizelaw47_Own d1 x1 d2 l1).bind fun (d33, x17, d34, l18) => ((F.purse_Purse_Digest d33 x17 d34 l18).bind fun d35 => ((F.baizeref47_Digest d1 x1 d2 l1).bind fun d36 => (F.baizelaw47_PurseTells.c2 l2 (!(d35.1 == d36.1)))))))) else ((F.baizelaw47_Own d1 x1 d2 l1).bind fun (d37, x18, d38, l19) => ((F.purse_Purse_Digest d37 x18 d38 l19).bind fun d39 => ((F.baizeref47_Digest d1 x1 d2 l1).bind fun d40 => (F.baizelaw47_PurseTells.c2 l2 (!(d39.1 == d40.1)))))))) else (if (x4 == 0) = true then ((F.baizeref47_Bytes d1 x1 d2 l1).bind fun l20 => (if (!((bytesStr l4).toList == (bytesStr l20).toList)) = true then (F.baizelaw47_PurseTells.c2 l2 true) else ((F.baizelaw47_Own d1 x1 d2 l1).bind fun (d41, x19, d42, l21) => ((F.purse_Purse_Digest d41 x19 d42 l21).bind fun d43 => ((F.baizeref47_Digest d1 x1 d2 l1).bind fun d44 => (F.baizelaw47_PurseTells.c2 l2 (!(d43.1 == d44.1)))))))) else ((F.baizelaw47_Own d1 x1 d2 l1).bind fun (d45, x20, d46, l22) => ((F.purse_Purse_Digest d45 x20 d46 l22).bind fun d47 => ((F.baizeref47_Digest d1 x1 d2 l1).bind fun d48 => (F.baizelaw47_PurseTells.c2 l2 (!(d47.1 == d48.1)))))))))))))
def F.baizelaw47_PurseTells (d1 : Arr Int 8) (x1 : Int) (d2 : Arr Int 2) (l1 : List S_baizeref47_Held) (l2 : List Int) : Option (Bool) := ((F.baizelaw47_great d1 x1 d2 l1).bind fun q10 => (if q10 = true then (F.baizelaw47_PurseTells.c1 d1 x1 d2 l1 l2 true) else (F.baizelaw47_PurseTells.c1 d1 x1 d2 l1 l2 (decide ((l2.length : Int) > 1000)))))
theorem P.baizelaw47_PurseTells (g0 : GW) (d1 : Arr Int 8) (x1 : Int) (d2 : Arr Int 2) (l1 : List S_baizeref47_Held) (l2 : List Int) (a1 : Option Addr) (n1 : Nat) (c1 : Nat) (a2 : Option Addr) (n2 : Nat) (c2 : Nat) (hR1 : RdS k_S_baizeref47_Held g0 60 a1 n1 c1 l1) (hR2 : RdS (Kd.int .u8) g0 5 a2 n2 c2 l2) (o1 : Bool) (hs : F.baizelaw47_PurseTells d1 x1 d2 l1 l2 = some o1) :
  Calls Try.prog 8 #[AG [encA .u8 d1, [.int .i64 x1], encA .i64 d2, [.slice a1 n1 c1]], .slice a2 n2 c2] g0.w (Ret NoM g0 fun v g => v = .bool o1) := by
 refine calls_of (args := [AG [encA .u8 d1, [.int .i64 x1], encA .i64 d2, [.slice a1 n1 c1]], .slice a2 n2 c2]) Try.func8 rfl (0) ?_
 intro t ht htL
 refine ⟨_, rfl, ?_⟩
 refine CP.refr 82 [(0, AG [encA .u8 d1, [.int .i64 x1], encA .i64 d2, [.slice a1 n1 c1]]), (1, .slice a2 n2 c2)] (by kernel_rfl) (by kernel_rfl) ?_
 intro ds
 have tot : Step (fun l => NoM l ∨ t ≤ l) g0 g0 := Step.refl _ _
 unfold F.baizelaw47_PurseTells at hs
 refine CP.seqR ?_
 refine WP.alloc (T := 26) (t + 1) [encA .u8 d1, [.int .i64 x1], encA .i64 d2, [.slice a1 n1 c1]] [8, 1, 2, 1] (by kernel_rfl) (by simp [len_encA]) ?_
 intro g1 b1 st1 hB1
 replace hR1 := hR1.mono st1 (fun x => x)
 replace hR2 := hR2.mono st1 (fun x => x)
 replace tot := tot.trans st1.pure
 refine WP.stl 1 ?_
 refine WP.dn ?_
 refine NX.then_n ?_
 refine CP.seq ?_
 refine CP.cut (fun tm g => ∃ (q2 : Bool), Fr 82 [(1, .slice a2 n2 c2), (2, .pointer (some ⟨b1, 0, none⟩)), (18, .bool q2)] tm ∧ Step (fun l => NoM l ∨ t ≤ l) g0 g ∧ RdS (Kd.int .u8) g 5 a2 n2 c2 l2 ∧ Box g (t + 1) b1 26 [encA .u8 d1, [.int .i64 x1], encA .i64 d2, [.slice a1 n1 c1]] [8, 1, 2, 1] ∧ RdS k_S_baizeref47_Held g 60 a1 n1 c1 l1 ∧ (F.baizelaw47_PurseTells.c1 d1 x1 d2 l1 l2 q2) = some o1) ?_ ?_
 ·refine CP.region ?_
  refine WP.loadB (v := AG [encA .u8 d1, [.int .i64 x1], encA .i64 d2, [.slice a1 n1 c1]]) hB1 (by kernel_rfl) (by kernel_rfl) ?_
  replace hs := Option.bind_eq_some_iff.1 hs
  obtain ⟨q10, hk44, hs⟩ := hs
  have hcal44 := P.baizelaw47_great g1 d1 x1 d2 l1 a1 n1 c1 hR1 q10 hk44
  refine WP.callC hcal44 (by kernel_rfl) ?_
  rintro _ g73 st73 rfl
  replace hR2 := hR2.mono st73 (fun x => x)
  replace hB1 := hB1.mono st73 (fun x => x)
  replace hR1 := hR1.mono st73 (fun x => x)
  replace tot := tot.trans st73.pure
  refine WP.stl 1 ?_
  refine WP.guard 14 (b := q10) (by kernel_rfl) (fun h24 => ?_) (fun h24 => ?_)
  ·replace hs := of_if_t hs h24
   refine WP.stl 4 ?_
   refine WP.dn ?_
   refine NX.post ?_
   exact ⟨true, ⟨by kernel_rfl, by kernel_rfl⟩, tot, hR2, hB1, hR1, hs⟩
  replace hs := of_if_f hs h24
  refine WP.stl 1 ?_
  refine WP.len (a := a2) (cp := c2) hR2.len (by kernel_rfl) ?_
  refine WP.stl 2 ?_
  refine WP.dn ?_
  refine NX.post ?_
  exact ⟨decide ((l2.length : Int) > 1000), ⟨by kernel_rfl, by kernel_rfl⟩, tot, hR2, hB1, hR1, hs⟩
 clear tot hs hR2 hB1 hR1
 rintro tm g ⟨q2, hF, tot, hR2, hB1, hR1, hs⟩
 clear ds
 obtain ⟨ds, rfl⟩ := hF.open
 clear hF
 unfold F.baizelaw47_PurseTells.c1 at hs
 refine CP.cond (b := q2) (by kernel_rfl) (fun h2 => ?_) (fun h2 => ?_)
 ·replace hs := of_if_t hs h2
  refine CP.seqR ?_
  replace hs := Option.bind_eq_some_iff.1 hs
  obtain ⟨q3, hk2, hs⟩ := hs
  have hcal2 := P.baizelaw47_told g q3 hk2
  refine WP.callC hcal2 (by kernel_rfl) ?_
  rintro _ g3 st3 rfl
  replace hR2 := hR2.mono st3 (fun x => x)
  replace hB1 := hB1.mono st3 (fun x => x)
  replace hR1 := hR1.mono st3 (fun x => x)
  replace tot := tot.trans st3.pure
  refine WP.stl 1 ?_
  refine WP.dn ?_
  refine NX.then_n ?_
  refine CP.ret ?_
  refine NX.then_r ?_
  replace hs := Option.some.inj hs
  obtain rfl := hs
  exact NX.fin (v := .bool q3) (Res.still (by kernel_rfl)) tot htL rfl
 replace hs := of_if_f hs h2
 refine CP.skip ?_
 refine NX.then_n ?_
 refine CP.seqR ?_
 refine WP.loadB (v := AG [encA .u8 d1, [.int .i64 x1], encA .i64 d2, [.slice a1 n1 c1]]) hB1 (by kernel_rfl) (by kernel_rfl) ?_
 replace hs := Option.bind_eq_some_iff.1 hs
 obtain ⟨⟨d3, x2, d4, l3⟩, hk3, hs⟩ := hs
 dsimp only at hs
 have hcal3 := P.baizelaw47_Own g (t + 2) d1 x1 d2 l1 a1 n1 c1 hR1 d3 x2 d4 l3 hk3
 refine WP.callC hcal3 (by kernel_rfl) ?_
 rintro _ g4 st4 ⟨a3, n3, c3, rfl, hR3⟩
 replace hR2 := hR2.mono st4 (fun x => x)
 replace hB1 := hB1.mono st4 (fun x => x)
 replace hR1 := hR1.mono st4 (fun x => x)
 replace tot := tot.trans st4.pure
 replace hs := Option.bind_eq_some_iff.1 hs
 obtain ⟨⟨l4, x3⟩, hk4, hs⟩ := hs
 dsimp only at hs
 obtain ⟨g6, hw1, st6, hnew⟩ := hR3.freeze (by omega)
 refine WP.regw hw1 ?_
 replace hR2 := hR2.mono st6 (WL.no1 (by omega))
 replace hB1 := hB1.mono st6 (WL.no1 (by omega))
 replace hR1 := hR1.mono st6 (WL.no1 (by omega))
 replace tot := tot.trans (st6.up1 (.inr (by omega)))
 clear hR3
 have hR3 := hnew
 clear hnew
 have hcal4 := P.purse_Purse_Encode g6 d3 x2 d4 l3 a3 n3 c3 hR3 l4 x3 hk4
 refine WP.callC hcal4 (by kernel_rfl) ?_
 rintro _ g5 st5 ⟨a4, n4, c4, rfl, hR4⟩
 replace hR2 := hR2.mono st5 (fun x => x)
 replace hB1 := hB1.mono st5 (fun x => x)
 replace hR1 := hR1.mono st5 (fun x => x)
 replace hR3 := hR3.mono st5 (fun x => x)
 replace tot := tot.trans st5.pure
 refine WP.stl 5 ?_
 refine WP.dn ?_
 refine NX.then_n ?_
 refine CP.seqR ?_
 refine WP.loadB (v := AG [encA .u8 d1, [.int .i64 x1], encA .i64 d2, [.slice a1 n1 c1]]) hB1 (by kernel_rfl) (by kernel_rfl) ?_
 replace hs := Option.bind_eq_some_iff.1 hs
 obtain ⟨x4, hk5, hs⟩ := hs
 have hcal5 := P.baizeref47_Check g5 d1 x1 d2 l1 a1 n1 c1 hR1 x4 hk5
 refine WP.callC hcal5 (by kernel_rfl) ?_
 rintro _ g7 st7 rfl
 replace hR2 := hR2.mono st7 (fun x => x)
 replace hB1 := hB1.mono st7 (fun x => x)
 replace hR1 := hR1.mono st7 (fun x => x)
 replace hR4 := hR4.mono st7 (fun x => x)
 replace tot := tot.trans st7.pure
 refine WP.stl 1 ?_
 refine WP.dn ?_
 refine NX.then_n ?_
 refine CP.seq ?_
 refine CP.cut (fun tm g => ∃ (q4 : Bool), Fr 82 [(1, .slice a2 n2 c2), (59, .bool q4)] tm ∧ Step (fun l => NoM l ∨ t ≤ l) g0 g ∧ RdS (Kd.int .u8) g 5 a2 n2 c2 l2 ∧ (F.baizelaw47_PurseTells.c2 l2 q4) = some o1) ?_ ?_
 ·refine bool_split (b := (x3 != x4)) (fun h17 => ?_) (fun h17 => ?_)
  ·replace hs := of_if_t hs h17
   refine CP.drawL (by kernel_rfl) [3] N.baizelaw47_PurseTells_1 [⟨some 0, [], [0], fun l g => l.getD 0 undef = .bool true⟩] [[]] [] [0, 1, 2] [4, 5, 6, 7, 8, 9, 10, 11, 12, 13, 14, 15, 16, 17, 18, 19, 20, 21, 22, 23, 24, 25, 26, 27, 28, 29, 30, 31] (by kernel_rfl) (by simp) (by simp) ⟨fun _ _ _ _ st h0 hl hj e0 => e0, tv⟩ ⟨tv, tv⟩ (by kernel_rfl) (fun vs => by kernel_rfl) ?_ ?_ ?_
   ·intro j hj
    have hq : j = 0 ∨ j = 1 ∨ j = 2 ∨ j = 3 ∨ j = 4 ∨ j = 5 ∨ j = 6 ∨ j = 7 ∨ j = 8 ∨ j = 9 ∨ j = 10 ∨ j = 11 ∨ j = 12 ∨ j = 13 ∨ j = 14 ∨ j = 15 ∨ j = 16 ∨ j = 17 ∨ j = 18 ∨ j = 19 ∨ j = 20 ∨ j = 21 ∨ j = 22 ∨ j = 23 ∨ j = 24 ∨ j = 25 ∨ j = 26 ∨ j = 27 := by have h : j < 28 := hj; omega
    rcases hq with rfl | rfl | rfl | rfl | rfl | rfl | rfl | rfl | rfl | rfl | rfl | rfl | rfl | rfl | rfl | rfl | rfl | rfl | rfl | rfl | rfl | rfl | rfl | rfl | rfl | rfl | rfl | rfl
    ·intro vs gq stq hl hf
     obtain ⟨v0, rfl⟩ := len_k1 hl
     have e0 := (show v0 = .bool true from hf _ (memI 0 rfl) (by kernel_rfl))
     subst e0
     show Option.isSome _ = true
     kernel_rfl
    ·intro vs gq stq hl hf
     obtain ⟨v0, rfl⟩ := len_k1 hl
     have e0 := (show v0 = .bool true from hf _ (memI 0 rfl) (by kernel_rfl))
     subst e0
     show Option.isSome _ = true
     kernel_rfl
    ·intro vs gq stq hl hf
     obtain ⟨v0, rfl⟩ := len_k1 hl
     have e0 := (show v0 = .bool true from hf _ (memI 0 rfl) (by kernel_rfl))
     subst e0
     show Option.isSome _ = true
     kernel_rfl
    ·intro vs gq stq hl hf
     obtain ⟨v0, rfl⟩ := len_k1 hl
     have e0 := (show v0 = .bool true from hf _ (memI 0 rfl) (by kernel_rfl))
     subst e0
     show Option.isSome _ = true
     kernel_rfl
    ·intro vs gq stq hl hf
     obtain ⟨v0, rfl⟩ := len_k1 hl
     have e0 := (show v0 = .bool true from hf _ (memI 0 rfl) (by kernel_rfl))
     subst e0
     show Option.isSome _ = true
     kernel_rfl
    ·intro vs gq stq hl hf
     obtain ⟨v0, rfl⟩ := len_k1 hl
     have e0 := (show v0 = .bool true from hf _ (memI 0 rfl) (by kernel_rfl))
     subst e0
     show Option.isSome _ = true
     kernel_rfl
    ·intro vs gq stq hl hf
     obtain ⟨v0, rfl⟩ := len_k1 hl
     have e0 := (show v0 = .bool true from hf _ (memI 0 rfl) (by kernel_rfl))
     subst e0
     show Option.isSome _ = true
     kernel_rfl
    ·intro vs gq stq hl hf
     obtain ⟨v0, rfl⟩ := len_k1 hl
     have e0 := (show v0 = .bool true from hf _ (memI 0 rfl) (by kernel_rfl))
     subst e0
     show Option.isSome _ = true
     kernel_rfl
    ·intro vs gq stq hl hf
     obtain ⟨v0, rfl⟩ := len_k1 hl
     have e0 := (show v0 = .bool true from hf _ (memI 0 rfl) (by kernel_rfl))
     subst e0
     show Option.isSome _ = true
     kernel_rfl
    ·intro vs gq stq hl hf
     obtain ⟨v0, rfl⟩ := len_k1 hl
     have e0 := (show v0 = .bool true from hf _ (memI 0 rfl) (by kernel_rfl))
     subst e0
     show Option.isSome _ = true
     kernel_rfl
    ·intro vs gq stq hl hf
     obtain ⟨v0, rfl⟩ := len_k1 hl
     have e0 := (show v0 = .bool true from hf _ (memI 0 rfl) (by kernel_rfl))
     subst e0
     show Option.isSome _ = true
     kernel_rfl
    ·intro vs gq stq hl hf
     obtain ⟨v0, rfl⟩ := len_k1 hl
     have e0 := (show v0 = .bool true from hf _ (memI 0 rfl) (by kernel_rfl))
     subst e0
     show Option.isSome _ = true
     kernel_rfl
    ·intro vs gq stq hl hf
     obtain ⟨v0, rfl⟩ := len_k1 hl
     have e0 := (show v0 = .bool true from hf _ (memI 0 rfl) (by kernel_rfl))
     subst e0
     show Option.isSome _ = true
     kernel_rfl
    ·intro vs gq stq hl hf
     obtain ⟨v0, rfl⟩ := len_k1 hl
     have e0 := (show v0 = .bool true from hf _ (memI 0 rfl) (by kernel_rfl))
     subst e0
     show Option.isSome _ = true
     kernel_rfl
    ·intro vs gq stq hl hf
     obtain ⟨v0, rfl⟩ := len_k1 hl
     have e0 := (show v0 = .bool true from hf _ (memI 0 rfl) (by kernel_rfl))
     subst e0
     show Option.isSome _ = true
     kernel_rfl
    ·intro vs gq stq hl hf
     obtain ⟨v0, rfl⟩ := len_k1 hl
     have e0 := (show v0 = .bool true from hf _ (memI 0 rfl) (by kernel_rfl))
     subst e0
     show Option.isSome _ = true
     kernel_rfl
    ·intro vs gq stq hl hf
     obtain ⟨v0, rfl⟩ := len_k1 hl
     have e0 := (show v0 = .bool true from hf _ (memI 0 rfl) (by kernel_rfl))
     subst e0
     show Option.isSome _ = true
     kernel_rfl
    ·intro vs gq stq hl hf
     obtain ⟨v0, rfl⟩ := len_k1 hl
     have e0 := (show v0 = .bool true from hf _ (memI 0 rfl) (by kernel_rfl))
     subst e0
     show Option.isSome _ = true
     kernel_rfl
    ·intro vs gq stq hl hf
     obtain ⟨v0, rfl⟩ := len_k1 hl
     have e0 := (show v0 = .bool true from hf _ (memI 0 rfl) (by kernel_rfl))
     subst e0
     show Option.isSome _ = true
     kernel_rfl
    ·intro vs gq stq hl hf
     obtain ⟨v0, rfl⟩ := len_k1 hl
     have e0 := (show v0 = .bool true from hf _ (memI 0 rfl) (by kernel_rfl))
     subst e0
     show Option.isSome _ = true
     kernel_rfl
    ·intro vs gq stq hl hf
     obtain ⟨v0, rfl⟩ := len_k1 hl
     have e0 := (show v0 = .bool true from hf _ (memI 0 rfl) (by kernel_rfl))
     subst e0
     show Option.isSome _ = true
     kernel_rfl
    ·intro vs gq stq hl hf
     obtain ⟨v0, rfl⟩ := len_k1 hl
     have e0 := (show v0 = .bool true from hf _ (memI 0 rfl) (by kernel_rfl))
     subst e0
     show Option.isSome _ = true
     kernel_rfl
    ·intro vs gq stq hl hf
     obtain ⟨v0, rfl⟩ := len_k1 hl
     have e0 := (show v0 = .bool true from hf _ (memI 0 rfl) (by kernel_rfl))
     subst e0
     show Option.isSome _ = true
     kernel_rfl
    ·intro vs gq stq hl hf
     obtain ⟨v0, rfl⟩ := len_k1 hl
     have e0 := (show v0 = .bool true from hf _ (memI 0 rfl) (by kernel_rfl))
     subst e0
     show Option.isSome _ = true
     kernel_rfl
    ·intro vs gq stq hl hf
     obtain ⟨v0, rfl⟩ := len_k1 hl
     have e0 := (show v0 = .bool true from hf _ (memI 0 rfl) (by kernel_rfl))
     subst e0
     show Option.isSome _ = true
     kernel_rfl
    ·intro vs gq stq hl hf
     obtain ⟨v0, rfl⟩ := len_k1 hl
     have e0 := (show v0 = .bool true from hf _ (memI 0 rfl) (by kernel_rfl))
     subst e0
     show Option.isSome _ = true
     kernel_rfl
    ·intro vs gq stq hl hf
     obtain ⟨v0, rfl⟩ := len_k1 hl
     have e0 := (show v0 = .bool true from hf _ (memI 0 rfl) (by kernel_rfl))
     subst e0
     show Option.isSome _ = true
     kernel_rfl
    ·intro vs gq stq hl hf
     obtain ⟨v0, rfl⟩ := len_k1 hl
     have e0 := (show v0 = .bool true from hf _ (memI 0 rfl) (by kernel_rfl))
     subst e0
     show Option.isSome _ = true
     kernel_rfl
   ·intro j hj
    have hq : j = 0 := by have h : j < 1 := hj; omega
    rcases hq with rfl
    ·intro vs gq stq hl hf
     obtain ⟨v0, rfl⟩ := len_k1 hl
     refine WP.stl 1 ?_
     refine WP.dn (Shown.ok (v := .bool (x3 != x4)) (by kernel_rfl) (Step.refl _ _) ?_)
     exact ⟨congrArg Value.bool h17, tv⟩
   intro vs g47 st47 hl hf
   obtain ⟨v0, rfl⟩ := len_k1 hl
   have e0 := (show v0 = .bool true from hf _ (memI 0 rfl) (by kernel_rfl))
   subst e0
   replace hR2 := hR2.mono st47.toNo (fun x => x)
   replace tot := tot.trans st47.toNo.pure
   refine NX.post ?_
   exact ⟨true, ⟨by kernel_rfl, by kernel_rfl⟩, tot, hR2, hs⟩
  replace hs := of_if_f hs h17
  refine bool_split (b := (x4 != 0)) (fun h18 => ?_) (fun h18 => ?_)
  ·replace hs := of_if_t hs h18
   refine bool_split (b := ((l4.length : Int) != 0)) (fun h19 => ?_) (fun h19 => ?_)
   ·replace hs := of_if_t hs h19
    refine CP.drawL (by kernel_rfl) [3, 6, 8, 12] N.baizelaw47_PurseTells_1 [⟨none, [], [], fun l g => RdS (Kd.int .u8) g 5 a4 n4 c4 l4⟩, ⟨some 0, [], [0], fun l g => l.getD 0 undef = .bool false⟩, ⟨some 1, [], [1], fun l g => l.getD 0 undef = .bool true⟩, ⟨some 2, [], [2], fun l g => l.getD 0 undef = .int .i64 (l4.length : Int)⟩, ⟨some 3, [], [3], fun l g => l.getD 0 undef = .bool true⟩] [[], [], [], []] [] [0, 1, 2] [4, 5, 7, 9, 10, 11, 13, 14, 15, 16, 17, 18, 19, 20, 21, 22, 23, 24, 25, 26, 27, 28, 29, 30, 31] (by kernel_rfl) (by simp) (by simp) ⟨fun _ _ _ _ st h0 hl hj hR4 => (RdS.mono (e := 5) hR4 st h0), fun _ _ _ _ st h0 hl hj e0 => e0, fun _ _ _ _ st h0 hl hj e1 => e1, fun _ _ _ _ st h0 hl hj e2 => e2, fun _ _ _ _ st h0 hl hj e3 => e3, tv⟩ ⟨hR4, tv, tv, tv, tv, tv⟩ (by kernel_rfl) (fun vs => by kernel_rfl) ?_ ?_ ?_
    ·intro j hj
     have hq : j = 0 ∨ j = 1 ∨ j = 2 ∨ j = 3 ∨ j = 4 ∨ j = 5 ∨ j = 6 ∨ j = 7 ∨ j = 8 ∨ j = 9 ∨ j = 10 ∨ j = 11 ∨ j = 12 ∨ j = 13 ∨ j = 14 ∨ j = 15 ∨ j = 16 ∨ j = 17 ∨ j = 18 ∨ j = 19 ∨ j = 20 ∨ j = 21 ∨ j = 22 ∨ j = 23 ∨ j = 24 := by have h : j < 25 := hj; omega
     rcases hq with rfl | rfl | rfl | rfl | rfl | rfl | rfl | rfl | rfl | rfl | rfl | rfl | rfl | rfl | rfl | rfl | rfl | rfl | rfl | rfl | rfl | rfl | rfl | rfl | rfl
     ·intro vs gq stq hl hf
      obtain ⟨v0, v1, v2, v3, rfl⟩ := len_k4 hl
      have e0 := (show v0 = .bool false from hf _ (memI 1 rfl) (by kernel_rfl))
      subst e0
      show Option.isSome _ = true
      kernel_rfl
     ·intro vs gq stq hl hf
      obtain ⟨v0, v1, v2, v3, rfl⟩ := len_k4 hl
      have e0 := (show v0 = .bool false from hf _ (memI 1 rfl) (by kernel_rfl))
      subst e0
      show Option.isSome _ = true
      kernel_rfl
     ·intro vs gq stq hl hf
      obtain ⟨v0, v1, v2, v3, rfl⟩ := len_k4 hl
      have e1 := (show v1 = .bool true from hf _ (memI 2 rfl) (by kernel_rfl))
      subst e1
      show Option.isSome _ = true
      kernel_rfl
     ·intro vs gq stq hl hf
      obtain ⟨v0, v1, v2, v3, rfl⟩ := len_k4 hl
      have e1 := (show v1 = .bool true from hf _ (memI 2 rfl) (by kernel_rfl))
      subst e1
      have e2 := (show v2 = .int .i64 (l4.length : Int) from hf _ (memI 3 rfl) (by kernel_rfl))
      subst e2
      show Option.isSome _ = true
      kernel_rfl
     ·intro vs gq stq hl hf
      obtain ⟨v0, v1, v2, v3, rfl⟩ := len_k4 hl
      have e0 := (show v0 = .bool false from hf _ (memI 1 rfl) (by kernel_rfl))
      subst e0
      have e1 := (show v1 = .bool true from hf _ (memI 2 rfl) (by kernel_rfl))
      subst e1
      have e2 := (show v2 = .int .i64 (l4.length : Int) from hf _ (memI 3 rfl) (by kernel_rfl))
      subst e2
      show Option.isSome _ = true
      kernel_rfl
     ·intro vs gq stq hl hf
      obtain ⟨v0, v1, v2, v3, rfl⟩ := len_k4 hl
      have e0 := (show v0 = .bool false from hf _ (memI 1 rfl) (by kernel_rfl))
      subst e0
      have e1 := (show v1 = .bool true from hf _ (memI 2 rfl) (by kernel_rfl))
      subst e1
      have e2 := (show v2 = .int .i64 (l4.length : Int) from hf _ (memI 3 rfl) (by kernel_rfl))
      subst e2
      show Option.isSome _ = true
      kernel_rfl
     ·intro vs gq stq hl hf
      obtain ⟨v0, v1, v2, v3, rfl⟩ := len_k4 hl
      have e3 := (show v3 = .bool true from hf _ (memI 4 rfl) (by kernel_rfl))
      subst e3
      show Option.isSome _ = true
      kernel_rfl
     ·intro vs gq stq hl hf
      obtain ⟨v0, v1, v2, v3, rfl⟩ := len_k4 hl
      have e3 := (show v3 = .bool true from hf _ (memI 4 rfl) (by kernel_rfl))
      subst e3
      show Option.isSome _ = true
      kernel_rfl
     ·intro vs gq stq hl hf
      obtain ⟨v0, v1, v2, v3, rfl⟩ := len_k4 hl
      have e3 := (show v3 = .bool true from hf _ (memI 4 rfl) (by kernel_rfl))
      subst e3
      show Option.isSome _ = true
      kernel_rfl
     ·intro vs gq stq hl hf
      obtain ⟨v0, v1, v2, v3, rfl⟩ := len_k4 hl
      have e3 := (show v3 = .bool true from hf _ (memI 4 rfl) (by kernel_rfl))
      subst e3
      show Option.isSome _ = true
      kernel_rfl
     ·intro vs gq stq hl hf
      obtain ⟨v0, v1, v2, v3, rfl⟩ := len_k4 hl
      have e3 := (show v3 = .bool true from hf _ (memI 4 rfl) (by kernel_rfl))
      subst e3
      show Option.isSome _ = true
      kernel_rfl
     ·intro vs gq stq hl hf
      obtain ⟨v0, v1, v2, v3, rfl⟩ := len_k4 hl
      have e3 := (show v3 = .bool true from hf _ (memI 4 rfl) (by kernel_rfl))
      subst e3
      show Option.isSome _ = true
      kernel_rfl
     ·intro vs gq stq hl hf
      obtain ⟨v0, v1, v2, v3, rfl⟩ := len_k4 hl
      have e3 := (show v3 = .bool true from hf _ (memI 4 rfl) (by kernel_rfl))
      subst e3
      show Option.isSome _ = true
      kernel_rfl
     ·intro vs gq stq hl hf
      obtain ⟨v0, v1, v2, v3, rfl⟩ := len_k4 hl
      have e3 := (show v3 = .bool true from hf _ (memI 4 rfl) (by kernel_rfl))
      subst e3
      show Option.isSome _ = true
      kernel_rfl
     ·intro vs gq stq hl hf
      obtain ⟨v0, v1, v2, v3, rfl⟩ := len_k4 hl
      have e3 := (show v3 = .bool true from hf _ (memI 4 rfl) (by kernel_rfl))
      subst e3
      show Option.isSome _ = true
      kernel_rfl
     ·intro vs gq stq hl hf
      obtain ⟨v0, v1, v2, v3, rfl⟩ := len_k4 hl
      have e3 := (show v3 = .bool true from hf _ (memI 4 rfl) (by kernel_rfl))
      subst e3
      show Option.isSome _ = true
      kernel_rfl
     ·intro vs gq stq hl hf
      obtain ⟨v0, v1, v2, v3, rfl⟩ := len_k4 hl
      have e3 := (show v3 = .bool true from hf _ (memI 4 rfl) (by kernel_rfl))
      subst e3
      show Option.isSome _ = true
      kernel_rfl
     ·intro vs gq stq hl hf
      obtain ⟨v0, v1, v2, v3, rfl⟩ := len_k4 hl
      have e3 := (show v3 = .bool true from hf _ (memI 4 rfl) (by kernel_rfl))
      subst e3
      show Option.isSome _ = true
      kernel_rfl
     ·intro vs gq stq hl hf
      obtain ⟨v0, v1, v2, v3, rfl⟩ := len_k4 hl
      have e3 := (show v3 = .bool true from hf _ (memI 4 rfl) (by kernel_rfl))
      subst e3
      show Option.isSome _ = true
      kernel_rfl
     ·intro vs gq stq hl hf
      obtain ⟨v0, v1, v2, v3, rfl⟩ := len_k4 hl
      have e3 := (show v3 = .bool true from hf _ (memI 4 rfl) (by kernel_rfl))
      subst e3
      show Option.isSome _ = true
      kernel_rfl
     ·intro vs gq stq hl hf
      obtain ⟨v0, v1, v2, v3, rfl⟩ := len_k4 hl
      have e3 := (show v3 = .bool true from hf _ (memI 4 rfl) (by kernel_rfl))
      subst e3
      show Option.isSome _ = true
      kernel_rfl
     ·intro vs gq stq hl hf
      obtain ⟨v0, v1, v2, v3, rfl⟩ := len_k4 hl
      have e3 := (show v3 = .bool true from hf _ (memI 4 rfl) (by kernel_rfl))
      subst e3
      show Option.isSome _ = true
      kernel_rfl
     ·intro vs gq stq hl hf
      obtain ⟨v0, v1, v2, v3, rfl⟩ := len_k4 hl
      have e3 := (show v3 = .bool true from hf _ (memI 4 rfl) (by kernel_rfl))
      subst e3
      show Option.isSome _ = true
      kernel_rfl
     ·intro vs gq stq hl hf
      obtain ⟨v0, v1, v2, v3, rfl⟩ := len_k4 hl
      have e3 := (show v3 = .bool true from hf _ (memI 4 rfl) (by kernel_rfl))
      subst e3
      show Option.isSome _ = true
      kernel_rfl
     ·intro vs gq stq hl hf
      obtain ⟨v0, v1, v2, v3, rfl⟩ := len_k4 hl
      have e3 := (show v3 = .bool true from hf _ (memI 4 rfl) (by kernel_rfl))
      subst e3
      show Option.isSome _ = true
      kernel_rfl
    ·intro j hj
     have hq : j = 0 ∨ j = 1 ∨ j = 2 ∨ j = 3 := by have h : j < 4 := hj; omega
     rcases hq with rfl | rfl | rfl | rfl
     ·intro vs gq stq hl hf
      obtain ⟨v0, v1, v2, v3, rfl⟩ := len_k4 hl
      refine WP.stl 1 ?_
      refine WP.dn (Shown.ok (v := .bool (x3 != x4)) (by kernel_rfl) (Step.refl _ _) ?_)
      exact ⟨tv, congrArg Value.bool h17, tv, tv, tv, tv⟩
     ·intro vs gq stq hl hf
      obtain ⟨v0, v1, v2, v3, rfl⟩ := len_k4 hl
      have e0 := (show v0 = .bool false from hf _ (memI 1 rfl) (by kernel_rfl))
      subst e0
      refine WP.stl 1 ?_
      refine WP.dn (Shown.ok (v := .bool (x4 != 0)) (by kernel_rfl) (Step.refl _ _) ?_)
      exact ⟨tv, tv, congrArg Value.bool h18, tv, tv, tv⟩
     ·intro vs gq stq hl hf
      obtain ⟨v0, v1, v2, v3, rfl⟩ := len_k4 hl
      have hR4 := (show RdS (Kd.int .u8) gq 5 a4 n4 c4 l4 from hf _ (memI 0 rfl) (by kernel_rfl))
      have e1 := (show v1 = .bool true from hf _ (memI 2 rfl) (by kernel_rfl))
      subst e1
      refine WP.len (a := a4) (cp := c4) hR4.len (by kernel_rfl) ?_
      refine WP.dn (Shown.ok (v := .int .i64 (l4.length : Int)) (by kernel_rfl) (Step.refl _ _) ?_)
      exact ⟨tv, tv, tv, rfl, tv, tv⟩
     ·intro vs gq stq hl hf
      obtain ⟨v0, v1, v2, v3, rfl⟩ := len_k4 hl
      have e0 := (show v0 = .bool false from hf _ (memI 1 rfl) (by kernel_rfl))
      subst e0
      have e1 := (show v1 = .bool true from hf _ (memI 2 rfl) (by kernel_rfl))
      subst e1
      have e2 := (show v2 = .int .i64 (l4.length : Int) from hf _ (memI 3 rfl) (by kernel_rfl))
      subst e2
      refine WP.stl 1 ?_
      refine WP.dn (Shown.ok (v := .bool ((l4.length : Int) != 0)) (by kernel_rfl) (Step.refl _ _) ?_)
      exact ⟨tv, tv, tv, tv, congrArg Value.bool h19, tv⟩
    intro vs g48 st48 hl hf
    obtain ⟨v0, v1, v2, v3, rfl⟩ := len_k4 hl
    have e3 := (show v3 = .bool true from hf _ (memI 4 rfl) (by kernel_rfl))
    subst e3
    replace hR2 := hR2.mono st48.toNo (fun x => x)
    replace tot := tot.trans st48.toNo.pure
    refine NX.post ?_
    exact ⟨true, ⟨by kernel_rfl, by kernel_rfl⟩, tot, hR2, hs⟩
   replace hs := of_if_f hs h19
   refine bool_split (b := (x4 == 0)) (fun h20 => ?_) (fun h20 => ?_)
   ·replace hs := of_if_t hs h20
    replace hs := Option.bind_eq_some_iff.1 hs
    obtain ⟨l17, hk30, hs⟩ := hs
    refine bool_split (b := (!((bytesStr l4).toList == (bytesStr l17).toList))) (fun h21 => ?_) (fun h21 => ?_)
    ·replace hs := of_if_t hs h21
     refine CP.drawL (by kernel_rfl) [3, 6, 8, 12, 15, 17, 18, 19, 20, 24] N.baizelaw47_PurseTells_1 [⟨none, [], [], fun l g => Box g (t + 1) b1 26 [encA .u8 d1, [.int .i64 x1], encA .i64 d2, [.slice a1 n1 c1]] [8, 1, 2, 1]⟩, ⟨none, [], [], fun l g => RdS k_S_baizeref47_Held g 60 a1 n1 c1 l1⟩, ⟨none, [], [], fun l g => RdS (Kd.int .u8) g 5 a4 n4 c4 l4⟩, ⟨some 0, [], [0], fun l g => l.getD 0 undef = .bool false⟩, ⟨some 1, [], [1], fun l g => l.getD 0 undef = .bool true⟩, ⟨some 2, [], [2], fun l g => l.getD 0 undef = .int .i64 (l4.length : Int)⟩, ⟨some 3, [], [3], fun l g => l.getD 0 undef = .bool false⟩, ⟨some 4, [], [4], fun l g => l.getD 0 undef = .bool true⟩, ⟨some 5, [], [5], fun l g => l.getD 0 undef = .string (bytesStr l4)⟩, ⟨some 6, [], [6], fun l g => l.getD 0 undef = AG [encA .u8 d1, [.int .i64 x1], encA .i64 d2, [.slice a1 n1 c1]]⟩, ⟨some 7, [], [7], fun l g => ∃ (a17 : Option Addr) (c17 : Nat), l.getD 0 undef = .slice a17 l17.length c17 ∧ OwnS (Kd.int .u8) g (t + 17) 5 a17 l17.length c17 l17⟩, ⟨some 8, [], [8], fun l g => l.getD 0 undef = .string (bytesStr l17)⟩, ⟨some 9, [], [9], fun l g => l.getD 0 undef = .bool true⟩] [[], [], [], [], [], [], [], [], [], []] [] [0, 1, 2] [4, 5, 7, 9, 10, 11, 13, 14, 16, 21, 22, 23, 25, 26, 27, 28, 29, 30, 31] (by kernel_rfl) (by simp) (by simp) ⟨fun _ _ _ _ st h0 hl hj hB1 => (hB1.mono st (fun h => absurd (hl _ h) (by simp))), fun _ _ _ _ st h0 hl hj hR1 => (RdS.mono (e := 60) hR1 st h0), fun _ _ _ _ st h0 hl hj hR4 => (RdS.mono (e := 5) hR4 st h0), fun _ _ _ _ st h0 hl hj e0 => e0, fun _ _ _ _ st h0 hl hj e1 => e1, fun _ _ _ _ st h0 hl hj e2 => e2, fun _ _ _ _ st h0 hl hj e3 => e3, fun _ _ _ _ st h0 hl hj e4 => e4, fun _ _ _ _ st h0 hl hj e5 => e5, fun _ _ _ _ st h0 hl hj e6 => e6, fun _ _ _ _ st h0 hl hj ⟨a17, c17, e7, hR17⟩ => ⟨a17, c17, e7, (hR17.mono st h0 (fun h => absurd (hl _ h) (by simp)))⟩, fun _ _ _ _ st h0 hl hj e8 => e8, fun _ _ _ _ st h0 hl hj e9 => e9, tv⟩ ⟨hB1, hR1, hR4, tv, tv, tv, tv, tv, tv, tv, tv, tv, tv, tv⟩ (by kernel_rfl) (fun vs => by kernel_rfl) ?_ ?_ ?_
     ·intro j hj
      have hq : j = 0 ∨ j = 1 ∨ j = 2 ∨ j = 3 ∨ j = 4 ∨ j = 5 ∨ j = 6 ∨ j = 7 ∨ j = 8 ∨ j = 9 ∨ j = 10 ∨ j = 11 ∨ j = 12 ∨ j = 13 ∨ j = 14 ∨ j = 15 ∨ j = 16 ∨ j = 17 ∨ j = 18 := by have h : j < 19 := hj; omega
      rcases hq with rfl | rfl | rfl | rfl | rfl | rfl | rfl | rfl | rfl | rfl | rfl | rfl | rfl | rfl | rfl | rfl | rfl | rfl | rfl
      ·intro vs gq stq hl hf
       obtain ⟨v0, v1, v2, v3, v4, v5, v6, v7, v8, v9, rfl⟩ := len_k10 hl
       have e0 := (show v0 = .bool false from hf _ (memI 3 rfl) (by kernel_rfl))
       subst e0
       show Option.isSome _ = true
       kernel_rfl
      ·intro vs gq stq hl hf
       obtain ⟨v0, v1, v2, v3, v4, v5, v6, v7, v8, v9, rfl⟩ := len_k10 hl
       have e0 := (show v0 = .bool false from hf _ (memI 3 rfl) (by kernel_rfl))
       subst e0
       show Option.isSome _ = true
       kernel_rfl
      ·intro vs gq stq hl hf
       obtain ⟨v0, v1, v2, v3, v4, v5, v6, v7, v8, v9, rfl⟩ := len_k10 hl
       have e1 := (show v1 = .bool true from hf _ (memI 4 rfl) (by kernel_rfl))
       subst e1
       show Option.isSome _ = true
       kernel_rfl
      ·intro vs gq stq hl hf
       obtain ⟨v0, v1, v2, v3, v4, v5, v6, v7, v8, v9, rfl⟩ := len_k10 hl
       have e1 := (show v1 = .bool true from hf _ (memI 4 rfl) (by kernel_rfl))
       subst e1
       have e2 := (show v2 = .int .i64 (l4.length : Int) from hf _ (memI 5 rfl) (by kernel_rfl))
       subst e2
       show Option.isSome _ = true
       kernel_rfl
      ·intro vs gq stq hl hf
       obtain ⟨v0, v1, v2, v3, v4, v5, v6, v7, v8, v9, rfl⟩ := len_k10 hl
       have e0 := (show v0 = .bool false from hf _ (memI 3 rfl) (by kernel_rfl))
       subst e0
       have e1 := (show v1 = .bool true from hf _ (memI 4 rfl) (by kernel_rfl))
       subst e1
       have e2 := (show v2 = .int .i64 (l4.length : Int) from hf _ (memI 5 rfl) (by kernel_rfl))
       subst e2
       show Option.isSome _ = true
       kernel_rfl
      ·intro vs gq stq hl hf
       obtain ⟨v0, v1, v2, v3, v4, v5, v6, v7, v8, v9, rfl⟩ := len_k10 hl
       have e0 := (show v0 = .bool false from hf _ (memI 3 rfl) (by kernel_rfl))
       subst e0
       have e1 := (show v1 = .bool true from hf _ (memI 4 rfl) (by kernel_rfl))
       subst e1
       have e2 := (show v2 = .int .i64 (l4.length : Int) from hf _ (memI 5 rfl) (by kernel_rfl))
       subst e2
       show Option.isSome _ = true
       kernel_rfl
      ·intro vs gq stq hl hf
       obtain ⟨v0, v1, v2, v3, v4, v5, v6, v7, v8, v9, rfl⟩ := len_k10 hl
       have e3 := (show v3 = .bool false from hf _ (memI 6 rfl) (by kernel_rfl))
       subst e3
       show Option.isSome _ = true
       kernel_rfl
      ·intro vs gq stq hl hf
       obtain ⟨v0, v1, v2, v3, v4, v5, v6, v7, v8, v9, rfl⟩ := len_k10 hl
       have e3 := (show v3 = .bool false from hf _ (memI 6 rfl) (by kernel_rfl))
       subst e3
       show Option.isSome _ = true
       kernel_rfl
      ·intro vs gq stq hl hf
       obtain ⟨v0, v1, v2, v3, v4, v5, v6, v7, v8, v9, rfl⟩ := len_k10 hl
       have e4 := (show v4 = .bool true from hf _ (memI 7 rfl) (by kernel_rfl))
       subst e4
       show Option.isSome _ = true
       kernel_rfl
      ·intro vs gq stq hl hf
       obtain ⟨v0, v1, v2, v3, v4, v5, v6, v7, v8, v9, rfl⟩ := len_k10 hl
       have e4 := (show v4 = .bool true from hf _ (memI 7 rfl) (by kernel_rfl))
       subst e4
       have e5 := (show v5 = .string (bytesStr l4) from hf _ (memI 8 rfl) (by kernel_rfl))
       subst e5
       have e8 := (show v8 = .string (bytesStr l17) from hf _ (memI 11 rfl) (by kernel_rfl))
       subst e8
       show Option.isSome _ = true
       kernel_rfl
      ·intro vs gq stq hl hf
       obtain ⟨v0, v1, v2, v3, v4, v5, v6, v7, v8, v9, rfl⟩ := len_k10 hl
       have e3 := (show v3 = .bool false from hf _ (memI 6 rfl) (by kernel_rfl))
       subst e3
       have e4 := (show v4 = .bool true from hf _ (memI 7 rfl) (by kernel_rfl))
       subst e4
       have e5 := (show v5 = .string (bytesStr l4) from hf _ (memI 8 rfl) (by kernel_rfl))
       subst e5
       have e8 := (show v8 = .string (bytesStr l17) from hf _ (memI 11 rfl) (by kernel_rfl))
       subst e8
       show Option.isSome _ = true
       kernel_rfl
      ·intro vs gq stq hl hf
       obtain ⟨v0, v1, v2, v3, v4, v5, v6, v7, v8, v9, rfl⟩ := len_k10 hl
       have e3 := (show v3 = .bool false from hf _ (memI 6 rfl) (by kernel_rfl))
       subst e3
       have e4 := (show v4 = .bool true from hf _ (memI 7 rfl) (by kernel_rfl))
       subst e4
       have e5 := (show v5 = .string (bytesStr l4) from hf _ (memI 8 rfl) (by kernel_rfl))
       subst e5
       have e8 := (show v8 = .string (bytesStr l17) from hf _ (memI 11 rfl) (by kernel_rfl))
       subst e8
       show Option.isSome _ = true
       kernel_rfl
      ·intro vs gq stq hl hf
       obtain ⟨v0, v1, v2, v3, v4, v5, v6, v7, v8, v9, rfl⟩ := len_k10 hl
       have e9 := (show v9 = .bool true from hf _ (memI 12 rfl) (by kernel_rfl))
       subst e9
       show Option.isSome _ = true
       kernel_rfl
      ·intro vs gq stq hl hf
       obtain ⟨v0, v1, v2, v3, v4, v5, v6, v7, v8, v9, rfl⟩ := len_k10 hl
       have e9 := (show v9 = .bool true from hf _ (memI 12 rfl) (by kernel_rfl))
       subst e9
       show Option.isSome _ = true
       kernel_rfl
      ·intro vs gq stq hl hf
       obtain ⟨v0, v1, v2, v3, v4, v5, v6, v7, v8, v9, rfl⟩ := len_k10 hl
       have e9 := (show v9 = .bool true from hf _ (memI 12 rfl) (by kernel_rfl))
       subst e9
       show Option.isSome _ = true
       kernel_rfl
      ·intro vs gq stq hl hf
       obtain ⟨v0, v1, v2, v3, v4, v5, v6, v7, v8, v9, rfl⟩ := len_k10 hl
       have e9 := (show v9 = .bool true from hf _ (memI 12 rfl) (by kernel_rfl))
       subst e9
       show Option.isSome _ = true
       kernel_rfl
      ·intro vs gq stq hl hf
       obtain ⟨v0, v1, v2, v3, v4, v5, v6, v7, v8, v9, rfl⟩ := len_k10 hl
       have e9 := (show v9 = .bool true from hf _ (memI 12 rfl) (by kernel_rfl))
       subst e9
       show Option.isSome _ = true
       kernel_rfl
      ·intro vs gq stq hl hf
       obtain ⟨v0, v1, v2, v3, v4, v5, v6, v7, v8, v9, rfl⟩ := len_k10 hl
       have e9 := (show v9 = .bool true from hf _ (memI 12 rfl) (by kernel_rfl))
       subst e9
       show Option.isSome _ = true
       kernel_rfl
      ·intro vs gq stq hl hf
       obtain ⟨v0, v1, v2, v3, v4, v5, v6, v7, v8, v9, rfl⟩ := len_k10 hl
       have e9 := (show v9 = .bool true from hf _ (memI 12 rfl) (by kernel_rfl))
       subst e9
       show Option.isSome _ = true
       kernel_rfl
     ·intro j hj
      have hq : j = 0 ∨ j = 1 ∨ j = 2 ∨ j = 3 ∨ j = 4 ∨ j = 5 ∨ j = 6 ∨ j = 7 ∨ j = 8 ∨ j = 9 := by have h : j < 10 := hj; omega
      rcases hq with rfl | rfl | rfl | rfl | rfl | rfl | rfl | rfl | rfl | rfl
      ·intro vs gq stq hl hf
       obtain ⟨v0, v1, v2, v3, v4, v5, v6, v7, v8, v9, rfl⟩ := len_k10 hl
       refine WP.stl 1 ?_
       refine WP.dn (Shown.ok (v := .bool (x3 != x4)) (by kernel_rfl) (Step.refl _ _) ?_)
       exact ⟨tv, tv, tv, congrArg Value.bool h17, tv, tv, tv, tv, tv, tv, tv, tv, tv, tv⟩
      ·intro vs gq stq hl hf
       obtain ⟨v0, v1, v2, v3, v4, v5, v6, v7, v8, v9, rfl⟩ := len_k10 hl
       have e0 := (show v0 = .bool false from hf _ (memI 3 rfl) (by kernel_rfl))
       subst e0
       refine WP.stl 1 ?_
       refine WP.dn (Shown.ok (v := .bool (x4 != 0)) (by kernel_rfl) (Step.refl _ _) ?_)
       exact ⟨tv, tv, tv, tv, congrArg Value.bool h18, tv, tv, tv, tv, tv, tv, tv, tv, tv⟩
      ·intro vs gq stq hl hf
       obtain ⟨v0, v1, v2, v3, v4, v5, v6, v7, v8, v9, rfl⟩ := len_k10 hl
       have hR4 := (show RdS (Kd.int .u8) gq 5 a4 n4 c4 l4 from hf _ (memI 2 rfl) (by kernel_rfl))
       have e1 := (show v1 = .bool true from hf _ (memI 4 rfl) (by kernel_rfl))
       subst e1
       refine WP.len (a := a4) (cp := c4) hR4.len (by kernel_rfl) ?_
       refine WP.dn (Shown.ok (v := .int .i64 (l4.length : Int)) (by kernel_rfl) (Step.refl _ _) ?_)
       exact ⟨tv, tv, tv, tv, tv, rfl, tv, tv, tv, tv, tv, tv, tv, tv⟩
      ·intro vs gq stq hl hf
       obtain ⟨v0, v1, v2, v3, v4, v5, v6, v7, v8, v9, rfl⟩ := len_k10 hl
       have e0 := (show v0 = .bool false from hf _ (memI 3 rfl) (by kernel_rfl))
       subst e0
       have e1 := (show v1 = .bool true from hf _ (memI 4 rfl) (by kernel_rfl))
       subst e1
       have e2 := (show v2 = .int .i64 (l4.length : Int) from hf _ (memI 5 rfl) (by kernel_rfl))
       subst e2
       refine WP.stl 1 ?_
       refine WP.dn (Shown.ok (v := .bool ((l4.length : Int) != 0)) (by kernel_rfl) (Step.refl _ _) ?_)
       exact ⟨tv, tv, tv, tv, tv, tv, congrArg Value.bool h19, tv, tv, tv, tv, tv, tv, tv⟩
      ·intro vs gq stq hl hf
       obtain ⟨v0, v1, v2, v3, v4, v5, v6, v7, v8, v9, rfl⟩ := len_k10 hl
       have e3 := (show v3 = .bool false from hf _ (memI 6 rfl) (by kernel_rfl))
       subst e3
       refine WP.stl 1 ?_
       refine WP.dn (Shown.ok (v := .bool (x4 == 0)) (by kernel_rfl) (Step.refl _ _) ?_)
       exact ⟨tv, tv, tv, tv, tv, tv, tv, congrArg Value.bool h20, tv, tv, tv, tv, tv, tv⟩
      ·intro vs gq stq hl hf
       obtain ⟨v0, v1, v2, v3, v4, v5, v6, v7, v8, v9, rfl⟩ := len_k10 hl
       have hR4 := (show RdS (Kd.int .u8) gq 5 a4 n4 c4 l4 from hf _ (memI 2 rfl) (by kernel_rfl))
       have e4 := (show v4 = .bool true from hf _ (memI 7 rfl) (by kernel_rfl))
       subst e4
       refine WP.toStr (a := a4) (cp := c4) hR4.src hR4.len (by kernel_rfl) ?_
       refine WP.dn (Shown.ok (v := .string (bytesStr l4)) (by kernel_rfl) (Step.refl _ _) ?_)
       exact ⟨tv, tv, tv, tv, tv, tv, tv, tv, rfl, tv, tv, tv, tv, tv⟩
      ·intro vs gq stq hl hf
       obtain ⟨v0, v1, v2, v3, v4, v5, v6, v7, v8, v9, rfl⟩ := len_k10 hl
       have hB1 := (show Box gq (t + 1) b1 26 [encA .u8 d1, [.int .i64 x1], encA .i64 d2, [.slice a1 n1 c1]] [8, 1, 2, 1] from hf _ (memI 0 rfl) (by kernel_rfl))
       have e4 := (show v4 = .bool true from hf _ (memI 7 rfl) (by kernel_rfl))
       subst e4
       refine WP.loadB (v := AG [encA .u8 d1, [.int .i64 x1], encA .i64 d2, [.slice a1 n1 c1]]) hB1 (by kernel_rfl) (by kernel_rfl) ?_
       refine WP.dn (Shown.ok (v := AG [encA .u8 d1, [.int .i64 x1], encA .i64 d2, [.slice a1 n1 c1]]) (by kernel_rfl) (Step.refl _ _) ?_)
       exact ⟨tv, tv, tv, tv, tv, tv, tv, tv, tv, rfl, tv, tv, tv, tv⟩
      ·intro vs gq stq hl hf
       obtain ⟨v0, v1, v2, v3, v4, v5, v6, v7, v8, v9, rfl⟩ := len_k10 hl
       have hR1 := (show RdS k_S_baizeref47_Held gq 60 a1 n1 c1 l1 from hf _ (memI 1 rfl) (by kernel_rfl))
       have e4 := (show v4 = .bool true from hf _ (memI 7 rfl) (by kernel_rfl))
       subst e4
       have e6 := (show v6 = AG [encA .u8 d1, [.int .i64 x1], encA .i64 d2, [.slice a1 n1 c1]] from hf _ (memI 9 rfl) (by kernel_rfl))
       subst e6
       have hcal30 := P.baizeref47_Bytes gq (t + 17) d1 x1 d2 l1 a1 n1 c1 hR1 l17 hk30
       refine WP.callC hcal30 (by kernel_rfl) ?_
       rintro _ g49 st49 ⟨a17, n17, c17, rfl, hR17⟩
       obtain rfl := hR17.len
       refine WP.dn (Shown.o (v := .slice a17 l17.length c17) st49.pure ?_)
       exact ⟨tv, tv, tv, tv, tv, tv, tv, tv, tv, tv, ⟨a17, c17, rfl, hR17⟩, tv, tv, tv⟩
      ·intro vs gq stq hl hf
       obtain ⟨v0, v1, v2, v3, v4, v5, v6, v7, v8, v9, rfl⟩ := len_k10 hl
       have e4 := (show v4 = .bool true from hf _ (memI 7 rfl) (by kernel_rfl))
       subst e4
       obtain ⟨a17, c17, e7, hR17⟩ := (show ∃ (a17 : Option Addr) (c17 : Nat), v7 = .slice a17 l17.length c17 ∧ OwnS (Kd.int .u8) gq (t + 17) 5 a17 l17.length c17 l17 from hf _ (memI 10 rfl) (by kernel_rfl))
       subst e7
       refine WP.toStr (a := a17) (cp := c17) hR17.src hR17.len (by kernel_rfl) ?_
       refine WP.dn (Shown.ok (v := .string (bytesStr l17)) (by kernel_rfl) (Step.refl _ _) ?_)
       exact ⟨tv, tv, tv, tv, tv, tv, tv, tv, tv, tv, tv, rfl, tv, tv⟩
      ·intro vs gq stq hl hf
       obtain ⟨v0, v1, v2, v3, v4, v5, v6, v7, v8, v9, rfl⟩ := len_k10 hl
       have e3 := (show v3 = .bool false from hf _ (memI 6 rfl) (by kernel_rfl))
       subst e3
       have e4 := (show v4 = .bool true from hf _ (memI 7 rfl) (by kernel_rfl))
       subst e4
       have e5 := (show v5 = .string (bytesStr l4) from hf _ (memI 8 rfl) (by kernel_rfl))
       subst e5
       have e8 := (show v8 = .string (bytesStr l17) from hf _ (memI 11 rfl) (by kernel_rfl))
       subst e8
       refine WP.stl 1 ?_
       refine WP.dn (Shown.ok (v := .bool (!((bytesStr l4).toList == (bytesStr l17).toList))) (by kernel_rfl) (Step.refl _ _) ?_)
       exact ⟨tv, tv, tv, tv, tv, tv, tv, tv, tv, tv, tv, tv, congrArg Value.bool h21, tv⟩
     intro vs g50 st50 hl hf
     obtain ⟨v0, v1, v2, v3, v4, v5, v6, v7, v8, v9, rfl⟩ := len_k10 hl
     have e9 := (show v9 = .bool true from hf _ (memI 12 rfl) (by kernel_rfl))
     subst e9
     replace hR2 := hR2.mono st50.toNo (fun x => x)
     replace tot := tot.trans st50.toNo.pure
     refine NX.post ?_
     exact ⟨true, ⟨by kernel_rfl, by kernel_rfl⟩, tot, hR2, hs⟩
    replace hs := of_if_f hs h21
    replace hs := Option.bind_eq_some_iff.1 hs
    obtain ⟨⟨d33, x17, d34, l18⟩, hk31, hs⟩ := hs
    dsimp only at hs
    replace hs := Option.bind_eq_some_iff.1 hs
    obtain ⟨d35, hk32, hs⟩ := hs
    replace hs := Option.bind_eq_some_iff.1 hs
    obtain ⟨d36, hk33, hs⟩ := hs
    refine CP.drawL (by kernel_rfl) [3, 6, 8, 12, 15, 17, 18, 19, 20, 24, 25, 26, 27, 28, 29, 30] N.baizelaw47_PurseTells_1 [⟨none, [], [], fun l g => Box g (t + 1) b1 26 [encA .u8 d1, [.int .i64 x1], encA .i64 d2, [.slice a1 n1 c1]] [8, 1, 2, 1]⟩, ⟨none, [], [], fun l g => RdS k_S_baizeref47_Held g 60 a1 n1 c1 l1⟩, ⟨none, [], [], fun l g => RdS (Kd.int .u8) g 5 a4 n4 c4 l4⟩, ⟨some 0, [], [0], fun l g => l.getD 0 undef = .bool false⟩, ⟨some 1, [], [1], fun l g => l.getD 0 undef = .bool true⟩, ⟨some 2, [], [2], fun l g => l.getD 0 undef = .int .i64 (l4.length : Int)⟩, ⟨some 3, [], [3], fun l g => l.getD 0 undef = .bool false⟩, ⟨some 4, [], [4], fun l g => l.getD 0 undef = .bool true⟩, ⟨some 5, [], [5], fun l g => l.getD 0 undef = .string (bytesStr l4)⟩, ⟨some 6, [], [6], fun l g => l.getD 0 undef = AG [encA .u8 d1, [.int .i64 x1], encA .i64 d2, [.slice a1 n1 c1]]⟩, ⟨some 7, [], [7], fun l g => ∃ (a17 : Option Addr) (c17 : Nat), l.getD 0 undef = .slice a17 l17.length c17 ∧ OwnS (Kd.int .u8) g (t + 17) 5 a17 l17.length c17 l17⟩, ⟨some 8, [], [8], fun l g => l.getD 0 undef = .string (bytesStr l17)⟩, ⟨some 9, [], [9], fun l g => l.getD 0 undef = .bool false⟩, ⟨some 10, [], [10], fun l g => l.getD 0 undef = AG [encA .u8 d1, [.int .i64 x1], encA .i64 d2, [.slice a1 n1 c1]]⟩, ⟨some 11, [0], [11], fun l g => ∃ (a18 : Option Addr) (c18 : Nat), l.getD 0 undef = AG [encA .u8 d33, [.int .i64 x17], encA .i64 d34, [.slice a18 l18.length c18]] ∧ OwnS k_S_purse_Held g (t + 18) 56 a18 l18.length c18 l18⟩, ⟨some 12, [], [12], fun l g => l.getD 0 undef = AG [encA .u8 d35]⟩, ⟨some 12, [0], [11], fun l g => ∃ (a18 : Option Addr) (c18 : Nat), l.getD 0 undef = AG [encA .u8 d33, [.int .i64 x17], encA .i64 d34, [.slice a18 l18.length c18]] ∧ OwnS k_S_purse_Held g (t + 18) 56 a18 l18.length c18 l18⟩, ⟨some 13, [], [13], fun l g => l.getD 0 undef = AG [encA .u8 d1, [.int .i64 x1], encA .i64 d2, [.slice a1 n1 c1]]⟩, ⟨some 14, [], [14], fun l g => l.getD 0 undef = AG [encA .u8 d36]⟩, ⟨some 15, [], [15], fun l g => l.getD 0 undef = .bool (!(d35.1 == d36.1))⟩] [[], [], [], [], [], [], [], [], [], [], [], [], [0], [], [], []] [(t + 18)] [0, 1, 2] [4, 5, 7, 9, 10, 11, 13, 14, 16, 21, 22, 23, 31] (by kernel_rfl) (by simp <;> omega) (by simp) ⟨fun _ _ _ _ st h0 hl hj hB1 => (hB1.mono st (fun h => absurd (hl _ h) (by simp <;> omega))), fun _ _ _ _ st h0 hl hj hR1 => (RdS.mono (e := 60) hR1 st h0), fun _ _ _ _ st h0 hl hj hR4 => (RdS.mono (e := 5) hR4 st h0), fun _ _ _ _ st h0 hl hj e0 => e0, fun _ _ _ _ st h0 hl hj e1 => e1, fun _ _ _ _ st h0 hl hj e2 => e2, fun _ _ _ _ st h0 hl hj e3 => e3, fun _ _ _ _ st h0 hl hj e4 => e4, fun _ _ _ _ st h0 hl hj e5 => e5, fun _ _ _ _ st h0 hl hj e6 => e6, fun _ _ _ _ st h0 hl hj ⟨a17, c17, e7, hR17⟩ => ⟨a17, c17, e7, (hR17.mono st h0 (fun h => absurd (hl _ h) (by simp <;> omega)))⟩, fun _ _ _ _ st h0 hl hj e8 => e8, fun _ _ _ _ st h0 hl hj e9 => e9, fun _ _ _ _ st h0 hl hj e10 => e10, fun _ _ _ _ st h0 hl hj ⟨a18, c18, e11, hR18⟩ => ⟨a18, c18, e11, (hR18.mono st h0 (hj 0 (by simp) _ rfl))⟩, fun _ _ _ _ st h0 hl hj e12 => e12, fun _ _ _ _ st h0 hl hj ⟨a18, c18, e11, hR18⟩ => ⟨a18, c18, e11, (hR18.mono st h0 (hj 0 (by simp) _ rfl))⟩, fun _ _ _ _ st h0 hl hj e13 => e13, fun _ _ _ _ st h0 hl hj e14 => e14, fun _ _ _ _ st h0 hl hj e15 => e15, tv⟩ ⟨hB1, hR1, hR4, tv, tv, tv, tv, tv, tv, tv, tv, tv, tv, tv, tv, tv, tv, tv, tv, tv, tv⟩ (by kernel_rfl) (fun vs => by kernel_rfl) ?_ ?_ ?_
    ·intro j hj
     have hq : j = 0 ∨ j = 1 ∨ j = 2 ∨ j = 3 ∨ j = 4 ∨ j = 5 ∨ j = 6 ∨ j = 7 ∨ j = 8 ∨ j = 9 ∨ j = 10 ∨ j = 11 ∨ j = 12 := by have h : j < 13 := hj; omega
     rcases hq with rfl | rfl | rfl | rfl | rfl | rfl | rfl | rfl | rfl | rfl | rfl | rfl | rfl
     ·intro vs gq stq hl hf
      obtain ⟨v0, v1, v2, v3, v4, v5, v6, v7, v8, v9, v10, v11, v12, v13, v14, v15, rfl⟩ := len_k16 hl
      have e0 := (show v0 = .bool false from hf _ (memI 3 rfl) (by kernel_rfl))
      subst e0
      show Option.isSome _ = true
      kernel_rfl
     ·intro vs gq stq hl hf
      obtain ⟨v0, v1, v2, v3, v4, v5, v6, v7, v8, v9, v10, v11, v12, v13, v14, v15, rfl⟩ := len_k16 hl
      have e0 := (show v0 = .bool false from hf _ (memI 3 rfl) (by kernel_rfl))
      subst e0
      show Option.isSome _ = true
      kernel_rfl
     ·intro vs gq stq hl hf
      obtain ⟨v0, v1, v2, v3, v4, v5, v6, v7, v8, v9, v10, v11, v12, v13, v14, v15, rfl⟩ := len_k16 hl
      have e1 := (show v1 = .bool true from hf _ (memI 4 rfl) (by kernel_rfl))
      subst e1
      show Option.isSome _ = true
      kernel_rfl
     ·intro vs gq stq hl hf
      obtain ⟨v0, v1, v2, v3, v4, v5, v6, v7, v8, v9, v10, v11, v12, v13, v14, v15, rfl⟩ := len_k16 hl
      have e1 := (show v1 = .bool true from hf _ (memI 4 rfl) (by kernel_rfl))
      subst e1
      have e2 := (show v2 = .int .i64 (l4.length : Int) from hf _ (memI 5 rfl) (by kernel_rfl))
      subst e2
      show Option.isSome _ = true
      kernel_rfl
     ·intro vs gq stq hl hf
      obtain ⟨v0, v1, v2, v3, v4, v5, v6, v7, v8, v9, v10, v11, v12, v13, v14, v15, rfl⟩ := len_k16 hl
      have e0 := (show v0 = .bool false from hf _ (memI 3 rfl) (by kernel_rfl))
      subst e0
      have e1 := (show v1 = .bool true from hf _ (memI 4 rfl) (by kernel_rfl))
      subst e1
      have e2 := (show v2 = .int .i64 (l4.length : Int) from hf _ (memI 5 rfl) (by kernel_rfl))
      subst e2
      show Option.isSome _ = true
      kernel_rfl
     ·intro vs gq stq hl hf
      obtain ⟨v0, v1, v2, v3, v4, v5, v6, v7, v8, v9, v10, v11, v12, v13, v14, v15, rfl⟩ := len_k16 hl
      have e0 := (show v0 = .bool false from hf _ (memI 3 rfl) (by kernel_rfl))
      subst e0
      have e1 := (show v1 = .bool true from hf _ (memI 4 rfl) (by kernel_rfl))
      subst e1
      have e2 := (show v2 = .int .i64 (l4.length : Int) from hf _ (memI 5 rfl) (by kernel_rfl))
      subst e2
      show Option.isSome _ = true
      kernel_rfl
     ·intro vs gq stq hl hf
      obtain ⟨v0, v1, v2, v3, v4, v5, v6, v7, v8, v9, v10, v11, v12, v13, v14, v15, rfl⟩ := len_k16 hl
      have e3 := (show v3 = .bool false from hf _ (memI 6 rfl) (by kernel_rfl))
      subst e3
      show Option.isSome _ = true
      kernel_rfl
     ·intro vs gq stq hl hf
      obtain ⟨v0, v1, v2, v3, v4, v5, v6, v7, v8, v9, v10, v11, v12, v13, v14, v15, rfl⟩ := len_k16 hl
      have e3 := (show v3 = .bool false from hf _ (memI 6 rfl) (by kernel_rfl))
      subst e3
      show Option.isSome _ = true
      kernel_rfl
     ·intro vs gq stq hl hf
      obtain ⟨v0, v1, v2, v3, v4, v5, v6, v7, v8, v9, v10, v11, v12, v13, v14, v15, rfl⟩ := len_k16 hl
      have e4 := (show v4 = .bool true from hf _ (memI 7 rfl) (by kernel_rfl))
      subst e4
      show Option.isSome _ = true
      kernel_rfl
     ·intro vs gq stq hl hf
      obtain ⟨v0, v1, v2, v3, v4, v5, v6, v7, v8, v9, v10, v11, v12, v13, v14, v15, rfl⟩ := len_k16 hl
      have e4 := (show v4 = .bool true from hf _ (memI 7 rfl) (by kernel_rfl))
      subst e4
      have e5 := (show v5 = .string (bytesStr l4) from hf _ (memI 8 rfl) (by kernel_rfl))
      subst e5
      have e8 := (show v8 = .string (bytesStr l17) from hf _ (memI 11 rfl) (by kernel_rfl))
      subst e8
      show Option.isSome _ = true
      kernel_rfl
     ·intro vs gq stq hl hf
      obtain ⟨v0, v1, v2, v3, v4, v5, v6, v7, v8, v9, v10, v11, v12, v13, v14, v15, rfl⟩ := len_k16 hl
      have e3 := (show v3 = .bool false from hf _ (memI 6 rfl) (by kernel_rfl))
      subst e3
      have e4 := (show v4 = .bool true from hf _ (memI 7 rfl) (by kernel_rfl))
      subst e4
      have e5 := (show v5 = .string (bytesStr l4) from hf _ (memI 8 rfl) (by kernel_rfl))
      subst e5
      have e8 := (show v8 = .string (bytesStr l17) from hf _ (memI 11 rfl) (by kernel_rfl))
      subst e8
      show Option.isSome _ = true
      kernel_rfl
     ·intro vs gq stq hl hf
      obtain ⟨v0, v1, v2, v3, v4, v5, v6, v7, v8, v9, v10, v11, v12, v13, v14, v15, rfl⟩ := len_k16 hl
      have e3 := (show v3 = .bool false from hf _ (memI 6 rfl) (by kernel_rfl))
      subst e3
      have e4 := (show v4 = .bool true from hf _ (memI 7 rfl) (by kernel_rfl))
      subst e4
      have e5 := (show v5 = .string (bytesStr l4) from hf _ (memI 8 rfl) (by kernel_rfl))
      subst e5
      have e8 := (show v8 = .string (bytesStr l17) from hf _ (memI 11 rfl) (by kernel_rfl))
      subst e8
      show Option.isSome _ = true
      kernel_rfl
     ·intro vs gq stq hl hf
      obtain ⟨v0, v1, v2, v3, v4, v5, v6, v7, v8, v9, v10, v11, v12, v13, v14, v15, rfl⟩ := len_k16 hl
      have e9 := (show v9 = .bool false from hf _ (memI 12 rfl) (by kernel_rfl))
      subst e9
      have e15 := (show v15 = .bool (!(d35.1 == d36.1)) from hf _ (memI 19 rfl) (by kernel_rfl))
      subst e15
      show Option.isSome _ = true
      kernel_rfl
    ·intro j hj
     have hq : j = 0 ∨ j = 1 ∨ j = 2 ∨ j = 3 ∨ j = 4 ∨ j = 5 ∨ j = 6 ∨ j = 7 ∨ j = 8 ∨ j = 9 ∨ j = 10 ∨ j = 11 ∨ j = 12 ∨ j = 13 ∨ j = 14 ∨ j = 15 := by have h : j < 16 := hj; omega
     rcases hq with rfl | rfl | rfl | rfl | rfl | rfl | rfl | rfl | rfl | rfl | rfl | rfl | rfl | rfl | rfl | rfl
     ·intro vs gq stq hl hf
      obtain ⟨v0, v1, v2, v3, v4, v5, v6, v7, v8, v9, v10, v11, v12, v13, v14, v15, rfl⟩ := len_k16 hl
      refine WP.stl 1 ?_
      refine WP.dn (Shown.ok (v := .bool (x3 != x4)) (by kernel_rfl) (Step.refl _ _) ?_)
      exact ⟨tv, tv, tv, congrArg Value.bool h17, tv, tv, tv, tv, tv, tv, tv, tv, tv, tv, tv, tv, tv, tv, tv, tv, tv⟩
     ·intro vs gq stq hl hf
      obtain ⟨v0, v1, v2, v3, v4, v5, v6, v7, v8, v9, v10, v11, v12, v13, v14, v15, rfl⟩ := len_k16 hl
      have e0 := (show v0 = .bool false from hf _ (memI 3 rfl) (by kernel_rfl))
      subst e0
      refine WP.stl 1 ?_
      refine WP.dn (Shown.ok (v := .bool (x4 != 0)) (by kernel_rfl) (Step.refl _ _) ?_)
      exact ⟨tv, tv, tv, tv, congrArg Value.bool h18, tv, tv, tv, tv, tv, tv, tv, tv, tv, tv, tv, tv, tv, tv, tv, tv⟩
     ·intro vs gq stq hl hf
      obtain ⟨v0, v1, v2, v3, v4, v5, v6, v7, v8, v9, v10, v11, v12, v13, v14, v15, rfl⟩ := len_k16 hl
      have hR4 := (show RdS (Kd.int .u8) gq 5 a4 n4 c4 l4 from hf _ (memI 2 rfl) (by kernel_rfl))
      have e1 := (show v1 = .bool true from hf _ (memI 4 rfl) (by kernel_rfl))
      subst e1
      refine WP.len (a := a4) (cp := c4) hR4.len (by kernel_rfl) ?_
      refine WP.dn (Shown.ok (v := .int .i64 (l4.length : Int)) (by kernel_rfl) (Step.refl _ _) ?_)
      exact ⟨tv, tv, tv, tv, tv, rfl, tv, tv, tv, tv, tv, tv, tv, tv, tv, tv, tv, tv, tv, tv, tv⟩
     ·intro vs gq stq hl hf
      obtain ⟨v0, v1, v2, v3, v4, v5, v6, v7, v8, v9, v10, v11, v12, v13, v14, v15, rfl⟩ := len_k16 hl
      have e0 := (show v0 = .bool false from hf _ (memI 3 rfl) (by kernel_rfl))
      subst e0
      have e1 := (show v1 = .bool true from hf _ (memI 4 rfl) (by kernel_rfl))
      subst e1
      have e2 := (show v2 = .int .i64 (l4.length : Int) from hf _ (memI 5 rfl) (by kernel_rfl))
      subst e2
      refine WP.stl 1 ?_
      refine WP.dn (Shown.ok (v := .bool ((l4.length : Int) != 0)) (by kernel_rfl) (Step.refl _ _) ?_)
      exact ⟨tv, tv, tv, tv, tv, tv, congrArg Value.bool h19, tv, tv, tv, tv, tv, tv, tv, tv, tv, tv, tv, tv, tv, tv⟩
     ·intro vs gq stq hl hf
      obtain ⟨v0, v1, v2, v3, v4, v5, v6, v7, v8, v9, v10, v11, v12, v13, v14, v15, rfl⟩ := len_k16 hl
      have e3 := (show v3 = .bool false from hf _ (memI 6 rfl) (by kernel_rfl))
      subst e3
      refine WP.stl 1 ?_
      refine WP.dn (Shown.ok (v := .bool (x4 == 0)) (by kernel_rfl) (Step.refl _ _) ?_)
      exact ⟨tv, tv, tv, tv, tv, tv, tv, congrArg Value.bool h20, tv, tv, tv, tv, tv, tv, tv, tv, tv, tv, tv, tv, tv⟩
     ·intro vs gq stq hl hf
      obtain ⟨v0, v1, v2, v3, v4, v5, v6, v7, v8, v9, v10, v11, v12, v13, v14, v15, rfl⟩ := len_k16 hl
      have hR4 := (show RdS (Kd.int .u8) gq 5 a4 n4 c4 l4 from hf _ (memI 2 rfl) (by kernel_rfl))
      have e4 := (show v4 = .bool true from hf _ (memI 7 rfl) (by kernel_rfl))
      subst e4
      refine WP.toStr (a := a4) (cp := c4) hR4.src hR4.len (by kernel_rfl) ?_
      refine WP.dn (Shown.ok (v := .string (bytesStr l4)) (by kernel_rfl) (Step.refl _ _) ?_)
      exact ⟨tv, tv, tv, tv, tv, tv, tv, tv, rfl, tv, tv, tv, tv, tv, tv, tv, tv, tv, tv, tv, tv⟩
     ·intro vs gq stq hl hf
      obtain ⟨v0, v1, v2, v3, v4, v5, v6, v7, v8, v9, v10, v11, v12, v13, v14, v15, rfl⟩ := len_k16 hl
      have hB1 := (show Box gq (t + 1) b1 26 [encA .u8 d1, [.int .i64 x1], encA .i64 d2, [.slice a1 n1 c1]] [8, 1, 2, 1] from hf _ (memI 0 rfl) (by kernel_rfl))
      have e4 := (show v4 = .bool true from hf _ (memI 7 rfl) (by kernel_rfl))
      subst e4
      refine WP.loadB (v := AG [encA .u8 d1, [.int .i64 x1], encA .i64 d2, [.slice a1 n1 c1]]) hB1 (by kernel_rfl) (by kernel_rfl) ?_
      refine WP.dn (Shown.ok (v := AG [encA .u8 d1, [.int .i64 x1], encA .i64 d2, [.slice a1 n1 c1]]) (by kernel_rfl) (Step.refl _ _) ?_)
      exact ⟨tv, tv, tv, tv, tv, tv, tv, tv, tv, rfl, tv, tv, tv, tv, tv, tv, tv, tv, tv, tv, tv⟩
     ·intro vs gq stq hl hf
      obtain ⟨v0, v1, v2, v3, v4, v5, v6, v7, v8, v9, v10, v11, v12, v13, v14, v15, rfl⟩ := len_k16 hl
      have hR1 := (show RdS k_S_baizeref47_Held gq 60 a1 n1 c1 l1 from hf _ (memI 1 rfl) (by kernel_rfl))
      have e4 := (show v4 = .bool true from hf _ (memI 7 rfl) (by kernel_rfl))
      subst e4
      have e6 := (show v6 = AG [encA .u8 d1, [.int .i64 x1], encA .i64 d2, [.slice a1 n1 c1]] from hf _ (memI 9 rfl) (by kernel_rfl))
      subst e6
      have hcal30 := P.baizeref47_Bytes gq (t + 17) d1 x1 d2 l1 a1 n1 c1 hR1 l17 hk30
      refine WP.callC hcal30 (by kernel_rfl) ?_
      rintro _ g49 st49 ⟨a17, n17, c17, rfl, hR17⟩
      obtain rfl := hR17.len
      refine WP.dn (Shown.o (v := .slice a17 l17.length c17) st49.pure ?_)
      exact ⟨tv, tv, tv, tv, tv, tv, tv, tv, tv, tv, ⟨a17, c17, rfl, hR17⟩, tv, tv, tv, tv, tv, tv, tv, tv, tv, tv⟩
     ·intro vs gq stq hl hf
      obtain ⟨v0, v1, v2, v3, v4, v5, v6, v7, v8, v9, v10, v11, v12, v13, v14, v15, rfl⟩ := len_k16 hl
      have e4 := (show v4 = .bool true from hf _ (memI 7 rfl) (by kernel_rfl))
      subst e4
      obtain ⟨a17, c17, e7, hR17⟩ := (show ∃ (a17 : Option Addr) (c17 : Nat), v7 = .slice a17 l17.length c17 ∧ OwnS (Kd.int .u8) gq (t + 17) 5 a17 l17.length c17 l17 from hf _ (memI 10 rfl) (by kernel_rfl))
      subst e7
      refine WP.toStr (a := a17) (cp := c17) hR17.src hR17.len (by kernel_rfl) ?_
      refine WP.dn (Shown.ok (v := .string (bytesStr l17)) (by kernel_rfl) (Step.refl _ _) ?_)
      exact ⟨tv, tv, tv, tv, tv, tv, tv, tv, tv, tv, tv, rfl, tv, tv, tv, tv, tv, tv, tv, tv, tv⟩
     ·intro vs gq stq hl hf
      obtain ⟨v0, v1, v2, v3, v4, v5, v6, v7, v8, v9, v10, v11, v12, v13, v14, v15, rfl⟩ := len_k16 hl
      have e3 := (show v3 = .bool false from hf _ (memI 6 rfl) (by kernel_rfl))
      subst e3
      have e4 := (show v4 = .bool true from hf _ (memI 7 rfl) (by kernel_rfl))
      subst e4
      have e5 := (show v5 = .string (bytesStr l4) from hf _ (memI 8 rfl) (by kernel_rfl))
      subst e5
      have e8 := (show v8 = .string (bytesStr l17) from hf _ (memI 11 rfl) (by kernel_rfl))
      subst e8
      refine WP.stl 1 ?_
      refine WP.dn (Shown.ok (v := .bool (!((bytesStr l4).toList == (bytesStr l17).toList))) (by kernel_rfl) (Step.refl _ _) ?_)
      exact ⟨tv, tv, tv, tv, tv, tv, tv, tv, tv, tv, tv, tv, congrArg Value.bool h21, tv, tv, tv, tv, tv, tv, tv, tv⟩
     ·intro vs gq stq hl hf
      obtain ⟨v0, v1, v2, v3, v4, v5, v6, v7, v8, v9, v10, v11, v12, v13, v14, v15, rfl⟩ := len_k16 hl
      have hB1 := (show Box gq (t + 1) b1 26 [encA .u8 d1, [.int .i64 x1], encA .i64 d2, [.slice a1 n1 c1]] [8, 1, 2, 1] from hf _ (memI 0 rfl) (by kernel_rfl))
      have e9 := (show v9 = .bool false from hf _ (memI 12 rfl) (by kernel_rfl))
      subst e9
      refine WP.loadB (v := AG [encA .u8 d1, [.int .i64 x1], encA .i64 d2, [.slice a1 n1 c1]]) hB1 (by kernel_rfl) (by kernel_rfl) ?_
      refine WP.dn (Shown.ok (v := AG [encA .u8 d1, [.int .i64 x1], encA .i64 d2, [.slice a1 n1 c1]]) (by kernel_rfl) (Step.refl _ _) ?_)
      exact ⟨tv, tv, tv, tv, tv, tv, tv, tv, tv, tv, tv, tv, tv, rfl, tv, tv, tv, tv, tv, tv, tv⟩
     ·intro vs gq stq hl hf
      obtain ⟨v0, v1, v2, v3, v4, v5, v6, v7, v8, v9, v10, v11, v12, v13, v14, v15, rfl⟩ := len_k16 hl
      have hR1 := (show RdS k_S_baizeref47_Held gq 60 a1 n1 c1 l1 from hf _ (memI 1 rfl) (by kernel_rfl))
      have e9 := (show v9 = .bool false from hf _ (memI 12 rfl) (by kernel_rfl))
      subst e9
      have e10 := (show v10 = AG [encA .u8 d1, [.int .i64 x1], encA .i64 d2, [.slice a1 n1 c1]] from hf _ (memI 13 rfl) (by kernel_rfl))
      subst e10
      have hcal31 := P.baizelaw47_Own gq (t + 18) d1 x1 d2 l1 a1 n1 c1 hR1 d33 x17 d34 l18 hk31
      refine WP.callC hcal31 (by kernel_rfl) ?_
      rintro _ g51 st51 ⟨a18, n18, c18, rfl, hR18⟩
      obtain rfl := hR18.len
      refine WP.dn (Shown.o (v := AG [encA .u8 d33, [.int .i64 x17], encA .i64 d34, [.slice a18 l18.length c18]]) st51.pure ?_)
      exact ⟨tv, tv, tv, tv, tv, tv, tv, tv, tv, tv, tv, tv, tv, tv, ⟨a18, c18, rfl, hR18⟩, tv, tv, tv, tv, tv, tv⟩
     ·intro vs gq stq hl hf
      obtain ⟨v0, v1, v2, v3, v4, v5, v6, v7, v8, v9, v10, v11, v12, v13, v14, v15, rfl⟩ := len_k16 hl
      have e9 := (show v9 = .bool false from hf _ (memI 12 rfl) (by kernel_rfl))
      subst e9
      obtain ⟨a18, c18, e11, hR18⟩ := (show ∃ (a18 : Option Addr) (c18 : Nat), v11 = AG [encA .u8 d33, [.int .i64 x17], encA .i64 d34, [.slice a18 l18.length c18]] ∧ OwnS k_S_purse_Held gq (t + 18) 56 a18 l18.length c18 l18 from hf _ (memI 14 rfl) (by kernel_rfl))
      subst e11
      have hS7 : 0 ∉ ([(t + 18)] : List Nat) := by simp <;> omega
      have stl7 := GW.lend_step gq [(t + 18)]
      have hRl9 := hR18.lendTo hS7 (by simp)
      refine WP.regw (g' := GW.lend gq [(t + 18)]) rfl ?_
      have hcal32 := P.purse_Purse_Digest (GW.lend gq [(t + 18)]) d33 x17 d34 l18 a18 l18.length c18 hRl9 d35 hk32
      refine WP.callC hcal32 (by kernel_rfl) ?_
      rintro _ g52 st52 rfl
      have st53 := (GW.back_step st52).lentS
      have hO9 := hR18.backTo hS7 (by simp) st52 (fun x => x)
      refine WP.regw (g' := GW.back gq g52 [(t + 18)]) rfl ?_
      generalize GW.back gq g52 [(t + 18)] = g53 at *
      refine WP.dn (Shown.o (v := AG [encA .u8 d35]) st53 ?_)
      exact ⟨tv, tv, tv, tv, tv, tv, tv, tv, tv, tv, tv, tv, tv, tv, tv, rfl, ⟨a18, c18, rfl, hO9⟩, tv, tv, tv, tv⟩
     ·intro vs gq stq hl hf
      obtain ⟨v0, v1, v2, v3, v4, v5, v6, v7, v8, v9, v10, v11, v12, v13, v14, v15, rfl⟩ := len_k16 hl
      have hB1 := (show Box gq (t + 1) b1 26 [encA .u8 d1, [.int .i64 x1], encA .i64 d2, [.slice a1 n1 c1]] [8, 1, 2, 1] from hf _ (memI 0 rfl) (by kernel_rfl))
      have e9 := (show v9 = .bool false from hf _ (memI 12 rfl) (by kernel_rfl))
      subst e9
      refine WP.loadB (v := AG [encA .u8 d1, [.int .i64 x1], encA .i64 d2, [.slice a1 n1 c1]]) hB1 (by kernel_rfl) (by kernel_rfl) ?_
      refine WP.dn (Shown.ok (v := AG [encA .u8 d1, [.int .i64 x1], encA .i64 d2, [.slice a1 n1 c1]]) (by kernel_rfl) (Step.refl _ _) ?_)
      exact ⟨tv, tv, tv, tv, tv, tv, tv, tv, tv, tv, tv, tv, tv, tv, tv, tv, tv, rfl, tv, tv, tv⟩
     ·intro vs gq stq hl hf
      obtain ⟨v0, v1, v2, v3, v4, v5, v6, v7, v8, v9, v10, v11, v12, v13, v14, v15, rfl⟩ := len_k16 hl
      have hR1 := (show RdS k_S_baizeref47_Held gq 60 a1 n1 c1 l1 from hf _ (memI 1 rfl) (by kernel_rfl))
      have e9 := (show v9 = .bool false from hf _ (memI 12 rfl) (by kernel_rfl))
      subst e9
      have e13 := (show v13 = AG [encA .u8 d1, [.int .i64 x1], encA .i64 d2, [.slice a1 n1 c1]] from hf _ (memI 17 rfl) (by kernel_rfl))
      subst e13
      have hcal33 := P.baizeref47_Digest gq d1 x1 d2 l1 a1 n1 c1 hR1 d36 hk33
      refine WP.callC hcal33 (by kernel_rfl) ?_
      rintro _ g54 st54 rfl
      refine WP.dn (Shown.o (v := AG [encA .u8 d36]) st54.pure ?_)
      exact ⟨tv, tv, tv, tv, tv, tv, tv, tv, tv, tv, tv, tv, tv, tv, tv, tv, tv, tv, rfl, tv, tv⟩
     ·intro vs gq stq hl hf
      obtain ⟨v0, v1, v2, v3, v4, v5, v6, v7, v8, v9, v10, v11, v12, v13, v14, v15, rfl⟩ := len_k16 hl
      have e9 := (show v9 = .bool false from hf _ (memI 12 rfl) (by kernel_rfl))
      subst e9
      have e12 := (show v12 = AG [encA .u8 d35] from hf _ (memI 15 rfl) (by kernel_rfl))
      subst e12
      have e14 := (show v14 = AG [encA .u8 d36] from hf _ (memI 18 rfl) (by kernel_rfl))
      subst e14
      refine WP.neV (by kernel_rfl) (by kernel_rfl) (EqV.arr (d := 9998) (t := 22) (e := 5) (m := 8) (k := .u8) (x := d35) (y := d36) (by kernel_rfl) (by kernel_rfl)) ?_
      refine WP.dn (Shown.ok (v := .bool (!(d35.1 == d36.1))) (by kernel_rfl) (Step.refl _ _) ?_)
      exact ⟨tv, tv, tv, tv, tv, tv, tv, tv, tv, tv, tv, tv, tv, tv, tv, tv, tv, tv, tv, rfl, tv⟩
    intro vs g55 st55 hl hf
    obtain ⟨v0, v1, v2, v3, v4, v5, v6, v7, v8, v9, v10, v11, v12, v13, v14, v15, rfl⟩ := len_k16 hl
    have e9 := (show v9 = .bool false from hf _ (memI 12 rfl) (by kernel_rfl))
    subst e9
    have e15 := (show v15 = .bool (!(d35.1 == d36.1)) from hf _ (memI 19 rfl) (by kernel_rfl))
    subst e15
    replace hR2 := hR2.mono st55 (WL.no1 (by omega))
    replace tot := tot.trans (st55.up1 (.inr (by omega)))
    refine NX.post ?_
    exact ⟨(!(d35.1 == d36.1)), ⟨by kernel_rfl, by kernel_rfl⟩, tot, hR2, hs⟩
   replace hs := of_if_f hs h20
   replace hs := Option.bind_eq_some_iff.1 hs
   obtain ⟨⟨d37, x18, d38, l19⟩, hk34, hs⟩ := hs
   dsimp only at hs
   replace hs := Option.bind_eq_some_iff.1 hs
   obtain ⟨d39, hk35, hs⟩ := hs
   replace hs := Option.bind_eq_some_iff.1 hs
   obtain ⟨d40, hk36, hs⟩ := hs
   refine CP.drawL (by kernel_rfl) [3, 6, 8, 12, 15, 25, 26, 27, 28, 29, 30] N.baizelaw47_PurseTells_1 [⟨none, [], [], fun l g => Box g (t + 1) b1 26 [encA .u8 d1, [.int .i64 x1], encA .i64 d2, [.slice a1 n1 c1]] [8, 1, 2, 1]⟩, ⟨none, [], [], fun l g => RdS k_S_baizeref47_Held g 60 a1 n1 c1 l1⟩, ⟨none, [], [], fun l g => RdS (Kd.int .u8) g 5 a4 n4 c4 l4⟩, ⟨some 0, [], [0], fun l g => l.getD 0 undef = .bool false⟩, ⟨some 1, [], [1], fun l g => l.getD 0 undef = .bool true⟩, ⟨some 2, [], [2], fun l g => l.getD 0 undef = .int .i64 (l4.length : Int)⟩, ⟨some 3, [], [3], fun l g => l.getD 0 undef = .bool false⟩, ⟨some 4, [], [4], fun l g => l.getD 0 undef = .bool false⟩, ⟨some 5, [], [5], fun l g => l.getD 0 undef = AG [encA .u8 d1, [.int .i64 x1], encA .i64 d2, [.slice a1 n1 c1]]⟩, ⟨some 6, [0], [6], fun l g => ∃ (a19 : Option Addr) (c19 : Nat), l.getD 0 undef = AG [encA .u8 d37, [.int .i64 x18], encA .i64 d38, [.slice a19 l19.length c19]] ∧ OwnS k_S_purse_Held g (t + 19) 56 a19 l19.length c19 l19⟩, ⟨some 7, [], [7], fun l g => l.getD 0 undef = AG [encA .u8 d39]⟩, ⟨some 7, [0], [6], fun l g => ∃ (a19 : Option Addr) (c19 : Nat), l.getD 0 undef = AG [encA .u8 d37, [.int .i64 x18], encA .i64 d38, [.slice a19 l19.length c19]] ∧ OwnS k_S_purse_Held g (t + 19) 56 a19 l19.length c19 l19⟩, ⟨some 8, [], [8], fun l g => l.getD 0 undef = AG [encA .u8 d1, [.int .i64 x1], encA .i64 d2, [.slice a1 n1 c1]]⟩, ⟨some 9, [], [9], fun l g => l.getD 0 undef = AG [encA .u8 d40]⟩, ⟨some 10, [], [10], fun l g => l.getD 0 undef = .bool (!(d39.1 == d40.1))⟩] [[], [], [], [], [], [], [], [0], [], [], []] [(t + 19)] [0, 1, 2] [4, 5, 7, 9, 10, 11, 13, 14, 16, 17, 18, 19, 20, 21, 22, 23, 24, 31] (by kernel_rfl) (by simp <;> omega) (by simp) ⟨fun _ _ _ _ st h0 hl hj hB1 => (hB1.mono st (fun h => absurd (hl _ h) (by simp <;> omega))), fun _ _ _ _ st h0 hl hj hR1 => (RdS.mono (e := 60) hR1 st h0), fun _ _ _ _ st h0 hl hj hR4 => (RdS.mono (e := 5) hR4 st h0), fun _ _ _ _ st h0 hl hj e0 => e0, fun _ _ _ _ st h0 hl hj e1 => e1, fun _ _ _ _ st h0 hl hj e2 => e2, fun _ _ _ _ st h0 hl hj e3 => e3, fun _ _ _ _ st h0 hl hj e4 => e4, fun _ _ _ _ st h0 hl hj e5 => e5, fun _ _ _ _ st h0 hl hj ⟨a19, c19, e6, hR19⟩ => ⟨a19, c19, e6, (hR19.mono st h0 (hj 0 (by simp) _ rfl))⟩, fun _ _ _ _ st h0 hl hj e7 => e7, fun _ _ _ _ st h0 hl hj ⟨a19, c19, e6, hR19⟩ => ⟨a19, c19, e6, (hR19.mono st h0 (hj 0 (by simp) _ rfl))⟩, fun _ _ _ _ st h0 hl hj e8 => e8, fun _ _ _ _ st h0 hl hj e9 => e9, fun _ _ _ _ st h0 hl hj e10 => e10, tv⟩ ⟨hB1, hR1, hR4, tv, tv, tv, tv, tv, tv, tv, tv, tv, tv, tv, tv, tv⟩ (by kernel_rfl) (fun vs => by kernel_rfl) ?_ ?_ ?_
   ·intro j hj
    have hq : j = 0 ∨ j = 1 ∨ j = 2 ∨ j = 3 ∨ j = 4 ∨ j = 5 ∨ j = 6 ∨ j = 7 ∨ j = 8 ∨ j = 9 ∨ j = 10 ∨ j = 11 ∨ j = 12 ∨ j = 13 ∨ j = 14 ∨ j = 15 ∨ j = 16 ∨ j = 17 := by have h : j < 18 := hj; omega
    rcases hq with rfl | rfl | rfl | rfl | rfl | rfl | rfl | rfl | rfl | rfl | rfl | rfl | rfl | rfl | rfl | rfl | rfl | rfl
    ·intro vs gq stq hl hf
     obtain ⟨v0, v1, v2, v3, v4, v5, v6, v7, v8, v9, v10, rfl⟩ := len_k11 hl
     have e0 := (show v0 = .bool false from hf _ (memI 3 rfl) (by kernel_rfl))
     subst e0
     show Option.isSome _ = true
     kernel_rfl
    ·intro vs gq stq hl hf
     obtain ⟨v0, v1, v2, v3, v4, v5, v6, v7, v8, v9, v10, rfl⟩ := len_k11 hl
     have e0 := (show v0 = .bool false from hf _ (memI 3 rfl) (by kernel_rfl))
     subst e0
     show Option.isSome _ = true
     kernel_rfl
    ·intro vs gq stq hl hf
     obtain ⟨v0, v1, v2, v3, v4, v5, v6, v7, v8, v9, v10, rfl⟩ := len_k11 hl
     have e1 := (show v1 = .bool true from hf _ (memI 4 rfl) (by kernel_rfl))
     subst e1
     show Option.isSome _ = true
     kernel_rfl
    ·intro vs gq stq hl hf
     obtain ⟨v0, v1, v2, v3, v4, v5, v6, v7, v8, v9, v10, rfl⟩ := len_k11 hl
     have e1 := (show v1 = .bool true from hf _ (memI 4 rfl) (by kernel_rfl))
     subst e1
     have e2 := (show v2 = .int .i64 (l4.length : Int) from hf _ (memI 5 rfl) (by kernel_rfl))
     subst e2
     show Option.isSome _ = true
     kernel_rfl
    ·intro vs gq stq hl hf
     obtain ⟨v0, v1, v2, v3, v4, v5, v6, v7, v8, v9, v10, rfl⟩ := len_k11 hl
     have e0 := (show v0 = .bool false from hf _ (memI 3 rfl) (by kernel_rfl))
     subst e0
     have e1 := (show v1 = .bool true from hf _ (memI 4 rfl) (by kernel_rfl))
     subst e1
     have e2 := (show v2 = .int .i64 (l4.length : Int) from hf _ (memI 5 rfl) (by kernel_rfl))
     subst e2
     show Option.isSome _ = true
     kernel_rfl
    ·intro vs gq stq hl hf
     obtain ⟨v0, v1, v2, v3, v4, v5, v6, v7, v8, v9, v10, rfl⟩ := len_k11 hl
     have e0 := (show v0 = .bool false from hf _ (memI 3 rfl) (by kernel_rfl))
     subst e0
     have e1 := (show v1 = .bool true from hf _ (memI 4 rfl) (by kernel_rfl))
     subst e1
     have e2 := (show v2 = .int .i64 (l4.length : Int) from hf _ (memI 5 rfl) (by kernel_rfl))
     subst e2
     show Option.isSome _ = true
     kernel_rfl
    ·intro vs gq stq hl hf
     obtain ⟨v0, v1, v2, v3, v4, v5, v6, v7, v8, v9, v10, rfl⟩ := len_k11 hl
     have e3 := (show v3 = .bool false from hf _ (memI 6 rfl) (by kernel_rfl))
     subst e3
     show Option.isSome _ = true
     kernel_rfl
    ·intro vs gq stq hl hf
     obtain ⟨v0, v1, v2, v3, v4, v5, v6, v7, v8, v9, v10, rfl⟩ := len_k11 hl
     have e3 := (show v3 = .bool false from hf _ (memI 6 rfl) (by kernel_rfl))
     subst e3
     show Option.isSome _ = true
     kernel_rfl
    ·intro vs gq stq hl hf
     obtain ⟨v0, v1, v2, v3, v4, v5, v6, v7, v8, v9, v10, rfl⟩ := len_k11 hl
     have e4 := (show v4 = .bool false from hf _ (memI 7 rfl) (by kernel_rfl))
     subst e4
     show Option.isSome _ = true
     kernel_rfl
    ·intro vs gq stq hl hf
     obtain ⟨v0, v1, v2, v3, v4, v5, v6, v7, v8, v9, v10, rfl⟩ := len_k11 hl
     have e4 := (show v4 = .bool false from hf _ (memI 7 rfl) (by kernel_rfl))
     subst e4
     show Option.isSome _ = true
     kernel_rfl
    ·intro vs gq stq hl hf
     obtain ⟨v0, v1, v2, v3, v4, v5, v6, v7, v8, v9, v10, rfl⟩ := len_k11 hl
     have e4 := (show v4 = .bool false from hf _ (memI 7 rfl) (by kernel_rfl))
     subst e4
     show Option.isSome _ = true
     kernel_rfl
    ·intro vs gq stq hl hf
     obtain ⟨v0, v1, v2, v3, v4, v5, v6, v7, v8, v9, v10, rfl⟩ := len_k11 hl
     have e4 := (show v4 = .bool false from hf _ (memI 7 rfl) (by kernel_rfl))
     subst e4
     show Option.isSome _ = true
     kernel_rfl
    ·intro vs gq stq hl hf
     obtain ⟨v0, v1, v2, v3, v4, v5, v6, v7, v8, v9, v10, rfl⟩ := len_k11 hl
     have e4 := (show v4 = .bool false from hf _ (memI 7 rfl) (by kernel_rfl))
     subst e4
     show Option.isSome _ = true
     kernel_rfl
    ·intro vs gq stq hl hf
     obtain ⟨v0, v1, v2, v3, v4, v5, v6, v7, v8, v9, v10, rfl⟩ := len_k11 hl
     have e4 := (show v4 = .bool false from hf _ (memI 7 rfl) (by kernel_rfl))
     subst e4
     show Option.isSome _ = true
     kernel_rfl
    ·intro vs gq stq hl hf
     obtain ⟨v0, v1, v2, v3, v4, v5, v6, v7, v8, v9, v10, rfl⟩ := len_k11 hl
     have e3 := (show v3 = .bool false from hf _ (memI 6 rfl) (by kernel_rfl))
     subst e3
     have e4 := (show v4 = .bool false from hf _ (memI 7 rfl) (by kernel_rfl))
     subst e4
     show Option.isSome _ = true
     kernel_rfl
    ·intro vs gq stq hl hf
     obtain ⟨v0, v1, v2, v3, v4, v5, v6, v7, v8, v9, v10, rfl⟩ := len_k11 hl
     have e3 := (show v3 = .bool false from hf _ (memI 6 rfl) (by kernel_rfl))
     subst e3
     have e4 := (show v4 = .bool false from hf _ (memI 7 rfl) (by kernel_rfl))
     subst e4
     show Option.isSome _ = true
     kernel_rfl
    ·intro vs gq stq hl hf
     obtain ⟨v0, v1, v2, v3, v4, v5, v6, v7, v8, v9, v10, rfl⟩ := len_k11 hl
     have e3 := (show v3 = .bool false from hf _ (memI 6 rfl) (by kernel_rfl))
     subst e3
     have e4 := (show v4 = .bool false from hf _ (memI 7 rfl) (by kernel_rfl))
     subst e4
     show Option.isSome _ = true
     kernel_rfl
    ·intro vs gq stq hl hf
     obtain ⟨v0, v1, v2, v3, v4, v5, v6, v7, v8, v9, v10, rfl⟩ := len_k11 hl
     have e3 := (show v3 = .bool false from hf _ (memI 6 rfl) (by kernel_rfl))
     subst e3
     have e4 := (show v4 = .bool false from hf _ (memI 7 rfl) (by kernel_rfl))
     subst e4
     have e10 := (show v10 = .bool (!(d39.1 == d40.1)) from hf _ (memI 14 rfl) (by kernel_rfl))
     subst e10
     show Option.isSome _ = true
     kernel_rfl
   ·intro j hj
    have hq : j = 0 ∨ j = 1 ∨ j = 2 ∨ j = 3 ∨ j = 4 ∨ j = 5 ∨ j = 6 ∨ j = 7 ∨ j = 8 ∨ j = 9 ∨ j = 10 := by have h : j < 11 := hj; omega
    rcases hq with rfl | rfl | rfl | rfl | rfl | rfl | rfl | rfl | rfl | rfl | rfl
    ·intro vs gq stq hl hf
     obtain ⟨v0, v1, v2, v3, v4, v5, v6, v7, v8, v9, v10, rfl⟩ := len_k11 hl
     refine WP.stl 1 ?_
     refine WP.dn (Shown.ok (v := .bool (x3 != x4)) (by kernel_rfl) (Step.refl _ _) ?_)
     exact ⟨tv, tv, tv, congrArg Value.bool h17, tv, tv, tv, tv, tv, tv, tv, tv, tv, tv, tv, tv⟩
    ·intro vs gq stq hl hf
     obtain ⟨v0, v1, v2, v3, v4, v5, v6, v7, v8, v9, v10, rfl⟩ := len_k11 hl
     have e0 := (show v0 = .bool false from hf _ (memI 3 rfl) (by kernel_rfl))
     subst e0
     refine WP.stl 1 ?_
     refine WP.dn (Shown.ok (v := .bool (x4 != 0)) (by kernel_rfl) (Step.refl _ _) ?_)
     exact ⟨tv, tv, tv, tv, congrArg Value.bool h18, tv, tv, tv, tv, tv, tv, tv, tv, tv, tv, tv⟩
    ·intro vs gq stq hl hf
     obtain ⟨v0, v1, v2, v3, v4, v5, v6, v7, v8, v9, v10, rfl⟩ := len_k11 hl
     have hR4 := (show RdS (Kd.int .u8) gq 5 a4 n4 c4 l4 from hf _ (memI 2 rfl) (by kernel_rfl))
     have e1 := (show v1 = .bool true from hf _ (memI 4 rfl) (by kernel_rfl))
     subst e1
     refine WP.len (a := a4) (cp := c4) hR4.len (by kernel_rfl) ?_
     refine WP.dn (Shown.ok (v := .int .i64 (l4.length : Int)) (by kernel_rfl) (Step.refl _ _) ?_)
     exact ⟨tv, tv, tv, tv, tv, rfl, tv, tv, tv, tv, tv, tv, tv, tv, tv, tv⟩
    ·intro vs gq stq hl hf
     obtain ⟨v0, v1, v2, v3, v4, v5, v6, v7, v8, v9, v10, rfl⟩ := len_k11 hl
     have e0 := (show v0 = .bool false from hf _ (memI 3 rfl) (by kernel_rfl))
     subst e0
     have e1 := (show v1 = .bool true from hf _ (memI 4 rfl) (by kernel_rfl))
     subst e1
     have e2 := (show v2 = .int .i64 (l4.length : Int) from hf _ (memI 5 rfl) (by kernel_rfl))
     subst e2
     refine WP.stl 1 ?_
     refine WP.dn (Shown.ok (v := .bool ((l4.length : Int) != 0)) (by kernel_rfl) (Step.refl _ _) ?_)
     exact ⟨tv, tv, tv, tv, tv, tv, congrArg Value.bool h19, tv, tv, tv, tv, tv, tv, tv, tv, tv⟩
    ·intro vs gq stq hl hf
     obtain ⟨v0, v1, v2, v3, v4, v5, v6, v7, v8, v9, v10, rfl⟩ := len_k11 hl
     have e3 := (show v3 = .bool false from hf _ (memI 6 rfl) (by kernel_rfl))
     subst e3
     refine WP.stl 1 ?_
     refine WP.dn (Shown.ok (v := .bool (x4 == 0)) (by kernel_rfl) (Step.refl _ _) ?_)
     exact ⟨tv, tv, tv, tv, tv, tv, tv, congrArg Value.bool h20, tv, tv, tv, tv, tv, tv, tv, tv⟩
    ·intro vs gq stq hl hf
     obtain ⟨v0, v1, v2, v3, v4, v5, v6, v7, v8, v9, v10, rfl⟩ := len_k11 hl
     have hB1 := (show Box gq (t + 1) b1 26 [encA .u8 d1, [.int .i64 x1], encA .i64 d2, [.slice a1 n1 c1]] [8, 1, 2, 1] from hf _ (memI 0 rfl) (by kernel_rfl))
     have e3 := (show v3 = .bool false from hf _ (memI 6 rfl) (by kernel_rfl))
     subst e3
     have e4 := (show v4 = .bool false from hf _ (memI 7 rfl) (by kernel_rfl))
     subst e4
     refine WP.loadB (v := AG [encA .u8 d1, [.int .i64 x1], encA .i64 d2, [.slice a1 n1 c1]]) hB1 (by kernel_rfl) (by kernel_rfl) ?_
     refine WP.dn (Shown.ok (v := AG [encA .u8 d1, [.int .i64 x1], encA .i64 d2, [.slice a1 n1 c1]]) (by kernel_rfl) (Step.refl _ _) ?_)
     exact ⟨tv, tv, tv, tv, tv, tv, tv, tv, rfl, tv, tv, tv, tv, tv, tv, tv⟩
    ·intro vs gq stq hl hf
     obtain ⟨v0, v1, v2, v3, v4, v5, v6, v7, v8, v9, v10, rfl⟩ := len_k11 hl
     have hR1 := (show RdS k_S_baizeref47_Held gq 60 a1 n1 c1 l1 from hf _ (memI 1 rfl) (by kernel_rfl))
     have e3 := (show v3 = .bool false from hf _ (memI 6 rfl) (by kernel_rfl))
     subst e3
     have e4 := (show v4 = .bool false from hf _ (memI 7 rfl) (by kernel_rfl))
     subst e4
     have e5 := (show v5 = AG [encA .u8 d1, [.int .i64 x1], encA .i64 d2, [.slice a1 n1 c1]] from hf _ (memI 8 rfl) (by kernel_rfl))
     subst e5
     have hcal34 := P.baizelaw47_Own gq (t + 19) d1 x1 d2 l1 a1 n1 c1 hR1 d37 x18 d38 l19 hk34
     refine WP.callC hcal34 (by kernel_rfl) ?_
     rintro _ g56 st56 ⟨a19, n19, c19, rfl, hR19⟩
     obtain rfl := hR19.len
     refine WP.dn (Shown.o (v := AG [encA .u8 d37, [.int .i64 x18], encA .i64 d38, [.slice a19 l19.length c19]]) st56.pure ?_)
     exact ⟨tv, tv, tv, tv, tv, tv, tv, tv, tv, ⟨a19, c19, rfl, hR19⟩, tv, tv, tv, tv, tv, tv⟩
    ·intro vs gq stq hl hf
     obtain ⟨v0, v1, v2, v3, v4, v5, v6, v7, v8, v9, v10, rfl⟩ := len_k11 hl
     have e3 := (show v3 = .bool false from hf _ (memI 6 rfl) (by kernel_rfl))
     subst e3
     have e4 := (show v4 = .bool false from hf _ (memI 7 rfl) (by kernel_rfl))
     subst e4
     obtain ⟨a19, c19, e6, hR19⟩ := (show ∃ (a19 : Option Addr) (c19 : Nat), v6 = AG [encA .u8 d37, [.int .i64 x18], encA .i64 d38, [.slice a19 l19.length c19]] ∧ OwnS k_S_purse_Held gq (t + 19) 56 a19 l19.length c19 l19 from hf _ (memI 9 rfl) (by kernel_rfl))
     subst e6
     have hS8 : 0 ∉ ([(t + 19)] : List Nat) := by simp <;> omega
     have stl8 := GW.lend_step gq [(t + 19)]
     have hRl10 := hR19.lendTo hS8 (by simp)
     refine WP.regw (g' := GW.lend gq [(t + 19)]) rfl ?_
     have hcal35 := P.purse_Purse_Digest (GW.lend gq [(t + 19)]) d37 x18 d38 l19 a19 l19.length c19 hRl10 d39 hk35
     refine WP.callC hcal35 (by kernel_rfl) ?_
     rintro _ g57 st57 rfl
     have st58 := (GW.back_step st57).lentS
     have hO10 := hR19.backTo hS8 (by simp) st57 (fun x => x)
     refine WP.regw (g' := GW.back gq g57 [(t + 19)]) rfl ?_
     generalize GW.back gq g57 [(t + 19)] = g58 at *
     refine WP.dn (Shown.o (v := AG [encA .u8 d39]) st58 ?_)
     exact ⟨tv, tv, tv, tv, tv, tv, tv, tv, tv, tv, rfl, ⟨a19, c19, rfl, hO10⟩, tv, tv, tv, tv⟩
    ·intro vs gq stq hl hf
     obtain ⟨v0, v1, v2, v3, v4, v5, v6, v7, v8, v9, v10, rfl⟩ := len_k11 hl
     have hB1 := (show Box gq (t + 1) b1 26 [encA .u8 d1, [.int .i64 x1], encA .i64 d2, [.slice a1 n1 c1]] [8, 1, 2, 1] from hf _ (memI 0 rfl) (by kernel_rfl))
     have e3 := (show v3 = .bool false from hf _ (memI 6 rfl) (by kernel_rfl))
     subst e3
     have e4 := (show v4 = .bool false from hf _ (memI 7 rfl) (by kernel_rfl))
     subst e4
     refine WP.loadB (v := AG [encA .u8 d1, [.int .i64 x1], encA .i64 d2, [.slice a1 n1 c1]]) hB1 (by kernel_rfl) (by kernel_rfl) ?_
     refine WP.dn (Shown.ok (v := AG [encA .u8 d1, [.int .i64 x1], encA .i64 d2, [.slice a1 n1 c1]]) (by kernel_rfl) (Step.refl _ _) ?_)
     exact ⟨tv, tv, tv, tv, tv, tv, tv, tv, tv, tv, tv, tv, rfl, tv, tv, tv⟩
    ·intro vs gq stq hl hf
     obtain ⟨v0, v1, v2, v3, v4, v5, v6, v7, v8, v9, v10, rfl⟩ := len_k11 hl
     have hR1 := (show RdS k_S_baizeref47_Held gq 60 a1 n1 c1 l1 from hf _ (memI 1 rfl) (by kernel_rfl))
     have e3 := (show v3 = .bool false from hf _ (memI 6 rfl) (by kernel_rfl))
     subst e3
     have e4 := (show v4 = .bool false from hf _ (memI 7 rfl) (by kernel_rfl))
     subst e4
     have e8 := (show v8 = AG [encA .u8 d1, [.int .i64 x1], encA .i64 d2, [.slice a1 n1 c1]] from hf _ (memI 12 rfl) (by kernel_rfl))
     subst e8
     have hcal36 := P.baizeref47_Digest gq d1 x1 d2 l1 a1 n1 c1 hR1 d40 hk36
     refine WP.callC hcal36 (by kernel_rfl) ?_
     rintro _ g59 st59 rfl
     refine WP.dn (Shown.o (v := AG [encA .u8 d40]) st59.pure ?_)
     exact ⟨tv, tv, tv, tv, tv, tv, tv, tv, tv, tv, tv, tv, tv, rfl, tv, tv⟩
    ·intro vs gq stq hl hf
     obtain ⟨v0, v1, v2, v3, v4, v5, v6, v7, v8, v9, v10, rfl⟩ := len_k11 hl
     have e3 := (show v3 = .bool false from hf _ (memI 6 rfl) (by kernel_rfl))
     subst e3
     have e4 := (show v4 = .bool false from hf _ (memI 7 rfl) (by kernel_rfl))
     subst e4
     have e7 := (show v7 = AG [encA .u8 d39] from hf _ (memI 10 rfl) (by kernel_rfl))
     subst e7
     have e9 := (show v9 = AG [encA .u8 d40] from hf _ (memI 13 rfl) (by kernel_rfl))
     subst e9
     refine WP.neV (by kernel_rfl) (by kernel_rfl) (EqV.arr (d := 9998) (t := 22) (e := 5) (m := 8) (k := .u8) (x := d39) (y := d40) (by kernel_rfl) (by kernel_rfl)) ?_
     refine WP.dn (Shown.ok (v := .bool (!(d39.1 == d40.1))) (by kernel_rfl) (Step.refl _ _) ?_)
     exact ⟨tv, tv, tv, tv, tv, tv, tv, tv, tv, tv, tv, tv, tv, tv, rfl, tv⟩
   intro vs g60 st60 hl hf
   obtain ⟨v0, v1, v2, v3, v4, v5, v6, v7, v8, v9, v10, rfl⟩ := len_k11 hl
   have e3 := (show v3 = .bool false from hf _ (memI 6 rfl) (by kernel_rfl))
   subst e3
   have e4 := (show v4 = .bool false from hf _ (memI 7 rfl) (by kernel_rfl))
   subst e4
   have e10 := (show v10 = .bool (!(d39.1 == d40.1)) from hf _ (memI 14 rfl) (by kernel_rfl))
   subst e10
   replace hR2 := hR2.mono st60 (WL.no1 (by omega))
   replace tot := tot.trans (st60.up1 (.inr (by omega)))
   refine NX.post ?_
   exact ⟨(!(d39.1 == d40.1)), ⟨by kernel_rfl, by kernel_rfl⟩, tot, hR2, hs⟩
  replace hs := of_if_f hs h18
  refine bool_split (b := (x4 == 0)) (fun h22 => ?_) (fun h22 => ?_)
  ·replace hs := of_if_t hs h22
   replace hs := Option.bind_eq_some_iff.1 hs
   obtain ⟨l20, hk37, hs⟩ := hs
   refine bool_split (b := (!((bytesStr l4).toList == (bytesStr l20).toList))) (fun h23 => ?_) (fun h23 => ?_)
   ·replace hs := of_if_t hs h23
    refine CP.drawL (by kernel_rfl) [3, 6, 15, 17, 18, 19, 20, 24] N.baizelaw47_PurseTells_1 [⟨none, [], [], fun l g => Box g (t + 1) b1 26 [encA .u8 d1, [.int .i64 x1], encA .i64 d2, [.slice a1 n1 c1]] [8, 1, 2, 1]⟩, ⟨none, [], [], fun l g => RdS k_S_baizeref47_Held g 60 a1 n1 c1 l1⟩, ⟨none, [], [], fun l g => RdS (Kd.int .u8) g 5 a4 n4 c4 l4⟩, ⟨some 0, [], [0], fun l g => l.getD 0 undef = .bool false⟩, ⟨some 1, [], [1], fun l g => l.getD 0 undef = .bool false⟩, ⟨some 2, [], [2], fun l g => l.getD 0 undef = .bool true⟩, ⟨some 3, [], [3], fun l g => l.getD 0 undef = .string (bytesStr l4)⟩, ⟨some 4, [], [4], fun l g => l.getD 0 undef = AG [encA .u8 d1, [.int .i64 x1], encA .i64 d2, [.slice a1 n1 c1]]⟩, ⟨some 5, [], [5], fun l g => ∃ (a20 : Option Addr) (c20 : Nat), l.getD 0 undef = .slice a20 l20.length c20 ∧ OwnS (Kd.int .u8) g (t + 20) 5 a20 l20.length c20 l20⟩, ⟨some 6, [], [6], fun l g => l.getD 0 undef = .string (bytesStr l20)⟩, ⟨some 7, [], [7], fun l g => l.getD 0 undef = .bool true⟩] [[], [], [], [], [], [], [], []] [] [0, 1, 2] [4, 5, 7, 8, 9, 10, 11, 12, 13, 14, 16, 21, 22, 23, 25, 26, 27, 28, 29, 30, 31] (by kernel_rfl) (by simp) (by simp) ⟨fun _ _ _ _ st h0 hl hj hB1 => (hB1.mono st (fun h => absurd (hl _ h) (by simp))), fun _ _ _ _ st h0 hl hj hR1 => (RdS.mono (e := 60) hR1 st h0), fun _ _ _ _ st h0 hl hj hR4 => (RdS.mono (e := 5) hR4 st h0), fun _ _ _ _ st h0 hl hj e0 => e0, fun _ _ _ _ st h0 hl hj e1 => e1, fun _ _ _ _ st h0 hl hj e2 => e2, fun _ _ _ _ st h0 hl hj e3 => e3, fun _ _ _ _ st h0 hl hj e4 => e4, fun _ _ _ _ st h0 hl hj ⟨a20, c20, e5, hR20⟩ => ⟨a20, c20, e5, (hR20.mono st h0 (fun h => absurd (hl _ h) (by simp)))⟩, fun _ _ _ _ st h0 hl hj e6 => e6, fun _ _ _ _ st h0 hl hj e7 => e7, tv⟩ ⟨hB1, hR1, hR4, tv, tv, tv, tv, tv, tv, tv, tv, tv⟩ (by kernel_rfl) (fun vs => by kernel_rfl) ?_ ?_ ?_
    ·intro j hj
     have hq : j = 0 ∨ j = 1 ∨ j = 2 ∨ j = 3 ∨ j = 4 ∨ j = 5 ∨ j = 6 ∨ j = 7 ∨ j = 8 ∨ j = 9 ∨ j = 10 ∨ j = 11 ∨ j = 12 ∨ j = 13 ∨ j = 14 ∨ j = 15 ∨ j = 16 ∨ j = 17 ∨ j = 18 ∨ j = 19 ∨ j = 20 := by have h : j < 21 := hj; omega
     rcases hq with rfl | rfl | rfl | rfl | rfl | rfl | rfl | rfl | rfl | rfl | rfl | rfl | rfl | rfl | rfl | rfl | rfl | rfl | rfl | rfl | rfl
     ·intro vs gq stq hl hf
      obtain ⟨v0, v1, v2, v3, v4, v5, v6, v7, rfl⟩ := len_k8 hl
      have e0 := (show v0 = .bool false from hf _ (memI 3 rfl) (by kernel_rfl))
      subst e0
      show Option.isSome _ = true
      kernel_rfl
     ·intro vs gq stq hl hf
      obtain ⟨v0, v1, v2, v3, v4, v5, v6, v7, rfl⟩ := len_k8 hl
      have e0 := (show v0 = .bool false from hf _ (memI 3 rfl) (by kernel_rfl))
      subst e0
      show Option.isSome _ = true
      kernel_rfl
     ·intro vs gq stq hl hf
      obtain ⟨v0, v1, v2, v3, v4, v5, v6, v7, rfl⟩ := len_k8 hl
      have e1 := (show v1 = .bool false from hf _ (memI 4 rfl) (by kernel_rfl))
      subst e1
      show Option.isSome _ = true
      kernel_rfl
     ·intro vs gq stq hl hf
      obtain ⟨v0, v1, v2, v3, v4, v5, v6, v7, rfl⟩ := len_k8 hl
      have e1 := (show v1 = .bool false from hf _ (memI 4 rfl) (by kernel_rfl))
      subst e1
      show Option.isSome _ = true
      kernel_rfl
     ·intro vs gq stq hl hf
      obtain ⟨v0, v1, v2, v3, v4, v5, v6, v7, rfl⟩ := len_k8 hl
      have e1 := (show v1 = .bool false from hf _ (memI 4 rfl) (by kernel_rfl))
      subst e1
      show Option.isSome _ = true
      kernel_rfl
     ·intro vs gq stq hl hf
      obtain ⟨v0, v1, v2, v3, v4, v5, v6, v7, rfl⟩ := len_k8 hl
      have e0 := (show v0 = .bool false from hf _ (memI 3 rfl) (by kernel_rfl))
      subst e0
      have e1 := (show v1 = .bool false from hf _ (memI 4 rfl) (by kernel_rfl))
      subst e1
      show Option.isSome _ = true
      kernel_rfl
     ·intro vs gq stq hl hf
      obtain ⟨v0, v1, v2, v3, v4, v5, v6, v7, rfl⟩ := len_k8 hl
      have e0 := (show v0 = .bool false from hf _ (memI 3 rfl) (by kernel_rfl))
      subst e0
      have e1 := (show v1 = .bool false from hf _ (memI 4 rfl) (by kernel_rfl))
      subst e1
      show Option.isSome _ = true
      kernel_rfl
     ·intro vs gq stq hl hf
      obtain ⟨v0, v1, v2, v3, v4, v5, v6, v7, rfl⟩ := len_k8 hl
      have e0 := (show v0 = .bool false from hf _ (memI 3 rfl) (by kernel_rfl))
      subst e0
      have e1 := (show v1 = .bool false from hf _ (memI 4 rfl) (by kernel_rfl))
      subst e1
      show Option.isSome _ = true
      kernel_rfl
     ·intro vs gq stq hl hf
      obtain ⟨v0, v1, v2, v3, v4, v5, v6, v7, rfl⟩ := len_k8 hl
      have e0 := (show v0 = .bool false from hf _ (memI 3 rfl) (by kernel_rfl))
      subst e0
      have e1 := (show v1 = .bool false from hf _ (memI 4 rfl) (by kernel_rfl))
      subst e1
      show Option.isSome _ = true
      kernel_rfl
     ·intro vs gq stq hl hf
      obtain ⟨v0, v1, v2, v3, v4, v5, v6, v7, rfl⟩ := len_k8 hl
      have e0 := (show v0 = .bool false from hf _ (memI 3 rfl) (by kernel_rfl))
      subst e0
      have e1 := (show v1 = .bool false from hf _ (memI 4 rfl) (by kernel_rfl))
      subst e1
      show Option.isSome _ = true
      kernel_rfl
     ·intro vs gq stq hl hf
      obtain ⟨v0, v1, v2, v3, v4, v5, v6, v7, rfl⟩ := len_k8 hl
      have e2 := (show v2 = .bool true from hf _ (memI 5 rfl) (by kernel_rfl))
      subst e2
      show Option.isSome _ = true
      kernel_rfl
     ·intro vs gq stq hl hf
      obtain ⟨v0, v1, v2, v3, v4, v5, v6, v7, rfl⟩ := len_k8 hl
      have e2 := (show v2 = .bool true from hf _ (memI 5 rfl) (by kernel_rfl))
      subst e2
      have e3 := (show v3 = .string (bytesStr l4) from hf _ (memI 6 rfl) (by kernel_rfl))
      subst e3
      have e6 := (show v6 = .string (bytesStr l20) from hf _ (memI 9 rfl) (by kernel_rfl))
      subst e6
      show Option.isSome _ = true
      kernel_rfl
     ·intro vs gq stq hl hf
      obtain ⟨v0, v1, v2, v3, v4, v5, v6, v7, rfl⟩ := len_k8 hl
      have e0 := (show v0 = .bool false from hf _ (memI 3 rfl) (by kernel_rfl))
      subst e0
      have e1 := (show v1 = .bool false from hf _ (memI 4 rfl) (by kernel_rfl))
      subst e1
      have e2 := (show v2 = .bool true from hf _ (memI 5 rfl) (by kernel_rfl))
      subst e2
      have e3 := (show v3 = .string (bytesStr l4) from hf _ (memI 6 rfl) (by kernel_rfl))
      subst e3
      have e6 := (show v6 = .string (bytesStr l20) from hf _ (memI 9 rfl) (by kernel_rfl))
      subst e6
      show Option.isSome _ = true
      kernel_rfl
     ·intro vs gq stq hl hf
      obtain ⟨v0, v1, v2, v3, v4, v5, v6, v7, rfl⟩ := len_k8 hl
      have e0 := (show v0 = .bool false from hf _ (memI 3 rfl) (by kernel_rfl))
      subst e0
      have e1 := (show v1 = .bool false from hf _ (memI 4 rfl) (by kernel_rfl))
      subst e1
      have e2 := (show v2 = .bool true from hf _ (memI 5 rfl) (by kernel_rfl))
      subst e2
      have e3 := (show v3 = .string (bytesStr l4) from hf _ (memI 6 rfl) (by kernel_rfl))
      subst e3
      have e6 := (show v6 = .string (bytesStr l20) from hf _ (memI 9 rfl) (by kernel_rfl))
      subst e6
      show Option.isSome _ = true
      kernel_rfl
     ·intro vs gq stq hl hf
      obtain ⟨v0, v1, v2, v3, v4, v5, v6, v7, rfl⟩ := len_k8 hl
      have e7 := (show v7 = .bool true from hf _ (memI 10 rfl) (by kernel_rfl))
      subst e7
      show Option.isSome _ = true
      kernel_rfl
     ·intro vs gq stq hl hf
      obtain ⟨v0, v1, v2, v3, v4, v5, v6, v7, rfl⟩ := len_k8 hl
      have e7 := (show v7 = .bool true from hf _ (memI 10 rfl) (by kernel_rfl))
      subst e7
      show Option.isSome _ = true
      kernel_rfl
     ·intro vs gq stq hl hf
      obtain ⟨v0, v1, v2, v3, v4, v5, v6, v7, rfl⟩ := len_k8 hl
      have e7 := (show v7 = .bool true from hf _ (memI 10 rfl) (by kernel_rfl))
      subst e7
      show Option.isSome _ = true
      kernel_rfl
     ·intro vs gq stq hl hf
      obtain ⟨v0, v1, v2, v3, v4, v5, v6, v7, rfl⟩ := len_k8 hl
      have e7 := (show v7 = .bool true from hf _ (memI 10 rfl) (by kernel_rfl))
      subst e7
      show Option.isSome _ = true
      kernel_rfl
     ·intro vs gq stq hl hf
      obtain ⟨v0, v1, v2, v3, v4, v5, v6, v7, rfl⟩ := len_k8 hl
      have e7 := (show v7 = .bool true from hf _ (memI 10 rfl) (by kernel_rfl))
      subst e7
      show Option.isSome _ = true
      kernel_rfl
     ·intro vs gq stq hl hf
      obtain ⟨v0, v1, v2, v3, v4, v5, v6, v7, rfl⟩ := len_k8 hl
      have e7 := (show v7 = .bool true from hf _ (memI 10 rfl) (by kernel_rfl))
      subst e7
      show Option.isSome _ = true
      kernel_rfl
     ·intro vs gq stq hl hf
      obtain ⟨v0, v1, v2, v3, v4, v5, v6, v7, rfl⟩ := len_k8 hl
      have e7 := (show v7 = .bool true from hf _ (memI 10 rfl) (by kernel_rfl))
      subst e7
      show Option.isSome _ = true
      kernel_rfl
    ·intro j hj
     have hq : j = 0 ∨ j = 1 ∨ j = 2 ∨ j = 3 ∨ j = 4 ∨ j = 5 ∨ j = 6 ∨ j = 7 := by have h : j < 8 := hj; omega
     rcases hq with rfl | rfl | rfl | rfl | rfl | rfl | rfl | rfl
     ·intro vs gq stq hl hf
      obtain ⟨v0, v1, v2, v3, v4, v5, v6, v7, rfl⟩ := len_k8 hl
      refine WP.stl 1 ?_
      refine WP.dn (Shown.ok (v := .bool (x3 != x4)) (by kernel_rfl) (Step.refl _ _) ?_)
      exact ⟨tv, tv, tv, congrArg Value.bool h17, tv, tv, tv, tv, tv, tv, tv, tv⟩
     ·intro vs gq stq hl hf
      obtain ⟨v0, v1, v2, v3, v4, v5, v6, v7, rfl⟩ := len_k8 hl
      have e0 := (show v0 = .bool false from hf _ (memI 3 rfl) (by kernel_rfl))
      subst e0
      refine WP.stl 1 ?_
      refine WP.dn (Shown.ok (v := .bool (x4 != 0)) (by kernel_rfl) (Step.refl _ _) ?_)
      exact ⟨tv, tv, tv, tv, congrArg Value.bool h18, tv, tv, tv, tv, tv, tv, tv⟩
     ·intro vs gq stq hl hf
      obtain ⟨v0, v1, v2, v3, v4, v5, v6, v7, rfl⟩ := len_k8 hl
      have e0 := (show v0 = .bool false from hf _ (memI 3 rfl) (by kernel_rfl))
      subst e0
      have e1 := (show v1 = .bool false from hf _ (memI 4 rfl) (by kernel_rfl))
      subst e1
      refine WP.stl 1 ?_
      refine WP.dn (Shown.ok (v := .bool (x4 == 0)) (by kernel_rfl) (Step.refl _ _) ?_)
      exact ⟨tv, tv, tv, tv, tv, congrArg Value.bool h22, tv, tv, tv, tv, tv, tv⟩
     ·intro vs gq stq hl hf
      obtain ⟨v0, v1, v2, v3, v4, v5, v6, v7, rfl⟩ := len_k8 hl
      have hR4 := (show RdS (Kd.int .u8) gq 5 a4 n4 c4 l4 from hf _ (memI 2 rfl) (by kernel_rfl))
      have e2 := (show v2 = .bool true from hf _ (memI 5 rfl) (by kernel_rfl))
      subst e2
      refine WP.toStr (a := a4) (cp := c4) hR4.src hR4.len (by kernel_rfl) ?_
      refine WP.dn (Shown.ok (v := .string (bytesStr l4)) (by kernel_rfl) (Step.refl _ _) ?_)
      exact ⟨tv, tv, tv, tv, tv, tv, rfl, tv, tv, tv, tv, tv⟩
     ·intro vs gq stq hl hf
      obtain ⟨v0, v1, v2, v3, v4, v5, v6, v7, rfl⟩ := len_k8 hl
      have hB1 := (show Box gq (t + 1) b1 26 [encA .u8 d1, [.int .i64 x1], encA .i64 d2, [.slice a1 n1 c1]] [8, 1, 2, 1] from hf _ (memI 0 rfl) (by kernel_rfl))
      have e2 := (show v2 = .bool true from hf _ (memI 5 rfl) (by kernel_rfl))
      subst e2
      refine WP.loadB (v := AG [encA .u8 d1, [.int .i64 x1], encA .i64 d2, [.slice a1 n1 c1]]) hB1 (by kernel_rfl) (by kernel_rfl) ?_
      refine WP.dn (Shown.ok (v := AG [encA .u8 d1, [.int .i64 x1], encA .i64 d2, [.slice a1 n1 c1]]) (by kernel_rfl) (Step.refl _ _) ?_)
      exact ⟨tv, tv, tv, tv, tv, tv, tv, rfl, tv, tv, tv, tv⟩
     ·intro vs gq stq hl hf
      obtain ⟨v0, v1, v2, v3, v4, v5, v6, v7, rfl⟩ := len_k8 hl
      have hR1 := (show RdS k_S_baizeref47_Held gq 60 a1 n1 c1 l1 from hf _ (memI 1 rfl) (by kernel_rfl))
      have e2 := (show v2 = .bool true from hf _ (memI 5 rfl) (by kernel_rfl))
      subst e2
      have e4 := (show v4 = AG [encA .u8 d1, [.int .i64 x1], encA .i64 d2, [.slice a1 n1 c1]] from hf _ (memI 7 rfl) (by kernel_rfl))
      subst e4
      have hcal37 := P.baizeref47_Bytes gq (t + 20) d1 x1 d2 l1 a1 n1 c1 hR1 l20 hk37
      refine WP.callC hcal37 (by kernel_rfl) ?_
      rintro _ g61 st61 ⟨a20, n20, c20, rfl, hR20⟩
      obtain rfl := hR20.len
      refine WP.dn (Shown.o (v := .slice a20 l20.length c20) st61.pure ?_)
      exact ⟨tv, tv, tv, tv, tv, tv, tv, tv, ⟨a20, c20, rfl, hR20⟩, tv, tv, tv⟩
     ·intro vs gq stq hl hf
      obtain ⟨v0, v1, v2, v3, v4, v5, v6, v7, rfl⟩ := len_k8 hl
      have e2 := (show v2 = .bool true from hf _ (memI 5 rfl) (by kernel_rfl))
      subst e2
      obtain ⟨a20, c20, e5, hR20⟩ := (show ∃ (a20 : Option Addr) (c20 : Nat), v5 = .slice a20 l20.length c20 ∧ OwnS (Kd.int .u8) gq (t + 20) 5 a20 l20.length c20 l20 from hf _ (memI 8 rfl) (by kernel_rfl))
      subst e5
      refine WP.toStr (a := a20) (cp := c20) hR20.src hR20.len (by kernel_rfl) ?_
      refine WP.dn (Shown.ok (v := .string (bytesStr l20)) (by kernel_rfl) (Step.refl _ _) ?_)
      exact ⟨tv, tv, tv, tv, tv, tv, tv, tv, tv, rfl, tv, tv⟩
     ·intro vs gq stq hl hf
      obtain ⟨v0, v1, v2, v3, v4, v5, v6, v7, rfl⟩ := len_k8 hl
      have e0 := (show v0 = .bool false from hf _ (memI 3 rfl) (by kernel_rfl))
      subst e0
      have e1 := (show v1 = .bool false from hf _ (memI 4 rfl) (by kernel_rfl))
      subst e1
      have e2 := (show v2 = .bool true from hf _ (memI 5 rfl) (by kernel_rfl))
      subst e2
      have e3 := (show v3 = .string (bytesStr l4) from hf _ (memI 6 rfl) (by kernel_rfl))
      subst e3
      have e6 := (show v6 = .string (bytesStr l20) from hf _ (memI 9 rfl) (by kernel_rfl))
      subst e6
      refine WP.stl 1 ?_
      refine WP.dn (Shown.ok (v := .bool (!((bytesStr l4).toList == (bytesStr l20).toList))) (by kernel_rfl) (Step.refl _ _) ?_)
      exact ⟨tv, tv, tv, tv, tv, tv, tv, tv, tv, tv, congrArg Value.bool h23, tv⟩
    intro vs g62 st62 hl hf
    obtain ⟨v0, v1, v2, v3, v4, v5, v6, v7, rfl⟩ := len_k8 hl
    have e7 := (show v7 = .bool true from hf _ (memI 10 rfl) (by kernel_rfl))
    subst e7
    replace hR2 := hR2.mono st62.toNo (fun x => x)
    replace tot := tot.trans st62.toNo.pure
    refine NX.post ?_
    exact ⟨true, ⟨by kernel_rfl, by kernel_rfl⟩, tot, hR2, hs⟩
   replace hs := of_if_f hs h23
   replace hs := Option.bind_eq_some_iff.1 hs
   obtain ⟨⟨d41, x19, d42, l21⟩, hk38, hs⟩ := hs
   dsimp only at hs
   replace hs := Option.bind_eq_some_iff.1 hs
   obtain ⟨d43, hk39, hs⟩ := hs
   replace hs := Option.bind_eq_some_iff.1 hs
   obtain ⟨d44, hk40, hs⟩ := hs
   refine CP.drawL (by kernel_rfl) [3, 6, 15, 17, 18, 19, 20, 24, 25, 26, 27, 28, 29, 30] N.baizelaw47_PurseTells_1 [⟨none, [], [], fun l g => Box g (t + 1) b1 26 [encA .u8 d1, [.int .i64 x1], encA .i64 d2, [.slice a1 n1 c1]] [8, 1, 2, 1]⟩, ⟨none, [], [], fun l g => RdS k_S_baizeref47_Held g 60 a1 n1 c1 l1⟩, ⟨none, [], [], fun l g => RdS (Kd.int .u8) g 5 a4 n4 c4 l4⟩, ⟨some 0, [], [0], fun l g => l.getD 0 undef = .bool false⟩, ⟨some 1, [], [1], fun l g => l.getD 0 undef = .bool false⟩, ⟨some 2, [], [2], fun l g => l.getD 0 undef = .bool true⟩, ⟨some 3, [], [3], fun l g => l.getD 0 undef = .string (bytesStr l4)⟩, ⟨some 4, [], [4], fun l g => l.getD 0 undef = AG [encA .u8 d1, [.int .i64 x1], encA .i64 d2, [.slice a1 n1 c1]]⟩, ⟨some 5, [], [5], fun l g => ∃ (a20 : Option Addr) (c20 : Nat), l.getD 0 undef = .slice a20 l20.length c20 ∧ OwnS (Kd.int .u8) g (t + 20) 5 a20 l20.length c20 l20⟩, ⟨some 6, [], [6], fun l g => l.getD 0 undef = .string (bytesStr l20)⟩, ⟨some 7, [], [7], fun l g => l.getD 0 undef = .bool false⟩, ⟨some 8, [], [8], fun l g => l.getD 0 undef = AG [encA .u8 d1, [.int .i64 x1], encA .i64 d2, [.slice a1 n1 c1]]⟩, ⟨some 9, [0], [9], fun l g => ∃ (a21 : Option Addr) (c21 : Nat), l.getD 0 undef = AG [encA .u8 d41, [.int .i64 x19], encA .i64 d42, [.slice a21 l21.length c21]] ∧ OwnS k_S_purse_Held g (t + 21) 56 a21 l21.length c21 l21⟩, ⟨some 10, [], [10], fun l g => l.getD 0 undef = AG [encA .u8 d43]⟩, ⟨some 10, [0], [9], fun l g => ∃ (a21 : Option Addr) (c21 : Nat), l.getD 0 undef = AG [encA .u8 d41, [.int .i64 x19], encA .i64 d42, [.slice a21 l21.length c21]] ∧ OwnS k_S_purse_Held g (t + 21) 56 a21 l21.length c21 l21⟩, ⟨some 11, [], [11], fun l g => l.getD 0 undef = AG [encA .u8 d1, [.int .i64 x1], encA .i64 d2, [.slice a1 n1 c1]]⟩, ⟨some 12, [], [12], fun l g => l.getD 0 undef = AG [encA .u8 d44]⟩, ⟨some 13, [], [13], fun l g => l.getD 0 undef = .bool (!(d43.1 == d44.1))⟩] [[], [], [], [], [], [], [], [], [], [], [0], [], [], []] [(t + 21)] [0, 1, 2] [4, 5, 7, 8, 9, 10, 11, 12, 13, 14, 16, 21, 22, 23, 31] (by kernel_rfl) (by simp <;> omega) (by simp) ⟨fun _ _ _ _ st h0 hl hj hB1 => (hB1.mono st (fun h => absurd (hl _ h) (by simp <;> omega))), fun _ _ _ _ st h0 hl hj hR1 => (RdS.mono (e := 60) hR1 st h0), fun _ _ _ _ st h0 hl hj hR4 => (RdS.mono (e := 5) hR4 st h0), fun _ _ _ _ st h0 hl hj e0 => e0, fun _ _ _ _ st h0 hl hj e1 => e1, fun _ _ _ _ st h0 hl hj e2 => e2, fun _ _ _ _ st h0 hl hj e3 => e3, fun _ _ _ _ st h0 hl hj e4 => e4, fun _ _ _ _ st h0 hl hj ⟨a20, c20, e5, hR20⟩ => ⟨a20, c20, e5, (hR20.mono st h0 (fun h => absurd (hl _ h) (by simp <;> omega)))⟩, fun _ _ _ _ st h0 hl hj e6 => e6, fun _ _ _ _ st h0 hl hj e7 => e7, fun _ _ _ _ st h0 hl hj e8 => e8, fun _ _ _ _ st h0 hl hj ⟨a21, c21, e9, hR21⟩ => ⟨a21, c21, e9, (hR21.mono st h0 (hj 0 (by simp) _ rfl))⟩, fun _ _ _ _ st h0 hl hj e10 => e10, fun _ _ _ _ st h0 hl hj ⟨a21, c21, e9, hR21⟩ => ⟨a21, c21, e9, (hR21.mono st h0 (hj 0 (by simp) _ rfl))⟩, fun _ _ _ _ st h0 hl hj e11 => e11, fun _ _ _ _ st h0 hl hj e12 => e12, fun _ _ _ _ st h0 hl hj e13 => e13, tv⟩ ⟨hB1, hR1, hR4, tv, tv, tv, tv, tv, tv, tv, tv, tv, tv, tv, tv, tv, tv, tv, tv⟩ (by kernel_rfl) (fun vs => by kernel_rfl) ?_ ?_ ?_
   ·intro j hj
    have hq : j = 0 ∨ j = 1 ∨ j = 2 ∨ j = 3 ∨ j = 4 ∨ j = 5 ∨ j = 6 ∨ j = 7 ∨ j = 8 ∨ j = 9 ∨ j = 10 ∨ j = 11 ∨ j = 12 ∨ j = 13 ∨ j = 14 := by have h : j < 15 := hj; omega
    rcases hq with rfl | rfl | rfl | rfl | rfl | rfl | rfl | rfl | rfl | rfl | rfl | rfl | rfl | rfl | rfl
    ·intro vs gq stq hl hf
     obtain ⟨v0, v1, v2, v3, v4, v5, v6, v7, v8, v9, v10, v11, v12, v13, rfl⟩ := len_k14 hl
     have e0 := (show v0 = .bool false from hf _ (memI 3 rfl) (by kernel_rfl))
     subst e0
     show Option.isSome _ = true
     kernel_rfl
    ·intro vs gq stq hl hf
     obtain ⟨v0, v1, v2, v3, v4, v5, v6, v7, v8, v9, v10, v11, v12, v13, rfl⟩ := len_k14 hl
     have e0 := (show v0 = .bool false from hf _ (memI 3 rfl) (by kernel_rfl))
     subst e0
     show Option.isSome _ = true
     kernel_rfl
    ·intro vs gq stq hl hf
     obtain ⟨v0, v1, v2, v3, v4, v5, v6, v7, v8, v9, v10, v11, v12, v13, rfl⟩ := len_k14 hl
     have e1 := (show v1 = .bool false from hf _ (memI 4 rfl) (by kernel_rfl))
     subst e1
     show Option.isSome _ = true
     kernel_rfl
    ·intro vs gq stq hl hf
     obtain ⟨v0, v1, v2, v3, v4, v5, v6, v7, v8, v9, v10, v11, v12, v13, rfl⟩ := len_k14 hl
     have e1 := (show v1 = .bool false from hf _ (memI 4 rfl) (by kernel_rfl))
     subst e1
     show Option.isSome _ = true
     kernel_rfl
    ·intro vs gq stq hl hf
     obtain ⟨v0, v1, v2, v3, v4, v5, v6, v7, v8, v9, v10, v11, v12, v13, rfl⟩ := len_k14 hl
     have e1 := (show v1 = .bool false from hf _ (memI 4 rfl) (by kernel_rfl))
     subst e1
     show Option.isSome _ = true
     kernel_rfl
    ·intro vs gq stq hl hf
     obtain ⟨v0, v1, v2, v3, v4, v5, v6, v7, v8, v9, v10, v11, v12, v13, rfl⟩ := len_k14 hl
     have e0 := (show v0 = .bool false from hf _ (memI 3 rfl) (by kernel_rfl))
     subst e0
     have e1 := (show v1 = .bool false from hf _ (memI 4 rfl) (by kernel_rfl))
     subst e1
     show Option.isSome _ = true
     kernel_rfl
    ·intro vs gq stq hl hf
     obtain ⟨v0, v1, v2, v3, v4, v5, v6, v7, v8, v9, v10, v11, v12, v13, rfl⟩ := len_k14 hl
     have e0 := (show v0 = .bool false from hf _ (memI 3 rfl) (by kernel_rfl))
     subst e0
     have e1 := (show v1 = .bool false from hf _ (memI 4 rfl) (by kernel_rfl))
     subst e1
     show Option.isSome _ = true
     kernel_rfl
    ·intro vs gq stq hl hf
     obtain ⟨v0, v1, v2, v3, v4, v5, v6, v7, v8, v9, v10, v11, v12, v13, rfl⟩ := len_k14 hl
     have e0 := (show v0 = .bool false from hf _ (memI 3 rfl) (by kernel_rfl))
     subst e0
     have e1 := (show v1 = .bool false from hf _ (memI 4 rfl) (by kernel_rfl))
     subst e1
     show Option.isSome _ = true
     kernel_rfl
    ·intro vs gq stq hl hf
     obtain ⟨v0, v1, v2, v3, v4, v5, v6, v7, v8, v9, v10, v11, v12, v13, rfl⟩ := len_k14 hl
     have e0 := (show v0 = .bool false from hf _ (memI 3 rfl) (by kernel_rfl))
     subst e0
     have e1 := (show v1 = .bool false from hf _ (memI 4 rfl) (by kernel_rfl))
     subst e1
     show Option.isSome _ = true
     kernel_rfl
    ·intro vs gq stq hl hf
     obtain ⟨v0, v1, v2, v3, v4, v5, v6, v7, v8, v9, v10, v11, v12, v13, rfl⟩ := len_k14 hl
     have e0 := (show v0 = .bool false from hf _ (memI 3 rfl) (by kernel_rfl))
     subst e0
     have e1 := (show v1 = .bool false from hf _ (memI 4 rfl) (by kernel_rfl))
     subst e1
     show Option.isSome _ = true
     kernel_rfl
    ·intro vs gq stq hl hf
     obtain ⟨v0, v1, v2, v3, v4, v5, v6, v7, v8, v9, v10, v11, v12, v13, rfl⟩ := len_k14 hl
     have e2 := (show v2 = .bool true from hf _ (memI 5 rfl) (by kernel_rfl))
     subst e2
     show Option.isSome _ = true
     kernel_rfl
    ·intro vs gq stq hl hf
     obtain ⟨v0, v1, v2, v3, v4, v5, v6, v7, v8, v9, v10, v11, v12, v13, rfl⟩ := len_k14 hl
     have e2 := (show v2 = .bool true from hf _ (memI 5 rfl) (by kernel_rfl))
     subst e2
     have e3 := (show v3 = .string (bytesStr l4) from hf _ (memI 6 rfl) (by kernel_rfl))
     subst e3
     have e6 := (show v6 = .string (bytesStr l20) from hf _ (memI 9 rfl) (by kernel_rfl))
     subst e6
     show Option.isSome _ = true
     kernel_rfl
    ·intro vs gq stq hl hf
     obtain ⟨v0, v1, v2, v3, v4, v5, v6, v7, v8, v9, v10, v11, v12, v13, rfl⟩ := len_k14 hl
     have e0 := (show v0 = .bool false from hf _ (memI 3 rfl) (by kernel_rfl))
     subst e0
     have e1 := (show v1 = .bool false from hf _ (memI 4 rfl) (by kernel_rfl))
     subst e1
     have e2 := (show v2 = .bool true from hf _ (memI 5 rfl) (by kernel_rfl))
     subst e2
     have e3 := (show v3 = .string (bytesStr l4) from hf _ (memI 6 rfl) (by kernel_rfl))
     subst e3
     have e6 := (show v6 = .string (bytesStr l20) from hf _ (memI 9 rfl) (by kernel_rfl))
     subst e6
     show Option.isSome _ = true
     kernel_rfl
    ·intro vs gq stq hl hf
     obtain ⟨v0, v1, v2, v3, v4, v5, v6, v7, v8, v9, v10, v11, v12, v13, rfl⟩ := len_k14 hl
     have e0 := (show v0 = .bool false from hf _ (memI 3 rfl) (by kernel_rfl))
     subst e0
     have e1 := (show v1 = .bool false from hf _ (memI 4 rfl) (by kernel_rfl))
     subst e1
     have e2 := (show v2 = .bool true from hf _ (memI 5 rfl) (by kernel_rfl))
     subst e2
     have e3 := (show v3 = .string (bytesStr l4) from hf _ (memI 6 rfl) (by kernel_rfl))
     subst e3
     have e6 := (show v6 = .string (bytesStr l20) from hf _ (memI 9 rfl) (by kernel_rfl))
     subst e6
     show Option.isSome _ = true
     kernel_rfl
    ·intro vs gq stq hl hf
     obtain ⟨v0, v1, v2, v3, v4, v5, v6, v7, v8, v9, v10, v11, v12, v13, rfl⟩ := len_k14 hl
     have e7 := (show v7 = .bool false from hf _ (memI 10 rfl) (by kernel_rfl))
     subst e7
     have e13 := (show v13 = .bool (!(d43.1 == d44.1)) from hf _ (memI 17 rfl) (by kernel_rfl))
     subst e13
     show Option.isSome _ = true
     kernel_rfl
   ·intro j hj
    have hq : j = 0 ∨ j = 1 ∨ j = 2 ∨ j = 3 ∨ j = 4 ∨ j = 5 ∨ j = 6 ∨ j = 7 ∨ j = 8 ∨ j = 9 ∨ j = 10 ∨ j = 11 ∨ j = 12 ∨ j = 13 := by have h : j < 14 := hj; omega
    rcases hq with rfl | rfl | rfl | rfl | rfl | rfl | rfl | rfl | rfl | rfl | rfl | rfl | rfl | rfl
    ·intro vs gq stq hl hf
     obtain ⟨v0, v1, v2, v3, v4, v5, v6, v7, v8, v9, v10, v11, v12, v13, rfl⟩ := len_k14 hl
     refine WP.stl 1 ?_
     refine WP.dn (Shown.ok (v := .bool (x3 != x4)) (by kernel_rfl) (Step.refl _ _) ?_)
     exact ⟨tv, tv, tv, congrArg Value.bool h17, tv, tv, tv, tv, tv, tv, tv, tv, tv, tv, tv, tv, tv, tv, tv⟩
    ·intro vs gq stq hl hf
     obtain ⟨v0, v1, v2, v3, v4, v5, v6, v7, v8, v9, v10, v11, v12, v13, rfl⟩ := len_k14 hl
     have e0 := (show v0 = .bool false from hf _ (memI 3 rfl) (by kernel_rfl))
     subst e0
     refine WP.stl 1 ?_
     refine WP.dn (Shown.ok (v := .bool (x4 != 0)) (by kernel_rfl) (Step.refl _ _) ?_)
     exact ⟨tv, tv, tv, tv, congrArg Value.bool h18, tv, tv, tv, tv, tv, tv, tv, tv, tv, tv, tv, tv, tv, tv⟩
    ·intro vs gq stq hl hf
     obtain ⟨v0, v1, v2, v3, v4, v5, v6, v7, v8, v9, v10, v11, v12, v13, rfl⟩ := len_k14 hl
     have e0 := (show v0 = .bool false from hf _ (memI 3 rfl) (by kernel_rfl))
     subst e0
     have e1 := (show v1 = .bool false from hf _ (memI 4 rfl) (by kernel_rfl))
     subst e1
     refine WP.stl 1 ?_
     refine WP.dn (Shown.ok (v := .bool (x4 == 0)) (by kernel_rfl) (Step.refl _ _) ?_)
     exact ⟨tv, tv, tv, tv, tv, congrArg Value.bool h22, tv, tv, tv, tv, tv, tv, tv, tv, tv, tv, tv, tv, tv⟩
    ·intro vs gq stq hl hf
     obtain ⟨v0, v1, v2, v3, v4, v5, v6, v7, v8, v9, v10, v11, v12, v13, rfl⟩ := len_k14 hl
     have hR4 := (show RdS (Kd.int .u8) gq 5 a4 n4 c4 l4 from hf _ (memI 2 rfl) (by kernel_rfl))
     have e2 := (show v2 = .bool true from hf _ (memI 5 rfl) (by kernel_rfl))
     subst e2
     refine WP.toStr (a := a4) (cp := c4) hR4.src hR4.len (by kernel_rfl) ?_
     refine WP.dn (Shown.ok (v := .string (bytesStr l4)) (by kernel_rfl) (Step.refl _ _) ?_)
     exact ⟨tv, tv, tv, tv, tv, tv, rfl, tv, tv, tv, tv, tv, tv, tv, tv, tv, tv, tv, tv⟩
    ·intro vs gq stq hl hf
     obtain ⟨v0, v1, v2, v3, v4, v5, v6, v7, v8, v9, v10, v11, v12, v13, rfl⟩ := len_k14 hl
     have hB1 := (show Box gq (t + 1) b1 26 [encA .u8 d1, [.int .i64 x1], encA .i64 d2, [.slice a1 n1 c1]] [8, 1, 2, 1] from hf _ (memI 0 rfl) (by kernel_rfl))
     have e2 := (show v2 = .bool true from hf _ (memI 5 rfl) (by kernel_rfl))
     subst e2
     refine WP.loadB (v := AG [encA .u8 d1, [.int .i64 x1], encA .i64 d2, [.slice a1 n1 c1]]) hB1 (by kernel_rfl) (by kernel_rfl) ?_
     refine WP.dn (Shown.ok (v := AG [encA .u8 d1, [.int .i64 x1], encA .i64 d2, [.slice a1 n1 c1]]) (by kernel_rfl) (Step.refl _ _) ?_)
     exact ⟨tv, tv, tv, tv, tv, tv, tv, rfl, tv, tv, tv, tv, tv, tv, tv, tv, tv, tv, tv⟩
    ·intro vs gq stq hl hf
     obtain ⟨v0, v1, v2, v3, v4, v5, v6, v7, v8, v9, v10, v11, v12, v13, rfl⟩ := len_k14 hl
     have hR1 := (show RdS k_S_baizeref47_Held gq 60 a1 n1 c1 l1 from hf _ (memI 1 rfl) (by kernel_rfl))
     have e2 := (show v2 = .bool true from hf _ (memI 5 rfl) (by kernel_rfl))
     subst e2
     have e4 := (show v4 = AG [encA .u8 d1, [.int .i64 x1], encA .i64 d2, [.slice a1 n1 c1]] from hf _ (memI 7 rfl) (by kernel_rfl))
     subst e4
     have hcal37 := P.baizeref47_Bytes gq (t + 20) d1 x1 d2 l1 a1 n1 c1 hR1 l20 hk37
     refine WP.callC hcal37 (by kernel_rfl) ?_
     rintro _ g61 st61 ⟨a20, n20, c20, rfl, hR20⟩
     obtain rfl := hR20.len
     refine WP.dn (Shown.o (v := .slice a20 l20.length c20) st61.pure ?_)
     exact ⟨tv, tv, tv, tv, tv, tv, tv, tv, ⟨a20, c20, rfl, hR20⟩, tv, tv, tv, tv, tv, tv, tv, tv, tv, tv⟩
    ·intro vs gq stq hl hf
     obtain ⟨v0, v1, v2, v3, v4, v5, v6, v7, v8, v9, v10, v11, v12, v13, rfl⟩ := len_k14 hl
     have e2 := (show v2 = .bool true from hf _ (memI 5 rfl) (by kernel_rfl))
     subst e2
     obtain ⟨a20, c20, e5, hR20⟩ := (show ∃ (a20 : Option Addr) (c20 : Nat), v5 = .slice a20 l20.length c20 ∧ OwnS (Kd.int .u8) gq (t + 20) 5 a20 l20.length c20 l20 from hf _ (memI 8 rfl) (by kernel_rfl))
     subst e5
     refine WP.toStr (a := a20) (cp := c20) hR20.src hR20.len (by kernel_rfl) ?_
     refine WP.dn (Shown.ok (v := .string (bytesStr l20)) (by kernel_rfl) (Step.refl _ _) ?_)
     exact ⟨tv, tv, tv, tv, tv, tv, tv, tv, tv, rfl, tv, tv, tv, tv, tv, tv, tv, tv, tv⟩
    ·intro vs gq stq hl hf
     obtain ⟨v0, v1, v2, v3, v4, v5, v6, v7, v8, v9, v10, v11, v12, v13, rfl⟩ := len_k14 hl
     have e0 := (show v0 = .bool false from hf _ (memI 3 rfl) (by kernel_rfl))
     subst e0
     have e1 := (show v1 = .bool false from hf _ (memI 4 rfl) (by kernel_rfl))
     subst e1
     have e2 := (show v2 = .bool true from hf _ (memI 5 rfl) (by kernel_rfl))
     subst e2
     have e3 := (show v3 = .string (bytesStr l4) from hf _ (memI 6 rfl) (by kernel_rfl))
     subst e3
     have e6 := (show v6 = .string (bytesStr l20) from hf _ (memI 9 rfl) (by kernel_rfl))
     subst e6
     refine WP.stl 1 ?_
     refine WP.dn (Shown.ok (v := .bool (!((bytesStr l4).toList == (bytesStr l20).toList))) (by kernel_rfl) (Step.refl _ _) ?_)
     exact ⟨tv, tv, tv, tv, tv, tv, tv, tv, tv, tv, congrArg Value.bool h23, tv, tv, tv, tv, tv, tv, tv, tv⟩
    ·intro vs gq stq hl hf
     obtain ⟨v0, v1, v2, v3, v4, v5, v6, v7, v8, v9, v10, v11, v12, v13, rfl⟩ := len_k14 hl
     have hB1 := (show Box gq (t + 1) b1 26 [encA .u8 d1, [.int .i64 x1], encA .i64 d2, [.slice a1 n1 c1]] [8, 1, 2, 1] from hf _ (memI 0 rfl) (by kernel_rfl))
     have e7 := (show v7 = .bool false from hf _ (memI 10 rfl) (by kernel_rfl))
     subst e7
     refine WP.loadB (v := AG [encA .u8 d1, [.int .i64 x1], encA .i64 d2, [.slice a1 n1 c1]]) hB1 (by kernel_rfl) (by kernel_rfl) ?_
     refine WP.dn (Shown.ok (v := AG [encA .u8 d1, [.int .i64 x1], encA .i64 d2, [.slice a1 n1 c1]]) (by kernel_rfl) (Step.refl _ _) ?_)
     exact ⟨tv, tv, tv, tv, tv, tv, tv, tv, tv, tv, tv, rfl, tv, tv, tv, tv, tv, tv, tv⟩
    ·intro vs gq stq hl hf
     obtain ⟨v0, v1, v2, v3, v4, v5, v6, v7, v8, v9, v10, v11, v12, v13, rfl⟩ := len_k14 hl
     have hR1 := (show RdS k_S_baizeref47_Held gq 60 a1 n1 c1 l1 from hf _ (memI 1 rfl) (by kernel_rfl))
     have e7 := (show v7 = .bool false from hf _ (memI 10 rfl) (by kernel_rfl))
     subst e7
     have e8 := (show v8 = AG [encA .u8 d1, [.int .i64 x1], encA .i64 d2, [.slice a1 n1 c1]] from hf _ (memI 11 rfl) (by kernel_rfl))
     subst e8
     have hcal38 := P.baizelaw47_Own gq (t + 21) d1 x1 d2 l1 a1 n1 c1 hR1 d41 x19 d42 l21 hk38
     refine WP.callC hcal38 (by kernel_rfl) ?_
     rintro _ g63 st63 ⟨a21, n21, c21, rfl, hR21⟩
     obtain rfl := hR21.len
     refine WP.dn (Shown.o (v := AG [encA .u8 d41, [.int .i64 x19], encA .i64 d42, [.slice a21 l21.length c21]]) st63.pure ?_)
     exact ⟨tv, tv, tv, tv, tv, tv, tv, tv, tv, tv, tv, tv, ⟨a21, c21, rfl, hR21⟩, tv, tv, tv, tv, tv, tv⟩
    ·intro vs gq stq hl hf
     obtain ⟨v0, v1, v2, v3, v4, v5, v6, v7, v8, v9, v10, v11, v12, v13, rfl⟩ := len_k14 hl
     have e7 := (show v7 = .bool false from hf _ (memI 10 rfl) (by kernel_rfl))
     subst e7
     obtain ⟨a21, c21, e9, hR21⟩ := (show ∃ (a21 : Option Addr) (c21 : Nat), v9 = AG [encA .u8 d41, [.int .i64 x19], encA .i64 d42, [.slice a21 l21.length c21]] ∧ OwnS k_S_purse_Held gq (t + 21) 56 a21 l21.length c21 l21 from hf _ (memI 12 rfl) (by kernel_rfl))
     subst e9
     have hS9 : 0 ∉ ([(t + 21)] : List Nat) := by simp <;> omega
     have stl9 := GW.lend_step gq [(t + 21)]
     have hRl11 := hR21.lendTo hS9 (by simp)
     refine WP.regw (g' := GW.lend gq [(t + 21)]) rfl ?_
     have hcal39 := P.purse_Purse_Digest (GW.lend gq [(t + 21)]) d41 x19 d42 l21 a21 l21.length c21 hRl11 d43 hk39
     refine WP.callC hcal39 (by kernel_rfl) ?_
     rintro _ g64 st64 rfl
     have st65 := (GW.back_step st64).lentS
     have hO11 := hR21.backTo hS9 (by simp) st64 (fun x => x)
     refine WP.regw (g' := GW.back gq g64 [(t + 21)]) rfl ?_
     generalize GW.back gq g64 [(t + 21)] = g65 at *
     refine WP.dn (Shown.o (v := AG [encA .u8 d43]) st65 ?_)
     exact ⟨tv, tv, tv, tv, tv, tv, tv, tv, tv, tv, tv, tv, tv, rfl, ⟨a21, c21, rfl, hO11⟩, tv, tv, tv, tv⟩
    ·intro vs gq stq hl hf
     obtain ⟨v0, v1, v2, v3, v4, v5, v6, v7, v8, v9, v10, v11, v12, v13, rfl⟩ := len_k14 hl
     have hB1 := (show Box gq (t + 1) b1 26 [encA .u8 d1, [.int .i64 x1], encA .i64 d2, [.slice a1 n1 c1]] [8, 1, 2, 1] from hf _ (memI 0 rfl) (by kernel_rfl))
     have e7 := (show v7 = .bool false from hf _ (memI 10 rfl) (by kernel_rfl))
     subst e7
     refine WP.loadB (v := AG [encA .u8 d1, [.int .i64 x1], encA .i64 d2, [.slice a1 n1 c1]]) hB1 (by kernel_rfl) (by kernel_rfl) ?_
     refine WP.dn (Shown.ok (v := AG [encA .u8 d1, [.int .i64 x1], encA .i64 d2, [.slice a1 n1 c1]]) (by kernel_rfl) (Step.refl _ _) ?_)
     exact ⟨tv, tv, tv, tv, tv, tv, tv, tv, tv, tv, tv, tv, tv, tv, tv, rfl, tv, tv, tv⟩
    ·intro vs gq stq hl hf
     obtain ⟨v0, v1, v2, v3, v4, v5, v6, v7, v8, v9, v10, v11, v12, v13, rfl⟩ := len_k14 hl
     have hR1 := (show RdS k_S_baizeref47_Held gq 60 a1 n1 c1 l1 from hf _ (memI 1 rfl) (by kernel_rfl))
     have e7 := (show v7 = .bool false from hf _ (memI 10 rfl) (by kernel_rfl))
     subst e7
     have e11 := (show v11 = AG [encA .u8 d1, [.int .i64 x1], encA .i64 d2, [.slice a1 n1 c1]] from hf _ (memI 15 rfl) (by kernel_rfl))
     subst e11
     have hcal40 := P.baizeref47_Digest gq d1 x1 d2 l1 a1 n1 c1 hR1 d44 hk40
     refine WP.callC hcal40 (by kernel_rfl) ?_
     rintro _ g66 st66 rfl
     refine WP.dn (Shown.o (v := AG [encA .u8 d44]) st66.pure ?_)
     exact ⟨tv, tv, tv, tv, tv, tv, tv, tv, tv, tv, tv, tv, tv, tv, tv, tv, rfl, tv, tv⟩
    ·intro vs gq stq hl hf
     obtain ⟨v0, v1, v2, v3, v4, v5, v6, v7, v8, v9, v10, v11, v12, v13, rfl⟩ := len_k14 hl
     have e7 := (show v7 = .bool false from hf _ (memI 10 rfl) (by kernel_rfl))
     subst e7
     have e10 := (show v10 = AG [encA .u8 d43] from hf _ (memI 13 rfl) (by kernel_rfl))
     subst e10
     have e12 := (show v12 = AG [encA .u8 d44] from hf _ (memI 16 rfl) (by kernel_rfl))
     subst e12
     refine WP.neV (by kernel_rfl) (by kernel_rfl) (EqV.arr (d := 9998) (t := 22) (e := 5) (m := 8) (k := .u8) (x := d43) (y := d44) (by kernel_rfl) (by kernel_rfl)) ?_
     refine WP.dn (Shown.ok (v := .bool (!(d43.1 == d44.1))) (by kernel_rfl) (Step.refl _ _) ?_)
     exact ⟨tv, tv, tv, tv, tv, tv, tv, tv, tv, tv, tv, tv, tv, tv, tv, tv, tv, rfl, tv⟩
   intro vs g67 st67 hl hf
   obtain ⟨v0, v1, v2, v3, v4, v5, v6, v7, v8, v9, v10, v11, v12, v13, rfl⟩ := len_k14 hl
   have e7 := (show v7 = .bool false from hf _ (memI 10 rfl) (by kernel_rfl))
   subst e7
   have e13 := (show v13 = .bool (!(d43.1 == d44.1)) from hf _ (memI 17 rfl) (by kernel_rfl))
   subst e13
   replace hR2 := hR2.mono st67 (WL.no1 (by omega))
   replace tot := tot.trans (st67.up1 (.inr (by omega)))
   refine NX.post ?_
   exact ⟨(!(d43.1 == d44.1)), ⟨by kernel_rfl, by kernel_rfl⟩, tot, hR2, hs⟩
  replace hs := of_if_f hs h22
  replace hs := Option.bind_eq_some_iff.1 hs
  obtain ⟨⟨d45, x20, d46, l22⟩, hk41, hs⟩ := hs
  dsimp only at hs
  replace hs := Option.bind_eq_some_iff.1 hs
  obtain ⟨d47, hk42, hs⟩ := hs
  replace hs := Option.bind_eq_some_iff.1 hs
  obtain ⟨d48, hk43, hs⟩ := hs
  refine CP.drawL (by kernel_rfl) [3, 6, 15, 25, 26, 27, 28, 29, 30] N.baizelaw47_PurseTells_1 [⟨none, [], [], fun l g => Box g (t + 1) b1 26 [encA .u8 d1, [.int .i64 x1], encA .i64 d2, [.slice a1 n1 c1]] [8, 1, 2, 1]⟩, ⟨none, [], [], fun l g => RdS k_S_baizeref47_Held g 60 a1 n1 c1 l1⟩, ⟨some 0, [], [0], fun l g => l.getD 0 undef = .bool false⟩, ⟨some 1, [], [1], fun l g => l.getD 0 undef = .bool false⟩, ⟨some 2, [], [2], fun l g => l.getD 0 undef = .bool false⟩, ⟨some 3, [], [3], fun l g => l.getD 0 undef = AG [encA .u8 d1, [.int .i64 x1], encA .i64 d2, [.slice a1 n1 c1]]⟩, ⟨some 4, [0], [4], fun l g => ∃ (a22 : Option Addr) (c22 : Nat), l.getD 0 undef = AG [encA .u8 d45, [.int .i64 x20], encA .i64 d46, [.slice a22 l22.length c22]] ∧ OwnS k_S_purse_Held g (t + 22) 56 a22 l22.length c22 l22⟩, ⟨some 5, [], [5], fun l g => l.getD 0 undef = AG [encA .u8 d47]⟩, ⟨some 5, [0], [4], fun l g => ∃ (a22 : Option Addr) (c22 : Nat), l.getD 0 undef = AG [encA .u8 d45, [.int .i64 x20], encA .i64 d46, [.slice a22 l22.length c22]] ∧ OwnS k_S_purse_Held g (t + 22) 56 a22 l22.length c22 l22⟩, ⟨some 6, [], [6], fun l g => l.getD 0 undef = AG [encA .u8 d1, [.int .i64 x1], encA .i64 d2, [.slice a1 n1 c1]]⟩, ⟨some 7, [], [7], fun l g => l.getD 0 undef = AG [encA .u8 d48]⟩, ⟨some 8, [], [8], fun l g => l.getD 0 undef = .bool (!(d47.1 == d48.1))⟩] [[], [], [], [], [], [0], [], [], []] [(t + 22)] [0, 1, 2] [4, 5, 7, 8, 9, 10, 11, 12, 13, 14, 16, 17, 18, 19, 20, 21, 22, 23, 24, 31] (by kernel_rfl) (by simp <;> omega) (by simp) ⟨fun _ _ _ _ st h0 hl hj hB1 => (hB1.mono st (fun h => absurd (hl _ h) (by simp <;> omega))), fun _ _ _ _ st h0 hl hj hR1 => (RdS.mono (e := 60) hR1 st h0), fun _ _ _ _ st h0 hl hj e0 => e0, fun _ _ _ _ st h0 hl hj e1 => e1, fun _ _ _ _ st h0 hl hj e2 => e2, fun _ _ _ _ st h0 hl hj e3 => e3, fun _ _ _ _ st h0 hl hj ⟨a22, c22, e4, hR22⟩ => ⟨a22, c22, e4, (hR22.mono st h0 (hj 0 (by simp) _ rfl))⟩, fun _ _ _ _ st h0 hl hj e5 => e5, fun _ _ _ _ st h0 hl hj ⟨a22, c22, e4, hR22⟩ => ⟨a22, c22, e4, (hR22.mono st h0 (hj 0 (by simp) _ rfl))⟩, fun _ _ _ _ st h0 hl hj e6 => e6, fun _ _ _ _ st h0 hl hj e7 => e7, fun _ _ _ _ st h0 hl hj e8 => e8, tv⟩ ⟨hB1, hR1, tv, tv, tv, tv, tv, tv, tv, tv, tv, tv, tv⟩ (by kernel_rfl) (fun vs => by kernel_rfl) ?_ ?_ ?_
  ·intro j hj
   have hq : j = 0 ∨ j = 1 ∨ j = 2 ∨ j = 3 ∨ j = 4 ∨ j = 5 ∨ j = 6 ∨ j = 7 ∨ j = 8 ∨ j = 9 ∨ j = 10 ∨ j = 11 ∨ j = 12 ∨ j = 13 ∨ j = 14 ∨ j = 15 ∨ j = 16 ∨ j = 17 ∨ j = 18 ∨ j = 19 := by have h : j < 20 := hj; omega
   rcases hq with rfl | rfl | rfl | rfl | rfl | rfl | rfl | rfl | rfl | rfl | rfl | rfl | rfl | rfl | rfl | rfl | rfl | rfl | rfl | rfl
   ·intro vs gq stq hl hf
    obtain ⟨v0, v1, v2, v3, v4, v5, v6, v7, v8, rfl⟩ := len_k9 hl
    have e0 := (show v0 = .bool false from hf _ (memI 2 rfl) (by kernel_rfl))
    subst e0
    show Option.isSome _ = true
    kernel_rfl
   ·intro vs gq stq hl hf
    obtain ⟨v0, v1, v2, v3, v4, v5, v6, v7, v8, rfl⟩ := len_k9 hl
    have e0 := (show v0 = .bool false from hf _ (memI 2 rfl) (by kernel_rfl))
    subst e0
    show Option.isSome _ = true
    kernel_rfl
   ·intro vs gq stq hl hf
    obtain ⟨v0, v1, v2, v3, v4, v5, v6, v7, v8, rfl⟩ := len_k9 hl
    have e1 := (show v1 = .bool false from hf _ (memI 3 rfl) (by kernel_rfl))
    subst e1
    show Option.isSome _ = true
    kernel_rfl
   ·intro vs gq stq hl hf
    obtain ⟨v0, v1, v2, v3, v4, v5, v6, v7, v8, rfl⟩ := len_k9 hl
    have e1 := (show v1 = .bool false from hf _ (memI 3 rfl) (by kernel_rfl))
    subst e1
    show Option.isSome _ = true
    kernel_rfl
   ·intro vs gq stq hl hf
    obtain ⟨v0, v1, v2, v3, v4, v5, v6, v7, v8, rfl⟩ := len_k9 hl
    have e1 := (show v1 = .bool false from hf _ (memI 3 rfl) (by kernel_rfl))
    subst e1
    show Option.isSome _ = true
    kernel_rfl
   ·intro vs gq stq hl hf
    obtain ⟨v0, v1, v2, v3, v4, v5, v6, v7, v8, rfl⟩ := len_k9 hl
    have e0 := (show v0 = .bool false from hf _ (memI 2 rfl) (by kernel_rfl))
    subst e0
    have e1 := (show v1 = .bool false from hf _ (memI 3 rfl) (by kernel_rfl))
    subst e1
    show Option.isSome _ = true
    kernel_rfl
   ·intro vs gq stq hl hf
    obtain ⟨v0, v1, v2, v3, v4, v5, v6, v7, v8, rfl⟩ := len_k9 hl
    have e0 := (show v0 = .bool false from hf _ (memI 2 rfl) (by kernel_rfl))
    subst e0
    have e1 := (show v1 = .bool false from hf _ (memI 3 rfl) (by kernel_rfl))
    subst e1
    show Option.isSome _ = true
    kernel_rfl
   ·intro vs gq stq hl hf
    obtain ⟨v0, v1, v2, v3, v4, v5, v6, v7, v8, rfl⟩ := len_k9 hl
    have e0 := (show v0 = .bool false from hf _ (memI 2 rfl) (by kernel_rfl))
    subst e0
    have e1 := (show v1 = .bool false from hf _ (memI 3 rfl) (by kernel_rfl))
    subst e1
    show Option.isSome _ = true
    kernel_rfl
   ·intro vs gq stq hl hf
    obtain ⟨v0, v1, v2, v3, v4, v5, v6, v7, v8, rfl⟩ := len_k9 hl
    have e0 := (show v0 = .bool false from hf _ (memI 2 rfl) (by kernel_rfl))
    subst e0
    have e1 := (show v1 = .bool false from hf _ (memI 3 rfl) (by kernel_rfl))
    subst e1
    show Option.isSome _ = true
    kernel_rfl
   ·intro vs gq stq hl hf
    obtain ⟨v0, v1, v2, v3, v4, v5, v6, v7, v8, rfl⟩ := len_k9 hl
    have e0 := (show v0 = .bool false from hf _ (memI 2 rfl) (by kernel_rfl))
    subst e0
    have e1 := (show v1 = .bool false from hf _ (memI 3 rfl) (by kernel_rfl))
    subst e1
    show Option.isSome _ = true
    kernel_rfl
   ·intro vs gq stq hl hf
    obtain ⟨v0, v1, v2, v3, v4, v5, v6, v7, v8, rfl⟩ := len_k9 hl
    have e2 := (show v2 = .bool false from hf _ (memI 4 rfl) (by kernel_rfl))
    subst e2
    show Option.isSome _ = true
    kernel_rfl
   ·intro vs gq stq hl hf
    obtain ⟨v0, v1, v2, v3, v4, v5, v6, v7, v8, rfl⟩ := len_k9 hl
    have e2 := (show v2 = .bool false from hf _ (memI 4 rfl) (by kernel_rfl))
    subst e2
    show Option.isSome _ = true
    kernel_rfl
   ·intro vs gq stq hl hf
    obtain ⟨v0, v1, v2, v3, v4, v5, v6, v7, v8, rfl⟩ := len_k9 hl
    have e2 := (show v2 = .bool false from hf _ (memI 4 rfl) (by kernel_rfl))
    subst e2
    show Option.isSome _ = true
    kernel_rfl
   ·intro vs gq stq hl hf
    obtain ⟨v0, v1, v2, v3, v4, v5, v6, v7, v8, rfl⟩ := len_k9 hl
    have e2 := (show v2 = .bool false from hf _ (memI 4 rfl) (by kernel_rfl))
    subst e2
    show Option.isSome _ = true
    kernel_rfl
   ·intro vs gq stq hl hf
    obtain ⟨v0, v1, v2, v3, v4, v5, v6, v7, v8, rfl⟩ := len_k9 hl
    have e2 := (show v2 = .bool false from hf _ (memI 4 rfl) (by kernel_rfl))
    subst e2
    show Option.isSome _ = true
    kernel_rfl
   ·intro vs gq stq hl hf
    obtain ⟨v0, v1, v2, v3, v4, v5, v6, v7, v8, rfl⟩ := len_k9 hl
    have e2 := (show v2 = .bool false from hf _ (memI 4 rfl) (by kernel_rfl))
    subst e2
    show Option.isSome _ = true
    kernel_rfl
   ·intro vs gq stq hl hf
    obtain ⟨v0, v1, v2, v3, v4, v5, v6, v7, v8, rfl⟩ := len_k9 hl
    have e0 := (show v0 = .bool false from hf _ (memI 2 rfl) (by kernel_rfl))
    subst e0
    have e1 := (show v1 = .bool false from hf _ (memI 3 rfl) (by kernel_rfl))
    subst e1
    have e2 := (show v2 = .bool false from hf _ (memI 4 rfl) (by kernel_rfl))
    subst e2
    show Option.isSome _ = true
    kernel_rfl
   ·intro vs gq stq hl hf
    obtain ⟨v0, v1, v2, v3, v4, v5, v6, v7, v8, rfl⟩ := len_k9 hl
    have e0 := (show v0 = .bool false from hf _ (memI 2 rfl) (by kernel_rfl))
    subst e0
    have e1 := (show v1 = .bool false from hf _ (memI 3 rfl) (by kernel_rfl))
    subst e1
    have e2 := (show v2 = .bool false from hf _ (memI 4 rfl) (by kernel_rfl))
    subst e2
    show Option.isSome _ = true
    kernel_rfl
   ·intro vs gq stq hl hf
    obtain ⟨v0, v1, v2, v3, v4, v5, v6, v7, v8, rfl⟩ := len_k9 hl
    have e0 := (show v0 = .bool false from hf _ (memI 2 rfl) (by kernel_rfl))
    subst e0
    have e1 := (show v1 = .bool false from hf _ (memI 3 rfl) (by kernel_rfl))
    subst e1
    have e2 := (show v2 = .bool false from hf _ (memI 4 rfl) (by kernel_rfl))
    subst e2
    show Option.isSome _ = true
    kernel_rfl
   ·intro vs gq stq hl hf
    obtain ⟨v0, v1, v2, v3, v4, v5, v6, v7, v8, rfl⟩ := len_k9 hl
    have e0 := (show v0 = .bool false from hf _ (memI 2 rfl) (by kernel_rfl))
    subst e0
    have e1 := (show v1 = .bool false from hf _ (memI 3 rfl) (by kernel_rfl))
    subst e1
    have e2 := (show v2 = .bool false from hf _ (memI 4 rfl) (by kernel_rfl))
    subst e2
    have e8 := (show v8 = .bool (!(d47.1 == d48.1)) from hf _ (memI 11 rfl) (by kernel_rfl))
    subst e8
    show Option.isSome _ = true
    kernel_rfl
  ·intro j hj
   have hq : j = 0 ∨ j = 1 ∨ j = 2 ∨ j = 3 ∨ j = 4 ∨ j = 5 ∨ j = 6 ∨ j = 7 ∨ j = 8 := by have h : j < 9 := hj; omega
   rcases hq with rfl | rfl | rfl | rfl | rfl | rfl | rfl | rfl | rfl
   ·intro vs gq stq hl hf
    obtain ⟨v0, v1, v2, v3, v4, v5, v6, v7, v8, rfl⟩ := len_k9 hl
    refine WP.stl 1 ?_
    refine WP.dn (Shown.ok (v := .bool (x3 != x4)) (by kernel_rfl) (Step.refl _ _) ?_)
    exact ⟨tv, tv, congrArg Value.bool h17, tv, tv, tv, tv, tv, tv, tv, tv, tv, tv⟩
   ·intro vs gq stq hl hf
    obtain ⟨v0, v1, v2, v3, v4, v5, v6, v7, v8, rfl⟩ := len_k9 hl
    have e0 := (show v0 = .bool false from hf _ (memI 2 rfl) (by kernel_rfl))
    subst e0
    refine WP.stl 1 ?_
    refine WP.dn (Shown.ok (v := .bool (x4 != 0)) (by kernel_rfl) (Step.refl _ _) ?_)
    exact ⟨tv, tv, tv, congrArg Value.bool h18, tv, tv, tv, tv, tv, tv, tv, tv, tv⟩
   ·intro vs gq stq hl hf
    obtain ⟨v0, v1, v2, v3, v4, v5, v6, v7, v8, rfl⟩ := len_k9 hl
    have e0 := (show v0 = .bool false from hf _ (memI 2 rfl) (by kernel_rfl))
    subst e0
    have e1 := (show v1 = .bool false from hf _ (memI 3 rfl) (by kernel_rfl))
    subst e1
    refine WP.stl 1 ?_
    refine WP.dn (Shown.ok (v := .bool (x4 == 0)) (by kernel_rfl) (Step.refl _ _) ?_)
    exact ⟨tv, tv, tv, tv, congrArg Value.bool h22, tv, tv, tv, tv, tv, tv, tv, tv⟩
   ·intro vs gq stq hl hf
    obtain ⟨v0, v1, v2, v3, v4, v5, v6, v7, v8, rfl⟩ := len_k9 hl
    have hB1 := (show Box gq (t + 1) b1 26 [encA .u8 d1, [.int .i64 x1], encA .i64 d2, [.slice a1 n1 c1]] [8, 1, 2, 1] from hf _ (memI 0 rfl) (by kernel_rfl))
    have e0 := (show v0 = .bool false from hf _ (memI 2 rfl) (by kernel_rfl))
    subst e0
    have e1 := (show v1 = .bool false from hf _ (memI 3 rfl) (by kernel_rfl))
    subst e1
    have e2 := (show v2 = .bool false from hf _ (memI 4 rfl) (by kernel_rfl))
    subst e2
    refine WP.loadB (v := AG [encA .u8 d1, [.int .i64 x1], encA .i64 d2, [.slice a1 n1 c1]]) hB1 (by kernel_rfl) (by kernel_rfl) ?_
    refine WP.dn (Shown.ok (v := AG [encA .u8 d1, [.int .i64 x1], encA .i64 d2, [.slice a1 n1 c1]]) (by kernel_rfl) (Step.refl _ _) ?_)
    exact ⟨tv, tv, tv, tv, tv, rfl, tv, tv, tv, tv, tv, tv, tv⟩
   ·intro vs gq stq hl hf
    obtain ⟨v0, v1, v2, v3, v4, v5, v6, v7, v8, rfl⟩ := len_k9 hl
    have hR1 := (show RdS k_S_baizeref47_Held gq 60 a1 n1 c1 l1 from hf _ (memI 1 rfl) (by kernel_rfl))
    have e0 := (show v0 = .bool false from hf _ (memI 2 rfl) (by kernel_rfl))
    subst e0
    have e1 := (show v1 = .bool false from hf _ (memI 3 rfl) (by kernel_rfl))
    subst e1
    have e2 := (show v2 = .bool false from hf _ (memI 4 rfl) (by kernel_rfl))
    subst e2
    have e3 := (show v3 = AG [encA .u8 d1, [.int .i64 x1], encA .i64 d2, [.slice a1 n1 c1]] from hf _ (memI 5 rfl) (by kernel_rfl))
    subst e3
    have hcal41 := P.baizelaw47_Own gq (t + 22) d1 x1 d2 l1 a1 n1 c1 hR1 d45 x20 d46 l22 hk41
    refine WP.callC hcal41 (by kernel_rfl) ?_
    rintro _ g68 st68 ⟨a22, n22, c22, rfl, hR22⟩
    obtain rfl := hR22.len
    refine WP.dn (Shown.o (v := AG [encA .u8 d45, [.int .i64 x20], encA .i64 d46, [.slice a22 l22.length c22]]) st68.pure ?_)
    exact ⟨tv, tv, tv, tv, tv, tv, ⟨a22, c22, rfl, hR22⟩, tv, tv, tv, tv, tv, tv⟩
   ·intro vs gq stq hl hf
    obtain ⟨v0, v1, v2, v3, v4, v5, v6, v7, v8, rfl⟩ := len_k9 hl
    have e0 := (show v0 = .bool false from hf _ (memI 2 rfl) (by kernel_rfl))
    subst e0
    have e1 := (show v1 = .bool false from hf _ (memI 3 rfl) (by kernel_rfl))
    subst e1
    have e2 := (show v2 = .bool false from hf _ (memI 4 rfl) (by kernel_rfl))
    subst e2
    obtain ⟨a22, c22, e4, hR22⟩ := (show ∃ (a22 : Option Addr) (c22 : Nat), v4 = AG [encA .u8 d45, [.int .i64 x20], encA .i64 d46, [.slice a22 l22.length c22]] ∧ OwnS k_S_purse_Held gq (t + 22) 56 a22 l22.length c22 l22 from hf _ (memI 6 rfl) (by kernel_rfl))
    subst e4
    have hS10 : 0 ∉ ([(t + 22)] : List Nat) := by simp <;> omega
    have stl10 := GW.lend_step gq [(t + 22)]
    have hRl12 := hR22.lendTo hS10 (by simp)
    refine WP.regw (g' := GW.lend gq [(t + 22)]) rfl ?_
    have hcal42 := P.purse_Purse_Digest (GW.lend gq [(t + 22)]) d45 x20 d46 l22 a22 l22.length c22 hRl12 d47 hk42
    refine WP.callC hcal42 (by kernel_rfl) ?_
    rintro _ g69 st69 rfl
    have st70 := (GW.back_step st69).lentS
    have hO12 := hR22.backTo hS10 (by simp) st69 (fun x => x)
    refine WP.regw (g' := GW.back gq g69 [(t + 22)]) rfl ?_
    generalize GW.back gq g69 [(t + 22)] = g70 at *
    refine WP.dn (Shown.o (v := AG [encA .u8 d47]) st70 ?_)
    exact ⟨tv, tv, tv, tv, tv, tv, tv, rfl, ⟨a22, c22, rfl, hO12⟩, tv, tv, tv, tv⟩
   ·intro vs gq stq hl hf
    obtain ⟨v0, v1, v2, v3, v4, v5, v6, v7, v8, rfl⟩ := len_k9 hl
    have hB1 := (show Box gq (t + 1) b1 26 [encA .u8 d1, [.int .i64 x1], encA .i64 d2, [.slice a1 n1 c1]] [8, 1, 2, 1] from hf _ (memI 0 rfl) (by kernel_rfl))
    have e0 := (show v0 = .bool false from hf _ (memI 2 rfl) (by kernel_rfl))
    subst e0
    have e1 := (show v1 = .bool false from hf _ (memI 3 rfl) (by kernel_rfl))
    subst e1
    have e2 := (show v2 = .bool false from hf _ (memI 4 rfl) (by kernel_rfl))
    subst e2
    refine WP.loadB (v := AG [encA .u8 d1, [.int .i64 x1], encA .i64 d2, [.slice a1 n1 c1]]) hB1 (by kernel_rfl) (by kernel_rfl) ?_
    refine WP.dn (Shown.ok (v := AG [encA .u8 d1, [.int .i64 x1], encA .i64 d2, [.slice a1 n1 c1]]) (by kernel_rfl) (Step.refl _ _) ?_)
    exact ⟨tv, tv, tv, tv, tv, tv, tv, tv, tv, rfl, tv, tv, tv⟩
   ·intro vs gq stq hl hf
    obtain ⟨v0, v1, v2, v3, v4, v5, v6, v7, v8, rfl⟩ := len_k9 hl
    have hR1 := (show RdS k_S_baizeref47_Held gq 60 a1 n1 c1 l1 from hf _ (memI 1 rfl) (by kernel_rfl))
    have e0 := (show v0 = .bool false from hf _ (memI 2 rfl) (by kernel_rfl))
    subst e0
    have e1 := (show v1 = .bool false from hf _ (memI 3 rfl) (by kernel_rfl))
    subst e1
    have e2 := (show v2 = .bool false from hf _ (memI 4 rfl) (by kernel_rfl))
    subst e2
    have e6 := (show v6 = AG [encA .u8 d1, [.int .i64 x1], encA .i64 d2, [.slice a1 n1 c1]] from hf _ (memI 9 rfl) (by kernel_rfl))
    subst e6
    have hcal43 := P.baizeref47_Digest gq d1 x1 d2 l1 a1 n1 c1 hR1 d48 hk43
    refine WP.callC hcal43 (by kernel_rfl) ?_
    rintro _ g71 st71 rfl
    refine WP.dn (Shown.o (v := AG [encA .u8 d48]) st71.pure ?_)
    exact ⟨tv, tv, tv, tv, tv, tv, tv, tv, tv, tv, rfl, tv, tv⟩
   ·intro vs gq stq hl hf
    obtain ⟨v0, v1, v2, v3, v4, v5, v6, v7, v8, rfl⟩ := len_k9 hl
    have e0 := (show v0 = .bool false from hf _ (memI 2 rfl) (by kernel_rfl))
    subst e0
    have e1 := (show v1 = .bool false from hf _ (memI 3 rfl) (by kernel_rfl))
    subst e1
    have e2 := (show v2 = .bool false from hf _ (memI 4 rfl) (by kernel_rfl))
    subst e2
    have e5 := (show v5 = AG [encA .u8 d47] from hf _ (memI 7 rfl) (by kernel_rfl))
    subst e5
    have e7 := (show v7 = AG [encA .u8 d48] from hf _ (memI 10 rfl) (by kernel_rfl))
    subst e7
    refine WP.neV (by kernel_rfl) (by kernel_rfl) (EqV.arr (d := 9998) (t := 22) (e := 5) (m := 8) (k := .u8) (x := d47) (y := d48) (by kernel_rfl) (by kernel_rfl)) ?_
    refine WP.dn (Shown.ok (v := .bool (!(d47.1 == d48.1))) (by kernel_rfl) (Step.refl _ _) ?_)
    exact ⟨tv, tv, tv, tv, tv, tv, tv, tv, tv, tv, tv, rfl, tv⟩
  intro vs g72 st72 hl hf
  obtain ⟨v0, v1, v2, v3, v4, v5, v6, v7, v8, rfl⟩ := len_k9 hl
  have e0 := (show v0 = .bool false from hf _ (memI 2 rfl) (by kernel_rfl))
  subst e0
  have e1 := (show v1 = .bool false from hf _ (memI 3 rfl) (by kernel_rfl))
  subst e1
  have e2 := (show v2 = .bool false from hf _ (memI 4 rfl) (by kernel_rfl))
  subst e2
  have e8 := (show v8 = .bool (!(d47.1 == d48.1)) from hf _ (memI 11 rfl) (by kernel_rfl))
  subst e8
  replace hR2 := hR2.mono st72 (WL.no1 (by omega))
  replace tot := tot.trans (st72.up1 (.inr (by omega)))
  refine NX.post ?_
  exact ⟨(!(d47.1 == d48.1)), ⟨by kernel_rfl, by kernel_rfl⟩, tot, hR2, hs⟩
 clear tot hs hR2 hB1 hR1 hR4
 rintro tm g ⟨q4, hF, tot, hR2, hs⟩
 clear ds
 obtain ⟨ds, rfl⟩ := hF.open
 clear hF
 unfold F.baizelaw47_PurseTells.c2 at hs
 refine CP.cond (b := q4) (by kernel_rfl) (fun h10 => ?_) (fun h10 => ?_)
 ·replace hs := of_if_t hs h10
  refine CP.seqR ?_
  refine WP.stl 1 ?_
  refine WP.dn ?_
  refine NX.then_n ?_
  refine CP.ret ?_
  refine NX.then_r ?_
  replace hs := Option.some.inj hs
  obtain rfl := hs
  exact NX.fin (v := .bool false) (Res.still (by kernel_rfl)) tot htL rfl
 replace hs := of_if_f hs h10
 refine CP.skip ?_
 refine NX.then_n ?_
 refine CP.seqR ?_
 refine WP.stl 1 ?_
 replace hs := Option.bind_eq_some_iff.1 hs
 obtain ⟨⟨d21, x9, d22, l11, x10⟩, hk20, hs⟩ := hs
 dsimp only at hs
 have hcal20 := P.purse_Decode g (t + 9) l2 a2 n2 c2 hR2 d21 x9 d22 l11 x10 hk20
 refine WP.callC hcal20 (by kernel_rfl) ?_
 rintro _ g26 st26 ⟨a11, n11, c11, rfl, hR11⟩
 replace hR2 := hR2.mono st26 (fun x => x)
 replace tot := tot.trans st26.pure
 refine WP.stl 3 ?_
 refine WP.alloc (T := 32) (t + 10) [encA .u8 (zA 8), [.int .i64 0], encA .i64 (zA 2), [.slice none 0 0]] [8, 1, 2, 1] (by kernel_rfl) (by simp [len_encA]) ?_
 intro g27 b2 st27 hB2
 replace hR2 := hR2.mono st27 (fun x => x)
 replace hR11 := hR11.mono st27 (fun x => x) (fun x => x)
 replace tot := tot.trans st27.pure
 refine WP.storeB (ty := 32) (off := 0) (v := AG [encA .u8 d21, [.int .i64 x9], encA .i64 d22, [.slice a11 n11 c11]]) hB2 [encA .u8 d21, [.int .i64 x9], encA .i64 d22, [.slice a11 n11 c11]] [8, 1, 2, 1] (by kernel_rfl) (by kernel_rfl) (by simp [len_encA]) (by kernel_rfl) [encA .u8 d21, [.int .i64 x9], encA .i64 d22, [.slice a11 n11 c11]] (by kernel_rfl) (.arr (.one rfl (.arr (.one rfl .nil)))) ?_
 intro g28 st28 hB3
 replace hR2 := hR2.mono st28 (WL.no1 (by omega))
 replace hR11 := hR11.mono st28 (WL.no1 (by omega)) (WL.no1 (by omega))
 replace tot := tot.trans (st28.up1 (.inr (by omega)))
 clear hB2
 have hB2 := hB3
 clear hB3
 refine WP.stl 1 ?_
 refine WP.dn ?_
 refine NX.then_n ?_
 refine CP.seqR ?_
 refine WP.stl 1 ?_
 replace hs := Option.bind_eq_some_iff.1 hs
 obtain ⟨⟨d23, x11, d24, l12, x12⟩, hk21, hs⟩ := hs
 dsimp only at hs
 have hcal21 := P.baizeref47_Decode g28 (t + 11) l2 a2 n2 c2 hR2 d23 x11 d24 l12 x12 hk21
 refine WP.callC hcal21 (by kernel_rfl) ?_
 rintro _ g29 st29 ⟨a12, n12, c12, rfl, hR12⟩
 replace hR2 := hR2.mono st29 (fun x => x)
 replace hB2 := hB2.mono st29 (fun x => x)
 replace hR11 := hR11.mono st29 (fun x => x) (fun x => x)
 replace tot := tot.trans st29.pure
 refine WP.stl 3 ?_
 refine WP.alloc (T := 26) (t + 12) [encA .u8 (zA 8), [.int .i64 0], encA .i64 (zA 2), [.slice none 0 0]] [8, 1, 2, 1] (by kernel_rfl) (by simp [len_encA]) ?_
 intro g30 b3 st30 hB4
 replace hR2 := hR2.mono st30 (fun x => x)
 replace hB2 := hB2.mono st30 (fun x => x)
 replace hR11 := hR11.mono st30 (fun x => x) (fun x => x)
 replace hR12 := hR12.mono st30 (fun x => x) (fun x => x)
 replace tot := tot.trans st30.pure
 refine WP.storeB (ty := 26) (off := 0) (v := AG [encA .u8 d23, [.int .i64 x11], encA .i64 d24, [.slice a12 n12 c12]]) hB4 [encA .u8 d23, [.int .i64 x11], encA .i64 d24, [.slice a12 n12 c12]] [8, 1, 2, 1] (by kernel_rfl) (by kernel_rfl) (by simp [len_encA]) (by kernel_rfl) [encA .u8 d23, [.int .i64 x11], encA .i64 d24, [.slice a12 n12 c12]] (by kernel_rfl) (.arr (.one rfl (.arr (.one rfl .nil)))) ?_
 intro g31 st31 hB5
 replace hR2 := hR2.mono st31 (WL.no1 (by omega))
 replace hB2 := hB2.mono st31 (WL.no1 (by omega))
 replace hR11 := hR11.mono st31 (WL.no1 (by omega)) (WL.no1 (by omega))
 replace hR12 := hR12.mono st31 (WL.no1 (by omega)) (WL.no1 (by omega))
 replace tot := tot.trans (st31.up1 (.inr (by omega)))
 clear hB4
 have hB4 := hB5
 clear hB5
 refine WP.stl 1 ?_
 refine WP.dn ?_
 refine NX.then_n ?_
 refine CP.refr 82 [(8, .pointer (some ⟨b2, 0, none⟩)), (9, .int .i64 x10), (10, .pointer (some ⟨b3, 0, none⟩)), (11, .int .i64 x12)] (by kernel_rfl) (by kernel_rfl) ?_
 clear ds
 intro ds
 refine CP.cut (fun tm g => ∃ (q7 : Bool), Fr 82 [(4, .bool q7)] tm ∧ Step (fun l => NoM l ∨ t ≤ l) g0 g ∧ (F.baizelaw47_PurseTells.c3 q7) = some o1) ?_ ?_
 ·obtain ⟨g39, hw3, st39, hnew⟩ := hR11.freeze (by omega)
  refine CP.regw hw3 ?_
  replace hB2 := hB2.mono st39 (WL.no1 (by omega))
  replace hB4 := hB4.mono st39 (WL.no1 (by omega))
  replace hR12 := hR12.mono st39 (WL.no1 (by omega)) (WL.no1 (by omega))
  replace tot := tot.trans (st39.up1 (.inr (by omega)))
  clear hR11
  have hR11 := hnew
  clear hnew
  refine bool_split (b := (x10 == x12)) (fun h15 => ?_) (fun h15 => ?_)
  ·replace hs := of_if_t hs h15
   replace hs := Option.bind_eq_some_iff.1 hs
   obtain ⟨⟨d31, x16, d32, l16⟩, hk27, hs⟩ := hs
   dsimp only at hs
   replace hs := Option.bind_eq_some_iff.1 hs
   obtain ⟨q8, hk28, hs⟩ := hs
   refine bool_split (b := q8) (fun h16 => ?_) (fun h16 => ?_)
   ·replace hs := of_if_t hs h16
    replace hs := Option.bind_eq_some_iff.1 hs
    obtain ⟨q9, hk29, hs⟩ := hs
    refine CP.drawL (by kernel_rfl) [3, 4, 5, 6, 7, 9, 10] N.baizelaw47_PurseTells_0 [⟨none, [], [], fun l g => Box g (t + 10) b2 32 [encA .u8 d21, [.int .i64 x9], encA .i64 d22, [.slice a11 n11 c11]] [8, 1, 2, 1]⟩, ⟨none, [], [], fun l g => RdS k_S_purse_Held g 56 a11 n11 c11 l11⟩, ⟨none, [], [], fun l g => Box g (t + 12) b3 26 [encA .u8 d23, [.int .i64 x11], encA .i64 d24, [.slice a12 n12 c12]] [8, 1, 2, 1]⟩, ⟨none, [1], [], fun l g => OwnS k_S_baizeref47_Held g (t + 11) 60 a12 n12 c12 l12⟩, ⟨some 0, [], [0], fun l g => l.getD 0 undef = .bool true⟩, ⟨some 1, [], [1], fun l g => l.getD 0 undef = AG [encA .u8 d21, [.int .i64 x9], encA .i64 d22, [.slice a11 n11 c11]]⟩, ⟨some 2, [0], [2], fun l g => ∃ (a16 : Option Addr) (c16 : Nat), l.getD 0 undef = AG [encA .u8 d31, [.int .i64 x16], encA .i64 d32, [.slice a16 l16.length c16]] ∧ OwnS k_S_baizeref47_Held g (t + 16) 60 a16 l16.length c16 l16⟩, ⟨some 3, [], [3], fun l g => l.getD 0 undef = AG [encA .u8 d23, [.int .i64 x11], encA .i64 d24, [.slice a12 n12 c12]]⟩, ⟨some 4, [], [4], fun l g => l.getD 0 undef = .bool q8⟩, ⟨some 4, [1], [], fun l g => OwnS k_S_baizeref47_Held g (t + 11) 60 a12 n12 c12 l12⟩, ⟨some 4, [0], [2], fun l g => ∃ (a16 : Option Addr) (c16 : Nat), l.getD 0 undef = AG [encA .u8 d31, [.int .i64 x16], encA .i64 d32, [.slice a16 l16.length c16]] ∧ OwnS k_S_baizeref47_Held g (t + 16) 60 a16 l16.length c16 l16⟩, ⟨some 5, [], [5], fun l g => l.getD 0 undef = .bool true⟩, ⟨some 6, [], [6], fun l g => l.getD 0 undef = .bool q9⟩] [[], [], [], [], [0, 1], [], []] [(t + 16), (t + 11)] [0, 1, 2] [8, 11, 12] (by kernel_rfl) (by simp <;> omega) (by simp <;> omega) ⟨fun _ _ _ _ st h0 hl hj hB2 => (hB2.mono st (fun h => absurd (hl _ h) (by simp <;> omega))), fun _ _ _ _ st h0 hl hj hR11 => (RdS.mono (e := 56) hR11 st h0), fun _ _ _ _ st h0 hl hj hB4 => (hB4.mono st (fun h => absurd (hl _ h) (by simp <;> omega))), fun _ _ _ _ st h0 hl hj hR12 => (hR12.mono st h0 (hj 1 (by simp) _ rfl)), fun _ _ _ _ st h0 hl hj e0 => e0, fun _ _ _ _ st h0 hl hj e1 => e1, fun _ _ _ _ st h0 hl hj ⟨a16, c16, e2, hR16⟩ => ⟨a16, c16, e2, (hR16.mono st h0 (hj 0 (by simp) _ rfl))⟩, fun _ _ _ _ st h0 hl hj e3 => e3, fun _ _ _ _ st h0 hl hj e4 => e4, fun _ _ _ _ st h0 hl hj hR12 => (hR12.mono st h0 (hj 1 (by simp) _ rfl)), fun _ _ _ _ st h0 hl hj ⟨a16, c16, e2, hR16⟩ => ⟨a16, c16, e2, (hR16.mono st h0 (hj 0 (by simp) _ rfl))⟩, fun _ _ _ _ st h0 hl hj e5 => e5, fun _ _ _ _ st h0 hl hj e6 => e6, tv⟩ ⟨hB2, hR11, hB4, hR12, tv, tv, tv, tv, tv, tv, tv, tv, tv, tv⟩ (by kernel_rfl) (fun vs => by kernel_rfl) ?_ ?_ ?_
    ·intro j hj
     have hq : j = 0 ∨ j = 1 ∨ j = 2 := by have h : j < 3 := hj; omega
     rcases hq with rfl | rfl | rfl
     ·intro vs gq stq hl hf
      obtain ⟨v0, v1, v2, v3, v4, v5, v6, rfl⟩ := len_k7 hl
      have e0 := (show v0 = .bool true from hf _ (memI 4 rfl) (by kernel_rfl))
      subst e0
      have e4 := (show v4 = .bool q8 from hf _ (memI 8 rfl) (by kernel_rfl))
      subst e4
      show Option.isSome _ = true
      kernel_rfl
     ·intro vs gq stq hl hf
      obtain ⟨v0, v1, v2, v3, v4, v5, v6, rfl⟩ := len_k7 hl
      have e5 := (show v5 = .bool true from hf _ (memI 11 rfl) (by kernel_rfl))
      subst e5
      have e6 := (show v6 = .bool q9 from hf _ (memI 12 rfl) (by kernel_rfl))
      subst e6
      show Option.isSome _ = true
      kernel_rfl
     ·intro vs gq stq hl hf
      obtain ⟨v0, v1, v2, v3, v4, v5, v6, rfl⟩ := len_k7 hl
      have e5 := (show v5 = .bool true from hf _ (memI 11 rfl) (by kernel_rfl))
      subst e5
      have e6 := (show v6 = .bool q9 from hf _ (memI 12 rfl) (by kernel_rfl))
      subst e6
      show Option.isSome _ = true
      kernel_rfl
    ·intro j hj
     have hq : j = 0 ∨ j = 1 ∨ j = 2 ∨ j = 3 ∨ j = 4 ∨ j = 5 ∨ j = 6 := by have h : j < 7 := hj; omega
     rcases hq with rfl | rfl | rfl | rfl | rfl | rfl | rfl
     ·intro vs gq stq hl hf
      obtain ⟨v0, v1, v2, v3, v4, v5, v6, rfl⟩ := len_k7 hl
      refine WP.stl 1 ?_
      refine WP.dn (Shown.ok (v := .bool (x10 == x12)) (by kernel_rfl) (Step.refl _ _) ?_)
      exact ⟨tv, tv, tv, tv, congrArg Value.bool h15, tv, tv, tv, tv, tv, tv, tv, tv, tv⟩
     ·intro vs gq stq hl hf
      obtain ⟨v0, v1, v2, v3, v4, v5, v6, rfl⟩ := len_k7 hl
      have hB2 := (show Box gq (t + 10) b2 32 [encA .u8 d21, [.int .i64 x9], encA .i64 d22, [.slice a11 n11 c11]] [8, 1, 2, 1] from hf _ (memI 0 rfl) (by kernel_rfl))
      have e0 := (show v0 = .bool true from hf _ (memI 4 rfl) (by kernel_rfl))
      subst e0
      refine WP.loadB (v := AG [encA .u8 d21, [.int .i64 x9], encA .i64 d22, [.slice a11 n11 c11]]) hB2 (by kernel_rfl) (by kernel_rfl) ?_
      refine WP.dn (Shown.ok (v := AG [encA .u8 d21, [.int .i64 x9], encA .i64 d22, [.slice a11 n11 c11]]) (by kernel_rfl) (Step.refl _ _) ?_)
      exact ⟨tv, tv, tv, tv, tv, rfl, tv, tv, tv, tv, tv, tv, tv, tv⟩
     ·intro vs gq stq hl hf
      obtain ⟨v0, v1, v2, v3, v4, v5, v6, rfl⟩ := len_k7 hl
      have hR11 := (show RdS k_S_purse_Held gq 56 a11 n11 c11 l11 from hf _ (memI 1 rfl) (by kernel_rfl))
      have e0 := (show v0 = .bool true from hf _ (memI 4 rfl) (by kernel_rfl))
      subst e0
      have e1 := (show v1 = AG [encA .u8 d21, [.int .i64 x9], encA .i64 d22, [.slice a11 n11 c11]] from hf _ (memI 5 rfl) (by kernel_rfl))
      subst e1
      have hcal27 := P.baizelaw47_Back gq (t + 16) d21 x9 d22 l11 a11 n11 c11 hR11 d31 x16 d32 l16 hk27
      refine WP.callC hcal27 (by kernel_rfl) ?_
      rintro _ g40 st40 ⟨a16, n16, c16, rfl, hR16⟩
      obtain rfl := hR16.len
      refine WP.dn (Shown.o (v := AG [encA .u8 d31, [.int .i64 x16], encA .i64 d32, [.slice a16 l16.length c16]]) st40.pure ?_)
      exact ⟨tv, tv, tv, tv, tv, tv, ⟨a16, c16, rfl, hR16⟩, tv, tv, tv, tv, tv, tv, tv⟩
     ·intro vs gq stq hl hf
      obtain ⟨v0, v1, v2, v3, v4, v5, v6, rfl⟩ := len_k7 hl
      have hB4 := (show Box gq (t + 12) b3 26 [encA .u8 d23, [.int .i64 x11], encA .i64 d24, [.slice a12 n12 c12]] [8, 1, 2, 1] from hf _ (memI 2 rfl) (by kernel_rfl))
      have e0 := (show v0 = .bool true from hf _ (memI 4 rfl) (by kernel_rfl))
      subst e0
      refine WP.loadB (v := AG [encA .u8 d23, [.int .i64 x11], encA .i64 d24, [.slice a12 n12 c12]]) hB4 (by kernel_rfl) (by kernel_rfl) ?_
      refine WP.dn (Shown.ok (v := AG [encA .u8 d23, [.int .i64 x11], encA .i64 d24, [.slice a12 n12 c12]]) (by kernel_rfl) (Step.refl _ _) ?_)
      exact ⟨tv, tv, tv, tv, tv, tv, tv, rfl, tv, tv, tv, tv, tv, tv⟩
     ·intro vs gq stq hl hf
      obtain ⟨v0, v1, v2, v3, v4, v5, v6, rfl⟩ := len_k7 hl
      have hR12 := (show OwnS k_S_baizeref47_Held gq (t + 11) 60 a12 n12 c12 l12 from hf _ (memI 3 rfl) (by kernel_rfl))
      have e0 := (show v0 = .bool true from hf _ (memI 4 rfl) (by kernel_rfl))
      subst e0
      obtain ⟨a16, c16, e2, hR16⟩ := (show ∃ (a16 : Option Addr) (c16 : Nat), v2 = AG [encA .u8 d31, [.int .i64 x16], encA .i64 d32, [.slice a16 l16.length c16]] ∧ OwnS k_S_baizeref47_Held gq (t + 16) 60 a16 l16.length c16 l16 from hf _ (memI 6 rfl) (by kernel_rfl))
      subst e2
      have e3 := (show v3 = AG [encA .u8 d23, [.int .i64 x11], encA .i64 d24, [.slice a12 n12 c12]] from hf _ (memI 7 rfl) (by kernel_rfl))
      subst e3
      have hS6 : 0 ∉ ([(t + 16), (t + 11)] : List Nat) := by simp <;> omega
      have stl6 := GW.lend_step gq [(t + 16), (t + 11)]
      have hRl7 := hR16.lendTo hS6 (by simp)
      have hRl8 := hR12.lendTo hS6 (by simp)
      refine WP.regw (g' := GW.lend gq [(t + 16), (t + 11)]) rfl ?_
      have hcal28 := P.baizeref47_Same (GW.lend gq [(t + 16), (t + 11)]) d31 x16 d32 l16 d23 x11 d24 l12 a16 l16.length c16 a12 n12 c12 hRl7 hRl8 q8 hk28
      refine WP.callC hcal28 (by kernel_rfl) ?_
      rintro _ g41 st41 rfl
      have st42 := (GW.back_step st41).lentS
      have hO7 := hR16.backTo hS6 (by simp) st41 (fun x => x)
      have hO8 := hR12.backTo hS6 (by simp) st41 (fun x => x)
      refine WP.regw (g' := GW.back gq g41 [(t + 16), (t + 11)]) rfl ?_
      generalize GW.back gq g41 [(t + 16), (t + 11)] = g42 at *
      refine WP.dn (Shown.o (v := .bool q8) st42 ?_)
      exact ⟨tv, tv, tv, tv, tv, tv, tv, tv, rfl, hO8, ⟨a16, c16, rfl, hO7⟩, tv, tv, tv⟩
     ·intro vs gq stq hl hf
      obtain ⟨v0, v1, v2, v3, v4, v5, v6, rfl⟩ := len_k7 hl
      have e0 := (show v0 = .bool true from hf _ (memI 4 rfl) (by kernel_rfl))
      subst e0
      have e4 := (show v4 = .bool q8 from hf _ (memI 8 rfl) (by kernel_rfl))
      subst e4
      refine WP.stl 1 ?_
      refine WP.dn (Shown.ok (v := .bool q8) (by kernel_rfl) (Step.refl _ _) ?_)
      exact ⟨tv, tv, tv, tv, tv, tv, tv, tv, tv, tv, tv, congrArg Value.bool h16, tv, tv⟩
     ·intro vs gq stq hl hf
      obtain ⟨v0, v1, v2, v3, v4, v5, v6, rfl⟩ := len_k7 hl
      have e5 := (show v5 = .bool true from hf _ (memI 11 rfl) (by kernel_rfl))
      subst e5
      have hcal29 := P.baizelaw47_told gq q9 hk29
      refine WP.callC hcal29 (by kernel_rfl) ?_
      rintro _ g43 st43 rfl
      refine WP.dn (Shown.o (v := .bool q9) st43.pure ?_)
      exact ⟨tv, tv, tv, tv, tv, tv, tv, tv, tv, tv, tv, tv, rfl, tv⟩
    intro vs g44 st44 hl hf
    obtain ⟨v0, v1, v2, v3, v4, v5, v6, rfl⟩ := len_k7 hl
    have e5 := (show v5 = .bool true from hf _ (memI 11 rfl) (by kernel_rfl))
    subst e5
    have e6 := (show v6 = .bool q9 from hf _ (memI 12 rfl) (by kernel_rfl))
    subst e6
    replace tot := tot.trans (st44.up2 (.inr (by omega)) (.inr (by omega)))
    refine NX.post ?_
    exact ⟨q9, ⟨by kernel_rfl, by kernel_rfl⟩, tot, hs⟩
   replace hs := of_if_f hs h16
   refine CP.drawL (by kernel_rfl) [3, 4, 5, 6, 7, 9] N.baizelaw47_PurseTells_0 [⟨none, [], [], fun l g => Box g (t + 10) b2 32 [encA .u8 d21, [.int .i64 x9], encA .i64 d22, [.slice a11 n11 c11]] [8, 1, 2, 1]⟩, ⟨none, [], [], fun l g => RdS k_S_purse_Held g 56 a11 n11 c11 l11⟩, ⟨none, [], [], fun l g => Box g (t + 12) b3 26 [encA .u8 d23, [.int .i64 x11], encA .i64 d24, [.slice a12 n12 c12]] [8, 1, 2, 1]⟩, ⟨none, [1], [], fun l g => OwnS k_S_baizeref47_Held g (t + 11) 60 a12 n12 c12 l12⟩, ⟨some 0, [], [0], fun l g => l.getD 0 undef = .bool true⟩, ⟨some 1, [], [1], fun l g => l.getD 0 undef = AG [encA .u8 d21, [.int .i64 x9], encA .i64 d22, [.slice a11 n11 c11]]⟩, ⟨some 2, [0], [2], fun l g => ∃ (a16 : Option Addr) (c16 : Nat), l.getD 0 undef = AG [encA .u8 d31, [.int .i64 x16], encA .i64 d32, [.slice a16 l16.length c16]] ∧ OwnS k_S_baizeref47_Held g (t + 16) 60 a16 l16.length c16 l16⟩, ⟨some 3, [], [3], fun l g => l.getD 0 undef = AG [encA .u8 d23, [.int .i64 x11], encA .i64 d24, [.slice a12 n12 c12]]⟩, ⟨some 4, [], [4], fun l g => l.getD 0 undef = .bool q8⟩, ⟨some 4, [1], [], fun l g => OwnS k_S_baizeref47_Held g (t + 11) 60 a12 n12 c12 l12⟩, ⟨some 4, [0], [2], fun l g => ∃ (a16 : Option Addr) (c16 : Nat), l.getD 0 undef = AG [encA .u8 d31, [.int .i64 x16], encA .i64 d32, [.slice a16 l16.length c16]] ∧ OwnS k_S_baizeref47_Held g (t + 16) 60 a16 l16.length c16 l16⟩, ⟨some 5, [], [5], fun l g => l.getD 0 undef = .bool false⟩] [[], [], [], [], [0, 1], []] [(t + 16), (t + 11)] [0, 1, 2] [8, 10, 11, 12] (by kernel_rfl) (by simp <;> omega) (by simp <;> omega) ⟨fun _ _ _ _ st h0 hl hj hB2 => (hB2.mono st (fun h => absurd (hl _ h) (by simp <;> omega))), fun _ _ _ _ st h0 hl hj hR11 => (RdS.mono (e := 56) hR11 st h0), fun _ _ _ _ st h0 hl hj hB4 => (hB4.mono st (fun h => absurd (hl _ h) (by simp <;> omega))), fun _ _ _ _ st h0 hl hj hR12 => (hR12.mono st h0 (hj 1 (by simp) _ rfl)), fun _ _ _ _ st h0 hl hj e0 => e0, fun _ _ _ _ st h0 hl hj e1 => e1, fun _ _ _ _ st h0 hl hj ⟨a16, c16, e2, hR16⟩ => ⟨a16, c16, e2, (hR16.mono st h0 (hj 0 (by simp) _ rfl))⟩, fun _ _ _ _ st h0 hl hj e3 => e3, fun _ _ _ _ st h0 hl hj e4 => e4, fun _ _ _ _ st h0 hl hj hR12 => (hR12.mono st h0 (hj 1 (by simp) _ rfl)), fun _ _ _ _ st h0 hl hj ⟨a16, c16, e2, hR16⟩ => ⟨a16, c16, e2, (hR16.mono st h0 (hj 0 (by simp) _ rfl))⟩, fun _ _ _ _ st h0 hl hj e5 => e5, tv⟩ ⟨hB2, hR11, hB4, hR12, tv, tv, tv, tv, tv, tv, tv, tv, tv⟩ (by kernel_rfl) (fun vs => by kernel_rfl) ?_ ?_ ?_
   ·intro j hj
    have hq : j = 0 ∨ j = 1 ∨ j = 2 ∨ j = 3 := by have h : j < 4 := hj; omega
    rcases hq with rfl | rfl | rfl | rfl
    ·intro vs gq stq hl hf
     obtain ⟨v0, v1, v2, v3, v4, v5, rfl⟩ := len_k6 hl
     have e0 := (show v0 = .bool true from hf _ (memI 4 rfl) (by kernel_rfl))
     subst e0
     have e4 := (show v4 = .bool q8 from hf _ (memI 8 rfl) (by kernel_rfl))
     subst e4
     show Option.isSome _ = true
     kernel_rfl
    ·intro vs gq stq hl hf
     obtain ⟨v0, v1, v2, v3, v4, v5, rfl⟩ := len_k6 hl
     have e5 := (show v5 = .bool false from hf _ (memI 11 rfl) (by kernel_rfl))
     subst e5
     show Option.isSome _ = true
     kernel_rfl
    ·intro vs gq stq hl hf
     obtain ⟨v0, v1, v2, v3, v4, v5, rfl⟩ := len_k6 hl
     have e5 := (show v5 = .bool false from hf _ (memI 11 rfl) (by kernel_rfl))
     subst e5
     show Option.isSome _ = true
     kernel_rfl
    ·intro vs gq stq hl hf
     obtain ⟨v0, v1, v2, v3, v4, v5, rfl⟩ := len_k6 hl
     have e5 := (show v5 = .bool false from hf _ (memI 11 rfl) (by kernel_rfl))
     subst e5
     show Option.isSome _ = true
     kernel_rfl
   ·intro j hj
    have hq : j = 0 ∨ j = 1 ∨ j = 2 ∨ j = 3 ∨ j = 4 ∨ j = 5 := by have h : j < 6 := hj; omega
    rcases hq with rfl | rfl | rfl | rfl | rfl | rfl
    ·intro vs gq stq hl hf
     obtain ⟨v0, v1, v2, v3, v4, v5, rfl⟩ := len_k6 hl
     refine WP.stl 1 ?_
     refine WP.dn (Shown.ok (v := .bool (x10 == x12)) (by kernel_rfl) (Step.refl _ _) ?_)
     exact ⟨tv, tv, tv, tv, congrArg Value.bool h15, tv, tv, tv, tv, tv, tv, tv, tv⟩
    ·intro vs gq stq hl hf
     obtain ⟨v0, v1, v2, v3, v4, v5, rfl⟩ := len_k6 hl
     have hB2 := (show Box gq (t + 10) b2 32 [encA .u8 d21, [.int .i64 x9], encA .i64 d22, [.slice a11 n11 c11]] [8, 1, 2, 1] from hf _ (memI 0 rfl) (by kernel_rfl))
     have e0 := (show v0 = .bool true from hf _ (memI 4 rfl) (by kernel_rfl))
     subst e0
     refine WP.loadB (v := AG [encA .u8 d21, [.int .i64 x9], encA .i64 d22, [.slice a11 n11 c11]]) hB2 (by kernel_rfl) (by kernel_rfl) ?_
     refine WP.dn (Shown.ok (v := AG [encA .u8 d21, [.int .i64 x9], encA .i64 d22, [.slice a11 n11 c11]]) (by kernel_rfl) (Step.refl _ _) ?_)
     exact ⟨tv, tv, tv, tv, tv, rfl, tv, tv, tv, tv, tv, tv, tv⟩
    ·intro vs gq stq hl hf
     obtain ⟨v0, v1, v2, v3, v4, v5, rfl⟩ := len_k6 hl
     have hR11 := (show RdS k_S_purse_Held gq 56 a11 n11 c11 l11 from hf _ (memI 1 rfl) (by kernel_rfl))
     have e0 := (show v0 = .bool true from hf _ (memI 4 rfl) (by kernel_rfl))
     subst e0
     have e1 := (show v1 = AG [encA .u8 d21, [.int .i64 x9], encA .i64 d22, [.slice a11 n11 c11]] from hf _ (memI 5 rfl) (by kernel_rfl))
     subst e1
     have hcal27 := P.baizelaw47_Back gq (t + 16) d21 x9 d22 l11 a11 n11 c11 hR11 d31 x16 d32 l16 hk27
     refine WP.callC hcal27 (by kernel_rfl) ?_
     rintro _ g40 st40 ⟨a16, n16, c16, rfl, hR16⟩
     obtain rfl := hR16.len
     refine WP.dn (Shown.o (v := AG [encA .u8 d31, [.int .i64 x16], encA .i64 d32, [.slice a16 l16.length c16]]) st40.pure ?_)
     exact ⟨tv, tv, tv, tv, tv, tv, ⟨a16, c16, rfl, hR16⟩, tv, tv, tv, tv, tv, tv⟩
    ·intro vs gq stq hl hf
     obtain ⟨v0, v1, v2, v3, v4, v5, rfl⟩ := len_k6 hl
     have hB4 := (show Box gq (t + 12) b3 26 [encA .u8 d23, [.int .i64 x11], encA .i64 d24, [.slice a12 n12 c12]] [8, 1, 2, 1] from hf _ (memI 2 rfl) (by kernel_rfl))
     have e0 := (show v0 = .bool true from hf _ (memI 4 rfl) (by kernel_rfl))
     subst e0
     refine WP.loadB (v := AG [encA .u8 d23, [.int .i64 x11], encA .i64 d24, [.slice a12 n12 c12]]) hB4 (by kernel_rfl) (by kernel_rfl) ?_
     refine WP.dn (Shown.ok (v := AG [encA .u8 d23, [.int .i64 x11], encA .i64 d24, [.slice a12 n12 c12]]) (by kernel_rfl) (Step.refl _ _) ?_)
     exact ⟨tv, tv, tv, tv, tv, tv, tv, rfl, tv, tv, tv, tv, tv⟩
    ·intro vs gq stq hl hf
     obtain ⟨v0, v1, v2, v3, v4, v5, rfl⟩ := len_k6 hl
     have hR12 := (show OwnS k_S_baizeref47_Held gq (t + 11) 60 a12 n12 c12 l12 from hf _ (memI 3 rfl) (by kernel_rfl))
     have e0 := (show v0 = .bool true from hf _ (memI 4 rfl) (by kernel_rfl))
     subst e0
     obtain ⟨a16, c16, e2, hR16⟩ := (show ∃ (a16 : Option Addr) (c16 : Nat), v2 = AG [encA .u8 d31, [.int .i64 x16], encA .i64 d32, [.slice a16 l16.length c16]] ∧ OwnS k_S_baizeref47_Held gq (t + 16) 60 a16 l16.length c16 l16 from hf _ (memI 6 rfl) (by kernel_rfl))
     subst e2
     have e3 := (show v3 = AG [encA .u8 d23, [.int .i64 x11], encA .i64 d24, [.slice a12 n12 c12]] from hf _ (memI 7 rfl) (by kernel_rfl))
     subst e3
     have hS6 : 0 ∉ ([(t + 16), (t + 11)] : List Nat) := by simp <;> omega
     have stl6 := GW.lend_step gq [(t + 16), (t + 11)]
     have hRl7 := hR16.lendTo hS6 (by simp)
     have hRl8 := hR12.lendTo hS6 (by simp)
     refine WP.regw (g' := GW.lend gq [(t + 16), (t + 11)]) rfl ?_
     have hcal28 := P.baizeref47_Same (GW.lend gq [(t + 16), (t + 11)]) d31 x16 d32 l16 d23 x11 d24 l12 a16 l16.length c16 a12 n12 c12 hRl7 hRl8 q8 hk28
     refine WP.callC hcal28 (by kernel_rfl) ?_
     rintro _ g41 st41 rfl
     have st42 := (GW.back_step st41).lentS
     have hO7 := hR16.backTo hS6 (by simp) st41 (fun x => x)
     have hO8 := hR12.backTo hS6 (by simp) st41 (fun x => x)
     refine WP.regw (g' := GW.back gq g41 [(t + 16), (t + 11)]) rfl ?_
     generalize GW.back gq g41 [(t + 16), (t + 11)] = g42 at *
     refine WP.dn (Shown.o (v := .bool q8) st42 ?_)
     exact ⟨tv, tv, tv, tv, tv, tv, tv, tv, rfl, hO8, ⟨a16, c16, rfl, hO7⟩, tv, tv⟩
    ·intro vs gq stq hl hf
     obtain ⟨v0, v1, v2, v3, v4, v5, rfl⟩ := len_k6 hl
     have e0 := (show v0 = .bool true from hf _ (memI 4 rfl) (by kernel_rfl))
     subst e0
     have e4 := (show v4 = .bool q8 from hf _ (memI 8 rfl) (by kernel_rfl))
     subst e4
     refine WP.stl 1 ?_
     refine WP.dn (Shown.ok (v := .bool q8) (by kernel_rfl) (Step.refl _ _) ?_)
     exact ⟨tv, tv, tv, tv, tv, tv, tv, tv, tv, tv, tv, congrArg Value.bool h16, tv⟩
   intro vs g45 st45 hl hf
   obtain ⟨v0, v1, v2, v3, v4, v5, rfl⟩ := len_k6 hl
   have e5 := (show v5 = .bool false from hf _ (memI 11 rfl) (by kernel_rfl))
   subst e5
   replace tot := tot.trans (st45.up2 (.inr (by omega)) (.inr (by omega)))
   refine NX.post ?_
   exact ⟨false, ⟨by kernel_rfl, by kernel_rfl⟩, tot, hs⟩
  replace hs := of_if_f hs h15
  refine CP.drawL (by kernel_rfl) [3] N.baizelaw47_PurseTells_0 [⟨some 0, [], [0], fun l g => l.getD 0 undef = .bool false⟩] [[]] [] [0, 1, 2] [4, 5, 6, 7, 8, 9, 10, 11, 12] (by kernel_rfl) (by simp) (by simp) ⟨fun _ _ _ _ st h0 hl hj e0 => e0, tv⟩ ⟨tv, tv⟩ (by kernel_rfl) (fun vs => by kernel_rfl) ?_ ?_ ?_
  ·intro j hj
   have hq : j = 0 ∨ j = 1 ∨ j = 2 ∨ j = 3 ∨ j = 4 ∨ j = 5 ∨ j = 6 ∨ j = 7 ∨ j = 8 := by have h : j < 9 := hj; omega
   rcases hq with rfl | rfl | rfl | rfl | rfl | rfl | rfl | rfl | rfl
   ·intro vs gq stq hl hf
    obtain ⟨v0, rfl⟩ := len_k1 hl
    have e0 := (show v0 = .bool false from hf _ (memI 0 rfl) (by kernel_rfl))
    subst e0
    show Option.isSome _ = true
    kernel_rfl
   ·intro vs gq stq hl hf
    obtain ⟨v0, rfl⟩ := len_k1 hl
    have e0 := (show v0 = .bool false from hf _ (memI 0 rfl) (by kernel_rfl))
    subst e0
    show Option.isSome _ = true
    kernel_rfl
   ·intro vs gq stq hl hf
    obtain ⟨v0, rfl⟩ := len_k1 hl
    have e0 := (show v0 = .bool false from hf _ (memI 0 rfl) (by kernel_rfl))
    subst e0
    show Option.isSome _ = true
    kernel_rfl
   ·intro vs gq stq hl hf
    obtain ⟨v0, rfl⟩ := len_k1 hl
    have e0 := (show v0 = .bool false from hf _ (memI 0 rfl) (by kernel_rfl))
    subst e0
    show Option.isSome _ = true
    kernel_rfl
   ·intro vs gq stq hl hf
    obtain ⟨v0, rfl⟩ := len_k1 hl
    have e0 := (show v0 = .bool false from hf _ (memI 0 rfl) (by kernel_rfl))
    subst e0
    show Option.isSome _ = true
    kernel_rfl
   ·intro vs gq stq hl hf
    obtain ⟨v0, rfl⟩ := len_k1 hl
    have e0 := (show v0 = .bool false from hf _ (memI 0 rfl) (by kernel_rfl))
    subst e0
    show Option.isSome _ = true
    kernel_rfl
   ·intro vs gq stq hl hf
    obtain ⟨v0, rfl⟩ := len_k1 hl
    have e0 := (show v0 = .bool false from hf _ (memI 0 rfl) (by kernel_rfl))
    subst e0
    show Option.isSome _ = true
    kernel_rfl
   ·intro vs gq stq hl hf
    obtain ⟨v0, rfl⟩ := len_k1 hl
    have e0 := (show v0 = .bool false from hf _ (memI 0 rfl) (by kernel_rfl))
    subst e0
    show Option.isSome _ = true
    kernel_rfl
   ·intro vs gq stq hl hf
    obtain ⟨v0, rfl⟩ := len_k1 hl
    have e0 := (show v0 = .bool false from hf _ (memI 0 rfl) (by kernel_rfl))
    subst e0
    show Option.isSome _ = true
    kernel_rfl
  ·intro j hj
   have hq : j = 0 := by have h : j < 1 := hj; omega
   rcases hq with rfl
   ·intro vs gq stq hl hf
    obtain ⟨v0, rfl⟩ := len_k1 hl
    refine WP.stl 1 ?_
    refine WP.dn (Shown.ok (v := .bool (x10 == x12)) (by kernel_rfl) (Step.refl _ _) ?_)
    exact ⟨congrArg Value.bool h15, tv⟩
  intro vs g46 st46 hl hf
  obtain ⟨v0, rfl⟩ := len_k1 hl
  have e0 := (show v0 = .bool false from hf _ (memI 0 rfl) (by kernel_rfl))
  subst e0
  replace tot := tot.trans st46.toNo.pure
  refine NX.post ?_
  exact ⟨false, ⟨by kernel_rfl, by kernel_rfl⟩, tot, hs⟩
 clear tot hs hB2 hR11 hB4 hR12
 rintro tm g ⟨q7, hF, tot, hs⟩
 clear ds
 obtain ⟨ds, rfl⟩ := hF.open
 clear hF
 unfold F.baizelaw47_PurseTells.c3 at hs
 refine CP.ret ?_
 replace hs := Option.some.inj hs
 obtain rfl := hs
 exact NX.fin (v := .bool q7) (Res.still (by kernel_rfl)) tot htL rfl
end Go.Proofs.Yticlfbpmfejdoaa
