/-
  Walks, written by program: each Go function computes the plain function of its name, in whatever world its arguments' facts hold.
-/
import Derived.Test.YthfmgobnanifnaaWSb3
namespace Go.Proofs.Ythfmgobnanifnaa
open Go.RowKit Go.Lab
attribute [local irreducible] WP CP NX wpList Code.wp Calls
set_option maxRecDepth 100000
set_option maxHeartbeats 4000000
set_option linter.unusedVariables false

def F.baizelaw32_StateBytes.c1 (q3 : Bool) : Option (Bool) := (some q3)
def F.baizelaw32_StateBytes.c2 (q8 : Bool) : Option (Bool) := (some q8)
def N.baizelaw32_StateBytes_0 : List (List Nat) := [[], [0], [0, 1], [0, 1, 2], [0, 1, 2, 3], [0, 1, 2, 3, 4], [0, 1, 2, 3, 4, 5], [0, 1, 2, 3, 4, 5, 6], [0, 1, 2, 3, 4, 5], [0, 1, 2, 3, 4, 5, 8], [0, 1, 2, 3, 4, 5, 8, 9], [0, 1, 2, 3, 4, 5, 6, 7, 8, 9, 10], [0, 1, 2, 3, 4, 5, 6, 7, 8, 9, 10, 11], [0, 1, 2, 3, 4, 5, 6, 7, 8, 9, 10, 11, 12], [0, 1, 2, 3, 4, 5, 6, 7, 8, 9, 10, 11, 12, 13], [0, 1, 2, 3, 4, 5, 6, 7, 8, 9, 10, 11, 12, 13, 14], [0, 1, 2, 3, 4, 5, 6, 7, 8, 9, 10, 11, 12, 13, 14, 15], [0, 1, 2, 3, 4, 5, 6, 7, 8, 9, 10, 11, 12, 13, 14, 15, 16], [0, 1, 2, 3, 4, 5, 6, 7, 8, 9, 10, 11, 12, 13, 14, 15, 16, 17], [0, 1, 2, 3, 4, 5, 6, 7, 8, 9, 10, 11, 12, 13, 14, 15, 16, 17], [0, 1, 2, 3, 4, 5, 6, 7, 8, 9, 10, 11, 12, 13, 14, 15, 16, 17, 18, 19], [0, 1, 2, 3, 4, 5, 6, 7, 8, 9, 10, 11, 12, 13, 14, 15, 16, 17, 18, 19, 20], [0, 1, 2, 3, 4, 5, 6, 7, 8, 9, 10, 11, 12, 13, 14, 15, 16, 17, 18, 19, 20, 21], [0, 1, 2, 3, 4, 5, 6, 7, 8, 9, 10, 11, 12, 13, 14, 15, 16, 17, 18, 19, 20, 21, 22], [0, 1, 2, 3, 4, 5, 6, 7, 8, 9, 10, 11, 12, 13, 14, 15, 16, 17, 18, 19, 20, 21, 22], [0, 1, 2, 3, 4, 5, 6, 7, 8, 9, 10, 11, 12, 13, 14, 15, 16, 17, 18, 19, 20, 21, 22, 23, 24], [0, 1, 2, 3, 4, 5, 6, 7, 8, 9, 10, 11, 12, 13, 14, 15, 16, 17, 18, 19, 20, 21, 22, 23, 24, 25], [0, 1, 2, 3, 4, 5, 6, 7, 8, 9, 10, 11, 12, 13, 14, 15, 16, 17, 18, 19, 20, 21, 22, 23, 24, 25, 26]]
def F.baizelaw32_StateBytes (d1 : Arr Int 8) (x1 : Int) (l1 : List Int) (l2 : List (List Int)) : Option (Bool) := ((F.baizelaw32_plain d1 x1 l1 l2).bind fun (d2, x2, l3, l4, d3, x3, l5, l6) => ((F.state_Signed_Encode d2 x2 l3 l4).bind fun (l7, x4) => ((F.baizeref32_Right d3 x3 l5 l6).bind fun q1 => (if (!q1) = true then ((F.baizelaw32_told).bind fun q4 => (if q4 = true then (if ((l7.length : Int) == 0) = true then (F.baizelaw32_StateBytes.c1 (x4 == 2)) else (F.baizelaw32_StateBytes.c1 false)) else (F.baizelaw32_StateBytes.c1 false))) else ((F.state_Decode l7).bind fun (d4, x5, l8, l9, x6) => ((F.baizelaw32_plain d4 x5 l8 l9).bind fun (d5, x7, l10, l11, d6, x8, l12, l13) => ((F.baizelaw32_told).bind fun q9 => (if q9 = true then (if (x4 == 0) = true then ((F.baizeref32_Encode d3 x3 l5 l6).bind fun l15 => (if ((bytesStr l7).toList == (bytesStr l15).toList) = true then (if (x6 == 0) = true then ((F.baizeref32_Same d6 x8 l12 l13 d3 x3 l5 l6).bind fun q10 => (if q10 = true then ((F.state_Signed_Same d4 x5 l8 l9 d2 x2 l3 l4).bind fun q11 => (F.baizelaw32_StateBytes.c2 q11)) else (F.baizelaw32_StateBytes.c2 false))) else (F.baizelaw32_StateBytes.c2 false)) else (F.baizelaw32_StateBytes.c2 false))) else (F.baizelaw32_StateBytes.c2 false)) else (F.baizelaw32_StateBytes.c2 false)))))))))
theorem P.baizelaw32_StateBytes (g0 : GW) (d1 : Arr Int 8) (x1 : Int) (l1 : List Int) (l2 : List (List Int)) (a1 : Option Addr) (n1 : Nat) (c1 : Nat) (a2 : Option Addr) (n2 : Nat) (c2 : Nat) (hR1 : RdS (Kd.int .u8) g0 5 a1 n1 c1 l1) (hR2 : RdS (Kd.slice 5 (Kd.int .u8)) g0 24 a2 n2 c2 l2) (o1 : Bool) (hs : F.baizelaw32_StateBytes d1 x1 l1 l2 = some o1) :
  Calls Try.prog 9 #[AG [encA .u8 d1, [.int .i64 x1], [.slice a1 n1 c1], [.slice a2 n2 c2]]] g0.w (Ret NoM g0 fun v g => v = .bool o1) := by
 refine calls_of (args := [AG [encA .u8 d1, [.int .i64 x1], [.slice a1 n1 c1], [.slice a2 n2 c2]]]) Try.func9 rfl (0) ?_
 intro t ht htL
 refine ⟨_, rfl, ?_⟩
 refine CP.refr 71 [(0, AG [encA .u8 d1, [.int .i64 x1], [.slice a1 n1 c1], [.slice a2 n2 c2]])] (by kernel_rfl) (by kernel_rfl) ?_
 intro ds
 have tot : Step (fun l => NoM l ∨ t ≤ l) g0 g0 := Step.refl _ _
 unfold F.baizelaw32_StateBytes at hs
 refine CP.seqR ?_
 refine WP.alloc (T := 61) (t + 1) [encA .u8 d1, [.int .i64 x1], [.slice a1 n1 c1], [.slice a2 n2 c2]] [8, 1, 1, 1] (by kernel_rfl) (by simp [len_encA]) ?_
 intro g1 b1 st1 hB1
 replace hR1 := hR1.mono st1 (fun x => x)
 replace hR2 := hR2.mono st1 (fun x => x)
 replace tot := tot.trans st1.pure
 refine WP.stl 1 ?_
 refine WP.dn ?_
 refine NX.then_n ?_
 refine CP.seqR ?_
 refine WP.loadB (v := AG [encA .u8 d1, [.int .i64 x1], [.slice a1 n1 c1], [.slice a2 n2 c2]]) hB1 (by kernel_rfl) (by kernel_rfl) ?_
 replace hs := Option.bind_eq_some_iff.1 hs
 obtain ⟨⟨d2, x2, l3, l4, d3, x3, l5, l6⟩, hk1, hs⟩ := hs
 dsimp only at hs
 have hcal1 := P.baizelaw32_plain g1 d1 x1 l1 l2 a1 n1 c1 a2 n2 c2 hR1 hR2 d2 x2 l3 l4 d3 x3 l5 l6 hk1
 refine WP.callC hcal1 (by kernel_rfl) ?_
 rintro _ g2 st2 ⟨a3, n3, c3, a4, n4, c4, a5, n5, c5, a6, n6, c6, rfl, hR3, hR4, hR5, hR6⟩
 replace hB1 := hB1.mono st2 (fun x => x)
 replace hR1 := hR1.mono st2 (fun x => x)
 replace hR2 := hR2.mono st2 (fun x => x)
 replace tot := tot.trans st2.pure
 refine WP.stl 3 ?_
 refine WP.alloc (T := 61) (t + 2) [encA .u8 (zA 8), [.int .i64 0], [.slice none 0 0], [.slice none 0 0]] [8, 1, 1, 1] (by kernel_rfl) (by simp [len_encA]) ?_
 intro g3 b2 st3 hB2
 replace hB1 := hB1.mono st3 (fun x => x)
 replace hR1 := hR1.mono st3 (fun x => x)
 replace hR2 := hR2.mono st3 (fun x => x)
 replace hR3 := hR3.mono st3 (fun x => x)
 replace hR4 := hR4.mono st3 (fun x => x)
 replace hR5 := hR5.mono st3 (fun x => x)
 replace hR6 := hR6.mono st3 (fun x => x)
 replace tot := tot.trans st3.pure
 refine WP.alloc (T := 65) (t + 3) [encA .u8 (zA 8), [.int .i64 0], [.slice none 0 0], [.slice none 0 0]] [8, 1, 1, 1] (by kernel_rfl) (by simp [len_encA]) ?_
 intro g4 b3 st4 hB3
 replace hB1 := hB1.mono st4 (fun x => x)
 replace hR1 := hR1.mono st4 (fun x => x)
 replace hR2 := hR2.mono st4 (fun x => x)
 replace hR3 := hR3.mono st4 (fun x => x)
 replace hR4 := hR4.mono st4 (fun x => x)
 replace hR5 := hR5.mono st4 (fun x => x)
 replace hR6 := hR6.mono st4 (fun x => x)
 replace hB2 := hB2.mono st4 (fun x => x)
 replace tot := tot.trans st4.pure
 refine WP.storeB (ty := 61) (off := 0) (v := AG [encA .u8 d2, [.int .i64 x2], [.slice a3 n3 c3], [.slice a4 n4 c4]]) hB2 [encA .u8 d2, [.int .i64 x2], [.slice a3 n3 c3], [.slice a4 n4 c4]] [8, 1, 1, 1] (by kernel_rfl) (by kernel_rfl) (by simp [len_encA]) (by kernel_rfl) [encA .u8 d2, [.int .i64 x2], [.slice a3 n3 c3], [.slice a4 n4 c4]] (by kernel_rfl) (.arr (.one rfl (.one rfl (.one rfl .nil)))) ?_
 intro g5 st5 hB4
 replace hB1 := hB1.mono st5 (WL.no1 (by omega))
 replace hR1 := hR1.mono st5 (WL.no1 (by omega))
 replace hR2 := hR2.mono st5 (WL.no1 (by omega))
 replace hR3 := hR3.mono st5 (WL.no1 (by omega))
 replace hR4 := hR4.mono st5 (WL.no1 (by omega))
 replace hR5 := hR5.mono st5 (WL.no1 (by omega))
 replace hR6 := hR6.mono st5 (WL.no1 (by omega))
 replace hB3 := hB3.mono st5 (WL.no1 (by omega))
 replace tot := tot.trans (st5.up1 (.inr (by omega)))
 clear hB2
 have hB2 := hB4
 clear hB4
 refine WP.storeB (ty := 65) (off := 0) (v := AG [encA .u8 d3, [.int .i64 x3], [.slice a5 n5 c5], [.slice a6 n6 c6]]) hB3 [encA .u8 d3, [.int .i64 x3], [.slice a5 n5 c5], [.slice a6 n6 c6]] [8, 1, 1, 1] (by kernel_rfl) (by kernel_rfl) (by simp [len_encA]) (by kernel_rfl) [encA .u8 d3, [.int .i64 x3], [.slice a5 n5 c5], [.slice a6 n6 c6]] (by kernel_rfl) (.arr (.one rfl (.one rfl (.one rfl .nil)))) ?_
 intro g6 st6 hB5
 replace hB1 := hB1.mono st6 (WL.no1 (by omega))
 replace hR1 := hR1.mono st6 (WL.no1 (by omega))
 replace hR2 := hR2.mono st6 (WL.no1 (by omega))
 replace hR3 := hR3.mono st6 (WL.no1 (by omega))
 replace hR4 := hR4.mono st6 (WL.no1 (by omega))
 replace hR5 := hR5.mono st6 (WL.no1 (by omega))
 replace hR6 := hR6.mono st6 (WL.no1 (by omega))
 replace hB2 := hB2.mono st6 (WL.no1 (by omega))
 replace tot := tot.trans (st6.up1 (.inr (by omega)))
 clear hB3
 have hB3 := hB5
 clear hB5
 refine WP.dn ?_
 refine NX.then_n ?_
 refine CP.seqR ?_
 refine WP.loadB (v := AG [encA .u8 d2, [.int .i64 x2], [.slice a3 n3 c3], [.slice a4 n4 c4]]) hB2 (by kernel_rfl) (by kernel_rfl) ?_
 replace hs := Option.bind_eq_some_iff.1 hs
 obtain ⟨⟨l7, x4⟩, hk2, hs⟩ := hs
 dsimp only at hs
 have hcal2 := P.state_Signed_Encode g6 (t + 4) d2 x2 l3 l4 a3 n3 c3 a4 n4 c4 hR3 hR4 l7 x4 hk2
 refine WP.callC hcal2 (by kernel_rfl) ?_
 rintro _ g7 st7 ⟨a7, n7, c7, rfl, hR7⟩
 replace hB2 := hB2.mono st7 (fun x => x)
 replace hR3 := hR3.mono st7 (fun x => x)
 replace hR4 := hR4.mono st7 (fun x => x)
 replace hB3 := hB3.mono st7 (fun x => x)
 replace hR5 := hR5.mono st7 (fun x => x)
 replace hR6 := hR6.mono st7 (fun x => x)
 replace tot := tot.trans st7.pure
 refine WP.stl 5 ?_
 refine WP.dn ?_
 refine NX.then_n ?_
 refine CP.refr 71 [(3, .pointer (some ⟨b2, 0, none⟩)), (4, .pointer (some ⟨b3, 0, none⟩)), (5, .slice a7 n7 c7), (6, .int .i64 x4)] (by kernel_rfl) (by kernel_rfl) ?_
 clear ds
 intro ds
 refine CP.seq ?_
 refine CP.seqR ?_
 refine WP.loadB (v := AG [encA .u8 d3, [.int .i64 x3], [.slice a5 n5 c5], [.slice a6 n6 c6]]) hB3 (by kernel_rfl) (by kernel_rfl) ?_
 replace hs := Option.bind_eq_some_iff.1 hs
 obtain ⟨q1, hk3, hs⟩ := hs
 have hcal3 := P.baizeref32_Right g7 d3 x3 l5 l6 a5 n5 c5 a6 n6 c6 hR5 hR6 q1 hk3
 refine WP.callC hcal3 (by kernel_rfl) ?_
 rintro _ g8 st8 rfl
 replace hB2 := hB2.mono st8 (fun x => x)
 replace hR3 := hR3.mono st8 (fun x => x)
 replace hR4 := hR4.mono st8 (fun x => x)
 replace hB3 := hB3.mono st8 (fun x => x)
 replace hR5 := hR5.mono st8 (fun x => x)
 replace hR6 := hR6.mono st8 (fun x => x)
 replace hR7 := hR7.mono st8 (fun x => x) (fun x => x)
 replace tot := tot.trans st8.pure
 refine WP.stl 1 ?_
 refine WP.dn ?_
 refine NX.then_n ?_
 refine CP.cond (b := (!q1)) (by kernel_rfl) (fun h1 => ?_) (fun h1 => ?_)
 ·replace hs := of_if_t hs h1
  refine CP.cut (fun tm g => ∃ (q3 : Bool), Fr 71 [(2, .bool q3)] tm ∧ Step (fun l => NoM l ∨ t ≤ l) g0 g ∧ (F.baizelaw32_StateBytes.c1 q3) = some o1) ?_ ?_
  ·refine CP.region ?_
   replace hs := Option.bind_eq_some_iff.1 hs
   obtain ⟨q4, hk5, hs⟩ := hs
   have hcal5 := P.baizelaw32_told g8 q4 hk5
   refine WP.callC hcal5 (by kernel_rfl) ?_
   rintro _ g10 st10 rfl
   replace hB2 := hB2.mono st10 (fun x => x)
   replace hR3 := hR3.mono st10 (fun x => x)
   replace hR4 := hR4.mono st10 (fun x => x)
   replace hB3 := hB3.mono st10 (fun x => x)
   replace hR5 := hR5.mono st10 (fun x => x)
   replace hR6 := hR6.mono st10 (fun x => x)
   replace hR7 := hR7.mono st10 (fun x => x) (fun x => x)
   replace tot := tot.trans st10.pure
   refine WP.stl 1 ?_
   refine WP.guard 25 (b := q4) (by kernel_rfl) (fun h4 => ?_) (fun h4 => ?_)
   ·replace hs := of_if_t hs h4
    refine WP.stl 1 ?_
    refine WP.len (a := a7) (cp := c7) hR7.len (by kernel_rfl) ?_
    refine WP.stl 3 ?_
    refine WP.guard 30 (b := ((l7.length : Int) == 0)) (by kernel_rfl) (fun h5 => ?_) (fun h5 => ?_)
    ·replace hs := of_if_t hs h5
     refine WP.stl 4 ?_
     refine WP.dn ?_
     refine NX.post ?_
     exact ⟨(x4 == 2), ⟨by kernel_rfl, by kernel_rfl⟩, tot, hs⟩
    replace hs := of_if_f hs h5
    refine WP.stl 4 ?_
    refine WP.dn ?_
    refine NX.post ?_
    exact ⟨false, ⟨by kernel_rfl, by kernel_rfl⟩, tot, hs⟩
   replace hs := of_if_f hs h4
   refine WP.stl 9 ?_
   refine WP.dn ?_
   refine NX.post ?_
   exact ⟨false, ⟨by kernel_rfl, by kernel_rfl⟩, tot, hs⟩
  clear tot hs hB2 hR3 hR4 hB3 hR5 hR6 hR7
  rintro tm g ⟨q3, hF, tot, hs⟩
  clear ds
  obtain ⟨ds, rfl⟩ := hF.open
  clear hF
  unfold F.baizelaw32_StateBytes.c1 at hs
  refine CP.ret ?_
  refine NX.then_r ?_
  replace hs := Option.some.inj hs
  obtain rfl := hs
  exact NX.fin (v := .bool q3) (Res.still (by kernel_rfl)) tot htL rfl
 replace hs := of_if_f hs h1
 refine CP.skip ?_
 refine NX.then_n ?_
 refine CP.seqR ?_
 refine WP.stl 1 ?_
 replace hs := Option.bind_eq_some_iff.1 hs
 obtain ⟨⟨d4, x5, l8, l9, x6⟩, hk6, hs⟩ := hs
 dsimp only at hs
 obtain ⟨g12, hw1, st12, hnew⟩ := hR7.freeze (by omega)
 refine WP.regw hw1 ?_
 replace hB2 := hB2.mono st12 (WL.no1 (by omega))
 replace hR3 := hR3.mono st12 (WL.no1 (by omega))
 replace hR4 := hR4.mono st12 (WL.no1 (by omega))
 replace hB3 := hB3.mono st12 (WL.no1 (by omega))
 replace hR5 := hR5.mono st12 (WL.no1 (by omega))
 replace hR6 := hR6.mono st12 (WL.no1 (by omega))
 replace tot := tot.trans (st12.up1 (.inr (by omega)))
 clear hR7
 have hR7 := hnew
 clear hnew
 have hcal6 := P.state_Decode g12 (t + 5) (t + 6) l7 a7 n7 c7 hR7 d4 x5 l8 l9 x6 hk6
 refine WP.callC hcal6 (by kernel_rfl) ?_
 rintro _ g11 st11 ⟨a8, n8, c8, a9, n9, c9, rfl, hR8, hR9⟩
 replace hB2 := hB2.mono st11 (fun x => x)
 replace hR3 := hR3.mono st11 (fun x => x)
 replace hR4 := hR4.mono st11 (fun x => x)
 replace hB3 := hB3.mono st11 (fun x => x)
 replace hR5 := hR5.mono st11 (fun x => x)
 replace hR6 := hR6.mono st11 (fun x => x)
 replace hR7 := hR7.mono st11 (fun x => x)
 replace tot := tot.trans st11.pure
 refine WP.stl 3 ?_
 refine WP.alloc (T := 61) (t + 7) [encA .u8 (zA 8), [.int .i64 0], [.slice none 0 0], [.slice none 0 0]] [8, 1, 1, 1] (by kernel_rfl) (by simp [len_encA]) ?_
 intro g13 b4 st13 hB6
 replace hB2 := hB2.mono st13 (fun x => x)
 replace hR3 := hR3.mono st13 (fun x => x)
 replace hR4 := hR4.mono st13 (fun x => x)
 replace hB3 := hB3.mono st13 (fun x => x)
 replace hR5 := hR5.mono st13 (fun x => x)
 replace hR6 := hR6.mono st13 (fun x => x)
 replace hR7 := hR7.mono st13 (fun x => x)
 replace hR8 := hR8.mono st13 (fun x => x) (fun x => x)
 replace hR9 := hR9.mono st13 (fun x => x) (fun x => x)
 replace tot := tot.trans st13.pure
 refine WP.storeB (ty := 61) (off := 0) (v := AG [encA .u8 d4, [.int .i64 x5], [.slice a8 n8 c8], [.slice a9 n9 c9]]) hB6 [encA .u8 d4, [.int .i64 x5], [.slice a8 n8 c8], [.slice a9 n9 c9]] [8, 1, 1, 1] (by kernel_rfl) (by kernel_rfl) (by simp [len_encA]) (by kernel_rfl) [encA .u8 d4, [.int .i64 x5], [.slice a8 n8 c8], [.slice a9 n9 c9]] (by kernel_rfl) (.arr (.one rfl (.one rfl (.one rfl .nil)))) ?_
 intro g14 st14 hB7
 replace hB2 := hB2.mono st14 (WL.no1 (by omega))
 replace hR3 := hR3.mono st14 (WL.no1 (by omega))
 replace hR4 := hR4.mono st14 (WL.no1 (by omega))
 replace hB3 := hB3.mono st14 (WL.no1 (by omega))
 replace hR5 := hR5.mono st14 (WL.no1 (by omega))
 replace hR6 := hR6.mono st14 (WL.no1 (by omega))
 replace hR7 := hR7.mono st14 (WL.no1 (by omega))
 replace hR8 := hR8.mono st14 (WL.no1 (by omega)) (WL.no1 (by omega))
 replace hR9 := hR9.mono st14 (WL.no1 (by omega)) (WL.no1 (by omega))
 replace tot := tot.trans (st14.up1 (.inr (by omega)))
 clear hB6
 have hB6 := hB7
 clear hB7
 refine WP.stl 1 ?_
 refine WP.dn ?_
 refine NX.then_n ?_
 refine CP.seqR ?_
 refine WP.loadB (v := AG [encA .u8 d4, [.int .i64 x5], [.slice a8 n8 c8], [.slice a9 n9 c9]]) hB6 (by kernel_rfl) (by kernel_rfl) ?_
 replace hs := Option.bind_eq_some_iff.1 hs
 obtain ⟨⟨d5, x7, l10, l11, d6, x8, l12, l13⟩, hk7, hs⟩ := hs
 dsimp only at hs
 obtain ⟨g16, hw2, st16, hnew⟩ := hR8.freeze (by omega)
 refine WP.regw hw2 ?_
 replace hB2 := hB2.mono st16 (WL.no1 (by omega))
 replace hR3 := hR3.mono st16 (WL.no1 (by omega))
 replace hR4 := hR4.mono st16 (WL.no1 (by omega))
 replace hB3 := hB3.mono st16 (WL.no1 (by omega))
 replace hR5 := hR5.mono st16 (WL.no1 (by omega))
 replace hR6 := hR6.mono st16 (WL.no1 (by omega))
 replace hR7 := hR7.mono st16 (WL.no1 (by omega))
 replace hB6 := hB6.mono st16 (WL.no1 (by omega))
 replace hR9 := hR9.mono st16 (WL.no1 (by omega)) (WL.no1 (by omega))
 replace tot := tot.trans (st16.up1 (.inr (by omega)))
 clear hR8
 have hR8 := hnew
 clear hnew
 obtain ⟨g17, hw3, st17, hnew⟩ := hR9.freeze (by omega)
 refine WP.regw hw3 ?_
 replace hB2 := hB2.mono st17 (WL.no1 (by omega))
 replace hR3 := hR3.mono st17 (WL.no1 (by omega))
 replace hR4 := hR4.mono st17 (WL.no1 (by omega))
 replace hB3 := hB3.mono st17 (WL.no1 (by omega))
 replace hR5 := hR5.mono st17 (WL.no1 (by omega))
 replace hR6 := hR6.mono st17 (WL.no1 (by omega))
 replace hR7 := hR7.mono st17 (WL.no1 (by omega))
 replace hB6 := hB6.mono st17 (WL.no1 (by omega))
 replace hR8 := hR8.mono st17 (WL.no1 (by omega))
 replace tot := tot.trans (st17.up1 (.inr (by omega)))
 clear hR9
 have hR9 := hnew
 clear hnew
 have hcal7 := P.baizelaw32_plain g17 d4 x5 l8 l9 a8 n8 c8 a9 n9 c9 hR8 hR9 d5 x7 l10 l11 d6 x8 l12 l13 hk7
 refine WP.callC hcal7 (by kernel_rfl) ?_
 rintro _ g15 st15 ⟨a10, n10, c10, a11, n11, c11, a12, n12, c12, a13, n13, c13, rfl, hR10, hR11, hR12, hR13⟩
 replace hB2 := hB2.mono st15 (fun x => x)
 replace hR3 := hR3.mono st15 (fun x => x)
 replace hR4 := hR4.mono st15 (fun x => x)
 replace hB3 := hB3.mono st15 (fun x => x)
 replace hR5 := hR5.mono st15 (fun x => x)
 replace hR6 := hR6.mono st15 (fun x => x)
 replace hR7 := hR7.mono st15 (fun x => x)
 replace hB6 := hB6.mono st15 (fun x => x)
 replace hR8 := hR8.mono st15 (fun x => x)
 replace hR9 := hR9.mono st15 (fun x => x)
 replace tot := tot.trans st15.pure
 refine WP.stl 3 ?_
 refine WP.alloc (T := 61) (t + 8) [encA .u8 (zA 8), [.int .i64 0], [.slice none 0 0], [.slice none 0 0]] [8, 1, 1, 1] (by kernel_rfl) (by simp [len_encA]) ?_
 intro g18 b5 st18 hB8
 replace hB2 := hB2.mono st18 (fun x => x)
 replace hR3 := hR3.mono st18 (fun x => x)
 replace hR4 := hR4.mono st18 (fun x => x)
 replace hB3 := hB3.mono st18 (fun x => x)
 replace hR5 := hR5.mono st18 (fun x => x)
 replace hR6 := hR6.mono st18 (fun x => x)
 replace hR7 := hR7.mono st18 (fun x => x)
 replace hB6 := hB6.mono st18 (fun x => x)
 replace hR8 := hR8.mono st18 (fun x => x)
 replace hR9 := hR9.mono st18 (fun x => x)
 replace hR10 := hR10.mono st18 (fun x => x)
 replace hR11 := hR11.mono st18 (fun x => x)
 replace hR12 := hR12.mono st18 (fun x => x)
 replace hR13 := hR13.mono st18 (fun x => x)
 replace tot := tot.trans st18.pure
 refine WP.alloc (T := 65) (t + 9) [encA .u8 (zA 8), [.int .i64 0], [.slice none 0 0], [.slice none 0 0]] [8, 1, 1, 1] (by kernel_rfl) (by simp [len_encA]) ?_
 intro g19 b6 st19 hB9
 replace hB2 := hB2.mono st19 (fun x => x)
 replace hR3 := hR3.mono st19 (fun x => x)
 replace hR4 := hR4.mono st19 (fun x => x)
 replace hB3 := hB3.mono st19 (fun x => x)
 replace hR5 := hR5.mono st19 (fun x => x)
 replace hR6 := hR6.mono st19 (fun x => x)
 replace hR7 := hR7.mono st19 (fun x => x)
 replace hB6 := hB6.mono st19 (fun x => x)
 replace hR8 := hR8.mono st19 (fun x => x)
 replace hR9 := hR9.mono st19 (fun x => x)
 replace hR10 := hR10.mono st19 (fun x => x)
 replace hR11 := hR11.mono st19 (fun x => x)
 replace hR12 := hR12.mono st19 (fun x => x)
 replace hR13 := hR13.mono st19 (fun x => x)
 replace hB8 := hB8.mono st19 (fun x => x)
 replace tot := tot.trans st19.pure
 refine WP.storeB (ty := 61) (off := 0) (v := AG [encA .u8 d5, [.int .i64 x7], [.slice a10 n10 c10], [.slice a11 n11 c11]]) hB8 [encA .u8 d5, [.int .i64 x7], [.slice a10 n10 c10], [.slice a11 n11 c11]] [8, 1, 1, 1] (by kernel_rfl) (by kernel_rfl) (by simp [len_encA]) (by kernel_rfl) [encA .u8 d5, [.int .i64 x7], [.slice a10 n10 c10], [.slice a11 n11 c11]] (by kernel_rfl) (.arr (.one rfl (.one rfl (.one rfl .nil)))) ?_
 intro g20 st20 hB10
 replace hB2 := hB2.mono st20 (WL.no1 (by omega))
 replace hR3 := hR3.mono st20 (WL.no1 (by omega))
 replace hR4 := hR4.mono st20 (WL.no1 (by omega))
 replace hB3 := hB3.mono st20 (WL.no1 (by omega))
 replace hR5 := hR5.mono st20 (WL.no1 (by omega))
 replace hR6 := hR6.mono st20 (WL.no1 (by omega))
 replace hR7 := hR7.mono st20 (WL.no1 (by omega))
 replace hB6 := hB6.mono st20 (WL.no1 (by omega))
 replace hR8 := hR8.mono st20 (WL.no1 (by omega))
 replace hR9 := hR9.mono st20 (WL.no1 (by omega))
 replace hR10 := hR10.mono st20 (WL.no1 (by omega))
 replace hR11 := hR11.mono st20 (WL.no1 (by omega))
 replace hR12 := hR12.mono st20 (WL.no1 (by omega))
 replace hR13 := hR13.mono st20 (WL.no1 (by omega))
 replace hB9 := hB9.mono st20 (WL.no1 (by omega))
 replace tot := tot.trans (st20.up1 (.inr (by omega)))
 clear hB8
 have hB8 := hB10
 clear hB10
 refine WP.storeB (ty := 65) (off := 0) (v := AG [encA .u8 d6, [.int .i64 x8], [.slice a12 n12 c12], [.slice a13 n13 c13]]) hB9 [encA .u8 d6, [.int .i64 x8], [.slice a12 n12 c12], [.slice a13 n13 c13]] [8, 1, 1, 1] (by kernel_rfl) (by kernel_rfl) (by simp [len_encA]) (by kernel_rfl) [encA .u8 d6, [.int .i64 x8], [.slice a12 n12 c12], [.slice a13 n13 c13]] (by kernel_rfl) (.arr (.one rfl (.one rfl (.one rfl .nil)))) ?_
 intro g21 st21 hB11
 replace hB2 := hB2.mono st21 (WL.no1 (by omega))
 replace hR3 := hR3.mono st21 (WL.no1 (by omega))
 replace hR4 := hR4.mono st21 (WL.no1 (by omega))
 replace hB3 := hB3.mono st21 (WL.no1 (by omega))
 replace hR5 := hR5.mono st21 (WL.no1 (by omega))
 replace hR6 := hR6.mono st21 (WL.no1 (by omega))
 replace hR7 := hR7.mono st21 (WL.no1 (by omega))
 replace hB6 := hB6.mono st21 (WL.no1 (by omega))
 replace hR8 := hR8.mono st21 (WL.no1 (by omega))
 replace hR9 := hR9.mono st21 (WL.no1 (by omega))
 replace hR10 := hR10.mono st21 (WL.no1 (by omega))
 replace hR11 := hR11.mono st21 (WL.no1 (by omega))
 replace hR12 := hR12.mono st21 (WL.no1 (by omega))
 replace hR13 := hR13.mono st21 (WL.no1 (by omega))
 replace hB8 := hB8.mono st21 (WL.no1 (by omega))
 replace tot := tot.trans (st21.up1 (.inr (by omega)))
 clear hB9
 have hB9 := hB11
 clear hB11
 refine WP.dn ?_
 refine NX.then_n ?_
 refine CP.refr 71 [(3, .pointer (some ⟨b2, 0, none⟩)), (4, .pointer (some ⟨b3, 0, none⟩)), (5, .slice a7 n7 c7), (6, .int .i64 x4), (7, .pointer (some ⟨b4, 0, none⟩)), (8, .int .i64 x6), (10, .pointer (some ⟨b6, 0, none⟩))] (by kernel_rfl) (by kernel_rfl) ?_
 clear ds
 intro ds
 refine CP.cut (fun tm g => ∃ (q8 : Bool), Fr 71 [(2, .bool q8)] tm ∧ Step (fun l => NoM l ∨ t ≤ l) g0 g ∧ (F.baizelaw32_StateBytes.c2 q8) = some o1) ?_ ?_
 ·replace hs := Option.bind_eq_some_iff.1 hs
  obtain ⟨q9, hk12, hs⟩ := hs
  refine bool_split (b := q9) (fun h11 => ?_) (fun h11 => ?_)
  ·replace hs := of_if_t hs h11
   refine bool_split (b := (x4 == 0)) (fun h12 => ?_) (fun h12 => ?_)
   ·replace hs := of_if_t hs h12
    replace hs := Option.bind_eq_some_iff.1 hs
    obtain ⟨l15, hk13, hs⟩ := hs
    refine bool_split (b := ((bytesStr l7).toList == (bytesStr l15).toList)) (fun h13 => ?_) (fun h13 => ?_)
    ·replace hs := of_if_t hs h13
     refine bool_split (b := (x6 == 0)) (fun h14 => ?_) (fun h14 => ?_)
     ·replace hs := of_if_t hs h14
      replace hs := Option.bind_eq_some_iff.1 hs
      obtain ⟨q10, hk14, hs⟩ := hs
      refine bool_split (b := q10) (fun h15 => ?_) (fun h15 => ?_)
      ·replace hs := of_if_t hs h15
       replace hs := Option.bind_eq_some_iff.1 hs
       obtain ⟨q11, hk15, hs⟩ := hs
       refine CP.drawL (by kernel_rfl) [0, 1, 5, 7, 8, 9, 10, 13, 17, 18, 19, 20, 22, 23, 24, 25] N.baizelaw32_StateBytes_0 [⟨none, [], [], fun l g => Box g (t + 2) b2 61 [encA .u8 d2, [.int .i64 x2], [.slice a3 n3 c3], [.slice a4 n4 c4]] [8, 1, 1, 1]⟩, ⟨none, [], [], fun l g => RdS (Kd.int .u8) g 5 a3 n3 c3 l3⟩, ⟨none, [], [], fun l g => RdS (Kd.slice 5 (Kd.int .u8)) g 24 a4 n4 c4 l4⟩, ⟨none, [], [], fun l g => Box g (t + 3) b3 65 [encA .u8 d3, [.int .i64 x3], [.slice a5 n5 c5], [.slice a6 n6 c6]] [8, 1, 1, 1]⟩, ⟨none, [], [], fun l g => RdS (Kd.int .u8) g 5 a5 n5 c5 l5⟩, ⟨none, [], [], fun l g => RdS (Kd.slice 5 (Kd.int .u8)) g 24 a6 n6 c6 l6⟩, ⟨none, [], [], fun l g => RdS (Kd.int .u8) g 5 a7 n7 c7 l7⟩, ⟨none, [], [], fun l g => Box g (t + 7) b4 61 [encA .u8 d4, [.int .i64 x5], [.slice a8 n8 c8], [.slice a9 n9 c9]] [8, 1, 1, 1]⟩, ⟨none, [], [], fun l g => RdS (Kd.int .u8) g 5 a8 n8 c8 l8⟩, ⟨none, [], [], fun l g => RdS (Kd.slice 5 (Kd.int .u8)) g 24 a9 n9 c9 l9⟩, ⟨none, [], [], fun l g => Box g (t + 9) b6 65 [encA .u8 d6, [.int .i64 x8], [.slice a12 n12 c12], [.slice a13 n13 c13]] [8, 1, 1, 1]⟩, ⟨none, [], [], fun l g => RdS (Kd.int .u8) g 5 a12 n12 c12 l12⟩, ⟨none, [], [], fun l g => RdS (Kd.slice 5 (Kd.int .u8)) g 24 a13 n13 c13 l13⟩, ⟨some 0, [], [0], fun l g => l.getD 0 undef = .bool q9⟩, ⟨some 1, [], [1], fun l g => l.getD 0 undef = .bool true⟩, ⟨some 2, [], [2], fun l g => l.getD 0 undef = .bool true⟩, ⟨some 3, [], [3], fun l g => l.getD 0 undef = .string (bytesStr l7)⟩, ⟨some 4, [], [4], fun l g => l.getD 0 undef = AG [encA .u8 d3, [.int .i64 x3], [.slice a5 n5 c5], [.slice a6 n6 c6]]⟩, ⟨some 5, [], [5], fun l g => ∃ (a15 : Option Addr) (c15 : Nat), l.getD 0 undef = .slice a15 l15.length c15 ∧ OwnS (Kd.int .u8) g (t + 11) 5 a15 l15.length c15 l15⟩, ⟨some 6, [], [6], fun l g => l.getD 0 undef = .string (bytesStr l15)⟩, ⟨some 7, [], [7], fun l g => l.getD 0 undef = .bool true⟩, ⟨some 8, [], [8], fun l g => l.getD 0 undef = .bool true⟩, ⟨some 9, [], [9], fun l g => l.getD 0 undef = AG [encA .u8 d6, [.int .i64 x8], [.slice a12 n12 c12], [.slice a13 n13 c13]]⟩, ⟨some 10, [], [10], fun l g => l.getD 0 undef = AG [encA .u8 d3, [.int .i64 x3], [.slice a5 n5 c5], [.slice a6 n6 c6]]⟩, ⟨some 11, [], [11], fun l g => l.getD 0 undef = .bool q10⟩, ⟨some 12, [], [12], fun l g => l.getD 0 undef = .bool true⟩, ⟨some 13, [], [13], fun l g => l.getD 0 undef = AG [encA .u8 d4, [.int .i64 x5], [.slice a8 n8 c8], [.slice a9 n9 c9]]⟩, ⟨some 14, [], [14], fun l g => l.getD 0 undef = AG [encA .u8 d2, [.int .i64 x2], [.slice a3 n3 c3], [.slice a4 n4 c4]]⟩, ⟨some 15, [], [15], fun l g => l.getD 0 undef = .bool q11⟩] [[], [], [], [], [], [], [], [], [], [], [], [], [], [], [], []] [] [] [2, 3, 4, 6, 11, 12, 14, 15, 16, 21, 26, 27] (by kernel_rfl) (by simp) (by simp) ⟨fun _ _ _ _ st h0 hl hj hB2 => (hB2.mono st (fun h => absurd (hl _ h) (by simp))), fun _ _ _ _ st h0 hl hj hR3 => (RdS.mono (e := 5) hR3 st h0), fun _ _ _ _ st h0 hl hj hR4 => (RdS.mono (e := 24) hR4 st h0), fun _ _ _ _ st h0 hl hj hB3 => (hB3.mono st (fun h => absurd (hl _ h) (by simp))), fun _ _ _ _ st h0 hl hj hR5 => (RdS.mono (e := 5) hR5 st h0), fun _ _ _ _ st h0 hl hj hR6 => (RdS.mono (e := 24) hR6 st h0), fun _ _ _ _ st h0 hl hj hR7 => (RdS.mono (e := 5) hR7 st h0), fun _ _ _ _ st h0 hl hj hB6 => (hB6.mono st (fun h => absurd (hl _ h) (by simp))), fun _ _ _ _ st h0 hl hj hR8 => (RdS.mono (e := 5) hR8 st h0), fun _ _ _ _ st h0 hl hj hR9 => (RdS.mono (e := 24) hR9 st h0), fun _ _ _ _ st h0 hl hj hB9 => (hB9.mono st (fun h => absurd (hl _ h) (by simp))), fun _ _ _ _ st h0 hl hj hR12 => (RdS.mono (e := 5) hR12 st h0), fun _ _ _ _ st h0 hl hj hR13 => (RdS.mono (e := 24) hR13 st h0), fun _ _ _ _ st h0 hl hj e0 => e0, fun _ _ _ _ st h0 hl hj e1 => e1, fun _ _ _ _ st h0 hl hj e2 => e2, fun _ _ _ _ st h0 hl hj e3 => e3, fun _ _ _ _ st h0 hl hj e4 => e4, fun _ _ _ _ st h0 hl hj ⟨a15, c15, e5, hR15⟩ => ⟨a15, c15, e5, (hR15.mono st h0 (fun h => absurd (hl _ h) (by simp)))⟩, fun _ _ _ _ st h0 hl hj e6 => e6, fun _ _ _ _ st h0 hl hj e7 => e7, fun _ _ _ _ st h0 hl hj e8 => e8, fun _ _ _ _ st h0 hl hj e9 => e9, fun _ _ _ _ st h0 hl hj e10 => e10, fun _ _ _ _ st h0 hl hj e11 => e11, fun _ _ _ _ st h0 hl hj e12 => e12, fun _ _ _ _ st h0 hl hj e13 => e13, fun _ _ _ _ st h0 hl hj e14 => e14, fun _ _ _ _ st h0 hl hj e15 => e15, tv⟩ ⟨hB2, hR3, hR4, hB3, hR5, hR6, hR7, hB6, hR8, hR9, hB9, hR12, hR13, tv, tv, tv, tv, tv, tv, tv, tv, tv, tv, tv, tv, tv, tv, tv, tv, tv⟩ (by kernel_rfl) (fun vs => by kernel_rfl) ?_ ?_ ?_
       ·intro j hj
        have hq : j = 0 ∨ j = 1 ∨ j = 2 ∨ j = 3 ∨ j = 4 ∨ j = 5 ∨ j = 6 ∨ j = 7 ∨ j = 8 ∨ j = 9 ∨ j = 10 ∨ j = 11 := by have h : j < 12 := hj; omega
        rcases hq with rfl | rfl | rfl | rfl | rfl | rfl | rfl | rfl | rfl | rfl | rfl | rfl
        ·intro vs gq stq hl hf
         obtain ⟨v0, v1, v2, v3, v4, v5, v6, v7, v8, v9, v10, v11, v12, v13, v14, v15, rfl⟩ := len_k16 hl
         have e1 := (show v1 = .bool true from hf _ (memI 14 rfl) (by kernel_rfl))
         subst e1
         show Option.isSome _ = true
         kernel_rfl
        ·intro vs gq stq hl hf
         obtain ⟨v0, v1, v2, v3, v4, v5, v6, v7, v8, v9, v10, v11, v12, v13, v14, v15, rfl⟩ := len_k16 hl
         have e1 := (show v1 = .bool true from hf _ (memI 14 rfl) (by kernel_rfl))
         subst e1
         show Option.isSome _ = true
         kernel_rfl
        ·intro vs gq stq hl hf
         obtain ⟨v0, v1, v2, v3, v4, v5, v6, v7, v8, v9, v10, v11, v12, v13, v14, v15, rfl⟩ := len_k16 hl
         have e1 := (show v1 = .bool true from hf _ (memI 14 rfl) (by kernel_rfl))
         subst e1
         show Option.isSome _ = true
         kernel_rfl
        ·intro vs gq stq hl hf
         obtain ⟨v0, v1, v2, v3, v4, v5, v6, v7, v8, v9, v10, v11, v12, v13, v14, v15, rfl⟩ := len_k16 hl
         have e2 := (show v2 = .bool true from hf _ (memI 15 rfl) (by kernel_rfl))
         subst e2
         show Option.isSome _ = true
         kernel_rfl
        ·intro vs gq stq hl hf
         obtain ⟨v0, v1, v2, v3, v4, v5, v6, v7, v8, v9, v10, v11, v12, v13, v14, v15, rfl⟩ := len_k16 hl
         have e2 := (show v2 = .bool true from hf _ (memI 15 rfl) (by kernel_rfl))
         subst e2
         have e3 := (show v3 = .string (bytesStr l7) from hf _ (memI 16 rfl) (by kernel_rfl))
         subst e3
         have e6 := (show v6 = .string (bytesStr l15) from hf _ (memI 19 rfl) (by kernel_rfl))
         subst e6
         show Option.isSome _ = true
         kernel_rfl
        ·intro vs gq stq hl hf
         obtain ⟨v0, v1, v2, v3, v4, v5, v6, v7, v8, v9, v10, v11, v12, v13, v14, v15, rfl⟩ := len_k16 hl
         have e2 := (show v2 = .bool true from hf _ (memI 15 rfl) (by kernel_rfl))
         subst e2
         have e3 := (show v3 = .string (bytesStr l7) from hf _ (memI 16 rfl) (by kernel_rfl))
         subst e3
         have e6 := (show v6 = .string (bytesStr l15) from hf _ (memI 19 rfl) (by kernel_rfl))
         subst e6
         show Option.isSome _ = true
         kernel_rfl
        ·intro vs gq stq hl hf
         obtain ⟨v0, v1, v2, v3, v4, v5, v6, v7, v8, v9, v10, v11, v12, v13, v14, v15, rfl⟩ := len_k16 hl
         have e7 := (show v7 = .bool true from hf _ (memI 20 rfl) (by kernel_rfl))
         subst e7
         show Option.isSome _ = true
         kernel_rfl
        ·intro vs gq stq hl hf
         obtain ⟨v0, v1, v2, v3, v4, v5, v6, v7, v8, v9, v10, v11, v12, v13, v14, v15, rfl⟩ := len_k16 hl
         have e7 := (show v7 = .bool true from hf _ (memI 20 rfl) (by kernel_rfl))
         subst e7
         show Option.isSome _ = true
         kernel_rfl
        ·intro vs gq stq hl hf
         obtain ⟨v0, v1, v2, v3, v4, v5, v6, v7, v8, v9, v10, v11, v12, v13, v14, v15, rfl⟩ := len_k16 hl
         have e7 := (show v7 = .bool true from hf _ (memI 20 rfl) (by kernel_rfl))
         subst e7
         show Option.isSome _ = true
         kernel_rfl
        ·intro vs gq stq hl hf
         obtain ⟨v0, v1, v2, v3, v4, v5, v6, v7, v8, v9, v10, v11, v12, v13, v14, v15, rfl⟩ := len_k16 hl
         have e8 := (show v8 = .bool true from hf _ (memI 21 rfl) (by kernel_rfl))
         subst e8
         have e11 := (show v11 = .bool q10 from hf _ (memI 24 rfl) (by kernel_rfl))
         subst e11
         show Option.isSome _ = true
         kernel_rfl
        ·intro vs gq stq hl hf
         obtain ⟨v0, v1, v2, v3, v4, v5, v6, v7, v8, v9, v10, v11, v12, v13, v14, v15, rfl⟩ := len_k16 hl
         have e12 := (show v12 = .bool true from hf _ (memI 25 rfl) (by kernel_rfl))
         subst e12
         have e15 := (show v15 = .bool q11 from hf _ (memI 28 rfl) (by kernel_rfl))
         subst e15
         show Option.isSome _ = true
         kernel_rfl
        ·intro vs gq stq hl hf
         obtain ⟨v0, v1, v2, v3, v4, v5, v6, v7, v8, v9, v10, v11, v12, v13, v14, v15, rfl⟩ := len_k16 hl
         have e12 := (show v12 = .bool true from hf _ (memI 25 rfl) (by kernel_rfl))
         subst e12
         have e15 := (show v15 = .bool q11 from hf _ (memI 28 rfl) (by kernel_rfl))
         subst e15
         show Option.isSome _ = true
         kernel_rfl
       ·intro j hj
        have hq : j = 0 ∨ j = 1 ∨ j = 2 ∨ j = 3 ∨ j = 4 ∨ j = 5 ∨ j = 6 ∨ j = 7 ∨ j = 8 ∨ j = 9 ∨ j = 10 ∨ j = 11 ∨ j = 12 ∨ j = 13 ∨ j = 14 ∨ j = 15 := by have h : j < 16 := hj; omega
        rcases hq with rfl | rfl | rfl | rfl | rfl | rfl | rfl | rfl | rfl | rfl | rfl | rfl | rfl | rfl | rfl | rfl
        ·intro vs gq stq hl hf
         obtain ⟨v0, v1, v2, v3, v4, v5, v6, v7, v8, v9, v10, v11, v12, v13, v14, v15, rfl⟩ := len_k16 hl
         have hcal12 := P.baizelaw32_told gq q9 hk12
         refine WP.callC hcal12 (by kernel_rfl) ?_
         rintro _ g26 st26 rfl
         refine WP.dn (Shown.o (v := .bool q9) st26.pure ?_)
         exact ⟨tv, tv, tv, tv, tv, tv, tv, tv, tv, tv, tv, tv, tv, rfl, tv, tv, tv, tv, tv, tv, tv, tv, tv, tv, tv, tv, tv, tv, tv, tv⟩
        ·intro vs gq stq hl hf
         obtain ⟨v0, v1, v2, v3, v4, v5, v6, v7, v8, v9, v10, v11, v12, v13, v14, v15, rfl⟩ := len_k16 hl
         have e0 := (show v0 = .bool q9 from hf _ (memI 13 rfl) (by kernel_rfl))
         subst e0
         refine WP.stl 1 ?_
         refine WP.dn (Shown.ok (v := .bool q9) (by kernel_rfl) (Step.refl _ _) ?_)
         exact ⟨tv, tv, tv, tv, tv, tv, tv, tv, tv, tv, tv, tv, tv, tv, congrArg Value.bool h11, tv, tv, tv, tv, tv, tv, tv, tv, tv, tv, tv, tv, tv, tv, tv⟩
        ·intro vs gq stq hl hf
         obtain ⟨v0, v1, v2, v3, v4, v5, v6, v7, v8, v9, v10, v11, v12, v13, v14, v15, rfl⟩ := len_k16 hl
         have e1 := (show v1 = .bool true from hf _ (memI 14 rfl) (by kernel_rfl))
         subst e1
         refine WP.stl 1 ?_
         refine WP.dn (Shown.ok (v := .bool (x4 == 0)) (by kernel_rfl) (Step.refl _ _) ?_)
         exact ⟨tv, tv, tv, tv, tv, tv, tv, tv, tv, tv, tv, tv, tv, tv, tv, congrArg Value.bool h12, tv, tv, tv, tv, tv, tv, tv, tv, tv, tv, tv, tv, tv, tv⟩
        ·intro vs gq stq hl hf
         obtain ⟨v0, v1, v2, v3, v4, v5, v6, v7, v8, v9, v10, v11, v12, v13, v14, v15, rfl⟩ := len_k16 hl
         have hR7 := (show RdS (Kd.int .u8) gq 5 a7 n7 c7 l7 from hf _ (memI 6 rfl) (by kernel_rfl))
         have e2 := (show v2 = .bool true from hf _ (memI 15 rfl) (by kernel_rfl))
         subst e2
         refine WP.toStr (a := a7) (cp := c7) hR7.src hR7.len (by kernel_rfl) ?_
         refine WP.dn (Shown.ok (v := .string (bytesStr l7)) (by kernel_rfl) (Step.refl _ _) ?_)
         exact ⟨tv, tv, tv, tv, tv, tv, tv, tv, tv, tv, tv, tv, tv, tv, tv, tv, rfl, tv, tv, tv, tv, tv, tv, tv, tv, tv, tv, tv, tv, tv⟩
        ·intro vs gq stq hl hf
         obtain ⟨v0, v1, v2, v3, v4, v5, v6, v7, v8, v9, v10, v11, v12, v13, v14, v15, rfl⟩ := len_k16 hl
         have hB3 := (show Box gq (t + 3) b3 65 [encA .u8 d3, [.int .i64 x3], [.slice a5 n5 c5], [.slice a6 n6 c6]] [8, 1, 1, 1] from hf _ (memI 3 rfl) (by kernel_rfl))
         have e2 := (show v2 = .bool true from hf _ (memI 15 rfl) (by kernel_rfl))
         subst e2
         refine WP.loadB (v := AG [encA .u8 d3, [.int .i64 x3], [.slice a5 n5 c5], [.slice a6 n6 c6]]) hB3 (by kernel_rfl) (by kernel_rfl) ?_
         refine WP.dn (Shown.ok (v := AG [encA .u8 d3, [.int .i64 x3], [.slice a5 n5 c5], [.slice a6 n6 c6]]) (by kernel_rfl) (Step.refl _ _) ?_)
         exact ⟨tv, tv, tv, tv, tv, tv, tv, tv, tv, tv, tv, tv, tv, tv, tv, tv, tv, rfl, tv, tv, tv, tv, tv, tv, tv, tv, tv, tv, tv, tv⟩
        ·intro vs gq stq hl hf
         obtain ⟨v0, v1, v2, v3, v4, v5, v6, v7, v8, v9, v10, v11, v12, v13, v14, v15, rfl⟩ := len_k16 hl
         have hR5 := (show RdS (Kd.int .u8) gq 5 a5 n5 c5 l5 from hf _ (memI 4 rfl) (by kernel_rfl))
         have hR6 := (show RdS (Kd.slice 5 (Kd.int .u8)) gq 24 a6 n6 c6 l6 from hf _ (memI 5 rfl) (by kernel_rfl))
         have e2 := (show v2 = .bool true from hf _ (memI 15 rfl) (by kernel_rfl))
         subst e2
         have e4 := (show v4 = AG [encA .u8 d3, [.int .i64 x3], [.slice a5 n5 c5], [.slice a6 n6 c6]] from hf _ (memI 17 rfl) (by kernel_rfl))
         subst e4
         have hcal13 := P.baizeref32_Encode gq (t + 11) d3 x3 l5 l6 a5 n5 c5 a6 n6 c6 hR5 hR6 l15 hk13
         refine WP.callC hcal13 (by kernel_rfl) ?_
         rintro _ g27 st27 ⟨a15, n15, c15, rfl, hR15⟩
         obtain rfl := hR15.len
         refine WP.dn (Shown.o (v := .slice a15 l15.length c15) st27.pure ?_)
         exact ⟨tv, tv, tv, tv, tv, tv, tv, tv, tv, tv, tv, tv, tv, tv, tv, tv, tv, tv, ⟨a15, c15, rfl, hR15⟩, tv, tv, tv, tv, tv, tv, tv, tv, tv, tv, tv⟩
        ·intro vs gq stq hl hf
         obtain ⟨v0, v1, v2, v3, v4, v5, v6, v7, v8, v9, v10, v11, v12, v13, v14, v15, rfl⟩ := len_k16 hl
         have e2 := (show v2 = .bool true from hf _ (memI 15 rfl) (by kernel_rfl))
         subst e2
         obtain ⟨a15, c15, e5, hR15⟩ := (show ∃ (a15 : Option Addr) (c15 : Nat), v5 = .slice a15 l15.length c15 ∧ OwnS (Kd.int .u8) gq (t + 11) 5 a15 l15.length c15 l15 from hf _ (memI 18 rfl) (by kernel_rfl))
         subst e5
         refine WP.toStr (a := a15) (cp := c15) hR15.src hR15.len (by kernel_rfl) ?_
         refine WP.dn (Shown.ok (v := .string (bytesStr l15)) (by kernel_rfl) (Step.refl _ _) ?_)
         exact ⟨tv, tv, tv, tv, tv, tv, tv, tv, tv, tv, tv, tv, tv, tv, tv, tv, tv, tv, tv, rfl, tv, tv, tv, tv, tv, tv, tv, tv, tv, tv⟩
        ·intro vs gq stq hl hf
         obtain ⟨v0, v1, v2, v3, v4, v5, v6, v7, v8, v9, v10, v11, v12, v13, v14, v15, rfl⟩ := len_k16 hl
         have e2 := (show v2 = .bool true from hf _ (memI 15 rfl) (by kernel_rfl))
         subst e2
         have e3 := (show v3 = .string (bytesStr l7) from hf _ (memI 16 rfl) (by kernel_rfl))
         subst e3
         have e6 := (show v6 = .string (bytesStr l15) from hf _ (memI 19 rfl) (by kernel_rfl))
         subst e6
         refine WP.stl 1 ?_
         refine WP.dn (Shown.ok (v := .bool ((bytesStr l7).toList == (bytesStr l15).toList)) (by kernel_rfl) (Step.refl _ _) ?_)
         exact ⟨tv, tv, tv, tv, tv, tv, tv, tv, tv, tv, tv, tv, tv, tv, tv, tv, tv, tv, tv, tv, congrArg Value.bool h13, tv, tv, tv, tv, tv, tv, tv, tv, tv⟩
        ·intro vs gq stq hl hf
         obtain ⟨v0, v1, v2, v3, v4, v5, v6, v7, v8, v9, v10, v11, v12, v13, v14, v15, rfl⟩ := len_k16 hl
         have e7 := (show v7 = .bool true from hf _ (memI 20 rfl) (by kernel_rfl))
         subst e7
         refine WP.stl 1 ?_
         refine WP.dn (Shown.ok (v := .bool (x6 == 0)) (by kernel_rfl) (Step.refl _ _) ?_)
         exact ⟨tv, tv, tv, tv, tv, tv, tv, tv, tv, tv, tv, tv, tv, tv, tv, tv, tv, tv, tv, tv, tv, congrArg Value.bool h14, tv, tv, tv, tv, tv, tv, tv, tv⟩
        ·intro vs gq stq hl hf
         obtain ⟨v0, v1, v2, v3, v4, v5, v6, v7, v8, v9, v10, v11, v12, v13, v14, v15, rfl⟩ := len_k16 hl
         have hB9 := (show Box gq (t + 9) b6 65 [encA .u8 d6, [.int .i64 x8], [.slice a12 n12 c12], [.slice a13 n13 c13]] [8, 1, 1, 1] from hf _ (memI 10 rfl) (by kernel_rfl))
         have e8 := (show v8 = .bool true from hf _ (memI 21 rfl) (by kernel_rfl))
         subst e8
         refine WP.loadB (v := AG [encA .u8 d6, [.int .i64 x8], [.slice a12 n12 c12], [.slice a13 n13 c13]]) hB9 (by kernel_rfl) (by kernel_rfl) ?_
         refine WP.dn (Shown.ok (v := AG [encA .u8 d6, [.int .i64 x8], [.slice a12 n12 c12], [.slice a13 n13 c13]]) (by kernel_rfl) (Step.refl _ _) ?_)
         exact ⟨tv, tv, tv, tv, tv, tv, tv, tv, tv, tv, tv, tv, tv, tv, tv, tv, tv, tv, tv, tv, tv, tv, rfl, tv, tv, tv, tv, tv, tv, tv⟩
        ·intro vs gq stq hl hf
         obtain ⟨v0, v1, v2, v3, v4, v5, v6, v7, v8, v9, v10, v11, v12, v13, v14, v15, rfl⟩ := len_k16 hl
         have hB3 := (show Box gq (t + 3) b3 65 [encA .u8 d3, [.int .i64 x3], [.slice a5 n5 c5], [.slice a6 n6 c6]] [8, 1, 1, 1] from hf _ (memI 3 rfl) (by kernel_rfl))
         have e8 := (show v8 = .bool true from hf _ (memI 21 rfl) (by kernel_rfl))
         subst e8
         refine WP.loadB (v := AG [encA .u8 d3, [.int .i64 x3], [.slice a5 n5 c5], [.slice a6 n6 c6]]) hB3 (by kernel_rfl) (by kernel_rfl) ?_
         refine WP.dn (Shown.ok (v := AG [encA .u8 d3, [.int .i64 x3], [.slice a5 n5 c5], [.slice a6 n6 c6]]) (by kernel_rfl) (Step.refl _ _) ?_)
         exact ⟨tv, tv, tv, tv, tv, tv, tv, tv, tv, tv, tv, tv, tv, tv, tv, tv, tv, tv, tv, tv, tv, tv, tv, rfl, tv, tv, tv, tv, tv, tv⟩
        ·intro vs gq stq hl hf
         obtain ⟨v0, v1, v2, v3, v4, v5, v6, v7, v8, v9, v10, v11, v12, v13, v14, v15, rfl⟩ := len_k16 hl
         have hR5 := (show RdS (Kd.int .u8) gq 5 a5 n5 c5 l5 from hf _ (memI 4 rfl) (by kernel_rfl))
         have hR6 := (show RdS (Kd.slice 5 (Kd.int .u8)) gq 24 a6 n6 c6 l6 from hf _ (memI 5 rfl) (by kernel_rfl))
         have hR12 := (show RdS (Kd.int .u8) gq 5 a12 n12 c12 l12 from hf _ (memI 11 rfl) (by kernel_rfl))
         have hR13 := (show RdS (Kd.slice 5 (Kd.int .u8)) gq 24 a13 n13 c13 l13 from hf _ (memI 12 rfl) (by kernel_rfl))
         have e8 := (show v8 = .bool true from hf _ (memI 21 rfl) (by kernel_rfl))
         subst e8
         have e9 := (show v9 = AG [encA .u8 d6, [.int .i64 x8], [.slice a12 n12 c12], [.slice a13 n13 c13]] from hf _ (memI 22 rfl) (by kernel_rfl))
         subst e9
         have e10 := (show v10 = AG [encA .u8 d3, [.int .i64 x3], [.slice a5 n5 c5], [.slice a6 n6 c6]] from hf _ (memI 23 rfl) (by kernel_rfl))
         subst e10
         have hcal14 := P.baizeref32_Same gq d6 x8 l12 l13 d3 x3 l5 l6 a12 n12 c12 a13 n13 c13 a5 n5 c5 a6 n6 c6 hR12 hR13 hR5 hR6 q10 hk14
         refine WP.callC hcal14 (by kernel_rfl) ?_
         rintro _ g28 st28 rfl
         refine WP.dn (Shown.o (v := .bool q10) st28.pure ?_)
         exact ⟨tv, tv, tv, tv, tv, tv, tv, tv, tv, tv, tv, tv, tv, tv, tv, tv, tv, tv, tv, tv, tv, tv, tv, tv, rfl, tv, tv, tv, tv, tv⟩
        ·intro vs gq stq hl hf
         obtain ⟨v0, v1, v2, v3, v4, v5, v6, v7, v8, v9, v10, v11, v12, v13, v14, v15, rfl⟩ := len_k16 hl
         have e8 := (show v8 = .bool true from hf _ (memI 21 rfl) (by kernel_rfl))
         subst e8
         have e11 := (show v11 = .bool q10 from hf _ (memI 24 rfl) (by kernel_rfl))
         subst e11
         refine WP.stl 1 ?_
         refine WP.dn (Shown.ok (v := .bool q10) (by kernel_rfl) (Step.refl _ _) ?_)
         exact ⟨tv, tv, tv, tv, tv, tv, tv, tv, tv, tv, tv, tv, tv, tv, tv, tv, tv, tv, tv, tv, tv, tv, tv, tv, tv, congrArg Value.bool h15, tv, tv, tv, tv⟩
        ·intro vs gq stq hl hf
         obtain ⟨v0, v1, v2, v3, v4, v5, v6, v7, v8, v9, v10, v11, v12, v13, v14, v15, rfl⟩ := len_k16 hl
         have hB6 := (show Box gq (t + 7) b4 61 [encA .u8 d4, [.int .i64 x5], [.slice a8 n8 c8], [.slice a9 n9 c9]] [8, 1, 1, 1] from hf _ (memI 7 rfl) (by kernel_rfl))
         have e12 := (show v12 = .bool true from hf _ (memI 25 rfl) (by kernel_rfl))
         subst e12
         refine WP.loadB (v := AG [encA .u8 d4, [.int .i64 x5], [.slice a8 n8 c8], [.slice a9 n9 c9]]) hB6 (by kernel_rfl) (by kernel_rfl) ?_
         refine WP.dn (Shown.ok (v := AG [encA .u8 d4, [.int .i64 x5], [.slice a8 n8 c8], [.slice a9 n9 c9]]) (by kernel_rfl) (Step.refl _ _) ?_)
         exact ⟨tv, tv, tv, tv, tv, tv, tv, tv, tv, tv, tv, tv, tv, tv, tv, tv, tv, tv, tv, tv, tv, tv, tv, tv, tv, tv, rfl, tv, tv, tv⟩
        ·intro vs gq stq hl hf
         obtain ⟨v0, v1, v2, v3, v4, v5, v6, v7, v8, v9, v10, v11, v12, v13, v14, v15, rfl⟩ := len_k16 hl
         have hB2 := (show Box gq (t + 2) b2 61 [encA .u8 d2, [.int .i64 x2], [.slice a3 n3 c3], [.slice a4 n4 c4]] [8, 1, 1, 1] from hf _ (memI 0 rfl) (by kernel_rfl))
         have e12 := (show v12 = .bool true from hf _ (memI 25 rfl) (by kernel_rfl))
         subst e12
         refine WP.loadB (v := AG [encA .u8 d2, [.int .i64 x2], [.slice a3 n3 c3], [.slice a4 n4 c4]]) hB2 (by kernel_rfl) (by kernel_rfl) ?_
         refine WP.dn (Shown.ok (v := AG [encA .u8 d2, [.int .i64 x2], [.slice a3 n3 c3], [.slice a4 n4 c4]]) (by kernel_rfl) (Step.refl _ _) ?_)
         exact ⟨tv, tv, tv, tv, tv, tv, tv, tv, tv, tv, tv, tv, tv, tv, tv, tv, tv, tv, tv, tv, tv, tv, tv, tv, tv, tv, tv, rfl, tv, tv⟩
        ·intro vs gq stq hl hf
         obtain ⟨v0, v1, v2, v3, v4, v5, v6, v7, v8, v9, v10, v11, v12, v13, v14, v15, rfl⟩ := len_k16 hl
         have hR3 := (show RdS (Kd.int .u8) gq 5 a3 n3 c3 l3 from hf _ (memI 1 rfl) (by kernel_rfl))
         have hR4 := (show RdS (Kd.slice 5 (Kd.int .u8)) gq 24 a4 n4 c4 l4 from hf _ (memI 2 rfl) (by kernel_rfl))
         have hR8 := (show RdS (Kd.int .u8) gq 5 a8 n8 c8 l8 from hf _ (memI 8 rfl) (by kernel_rfl))
         have hR9 := (show RdS (Kd.slice 5 (Kd.int .u8)) gq 24 a9 n9 c9 l9 from hf _ (memI 9 rfl) (by kernel_rfl))
         have e12 := (show v12 = .bool true from hf _ (memI 25 rfl) (by kernel_rfl))
         subst e12
         have e13 := (show v13 = AG [encA .u8 d4, [.int .i64 x5], [.slice a8 n8 c8], [.slice a9 n9 c9]] from hf _ (memI 26 rfl) (by kernel_rfl))
         subst e13
         have e14 := (show v14 = AG [encA .u8 d2, [.int .i64 x2], [.slice a3 n3 c3], [.slice a4 n4 c4]] from hf _ (memI 27 rfl) (by kernel_rfl))
         subst e14
         have hcal15 := P.state_Signed_Same gq d4 x5 l8 l9 d2 x2 l3 l4 a8 n8 c8 a9 n9 c9 a3 n3 c3 a4 n4 c4 hR8 hR9 hR3 hR4 q11 hk15
         refine WP.callC hcal15 (by kernel_rfl) ?_
         rintro _ g29 st29 rfl
         refine WP.dn (Shown.o (v := .bool q11) st29.pure ?_)
         exact ⟨tv, tv, tv, tv, tv, tv, tv, tv, tv, tv, tv, tv, tv, tv, tv, tv, tv, tv, tv, tv, tv, tv, tv, tv, tv, tv, tv, tv, rfl, tv⟩
       intro vs g30 st30 hl hf
       obtain ⟨v0, v1, v2, v3, v4, v5, v6, v7, v8, v9, v10, v11, v12, v13, v14, v15, rfl⟩ := len_k16 hl
       have e12 := (show v12 = .bool true from hf _ (memI 25 rfl) (by kernel_rfl))
       subst e12
       have e15 := (show v15 = .bool q11 from hf _ (memI 28 rfl) (by kernel_rfl))
       subst e15
       replace tot := tot.trans st30.toNo.pure
       refine NX.post ?_
       exact ⟨q11, ⟨by kernel_rfl, by kernel_rfl⟩, tot, hs⟩
      replace hs := of_if_f hs h15
      refine CP.drawL (by kernel_rfl) [0, 1, 5, 7, 8, 9, 10, 13, 17, 18, 19, 20, 22] N.baizelaw32_StateBytes_0 [⟨none, [], [], fun l g => Box g (t + 3) b3 65 [encA .u8 d3, [.int .i64 x3], [.slice a5 n5 c5], [.slice a6 n6 c6]] [8, 1, 1, 1]⟩, ⟨none, [], [], fun l g => RdS (Kd.int .u8) g 5 a5 n5 c5 l5⟩, ⟨none, [], [], fun l g => RdS (Kd.slice 5 (Kd.int .u8)) g 24 a6 n6 c6 l6⟩, ⟨none, [], [], fun l g => RdS (Kd.int .u8) g 5 a7 n7 c7 l7⟩, ⟨none, [], [], fun l g => Box g (t + 9) b6 65 [encA .u8 d6, [.int .i64 x8], [.slice a12 n12 c12], [.slice a13 n13 c13]] [8, 1, 1, 1]⟩, ⟨none, [], [], fun l g => RdS (Kd.int .u8) g 5 a12 n12 c12 l12⟩, ⟨none, [], [], fun l g => RdS (Kd.slice 5 (Kd.int .u8)) g 24 a13 n13 c13 l13⟩, ⟨some 0, [], [0], fun l g => l.getD 0 undef = .bool q9⟩, ⟨some 1, [], [1], fun l g => l.getD 0 undef = .bool true⟩, ⟨some 2, [], [2], fun l g => l.getD 0 undef = .bool true⟩, ⟨some 3, [], [3], fun l g => l.getD 0 undef = .string (bytesStr l7)⟩, ⟨some 4, [], [4], fun l g => l.getD 0 undef = AG [encA .u8 d3, [.int .i64 x3], [.slice a5 n5 c5], [.slice a6 n6 c6]]⟩, ⟨some 5, [], [5], fun l g => ∃ (a15 : Option Addr) (c15 : Nat), l.getD 0 undef = .slice a15 l15.length c15 ∧ OwnS (Kd.int .u8) g (t + 11) 5 a15 l15.length c15 l15⟩, ⟨some 6, [], [6], fun l g => l.getD 0 undef = .string (bytesStr l15)⟩, ⟨some 7, [], [7], fun l g => l.getD 0 undef = .bool true⟩, ⟨some 8, [], [8], fun l g => l.getD 0 undef = .bool true⟩, ⟨some 9, [], [9], fun l g => l.getD 0 undef = AG [encA .u8 d6, [.int .i64 x8], [.slice a12 n12 c12], [.slice a13 n13 c13]]⟩, ⟨some 10, [], [10], fun l g => l.getD 0 undef = AG [encA .u8 d3, [.int .i64 x3], [.slice a5 n5 c5], [.slice a6 n6 c6]]⟩, ⟨some 11, [], [11], fun l g => l.getD 0 undef = .bool q10⟩, ⟨some 12, [], [12], fun l g => l.getD 0 undef = .bool false⟩] [[], [], [], [], [], [], [], [], [], [], [], [], []] [] [] [2, 3, 4, 6, 11, 12, 14, 15, 16, 21, 23, 24, 25, 26, 27] (by kernel_rfl) (by simp) (by simp) ⟨fun _ _ _ _ st h0 hl hj hB3 => (hB3.mono st (fun h => absurd (hl _ h) (by simp))), fun _ _ _ _ st h0 hl hj hR5 => (RdS.mono (e := 5) hR5 st h0), fun _ _ _ _ st h0 hl hj hR6 => (RdS.mono (e := 24) hR6 st h0), fun _ _ _ _ st h0 hl hj hR7 => (RdS.mono (e := 5) hR7 st h0), fun _ _ _ _ st h0 hl hj hB9 => (hB9.mono st (fun h => absurd (hl _ h) (by simp))), fun _ _ _ _ st h0 hl hj hR12 => (RdS.mono (e := 5) hR12 st h0), fun _ _ _ _ st h0 hl hj hR13 => (RdS.mono (e := 24) hR13 st h0), fun _ _ _ _ st h0 hl hj e0 => e0, fun _ _ _ _ st h0 hl hj e1 => e1, fun _ _ _ _ st h0 hl hj e2 => e2, fun _ _ _ _ st h0 hl hj e3 => e3, fun _ _ _ _ st h0 hl hj e4 => e4, fun _ _ _ _ st h0 hl hj ⟨a15, c15, e5, hR15⟩ => ⟨a15, c15, e5, (hR15.mono st h0 (fun h => absurd (hl _ h) (by simp)))⟩, fun _ _ _ _ st h0 hl hj e6 => e6, fun _ _ _ _ st h0 hl hj e7 => e7, fun _ _ _ _ st h0 hl hj e8 => e8, fun _ _ _ _ st h0 hl hj e9 => e9, fun _ _ _ _ st h0 hl hj e10 => e10, fun _ _ _ _ st h0 hl hj e11 => e11, fun _ _ _ _ st h0 hl hj e12 => e12, tv⟩ ⟨hB3, hR5, hR6, hR7, hB9, hR12, hR13, tv, tv, tv, tv, tv, tv, tv, tv, tv, tv, tv, tv, tv, tv⟩ (by kernel_rfl) (fun vs => by kernel_rfl) ?_ ?_ ?_
      ·intro j hj
       have hq : j = 0 ∨ j = 1 ∨ j = 2 ∨ j = 3 ∨ j = 4 ∨ j = 5 ∨ j = 6 ∨ j = 7 ∨ j = 8 ∨ j = 9 ∨ j = 10 ∨ j = 11 ∨ j = 12 ∨ j = 13 ∨ j = 14 := by have h : j < 15 := hj; omega
       rcases hq with rfl | rfl | rfl | rfl | rfl | rfl | rfl | rfl | rfl | rfl | rfl | rfl | rfl | rfl | rfl
       ·intro vs gq stq hl hf
        obtain ⟨v0, v1, v2, v3, v4, v5, v6, v7, v8, v9, v10, v11, v12, rfl⟩ := len_k13 hl
        have e1 := (show v1 = .bool true from hf _ (memI 8 rfl) (by kernel_rfl))
        subst e1
        show Option.isSome _ = true
        kernel_rfl
       ·intro vs gq stq hl hf
        obtain ⟨v0, v1, v2, v3, v4, v5, v6, v7, v8, v9, v10, v11, v12, rfl⟩ := len_k13 hl
        have e1 := (show v1 = .bool true from hf _ (memI 8 rfl) (by kernel_rfl))
        subst e1
        show Option.isSome _ = true
        kernel_rfl
       ·intro vs gq stq hl hf
        obtain ⟨v0, v1, v2, v3, v4, v5, v6, v7, v8, v9, v10, v11, v12, rfl⟩ := len_k13 hl
        have e1 := (show v1 = .bool true from hf _ (memI 8 rfl) (by kernel_rfl))
        subst e1
        show Option.isSome _ = true
        kernel_rfl
       ·intro vs gq stq hl hf
        obtain ⟨v0, v1, v2, v3, v4, v5, v6, v7, v8, v9, v10, v11, v12, rfl⟩ := len_k13 hl
        have e2 := (show v2 = .bool true from hf _ (memI 9 rfl) (by kernel_rfl))
        subst e2
        show Option.isSome _ = true
        kernel_rfl
       ·intro vs gq stq hl hf
        obtain ⟨v0, v1, v2, v3, v4, v5, v6, v7, v8, v9, v10, v11, v12, rfl⟩ := len_k13 hl
        have e2 := (show v2 = .bool true from hf _ (memI 9 rfl) (by kernel_rfl))
        subst e2
        have e3 := (show v3 = .string (bytesStr l7) from hf _ (memI 10 rfl) (by kernel_rfl))
        subst e3
        have e6 := (show v6 = .string (bytesStr l15) from hf _ (memI 13 rfl) (by kernel_rfl))
        subst e6
        show Option.isSome _ = true
        kernel_rfl
       ·intro vs gq stq hl hf
        obtain ⟨v0, v1, v2, v3, v4, v5, v6, v7, v8, v9, v10, v11, v12, rfl⟩ := len_k13 hl
        have e2 := (show v2 = .bool true from hf _ (memI 9 rfl) (by kernel_rfl))
        subst e2
        have e3 := (show v3 = .string (bytesStr l7) from hf _ (memI 10 rfl) (by kernel_rfl))
        subst e3
        have e6 := (show v6 = .string (bytesStr l15) from hf _ (memI 13 rfl) (by kernel_rfl))
        subst e6
        show Option.isSome _ = true
        kernel_rfl
       ·intro vs gq stq hl hf
        obtain ⟨v0, v1, v2, v3, v4, v5, v6, v7, v8, v9, v10, v11, v12, rfl⟩ := len_k13 hl
        have e7 := (show v7 = .bool true from hf _ (memI 14 rfl) (by kernel_rfl))
        subst e7
        show Option.isSome _ = true
        kernel_rfl
       ·intro vs gq stq hl hf
        obtain ⟨v0, v1, v2, v3, v4, v5, v6, v7, v8, v9, v10, v11, v12, rfl⟩ := len_k13 hl
        have e7 := (show v7 = .bool true from hf _ (memI 14 rfl) (by kernel_rfl))
        subst e7
        show Option.isSome _ = true
        kernel_rfl
       ·intro vs gq stq hl hf
        obtain ⟨v0, v1, v2, v3, v4, v5, v6, v7, v8, v9, v10, v11, v12, rfl⟩ := len_k13 hl
        have e7 := (show v7 = .bool true from hf _ (memI 14 rfl) (by kernel_rfl))
        subst e7
        show Option.isSome _ = true
        kernel_rfl
       ·intro vs gq stq hl hf
        obtain ⟨v0, v1, v2, v3, v4, v5, v6, v7, v8, v9, v10, v11, v12, rfl⟩ := len_k13 hl
        have e8 := (show v8 = .bool true from hf _ (memI 15 rfl) (by kernel_rfl))
        subst e8
        have e11 := (show v11 = .bool q10 from hf _ (memI 18 rfl) (by kernel_rfl))
        subst e11
        show Option.isSome _ = true
        kernel_rfl
       ·intro vs gq stq hl hf
        obtain ⟨v0, v1, v2, v3, v4, v5, v6, v7, v8, v9, v10, v11, v12, rfl⟩ := len_k13 hl
        have e12 := (show v12 = .bool false from hf _ (memI 19 rfl) (by kernel_rfl))
        subst e12
        show Option.isSome _ = true
        kernel_rfl
       ·intro vs gq stq hl hf
        obtain ⟨v0, v1, v2, v3, v4, v5, v6, v7, v8, v9, v10, v11, v12, rfl⟩ := len_k13 hl
        have e12 := (show v12 = .bool false from hf _ (memI 19 rfl) (by kernel_rfl))
        subst e12
        show Option.isSome _ = true
        kernel_rfl
       ·intro vs gq stq hl hf
        obtain ⟨v0, v1, v2, v3, v4, v5, v6, v7, v8, v9, v10, v11, v12, rfl⟩ := len_k13 hl
        have e12 := (show v12 = .bool false from hf _ (memI 19 rfl) (by kernel_rfl))
        subst e12
        show Option.isSome _ = true
        kernel_rfl
       ·intro vs gq stq hl hf
        obtain ⟨v0, v1, v2, v3, v4, v5, v6, v7, v8, v9, v10, v11, v12, rfl⟩ := len_k13 hl
        have e12 := (show v12 = .bool false from hf _ (memI 19 rfl) (by kernel_rfl))
        subst e12
        show Option.isSome _ = true
        kernel_rfl
       ·intro vs gq stq hl hf
        obtain ⟨v0, v1, v2, v3, v4, v5, v6, v7, v8, v9, v10, v11, v12, rfl⟩ := len_k13 hl
        have e12 := (show v12 = .bool false from hf _ (memI 19 rfl) (by kernel_rfl))
        subst e12
        show Option.isSome _ = true
        kernel_rfl
      ·intro j hj
       have hq : j = 0 ∨ j = 1 ∨ j = 2 ∨ j = 3 ∨ j = 4 ∨ j = 5 ∨ j = 6 ∨ j = 7 ∨ j = 8 ∨ j = 9 ∨ j = 10 ∨ j = 11 ∨ j = 12 := by have h : j < 13 := hj; omega
       rcases hq with rfl | rfl | rfl | rfl | rfl | rfl | rfl | rfl | rfl | rfl | rfl | rfl | rfl
       ·intro vs gq stq hl hf
        obtain ⟨v0, v1, v2, v3, v4, v5, v6, v7, v8, v9, v10, v11, v12, rfl⟩ := len_k13 hl
        have hcal12 := P.baizelaw32_told gq q9 hk12
        refine WP.callC hcal12 (by kernel_rfl) ?_
        rintro _ g26 st26 rfl
        refine WP.dn (Shown.o (v := .bool q9) st26.pure ?_)
        exact ⟨tv, tv, tv, tv, tv, tv, tv, rfl, tv, tv, tv, tv, tv, tv, tv, tv, tv, tv, tv, tv, tv⟩
       ·intro vs gq stq hl hf
        obtain ⟨v0, v1, v2, v3, v4, v5, v6, v7, v8, v9, v10, v11, v12, rfl⟩ := len_k13 hl
        have e0 := (show v0 = .bool q9 from hf _ (memI 7 rfl) (by kernel_rfl))
        subst e0
        refine WP.stl 1 ?_
        refine WP.dn (Shown.ok (v := .bool q9) (by kernel_rfl) (Step.refl _ _) ?_)
        exact ⟨tv, tv, tv, tv, tv, tv, tv, tv, congrArg Value.bool h11, tv, tv, tv, tv, tv, tv, tv, tv, tv, tv, tv, tv⟩
       ·intro vs gq stq hl hf
        obtain ⟨v0, v1, v2, v3, v4, v5, v6, v7, v8, v9, v10, v11, v12, rfl⟩ := len_k13 hl
        have e1 := (show v1 = .bool true from hf _ (memI 8 rfl) (by kernel_rfl))
        subst e1
        refine WP.stl 1 ?_
        refine WP.dn (Shown.ok (v := .bool (x4 == 0)) (by kernel_rfl) (Step.refl _ _) ?_)
        exact ⟨tv, tv, tv, tv, tv, tv, tv, tv, tv, congrArg Value.bool h12, tv, tv, tv, tv, tv, tv, tv, tv, tv, tv, tv⟩
       ·intro vs gq stq hl hf
        obtain ⟨v0, v1, v2, v3, v4, v5, v6, v7, v8, v9, v10, v11, v12, rfl⟩ := len_k13 hl
        have hR7 := (show RdS (Kd.int .u8) gq 5 a7 n7 c7 l7 from hf _ (memI 3 rfl) (by kernel_rfl))
        have e2 := (show v2 = .bool true from hf _ (memI 9 rfl) (by kernel_rfl))
        subst e2
        refine WP.toStr (a := a7) (cp := c7) hR7.src hR7.len (by kernel_rfl) ?_
        refine WP.dn (Shown.ok (v := .string (bytesStr l7)) (by kernel_rfl) (Step.refl _ _) ?_)
        exact ⟨tv, tv, tv, tv, tv, tv, tv, tv, tv, tv, rfl, tv, tv, tv, tv, tv, tv, tv, tv, tv, tv⟩
       ·intro vs gq stq hl hf
        obtain ⟨v0, v1, v2, v3, v4, v5, v6, v7, v8, v9, v10, v11, v12, rfl⟩ := len_k13 hl
        have hB3 := (show Box gq (t + 3) b3 65 [encA .u8 d3, [.int .i64 x3], [.slice a5 n5 c5], [.slice a6 n6 c6]] [8, 1, 1, 1] from hf _ (memI 0 rfl) (by kernel_rfl))
        have e2 := (show v2 = .bool true from hf _ (memI 9 rfl) (by kernel_rfl))
        subst e2
        refine WP.loadB (v := AG [encA .u8 d3, [.int .i64 x3], [.slice a5 n5 c5], [.slice a6 n6 c6]]) hB3 (by kernel_rfl) (by kernel_rfl) ?_
        refine WP.dn (Shown.ok (v := AG [encA .u8 d3, [.int .i64 x3], [.slice a5 n5 c5], [.slice a6 n6 c6]]) (by kernel_rfl) (Step.refl _ _) ?_)
        exact ⟨tv, tv, tv, tv, tv, tv, tv, tv, tv, tv, tv, rfl, tv, tv, tv, tv, tv, tv, tv, tv, tv⟩
       ·intro vs gq stq hl hf
        obtain ⟨v0, v1, v2, v3, v4, v5, v6, v7, v8, v9, v10, v11, v12, rfl⟩ := len_k13 hl
        have hR5 := (show RdS (Kd.int .u8) gq 5 a5 n5 c5 l5 from hf _ (memI 1 rfl) (by kernel_rfl))
        have hR6 := (show RdS (Kd.slice 5 (Kd.int .u8)) gq 24 a6 n6 c6 l6 from hf _ (memI 2 rfl) (by kernel_rfl))
        have e2 := (show v2 = .bool true from hf _ (memI 9 rfl) (by kernel_rfl))
        subst e2
        have e4 := (show v4 = AG [encA .u8 d3, [.int .i64 x3], [.slice a5 n5 c5], [.slice a6 n6 c6]] from hf _ (memI 11 rfl) (by kernel_rfl))
        subst e4
        have hcal13 := P.baizeref32_Encode gq (t + 11) d3 x3 l5 l6 a5 n5 c5 a6 n6 c6 hR5 hR6 l15 hk13
        refine WP.callC hcal13 (by kernel_rfl) ?_
        rintro _ g27 st27 ⟨a15, n15, c15, rfl, hR15⟩
        obtain rfl := hR15.len
        refine WP.dn (Shown.o (v := .slice a15 l15.length c15) st27.pure ?_)
        exact ⟨tv, tv, tv, tv, tv, tv, tv, tv, tv, tv, tv, tv, ⟨a15, c15, rfl, hR15⟩, tv, tv, tv, tv, tv, tv, tv, tv⟩
       ·intro vs gq stq hl hf
        obtain ⟨v0, v1, v2, v3, v4, v5, v6, v7, v8, v9, v10, v11, v12, rfl⟩ := len_k13 hl
        have e2 := (show v2 = .bool true from hf _ (memI 9 rfl) (by kernel_rfl))
        subst e2
        obtain ⟨a15, c15, e5, hR15⟩ := (show ∃ (a15 : Option Addr) (c15 : Nat), v5 = .slice a15 l15.length c15 ∧ OwnS (Kd.int .u8) gq (t + 11) 5 a15 l15.length c15 l15 from hf _ (memI 12 rfl) (by kernel_rfl))
        subst e5
        refine WP.toStr (a := a15) (cp := c15) hR15.src hR15.len (by kernel_rfl) ?_
        refine WP.dn (Shown.ok (v := .string (bytesStr l15)) (by kernel_rfl) (Step.refl _ _) ?_)
        exact ⟨tv, tv, tv, tv, tv, tv, tv, tv, tv, tv, tv, tv, tv, rfl, tv, tv, tv, tv, tv, tv, tv⟩
       ·intro vs gq stq hl hf
        obtain ⟨v0, v1, v2, v3, v4, v5, v6, v7, v8, v9, v10, v11, v12, rfl⟩ := len_k13 hl
        have e2 := (show v2 = .bool true from hf _ (memI 9 rfl) (by kernel_rfl))
        subst e2
        have e3 := (show v3 = .string (bytesStr l7) from hf _ (memI 10 rfl) (by kernel_rfl))
        subst e3
        have e6 := (show v6 = .string (bytesStr l15) from hf _ (memI 13 rfl) (by kernel_rfl))
        subst e6
        refine WP.stl 1 ?_
        refine WP.dn (Shown.ok (v := .bool ((bytesStr l7).toList == (bytesStr l15).toList)) (by kernel_rfl) (Step.refl _ _) ?_)
        exact ⟨tv, tv, tv, tv, tv, tv, tv, tv, tv, tv, tv, tv, tv, tv, congrArg Value.bool h13, tv, tv, tv, tv, tv, tv⟩
       ·intro vs gq stq hl hf
        obtain ⟨v0, v1, v2, v3, v4, v5, v6, v7, v8, v9, v10, v11, v12, rfl⟩ := len_k13 hl
        have e7 := (show v7 = .bool true from hf _ (memI 14 rfl) (by kernel_rfl))
        subst e7
        refine WP.stl 1 ?_
        refine WP.dn (Shown.ok (v := .bool (x6 == 0)) (by kernel_rfl) (Step.refl _ _) ?_)
        exact ⟨tv, tv, tv, tv, tv, tv, tv, tv, tv, tv, tv, tv, tv, tv, tv, congrArg Value.bool h14, tv, tv, tv, tv, tv⟩
       ·intro vs gq stq hl hf
        obtain ⟨v0, v1, v2, v3, v4, v5, v6, v7, v8, v9, v10, v11, v12, rfl⟩ := len_k13 hl
        have hB9 := (show Box gq (t + 9) b6 65 [encA .u8 d6, [.int .i64 x8], [.slice a12 n12 c12], [.slice a13 n13 c13]] [8, 1, 1, 1] from hf _ (memI 4 rfl) (by kernel_rfl))
        have e8 := (show v8 = .bool true from hf _ (memI 15 rfl) (by kernel_rfl))
        subst e8
        refine WP.loadB (v := AG [encA .u8 d6, [.int .i64 x8], [.slice a12 n12 c12], [.slice a13 n13 c13]]) hB9 (by kernel_rfl) (by kernel_rfl) ?_
        refine WP.dn (Shown.ok (v := AG [encA .u8 d6, [.int .i64 x8], [.slice a12 n12 c12], [.slice a13 n13 c13]]) (by kernel_rfl) (Step.refl _ _) ?_)
        exact ⟨tv, tv, tv, tv, tv, tv, tv, tv, tv, tv, tv, tv, tv, tv, tv, tv, rfl, tv, tv, tv, tv⟩
       ·intro vs gq stq hl hf
        obtain ⟨v0, v1, v2, v3, v4, v5, v6, v7, v8, v9, v10, v11, v12, rfl⟩ := len_k13 hl
        have hB3 := (show Box gq (t + 3) b3 65 [encA .u8 d3, [.int .i64 x3], [.slice a5 n5 c5], [.slice a6 n6 c6]] [8, 1, 1, 1] from hf _ (memI 0 rfl) (by kernel_rfl))
        have e8 := (show v8 = .bool true from hf _ (memI 15 rfl) (by kernel_rfl))
        subst e8
        refine WP.loadB (v := AG [encA .u8 d3, [.int .i64 x3], [.slice a5 n5 c5], [.slice a6 n6 c6]]) hB3 (by kernel_rfl) (by kernel_rfl) ?_
        refine WP.dn (Shown.ok (v := AG [encA .u8 d3, [.int .i64 x3], [.slice a5 n5 c5], [.slice a6 n6 c6]]) (by kernel_rfl) (Step.refl _ _) ?_)
        exact ⟨tv, tv, tv, tv, tv, tv, tv, tv, tv, tv, tv, tv, tv, tv, tv, tv, tv, rfl, tv, tv, tv⟩
       ·intro vs gq stq hl hf
        obtain ⟨v0, v1, v2, v3, v4, v5, v6, v7, v8, v9, v10, v11, v12, rfl⟩ := len_k13 hl
        have hR5 := (show RdS (Kd.int .u8) gq 5 a5 n5 c5 l5 from hf _ (memI 1 rfl) (by kernel_rfl))
        have hR6 := (show RdS (Kd.slice 5 (Kd.int .u8)) gq 24 a6 n6 c6 l6 from hf _ (memI 2 rfl) (by kernel_rfl))
        have hR12 := (show RdS (Kd.int .u8) gq 5 a12 n12 c12 l12 from hf _ (memI 5 rfl) (by kernel_rfl))
        have hR13 := (show RdS (Kd.slice 5 (Kd.int .u8)) gq 24 a13 n13 c13 l13 from hf _ (memI 6 rfl) (by kernel_rfl))
        have e8 := (show v8 = .bool true from hf _ (memI 15 rfl) (by kernel_rfl))
        subst e8
        have e9 := (show v9 = AG [encA .u8 d6, [.int .i64 x8], [.slice a12 n12 c12], [.slice a13 n13 c13]] from hf _ (memI 16 rfl) (by kernel_rfl))
        subst e9
        have e10 := (show v10 = AG [encA .u8 d3, [.int .i64 x3], [.slice a5 n5 c5], [.slice a6 n6 c6]] from hf _ (memI 17 rfl) (by kernel_rfl))
        subst e10
        have hcal14 := P.baizeref32_Same gq d6 x8 l12 l13 d3 x3 l5 l6 a12 n12 c12 a13 n13 c13 a5 n5 c5 a6 n6 c6 hR12 hR13 hR5 hR6 q10 hk14
        refine WP.callC hcal14 (by kernel_rfl) ?_
        rintro _ g28 st28 rfl
        refine WP.dn (Shown.o (v := .bool q10) st28.pure ?_)
        exact ⟨tv, tv, tv, tv, tv, tv, tv, tv, tv, tv, tv, tv, tv, tv, tv, tv, tv, tv, rfl, tv, tv⟩
       ·intro vs gq stq hl hf
        obtain ⟨v0, v1, v2, v3, v4, v5, v6, v7, v8, v9, v10, v11, v12, rfl⟩ := len_k13 hl
        have e8 := (show v8 = .bool true from hf _ (memI 15 rfl) (by kernel_rfl))
        subst e8
        have e11 := (show v11 = .bool q10 from hf _ (memI 18 rfl) (by kernel_rfl))
        subst e11
        refine WP.stl 1 ?_
        refine WP.dn (Shown.ok (v := .bool q10) (by kernel_rfl) (Step.refl _ _) ?_)
        exact ⟨tv, tv, tv, tv, tv, tv, tv, tv, tv, tv, tv, tv, tv, tv, tv, tv, tv, tv, tv, congrArg Value.bool h15, tv⟩
      intro vs g31 st31 hl hf
      obtain ⟨v0, v1, v2, v3, v4, v5, v6, v7, v8, v9, v10, v11, v12, rfl⟩ := len_k13 hl
      have e12 := (show v12 = .bool false from hf _ (memI 19 rfl) (by kernel_rfl))
      subst e12
      replace tot := tot.trans st31.toNo.pure
      refine NX.post ?_
      exact ⟨false, ⟨by kernel_rfl, by kernel_rfl⟩, tot, hs⟩
     replace hs := of_if_f hs h14
     refine CP.drawL (by kernel_rfl) [0, 1, 5, 7, 8, 9, 10, 13, 17] N.baizelaw32_StateBytes_0 [⟨none, [], [], fun l g => Box g (t + 3) b3 65 [encA .u8 d3, [.int .i64 x3], [.slice a5 n5 c5], [.slice a6 n6 c6]] [8, 1, 1, 1]⟩, ⟨none, [], [], fun l g => RdS (Kd.int .u8) g 5 a5 n5 c5 l5⟩, ⟨none, [], [], fun l g => RdS (Kd.slice 5 (Kd.int .u8)) g 24 a6 n6 c6 l6⟩, ⟨none, [], [], fun l g => RdS (Kd.int .u8) g 5 a7 n7 c7 l7⟩, ⟨some 0, [], [0], fun l g => l.getD 0 undef = .bool q9⟩, ⟨some 1, [], [1], fun l g => l.getD 0 undef = .bool true⟩, ⟨some 2, [], [2], fun l g => l.getD 0 undef = .bool true⟩, ⟨some 3, [], [3], fun l g => l.getD 0 undef = .string (bytesStr l7)⟩, ⟨some 4, [], [4], fun l g => l.getD 0 undef = AG [encA .u8 d3, [.int .i64 x3], [.slice a5 n5 c5], [.slice a6 n6 c6]]⟩, ⟨some 5, [], [5], fun l g => ∃ (a15 : Option Addr) (c15 : Nat), l.getD 0 undef = .slice a15 l15.length c15 ∧ OwnS (Kd.int .u8) g (t + 11) 5 a15 l15.length c15 l15⟩, ⟨some 6, [], [6], fun l g => l.getD 0 undef = .string (bytesStr l15)⟩, ⟨some 7, [], [7], fun l g => l.getD 0 undef = .bool true⟩, ⟨some 8, [], [8], fun l g => l.getD 0 undef = .bool false⟩] [[], [], [], [], [], [], [], [], []] [] [] [2, 3, 4, 6, 11, 12, 14, 15, 16, 18, 19, 20, 21, 22, 23, 24, 25, 26, 27] (by kernel_rfl) (by simp) (by simp) ⟨fun _ _ _ _ st h0 hl hj hB3 => (hB3.mono st (fun h => absurd (hl _ h) (by simp))), fun _ _ _ _ st h0 hl hj hR5 => (RdS.mono (e := 5) hR5 st h0), fun _ _ _ _ st h0 hl hj hR6 => (RdS.mono (e := 24) hR6 st h0), fun _ _ _ _ st h0 hl hj hR7 => (RdS.mono (e := 5) hR7 st h0), fun _ _ _ _ st h0 hl hj e0 => e0, fun _ _ _ _ st h0 hl hj e1 => e1, fun _ _ _ _ st h0 hl hj e2 => e2, fun _ _ _ _ st h0 hl hj e3 => e3, fun _ _ _ _ st h0 hl hj e4 => e4, fun _ _ _ _ st h0 hl hj ⟨a15, c15, e5, hR15⟩ => ⟨a15, c15, e5, (hR15.mono st h0 (fun h => absurd (hl _ h) (by simp)))⟩, fun _ _ _ _ st h0 hl hj e6 => e6, fun _ _ _ _ st h0 hl hj e7 => e7, fun _ _ _ _ st h0 hl hj e8 => e8, tv⟩ ⟨hB3, hR5, hR6, hR7, tv, tv, tv, tv, tv, tv, tv, tv, tv, tv⟩ (by kernel_rfl) (fun vs => by kernel_rfl) ?_ ?_ ?_
     ·intro j hj
      have hq : j = 0 ∨ j = 1 ∨ j = 2 ∨ j = 3 ∨ j = 4 ∨ j = 5 ∨ j = 6 ∨ j = 7 ∨ j = 8 ∨ j = 9 ∨ j = 10 ∨ j = 11 ∨ j = 12 ∨ j = 13 ∨ j = 14 ∨ j = 15 ∨ j = 16 ∨ j = 17 ∨ j = 18 := by have h : j < 19 := hj; omega
      rcases hq with rfl | rfl | rfl | rfl | rfl | rfl | rfl | rfl | rfl | rfl | rfl | rfl | rfl | rfl | rfl | rfl | rfl | rfl | rfl
      ·intro vs gq stq hl hf
       obtain ⟨v0, v1, v2, v3, v4, v5, v6, v7, v8, rfl⟩ := len_k9 hl
       have e1 := (show v1 = .bool true from hf _ (memI 5 rfl) (by kernel_rfl))
       subst e1
       show Option.isSome _ = true
       kernel_rfl
      ·intro vs gq stq hl hf
       obtain ⟨v0, v1, v2, v3, v4, v5, v6, v7, v8, rfl⟩ := len_k9 hl
       have e1 := (show v1 = .bool true from hf _ (memI 5 rfl) (by kernel_rfl))
       subst e1
       show Option.isSome _ = true
       kernel_rfl
      ·intro vs gq stq hl hf
       obtain ⟨v0, v1, v2, v3, v4, v5, v6, v7, v8, rfl⟩ := len_k9 hl
       have e1 := (show v1 = .bool true from hf _ (memI 5 rfl) (by kernel_rfl))
       subst e1
       show Option.isSome _ = true
       kernel_rfl
      ·intro vs gq stq hl hf
       obtain ⟨v0, v1, v2, v3, v4, v5, v6, v7, v8, rfl⟩ := len_k9 hl
       have e2 := (show v2 = .bool true from hf _ (memI 6 rfl) (by kernel_rfl))
       subst e2
       show Option.isSome _ = true
       kernel_rfl
      ·intro vs gq stq hl hf
       obtain ⟨v0, v1, v2, v3, v4, v5, v6, v7, v8, rfl⟩ := len_k9 hl
       have e2 := (show v2 = .bool true from hf _ (memI 6 rfl) (by kernel_rfl))
       subst e2
       have e3 := (show v3 = .string (bytesStr l7) from hf _ (memI 7 rfl) (by kernel_rfl))
       subst e3
       have e6 := (show v6 = .string (bytesStr l15) from hf _ (memI 10 rfl) (by kernel_rfl))
       subst e6
       show Option.isSome _ = true
       kernel_rfl
      ·intro vs gq stq hl hf
       obtain ⟨v0, v1, v2, v3, v4, v5, v6, v7, v8, rfl⟩ := len_k9 hl
       have e2 := (show v2 = .bool true from hf _ (memI 6 rfl) (by kernel_rfl))
       subst e2
       have e3 := (show v3 = .string (bytesStr l7) from hf _ (memI 7 rfl) (by kernel_rfl))
       subst e3
       have e6 := (show v6 = .string (bytesStr l15) from hf _ (memI 10 rfl) (by kernel_rfl))
       subst e6
       show Option.isSome _ = true
       kernel_rfl
      ·intro vs gq stq hl hf
       obtain ⟨v0, v1, v2, v3, v4, v5, v6, v7, v8, rfl⟩ := len_k9 hl
       have e7 := (show v7 = .bool true from hf _ (memI 11 rfl) (by kernel_rfl))
       subst e7
       show Option.isSome _ = true
       kernel_rfl
      ·intro vs gq stq hl hf
       obtain ⟨v0, v1, v2, v3, v4, v5, v6, v7, v8, rfl⟩ := len_k9 hl
       have e7 := (show v7 = .bool true from hf _ (memI 11 rfl) (by kernel_rfl))
       subst e7
       show Option.isSome _ = true
       kernel_rfl
      ·intro vs gq stq hl hf
       obtain ⟨v0, v1, v2, v3, v4, v5, v6, v7, v8, rfl⟩ := len_k9 hl
       have e7 := (show v7 = .bool true from hf _ (memI 11 rfl) (by kernel_rfl))
       subst e7
       show Option.isSome _ = true
       kernel_rfl
      ·intro vs gq stq hl hf
       obtain ⟨v0, v1, v2, v3, v4, v5, v6, v7, v8, rfl⟩ := len_k9 hl
       have e8 := (show v8 = .bool false from hf _ (memI 12 rfl) (by kernel_rfl))
       subst e8
       show Option.isSome _ = true
       kernel_rfl
      ·intro vs gq stq hl hf
       obtain ⟨v0, v1, v2, v3, v4, v5, v6, v7, v8, rfl⟩ := len_k9 hl
       have e8 := (show v8 = .bool false from hf _ (memI 12 rfl) (by kernel_rfl))
       subst e8
       show Option.isSome _ = true
       kernel_rfl
      ·intro vs gq stq hl hf
       obtain ⟨v0, v1, v2, v3, v4, v5, v6, v7, v8, rfl⟩ := len_k9 hl
       have e8 := (show v8 = .bool false from hf _ (memI 12 rfl) (by kernel_rfl))
       subst e8
       show Option.isSome _ = true
       kernel_rfl
      ·intro vs gq stq hl hf
       obtain ⟨v0, v1, v2, v3, v4, v5, v6, v7, v8, rfl⟩ := len_k9 hl
       have e8 := (show v8 = .bool false from hf _ (memI 12 rfl) (by kernel_rfl))
       subst e8
       show Option.isSome _ = true
       kernel_rfl
      ·intro vs gq stq hl hf
       obtain ⟨v0, v1, v2, v3, v4, v5, v6, v7, v8, rfl⟩ := len_k9 hl
       have e8 := (show v8 = .bool false from hf _ (memI 12 rfl) (by kernel_rfl))
       subst e8
       show Option.isSome _ = true
       kernel_rfl
      ·intro vs gq stq hl hf
       obtain ⟨v0, v1, v2, v3, v4, v5, v6, v7, v8, rfl⟩ := len_k9 hl
       have e8 := (show v8 = .bool false from hf _ (memI 12 rfl) (by kernel_rfl))
       subst e8
       show Option.isSome _ = true
       kernel_rfl
      ·intro vs gq stq hl hf
       obtain ⟨v0, v1, v2, v3, v4, v5, v6, v7, v8, rfl⟩ := len_k9 hl
       have e8 := (show v8 = .bool false from hf _ (memI 12 rfl) (by kernel_rfl))
       subst e8
       show Option.isSome _ = true
       kernel_rfl
      ·intro vs gq stq hl hf
       obtain ⟨v0, v1, v2, v3, v4, v5, v6, v7, v8, rfl⟩ := len_k9 hl
       have e8 := (show v8 = .bool false from hf _ (memI 12 rfl) (by kernel_rfl))
       subst e8
       show Option.isSome _ = true
       kernel_rfl
      ·intro vs gq stq hl hf
       obtain ⟨v0, v1, v2, v3, v4, v5, v6, v7, v8, rfl⟩ := len_k9 hl
       have e8 := (show v8 = .bool false from hf _ (memI 12 rfl) (by kernel_rfl))
       subst e8
       show Option.isSome _ = true
       kernel_rfl
      ·intro vs gq stq hl hf
       obtain ⟨v0, v1, v2, v3, v4, v5, v6, v7, v8, rfl⟩ := len_k9 hl
       have e8 := (show v8 = .bool false from hf _ (memI 12 rfl) (by kernel_rfl))
       subst e8
       show Option.isSome _ = true
       kernel_rfl
     ·intro j hj
      have hq : j = 0 ∨ j = 1 ∨ j = 2 ∨ j = 3 ∨ j = 4 ∨ j = 5 ∨ j = 6 ∨ j = 7 ∨ j = 8 := by have h : j < 9 := hj; omega
      rcases hq with rfl | rfl | rfl | rfl | rfl | rfl | rfl | rfl | rfl
      ·intro vs gq stq hl hf
       obtain ⟨v0, v1, v2, v3, v4, v5, v6, v7, v8, rfl⟩ := len_k9 hl
       have hcal12 := P.baizelaw32_told gq q9 hk12
       refine WP.callC hcal12 (by kernel_rfl) ?_
       rintro _ g26 st26 rfl
       refine WP.dn (Shown.o (v := .bool q9) st26.pure ?_)
       exact ⟨tv, tv, tv, tv, rfl, tv, tv, tv, tv, tv, tv, tv, tv, tv⟩
      ·intro vs gq stq hl hf
       obtain ⟨v0, v1, v2, v3, v4, v5, v6, v7, v8, rfl⟩ := len_k9 hl
       have e0 := (show v0 = .bool q9 from hf _ (memI 4 rfl) (by kernel_rfl))
       subst e0
       refine WP.stl 1 ?_
       refine WP.dn (Shown.ok (v := .bool q9) (by kernel_rfl) (Step.refl _ _) ?_)
       exact ⟨tv, tv, tv, tv, tv, congrArg Value.bool h11, tv, tv, tv, tv, tv, tv, tv, tv⟩
      ·intro vs gq stq hl hf
       obtain ⟨v0, v1, v2, v3, v4, v5, v6, v7, v8, rfl⟩ := len_k9 hl
       have e1 := (show v1 = .bool true from hf _ (memI 5 rfl) (by kernel_rfl))
       subst e1
       refine WP.stl 1 ?_
       refine WP.dn (Shown.ok (v := .bool (x4 == 0)) (by kernel_rfl) (Step.refl _ _) ?_)
       exact ⟨tv, tv, tv, tv, tv, tv, congrArg Value.bool h12, tv, tv, tv, tv, tv, tv, tv⟩
      ·intro vs gq stq hl hf
       obtain ⟨v0, v1, v2, v3, v4, v5, v6, v7, v8, rfl⟩ := len_k9 hl
       have hR7 := (show RdS (Kd.int .u8) gq 5 a7 n7 c7 l7 from hf _ (memI 3 rfl) (by kernel_rfl))
       have e2 := (show v2 = .bool true from hf _ (memI 6 rfl) (by kernel_rfl))
       subst e2
       refine WP.toStr (a := a7) (cp := c7) hR7.src hR7.len (by kernel_rfl) ?_
       refine WP.dn (Shown.ok (v := .string (bytesStr l7)) (by kernel_rfl) (Step.refl _ _) ?_)
       exact ⟨tv, tv, tv, tv, tv, tv, tv, rfl, tv, tv, tv, tv, tv, tv⟩
      ·intro vs gq stq hl hf
       obtain ⟨v0, v1, v2, v3, v4, v5, v6, v7, v8, rfl⟩ := len_k9 hl
       have hB3 := (show Box gq (t + 3) b3 65 [encA .u8 d3, [.int .i64 x3], [.slice a5 n5 c5], [.slice a6 n6 c6]] [8, 1, 1, 1] from hf _ (memI 0 rfl) (by kernel_rfl))
       have e2 := (show v2 = .bool true from hf _ (memI 6 rfl) (by kernel_rfl))
       subst e2
       refine WP.loadB (v := AG [encA .u8 d3, [.int .i64 x3], [.slice a5 n5 c5], [.slice a6 n6 c6]]) hB3 (by kernel_rfl) (by kernel_rfl) ?_
       refine WP.dn (Shown.ok (v := AG [encA .u8 d3, [.int .i64 x3], [.slice a5 n5 c5], [.slice a6 n6 c6]]) (by kernel_rfl) (Step.refl _ _) ?_)
       exact ⟨tv, tv, tv, tv, tv, tv, tv, tv, rfl, tv, tv, tv, tv, tv⟩
      ·intro vs gq stq hl hf
       obtain ⟨v0, v1, v2, v3, v4, v5, v6, v7, v8, rfl⟩ := len_k9 hl
       have hR5 := (show RdS (Kd.int .u8) gq 5 a5 n5 c5 l5 from hf _ (memI 1 rfl) (by kernel_rfl))
       have hR6 := (show RdS (Kd.slice 5 (Kd.int .u8)) gq 24 a6 n6 c6 l6 from hf _ (memI 2 rfl) (by kernel_rfl))
       have e2 := (show v2 = .bool true from hf _ (memI 6 rfl) (by kernel_rfl))
       subst e2
       have e4 := (show v4 = AG [encA .u8 d3, [.int .i64 x3], [.slice a5 n5 c5], [.slice a6 n6 c6]] from hf _ (memI 8 rfl) (by kernel_rfl))
       subst e4
       have hcal13 := P.baizeref32_Encode gq (t + 11) d3 x3 l5 l6 a5 n5 c5 a6 n6 c6 hR5 hR6 l15 hk13
       refine WP.callC hcal13 (by kernel_rfl) ?_
       rintro _ g27 st27 ⟨a15, n15, c15, rfl, hR15⟩
       obtain rfl := hR15.len
       refine WP.dn (Shown.o (v := .slice a15 l15.length c15) st27.pure ?_)
       exact ⟨tv, tv, tv, tv, tv, tv, tv, tv, tv, ⟨a15, c15, rfl, hR15⟩, tv, tv, tv, tv⟩
      ·intro vs gq stq hl hf
       obtain ⟨v0, v1, v2, v3, v4, v5, v6, v7, v8, rfl⟩ := len_k9 hl
       have e2 := (show v2 = .bool true from hf _ (memI 6 rfl) (by kernel_rfl))
       subst e2
       obtain ⟨a15, c15, e5, hR15⟩ := (show ∃ (a15 : Option Addr) (c15 : Nat), v5 = .slice a15 l15.length c15 ∧ OwnS (Kd.int .u8) gq (t + 11) 5 a15 l15.length c15 l15 from hf _ (memI 9 rfl) (by kernel_rfl))
       subst e5
       refine WP.toStr (a := a15) (cp := c15) hR15.src hR15.len (by kernel_rfl) ?_
       refine WP.dn (Shown.ok (v := .string (bytesStr l15)) (by kernel_rfl) (Step.refl _ _) ?_)
       exact ⟨tv, tv, tv, tv, tv, tv, tv, tv, tv, tv, rfl, tv, tv, tv⟩
      ·intro vs gq stq hl hf
       obtain ⟨v0, v1, v2, v3, v4, v5, v6, v7, v8, rfl⟩ := len_k9 hl
       have e2 := (show v2 = .bool true from hf _ (memI 6 rfl) (by kernel_rfl))
       subst e2
       have e3 := (show v3 = .string (bytesStr l7) from hf _ (memI 7 rfl) (by kernel_rfl))
       subst e3
       have e6 := (show v6 = .string (bytesStr l15) from hf _ (memI 10 rfl) (by kernel_rfl))
       subst e6
       refine WP.stl 1 ?_
       refine WP.dn (Shown.ok (v := .bool ((bytesStr l7).toList == (bytesStr l15).toList)) (by kernel_rfl) (Step.refl _ _) ?_)
       exact ⟨tv, tv, tv, tv, tv, tv, tv, tv, tv, tv, tv, congrArg Value.bool h13, tv, tv⟩
      ·intro vs gq stq hl hf
       obtain ⟨v0, v1, v2, v3, v4, v5, v6, v7, v8, rfl⟩ := len_k9 hl
       have e7 := (show v7 = .bool true from hf _ (memI 11 rfl) (by kernel_rfl))
       subst e7
       refine WP.stl 1 ?_
       refine WP.dn (Shown.ok (v := .bool (x6 == 0)) (by kernel_rfl) (Step.refl _ _) ?_)
       exact ⟨tv, tv, tv, tv, tv, tv, tv, tv, tv, tv, tv, tv, congrArg Value.bool h14, tv⟩
     intro vs g32 st32 hl hf
     obtain ⟨v0, v1, v2, v3, v4, v5, v6, v7, v8, rfl⟩ := len_k9 hl
     have e8 := (show v8 = .bool false from hf _ (memI 12 rfl) (by kernel_rfl))
     subst e8
     replace tot := tot.trans st32.toNo.pure
     refine NX.post ?_
     exact ⟨false, ⟨by kernel_rfl, by kernel_rfl⟩, tot, hs⟩
    replace hs := of_if_f hs h13
    refine CP.drawL (by kernel_rfl) [0, 1, 5, 7, 8, 9, 10, 13] N.baizelaw32_StateBytes_0 [⟨none, [], [], fun l g => Box g (t + 3) b3 65 [encA .u8 d3, [.int .i64 x3], [.slice a5 n5 c5], [.slice a6 n6 c6]] [8, 1, 1, 1]⟩, ⟨none, [], [], fun l g => RdS (Kd.int .u8) g 5 a5 n5 c5 l5⟩, ⟨none, [], [], fun l g => RdS (Kd.slice 5 (Kd.int .u8)) g 24 a6 n6 c6 l6⟩, ⟨none, [], [], fun l g => RdS (Kd.int .u8) g 5 a7 n7 c7 l7⟩, ⟨some 0, [], [0], fun l g => l.getD 0 undef = .bool q9⟩, ⟨some 1, [], [1], fun l g => l.getD 0 undef = .bool true⟩, ⟨some 2, [], [2], fun l g => l.getD 0 undef = .bool true⟩, ⟨some 3, [], [3], fun l g => l.getD 0 undef = .string (bytesStr l7)⟩, ⟨some 4, [], [4], fun l g => l.getD 0 undef = AG [encA .u8 d3, [.int .i64 x3], [.slice a5 n5 c5], [.slice a6 n6 c6]]⟩, ⟨some 5, [], [5], fun l g => ∃ (a15 : Option Addr) (c15 : Nat), l.getD 0 undef = .slice a15 l15.length c15 ∧ OwnS (Kd.int .u8) g (t + 11) 5 a15 l15.length c15 l15⟩, ⟨some 6, [], [6], fun l g => l.getD 0 undef = .string (bytesStr l15)⟩, ⟨some 7, [], [7], fun l g => l.getD 0 undef = .bool false⟩] [[], [], [], [], [], [], [], []] [] [] [2, 3, 4, 6, 11, 12, 14, 15, 16, 17, 18, 19, 20, 21, 22, 23, 24, 25, 26, 27] (by kernel_rfl) (by simp) (by simp) ⟨fun _ _ _ _ st h0 hl hj hB3 => (hB3.mono st (fun h => absurd (hl _ h) (by simp))), fun _ _ _ _ st h0 hl hj hR5 => (RdS.mono (e := 5) hR5 st h0), fun _ _ _ _ st h0 hl hj hR6 => (RdS.mono (e := 24) hR6 st h0), fun _ _ _ _ st h0 hl hj hR7 => (RdS.mono (e := 5) hR7 st h0), fun _ _ _ _ st h0 hl hj e0 => e0, fun _ _ _ _ st h0 hl hj e1 => e1, fun _ _ _ _ st h0 hl hj e2 => e2, fun _ _ _ _ st h0 hl hj e3 => e3, fun _ _ _ _ st h0 hl hj e4 => e4, fun _ _ _ _ st h0 hl hj ⟨a15, c15, e5, hR15⟩ => ⟨a15, c15, e5, (hR15.mono st h0 (fun h => absurd (hl _ h) (by simp)))⟩, fun _ _ _ _ st h0 hl hj e6 => e6, fun _ _ _ _ st h0 hl hj e7 => e7, tv⟩ ⟨hB3, hR5, hR6, hR7, tv, tv, tv, tv, tv, tv, tv, tv, tv⟩ (by kernel_rfl) (fun vs => by kernel_rfl) ?_ ?_ ?_
    ·intro j hj
     have hq : j = 0 ∨ j = 1 ∨ j = 2 ∨ j = 3 ∨ j = 4 ∨ j = 5 ∨ j = 6 ∨ j = 7 ∨ j = 8 ∨ j = 9 ∨ j = 10 ∨ j = 11 ∨ j = 12 ∨ j = 13 ∨ j = 14 ∨ j = 15 ∨ j = 16 ∨ j = 17 ∨ j = 18 ∨ j = 19 := by have h : j < 20 := hj; omega
     rcases hq with rfl | rfl | rfl | rfl | rfl | rfl | rfl | rfl | rfl | rfl | rfl | rfl | rfl | rfl | rfl | rfl | rfl | rfl | rfl | rfl
     ·intro vs gq stq hl hf
      obtain ⟨v0, v1, v2, v3, v4, v5, v6, v7, rfl⟩ := len_k8 hl
      have e1 := (show v1 = .bool true from hf _ (memI 5 rfl) (by kernel_rfl))
      subst e1
      show Option.isSome _ = true
      kernel_rfl
     ·intro vs gq stq hl hf
      obtain ⟨v0, v1, v2, v3, v4, v5, v6, v7, rfl⟩ := len_k8 hl
      have e1 := (show v1 = .bool true from hf _ (memI 5 rfl) (by kernel_rfl))
      subst e1
      show Option.isSome _ = true
      kernel_rfl
     ·intro vs gq stq hl hf
      obtain ⟨v0, v1, v2, v3, v4, v5, v6, v7, rfl⟩ := len_k8 hl
      have e1 := (show v1 = .bool true from hf _ (memI 5 rfl) (by kernel_rfl))
      subst e1
      show Option.isSome _ = true
      kernel_rfl
     ·intro vs gq stq hl hf
      obtain ⟨v0, v1, v2, v3, v4, v5, v6, v7, rfl⟩ := len_k8 hl
      have e2 := (show v2 = .bool true from hf _ (memI 6 rfl) (by kernel_rfl))
      subst e2
      show Option.isSome _ = true
      kernel_rfl
     ·intro vs gq stq hl hf
      obtain ⟨v0, v1, v2, v3, v4, v5, v6, v7, rfl⟩ := len_k8 hl
      have e2 := (show v2 = .bool true from hf _ (memI 6 rfl) (by kernel_rfl))
      subst e2
      have e3 := (show v3 = .string (bytesStr l7) from hf _ (memI 7 rfl) (by kernel_rfl))
      subst e3
      have e6 := (show v6 = .string (bytesStr l15) from hf _ (memI 10 rfl) (by kernel_rfl))
      subst e6
      show Option.isSome _ = true
      kernel_rfl
     ·intro vs gq stq hl hf
      obtain ⟨v0, v1, v2, v3, v4, v5, v6, v7, rfl⟩ := len_k8 hl
      have e2 := (show v2 = .bool true from hf _ (memI 6 rfl) (by kernel_rfl))
      subst e2
      have e3 := (show v3 = .string (bytesStr l7) from hf _ (memI 7 rfl) (by kernel_rfl))
      subst e3
      have e6 := (show v6 = .string (bytesStr l15) from hf _ (memI 10 rfl) (by kernel_rfl))
      subst e6
      show Option.isSome _ = true
      kernel_rfl
     ·intro vs gq stq hl hf
      obtain ⟨v0, v1, v2, v3, v4, v5, v6, v7, rfl⟩ := len_k8 hl
      have e7 := (show v7 = .bool false from hf _ (memI 11 rfl) (by kernel_rfl))
      subst e7
      show Option.isSome _ = true
      kernel_rfl
     ·intro vs gq stq hl hf
      obtain ⟨v0, v1, v2, v3, v4, v5, v6, v7, rfl⟩ := len_k8 hl
      have e7 := (show v7 = .bool false from hf _ (memI 11 rfl) (by kernel_rfl))
      subst e7
      show Option.isSome _ = true
      kernel_rfl
     ·intro vs gq stq hl hf
      obtain ⟨v0, v1, v2, v3, v4, v5, v6, v7, rfl⟩ := len_k8 hl
      have e7 := (show v7 = .bool false from hf _ (memI 11 rfl) (by kernel_rfl))
      subst e7
      show Option.isSome _ = true
      kernel_rfl
     ·intro vs gq stq hl hf
      obtain ⟨v0, v1, v2, v3, v4, v5, v6, v7, rfl⟩ := len_k8 hl
      have e7 := (show v7 = .bool false from hf _ (memI 11 rfl) (by kernel_rfl))
      subst e7
      show Option.isSome _ = true
      kernel_rfl
     ·intro vs gq stq hl hf
      obtain ⟨v0, v1, v2, v3, v4, v5, v6, v7, rfl⟩ := len_k8 hl
      have e7 := (show v7 = .bool false from hf _ (memI 11 rfl) (by kernel_rfl))
      subst e7
      show Option.isSome _ = true
      kernel_rfl
     ·intro vs gq stq hl hf
      obtain ⟨v0, v1, v2, v3, v4, v5, v6, v7, rfl⟩ := len_k8 hl
      have e7 := (show v7 = .bool false from hf _ (memI 11 rfl) (by kernel_rfl))
      subst e7
      show Option.isSome _ = true
      kernel_rfl
     ·intro vs gq stq hl hf
      obtain ⟨v0, v1, v2, v3, v4, v5, v6, v7, rfl⟩ := len_k8 hl
      have e7 := (show v7 = .bool false from hf _ (memI 11 rfl) (by kernel_rfl))
      subst e7
      show Option.isSome _ = true
      kernel_rfl
     ·intro vs gq stq hl hf
      obtain ⟨v0, v1, v2, v3, v4, v5, v6, v7, rfl⟩ := len_k8 hl
      have e7 := (show v7 = .bool false from hf _ (memI 11 rfl) (by kernel_rfl))
      subst e7
      show Option.isSome _ = true
      kernel_rfl
     ·intro vs gq stq hl hf
      obtain ⟨v0, v1, v2, v3, v4, v5, v6, v7, rfl⟩ := len_k8 hl
      have e7 := (show v7 = .bool false from hf _ (memI 11 rfl) (by kernel_rfl))
      subst e7
      show Option.isSome _ = true
      kernel_rfl
     ·intro vs gq stq hl hf
      obtain ⟨v0, v1, v2, v3, v4, v5, v6, v7, rfl⟩ := len_k8 hl
      have e7 := (show v7 = .bool false from hf _ (memI 11 rfl) (by kernel_rfl))
      subst e7
      show Option.isSome _ = true
      kernel_rfl
     ·intro vs gq stq hl hf
      obtain ⟨v0, v1, v2, v3, v4, v5, v6, v7, rfl⟩ := len_k8 hl
      have e7 := (show v7 = .bool false from hf _ (memI 11 rfl) (by kernel_rfl))
      subst e7
      show Option.isSome _ = true
      kernel_rfl
     ·intro vs gq stq hl hf
      obtain ⟨v0, v1, v2, v3, v4, v5, v6, v7, rfl⟩ := len_k8 hl
      have e7 := (show v7 = .bool false from hf _ (memI 11 rfl) (by kernel_rfl))
      subst e7
      show Option.isSome _ = true
      kernel_rfl
     ·intro vs gq stq hl hf
      obtain ⟨v0, v1, v2, v3, v4, v5, v6, v7, rfl⟩ := len_k8 hl
      have e7 := (show v7 = .bool false from hf _ (memI 11 rfl) (by kernel_rfl))
      subst e7
      show Option.isSome _ = true
      kernel_rfl
     ·intro vs gq stq hl hf
      obtain ⟨v0, v1, v2, v3, v4, v5, v6, v7, rfl⟩ := len_k8 hl
      have e7 := (show v7 = .bool false from hf _ (memI 11 rfl) (by kernel_rfl))
      subst e7
      show Option.isSome _ = true
      kernel_rfl
    ·intro j hj
     have hq : j = 0 ∨ j = 1 ∨ j = 2 ∨ j = 3 ∨ j = 4 ∨ j = 5 ∨ j = 6 ∨ j = 7 := by have h : j < 8 := hj; omega
     rcases hq with rfl | rfl | rfl | rfl | rfl | rfl | rfl | rfl
     ·intro vs gq stq hl hf
      obtain ⟨v0, v1, v2, v3, v4, v5, v6, v7, rfl⟩ := len_k8 hl
      have hcal12 := P.baizelaw32_told gq q9 hk12
      refine WP.callC hcal12 (by kernel_rfl) ?_
      rintro _ g26 st26 rfl
      refine WP.dn (Shown.o (v := .bool q9) st26.pure ?_)
      exact ⟨tv, tv, tv, tv, rfl, tv, tv, tv, tv, tv, tv, tv, tv⟩
     ·intro vs gq stq hl hf
      obtain ⟨v0, v1, v2, v3, v4, v5, v6, v7, rfl⟩ := len_k8 hl
      have e0 := (show v0 = .bool q9 from hf _ (memI 4 rfl) (by kernel_rfl))
      subst e0
      refine WP.stl 1 ?_
      refine WP.dn (Shown.ok (v := .bool q9) (by kernel_rfl) (Step.refl _ _) ?_)
      exact ⟨tv, tv, tv, tv, tv, congrArg Value.bool h11, tv, tv, tv, tv, tv, tv, tv⟩
     ·intro vs gq stq hl hf
      obtain ⟨v0, v1, v2, v3, v4, v5, v6, v7, rfl⟩ := len_k8 hl
      have e1 := (show v1 = .bool true from hf _ (memI 5 rfl) (by kernel_rfl))
      subst e1
      refine WP.stl 1 ?_
      refine WP.dn (Shown.ok (v := .bool (x4 == 0)) (by kernel_rfl) (Step.refl _ _) ?_)
      exact ⟨tv, tv, tv, tv, tv, tv, congrArg Value.bool h12, tv, tv, tv, tv, tv, tv⟩
     ·intro vs gq stq hl hf
      obtain ⟨v0, v1, v2, v3, v4, v5, v6, v7, rfl⟩ := len_k8 hl
      have hR7 := (show RdS (Kd.int .u8) gq 5 a7 n7 c7 l7 from hf _ (memI 3 rfl) (by kernel_rfl))
      have e2 := (show v2 = .bool true from hf _ (memI 6 rfl) (by kernel_rfl))
      subst e2
      refine WP.toStr (a := a7) (cp := c7) hR7.src hR7.len (by kernel_rfl) ?_
      refine WP.dn (Shown.ok (v := .string (bytesStr l7)) (by kernel_rfl) (Step.refl _ _) ?_)
      exact ⟨tv, tv, tv, tv, tv, tv, tv, rfl, tv, tv, tv, tv, tv⟩
     ·intro vs gq stq hl hf
      obtain ⟨v0, v1, v2, v3, v4, v5, v6, v7, rfl⟩ := len_k8 hl
      have hB3 := (show Box gq (t + 3) b3 65 [encA .u8 d3, [.int .i64 x3], [.slice a5 n5 c5], [.slice a6 n6 c6]] [8, 1, 1, 1] from hf _ (memI 0 rfl) (by kernel_rfl))
      have e2 := (show v2 = .bool true from hf _ (memI 6 rfl) (by kernel_rfl))
      subst e2
      refine WP.loadB (v := AG [encA .u8 d3, [.int .i64 x3], [.slice a5 n5 c5], [.slice a6 n6 c6]]) hB3 (by kernel_rfl) (by kernel_rfl) ?_
      refine WP.dn (Shown.ok (v := AG [encA .u8 d3, [.int .i64 x3], [.slice a5 n5 c5], [.slice a6 n6 c6]]) (by kernel_rfl) (Step.refl _ _) ?_)
      exact ⟨tv, tv, tv, tv, tv, tv, tv, tv, rfl, tv, tv, tv, tv⟩
     ·intro vs gq stq hl hf
      obtain ⟨v0, v1, v2, v3, v4, v5, v6, v7, rfl⟩ := len_k8 hl
      have hR5 := (show RdS (Kd.int .u8) gq 5 a5 n5 c5 l5 from hf _ (memI 1 rfl) (by kernel_rfl))
      have hR6 := (show RdS (Kd.slice 5 (Kd.int .u8)) gq 24 a6 n6 c6 l6 from hf _ (memI 2 rfl) (by kernel_rfl))
      have e2 := (show v2 = .bool true from hf _ (memI 6 rfl) (by kernel_rfl))
      subst e2
      have e4 := (show v4 = AG [encA .u8 d3, [.int .i64 x3], [.slice a5 n5 c5], [.slice a6 n6 c6]] from hf _ (memI 8 rfl) (by kernel_rfl))
      subst e4
      have hcal13 := P.baizeref32_Encode gq (t + 11) d3 x3 l5 l6 a5 n5 c5 a6 n6 c6 hR5 hR6 l15 hk13
      refine WP.callC hcal13 (by kernel_rfl) ?_
      rintro _ g27 st27 ⟨a15, n15, c15, rfl, hR15⟩
      obtain rfl := hR15.len
      refine WP.dn (Shown.o (v := .slice a15 l15.length c15) st27.pure ?_)
      exact ⟨tv, tv, tv, tv, tv, tv, tv, tv, tv, ⟨a15, c15, rfl, hR15⟩, tv, tv, tv⟩
     ·intro vs gq stq hl hf
      obtain ⟨v0, v1, v2, v3, v4, v5, v6, v7, rfl⟩ := len_k8 hl
      have e2 := (show v2 = .bool true from hf _ (memI 6 rfl) (by kernel_rfl))
      subst e2
      obtain ⟨a15, c15, e5, hR15⟩ := (show ∃ (a15 : Option Addr) (c15 : Nat), v5 = .slice a15 l15.length c15 ∧ OwnS (Kd.int .u8) gq (t + 11) 5 a15 l15.length c15 l15 from hf _ (memI 9 rfl) (by kernel_rfl))
      subst e5
      refine WP.toStr (a := a15) (cp := c15) hR15.src hR15.len (by kernel_rfl) ?_
      refine WP.dn (Shown.ok (v := .string (bytesStr l15)) (by kernel_rfl) (Step.refl _ _) ?_)
      exact ⟨tv, tv, tv, tv, tv, tv, tv, tv, tv, tv, rfl, tv, tv⟩
     ·intro vs gq stq hl hf
      obtain ⟨v0, v1, v2, v3, v4, v5, v6, v7, rfl⟩ := len_k8 hl
      have e2 := (show v2 = .bool true from hf _ (memI 6 rfl) (by kernel_rfl))
      subst e2
      have e3 := (show v3 = .string (bytesStr l7) from hf _ (memI 7 rfl) (by kernel_rfl))
      subst e3
      have e6 := (show v6 = .string (bytesStr l15) from hf _ (memI 10 rfl) (by kernel_rfl))
      subst e6
      refine WP.stl 1 ?_
      refine WP.dn (Shown.ok (v := .bool ((bytesStr l7).toList == (bytesStr l15).toList)) (by kernel_rfl) (Step.refl _ _) ?_)
      exact ⟨tv, tv, tv, tv, tv, tv, tv, tv, tv, tv, tv, congrArg Value.bool h13, tv⟩
    intro vs g33 st33 hl hf
    obtain ⟨v0, v1, v2, v3, v4, v5, v6, v7, rfl⟩ := len_k8 hl
    have e7 := (show v7 = .bool false from hf _ (memI 11 rfl) (by kernel_rfl))
    subst e7
    replace tot := tot.trans st33.toNo.pure
    refine NX.post ?_
    exact ⟨false, ⟨by kernel_rfl, by kernel_rfl⟩, tot, hs⟩
   replace hs := of_if_f hs h12
   refine CP.drawL (by kernel_rfl) [0, 1, 5] N.baizelaw32_StateBytes_0 [⟨some 0, [], [0], fun l g => l.getD 0 undef = .bool q9⟩, ⟨some 1, [], [1], fun l g => l.getD 0 undef = .bool true⟩, ⟨some 2, [], [2], fun l g => l.getD 0 undef = .bool false⟩] [[], [], []] [] [] [2, 3, 4, 6, 7, 8, 9, 10, 11, 12, 13, 14, 15, 16, 17, 18, 19, 20, 21, 22, 23, 24, 25, 26, 27] (by kernel_rfl) (by simp) (by simp) ⟨fun _ _ _ _ st h0 hl hj e0 => e0, fun _ _ _ _ st h0 hl hj e1 => e1, fun _ _ _ _ st h0 hl hj e2 => e2, tv⟩ ⟨tv, tv, tv, tv⟩ (by kernel_rfl) (fun vs => by kernel_rfl) ?_ ?_ ?_
   ·intro j hj
    have hq : j = 0 ∨ j = 1 ∨ j = 2 ∨ j = 3 ∨ j = 4 ∨ j = 5 ∨ j = 6 ∨ j = 7 ∨ j = 8 ∨ j = 9 ∨ j = 10 ∨ j = 11 ∨ j = 12 ∨ j = 13 ∨ j = 14 ∨ j = 15 ∨ j = 16 ∨ j = 17 ∨ j = 18 ∨ j = 19 ∨ j = 20 ∨ j = 21 ∨ j = 22 ∨ j = 23 ∨ j = 24 := by have h : j < 25 := hj; omega
    rcases hq with rfl | rfl | rfl | rfl | rfl | rfl | rfl | rfl | rfl | rfl | rfl | rfl | rfl | rfl | rfl | rfl | rfl | rfl | rfl | rfl | rfl | rfl | rfl | rfl | rfl
    ·intro vs gq stq hl hf
     obtain ⟨v0, v1, v2, rfl⟩ := len_k3 hl
     have e1 := (show v1 = .bool true from hf _ (memI 1 rfl) (by kernel_rfl))
     subst e1
     show Option.isSome _ = true
     kernel_rfl
    ·intro vs gq stq hl hf
     obtain ⟨v0, v1, v2, rfl⟩ := len_k3 hl
     have e1 := (show v1 = .bool true from hf _ (memI 1 rfl) (by kernel_rfl))
     subst e1
     show Option.isSome _ = true
     kernel_rfl
    ·intro vs gq stq hl hf
     obtain ⟨v0, v1, v2, rfl⟩ := len_k3 hl
     have e1 := (show v1 = .bool true from hf _ (memI 1 rfl) (by kernel_rfl))
     subst e1
     show Option.isSome _ = true
     kernel_rfl
    ·intro vs gq stq hl hf
     obtain ⟨v0, v1, v2, rfl⟩ := len_k3 hl
     have e2 := (show v2 = .bool false from hf _ (memI 2 rfl) (by kernel_rfl))
     subst e2
     show Option.isSome _ = true
     kernel_rfl
    ·intro vs gq stq hl hf
     obtain ⟨v0, v1, v2, rfl⟩ := len_k3 hl
     have e2 := (show v2 = .bool false from hf _ (memI 2 rfl) (by kernel_rfl))
     subst e2
     show Option.isSome _ = true
     kernel_rfl
    ·intro vs gq stq hl hf
     obtain ⟨v0, v1, v2, rfl⟩ := len_k3 hl
     have e2 := (show v2 = .bool false from hf _ (memI 2 rfl) (by kernel_rfl))
     subst e2
     show Option.isSome _ = true
     kernel_rfl
    ·intro vs gq stq hl hf
     obtain ⟨v0, v1, v2, rfl⟩ := len_k3 hl
     have e2 := (show v2 = .bool false from hf _ (memI 2 rfl) (by kernel_rfl))
     subst e2
     show Option.isSome _ = true
     kernel_rfl
    ·intro vs gq stq hl hf
     obtain ⟨v0, v1, v2, rfl⟩ := len_k3 hl
     have e2 := (show v2 = .bool false from hf _ (memI 2 rfl) (by kernel_rfl))
     subst e2
     show Option.isSome _ = true
     kernel_rfl
    ·intro vs gq stq hl hf
     obtain ⟨v0, v1, v2, rfl⟩ := len_k3 hl
     have e2 := (show v2 = .bool false from hf _ (memI 2 rfl) (by kernel_rfl))
     subst e2
     show Option.isSome _ = true
     kernel_rfl
    ·intro vs gq stq hl hf
     obtain ⟨v0, v1, v2, rfl⟩ := len_k3 hl
     have e2 := (show v2 = .bool false from hf _ (memI 2 rfl) (by kernel_rfl))
     subst e2
     show Option.isSome _ = true
     kernel_rfl
    ·intro vs gq stq hl hf
     obtain ⟨v0, v1, v2, rfl⟩ := len_k3 hl
     have e2 := (show v2 = .bool false from hf _ (memI 2 rfl) (by kernel_rfl))
     subst e2
     show Option.isSome _ = true
     kernel_rfl
    ·intro vs gq stq hl hf
     obtain ⟨v0, v1, v2, rfl⟩ := len_k3 hl
     have e2 := (show v2 = .bool false from hf _ (memI 2 rfl) (by kernel_rfl))
     subst e2
     show Option.isSome _ = true
     kernel_rfl
    ·intro vs gq stq hl hf
     obtain ⟨v0, v1, v2, rfl⟩ := len_k3 hl
     have e2 := (show v2 = .bool false from hf _ (memI 2 rfl) (by kernel_rfl))
     subst e2
     show Option.isSome _ = true
     kernel_rfl
    ·intro vs gq stq hl hf
     obtain ⟨v0, v1, v2, rfl⟩ := len_k3 hl
     have e2 := (show v2 = .bool false from hf _ (memI 2 rfl) (by kernel_rfl))
     subst e2
     show Option.isSome _ = true
     kernel_rfl
    ·intro vs gq stq hl hf
     obtain ⟨v0, v1, v2, rfl⟩ := len_k3 hl
     have e2 := (show v2 = .bool false from hf _ (memI 2 rfl) (by kernel_rfl))
     subst e2
     show Option.isSome _ = true
     kernel_rfl
    ·intro vs gq stq hl hf
     obtain ⟨v0, v1, v2, rfl⟩ := len_k3 hl
     have e2 := (show v2 = .bool false from hf _ (memI 2 rfl) (by kernel_rfl))
     subst e2
     show Option.isSome _ = true
     kernel_rfl
    ·intro vs gq stq hl hf
     obtain ⟨v0, v1, v2, rfl⟩ := len_k3 hl
     have e2 := (show v2 = .bool false from hf _ (memI 2 rfl) (by kernel_rfl))
     subst e2
     show Option.isSome _ = true
     kernel_rfl
    ·intro vs gq stq hl hf
     obtain ⟨v0, v1, v2, rfl⟩ := len_k3 hl
     have e2 := (show v2 = .bool false from hf _ (memI 2 rfl) (by kernel_rfl))
     subst e2
     show Option.isSome _ = true
     kernel_rfl
    ·intro vs gq stq hl hf
     obtain ⟨v0, v1, v2, rfl⟩ := len_k3 hl
     have e2 := (show v2 = .bool false from hf _ (memI 2 rfl) (by kernel_rfl))
     subst e2
     show Option.isSome _ = true
     kernel_rfl
    ·intro vs gq stq hl hf
     obtain ⟨v0, v1, v2, rfl⟩ := len_k3 hl
     have e2 := (show v2 = .bool false from hf _ (memI 2 rfl) (by kernel_rfl))
     subst e2
     show Option.isSome _ = true
     kernel_rfl
    ·intro vs gq stq hl hf
     obtain ⟨v0, v1, v2, rfl⟩ := len_k3 hl
     have e2 := (show v2 = .bool false from hf _ (memI 2 rfl) (by kernel_rfl))
     subst e2
     show Option.isSome _ = true
     kernel_rfl
    ·intro vs gq stq hl hf
     obtain ⟨v0, v1, v2, rfl⟩ := len_k3 hl
     have e2 := (show v2 = .bool false from hf _ (memI 2 rfl) (by kernel_rfl))
     subst e2
     show Option.isSome _ = true
     kernel_rfl
    ·intro vs gq stq hl hf
     obtain ⟨v0, v1, v2, rfl⟩ := len_k3 hl
     have e2 := (show v2 = .bool false from hf _ (memI 2 rfl) (by kernel_rfl))
     subst e2
     show Option.isSome _ = true
     kernel_rfl
    ·intro vs gq stq hl hf
     obtain ⟨v0, v1, v2, rfl⟩ := len_k3 hl
     have e2 := (show v2 = .bool false from hf _ (memI 2 rfl) (by kernel_rfl))
     subst e2
     show Option.isSome _ = true
     kernel_rfl
    ·intro vs gq stq hl hf
     obtain ⟨v0, v1, v2, rfl⟩ := len_k3 hl
     have e2 := (show v2 = .bool false from hf _ (memI 2 rfl) (by kernel_rfl))
     subst e2
     show Option.isSome _ = true
     kernel_rfl
   ·intro j hj
    have hq : j = 0 ∨ j = 1 ∨ j = 2 := by have h : j < 3 := hj; omega
    rcases hq with rfl | rfl | rfl
    ·intro vs gq stq hl hf
     obtain ⟨v0, v1, v2, rfl⟩ := len_k3 hl
     have hcal12 := P.baizelaw32_told gq q9 hk12
     refine WP.callC hcal12 (by kernel_rfl) ?_
     rintro _ g26 st26 rfl
     refine WP.dn (Shown.o (v := .bool q9) st26.pure ?_)
     exact ⟨rfl, tv, tv, tv⟩
    ·intro vs gq stq hl hf
     obtain ⟨v0, v1, v2, rfl⟩ := len_k3 hl
     have e0 := (show v0 = .bool q9 from hf _ (memI 0 rfl) (by kernel_rfl))
     subst e0
     refine WP.stl 1 ?_
     refine WP.dn (Shown.ok (v := .bool q9) (by kernel_rfl) (Step.refl _ _) ?_)
     exact ⟨tv, congrArg Value.bool h11, tv, tv⟩
    ·intro vs gq stq hl hf
     obtain ⟨v0, v1, v2, rfl⟩ := len_k3 hl
     have e1 := (show v1 = .bool true from hf _ (memI 1 rfl) (by kernel_rfl))
     subst e1
     refine WP.stl 1 ?_
     refine WP.dn (Shown.ok (v := .bool (x4 == 0)) (by kernel_rfl) (Step.refl _ _) ?_)
     exact ⟨tv, tv, congrArg Value.bool h12, tv⟩
   intro vs g34 st34 hl hf
   obtain ⟨v0, v1, v2, rfl⟩ := len_k3 hl
   have e2 := (show v2 = .bool false from hf _ (memI 2 rfl) (by kernel_rfl))
   subst e2
   replace tot := tot.trans st34.toNo.pure
   refine NX.post ?_
   exact ⟨false, ⟨by kernel_rfl, by kernel_rfl⟩, tot, hs⟩
  replace hs := of_if_f hs h11
  refine CP.drawL (by kernel_rfl) [0, 1] N.baizelaw32_StateBytes_0 [⟨some 0, [], [0], fun l g => l.getD 0 undef = .bool q9⟩, ⟨some 1, [], [1], fun l g => l.getD 0 undef = .bool false⟩] [[], []] [] [] [2, 3, 4, 5, 6, 7, 8, 9, 10, 11, 12, 13, 14, 15, 16, 17, 18, 19, 20, 21, 22, 23, 24, 25, 26, 27] (by kernel_rfl) (by simp) (by simp) ⟨fun _ _ _ _ st h0 hl hj e0 => e0, fun _ _ _ _ st h0 hl hj e1 => e1, tv⟩ ⟨tv, tv, tv⟩ (by kernel_rfl) (fun vs => by kernel_rfl) ?_ ?_ ?_
  ·intro j hj
   have hq : j = 0 ∨ j = 1 ∨ j = 2 ∨ j = 3 ∨ j = 4 ∨ j = 5 ∨ j = 6 ∨ j = 7 ∨ j = 8 ∨ j = 9 ∨ j = 10 ∨ j = 11 ∨ j = 12 ∨ j = 13 ∨ j = 14 ∨ j = 15 ∨ j = 16 ∨ j = 17 ∨ j = 18 ∨ j = 19 ∨ j = 20 ∨ j = 21 ∨ j = 22 ∨ j = 23 ∨ j = 24 ∨ j = 25 := by have h : j < 26 := hj; omega
   rcases hq with rfl | rfl | rfl | rfl | rfl | rfl | rfl | rfl | rfl | rfl | rfl | rfl | rfl | rfl | rfl | rfl | rfl | rfl | rfl | rfl | rfl | rfl | rfl | rfl | rfl | rfl
   ·intro vs gq stq hl hf
    obtain ⟨v0, v1, rfl⟩ := len_k2 hl
    have e1 := (show v1 = .bool false from hf _ (memI 1 rfl) (by kernel_rfl))
    subst e1
    show Option.isSome _ = true
    kernel_rfl
   ·intro vs gq stq hl hf
    obtain ⟨v0, v1, rfl⟩ := len_k2 hl
    have e1 := (show v1 = .bool false from hf _ (memI 1 rfl) (by kernel_rfl))
    subst e1
    show Option.isSome _ = true
    kernel_rfl
   ·intro vs gq stq hl hf
    obtain ⟨v0, v1, rfl⟩ := len_k2 hl
    have e1 := (show v1 = .bool false from hf _ (memI 1 rfl) (by kernel_rfl))
    subst e1
    show Option.isSome _ = true
    kernel_rfl
   ·intro vs gq stq hl hf
    obtain ⟨v0, v1, rfl⟩ := len_k2 hl
    have e1 := (show v1 = .bool false from hf _ (memI 1 rfl) (by kernel_rfl))
    subst e1
    show Option.isSome _ = true
    kernel_rfl
   ·intro vs gq stq hl hf
    obtain ⟨v0, v1, rfl⟩ := len_k2 hl
    have e1 := (show v1 = .bool false from hf _ (memI 1 rfl) (by kernel_rfl))
    subst e1
    show Option.isSome _ = true
    kernel_rfl
   ·intro vs gq stq hl hf
    obtain ⟨v0, v1, rfl⟩ := len_k2 hl
    have e1 := (show v1 = .bool false from hf _ (memI 1 rfl) (by kernel_rfl))
    subst e1
    show Option.isSome _ = true
    kernel_rfl
   ·intro vs gq stq hl hf
    obtain ⟨v0, v1, rfl⟩ := len_k2 hl
    have e1 := (show v1 = .bool false from hf _ (memI 1 rfl) (by kernel_rfl))
    subst e1
    show Option.isSome _ = true
    kernel_rfl
   ·intro vs gq stq hl hf
    obtain ⟨v0, v1, rfl⟩ := len_k2 hl
    have e1 := (show v1 = .bool false from hf _ (memI 1 rfl) (by kernel_rfl))
    subst e1
    show Option.isSome _ = true
    kernel_rfl
   ·intro vs gq stq hl hf
    obtain ⟨v0, v1, rfl⟩ := len_k2 hl
    have e1 := (show v1 = .bool false from hf _ (memI 1 rfl) (by kernel_rfl))
    subst e1
    show Option.isSome _ = true
    kernel_rfl
   ·intro vs gq stq hl hf
    obtain ⟨v0, v1, rfl⟩ := len_k2 hl
    have e1 := (show v1 = .bool false from hf _ (memI 1 rfl) (by kernel_rfl))
    subst e1
    show Option.isSome _ = true
    kernel_rfl
   ·intro vs gq stq hl hf
    obtain ⟨v0, v1, rfl⟩ := len_k2 hl
    have e1 := (show v1 = .bool false from hf _ (memI 1 rfl) (by kernel_rfl))
    subst e1
    show Option.isSome _ = true
    kernel_rfl
   ·intro vs gq stq hl hf
    obtain ⟨v0, v1, rfl⟩ := len_k2 hl
    have e1 := (show v1 = .bool false from hf _ (memI 1 rfl) (by kernel_rfl))
    subst e1
    show Option.isSome _ = true
    kernel_rfl
   ·intro vs gq stq hl hf
    obtain ⟨v0, v1, rfl⟩ := len_k2 hl
    have e1 := (show v1 = .bool false from hf _ (memI 1 rfl) (by kernel_rfl))
    subst e1
    show Option.isSome _ = true
    kernel_rfl
   ·intro vs gq stq hl hf
    obtain ⟨v0, v1, rfl⟩ := len_k2 hl
    have e1 := (show v1 = .bool false from hf _ (memI 1 rfl) (by kernel_rfl))
    subst e1
    show Option.isSome _ = true
    kernel_rfl
   ·intro vs gq stq hl hf
    obtain ⟨v0, v1, rfl⟩ := len_k2 hl
    have e1 := (show v1 = .bool false from hf _ (memI 1 rfl) (by kernel_rfl))
    subst e1
    show Option.isSome _ = true
    kernel_rfl
   ·intro vs gq stq hl hf
    obtain ⟨v0, v1, rfl⟩ := len_k2 hl
    have e1 := (show v1 = .bool false from hf _ (memI 1 rfl) (by kernel_rfl))
    subst e1
    show Option.isSome _ = true
    kernel_rfl
   ·intro vs gq stq hl hf
    obtain ⟨v0, v1, rfl⟩ := len_k2 hl
    have e1 := (show v1 = .bool false from hf _ (memI 1 rfl) (by kernel_rfl))
    subst e1
    show Option.isSome _ = true
    kernel_rfl
   ·intro vs gq stq hl hf
    obtain ⟨v0, v1, rfl⟩ := len_k2 hl
    have e1 := (show v1 = .bool false from hf _ (memI 1 rfl) (by kernel_rfl))
    subst e1
    show Option.isSome _ = true
    kernel_rfl
   ·intro vs gq stq hl hf
    obtain ⟨v0, v1, rfl⟩ := len_k2 hl
    have e1 := (show v1 = .bool false from hf _ (memI 1 rfl) (by kernel_rfl))
    subst e1
    show Option.isSome _ = true
    kernel_rfl
   ·intro vs gq stq hl hf
    obtain ⟨v0, v1, rfl⟩ := len_k2 hl
    have e1 := (show v1 = .bool false from hf _ (memI 1 rfl) (by kernel_rfl))
    subst e1
    show Option.isSome _ = true
    kernel_rfl
   ·intro vs gq stq hl hf
    obtain ⟨v0, v1, rfl⟩ := len_k2 hl
    have e1 := (show v1 = .bool false from hf _ (memI 1 rfl) (by kernel_rfl))
    subst e1
    show Option.isSome _ = true
    kernel_rfl
   ·intro vs gq stq hl hf
    obtain ⟨v0, v1, rfl⟩ := len_k2 hl
    have e1 := (show v1 = .bool false from hf _ (memI 1 rfl) (by kernel_rfl))
    subst e1
    show Option.isSome _ = true
    kernel_rfl
   ·intro vs gq stq hl hf
    obtain ⟨v0, v1, rfl⟩ := len_k2 hl
    have e1 := (show v1 = .bool false from hf _ (memI 1 rfl) (by kernel_rfl))
    subst e1
    show Option.isSome _ = true
    kernel_rfl
   ·intro vs gq stq hl hf
    obtain ⟨v0, v1, rfl⟩ := len_k2 hl
    have e1 := (show v1 = .bool false from hf _ (memI 1 rfl) (by kernel_rfl))
    subst e1
    show Option.isSome _ = true
    kernel_rfl
   ·intro vs gq stq hl hf
    obtain ⟨v0, v1, rfl⟩ := len_k2 hl
    have e1 := (show v1 = .bool false from hf _ (memI 1 rfl) (by kernel_rfl))
    subst e1
    show Option.isSome _ = true
    kernel_rfl
   ·intro vs gq stq hl hf
    obtain ⟨v0, v1, rfl⟩ := len_k2 hl
    have e1 := (show v1 = .bool false from hf _ (memI 1 rfl) (by kernel_rfl))
    subst e1
    show Option.isSome _ = true
    kernel_rfl
  ·intro j hj
   have hq : j = 0 ∨ j = 1 := by have h : j < 2 := hj; omega
   rcases hq with rfl | rfl
   ·intro vs gq stq hl hf
    obtain ⟨v0, v1, rfl⟩ := len_k2 hl
    have hcal12 := P.baizelaw32_told gq q9 hk12
    refine WP.callC hcal12 (by kernel_rfl) ?_
    rintro _ g26 st26 rfl
    refine WP.dn (Shown.o (v := .bool q9) st26.pure ?_)
    exact ⟨rfl, tv, tv⟩
   ·intro vs gq stq hl hf
    obtain ⟨v0, v1, rfl⟩ := len_k2 hl
    have e0 := (show v0 = .bool q9 from hf _ (memI 0 rfl) (by kernel_rfl))
    subst e0
    refine WP.stl 1 ?_
    refine WP.dn (Shown.ok (v := .bool q9) (by kernel_rfl) (Step.refl _ _) ?_)
    exact ⟨tv, congrArg Value.bool h11, tv⟩
  intro vs g35 st35 hl hf
  obtain ⟨v0, v1, rfl⟩ := len_k2 hl
  have e1 := (show v1 = .bool false from hf _ (memI 1 rfl) (by kernel_rfl))
  subst e1
  replace tot := tot.trans st35.toNo.pure
  refine NX.post ?_
  exact ⟨false, ⟨by kernel_rfl, by kernel_rfl⟩, tot, hs⟩
 clear tot hs hB2 hR3 hR4 hB3 hR5 hR6 hR7 hB6 hR8 hR9 hB9 hR12 hR13
 rintro tm g ⟨q8, hF, tot, hs⟩
 clear ds
 obtain ⟨ds, rfl⟩ := hF.open
 clear hF
 unfold F.baizelaw32_StateBytes.c2 at hs
 refine CP.ret ?_
 replace hs := Option.some.inj hs
 obtain rfl := hs
 exact NX.fin (v := .bool q8) (Res.still (by kernel_rfl)) tot htL rfl
end Go.Proofs.Ythfmgobnanifnaa
