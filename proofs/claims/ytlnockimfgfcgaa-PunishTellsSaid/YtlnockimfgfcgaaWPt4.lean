/-
  Walks, written by program: each Go function computes the plain function of its name, in whatever world its arguments' facts hold.
-/
import Derived.Test.YtlnockimfgfcgaaWPt3
namespace Go.Proofs.Ytlnockimfgfcgaa
open Go.RowKit Go.Lab
attribute [local irreducible] WP CP NX wpList Code.wp Calls
set_option maxRecDepth 100000
set_option maxHeartbeats 4000000
set_option linter.unusedVariables false

def F.baizeref34_Twice.c2 (x1 : Int) (d2 : Arr Int 8) (x2 : Int) (d3 : Arr Int 8) (l1 : List Int) (l2 : List Int) (q1 : Bool) (x3 : Int) (d4 : Arr Int 8) (x4 : Int) (d5 : Arr Int 8) (l3 : List Int) (l4 : List Int) (q2 : Bool) (q3 : Bool) (q5 : Bool) : Option (Int) := (if q5 = true then (some 18) else ((F.baizeref34_Digest x1 d2 x2 d3 l1 l2 q1).bind fun d8 => ((F.baizeref34_Digest x3 d4 x4 d5 l3 l4 q2).bind fun d9 => (if (d8.1 == d9.1) = true then (some 7) else (if (!q3) = true then (some 16) else (some 0))))))
def N.baizeref34_Twice_0 : List (List Nat) := [[], [0], [], [2], [0, 1, 2, 3], [0, 1, 2, 3, 4], [0, 1, 2, 3, 4, 5], [0, 1, 2, 3, 4, 5, 6], [0, 1, 2, 3, 4, 5], [0, 1, 2, 3, 4, 5, 6, 7, 8], [0, 1, 2, 3, 4, 5, 6, 7, 8, 9], [0, 1, 2, 3, 4, 5, 6, 7, 8, 9, 10]]
def F.baizeref34_Twice.c1 (x1 : Int) (d2 : Arr Int 8) (x2 : Int) (d3 : Arr Int 8) (l1 : List Int) (l2 : List Int) (q1 : Bool) (x3 : Int) (d4 : Arr Int 8) (x4 : Int) (d5 : Arr Int 8) (l3 : List Int) (l4 : List Int) (q2 : Bool) (q3 : Bool) (q4 : Bool) : Option (Int) := (if q4 = true then (some 6) else (if (x2 != x4) = true then (F.baizeref34_Twice.c2 x1 d2 x2 d3 l1 l2 q1 x3 d4 x4 d5 l3 l4 q2 q3 true) else ((F.baizeref34_At x1 d2 x2 d3 l1 l2 q1).bind fun d10 => ((F.baizeref34_At x3 d4 x4 d5 l3 l4 q2).bind fun d11 => (F.baizeref34_Twice.c2 x1 d2 x2 d3 l1 l2 q1 x3 d4 x4 d5 l3 l4 q2 q3 (!(d10.1 == d11.1)))))))
def F.baizeref34_Twice (d1 : Arr Int 8) (x1 : Int) (d2 : Arr Int 8) (x2 : Int) (d3 : Arr Int 8) (l1 : List Int) (l2 : List Int) (q1 : Bool) (x3 : Int) (d4 : Arr Int 8) (x4 : Int) (d5 : Arr Int 8) (l3 : List Int) (l4 : List Int) (q2 : Bool) (q3 : Bool) : Option (Int) := ((F.baizeref34_Check x1 d2 x2 d3 l1 l2 q1).bind fun x5 => (if (x5 != 0) = true then (some x5) else ((F.baizeref34_Check x3 d4 x4 d5 l3 l4 q2).bind fun x6 => (if (x6 != 0) = true then (some x6) else (if (x1 != x3) = true then (some 11) else (if (!(d2.1 == d1.1)) = true then (F.baizeref34_Twice.c1 x1 d2 x2 d3 l1 l2 q1 x3 d4 x4 d5 l3 l4 q2 q3 true) else (F.baizeref34_Twice.c1 x1 d2 x2 d3 l1 l2 q1 x3 d4 x4 d5 l3 l4 q2 q3 (!(d4.1 == d1.1)))))))))
theorem P.baizeref34_Twice (g0 : GW) (d1 : Arr Int 8) (x1 : Int) (d2 : Arr Int 8) (x2 : Int) (d3 : Arr Int 8) (l1 : List Int) (l2 : List Int) (q1 : Bool) (x3 : Int) (d4 : Arr Int 8) (x4 : Int) (d5 : Arr Int 8) (l3 : List Int) (l4 : List Int) (q2 : Bool) (q3 : Bool) (a1 : Option Addr) (n1 : Nat) (c1 : Nat) (a2 : Option Addr) (n2 : Nat) (c2 : Nat) (a3 : Option Addr) (n3 : Nat) (c3 : Nat) (a4 : Option Addr) (n4 : Nat) (c4 : Nat) (hR1 : RdS (Kd.int .u8) g0 5 a1 n1 c1 l1) (hR2 : RdS (Kd.int .u8) g0 5 a2 n2 c2 l2) (hR3 : RdS (Kd.int .u8) g0 5 a3 n3 c3 l3) (hR4 : RdS (Kd.int .u8) g0 5 a4 n4 c4 l4) (o1 : Int) (hs : F.baizeref34_Twice d1 x1 d2 x2 d3 l1 l2 q1 x3 d4 x4 d5 l3 l4 q2 q3 = some o1) :
  Calls Try.prog 32 #[AG [encA .u8 d1], AG [[.int .i64 x1], encA .u8 d2, [.int .i64 x2], encA .u8 d3, [.slice a1 n1 c1], [.slice a2 n2 c2], [.bool q1]], AG [[.int .i64 x3], encA .u8 d4, [.int .i64 x4], encA .u8 d5, [.slice a3 n3 c3], [.slice a4 n4 c4], [.bool q2]], .bool q3] g0.w (Ret NoM g0 fun v g => v = .int .i64 o1) := by
 refine calls_of (args := [AG [encA .u8 d1], AG [[.int .i64 x1], encA .u8 d2, [.int .i64 x2], encA .u8 d3, [.slice a1 n1 c1], [.slice a2 n2 c2], [.bool q1]], AG [[.int .i64 x3], encA .u8 d4, [.int .i64 x4], encA .u8 d5, [.slice a3 n3 c3], [.slice a4 n4 c4], [.bool q2]], .bool q3]) Try.func32 rfl (0) ?_
 intro t ht htL
 refine ⟨_, rfl, ?_⟩
 refine CP.refr 55 [(0, AG [encA .u8 d1]), (1, AG [[.int .i64 x1], encA .u8 d2, [.int .i64 x2], encA .u8 d3, [.slice a1 n1 c1], [.slice a2 n2 c2], [.bool q1]]), (2, AG [[.int .i64 x3], encA .u8 d4, [.int .i64 x4], encA .u8 d5, [.slice a3 n3 c3], [.slice a4 n4 c4], [.bool q2]]), (3, .bool q3)] (by kernel_rfl) (by kernel_rfl) ?_
 intro ds
 have tot : Step (fun l => NoM l ∨ t ≤ l) g0 g0 := Step.refl _ _
 unfold F.baizeref34_Twice at hs
 refine CP.seqR ?_
 refine WP.alloc (T := 32) (t + 1) [encA .u8 d1] [8] (by kernel_rfl) (by simp [len_encA]) ?_
 intro g1 b1 st1 hB1
 replace hR1 := hR1.mono st1 (fun x => x)
 replace hR2 := hR2.mono st1 (fun x => x)
 replace hR3 := hR3.mono st1 (fun x => x)
 replace hR4 := hR4.mono st1 (fun x => x)
 replace tot := tot.trans st1.pure
 refine WP.alloc (T := 35) (t + 2) [[.int .i64 x1], encA .u8 d2, [.int .i64 x2], encA .u8 d3, [.slice a1 n1 c1], [.slice a2 n2 c2], [.bool q1]] [1, 8, 1, 8, 1, 1, 1] (by kernel_rfl) (by simp [len_encA]) ?_
 intro g2 b2 st2 hB2
 replace hR1 := hR1.mono st2 (fun x => x)
 replace hR2 := hR2.mono st2 (fun x => x)
 replace hR3 := hR3.mono st2 (fun x => x)
 replace hR4 := hR4.mono st2 (fun x => x)
 replace hB1 := hB1.mono st2 (fun x => x)
 replace tot := tot.trans st2.pure
 refine WP.alloc (T := 35) (t + 3) [[.int .i64 x3], encA .u8 d4, [.int .i64 x4], encA .u8 d5, [.slice a3 n3 c3], [.slice a4 n4 c4], [.bool q2]] [1, 8, 1, 8, 1, 1, 1] (by kernel_rfl) (by simp [len_encA]) ?_
 intro g3 b3 st3 hB3
 replace hR1 := hR1.mono st3 (fun x => x)
 replace hR2 := hR2.mono st3 (fun x => x)
 replace hR3 := hR3.mono st3 (fun x => x)
 replace hR4 := hR4.mono st3 (fun x => x)
 replace hB1 := hB1.mono st3 (fun x => x)
 replace hB2 := hB2.mono st3 (fun x => x)
 replace tot := tot.trans st3.pure
 refine WP.stl 1 ?_
 refine WP.dn ?_
 refine NX.then_n ?_
 refine CP.seq ?_
 refine CP.seqR ?_
 refine WP.loadB (v := AG [[.int .i64 x1], encA .u8 d2, [.int .i64 x2], encA .u8 d3, [.slice a1 n1 c1], [.slice a2 n2 c2], [.bool q1]]) hB2 (by kernel_rfl) (by kernel_rfl) ?_
 replace hs := Option.bind_eq_some_iff.1 hs
 obtain ⟨x5, hk1, hs⟩ := hs
 have hcal1 := P.baizeref34_Check g3 x1 d2 x2 d3 l1 l2 q1 a1 n1 c1 a2 n2 c2 hR1 hR2 x5 hk1
 refine WP.callC hcal1 (by kernel_rfl) ?_
 rintro _ g4 st4 rfl
 replace hB1 := hB1.mono st4 (fun x => x)
 replace hB2 := hB2.mono st4 (fun x => x)
 replace hR1 := hR1.mono st4 (fun x => x)
 replace hR2 := hR2.mono st4 (fun x => x)
 replace hB3 := hB3.mono st4 (fun x => x)
 replace hR3 := hR3.mono st4 (fun x => x)
 replace hR4 := hR4.mono st4 (fun x => x)
 replace tot := tot.trans st4.pure
 refine WP.stl 1 ?_
 refine WP.dn ?_
 refine NX.then_n ?_
 refine CP.seqR ?_
 refine WP.stl 2 ?_
 refine WP.dn ?_
 refine NX.then_n ?_
 refine CP.cond (b := (x5 != 0)) (by kernel_rfl) (fun h1 => ?_) (fun h1 => ?_)
 ·replace hs := of_if_t hs h1
  refine CP.seqR ?_
  refine WP.stl 2 ?_
  refine WP.dn ?_
  refine NX.then_n ?_
  refine CP.ret ?_
  refine NX.then_r ?_
  replace hs := Option.some.inj hs
  obtain rfl := hs
  exact NX.fin (v := .int .i64 x5) (Res.still (by kernel_rfl)) tot htL rfl
 replace hs := of_if_f hs h1
 refine CP.skip ?_
 refine NX.then_n ?_
 refine CP.seq ?_
 refine CP.seqR ?_
 refine WP.loadB (v := AG [[.int .i64 x3], encA .u8 d4, [.int .i64 x4], encA .u8 d5, [.slice a3 n3 c3], [.slice a4 n4 c4], [.bool q2]]) hB3 (by kernel_rfl) (by kernel_rfl) ?_
 replace hs := Option.bind_eq_some_iff.1 hs
 obtain ⟨x6, hk2, hs⟩ := hs
 have hcal2 := P.baizeref34_Check g4 x3 d4 x4 d5 l3 l4 q2 a3 n3 c3 a4 n4 c4 hR3 hR4 x6 hk2
 refine WP.callC hcal2 (by kernel_rfl) ?_
 rintro _ g5 st5 rfl
 replace hB1 := hB1.mono st5 (fun x => x)
 replace hB2 := hB2.mono st5 (fun x => x)
 replace hR1 := hR1.mono st5 (fun x => x)
 replace hR2 := hR2.mono st5 (fun x => x)
 replace hB3 := hB3.mono st5 (fun x => x)
 replace hR3 := hR3.mono st5 (fun x => x)
 replace hR4 := hR4.mono st5 (fun x => x)
 replace tot := tot.trans st5.pure
 refine WP.stl 1 ?_
 refine WP.dn ?_
 refine NX.then_n ?_
 refine CP.seqR ?_
 refine WP.stl 2 ?_
 refine WP.dn ?_
 refine NX.then_n ?_
 refine CP.refr 55 [(3, .bool q3), (4, .pointer (some ⟨b1, 0, none⟩)), (5, .pointer (some ⟨b2, 0, none⟩)), (6, .pointer (some ⟨b3, 0, none⟩)), (10, .int .i64 x6), (19, .bool (x6 != 0))] (by kernel_rfl) (by kernel_rfl) ?_
 clear ds
 intro ds
 refine CP.cond (b := (x6 != 0)) (by kernel_rfl) (fun h2 => ?_) (fun h2 => ?_)
 ·replace hs := of_if_t hs h2
  refine CP.seqR ?_
  refine WP.stl 2 ?_
  refine WP.dn ?_
  refine NX.then_n ?_
  refine CP.ret ?_
  refine NX.then_r ?_
  replace hs := Option.some.inj hs
  obtain rfl := hs
  exact NX.fin (v := .int .i64 x6) (Res.still (by kernel_rfl)) tot htL rfl
 replace hs := of_if_f hs h2
 refine CP.skip ?_
 refine NX.then_n ?_
 refine CP.seq ?_
 refine CP.seqR ?_
 refine WP.stl 1 ?_
 refine WP.loadB (v := .int .i64 x1) hB2 (by kernel_rfl) (by kernel_rfl) ?_
 refine WP.stl 1 ?_
 refine WP.loadB (v := .int .i64 x3) hB3 (by kernel_rfl) (by kernel_rfl) ?_
 refine WP.stl 1 ?_
 refine WP.dn ?_
 refine NX.then_n ?_
 refine CP.cond (b := (x1 != x3)) (by kernel_rfl) (fun h3 => ?_) (fun h3 => ?_)
 ·replace hs := of_if_t hs h3
  refine CP.seqR ?_
  refine WP.stl 1 ?_
  refine WP.dn ?_
  refine NX.then_n ?_
  refine CP.ret ?_
  refine NX.then_r ?_
  replace hs := Option.some.inj hs
  obtain rfl := hs
  exact NX.fin (v := .int .i64 11) (Res.still (by kernel_rfl)) tot htL rfl
 replace hs := of_if_f hs h3
 refine CP.skip ?_
 refine NX.then_n ?_
 refine CP.seq ?_
 refine CP.cut (fun tm g => ∃ (q4 : Bool), Fr 55 [(3, .bool q3), (5, .pointer (some ⟨b2, 0, none⟩)), (6, .pointer (some ⟨b3, 0, none⟩)), (35, .bool q4)] tm ∧ Step (fun l => NoM l ∨ t ≤ l) g0 g ∧ Box g (t + 2) b2 35 [[.int .i64 x1], encA .u8 d2, [.int .i64 x2], encA .u8 d3, [.slice a1 n1 c1], [.slice a2 n2 c2], [.bool q1]] [1, 8, 1, 8, 1, 1, 1] ∧ RdS (Kd.int .u8) g 5 a1 n1 c1 l1 ∧ RdS (Kd.int .u8) g 5 a2 n2 c2 l2 ∧ Box g (t + 3) b3 35 [[.int .i64 x3], encA .u8 d4, [.int .i64 x4], encA .u8 d5, [.slice a3 n3 c3], [.slice a4 n4 c4], [.bool q2]] [1, 8, 1, 8, 1, 1, 1] ∧ RdS (Kd.int .u8) g 5 a3 n3 c3 l3 ∧ RdS (Kd.int .u8) g 5 a4 n4 c4 l4 ∧ (F.baizeref34_Twice.c1 x1 d2 x2 d3 l1 l2 q1 x3 d4 x4 d5 l3 l4 q2 q3 q4) = some o1) ?_ ?_
 ·refine CP.region ?_
  refine WP.stl 1 ?_
  refine WP.loadB (v := AG [encA .u8 d2]) hB2 (by kernel_rfl) (by kernel_rfl) ?_
  refine WP.loadB (v := AG [encA .u8 d1]) hB1 (by kernel_rfl) (by kernel_rfl) ?_
  refine WP.neV (by kernel_rfl) (by kernel_rfl) (EqV.arr (d := 9998) (t := 32) (e := 5) (m := 8) (k := .u8) (x := d2) (y := d1) (by kernel_rfl) (by kernel_rfl)) ?_
  refine WP.stl 1 ?_
  refine WP.guard 30 (b := (!(d2.1 == d1.1))) (by kernel_rfl) (fun h11 => ?_) (fun h11 => ?_)
  ·replace hs := of_if_t hs h11
   refine WP.stl 5 ?_
   refine WP.dn ?_
   refine NX.post ?_
   exact ⟨true, ⟨by kernel_rfl, by kernel_rfl⟩, tot, hB2, hR1, hR2, hB3, hR3, hR4, hs⟩
  replace hs := of_if_f hs h11
  refine WP.stl 1 ?_
  refine WP.loadB (v := AG [encA .u8 d4]) hB3 (by kernel_rfl) (by kernel_rfl) ?_
  refine WP.loadB (v := AG [encA .u8 d1]) hB1 (by kernel_rfl) (by kernel_rfl) ?_
  refine WP.neV (by kernel_rfl) (by kernel_rfl) (EqV.arr (d := 9998) (t := 32) (e := 5) (m := 8) (k := .u8) (x := d4) (y := d1) (by kernel_rfl) (by kernel_rfl)) ?_
  refine WP.stl 1 ?_
  refine WP.dn ?_
  refine NX.post ?_
  exact ⟨(!(d4.1 == d1.1)), ⟨by kernel_rfl, by kernel_rfl⟩, tot, hB2, hR1, hR2, hB3, hR3, hR4, hs⟩
 clear tot hs hB1 hB2 hR1 hR2 hB3 hR3 hR4
 rintro tm g ⟨q4, hF, tot, hB2, hR1, hR2, hB3, hR3, hR4, hs⟩
 clear ds
 obtain ⟨ds, rfl⟩ := hF.open
 clear hF
 unfold F.baizeref34_Twice.c1 at hs
 refine CP.cond (b := q4) (by kernel_rfl) (fun h5 => ?_) (fun h5 => ?_)
 ·replace hs := of_if_t hs h5
  refine CP.seqR ?_
  refine WP.stl 1 ?_
  refine WP.dn ?_
  refine NX.then_n ?_
  refine CP.ret ?_
  refine NX.then_r ?_
  replace hs := Option.some.inj hs
  obtain rfl := hs
  exact NX.fin (v := .int .i64 6) (Res.still (by kernel_rfl)) tot htL rfl
 replace hs := of_if_f hs h5
 refine CP.skip ?_
 refine NX.then_n ?_
 refine CP.seq ?_
 refine CP.cut (fun tm g => ∃ (q5 : Bool), Fr 55 [(3, .bool q3), (5, .pointer (some ⟨b2, 0, none⟩)), (6, .pointer (some ⟨b3, 0, none⟩)), (47, .bool q5)] tm ∧ Step (fun l => NoM l ∨ t ≤ l) g0 g ∧ Box g (t + 2) b2 35 [[.int .i64 x1], encA .u8 d2, [.int .i64 x2], encA .u8 d3, [.slice a1 n1 c1], [.slice a2 n2 c2], [.bool q1]] [1, 8, 1, 8, 1, 1, 1] ∧ RdS (Kd.int .u8) g 5 a1 n1 c1 l1 ∧ RdS (Kd.int .u8) g 5 a2 n2 c2 l2 ∧ Box g (t + 3) b3 35 [[.int .i64 x3], encA .u8 d4, [.int .i64 x4], encA .u8 d5, [.slice a3 n3 c3], [.slice a4 n4 c4], [.bool q2]] [1, 8, 1, 8, 1, 1, 1] ∧ RdS (Kd.int .u8) g 5 a3 n3 c3 l3 ∧ RdS (Kd.int .u8) g 5 a4 n4 c4 l4 ∧ (F.baizeref34_Twice.c2 x1 d2 x2 d3 l1 l2 q1 x3 d4 x4 d5 l3 l4 q2 q3 q5) = some o1) ?_ ?_
 ·refine bool_split (b := (x2 != x4)) (fun h10 => ?_) (fun h10 => ?_)
  ·replace hs := of_if_t hs h10
   refine CP.drawL (by kernel_rfl) [1, 3, 5] N.baizeref34_Twice_0 [⟨none, [], [], fun l g => Box g (t + 2) b2 35 [[.int .i64 x1], encA .u8 d2, [.int .i64 x2], encA .u8 d3, [.slice a1 n1 c1], [.slice a2 n2 c2], [.bool q1]] [1, 8, 1, 8, 1, 1, 1]⟩, ⟨none, [], [], fun l g => Box g (t + 3) b3 35 [[.int .i64 x3], encA .u8 d4, [.int .i64 x4], encA .u8 d5, [.slice a3 n3 c3], [.slice a4 n4 c4], [.bool q2]] [1, 8, 1, 8, 1, 1, 1]⟩, ⟨some 0, [], [0], fun l g => l.getD 0 undef = .int .i64 x2⟩, ⟨some 1, [], [1], fun l g => l.getD 0 undef = .int .i64 x4⟩, ⟨some 2, [], [2], fun l g => l.getD 0 undef = .bool true⟩] [[], [], []] [] [0, 2] [4, 6, 7, 8, 9, 10, 11] (by kernel_rfl) (by simp) (by simp) ⟨fun _ _ _ _ st h0 hl hj hB2 => (hB2.mono st (fun h => absurd (hl _ h) (by simp))), fun _ _ _ _ st h0 hl hj hB3 => (hB3.mono st (fun h => absurd (hl _ h) (by simp))), fun _ _ _ _ st h0 hl hj e0 => e0, fun _ _ _ _ st h0 hl hj e1 => e1, fun _ _ _ _ st h0 hl hj e2 => e2, tv⟩ ⟨hB2, hB3, tv, tv, tv, tv⟩ (by kernel_rfl) (fun vs => by kernel_rfl) ?_ ?_ ?_
   ·intro j hj
    have hq : j = 0 ∨ j = 1 ∨ j = 2 ∨ j = 3 ∨ j = 4 ∨ j = 5 ∨ j = 6 := by have h : j < 7 := hj; omega
    rcases hq with rfl | rfl | rfl | rfl | rfl | rfl | rfl
    ·intro vs gq stq hl hf
     obtain ⟨v0, v1, v2, rfl⟩ := len_k3 hl
     have e0 := (show v0 = .int .i64 x2 from hf _ (memI 2 rfl) (by kernel_rfl))
     subst e0
     have e1 := (show v1 = .int .i64 x4 from hf _ (memI 3 rfl) (by kernel_rfl))
     subst e1
     show Option.isSome _ = true
     kernel_rfl
    ·intro vs gq stq hl hf
     obtain ⟨v0, v1, v2, rfl⟩ := len_k3 hl
     have e2 := (show v2 = .bool true from hf _ (memI 4 rfl) (by kernel_rfl))
     subst e2
     show Option.isSome _ = true
     kernel_rfl
    ·intro vs gq stq hl hf
     obtain ⟨v0, v1, v2, rfl⟩ := len_k3 hl
     have e2 := (show v2 = .bool true from hf _ (memI 4 rfl) (by kernel_rfl))
     subst e2
     show Option.isSome _ = true
     kernel_rfl
    ·intro vs gq stq hl hf
     obtain ⟨v0, v1, v2, rfl⟩ := len_k3 hl
     have e2 := (show v2 = .bool true from hf _ (memI 4 rfl) (by kernel_rfl))
     subst e2
     show Option.isSome _ = true
     kernel_rfl
    ·intro vs gq stq hl hf
     obtain ⟨v0, v1, v2, rfl⟩ := len_k3 hl
     have e2 := (show v2 = .bool true from hf _ (memI 4 rfl) (by kernel_rfl))
     subst e2
     show Option.isSome _ = true
     kernel_rfl
    ·intro vs gq stq hl hf
     obtain ⟨v0, v1, v2, rfl⟩ := len_k3 hl
     have e2 := (show v2 = .bool true from hf _ (memI 4 rfl) (by kernel_rfl))
     subst e2
     show Option.isSome _ = true
     kernel_rfl
    ·intro vs gq stq hl hf
     obtain ⟨v0, v1, v2, rfl⟩ := len_k3 hl
     have e2 := (show v2 = .bool true from hf _ (memI 4 rfl) (by kernel_rfl))
     subst e2
     show Option.isSome _ = true
     kernel_rfl
   ·intro j hj
    have hq : j = 0 ∨ j = 1 ∨ j = 2 := by have h : j < 3 := hj; omega
    rcases hq with rfl | rfl | rfl
    ·intro vs gq stq hl hf
     obtain ⟨v0, v1, v2, rfl⟩ := len_k3 hl
     have hB2 := (show Box gq (t + 2) b2 35 [[.int .i64 x1], encA .u8 d2, [.int .i64 x2], encA .u8 d3, [.slice a1 n1 c1], [.slice a2 n2 c2], [.bool q1]] [1, 8, 1, 8, 1, 1, 1] from hf _ (memI 0 rfl) (by kernel_rfl))
     refine WP.loadB (v := .int .i64 x2) hB2 (by kernel_rfl) (by kernel_rfl) ?_
     refine WP.dn (Shown.ok (v := .int .i64 x2) (by kernel_rfl) (Step.refl _ _) ?_)
     exact ⟨tv, tv, rfl, tv, tv, tv⟩
    ·intro vs gq stq hl hf
     obtain ⟨v0, v1, v2, rfl⟩ := len_k3 hl
     have hB3 := (show Box gq (t + 3) b3 35 [[.int .i64 x3], encA .u8 d4, [.int .i64 x4], encA .u8 d5, [.slice a3 n3 c3], [.slice a4 n4 c4], [.bool q2]] [1, 8, 1, 8, 1, 1, 1] from hf _ (memI 1 rfl) (by kernel_rfl))
     refine WP.loadB (v := .int .i64 x4) hB3 (by kernel_rfl) (by kernel_rfl) ?_
     refine WP.dn (Shown.ok (v := .int .i64 x4) (by kernel_rfl) (Step.refl _ _) ?_)
     exact ⟨tv, tv, tv, rfl, tv, tv⟩
    ·intro vs gq stq hl hf
     obtain ⟨v0, v1, v2, rfl⟩ := len_k3 hl
     have e0 := (show v0 = .int .i64 x2 from hf _ (memI 2 rfl) (by kernel_rfl))
     subst e0
     have e1 := (show v1 = .int .i64 x4 from hf _ (memI 3 rfl) (by kernel_rfl))
     subst e1
     refine WP.stl 1 ?_
     refine WP.dn (Shown.ok (v := .bool (x2 != x4)) (by kernel_rfl) (Step.refl _ _) ?_)
     exact ⟨tv, tv, tv, tv, congrArg Value.bool h10, tv⟩
   intro vs g11 st11 hl hf
   obtain ⟨v0, v1, v2, rfl⟩ := len_k3 hl
   have e2 := (show v2 = .bool true from hf _ (memI 4 rfl) (by kernel_rfl))
   subst e2
   replace hB2 := hB2.mono st11.toNo (fun x => x)
   replace hR1 := hR1.mono st11.toNo (fun x => x)
   replace hR2 := hR2.mono st11.toNo (fun x => x)
   replace hB3 := hB3.mono st11.toNo (fun x => x)
   replace hR3 := hR3.mono st11.toNo (fun x => x)
   replace hR4 := hR4.mono st11.toNo (fun x => x)
   replace tot := tot.trans st11.toNo.pure
   refine NX.post ?_
   exact ⟨true, ⟨by kernel_rfl, by kernel_rfl⟩, tot, hB2, hR1, hR2, hB3, hR3, hR4, hs⟩
  replace hs := of_if_f hs h10
  replace hs := Option.bind_eq_some_iff.1 hs
  obtain ⟨d10, hk7, hs⟩ := hs
  replace hs := Option.bind_eq_some_iff.1 hs
  obtain ⟨d11, hk8, hs⟩ := hs
  refine CP.drawL (by kernel_rfl) [1, 3, 5, 6, 7, 8, 9, 10] N.baizeref34_Twice_0 [⟨none, [], [], fun l g => Box g (t + 2) b2 35 [[.int .i64 x1], encA .u8 d2, [.int .i64 x2], encA .u8 d3, [.slice a1 n1 c1], [.slice a2 n2 c2], [.bool q1]] [1, 8, 1, 8, 1, 1, 1]⟩, ⟨none, [], [], fun l g => RdS (Kd.int .u8) g 5 a1 n1 c1 l1⟩, ⟨none, [], [], fun l g => RdS (Kd.int .u8) g 5 a2 n2 c2 l2⟩, ⟨none, [], [], fun l g => Box g (t + 3) b3 35 [[.int .i64 x3], encA .u8 d4, [.int .i64 x4], encA .u8 d5, [.slice a3 n3 c3], [.slice a4 n4 c4], [.bool q2]] [1, 8, 1, 8, 1, 1, 1]⟩, ⟨none, [], [], fun l g => RdS (Kd.int .u8) g 5 a3 n3 c3 l3⟩, ⟨none, [], [], fun l g => RdS (Kd.int .u8) g 5 a4 n4 c4 l4⟩, ⟨some 0, [], [0], fun l g => l.getD 0 undef = .int .i64 x2⟩, ⟨some 1, [], [1], fun l g => l.getD 0 undef = .int .i64 x4⟩, ⟨some 2, [], [2], fun l g => l.getD 0 undef = .bool false⟩, ⟨some 3, [], [3], fun l g => l.getD 0 undef = AG [[.int .i64 x1], encA .u8 d2, [.int .i64 x2], encA .u8 d3, [.slice a1 n1 c1], [.slice a2 n2 c2], [.bool q1]]⟩, ⟨some 4, [], [4], fun l g => l.getD 0 undef = AG [encA .u8 d10]⟩, ⟨some 5, [], [5], fun l g => l.getD 0 undef = AG [[.int .i64 x3], encA .u8 d4, [.int .i64 x4], encA .u8 d5, [.slice a3 n3 c3], [.slice a4 n4 c4], [.bool q2]]⟩, ⟨some 6, [], [6], fun l g => l.getD 0 undef = AG [encA .u8 d11]⟩, ⟨some 7, [], [7], fun l g => l.getD 0 undef = .bool (!(d10.1 == d11.1))⟩] [[], [], [], [], [], [], [], []] [] [0, 2] [4, 11] (by kernel_rfl) (by simp) (by simp) ⟨fun _ _ _ _ st h0 hl hj hB2 => (hB2.mono st (fun h => absurd (hl _ h) (by simp))), fun _ _ _ _ st h0 hl hj hR1 => (RdS.mono (e := 5) hR1 st h0), fun _ _ _ _ st h0 hl hj hR2 => (RdS.mono (e := 5) hR2 st h0), fun _ _ _ _ st h0 hl hj hB3 => (hB3.mono st (fun h => absurd (hl _ h) (by simp))), fun _ _ _ _ st h0 hl hj hR3 => (RdS.mono (e := 5) hR3 st h0), fun _ _ _ _ st h0 hl hj hR4 => (RdS.mono (e := 5) hR4 st h0), fun _ _ _ _ st h0 hl hj e0 => e0, fun _ _ _ _ st h0 hl hj e1 => e1, fun _ _ _ _ st h0 hl hj e2 => e2, fun _ _ _ _ st h0 hl hj e3 => e3, fun _ _ _ _ st h0 hl hj e4 => e4, fun _ _ _ _ st h0 hl hj e5 => e5, fun _ _ _ _ st h0 hl hj e6 => e6, fun _ _ _ _ st h0 hl hj e7 => e7, tv⟩ ⟨hB2, hR1, hR2, hB3, hR3, hR4, tv, tv, tv, tv, tv, tv, tv, tv, tv⟩ (by kernel_rfl) (fun vs => by kernel_rfl) ?_ ?_ ?_
  ·intro j hj
   have hq : j = 0 ∨ j = 1 := by have h : j < 2 := hj; omega
   rcases hq with rfl | rfl
   ·intro vs gq stq hl hf
    obtain ⟨v0, v1, v2, v3, v4, v5, v6, v7, rfl⟩ := len_k8 hl
    have e0 := (show v0 = .int .i64 x2 from hf _ (memI 6 rfl) (by kernel_rfl))
    subst e0
    have e1 := (show v1 = .int .i64 x4 from hf _ (memI 7 rfl) (by kernel_rfl))
    subst e1
    show Option.isSome _ = true
    kernel_rfl
   ·intro vs gq stq hl hf
    obtain ⟨v0, v1, v2, v3, v4, v5, v6, v7, rfl⟩ := len_k8 hl
    have e2 := (show v2 = .bool false from hf _ (memI 8 rfl) (by kernel_rfl))
    subst e2
    have e7 := (show v7 = .bool (!(d10.1 == d11.1)) from hf _ (memI 13 rfl) (by kernel_rfl))
    subst e7
    show Option.isSome _ = true
    kernel_rfl
  ·intro j hj
   have hq : j = 0 ∨ j = 1 ∨ j = 2 ∨ j = 3 ∨ j = 4 ∨ j = 5 ∨ j = 6 ∨ j = 7 := by have h : j < 8 := hj; omega
   rcases hq with rfl | rfl | rfl | rfl | rfl | rfl | rfl | rfl
   ·intro vs gq stq hl hf
    obtain ⟨v0, v1, v2, v3, v4, v5, v6, v7, rfl⟩ := len_k8 hl
    have hB2 := (show Box gq (t + 2) b2 35 [[.int .i64 x1], encA .u8 d2, [.int .i64 x2], encA .u8 d3, [.slice a1 n1 c1], [.slice a2 n2 c2], [.bool q1]] [1, 8, 1, 8, 1, 1, 1] from hf _ (memI 0 rfl) (by kernel_rfl))
    refine WP.loadB (v := .int .i64 x2) hB2 (by kernel_rfl) (by kernel_rfl) ?_
    refine WP.dn (Shown.ok (v := .int .i64 x2) (by kernel_rfl) (Step.refl _ _) ?_)
    exact ⟨tv, tv, tv, tv, tv, tv, rfl, tv, tv, tv, tv, tv, tv, tv, tv⟩
   ·intro vs gq stq hl hf
    obtain ⟨v0, v1, v2, v3, v4, v5, v6, v7, rfl⟩ := len_k8 hl
    have hB3 := (show Box gq (t + 3) b3 35 [[.int .i64 x3], encA .u8 d4, [.int .i64 x4], encA .u8 d5, [.slice a3 n3 c3], [.slice a4 n4 c4], [.bool q2]] [1, 8, 1, 8, 1, 1, 1] from hf _ (memI 3 rfl) (by kernel_rfl))
    refine WP.loadB (v := .int .i64 x4) hB3 (by kernel_rfl) (by kernel_rfl) ?_
    refine WP.dn (Shown.ok (v := .int .i64 x4) (by kernel_rfl) (Step.refl _ _) ?_)
    exact ⟨tv, tv, tv, tv, tv, tv, tv, rfl, tv, tv, tv, tv, tv, tv, tv⟩
   ·intro vs gq stq hl hf
    obtain ⟨v0, v1, v2, v3, v4, v5, v6, v7, rfl⟩ := len_k8 hl
    have e0 := (show v0 = .int .i64 x2 from hf _ (memI 6 rfl) (by kernel_rfl))
    subst e0
    have e1 := (show v1 = .int .i64 x4 from hf _ (memI 7 rfl) (by kernel_rfl))
    subst e1
    refine WP.stl 1 ?_
    refine WP.dn (Shown.ok (v := .bool (x2 != x4)) (by kernel_rfl) (Step.refl _ _) ?_)
    exact ⟨tv, tv, tv, tv, tv, tv, tv, tv, congrArg Value.bool h10, tv, tv, tv, tv, tv, tv⟩
   ·intro vs gq stq hl hf
    obtain ⟨v0, v1, v2, v3, v4, v5, v6, v7, rfl⟩ := len_k8 hl
    have hB2 := (show Box gq (t + 2) b2 35 [[.int .i64 x1], encA .u8 d2, [.int .i64 x2], encA .u8 d3, [.slice a1 n1 c1], [.slice a2 n2 c2], [.bool q1]] [1, 8, 1, 8, 1, 1, 1] from hf _ (memI 0 rfl) (by kernel_rfl))
    have e2 := (show v2 = .bool false from hf _ (memI 8 rfl) (by kernel_rfl))
    subst e2
    refine WP.loadB (v := AG [[.int .i64 x1], encA .u8 d2, [.int .i64 x2], encA .u8 d3, [.slice a1 n1 c1], [.slice a2 n2 c2], [.bool q1]]) hB2 (by kernel_rfl) (by kernel_rfl) ?_
    refine WP.dn (Shown.ok (v := AG [[.int .i64 x1], encA .u8 d2, [.int .i64 x2], encA .u8 d3, [.slice a1 n1 c1], [.slice a2 n2 c2], [.bool q1]]) (by kernel_rfl) (Step.refl _ _) ?_)
    exact ⟨tv, tv, tv, tv, tv, tv, tv, tv, tv, rfl, tv, tv, tv, tv, tv⟩
   ·intro vs gq stq hl hf
    obtain ⟨v0, v1, v2, v3, v4, v5, v6, v7, rfl⟩ := len_k8 hl
    have hR1 := (show RdS (Kd.int .u8) gq 5 a1 n1 c1 l1 from hf _ (memI 1 rfl) (by kernel_rfl))
    have hR2 := (show RdS (Kd.int .u8) gq 5 a2 n2 c2 l2 from hf _ (memI 2 rfl) (by kernel_rfl))
    have e2 := (show v2 = .bool false from hf _ (memI 8 rfl) (by kernel_rfl))
    subst e2
    have e3 := (show v3 = AG [[.int .i64 x1], encA .u8 d2, [.int .i64 x2], encA .u8 d3, [.slice a1 n1 c1], [.slice a2 n2 c2], [.bool q1]] from hf _ (memI 9 rfl) (by kernel_rfl))
    subst e3
    have hcal7 := P.baizeref34_At gq x1 d2 x2 d3 l1 l2 q1 a1 n1 c1 a2 n2 c2 hR1 hR2 d10 hk7
    refine WP.callC hcal7 (by kernel_rfl) ?_
    rintro _ g12 st12 rfl
    refine WP.dn (Shown.o (v := AG [encA .u8 d10]) st12.pure ?_)
    exact ⟨tv, tv, tv, tv, tv, tv, tv, tv, tv, tv, rfl, tv, tv, tv, tv⟩
   ·intro vs gq stq hl hf
    obtain ⟨v0, v1, v2, v3, v4, v5, v6, v7, rfl⟩ := len_k8 hl
    have hB3 := (show Box gq (t + 3) b3 35 [[.int .i64 x3], encA .u8 d4, [.int .i64 x4], encA .u8 d5, [.slice a3 n3 c3], [.slice a4 n4 c4], [.bool q2]] [1, 8, 1, 8, 1, 1, 1] from hf _ (memI 3 rfl) (by kernel_rfl))
    have e2 := (show v2 = .bool false from hf _ (memI 8 rfl) (by kernel_rfl))
    subst e2
    refine WP.loadB (v := AG [[.int .i64 x3], encA .u8 d4, [.int .i64 x4], encA .u8 d5, [.slice a3 n3 c3], [.slice a4 n4 c4], [.bool q2]]) hB3 (by kernel_rfl) (by kernel_rfl) ?_
    refine WP.dn (Shown.ok (v := AG [[.int .i64 x3], encA .u8 d4, [.int .i64 x4], encA .u8 d5, [.slice a3 n3 c3], [.slice a4 n4 c4], [.bool q2]]) (by kernel_rfl) (Step.refl _ _) ?_)
    exact ⟨tv, tv, tv, tv, tv, tv, tv, tv, tv, tv, tv, rfl, tv, tv, tv⟩
   ·intro vs gq stq hl hf
    obtain ⟨v0, v1, v2, v3, v4, v5, v6, v7, rfl⟩ := len_k8 hl
    have hR3 := (show RdS (Kd.int .u8) gq 5 a3 n3 c3 l3 from hf _ (memI 4 rfl) (by kernel_rfl))
    have hR4 := (show RdS (Kd.int .u8) gq 5 a4 n4 c4 l4 from hf _ (memI 5 rfl) (by kernel_rfl))
    have e2 := (show v2 = .bool false from hf _ (memI 8 rfl) (by kernel_rfl))
    subst e2
    have e5 := (show v5 = AG [[.int .i64 x3], encA .u8 d4, [.int .i64 x4], encA .u8 d5, [.slice a3 n3 c3], [.slice a4 n4 c4], [.bool q2]] from hf _ (memI 11 rfl) (by kernel_rfl))
    subst e5
    have hcal8 := P.baizeref34_At gq x3 d4 x4 d5 l3 l4 q2 a3 n3 c3 a4 n4 c4 hR3 hR4 d11 hk8
    refine WP.callC hcal8 (by kernel_rfl) ?_
    rintro _ g13 st13 rfl
    refine WP.dn (Shown.o (v := AG [encA .u8 d11]) st13.pure ?_)
    exact ⟨tv, tv, tv, tv, tv, tv, tv, tv, tv, tv, tv, tv, rfl, tv, tv⟩
   ·intro vs gq stq hl hf
    obtain ⟨v0, v1, v2, v3, v4, v5, v6, v7, rfl⟩ := len_k8 hl
    have e2 := (show v2 = .bool false from hf _ (memI 8 rfl) (by kernel_rfl))
    subst e2
    have e4 := (show v4 = AG [encA .u8 d10] from hf _ (memI 10 rfl) (by kernel_rfl))
    subst e4
    have e6 := (show v6 = AG [encA .u8 d11] from hf _ (memI 12 rfl) (by kernel_rfl))
    subst e6
    refine WP.neV (by kernel_rfl) (by kernel_rfl) (EqV.arr (d := 9998) (t := 32) (e := 5) (m := 8) (k := .u8) (x := d10) (y := d11) (by kernel_rfl) (by kernel_rfl)) ?_
    refine WP.dn (Shown.ok (v := .bool (!(d10.1 == d11.1))) (by kernel_rfl) (Step.refl _ _) ?_)
    exact ⟨tv, tv, tv, tv, tv, tv, tv, tv, tv, tv, tv, tv, tv, rfl, tv⟩
  intro vs g14 st14 hl hf
  obtain ⟨v0, v1, v2, v3, v4, v5, v6, v7, rfl⟩ := len_k8 hl
  have e2 := (show v2 = .bool false from hf _ (memI 8 rfl) (by kernel_rfl))
  subst e2
  have e7 := (show v7 = .bool (!(d10.1 == d11.1)) from hf _ (memI 13 rfl) (by kernel_rfl))
  subst e7
  replace hB2 := hB2.mono st14.toNo (fun x => x)
  replace hR1 := hR1.mono st14.toNo (fun x => x)
  replace hR2 := hR2.mono st14.toNo (fun x => x)
  replace hB3 := hB3.mono st14.toNo (fun x => x)
  replace hR3 := hR3.mono st14.toNo (fun x => x)
  replace hR4 := hR4.mono st14.toNo (fun x => x)
  replace tot := tot.trans st14.toNo.pure
  refine NX.post ?_
  exact ⟨(!(d10.1 == d11.1)), ⟨by kernel_rfl, by kernel_rfl⟩, tot, hB2, hR1, hR2, hB3, hR3, hR4, hs⟩
 clear tot hs hB2 hR1 hR2 hB3 hR3 hR4
 rintro tm g ⟨q5, hF, tot, hB2, hR1, hR2, hB3, hR3, hR4, hs⟩
 clear ds
 obtain ⟨ds, rfl⟩ := hF.open
 clear hF
 unfold F.baizeref34_Twice.c2 at hs
 refine CP.cond (b := q5) (by kernel_rfl) (fun h7 => ?_) (fun h7 => ?_)
 ·replace hs := of_if_t hs h7
  refine CP.seqR ?_
  refine WP.stl 1 ?_
  refine WP.dn ?_
  refine NX.then_n ?_
  refine CP.ret ?_
  refine NX.then_r ?_
  replace hs := Option.some.inj hs
  obtain rfl := hs
  exact NX.fin (v := .int .i64 18) (Res.still (by kernel_rfl)) tot htL rfl
 replace hs := of_if_f hs h7
 refine CP.skip ?_
 refine NX.then_n ?_
 refine CP.seq ?_
 refine CP.seq ?_
 replace hs := Option.bind_eq_some_iff.1 hs
 obtain ⟨d8, hk5, hs⟩ := hs
 replace hs := Option.bind_eq_some_iff.1 hs
 obtain ⟨d9, hk6, hs⟩ := hs
 refine CP.drawL (by kernel_rfl) [0, 1, 2, 3, 4] [[], [0], [], [0, 1, 2], [0, 1, 2, 3]] [⟨none, [], [], fun l g => Box g (t + 2) b2 35 [[.int .i64 x1], encA .u8 d2, [.int .i64 x2], encA .u8 d3, [.slice a1 n1 c1], [.slice a2 n2 c2], [.bool q1]] [1, 8, 1, 8, 1, 1, 1]⟩, ⟨none, [], [], fun l g => RdS (Kd.int .u8) g 5 a1 n1 c1 l1⟩, ⟨none, [], [], fun l g => RdS (Kd.int .u8) g 5 a2 n2 c2 l2⟩, ⟨none, [], [], fun l g => Box g (t + 3) b3 35 [[.int .i64 x3], encA .u8 d4, [.int .i64 x4], encA .u8 d5, [.slice a3 n3 c3], [.slice a4 n4 c4], [.bool q2]] [1, 8, 1, 8, 1, 1, 1]⟩, ⟨none, [], [], fun l g => RdS (Kd.int .u8) g 5 a3 n3 c3 l3⟩, ⟨none, [], [], fun l g => RdS (Kd.int .u8) g 5 a4 n4 c4 l4⟩, ⟨some 0, [], [0], fun l g => l.getD 0 undef = AG [[.int .i64 x1], encA .u8 d2, [.int .i64 x2], encA .u8 d3, [.slice a1 n1 c1], [.slice a2 n2 c2], [.bool q1]]⟩, ⟨some 1, [], [1], fun l g => l.getD 0 undef = AG [encA .u8 d8]⟩, ⟨some 2, [], [2], fun l g => l.getD 0 undef = AG [[.int .i64 x3], encA .u8 d4, [.int .i64 x4], encA .u8 d5, [.slice a3 n3 c3], [.slice a4 n4 c4], [.bool q2]]⟩, ⟨some 3, [], [3], fun l g => l.getD 0 undef = AG [encA .u8 d9]⟩, ⟨some 4, [], [4], fun l g => l.getD 0 undef = .bool (d8.1 == d9.1)⟩] [[], [], [], [], []] [] [] [] (by kernel_rfl) (by simp) (by simp) ⟨fun _ _ _ _ st h0 hl hj hB2 => (hB2.mono st (fun h => absurd (hl _ h) (by simp))), fun _ _ _ _ st h0 hl hj hR1 => (RdS.mono (e := 5) hR1 st h0), fun _ _ _ _ st h0 hl hj hR2 => (RdS.mono (e := 5) hR2 st h0), fun _ _ _ _ st h0 hl hj hB3 => (hB3.mono st (fun h => absurd (hl _ h) (by simp))), fun _ _ _ _ st h0 hl hj hR3 => (RdS.mono (e := 5) hR3 st h0), fun _ _ _ _ st h0 hl hj hR4 => (RdS.mono (e := 5) hR4 st h0), fun _ _ _ _ st h0 hl hj e0 => e0, fun _ _ _ _ st h0 hl hj e1 => e1, fun _ _ _ _ st h0 hl hj e2 => e2, fun _ _ _ _ st h0 hl hj e3 => e3, fun _ _ _ _ st h0 hl hj e4 => e4, tv⟩ ⟨hB2, hR1, hR2, hB3, hR3, hR4, tv, tv, tv, tv, tv, tv⟩ (by kernel_rfl) (fun vs => by kernel_rfl) ?_ ?_ ?_
 ·intro j hj; exact absurd hj (by simp)
 ·intro j hj
  have hq : j = 0 ∨ j = 1 ∨ j = 2 ∨ j = 3 ∨ j = 4 := by have h : j < 5 := hj; omega
  rcases hq with rfl | rfl | rfl | rfl | rfl
  ·intro vs gq stq hl hf
   obtain ⟨v0, v1, v2, v3, v4, rfl⟩ := len_k5 hl
   have hB2 := (show Box gq (t + 2) b2 35 [[.int .i64 x1], encA .u8 d2, [.int .i64 x2], encA .u8 d3, [.slice a1 n1 c1], [.slice a2 n2 c2], [.bool q1]] [1, 8, 1, 8, 1, 1, 1] from hf _ (memI 0 rfl) (by kernel_rfl))
   refine WP.loadB (v := AG [[.int .i64 x1], encA .u8 d2, [.int .i64 x2], encA .u8 d3, [.slice a1 n1 c1], [.slice a2 n2 c2], [.bool q1]]) hB2 (by kernel_rfl) (by kernel_rfl) ?_
   refine WP.dn (Shown.ok (v := AG [[.int .i64 x1], encA .u8 d2, [.int .i64 x2], encA .u8 d3, [.slice a1 n1 c1], [.slice a2 n2 c2], [.bool q1]]) (by kernel_rfl) (Step.refl _ _) ?_)
   exact ⟨tv, tv, tv, tv, tv, tv, rfl, tv, tv, tv, tv, tv⟩
  ·intro vs gq stq hl hf
   obtain ⟨v0, v1, v2, v3, v4, rfl⟩ := len_k5 hl
   have hR1 := (show RdS (Kd.int .u8) gq 5 a1 n1 c1 l1 from hf _ (memI 1 rfl) (by kernel_rfl))
   have hR2 := (show RdS (Kd.int .u8) gq 5 a2 n2 c2 l2 from hf _ (memI 2 rfl) (by kernel_rfl))
   have e0 := (show v0 = AG [[.int .i64 x1], encA .u8 d2, [.int .i64 x2], encA .u8 d3, [.slice a1 n1 c1], [.slice a2 n2 c2], [.bool q1]] from hf _ (memI 6 rfl) (by kernel_rfl))
   subst e0
   have hcal5 := P.baizeref34_Digest gq x1 d2 x2 d3 l1 l2 q1 a1 n1 c1 a2 n2 c2 hR1 hR2 d8 hk5
   refine WP.callC hcal5 (by kernel_rfl) ?_
   rintro _ g8 st8 rfl
   refine WP.dn (Shown.o (v := AG [encA .u8 d8]) st8.pure ?_)
   exact ⟨tv, tv, tv, tv, tv, tv, tv, rfl, tv, tv, tv, tv⟩
  ·intro vs gq stq hl hf
   obtain ⟨v0, v1, v2, v3, v4, rfl⟩ := len_k5 hl
   have hB3 := (show Box gq (t + 3) b3 35 [[.int .i64 x3], encA .u8 d4, [.int .i64 x4], encA .u8 d5, [.slice a3 n3 c3], [.slice a4 n4 c4], [.bool q2]] [1, 8, 1, 8, 1, 1, 1] from hf _ (memI 3 rfl) (by kernel_rfl))
   refine WP.loadB (v := AG [[.int .i64 x3], encA .u8 d4, [.int .i64 x4], encA .u8 d5, [.slice a3 n3 c3], [.slice a4 n4 c4], [.bool q2]]) hB3 (by kernel_rfl) (by kernel_rfl) ?_
   refine WP.dn (Shown.ok (v := AG [[.int .i64 x3], encA .u8 d4, [.int .i64 x4], encA .u8 d5, [.slice a3 n3 c3], [.slice a4 n4 c4], [.bool q2]]) (by kernel_rfl) (Step.refl _ _) ?_)
   exact ⟨tv, tv, tv, tv, tv, tv, tv, tv, rfl, tv, tv, tv⟩
  ·intro vs gq stq hl hf
   obtain ⟨v0, v1, v2, v3, v4, rfl⟩ := len_k5 hl
   have hR3 := (show RdS (Kd.int .u8) gq 5 a3 n3 c3 l3 from hf _ (memI 4 rfl) (by kernel_rfl))
   have hR4 := (show RdS (Kd.int .u8) gq 5 a4 n4 c4 l4 from hf _ (memI 5 rfl) (by kernel_rfl))
   have e2 := (show v2 = AG [[.int .i64 x3], encA .u8 d4, [.int .i64 x4], encA .u8 d5, [.slice a3 n3 c3], [.slice a4 n4 c4], [.bool q2]] from hf _ (memI 8 rfl) (by kernel_rfl))
   subst e2
   have hcal6 := P.baizeref34_Digest gq x3 d4 x4 d5 l3 l4 q2 a3 n3 c3 a4 n4 c4 hR3 hR4 d9 hk6
   refine WP.callC hcal6 (by kernel_rfl) ?_
   rintro _ g9 st9 rfl
   refine WP.dn (Shown.o (v := AG [encA .u8 d9]) st9.pure ?_)
   exact ⟨tv, tv, tv, tv, tv, tv, tv, tv, tv, rfl, tv, tv⟩
  ·intro vs gq stq hl hf
   obtain ⟨v0, v1, v2, v3, v4, rfl⟩ := len_k5 hl
   have e1 := (show v1 = AG [encA .u8 d8] from hf _ (memI 7 rfl) (by kernel_rfl))
   subst e1
   have e3 := (show v3 = AG [encA .u8 d9] from hf _ (memI 9 rfl) (by kernel_rfl))
   subst e3
   refine WP.eqV (by kernel_rfl) (by kernel_rfl) (EqV.arr (d := 9998) (t := 32) (e := 5) (m := 8) (k := .u8) (x := d8) (y := d9) (by kernel_rfl) (by kernel_rfl)) ?_
   refine WP.dn (Shown.ok (v := .bool (d8.1 == d9.1)) (by kernel_rfl) (Step.refl _ _) ?_)
   exact ⟨tv, tv, tv, tv, tv, tv, tv, tv, tv, tv, rfl, tv⟩
 intro vs g10 st10 hl hf
 obtain ⟨v0, v1, v2, v3, v4, rfl⟩ := len_k5 hl
 have e4 := (show v4 = .bool (d8.1 == d9.1) from hf _ (memI 10 rfl) (by kernel_rfl))
 subst e4
 replace tot := tot.trans st10.toNo.pure
 refine NX.then_n ?_
 refine CP.refr 55 [(3, .bool q3), (52, .bool (d8.1 == d9.1))] (by kernel_rfl) (by kernel_rfl) ?_
 clear ds
 intro ds
 refine CP.cond (b := (d8.1 == d9.1)) (by kernel_rfl) (fun h8 => ?_) (fun h8 => ?_)
 ·replace hs := of_if_t hs h8
  refine CP.seqR ?_
  refine WP.stl 1 ?_
  refine WP.dn ?_
  refine NX.then_n ?_
  refine CP.ret ?_
  refine NX.then_r ?_
  replace hs := Option.some.inj hs
  obtain rfl := hs
  exact NX.fin (v := .int .i64 7) (Res.still (by kernel_rfl)) tot htL rfl
 replace hs := of_if_f hs h8
 refine CP.skip ?_
 refine NX.then_n ?_
 refine CP.seq ?_
 refine CP.seqR ?_
 refine WP.stl 2 ?_
 refine WP.dn ?_
 refine NX.then_n ?_
 refine CP.cond (b := (!q3)) (by kernel_rfl) (fun h9 => ?_) (fun h9 => ?_)
 ·replace hs := of_if_t hs h9
  refine CP.seqR ?_
  refine WP.stl 1 ?_
  refine WP.dn ?_
  refine NX.then_n ?_
  refine CP.ret ?_
  refine NX.then_r ?_
  replace hs := Option.some.inj hs
  obtain rfl := hs
  exact NX.fin (v := .int .i64 16) (Res.still (by kernel_rfl)) tot htL rfl
 replace hs := of_if_f hs h9
 refine CP.skip ?_
 refine NX.then_n ?_
 refine CP.seqR ?_
 refine WP.stl 1 ?_
 refine WP.dn ?_
 refine NX.then_n ?_
 refine CP.ret ?_
 replace hs := Option.some.inj hs
 obtain rfl := hs
 exact NX.fin (v := .int .i64 0) (Res.still (by kernel_rfl)) tot htL rfl
def F.punish_Twice_2 (d1 : Arr Int 8) (d2 : Arr Int 8) (x1 : Int) (d3 : Arr Int 8) (x2 : Int) (l1 : List Int) (d4 : Arr Int 8) (x3 : Int) (d5 : Arr Int 8) (l2 : List Int) (l3 : List Int) (x4 : Int) (d6 : Arr Int 8) (x5 : Int) (l4 : List Int) (d7 : Arr Int 8) (x6 : Int) (d8 : Arr Int 8) (l5 : List Int) (l6 : List Int) : Option (Int) := (some 1)
theorem P.punish_Twice_2 (g0 : GW) (d1 : Arr Int 8) (d2 : Arr Int 8) (x1 : Int) (d3 : Arr Int 8) (x2 : Int) (l1 : List Int) (d4 : Arr Int 8) (x3 : Int) (d5 : Arr Int 8) (l2 : List Int) (l3 : List Int) (x4 : Int) (d6 : Arr Int 8) (x5 : Int) (l4 : List Int) (d7 : Arr Int 8) (x6 : Int) (d8 : Arr Int 8) (l5 : List Int) (l6 : List Int) (a1 : Option Addr) (n1 : Nat) (c1 : Nat) (a2 : Option Addr) (n2 : Nat) (c2 : Nat) (a3 : Option Addr) (n3 : Nat) (c3 : Nat) (a4 : Option Addr) (n4 : Nat) (c4 : Nat) (a5 : Option Addr) (n5 : Nat) (c5 : Nat) (a6 : Option Addr) (n6 : Nat) (c6 : Nat) (hR1 : RdS (Kd.int .u8) g0 5 a1 n1 c1 l1) (hR2 : RdS (Kd.int .u8) g0 5 a2 n2 c2 l2) (hR3 : RdS (Kd.int .u8) g0 5 a3 n3 c3 l3) (hR4 : RdS (Kd.int .u8) g0 5 a4 n4 c4 l4) (hR5 : RdS (Kd.int .u8) g0 5 a5 n5 c5 l5) (hR6 : RdS (Kd.int .u8) g0 5 a6 n6 c6 l6) (o1 : Int) (hs : F.punish_Twice_2 d1 d2 x1 d3 x2 l1 d4 x3 d5 l2 l3 x4 d6 x5 l4 d7 x6 d8 l5 l6 = some o1) :
  Calls Try.prog 31 #[.nilIface, AG [encA .u8 d1], AG [encA .u8 d2], AG [[.int .i64 x1], encA .u8 d3, [.int .i64 x2], [.slice a1 n1 c1], encA .u8 d4, [.int .i64 x3], encA .u8 d5, [.slice a2 n2 c2], [.slice a3 n3 c3]], AG [[.int .i64 x4], encA .u8 d6, [.int .i64 x5], [.slice a4 n4 c4], encA .u8 d7, [.int .i64 x6], encA .u8 d8, [.slice a5 n5 c5], [.slice a6 n6 c6]]] g0.w (Ret NoM g0 fun v g => v = .int .i64 o1) := by
 refine calls_of (args := [.nilIface, AG [encA .u8 d1], AG [encA .u8 d2], AG [[.int .i64 x1], encA .u8 d3, [.int .i64 x2], [.slice a1 n1 c1], encA .u8 d4, [.int .i64 x3], encA .u8 d5, [.slice a2 n2 c2], [.slice a3 n3 c3]], AG [[.int .i64 x4], encA .u8 d6, [.int .i64 x5], [.slice a4 n4 c4], encA .u8 d7, [.int .i64 x6], encA .u8 d8, [.slice a5 n5 c5], [.slice a6 n6 c6]]]) Try.func31 rfl (0) ?_
 intro t ht htL
 refine ⟨_, rfl, ?_⟩
 refine CP.refr 95 [(0, .nilIface), (1, AG [encA .u8 d1]), (2, AG [encA .u8 d2]), (3, AG [[.int .i64 x1], encA .u8 d3, [.int .i64 x2], [.slice a1 n1 c1], encA .u8 d4, [.int .i64 x3], encA .u8 d5, [.slice a2 n2 c2], [.slice a3 n3 c3]]), (4, AG [[.int .i64 x4], encA .u8 d6, [.int .i64 x5], [.slice a4 n4 c4], encA .u8 d7, [.int .i64 x6], encA .u8 d8, [.slice a5 n5 c5], [.slice a6 n6 c6]])] (by kernel_rfl) (by kernel_rfl) ?_
 intro ds
 have tot : Step (fun l => NoM l ∨ t ≤ l) g0 g0 := Step.refl _ _
 unfold F.punish_Twice_2 at hs
 refine CP.seqR ?_
 refine WP.alloc (T := 37) (t + 1) [encA .u8 d1] [8] (by kernel_rfl) (by simp [len_encA]) ?_
 intro g1 b1 st1 hB1
 replace hR1 := hR1.mono st1 (fun x => x)
 replace hR2 := hR2.mono st1 (fun x => x)
 replace hR3 := hR3.mono st1 (fun x => x)
 replace hR4 := hR4.mono st1 (fun x => x)
 replace hR5 := hR5.mono st1 (fun x => x)
 replace hR6 := hR6.mono st1 (fun x => x)
 replace tot := tot.trans st1.pure
 refine WP.alloc (T := 37) (t + 2) [encA .u8 d2] [8] (by kernel_rfl) (by simp [len_encA]) ?_
 intro g2 b2 st2 hB2
 replace hR1 := hR1.mono st2 (fun x => x)
 replace hR2 := hR2.mono st2 (fun x => x)
 replace hR3 := hR3.mono st2 (fun x => x)
 replace hR4 := hR4.mono st2 (fun x => x)
 replace hR5 := hR5.mono st2 (fun x => x)
 replace hR6 := hR6.mono st2 (fun x => x)
 replace hB1 := hB1.mono st2 (fun x => x)
 replace tot := tot.trans st2.pure
 refine WP.alloc (T := 43) (t + 3) [[.int .i64 x1], encA .u8 d3, [.int .i64 x2], [.slice a1 n1 c1], encA .u8 d4, [.int .i64 x3], encA .u8 d5, [.slice a2 n2 c2], [.slice a3 n3 c3]] [1, 8, 1, 1, 8, 1, 8, 1, 1] (by kernel_rfl) (by simp [len_encA]) ?_
 intro g3 b3 st3 hB3
 replace hR1 := hR1.mono st3 (fun x => x)
 replace hR2 := hR2.mono st3 (fun x => x)
 replace hR3 := hR3.mono st3 (fun x => x)
 replace hR4 := hR4.mono st3 (fun x => x)
 replace hR5 := hR5.mono st3 (fun x => x)
 replace hR6 := hR6.mono st3 (fun x => x)
 replace hB1 := hB1.mono st3 (fun x => x)
 replace hB2 := hB2.mono st3 (fun x => x)
 replace tot := tot.trans st3.pure
 refine WP.alloc (T := 43) (t + 4) [[.int .i64 x4], encA .u8 d6, [.int .i64 x5], [.slice a4 n4 c4], encA .u8 d7, [.int .i64 x6], encA .u8 d8, [.slice a5 n5 c5], [.slice a6 n6 c6]] [1, 8, 1, 1, 8, 1, 8, 1, 1] (by kernel_rfl) (by simp [len_encA]) ?_
 intro g4 b4 st4 hB4
 replace hR1 := hR1.mono st4 (fun x => x)
 replace hR2 := hR2.mono st4 (fun x => x)
 replace hR3 := hR3.mono st4 (fun x => x)
 replace hR4 := hR4.mono st4 (fun x => x)
 replace hR5 := hR5.mono st4 (fun x => x)
 replace hR6 := hR6.mono st4 (fun x => x)
 replace hB1 := hB1.mono st4 (fun x => x)
 replace hB2 := hB2.mono st4 (fun x => x)
 replace hB3 := hB3.mono st4 (fun x => x)
 replace tot := tot.trans st4.pure
 refine WP.stl 1 ?_
 refine WP.dn ?_
 refine NX.then_n ?_
 refine CP.seq ?_
 refine CP.seqR ?_
 refine WP.stl 2 ?_
 refine WP.dn ?_
 refine NX.then_n ?_
 refine CP.cond_t (by kernel_rfl) ?_
 refine CP.seqR ?_
 refine WP.stl 1 ?_
 refine WP.dn ?_
 refine NX.then_n ?_
 refine CP.ret ?_
 refine NX.then_r ?_
 replace hs := Option.some.inj hs
 obtain rfl := hs
 exact NX.fin (v := .int .i64 1) (Res.still (by kernel_rfl)) tot htL rfl
end Go.Proofs.Ytlnockimfgfcgaa
