/-
  Walks, written by program: each Go function computes the plain function of its name, in whatever world its arguments' facts hold.
-/
import Derived.Test.YtlnockimfgfcgaaWPb3
namespace Go.Proofs.Ytlnockimfgfcgaa
open Go.RowKit Go.Lab
attribute [local irreducible] WP CP NX wpList Code.wp Calls
set_option maxRecDepth 100000
set_option maxHeartbeats 4000000
set_option linter.unusedVariables false

def F.baizeref34_Same.c1 (q5 : Bool) : Option (Bool) := (some q5)
def N.baizeref34_Same_0 : List (List Nat) := [[], [0], [], [2], [0, 1, 2, 3], [0, 1, 2, 3, 4], [0, 1, 2, 3, 4, 5], [0, 1, 2, 3, 4, 5, 6], [0, 1, 2, 3, 4, 5], [0, 1, 2, 3, 4, 5, 8], [0, 1, 2, 3, 4, 5, 6, 7, 8, 9], [0, 1, 2, 3, 4, 5, 6, 7, 8, 9, 10], [0, 1, 2, 3, 4, 5, 6, 7, 8, 9, 10, 11], [0, 1, 2, 3, 4, 5, 6, 7, 8, 9, 10, 11, 12], [0, 1, 2, 3, 4, 5, 6, 7, 8, 9, 10, 11, 12, 13], [0, 1, 2, 3, 4, 5, 6, 7, 8, 9, 10, 11, 12], [0, 1, 2, 3, 4, 5, 6, 7, 8, 9, 10, 11, 12, 15], [0, 1, 2, 3, 4, 5, 6, 7, 8, 9, 10, 11, 12, 13, 14, 15, 16], [0, 1, 2, 3, 4, 5, 6, 7, 8, 9, 10, 11, 12, 13, 14, 15, 16, 17], [0, 1, 2, 3, 4, 5, 6, 7, 8, 9, 10, 11, 12, 13, 14, 15, 16, 17, 18], [0, 1, 2, 3, 4, 5, 6, 7, 8, 9, 10, 11, 12, 13, 14, 15, 16, 17, 18, 19], [0, 1, 2, 3, 4, 5, 6, 7, 8, 9, 10, 11, 12, 13, 14, 15, 16, 17, 18, 19, 20], [0, 1, 2, 3, 4, 5, 6, 7, 8, 9, 10, 11, 12, 13, 14, 15, 16, 17, 18, 19], [0, 1, 2, 3, 4, 5, 6, 7, 8, 9, 10, 11, 12, 13, 14, 15, 16, 17, 18, 19, 20, 21, 22], [0, 1, 2, 3, 4, 5, 6, 7, 8, 9, 10, 11, 12, 13, 14, 15, 16, 17, 18, 19, 20, 21, 22, 23], [0, 1, 2, 3, 4, 5, 6, 7, 8, 9, 10, 11, 12, 13, 14, 15, 16, 17, 18, 19, 20, 21, 22, 23, 24], [0, 1, 2, 3, 4, 5, 6, 7, 8, 9, 10, 11, 12, 13, 14, 15, 16, 17, 18, 19, 20, 21, 22, 23, 24, 25], [0, 1, 2, 3, 4, 5, 6, 7, 8, 9, 10, 11, 12, 13, 14, 15, 16, 17, 18, 19, 20, 21, 22, 23, 24, 25, 26], [0, 1, 2, 3, 4, 5, 6, 7, 8, 9, 10, 11, 12, 13, 14, 15, 16, 17, 18, 19, 20, 21, 22, 23, 24, 25, 26, 27], [0, 1, 2, 3, 4, 5, 6, 7, 8, 9, 10, 11, 12, 13, 14, 15, 16, 17, 18, 19, 20, 21, 22, 23, 24, 25, 26], [0, 1, 2, 3, 4, 5, 6, 7, 8, 9, 10, 11, 12, 13, 14, 15, 16, 17, 18, 19, 20, 21, 22, 23, 24, 25, 26, 29], [0, 1, 2, 3, 4, 5, 6, 7, 8, 9, 10, 11, 12, 13, 14, 15, 16, 17, 18, 19, 20, 21, 22, 23, 24, 25, 26, 27, 28, 29, 30], [0, 1, 2, 3, 4, 5, 6, 7, 8, 9, 10, 11, 12, 13, 14, 15, 16, 17, 18, 19, 20, 21, 22, 23, 24, 25, 26, 27, 28, 29, 30, 31], [0, 1, 2, 3, 4, 5, 6, 7, 8, 9, 10, 11, 12, 13, 14, 15, 16, 17, 18, 19, 20, 21, 22, 23, 24, 25, 26, 27, 28, 29, 30, 31, 32], [0, 1, 2, 3, 4, 5, 6, 7, 8, 9, 10, 11, 12, 13, 14, 15, 16, 17, 18, 19, 20, 21, 22, 23, 24, 25, 26, 27, 28, 29, 30, 31, 32, 33], [0, 1, 2, 3, 4, 5, 6, 7, 8, 9, 10, 11, 12, 13, 14, 15, 16, 17, 18, 19, 20, 21, 22, 23, 24, 25, 26, 27, 28, 29, 30, 31, 32, 33, 34], [0, 1, 2, 3, 4, 5, 6, 7, 8, 9, 10, 11, 12, 13, 14, 15, 16, 17, 18, 19, 20, 21, 22, 23, 24, 25, 26, 27, 28, 29, 30, 31, 32, 33], [0, 1, 2, 3, 4, 5, 6, 7, 8, 9, 10, 11, 12, 13, 14, 15, 16, 17, 18, 19, 20, 21, 22, 23, 24, 25, 26, 27, 28, 29, 30, 31, 32, 33, 36], [0, 1, 2, 3, 4, 5, 6, 7, 8, 9, 10, 11, 12, 13, 14, 15, 16, 17, 18, 19, 20, 21, 22, 23, 24, 25, 26, 27, 28, 29, 30, 31, 32, 33, 34, 35, 36, 37], [0, 1, 2, 3, 4, 5, 6, 7, 8, 9, 10, 11, 12, 13, 14, 15, 16, 17, 18, 19, 20, 21, 22, 23, 24, 25, 26, 27, 28, 29, 30, 31, 32, 33, 34, 35, 36, 37, 38], [0, 1, 2, 3, 4, 5, 6, 7, 8, 9, 10, 11, 12, 13, 14, 15, 16, 17, 18, 19, 20, 21, 22, 23, 24, 25, 26, 27, 28, 29, 30, 31, 32, 33, 34, 35, 36, 37, 38, 39], [0, 1, 2, 3, 4, 5, 6, 7, 8, 9, 10, 11, 12, 13, 14, 15, 16, 17, 18, 19, 20, 21, 22, 23, 24, 25, 26, 27, 28, 29, 30, 31, 32, 33, 34, 35, 36, 37, 38, 39, 40], [0, 1, 2, 3, 4, 5, 6, 7, 8, 9, 10, 11, 12, 13, 14, 15, 16, 17, 18, 19, 20, 21, 22, 23, 24, 25, 26, 27, 28, 29, 30, 31, 32, 33, 34, 35, 36, 37, 38, 39, 40, 41], [0, 1, 2, 3, 4, 5, 6, 7, 8, 9, 10, 11, 12, 13, 14, 15, 16, 17, 18, 19, 20, 21, 22, 23, 24, 25, 26, 27, 28, 29, 30, 31, 32, 33, 34, 35, 36, 37, 38, 39, 40], [0, 1, 2, 3, 4, 5, 6, 7, 8, 9, 10, 11, 12, 13, 14, 15, 16, 17, 18, 19, 20, 21, 22, 23, 24, 25, 26, 27, 28, 29, 30, 31, 32, 33, 34, 35, 36, 37, 38, 39, 40, 43], [0, 1, 2, 3, 4, 5, 6, 7, 8, 9, 10, 11, 12, 13, 14, 15, 16, 17, 18, 19, 20, 21, 22, 23, 24, 25, 26, 27, 28, 29, 30, 31, 32, 33, 34, 35, 36, 37, 38, 39, 40, 41, 42, 43, 44], [0, 1, 2, 3, 4, 5, 6, 7, 8, 9, 10, 11, 12, 13, 14, 15, 16, 17, 18, 19, 20, 21, 22, 23, 24, 25, 26, 27, 28, 29, 30, 31, 32, 33, 34, 35, 36, 37, 38, 39, 40, 41, 42, 43, 44, 45], [0, 1, 2, 3, 4, 5, 6, 7, 8, 9, 10, 11, 12, 13, 14, 15, 16, 17, 18, 19, 20, 21, 22, 23, 24, 25, 26, 27, 28, 29, 30, 31, 32, 33, 34, 35, 36, 37, 38, 39, 40, 41, 42, 43, 44, 45, 46]]
def F.baizeref34_Same (x1 : Int) (d1 : Arr Int 8) (x2 : Int) (d2 : Arr Int 8) (l1 : List Int) (l2 : List Int) (q1 : Bool) (x3 : Int) (d3 : Arr Int 8) (x4 : Int) (d4 : Arr Int 8) (l3 : List Int) (l4 : List Int) (q2 : Bool) : Option (Bool) := (if (x1 == x3) = true then (if (d1.1 == d3.1) = true then (if (x2 == x4) = true then ((F.baizeref34_At x1 d1 x2 d2 l1 l2 q1).bind fun d7 => ((F.baizeref34_At x3 d3 x4 d4 l3 l4 q2).bind fun d8 => (if (d7.1 == d8.1) = true then ((F.baizeref01_Same l1 l3).bind fun q6 => (if q6 = true then ((F.baizeref01_Same l2 l4).bind fun q7 => (if q7 = true then (F.baizeref34_Same.c1 (q1 == q2)) else (F.baizeref34_Same.c1 false))) else (F.baizeref34_Same.c1 false))) else (F.baizeref34_Same.c1 false)))) else (F.baizeref34_Same.c1 false)) else (F.baizeref34_Same.c1 false)) else (F.baizeref34_Same.c1 false))
theorem P.baizeref34_Same (g0 : GW) (x1 : Int) (d1 : Arr Int 8) (x2 : Int) (d2 : Arr Int 8) (l1 : List Int) (l2 : List Int) (q1 : Bool) (x3 : Int) (d3 : Arr Int 8) (x4 : Int) (d4 : Arr Int 8) (l3 : List Int) (l4 : List Int) (q2 : Bool) (a1 : Option Addr) (n1 : Nat) (c1 : Nat) (a2 : Option Addr) (n2 : Nat) (c2 : Nat) (a3 : Option Addr) (n3 : Nat) (c3 : Nat) (a4 : Option Addr) (n4 : Nat) (c4 : Nat) (hR1 : RdS (Kd.int .u8) g0 5 a1 n1 c1 l1) (hR2 : RdS (Kd.int .u8) g0 5 a2 n2 c2 l2) (hR3 : RdS (Kd.int .u8) g0 5 a3 n3 c3 l3) (hR4 : RdS (Kd.int .u8) g0 5 a4 n4 c4 l4) (o1 : Bool) (hs : F.baizeref34_Same x1 d1 x2 d2 l1 l2 q1 x3 d3 x4 d4 l3 l4 q2 = some o1) :
  Calls Try.prog 18 #[AG [[.int .i64 x1], encA .u8 d1, [.int .i64 x2], encA .u8 d2, [.slice a1 n1 c1], [.slice a2 n2 c2], [.bool q1]], AG [[.int .i64 x3], encA .u8 d3, [.int .i64 x4], encA .u8 d4, [.slice a3 n3 c3], [.slice a4 n4 c4], [.bool q2]]] g0.w (Ret NoM g0 fun v g => v = .bool o1) := by
 refine calls_of (args := [AG [[.int .i64 x1], encA .u8 d1, [.int .i64 x2], encA .u8 d2, [.slice a1 n1 c1], [.slice a2 n2 c2], [.bool q1]], AG [[.int .i64 x3], encA .u8 d3, [.int .i64 x4], encA .u8 d4, [.slice a3 n3 c3], [.slice a4 n4 c4], [.bool q2]]]) Try.func18 rfl (0) ?_
 intro t ht htL
 refine ⟨_, rfl, ?_⟩
 refine CP.refr 52 [(0, AG [[.int .i64 x1], encA .u8 d1, [.int .i64 x2], encA .u8 d2, [.slice a1 n1 c1], [.slice a2 n2 c2], [.bool q1]]), (1, AG [[.int .i64 x3], encA .u8 d3, [.int .i64 x4], encA .u8 d4, [.slice a3 n3 c3], [.slice a4 n4 c4], [.bool q2]])] (by kernel_rfl) (by kernel_rfl) ?_
 intro ds
 have tot : Step (fun l => NoM l ∨ t ≤ l) g0 g0 := Step.refl _ _
 unfold F.baizeref34_Same at hs
 refine CP.seqR ?_
 refine WP.alloc (T := 35) (t + 1) [[.int .i64 x1], encA .u8 d1, [.int .i64 x2], encA .u8 d2, [.slice a1 n1 c1], [.slice a2 n2 c2], [.bool q1]] [1, 8, 1, 8, 1, 1, 1] (by kernel_rfl) (by simp [len_encA]) ?_
 intro g1 b1 st1 hB1
 replace hR1 := hR1.mono st1 (fun x => x)
 replace hR2 := hR2.mono st1 (fun x => x)
 replace hR3 := hR3.mono st1 (fun x => x)
 replace hR4 := hR4.mono st1 (fun x => x)
 replace tot := tot.trans st1.pure
 refine WP.alloc (T := 35) (t + 2) [[.int .i64 x3], encA .u8 d3, [.int .i64 x4], encA .u8 d4, [.slice a3 n3 c3], [.slice a4 n4 c4], [.bool q2]] [1, 8, 1, 8, 1, 1, 1] (by kernel_rfl) (by simp [len_encA]) ?_
 intro g2 b2 st2 hB2
 replace hR1 := hR1.mono st2 (fun x => x)
 replace hR2 := hR2.mono st2 (fun x => x)
 replace hR3 := hR3.mono st2 (fun x => x)
 replace hR4 := hR4.mono st2 (fun x => x)
 replace hB1 := hB1.mono st2 (fun x => x)
 replace tot := tot.trans st2.pure
 refine WP.stl 1 ?_
 refine WP.dn ?_
 refine NX.then_n ?_
 refine CP.cut (fun tm g => ∃ (q5 : Bool), Fr 52 [(4, .bool q5)] tm ∧ Step (fun l => NoM l ∨ t ≤ l) g0 g ∧ (F.baizeref34_Same.c1 q5) = some o1) ?_ ?_
 ·refine bool_split (b := (x1 == x3)) (fun h7 => ?_) (fun h7 => ?_)
  ·replace hs := of_if_t hs h7
   refine bool_split (b := (d1.1 == d3.1)) (fun h8 => ?_) (fun h8 => ?_)
   ·replace hs := of_if_t hs h8
    refine bool_split (b := (x2 == x4)) (fun h9 => ?_) (fun h9 => ?_)
    ·replace hs := of_if_t hs h9
     replace hs := Option.bind_eq_some_iff.1 hs
     obtain ⟨d7, hk5, hs⟩ := hs
     replace hs := Option.bind_eq_some_iff.1 hs
     obtain ⟨d8, hk6, hs⟩ := hs
     refine bool_split (b := (d7.1 == d8.1)) (fun h10 => ?_) (fun h10 => ?_)
     ·replace hs := of_if_t hs h10
      replace hs := Option.bind_eq_some_iff.1 hs
      obtain ⟨q6, hk7, hs⟩ := hs
      refine bool_split (b := q6) (fun h11 => ?_) (fun h11 => ?_)
      ·replace hs := of_if_t hs h11
       replace hs := Option.bind_eq_some_iff.1 hs
       obtain ⟨q7, hk8, hs⟩ := hs
       refine bool_split (b := q7) (fun h12 => ?_) (fun h12 => ?_)
       ·replace hs := of_if_t hs h12
        refine CP.drawL (by kernel_rfl) [1, 3, 5, 7, 9, 10, 12, 14, 16, 19, 20, 21, 22, 23, 24, 26, 28, 30, 31, 33, 35, 37, 38, 40, 42, 44] N.baizeref34_Same_0 [⟨none, [], [], fun l g => Box g (t + 1) b1 35 [[.int .i64 x1], encA .u8 d1, [.int .i64 x2], encA .u8 d2, [.slice a1 n1 c1], [.slice a2 n2 c2], [.bool q1]] [1, 8, 1, 8, 1, 1, 1]⟩, ⟨none, [], [], fun l g => RdS (Kd.int .u8) g 5 a1 n1 c1 l1⟩, ⟨none, [], [], fun l g => RdS (Kd.int .u8) g 5 a2 n2 c2 l2⟩, ⟨none, [], [], fun l g => Box g (t + 2) b2 35 [[.int .i64 x3], encA .u8 d3, [.int .i64 x4], encA .u8 d4, [.slice a3 n3 c3], [.slice a4 n4 c4], [.bool q2]] [1, 8, 1, 8, 1, 1, 1]⟩, ⟨none, [], [], fun l g => RdS (Kd.int .u8) g 5 a3 n3 c3 l3⟩, ⟨none, [], [], fun l g => RdS (Kd.int .u8) g 5 a4 n4 c4 l4⟩, ⟨some 0, [], [0], fun l g => l.getD 0 undef = .int .i64 x1⟩, ⟨some 1, [], [1], fun l g => l.getD 0 undef = .int .i64 x3⟩, ⟨some 2, [], [2], fun l g => l.getD 0 undef = .bool true⟩, ⟨some 3, [], [3], fun l g => l.getD 0 undef = AG [encA .u8 d1]⟩, ⟨some 4, [], [4], fun l g => l.getD 0 undef = AG [encA .u8 d3]⟩, ⟨some 5, [], [5], fun l g => l.getD 0 undef = .bool (d1.1 == d3.1)⟩, ⟨some 6, [], [6], fun l g => l.getD 0 undef = .bool true⟩, ⟨some 7, [], [7], fun l g => l.getD 0 undef = .int .i64 x2⟩, ⟨some 8, [], [8], fun l g => l.getD 0 undef = .int .i64 x4⟩, ⟨some 9, [], [9], fun l g => l.getD 0 undef = .bool true⟩, ⟨some 10, [], [10], fun l g => l.getD 0 undef = AG [[.int .i64 x1], encA .u8 d1, [.int .i64 x2], encA .u8 d2, [.slice a1 n1 c1], [.slice a2 n2 c2], [.bool q1]]⟩, ⟨some 11, [], [11], fun l g => l.getD 0 undef = AG [encA .u8 d7]⟩, ⟨some 12, [], [12], fun l g => l.getD 0 undef = AG [[.int .i64 x3], encA .u8 d3, [.int .i64 x4], encA .u8 d4, [.slice a3 n3 c3], [.slice a4 n4 c4], [.bool q2]]⟩, ⟨some 13, [], [13], fun l g => l.getD 0 undef = AG [encA .u8 d8]⟩, ⟨some 14, [], [14], fun l g => l.getD 0 undef = .bool (d7.1 == d8.1)⟩, ⟨some 15, [], [15], fun l g => l.getD 0 undef = .bool true⟩, ⟨some 16, [], [16], fun l g => l.getD 0 undef = .slice a1 n1 c1⟩, ⟨some 17, [], [17], fun l g => l.getD 0 undef = .slice a3 n3 c3⟩, ⟨some 18, [], [18], fun l g => l.getD 0 undef = .bool q6⟩, ⟨some 19, [], [19], fun l g => l.getD 0 undef = .bool true⟩, ⟨some 20, [], [20], fun l g => l.getD 0 undef = .slice a2 n2 c2⟩, ⟨some 21, [], [21], fun l g => l.getD 0 undef = .slice a4 n4 c4⟩, ⟨some 22, [], [22], fun l g => l.getD 0 undef = .bool q7⟩, ⟨some 23, [], [23], fun l g => l.getD 0 undef = .bool true⟩, ⟨some 24, [], [24], fun l g => l.getD 0 undef = .bool q1⟩, ⟨some 25, [], [25], fun l g => l.getD 0 undef = .bool q2⟩] [[], [], [], [], [], [], [], [], [], [], [], [], [], [], [], [], [], [], [], [], [], [], [], [], [], []] [] [0, 2] [4, 6, 8, 11, 13, 15, 17, 18, 25, 27, 29, 32, 34, 36, 39, 41, 43, 45, 46, 47] (by kernel_rfl) (by simp) (by simp) ⟨fun _ _ _ _ st h0 hl hj hB1 => (hB1.mono st (fun h => absurd (hl _ h) (by simp))), fun _ _ _ _ st h0 hl hj hR1 => (RdS.mono (e := 5) hR1 st h0), fun _ _ _ _ st h0 hl hj hR2 => (RdS.mono (e := 5) hR2 st h0), fun _ _ _ _ st h0 hl hj hB2 => (hB2.mono st (fun h => absurd (hl _ h) (by simp))), fun _ _ _ _ st h0 hl hj hR3 => (RdS.mono (e := 5) hR3 st h0), fun _ _ _ _ st h0 hl hj hR4 => (RdS.mono (e := 5) hR4 st h0), fun _ _ _ _ st h0 hl hj e0 => e0, fun _ _ _ _ st h0 hl hj e1 => e1, fun _ _ _ _ st h0 hl hj e2 => e2, fun _ _ _ _ st h0 hl hj e3 => e3, fun _ _ _ _ st h0 hl hj e4 => e4, fun _ _ _ _ st h0 hl hj e5 => e5, fun _ _ _ _ st h0 hl hj e6 => e6, fun _ _ _ _ st h0 hl hj e7 => e7, fun _ _ _ _ st h0 hl hj e8 => e8, fun _ _ _ _ st h0 hl hj e9 => e9, fun _ _ _ _ st h0 hl hj e10 => e10, fun _ _ _ _ st h0 hl hj e11 => e11, fun _ _ _ _ st h0 hl hj e12 => e12, fun _ _ _ _ st h0 hl hj e13 => e13, fun _ _ _ _ st h0 hl hj e14 => e14, fun _ _ _ _ st h0 hl hj e15 => e15, fun _ _ _ _ st h0 hl hj e16 => e16, fun _ _ _ _ st h0 hl hj e17 => e17, fun _ _ _ _ st h0 hl hj e18 => e18, fun _ _ _ _ st h0 hl hj e19 => e19, fun _ _ _ _ st h0 hl hj e20 => e20, fun _ _ _ _ st h0 hl hj e21 => e21, fun _ _ _ _ st h0 hl hj e22 => e22, fun _ _ _ _ st h0 hl hj e23 => e23, fun _ _ _ _ st h0 hl hj e24 => e24, fun _ _ _ _ st h0 hl hj e25 => e25, tv⟩ ⟨hB1, hR1, hR2, hB2, hR3, hR4, tv, tv, tv, tv, tv, tv, tv, tv, tv, tv, tv, tv, tv, tv, tv, tv, tv, tv, tv, tv, tv, tv, tv, tv, tv, tv, tv⟩ (by kernel_rfl) (fun vs => by kernel_rfl) ?_ ?_ ?_
        ·intro j hj
         have hq : j = 0 ∨ j = 1 ∨ j = 2 ∨ j = 3 ∨ j = 4 ∨ j = 5 ∨ j = 6 ∨ j = 7 ∨ j = 8 ∨ j = 9 ∨ j = 10 ∨ j = 11 ∨ j = 12 ∨ j = 13 ∨ j = 14 ∨ j = 15 ∨ j = 16 ∨ j = 17 ∨ j = 18 ∨ j = 19 := by have h : j < 20 := hj; omega
         rcases hq with rfl | rfl | rfl | rfl | rfl | rfl | rfl | rfl | rfl | rfl | rfl | rfl | rfl | rfl | rfl | rfl | rfl | rfl | rfl | rfl
         ·intro vs gq stq hl hf
          replace hl : vs.length = 26 := hl
          obtain ⟨v0, vs0, rfl, hl0⟩ := len_succ hl
          obtain ⟨v1, vs1, rfl, hl1⟩ := len_succ hl0
          obtain ⟨v2, vs2, rfl, hl2⟩ := len_succ hl1
          obtain ⟨v3, vs3, rfl, hl3⟩ := len_succ hl2
          obtain ⟨v4, vs4, rfl, hl4⟩ := len_succ hl3
          obtain ⟨v5, vs5, rfl, hl5⟩ := len_succ hl4
          obtain ⟨v6, vs6, rfl, hl6⟩ := len_succ hl5
          obtain ⟨v7, vs7, rfl, hl7⟩ := len_succ hl6
          obtain ⟨v8, vs8, rfl, hl8⟩ := len_succ hl7
          obtain ⟨v9, vs9, rfl, hl9⟩ := len_succ hl8
          obtain ⟨v10, vs10, rfl, hl10⟩ := len_succ hl9
          obtain ⟨v11, vs11, rfl, hl11⟩ := len_succ hl10
          obtain ⟨v12, vs12, rfl, hl12⟩ := len_succ hl11
          obtain ⟨v13, vs13, rfl, hl13⟩ := len_succ hl12
          obtain ⟨v14, vs14, rfl, hl14⟩ := len_succ hl13
          obtain ⟨v15, vs15, rfl, hl15⟩ := len_succ hl14
          obtain ⟨v16, vs16, rfl, hl16⟩ := len_succ hl15
          obtain ⟨v17, vs17, rfl, hl17⟩ := len_succ hl16
          obtain ⟨v18, vs18, rfl, hl18⟩ := len_succ hl17
          obtain ⟨v19, vs19, rfl, hl19⟩ := len_succ hl18
          obtain ⟨v20, vs20, rfl, hl20⟩ := len_succ hl19
          obtain ⟨v21, vs21, rfl, hl21⟩ := len_succ hl20
          obtain ⟨v22, vs22, rfl, hl22⟩ := len_succ hl21
          obtain ⟨v23, vs23, rfl, hl23⟩ := len_succ hl22
          obtain ⟨v24, vs24, rfl, hl24⟩ := len_succ hl23
          obtain ⟨v25, vs25, rfl, hl25⟩ := len_succ hl24
          obtain rfl := len_zero hl25
          have e0 := (show v0 = .int .i64 x1 from hf _ (memI 6 rfl) (by kernel_rfl))
          subst e0
          have e1 := (show v1 = .int .i64 x3 from hf _ (memI 7 rfl) (by kernel_rfl))
          subst e1
          show Option.isSome _ = true
          kernel_rfl
         ·intro vs gq stq hl hf
          replace hl : vs.length = 26 := hl
          obtain ⟨v0, vs0, rfl, hl0⟩ := len_succ hl
          obtain ⟨v1, vs1, rfl, hl1⟩ := len_succ hl0
          obtain ⟨v2, vs2, rfl, hl2⟩ := len_succ hl1
          obtain ⟨v3, vs3, rfl, hl3⟩ := len_succ hl2
          obtain ⟨v4, vs4, rfl, hl4⟩ := len_succ hl3
          obtain ⟨v5, vs5, rfl, hl5⟩ := len_succ hl4
          obtain ⟨v6, vs6, rfl, hl6⟩ := len_succ hl5
          obtain ⟨v7, vs7, rfl, hl7⟩ := len_succ hl6
          obtain ⟨v8, vs8, rfl, hl8⟩ := len_succ hl7
          obtain ⟨v9, vs9, rfl, hl9⟩ := len_succ hl8
          obtain ⟨v10, vs10, rfl, hl10⟩ := len_succ hl9
          obtain ⟨v11, vs11, rfl, hl11⟩ := len_succ hl10
          obtain ⟨v12, vs12, rfl, hl12⟩ := len_succ hl11
          obtain ⟨v13, vs13, rfl, hl13⟩ := len_succ hl12
          obtain ⟨v14, vs14, rfl, hl14⟩ := len_succ hl13
          obtain ⟨v15, vs15, rfl, hl15⟩ := len_succ hl14
          obtain ⟨v16, vs16, rfl, hl16⟩ := len_succ hl15
          obtain ⟨v17, vs17, rfl, hl17⟩ := len_succ hl16
          obtain ⟨v18, vs18, rfl, hl18⟩ := len_succ hl17
          obtain ⟨v19, vs19, rfl, hl19⟩ := len_succ hl18
          obtain ⟨v20, vs20, rfl, hl20⟩ := len_succ hl19
          obtain ⟨v21, vs21, rfl, hl21⟩ := len_succ hl20
          obtain ⟨v22, vs22, rfl, hl22⟩ := len_succ hl21
          obtain ⟨v23, vs23, rfl, hl23⟩ := len_succ hl22
          obtain ⟨v24, vs24, rfl, hl24⟩ := len_succ hl23
          obtain ⟨v25, vs25, rfl, hl25⟩ := len_succ hl24
          obtain rfl := len_zero hl25
          have e2 := (show v2 = .bool true from hf _ (memI 8 rfl) (by kernel_rfl))
          subst e2
          show Option.isSome _ = true
          kernel_rfl
         ·intro vs gq stq hl hf
          replace hl : vs.length = 26 := hl
          obtain ⟨v0, vs0, rfl, hl0⟩ := len_succ hl
          obtain ⟨v1, vs1, rfl, hl1⟩ := len_succ hl0
          obtain ⟨v2, vs2, rfl, hl2⟩ := len_succ hl1
          obtain ⟨v3, vs3, rfl, hl3⟩ := len_succ hl2
          obtain ⟨v4, vs4, rfl, hl4⟩ := len_succ hl3
          obtain ⟨v5, vs5, rfl, hl5⟩ := len_succ hl4
          obtain ⟨v6, vs6, rfl, hl6⟩ := len_succ hl5
          obtain ⟨v7, vs7, rfl, hl7⟩ := len_succ hl6
          obtain ⟨v8, vs8, rfl, hl8⟩ := len_succ hl7
          obtain ⟨v9, vs9, rfl, hl9⟩ := len_succ hl8
          obtain ⟨v10, vs10, rfl, hl10⟩ := len_succ hl9
          obtain ⟨v11, vs11, rfl, hl11⟩ := len_succ hl10
          obtain ⟨v12, vs12, rfl, hl12⟩ := len_succ hl11
          obtain ⟨v13, vs13, rfl, hl13⟩ := len_succ hl12
          obtain ⟨v14, vs14, rfl, hl14⟩ := len_succ hl13
          obtain ⟨v15, vs15, rfl, hl15⟩ := len_succ hl14
          obtain ⟨v16, vs16, rfl, hl16⟩ := len_succ hl15
          obtain ⟨v17, vs17, rfl, hl17⟩ := len_succ hl16
          obtain ⟨v18, vs18, rfl, hl18⟩ := len_succ hl17
          obtain ⟨v19, vs19, rfl, hl19⟩ := len_succ hl18
          obtain ⟨v20, vs20, rfl, hl20⟩ := len_succ hl19
          obtain ⟨v21, vs21, rfl, hl21⟩ := len_succ hl20
          obtain ⟨v22, vs22, rfl, hl22⟩ := len_succ hl21
          obtain ⟨v23, vs23, rfl, hl23⟩ := len_succ hl22
          obtain ⟨v24, vs24, rfl, hl24⟩ := len_succ hl23
          obtain ⟨v25, vs25, rfl, hl25⟩ := len_succ hl24
          obtain rfl := len_zero hl25
          have e2 := (show v2 = .bool true from hf _ (memI 8 rfl) (by kernel_rfl))
          subst e2
          show Option.isSome _ = true
          kernel_rfl
         ·intro vs gq stq hl hf
          replace hl : vs.length = 26 := hl
          obtain ⟨v0, vs0, rfl, hl0⟩ := len_succ hl
          obtain ⟨v1, vs1, rfl, hl1⟩ := len_succ hl0
          obtain ⟨v2, vs2, rfl, hl2⟩ := len_succ hl1
          obtain ⟨v3, vs3, rfl, hl3⟩ := len_succ hl2
          obtain ⟨v4, vs4, rfl, hl4⟩ := len_succ hl3
          obtain ⟨v5, vs5, rfl, hl5⟩ := len_succ hl4
          obtain ⟨v6, vs6, rfl, hl6⟩ := len_succ hl5
          obtain ⟨v7, vs7, rfl, hl7⟩ := len_succ hl6
          obtain ⟨v8, vs8, rfl, hl8⟩ := len_succ hl7
          obtain ⟨v9, vs9, rfl, hl9⟩ := len_succ hl8
          obtain ⟨v10, vs10, rfl, hl10⟩ := len_succ hl9
          obtain ⟨v11, vs11, rfl, hl11⟩ := len_succ hl10
          obtain ⟨v12, vs12, rfl, hl12⟩ := len_succ hl11
          obtain ⟨v13, vs13, rfl, hl13⟩ := len_succ hl12
          obtain ⟨v14, vs14, rfl, hl14⟩ := len_succ hl13
          obtain ⟨v15, vs15, rfl, hl15⟩ := len_succ hl14
          obtain ⟨v16, vs16, rfl, hl16⟩ := len_succ hl15
          obtain ⟨v17, vs17, rfl, hl17⟩ := len_succ hl16
          obtain ⟨v18, vs18, rfl, hl18⟩ := len_succ hl17
          obtain ⟨v19, vs19, rfl, hl19⟩ := len_succ hl18
          obtain ⟨v20, vs20, rfl, hl20⟩ := len_succ hl19
          obtain ⟨v21, vs21, rfl, hl21⟩ := len_succ hl20
          obtain ⟨v22, vs22, rfl, hl22⟩ := len_succ hl21
          obtain ⟨v23, vs23, rfl, hl23⟩ := len_succ hl22
          obtain ⟨v24, vs24, rfl, hl24⟩ := len_succ hl23
          obtain ⟨v25, vs25, rfl, hl25⟩ := len_succ hl24
          obtain rfl := len_zero hl25
          have e2 := (show v2 = .bool true from hf _ (memI 8 rfl) (by kernel_rfl))
          subst e2
          have e5 := (show v5 = .bool (d1.1 == d3.1) from hf _ (memI 11 rfl) (by kernel_rfl))
          subst e5
          show Option.isSome _ = true
          kernel_rfl
         ·intro vs gq stq hl hf
          replace hl : vs.length = 26 := hl
          obtain ⟨v0, vs0, rfl, hl0⟩ := len_succ hl
          obtain ⟨v1, vs1, rfl, hl1⟩ := len_succ hl0
          obtain ⟨v2, vs2, rfl, hl2⟩ := len_succ hl1
          obtain ⟨v3, vs3, rfl, hl3⟩ := len_succ hl2
          obtain ⟨v4, vs4, rfl, hl4⟩ := len_succ hl3
          obtain ⟨v5, vs5, rfl, hl5⟩ := len_succ hl4
          obtain ⟨v6, vs6, rfl, hl6⟩ := len_succ hl5
          obtain ⟨v7, vs7, rfl, hl7⟩ := len_succ hl6
          obtain ⟨v8, vs8, rfl, hl8⟩ := len_succ hl7
          obtain ⟨v9, vs9, rfl, hl9⟩ := len_succ hl8
          obtain ⟨v10, vs10, rfl, hl10⟩ := len_succ hl9
          obtain ⟨v11, vs11, rfl, hl11⟩ := len_succ hl10
          obtain ⟨v12, vs12, rfl, hl12⟩ := len_succ hl11
          obtain ⟨v13, vs13, rfl, hl13⟩ := len_succ hl12
          obtain ⟨v14, vs14, rfl, hl14⟩ := len_succ hl13
          obtain ⟨v15, vs15, rfl, hl15⟩ := len_succ hl14
          obtain ⟨v16, vs16, rfl, hl16⟩ := len_succ hl15
          obtain ⟨v17, vs17, rfl, hl17⟩ := len_succ hl16
          obtain ⟨v18, vs18, rfl, hl18⟩ := len_succ hl17
          obtain ⟨v19, vs19, rfl, hl19⟩ := len_succ hl18
          obtain ⟨v20, vs20, rfl, hl20⟩ := len_succ hl19
          obtain ⟨v21, vs21, rfl, hl21⟩ := len_succ hl20
          obtain ⟨v22, vs22, rfl, hl22⟩ := len_succ hl21
          obtain ⟨v23, vs23, rfl, hl23⟩ := len_succ hl22
          obtain ⟨v24, vs24, rfl, hl24⟩ := len_succ hl23
          obtain ⟨v25, vs25, rfl, hl25⟩ := len_succ hl24
          obtain rfl := len_zero hl25
          have e6 := (show v6 = .bool true from hf _ (memI 12 rfl) (by kernel_rfl))
          subst e6
          show Option.isSome _ = true
          kernel_rfl
         ·intro vs gq stq hl hf
          replace hl : vs.length = 26 := hl
          obtain ⟨v0, vs0, rfl, hl0⟩ := len_succ hl
          obtain ⟨v1, vs1, rfl, hl1⟩ := len_succ hl0
          obtain ⟨v2, vs2, rfl, hl2⟩ := len_succ hl1
          obtain ⟨v3, vs3, rfl, hl3⟩ := len_succ hl2
          obtain ⟨v4, vs4, rfl, hl4⟩ := len_succ hl3
          obtain ⟨v5, vs5, rfl, hl5⟩ := len_succ hl4
          obtain ⟨v6, vs6, rfl, hl6⟩ := len_succ hl5
          obtain ⟨v7, vs7, rfl, hl7⟩ := len_succ hl6
          obtain ⟨v8, vs8, rfl, hl8⟩ := len_succ hl7
          obtain ⟨v9, vs9, rfl, hl9⟩ := len_succ hl8
          obtain ⟨v10, vs10, rfl, hl10⟩ := len_succ hl9
          obtain ⟨v11, vs11, rfl, hl11⟩ := len_succ hl10
          obtain ⟨v12, vs12, rfl, hl12⟩ := len_succ hl11
          obtain ⟨v13, vs13, rfl, hl13⟩ := len_succ hl12
          obtain ⟨v14, vs14, rfl, hl14⟩ := len_succ hl13
          obtain ⟨v15, vs15, rfl, hl15⟩ := len_succ hl14
          obtain ⟨v16, vs16, rfl, hl16⟩ := len_succ hl15
          obtain ⟨v17, vs17, rfl, hl17⟩ := len_succ hl16
          obtain ⟨v18, vs18, rfl, hl18⟩ := len_succ hl17
          obtain ⟨v19, vs19, rfl, hl19⟩ := len_succ hl18
          obtain ⟨v20, vs20, rfl, hl20⟩ := len_succ hl19
          obtain ⟨v21, vs21, rfl, hl21⟩ := len_succ hl20
          obtain ⟨v22, vs22, rfl, hl22⟩ := len_succ hl21
          obtain ⟨v23, vs23, rfl, hl23⟩ := len_succ hl22
          obtain ⟨v24, vs24, rfl, hl24⟩ := len_succ hl23
          obtain ⟨v25, vs25, rfl, hl25⟩ := len_succ hl24
          obtain rfl := len_zero hl25
          have e6 := (show v6 = .bool true from hf _ (memI 12 rfl) (by kernel_rfl))
          subst e6
          show Option.isSome _ = true
          kernel_rfl
         ·intro vs gq stq hl hf
          replace hl : vs.length = 26 := hl
          obtain ⟨v0, vs0, rfl, hl0⟩ := len_succ hl
          obtain ⟨v1, vs1, rfl, hl1⟩ := len_succ hl0
          obtain ⟨v2, vs2, rfl, hl2⟩ := len_succ hl1
          obtain ⟨v3, vs3, rfl, hl3⟩ := len_succ hl2
          obtain ⟨v4, vs4, rfl, hl4⟩ := len_succ hl3
          obtain ⟨v5, vs5, rfl, hl5⟩ := len_succ hl4
          obtain ⟨v6, vs6, rfl, hl6⟩ := len_succ hl5
          obtain ⟨v7, vs7, rfl, hl7⟩ := len_succ hl6
          obtain ⟨v8, vs8, rfl, hl8⟩ := len_succ hl7
          obtain ⟨v9, vs9, rfl, hl9⟩ := len_succ hl8
          obtain ⟨v10, vs10, rfl, hl10⟩ := len_succ hl9
          obtain ⟨v11, vs11, rfl, hl11⟩ := len_succ hl10
          obtain ⟨v12, vs12, rfl, hl12⟩ := len_succ hl11
          obtain ⟨v13, vs13, rfl, hl13⟩ := len_succ hl12
          obtain ⟨v14, vs14, rfl, hl14⟩ := len_succ hl13
          obtain ⟨v15, vs15, rfl, hl15⟩ := len_succ hl14
          obtain ⟨v16, vs16, rfl, hl16⟩ := len_succ hl15
          obtain ⟨v17, vs17, rfl, hl17⟩ := len_succ hl16
          obtain ⟨v18, vs18, rfl, hl18⟩ := len_succ hl17
          obtain ⟨v19, vs19, rfl, hl19⟩ := len_succ hl18
          obtain ⟨v20, vs20, rfl, hl20⟩ := len_succ hl19
          obtain ⟨v21, vs21, rfl, hl21⟩ := len_succ hl20
          obtain ⟨v22, vs22, rfl, hl22⟩ := len_succ hl21
          obtain ⟨v23, vs23, rfl, hl23⟩ := len_succ hl22
          obtain ⟨v24, vs24, rfl, hl24⟩ := len_succ hl23
          obtain ⟨v25, vs25, rfl, hl25⟩ := len_succ hl24
          obtain rfl := len_zero hl25
          have e6 := (show v6 = .bool true from hf _ (memI 12 rfl) (by kernel_rfl))
          subst e6
          have e7 := (show v7 = .int .i64 x2 from hf _ (memI 13 rfl) (by kernel_rfl))
          subst e7
          have e8 := (show v8 = .int .i64 x4 from hf _ (memI 14 rfl) (by kernel_rfl))
          subst e8
          show Option.isSome _ = true
          kernel_rfl
         ·intro vs gq stq hl hf
          replace hl : vs.length = 26 := hl
          obtain ⟨v0, vs0, rfl, hl0⟩ := len_succ hl
          obtain ⟨v1, vs1, rfl, hl1⟩ := len_succ hl0
          obtain ⟨v2, vs2, rfl, hl2⟩ := len_succ hl1
          obtain ⟨v3, vs3, rfl, hl3⟩ := len_succ hl2
          obtain ⟨v4, vs4, rfl, hl4⟩ := len_succ hl3
          obtain ⟨v5, vs5, rfl, hl5⟩ := len_succ hl4
          obtain ⟨v6, vs6, rfl, hl6⟩ := len_succ hl5
          obtain ⟨v7, vs7, rfl, hl7⟩ := len_succ hl6
          obtain ⟨v8, vs8, rfl, hl8⟩ := len_succ hl7
          obtain ⟨v9, vs9, rfl, hl9⟩ := len_succ hl8
          obtain ⟨v10, vs10, rfl, hl10⟩ := len_succ hl9
          obtain ⟨v11, vs11, rfl, hl11⟩ := len_succ hl10
          obtain ⟨v12, vs12, rfl, hl12⟩ := len_succ hl11
          obtain ⟨v13, vs13, rfl, hl13⟩ := len_succ hl12
          obtain ⟨v14, vs14, rfl, hl14⟩ := len_succ hl13
          obtain ⟨v15, vs15, rfl, hl15⟩ := len_succ hl14
          obtain ⟨v16, vs16, rfl, hl16⟩ := len_succ hl15
          obtain ⟨v17, vs17, rfl, hl17⟩ := len_succ hl16
          obtain ⟨v18, vs18, rfl, hl18⟩ := len_succ hl17
          obtain ⟨v19, vs19, rfl, hl19⟩ := len_succ hl18
          obtain ⟨v20, vs20, rfl, hl20⟩ := len_succ hl19
          obtain ⟨v21, vs21, rfl, hl21⟩ := len_succ hl20
          obtain ⟨v22, vs22, rfl, hl22⟩ := len_succ hl21
          obtain ⟨v23, vs23, rfl, hl23⟩ := len_succ hl22
          obtain ⟨v24, vs24, rfl, hl24⟩ := len_succ hl23
          obtain ⟨v25, vs25, rfl, hl25⟩ := len_succ hl24
          obtain rfl := len_zero hl25
          have e6 := (show v6 = .bool true from hf _ (memI 12 rfl) (by kernel_rfl))
          subst e6
          have e7 := (show v7 = .int .i64 x2 from hf _ (memI 13 rfl) (by kernel_rfl))
          subst e7
          have e8 := (show v8 = .int .i64 x4 from hf _ (memI 14 rfl) (by kernel_rfl))
          subst e8
          show Option.isSome _ = true
          kernel_rfl
         ·intro vs gq stq hl hf
          replace hl : vs.length = 26 := hl
          obtain ⟨v0, vs0, rfl, hl0⟩ := len_succ hl
          obtain ⟨v1, vs1, rfl, hl1⟩ := len_succ hl0
          obtain ⟨v2, vs2, rfl, hl2⟩ := len_succ hl1
          obtain ⟨v3, vs3, rfl, hl3⟩ := len_succ hl2
          obtain ⟨v4, vs4, rfl, hl4⟩ := len_succ hl3
          obtain ⟨v5, vs5, rfl, hl5⟩ := len_succ hl4
          obtain ⟨v6, vs6, rfl, hl6⟩ := len_succ hl5
          obtain ⟨v7, vs7, rfl, hl7⟩ := len_succ hl6
          obtain ⟨v8, vs8, rfl, hl8⟩ := len_succ hl7
          obtain ⟨v9, vs9, rfl, hl9⟩ := len_succ hl8
          obtain ⟨v10, vs10, rfl, hl10⟩ := len_succ hl9
          obtain ⟨v11, vs11, rfl, hl11⟩ := len_succ hl10
          obtain ⟨v12, vs12, rfl, hl12⟩ := len_succ hl11
          obtain ⟨v13, vs13, rfl, hl13⟩ := len_succ hl12
          obtain ⟨v14, vs14, rfl, hl14⟩ := len_succ hl13
          obtain ⟨v15, vs15, rfl, hl15⟩ := len_succ hl14
          obtain ⟨v16, vs16, rfl, hl16⟩ := len_succ hl15
          obtain ⟨v17, vs17, rfl, hl17⟩ := len_succ hl16
          obtain ⟨v18, vs18, rfl, hl18⟩ := len_succ hl17
          obtain ⟨v19, vs19, rfl, hl19⟩ := len_succ hl18
          obtain ⟨v20, vs20, rfl, hl20⟩ := len_succ hl19
          obtain ⟨v21, vs21, rfl, hl21⟩ := len_succ hl20
          obtain ⟨v22, vs22, rfl, hl22⟩ := len_succ hl21
          obtain ⟨v23, vs23, rfl, hl23⟩ := len_succ hl22
          obtain ⟨v24, vs24, rfl, hl24⟩ := len_succ hl23
          obtain ⟨v25, vs25, rfl, hl25⟩ := len_succ hl24
          obtain rfl := len_zero hl25
          have e9 := (show v9 = .bool true from hf _ (memI 15 rfl) (by kernel_rfl))
          subst e9
          have e14 := (show v14 = .bool (d7.1 == d8.1) from hf _ (memI 20 rfl) (by kernel_rfl))
          subst e14
          show Option.isSome _ = true
          kernel_rfl
         ·intro vs gq stq hl hf
          replace hl : vs.length = 26 := hl
          obtain ⟨v0, vs0, rfl, hl0⟩ := len_succ hl
          obtain ⟨v1, vs1, rfl, hl1⟩ := len_succ hl0
          obtain ⟨v2, vs2, rfl, hl2⟩ := len_succ hl1
          obtain ⟨v3, vs3, rfl, hl3⟩ := len_succ hl2
          obtain ⟨v4, vs4, rfl, hl4⟩ := len_succ hl3
          obtain ⟨v5, vs5, rfl, hl5⟩ := len_succ hl4
          obtain ⟨v6, vs6, rfl, hl6⟩ := len_succ hl5
          obtain ⟨v7, vs7, rfl, hl7⟩ := len_succ hl6
          obtain ⟨v8, vs8, rfl, hl8⟩ := len_succ hl7
          obtain ⟨v9, vs9, rfl, hl9⟩ := len_succ hl8
          obtain ⟨v10, vs10, rfl, hl10⟩ := len_succ hl9
          obtain ⟨v11, vs11, rfl, hl11⟩ := len_succ hl10
          obtain ⟨v12, vs12, rfl, hl12⟩ := len_succ hl11
          obtain ⟨v13, vs13, rfl, hl13⟩ := len_succ hl12
          obtain ⟨v14, vs14, rfl, hl14⟩ := len_succ hl13
          obtain ⟨v15, vs15, rfl, hl15⟩ := len_succ hl14
          obtain ⟨v16, vs16, rfl, hl16⟩ := len_succ hl15
          obtain ⟨v17, vs17, rfl, hl17⟩ := len_succ hl16
          obtain ⟨v18, vs18, rfl, hl18⟩ := len_succ hl17
          obtain ⟨v19, vs19, rfl, hl19⟩ := len_succ hl18
          obtain ⟨v20, vs20, rfl, hl20⟩ := len_succ hl19
          obtain ⟨v21, vs21, rfl, hl21⟩ := len_succ hl20
          obtain ⟨v22, vs22, rfl, hl22⟩ := len_succ hl21
          obtain ⟨v23, vs23, rfl, hl23⟩ := len_succ hl22
          obtain ⟨v24, vs24, rfl, hl24⟩ := len_succ hl23
          obtain ⟨v25, vs25, rfl, hl25⟩ := len_succ hl24
          obtain rfl := len_zero hl25
          have e15 := (show v15 = .bool true from hf _ (memI 21 rfl) (by kernel_rfl))
          subst e15
          show Option.isSome _ = true
          kernel_rfl
         ·intro vs gq stq hl hf
          replace hl : vs.length = 26 := hl
          obtain ⟨v0, vs0, rfl, hl0⟩ := len_succ hl
          obtain ⟨v1, vs1, rfl, hl1⟩ := len_succ hl0
          obtain ⟨v2, vs2, rfl, hl2⟩ := len_succ hl1
          obtain ⟨v3, vs3, rfl, hl3⟩ := len_succ hl2
          obtain ⟨v4, vs4, rfl, hl4⟩ := len_succ hl3
          obtain ⟨v5, vs5, rfl, hl5⟩ := len_succ hl4
          obtain ⟨v6, vs6, rfl, hl6⟩ := len_succ hl5
          obtain ⟨v7, vs7, rfl, hl7⟩ := len_succ hl6
          obtain ⟨v8, vs8, rfl, hl8⟩ := len_succ hl7
          obtain ⟨v9, vs9, rfl, hl9⟩ := len_succ hl8
          obtain ⟨v10, vs10, rfl, hl10⟩ := len_succ hl9
          obtain ⟨v11, vs11, rfl, hl11⟩ := len_succ hl10
          obtain ⟨v12, vs12, rfl, hl12⟩ := len_succ hl11
          obtain ⟨v13, vs13, rfl, hl13⟩ := len_succ hl12
          obtain ⟨v14, vs14, rfl, hl14⟩ := len_succ hl13
          obtain ⟨v15, vs15, rfl, hl15⟩ := len_succ hl14
          obtain ⟨v16, vs16, rfl, hl16⟩ := len_succ hl15
          obtain ⟨v17, vs17, rfl, hl17⟩ := len_succ hl16
          obtain ⟨v18, vs18, rfl, hl18⟩ := len_succ hl17
          obtain ⟨v19, vs19, rfl, hl19⟩ := len_succ hl18
          obtain ⟨v20, vs20, rfl, hl20⟩ := len_succ hl19
          obtain ⟨v21, vs21, rfl, hl21⟩ := len_succ hl20
          obtain ⟨v22, vs22, rfl, hl22⟩ := len_succ hl21
          obtain ⟨v23, vs23, rfl, hl23⟩ := len_succ hl22
          obtain ⟨v24, vs24, rfl, hl24⟩ := len_succ hl23
          obtain ⟨v25, vs25, rfl, hl25⟩ := len_succ hl24
          obtain rfl := len_zero hl25
          have e15 := (show v15 = .bool true from hf _ (memI 21 rfl) (by kernel_rfl))
          subst e15
          show Option.isSome _ = true
          kernel_rfl
         ·intro vs gq stq hl hf
          replace hl : vs.length = 26 := hl
          obtain ⟨v0, vs0, rfl, hl0⟩ := len_succ hl
          obtain ⟨v1, vs1, rfl, hl1⟩ := len_succ hl0
          obtain ⟨v2, vs2, rfl, hl2⟩ := len_succ hl1
          obtain ⟨v3, vs3, rfl, hl3⟩ := len_succ hl2
          obtain ⟨v4, vs4, rfl, hl4⟩ := len_succ hl3
          obtain ⟨v5, vs5, rfl, hl5⟩ := len_succ hl4
          obtain ⟨v6, vs6, rfl, hl6⟩ := len_succ hl5
          obtain ⟨v7, vs7, rfl, hl7⟩ := len_succ hl6
          obtain ⟨v8, vs8, rfl, hl8⟩ := len_succ hl7
          obtain ⟨v9, vs9, rfl, hl9⟩ := len_succ hl8
          obtain ⟨v10, vs10, rfl, hl10⟩ := len_succ hl9
          obtain ⟨v11, vs11, rfl, hl11⟩ := len_succ hl10
          obtain ⟨v12, vs12, rfl, hl12⟩ := len_succ hl11
          obtain ⟨v13, vs13, rfl, hl13⟩ := len_succ hl12
          obtain ⟨v14, vs14, rfl, hl14⟩ := len_succ hl13
          obtain ⟨v15, vs15, rfl, hl15⟩ := len_succ hl14
          obtain ⟨v16, vs16, rfl, hl16⟩ := len_succ hl15
          obtain ⟨v17, vs17, rfl, hl17⟩ := len_succ hl16
          obtain ⟨v18, vs18, rfl, hl18⟩ := len_succ hl17
          obtain ⟨v19, vs19, rfl, hl19⟩ := len_succ hl18
          obtain ⟨v20, vs20, rfl, hl20⟩ := len_succ hl19
          obtain ⟨v21, vs21, rfl, hl21⟩ := len_succ hl20
          obtain ⟨v22, vs22, rfl, hl22⟩ := len_succ hl21
          obtain ⟨v23, vs23, rfl, hl23⟩ := len_succ hl22
          obtain ⟨v24, vs24, rfl, hl24⟩ := len_succ hl23
          obtain ⟨v25, vs25, rfl, hl25⟩ := len_succ hl24
          obtain rfl := len_zero hl25
          have e15 := (show v15 = .bool true from hf _ (memI 21 rfl) (by kernel_rfl))
          subst e15
          have e18 := (show v18 = .bool q6 from hf _ (memI 24 rfl) (by kernel_rfl))
          subst e18
          show Option.isSome _ = true
          kernel_rfl
         ·intro vs gq stq hl hf
          replace hl : vs.length = 26 := hl
          obtain ⟨v0, vs0, rfl, hl0⟩ := len_succ hl
          obtain ⟨v1, vs1, rfl, hl1⟩ := len_succ hl0
          obtain ⟨v2, vs2, rfl, hl2⟩ := len_succ hl1
          obtain ⟨v3, vs3, rfl, hl3⟩ := len_succ hl2
          obtain ⟨v4, vs4, rfl, hl4⟩ := len_succ hl3
          obtain ⟨v5, vs5, rfl, hl5⟩ := len_succ hl4
          obtain ⟨v6, vs6, rfl, hl6⟩ := len_succ hl5
          obtain ⟨v7, vs7, rfl, hl7⟩ := len_succ hl6
          obtain ⟨v8, vs8, rfl, hl8⟩ := len_succ hl7
          obtain ⟨v9, vs9, rfl, hl9⟩ := len_succ hl8
          obtain ⟨v10, vs10, rfl, hl10⟩ := len_succ hl9
          obtain ⟨v11, vs11, rfl, hl11⟩ := len_succ hl10
          obtain ⟨v12, vs12, rfl, hl12⟩ := len_succ hl11
          obtain ⟨v13, vs13, rfl, hl13⟩ := len_succ hl12
          obtain ⟨v14, vs14, rfl, hl14⟩ := len_succ hl13
          obtain ⟨v15, vs15, rfl, hl15⟩ := len_succ hl14
          obtain ⟨v16, vs16, rfl, hl16⟩ := len_succ hl15
          obtain ⟨v17, vs17, rfl, hl17⟩ := len_succ hl16
          obtain ⟨v18, vs18, rfl, hl18⟩ := len_succ hl17
          obtain ⟨v19, vs19, rfl, hl19⟩ := len_succ hl18
          obtain ⟨v20, vs20, rfl, hl20⟩ := len_succ hl19
          obtain ⟨v21, vs21, rfl, hl21⟩ := len_succ hl20
          obtain ⟨v22, vs22, rfl, hl22⟩ := len_succ hl21
          obtain ⟨v23, vs23, rfl, hl23⟩ := len_succ hl22
          obtain ⟨v24, vs24, rfl, hl24⟩ := len_succ hl23
          obtain ⟨v25, vs25, rfl, hl25⟩ := len_succ hl24
          obtain rfl := len_zero hl25
          have e19 := (show v19 = .bool true from hf _ (memI 25 rfl) (by kernel_rfl))
          subst e19
          show Option.isSome _ = true
          kernel_rfl
         ·intro vs gq stq hl hf
          replace hl : vs.length = 26 := hl
          obtain ⟨v0, vs0, rfl, hl0⟩ := len_succ hl
          obtain ⟨v1, vs1, rfl, hl1⟩ := len_succ hl0
          obtain ⟨v2, vs2, rfl, hl2⟩ := len_succ hl1
          obtain ⟨v3, vs3, rfl, hl3⟩ := len_succ hl2
          obtain ⟨v4, vs4, rfl, hl4⟩ := len_succ hl3
          obtain ⟨v5, vs5, rfl, hl5⟩ := len_succ hl4
          obtain ⟨v6, vs6, rfl, hl6⟩ := len_succ hl5
          obtain ⟨v7, vs7, rfl, hl7⟩ := len_succ hl6
          obtain ⟨v8, vs8, rfl, hl8⟩ := len_succ hl7
          obtain ⟨v9, vs9, rfl, hl9⟩ := len_succ hl8
          obtain ⟨v10, vs10, rfl, hl10⟩ := len_succ hl9
          obtain ⟨v11, vs11, rfl, hl11⟩ := len_succ hl10
          obtain ⟨v12, vs12, rfl, hl12⟩ := len_succ hl11
          obtain ⟨v13, vs13, rfl, hl13⟩ := len_succ hl12
          obtain ⟨v14, vs14, rfl, hl14⟩ := len_succ hl13
          obtain ⟨v15, vs15, rfl, hl15⟩ := len_succ hl14
          obtain ⟨v16, vs16, rfl, hl16⟩ := len_succ hl15
          obtain ⟨v17, vs17, rfl, hl17⟩ := len_succ hl16
          obtain ⟨v18, vs18, rfl, hl18⟩ := len_succ hl17
          obtain ⟨v19, vs19, rfl, hl19⟩ := len_succ hl18
          obtain ⟨v20, vs20, rfl, hl20⟩ := len_succ hl19
          obtain ⟨v21, vs21, rfl, hl21⟩ := len_succ hl20
          obtain ⟨v22, vs22, rfl, hl22⟩ := len_succ hl21
          obtain ⟨v23, vs23, rfl, hl23⟩ := len_succ hl22
          obtain ⟨v24, vs24, rfl, hl24⟩ := len_succ hl23
          obtain ⟨v25, vs25, rfl, hl25⟩ := len_succ hl24
          obtain rfl := len_zero hl25
          have e19 := (show v19 = .bool true from hf _ (memI 25 rfl) (by kernel_rfl))
          subst e19
          show Option.isSome _ = true
          kernel_rfl
         ·intro vs gq stq hl hf
          replace hl : vs.length = 26 := hl
          obtain ⟨v0, vs0, rfl, hl0⟩ := len_succ hl
          obtain ⟨v1, vs1, rfl, hl1⟩ := len_succ hl0
          obtain ⟨v2, vs2, rfl, hl2⟩ := len_succ hl1
          obtain ⟨v3, vs3, rfl, hl3⟩ := len_succ hl2
          obtain ⟨v4, vs4, rfl, hl4⟩ := len_succ hl3
          obtain ⟨v5, vs5, rfl, hl5⟩ := len_succ hl4
          obtain ⟨v6, vs6, rfl, hl6⟩ := len_succ hl5
          obtain ⟨v7, vs7, rfl, hl7⟩ := len_succ hl6
          obtain ⟨v8, vs8, rfl, hl8⟩ := len_succ hl7
          obtain ⟨v9, vs9, rfl, hl9⟩ := len_succ hl8
          obtain ⟨v10, vs10, rfl, hl10⟩ := len_succ hl9
          obtain ⟨v11, vs11, rfl, hl11⟩ := len_succ hl10
          obtain ⟨v12, vs12, rfl, hl12⟩ := len_succ hl11
          obtain ⟨v13, vs13, rfl, hl13⟩ := len_succ hl12
          obtain ⟨v14, vs14, rfl, hl14⟩ := len_succ hl13
          obtain ⟨v15, vs15, rfl, hl15⟩ := len_succ hl14
          obtain ⟨v16, vs16, rfl, hl16⟩ := len_succ hl15
          obtain ⟨v17, vs17, rfl, hl17⟩ := len_succ hl16
          obtain ⟨v18, vs18, rfl, hl18⟩ := len_succ hl17
          obtain ⟨v19, vs19, rfl, hl19⟩ := len_succ hl18
          obtain ⟨v20, vs20, rfl, hl20⟩ := len_succ hl19
          obtain ⟨v21, vs21, rfl, hl21⟩ := len_succ hl20
          obtain ⟨v22, vs22, rfl, hl22⟩ := len_succ hl21
          obtain ⟨v23, vs23, rfl, hl23⟩ := len_succ hl22
          obtain ⟨v24, vs24, rfl, hl24⟩ := len_succ hl23
          obtain ⟨v25, vs25, rfl, hl25⟩ := len_succ hl24
          obtain rfl := len_zero hl25
          have e19 := (show v19 = .bool true from hf _ (memI 25 rfl) (by kernel_rfl))
          subst e19
          have e22 := (show v22 = .bool q7 from hf _ (memI 28 rfl) (by kernel_rfl))
          subst e22
          show Option.isSome _ = true
          kernel_rfl
         ·intro vs gq stq hl hf
          replace hl : vs.length = 26 := hl
          obtain ⟨v0, vs0, rfl, hl0⟩ := len_succ hl
          obtain ⟨v1, vs1, rfl, hl1⟩ := len_succ hl0
          obtain ⟨v2, vs2, rfl, hl2⟩ := len_succ hl1
          obtain ⟨v3, vs3, rfl, hl3⟩ := len_succ hl2
          obtain ⟨v4, vs4, rfl, hl4⟩ := len_succ hl3
          obtain ⟨v5, vs5, rfl, hl5⟩ := len_succ hl4
          obtain ⟨v6, vs6, rfl, hl6⟩ := len_succ hl5
          obtain ⟨v7, vs7, rfl, hl7⟩ := len_succ hl6
          obtain ⟨v8, vs8, rfl, hl8⟩ := len_succ hl7
          obtain ⟨v9, vs9, rfl, hl9⟩ := len_succ hl8
          obtain ⟨v10, vs10, rfl, hl10⟩ := len_succ hl9
          obtain ⟨v11, vs11, rfl, hl11⟩ := len_succ hl10
          obtain ⟨v12, vs12, rfl, hl12⟩ := len_succ hl11
          obtain ⟨v13, vs13, rfl, hl13⟩ := len_succ hl12
          obtain ⟨v14, vs14, rfl, hl14⟩ := len_succ hl13
          obtain ⟨v15, vs15, rfl, hl15⟩ := len_succ hl14
          obtain ⟨v16, vs16, rfl, hl16⟩ := len_succ hl15
          obtain ⟨v17, vs17, rfl, hl17⟩ := len_succ hl16
          obtain ⟨v18, vs18, rfl, hl18⟩ := len_succ hl17
          obtain ⟨v19, vs19, rfl, hl19⟩ := len_succ hl18
          obtain ⟨v20, vs20, rfl, hl20⟩ := len_succ hl19
          obtain ⟨v21, vs21, rfl, hl21⟩ := len_succ hl20
          obtain ⟨v22, vs22, rfl, hl22⟩ := len_succ hl21
          obtain ⟨v23, vs23, rfl, hl23⟩ := len_succ hl22
          obtain ⟨v24, vs24, rfl, hl24⟩ := len_succ hl23
          obtain ⟨v25, vs25, rfl, hl25⟩ := len_succ hl24
          obtain rfl := len_zero hl25
          have e23 := (show v23 = .bool true from hf _ (memI 29 rfl) (by kernel_rfl))
          subst e23
          show Option.isSome _ = true
          kernel_rfl
         ·intro vs gq stq hl hf
          replace hl : vs.length = 26 := hl
          obtain ⟨v0, vs0, rfl, hl0⟩ := len_succ hl
          obtain ⟨v1, vs1, rfl, hl1⟩ := len_succ hl0
          obtain ⟨v2, vs2, rfl, hl2⟩ := len_succ hl1
          obtain ⟨v3, vs3, rfl, hl3⟩ := len_succ hl2
          obtain ⟨v4, vs4, rfl, hl4⟩ := len_succ hl3
          obtain ⟨v5, vs5, rfl, hl5⟩ := len_succ hl4
          obtain ⟨v6, vs6, rfl, hl6⟩ := len_succ hl5
          obtain ⟨v7, vs7, rfl, hl7⟩ := len_succ hl6
          obtain ⟨v8, vs8, rfl, hl8⟩ := len_succ hl7
          obtain ⟨v9, vs9, rfl, hl9⟩ := len_succ hl8
          obtain ⟨v10, vs10, rfl, hl10⟩ := len_succ hl9
          obtain ⟨v11, vs11, rfl, hl11⟩ := len_succ hl10
          obtain ⟨v12, vs12, rfl, hl12⟩ := len_succ hl11
          obtain ⟨v13, vs13, rfl, hl13⟩ := len_succ hl12
          obtain ⟨v14, vs14, rfl, hl14⟩ := len_succ hl13
          obtain ⟨v15, vs15, rfl, hl15⟩ := len_succ hl14
          obtain ⟨v16, vs16, rfl, hl16⟩ := len_succ hl15
          obtain ⟨v17, vs17, rfl, hl17⟩ := len_succ hl16
          obtain ⟨v18, vs18, rfl, hl18⟩ := len_succ hl17
          obtain ⟨v19, vs19, rfl, hl19⟩ := len_succ hl18
          obtain ⟨v20, vs20, rfl, hl20⟩ := len_succ hl19
          obtain ⟨v21, vs21, rfl, hl21⟩ := len_succ hl20
          obtain ⟨v22, vs22, rfl, hl22⟩ := len_succ hl21
          obtain ⟨v23, vs23, rfl, hl23⟩ := len_succ hl22
          obtain ⟨v24, vs24, rfl, hl24⟩ := len_succ hl23
          obtain ⟨v25, vs25, rfl, hl25⟩ := len_succ hl24
          obtain rfl := len_zero hl25
          have e23 := (show v23 = .bool true from hf _ (memI 29 rfl) (by kernel_rfl))
          subst e23
          show Option.isSome _ = true
          kernel_rfl
         ·intro vs gq stq hl hf
          replace hl : vs.length = 26 := hl
          obtain ⟨v0, vs0, rfl, hl0⟩ := len_succ hl
          obtain ⟨v1, vs1, rfl, hl1⟩ := len_succ hl0
          obtain ⟨v2, vs2, rfl, hl2⟩ := len_succ hl1
          obtain ⟨v3, vs3, rfl, hl3⟩ := len_succ hl2
          obtain ⟨v4, vs4, rfl, hl4⟩ := len_succ hl3
          obtain ⟨v5, vs5, rfl, hl5⟩ := len_succ hl4
          obtain ⟨v6, vs6, rfl, hl6⟩ := len_succ hl5
          obtain ⟨v7, vs7, rfl, hl7⟩ := len_succ hl6
          obtain ⟨v8, vs8, rfl, hl8⟩ := len_succ hl7
          obtain ⟨v9, vs9, rfl, hl9⟩ := len_succ hl8
          obtain ⟨v10, vs10, rfl, hl10⟩ := len_succ hl9
          obtain ⟨v11, vs11, rfl, hl11⟩ := len_succ hl10
          obtain ⟨v12, vs12, rfl, hl12⟩ := len_succ hl11
          obtain ⟨v13, vs13, rfl, hl13⟩ := len_succ hl12
          obtain ⟨v14, vs14, rfl, hl14⟩ := len_succ hl13
          obtain ⟨v15, vs15, rfl, hl15⟩ := len_succ hl14
          obtain ⟨v16, vs16, rfl, hl16⟩ := len_succ hl15
          obtain ⟨v17, vs17, rfl, hl17⟩ := len_succ hl16
          obtain ⟨v18, vs18, rfl, hl18⟩ := len_succ hl17
          obtain ⟨v19, vs19, rfl, hl19⟩ := len_succ hl18
          obtain ⟨v20, vs20, rfl, hl20⟩ := len_succ hl19
          obtain ⟨v21, vs21, rfl, hl21⟩ := len_succ hl20
          obtain ⟨v22, vs22, rfl, hl22⟩ := len_succ hl21
          obtain ⟨v23, vs23, rfl, hl23⟩ := len_succ hl22
          obtain ⟨v24, vs24, rfl, hl24⟩ := len_succ hl23
          obtain ⟨v25, vs25, rfl, hl25⟩ := len_succ hl24
          obtain rfl := len_zero hl25
          have e23 := (show v23 = .bool true from hf _ (memI 29 rfl) (by kernel_rfl))
          subst e23
          have e24 := (show v24 = .bool q1 from hf _ (memI 30 rfl) (by kernel_rfl))
          subst e24
          have e25 := (show v25 = .bool q2 from hf _ (memI 31 rfl) (by kernel_rfl))
          subst e25
          show Option.isSome _ = true
          kernel_rfl
         ·intro vs gq stq hl hf
          replace hl : vs.length = 26 := hl
          obtain ⟨v0, vs0, rfl, hl0⟩ := len_succ hl
          obtain ⟨v1, vs1, rfl, hl1⟩ := len_succ hl0
          obtain ⟨v2, vs2, rfl, hl2⟩ := len_succ hl1
          obtain ⟨v3, vs3, rfl, hl3⟩ := len_succ hl2
          obtain ⟨v4, vs4, rfl, hl4⟩ := len_succ hl3
          obtain ⟨v5, vs5, rfl, hl5⟩ := len_succ hl4
          obtain ⟨v6, vs6, rfl, hl6⟩ := len_succ hl5
          obtain ⟨v7, vs7, rfl, hl7⟩ := len_succ hl6
          obtain ⟨v8, vs8, rfl, hl8⟩ := len_succ hl7
          obtain ⟨v9, vs9, rfl, hl9⟩ := len_succ hl8
          obtain ⟨v10, vs10, rfl, hl10⟩ := len_succ hl9
          obtain ⟨v11, vs11, rfl, hl11⟩ := len_succ hl10
          obtain ⟨v12, vs12, rfl, hl12⟩ := len_succ hl11
          obtain ⟨v13, vs13, rfl, hl13⟩ := len_succ hl12
          obtain ⟨v14, vs14, rfl, hl14⟩ := len_succ hl13
          obtain ⟨v15, vs15, rfl, hl15⟩ := len_succ hl14
          obtain ⟨v16, vs16, rfl, hl16⟩ := len_succ hl15
          obtain ⟨v17, vs17, rfl, hl17⟩ := len_succ hl16
          obtain ⟨v18, vs18, rfl, hl18⟩ := len_succ hl17
          obtain ⟨v19, vs19, rfl, hl19⟩ := len_succ hl18
          obtain ⟨v20, vs20, rfl, hl20⟩ := len_succ hl19
          obtain ⟨v21, vs21, rfl, hl21⟩ := len_succ hl20
          obtain ⟨v22, vs22, rfl, hl22⟩ := len_succ hl21
          obtain ⟨v23, vs23, rfl, hl23⟩ := len_succ hl22
          obtain ⟨v24, vs24, rfl, hl24⟩ := len_succ hl23
          obtain ⟨v25, vs25, rfl, hl25⟩ := len_succ hl24
          obtain rfl := len_zero hl25
          have e23 := (show v23 = .bool true from hf _ (memI 29 rfl) (by kernel_rfl))
          subst e23
          have e24 := (show v24 = .bool q1 from hf _ (memI 30 rfl) (by kernel_rfl))
          subst e24
          have e25 := (show v25 = .bool q2 from hf _ (memI 31 rfl) (by kernel_rfl))
          subst e25
          show Option.isSome _ = true
          kernel_rfl
         ·intro vs gq stq hl hf
          replace hl : vs.length = 26 := hl
          obtain ⟨v0, vs0, rfl, hl0⟩ := len_succ hl
          obtain ⟨v1, vs1, rfl, hl1⟩ := len_succ hl0
          obtain ⟨v2, vs2, rfl, hl2⟩ := len_succ hl1
          obtain ⟨v3, vs3, rfl, hl3⟩ := len_succ hl2
          obtain ⟨v4, vs4, rfl, hl4⟩ := len_succ hl3
          obtain ⟨v5, vs5, rfl, hl5⟩ := len_succ hl4
          obtain ⟨v6, vs6, rfl, hl6⟩ := len_succ hl5
          obtain ⟨v7, vs7, rfl, hl7⟩ := len_succ hl6
          obtain ⟨v8, vs8, rfl, hl8⟩ := len_succ hl7
          obtain ⟨v9, vs9, rfl, hl9⟩ := len_succ hl8
          obtain ⟨v10, vs10, rfl, hl10⟩ := len_succ hl9
          obtain ⟨v11, vs11, rfl, hl11⟩ := len_succ hl10
          obtain ⟨v12, vs12, rfl, hl12⟩ := len_succ hl11
          obtain ⟨v13, vs13, rfl, hl13⟩ := len_succ hl12
          obtain ⟨v14, vs14, rfl, hl14⟩ := len_succ hl13
          obtain ⟨v15, vs15, rfl, hl15⟩ := len_succ hl14
          obtain ⟨v16, vs16, rfl, hl16⟩ := len_succ hl15
          obtain ⟨v17, vs17, rfl, hl17⟩ := len_succ hl16
          obtain ⟨v18, vs18, rfl, hl18⟩ := len_succ hl17
          obtain ⟨v19, vs19, rfl, hl19⟩ := len_succ hl18
          obtain ⟨v20, vs20, rfl, hl20⟩ := len_succ hl19
          obtain ⟨v21, vs21, rfl, hl21⟩ := len_succ hl20
          obtain ⟨v22, vs22, rfl, hl22⟩ := len_succ hl21
          obtain ⟨v23, vs23, rfl, hl23⟩ := len_succ hl22
          obtain ⟨v24, vs24, rfl, hl24⟩ := len_succ hl23
          obtain ⟨v25, vs25, rfl, hl25⟩ := len_succ hl24
          obtain rfl := len_zero hl25
          have e23 := (show v23 = .bool true from hf _ (memI 29 rfl) (by kernel_rfl))
          subst e23
          have e24 := (show v24 = .bool q1 from hf _ (memI 30 rfl) (by kernel_rfl))
          subst e24
          have e25 := (show v25 = .bool q2 from hf _ (memI 31 rfl) (by kernel_rfl))
          subst e25
          show Option.isSome _ = true
          kernel_rfl
        ·intro j hj
         have hq : j = 0 ∨ j = 1 ∨ j = 2 ∨ j = 3 ∨ j = 4 ∨ j = 5 ∨ j = 6 ∨ j = 7 ∨ j = 8 ∨ j = 9 ∨ j = 10 ∨ j = 11 ∨ j = 12 ∨ j = 13 ∨ j = 14 ∨ j = 15 ∨ j = 16 ∨ j = 17 ∨ j = 18 ∨ j = 19 ∨ j = 20 ∨ j = 21 ∨ j = 22 ∨ j = 23 ∨ j = 24 ∨ j = 25 := by have h : j < 26 := hj; omega
         rcases hq with rfl | rfl | rfl | rfl | rfl | rfl | rfl | rfl | rfl | rfl | rfl | rfl | rfl | rfl | rfl | rfl | rfl | rfl | rfl | rfl | rfl | rfl | rfl | rfl | rfl | rfl
         ·intro vs gq stq hl hf
          replace hl : vs.length = 26 := hl
          obtain ⟨v0, vs0, rfl, hl0⟩ := len_succ hl
          obtain ⟨v1, vs1, rfl, hl1⟩ := len_succ hl0
          obtain ⟨v2, vs2, rfl, hl2⟩ := len_succ hl1
          obtain ⟨v3, vs3, rfl, hl3⟩ := len_succ hl2
          obtain ⟨v4, vs4, rfl, hl4⟩ := len_succ hl3
          obtain ⟨v5, vs5, rfl, hl5⟩ := len_succ hl4
          obtain ⟨v6, vs6, rfl, hl6⟩ := len_succ hl5
          obtain ⟨v7, vs7, rfl, hl7⟩ := len_succ hl6
          obtain ⟨v8, vs8, rfl, hl8⟩ := len_succ hl7
          obtain ⟨v9, vs9, rfl, hl9⟩ := len_succ hl8
          obtain ⟨v10, vs10, rfl, hl10⟩ := len_succ hl9
          obtain ⟨v11, vs11, rfl, hl11⟩ := len_succ hl10
          obtain ⟨v12, vs12, rfl, hl12⟩ := len_succ hl11
          obtain ⟨v13, vs13, rfl, hl13⟩ := len_succ hl12
          obtain ⟨v14, vs14, rfl, hl14⟩ := len_succ hl13
          obtain ⟨v15, vs15, rfl, hl15⟩ := len_succ hl14
          obtain ⟨v16, vs16, rfl, hl16⟩ := len_succ hl15
          obtain ⟨v17, vs17, rfl, hl17⟩ := len_succ hl16
          obtain ⟨v18, vs18, rfl, hl18⟩ := len_succ hl17
          obtain ⟨v19, vs19, rfl, hl19⟩ := len_succ hl18
          obtain ⟨v20, vs20, rfl, hl20⟩ := len_succ hl19
          obtain ⟨v21, vs21, rfl, hl21⟩ := len_succ hl20
          obtain ⟨v22, vs22, rfl, hl22⟩ := len_succ hl21
          obtain ⟨v23, vs23, rfl, hl23⟩ := len_succ hl22
          obtain ⟨v24, vs24, rfl, hl24⟩ := len_succ hl23
          obtain ⟨v25, vs25, rfl, hl25⟩ := len_succ hl24
          obtain rfl := len_zero hl25
          have hB1 := (show Box gq (t + 1) b1 35 [[.int .i64 x1], encA .u8 d1, [.int .i64 x2], encA .u8 d2, [.slice a1 n1 c1], [.slice a2 n2 c2], [.bool q1]] [1, 8, 1, 8, 1, 1, 1] from hf _ (memI 0 rfl) (by kernel_rfl))
          refine WP.loadB (v := .int .i64 x1) hB1 (by kernel_rfl) (by kernel_rfl) ?_
          refine WP.dn (Shown.ok (v := .int .i64 x1) (by kernel_rfl) (Step.refl _ _) ?_)
          exact ⟨tv, tv, tv, tv, tv, tv, rfl, tv, tv, tv, tv, tv, tv, tv, tv, tv, tv, tv, tv, tv, tv, tv, tv, tv, tv, tv, tv, tv, tv, tv, tv, tv, tv⟩
         ·intro vs gq stq hl hf
          replace hl : vs.length = 26 := hl
          obtain ⟨v0, vs0, rfl, hl0⟩ := len_succ hl
          obtain ⟨v1, vs1, rfl, hl1⟩ := len_succ hl0
          obtain ⟨v2, vs2, rfl, hl2⟩ := len_succ hl1
          obtain ⟨v3, vs3, rfl, hl3⟩ := len_succ hl2
          obtain ⟨v4, vs4, rfl, hl4⟩ := len_succ hl3
          obtain ⟨v5, vs5, rfl, hl5⟩ := len_succ hl4
          obtain ⟨v6, vs6, rfl, hl6⟩ := len_succ hl5
          obtain ⟨v7, vs7, rfl, hl7⟩ := len_succ hl6
          obtain ⟨v8, vs8, rfl, hl8⟩ := len_succ hl7
          obtain ⟨v9, vs9, rfl, hl9⟩ := len_succ hl8
          obtain ⟨v10, vs10, rfl, hl10⟩ := len_succ hl9
          obtain ⟨v11, vs11, rfl, hl11⟩ := len_succ hl10
          obtain ⟨v12, vs12, rfl, hl12⟩ := len_succ hl11
          obtain ⟨v13, vs13, rfl, hl13⟩ := len_succ hl12
          obtain ⟨v14, vs14, rfl, hl14⟩ := len_succ hl13
          obtain ⟨v15, vs15, rfl, hl15⟩ := len_succ hl14
          obtain ⟨v16, vs16, rfl, hl16⟩ := len_succ hl15
          obtain ⟨v17, vs17, rfl, hl17⟩ := len_succ hl16
          obtain ⟨v18, vs18, rfl, hl18⟩ := len_succ hl17
          obtain ⟨v19, vs19, rfl, hl19⟩ := len_succ hl18
          obtain ⟨v20, vs20, rfl, hl20⟩ := len_succ hl19
          obtain ⟨v21, vs21, rfl, hl21⟩ := len_succ hl20
          obtain ⟨v22, vs22, rfl, hl22⟩ := len_succ hl21
          obtain ⟨v23, vs23, rfl, hl23⟩ := len_succ hl22
          obtain ⟨v24, vs24, rfl, hl24⟩ := len_succ hl23
          obtain ⟨v25, vs25, rfl, hl25⟩ := len_succ hl24
          obtain rfl := len_zero hl25
          have hB2 := (show Box gq (t + 2) b2 35 [[.int .i64 x3], encA .u8 d3, [.int .i64 x4], encA .u8 d4, [.slice a3 n3 c3], [.slice a4 n4 c4], [.bool q2]] [1, 8, 1, 8, 1, 1, 1] from hf _ (memI 3 rfl) (by kernel_rfl))
          refine WP.loadB (v := .int .i64 x3) hB2 (by kernel_rfl) (by kernel_rfl) ?_
          refine WP.dn (Shown.ok (v := .int .i64 x3) (by kernel_rfl) (Step.refl _ _) ?_)
          exact ⟨tv, tv, tv, tv, tv, tv, tv, rfl, tv, tv, tv, tv, tv, tv, tv, tv, tv, tv, tv, tv, tv, tv, tv, tv, tv, tv, tv, tv, tv, tv, tv, tv, tv⟩
         ·intro vs gq stq hl hf
          replace hl : vs.length = 26 := hl
          obtain ⟨v0, vs0, rfl, hl0⟩ := len_succ hl
          obtain ⟨v1, vs1, rfl, hl1⟩ := len_succ hl0
          obtain ⟨v2, vs2, rfl, hl2⟩ := len_succ hl1
          obtain ⟨v3, vs3, rfl, hl3⟩ := len_succ hl2
          obtain ⟨v4, vs4, rfl, hl4⟩ := len_succ hl3
          obtain ⟨v5, vs5, rfl, hl5⟩ := len_succ hl4
          obtain ⟨v6, vs6, rfl, hl6⟩ := len_succ hl5
          obtain ⟨v7, vs7, rfl, hl7⟩ := len_succ hl6
          obtain ⟨v8, vs8, rfl, hl8⟩ := len_succ hl7
          obtain ⟨v9, vs9, rfl, hl9⟩ := len_succ hl8
          obtain ⟨v10, vs10, rfl, hl10⟩ := len_succ hl9
          obtain ⟨v11, vs11, rfl, hl11⟩ := len_succ hl10
          obtain ⟨v12, vs12, rfl, hl12⟩ := len_succ hl11
          obtain ⟨v13, vs13, rfl, hl13⟩ := len_succ hl12
          obtain ⟨v14, vs14, rfl, hl14⟩ := len_succ hl13
          obtain ⟨v15, vs15, rfl, hl15⟩ := len_succ hl14
          obtain ⟨v16, vs16, rfl, hl16⟩ := len_succ hl15
          obtain ⟨v17, vs17, rfl, hl17⟩ := len_succ hl16
          obtain ⟨v18, vs18, rfl, hl18⟩ := len_succ hl17
          obtain ⟨v19, vs19, rfl, hl19⟩ := len_succ hl18
          obtain ⟨v20, vs20, rfl, hl20⟩ := len_succ hl19
          obtain ⟨v21, vs21, rfl, hl21⟩ := len_succ hl20
          obtain ⟨v22, vs22, rfl, hl22⟩ := len_succ hl21
          obtain ⟨v23, vs23, rfl, hl23⟩ := len_succ hl22
          obtain ⟨v24, vs24, rfl, hl24⟩ := len_succ hl23
          obtain ⟨v25, vs25, rfl, hl25⟩ := len_succ hl24
          obtain rfl := len_zero hl25
          have e0 := (show v0 = .int .i64 x1 from hf _ (memI 6 rfl) (by kernel_rfl))
          subst e0
          have e1 := (show v1 = .int .i64 x3 from hf _ (memI 7 rfl) (by kernel_rfl))
          subst e1
          refine WP.stl 1 ?_
          refine WP.dn (Shown.ok (v := .bool (x1 == x3)) (by kernel_rfl) (Step.refl _ _) ?_)
          exact ⟨tv, tv, tv, tv, tv, tv, tv, tv, congrArg Value.bool h7, tv, tv, tv, tv, tv, tv, tv, tv, tv, tv, tv, tv, tv, tv, tv, tv, tv, tv, tv, tv, tv, tv, tv, tv⟩
         ·intro vs gq stq hl hf
          replace hl : vs.length = 26 := hl
          obtain ⟨v0, vs0, rfl, hl0⟩ := len_succ hl
          obtain ⟨v1, vs1, rfl, hl1⟩ := len_succ hl0
          obtain ⟨v2, vs2, rfl, hl2⟩ := len_succ hl1
          obtain ⟨v3, vs3, rfl, hl3⟩ := len_succ hl2
          obtain ⟨v4, vs4, rfl, hl4⟩ := len_succ hl3
          obtain ⟨v5, vs5, rfl, hl5⟩ := len_succ hl4
          obtain ⟨v6, vs6, rfl, hl6⟩ := len_succ hl5
          obtain ⟨v7, vs7, rfl, hl7⟩ := len_succ hl6
          obtain ⟨v8, vs8, rfl, hl8⟩ := len_succ hl7
          obtain ⟨v9, vs9, rfl, hl9⟩ := len_succ hl8
          obtain ⟨v10, vs10, rfl, hl10⟩ := len_succ hl9
          obtain ⟨v11, vs11, rfl, hl11⟩ := len_succ hl10
          obtain ⟨v12, vs12, rfl, hl12⟩ := len_succ hl11
          obtain ⟨v13, vs13, rfl, hl13⟩ := len_succ hl12
          obtain ⟨v14, vs14, rfl, hl14⟩ := len_succ hl13
          obtain ⟨v15, vs15, rfl, hl15⟩ := len_succ hl14
          obtain ⟨v16, vs16, rfl, hl16⟩ := len_succ hl15
          obtain ⟨v17, vs17, rfl, hl17⟩ := len_succ hl16
          obtain ⟨v18, vs18, rfl, hl18⟩ := len_succ hl17
          obtain ⟨v19, vs19, rfl, hl19⟩ := len_succ hl18
          obtain ⟨v20, vs20, rfl, hl20⟩ := len_succ hl19
          obtain ⟨v21, vs21, rfl, hl21⟩ := len_succ hl20
          obtain ⟨v22, vs22, rfl, hl22⟩ := len_succ hl21
          obtain ⟨v23, vs23, rfl, hl23⟩ := len_succ hl22
          obtain ⟨v24, vs24, rfl, hl24⟩ := len_succ hl23
          obtain ⟨v25, vs25, rfl, hl25⟩ := len_succ hl24
          obtain rfl := len_zero hl25
          have hB1 := (show Box gq (t + 1) b1 35 [[.int .i64 x1], encA .u8 d1, [.int .i64 x2], encA .u8 d2, [.slice a1 n1 c1], [.slice a2 n2 c2], [.bool q1]] [1, 8, 1, 8, 1, 1, 1] from hf _ (memI 0 rfl) (by kernel_rfl))
          have e2 := (show v2 = .bool true from hf _ (memI 8 rfl) (by kernel_rfl))
          subst e2
          refine WP.loadB (v := AG [encA .u8 d1]) hB1 (by kernel_rfl) (by kernel_rfl) ?_
          refine WP.dn (Shown.ok (v := AG [encA .u8 d1]) (by kernel_rfl) (Step.refl _ _) ?_)
          exact ⟨tv, tv, tv, tv, tv, tv, tv, tv, tv, rfl, tv, tv, tv, tv, tv, tv, tv, tv, tv, tv, tv, tv, tv, tv, tv, tv, tv, tv, tv, tv, tv, tv, tv⟩
         ·intro vs gq stq hl hf
          replace hl : vs.length = 26 := hl
          obtain ⟨v0, vs0, rfl, hl0⟩ := len_succ hl
          obtain ⟨v1, vs1, rfl, hl1⟩ := len_succ hl0
          obtain ⟨v2, vs2, rfl, hl2⟩ := len_succ hl1
          obtain ⟨v3, vs3, rfl, hl3⟩ := len_succ hl2
          obtain ⟨v4, vs4, rfl, hl4⟩ := len_succ hl3
          obtain ⟨v5, vs5, rfl, hl5⟩ := len_succ hl4
          obtain ⟨v6, vs6, rfl, hl6⟩ := len_succ hl5
          obtain ⟨v7, vs7, rfl, hl7⟩ := len_succ hl6
          obtain ⟨v8, vs8, rfl, hl8⟩ := len_succ hl7
          obtain ⟨v9, vs9, rfl, hl9⟩ := len_succ hl8
          obtain ⟨v10, vs10, rfl, hl10⟩ := len_succ hl9
          obtain ⟨v11, vs11, rfl, hl11⟩ := len_succ hl10
          obtain ⟨v12, vs12, rfl, hl12⟩ := len_succ hl11
          obtain ⟨v13, vs13, rfl, hl13⟩ := len_succ hl12
          obtain ⟨v14, vs14, rfl, hl14⟩ := len_succ hl13
          obtain ⟨v15, vs15, rfl, hl15⟩ := len_succ hl14
          obtain ⟨v16, vs16, rfl, hl16⟩ := len_succ hl15
          obtain ⟨v17, vs17, rfl, hl17⟩ := len_succ hl16
          obtain ⟨v18, vs18, rfl, hl18⟩ := len_succ hl17
          obtain ⟨v19, vs19, rfl, hl19⟩ := len_succ hl18
          obtain ⟨v20, vs20, rfl, hl20⟩ := len_succ hl19
          obtain ⟨v21, vs21, rfl, hl21⟩ := len_succ hl20
          obtain ⟨v22, vs22, rfl, hl22⟩ := len_succ hl21
          obtain ⟨v23, vs23, rfl, hl23⟩ := len_succ hl22
          obtain ⟨v24, vs24, rfl, hl24⟩ := len_succ hl23
          obtain ⟨v25, vs25, rfl, hl25⟩ := len_succ hl24
          obtain rfl := len_zero hl25
          have hB2 := (show Box gq (t + 2) b2 35 [[.int .i64 x3], encA .u8 d3, [.int .i64 x4], encA .u8 d4, [.slice a3 n3 c3], [.slice a4 n4 c4], [.bool q2]] [1, 8, 1, 8, 1, 1, 1] from hf _ (memI 3 rfl) (by kernel_rfl))
          have e2 := (show v2 = .bool true from hf _ (memI 8 rfl) (by kernel_rfl))
          subst e2
          refine WP.loadB (v := AG [encA .u8 d3]) hB2 (by kernel_rfl) (by kernel_rfl) ?_
          refine WP.dn (Shown.ok (v := AG [encA .u8 d3]) (by kernel_rfl) (Step.refl _ _) ?_)
          exact ⟨tv, tv, tv, tv, tv, tv, tv, tv, tv, tv, rfl, tv, tv, tv, tv, tv, tv, tv, tv, tv, tv, tv, tv, tv, tv, tv, tv, tv, tv, tv, tv, tv, tv⟩
         ·intro vs gq stq hl hf
          replace hl : vs.length = 26 := hl
          obtain ⟨v0, vs0, rfl, hl0⟩ := len_succ hl
          obtain ⟨v1, vs1, rfl, hl1⟩ := len_succ hl0
          obtain ⟨v2, vs2, rfl, hl2⟩ := len_succ hl1
          obtain ⟨v3, vs3, rfl, hl3⟩ := len_succ hl2
          obtain ⟨v4, vs4, rfl, hl4⟩ := len_succ hl3
          obtain ⟨v5, vs5, rfl, hl5⟩ := len_succ hl4
          obtain ⟨v6, vs6, rfl, hl6⟩ := len_succ hl5
          obtain ⟨v7, vs7, rfl, hl7⟩ := len_succ hl6
          obtain ⟨v8, vs8, rfl, hl8⟩ := len_succ hl7
          obtain ⟨v9, vs9, rfl, hl9⟩ := len_succ hl8
          obtain ⟨v10, vs10, rfl, hl10⟩ := len_succ hl9
          obtain ⟨v11, vs11, rfl, hl11⟩ := len_succ hl10
          obtain ⟨v12, vs12, rfl, hl12⟩ := len_succ hl11
          obtain ⟨v13, vs13, rfl, hl13⟩ := len_succ hl12
          obtain ⟨v14, vs14, rfl, hl14⟩ := len_succ hl13
          obtain ⟨v15, vs15, rfl, hl15⟩ := len_succ hl14
          obtain ⟨v16, vs16, rfl, hl16⟩ := len_succ hl15
          obtain ⟨v17, vs17, rfl, hl17⟩ := len_succ hl16
          obtain ⟨v18, vs18, rfl, hl18⟩ := len_succ hl17
          obtain ⟨v19, vs19, rfl, hl19⟩ := len_succ hl18
          obtain ⟨v20, vs20, rfl, hl20⟩ := len_succ hl19
          obtain ⟨v21, vs21, rfl, hl21⟩ := len_succ hl20
          obtain ⟨v22, vs22, rfl, hl22⟩ := len_succ hl21
          obtain ⟨v23, vs23, rfl, hl23⟩ := len_succ hl22
          obtain ⟨v24, vs24, rfl, hl24⟩ := len_succ hl23
          obtain ⟨v25, vs25, rfl, hl25⟩ := len_succ hl24
          obtain rfl := len_zero hl25
          have e2 := (show v2 = .bool true from hf _ (memI 8 rfl) (by kernel_rfl))
          subst e2
          have e3 := (show v3 = AG [encA .u8 d1] from hf _ (memI 9 rfl) (by kernel_rfl))
          subst e3
          have e4 := (show v4 = AG [encA .u8 d3] from hf _ (memI 10 rfl) (by kernel_rfl))
          subst e4
          refine WP.eqV (by kernel_rfl) (by kernel_rfl) (EqV.arr (d := 9998) (t := 32) (e := 5) (m := 8) (k := .u8) (x := d1) (y := d3) (by kernel_rfl) (by kernel_rfl)) ?_
          refine WP.dn (Shown.ok (v := .bool (d1.1 == d3.1)) (by kernel_rfl) (Step.refl _ _) ?_)
          exact ⟨tv, tv, tv, tv, tv, tv, tv, tv, tv, tv, tv, rfl, tv, tv, tv, tv, tv, tv, tv, tv, tv, tv, tv, tv, tv, tv, tv, tv, tv, tv, tv, tv, tv⟩
         ·intro vs gq stq hl hf
          replace hl : vs.length = 26 := hl
          obtain ⟨v0, vs0, rfl, hl0⟩ := len_succ hl
          obtain ⟨v1, vs1, rfl, hl1⟩ := len_succ hl0
          obtain ⟨v2, vs2, rfl, hl2⟩ := len_succ hl1
          obtain ⟨v3, vs3, rfl, hl3⟩ := len_succ hl2
          obtain ⟨v4, vs4, rfl, hl4⟩ := len_succ hl3
          obtain ⟨v5, vs5, rfl, hl5⟩ := len_succ hl4
          obtain ⟨v6, vs6, rfl, hl6⟩ := len_succ hl5
          obtain ⟨v7, vs7, rfl, hl7⟩ := len_succ hl6
          obtain ⟨v8, vs8, rfl, hl8⟩ := len_succ hl7
          obtain ⟨v9, vs9, rfl, hl9⟩ := len_succ hl8
          obtain ⟨v10, vs10, rfl, hl10⟩ := len_succ hl9
          obtain ⟨v11, vs11, rfl, hl11⟩ := len_succ hl10
          obtain ⟨v12, vs12, rfl, hl12⟩ := len_succ hl11
          obtain ⟨v13, vs13, rfl, hl13⟩ := len_succ hl12
          obtain ⟨v14, vs14, rfl, hl14⟩ := len_succ hl13
          obtain ⟨v15, vs15, rfl, hl15⟩ := len_succ hl14
          obtain ⟨v16, vs16, rfl, hl16⟩ := len_succ hl15
          obtain ⟨v17, vs17, rfl, hl17⟩ := len_succ hl16
          obtain ⟨v18, vs18, rfl, hl18⟩ := len_succ hl17
          obtain ⟨v19, vs19, rfl, hl19⟩ := len_succ hl18
          obtain ⟨v20, vs20, rfl, hl20⟩ := len_succ hl19
          obtain ⟨v21, vs21, rfl, hl21⟩ := len_succ hl20
          obtain ⟨v22, vs22, rfl, hl22⟩ := len_succ hl21
          obtain ⟨v23, vs23, rfl, hl23⟩ := len_succ hl22
          obtain ⟨v24, vs24, rfl, hl24⟩ := len_succ hl23
          obtain ⟨v25, vs25, rfl, hl25⟩ := len_succ hl24
          obtain rfl := len_zero hl25
          have e2 := (show v2 = .bool true from hf _ (memI 8 rfl) (by kernel_rfl))
          subst e2
          have e5 := (show v5 = .bool (d1.1 == d3.1) from hf _ (memI 11 rfl) (by kernel_rfl))
          subst e5
          refine WP.stl 1 ?_
          refine WP.dn (Shown.ok (v := .bool (d1.1 == d3.1)) (by kernel_rfl) (Step.refl _ _) ?_)
          exact ⟨tv, tv, tv, tv, tv, tv, tv, tv, tv, tv, tv, tv, congrArg Value.bool h8, tv, tv, tv, tv, tv, tv, tv, tv, tv, tv, tv, tv, tv, tv, tv, tv, tv, tv, tv, tv⟩
         ·intro vs gq stq hl hf
          replace hl : vs.length = 26 := hl
          obtain ⟨v0, vs0, rfl, hl0⟩ := len_succ hl
          obtain ⟨v1, vs1, rfl, hl1⟩ := len_succ hl0
          obtain ⟨v2, vs2, rfl, hl2⟩ := len_succ hl1
          obtain ⟨v3, vs3, rfl, hl3⟩ := len_succ hl2
          obtain ⟨v4, vs4, rfl, hl4⟩ := len_succ hl3
          obtain ⟨v5, vs5, rfl, hl5⟩ := len_succ hl4
          obtain ⟨v6, vs6, rfl, hl6⟩ := len_succ hl5
          obtain ⟨v7, vs7, rfl, hl7⟩ := len_succ hl6
          obtain ⟨v8, vs8, rfl, hl8⟩ := len_succ hl7
          obtain ⟨v9, vs9, rfl, hl9⟩ := len_succ hl8
          obtain ⟨v10, vs10, rfl, hl10⟩ := len_succ hl9
          obtain ⟨v11, vs11, rfl, hl11⟩ := len_succ hl10
          obtain ⟨v12, vs12, rfl, hl12⟩ := len_succ hl11
          obtain ⟨v13, vs13, rfl, hl13⟩ := len_succ hl12
          obtain ⟨v14, vs14, rfl, hl14⟩ := len_succ hl13
          obtain ⟨v15, vs15, rfl, hl15⟩ := len_succ hl14
          obtain ⟨v16, vs16, rfl, hl16⟩ := len_succ hl15
          obtain ⟨v17, vs17, rfl, hl17⟩ := len_succ hl16
          obtain ⟨v18, vs18, rfl, hl18⟩ := len_succ hl17
          obtain ⟨v19, vs19, rfl, hl19⟩ := len_succ hl18
          obtain ⟨v20, vs20, rfl, hl20⟩ := len_succ hl19
          obtain ⟨v21, vs21, rfl, hl21⟩ := len_succ hl20
          obtain ⟨v22, vs22, rfl, hl22⟩ := len_succ hl21
          obtain ⟨v23, vs23, rfl, hl23⟩ := len_succ hl22
          obtain ⟨v24, vs24, rfl, hl24⟩ := len_succ hl23
          obtain ⟨v25, vs25, rfl, hl25⟩ := len_succ hl24
          obtain rfl := len_zero hl25
          have hB1 := (show Box gq (t + 1) b1 35 [[.int .i64 x1], encA .u8 d1, [.int .i64 x2], encA .u8 d2, [.slice a1 n1 c1], [.slice a2 n2 c2], [.bool q1]] [1, 8, 1, 8, 1, 1, 1] from hf _ (memI 0 rfl) (by kernel_rfl))
          have e6 := (show v6 = .bool true from hf _ (memI 12 rfl) (by kernel_rfl))
          subst e6
          refine WP.loadB (v := .int .i64 x2) hB1 (by kernel_rfl) (by kernel_rfl) ?_
          refine WP.dn (Shown.ok (v := .int .i64 x2) (by kernel_rfl) (Step.refl _ _) ?_)
          exact ⟨tv, tv, tv, tv, tv, tv, tv, tv, tv, tv, tv, tv, tv, rfl, tv, tv, tv, tv, tv, tv, tv, tv, tv, tv, tv, tv, tv, tv, tv, tv, tv, tv, tv⟩
         ·intro vs gq stq hl hf
          replace hl : vs.length = 26 := hl
          obtain ⟨v0, vs0, rfl, hl0⟩ := len_succ hl
          obtain ⟨v1, vs1, rfl, hl1⟩ := len_succ hl0
          obtain ⟨v2, vs2, rfl, hl2⟩ := len_succ hl1
          obtain ⟨v3, vs3, rfl, hl3⟩ := len_succ hl2
          obtain ⟨v4, vs4, rfl, hl4⟩ := len_succ hl3
          obtain ⟨v5, vs5, rfl, hl5⟩ := len_succ hl4
          obtain ⟨v6, vs6, rfl, hl6⟩ := len_succ hl5
          obtain ⟨v7, vs7, rfl, hl7⟩ := len_succ hl6
          obtain ⟨v8, vs8, rfl, hl8⟩ := len_succ hl7
          obtain ⟨v9, vs9, rfl, hl9⟩ := len_succ hl8
          obtain ⟨v10, vs10, rfl, hl10⟩ := len_succ hl9
          obtain ⟨v11, vs11, rfl, hl11⟩ := len_succ hl10
          obtain ⟨v12, vs12, rfl, hl12⟩ := len_succ hl11
          obtain ⟨v13, vs13, rfl, hl13⟩ := len_succ hl12
          obtain ⟨v14, vs14, rfl, hl14⟩ := len_succ hl13
          obtain ⟨v15, vs15, rfl, hl15⟩ := len_succ hl14
          obtain ⟨v16, vs16, rfl, hl16⟩ := len_succ hl15
          obtain ⟨v17, vs17, rfl, hl17⟩ := len_succ hl16
          obtain ⟨v18, vs18, rfl, hl18⟩ := len_succ hl17
          obtain ⟨v19, vs19, rfl, hl19⟩ := len_succ hl18
          obtain ⟨v20, vs20, rfl, hl20⟩ := len_succ hl19
          obtain ⟨v21, vs21, rfl, hl21⟩ := len_succ hl20
          obtain ⟨v22, vs22, rfl, hl22⟩ := len_succ hl21
          obtain ⟨v23, vs23, rfl, hl23⟩ := len_succ hl22
          obtain ⟨v24, vs24, rfl, hl24⟩ := len_succ hl23
          obtain ⟨v25, vs25, rfl, hl25⟩ := len_succ hl24
          obtain rfl := len_zero hl25
          have hB2 := (show Box gq (t + 2) b2 35 [[.int .i64 x3], encA .u8 d3, [.int .i64 x4], encA .u8 d4, [.slice a3 n3 c3], [.slice a4 n4 c4], [.bool q2]] [1, 8, 1, 8, 1, 1, 1] from hf _ (memI 3 rfl) (by kernel_rfl))
          have e6 := (show v6 = .bool true from hf _ (memI 12 rfl) (by kernel_rfl))
          subst e6
          refine WP.loadB (v := .int .i64 x4) hB2 (by kernel_rfl) (by kernel_rfl) ?_
          refine WP.dn (Shown.ok (v := .int .i64 x4) (by kernel_rfl) (Step.refl _ _) ?_)
          exact ⟨tv, tv, tv, tv, tv, tv, tv, tv, tv, tv, tv, tv, tv, tv, rfl, tv, tv, tv, tv, tv, tv, tv, tv, tv, tv, tv, tv, tv, tv, tv, tv, tv, tv⟩
         ·intro vs gq stq hl hf
          replace hl : vs.length = 26 := hl
          obtain ⟨v0, vs0, rfl, hl0⟩ := len_succ hl
          obtain ⟨v1, vs1, rfl, hl1⟩ := len_succ hl0
          obtain ⟨v2, vs2, rfl, hl2⟩ := len_succ hl1
          obtain ⟨v3, vs3, rfl, hl3⟩ := len_succ hl2
          obtain ⟨v4, vs4, rfl, hl4⟩ := len_succ hl3
          obtain ⟨v5, vs5, rfl, hl5⟩ := len_succ hl4
          obtain ⟨v6, vs6, rfl, hl6⟩ := len_succ hl5
          obtain ⟨v7, vs7, rfl, hl7⟩ := len_succ hl6
          obtain ⟨v8, vs8, rfl, hl8⟩ := len_succ hl7
          obtain ⟨v9, vs9, rfl, hl9⟩ := len_succ hl8
          obtain ⟨v10, vs10, rfl, hl10⟩ := len_succ hl9
          obtain ⟨v11, vs11, rfl, hl11⟩ := len_succ hl10
          obtain ⟨v12, vs12, rfl, hl12⟩ := len_succ hl11
          obtain ⟨v13, vs13, rfl, hl13⟩ := len_succ hl12
          obtain ⟨v14, vs14, rfl, hl14⟩ := len_succ hl13
          obtain ⟨v15, vs15, rfl, hl15⟩ := len_succ hl14
          obtain ⟨v16, vs16, rfl, hl16⟩ := len_succ hl15
          obtain ⟨v17, vs17, rfl, hl17⟩ := len_succ hl16
          obtain ⟨v18, vs18, rfl, hl18⟩ := len_succ hl17
          obtain ⟨v19, vs19, rfl, hl19⟩ := len_succ hl18
          obtain ⟨v20, vs20, rfl, hl20⟩ := len_succ hl19
          obtain ⟨v21, vs21, rfl, hl21⟩ := len_succ hl20
          obtain ⟨v22, vs22, rfl, hl22⟩ := len_succ hl21
          obtain ⟨v23, vs23, rfl, hl23⟩ := len_succ hl22
          obtain ⟨v24, vs24, rfl, hl24⟩ := len_succ hl23
          obtain ⟨v25, vs25, rfl, hl25⟩ := len_succ hl24
          obtain rfl := len_zero hl25
          have e6 := (show v6 = .bool true from hf _ (memI 12 rfl) (by kernel_rfl))
          subst e6
          have e7 := (show v7 = .int .i64 x2 from hf _ (memI 13 rfl) (by kernel_rfl))
          subst e7
          have e8 := (show v8 = .int .i64 x4 from hf _ (memI 14 rfl) (by kernel_rfl))
          subst e8
          refine WP.stl 1 ?_
          refine WP.dn (Shown.ok (v := .bool (x2 == x4)) (by kernel_rfl) (Step.refl _ _) ?_)
          exact ⟨tv, tv, tv, tv, tv, tv, tv, tv, tv, tv, tv, tv, tv, tv, tv, congrArg Value.bool h9, tv, tv, tv, tv, tv, tv, tv, tv, tv, tv, tv, tv, tv, tv, tv, tv, tv⟩
         ·intro vs gq stq hl hf
          replace hl : vs.length = 26 := hl
          obtain ⟨v0, vs0, rfl, hl0⟩ := len_succ hl
          obtain ⟨v1, vs1, rfl, hl1⟩ := len_succ hl0
          obtain ⟨v2, vs2, rfl, hl2⟩ := len_succ hl1
          obtain ⟨v3, vs3, rfl, hl3⟩ := len_succ hl2
          obtain ⟨v4, vs4, rfl, hl4⟩ := len_succ hl3
          obtain ⟨v5, vs5, rfl, hl5⟩ := len_succ hl4
          obtain ⟨v6, vs6, rfl, hl6⟩ := len_succ hl5
          obtain ⟨v7, vs7, rfl, hl7⟩ := len_succ hl6
          obtain ⟨v8, vs8, rfl, hl8⟩ := len_succ hl7
          obtain ⟨v9, vs9, rfl, hl9⟩ := len_succ hl8
          obtain ⟨v10, vs10, rfl, hl10⟩ := len_succ hl9
          obtain ⟨v11, vs11, rfl, hl11⟩ := len_succ hl10
          obtain ⟨v12, vs12, rfl, hl12⟩ := len_succ hl11
          obtain ⟨v13, vs13, rfl, hl13⟩ := len_succ hl12
          obtain ⟨v14, vs14, rfl, hl14⟩ := len_succ hl13
          obtain ⟨v15, vs15, rfl, hl15⟩ := len_succ hl14
          obtain ⟨v16, vs16, rfl, hl16⟩ := len_succ hl15
          obtain ⟨v17, vs17, rfl, hl17⟩ := len_succ hl16
          obtain ⟨v18, vs18, rfl, hl18⟩ := len_succ hl17
          obtain ⟨v19, vs19, rfl, hl19⟩ := len_succ hl18
          obtain ⟨v20, vs20, rfl, hl20⟩ := len_succ hl19
          obtain ⟨v21, vs21, rfl, hl21⟩ := len_succ hl20
          obtain ⟨v22, vs22, rfl, hl22⟩ := len_succ hl21
          obtain ⟨v23, vs23, rfl, hl23⟩ := len_succ hl22
          obtain ⟨v24, vs24, rfl, hl24⟩ := len_succ hl23
          obtain ⟨v25, vs25, rfl, hl25⟩ := len_succ hl24
          obtain rfl := len_zero hl25
          have hB1 := (show Box gq (t + 1) b1 35 [[.int .i64 x1], encA .u8 d1, [.int .i64 x2], encA .u8 d2, [.slice a1 n1 c1], [.slice a2 n2 c2], [.bool q1]] [1, 8, 1, 8, 1, 1, 1] from hf _ (memI 0 rfl) (by kernel_rfl))
          have e9 := (show v9 = .bool true from hf _ (memI 15 rfl) (by kernel_rfl))
          subst e9
          refine WP.loadB (v := AG [[.int .i64 x1], encA .u8 d1, [.int .i64 x2], encA .u8 d2, [.slice a1 n1 c1], [.slice a2 n2 c2], [.bool q1]]) hB1 (by kernel_rfl) (by kernel_rfl) ?_
          refine WP.dn (Shown.ok (v := AG [[.int .i64 x1], encA .u8 d1, [.int .i64 x2], encA .u8 d2, [.slice a1 n1 c1], [.slice a2 n2 c2], [.bool q1]]) (by kernel_rfl) (Step.refl _ _) ?_)
          exact ⟨tv, tv, tv, tv, tv, tv, tv, tv, tv, tv, tv, tv, tv, tv, tv, tv, rfl, tv, tv, tv, tv, tv, tv, tv, tv, tv, tv, tv, tv, tv, tv, tv, tv⟩
         ·intro vs gq stq hl hf
          replace hl : vs.length = 26 := hl
          obtain ⟨v0, vs0, rfl, hl0⟩ := len_succ hl
          obtain ⟨v1, vs1, rfl, hl1⟩ := len_succ hl0
          obtain ⟨v2, vs2, rfl, hl2⟩ := len_succ hl1
          obtain ⟨v3, vs3, rfl, hl3⟩ := len_succ hl2
          obtain ⟨v4, vs4, rfl, hl4⟩ := len_succ hl3
          obtain ⟨v5, vs5, rfl, hl5⟩ := len_succ hl4
          obtain ⟨v6, vs6, rfl, hl6⟩ := len_succ hl5
          obtain ⟨v7, vs7, rfl, hl7⟩ := len_succ hl6
          obtain ⟨v8, vs8, rfl, hl8⟩ := len_succ hl7
          obtain ⟨v9, vs9, rfl, hl9⟩ := len_succ hl8
          obtain ⟨v10, vs10, rfl, hl10⟩ := len_succ hl9
          obtain ⟨v11, vs11, rfl, hl11⟩ := len_succ hl10
          obtain ⟨v12, vs12, rfl, hl12⟩ := len_succ hl11
          obtain ⟨v13, vs13, rfl, hl13⟩ := len_succ hl12
          obtain ⟨v14, vs14, rfl, hl14⟩ := len_succ hl13
          obtain ⟨v15, vs15, rfl, hl15⟩ := len_succ hl14
          obtain ⟨v16, vs16, rfl, hl16⟩ := len_succ hl15
          obtain ⟨v17, vs17, rfl, hl17⟩ := len_succ hl16
          obtain ⟨v18, vs18, rfl, hl18⟩ := len_succ hl17
          obtain ⟨v19, vs19, rfl, hl19⟩ := len_succ hl18
          obtain ⟨v20, vs20, rfl, hl20⟩ := len_succ hl19
          obtain ⟨v21, vs21, rfl, hl21⟩ := len_succ hl20
          obtain ⟨v22, vs22, rfl, hl22⟩ := len_succ hl21
          obtain ⟨v23, vs23, rfl, hl23⟩ := len_succ hl22
          obtain ⟨v24, vs24, rfl, hl24⟩ := len_succ hl23
          obtain ⟨v25, vs25, rfl, hl25⟩ := len_succ hl24
          obtain rfl := len_zero hl25
          have hR1 := (show RdS (Kd.int .u8) gq 5 a1 n1 c1 l1 from hf _ (memI 1 rfl) (by kernel_rfl))
          have hR2 := (show RdS (Kd.int .u8) gq 5 a2 n2 c2 l2 from hf _ (memI 2 rfl) (by kernel_rfl))
          have e9 := (show v9 = .bool true from hf _ (memI 15 rfl) (by kernel_rfl))
          subst e9
          have e10 := (show v10 = AG [[.int .i64 x1], encA .u8 d1, [.int .i64 x2], encA .u8 d2, [.slice a1 n1 c1], [.slice a2 n2 c2], [.bool q1]] from hf _ (memI 16 rfl) (by kernel_rfl))
          subst e10
          have hcal5 := P.baizeref34_At gq x1 d1 x2 d2 l1 l2 q1 a1 n1 c1 a2 n2 c2 hR1 hR2 d7 hk5
          refine WP.callC hcal5 (by kernel_rfl) ?_
          rintro _ g7 st7 rfl
          refine WP.dn (Shown.o (v := AG [encA .u8 d7]) st7.pure ?_)
          exact ⟨tv, tv, tv, tv, tv, tv, tv, tv, tv, tv, tv, tv, tv, tv, tv, tv, tv, rfl, tv, tv, tv, tv, tv, tv, tv, tv, tv, tv, tv, tv, tv, tv, tv⟩
         ·intro vs gq stq hl hf
          replace hl : vs.length = 26 := hl
          obtain ⟨v0, vs0, rfl, hl0⟩ := len_succ hl
          obtain ⟨v1, vs1, rfl, hl1⟩ := len_succ hl0
          obtain ⟨v2, vs2, rfl, hl2⟩ := len_succ hl1
          obtain ⟨v3, vs3, rfl, hl3⟩ := len_succ hl2
          obtain ⟨v4, vs4, rfl, hl4⟩ := len_succ hl3
          obtain ⟨v5, vs5, rfl, hl5⟩ := len_succ hl4
          obtain ⟨v6, vs6, rfl, hl6⟩ := len_succ hl5
          obtain ⟨v7, vs7, rfl, hl7⟩ := len_succ hl6
          obtain ⟨v8, vs8, rfl, hl8⟩ := len_succ hl7
          obtain ⟨v9, vs9, rfl, hl9⟩ := len_succ hl8
          obtain ⟨v10, vs10, rfl, hl10⟩ := len_succ hl9
          obtain ⟨v11, vs11, rfl, hl11⟩ := len_succ hl10
          obtain ⟨v12, vs12, rfl, hl12⟩ := len_succ hl11
          obtain ⟨v13, vs13, rfl, hl13⟩ := len_succ hl12
          obtain ⟨v14, vs14, rfl, hl14⟩ := len_succ hl13
          obtain ⟨v15, vs15, rfl, hl15⟩ := len_succ hl14
          obtain ⟨v16, vs16, rfl, hl16⟩ := len_succ hl15
          obtain ⟨v17, vs17, rfl, hl17⟩ := len_succ hl16
          obtain ⟨v18, vs18, rfl, hl18⟩ := len_succ hl17
          obtain ⟨v19, vs19, rfl, hl19⟩ := len_succ hl18
          obtain ⟨v20, vs20, rfl, hl20⟩ := len_succ hl19
          obtain ⟨v21, vs21, rfl, hl21⟩ := len_succ hl20
          obtain ⟨v22, vs22, rfl, hl22⟩ := len_succ hl21
          obtain ⟨v23, vs23, rfl, hl23⟩ := len_succ hl22
          obtain ⟨v24, vs24, rfl, hl24⟩ := len_succ hl23
          obtain ⟨v25, vs25, rfl, hl25⟩ := len_succ hl24
          obtain rfl := len_zero hl25
          have hB2 := (show Box gq (t + 2) b2 35 [[.int .i64 x3], encA .u8 d3, [.int .i64 x4], encA .u8 d4, [.slice a3 n3 c3], [.slice a4 n4 c4], [.bool q2]] [1, 8, 1, 8, 1, 1, 1] from hf _ (memI 3 rfl) (by kernel_rfl))
          have e9 := (show v9 = .bool true from hf _ (memI 15 rfl) (by kernel_rfl))
          subst e9
          refine WP.loadB (v := AG [[.int .i64 x3], encA .u8 d3, [.int .i64 x4], encA .u8 d4, [.slice a3 n3 c3], [.slice a4 n4 c4], [.bool q2]]) hB2 (by kernel_rfl) (by kernel_rfl) ?_
          refine WP.dn (Shown.ok (v := AG [[.int .i64 x3], encA .u8 d3, [.int .i64 x4], encA .u8 d4, [.slice a3 n3 c3], [.slice a4 n4 c4], [.bool q2]]) (by kernel_rfl) (Step.refl _ _) ?_)
          exact ⟨tv, tv, tv, tv, tv, tv, tv, tv, tv, tv, tv, tv, tv, tv, tv, tv, tv, tv, rfl, tv, tv, tv, tv, tv, tv, tv, tv, tv, tv, tv, tv, tv, tv⟩
         ·intro vs gq stq hl hf
          replace hl : vs.length = 26 := hl
          obtain ⟨v0, vs0, rfl, hl0⟩ := len_succ hl
          obtain ⟨v1, vs1, rfl, hl1⟩ := len_succ hl0
          obtain ⟨v2, vs2, rfl, hl2⟩ := len_succ hl1
          obtain ⟨v3, vs3, rfl, hl3⟩ := len_succ hl2
          obtain ⟨v4, vs4, rfl, hl4⟩ := len_succ hl3
          obtain ⟨v5, vs5, rfl, hl5⟩ := len_succ hl4
          obtain ⟨v6, vs6, rfl, hl6⟩ := len_succ hl5
          obtain ⟨v7, vs7, rfl, hl7⟩ := len_succ hl6
          obtain ⟨v8, vs8, rfl, hl8⟩ := len_succ hl7
          obtain ⟨v9, vs9, rfl, hl9⟩ := len_succ hl8
          obtain ⟨v10, vs10, rfl, hl10⟩ := len_succ hl9
          obtain ⟨v11, vs11, rfl, hl11⟩ := len_succ hl10
          obtain ⟨v12, vs12, rfl, hl12⟩ := len_succ hl11
          obtain ⟨v13, vs13, rfl, hl13⟩ := len_succ hl12
          obtain ⟨v14, vs14, rfl, hl14⟩ := len_succ hl13
          obtain ⟨v15, vs15, rfl, hl15⟩ := len_succ hl14
          obtain ⟨v16, vs16, rfl, hl16⟩ := len_succ hl15
          obtain ⟨v17, vs17, rfl, hl17⟩ := len_succ hl16
          obtain ⟨v18, vs18, rfl, hl18⟩ := len_succ hl17
          obtain ⟨v19, vs19, rfl, hl19⟩ := len_succ hl18
          obtain ⟨v20, vs20, rfl, hl20⟩ := len_succ hl19
          obtain ⟨v21, vs21, rfl, hl21⟩ := len_succ hl20
          obtain ⟨v22, vs22, rfl, hl22⟩ := len_succ hl21
          obtain ⟨v23, vs23, rfl, hl23⟩ := len_succ hl22
          obtain ⟨v24, vs24, rfl, hl24⟩ := len_succ hl23
          obtain ⟨v25, vs25, rfl, hl25⟩ := len_succ hl24
          obtain rfl := len_zero hl25
          have hR3 := (show RdS (Kd.int .u8) gq 5 a3 n3 c3 l3 from hf _ (memI 4 rfl) (by kernel_rfl))
          have hR4 := (show RdS (Kd.int .u8) gq 5 a4 n4 c4 l4 from hf _ (memI 5 rfl) (by kernel_rfl))
          have e9 := (show v9 = .bool true from hf _ (memI 15 rfl) (by kernel_rfl))
          subst e9
          have e12 := (show v12 = AG [[.int .i64 x3], encA .u8 d3, [.int .i64 x4], encA .u8 d4, [.slice a3 n3 c3], [.slice a4 n4 c4], [.bool q2]] from hf _ (memI 18 rfl) (by kernel_rfl))
          subst e12
          have hcal6 := P.baizeref34_At gq x3 d3 x4 d4 l3 l4 q2 a3 n3 c3 a4 n4 c4 hR3 hR4 d8 hk6
          refine WP.callC hcal6 (by kernel_rfl) ?_
          rintro _ g8 st8 rfl
          refine WP.dn (Shown.o (v := AG [encA .u8 d8]) st8.pure ?_)
          exact ⟨tv, tv, tv, tv, tv, tv, tv, tv, tv, tv, tv, tv, tv, tv, tv, tv, tv, tv, tv, rfl, tv, tv, tv, tv, tv, tv, tv, tv, tv, tv, tv, tv, tv⟩
         ·intro vs gq stq hl hf
          replace hl : vs.length = 26 := hl
          obtain ⟨v0, vs0, rfl, hl0⟩ := len_succ hl
          obtain ⟨v1, vs1, rfl, hl1⟩ := len_succ hl0
          obtain ⟨v2, vs2, rfl, hl2⟩ := len_succ hl1
          obtain ⟨v3, vs3, rfl, hl3⟩ := len_succ hl2
          obtain ⟨v4, vs4, rfl, hl4⟩ := len_succ hl3
          obtain ⟨v5, vs5, rfl, hl5⟩ := len_succ hl4
          obtain ⟨v6, vs6, rfl, hl6⟩ := len_succ hl5
          obtain ⟨v7, vs7, rfl, hl7⟩ := len_succ hl6
          obtain ⟨v8, vs8, rfl, hl8⟩ := len_succ hl7
          obtain ⟨v9, vs9, rfl, hl9⟩ := len_succ hl8
          obtain ⟨v10, vs10, rfl, hl10⟩ := len_succ hl9
          obtain ⟨v11, vs11, rfl, hl11⟩ := len_succ hl10
          obtain ⟨v12, vs12, rfl, hl12⟩ := len_succ hl11
          obtain ⟨v13, vs13, rfl, hl13⟩ := len_succ hl12
          obtain ⟨v14, vs14, rfl, hl14⟩ := len_succ hl13
          obtain ⟨v15, vs15, rfl, hl15⟩ := len_succ hl14
          obtain ⟨v16, vs16, rfl, hl16⟩ := len_succ hl15
          obtain ⟨v17, vs17, rfl, hl17⟩ := len_succ hl16
          obtain ⟨v18, vs18, rfl, hl18⟩ := len_succ hl17
          obtain ⟨v19, vs19, rfl, hl19⟩ := len_succ hl18
          obtain ⟨v20, vs20, rfl, hl20⟩ := len_succ hl19
          obtain ⟨v21, vs21, rfl, hl21⟩ := len_succ hl20
          obtain ⟨v22, vs22, rfl, hl22⟩ := len_succ hl21
          obtain ⟨v23, vs23, rfl, hl23⟩ := len_succ hl22
          obtain ⟨v24, vs24, rfl, hl24⟩ := len_succ hl23
          obtain ⟨v25, vs25, rfl, hl25⟩ := len_succ hl24
          obtain rfl := len_zero hl25
          have e9 := (show v9 = .bool true from hf _ (memI 15 rfl) (by kernel_rfl))
          subst e9
          have e11 := (show v11 = AG [encA .u8 d7] from hf _ (memI 17 rfl) (by kernel_rfl))
          subst e11
          have e13 := (show v13 = AG [encA .u8 d8] from hf _ (memI 19 rfl) (by kernel_rfl))
          subst e13
          refine WP.eqV (by kernel_rfl) (by kernel_rfl) (EqV.arr (d := 9998) (t := 32) (e := 5) (m := 8) (k := .u8) (x := d7) (y := d8) (by kernel_rfl) (by kernel_rfl)) ?_
          refine WP.dn (Shown.ok (v := .bool (d7.1 == d8.1)) (by kernel_rfl) (Step.refl _ _) ?_)
          exact ⟨tv, tv, tv, tv, tv, tv, tv, tv, tv, tv, tv, tv, tv, tv, tv, tv, tv, tv, tv, tv, rfl, tv, tv, tv, tv, tv, tv, tv, tv, tv, tv, tv, tv⟩
         ·intro vs gq stq hl hf
          replace hl : vs.length = 26 := hl
          obtain ⟨v0, vs0, rfl, hl0⟩ := len_succ hl
          obtain ⟨v1, vs1, rfl, hl1⟩ := len_succ hl0
          obtain ⟨v2, vs2, rfl, hl2⟩ := len_succ hl1
          obtain ⟨v3, vs3, rfl, hl3⟩ := len_succ hl2
          obtain ⟨v4, vs4, rfl, hl4⟩ := len_succ hl3
          obtain ⟨v5, vs5, rfl, hl5⟩ := len_succ hl4
          obtain ⟨v6, vs6, rfl, hl6⟩ := len_succ hl5
          obtain ⟨v7, vs7, rfl, hl7⟩ := len_succ hl6
          obtain ⟨v8, vs8, rfl, hl8⟩ := len_succ hl7
          obtain ⟨v9, vs9, rfl, hl9⟩ := len_succ hl8
          obtain ⟨v10, vs10, rfl, hl10⟩ := len_succ hl9
          obtain ⟨v11, vs11, rfl, hl11⟩ := len_succ hl10
          obtain ⟨v12, vs12, rfl, hl12⟩ := len_succ hl11
          obtain ⟨v13, vs13, rfl, hl13⟩ := len_succ hl12
          obtain ⟨v14, vs14, rfl, hl14⟩ := len_succ hl13
          obtain ⟨v15, vs15, rfl, hl15⟩ := len_succ hl14
          obtain ⟨v16, vs16, rfl, hl16⟩ := len_succ hl15
          obtain ⟨v17, vs17, rfl, hl17⟩ := len_succ hl16
          obtain ⟨v18, vs18, rfl, hl18⟩ := len_succ hl17
          obtain ⟨v19, vs19, rfl, hl19⟩ := len_succ hl18
          obtain ⟨v20, vs20, rfl, hl20⟩ := len_succ hl19
          obtain ⟨v21, vs21, rfl, hl21⟩ := len_succ hl20
          obtain ⟨v22, vs22, rfl, hl22⟩ := len_succ hl21
          obtain ⟨v23, vs23, rfl, hl23⟩ := len_succ hl22
          obtain ⟨v24, vs24, rfl, hl24⟩ := len_succ hl23
          obtain ⟨v25, vs25, rfl, hl25⟩ := len_succ hl24
          obtain rfl := len_zero hl25
          have e9 := (show v9 = .bool true from hf _ (memI 15 rfl) (by kernel_rfl))
          subst e9
          have e14 := (show v14 = .bool (d7.1 == d8.1) from hf _ (memI 20 rfl) (by kernel_rfl))
          subst e14
          refine WP.stl 1 ?_
          refine WP.dn (Shown.ok (v := .bool (d7.1 == d8.1)) (by kernel_rfl) (Step.refl _ _) ?_)
          exact ⟨tv, tv, tv, tv, tv, tv, tv, tv, tv, tv, tv, tv, tv, tv, tv, tv, tv, tv, tv, tv, tv, congrArg Value.bool h10, tv, tv, tv, tv, tv, tv, tv, tv, tv, tv, tv⟩
         ·intro vs gq stq hl hf
          replace hl : vs.length = 26 := hl
          obtain ⟨v0, vs0, rfl, hl0⟩ := len_succ hl
          obtain ⟨v1, vs1, rfl, hl1⟩ := len_succ hl0
          obtain ⟨v2, vs2, rfl, hl2⟩ := len_succ hl1
          obtain ⟨v3, vs3, rfl, hl3⟩ := len_succ hl2
          obtain ⟨v4, vs4, rfl, hl4⟩ := len_succ hl3
          obtain ⟨v5, vs5, rfl, hl5⟩ := len_succ hl4
          obtain ⟨v6, vs6, rfl, hl6⟩ := len_succ hl5
          obtain ⟨v7, vs7, rfl, hl7⟩ := len_succ hl6
          obtain ⟨v8, vs8, rfl, hl8⟩ := len_succ hl7
          obtain ⟨v9, vs9, rfl, hl9⟩ := len_succ hl8
          obtain ⟨v10, vs10, rfl, hl10⟩ := len_succ hl9
          obtain ⟨v11, vs11, rfl, hl11⟩ := len_succ hl10
          obtain ⟨v12, vs12, rfl, hl12⟩ := len_succ hl11
          obtain ⟨v13, vs13, rfl, hl13⟩ := len_succ hl12
          obtain ⟨v14, vs14, rfl, hl14⟩ := len_succ hl13
          obtain ⟨v15, vs15, rfl, hl15⟩ := len_succ hl14
          obtain ⟨v16, vs16, rfl, hl16⟩ := len_succ hl15
          obtain ⟨v17, vs17, rfl, hl17⟩ := len_succ hl16
          obtain ⟨v18, vs18, rfl, hl18⟩ := len_succ hl17
          obtain ⟨v19, vs19, rfl, hl19⟩ := len_succ hl18
          obtain ⟨v20, vs20, rfl, hl20⟩ := len_succ hl19
          obtain ⟨v21, vs21, rfl, hl21⟩ := len_succ hl20
          obtain ⟨v22, vs22, rfl, hl22⟩ := len_succ hl21
          obtain ⟨v23, vs23, rfl, hl23⟩ := len_succ hl22
          obtain ⟨v24, vs24, rfl, hl24⟩ := len_succ hl23
          obtain ⟨v25, vs25, rfl, hl25⟩ := len_succ hl24
          obtain rfl := len_zero hl25
          have hB1 := (show Box gq (t + 1) b1 35 [[.int .i64 x1], encA .u8 d1, [.int .i64 x2], encA .u8 d2, [.slice a1 n1 c1], [.slice a2 n2 c2], [.bool q1]] [1, 8, 1, 8, 1, 1, 1] from hf _ (memI 0 rfl) (by kernel_rfl))
          have e15 := (show v15 = .bool true from hf _ (memI 21 rfl) (by kernel_rfl))
          subst e15
          refine WP.loadB (v := .slice a1 n1 c1) hB1 (by kernel_rfl) (by kernel_rfl) ?_
          refine WP.dn (Shown.ok (v := .slice a1 n1 c1) (by kernel_rfl) (Step.refl _ _) ?_)
          exact ⟨tv, tv, tv, tv, tv, tv, tv, tv, tv, tv, tv, tv, tv, tv, tv, tv, tv, tv, tv, tv, tv, tv, rfl, tv, tv, tv, tv, tv, tv, tv, tv, tv, tv⟩
         ·intro vs gq stq hl hf
          replace hl : vs.length = 26 := hl
          obtain ⟨v0, vs0, rfl, hl0⟩ := len_succ hl
          obtain ⟨v1, vs1, rfl, hl1⟩ := len_succ hl0
          obtain ⟨v2, vs2, rfl, hl2⟩ := len_succ hl1
          obtain ⟨v3, vs3, rfl, hl3⟩ := len_succ hl2
          obtain ⟨v4, vs4, rfl, hl4⟩ := len_succ hl3
          obtain ⟨v5, vs5, rfl, hl5⟩ := len_succ hl4
          obtain ⟨v6, vs6, rfl, hl6⟩ := len_succ hl5
          obtain ⟨v7, vs7, rfl, hl7⟩ := len_succ hl6
          obtain ⟨v8, vs8, rfl, hl8⟩ := len_succ hl7
          obtain ⟨v9, vs9, rfl, hl9⟩ := len_succ hl8
          obtain ⟨v10, vs10, rfl, hl10⟩ := len_succ hl9
          obtain ⟨v11, vs11, rfl, hl11⟩ := len_succ hl10
          obtain ⟨v12, vs12, rfl, hl12⟩ := len_succ hl11
          obtain ⟨v13, vs13, rfl, hl13⟩ := len_succ hl12
          obtain ⟨v14, vs14, rfl, hl14⟩ := len_succ hl13
          obtain ⟨v15, vs15, rfl, hl15⟩ := len_succ hl14
          obtain ⟨v16, vs16, rfl, hl16⟩ := len_succ hl15
          obtain ⟨v17, vs17, rfl, hl17⟩ := len_succ hl16
          obtain ⟨v18, vs18, rfl, hl18⟩ := len_succ hl17
          obtain ⟨v19, vs19, rfl, hl19⟩ := len_succ hl18
          obtain ⟨v20, vs20, rfl, hl20⟩ := len_succ hl19
          obtain ⟨v21, vs21, rfl, hl21⟩ := len_succ hl20
          obtain ⟨v22, vs22, rfl, hl22⟩ := len_succ hl21
          obtain ⟨v23, vs23, rfl, hl23⟩ := len_succ hl22
          obtain ⟨v24, vs24, rfl, hl24⟩ := len_succ hl23
          obtain ⟨v25, vs25, rfl, hl25⟩ := len_succ hl24
          obtain rfl := len_zero hl25
          have hB2 := (show Box gq (t + 2) b2 35 [[.int .i64 x3], encA .u8 d3, [.int .i64 x4], encA .u8 d4, [.slice a3 n3 c3], [.slice a4 n4 c4], [.bool q2]] [1, 8, 1, 8, 1, 1, 1] from hf _ (memI 3 rfl) (by kernel_rfl))
          have e15 := (show v15 = .bool true from hf _ (memI 21 rfl) (by kernel_rfl))
          subst e15
          refine WP.loadB (v := .slice a3 n3 c3) hB2 (by kernel_rfl) (by kernel_rfl) ?_
          refine WP.dn (Shown.ok (v := .slice a3 n3 c3) (by kernel_rfl) (Step.refl _ _) ?_)
          exact ⟨tv, tv, tv, tv, tv, tv, tv, tv, tv, tv, tv, tv, tv, tv, tv, tv, tv, tv, tv, tv, tv, tv, tv, rfl, tv, tv, tv, tv, tv, tv, tv, tv, tv⟩
         ·intro vs gq stq hl hf
          replace hl : vs.length = 26 := hl
          obtain ⟨v0, vs0, rfl, hl0⟩ := len_succ hl
          obtain ⟨v1, vs1, rfl, hl1⟩ := len_succ hl0
          obtain ⟨v2, vs2, rfl, hl2⟩ := len_succ hl1
          obtain ⟨v3, vs3, rfl, hl3⟩ := len_succ hl2
          obtain ⟨v4, vs4, rfl, hl4⟩ := len_succ hl3
          obtain ⟨v5, vs5, rfl, hl5⟩ := len_succ hl4
          obtain ⟨v6, vs6, rfl, hl6⟩ := len_succ hl5
          obtain ⟨v7, vs7, rfl, hl7⟩ := len_succ hl6
          obtain ⟨v8, vs8, rfl, hl8⟩ := len_succ hl7
          obtain ⟨v9, vs9, rfl, hl9⟩ := len_succ hl8
          obtain ⟨v10, vs10, rfl, hl10⟩ := len_succ hl9
          obtain ⟨v11, vs11, rfl, hl11⟩ := len_succ hl10
          obtain ⟨v12, vs12, rfl, hl12⟩ := len_succ hl11
          obtain ⟨v13, vs13, rfl, hl13⟩ := len_succ hl12
          obtain ⟨v14, vs14, rfl, hl14⟩ := len_succ hl13
          obtain ⟨v15, vs15, rfl, hl15⟩ := len_succ hl14
          obtain ⟨v16, vs16, rfl, hl16⟩ := len_succ hl15
          obtain ⟨v17, vs17, rfl, hl17⟩ := len_succ hl16
          obtain ⟨v18, vs18, rfl, hl18⟩ := len_succ hl17
          obtain ⟨v19, vs19, rfl, hl19⟩ := len_succ hl18
          obtain ⟨v20, vs20, rfl, hl20⟩ := len_succ hl19
          obtain ⟨v21, vs21, rfl, hl21⟩ := len_succ hl20
          obtain ⟨v22, vs22, rfl, hl22⟩ := len_succ hl21
          obtain ⟨v23, vs23, rfl, hl23⟩ := len_succ hl22
          obtain ⟨v24, vs24, rfl, hl24⟩ := len_succ hl23
          obtain ⟨v25, vs25, rfl, hl25⟩ := len_succ hl24
          obtain rfl := len_zero hl25
          have hR1 := (show RdS (Kd.int .u8) gq 5 a1 n1 c1 l1 from hf _ (memI 1 rfl) (by kernel_rfl))
          have hR3 := (show RdS (Kd.int .u8) gq 5 a3 n3 c3 l3 from hf _ (memI 4 rfl) (by kernel_rfl))
          have e15 := (show v15 = .bool true from hf _ (memI 21 rfl) (by kernel_rfl))
          subst e15
          have e16 := (show v16 = .slice a1 n1 c1 from hf _ (memI 22 rfl) (by kernel_rfl))
          subst e16
          have e17 := (show v17 = .slice a3 n3 c3 from hf _ (memI 23 rfl) (by kernel_rfl))
          subst e17
          have hcal7 := P.baizeref01_Same gq l1 l3 a1 n1 c1 a3 n3 c3 hR1 hR3 q6 hk7
          refine WP.callC hcal7 (by kernel_rfl) ?_
          rintro _ g9 st9 rfl
          refine WP.dn (Shown.o (v := .bool q6) st9.pure ?_)
          exact ⟨tv, tv, tv, tv, tv, tv, tv, tv, tv, tv, tv, tv, tv, tv, tv, tv, tv, tv, tv, tv, tv, tv, tv, tv, rfl, tv, tv, tv, tv, tv, tv, tv, tv⟩
         ·intro vs gq stq hl hf
          replace hl : vs.length = 26 := hl
          obtain ⟨v0, vs0, rfl, hl0⟩ := len_succ hl
          obtain ⟨v1, vs1, rfl, hl1⟩ := len_succ hl0
          obtain ⟨v2, vs2, rfl, hl2⟩ := len_succ hl1
          obtain ⟨v3, vs3, rfl, hl3⟩ := len_succ hl2
          obtain ⟨v4, vs4, rfl, hl4⟩ := len_succ hl3
          obtain ⟨v5, vs5, rfl, hl5⟩ := len_succ hl4
          obtain ⟨v6, vs6, rfl, hl6⟩ := len_succ hl5
          obtain ⟨v7, vs7, rfl, hl7⟩ := len_succ hl6
          obtain ⟨v8, vs8, rfl, hl8⟩ := len_succ hl7
          obtain ⟨v9, vs9, rfl, hl9⟩ := len_succ hl8
          obtain ⟨v10, vs10, rfl, hl10⟩ := len_succ hl9
          obtain ⟨v11, vs11, rfl, hl11⟩ := len_succ hl10
          obtain ⟨v12, vs12, rfl, hl12⟩ := len_succ hl11
          obtain ⟨v13, vs13, rfl, hl13⟩ := len_succ hl12
          obtain ⟨v14, vs14, rfl, hl14⟩ := len_succ hl13
          obtain ⟨v15, vs15, rfl, hl15⟩ := len_succ hl14
          obtain ⟨v16, vs16, rfl, hl16⟩ := len_succ hl15
          obtain ⟨v17, vs17, rfl, hl17⟩ := len_succ hl16
          obtain ⟨v18, vs18, rfl, hl18⟩ := len_succ hl17
          obtain ⟨v19, vs19, rfl, hl19⟩ := len_succ hl18
          obtain ⟨v20, vs20, rfl, hl20⟩ := len_succ hl19
          obtain ⟨v21, vs21, rfl, hl21⟩ := len_succ hl20
          obtain ⟨v22, vs22, rfl, hl22⟩ := len_succ hl21
          obtain ⟨v23, vs23, rfl, hl23⟩ := len_succ hl22
          obtain ⟨v24, vs24, rfl, hl24⟩ := len_succ hl23
          obtain ⟨v25, vs25, rfl, hl25⟩ := len_succ hl24
          obtain rfl := len_zero hl25
          have e15 := (show v15 = .bool true from hf _ (memI 21 rfl) (by kernel_rfl))
          subst e15
          have e18 := (show v18 = .bool q6 from hf _ (memI 24 rfl) (by kernel_rfl))
          subst e18
          refine WP.stl 1 ?_
          refine WP.dn (Shown.ok (v := .bool q6) (by kernel_rfl) (Step.refl _ _) ?_)
          exact ⟨tv, tv, tv, tv, tv, tv, tv, tv, tv, tv, tv, tv, tv, tv, tv, tv, tv, tv, tv, tv, tv, tv, tv, tv, tv, congrArg Value.bool h11, tv, tv, tv, tv, tv, tv, tv⟩
         ·intro vs gq stq hl hf
          replace hl : vs.length = 26 := hl
          obtain ⟨v0, vs0, rfl, hl0⟩ := len_succ hl
          obtain ⟨v1, vs1, rfl, hl1⟩ := len_succ hl0
          obtain ⟨v2, vs2, rfl, hl2⟩ := len_succ hl1
          obtain ⟨v3, vs3, rfl, hl3⟩ := len_succ hl2
          obtain ⟨v4, vs4, rfl, hl4⟩ := len_succ hl3
          obtain ⟨v5, vs5, rfl, hl5⟩ := len_succ hl4
          obtain ⟨v6, vs6, rfl, hl6⟩ := len_succ hl5
          obtain ⟨v7, vs7, rfl, hl7⟩ := len_succ hl6
          obtain ⟨v8, vs8, rfl, hl8⟩ := len_succ hl7
          obtain ⟨v9, vs9, rfl, hl9⟩ := len_succ hl8
          obtain ⟨v10, vs10, rfl, hl10⟩ := len_succ hl9
          obtain ⟨v11, vs11, rfl, hl11⟩ := len_succ hl10
          obtain ⟨v12, vs12, rfl, hl12⟩ := len_succ hl11
          obtain ⟨v13, vs13, rfl, hl13⟩ := len_succ hl12
          obtain ⟨v14, vs14, rfl, hl14⟩ := len_succ hl13
          obtain ⟨v15, vs15, rfl, hl15⟩ := len_succ hl14
          obtain ⟨v16, vs16, rfl, hl16⟩ := len_succ hl15
          obtain ⟨v17, vs17, rfl, hl17⟩ := len_succ hl16
          obtain ⟨v18, vs18, rfl, hl18⟩ := len_succ hl17
          obtain ⟨v19, vs19, rfl, hl19⟩ := len_succ hl18
          obtain ⟨v20, vs20, rfl, hl20⟩ := len_succ hl19
          obtain ⟨v21, vs21, rfl, hl21⟩ := len_succ hl20
          obtain ⟨v22, vs22, rfl, hl22⟩ := len_succ hl21
          obtain ⟨v23, vs23, rfl, hl23⟩ := len_succ hl22
          obtain ⟨v24, vs24, rfl, hl24⟩ := len_succ hl23
          obtain ⟨v25, vs25, rfl, hl25⟩ := len_succ hl24
          obtain rfl := len_zero hl25
          have hB1 := (show Box gq (t + 1) b1 35 [[.int .i64 x1], encA .u8 d1, [.int .i64 x2], encA .u8 d2, [.slice a1 n1 c1], [.slice a2 n2 c2], [.bool q1]] [1, 8, 1, 8, 1, 1, 1] from hf _ (memI 0 rfl) (by kernel_rfl))
          have e19 := (show v19 = .bool true from hf _ (memI 25 rfl) (by kernel_rfl))
          subst e19
          refine WP.loadB (v := .slice a2 n2 c2) hB1 (by kernel_rfl) (by kernel_rfl) ?_
          refine WP.dn (Shown.ok (v := .slice a2 n2 c2) (by kernel_rfl) (Step.refl _ _) ?_)
          exact ⟨tv, tv, tv, tv, tv, tv, tv, tv, tv, tv, tv, tv, tv, tv, tv, tv, tv, tv, tv, tv, tv, tv, tv, tv, tv, tv, rfl, tv, tv, tv, tv, tv, tv⟩
         ·intro vs gq stq hl hf
          replace hl : vs.length = 26 := hl
          obtain ⟨v0, vs0, rfl, hl0⟩ := len_succ hl
          obtain ⟨v1, vs1, rfl, hl1⟩ := len_succ hl0
          obtain ⟨v2, vs2, rfl, hl2⟩ := len_succ hl1
          obtain ⟨v3, vs3, rfl, hl3⟩ := len_succ hl2
          obtain ⟨v4, vs4, rfl, hl4⟩ := len_succ hl3
          obtain ⟨v5, vs5, rfl, hl5⟩ := len_succ hl4
          obtain ⟨v6, vs6, rfl, hl6⟩ := len_succ hl5
          obtain ⟨v7, vs7, rfl, hl7⟩ := len_succ hl6
          obtain ⟨v8, vs8, rfl, hl8⟩ := len_succ hl7
          obtain ⟨v9, vs9, rfl, hl9⟩ := len_succ hl8
          obtain ⟨v10, vs10, rfl, hl10⟩ := len_succ hl9
          obtain ⟨v11, vs11, rfl, hl11⟩ := len_succ hl10
          obtain ⟨v12, vs12, rfl, hl12⟩ := len_succ hl11
          obtain ⟨v13, vs13, rfl, hl13⟩ := len_succ hl12
          obtain ⟨v14, vs14, rfl, hl14⟩ := len_succ hl13
          obtain ⟨v15, vs15, rfl, hl15⟩ := len_succ hl14
          obtain ⟨v16, vs16, rfl, hl16⟩ := len_succ hl15
          obtain ⟨v17, vs17, rfl, hl17⟩ := len_succ hl16
          obtain ⟨v18, vs18, rfl, hl18⟩ := len_succ hl17
          obtain ⟨v19, vs19, rfl, hl19⟩ := len_succ hl18
          obtain ⟨v20, vs20, rfl, hl20⟩ := len_succ hl19
          obtain ⟨v21, vs21, rfl, hl21⟩ := len_succ hl20
          obtain ⟨v22, vs22, rfl, hl22⟩ := len_succ hl21
          obtain ⟨v23, vs23, rfl, hl23⟩ := len_succ hl22
          obtain ⟨v24, vs24, rfl, hl24⟩ := len_succ hl23
          obtain ⟨v25, vs25, rfl, hl25⟩ := len_succ hl24
          obtain rfl := len_zero hl25
          have hB2 := (show Box gq (t + 2) b2 35 [[.int .i64 x3], encA .u8 d3, [.int .i64 x4], encA .u8 d4, [.slice a3 n3 c3], [.slice a4 n4 c4], [.bool q2]] [1, 8, 1, 8, 1, 1, 1] from hf _ (memI 3 rfl) (by kernel_rfl))
          have e19 := (show v19 = .bool true from hf _ (memI 25 rfl) (by kernel_rfl))
          subst e19
          refine WP.loadB (v := .slice a4 n4 c4) hB2 (by kernel_rfl) (by kernel_rfl) ?_
          refine WP.dn (Shown.ok (v := .slice a4 n4 c4) (by kernel_rfl) (Step.refl _ _) ?_)
          exact ⟨tv, tv, tv, tv, tv, tv, tv, tv, tv, tv, tv, tv, tv, tv, tv, tv, tv, tv, tv, tv, tv, tv, tv, tv, tv, tv, tv, rfl, tv, tv, tv, tv, tv⟩
         ·intro vs gq stq hl hf
          replace hl : vs.length = 26 := hl
          obtain ⟨v0, vs0, rfl, hl0⟩ := len_succ hl
          obtain ⟨v1, vs1, rfl, hl1⟩ := len_succ hl0
          obtain ⟨v2, vs2, rfl, hl2⟩ := len_succ hl1
          obtain ⟨v3, vs3, rfl, hl3⟩ := len_succ hl2
          obtain ⟨v4, vs4, rfl, hl4⟩ := len_succ hl3
          obtain ⟨v5, vs5, rfl, hl5⟩ := len_succ hl4
          obtain ⟨v6, vs6, rfl, hl6⟩ := len_succ hl5
          obtain ⟨v7, vs7, rfl, hl7⟩ := len_succ hl6
          obtain ⟨v8, vs8, rfl, hl8⟩ := len_succ hl7
          obtain ⟨v9, vs9, rfl, hl9⟩ := len_succ hl8
          obtain ⟨v10, vs10, rfl, hl10⟩ := len_succ hl9
          obtain ⟨v11, vs11, rfl, hl11⟩ := len_succ hl10
          obtain ⟨v12, vs12, rfl, hl12⟩ := len_succ hl11
          obtain ⟨v13, vs13, rfl, hl13⟩ := len_succ hl12
          obtain ⟨v14, vs14, rfl, hl14⟩ := len_succ hl13
          obtain ⟨v15, vs15, rfl, hl15⟩ := len_succ hl14
          obtain ⟨v16, vs16, rfl, hl16⟩ := len_succ hl15
          obtain ⟨v17, vs17, rfl, hl17⟩ := len_succ hl16
          obtain ⟨v18, vs18, rfl, hl18⟩ := len_succ hl17
          obtain ⟨v19, vs19, rfl, hl19⟩ := len_succ hl18
          obtain ⟨v20, vs20, rfl, hl20⟩ := len_succ hl19
          obtain ⟨v21, vs21, rfl, hl21⟩ := len_succ hl20
          obtain ⟨v22, vs22, rfl, hl22⟩ := len_succ hl21
          obtain ⟨v23, vs23, rfl, hl23⟩ := len_succ hl22
          obtain ⟨v24, vs24, rfl, hl24⟩ := len_succ hl23
          obtain ⟨v25, vs25, rfl, hl25⟩ := len_succ hl24
          obtain rfl := len_zero hl25
          have hR2 := (show RdS (Kd.int .u8) gq 5 a2 n2 c2 l2 from hf _ (memI 2 rfl) (by kernel_rfl))
          have hR4 := (show RdS (Kd.int .u8) gq 5 a4 n4 c4 l4 from hf _ (memI 5 rfl) (by kernel_rfl))
          have e19 := (show v19 = .bool true from hf _ (memI 25 rfl) (by kernel_rfl))
          subst e19
          have e20 := (show v20 = .slice a2 n2 c2 from hf _ (memI 26 rfl) (by kernel_rfl))
          subst e20
          have e21 := (show v21 = .slice a4 n4 c4 from hf _ (memI 27 rfl) (by kernel_rfl))
          subst e21
          have hcal8 := P.baizeref01_Same gq l2 l4 a2 n2 c2 a4 n4 c4 hR2 hR4 q7 hk8
          refine WP.callC hcal8 (by kernel_rfl) ?_
          rintro _ g10 st10 rfl
          refine WP.dn (Shown.o (v := .bool q7) st10.pure ?_)
          exact ⟨tv, tv, tv, tv, tv, tv, tv, tv, tv, tv, tv, tv, tv, tv, tv, tv, tv, tv, tv, tv, tv, tv, tv, tv, tv, tv, tv, tv, rfl, tv, tv, tv, tv⟩
         ·intro vs gq stq hl hf
          replace hl : vs.length = 26 := hl
          obtain ⟨v0, vs0, rfl, hl0⟩ := len_succ hl
          obtain ⟨v1, vs1, rfl, hl1⟩ := len_succ hl0
          obtain ⟨v2, vs2, rfl, hl2⟩ := len_succ hl1
          obtain ⟨v3, vs3, rfl, hl3⟩ := len_succ hl2
          obtain ⟨v4, vs4, rfl, hl4⟩ := len_succ hl3
          obtain ⟨v5, vs5, rfl, hl5⟩ := len_succ hl4
          obtain ⟨v6, vs6, rfl, hl6⟩ := len_succ hl5
          obtain ⟨v7, vs7, rfl, hl7⟩ := len_succ hl6
          obtain ⟨v8, vs8, rfl, hl8⟩ := len_succ hl7
          obtain ⟨v9, vs9, rfl, hl9⟩ := len_succ hl8
          obtain ⟨v10, vs10, rfl, hl10⟩ := len_succ hl9
          obtain ⟨v11, vs11, rfl, hl11⟩ := len_succ hl10
          obtain ⟨v12, vs12, rfl, hl12⟩ := len_succ hl11
          obtain ⟨v13, vs13, rfl, hl13⟩ := len_succ hl12
          obtain ⟨v14, vs14, rfl, hl14⟩ := len_succ hl13
          obtain ⟨v15, vs15, rfl, hl15⟩ := len_succ hl14
          obtain ⟨v16, vs16, rfl, hl16⟩ := len_succ hl15
          obtain ⟨v17, vs17, rfl, hl17⟩ := len_succ hl16
          obtain ⟨v18, vs18, rfl, hl18⟩ := len_succ hl17
          obtain ⟨v19, vs19, rfl, hl19⟩ := len_succ hl18
          obtain ⟨v20, vs20, rfl, hl20⟩ := len_succ hl19
          obtain ⟨v21, vs21, rfl, hl21⟩ := len_succ hl20
          obtain ⟨v22, vs22, rfl, hl22⟩ := len_succ hl21
          obtain ⟨v23, vs23, rfl, hl23⟩ := len_succ hl22
          obtain ⟨v24, vs24, rfl, hl24⟩ := len_succ hl23
          obtain ⟨v25, vs25, rfl, hl25⟩ := len_succ hl24
          obtain rfl := len_zero hl25
          have e19 := (show v19 = .bool true from hf _ (memI 25 rfl) (by kernel_rfl))
          subst e19
          have e22 := (show v22 = .bool q7 from hf _ (memI 28 rfl) (by kernel_rfl))
          subst e22
          refine WP.stl 1 ?_
          refine WP.dn (Shown.ok (v := .bool q7) (by kernel_rfl) (Step.refl _ _) ?_)
          exact ⟨tv, tv, tv, tv, tv, tv, tv, tv, tv, tv, tv, tv, tv, tv, tv, tv, tv, tv, tv, tv, tv, tv, tv, tv, tv, tv, tv, tv, tv, congrArg Value.bool h12, tv, tv, tv⟩
         ·intro vs gq stq hl hf
          replace hl : vs.length = 26 := hl
          obtain ⟨v0, vs0, rfl, hl0⟩ := len_succ hl
          obtain ⟨v1, vs1, rfl, hl1⟩ := len_succ hl0
          obtain ⟨v2, vs2, rfl, hl2⟩ := len_succ hl1
          obtain ⟨v3, vs3, rfl, hl3⟩ := len_succ hl2
          obtain ⟨v4, vs4, rfl, hl4⟩ := len_succ hl3
          obtain ⟨v5, vs5, rfl, hl5⟩ := len_succ hl4
          obtain ⟨v6, vs6, rfl, hl6⟩ := len_succ hl5
          obtain ⟨v7, vs7, rfl, hl7⟩ := len_succ hl6
          obtain ⟨v8, vs8, rfl, hl8⟩ := len_succ hl7
          obtain ⟨v9, vs9, rfl, hl9⟩ := len_succ hl8
          obtain ⟨v10, vs10, rfl, hl10⟩ := len_succ hl9
          obtain ⟨v11, vs11, rfl, hl11⟩ := len_succ hl10
          obtain ⟨v12, vs12, rfl, hl12⟩ := len_succ hl11
          obtain ⟨v13, vs13, rfl, hl13⟩ := len_succ hl12
          obtain ⟨v14, vs14, rfl, hl14⟩ := len_succ hl13
          obtain ⟨v15, vs15, rfl, hl15⟩ := len_succ hl14
          obtain ⟨v16, vs16, rfl, hl16⟩ := len_succ hl15
          obtain ⟨v17, vs17, rfl, hl17⟩ := len_succ hl16
          obtain ⟨v18, vs18, rfl, hl18⟩ := len_succ hl17
          obtain ⟨v19, vs19, rfl, hl19⟩ := len_succ hl18
          obtain ⟨v20, vs20, rfl, hl20⟩ := len_succ hl19
          obtain ⟨v21, vs21, rfl, hl21⟩ := len_succ hl20
          obtain ⟨v22, vs22, rfl, hl22⟩ := len_succ hl21
          obtain ⟨v23, vs23, rfl, hl23⟩ := len_succ hl22
          obtain ⟨v24, vs24, rfl, hl24⟩ := len_succ hl23
          obtain ⟨v25, vs25, rfl, hl25⟩ := len_succ hl24
          obtain rfl := len_zero hl25
          have hB1 := (show Box gq (t + 1) b1 35 [[.int .i64 x1], encA .u8 d1, [.int .i64 x2], encA .u8 d2, [.slice a1 n1 c1], [.slice a2 n2 c2], [.bool q1]] [1, 8, 1, 8, 1, 1, 1] from hf _ (memI 0 rfl) (by kernel_rfl))
          have e23 := (show v23 = .bool true from hf _ (memI 29 rfl) (by kernel_rfl))
          subst e23
          refine WP.loadB (v := .bool q1) hB1 (by kernel_rfl) (by kernel_rfl) ?_
          refine WP.dn (Shown.ok (v := .bool q1) (by kernel_rfl) (Step.refl _ _) ?_)
          exact ⟨tv, tv, tv, tv, tv, tv, tv, tv, tv, tv, tv, tv, tv, tv, tv, tv, tv, tv, tv, tv, tv, tv, tv, tv, tv, tv, tv, tv, tv, tv, rfl, tv, tv⟩
         ·intro vs gq stq hl hf
          replace hl : vs.length = 26 := hl
          obtain ⟨v0, vs0, rfl, hl0⟩ := len_succ hl
          obtain ⟨v1, vs1, rfl, hl1⟩ := len_succ hl0
          obtain ⟨v2, vs2, rfl, hl2⟩ := len_succ hl1
          obtain ⟨v3, vs3, rfl, hl3⟩ := len_succ hl2
          obtain ⟨v4, vs4, rfl, hl4⟩ := len_succ hl3
          obtain ⟨v5, vs5, rfl, hl5⟩ := len_succ hl4
          obtain ⟨v6, vs6, rfl, hl6⟩ := len_succ hl5
          obtain ⟨v7, vs7, rfl, hl7⟩ := len_succ hl6
          obtain ⟨v8, vs8, rfl, hl8⟩ := len_succ hl7
          obtain ⟨v9, vs9, rfl, hl9⟩ := len_succ hl8
          obtain ⟨v10, vs10, rfl, hl10⟩ := len_succ hl9
          obtain ⟨v11, vs11, rfl, hl11⟩ := len_succ hl10
          obtain ⟨v12, vs12, rfl, hl12⟩ := len_succ hl11
          obtain ⟨v13, vs13, rfl, hl13⟩ := len_succ hl12
          obtain ⟨v14, vs14, rfl, hl14⟩ := len_succ hl13
          obtain ⟨v15, vs15, rfl, hl15⟩ := len_succ hl14
          obtain ⟨v16, vs16, rfl, hl16⟩ := len_succ hl15
          obtain ⟨v17, vs17, rfl, hl17⟩ := len_succ hl16
          obtain ⟨v18, vs18, rfl, hl18⟩ := len_succ hl17
          obtain ⟨v19, vs19, rfl, hl19⟩ := len_succ hl18
          obtain ⟨v20, vs20, rfl, hl20⟩ := len_succ hl19
          obtain ⟨v21, vs21, rfl, hl21⟩ := len_succ hl20
          obtain ⟨v22, vs22, rfl, hl22⟩ := len_succ hl21
          obtain ⟨v23, vs23, rfl, hl23⟩ := len_succ hl22
          obtain ⟨v24, vs24, rfl, hl24⟩ := len_succ hl23
          obtain ⟨v25, vs25, rfl, hl25⟩ := len_succ hl24
          obtain rfl := len_zero hl25
          have hB2 := (show Box gq (t + 2) b2 35 [[.int .i64 x3], encA .u8 d3, [.int .i64 x4], encA .u8 d4, [.slice a3 n3 c3], [.slice a4 n4 c4], [.bool q2]] [1, 8, 1, 8, 1, 1, 1] from hf _ (memI 3 rfl) (by kernel_rfl))
          have e23 := (show v23 = .bool true from hf _ (memI 29 rfl) (by kernel_rfl))
          subst e23
          refine WP.loadB (v := .bool q2) hB2 (by kernel_rfl) (by kernel_rfl) ?_
          refine WP.dn (Shown.ok (v := .bool q2) (by kernel_rfl) (Step.refl _ _) ?_)
          exact ⟨tv, tv, tv, tv, tv, tv, tv, tv, tv, tv, tv, tv, tv, tv, tv, tv, tv, tv, tv, tv, tv, tv, tv, tv, tv, tv, tv, tv, tv, tv, tv, rfl, tv⟩
        intro vs g11 st11 hl hf
        replace hl : vs.length = 26 := hl
        obtain ⟨v0, vs0, rfl, hl0⟩ := len_succ hl
        obtain ⟨v1, vs1, rfl, hl1⟩ := len_succ hl0
        obtain ⟨v2, vs2, rfl, hl2⟩ := len_succ hl1
        obtain ⟨v3, vs3, rfl, hl3⟩ := len_succ hl2
        obtain ⟨v4, vs4, rfl, hl4⟩ := len_succ hl3
        obtain ⟨v5, vs5, rfl, hl5⟩ := len_succ hl4
        obtain ⟨v6, vs6, rfl, hl6⟩ := len_succ hl5
        obtain ⟨v7, vs7, rfl, hl7⟩ := len_succ hl6
        obtain ⟨v8, vs8, rfl, hl8⟩ := len_succ hl7
        obtain ⟨v9, vs9, rfl, hl9⟩ := len_succ hl8
        obtain ⟨v10, vs10, rfl, hl10⟩ := len_succ hl9
        obtain ⟨v11, vs11, rfl, hl11⟩ := len_succ hl10
        obtain ⟨v12, vs12, rfl, hl12⟩ := len_succ hl11
        obtain ⟨v13, vs13, rfl, hl13⟩ := len_succ hl12
        obtain ⟨v14, vs14, rfl, hl14⟩ := len_succ hl13
        obtain ⟨v15, vs15, rfl, hl15⟩ := len_succ hl14
        obtain ⟨v16, vs16, rfl, hl16⟩ := len_succ hl15
        obtain ⟨v17, vs17, rfl, hl17⟩ := len_succ hl16
        obtain ⟨v18, vs18, rfl, hl18⟩ := len_succ hl17
        obtain ⟨v19, vs19, rfl, hl19⟩ := len_succ hl18
        obtain ⟨v20, vs20, rfl, hl20⟩ := len_succ hl19
        obtain ⟨v21, vs21, rfl, hl21⟩ := len_succ hl20
        obtain ⟨v22, vs22, rfl, hl22⟩ := len_succ hl21
        obtain ⟨v23, vs23, rfl, hl23⟩ := len_succ hl22
        obtain ⟨v24, vs24, rfl, hl24⟩ := len_succ hl23
        obtain ⟨v25, vs25, rfl, hl25⟩ := len_succ hl24
        obtain rfl := len_zero hl25
        have e23 := (show v23 = .bool true from hf _ (memI 29 rfl) (by kernel_rfl))
        subst e23
        have e24 := (show v24 = .bool q1 from hf _ (memI 30 rfl) (by kernel_rfl))
        subst e24
        have e25 := (show v25 = .bool q2 from hf _ (memI 31 rfl) (by kernel_rfl))
        subst e25
        replace tot := tot.trans st11.toNo.pure
        refine NX.post ?_
        exact ⟨(q1 == q2), ⟨by kernel_rfl, by kernel_rfl⟩, tot, hs⟩
       replace hs := of_if_f hs h12
       refine CP.drawL (by kernel_rfl) [1, 3, 5, 7, 9, 10, 12, 14, 16, 19, 20, 21, 22, 23, 24, 26, 28, 30, 31, 33, 35, 37, 38, 40] N.baizeref34_Same_0 [⟨none, [], [], fun l g => Box g (t + 1) b1 35 [[.int .i64 x1], encA .u8 d1, [.int .i64 x2], encA .u8 d2, [.slice a1 n1 c1], [.slice a2 n2 c2], [.bool q1]] [1, 8, 1, 8, 1, 1, 1]⟩, ⟨none, [], [], fun l g => RdS (Kd.int .u8) g 5 a1 n1 c1 l1⟩, ⟨none, [], [], fun l g => RdS (Kd.int .u8) g 5 a2 n2 c2 l2⟩, ⟨none, [], [], fun l g => Box g (t + 2) b2 35 [[.int .i64 x3], encA .u8 d3, [.int .i64 x4], encA .u8 d4, [.slice a3 n3 c3], [.slice a4 n4 c4], [.bool q2]] [1, 8, 1, 8, 1, 1, 1]⟩, ⟨none, [], [], fun l g => RdS (Kd.int .u8) g 5 a3 n3 c3 l3⟩, ⟨none, [], [], fun l g => RdS (Kd.int .u8) g 5 a4 n4 c4 l4⟩, ⟨some 0, [], [0], fun l g => l.getD 0 undef = .int .i64 x1⟩, ⟨some 1, [], [1], fun l g => l.getD 0 undef = .int .i64 x3⟩, ⟨some 2, [], [2], fun l g => l.getD 0 undef = .bool true⟩, ⟨some 3, [], [3], fun l g => l.getD 0 undef = AG [encA .u8 d1]⟩, ⟨some 4, [], [4], fun l g => l.getD 0 undef = AG [encA .u8 d3]⟩, ⟨some 5, [], [5], fun l g => l.getD 0 undef = .bool (d1.1 == d3.1)⟩, ⟨some 6, [], [6], fun l g => l.getD 0 undef = .bool true⟩, ⟨some 7, [], [7], fun l g => l.getD 0 undef = .int .i64 x2⟩, ⟨some 8, [], [8], fun l g => l.getD 0 undef = .int .i64 x4⟩, ⟨some 9, [], [9], fun l g => l.getD 0 undef = .bool true⟩, ⟨some 10, [], [10], fun l g => l.getD 0 undef = AG [[.int .i64 x1], encA .u8 d1, [.int .i64 x2], encA .u8 d2, [.slice a1 n1 c1], [.slice a2 n2 c2], [.bool q1]]⟩, ⟨some 11, [], [11], fun l g => l.getD 0 undef = AG [encA .u8 d7]⟩, ⟨some 12, [], [12], fun l g => l.getD 0 undef = AG [[.int .i64 x3], encA .u8 d3, [.int .i64 x4], encA .u8 d4, [.slice a3 n3 c3], [.slice a4 n4 c4], [.bool q2]]⟩, ⟨some 13, [], [13], fun l g => l.getD 0 undef = AG [encA .u8 d8]⟩, ⟨some 14, [], [14], fun l g => l.getD 0 undef = .bool (d7.1 == d8.1)⟩, ⟨some 15, [], [15], fun l g => l.getD 0 undef = .bool true⟩, ⟨some 16, [], [16], fun l g => l.getD 0 undef = .slice a1 n1 c1⟩, ⟨some 17, [], [17], fun l g => l.getD 0 undef = .slice a3 n3 c3⟩, ⟨some 18, [], [18], fun l g => l.getD 0 undef = .bool q6⟩, ⟨some 19, [], [19], fun l g => l.getD 0 undef = .bool true⟩, ⟨some 20, [], [20], fun l g => l.getD 0 undef = .slice a2 n2 c2⟩, ⟨some 21, [], [21], fun l g => l.getD 0 undef = .slice a4 n4 c4⟩, ⟨some 22, [], [22], fun l g => l.getD 0 undef = .bool q7⟩, ⟨some 23, [], [23], fun l g => l.getD 0 undef = .bool false⟩] [[], [], [], [], [], [], [], [], [], [], [], [], [], [], [], [], [], [], [], [], [], [], [], []] [] [0, 2] [4, 6, 8, 11, 13, 15, 17, 18, 25, 27, 29, 32, 34, 36, 39, 41, 42, 43, 44, 45, 46, 47] (by kernel_rfl) (by simp) (by simp) ⟨fun _ _ _ _ st h0 hl hj hB1 => (hB1.mono st (fun h => absurd (hl _ h) (by simp))), fun _ _ _ _ st h0 hl hj hR1 => (RdS.mono (e := 5) hR1 st h0), fun _ _ _ _ st h0 hl hj hR2 => (RdS.mono (e := 5) hR2 st h0), fun _ _ _ _ st h0 hl hj hB2 => (hB2.mono st (fun h => absurd (hl _ h) (by simp))), fun _ _ _ _ st h0 hl hj hR3 => (RdS.mono (e := 5) hR3 st h0), fun _ _ _ _ st h0 hl hj hR4 => (RdS.mono (e := 5) hR4 st h0), fun _ _ _ _ st h0 hl hj e0 => e0, fun _ _ _ _ st h0 hl hj e1 => e1, fun _ _ _ _ st h0 hl hj e2 => e2, fun _ _ _ _ st h0 hl hj e3 => e3, fun _ _ _ _ st h0 hl hj e4 => e4, fun _ _ _ _ st h0 hl hj e5 => e5, fun _ _ _ _ st h0 hl hj e6 => e6, fun _ _ _ _ st h0 hl hj e7 => e7, fun _ _ _ _ st h0 hl hj e8 => e8, fun _ _ _ _ st h0 hl hj e9 => e9, fun _ _ _ _ st h0 hl hj e10 => e10, fun _ _ _ _ st h0 hl hj e11 => e11, fun _ _ _ _ st h0 hl hj e12 => e12, fun _ _ _ _ st h0 hl hj e13 => e13, fun _ _ _ _ st h0 hl hj e14 => e14, fun _ _ _ _ st h0 hl hj e15 => e15, fun _ _ _ _ st h0 hl hj e16 => e16, fun _ _ _ _ st h0 hl hj e17 => e17, fun _ _ _ _ st h0 hl hj e18 => e18, fun _ _ _ _ st h0 hl hj e19 => e19, fun _ _ _ _ st h0 hl hj e20 => e20, fun _ _ _ _ st h0 hl hj e21 => e21, fun _ _ _ _ st h0 hl hj e22 => e22, fun _ _ _ _ st h0 hl hj e23 => e23, tv⟩ ⟨hB1, hR1, hR2, hB2, hR3, hR4, tv, tv, tv, tv, tv, tv, tv, tv, tv, tv, tv, tv, tv, tv, tv, tv, tv, tv, tv, tv, tv, tv, tv, tv, tv⟩ (by kernel_rfl) (fun vs => by kernel_rfl) ?_ ?_ ?_
       ·intro j hj
        have hq : j = 0 ∨ j = 1 ∨ j = 2 ∨ j = 3 ∨ j = 4 ∨ j = 5 ∨ j = 6 ∨ j = 7 ∨ j = 8 ∨ j = 9 ∨ j = 10 ∨ j = 11 ∨ j = 12 ∨ j = 13 ∨ j = 14 ∨ j = 15 ∨ j = 16 ∨ j = 17 ∨ j = 18 ∨ j = 19 ∨ j = 20 ∨ j = 21 := by have h : j < 22 := hj; omega
        rcases hq with rfl | rfl | rfl | rfl | rfl | rfl | rfl | rfl | rfl | rfl | rfl | rfl | rfl | rfl | rfl | rfl | rfl | rfl | rfl | rfl | rfl | rfl
        ·intro vs gq stq hl hf
         obtain ⟨v0, v1, v2, v3, v4, v5, v6, v7, v8, v9, v10, v11, v12, v13, v14, v15, v16, v17, v18, v19, v20, v21, v22, v23, rfl⟩ := len_k24 hl
         have e0 := (show v0 = .int .i64 x1 from hf _ (memI 6 rfl) (by kernel_rfl))
         subst e0
         have e1 := (show v1 = .int .i64 x3 from hf _ (memI 7 rfl) (by kernel_rfl))
         subst e1
         show Option.isSome _ = true
         kernel_rfl
        ·intro vs gq stq hl hf
         obtain ⟨v0, v1, v2, v3, v4, v5, v6, v7, v8, v9, v10, v11, v12, v13, v14, v15, v16, v17, v18, v19, v20, v21, v22, v23, rfl⟩ := len_k24 hl
         have e2 := (show v2 = .bool true from hf _ (memI 8 rfl) (by kernel_rfl))
         subst e2
         show Option.isSome _ = true
         kernel_rfl
        ·intro vs gq stq hl hf
         obtain ⟨v0, v1, v2, v3, v4, v5, v6, v7, v8, v9, v10, v11, v12, v13, v14, v15, v16, v17, v18, v19, v20, v21, v22, v23, rfl⟩ := len_k24 hl
         have e2 := (show v2 = .bool true from hf _ (memI 8 rfl) (by kernel_rfl))
         subst e2
         show Option.isSome _ = true
         kernel_rfl
        ·intro vs gq stq hl hf
         obtain ⟨v0, v1, v2, v3, v4, v5, v6, v7, v8, v9, v10, v11, v12, v13, v14, v15, v16, v17, v18, v19, v20, v21, v22, v23, rfl⟩ := len_k24 hl
         have e2 := (show v2 = .bool true from hf _ (memI 8 rfl) (by kernel_rfl))
         subst e2
         have e5 := (show v5 = .bool (d1.1 == d3.1) from hf _ (memI 11 rfl) (by kernel_rfl))
         subst e5
         show Option.isSome _ = true
         kernel_rfl
        ·intro vs gq stq hl hf
         obtain ⟨v0, v1, v2, v3, v4, v5, v6, v7, v8, v9, v10, v11, v12, v13, v14, v15, v16, v17, v18, v19, v20, v21, v22, v23, rfl⟩ := len_k24 hl
         have e6 := (show v6 = .bool true from hf _ (memI 12 rfl) (by kernel_rfl))
         subst e6
         show Option.isSome _ = true
         kernel_rfl
        ·intro vs gq stq hl hf
         obtain ⟨v0, v1, v2, v3, v4, v5, v6, v7, v8, v9, v10, v11, v12, v13, v14, v15, v16, v17, v18, v19, v20, v21, v22, v23, rfl⟩ := len_k24 hl
         have e6 := (show v6 = .bool true from hf _ (memI 12 rfl) (by kernel_rfl))
         subst e6
         show Option.isSome _ = true
         kernel_rfl
        ·intro vs gq stq hl hf
         obtain ⟨v0, v1, v2, v3, v4, v5, v6, v7, v8, v9, v10, v11, v12, v13, v14, v15, v16, v17, v18, v19, v20, v21, v22, v23, rfl⟩ := len_k24 hl
         have e6 := (show v6 = .bool true from hf _ (memI 12 rfl) (by kernel_rfl))
         subst e6
         have e7 := (show v7 = .int .i64 x2 from hf _ (memI 13 rfl) (by kernel_rfl))
         subst e7
         have e8 := (show v8 = .int .i64 x4 from hf _ (memI 14 rfl) (by kernel_rfl))
         subst e8
         show Option.isSome _ = true
         kernel_rfl
        ·intro vs gq stq hl hf
         obtain ⟨v0, v1, v2, v3, v4, v5, v6, v7, v8, v9, v10, v11, v12, v13, v14, v15, v16, v17, v18, v19, v20, v21, v22, v23, rfl⟩ := len_k24 hl
         have e6 := (show v6 = .bool true from hf _ (memI 12 rfl) (by kernel_rfl))
         subst e6
         have e7 := (show v7 = .int .i64 x2 from hf _ (memI 13 rfl) (by kernel_rfl))
         subst e7
         have e8 := (show v8 = .int .i64 x4 from hf _ (memI 14 rfl) (by kernel_rfl))
         subst e8
         show Option.isSome _ = true
         kernel_rfl
        ·intro vs gq stq hl hf
         obtain ⟨v0, v1, v2, v3, v4, v5, v6, v7, v8, v9, v10, v11, v12, v13, v14, v15, v16, v17, v18, v19, v20, v21, v22, v23, rfl⟩ := len_k24 hl
         have e9 := (show v9 = .bool true from hf _ (memI 15 rfl) (by kernel_rfl))
         subst e9
         have e14 := (show v14 = .bool (d7.1 == d8.1) from hf _ (memI 20 rfl) (by kernel_rfl))
         subst e14
         show Option.isSome _ = true
         kernel_rfl
        ·intro vs gq stq hl hf
         obtain ⟨v0, v1, v2, v3, v4, v5, v6, v7, v8, v9, v10, v11, v12, v13, v14, v15, v16, v17, v18, v19, v20, v21, v22, v23, rfl⟩ := len_k24 hl
         have e15 := (show v15 = .bool true from hf _ (memI 21 rfl) (by kernel_rfl))
         subst e15
         show Option.isSome _ = true
         kernel_rfl
        ·intro vs gq stq hl hf
         obtain ⟨v0, v1, v2, v3, v4, v5, v6, v7, v8, v9, v10, v11, v12, v13, v14, v15, v16, v17, v18, v19, v20, v21, v22, v23, rfl⟩ := len_k24 hl
         have e15 := (show v15 = .bool true from hf _ (memI 21 rfl) (by kernel_rfl))
         subst e15
         show Option.isSome _ = true
         kernel_rfl
        ·intro vs gq stq hl hf
         obtain ⟨v0, v1, v2, v3, v4, v5, v6, v7, v8, v9, v10, v11, v12, v13, v14, v15, v16, v17, v18, v19, v20, v21, v22, v23, rfl⟩ := len_k24 hl
         have e15 := (show v15 = .bool true from hf _ (memI 21 rfl) (by kernel_rfl))
         subst e15
         have e18 := (show v18 = .bool q6 from hf _ (memI 24 rfl) (by kernel_rfl))
         subst e18
         show Option.isSome _ = true
         kernel_rfl
        ·intro vs gq stq hl hf
         obtain ⟨v0, v1, v2, v3, v4, v5, v6, v7, v8, v9, v10, v11, v12, v13, v14, v15, v16, v17, v18, v19, v20, v21, v22, v23, rfl⟩ := len_k24 hl
         have e19 := (show v19 = .bool true from hf _ (memI 25 rfl) (by kernel_rfl))
         subst e19
         show Option.isSome _ = true
         kernel_rfl
        ·intro vs gq stq hl hf
         obtain ⟨v0, v1, v2, v3, v4, v5, v6, v7, v8, v9, v10, v11, v12, v13, v14, v15, v16, v17, v18, v19, v20, v21, v22, v23, rfl⟩ := len_k24 hl
         have e19 := (show v19 = .bool true from hf _ (memI 25 rfl) (by kernel_rfl))
         subst e19
         show Option.isSome _ = true
         kernel_rfl
        ·intro vs gq stq hl hf
         obtain ⟨v0, v1, v2, v3, v4, v5, v6, v7, v8, v9, v10, v11, v12, v13, v14, v15, v16, v17, v18, v19, v20, v21, v22, v23, rfl⟩ := len_k24 hl
         have e19 := (show v19 = .bool true from hf _ (memI 25 rfl) (by kernel_rfl))
         subst e19
         have e22 := (show v22 = .bool q7 from hf _ (memI 28 rfl) (by kernel_rfl))
         subst e22
         show Option.isSome _ = true
         kernel_rfl
        ·intro vs gq stq hl hf
         obtain ⟨v0, v1, v2, v3, v4, v5, v6, v7, v8, v9, v10, v11, v12, v13, v14, v15, v16, v17, v18, v19, v20, v21, v22, v23, rfl⟩ := len_k24 hl
         have e23 := (show v23 = .bool false from hf _ (memI 29 rfl) (by kernel_rfl))
         subst e23
         show Option.isSome _ = true
         kernel_rfl
        ·intro vs gq stq hl hf
         obtain ⟨v0, v1, v2, v3, v4, v5, v6, v7, v8, v9, v10, v11, v12, v13, v14, v15, v16, v17, v18, v19, v20, v21, v22, v23, rfl⟩ := len_k24 hl
         have e23 := (show v23 = .bool false from hf _ (memI 29 rfl) (by kernel_rfl))
         subst e23
         show Option.isSome _ = true
         kernel_rfl
        ·intro vs gq stq hl hf
         obtain ⟨v0, v1, v2, v3, v4, v5, v6, v7, v8, v9, v10, v11, v12, v13, v14, v15, v16, v17, v18, v19, v20, v21, v22, v23, rfl⟩ := len_k24 hl
         have e23 := (show v23 = .bool false from hf _ (memI 29 rfl) (by kernel_rfl))
         subst e23
         show Option.isSome _ = true
         kernel_rfl
        ·intro vs gq stq hl hf
         obtain ⟨v0, v1, v2, v3, v4, v5, v6, v7, v8, v9, v10, v11, v12, v13, v14, v15, v16, v17, v18, v19, v20, v21, v22, v23, rfl⟩ := len_k24 hl
         have e23 := (show v23 = .bool false from hf _ (memI 29 rfl) (by kernel_rfl))
         subst e23
         show Option.isSome _ = true
         kernel_rfl
        ·intro vs gq stq hl hf
         obtain ⟨v0, v1, v2, v3, v4, v5, v6, v7, v8, v9, v10, v11, v12, v13, v14, v15, v16, v17, v18, v19, v20, v21, v22, v23, rfl⟩ := len_k24 hl
         have e23 := (show v23 = .bool false from hf _ (memI 29 rfl) (by kernel_rfl))
         subst e23
         show Option.isSome _ = true
         kernel_rfl
        ·intro vs gq stq hl hf
         obtain ⟨v0, v1, v2, v3, v4, v5, v6, v7, v8, v9, v10, v11, v12, v13, v14, v15, v16, v17, v18, v19, v20, v21, v22, v23, rfl⟩ := len_k24 hl
         have e23 := (show v23 = .bool false from hf _ (memI 29 rfl) (by kernel_rfl))
         subst e23
         show Option.isSome _ = true
         kernel_rfl
        ·intro vs gq stq hl hf
         obtain ⟨v0, v1, v2, v3, v4, v5, v6, v7, v8, v9, v10, v11, v12, v13, v14, v15, v16, v17, v18, v19, v20, v21, v22, v23, rfl⟩ := len_k24 hl
         have e23 := (show v23 = .bool false from hf _ (memI 29 rfl) (by kernel_rfl))
         subst e23
         show Option.isSome _ = true
         kernel_rfl
       ·intro j hj
        have hq : j = 0 ∨ j = 1 ∨ j = 2 ∨ j = 3 ∨ j = 4 ∨ j = 5 ∨ j = 6 ∨ j = 7 ∨ j = 8 ∨ j = 9 ∨ j = 10 ∨ j = 11 ∨ j = 12 ∨ j = 13 ∨ j = 14 ∨ j = 15 ∨ j = 16 ∨ j = 17 ∨ j = 18 ∨ j = 19 ∨ j = 20 ∨ j = 21 ∨ j = 22 ∨ j = 23 := by have h : j < 24 := hj; omega
        rcases hq with rfl | rfl | rfl | rfl | rfl | rfl | rfl | rfl | rfl | rfl | rfl | rfl | rfl | rfl | rfl | rfl | rfl | rfl | rfl | rfl | rfl | rfl | rfl | rfl
        ·intro vs gq stq hl hf
         obtain ⟨v0, v1, v2, v3, v4, v5, v6, v7, v8, v9, v10, v11, v12, v13, v14, v15, v16, v17, v18, v19, v20, v21, v22, v23, rfl⟩ := len_k24 hl
         have hB1 := (show Box gq (t + 1) b1 35 [[.int .i64 x1], encA .u8 d1, [.int .i64 x2], encA .u8 d2, [.slice a1 n1 c1], [.slice a2 n2 c2], [.bool q1]] [1, 8, 1, 8, 1, 1, 1] from hf _ (memI 0 rfl) (by kernel_rfl))
         refine WP.loadB (v := .int .i64 x1) hB1 (by kernel_rfl) (by kernel_rfl) ?_
         refine WP.dn (Shown.ok (v := .int .i64 x1) (by kernel_rfl) (Step.refl _ _) ?_)
         exact ⟨tv, tv, tv, tv, tv, tv, rfl, tv, tv, tv, tv, tv, tv, tv, tv, tv, tv, tv, tv, tv, tv, tv, tv, tv, tv, tv, tv, tv, tv, tv, tv⟩
        ·intro vs gq stq hl hf
         obtain ⟨v0, v1, v2, v3, v4, v5, v6, v7, v8, v9, v10, v11, v12, v13, v14, v15, v16, v17, v18, v19, v20, v21, v22, v23, rfl⟩ := len_k24 hl
         have hB2 := (show Box gq (t + 2) b2 35 [[.int .i64 x3], encA .u8 d3, [.int .i64 x4], encA .u8 d4, [.slice a3 n3 c3], [.slice a4 n4 c4], [.bool q2]] [1, 8, 1, 8, 1, 1, 1] from hf _ (memI 3 rfl) (by kernel_rfl))
         refine WP.loadB (v := .int .i64 x3) hB2 (by kernel_rfl) (by kernel_rfl) ?_
         refine WP.dn (Shown.ok (v := .int .i64 x3) (by kernel_rfl) (Step.refl _ _) ?_)
         exact ⟨tv, tv, tv, tv, tv, tv, tv, rfl, tv, tv, tv, tv, tv, tv, tv, tv, tv, tv, tv, tv, tv, tv, tv, tv, tv, tv, tv, tv, tv, tv, tv⟩
        ·intro vs gq stq hl hf
         obtain ⟨v0, v1, v2, v3, v4, v5, v6, v7, v8, v9, v10, v11, v12, v13, v14, v15, v16, v17, v18, v19, v20, v21, v22, v23, rfl⟩ := len_k24 hl
         have e0 := (show v0 = .int .i64 x1 from hf _ (memI 6 rfl) (by kernel_rfl))
         subst e0
         have e1 := (show v1 = .int .i64 x3 from hf _ (memI 7 rfl) (by kernel_rfl))
         subst e1
         refine WP.stl 1 ?_
         refine WP.dn (Shown.ok (v := .bool (x1 == x3)) (by kernel_rfl) (Step.refl _ _) ?_)
         exact ⟨tv, tv, tv, tv, tv, tv, tv, tv, congrArg Value.bool h7, tv, tv, tv, tv, tv, tv, tv, tv, tv, tv, tv, tv, tv, tv, tv, tv, tv, tv, tv, tv, tv, tv⟩
        ·intro vs gq stq hl hf
         obtain ⟨v0, v1, v2, v3, v4, v5, v6, v7, v8, v9, v10, v11, v12, v13, v14, v15, v16, v17, v18, v19, v20, v21, v22, v23, rfl⟩ := len_k24 hl
         have hB1 := (show Box gq (t + 1) b1 35 [[.int .i64 x1], encA .u8 d1, [.int .i64 x2], encA .u8 d2, [.slice a1 n1 c1], [.slice a2 n2 c2], [.bool q1]] [1, 8, 1, 8, 1, 1, 1] from hf _ (memI 0 rfl) (by kernel_rfl))
         have e2 := (show v2 = .bool true from hf _ (memI 8 rfl) (by kernel_rfl))
         subst e2
         refine WP.loadB (v := AG [encA .u8 d1]) hB1 (by kernel_rfl) (by kernel_rfl) ?_
         refine WP.dn (Shown.ok (v := AG [encA .u8 d1]) (by kernel_rfl) (Step.refl _ _) ?_)
         exact ⟨tv, tv, tv, tv, tv, tv, tv, tv, tv, rfl, tv, tv, tv, tv, tv, tv, tv, tv, tv, tv, tv, tv, tv, tv, tv, tv, tv, tv, tv, tv, tv⟩
        ·intro vs gq stq hl hf
         obtain ⟨v0, v1, v2, v3, v4, v5, v6, v7, v8, v9, v10, v11, v12, v13, v14, v15, v16, v17, v18, v19, v20, v21, v22, v23, rfl⟩ := len_k24 hl
         have hB2 := (show Box gq (t + 2) b2 35 [[.int .i64 x3], encA .u8 d3, [.int .i64 x4], encA .u8 d4, [.slice a3 n3 c3], [.slice a4 n4 c4], [.bool q2]] [1, 8, 1, 8, 1, 1, 1] from hf _ (memI 3 rfl) (by kernel_rfl))
         have e2 := (show v2 = .bool true from hf _ (memI 8 rfl) (by kernel_rfl))
         subst e2
         refine WP.loadB (v := AG [encA .u8 d3]) hB2 (by kernel_rfl) (by kernel_rfl) ?_
         refine WP.dn (Shown.ok (v := AG [encA .u8 d3]) (by kernel_rfl) (Step.refl _ _) ?_)
         exact ⟨tv, tv, tv, tv, tv, tv, tv, tv, tv, tv, rfl, tv, tv, tv, tv, tv, tv, tv, tv, tv, tv, tv, tv, tv, tv, tv, tv, tv, tv, tv, tv⟩
        ·intro vs gq stq hl hf
         obtain ⟨v0, v1, v2, v3, v4, v5, v6, v7, v8, v9, v10, v11, v12, v13, v14, v15, v16, v17, v18, v19, v20, v21, v22, v23, rfl⟩ := len_k24 hl
         have e2 := (show v2 = .bool true from hf _ (memI 8 rfl) (by kernel_rfl))
         subst e2
         have e3 := (show v3 = AG [encA .u8 d1] from hf _ (memI 9 rfl) (by kernel_rfl))
         subst e3
         have e4 := (show v4 = AG [encA .u8 d3] from hf _ (memI 10 rfl) (by kernel_rfl))
         subst e4
         refine WP.eqV (by kernel_rfl) (by kernel_rfl) (EqV.arr (d := 9998) (t := 32) (e := 5) (m := 8) (k := .u8) (x := d1) (y := d3) (by kernel_rfl) (by kernel_rfl)) ?_
         refine WP.dn (Shown.ok (v := .bool (d1.1 == d3.1)) (by kernel_rfl) (Step.refl _ _) ?_)
         exact ⟨tv, tv, tv, tv, tv, tv, tv, tv, tv, tv, tv, rfl, tv, tv, tv, tv, tv, tv, tv, tv, tv, tv, tv, tv, tv, tv, tv, tv, tv, tv, tv⟩
        ·intro vs gq stq hl hf
         obtain ⟨v0, v1, v2, v3, v4, v5, v6, v7, v8, v9, v10, v11, v12, v13, v14, v15, v16, v17, v18, v19, v20, v21, v22, v23, rfl⟩ := len_k24 hl
         have e2 := (show v2 = .bool true from hf _ (memI 8 rfl) (by kernel_rfl))
         subst e2
         have e5 := (show v5 = .bool (d1.1 == d3.1) from hf _ (memI 11 rfl) (by kernel_rfl))
         subst e5
         refine WP.stl 1 ?_
         refine WP.dn (Shown.ok (v := .bool (d1.1 == d3.1)) (by kernel_rfl) (Step.refl _ _) ?_)
         exact ⟨tv, tv, tv, tv, tv, tv, tv, tv, tv, tv, tv, tv, congrArg Value.bool h8, tv, tv, tv, tv, tv, tv, tv, tv, tv, tv, tv, tv, tv, tv, tv, tv, tv, tv⟩
        ·intro vs gq stq hl hf
         obtain ⟨v0, v1, v2, v3, v4, v5, v6, v7, v8, v9, v10, v11, v12, v13, v14, v15, v16, v17, v18, v19, v20, v21, v22, v23, rfl⟩ := len_k24 hl
         have hB1 := (show Box gq (t + 1) b1 35 [[.int .i64 x1], encA .u8 d1, [.int .i64 x2], encA .u8 d2, [.slice a1 n1 c1], [.slice a2 n2 c2], [.bool q1]] [1, 8, 1, 8, 1, 1, 1] from hf _ (memI 0 rfl) (by kernel_rfl))
         have e6 := (show v6 = .bool true from hf _ (memI 12 rfl) (by kernel_rfl))
         subst e6
         refine WP.loadB (v := .int .i64 x2) hB1 (by kernel_rfl) (by kernel_rfl) ?_
         refine WP.dn (Shown.ok (v := .int .i64 x2) (by kernel_rfl) (Step.refl _ _) ?_)
         exact ⟨tv, tv, tv, tv, tv, tv, tv, tv, tv, tv, tv, tv, tv, rfl, tv, tv, tv, tv, tv, tv, tv, tv, tv, tv, tv, tv, tv, tv, tv, tv, tv⟩
        ·intro vs gq stq hl hf
         obtain ⟨v0, v1, v2, v3, v4, v5, v6, v7, v8, v9, v10, v11, v12, v13, v14, v15, v16, v17, v18, v19, v20, v21, v22, v23, rfl⟩ := len_k24 hl
         have hB2 := (show Box gq (t + 2) b2 35 [[.int .i64 x3], encA .u8 d3, [.int .i64 x4], encA .u8 d4, [.slice a3 n3 c3], [.slice a4 n4 c4], [.bool q2]] [1, 8, 1, 8, 1, 1, 1] from hf _ (memI 3 rfl) (by kernel_rfl))
         have e6 := (show v6 = .bool true from hf _ (memI 12 rfl) (by kernel_rfl))
         subst e6
         refine WP.loadB (v := .int .i64 x4) hB2 (by kernel_rfl) (by kernel_rfl) ?_
         refine WP.dn (Shown.ok (v := .int .i64 x4) (by kernel_rfl) (Step.refl _ _) ?_)
         exact ⟨tv, tv, tv, tv, tv, tv, tv, tv, tv, tv, tv, tv, tv, tv, rfl, tv, tv, tv, tv, tv, tv, tv, tv, tv, tv, tv, tv, tv, tv, tv, tv⟩
        ·intro vs gq stq hl hf
         obtain ⟨v0, v1, v2, v3, v4, v5, v6, v7, v8, v9, v10, v11, v12, v13, v14, v15, v16, v17, v18, v19, v20, v21, v22, v23, rfl⟩ := len_k24 hl
         have e6 := (show v6 = .bool true from hf _ (memI 12 rfl) (by kernel_rfl))
         subst e6
         have e7 := (show v7 = .int .i64 x2 from hf _ (memI 13 rfl) (by kernel_rfl))
         subst e7
         have e8 := (show v8 = .int .i64 x4 from hf _ (memI 14 rfl) (by kernel_rfl))
         subst e8
         refine WP.stl 1 ?_
         refine WP.dn (Shown.ok (v := .bool (x2 == x4)) (by kernel_rfl) (Step.refl _ _) ?_)
         exact ⟨tv, tv, tv, tv, tv, tv, tv, tv, tv, tv, tv, tv, tv, tv, tv, congrArg Value.bool h9, tv, tv, tv, tv, tv, tv, tv, tv, tv, tv, tv, tv, tv, tv, tv⟩
        ·intro vs gq stq hl hf
         obtain ⟨v0, v1, v2, v3, v4, v5, v6, v7, v8, v9, v10, v11, v12, v13, v14, v15, v16, v17, v18, v19, v20, v21, v22, v23, rfl⟩ := len_k24 hl
         have hB1 := (show Box gq (t + 1) b1 35 [[.int .i64 x1], encA .u8 d1, [.int .i64 x2], encA .u8 d2, [.slice a1 n1 c1], [.slice a2 n2 c2], [.bool q1]] [1, 8, 1, 8, 1, 1, 1] from hf _ (memI 0 rfl) (by kernel_rfl))
         have e9 := (show v9 = .bool true from hf _ (memI 15 rfl) (by kernel_rfl))
         subst e9
         refine WP.loadB (v := AG [[.int .i64 x1], encA .u8 d1, [.int .i64 x2], encA .u8 d2, [.slice a1 n1 c1], [.slice a2 n2 c2], [.bool q1]]) hB1 (by kernel_rfl) (by kernel_rfl) ?_
         refine WP.dn (Shown.ok (v := AG [[.int .i64 x1], encA .u8 d1, [.int .i64 x2], encA .u8 d2, [.slice a1 n1 c1], [.slice a2 n2 c2], [.bool q1]]) (by kernel_rfl) (Step.refl _ _) ?_)
         exact ⟨tv, tv, tv, tv, tv, tv, tv, tv, tv, tv, tv, tv, tv, tv, tv, tv, rfl, tv, tv, tv, tv, tv, tv, tv, tv, tv, tv, tv, tv, tv, tv⟩
        ·intro vs gq stq hl hf
         obtain ⟨v0, v1, v2, v3, v4, v5, v6, v7, v8, v9, v10, v11, v12, v13, v14, v15, v16, v17, v18, v19, v20, v21, v22, v23, rfl⟩ := len_k24 hl
         have hR1 := (show RdS (Kd.int .u8) gq 5 a1 n1 c1 l1 from hf _ (memI 1 rfl) (by kernel_rfl))
         have hR2 := (show RdS (Kd.int .u8) gq 5 a2 n2 c2 l2 from hf _ (memI 2 rfl) (by kernel_rfl))
         have e9 := (show v9 = .bool true from hf _ (memI 15 rfl) (by kernel_rfl))
         subst e9
         have e10 := (show v10 = AG [[.int .i64 x1], encA .u8 d1, [.int .i64 x2], encA .u8 d2, [.slice a1 n1 c1], [.slice a2 n2 c2], [.bool q1]] from hf _ (memI 16 rfl) (by kernel_rfl))
         subst e10
         have hcal5 := P.baizeref34_At gq x1 d1 x2 d2 l1 l2 q1 a1 n1 c1 a2 n2 c2 hR1 hR2 d7 hk5
         refine WP.callC hcal5 (by kernel_rfl) ?_
         rintro _ g7 st7 rfl
         refine WP.dn (Shown.o (v := AG [encA .u8 d7]) st7.pure ?_)
         exact ⟨tv, tv, tv, tv, tv, tv, tv, tv, tv, tv, tv, tv, tv, tv, tv, tv, tv, rfl, tv, tv, tv, tv, tv, tv, tv, tv, tv, tv, tv, tv, tv⟩
        ·intro vs gq stq hl hf
         obtain ⟨v0, v1, v2, v3, v4, v5, v6, v7, v8, v9, v10, v11, v12, v13, v14, v15, v16, v17, v18, v19, v20, v21, v22, v23, rfl⟩ := len_k24 hl
         have hB2 := (show Box gq (t + 2) b2 35 [[.int .i64 x3], encA .u8 d3, [.int .i64 x4], encA .u8 d4, [.slice a3 n3 c3], [.slice a4 n4 c4], [.bool q2]] [1, 8, 1, 8, 1, 1, 1] from hf _ (memI 3 rfl) (by kernel_rfl))
         have e9 := (show v9 = .bool true from hf _ (memI 15 rfl) (by kernel_rfl))
         subst e9
         refine WP.loadB (v := AG [[.int .i64 x3], encA .u8 d3, [.int .i64 x4], encA .u8 d4, [.slice a3 n3 c3], [.slice a4 n4 c4], [.bool q2]]) hB2 (by kernel_rfl) (by kernel_rfl) ?_
         refine WP.dn (Shown.ok (v := AG [[.int .i64 x3], encA .u8 d3, [.int .i64 x4], encA .u8 d4, [.slice a3 n3 c3], [.slice a4 n4 c4], [.bool q2]]) (by kernel_rfl) (Step.refl _ _) ?_)
         exact ⟨tv, tv, tv, tv, tv, tv, tv, tv, tv, tv, tv, tv, tv, tv, tv, tv, tv, tv, rfl, tv, tv, tv, tv, tv, tv, tv, tv, tv, tv, tv, tv⟩
        ·intro vs gq stq hl hf
         obtain ⟨v0, v1, v2, v3, v4, v5, v6, v7, v8, v9, v10, v11, v12, v13, v14, v15, v16, v17, v18, v19, v20, v21, v22, v23, rfl⟩ := len_k24 hl
         have hR3 := (show RdS (Kd.int .u8) gq 5 a3 n3 c3 l3 from hf _ (memI 4 rfl) (by kernel_rfl))
         have hR4 := (show RdS (Kd.int .u8) gq 5 a4 n4 c4 l4 from hf _ (memI 5 rfl) (by kernel_rfl))
         have e9 := (show v9 = .bool true from hf _ (memI 15 rfl) (by kernel_rfl))
         subst e9
         have e12 := (show v12 = AG [[.int .i64 x3], encA .u8 d3, [.int .i64 x4], encA .u8 d4, [.slice a3 n3 c3], [.slice a4 n4 c4], [.bool q2]] from hf _ (memI 18 rfl) (by kernel_rfl))
         subst e12
         have hcal6 := P.baizeref34_At gq x3 d3 x4 d4 l3 l4 q2 a3 n3 c3 a4 n4 c4 hR3 hR4 d8 hk6
         refine WP.callC hcal6 (by kernel_rfl) ?_
         rintro _ g8 st8 rfl
         refine WP.dn (Shown.o (v := AG [encA .u8 d8]) st8.pure ?_)
         exact ⟨tv, tv, tv, tv, tv, tv, tv, tv, tv, tv, tv, tv, tv, tv, tv, tv, tv, tv, tv, rfl, tv, tv, tv, tv, tv, tv, tv, tv, tv, tv, tv⟩
        ·intro vs gq stq hl hf
         obtain ⟨v0, v1, v2, v3, v4, v5, v6, v7, v8, v9, v10, v11, v12, v13, v14, v15, v16, v17, v18, v19, v20, v21, v22, v23, rfl⟩ := len_k24 hl
         have e9 := (show v9 = .bool true from hf _ (memI 15 rfl) (by kernel_rfl))
         subst e9
         have e11 := (show v11 = AG [encA .u8 d7] from hf _ (memI 17 rfl) (by kernel_rfl))
         subst e11
         have e13 := (show v13 = AG [encA .u8 d8] from hf _ (memI 19 rfl) (by kernel_rfl))
         subst e13
         refine WP.eqV (by kernel_rfl) (by kernel_rfl) (EqV.arr (d := 9998) (t := 32) (e := 5) (m := 8) (k := .u8) (x := d7) (y := d8) (by kernel_rfl) (by kernel_rfl)) ?_
         refine WP.dn (Shown.ok (v := .bool (d7.1 == d8.1)) (by kernel_rfl) (Step.refl _ _) ?_)
         exact ⟨tv, tv, tv, tv, tv, tv, tv, tv, tv, tv, tv, tv, tv, tv, tv, tv, tv, tv, tv, tv, rfl, tv, tv, tv, tv, tv, tv, tv, tv, tv, tv⟩
        ·intro vs gq stq hl hf
         obtain ⟨v0, v1, v2, v3, v4, v5, v6, v7, v8, v9, v10, v11, v12, v13, v14, v15, v16, v17, v18, v19, v20, v21, v22, v23, rfl⟩ := len_k24 hl
         have e9 := (show v9 = .bool true from hf _ (memI 15 rfl) (by kernel_rfl))
         subst e9
         have e14 := (show v14 = .bool (d7.1 == d8.1) from hf _ (memI 20 rfl) (by kernel_rfl))
         subst e14
         refine WP.stl 1 ?_
         refine WP.dn (Shown.ok (v := .bool (d7.1 == d8.1)) (by kernel_rfl) (Step.refl _ _) ?_)
         exact ⟨tv, tv, tv, tv, tv, tv, tv, tv, tv, tv, tv, tv, tv, tv, tv, tv, tv, tv, tv, tv, tv, congrArg Value.bool h10, tv, tv, tv, tv, tv, tv, tv, tv, tv⟩
        ·intro vs gq stq hl hf
         obtain ⟨v0, v1, v2, v3, v4, v5, v6, v7, v8, v9, v10, v11, v12, v13, v14, v15, v16, v17, v18, v19, v20, v21, v22, v23, rfl⟩ := len_k24 hl
         have hB1 := (show Box gq (t + 1) b1 35 [[.int .i64 x1], encA .u8 d1, [.int .i64 x2], encA .u8 d2, [.slice a1 n1 c1], [.slice a2 n2 c2], [.bool q1]] [1, 8, 1, 8, 1, 1, 1] from hf _ (memI 0 rfl) (by kernel_rfl))
         have e15 := (show v15 = .bool true from hf _ (memI 21 rfl) (by kernel_rfl))
         subst e15
         refine WP.loadB (v := .slice a1 n1 c1) hB1 (by kernel_rfl) (by kernel_rfl) ?_
         refine WP.dn (Shown.ok (v := .slice a1 n1 c1) (by kernel_rfl) (Step.refl _ _) ?_)
         exact ⟨tv, tv, tv, tv, tv, tv, tv, tv, tv, tv, tv, tv, tv, tv, tv, tv, tv, tv, tv, tv, tv, tv, rfl, tv, tv, tv, tv, tv, tv, tv, tv⟩
        ·intro vs gq stq hl hf
         obtain ⟨v0, v1, v2, v3, v4, v5, v6, v7, v8, v9, v10, v11, v12, v13, v14, v15, v16, v17, v18, v19, v20, v21, v22, v23, rfl⟩ := len_k24 hl
         have hB2 := (show Box gq (t + 2) b2 35 [[.int .i64 x3], encA .u8 d3, [.int .i64 x4], encA .u8 d4, [.slice a3 n3 c3], [.slice a4 n4 c4], [.bool q2]] [1, 8, 1, 8, 1, 1, 1] from hf _ (memI 3 rfl) (by kernel_rfl))
         have e15 := (show v15 = .bool true from hf _ (memI 21 rfl) (by kernel_rfl))
         subst e15
         refine WP.loadB (v := .slice a3 n3 c3) hB2 (by kernel_rfl) (by kernel_rfl) ?_
         refine WP.dn (Shown.ok (v := .slice a3 n3 c3) (by kernel_rfl) (Step.refl _ _) ?_)
         exact ⟨tv, tv, tv, tv, tv, tv, tv, tv, tv, tv, tv, tv, tv, tv, tv, tv, tv, tv, tv, tv, tv, tv, tv, rfl, tv, tv, tv, tv, tv, tv, tv⟩
        ·intro vs gq stq hl hf
         obtain ⟨v0, v1, v2, v3, v4, v5, v6, v7, v8, v9, v10, v11, v12, v13, v14, v15, v16, v17, v18, v19, v20, v21, v22, v23, rfl⟩ := len_k24 hl
         have hR1 := (show RdS (Kd.int .u8) gq 5 a1 n1 c1 l1 from hf _ (memI 1 rfl) (by kernel_rfl))
         have hR3 := (show RdS (Kd.int .u8) gq 5 a3 n3 c3 l3 from hf _ (memI 4 rfl) (by kernel_rfl))
         have e15 := (show v15 = .bool true from hf _ (memI 21 rfl) (by kernel_rfl))
         subst e15
         have e16 := (show v16 = .slice a1 n1 c1 from hf _ (memI 22 rfl) (by kernel_rfl))
         subst e16
         have e17 := (show v17 = .slice a3 n3 c3 from hf _ (memI 23 rfl) (by kernel_rfl))
         subst e17
         have hcal7 := P.baizeref01_Same gq l1 l3 a1 n1 c1 a3 n3 c3 hR1 hR3 q6 hk7
         refine WP.callC hcal7 (by kernel_rfl) ?_
         rintro _ g9 st9 rfl
         refine WP.dn (Shown.o (v := .bool q6) st9.pure ?_)
         exact ⟨tv, tv, tv, tv, tv, tv, tv, tv, tv, tv, tv, tv, tv, tv, tv, tv, tv, tv, tv, tv, tv, tv, tv, tv, rfl, tv, tv, tv, tv, tv, tv⟩
        ·intro vs gq stq hl hf
         obtain ⟨v0, v1, v2, v3, v4, v5, v6, v7, v8, v9, v10, v11, v12, v13, v14, v15, v16, v17, v18, v19, v20, v21, v22, v23, rfl⟩ := len_k24 hl
         have e15 := (show v15 = .bool true from hf _ (memI 21 rfl) (by kernel_rfl))
         subst e15
         have e18 := (show v18 = .bool q6 from hf _ (memI 24 rfl) (by kernel_rfl))
         subst e18
         refine WP.stl 1 ?_
         refine WP.dn (Shown.ok (v := .bool q6) (by kernel_rfl) (Step.refl _ _) ?_)
         exact ⟨tv, tv, tv, tv, tv, tv, tv, tv, tv, tv, tv, tv, tv, tv, tv, tv, tv, tv, tv, tv, tv, tv, tv, tv, tv, congrArg Value.bool h11, tv, tv, tv, tv, tv⟩
        ·intro vs gq stq hl hf
         obtain ⟨v0, v1, v2, v3, v4, v5, v6, v7, v8, v9, v10, v11, v12, v13, v14, v15, v16, v17, v18, v19, v20, v21, v22, v23, rfl⟩ := len_k24 hl
         have hB1 := (show Box gq (t + 1) b1 35 [[.int .i64 x1], encA .u8 d1, [.int .i64 x2], encA .u8 d2, [.slice a1 n1 c1], [.slice a2 n2 c2], [.bool q1]] [1, 8, 1, 8, 1, 1, 1] from hf _ (memI 0 rfl) (by kernel_rfl))
         have e19 := (show v19 = .bool true from hf _ (memI 25 rfl) (by kernel_rfl))
         subst e19
         refine WP.loadB (v := .slice a2 n2 c2) hB1 (by kernel_rfl) (by kernel_rfl) ?_
         refine WP.dn (Shown.ok (v := .slice a2 n2 c2) (by kernel_rfl) (Step.refl _ _) ?_)
         exact ⟨tv, tv, tv, tv, tv, tv, tv, tv, tv, tv, tv, tv, tv, tv, tv, tv, tv, tv, tv, tv, tv, tv, tv, tv, tv, tv, rfl, tv, tv, tv, tv⟩
        ·intro vs gq stq hl hf
         obtain ⟨v0, v1, v2, v3, v4, v5, v6, v7, v8, v9, v10, v11, v12, v13, v14, v15, v16, v17, v18, v19, v20, v21, v22, v23, rfl⟩ := len_k24 hl
         have hB2 := (show Box gq (t + 2) b2 35 [[.int .i64 x3], encA .u8 d3, [.int .i64 x4], encA .u8 d4, [.slice a3 n3 c3], [.slice a4 n4 c4], [.bool q2]] [1, 8, 1, 8, 1, 1, 1] from hf _ (memI 3 rfl) (by kernel_rfl))
         have e19 := (show v19 = .bool true from hf _ (memI 25 rfl) (by kernel_rfl))
         subst e19
         refine WP.loadB (v := .slice a4 n4 c4) hB2 (by kernel_rfl) (by kernel_rfl) ?_
         refine WP.dn (Shown.ok (v := .slice a4 n4 c4) (by kernel_rfl) (Step.refl _ _) ?_)
         exact ⟨tv, tv, tv, tv, tv, tv, tv, tv, tv, tv, tv, tv, tv, tv, tv, tv, tv, tv, tv, tv, tv, tv, tv, tv, tv, tv, tv, rfl, tv, tv, tv⟩
        ·intro vs gq stq hl hf
         obtain ⟨v0, v1, v2, v3, v4, v5, v6, v7, v8, v9, v10, v11, v12, v13, v14, v15, v16, v17, v18, v19, v20, v21, v22, v23, rfl⟩ := len_k24 hl
         have hR2 := (show RdS (Kd.int .u8) gq 5 a2 n2 c2 l2 from hf _ (memI 2 rfl) (by kernel_rfl))
         have hR4 := (show RdS (Kd.int .u8) gq 5 a4 n4 c4 l4 from hf _ (memI 5 rfl) (by kernel_rfl))
         have e19 := (show v19 = .bool true from hf _ (memI 25 rfl) (by kernel_rfl))
         subst e19
         have e20 := (show v20 = .slice a2 n2 c2 from hf _ (memI 26 rfl) (by kernel_rfl))
         subst e20
         have e21 := (show v21 = .slice a4 n4 c4 from hf _ (memI 27 rfl) (by kernel_rfl))
         subst e21
         have hcal8 := P.baizeref01_Same gq l2 l4 a2 n2 c2 a4 n4 c4 hR2 hR4 q7 hk8
         refine WP.callC hcal8 (by kernel_rfl) ?_
         rintro _ g10 st10 rfl
         refine WP.dn (Shown.o (v := .bool q7) st10.pure ?_)
         exact ⟨tv, tv, tv, tv, tv, tv, tv, tv, tv, tv, tv, tv, tv, tv, tv, tv, tv, tv, tv, tv, tv, tv, tv, tv, tv, tv, tv, tv, rfl, tv, tv⟩
        ·intro vs gq stq hl hf
         obtain ⟨v0, v1, v2, v3, v4, v5, v6, v7, v8, v9, v10, v11, v12, v13, v14, v15, v16, v17, v18, v19, v20, v21, v22, v23, rfl⟩ := len_k24 hl
         have e19 := (show v19 = .bool true from hf _ (memI 25 rfl) (by kernel_rfl))
         subst e19
         have e22 := (show v22 = .bool q7 from hf _ (memI 28 rfl) (by kernel_rfl))
         subst e22
         refine WP.stl 1 ?_
         refine WP.dn (Shown.ok (v := .bool q7) (by kernel_rfl) (Step.refl _ _) ?_)
         exact ⟨tv, tv, tv, tv, tv, tv, tv, tv, tv, tv, tv, tv, tv, tv, tv, tv, tv, tv, tv, tv, tv, tv, tv, tv, tv, tv, tv, tv, tv, congrArg Value.bool h12, tv⟩
       intro vs g12 st12 hl hf
       obtain ⟨v0, v1, v2, v3, v4, v5, v6, v7, v8, v9, v10, v11, v12, v13, v14, v15, v16, v17, v18, v19, v20, v21, v22, v23, rfl⟩ := len_k24 hl
       have e23 := (show v23 = .bool false from hf _ (memI 29 rfl) (by kernel_rfl))
       subst e23
       replace tot := tot.trans st12.toNo.pure
       refine NX.post ?_
       exact ⟨false, ⟨by kernel_rfl, by kernel_rfl⟩, tot, hs⟩
      replace hs := of_if_f hs h11
      refine CP.drawL (by kernel_rfl) [1, 3, 5, 7, 9, 10, 12, 14, 16, 19, 20, 21, 22, 23, 24, 26, 28, 30, 31, 33] N.baizeref34_Same_0 [⟨none, [], [], fun l g => Box g (t + 1) b1 35 [[.int .i64 x1], encA .u8 d1, [.int .i64 x2], encA .u8 d2, [.slice a1 n1 c1], [.slice a2 n2 c2], [.bool q1]] [1, 8, 1, 8, 1, 1, 1]⟩, ⟨none, [], [], fun l g => RdS (Kd.int .u8) g 5 a1 n1 c1 l1⟩, ⟨none, [], [], fun l g => RdS (Kd.int .u8) g 5 a2 n2 c2 l2⟩, ⟨none, [], [], fun l g => Box g (t + 2) b2 35 [[.int .i64 x3], encA .u8 d3, [.int .i64 x4], encA .u8 d4, [.slice a3 n3 c3], [.slice a4 n4 c4], [.bool q2]] [1, 8, 1, 8, 1, 1, 1]⟩, ⟨none, [], [], fun l g => RdS (Kd.int .u8) g 5 a3 n3 c3 l3⟩, ⟨none, [], [], fun l g => RdS (Kd.int .u8) g 5 a4 n4 c4 l4⟩, ⟨some 0, [], [0], fun l g => l.getD 0 undef = .int .i64 x1⟩, ⟨some 1, [], [1], fun l g => l.getD 0 undef = .int .i64 x3⟩, ⟨some 2, [], [2], fun l g => l.getD 0 undef = .bool true⟩, ⟨some 3, [], [3], fun l g => l.getD 0 undef = AG [encA .u8 d1]⟩, ⟨some 4, [], [4], fun l g => l.getD 0 undef = AG [encA .u8 d3]⟩, ⟨some 5, [], [5], fun l g => l.getD 0 undef = .bool (d1.1 == d3.1)⟩, ⟨some 6, [], [6], fun l g => l.getD 0 undef = .bool true⟩, ⟨some 7, [], [7], fun l g => l.getD 0 undef = .int .i64 x2⟩, ⟨some 8, [], [8], fun l g => l.getD 0 undef = .int .i64 x4⟩, ⟨some 9, [], [9], fun l g => l.getD 0 undef = .bool true⟩, ⟨some 10, [], [10], fun l g => l.getD 0 undef = AG [[.int .i64 x1], encA .u8 d1, [.int .i64 x2], encA .u8 d2, [.slice a1 n1 c1], [.slice a2 n2 c2], [.bool q1]]⟩, ⟨some 11, [], [11], fun l g => l.getD 0 undef = AG [encA .u8 d7]⟩, ⟨some 12, [], [12], fun l g => l.getD 0 undef = AG [[.int .i64 x3], encA .u8 d3, [.int .i64 x4], encA .u8 d4, [.slice a3 n3 c3], [.slice a4 n4 c4], [.bool q2]]⟩, ⟨some 13, [], [13], fun l g => l.getD 0 undef = AG [encA .u8 d8]⟩, ⟨some 14, [], [14], fun l g => l.getD 0 undef = .bool (d7.1 == d8.1)⟩, ⟨some 15, [], [15], fun l g => l.getD 0 undef = .bool true⟩, ⟨some 16, [], [16], fun l g => l.getD 0 undef = .slice a1 n1 c1⟩, ⟨some 17, [], [17], fun l g => l.getD 0 undef = .slice a3 n3 c3⟩, ⟨some 18, [], [18], fun l g => l.getD 0 undef = .bool q6⟩, ⟨some 19, [], [19], fun l g => l.getD 0 undef = .bool false⟩] [[], [], [], [], [], [], [], [], [], [], [], [], [], [], [], [], [], [], [], []] [] [0, 2] [4, 6, 8, 11, 13, 15, 17, 18, 25, 27, 29, 32, 34, 35, 36, 37, 38, 39, 40, 41, 42, 43, 44, 45, 46, 47] (by kernel_rfl) (by simp) (by simp) ⟨fun _ _ _ _ st h0 hl hj hB1 => (hB1.mono st (fun h => absurd (hl _ h) (by simp))), fun _ _ _ _ st h0 hl hj hR1 => (RdS.mono (e := 5) hR1 st h0), fun _ _ _ _ st h0 hl hj hR2 => (RdS.mono (e := 5) hR2 st h0), fun _ _ _ _ st h0 hl hj hB2 => (hB2.mono st (fun h => absurd (hl _ h) (by simp))), fun _ _ _ _ st h0 hl hj hR3 => (RdS.mono (e := 5) hR3 st h0), fun _ _ _ _ st h0 hl hj hR4 => (RdS.mono (e := 5) hR4 st h0), fun _ _ _ _ st h0 hl hj e0 => e0, fun _ _ _ _ st h0 hl hj e1 => e1, fun _ _ _ _ st h0 hl hj e2 => e2, fun _ _ _ _ st h0 hl hj e3 => e3, fun _ _ _ _ st h0 hl hj e4 => e4, fun _ _ _ _ st h0 hl hj e5 => e5, fun _ _ _ _ st h0 hl hj e6 => e6, fun _ _ _ _ st h0 hl hj e7 => e7, fun _ _ _ _ st h0 hl hj e8 => e8, fun _ _ _ _ st h0 hl hj e9 => e9, fun _ _ _ _ st h0 hl hj e10 => e10, fun _ _ _ _ st h0 hl hj e11 => e11, fun _ _ _ _ st h0 hl hj e12 => e12, fun _ _ _ _ st h0 hl hj e13 => e13, fun _ _ _ _ st h0 hl hj e14 => e14, fun _ _ _ _ st h0 hl hj e15 => e15, fun _ _ _ _ st h0 hl hj e16 => e16, fun _ _ _ _ st h0 hl hj e17 => e17, fun _ _ _ _ st h0 hl hj e18 => e18, fun _ _ _ _ st h0 hl hj e19 => e19, tv⟩ ⟨hB1, hR1, hR2, hB2, hR3, hR4, tv, tv, tv, tv, tv, tv, tv, tv, tv, tv, tv, tv, tv, tv, tv, tv, tv, tv, tv, tv, tv⟩ (by kernel_rfl) (fun vs => by kernel_rfl) ?_ ?_ ?_
      ·intro j hj
       have hq : j = 0 ∨ j = 1 ∨ j = 2 ∨ j = 3 ∨ j = 4 ∨ j = 5 ∨ j = 6 ∨ j = 7 ∨ j = 8 ∨ j = 9 ∨ j = 10 ∨ j = 11 ∨ j = 12 ∨ j = 13 ∨ j = 14 ∨ j = 15 ∨ j = 16 ∨ j = 17 ∨ j = 18 ∨ j = 19 ∨ j = 20 ∨ j = 21 ∨ j = 22 ∨ j = 23 ∨ j = 24 ∨ j = 25 := by have h : j < 26 := hj; omega
       rcases hq with rfl | rfl | rfl | rfl | rfl | rfl | rfl | rfl | rfl | rfl | rfl | rfl | rfl | rfl | rfl | rfl | rfl | rfl | rfl | rfl | rfl | rfl | rfl | rfl | rfl | rfl
       ·intro vs gq stq hl hf
        obtain ⟨v0, v1, v2, v3, v4, v5, v6, v7, v8, v9, v10, v11, v12, v13, v14, v15, v16, v17, v18, v19, rfl⟩ := len_k20 hl
        have e0 := (show v0 = .int .i64 x1 from hf _ (memI 6 rfl) (by kernel_rfl))
        subst e0
        have e1 := (show v1 = .int .i64 x3 from hf _ (memI 7 rfl) (by kernel_rfl))
        subst e1
        show Option.isSome _ = true
        kernel_rfl
       ·intro vs gq stq hl hf
        obtain ⟨v0, v1, v2, v3, v4, v5, v6, v7, v8, v9, v10, v11, v12, v13, v14, v15, v16, v17, v18, v19, rfl⟩ := len_k20 hl
        have e2 := (show v2 = .bool true from hf _ (memI 8 rfl) (by kernel_rfl))
        subst e2
        show Option.isSome _ = true
        kernel_rfl
       ·intro vs gq stq hl hf
        obtain ⟨v0, v1, v2, v3, v4, v5, v6, v7, v8, v9, v10, v11, v12, v13, v14, v15, v16, v17, v18, v19, rfl⟩ := len_k20 hl
        have e2 := (show v2 = .bool true from hf _ (memI 8 rfl) (by kernel_rfl))
        subst e2
        show Option.isSome _ = true
        kernel_rfl
       ·intro vs gq stq hl hf
        obtain ⟨v0, v1, v2, v3, v4, v5, v6, v7, v8, v9, v10, v11, v12, v13, v14, v15, v16, v17, v18, v19, rfl⟩ := len_k20 hl
        have e2 := (show v2 = .bool true from hf _ (memI 8 rfl) (by kernel_rfl))
        subst e2
        have e5 := (show v5 = .bool (d1.1 == d3.1) from hf _ (memI 11 rfl) (by kernel_rfl))
        subst e5
        show Option.isSome _ = true
        kernel_rfl
       ·intro vs gq stq hl hf
        obtain ⟨v0, v1, v2, v3, v4, v5, v6, v7, v8, v9, v10, v11, v12, v13, v14, v15, v16, v17, v18, v19, rfl⟩ := len_k20 hl
        have e6 := (show v6 = .bool true from hf _ (memI 12 rfl) (by kernel_rfl))
        subst e6
        show Option.isSome _ = true
        kernel_rfl
       ·intro vs gq stq hl hf
        obtain ⟨v0, v1, v2, v3, v4, v5, v6, v7, v8, v9, v10, v11, v12, v13, v14, v15, v16, v17, v18, v19, rfl⟩ := len_k20 hl
        have e6 := (show v6 = .bool true from hf _ (memI 12 rfl) (by kernel_rfl))
        subst e6
        show Option.isSome _ = true
        kernel_rfl
       ·intro vs gq stq hl hf
        obtain ⟨v0, v1, v2, v3, v4, v5, v6, v7, v8, v9, v10, v11, v12, v13, v14, v15, v16, v17, v18, v19, rfl⟩ := len_k20 hl
        have e6 := (show v6 = .bool true from hf _ (memI 12 rfl) (by kernel_rfl))
        subst e6
        have e7 := (show v7 = .int .i64 x2 from hf _ (memI 13 rfl) (by kernel_rfl))
        subst e7
        have e8 := (show v8 = .int .i64 x4 from hf _ (memI 14 rfl) (by kernel_rfl))
        subst e8
        show Option.isSome _ = true
        kernel_rfl
       ·intro vs gq stq hl hf
        obtain ⟨v0, v1, v2, v3, v4, v5, v6, v7, v8, v9, v10, v11, v12, v13, v14, v15, v16, v17, v18, v19, rfl⟩ := len_k20 hl
        have e6 := (show v6 = .bool true from hf _ (memI 12 rfl) (by kernel_rfl))
        subst e6
        have e7 := (show v7 = .int .i64 x2 from hf _ (memI 13 rfl) (by kernel_rfl))
        subst e7
        have e8 := (show v8 = .int .i64 x4 from hf _ (memI 14 rfl) (by kernel_rfl))
        subst e8
        show Option.isSome _ = true
        kernel_rfl
       ·intro vs gq stq hl hf
        obtain ⟨v0, v1, v2, v3, v4, v5, v6, v7, v8, v9, v10, v11, v12, v13, v14, v15, v16, v17, v18, v19, rfl⟩ := len_k20 hl
        have e9 := (show v9 = .bool true from hf _ (memI 15 rfl) (by kernel_rfl))
        subst e9
        have e14 := (show v14 = .bool (d7.1 == d8.1) from hf _ (memI 20 rfl) (by kernel_rfl))
        subst e14
        show Option.isSome _ = true
        kernel_rfl
       ·intro vs gq stq hl hf
        obtain ⟨v0, v1, v2, v3, v4, v5, v6, v7, v8, v9, v10, v11, v12, v13, v14, v15, v16, v17, v18, v19, rfl⟩ := len_k20 hl
        have e15 := (show v15 = .bool true from hf _ (memI 21 rfl) (by kernel_rfl))
        subst e15
        show Option.isSome _ = true
        kernel_rfl
       ·intro vs gq stq hl hf
        obtain ⟨v0, v1, v2, v3, v4, v5, v6, v7, v8, v9, v10, v11, v12, v13, v14, v15, v16, v17, v18, v19, rfl⟩ := len_k20 hl
        have e15 := (show v15 = .bool true from hf _ (memI 21 rfl) (by kernel_rfl))
        subst e15
        show Option.isSome _ = true
        kernel_rfl
       ·intro vs gq stq hl hf
        obtain ⟨v0, v1, v2, v3, v4, v5, v6, v7, v8, v9, v10, v11, v12, v13, v14, v15, v16, v17, v18, v19, rfl⟩ := len_k20 hl
        have e15 := (show v15 = .bool true from hf _ (memI 21 rfl) (by kernel_rfl))
        subst e15
        have e18 := (show v18 = .bool q6 from hf _ (memI 24 rfl) (by kernel_rfl))
        subst e18
        show Option.isSome _ = true
        kernel_rfl
       ·intro vs gq stq hl hf
        obtain ⟨v0, v1, v2, v3, v4, v5, v6, v7, v8, v9, v10, v11, v12, v13, v14, v15, v16, v17, v18, v19, rfl⟩ := len_k20 hl
        have e19 := (show v19 = .bool false from hf _ (memI 25 rfl) (by kernel_rfl))
        subst e19
        show Option.isSome _ = true
        kernel_rfl
       ·intro vs gq stq hl hf
        obtain ⟨v0, v1, v2, v3, v4, v5, v6, v7, v8, v9, v10, v11, v12, v13, v14, v15, v16, v17, v18, v19, rfl⟩ := len_k20 hl
        have e19 := (show v19 = .bool false from hf _ (memI 25 rfl) (by kernel_rfl))
        subst e19
        show Option.isSome _ = true
        kernel_rfl
       ·intro vs gq stq hl hf
        obtain ⟨v0, v1, v2, v3, v4, v5, v6, v7, v8, v9, v10, v11, v12, v13, v14, v15, v16, v17, v18, v19, rfl⟩ := len_k20 hl
        have e19 := (show v19 = .bool false from hf _ (memI 25 rfl) (by kernel_rfl))
        subst e19
        show Option.isSome _ = true
        kernel_rfl
       ·intro vs gq stq hl hf
        obtain ⟨v0, v1, v2, v3, v4, v5, v6, v7, v8, v9, v10, v11, v12, v13, v14, v15, v16, v17, v18, v19, rfl⟩ := len_k20 hl
        have e19 := (show v19 = .bool false from hf _ (memI 25 rfl) (by kernel_rfl))
        subst e19
        show Option.isSome _ = true
        kernel_rfl
       ·intro vs gq stq hl hf
        obtain ⟨v0, v1, v2, v3, v4, v5, v6, v7, v8, v9, v10, v11, v12, v13, v14, v15, v16, v17, v18, v19, rfl⟩ := len_k20 hl
        have e19 := (show v19 = .bool false from hf _ (memI 25 rfl) (by kernel_rfl))
        subst e19
        show Option.isSome _ = true
        kernel_rfl
       ·intro vs gq stq hl hf
        obtain ⟨v0, v1, v2, v3, v4, v5, v6, v7, v8, v9, v10, v11, v12, v13, v14, v15, v16, v17, v18, v19, rfl⟩ := len_k20 hl
        have e19 := (show v19 = .bool false from hf _ (memI 25 rfl) (by kernel_rfl))
        subst e19
        show Option.isSome _ = true
        kernel_rfl
       ·intro vs gq stq hl hf
        obtain ⟨v0, v1, v2, v3, v4, v5, v6, v7, v8, v9, v10, v11, v12, v13, v14, v15, v16, v17, v18, v19, rfl⟩ := len_k20 hl
        have e19 := (show v19 = .bool false from hf _ (memI 25 rfl) (by kernel_rfl))
        subst e19
        show Option.isSome _ = true
        kernel_rfl
       ·intro vs gq stq hl hf
        obtain ⟨v0, v1, v2, v3, v4, v5, v6, v7, v8, v9, v10, v11, v12, v13, v14, v15, v16, v17, v18, v19, rfl⟩ := len_k20 hl
        have e19 := (show v19 = .bool false from hf _ (memI 25 rfl) (by kernel_rfl))
        subst e19
        show Option.isSome _ = true
        kernel_rfl
       ·intro vs gq stq hl hf
        obtain ⟨v0, v1, v2, v3, v4, v5, v6, v7, v8, v9, v10, v11, v12, v13, v14, v15, v16, v17, v18, v19, rfl⟩ := len_k20 hl
        have e19 := (show v19 = .bool false from hf _ (memI 25 rfl) (by kernel_rfl))
        subst e19
        show Option.isSome _ = true
        kernel_rfl
       ·intro vs gq stq hl hf
        obtain ⟨v0, v1, v2, v3, v4, v5, v6, v7, v8, v9, v10, v11, v12, v13, v14, v15, v16, v17, v18, v19, rfl⟩ := len_k20 hl
        have e19 := (show v19 = .bool false from hf _ (memI 25 rfl) (by kernel_rfl))
        subst e19
        show Option.isSome _ = true
        kernel_rfl
       ·intro vs gq stq hl hf
        obtain ⟨v0, v1, v2, v3, v4, v5, v6, v7, v8, v9, v10, v11, v12, v13, v14, v15, v16, v17, v18, v19, rfl⟩ := len_k20 hl
        have e19 := (show v19 = .bool false from hf _ (memI 25 rfl) (by kernel_rfl))
        subst e19
        show Option.isSome _ = true
        kernel_rfl
       ·intro vs gq stq hl hf
        obtain ⟨v0, v1, v2, v3, v4, v5, v6, v7, v8, v9, v10, v11, v12, v13, v14, v15, v16, v17, v18, v19, rfl⟩ := len_k20 hl
        have e19 := (show v19 = .bool false from hf _ (memI 25 rfl) (by kernel_rfl))
        subst e19
        show Option.isSome _ = true
        kernel_rfl
       ·intro vs gq stq hl hf
        obtain ⟨v0, v1, v2, v3, v4, v5, v6, v7, v8, v9, v10, v11, v12, v13, v14, v15, v16, v17, v18, v19, rfl⟩ := len_k20 hl
        have e19 := (show v19 = .bool false from hf _ (memI 25 rfl) (by kernel_rfl))
        subst e19
        show Option.isSome _ = true
        kernel_rfl
       ·intro vs gq stq hl hf
        obtain ⟨v0, v1, v2, v3, v4, v5, v6, v7, v8, v9, v10, v11, v12, v13, v14, v15, v16, v17, v18, v19, rfl⟩ := len_k20 hl
        have e19 := (show v19 = .bool false from hf _ (memI 25 rfl) (by kernel_rfl))
        subst e19
        show Option.isSome _ = true
        kernel_rfl
      ·intro j hj
       have hq : j = 0 ∨ j = 1 ∨ j = 2 ∨ j = 3 ∨ j = 4 ∨ j = 5 ∨ j = 6 ∨ j = 7 ∨ j = 8 ∨ j = 9 ∨ j = 10 ∨ j = 11 ∨ j = 12 ∨ j = 13 ∨ j = 14 ∨ j = 15 ∨ j = 16 ∨ j = 17 ∨ j = 18 ∨ j = 19 := by have h : j < 20 := hj; omega
       rcases hq with rfl | rfl | rfl | rfl | rfl | rfl | rfl | rfl | rfl | rfl | rfl | rfl | rfl | rfl | rfl | rfl | rfl | rfl | rfl | rfl
       ·intro vs gq stq hl hf
        obtain ⟨v0, v1, v2, v3, v4, v5, v6, v7, v8, v9, v10, v11, v12, v13, v14, v15, v16, v17, v18, v19, rfl⟩ := len_k20 hl
        have hB1 := (show Box gq (t + 1) b1 35 [[.int .i64 x1], encA .u8 d1, [.int .i64 x2], encA .u8 d2, [.slice a1 n1 c1], [.slice a2 n2 c2], [.bool q1]] [1, 8, 1, 8, 1, 1, 1] from hf _ (memI 0 rfl) (by kernel_rfl))
        refine WP.loadB (v := .int .i64 x1) hB1 (by kernel_rfl) (by kernel_rfl) ?_
        refine WP.dn (Shown.ok (v := .int .i64 x1) (by kernel_rfl) (Step.refl _ _) ?_)
        exact ⟨tv, tv, tv, tv, tv, tv, rfl, tv, tv, tv, tv, tv, tv, tv, tv, tv, tv, tv, tv, tv, tv, tv, tv, tv, tv, tv, tv⟩
       ·intro vs gq stq hl hf
        obtain ⟨v0, v1, v2, v3, v4, v5, v6, v7, v8, v9, v10, v11, v12, v13, v14, v15, v16, v17, v18, v19, rfl⟩ := len_k20 hl
        have hB2 := (show Box gq (t + 2) b2 35 [[.int .i64 x3], encA .u8 d3, [.int .i64 x4], encA .u8 d4, [.slice a3 n3 c3], [.slice a4 n4 c4], [.bool q2]] [1, 8, 1, 8, 1, 1, 1] from hf _ (memI 3 rfl) (by kernel_rfl))
        refine WP.loadB (v := .int .i64 x3) hB2 (by kernel_rfl) (by kernel_rfl) ?_
        refine WP.dn (Shown.ok (v := .int .i64 x3) (by kernel_rfl) (Step.refl _ _) ?_)
        exact ⟨tv, tv, tv, tv, tv, tv, tv, rfl, tv, tv, tv, tv, tv, tv, tv, tv, tv, tv, tv, tv, tv, tv, tv, tv, tv, tv, tv⟩
       ·intro vs gq stq hl hf
        obtain ⟨v0, v1, v2, v3, v4, v5, v6, v7, v8, v9, v10, v11, v12, v13, v14, v15, v16, v17, v18, v19, rfl⟩ := len_k20 hl
        have e0 := (show v0 = .int .i64 x1 from hf _ (memI 6 rfl) (by kernel_rfl))
        subst e0
        have e1 := (show v1 = .int .i64 x3 from hf _ (memI 7 rfl) (by kernel_rfl))
        subst e1
        refine WP.stl 1 ?_
        refine WP.dn (Shown.ok (v := .bool (x1 == x3)) (by kernel_rfl) (Step.refl _ _) ?_)
        exact ⟨tv, tv, tv, tv, tv, tv, tv, tv, congrArg Value.bool h7, tv, tv, tv, tv, tv, tv, tv, tv, tv, tv, tv, tv, tv, tv, tv, tv, tv, tv⟩
       ·intro vs gq stq hl hf
        obtain ⟨v0, v1, v2, v3, v4, v5, v6, v7, v8, v9, v10, v11, v12, v13, v14, v15, v16, v17, v18, v19, rfl⟩ := len_k20 hl
        have hB1 := (show Box gq (t + 1) b1 35 [[.int .i64 x1], encA .u8 d1, [.int .i64 x2], encA .u8 d2, [.slice a1 n1 c1], [.slice a2 n2 c2], [.bool q1]] [1, 8, 1, 8, 1, 1, 1] from hf _ (memI 0 rfl) (by kernel_rfl))
        have e2 := (show v2 = .bool true from hf _ (memI 8 rfl) (by kernel_rfl))
        subst e2
        refine WP.loadB (v := AG [encA .u8 d1]) hB1 (by kernel_rfl) (by kernel_rfl) ?_
        refine WP.dn (Shown.ok (v := AG [encA .u8 d1]) (by kernel_rfl) (Step.refl _ _) ?_)
        exact ⟨tv, tv, tv, tv, tv, tv, tv, tv, tv, rfl, tv, tv, tv, tv, tv, tv, tv, tv, tv, tv, tv, tv, tv, tv, tv, tv, tv⟩
       ·intro vs gq stq hl hf
        obtain ⟨v0, v1, v2, v3, v4, v5, v6, v7, v8, v9, v10, v11, v12, v13, v14, v15, v16, v17, v18, v19, rfl⟩ := len_k20 hl
        have hB2 := (show Box gq (t + 2) b2 35 [[.int .i64 x3], encA .u8 d3, [.int .i64 x4], encA .u8 d4, [.slice a3 n3 c3], [.slice a4 n4 c4], [.bool q2]] [1, 8, 1, 8, 1, 1, 1] from hf _ (memI 3 rfl) (by kernel_rfl))
        have e2 := (show v2 = .bool true from hf _ (memI 8 rfl) (by kernel_rfl))
        subst e2
        refine WP.loadB (v := AG [encA .u8 d3]) hB2 (by kernel_rfl) (by kernel_rfl) ?_
        refine WP.dn (Shown.ok (v := AG [encA .u8 d3]) (by kernel_rfl) (Step.refl _ _) ?_)
        exact ⟨tv, tv, tv, tv, tv, tv, tv, tv, tv, tv, rfl, tv, tv, tv, tv, tv, tv, tv, tv, tv, tv, tv, tv, tv, tv, tv, tv⟩
       ·intro vs gq stq hl hf
        obtain ⟨v0, v1, v2, v3, v4, v5, v6, v7, v8, v9, v10, v11, v12, v13, v14, v15, v16, v17, v18, v19, rfl⟩ := len_k20 hl
        have e2 := (show v2 = .bool true from hf _ (memI 8 rfl) (by kernel_rfl))
        subst e2
        have e3 := (show v3 = AG [encA .u8 d1] from hf _ (memI 9 rfl) (by kernel_rfl))
        subst e3
        have e4 := (show v4 = AG [encA .u8 d3] from hf _ (memI 10 rfl) (by kernel_rfl))
        subst e4
        refine WP.eqV (by kernel_rfl) (by kernel_rfl) (EqV.arr (d := 9998) (t := 32) (e := 5) (m := 8) (k := .u8) (x := d1) (y := d3) (by kernel_rfl) (by kernel_rfl)) ?_
        refine WP.dn (Shown.ok (v := .bool (d1.1 == d3.1)) (by kernel_rfl) (Step.refl _ _) ?_)
        exact ⟨tv, tv, tv, tv, tv, tv, tv, tv, tv, tv, tv, rfl, tv, tv, tv, tv, tv, tv, tv, tv, tv, tv, tv, tv, tv, tv, tv⟩
       ·intro vs gq stq hl hf
        obtain ⟨v0, v1, v2, v3, v4, v5, v6, v7, v8, v9, v10, v11, v12, v13, v14, v15, v16, v17, v18, v19, rfl⟩ := len_k20 hl
        have e2 := (show v2 = .bool true from hf _ (memI 8 rfl) (by kernel_rfl))
        subst e2
        have e5 := (show v5 = .bool (d1.1 == d3.1) from hf _ (memI 11 rfl) (by kernel_rfl))
        subst e5
        refine WP.stl 1 ?_
        refine WP.dn (Shown.ok (v := .bool (d1.1 == d3.1)) (by kernel_rfl) (Step.refl _ _) ?_)
        exact ⟨tv, tv, tv, tv, tv, tv, tv, tv, tv, tv, tv, tv, congrArg Value.bool h8, tv, tv, tv, tv, tv, tv, tv, tv, tv, tv, tv, tv, tv, tv⟩
       ·intro vs gq stq hl hf
        obtain ⟨v0, v1, v2, v3, v4, v5, v6, v7, v8, v9, v10, v11, v12, v13, v14, v15, v16, v17, v18, v19, rfl⟩ := len_k20 hl
        have hB1 := (show Box gq (t + 1) b1 35 [[.int .i64 x1], encA .u8 d1, [.int .i64 x2], encA .u8 d2, [.slice a1 n1 c1], [.slice a2 n2 c2], [.bool q1]] [1, 8, 1, 8, 1, 1, 1] from hf _ (memI 0 rfl) (by kernel_rfl))
        have e6 := (show v6 = .bool true from hf _ (memI 12 rfl) (by kernel_rfl))
        subst e6
        refine WP.loadB (v := .int .i64 x2) hB1 (by kernel_rfl) (by kernel_rfl) ?_
        refine WP.dn (Shown.ok (v := .int .i64 x2) (by kernel_rfl) (Step.refl _ _) ?_)
        exact ⟨tv, tv, tv, tv, tv, tv, tv, tv, tv, tv, tv, tv, tv, rfl, tv, tv, tv, tv, tv, tv, tv, tv, tv, tv, tv, tv, tv⟩
       ·intro vs gq stq hl hf
        obtain ⟨v0, v1, v2, v3, v4, v5, v6, v7, v8, v9, v10, v11, v12, v13, v14, v15, v16, v17, v18, v19, rfl⟩ := len_k20 hl
        have hB2 := (show Box gq (t + 2) b2 35 [[.int .i64 x3], encA .u8 d3, [.int .i64 x4], encA .u8 d4, [.slice a3 n3 c3], [.slice a4 n4 c4], [.bool q2]] [1, 8, 1, 8, 1, 1, 1] from hf _ (memI 3 rfl) (by kernel_rfl))
        have e6 := (show v6 = .bool true from hf _ (memI 12 rfl) (by kernel_rfl))
        subst e6
        refine WP.loadB (v := .int .i64 x4) hB2 (by kernel_rfl) (by kernel_rfl) ?_
        refine WP.dn (Shown.ok (v := .int .i64 x4) (by kernel_rfl) (Step.refl _ _) ?_)
        exact ⟨tv, tv, tv, tv, tv, tv, tv, tv, tv, tv, tv, tv, tv, tv, rfl, tv, tv, tv, tv, tv, tv, tv, tv, tv, tv, tv, tv⟩
       ·intro vs gq stq hl hf
        obtain ⟨v0, v1, v2, v3, v4, v5, v6, v7, v8, v9, v10, v11, v12, v13, v14, v15, v16, v17, v18, v19, rfl⟩ := len_k20 hl
        have e6 := (show v6 = .bool true from hf _ (memI 12 rfl) (by kernel_rfl))
        subst e6
        have e7 := (show v7 = .int .i64 x2 from hf _ (memI 13 rfl) (by kernel_rfl))
        subst e7
        have e8 := (show v8 = .int .i64 x4 from hf _ (memI 14 rfl) (by kernel_rfl))
        subst e8
        refine WP.stl 1 ?_
        refine WP.dn (Shown.ok (v := .bool (x2 == x4)) (by kernel_rfl) (Step.refl _ _) ?_)
        exact ⟨tv, tv, tv, tv, tv, tv, tv, tv, tv, tv, tv, tv, tv, tv, tv, congrArg Value.bool h9, tv, tv, tv, tv, tv, tv, tv, tv, tv, tv, tv⟩
       ·intro vs gq stq hl hf
        obtain ⟨v0, v1, v2, v3, v4, v5, v6, v7, v8, v9, v10, v11, v12, v13, v14, v15, v16, v17, v18, v19, rfl⟩ := len_k20 hl
        have hB1 := (show Box gq (t + 1) b1 35 [[.int .i64 x1], encA .u8 d1, [.int .i64 x2], encA .u8 d2, [.slice a1 n1 c1], [.slice a2 n2 c2], [.bool q1]] [1, 8, 1, 8, 1, 1, 1] from hf _ (memI 0 rfl) (by kernel_rfl))
        have e9 := (show v9 = .bool true from hf _ (memI 15 rfl) (by kernel_rfl))
        subst e9
        refine WP.loadB (v := AG [[.int .i64 x1], encA .u8 d1, [.int .i64 x2], encA .u8 d2, [.slice a1 n1 c1], [.slice a2 n2 c2], [.bool q1]]) hB1 (by kernel_rfl) (by kernel_rfl) ?_
        refine WP.dn (Shown.ok (v := AG [[.int .i64 x1], encA .u8 d1, [.int .i64 x2], encA .u8 d2, [.slice a1 n1 c1], [.slice a2 n2 c2], [.bool q1]]) (by kernel_rfl) (Step.refl _ _) ?_)
        exact ⟨tv, tv, tv, tv, tv, tv, tv, tv, tv, tv, tv, tv, tv, tv, tv, tv, rfl, tv, tv, tv, tv, tv, tv, tv, tv, tv, tv⟩
       ·intro vs gq stq hl hf
        obtain ⟨v0, v1, v2, v3, v4, v5, v6, v7, v8, v9, v10, v11, v12, v13, v14, v15, v16, v17, v18, v19, rfl⟩ := len_k20 hl
        have hR1 := (show RdS (Kd.int .u8) gq 5 a1 n1 c1 l1 from hf _ (memI 1 rfl) (by kernel_rfl))
        have hR2 := (show RdS (Kd.int .u8) gq 5 a2 n2 c2 l2 from hf _ (memI 2 rfl) (by kernel_rfl))
        have e9 := (show v9 = .bool true from hf _ (memI 15 rfl) (by kernel_rfl))
        subst e9
        have e10 := (show v10 = AG [[.int .i64 x1], encA .u8 d1, [.int .i64 x2], encA .u8 d2, [.slice a1 n1 c1], [.slice a2 n2 c2], [.bool q1]] from hf _ (memI 16 rfl) (by kernel_rfl))
        subst e10
        have hcal5 := P.baizeref34_At gq x1 d1 x2 d2 l1 l2 q1 a1 n1 c1 a2 n2 c2 hR1 hR2 d7 hk5
        refine WP.callC hcal5 (by kernel_rfl) ?_
        rintro _ g7 st7 rfl
        refine WP.dn (Shown.o (v := AG [encA .u8 d7]) st7.pure ?_)
        exact ⟨tv, tv, tv, tv, tv, tv, tv, tv, tv, tv, tv, tv, tv, tv, tv, tv, tv, rfl, tv, tv, tv, tv, tv, tv, tv, tv, tv⟩
       ·intro vs gq stq hl hf
        obtain ⟨v0, v1, v2, v3, v4, v5, v6, v7, v8, v9, v10, v11, v12, v13, v14, v15, v16, v17, v18, v19, rfl⟩ := len_k20 hl
        have hB2 := (show Box gq (t + 2) b2 35 [[.int .i64 x3], encA .u8 d3, [.int .i64 x4], encA .u8 d4, [.slice a3 n3 c3], [.slice a4 n4 c4], [.bool q2]] [1, 8, 1, 8, 1, 1, 1] from hf _ (memI 3 rfl) (by kernel_rfl))
        have e9 := (show v9 = .bool true from hf _ (memI 15 rfl) (by kernel_rfl))
        subst e9
        refine WP.loadB (v := AG [[.int .i64 x3], encA .u8 d3, [.int .i64 x4], encA .u8 d4, [.slice a3 n3 c3], [.slice a4 n4 c4], [.bool q2]]) hB2 (by kernel_rfl) (by kernel_rfl) ?_
        refine WP.dn (Shown.ok (v := AG [[.int .i64 x3], encA .u8 d3, [.int .i64 x4], encA .u8 d4, [.slice a3 n3 c3], [.slice a4 n4 c4], [.bool q2]]) (by kernel_rfl) (Step.refl _ _) ?_)
        exact ⟨tv, tv, tv, tv, tv, tv, tv, tv, tv, tv, tv, tv, tv, tv, tv, tv, tv, tv, rfl, tv, tv, tv, tv, tv, tv, tv, tv⟩
       ·intro vs gq stq hl hf
        obtain ⟨v0, v1, v2, v3, v4, v5, v6, v7, v8, v9, v10, v11, v12, v13, v14, v15, v16, v17, v18, v19, rfl⟩ := len_k20 hl
        have hR3 := (show RdS (Kd.int .u8) gq 5 a3 n3 c3 l3 from hf _ (memI 4 rfl) (by kernel_rfl))
        have hR4 := (show RdS (Kd.int .u8) gq 5 a4 n4 c4 l4 from hf _ (memI 5 rfl) (by kernel_rfl))
        have e9 := (show v9 = .bool true from hf _ (memI 15 rfl) (by kernel_rfl))
        subst e9
        have e12 := (show v12 = AG [[.int .i64 x3], encA .u8 d3, [.int .i64 x4], encA .u8 d4, [.slice a3 n3 c3], [.slice a4 n4 c4], [.bool q2]] from hf _ (memI 18 rfl) (by kernel_rfl))
        subst e12
        have hcal6 := P.baizeref34_At gq x3 d3 x4 d4 l3 l4 q2 a3 n3 c3 a4 n4 c4 hR3 hR4 d8 hk6
        refine WP.callC hcal6 (by kernel_rfl) ?_
        rintro _ g8 st8 rfl
        refine WP.dn (Shown.o (v := AG [encA .u8 d8]) st8.pure ?_)
        exact ⟨tv, tv, tv, tv, tv, tv, tv, tv, tv, tv, tv, tv, tv, tv, tv, tv, tv, tv, tv, rfl, tv, tv, tv, tv, tv, tv, tv⟩
       ·intro vs gq stq hl hf
        obtain ⟨v0, v1, v2, v3, v4, v5, v6, v7, v8, v9, v10, v11, v12, v13, v14, v15, v16, v17, v18, v19, rfl⟩ := len_k20 hl
        have e9 := (show v9 = .bool true from hf _ (memI 15 rfl) (by kernel_rfl))
        subst e9
        have e11 := (show v11 = AG [encA .u8 d7] from hf _ (memI 17 rfl) (by kernel_rfl))
        subst e11
        have e13 := (show v13 = AG [encA .u8 d8] from hf _ (memI 19 rfl) (by kernel_rfl))
        subst e13
        refine WP.eqV (by kernel_rfl) (by kernel_rfl) (EqV.arr (d := 9998) (t := 32) (e := 5) (m := 8) (k := .u8) (x := d7) (y := d8) (by kernel_rfl) (by kernel_rfl)) ?_
        refine WP.dn (Shown.ok (v := .bool (d7.1 == d8.1)) (by kernel_rfl) (Step.refl _ _) ?_)
        exact ⟨tv, tv, tv, tv, tv, tv, tv, tv, tv, tv, tv, tv, tv, tv, tv, tv, tv, tv, tv, tv, rfl, tv, tv, tv, tv, tv, tv⟩
       ·intro vs gq stq hl hf
        obtain ⟨v0, v1, v2, v3, v4, v5, v6, v7, v8, v9, v10, v11, v12, v13, v14, v15, v16, v17, v18, v19, rfl⟩ := len_k20 hl
        have e9 := (show v9 = .bool true from hf _ (memI 15 rfl) (by kernel_rfl))
        subst e9
        have e14 := (show v14 = .bool (d7.1 == d8.1) from hf _ (memI 20 rfl) (by kernel_rfl))
        subst e14
        refine WP.stl 1 ?_
        refine WP.dn (Shown.ok (v := .bool (d7.1 == d8.1)) (by kernel_rfl) (Step.refl _ _) ?_)
        exact ⟨tv, tv, tv, tv, tv, tv, tv, tv, tv, tv, tv, tv, tv, tv, tv, tv, tv, tv, tv, tv, tv, congrArg Value.bool h10, tv, tv, tv, tv, tv⟩
       ·intro vs gq stq hl hf
        obtain ⟨v0, v1, v2, v3, v4, v5, v6, v7, v8, v9, v10, v11, v12, v13, v14, v15, v16, v17, v18, v19, rfl⟩ := len_k20 hl
        have hB1 := (show Box gq (t + 1) b1 35 [[.int .i64 x1], encA .u8 d1, [.int .i64 x2], encA .u8 d2, [.slice a1 n1 c1], [.slice a2 n2 c2], [.bool q1]] [1, 8, 1, 8, 1, 1, 1] from hf _ (memI 0 rfl) (by kernel_rfl))
        have e15 := (show v15 = .bool true from hf _ (memI 21 rfl) (by kernel_rfl))
        subst e15
        refine WP.loadB (v := .slice a1 n1 c1) hB1 (by kernel_rfl) (by kernel_rfl) ?_
        refine WP.dn (Shown.ok (v := .slice a1 n1 c1) (by kernel_rfl) (Step.refl _ _) ?_)
        exact ⟨tv, tv, tv, tv, tv, tv, tv, tv, tv, tv, tv, tv, tv, tv, tv, tv, tv, tv, tv, tv, tv, tv, rfl, tv, tv, tv, tv⟩
       ·intro vs gq stq hl hf
        obtain ⟨v0, v1, v2, v3, v4, v5, v6, v7, v8, v9, v10, v11, v12, v13, v14, v15, v16, v17, v18, v19, rfl⟩ := len_k20 hl
        have hB2 := (show Box gq (t + 2) b2 35 [[.int .i64 x3], encA .u8 d3, [.int .i64 x4], encA .u8 d4, [.slice a3 n3 c3], [.slice a4 n4 c4], [.bool q2]] [1, 8, 1, 8, 1, 1, 1] from hf _ (memI 3 rfl) (by kernel_rfl))
        have e15 := (show v15 = .bool true from hf _ (memI 21 rfl) (by kernel_rfl))
        subst e15
        refine WP.loadB (v := .slice a3 n3 c3) hB2 (by kernel_rfl) (by kernel_rfl) ?_
        refine WP.dn (Shown.ok (v := .slice a3 n3 c3) (by kernel_rfl) (Step.refl _ _) ?_)
        exact ⟨tv, tv, tv, tv, tv, tv, tv, tv, tv, tv, tv, tv, tv, tv, tv, tv, tv, tv, tv, tv, tv, tv, tv, rfl, tv, tv, tv⟩
       ·intro vs gq stq hl hf
        obtain ⟨v0, v1, v2, v3, v4, v5, v6, v7, v8, v9, v10, v11, v12, v13, v14, v15, v16, v17, v18, v19, rfl⟩ := len_k20 hl
        have hR1 := (show RdS (Kd.int .u8) gq 5 a1 n1 c1 l1 from hf _ (memI 1 rfl) (by kernel_rfl))
        have hR3 := (show RdS (Kd.int .u8) gq 5 a3 n3 c3 l3 from hf _ (memI 4 rfl) (by kernel_rfl))
        have e15 := (show v15 = .bool true from hf _ (memI 21 rfl) (by kernel_rfl))
        subst e15
        have e16 := (show v16 = .slice a1 n1 c1 from hf _ (memI 22 rfl) (by kernel_rfl))
        subst e16
        have e17 := (show v17 = .slice a3 n3 c3 from hf _ (memI 23 rfl) (by kernel_rfl))
        subst e17
        have hcal7 := P.baizeref01_Same gq l1 l3 a1 n1 c1 a3 n3 c3 hR1 hR3 q6 hk7
        refine WP.callC hcal7 (by kernel_rfl) ?_
        rintro _ g9 st9 rfl
        refine WP.dn (Shown.o (v := .bool q6) st9.pure ?_)
        exact ⟨tv, tv, tv, tv, tv, tv, tv, tv, tv, tv, tv, tv, tv, tv, tv, tv, tv, tv, tv, tv, tv, tv, tv, tv, rfl, tv, tv⟩
       ·intro vs gq stq hl hf
        obtain ⟨v0, v1, v2, v3, v4, v5, v6, v7, v8, v9, v10, v11, v12, v13, v14, v15, v16, v17, v18, v19, rfl⟩ := len_k20 hl
        have e15 := (show v15 = .bool true from hf _ (memI 21 rfl) (by kernel_rfl))
        subst e15
        have e18 := (show v18 = .bool q6 from hf _ (memI 24 rfl) (by kernel_rfl))
        subst e18
        refine WP.stl 1 ?_
        refine WP.dn (Shown.ok (v := .bool q6) (by kernel_rfl) (Step.refl _ _) ?_)
        exact ⟨tv, tv, tv, tv, tv, tv, tv, tv, tv, tv, tv, tv, tv, tv, tv, tv, tv, tv, tv, tv, tv, tv, tv, tv, tv, congrArg Value.bool h11, tv⟩
      intro vs g13 st13 hl hf
      obtain ⟨v0, v1, v2, v3, v4, v5, v6, v7, v8, v9, v10, v11, v12, v13, v14, v15, v16, v17, v18, v19, rfl⟩ := len_k20 hl
      have e19 := (show v19 = .bool false from hf _ (memI 25 rfl) (by kernel_rfl))
      subst e19
      replace tot := tot.trans st13.toNo.pure
      refine NX.post ?_
      exact ⟨false, ⟨by kernel_rfl, by kernel_rfl⟩, tot, hs⟩
     replace hs := of_if_f hs h10
     refine CP.drawL (by kernel_rfl) [1, 3, 5, 7, 9, 10, 12, 14, 16, 19, 20, 21, 22, 23, 24, 26] N.baizeref34_Same_0 [⟨none, [], [], fun l g => Box g (t + 1) b1 35 [[.int .i64 x1], encA .u8 d1, [.int .i64 x2], encA .u8 d2, [.slice a1 n1 c1], [.slice a2 n2 c2], [.bool q1]] [1, 8, 1, 8, 1, 1, 1]⟩, ⟨none, [], [], fun l g => RdS (Kd.int .u8) g 5 a1 n1 c1 l1⟩, ⟨none, [], [], fun l g => RdS (Kd.int .u8) g 5 a2 n2 c2 l2⟩, ⟨none, [], [], fun l g => Box g (t + 2) b2 35 [[.int .i64 x3], encA .u8 d3, [.int .i64 x4], encA .u8 d4, [.slice a3 n3 c3], [.slice a4 n4 c4], [.bool q2]] [1, 8, 1, 8, 1, 1, 1]⟩, ⟨none, [], [], fun l g => RdS (Kd.int .u8) g 5 a3 n3 c3 l3⟩, ⟨none, [], [], fun l g => RdS (Kd.int .u8) g 5 a4 n4 c4 l4⟩, ⟨some 0, [], [0], fun l g => l.getD 0 undef = .int .i64 x1⟩, ⟨some 1, [], [1], fun l g => l.getD 0 undef = .int .i64 x3⟩, ⟨some 2, [], [2], fun l g => l.getD 0 undef = .bool true⟩, ⟨some 3, [], [3], fun l g => l.getD 0 undef = AG [encA .u8 d1]⟩, ⟨some 4, [], [4], fun l g => l.getD 0 undef = AG [encA .u8 d3]⟩, ⟨some 5, [], [5], fun l g => l.getD 0 undef = .bool (d1.1 == d3.1)⟩, ⟨some 6, [], [6], fun l g => l.getD 0 undef = .bool true⟩, ⟨some 7, [], [7], fun l g => l.getD 0 undef = .int .i64 x2⟩, ⟨some 8, [], [8], fun l g => l.getD 0 undef = .int .i64 x4⟩, ⟨some 9, [], [9], fun l g => l.getD 0 undef = .bool true⟩, ⟨some 10, [], [10], fun l g => l.getD 0 undef = AG [[.int .i64 x1], encA .u8 d1, [.int .i64 x2], encA .u8 d2, [.slice a1 n1 c1], [.slice a2 n2 c2], [.bool q1]]⟩, ⟨some 11, [], [11], fun l g => l.getD 0 undef = AG [encA .u8 d7]⟩, ⟨some 12, [], [12], fun l g => l.getD 0 undef = AG [[.int .i64 x3], encA .u8 d3, [.int .i64 x4], encA .u8 d4, [.slice a3 n3 c3], [.slice a4 n4 c4], [.bool q2]]⟩, ⟨some 13, [], [13], fun l g => l.getD 0 undef = AG [encA .u8 d8]⟩, ⟨some 14, [], [14], fun l g => l.getD 0 undef = .bool (d7.1 == d8.1)⟩, ⟨some 15, [], [15], fun l g => l.getD 0 undef = .bool false⟩] [[], [], [], [], [], [], [], [], [], [], [], [], [], [], [], []] [] [0, 2] [4, 6, 8, 11, 13, 15, 17, 18, 25, 27, 28, 29, 30, 31, 32, 33, 34, 35, 36, 37, 38, 39, 40, 41, 42, 43, 44, 45, 46, 47] (by kernel_rfl) (by simp) (by simp) ⟨fun _ _ _ _ st h0 hl hj hB1 => (hB1.mono st (fun h => absurd (hl _ h) (by simp))), fun _ _ _ _ st h0 hl hj hR1 => (RdS.mono (e := 5) hR1 st h0), fun _ _ _ _ st h0 hl hj hR2 => (RdS.mono (e := 5) hR2 st h0), fun _ _ _ _ st h0 hl hj hB2 => (hB2.mono st (fun h => absurd (hl _ h) (by simp))), fun _ _ _ _ st h0 hl hj hR3 => (RdS.mono (e := 5) hR3 st h0), fun _ _ _ _ st h0 hl hj hR4 => (RdS.mono (e := 5) hR4 st h0), fun _ _ _ _ st h0 hl hj e0 => e0, fun _ _ _ _ st h0 hl hj e1 => e1, fun _ _ _ _ st h0 hl hj e2 => e2, fun _ _ _ _ st h0 hl hj e3 => e3, fun _ _ _ _ st h0 hl hj e4 => e4, fun _ _ _ _ st h0 hl hj e5 => e5, fun _ _ _ _ st h0 hl hj e6 => e6, fun _ _ _ _ st h0 hl hj e7 => e7, fun _ _ _ _ st h0 hl hj e8 => e8, fun _ _ _ _ st h0 hl hj e9 => e9, fun _ _ _ _ st h0 hl hj e10 => e10, fun _ _ _ _ st h0 hl hj e11 => e11, fun _ _ _ _ st h0 hl hj e12 => e12, fun _ _ _ _ st h0 hl hj e13 => e13, fun _ _ _ _ st h0 hl hj e14 => e14, fun _ _ _ _ st h0 hl hj e15 => e15, tv⟩ ⟨hB1, hR1, hR2, hB2, hR3, hR4, tv, tv, tv, tv, tv, tv, tv, tv, tv, tv, tv, tv, tv, tv, tv, tv, tv⟩ (by kernel_rfl) (fun vs => by kernel_rfl) ?_ ?_ ?_
     ·intro j hj
      have hq : j = 0 ∨ j = 1 ∨ j = 2 ∨ j = 3 ∨ j = 4 ∨ j = 5 ∨ j = 6 ∨ j = 7 ∨ j = 8 ∨ j = 9 ∨ j = 10 ∨ j = 11 ∨ j = 12 ∨ j = 13 ∨ j = 14 ∨ j = 15 ∨ j = 16 ∨ j = 17 ∨ j = 18 ∨ j = 19 ∨ j = 20 ∨ j = 21 ∨ j = 22 ∨ j = 23 ∨ j = 24 ∨ j = 25 ∨ j = 26 ∨ j = 27 ∨ j = 28 ∨ j = 29 := by have h : j < 30 := hj; omega
      rcases hq with rfl | rfl | rfl | rfl | rfl | rfl | rfl | rfl | rfl | rfl | rfl | rfl | rfl | rfl | rfl | rfl | rfl | rfl | rfl | rfl | rfl | rfl | rfl | rfl | rfl | rfl | rfl | rfl | rfl | rfl
      ·intro vs gq stq hl hf
       obtain ⟨v0, v1, v2, v3, v4, v5, v6, v7, v8, v9, v10, v11, v12, v13, v14, v15, rfl⟩ := len_k16 hl
       have e0 := (show v0 = .int .i64 x1 from hf _ (memI 6 rfl) (by kernel_rfl))
       subst e0
       have e1 := (show v1 = .int .i64 x3 from hf _ (memI 7 rfl) (by kernel_rfl))
       subst e1
       show Option.isSome _ = true
       kernel_rfl
      ·intro vs gq stq hl hf
       obtain ⟨v0, v1, v2, v3, v4, v5, v6, v7, v8, v9, v10, v11, v12, v13, v14, v15, rfl⟩ := len_k16 hl
       have e2 := (show v2 = .bool true from hf _ (memI 8 rfl) (by kernel_rfl))
       subst e2
       show Option.isSome _ = true
       kernel_rfl
      ·intro vs gq stq hl hf
       obtain ⟨v0, v1, v2, v3, v4, v5, v6, v7, v8, v9, v10, v11, v12, v13, v14, v15, rfl⟩ := len_k16 hl
       have e2 := (show v2 = .bool true from hf _ (memI 8 rfl) (by kernel_rfl))
       subst e2
       show Option.isSome _ = true
       kernel_rfl
      ·intro vs gq stq hl hf
       obtain ⟨v0, v1, v2, v3, v4, v5, v6, v7, v8, v9, v10, v11, v12, v13, v14, v15, rfl⟩ := len_k16 hl
       have e2 := (show v2 = .bool true from hf _ (memI 8 rfl) (by kernel_rfl))
       subst e2
       have e5 := (show v5 = .bool (d1.1 == d3.1) from hf _ (memI 11 rfl) (by kernel_rfl))
       subst e5
       show Option.isSome _ = true
       kernel_rfl
      ·intro vs gq stq hl hf
       obtain ⟨v0, v1, v2, v3, v4, v5, v6, v7, v8, v9, v10, v11, v12, v13, v14, v15, rfl⟩ := len_k16 hl
       have e6 := (show v6 = .bool true from hf _ (memI 12 rfl) (by kernel_rfl))
       subst e6
       show Option.isSome _ = true
       kernel_rfl
      ·intro vs gq stq hl hf
       obtain ⟨v0, v1, v2, v3, v4, v5, v6, v7, v8, v9, v10, v11, v12, v13, v14, v15, rfl⟩ := len_k16 hl
       have e6 := (show v6 = .bool true from hf _ (memI 12 rfl) (by kernel_rfl))
       subst e6
       show Option.isSome _ = true
       kernel_rfl
      ·intro vs gq stq hl hf
       obtain ⟨v0, v1, v2, v3, v4, v5, v6, v7, v8, v9, v10, v11, v12, v13, v14, v15, rfl⟩ := len_k16 hl
       have e6 := (show v6 = .bool true from hf _ (memI 12 rfl) (by kernel_rfl))
       subst e6
       have e7 := (show v7 = .int .i64 x2 from hf _ (memI 13 rfl) (by kernel_rfl))
       subst e7
       have e8 := (show v8 = .int .i64 x4 from hf _ (memI 14 rfl) (by kernel_rfl))
       subst e8
       show Option.isSome _ = true
       kernel_rfl
      ·intro vs gq stq hl hf
       obtain ⟨v0, v1, v2, v3, v4, v5, v6, v7, v8, v9, v10, v11, v12, v13, v14, v15, rfl⟩ := len_k16 hl
       have e6 := (show v6 = .bool true from hf _ (memI 12 rfl) (by kernel_rfl))
       subst e6
       have e7 := (show v7 = .int .i64 x2 from hf _ (memI 13 rfl) (by kernel_rfl))
       subst e7
       have e8 := (show v8 = .int .i64 x4 from hf _ (memI 14 rfl) (by kernel_rfl))
       subst e8
       show Option.isSome _ = true
       kernel_rfl
      ·intro vs gq stq hl hf
       obtain ⟨v0, v1, v2, v3, v4, v5, v6, v7, v8, v9, v10, v11, v12, v13, v14, v15, rfl⟩ := len_k16 hl
       have e9 := (show v9 = .bool true from hf _ (memI 15 rfl) (by kernel_rfl))
       subst e9
       have e14 := (show v14 = .bool (d7.1 == d8.1) from hf _ (memI 20 rfl) (by kernel_rfl))
       subst e14
       show Option.isSome _ = true
       kernel_rfl
      ·intro vs gq stq hl hf
       obtain ⟨v0, v1, v2, v3, v4, v5, v6, v7, v8, v9, v10, v11, v12, v13, v14, v15, rfl⟩ := len_k16 hl
       have e15 := (show v15 = .bool false from hf _ (memI 21 rfl) (by kernel_rfl))
       subst e15
       show Option.isSome _ = true
       kernel_rfl
      ·intro vs gq stq hl hf
       obtain ⟨v0, v1, v2, v3, v4, v5, v6, v7, v8, v9, v10, v11, v12, v13, v14, v15, rfl⟩ := len_k16 hl
       have e15 := (show v15 = .bool false from hf _ (memI 21 rfl) (by kernel_rfl))
       subst e15
       show Option.isSome _ = true
       kernel_rfl
      ·intro vs gq stq hl hf
       obtain ⟨v0, v1, v2, v3, v4, v5, v6, v7, v8, v9, v10, v11, v12, v13, v14, v15, rfl⟩ := len_k16 hl
       have e15 := (show v15 = .bool false from hf _ (memI 21 rfl) (by kernel_rfl))
       subst e15
       show Option.isSome _ = true
       kernel_rfl
      ·intro vs gq stq hl hf
       obtain ⟨v0, v1, v2, v3, v4, v5, v6, v7, v8, v9, v10, v11, v12, v13, v14, v15, rfl⟩ := len_k16 hl
       have e15 := (show v15 = .bool false from hf _ (memI 21 rfl) (by kernel_rfl))
       subst e15
       show Option.isSome _ = true
       kernel_rfl
      ·intro vs gq stq hl hf
       obtain ⟨v0, v1, v2, v3, v4, v5, v6, v7, v8, v9, v10, v11, v12, v13, v14, v15, rfl⟩ := len_k16 hl
       have e15 := (show v15 = .bool false from hf _ (memI 21 rfl) (by kernel_rfl))
       subst e15
       show Option.isSome _ = true
       kernel_rfl
      ·intro vs gq stq hl hf
       obtain ⟨v0, v1, v2, v3, v4, v5, v6, v7, v8, v9, v10, v11, v12, v13, v14, v15, rfl⟩ := len_k16 hl
       have e15 := (show v15 = .bool false from hf _ (memI 21 rfl) (by kernel_rfl))
       subst e15
       show Option.isSome _ = true
       kernel_rfl
      ·intro vs gq stq hl hf
       obtain ⟨v0, v1, v2, v3, v4, v5, v6, v7, v8, v9, v10, v11, v12, v13, v14, v15, rfl⟩ := len_k16 hl
       have e15 := (show v15 = .bool false from hf _ (memI 21 rfl) (by kernel_rfl))
       subst e15
       show Option.isSome _ = true
       kernel_rfl
      ·intro vs gq stq hl hf
       obtain ⟨v0, v1, v2, v3, v4, v5, v6, v7, v8, v9, v10, v11, v12, v13, v14, v15, rfl⟩ := len_k16 hl
       have e15 := (show v15 = .bool false from hf _ (memI 21 rfl) (by kernel_rfl))
       subst e15
       show Option.isSome _ = true
       kernel_rfl
      ·intro vs gq stq hl hf
       obtain ⟨v0, v1, v2, v3, v4, v5, v6, v7, v8, v9, v10, v11, v12, v13, v14, v15, rfl⟩ := len_k16 hl
       have e15 := (show v15 = .bool false from hf _ (memI 21 rfl) (by kernel_rfl))
       subst e15
       show Option.isSome _ = true
       kernel_rfl
      ·intro vs gq stq hl hf
       obtain ⟨v0, v1, v2, v3, v4, v5, v6, v7, v8, v9, v10, v11, v12, v13, v14, v15, rfl⟩ := len_k16 hl
       have e15 := (show v15 = .bool false from hf _ (memI 21 rfl) (by kernel_rfl))
       subst e15
       show Option.isSome _ = true
       kernel_rfl
      ·intro vs gq stq hl hf
       obtain ⟨v0, v1, v2, v3, v4, v5, v6, v7, v8, v9, v10, v11, v12, v13, v14, v15, rfl⟩ := len_k16 hl
       have e15 := (show v15 = .bool false from hf _ (memI 21 rfl) (by kernel_rfl))
       subst e15
       show Option.isSome _ = true
       kernel_rfl
      ·intro vs gq stq hl hf
       obtain ⟨v0, v1, v2, v3, v4, v5, v6, v7, v8, v9, v10, v11, v12, v13, v14, v15, rfl⟩ := len_k16 hl
       have e15 := (show v15 = .bool false from hf _ (memI 21 rfl) (by kernel_rfl))
       subst e15
       show Option.isSome _ = true
       kernel_rfl
      ·intro vs gq stq hl hf
       obtain ⟨v0, v1, v2, v3, v4, v5, v6, v7, v8, v9, v10, v11, v12, v13, v14, v15, rfl⟩ := len_k16 hl
       have e15 := (show v15 = .bool false from hf _ (memI 21 rfl) (by kernel_rfl))
       subst e15
       show Option.isSome _ = true
       kernel_rfl
      ·intro vs gq stq hl hf
       obtain ⟨v0, v1, v2, v3, v4, v5, v6, v7, v8, v9, v10, v11, v12, v13, v14, v15, rfl⟩ := len_k16 hl
       have e15 := (show v15 = .bool false from hf _ (memI 21 rfl) (by kernel_rfl))
       subst e15
       show Option.isSome _ = true
       kernel_rfl
      ·intro vs gq stq hl hf
       obtain ⟨v0, v1, v2, v3, v4, v5, v6, v7, v8, v9, v10, v11, v12, v13, v14, v15, rfl⟩ := len_k16 hl
       have e15 := (show v15 = .bool false from hf _ (memI 21 rfl) (by kernel_rfl))
       subst e15
       show Option.isSome _ = true
       kernel_rfl
      ·intro vs gq stq hl hf
       obtain ⟨v0, v1, v2, v3, v4, v5, v6, v7, v8, v9, v10, v11, v12, v13, v14, v15, rfl⟩ := len_k16 hl
       have e15 := (show v15 = .bool false from hf _ (memI 21 rfl) (by kernel_rfl))
       subst e15
       show Option.isSome _ = true
       kernel_rfl
      ·intro vs gq stq hl hf
       obtain ⟨v0, v1, v2, v3, v4, v5, v6, v7, v8, v9, v10, v11, v12, v13, v14, v15, rfl⟩ := len_k16 hl
       have e15 := (show v15 = .bool false from hf _ (memI 21 rfl) (by kernel_rfl))
       subst e15
       show Option.isSome _ = true
       kernel_rfl
      ·intro vs gq stq hl hf
       obtain ⟨v0, v1, v2, v3, v4, v5, v6, v7, v8, v9, v10, v11, v12, v13, v14, v15, rfl⟩ := len_k16 hl
       have e15 := (show v15 = .bool false from hf _ (memI 21 rfl) (by kernel_rfl))
       subst e15
       show Option.isSome _ = true
       kernel_rfl
      ·intro vs gq stq hl hf
       obtain ⟨v0, v1, v2, v3, v4, v5, v6, v7, v8, v9, v10, v11, v12, v13, v14, v15, rfl⟩ := len_k16 hl
       have e15 := (show v15 = .bool false from hf _ (memI 21 rfl) (by kernel_rfl))
       subst e15
       show Option.isSome _ = true
       kernel_rfl
      ·intro vs gq stq hl hf
       obtain ⟨v0, v1, v2, v3, v4, v5, v6, v7, v8, v9, v10, v11, v12, v13, v14, v15, rfl⟩ := len_k16 hl
       have e15 := (show v15 = .bool false from hf _ (memI 21 rfl) (by kernel_rfl))
       subst e15
       show Option.isSome _ = true
       kernel_rfl
      ·intro vs gq stq hl hf
       obtain ⟨v0, v1, v2, v3, v4, v5, v6, v7, v8, v9, v10, v11, v12, v13, v14, v15, rfl⟩ := len_k16 hl
       have e15 := (show v15 = .bool false from hf _ (memI 21 rfl) (by kernel_rfl))
       subst e15
       show Option.isSome _ = true
       kernel_rfl
     ·intro j hj
      have hq : j = 0 ∨ j = 1 ∨ j = 2 ∨ j = 3 ∨ j = 4 ∨ j = 5 ∨ j = 6 ∨ j = 7 ∨ j = 8 ∨ j = 9 ∨ j = 10 ∨ j = 11 ∨ j = 12 ∨ j = 13 ∨ j = 14 ∨ j = 15 := by have h : j < 16 := hj; omega
      rcases hq with rfl | rfl | rfl | rfl | rfl | rfl | rfl | rfl | rfl | rfl | rfl | rfl | rfl | rfl | rfl | rfl
      ·intro vs gq stq hl hf
       obtain ⟨v0, v1, v2, v3, v4, v5, v6, v7, v8, v9, v10, v11, v12, v13, v14, v15, rfl⟩ := len_k16 hl
       have hB1 := (show Box gq (t + 1) b1 35 [[.int .i64 x1], encA .u8 d1, [.int .i64 x2], encA .u8 d2, [.slice a1 n1 c1], [.slice a2 n2 c2], [.bool q1]] [1, 8, 1, 8, 1, 1, 1] from hf _ (memI 0 rfl) (by kernel_rfl))
       refine WP.loadB (v := .int .i64 x1) hB1 (by kernel_rfl) (by kernel_rfl) ?_
       refine WP.dn (Shown.ok (v := .int .i64 x1) (by kernel_rfl) (Step.refl _ _) ?_)
       exact ⟨tv, tv, tv, tv, tv, tv, rfl, tv, tv, tv, tv, tv, tv, tv, tv, tv, tv, tv, tv, tv, tv, tv, tv⟩
      ·intro vs gq stq hl hf
       obtain ⟨v0, v1, v2, v3, v4, v5, v6, v7, v8, v9, v10, v11, v12, v13, v14, v15, rfl⟩ := len_k16 hl
       have hB2 := (show Box gq (t + 2) b2 35 [[.int .i64 x3], encA .u8 d3, [.int .i64 x4], encA .u8 d4, [.slice a3 n3 c3], [.slice a4 n4 c4], [.bool q2]] [1, 8, 1, 8, 1, 1, 1] from hf _ (memI 3 rfl) (by kernel_rfl))
       refine WP.loadB (v := .int .i64 x3) hB2 (by kernel_rfl) (by kernel_rfl) ?_
       refine WP.dn (Shown.ok (v := .int .i64 x3) (by kernel_rfl) (Step.refl _ _) ?_)
       exact ⟨tv, tv, tv, tv, tv, tv, tv, rfl, tv, tv, tv, tv, tv, tv, tv, tv, tv, tv, tv, tv, tv, tv, tv⟩
      ·intro vs gq stq hl hf
       obtain ⟨v0, v1, v2, v3, v4, v5, v6, v7, v8, v9, v10, v11, v12, v13, v14, v15, rfl⟩ := len_k16 hl
       have e0 := (show v0 = .int .i64 x1 from hf _ (memI 6 rfl) (by kernel_rfl))
       subst e0
       have e1 := (show v1 = .int .i64 x3 from hf _ (memI 7 rfl) (by kernel_rfl))
       subst e1
       refine WP.stl 1 ?_
       refine WP.dn (Shown.ok (v := .bool (x1 == x3)) (by kernel_rfl) (Step.refl _ _) ?_)
       exact ⟨tv, tv, tv, tv, tv, tv, tv, tv, congrArg Value.bool h7, tv, tv, tv, tv, tv, tv, tv, tv, tv, tv, tv, tv, tv, tv⟩
      ·intro vs gq stq hl hf
       obtain ⟨v0, v1, v2, v3, v4, v5, v6, v7, v8, v9, v10, v11, v12, v13, v14, v15, rfl⟩ := len_k16 hl
       have hB1 := (show Box gq (t + 1) b1 35 [[.int .i64 x1], encA .u8 d1, [.int .i64 x2], encA .u8 d2, [.slice a1 n1 c1], [.slice a2 n2 c2], [.bool q1]] [1, 8, 1, 8, 1, 1, 1] from hf _ (memI 0 rfl) (by kernel_rfl))
       have e2 := (show v2 = .bool true from hf _ (memI 8 rfl) (by kernel_rfl))
       subst e2
       refine WP.loadB (v := AG [encA .u8 d1]) hB1 (by kernel_rfl) (by kernel_rfl) ?_
       refine WP.dn (Shown.ok (v := AG [encA .u8 d1]) (by kernel_rfl) (Step.refl _ _) ?_)
       exact ⟨tv, tv, tv, tv, tv, tv, tv, tv, tv, rfl, tv, tv, tv, tv, tv, tv, tv, tv, tv, tv, tv, tv, tv⟩
      ·intro vs gq stq hl hf
       obtain ⟨v0, v1, v2, v3, v4, v5, v6, v7, v8, v9, v10, v11, v12, v13, v14, v15, rfl⟩ := len_k16 hl
       have hB2 := (show Box gq (t + 2) b2 35 [[.int .i64 x3], encA .u8 d3, [.int .i64 x4], encA .u8 d4, [.slice a3 n3 c3], [.slice a4 n4 c4], [.bool q2]] [1, 8, 1, 8, 1, 1, 1] from hf _ (memI 3 rfl) (by kernel_rfl))
       have e2 := (show v2 = .bool true from hf _ (memI 8 rfl) (by kernel_rfl))
       subst e2
       refine WP.loadB (v := AG [encA .u8 d3]) hB2 (by kernel_rfl) (by kernel_rfl) ?_
       refine WP.dn (Shown.ok (v := AG [encA .u8 d3]) (by kernel_rfl) (Step.refl _ _) ?_)
       exact ⟨tv, tv, tv, tv, tv, tv, tv, tv, tv, tv, rfl, tv, tv, tv, tv, tv, tv, tv, tv, tv, tv, tv, tv⟩
      ·intro vs gq stq hl hf
       obtain ⟨v0, v1, v2, v3, v4, v5, v6, v7, v8, v9, v10, v11, v12, v13, v14, v15, rfl⟩ := len_k16 hl
       have e2 := (show v2 = .bool true from hf _ (memI 8 rfl) (by kernel_rfl))
       subst e2
       have e3 := (show v3 = AG [encA .u8 d1] from hf _ (memI 9 rfl) (by kernel_rfl))
       subst e3
       have e4 := (show v4 = AG [encA .u8 d3] from hf _ (memI 10 rfl) (by kernel_rfl))
       subst e4
       refine WP.eqV (by kernel_rfl) (by kernel_rfl) (EqV.arr (d := 9998) (t := 32) (e := 5) (m := 8) (k := .u8) (x := d1) (y := d3) (by kernel_rfl) (by kernel_rfl)) ?_
       refine WP.dn (Shown.ok (v := .bool (d1.1 == d3.1)) (by kernel_rfl) (Step.refl _ _) ?_)
       exact ⟨tv, tv, tv, tv, tv, tv, tv, tv, tv, tv, tv, rfl, tv, tv, tv, tv, tv, tv, tv, tv, tv, tv, tv⟩
      ·intro vs gq stq hl hf
       obtain ⟨v0, v1, v2, v3, v4, v5, v6, v7, v8, v9, v10, v11, v12, v13, v14, v15, rfl⟩ := len_k16 hl
       have e2 := (show v2 = .bool true from hf _ (memI 8 rfl) (by kernel_rfl))
       subst e2
       have e5 := (show v5 = .bool (d1.1 == d3.1) from hf _ (memI 11 rfl) (by kernel_rfl))
       subst e5
       refine WP.stl 1 ?_
       refine WP.dn (Shown.ok (v := .bool (d1.1 == d3.1)) (by kernel_rfl) (Step.refl _ _) ?_)
       exact ⟨tv, tv, tv, tv, tv, tv, tv, tv, tv, tv, tv, tv, congrArg Value.bool h8, tv, tv, tv, tv, tv, tv, tv, tv, tv, tv⟩
      ·intro vs gq stq hl hf
       obtain ⟨v0, v1, v2, v3, v4, v5, v6, v7, v8, v9, v10, v11, v12, v13, v14, v15, rfl⟩ := len_k16 hl
       have hB1 := (show Box gq (t + 1) b1 35 [[.int .i64 x1], encA .u8 d1, [.int .i64 x2], encA .u8 d2, [.slice a1 n1 c1], [.slice a2 n2 c2], [.bool q1]] [1, 8, 1, 8, 1, 1, 1] from hf _ (memI 0 rfl) (by kernel_rfl))
       have e6 := (show v6 = .bool true from hf _ (memI 12 rfl) (by kernel_rfl))
       subst e6
       refine WP.loadB (v := .int .i64 x2) hB1 (by kernel_rfl) (by kernel_rfl) ?_
       refine WP.dn (Shown.ok (v := .int .i64 x2) (by kernel_rfl) (Step.refl _ _) ?_)
       exact ⟨tv, tv, tv, tv, tv, tv, tv, tv, tv, tv, tv, tv, tv, rfl, tv, tv, tv, tv, tv, tv, tv, tv, tv⟩
      ·intro vs gq stq hl hf
       obtain ⟨v0, v1, v2, v3, v4, v5, v6, v7, v8, v9, v10, v11, v12, v13, v14, v15, rfl⟩ := len_k16 hl
       have hB2 := (show Box gq (t + 2) b2 35 [[.int .i64 x3], encA .u8 d3, [.int .i64 x4], encA .u8 d4, [.slice a3 n3 c3], [.slice a4 n4 c4], [.bool q2]] [1, 8, 1, 8, 1, 1, 1] from hf _ (memI 3 rfl) (by kernel_rfl))
       have e6 := (show v6 = .bool true from hf _ (memI 12 rfl) (by kernel_rfl))
       subst e6
       refine WP.loadB (v := .int .i64 x4) hB2 (by kernel_rfl) (by kernel_rfl) ?_
       refine WP.dn (Shown.ok (v := .int .i64 x4) (by kernel_rfl) (Step.refl _ _) ?_)
       exact ⟨tv, tv, tv, tv, tv, tv, tv, tv, tv, tv, tv, tv, tv, tv, rfl, tv, tv, tv, tv, tv, tv, tv, tv⟩
      ·intro vs gq stq hl hf
       obtain ⟨v0, v1, v2, v3, v4, v5, v6, v7, v8, v9, v10, v11, v12, v13, v14, v15, rfl⟩ := len_k16 hl
       have e6 := (show v6 = .bool true from hf _ (memI 12 rfl) (by kernel_rfl))
       subst e6
       have e7 := (show v7 = .int .i64 x2 from hf _ (memI 13 rfl) (by kernel_rfl))
       subst e7
       have e8 := (show v8 = .int .i64 x4 from hf _ (memI 14 rfl) (by kernel_rfl))
       subst e8
       refine WP.stl 1 ?_
       refine WP.dn (Shown.ok (v := .bool (x2 == x4)) (by kernel_rfl) (Step.refl _ _) ?_)
       exact ⟨tv, tv, tv, tv, tv, tv, tv, tv, tv, tv, tv, tv, tv, tv, tv, congrArg Value.bool h9, tv, tv, tv, tv, tv, tv, tv⟩
      ·intro vs gq stq hl hf
       obtain ⟨v0, v1, v2, v3, v4, v5, v6, v7, v8, v9, v10, v11, v12, v13, v14, v15, rfl⟩ := len_k16 hl
       have hB1 := (show Box gq (t + 1) b1 35 [[.int .i64 x1], encA .u8 d1, [.int .i64 x2], encA .u8 d2, [.slice a1 n1 c1], [.slice a2 n2 c2], [.bool q1]] [1, 8, 1, 8, 1, 1, 1] from hf _ (memI 0 rfl) (by kernel_rfl))
       have e9 := (show v9 = .bool true from hf _ (memI 15 rfl) (by kernel_rfl))
       subst e9
       refine WP.loadB (v := AG [[.int .i64 x1], encA .u8 d1, [.int .i64 x2], encA .u8 d2, [.slice a1 n1 c1], [.slice a2 n2 c2], [.bool q1]]) hB1 (by kernel_rfl) (by kernel_rfl) ?_
       refine WP.dn (Shown.ok (v := AG [[.int .i64 x1], encA .u8 d1, [.int .i64 x2], encA .u8 d2, [.slice a1 n1 c1], [.slice a2 n2 c2], [.bool q1]]) (by kernel_rfl) (Step.refl _ _) ?_)
       exact ⟨tv, tv, tv, tv, tv, tv, tv, tv, tv, tv, tv, tv, tv, tv, tv, tv, rfl, tv, tv, tv, tv, tv, tv⟩
      ·intro vs gq stq hl hf
       obtain ⟨v0, v1, v2, v3, v4, v5, v6, v7, v8, v9, v10, v11, v12, v13, v14, v15, rfl⟩ := len_k16 hl
       have hR1 := (show RdS (Kd.int .u8) gq 5 a1 n1 c1 l1 from hf _ (memI 1 rfl) (by kernel_rfl))
       have hR2 := (show RdS (Kd.int .u8) gq 5 a2 n2 c2 l2 from hf _ (memI 2 rfl) (by kernel_rfl))
       have e9 := (show v9 = .bool true from hf _ (memI 15 rfl) (by kernel_rfl))
       subst e9
       have e10 := (show v10 = AG [[.int .i64 x1], encA .u8 d1, [.int .i64 x2], encA .u8 d2, [.slice a1 n1 c1], [.slice a2 n2 c2], [.bool q1]] from hf _ (memI 16 rfl) (by kernel_rfl))
       subst e10
       have hcal5 := P.baizeref34_At gq x1 d1 x2 d2 l1 l2 q1 a1 n1 c1 a2 n2 c2 hR1 hR2 d7 hk5
       refine WP.callC hcal5 (by kernel_rfl) ?_
       rintro _ g7 st7 rfl
       refine WP.dn (Shown.o (v := AG [encA .u8 d7]) st7.pure ?_)
       exact ⟨tv, tv, tv, tv, tv, tv, tv, tv, tv, tv, tv, tv, tv, tv, tv, tv, tv, rfl, tv, tv, tv, tv, tv⟩
      ·intro vs gq stq hl hf
       obtain ⟨v0, v1, v2, v3, v4, v5, v6, v7, v8, v9, v10, v11, v12, v13, v14, v15, rfl⟩ := len_k16 hl
       have hB2 := (show Box gq (t + 2) b2 35 [[.int .i64 x3], encA .u8 d3, [.int .i64 x4], encA .u8 d4, [.slice a3 n3 c3], [.slice a4 n4 c4], [.bool q2]] [1, 8, 1, 8, 1, 1, 1] from hf _ (memI 3 rfl) (by kernel_rfl))
       have e9 := (show v9 = .bool true from hf _ (memI 15 rfl) (by kernel_rfl))
       subst e9
       refine WP.loadB (v := AG [[.int .i64 x3], encA .u8 d3, [.int .i64 x4], encA .u8 d4, [.slice a3 n3 c3], [.slice a4 n4 c4], [.bool q2]]) hB2 (by kernel_rfl) (by kernel_rfl) ?_
       refine WP.dn (Shown.ok (v := AG [[.int .i64 x3], encA .u8 d3, [.int .i64 x4], encA .u8 d4, [.slice a3 n3 c3], [.slice a4 n4 c4], [.bool q2]]) (by kernel_rfl) (Step.refl _ _) ?_)
       exact ⟨tv, tv, tv, tv, tv, tv, tv, tv, tv, tv, tv, tv, tv, tv, tv, tv, tv, tv, rfl, tv, tv, tv, tv⟩
      ·intro vs gq stq hl hf
       obtain ⟨v0, v1, v2, v3, v4, v5, v6, v7, v8, v9, v10, v11, v12, v13, v14, v15, rfl⟩ := len_k16 hl
       have hR3 := (show RdS (Kd.int .u8) gq 5 a3 n3 c3 l3 from hf _ (memI 4 rfl) (by kernel_rfl))
       have hR4 := (show RdS (Kd.int .u8) gq 5 a4 n4 c4 l4 from hf _ (memI 5 rfl) (by kernel_rfl))
       have e9 := (show v9 = .bool true from hf _ (memI 15 rfl) (by kernel_rfl))
       subst e9
       have e12 := (show v12 = AG [[.int .i64 x3], encA .u8 d3, [.int .i64 x4], encA .u8 d4, [.slice a3 n3 c3], [.slice a4 n4 c4], [.bool q2]] from hf _ (memI 18 rfl) (by kernel_rfl))
       subst e12
       have hcal6 := P.baizeref34_At gq x3 d3 x4 d4 l3 l4 q2 a3 n3 c3 a4 n4 c4 hR3 hR4 d8 hk6
       refine WP.callC hcal6 (by kernel_rfl) ?_
       rintro _ g8 st8 rfl
       refine WP.dn (Shown.o (v := AG [encA .u8 d8]) st8.pure ?_)
       exact ⟨tv, tv, tv, tv, tv, tv, tv, tv, tv, tv, tv, tv, tv, tv, tv, tv, tv, tv, tv, rfl, tv, tv, tv⟩
      ·intro vs gq stq hl hf
       obtain ⟨v0, v1, v2, v3, v4, v5, v6, v7, v8, v9, v10, v11, v12, v13, v14, v15, rfl⟩ := len_k16 hl
       have e9 := (show v9 = .bool true from hf _ (memI 15 rfl) (by kernel_rfl))
       subst e9
       have e11 := (show v11 = AG [encA .u8 d7] from hf _ (memI 17 rfl) (by kernel_rfl))
       subst e11
       have e13 := (show v13 = AG [encA .u8 d8] from hf _ (memI 19 rfl) (by kernel_rfl))
       subst e13
       refine WP.eqV (by kernel_rfl) (by kernel_rfl) (EqV.arr (d := 9998) (t := 32) (e := 5) (m := 8) (k := .u8) (x := d7) (y := d8) (by kernel_rfl) (by kernel_rfl)) ?_
       refine WP.dn (Shown.ok (v := .bool (d7.1 == d8.1)) (by kernel_rfl) (Step.refl _ _) ?_)
       exact ⟨tv, tv, tv, tv, tv, tv, tv, tv, tv, tv, tv, tv, tv, tv, tv, tv, tv, tv, tv, tv, rfl, tv, tv⟩
      ·intro vs gq stq hl hf
       obtain ⟨v0, v1, v2, v3, v4, v5, v6, v7, v8, v9, v10, v11, v12, v13, v14, v15, rfl⟩ := len_k16 hl
       have e9 := (show v9 = .bool true from hf _ (memI 15 rfl) (by kernel_rfl))
       subst e9
       have e14 := (show v14 = .bool (d7.1 == d8.1) from hf _ (memI 20 rfl) (by kernel_rfl))
       subst e14
       refine WP.stl 1 ?_
       refine WP.dn (Shown.ok (v := .bool (d7.1 == d8.1)) (by kernel_rfl) (Step.refl _ _) ?_)
       exact ⟨tv, tv, tv, tv, tv, tv, tv, tv, tv, tv, tv, tv, tv, tv, tv, tv, tv, tv, tv, tv, tv, congrArg Value.bool h10, tv⟩
     intro vs g14 st14 hl hf
     obtain ⟨v0, v1, v2, v3, v4, v5, v6, v7, v8, v9, v10, v11, v12, v13, v14, v15, rfl⟩ := len_k16 hl
     have e15 := (show v15 = .bool false from hf _ (memI 21 rfl) (by kernel_rfl))
     subst e15
     replace tot := tot.trans st14.toNo.pure
     refine NX.post ?_
     exact ⟨false, ⟨by kernel_rfl, by kernel_rfl⟩, tot, hs⟩
    replace hs := of_if_f hs h9
    refine CP.drawL (by kernel_rfl) [1, 3, 5, 7, 9, 10, 12, 14, 16, 19] N.baizeref34_Same_0 [⟨none, [], [], fun l g => Box g (t + 1) b1 35 [[.int .i64 x1], encA .u8 d1, [.int .i64 x2], encA .u8 d2, [.slice a1 n1 c1], [.slice a2 n2 c2], [.bool q1]] [1, 8, 1, 8, 1, 1, 1]⟩, ⟨none, [], [], fun l g => Box g (t + 2) b2 35 [[.int .i64 x3], encA .u8 d3, [.int .i64 x4], encA .u8 d4, [.slice a3 n3 c3], [.slice a4 n4 c4], [.bool q2]] [1, 8, 1, 8, 1, 1, 1]⟩, ⟨some 0, [], [0], fun l g => l.getD 0 undef = .int .i64 x1⟩, ⟨some 1, [], [1], fun l g => l.getD 0 undef = .int .i64 x3⟩, ⟨some 2, [], [2], fun l g => l.getD 0 undef = .bool true⟩, ⟨some 3, [], [3], fun l g => l.getD 0 undef = AG [encA .u8 d1]⟩, ⟨some 4, [], [4], fun l g => l.getD 0 undef = AG [encA .u8 d3]⟩, ⟨some 5, [], [5], fun l g => l.getD 0 undef = .bool (d1.1 == d3.1)⟩, ⟨some 6, [], [6], fun l g => l.getD 0 undef = .bool true⟩, ⟨some 7, [], [7], fun l g => l.getD 0 undef = .int .i64 x2⟩, ⟨some 8, [], [8], fun l g => l.getD 0 undef = .int .i64 x4⟩, ⟨some 9, [], [9], fun l g => l.getD 0 undef = .bool false⟩] [[], [], [], [], [], [], [], [], [], []] [] [0, 2] [4, 6, 8, 11, 13, 15, 17, 18, 20, 21, 22, 23, 24, 25, 26, 27, 28, 29, 30, 31, 32, 33, 34, 35, 36, 37, 38, 39, 40, 41, 42, 43, 44, 45, 46, 47] (by kernel_rfl) (by simp) (by simp) ⟨fun _ _ _ _ st h0 hl hj hB1 => (hB1.mono st (fun h => absurd (hl _ h) (by simp))), fun _ _ _ _ st h0 hl hj hB2 => (hB2.mono st (fun h => absurd (hl _ h) (by simp))), fun _ _ _ _ st h0 hl hj e0 => e0, fun _ _ _ _ st h0 hl hj e1 => e1, fun _ _ _ _ st h0 hl hj e2 => e2, fun _ _ _ _ st h0 hl hj e3 => e3, fun _ _ _ _ st h0 hl hj e4 => e4, fun _ _ _ _ st h0 hl hj e5 => e5, fun _ _ _ _ st h0 hl hj e6 => e6, fun _ _ _ _ st h0 hl hj e7 => e7, fun _ _ _ _ st h0 hl hj e8 => e8, fun _ _ _ _ st h0 hl hj e9 => e9, tv⟩ ⟨hB1, hB2, tv, tv, tv, tv, tv, tv, tv, tv, tv, tv, tv⟩ (by kernel_rfl) (fun vs => by kernel_rfl) ?_ ?_ ?_
    ·intro j hj
     have hq : j = 0 ∨ j = 1 ∨ j = 2 ∨ j = 3 ∨ j = 4 ∨ j = 5 ∨ j = 6 ∨ j = 7 ∨ j = 8 ∨ j = 9 ∨ j = 10 ∨ j = 11 ∨ j = 12 ∨ j = 13 ∨ j = 14 ∨ j = 15 ∨ j = 16 ∨ j = 17 ∨ j = 18 ∨ j = 19 ∨ j = 20 ∨ j = 21 ∨ j = 22 ∨ j = 23 ∨ j = 24 ∨ j = 25 ∨ j = 26 ∨ j = 27 ∨ j = 28 ∨ j = 29 ∨ j = 30 ∨ j = 31 ∨ j = 32 ∨ j = 33 ∨ j = 34 ∨ j = 35 := by have h : j < 36 := hj; omega
     rcases hq with rfl | rfl | rfl | rfl | rfl | rfl | rfl | rfl | rfl | rfl | rfl | rfl | rfl | rfl | rfl | rfl | rfl | rfl | rfl | rfl | rfl | rfl | rfl | rfl | rfl | rfl | rfl | rfl | rfl | rfl | rfl | rfl | rfl | rfl | rfl | rfl
     ·intro vs gq stq hl hf
      obtain ⟨v0, v1, v2, v3, v4, v5, v6, v7, v8, v9, rfl⟩ := len_k10 hl
      have e0 := (show v0 = .int .i64 x1 from hf _ (memI 2 rfl) (by kernel_rfl))
      subst e0
      have e1 := (show v1 = .int .i64 x3 from hf _ (memI 3 rfl) (by kernel_rfl))
      subst e1
      show Option.isSome _ = true
      kernel_rfl
     ·intro vs gq stq hl hf
      obtain ⟨v0, v1, v2, v3, v4, v5, v6, v7, v8, v9, rfl⟩ := len_k10 hl
      have e2 := (show v2 = .bool true from hf _ (memI 4 rfl) (by kernel_rfl))
      subst e2
      show Option.isSome _ = true
      kernel_rfl
     ·intro vs gq stq hl hf
      obtain ⟨v0, v1, v2, v3, v4, v5, v6, v7, v8, v9, rfl⟩ := len_k10 hl
      have e2 := (show v2 = .bool true from hf _ (memI 4 rfl) (by kernel_rfl))
      subst e2
      show Option.isSome _ = true
      kernel_rfl
     ·intro vs gq stq hl hf
      obtain ⟨v0, v1, v2, v3, v4, v5, v6, v7, v8, v9, rfl⟩ := len_k10 hl
      have e2 := (show v2 = .bool true from hf _ (memI 4 rfl) (by kernel_rfl))
      subst e2
      have e5 := (show v5 = .bool (d1.1 == d3.1) from hf _ (memI 7 rfl) (by kernel_rfl))
      subst e5
      show Option.isSome _ = true
      kernel_rfl
     ·intro vs gq stq hl hf
      obtain ⟨v0, v1, v2, v3, v4, v5, v6, v7, v8, v9, rfl⟩ := len_k10 hl
      have e6 := (show v6 = .bool true from hf _ (memI 8 rfl) (by kernel_rfl))
      subst e6
      show Option.isSome _ = true
      kernel_rfl
     ·intro vs gq stq hl hf
      obtain ⟨v0, v1, v2, v3, v4, v5, v6, v7, v8, v9, rfl⟩ := len_k10 hl
      have e6 := (show v6 = .bool true from hf _ (memI 8 rfl) (by kernel_rfl))
      subst e6
      show Option.isSome _ = true
      kernel_rfl
     ·intro vs gq stq hl hf
      obtain ⟨v0, v1, v2, v3, v4, v5, v6, v7, v8, v9, rfl⟩ := len_k10 hl
      have e6 := (show v6 = .bool true from hf _ (memI 8 rfl) (by kernel_rfl))
      subst e6
      have e7 := (show v7 = .int .i64 x2 from hf _ (memI 9 rfl) (by kernel_rfl))
      subst e7
      have e8 := (show v8 = .int .i64 x4 from hf _ (memI 10 rfl) (by kernel_rfl))
      subst e8
      show Option.isSome _ = true
      kernel_rfl
     ·intro vs gq stq hl hf
      obtain ⟨v0, v1, v2, v3, v4, v5, v6, v7, v8, v9, rfl⟩ := len_k10 hl
      have e6 := (show v6 = .bool true from hf _ (memI 8 rfl) (by kernel_rfl))
      subst e6
      have e7 := (show v7 = .int .i64 x2 from hf _ (memI 9 rfl) (by kernel_rfl))
      subst e7
      have e8 := (show v8 = .int .i64 x4 from hf _ (memI 10 rfl) (by kernel_rfl))
      subst e8
      show Option.isSome _ = true
      kernel_rfl
     ·intro vs gq stq hl hf
      obtain ⟨v0, v1, v2, v3, v4, v5, v6, v7, v8, v9, rfl⟩ := len_k10 hl
      have e9 := (show v9 = .bool false from hf _ (memI 11 rfl) (by kernel_rfl))
      subst e9
      show Option.isSome _ = true
      kernel_rfl
     ·intro vs gq stq hl hf
      obtain ⟨v0, v1, v2, v3, v4, v5, v6, v7, v8, v9, rfl⟩ := len_k10 hl
      have e9 := (show v9 = .bool false from hf _ (memI 11 rfl) (by kernel_rfl))
      subst e9
      show Option.isSome _ = true
      kernel_rfl
     ·intro vs gq stq hl hf
      obtain ⟨v0, v1, v2, v3, v4, v5, v6, v7, v8, v9, rfl⟩ := len_k10 hl
      have e9 := (show v9 = .bool false from hf _ (memI 11 rfl) (by kernel_rfl))
      subst e9
      show Option.isSome _ = true
      kernel_rfl
     ·intro vs gq stq hl hf
      obtain ⟨v0, v1, v2, v3, v4, v5, v6, v7, v8, v9, rfl⟩ := len_k10 hl
      have e9 := (show v9 = .bool false from hf _ (memI 11 rfl) (by kernel_rfl))
      subst e9
      show Option.isSome _ = true
      kernel_rfl
     ·intro vs gq stq hl hf
      obtain ⟨v0, v1, v2, v3, v4, v5, v6, v7, v8, v9, rfl⟩ := len_k10 hl
      have e9 := (show v9 = .bool false from hf _ (memI 11 rfl) (by kernel_rfl))
      subst e9
      show Option.isSome _ = true
      kernel_rfl
     ·intro vs gq stq hl hf
      obtain ⟨v0, v1, v2, v3, v4, v5, v6, v7, v8, v9, rfl⟩ := len_k10 hl
      have e9 := (show v9 = .bool false from hf _ (memI 11 rfl) (by kernel_rfl))
      subst e9
      show Option.isSome _ = true
      kernel_rfl
     ·intro vs gq stq hl hf
      obtain ⟨v0, v1, v2, v3, v4, v5, v6, v7, v8, v9, rfl⟩ := len_k10 hl
      have e9 := (show v9 = .bool false from hf _ (memI 11 rfl) (by kernel_rfl))
      subst e9
      show Option.isSome _ = true
      kernel_rfl
     ·intro vs gq stq hl hf
      obtain ⟨v0, v1, v2, v3, v4, v5, v6, v7, v8, v9, rfl⟩ := len_k10 hl
      have e9 := (show v9 = .bool false from hf _ (memI 11 rfl) (by kernel_rfl))
      subst e9
      show Option.isSome _ = true
      kernel_rfl
     ·intro vs gq stq hl hf
      obtain ⟨v0, v1, v2, v3, v4, v5, v6, v7, v8, v9, rfl⟩ := len_k10 hl
      have e9 := (show v9 = .bool false from hf _ (memI 11 rfl) (by kernel_rfl))
      subst e9
      show Option.isSome _ = true
      kernel_rfl
     ·intro vs gq stq hl hf
      obtain ⟨v0, v1, v2, v3, v4, v5, v6, v7, v8, v9, rfl⟩ := len_k10 hl
      have e9 := (show v9 = .bool false from hf _ (memI 11 rfl) (by kernel_rfl))
      subst e9
      show Option.isSome _ = true
      kernel_rfl
     ·intro vs gq stq hl hf
      obtain ⟨v0, v1, v2, v3, v4, v5, v6, v7, v8, v9, rfl⟩ := len_k10 hl
      have e9 := (show v9 = .bool false from hf _ (memI 11 rfl) (by kernel_rfl))
      subst e9
      show Option.isSome _ = true
      kernel_rfl
     ·intro vs gq stq hl hf
      obtain ⟨v0, v1, v2, v3, v4, v5, v6, v7, v8, v9, rfl⟩ := len_k10 hl
      have e9 := (show v9 = .bool false from hf _ (memI 11 rfl) (by kernel_rfl))
      subst e9
      show Option.isSome _ = true
      kernel_rfl
     ·intro vs gq stq hl hf
      obtain ⟨v0, v1, v2, v3, v4, v5, v6, v7, v8, v9, rfl⟩ := len_k10 hl
      have e9 := (show v9 = .bool false from hf _ (memI 11 rfl) (by kernel_rfl))
      subst e9
      show Option.isSome _ = true
      kernel_rfl
     ·intro vs gq stq hl hf
      obtain ⟨v0, v1, v2, v3, v4, v5, v6, v7, v8, v9, rfl⟩ := len_k10 hl
      have e9 := (show v9 = .bool false from hf _ (memI 11 rfl) (by kernel_rfl))
      subst e9
      show Option.isSome _ = true
      kernel_rfl
     ·intro vs gq stq hl hf
      obtain ⟨v0, v1, v2, v3, v4, v5, v6, v7, v8, v9, rfl⟩ := len_k10 hl
      have e9 := (show v9 = .bool false from hf _ (memI 11 rfl) (by kernel_rfl))
      subst e9
      show Option.isSome _ = true
      kernel_rfl
     ·intro vs gq stq hl hf
      obtain ⟨v0, v1, v2, v3, v4, v5, v6, v7, v8, v9, rfl⟩ := len_k10 hl
      have e9 := (show v9 = .bool false from hf _ (memI 11 rfl) (by kernel_rfl))
      subst e9
      show Option.isSome _ = true
      kernel_rfl
     ·intro vs gq stq hl hf
      obtain ⟨v0, v1, v2, v3, v4, v5, v6, v7, v8, v9, rfl⟩ := len_k10 hl
      have e9 := (show v9 = .bool false from hf _ (memI 11 rfl) (by kernel_rfl))
      subst e9
      show Option.isSome _ = true
      kernel_rfl
     ·intro vs gq stq hl hf
      obtain ⟨v0, v1, v2, v3, v4, v5, v6, v7, v8, v9, rfl⟩ := len_k10 hl
      have e9 := (show v9 = .bool false from hf _ (memI 11 rfl) (by kernel_rfl))
      subst e9
      show Option.isSome _ = true
      kernel_rfl
     ·intro vs gq stq hl hf
      obtain ⟨v0, v1, v2, v3, v4, v5, v6, v7, v8, v9, rfl⟩ := len_k10 hl
      have e9 := (show v9 = .bool false from hf _ (memI 11 rfl) (by kernel_rfl))
      subst e9
      show Option.isSome _ = true
      kernel_rfl
     ·intro vs gq stq hl hf
      obtain ⟨v0, v1, v2, v3, v4, v5, v6, v7, v8, v9, rfl⟩ := len_k10 hl
      have e9 := (show v9 = .bool false from hf _ (memI 11 rfl) (by kernel_rfl))
      subst e9
      show Option.isSome _ = true
      kernel_rfl
     ·intro vs gq stq hl hf
      obtain ⟨v0, v1, v2, v3, v4, v5, v6, v7, v8, v9, rfl⟩ := len_k10 hl
      have e9 := (show v9 = .bool false from hf _ (memI 11 rfl) (by kernel_rfl))
      subst e9
      show Option.isSome _ = true
      kernel_rfl
     ·intro vs gq stq hl hf
      obtain ⟨v0, v1, v2, v3, v4, v5, v6, v7, v8, v9, rfl⟩ := len_k10 hl
      have e9 := (show v9 = .bool false from hf _ (memI 11 rfl) (by kernel_rfl))
      subst e9
      show Option.isSome _ = true
      kernel_rfl
     ·intro vs gq stq hl hf
      obtain ⟨v0, v1, v2, v3, v4, v5, v6, v7, v8, v9, rfl⟩ := len_k10 hl
      have e9 := (show v9 = .bool false from hf _ (memI 11 rfl) (by kernel_rfl))
      subst e9
      show Option.isSome _ = true
      kernel_rfl
     ·intro vs gq stq hl hf
      obtain ⟨v0, v1, v2, v3, v4, v5, v6, v7, v8, v9, rfl⟩ := len_k10 hl
      have e9 := (show v9 = .bool false from hf _ (memI 11 rfl) (by kernel_rfl))
      subst e9
      show Option.isSome _ = true
      kernel_rfl
     ·intro vs gq stq hl hf
      obtain ⟨v0, v1, v2, v3, v4, v5, v6, v7, v8, v9, rfl⟩ := len_k10 hl
      have e9 := (show v9 = .bool false from hf _ (memI 11 rfl) (by kernel_rfl))
      subst e9
      show Option.isSome _ = true
      kernel_rfl
     ·intro vs gq stq hl hf
      obtain ⟨v0, v1, v2, v3, v4, v5, v6, v7, v8, v9, rfl⟩ := len_k10 hl
      have e9 := (show v9 = .bool false from hf _ (memI 11 rfl) (by kernel_rfl))
      subst e9
      show Option.isSome _ = true
      kernel_rfl
     ·intro vs gq stq hl hf
      obtain ⟨v0, v1, v2, v3, v4, v5, v6, v7, v8, v9, rfl⟩ := len_k10 hl
      have e9 := (show v9 = .bool false from hf _ (memI 11 rfl) (by kernel_rfl))
      subst e9
      show Option.isSome _ = true
      kernel_rfl
     ·intro vs gq stq hl hf
      obtain ⟨v0, v1, v2, v3, v4, v5, v6, v7, v8, v9, rfl⟩ := len_k10 hl
      have e9 := (show v9 = .bool false from hf _ (memI 11 rfl) (by kernel_rfl))
      subst e9
      show Option.isSome _ = true
      kernel_rfl
    ·intro j hj
     have hq : j = 0 ∨ j = 1 ∨ j = 2 ∨ j = 3 ∨ j = 4 ∨ j = 5 ∨ j = 6 ∨ j = 7 ∨ j = 8 ∨ j = 9 := by have h : j < 10 := hj; omega
     rcases hq with rfl | rfl | rfl | rfl | rfl | rfl | rfl | rfl | rfl | rfl
     ·intro vs gq stq hl hf
      obtain ⟨v0, v1, v2, v3, v4, v5, v6, v7, v8, v9, rfl⟩ := len_k10 hl
      have hB1 := (show Box gq (t + 1) b1 35 [[.int .i64 x1], encA .u8 d1, [.int .i64 x2], encA .u8 d2, [.slice a1 n1 c1], [.slice a2 n2 c2], [.bool q1]] [1, 8, 1, 8, 1, 1, 1] from hf _ (memI 0 rfl) (by kernel_rfl))
      refine WP.loadB (v := .int .i64 x1) hB1 (by kernel_rfl) (by kernel_rfl) ?_
      refine WP.dn (Shown.ok (v := .int .i64 x1) (by kernel_rfl) (Step.refl _ _) ?_)
      exact ⟨tv, tv, rfl, tv, tv, tv, tv, tv, tv, tv, tv, tv, tv⟩
     ·intro vs gq stq hl hf
      obtain ⟨v0, v1, v2, v3, v4, v5, v6, v7, v8, v9, rfl⟩ := len_k10 hl
      have hB2 := (show Box gq (t + 2) b2 35 [[.int .i64 x3], encA .u8 d3, [.int .i64 x4], encA .u8 d4, [.slice a3 n3 c3], [.slice a4 n4 c4], [.bool q2]] [1, 8, 1, 8, 1, 1, 1] from hf _ (memI 1 rfl) (by kernel_rfl))
      refine WP.loadB (v := .int .i64 x3) hB2 (by kernel_rfl) (by kernel_rfl) ?_
      refine WP.dn (Shown.ok (v := .int .i64 x3) (by kernel_rfl) (Step.refl _ _) ?_)
      exact ⟨tv, tv, tv, rfl, tv, tv, tv, tv, tv, tv, tv, tv, tv⟩
     ·intro vs gq stq hl hf
      obtain ⟨v0, v1, v2, v3, v4, v5, v6, v7, v8, v9, rfl⟩ := len_k10 hl
      have e0 := (show v0 = .int .i64 x1 from hf _ (memI 2 rfl) (by kernel_rfl))
      subst e0
      have e1 := (show v1 = .int .i64 x3 from hf _ (memI 3 rfl) (by kernel_rfl))
      subst e1
      refine WP.stl 1 ?_
      refine WP.dn (Shown.ok (v := .bool (x1 == x3)) (by kernel_rfl) (Step.refl _ _) ?_)
      exact ⟨tv, tv, tv, tv, congrArg Value.bool h7, tv, tv, tv, tv, tv, tv, tv, tv⟩
     ·intro vs gq stq hl hf
      obtain ⟨v0, v1, v2, v3, v4, v5, v6, v7, v8, v9, rfl⟩ := len_k10 hl
      have hB1 := (show Box gq (t + 1) b1 35 [[.int .i64 x1], encA .u8 d1, [.int .i64 x2], encA .u8 d2, [.slice a1 n1 c1], [.slice a2 n2 c2], [.bool q1]] [1, 8, 1, 8, 1, 1, 1] from hf _ (memI 0 rfl) (by kernel_rfl))
      have e2 := (show v2 = .bool true from hf _ (memI 4 rfl) (by kernel_rfl))
      subst e2
      refine WP.loadB (v := AG [encA .u8 d1]) hB1 (by kernel_rfl) (by kernel_rfl) ?_
      refine WP.dn (Shown.ok (v := AG [encA .u8 d1]) (by kernel_rfl) (Step.refl _ _) ?_)
      exact ⟨tv, tv, tv, tv, tv, rfl, tv, tv, tv, tv, tv, tv, tv⟩
     ·intro vs gq stq hl hf
      obtain ⟨v0, v1, v2, v3, v4, v5, v6, v7, v8, v9, rfl⟩ := len_k10 hl
      have hB2 := (show Box gq (t + 2) b2 35 [[.int .i64 x3], encA .u8 d3, [.int .i64 x4], encA .u8 d4, [.slice a3 n3 c3], [.slice a4 n4 c4], [.bool q2]] [1, 8, 1, 8, 1, 1, 1] from hf _ (memI 1 rfl) (by kernel_rfl))
      have e2 := (show v2 = .bool true from hf _ (memI 4 rfl) (by kernel_rfl))
      subst e2
      refine WP.loadB (v := AG [encA .u8 d3]) hB2 (by kernel_rfl) (by kernel_rfl) ?_
      refine WP.dn (Shown.ok (v := AG [encA .u8 d3]) (by kernel_rfl) (Step.refl _ _) ?_)
      exact ⟨tv, tv, tv, tv, tv, tv, rfl, tv, tv, tv, tv, tv, tv⟩
     ·intro vs gq stq hl hf
      obtain ⟨v0, v1, v2, v3, v4, v5, v6, v7, v8, v9, rfl⟩ := len_k10 hl
      have e2 := (show v2 = .bool true from hf _ (memI 4 rfl) (by kernel_rfl))
      subst e2
      have e3 := (show v3 = AG [encA .u8 d1] from hf _ (memI 5 rfl) (by kernel_rfl))
      subst e3
      have e4 := (show v4 = AG [encA .u8 d3] from hf _ (memI 6 rfl) (by kernel_rfl))
      subst e4
      refine WP.eqV (by kernel_rfl) (by kernel_rfl) (EqV.arr (d := 9998) (t := 32) (e := 5) (m := 8) (k := .u8) (x := d1) (y := d3) (by kernel_rfl) (by kernel_rfl)) ?_
      refine WP.dn (Shown.ok (v := .bool (d1.1 == d3.1)) (by kernel_rfl) (Step.refl _ _) ?_)
      exact ⟨tv, tv, tv, tv, tv, tv, tv, rfl, tv, tv, tv, tv, tv⟩
     ·intro vs gq stq hl hf
      obtain ⟨v0, v1, v2, v3, v4, v5, v6, v7, v8, v9, rfl⟩ := len_k10 hl
      have e2 := (show v2 = .bool true from hf _ (memI 4 rfl) (by kernel_rfl))
      subst e2
      have e5 := (show v5 = .bool (d1.1 == d3.1) from hf _ (memI 7 rfl) (by kernel_rfl))
      subst e5
      refine WP.stl 1 ?_
      refine WP.dn (Shown.ok (v := .bool (d1.1 == d3.1)) (by kernel_rfl) (Step.refl _ _) ?_)
      exact ⟨tv, tv, tv, tv, tv, tv, tv, tv, congrArg Value.bool h8, tv, tv, tv, tv⟩
     ·intro vs gq stq hl hf
      obtain ⟨v0, v1, v2, v3, v4, v5, v6, v7, v8, v9, rfl⟩ := len_k10 hl
      have hB1 := (show Box gq (t + 1) b1 35 [[.int .i64 x1], encA .u8 d1, [.int .i64 x2], encA .u8 d2, [.slice a1 n1 c1], [.slice a2 n2 c2], [.bool q1]] [1, 8, 1, 8, 1, 1, 1] from hf _ (memI 0 rfl) (by kernel_rfl))
      have e6 := (show v6 = .bool true from hf _ (memI 8 rfl) (by kernel_rfl))
      subst e6
      refine WP.loadB (v := .int .i64 x2) hB1 (by kernel_rfl) (by kernel_rfl) ?_
      refine WP.dn (Shown.ok (v := .int .i64 x2) (by kernel_rfl) (Step.refl _ _) ?_)
      exact ⟨tv, tv, tv, tv, tv, tv, tv, tv, tv, rfl, tv, tv, tv⟩
     ·intro vs gq stq hl hf
      obtain ⟨v0, v1, v2, v3, v4, v5, v6, v7, v8, v9, rfl⟩ := len_k10 hl
      have hB2 := (show Box gq (t + 2) b2 35 [[.int .i64 x3], encA .u8 d3, [.int .i64 x4], encA .u8 d4, [.slice a3 n3 c3], [.slice a4 n4 c4], [.bool q2]] [1, 8, 1, 8, 1, 1, 1] from hf _ (memI 1 rfl) (by kernel_rfl))
      have e6 := (show v6 = .bool true from hf _ (memI 8 rfl) (by kernel_rfl))
      subst e6
      refine WP.loadB (v := .int .i64 x4) hB2 (by kernel_rfl) (by kernel_rfl) ?_
      refine WP.dn (Shown.ok (v := .int .i64 x4) (by kernel_rfl) (Step.refl _ _) ?_)
      exact ⟨tv, tv, tv, tv, tv, tv, tv, tv, tv, tv, rfl, tv, tv⟩
     ·intro vs gq stq hl hf
      obtain ⟨v0, v1, v2, v3, v4, v5, v6, v7, v8, v9, rfl⟩ := len_k10 hl
      have e6 := (show v6 = .bool true from hf _ (memI 8 rfl) (by kernel_rfl))
      subst e6
      have e7 := (show v7 = .int .i64 x2 from hf _ (memI 9 rfl) (by kernel_rfl))
      subst e7
      have e8 := (show v8 = .int .i64 x4 from hf _ (memI 10 rfl) (by kernel_rfl))
      subst e8
      refine WP.stl 1 ?_
      refine WP.dn (Shown.ok (v := .bool (x2 == x4)) (by kernel_rfl) (Step.refl _ _) ?_)
      exact ⟨tv, tv, tv, tv, tv, tv, tv, tv, tv, tv, tv, congrArg Value.bool h9, tv⟩
    intro vs g15 st15 hl hf
    obtain ⟨v0, v1, v2, v3, v4, v5, v6, v7, v8, v9, rfl⟩ := len_k10 hl
    have e9 := (show v9 = .bool false from hf _ (memI 11 rfl) (by kernel_rfl))
    subst e9
    replace tot := tot.trans st15.toNo.pure
    refine NX.post ?_
    exact ⟨false, ⟨by kernel_rfl, by kernel_rfl⟩, tot, hs⟩
   replace hs := of_if_f hs h8
   refine CP.drawL (by kernel_rfl) [1, 3, 5, 7, 9, 10, 12] N.baizeref34_Same_0 [⟨none, [], [], fun l g => Box g (t + 1) b1 35 [[.int .i64 x1], encA .u8 d1, [.int .i64 x2], encA .u8 d2, [.slice a1 n1 c1], [.slice a2 n2 c2], [.bool q1]] [1, 8, 1, 8, 1, 1, 1]⟩, ⟨none, [], [], fun l g => Box g (t + 2) b2 35 [[.int .i64 x3], encA .u8 d3, [.int .i64 x4], encA .u8 d4, [.slice a3 n3 c3], [.slice a4 n4 c4], [.bool q2]] [1, 8, 1, 8, 1, 1, 1]⟩, ⟨some 0, [], [0], fun l g => l.getD 0 undef = .int .i64 x1⟩, ⟨some 1, [], [1], fun l g => l.getD 0 undef = .int .i64 x3⟩, ⟨some 2, [], [2], fun l g => l.getD 0 undef = .bool true⟩, ⟨some 3, [], [3], fun l g => l.getD 0 undef = AG [encA .u8 d1]⟩, ⟨some 4, [], [4], fun l g => l.getD 0 undef = AG [encA .u8 d3]⟩, ⟨some 5, [], [5], fun l g => l.getD 0 undef = .bool (d1.1 == d3.1)⟩, ⟨some 6, [], [6], fun l g => l.getD 0 undef = .bool false⟩] [[], [], [], [], [], [], []] [] [0, 2] [4, 6, 8, 11, 13, 14, 15, 16, 17, 18, 19, 20, 21, 22, 23, 24, 25, 26, 27, 28, 29, 30, 31, 32, 33, 34, 35, 36, 37, 38, 39, 40, 41, 42, 43, 44, 45, 46, 47] (by kernel_rfl) (by simp) (by simp) ⟨fun _ _ _ _ st h0 hl hj hB1 => (hB1.mono st (fun h => absurd (hl _ h) (by simp))), fun _ _ _ _ st h0 hl hj hB2 => (hB2.mono st (fun h => absurd (hl _ h) (by simp))), fun _ _ _ _ st h0 hl hj e0 => e0, fun _ _ _ _ st h0 hl hj e1 => e1, fun _ _ _ _ st h0 hl hj e2 => e2, fun _ _ _ _ st h0 hl hj e3 => e3, fun _ _ _ _ st h0 hl hj e4 => e4, fun _ _ _ _ st h0 hl hj e5 => e5, fun _ _ _ _ st h0 hl hj e6 => e6, tv⟩ ⟨hB1, hB2, tv, tv, tv, tv, tv, tv, tv, tv⟩ (by kernel_rfl) (fun vs => by kernel_rfl) ?_ ?_ ?_
   ·intro j hj
    have hq : j = 0 ∨ j = 1 ∨ j = 2 ∨ j = 3 ∨ j = 4 ∨ j = 5 ∨ j = 6 ∨ j = 7 ∨ j = 8 ∨ j = 9 ∨ j = 10 ∨ j = 11 ∨ j = 12 ∨ j = 13 ∨ j = 14 ∨ j = 15 ∨ j = 16 ∨ j = 17 ∨ j = 18 ∨ j = 19 ∨ j = 20 ∨ j = 21 ∨ j = 22 ∨ j = 23 ∨ j = 24 ∨ j = 25 ∨ j = 26 ∨ j = 27 ∨ j = 28 ∨ j = 29 ∨ j = 30 ∨ j = 31 ∨ j = 32 ∨ j = 33 ∨ j = 34 ∨ j = 35 ∨ j = 36 ∨ j = 37 ∨ j = 38 := by have h : j < 39 := hj; omega
    rcases hq with rfl | rfl | rfl | rfl | rfl | rfl | rfl | rfl | rfl | rfl | rfl | rfl | rfl | rfl | rfl | rfl | rfl | rfl | rfl | rfl | rfl | rfl | rfl | rfl | rfl | rfl | rfl | rfl | rfl | rfl | rfl | rfl | rfl | rfl | rfl | rfl | rfl | rfl | rfl
    ·intro vs gq stq hl hf
     obtain ⟨v0, v1, v2, v3, v4, v5, v6, rfl⟩ := len_k7 hl
     have e0 := (show v0 = .int .i64 x1 from hf _ (memI 2 rfl) (by kernel_rfl))
     subst e0
     have e1 := (show v1 = .int .i64 x3 from hf _ (memI 3 rfl) (by kernel_rfl))
     subst e1
     show Option.isSome _ = true
     kernel_rfl
    ·intro vs gq stq hl hf
     obtain ⟨v0, v1, v2, v3, v4, v5, v6, rfl⟩ := len_k7 hl
     have e2 := (show v2 = .bool true from hf _ (memI 4 rfl) (by kernel_rfl))
     subst e2
     show Option.isSome _ = true
     kernel_rfl
    ·intro vs gq stq hl hf
     obtain ⟨v0, v1, v2, v3, v4, v5, v6, rfl⟩ := len_k7 hl
     have e2 := (show v2 = .bool true from hf _ (memI 4 rfl) (by kernel_rfl))
     subst e2
     show Option.isSome _ = true
     kernel_rfl
    ·intro vs gq stq hl hf
     obtain ⟨v0, v1, v2, v3, v4, v5, v6, rfl⟩ := len_k7 hl
     have e2 := (show v2 = .bool true from hf _ (memI 4 rfl) (by kernel_rfl))
     subst e2
     have e5 := (show v5 = .bool (d1.1 == d3.1) from hf _ (memI 7 rfl) (by kernel_rfl))
     subst e5
     show Option.isSome _ = true
     kernel_rfl
    ·intro vs gq stq hl hf
     obtain ⟨v0, v1, v2, v3, v4, v5, v6, rfl⟩ := len_k7 hl
     have e6 := (show v6 = .bool false from hf _ (memI 8 rfl) (by kernel_rfl))
     subst e6
     show Option.isSome _ = true
     kernel_rfl
    ·intro vs gq stq hl hf
     obtain ⟨v0, v1, v2, v3, v4, v5, v6, rfl⟩ := len_k7 hl
     have e6 := (show v6 = .bool false from hf _ (memI 8 rfl) (by kernel_rfl))
     subst e6
     show Option.isSome _ = true
     kernel_rfl
    ·intro vs gq stq hl hf
     obtain ⟨v0, v1, v2, v3, v4, v5, v6, rfl⟩ := len_k7 hl
     have e6 := (show v6 = .bool false from hf _ (memI 8 rfl) (by kernel_rfl))
     subst e6
     show Option.isSome _ = true
     kernel_rfl
    ·intro vs gq stq hl hf
     obtain ⟨v0, v1, v2, v3, v4, v5, v6, rfl⟩ := len_k7 hl
     have e6 := (show v6 = .bool false from hf _ (memI 8 rfl) (by kernel_rfl))
     subst e6
     show Option.isSome _ = true
     kernel_rfl
    ·intro vs gq stq hl hf
     obtain ⟨v0, v1, v2, v3, v4, v5, v6, rfl⟩ := len_k7 hl
     have e6 := (show v6 = .bool false from hf _ (memI 8 rfl) (by kernel_rfl))
     subst e6
     show Option.isSome _ = true
     kernel_rfl
    ·intro vs gq stq hl hf
     obtain ⟨v0, v1, v2, v3, v4, v5, v6, rfl⟩ := len_k7 hl
     have e6 := (show v6 = .bool false from hf _ (memI 8 rfl) (by kernel_rfl))
     subst e6
     show Option.isSome _ = true
     kernel_rfl
    ·intro vs gq stq hl hf
     obtain ⟨v0, v1, v2, v3, v4, v5, v6, rfl⟩ := len_k7 hl
     have e6 := (show v6 = .bool false from hf _ (memI 8 rfl) (by kernel_rfl))
     subst e6
     show Option.isSome _ = true
     kernel_rfl
    ·intro vs gq stq hl hf
     obtain ⟨v0, v1, v2, v3, v4, v5, v6, rfl⟩ := len_k7 hl
     have e6 := (show v6 = .bool false from hf _ (memI 8 rfl) (by kernel_rfl))
     subst e6
     show Option.isSome _ = true
     kernel_rfl
    ·intro vs gq stq hl hf
     obtain ⟨v0, v1, v2, v3, v4, v5, v6, rfl⟩ := len_k7 hl
     have e6 := (show v6 = .bool false from hf _ (memI 8 rfl) (by kernel_rfl))
     subst e6
     show Option.isSome _ = true
     kernel_rfl
    ·intro vs gq stq hl hf
     obtain ⟨v0, v1, v2, v3, v4, v5, v6, rfl⟩ := len_k7 hl
     have e6 := (show v6 = .bool false from hf _ (memI 8 rfl) (by kernel_rfl))
     subst e6
     show Option.isSome _ = true
     kernel_rfl
    ·intro vs gq stq hl hf
     obtain ⟨v0, v1, v2, v3, v4, v5, v6, rfl⟩ := len_k7 hl
     have e6 := (show v6 = .bool false from hf _ (memI 8 rfl) (by kernel_rfl))
     subst e6
     show Option.isSome _ = true
     kernel_rfl
    ·intro vs gq stq hl hf
     obtain ⟨v0, v1, v2, v3, v4, v5, v6, rfl⟩ := len_k7 hl
     have e6 := (show v6 = .bool false from hf _ (memI 8 rfl) (by kernel_rfl))
     subst e6
     show Option.isSome _ = true
     kernel_rfl
    ·intro vs gq stq hl hf
     obtain ⟨v0, v1, v2, v3, v4, v5, v6, rfl⟩ := len_k7 hl
     have e6 := (show v6 = .bool false from hf _ (memI 8 rfl) (by kernel_rfl))
     subst e6
     show Option.isSome _ = true
     kernel_rfl
    ·intro vs gq stq hl hf
     obtain ⟨v0, v1, v2, v3, v4, v5, v6, rfl⟩ := len_k7 hl
     have e6 := (show v6 = .bool false from hf _ (memI 8 rfl) (by kernel_rfl))
     subst e6
     show Option.isSome _ = true
     kernel_rfl
    ·intro vs gq stq hl hf
     obtain ⟨v0, v1, v2, v3, v4, v5, v6, rfl⟩ := len_k7 hl
     have e6 := (show v6 = .bool false from hf _ (memI 8 rfl) (by kernel_rfl))
     subst e6
     show Option.isSome _ = true
     kernel_rfl
    ·intro vs gq stq hl hf
     obtain ⟨v0, v1, v2, v3, v4, v5, v6, rfl⟩ := len_k7 hl
     have e6 := (show v6 = .bool false from hf _ (memI 8 rfl) (by kernel_rfl))
     subst e6
     show Option.isSome _ = true
     kernel_rfl
    ·intro vs gq stq hl hf
     obtain ⟨v0, v1, v2, v3, v4, v5, v6, rfl⟩ := len_k7 hl
     have e6 := (show v6 = .bool false from hf _ (memI 8 rfl) (by kernel_rfl))
     subst e6
     show Option.isSome _ = true
     kernel_rfl
    ·intro vs gq stq hl hf
     obtain ⟨v0, v1, v2, v3, v4, v5, v6, rfl⟩ := len_k7 hl
     have e6 := (show v6 = .bool false from hf _ (memI 8 rfl) (by kernel_rfl))
     subst e6
     show Option.isSome _ = true
     kernel_rfl
    ·intro vs gq stq hl hf
     obtain ⟨v0, v1, v2, v3, v4, v5, v6, rfl⟩ := len_k7 hl
     have e6 := (show v6 = .bool false from hf _ (memI 8 rfl) (by kernel_rfl))
     subst e6
     show Option.isSome _ = true
     kernel_rfl
    ·intro vs gq stq hl hf
     obtain ⟨v0, v1, v2, v3, v4, v5, v6, rfl⟩ := len_k7 hl
     have e6 := (show v6 = .bool false from hf _ (memI 8 rfl) (by kernel_rfl))
     subst e6
     show Option.isSome _ = true
     kernel_rfl
    ·intro vs gq stq hl hf
     obtain ⟨v0, v1, v2, v3, v4, v5, v6, rfl⟩ := len_k7 hl
     have e6 := (show v6 = .bool false from hf _ (memI 8 rfl) (by kernel_rfl))
     subst e6
     show Option.isSome _ = true
     kernel_rfl
    ·intro vs gq stq hl hf
     obtain ⟨v0, v1, v2, v3, v4, v5, v6, rfl⟩ := len_k7 hl
     have e6 := (show v6 = .bool false from hf _ (memI 8 rfl) (by kernel_rfl))
     subst e6
     show Option.isSome _ = true
     kernel_rfl
    ·intro vs gq stq hl hf
     obtain ⟨v0, v1, v2, v3, v4, v5, v6, rfl⟩ := len_k7 hl
     have e6 := (show v6 = .bool false from hf _ (memI 8 rfl) (by kernel_rfl))
     subst e6
     show Option.isSome _ = true
     kernel_rfl
    ·intro vs gq stq hl hf
     obtain ⟨v0, v1, v2, v3, v4, v5, v6, rfl⟩ := len_k7 hl
     have e6 := (show v6 = .bool false from hf _ (memI 8 rfl) (by kernel_rfl))
     subst e6
     show Option.isSome _ = true
     kernel_rfl
    ·intro vs gq stq hl hf
     obtain ⟨v0, v1, v2, v3, v4, v5, v6, rfl⟩ := len_k7 hl
     have e6 := (show v6 = .bool false from hf _ (memI 8 rfl) (by kernel_rfl))
     subst e6
     show Option.isSome _ = true
     kernel_rfl
    ·intro vs gq stq hl hf
     obtain ⟨v0, v1, v2, v3, v4, v5, v6, rfl⟩ := len_k7 hl
     have e6 := (show v6 = .bool false from hf _ (memI 8 rfl) (by kernel_rfl))
     subst e6
     show Option.isSome _ = true
     kernel_rfl
    ·intro vs gq stq hl hf
     obtain ⟨v0, v1, v2, v3, v4, v5, v6, rfl⟩ := len_k7 hl
     have e6 := (show v6 = .bool false from hf _ (memI 8 rfl) (by kernel_rfl))
     subst e6
     show Option.isSome _ = true
     kernel_rfl
    ·intro vs gq stq hl hf
     obtain ⟨v0, v1, v2, v3, v4, v5, v6, rfl⟩ := len_k7 hl
     have e6 := (show v6 = .bool false from hf _ (memI 8 rfl) (by kernel_rfl))
     subst e6
     show Option.isSome _ = true
     kernel_rfl
    ·intro vs gq stq hl hf
     obtain ⟨v0, v1, v2, v3, v4, v5, v6, rfl⟩ := len_k7 hl
     have e6 := (show v6 = .bool false from hf _ (memI 8 rfl) (by kernel_rfl))
     subst e6
     show Option.isSome _ = true
     kernel_rfl
    ·intro vs gq stq hl hf
     obtain ⟨v0, v1, v2, v3, v4, v5, v6, rfl⟩ := len_k7 hl
     have e6 := (show v6 = .bool false from hf _ (memI 8 rfl) (by kernel_rfl))
     subst e6
     show Option.isSome _ = true
     kernel_rfl
    ·intro vs gq stq hl hf
     obtain ⟨v0, v1, v2, v3, v4, v5, v6, rfl⟩ := len_k7 hl
     have e6 := (show v6 = .bool false from hf _ (memI 8 rfl) (by kernel_rfl))
     subst e6
     show Option.isSome _ = true
     kernel_rfl
    ·intro vs gq stq hl hf
     obtain ⟨v0, v1, v2, v3, v4, v5, v6, rfl⟩ := len_k7 hl
     have e6 := (show v6 = .bool false from hf _ (memI 8 rfl) (by kernel_rfl))
     subst e6
     show Option.isSome _ = true
     kernel_rfl
    ·intro vs gq stq hl hf
     obtain ⟨v0, v1, v2, v3, v4, v5, v6, rfl⟩ := len_k7 hl
     have e6 := (show v6 = .bool false from hf _ (memI 8 rfl) (by kernel_rfl))
     subst e6
     show Option.isSome _ = true
     kernel_rfl
    ·intro vs gq stq hl hf
     obtain ⟨v0, v1, v2, v3, v4, v5, v6, rfl⟩ := len_k7 hl
     have e6 := (show v6 = .bool false from hf _ (memI 8 rfl) (by kernel_rfl))
     subst e6
     show Option.isSome _ = true
     kernel_rfl
    ·intro vs gq stq hl hf
     obtain ⟨v0, v1, v2, v3, v4, v5, v6, rfl⟩ := len_k7 hl
     have e6 := (show v6 = .bool false from hf _ (memI 8 rfl) (by kernel_rfl))
     subst e6
     show Option.isSome _ = true
     kernel_rfl
   ·intro j hj
    have hq : j = 0 ∨ j = 1 ∨ j = 2 ∨ j = 3 ∨ j = 4 ∨ j = 5 ∨ j = 6 := by have h : j < 7 := hj; omega
    rcases hq with rfl | rfl | rfl | rfl | rfl | rfl | rfl
    ·intro vs gq stq hl hf
     obtain ⟨v0, v1, v2, v3, v4, v5, v6, rfl⟩ := len_k7 hl
     have hB1 := (show Box gq (t + 1) b1 35 [[.int .i64 x1], encA .u8 d1, [.int .i64 x2], encA .u8 d2, [.slice a1 n1 c1], [.slice a2 n2 c2], [.bool q1]] [1, 8, 1, 8, 1, 1, 1] from hf _ (memI 0 rfl) (by kernel_rfl))
     refine WP.loadB (v := .int .i64 x1) hB1 (by kernel_rfl) (by kernel_rfl) ?_
     refine WP.dn (Shown.ok (v := .int .i64 x1) (by kernel_rfl) (Step.refl _ _) ?_)
     exact ⟨tv, tv, rfl, tv, tv, tv, tv, tv, tv, tv⟩
    ·intro vs gq stq hl hf
     obtain ⟨v0, v1, v2, v3, v4, v5, v6, rfl⟩ := len_k7 hl
     have hB2 := (show Box gq (t + 2) b2 35 [[.int .i64 x3], encA .u8 d3, [.int .i64 x4], encA .u8 d4, [.slice a3 n3 c3], [.slice a4 n4 c4], [.bool q2]] [1, 8, 1, 8, 1, 1, 1] from hf _ (memI 1 rfl) (by kernel_rfl))
     refine WP.loadB (v := .int .i64 x3) hB2 (by kernel_rfl) (by kernel_rfl) ?_
     refine WP.dn (Shown.ok (v := .int .i64 x3) (by kernel_rfl) (Step.refl _ _) ?_)
     exact ⟨tv, tv, tv, rfl, tv, tv, tv, tv, tv, tv⟩
    ·intro vs gq stq hl hf
     obtain ⟨v0, v1, v2, v3, v4, v5, v6, rfl⟩ := len_k7 hl
     have e0 := (show v0 = .int .i64 x1 from hf _ (memI 2 rfl) (by kernel_rfl))
     subst e0
     have e1 := (show v1 = .int .i64 x3 from hf _ (memI 3 rfl) (by kernel_rfl))
     subst e1
     refine WP.stl 1 ?_
     refine WP.dn (Shown.ok (v := .bool (x1 == x3)) (by kernel_rfl) (Step.refl _ _) ?_)
     exact ⟨tv, tv, tv, tv, congrArg Value.bool h7, tv, tv, tv, tv, tv⟩
    ·intro vs gq stq hl hf
     obtain ⟨v0, v1, v2, v3, v4, v5, v6, rfl⟩ := len_k7 hl
     have hB1 := (show Box gq (t + 1) b1 35 [[.int .i64 x1], encA .u8 d1, [.int .i64 x2], encA .u8 d2, [.slice a1 n1 c1], [.slice a2 n2 c2], [.bool q1]] [1, 8, 1, 8, 1, 1, 1] from hf _ (memI 0 rfl) (by kernel_rfl))
     have e2 := (show v2 = .bool true from hf _ (memI 4 rfl) (by kernel_rfl))
     subst e2
     refine WP.loadB (v := AG [encA .u8 d1]) hB1 (by kernel_rfl) (by kernel_rfl) ?_
     refine WP.dn (Shown.ok (v := AG [encA .u8 d1]) (by kernel_rfl) (Step.refl _ _) ?_)
     exact ⟨tv, tv, tv, tv, tv, rfl, tv, tv, tv, tv⟩
    ·intro vs gq stq hl hf
     obtain ⟨v0, v1, v2, v3, v4, v5, v6, rfl⟩ := len_k7 hl
     have hB2 := (show Box gq (t + 2) b2 35 [[.int .i64 x3], encA .u8 d3, [.int .i64 x4], encA .u8 d4, [.slice a3 n3 c3], [.slice a4 n4 c4], [.bool q2]] [1, 8, 1, 8, 1, 1, 1] from hf _ (memI 1 rfl) (by kernel_rfl))
     have e2 := (show v2 = .bool true from hf _ (memI 4 rfl) (by kernel_rfl))
     subst e2
     refine WP.loadB (v := AG [encA .u8 d3]) hB2 (by kernel_rfl) (by kernel_rfl) ?_
     refine WP.dn (Shown.ok (v := AG [encA .u8 d3]) (by kernel_rfl) (Step.refl _ _) ?_)
     exact ⟨tv, tv, tv, tv, tv, tv, rfl, tv, tv, tv⟩
    ·intro vs gq stq hl hf
     obtain ⟨v0, v1, v2, v3, v4, v5, v6, rfl⟩ := len_k7 hl
     have e2 := (show v2 = .bool true from hf _ (memI 4 rfl) (by kernel_rfl))
     subst e2
     have e3 := (show v3 = AG [encA .u8 d1] from hf _ (memI 5 rfl) (by kernel_rfl))
     subst e3
     have e4 := (show v4 = AG [encA .u8 d3] from hf _ (memI 6 rfl) (by kernel_rfl))
     subst e4
     refine WP.eqV (by kernel_rfl) (by kernel_rfl) (EqV.arr (d := 9998) (t := 32) (e := 5) (m := 8) (k := .u8) (x := d1) (y := d3) (by kernel_rfl) (by kernel_rfl)) ?_
     refine WP.dn (Shown.ok (v := .bool (d1.1 == d3.1)) (by kernel_rfl) (Step.refl _ _) ?_)
     exact ⟨tv, tv, tv, tv, tv, tv, tv, rfl, tv, tv⟩
    ·intro vs gq stq hl hf
     obtain ⟨v0, v1, v2, v3, v4, v5, v6, rfl⟩ := len_k7 hl
     have e2 := (show v2 = .bool true from hf _ (memI 4 rfl) (by kernel_rfl))
     subst e2
     have e5 := (show v5 = .bool (d1.1 == d3.1) from hf _ (memI 7 rfl) (by kernel_rfl))
     subst e5
     refine WP.stl 1 ?_
     refine WP.dn (Shown.ok (v := .bool (d1.1 == d3.1)) (by kernel_rfl) (Step.refl _ _) ?_)
     exact ⟨tv, tv, tv, tv, tv, tv, tv, tv, congrArg Value.bool h8, tv⟩
   intro vs g16 st16 hl hf
   obtain ⟨v0, v1, v2, v3, v4, v5, v6, rfl⟩ := len_k7 hl
   have e6 := (show v6 = .bool false from hf _ (memI 8 rfl) (by kernel_rfl))
   subst e6
   replace tot := tot.trans st16.toNo.pure
   refine NX.post ?_
   exact ⟨false, ⟨by kernel_rfl, by kernel_rfl⟩, tot, hs⟩
  replace hs := of_if_f hs h7
  refine CP.drawL (by kernel_rfl) [1, 3, 5] N.baizeref34_Same_0 [⟨none, [], [], fun l g => Box g (t + 1) b1 35 [[.int .i64 x1], encA .u8 d1, [.int .i64 x2], encA .u8 d2, [.slice a1 n1 c1], [.slice a2 n2 c2], [.bool q1]] [1, 8, 1, 8, 1, 1, 1]⟩, ⟨none, [], [], fun l g => Box g (t + 2) b2 35 [[.int .i64 x3], encA .u8 d3, [.int .i64 x4], encA .u8 d4, [.slice a3 n3 c3], [.slice a4 n4 c4], [.bool q2]] [1, 8, 1, 8, 1, 1, 1]⟩, ⟨some 0, [], [0], fun l g => l.getD 0 undef = .int .i64 x1⟩, ⟨some 1, [], [1], fun l g => l.getD 0 undef = .int .i64 x3⟩, ⟨some 2, [], [2], fun l g => l.getD 0 undef = .bool false⟩] [[], [], []] [] [0, 2] [4, 6, 7, 8, 9, 10, 11, 12, 13, 14, 15, 16, 17, 18, 19, 20, 21, 22, 23, 24, 25, 26, 27, 28, 29, 30, 31, 32, 33, 34, 35, 36, 37, 38, 39, 40, 41, 42, 43, 44, 45, 46, 47] (by kernel_rfl) (by simp) (by simp) ⟨fun _ _ _ _ st h0 hl hj hB1 => (hB1.mono st (fun h => absurd (hl _ h) (by simp))), fun _ _ _ _ st h0 hl hj hB2 => (hB2.mono st (fun h => absurd (hl _ h) (by simp))), fun _ _ _ _ st h0 hl hj e0 => e0, fun _ _ _ _ st h0 hl hj e1 => e1, fun _ _ _ _ st h0 hl hj e2 => e2, tv⟩ ⟨hB1, hB2, tv, tv, tv, tv⟩ (by kernel_rfl) (fun vs => by kernel_rfl) ?_ ?_ ?_
  ·intro j hj
   have hq : j = 0 ∨ j = 1 ∨ j = 2 ∨ j = 3 ∨ j = 4 ∨ j = 5 ∨ j = 6 ∨ j = 7 ∨ j = 8 ∨ j = 9 ∨ j = 10 ∨ j = 11 ∨ j = 12 ∨ j = 13 ∨ j = 14 ∨ j = 15 ∨ j = 16 ∨ j = 17 ∨ j = 18 ∨ j = 19 ∨ j = 20 ∨ j = 21 ∨ j = 22 ∨ j = 23 ∨ j = 24 ∨ j = 25 ∨ j = 26 ∨ j = 27 ∨ j = 28 ∨ j = 29 ∨ j = 30 ∨ j = 31 ∨ j = 32 ∨ j = 33 ∨ j = 34 ∨ j = 35 ∨ j = 36 ∨ j = 37 ∨ j = 38 ∨ j = 39 ∨ j = 40 ∨ j = 41 ∨ j = 42 := by have h : j < 43 := hj; omega
   rcases hq with rfl | rfl | rfl | rfl | rfl | rfl | rfl | rfl | rfl | rfl | rfl | rfl | rfl | rfl | rfl | rfl | rfl | rfl | rfl | rfl | rfl | rfl | rfl | rfl | rfl | rfl | rfl | rfl | rfl | rfl | rfl | rfl | rfl | rfl | rfl | rfl | rfl | rfl | rfl | rfl | rfl | rfl | rfl
   ·intro vs gq stq hl hf
    obtain ⟨v0, v1, v2, rfl⟩ := len_k3 hl
    have e0 := (show v0 = .int .i64 x1 from hf _ (memI 2 rfl) (by kernel_rfl))
    subst e0
    have e1 := (show v1 = .int .i64 x3 from hf _ (memI 3 rfl) (by kernel_rfl))
    subst e1
    show Option.isSome _ = true
    kernel_rfl
   ·intro vs gq stq hl hf
    obtain ⟨v0, v1, v2, rfl⟩ := len_k3 hl
    have e2 := (show v2 = .bool false from hf _ (memI 4 rfl) (by kernel_rfl))
    subst e2
    show Option.isSome _ = true
    kernel_rfl
   ·intro vs gq stq hl hf
    obtain ⟨v0, v1, v2, rfl⟩ := len_k3 hl
    have e2 := (show v2 = .bool false from hf _ (memI 4 rfl) (by kernel_rfl))
    subst e2
    show Option.isSome _ = true
    kernel_rfl
   ·intro vs gq stq hl hf
    obtain ⟨v0, v1, v2, rfl⟩ := len_k3 hl
    have e2 := (show v2 = .bool false from hf _ (memI 4 rfl) (by kernel_rfl))
    subst e2
    show Option.isSome _ = true
    kernel_rfl
   ·intro vs gq stq hl hf
    obtain ⟨v0, v1, v2, rfl⟩ := len_k3 hl
    have e2 := (show v2 = .bool false from hf _ (memI 4 rfl) (by kernel_rfl))
    subst e2
    show Option.isSome _ = true
    kernel_rfl
   ·intro vs gq stq hl hf
    obtain ⟨v0, v1, v2, rfl⟩ := len_k3 hl
    have e2 := (show v2 = .bool false from hf _ (memI 4 rfl) (by kernel_rfl))
    subst e2
    show Option.isSome _ = true
    kernel_rfl
   ·intro vs gq stq hl hf
    obtain ⟨v0, v1, v2, rfl⟩ := len_k3 hl
    have e2 := (show v2 = .bool false from hf _ (memI 4 rfl) (by kernel_rfl))
    subst e2
    show Option.isSome _ = true
    kernel_rfl
   ·intro vs gq stq hl hf
    obtain ⟨v0, v1, v2, rfl⟩ := len_k3 hl
    have e2 := (show v2 = .bool false from hf _ (memI 4 rfl) (by kernel_rfl))
    subst e2
    show Option.isSome _ = true
    kernel_rfl
   ·intro vs gq stq hl hf
    obtain ⟨v0, v1, v2, rfl⟩ := len_k3 hl
    have e2 := (show v2 = .bool false from hf _ (memI 4 rfl) (by kernel_rfl))
    subst e2
    show Option.isSome _ = true
    kernel_rfl
   ·intro vs gq stq hl hf
    obtain ⟨v0, v1, v2, rfl⟩ := len_k3 hl
    have e2 := (show v2 = .bool false from hf _ (memI 4 rfl) (by kernel_rfl))
    subst e2
    show Option.isSome _ = true
    kernel_rfl
   ·intro vs gq stq hl hf
    obtain ⟨v0, v1, v2, rfl⟩ := len_k3 hl
    have e2 := (show v2 = .bool false from hf _ (memI 4 rfl) (by kernel_rfl))
    subst e2
    show Option.isSome _ = true
    kernel_rfl
   ·intro vs gq stq hl hf
    obtain ⟨v0, v1, v2, rfl⟩ := len_k3 hl
    have e2 := (show v2 = .bool false from hf _ (memI 4 rfl) (by kernel_rfl))
    subst e2
    show Option.isSome _ = true
    kernel_rfl
   ·intro vs gq stq hl hf
    obtain ⟨v0, v1, v2, rfl⟩ := len_k3 hl
    have e2 := (show v2 = .bool false from hf _ (memI 4 rfl) (by kernel_rfl))
    subst e2
    show Option.isSome _ = true
    kernel_rfl
   ·intro vs gq stq hl hf
    obtain ⟨v0, v1, v2, rfl⟩ := len_k3 hl
    have e2 := (show v2 = .bool false from hf _ (memI 4 rfl) (by kernel_rfl))
    subst e2
    show Option.isSome _ = true
    kernel_rfl
   ·intro vs gq stq hl hf
    obtain ⟨v0, v1, v2, rfl⟩ := len_k3 hl
    have e2 := (show v2 = .bool false from hf _ (memI 4 rfl) (by kernel_rfl))
    subst e2
    show Option.isSome _ = true
    kernel_rfl
   ·intro vs gq stq hl hf
    obtain ⟨v0, v1, v2, rfl⟩ := len_k3 hl
    have e2 := (show v2 = .bool false from hf _ (memI 4 rfl) (by kernel_rfl))
    subst e2
    show Option.isSome _ = true
    kernel_rfl
   ·intro vs gq stq hl hf
    obtain ⟨v0, v1, v2, rfl⟩ := len_k3 hl
    have e2 := (show v2 = .bool false from hf _ (memI 4 rfl) (by kernel_rfl))
    subst e2
    show Option.isSome _ = true
    kernel_rfl
   ·intro vs gq stq hl hf
    obtain ⟨v0, v1, v2, rfl⟩ := len_k3 hl
    have e2 := (show v2 = .bool false from hf _ (memI 4 rfl) (by kernel_rfl))
    subst e2
    show Option.isSome _ = true
    kernel_rfl
   ·intro vs gq stq hl hf
    obtain ⟨v0, v1, v2, rfl⟩ := len_k3 hl
    have e2 := (show v2 = .bool false from hf _ (memI 4 rfl) (by kernel_rfl))
    subst e2
    show Option.isSome _ = true
    kernel_rfl
   ·intro vs gq stq hl hf
    obtain ⟨v0, v1, v2, rfl⟩ := len_k3 hl
    have e2 := (show v2 = .bool false from hf _ (memI 4 rfl) (by kernel_rfl))
    subst e2
    show Option.isSome _ = true
    kernel_rfl
   ·intro vs gq stq hl hf
    obtain ⟨v0, v1, v2, rfl⟩ := len_k3 hl
    have e2 := (show v2 = .bool false from hf _ (memI 4 rfl) (by kernel_rfl))
    subst e2
    show Option.isSome _ = true
    kernel_rfl
   ·intro vs gq stq hl hf
    obtain ⟨v0, v1, v2, rfl⟩ := len_k3 hl
    have e2 := (show v2 = .bool false from hf _ (memI 4 rfl) (by kernel_rfl))
    subst e2
    show Option.isSome _ = true
    kernel_rfl
   ·intro vs gq stq hl hf
    obtain ⟨v0, v1, v2, rfl⟩ := len_k3 hl
    have e2 := (show v2 = .bool false from hf _ (memI 4 rfl) (by kernel_rfl))
    subst e2
    show Option.isSome _ = true
    kernel_rfl
   ·intro vs gq stq hl hf
    obtain ⟨v0, v1, v2, rfl⟩ := len_k3 hl
    have e2 := (show v2 = .bool false from hf _ (memI 4 rfl) (by kernel_rfl))
    subst e2
    show Option.isSome _ = true
    kernel_rfl
   ·intro vs gq stq hl hf
    obtain ⟨v0, v1, v2, rfl⟩ := len_k3 hl
    have e2 := (show v2 = .bool false from hf _ (memI 4 rfl) (by kernel_rfl))
    subst e2
    show Option.isSome _ = true
    kernel_rfl
   ·intro vs gq stq hl hf
    obtain ⟨v0, v1, v2, rfl⟩ := len_k3 hl
    have e2 := (show v2 = .bool false from hf _ (memI 4 rfl) (by kernel_rfl))
    subst e2
    show Option.isSome _ = true
    kernel_rfl
   ·intro vs gq stq hl hf
    obtain ⟨v0, v1, v2, rfl⟩ := len_k3 hl
    have e2 := (show v2 = .bool false from hf _ (memI 4 rfl) (by kernel_rfl))
    subst e2
    show Option.isSome _ = true
    kernel_rfl
   ·intro vs gq stq hl hf
    obtain ⟨v0, v1, v2, rfl⟩ := len_k3 hl
    have e2 := (show v2 = .bool false from hf _ (memI 4 rfl) (by kernel_rfl))
    subst e2
    show Option.isSome _ = true
    kernel_rfl
   ·intro vs gq stq hl hf
    obtain ⟨v0, v1, v2, rfl⟩ := len_k3 hl
    have e2 := (show v2 = .bool false from hf _ (memI 4 rfl) (by kernel_rfl))
    subst e2
    show Option.isSome _ = true
    kernel_rfl
   ·intro vs gq stq hl hf
    obtain ⟨v0, v1, v2, rfl⟩ := len_k3 hl
    have e2 := (show v2 = .bool false from hf _ (memI 4 rfl) (by kernel_rfl))
    subst e2
    show Option.isSome _ = true
    kernel_rfl
   ·intro vs gq stq hl hf
    obtain ⟨v0, v1, v2, rfl⟩ := len_k3 hl
    have e2 := (show v2 = .bool false from hf _ (memI 4 rfl) (by kernel_rfl))
    subst e2
    show Option.isSome _ = true
    kernel_rfl
   ·intro vs gq stq hl hf
    obtain ⟨v0, v1, v2, rfl⟩ := len_k3 hl
    have e2 := (show v2 = .bool false from hf _ (memI 4 rfl) (by kernel_rfl))
    subst e2
    show Option.isSome _ = true
    kernel_rfl
   ·intro vs gq stq hl hf
    obtain ⟨v0, v1, v2, rfl⟩ := len_k3 hl
    have e2 := (show v2 = .bool false from hf _ (memI 4 rfl) (by kernel_rfl))
    subst e2
    show Option.isSome _ = true
    kernel_rfl
   ·intro vs gq stq hl hf
    obtain ⟨v0, v1, v2, rfl⟩ := len_k3 hl
    have e2 := (show v2 = .bool false from hf _ (memI 4 rfl) (by kernel_rfl))
    subst e2
    show Option.isSome _ = true
    kernel_rfl
   ·intro vs gq stq hl hf
    obtain ⟨v0, v1, v2, rfl⟩ := len_k3 hl
    have e2 := (show v2 = .bool false from hf _ (memI 4 rfl) (by kernel_rfl))
    subst e2
    show Option.isSome _ = true
    kernel_rfl
   ·intro vs gq stq hl hf
    obtain ⟨v0, v1, v2, rfl⟩ := len_k3 hl
    have e2 := (show v2 = .bool false from hf _ (memI 4 rfl) (by kernel_rfl))
    subst e2
    show Option.isSome _ = true
    kernel_rfl
   ·intro vs gq stq hl hf
    obtain ⟨v0, v1, v2, rfl⟩ := len_k3 hl
    have e2 := (show v2 = .bool false from hf _ (memI 4 rfl) (by kernel_rfl))
    subst e2
    show Option.isSome _ = true
    kernel_rfl
   ·intro vs gq stq hl hf
    obtain ⟨v0, v1, v2, rfl⟩ := len_k3 hl
    have e2 := (show v2 = .bool false from hf _ (memI 4 rfl) (by kernel_rfl))
    subst e2
    show Option.isSome _ = true
    kernel_rfl
   ·intro vs gq stq hl hf
    obtain ⟨v0, v1, v2, rfl⟩ := len_k3 hl
    have e2 := (show v2 = .bool false from hf _ (memI 4 rfl) (by kernel_rfl))
    subst e2
    show Option.isSome _ = true
    kernel_rfl
   ·intro vs gq stq hl hf
    obtain ⟨v0, v1, v2, rfl⟩ := len_k3 hl
    have e2 := (show v2 = .bool false from hf _ (memI 4 rfl) (by kernel_rfl))
    subst e2
    show Option.isSome _ = true
    kernel_rfl
   ·intro vs gq stq hl hf
    obtain ⟨v0, v1, v2, rfl⟩ := len_k3 hl
    have e2 := (show v2 = .bool false from hf _ (memI 4 rfl) (by kernel_rfl))
    subst e2
    show Option.isSome _ = true
    kernel_rfl
   ·intro vs gq stq hl hf
    obtain ⟨v0, v1, v2, rfl⟩ := len_k3 hl
    have e2 := (show v2 = .bool false from hf _ (memI 4 rfl) (by kernel_rfl))
    subst e2
    show Option.isSome _ = true
    kernel_rfl
   ·intro vs gq stq hl hf
    obtain ⟨v0, v1, v2, rfl⟩ := len_k3 hl
    have e2 := (show v2 = .bool false from hf _ (memI 4 rfl) (by kernel_rfl))
    subst e2
    show Option.isSome _ = true
    kernel_rfl
  ·intro j hj
   have hq : j = 0 ∨ j = 1 ∨ j = 2 := by have h : j < 3 := hj; omega
   rcases hq with rfl | rfl | rfl
   ·intro vs gq stq hl hf
    obtain ⟨v0, v1, v2, rfl⟩ := len_k3 hl
    have hB1 := (show Box gq (t + 1) b1 35 [[.int .i64 x1], encA .u8 d1, [.int .i64 x2], encA .u8 d2, [.slice a1 n1 c1], [.slice a2 n2 c2], [.bool q1]] [1, 8, 1, 8, 1, 1, 1] from hf _ (memI 0 rfl) (by kernel_rfl))
    refine WP.loadB (v := .int .i64 x1) hB1 (by kernel_rfl) (by kernel_rfl) ?_
    refine WP.dn (Shown.ok (v := .int .i64 x1) (by kernel_rfl) (Step.refl _ _) ?_)
    exact ⟨tv, tv, rfl, tv, tv, tv⟩
   ·intro vs gq stq hl hf
    obtain ⟨v0, v1, v2, rfl⟩ := len_k3 hl
    have hB2 := (show Box gq (t + 2) b2 35 [[.int .i64 x3], encA .u8 d3, [.int .i64 x4], encA .u8 d4, [.slice a3 n3 c3], [.slice a4 n4 c4], [.bool q2]] [1, 8, 1, 8, 1, 1, 1] from hf _ (memI 1 rfl) (by kernel_rfl))
    refine WP.loadB (v := .int .i64 x3) hB2 (by kernel_rfl) (by kernel_rfl) ?_
    refine WP.dn (Shown.ok (v := .int .i64 x3) (by kernel_rfl) (Step.refl _ _) ?_)
    exact ⟨tv, tv, tv, rfl, tv, tv⟩
   ·intro vs gq stq hl hf
    obtain ⟨v0, v1, v2, rfl⟩ := len_k3 hl
    have e0 := (show v0 = .int .i64 x1 from hf _ (memI 2 rfl) (by kernel_rfl))
    subst e0
    have e1 := (show v1 = .int .i64 x3 from hf _ (memI 3 rfl) (by kernel_rfl))
    subst e1
    refine WP.stl 1 ?_
    refine WP.dn (Shown.ok (v := .bool (x1 == x3)) (by kernel_rfl) (Step.refl _ _) ?_)
    exact ⟨tv, tv, tv, tv, congrArg Value.bool h7, tv⟩
  intro vs g17 st17 hl hf
  obtain ⟨v0, v1, v2, rfl⟩ := len_k3 hl
  have e2 := (show v2 = .bool false from hf _ (memI 4 rfl) (by kernel_rfl))
  subst e2
  replace tot := tot.trans st17.toNo.pure
  refine NX.post ?_
  exact ⟨false, ⟨by kernel_rfl, by kernel_rfl⟩, tot, hs⟩
 clear tot hs hB1 hR1 hR2 hB2 hR3 hR4
 rintro tm g ⟨q5, hF, tot, hs⟩
 clear ds
 obtain ⟨ds, rfl⟩ := hF.open
 clear hF
 unfold F.baizeref34_Same.c1 at hs
 refine CP.ret ?_
 replace hs := Option.some.inj hs
 obtain rfl := hs
 exact NX.fin (v := .bool q5) (Res.still (by kernel_rfl)) tot htL rfl
end Go.Proofs.Ytlnockimfgfcgaa
