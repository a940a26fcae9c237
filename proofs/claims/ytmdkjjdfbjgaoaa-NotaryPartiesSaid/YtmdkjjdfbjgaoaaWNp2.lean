/-
  Walks, written by program: each Go function computes the plain function of its name, in whatever world its arguments' facts hold.
-/
import Derived.Test.YtmdkjjdfbjgaoaaWNp1
namespace Go.Proofs.Ytmdkjjdfbjgaoaa
open Go.RowKit Go.Lab
attribute [local irreducible] WP CP NX wpList Code.wp Calls
set_option maxRecDepth 100000
set_option maxHeartbeats 4000000
set_option linter.unusedVariables false

def F.baizeref07_Verify.c1 (q1 : Bool) : Option (Bool) := (some q1)
def F.baizeref07_Verify (l1 : List S_baizeref07_Entry) (x1 : Int) (x2 : Int) (s1 : ByteArray) : Option (Bool) := ((F.baizeref07_Find l1 x1 x2).bind fun x3 => (if decide (x3 ≥ 0) = true then ((F.baizeref07_Bytes x3).bind fun s3 => (F.baizeref07_Verify.c1 (s1.toList == s3.toList))) else (F.baizeref07_Verify.c1 false)))
theorem P.baizeref07_Verify (g0 : GW) (l1 : List S_baizeref07_Entry) (x1 : Int) (x2 : Int) (s1 : ByteArray) (a1 : Option Addr) (n1 : Nat) (c1 : Nat) (hR1 : RdS k_S_baizeref07_Entry g0 53 a1 n1 c1 l1) (o1 : Bool) (hs : F.baizeref07_Verify l1 x1 x2 s1 = some o1) :
  Calls Try.prog 17 #[.slice a1 n1 c1, AG [[.int .u64 x1], [.int .u64 x2]], .string s1] g0.w (Ret NoM g0 fun v g => v = .bool o1) := by
 refine calls_of (args := [.slice a1 n1 c1, AG [[.int .u64 x1], [.int .u64 x2]], .string s1]) Try.func17 rfl (0) ?_
 intro t ht htL
 refine ⟨_, rfl, ?_⟩
 refine CP.refr 19 [(0, .slice a1 n1 c1), (1, AG [[.int .u64 x1], [.int .u64 x2]]), (2, .string s1)] (by kernel_rfl) (by kernel_rfl) ?_
 intro ds
 have tot : Step (fun l => NoM l ∨ t ≤ l) g0 g0 := Step.refl _ _
 unfold F.baizeref07_Verify at hs
 refine CP.seqR ?_
 refine WP.alloc (T := 53) (t + 1) [[.int .u64 x1], [.int .u64 x2]] [1, 1] (by kernel_rfl) rfl ?_
 intro g1 b1 st1 hB1
 replace hR1 := hR1.mono st1 (fun x => x)
 replace tot := tot.trans st1.pure
 refine WP.stl 1 ?_
 refine WP.dn ?_
 refine NX.then_n ?_
 refine CP.seqR ?_
 refine WP.stl 1 ?_
 refine WP.loadB (v := AG [[.int .u64 x1], [.int .u64 x2]]) hB1 (by kernel_rfl) (by kernel_rfl) ?_
 replace hs := Option.bind_eq_some_iff.1 hs
 obtain ⟨x3, hk1, hs⟩ := hs
 have hcal1 := P.baizeref07_Find g1 l1 x1 x2 a1 n1 c1 hR1 x3 hk1
 refine WP.callC hcal1 (by kernel_rfl) ?_
 rintro _ g2 st2 rfl
 replace hR1 := hR1.mono st2 (fun x => x)
 replace hB1 := hB1.mono st2 (fun x => x)
 replace tot := tot.trans st2.pure
 refine WP.stl 1 ?_
 refine WP.dn ?_
 refine NX.then_n ?_
 refine CP.cut (fun tm g => ∃ (q1 : Bool), Fr 19 [(6, .bool q1)] tm ∧ Step (fun l => NoM l ∨ t ≤ l) g0 g ∧ (F.baizeref07_Verify.c1 q1) = some o1) ?_ ?_
 ·refine CP.region ?_
  refine WP.stl 3 ?_
  refine WP.guard 13 (b := decide (x3 ≥ 0)) (by kernel_rfl) (fun h2 => ?_) (fun h2 => ?_)
  ·replace hs := of_if_t hs h2
   refine WP.stl 2 ?_
   replace hs := Option.bind_eq_some_iff.1 hs
   obtain ⟨s3, hk3, hs⟩ := hs
   have hcal3 := P.baizeref07_Bytes g2 x3 s3 hk3
   refine WP.callC hcal3 (by kernel_rfl) ?_
   rintro _ g4 st4 rfl
   replace tot := tot.trans st4.pure
   refine WP.stl 3 ?_
   refine WP.dn ?_
   refine NX.post ?_
   exact ⟨(s1.toList == s3.toList), ⟨by kernel_rfl, by kernel_rfl⟩, tot, hs⟩
  replace hs := of_if_f hs h2
  refine WP.stl 6 ?_
  refine WP.dn ?_
  refine NX.post ?_
  exact ⟨false, ⟨by kernel_rfl, by kernel_rfl⟩, tot, hs⟩
 clear tot hs
 rintro tm g ⟨q1, hF, tot, hs⟩
 clear ds
 obtain ⟨ds, rfl⟩ := hF.open
 clear hF
 unfold F.baizeref07_Verify.c1 at hs
 refine CP.ret ?_
 replace hs := Option.some.inj hs
 obtain rfl := hs
 exact NX.fin (v := .bool q1) (Res.still (by kernel_rfl)) tot htL rfl
def F.baizeref07_Missing.c1 (nx1 : (List Int) → Int → Option ((List Int))) (x2 : Int) (l9 : List Int) : Option ((List Int)) := (nx1 l9 (IntKind.i64.wrap (x2 + 1)))
def F.baizeref07_Missing.c3 (nx1 : (List Int) → Int → Option ((List Int))) (l6 : List Int) (x2 : Int) (q12 : Bool) : Option ((List Int)) := (if q12 = true then (if l6.length + ([x2]).length ≤ 17592186044416 then (F.baizeref07_Missing.c1 nx1 x2 (l6 ++ [x2])) else none) else (F.baizeref07_Missing.c1 nx1 x2 l6))
def N.baizeref07_Missing_0 : List (List Nat) := [[], [], [1], [0, 1, 2], [0, 1, 2, 3], [0, 1, 2, 3, 4], [0, 1, 2, 3, 4], [0, 1, 2, 3, 4], [0, 1, 2, 3, 4, 6, 7], [0, 1, 2, 3, 4, 6, 7, 8], [0, 1, 2, 3, 4], [0, 1, 2, 3, 4, 6, 7, 8, 9, 10], [0, 1, 2, 3, 4], [0, 1, 2, 3, 4], [0, 1, 2, 3, 4, 12, 13], [0, 1, 2, 3, 4, 12, 13, 14], [0, 1, 2, 3, 4, 5, 6, 7, 8, 9, 10, 11, 12, 13, 14, 15], [0, 1, 2, 3, 4, 5, 6, 7, 8, 9, 10, 11, 12, 13, 14, 15, 16], [0, 1, 2, 3, 4, 5, 6, 7, 8, 9, 10, 11, 12, 13, 14, 15, 16, 17]]
def F.baizeref07_Missing.c2 (nx1 : (List Int) → Int → Option ((List Int))) (l1 : List S_baizeref07_Entry) (l2 : List Int) (x1 : Int) (l3 : List ByteArray) (l6 : List Int) (x2 : Int) (q10 : Bool) : Option ((List Int)) := (if q10 = true then (F.baizeref07_Missing.c1 nx1 x2 l6) else (if decide (x2 ≥ (l3.length : Int)) = true then (F.baizeref07_Missing.c3 nx1 l6 x2 true) else (if (0 : Int) ≤ x2 ∧ x2 < (l2.length : Int) then (if (0 : Int) ≤ x2 ∧ x2 < (l3.length : Int) then ((F.baizeref07_Verify l1 (getI l2 x2) x1 (getI l3 x2)).bind fun q13 => (F.baizeref07_Missing.c3 nx1 l6 x2 (!q13))) else none) else none)))
def F.baizeref07_Missing.l1 (l1 : List S_baizeref07_Entry) (l2 : List Int) (x1 : Int) (l3 : List ByteArray) (l4 : List Bool) : Nat → (List Int) → Int → Option ((List Int))
 | 0, _, _ => none
 | k + 1, l6, x2 => (if decide (x2 < (l2.length : Int)) = true then (if decide (x2 < (l4.length : Int)) = true then (if (0 : Int) ≤ x2 ∧ x2 < (l4.length : Int) then (F.baizeref07_Missing.c2 (F.baizeref07_Missing.l1 l1 l2 x1 l3 l4 k) l1 l2 x1 l3 l6 x2 (getI l4 x2)) else none) else (F.baizeref07_Missing.c2 (F.baizeref07_Missing.l1 l1 l2 x1 l3 l4 k) l1 l2 x1 l3 l6 x2 false)) else (some l6))
def F.baizeref07_Missing (l1 : List S_baizeref07_Entry) (l2 : List Int) (x1 : Int) (l3 : List ByteArray) (l4 : List Bool) : Option ((List Int)) := (F.baizeref07_Missing.l1 l1 l2 x1 l3 l4 fuel ([]) 0)
theorem P.baizeref07_Missing (g0 : GW) (r0 : Nat) (l1 : List S_baizeref07_Entry) (l2 : List Int) (x1 : Int) (l3 : List ByteArray) (l4 : List Bool) (a1 : Option Addr) (n1 : Nat) (c1 : Nat) (a2 : Option Addr) (n2 : Nat) (c2 : Nat) (a3 : Option Addr) (n3 : Nat) (c3 : Nat) (a4 : Option Addr) (n4 : Nat) (c4 : Nat) (hR1 : RdS k_S_baizeref07_Entry g0 53 a1 n1 c1 l1) (hR2 : RdS (Kd.int .u64) g0 34 a2 n2 c2 l2) (hR3 : RdS Kd.str g0 9 a3 n3 c3 l3) (hR4 : RdS Kd.bool g0 4 a4 n4 c4 l4) (o1 : List Int) (hs : F.baizeref07_Missing l1 l2 x1 l3 l4 = some o1) :
  Calls Try.prog 25 #[.slice a1 n1 c1, .slice a2 n2 c2, .int .u64 x1, .slice a3 n3 c3, .slice a4 n4 c4] g0.w (Ret NoM g0 fun v g => ∃ (a_1 : Option Addr) (n_1 : Nat) (c_1 : Nat), v = .slice a_1 n_1 c_1 ∧ OwnS (Kd.int .i64) g r0 3 a_1 n_1 c_1 o1) := by
 refine calls_of (args := [.slice a1 n1 c1, .slice a2 n2 c2, .int .u64 x1, .slice a3 n3 c3, .slice a4 n4 c4]) Try.func25 rfl (r0 + 0) ?_
 intro t ht htL
 refine ⟨_, rfl, ?_⟩
 refine CP.refr 53 [(0, .slice a1 n1 c1), (1, .slice a2 n2 c2), (2, .int .u64 x1), (3, .slice a3 n3 c3), (4, .slice a4 n4 c4)] (by kernel_rfl) (by kernel_rfl) ?_
 intro ds
 have tot : Step (fun l => NoM l ∨ t ≤ l) g0 g0 := Step.refl _ _
 unfold F.baizeref07_Missing at hs
 refine CP.seqR ?_
 refine WP.stl 1 ?_
 refine WP.dn ?_
 refine NX.then_n ?_
 refine CP.seqR ?_
 refine WP.stl 1 ?_
 refine WP.dn ?_
 refine NX.then_n ?_
 refine CP.seq ?_
 refine CP.seqR ?_
 refine WP.stl 1 ?_
 refine WP.dn ?_
 refine NX.then_n ?_
 refine CP.block ?_
 generalize fuel = k1 at hs
 refine CP.loop (fun k1 tm g => ∃ (l6 : List Int) (a8 : Option Addr) (n6 : Nat) (c7 : Nat) (x2 : Int), Fr 53 [(0, .slice a1 n1 c1), (1, .slice a2 n2 c2), (2, .int .u64 x1), (3, .slice a3 n3 c3), (4, .slice a4 n4 c4), (11, .slice a8 n6 c7), (12, .int .i64 x2)] tm ∧ Step (fun l => NoM l ∨ t ≤ l) g0 g ∧ RdS k_S_baizeref07_Entry g 53 a1 n1 c1 l1 ∧ RdS (Kd.int .u64) g 34 a2 n2 c2 l2 ∧ RdS Kd.str g 9 a3 n3 c3 l3 ∧ RdS Kd.bool g 4 a4 n4 c4 l4 ∧ OwnS (Kd.int .i64) g (t + 2) 3 a8 n6 c7 l6 ∧ F.baizeref07_Missing.l1 l1 l2 x1 l3 l4 k1 l6 x2 = some o1) k1 ?_ ?_ ?_
 ·exact ⟨[], none, 0, 0, 0, ⟨by kernel_rfl, by kernel_rfl⟩, tot, hR1, hR2, hR3, hR4, (OwnS.nil _ _ _ _), hs⟩
 ·rintro tm g ⟨l6, a8, n6, c7, x2, hF, tot, hR1, hR2, hR3, hR4, hR8, hs⟩
  exact absurd hs (by simp [F.baizeref07_Missing.l1])
 clear tot hs hR1 hR2 hR3 hR4
 rintro k1 tm g ⟨l6, a8, n6, c7, x2, hF, tot, hR1, hR2, hR3, hR4, hR8, hs⟩
 clear ds
 obtain ⟨ds, rfl⟩ := hF.open
 clear hF
 unfold F.baizeref07_Missing.l1 at hs
 refine CP.seq ?_
 refine CP.seqR ?_
 refine WP.stl 2 ?_
 refine WP.len (a := a2) (cp := c2) hR2.len (by kernel_rfl) ?_
 refine WP.stl 1 ?_
 refine WP.dn ?_
 refine NX.then_n ?_
 refine CP.cond (b := decide (x2 < (l2.length : Int))) (by kernel_rfl) (fun h11 => ?_) (fun h11 => ?_)
 ·replace hs := of_if_t hs h11
  refine CP.skip ?_
  refine NX.then_n ?_
  refine CP.cut (fun tm g => ∃ (l9 : List Int) (a15 : Option Addr) (n9 : Nat) (c12 : Nat), Fr 53 [(0, .slice a1 n1 c1), (1, .slice a2 n2 c2), (2, .int .u64 x1), (3, .slice a3 n3 c3), (4, .slice a4 n4 c4), (11, .slice a15 n9 c12), (12, .int .i64 x2)] tm ∧ Step (fun l => NoM l ∨ t ≤ l) g0 g ∧ RdS k_S_baizeref07_Entry g 53 a1 n1 c1 l1 ∧ RdS (Kd.int .u64) g 34 a2 n2 c2 l2 ∧ RdS Kd.str g 9 a3 n3 c3 l3 ∧ RdS Kd.bool g 4 a4 n4 c4 l4 ∧ OwnS (Kd.int .i64) g (t + 2) 3 a15 n9 c12 l9 ∧ (F.baizeref07_Missing.c1 (F.baizeref07_Missing.l1 l1 l2 x1 l3 l4 k1) x2 l9) = some o1) ?_ ?_
  ·refine CP.block ?_
   refine CP.seq ?_
   refine CP.cut (fun tm g => ∃ (q10 : Bool), Fr 53 [(0, .slice a1 n1 c1), (1, .slice a2 n2 c2), (2, .int .u64 x1), (3, .slice a3 n3 c3), (4, .slice a4 n4 c4), (11, .slice a8 n6 c7), (12, .int .i64 x2), (28, .bool q10)] tm ∧ Step (fun l => NoM l ∨ t ≤ l) g0 g ∧ RdS k_S_baizeref07_Entry g 53 a1 n1 c1 l1 ∧ RdS (Kd.int .u64) g 34 a2 n2 c2 l2 ∧ RdS Kd.str g 9 a3 n3 c3 l3 ∧ RdS Kd.bool g 4 a4 n4 c4 l4 ∧ OwnS (Kd.int .i64) g (t + 2) 3 a8 n6 c7 l6 ∧ (F.baizeref07_Missing.c2 (F.baizeref07_Missing.l1 l1 l2 x1 l3 l4 k1) l1 l2 x1 l3 l6 x2 q10) = some o1) ?_ ?_
   ·refine CP.region ?_
    refine WP.stl 2 ?_
    refine WP.len (a := a4) (cp := c4) hR4.len (by kernel_rfl) ?_
    refine WP.stl 2 ?_
    refine WP.guard 23 (b := decide (x2 < (l4.length : Int))) (by kernel_rfl) (fun h21 => ?_) (fun h21 => ?_)
    ·replace hs := of_if_t hs h21
     refine WP.stl 2 ?_
     by_cases hc19 : (0 : Int) ≤ x2 ∧ x2 < (l4.length : Int)
     case neg => rw [if_neg hc19] at hs; cases hs
     replace hs := of_if_p hs hc19
     obtain ⟨b15, u15, ha15⟩ := hR4.at hc19
     refine WP.indexA (t := 62) (e := 4) (sz := 1) (cap := c4) (k := .i64) (i := x2) hR4.len ha15 (by kernel_rfl) (by kernel_rfl) hc19 ?_
     obtain ⟨cs15, hcR15, hcV15⟩ := hR4.src.view (getI_some hc19) ha15
     replace hcR15 := Kd.o_bool hcR15
     refine WP.loadV [[.bool (getI l4 x2)]] [1] hcV15 hcR15 rfl (f := 0) (ty := 4) (agg := false) (size := 1) (rs := [[.bool (getI l4 x2)]]) (v := .bool (getI l4 x2)) (by kernel_rfl) (by kernel_rfl) (by kernel_rfl) (by kernel_rfl) ?_
     refine WP.stl 1 ?_
     refine WP.dn ?_
     refine NX.post ?_
     exact ⟨(getI l4 x2), ⟨by kernel_rfl, by kernel_rfl⟩, tot, hR1, hR2, hR3, hR4, hR8, hs⟩
    replace hs := of_if_f hs h21
    refine WP.stl 5 ?_
    refine WP.dn ?_
    refine NX.post ?_
    exact ⟨false, ⟨by kernel_rfl, by kernel_rfl⟩, tot, hR1, hR2, hR3, hR4, hR8, hs⟩
   clear tot hs hR1 hR2 hR3 hR4 hR8
   rintro tm g ⟨q10, hF, tot, hR1, hR2, hR3, hR4, hR8, hs⟩
   clear ds
   obtain ⟨ds, rfl⟩ := hF.open
   clear hF
   unfold F.baizeref07_Missing.c2 at hs
   refine CP.cond (b := q10) (by kernel_rfl) (fun h17 => ?_) (fun h17 => ?_)
   ·replace hs := of_if_t hs h17
    refine CP.exit ?_
    refine NX.then_e ?_
    refine NX.block_s ?_
    refine NX.post ?_
    exact ⟨l6, a8, n6, c7, ⟨by kernel_rfl, by kernel_rfl⟩, tot, hR1, hR2, hR3, hR4, hR8, hs⟩
   replace hs := of_if_f hs h17
   refine CP.skip ?_
   refine NX.then_n ?_
   refine CP.cut (fun tm g => ∃ (q12 : Bool), Fr 53 [(0, .slice a1 n1 c1), (1, .slice a2 n2 c2), (2, .int .u64 x1), (3, .slice a3 n3 c3), (4, .slice a4 n4 c4), (11, .slice a8 n6 c7), (12, .int .i64 x2), (47, .bool q12)] tm ∧ Step (fun l => NoM l ∨ t ≤ l) g0 g ∧ RdS k_S_baizeref07_Entry g 53 a1 n1 c1 l1 ∧ RdS (Kd.int .u64) g 34 a2 n2 c2 l2 ∧ RdS Kd.str g 9 a3 n3 c3 l3 ∧ RdS Kd.bool g 4 a4 n4 c4 l4 ∧ OwnS (Kd.int .i64) g (t + 2) 3 a8 n6 c7 l6 ∧ (F.baizeref07_Missing.c3 (F.baizeref07_Missing.l1 l1 l2 x1 l3 l4 k1) l6 x2 q12) = some o1) ?_ ?_
   ·refine bool_split (b := decide (x2 ≥ (l3.length : Int))) (fun h20 => ?_) (fun h20 => ?_)
    ·replace hs := of_if_t hs h20
     refine CP.drawL (by kernel_rfl) [2, 4] N.baizeref07_Missing_0 [⟨none, [], [], fun l g => RdS Kd.str g 9 a3 n3 c3 l3⟩, ⟨some 0, [], [0], fun l g => l.getD 0 undef = .int .i64 (l3.length : Int)⟩, ⟨some 1, [], [1], fun l g => l.getD 0 undef = .bool true⟩] [[], []] [] [0, 1] [3, 5, 6, 7, 8, 9, 10, 11, 12, 13, 14, 15, 16, 17, 18] (by kernel_rfl) (by simp) (by simp) ⟨fun _ _ _ _ st h0 hl hj hR3 => (RdS.mono (e := 9) hR3 st h0), fun _ _ _ _ st h0 hl hj e0 => e0, fun _ _ _ _ st h0 hl hj e1 => e1, tv⟩ ⟨hR3, tv, tv, tv⟩ (by kernel_rfl) (fun vs => by kernel_rfl) ?_ ?_ ?_
     ·intro j hj
      have hq : j = 0 ∨ j = 1 ∨ j = 2 ∨ j = 3 ∨ j = 4 ∨ j = 5 ∨ j = 6 ∨ j = 7 ∨ j = 8 ∨ j = 9 ∨ j = 10 ∨ j = 11 ∨ j = 12 ∨ j = 13 ∨ j = 14 := by have h : j < 15 := hj; omega
      rcases hq with rfl | rfl | rfl | rfl | rfl | rfl | rfl | rfl | rfl | rfl | rfl | rfl | rfl | rfl | rfl
      ·intro vs gq stq hl hf
       obtain ⟨v0, v1, rfl⟩ := len_k2 hl
       have e0 := (show v0 = .int .i64 (l3.length : Int) from hf _ (memI 1 rfl) (by kernel_rfl))
       subst e0
       show Option.isSome _ = true
       kernel_rfl
      ·intro vs gq stq hl hf
       obtain ⟨v0, v1, rfl⟩ := len_k2 hl
       have e1 := (show v1 = .bool true from hf _ (memI 2 rfl) (by kernel_rfl))
       subst e1
       show Option.isSome _ = true
       kernel_rfl
      ·intro vs gq stq hl hf
       obtain ⟨v0, v1, rfl⟩ := len_k2 hl
       have e1 := (show v1 = .bool true from hf _ (memI 2 rfl) (by kernel_rfl))
       subst e1
       show Option.isSome _ = true
       kernel_rfl
      ·intro vs gq stq hl hf
       obtain ⟨v0, v1, rfl⟩ := len_k2 hl
       have e1 := (show v1 = .bool true from hf _ (memI 2 rfl) (by kernel_rfl))
       subst e1
       show Option.isSome _ = true
       kernel_rfl
      ·intro vs gq stq hl hf
       obtain ⟨v0, v1, rfl⟩ := len_k2 hl
       have e1 := (show v1 = .bool true from hf _ (memI 2 rfl) (by kernel_rfl))
       subst e1
       show Option.isSome _ = true
       kernel_rfl
      ·intro vs gq stq hl hf
       obtain ⟨v0, v1, rfl⟩ := len_k2 hl
       have e1 := (show v1 = .bool true from hf _ (memI 2 rfl) (by kernel_rfl))
       subst e1
       show Option.isSome _ = true
       kernel_rfl
      ·intro vs gq stq hl hf
       obtain ⟨v0, v1, rfl⟩ := len_k2 hl
       have e1 := (show v1 = .bool true from hf _ (memI 2 rfl) (by kernel_rfl))
       subst e1
       show Option.isSome _ = true
       kernel_rfl
      ·intro vs gq stq hl hf
       obtain ⟨v0, v1, rfl⟩ := len_k2 hl
       have e1 := (show v1 = .bool true from hf _ (memI 2 rfl) (by kernel_rfl))
       subst e1
       show Option.isSome _ = true
       kernel_rfl
      ·intro vs gq stq hl hf
       obtain ⟨v0, v1, rfl⟩ := len_k2 hl
       have e1 := (show v1 = .bool true from hf _ (memI 2 rfl) (by kernel_rfl))
       subst e1
       show Option.isSome _ = true
       kernel_rfl
      ·intro vs gq stq hl hf
       obtain ⟨v0, v1, rfl⟩ := len_k2 hl
       have e1 := (show v1 = .bool true from hf _ (memI 2 rfl) (by kernel_rfl))
       subst e1
       show Option.isSome _ = true
       kernel_rfl
      ·intro vs gq stq hl hf
       obtain ⟨v0, v1, rfl⟩ := len_k2 hl
       have e1 := (show v1 = .bool true from hf _ (memI 2 rfl) (by kernel_rfl))
       subst e1
       show Option.isSome _ = true
       kernel_rfl
      ·intro vs gq stq hl hf
       obtain ⟨v0, v1, rfl⟩ := len_k2 hl
       have e1 := (show v1 = .bool true from hf _ (memI 2 rfl) (by kernel_rfl))
       subst e1
       show Option.isSome _ = true
       kernel_rfl
      ·intro vs gq stq hl hf
       obtain ⟨v0, v1, rfl⟩ := len_k2 hl
       have e1 := (show v1 = .bool true from hf _ (memI 2 rfl) (by kernel_rfl))
       subst e1
       show Option.isSome _ = true
       kernel_rfl
      ·intro vs gq stq hl hf
       obtain ⟨v0, v1, rfl⟩ := len_k2 hl
       have e1 := (show v1 = .bool true from hf _ (memI 2 rfl) (by kernel_rfl))
       subst e1
       show Option.isSome _ = true
       kernel_rfl
      ·intro vs gq stq hl hf
       obtain ⟨v0, v1, rfl⟩ := len_k2 hl
       have e1 := (show v1 = .bool true from hf _ (memI 2 rfl) (by kernel_rfl))
       subst e1
       show Option.isSome _ = true
       kernel_rfl
     ·intro j hj
      have hq : j = 0 ∨ j = 1 := by have h : j < 2 := hj; omega
      rcases hq with rfl | rfl
      ·intro vs gq stq hl hf
       obtain ⟨v0, v1, rfl⟩ := len_k2 hl
       have hR3 := (show RdS Kd.str gq 9 a3 n3 c3 l3 from hf _ (memI 0 rfl) (by kernel_rfl))
       refine WP.len (a := a3) (cp := c3) hR3.len (by kernel_rfl) ?_
       refine WP.dn (Shown.ok (v := .int .i64 (l3.length : Int)) (by kernel_rfl) (Step.refl _ _) ?_)
       exact ⟨tv, rfl, tv, tv⟩
      ·intro vs gq stq hl hf
       obtain ⟨v0, v1, rfl⟩ := len_k2 hl
       have e0 := (show v0 = .int .i64 (l3.length : Int) from hf _ (memI 1 rfl) (by kernel_rfl))
       subst e0
       refine WP.stl 1 ?_
       refine WP.dn (Shown.ok (v := .bool (decide (x2 ≥ (l3.length : Int)))) (by kernel_rfl) (Step.refl _ _) ?_)
       exact ⟨tv, tv, congrArg Value.bool h20, tv⟩
     intro vs g13 st13 hl hf
     obtain ⟨v0, v1, rfl⟩ := len_k2 hl
     have e1 := (show v1 = .bool true from hf _ (memI 2 rfl) (by kernel_rfl))
     subst e1
     replace hR1 := hR1.mono st13.toNo (fun x => x)
     replace hR2 := hR2.mono st13.toNo (fun x => x)
     replace hR3 := hR3.mono st13.toNo (fun x => x)
     replace hR4 := hR4.mono st13.toNo (fun x => x)
     replace hR8 := hR8.mono st13.toNo (fun x => x) (fun x => x)
     replace tot := tot.trans st13.toNo.pure
     refine NX.post ?_
     exact ⟨true, ⟨by kernel_rfl, by kernel_rfl⟩, tot, hR1, hR2, hR3, hR4, hR8, hs⟩
    replace hs := of_if_f hs h20
    by_cases hc17 : (0 : Int) ≤ x2 ∧ x2 < (l2.length : Int)
    case neg => rw [if_neg hc17] at hs; cases hs
    replace hs := of_if_p hs hc17
    by_cases hc18 : (0 : Int) ≤ x2 ∧ x2 < (l3.length : Int)
    case neg => rw [if_neg hc18] at hs; cases hs
    replace hs := of_if_p hs hc18
    replace hs := Option.bind_eq_some_iff.1 hs
    obtain ⟨q13, hk5, hs⟩ := hs
    obtain ⟨b13, u13, ha13⟩ := hR2.at hc17
    obtain ⟨b14, u14, ha14⟩ := hR3.at hc18
    refine CP.drawL (by kernel_rfl) [2, 4, 8, 9, 14, 15, 16] N.baizeref07_Missing_0 [⟨none, [], [], fun l g => RdS k_S_baizeref07_Entry g 53 a1 n1 c1 l1⟩, ⟨none, [], [], fun l g => RdS (Kd.int .u64) g 34 a2 n2 c2 l2⟩, ⟨none, [], [], fun l g => RdS Kd.str g 9 a3 n3 c3 l3⟩, ⟨some 0, [], [0], fun l g => l.getD 0 undef = .int .i64 (l3.length : Int)⟩, ⟨some 1, [], [1], fun l g => l.getD 0 undef = .bool false⟩, ⟨some 2, [], [2], fun l g => l.getD 0 undef = .pointer (some ⟨b13, u13 + x2.toNat * 1, none⟩)⟩, ⟨some 3, [], [3], fun l g => l.getD 0 undef = .int .u64 (getI l2 x2)⟩, ⟨some 4, [], [4], fun l g => l.getD 0 undef = .pointer (some ⟨b14, u14 + x2.toNat * 1, none⟩)⟩, ⟨some 5, [], [5], fun l g => l.getD 0 undef = .string (getI l3 x2)⟩, ⟨some 6, [], [6], fun l g => l.getD 0 undef = .bool q13⟩] [[], [], [], [], [], [], []] [] [0, 1] [3, 5, 6, 7, 10, 11, 12, 13, 17, 18] (by kernel_rfl) (by simp) (by simp) ⟨fun _ _ _ _ st h0 hl hj hR1 => (RdS.mono (e := 53) hR1 st h0), fun _ _ _ _ st h0 hl hj hR2 => (RdS.mono (e := 34) hR2 st h0), fun _ _ _ _ st h0 hl hj hR3 => (RdS.mono (e := 9) hR3 st h0), fun _ _ _ _ st h0 hl hj e0 => e0, fun _ _ _ _ st h0 hl hj e1 => e1, fun _ _ _ _ st h0 hl hj e2 => e2, fun _ _ _ _ st h0 hl hj e3 => e3, fun _ _ _ _ st h0 hl hj e4 => e4, fun _ _ _ _ st h0 hl hj e5 => e5, fun _ _ _ _ st h0 hl hj e6 => e6, tv⟩ ⟨hR1, hR2, hR3, tv, tv, tv, tv, tv, tv, tv, tv⟩ (by kernel_rfl) (fun vs => by kernel_rfl) ?_ ?_ ?_
    ·intro j hj
     have hq : j = 0 ∨ j = 1 ∨ j = 2 ∨ j = 3 ∨ j = 4 ∨ j = 5 ∨ j = 6 ∨ j = 7 ∨ j = 8 ∨ j = 9 := by have h : j < 10 := hj; omega
     rcases hq with rfl | rfl | rfl | rfl | rfl | rfl | rfl | rfl | rfl | rfl
     ·intro vs gq stq hl hf
      obtain ⟨v0, v1, v2, v3, v4, v5, v6, rfl⟩ := len_k7 hl
      have e0 := (show v0 = .int .i64 (l3.length : Int) from hf _ (memI 3 rfl) (by kernel_rfl))
      subst e0
      show Option.isSome _ = true
      kernel_rfl
     ·intro vs gq stq hl hf
      obtain ⟨v0, v1, v2, v3, v4, v5, v6, rfl⟩ := len_k7 hl
      have e1 := (show v1 = .bool false from hf _ (memI 4 rfl) (by kernel_rfl))
      subst e1
      show Option.isSome _ = true
      kernel_rfl
     ·intro vs gq stq hl hf
      obtain ⟨v0, v1, v2, v3, v4, v5, v6, rfl⟩ := len_k7 hl
      have e1 := (show v1 = .bool false from hf _ (memI 4 rfl) (by kernel_rfl))
      subst e1
      show Option.isSome _ = true
      kernel_rfl
     ·intro vs gq stq hl hf
      obtain ⟨v0, v1, v2, v3, v4, v5, v6, rfl⟩ := len_k7 hl
      have e1 := (show v1 = .bool false from hf _ (memI 4 rfl) (by kernel_rfl))
      subst e1
      show Option.isSome _ = true
      kernel_rfl
     ·intro vs gq stq hl hf
      obtain ⟨v0, v1, v2, v3, v4, v5, v6, rfl⟩ := len_k7 hl
      have e1 := (show v1 = .bool false from hf _ (memI 4 rfl) (by kernel_rfl))
      subst e1
      show Option.isSome _ = true
      kernel_rfl
     ·intro vs gq stq hl hf
      obtain ⟨v0, v1, v2, v3, v4, v5, v6, rfl⟩ := len_k7 hl
      have e1 := (show v1 = .bool false from hf _ (memI 4 rfl) (by kernel_rfl))
      subst e1
      have e3 := (show v3 = .int .u64 (getI l2 x2) from hf _ (memI 6 rfl) (by kernel_rfl))
      subst e3
      show Option.isSome _ = true
      kernel_rfl
     ·intro vs gq stq hl hf
      obtain ⟨v0, v1, v2, v3, v4, v5, v6, rfl⟩ := len_k7 hl
      have e1 := (show v1 = .bool false from hf _ (memI 4 rfl) (by kernel_rfl))
      subst e1
      show Option.isSome _ = true
      kernel_rfl
     ·intro vs gq stq hl hf
      obtain ⟨v0, v1, v2, v3, v4, v5, v6, rfl⟩ := len_k7 hl
      have e1 := (show v1 = .bool false from hf _ (memI 4 rfl) (by kernel_rfl))
      subst e1
      show Option.isSome _ = true
      kernel_rfl
     ·intro vs gq stq hl hf
      obtain ⟨v0, v1, v2, v3, v4, v5, v6, rfl⟩ := len_k7 hl
      have e1 := (show v1 = .bool false from hf _ (memI 4 rfl) (by kernel_rfl))
      subst e1
      have e6 := (show v6 = .bool q13 from hf _ (memI 9 rfl) (by kernel_rfl))
      subst e6
      show Option.isSome _ = true
      kernel_rfl
     ·intro vs gq stq hl hf
      obtain ⟨v0, v1, v2, v3, v4, v5, v6, rfl⟩ := len_k7 hl
      have e1 := (show v1 = .bool false from hf _ (memI 4 rfl) (by kernel_rfl))
      subst e1
      have e6 := (show v6 = .bool q13 from hf _ (memI 9 rfl) (by kernel_rfl))
      subst e6
      show Option.isSome _ = true
      kernel_rfl
    ·intro j hj
     have hq : j = 0 ∨ j = 1 ∨ j = 2 ∨ j = 3 ∨ j = 4 ∨ j = 5 ∨ j = 6 := by have h : j < 7 := hj; omega
     rcases hq with rfl | rfl | rfl | rfl | rfl | rfl | rfl
     ·intro vs gq stq hl hf
      obtain ⟨v0, v1, v2, v3, v4, v5, v6, rfl⟩ := len_k7 hl
      have hR3 := (show RdS Kd.str gq 9 a3 n3 c3 l3 from hf _ (memI 2 rfl) (by kernel_rfl))
      refine WP.len (a := a3) (cp := c3) hR3.len (by kernel_rfl) ?_
      refine WP.dn (Shown.ok (v := .int .i64 (l3.length : Int)) (by kernel_rfl) (Step.refl _ _) ?_)
      exact ⟨tv, tv, tv, rfl, tv, tv, tv, tv, tv, tv, tv⟩
     ·intro vs gq stq hl hf
      obtain ⟨v0, v1, v2, v3, v4, v5, v6, rfl⟩ := len_k7 hl
      have e0 := (show v0 = .int .i64 (l3.length : Int) from hf _ (memI 3 rfl) (by kernel_rfl))
      subst e0
      refine WP.stl 1 ?_
      refine WP.dn (Shown.ok (v := .bool (decide (x2 ≥ (l3.length : Int)))) (by kernel_rfl) (Step.refl _ _) ?_)
      exact ⟨tv, tv, tv, tv, congrArg Value.bool h20, tv, tv, tv, tv, tv, tv⟩
     ·intro vs gq stq hl hf
      obtain ⟨v0, v1, v2, v3, v4, v5, v6, rfl⟩ := len_k7 hl
      have hR2 := (show RdS (Kd.int .u64) gq 34 a2 n2 c2 l2 from hf _ (memI 1 rfl) (by kernel_rfl))
      have e1 := (show v1 = .bool false from hf _ (memI 4 rfl) (by kernel_rfl))
      subst e1
      refine WP.indexA (t := 43) (e := 34) (sz := 1) (cap := c2) (k := .i64) (i := x2) hR2.len ha13 (by kernel_rfl) (by kernel_rfl) hc17 ?_
      refine WP.dn (Shown.ok (v := .pointer (some ⟨b13, u13 + x2.toNat * 1, none⟩)) (by kernel_rfl) (Step.refl _ _) ?_)
      exact ⟨tv, tv, tv, tv, tv, rfl, tv, tv, tv, tv, tv⟩
     ·intro vs gq stq hl hf
      obtain ⟨v0, v1, v2, v3, v4, v5, v6, rfl⟩ := len_k7 hl
      have hR2 := (show RdS (Kd.int .u64) gq 34 a2 n2 c2 l2 from hf _ (memI 1 rfl) (by kernel_rfl))
      have e1 := (show v1 = .bool false from hf _ (memI 4 rfl) (by kernel_rfl))
      subst e1
      have e2 := (show v2 = .pointer (some ⟨b13, u13 + x2.toNat * 1, none⟩) from hf _ (memI 5 rfl) (by kernel_rfl))
      subst e2
      obtain ⟨cs13, hcR13, hcV13⟩ := hR2.src.view (getI_some hc17) ha13
      replace hcR13 := Kd.o_int hcR13
      refine WP.loadV [[.int .u64 (getI l2 x2)]] [1] hcV13 hcR13 rfl (f := 0) (ty := 34) (agg := false) (size := 1) (rs := [[.int .u64 (getI l2 x2)]]) (v := .int .u64 (getI l2 x2)) (by kernel_rfl) (by kernel_rfl) (by kernel_rfl) (by kernel_rfl) ?_
      refine WP.dn (Shown.ok (v := .int .u64 (getI l2 x2)) (by kernel_rfl) (Step.refl _ _) ?_)
      exact ⟨tv, tv, tv, tv, tv, tv, rfl, tv, tv, tv, tv⟩
     ·intro vs gq stq hl hf
      obtain ⟨v0, v1, v2, v3, v4, v5, v6, rfl⟩ := len_k7 hl
      have hR3 := (show RdS Kd.str gq 9 a3 n3 c3 l3 from hf _ (memI 2 rfl) (by kernel_rfl))
      have e1 := (show v1 = .bool false from hf _ (memI 4 rfl) (by kernel_rfl))
      subst e1
      refine WP.indexA (t := 66) (e := 9) (sz := 1) (cap := c3) (k := .i64) (i := x2) hR3.len ha14 (by kernel_rfl) (by kernel_rfl) hc18 ?_
      refine WP.dn (Shown.ok (v := .pointer (some ⟨b14, u14 + x2.toNat * 1, none⟩)) (by kernel_rfl) (Step.refl _ _) ?_)
      exact ⟨tv, tv, tv, tv, tv, tv, tv, rfl, tv, tv, tv⟩
     ·intro vs gq stq hl hf
      obtain ⟨v0, v1, v2, v3, v4, v5, v6, rfl⟩ := len_k7 hl
      have hR3 := (show RdS Kd.str gq 9 a3 n3 c3 l3 from hf _ (memI 2 rfl) (by kernel_rfl))
      have e1 := (show v1 = .bool false from hf _ (memI 4 rfl) (by kernel_rfl))
      subst e1
      have e4 := (show v4 = .pointer (some ⟨b14, u14 + x2.toNat * 1, none⟩) from hf _ (memI 7 rfl) (by kernel_rfl))
      subst e4
      obtain ⟨cs14, hcR14, hcV14⟩ := hR3.src.view (getI_some hc18) ha14
      replace hcR14 := Kd.o_str hcR14
      refine WP.loadV [[.string (getI l3 x2)]] [1] hcV14 hcR14 rfl (f := 0) (ty := 9) (agg := false) (size := 1) (rs := [[.string (getI l3 x2)]]) (v := .string (getI l3 x2)) (by kernel_rfl) (by kernel_rfl) (by kernel_rfl) (by kernel_rfl) ?_
      refine WP.dn (Shown.ok (v := .string (getI l3 x2)) (by kernel_rfl) (Step.refl _ _) ?_)
      exact ⟨tv, tv, tv, tv, tv, tv, tv, tv, rfl, tv, tv⟩
     ·intro vs gq stq hl hf
      obtain ⟨v0, v1, v2, v3, v4, v5, v6, rfl⟩ := len_k7 hl
      have hR1 := (show RdS k_S_baizeref07_Entry gq 53 a1 n1 c1 l1 from hf _ (memI 0 rfl) (by kernel_rfl))
      have e1 := (show v1 = .bool false from hf _ (memI 4 rfl) (by kernel_rfl))
      subst e1
      have e3 := (show v3 = .int .u64 (getI l2 x2) from hf _ (memI 6 rfl) (by kernel_rfl))
      subst e3
      have e5 := (show v5 = .string (getI l3 x2) from hf _ (memI 8 rfl) (by kernel_rfl))
      subst e5
      have hcal5 := P.baizeref07_Verify gq l1 (getI l2 x2) x1 (getI l3 x2) a1 n1 c1 hR1 q13 hk5
      refine WP.callC hcal5 (by kernel_rfl) ?_
      rintro _ g14 st14 rfl
      refine WP.dn (Shown.o (v := .bool q13) st14.pure ?_)
      exact ⟨tv, tv, tv, tv, tv, tv, tv, tv, tv, rfl, tv⟩
    intro vs g15 st15 hl hf
    obtain ⟨v0, v1, v2, v3, v4, v5, v6, rfl⟩ := len_k7 hl
    have e1 := (show v1 = .bool false from hf _ (memI 4 rfl) (by kernel_rfl))
    subst e1
    have e2 := (show v2 = .pointer (some ⟨b13, u13 + x2.toNat * 1, none⟩) from hf _ (memI 5 rfl) (by kernel_rfl))
    subst e2
    have e3 := (show v3 = .int .u64 (getI l2 x2) from hf _ (memI 6 rfl) (by kernel_rfl))
    subst e3
    have e4 := (show v4 = .pointer (some ⟨b14, u14 + x2.toNat * 1, none⟩) from hf _ (memI 7 rfl) (by kernel_rfl))
    subst e4
    have e5 := (show v5 = .string (getI l3 x2) from hf _ (memI 8 rfl) (by kernel_rfl))
    subst e5
    have e6 := (show v6 = .bool q13 from hf _ (memI 9 rfl) (by kernel_rfl))
    subst e6
    replace hR1 := hR1.mono st15.toNo (fun x => x)
    replace hR2 := hR2.mono st15.toNo (fun x => x)
    replace hR3 := hR3.mono st15.toNo (fun x => x)
    replace hR4 := hR4.mono st15.toNo (fun x => x)
    replace hR8 := hR8.mono st15.toNo (fun x => x) (fun x => x)
    replace tot := tot.trans st15.toNo.pure
    refine NX.post ?_
    exact ⟨(!q13), ⟨by kernel_rfl, by kernel_rfl⟩, tot, hR1, hR2, hR3, hR4, hR8, hs⟩
   clear tot hs hR1 hR2 hR3 hR4 hR8
   rintro tm g ⟨q12, hF, tot, hR1, hR2, hR3, hR4, hR8, hs⟩
   clear ds
   obtain ⟨ds, rfl⟩ := hF.open
   clear hF
   unfold F.baizeref07_Missing.c3 at hs
   refine CP.cond (b := q12) (by kernel_rfl) (fun h19 => ?_) (fun h19 => ?_)
   ·replace hs := of_if_t hs h19
    refine CP.region ?_
    refine WP.stl 2 ?_
    refine WP.mkSl (kd := (Kd.int .i64)) (t := 67) (e := 3) (bytes := 8) (t + 5) [.int .i64 x2] [x2] (by kernel_rfl) (by kernel_rfl) (Nat.le_of_ble_eq_true rfl) (Nat.le_of_ble_eq_true rfl) (all_cons rfl all_nil) (⟨_, _, rfl, (by exact rfl), rfl⟩) rfl ?_
    intro g11 a16 st11 hR16
    replace hR1 := hR1.mono st11 (fun x => x)
    replace hR2 := hR2.mono st11 (fun x => x)
    replace hR3 := hR3.mono st11 (fun x => x)
    replace hR4 := hR4.mono st11 (fun x => x)
    replace hR8 := hR8.mono st11 (fun x => x) (fun x => x)
    replace tot := tot.trans st11.pure
    by_cases hc16 : l6.length + ([x2]).length ≤ 17592186044416
    case neg => rw [if_neg hc16] at hs; cases hs
    replace hs := of_if_p hs hc16
    refine WP.append (kd := (Kd.int .i64)) (t := 67) (e := 3) (bytes := 8) (a2 := a16) (c2 := 1) hR8 hR16.src hR16.len (by kernel_rfl) (by kernel_rfl) (by omega) (by simp only [maxLen]; omega) (by omega) ?_
    intro g12 a17 c13 st12 hR17
    replace hR1 := hR1.mono st12 (WL.no1 (by omega))
    replace hR2 := hR2.mono st12 (WL.no1 (by omega))
    replace hR3 := hR3.mono st12 (WL.no1 (by omega))
    replace hR4 := hR4.mono st12 (WL.no1 (by omega))
    replace hR16 := hR16.mono st12 (WL.no1 (by omega)) (WL.no1 (by omega))
    replace tot := tot.trans (st12.up1 (.inr (by omega)))
    refine WP.stl 1 ?_
    refine WP.dn ?_
    refine NX.block_n ?_
    refine NX.post ?_
    exact ⟨(l6 ++ [x2]), a17, (n6 + 1), c13, ⟨by kernel_rfl, by kernel_rfl⟩, tot, hR1, hR2, hR3, hR4, hR17, hs⟩
   replace hs := of_if_f hs h19
   refine CP.skip ?_
   refine NX.block_n ?_
   refine NX.post ?_
   exact ⟨l6, a8, n6, c7, ⟨by kernel_rfl, by kernel_rfl⟩, tot, hR1, hR2, hR3, hR4, hR8, hs⟩
  clear tot hs hR1 hR2 hR3 hR4 hR8
  rintro tm g ⟨l9, a15, n9, c12, hF, tot, hR1, hR2, hR3, hR4, hR15, hs⟩
  clear ds
  obtain ⟨ds, rfl⟩ := hF.open
  clear hF
  unfold F.baizeref07_Missing.c1 at hs
  refine CP.region ?_
  refine WP.stl 3 ?_
  refine WP.dn ?_
  refine NX.post ?_
  exact ⟨l9, a15, n9, c12, (IntKind.i64.wrap (x2 + 1)), ⟨by kernel_rfl, by kernel_rfl⟩, tot, hR1, hR2, hR3, hR4, hR15, hs⟩
 replace hs := of_if_f hs h11
 refine CP.exit ?_
 refine NX.then_e ?_
 refine NX.then_e ?_
 refine NX.block_s ?_
 refine NX.then_n ?_
 refine CP.seqR ?_
 refine WP.stl 2 ?_
 refine WP.dn ?_
 refine NX.then_n ?_
 refine CP.ret ?_
 obtain ⟨g16, hw1, st16, hnew⟩ := hR8.relab (by omega) r0
 refine NX.regw hw1 ?_
 replace tot := tot.trans (st16.up1 (.inr (by omega)))
 clear hR8
 have hR8 := hnew
 clear hnew
 replace hs := Option.some.inj hs
 obtain rfl := hs
 exact NX.fin (v := .slice a8 n6 c7) (Res.still (by kernel_rfl)) tot htL ⟨a8, n6, c7, rfl, hR8⟩
def F.notary_All.c1 (l1 : List S_notary_entry) (w1 : (List (S_notary_entry × Int))) (l2 : List (Arr Int 8)) (d1 : Arr Int 8) (l3 : List (List Int)) (l4 : List Bool) (q1 : Bool) : Option (Int) := (if q1 = true then (some 1) else ((F.notary_Missing l1 w1 l2 d1 l3 l4).bind fun l5 => (if decide ((l5.length : Int) > 0) = true then (some 16) else (some 0))))
def F.notary_All (l1 : List S_notary_entry) (w1 : (List (S_notary_entry × Int))) (l2 : List (Arr Int 8)) (d1 : Arr Int 8) (l3 : List (List Int)) (l4 : List Bool) : Option (Int) := (if ((l2.length : Int) == 0) = true then (F.notary_All.c1 l1 w1 l2 d1 l3 l4 true) else (F.notary_All.c1 l1 w1 l2 d1 l3 l4 ((l3.length : Int) != (l2.length : Int))))
theorem P.notary_All (g0 : GW) (m0 : Nat) (m1 : Nat) (l1 : List S_notary_entry) (w1 : (List (S_notary_entry × Int))) (l2 : List (Arr Int 8)) (d1 : Arr Int 8) (l3 : List (List Int)) (l4 : List Bool) (a1 : Option Addr) (n1 : Nat) (c1 : Nat) (a2 : Option Addr) (n2 : Nat) (c2 : Nat) (a3 : Option Addr) (n3 : Nat) (c3 : Nat) (a4 : Option Addr) (n4 : Nat) (c4 : Nat) (b1 : Nat) (b2 : Nat) (hR1 : RdS k_S_notary_entry g0 86 a1 n1 c1 l1) (hR2 : RdS (Kd.arrI 8 .u8) g0 32 a2 n2 c2 l2) (hR3 : RdS (Kd.slice 5 (Kd.int .u8)) g0 37 a3 n3 c3 l3) (hR4 : RdS Kd.bool g0 4 a4 n4 c4 l4) (hB1 : MapB g0 m1 b2 kv_S_notary_entry (Value.int .i64) w1) (hB2 : Box g0 m0 b1 84 [[.slice a1 n1 c1], [.map (some b2)]] [1, 1]) (hm1_0 : m1 ≠ m0) (hm0 : m0 ≠ 0) (hm1 : m1 ≠ 0) (o1 : Int) (hs : F.notary_All l1 w1 l2 d1 l3 l4 = some o1) :
  Calls Try.prog 26 #[.iface 24 (.pointer (some ⟨b1, 0, none⟩)), .slice a2 n2 c2, AG [encA .u8 d1], .slice a3 n3 c3, .slice a4 n4 c4] g0.w (Ret NoM g0 fun v g => v = .int .i64 o1) := by
 refine calls_of (args := [.iface 24 (.pointer (some ⟨b1, 0, none⟩)), .slice a2 n2 c2, AG [encA .u8 d1], .slice a3 n3 c3, .slice a4 n4 c4]) Try.func26 rfl (m0 + m1 + 0) ?_
 intro t ht htL
 refine ⟨_, rfl, ?_⟩
 refine CP.refr 31 [(0, .iface 24 (.pointer (some ⟨b1, 0, none⟩))), (1, .slice a2 n2 c2), (2, AG [encA .u8 d1]), (3, .slice a3 n3 c3), (4, .slice a4 n4 c4)] (by kernel_rfl) (by kernel_rfl) ?_
 intro ds
 have tot : Step (fun l => NoM l ∨ t ≤ l) g0 g0 := Step.refl _ _
 unfold F.notary_All at hs
 refine CP.seqR ?_
 refine WP.alloc (T := 32) (t + 1) [encA .u8 d1] [8] (by kernel_rfl) (by simp [len_encA]) ?_
 intro g1 b3 st1 hB3
 replace hB2 := hB2.mono st1 (fun x => x)
 replace hR1 := hR1.mono st1 (fun x => x)
 replace hB1 := hB1.mono st1 (fun x => x)
 replace hR2 := hR2.mono st1 (fun x => x)
 replace hR3 := hR3.mono st1 (fun x => x)
 replace hR4 := hR4.mono st1 (fun x => x)
 replace tot := tot.trans st1.pure
 refine WP.stl 1 ?_
 refine WP.dn ?_
 refine NX.then_n ?_
 refine CP.seq ?_
 refine CP.block ?_
 refine CP.cut (fun tm g => ∃ (q1 : Bool), Fr 31 [(0, .iface 24 (.pointer (some ⟨b1, 0, none⟩))), (1, .slice a2 n2 c2), (3, .slice a3 n3 c3), (4, .slice a4 n4 c4), (7, .pointer (some ⟨b3, 0, none⟩)), (11, .bool q1)] tm ∧ Step (fun l => NoM l ∨ t ≤ l) g0 g ∧ Box g m0 b1 84 [[.slice a1 n1 c1], [.map (some b2)]] [1, 1] ∧ RdS k_S_notary_entry g 86 a1 n1 c1 l1 ∧ MapB g m1 b2 kv_S_notary_entry (Value.int .i64) w1 ∧ RdS (Kd.arrI 8 .u8) g 32 a2 n2 c2 l2 ∧ RdS (Kd.slice 5 (Kd.int .u8)) g 37 a3 n3 c3 l3 ∧ RdS Kd.bool g 4 a4 n4 c4 l4 ∧ Box g (t + 1) b3 32 [encA .u8 d1] [8] ∧ (F.notary_All.c1 l1 w1 l2 d1 l3 l4 q1) = some o1) ?_ ?_
 ·refine CP.region ?_
  refine WP.stl 1 ?_
  refine WP.len (a := a2) (cp := c2) hR2.len (by kernel_rfl) ?_
  refine WP.stl 2 ?_
  refine WP.guard 15 (b := ((l2.length : Int) == 0)) (by kernel_rfl) (fun h4 => ?_) (fun h4 => ?_)
  ·replace hs := of_if_t hs h4
   refine WP.stl 7 ?_
   refine WP.dn ?_
   refine NX.post ?_
   exact ⟨true, ⟨by kernel_rfl, by kernel_rfl⟩, tot, hB2, hR1, hB1, hR2, hR3, hR4, hB3, hs⟩
  replace hs := of_if_f hs h4
  refine WP.stl 1 ?_
  refine WP.len (a := a3) (cp := c3) hR3.len (by kernel_rfl) ?_
  refine WP.stl 1 ?_
  refine WP.len (a := a2) (cp := c2) hR2.len (by kernel_rfl) ?_
  refine WP.stl 3 ?_
  refine WP.dn ?_
  refine NX.post ?_
  exact ⟨((l3.length : Int) != (l2.length : Int)), ⟨by kernel_rfl, by kernel_rfl⟩, tot, hB2, hR1, hB1, hR2, hR3, hR4, hB3, hs⟩
 clear tot hs hB2 hR1 hB1 hR2 hR3 hR4 hB3
 rintro tm g ⟨q1, hF, tot, hB2, hR1, hB1, hR2, hR3, hR4, hB3, hs⟩
 clear ds
 obtain ⟨ds, rfl⟩ := hF.open
 clear hF
 unfold F.notary_All.c1 at hs
 refine CP.cond (b := q1) (by kernel_rfl) (fun h2 => ?_) (fun h2 => ?_)
 ·replace hs := of_if_t hs h2
  refine CP.seqR ?_
  refine WP.stl 1 ?_
  refine WP.dn ?_
  refine NX.then_n ?_
  refine CP.ret ?_
  refine NX.block_r ?_
  refine NX.then_r ?_
  replace hs := Option.some.inj hs
  obtain rfl := hs
  exact NX.fin (v := .int .i64 1) (Res.still (by kernel_rfl)) tot htL rfl
 replace hs := of_if_f hs h2
 refine CP.seqR ?_
 refine WP.stl 2 ?_
 refine WP.loadB (v := AG [encA .u8 d1]) hB3 (by kernel_rfl) (by kernel_rfl) ?_
 refine WP.stl 2 ?_
 replace hs := Option.bind_eq_some_iff.1 hs
 obtain ⟨l5, hk1, hs⟩ := hs
 have hcal1 := P.notary_Missing g m0 m1 (t + 2) l1 w1 l2 d1 l3 l4 a1 n1 c1 a2 n2 c2 a3 n3 c3 a4 n4 c4 b1 b2 hR1 hR2 hR3 hR4 hB1 hB2 (by omega) (by omega) (by omega) l5 hk1
 refine WP.callC hcal1 (by kernel_rfl) ?_
 rintro _ g2 st2 ⟨a5, n5, c5, rfl, hR5⟩
 replace hB2 := hB2.mono st2 (fun x => x)
 replace hR1 := hR1.mono st2 (fun x => x)
 replace hB1 := hB1.mono st2 (fun x => x)
 replace hR2 := hR2.mono st2 (fun x => x)
 replace hR3 := hR3.mono st2 (fun x => x)
 replace hR4 := hR4.mono st2 (fun x => x)
 replace hB3 := hB3.mono st2 (fun x => x)
 replace tot := tot.trans st2.pure
 refine WP.len (a := a5) (cp := c5) hR5.len (by kernel_rfl) ?_
 refine WP.stl 2 ?_
 refine WP.dn ?_
 refine NX.then_n ?_
 refine CP.cond (b := decide ((l5.length : Int) > 0)) (by kernel_rfl) (fun h3 => ?_) (fun h3 => ?_)
 ·replace hs := of_if_t hs h3
  refine CP.seqR ?_
  refine WP.stl 1 ?_
  refine WP.dn ?_
  refine NX.then_n ?_
  refine CP.ret ?_
  refine NX.block_r ?_
  refine NX.then_r ?_
  replace hs := Option.some.inj hs
  obtain rfl := hs
  exact NX.fin (v := .int .i64 16) (Res.still (by kernel_rfl)) tot htL rfl
 replace hs := of_if_f hs h3
 refine CP.skip ?_
 refine NX.block_n ?_
 refine NX.then_n ?_
 refine CP.seqR ?_
 refine WP.stl 1 ?_
 refine WP.dn ?_
 refine NX.then_n ?_
 refine CP.ret ?_
 replace hs := Option.some.inj hs
 obtain rfl := hs
 exact NX.fin (v := .int .i64 0) (Res.still (by kernel_rfl)) tot htL rfl
def F.baizeref07_All.c1 (l1 : List S_baizeref07_Entry) (l2 : List Int) (x1 : Int) (l3 : List ByteArray) (l4 : List Bool) (q1 : Bool) : Option (Int) := (if q1 = true then (some 1) else ((F.baizeref07_Missing l1 l2 x1 l3 l4).bind fun l5 => (if decide ((l5.length : Int) > 0) = true then (some 16) else (some 0))))
def F.baizeref07_All (l1 : List S_baizeref07_Entry) (l2 : List Int) (x1 : Int) (l3 : List ByteArray) (l4 : List Bool) : Option (Int) := (if ((l2.length : Int) == 0) = true then (F.baizeref07_All.c1 l1 l2 x1 l3 l4 true) else (F.baizeref07_All.c1 l1 l2 x1 l3 l4 ((l3.length : Int) != (l2.length : Int))))
theorem P.baizeref07_All (g0 : GW) (l1 : List S_baizeref07_Entry) (l2 : List Int) (x1 : Int) (l3 : List ByteArray) (l4 : List Bool) (a1 : Option Addr) (n1 : Nat) (c1 : Nat) (a2 : Option Addr) (n2 : Nat) (c2 : Nat) (a3 : Option Addr) (n3 : Nat) (c3 : Nat) (a4 : Option Addr) (n4 : Nat) (c4 : Nat) (hR1 : RdS k_S_baizeref07_Entry g0 53 a1 n1 c1 l1) (hR2 : RdS (Kd.int .u64) g0 34 a2 n2 c2 l2) (hR3 : RdS Kd.str g0 9 a3 n3 c3 l3) (hR4 : RdS Kd.bool g0 4 a4 n4 c4 l4) (o1 : Int) (hs : F.baizeref07_All l1 l2 x1 l3 l4 = some o1) :
  Calls Try.prog 27 #[.slice a1 n1 c1, .slice a2 n2 c2, .int .u64 x1, .slice a3 n3 c3, .slice a4 n4 c4] g0.w (Ret NoM g0 fun v g => v = .int .i64 o1) := by
 refine calls_of (args := [.slice a1 n1 c1, .slice a2 n2 c2, .int .u64 x1, .slice a3 n3 c3, .slice a4 n4 c4]) Try.func27 rfl (0) ?_
 intro t ht htL
 refine ⟨_, rfl, ?_⟩
 refine CP.refr 29 [(0, .slice a1 n1 c1), (1, .slice a2 n2 c2), (2, .int .u64 x1), (3, .slice a3 n3 c3), (4, .slice a4 n4 c4)] (by kernel_rfl) (by kernel_rfl) ?_
 intro ds
 have tot : Step (fun l => NoM l ∨ t ≤ l) g0 g0 := Step.refl _ _
 unfold F.baizeref07_All at hs
 refine CP.seqR ?_
 refine WP.stl 1 ?_
 refine WP.dn ?_
 refine NX.then_n ?_
 refine CP.seq ?_
 refine CP.cut (fun tm g => ∃ (q1 : Bool), Fr 29 [(0, .slice a1 n1 c1), (1, .slice a2 n2 c2), (2, .int .u64 x1), (3, .slice a3 n3 c3), (4, .slice a4 n4 c4), (20, .bool q1)] tm ∧ Step (fun l => NoM l ∨ t ≤ l) g0 g ∧ RdS k_S_baizeref07_Entry g 53 a1 n1 c1 l1 ∧ RdS (Kd.int .u64) g 34 a2 n2 c2 l2 ∧ RdS Kd.str g 9 a3 n3 c3 l3 ∧ RdS Kd.bool g 4 a4 n4 c4 l4 ∧ (F.baizeref07_All.c1 l1 l2 x1 l3 l4 q1) = some o1) ?_ ?_
 ·refine CP.region ?_
  refine WP.stl 1 ?_
  refine WP.len (a := a2) (cp := c2) hR2.len (by kernel_rfl) ?_
  refine WP.stl 2 ?_
  refine WP.guard 14 (b := ((l2.length : Int) == 0)) (by kernel_rfl) (fun h4 => ?_) (fun h4 => ?_)
  ·replace hs := of_if_t hs h4
   refine WP.stl 6 ?_
   refine WP.dn ?_
   refine NX.post ?_
   exact ⟨true, ⟨by kernel_rfl, by kernel_rfl⟩, tot, hR1, hR2, hR3, hR4, hs⟩
  replace hs := of_if_f hs h4
  refine WP.stl 1 ?_
  refine WP.len (a := a3) (cp := c3) hR3.len (by kernel_rfl) ?_
  refine WP.stl 1 ?_
  refine WP.len (a := a2) (cp := c2) hR2.len (by kernel_rfl) ?_
  refine WP.stl 2 ?_
  refine WP.dn ?_
  refine NX.post ?_
  exact ⟨((l3.length : Int) != (l2.length : Int)), ⟨by kernel_rfl, by kernel_rfl⟩, tot, hR1, hR2, hR3, hR4, hs⟩
 clear tot hs hR1 hR2 hR3 hR4
 rintro tm g ⟨q1, hF, tot, hR1, hR2, hR3, hR4, hs⟩
 clear ds
 obtain ⟨ds, rfl⟩ := hF.open
 clear hF
 unfold F.baizeref07_All.c1 at hs
 refine CP.cond (b := q1) (by kernel_rfl) (fun h2 => ?_) (fun h2 => ?_)
 ·replace hs := of_if_t hs h2
  refine CP.seqR ?_
  refine WP.stl 1 ?_
  refine WP.dn ?_
  refine NX.then_n ?_
  refine CP.ret ?_
  refine NX.then_r ?_
  replace hs := Option.some.inj hs
  obtain rfl := hs
  exact NX.fin (v := .int .i64 1) (Res.still (by kernel_rfl)) tot htL rfl
 replace hs := of_if_f hs h2
 refine CP.skip ?_
 refine NX.then_n ?_
 refine CP.seq ?_
 refine CP.seqR ?_
 refine WP.stl 5 ?_
 replace hs := Option.bind_eq_some_iff.1 hs
 obtain ⟨l5, hk1, hs⟩ := hs
 have hcal1 := P.baizeref07_Missing g (t + 1) l1 l2 x1 l3 l4 a1 n1 c1 a2 n2 c2 a3 n3 c3 a4 n4 c4 hR1 hR2 hR3 hR4 l5 hk1
 refine WP.callC hcal1 (by kernel_rfl) ?_
 rintro _ g1 st1 ⟨a5, n5, c5, rfl, hR5⟩
 replace hR1 := hR1.mono st1 (fun x => x)
 replace hR2 := hR2.mono st1 (fun x => x)
 replace hR3 := hR3.mono st1 (fun x => x)
 replace hR4 := hR4.mono st1 (fun x => x)
 replace tot := tot.trans st1.pure
 refine WP.len (a := a5) (cp := c5) hR5.len (by kernel_rfl) ?_
 refine WP.stl 1 ?_
 refine WP.dn ?_
 refine NX.then_n ?_
 refine CP.cond (b := decide ((l5.length : Int) > 0)) (by kernel_rfl) (fun h3 => ?_) (fun h3 => ?_)
 ·replace hs := of_if_t hs h3
  refine CP.seqR ?_
  refine WP.stl 1 ?_
  refine WP.dn ?_
  refine NX.then_n ?_
  refine CP.ret ?_
  refine NX.then_r ?_
  replace hs := Option.some.inj hs
  obtain rfl := hs
  exact NX.fin (v := .int .i64 16) (Res.still (by kernel_rfl)) tot htL rfl
 replace hs := of_if_f hs h3
 refine CP.skip ?_
 refine NX.then_n ?_
 refine CP.seqR ?_
 refine WP.stl 1 ?_
 refine WP.dn ?_
 refine NX.then_n ?_
 refine CP.ret ?_
 replace hs := Option.some.inj hs
 obtain rfl := hs
 exact NX.fin (v := .int .i64 0) (Res.still (by kernel_rfl)) tot htL rfl
def F.baizelaw07_NotaryParties.c2 (nx2 : (List (List Int)) → (List ByteArray) → Int → Option (Bool)) (l30 : List (List Int)) (l31 : List ByteArray) (x38 : Int) (s14 : ByteArray) : Option (Bool) := (if l30.length + ([(strBytes s14)]).length ≤ 5864062014805 then (if l31.length + ([s14]).length ≤ 8796093022208 then (nx2 (l30 ++ [(strBytes s14)]) (l31 ++ [s14]) (IntKind.i64.wrap (x38 + 1))) else none) else none)
def F.baizelaw07_NotaryParties.c3 (nx2 : (List (List Int)) → (List ByteArray) → Int → Option (Bool)) (l30 : List (List Int)) (l31 : List ByteArray) (x38 : Int) (s13 : ByteArray) (q35 : Bool) : Option (Bool) := (if q35 = true then (if (0 : Int) ≤ 0 ∧ (0 : Int) ≤ 1 ∧ 1 ≤ (s13.size : Int) then (F.baizelaw07_NotaryParties.c2 nx2 l30 l31 x38 (ByteArray.extract s13 (0 : Int).toNat (1 : Int).toNat)) else none) else (F.baizelaw07_NotaryParties.c2 nx2 l30 l31 x38 s13))
def N.baizelaw07_NotaryParties_0 : List (List Nat) := [[], [], [0, 1], [0, 1, 2], [], [], [4, 5], [4, 5, 6], [0, 1, 2, 3, 4, 5, 6, 7]]
def F.baizelaw07_NotaryParties.c4 (q41 : Bool) : Option (Bool) := (some q41)
def F.baizelaw07_NotaryParties.l3 (x1 : Int) (l5 : List Bool) (l6 : List S_notary_entry) (d1 : (List (S_notary_entry × Int))) (l7 : List S_baizeref07_Entry) (l16 : List (Arr Int 8)) (l17 : List Int) (l30 : List (List Int)) (l31 : List ByteArray) (d11 : Arr Int 8) (l36 : List Int) (l37 : List Int) : Nat → Int → Option (Bool)
 | 0, _ => none
 | k + 1, x48 => (if decide (x48 < (l37.length : Int)) = true then (if (0 : Int) ≤ x48 ∧ x48 < (l36.length : Int) then (if (0 : Int) ≤ x48 ∧ x48 < (l37.length : Int) then (if ((getI l36 x48) != (getI l37 x48)) = true then (some false) else (F.baizelaw07_NotaryParties.l3 x1 l5 l6 d1 l7 l16 l17 l30 l31 d11 l36 l37 k (IntKind.i64.wrap (x48 + 1)))) else none) else none) else ((F.notary_All l6 d1 l16 d11 l30 l5).bind fun x52 => ((F.baizeref07_All l7 l17 (IntKind.u64.wrap x1) l31 l5).bind fun x54 => (if (x52 == x54) = true then ((F.baizelaw07_told).bind fun q42 => (F.baizelaw07_NotaryParties.c4 q42)) else (F.baizelaw07_NotaryParties.c4 false)))))
def F.baizelaw07_NotaryParties.l2 (x1 : Int) (l3 : List Int) (l4 : List Bool) (l5 : List Bool) (l6 : List S_notary_entry) (d1 : (List (S_notary_entry × Int))) (l7 : List S_baizeref07_Entry) (l16 : List (Arr Int 8)) (l17 : List Int) : Nat → (List (List Int)) → (List ByteArray) → Int → Option (Bool)
 | 0, _, _, _ => none
 | k + 1, l30, l31, x38 => (if decide (x38 < (l3.length : Int)) = true then (if (0 : Int) ≤ x38 ∧ x38 < (l3.length : Int) then ((F.baizeref07_Bytes (IntKind.i64.wrap (getI l3 x38))).bind fun s13 => (if decide (x38 < (l4.length : Int)) = true then (if (0 : Int) ≤ x38 ∧ x38 < (l4.length : Int) then (F.baizelaw07_NotaryParties.c3 (F.baizelaw07_NotaryParties.l2 x1 l3 l4 l5 l6 d1 l7 l16 l17 k) l30 l31 x38 s13 (getI l4 x38)) else none) else (F.baizelaw07_NotaryParties.c3 (F.baizelaw07_NotaryParties.l2 x1 l3 l4 l5 l6 d1 l7 l16 l17 k) l30 l31 x38 s13 false))) else none) else ((F.baizelaw07_Digest (IntKind.u64.wrap x1)).bind fun d11 => ((F.notary_Missing l6 d1 l16 d11 l30 l5).bind fun l36 => ((F.baizeref07_Missing l7 l17 (IntKind.u64.wrap x1) l31 l5).bind fun l37 => (if ((l36.length : Int) != (l37.length : Int)) = true then (some false) else (F.baizelaw07_NotaryParties.l3 x1 l5 l6 d1 l7 l16 l17 l30 l31 d11 l36 l37 fuel 0))))))
def F.baizelaw07_NotaryParties.l1 (l2 : List Int) (x1 : Int) (l3 : List Int) (l4 : List Bool) (l5 : List Bool) (l6 : List S_notary_entry) (d1 : (List (S_notary_entry × Int))) (l7 : List S_baizeref07_Entry) : Nat → (List (Arr Int 8)) → (List Int) → Int → Option (Bool)
 | 0, _, _, _ => none
 | k + 1, l16, l17, x16 => (if decide (x16 < (l2.length : Int)) = true then (if (0 : Int) ≤ x16 ∧ x16 < (l2.length : Int) then ((F.baizelaw07_Digest (IntKind.u64.wrap (getI l2 x16))).bind fun d8 => (if l16.length + ([d8]).length ≤ 17592186044416 then (if (0 : Int) ≤ x16 ∧ x16 < (l2.length : Int) then (if l17.length + ([(IntKind.u64.wrap (getI l2 x16))]).length ≤ 17592186044416 then (F.baizelaw07_NotaryParties.l1 l2 x1 l3 l4 l5 l6 d1 l7 k (l16 ++ [d8]) (l17 ++ [(IntKind.u64.wrap (getI l2 x16))]) (IntKind.i64.wrap (x16 + 1))) else none) else none) else none)) else none) else (F.baizelaw07_NotaryParties.l2 x1 l3 l4 l5 l6 d1 l7 l16 l17 fuel ([]) ([]) 0))
def F.baizelaw07_NotaryParties.c1 (l1 : List S_baizelaw07_Entry) (l2 : List Int) (x1 : Int) (l3 : List Int) (l4 : List Bool) (l5 : List Bool) (q1 : Bool) : Option (Bool) := (if q1 = true then ((F.baizelaw07_told).bind fun q2 => (some q2)) else ((F.baizelaw07_book l1).bind fun (l6, d1, l7, q3) => (if (!q3) = true then (some false) else (F.baizelaw07_NotaryParties.l1 l2 x1 l3 l4 l5 l6 d1 l7 fuel ([]) ([]) 0))))
def F.baizelaw07_NotaryParties (l1 : List S_baizelaw07_Entry) (l2 : List Int) (x1 : Int) (l3 : List Int) (l4 : List Bool) (l5 : List Bool) : Option (Bool) := (if decide ((l1.length : Int) > 30) = true then (F.baizelaw07_NotaryParties.c1 l1 l2 x1 l3 l4 l5 true) else (if decide ((l2.length : Int) > 12) = true then (F.baizelaw07_NotaryParties.c1 l1 l2 x1 l3 l4 l5 true) else (F.baizelaw07_NotaryParties.c1 l1 l2 x1 l3 l4 l5 (decide ((l3.length : Int) > 12)))))
theorem P.baizelaw07_NotaryParties (g0 : GW) (l1 : List S_baizelaw07_Entry) (l2 : List Int) (x1 : Int) (l3 : List Int) (l4 : List Bool) (l5 : List Bool) (a1 : Option Addr) (n1 : Nat) (c1 : Nat) (a2 : Option Addr) (n2 : Nat) (c2 : Nat) (a3 : Option Addr) (n3 : Nat) (c3 : Nat) (a4 : Option Addr) (n4 : Nat) (c4 : Nat) (a5 : Option Addr) (n5 : Nat) (c5 : Nat) (hR1 : RdS k_S_baizelaw07_Entry g0 36 a1 n1 c1 l1) (hR2 : RdS (Kd.int .u8) g0 5 a2 n2 c2 l2) (hR3 : RdS (Kd.int .u8) g0 5 a3 n3 c3 l3) (hR4 : RdS Kd.bool g0 4 a4 n4 c4 l4) (hR5 : RdS Kd.bool g0 4 a5 n5 c5 l5) (o1 : Bool) (hs : F.baizelaw07_NotaryParties l1 l2 x1 l3 l4 l5 = some o1) :
  Calls Try.prog 7 #[.slice a1 n1 c1, AG [[.slice a2 n2 c2], [.int .u8 x1], [.slice a3 n3 c3], [.slice a4 n4 c4], [.slice a5 n5 c5]]] g0.w (Ret NoM g0 fun v g => v = .bool o1) := by
 refine calls_of (args := [.slice a1 n1 c1, AG [[.slice a2 n2 c2], [.int .u8 x1], [.slice a3 n3 c3], [.slice a4 n4 c4], [.slice a5 n5 c5]]]) Try.func7 rfl (0) ?_
 intro t ht htL
 refine ⟨_, rfl, ?_⟩
 refine CP.refr 170 [(0, .slice a1 n1 c1), (1, AG [[.slice a2 n2 c2], [.int .u8 x1], [.slice a3 n3 c3], [.slice a4 n4 c4], [.slice a5 n5 c5]])] (by kernel_rfl) (by kernel_rfl) ?_
 intro ds
 have tot : Step (fun l => NoM l ∨ t ≤ l) g0 g0 := Step.refl _ _
 unfold F.baizelaw07_NotaryParties at hs
 refine CP.seqR ?_
 refine WP.alloc (T := 64) (t + 1) [[.slice a2 n2 c2], [.int .u8 x1], [.slice a3 n3 c3], [.slice a4 n4 c4], [.slice a5 n5 c5]] [1, 1, 1, 1, 1] (by kernel_rfl) rfl ?_
 intro g1 b1 st1 hB1
 replace hR1 := hR1.mono st1 (fun x => x)
 replace hR2 := hR2.mono st1 (fun x => x)
 replace hR3 := hR3.mono st1 (fun x => x)
 replace hR4 := hR4.mono st1 (fun x => x)
 replace hR5 := hR5.mono st1 (fun x => x)
 replace tot := tot.trans st1.pure
 refine WP.stl 1 ?_
 refine WP.dn ?_
 refine NX.then_n ?_
 refine CP.seq ?_
 refine CP.cut (fun tm g => ∃ (q1 : Bool), Fr 170 [(0, .slice a1 n1 c1), (3, .pointer (some ⟨b1, 0, none⟩)), (34, .bool q1)] tm ∧ Step (fun l => NoM l ∨ t ≤ l) g0 g ∧ RdS k_S_baizelaw07_Entry g 36 a1 n1 c1 l1 ∧ Box g (t + 1) b1 64 [[.slice a2 n2 c2], [.int .u8 x1], [.slice a3 n3 c3], [.slice a4 n4 c4], [.slice a5 n5 c5]] [1, 1, 1, 1, 1] ∧ RdS (Kd.int .u8) g 5 a2 n2 c2 l2 ∧ RdS (Kd.int .u8) g 5 a3 n3 c3 l3 ∧ RdS Kd.bool g 4 a4 n4 c4 l4 ∧ RdS Kd.bool g 4 a5 n5 c5 l5 ∧ (F.baizelaw07_NotaryParties.c1 l1 l2 x1 l3 l4 l5 q1) = some o1) ?_ ?_
 ·refine CP.region ?_
  refine WP.stl 1 ?_
  refine WP.len (a := a1) (cp := c1) hR1.len (by kernel_rfl) ?_
  refine WP.stl 2 ?_
  refine WP.guard 23 (b := decide ((l1.length : Int) > 30)) (by kernel_rfl) (fun h85 => ?_) (fun h85 => ?_)
  ·replace hs := of_if_t hs h85
   refine WP.stl 11 ?_
   refine WP.dn ?_
   refine NX.post ?_
   exact ⟨true, ⟨by kernel_rfl, by kernel_rfl⟩, tot, hR1, hB1, hR2, hR3, hR4, hR5, hs⟩
  replace hs := of_if_f hs h85
  refine WP.stl 1 ?_
  refine WP.loadB (v := .slice a2 n2 c2) hB1 (by kernel_rfl) (by kernel_rfl) ?_
  refine WP.len (a := a2) (cp := c2) hR2.len (by kernel_rfl) ?_
  refine WP.stl 3 ?_
  refine WP.guard 29 (b := decide ((l2.length : Int) > 12)) (by kernel_rfl) (fun h86 => ?_) (fun h86 => ?_)
  ·replace hs := of_if_t hs h86
   refine WP.stl 5 ?_
   refine WP.dn ?_
   refine NX.post ?_
   exact ⟨true, ⟨by kernel_rfl, by kernel_rfl⟩, tot, hR1, hB1, hR2, hR3, hR4, hR5, hs⟩
  replace hs := of_if_f hs h86
  refine WP.stl 1 ?_
  refine WP.loadB (v := .slice a3 n3 c3) hB1 (by kernel_rfl) (by kernel_rfl) ?_
  refine WP.len (a := a3) (cp := c3) hR3.len (by kernel_rfl) ?_
  refine WP.stl 2 ?_
  refine WP.dn ?_
  refine NX.post ?_
  exact ⟨decide ((l3.length : Int) > 12), ⟨by kernel_rfl, by kernel_rfl⟩, tot, hR1, hB1, hR2, hR3, hR4, hR5, hs⟩
 clear tot hs hR1 hB1 hR2 hR3 hR4 hR5
 rintro tm g ⟨q1, hF, tot, hR1, hB1, hR2, hR3, hR4, hR5, hs⟩
 clear ds
 obtain ⟨ds, rfl⟩ := hF.open
 clear hF
 unfold F.baizelaw07_NotaryParties.c1 at hs
 refine CP.cond (b := q1) (by kernel_rfl) (fun h3 => ?_) (fun h3 => ?_)
 ·replace hs := of_if_t hs h3
  refine CP.seqR ?_
  replace hs := Option.bind_eq_some_iff.1 hs
  obtain ⟨q2, hk1, hs⟩ := hs
  have hcal1 := P.baizelaw07_told g q2 hk1
  refine WP.callC hcal1 (by kernel_rfl) ?_
  rintro _ g2 st2 rfl
  replace hR1 := hR1.mono st2 (fun x => x)
  replace hB1 := hB1.mono st2 (fun x => x)
  replace hR2 := hR2.mono st2 (fun x => x)
  replace hR3 := hR3.mono st2 (fun x => x)
  replace hR4 := hR4.mono st2 (fun x => x)
  replace hR5 := hR5.mono st2 (fun x => x)
  replace tot := tot.trans st2.pure
  refine WP.stl 1 ?_
  refine WP.dn ?_
  refine NX.then_n ?_
  refine CP.ret ?_
  refine NX.then_r ?_
  replace hs := Option.some.inj hs
  obtain rfl := hs
  exact NX.fin (v := .bool q2) (Res.still (by kernel_rfl)) tot htL rfl
 replace hs := of_if_f hs h3
 refine CP.skip ?_
 refine NX.then_n ?_
 refine CP.seqR ?_
 refine WP.stl 1 ?_
 replace hs := Option.bind_eq_some_iff.1 hs
 obtain ⟨⟨l6, d1, l7, q3⟩, hk2, hs⟩ := hs
 dsimp only at hs
 have hcal2 := P.baizelaw07_book g (t + 2) (t + 3) (t + 4) l1 a1 n1 c1 hR1 l6 d1 l7 q3 hk2
 refine WP.callC hcal2 (by kernel_rfl) ?_
 rintro _ g3 st3 ⟨b2, a6, n6, c6, b3, a7, n7, c7, rfl, hB2, hR6, hB3, hR7⟩
 replace hR1 := hR1.mono st3 (fun x => x)
 replace hB1 := hB1.mono st3 (fun x => x)
 replace hR2 := hR2.mono st3 (fun x => x)
 replace hR3 := hR3.mono st3 (fun x => x)
 replace hR4 := hR4.mono st3 (fun x => x)
 replace hR5 := hR5.mono st3 (fun x => x)
 replace tot := tot.trans st3.pure
 refine WP.stl 7 ?_
 refine WP.dn ?_
 refine NX.then_n ?_
 refine CP.seq ?_
 refine CP.seqR ?_
 refine WP.stl 2 ?_
 refine WP.dn ?_
 refine NX.then_n ?_
 refine CP.cond (b := (!q3)) (by kernel_rfl) (fun h4 => ?_) (fun h4 => ?_)
 ·replace hs := of_if_t hs h4
  refine CP.seqR ?_
  refine WP.stl 1 ?_
  refine WP.dn ?_
  refine NX.then_n ?_
  refine CP.ret ?_
  refine NX.then_r ?_
  replace hs := Option.some.inj hs
  obtain rfl := hs
  exact NX.fin (v := .bool false) (Res.still (by kernel_rfl)) tot htL rfl
 replace hs := of_if_f hs h4
 refine CP.skip ?_
 refine NX.then_n ?_
 refine CP.seqR ?_
 refine WP.stl 1 ?_
 refine WP.dn ?_
 refine NX.then_n ?_
 refine CP.seqR ?_
 refine WP.stl 1 ?_
 refine WP.dn ?_
 refine NX.then_n ?_
 refine CP.refr 170 [(3, .pointer (some ⟨b1, 0, none⟩)), (5, .pointer (some ⟨b2, 0, none⟩)), (6, .slice a7 n7 c7), (8, .slice none 0 0), (9, .slice none 0 0)] (by kernel_rfl) (by kernel_rfl) ?_
 clear ds
 intro ds
 refine CP.seqR ?_
 refine WP.stl 1 ?_
 refine WP.dn ?_
 refine NX.then_n ?_
 refine CP.seqR ?_
 refine WP.stl 1 ?_
 refine WP.dn ?_
 refine NX.then_n ?_
 refine CP.seq ?_
 refine CP.seqR ?_
 refine WP.stl 1 ?_
 refine WP.dn ?_
 refine NX.then_n ?_
 refine CP.block ?_
 generalize fuel = k1 at hs
 refine CP.loop (fun k1 tm g => ∃ (l16 : List (Arr Int 8)) (a30 : Option Addr) (n16 : Nat) (c24 : Nat) (l17 : List Int) (a31 : Option Addr) (n17 : Nat) (c25 : Nat) (x16 : Int), Fr 170 [(3, .pointer (some ⟨b1, 0, none⟩)), (5, .pointer (some ⟨b2, 0, none⟩)), (6, .slice a7 n7 c7), (8, .slice a30 n16 c24), (9, .slice a31 n17 c25), (10, .slice none 0 0), (11, .slice none 0 0), (12, .int .i64 x16)] tm ∧ Step (fun l => NoM l ∨ t ≤ l) g0 g ∧ Box g (t + 1) b1 64 [[.slice a2 n2 c2], [.int .u8 x1], [.slice a3 n3 c3], [.slice a4 n4 c4], [.slice a5 n5 c5]] [1, 1, 1, 1, 1] ∧ RdS (Kd.int .u8) g 5 a2 n2 c2 l2 ∧ RdS (Kd.int .u8) g 5 a3 n3 c3 l3 ∧ RdS Kd.bool g 4 a4 n4 c4 l4 ∧ RdS Kd.bool g 4 a5 n5 c5 l5 ∧ Box g (t + 2) b2 84 [[.slice a6 n6 c6], [.map (some b3)]] [1, 1] ∧ OwnS k_S_notary_entry g (t + 3) 86 a6 n6 c6 l6 ∧ MapB g (t + 4) b3 kv_S_notary_entry (Value.int .i64) d1 ∧ RdS k_S_baizeref07_Entry g 53 a7 n7 c7 l7 ∧ OwnS (Kd.arrI 8 .u8) g (t + 6) 32 a30 n16 c24 l16 ∧ OwnS (Kd.int .u64) g (t + 8) 34 a31 n17 c25 l17 ∧ F.baizelaw07_NotaryParties.l1 l2 x1 l3 l4 l5 l6 d1 l7 k1 l16 l17 x16 = some o1) k1 ?_ ?_ ?_
 ·exact ⟨[], none, 0, 0, [], none, 0, 0, 0, ⟨by kernel_rfl, by kernel_rfl⟩, tot, hB1, hR2, hR3, hR4, hR5, hB2, hR6, hB3, hR7, (OwnS.nil _ _ _ _), (OwnS.nil _ _ _ _), hs⟩
 ·rintro tm g ⟨l16, a30, n16, c24, l17, a31, n17, c25, x16, hF, tot, hB1, hR2, hR3, hR4, hR5, hB2, hR6, hB3, hR7, hR30, hR31, hs⟩
  exact absurd hs (by simp [F.baizelaw07_NotaryParties.l1])
 clear tot hs hB1 hR2 hR3 hR4 hR5 hB2 hR6 hB3 hR7
 rintro k1 tm g ⟨l16, a30, n16, c24, l17, a31, n17, c25, x16, hF, tot, hB1, hR2, hR3, hR4, hR5, hB2, hR6, hB3, hR7, hR30, hR31, hs⟩
 clear ds
 obtain ⟨ds, rfl⟩ := hF.open
 clear hF
 unfold F.baizelaw07_NotaryParties.l1 at hs
 refine CP.seq ?_
 refine CP.seqR ?_
 refine WP.stl 2 ?_
 refine WP.loadB (v := .slice a2 n2 c2) hB1 (by kernel_rfl) (by kernel_rfl) ?_
 refine WP.len (a := a2) (cp := c2) hR2.len (by kernel_rfl) ?_
 refine WP.stl 1 ?_
 refine WP.dn ?_
 refine NX.then_n ?_
 refine CP.cond (b := decide (x16 < (l2.length : Int))) (by kernel_rfl) (fun h47 => ?_) (fun h47 => ?_)
 ·replace hs := of_if_t hs h47
  refine CP.skip ?_
  refine NX.then_n ?_
  refine CP.seq ?_
  refine CP.block ?_
  refine CP.seqR ?_
  refine WP.stl 2 ?_
  refine WP.loadB (v := .slice a2 n2 c2) hB1 (by kernel_rfl) (by kernel_rfl) ?_
  refine WP.stl 1 ?_
  by_cases hc45 : (0 : Int) ≤ x16 ∧ x16 < (l2.length : Int)
  case neg => rw [if_neg hc45] at hs; cases hs
  replace hs := of_if_p hs hc45
  obtain ⟨b36, u29, ha29⟩ := hR2.at hc45
  refine WP.indexA (t := 37) (e := 5) (sz := 1) (cap := c2) (k := .i64) (i := x16) hR2.len ha29 (by kernel_rfl) (by kernel_rfl) hc45 ?_
  obtain ⟨cs29, hcR29, hcV29⟩ := hR2.src.view (getI_some hc45) ha29
  replace hcR29 := Kd.o_int hcR29
  refine WP.loadV [[.int .u8 (getI l2 x16)]] [1] hcV29 hcR29 rfl (f := 0) (ty := 5) (agg := false) (size := 1) (rs := [[.int .u8 (getI l2 x16)]]) (v := .int .u8 (getI l2 x16)) (by kernel_rfl) (by kernel_rfl) (by kernel_rfl) (by kernel_rfl) ?_
  refine WP.stl 1 ?_
  replace hs := Option.bind_eq_some_iff.1 hs
  obtain ⟨d8, hk45, hs⟩ := hs
  have hcal45 := P.baizelaw07_Digest g (IntKind.u64.wrap (getI l2 x16)) d8 hk45
  refine WP.callC hcal45 (by kernel_rfl) ?_
  rintro _ g94 st94 rfl
  replace hB1 := hB1.mono st94 (fun x => x)
  replace hR2 := hR2.mono st94 (fun x => x)
  replace hR3 := hR3.mono st94 (fun x => x)
  replace hR4 := hR4.mono st94 (fun x => x)
  replace hR5 := hR5.mono st94 (fun x => x)
  replace hB2 := hB2.mono st94 (fun x => x)
  replace hR6 := hR6.mono st94 (fun x => x) (fun x => x)
  replace hB3 := hB3.mono st94 (fun x => x)
  replace hR7 := hR7.mono st94 (fun x => x)
  replace hR30 := hR30.mono st94 (fun x => x) (fun x => x)
  replace hR31 := hR31.mono st94 (fun x => x) (fun x => x)
  replace tot := tot.trans st94.pure
  refine WP.mkSl (kd := (Kd.arrI 8 .u8)) (t := 48) (e := 32) (bytes := 8) (t + 35) [AG [encA .u8 d8]] [d8] (by kernel_rfl) (by kernel_rfl) (Nat.le_of_ble_eq_true rfl) (Nat.le_of_ble_eq_true rfl) (all_cons (Kd.len (Kd.arrI 8 .u8) (g := g94) (x := d8) (AG_one _)) all_nil) (⟨_, _, rfl, (AG_one _), rfl⟩) rfl ?_
  intro g95 a56 st95 hR56
  replace hB1 := hB1.mono st95 (fun x => x)
  replace hR2 := hR2.mono st95 (fun x => x)
  replace hR3 := hR3.mono st95 (fun x => x)
  replace hR4 := hR4.mono st95 (fun x => x)
  replace hR5 := hR5.mono st95 (fun x => x)
  replace hB2 := hB2.mono st95 (fun x => x)
  replace hR6 := hR6.mono st95 (fun x => x) (fun x => x)
  replace hB3 := hB3.mono st95 (fun x => x)
  replace hR7 := hR7.mono st95 (fun x => x)
  replace hR30 := hR30.mono st95 (fun x => x) (fun x => x)
  replace hR31 := hR31.mono st95 (fun x => x) (fun x => x)
  replace tot := tot.trans st95.pure
  by_cases hc46 : l16.length + ([d8]).length ≤ 17592186044416
  case neg => rw [if_neg hc46] at hs; cases hs
  replace hs := of_if_p hs hc46
  refine WP.append (kd := (Kd.arrI 8 .u8)) (t := 48) (e := 32) (bytes := 8) (a2 := a56) (c2 := 1) hR30 hR56.src hR56.len (by kernel_rfl) (by kernel_rfl) (by omega) (by simp only [maxLen]; omega) (by omega) ?_
  intro g96 a57 c44 st96 hR57
  replace hB1 := hB1.mono st96 (WL.no1 (by omega))
  replace hR2 := hR2.mono st96 (WL.no1 (by omega))
  replace hR3 := hR3.mono st96 (WL.no1 (by omega))
  replace hR4 := hR4.mono st96 (WL.no1 (by omega))
  replace hR5 := hR5.mono st96 (WL.no1 (by omega))
  replace hB2 := hB2.mono st96 (WL.no1 (by omega))
  replace hR6 := hR6.mono st96 (WL.no1 (by omega)) (WL.no1 (by omega))
  replace hB3 := hB3.mono st96 (WL.no1 (by omega))
  replace hR7 := hR7.mono st96 (WL.no1 (by omega))
  replace hR31 := hR31.mono st96 (WL.no1 (by omega)) (WL.no1 (by omega))
  replace hR56 := hR56.mono st96 (WL.no1 (by omega)) (WL.no1 (by omega))
  replace tot := tot.trans (st96.up1 (.inr (by omega)))
  refine WP.stl 1 ?_
  refine WP.dn ?_
  refine NX.then_n ?_
  refine CP.refr 170 [(3, .pointer (some ⟨b1, 0, none⟩)), (5, .pointer (some ⟨b2, 0, none⟩)), (6, .slice a7 n7 c7), (8, .slice a57 (n16 + 1) c44), (9, .slice a31 n17 c25), (10, .slice none 0 0), (11, .slice none 0 0), (12, .int .i64 x16)] (by kernel_rfl) (by kernel_rfl) ?_
  clear ds
  intro ds
  refine CP.region ?_
  refine WP.stl 2 ?_
  refine WP.loadB (v := .slice a2 n2 c2) hB1 (by kernel_rfl) (by kernel_rfl) ?_
  refine WP.stl 1 ?_
  by_cases hc47 : (0 : Int) ≤ x16 ∧ x16 < (l2.length : Int)
  case neg => rw [if_neg hc47] at hs; cases hs
  replace hs := of_if_p hs hc47
  obtain ⟨b37, u30, ha30⟩ := hR2.at hc47
  refine WP.indexA (t := 37) (e := 5) (sz := 1) (cap := c2) (k := .i64) (i := x16) hR2.len ha30 (by kernel_rfl) (by kernel_rfl) hc47 ?_
  obtain ⟨cs30, hcR30, hcV30⟩ := hR2.src.view (getI_some hc47) ha30
  replace hcR30 := Kd.o_int hcR30
  refine WP.loadV [[.int .u8 (getI l2 x16)]] [1] hcV30 hcR30 rfl (f := 0) (ty := 5) (agg := false) (size := 1) (rs := [[.int .u8 (getI l2 x16)]]) (v := .int .u8 (getI l2 x16)) (by kernel_rfl) (by kernel_rfl) (by kernel_rfl) (by kernel_rfl) ?_
  refine WP.stl 1 ?_
  refine WP.mkSl (kd := (Kd.int .u64)) (t := 43) (e := 34) (bytes := 8) (t + 36) [.int .u64 (IntKind.u64.wrap (getI l2 x16))] [(IntKind.u64.wrap (getI l2 x16))] (by kernel_rfl) (by kernel_rfl) (Nat.le_of_ble_eq_true rfl) (Nat.le_of_ble_eq_true rfl) (all_cons rfl all_nil) (⟨_, _, rfl, (by exact rfl), rfl⟩) rfl ?_
  intro g97 a58 st97 hR58
  replace hB1 := hB1.mono st97 (fun x => x)
  replace hR2 := hR2.mono st97 (fun x => x)
  replace hR3 := hR3.mono st97 (fun x => x)
  replace hR4 := hR4.mono st97 (fun x => x)
  replace hR5 := hR5.mono st97 (fun x => x)
  replace hB2 := hB2.mono st97 (fun x => x)
  replace hR6 := hR6.mono st97 (fun x => x) (fun x => x)
  replace hB3 := hB3.mono st97 (fun x => x)
  replace hR7 := hR7.mono st97 (fun x => x)
  replace hR57 := hR57.mono st97 (fun x => x) (fun x => x)
  replace hR31 := hR31.mono st97 (fun x => x) (fun x => x)
  replace tot := tot.trans st97.pure
  by_cases hc48 : l17.length + ([(IntKind.u64.wrap (getI l2 x16))]).length ≤ 17592186044416
  case neg => rw [if_neg hc48] at hs; cases hs
  replace hs := of_if_p hs hc48
  refine WP.append (kd := (Kd.int .u64)) (t := 43) (e := 34) (bytes := 8) (a2 := a58) (c2 := 1) hR31 hR58.src hR58.len (by kernel_rfl) (by kernel_rfl) (by omega) (by simp only [maxLen]; omega) (by omega) ?_
  intro g98 a59 c45 st98 hR59
  replace hB1 := hB1.mono st98 (WL.no1 (by omega))
  replace hR2 := hR2.mono st98 (WL.no1 (by omega))
  replace hR3 := hR3.mono st98 (WL.no1 (by omega))
  replace hR4 := hR4.mono st98 (WL.no1 (by omega))
  replace hR5 := hR5.mono st98 (WL.no1 (by omega))
  replace hB2 := hB2.mono st98 (WL.no1 (by omega))
  replace hR6 := hR6.mono st98 (WL.no1 (by omega)) (WL.no1 (by omega))
  replace hB3 := hB3.mono st98 (WL.no1 (by omega))
  replace hR7 := hR7.mono st98 (WL.no1 (by omega))
  replace hR57 := hR57.mono st98 (WL.no1 (by omega)) (WL.no1 (by omega))
  replace hR58 := hR58.mono st98 (WL.no1 (by omega)) (WL.no1 (by omega))
  replace tot := tot.trans (st98.up1 (.inr (by omega)))
  refine WP.stl 1 ?_
  refine WP.dn ?_
  refine NX.block_n ?_
  refine NX.then_n ?_
  refine CP.region ?_
  refine WP.stl 3 ?_
  refine WP.dn ?_
  refine NX.post ?_
  exact ⟨(l16 ++ [d8]), a57, (n16 + 1), c44, (l17 ++ [(IntKind.u64.wrap (getI l2 x16))]), a59, (n17 + 1), c45, (IntKind.i64.wrap (x16 + 1)), ⟨by kernel_rfl, by kernel_rfl⟩, tot, hB1, hR2, hR3, hR4, hR5, hB2, hR6, hB3, hR7, hR57, hR59, hs⟩
 replace hs := of_if_f hs h47
 refine CP.exit ?_
 refine NX.then_e ?_
 refine NX.then_e ?_
 refine NX.block_s ?_
 refine NX.then_n ?_
 refine CP.seq ?_
 refine CP.seqR ?_
 refine WP.stl 1 ?_
 refine WP.dn ?_
 refine NX.then_n ?_
 refine CP.block ?_
 generalize fuel = k2 at hs
 refine CP.loop (fun k2 tm g => ∃ (l30 : List (List Int)) (a67 : Option Addr) (n30 : Nat) (c51 : Nat) (l31 : List ByteArray) (a68 : Option Addr) (n31 : Nat) (c52 : Nat) (x38 : Int), Fr 170 [(3, .pointer (some ⟨b1, 0, none⟩)), (5, .pointer (some ⟨b2, 0, none⟩)), (6, .slice a7 n7 c7), (8, .slice a30 n16 c24), (9, .slice a31 n17 c25), (10, .slice a67 n30 c51), (11, .slice a68 n31 c52), (13, .int .i64 x38)] tm ∧ Step (fun l => NoM l ∨ t ≤ l) g0 g ∧ Box g (t + 1) b1 64 [[.slice a2 n2 c2], [.int .u8 x1], [.slice a3 n3 c3], [.slice a4 n4 c4], [.slice a5 n5 c5]] [1, 1, 1, 1, 1] ∧ RdS (Kd.int .u8) g 5 a2 n2 c2 l2 ∧ RdS (Kd.int .u8) g 5 a3 n3 c3 l3 ∧ RdS Kd.bool g 4 a4 n4 c4 l4 ∧ RdS Kd.bool g 4 a5 n5 c5 l5 ∧ Box g (t + 2) b2 84 [[.slice a6 n6 c6], [.map (some b3)]] [1, 1] ∧ OwnS k_S_notary_entry g (t + 3) 86 a6 n6 c6 l6 ∧ MapB g (t + 4) b3 kv_S_notary_entry (Value.int .i64) d1 ∧ RdS k_S_baizeref07_Entry g 53 a7 n7 c7 l7 ∧ OwnS (Kd.arrI 8 .u8) g (t + 6) 32 a30 n16 c24 l16 ∧ OwnS (Kd.int .u64) g (t + 8) 34 a31 n17 c25 l17 ∧ OwnS (Kd.slice 5 (Kd.int .u8)) g (t + 38) 37 a67 n30 c51 l30 ∧ OwnS Kd.str g (t + 40) 9 a68 n31 c52 l31 ∧ F.baizelaw07_NotaryParties.l2 x1 l3 l4 l5 l6 d1 l7 l16 l17 k2 l30 l31 x38 = some o1) k2 ?_ ?_ ?_
 ·exact ⟨[], none, 0, 0, [], none, 0, 0, 0, ⟨by kernel_rfl, by kernel_rfl⟩, tot, hB1, hR2, hR3, hR4, hR5, hB2, hR6, hB3, hR7, hR30, hR31, (OwnS.nil _ _ _ _), (OwnS.nil _ _ _ _), hs⟩
 ·rintro tm g ⟨l30, a67, n30, c51, l31, a68, n31, c52, x38, hF, tot, hB1, hR2, hR3, hR4, hR5, hB2, hR6, hB3, hR7, hR30, hR31, hR67, hR68, hs⟩
  exact absurd hs (by simp [F.baizelaw07_NotaryParties.l2])
 clear tot hs hB1 hR2 hR3 hR4 hR5 hB2 hR6 hB3 hR7 hR30 hR31
 rintro k2 tm g ⟨l30, a67, n30, c51, l31, a68, n31, c52, x38, hF, tot, hB1, hR2, hR3, hR4, hR5, hB2, hR6, hB3, hR7, hR30, hR31, hR67, hR68, hs⟩
 clear ds
 obtain ⟨ds, rfl⟩ := hF.open
 clear hF
 unfold F.baizelaw07_NotaryParties.l2 at hs
 refine CP.seq ?_
 refine CP.seqR ?_
 refine WP.stl 2 ?_
 refine WP.loadB (v := .slice a3 n3 c3) hB1 (by kernel_rfl) (by kernel_rfl) ?_
 refine WP.len (a := a3) (cp := c3) hR3.len (by kernel_rfl) ?_
 refine WP.stl 1 ?_
 refine WP.dn ?_
 refine NX.then_n ?_
 refine CP.cond (b := decide (x38 < (l3.length : Int))) (by kernel_rfl) (fun h68 => ?_) (fun h68 => ?_)
 ·replace hs := of_if_t hs h68
  refine CP.skip ?_
  refine NX.then_n ?_
  refine CP.seq ?_
  refine CP.block ?_
  refine CP.seqR ?_
  refine WP.stl 1 ?_
  refine WP.loadB (v := .slice a3 n3 c3) hB1 (by kernel_rfl) (by kernel_rfl) ?_
  refine WP.stl 1 ?_
  by_cases hc67 : (0 : Int) ≤ x38 ∧ x38 < (l3.length : Int)
  case neg => rw [if_neg hc67] at hs; cases hs
  replace hs := of_if_p hs hc67
  obtain ⟨b52, u43, ha43⟩ := hR3.at hc67
  refine WP.indexA (t := 37) (e := 5) (sz := 1) (cap := c3) (k := .i64) (i := x38) hR3.len ha43 (by kernel_rfl) (by kernel_rfl) hc67 ?_
  obtain ⟨cs43, hcR43, hcV43⟩ := hR3.src.view (getI_some hc67) ha43
  replace hcR43 := Kd.o_int hcR43
  refine WP.loadV [[.int .u8 (getI l3 x38)]] [1] hcV43 hcR43 rfl (f := 0) (ty := 5) (agg := false) (size := 1) (rs := [[.int .u8 (getI l3 x38)]]) (v := .int .u8 (getI l3 x38)) (by kernel_rfl) (by kernel_rfl) (by kernel_rfl) (by kernel_rfl) ?_
  refine WP.stl 1 ?_
  replace hs := Option.bind_eq_some_iff.1 hs
  obtain ⟨s13, hk66, hs⟩ := hs
  have hcal66 := P.baizeref07_Bytes g (IntKind.i64.wrap (getI l3 x38)) s13 hk66
  refine WP.callC hcal66 (by kernel_rfl) ?_
  rintro _ g141 st141 rfl
  replace hB1 := hB1.mono st141 (fun x => x)
  replace hR2 := hR2.mono st141 (fun x => x)
  replace hR3 := hR3.mono st141 (fun x => x)
  replace hR4 := hR4.mono st141 (fun x => x)
  replace hR5 := hR5.mono st141 (fun x => x)
  replace hB2 := hB2.mono st141 (fun x => x)
  replace hR6 := hR6.mono st141 (fun x => x) (fun x => x)
  replace hB3 := hB3.mono st141 (fun x => x)
  replace hR7 := hR7.mono st141 (fun x => x)
  replace hR30 := hR30.mono st141 (fun x => x) (fun x => x)
  replace hR31 := hR31.mono st141 (fun x => x) (fun x => x)
  replace hR67 := hR67.mono st141 (fun x => x) (fun x => x)
  replace hR68 := hR68.mono st141 (fun x => x) (fun x => x)
  replace tot := tot.trans st141.pure
  refine WP.stl 1 ?_
  refine WP.dn ?_
  refine NX.then_n ?_
  refine CP.refr 170 [(3, .pointer (some ⟨b1, 0, none⟩)), (5, .pointer (some ⟨b2, 0, none⟩)), (6, .slice a7 n7 c7), (8, .slice a30 n16 c24), (9, .slice a31 n17 c25), (10, .slice a67 n30 c51), (11, .slice a68 n31 c52), (13, .int .i64 x38), (14, .string s13)] (by kernel_rfl) (by kernel_rfl) ?_
  clear ds
  intro ds
  refine CP.cut (fun tm g => ∃ (s14 : ByteArray), Fr 170 [(3, .pointer (some ⟨b1, 0, none⟩)), (5, .pointer (some ⟨b2, 0, none⟩)), (6, .slice a7 n7 c7), (8, .slice a30 n16 c24), (9, .slice a31 n17 c25), (10, .slice a67 n30 c51), (11, .slice a68 n31 c52), (13, .int .i64 x38), (14, .string s14)] tm ∧ Step (fun l => NoM l ∨ t ≤ l) g0 g ∧ Box g (t + 1) b1 64 [[.slice a2 n2 c2], [.int .u8 x1], [.slice a3 n3 c3], [.slice a4 n4 c4], [.slice a5 n5 c5]] [1, 1, 1, 1, 1] ∧ RdS (Kd.int .u8) g 5 a2 n2 c2 l2 ∧ RdS (Kd.int .u8) g 5 a3 n3 c3 l3 ∧ RdS Kd.bool g 4 a4 n4 c4 l4 ∧ RdS Kd.bool g 4 a5 n5 c5 l5 ∧ Box g (t + 2) b2 84 [[.slice a6 n6 c6], [.map (some b3)]] [1, 1] ∧ OwnS k_S_notary_entry g (t + 3) 86 a6 n6 c6 l6 ∧ MapB g (t + 4) b3 kv_S_notary_entry (Value.int .i64) d1 ∧ RdS k_S_baizeref07_Entry g 53 a7 n7 c7 l7 ∧ OwnS (Kd.arrI 8 .u8) g (t + 6) 32 a30 n16 c24 l16 ∧ OwnS (Kd.int .u64) g (t + 8) 34 a31 n17 c25 l17 ∧ OwnS (Kd.slice 5 (Kd.int .u8)) g (t + 38) 37 a67 n30 c51 l30 ∧ OwnS Kd.str g (t + 40) 9 a68 n31 c52 l31 ∧ (F.baizelaw07_NotaryParties.c2 (F.baizelaw07_NotaryParties.l2 x1 l3 l4 l5 l6 d1 l7 l16 l17 k2) l30 l31 x38 s14) = some o1) ?_ ?_
  ·refine CP.cut (fun tm g => ∃ (q35 : Bool), Fr 170 [(3, .pointer (some ⟨b1, 0, none⟩)), (5, .pointer (some ⟨b2, 0, none⟩)), (6, .slice a7 n7 c7), (8, .slice a30 n16 c24), (9, .slice a31 n17 c25), (10, .slice a67 n30 c51), (11, .slice a68 n31 c52), (13, .int .i64 x38), (14, .string s13), (95, .bool q35)] tm ∧ Step (fun l => NoM l ∨ t ≤ l) g0 g ∧ Box g (t + 1) b1 64 [[.slice a2 n2 c2], [.int .u8 x1], [.slice a3 n3 c3], [.slice a4 n4 c4], [.slice a5 n5 c5]] [1, 1, 1, 1, 1] ∧ RdS (Kd.int .u8) g 5 a2 n2 c2 l2 ∧ RdS (Kd.int .u8) g 5 a3 n3 c3 l3 ∧ RdS Kd.bool g 4 a4 n4 c4 l4 ∧ RdS Kd.bool g 4 a5 n5 c5 l5 ∧ Box g (t + 2) b2 84 [[.slice a6 n6 c6], [.map (some b3)]] [1, 1] ∧ OwnS k_S_notary_entry g (t + 3) 86 a6 n6 c6 l6 ∧ MapB g (t + 4) b3 kv_S_notary_entry (Value.int .i64) d1 ∧ RdS k_S_baizeref07_Entry g 53 a7 n7 c7 l7 ∧ OwnS (Kd.arrI 8 .u8) g (t + 6) 32 a30 n16 c24 l16 ∧ OwnS (Kd.int .u64) g (t + 8) 34 a31 n17 c25 l17 ∧ OwnS (Kd.slice 5 (Kd.int .u8)) g (t + 38) 37 a67 n30 c51 l30 ∧ OwnS Kd.str g (t + 40) 9 a68 n31 c52 l31 ∧ (F.baizelaw07_NotaryParties.c3 (F.baizelaw07_NotaryParties.l2 x1 l3 l4 l5 l6 d1 l7 l16 l17 k2) l30 l31 x38 s13 q35) = some o1) ?_ ?_
   ·refine CP.region ?_
    refine WP.stl 2 ?_
    refine WP.loadB (v := .slice a4 n4 c4) hB1 (by kernel_rfl) (by kernel_rfl) ?_
    refine WP.len (a := a4) (cp := c4) hR4.len (by kernel_rfl) ?_
    refine WP.stl 2 ?_
    refine WP.guard 89 (b := decide (x38 < (l4.length : Int))) (by kernel_rfl) (fun h73 => ?_) (fun h73 => ?_)
    ·replace hs := of_if_t hs h73
     refine WP.stl 1 ?_
     refine WP.loadB (v := .slice a4 n4 c4) hB1 (by kernel_rfl) (by kernel_rfl) ?_
     refine WP.stl 1 ?_
     by_cases hc74 : (0 : Int) ≤ x38 ∧ x38 < (l4.length : Int)
     case neg => rw [if_neg hc74] at hs; cases hs
     replace hs := of_if_p hs hc74
     obtain ⟨b55, u46, ha46⟩ := hR4.at hc74
     refine WP.indexA (t := 62) (e := 4) (sz := 1) (cap := c4) (k := .i64) (i := x38) hR4.len ha46 (by kernel_rfl) (by kernel_rfl) hc74 ?_
     obtain ⟨cs46, hcR46, hcV46⟩ := hR4.src.view (getI_some hc74) ha46
     replace hcR46 := Kd.o_bool hcR46
     refine WP.loadV [[.bool (getI l4 x38)]] [1] hcV46 hcR46 rfl (f := 0) (ty := 4) (agg := false) (size := 1) (rs := [[.bool (getI l4 x38)]]) (v := .bool (getI l4 x38)) (by kernel_rfl) (by kernel_rfl) (by kernel_rfl) (by kernel_rfl) ?_
     refine WP.stl 1 ?_
     refine WP.dn ?_
     refine NX.post ?_
     exact ⟨(getI l4 x38), ⟨by kernel_rfl, by kernel_rfl⟩, tot, hB1, hR2, hR3, hR4, hR5, hB2, hR6, hB3, hR7, hR30, hR31, hR67, hR68, hs⟩
    replace hs := of_if_f hs h73
    refine WP.stl 6 ?_
    refine WP.dn ?_
    refine NX.post ?_
    exact ⟨false, ⟨by kernel_rfl, by kernel_rfl⟩, tot, hB1, hR2, hR3, hR4, hR5, hB2, hR6, hB3, hR7, hR30, hR31, hR67, hR68, hs⟩
   clear tot hs hB1 hR2 hR3 hR4 hR5 hB2 hR6 hB3 hR7 hR30 hR31 hR67 hR68
   rintro tm g ⟨q35, hF, tot, hB1, hR2, hR3, hR4, hR5, hB2, hR6, hB3, hR7, hR30, hR31, hR67, hR68, hs⟩
   clear ds
   obtain ⟨ds, rfl⟩ := hF.open
   clear hF
   unfold F.baizelaw07_NotaryParties.c3 at hs
   refine CP.cond (b := q35) (by kernel_rfl) (fun h72 => ?_) (fun h72 => ?_)
   ·replace hs := of_if_t hs h72
    refine CP.region ?_
    refine WP.stl 1 ?_
    by_cases hc73 : (0 : Int) ≤ 0 ∧ (0 : Int) ≤ 1 ∧ 1 ≤ (s13.size : Int)
    case neg => rw [if_neg hc73] at hs; cases hs
    replace hs := of_if_p hs hc73
    refine WP.sliceS (s := s13) (lo := none) (hi := some (.int .i64 1)) (0 : Int) (1 : Int) (by kernel_rfl) (.inl ⟨rfl, rfl⟩) (.inr ⟨_, rfl⟩) hc73 ?_
    refine WP.stl 1 ?_
    refine WP.dn ?_
    refine NX.post ?_
    exact ⟨(ByteArray.extract s13 (0 : Int).toNat (1 : Int).toNat), ⟨by kernel_rfl, by kernel_rfl⟩, tot, hB1, hR2, hR3, hR4, hR5, hB2, hR6, hB3, hR7, hR30, hR31, hR67, hR68, hs⟩
   replace hs := of_if_f hs h72
   refine CP.skip ?_
   refine NX.post ?_
   exact ⟨s13, ⟨by kernel_rfl, by kernel_rfl⟩, tot, hB1, hR2, hR3, hR4, hR5, hB2, hR6, hB3, hR7, hR30, hR31, hR67, hR68, hs⟩
  clear tot hs hB1 hR2 hR3 hR4 hR5 hB2 hR6 hB3 hR7 hR30 hR31 hR67 hR68
  rintro tm g ⟨s14, hF, tot, hB1, hR2, hR3, hR4, hR5, hB2, hR6, hB3, hR7, hR30, hR31, hR67, hR68, hs⟩
  clear ds
  obtain ⟨ds, rfl⟩ := hF.open
  clear hF
  unfold F.baizelaw07_NotaryParties.c2 at hs
  refine CP.seqR ?_
  refine WP.stl 2 ?_
  refine WP.toBytes (e := 5) (s := s14) (by kernel_rfl) ?_
  intro g142 a78 c60 st142 hR78
  replace hB1 := hB1.mono st142 (fun x => x)
  replace hR2 := hR2.mono st142 (fun x => x)
  replace hR3 := hR3.mono st142 (fun x => x)
  replace hR4 := hR4.mono st142 (fun x => x)
  replace hR5 := hR5.mono st142 (fun x => x)
  replace hB2 := hB2.mono st142 (fun x => x)
  replace hR6 := hR6.mono st142 (fun x => x) (fun x => x)
  replace hB3 := hB3.mono st142 (fun x => x)
  replace hR7 := hR7.mono st142 (fun x => x)
  replace hR30 := hR30.mono st142 (fun x => x) (fun x => x)
  replace hR31 := hR31.mono st142 (fun x => x) (fun x => x)
  replace hR67 := hR67.mono st142 (fun x => x) (fun x => x)
  replace hR68 := hR68.mono st142 (fun x => x) (fun x => x)
  replace tot := tot.trans st142.pure
  refine WP.mkSl (kd := (Kd.slice 5 (Kd.int .u8))) (t := 65) (e := 37) (bytes := 24) (t + 49) [.slice a78 s14.size c60] [(strBytes s14)] (by kernel_rfl) (by kernel_rfl) (Nat.le_of_ble_eq_true rfl) (Nat.le_of_ble_eq_true rfl) (all_cons rfl all_nil) (⟨_, _, rfl, (by exact ⟨_, _, _, rfl, hR78⟩), rfl⟩) rfl ?_
  intro g143 a79 st143 hR79
  replace hB1 := hB1.mono st143 (fun x => x)
  replace hR2 := hR2.mono st143 (fun x => x)
  replace hR3 := hR3.mono st143 (fun x => x)
  replace hR4 := hR4.mono st143 (fun x => x)
  replace hR5 := hR5.mono st143 (fun x => x)
  replace hB2 := hB2.mono st143 (fun x => x)
  replace hR6 := hR6.mono st143 (fun x => x) (fun x => x)
  replace hB3 := hB3.mono st143 (fun x => x)
  replace hR7 := hR7.mono st143 (fun x => x)
  replace hR30 := hR30.mono st143 (fun x => x) (fun x => x)
  replace hR31 := hR31.mono st143 (fun x => x) (fun x => x)
  replace hR67 := hR67.mono st143 (fun x => x) (fun x => x)
  replace hR68 := hR68.mono st143 (fun x => x) (fun x => x)
  replace hR78 := hR78.mono st143 (fun x => x)
  replace tot := tot.trans st143.pure
  by_cases hc70 : l30.length + ([(strBytes s14)]).length ≤ 5864062014805
  case neg => rw [if_neg hc70] at hs; cases hs
  replace hs := of_if_p hs hc70
  refine WP.append (kd := (Kd.slice 5 (Kd.int .u8))) (t := 65) (e := 37) (bytes := 24) (a2 := a79) (c2 := 1) hR67 hR79.src hR79.len (by kernel_rfl) (by kernel_rfl) (by omega) (by simp only [maxLen]; omega) (by omega) ?_
  intro g144 a80 c61 st144 hR80
  replace hB1 := hB1.mono st144 (WL.no1 (by omega))
  replace hR2 := hR2.mono st144 (WL.no1 (by omega))
  replace hR3 := hR3.mono st144 (WL.no1 (by omega))
  replace hR4 := hR4.mono st144 (WL.no1 (by omega))
  replace hR5 := hR5.mono st144 (WL.no1 (by omega))
  replace hB2 := hB2.mono st144 (WL.no1 (by omega))
  replace hR6 := hR6.mono st144 (WL.no1 (by omega)) (WL.no1 (by omega))
  replace hB3 := hB3.mono st144 (WL.no1 (by omega))
  replace hR7 := hR7.mono st144 (WL.no1 (by omega))
  replace hR30 := hR30.mono st144 (WL.no1 (by omega)) (WL.no1 (by omega))
  replace hR31 := hR31.mono st144 (WL.no1 (by omega)) (WL.no1 (by omega))
  replace hR68 := hR68.mono st144 (WL.no1 (by omega)) (WL.no1 (by omega))
  replace hR78 := hR78.mono st144 (WL.no1 (by omega))
  replace hR79 := hR79.mono st144 (WL.no1 (by omega)) (WL.no1 (by omega))
  replace tot := tot.trans (st144.up1 (.inr (by omega)))
  refine WP.stl 1 ?_
  refine WP.dn ?_
  refine NX.then_n ?_
  refine CP.region ?_
  refine WP.stl 2 ?_
  refine WP.mkSl (kd := Kd.str) (t := 66) (e := 9) (bytes := 16) (t + 50) [.string s14] [s14] (by kernel_rfl) (by kernel_rfl) (Nat.le_of_ble_eq_true rfl) (Nat.le_of_ble_eq_true rfl) (all_cons rfl all_nil) (⟨_, _, rfl, (by exact rfl), rfl⟩) rfl ?_
  intro g145 a81 st145 hR81
  replace hB1 := hB1.mono st145 (fun x => x)
  replace hR2 := hR2.mono st145 (fun x => x)
  replace hR3 := hR3.mono st145 (fun x => x)
  replace hR4 := hR4.mono st145 (fun x => x)
  replace hR5 := hR5.mono st145 (fun x => x)
  replace hB2 := hB2.mono st145 (fun x => x)
  replace hR6 := hR6.mono st145 (fun x => x) (fun x => x)
  replace hB3 := hB3.mono st145 (fun x => x)
  replace hR7 := hR7.mono st145 (fun x => x)
  replace hR30 := hR30.mono st145 (fun x => x) (fun x => x)
  replace hR31 := hR31.mono st145 (fun x => x) (fun x => x)
  replace hR80 := hR80.mono st145 (fun x => x) (fun x => x)
  replace hR68 := hR68.mono st145 (fun x => x) (fun x => x)
  replace tot := tot.trans st145.pure
  by_cases hc71 : l31.length + ([s14]).length ≤ 8796093022208
  case neg => rw [if_neg hc71] at hs; cases hs
  replace hs := of_if_p hs hc71
  refine WP.append (kd := Kd.str) (t := 66) (e := 9) (bytes := 16) (a2 := a81) (c2 := 1) hR68 hR81.src hR81.len (by kernel_rfl) (by kernel_rfl) (by omega) (by simp only [maxLen]; omega) (by omega) ?_
  intro g146 a82 c62 st146 hR82
  replace hB1 := hB1.mono st146 (WL.no1 (by omega))
  replace hR2 := hR2.mono st146 (WL.no1 (by omega))
  replace hR3 := hR3.mono st146 (WL.no1 (by omega))
  replace hR4 := hR4.mono st146 (WL.no1 (by omega))
  replace hR5 := hR5.mono st146 (WL.no1 (by omega))
  replace hB2 := hB2.mono st146 (WL.no1 (by omega))
  replace hR6 := hR6.mono st146 (WL.no1 (by omega)) (WL.no1 (by omega))
  replace hB3 := hB3.mono st146 (WL.no1 (by omega))
  replace hR7 := hR7.mono st146 (WL.no1 (by omega))
  replace hR30 := hR30.mono st146 (WL.no1 (by omega)) (WL.no1 (by omega))
  replace hR31 := hR31.mono st146 (WL.no1 (by omega)) (WL.no1 (by omega))
  replace hR80 := hR80.mono st146 (WL.no1 (by omega)) (WL.no1 (by omega))
  replace hR81 := hR81.mono st146 (WL.no1 (by omega)) (WL.no1 (by omega))
  replace tot := tot.trans (st146.up1 (.inr (by omega)))
  refine WP.stl 1 ?_
  refine WP.dn ?_
  refine NX.block_n ?_
  refine NX.then_n ?_
  refine CP.region ?_
  refine WP.stl 3 ?_
  refine WP.dn ?_
  refine NX.post ?_
  exact ⟨(l30 ++ [(strBytes s14)]), a80, (n30 + 1), c61, (l31 ++ [s14]), a82, (n31 + 1), c62, (IntKind.i64.wrap (x38 + 1)), ⟨by kernel_rfl, by kernel_rfl⟩, tot, hB1, hR2, hR3, hR4, hR5, hB2, hR6, hB3, hR7, hR30, hR31, hR80, hR82, hs⟩
 replace hs := of_if_f hs h68
 refine CP.exit ?_
 refine NX.then_e ?_
 refine NX.then_e ?_
 refine NX.block_s ?_
 refine NX.then_n ?_
 refine CP.seqR ?_
 refine WP.stl 1 ?_
 refine WP.loadB (v := .int .u8 x1) hB1 (by kernel_rfl) (by kernel_rfl) ?_
 refine WP.stl 1 ?_
 replace hs := Option.bind_eq_some_iff.1 hs
 obtain ⟨d11, hk67, hs⟩ := hs
 have hcal67 := P.baizelaw07_Digest g (IntKind.u64.wrap x1) d11 hk67
 refine WP.callC hcal67 (by kernel_rfl) ?_
 rintro _ g147 st147 rfl
 replace hB1 := hB1.mono st147 (fun x => x)
 replace hR2 := hR2.mono st147 (fun x => x)
 replace hR3 := hR3.mono st147 (fun x => x)
 replace hR4 := hR4.mono st147 (fun x => x)
 replace hR5 := hR5.mono st147 (fun x => x)
 replace hB2 := hB2.mono st147 (fun x => x)
 replace hR6 := hR6.mono st147 (fun x => x) (fun x => x)
 replace hB3 := hB3.mono st147 (fun x => x)
 replace hR7 := hR7.mono st147 (fun x => x)
 replace hR30 := hR30.mono st147 (fun x => x) (fun x => x)
 replace hR31 := hR31.mono st147 (fun x => x) (fun x => x)
 replace hR67 := hR67.mono st147 (fun x => x) (fun x => x)
 replace hR68 := hR68.mono st147 (fun x => x) (fun x => x)
 replace tot := tot.trans st147.pure
 refine WP.alloc (T := 32) (t + 51) [encA .u8 (zA 8)] [8] (by kernel_rfl) (by simp [len_encA]) ?_
 intro g148 b56 st148 hB16
 replace hB1 := hB1.mono st148 (fun x => x)
 replace hR2 := hR2.mono st148 (fun x => x)
 replace hR3 := hR3.mono st148 (fun x => x)
 replace hR4 := hR4.mono st148 (fun x => x)
 replace hR5 := hR5.mono st148 (fun x => x)
 replace hB2 := hB2.mono st148 (fun x => x)
 replace hR6 := hR6.mono st148 (fun x => x) (fun x => x)
 replace hB3 := hB3.mono st148 (fun x => x)
 replace hR7 := hR7.mono st148 (fun x => x)
 replace hR30 := hR30.mono st148 (fun x => x) (fun x => x)
 replace hR31 := hR31.mono st148 (fun x => x) (fun x => x)
 replace hR67 := hR67.mono st148 (fun x => x) (fun x => x)
 replace hR68 := hR68.mono st148 (fun x => x) (fun x => x)
 replace tot := tot.trans st148.pure
 refine WP.storeB (ty := 32) (off := 0) (v := AG [encA .u8 d11]) hB16 [encA .u8 d11] [8] (by kernel_rfl) (by kernel_rfl) (by simp [len_encA]) (by kernel_rfl) [encA .u8 d11] (by kernel_rfl) (.arr .nil) ?_
 intro g149 st149 hB17
 replace hB1 := hB1.mono st149 (WL.no1 (by omega))
 replace hR2 := hR2.mono st149 (WL.no1 (by omega))
 replace hR3 := hR3.mono st149 (WL.no1 (by omega))
 replace hR4 := hR4.mono st149 (WL.no1 (by omega))
 replace hR5 := hR5.mono st149 (WL.no1 (by omega))
 replace hB2 := hB2.mono st149 (WL.no1 (by omega))
 replace hR6 := hR6.mono st149 (WL.no1 (by omega)) (WL.no1 (by omega))
 replace hB3 := hB3.mono st149 (WL.no1 (by omega))
 replace hR7 := hR7.mono st149 (WL.no1 (by omega))
 replace hR30 := hR30.mono st149 (WL.no1 (by omega)) (WL.no1 (by omega))
 replace hR31 := hR31.mono st149 (WL.no1 (by omega)) (WL.no1 (by omega))
 replace hR67 := hR67.mono st149 (WL.no1 (by omega)) (WL.no1 (by omega))
 replace hR68 := hR68.mono st149 (WL.no1 (by omega)) (WL.no1 (by omega))
 replace tot := tot.trans (st149.up1 (.inr (by omega)))
 clear hB16
 have hB16 := hB17
 clear hB17
 refine WP.dn ?_
 refine NX.then_n ?_
 refine CP.seqR ?_
 refine WP.stl 3 ?_
 refine WP.loadB (v := AG [encA .u8 d11]) hB16 (by kernel_rfl) (by kernel_rfl) ?_
 refine WP.stl 2 ?_
 refine WP.loadB (v := .slice a5 n5 c5) hB1 (by kernel_rfl) (by kernel_rfl) ?_
 replace hs := Option.bind_eq_some_iff.1 hs
 obtain ⟨l36, hk68, hs⟩ := hs
 obtain ⟨g151, hw21, st151, hnew⟩ := hR6.freeze (by omega)
 refine WP.regw hw21 ?_
 replace hB1 := hB1.mono st151 (WL.no1 (by omega))
 replace hR2 := hR2.mono st151 (WL.no1 (by omega))
 replace hR3 := hR3.mono st151 (WL.no1 (by omega))
 replace hR4 := hR4.mono st151 (WL.no1 (by omega))
 replace hR5 := hR5.mono st151 (WL.no1 (by omega))
 replace hB2 := hB2.mono st151 (WL.no1 (by omega))
 replace hB3 := hB3.mono st151 (WL.no1 (by omega))
 replace hR7 := hR7.mono st151 (WL.no1 (by omega))
 replace hR30 := hR30.mono st151 (WL.no1 (by omega)) (WL.no1 (by omega))
 replace hR31 := hR31.mono st151 (WL.no1 (by omega)) (WL.no1 (by omega))
 replace hR67 := hR67.mono st151 (WL.no1 (by omega)) (WL.no1 (by omega))
 replace hR68 := hR68.mono st151 (WL.no1 (by omega)) (WL.no1 (by omega))
 replace hB16 := hB16.mono st151 (WL.no1 (by omega))
 replace tot := tot.trans (st151.up1 (.inr (by omega)))
 clear hR6
 have hR6 := hnew
 clear hnew
 obtain ⟨g152, hw22, st152, hnew⟩ := hR30.freeze (by omega)
 refine WP.regw hw22 ?_
 replace hB1 := hB1.mono st152 (WL.no1 (by omega))
 replace hR2 := hR2.mono st152 (WL.no1 (by omega))
 replace hR3 := hR3.mono st152 (WL.no1 (by omega))
 replace hR4 := hR4.mono st152 (WL.no1 (by omega))
 replace hR5 := hR5.mono st152 (WL.no1 (by omega))
 replace hB2 := hB2.mono st152 (WL.no1 (by omega))
 replace hR6 := hR6.mono st152 (WL.no1 (by omega))
 replace hB3 := hB3.mono st152 (WL.no1 (by omega))
 replace hR7 := hR7.mono st152 (WL.no1 (by omega))
 replace hR31 := hR31.mono st152 (WL.no1 (by omega)) (WL.no1 (by omega))
 replace hR67 := hR67.mono st152 (WL.no1 (by omega)) (WL.no1 (by omega))
 replace hR68 := hR68.mono st152 (WL.no1 (by omega)) (WL.no1 (by omega))
 replace hB16 := hB16.mono st152 (WL.no1 (by omega))
 replace tot := tot.trans (st152.up1 (.inr (by omega)))
 clear hR30
 have hR30 := hnew
 clear hnew
 obtain ⟨g153, hw23, st153, hnew⟩ := hR67.freeze (by omega)
 refine WP.regw hw23 ?_
 replace hB1 := hB1.mono st153 (WL.no1 (by omega))
 replace hR2 := hR2.mono st153 (WL.no1 (by omega))
 replace hR3 := hR3.mono st153 (WL.no1 (by omega))
 replace hR4 := hR4.mono st153 (WL.no1 (by omega))
 replace hR5 := hR5.mono st153 (WL.no1 (by omega))
 replace hB2 := hB2.mono st153 (WL.no1 (by omega))
 replace hR6 := hR6.mono st153 (WL.no1 (by omega))
 replace hB3 := hB3.mono st153 (WL.no1 (by omega))
 replace hR7 := hR7.mono st153 (WL.no1 (by omega))
 replace hR30 := hR30.mono st153 (WL.no1 (by omega))
 replace hR31 := hR31.mono st153 (WL.no1 (by omega)) (WL.no1 (by omega))
 replace hR68 := hR68.mono st153 (WL.no1 (by omega)) (WL.no1 (by omega))
 replace hB16 := hB16.mono st153 (WL.no1 (by omega))
 replace tot := tot.trans (st153.up1 (.inr (by omega)))
 clear hR67
 have hR67 := hnew
 clear hnew
 have hcal68 := P.notary_Missing g153 (t + 2) (t + 4) (t + 52) l6 d1 l16 d11 l30 l5 a6 n6 c6 a30 n16 c24 a67 n30 c51 a5 n5 c5 b2 b3 hR6 hR30 hR67 hR5 hB3 hB2 (by omega) (by omega) (by omega) l36 hk68
 refine WP.callC hcal68 (by kernel_rfl) ?_
 rintro _ g150 st150 ⟨a83, n36, c63, rfl, hR83⟩
 replace hB1 := hB1.mono st150 (fun x => x)
 replace hR2 := hR2.mono st150 (fun x => x)
 replace hR3 := hR3.mono st150 (fun x => x)
 replace hR4 := hR4.mono st150 (fun x => x)
 replace hR5 := hR5.mono st150 (fun x => x)
 replace hB2 := hB2.mono st150 (fun x => x)
 replace hR6 := hR6.mono st150 (fun x => x)
 replace hB3 := hB3.mono st150 (fun x => x)
 replace hR7 := hR7.mono st150 (fun x => x)
 replace hR30 := hR30.mono st150 (fun x => x)
 replace hR31 := hR31.mono st150 (fun x => x) (fun x => x)
 replace hR67 := hR67.mono st150 (fun x => x)
 replace hR68 := hR68.mono st150 (fun x => x) (fun x => x)
 replace hB16 := hB16.mono st150 (fun x => x)
 replace tot := tot.trans st150.pure
 refine WP.stl 1 ?_
 refine WP.dn ?_
 refine NX.then_n ?_
 refine CP.refr 170 [(3, .pointer (some ⟨b1, 0, none⟩)), (5, .pointer (some ⟨b2, 0, none⟩)), (6, .slice a7 n7 c7), (8, .slice a30 n16 c24), (9, .slice a31 n17 c25), (10, .slice a67 n30 c51), (11, .slice a68 n31 c52), (15, .pointer (some ⟨b56, 0, none⟩)), (16, .slice a83 n36 c63)] (by kernel_rfl) (by kernel_rfl) ?_
 clear ds
 intro ds
 refine CP.seqR ?_
 refine WP.stl 3 ?_
 refine WP.loadB (v := .int .u8 x1) hB1 (by kernel_rfl) (by kernel_rfl) ?_
 refine WP.stl 3 ?_
 refine WP.loadB (v := .slice a5 n5 c5) hB1 (by kernel_rfl) (by kernel_rfl) ?_
 replace hs := Option.bind_eq_some_iff.1 hs
 obtain ⟨l37, hk69, hs⟩ := hs
 obtain ⟨g155, hw24, st155, hnew⟩ := hR31.freeze (by omega)
 refine WP.regw hw24 ?_
 replace hB1 := hB1.mono st155 (WL.no1 (by omega))
 replace hR2 := hR2.mono st155 (WL.no1 (by omega))
 replace hR3 := hR3.mono st155 (WL.no1 (by omega))
 replace hR4 := hR4.mono st155 (WL.no1 (by omega))
 replace hR5 := hR5.mono st155 (WL.no1 (by omega))
 replace hB2 := hB2.mono st155 (WL.no1 (by omega))
 replace hR6 := hR6.mono st155 (WL.no1 (by omega))
 replace hB3 := hB3.mono st155 (WL.no1 (by omega))
 replace hR7 := hR7.mono st155 (WL.no1 (by omega))
 replace hR30 := hR30.mono st155 (WL.no1 (by omega))
 replace hR67 := hR67.mono st155 (WL.no1 (by omega))
 replace hR68 := hR68.mono st155 (WL.no1 (by omega)) (WL.no1 (by omega))
 replace hB16 := hB16.mono st155 (WL.no1 (by omega))
 replace hR83 := hR83.mono st155 (WL.no1 (by omega)) (WL.no1 (by omega))
 replace tot := tot.trans (st155.up1 (.inr (by omega)))
 clear hR31
 have hR31 := hnew
 clear hnew
 obtain ⟨g156, hw25, st156, hnew⟩ := hR68.freeze (by omega)
 refine WP.regw hw25 ?_
 replace hB1 := hB1.mono st156 (WL.no1 (by omega))
 replace hR2 := hR2.mono st156 (WL.no1 (by omega))
 replace hR3 := hR3.mono st156 (WL.no1 (by omega))
 replace hR4 := hR4.mono st156 (WL.no1 (by omega))
 replace hR5 := hR5.mono st156 (WL.no1 (by omega))
 replace hB2 := hB2.mono st156 (WL.no1 (by omega))
 replace hR6 := hR6.mono st156 (WL.no1 (by omega))
 replace hB3 := hB3.mono st156 (WL.no1 (by omega))
 replace hR7 := hR7.mono st156 (WL.no1 (by omega))
 replace hR30 := hR30.mono st156 (WL.no1 (by omega))
 replace hR31 := hR31.mono st156 (WL.no1 (by omega))
 replace hR67 := hR67.mono st156 (WL.no1 (by omega))
 replace hB16 := hB16.mono st156 (WL.no1 (by omega))
 replace hR83 := hR83.mono st156 (WL.no1 (by omega)) (WL.no1 (by omega))
 replace tot := tot.trans (st156.up1 (.inr (by omega)))
 clear hR68
 have hR68 := hnew
 clear hnew
 have hcal69 := P.baizeref07_Missing g156 (t + 53) l7 l17 (IntKind.u64.wrap x1) l31 l5 a7 n7 c7 a31 n17 c25 a68 n31 c52 a5 n5 c5 hR7 hR31 hR68 hR5 l37 hk69
 refine WP.callC hcal69 (by kernel_rfl) ?_
 rintro _ g154 st154 ⟨a84, n37, c64, rfl, hR84⟩
 replace hB1 := hB1.mono st154 (fun x => x)
 replace hR2 := hR2.mono st154 (fun x => x)
 replace hR3 := hR3.mono st154 (fun x => x)
 replace hR4 := hR4.mono st154 (fun x => x)
 replace hR5 := hR5.mono st154 (fun x => x)
 replace hB2 := hB2.mono st154 (fun x => x)
 replace hR6 := hR6.mono st154 (fun x => x)
 replace hB3 := hB3.mono st154 (fun x => x)
 replace hR7 := hR7.mono st154 (fun x => x)
 replace hR30 := hR30.mono st154 (fun x => x)
 replace hR31 := hR31.mono st154 (fun x => x)
 replace hR67 := hR67.mono st154 (fun x => x)
 replace hR68 := hR68.mono st154 (fun x => x)
 replace hB16 := hB16.mono st154 (fun x => x)
 replace hR83 := hR83.mono st154 (fun x => x) (fun x => x)
 replace tot := tot.trans st154.pure
 refine WP.stl 1 ?_
 refine WP.dn ?_
 refine NX.then_n ?_
 refine CP.seq ?_
 refine CP.seqR ?_
 refine WP.stl 1 ?_
 refine WP.len (a := a83) (cp := c63) hR83.len (by kernel_rfl) ?_
 refine WP.stl 1 ?_
 refine WP.len (a := a84) (cp := c64) hR84.len (by kernel_rfl) ?_
 refine WP.stl 1 ?_
 refine WP.dn ?_
 refine NX.then_n ?_
 refine CP.refr 170 [(3, .pointer (some ⟨b1, 0, none⟩)), (5, .pointer (some ⟨b2, 0, none⟩)), (6, .slice a7 n7 c7), (8, .slice a30 n16 c24), (9, .slice a31 n17 c25), (10, .slice a67 n30 c51), (11, .slice a68 n31 c52), (15, .pointer (some ⟨b56, 0, none⟩)), (16, .slice a83 n36 c63), (17, .slice a84 n37 c64), (132, .bool ((l36.length : Int) != (l37.length : Int)))] (by kernel_rfl) (by kernel_rfl) ?_
 clear ds
 intro ds
 refine CP.cond (b := ((l36.length : Int) != (l37.length : Int))) (by kernel_rfl) (fun h74 => ?_) (fun h74 => ?_)
 ·replace hs := of_if_t hs h74
  refine CP.seqR ?_
  refine WP.stl 1 ?_
  refine WP.dn ?_
  refine NX.then_n ?_
  refine CP.ret ?_
  refine NX.then_r ?_
  replace hs := Option.some.inj hs
  obtain rfl := hs
  exact NX.fin (v := .bool false) (Res.still (by kernel_rfl)) tot htL rfl
 replace hs := of_if_f hs h74
 refine CP.skip ?_
 refine NX.then_n ?_
 refine CP.seq ?_
 refine CP.seqR ?_
 refine WP.stl 1 ?_
 refine WP.dn ?_
 refine NX.then_n ?_
 refine CP.block ?_
 generalize fuel = k3 at hs
 refine CP.loop (fun k3 tm g => ∃ (x48 : Int), Fr 170 [(3, .pointer (some ⟨b1, 0, none⟩)), (5, .pointer (some ⟨b2, 0, none⟩)), (6, .slice a7 n7 c7), (8, .slice a30 n16 c24), (9, .slice a31 n17 c25), (10, .slice a67 n30 c51), (11, .slice a68 n31 c52), (15, .pointer (some ⟨b56, 0, none⟩)), (16, .slice a83 n36 c63), (17, .slice a84 n37 c64), (18, .int .i64 x48)] tm ∧ Step (fun l => NoM l ∨ t ≤ l) g0 g ∧ Box g (t + 1) b1 64 [[.slice a2 n2 c2], [.int .u8 x1], [.slice a3 n3 c3], [.slice a4 n4 c4], [.slice a5 n5 c5]] [1, 1, 1, 1, 1] ∧ RdS (Kd.int .u8) g 5 a2 n2 c2 l2 ∧ RdS (Kd.int .u8) g 5 a3 n3 c3 l3 ∧ RdS Kd.bool g 4 a4 n4 c4 l4 ∧ RdS Kd.bool g 4 a5 n5 c5 l5 ∧ Box g (t + 2) b2 84 [[.slice a6 n6 c6], [.map (some b3)]] [1, 1] ∧ RdS k_S_notary_entry g 86 a6 n6 c6 l6 ∧ MapB g (t + 4) b3 kv_S_notary_entry (Value.int .i64) d1 ∧ RdS k_S_baizeref07_Entry g 53 a7 n7 c7 l7 ∧ RdS (Kd.arrI 8 .u8) g 32 a30 n16 c24 l16 ∧ RdS (Kd.int .u64) g 34 a31 n17 c25 l17 ∧ RdS (Kd.slice 5 (Kd.int .u8)) g 37 a67 n30 c51 l30 ∧ RdS Kd.str g 9 a68 n31 c52 l31 ∧ Box g (t + 51) b56 32 [encA .u8 d11] [8] ∧ OwnS (Kd.int .i64) g (t + 52) 3 a83 n36 c63 l36 ∧ OwnS (Kd.int .i64) g (t + 53) 3 a84 n37 c64 l37 ∧ F.baizelaw07_NotaryParties.l3 x1 l5 l6 d1 l7 l16 l17 l30 l31 d11 l36 l37 k3 x48 = some o1) k3 ?_ ?_ ?_
 ·exact ⟨0, ⟨by kernel_rfl, by kernel_rfl⟩, tot, hB1, hR2, hR3, hR4, hR5, hB2, hR6, hB3, hR7, hR30, hR31, hR67, hR68, hB16, hR83, hR84, hs⟩
 ·rintro tm g ⟨x48, hF, tot, hB1, hR2, hR3, hR4, hR5, hB2, hR6, hB3, hR7, hR30, hR31, hR67, hR68, hB16, hR83, hR84, hs⟩
  exact absurd hs (by simp [F.baizelaw07_NotaryParties.l3])
 clear tot hs hB1 hR2 hR3 hR4 hR5 hB2 hR6 hB3 hR7 hR30 hR31 hR67 hR68 hB16 hR83 hR84
 rintro k3 tm g ⟨x48, hF, tot, hB1, hR2, hR3, hR4, hR5, hB2, hR6, hB3, hR7, hR30, hR31, hR67, hR68, hB16, hR83, hR84, hs⟩
 clear ds
 obtain ⟨ds, rfl⟩ := hF.open
 clear hF
 unfold F.baizelaw07_NotaryParties.l3 at hs
 refine CP.seq ?_
 refine CP.seqR ?_
 refine WP.stl 2 ?_
 refine WP.len (a := a84) (cp := c64) hR84.len (by kernel_rfl) ?_
 refine WP.stl 1 ?_
 refine WP.dn ?_
 refine NX.then_n ?_
 refine CP.cond (b := decide (x48 < (l37.length : Int))) (by kernel_rfl) (fun h81 => ?_) (fun h81 => ?_)
 ·replace hs := of_if_t hs h81
  refine CP.skip ?_
  refine NX.then_n ?_
  refine CP.seq ?_
  refine CP.block ?_
  refine CP.seq ?_
  by_cases hc79 : (0 : Int) ≤ x48 ∧ x48 < (l36.length : Int)
  case neg => rw [if_neg hc79] at hs; cases hs
  replace hs := of_if_p hs hc79
  by_cases hc80 : (0 : Int) ≤ x48 ∧ x48 < (l37.length : Int)
  case neg => rw [if_neg hc80] at hs; cases hs
  replace hs := of_if_p hs hc80
  obtain ⟨b61, u51, ha51⟩ := hR83.at hc79
  obtain ⟨b62, u52, ha52⟩ := hR84.at hc80
  refine CP.drawL (by kernel_rfl) [2, 3, 6, 7] N.baizelaw07_NotaryParties_0 [⟨none, [], [], fun l g => OwnS (Kd.int .i64) g (t + 52) 3 a83 n36 c63 l36⟩, ⟨none, [], [], fun l g => OwnS (Kd.int .i64) g (t + 53) 3 a84 n37 c64 l37⟩, ⟨some 0, [], [0], fun l g => l.getD 0 undef = .pointer (some ⟨b61, u51 + x48.toNat * 1, none⟩)⟩, ⟨some 1, [], [1], fun l g => l.getD 0 undef = .int .i64 (getI l36 x48)⟩, ⟨some 2, [], [2], fun l g => l.getD 0 undef = .pointer (some ⟨b62, u52 + x48.toNat * 1, none⟩)⟩, ⟨some 3, [], [3], fun l g => l.getD 0 undef = .int .i64 (getI l37 x48)⟩] [[], [], [], []] [] [0, 1, 4, 5] [8] (by kernel_rfl) (by simp) (by simp) ⟨fun _ _ _ _ st h0 hl hj hR83 => (hR83.mono st h0 (fun h => absurd (hl _ h) (by simp))), fun _ _ _ _ st h0 hl hj hR84 => (hR84.mono st h0 (fun h => absurd (hl _ h) (by simp))), fun _ _ _ _ st h0 hl hj e0 => e0, fun _ _ _ _ st h0 hl hj e1 => e1, fun _ _ _ _ st h0 hl hj e2 => e2, fun _ _ _ _ st h0 hl hj e3 => e3, tv⟩ ⟨hR83, hR84, tv, tv, tv, tv, tv⟩ (by kernel_rfl) (fun vs => by kernel_rfl) ?_ ?_ ?_
  ·intro j hj
   have hq : j = 0 := by have h : j < 1 := hj; omega
   rcases hq with rfl
   ·intro vs gq stq hl hf
    obtain ⟨v0, v1, v2, v3, rfl⟩ := len_k4 hl
    have e1 := (show v1 = .int .i64 (getI l36 x48) from hf _ (memI 3 rfl) (by kernel_rfl))
    subst e1
    have e3 := (show v3 = .int .i64 (getI l37 x48) from hf _ (memI 5 rfl) (by kernel_rfl))
    subst e3
    show Option.isSome _ = true
    kernel_rfl
  ·intro j hj
   have hq : j = 0 ∨ j = 1 ∨ j = 2 ∨ j = 3 := by have h : j < 4 := hj; omega
   rcases hq with rfl | rfl | rfl | rfl
   ·intro vs gq stq hl hf
    obtain ⟨v0, v1, v2, v3, rfl⟩ := len_k4 hl
    have hR83 := (show OwnS (Kd.int .i64) gq (t + 52) 3 a83 n36 c63 l36 from hf _ (memI 0 rfl) (by kernel_rfl))
    refine WP.indexA (t := 67) (e := 3) (sz := 1) (cap := c63) (k := .i64) (i := x48) hR83.len ha51 (by kernel_rfl) (by kernel_rfl) hc79 ?_
    refine WP.dn (Shown.ok (v := .pointer (some ⟨b61, u51 + x48.toNat * 1, none⟩)) (by kernel_rfl) (Step.refl _ _) ?_)
    exact ⟨tv, tv, rfl, tv, tv, tv, tv⟩
   ·intro vs gq stq hl hf
    obtain ⟨v0, v1, v2, v3, rfl⟩ := len_k4 hl
    have hR83 := (show OwnS (Kd.int .i64) gq (t + 52) 3 a83 n36 c63 l36 from hf _ (memI 0 rfl) (by kernel_rfl))
    have e0 := (show v0 = .pointer (some ⟨b61, u51 + x48.toNat * 1, none⟩) from hf _ (memI 2 rfl) (by kernel_rfl))
    subst e0
    obtain ⟨cs51, hcR51, hcV51⟩ := hR83.src.view (getI_some hc79) ha51
    replace hcR51 := Kd.o_int hcR51
    refine WP.loadV [[.int .i64 (getI l36 x48)]] [1] hcV51 hcR51 rfl (f := 0) (ty := 3) (agg := false) (size := 1) (rs := [[.int .i64 (getI l36 x48)]]) (v := .int .i64 (getI l36 x48)) (by kernel_rfl) (by kernel_rfl) (by kernel_rfl) (by kernel_rfl) ?_
    refine WP.dn (Shown.ok (v := .int .i64 (getI l36 x48)) (by kernel_rfl) (Step.refl _ _) ?_)
    exact ⟨tv, tv, tv, rfl, tv, tv, tv⟩
   ·intro vs gq stq hl hf
    obtain ⟨v0, v1, v2, v3, rfl⟩ := len_k4 hl
    have hR84 := (show OwnS (Kd.int .i64) gq (t + 53) 3 a84 n37 c64 l37 from hf _ (memI 1 rfl) (by kernel_rfl))
    refine WP.indexA (t := 67) (e := 3) (sz := 1) (cap := c64) (k := .i64) (i := x48) hR84.len ha52 (by kernel_rfl) (by kernel_rfl) hc80 ?_
    refine WP.dn (Shown.ok (v := .pointer (some ⟨b62, u52 + x48.toNat * 1, none⟩)) (by kernel_rfl) (Step.refl _ _) ?_)
    exact ⟨tv, tv, tv, tv, rfl, tv, tv⟩
   ·intro vs gq stq hl hf
    obtain ⟨v0, v1, v2, v3, rfl⟩ := len_k4 hl
    have hR84 := (show OwnS (Kd.int .i64) gq (t + 53) 3 a84 n37 c64 l37 from hf _ (memI 1 rfl) (by kernel_rfl))
    have e2 := (show v2 = .pointer (some ⟨b62, u52 + x48.toNat * 1, none⟩) from hf _ (memI 4 rfl) (by kernel_rfl))
    subst e2
    obtain ⟨cs52, hcR52, hcV52⟩ := hR84.src.view (getI_some hc80) ha52
    replace hcR52 := Kd.o_int hcR52
    refine WP.loadV [[.int .i64 (getI l37 x48)]] [1] hcV52 hcR52 rfl (f := 0) (ty := 3) (agg := false) (size := 1) (rs := [[.int .i64 (getI l37 x48)]]) (v := .int .i64 (getI l37 x48)) (by kernel_rfl) (by kernel_rfl) (by kernel_rfl) (by kernel_rfl) ?_
    refine WP.dn (Shown.ok (v := .int .i64 (getI l37 x48)) (by kernel_rfl) (Step.refl _ _) ?_)
    exact ⟨tv, tv, tv, tv, tv, rfl, tv⟩
  intro vs g163 st163 hl hf
  obtain ⟨v0, v1, v2, v3, rfl⟩ := len_k4 hl
  have e1 := (show v1 = .int .i64 (getI l36 x48) from hf _ (memI 3 rfl) (by kernel_rfl))
  subst e1
  have e3 := (show v3 = .int .i64 (getI l37 x48) from hf _ (memI 5 rfl) (by kernel_rfl))
  subst e3
  replace hB1 := hB1.mono st163.toNo (fun x => x)
  replace hR2 := hR2.mono st163.toNo (fun x => x)
  replace hR3 := hR3.mono st163.toNo (fun x => x)
  replace hR4 := hR4.mono st163.toNo (fun x => x)
  replace hR5 := hR5.mono st163.toNo (fun x => x)
  replace hB2 := hB2.mono st163.toNo (fun x => x)
  replace hR6 := hR6.mono st163.toNo (fun x => x)
  replace hB3 := hB3.mono st163.toNo (fun x => x)
  replace hR7 := hR7.mono st163.toNo (fun x => x)
  replace hR30 := hR30.mono st163.toNo (fun x => x)
  replace hR31 := hR31.mono st163.toNo (fun x => x)
  replace hR67 := hR67.mono st163.toNo (fun x => x)
  replace hR68 := hR68.mono st163.toNo (fun x => x)
  replace hB16 := hB16.mono st163.toNo (fun x => x)
  replace hR83 := hR83.mono st163.toNo (fun x => x) (fun x => x)
  replace hR84 := hR84.mono st163.toNo (fun x => x) (fun x => x)
  replace tot := tot.trans st163.toNo.pure
  refine NX.then_n ?_
  refine CP.refr 170 [(3, .pointer (some ⟨b1, 0, none⟩)), (5, .pointer (some ⟨b2, 0, none⟩)), (6, .slice a7 n7 c7), (8, .slice a30 n16 c24), (9, .slice a31 n17 c25), (10, .slice a67 n30 c51), (11, .slice a68 n31 c52), (15, .pointer (some ⟨b56, 0, none⟩)), (16, .slice a83 n36 c63), (17, .slice a84 n37 c64), (18, .int .i64 x48), (147, .bool ((getI l36 x48) != (getI l37 x48)))] (by kernel_rfl) (by kernel_rfl) ?_
  clear ds
  intro ds
  refine CP.cond (b := ((getI l36 x48) != (getI l37 x48))) (by kernel_rfl) (fun h82 => ?_) (fun h82 => ?_)
  ·replace hs := of_if_t hs h82
   refine CP.seqR ?_
   refine WP.stl 1 ?_
   refine WP.dn ?_
   refine NX.then_n ?_
   refine CP.ret ?_
   refine NX.block_r ?_
   refine NX.then_r ?_
   refine NX.then_r ?_
   refine NX.block_r ?_
   refine NX.then_r ?_
   replace hs := Option.some.inj hs
   obtain rfl := hs
   exact NX.fin (v := .bool false) (Res.still (by kernel_rfl)) tot htL rfl
  replace hs := of_if_f hs h82
  refine CP.skip ?_
  refine NX.block_n ?_
  refine NX.then_n ?_
  refine CP.region ?_
  refine WP.stl 3 ?_
  refine WP.dn ?_
  refine NX.post ?_
  exact ⟨(IntKind.i64.wrap (x48 + 1)), ⟨by kernel_rfl, by kernel_rfl⟩, tot, hB1, hR2, hR3, hR4, hR5, hB2, hR6, hB3, hR7, hR30, hR31, hR67, hR68, hB16, hR83, hR84, hs⟩
 replace hs := of_if_f hs h81
 refine CP.exit ?_
 refine NX.then_e ?_
 refine NX.then_e ?_
 refine NX.block_s ?_
 refine NX.then_n ?_
 refine CP.seqR ?_
 refine WP.stl 3 ?_
 refine WP.loadB (v := AG [encA .u8 d11]) hB16 (by kernel_rfl) (by kernel_rfl) ?_
 refine WP.stl 2 ?_
 refine WP.loadB (v := .slice a5 n5 c5) hB1 (by kernel_rfl) (by kernel_rfl) ?_
 replace hs := Option.bind_eq_some_iff.1 hs
 obtain ⟨x52, hk76, hs⟩ := hs
 have hcal76 := P.notary_All g (t + 2) (t + 4) l6 d1 l16 d11 l30 l5 a6 n6 c6 a30 n16 c24 a67 n30 c51 a5 n5 c5 b2 b3 hR6 hR30 hR67 hR5 hB3 hB2 (by omega) (by omega) (by omega) x52 hk76
 refine WP.callC hcal76 (by kernel_rfl) ?_
 rintro _ g164 st164 rfl
 replace hB1 := hB1.mono st164 (fun x => x)
 replace hR2 := hR2.mono st164 (fun x => x)
 replace hR3 := hR3.mono st164 (fun x => x)
 replace hR4 := hR4.mono st164 (fun x => x)
 replace hR5 := hR5.mono st164 (fun x => x)
 replace hB2 := hB2.mono st164 (fun x => x)
 replace hR6 := hR6.mono st164 (fun x => x)
 replace hB3 := hB3.mono st164 (fun x => x)
 replace hR7 := hR7.mono st164 (fun x => x)
 replace hR30 := hR30.mono st164 (fun x => x)
 replace hR31 := hR31.mono st164 (fun x => x)
 replace hR67 := hR67.mono st164 (fun x => x)
 replace hR68 := hR68.mono st164 (fun x => x)
 replace hB16 := hB16.mono st164 (fun x => x)
 replace tot := tot.trans st164.pure
 refine WP.stl 1 ?_
 refine WP.dn ?_
 refine NX.then_n ?_
 refine CP.refr 170 [(3, .pointer (some ⟨b1, 0, none⟩)), (6, .slice a7 n7 c7), (9, .slice a31 n17 c25), (11, .slice a68 n31 c52), (19, .int .i64 x52)] (by kernel_rfl) (by kernel_rfl) ?_
 clear ds
 intro ds
 refine CP.cut (fun tm g => ∃ (q41 : Bool), Fr 170 [(4, .bool q41)] tm ∧ Step (fun l => NoM l ∨ t ≤ l) g0 g ∧ (F.baizelaw07_NotaryParties.c4 q41) = some o1) ?_ ?_
 ·refine CP.region ?_
  refine WP.stl 4 ?_
  refine WP.loadB (v := .int .u8 x1) hB1 (by kernel_rfl) (by kernel_rfl) ?_
  refine WP.stl 3 ?_
  refine WP.loadB (v := .slice a5 n5 c5) hB1 (by kernel_rfl) (by kernel_rfl) ?_
  replace hs := Option.bind_eq_some_iff.1 hs
  obtain ⟨x54, hk79, hs⟩ := hs
  have hcal79 := P.baizeref07_All g164 l7 l17 (IntKind.u64.wrap x1) l31 l5 a7 n7 c7 a31 n17 c25 a68 n31 c52 a5 n5 c5 hR7 hR31 hR68 hR5 x54 hk79
  refine WP.callC hcal79 (by kernel_rfl) ?_
  rintro _ g167 st167 rfl
  replace hB1 := hB1.mono st167 (fun x => x)
  replace hR2 := hR2.mono st167 (fun x => x)
  replace hR3 := hR3.mono st167 (fun x => x)
  replace hR4 := hR4.mono st167 (fun x => x)
  replace hR5 := hR5.mono st167 (fun x => x)
  replace hR7 := hR7.mono st167 (fun x => x)
  replace hR31 := hR31.mono st167 (fun x => x)
  replace hR68 := hR68.mono st167 (fun x => x)
  replace tot := tot.trans st167.pure
  refine WP.stl 2 ?_
  refine WP.guard 167 (b := (x52 == x54)) (by kernel_rfl) (fun h84 => ?_) (fun h84 => ?_)
  ·replace hs := of_if_t hs h84
   replace hs := Option.bind_eq_some_iff.1 hs
   obtain ⟨q42, hk80, hs⟩ := hs
   have hcal80 := P.baizelaw07_told g167 q42 hk80
   refine WP.callC hcal80 (by kernel_rfl) ?_
   rintro _ g168 st168 rfl
   replace hB1 := hB1.mono st168 (fun x => x)
   replace hR2 := hR2.mono st168 (fun x => x)
   replace hR3 := hR3.mono st168 (fun x => x)
   replace hR4 := hR4.mono st168 (fun x => x)
   replace hR5 := hR5.mono st168 (fun x => x)
   replace hR7 := hR7.mono st168 (fun x => x)
   replace hR31 := hR31.mono st168 (fun x => x)
   replace hR68 := hR68.mono st168 (fun x => x)
   replace tot := tot.trans st168.pure
   refine WP.stl 2 ?_
   refine WP.dn ?_
   refine NX.post ?_
   exact ⟨q42, ⟨by kernel_rfl, by kernel_rfl⟩, tot, hs⟩
  replace hs := of_if_f hs h84
  refine WP.stl 3 ?_
  refine WP.dn ?_
  refine NX.post ?_
  exact ⟨false, ⟨by kernel_rfl, by kernel_rfl⟩, tot, hs⟩
 clear tot hs hB1 hR2 hR3 hR4 hR5 hR7 hR31 hR68
 rintro tm g ⟨q41, hF, tot, hs⟩
 clear ds
 obtain ⟨ds, rfl⟩ := hF.open
 clear hF
 unfold F.baizelaw07_NotaryParties.c4 at hs
 refine CP.ret ?_
 replace hs := Option.some.inj hs
 obtain rfl := hs
 exact NX.fin (v := .bool q41) (Res.still (by kernel_rfl)) tot htL rfl
end Go.Proofs.Ytmdkjjdfbjgaoaa
