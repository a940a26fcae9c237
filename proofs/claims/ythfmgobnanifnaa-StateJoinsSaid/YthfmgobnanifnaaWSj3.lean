/-
  Walks, written by program: each Go function computes the plain function of its name, in whatever world its arguments' facts hold.
-/
import Derived.Test.YthfmgobnanifnaaWSj2
namespace Go.Proofs.Ythfmgobnanifnaa
open Go.RowKit Go.Lab
attribute [local irreducible] WP CP NX wpList Code.wp Calls
set_option maxRecDepth 100000
set_option maxHeartbeats 4000000
set_option linter.unusedVariables false

def F.slices_EqualFunc_byte_byte_byte_byte.l1 (l1 : List (List Int)) (l2 : List (List Int)) : Nat → Int → Option (Bool)
 | 0, _ => none
 | k + 1, x1 => (if decide (x1 < (l1.length : Int)) = true then (if (0 : Int) ≤ x1 ∧ x1 < (l1.length : Int) then (if (0 : Int) ≤ x1 ∧ x1 < (l2.length : Int) then ((F.slices_Equal_byte_byte (getI l1 x1) (getI l2 x1)).bind fun q3 => (if (!q3) = true then (some false) else (F.slices_EqualFunc_byte_byte_byte_byte.l1 l1 l2 k (IntKind.i64.wrap (x1 + 1))))) else none) else none) else (some true))
def F.slices_EqualFunc_byte_byte_byte_byte (l1 : List (List Int)) (l2 : List (List Int)) : Option (Bool) := (if ((l1.length : Int) != (l2.length : Int)) = true then (some false) else (F.slices_EqualFunc_byte_byte_byte_byte.l1 l1 l2 fuel 0))
theorem P.slices_EqualFunc_byte_byte_byte_byte (g0 : GW) (l1 : List (List Int)) (l2 : List (List Int)) (a1 : Option Addr) (n1 : Nat) (c1 : Nat) (a2 : Option Addr) (n2 : Nat) (c2 : Nat) (hR1 : RdS (Kd.slice 5 (Kd.int .u8)) g0 24 a1 n1 c1 l1) (hR2 : RdS (Kd.slice 5 (Kd.int .u8)) g0 24 a2 n2 c2 l2) (o1 : Bool) (hs : F.slices_EqualFunc_byte_byte_byte_byte l1 l2 = some o1) :
  Calls Try.prog 47 #[.slice a1 n1 c1, .slice a2 n2 c2, .func (.func 48) #[] #[]] g0.w (Ret NoM g0 fun v g => v = .bool o1) := by
 refine calls_of (args := [.slice a1 n1 c1, .slice a2 n2 c2, .func (.func 48) #[] #[]]) Try.func47 rfl (0) ?_
 intro t ht htL
 refine ⟨_, rfl, ?_⟩
 refine CP.refr 32 [(0, .slice a1 n1 c1), (1, .slice a2 n2 c2), (2, .func (.func 48) #[] #[])] (by kernel_rfl) (by kernel_rfl) ?_
 intro ds
 have tot : Step (fun l => NoM l ∨ t ≤ l) g0 g0 := Step.refl _ _
 unfold F.slices_EqualFunc_byte_byte_byte_byte at hs
 refine CP.seqR ?_
 refine WP.stl 1 ?_
 refine WP.dn ?_
 refine NX.then_n ?_
 refine CP.seq ?_
 refine CP.seqR ?_
 refine WP.stl 1 ?_
 refine WP.len (a := a1) (cp := c1) hR1.len (by kernel_rfl) ?_
 refine WP.stl 1 ?_
 refine WP.len (a := a2) (cp := c2) hR2.len (by kernel_rfl) ?_
 refine WP.stl 1 ?_
 refine WP.dn ?_
 refine NX.then_n ?_
 refine CP.cond (b := ((l1.length : Int) != (l2.length : Int))) (by kernel_rfl) (fun h1 => ?_) (fun h1 => ?_)
 ·replace hs := of_if_t hs h1
  refine CP.seqR ?_
  refine WP.stl 1 ?_
  refine WP.dn ?_
  refine NX.then_n ?_
  refine CP.ret ?_
  refine NX.then_r ?_
  replace hs := Option.some.inj hs
  obtain rfl := hs
  exact NX.fin (v := .bool false) (Res.still (by kernel_rfl)) tot htL rfl
 replace hs := of_if_f hs h1
 refine CP.skip ?_
 refine NX.then_n ?_
 refine CP.seq ?_
 refine CP.seqR ?_
 refine WP.stl 1 ?_
 refine WP.len (a := a1) (cp := c1) hR1.len (by kernel_rfl) ?_
 refine WP.stl 1 ?_
 refine WP.dn ?_
 refine NX.then_n ?_
 refine CP.block ?_
 generalize fuel = k1 at hs
 refine CP.loop (fun k1 tm g => ∃ (x1 : Int), Fr 32 [(1, .slice a2 n2 c2), (2, .func (.func 48) #[] #[]), (15, .slice a1 n1 c1), (16, .int .i64 (l1.length : Int)), (17, .int .i64 x1)] tm ∧ Step (fun l => NoM l ∨ t ≤ l) g0 g ∧ RdS (Kd.slice 5 (Kd.int .u8)) g 24 a2 n2 c2 l2 ∧ RdS (Kd.slice 5 (Kd.int .u8)) g 24 a1 n1 c1 l1 ∧ F.slices_EqualFunc_byte_byte_byte_byte.l1 l1 l2 k1 x1 = some o1) k1 ?_ ?_ ?_
 ·exact ⟨0, ⟨by kernel_rfl, by kernel_rfl⟩, tot, hR2, hR1, hs⟩
 ·rintro tm g ⟨x1, hF, tot, hR2, hR1, hs⟩
  exact absurd hs (by simp [F.slices_EqualFunc_byte_byte_byte_byte.l1])
 clear tot hs hR2 hR1
 rintro k1 tm g ⟨x1, hF, tot, hR2, hR1, hs⟩
 clear ds
 obtain ⟨ds, rfl⟩ := hF.open
 clear hF
 unfold F.slices_EqualFunc_byte_byte_byte_byte.l1 at hs
 refine CP.seqR ?_
 refine WP.stl 1 ?_
 refine WP.dn ?_
 refine NX.then_n ?_
 refine CP.seq ?_
 refine CP.cond (b := decide (x1 < (l1.length : Int))) (by kernel_rfl) (fun h6 => ?_) (fun h6 => ?_)
 ·replace hs := of_if_t hs h6
  refine CP.skip ?_
  refine NX.then_n ?_
  refine CP.seq ?_
  refine CP.block ?_
  refine CP.seqR ?_
  refine WP.stl 1 ?_
  by_cases hc5 : (0 : Int) ≤ x1 ∧ x1 < (l1.length : Int)
  case neg => rw [if_neg hc5] at hs; cases hs
  replace hs := of_if_p hs hc5
  obtain ⟨b5, u5, ha5⟩ := hR1.at hc5
  refine WP.indexA (t := 42) (e := 24) (sz := 1) (cap := c1) (k := .i64) (i := x1) hR1.len ha5 (by kernel_rfl) (by kernel_rfl) hc5 ?_
  obtain ⟨cs5, hcR5, hcV5⟩ := hR1.src.view (getI_some hc5) ha5
  obtain ⟨a7, n7, c7, hcR5, hR7⟩ := Kd.o_sl hcR5
  refine WP.loadV [[.slice a7 n7 c7]] [1] hcV5 hcR5 rfl (f := 0) (ty := 24) (agg := false) (size := 1) (rs := [[.slice a7 n7 c7]]) (v := .slice a7 n7 c7) (by kernel_rfl) (by kernel_rfl) (by kernel_rfl) (by kernel_rfl) ?_
  refine WP.stl 2 ?_
  refine WP.dn ?_
  refine NX.then_n ?_
  refine CP.seqR ?_
  refine WP.stl 2 ?_
  by_cases hc6 : (0 : Int) ≤ x1 ∧ x1 < (l2.length : Int)
  case neg => rw [if_neg hc6] at hs; cases hs
  replace hs := of_if_p hs hc6
  obtain ⟨b6, u6, ha6⟩ := hR2.at hc6
  refine WP.indexA (t := 42) (e := 24) (sz := 1) (cap := c2) (k := .i64) (i := x1) hR2.len ha6 (by kernel_rfl) (by kernel_rfl) hc6 ?_
  obtain ⟨cs6, hcR6, hcV6⟩ := hR2.src.view (getI_some hc6) ha6
  obtain ⟨a8, n8, c8, hcR6, hR8⟩ := Kd.o_sl hcR6
  refine WP.loadV [[.slice a8 n8 c8]] [1] hcV6 hcR6 rfl (f := 0) (ty := 24) (agg := false) (size := 1) (rs := [[.slice a8 n8 c8]]) (v := .slice a8 n8 c8) (by kernel_rfl) (by kernel_rfl) (by kernel_rfl) (by kernel_rfl) ?_
  refine WP.stl 1 ?_
  refine WP.dn ?_
  refine NX.then_n ?_
  refine CP.seqR ?_
  refine WP.stl 3 ?_
  replace hs := Option.bind_eq_some_iff.1 hs
  obtain ⟨q3, hk3, hs⟩ := hs
  have hcal3 := P.slices_Equal_byte_byte g (getI l1 x1) (getI l2 x1) a7 n7 c7 a8 n8 c8 hR7 hR8 q3 hk3
  refine WP.callC hcal3 (by kernel_rfl) ?_
  rintro _ g3 st3 rfl
  replace hR2 := hR2.mono st3 (fun x => x)
  replace hR1 := hR1.mono st3 (fun x => x)
  replace hR7 := hR7.mono st3 (fun x => x)
  replace hR8 := hR8.mono st3 (fun x => x)
  replace tot := tot.trans st3.pure
  refine WP.stl 1 ?_
  refine WP.dn ?_
  refine NX.then_n ?_
  refine CP.refr 32 [(1, .slice a2 n2 c2), (2, .func (.func 48) #[] #[]), (15, .slice a1 n1 c1), (16, .int .i64 (l1.length : Int)), (17, .int .i64 x1), (30, .bool (!q3))] (by kernel_rfl) (by kernel_rfl) ?_
  clear ds
  intro ds
  refine CP.cond (b := (!q3)) (by kernel_rfl) (fun h7 => ?_) (fun h7 => ?_)
  ·replace hs := of_if_t hs h7
   refine CP.seqR ?_
   refine WP.stl 1 ?_
   refine WP.dn ?_
   refine NX.then_n ?_
   refine CP.ret ?_
   refine NX.block_r ?_
   refine NX.then_r ?_
   refine NX.then_r ?_
   refine NX.block_r ?_
   refine NX.then_r ?_
   replace hs := Option.some.inj hs
   obtain rfl := hs
   exact NX.fin (v := .bool false) (Res.still (by kernel_rfl)) tot htL rfl
  replace hs := of_if_f hs h7
  refine CP.skip ?_
  refine NX.block_n ?_
  refine NX.then_n ?_
  refine CP.region ?_
  refine WP.stl 2 ?_
  refine WP.dn ?_
  refine NX.post ?_
  exact ⟨(IntKind.i64.wrap (x1 + 1)), ⟨by kernel_rfl, by kernel_rfl⟩, tot, hR2, hR1, hs⟩
 replace hs := of_if_f hs h6
 refine CP.exit ?_
 refine NX.then_e ?_
 refine NX.then_e ?_
 refine NX.block_s ?_
 refine NX.then_n ?_
 refine CP.seqR ?_
 refine WP.stl 1 ?_
 refine WP.dn ?_
 refine NX.then_n ?_
 refine CP.ret ?_
 replace hs := Option.some.inj hs
 obtain rfl := hs
 exact NX.fin (v := .bool true) (Res.still (by kernel_rfl)) tot htL rfl
def F.state_Signed_Same.c1 (q3 : Bool) : Option (Bool) := (some q3)
def F.state_Signed_Same (d1 : Arr Int 8) (x1 : Int) (l1 : List Int) (l2 : List (List Int)) (d2 : Arr Int 8) (x2 : Int) (l3 : List Int) (l4 : List (List Int)) : Option (Bool) := ((F.state_same d1 x1 l1 d2 x2 l3).bind fun q4 => (if q4 = true then ((F.slices_EqualFunc_byte_byte_byte_byte l2 l4).bind fun q5 => (F.state_Signed_Same.c1 q5)) else (F.state_Signed_Same.c1 false)))
theorem P.state_Signed_Same (g0 : GW) (d1 : Arr Int 8) (x1 : Int) (l1 : List Int) (l2 : List (List Int)) (d2 : Arr Int 8) (x2 : Int) (l3 : List Int) (l4 : List (List Int)) (a1 : Option Addr) (n1 : Nat) (c1 : Nat) (a2 : Option Addr) (n2 : Nat) (c2 : Nat) (a3 : Option Addr) (n3 : Nat) (c3 : Nat) (a4 : Option Addr) (n4 : Nat) (c4 : Nat) (hR1 : RdS (Kd.int .u8) g0 5 a1 n1 c1 l1) (hR2 : RdS (Kd.slice 5 (Kd.int .u8)) g0 24 a2 n2 c2 l2) (hR3 : RdS (Kd.int .u8) g0 5 a3 n3 c3 l3) (hR4 : RdS (Kd.slice 5 (Kd.int .u8)) g0 24 a4 n4 c4 l4) (o1 : Bool) (hs : F.state_Signed_Same d1 x1 l1 l2 d2 x2 l3 l4 = some o1) :
  Calls Try.prog 28 #[AG [encA .u8 d1, [.int .i64 x1], [.slice a1 n1 c1], [.slice a2 n2 c2]], AG [encA .u8 d2, [.int .i64 x2], [.slice a3 n3 c3], [.slice a4 n4 c4]]] g0.w (Ret NoM g0 fun v g => v = .bool o1) := by
 refine calls_of (args := [AG [encA .u8 d1, [.int .i64 x1], [.slice a1 n1 c1], [.slice a2 n2 c2]], AG [encA .u8 d2, [.int .i64 x2], [.slice a3 n3 c3], [.slice a4 n4 c4]]]) Try.func28 rfl (0) ?_
 intro t ht htL
 refine ⟨_, rfl, ?_⟩
 refine CP.refr 17 [(0, AG [encA .u8 d1, [.int .i64 x1], [.slice a1 n1 c1], [.slice a2 n2 c2]]), (1, AG [encA .u8 d2, [.int .i64 x2], [.slice a3 n3 c3], [.slice a4 n4 c4]])] (by kernel_rfl) (by kernel_rfl) ?_
 intro ds
 have tot : Step (fun l => NoM l ∨ t ≤ l) g0 g0 := Step.refl _ _
 unfold F.state_Signed_Same at hs
 refine CP.seqR ?_
 refine WP.alloc (T := 61) (t + 1) [encA .u8 d1, [.int .i64 x1], [.slice a1 n1 c1], [.slice a2 n2 c2]] [8, 1, 1, 1] (by kernel_rfl) (by simp [len_encA]) ?_
 intro g1 b1 st1 hB1
 replace hR1 := hR1.mono st1 (fun x => x)
 replace hR2 := hR2.mono st1 (fun x => x)
 replace hR3 := hR3.mono st1 (fun x => x)
 replace hR4 := hR4.mono st1 (fun x => x)
 replace tot := tot.trans st1.pure
 refine WP.alloc (T := 61) (t + 2) [encA .u8 d2, [.int .i64 x2], [.slice a3 n3 c3], [.slice a4 n4 c4]] [8, 1, 1, 1] (by kernel_rfl) (by simp [len_encA]) ?_
 intro g2 b2 st2 hB2
 replace hR1 := hR1.mono st2 (fun x => x)
 replace hR2 := hR2.mono st2 (fun x => x)
 replace hR3 := hR3.mono st2 (fun x => x)
 replace hR4 := hR4.mono st2 (fun x => x)
 replace hB1 := hB1.mono st2 (fun x => x)
 replace tot := tot.trans st2.pure
 refine WP.stl 1 ?_
 refine WP.dn ?_
 refine NX.then_n ?_
 refine CP.cut (fun tm g => ∃ (q3 : Bool), Fr 17 [(4, .bool q3)] tm ∧ Step (fun l => NoM l ∨ t ≤ l) g0 g ∧ (F.state_Signed_Same.c1 q3) = some o1) ?_ ?_
 ·refine CP.region ?_
  refine WP.stl 1 ?_
  refine WP.loadB (v := AG [encA .u8 d1, [.int .i64 x1], [.slice a1 n1 c1]]) hB1 (by kernel_rfl) (by kernel_rfl) ?_
  refine WP.stl 1 ?_
  refine WP.loadB (v := AG [encA .u8 d2, [.int .i64 x2], [.slice a3 n3 c3]]) hB2 (by kernel_rfl) (by kernel_rfl) ?_
  replace hs := Option.bind_eq_some_iff.1 hs
  obtain ⟨q4, hk3, hs⟩ := hs
  have hcal3 := P.state_same g2 d1 x1 l1 d2 x2 l3 a1 n1 c1 a3 n3 c3 hR1 hR3 q4 hk3
  refine WP.callC hcal3 (by kernel_rfl) ?_
  rintro _ g5 st5 rfl
  replace hB1 := hB1.mono st5 (fun x => x)
  replace hR1 := hR1.mono st5 (fun x => x)
  replace hR2 := hR2.mono st5 (fun x => x)
  replace hB2 := hB2.mono st5 (fun x => x)
  replace hR3 := hR3.mono st5 (fun x => x)
  replace hR4 := hR4.mono st5 (fun x => x)
  replace tot := tot.trans st5.pure
  refine WP.stl 1 ?_
  refine WP.guard 10 (b := q4) (by kernel_rfl) (fun h2 => ?_) (fun h2 => ?_)
  ·replace hs := of_if_t hs h2
   refine WP.stl 1 ?_
   refine WP.loadB (v := .slice a2 n2 c2) hB1 (by kernel_rfl) (by kernel_rfl) ?_
   refine WP.stl 1 ?_
   refine WP.loadB (v := .slice a4 n4 c4) hB2 (by kernel_rfl) (by kernel_rfl) ?_
   replace hs := Option.bind_eq_some_iff.1 hs
   obtain ⟨q5, hk4, hs⟩ := hs
   have hcal4 := P.slices_EqualFunc_byte_byte_byte_byte g5 l2 l4 a2 n2 c2 a4 n4 c4 hR2 hR4 q5 hk4
   refine WP.callC hcal4 (by kernel_rfl) ?_
   rintro _ g6 st6 rfl
   replace hB1 := hB1.mono st6 (fun x => x)
   replace hR1 := hR1.mono st6 (fun x => x)
   replace hR2 := hR2.mono st6 (fun x => x)
   replace hB2 := hB2.mono st6 (fun x => x)
   replace hR3 := hR3.mono st6 (fun x => x)
   replace hR4 := hR4.mono st6 (fun x => x)
   replace tot := tot.trans st6.pure
   refine WP.stl 2 ?_
   refine WP.dn ?_
   refine NX.post ?_
   exact ⟨q5, ⟨by kernel_rfl, by kernel_rfl⟩, tot, hs⟩
  replace hs := of_if_f hs h2
  refine WP.stl 7 ?_
  refine WP.dn ?_
  refine NX.post ?_
  exact ⟨false, ⟨by kernel_rfl, by kernel_rfl⟩, tot, hs⟩
 clear tot hs hB1 hR1 hR2 hB2 hR3 hR4
 rintro tm g ⟨q3, hF, tot, hs⟩
 clear ds
 obtain ⟨ds, rfl⟩ := hF.open
 clear hF
 unfold F.state_Signed_Same.c1 at hs
 refine CP.ret ?_
 replace hs := Option.some.inj hs
 obtain rfl := hs
 exact NX.fin (v := .bool q3) (Res.still (by kernel_rfl)) tot htL rfl
def F.baizelaw32_StateJoins.c2 (q7 : Bool) : Option (Bool) := (some q7)
def N.baizelaw32_StateJoins_0 : List (List Nat) := [[], [0], [0, 1], [0, 1], [0, 1, 2, 3], [0, 1, 2, 3, 4], [0, 1, 2, 3, 4, 5], [0, 1, 2, 3, 4, 5, 6], [0, 1, 2, 3, 4, 5, 6], [0, 1, 2, 3, 4, 5, 6, 7, 8], [0, 1, 2, 3, 4, 5, 6, 7, 8, 9], [0, 1, 2, 3, 4, 5, 6, 7, 8, 9, 10], [0, 1, 2, 3, 4, 5, 6, 7, 8, 9, 10, 11], [0, 1, 2, 3, 4, 5, 6, 7, 8, 9, 10, 11], [0, 1, 2, 3, 4, 5, 6, 7, 8, 9, 10, 11, 12, 13], [0, 1, 2, 3, 4, 5, 6, 7, 8, 9, 10, 11], [0, 1, 2, 3, 4, 5, 6, 7, 8, 9, 10, 11], [0, 1, 2, 3, 4, 5, 6, 7, 8, 9, 10, 11, 12, 13, 14, 15, 16], [0, 1, 2, 3, 4, 5, 6, 7, 8, 9, 10, 11, 12, 13, 14, 15, 16, 17], [0, 1, 2, 3, 4, 5, 6, 7, 8, 9, 10, 11, 12, 13, 14, 15, 16, 17, 18], [0, 1, 2, 3, 4, 5, 6, 7, 8, 9, 10, 11, 12, 13, 14, 15, 16, 17, 18, 19], [0, 1, 2, 3, 4, 5, 6, 7, 8, 9, 10, 11, 12, 13, 14, 15, 16, 17, 18, 19, 20], [0, 1, 2, 3, 4, 5, 6, 7, 8, 9, 10, 11, 12, 13, 14, 15, 16, 17, 18, 19, 20], [0, 1, 2, 3, 4, 5, 6, 7, 8, 9, 10, 11, 12, 13, 14, 15, 16, 17, 18, 19, 20, 21, 22], [0, 1, 2, 3, 4, 5, 6, 7, 8, 9, 10, 11, 12, 13, 14, 15, 16, 17, 18, 19, 20, 21, 22, 23], [0, 1, 2, 3, 4, 5, 6, 7, 8, 9, 10, 11, 12, 13, 14, 15, 16, 17, 18, 19, 20, 21, 22, 23, 24]]
def F.baizelaw32_StateJoins.c1 (d1 : Arr Int 8) (x1 : Int) (l1 : List Int) (l2 : List (List Int)) (l4 : List (List Int)) (d3 : Arr Int 8) (x3 : Int) (l5 : List Int) : Option (Bool) := ((F.baizelaw32_plain d1 x1 l1 l2).bind fun (d4, x4, l6, l7, d5, x5, l8, l9) => ((F.baizelaw32_plain d3 x3 l5 l4).bind fun (d6, x6, l10, l11, d7, x7, l12, l13) => ((F.state_Join d4 x4 l6 l7 d6 x6 l10 l11).bind fun (d8, x8, l14, l15, x9) => ((F.baizeref32_Join d5 x5 l8 l9 d7 x7 l12 l13).bind fun (d9, x10, l16, l17, x11) => ((F.baizelaw32_plain d8 x8 l14 l15).bind fun (d10, x12, l18, l19, d11, x13, l20, l21) => ((F.baizelaw32_told).bind fun q8 => (if q8 = true then (if (x9 == x11) = true then ((F.baizeref32_Same d11 x13 l20 l21 d9 x10 l16 l17).bind fun q9 => (if q9 = true then ((F.state_Signed_Same d4 x4 l6 l7 d6 x6 l10 l11).bind fun q10 => ((F.baizeref32_Same d5 x5 l8 l9 d7 x7 l12 l13).bind fun q11 => (if (q10 == q11) = true then ((F.state_Signed_Same d4 x4 l6 l7 d4 x4 l6 l7).bind fun q12 => (F.baizelaw32_StateJoins.c2 q12)) else (F.baizelaw32_StateJoins.c2 false)))) else (F.baizelaw32_StateJoins.c2 false))) else (F.baizelaw32_StateJoins.c2 false)) else (F.baizelaw32_StateJoins.c2 false))))))))
def F.baizelaw32_StateJoins (d1 : Arr Int 8) (x1 : Int) (l1 : List Int) (l2 : List (List Int)) (d2 : Arr Int 8) (x2 : Int) (l3 : List Int) (l4 : List (List Int)) (q1 : Bool) : Option (Bool) := (if q1 = true then (F.baizelaw32_StateJoins.c1 d1 x1 l1 l2 l4 d1 x1 l1) else (F.baizelaw32_StateJoins.c1 d1 x1 l1 l2 l4 d2 x2 l3))
theorem P.baizelaw32_StateJoins (g0 : GW) (d1 : Arr Int 8) (x1 : Int) (l1 : List Int) (l2 : List (List Int)) (d2 : Arr Int 8) (x2 : Int) (l3 : List Int) (l4 : List (List Int)) (q1 : Bool) (a1 : Option Addr) (n1 : Nat) (c1 : Nat) (a2 : Option Addr) (n2 : Nat) (c2 : Nat) (a3 : Option Addr) (n3 : Nat) (c3 : Nat) (a4 : Option Addr) (n4 : Nat) (c4 : Nat) (hR1 : RdS (Kd.int .u8) g0 5 a1 n1 c1 l1) (hR2 : RdS (Kd.slice 5 (Kd.int .u8)) g0 24 a2 n2 c2 l2) (hR3 : RdS (Kd.int .u8) g0 5 a3 n3 c3 l3) (hR4 : RdS (Kd.slice 5 (Kd.int .u8)) g0 24 a4 n4 c4 l4) (o1 : Bool) (hs : F.baizelaw32_StateJoins d1 x1 l1 l2 d2 x2 l3 l4 q1 = some o1) :
  Calls Try.prog 7 #[AG [encA .u8 d1, [.int .i64 x1], [.slice a1 n1 c1], [.slice a2 n2 c2]], AG [encA .u8 d2, [.int .i64 x2], [.slice a3 n3 c3], [.slice a4 n4 c4]], .bool q1] g0.w (Ret NoM g0 fun v g => v = .bool o1) := by
 refine calls_of (args := [AG [encA .u8 d1, [.int .i64 x1], [.slice a1 n1 c1], [.slice a2 n2 c2]], AG [encA .u8 d2, [.int .i64 x2], [.slice a3 n3 c3], [.slice a4 n4 c4]], .bool q1]) Try.func7 rfl (0) ?_
 intro t ht htL
 refine ⟨_, rfl, ?_⟩
 refine CP.refr 73 [(0, AG [encA .u8 d1, [.int .i64 x1], [.slice a1 n1 c1], [.slice a2 n2 c2]]), (1, AG [encA .u8 d2, [.int .i64 x2], [.slice a3 n3 c3], [.slice a4 n4 c4]]), (2, .bool q1)] (by kernel_rfl) (by kernel_rfl) ?_
 intro ds
 have tot : Step (fun l => NoM l ∨ t ≤ l) g0 g0 := Step.refl _ _
 unfold F.baizelaw32_StateJoins at hs
 refine CP.seqR ?_
 refine WP.alloc (T := 61) (t + 1) [encA .u8 d1, [.int .i64 x1], [.slice a1 n1 c1], [.slice a2 n2 c2]] [8, 1, 1, 1] (by kernel_rfl) (by simp [len_encA]) ?_
 intro g1 b1 st1 hB1
 replace hR1 := hR1.mono st1 (fun x => x)
 replace hR2 := hR2.mono st1 (fun x => x)
 replace hR3 := hR3.mono st1 (fun x => x)
 replace hR4 := hR4.mono st1 (fun x => x)
 replace tot := tot.trans st1.pure
 refine WP.alloc (T := 61) (t + 2) [encA .u8 d2, [.int .i64 x2], [.slice a3 n3 c3], [.slice a4 n4 c4]] [8, 1, 1, 1] (by kernel_rfl) (by simp [len_encA]) ?_
 intro g2 b2 st2 hB2
 replace hR1 := hR1.mono st2 (fun x => x)
 replace hR2 := hR2.mono st2 (fun x => x)
 replace hR3 := hR3.mono st2 (fun x => x)
 replace hR4 := hR4.mono st2 (fun x => x)
 replace hB1 := hB1.mono st2 (fun x => x)
 replace tot := tot.trans st2.pure
 refine WP.stl 1 ?_
 refine WP.dn ?_
 refine NX.then_n ?_
 refine CP.cut (fun tm g => ∃ (d3 : Arr Int 8) (x3 : Int) (l5 : List Int) (a5 : Option Addr) (n5 : Nat) (c5 : Nat), Fr 73 [(3, .pointer (some ⟨b1, 0, none⟩)), (4, .pointer (some ⟨b2, 0, none⟩))] tm ∧ Step (fun l => NoM l ∨ t ≤ l) g0 g ∧ Box g (t + 1) b1 61 [encA .u8 d1, [.int .i64 x1], [.slice a1 n1 c1], [.slice a2 n2 c2]] [8, 1, 1, 1] ∧ RdS (Kd.int .u8) g 5 a1 n1 c1 l1 ∧ RdS (Kd.slice 5 (Kd.int .u8)) g 24 a2 n2 c2 l2 ∧ Box g (t + 2) b2 61 [encA .u8 d3, [.int .i64 x3], [.slice a5 n5 c5], [.slice a4 n4 c4]] [8, 1, 1, 1] ∧ RdS (Kd.int .u8) g 5 a5 n5 c5 l5 ∧ RdS (Kd.slice 5 (Kd.int .u8)) g 24 a4 n4 c4 l4 ∧ (F.baizelaw32_StateJoins.c1 d1 x1 l1 l2 l4 d3 x3 l5) = some o1) ?_ ?_
 ·refine CP.seqR ?_
  refine WP.stl 1 ?_
  refine WP.dn ?_
  refine NX.then_n ?_
  refine CP.cond (b := q1) (by kernel_rfl) (fun h10 => ?_) (fun h10 => ?_)
  ·replace hs := of_if_t hs h10
   refine CP.region ?_
   refine WP.stl 1 ?_
   refine WP.loadB (v := AG [encA .u8 d1, [.int .i64 x1], [.slice a1 n1 c1]]) hB1 (by kernel_rfl) (by kernel_rfl) ?_
   refine WP.stl 1 ?_
   refine WP.storeB (ty := 26) (off := 0) (v := AG [encA .u8 d1, [.int .i64 x1], [.slice a1 n1 c1]]) hB2 [encA .u8 d1, [.int .i64 x1], [.slice a1 n1 c1]] [8, 1, 1] (by kernel_rfl) (by kernel_rfl) (by simp [len_encA]) (by kernel_rfl) [encA .u8 d1, [.int .i64 x1], [.slice a1 n1 c1], [.slice a4 n4 c4]] (by kernel_rfl) (.arr (.one rfl (.one rfl .nil))) ?_
   intro g44 st44 hB20
   replace hB1 := hB1.mono st44 (WL.no1 (by omega))
   replace hR1 := hR1.mono st44 (WL.no1 (by omega))
   replace hR2 := hR2.mono st44 (WL.no1 (by omega))
   replace hR4 := hR4.mono st44 (WL.no1 (by omega))
   replace tot := tot.trans (st44.up1 (.inr (by omega)))
   clear hB2
   have hB2 := hB20
   clear hB20
   refine WP.dn ?_
   refine NX.post ?_
   exact ⟨d1, x1, l1, a1, n1, c1, ⟨by kernel_rfl, by kernel_rfl⟩, tot, hB1, hR1, hR2, hB2, hR1, hR4, hs⟩
  replace hs := of_if_f hs h10
  refine CP.skip ?_
  refine NX.post ?_
  exact ⟨d2, x2, l3, a3, n3, c3, ⟨by kernel_rfl, by kernel_rfl⟩, tot, hB1, hR1, hR2, hB2, hR3, hR4, hs⟩
 clear tot hs hB1 hR1 hR2 hB2 hR3 hR4
 rintro tm g ⟨d3, x3, l5, a5, n5, c5, hF, tot, hB1, hR1, hR2, hB2, hR5, hR4, hs⟩
 clear ds
 obtain ⟨ds, rfl⟩ := hF.open
 clear hF
 unfold F.baizelaw32_StateJoins.c1 at hs
 refine CP.seqR ?_
 refine WP.loadB (v := AG [encA .u8 d1, [.int .i64 x1], [.slice a1 n1 c1], [.slice a2 n2 c2]]) hB1 (by kernel_rfl) (by kernel_rfl) ?_
 replace hs := Option.bind_eq_some_iff.1 hs
 obtain ⟨⟨d4, x4, l6, l7, d5, x5, l8, l9⟩, hk1, hs⟩ := hs
 dsimp only at hs
 have hcal1 := P.baizelaw32_plain g d1 x1 l1 l2 a1 n1 c1 a2 n2 c2 hR1 hR2 d4 x4 l6 l7 d5 x5 l8 l9 hk1
 refine WP.callC hcal1 (by kernel_rfl) ?_
 rintro _ g4 st4 ⟨a6, n6, c6, a7, n7, c7, a8, n8, c8, a9, n9, c9, rfl, hR6, hR7, hR8, hR9⟩
 replace hB1 := hB1.mono st4 (fun x => x)
 replace hR1 := hR1.mono st4 (fun x => x)
 replace hR2 := hR2.mono st4 (fun x => x)
 replace hB2 := hB2.mono st4 (fun x => x)
 replace hR5 := hR5.mono st4 (fun x => x)
 replace hR4 := hR4.mono st4 (fun x => x)
 replace tot := tot.trans st4.pure
 refine WP.stl 3 ?_
 refine WP.alloc (T := 61) (t + 3) [encA .u8 (zA 8), [.int .i64 0], [.slice none 0 0], [.slice none 0 0]] [8, 1, 1, 1] (by kernel_rfl) (by simp [len_encA]) ?_
 intro g5 b3 st5 hB4
 replace hB1 := hB1.mono st5 (fun x => x)
 replace hR1 := hR1.mono st5 (fun x => x)
 replace hR2 := hR2.mono st5 (fun x => x)
 replace hB2 := hB2.mono st5 (fun x => x)
 replace hR5 := hR5.mono st5 (fun x => x)
 replace hR4 := hR4.mono st5 (fun x => x)
 replace hR6 := hR6.mono st5 (fun x => x)
 replace hR7 := hR7.mono st5 (fun x => x)
 replace hR8 := hR8.mono st5 (fun x => x)
 replace hR9 := hR9.mono st5 (fun x => x)
 replace tot := tot.trans st5.pure
 refine WP.alloc (T := 65) (t + 4) [encA .u8 (zA 8), [.int .i64 0], [.slice none 0 0], [.slice none 0 0]] [8, 1, 1, 1] (by kernel_rfl) (by simp [len_encA]) ?_
 intro g6 b4 st6 hB5
 replace hB1 := hB1.mono st6 (fun x => x)
 replace hR1 := hR1.mono st6 (fun x => x)
 replace hR2 := hR2.mono st6 (fun x => x)
 replace hB2 := hB2.mono st6 (fun x => x)
 replace hR5 := hR5.mono st6 (fun x => x)
 replace hR4 := hR4.mono st6 (fun x => x)
 replace hR6 := hR6.mono st6 (fun x => x)
 replace hR7 := hR7.mono st6 (fun x => x)
 replace hR8 := hR8.mono st6 (fun x => x)
 replace hR9 := hR9.mono st6 (fun x => x)
 replace hB4 := hB4.mono st6 (fun x => x)
 replace tot := tot.trans st6.pure
 refine WP.storeB (ty := 61) (off := 0) (v := AG [encA .u8 d4, [.int .i64 x4], [.slice a6 n6 c6], [.slice a7 n7 c7]]) hB4 [encA .u8 d4, [.int .i64 x4], [.slice a6 n6 c6], [.slice a7 n7 c7]] [8, 1, 1, 1] (by kernel_rfl) (by kernel_rfl) (by simp [len_encA]) (by kernel_rfl) [encA .u8 d4, [.int .i64 x4], [.slice a6 n6 c6], [.slice a7 n7 c7]] (by kernel_rfl) (.arr (.one rfl (.one rfl (.one rfl .nil)))) ?_
 intro g7 st7 hB6
 replace hB1 := hB1.mono st7 (WL.no1 (by omega))
 replace hR1 := hR1.mono st7 (WL.no1 (by omega))
 replace hR2 := hR2.mono st7 (WL.no1 (by omega))
 replace hB2 := hB2.mono st7 (WL.no1 (by omega))
 replace hR5 := hR5.mono st7 (WL.no1 (by omega))
 replace hR4 := hR4.mono st7 (WL.no1 (by omega))
 replace hR6 := hR6.mono st7 (WL.no1 (by omega))
 replace hR7 := hR7.mono st7 (WL.no1 (by omega))
 replace hR8 := hR8.mono st7 (WL.no1 (by omega))
 replace hR9 := hR9.mono st7 (WL.no1 (by omega))
 replace hB5 := hB5.mono st7 (WL.no1 (by omega))
 replace tot := tot.trans (st7.up1 (.inr (by omega)))
 clear hB4
 have hB4 := hB6
 clear hB6
 refine WP.storeB (ty := 65) (off := 0) (v := AG [encA .u8 d5, [.int .i64 x5], [.slice a8 n8 c8], [.slice a9 n9 c9]]) hB5 [encA .u8 d5, [.int .i64 x5], [.slice a8 n8 c8], [.slice a9 n9 c9]] [8, 1, 1, 1] (by kernel_rfl) (by kernel_rfl) (by simp [len_encA]) (by kernel_rfl) [encA .u8 d5, [.int .i64 x5], [.slice a8 n8 c8], [.slice a9 n9 c9]] (by kernel_rfl) (.arr (.one rfl (.one rfl (.one rfl .nil)))) ?_
 intro g8 st8 hB7
 replace hB1 := hB1.mono st8 (WL.no1 (by omega))
 replace hR1 := hR1.mono st8 (WL.no1 (by omega))
 replace hR2 := hR2.mono st8 (WL.no1 (by omega))
 replace hB2 := hB2.mono st8 (WL.no1 (by omega))
 replace hR5 := hR5.mono st8 (WL.no1 (by omega))
 replace hR4 := hR4.mono st8 (WL.no1 (by omega))
 replace hR6 := hR6.mono st8 (WL.no1 (by omega))
 replace hR7 := hR7.mono st8 (WL.no1 (by omega))
 replace hR8 := hR8.mono st8 (WL.no1 (by omega))
 replace hR9 := hR9.mono st8 (WL.no1 (by omega))
 replace hB4 := hB4.mono st8 (WL.no1 (by omega))
 replace tot := tot.trans (st8.up1 (.inr (by omega)))
 clear hB5
 have hB5 := hB7
 clear hB7
 refine WP.dn ?_
 refine NX.then_n ?_
 refine CP.seqR ?_
 refine WP.loadB (v := AG [encA .u8 d3, [.int .i64 x3], [.slice a5 n5 c5], [.slice a4 n4 c4]]) hB2 (by kernel_rfl) (by kernel_rfl) ?_
 replace hs := Option.bind_eq_some_iff.1 hs
 obtain ⟨⟨d6, x6, l10, l11, d7, x7, l12, l13⟩, hk2, hs⟩ := hs
 dsimp only at hs
 have hcal2 := P.baizelaw32_plain g8 d3 x3 l5 l4 a5 n5 c5 a4 n4 c4 hR5 hR4 d6 x6 l10 l11 d7 x7 l12 l13 hk2
 refine WP.callC hcal2 (by kernel_rfl) ?_
 rintro _ g9 st9 ⟨a10, n10, c10, a11, n11, c11, a12, n12, c12, a13, n13, c13, rfl, hR10, hR11, hR12, hR13⟩
 replace hB2 := hB2.mono st9 (fun x => x)
 replace hR5 := hR5.mono st9 (fun x => x)
 replace hR4 := hR4.mono st9 (fun x => x)
 replace hB4 := hB4.mono st9 (fun x => x)
 replace hR6 := hR6.mono st9 (fun x => x)
 replace hR7 := hR7.mono st9 (fun x => x)
 replace hB5 := hB5.mono st9 (fun x => x)
 replace hR8 := hR8.mono st9 (fun x => x)
 replace hR9 := hR9.mono st9 (fun x => x)
 replace tot := tot.trans st9.pure
 refine WP.stl 3 ?_
 refine WP.alloc (T := 61) (t + 5) [encA .u8 (zA 8), [.int .i64 0], [.slice none 0 0], [.slice none 0 0]] [8, 1, 1, 1] (by kernel_rfl) (by simp [len_encA]) ?_
 intro g10 b5 st10 hB8
 replace hB2 := hB2.mono st10 (fun x => x)
 replace hR5 := hR5.mono st10 (fun x => x)
 replace hR4 := hR4.mono st10 (fun x => x)
 replace hB4 := hB4.mono st10 (fun x => x)
 replace hR6 := hR6.mono st10 (fun x => x)
 replace hR7 := hR7.mono st10 (fun x => x)
 replace hB5 := hB5.mono st10 (fun x => x)
 replace hR8 := hR8.mono st10 (fun x => x)
 replace hR9 := hR9.mono st10 (fun x => x)
 replace hR10 := hR10.mono st10 (fun x => x)
 replace hR11 := hR11.mono st10 (fun x => x)
 replace hR12 := hR12.mono st10 (fun x => x)
 replace hR13 := hR13.mono st10 (fun x => x)
 replace tot := tot.trans st10.pure
 refine WP.alloc (T := 65) (t + 6) [encA .u8 (zA 8), [.int .i64 0], [.slice none 0 0], [.slice none 0 0]] [8, 1, 1, 1] (by kernel_rfl) (by simp [len_encA]) ?_
 intro g11 b6 st11 hB9
 replace hB2 := hB2.mono st11 (fun x => x)
 replace hR5 := hR5.mono st11 (fun x => x)
 replace hR4 := hR4.mono st11 (fun x => x)
 replace hB4 := hB4.mono st11 (fun x => x)
 replace hR6 := hR6.mono st11 (fun x => x)
 replace hR7 := hR7.mono st11 (fun x => x)
 replace hB5 := hB5.mono st11 (fun x => x)
 replace hR8 := hR8.mono st11 (fun x => x)
 replace hR9 := hR9.mono st11 (fun x => x)
 replace hR10 := hR10.mono st11 (fun x => x)
 replace hR11 := hR11.mono st11 (fun x => x)
 replace hR12 := hR12.mono st11 (fun x => x)
 replace hR13 := hR13.mono st11 (fun x => x)
 replace hB8 := hB8.mono st11 (fun x => x)
 replace tot := tot.trans st11.pure
 refine WP.storeB (ty := 61) (off := 0) (v := AG [encA .u8 d6, [.int .i64 x6], [.slice a10 n10 c10], [.slice a11 n11 c11]]) hB8 [encA .u8 d6, [.int .i64 x6], [.slice a10 n10 c10], [.slice a11 n11 c11]] [8, 1, 1, 1] (by kernel_rfl) (by kernel_rfl) (by simp [len_encA]) (by kernel_rfl) [encA .u8 d6, [.int .i64 x6], [.slice a10 n10 c10], [.slice a11 n11 c11]] (by kernel_rfl) (.arr (.one rfl (.one rfl (.one rfl .nil)))) ?_
 intro g12 st12 hB10
 replace hB2 := hB2.mono st12 (WL.no1 (by omega))
 replace hR5 := hR5.mono st12 (WL.no1 (by omega))
 replace hR4 := hR4.mono st12 (WL.no1 (by omega))
 replace hB4 := hB4.mono st12 (WL.no1 (by omega))
 replace hR6 := hR6.mono st12 (WL.no1 (by omega))
 replace hR7 := hR7.mono st12 (WL.no1 (by omega))
 replace hB5 := hB5.mono st12 (WL.no1 (by omega))
 replace hR8 := hR8.mono st12 (WL.no1 (by omega))
 replace hR9 := hR9.mono st12 (WL.no1 (by omega))
 replace hR10 := hR10.mono st12 (WL.no1 (by omega))
 replace hR11 := hR11.mono st12 (WL.no1 (by omega))
 replace hR12 := hR12.mono st12 (WL.no1 (by omega))
 replace hR13 := hR13.mono st12 (WL.no1 (by omega))
 replace hB9 := hB9.mono st12 (WL.no1 (by omega))
 replace tot := tot.trans (st12.up1 (.inr (by omega)))
 clear hB8
 have hB8 := hB10
 clear hB10
 refine WP.storeB (ty := 65) (off := 0) (v := AG [encA .u8 d7, [.int .i64 x7], [.slice a12 n12 c12], [.slice a13 n13 c13]]) hB9 [encA .u8 d7, [.int .i64 x7], [.slice a12 n12 c12], [.slice a13 n13 c13]] [8, 1, 1, 1] (by kernel_rfl) (by kernel_rfl) (by simp [len_encA]) (by kernel_rfl) [encA .u8 d7, [.int .i64 x7], [.slice a12 n12 c12], [.slice a13 n13 c13]] (by kernel_rfl) (.arr (.one rfl (.one rfl (.one rfl .nil)))) ?_
 intro g13 st13 hB11
 replace hB2 := hB2.mono st13 (WL.no1 (by omega))
 replace hR5 := hR5.mono st13 (WL.no1 (by omega))
 replace hR4 := hR4.mono st13 (WL.no1 (by omega))
 replace hB4 := hB4.mono st13 (WL.no1 (by omega))
 replace hR6 := hR6.mono st13 (WL.no1 (by omega))
 replace hR7 := hR7.mono st13 (WL.no1 (by omega))
 replace hB5 := hB5.mono st13 (WL.no1 (by omega))
 replace hR8 := hR8.mono st13 (WL.no1 (by omega))
 replace hR9 := hR9.mono st13 (WL.no1 (by omega))
 replace hR10 := hR10.mono st13 (WL.no1 (by omega))
 replace hR11 := hR11.mono st13 (WL.no1 (by omega))
 replace hR12 := hR12.mono st13 (WL.no1 (by omega))
 replace hR13 := hR13.mono st13 (WL.no1 (by omega))
 replace hB8 := hB8.mono st13 (WL.no1 (by omega))
 replace tot := tot.trans (st13.up1 (.inr (by omega)))
 clear hB9
 have hB9 := hB11
 clear hB11
 refine WP.dn ?_
 refine NX.then_n ?_
 refine CP.refr 73 [(7, .pointer (some ⟨b3, 0, none⟩)), (8, .pointer (some ⟨b4, 0, none⟩)), (9, .pointer (some ⟨b5, 0, none⟩)), (10, .pointer (some ⟨b6, 0, none⟩))] (by kernel_rfl) (by kernel_rfl) ?_
 clear ds
 intro ds
 refine CP.seqR ?_
 refine WP.loadB (v := AG [encA .u8 d4, [.int .i64 x4], [.slice a6 n6 c6], [.slice a7 n7 c7]]) hB4 (by kernel_rfl) (by kernel_rfl) ?_
 refine WP.loadB (v := AG [encA .u8 d6, [.int .i64 x6], [.slice a10 n10 c10], [.slice a11 n11 c11]]) hB8 (by kernel_rfl) (by kernel_rfl) ?_
 replace hs := Option.bind_eq_some_iff.1 hs
 obtain ⟨⟨d8, x8, l14, l15, x9⟩, hk3, hs⟩ := hs
 dsimp only at hs
 have hcal3 := P.state_Join g13 (t + 7) (t + 8) d4 x4 l6 l7 d6 x6 l10 l11 a6 n6 c6 a7 n7 c7 a10 n10 c10 a11 n11 c11 hR6 hR7 hR10 hR11 d8 x8 l14 l15 x9 hk3
 refine WP.callC hcal3 (by kernel_rfl) ?_
 rintro _ g14 st14 ⟨a14, n14, c14, a15, n15, c15, rfl, hR14, hR15⟩
 replace hB4 := hB4.mono st14 (fun x => x)
 replace hR6 := hR6.mono st14 (fun x => x)
 replace hR7 := hR7.mono st14 (fun x => x)
 replace hB5 := hB5.mono st14 (fun x => x)
 replace hR8 := hR8.mono st14 (fun x => x)
 replace hR9 := hR9.mono st14 (fun x => x)
 replace hB8 := hB8.mono st14 (fun x => x)
 replace hR10 := hR10.mono st14 (fun x => x)
 replace hR11 := hR11.mono st14 (fun x => x)
 replace hB9 := hB9.mono st14 (fun x => x)
 replace hR12 := hR12.mono st14 (fun x => x)
 replace hR13 := hR13.mono st14 (fun x => x)
 replace tot := tot.trans st14.pure
 refine WP.stl 3 ?_
 refine WP.alloc (T := 61) (t + 9) [encA .u8 (zA 8), [.int .i64 0], [.slice none 0 0], [.slice none 0 0]] [8, 1, 1, 1] (by kernel_rfl) (by simp [len_encA]) ?_
 intro g15 b7 st15 hB12
 replace hB4 := hB4.mono st15 (fun x => x)
 replace hR6 := hR6.mono st15 (fun x => x)
 replace hR7 := hR7.mono st15 (fun x => x)
 replace hB5 := hB5.mono st15 (fun x => x)
 replace hR8 := hR8.mono st15 (fun x => x)
 replace hR9 := hR9.mono st15 (fun x => x)
 replace hB8 := hB8.mono st15 (fun x => x)
 replace hR10 := hR10.mono st15 (fun x => x)
 replace hR11 := hR11.mono st15 (fun x => x)
 replace hB9 := hB9.mono st15 (fun x => x)
 replace hR12 := hR12.mono st15 (fun x => x)
 replace hR13 := hR13.mono st15 (fun x => x)
 replace hR14 := hR14.mono st15 (fun x => x) (fun x => x)
 replace hR15 := hR15.mono st15 (fun x => x) (fun x => x)
 replace tot := tot.trans st15.pure
 refine WP.storeB (ty := 61) (off := 0) (v := AG [encA .u8 d8, [.int .i64 x8], [.slice a14 n14 c14], [.slice a15 n15 c15]]) hB12 [encA .u8 d8, [.int .i64 x8], [.slice a14 n14 c14], [.slice a15 n15 c15]] [8, 1, 1, 1] (by kernel_rfl) (by kernel_rfl) (by simp [len_encA]) (by kernel_rfl) [encA .u8 d8, [.int .i64 x8], [.slice a14 n14 c14], [.slice a15 n15 c15]] (by kernel_rfl) (.arr (.one rfl (.one rfl (.one rfl .nil)))) ?_
 intro g16 st16 hB13
 replace hB4 := hB4.mono st16 (WL.no1 (by omega))
 replace hR6 := hR6.mono st16 (WL.no1 (by omega))
 replace hR7 := hR7.mono st16 (WL.no1 (by omega))
 replace hB5 := hB5.mono st16 (WL.no1 (by omega))
 replace hR8 := hR8.mono st16 (WL.no1 (by omega))
 replace hR9 := hR9.mono st16 (WL.no1 (by omega))
 replace hB8 := hB8.mono st16 (WL.no1 (by omega))
 replace hR10 := hR10.mono st16 (WL.no1 (by omega))
 replace hR11 := hR11.mono st16 (WL.no1 (by omega))
 replace hB9 := hB9.mono st16 (WL.no1 (by omega))
 replace hR12 := hR12.mono st16 (WL.no1 (by omega))
 replace hR13 := hR13.mono st16 (WL.no1 (by omega))
 replace hR14 := hR14.mono st16 (WL.no1 (by omega)) (WL.no1 (by omega))
 replace hR15 := hR15.mono st16 (WL.no1 (by omega)) (WL.no1 (by omega))
 replace tot := tot.trans (st16.up1 (.inr (by omega)))
 clear hB12
 have hB12 := hB13
 clear hB13
 refine WP.stl 1 ?_
 refine WP.dn ?_
 refine NX.then_n ?_
 refine CP.seqR ?_
 refine WP.loadB (v := AG [encA .u8 d5, [.int .i64 x5], [.slice a8 n8 c8], [.slice a9 n9 c9]]) hB5 (by kernel_rfl) (by kernel_rfl) ?_
 refine WP.loadB (v := AG [encA .u8 d7, [.int .i64 x7], [.slice a12 n12 c12], [.slice a13 n13 c13]]) hB9 (by kernel_rfl) (by kernel_rfl) ?_
 replace hs := Option.bind_eq_some_iff.1 hs
 obtain ⟨⟨d9, x10, l16, l17, x11⟩, hk4, hs⟩ := hs
 dsimp only at hs
 have hcal4 := P.baizeref32_Join g16 (t + 10) d5 x5 l8 l9 d7 x7 l12 l13 a8 n8 c8 a9 n9 c9 a12 n12 c12 a13 n13 c13 hR8 hR9 hR12 hR13 d9 x10 l16 l17 x11 hk4
 refine WP.callC hcal4 (by kernel_rfl) ?_
 rintro _ g17 st17 ⟨a16, n16, c16, a17, n17, c17, rfl, hR16, hR17⟩
 replace hB4 := hB4.mono st17 (fun x => x)
 replace hR6 := hR6.mono st17 (fun x => x)
 replace hR7 := hR7.mono st17 (fun x => x)
 replace hB5 := hB5.mono st17 (fun x => x)
 replace hR8 := hR8.mono st17 (fun x => x)
 replace hR9 := hR9.mono st17 (fun x => x)
 replace hB8 := hB8.mono st17 (fun x => x)
 replace hR10 := hR10.mono st17 (fun x => x)
 replace hR11 := hR11.mono st17 (fun x => x)
 replace hB9 := hB9.mono st17 (fun x => x)
 replace hR12 := hR12.mono st17 (fun x => x)
 replace hR13 := hR13.mono st17 (fun x => x)
 replace hB12 := hB12.mono st17 (fun x => x)
 replace hR14 := hR14.mono st17 (fun x => x) (fun x => x)
 replace hR15 := hR15.mono st17 (fun x => x) (fun x => x)
 replace tot := tot.trans st17.pure
 refine WP.stl 3 ?_
 refine WP.alloc (T := 65) (t + 11) [encA .u8 (zA 8), [.int .i64 0], [.slice none 0 0], [.slice none 0 0]] [8, 1, 1, 1] (by kernel_rfl) (by simp [len_encA]) ?_
 intro g18 b8 st18 hB14
 replace hB4 := hB4.mono st18 (fun x => x)
 replace hR6 := hR6.mono st18 (fun x => x)
 replace hR7 := hR7.mono st18 (fun x => x)
 replace hB5 := hB5.mono st18 (fun x => x)
 replace hR8 := hR8.mono st18 (fun x => x)
 replace hR9 := hR9.mono st18 (fun x => x)
 replace hB8 := hB8.mono st18 (fun x => x)
 replace hR10 := hR10.mono st18 (fun x => x)
 replace hR11 := hR11.mono st18 (fun x => x)
 replace hB9 := hB9.mono st18 (fun x => x)
 replace hR12 := hR12.mono st18 (fun x => x)
 replace hR13 := hR13.mono st18 (fun x => x)
 replace hB12 := hB12.mono st18 (fun x => x)
 replace hR14 := hR14.mono st18 (fun x => x) (fun x => x)
 replace hR15 := hR15.mono st18 (fun x => x) (fun x => x)
 replace hR16 := hR16.mono st18 (fun x => x)
 replace hR17 := hR17.mono st18 (fun x => x) (fun x => x)
 replace tot := tot.trans st18.pure
 refine WP.storeB (ty := 65) (off := 0) (v := AG [encA .u8 d9, [.int .i64 x10], [.slice a16 n16 c16], [.slice a17 n17 c17]]) hB14 [encA .u8 d9, [.int .i64 x10], [.slice a16 n16 c16], [.slice a17 n17 c17]] [8, 1, 1, 1] (by kernel_rfl) (by kernel_rfl) (by simp [len_encA]) (by kernel_rfl) [encA .u8 d9, [.int .i64 x10], [.slice a16 n16 c16], [.slice a17 n17 c17]] (by kernel_rfl) (.arr (.one rfl (.one rfl (.one rfl .nil)))) ?_
 intro g19 st19 hB15
 replace hB4 := hB4.mono st19 (WL.no1 (by omega))
 replace hR6 := hR6.mono st19 (WL.no1 (by omega))
 replace hR7 := hR7.mono st19 (WL.no1 (by omega))
 replace hB5 := hB5.mono st19 (WL.no1 (by omega))
 replace hR8 := hR8.mono st19 (WL.no1 (by omega))
 replace hR9 := hR9.mono st19 (WL.no1 (by omega))
 replace hB8 := hB8.mono st19 (WL.no1 (by omega))
 replace hR10 := hR10.mono st19 (WL.no1 (by omega))
 replace hR11 := hR11.mono st19 (WL.no1 (by omega))
 replace hB9 := hB9.mono st19 (WL.no1 (by omega))
 replace hR12 := hR12.mono st19 (WL.no1 (by omega))
 replace hR13 := hR13.mono st19 (WL.no1 (by omega))
 replace hB12 := hB12.mono st19 (WL.no1 (by omega))
 replace hR14 := hR14.mono st19 (WL.no1 (by omega)) (WL.no1 (by omega))
 replace hR15 := hR15.mono st19 (WL.no1 (by omega)) (WL.no1 (by omega))
 replace hR16 := hR16.mono st19 (WL.no1 (by omega))
 replace hR17 := hR17.mono st19 (WL.no1 (by omega)) (WL.no1 (by omega))
 replace tot := tot.trans (st19.up1 (.inr (by omega)))
 clear hB14
 have hB14 := hB15
 clear hB15
 refine WP.stl 1 ?_
 refine WP.dn ?_
 refine NX.then_n ?_
 refine CP.refr 73 [(7, .pointer (some ⟨b3, 0, none⟩)), (8, .pointer (some ⟨b4, 0, none⟩)), (9, .pointer (some ⟨b5, 0, none⟩)), (10, .pointer (some ⟨b6, 0, none⟩)), (11, .pointer (some ⟨b7, 0, none⟩)), (12, .int .i64 x9), (13, .pointer (some ⟨b8, 0, none⟩)), (14, .int .i64 x11)] (by kernel_rfl) (by kernel_rfl) ?_
 clear ds
 intro ds
 refine CP.seqR ?_
 refine WP.loadB (v := AG [encA .u8 d8, [.int .i64 x8], [.slice a14 n14 c14], [.slice a15 n15 c15]]) hB12 (by kernel_rfl) (by kernel_rfl) ?_
 replace hs := Option.bind_eq_some_iff.1 hs
 obtain ⟨⟨d10, x12, l18, l19, d11, x13, l20, l21⟩, hk5, hs⟩ := hs
 dsimp only at hs
 obtain ⟨g21, hw1, st21, hnew⟩ := hR14.freeze (by omega)
 refine WP.regw hw1 ?_
 replace hB4 := hB4.mono st21 (WL.no1 (by omega))
 replace hR6 := hR6.mono st21 (WL.no1 (by omega))
 replace hR7 := hR7.mono st21 (WL.no1 (by omega))
 replace hB5 := hB5.mono st21 (WL.no1 (by omega))
 replace hR8 := hR8.mono st21 (WL.no1 (by omega))
 replace hR9 := hR9.mono st21 (WL.no1 (by omega))
 replace hB8 := hB8.mono st21 (WL.no1 (by omega))
 replace hR10 := hR10.mono st21 (WL.no1 (by omega))
 replace hR11 := hR11.mono st21 (WL.no1 (by omega))
 replace hB9 := hB9.mono st21 (WL.no1 (by omega))
 replace hR12 := hR12.mono st21 (WL.no1 (by omega))
 replace hR13 := hR13.mono st21 (WL.no1 (by omega))
 replace hB12 := hB12.mono st21 (WL.no1 (by omega))
 replace hR15 := hR15.mono st21 (WL.no1 (by omega)) (WL.no1 (by omega))
 replace hB14 := hB14.mono st21 (WL.no1 (by omega))
 replace hR16 := hR16.mono st21 (WL.no1 (by omega))
 replace hR17 := hR17.mono st21 (WL.no1 (by omega)) (WL.no1 (by omega))
 replace tot := tot.trans (st21.up1 (.inr (by omega)))
 clear hR14
 have hR14 := hnew
 clear hnew
 obtain ⟨g22, hw2, st22, hnew⟩ := hR15.freeze (by omega)
 refine WP.regw hw2 ?_
 replace hB4 := hB4.mono st22 (WL.no1 (by omega))
 replace hR6 := hR6.mono st22 (WL.no1 (by omega))
 replace hR7 := hR7.mono st22 (WL.no1 (by omega))
 replace hB5 := hB5.mono st22 (WL.no1 (by omega))
 replace hR8 := hR8.mono st22 (WL.no1 (by omega))
 replace hR9 := hR9.mono st22 (WL.no1 (by omega))
 replace hB8 := hB8.mono st22 (WL.no1 (by omega))
 replace hR10 := hR10.mono st22 (WL.no1 (by omega))
 replace hR11 := hR11.mono st22 (WL.no1 (by omega))
 replace hB9 := hB9.mono st22 (WL.no1 (by omega))
 replace hR12 := hR12.mono st22 (WL.no1 (by omega))
 replace hR13 := hR13.mono st22 (WL.no1 (by omega))
 replace hB12 := hB12.mono st22 (WL.no1 (by omega))
 replace hR14 := hR14.mono st22 (WL.no1 (by omega))
 replace hB14 := hB14.mono st22 (WL.no1 (by omega))
 replace hR16 := hR16.mono st22 (WL.no1 (by omega))
 replace hR17 := hR17.mono st22 (WL.no1 (by omega)) (WL.no1 (by omega))
 replace tot := tot.trans (st22.up1 (.inr (by omega)))
 clear hR15
 have hR15 := hnew
 clear hnew
 have hcal5 := P.baizelaw32_plain g22 d8 x8 l14 l15 a14 n14 c14 a15 n15 c15 hR14 hR15 d10 x12 l18 l19 d11 x13 l20 l21 hk5
 refine WP.callC hcal5 (by kernel_rfl) ?_
 rintro _ g20 st20 ⟨a18, n18, c18, a19, n19, c19, a20, n20, c20, a21, n21, c21, rfl, hR18, hR19, hR20, hR21⟩
 replace hB4 := hB4.mono st20 (fun x => x)
 replace hR6 := hR6.mono st20 (fun x => x)
 replace hR7 := hR7.mono st20 (fun x => x)
 replace hB5 := hB5.mono st20 (fun x => x)
 replace hR8 := hR8.mono st20 (fun x => x)
 replace hR9 := hR9.mono st20 (fun x => x)
 replace hB8 := hB8.mono st20 (fun x => x)
 replace hR10 := hR10.mono st20 (fun x => x)
 replace hR11 := hR11.mono st20 (fun x => x)
 replace hB9 := hB9.mono st20 (fun x => x)
 replace hR12 := hR12.mono st20 (fun x => x)
 replace hR13 := hR13.mono st20 (fun x => x)
 replace hB12 := hB12.mono st20 (fun x => x)
 replace hR14 := hR14.mono st20 (fun x => x)
 replace hR15 := hR15.mono st20 (fun x => x)
 replace hB14 := hB14.mono st20 (fun x => x)
 replace hR16 := hR16.mono st20 (fun x => x)
 replace hR17 := hR17.mono st20 (fun x => x) (fun x => x)
 replace tot := tot.trans st20.pure
 refine WP.stl 3 ?_
 refine WP.alloc (T := 61) (t + 12) [encA .u8 (zA 8), [.int .i64 0], [.slice none 0 0], [.slice none 0 0]] [8, 1, 1, 1] (by kernel_rfl) (by simp [len_encA]) ?_
 intro g23 b9 st23 hB16
 replace hB4 := hB4.mono st23 (fun x => x)
 replace hR6 := hR6.mono st23 (fun x => x)
 replace hR7 := hR7.mono st23 (fun x => x)
 replace hB5 := hB5.mono st23 (fun x => x)
 replace hR8 := hR8.mono st23 (fun x => x)
 replace hR9 := hR9.mono st23 (fun x => x)
 replace hB8 := hB8.mono st23 (fun x => x)
 replace hR10 := hR10.mono st23 (fun x => x)
 replace hR11 := hR11.mono st23 (fun x => x)
 replace hB9 := hB9.mono st23 (fun x => x)
 replace hR12 := hR12.mono st23 (fun x => x)
 replace hR13 := hR13.mono st23 (fun x => x)
 replace hB12 := hB12.mono st23 (fun x => x)
 replace hR14 := hR14.mono st23 (fun x => x)
 replace hR15 := hR15.mono st23 (fun x => x)
 replace hB14 := hB14.mono st23 (fun x => x)
 replace hR16 := hR16.mono st23 (fun x => x)
 replace hR17 := hR17.mono st23 (fun x => x) (fun x => x)
 replace hR18 := hR18.mono st23 (fun x => x)
 replace hR19 := hR19.mono st23 (fun x => x)
 replace hR20 := hR20.mono st23 (fun x => x)
 replace hR21 := hR21.mono st23 (fun x => x)
 replace tot := tot.trans st23.pure
 refine WP.alloc (T := 65) (t + 13) [encA .u8 (zA 8), [.int .i64 0], [.slice none 0 0], [.slice none 0 0]] [8, 1, 1, 1] (by kernel_rfl) (by simp [len_encA]) ?_
 intro g24 b10 st24 hB17
 replace hB4 := hB4.mono st24 (fun x => x)
 replace hR6 := hR6.mono st24 (fun x => x)
 replace hR7 := hR7.mono st24 (fun x => x)
 replace hB5 := hB5.mono st24 (fun x => x)
 replace hR8 := hR8.mono st24 (fun x => x)
 replace hR9 := hR9.mono st24 (fun x => x)
 replace hB8 := hB8.mono st24 (fun x => x)
 replace hR10 := hR10.mono st24 (fun x => x)
 replace hR11 := hR11.mono st24 (fun x => x)
 replace hB9 := hB9.mono st24 (fun x => x)
 replace hR12 := hR12.mono st24 (fun x => x)
 replace hR13 := hR13.mono st24 (fun x => x)
 replace hB12 := hB12.mono st24 (fun x => x)
 replace hR14 := hR14.mono st24 (fun x => x)
 replace hR15 := hR15.mono st24 (fun x => x)
 replace hB14 := hB14.mono st24 (fun x => x)
 replace hR16 := hR16.mono st24 (fun x => x)
 replace hR17 := hR17.mono st24 (fun x => x) (fun x => x)
 replace hR18 := hR18.mono st24 (fun x => x)
 replace hR19 := hR19.mono st24 (fun x => x)
 replace hR20 := hR20.mono st24 (fun x => x)
 replace hR21 := hR21.mono st24 (fun x => x)
 replace hB16 := hB16.mono st24 (fun x => x)
 replace tot := tot.trans st24.pure
 refine WP.storeB (ty := 61) (off := 0) (v := AG [encA .u8 d10, [.int .i64 x12], [.slice a18 n18 c18], [.slice a19 n19 c19]]) hB16 [encA .u8 d10, [.int .i64 x12], [.slice a18 n18 c18], [.slice a19 n19 c19]] [8, 1, 1, 1] (by kernel_rfl) (by kernel_rfl) (by simp [len_encA]) (by kernel_rfl) [encA .u8 d10, [.int .i64 x12], [.slice a18 n18 c18], [.slice a19 n19 c19]] (by kernel_rfl) (.arr (.one rfl (.one rfl (.one rfl .nil)))) ?_
 intro g25 st25 hB18
 replace hB4 := hB4.mono st25 (WL.no1 (by omega))
 replace hR6 := hR6.mono st25 (WL.no1 (by omega))
 replace hR7 := hR7.mono st25 (WL.no1 (by omega))
 replace hB5 := hB5.mono st25 (WL.no1 (by omega))
 replace hR8 := hR8.mono st25 (WL.no1 (by omega))
 replace hR9 := hR9.mono st25 (WL.no1 (by omega))
 replace hB8 := hB8.mono st25 (WL.no1 (by omega))
 replace hR10 := hR10.mono st25 (WL.no1 (by omega))
 replace hR11 := hR11.mono st25 (WL.no1 (by omega))
 replace hB9 := hB9.mono st25 (WL.no1 (by omega))
 replace hR12 := hR12.mono st25 (WL.no1 (by omega))
 replace hR13 := hR13.mono st25 (WL.no1 (by omega))
 replace hB12 := hB12.mono st25 (WL.no1 (by omega))
 replace hR14 := hR14.mono st25 (WL.no1 (by omega))
 replace hR15 := hR15.mono st25 (WL.no1 (by omega))
 replace hB14 := hB14.mono st25 (WL.no1 (by omega))
 replace hR16 := hR16.mono st25 (WL.no1 (by omega))
 replace hR17 := hR17.mono st25 (WL.no1 (by omega)) (WL.no1 (by omega))
 replace hR18 := hR18.mono st25 (WL.no1 (by omega))
 replace hR19 := hR19.mono st25 (WL.no1 (by omega))
 replace hR20 := hR20.mono st25 (WL.no1 (by omega))
 replace hR21 := hR21.mono st25 (WL.no1 (by omega))
 replace hB17 := hB17.mono st25 (WL.no1 (by omega))
 replace tot := tot.trans (st25.up1 (.inr (by omega)))
 clear hB16
 have hB16 := hB18
 clear hB18
 refine WP.storeB (ty := 65) (off := 0) (v := AG [encA .u8 d11, [.int .i64 x13], [.slice a20 n20 c20], [.slice a21 n21 c21]]) hB17 [encA .u8 d11, [.int .i64 x13], [.slice a20 n20 c20], [.slice a21 n21 c21]] [8, 1, 1, 1] (by kernel_rfl) (by kernel_rfl) (by simp [len_encA]) (by kernel_rfl) [encA .u8 d11, [.int .i64 x13], [.slice a20 n20 c20], [.slice a21 n21 c21]] (by kernel_rfl) (.arr (.one rfl (.one rfl (.one rfl .nil)))) ?_
 intro g26 st26 hB19
 replace hB4 := hB4.mono st26 (WL.no1 (by omega))
 replace hR6 := hR6.mono st26 (WL.no1 (by omega))
 replace hR7 := hR7.mono st26 (WL.no1 (by omega))
 replace hB5 := hB5.mono st26 (WL.no1 (by omega))
 replace hR8 := hR8.mono st26 (WL.no1 (by omega))
 replace hR9 := hR9.mono st26 (WL.no1 (by omega))
 replace hB8 := hB8.mono st26 (WL.no1 (by omega))
 replace hR10 := hR10.mono st26 (WL.no1 (by omega))
 replace hR11 := hR11.mono st26 (WL.no1 (by omega))
 replace hB9 := hB9.mono st26 (WL.no1 (by omega))
 replace hR12 := hR12.mono st26 (WL.no1 (by omega))
 replace hR13 := hR13.mono st26 (WL.no1 (by omega))
 replace hB12 := hB12.mono st26 (WL.no1 (by omega))
 replace hR14 := hR14.mono st26 (WL.no1 (by omega))
 replace hR15 := hR15.mono st26 (WL.no1 (by omega))
 replace hB14 := hB14.mono st26 (WL.no1 (by omega))
 replace hR16 := hR16.mono st26 (WL.no1 (by omega))
 replace hR17 := hR17.mono st26 (WL.no1 (by omega)) (WL.no1 (by omega))
 replace hR18 := hR18.mono st26 (WL.no1 (by omega))
 replace hR19 := hR19.mono st26 (WL.no1 (by omega))
 replace hR20 := hR20.mono st26 (WL.no1 (by omega))
 replace hR21 := hR21.mono st26 (WL.no1 (by omega))
 replace hB16 := hB16.mono st26 (WL.no1 (by omega))
 replace tot := tot.trans (st26.up1 (.inr (by omega)))
 clear hB17
 have hB17 := hB19
 clear hB19
 refine WP.dn ?_
 refine NX.then_n ?_
 refine CP.cut (fun tm g => ∃ (q7 : Bool), Fr 73 [(6, .bool q7)] tm ∧ Step (fun l => NoM l ∨ t ≤ l) g0 g ∧ (F.baizelaw32_StateJoins.c2 q7) = some o1) ?_ ?_
 ·replace hs := Option.bind_eq_some_iff.1 hs
  obtain ⟨q8, hk11, hs⟩ := hs
  refine bool_split (b := q8) (fun h6 => ?_) (fun h6 => ?_)
  ·replace hs := of_if_t hs h6
   refine bool_split (b := (x9 == x11)) (fun h7 => ?_) (fun h7 => ?_)
   ·replace hs := of_if_t hs h7
    replace hs := Option.bind_eq_some_iff.1 hs
    obtain ⟨q9, hk12, hs⟩ := hs
    refine bool_split (b := q9) (fun h8 => ?_) (fun h8 => ?_)
    ·replace hs := of_if_t hs h8
     replace hs := Option.bind_eq_some_iff.1 hs
     obtain ⟨q10, hk13, hs⟩ := hs
     replace hs := Option.bind_eq_some_iff.1 hs
     obtain ⟨q11, hk14, hs⟩ := hs
     refine bool_split (b := (q10 == q11)) (fun h9 => ?_) (fun h9 => ?_)
     ·replace hs := of_if_t hs h9
      replace hs := Option.bind_eq_some_iff.1 hs
      obtain ⟨q12, hk15, hs⟩ := hs
      refine CP.drawL (by kernel_rfl) [0, 1, 6, 7, 8, 9, 11, 12, 13, 14, 15, 16, 17, 20, 21, 22, 23] N.baizelaw32_StateJoins_0 [⟨none, [], [], fun l g => Box g (t + 3) b3 61 [encA .u8 d4, [.int .i64 x4], [.slice a6 n6 c6], [.slice a7 n7 c7]] [8, 1, 1, 1]⟩, ⟨none, [], [], fun l g => RdS (Kd.int .u8) g 5 a6 n6 c6 l6⟩, ⟨none, [], [], fun l g => RdS (Kd.slice 5 (Kd.int .u8)) g 24 a7 n7 c7 l7⟩, ⟨none, [], [], fun l g => Box g (t + 4) b4 65 [encA .u8 d5, [.int .i64 x5], [.slice a8 n8 c8], [.slice a9 n9 c9]] [8, 1, 1, 1]⟩, ⟨none, [], [], fun l g => RdS (Kd.int .u8) g 5 a8 n8 c8 l8⟩, ⟨none, [], [], fun l g => RdS (Kd.slice 5 (Kd.int .u8)) g 24 a9 n9 c9 l9⟩, ⟨none, [], [], fun l g => Box g (t + 5) b5 61 [encA .u8 d6, [.int .i64 x6], [.slice a10 n10 c10], [.slice a11 n11 c11]] [8, 1, 1, 1]⟩, ⟨none, [], [], fun l g => RdS (Kd.int .u8) g 5 a10 n10 c10 l10⟩, ⟨none, [], [], fun l g => RdS (Kd.slice 5 (Kd.int .u8)) g 24 a11 n11 c11 l11⟩, ⟨none, [], [], fun l g => Box g (t + 6) b6 65 [encA .u8 d7, [.int .i64 x7], [.slice a12 n12 c12], [.slice a13 n13 c13]] [8, 1, 1, 1]⟩, ⟨none, [], [], fun l g => RdS (Kd.int .u8) g 5 a12 n12 c12 l12⟩, ⟨none, [], [], fun l g => RdS (Kd.slice 5 (Kd.int .u8)) g 24 a13 n13 c13 l13⟩, ⟨none, [], [], fun l g => Box g (t + 11) b8 65 [encA .u8 d9, [.int .i64 x10], [.slice a16 n16 c16], [.slice a17 n17 c17]] [8, 1, 1, 1]⟩, ⟨none, [], [], fun l g => RdS (Kd.int .u8) g 5 a16 n16 c16 l16⟩, ⟨none, [0], [], fun l g => OwnS (Kd.slice 5 (Kd.int .u8)) g (t + 10) 24 a17 n17 c17 l17⟩, ⟨none, [], [], fun l g => Box g (t + 13) b10 65 [encA .u8 d11, [.int .i64 x13], [.slice a20 n20 c20], [.slice a21 n21 c21]] [8, 1, 1, 1]⟩, ⟨none, [], [], fun l g => RdS (Kd.int .u8) g 5 a20 n20 c20 l20⟩, ⟨none, [], [], fun l g => RdS (Kd.slice 5 (Kd.int .u8)) g 24 a21 n21 c21 l21⟩, ⟨some 0, [], [0], fun l g => l.getD 0 undef = .bool q8⟩, ⟨some 1, [], [1], fun l g => l.getD 0 undef = .bool true⟩, ⟨some 2, [], [2], fun l g => l.getD 0 undef = .bool true⟩, ⟨some 3, [], [3], fun l g => l.getD 0 undef = AG [encA .u8 d11, [.int .i64 x13], [.slice a20 n20 c20], [.slice a21 n21 c21]]⟩, ⟨some 4, [], [4], fun l g => l.getD 0 undef = AG [encA .u8 d9, [.int .i64 x10], [.slice a16 n16 c16], [.slice a17 n17 c17]]⟩, ⟨some 5, [], [5], fun l g => l.getD 0 undef = .bool q9⟩, ⟨some 5, [0], [], fun l g => OwnS (Kd.slice 5 (Kd.int .u8)) g (t + 10) 24 a17 n17 c17 l17⟩, ⟨some 6, [], [6], fun l g => l.getD 0 undef = .bool true⟩, ⟨some 7, [], [7], fun l g => l.getD 0 undef = AG [encA .u8 d4, [.int .i64 x4], [.slice a6 n6 c6], [.slice a7 n7 c7]]⟩, ⟨some 8, [], [8], fun l g => l.getD 0 undef = AG [encA .u8 d6, [.int .i64 x6], [.slice a10 n10 c10], [.slice a11 n11 c11]]⟩, ⟨some 9, [], [9], fun l g => l.getD 0 undef = .bool q10⟩, ⟨some 10, [], [10], fun l g => l.getD 0 undef = AG [encA .u8 d5, [.int .i64 x5], [.slice a8 n8 c8], [.slice a9 n9 c9]]⟩, ⟨some 11, [], [11], fun l g => l.getD 0 undef = AG [encA .u8 d7, [.int .i64 x7], [.slice a12 n12 c12], [.slice a13 n13 c13]]⟩, ⟨some 12, [], [12], fun l g => l.getD 0 undef = .bool q11⟩, ⟨some 13, [], [13], fun l g => l.getD 0 undef = .bool true⟩, ⟨some 14, [], [14], fun l g => l.getD 0 undef = AG [encA .u8 d4, [.int .i64 x4], [.slice a6 n6 c6], [.slice a7 n7 c7]]⟩, ⟨some 15, [], [15], fun l g => l.getD 0 undef = AG [encA .u8 d4, [.int .i64 x4], [.slice a6 n6 c6], [.slice a7 n7 c7]]⟩, ⟨some 16, [], [16], fun l g => l.getD 0 undef = .bool q12⟩] [[], [], [], [], [], [0], [], [], [], [], [], [], [], [], [], [], []] [(t + 10)] [] [2, 3, 4, 5, 10, 18, 19, 24, 25] (by kernel_rfl) (by simp <;> omega) (by simp) ⟨fun _ _ _ _ st h0 hl hj hB4 => (hB4.mono st (fun h => absurd (hl _ h) (by simp <;> omega))), fun _ _ _ _ st h0 hl hj hR6 => (RdS.mono (e := 5) hR6 st h0), fun _ _ _ _ st h0 hl hj hR7 => (RdS.mono (e := 24) hR7 st h0), fun _ _ _ _ st h0 hl hj hB5 => (hB5.mono st (fun h => absurd (hl _ h) (by simp <;> omega))), fun _ _ _ _ st h0 hl hj hR8 => (RdS.mono (e := 5) hR8 st h0), fun _ _ _ _ st h0 hl hj hR9 => (RdS.mono (e := 24) hR9 st h0), fun _ _ _ _ st h0 hl hj hB8 => (hB8.mono st (fun h => absurd (hl _ h) (by simp <;> omega))), fun _ _ _ _ st h0 hl hj hR10 => (RdS.mono (e := 5) hR10 st h0), fun _ _ _ _ st h0 hl hj hR11 => (RdS.mono (e := 24) hR11 st h0), fun _ _ _ _ st h0 hl hj hB9 => (hB9.mono st (fun h => absurd (hl _ h) (by simp <;> omega))), fun _ _ _ _ st h0 hl hj hR12 => (RdS.mono (e := 5) hR12 st h0), fun _ _ _ _ st h0 hl hj hR13 => (RdS.mono (e := 24) hR13 st h0), fun _ _ _ _ st h0 hl hj hB14 => (hB14.mono st (fun h => absurd (hl _ h) (by simp <;> omega))), fun _ _ _ _ st h0 hl hj hR16 => (RdS.mono (e := 5) hR16 st h0), fun _ _ _ _ st h0 hl hj hR17 => (hR17.mono st h0 (hj 0 (by simp) _ rfl)), fun _ _ _ _ st h0 hl hj hB17 => (hB17.mono st (fun h => absurd (hl _ h) (by simp <;> omega))), fun _ _ _ _ st h0 hl hj hR20 => (RdS.mono (e := 5) hR20 st h0), fun _ _ _ _ st h0 hl hj hR21 => (RdS.mono (e := 24) hR21 st h0), fun _ _ _ _ st h0 hl hj e0 => e0, fun _ _ _ _ st h0 hl hj e1 => e1, fun _ _ _ _ st h0 hl hj e2 => e2, fun _ _ _ _ st h0 hl hj e3 => e3, fun _ _ _ _ st h0 hl hj e4 => e4, fun _ _ _ _ st h0 hl hj e5 => e5, fun _ _ _ _ st h0 hl hj hR17 => (hR17.mono st h0 (hj 0 (by simp) _ rfl)), fun _ _ _ _ st h0 hl hj e6 => e6, fun _ _ _ _ st h0 hl hj e7 => e7, fun _ _ _ _ st h0 hl hj e8 => e8, fun _ _ _ _ st h0 hl hj e9 => e9, fun _ _ _ _ st h0 hl hj e10 => e10, fun _ _ _ _ st h0 hl hj e11 => e11, fun _ _ _ _ st h0 hl hj e12 => e12, fun _ _ _ _ st h0 hl hj e13 => e13, fun _ _ _ _ st h0 hl hj e14 => e14, fun _ _ _ _ st h0 hl hj e15 => e15, fun _ _ _ _ st h0 hl hj e16 => e16, tv⟩ ⟨hB4, hR6, hR7, hB5, hR8, hR9, hB8, hR10, hR11, hB9, hR12, hR13, hB14, hR16, hR17, hB17, hR20, hR21, tv, tv, tv, tv, tv, tv, tv, tv, tv, tv, tv, tv, tv, tv, tv, tv, tv, tv, tv⟩ (by kernel_rfl) (fun vs => by kernel_rfl) ?_ ?_ ?_
      ·intro j hj
       have hq : j = 0 ∨ j = 1 ∨ j = 2 ∨ j = 3 ∨ j = 4 ∨ j = 5 ∨ j = 6 ∨ j = 7 ∨ j = 8 := by have h : j < 9 := hj; omega
       rcases hq with rfl | rfl | rfl | rfl | rfl | rfl | rfl | rfl | rfl
       ·intro vs gq stq hl hf
        obtain ⟨v0, v1, v2, v3, v4, v5, v6, v7, v8, v9, v10, v11, v12, v13, v14, v15, v16, rfl⟩ := len_k17 hl
        have e1 := (show v1 = .bool true from hf _ (memI 19 rfl) (by kernel_rfl))
        subst e1
        show Option.isSome _ = true
        kernel_rfl
       ·intro vs gq stq hl hf
        obtain ⟨v0, v1, v2, v3, v4, v5, v6, v7, v8, v9, v10, v11, v12, v13, v14, v15, v16, rfl⟩ := len_k17 hl
        have e1 := (show v1 = .bool true from hf _ (memI 19 rfl) (by kernel_rfl))
        subst e1
        show Option.isSome _ = true
        kernel_rfl
       ·intro vs gq stq hl hf
        obtain ⟨v0, v1, v2, v3, v4, v5, v6, v7, v8, v9, v10, v11, v12, v13, v14, v15, v16, rfl⟩ := len_k17 hl
        have e1 := (show v1 = .bool true from hf _ (memI 19 rfl) (by kernel_rfl))
        subst e1
        show Option.isSome _ = true
        kernel_rfl
       ·intro vs gq stq hl hf
        obtain ⟨v0, v1, v2, v3, v4, v5, v6, v7, v8, v9, v10, v11, v12, v13, v14, v15, v16, rfl⟩ := len_k17 hl
        have e1 := (show v1 = .bool true from hf _ (memI 19 rfl) (by kernel_rfl))
        subst e1
        show Option.isSome _ = true
        kernel_rfl
       ·intro vs gq stq hl hf
        obtain ⟨v0, v1, v2, v3, v4, v5, v6, v7, v8, v9, v10, v11, v12, v13, v14, v15, v16, rfl⟩ := len_k17 hl
        have e2 := (show v2 = .bool true from hf _ (memI 20 rfl) (by kernel_rfl))
        subst e2
        have e5 := (show v5 = .bool q9 from hf _ (memI 23 rfl) (by kernel_rfl))
        subst e5
        show Option.isSome _ = true
        kernel_rfl
       ·intro vs gq stq hl hf
        obtain ⟨v0, v1, v2, v3, v4, v5, v6, v7, v8, v9, v10, v11, v12, v13, v14, v15, v16, rfl⟩ := len_k17 hl
        have e6 := (show v6 = .bool true from hf _ (memI 25 rfl) (by kernel_rfl))
        subst e6
        have e9 := (show v9 = .bool q10 from hf _ (memI 28 rfl) (by kernel_rfl))
        subst e9
        have e12 := (show v12 = .bool q11 from hf _ (memI 31 rfl) (by kernel_rfl))
        subst e12
        show Option.isSome _ = true
        kernel_rfl
       ·intro vs gq stq hl hf
        obtain ⟨v0, v1, v2, v3, v4, v5, v6, v7, v8, v9, v10, v11, v12, v13, v14, v15, v16, rfl⟩ := len_k17 hl
        have e6 := (show v6 = .bool true from hf _ (memI 25 rfl) (by kernel_rfl))
        subst e6
        have e9 := (show v9 = .bool q10 from hf _ (memI 28 rfl) (by kernel_rfl))
        subst e9
        have e12 := (show v12 = .bool q11 from hf _ (memI 31 rfl) (by kernel_rfl))
        subst e12
        show Option.isSome _ = true
        kernel_rfl
       ·intro vs gq stq hl hf
        obtain ⟨v0, v1, v2, v3, v4, v5, v6, v7, v8, v9, v10, v11, v12, v13, v14, v15, v16, rfl⟩ := len_k17 hl
        have e13 := (show v13 = .bool true from hf _ (memI 32 rfl) (by kernel_rfl))
        subst e13
        have e16 := (show v16 = .bool q12 from hf _ (memI 35 rfl) (by kernel_rfl))
        subst e16
        show Option.isSome _ = true
        kernel_rfl
       ·intro vs gq stq hl hf
        obtain ⟨v0, v1, v2, v3, v4, v5, v6, v7, v8, v9, v10, v11, v12, v13, v14, v15, v16, rfl⟩ := len_k17 hl
        have e13 := (show v13 = .bool true from hf _ (memI 32 rfl) (by kernel_rfl))
        subst e13
        have e16 := (show v16 = .bool q12 from hf _ (memI 35 rfl) (by kernel_rfl))
        subst e16
        show Option.isSome _ = true
        kernel_rfl
      ·intro j hj
       have hq : j = 0 ∨ j = 1 ∨ j = 2 ∨ j = 3 ∨ j = 4 ∨ j = 5 ∨ j = 6 ∨ j = 7 ∨ j = 8 ∨ j = 9 ∨ j = 10 ∨ j = 11 ∨ j = 12 ∨ j = 13 ∨ j = 14 ∨ j = 15 ∨ j = 16 := by have h : j < 17 := hj; omega
       rcases hq with rfl | rfl | rfl | rfl | rfl | rfl | rfl | rfl | rfl | rfl | rfl | rfl | rfl | rfl | rfl | rfl | rfl
       ·intro vs gq stq hl hf
        obtain ⟨v0, v1, v2, v3, v4, v5, v6, v7, v8, v9, v10, v11, v12, v13, v14, v15, v16, rfl⟩ := len_k17 hl
        have hcal11 := P.baizelaw32_told gq q8 hk11
        refine WP.callC hcal11 (by kernel_rfl) ?_
        rintro _ g33 st33 rfl
        refine WP.dn (Shown.o (v := .bool q8) st33.pure ?_)
        exact ⟨tv, tv, tv, tv, tv, tv, tv, tv, tv, tv, tv, tv, tv, tv, tv, tv, tv, tv, rfl, tv, tv, tv, tv, tv, tv, tv, tv, tv, tv, tv, tv, tv, tv, tv, tv, tv, tv⟩
       ·intro vs gq stq hl hf
        obtain ⟨v0, v1, v2, v3, v4, v5, v6, v7, v8, v9, v10, v11, v12, v13, v14, v15, v16, rfl⟩ := len_k17 hl
        have e0 := (show v0 = .bool q8 from hf _ (memI 18 rfl) (by kernel_rfl))
        subst e0
        refine WP.stl 1 ?_
        refine WP.dn (Shown.ok (v := .bool q8) (by kernel_rfl) (Step.refl _ _) ?_)
        exact ⟨tv, tv, tv, tv, tv, tv, tv, tv, tv, tv, tv, tv, tv, tv, tv, tv, tv, tv, tv, congrArg Value.bool h6, tv, tv, tv, tv, tv, tv, tv, tv, tv, tv, tv, tv, tv, tv, tv, tv, tv⟩
       ·intro vs gq stq hl hf
        obtain ⟨v0, v1, v2, v3, v4, v5, v6, v7, v8, v9, v10, v11, v12, v13, v14, v15, v16, rfl⟩ := len_k17 hl
        have e1 := (show v1 = .bool true from hf _ (memI 19 rfl) (by kernel_rfl))
        subst e1
        refine WP.stl 1 ?_
        refine WP.dn (Shown.ok (v := .bool (x9 == x11)) (by kernel_rfl) (Step.refl _ _) ?_)
        exact ⟨tv, tv, tv, tv, tv, tv, tv, tv, tv, tv, tv, tv, tv, tv, tv, tv, tv, tv, tv, tv, congrArg Value.bool h7, tv, tv, tv, tv, tv, tv, tv, tv, tv, tv, tv, tv, tv, tv, tv, tv⟩
       ·intro vs gq stq hl hf
        obtain ⟨v0, v1, v2, v3, v4, v5, v6, v7, v8, v9, v10, v11, v12, v13, v14, v15, v16, rfl⟩ := len_k17 hl
        have hB17 := (show Box gq (t + 13) b10 65 [encA .u8 d11, [.int .i64 x13], [.slice a20 n20 c20], [.slice a21 n21 c21]] [8, 1, 1, 1] from hf _ (memI 15 rfl) (by kernel_rfl))
        have e2 := (show v2 = .bool true from hf _ (memI 20 rfl) (by kernel_rfl))
        subst e2
        refine WP.loadB (v := AG [encA .u8 d11, [.int .i64 x13], [.slice a20 n20 c20], [.slice a21 n21 c21]]) hB17 (by kernel_rfl) (by kernel_rfl) ?_
        refine WP.dn (Shown.ok (v := AG [encA .u8 d11, [.int .i64 x13], [.slice a20 n20 c20], [.slice a21 n21 c21]]) (by kernel_rfl) (Step.refl _ _) ?_)
        exact ⟨tv, tv, tv, tv, tv, tv, tv, tv, tv, tv, tv, tv, tv, tv, tv, tv, tv, tv, tv, tv, tv, rfl, tv, tv, tv, tv, tv, tv, tv, tv, tv, tv, tv, tv, tv, tv, tv⟩
       ·intro vs gq stq hl hf
        obtain ⟨v0, v1, v2, v3, v4, v5, v6, v7, v8, v9, v10, v11, v12, v13, v14, v15, v16, rfl⟩ := len_k17 hl
        have hB14 := (show Box gq (t + 11) b8 65 [encA .u8 d9, [.int .i64 x10], [.slice a16 n16 c16], [.slice a17 n17 c17]] [8, 1, 1, 1] from hf _ (memI 12 rfl) (by kernel_rfl))
        have e2 := (show v2 = .bool true from hf _ (memI 20 rfl) (by kernel_rfl))
        subst e2
        refine WP.loadB (v := AG [encA .u8 d9, [.int .i64 x10], [.slice a16 n16 c16], [.slice a17 n17 c17]]) hB14 (by kernel_rfl) (by kernel_rfl) ?_
        refine WP.dn (Shown.ok (v := AG [encA .u8 d9, [.int .i64 x10], [.slice a16 n16 c16], [.slice a17 n17 c17]]) (by kernel_rfl) (Step.refl _ _) ?_)
        exact ⟨tv, tv, tv, tv, tv, tv, tv, tv, tv, tv, tv, tv, tv, tv, tv, tv, tv, tv, tv, tv, tv, tv, rfl, tv, tv, tv, tv, tv, tv, tv, tv, tv, tv, tv, tv, tv, tv⟩
       ·intro vs gq stq hl hf
        obtain ⟨v0, v1, v2, v3, v4, v5, v6, v7, v8, v9, v10, v11, v12, v13, v14, v15, v16, rfl⟩ := len_k17 hl
        have hR16 := (show RdS (Kd.int .u8) gq 5 a16 n16 c16 l16 from hf _ (memI 13 rfl) (by kernel_rfl))
        have hR17 := (show OwnS (Kd.slice 5 (Kd.int .u8)) gq (t + 10) 24 a17 n17 c17 l17 from hf _ (memI 14 rfl) (by kernel_rfl))
        have hR20 := (show RdS (Kd.int .u8) gq 5 a20 n20 c20 l20 from hf _ (memI 16 rfl) (by kernel_rfl))
        have hR21 := (show RdS (Kd.slice 5 (Kd.int .u8)) gq 24 a21 n21 c21 l21 from hf _ (memI 17 rfl) (by kernel_rfl))
        have e2 := (show v2 = .bool true from hf _ (memI 20 rfl) (by kernel_rfl))
        subst e2
        have e3 := (show v3 = AG [encA .u8 d11, [.int .i64 x13], [.slice a20 n20 c20], [.slice a21 n21 c21]] from hf _ (memI 21 rfl) (by kernel_rfl))
        subst e3
        have e4 := (show v4 = AG [encA .u8 d9, [.int .i64 x10], [.slice a16 n16 c16], [.slice a17 n17 c17]] from hf _ (memI 22 rfl) (by kernel_rfl))
        subst e4
        have hS2 : 0 ∉ ([(t + 10)] : List Nat) := by simp <;> omega
        have stl2 := GW.lend_step gq [(t + 10)]
        have hRl2 := hR17.lendTo hS2 (by simp)
        refine WP.regw (g' := GW.lend gq [(t + 10)]) rfl ?_
        have hcal12 := P.baizeref32_Same (GW.lend gq [(t + 10)]) d11 x13 l20 l21 d9 x10 l16 l17 a20 n20 c20 a21 n21 c21 a16 n16 c16 a17 n17 c17 (hR20.mono stl2 (WL.no (by simp <;> omega))) (hR21.mono stl2 (WL.no (by simp <;> omega))) (hR16.mono stl2 (WL.no (by simp <;> omega))) hRl2 q9 hk12
        refine WP.callC hcal12 (by kernel_rfl) ?_
        rintro _ g34 st34 rfl
        have st35 := (GW.back_step st34).lentS
        have hO2 := hR17.backTo hS2 (by simp) st34 (fun x => x)
        refine WP.regw (g' := GW.back gq g34 [(t + 10)]) rfl ?_
        generalize GW.back gq g34 [(t + 10)] = g35 at *
        refine WP.dn (Shown.o (v := .bool q9) st35 ?_)
        exact ⟨tv, tv, tv, tv, tv, tv, tv, tv, tv, tv, tv, tv, tv, tv, tv, tv, tv, tv, tv, tv, tv, tv, tv, rfl, hO2, tv, tv, tv, tv, tv, tv, tv, tv, tv, tv, tv, tv⟩
       ·intro vs gq stq hl hf
        obtain ⟨v0, v1, v2, v3, v4, v5, v6, v7, v8, v9, v10, v11, v12, v13, v14, v15, v16, rfl⟩ := len_k17 hl
        have e2 := (show v2 = .bool true from hf _ (memI 20 rfl) (by kernel_rfl))
        subst e2
        have e5 := (show v5 = .bool q9 from hf _ (memI 23 rfl) (by kernel_rfl))
        subst e5
        refine WP.stl 1 ?_
        refine WP.dn (Shown.ok (v := .bool q9) (by kernel_rfl) (Step.refl _ _) ?_)
        exact ⟨tv, tv, tv, tv, tv, tv, tv, tv, tv, tv, tv, tv, tv, tv, tv, tv, tv, tv, tv, tv, tv, tv, tv, tv, tv, congrArg Value.bool h8, tv, tv, tv, tv, tv, tv, tv, tv, tv, tv, tv⟩
       ·intro vs gq stq hl hf
        obtain ⟨v0, v1, v2, v3, v4, v5, v6, v7, v8, v9, v10, v11, v12, v13, v14, v15, v16, rfl⟩ := len_k17 hl
        have hB4 := (show Box gq (t + 3) b3 61 [encA .u8 d4, [.int .i64 x4], [.slice a6 n6 c6], [.slice a7 n7 c7]] [8, 1, 1, 1] from hf _ (memI 0 rfl) (by kernel_rfl))
        have e6 := (show v6 = .bool true from hf _ (memI 25 rfl) (by kernel_rfl))
        subst e6
        refine WP.loadB (v := AG [encA .u8 d4, [.int .i64 x4], [.slice a6 n6 c6], [.slice a7 n7 c7]]) hB4 (by kernel_rfl) (by kernel_rfl) ?_
        refine WP.dn (Shown.ok (v := AG [encA .u8 d4, [.int .i64 x4], [.slice a6 n6 c6], [.slice a7 n7 c7]]) (by kernel_rfl) (Step.refl _ _) ?_)
        exact ⟨tv, tv, tv, tv, tv, tv, tv, tv, tv, tv, tv, tv, tv, tv, tv, tv, tv, tv, tv, tv, tv, tv, tv, tv, tv, tv, rfl, tv, tv, tv, tv, tv, tv, tv, tv, tv, tv⟩
       ·intro vs gq stq hl hf
        obtain ⟨v0, v1, v2, v3, v4, v5, v6, v7, v8, v9, v10, v11, v12, v13, v14, v15, v16, rfl⟩ := len_k17 hl
        have hB8 := (show Box gq (t + 5) b5 61 [encA .u8 d6, [.int .i64 x6], [.slice a10 n10 c10], [.slice a11 n11 c11]] [8, 1, 1, 1] from hf _ (memI 6 rfl) (by kernel_rfl))
        have e6 := (show v6 = .bool true from hf _ (memI 25 rfl) (by kernel_rfl))
        subst e6
        refine WP.loadB (v := AG [encA .u8 d6, [.int .i64 x6], [.slice a10 n10 c10], [.slice a11 n11 c11]]) hB8 (by kernel_rfl) (by kernel_rfl) ?_
        refine WP.dn (Shown.ok (v := AG [encA .u8 d6, [.int .i64 x6], [.slice a10 n10 c10], [.slice a11 n11 c11]]) (by kernel_rfl) (Step.refl _ _) ?_)
        exact ⟨tv, tv, tv, tv, tv, tv, tv, tv, tv, tv, tv, tv, tv, tv, tv, tv, tv, tv, tv, tv, tv, tv, tv, tv, tv, tv, tv, rfl, tv, tv, tv, tv, tv, tv, tv, tv, tv⟩
       ·intro vs gq stq hl hf
        obtain ⟨v0, v1, v2, v3, v4, v5, v6, v7, v8, v9, v10, v11, v12, v13, v14, v15, v16, rfl⟩ := len_k17 hl
        have hR6 := (show RdS (Kd.int .u8) gq 5 a6 n6 c6 l6 from hf _ (memI 1 rfl) (by kernel_rfl))
        have hR7 := (show RdS (Kd.slice 5 (Kd.int .u8)) gq 24 a7 n7 c7 l7 from hf _ (memI 2 rfl) (by kernel_rfl))
        have hR10 := (show RdS (Kd.int .u8) gq 5 a10 n10 c10 l10 from hf _ (memI 7 rfl) (by kernel_rfl))
        have hR11 := (show RdS (Kd.slice 5 (Kd.int .u8)) gq 24 a11 n11 c11 l11 from hf _ (memI 8 rfl) (by kernel_rfl))
        have e6 := (show v6 = .bool true from hf _ (memI 25 rfl) (by kernel_rfl))
        subst e6
        have e7 := (show v7 = AG [encA .u8 d4, [.int .i64 x4], [.slice a6 n6 c6], [.slice a7 n7 c7]] from hf _ (memI 26 rfl) (by kernel_rfl))
        subst e7
        have e8 := (show v8 = AG [encA .u8 d6, [.int .i64 x6], [.slice a10 n10 c10], [.slice a11 n11 c11]] from hf _ (memI 27 rfl) (by kernel_rfl))
        subst e8
        have hcal13 := P.state_Signed_Same gq d4 x4 l6 l7 d6 x6 l10 l11 a6 n6 c6 a7 n7 c7 a10 n10 c10 a11 n11 c11 hR6 hR7 hR10 hR11 q10 hk13
        refine WP.callC hcal13 (by kernel_rfl) ?_
        rintro _ g36 st36 rfl
        refine WP.dn (Shown.o (v := .bool q10) st36.pure ?_)
        exact ⟨tv, tv, tv, tv, tv, tv, tv, tv, tv, tv, tv, tv, tv, tv, tv, tv, tv, tv, tv, tv, tv, tv, tv, tv, tv, tv, tv, tv, rfl, tv, tv, tv, tv, tv, tv, tv, tv⟩
       ·intro vs gq stq hl hf
        obtain ⟨v0, v1, v2, v3, v4, v5, v6, v7, v8, v9, v10, v11, v12, v13, v14, v15, v16, rfl⟩ := len_k17 hl
        have hB5 := (show Box gq (t + 4) b4 65 [encA .u8 d5, [.int .i64 x5], [.slice a8 n8 c8], [.slice a9 n9 c9]] [8, 1, 1, 1] from hf _ (memI 3 rfl) (by kernel_rfl))
        have e6 := (show v6 = .bool true from hf _ (memI 25 rfl) (by kernel_rfl))
        subst e6
        refine WP.loadB (v := AG [encA .u8 d5, [.int .i64 x5], [.slice a8 n8 c8], [.slice a9 n9 c9]]) hB5 (by kernel_rfl) (by kernel_rfl) ?_
        refine WP.dn (Shown.ok (v := AG [encA .u8 d5, [.int .i64 x5], [.slice a8 n8 c8], [.slice a9 n9 c9]]) (by kernel_rfl) (Step.refl _ _) ?_)
        exact ⟨tv, tv, tv, tv, tv, tv, tv, tv, tv, tv, tv, tv, tv, tv, tv, tv, tv, tv, tv, tv, tv, tv, tv, tv, tv, tv, tv, tv, tv, rfl, tv, tv, tv, tv, tv, tv, tv⟩
       ·intro vs gq stq hl hf
        obtain ⟨v0, v1, v2, v3, v4, v5, v6, v7, v8, v9, v10, v11, v12, v13, v14, v15, v16, rfl⟩ := len_k17 hl
        have hB9 := (show Box gq (t + 6) b6 65 [encA .u8 d7, [.int .i64 x7], [.slice a12 n12 c12], [.slice a13 n13 c13]] [8, 1, 1, 1] from hf _ (memI 9 rfl) (by kernel_rfl))
        have e6 := (show v6 = .bool true from hf _ (memI 25 rfl) (by kernel_rfl))
        subst e6
        refine WP.loadB (v := AG [encA .u8 d7, [.int .i64 x7], [.slice a12 n12 c12], [.slice a13 n13 c13]]) hB9 (by kernel_rfl) (by kernel_rfl) ?_
        refine WP.dn (Shown.ok (v := AG [encA .u8 d7, [.int .i64 x7], [.slice a12 n12 c12], [.slice a13 n13 c13]]) (by kernel_rfl) (Step.refl _ _) ?_)
        exact ⟨tv, tv, tv, tv, tv, tv, tv, tv, tv, tv, tv, tv, tv, tv, tv, tv, tv, tv, tv, tv, tv, tv, tv, tv, tv, tv, tv, tv, tv, tv, rfl, tv, tv, tv, tv, tv, tv⟩
       ·intro vs gq stq hl hf
        obtain ⟨v0, v1, v2, v3, v4, v5, v6, v7, v8, v9, v10, v11, v12, v13, v14, v15, v16, rfl⟩ := len_k17 hl
        have hR8 := (show RdS (Kd.int .u8) gq 5 a8 n8 c8 l8 from hf _ (memI 4 rfl) (by kernel_rfl))
        have hR9 := (show RdS (Kd.slice 5 (Kd.int .u8)) gq 24 a9 n9 c9 l9 from hf _ (memI 5 rfl) (by kernel_rfl))
        have hR12 := (show RdS (Kd.int .u8) gq 5 a12 n12 c12 l12 from hf _ (memI 10 rfl) (by kernel_rfl))
        have hR13 := (show RdS (Kd.slice 5 (Kd.int .u8)) gq 24 a13 n13 c13 l13 from hf _ (memI 11 rfl) (by kernel_rfl))
        have e6 := (show v6 = .bool true from hf _ (memI 25 rfl) (by kernel_rfl))
        subst e6
        have e10 := (show v10 = AG [encA .u8 d5, [.int .i64 x5], [.slice a8 n8 c8], [.slice a9 n9 c9]] from hf _ (memI 29 rfl) (by kernel_rfl))
        subst e10
        have e11 := (show v11 = AG [encA .u8 d7, [.int .i64 x7], [.slice a12 n12 c12], [.slice a13 n13 c13]] from hf _ (memI 30 rfl) (by kernel_rfl))
        subst e11
        have hcal14 := P.baizeref32_Same gq d5 x5 l8 l9 d7 x7 l12 l13 a8 n8 c8 a9 n9 c9 a12 n12 c12 a13 n13 c13 hR8 hR9 hR12 hR13 q11 hk14
        refine WP.callC hcal14 (by kernel_rfl) ?_
        rintro _ g37 st37 rfl
        refine WP.dn (Shown.o (v := .bool q11) st37.pure ?_)
        exact ⟨tv, tv, tv, tv, tv, tv, tv, tv, tv, tv, tv, tv, tv, tv, tv, tv, tv, tv, tv, tv, tv, tv, tv, tv, tv, tv, tv, tv, tv, tv, tv, rfl, tv, tv, tv, tv, tv⟩
       ·intro vs gq stq hl hf
        obtain ⟨v0, v1, v2, v3, v4, v5, v6, v7, v8, v9, v10, v11, v12, v13, v14, v15, v16, rfl⟩ := len_k17 hl
        have e6 := (show v6 = .bool true from hf _ (memI 25 rfl) (by kernel_rfl))
        subst e6
        have e9 := (show v9 = .bool q10 from hf _ (memI 28 rfl) (by kernel_rfl))
        subst e9
        have e12 := (show v12 = .bool q11 from hf _ (memI 31 rfl) (by kernel_rfl))
        subst e12
        refine WP.stl 1 ?_
        refine WP.dn (Shown.ok (v := .bool (q10 == q11)) (by kernel_rfl) (Step.refl _ _) ?_)
        exact ⟨tv, tv, tv, tv, tv, tv, tv, tv, tv, tv, tv, tv, tv, tv, tv, tv, tv, tv, tv, tv, tv, tv, tv, tv, tv, tv, tv, tv, tv, tv, tv, tv, congrArg Value.bool h9, tv, tv, tv, tv⟩
       ·intro vs gq stq hl hf
        obtain ⟨v0, v1, v2, v3, v4, v5, v6, v7, v8, v9, v10, v11, v12, v13, v14, v15, v16, rfl⟩ := len_k17 hl
        have hB4 := (show Box gq (t + 3) b3 61 [encA .u8 d4, [.int .i64 x4], [.slice a6 n6 c6], [.slice a7 n7 c7]] [8, 1, 1, 1] from hf _ (memI 0 rfl) (by kernel_rfl))
        have e13 := (show v13 = .bool true from hf _ (memI 32 rfl) (by kernel_rfl))
        subst e13
        refine WP.loadB (v := AG [encA .u8 d4, [.int .i64 x4], [.slice a6 n6 c6], [.slice a7 n7 c7]]) hB4 (by kernel_rfl) (by kernel_rfl) ?_
        refine WP.dn (Shown.ok (v := AG [encA .u8 d4, [.int .i64 x4], [.slice a6 n6 c6], [.slice a7 n7 c7]]) (by kernel_rfl) (Step.refl _ _) ?_)
        exact ⟨tv, tv, tv, tv, tv, tv, tv, tv, tv, tv, tv, tv, tv, tv, tv, tv, tv, tv, tv, tv, tv, tv, tv, tv, tv, tv, tv, tv, tv, tv, tv, tv, tv, rfl, tv, tv, tv⟩
       ·intro vs gq stq hl hf
        obtain ⟨v0, v1, v2, v3, v4, v5, v6, v7, v8, v9, v10, v11, v12, v13, v14, v15, v16, rfl⟩ := len_k17 hl
        have hB4 := (show Box gq (t + 3) b3 61 [encA .u8 d4, [.int .i64 x4], [.slice a6 n6 c6], [.slice a7 n7 c7]] [8, 1, 1, 1] from hf _ (memI 0 rfl) (by kernel_rfl))
        have e13 := (show v13 = .bool true from hf _ (memI 32 rfl) (by kernel_rfl))
        subst e13
        refine WP.loadB (v := AG [encA .u8 d4, [.int .i64 x4], [.slice a6 n6 c6], [.slice a7 n7 c7]]) hB4 (by kernel_rfl) (by kernel_rfl) ?_
        refine WP.dn (Shown.ok (v := AG [encA .u8 d4, [.int .i64 x4], [.slice a6 n6 c6], [.slice a7 n7 c7]]) (by kernel_rfl) (Step.refl _ _) ?_)
        exact ⟨tv, tv, tv, tv, tv, tv, tv, tv, tv, tv, tv, tv, tv, tv, tv, tv, tv, tv, tv, tv, tv, tv, tv, tv, tv, tv, tv, tv, tv, tv, tv, tv, tv, tv, rfl, tv, tv⟩
       ·intro vs gq stq hl hf
        obtain ⟨v0, v1, v2, v3, v4, v5, v6, v7, v8, v9, v10, v11, v12, v13, v14, v15, v16, rfl⟩ := len_k17 hl
        have hR6 := (show RdS (Kd.int .u8) gq 5 a6 n6 c6 l6 from hf _ (memI 1 rfl) (by kernel_rfl))
        have hR7 := (show RdS (Kd.slice 5 (Kd.int .u8)) gq 24 a7 n7 c7 l7 from hf _ (memI 2 rfl) (by kernel_rfl))
        have e13 := (show v13 = .bool true from hf _ (memI 32 rfl) (by kernel_rfl))
        subst e13
        have e14 := (show v14 = AG [encA .u8 d4, [.int .i64 x4], [.slice a6 n6 c6], [.slice a7 n7 c7]] from hf _ (memI 33 rfl) (by kernel_rfl))
        subst e14
        have e15 := (show v15 = AG [encA .u8 d4, [.int .i64 x4], [.slice a6 n6 c6], [.slice a7 n7 c7]] from hf _ (memI 34 rfl) (by kernel_rfl))
        subst e15
        have hcal15 := P.state_Signed_Same gq d4 x4 l6 l7 d4 x4 l6 l7 a6 n6 c6 a7 n7 c7 a6 n6 c6 a7 n7 c7 hR6 hR7 hR6 hR7 q12 hk15
        refine WP.callC hcal15 (by kernel_rfl) ?_
        rintro _ g38 st38 rfl
        refine WP.dn (Shown.o (v := .bool q12) st38.pure ?_)
        exact ⟨tv, tv, tv, tv, tv, tv, tv, tv, tv, tv, tv, tv, tv, tv, tv, tv, tv, tv, tv, tv, tv, tv, tv, tv, tv, tv, tv, tv, tv, tv, tv, tv, tv, tv, tv, rfl, tv⟩
      intro vs g39 st39 hl hf
      obtain ⟨v0, v1, v2, v3, v4, v5, v6, v7, v8, v9, v10, v11, v12, v13, v14, v15, v16, rfl⟩ := len_k17 hl
      have e13 := (show v13 = .bool true from hf _ (memI 32 rfl) (by kernel_rfl))
      subst e13
      have e16 := (show v16 = .bool q12 from hf _ (memI 35 rfl) (by kernel_rfl))
      subst e16
      replace tot := tot.trans (st39.up1 (.inr (by omega)))
      refine NX.post ?_
      exact ⟨q12, ⟨by kernel_rfl, by kernel_rfl⟩, tot, hs⟩
     replace hs := of_if_f hs h9
     refine CP.drawL (by kernel_rfl) [0, 1, 6, 7, 8, 9, 11, 12, 13, 14, 15, 16, 17, 20] N.baizelaw32_StateJoins_0 [⟨none, [], [], fun l g => Box g (t + 3) b3 61 [encA .u8 d4, [.int .i64 x4], [.slice a6 n6 c6], [.slice a7 n7 c7]] [8, 1, 1, 1]⟩, ⟨none, [], [], fun l g => RdS (Kd.int .u8) g 5 a6 n6 c6 l6⟩, ⟨none, [], [], fun l g => RdS (Kd.slice 5 (Kd.int .u8)) g 24 a7 n7 c7 l7⟩, ⟨none, [], [], fun l g => Box g (t + 4) b4 65 [encA .u8 d5, [.int .i64 x5], [.slice a8 n8 c8], [.slice a9 n9 c9]] [8, 1, 1, 1]⟩, ⟨none, [], [], fun l g => RdS (Kd.int .u8) g 5 a8 n8 c8 l8⟩, ⟨none, [], [], fun l g => RdS (Kd.slice 5 (Kd.int .u8)) g 24 a9 n9 c9 l9⟩, ⟨none, [], [], fun l g => Box g (t + 5) b5 61 [encA .u8 d6, [.int .i64 x6], [.slice a10 n10 c10], [.slice a11 n11 c11]] [8, 1, 1, 1]⟩, ⟨none, [], [], fun l g => RdS (Kd.int .u8) g 5 a10 n10 c10 l10⟩, ⟨none, [], [], fun l g => RdS (Kd.slice 5 (Kd.int .u8)) g 24 a11 n11 c11 l11⟩, ⟨none, [], [], fun l g => Box g (t + 6) b6 65 [encA .u8 d7, [.int .i64 x7], [.slice a12 n12 c12], [.slice a13 n13 c13]] [8, 1, 1, 1]⟩, ⟨none, [], [], fun l g => RdS (Kd.int .u8) g 5 a12 n12 c12 l12⟩, ⟨none, [], [], fun l g => RdS (Kd.slice 5 (Kd.int .u8)) g 24 a13 n13 c13 l13⟩, ⟨none, [], [], fun l g => Box g (t + 11) b8 65 [encA .u8 d9, [.int .i64 x10], [.slice a16 n16 c16], [.slice a17 n17 c17]] [8, 1, 1, 1]⟩, ⟨none, [], [], fun l g => RdS (Kd.int .u8) g 5 a16 n16 c16 l16⟩, ⟨none, [0], [], fun l g => OwnS (Kd.slice 5 (Kd.int .u8)) g (t + 10) 24 a17 n17 c17 l17⟩, ⟨none, [], [], fun l g => Box g (t + 13) b10 65 [encA .u8 d11, [.int .i64 x13], [.slice a20 n20 c20], [.slice a21 n21 c21]] [8, 1, 1, 1]⟩, ⟨none, [], [], fun l g => RdS (Kd.int .u8) g 5 a20 n20 c20 l20⟩, ⟨none, [], [], fun l g => RdS (Kd.slice 5 (Kd.int .u8)) g 24 a21 n21 c21 l21⟩, ⟨some 0, [], [0], fun l g => l.getD 0 undef = .bool q8⟩, ⟨some 1, [], [1], fun l g => l.getD 0 undef = .bool true⟩, ⟨some 2, [], [2], fun l g => l.getD 0 undef = .bool true⟩, ⟨some 3, [], [3], fun l g => l.getD 0 undef = AG [encA .u8 d11, [.int .i64 x13], [.slice a20 n20 c20], [.slice a21 n21 c21]]⟩, ⟨some 4, [], [4], fun l g => l.getD 0 undef = AG [encA .u8 d9, [.int .i64 x10], [.slice a16 n16 c16], [.slice a17 n17 c17]]⟩, ⟨some 5, [], [5], fun l g => l.getD 0 undef = .bool q9⟩, ⟨some 5, [0], [], fun l g => OwnS (Kd.slice 5 (Kd.int .u8)) g (t + 10) 24 a17 n17 c17 l17⟩, ⟨some 6, [], [6], fun l g => l.getD 0 undef = .bool true⟩, ⟨some 7, [], [7], fun l g => l.getD 0 undef = AG [encA .u8 d4, [.int .i64 x4], [.slice a6 n6 c6], [.slice a7 n7 c7]]⟩, ⟨some 8, [], [8], fun l g => l.getD 0 undef = AG [encA .u8 d6, [.int .i64 x6], [.slice a10 n10 c10], [.slice a11 n11 c11]]⟩, ⟨some 9, [], [9], fun l g => l.getD 0 undef = .bool q10⟩, ⟨some 10, [], [10], fun l g => l.getD 0 undef = AG [encA .u8 d5, [.int .i64 x5], [.slice a8 n8 c8], [.slice a9 n9 c9]]⟩, ⟨some 11, [], [11], fun l g => l.getD 0 undef = AG [encA .u8 d7, [.int .i64 x7], [.slice a12 n12 c12], [.slice a13 n13 c13]]⟩, ⟨some 12, [], [12], fun l g => l.getD 0 undef = .bool q11⟩, ⟨some 13, [], [13], fun l g => l.getD 0 undef = .bool false⟩] [[], [], [], [], [], [0], [], [], [], [], [], [], [], []] [(t + 10)] [] [2, 3, 4, 5, 10, 18, 19, 21, 22, 23, 24, 25] (by kernel_rfl) (by simp <;> omega) (by simp) ⟨fun _ _ _ _ st h0 hl hj hB4 => (hB4.mono st (fun h => absurd (hl _ h) (by simp <;> omega))), fun _ _ _ _ st h0 hl hj hR6 => (RdS.mono (e := 5) hR6 st h0), fun _ _ _ _ st h0 hl hj hR7 => (RdS.mono (e := 24) hR7 st h0), fun _ _ _ _ st h0 hl hj hB5 => (hB5.mono st (fun h => absurd (hl _ h) (by simp <;> omega))), fun _ _ _ _ st h0 hl hj hR8 => (RdS.mono (e := 5) hR8 st h0), fun _ _ _ _ st h0 hl hj hR9 => (RdS.mono (e := 24) hR9 st h0), fun _ _ _ _ st h0 hl hj hB8 => (hB8.mono st (fun h => absurd (hl _ h) (by simp <;> omega))), fun _ _ _ _ st h0 hl hj hR10 => (RdS.mono (e := 5) hR10 st h0), fun _ _ _ _ st h0 hl hj hR11 => (RdS.mono (e := 24) hR11 st h0), fun _ _ _ _ st h0 hl hj hB9 => (hB9.mono st (fun h => absurd (hl _ h) (by simp <;> omega))), fun _ _ _ _ st h0 hl hj hR12 => (RdS.mono (e := 5) hR12 st h0), fun _ _ _ _ st h0 hl hj hR13 => (RdS.mono (e := 24) hR13 st h0), fun _ _ _ _ st h0 hl hj hB14 => (hB14.mono st (fun h => absurd (hl _ h) (by simp <;> omega))), fun _ _ _ _ st h0 hl hj hR16 => (RdS.mono (e := 5) hR16 st h0), fun _ _ _ _ st h0 hl hj hR17 => (hR17.mono st h0 (hj 0 (by simp) _ rfl)), fun _ _ _ _ st h0 hl hj hB17 => (hB17.mono st (fun h => absurd (hl _ h) (by simp <;> omega))), fun _ _ _ _ st h0 hl hj hR20 => (RdS.mono (e := 5) hR20 st h0), fun _ _ _ _ st h0 hl hj hR21 => (RdS.mono (e := 24) hR21 st h0), fun _ _ _ _ st h0 hl hj e0 => e0, fun _ _ _ _ st h0 hl hj e1 => e1, fun _ _ _ _ st h0 hl hj e2 => e2, fun _ _ _ _ st h0 hl hj e3 => e3, fun _ _ _ _ st h0 hl hj e4 => e4, fun _ _ _ _ st h0 hl hj e5 => e5, fun _ _ _ _ st h0 hl hj hR17 => (hR17.mono st h0 (hj 0 (by simp) _ rfl)), fun _ _ _ _ st h0 hl hj e6 => e6, fun _ _ _ _ st h0 hl hj e7 => e7, fun _ _ _ _ st h0 hl hj e8 => e8, fun _ _ _ _ st h0 hl hj e9 => e9, fun _ _ _ _ st h0 hl hj e10 => e10, fun _ _ _ _ st h0 hl hj e11 => e11, fun _ _ _ _ st h0 hl hj e12 => e12, fun _ _ _ _ st h0 hl hj e13 => e13, tv⟩ ⟨hB4, hR6, hR7, hB5, hR8, hR9, hB8, hR10, hR11, hB9, hR12, hR13, hB14, hR16, hR17, hB17, hR20, hR21, tv, tv, tv, tv, tv, tv, tv, tv, tv, tv, tv, tv, tv, tv, tv, tv⟩ (by kernel_rfl) (fun vs => by kernel_rfl) ?_ ?_ ?_
     ·intro j hj
      have hq : j = 0 ∨ j = 1 ∨ j = 2 ∨ j = 3 ∨ j = 4 ∨ j = 5 ∨ j = 6 ∨ j = 7 ∨ j = 8 ∨ j = 9 ∨ j = 10 ∨ j = 11 := by have h : j < 12 := hj; omega
      rcases hq with rfl | rfl | rfl | rfl | rfl | rfl | rfl | rfl | rfl | rfl | rfl | rfl
      ·intro vs gq stq hl hf
       obtain ⟨v0, v1, v2, v3, v4, v5, v6, v7, v8, v9, v10, v11, v12, v13, rfl⟩ := len_k14 hl
       have e1 := (show v1 = .bool true from hf _ (memI 19 rfl) (by kernel_rfl))
       subst e1
       show Option.isSome _ = true
       kernel_rfl
      ·intro vs gq stq hl hf
       obtain ⟨v0, v1, v2, v3, v4, v5, v6, v7, v8, v9, v10, v11, v12, v13, rfl⟩ := len_k14 hl
       have e1 := (show v1 = .bool true from hf _ (memI 19 rfl) (by kernel_rfl))
       subst e1
       show Option.isSome _ = true
       kernel_rfl
      ·intro vs gq stq hl hf
       obtain ⟨v0, v1, v2, v3, v4, v5, v6, v7, v8, v9, v10, v11, v12, v13, rfl⟩ := len_k14 hl
       have e1 := (show v1 = .bool true from hf _ (memI 19 rfl) (by kernel_rfl))
       subst e1
       show Option.isSome _ = true
       kernel_rfl
      ·intro vs gq stq hl hf
       obtain ⟨v0, v1, v2, v3, v4, v5, v6, v7, v8, v9, v10, v11, v12, v13, rfl⟩ := len_k14 hl
       have e1 := (show v1 = .bool true from hf _ (memI 19 rfl) (by kernel_rfl))
       subst e1
       show Option.isSome _ = true
       kernel_rfl
      ·intro vs gq stq hl hf
       obtain ⟨v0, v1, v2, v3, v4, v5, v6, v7, v8, v9, v10, v11, v12, v13, rfl⟩ := len_k14 hl
       have e2 := (show v2 = .bool true from hf _ (memI 20 rfl) (by kernel_rfl))
       subst e2
       have e5 := (show v5 = .bool q9 from hf _ (memI 23 rfl) (by kernel_rfl))
       subst e5
       show Option.isSome _ = true
       kernel_rfl
      ·intro vs gq stq hl hf
       obtain ⟨v0, v1, v2, v3, v4, v5, v6, v7, v8, v9, v10, v11, v12, v13, rfl⟩ := len_k14 hl
       have e6 := (show v6 = .bool true from hf _ (memI 25 rfl) (by kernel_rfl))
       subst e6
       have e9 := (show v9 = .bool q10 from hf _ (memI 28 rfl) (by kernel_rfl))
       subst e9
       have e12 := (show v12 = .bool q11 from hf _ (memI 31 rfl) (by kernel_rfl))
       subst e12
       show Option.isSome _ = true
       kernel_rfl
      ·intro vs gq stq hl hf
       obtain ⟨v0, v1, v2, v3, v4, v5, v6, v7, v8, v9, v10, v11, v12, v13, rfl⟩ := len_k14 hl
       have e6 := (show v6 = .bool true from hf _ (memI 25 rfl) (by kernel_rfl))
       subst e6
       have e9 := (show v9 = .bool q10 from hf _ (memI 28 rfl) (by kernel_rfl))
       subst e9
       have e12 := (show v12 = .bool q11 from hf _ (memI 31 rfl) (by kernel_rfl))
       subst e12
       show Option.isSome _ = true
       kernel_rfl
      ·intro vs gq stq hl hf
       obtain ⟨v0, v1, v2, v3, v4, v5, v6, v7, v8, v9, v10, v11, v12, v13, rfl⟩ := len_k14 hl
       have e13 := (show v13 = .bool false from hf _ (memI 32 rfl) (by kernel_rfl))
       subst e13
       show Option.isSome _ = true
       kernel_rfl
      ·intro vs gq stq hl hf
       obtain ⟨v0, v1, v2, v3, v4, v5, v6, v7, v8, v9, v10, v11, v12, v13, rfl⟩ := len_k14 hl
       have e13 := (show v13 = .bool false from hf _ (memI 32 rfl) (by kernel_rfl))
       subst e13
       show Option.isSome _ = true
       kernel_rfl
      ·intro vs gq stq hl hf
       obtain ⟨v0, v1, v2, v3, v4, v5, v6, v7, v8, v9, v10, v11, v12, v13, rfl⟩ := len_k14 hl
       have e13 := (show v13 = .bool false from hf _ (memI 32 rfl) (by kernel_rfl))
       subst e13
       show Option.isSome _ = true
       kernel_rfl
      ·intro vs gq stq hl hf
       obtain ⟨v0, v1, v2, v3, v4, v5, v6, v7, v8, v9, v10, v11, v12, v13, rfl⟩ := len_k14 hl
       have e13 := (show v13 = .bool false from hf _ (memI 32 rfl) (by kernel_rfl))
       subst e13
       show Option.isSome _ = true
       kernel_rfl
      ·intro vs gq stq hl hf
       obtain ⟨v0, v1, v2, v3, v4, v5, v6, v7, v8, v9, v10, v11, v12, v13, rfl⟩ := len_k14 hl
       have e13 := (show v13 = .bool false from hf _ (memI 32 rfl) (by kernel_rfl))
       subst e13
       show Option.isSome _ = true
       kernel_rfl
     ·intro j hj
      have hq : j = 0 ∨ j = 1 ∨ j = 2 ∨ j = 3 ∨ j = 4 ∨ j = 5 ∨ j = 6 ∨ j = 7 ∨ j = 8 ∨ j = 9 ∨ j = 10 ∨ j = 11 ∨ j = 12 ∨ j = 13 := by have h : j < 14 := hj; omega
      rcases hq with rfl | rfl | rfl | rfl | rfl | rfl | rfl | rfl | rfl | rfl | rfl | rfl | rfl | rfl
      ·intro vs gq stq hl hf
       obtain ⟨v0, v1, v2, v3, v4, v5, v6, v7, v8, v9, v10, v11, v12, v13, rfl⟩ := len_k14 hl
       have hcal11 := P.baizelaw32_told gq q8 hk11
       refine WP.callC hcal11 (by kernel_rfl) ?_
       rintro _ g33 st33 rfl
       refine WP.dn (Shown.o (v := .bool q8) st33.pure ?_)
       exact ⟨tv, tv, tv, tv, tv, tv, tv, tv, tv, tv, tv, tv, tv, tv, tv, tv, tv, tv, rfl, tv, tv, tv, tv, tv, tv, tv, tv, tv, tv, tv, tv, tv, tv, tv⟩
      ·intro vs gq stq hl hf
       obtain ⟨v0, v1, v2, v3, v4, v5, v6, v7, v8, v9, v10, v11, v12, v13, rfl⟩ := len_k14 hl
       have e0 := (show v0 = .bool q8 from hf _ (memI 18 rfl) (by kernel_rfl))
       subst e0
       refine WP.stl 1 ?_
       refine WP.dn (Shown.ok (v := .bool q8) (by kernel_rfl) (Step.refl _ _) ?_)
       exact ⟨tv, tv, tv, tv, tv, tv, tv, tv, tv, tv, tv, tv, tv, tv, tv, tv, tv, tv, tv, congrArg Value.bool h6, tv, tv, tv, tv, tv, tv, tv, tv, tv, tv, tv, tv, tv, tv⟩
      ·intro vs gq stq hl hf
       obtain ⟨v0, v1, v2, v3, v4, v5, v6, v7, v8, v9, v10, v11, v12, v13, rfl⟩ := len_k14 hl
       have e1 := (show v1 = .bool true from hf _ (memI 19 rfl) (by kernel_rfl))
       subst e1
       refine WP.stl 1 ?_
       refine WP.dn (Shown.ok (v := .bool (x9 == x11)) (by kernel_rfl) (Step.refl _ _) ?_)
       exact ⟨tv, tv, tv, tv, tv, tv, tv, tv, tv, tv, tv, tv, tv, tv, tv, tv, tv, tv, tv, tv, congrArg Value.bool h7, tv, tv, tv, tv, tv, tv, tv, tv, tv, tv, tv, tv, tv⟩
      ·intro vs gq stq hl hf
       obtain ⟨v0, v1, v2, v3, v4, v5, v6, v7, v8, v9, v10, v11, v12, v13, rfl⟩ := len_k14 hl
       have hB17 := (show Box gq (t + 13) b10 65 [encA .u8 d11, [.int .i64 x13], [.slice a20 n20 c20], [.slice a21 n21 c21]] [8, 1, 1, 1] from hf _ (memI 15 rfl) (by kernel_rfl))
       have e2 := (show v2 = .bool true from hf _ (memI 20 rfl) (by kernel_rfl))
       subst e2
       refine WP.loadB (v := AG [encA .u8 d11, [.int .i64 x13], [.slice a20 n20 c20], [.slice a21 n21 c21]]) hB17 (by kernel_rfl) (by kernel_rfl) ?_
       refine WP.dn (Shown.ok (v := AG [encA .u8 d11, [.int .i64 x13], [.slice a20 n20 c20], [.slice a21 n21 c21]]) (by kernel_rfl) (Step.refl _ _) ?_)
       exact ⟨tv, tv, tv, tv, tv, tv, tv, tv, tv, tv, tv, tv, tv, tv, tv, tv, tv, tv, tv, tv, tv, rfl, tv, tv, tv, tv, tv, tv, tv, tv, tv, tv, tv, tv⟩
      ·intro vs gq stq hl hf
       obtain ⟨v0, v1, v2, v3, v4, v5, v6, v7, v8, v9, v10, v11, v12, v13, rfl⟩ := len_k14 hl
       have hB14 := (show Box gq (t + 11) b8 65 [encA .u8 d9, [.int .i64 x10], [.slice a16 n16 c16], [.slice a17 n17 c17]] [8, 1, 1, 1] from hf _ (memI 12 rfl) (by kernel_rfl))
       have e2 := (show v2 = .bool true from hf _ (memI 20 rfl) (by kernel_rfl))
       subst e2
       refine WP.loadB (v := AG [encA .u8 d9, [.int .i64 x10], [.slice a16 n16 c16], [.slice a17 n17 c17]]) hB14 (by kernel_rfl) (by kernel_rfl) ?_
       refine WP.dn (Shown.ok (v := AG [encA .u8 d9, [.int .i64 x10], [.slice a16 n16 c16], [.slice a17 n17 c17]]) (by kernel_rfl) (Step.refl _ _) ?_)
       exact ⟨tv, tv, tv, tv, tv, tv, tv, tv, tv, tv, tv, tv, tv, tv, tv, tv, tv, tv, tv, tv, tv, tv, rfl, tv, tv, tv, tv, tv, tv, tv, tv, tv, tv, tv⟩
      ·intro vs gq stq hl hf
       obtain ⟨v0, v1, v2, v3, v4, v5, v6, v7, v8, v9, v10, v11, v12, v13, rfl⟩ := len_k14 hl
       have hR16 := (show RdS (Kd.int .u8) gq 5 a16 n16 c16 l16 from hf _ (memI 13 rfl) (by kernel_rfl))
       have hR17 := (show OwnS (Kd.slice 5 (Kd.int .u8)) gq (t + 10) 24 a17 n17 c17 l17 from hf _ (memI 14 rfl) (by kernel_rfl))
       have hR20 := (show RdS (Kd.int .u8) gq 5 a20 n20 c20 l20 from hf _ (memI 16 rfl) (by kernel_rfl))
       have hR21 := (show RdS (Kd.slice 5 (Kd.int .u8)) gq 24 a21 n21 c21 l21 from hf _ (memI 17 rfl) (by kernel_rfl))
       have e2 := (show v2 = .bool true from hf _ (memI 20 rfl) (by kernel_rfl))
       subst e2
       have e3 := (show v3 = AG [encA .u8 d11, [.int .i64 x13], [.slice a20 n20 c20], [.slice a21 n21 c21]] from hf _ (memI 21 rfl) (by kernel_rfl))
       subst e3
       have e4 := (show v4 = AG [encA .u8 d9, [.int .i64 x10], [.slice a16 n16 c16], [.slice a17 n17 c17]] from hf _ (memI 22 rfl) (by kernel_rfl))
       subst e4
       have hS2 : 0 ∉ ([(t + 10)] : List Nat) := by simp <;> omega
       have stl2 := GW.lend_step gq [(t + 10)]
       have hRl2 := hR17.lendTo hS2 (by simp)
       refine WP.regw (g' := GW.lend gq [(t + 10)]) rfl ?_
       have hcal12 := P.baizeref32_Same (GW.lend gq [(t + 10)]) d11 x13 l20 l21 d9 x10 l16 l17 a20 n20 c20 a21 n21 c21 a16 n16 c16 a17 n17 c17 (hR20.mono stl2 (WL.no (by simp <;> omega))) (hR21.mono stl2 (WL.no (by simp <;> omega))) (hR16.mono stl2 (WL.no (by simp <;> omega))) hRl2 q9 hk12
       refine WP.callC hcal12 (by kernel_rfl) ?_
       rintro _ g34 st34 rfl
       have st35 := (GW.back_step st34).lentS
       have hO2 := hR17.backTo hS2 (by simp) st34 (fun x => x)
       refine WP.regw (g' := GW.back gq g34 [(t + 10)]) rfl ?_
       generalize GW.back gq g34 [(t + 10)] = g35 at *
       refine WP.dn (Shown.o (v := .bool q9) st35 ?_)
       exact ⟨tv, tv, tv, tv, tv, tv, tv, tv, tv, tv, tv, tv, tv, tv, tv, tv, tv, tv, tv, tv, tv, tv, tv, rfl, hO2, tv, tv, tv, tv, tv, tv, tv, tv, tv⟩
      ·intro vs gq stq hl hf
       obtain ⟨v0, v1, v2, v3, v4, v5, v6, v7, v8, v9, v10, v11, v12, v13, rfl⟩ := len_k14 hl
       have e2 := (show v2 = .bool true from hf _ (memI 20 rfl) (by kernel_rfl))
       subst e2
       have e5 := (show v5 = .bool q9 from hf _ (memI 23 rfl) (by kernel_rfl))
       subst e5
       refine WP.stl 1 ?_
       refine WP.dn (Shown.ok (v := .bool q9) (by kernel_rfl) (Step.refl _ _) ?_)
       exact ⟨tv, tv, tv, tv, tv, tv, tv, tv, tv, tv, tv, tv, tv, tv, tv, tv, tv, tv, tv, tv, tv, tv, tv, tv, tv, congrArg Value.bool h8, tv, tv, tv, tv, tv, tv, tv, tv⟩
      ·intro vs gq stq hl hf
       obtain ⟨v0, v1, v2, v3, v4, v5, v6, v7, v8, v9, v10, v11, v12, v13, rfl⟩ := len_k14 hl
       have hB4 := (show Box gq (t + 3) b3 61 [encA .u8 d4, [.int .i64 x4], [.slice a6 n6 c6], [.slice a7 n7 c7]] [8, 1, 1, 1] from hf _ (memI 0 rfl) (by kernel_rfl))
       have e6 := (show v6 = .bool true from hf _ (memI 25 rfl) (by kernel_rfl))
       subst e6
       refine WP.loadB (v := AG [encA .u8 d4, [.int .i64 x4], [.slice a6 n6 c6], [.slice a7 n7 c7]]) hB4 (by kernel_rfl) (by kernel_rfl) ?_
       refine WP.dn (Shown.ok (v := AG [encA .u8 d4, [.int .i64 x4], [.slice a6 n6 c6], [.slice a7 n7 c7]]) (by kernel_rfl) (Step.refl _ _) ?_)
       exact ⟨tv, tv, tv, tv, tv, tv, tv, tv, tv, tv, tv, tv, tv, tv, tv, tv, tv, tv, tv, tv, tv, tv, tv, tv, tv, tv, rfl, tv, tv, tv, tv, tv, tv, tv⟩
      ·intro vs gq stq hl hf
       obtain ⟨v0, v1, v2, v3, v4, v5, v6, v7, v8, v9, v10, v11, v12, v13, rfl⟩ := len_k14 hl
       have hB8 := (show Box gq (t + 5) b5 61 [encA .u8 d6, [.int .i64 x6], [.slice a10 n10 c10], [.slice a11 n11 c11]] [8, 1, 1, 1] from hf _ (memI 6 rfl) (by kernel_rfl))
       have e6 := (show v6 = .bool true from hf _ (memI 25 rfl) (by kernel_rfl))
       subst e6
       refine WP.loadB (v := AG [encA .u8 d6, [.int .i64 x6], [.slice a10 n10 c10], [.slice a11 n11 c11]]) hB8 (by kernel_rfl) (by kernel_rfl) ?_
       refine WP.dn (Shown.ok (v := AG [encA .u8 d6, [.int .i64 x6], [.slice a10 n10 c10], [.slice a11 n11 c11]]) (by kernel_rfl) (Step.refl _ _) ?_)
       exact ⟨tv, tv, tv, tv, tv, tv, tv, tv, tv, tv, tv, tv, tv, tv, tv, tv, tv, tv, tv, tv, tv, tv, tv, tv, tv, tv, tv, rfl, tv, tv, tv, tv, tv, tv⟩
      ·intro vs gq stq hl hf
       obtain ⟨v0, v1, v2, v3, v4, v5, v6, v7, v8, v9, v10, v11, v12, v13, rfl⟩ := len_k14 hl
       have hR6 := (show RdS (Kd.int .u8) gq 5 a6 n6 c6 l6 from hf _ (memI 1 rfl) (by kernel_rfl))
       have hR7 := (show RdS (Kd.slice 5 (Kd.int .u8)) gq 24 a7 n7 c7 l7 from hf _ (memI 2 rfl) (by kernel_rfl))
       have hR10 := (show RdS (Kd.int .u8) gq 5 a10 n10 c10 l10 from hf _ (memI 7 rfl) (by kernel_rfl))
       have hR11 := (show RdS (Kd.slice 5 (Kd.int .u8)) gq 24 a11 n11 c11 l11 from hf _ (memI 8 rfl) (by kernel_rfl))
       have e6 := (show v6 = .bool true from hf _ (memI 25 rfl) (by kernel_rfl))
       subst e6
       have e7 := (show v7 = AG [encA .u8 d4, [.int .i64 x4], [.slice a6 n6 c6], [.slice a7 n7 c7]] from hf _ (memI 26 rfl) (by kernel_rfl))
       subst e7
       have e8 := (show v8 = AG [encA .u8 d6, [.int .i64 x6], [.slice a10 n10 c10], [.slice a11 n11 c11]] from hf _ (memI 27 rfl) (by kernel_rfl))
       subst e8
       have hcal13 := P.state_Signed_Same gq d4 x4 l6 l7 d6 x6 l10 l11 a6 n6 c6 a7 n7 c7 a10 n10 c10 a11 n11 c11 hR6 hR7 hR10 hR11 q10 hk13
       refine WP.callC hcal13 (by kernel_rfl) ?_
       rintro _ g36 st36 rfl
       refine WP.dn (Shown.o (v := .bool q10) st36.pure ?_)
       exact ⟨tv, tv, tv, tv, tv, tv, tv, tv, tv, tv, tv, tv, tv, tv, tv, tv, tv, tv, tv, tv, tv, tv, tv, tv, tv, tv, tv, tv, rfl, tv, tv, tv, tv, tv⟩
      ·intro vs gq stq hl hf
       obtain ⟨v0, v1, v2, v3, v4, v5, v6, v7, v8, v9, v10, v11, v12, v13, rfl⟩ := len_k14 hl
       have hB5 := (show Box gq (t + 4) b4 65 [encA .u8 d5, [.int .i64 x5], [.slice a8 n8 c8], [.slice a9 n9 c9]] [8, 1, 1, 1] from hf _ (memI 3 rfl) (by kernel_rfl))
       have e6 := (show v6 = .bool true from hf _ (memI 25 rfl) (by kernel_rfl))
       subst e6
       refine WP.loadB (v := AG [encA .u8 d5, [.int .i64 x5], [.slice a8 n8 c8], [.slice a9 n9 c9]]) hB5 (by kernel_rfl) (by kernel_rfl) ?_
       refine WP.dn (Shown.ok (v := AG [encA .u8 d5, [.int .i64 x5], [.slice a8 n8 c8], [.slice a9 n9 c9]]) (by kernel_rfl) (Step.refl _ _) ?_)
       exact ⟨tv, tv, tv, tv, tv, tv, tv, tv, tv, tv, tv, tv, tv, tv, tv, tv, tv, tv, tv, tv, tv, tv, tv, tv, tv, tv, tv, tv, tv, rfl, tv, tv, tv, tv⟩
      ·intro vs gq stq hl hf
       obtain ⟨v0, v1, v2, v3, v4, v5, v6, v7, v8, v9, v10, v11, v12, v13, rfl⟩ := len_k14 hl
       have hB9 := (show Box gq (t + 6) b6 65 [encA .u8 d7, [.int .i64 x7], [.slice a12 n12 c12], [.slice a13 n13 c13]] [8, 1, 1, 1] from hf _ (memI 9 rfl) (by kernel_rfl))
       have e6 := (show v6 = .bool true from hf _ (memI 25 rfl) (by kernel_rfl))
       subst e6
       refine WP.loadB (v := AG [encA .u8 d7, [.int .i64 x7], [.slice a12 n12 c12], [.slice a13 n13 c13]]) hB9 (by kernel_rfl) (by kernel_rfl) ?_
       refine WP.dn (Shown.ok (v := AG [encA .u8 d7, [.int .i64 x7], [.slice a12 n12 c12], [.slice a13 n13 c13]]) (by kernel_rfl) (Step.refl _ _) ?_)
       exact ⟨tv, tv, tv, tv, tv, tv, tv, tv, tv, tv, tv, tv, tv, tv, tv, tv, tv, tv, tv, tv, tv, tv, tv, tv, tv, tv, tv, tv, tv, tv, rfl, tv, tv, tv⟩
      ·intro vs gq stq hl hf
       obtain ⟨v0, v1, v2, v3, v4, v5, v6, v7, v8, v9, v10, v11, v12, v13, rfl⟩ := len_k14 hl
       have hR8 := (show RdS (Kd.int .u8) gq 5 a8 n8 c8 l8 from hf _ (memI 4 rfl) (by kernel_rfl))
       have hR9 := (show RdS (Kd.slice 5 (Kd.int .u8)) gq 24 a9 n9 c9 l9 from hf _ (memI 5 rfl) (by kernel_rfl))
       have hR12 := (show RdS (Kd.int .u8) gq 5 a12 n12 c12 l12 from hf _ (memI 10 rfl) (by kernel_rfl))
       have hR13 := (show RdS (Kd.slice 5 (Kd.int .u8)) gq 24 a13 n13 c13 l13 from hf _ (memI 11 rfl) (by kernel_rfl))
       have e6 := (show v6 = .bool true from hf _ (memI 25 rfl) (by kernel_rfl))
       subst e6
       have e10 := (show v10 = AG [encA .u8 d5, [.int .i64 x5], [.slice a8 n8 c8], [.slice a9 n9 c9]] from hf _ (memI 29 rfl) (by kernel_rfl))
       subst e10
       have e11 := (show v11 = AG [encA .u8 d7, [.int .i64 x7], [.slice a12 n12 c12], [.slice a13 n13 c13]] from hf _ (memI 30 rfl) (by kernel_rfl))
       subst e11
       have hcal14 := P.baizeref32_Same gq d5 x5 l8 l9 d7 x7 l12 l13 a8 n8 c8 a9 n9 c9 a12 n12 c12 a13 n13 c13 hR8 hR9 hR12 hR13 q11 hk14
       refine WP.callC hcal14 (by kernel_rfl) ?_
       rintro _ g37 st37 rfl
       refine WP.dn (Shown.o (v := .bool q11) st37.pure ?_)
       exact ⟨tv, tv, tv, tv, tv, tv, tv, tv, tv, tv, tv, tv, tv, tv, tv, tv, tv, tv, tv, tv, tv, tv, tv, tv, tv, tv, tv, tv, tv, tv, tv, rfl, tv, tv⟩
      ·intro vs gq stq hl hf
       obtain ⟨v0, v1, v2, v3, v4, v5, v6, v7, v8, v9, v10, v11, v12, v13, rfl⟩ := len_k14 hl
       have e6 := (show v6 = .bool true from hf _ (memI 25 rfl) (by kernel_rfl))
       subst e6
       have e9 := (show v9 = .bool q10 from hf _ (memI 28 rfl) (by kernel_rfl))
       subst e9
       have e12 := (show v12 = .bool q11 from hf _ (memI 31 rfl) (by kernel_rfl))
       subst e12
       refine WP.stl 1 ?_
       refine WP.dn (Shown.ok (v := .bool (q10 == q11)) (by kernel_rfl) (Step.refl _ _) ?_)
       exact ⟨tv, tv, tv, tv, tv, tv, tv, tv, tv, tv, tv, tv, tv, tv, tv, tv, tv, tv, tv, tv, tv, tv, tv, tv, tv, tv, tv, tv, tv, tv, tv, tv, congrArg Value.bool h9, tv⟩
     intro vs g40 st40 hl hf
     obtain ⟨v0, v1, v2, v3, v4, v5, v6, v7, v8, v9, v10, v11, v12, v13, rfl⟩ := len_k14 hl
     have e13 := (show v13 = .bool false from hf _ (memI 32 rfl) (by kernel_rfl))
     subst e13
     replace tot := tot.trans (st40.up1 (.inr (by omega)))
     refine NX.post ?_
     exact ⟨false, ⟨by kernel_rfl, by kernel_rfl⟩, tot, hs⟩
    replace hs := of_if_f hs h8
    refine CP.drawL (by kernel_rfl) [0, 1, 6, 7, 8, 9, 11] N.baizelaw32_StateJoins_0 [⟨none, [], [], fun l g => Box g (t + 11) b8 65 [encA .u8 d9, [.int .i64 x10], [.slice a16 n16 c16], [.slice a17 n17 c17]] [8, 1, 1, 1]⟩, ⟨none, [], [], fun l g => RdS (Kd.int .u8) g 5 a16 n16 c16 l16⟩, ⟨none, [0], [], fun l g => OwnS (Kd.slice 5 (Kd.int .u8)) g (t + 10) 24 a17 n17 c17 l17⟩, ⟨none, [], [], fun l g => Box g (t + 13) b10 65 [encA .u8 d11, [.int .i64 x13], [.slice a20 n20 c20], [.slice a21 n21 c21]] [8, 1, 1, 1]⟩, ⟨none, [], [], fun l g => RdS (Kd.int .u8) g 5 a20 n20 c20 l20⟩, ⟨none, [], [], fun l g => RdS (Kd.slice 5 (Kd.int .u8)) g 24 a21 n21 c21 l21⟩, ⟨some 0, [], [0], fun l g => l.getD 0 undef = .bool q8⟩, ⟨some 1, [], [1], fun l g => l.getD 0 undef = .bool true⟩, ⟨some 2, [], [2], fun l g => l.getD 0 undef = .bool true⟩, ⟨some 3, [], [3], fun l g => l.getD 0 undef = AG [encA .u8 d11, [.int .i64 x13], [.slice a20 n20 c20], [.slice a21 n21 c21]]⟩, ⟨some 4, [], [4], fun l g => l.getD 0 undef = AG [encA .u8 d9, [.int .i64 x10], [.slice a16 n16 c16], [.slice a17 n17 c17]]⟩, ⟨some 5, [], [5], fun l g => l.getD 0 undef = .bool q9⟩, ⟨some 5, [0], [], fun l g => OwnS (Kd.slice 5 (Kd.int .u8)) g (t + 10) 24 a17 n17 c17 l17⟩, ⟨some 6, [], [6], fun l g => l.getD 0 undef = .bool false⟩] [[], [], [], [], [], [0], []] [(t + 10)] [] [2, 3, 4, 5, 10, 12, 13, 14, 15, 16, 17, 18, 19, 20, 21, 22, 23, 24, 25] (by kernel_rfl) (by simp <;> omega) (by simp) ⟨fun _ _ _ _ st h0 hl hj hB14 => (hB14.mono st (fun h => absurd (hl _ h) (by simp <;> omega))), fun _ _ _ _ st h0 hl hj hR16 => (RdS.mono (e := 5) hR16 st h0), fun _ _ _ _ st h0 hl hj hR17 => (hR17.mono st h0 (hj 0 (by simp) _ rfl)), fun _ _ _ _ st h0 hl hj hB17 => (hB17.mono st (fun h => absurd (hl _ h) (by simp <;> omega))), fun _ _ _ _ st h0 hl hj hR20 => (RdS.mono (e := 5) hR20 st h0), fun _ _ _ _ st h0 hl hj hR21 => (RdS.mono (e := 24) hR21 st h0), fun _ _ _ _ st h0 hl hj e0 => e0, fun _ _ _ _ st h0 hl hj e1 => e1, fun _ _ _ _ st h0 hl hj e2 => e2, fun _ _ _ _ st h0 hl hj e3 => e3, fun _ _ _ _ st h0 hl hj e4 => e4, fun _ _ _ _ st h0 hl hj e5 => e5, fun _ _ _ _ st h0 hl hj hR17 => (hR17.mono st h0 (hj 0 (by simp) _ rfl)), fun _ _ _ _ st h0 hl hj e6 => e6, tv⟩ ⟨hB14, hR16, hR17, hB17, hR20, hR21, tv, tv, tv, tv, tv, tv, tv, tv, tv⟩ (by kernel_rfl) (fun vs => by kernel_rfl) ?_ ?_ ?_
    ·intro j hj
     have hq : j = 0 ∨ j = 1 ∨ j = 2 ∨ j = 3 ∨ j = 4 ∨ j = 5 ∨ j = 6 ∨ j = 7 ∨ j = 8 ∨ j = 9 ∨ j = 10 ∨ j = 11 ∨ j = 12 ∨ j = 13 ∨ j = 14 ∨ j = 15 ∨ j = 16 ∨ j = 17 ∨ j = 18 := by have h : j < 19 := hj; omega
     rcases hq with rfl | rfl | rfl | rfl | rfl | rfl | rfl | rfl | rfl | rfl | rfl | rfl | rfl | rfl | rfl | rfl | rfl | rfl | rfl
     ·intro vs gq stq hl hf
      obtain ⟨v0, v1, v2, v3, v4, v5, v6, rfl⟩ := len_k7 hl
      have e1 := (show v1 = .bool true from hf _ (memI 7 rfl) (by kernel_rfl))
      subst e1
      show Option.isSome _ = true
      kernel_rfl
     ·intro vs gq stq hl hf
      obtain ⟨v0, v1, v2, v3, v4, v5, v6, rfl⟩ := len_k7 hl
      have e1 := (show v1 = .bool true from hf _ (memI 7 rfl) (by kernel_rfl))
      subst e1
      show Option.isSome _ = true
      kernel_rfl
     ·intro vs gq stq hl hf
      obtain ⟨v0, v1, v2, v3, v4, v5, v6, rfl⟩ := len_k7 hl
      have e1 := (show v1 = .bool true from hf _ (memI 7 rfl) (by kernel_rfl))
      subst e1
      show Option.isSome _ = true
      kernel_rfl
     ·intro vs gq stq hl hf
      obtain ⟨v0, v1, v2, v3, v4, v5, v6, rfl⟩ := len_k7 hl
      have e1 := (show v1 = .bool true from hf _ (memI 7 rfl) (by kernel_rfl))
      subst e1
      show Option.isSome _ = true
      kernel_rfl
     ·intro vs gq stq hl hf
      obtain ⟨v0, v1, v2, v3, v4, v5, v6, rfl⟩ := len_k7 hl
      have e2 := (show v2 = .bool true from hf _ (memI 8 rfl) (by kernel_rfl))
      subst e2
      have e5 := (show v5 = .bool q9 from hf _ (memI 11 rfl) (by kernel_rfl))
      subst e5
      show Option.isSome _ = true
      kernel_rfl
     ·intro vs gq stq hl hf
      obtain ⟨v0, v1, v2, v3, v4, v5, v6, rfl⟩ := len_k7 hl
      have e6 := (show v6 = .bool false from hf _ (memI 13 rfl) (by kernel_rfl))
      subst e6
      show Option.isSome _ = true
      kernel_rfl
     ·intro vs gq stq hl hf
      obtain ⟨v0, v1, v2, v3, v4, v5, v6, rfl⟩ := len_k7 hl
      have e6 := (show v6 = .bool false from hf _ (memI 13 rfl) (by kernel_rfl))
      subst e6
      show Option.isSome _ = true
      kernel_rfl
     ·intro vs gq stq hl hf
      obtain ⟨v0, v1, v2, v3, v4, v5, v6, rfl⟩ := len_k7 hl
      have e6 := (show v6 = .bool false from hf _ (memI 13 rfl) (by kernel_rfl))
      subst e6
      show Option.isSome _ = true
      kernel_rfl
     ·intro vs gq stq hl hf
      obtain ⟨v0, v1, v2, v3, v4, v5, v6, rfl⟩ := len_k7 hl
      have e6 := (show v6 = .bool false from hf _ (memI 13 rfl) (by kernel_rfl))
      subst e6
      show Option.isSome _ = true
      kernel_rfl
     ·intro vs gq stq hl hf
      obtain ⟨v0, v1, v2, v3, v4, v5, v6, rfl⟩ := len_k7 hl
      have e6 := (show v6 = .bool false from hf _ (memI 13 rfl) (by kernel_rfl))
      subst e6
      show Option.isSome _ = true
      kernel_rfl
     ·intro vs gq stq hl hf
      obtain ⟨v0, v1, v2, v3, v4, v5, v6, rfl⟩ := len_k7 hl
      have e6 := (show v6 = .bool false from hf _ (memI 13 rfl) (by kernel_rfl))
      subst e6
      show Option.isSome _ = true
      kernel_rfl
     ·intro vs gq stq hl hf
      obtain ⟨v0, v1, v2, v3, v4, v5, v6, rfl⟩ := len_k7 hl
      have e6 := (show v6 = .bool false from hf _ (memI 13 rfl) (by kernel_rfl))
      subst e6
      show Option.isSome _ = true
      kernel_rfl
     ·intro vs gq stq hl hf
      obtain ⟨v0, v1, v2, v3, v4, v5, v6, rfl⟩ := len_k7 hl
      have e6 := (show v6 = .bool false from hf _ (memI 13 rfl) (by kernel_rfl))
      subst e6
      show Option.isSome _ = true
      kernel_rfl
     ·intro vs gq stq hl hf
      obtain ⟨v0, v1, v2, v3, v4, v5, v6, rfl⟩ := len_k7 hl
      have e6 := (show v6 = .bool false from hf _ (memI 13 rfl) (by kernel_rfl))
      subst e6
      show Option.isSome _ = true
      kernel_rfl
     ·intro vs gq stq hl hf
      obtain ⟨v0, v1, v2, v3, v4, v5, v6, rfl⟩ := len_k7 hl
      have e6 := (show v6 = .bool false from hf _ (memI 13 rfl) (by kernel_rfl))
      subst e6
      show Option.isSome _ = true
      kernel_rfl
     ·intro vs gq stq hl hf
      obtain ⟨v0, v1, v2, v3, v4, v5, v6, rfl⟩ := len_k7 hl
      have e6 := (show v6 = .bool false from hf _ (memI 13 rfl) (by kernel_rfl))
      subst e6
      show Option.isSome _ = true
      kernel_rfl
     ·intro vs gq stq hl hf
      obtain ⟨v0, v1, v2, v3, v4, v5, v6, rfl⟩ := len_k7 hl
      have e6 := (show v6 = .bool false from hf _ (memI 13 rfl) (by kernel_rfl))
      subst e6
      show Option.isSome _ = true
      kernel_rfl
     ·intro vs gq stq hl hf
      obtain ⟨v0, v1, v2, v3, v4, v5, v6, rfl⟩ := len_k7 hl
      have e6 := (show v6 = .bool false from hf _ (memI 13 rfl) (by kernel_rfl))
      subst e6
      show Option.isSome _ = true
      kernel_rfl
     ·intro vs gq stq hl hf
      obtain ⟨v0, v1, v2, v3, v4, v5, v6, rfl⟩ := len_k7 hl
      have e6 := (show v6 = .bool false from hf _ (memI 13 rfl) (by kernel_rfl))
      subst e6
      show Option.isSome _ = true
      kernel_rfl
    ·intro j hj
     have hq : j = 0 ∨ j = 1 ∨ j = 2 ∨ j = 3 ∨ j = 4 ∨ j = 5 ∨ j = 6 := by have h : j < 7 := hj; omega
     rcases hq with rfl | rfl | rfl | rfl | rfl | rfl | rfl
     ·intro vs gq stq hl hf
      obtain ⟨v0, v1, v2, v3, v4, v5, v6, rfl⟩ := len_k7 hl
      have hcal11 := P.baizelaw32_told gq q8 hk11
      refine WP.callC hcal11 (by kernel_rfl) ?_
      rintro _ g33 st33 rfl
      refine WP.dn (Shown.o (v := .bool q8) st33.pure ?_)
      exact ⟨tv, tv, tv, tv, tv, tv, rfl, tv, tv, tv, tv, tv, tv, tv, tv⟩
     ·intro vs gq stq hl hf
      obtain ⟨v0, v1, v2, v3, v4, v5, v6, rfl⟩ := len_k7 hl
      have e0 := (show v0 = .bool q8 from hf _ (memI 6 rfl) (by kernel_rfl))
      subst e0
      refine WP.stl 1 ?_
      refine WP.dn (Shown.ok (v := .bool q8) (by kernel_rfl) (Step.refl _ _) ?_)
      exact ⟨tv, tv, tv, tv, tv, tv, tv, congrArg Value.bool h6, tv, tv, tv, tv, tv, tv, tv⟩
     ·intro vs gq stq hl hf
      obtain ⟨v0, v1, v2, v3, v4, v5, v6, rfl⟩ := len_k7 hl
      have e1 := (show v1 = .bool true from hf _ (memI 7 rfl) (by kernel_rfl))
      subst e1
      refine WP.stl 1 ?_
      refine WP.dn (Shown.ok (v := .bool (x9 == x11)) (by kernel_rfl) (Step.refl _ _) ?_)
      exact ⟨tv, tv, tv, tv, tv, tv, tv, tv, congrArg Value.bool h7, tv, tv, tv, tv, tv, tv⟩
     ·intro vs gq stq hl hf
      obtain ⟨v0, v1, v2, v3, v4, v5, v6, rfl⟩ := len_k7 hl
      have hB17 := (show Box gq (t + 13) b10 65 [encA .u8 d11, [.int .i64 x13], [.slice a20 n20 c20], [.slice a21 n21 c21]] [8, 1, 1, 1] from hf _ (memI 3 rfl) (by kernel_rfl))
      have e2 := (show v2 = .bool true from hf _ (memI 8 rfl) (by kernel_rfl))
      subst e2
      refine WP.loadB (v := AG [encA .u8 d11, [.int .i64 x13], [.slice a20 n20 c20], [.slice a21 n21 c21]]) hB17 (by kernel_rfl) (by kernel_rfl) ?_
      refine WP.dn (Shown.ok (v := AG [encA .u8 d11, [.int .i64 x13], [.slice a20 n20 c20], [.slice a21 n21 c21]]) (by kernel_rfl) (Step.refl _ _) ?_)
      exact ⟨tv, tv, tv, tv, tv, tv, tv, tv, tv, rfl, tv, tv, tv, tv, tv⟩
     ·intro vs gq stq hl hf
      obtain ⟨v0, v1, v2, v3, v4, v5, v6, rfl⟩ := len_k7 hl
      have hB14 := (show Box gq (t + 11) b8 65 [encA .u8 d9, [.int .i64 x10], [.slice a16 n16 c16], [.slice a17 n17 c17]] [8, 1, 1, 1] from hf _ (memI 0 rfl) (by kernel_rfl))
      have e2 := (show v2 = .bool true from hf _ (memI 8 rfl) (by kernel_rfl))
      subst e2
      refine WP.loadB (v := AG [encA .u8 d9, [.int .i64 x10], [.slice a16 n16 c16], [.slice a17 n17 c17]]) hB14 (by kernel_rfl) (by kernel_rfl) ?_
      refine WP.dn (Shown.ok (v := AG [encA .u8 d9, [.int .i64 x10], [.slice a16 n16 c16], [.slice a17 n17 c17]]) (by kernel_rfl) (Step.refl _ _) ?_)
      exact ⟨tv, tv, tv, tv, tv, tv, tv, tv, tv, tv, rfl, tv, tv, tv, tv⟩
     ·intro vs gq stq hl hf
      obtain ⟨v0, v1, v2, v3, v4, v5, v6, rfl⟩ := len_k7 hl
      have hR16 := (show RdS (Kd.int .u8) gq 5 a16 n16 c16 l16 from hf _ (memI 1 rfl) (by kernel_rfl))
      have hR17 := (show OwnS (Kd.slice 5 (Kd.int .u8)) gq (t + 10) 24 a17 n17 c17 l17 from hf _ (memI 2 rfl) (by kernel_rfl))
      have hR20 := (show RdS (Kd.int .u8) gq 5 a20 n20 c20 l20 from hf _ (memI 4 rfl) (by kernel_rfl))
      have hR21 := (show RdS (Kd.slice 5 (Kd.int .u8)) gq 24 a21 n21 c21 l21 from hf _ (memI 5 rfl) (by kernel_rfl))
      have e2 := (show v2 = .bool true from hf _ (memI 8 rfl) (by kernel_rfl))
      subst e2
      have e3 := (show v3 = AG [encA .u8 d11, [.int .i64 x13], [.slice a20 n20 c20], [.slice a21 n21 c21]] from hf _ (memI 9 rfl) (by kernel_rfl))
      subst e3
      have e4 := (show v4 = AG [encA .u8 d9, [.int .i64 x10], [.slice a16 n16 c16], [.slice a17 n17 c17]] from hf _ (memI 10 rfl) (by kernel_rfl))
      subst e4
      have hS2 : 0 ∉ ([(t + 10)] : List Nat) := by simp <;> omega
      have stl2 := GW.lend_step gq [(t + 10)]
      have hRl2 := hR17.lendTo hS2 (by simp)
      refine WP.regw (g' := GW.lend gq [(t + 10)]) rfl ?_
      have hcal12 := P.baizeref32_Same (GW.lend gq [(t + 10)]) d11 x13 l20 l21 d9 x10 l16 l17 a20 n20 c20 a21 n21 c21 a16 n16 c16 a17 n17 c17 (hR20.mono stl2 (WL.no (by simp <;> omega))) (hR21.mono stl2 (WL.no (by simp <;> omega))) (hR16.mono stl2 (WL.no (by simp <;> omega))) hRl2 q9 hk12
      refine WP.callC hcal12 (by kernel_rfl) ?_
      rintro _ g34 st34 rfl
      have st35 := (GW.back_step st34).lentS
      have hO2 := hR17.backTo hS2 (by simp) st34 (fun x => x)
      refine WP.regw (g' := GW.back gq g34 [(t + 10)]) rfl ?_
      generalize GW.back gq g34 [(t + 10)] = g35 at *
      refine WP.dn (Shown.o (v := .bool q9) st35 ?_)
      exact ⟨tv, tv, tv, tv, tv, tv, tv, tv, tv, tv, tv, rfl, hO2, tv, tv⟩
     ·intro vs gq stq hl hf
      obtain ⟨v0, v1, v2, v3, v4, v5, v6, rfl⟩ := len_k7 hl
      have e2 := (show v2 = .bool true from hf _ (memI 8 rfl) (by kernel_rfl))
      subst e2
      have e5 := (show v5 = .bool q9 from hf _ (memI 11 rfl) (by kernel_rfl))
      subst e5
      refine WP.stl 1 ?_
      refine WP.dn (Shown.ok (v := .bool q9) (by kernel_rfl) (Step.refl _ _) ?_)
      exact ⟨tv, tv, tv, tv, tv, tv, tv, tv, tv, tv, tv, tv, tv, congrArg Value.bool h8, tv⟩
    intro vs g41 st41 hl hf
    obtain ⟨v0, v1, v2, v3, v4, v5, v6, rfl⟩ := len_k7 hl
    have e6 := (show v6 = .bool false from hf _ (memI 13 rfl) (by kernel_rfl))
    subst e6
    replace tot := tot.trans (st41.up1 (.inr (by omega)))
    refine NX.post ?_
    exact ⟨false, ⟨by kernel_rfl, by kernel_rfl⟩, tot, hs⟩
   replace hs := of_if_f hs h7
   refine CP.drawL (by kernel_rfl) [0, 1, 6] N.baizelaw32_StateJoins_0 [⟨some 0, [], [0], fun l g => l.getD 0 undef = .bool q8⟩, ⟨some 1, [], [1], fun l g => l.getD 0 undef = .bool true⟩, ⟨some 2, [], [2], fun l g => l.getD 0 undef = .bool false⟩] [[], [], []] [] [] [2, 3, 4, 5, 7, 8, 9, 10, 11, 12, 13, 14, 15, 16, 17, 18, 19, 20, 21, 22, 23, 24, 25] (by kernel_rfl) (by simp) (by simp) ⟨fun _ _ _ _ st h0 hl hj e0 => e0, fun _ _ _ _ st h0 hl hj e1 => e1, fun _ _ _ _ st h0 hl hj e2 => e2, tv⟩ ⟨tv, tv, tv, tv⟩ (by kernel_rfl) (fun vs => by kernel_rfl) ?_ ?_ ?_
   ·intro j hj
    have hq : j = 0 ∨ j = 1 ∨ j = 2 ∨ j = 3 ∨ j = 4 ∨ j = 5 ∨ j = 6 ∨ j = 7 ∨ j = 8 ∨ j = 9 ∨ j = 10 ∨ j = 11 ∨ j = 12 ∨ j = 13 ∨ j = 14 ∨ j = 15 ∨ j = 16 ∨ j = 17 ∨ j = 18 ∨ j = 19 ∨ j = 20 ∨ j = 21 ∨ j = 22 := by have h : j < 23 := hj; omega
    rcases hq with rfl | rfl | rfl | rfl | rfl | rfl | rfl | rfl | rfl | rfl | rfl | rfl | rfl | rfl | rfl | rfl | rfl | rfl | rfl | rfl | rfl | rfl | rfl
    ·intro vs gq stq hl hf
     obtain ⟨v0, v1, v2, rfl⟩ := len_k3 hl
     have e1 := (show v1 = .bool true from hf _ (memI 1 rfl) (by kernel_rfl))
     subst e1
     show Option.isSome _ = true
     kernel_rfl
    ·intro vs gq stq hl hf
     obtain ⟨v0, v1, v2, rfl⟩ := len_k3 hl
     have e1 := (show v1 = .bool true from hf _ (memI 1 rfl) (by kernel_rfl))
     subst e1
     show Option.isSome _ = true
     kernel_rfl
    ·intro vs gq stq hl hf
     obtain ⟨v0, v1, v2, rfl⟩ := len_k3 hl
     have e1 := (show v1 = .bool true from hf _ (memI 1 rfl) (by kernel_rfl))
     subst e1
     show Option.isSome _ = true
     kernel_rfl
    ·intro vs gq stq hl hf
     obtain ⟨v0, v1, v2, rfl⟩ := len_k3 hl
     have e1 := (show v1 = .bool true from hf _ (memI 1 rfl) (by kernel_rfl))
     subst e1
     show Option.isSome _ = true
     kernel_rfl
    ·intro vs gq stq hl hf
     obtain ⟨v0, v1, v2, rfl⟩ := len_k3 hl
     have e2 := (show v2 = .bool false from hf _ (memI 2 rfl) (by kernel_rfl))
     subst e2
     show Option.isSome _ = true
     kernel_rfl
    ·intro vs gq stq hl hf
     obtain ⟨v0, v1, v2, rfl⟩ := len_k3 hl
     have e2 := (show v2 = .bool false from hf _ (memI 2 rfl) (by kernel_rfl))
     subst e2
     show Option.isSome _ = true
     kernel_rfl
    ·intro vs gq stq hl hf
     obtain ⟨v0, v1, v2, rfl⟩ := len_k3 hl
     have e2 := (show v2 = .bool false from hf _ (memI 2 rfl) (by kernel_rfl))
     subst e2
     show Option.isSome _ = true
     kernel_rfl
    ·intro vs gq stq hl hf
     obtain ⟨v0, v1, v2, rfl⟩ := len_k3 hl
     have e2 := (show v2 = .bool false from hf _ (memI 2 rfl) (by kernel_rfl))
     subst e2
     show Option.isSome _ = true
     kernel_rfl
    ·intro vs gq stq hl hf
     obtain ⟨v0, v1, v2, rfl⟩ := len_k3 hl
     have e2 := (show v2 = .bool false from hf _ (memI 2 rfl) (by kernel_rfl))
     subst e2
     show Option.isSome _ = true
     kernel_rfl
    ·intro vs gq stq hl hf
     obtain ⟨v0, v1, v2, rfl⟩ := len_k3 hl
     have e2 := (show v2 = .bool false from hf _ (memI 2 rfl) (by kernel_rfl))
     subst e2
     show Option.isSome _ = true
     kernel_rfl
    ·intro vs gq stq hl hf
     obtain ⟨v0, v1, v2, rfl⟩ := len_k3 hl
     have e2 := (show v2 = .bool false from hf _ (memI 2 rfl) (by kernel_rfl))
     subst e2
     show Option.isSome _ = true
     kernel_rfl
    ·intro vs gq stq hl hf
     obtain ⟨v0, v1, v2, rfl⟩ := len_k3 hl
     have e2 := (show v2 = .bool false from hf _ (memI 2 rfl) (by kernel_rfl))
     subst e2
     show Option.isSome _ = true
     kernel_rfl
    ·intro vs gq stq hl hf
     obtain ⟨v0, v1, v2, rfl⟩ := len_k3 hl
     have e2 := (show v2 = .bool false from hf _ (memI 2 rfl) (by kernel_rfl))
     subst e2
     show Option.isSome _ = true
     kernel_rfl
    ·intro vs gq stq hl hf
     obtain ⟨v0, v1, v2, rfl⟩ := len_k3 hl
     have e2 := (show v2 = .bool false from hf _ (memI 2 rfl) (by kernel_rfl))
     subst e2
     show Option.isSome _ = true
     kernel_rfl
    ·intro vs gq stq hl hf
     obtain ⟨v0, v1, v2, rfl⟩ := len_k3 hl
     have e2 := (show v2 = .bool false from hf _ (memI 2 rfl) (by kernel_rfl))
     subst e2
     show Option.isSome _ = true
     kernel_rfl
    ·intro vs gq stq hl hf
     obtain ⟨v0, v1, v2, rfl⟩ := len_k3 hl
     have e2 := (show v2 = .bool false from hf _ (memI 2 rfl) (by kernel_rfl))
     subst e2
     show Option.isSome _ = true
     kernel_rfl
    ·intro vs gq stq hl hf
     obtain ⟨v0, v1, v2, rfl⟩ := len_k3 hl
     have e2 := (show v2 = .bool false from hf _ (memI 2 rfl) (by kernel_rfl))
     subst e2
     show Option.isSome _ = true
     kernel_rfl
    ·intro vs gq stq hl hf
     obtain ⟨v0, v1, v2, rfl⟩ := len_k3 hl
     have e2 := (show v2 = .bool false from hf _ (memI 2 rfl) (by kernel_rfl))
     subst e2
     show Option.isSome _ = true
     kernel_rfl
    ·intro vs gq stq hl hf
     obtain ⟨v0, v1, v2, rfl⟩ := len_k3 hl
     have e2 := (show v2 = .bool false from hf _ (memI 2 rfl) (by kernel_rfl))
     subst e2
     show Option.isSome _ = true
     kernel_rfl
    ·intro vs gq stq hl hf
     obtain ⟨v0, v1, v2, rfl⟩ := len_k3 hl
     have e2 := (show v2 = .bool false from hf _ (memI 2 rfl) (by kernel_rfl))
     subst e2
     show Option.isSome _ = true
     kernel_rfl
    ·intro vs gq stq hl hf
     obtain ⟨v0, v1, v2, rfl⟩ := len_k3 hl
     have e2 := (show v2 = .bool false from hf _ (memI 2 rfl) (by kernel_rfl))
     subst e2
     show Option.isSome _ = true
     kernel_rfl
    ·intro vs gq stq hl hf
     obtain ⟨v0, v1, v2, rfl⟩ := len_k3 hl
     have e2 := (show v2 = .bool false from hf _ (memI 2 rfl) (by kernel_rfl))
     subst e2
     show Option.isSome _ = true
     kernel_rfl
    ·intro vs gq stq hl hf
     obtain ⟨v0, v1, v2, rfl⟩ := len_k3 hl
     have e2 := (show v2 = .bool false from hf _ (memI 2 rfl) (by kernel_rfl))
     subst e2
     show Option.isSome _ = true
     kernel_rfl
   ·intro j hj
    have hq : j = 0 ∨ j = 1 ∨ j = 2 := by have h : j < 3 := hj; omega
    rcases hq with rfl | rfl | rfl
    ·intro vs gq stq hl hf
     obtain ⟨v0, v1, v2, rfl⟩ := len_k3 hl
     have hcal11 := P.baizelaw32_told gq q8 hk11
     refine WP.callC hcal11 (by kernel_rfl) ?_
     rintro _ g33 st33 rfl
     refine WP.dn (Shown.o (v := .bool q8) st33.pure ?_)
     exact ⟨rfl, tv, tv, tv⟩
    ·intro vs gq stq hl hf
     obtain ⟨v0, v1, v2, rfl⟩ := len_k3 hl
     have e0 := (show v0 = .bool q8 from hf _ (memI 0 rfl) (by kernel_rfl))
     subst e0
     refine WP.stl 1 ?_
     refine WP.dn (Shown.ok (v := .bool q8) (by kernel_rfl) (Step.refl _ _) ?_)
     exact ⟨tv, congrArg Value.bool h6, tv, tv⟩
    ·intro vs gq stq hl hf
     obtain ⟨v0, v1, v2, rfl⟩ := len_k3 hl
     have e1 := (show v1 = .bool true from hf _ (memI 1 rfl) (by kernel_rfl))
     subst e1
     refine WP.stl 1 ?_
     refine WP.dn (Shown.ok (v := .bool (x9 == x11)) (by kernel_rfl) (Step.refl _ _) ?_)
     exact ⟨tv, tv, congrArg Value.bool h7, tv⟩
   intro vs g42 st42 hl hf
   obtain ⟨v0, v1, v2, rfl⟩ := len_k3 hl
   have e2 := (show v2 = .bool false from hf _ (memI 2 rfl) (by kernel_rfl))
   subst e2
   replace tot := tot.trans st42.toNo.pure
   refine NX.post ?_
   exact ⟨false, ⟨by kernel_rfl, by kernel_rfl⟩, tot, hs⟩
  replace hs := of_if_f hs h6
  refine CP.drawL (by kernel_rfl) [0, 1] N.baizelaw32_StateJoins_0 [⟨some 0, [], [0], fun l g => l.getD 0 undef = .bool q8⟩, ⟨some 1, [], [1], fun l g => l.getD 0 undef = .bool false⟩] [[], []] [] [] [2, 3, 4, 5, 6, 7, 8, 9, 10, 11, 12, 13, 14, 15, 16, 17, 18, 19, 20, 21, 22, 23, 24, 25] (by kernel_rfl) (by simp) (by simp) ⟨fun _ _ _ _ st h0 hl hj e0 => e0, fun _ _ _ _ st h0 hl hj e1 => e1, tv⟩ ⟨tv, tv, tv⟩ (by kernel_rfl) (fun vs => by kernel_rfl) ?_ ?_ ?_
  ·intro j hj
   have hq : j = 0 ∨ j = 1 ∨ j = 2 ∨ j = 3 ∨ j = 4 ∨ j = 5 ∨ j = 6 ∨ j = 7 ∨ j = 8 ∨ j = 9 ∨ j = 10 ∨ j = 11 ∨ j = 12 ∨ j = 13 ∨ j = 14 ∨ j = 15 ∨ j = 16 ∨ j = 17 ∨ j = 18 ∨ j = 19 ∨ j = 20 ∨ j = 21 ∨ j = 22 ∨ j = 23 := by have h : j < 24 := hj; omega
   rcases hq with rfl | rfl | rfl | rfl | rfl | rfl | rfl | rfl | rfl | rfl | rfl | rfl | rfl | rfl | rfl | rfl | rfl | rfl | rfl | rfl | rfl | rfl | rfl | rfl
   ·intro vs gq stq hl hf
    obtain ⟨v0, v1, rfl⟩ := len_k2 hl
    have e1 := (show v1 = .bool false from hf _ (memI 1 rfl) (by kernel_rfl))
    subst e1
    show Option.isSome _ = true
    kernel_rfl
   ·intro vs gq stq hl hf
    obtain ⟨v0, v1, rfl⟩ := len_k2 hl
    have e1 := (show v1 = .bool false from hf _ (memI 1 rfl) (by kernel_rfl))
    subst e1
    show Option.isSome _ = true
    kernel_rfl
   ·intro vs gq stq hl hf
    obtain ⟨v0, v1, rfl⟩ := len_k2 hl
    have e1 := (show v1 = .bool false from hf _ (memI 1 rfl) (by kernel_rfl))
    subst e1
    show Option.isSome _ = true
    kernel_rfl
   ·intro vs gq stq hl hf
    obtain ⟨v0, v1, rfl⟩ := len_k2 hl
    have e1 := (show v1 = .bool false from hf _ (memI 1 rfl) (by kernel_rfl))
    subst e1
    show Option.isSome _ = true
    kernel_rfl
   ·intro vs gq stq hl hf
    obtain ⟨v0, v1, rfl⟩ := len_k2 hl
    have e1 := (show v1 = .bool false from hf _ (memI 1 rfl) (by kernel_rfl))
    subst e1
    show Option.isSome _ = true
    kernel_rfl
   ·intro vs gq stq hl hf
    obtain ⟨v0, v1, rfl⟩ := len_k2 hl
    have e1 := (show v1 = .bool false from hf _ (memI 1 rfl) (by kernel_rfl))
    subst e1
    show Option.isSome _ = true
    kernel_rfl
   ·intro vs gq stq hl hf
    obtain ⟨v0, v1, rfl⟩ := len_k2 hl
    have e1 := (show v1 = .bool false from hf _ (memI 1 rfl) (by kernel_rfl))
    subst e1
    show Option.isSome _ = true
    kernel_rfl
   ·intro vs gq stq hl hf
    obtain ⟨v0, v1, rfl⟩ := len_k2 hl
    have e1 := (show v1 = .bool false from hf _ (memI 1 rfl) (by kernel_rfl))
    subst e1
    show Option.isSome _ = true
    kernel_rfl
   ·intro vs gq stq hl hf
    obtain ⟨v0, v1, rfl⟩ := len_k2 hl
    have e1 := (show v1 = .bool false from hf _ (memI 1 rfl) (by kernel_rfl))
    subst e1
    show Option.isSome _ = true
    kernel_rfl
   ·intro vs gq stq hl hf
    obtain ⟨v0, v1, rfl⟩ := len_k2 hl
    have e1 := (show v1 = .bool false from hf _ (memI 1 rfl) (by kernel_rfl))
    subst e1
    show Option.isSome _ = true
    kernel_rfl
   ·intro vs gq stq hl hf
    obtain ⟨v0, v1, rfl⟩ := len_k2 hl
    have e1 := (show v1 = .bool false from hf _ (memI 1 rfl) (by kernel_rfl))
    subst e1
    show Option.isSome _ = true
    kernel_rfl
   ·intro vs gq stq hl hf
    obtain ⟨v0, v1, rfl⟩ := len_k2 hl
    have e1 := (show v1 = .bool false from hf _ (memI 1 rfl) (by kernel_rfl))
    subst e1
    show Option.isSome _ = true
    kernel_rfl
   ·intro vs gq stq hl hf
    obtain ⟨v0, v1, rfl⟩ := len_k2 hl
    have e1 := (show v1 = .bool false from hf _ (memI 1 rfl) (by kernel_rfl))
    subst e1
    show Option.isSome _ = true
    kernel_rfl
   ·intro vs gq stq hl hf
    obtain ⟨v0, v1, rfl⟩ := len_k2 hl
    have e1 := (show v1 = .bool false from hf _ (memI 1 rfl) (by kernel_rfl))
    subst e1
    show Option.isSome _ = true
    kernel_rfl
   ·intro vs gq stq hl hf
    obtain ⟨v0, v1, rfl⟩ := len_k2 hl
    have e1 := (show v1 = .bool false from hf _ (memI 1 rfl) (by kernel_rfl))
    subst e1
    show Option.isSome _ = true
    kernel_rfl
   ·intro vs gq stq hl hf
    obtain ⟨v0, v1, rfl⟩ := len_k2 hl
    have e1 := (show v1 = .bool false from hf _ (memI 1 rfl) (by kernel_rfl))
    subst e1
    show Option.isSome _ = true
    kernel_rfl
   ·intro vs gq stq hl hf
    obtain ⟨v0, v1, rfl⟩ := len_k2 hl
    have e1 := (show v1 = .bool false from hf _ (memI 1 rfl) (by kernel_rfl))
    subst e1
    show Option.isSome _ = true
    kernel_rfl
   ·intro vs gq stq hl hf
    obtain ⟨v0, v1, rfl⟩ := len_k2 hl
    have e1 := (show v1 = .bool false from hf _ (memI 1 rfl) (by kernel_rfl))
    subst e1
    show Option.isSome _ = true
    kernel_rfl
   ·intro vs gq stq hl hf
    obtain ⟨v0, v1, rfl⟩ := len_k2 hl
    have e1 := (show v1 = .bool false from hf _ (memI 1 rfl) (by kernel_rfl))
    subst e1
    show Option.isSome _ = true
    kernel_rfl
   ·intro vs gq stq hl hf
    obtain ⟨v0, v1, rfl⟩ := len_k2 hl
    have e1 := (show v1 = .bool false from hf _ (memI 1 rfl) (by kernel_rfl))
    subst e1
    show Option.isSome _ = true
    kernel_rfl
   ·intro vs gq stq hl hf
    obtain ⟨v0, v1, rfl⟩ := len_k2 hl
    have e1 := (show v1 = .bool false from hf _ (memI 1 rfl) (by kernel_rfl))
    subst e1
    show Option.isSome _ = true
    kernel_rfl
   ·intro vs gq stq hl hf
    obtain ⟨v0, v1, rfl⟩ := len_k2 hl
    have e1 := (show v1 = .bool false from hf _ (memI 1 rfl) (by kernel_rfl))
    subst e1
    show Option.isSome _ = true
    kernel_rfl
   ·intro vs gq stq hl hf
    obtain ⟨v0, v1, rfl⟩ := len_k2 hl
    have e1 := (show v1 = .bool false from hf _ (memI 1 rfl) (by kernel_rfl))
    subst e1
    show Option.isSome _ = true
    kernel_rfl
   ·intro vs gq stq hl hf
    obtain ⟨v0, v1, rfl⟩ := len_k2 hl
    have e1 := (show v1 = .bool false from hf _ (memI 1 rfl) (by kernel_rfl))
    subst e1
    show Option.isSome _ = true
    kernel_rfl
  ·intro j hj
   have hq : j = 0 ∨ j = 1 := by have h : j < 2 := hj; omega
   rcases hq with rfl | rfl
   ·intro vs gq stq hl hf
    obtain ⟨v0, v1, rfl⟩ := len_k2 hl
    have hcal11 := P.baizelaw32_told gq q8 hk11
    refine WP.callC hcal11 (by kernel_rfl) ?_
    rintro _ g33 st33 rfl
    refine WP.dn (Shown.o (v := .bool q8) st33.pure ?_)
    exact ⟨rfl, tv, tv⟩
   ·intro vs gq stq hl hf
    obtain ⟨v0, v1, rfl⟩ := len_k2 hl
    have e0 := (show v0 = .bool q8 from hf _ (memI 0 rfl) (by kernel_rfl))
    subst e0
    refine WP.stl 1 ?_
    refine WP.dn (Shown.ok (v := .bool q8) (by kernel_rfl) (Step.refl _ _) ?_)
    exact ⟨tv, congrArg Value.bool h6, tv⟩
  intro vs g43 st43 hl hf
  obtain ⟨v0, v1, rfl⟩ := len_k2 hl
  have e1 := (show v1 = .bool false from hf _ (memI 1 rfl) (by kernel_rfl))
  subst e1
  replace tot := tot.trans st43.toNo.pure
  refine NX.post ?_
  exact ⟨false, ⟨by kernel_rfl, by kernel_rfl⟩, tot, hs⟩
 clear tot hs hB4 hR6 hR7 hB5 hR8 hR9 hB8 hR10 hR11 hB9 hR12 hR13 hB14 hR16 hR17 hB17 hR20 hR21
 rintro tm g ⟨q7, hF, tot, hs⟩
 clear ds
 obtain ⟨ds, rfl⟩ := hF.open
 clear hF
 unfold F.baizelaw32_StateJoins.c2 at hs
 refine CP.ret ?_
 replace hs := Option.some.inj hs
 obtain rfl := hs
 exact NX.fin (v := .bool q7) (Res.still (by kernel_rfl)) tot htL rfl
end Go.Proofs.Ythfmgobnanifnaa
