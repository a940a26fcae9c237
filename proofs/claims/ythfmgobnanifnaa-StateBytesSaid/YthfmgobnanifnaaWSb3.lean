/-
  Walks, written by program: each Go function computes the plain function of its name, in whatever world its arguments' facts hold.
-/
import Derived.Test.YthfmgobnanifnaaWSb2
namespace Go.Proofs.Ythfmgobnanifnaa
open Go.RowKit Go.Lab
attribute [local irreducible] WP CP NX wpList Code.wp Calls
set_option maxRecDepth 100000
set_option maxHeartbeats 4000000
set_option linter.unusedVariables false

def F.state_Decode_1_2 (l1 : List Int) (x1 : Int) (d1 : Arr Int 8) (x2 : Int) (l2 : List Int) (l3 : List (List Int)) (x3 : Int) : Option ((List Int) × Int × (Arr Int 8) × Int × (List Int) × (List (List Int)) × Int) := (if (x3 != 0) = true then (some (l1, x1, d1, x2, l2, l3, x3)) else ((F.state_Decode_2_2 l1 x1 d1 x2 l2 l3).bind fun (q1, d2, x4, d3, x5, d4, d5) => ((F.octet_Reader_Err d2 x4).bind fun x6 => (if (x6 != 0) = true then ((F.octet_Reader_Err d2 x4).bind fun x7 => (some (d2, x4, d3, x5, d4, d5, x7))) else (if (!q1) = true then (some (d2, x4, d3, x5, d4, d5, 3)) else (some (d2, x4, d3, x5, d4, d5, x3)))))))
theorem P.state_Decode_1_2 (g0 : GW) (m0 : Nat) (m1 : Nat) (m2 : Nat) (m3 : Nat) (m4 : Nat) (m5 : Nat) (l1 : List Int) (x1 : Int) (d1 : Arr Int 8) (x2 : Int) (l2 : List Int) (l3 : List (List Int)) (x3 : Int) (a1 : Option Addr) (n1 : Nat) (c1 : Nat) (a2 : Option Addr) (n2 : Nat) (c2 : Nat) (a3 : Option Addr) (n3 : Nat) (c3 : Nat) (b1 : Nat) (b2 : Nat) (b3 : Nat) (b4 : Nat) (hR1 : RdS (Kd.int .u8) g0 5 a1 n1 c1 l1) (hR2 : OwnS (Kd.int .u8) g0 m3 5 a2 n2 c2 l2) (hR3 : OwnS (Kd.slice 5 (Kd.int .u8)) g0 m4 24 a3 n3 c3 l3) (hB1 : Box g0 m1 b2 126 [[.slice a1 n1 c1], [.int .i64 x1]] [1, 1]) (hB2 : Box g0 m0 b1 101 [[.pointer (some ⟨b2, 0, none⟩)]] [1]) (hB3 : Box g0 m2 b3 61 [encA .u8 d1, [.int .i64 x2], [.slice a2 n2 c2], [.slice a3 n3 c3]] [8, 1, 1, 1]) (hB4 : Box g0 m5 b4 43 [[.int .i64 x3]] [1]) (hm1_0 : m1 ≠ m0) (hm2_0 : m2 ≠ m0) (hm2_1 : m2 ≠ m1) (hm3_0 : m3 ≠ m0) (hm3_1 : m3 ≠ m1) (hm3_2 : m3 ≠ m2) (hm4_0 : m4 ≠ m0) (hm4_1 : m4 ≠ m1) (hm4_2 : m4 ≠ m2) (hm4_3 : m4 ≠ m3) (hm5_0 : m5 ≠ m0) (hm5_1 : m5 ≠ m1) (hm5_2 : m5 ≠ m2) (hm5_3 : m5 ≠ m3) (hm5_4 : m5 ≠ m4) (hm0 : m0 ≠ 0) (hm1 : m1 ≠ 0) (hm2 : m2 ≠ 0) (hm3 : m3 ≠ 0) (hm4 : m4 ≠ 0) (hm5 : m5 ≠ 0) (o1 : (List Int)) (o2 : Int) (o3 : (Arr Int 8)) (o4 : Int) (o5 : (List Int)) (o6 : (List (List Int))) (o7 : Int) (hs : F.state_Decode_1_2 l1 x1 d1 x2 l2 l3 x3 = some (o1, o2, o3, o4, o5, o6, o7)) :
  Calls Try.prog 50 #[.func (.func 52) #[] #[.pointer (some ⟨b1, 0, none⟩), .pointer (some ⟨b3, 0, none⟩)], .pointer (some ⟨b4, 0, none⟩), .pointer (some ⟨b1, 0, none⟩)] g0.w (Ret (WL [m1, m2, m5, m3, m4]) g0 fun v g => ∃ (a_1 : Option Addr) (n_1 : Nat) (c_1 : Nat) (a_4 : Option Addr) (n_4 : Nat) (c_4 : Nat) (a_7 : Option Addr) (n_7 : Nat) (c_7 : Nat), v = .tuple #[] ∧ RdS (Kd.int .u8) g 5 a_1 n_1 c_1 o1 ∧ Box g m1 b2 126 [[.slice a_1 n_1 c_1], [.int .i64 o2]] [1, 1] ∧ OwnS (Kd.int .u8) g m3 5 a_4 n_4 c_4 o5 ∧ OwnS (Kd.slice 5 (Kd.int .u8)) g m4 24 a_7 n_7 c_7 o6 ∧ Box g m2 b3 61 [encA .u8 o3, [.int .i64 o4], [.slice a_4 n_4 c_4], [.slice a_7 n_7 c_7]] [8, 1, 1, 1] ∧ Box g m5 b4 43 [[.int .i64 o7]] [1]) := by
 refine calls_of (args := [.func (.func 52) #[] #[.pointer (some ⟨b1, 0, none⟩), .pointer (some ⟨b3, 0, none⟩)], .pointer (some ⟨b4, 0, none⟩), .pointer (some ⟨b1, 0, none⟩)]) Try.func50 rfl (m0 + m1 + m2 + m3 + m4 + m5 + 0) ?_
 intro t ht htL
 refine ⟨_, rfl, ?_⟩
 refine CP.refr 18 [(0, .func (.func 52) #[] #[.pointer (some ⟨b1, 0, none⟩), .pointer (some ⟨b3, 0, none⟩)]), (1, .pointer (some ⟨b4, 0, none⟩)), (2, .pointer (some ⟨b1, 0, none⟩))] (by kernel_rfl) (by kernel_rfl) ?_
 intro ds
 have tot : Step (fun l => (WL [m1, m2, m5, m3, m4]) l ∨ t ≤ l) g0 g0 := Step.refl _ _
 unfold F.state_Decode_1_2 at hs
 refine CP.seq ?_
 refine CP.seqR ?_
 refine WP.loadB (v := .int .i64 x3) hB4 (by kernel_rfl) (by kernel_rfl) ?_
 refine WP.stl 1 ?_
 refine WP.dn ?_
 refine NX.then_n ?_
 refine CP.cond (b := (x3 != 0)) (by kernel_rfl) (fun h1 => ?_) (fun h1 => ?_)
 ·replace hs := of_if_t hs h1
  refine CP.ret ?_
  refine NX.then_r ?_
  replace hs := Option.some.inj hs
  simp only [Prod.mk.injEq] at hs
  obtain ⟨rfl, rfl, rfl, rfl, rfl, rfl, rfl⟩ := hs
  exact NX.fin (v := .tuple #[]) (Res.still (by kernel_rfl)) tot htL ⟨a1, n1, c1, a2, n2, c2, a3, n3, c3, rfl, hR1, hB1, hR2, hR3, hB3, hB4⟩
 replace hs := of_if_f hs h1
 refine CP.skip ?_
 refine NX.then_n ?_
 refine CP.seqR ?_
 refine WP.stl 1 ?_
 replace hs := Option.bind_eq_some_iff.1 hs
 obtain ⟨⟨q1, d2, x4, d3, x5, d4, d5⟩, hk1, hs⟩ := hs
 dsimp only at hs
 have hcal1 := P.state_Decode_2_2 g0 m0 m1 m2 m3 m4 l1 x1 d1 x2 l2 l3 a1 n1 c1 a2 n2 c2 a3 n3 c3 b1 b2 b3 hR1 hR2 hR3 hB1 hB2 hB3 (by omega) (by omega) (by omega) (by omega) (by omega) (by omega) (by omega) (by omega) (by omega) (by omega) (by omega) (by omega) (by omega) (by omega) (by omega) q1 d2 x4 d3 x5 d4 d5 hk1
 refine WP.callC hcal1 (by kernel_rfl) ?_
 rintro _ g1 st1 ⟨a4, n4, c4, a5, n5, c5, a6, n6, c6, rfl, hR4, hB5, hR5, hR6, hB6⟩
 replace hB2 := hB2.mono st1 (WL.no (by simp <;> omega))
 replace hB4 := hB4.mono st1 (WL.no (by simp <;> omega))
 replace tot := tot.trans (st1.up (by intro l hl; simp at hl; rcases hl with rfl | rfl | rfl | rfl <;> first | exact .inr (by omega) | exact .inl (by simp [WL])))
 clear hB1
 have hB1 := hB5
 clear hB5
 clear hB3
 have hB3 := hB6
 clear hB6
 refine WP.stl 1 ?_
 refine WP.dn ?_
 refine NX.then_n ?_
 refine CP.block ?_
 refine CP.seqR ?_
 refine WP.loadB (v := .pointer (some ⟨b2, 0, none⟩)) hB2 (by kernel_rfl) (by kernel_rfl) ?_
 replace hs := Option.bind_eq_some_iff.1 hs
 obtain ⟨x6, hk2, hs⟩ := hs
 have hcal2 := P.octet_Reader_Err g1 m1 d2 x4 a4 n4 c4 b2 hR4 hB1 (by omega) x6 hk2
 refine WP.callC hcal2 (by kernel_rfl) ?_
 rintro _ g2 st2 rfl
 replace hB4 := hB4.mono st2 (fun x => x)
 replace hB2 := hB2.mono st2 (fun x => x)
 replace hB1 := hB1.mono st2 (fun x => x)
 replace hR4 := hR4.mono st2 (fun x => x)
 replace hB3 := hB3.mono st2 (fun x => x)
 replace hR5 := hR5.mono st2 (fun x => x) (fun x => x)
 replace hR6 := hR6.mono st2 (fun x => x) (fun x => x)
 replace tot := tot.trans st2.pure
 refine WP.stl 2 ?_
 refine WP.dn ?_
 refine NX.then_n ?_
 refine CP.cond (b := (x6 != 0)) (by kernel_rfl) (fun h2 => ?_) (fun h2 => ?_)
 ·replace hs := of_if_t hs h2
  refine CP.region ?_
  refine WP.loadB (v := .pointer (some ⟨b2, 0, none⟩)) hB2 (by kernel_rfl) (by kernel_rfl) ?_
  replace hs := Option.bind_eq_some_iff.1 hs
  obtain ⟨x7, hk3, hs⟩ := hs
  have hcal3 := P.octet_Reader_Err g2 m1 d2 x4 a4 n4 c4 b2 hR4 hB1 (by omega) x7 hk3
  refine WP.callC hcal3 (by kernel_rfl) ?_
  rintro _ g3 st3 rfl
  replace hB4 := hB4.mono st3 (fun x => x)
  replace hB2 := hB2.mono st3 (fun x => x)
  replace hB1 := hB1.mono st3 (fun x => x)
  replace hR4 := hR4.mono st3 (fun x => x)
  replace hB3 := hB3.mono st3 (fun x => x)
  replace hR5 := hR5.mono st3 (fun x => x) (fun x => x)
  replace hR6 := hR6.mono st3 (fun x => x) (fun x => x)
  replace tot := tot.trans st3.pure
  refine WP.storeB (ty := 43) (off := 0) (v := .int .i64 x7) hB4 [[.int .i64 x7]] [1] (by kernel_rfl) (by kernel_rfl) rfl (by kernel_rfl) [[.int .i64 x7]] (by kernel_rfl) (.one rfl .nil) ?_
  intro g4 st4 hB7
  replace hB2 := hB2.mono st4 (WL.no1 (by omega))
  replace hB1 := hB1.mono st4 (WL.no1 (by omega))
  replace hR4 := hR4.mono st4 (WL.no1 (by omega))
  replace hB3 := hB3.mono st4 (WL.no1 (by omega))
  replace hR5 := hR5.mono st4 (WL.no1 (by omega)) (WL.no1 (by omega))
  replace hR6 := hR6.mono st4 (WL.no1 (by omega)) (WL.no1 (by omega))
  replace tot := tot.trans (st4.up1 (.inl (by simp [WL])))
  clear hB4
  have hB4 := hB7
  clear hB7
  refine WP.dn ?_
  refine NX.block_n ?_
  replace hs := Option.some.inj hs
  simp only [Prod.mk.injEq] at hs
  obtain ⟨rfl, rfl, rfl, rfl, rfl, rfl, rfl⟩ := hs
  exact NX.finE (v := .tuple #[]) (Res.still (by kernel_rfl)) tot htL ⟨a4, n4, c4, a5, n5, c5, a6, n6, c6, rfl, hR4, hB1, hR5, hR6, hB3, hB4⟩
 replace hs := of_if_f hs h2
 refine CP.seqR ?_
 refine WP.stl 3 ?_
 refine WP.dn ?_
 refine NX.then_n ?_
 refine CP.cond (b := (!q1)) (by kernel_rfl) (fun h3 => ?_) (fun h3 => ?_)
 ·replace hs := of_if_t hs h3
  refine CP.region ?_
  refine WP.storeB (ty := 43) (off := 0) (v := .int .i64 3) hB4 [[.int .i64 3]] [1] (by kernel_rfl) (by kernel_rfl) rfl (by kernel_rfl) [[.int .i64 3]] (by kernel_rfl) (.one rfl .nil) ?_
  intro g5 st5 hB8
  replace hB1 := hB1.mono st5 (WL.no1 (by omega))
  replace hR4 := hR4.mono st5 (WL.no1 (by omega))
  replace hB3 := hB3.mono st5 (WL.no1 (by omega))
  replace hR5 := hR5.mono st5 (WL.no1 (by omega)) (WL.no1 (by omega))
  replace hR6 := hR6.mono st5 (WL.no1 (by omega)) (WL.no1 (by omega))
  replace tot := tot.trans (st5.up1 (.inl (by simp [WL])))
  clear hB4
  have hB4 := hB8
  clear hB8
  refine WP.dn ?_
  refine NX.block_n ?_
  replace hs := Option.some.inj hs
  simp only [Prod.mk.injEq] at hs
  obtain ⟨rfl, rfl, rfl, rfl, rfl, rfl, rfl⟩ := hs
  exact NX.finE (v := .tuple #[]) (Res.still (by kernel_rfl)) tot htL ⟨a4, n4, c4, a5, n5, c5, a6, n6, c6, rfl, hR4, hB1, hR5, hR6, hB3, hB4⟩
 replace hs := of_if_f hs h3
 refine CP.skip ?_
 refine NX.block_n ?_
 replace hs := Option.some.inj hs
 simp only [Prod.mk.injEq] at hs
 obtain ⟨rfl, rfl, rfl, rfl, rfl, rfl, rfl⟩ := hs
 exact NX.finE (v := .tuple #[]) (Res.still (by kernel_rfl)) tot htL ⟨a4, n4, c4, a5, n5, c5, a6, n6, c6, rfl, hR4, hB1, hR5, hR6, hB3, hB4⟩
def F.octet_Reader_Num_1.c1 (x3 : Int) (x4 : Int) (x6 : Int) : Option (Int × Int × Int) := (some (x4, x6, x3))
def F.octet_Reader_Num_1.c2 (x3 : Int) (x4 : Int) (x5 : Int) (q2 : Bool) : Option (Int × Int × Int) := (if q2 = true then (F.octet_Reader_Num_1.c1 x3 x4 2) else (F.octet_Reader_Num_1.c1 x3 x4 x5))
def F.octet_Reader_Num_1 (l1 : List Int) (x1 : Int) (x2 : Int) : Option (Int × Int × Int) := ((F.octet_number l1).bind fun (x3, x4, x5) => (if (x5 == 0) = true then (F.octet_Reader_Num_1.c2 x3 x4 x5 (decide (x3 > x1))) else (F.octet_Reader_Num_1.c2 x3 x4 x5 false)))
theorem P.octet_Reader_Num_1 (g0 : GW) (m0 : Nat) (m1 : Nat) (l1 : List Int) (x1 : Int) (x2 : Int) (a1 : Option Addr) (n1 : Nat) (c1 : Nat) (b1 : Nat) (b2 : Nat) (hR1 : RdS (Kd.int .u8) g0 5 a1 n1 c1 l1) (hB1 : Box g0 m0 b1 38 [[.int .u64 x1]] [1]) (hB2 : Box g0 m1 b2 38 [[.int .u64 x2]] [1]) (hm1_0 : m1 ≠ m0) (hm0 : m0 ≠ 0) (hm1 : m1 ≠ 0) (o1 : Int) (o2 : Int) (o3 : Int) (hs : F.octet_Reader_Num_1 l1 x1 x2 = some (o1, o2, o3)) :
  Calls Try.prog 76 #[.slice a1 n1 c1, .pointer (some ⟨b1, 0, none⟩), .pointer (some ⟨b2, 0, none⟩)] g0.w (Ret (WL [m1]) g0 fun v g => v = .tuple #[.int .i64 o1, .int .i64 o2] ∧ Box g m1 b2 38 [[.int .u64 o3]] [1]) := by
 refine calls_of (args := [.slice a1 n1 c1, .pointer (some ⟨b1, 0, none⟩), .pointer (some ⟨b2, 0, none⟩)]) Try.func76 rfl (m0 + m1 + 0) ?_
 intro t ht htL
 refine ⟨_, rfl, ?_⟩
 refine CP.refr 25 [(0, .slice a1 n1 c1), (1, .pointer (some ⟨b1, 0, none⟩)), (2, .pointer (some ⟨b2, 0, none⟩))] (by kernel_rfl) (by kernel_rfl) ?_
 intro ds
 have tot : Step (fun l => (WL [m1]) l ∨ t ≤ l) g0 g0 := Step.refl _ _
 unfold F.octet_Reader_Num_1 at hs
 refine CP.seqR ?_
 refine WP.stl 2 ?_
 refine WP.dn ?_
 refine NX.then_n ?_
 refine CP.seqR ?_
 refine WP.stl 1 ?_
 replace hs := Option.bind_eq_some_iff.1 hs
 obtain ⟨⟨x3, x4, x5⟩, hk1, hs⟩ := hs
 dsimp only at hs
 have hcal1 := P.octet_number g0 l1 a1 n1 c1 hR1 x3 x4 x5 hk1
 refine WP.callC hcal1 (by kernel_rfl) ?_
 rintro _ g1 st1 rfl
 replace hR1 := hR1.mono st1 (fun x => x)
 replace hB1 := hB1.mono st1 (fun x => x)
 replace hB2 := hB2.mono st1 (fun x => x)
 replace tot := tot.trans st1.pure
 refine WP.stl 7 ?_
 refine WP.dn ?_
 refine NX.then_n ?_
 refine CP.cut (fun tm g => ∃ (x6 : Int), Fr 25 [(2, .pointer (some ⟨b2, 0, none⟩)), (6, .int .u64 x3), (7, .int .i64 x4), (8, .int .i64 x6)] tm ∧ Step (fun l => (WL [m1]) l ∨ t ≤ l) g0 g ∧ Box g m1 b2 38 [[.int .u64 x2]] [1] ∧ (F.octet_Reader_Num_1.c1 x3 x4 x6) = some (o1, o2, o3)) ?_ ?_
 ·refine CP.cut (fun tm g => ∃ (q2 : Bool), Fr 25 [(2, .pointer (some ⟨b2, 0, none⟩)), (6, .int .u64 x3), (7, .int .i64 x4), (8, .int .i64 x5), (21, .bool q2)] tm ∧ Step (fun l => (WL [m1]) l ∨ t ≤ l) g0 g ∧ Box g m1 b2 38 [[.int .u64 x2]] [1] ∧ (F.octet_Reader_Num_1.c2 x3 x4 x5 q2) = some (o1, o2, o3)) ?_ ?_
  ·refine CP.region ?_
   refine WP.stl 3 ?_
   refine WP.guard 17 (b := (x5 == 0)) (by kernel_rfl) (fun h5 => ?_) (fun h5 => ?_)
   ·replace hs := of_if_t hs h5
    refine WP.stl 1 ?_
    refine WP.loadB (v := .int .u64 x1) hB1 (by kernel_rfl) (by kernel_rfl) ?_
    refine WP.stl 2 ?_
    refine WP.dn ?_
    refine NX.post ?_
    exact ⟨decide (x3 > x1), ⟨by kernel_rfl, by kernel_rfl⟩, tot, hB2, hs⟩
   replace hs := of_if_f hs h5
   refine WP.stl 4 ?_
   refine WP.dn ?_
   refine NX.post ?_
   exact ⟨false, ⟨by kernel_rfl, by kernel_rfl⟩, tot, hB2, hs⟩
  clear tot hs hB1 hB2
  rintro tm g ⟨q2, hF, tot, hB2, hs⟩
  clear ds
  obtain ⟨ds, rfl⟩ := hF.open
  clear hF
  unfold F.octet_Reader_Num_1.c2 at hs
  refine CP.cond (b := q2) (by kernel_rfl) (fun h4 => ?_) (fun h4 => ?_)
  ·replace hs := of_if_t hs h4
   refine CP.region ?_
   refine WP.stl 1 ?_
   refine WP.dn ?_
   refine NX.post ?_
   exact ⟨2, ⟨by kernel_rfl, by kernel_rfl⟩, tot, hB2, hs⟩
  replace hs := of_if_f hs h4
  refine CP.skip ?_
  refine NX.post ?_
  exact ⟨x5, ⟨by kernel_rfl, by kernel_rfl⟩, tot, hB2, hs⟩
 clear tot hs hB1 hB2
 rintro tm g ⟨x6, hF, tot, hB2, hs⟩
 clear ds
 obtain ⟨ds, rfl⟩ := hF.open
 clear hF
 unfold F.octet_Reader_Num_1.c1 at hs
 refine CP.seqR ?_
 refine WP.stl 1 ?_
 refine WP.storeB (ty := 38) (off := 0) (v := .int .u64 x3) hB2 [[.int .u64 x3]] [1] (by kernel_rfl) (by kernel_rfl) rfl (by kernel_rfl) [[.int .u64 x3]] (by kernel_rfl) (.one rfl .nil) ?_
 intro g2 st2 hB3
 replace tot := tot.trans (st2.up1 (.inl (by simp [WL])))
 clear hB2
 have hB2 := hB3
 clear hB3
 refine WP.dn ?_
 refine NX.then_n ?_
 refine CP.seqR ?_
 refine WP.stl 4 ?_
 refine WP.dn ?_
 refine NX.then_n ?_
 refine CP.ret ?_
 replace hs := Option.some.inj hs
 simp only [Prod.mk.injEq] at hs
 obtain ⟨rfl, rfl, rfl⟩ := hs
 exact NX.fin (v := .tuple #[.int .i64 x4, .int .i64 x6]) (Res.still (by kernel_rfl)) tot htL ⟨rfl, hB2⟩
def F.octet_Reader_read_3 (l1 : List Int) (x1 : Int) (x2 : Int) (x3 : Int) : Option (Bool × (List Int) × Int × Int) := (if (x1 != 0) = true then (some (false, l1, x1, x3)) else ((F.octet_Reader_Num_1 l1 x2 x3).bind fun (x4, x5, x6) => (if (x5 != 0) = true then (some (false, l1, x5, x6)) else (if (0 : Int) ≤ x4 ∧ x4 ≤ (l1.length : Int) ∧ (l1.length : Int) ≤ (l1.length : Int) then (some (true, (sliceI l1 x4 (l1.length : Int)), x1, x6)) else none))))
theorem P.octet_Reader_read_3 (g0 : GW) (m0 : Nat) (m1 : Nat) (m2 : Nat) (l1 : List Int) (x1 : Int) (x2 : Int) (x3 : Int) (a1 : Option Addr) (n1 : Nat) (c1 : Nat) (b1 : Nat) (b2 : Nat) (b3 : Nat) (hR1 : RdS (Kd.int .u8) g0 5 a1 n1 c1 l1) (hB1 : Box g0 m0 b1 126 [[.slice a1 n1 c1], [.int .i64 x1]] [1, 1]) (hB2 : Box g0 m1 b2 38 [[.int .u64 x2]] [1]) (hB3 : Box g0 m2 b3 38 [[.int .u64 x3]] [1]) (hm1_0 : m1 ≠ m0) (hm2_0 : m2 ≠ m0) (hm2_1 : m2 ≠ m1) (hm0 : m0 ≠ 0) (hm1 : m1 ≠ 0) (hm2 : m2 ≠ 0) (o1 : Bool) (o2 : (List Int)) (o3 : Int) (o4 : Int) (hs : F.octet_Reader_read_3 l1 x1 x2 x3 = some (o1, o2, o3, o4)) :
  Calls Try.prog 73 #[.pointer (some ⟨b1, 0, none⟩), .func (.func 76) #[] #[.pointer (some ⟨b2, 0, none⟩), .pointer (some ⟨b3, 0, none⟩)]] g0.w (Ret (WL [m0, m2]) g0 fun v g => ∃ (a_1 : Option Addr) (n_1 : Nat) (c_1 : Nat), v = .bool o1 ∧ RdS (Kd.int .u8) g 5 a_1 n_1 c_1 o2 ∧ Box g m0 b1 126 [[.slice a_1 n_1 c_1], [.int .i64 o3]] [1, 1] ∧ Box g m2 b3 38 [[.int .u64 o4]] [1]) := by
 refine calls_of (args := [.pointer (some ⟨b1, 0, none⟩), .func (.func 76) #[] #[.pointer (some ⟨b2, 0, none⟩), .pointer (some ⟨b3, 0, none⟩)]]) Try.func73 rfl (m0 + m1 + m2 + 0) ?_
 intro t ht htL
 refine ⟨_, rfl, ?_⟩
 refine CP.refr 40 [(0, .pointer (some ⟨b1, 0, none⟩)), (1, .func (.func 76) #[] #[.pointer (some ⟨b2, 0, none⟩), .pointer (some ⟨b3, 0, none⟩)])] (by kernel_rfl) (by kernel_rfl) ?_
 intro ds
 have tot : Step (fun l => (WL [m0, m2]) l ∨ t ≤ l) g0 g0 := Step.refl _ _
 unfold F.octet_Reader_read_3 at hs
 refine CP.seqR ?_
 refine WP.stl 1 ?_
 refine WP.dn ?_
 refine NX.then_n ?_
 refine CP.seq ?_
 refine CP.seq ?_
 refine CP.region ?_
 refine WP.stl 6 ?_
 refine WP.loadB (v := .int .i64 x1) hB1 (by kernel_rfl) (by kernel_rfl) ?_
 refine WP.stl 2 ?_
 refine WP.dn ?_
 refine NX.then_n ?_
 refine CP.cond (b := (x1 != 0)) (by kernel_rfl) (fun h1 => ?_) (fun h1 => ?_)
 ·replace hs := of_if_t hs h1
  refine CP.seqR ?_
  refine WP.stl 1 ?_
  refine WP.dn ?_
  refine NX.then_n ?_
  refine CP.ret ?_
  refine NX.then_r ?_
  replace hs := Option.some.inj hs
  simp only [Prod.mk.injEq] at hs
  obtain ⟨rfl, rfl, rfl, rfl⟩ := hs
  exact NX.fin (v := .bool false) (Res.still (by kernel_rfl)) tot htL ⟨a1, n1, c1, rfl, hR1, hB1, hB3⟩
 replace hs := of_if_f hs h1
 refine CP.skip ?_
 refine NX.then_n ?_
 refine CP.seqR ?_
 refine WP.stl 4 ?_
 refine WP.loadB (v := .slice a1 n1 c1) hB1 (by kernel_rfl) (by kernel_rfl) ?_
 replace hs := Option.bind_eq_some_iff.1 hs
 obtain ⟨⟨x4, x5, x6⟩, hk1, hs⟩ := hs
 dsimp only at hs
 have hcal1 := P.octet_Reader_Num_1 g0 m1 m2 l1 x2 x3 a1 n1 c1 b2 b3 hR1 hB2 hB3 (by omega) (by omega) (by omega) x4 x5 x6 hk1
 refine WP.callC hcal1 (by kernel_rfl) ?_
 rintro _ g1 st1 ⟨rfl, hB4⟩
 replace hB1 := hB1.mono st1 (WL.no1 (by omega))
 replace hR1 := hR1.mono st1 (WL.no1 (by omega))
 replace hB2 := hB2.mono st1 (WL.no1 (by omega))
 replace tot := tot.trans (st1.up1 (.inl (by simp [WL])))
 clear hB3
 have hB3 := hB4
 clear hB4
 refine WP.stl 5 ?_
 refine WP.dn ?_
 refine NX.then_n ?_
 refine CP.refr 40 [(0, .pointer (some ⟨b1, 0, none⟩)), (5, .int .i64 x4), (6, .int .i64 x5)] (by kernel_rfl) (by kernel_rfl) ?_
 clear ds
 intro ds
 refine CP.seq ?_
 refine CP.seqR ?_
 refine WP.stl 2 ?_
 refine WP.dn ?_
 refine NX.then_n ?_
 refine CP.cond (b := (x5 != 0)) (by kernel_rfl) (fun h2 => ?_) (fun h2 => ?_)
 ·replace hs := of_if_t hs h2
  refine CP.seqR ?_
  refine WP.stl 4 ?_
  refine WP.storeB (ty := 43) (off := 1) (v := .int .i64 x5) hB1 [[.int .i64 x5]] [1] (by kernel_rfl) (by kernel_rfl) rfl (by kernel_rfl) [[.slice a1 n1 c1], [.int .i64 x5]] (by kernel_rfl) (.one rfl .nil) ?_
  intro g2 st2 hB5
  replace hR1 := hR1.mono st2 (WL.no1 (by omega))
  replace hB3 := hB3.mono st2 (WL.no1 (by omega))
  replace tot := tot.trans (st2.up1 (.inl (by simp [WL])))
  clear hB1
  have hB1 := hB5
  clear hB5
  refine WP.dn ?_
  refine NX.then_n ?_
  refine CP.seqR ?_
  refine WP.stl 1 ?_
  refine WP.dn ?_
  refine NX.then_n ?_
  refine CP.ret ?_
  refine NX.then_r ?_
  replace hs := Option.some.inj hs
  simp only [Prod.mk.injEq] at hs
  obtain ⟨rfl, rfl, rfl, rfl⟩ := hs
  exact NX.fin (v := .bool false) (Res.still (by kernel_rfl)) tot htL ⟨a1, n1, c1, rfl, hR1, hB1, hB3⟩
 replace hs := of_if_f hs h2
 refine CP.skip ?_
 refine NX.then_n ?_
 refine CP.seqR ?_
 refine WP.stl 4 ?_
 refine WP.loadB (v := .slice a1 n1 c1) hB1 (by kernel_rfl) (by kernel_rfl) ?_
 refine WP.stl 1 ?_
 by_cases hc1 : (0 : Int) ≤ x4 ∧ x4 ≤ (l1.length : Int) ∧ (l1.length : Int) ≤ (l1.length : Int)
 case neg => rw [if_neg hc1] at hs; cases hs
 replace hs := of_if_p hs hc1
 refine WP.sliceR (lo := some (.int .i64 x4)) (hi := none) hR1 x4 (l1.length : Int) (by kernel_rfl) (.inr ⟨_, rfl⟩) (.inl ⟨rfl, rfl⟩) hc1 ?_
 intro a2 c2 hR2
 refine WP.stl 2 ?_
 refine WP.storeB (ty := 24) (off := 0) (v := .slice a2 ((l1.length : Int).toNat - x4.toNat) c2) hB1 [[.slice a2 ((l1.length : Int).toNat - x4.toNat) c2]] [1] (by kernel_rfl) (by kernel_rfl) rfl (by kernel_rfl) [[.slice a2 ((l1.length : Int).toNat - x4.toNat) c2], [.int .i64 x1]] (by kernel_rfl) (.one rfl .nil) ?_
 intro g3 st3 hB6
 replace hR2 := hR2.mono st3 (WL.no1 (by omega))
 replace hB3 := hB3.mono st3 (WL.no1 (by omega))
 replace hR1 := hR1.mono st3 (WL.no1 (by omega))
 replace tot := tot.trans (st3.up1 (.inl (by simp [WL])))
 clear hB1
 have hB1 := hB6
 clear hB6
 refine WP.dn ?_
 refine NX.then_n ?_
 refine CP.seqR ?_
 refine WP.stl 1 ?_
 refine WP.dn ?_
 refine NX.then_n ?_
 refine CP.refr 40 [(4, .bool true)] (by kernel_rfl) (by kernel_rfl) ?_
 clear ds
 intro ds
 refine CP.ret ?_
 replace hs := Option.some.inj hs
 simp only [Prod.mk.injEq] at hs
 obtain ⟨rfl, rfl, rfl, rfl⟩ := hs
 exact NX.fin (v := .bool true) (Res.still (by kernel_rfl)) tot htL ⟨a2, ((l1.length : Int).toNat - x4.toNat), c2, rfl, hR2, hB1, hB3⟩
def F.octet_Reader_Num (l1 : List Int) (x1 : Int) (x2 : Int) : Option (Int × (List Int) × Int) := ((F.octet_Reader_read_3 l1 x1 x2 0).bind fun (q1, d1, x3, x4) => (if (!q1) = true then (some (0, d1, x3)) else (some (x4, d1, x3))))
theorem P.octet_Reader_Num (g0 : GW) (m0 : Nat) (l1 : List Int) (x1 : Int) (x2 : Int) (a1 : Option Addr) (n1 : Nat) (c1 : Nat) (b1 : Nat) (hR1 : RdS (Kd.int .u8) g0 5 a1 n1 c1 l1) (hB1 : Box g0 m0 b1 126 [[.slice a1 n1 c1], [.int .i64 x1]] [1, 1]) (hm0 : m0 ≠ 0) (o1 : Int) (o2 : (List Int)) (o3 : Int) (hs : F.octet_Reader_Num l1 x1 x2 = some (o1, o2, o3)) :
  Calls Try.prog 55 #[.pointer (some ⟨b1, 0, none⟩), .int .u64 x2] g0.w (Ret (WL [m0]) g0 fun v g => ∃ (a_1 : Option Addr) (n_1 : Nat) (c_1 : Nat), v = .int .u64 o1 ∧ RdS (Kd.int .u8) g 5 a_1 n_1 c_1 o2 ∧ Box g m0 b1 126 [[.slice a_1 n_1 c_1], [.int .i64 o3]] [1, 1]) := by
 refine calls_of (args := [.pointer (some ⟨b1, 0, none⟩), .int .u64 x2]) Try.func55 rfl (m0 + 0) ?_
 intro t ht htL
 refine ⟨_, rfl, ?_⟩
 refine CP.refr 13 [(0, .pointer (some ⟨b1, 0, none⟩)), (1, .int .u64 x2)] (by kernel_rfl) (by kernel_rfl) ?_
 intro ds
 have tot : Step (fun l => (WL [m0]) l ∨ t ≤ l) g0 g0 := Step.refl _ _
 unfold F.octet_Reader_Num at hs
 refine CP.seqR ?_
 refine WP.alloc (T := 38) (t + 1) [[.int .u64 x2]] [1] (by kernel_rfl) rfl ?_
 intro g1 b2 st1 hB2
 replace hB1 := hB1.mono st1 (fun x => x)
 replace hR1 := hR1.mono st1 (fun x => x)
 replace tot := tot.trans st1.pure
 refine WP.stl 1 ?_
 refine WP.dn ?_
 refine NX.then_n ?_
 refine CP.seqR ?_
 refine WP.alloc (T := 38) (t + 2) [[.int .u64 0]] [1] (by kernel_rfl) rfl ?_
 intro g2 b3 st2 hB3
 replace hB1 := hB1.mono st2 (fun x => x)
 replace hR1 := hR1.mono st2 (fun x => x)
 replace hB2 := hB2.mono st2 (fun x => x)
 replace tot := tot.trans st2.pure
 refine WP.dn ?_
 refine NX.then_n ?_
 refine CP.seqR ?_
 refine WP.stl 2 ?_
 replace hs := Option.bind_eq_some_iff.1 hs
 obtain ⟨⟨q1, d1, x3, x4⟩, hk1, hs⟩ := hs
 dsimp only at hs
 have hcal1 := P.octet_Reader_read_3 g2 m0 (t + 1) (t + 2) l1 x1 x2 0 a1 n1 c1 b1 b2 b3 hR1 hB1 hB2 hB3 (by omega) (by omega) (by omega) (by omega) (by omega) (by omega) q1 d1 x3 x4 hk1
 refine WP.callC hcal1 (by kernel_rfl) ?_
 rintro _ g3 st3 ⟨a2, n2, c2, rfl, hR2, hB4, hB5⟩
 replace hB2 := hB2.mono st3 (WL.no2 (by omega) (by omega))
 replace tot := tot.trans (st3.up2 (.inl (by simp [WL])) (.inr (by omega)))
 clear hB1
 have hB1 := hB4
 clear hB4
 clear hB3
 have hB3 := hB5
 clear hB5
 refine WP.stl 1 ?_
 refine WP.dn ?_
 refine NX.then_n ?_
 refine CP.seq ?_
 refine CP.seqR ?_
 refine WP.stl 2 ?_
 refine WP.dn ?_
 refine NX.then_n ?_
 refine CP.cond (b := (!q1)) (by kernel_rfl) (fun h1 => ?_) (fun h1 => ?_)
 ·replace hs := of_if_t hs h1
  refine CP.seqR ?_
  refine WP.stl 1 ?_
  refine WP.dn ?_
  refine NX.then_n ?_
  refine CP.ret ?_
  refine NX.then_r ?_
  replace hs := Option.some.inj hs
  simp only [Prod.mk.injEq] at hs
  obtain ⟨rfl, rfl, rfl⟩ := hs
  exact NX.fin (v := .int .u64 0) (Res.still (by kernel_rfl)) tot htL ⟨a2, n2, c2, rfl, hR2, hB1⟩
 replace hs := of_if_f hs h1
 refine CP.skip ?_
 refine NX.then_n ?_
 refine CP.seqR ?_
 refine WP.loadB (v := .int .u64 x4) hB3 (by kernel_rfl) (by kernel_rfl) ?_
 refine WP.stl 1 ?_
 refine WP.dn ?_
 refine NX.then_n ?_
 refine CP.ret ?_
 replace hs := Option.some.inj hs
 simp only [Prod.mk.injEq] at hs
 obtain ⟨rfl, rfl, rfl⟩ := hs
 exact NX.fin (v := .int .u64 x4) (Res.still (by kernel_rfl)) tot htL ⟨a2, n2, c2, rfl, hR2, hB1⟩
def F.state_Decode_3_2 (l1 : List Int) (x1 : Int) (d1 : Arr Int 8) (x2 : Int) (l2 : List Int) (l3 : List (List Int)) : Option (Bool × (List Int) × Int × (Arr Int 8) × Int × (List Int) × (List (List Int))) := ((F.octet_Reader_Num l1 x1 1099511627776).bind fun (x3, d2, x4) => (some (true, d2, x4, d1, (IntKind.i64.wrap x3), l2, l3)))
theorem P.state_Decode_3_2 (g0 : GW) (m0 : Nat) (m1 : Nat) (m2 : Nat) (m3 : Nat) (m4 : Nat) (l1 : List Int) (x1 : Int) (d1 : Arr Int 8) (x2 : Int) (l2 : List Int) (l3 : List (List Int)) (a1 : Option Addr) (n1 : Nat) (c1 : Nat) (a2 : Option Addr) (n2 : Nat) (c2 : Nat) (a3 : Option Addr) (n3 : Nat) (c3 : Nat) (b1 : Nat) (b2 : Nat) (b3 : Nat) (hR1 : RdS (Kd.int .u8) g0 5 a1 n1 c1 l1) (hR2 : OwnS (Kd.int .u8) g0 m3 5 a2 n2 c2 l2) (hR3 : OwnS (Kd.slice 5 (Kd.int .u8)) g0 m4 24 a3 n3 c3 l3) (hB1 : Box g0 m1 b2 126 [[.slice a1 n1 c1], [.int .i64 x1]] [1, 1]) (hB2 : Box g0 m0 b1 101 [[.pointer (some ⟨b2, 0, none⟩)]] [1]) (hB3 : Box g0 m2 b3 61 [encA .u8 d1, [.int .i64 x2], [.slice a2 n2 c2], [.slice a3 n3 c3]] [8, 1, 1, 1]) (hm1_0 : m1 ≠ m0) (hm2_0 : m2 ≠ m0) (hm2_1 : m2 ≠ m1) (hm3_0 : m3 ≠ m0) (hm3_1 : m3 ≠ m1) (hm3_2 : m3 ≠ m2) (hm4_0 : m4 ≠ m0) (hm4_1 : m4 ≠ m1) (hm4_2 : m4 ≠ m2) (hm4_3 : m4 ≠ m3) (hm0 : m0 ≠ 0) (hm1 : m1 ≠ 0) (hm2 : m2 ≠ 0) (hm3 : m3 ≠ 0) (hm4 : m4 ≠ 0) (o1 : Bool) (o2 : (List Int)) (o3 : Int) (o4 : (Arr Int 8)) (o5 : Int) (o6 : (List Int)) (o7 : (List (List Int))) (hs : F.state_Decode_3_2 l1 x1 d1 x2 l2 l3 = some (o1, o2, o3, o4, o5, o6, o7)) :
  Calls Try.prog 54 #[.pointer (some ⟨b1, 0, none⟩), .pointer (some ⟨b3, 0, none⟩)] g0.w (Ret (WL [m1, m2, m3, m4]) g0 fun v g => ∃ (a_1 : Option Addr) (n_1 : Nat) (c_1 : Nat) (a_4 : Option Addr) (n_4 : Nat) (c_4 : Nat) (a_7 : Option Addr) (n_7 : Nat) (c_7 : Nat), v = .bool o1 ∧ RdS (Kd.int .u8) g 5 a_1 n_1 c_1 o2 ∧ Box g m1 b2 126 [[.slice a_1 n_1 c_1], [.int .i64 o3]] [1, 1] ∧ OwnS (Kd.int .u8) g m3 5 a_4 n_4 c_4 o6 ∧ OwnS (Kd.slice 5 (Kd.int .u8)) g m4 24 a_7 n_7 c_7 o7 ∧ Box g m2 b3 61 [encA .u8 o4, [.int .i64 o5], [.slice a_4 n_4 c_4], [.slice a_7 n_7 c_7]] [8, 1, 1, 1]) := by
 refine calls_of (args := [.pointer (some ⟨b1, 0, none⟩), .pointer (some ⟨b3, 0, none⟩)]) Try.func54 rfl (m0 + m1 + m2 + m3 + m4 + 0) ?_
 intro t ht htL
 refine ⟨_, rfl, ?_⟩
 refine CP.refr 8 [(0, .pointer (some ⟨b1, 0, none⟩)), (1, .pointer (some ⟨b3, 0, none⟩))] (by kernel_rfl) (by kernel_rfl) ?_
 intro ds
 have tot : Step (fun l => (WL [m1, m2, m3, m4]) l ∨ t ≤ l) g0 g0 := Step.refl _ _
 unfold F.state_Decode_3_2 at hs
 refine CP.seqR ?_
 refine WP.stl 1 ?_
 refine WP.dn ?_
 refine NX.then_n ?_
 refine CP.seqR ?_
 refine WP.loadB (v := .pointer (some ⟨b2, 0, none⟩)) hB2 (by kernel_rfl) (by kernel_rfl) ?_
 replace hs := Option.bind_eq_some_iff.1 hs
 obtain ⟨⟨x3, d2, x4⟩, hk1, hs⟩ := hs
 dsimp only at hs
 have hcal1 := P.octet_Reader_Num g0 m1 l1 x1 1099511627776 a1 n1 c1 b2 hR1 hB1 (by omega) x3 d2 x4 hk1
 refine WP.callC hcal1 (by kernel_rfl) ?_
 rintro _ g1 st1 ⟨a4, n4, c4, rfl, hR4, hB4⟩
 replace hB2 := hB2.mono st1 (WL.no1 (by omega))
 replace hB3 := hB3.mono st1 (WL.no1 (by omega))
 replace hR2 := hR2.mono st1 (WL.no1 (by omega)) (WL.no1 (by omega))
 replace hR3 := hR3.mono st1 (WL.no1 (by omega)) (WL.no1 (by omega))
 replace tot := tot.trans (st1.up1 (.inl (by simp [WL])))
 clear hB1
 have hB1 := hB4
 clear hB4
 refine WP.stl 3 ?_
 refine WP.storeB (ty := 3) (off := 8) (v := .int .i64 (IntKind.i64.wrap x3)) hB3 [[.int .i64 (IntKind.i64.wrap x3)]] [1] (by kernel_rfl) (by kernel_rfl) rfl (by kernel_rfl) [encA .u8 d1, [.int .i64 (IntKind.i64.wrap x3)], [.slice a2 n2 c2], [.slice a3 n3 c3]] (by kernel_rfl) (.one rfl .nil) ?_
 intro g2 st2 hB5
 replace hB2 := hB2.mono st2 (WL.no1 (by omega))
 replace hB1 := hB1.mono st2 (WL.no1 (by omega))
 replace hR4 := hR4.mono st2 (WL.no1 (by omega))
 replace hR2 := hR2.mono st2 (WL.no1 (by omega)) (WL.no1 (by omega))
 replace hR3 := hR3.mono st2 (WL.no1 (by omega)) (WL.no1 (by omega))
 replace tot := tot.trans (st2.up1 (.inl (by simp [WL])))
 clear hB3
 have hB3 := hB5
 clear hB5
 refine WP.dn ?_
 refine NX.then_n ?_
 refine CP.seqR ?_
 refine WP.stl 1 ?_
 refine WP.dn ?_
 refine NX.then_n ?_
 refine CP.ret ?_
 replace hs := Option.some.inj hs
 simp only [Prod.mk.injEq] at hs
 obtain ⟨rfl, rfl, rfl, rfl, rfl, rfl, rfl⟩ := hs
 exact NX.fin (v := .bool true) (Res.still (by kernel_rfl)) tot htL ⟨a4, n4, c4, a2, n2, c2, a3, n3, c3, rfl, hR4, hB1, hR2, hR3, hB3⟩
def F.state_Decode_1_4 (l1 : List Int) (x1 : Int) (d1 : Arr Int 8) (x2 : Int) (l2 : List Int) (l3 : List (List Int)) (x3 : Int) : Option ((List Int) × Int × (Arr Int 8) × Int × (List Int) × (List (List Int)) × Int) := (if (x3 != 0) = true then (some (l1, x1, d1, x2, l2, l3, x3)) else ((F.state_Decode_3_2 l1 x1 d1 x2 l2 l3).bind fun (q1, d2, x4, d3, x5, d4, d5) => ((F.octet_Reader_Err d2 x4).bind fun x6 => (if (x6 != 0) = true then ((F.octet_Reader_Err d2 x4).bind fun x7 => (some (d2, x4, d3, x5, d4, d5, x7))) else (if (!q1) = true then (some (d2, x4, d3, x5, d4, d5, 3)) else (some (d2, x4, d3, x5, d4, d5, x3)))))))
theorem P.state_Decode_1_4 (g0 : GW) (m0 : Nat) (m1 : Nat) (m2 : Nat) (m3 : Nat) (m4 : Nat) (m5 : Nat) (l1 : List Int) (x1 : Int) (d1 : Arr Int 8) (x2 : Int) (l2 : List Int) (l3 : List (List Int)) (x3 : Int) (a1 : Option Addr) (n1 : Nat) (c1 : Nat) (a2 : Option Addr) (n2 : Nat) (c2 : Nat) (a3 : Option Addr) (n3 : Nat) (c3 : Nat) (b1 : Nat) (b2 : Nat) (b3 : Nat) (b4 : Nat) (hR1 : RdS (Kd.int .u8) g0 5 a1 n1 c1 l1) (hR2 : OwnS (Kd.int .u8) g0 m3 5 a2 n2 c2 l2) (hR3 : OwnS (Kd.slice 5 (Kd.int .u8)) g0 m4 24 a3 n3 c3 l3) (hB1 : Box g0 m1 b2 126 [[.slice a1 n1 c1], [.int .i64 x1]] [1, 1]) (hB2 : Box g0 m0 b1 101 [[.pointer (some ⟨b2, 0, none⟩)]] [1]) (hB3 : Box g0 m2 b3 61 [encA .u8 d1, [.int .i64 x2], [.slice a2 n2 c2], [.slice a3 n3 c3]] [8, 1, 1, 1]) (hB4 : Box g0 m5 b4 43 [[.int .i64 x3]] [1]) (hm1_0 : m1 ≠ m0) (hm2_0 : m2 ≠ m0) (hm2_1 : m2 ≠ m1) (hm3_0 : m3 ≠ m0) (hm3_1 : m3 ≠ m1) (hm3_2 : m3 ≠ m2) (hm4_0 : m4 ≠ m0) (hm4_1 : m4 ≠ m1) (hm4_2 : m4 ≠ m2) (hm4_3 : m4 ≠ m3) (hm5_0 : m5 ≠ m0) (hm5_1 : m5 ≠ m1) (hm5_2 : m5 ≠ m2) (hm5_3 : m5 ≠ m3) (hm5_4 : m5 ≠ m4) (hm0 : m0 ≠ 0) (hm1 : m1 ≠ 0) (hm2 : m2 ≠ 0) (hm3 : m3 ≠ 0) (hm4 : m4 ≠ 0) (hm5 : m5 ≠ 0) (o1 : (List Int)) (o2 : Int) (o3 : (Arr Int 8)) (o4 : Int) (o5 : (List Int)) (o6 : (List (List Int))) (o7 : Int) (hs : F.state_Decode_1_4 l1 x1 d1 x2 l2 l3 x3 = some (o1, o2, o3, o4, o5, o6, o7)) :
  Calls Try.prog 50 #[.func (.func 54) #[] #[.pointer (some ⟨b1, 0, none⟩), .pointer (some ⟨b3, 0, none⟩)], .pointer (some ⟨b4, 0, none⟩), .pointer (some ⟨b1, 0, none⟩)] g0.w (Ret (WL [m1, m2, m5, m3, m4]) g0 fun v g => ∃ (a_1 : Option Addr) (n_1 : Nat) (c_1 : Nat) (a_4 : Option Addr) (n_4 : Nat) (c_4 : Nat) (a_7 : Option Addr) (n_7 : Nat) (c_7 : Nat), v = .tuple #[] ∧ RdS (Kd.int .u8) g 5 a_1 n_1 c_1 o1 ∧ Box g m1 b2 126 [[.slice a_1 n_1 c_1], [.int .i64 o2]] [1, 1] ∧ OwnS (Kd.int .u8) g m3 5 a_4 n_4 c_4 o5 ∧ OwnS (Kd.slice 5 (Kd.int .u8)) g m4 24 a_7 n_7 c_7 o6 ∧ Box g m2 b3 61 [encA .u8 o3, [.int .i64 o4], [.slice a_4 n_4 c_4], [.slice a_7 n_7 c_7]] [8, 1, 1, 1] ∧ Box g m5 b4 43 [[.int .i64 o7]] [1]) := by
 refine calls_of (args := [.func (.func 54) #[] #[.pointer (some ⟨b1, 0, none⟩), .pointer (some ⟨b3, 0, none⟩)], .pointer (some ⟨b4, 0, none⟩), .pointer (some ⟨b1, 0, none⟩)]) Try.func50 rfl (m0 + m1 + m2 + m3 + m4 + m5 + 0) ?_
 intro t ht htL
 refine ⟨_, rfl, ?_⟩
 refine CP.refr 18 [(0, .func (.func 54) #[] #[.pointer (some ⟨b1, 0, none⟩), .pointer (some ⟨b3, 0, none⟩)]), (1, .pointer (some ⟨b4, 0, none⟩)), (2, .pointer (some ⟨b1, 0, none⟩))] (by kernel_rfl) (by kernel_rfl) ?_
 intro ds
 have tot : Step (fun l => (WL [m1, m2, m5, m3, m4]) l ∨ t ≤ l) g0 g0 := Step.refl _ _
 unfold F.state_Decode_1_4 at hs
 refine CP.seq ?_
 refine CP.seqR ?_
 refine WP.loadB (v := .int .i64 x3) hB4 (by kernel_rfl) (by kernel_rfl) ?_
 refine WP.stl 1 ?_
 refine WP.dn ?_
 refine NX.then_n ?_
 refine CP.cond (b := (x3 != 0)) (by kernel_rfl) (fun h1 => ?_) (fun h1 => ?_)
 ·replace hs := of_if_t hs h1
  refine CP.ret ?_
  refine NX.then_r ?_
  replace hs := Option.some.inj hs
  simp only [Prod.mk.injEq] at hs
  obtain ⟨rfl, rfl, rfl, rfl, rfl, rfl, rfl⟩ := hs
  exact NX.fin (v := .tuple #[]) (Res.still (by kernel_rfl)) tot htL ⟨a1, n1, c1, a2, n2, c2, a3, n3, c3, rfl, hR1, hB1, hR2, hR3, hB3, hB4⟩
 replace hs := of_if_f hs h1
 refine CP.skip ?_
 refine NX.then_n ?_
 refine CP.seqR ?_
 refine WP.stl 1 ?_
 replace hs := Option.bind_eq_some_iff.1 hs
 obtain ⟨⟨q1, d2, x4, d3, x5, d4, d5⟩, hk1, hs⟩ := hs
 dsimp only at hs
 have hcal1 := P.state_Decode_3_2 g0 m0 m1 m2 m3 m4 l1 x1 d1 x2 l2 l3 a1 n1 c1 a2 n2 c2 a3 n3 c3 b1 b2 b3 hR1 hR2 hR3 hB1 hB2 hB3 (by omega) (by omega) (by omega) (by omega) (by omega) (by omega) (by omega) (by omega) (by omega) (by omega) (by omega) (by omega) (by omega) (by omega) (by omega) q1 d2 x4 d3 x5 d4 d5 hk1
 refine WP.callC hcal1 (by kernel_rfl) ?_
 rintro _ g1 st1 ⟨a4, n4, c4, a5, n5, c5, a6, n6, c6, rfl, hR4, hB5, hR5, hR6, hB6⟩
 replace hB2 := hB2.mono st1 (WL.no (by simp <;> omega))
 replace hB4 := hB4.mono st1 (WL.no (by simp <;> omega))
 replace tot := tot.trans (st1.up (by intro l hl; simp at hl; rcases hl with rfl | rfl | rfl | rfl <;> first | exact .inr (by omega) | exact .inl (by simp [WL])))
 clear hB1
 have hB1 := hB5
 clear hB5
 clear hB3
 have hB3 := hB6
 clear hB6
 refine WP.stl 1 ?_
 refine WP.dn ?_
 refine NX.then_n ?_
 refine CP.block ?_
 refine CP.seqR ?_
 refine WP.loadB (v := .pointer (some ⟨b2, 0, none⟩)) hB2 (by kernel_rfl) (by kernel_rfl) ?_
 replace hs := Option.bind_eq_some_iff.1 hs
 obtain ⟨x6, hk2, hs⟩ := hs
 have hcal2 := P.octet_Reader_Err g1 m1 d2 x4 a4 n4 c4 b2 hR4 hB1 (by omega) x6 hk2
 refine WP.callC hcal2 (by kernel_rfl) ?_
 rintro _ g2 st2 rfl
 replace hB4 := hB4.mono st2 (fun x => x)
 replace hB2 := hB2.mono st2 (fun x => x)
 replace hB1 := hB1.mono st2 (fun x => x)
 replace hR4 := hR4.mono st2 (fun x => x)
 replace hB3 := hB3.mono st2 (fun x => x)
 replace hR5 := hR5.mono st2 (fun x => x) (fun x => x)
 replace hR6 := hR6.mono st2 (fun x => x) (fun x => x)
 replace tot := tot.trans st2.pure
 refine WP.stl 2 ?_
 refine WP.dn ?_
 refine NX.then_n ?_
 refine CP.cond (b := (x6 != 0)) (by kernel_rfl) (fun h2 => ?_) (fun h2 => ?_)
 ·replace hs := of_if_t hs h2
  refine CP.region ?_
  refine WP.loadB (v := .pointer (some ⟨b2, 0, none⟩)) hB2 (by kernel_rfl) (by kernel_rfl) ?_
  replace hs := Option.bind_eq_some_iff.1 hs
  obtain ⟨x7, hk3, hs⟩ := hs
  have hcal3 := P.octet_Reader_Err g2 m1 d2 x4 a4 n4 c4 b2 hR4 hB1 (by omega) x7 hk3
  refine WP.callC hcal3 (by kernel_rfl) ?_
  rintro _ g3 st3 rfl
  replace hB4 := hB4.mono st3 (fun x => x)
  replace hB2 := hB2.mono st3 (fun x => x)
  replace hB1 := hB1.mono st3 (fun x => x)
  replace hR4 := hR4.mono st3 (fun x => x)
  replace hB3 := hB3.mono st3 (fun x => x)
  replace hR5 := hR5.mono st3 (fun x => x) (fun x => x)
  replace hR6 := hR6.mono st3 (fun x => x) (fun x => x)
  replace tot := tot.trans st3.pure
  refine WP.storeB (ty := 43) (off := 0) (v := .int .i64 x7) hB4 [[.int .i64 x7]] [1] (by kernel_rfl) (by kernel_rfl) rfl (by kernel_rfl) [[.int .i64 x7]] (by kernel_rfl) (.one rfl .nil) ?_
  intro g4 st4 hB7
  replace hB2 := hB2.mono st4 (WL.no1 (by omega))
  replace hB1 := hB1.mono st4 (WL.no1 (by omega))
  replace hR4 := hR4.mono st4 (WL.no1 (by omega))
  replace hB3 := hB3.mono st4 (WL.no1 (by omega))
  replace hR5 := hR5.mono st4 (WL.no1 (by omega)) (WL.no1 (by omega))
  replace hR6 := hR6.mono st4 (WL.no1 (by omega)) (WL.no1 (by omega))
  replace tot := tot.trans (st4.up1 (.inl (by simp [WL])))
  clear hB4
  have hB4 := hB7
  clear hB7
  refine WP.dn ?_
  refine NX.block_n ?_
  replace hs := Option.some.inj hs
  simp only [Prod.mk.injEq] at hs
  obtain ⟨rfl, rfl, rfl, rfl, rfl, rfl, rfl⟩ := hs
  exact NX.finE (v := .tuple #[]) (Res.still (by kernel_rfl)) tot htL ⟨a4, n4, c4, a5, n5, c5, a6, n6, c6, rfl, hR4, hB1, hR5, hR6, hB3, hB4⟩
 replace hs := of_if_f hs h2
 refine CP.seqR ?_
 refine WP.stl 3 ?_
 refine WP.dn ?_
 refine NX.then_n ?_
 refine CP.cond (b := (!q1)) (by kernel_rfl) (fun h3 => ?_) (fun h3 => ?_)
 ·replace hs := of_if_t hs h3
  refine CP.region ?_
  refine WP.storeB (ty := 43) (off := 0) (v := .int .i64 3) hB4 [[.int .i64 3]] [1] (by kernel_rfl) (by kernel_rfl) rfl (by kernel_rfl) [[.int .i64 3]] (by kernel_rfl) (.one rfl .nil) ?_
  intro g5 st5 hB8
  replace hB1 := hB1.mono st5 (WL.no1 (by omega))
  replace hR4 := hR4.mono st5 (WL.no1 (by omega))
  replace hB3 := hB3.mono st5 (WL.no1 (by omega))
  replace hR5 := hR5.mono st5 (WL.no1 (by omega)) (WL.no1 (by omega))
  replace hR6 := hR6.mono st5 (WL.no1 (by omega)) (WL.no1 (by omega))
  replace tot := tot.trans (st5.up1 (.inl (by simp [WL])))
  clear hB4
  have hB4 := hB8
  clear hB8
  refine WP.dn ?_
  refine NX.block_n ?_
  replace hs := Option.some.inj hs
  simp only [Prod.mk.injEq] at hs
  obtain ⟨rfl, rfl, rfl, rfl, rfl, rfl, rfl⟩ := hs
  exact NX.finE (v := .tuple #[]) (Res.still (by kernel_rfl)) tot htL ⟨a4, n4, c4, a5, n5, c5, a6, n6, c6, rfl, hR4, hB1, hR5, hR6, hB3, hB4⟩
 replace hs := of_if_f hs h3
 refine CP.skip ?_
 refine NX.block_n ?_
 replace hs := Option.some.inj hs
 simp only [Prod.mk.injEq] at hs
 obtain ⟨rfl, rfl, rfl, rfl, rfl, rfl, rfl⟩ := hs
 exact NX.finE (v := .tuple #[]) (Res.still (by kernel_rfl)) tot htL ⟨a4, n4, c4, a5, n5, c5, a6, n6, c6, rfl, hR4, hB1, hR5, hR6, hB3, hB4⟩
def F.state_Decode_4_2 (l1 : List Int) (x1 : Int) (d1 : Arr Int 8) (x2 : Int) (l2 : List Int) (l3 : List (List Int)) : Option (Bool × (List Int) × Int × (Arr Int 8) × Int × (List Int) × (List (List Int))) := ((F.octet_Reader_Bytes l1 x1 4096).bind fun (l4, d2, x3) => (some (true, d2, x3, d1, x2, l4, l3)))
theorem P.state_Decode_4_2 (g0 : GW) (m0 : Nat) (m1 : Nat) (m2 : Nat) (m3 : Nat) (m4 : Nat) (l1 : List Int) (x1 : Int) (d1 : Arr Int 8) (x2 : Int) (l2 : List Int) (l3 : List (List Int)) (a1 : Option Addr) (n1 : Nat) (c1 : Nat) (a2 : Option Addr) (n2 : Nat) (c2 : Nat) (a3 : Option Addr) (n3 : Nat) (c3 : Nat) (b1 : Nat) (b2 : Nat) (b3 : Nat) (hR1 : RdS (Kd.int .u8) g0 5 a1 n1 c1 l1) (hR2 : OwnS (Kd.int .u8) g0 m3 5 a2 n2 c2 l2) (hR3 : OwnS (Kd.slice 5 (Kd.int .u8)) g0 m4 24 a3 n3 c3 l3) (hB1 : Box g0 m1 b2 126 [[.slice a1 n1 c1], [.int .i64 x1]] [1, 1]) (hB2 : Box g0 m0 b1 101 [[.pointer (some ⟨b2, 0, none⟩)]] [1]) (hB3 : Box g0 m2 b3 61 [encA .u8 d1, [.int .i64 x2], [.slice a2 n2 c2], [.slice a3 n3 c3]] [8, 1, 1, 1]) (hm1_0 : m1 ≠ m0) (hm2_0 : m2 ≠ m0) (hm2_1 : m2 ≠ m1) (hm3_0 : m3 ≠ m0) (hm3_1 : m3 ≠ m1) (hm3_2 : m3 ≠ m2) (hm4_0 : m4 ≠ m0) (hm4_1 : m4 ≠ m1) (hm4_2 : m4 ≠ m2) (hm4_3 : m4 ≠ m3) (hm0 : m0 ≠ 0) (hm1 : m1 ≠ 0) (hm2 : m2 ≠ 0) (hm3 : m3 ≠ 0) (hm4 : m4 ≠ 0) (o1 : Bool) (o2 : (List Int)) (o3 : Int) (o4 : (Arr Int 8)) (o5 : Int) (o6 : (List Int)) (o7 : (List (List Int))) (hs : F.state_Decode_4_2 l1 x1 d1 x2 l2 l3 = some (o1, o2, o3, o4, o5, o6, o7)) :
  Calls Try.prog 56 #[.pointer (some ⟨b1, 0, none⟩), .pointer (some ⟨b3, 0, none⟩)] g0.w (Ret (WL [m1, m2, m3, m4]) g0 fun v g => ∃ (a_1 : Option Addr) (n_1 : Nat) (c_1 : Nat) (a_4 : Option Addr) (n_4 : Nat) (c_4 : Nat) (a_7 : Option Addr) (n_7 : Nat) (c_7 : Nat), v = .bool o1 ∧ RdS (Kd.int .u8) g 5 a_1 n_1 c_1 o2 ∧ Box g m1 b2 126 [[.slice a_1 n_1 c_1], [.int .i64 o3]] [1, 1] ∧ OwnS (Kd.int .u8) g m3 5 a_4 n_4 c_4 o6 ∧ OwnS (Kd.slice 5 (Kd.int .u8)) g m4 24 a_7 n_7 c_7 o7 ∧ Box g m2 b3 61 [encA .u8 o4, [.int .i64 o5], [.slice a_4 n_4 c_4], [.slice a_7 n_7 c_7]] [8, 1, 1, 1]) := by
 refine calls_of (args := [.pointer (some ⟨b1, 0, none⟩), .pointer (some ⟨b3, 0, none⟩)]) Try.func56 rfl (m0 + m1 + m2 + m3 + m4 + 0) ?_
 intro t ht htL
 refine ⟨_, rfl, ?_⟩
 refine CP.refr 7 [(0, .pointer (some ⟨b1, 0, none⟩)), (1, .pointer (some ⟨b3, 0, none⟩))] (by kernel_rfl) (by kernel_rfl) ?_
 intro ds
 have tot : Step (fun l => (WL [m1, m2, m3, m4]) l ∨ t ≤ l) g0 g0 := Step.refl _ _
 unfold F.state_Decode_4_2 at hs
 refine CP.seqR ?_
 refine WP.stl 1 ?_
 refine WP.dn ?_
 refine NX.then_n ?_
 refine CP.seqR ?_
 refine WP.loadB (v := .pointer (some ⟨b2, 0, none⟩)) hB2 (by kernel_rfl) (by kernel_rfl) ?_
 replace hs := Option.bind_eq_some_iff.1 hs
 obtain ⟨⟨l4, d2, x3⟩, hk1, hs⟩ := hs
 dsimp only at hs
 have hcal1 := P.octet_Reader_Bytes g0 m1 (t + 1) l1 x1 4096 a1 n1 c1 b2 hR1 hB1 (by omega) l4 d2 x3 hk1
 refine WP.callC hcal1 (by kernel_rfl) ?_
 rintro _ g1 st1 ⟨a4, n4, c4, a5, n5, c5, rfl, hR4, hR5, hB4⟩
 replace hB2 := hB2.mono st1 (WL.no1 (by omega))
 replace hB3 := hB3.mono st1 (WL.no1 (by omega))
 replace hR2 := hR2.mono st1 (WL.no1 (by omega)) (WL.no1 (by omega))
 replace hR3 := hR3.mono st1 (WL.no1 (by omega)) (WL.no1 (by omega))
 replace tot := tot.trans (st1.up1 (.inl (by simp [WL])))
 clear hB1
 have hB1 := hB4
 clear hB4
 refine WP.stl 2 ?_
 refine WP.storeB (ty := 24) (off := 9) (v := .slice a4 n4 c4) hB3 [[.slice a4 n4 c4]] [1] (by kernel_rfl) (by kernel_rfl) rfl (by kernel_rfl) [encA .u8 d1, [.int .i64 x2], [.slice a4 n4 c4], [.slice a3 n3 c3]] (by kernel_rfl) (.one rfl .nil) ?_
 intro g2 st2 hB5
 replace hB2 := hB2.mono st2 (WL.no1 (by omega))
 replace hB1 := hB1.mono st2 (WL.no1 (by omega))
 replace hR5 := hR5.mono st2 (WL.no1 (by omega))
 replace hR4 := hR4.mono st2 (WL.no1 (by omega)) (WL.no1 (by omega))
 replace hR3 := hR3.mono st2 (WL.no1 (by omega)) (WL.no1 (by omega))
 replace tot := tot.trans (st2.up1 (.inl (by simp [WL])))
 clear hB3
 have hB3 := hB5
 clear hB5
 refine WP.dn ?_
 refine NX.then_n ?_
 refine CP.seqR ?_
 refine WP.stl 1 ?_
 refine WP.dn ?_
 refine NX.then_n ?_
 refine CP.ret ?_
 obtain ⟨g3, hw1, st3, hnew⟩ := hR4.relab (by omega) m3
 refine NX.regw hw1 ?_
 replace hB1 := hB1.mono st3 (WL.no1 (by omega))
 replace hR5 := hR5.mono st3 (WL.no1 (by omega))
 replace hB3 := hB3.mono st3 (WL.no1 (by omega))
 replace hR3 := hR3.mono st3 (WL.no1 (by omega)) (WL.no1 (by omega))
 replace tot := tot.trans (st3.up1 (.inr (by omega)))
 clear hR4
 have hR4 := hnew
 clear hnew
 replace hs := Option.some.inj hs
 simp only [Prod.mk.injEq] at hs
 obtain ⟨rfl, rfl, rfl, rfl, rfl, rfl, rfl⟩ := hs
 exact NX.fin (v := .bool true) (Res.still (by kernel_rfl)) tot htL ⟨a5, n5, c5, a4, n4, c4, a3, n3, c3, rfl, hR5, hB1, hR4, hR3, hB3⟩
def F.state_Decode_1_6 (l1 : List Int) (x1 : Int) (d1 : Arr Int 8) (x2 : Int) (l2 : List Int) (l3 : List (List Int)) (x3 : Int) : Option ((List Int) × Int × (Arr Int 8) × Int × (List Int) × (List (List Int)) × Int) := (if (x3 != 0) = true then (some (l1, x1, d1, x2, l2, l3, x3)) else ((F.state_Decode_4_2 l1 x1 d1 x2 l2 l3).bind fun (q1, d2, x4, d3, x5, d4, d5) => ((F.octet_Reader_Err d2 x4).bind fun x6 => (if (x6 != 0) = true then ((F.octet_Reader_Err d2 x4).bind fun x7 => (some (d2, x4, d3, x5, d4, d5, x7))) else (if (!q1) = true then (some (d2, x4, d3, x5, d4, d5, 3)) else (some (d2, x4, d3, x5, d4, d5, x3)))))))
theorem P.state_Decode_1_6 (g0 : GW) (m0 : Nat) (m1 : Nat) (m2 : Nat) (m3 : Nat) (m4 : Nat) (m5 : Nat) (l1 : List Int) (x1 : Int) (d1 : Arr Int 8) (x2 : Int) (l2 : List Int) (l3 : List (List Int)) (x3 : Int) (a1 : Option Addr) (n1 : Nat) (c1 : Nat) (a2 : Option Addr) (n2 : Nat) (c2 : Nat) (a3 : Option Addr) (n3 : Nat) (c3 : Nat) (b1 : Nat) (b2 : Nat) (b3 : Nat) (b4 : Nat) (hR1 : RdS (Kd.int .u8) g0 5 a1 n1 c1 l1) (hR2 : OwnS (Kd.int .u8) g0 m3 5 a2 n2 c2 l2) (hR3 : OwnS (Kd.slice 5 (Kd.int .u8)) g0 m4 24 a3 n3 c3 l3) (hB1 : Box g0 m1 b2 126 [[.slice a1 n1 c1], [.int .i64 x1]] [1, 1]) (hB2 : Box g0 m0 b1 101 [[.pointer (some ⟨b2, 0, none⟩)]] [1]) (hB3 : Box g0 m2 b3 61 [encA .u8 d1, [.int .i64 x2], [.slice a2 n2 c2], [.slice a3 n3 c3]] [8, 1, 1, 1]) (hB4 : Box g0 m5 b4 43 [[.int .i64 x3]] [1]) (hm1_0 : m1 ≠ m0) (hm2_0 : m2 ≠ m0) (hm2_1 : m2 ≠ m1) (hm3_0 : m3 ≠ m0) (hm3_1 : m3 ≠ m1) (hm3_2 : m3 ≠ m2) (hm4_0 : m4 ≠ m0) (hm4_1 : m4 ≠ m1) (hm4_2 : m4 ≠ m2) (hm4_3 : m4 ≠ m3) (hm5_0 : m5 ≠ m0) (hm5_1 : m5 ≠ m1) (hm5_2 : m5 ≠ m2) (hm5_3 : m5 ≠ m3) (hm5_4 : m5 ≠ m4) (hm0 : m0 ≠ 0) (hm1 : m1 ≠ 0) (hm2 : m2 ≠ 0) (hm3 : m3 ≠ 0) (hm4 : m4 ≠ 0) (hm5 : m5 ≠ 0) (o1 : (List Int)) (o2 : Int) (o3 : (Arr Int 8)) (o4 : Int) (o5 : (List Int)) (o6 : (List (List Int))) (o7 : Int) (hs : F.state_Decode_1_6 l1 x1 d1 x2 l2 l3 x3 = some (o1, o2, o3, o4, o5, o6, o7)) :
  Calls Try.prog 50 #[.func (.func 56) #[] #[.pointer (some ⟨b1, 0, none⟩), .pointer (some ⟨b3, 0, none⟩)], .pointer (some ⟨b4, 0, none⟩), .pointer (some ⟨b1, 0, none⟩)] g0.w (Ret (WL [m1, m2, m5, m3, m4]) g0 fun v g => ∃ (a_1 : Option Addr) (n_1 : Nat) (c_1 : Nat) (a_4 : Option Addr) (n_4 : Nat) (c_4 : Nat) (a_7 : Option Addr) (n_7 : Nat) (c_7 : Nat), v = .tuple #[] ∧ RdS (Kd.int .u8) g 5 a_1 n_1 c_1 o1 ∧ Box g m1 b2 126 [[.slice a_1 n_1 c_1], [.int .i64 o2]] [1, 1] ∧ OwnS (Kd.int .u8) g m3 5 a_4 n_4 c_4 o5 ∧ OwnS (Kd.slice 5 (Kd.int .u8)) g m4 24 a_7 n_7 c_7 o6 ∧ Box g m2 b3 61 [encA .u8 o3, [.int .i64 o4], [.slice a_4 n_4 c_4], [.slice a_7 n_7 c_7]] [8, 1, 1, 1] ∧ Box g m5 b4 43 [[.int .i64 o7]] [1]) := by
 refine calls_of (args := [.func (.func 56) #[] #[.pointer (some ⟨b1, 0, none⟩), .pointer (some ⟨b3, 0, none⟩)], .pointer (some ⟨b4, 0, none⟩), .pointer (some ⟨b1, 0, none⟩)]) Try.func50 rfl (m0 + m1 + m2 + m3 + m4 + m5 + 0) ?_
 intro t ht htL
 refine ⟨_, rfl, ?_⟩
 refine CP.refr 18 [(0, .func (.func 56) #[] #[.pointer (some ⟨b1, 0, none⟩), .pointer (some ⟨b3, 0, none⟩)]), (1, .pointer (some ⟨b4, 0, none⟩)), (2, .pointer (some ⟨b1, 0, none⟩))] (by kernel_rfl) (by kernel_rfl) ?_
 intro ds
 have tot : Step (fun l => (WL [m1, m2, m5, m3, m4]) l ∨ t ≤ l) g0 g0 := Step.refl _ _
 unfold F.state_Decode_1_6 at hs
 refine CP.seq ?_
 refine CP.seqR ?_
 refine WP.loadB (v := .int .i64 x3) hB4 (by kernel_rfl) (by kernel_rfl) ?_
 refine WP.stl 1 ?_
 refine WP.dn ?_
 refine NX.then_n ?_
 refine CP.cond (b := (x3 != 0)) (by kernel_rfl) (fun h1 => ?_) (fun h1 => ?_)
 ·replace hs := of_if_t hs h1
  refine CP.ret ?_
  refine NX.then_r ?_
  replace hs := Option.some.inj hs
  simp only [Prod.mk.injEq] at hs
  obtain ⟨rfl, rfl, rfl, rfl, rfl, rfl, rfl⟩ := hs
  exact NX.fin (v := .tuple #[]) (Res.still (by kernel_rfl)) tot htL ⟨a1, n1, c1, a2, n2, c2, a3, n3, c3, rfl, hR1, hB1, hR2, hR3, hB3, hB4⟩
 replace hs := of_if_f hs h1
 refine CP.skip ?_
 refine NX.then_n ?_
 refine CP.seqR ?_
 refine WP.stl 1 ?_
 replace hs := Option.bind_eq_some_iff.1 hs
 obtain ⟨⟨q1, d2, x4, d3, x5, d4, d5⟩, hk1, hs⟩ := hs
 dsimp only at hs
 have hcal1 := P.state_Decode_4_2 g0 m0 m1 m2 m3 m4 l1 x1 d1 x2 l2 l3 a1 n1 c1 a2 n2 c2 a3 n3 c3 b1 b2 b3 hR1 hR2 hR3 hB1 hB2 hB3 (by omega) (by omega) (by omega) (by omega) (by omega) (by omega) (by omega) (by omega) (by omega) (by omega) (by omega) (by omega) (by omega) (by omega) (by omega) q1 d2 x4 d3 x5 d4 d5 hk1
 refine WP.callC hcal1 (by kernel_rfl) ?_
 rintro _ g1 st1 ⟨a4, n4, c4, a5, n5, c5, a6, n6, c6, rfl, hR4, hB5, hR5, hR6, hB6⟩
 replace hB2 := hB2.mono st1 (WL.no (by simp <;> omega))
 replace hB4 := hB4.mono st1 (WL.no (by simp <;> omega))
 replace tot := tot.trans (st1.up (by intro l hl; simp at hl; rcases hl with rfl | rfl | rfl | rfl <;> first | exact .inr (by omega) | exact .inl (by simp [WL])))
 clear hB1
 have hB1 := hB5
 clear hB5
 clear hB3
 have hB3 := hB6
 clear hB6
 refine WP.stl 1 ?_
 refine WP.dn ?_
 refine NX.then_n ?_
 refine CP.block ?_
 refine CP.seqR ?_
 refine WP.loadB (v := .pointer (some ⟨b2, 0, none⟩)) hB2 (by kernel_rfl) (by kernel_rfl) ?_
 replace hs := Option.bind_eq_some_iff.1 hs
 obtain ⟨x6, hk2, hs⟩ := hs
 have hcal2 := P.octet_Reader_Err g1 m1 d2 x4 a4 n4 c4 b2 hR4 hB1 (by omega) x6 hk2
 refine WP.callC hcal2 (by kernel_rfl) ?_
 rintro _ g2 st2 rfl
 replace hB4 := hB4.mono st2 (fun x => x)
 replace hB2 := hB2.mono st2 (fun x => x)
 replace hB1 := hB1.mono st2 (fun x => x)
 replace hR4 := hR4.mono st2 (fun x => x)
 replace hB3 := hB3.mono st2 (fun x => x)
 replace hR5 := hR5.mono st2 (fun x => x) (fun x => x)
 replace hR6 := hR6.mono st2 (fun x => x) (fun x => x)
 replace tot := tot.trans st2.pure
 refine WP.stl 2 ?_
 refine WP.dn ?_
 refine NX.then_n ?_
 refine CP.cond (b := (x6 != 0)) (by kernel_rfl) (fun h2 => ?_) (fun h2 => ?_)
 ·replace hs := of_if_t hs h2
  refine CP.region ?_
  refine WP.loadB (v := .pointer (some ⟨b2, 0, none⟩)) hB2 (by kernel_rfl) (by kernel_rfl) ?_
  replace hs := Option.bind_eq_some_iff.1 hs
  obtain ⟨x7, hk3, hs⟩ := hs
  have hcal3 := P.octet_Reader_Err g2 m1 d2 x4 a4 n4 c4 b2 hR4 hB1 (by omega) x7 hk3
  refine WP.callC hcal3 (by kernel_rfl) ?_
  rintro _ g3 st3 rfl
  replace hB4 := hB4.mono st3 (fun x => x)
  replace hB2 := hB2.mono st3 (fun x => x)
  replace hB1 := hB1.mono st3 (fun x => x)
  replace hR4 := hR4.mono st3 (fun x => x)
  replace hB3 := hB3.mono st3 (fun x => x)
  replace hR5 := hR5.mono st3 (fun x => x) (fun x => x)
  replace hR6 := hR6.mono st3 (fun x => x) (fun x => x)
  replace tot := tot.trans st3.pure
  refine WP.storeB (ty := 43) (off := 0) (v := .int .i64 x7) hB4 [[.int .i64 x7]] [1] (by kernel_rfl) (by kernel_rfl) rfl (by kernel_rfl) [[.int .i64 x7]] (by kernel_rfl) (.one rfl .nil) ?_
  intro g4 st4 hB7
  replace hB2 := hB2.mono st4 (WL.no1 (by omega))
  replace hB1 := hB1.mono st4 (WL.no1 (by omega))
  replace hR4 := hR4.mono st4 (WL.no1 (by omega))
  replace hB3 := hB3.mono st4 (WL.no1 (by omega))
  replace hR5 := hR5.mono st4 (WL.no1 (by omega)) (WL.no1 (by omega))
  replace hR6 := hR6.mono st4 (WL.no1 (by omega)) (WL.no1 (by omega))
  replace tot := tot.trans (st4.up1 (.inl (by simp [WL])))
  clear hB4
  have hB4 := hB7
  clear hB7
  refine WP.dn ?_
  refine NX.block_n ?_
  replace hs := Option.some.inj hs
  simp only [Prod.mk.injEq] at hs
  obtain ⟨rfl, rfl, rfl, rfl, rfl, rfl, rfl⟩ := hs
  exact NX.finE (v := .tuple #[]) (Res.still (by kernel_rfl)) tot htL ⟨a4, n4, c4, a5, n5, c5, a6, n6, c6, rfl, hR4, hB1, hR5, hR6, hB3, hB4⟩
 replace hs := of_if_f hs h2
 refine CP.seqR ?_
 refine WP.stl 3 ?_
 refine WP.dn ?_
 refine NX.then_n ?_
 refine CP.cond (b := (!q1)) (by kernel_rfl) (fun h3 => ?_) (fun h3 => ?_)
 ·replace hs := of_if_t hs h3
  refine CP.region ?_
  refine WP.storeB (ty := 43) (off := 0) (v := .int .i64 3) hB4 [[.int .i64 3]] [1] (by kernel_rfl) (by kernel_rfl) rfl (by kernel_rfl) [[.int .i64 3]] (by kernel_rfl) (.one rfl .nil) ?_
  intro g5 st5 hB8
  replace hB1 := hB1.mono st5 (WL.no1 (by omega))
  replace hR4 := hR4.mono st5 (WL.no1 (by omega))
  replace hB3 := hB3.mono st5 (WL.no1 (by omega))
  replace hR5 := hR5.mono st5 (WL.no1 (by omega)) (WL.no1 (by omega))
  replace hR6 := hR6.mono st5 (WL.no1 (by omega)) (WL.no1 (by omega))
  replace tot := tot.trans (st5.up1 (.inl (by simp [WL])))
  clear hB4
  have hB4 := hB8
  clear hB8
  refine WP.dn ?_
  refine NX.block_n ?_
  replace hs := Option.some.inj hs
  simp only [Prod.mk.injEq] at hs
  obtain ⟨rfl, rfl, rfl, rfl, rfl, rfl, rfl⟩ := hs
  exact NX.finE (v := .tuple #[]) (Res.still (by kernel_rfl)) tot htL ⟨a4, n4, c4, a5, n5, c5, a6, n6, c6, rfl, hR4, hB1, hR5, hR6, hB3, hB4⟩
 replace hs := of_if_f hs h3
 refine CP.skip ?_
 refine NX.block_n ?_
 replace hs := Option.some.inj hs
 simp only [Prod.mk.injEq] at hs
 obtain ⟨rfl, rfl, rfl, rfl, rfl, rfl, rfl⟩ := hs
 exact NX.finE (v := .tuple #[]) (Res.still (by kernel_rfl)) tot htL ⟨a4, n4, c4, a5, n5, c5, a6, n6, c6, rfl, hR4, hB1, hR5, hR6, hB3, hB4⟩
def F.state_Decode_5 (l1 : List Int) (x1 : Int) (x2 : Int) : Option (Bool × (List Int) × Int × Int) := ((F.octet_Reader_Num l1 x1 8).bind fun (x3, d1, x4) => (some (decide ((IntKind.i64.wrap x3) ≥ 2), d1, x4, (IntKind.i64.wrap x3))))
theorem P.state_Decode_5 (g0 : GW) (m0 : Nat) (m1 : Nat) (m2 : Nat) (l1 : List Int) (x1 : Int) (x2 : Int) (a1 : Option Addr) (n1 : Nat) (c1 : Nat) (b1 : Nat) (b2 : Nat) (b3 : Nat) (hR1 : RdS (Kd.int .u8) g0 5 a1 n1 c1 l1) (hB1 : Box g0 m1 b2 126 [[.slice a1 n1 c1], [.int .i64 x1]] [1, 1]) (hB2 : Box g0 m0 b1 101 [[.pointer (some ⟨b2, 0, none⟩)]] [1]) (hB3 : Box g0 m2 b3 3 [[.int .i64 x2]] [1]) (hm1_0 : m1 ≠ m0) (hm2_0 : m2 ≠ m0) (hm2_1 : m2 ≠ m1) (hm0 : m0 ≠ 0) (hm1 : m1 ≠ 0) (hm2 : m2 ≠ 0) (o1 : Bool) (o2 : (List Int)) (o3 : Int) (o4 : Int) (hs : F.state_Decode_5 l1 x1 x2 = some (o1, o2, o3, o4)) :
  Calls Try.prog 57 #[.pointer (some ⟨b1, 0, none⟩), .pointer (some ⟨b3, 0, none⟩)] g0.w (Ret (WL [m1, m2]) g0 fun v g => ∃ (a_1 : Option Addr) (n_1 : Nat) (c_1 : Nat), v = .bool o1 ∧ RdS (Kd.int .u8) g 5 a_1 n_1 c_1 o2 ∧ Box g m1 b2 126 [[.slice a_1 n_1 c_1], [.int .i64 o3]] [1, 1] ∧ Box g m2 b3 3 [[.int .i64 o4]] [1]) := by
 refine calls_of (args := [.pointer (some ⟨b1, 0, none⟩), .pointer (some ⟨b3, 0, none⟩)]) Try.func57 rfl (m0 + m1 + m2 + 0) ?_
 intro t ht htL
 refine ⟨_, rfl, ?_⟩
 refine CP.refr 8 [(0, .pointer (some ⟨b1, 0, none⟩)), (1, .pointer (some ⟨b3, 0, none⟩))] (by kernel_rfl) (by kernel_rfl) ?_
 intro ds
 have tot : Step (fun l => (WL [m1, m2]) l ∨ t ≤ l) g0 g0 := Step.refl _ _
 unfold F.state_Decode_5 at hs
 refine CP.seqR ?_
 refine WP.stl 1 ?_
 refine WP.dn ?_
 refine NX.then_n ?_
 refine CP.seqR ?_
 refine WP.loadB (v := .pointer (some ⟨b2, 0, none⟩)) hB2 (by kernel_rfl) (by kernel_rfl) ?_
 replace hs := Option.bind_eq_some_iff.1 hs
 obtain ⟨⟨x3, d1, x4⟩, hk1, hs⟩ := hs
 dsimp only at hs
 have hcal1 := P.octet_Reader_Num g0 m1 l1 x1 8 a1 n1 c1 b2 hR1 hB1 (by omega) x3 d1 x4 hk1
 refine WP.callC hcal1 (by kernel_rfl) ?_
 rintro _ g1 st1 ⟨a2, n2, c2, rfl, hR2, hB4⟩
 replace hB2 := hB2.mono st1 (WL.no1 (by omega))
 replace hB3 := hB3.mono st1 (WL.no1 (by omega))
 replace tot := tot.trans (st1.up1 (.inl (by simp [WL])))
 clear hB1
 have hB1 := hB4
 clear hB4
 refine WP.stl 1 ?_
 refine WP.storeB (ty := 3) (off := 0) (v := .int .i64 (IntKind.i64.wrap x3)) hB3 [[.int .i64 (IntKind.i64.wrap x3)]] [1] (by kernel_rfl) (by kernel_rfl) rfl (by kernel_rfl) [[.int .i64 (IntKind.i64.wrap x3)]] (by kernel_rfl) (.one rfl .nil) ?_
 intro g2 st2 hB5
 replace hB2 := hB2.mono st2 (WL.no1 (by omega))
 replace hB1 := hB1.mono st2 (WL.no1 (by omega))
 replace hR2 := hR2.mono st2 (WL.no1 (by omega))
 replace tot := tot.trans (st2.up1 (.inl (by simp [WL])))
 clear hB3
 have hB3 := hB5
 clear hB5
 refine WP.dn ?_
 refine NX.then_n ?_
 refine CP.seqR ?_
 refine WP.loadB (v := .int .i64 (IntKind.i64.wrap x3)) hB3 (by kernel_rfl) (by kernel_rfl) ?_
 refine WP.stl 2 ?_
 refine WP.dn ?_
 refine NX.then_n ?_
 refine CP.ret ?_
 replace hs := Option.some.inj hs
 simp only [Prod.mk.injEq] at hs
 obtain ⟨rfl, rfl, rfl, rfl⟩ := hs
 exact NX.fin (v := .bool (decide ((IntKind.i64.wrap x3) ≥ 2))) (Res.still (by kernel_rfl)) tot htL ⟨a2, n2, c2, rfl, hR2, hB1, hB3⟩
def F.state_Decode_1_7 (l1 : List Int) (x1 : Int) (x2 : Int) (x3 : Int) : Option ((List Int) × Int × Int × Int) := (if (x3 != 0) = true then (some (l1, x1, x2, x3)) else ((F.state_Decode_5 l1 x1 x2).bind fun (q1, d1, x4, x5) => ((F.octet_Reader_Err d1 x4).bind fun x6 => (if (x6 != 0) = true then ((F.octet_Reader_Err d1 x4).bind fun x7 => (some (d1, x4, x5, x7))) else (if (!q1) = true then (some (d1, x4, x5, 3)) else (some (d1, x4, x5, x3)))))))
theorem P.state_Decode_1_7 (g0 : GW) (m0 : Nat) (m1 : Nat) (m2 : Nat) (m3 : Nat) (l1 : List Int) (x1 : Int) (x2 : Int) (x3 : Int) (a1 : Option Addr) (n1 : Nat) (c1 : Nat) (b1 : Nat) (b2 : Nat) (b3 : Nat) (b4 : Nat) (hR1 : RdS (Kd.int .u8) g0 5 a1 n1 c1 l1) (hB1 : Box g0 m1 b2 126 [[.slice a1 n1 c1], [.int .i64 x1]] [1, 1]) (hB2 : Box g0 m0 b1 101 [[.pointer (some ⟨b2, 0, none⟩)]] [1]) (hB3 : Box g0 m2 b3 3 [[.int .i64 x2]] [1]) (hB4 : Box g0 m3 b4 43 [[.int .i64 x3]] [1]) (hm1_0 : m1 ≠ m0) (hm2_0 : m2 ≠ m0) (hm2_1 : m2 ≠ m1) (hm3_0 : m3 ≠ m0) (hm3_1 : m3 ≠ m1) (hm3_2 : m3 ≠ m2) (hm0 : m0 ≠ 0) (hm1 : m1 ≠ 0) (hm2 : m2 ≠ 0) (hm3 : m3 ≠ 0) (o1 : (List Int)) (o2 : Int) (o3 : Int) (o4 : Int) (hs : F.state_Decode_1_7 l1 x1 x2 x3 = some (o1, o2, o3, o4)) :
  Calls Try.prog 50 #[.func (.func 57) #[] #[.pointer (some ⟨b1, 0, none⟩), .pointer (some ⟨b3, 0, none⟩)], .pointer (some ⟨b4, 0, none⟩), .pointer (some ⟨b1, 0, none⟩)] g0.w (Ret (WL [m1, m2, m3]) g0 fun v g => ∃ (a_1 : Option Addr) (n_1 : Nat) (c_1 : Nat), v = .tuple #[] ∧ RdS (Kd.int .u8) g 5 a_1 n_1 c_1 o1 ∧ Box g m1 b2 126 [[.slice a_1 n_1 c_1], [.int .i64 o2]] [1, 1] ∧ Box g m2 b3 3 [[.int .i64 o3]] [1] ∧ Box g m3 b4 43 [[.int .i64 o4]] [1]) := by
 refine calls_of (args := [.func (.func 57) #[] #[.pointer (some ⟨b1, 0, none⟩), .pointer (some ⟨b3, 0, none⟩)], .pointer (some ⟨b4, 0, none⟩), .pointer (some ⟨b1, 0, none⟩)]) Try.func50 rfl (m0 + m1 + m2 + m3 + 0) ?_
 intro t ht htL
 refine ⟨_, rfl, ?_⟩
 refine CP.refr 18 [(0, .func (.func 57) #[] #[.pointer (some ⟨b1, 0, none⟩), .pointer (some ⟨b3, 0, none⟩)]), (1, .pointer (some ⟨b4, 0, none⟩)), (2, .pointer (some ⟨b1, 0, none⟩))] (by kernel_rfl) (by kernel_rfl) ?_
 intro ds
 have tot : Step (fun l => (WL [m1, m2, m3]) l ∨ t ≤ l) g0 g0 := Step.refl _ _
 unfold F.state_Decode_1_7 at hs
 refine CP.seq ?_
 refine CP.seqR ?_
 refine WP.loadB (v := .int .i64 x3) hB4 (by kernel_rfl) (by kernel_rfl) ?_
 refine WP.stl 1 ?_
 refine WP.dn ?_
 refine NX.then_n ?_
 refine CP.cond (b := (x3 != 0)) (by kernel_rfl) (fun h1 => ?_) (fun h1 => ?_)
 ·replace hs := of_if_t hs h1
  refine CP.ret ?_
  refine NX.then_r ?_
  replace hs := Option.some.inj hs
  simp only [Prod.mk.injEq] at hs
  obtain ⟨rfl, rfl, rfl, rfl⟩ := hs
  exact NX.fin (v := .tuple #[]) (Res.still (by kernel_rfl)) tot htL ⟨a1, n1, c1, rfl, hR1, hB1, hB3, hB4⟩
 replace hs := of_if_f hs h1
 refine CP.skip ?_
 refine NX.then_n ?_
 refine CP.seqR ?_
 refine WP.stl 1 ?_
 replace hs := Option.bind_eq_some_iff.1 hs
 obtain ⟨⟨q1, d1, x4, x5⟩, hk1, hs⟩ := hs
 dsimp only at hs
 have hcal1 := P.state_Decode_5 g0 m0 m1 m2 l1 x1 x2 a1 n1 c1 b1 b2 b3 hR1 hB1 hB2 hB3 (by omega) (by omega) (by omega) (by omega) (by omega) (by omega) q1 d1 x4 x5 hk1
 refine WP.callC hcal1 (by kernel_rfl) ?_
 rintro _ g1 st1 ⟨a2, n2, c2, rfl, hR2, hB5, hB6⟩
 replace hB2 := hB2.mono st1 (WL.no2 (by omega) (by omega))
 replace hB4 := hB4.mono st1 (WL.no2 (by omega) (by omega))
 replace tot := tot.trans (st1.up2 (.inl (by simp [WL])) (.inl (by simp [WL])))
 clear hB1
 have hB1 := hB5
 clear hB5
 clear hB3
 have hB3 := hB6
 clear hB6
 refine WP.stl 1 ?_
 refine WP.dn ?_
 refine NX.then_n ?_
 refine CP.block ?_
 refine CP.seqR ?_
 refine WP.loadB (v := .pointer (some ⟨b2, 0, none⟩)) hB2 (by kernel_rfl) (by kernel_rfl) ?_
 replace hs := Option.bind_eq_some_iff.1 hs
 obtain ⟨x6, hk2, hs⟩ := hs
 have hcal2 := P.octet_Reader_Err g1 m1 d1 x4 a2 n2 c2 b2 hR2 hB1 (by omega) x6 hk2
 refine WP.callC hcal2 (by kernel_rfl) ?_
 rintro _ g2 st2 rfl
 replace hB4 := hB4.mono st2 (fun x => x)
 replace hB2 := hB2.mono st2 (fun x => x)
 replace hB1 := hB1.mono st2 (fun x => x)
 replace hR2 := hR2.mono st2 (fun x => x)
 replace hB3 := hB3.mono st2 (fun x => x)
 replace tot := tot.trans st2.pure
 refine WP.stl 2 ?_
 refine WP.dn ?_
 refine NX.then_n ?_
 refine CP.cond (b := (x6 != 0)) (by kernel_rfl) (fun h2 => ?_) (fun h2 => ?_)
 ·replace hs := of_if_t hs h2
  refine CP.region ?_
  refine WP.loadB (v := .pointer (some ⟨b2, 0, none⟩)) hB2 (by kernel_rfl) (by kernel_rfl) ?_
  replace hs := Option.bind_eq_some_iff.1 hs
  obtain ⟨x7, hk3, hs⟩ := hs
  have hcal3 := P.octet_Reader_Err g2 m1 d1 x4 a2 n2 c2 b2 hR2 hB1 (by omega) x7 hk3
  refine WP.callC hcal3 (by kernel_rfl) ?_
  rintro _ g3 st3 rfl
  replace hB4 := hB4.mono st3 (fun x => x)
  replace hB2 := hB2.mono st3 (fun x => x)
  replace hB1 := hB1.mono st3 (fun x => x)
  replace hR2 := hR2.mono st3 (fun x => x)
  replace hB3 := hB3.mono st3 (fun x => x)
  replace tot := tot.trans st3.pure
  refine WP.storeB (ty := 43) (off := 0) (v := .int .i64 x7) hB4 [[.int .i64 x7]] [1] (by kernel_rfl) (by kernel_rfl) rfl (by kernel_rfl) [[.int .i64 x7]] (by kernel_rfl) (.one rfl .nil) ?_
  intro g4 st4 hB7
  replace hB2 := hB2.mono st4 (WL.no1 (by omega))
  replace hB1 := hB1.mono st4 (WL.no1 (by omega))
  replace hR2 := hR2.mono st4 (WL.no1 (by omega))
  replace hB3 := hB3.mono st4 (WL.no1 (by omega))
  replace tot := tot.trans (st4.up1 (.inl (by simp [WL])))
  clear hB4
  have hB4 := hB7
  clear hB7
  refine WP.dn ?_
  refine NX.block_n ?_
  replace hs := Option.some.inj hs
  simp only [Prod.mk.injEq] at hs
  obtain ⟨rfl, rfl, rfl, rfl⟩ := hs
  exact NX.finE (v := .tuple #[]) (Res.still (by kernel_rfl)) tot htL ⟨a2, n2, c2, rfl, hR2, hB1, hB3, hB4⟩
 replace hs := of_if_f hs h2
 refine CP.seqR ?_
 refine WP.stl 3 ?_
 refine WP.dn ?_
 refine NX.then_n ?_
 refine CP.cond (b := (!q1)) (by kernel_rfl) (fun h3 => ?_) (fun h3 => ?_)
 ·replace hs := of_if_t hs h3
  refine CP.region ?_
  refine WP.storeB (ty := 43) (off := 0) (v := .int .i64 3) hB4 [[.int .i64 3]] [1] (by kernel_rfl) (by kernel_rfl) rfl (by kernel_rfl) [[.int .i64 3]] (by kernel_rfl) (.one rfl .nil) ?_
  intro g5 st5 hB8
  replace hB1 := hB1.mono st5 (WL.no1 (by omega))
  replace hR2 := hR2.mono st5 (WL.no1 (by omega))
  replace hB3 := hB3.mono st5 (WL.no1 (by omega))
  replace tot := tot.trans (st5.up1 (.inl (by simp [WL])))
  clear hB4
  have hB4 := hB8
  clear hB8
  refine WP.dn ?_
  refine NX.block_n ?_
  replace hs := Option.some.inj hs
  simp only [Prod.mk.injEq] at hs
  obtain ⟨rfl, rfl, rfl, rfl⟩ := hs
  exact NX.finE (v := .tuple #[]) (Res.still (by kernel_rfl)) tot htL ⟨a2, n2, c2, rfl, hR2, hB1, hB3, hB4⟩
 replace hs := of_if_f hs h3
 refine CP.skip ?_
 refine NX.block_n ?_
 replace hs := Option.some.inj hs
 simp only [Prod.mk.injEq] at hs
 obtain ⟨rfl, rfl, rfl, rfl⟩ := hs
 exact NX.finE (v := .tuple #[]) (Res.still (by kernel_rfl)) tot htL ⟨a2, n2, c2, rfl, hR2, hB1, hB3, hB4⟩
def N.state_Decode_6_2_0 : List (List Nat) := [[], [0], [], [2], [2, 3], [0, 1, 2, 3, 4], [0, 1, 2, 3, 4, 5], [0, 1, 2, 3, 4, 5, 6]]
def F.state_Decode_6_2 (d1 : Arr Int 8) (x1 : Int) (l1 : List Int) (l2 : List (List Int)) (l3 : List Int) (x2 : Int) : Option (Bool × (Arr Int 8) × Int × (List Int) × (List (List Int)) × (List Int) × Int) := ((F.octet_Reader_Bytes l3 x2 4096).bind fun (l4, d2, x3) => (if l2.length + ([l4]).length ≤ 5864062014805 then (some (true, d1, x1, l1, (l2 ++ [l4]), d2, x3)) else none))
theorem P.state_Decode_6_2 (g0 : GW) (m0 : Nat) (m1 : Nat) (m2 : Nat) (m3 : Nat) (m4 : Nat) (d1 : Arr Int 8) (x1 : Int) (l1 : List Int) (l2 : List (List Int)) (l3 : List Int) (x2 : Int) (a1 : Option Addr) (n1 : Nat) (c1 : Nat) (a2 : Option Addr) (n2 : Nat) (c2 : Nat) (a3 : Option Addr) (n3 : Nat) (c3 : Nat) (b1 : Nat) (b2 : Nat) (b3 : Nat) (hR1 : OwnS (Kd.int .u8) g0 m1 5 a1 n1 c1 l1) (hR2 : OwnS (Kd.slice 5 (Kd.int .u8)) g0 m2 24 a2 n2 c2 l2) (hR3 : RdS (Kd.int .u8) g0 5 a3 n3 c3 l3) (hB1 : Box g0 m0 b1 61 [encA .u8 d1, [.int .i64 x1], [.slice a1 n1 c1], [.slice a2 n2 c2]] [8, 1, 1, 1]) (hB2 : Box g0 m4 b3 126 [[.slice a3 n3 c3], [.int .i64 x2]] [1, 1]) (hB3 : Box g0 m3 b2 101 [[.pointer (some ⟨b3, 0, none⟩)]] [1]) (hm1_0 : m1 ≠ m0) (hm2_0 : m2 ≠ m0) (hm2_1 : m2 ≠ m1) (hm3_0 : m3 ≠ m0) (hm3_1 : m3 ≠ m1) (hm3_2 : m3 ≠ m2) (hm4_0 : m4 ≠ m0) (hm4_1 : m4 ≠ m1) (hm4_2 : m4 ≠ m2) (hm4_3 : m4 ≠ m3) (hm0 : m0 ≠ 0) (hm1 : m1 ≠ 0) (hm2 : m2 ≠ 0) (hm3 : m3 ≠ 0) (hm4 : m4 ≠ 0) (o1 : Bool) (o2 : (Arr Int 8)) (o3 : Int) (o4 : (List Int)) (o5 : (List (List Int))) (o6 : (List Int)) (o7 : Int) (hs : F.state_Decode_6_2 d1 x1 l1 l2 l3 x2 = some (o1, o2, o3, o4, o5, o6, o7)) :
  Calls Try.prog 58 #[.pointer (some ⟨b1, 0, none⟩), .pointer (some ⟨b2, 0, none⟩)] g0.w (Ret (WL [m0, m4, m1, m2]) g0 fun v g => ∃ (a_1 : Option Addr) (n_1 : Nat) (c_1 : Nat) (a_4 : Option Addr) (n_4 : Nat) (c_4 : Nat) (a_7 : Option Addr) (n_7 : Nat) (c_7 : Nat), v = .bool o1 ∧ OwnS (Kd.int .u8) g m1 5 a_1 n_1 c_1 o4 ∧ OwnS (Kd.slice 5 (Kd.int .u8)) g m2 24 a_4 n_4 c_4 o5 ∧ Box g m0 b1 61 [encA .u8 o2, [.int .i64 o3], [.slice a_1 n_1 c_1], [.slice a_4 n_4 c_4]] [8, 1, 1, 1] ∧ RdS (Kd.int .u8) g 5 a_7 n_7 c_7 o6 ∧ Box g m4 b3 126 [[.slice a_7 n_7 c_7], [.int .i64 o7]] [1, 1]) := by
 refine calls_of (args := [.pointer (some ⟨b1, 0, none⟩), .pointer (some ⟨b2, 0, none⟩)]) Try.func58 rfl (m0 + m1 + m2 + m3 + m4 + 0) ?_
 intro t ht htL
 refine ⟨_, rfl, ?_⟩
 refine CP.refr 10 [(0, .pointer (some ⟨b1, 0, none⟩)), (1, .pointer (some ⟨b2, 0, none⟩))] (by kernel_rfl) (by kernel_rfl) ?_
 intro ds
 have tot : Step (fun l => (WL [m0, m4, m1, m2]) l ∨ t ≤ l) g0 g0 := Step.refl _ _
 unfold F.state_Decode_6_2 at hs
 refine CP.seqR ?_
 refine WP.stl 1 ?_
 refine WP.dn ?_
 refine NX.then_n ?_
 refine CP.seq ?_
 replace hs := Option.bind_eq_some_iff.1 hs
 obtain ⟨⟨l4, d2, x3⟩, hk1, hs⟩ := hs
 dsimp only at hs
 by_cases hc1 : l2.length + ([l4]).length ≤ 5864062014805
 case neg => rw [if_neg hc1] at hs; cases hs
 replace hs := of_if_p hs hc1
 refine CP.drawL (by kernel_rfl) [1, 2, 3, 4, 5, 7] N.state_Decode_6_2_0 [⟨none, [3], [], fun l g => Box g m0 b1 61 [encA .u8 d1, [.int .i64 x1], [.slice a1 n1 c1], [.slice a2 n2 c2]] [8, 1, 1, 1]⟩, ⟨none, [2], [], fun l g => OwnS (Kd.slice 5 (Kd.int .u8)) g m2 24 a2 n2 c2 l2⟩, ⟨none, [], [], fun l g => Box g m3 b2 101 [[.pointer (some ⟨b3, 0, none⟩)]] [1]⟩, ⟨none, [0], [], fun l g => Box g m4 b3 126 [[.slice a3 n3 c3], [.int .i64 x2]] [1, 1]⟩, ⟨none, [], [], fun l g => RdS (Kd.int .u8) g 5 a3 n3 c3 l3⟩, ⟨some 0, [], [0], fun l g => l.getD 0 undef = .slice a2 n2 c2⟩, ⟨some 1, [], [1], fun l g => l.getD 0 undef = .pointer (some ⟨b3, 0, none⟩)⟩, ⟨some 2, [0, 1], [2], fun l g => ∃ (a4 : Option Addr) (c4 : Nat) (a5 : Option Addr) (c5 : Nat), l.getD 0 undef = .slice a4 l4.length c4 ∧ OwnS (Kd.int .u8) g (t + 1) 5 a4 l4.length c4 l4 ∧ RdS (Kd.int .u8) g 5 a5 d2.length c5 d2 ∧ Box g m4 b3 126 [[.slice a5 d2.length c5], [.int .i64 x3]] [1, 1]⟩, ⟨some 3, [], [3], fun l g => ∃ (a6 : Option Addr), l.getD 0 undef = .slice a6 1 1 ∧ OwnS (Kd.slice 5 (Kd.int .u8)) g (t + 2) 24 a6 1 1 ([l4])⟩, ⟨some 3, [0], [2], fun l g => ∃ (a4 : Option Addr) (c4 : Nat) (a5 : Option Addr) (c5 : Nat), l.getD 0 undef = .slice a4 l4.length c4 ∧ RdS (Kd.int .u8) g 5 a4 l4.length c4 l4 ∧ RdS (Kd.int .u8) g 5 a5 d2.length c5 d2 ∧ Box g m4 b3 126 [[.slice a5 d2.length c5], [.int .i64 x3]] [1, 1]⟩, ⟨some 4, [2], [4], fun l g => ∃ (a7 : Option Addr) (c6 : Nat), l.getD 0 undef = .slice a7 (n2 + 1) c6 ∧ OwnS (Kd.slice 5 (Kd.int .u8)) g m2 24 a7 (n2 + 1) c6 (l2 ++ [l4])⟩, ⟨some 5, [2, 3], [4], fun l g => ∃ (a7 : Option Addr) (c6 : Nat), l.getD 0 undef = .slice a7 (n2 + 1) c6 ∧ OwnS (Kd.slice 5 (Kd.int .u8)) g m2 24 a7 (n2 + 1) c6 (l2 ++ [l4]) ∧ Box g m0 b1 61 [encA .u8 d1, [.int .i64 x1], [.slice a1 n1 c1], [.slice a7 (n2 + 1) c6]] [8, 1, 1, 1]⟩] [[], [], [0], [1], [2], [3]] [m4, (t + 1), m2, m0] [0, 6] [] (by kernel_rfl) (by simp <;> omega) (by simp <;> omega) ⟨fun _ _ _ _ st h0 hl hj hB1 => (hB1.mono st (hj 3 (by simp) _ rfl)), fun _ _ _ _ st h0 hl hj hR2 => (hR2.mono st h0 (hj 2 (by simp) _ rfl)), fun _ _ _ _ st h0 hl hj hB3 => (hB3.mono st (fun h => absurd (hl _ h) (by simp <;> omega))), fun _ _ _ _ st h0 hl hj hB2 => (hB2.mono st (hj 0 (by simp) _ rfl)), fun _ _ _ _ st h0 hl hj hR3 => (RdS.mono (e := 5) hR3 st h0), fun _ _ _ _ st h0 hl hj e0 => e0, fun _ _ _ _ st h0 hl hj e1 => e1, fun _ _ _ _ st h0 hl hj ⟨a4, c4, a5, c5, e2, hR4, hR5, hB2⟩ => ⟨a4, c4, a5, c5, e2, (hR4.mono st h0 (hj 1 (by simp) _ rfl)), (RdS.mono (e := 5) hR5 st h0), (hB2.mono st (hj 0 (by simp) _ rfl))⟩, fun _ _ _ _ st h0 hl hj ⟨a6, e3, hR6⟩ => ⟨a6, e3, (hR6.mono st h0 (fun h => absurd (hl _ h) (by simp <;> omega)))⟩, fun _ _ _ _ st h0 hl hj ⟨a4, c4, a5, c5, e2, hR4, hR5, hB2⟩ => ⟨a4, c4, a5, c5, e2, (RdS.mono (e := 5) hR4 st h0), (RdS.mono (e := 5) hR5 st h0), (hB2.mono st (hj 0 (by simp) _ rfl))⟩, fun _ _ _ _ st h0 hl hj ⟨a7, c6, e4, hR7⟩ => ⟨a7, c6, e4, (hR7.mono st h0 (hj 2 (by simp) _ rfl))⟩, fun _ _ _ _ st h0 hl hj ⟨a7, c6, e4, hR7, hB1⟩ => ⟨a7, c6, e4, (hR7.mono st h0 (hj 2 (by simp) _ rfl)), (hB1.mono st (hj 3 (by simp) _ rfl))⟩, tv⟩ ⟨hB1, hR2, hB3, hB2, hR3, tv, tv, tv, tv, tv, tv, tv, tv⟩ (by kernel_rfl) (fun vs => by kernel_rfl) ?_ ?_ ?_
 ·intro j hj; exact absurd hj (by simp)
 ·intro j hj
  have hq : j = 0 ∨ j = 1 ∨ j = 2 ∨ j = 3 ∨ j = 4 ∨ j = 5 := by have h : j < 6 := hj; omega
  rcases hq with rfl | rfl | rfl | rfl | rfl | rfl
  ·intro vs gq stq hl hf
   obtain ⟨v0, v1, v2, v3, v4, v5, rfl⟩ := len_k6 hl
   have hB1 := (show Box gq m0 b1 61 [encA .u8 d1, [.int .i64 x1], [.slice a1 n1 c1], [.slice a2 n2 c2]] [8, 1, 1, 1] from hf _ (memI 0 rfl) (by kernel_rfl))
   refine WP.loadB (v := .slice a2 n2 c2) hB1 (by kernel_rfl) (by kernel_rfl) ?_
   refine WP.dn (Shown.ok (v := .slice a2 n2 c2) (by kernel_rfl) (Step.refl _ _) ?_)
   exact ⟨tv, tv, tv, tv, tv, rfl, tv, tv, tv, tv, tv, tv, tv⟩
  ·intro vs gq stq hl hf
   obtain ⟨v0, v1, v2, v3, v4, v5, rfl⟩ := len_k6 hl
   have hB3 := (show Box gq m3 b2 101 [[.pointer (some ⟨b3, 0, none⟩)]] [1] from hf _ (memI 2 rfl) (by kernel_rfl))
   refine WP.loadB (v := .pointer (some ⟨b3, 0, none⟩)) hB3 (by kernel_rfl) (by kernel_rfl) ?_
   refine WP.dn (Shown.ok (v := .pointer (some ⟨b3, 0, none⟩)) (by kernel_rfl) (Step.refl _ _) ?_)
   exact ⟨tv, tv, tv, tv, tv, tv, rfl, tv, tv, tv, tv, tv, tv⟩
  ·intro vs gq stq hl hf
   obtain ⟨v0, v1, v2, v3, v4, v5, rfl⟩ := len_k6 hl
   have hB2 := (show Box gq m4 b3 126 [[.slice a3 n3 c3], [.int .i64 x2]] [1, 1] from hf _ (memI 3 rfl) (by kernel_rfl))
   have hR3 := (show RdS (Kd.int .u8) gq 5 a3 n3 c3 l3 from hf _ (memI 4 rfl) (by kernel_rfl))
   have e1 := (show v1 = .pointer (some ⟨b3, 0, none⟩) from hf _ (memI 6 rfl) (by kernel_rfl))
   subst e1
   have hcal1 := P.octet_Reader_Bytes gq m4 (t + 1) l3 x2 4096 a3 n3 c3 b3 hR3 hB2 (by omega) l4 d2 x3 hk1
   refine WP.callC hcal1 (by kernel_rfl) ?_
   rintro _ g1 st1 ⟨a4, n4, c4, a5, n5, c5, rfl, hR4, hR5, hB4⟩
   obtain rfl := hR4.len
   obtain rfl := hR5.len
   refine WP.dn (Shown.o (v := .slice a4 l4.length c4) st1 ?_)
   exact ⟨tv, tv, tv, tv, tv, tv, tv, ⟨a4, c4, a5, c5, rfl, hR4, hR5, hB4⟩, tv, tv, tv, tv, tv⟩
  ·intro vs gq stq hl hf
   obtain ⟨v0, v1, v2, v3, v4, v5, rfl⟩ := len_k6 hl
   obtain ⟨a4, c4, a5, c5, e2, hR4, hR5, hB2⟩ := (show ∃ (a4 : Option Addr) (c4 : Nat) (a5 : Option Addr) (c5 : Nat), v2 = .slice a4 l4.length c4 ∧ OwnS (Kd.int .u8) gq (t + 1) 5 a4 l4.length c4 l4 ∧ RdS (Kd.int .u8) gq 5 a5 d2.length c5 d2 ∧ Box gq m4 b3 126 [[.slice a5 d2.length c5], [.int .i64 x3]] [1, 1] from hf _ (memI 7 rfl) (by kernel_rfl))
   subst e2
   obtain ⟨gf1, hwf1, stf1, hnew⟩ := hR4.freeze (by omega)
   refine WP.regw hwf1 ?_
   clear hR4
   have hR4 := hnew
   clear hnew
   refine WP.mkSl (kd := (Kd.slice 5 (Kd.int .u8))) (t := 42) (e := 24) (bytes := 24) (t + 2) [.slice a4 l4.length c4] [l4] (by kernel_rfl) (by kernel_rfl) (Nat.le_of_ble_eq_true rfl) (Nat.le_of_ble_eq_true rfl) (all_cons rfl all_nil) (⟨_, _, rfl, (by exact ⟨_, _, _, rfl, hR4⟩), rfl⟩) rfl ?_
   intro g2 a6 st2 hR6
   replace st2 : Step (WL []) _ _ := Step.pure st2
   have hz1 := hR4.mono st2 (WL.no (by simp <;> omega))
   replace st2 := Step.both stf1 st2
   refine WP.dn (Shown.o (v := .slice a6 1 1) st2 ?_)
   exact ⟨tv, tv, tv, tv, tv, tv, tv, tv, ⟨a6, rfl, hR6⟩, ⟨a4, c4, a5, c5, rfl, hz1, (hR5.mono st2 (WL.no (by simp <;> omega))), (hB2.mono st2 (WL.no (by simp <;> omega)))⟩, tv, tv, tv⟩
  ·intro vs gq stq hl hf
   obtain ⟨v0, v1, v2, v3, v4, v5, rfl⟩ := len_k6 hl
   have hR2 := (show OwnS (Kd.slice 5 (Kd.int .u8)) gq m2 24 a2 n2 c2 l2 from hf _ (memI 1 rfl) (by kernel_rfl))
   have e0 := (show v0 = .slice a2 n2 c2 from hf _ (memI 5 rfl) (by kernel_rfl))
   subst e0
   obtain ⟨a6, e3, hR6⟩ := (show ∃ (a6 : Option Addr), v3 = .slice a6 1 1 ∧ OwnS (Kd.slice 5 (Kd.int .u8)) gq (t + 2) 24 a6 1 1 ([l4]) from hf _ (memI 8 rfl) (by kernel_rfl))
   subst e3
   refine WP.append (kd := (Kd.slice 5 (Kd.int .u8))) (t := 42) (e := 24) (bytes := 24) (a2 := a6) (c2 := 1) hR2 hR6.src hR6.len (by kernel_rfl) (by kernel_rfl) (by omega) (by simp only [maxLen]; omega) (by omega) ?_
   intro g3 a7 c6 st3 hR7
   refine WP.dn (Shown.o (v := .slice a7 (n2 + 1) c6) st3 ?_)
   exact ⟨tv, tv, tv, tv, tv, tv, tv, tv, tv, tv, ⟨a7, c6, rfl, hR7⟩, tv, tv⟩
  ·intro vs gq stq hl hf
   obtain ⟨v0, v1, v2, v3, v4, v5, rfl⟩ := len_k6 hl
   have hB1 := (show Box gq m0 b1 61 [encA .u8 d1, [.int .i64 x1], [.slice a1 n1 c1], [.slice a2 n2 c2]] [8, 1, 1, 1] from hf _ (memI 0 rfl) (by kernel_rfl))
   obtain ⟨a7, c6, e4, hR7⟩ := (show ∃ (a7 : Option Addr) (c6 : Nat), v4 = .slice a7 (n2 + 1) c6 ∧ OwnS (Kd.slice 5 (Kd.int .u8)) gq m2 24 a7 (n2 + 1) c6 (l2 ++ [l4]) from hf _ (memI 10 rfl) (by kernel_rfl))
   subst e4
   refine WP.storeB (ty := 42) (off := 10) (v := .slice a7 (n2 + 1) c6) hB1 [[.slice a7 (n2 + 1) c6]] [1] (by kernel_rfl) (by kernel_rfl) rfl (by kernel_rfl) [encA .u8 d1, [.int .i64 x1], [.slice a1 n1 c1], [.slice a7 (n2 + 1) c6]] (by kernel_rfl) (.one rfl .nil) ?_
   intro g4 st4 hB5
   refine WP.dn (Shown.o (v := undef) st4 ?_)
   exact ⟨tv, tv, tv, tv, tv, tv, tv, tv, tv, tv, tv, ⟨a7, c6, rfl, (hR7.mono st4 (WL.no (by simp <;> omega)) (WL.no (by simp <;> omega))), hB5⟩, tv⟩
 intro vs g5 st5 hl hf
 obtain ⟨v0, v1, v2, v3, v4, v5, rfl⟩ := len_k6 hl
 obtain ⟨a4, c4, a5, c5, e2, hR4, hR5, hB2⟩ := (show ∃ (a4 : Option Addr) (c4 : Nat) (a5 : Option Addr) (c5 : Nat), v2 = .slice a4 l4.length c4 ∧ RdS (Kd.int .u8) g5 5 a4 l4.length c4 l4 ∧ RdS (Kd.int .u8) g5 5 a5 d2.length c5 d2 ∧ Box g5 m4 b3 126 [[.slice a5 d2.length c5], [.int .i64 x3]] [1, 1] from hf _ (memI 9 rfl) (by kernel_rfl))
 subst e2
 obtain ⟨a7, c6, e4, hR7, hB1⟩ := (show ∃ (a7 : Option Addr) (c6 : Nat), v4 = .slice a7 (n2 + 1) c6 ∧ OwnS (Kd.slice 5 (Kd.int .u8)) g5 m2 24 a7 (n2 + 1) c6 (l2 ++ [l4]) ∧ Box g5 m0 b1 61 [encA .u8 d1, [.int .i64 x1], [.slice a1 n1 c1], [.slice a7 (n2 + 1) c6]] [8, 1, 1, 1] from hf _ (memI 11 rfl) (by kernel_rfl))
 subst e4
 replace hR1 := hR1.mono st5 (WL.no (by simp <;> omega)) (WL.no (by simp <;> omega))
 replace tot := tot.trans (st5.up (by intro l hl; simp at hl; rcases hl with rfl | rfl | rfl | rfl <;> first | exact .inr (by omega) | exact .inl (by simp [WL])))
 refine NX.then_n ?_
 refine CP.refr 10 [] (by kernel_rfl) (by kernel_rfl) ?_
 clear ds
 intro ds
 refine CP.seqR ?_
 refine WP.stl 1 ?_
 refine WP.dn ?_
 refine NX.then_n ?_
 refine CP.ret ?_
 replace hs := Option.some.inj hs
 simp only [Prod.mk.injEq] at hs
 obtain ⟨rfl, rfl, rfl, rfl, rfl, rfl, rfl⟩ := hs
 exact NX.fin (v := .bool true) (Res.still (by kernel_rfl)) tot htL ⟨a1, n1, c1, a7, (n2 + 1), c6, a5, d2.length, c5, rfl, hR1, hR7, hB1, hR5, hB2⟩
def F.state_Decode_1_9 (d1 : Arr Int 8) (x1 : Int) (l1 : List Int) (l2 : List (List Int)) (l3 : List Int) (x2 : Int) (x3 : Int) : Option ((Arr Int 8) × Int × (List Int) × (List (List Int)) × (List Int) × Int × Int) := (if (x3 != 0) = true then (some (d1, x1, l1, l2, l3, x2, x3)) else ((F.state_Decode_6_2 d1 x1 l1 l2 l3 x2).bind fun (q1, d2, x4, d3, d4, d5, x5) => ((F.octet_Reader_Err d5 x5).bind fun x6 => (if (x6 != 0) = true then ((F.octet_Reader_Err d5 x5).bind fun x7 => (some (d2, x4, d3, d4, d5, x5, x7))) else (if (!q1) = true then (some (d2, x4, d3, d4, d5, x5, 3)) else (some (d2, x4, d3, d4, d5, x5, x3)))))))
theorem P.state_Decode_1_9 (g0 : GW) (m0 : Nat) (m1 : Nat) (m2 : Nat) (m3 : Nat) (m4 : Nat) (m5 : Nat) (d1 : Arr Int 8) (x1 : Int) (l1 : List Int) (l2 : List (List Int)) (l3 : List Int) (x2 : Int) (x3 : Int) (a1 : Option Addr) (n1 : Nat) (c1 : Nat) (a2 : Option Addr) (n2 : Nat) (c2 : Nat) (a3 : Option Addr) (n3 : Nat) (c3 : Nat) (b1 : Nat) (b2 : Nat) (b3 : Nat) (b4 : Nat) (hR1 : OwnS (Kd.int .u8) g0 m1 5 a1 n1 c1 l1) (hR2 : OwnS (Kd.slice 5 (Kd.int .u8)) g0 m2 24 a2 n2 c2 l2) (hR3 : RdS (Kd.int .u8) g0 5 a3 n3 c3 l3) (hB1 : Box g0 m0 b1 61 [encA .u8 d1, [.int .i64 x1], [.slice a1 n1 c1], [.slice a2 n2 c2]] [8, 1, 1, 1]) (hB2 : Box g0 m4 b3 126 [[.slice a3 n3 c3], [.int .i64 x2]] [1, 1]) (hB3 : Box g0 m3 b2 101 [[.pointer (some ⟨b3, 0, none⟩)]] [1]) (hB4 : Box g0 m5 b4 43 [[.int .i64 x3]] [1]) (hm1_0 : m1 ≠ m0) (hm2_0 : m2 ≠ m0) (hm2_1 : m2 ≠ m1) (hm3_0 : m3 ≠ m0) (hm3_1 : m3 ≠ m1) (hm3_2 : m3 ≠ m2) (hm4_0 : m4 ≠ m0) (hm4_1 : m4 ≠ m1) (hm4_2 : m4 ≠ m2) (hm4_3 : m4 ≠ m3) (hm5_0 : m5 ≠ m0) (hm5_1 : m5 ≠ m1) (hm5_2 : m5 ≠ m2) (hm5_3 : m5 ≠ m3) (hm5_4 : m5 ≠ m4) (hm0 : m0 ≠ 0) (hm1 : m1 ≠ 0) (hm2 : m2 ≠ 0) (hm3 : m3 ≠ 0) (hm4 : m4 ≠ 0) (hm5 : m5 ≠ 0) (o1 : (Arr Int 8)) (o2 : Int) (o3 : (List Int)) (o4 : (List (List Int))) (o5 : (List Int)) (o6 : Int) (o7 : Int) (hs : F.state_Decode_1_9 d1 x1 l1 l2 l3 x2 x3 = some (o1, o2, o3, o4, o5, o6, o7)) :
  Calls Try.prog 50 #[.func (.func 58) #[] #[.pointer (some ⟨b1, 0, none⟩), .pointer (some ⟨b2, 0, none⟩)], .pointer (some ⟨b4, 0, none⟩), .pointer (some ⟨b2, 0, none⟩)] g0.w (Ret (WL [m0, m4, m5, m1, m2]) g0 fun v g => ∃ (a_1 : Option Addr) (n_1 : Nat) (c_1 : Nat) (a_4 : Option Addr) (n_4 : Nat) (c_4 : Nat) (a_7 : Option Addr) (n_7 : Nat) (c_7 : Nat), v = .tuple #[] ∧ OwnS (Kd.int .u8) g m1 5 a_1 n_1 c_1 o3 ∧ OwnS (Kd.slice 5 (Kd.int .u8)) g m2 24 a_4 n_4 c_4 o4 ∧ Box g m0 b1 61 [encA .u8 o1, [.int .i64 o2], [.slice a_1 n_1 c_1], [.slice a_4 n_4 c_4]] [8, 1, 1, 1] ∧ RdS (Kd.int .u8) g 5 a_7 n_7 c_7 o5 ∧ Box g m4 b3 126 [[.slice a_7 n_7 c_7], [.int .i64 o6]] [1, 1] ∧ Box g m5 b4 43 [[.int .i64 o7]] [1]) := by
 refine calls_of (args := [.func (.func 58) #[] #[.pointer (some ⟨b1, 0, none⟩), .pointer (some ⟨b2, 0, none⟩)], .pointer (some ⟨b4, 0, none⟩), .pointer (some ⟨b2, 0, none⟩)]) Try.func50 rfl (m0 + m1 + m2 + m3 + m4 + m5 + 0) ?_
 intro t ht htL
 refine ⟨_, rfl, ?_⟩
 refine CP.refr 18 [(0, .func (.func 58) #[] #[.pointer (some ⟨b1, 0, none⟩), .pointer (some ⟨b2, 0, none⟩)]), (1, .pointer (some ⟨b4, 0, none⟩)), (2, .pointer (some ⟨b2, 0, none⟩))] (by kernel_rfl) (by kernel_rfl) ?_
 intro ds
 have tot : Step (fun l => (WL [m0, m4, m5, m1, m2]) l ∨ t ≤ l) g0 g0 := Step.refl _ _
 unfold F.state_Decode_1_9 at hs
 refine CP.seq ?_
 refine CP.seqR ?_
 refine WP.loadB (v := .int .i64 x3) hB4 (by kernel_rfl) (by kernel_rfl) ?_
 refine WP.stl 1 ?_
 refine WP.dn ?_
 refine NX.then_n ?_
 refine CP.cond (b := (x3 != 0)) (by kernel_rfl) (fun h1 => ?_) (fun h1 => ?_)
 ·replace hs := of_if_t hs h1
  refine CP.ret ?_
  refine NX.then_r ?_
  replace hs := Option.some.inj hs
  simp only [Prod.mk.injEq] at hs
  obtain ⟨rfl, rfl, rfl, rfl, rfl, rfl, rfl⟩ := hs
  exact NX.fin (v := .tuple #[]) (Res.still (by kernel_rfl)) tot htL ⟨a1, n1, c1, a2, n2, c2, a3, n3, c3, rfl, hR1, hR2, hB1, hR3, hB2, hB4⟩
 replace hs := of_if_f hs h1
 refine CP.skip ?_
 refine NX.then_n ?_
 refine CP.seqR ?_
 refine WP.stl 1 ?_
 replace hs := Option.bind_eq_some_iff.1 hs
 obtain ⟨⟨q1, d2, x4, d3, d4, d5, x5⟩, hk1, hs⟩ := hs
 dsimp only at hs
 have hcal1 := P.state_Decode_6_2 g0 m0 m1 m2 m3 m4 d1 x1 l1 l2 l3 x2 a1 n1 c1 a2 n2 c2 a3 n3 c3 b1 b2 b3 hR1 hR2 hR3 hB1 hB2 hB3 (by omega) (by omega) (by omega) (by omega) (by omega) (by omega) (by omega) (by omega) (by omega) (by omega) (by omega) (by omega) (by omega) (by omega) (by omega) q1 d2 x4 d3 d4 d5 x5 hk1
 refine WP.callC hcal1 (by kernel_rfl) ?_
 rintro _ g1 st1 ⟨a4, n4, c4, a5, n5, c5, a6, n6, c6, rfl, hR4, hR5, hB5, hR6, hB6⟩
 replace hB3 := hB3.mono st1 (WL.no (by simp <;> omega))
 replace hB4 := hB4.mono st1 (WL.no (by simp <;> omega))
 replace tot := tot.trans (st1.up (by intro l hl; simp at hl; rcases hl with rfl | rfl | rfl | rfl <;> first | exact .inr (by omega) | exact .inl (by simp [WL])))
 clear hB1
 have hB1 := hB5
 clear hB5
 clear hB2
 have hB2 := hB6
 clear hB6
 refine WP.stl 1 ?_
 refine WP.dn ?_
 refine NX.then_n ?_
 refine CP.block ?_
 refine CP.seqR ?_
 refine WP.loadB (v := .pointer (some ⟨b3, 0, none⟩)) hB3 (by kernel_rfl) (by kernel_rfl) ?_
 replace hs := Option.bind_eq_some_iff.1 hs
 obtain ⟨x6, hk2, hs⟩ := hs
 have hcal2 := P.octet_Reader_Err g1 m4 d5 x5 a6 n6 c6 b3 hR6 hB2 (by omega) x6 hk2
 refine WP.callC hcal2 (by kernel_rfl) ?_
 rintro _ g2 st2 rfl
 replace hB4 := hB4.mono st2 (fun x => x)
 replace hB3 := hB3.mono st2 (fun x => x)
 replace hB2 := hB2.mono st2 (fun x => x)
 replace hR6 := hR6.mono st2 (fun x => x)
 replace hB1 := hB1.mono st2 (fun x => x)
 replace hR4 := hR4.mono st2 (fun x => x) (fun x => x)
 replace hR5 := hR5.mono st2 (fun x => x) (fun x => x)
 replace tot := tot.trans st2.pure
 refine WP.stl 2 ?_
 refine WP.dn ?_
 refine NX.then_n ?_
 refine CP.cond (b := (x6 != 0)) (by kernel_rfl) (fun h2 => ?_) (fun h2 => ?_)
 ·replace hs := of_if_t hs h2
  refine CP.region ?_
  refine WP.loadB (v := .pointer (some ⟨b3, 0, none⟩)) hB3 (by kernel_rfl) (by kernel_rfl) ?_
  replace hs := Option.bind_eq_some_iff.1 hs
  obtain ⟨x7, hk3, hs⟩ := hs
  have hcal3 := P.octet_Reader_Err g2 m4 d5 x5 a6 n6 c6 b3 hR6 hB2 (by omega) x7 hk3
  refine WP.callC hcal3 (by kernel_rfl) ?_
  rintro _ g3 st3 rfl
  replace hB4 := hB4.mono st3 (fun x => x)
  replace hB3 := hB3.mono st3 (fun x => x)
  replace hB2 := hB2.mono st3 (fun x => x)
  replace hR6 := hR6.mono st3 (fun x => x)
  replace hB1 := hB1.mono st3 (fun x => x)
  replace hR4 := hR4.mono st3 (fun x => x) (fun x => x)
  replace hR5 := hR5.mono st3 (fun x => x) (fun x => x)
  replace tot := tot.trans st3.pure
  refine WP.storeB (ty := 43) (off := 0) (v := .int .i64 x7) hB4 [[.int .i64 x7]] [1] (by kernel_rfl) (by kernel_rfl) rfl (by kernel_rfl) [[.int .i64 x7]] (by kernel_rfl) (.one rfl .nil) ?_
  intro g4 st4 hB7
  replace hB3 := hB3.mono st4 (WL.no1 (by omega))
  replace hB2 := hB2.mono st4 (WL.no1 (by omega))
  replace hR6 := hR6.mono st4 (WL.no1 (by omega))
  replace hB1 := hB1.mono st4 (WL.no1 (by omega))
  replace hR4 := hR4.mono st4 (WL.no1 (by omega)) (WL.no1 (by omega))
  replace hR5 := hR5.mono st4 (WL.no1 (by omega)) (WL.no1 (by omega))
  replace tot := tot.trans (st4.up1 (.inl (by simp [WL])))
  clear hB4
  have hB4 := hB7
  clear hB7
  refine WP.dn ?_
  refine NX.block_n ?_
  replace hs := Option.some.inj hs
  simp only [Prod.mk.injEq] at hs
  obtain ⟨rfl, rfl, rfl, rfl, rfl, rfl, rfl⟩ := hs
  exact NX.finE (v := .tuple #[]) (Res.still (by kernel_rfl)) tot htL ⟨a4, n4, c4, a5, n5, c5, a6, n6, c6, rfl, hR4, hR5, hB1, hR6, hB2, hB4⟩
 replace hs := of_if_f hs h2
 refine CP.seqR ?_
 refine WP.stl 3 ?_
 refine WP.dn ?_
 refine NX.then_n ?_
 refine CP.cond (b := (!q1)) (by kernel_rfl) (fun h3 => ?_) (fun h3 => ?_)
 ·replace hs := of_if_t hs h3
  refine CP.region ?_
  refine WP.storeB (ty := 43) (off := 0) (v := .int .i64 3) hB4 [[.int .i64 3]] [1] (by kernel_rfl) (by kernel_rfl) rfl (by kernel_rfl) [[.int .i64 3]] (by kernel_rfl) (.one rfl .nil) ?_
  intro g5 st5 hB8
  replace hB1 := hB1.mono st5 (WL.no1 (by omega))
  replace hR4 := hR4.mono st5 (WL.no1 (by omega)) (WL.no1 (by omega))
  replace hR5 := hR5.mono st5 (WL.no1 (by omega)) (WL.no1 (by omega))
  replace hB2 := hB2.mono st5 (WL.no1 (by omega))
  replace hR6 := hR6.mono st5 (WL.no1 (by omega))
  replace tot := tot.trans (st5.up1 (.inl (by simp [WL])))
  clear hB4
  have hB4 := hB8
  clear hB8
  refine WP.dn ?_
  refine NX.block_n ?_
  replace hs := Option.some.inj hs
  simp only [Prod.mk.injEq] at hs
  obtain ⟨rfl, rfl, rfl, rfl, rfl, rfl, rfl⟩ := hs
  exact NX.finE (v := .tuple #[]) (Res.still (by kernel_rfl)) tot htL ⟨a4, n4, c4, a5, n5, c5, a6, n6, c6, rfl, hR4, hR5, hB1, hR6, hB2, hB4⟩
 replace hs := of_if_f hs h3
 refine CP.skip ?_
 refine NX.block_n ?_
 replace hs := Option.some.inj hs
 simp only [Prod.mk.injEq] at hs
 obtain ⟨rfl, rfl, rfl, rfl, rfl, rfl, rfl⟩ := hs
 exact NX.finE (v := .tuple #[]) (Res.still (by kernel_rfl)) tot htL ⟨a4, n4, c4, a5, n5, c5, a6, n6, c6, rfl, hR4, hR5, hB1, hR6, hB2, hB4⟩
def F.octet_Reader_Left (l1 : List Int) (x1 : Int) : Option (Int) := (some (l1.length : Int))
theorem P.octet_Reader_Left (g0 : GW) (m0 : Nat) (l1 : List Int) (x1 : Int) (a1 : Option Addr) (n1 : Nat) (c1 : Nat) (b1 : Nat) (hR1 : RdS (Kd.int .u8) g0 5 a1 n1 c1 l1) (hB1 : Box g0 m0 b1 126 [[.slice a1 n1 c1], [.int .i64 x1]] [1, 1]) (hm0 : m0 ≠ 0) (o1 : Int) (hs : F.octet_Reader_Left l1 x1 = some o1) :
  Calls Try.prog 77 #[.pointer (some ⟨b1, 0, none⟩)] g0.w (Ret NoM g0 fun v g => v = .int .i64 o1) := by
 refine calls_of (args := [.pointer (some ⟨b1, 0, none⟩)]) Try.func77 rfl (m0 + 0) ?_
 intro t ht htL
 refine ⟨_, rfl, ?_⟩
 refine CP.refr 10 [(0, .pointer (some ⟨b1, 0, none⟩))] (by kernel_rfl) (by kernel_rfl) ?_
 intro ds
 have tot : Step (fun l => NoM l ∨ t ≤ l) g0 g0 := Step.refl _ _
 unfold F.octet_Reader_Left at hs
 refine CP.seqR ?_
 refine WP.stl 1 ?_
 refine WP.dn ?_
 refine NX.then_n ?_
 refine CP.seq ?_
 refine CP.seqR ?_
 refine WP.stl 2 ?_
 refine WP.dn ?_
 refine NX.then_n ?_
 refine CP.cond_f (by kernel_rfl) ?_
 refine CP.skip ?_
 refine NX.then_n ?_
 refine CP.seqR ?_
 refine WP.stl 3 ?_
 refine WP.loadB (v := .slice a1 n1 c1) hB1 (by kernel_rfl) (by kernel_rfl) ?_
 refine WP.len (a := a1) (cp := c1) hR1.len (by kernel_rfl) ?_
 refine WP.stl 1 ?_
 refine WP.dn ?_
 refine NX.then_n ?_
 refine CP.ret ?_
 replace hs := Option.some.inj hs
 obtain rfl := hs
 exact NX.fin (v := .int .i64 (l1.length : Int)) (Res.still (by kernel_rfl)) tot htL rfl
def F.octet_Reader_End (l1 : List Int) (x1 : Int) : Option (Int) := ((F.octet_Reader_Err l1 x1).bind fun x2 => (if (x2 != 0) = true then (some x2) else ((F.octet_Reader_Left l1 x1).bind fun x3 => (if decide (x3 > 0) = true then (some 5) else (some 0)))))
theorem P.octet_Reader_End (g0 : GW) (m0 : Nat) (l1 : List Int) (x1 : Int) (a1 : Option Addr) (n1 : Nat) (c1 : Nat) (b1 : Nat) (hR1 : RdS (Kd.int .u8) g0 5 a1 n1 c1 l1) (hB1 : Box g0 m0 b1 126 [[.slice a1 n1 c1], [.int .i64 x1]] [1, 1]) (hm0 : m0 ≠ 0) (o1 : Int) (hs : F.octet_Reader_End l1 x1 = some o1) :
  Calls Try.prog 59 #[.pointer (some ⟨b1, 0, none⟩)] g0.w (Ret NoM g0 fun v g => v = .int .i64 o1) := by
 refine calls_of (args := [.pointer (some ⟨b1, 0, none⟩)]) Try.func59 rfl (m0 + 0) ?_
 intro t ht htL
 refine ⟨_, rfl, ?_⟩
 refine CP.refr 12 [(0, .pointer (some ⟨b1, 0, none⟩))] (by kernel_rfl) (by kernel_rfl) ?_
 intro ds
 have tot : Step (fun l => NoM l ∨ t ≤ l) g0 g0 := Step.refl _ _
 unfold F.octet_Reader_End at hs
 refine CP.seqR ?_
 refine WP.stl 1 ?_
 refine WP.dn ?_
 refine NX.then_n ?_
 refine CP.seq ?_
 refine CP.seqR ?_
 refine WP.stl 1 ?_
 replace hs := Option.bind_eq_some_iff.1 hs
 obtain ⟨x2, hk1, hs⟩ := hs
 have hcal1 := P.octet_Reader_Err g0 m0 l1 x1 a1 n1 c1 b1 hR1 hB1 (by omega) x2 hk1
 refine WP.callC hcal1 (by kernel_rfl) ?_
 rintro _ g1 st1 rfl
 replace hB1 := hB1.mono st1 (fun x => x)
 replace hR1 := hR1.mono st1 (fun x => x)
 replace tot := tot.trans st1.pure
 refine WP.stl 1 ?_
 refine WP.dn ?_
 refine NX.then_n ?_
 refine CP.seqR ?_
 refine WP.stl 2 ?_
 refine WP.dn ?_
 refine NX.then_n ?_
 refine CP.cond (b := (x2 != 0)) (by kernel_rfl) (fun h1 => ?_) (fun h1 => ?_)
 ·replace hs := of_if_t hs h1
  refine CP.seqR ?_
  refine WP.stl 2 ?_
  refine WP.dn ?_
  refine NX.then_n ?_
  refine CP.ret ?_
  refine NX.then_r ?_
  replace hs := Option.some.inj hs
  obtain rfl := hs
  exact NX.fin (v := .int .i64 x2) (Res.still (by kernel_rfl)) tot htL rfl
 replace hs := of_if_f hs h1
 refine CP.skip ?_
 refine NX.then_n ?_
 refine CP.seq ?_
 refine CP.seqR ?_
 refine WP.stl 1 ?_
 replace hs := Option.bind_eq_some_iff.1 hs
 obtain ⟨x3, hk2, hs⟩ := hs
 have hcal2 := P.octet_Reader_Left g1 m0 l1 x1 a1 n1 c1 b1 hR1 hB1 (by omega) x3 hk2
 refine WP.callC hcal2 (by kernel_rfl) ?_
 rintro _ g2 st2 rfl
 replace hB1 := hB1.mono st2 (fun x => x)
 replace hR1 := hR1.mono st2 (fun x => x)
 replace tot := tot.trans st2.pure
 refine WP.stl 1 ?_
 refine WP.dn ?_
 refine NX.then_n ?_
 refine CP.cond (b := decide (x3 > 0)) (by kernel_rfl) (fun h2 => ?_) (fun h2 => ?_)
 ·replace hs := of_if_t hs h2
  refine CP.seqR ?_
  refine WP.stl 1 ?_
  refine WP.dn ?_
  refine NX.then_n ?_
  refine CP.ret ?_
  refine NX.then_r ?_
  replace hs := Option.some.inj hs
  obtain rfl := hs
  exact NX.fin (v := .int .i64 5) (Res.still (by kernel_rfl)) tot htL rfl
 replace hs := of_if_f hs h2
 refine CP.skip ?_
 refine NX.then_n ?_
 refine CP.seqR ?_
 refine WP.stl 1 ?_
 refine WP.dn ?_
 refine NX.then_n ?_
 refine CP.ret ?_
 replace hs := Option.some.inj hs
 obtain rfl := hs
 exact NX.fin (v := .int .i64 0) (Res.still (by kernel_rfl)) tot htL rfl
def F.state_Decode.c1 (d18 : Arr Int 8) (x19 : Int) (l3 : List Int) (l4 : List (List Int)) (x36 : Int) : Option ((Arr Int 8) × Int × (List Int) × (List (List Int)) × Int) := (if (x36 != 0) = true then (some ((zA 8), 0, [], [], x36)) else (some (d18, x19, l3, l4, 0)))
def F.state_Decode.l1 (x12 : Int) : Nat → (Arr Int 8) → Int → (List Int) → (List (List Int)) → (List Int) → Int → Int → Int → Option ((Arr Int 8) × Int × (List Int) × (List (List Int)) × Int)
 | 0, _, _, _, _, _, _, _, _ => none
 | k + 1, d18, x19, l3, l4, l5, x20, x21, x22 => (if decide (x22 < x12) = true then ((F.state_Decode_1_9 d18 x19 l3 l4 l5 x20 x21).bind fun (d24, x32, d25, d26, d27, x33, x34) => (F.state_Decode.l1 x12 k d24 x32 d25 d26 d27 x33 x34 (IntKind.i64.wrap (x22 + 1)))) else (if (x21 == 0) = true then ((F.octet_Reader_End l5 x20).bind fun x37 => (F.state_Decode.c1 d18 x19 l3 l4 x37)) else (F.state_Decode.c1 d18 x19 l3 l4 x21)))
def F.state_Decode (l1 : List Int) : Option ((Arr Int 8) × Int × (List Int) × (List (List Int)) × Int) := ((F.octet_NewReader l1).bind fun (l2, x1) => ((F.state_Decode_1_2 l2 x1 (zA 8) 0 ([]) ([]) 0).bind fun (d1, x2, d2, x3, d3, d4, x4) => ((F.state_Decode_1_4 d1 x2 d2 x3 d3 d4 x4).bind fun (d5, x5, d6, x6, d7, d8, x7) => ((F.state_Decode_1_6 d5 x5 d6 x6 d7 d8 x7).bind fun (d9, x8, d10, x9, d11, d12, x10) => ((F.state_Decode_1_7 d9 x8 0 x10).bind fun (d13, x11, x12, x13) => (F.state_Decode.l1 x12 fuel d10 x9 d11 d12 d13 x11 x13 0))))))
theorem P.state_Decode (g0 : GW) (r0 : Nat) (r1 : Nat) (l1 : List Int) (a1 : Option Addr) (n1 : Nat) (c1 : Nat) (hR1 : RdS (Kd.int .u8) g0 5 a1 n1 c1 l1) (o1 : Arr Int 8) (o2 : Int) (o3 : List Int) (o4 : List (List Int)) (o5 : Int) (hs : F.state_Decode l1 = some (o1, o2, o3, o4, o5)) :
  Calls Try.prog 29 #[.slice a1 n1 c1] g0.w (Ret NoM g0 fun v g => ∃ (a_1 : Option Addr) (n_1 : Nat) (c_1 : Nat) (a_4 : Option Addr) (n_4 : Nat) (c_4 : Nat), v = .tuple #[AG [encA .u8 o1, [.int .i64 o2], [.slice a_1 n_1 c_1], [.slice a_4 n_4 c_4]], .int .i64 o5] ∧ OwnS (Kd.int .u8) g r0 5 a_1 n_1 c_1 o3 ∧ OwnS (Kd.slice 5 (Kd.int .u8)) g r1 24 a_4 n_4 c_4 o4) := by
 refine calls_of (args := [.slice a1 n1 c1]) Try.func29 rfl (r0 + r1 + 0) ?_
 intro t ht htL
 refine ⟨_, rfl, ?_⟩
 refine CP.refr 40 [(0, .slice a1 n1 c1)] (by kernel_rfl) (by kernel_rfl) ?_
 intro ds
 have tot : Step (fun l => NoM l ∨ t ≤ l) g0 g0 := Step.refl _ _
 unfold F.state_Decode at hs
 refine CP.seqR ?_
 refine WP.alloc (T := 61) (t + 1) [encA .u8 (zA 8), [.int .i64 0], [.slice none 0 0], [.slice none 0 0]] [8, 1, 1, 1] (by kernel_rfl) (by simp [len_encA]) ?_
 intro g1 b1 st1 hB1
 replace hR1 := hR1.mono st1 (fun x => x)
 replace tot := tot.trans st1.pure
 refine WP.stl 1 ?_
 refine WP.dn ?_
 refine NX.then_n ?_
 refine CP.seqR ?_
 refine WP.alloc (T := 61) (t + 2) [encA .u8 (zA 8), [.int .i64 0], [.slice none 0 0], [.slice none 0 0]] [8, 1, 1, 1] (by kernel_rfl) (by simp [len_encA]) ?_
 intro g2 b2 st2 hB2
 replace hR1 := hR1.mono st2 (fun x => x)
 replace hB1 := hB1.mono st2 (fun x => x)
 replace tot := tot.trans st2.pure
 refine WP.dn ?_
 refine NX.then_n ?_
 refine CP.seqR ?_
 refine WP.stl 1 ?_
 replace hs := Option.bind_eq_some_iff.1 hs
 obtain ⟨⟨l2, x1⟩, hk1, hs⟩ := hs
 dsimp only at hs
 have hcal1 := P.octet_NewReader g2 (t + 3) l1 a1 n1 c1 hR1 l2 x1 hk1
 refine WP.callC hcal1 (by kernel_rfl) ?_
 rintro _ g3 st3 ⟨b3, a2, n2, c2, rfl, hB3, hR2⟩
 replace hR1 := hR1.mono st3 (fun x => x)
 replace hB1 := hB1.mono st3 (fun x => x)
 replace hB2 := hB2.mono st3 (fun x => x)
 replace tot := tot.trans st3.pure
 refine WP.alloc (T := 101) (t + 4) [[.pointer none]] [1] (by kernel_rfl) rfl ?_
 intro g4 b4 st4 hB4
 replace hR1 := hR1.mono st4 (fun x => x)
 replace hB1 := hB1.mono st4 (fun x => x)
 replace hB2 := hB2.mono st4 (fun x => x)
 replace hB3 := hB3.mono st4 (fun x => x)
 replace hR2 := hR2.mono st4 (fun x => x)
 replace tot := tot.trans st4.pure
 refine WP.storeB (ty := 101) (off := 0) (v := .pointer (some ⟨b3, 0, none⟩)) hB4 [[.pointer (some ⟨b3, 0, none⟩)]] [1] (by kernel_rfl) (by kernel_rfl) rfl (by kernel_rfl) [[.pointer (some ⟨b3, 0, none⟩)]] (by kernel_rfl) (.one rfl .nil) ?_
 intro g5 st5 hB5
 replace hR1 := hR1.mono st5 (WL.no1 (by omega))
 replace hB1 := hB1.mono st5 (WL.no1 (by omega))
 replace hB2 := hB2.mono st5 (WL.no1 (by omega))
 replace hB3 := hB3.mono st5 (WL.no1 (by omega))
 replace hR2 := hR2.mono st5 (WL.no1 (by omega))
 replace tot := tot.trans (st5.up1 (.inr (by omega)))
 clear hB4
 have hB4 := hB5
 clear hB5
 refine WP.dn ?_
 refine NX.then_n ?_
 refine CP.seqR ?_
 refine WP.alloc (T := 43) (t + 5) [[.int .i64 0]] [1] (by kernel_rfl) rfl ?_
 intro g6 b5 st6 hB6
 replace hB1 := hB1.mono st6 (fun x => x)
 replace hB2 := hB2.mono st6 (fun x => x)
 replace hB4 := hB4.mono st6 (fun x => x)
 replace hB3 := hB3.mono st6 (fun x => x)
 replace hR2 := hR2.mono st6 (fun x => x)
 replace tot := tot.trans st6.pure
 refine WP.storeB (ty := 43) (off := 0) (v := .int .i64 0) hB6 [[.int .i64 0]] [1] (by kernel_rfl) (by kernel_rfl) rfl (by kernel_rfl) [[.int .i64 0]] (by kernel_rfl) (.one rfl .nil) ?_
 intro g7 st7 hB7
 replace hB1 := hB1.mono st7 (WL.no1 (by omega))
 replace hB2 := hB2.mono st7 (WL.no1 (by omega))
 replace hB4 := hB4.mono st7 (WL.no1 (by omega))
 replace hB3 := hB3.mono st7 (WL.no1 (by omega))
 replace hR2 := hR2.mono st7 (WL.no1 (by omega))
 replace tot := tot.trans (st7.up1 (.inr (by omega)))
 clear hB6
 have hB6 := hB7
 clear hB7
 refine WP.dn ?_
 refine NX.then_n ?_
 refine CP.seqR ?_
 refine WP.stl 2 ?_
 refine WP.dn ?_
 refine NX.then_n ?_
 refine CP.seqR ?_
 refine WP.stl 2 ?_
 replace hs := Option.bind_eq_some_iff.1 hs
 obtain ⟨⟨d1, x2, d2, x3, d3, d4, x4⟩, hk2, hs⟩ := hs
 dsimp only at hs
 have hcal2 := P.state_Decode_1_2 g7 (t + 4) (t + 3) (t + 2) (t + 6) (t + 7) (t + 5) l2 x1 (zA 8) 0 ([]) ([]) 0 a2 n2 c2 none 0 0 none 0 0 b4 b3 b2 b5 hR2 (OwnS.nil _ _ _ _) (OwnS.nil _ _ _ _) hB3 hB4 hB2 hB6 (by omega) (by omega) (by omega) (by omega) (by omega) (by omega) (by omega) (by omega) (by omega) (by omega) (by omega) (by omega) (by omega) (by omega) (by omega) (by omega) (by omega) (by omega) (by omega) (by omega) (by omega) d1 x2 d2 x3 d3 d4 x4 hk2
 refine WP.callC hcal2 (by kernel_rfl) ?_
 rintro _ g8 st8 ⟨a3, n3, c3, a4, n4, c4, a5, n5, c5, rfl, hR3, hB8, hR4, hR5, hB9, hB10⟩
 replace hB1 := hB1.mono st8 (WL.no (by simp <;> omega))
 replace hB4 := hB4.mono st8 (WL.no (by simp <;> omega))
 replace tot := tot.trans (st8.up (by intro l hl; simp at hl; rcases hl with rfl | rfl | rfl | rfl | rfl <;> first | exact .inr (by omega) | exact .inl (by simp [WL])))
 clear hB3
 have hB3 := hB8
 clear hB8
 clear hB2
 have hB2 := hB9
 clear hB9
 clear hB6
 have hB6 := hB10
 clear hB10
 refine WP.dn ?_
 refine NX.then_n ?_
 refine CP.refr 40 [(2, .pointer (some ⟨b1, 0, none⟩)), (4, .pointer (some ⟨b2, 0, none⟩)), (5, .pointer (some ⟨b4, 0, none⟩)), (6, .pointer (some ⟨b5, 0, none⟩)), (7, .func (.func 50) #[] #[.pointer (some ⟨b5, 0, none⟩), .pointer (some ⟨b4, 0, none⟩)])] (by kernel_rfl) (by kernel_rfl) ?_
 clear ds
 intro ds
 refine CP.seqR ?_
 refine WP.stl 2 ?_
 replace hs := Option.bind_eq_some_iff.1 hs
 obtain ⟨⟨d5, x5, d6, x6, d7, d8, x7⟩, hk3, hs⟩ := hs
 dsimp only at hs
 have hcal3 := P.state_Decode_1_4 g8 (t + 4) (t + 3) (t + 2) (t + 6) (t + 7) (t + 5) d1 x2 d2 x3 d3 d4 x4 a3 n3 c3 a4 n4 c4 a5 n5 c5 b4 b3 b2 b5 hR3 hR4 hR5 hB3 hB4 hB2 hB6 (by omega) (by omega) (by omega) (by omega) (by omega) (by omega) (by omega) (by omega) (by omega) (by omega) (by omega) (by omega) (by omega) (by omega) (by omega) (by omega) (by omega) (by omega) (by omega) (by omega) (by omega) d5 x5 d6 x6 d7 d8 x7 hk3
 refine WP.callC hcal3 (by kernel_rfl) ?_
 rintro _ g9 st9 ⟨a6, n6, c6, a7, n7, c7, a8, n8, c8, rfl, hR6, hB11, hR7, hR8, hB12, hB13⟩
 replace hB1 := hB1.mono st9 (WL.no (by simp <;> omega))
 replace hB4 := hB4.mono st9 (WL.no (by simp <;> omega))
 replace tot := tot.trans (st9.up (by intro l hl; simp at hl; rcases hl with rfl | rfl | rfl | rfl | rfl <;> first | exact .inr (by omega) | exact .inl (by simp [WL])))
 clear hB3
 have hB3 := hB11
 clear hB11
 clear hB2
 have hB2 := hB12
 clear hB12
 clear hB6
 have hB6 := hB13
 clear hB13
 refine WP.dn ?_
 refine NX.then_n ?_
 refine CP.seqR ?_
 refine WP.stl 2 ?_
 replace hs := Option.bind_eq_some_iff.1 hs
 obtain ⟨⟨d9, x8, d10, x9, d11, d12, x10⟩, hk4, hs⟩ := hs
 dsimp only at hs
 have hcal4 := P.state_Decode_1_6 g9 (t + 4) (t + 3) (t + 2) (t + 6) (t + 7) (t + 5) d5 x5 d6 x6 d7 d8 x7 a6 n6 c6 a7 n7 c7 a8 n8 c8 b4 b3 b2 b5 hR6 hR7 hR8 hB3 hB4 hB2 hB6 (by omega) (by omega) (by omega) (by omega) (by omega) (by omega) (by omega) (by omega) (by omega) (by omega) (by omega) (by omega) (by omega) (by omega) (by omega) (by omega) (by omega) (by omega) (by omega) (by omega) (by omega) d9 x8 d10 x9 d11 d12 x10 hk4
 refine WP.callC hcal4 (by kernel_rfl) ?_
 rintro _ g10 st10 ⟨a9, n9, c9, a10, n10, c10, a11, n11, c11, rfl, hR9, hB14, hR10, hR11, hB15, hB16⟩
 replace hB1 := hB1.mono st10 (WL.no (by simp <;> omega))
 replace hB4 := hB4.mono st10 (WL.no (by simp <;> omega))
 replace tot := tot.trans (st10.up (by intro l hl; simp at hl; rcases hl with rfl | rfl | rfl | rfl | rfl <;> first | exact .inr (by omega) | exact .inl (by simp [WL])))
 clear hB3
 have hB3 := hB14
 clear hB14
 clear hB2
 have hB2 := hB15
 clear hB15
 clear hB6
 have hB6 := hB16
 clear hB16
 refine WP.dn ?_
 refine NX.then_n ?_
 refine CP.seqR ?_
 refine WP.alloc (T := 3) (t + 8) [[.int .i64 0]] [1] (by kernel_rfl) rfl ?_
 intro g11 b6 st11 hB17
 replace hB1 := hB1.mono st11 (fun x => x)
 replace hB2 := hB2.mono st11 (fun x => x)
 replace hR10 := hR10.mono st11 (fun x => x) (fun x => x)
 replace hR11 := hR11.mono st11 (fun x => x) (fun x => x)
 replace hB4 := hB4.mono st11 (fun x => x)
 replace hB3 := hB3.mono st11 (fun x => x)
 replace hR9 := hR9.mono st11 (fun x => x)
 replace hB6 := hB6.mono st11 (fun x => x)
 replace tot := tot.trans st11.pure
 refine WP.storeB (ty := 3) (off := 0) (v := .int .i64 0) hB17 [[.int .i64 0]] [1] (by kernel_rfl) (by kernel_rfl) rfl (by kernel_rfl) [[.int .i64 0]] (by kernel_rfl) (.one rfl .nil) ?_
 intro g12 st12 hB18
 replace hB1 := hB1.mono st12 (WL.no1 (by omega))
 replace hB2 := hB2.mono st12 (WL.no1 (by omega))
 replace hR10 := hR10.mono st12 (WL.no1 (by omega)) (WL.no1 (by omega))
 replace hR11 := hR11.mono st12 (WL.no1 (by omega)) (WL.no1 (by omega))
 replace hB4 := hB4.mono st12 (WL.no1 (by omega))
 replace hB3 := hB3.mono st12 (WL.no1 (by omega))
 replace hR9 := hR9.mono st12 (WL.no1 (by omega))
 replace hB6 := hB6.mono st12 (WL.no1 (by omega))
 replace tot := tot.trans (st12.up1 (.inr (by omega)))
 clear hB17
 have hB17 := hB18
 clear hB18
 refine WP.dn ?_
 refine NX.then_n ?_
 refine CP.seqR ?_
 refine WP.stl 2 ?_
 replace hs := Option.bind_eq_some_iff.1 hs
 obtain ⟨⟨d13, x11, x12, x13⟩, hk5, hs⟩ := hs
 dsimp only at hs
 have hcal5 := P.state_Decode_1_7 g12 (t + 4) (t + 3) (t + 8) (t + 5) d9 x8 0 x10 a9 n9 c9 b4 b3 b6 b5 hR9 hB3 hB4 hB17 hB6 (by omega) (by omega) (by omega) (by omega) (by omega) (by omega) (by omega) (by omega) (by omega) (by omega) d13 x11 x12 x13 hk5
 refine WP.callC hcal5 (by kernel_rfl) ?_
 rintro _ g13 st13 ⟨a12, n12, c12, rfl, hR12, hB19, hB20, hB21⟩
 replace hB1 := hB1.mono st13 (WL.no3 (by omega) (by omega) (by omega))
 replace hB2 := hB2.mono st13 (WL.no3 (by omega) (by omega) (by omega))
 replace hR10 := hR10.mono st13 (WL.no3 (by omega) (by omega) (by omega)) (WL.no3 (by omega) (by omega) (by omega))
 replace hR11 := hR11.mono st13 (WL.no3 (by omega) (by omega) (by omega)) (WL.no3 (by omega) (by omega) (by omega))
 replace hB4 := hB4.mono st13 (WL.no3 (by omega) (by omega) (by omega))
 replace tot := tot.trans (st13.up3 (.inr (by omega)) (.inr (by omega)) (.inr (by omega)))
 clear hB3
 have hB3 := hB19
 clear hB19
 clear hB17
 have hB17 := hB20
 clear hB20
 clear hB6
 have hB6 := hB21
 clear hB21
 refine WP.dn ?_
 refine NX.then_n ?_
 refine CP.seq ?_
 refine CP.seqR ?_
 refine WP.loadB (v := .int .i64 x12) hB17 (by kernel_rfl) (by kernel_rfl) ?_
 refine WP.stl 1 ?_
 refine WP.dn ?_
 refine NX.then_n ?_
 refine CP.refr 40 [(2, .pointer (some ⟨b1, 0, none⟩)), (4, .pointer (some ⟨b2, 0, none⟩)), (5, .pointer (some ⟨b4, 0, none⟩)), (6, .pointer (some ⟨b5, 0, none⟩)), (7, .func (.func 50) #[] #[.pointer (some ⟨b5, 0, none⟩), .pointer (some ⟨b4, 0, none⟩)]), (24, .int .i64 x12), (25, .int .i64 0)] (by kernel_rfl) (by kernel_rfl) ?_
 clear ds
 intro ds
 refine CP.block ?_
 generalize fuel = k1 at hs
 refine CP.loop (fun k1 tm g => ∃ (d18 : Arr Int 8) (x19 : Int) (l3 : List Int) (a16 : Option Addr) (n16 : Nat) (c16 : Nat) (l4 : List (List Int)) (a17 : Option Addr) (n17 : Nat) (c17 : Nat) (l5 : List Int) (a18 : Option Addr) (n18 : Nat) (c18 : Nat) (x20 : Int) (x21 : Int) (x22 : Int), Fr 40 [(2, .pointer (some ⟨b1, 0, none⟩)), (4, .pointer (some ⟨b2, 0, none⟩)), (5, .pointer (some ⟨b4, 0, none⟩)), (6, .pointer (some ⟨b5, 0, none⟩)), (7, .func (.func 50) #[] #[.pointer (some ⟨b5, 0, none⟩), .pointer (some ⟨b4, 0, none⟩)]), (24, .int .i64 x12), (25, .int .i64 x22)] tm ∧ Step (fun l => NoM l ∨ t ≤ l) g0 g ∧ Box g (t + 1) b1 61 [encA .u8 (zA 8), [.int .i64 0], [.slice none 0 0], [.slice none 0 0]] [8, 1, 1, 1] ∧ Box g (t + 2) b2 61 [encA .u8 d18, [.int .i64 x19], [.slice a16 n16 c16], [.slice a17 n17 c17]] [8, 1, 1, 1] ∧ OwnS (Kd.int .u8) g (t + 6) 5 a16 n16 c16 l3 ∧ OwnS (Kd.slice 5 (Kd.int .u8)) g (t + 7) 24 a17 n17 c17 l4 ∧ Box g (t + 4) b4 101 [[.pointer (some ⟨b3, 0, none⟩)]] [1] ∧ Box g (t + 3) b3 126 [[.slice a18 n18 c18], [.int .i64 x20]] [1, 1] ∧ RdS (Kd.int .u8) g 5 a18 n18 c18 l5 ∧ Box g (t + 5) b5 43 [[.int .i64 x21]] [1] ∧ F.state_Decode.l1 x12 k1 d18 x19 l3 l4 l5 x20 x21 x22 = some (o1, o2, o3, o4, o5)) k1 ?_ ?_ ?_
 ·exact ⟨d10, x9, d11, a10, n10, c10, d12, a11, n11, c11, d13, a12, n12, c12, x11, x13, 0, ⟨by kernel_rfl, by kernel_rfl⟩, tot, hB1, hB2, hR10, hR11, hB4, hB3, hR12, hB6, hs⟩
 ·rintro tm g ⟨d18, x19, l3, a16, n16, c16, l4, a17, n17, c17, l5, a18, n18, c18, x20, x21, x22, hF, tot, hB1, hB2, hR16, hR17, hB4, hB3, hR18, hB6, hs⟩
  exact absurd hs (by simp [F.state_Decode.l1])
 clear tot hs hB1 hB2 hR10 hR11 hB4 hB3 hR12 hB6
 rintro k1 tm g ⟨d18, x19, l3, a16, n16, c16, l4, a17, n17, c17, l5, a18, n18, c18, x20, x21, x22, hF, tot, hB1, hB2, hR16, hR17, hB4, hB3, hR18, hB6, hs⟩
 clear ds
 obtain ⟨ds, rfl⟩ := hF.open
 clear hF
 unfold F.state_Decode.l1 at hs
 refine CP.seqR ?_
 refine WP.stl 1 ?_
 refine WP.dn ?_
 refine NX.then_n ?_
 refine CP.seq ?_
 refine CP.cond (b := decide (x22 < x12)) (by kernel_rfl) (fun h7 => ?_) (fun h7 => ?_)
 ·replace hs := of_if_t hs h7
  refine CP.skip ?_
  refine NX.then_n ?_
  refine CP.seq ?_
  refine CP.block ?_
  refine CP.region ?_
  refine WP.stl 2 ?_
  replace hs := Option.bind_eq_some_iff.1 hs
  obtain ⟨⟨d24, x32, d25, d26, d27, x33, x34⟩, hk10, hs⟩ := hs
  dsimp only at hs
  have hcal10 := P.state_Decode_1_9 g (t + 2) (t + 6) (t + 7) (t + 4) (t + 3) (t + 5) d18 x19 l3 l4 l5 x20 x21 a16 n16 c16 a17 n17 c17 a18 n18 c18 b2 b4 b3 b5 hR16 hR17 hR18 hB2 hB3 hB4 hB6 (by omega) (by omega) (by omega) (by omega) (by omega) (by omega) (by omega) (by omega) (by omega) (by omega) (by omega) (by omega) (by omega) (by omega) (by omega) (by omega) (by omega) (by omega) (by omega) (by omega) (by omega) d24 x32 d25 d26 d27 x33 x34 hk10
  refine WP.callC hcal10 (by kernel_rfl) ?_
  rintro _ g24 st24 ⟨a25, n25, c25, a26, n26, c26, a27, n27, c27, rfl, hR25, hR26, hB34, hR27, hB35, hB36⟩
  replace hB1 := hB1.mono st24 (WL.no (by simp <;> omega))
  replace hB4 := hB4.mono st24 (WL.no (by simp <;> omega))
  replace tot := tot.trans (st24.up (by intro l hl; simp at hl; rcases hl with rfl | rfl | rfl | rfl | rfl <;> first | exact .inr (by omega) | exact .inl (by simp [WL])))
  clear hB2
  have hB2 := hB34
  clear hB34
  clear hB3
  have hB3 := hB35
  clear hB35
  clear hB6
  have hB6 := hB36
  clear hB36
  refine WP.dn ?_
  refine NX.block_n ?_
  refine NX.then_n ?_
  refine CP.region ?_
  refine WP.stl 2 ?_
  refine WP.dn ?_
  refine NX.post ?_
  exact ⟨d24, x32, d25, a25, n25, c25, d26, a26, n26, c26, d27, a27, n27, c27, x33, x34, (IntKind.i64.wrap (x22 + 1)), ⟨by kernel_rfl, by kernel_rfl⟩, tot, hB1, hB2, hR25, hR26, hB4, hB3, hR27, hB6, hs⟩
 replace hs := of_if_f hs h7
 refine CP.exit ?_
 refine NX.then_e ?_
 refine NX.then_e ?_
 refine NX.block_s ?_
 refine NX.then_n ?_
 refine CP.cut (fun tm g => ∃ (x36 : Int), Fr 40 [(2, .pointer (some ⟨b1, 0, none⟩)), (4, .pointer (some ⟨b2, 0, none⟩)), (6, .pointer (some ⟨b5, 0, none⟩))] tm ∧ Step (fun l => NoM l ∨ t ≤ l) g0 g ∧ Box g (t + 1) b1 61 [encA .u8 (zA 8), [.int .i64 0], [.slice none 0 0], [.slice none 0 0]] [8, 1, 1, 1] ∧ Box g (t + 2) b2 61 [encA .u8 d18, [.int .i64 x19], [.slice a16 n16 c16], [.slice a17 n17 c17]] [8, 1, 1, 1] ∧ OwnS (Kd.int .u8) g (t + 6) 5 a16 n16 c16 l3 ∧ OwnS (Kd.slice 5 (Kd.int .u8)) g (t + 7) 24 a17 n17 c17 l4 ∧ Box g (t + 5) b5 43 [[.int .i64 x36]] [1] ∧ (F.state_Decode.c1 d18 x19 l3 l4 x36) = some (o1, o2, o3, o4, o5)) ?_ ?_
 ·refine CP.seqR ?_
  refine WP.loadB (v := .int .i64 x21) hB6 (by kernel_rfl) (by kernel_rfl) ?_
  refine WP.stl 1 ?_
  refine WP.dn ?_
  refine NX.then_n ?_
  refine CP.cond (b := (x21 == 0)) (by kernel_rfl) (fun h10 => ?_) (fun h10 => ?_)
  ·replace hs := of_if_t hs h10
   refine CP.region ?_
   refine WP.loadB (v := .pointer (some ⟨b3, 0, none⟩)) hB4 (by kernel_rfl) (by kernel_rfl) ?_
   replace hs := Option.bind_eq_some_iff.1 hs
   obtain ⟨x37, hk12, hs⟩ := hs
   have hcal12 := P.octet_Reader_End g (t + 3) l5 x20 a18 n18 c18 b3 hR18 hB3 (by omega) x37 hk12
   refine WP.callC hcal12 (by kernel_rfl) ?_
   rintro _ g32 st32 rfl
   replace hB1 := hB1.mono st32 (fun x => x)
   replace hB2 := hB2.mono st32 (fun x => x)
   replace hR16 := hR16.mono st32 (fun x => x) (fun x => x)
   replace hR17 := hR17.mono st32 (fun x => x) (fun x => x)
   replace hB4 := hB4.mono st32 (fun x => x)
   replace hB3 := hB3.mono st32 (fun x => x)
   replace hR18 := hR18.mono st32 (fun x => x)
   replace hB6 := hB6.mono st32 (fun x => x)
   replace tot := tot.trans st32.pure
   refine WP.storeB (ty := 43) (off := 0) (v := .int .i64 x37) hB6 [[.int .i64 x37]] [1] (by kernel_rfl) (by kernel_rfl) rfl (by kernel_rfl) [[.int .i64 x37]] (by kernel_rfl) (.one rfl .nil) ?_
   intro g33 st33 hB40
   replace hB1 := hB1.mono st33 (WL.no1 (by omega))
   replace hB2 := hB2.mono st33 (WL.no1 (by omega))
   replace hR16 := hR16.mono st33 (WL.no1 (by omega)) (WL.no1 (by omega))
   replace hR17 := hR17.mono st33 (WL.no1 (by omega)) (WL.no1 (by omega))
   replace hB4 := hB4.mono st33 (WL.no1 (by omega))
   replace hB3 := hB3.mono st33 (WL.no1 (by omega))
   replace hR18 := hR18.mono st33 (WL.no1 (by omega))
   replace tot := tot.trans (st33.up1 (.inr (by omega)))
   clear hB6
   have hB6 := hB40
   clear hB40
   refine WP.dn ?_
   refine NX.post ?_
   exact ⟨x37, ⟨by kernel_rfl, by kernel_rfl⟩, tot, hB1, hB2, hR16, hR17, hB6, hs⟩
  replace hs := of_if_f hs h10
  refine CP.skip ?_
  refine NX.post ?_
  exact ⟨x21, ⟨by kernel_rfl, by kernel_rfl⟩, tot, hB1, hB2, hR16, hR17, hB6, hs⟩
 clear tot hs hB1 hB2 hR16 hR17 hB4 hB3 hR18 hB6
 rintro tm g ⟨x36, hF, tot, hB1, hB2, hR16, hR17, hB6, hs⟩
 clear ds
 obtain ⟨ds, rfl⟩ := hF.open
 clear hF
 unfold F.state_Decode.c1 at hs
 refine CP.seq ?_
 refine CP.seqR ?_
 refine WP.loadB (v := .int .i64 x36) hB6 (by kernel_rfl) (by kernel_rfl) ?_
 refine WP.stl 1 ?_
 refine WP.dn ?_
 refine NX.then_n ?_
 refine CP.cond (b := (x36 != 0)) (by kernel_rfl) (fun h9 => ?_) (fun h9 => ?_)
 ·replace hs := of_if_t hs h9
  refine CP.seq ?_
  refine CP.drawL (by kernel_rfl) [0, 1, 2] [[], [], [0], [0, 1, 2]] [⟨none, [0], [], fun l g => Box g (t + 1) b1 61 [encA .u8 (zA 8), [.int .i64 0], [.slice none 0 0], [.slice none 0 0]] [8, 1, 1, 1]⟩, ⟨none, [], [], fun l g => Box g (t + 5) b5 43 [[.int .i64 x36]] [1]⟩, ⟨some 0, [], [0], fun l g => l.getD 0 undef = AG [encA .u8 (zA 8), [.int .i64 0], [.slice none 0 0], [.slice none 0 0]]⟩, ⟨some 1, [], [1], fun l g => l.getD 0 undef = .int .i64 x36⟩, ⟨some 2, [0], [], fun l g => Box g (t + 1) b1 61 [encA .u8 (zA 8), [.int .i64 0], [.slice none 0 0], [.slice none 0 0]] [8, 1, 1, 1]⟩] [[], [], [0]] [(t + 1)] [] [3] (by kernel_rfl) (by simp <;> omega) (by simp) ⟨fun _ _ _ _ st h0 hl hj hB1 => (hB1.mono st (hj 0 (by simp) _ rfl)), fun _ _ _ _ st h0 hl hj hB6 => (hB6.mono st (fun h => absurd (hl _ h) (by simp <;> omega))), fun _ _ _ _ st h0 hl hj e0 => e0, fun _ _ _ _ st h0 hl hj e1 => e1, fun _ _ _ _ st h0 hl hj hB1 => (hB1.mono st (hj 0 (by simp) _ rfl)), tv⟩ ⟨hB1, hB6, tv, tv, tv, tv⟩ (by kernel_rfl) (fun vs => by kernel_rfl) ?_ ?_ ?_
  ·intro j hj
   have hq : j = 0 := by have h : j < 1 := hj; omega
   rcases hq with rfl
   ·intro vs gq stq hl hf
    obtain ⟨v0, v1, v2, rfl⟩ := len_k3 hl
    have e1 := (show v1 = .int .i64 x36 from hf _ (memI 3 rfl) (by kernel_rfl))
    subst e1
    show Option.isSome _ = true
    kernel_rfl
  ·intro j hj
   have hq : j = 0 ∨ j = 1 ∨ j = 2 := by have h : j < 3 := hj; omega
   rcases hq with rfl | rfl | rfl
   ·intro vs gq stq hl hf
    obtain ⟨v0, v1, v2, rfl⟩ := len_k3 hl
    refine WP.buildS (places := #[(0, 10), (10, 1)]) (t := 61) [encA .u8 (zA 8), [.int .i64 0], [.slice none 0 0], [.slice none 0 0]] [8, 1, 1, 1] (by kernel_rfl) (by kernel_rfl) (by simp [len_encA]) (by kernel_rfl) (.nil) ?_
    refine WP.dn (Shown.ok (v := AG [encA .u8 (zA 8), [.int .i64 0], [.slice none 0 0], [.slice none 0 0]]) (by kernel_rfl) (Step.refl _ _) ?_)
    exact ⟨tv, tv, rfl, tv, tv, tv⟩
   ·intro vs gq stq hl hf
    obtain ⟨v0, v1, v2, rfl⟩ := len_k3 hl
    have hB6 := (show Box gq (t + 5) b5 43 [[.int .i64 x36]] [1] from hf _ (memI 1 rfl) (by kernel_rfl))
    refine WP.loadB (v := .int .i64 x36) hB6 (by kernel_rfl) (by kernel_rfl) ?_
    refine WP.dn (Shown.ok (v := .int .i64 x36) (by kernel_rfl) (Step.refl _ _) ?_)
    exact ⟨tv, tv, tv, rfl, tv, tv⟩
   ·intro vs gq stq hl hf
    obtain ⟨v0, v1, v2, rfl⟩ := len_k3 hl
    have hB1 := (show Box gq (t + 1) b1 61 [encA .u8 (zA 8), [.int .i64 0], [.slice none 0 0], [.slice none 0 0]] [8, 1, 1, 1] from hf _ (memI 0 rfl) (by kernel_rfl))
    have e0 := (show v0 = AG [encA .u8 (zA 8), [.int .i64 0], [.slice none 0 0], [.slice none 0 0]] from hf _ (memI 2 rfl) (by kernel_rfl))
    subst e0
    refine WP.storeB (ty := 61) (off := 0) (v := AG [encA .u8 (zA 8), [.int .i64 0], [.slice none 0 0], [.slice none 0 0]]) hB1 [encA .u8 (zA 8), [.int .i64 0], [.slice none 0 0], [.slice none 0 0]] [8, 1, 1, 1] (by kernel_rfl) (by kernel_rfl) (by simp [len_encA]) (by kernel_rfl) [encA .u8 (zA 8), [.int .i64 0], [.slice none 0 0], [.slice none 0 0]] (by kernel_rfl) (.arr (.one rfl (.one rfl (.one rfl .nil)))) ?_
    intro g27 st27 hB38
    refine WP.dn (Shown.o (v := undef) st27 ?_)
    exact ⟨tv, tv, tv, tv, hB38, tv⟩
  intro vs g28 st28 hl hf
  obtain ⟨v0, v1, v2, rfl⟩ := len_k3 hl
  have e1 := (show v1 = .int .i64 x36 from hf _ (memI 3 rfl) (by kernel_rfl))
  subst e1
  have hB1 := (show Box g28 (t + 1) b1 61 [encA .u8 (zA 8), [.int .i64 0], [.slice none 0 0], [.slice none 0 0]] [8, 1, 1, 1] from hf _ (memI 4 rfl) (by kernel_rfl))
  replace tot := tot.trans (st28.up1 (.inr (by omega)))
  refine NX.then_n ?_
  refine CP.refr 40 [(2, .pointer (some ⟨b1, 0, none⟩)), (3, .int .i64 x36)] (by kernel_rfl) (by kernel_rfl) ?_
  clear ds
  intro ds
  refine CP.ret ?_
  refine NX.then_r ?_
  replace hs := Option.some.inj hs
  simp only [Prod.mk.injEq] at hs
  obtain ⟨rfl, rfl, rfl, rfl, rfl⟩ := hs
  exact NX.fin (v := .tuple #[AG [encA .u8 (zA 8), [.int .i64 0], [.slice none 0 0], [.slice none 0 0]], .int .i64 x36]) (Res.two rfl (RV.box (agg := true) (size := 11) (rs := [encA .u8 (zA 8), [.int .i64 0], [.slice none 0 0], [.slice none 0 0]]) hB1 (by kernel_rfl) (by kernel_rfl) (by kernel_rfl) (by kernel_rfl)) (RV.tmp (by kernel_rfl))) tot htL ⟨none, 0, 0, none, 0, 0, rfl, (OwnS.nil _ _ _ _), (OwnS.nil _ _ _ _)⟩
 replace hs := of_if_f hs h9
 refine CP.skip ?_
 refine NX.then_n ?_
 refine CP.seqR ?_
 refine WP.loadB (v := AG [encA .u8 d18, [.int .i64 x19], [.slice a16 n16 c16], [.slice a17 n17 c17]]) hB2 (by kernel_rfl) (by kernel_rfl) ?_
 refine WP.storeB (ty := 61) (off := 0) (v := AG [encA .u8 d18, [.int .i64 x19], [.slice a16 n16 c16], [.slice a17 n17 c17]]) hB1 [encA .u8 d18, [.int .i64 x19], [.slice a16 n16 c16], [.slice a17 n17 c17]] [8, 1, 1, 1] (by kernel_rfl) (by kernel_rfl) (by simp [len_encA]) (by kernel_rfl) [encA .u8 d18, [.int .i64 x19], [.slice a16 n16 c16], [.slice a17 n17 c17]] (by kernel_rfl) (.arr (.one rfl (.one rfl (.one rfl .nil)))) ?_
 intro g29 st29 hB39
 replace hR16 := hR16.mono st29 (WL.no1 (by omega)) (WL.no1 (by omega))
 replace hR17 := hR17.mono st29 (WL.no1 (by omega)) (WL.no1 (by omega))
 replace hB2 := hB2.mono st29 (WL.no1 (by omega))
 replace tot := tot.trans (st29.up1 (.inr (by omega)))
 clear hB1
 have hB1 := hB39
 clear hB39
 refine WP.stl 1 ?_
 refine WP.dn ?_
 refine NX.then_n ?_
 refine CP.ret ?_
 obtain ⟨g30, hw1, st30, hnew⟩ := hR16.relab (by omega) r0
 refine NX.regw hw1 ?_
 replace hB1 := hB1.mono st30 (WL.no1 (by omega))
 replace hR17 := hR17.mono st30 (WL.no1 (by omega)) (WL.no1 (by omega))
 replace tot := tot.trans (st30.up1 (.inr (by omega)))
 clear hR16
 have hR16 := hnew
 clear hnew
 obtain ⟨g31, hw2, st31, hnew⟩ := hR17.relab (by omega) r1
 refine NX.regw hw2 ?_
 replace hB1 := hB1.mono st31 (WL.no1 (by omega))
 replace hR16 := hR16.mono st31 (WL.no1 (by omega)) (WL.no1 (by omega))
 replace tot := tot.trans (st31.up1 (.inr (by omega)))
 clear hR17
 have hR17 := hnew
 clear hnew
 replace hs := Option.some.inj hs
 simp only [Prod.mk.injEq] at hs
 obtain ⟨rfl, rfl, rfl, rfl, rfl⟩ := hs
 exact NX.fin (v := .tuple #[AG [encA .u8 d18, [.int .i64 x19], [.slice a16 n16 c16], [.slice a17 n17 c17]], .int .i64 0]) (Res.two rfl (RV.box (agg := true) (size := 11) (rs := [encA .u8 d18, [.int .i64 x19], [.slice a16 n16 c16], [.slice a17 n17 c17]]) hB1 (by kernel_rfl) (by kernel_rfl) (by kernel_rfl) (by kernel_rfl)) (RV.tmp (by kernel_rfl))) tot htL ⟨a16, n16, c16, a17, n17, c17, rfl, hR16, hR17⟩
def F.baizeref01_Num.l1 : Nat → Int → (List Int) → Option ((List Int))
 | 0, _, _ => none
 | k + 1, x2, l1 => (if decide (x2 ≥ 128) = true then (if l1.length + ([(IntKind.u8.wrap (IntKind.u64.wrap (128 + (x2.tmod 128))))]).length ≤ 140737488355328 then (F.baizeref01_Num.l1 k (IntKind.u64.wrap (x2.tdiv 128)) (l1 ++ [(IntKind.u8.wrap (IntKind.u64.wrap (128 + (x2.tmod 128))))])) else none) else (if l1.length + ([(IntKind.u8.wrap x2)]).length ≤ 140737488355328 then (some (l1 ++ [(IntKind.u8.wrap x2)])) else none))
def F.baizeref01_Num (x1 : Int) : Option ((List Int)) := (F.baizeref01_Num.l1 fuel x1 ([]))
theorem P.baizeref01_Num (g0 : GW) (r0 : Nat) (x1 : Int) (o1 : List Int) (hs : F.baizeref01_Num x1 = some o1) :
  Calls Try.prog 37 #[.int .u64 x1] g0.w (Ret NoM g0 fun v g => ∃ (a_1 : Option Addr) (n_1 : Nat) (c_1 : Nat), v = .slice a_1 n_1 c_1 ∧ OwnS (Kd.int .u8) g r0 5 a_1 n_1 c_1 o1) := by
 refine calls_of (args := [.int .u64 x1]) Try.func37 rfl (r0 + 0) ?_
 intro t ht htL
 refine ⟨_, rfl, ?_⟩
 refine CP.refr 20 [(0, .int .u64 x1)] (by kernel_rfl) (by kernel_rfl) ?_
 intro ds
 have tot : Step (fun l => NoM l ∨ t ≤ l) g0 g0 := Step.refl _ _
 unfold F.baizeref01_Num at hs
 refine CP.seqR ?_
 refine WP.stl 1 ?_
 refine WP.dn ?_
 refine NX.then_n ?_
 refine CP.seqR ?_
 refine WP.stl 1 ?_
 refine WP.dn ?_
 refine NX.then_n ?_
 refine CP.seq ?_
 refine CP.block ?_
 generalize fuel = k1 at hs
 refine CP.loop (fun k1 tm g => ∃ (x2 : Int) (l1 : List Int) (a5 : Option Addr) (n1 : Nat) (c3 : Nat), Fr 20 [(0, .int .u64 x2), (3, .slice a5 n1 c3)] tm ∧ Step (fun l => NoM l ∨ t ≤ l) g0 g ∧ OwnS (Kd.int .u8) g (t + 2) 5 a5 n1 c3 l1 ∧ F.baizeref01_Num.l1 k1 x2 l1 = some o1) k1 ?_ ?_ ?_
 ·exact ⟨x1, [], none, 0, 0, ⟨by kernel_rfl, by kernel_rfl⟩, tot, (OwnS.nil _ _ _ _), hs⟩
 ·rintro tm g ⟨x2, l1, a5, n1, c3, hF, tot, hR5, hs⟩
  exact absurd hs (by simp [F.baizeref01_Num.l1])
 clear tot hs
 rintro k1 tm g ⟨x2, l1, a5, n1, c3, hF, tot, hR5, hs⟩
 clear ds
 obtain ⟨ds, rfl⟩ := hF.open
 clear hF
 unfold F.baizeref01_Num.l1 at hs
 refine CP.seq ?_
 refine CP.seqR ?_
 refine WP.stl 2 ?_
 refine WP.dn ?_
 refine NX.then_n ?_
 refine CP.cond (b := decide (x2 ≥ 128)) (by kernel_rfl) (fun h3 => ?_) (fun h3 => ?_)
 ·replace hs := of_if_t hs h3
  refine CP.skip ?_
  refine NX.then_n ?_
  refine CP.block ?_
  refine CP.seqR ?_
  refine WP.stl 5 ?_
  refine WP.mkSl (kd := (Kd.int .u8)) (t := 24) (e := 5) (bytes := 1) (t + 7) [.int .u8 (IntKind.u8.wrap (IntKind.u64.wrap (128 + (x2.tmod 128))))] [(IntKind.u8.wrap (IntKind.u64.wrap (128 + (x2.tmod 128))))] (by kernel_rfl) (by kernel_rfl) (Nat.le_of_ble_eq_true rfl) (Nat.le_of_ble_eq_true rfl) (all_cons rfl all_nil) (⟨_, _, rfl, (by exact rfl), rfl⟩) rfl ?_
  intro g9 a11 st9 hR11
  replace hR5 := hR5.mono st9 (fun x => x) (fun x => x)
  replace tot := tot.trans st9.pure
  by_cases hc5 : l1.length + ([(IntKind.u8.wrap (IntKind.u64.wrap (128 + (x2.tmod 128))))]).length ≤ 140737488355328
  case neg => rw [if_neg hc5] at hs; cases hs
  replace hs := of_if_p hs hc5
  refine WP.append (kd := (Kd.int .u8)) (t := 24) (e := 5) (bytes := 1) (a2 := a11) (c2 := 1) hR5 hR11.src hR11.len (by kernel_rfl) (by kernel_rfl) (by omega) (by simp only [maxLen]; omega) (by omega) ?_
  intro g10 a12 c7 st10 hR12
  replace hR11 := hR11.mono st10 (WL.no1 (by omega)) (WL.no1 (by omega))
  replace tot := tot.trans (st10.up1 (.inr (by omega)))
  refine WP.stl 1 ?_
  refine WP.dn ?_
  refine NX.then_n ?_
  refine CP.region ?_
  refine WP.stl 3 ?_
  refine WP.dn ?_
  refine NX.block_n ?_
  refine NX.post ?_
  exact ⟨(IntKind.u64.wrap (x2.tdiv 128)), (l1 ++ [(IntKind.u8.wrap (IntKind.u64.wrap (128 + (x2.tmod 128))))]), a12, (n1 + 1), c7, ⟨by kernel_rfl, by kernel_rfl⟩, tot, hR12, hs⟩
 replace hs := of_if_f hs h3
 refine CP.exit ?_
 refine NX.then_e ?_
 refine NX.then_e ?_
 refine NX.block_s ?_
 refine NX.then_n ?_
 refine CP.seqR ?_
 refine WP.stl 3 ?_
 refine WP.mkSl (kd := (Kd.int .u8)) (t := 24) (e := 5) (bytes := 1) (t + 8) [.int .u8 (IntKind.u8.wrap x2)] [(IntKind.u8.wrap x2)] (by kernel_rfl) (by kernel_rfl) (Nat.le_of_ble_eq_true rfl) (Nat.le_of_ble_eq_true rfl) (all_cons rfl all_nil) (⟨_, _, rfl, (by exact rfl), rfl⟩) rfl ?_
 intro g11 a13 st11 hR13
 replace hR5 := hR5.mono st11 (fun x => x) (fun x => x)
 replace tot := tot.trans st11.pure
 by_cases hc6 : l1.length + ([(IntKind.u8.wrap x2)]).length ≤ 140737488355328
 case neg => rw [if_neg hc6] at hs; cases hs
 replace hs := of_if_p hs hc6
 refine WP.append (kd := (Kd.int .u8)) (t := 24) (e := 5) (bytes := 1) (a2 := a13) (c2 := 1) hR5 hR13.src hR13.len (by kernel_rfl) (by kernel_rfl) (by omega) (by simp only [maxLen]; omega) (by omega) ?_
 intro g12 a14 c8 st12 hR14
 replace hR13 := hR13.mono st12 (WL.no1 (by omega)) (WL.no1 (by omega))
 replace tot := tot.trans (st12.up1 (.inr (by omega)))
 refine WP.stl 1 ?_
 refine WP.dn ?_
 refine NX.then_n ?_
 refine CP.ret ?_
 obtain ⟨g13, hw1, st13, hnew⟩ := hR14.relab (by omega) r0
 refine NX.regw hw1 ?_
 replace tot := tot.trans (st13.up1 (.inr (by omega)))
 clear hR14
 have hR14 := hnew
 clear hnew
 replace hs := Option.some.inj hs
 obtain rfl := hs
 exact NX.fin (v := .slice a14 (n1 + 1) c8) (Res.still (by kernel_rfl)) tot htL ⟨a14, (n1 + 1), c8, rfl, hR14⟩
def F.baizeref01_Bytes (l1 : List Int) : Option ((List Int)) := ((F.baizeref01_Num (IntKind.u64.wrap (l1.length : Int))).bind fun l2 => (if l2.length + l1.length ≤ 140737488355328 then (some (l2 ++ l1)) else none))
theorem P.baizeref01_Bytes (g0 : GW) (r0 : Nat) (l1 : List Int) (a1 : Option Addr) (n1 : Nat) (c1 : Nat) (hR1 : RdS (Kd.int .u8) g0 5 a1 n1 c1 l1) (o1 : List Int) (hs : F.baizeref01_Bytes l1 = some o1) :
  Calls Try.prog 35 #[.slice a1 n1 c1] g0.w (Ret NoM g0 fun v g => ∃ (a_1 : Option Addr) (n_1 : Nat) (c_1 : Nat), v = .slice a_1 n_1 c_1 ∧ OwnS (Kd.int .u8) g r0 5 a_1 n_1 c_1 o1) := by
 refine calls_of (args := [.slice a1 n1 c1]) Try.func35 rfl (r0 + 0) ?_
 intro t ht htL
 refine ⟨_, rfl, ?_⟩
 refine CP.refr 9 [(0, .slice a1 n1 c1)] (by kernel_rfl) (by kernel_rfl) ?_
 intro ds
 have tot : Step (fun l => NoM l ∨ t ≤ l) g0 g0 := Step.refl _ _
 unfold F.baizeref01_Bytes at hs
 refine CP.seqR ?_
 refine WP.stl 1 ?_
 refine WP.dn ?_
 refine NX.then_n ?_
 refine CP.seqR ?_
 refine WP.stl 1 ?_
 refine WP.len (a := a1) (cp := c1) hR1.len (by kernel_rfl) ?_
 refine WP.stl 1 ?_
 replace hs := Option.bind_eq_some_iff.1 hs
 obtain ⟨l2, hk1, hs⟩ := hs
 have hcal1 := P.baizeref01_Num g0 (t + 1) (IntKind.u64.wrap (l1.length : Int)) l2 hk1
 refine WP.callC hcal1 (by kernel_rfl) ?_
 rintro _ g1 st1 ⟨a2, n2, c2, rfl, hR2⟩
 replace hR1 := hR1.mono st1 (fun x => x)
 replace tot := tot.trans st1.pure
 refine WP.stl 1 ?_
 by_cases hc1 : l2.length + l1.length ≤ 140737488355328
 case neg => rw [if_neg hc1] at hs; cases hs
 replace hs := of_if_p hs hc1
 refine WP.append (kd := (Kd.int .u8)) (t := 24) (e := 5) (bytes := 1) (a2 := a1) (c2 := c1) hR2 hR1.src hR1.len (by kernel_rfl) (by kernel_rfl) (by omega) (by simp only [maxLen]; omega) (by omega) ?_
 intro g2 a3 c3 st2 hR3
 replace hR1 := hR1.mono st2 (WL.no1 (by omega))
 replace tot := tot.trans (st2.up1 (.inr (by omega)))
 refine WP.stl 1 ?_
 refine WP.dn ?_
 refine NX.then_n ?_
 refine CP.ret ?_
 obtain ⟨g3, hw1, st3, hnew⟩ := hR3.relab (by omega) r0
 refine NX.regw hw1 ?_
 replace tot := tot.trans (st3.up1 (.inr (by omega)))
 clear hR3
 have hR3 := hnew
 clear hnew
 replace hs := Option.some.inj hs
 obtain rfl := hs
 exact NX.fin (v := .slice a3 (n2 + n1) c3) (Res.still (by kernel_rfl)) tot htL ⟨a3, (n2 + n1), c3, rfl, hR3⟩
def F.baizeref32_Encode.l1 (l2 : List (List Int)) : Nat → (List Int) → Int → Option ((List Int))
 | 0, _, _ => none
 | k + 1, l8, x2 => (if decide (x2 < (l2.length : Int)) = true then (if (0 : Int) ≤ x2 ∧ x2 < (l2.length : Int) then ((F.baizeref01_Bytes (getI l2 x2)).bind fun l11 => (if l8.length + l11.length ≤ 140737488355328 then (F.baizeref32_Encode.l1 l2 k (l8 ++ l11) (IntKind.i64.wrap (x2 + 1))) else none)) else none) else (some l8))
def F.baizeref32_Encode (d1 : Arr Int 8) (x1 : Int) (l1 : List Int) (l2 : List (List Int)) : Option ((List Int)) := ((F.baizeref01_Bytes d1.1).bind fun l3 => ((F.baizeref01_Num (IntKind.u64.wrap x1)).bind fun l4 => (if l3.length + l4.length ≤ 140737488355328 then ((F.baizeref01_Bytes l1).bind fun l5 => (if (l3 ++ l4).length + l5.length ≤ 140737488355328 then ((F.baizeref01_Num (IntKind.u64.wrap (l2.length : Int))).bind fun l6 => (if ((l3 ++ l4) ++ l5).length + l6.length ≤ 140737488355328 then (F.baizeref32_Encode.l1 l2 fuel (((l3 ++ l4) ++ l5) ++ l6) 0) else none)) else none)) else none)))
theorem P.baizeref32_Encode (g0 : GW) (r0 : Nat) (d1 : Arr Int 8) (x1 : Int) (l1 : List Int) (l2 : List (List Int)) (a1 : Option Addr) (n1 : Nat) (c1 : Nat) (a2 : Option Addr) (n2 : Nat) (c2 : Nat) (hR1 : RdS (Kd.int .u8) g0 5 a1 n1 c1 l1) (hR2 : RdS (Kd.slice 5 (Kd.int .u8)) g0 24 a2 n2 c2 l2) (o1 : List Int) (hs : F.baizeref32_Encode d1 x1 l1 l2 = some o1) :
  Calls Try.prog 33 #[AG [encA .u8 d1, [.int .i64 x1], [.slice a1 n1 c1], [.slice a2 n2 c2]]] g0.w (Ret NoM g0 fun v g => ∃ (a_1 : Option Addr) (n_1 : Nat) (c_1 : Nat), v = .slice a_1 n_1 c_1 ∧ OwnS (Kd.int .u8) g r0 5 a_1 n_1 c_1 o1) := by
 refine calls_of (args := [AG [encA .u8 d1, [.int .i64 x1], [.slice a1 n1 c1], [.slice a2 n2 c2]]]) Try.func33 rfl (r0 + 0) ?_
 intro t ht htL
 refine ⟨_, rfl, ?_⟩
 refine CP.refr 45 [(0, AG [encA .u8 d1, [.int .i64 x1], [.slice a1 n1 c1], [.slice a2 n2 c2]])] (by kernel_rfl) (by kernel_rfl) ?_
 intro ds
 have tot : Step (fun l => NoM l ∨ t ≤ l) g0 g0 := Step.refl _ _
 unfold F.baizeref32_Encode at hs
 refine CP.seqR ?_
 refine WP.alloc (T := 65) (t + 1) [encA .u8 d1, [.int .i64 x1], [.slice a1 n1 c1], [.slice a2 n2 c2]] [8, 1, 1, 1] (by kernel_rfl) (by simp [len_encA]) ?_
 intro g1 b1 st1 hB1
 replace hR1 := hR1.mono st1 (fun x => x)
 replace hR2 := hR2.mono st1 (fun x => x)
 replace tot := tot.trans st1.pure
 refine WP.stl 1 ?_
 refine WP.dn ?_
 refine NX.then_n ?_
 refine CP.seqR ?_
 refine WP.stl 2 ?_
 obtain ⟨g2, hw1, st2, hnew⟩ := hB1.relab 0
 refine WP.regw hw1 ?_
 replace hR1 := hR1.mono st2 (WL.no1 (by omega))
 replace hR2 := hR2.mono st2 (WL.no1 (by omega))
 replace tot := tot.trans (st2.up1 (.inr (by omega)))
 clear hB1
 have hB1 := hnew
 clear hnew
 refine WP.sliceZ (o := 0) (m := 8) (k := .u8) (d := d1) (e := 5) (lo := none) (hi := none) hB1 (by kernel_rfl) (0 : Int) (8 : Int) (by kernel_rfl) (.inl ⟨rfl, rfl⟩) (.inl ⟨rfl, rfl⟩) (by decide) ?_
 intro a3 hR3
 rw [sliceI_all (m := 8) (d := d1) (j := (8 : Int)) rfl] at hR3
 replace hs := Option.bind_eq_some_iff.1 hs
 obtain ⟨l3, hk1, hs⟩ := hs
 have hcal1 := P.baizeref01_Bytes g2 (t + 2) d1.1 a3 ((8 : Int).toNat - (0 : Int).toNat) (8 - (0 : Int).toNat) hR3 l3 hk1
 refine WP.callC hcal1 (by kernel_rfl) ?_
 rintro _ g3 st3 ⟨a4, n3, c3, rfl, hR4⟩
 replace hB1 := hB1.mono st3 (fun x => x)
 replace hR1 := hR1.mono st3 (fun x => x)
 replace hR2 := hR2.mono st3 (fun x => x)
 replace hR3 := hR3.mono st3 (fun x => x)
 replace tot := tot.trans st3.pure
 refine WP.stl 1 ?_
 refine WP.dn ?_
 refine NX.then_n ?_
 refine CP.seqR ?_
 refine WP.stl 3 ?_
 refine WP.loadB (v := .int .i64 x1) hB1 (by kernel_rfl) (by kernel_rfl) ?_
 refine WP.stl 1 ?_
 replace hs := Option.bind_eq_some_iff.1 hs
 obtain ⟨l4, hk2, hs⟩ := hs
 have hcal2 := P.baizeref01_Num g3 (t + 3) (IntKind.u64.wrap x1) l4 hk2
 refine WP.callC hcal2 (by kernel_rfl) ?_
 rintro _ g4 st4 ⟨a5, n4, c4, rfl, hR5⟩
 replace hB1 := hB1.mono st4 (fun x => x)
 replace hR1 := hR1.mono st4 (fun x => x)
 replace hR2 := hR2.mono st4 (fun x => x)
 replace hR4 := hR4.mono st4 (fun x => x) (fun x => x)
 replace tot := tot.trans st4.pure
 by_cases hc1 : l3.length + l4.length ≤ 140737488355328
 case neg => rw [if_neg hc1] at hs; cases hs
 replace hs := of_if_p hs hc1
 refine WP.append (kd := (Kd.int .u8)) (t := 24) (e := 5) (bytes := 1) (a2 := a5) (c2 := c4) hR4 hR5.src hR5.len (by kernel_rfl) (by kernel_rfl) (by omega) (by simp only [maxLen]; omega) (by omega) ?_
 intro g5 a6 c5 st5 hR6
 replace hB1 := hB1.mono st5 (WL.no1 (by omega))
 replace hR1 := hR1.mono st5 (WL.no1 (by omega))
 replace hR2 := hR2.mono st5 (WL.no1 (by omega))
 replace hR5 := hR5.mono st5 (WL.no1 (by omega)) (WL.no1 (by omega))
 replace tot := tot.trans (st5.up1 (.inr (by omega)))
 refine WP.stl 1 ?_
 refine WP.dn ?_
 refine NX.then_n ?_
 refine CP.refr 45 [(1, .pointer (some ⟨b1, 0, none⟩)), (3, .slice a6 (n3 + n4) c5)] (by kernel_rfl) (by kernel_rfl) ?_
 clear ds
 intro ds
 refine CP.seqR ?_
 refine WP.stl 3 ?_
 refine WP.loadB (v := .slice a1 n1 c1) hB1 (by kernel_rfl) (by kernel_rfl) ?_
 replace hs := Option.bind_eq_some_iff.1 hs
 obtain ⟨l5, hk3, hs⟩ := hs
 have hcal3 := P.baizeref01_Bytes g5 (t + 4) l1 a1 n1 c1 hR1 l5 hk3
 refine WP.callC hcal3 (by kernel_rfl) ?_
 rintro _ g6 st6 ⟨a7, n5, c6, rfl, hR7⟩
 replace hB1 := hB1.mono st6 (fun x => x)
 replace hR1 := hR1.mono st6 (fun x => x)
 replace hR2 := hR2.mono st6 (fun x => x)
 replace hR6 := hR6.mono st6 (fun x => x) (fun x => x)
 replace tot := tot.trans st6.pure
 by_cases hc2 : (l3 ++ l4).length + l5.length ≤ 140737488355328
 case neg => rw [if_neg hc2] at hs; cases hs
 replace hs := of_if_p hs hc2
 refine WP.append (kd := (Kd.int .u8)) (t := 24) (e := 5) (bytes := 1) (a2 := a7) (c2 := c6) hR6 hR7.src hR7.len (by kernel_rfl) (by kernel_rfl) (by omega) (by simp only [maxLen]; omega) (by omega) ?_
 intro g7 a8 c7 st7 hR8
 replace hB1 := hB1.mono st7 (WL.no1 (by omega))
 replace hR1 := hR1.mono st7 (WL.no1 (by omega))
 replace hR2 := hR2.mono st7 (WL.no1 (by omega))
 replace hR7 := hR7.mono st7 (WL.no1 (by omega)) (WL.no1 (by omega))
 replace tot := tot.trans (st7.up1 (.inr (by omega)))
 refine WP.stl 1 ?_
 refine WP.dn ?_
 refine NX.then_n ?_
 refine CP.seqR ?_
 refine WP.stl 2 ?_
 refine WP.loadB (v := .slice a2 n2 c2) hB1 (by kernel_rfl) (by kernel_rfl) ?_
 refine WP.len (a := a2) (cp := c2) hR2.len (by kernel_rfl) ?_
 refine WP.stl 1 ?_
 replace hs := Option.bind_eq_some_iff.1 hs
 obtain ⟨l6, hk4, hs⟩ := hs
 have hcal4 := P.baizeref01_Num g7 (t + 5) (IntKind.u64.wrap (l2.length : Int)) l6 hk4
 refine WP.callC hcal4 (by kernel_rfl) ?_
 rintro _ g8 st8 ⟨a9, n6, c8, rfl, hR9⟩
 replace hB1 := hB1.mono st8 (fun x => x)
 replace hR1 := hR1.mono st8 (fun x => x)
 replace hR2 := hR2.mono st8 (fun x => x)
 replace hR8 := hR8.mono st8 (fun x => x) (fun x => x)
 replace tot := tot.trans st8.pure
 by_cases hc3 : ((l3 ++ l4) ++ l5).length + l6.length ≤ 140737488355328
 case neg => rw [if_neg hc3] at hs; cases hs
 replace hs := of_if_p hs hc3
 refine WP.append (kd := (Kd.int .u8)) (t := 24) (e := 5) (bytes := 1) (a2 := a9) (c2 := c8) hR8 hR9.src hR9.len (by kernel_rfl) (by kernel_rfl) (by omega) (by simp only [maxLen]; omega) (by omega) ?_
 intro g9 a10 c9 st9 hR10
 replace hB1 := hB1.mono st9 (WL.no1 (by omega))
 replace hR1 := hR1.mono st9 (WL.no1 (by omega))
 replace hR2 := hR2.mono st9 (WL.no1 (by omega))
 replace hR9 := hR9.mono st9 (WL.no1 (by omega)) (WL.no1 (by omega))
 replace tot := tot.trans (st9.up1 (.inr (by omega)))
 refine WP.stl 1 ?_
 refine WP.dn ?_
 refine NX.then_n ?_
 refine CP.refr 45 [(1, .pointer (some ⟨b1, 0, none⟩)), (3, .slice a10 (((n3 + n4) + n5) + n6) c9)] (by kernel_rfl) (by kernel_rfl) ?_
 clear ds
 intro ds
 refine CP.seq ?_
 refine CP.seqR ?_
 refine WP.stl 1 ?_
 refine WP.dn ?_
 refine NX.then_n ?_
 refine CP.block ?_
 generalize fuel = k1 at hs
 refine CP.loop (fun k1 tm g => ∃ (l8 : List Int) (a14 : Option Addr) (n9 : Nat) (c13 : Nat) (x2 : Int), Fr 45 [(1, .pointer (some ⟨b1, 0, none⟩)), (3, .slice a14 n9 c13), (4, .int .i64 x2)] tm ∧ Step (fun l => NoM l ∨ t ≤ l) g0 g ∧ Box g 0 b1 65 [encA .u8 d1, [.int .i64 x1], [.slice a1 n1 c1], [.slice a2 n2 c2]] [8, 1, 1, 1] ∧ RdS (Kd.int .u8) g 5 a1 n1 c1 l1 ∧ RdS (Kd.slice 5 (Kd.int .u8)) g 24 a2 n2 c2 l2 ∧ OwnS (Kd.int .u8) g (t + 2) 5 a14 n9 c13 l8 ∧ F.baizeref32_Encode.l1 l2 k1 l8 x2 = some o1) k1 ?_ ?_ ?_
 ·exact ⟨(((l3 ++ l4) ++ l5) ++ l6), a10, (((n3 + n4) + n5) + n6), c9, 0, ⟨by kernel_rfl, by kernel_rfl⟩, tot, hB1, hR1, hR2, hR10, hs⟩
 ·rintro tm g ⟨l8, a14, n9, c13, x2, hF, tot, hB1, hR1, hR2, hR14, hs⟩
  exact absurd hs (by simp [F.baizeref32_Encode.l1])
 clear tot hs hB1 hR1 hR2 hR10
 rintro k1 tm g ⟨l8, a14, n9, c13, x2, hF, tot, hB1, hR1, hR2, hR14, hs⟩
 clear ds
 obtain ⟨ds, rfl⟩ := hF.open
 clear hF
 unfold F.baizeref32_Encode.l1 at hs
 refine CP.seq ?_
 refine CP.seqR ?_
 refine WP.stl 2 ?_
 refine WP.loadB (v := .slice a2 n2 c2) hB1 (by kernel_rfl) (by kernel_rfl) ?_
 refine WP.len (a := a2) (cp := c2) hR2.len (by kernel_rfl) ?_
 refine WP.stl 1 ?_
 refine WP.dn ?_
 refine NX.then_n ?_
 refine CP.cond (b := decide (x2 < (l2.length : Int))) (by kernel_rfl) (fun h3 => ?_) (fun h3 => ?_)
 ·replace hs := of_if_t hs h3
  refine CP.skip ?_
  refine NX.then_n ?_
  refine CP.seq ?_
  refine CP.block ?_
  refine CP.region ?_
  refine WP.stl 2 ?_
  refine WP.loadB (v := .slice a2 n2 c2) hB1 (by kernel_rfl) (by kernel_rfl) ?_
  refine WP.stl 1 ?_
  by_cases hc8 : (0 : Int) ≤ x2 ∧ x2 < (l2.length : Int)
  case neg => rw [if_neg hc8] at hs; cases hs
  replace hs := of_if_p hs hc8
  obtain ⟨b4, u3, ha3⟩ := hR2.at hc8
  refine WP.indexA (t := 42) (e := 24) (sz := 1) (cap := c2) (k := .i64) (i := x2) hR2.len ha3 (by kernel_rfl) (by kernel_rfl) hc8 ?_
  obtain ⟨cs3, hcR3, hcV3⟩ := hR2.src.view (getI_some hc8) ha3
  obtain ⟨a19, n13, c18, hcR3, hR19⟩ := Kd.o_sl hcR3
  refine WP.loadV [[.slice a19 n13 c18]] [1] hcV3 hcR3 rfl (f := 0) (ty := 24) (agg := false) (size := 1) (rs := [[.slice a19 n13 c18]]) (v := .slice a19 n13 c18) (by kernel_rfl) (by kernel_rfl) (by kernel_rfl) (by kernel_rfl) ?_
  replace hs := Option.bind_eq_some_iff.1 hs
  obtain ⟨l11, hk7, hs⟩ := hs
  have hcal7 := P.baizeref01_Bytes g (t + 8) (getI l2 x2) a19 n13 c18 hR19 l11 hk7
  refine WP.callC hcal7 (by kernel_rfl) ?_
  rintro _ g14 st14 ⟨a20, n14, c19, rfl, hR20⟩
  replace hB1 := hB1.mono st14 (fun x => x)
  replace hR1 := hR1.mono st14 (fun x => x)
  replace hR2 := hR2.mono st14 (fun x => x)
  replace hR14 := hR14.mono st14 (fun x => x) (fun x => x)
  replace hR19 := hR19.mono st14 (fun x => x)
  replace tot := tot.trans st14.pure
  by_cases hc9 : l8.length + l11.length ≤ 140737488355328
  case neg => rw [if_neg hc9] at hs; cases hs
  replace hs := of_if_p hs hc9
  refine WP.append (kd := (Kd.int .u8)) (t := 24) (e := 5) (bytes := 1) (a2 := a20) (c2 := c19) hR14 hR20.src hR20.len (by kernel_rfl) (by kernel_rfl) (by omega) (by simp only [maxLen]; omega) (by omega) ?_
  intro g15 a21 c20 st15 hR21
  replace hB1 := hB1.mono st15 (WL.no1 (by omega))
  replace hR1 := hR1.mono st15 (WL.no1 (by omega))
  replace hR2 := hR2.mono st15 (WL.no1 (by omega))
  replace hR19 := hR19.mono st15 (WL.no1 (by omega))
  replace hR20 := hR20.mono st15 (WL.no1 (by omega)) (WL.no1 (by omega))
  replace tot := tot.trans (st15.up1 (.inr (by omega)))
  refine WP.stl 1 ?_
  refine WP.dn ?_
  refine NX.block_n ?_
  refine NX.then_n ?_
  refine CP.refr 45 [(1, .pointer (some ⟨b1, 0, none⟩)), (3, .slice a21 (n9 + n14) c20), (4, .int .i64 x2)] (by kernel_rfl) (by kernel_rfl) ?_
  clear ds
  intro ds
  refine CP.region ?_
  refine WP.stl 3 ?_
  refine WP.dn ?_
  refine NX.post ?_
  exact ⟨(l8 ++ l11), a21, (n9 + n14), c20, (IntKind.i64.wrap (x2 + 1)), ⟨by kernel_rfl, by kernel_rfl⟩, tot, hB1, hR1, hR2, hR21, hs⟩
 replace hs := of_if_f hs h3
 refine CP.exit ?_
 refine NX.then_e ?_
 refine NX.then_e ?_
 refine NX.block_s ?_
 refine NX.then_n ?_
 refine CP.seqR ?_
 refine WP.stl 2 ?_
 refine WP.dn ?_
 refine NX.then_n ?_
 refine CP.ret ?_
 obtain ⟨g16, hw2, st16, hnew⟩ := hR14.relab (by omega) r0
 refine NX.regw hw2 ?_
 replace tot := tot.trans (st16.up1 (.inr (by omega)))
 clear hR14
 have hR14 := hnew
 clear hnew
 replace hs := Option.some.inj hs
 obtain rfl := hs
 exact NX.fin (v := .slice a14 n9 c13) (Res.still (by kernel_rfl)) tot htL ⟨a14, n9, c13, rfl, hR14⟩
def F.baizeref32_SameState.c1 (q1 : Bool) : Option (Bool) := (some q1)
def F.baizeref32_SameState (d1 : Arr Int 8) (x1 : Int) (l1 : List Int) (d2 : Arr Int 8) (x2 : Int) (l2 : List Int) : Option (Bool) := (if (d1.1 == d2.1) = true then (if (x1 == x2) = true then (F.baizeref32_SameState.c1 ((bytesStr l1).toList == (bytesStr l2).toList)) else (F.baizeref32_SameState.c1 false)) else (F.baizeref32_SameState.c1 false))
theorem P.baizeref32_SameState (g0 : GW) (d1 : Arr Int 8) (x1 : Int) (l1 : List Int) (d2 : Arr Int 8) (x2 : Int) (l2 : List Int) (a1 : Option Addr) (n1 : Nat) (c1 : Nat) (a2 : Option Addr) (n2 : Nat) (c2 : Nat) (hR1 : RdS (Kd.int .u8) g0 5 a1 n1 c1 l1) (hR2 : RdS (Kd.int .u8) g0 5 a2 n2 c2 l2) (o1 : Bool) (hs : F.baizeref32_SameState d1 x1 l1 d2 x2 l2 = some o1) :
  Calls Try.prog 46 #[AG [encA .u8 d1, [.int .i64 x1], [.slice a1 n1 c1]], AG [encA .u8 d2, [.int .i64 x2], [.slice a2 n2 c2]]] g0.w (Ret NoM g0 fun v g => v = .bool o1) := by
 refine calls_of (args := [AG [encA .u8 d1, [.int .i64 x1], [.slice a1 n1 c1]], AG [encA .u8 d2, [.int .i64 x2], [.slice a2 n2 c2]]]) Try.func46 rfl (0) ?_
 intro t ht htL
 refine ⟨_, rfl, ?_⟩
 refine CP.refr 26 [(0, AG [encA .u8 d1, [.int .i64 x1], [.slice a1 n1 c1]]), (1, AG [encA .u8 d2, [.int .i64 x2], [.slice a2 n2 c2]])] (by kernel_rfl) (by kernel_rfl) ?_
 intro ds
 have tot : Step (fun l => NoM l ∨ t ≤ l) g0 g0 := Step.refl _ _
 unfold F.baizeref32_SameState at hs
 refine CP.seqR ?_
 refine WP.alloc (T := 63) (t + 1) [encA .u8 d1, [.int .i64 x1], [.slice a1 n1 c1]] [8, 1, 1] (by kernel_rfl) (by simp [len_encA]) ?_
 intro g1 b1 st1 hB1
 replace hR1 := hR1.mono st1 (fun x => x)
 replace hR2 := hR2.mono st1 (fun x => x)
 replace tot := tot.trans st1.pure
 refine WP.alloc (T := 63) (t + 2) [encA .u8 d2, [.int .i64 x2], [.slice a2 n2 c2]] [8, 1, 1] (by kernel_rfl) (by simp [len_encA]) ?_
 intro g2 b2 st2 hB2
 replace hR1 := hR1.mono st2 (fun x => x)
 replace hR2 := hR2.mono st2 (fun x => x)
 replace hB1 := hB1.mono st2 (fun x => x)
 replace tot := tot.trans st2.pure
 refine WP.stl 1 ?_
 refine WP.dn ?_
 refine NX.then_n ?_
 refine CP.cut (fun tm g => ∃ (q1 : Bool), Fr 26 [(4, .bool q1)] tm ∧ Step (fun l => NoM l ∨ t ≤ l) g0 g ∧ (F.baizeref32_SameState.c1 q1) = some o1) ?_ ?_
 ·refine CP.region ?_
  refine WP.stl 1 ?_
  refine WP.loadB (v := AG [encA .u8 d1]) hB1 (by kernel_rfl) (by kernel_rfl) ?_
  refine WP.stl 1 ?_
  refine WP.loadB (v := AG [encA .u8 d2]) hB2 (by kernel_rfl) (by kernel_rfl) ?_
  refine WP.eqV (by kernel_rfl) (by kernel_rfl) (EqV.arr (d := 9998) (t := 22) (e := 5) (m := 8) (k := .u8) (x := d1) (y := d2) (by kernel_rfl) (by kernel_rfl)) ?_
  refine WP.stl 1 ?_
  refine WP.guard 10 (b := (d1.1 == d2.1)) (by kernel_rfl) (fun h3 => ?_) (fun h3 => ?_)
  ·replace hs := of_if_t hs h3
   refine WP.stl 1 ?_
   refine WP.loadB (v := .int .i64 x1) hB1 (by kernel_rfl) (by kernel_rfl) ?_
   refine WP.stl 1 ?_
   refine WP.loadB (v := .int .i64 x2) hB2 (by kernel_rfl) (by kernel_rfl) ?_
   refine WP.stl 3 ?_
   refine WP.guard 17 (b := (x1 == x2)) (by kernel_rfl) (fun h4 => ?_) (fun h4 => ?_)
   ·replace hs := of_if_t hs h4
    refine WP.stl 1 ?_
    refine WP.loadB (v := .slice a1 n1 c1) hB1 (by kernel_rfl) (by kernel_rfl) ?_
    refine WP.toStr (a := a1) (cp := c1) hR1.src hR1.len (by kernel_rfl) ?_
    refine WP.stl 1 ?_
    refine WP.loadB (v := .slice a2 n2 c2) hB2 (by kernel_rfl) (by kernel_rfl) ?_
    refine WP.toStr (a := a2) (cp := c2) hR2.src hR2.len (by kernel_rfl) ?_
    refine WP.stl 3 ?_
    refine WP.dn ?_
    refine NX.post ?_
    exact ⟨((bytesStr l1).toList == (bytesStr l2).toList), ⟨by kernel_rfl, by kernel_rfl⟩, tot, hs⟩
   replace hs := of_if_f hs h4
   refine WP.stl 9 ?_
   refine WP.dn ?_
   refine NX.post ?_
   exact ⟨false, ⟨by kernel_rfl, by kernel_rfl⟩, tot, hs⟩
  replace hs := of_if_f hs h3
  refine WP.stl 16 ?_
  refine WP.dn ?_
  refine NX.post ?_
  exact ⟨false, ⟨by kernel_rfl, by kernel_rfl⟩, tot, hs⟩
 clear tot hs hB1 hR1 hB2 hR2
 rintro tm g ⟨q1, hF, tot, hs⟩
 clear ds
 obtain ⟨ds, rfl⟩ := hF.open
 clear hF
 unfold F.baizeref32_SameState.c1 at hs
 refine CP.ret ?_
 replace hs := Option.some.inj hs
 obtain rfl := hs
 exact NX.fin (v := .bool q1) (Res.still (by kernel_rfl)) tot htL rfl
def N.baizeref32_Same_0 : List (List Nat) := [[], [0], [], [0, 1, 2], [0, 1, 2, 3], [0, 1, 2, 3, 4], [], [6], [], [6, 7, 8], [6, 7, 8, 9], [6, 7, 8, 9, 10], [0, 1, 2, 3, 4, 5, 6, 7, 8, 9, 10, 11]]
def F.baizeref32_Same.l1 (l2 : List (List Int)) (l4 : List (List Int)) : Nat → Int → Option (Bool)
 | 0, _ => none
 | k + 1, x3 => (if decide (x3 < (l2.length : Int)) = true then (if (0 : Int) ≤ x3 ∧ x3 < (l2.length : Int) then (if (0 : Int) ≤ x3 ∧ x3 < (l4.length : Int) then (if (!((bytesStr (getI l2 x3)).toList == (bytesStr (getI l4 x3)).toList)) = true then (some false) else (F.baizeref32_Same.l1 l2 l4 k (IntKind.i64.wrap (x3 + 1)))) else none) else none) else (some true))
def F.baizeref32_Same.c1 (l2 : List (List Int)) (l4 : List (List Int)) (q2 : Bool) : Option (Bool) := (if q2 = true then (some false) else (F.baizeref32_Same.l1 l2 l4 fuel 0))
def F.baizeref32_Same (d1 : Arr Int 8) (x1 : Int) (l1 : List Int) (l2 : List (List Int)) (d2 : Arr Int 8) (x2 : Int) (l3 : List Int) (l4 : List (List Int)) : Option (Bool) := ((F.baizeref32_SameState d1 x1 l1 d2 x2 l3).bind fun q3 => (if (!q3) = true then (F.baizeref32_Same.c1 l2 l4 true) else (F.baizeref32_Same.c1 l2 l4 ((l2.length : Int) != (l4.length : Int)))))
theorem P.baizeref32_Same (g0 : GW) (d1 : Arr Int 8) (x1 : Int) (l1 : List Int) (l2 : List (List Int)) (d2 : Arr Int 8) (x2 : Int) (l3 : List Int) (l4 : List (List Int)) (a1 : Option Addr) (n1 : Nat) (c1 : Nat) (a2 : Option Addr) (n2 : Nat) (c2 : Nat) (a3 : Option Addr) (n3 : Nat) (c3 : Nat) (a4 : Option Addr) (n4 : Nat) (c4 : Nat) (hR1 : RdS (Kd.int .u8) g0 5 a1 n1 c1 l1) (hR2 : RdS (Kd.slice 5 (Kd.int .u8)) g0 24 a2 n2 c2 l2) (hR3 : RdS (Kd.int .u8) g0 5 a3 n3 c3 l3) (hR4 : RdS (Kd.slice 5 (Kd.int .u8)) g0 24 a4 n4 c4 l4) (o1 : Bool) (hs : F.baizeref32_Same d1 x1 l1 l2 d2 x2 l3 l4 = some o1) :
  Calls Try.prog 27 #[AG [encA .u8 d1, [.int .i64 x1], [.slice a1 n1 c1], [.slice a2 n2 c2]], AG [encA .u8 d2, [.int .i64 x2], [.slice a3 n3 c3], [.slice a4 n4 c4]]] g0.w (Ret NoM g0 fun v g => v = .bool o1) := by
 refine calls_of (args := [AG [encA .u8 d1, [.int .i64 x1], [.slice a1 n1 c1], [.slice a2 n2 c2]], AG [encA .u8 d2, [.int .i64 x2], [.slice a3 n3 c3], [.slice a4 n4 c4]]]) Try.func27 rfl (0) ?_
 intro t ht htL
 refine ⟨_, rfl, ?_⟩
 refine CP.refr 41 [(0, AG [encA .u8 d1, [.int .i64 x1], [.slice a1 n1 c1], [.slice a2 n2 c2]]), (1, AG [encA .u8 d2, [.int .i64 x2], [.slice a3 n3 c3], [.slice a4 n4 c4]])] (by kernel_rfl) (by kernel_rfl) ?_
 intro ds
 have tot : Step (fun l => NoM l ∨ t ≤ l) g0 g0 := Step.refl _ _
 unfold F.baizeref32_Same at hs
 refine CP.seqR ?_
 refine WP.alloc (T := 65) (t + 1) [encA .u8 d1, [.int .i64 x1], [.slice a1 n1 c1], [.slice a2 n2 c2]] [8, 1, 1, 1] (by kernel_rfl) (by simp [len_encA]) ?_
 intro g1 b1 st1 hB1
 replace hR1 := hR1.mono st1 (fun x => x)
 replace hR2 := hR2.mono st1 (fun x => x)
 replace hR3 := hR3.mono st1 (fun x => x)
 replace hR4 := hR4.mono st1 (fun x => x)
 replace tot := tot.trans st1.pure
 refine WP.alloc (T := 65) (t + 2) [encA .u8 d2, [.int .i64 x2], [.slice a3 n3 c3], [.slice a4 n4 c4]] [8, 1, 1, 1] (by kernel_rfl) (by simp [len_encA]) ?_
 intro g2 b2 st2 hB2
 replace hR1 := hR1.mono st2 (fun x => x)
 replace hR2 := hR2.mono st2 (fun x => x)
 replace hR3 := hR3.mono st2 (fun x => x)
 replace hR4 := hR4.mono st2 (fun x => x)
 replace hB1 := hB1.mono st2 (fun x => x)
 replace tot := tot.trans st2.pure
 refine WP.stl 1 ?_
 refine WP.dn ?_
 refine NX.then_n ?_
 refine CP.seq ?_
 refine CP.cut (fun tm g => ∃ (q2 : Bool), Fr 41 [(2, .pointer (some ⟨b1, 0, none⟩)), (3, .pointer (some ⟨b2, 0, none⟩)), (20, .bool q2)] tm ∧ Step (fun l => NoM l ∨ t ≤ l) g0 g ∧ Box g (t + 1) b1 65 [encA .u8 d1, [.int .i64 x1], [.slice a1 n1 c1], [.slice a2 n2 c2]] [8, 1, 1, 1] ∧ RdS (Kd.int .u8) g 5 a1 n1 c1 l1 ∧ RdS (Kd.slice 5 (Kd.int .u8)) g 24 a2 n2 c2 l2 ∧ Box g (t + 2) b2 65 [encA .u8 d2, [.int .i64 x2], [.slice a3 n3 c3], [.slice a4 n4 c4]] [8, 1, 1, 1] ∧ RdS (Kd.int .u8) g 5 a3 n3 c3 l3 ∧ RdS (Kd.slice 5 (Kd.int .u8)) g 24 a4 n4 c4 l4 ∧ (F.baizeref32_Same.c1 l2 l4 q2) = some o1) ?_ ?_
 ·refine CP.region ?_
  refine WP.stl 1 ?_
  refine WP.loadB (v := AG [encA .u8 d1, [.int .i64 x1], [.slice a1 n1 c1]]) hB1 (by kernel_rfl) (by kernel_rfl) ?_
  refine WP.stl 1 ?_
  refine WP.loadB (v := AG [encA .u8 d2, [.int .i64 x2], [.slice a3 n3 c3]]) hB2 (by kernel_rfl) (by kernel_rfl) ?_
  replace hs := Option.bind_eq_some_iff.1 hs
  obtain ⟨q3, hk2, hs⟩ := hs
  have hcal2 := P.baizeref32_SameState g2 d1 x1 l1 d2 x2 l3 a1 n1 c1 a3 n3 c3 hR1 hR3 q3 hk2
  refine WP.callC hcal2 (by kernel_rfl) ?_
  rintro _ g5 st5 rfl
  replace hB1 := hB1.mono st5 (fun x => x)
  replace hR1 := hR1.mono st5 (fun x => x)
  replace hR2 := hR2.mono st5 (fun x => x)
  replace hB2 := hB2.mono st5 (fun x => x)
  replace hR3 := hR3.mono st5 (fun x => x)
  replace hR4 := hR4.mono st5 (fun x => x)
  replace tot := tot.trans st5.pure
  refine WP.stl 2 ?_
  refine WP.guard 12 (b := (!q3)) (by kernel_rfl) (fun h9 => ?_) (fun h9 => ?_)
  ·replace hs := of_if_t hs h9
   refine WP.stl 8 ?_
   refine WP.dn ?_
   refine NX.post ?_
   exact ⟨true, ⟨by kernel_rfl, by kernel_rfl⟩, tot, hB1, hR1, hR2, hB2, hR3, hR4, hs⟩
  replace hs := of_if_f hs h9
  refine WP.stl 1 ?_
  refine WP.loadB (v := .slice a2 n2 c2) hB1 (by kernel_rfl) (by kernel_rfl) ?_
  refine WP.len (a := a2) (cp := c2) hR2.len (by kernel_rfl) ?_
  refine WP.stl 1 ?_
  refine WP.loadB (v := .slice a4 n4 c4) hB2 (by kernel_rfl) (by kernel_rfl) ?_
  refine WP.len (a := a4) (cp := c4) hR4.len (by kernel_rfl) ?_
  refine WP.stl 2 ?_
  refine WP.dn ?_
  refine NX.post ?_
  exact ⟨((l2.length : Int) != (l4.length : Int)), ⟨by kernel_rfl, by kernel_rfl⟩, tot, hB1, hR1, hR2, hB2, hR3, hR4, hs⟩
 clear tot hs hB1 hR1 hR2 hB2 hR3 hR4
 rintro tm g ⟨q2, hF, tot, hB1, hR1, hR2, hB2, hR3, hR4, hs⟩
 clear ds
 obtain ⟨ds, rfl⟩ := hF.open
 clear hF
 unfold F.baizeref32_Same.c1 at hs
 refine CP.cond (b := q2) (by kernel_rfl) (fun h2 => ?_) (fun h2 => ?_)
 ·replace hs := of_if_t hs h2
  refine CP.seqR ?_
  refine WP.stl 1 ?_
  refine WP.dn ?_
  refine NX.then_n ?_
  refine CP.ret ?_
  refine NX.then_r ?_
  replace hs := Option.some.inj hs
  obtain rfl := hs
  exact NX.fin (v := .bool false) (Res.still (by kernel_rfl)) tot htL rfl
 replace hs := of_if_f hs h2
 refine CP.skip ?_
 refine NX.then_n ?_
 refine CP.seq ?_
 refine CP.seqR ?_
 refine WP.stl 1 ?_
 refine WP.dn ?_
 refine NX.then_n ?_
 refine CP.block ?_
 generalize fuel = k1 at hs
 refine CP.loop (fun k1 tm g => ∃ (x3 : Int), Fr 41 [(2, .pointer (some ⟨b1, 0, none⟩)), (3, .pointer (some ⟨b2, 0, none⟩)), (5, .int .i64 x3)] tm ∧ Step (fun l => NoM l ∨ t ≤ l) g0 g ∧ Box g (t + 1) b1 65 [encA .u8 d1, [.int .i64 x1], [.slice a1 n1 c1], [.slice a2 n2 c2]] [8, 1, 1, 1] ∧ RdS (Kd.int .u8) g 5 a1 n1 c1 l1 ∧ RdS (Kd.slice 5 (Kd.int .u8)) g 24 a2 n2 c2 l2 ∧ Box g (t + 2) b2 65 [encA .u8 d2, [.int .i64 x2], [.slice a3 n3 c3], [.slice a4 n4 c4]] [8, 1, 1, 1] ∧ RdS (Kd.int .u8) g 5 a3 n3 c3 l3 ∧ RdS (Kd.slice 5 (Kd.int .u8)) g 24 a4 n4 c4 l4 ∧ F.baizeref32_Same.l1 l2 l4 k1 x3 = some o1) k1 ?_ ?_ ?_
 ·exact ⟨0, ⟨by kernel_rfl, by kernel_rfl⟩, tot, hB1, hR1, hR2, hB2, hR3, hR4, hs⟩
 ·rintro tm g ⟨x3, hF, tot, hB1, hR1, hR2, hB2, hR3, hR4, hs⟩
  exact absurd hs (by simp [F.baizeref32_Same.l1])
 clear tot hs hB1 hR1 hR2 hB2 hR3 hR4
 rintro k1 tm g ⟨x3, hF, tot, hB1, hR1, hR2, hB2, hR3, hR4, hs⟩
 clear ds
 obtain ⟨ds, rfl⟩ := hF.open
 clear hF
 unfold F.baizeref32_Same.l1 at hs
 refine CP.seq ?_
 refine CP.seqR ?_
 refine WP.stl 2 ?_
 refine WP.loadB (v := .slice a2 n2 c2) hB1 (by kernel_rfl) (by kernel_rfl) ?_
 refine WP.len (a := a2) (cp := c2) hR2.len (by kernel_rfl) ?_
 refine WP.stl 1 ?_
 refine WP.dn ?_
 refine NX.then_n ?_
 refine CP.cond (b := decide (x3 < (l2.length : Int))) (by kernel_rfl) (fun h7 => ?_) (fun h7 => ?_)
 ·replace hs := of_if_t hs h7
  refine CP.skip ?_
  refine NX.then_n ?_
  refine CP.seq ?_
  refine CP.block ?_
  refine CP.seq ?_
  by_cases hc5 : (0 : Int) ≤ x3 ∧ x3 < (l2.length : Int)
  case neg => rw [if_neg hc5] at hs; cases hs
  replace hs := of_if_p hs hc5
  by_cases hc6 : (0 : Int) ≤ x3 ∧ x3 < (l4.length : Int)
  case neg => rw [if_neg hc6] at hs; cases hs
  replace hs := of_if_p hs hc6
  obtain ⟨b7, u5, ha5⟩ := hR2.at hc5
  obtain ⟨b8, u6, ha6⟩ := hR4.at hc6
  refine CP.drawL (by kernel_rfl) [1, 3, 4, 5, 7, 9, 10, 11] N.baizeref32_Same_0 [⟨none, [], [], fun l g => Box g (t + 1) b1 65 [encA .u8 d1, [.int .i64 x1], [.slice a1 n1 c1], [.slice a2 n2 c2]] [8, 1, 1, 1]⟩, ⟨none, [], [], fun l g => RdS (Kd.slice 5 (Kd.int .u8)) g 24 a2 n2 c2 l2⟩, ⟨none, [], [], fun l g => Box g (t + 2) b2 65 [encA .u8 d2, [.int .i64 x2], [.slice a3 n3 c3], [.slice a4 n4 c4]] [8, 1, 1, 1]⟩, ⟨none, [], [], fun l g => RdS (Kd.slice 5 (Kd.int .u8)) g 24 a4 n4 c4 l4⟩, ⟨some 0, [], [0], fun l g => l.getD 0 undef = .slice a2 n2 c2⟩, ⟨some 1, [], [1], fun l g => l.getD 0 undef = .pointer (some ⟨b7, u5 + x3.toNat * 1, none⟩)⟩, ⟨some 2, [], [2], fun l g => ∃ (a9 : Option Addr) (c9 : Nat), l.getD 0 undef = .slice a9 ((getI l2 x3).length) c9 ∧ RdS (Kd.int .u8) g 5 a9 ((getI l2 x3).length) c9 (getI l2 x3)⟩, ⟨some 3, [], [3], fun l g => l.getD 0 undef = .string (bytesStr (getI l2 x3))⟩, ⟨some 4, [], [4], fun l g => l.getD 0 undef = .slice a4 n4 c4⟩, ⟨some 5, [], [5], fun l g => l.getD 0 undef = .pointer (some ⟨b8, u6 + x3.toNat * 1, none⟩)⟩, ⟨some 6, [], [6], fun l g => ∃ (a10 : Option Addr) (c10 : Nat), l.getD 0 undef = .slice a10 ((getI l4 x3).length) c10 ∧ RdS (Kd.int .u8) g 5 a10 ((getI l4 x3).length) c10 (getI l4 x3)⟩, ⟨some 7, [], [7], fun l g => l.getD 0 undef = .string (bytesStr (getI l4 x3))⟩] [[], [], [], [], [], [], [], []] [] [0, 2, 6, 8] [12] (by kernel_rfl) (by simp) (by simp) ⟨fun _ _ _ _ st h0 hl hj hB1 => (hB1.mono st (fun h => absurd (hl _ h) (by simp))), fun _ _ _ _ st h0 hl hj hR2 => (RdS.mono (e := 24) hR2 st h0), fun _ _ _ _ st h0 hl hj hB2 => (hB2.mono st (fun h => absurd (hl _ h) (by simp))), fun _ _ _ _ st h0 hl hj hR4 => (RdS.mono (e := 24) hR4 st h0), fun _ _ _ _ st h0 hl hj e0 => e0, fun _ _ _ _ st h0 hl hj e1 => e1, fun _ _ _ _ st h0 hl hj ⟨a9, c9, e2, hR9⟩ => ⟨a9, c9, e2, (RdS.mono (e := 5) hR9 st h0)⟩, fun _ _ _ _ st h0 hl hj e3 => e3, fun _ _ _ _ st h0 hl hj e4 => e4, fun _ _ _ _ st h0 hl hj e5 => e5, fun _ _ _ _ st h0 hl hj ⟨a10, c10, e6, hR10⟩ => ⟨a10, c10, e6, (RdS.mono (e := 5) hR10 st h0)⟩, fun _ _ _ _ st h0 hl hj e7 => e7, tv⟩ ⟨hB1, hR2, hB2, hR4, tv, tv, tv, tv, tv, tv, tv, tv, tv⟩ (by kernel_rfl) (fun vs => by kernel_rfl) ?_ ?_ ?_
  ·intro j hj
   have hq : j = 0 := by have h : j < 1 := hj; omega
   rcases hq with rfl
   ·intro vs gq stq hl hf
    obtain ⟨v0, v1, v2, v3, v4, v5, v6, v7, rfl⟩ := len_k8 hl
    have e3 := (show v3 = .string (bytesStr (getI l2 x3)) from hf _ (memI 7 rfl) (by kernel_rfl))
    subst e3
    have e7 := (show v7 = .string (bytesStr (getI l4 x3)) from hf _ (memI 11 rfl) (by kernel_rfl))
    subst e7
    show Option.isSome _ = true
    kernel_rfl
  ·intro j hj
   have hq : j = 0 ∨ j = 1 ∨ j = 2 ∨ j = 3 ∨ j = 4 ∨ j = 5 ∨ j = 6 ∨ j = 7 := by have h : j < 8 := hj; omega
   rcases hq with rfl | rfl | rfl | rfl | rfl | rfl | rfl | rfl
   ·intro vs gq stq hl hf
    obtain ⟨v0, v1, v2, v3, v4, v5, v6, v7, rfl⟩ := len_k8 hl
    have hB1 := (show Box gq (t + 1) b1 65 [encA .u8 d1, [.int .i64 x1], [.slice a1 n1 c1], [.slice a2 n2 c2]] [8, 1, 1, 1] from hf _ (memI 0 rfl) (by kernel_rfl))
    refine WP.loadB (v := .slice a2 n2 c2) hB1 (by kernel_rfl) (by kernel_rfl) ?_
    refine WP.dn (Shown.ok (v := .slice a2 n2 c2) (by kernel_rfl) (Step.refl _ _) ?_)
    exact ⟨tv, tv, tv, tv, rfl, tv, tv, tv, tv, tv, tv, tv, tv⟩
   ·intro vs gq stq hl hf
    obtain ⟨v0, v1, v2, v3, v4, v5, v6, v7, rfl⟩ := len_k8 hl
    have hR2 := (show RdS (Kd.slice 5 (Kd.int .u8)) gq 24 a2 n2 c2 l2 from hf _ (memI 1 rfl) (by kernel_rfl))
    have e0 := (show v0 = .slice a2 n2 c2 from hf _ (memI 4 rfl) (by kernel_rfl))
    subst e0
    refine WP.indexA (t := 42) (e := 24) (sz := 1) (cap := c2) (k := .i64) (i := x3) hR2.len ha5 (by kernel_rfl) (by kernel_rfl) hc5 ?_
    refine WP.dn (Shown.ok (v := .pointer (some ⟨b7, u5 + x3.toNat * 1, none⟩)) (by kernel_rfl) (Step.refl _ _) ?_)
    exact ⟨tv, tv, tv, tv, tv, rfl, tv, tv, tv, tv, tv, tv, tv⟩
   ·intro vs gq stq hl hf
    obtain ⟨v0, v1, v2, v3, v4, v5, v6, v7, rfl⟩ := len_k8 hl
    have hR2 := (show RdS (Kd.slice 5 (Kd.int .u8)) gq 24 a2 n2 c2 l2 from hf _ (memI 1 rfl) (by kernel_rfl))
    have e1 := (show v1 = .pointer (some ⟨b7, u5 + x3.toNat * 1, none⟩) from hf _ (memI 5 rfl) (by kernel_rfl))
    subst e1
    obtain ⟨cs5, hcR5, hcV5⟩ := hR2.src.view (getI_some hc5) ha5
    obtain ⟨a9, n9, c9, hcR5, hR9⟩ := Kd.o_sl hcR5
    refine WP.loadV [[.slice a9 n9 c9]] [1] hcV5 hcR5 rfl (f := 0) (ty := 24) (agg := false) (size := 1) (rs := [[.slice a9 n9 c9]]) (v := .slice a9 n9 c9) (by kernel_rfl) (by kernel_rfl) (by kernel_rfl) (by kernel_rfl) ?_
    obtain rfl := hR9.len
    refine WP.dn (Shown.ok (v := .slice a9 ((getI l2 x3).length) c9) (by kernel_rfl) (Step.refl _ _) ?_)
    exact ⟨tv, tv, tv, tv, tv, tv, ⟨a9, c9, rfl, hR9⟩, tv, tv, tv, tv, tv, tv⟩
   ·intro vs gq stq hl hf
    obtain ⟨v0, v1, v2, v3, v4, v5, v6, v7, rfl⟩ := len_k8 hl
    obtain ⟨a9, c9, e2, hR9⟩ := (show ∃ (a9 : Option Addr) (c9 : Nat), v2 = .slice a9 ((getI l2 x3).length) c9 ∧ RdS (Kd.int .u8) gq 5 a9 ((getI l2 x3).length) c9 (getI l2 x3) from hf _ (memI 6 rfl) (by kernel_rfl))
    subst e2
    refine WP.toStr (a := a9) (cp := c9) hR9.src hR9.len (by kernel_rfl) ?_
    refine WP.dn (Shown.ok (v := .string (bytesStr (getI l2 x3))) (by kernel_rfl) (Step.refl _ _) ?_)
    exact ⟨tv, tv, tv, tv, tv, tv, tv, rfl, tv, tv, tv, tv, tv⟩
   ·intro vs gq stq hl hf
    obtain ⟨v0, v1, v2, v3, v4, v5, v6, v7, rfl⟩ := len_k8 hl
    have hB2 := (show Box gq (t + 2) b2 65 [encA .u8 d2, [.int .i64 x2], [.slice a3 n3 c3], [.slice a4 n4 c4]] [8, 1, 1, 1] from hf _ (memI 2 rfl) (by kernel_rfl))
    refine WP.loadB (v := .slice a4 n4 c4) hB2 (by kernel_rfl) (by kernel_rfl) ?_
    refine WP.dn (Shown.ok (v := .slice a4 n4 c4) (by kernel_rfl) (Step.refl _ _) ?_)
    exact ⟨tv, tv, tv, tv, tv, tv, tv, tv, rfl, tv, tv, tv, tv⟩
   ·intro vs gq stq hl hf
    obtain ⟨v0, v1, v2, v3, v4, v5, v6, v7, rfl⟩ := len_k8 hl
    have hR4 := (show RdS (Kd.slice 5 (Kd.int .u8)) gq 24 a4 n4 c4 l4 from hf _ (memI 3 rfl) (by kernel_rfl))
    have e4 := (show v4 = .slice a4 n4 c4 from hf _ (memI 8 rfl) (by kernel_rfl))
    subst e4
    refine WP.indexA (t := 42) (e := 24) (sz := 1) (cap := c4) (k := .i64) (i := x3) hR4.len ha6 (by kernel_rfl) (by kernel_rfl) hc6 ?_
    refine WP.dn (Shown.ok (v := .pointer (some ⟨b8, u6 + x3.toNat * 1, none⟩)) (by kernel_rfl) (Step.refl _ _) ?_)
    exact ⟨tv, tv, tv, tv, tv, tv, tv, tv, tv, rfl, tv, tv, tv⟩
   ·intro vs gq stq hl hf
    obtain ⟨v0, v1, v2, v3, v4, v5, v6, v7, rfl⟩ := len_k8 hl
    have hR4 := (show RdS (Kd.slice 5 (Kd.int .u8)) gq 24 a4 n4 c4 l4 from hf _ (memI 3 rfl) (by kernel_rfl))
    have e5 := (show v5 = .pointer (some ⟨b8, u6 + x3.toNat * 1, none⟩) from hf _ (memI 9 rfl) (by kernel_rfl))
    subst e5
    obtain ⟨cs6, hcR6, hcV6⟩ := hR4.src.view (getI_some hc6) ha6
    obtain ⟨a10, n10, c10, hcR6, hR10⟩ := Kd.o_sl hcR6
    refine WP.loadV [[.slice a10 n10 c10]] [1] hcV6 hcR6 rfl (f := 0) (ty := 24) (agg := false) (size := 1) (rs := [[.slice a10 n10 c10]]) (v := .slice a10 n10 c10) (by kernel_rfl) (by kernel_rfl) (by kernel_rfl) (by kernel_rfl) ?_
    obtain rfl := hR10.len
    refine WP.dn (Shown.ok (v := .slice a10 ((getI l4 x3).length) c10) (by kernel_rfl) (Step.refl _ _) ?_)
    exact ⟨tv, tv, tv, tv, tv, tv, tv, tv, tv, tv, ⟨a10, c10, rfl, hR10⟩, tv, tv⟩
   ·intro vs gq stq hl hf
    obtain ⟨v0, v1, v2, v3, v4, v5, v6, v7, rfl⟩ := len_k8 hl
    obtain ⟨a10, c10, e6, hR10⟩ := (show ∃ (a10 : Option Addr) (c10 : Nat), v6 = .slice a10 ((getI l4 x3).length) c10 ∧ RdS (Kd.int .u8) gq 5 a10 ((getI l4 x3).length) c10 (getI l4 x3) from hf _ (memI 10 rfl) (by kernel_rfl))
    subst e6
    refine WP.toStr (a := a10) (cp := c10) hR10.src hR10.len (by kernel_rfl) ?_
    refine WP.dn (Shown.ok (v := .string (bytesStr (getI l4 x3))) (by kernel_rfl) (Step.refl _ _) ?_)
    exact ⟨tv, tv, tv, tv, tv, tv, tv, tv, tv, tv, tv, rfl, tv⟩
  intro vs g4 st4 hl hf
  obtain ⟨v0, v1, v2, v3, v4, v5, v6, v7, rfl⟩ := len_k8 hl
  have e3 := (show v3 = .string (bytesStr (getI l2 x3)) from hf _ (memI 7 rfl) (by kernel_rfl))
  subst e3
  have e7 := (show v7 = .string (bytesStr (getI l4 x3)) from hf _ (memI 11 rfl) (by kernel_rfl))
  subst e7
  replace hB1 := hB1.mono st4.toNo (fun x => x)
  replace hR1 := hR1.mono st4.toNo (fun x => x)
  replace hR2 := hR2.mono st4.toNo (fun x => x)
  replace hB2 := hB2.mono st4.toNo (fun x => x)
  replace hR3 := hR3.mono st4.toNo (fun x => x)
  replace hR4 := hR4.mono st4.toNo (fun x => x)
  replace tot := tot.trans st4.toNo.pure
  refine NX.then_n ?_
  refine CP.refr 41 [(2, .pointer (some ⟨b1, 0, none⟩)), (3, .pointer (some ⟨b2, 0, none⟩)), (5, .int .i64 x3), (40, .bool (!((bytesStr (getI l2 x3)).toList == (bytesStr (getI l4 x3)).toList)))] (by kernel_rfl) (by kernel_rfl) ?_
  clear ds
  intro ds
  refine CP.cond (b := (!((bytesStr (getI l2 x3)).toList == (bytesStr (getI l4 x3)).toList))) (by kernel_rfl) (fun h8 => ?_) (fun h8 => ?_)
  ·replace hs := of_if_t hs h8
   refine CP.seqR ?_
   refine WP.stl 1 ?_
   refine WP.dn ?_
   refine NX.then_n ?_
   refine CP.ret ?_
   refine NX.block_r ?_
   refine NX.then_r ?_
   refine NX.then_r ?_
   refine NX.block_r ?_
   refine NX.then_r ?_
   replace hs := Option.some.inj hs
   obtain rfl := hs
   exact NX.fin (v := .bool false) (Res.still (by kernel_rfl)) tot htL rfl
  replace hs := of_if_f hs h8
  refine CP.skip ?_
  refine NX.block_n ?_
  refine NX.then_n ?_
  refine CP.region ?_
  refine WP.stl 3 ?_
  refine WP.dn ?_
  refine NX.post ?_
  exact ⟨(IntKind.i64.wrap (x3 + 1)), ⟨by kernel_rfl, by kernel_rfl⟩, tot, hB1, hR1, hR2, hB2, hR3, hR4, hs⟩
 replace hs := of_if_f hs h7
 refine CP.exit ?_
 refine NX.then_e ?_
 refine NX.then_e ?_
 refine NX.block_s ?_
 refine NX.then_n ?_
 refine CP.seqR ?_
 refine WP.stl 1 ?_
 refine WP.dn ?_
 refine NX.then_n ?_
 refine CP.ret ?_
 replace hs := Option.some.inj hs
 obtain rfl := hs
 exact NX.fin (v := .bool true) (Res.still (by kernel_rfl)) tot htL rfl
def N.slices_Equal_byte_byte_0 : List (List Nat) := [[], [], [0, 1], [0, 1, 2], [], [], [4, 5], [4, 5, 6], [0, 1, 2, 3, 4, 5, 6, 7]]
def F.slices_Equal_byte_byte.l1 (l1 : List Int) (l2 : List Int) : Nat → Int → Option (Bool)
 | 0, _ => none
 | k + 1, x1 => (if decide (x1 < (l1.length : Int)) = true then (if (0 : Int) ≤ x1 ∧ x1 < (l1.length : Int) then (if (0 : Int) ≤ x1 ∧ x1 < (l2.length : Int) then (if ((getI l1 x1) != (getI l2 x1)) = true then (some false) else (F.slices_Equal_byte_byte.l1 l1 l2 k (IntKind.i64.wrap (x1 + 1)))) else none) else none) else (some true))
def F.slices_Equal_byte_byte (l1 : List Int) (l2 : List Int) : Option (Bool) := (if ((l1.length : Int) != (l2.length : Int)) = true then (some false) else (F.slices_Equal_byte_byte.l1 l1 l2 fuel 0))
theorem P.slices_Equal_byte_byte (g0 : GW) (l1 : List Int) (l2 : List Int) (a1 : Option Addr) (n1 : Nat) (c1 : Nat) (a2 : Option Addr) (n2 : Nat) (c2 : Nat) (hR1 : RdS (Kd.int .u8) g0 5 a1 n1 c1 l1) (hR2 : RdS (Kd.int .u8) g0 5 a2 n2 c2 l2) (o1 : Bool) (hs : F.slices_Equal_byte_byte l1 l2 = some o1) :
  Calls Try.prog 48 #[.slice a1 n1 c1, .slice a2 n2 c2] g0.w (Ret NoM g0 fun v g => v = .bool o1) := by
 refine calls_of (args := [.slice a1 n1 c1, .slice a2 n2 c2]) Try.func48 rfl (0) ?_
 intro t ht htL
 refine ⟨_, rfl, ?_⟩
 refine CP.refr 26 [(0, .slice a1 n1 c1), (1, .slice a2 n2 c2)] (by kernel_rfl) (by kernel_rfl) ?_
 intro ds
 have tot : Step (fun l => NoM l ∨ t ≤ l) g0 g0 := Step.refl _ _
 unfold F.slices_Equal_byte_byte at hs
 refine CP.seqR ?_
 refine WP.stl 1 ?_
 refine WP.dn ?_
 refine NX.then_n ?_
 refine CP.seq ?_
 refine CP.seqR ?_
 refine WP.stl 1 ?_
 refine WP.len (a := a1) (cp := c1) hR1.len (by kernel_rfl) ?_
 refine WP.stl 1 ?_
 refine WP.len (a := a2) (cp := c2) hR2.len (by kernel_rfl) ?_
 refine WP.stl 1 ?_
 refine WP.dn ?_
 refine NX.then_n ?_
 refine CP.cond (b := ((l1.length : Int) != (l2.length : Int))) (by kernel_rfl) (fun h1 => ?_) (fun h1 => ?_)
 ·replace hs := of_if_t hs h1
  refine CP.seqR ?_
  refine WP.stl 1 ?_
  refine WP.dn ?_
  refine NX.then_n ?_
  refine CP.ret ?_
  refine NX.then_r ?_
  replace hs := Option.some.inj hs
  obtain rfl := hs
  exact NX.fin (v := .bool false) (Res.still (by kernel_rfl)) tot htL rfl
 replace hs := of_if_f hs h1
 refine CP.skip ?_
 refine NX.then_n ?_
 refine CP.seq ?_
 refine CP.seqR ?_
 refine WP.stl 1 ?_
 refine WP.len (a := a1) (cp := c1) hR1.len (by kernel_rfl) ?_
 refine WP.stl 1 ?_
 refine WP.dn ?_
 refine NX.then_n ?_
 refine CP.block ?_
 generalize fuel = k1 at hs
 refine CP.loop (fun k1 tm g => ∃ (x1 : Int), Fr 26 [(0, .slice a1 n1 c1), (1, .slice a2 n2 c2), (12, .int .i64 (l1.length : Int)), (13, .int .i64 x1)] tm ∧ Step (fun l => NoM l ∨ t ≤ l) g0 g ∧ RdS (Kd.int .u8) g 5 a1 n1 c1 l1 ∧ RdS (Kd.int .u8) g 5 a2 n2 c2 l2 ∧ F.slices_Equal_byte_byte.l1 l1 l2 k1 x1 = some o1) k1 ?_ ?_ ?_
 ·exact ⟨0, ⟨by kernel_rfl, by kernel_rfl⟩, tot, hR1, hR2, hs⟩
 ·rintro tm g ⟨x1, hF, tot, hR1, hR2, hs⟩
  exact absurd hs (by simp [F.slices_Equal_byte_byte.l1])
 clear tot hs hR1 hR2
 rintro k1 tm g ⟨x1, hF, tot, hR1, hR2, hs⟩
 clear ds
 obtain ⟨ds, rfl⟩ := hF.open
 clear hF
 unfold F.slices_Equal_byte_byte.l1 at hs
 refine CP.seqR ?_
 refine WP.stl 1 ?_
 refine WP.dn ?_
 refine NX.then_n ?_
 refine CP.seq ?_
 refine CP.cond (b := decide (x1 < (l1.length : Int))) (by kernel_rfl) (fun h6 => ?_) (fun h6 => ?_)
 ·replace hs := of_if_t hs h6
  refine CP.skip ?_
  refine NX.then_n ?_
  refine CP.seq ?_
  refine CP.block ?_
  refine CP.seqR ?_
  refine WP.stl 2 ?_
  refine WP.dn ?_
  refine NX.then_n ?_
  refine CP.seq ?_
  by_cases hc5 : (0 : Int) ≤ x1 ∧ x1 < (l1.length : Int)
  case neg => rw [if_neg hc5] at hs; cases hs
  replace hs := of_if_p hs hc5
  by_cases hc6 : (0 : Int) ≤ x1 ∧ x1 < (l2.length : Int)
  case neg => rw [if_neg hc6] at hs; cases hs
  replace hs := of_if_p hs hc6
  obtain ⟨b5, u5, ha5⟩ := hR1.at hc5
  obtain ⟨b6, u6, ha6⟩ := hR2.at hc6
  refine CP.drawL (by kernel_rfl) [2, 3, 6, 7] N.slices_Equal_byte_byte_0 [⟨none, [], [], fun l g => RdS (Kd.int .u8) g 5 a1 n1 c1 l1⟩, ⟨none, [], [], fun l g => RdS (Kd.int .u8) g 5 a2 n2 c2 l2⟩, ⟨some 0, [], [0], fun l g => l.getD 0 undef = .pointer (some ⟨b5, u5 + x1.toNat * 1, none⟩)⟩, ⟨some 1, [], [1], fun l g => l.getD 0 undef = .int .u8 (getI l1 x1)⟩, ⟨some 2, [], [2], fun l g => l.getD 0 undef = .pointer (some ⟨b6, u6 + x1.toNat * 1, none⟩)⟩, ⟨some 3, [], [3], fun l g => l.getD 0 undef = .int .u8 (getI l2 x1)⟩] [[], [], [], []] [] [0, 1, 4, 5] [8] (by kernel_rfl) (by simp) (by simp) ⟨fun _ _ _ _ st h0 hl hj hR1 => (RdS.mono (e := 5) hR1 st h0), fun _ _ _ _ st h0 hl hj hR2 => (RdS.mono (e := 5) hR2 st h0), fun _ _ _ _ st h0 hl hj e0 => e0, fun _ _ _ _ st h0 hl hj e1 => e1, fun _ _ _ _ st h0 hl hj e2 => e2, fun _ _ _ _ st h0 hl hj e3 => e3, tv⟩ ⟨hR1, hR2, tv, tv, tv, tv, tv⟩ (by kernel_rfl) (fun vs => by kernel_rfl) ?_ ?_ ?_
  ·intro j hj
   have hq : j = 0 := by have h : j < 1 := hj; omega
   rcases hq with rfl
   ·intro vs gq stq hl hf
    obtain ⟨v0, v1, v2, v3, rfl⟩ := len_k4 hl
    have e1 := (show v1 = .int .u8 (getI l1 x1) from hf _ (memI 3 rfl) (by kernel_rfl))
    subst e1
    have e3 := (show v3 = .int .u8 (getI l2 x1) from hf _ (memI 5 rfl) (by kernel_rfl))
    subst e3
    show Option.isSome _ = true
    kernel_rfl
  ·intro j hj
   have hq : j = 0 ∨ j = 1 ∨ j = 2 ∨ j = 3 := by have h : j < 4 := hj; omega
   rcases hq with rfl | rfl | rfl | rfl
   ·intro vs gq stq hl hf
    obtain ⟨v0, v1, v2, v3, rfl⟩ := len_k4 hl
    have hR1 := (show RdS (Kd.int .u8) gq 5 a1 n1 c1 l1 from hf _ (memI 0 rfl) (by kernel_rfl))
    refine WP.indexA (t := 24) (e := 5) (sz := 1) (cap := c1) (k := .i64) (i := x1) hR1.len ha5 (by kernel_rfl) (by kernel_rfl) hc5 ?_
    refine WP.dn (Shown.ok (v := .pointer (some ⟨b5, u5 + x1.toNat * 1, none⟩)) (by kernel_rfl) (Step.refl _ _) ?_)
    exact ⟨tv, tv, rfl, tv, tv, tv, tv⟩
   ·intro vs gq stq hl hf
    obtain ⟨v0, v1, v2, v3, rfl⟩ := len_k4 hl
    have hR1 := (show RdS (Kd.int .u8) gq 5 a1 n1 c1 l1 from hf _ (memI 0 rfl) (by kernel_rfl))
    have e0 := (show v0 = .pointer (some ⟨b5, u5 + x1.toNat * 1, none⟩) from hf _ (memI 2 rfl) (by kernel_rfl))
    subst e0
    obtain ⟨cs5, hcR5, hcV5⟩ := hR1.src.view (getI_some hc5) ha5
    replace hcR5 := Kd.o_int hcR5
    refine WP.loadV [[.int .u8 (getI l1 x1)]] [1] hcV5 hcR5 rfl (f := 0) (ty := 5) (agg := false) (size := 1) (rs := [[.int .u8 (getI l1 x1)]]) (v := .int .u8 (getI l1 x1)) (by kernel_rfl) (by kernel_rfl) (by kernel_rfl) (by kernel_rfl) ?_
    refine WP.dn (Shown.ok (v := .int .u8 (getI l1 x1)) (by kernel_rfl) (Step.refl _ _) ?_)
    exact ⟨tv, tv, tv, rfl, tv, tv, tv⟩
   ·intro vs gq stq hl hf
    obtain ⟨v0, v1, v2, v3, rfl⟩ := len_k4 hl
    have hR2 := (show RdS (Kd.int .u8) gq 5 a2 n2 c2 l2 from hf _ (memI 1 rfl) (by kernel_rfl))
    refine WP.indexA (t := 24) (e := 5) (sz := 1) (cap := c2) (k := .i64) (i := x1) hR2.len ha6 (by kernel_rfl) (by kernel_rfl) hc6 ?_
    refine WP.dn (Shown.ok (v := .pointer (some ⟨b6, u6 + x1.toNat * 1, none⟩)) (by kernel_rfl) (Step.refl _ _) ?_)
    exact ⟨tv, tv, tv, tv, rfl, tv, tv⟩
   ·intro vs gq stq hl hf
    obtain ⟨v0, v1, v2, v3, rfl⟩ := len_k4 hl
    have hR2 := (show RdS (Kd.int .u8) gq 5 a2 n2 c2 l2 from hf _ (memI 1 rfl) (by kernel_rfl))
    have e2 := (show v2 = .pointer (some ⟨b6, u6 + x1.toNat * 1, none⟩) from hf _ (memI 4 rfl) (by kernel_rfl))
    subst e2
    obtain ⟨cs6, hcR6, hcV6⟩ := hR2.src.view (getI_some hc6) ha6
    replace hcR6 := Kd.o_int hcR6
    refine WP.loadV [[.int .u8 (getI l2 x1)]] [1] hcV6 hcR6 rfl (f := 0) (ty := 5) (agg := false) (size := 1) (rs := [[.int .u8 (getI l2 x1)]]) (v := .int .u8 (getI l2 x1)) (by kernel_rfl) (by kernel_rfl) (by kernel_rfl) (by kernel_rfl) ?_
    refine WP.dn (Shown.ok (v := .int .u8 (getI l2 x1)) (by kernel_rfl) (Step.refl _ _) ?_)
    exact ⟨tv, tv, tv, tv, tv, rfl, tv⟩
  intro vs g1 st1 hl hf
  obtain ⟨v0, v1, v2, v3, rfl⟩ := len_k4 hl
  have e1 := (show v1 = .int .u8 (getI l1 x1) from hf _ (memI 3 rfl) (by kernel_rfl))
  subst e1
  have e3 := (show v3 = .int .u8 (getI l2 x1) from hf _ (memI 5 rfl) (by kernel_rfl))
  subst e3
  replace hR1 := hR1.mono st1.toNo (fun x => x)
  replace hR2 := hR2.mono st1.toNo (fun x => x)
  replace tot := tot.trans st1.toNo.pure
  refine NX.then_n ?_
  refine CP.refr 26 [(0, .slice a1 n1 c1), (1, .slice a2 n2 c2), (12, .int .i64 (l1.length : Int)), (13, .int .i64 x1), (24, .bool ((getI l1 x1) != (getI l2 x1)))] (by kernel_rfl) (by kernel_rfl) ?_
  clear ds
  intro ds
  refine CP.cond (b := ((getI l1 x1) != (getI l2 x1))) (by kernel_rfl) (fun h7 => ?_) (fun h7 => ?_)
  ·replace hs := of_if_t hs h7
   refine CP.seqR ?_
   refine WP.stl 1 ?_
   refine WP.dn ?_
   refine NX.then_n ?_
   refine CP.ret ?_
   refine NX.block_r ?_
   refine NX.then_r ?_
   refine NX.then_r ?_
   refine NX.block_r ?_
   refine NX.then_r ?_
   replace hs := Option.some.inj hs
   obtain rfl := hs
   exact NX.fin (v := .bool false) (Res.still (by kernel_rfl)) tot htL rfl
  replace hs := of_if_f hs h7
  refine CP.skip ?_
  refine NX.block_n ?_
  refine NX.then_n ?_
  refine CP.region ?_
  refine WP.stl 2 ?_
  refine WP.dn ?_
  refine NX.post ?_
  exact ⟨(IntKind.i64.wrap (x1 + 1)), ⟨by kernel_rfl, by kernel_rfl⟩, tot, hR1, hR2, hs⟩
 replace hs := of_if_f hs h6
 refine CP.exit ?_
 refine NX.then_e ?_
 refine NX.then_e ?_
 refine NX.block_s ?_
 refine NX.then_n ?_
 refine CP.seqR ?_
 refine WP.stl 1 ?_
 refine WP.dn ?_
 refine NX.then_n ?_
 refine CP.ret ?_
 replace hs := Option.some.inj hs
 obtain rfl := hs
 exact NX.fin (v := .bool true) (Res.still (by kernel_rfl)) tot htL rfl
def F.state_same.c1 (q2 : Bool) : Option (Bool) := (some q2)
def F.state_same (d1 : Arr Int 8) (x1 : Int) (l1 : List Int) (d2 : Arr Int 8) (x2 : Int) (l2 : List Int) : Option (Bool) := (if (d1.1 == d2.1) = true then (if (x1 == x2) = true then ((F.slices_Equal_byte_byte l1 l2).bind fun q3 => (F.state_same.c1 q3)) else (F.state_same.c1 false)) else (F.state_same.c1 false))
theorem P.state_same (g0 : GW) (d1 : Arr Int 8) (x1 : Int) (l1 : List Int) (d2 : Arr Int 8) (x2 : Int) (l2 : List Int) (a1 : Option Addr) (n1 : Nat) (c1 : Nat) (a2 : Option Addr) (n2 : Nat) (c2 : Nat) (hR1 : RdS (Kd.int .u8) g0 5 a1 n1 c1 l1) (hR2 : RdS (Kd.int .u8) g0 5 a2 n2 c2 l2) (o1 : Bool) (hs : F.state_same d1 x1 l1 d2 x2 l2 = some o1) :
  Calls Try.prog 44 #[AG [encA .u8 d1, [.int .i64 x1], [.slice a1 n1 c1]], AG [encA .u8 d2, [.int .i64 x2], [.slice a2 n2 c2]]] g0.w (Ret NoM g0 fun v g => v = .bool o1) := by
 refine calls_of (args := [AG [encA .u8 d1, [.int .i64 x1], [.slice a1 n1 c1]], AG [encA .u8 d2, [.int .i64 x2], [.slice a2 n2 c2]]]) Try.func44 rfl (0) ?_
 intro t ht htL
 refine ⟨_, rfl, ?_⟩
 refine CP.refr 24 [(0, AG [encA .u8 d1, [.int .i64 x1], [.slice a1 n1 c1]]), (1, AG [encA .u8 d2, [.int .i64 x2], [.slice a2 n2 c2]])] (by kernel_rfl) (by kernel_rfl) ?_
 intro ds
 have tot : Step (fun l => NoM l ∨ t ≤ l) g0 g0 := Step.refl _ _
 unfold F.state_same at hs
 refine CP.seqR ?_
 refine WP.alloc (T := 26) (t + 1) [encA .u8 d1, [.int .i64 x1], [.slice a1 n1 c1]] [8, 1, 1] (by kernel_rfl) (by simp [len_encA]) ?_
 intro g1 b1 st1 hB1
 replace hR1 := hR1.mono st1 (fun x => x)
 replace hR2 := hR2.mono st1 (fun x => x)
 replace tot := tot.trans st1.pure
 refine WP.alloc (T := 26) (t + 2) [encA .u8 d2, [.int .i64 x2], [.slice a2 n2 c2]] [8, 1, 1] (by kernel_rfl) (by simp [len_encA]) ?_
 intro g2 b2 st2 hB2
 replace hR1 := hR1.mono st2 (fun x => x)
 replace hR2 := hR2.mono st2 (fun x => x)
 replace hB1 := hB1.mono st2 (fun x => x)
 replace tot := tot.trans st2.pure
 refine WP.stl 1 ?_
 refine WP.dn ?_
 refine NX.then_n ?_
 refine CP.cut (fun tm g => ∃ (q2 : Bool), Fr 24 [(4, .bool q2)] tm ∧ Step (fun l => NoM l ∨ t ≤ l) g0 g ∧ (F.state_same.c1 q2) = some o1) ?_ ?_
 ·refine CP.region ?_
  refine WP.stl 1 ?_
  refine WP.loadB (v := AG [encA .u8 d1]) hB1 (by kernel_rfl) (by kernel_rfl) ?_
  refine WP.stl 1 ?_
  refine WP.loadB (v := AG [encA .u8 d2]) hB2 (by kernel_rfl) (by kernel_rfl) ?_
  refine WP.eqV (by kernel_rfl) (by kernel_rfl) (EqV.arr (d := 9998) (t := 23) (e := 5) (m := 8) (k := .u8) (x := d1) (y := d2) (by kernel_rfl) (by kernel_rfl)) ?_
  refine WP.stl 1 ?_
  refine WP.guard 10 (b := (d1.1 == d2.1)) (by kernel_rfl) (fun h3 => ?_) (fun h3 => ?_)
  ·replace hs := of_if_t hs h3
   refine WP.stl 1 ?_
   refine WP.loadB (v := .int .i64 x1) hB1 (by kernel_rfl) (by kernel_rfl) ?_
   refine WP.stl 1 ?_
   refine WP.loadB (v := .int .i64 x2) hB2 (by kernel_rfl) (by kernel_rfl) ?_
   refine WP.stl 3 ?_
   refine WP.guard 17 (b := (x1 == x2)) (by kernel_rfl) (fun h4 => ?_) (fun h4 => ?_)
   ·replace hs := of_if_t hs h4
    refine WP.stl 1 ?_
    refine WP.loadB (v := .slice a1 n1 c1) hB1 (by kernel_rfl) (by kernel_rfl) ?_
    refine WP.stl 1 ?_
    refine WP.loadB (v := .slice a2 n2 c2) hB2 (by kernel_rfl) (by kernel_rfl) ?_
    replace hs := Option.bind_eq_some_iff.1 hs
    obtain ⟨q3, hk2, hs⟩ := hs
    have hcal2 := P.slices_Equal_byte_byte g2 l1 l2 a1 n1 c1 a2 n2 c2 hR1 hR2 q3 hk2
    refine WP.callC hcal2 (by kernel_rfl) ?_
    rintro _ g4 st4 rfl
    replace hB1 := hB1.mono st4 (fun x => x)
    replace hR1 := hR1.mono st4 (fun x => x)
    replace hB2 := hB2.mono st4 (fun x => x)
    replace hR2 := hR2.mono st4 (fun x => x)
    replace tot := tot.trans st4.pure
    refine WP.stl 2 ?_
    refine WP.dn ?_
    refine NX.post ?_
    exact ⟨q3, ⟨by kernel_rfl, by kernel_rfl⟩, tot, hs⟩
   replace hs := of_if_f hs h4
   refine WP.stl 7 ?_
   refine WP.dn ?_
   refine NX.post ?_
   exact ⟨false, ⟨by kernel_rfl, by kernel_rfl⟩, tot, hs⟩
  replace hs := of_if_f hs h3
  refine WP.stl 14 ?_
  refine WP.dn ?_
  refine NX.post ?_
  exact ⟨false, ⟨by kernel_rfl, by kernel_rfl⟩, tot, hs⟩
 clear tot hs hB1 hR1 hB2 hR2
 rintro tm g ⟨q2, hF, tot, hs⟩
 clear ds
 obtain ⟨ds, rfl⟩ := hF.open
 clear hF
 unfold F.state_same.c1 at hs
 refine CP.ret ?_
 replace hs := Option.some.inj hs
 obtain rfl := hs
 exact NX.fin (v := .bool q2) (Res.still (by kernel_rfl)) tot htL rfl
def F.slices_EqualFunc_byte_byte_byte_byte.l1 (l1 : List (List Int)) (l2 : List (List Int)) : Nat → Int → Option (Bool)
 | 0, _ => none
 | k + 1, x1 => (if decide (x1 < (l1.length : Int)) = true then (if (0 : Int) ≤ x1 ∧ x1 < (l1.length : Int) then (if (0 : Int) ≤ x1 ∧ x1 < (l2.length : Int) then ((F.slices_Equal_byte_byte (getI l1 x1) (getI l2 x1)).bind fun q3 => (if (!q3) = true then (some false) else (F.slices_EqualFunc_byte_byte_byte_byte.l1 l1 l2 k (IntKind.i64.wrap (x1 + 1))))) else none) else none) else (some true))
def F.slices_EqualFunc_byte_byte_byte_byte (l1 : List (List Int)) (l2 : List (List Int)) : Option (Bool) := (if ((l1.length : Int) != (l2.length : Int)) = true then (some false) else (F.slices_EqualFunc_byte_byte_byte_byte.l1 l1 l2 fuel 0))
theorem P.slices_EqualFunc_byte_byte_byte_byte (g0 : GW) (l1 : List (List Int)) (l2 : List (List Int)) (a1 : Option Addr) (n1 : Nat) (c1 : Nat) (a2 : Option Addr) (n2 : Nat) (c2 : Nat) (hR1 : RdS (Kd.slice 5 (Kd.int .u8)) g0 24 a1 n1 c1 l1) (hR2 : RdS (Kd.slice 5 (Kd.int .u8)) g0 24 a2 n2 c2 l2) (o1 : Bool) (hs : F.slices_EqualFunc_byte_byte_byte_byte l1 l2 = some o1) :
  Calls Try.prog 47 #[.slice a1 n1 c1, .slice a2 n2 c2, .func (.func 48) #[] #[]] g0.w (Ret NoM g0 fun v g => v = .bool o1) := by
 refine calls_of (args := [.slice a1 n1 c1, .slice a2 n2 c2, .func (.func 48) #[] #[]]) Try.func47 rfl (0) ?_
 intro t ht htL
 refine ⟨_, rfl, ?_⟩
 refine CP.refr 32 [(0, .slice a1 n1 c1), (1, .slice a2 n2 c2), (2, .func (.func 48) #[] #[])] (by kernel_rfl) (by kernel_rfl) ?_
 intro ds
 have tot : Step (fun l => NoM l ∨ t ≤ l) g0 g0 := Step.refl _ _
 unfold F.slices_EqualFunc_byte_byte_byte_byte at hs
 refine CP.seqR ?_
 refine WP.stl 1 ?_
 refine WP.dn ?_
 refine NX.then_n ?_
 refine CP.seq ?_
 refine CP.seqR ?_
 refine WP.stl 1 ?_
 refine WP.len (a := a1) (cp := c1) hR1.len (by kernel_rfl) ?_
 refine WP.stl 1 ?_
 refine WP.len (a := a2) (cp := c2) hR2.len (by kernel_rfl) ?_
 refine WP.stl 1 ?_
 refine WP.dn ?_
 refine NX.then_n ?_
 refine CP.cond (b := ((l1.length : Int) != (l2.length : Int))) (by kernel_rfl) (fun h1 => ?_) (fun h1 => ?_)
 ·replace hs := of_if_t hs h1
  refine CP.seqR ?_
  refine WP.stl 1 ?_
  refine WP.dn ?_
  refine NX.then_n ?_
  refine CP.ret ?_
  refine NX.then_r ?_
  replace hs := Option.some.inj hs
  obtain rfl := hs
  exact NX.fin (v := .bool false) (Res.still (by kernel_rfl)) tot htL rfl
 replace hs := of_if_f hs h1
 refine CP.skip ?_
 refine NX.then_n ?_
 refine CP.seq ?_
 refine CP.seqR ?_
 refine WP.stl 1 ?_
 refine WP.len (a := a1) (cp := c1) hR1.len (by kernel_rfl) ?_
 refine WP.stl 1 ?_
 refine WP.dn ?_
 refine NX.then_n ?_
 refine CP.block ?_
 generalize fuel = k1 at hs
 refine CP.loop (fun k1 tm g => ∃ (x1 : Int), Fr 32 [(1, .slice a2 n2 c2), (2, .func (.func 48) #[] #[]), (15, .slice a1 n1 c1), (16, .int .i64 (l1.length : Int)), (17, .int .i64 x1)] tm ∧ Step (fun l => NoM l ∨ t ≤ l) g0 g ∧ RdS (Kd.slice 5 (Kd.int .u8)) g 24 a2 n2 c2 l2 ∧ RdS (Kd.slice 5 (Kd.int .u8)) g 24 a1 n1 c1 l1 ∧ F.slices_EqualFunc_byte_byte_byte_byte.l1 l1 l2 k1 x1 = some o1) k1 ?_ ?_ ?_
 ·exact ⟨0, ⟨by kernel_rfl, by kernel_rfl⟩, tot, hR2, hR1, hs⟩
 ·rintro tm g ⟨x1, hF, tot, hR2, hR1, hs⟩
  exact absurd hs (by simp [F.slices_EqualFunc_byte_byte_byte_byte.l1])
 clear tot hs hR2 hR1
 rintro k1 tm g ⟨x1, hF, tot, hR2, hR1, hs⟩
 clear ds
 obtain ⟨ds, rfl⟩ := hF.open
 clear hF
 unfold F.slices_EqualFunc_byte_byte_byte_byte.l1 at hs
 refine CP.seqR ?_
 refine WP.stl 1 ?_
 refine WP.dn ?_
 refine NX.then_n ?_
 refine CP.seq ?_
 refine CP.cond (b := decide (x1 < (l1.length : Int))) (by kernel_rfl) (fun h6 => ?_) (fun h6 => ?_)
 ·replace hs := of_if_t hs h6
  refine CP.skip ?_
  refine NX.then_n ?_
  refine CP.seq ?_
  refine CP.block ?_
  refine CP.seqR ?_
  refine WP.stl 1 ?_
  by_cases hc5 : (0 : Int) ≤ x1 ∧ x1 < (l1.length : Int)
  case neg => rw [if_neg hc5] at hs; cases hs
  replace hs := of_if_p hs hc5
  obtain ⟨b5, u5, ha5⟩ := hR1.at hc5
  refine WP.indexA (t := 42) (e := 24) (sz := 1) (cap := c1) (k := .i64) (i := x1) hR1.len ha5 (by kernel_rfl) (by kernel_rfl) hc5 ?_
  obtain ⟨cs5, hcR5, hcV5⟩ := hR1.src.view (getI_some hc5) ha5
  obtain ⟨a7, n7, c7, hcR5, hR7⟩ := Kd.o_sl hcR5
  refine WP.loadV [[.slice a7 n7 c7]] [1] hcV5 hcR5 rfl (f := 0) (ty := 24) (agg := false) (size := 1) (rs := [[.slice a7 n7 c7]]) (v := .slice a7 n7 c7) (by kernel_rfl) (by kernel_rfl) (by kernel_rfl) (by kernel_rfl) ?_
  refine WP.stl 2 ?_
  refine WP.dn ?_
  refine NX.then_n ?_
  refine CP.seqR ?_
  refine WP.stl 2 ?_
  by_cases hc6 : (0 : Int) ≤ x1 ∧ x1 < (l2.length : Int)
  case neg => rw [if_neg hc6] at hs; cases hs
  replace hs := of_if_p hs hc6
  obtain ⟨b6, u6, ha6⟩ := hR2.at hc6
  refine WP.indexA (t := 42) (e := 24) (sz := 1) (cap := c2) (k := .i64) (i := x1) hR2.len ha6 (by kernel_rfl) (by kernel_rfl) hc6 ?_
  obtain ⟨cs6, hcR6, hcV6⟩ := hR2.src.view (getI_some hc6) ha6
  obtain ⟨a8, n8, c8, hcR6, hR8⟩ := Kd.o_sl hcR6
  refine WP.loadV [[.slice a8 n8 c8]] [1] hcV6 hcR6 rfl (f := 0) (ty := 24) (agg := false) (size := 1) (rs := [[.slice a8 n8 c8]]) (v := .slice a8 n8 c8) (by kernel_rfl) (by kernel_rfl) (by kernel_rfl) (by kernel_rfl) ?_
  refine WP.stl 1 ?_
  refine WP.dn ?_
  refine NX.then_n ?_
  refine CP.seqR ?_
  refine WP.stl 3 ?_
  replace hs := Option.bind_eq_some_iff.1 hs
  obtain ⟨q3, hk3, hs⟩ := hs
  have hcal3 := P.slices_Equal_byte_byte g (getI l1 x1) (getI l2 x1) a7 n7 c7 a8 n8 c8 hR7 hR8 q3 hk3
  refine WP.callC hcal3 (by kernel_rfl) ?_
  rintro _ g3 st3 rfl
  replace hR2 := hR2.mono st3 (fun x => x)
  replace hR1 := hR1.mono st3 (fun x => x)
  replace hR7 := hR7.mono st3 (fun x => x)
  replace hR8 := hR8.mono st3 (fun x => x)
  replace tot := tot.trans st3.pure
  refine WP.stl 1 ?_
  refine WP.dn ?_
  refine NX.then_n ?_
  refine CP.refr 32 [(1, .slice a2 n2 c2), (2, .func (.func 48) #[] #[]), (15, .slice a1 n1 c1), (16, .int .i64 (l1.length : Int)), (17, .int .i64 x1), (30, .bool (!q3))] (by kernel_rfl) (by kernel_rfl) ?_
  clear ds
  intro ds
  refine CP.cond (b := (!q3)) (by kernel_rfl) (fun h7 => ?_) (fun h7 => ?_)
  ·replace hs := of_if_t hs h7
   refine CP.seqR ?_
   refine WP.stl 1 ?_
   refine WP.dn ?_
   refine NX.then_n ?_
   refine CP.ret ?_
   refine NX.block_r ?_
   refine NX.then_r ?_
   refine NX.then_r ?_
   refine NX.block_r ?_
   refine NX.then_r ?_
   replace hs := Option.some.inj hs
   obtain rfl := hs
   exact NX.fin (v := .bool false) (Res.still (by kernel_rfl)) tot htL rfl
  replace hs := of_if_f hs h7
  refine CP.skip ?_
  refine NX.block_n ?_
  refine NX.then_n ?_
  refine CP.region ?_
  refine WP.stl 2 ?_
  refine WP.dn ?_
  refine NX.post ?_
  exact ⟨(IntKind.i64.wrap (x1 + 1)), ⟨by kernel_rfl, by kernel_rfl⟩, tot, hR2, hR1, hs⟩
 replace hs := of_if_f hs h6
 refine CP.exit ?_
 refine NX.then_e ?_
 refine NX.then_e ?_
 refine NX.block_s ?_
 refine NX.then_n ?_
 refine CP.seqR ?_
 refine WP.stl 1 ?_
 refine WP.dn ?_
 refine NX.then_n ?_
 refine CP.ret ?_
 replace hs := Option.some.inj hs
 obtain rfl := hs
 exact NX.fin (v := .bool true) (Res.still (by kernel_rfl)) tot htL rfl
def F.state_Signed_Same.c1 (q3 : Bool) : Option (Bool) := (some q3)
def F.state_Signed_Same (d1 : Arr Int 8) (x1 : Int) (l1 : List Int) (l2 : List (List Int)) (d2 : Arr Int 8) (x2 : Int) (l3 : List Int) (l4 : List (List Int)) : Option (Bool) := ((F.state_same d1 x1 l1 d2 x2 l3).bind fun q4 => (if q4 = true then ((F.slices_EqualFunc_byte_byte_byte_byte l2 l4).bind fun q5 => (F.state_Signed_Same.c1 q5)) else (F.state_Signed_Same.c1 false)))
theorem P.state_Signed_Same (g0 : GW) (d1 : Arr Int 8) (x1 : Int) (l1 : List Int) (l2 : List (List Int)) (d2 : Arr Int 8) (x2 : Int) (l3 : List Int) (l4 : List (List Int)) (a1 : Option Addr) (n1 : Nat) (c1 : Nat) (a2 : Option Addr) (n2 : Nat) (c2 : Nat) (a3 : Option Addr) (n3 : Nat) (c3 : Nat) (a4 : Option Addr) (n4 : Nat) (c4 : Nat) (hR1 : RdS (Kd.int .u8) g0 5 a1 n1 c1 l1) (hR2 : RdS (Kd.slice 5 (Kd.int .u8)) g0 24 a2 n2 c2 l2) (hR3 : RdS (Kd.int .u8) g0 5 a3 n3 c3 l3) (hR4 : RdS (Kd.slice 5 (Kd.int .u8)) g0 24 a4 n4 c4 l4) (o1 : Bool) (hs : F.state_Signed_Same d1 x1 l1 l2 d2 x2 l3 l4 = some o1) :
  Calls Try.prog 28 #[AG [encA .u8 d1, [.int .i64 x1], [.slice a1 n1 c1], [.slice a2 n2 c2]], AG [encA .u8 d2, [.int .i64 x2], [.slice a3 n3 c3], [.slice a4 n4 c4]]] g0.w (Ret NoM g0 fun v g => v = .bool o1) := by
 refine calls_of (args := [AG [encA .u8 d1, [.int .i64 x1], [.slice a1 n1 c1], [.slice a2 n2 c2]], AG [encA .u8 d2, [.int .i64 x2], [.slice a3 n3 c3], [.slice a4 n4 c4]]]) Try.func28 rfl (0) ?_
 intro t ht htL
 refine ⟨_, rfl, ?_⟩
 refine CP.refr 17 [(0, AG [encA .u8 d1, [.int .i64 x1], [.slice a1 n1 c1], [.slice a2 n2 c2]]), (1, AG [encA .u8 d2, [.int .i64 x2], [.slice a3 n3 c3], [.slice a4 n4 c4]])] (by kernel_rfl) (by kernel_rfl) ?_
 intro ds
 have tot : Step (fun l => NoM l ∨ t ≤ l) g0 g0 := Step.refl _ _
 unfold F.state_Signed_Same at hs
 refine CP.seqR ?_
 refine WP.alloc (T := 61) (t + 1) [encA .u8 d1, [.int .i64 x1], [.slice a1 n1 c1], [.slice a2 n2 c2]] [8, 1, 1, 1] (by kernel_rfl) (by simp [len_encA]) ?_
 intro g1 b1 st1 hB1
 replace hR1 := hR1.mono st1 (fun x => x)
 replace hR2 := hR2.mono st1 (fun x => x)
 replace hR3 := hR3.mono st1 (fun x => x)
 replace hR4 := hR4.mono st1 (fun x => x)
 replace tot := tot.trans st1.pure
 refine WP.alloc (T := 61) (t + 2) [encA .u8 d2, [.int .i64 x2], [.slice a3 n3 c3], [.slice a4 n4 c4]] [8, 1, 1, 1] (by kernel_rfl) (by simp [len_encA]) ?_
 intro g2 b2 st2 hB2
 replace hR1 := hR1.mono st2 (fun x => x)
 replace hR2 := hR2.mono st2 (fun x => x)
 replace hR3 := hR3.mono st2 (fun x => x)
 replace hR4 := hR4.mono st2 (fun x => x)
 replace hB1 := hB1.mono st2 (fun x => x)
 replace tot := tot.trans st2.pure
 refine WP.stl 1 ?_
 refine WP.dn ?_
 refine NX.then_n ?_
 refine CP.cut (fun tm g => ∃ (q3 : Bool), Fr 17 [(4, .bool q3)] tm ∧ Step (fun l => NoM l ∨ t ≤ l) g0 g ∧ (F.state_Signed_Same.c1 q3) = some o1) ?_ ?_
 ·refine CP.region ?_
  refine WP.stl 1 ?_
  refine WP.loadB (v := AG [encA .u8 d1, [.int .i64 x1], [.slice a1 n1 c1]]) hB1 (by kernel_rfl) (by kernel_rfl) ?_
  refine WP.stl 1 ?_
  refine WP.loadB (v := AG [encA .u8 d2, [.int .i64 x2], [.slice a3 n3 c3]]) hB2 (by kernel_rfl) (by kernel_rfl) ?_
  replace hs := Option.bind_eq_some_iff.1 hs
  obtain ⟨q4, hk3, hs⟩ := hs
  have hcal3 := P.state_same g2 d1 x1 l1 d2 x2 l3 a1 n1 c1 a3 n3 c3 hR1 hR3 q4 hk3
  refine WP.callC hcal3 (by kernel_rfl) ?_
  rintro _ g5 st5 rfl
  replace hB1 := hB1.mono st5 (fun x => x)
  replace hR1 := hR1.mono st5 (fun x => x)
  replace hR2 := hR2.mono st5 (fun x => x)
  replace hB2 := hB2.mono st5 (fun x => x)
  replace hR3 := hR3.mono st5 (fun x => x)
  replace hR4 := hR4.mono st5 (fun x => x)
  replace tot := tot.trans st5.pure
  refine WP.stl 1 ?_
  refine WP.guard 10 (b := q4) (by kernel_rfl) (fun h2 => ?_) (fun h2 => ?_)
  ·replace hs := of_if_t hs h2
   refine WP.stl 1 ?_
   refine WP.loadB (v := .slice a2 n2 c2) hB1 (by kernel_rfl) (by kernel_rfl) ?_
   refine WP.stl 1 ?_
   refine WP.loadB (v := .slice a4 n4 c4) hB2 (by kernel_rfl) (by kernel_rfl) ?_
   replace hs := Option.bind_eq_some_iff.1 hs
   obtain ⟨q5, hk4, hs⟩ := hs
   have hcal4 := P.slices_EqualFunc_byte_byte_byte_byte g5 l2 l4 a2 n2 c2 a4 n4 c4 hR2 hR4 q5 hk4
   refine WP.callC hcal4 (by kernel_rfl) ?_
   rintro _ g6 st6 rfl
   replace hB1 := hB1.mono st6 (fun x => x)
   replace hR1 := hR1.mono st6 (fun x => x)
   replace hR2 := hR2.mono st6 (fun x => x)
   replace hB2 := hB2.mono st6 (fun x => x)
   replace hR3 := hR3.mono st6 (fun x => x)
   replace hR4 := hR4.mono st6 (fun x => x)
   replace tot := tot.trans st6.pure
   refine WP.stl 2 ?_
   refine WP.dn ?_
   refine NX.post ?_
   exact ⟨q5, ⟨by kernel_rfl, by kernel_rfl⟩, tot, hs⟩
  replace hs := of_if_f hs h2
  refine WP.stl 7 ?_
  refine WP.dn ?_
  refine NX.post ?_
  exact ⟨false, ⟨by kernel_rfl, by kernel_rfl⟩, tot, hs⟩
 clear tot hs hB1 hR1 hR2 hB2 hR3 hR4
 rintro tm g ⟨q3, hF, tot, hs⟩
 clear ds
 obtain ⟨ds, rfl⟩ := hF.open
 clear hF
 unfold F.state_Signed_Same.c1 at hs
 refine CP.ret ?_
 replace hs := Option.some.inj hs
 obtain rfl := hs
 exact NX.fin (v := .bool q3) (Res.still (by kernel_rfl)) tot htL rfl
end Go.Proofs.Ythfmgobnanifnaa
