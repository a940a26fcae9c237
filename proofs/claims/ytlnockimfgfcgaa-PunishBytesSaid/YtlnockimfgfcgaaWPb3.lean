/-
  Walks, written by program: each Go function computes the plain function of its name, in whatever world its arguments' facts hold.
-/
import Derived.Test.YtlnockimfgfcgaaWPb2
namespace Go.Proofs.Ytlnockimfgfcgaa
open Go.RowKit Go.Lab
attribute [local irreducible] WP CP NX wpList Code.wp Calls
set_option maxRecDepth 100000
set_option maxHeartbeats 4000000
set_option linter.unusedVariables false

def F.baizeref01_Some.c1 (l1 : List Int) (x1 : Int) (x2 : Int) (l2 : List Int) (x4 : Int) (x5 : Int) (x6 : Int) (x9 : Int) : Option ((List Int) × Int × Int × (List Int)) := (if decide (x6 > (IntKind.u64.wrap x9)) = true then ((F.baizeref01_Fail l1 x1 x2 2).bind fun (l4, x10, x11) => (some (l4, x10, x11, []))) else (if decide (x6 > (IntKind.u64.wrap (IntKind.i64.wrap ((l2.length : Int) - x4)))) = true then ((F.baizeref01_Fail l1 x1 x2 4).bind fun (l5, x12, x13) => (some (l5, x12, x13, []))) else (if (0 : Int) ≤ x4 ∧ x4 ≤ (IntKind.i64.wrap (x4 + (IntKind.i64.wrap x6))) ∧ (IntKind.i64.wrap (x4 + (IntKind.i64.wrap x6))) ≤ (l2.length : Int) then (if ([] : List Int).length + (sliceI l2 x4 (IntKind.i64.wrap (x4 + (IntKind.i64.wrap x6)))).length ≤ 140737488355328 then (some (l2, (IntKind.i64.wrap (x4 + (IntKind.i64.wrap x6))), x5, (([] : List Int) ++ (sliceI l2 x4 (IntKind.i64.wrap (x4 + (IntKind.i64.wrap x6))))))) else none) else none)))
def F.baizeref01_Some (l1 : List Int) (x1 : Int) (x2 : Int) (x3 : Int) : Option ((List Int) × Int × Int × (List Int)) := (if (x2 != 0) = true then (some (l1, x1, x2, [])) else ((F.baizeref01_Read l1 x1 x2 18446744073709551615).bind fun (l2, x4, x5, x6) => (if (x5 != 0) = true then ((F.baizeref01_Fail l1 x1 x2 x5).bind fun (l3, x7, x8) => (some (l3, x7, x8, []))) else (if decide (x3 < 0) = true then (F.baizeref01_Some.c1 l1 x1 x2 l2 x4 x5 x6 0) else (F.baizeref01_Some.c1 l1 x1 x2 l2 x4 x5 x6 x3)))))
theorem P.baizeref01_Some (g0 : GW) (r0 : Nat) (l1 : List Int) (x1 : Int) (x2 : Int) (x3 : Int) (a1 : Option Addr) (n1 : Nat) (c1 : Nat) (hR1 : RdS (Kd.int .u8) g0 5 a1 n1 c1 l1) (o1 : List Int) (o2 : Int) (o3 : Int) (o4 : List Int) (hs : F.baizeref01_Some l1 x1 x2 x3 = some (o1, o2, o3, o4)) :
  Calls Try.prog 52 #[AG [[.slice a1 n1 c1], [.int .i64 x1], [.int .i64 x2]], .int .i64 x3] g0.w (Ret NoM g0 fun v g => ∃ (a_1 : Option Addr) (n_1 : Nat) (c_1 : Nat) (a_4 : Option Addr) (n_4 : Nat) (c_4 : Nat), v = .tuple #[AG [[.slice a_1 n_1 c_1], [.int .i64 o2], [.int .i64 o3]], .slice a_4 n_4 c_4] ∧ RdS (Kd.int .u8) g 5 a_1 n_1 c_1 o1 ∧ OwnS (Kd.int .u8) g r0 5 a_4 n_4 c_4 o4) := by
 refine calls_of (args := [AG [[.slice a1 n1 c1], [.int .i64 x1], [.int .i64 x2]], .int .i64 x3]) Try.func52 rfl (r0 + 0) ?_
 intro t ht htL
 refine ⟨_, rfl, ?_⟩
 refine CP.refr 64 [(0, AG [[.slice a1 n1 c1], [.int .i64 x1], [.int .i64 x2]]), (1, .int .i64 x3)] (by kernel_rfl) (by kernel_rfl) ?_
 intro ds
 have tot : Step (fun l => NoM l ∨ t ≤ l) g0 g0 := Step.refl _ _
 unfold F.baizeref01_Some at hs
 refine CP.seqR ?_
 refine WP.alloc (T := 106) (t + 1) [[.slice a1 n1 c1], [.int .i64 x1], [.int .i64 x2]] [1, 1, 1] (by kernel_rfl) rfl ?_
 intro g1 b1 st1 hB1
 replace hR1 := hR1.mono st1 (fun x => x)
 replace tot := tot.trans st1.pure
 refine WP.alloc (T := 106) (t + 2) [[.slice none 0 0], [.int .i64 0], [.int .i64 0]] [1, 1, 1] (by kernel_rfl) rfl ?_
 intro g2 b2 st2 hB2
 replace hR1 := hR1.mono st2 (fun x => x)
 replace hB1 := hB1.mono st2 (fun x => x)
 replace tot := tot.trans st2.pure
 refine WP.stl 1 ?_
 refine WP.dn ?_
 refine NX.then_n ?_
 refine CP.seq ?_
 refine CP.seqR ?_
 refine WP.stl 1 ?_
 refine WP.loadB (v := .int .i64 x2) hB1 (by kernel_rfl) (by kernel_rfl) ?_
 refine WP.stl 1 ?_
 refine WP.dn ?_
 refine NX.then_n ?_
 refine CP.cond (b := (x2 != 0)) (by kernel_rfl) (fun h1 => ?_) (fun h1 => ?_)
 ·replace hs := of_if_t hs h1
  refine CP.seqR ?_
  refine WP.loadB (v := AG [[.slice a1 n1 c1], [.int .i64 x1], [.int .i64 x2]]) hB1 (by kernel_rfl) (by kernel_rfl) ?_
  refine WP.storeB (ty := 106) (off := 0) (v := AG [[.slice a1 n1 c1], [.int .i64 x1], [.int .i64 x2]]) hB2 [[.slice a1 n1 c1], [.int .i64 x1], [.int .i64 x2]] [1, 1, 1] (by kernel_rfl) (by kernel_rfl) rfl (by kernel_rfl) [[.slice a1 n1 c1], [.int .i64 x1], [.int .i64 x2]] (by kernel_rfl) (.one rfl (.one rfl (.one rfl .nil))) ?_
  intro g3 st3 hB3
  replace hB1 := hB1.mono st3 (WL.no1 (by omega))
  replace hR1 := hR1.mono st3 (WL.no1 (by omega))
  replace tot := tot.trans (st3.up1 (.inr (by omega)))
  clear hB2
  have hB2 := hB3
  clear hB3
  refine WP.stl 1 ?_
  refine WP.dn ?_
  refine NX.then_n ?_
  refine CP.ret ?_
  refine NX.then_r ?_
  replace hs := Option.some.inj hs
  simp only [Prod.mk.injEq] at hs
  obtain ⟨rfl, rfl, rfl, rfl⟩ := hs
  exact NX.fin (v := .tuple #[AG [[.slice a1 n1 c1], [.int .i64 x1], [.int .i64 x2]], .slice none 0 0]) (Res.two rfl (RV.box (agg := true) (size := 3) (rs := [[.slice a1 n1 c1], [.int .i64 x1], [.int .i64 x2]]) hB2 (by kernel_rfl) (by kernel_rfl) (by kernel_rfl) (by kernel_rfl)) (RV.tmp (by kernel_rfl))) tot htL ⟨a1, n1, c1, none, 0, 0, rfl, hR1, (OwnS.nil _ _ _ _)⟩
 replace hs := of_if_f hs h1
 refine CP.skip ?_
 refine NX.then_n ?_
 refine CP.seqR ?_
 refine WP.loadB (v := AG [[.slice a1 n1 c1], [.int .i64 x1], [.int .i64 x2]]) hB1 (by kernel_rfl) (by kernel_rfl) ?_
 replace hs := Option.bind_eq_some_iff.1 hs
 obtain ⟨⟨l2, x4, x5, x6⟩, hk1, hs⟩ := hs
 dsimp only at hs
 have hcal1 := P.baizeref01_Read g2 l1 x1 x2 18446744073709551615 a1 n1 c1 hR1 l2 x4 x5 x6 hk1
 refine WP.callC hcal1 (by kernel_rfl) ?_
 rintro _ g4 st4 ⟨a2, n2, c2, rfl, hR2⟩
 replace hB1 := hB1.mono st4 (fun x => x)
 replace hR1 := hR1.mono st4 (fun x => x)
 replace hB2 := hB2.mono st4 (fun x => x)
 replace tot := tot.trans st4.pure
 refine WP.stl 3 ?_
 refine WP.alloc (T := 106) (t + 3) [[.slice none 0 0], [.int .i64 0], [.int .i64 0]] [1, 1, 1] (by kernel_rfl) rfl ?_
 intro g5 b3 st5 hB4
 replace hB1 := hB1.mono st5 (fun x => x)
 replace hR1 := hR1.mono st5 (fun x => x)
 replace hB2 := hB2.mono st5 (fun x => x)
 replace hR2 := hR2.mono st5 (fun x => x)
 replace tot := tot.trans st5.pure
 refine WP.storeB (ty := 106) (off := 0) (v := AG [[.slice a2 n2 c2], [.int .i64 x4], [.int .i64 x5]]) hB4 [[.slice a2 n2 c2], [.int .i64 x4], [.int .i64 x5]] [1, 1, 1] (by kernel_rfl) (by kernel_rfl) rfl (by kernel_rfl) [[.slice a2 n2 c2], [.int .i64 x4], [.int .i64 x5]] (by kernel_rfl) (.one rfl (.one rfl (.one rfl .nil))) ?_
 intro g6 st6 hB5
 replace hB1 := hB1.mono st6 (WL.no1 (by omega))
 replace hR1 := hR1.mono st6 (WL.no1 (by omega))
 replace hB2 := hB2.mono st6 (WL.no1 (by omega))
 replace hR2 := hR2.mono st6 (WL.no1 (by omega))
 replace tot := tot.trans (st6.up1 (.inr (by omega)))
 clear hB4
 have hB4 := hB5
 clear hB5
 refine WP.stl 1 ?_
 refine WP.dn ?_
 refine NX.then_n ?_
 refine CP.refr 64 [(1, .int .i64 x3), (2, .pointer (some ⟨b1, 0, none⟩)), (4, .pointer (some ⟨b2, 0, none⟩)), (6, .pointer (some ⟨b3, 0, none⟩)), (7, .int .u64 x6)] (by kernel_rfl) (by kernel_rfl) ?_
 clear ds
 intro ds
 refine CP.seq ?_
 refine CP.seqR ?_
 refine WP.stl 1 ?_
 refine WP.loadB (v := .int .i64 x5) hB4 (by kernel_rfl) (by kernel_rfl) ?_
 refine WP.stl 1 ?_
 refine WP.dn ?_
 refine NX.then_n ?_
 refine CP.cond (b := (x5 != 0)) (by kernel_rfl) (fun h2 => ?_) (fun h2 => ?_)
 ·replace hs := of_if_t hs h2
  refine CP.seqR ?_
  refine WP.loadB (v := AG [[.slice a1 n1 c1], [.int .i64 x1], [.int .i64 x2]]) hB1 (by kernel_rfl) (by kernel_rfl) ?_
  refine WP.stl 1 ?_
  refine WP.loadB (v := .int .i64 x5) hB4 (by kernel_rfl) (by kernel_rfl) ?_
  replace hs := Option.bind_eq_some_iff.1 hs
  obtain ⟨⟨l3, x7, x8⟩, hk2, hs⟩ := hs
  dsimp only at hs
  have hcal2 := P.baizeref01_Fail g6 l1 x1 x2 x5 a1 n1 c1 hR1 l3 x7 x8 hk2
  refine WP.callC hcal2 (by kernel_rfl) ?_
  rintro _ g7 st7 ⟨a3, n3, c3, rfl, hR3⟩
  replace hB1 := hB1.mono st7 (fun x => x)
  replace hR1 := hR1.mono st7 (fun x => x)
  replace hB2 := hB2.mono st7 (fun x => x)
  replace hB4 := hB4.mono st7 (fun x => x)
  replace hR2 := hR2.mono st7 (fun x => x)
  replace tot := tot.trans st7.pure
  refine WP.storeB (ty := 106) (off := 0) (v := AG [[.slice a3 n3 c3], [.int .i64 x7], [.int .i64 x8]]) hB2 [[.slice a3 n3 c3], [.int .i64 x7], [.int .i64 x8]] [1, 1, 1] (by kernel_rfl) (by kernel_rfl) rfl (by kernel_rfl) [[.slice a3 n3 c3], [.int .i64 x7], [.int .i64 x8]] (by kernel_rfl) (.one rfl (.one rfl (.one rfl .nil))) ?_
  intro g8 st8 hB6
  replace hB1 := hB1.mono st8 (WL.no1 (by omega))
  replace hR1 := hR1.mono st8 (WL.no1 (by omega))
  replace hR3 := hR3.mono st8 (WL.no1 (by omega))
  replace hB4 := hB4.mono st8 (WL.no1 (by omega))
  replace hR2 := hR2.mono st8 (WL.no1 (by omega))
  replace tot := tot.trans (st8.up1 (.inr (by omega)))
  clear hB2
  have hB2 := hB6
  clear hB6
  refine WP.stl 1 ?_
  refine WP.dn ?_
  refine NX.then_n ?_
  refine CP.ret ?_
  refine NX.then_r ?_
  replace hs := Option.some.inj hs
  simp only [Prod.mk.injEq] at hs
  obtain ⟨rfl, rfl, rfl, rfl⟩ := hs
  exact NX.fin (v := .tuple #[AG [[.slice a3 n3 c3], [.int .i64 x7], [.int .i64 x8]], .slice none 0 0]) (Res.two rfl (RV.box (agg := true) (size := 3) (rs := [[.slice a3 n3 c3], [.int .i64 x7], [.int .i64 x8]]) hB2 (by kernel_rfl) (by kernel_rfl) (by kernel_rfl) (by kernel_rfl)) (RV.tmp (by kernel_rfl))) tot htL ⟨a3, n3, c3, none, 0, 0, rfl, hR3, (OwnS.nil _ _ _ _)⟩
 replace hs := of_if_f hs h2
 refine CP.skip ?_
 refine NX.then_n ?_
 refine CP.cut (fun tm g => ∃ (x9 : Int), Fr 64 [(1, .int .i64 x9), (2, .pointer (some ⟨b1, 0, none⟩)), (4, .pointer (some ⟨b2, 0, none⟩)), (6, .pointer (some ⟨b3, 0, none⟩)), (7, .int .u64 x6)] tm ∧ Step (fun l => NoM l ∨ t ≤ l) g0 g ∧ Box g (t + 1) b1 106 [[.slice a1 n1 c1], [.int .i64 x1], [.int .i64 x2]] [1, 1, 1] ∧ RdS (Kd.int .u8) g 5 a1 n1 c1 l1 ∧ Box g (t + 2) b2 106 [[.slice none 0 0], [.int .i64 0], [.int .i64 0]] [1, 1, 1] ∧ Box g (t + 3) b3 106 [[.slice a2 n2 c2], [.int .i64 x4], [.int .i64 x5]] [1, 1, 1] ∧ RdS (Kd.int .u8) g 5 a2 n2 c2 l2 ∧ (F.baizeref01_Some.c1 l1 x1 x2 l2 x4 x5 x6 x9) = some (o1, o2, o3, o4)) ?_ ?_
 ·refine CP.seqR ?_
  refine WP.stl 2 ?_
  refine WP.dn ?_
  refine NX.then_n ?_
  refine CP.cond (b := decide (x3 < 0)) (by kernel_rfl) (fun h6 => ?_) (fun h6 => ?_)
  ·replace hs := of_if_t hs h6
   refine CP.region ?_
   refine WP.stl 1 ?_
   refine WP.dn ?_
   refine NX.post ?_
   exact ⟨0, ⟨by kernel_rfl, by kernel_rfl⟩, tot, hB1, hR1, hB2, hB4, hR2, hs⟩
  replace hs := of_if_f hs h6
  refine CP.skip ?_
  refine NX.post ?_
  exact ⟨x3, ⟨by kernel_rfl, by kernel_rfl⟩, tot, hB1, hR1, hB2, hB4, hR2, hs⟩
 clear tot hs hB1 hR1 hB2 hB4 hR2
 rintro tm g ⟨x9, hF, tot, hB1, hR1, hB2, hB4, hR2, hs⟩
 clear ds
 obtain ⟨ds, rfl⟩ := hF.open
 clear hF
 unfold F.baizeref01_Some.c1 at hs
 refine CP.seq ?_
 refine CP.seqR ?_
 refine WP.stl 4 ?_
 refine WP.dn ?_
 refine NX.then_n ?_
 refine CP.cond (b := decide (x6 > (IntKind.u64.wrap x9))) (by kernel_rfl) (fun h4 => ?_) (fun h4 => ?_)
 ·replace hs := of_if_t hs h4
  refine CP.seqR ?_
  refine WP.loadB (v := AG [[.slice a1 n1 c1], [.int .i64 x1], [.int .i64 x2]]) hB1 (by kernel_rfl) (by kernel_rfl) ?_
  replace hs := Option.bind_eq_some_iff.1 hs
  obtain ⟨⟨l4, x10, x11⟩, hk3, hs⟩ := hs
  dsimp only at hs
  have hcal3 := P.baizeref01_Fail g l1 x1 x2 2 a1 n1 c1 hR1 l4 x10 x11 hk3
  refine WP.callC hcal3 (by kernel_rfl) ?_
  rintro _ g9 st9 ⟨a4, n4, c4, rfl, hR4⟩
  replace hB1 := hB1.mono st9 (fun x => x)
  replace hR1 := hR1.mono st9 (fun x => x)
  replace hB2 := hB2.mono st9 (fun x => x)
  replace hB4 := hB4.mono st9 (fun x => x)
  replace hR2 := hR2.mono st9 (fun x => x)
  replace tot := tot.trans st9.pure
  refine WP.storeB (ty := 106) (off := 0) (v := AG [[.slice a4 n4 c4], [.int .i64 x10], [.int .i64 x11]]) hB2 [[.slice a4 n4 c4], [.int .i64 x10], [.int .i64 x11]] [1, 1, 1] (by kernel_rfl) (by kernel_rfl) rfl (by kernel_rfl) [[.slice a4 n4 c4], [.int .i64 x10], [.int .i64 x11]] (by kernel_rfl) (.one rfl (.one rfl (.one rfl .nil))) ?_
  intro g10 st10 hB7
  replace hB1 := hB1.mono st10 (WL.no1 (by omega))
  replace hR1 := hR1.mono st10 (WL.no1 (by omega))
  replace hR4 := hR4.mono st10 (WL.no1 (by omega))
  replace hB4 := hB4.mono st10 (WL.no1 (by omega))
  replace hR2 := hR2.mono st10 (WL.no1 (by omega))
  replace tot := tot.trans (st10.up1 (.inr (by omega)))
  clear hB2
  have hB2 := hB7
  clear hB7
  refine WP.stl 1 ?_
  refine WP.dn ?_
  refine NX.then_n ?_
  refine CP.ret ?_
  refine NX.then_r ?_
  replace hs := Option.some.inj hs
  simp only [Prod.mk.injEq] at hs
  obtain ⟨rfl, rfl, rfl, rfl⟩ := hs
  exact NX.fin (v := .tuple #[AG [[.slice a4 n4 c4], [.int .i64 x10], [.int .i64 x11]], .slice none 0 0]) (Res.two rfl (RV.box (agg := true) (size := 3) (rs := [[.slice a4 n4 c4], [.int .i64 x10], [.int .i64 x11]]) hB2 (by kernel_rfl) (by kernel_rfl) (by kernel_rfl) (by kernel_rfl)) (RV.tmp (by kernel_rfl))) tot htL ⟨a4, n4, c4, none, 0, 0, rfl, hR4, (OwnS.nil _ _ _ _)⟩
 replace hs := of_if_f hs h4
 refine CP.skip ?_
 refine NX.then_n ?_
 refine CP.seq ?_
 refine CP.seqR ?_
 refine WP.stl 2 ?_
 refine WP.loadB (v := .slice a2 n2 c2) hB4 (by kernel_rfl) (by kernel_rfl) ?_
 refine WP.len (a := a2) (cp := c2) hR2.len (by kernel_rfl) ?_
 refine WP.stl 1 ?_
 refine WP.loadB (v := .int .i64 x4) hB4 (by kernel_rfl) (by kernel_rfl) ?_
 refine WP.stl 3 ?_
 refine WP.dn ?_
 refine NX.then_n ?_
 refine CP.refr 64 [(2, .pointer (some ⟨b1, 0, none⟩)), (4, .pointer (some ⟨b2, 0, none⟩)), (6, .pointer (some ⟨b3, 0, none⟩)), (7, .int .u64 x6), (41, .bool (decide (x6 > (IntKind.u64.wrap (IntKind.i64.wrap ((l2.length : Int) - x4))))))] (by kernel_rfl) (by kernel_rfl) ?_
 clear ds
 intro ds
 refine CP.cond (b := decide (x6 > (IntKind.u64.wrap (IntKind.i64.wrap ((l2.length : Int) - x4))))) (by kernel_rfl) (fun h5 => ?_) (fun h5 => ?_)
 ·replace hs := of_if_t hs h5
  refine CP.seqR ?_
  refine WP.loadB (v := AG [[.slice a1 n1 c1], [.int .i64 x1], [.int .i64 x2]]) hB1 (by kernel_rfl) (by kernel_rfl) ?_
  replace hs := Option.bind_eq_some_iff.1 hs
  obtain ⟨⟨l5, x12, x13⟩, hk4, hs⟩ := hs
  dsimp only at hs
  have hcal4 := P.baizeref01_Fail g l1 x1 x2 4 a1 n1 c1 hR1 l5 x12 x13 hk4
  refine WP.callC hcal4 (by kernel_rfl) ?_
  rintro _ g11 st11 ⟨a5, n5, c5, rfl, hR5⟩
  replace hB1 := hB1.mono st11 (fun x => x)
  replace hR1 := hR1.mono st11 (fun x => x)
  replace hB2 := hB2.mono st11 (fun x => x)
  replace hB4 := hB4.mono st11 (fun x => x)
  replace hR2 := hR2.mono st11 (fun x => x)
  replace tot := tot.trans st11.pure
  refine WP.storeB (ty := 106) (off := 0) (v := AG [[.slice a5 n5 c5], [.int .i64 x12], [.int .i64 x13]]) hB2 [[.slice a5 n5 c5], [.int .i64 x12], [.int .i64 x13]] [1, 1, 1] (by kernel_rfl) (by kernel_rfl) rfl (by kernel_rfl) [[.slice a5 n5 c5], [.int .i64 x12], [.int .i64 x13]] (by kernel_rfl) (.one rfl (.one rfl (.one rfl .nil))) ?_
  intro g12 st12 hB8
  replace hB1 := hB1.mono st12 (WL.no1 (by omega))
  replace hR1 := hR1.mono st12 (WL.no1 (by omega))
  replace hR5 := hR5.mono st12 (WL.no1 (by omega))
  replace hB4 := hB4.mono st12 (WL.no1 (by omega))
  replace hR2 := hR2.mono st12 (WL.no1 (by omega))
  replace tot := tot.trans (st12.up1 (.inr (by omega)))
  clear hB2
  have hB2 := hB8
  clear hB8
  refine WP.stl 1 ?_
  refine WP.dn ?_
  refine NX.then_n ?_
  refine CP.ret ?_
  refine NX.then_r ?_
  replace hs := Option.some.inj hs
  simp only [Prod.mk.injEq] at hs
  obtain ⟨rfl, rfl, rfl, rfl⟩ := hs
  exact NX.fin (v := .tuple #[AG [[.slice a5 n5 c5], [.int .i64 x12], [.int .i64 x13]], .slice none 0 0]) (Res.two rfl (RV.box (agg := true) (size := 3) (rs := [[.slice a5 n5 c5], [.int .i64 x12], [.int .i64 x13]]) hB2 (by kernel_rfl) (by kernel_rfl) (by kernel_rfl) (by kernel_rfl)) (RV.tmp (by kernel_rfl))) tot htL ⟨a5, n5, c5, none, 0, 0, rfl, hR5, (OwnS.nil _ _ _ _)⟩
 replace hs := of_if_f hs h5
 refine CP.skip ?_
 refine NX.then_n ?_
 refine CP.seqR ?_
 refine WP.mkSl (kd := (Kd.int .u8)) (t := 33) (e := 5) (bytes := 1) (t + 4) [] ([] : List Int) (by kernel_rfl) (by kernel_rfl) (Nat.le_of_ble_eq_true rfl) (Nat.le_of_ble_eq_true rfl) all_nil (rfl) rfl ?_
 intro g13 a6 st13 hR6
 replace hB2 := hB2.mono st13 (fun x => x)
 replace hB4 := hB4.mono st13 (fun x => x)
 replace hR2 := hR2.mono st13 (fun x => x)
 replace tot := tot.trans st13.pure
 refine WP.stl 1 ?_
 refine WP.loadB (v := .slice a2 n2 c2) hB4 (by kernel_rfl) (by kernel_rfl) ?_
 refine WP.stl 1 ?_
 refine WP.loadB (v := .int .i64 x4) hB4 (by kernel_rfl) (by kernel_rfl) ?_
 refine WP.stl 1 ?_
 refine WP.loadB (v := .int .i64 x4) hB4 (by kernel_rfl) (by kernel_rfl) ?_
 refine WP.stl 3 ?_
 by_cases hc1 : (0 : Int) ≤ x4 ∧ x4 ≤ (IntKind.i64.wrap (x4 + (IntKind.i64.wrap x6))) ∧ (IntKind.i64.wrap (x4 + (IntKind.i64.wrap x6))) ≤ (l2.length : Int)
 case neg => rw [if_neg hc1] at hs; cases hs
 replace hs := of_if_p hs hc1
 refine WP.sliceR (lo := some (.int .i64 x4)) (hi := some (.int .i64 (IntKind.i64.wrap (x4 + (IntKind.i64.wrap x6))))) hR2 x4 (IntKind.i64.wrap (x4 + (IntKind.i64.wrap x6))) (by kernel_rfl) (.inr ⟨_, rfl⟩) (.inr ⟨_, rfl⟩) hc1 ?_
 intro a7 c6 hR7
 by_cases hc2 : ([] : List Int).length + (sliceI l2 x4 (IntKind.i64.wrap (x4 + (IntKind.i64.wrap x6)))).length ≤ 140737488355328
 case neg => rw [if_neg hc2] at hs; cases hs
 replace hs := of_if_p hs hc2
 refine WP.append (kd := (Kd.int .u8)) (t := 33) (e := 5) (bytes := 1) (a2 := a7) (c2 := c6) hR6 hR7.src hR7.len (by kernel_rfl) (by kernel_rfl) (by omega) (by simp only [maxLen]; omega) (by omega) ?_
 intro g14 a8 c7 st14 hR8
 replace hB2 := hB2.mono st14 (WL.no1 (by omega))
 replace hB4 := hB4.mono st14 (WL.no1 (by omega))
 replace hR2 := hR2.mono st14 (WL.no1 (by omega))
 replace hR7 := hR7.mono st14 (WL.no1 (by omega))
 replace tot := tot.trans (st14.up1 (.inr (by omega)))
 refine WP.stl 1 ?_
 refine WP.dn ?_
 refine NX.then_n ?_
 refine CP.refr 64 [(4, .pointer (some ⟨b2, 0, none⟩)), (6, .pointer (some ⟨b3, 0, none⟩)), (7, .int .u64 x6), (8, .slice a8 (0 + ((IntKind.i64.wrap (x4 + (IntKind.i64.wrap x6))).toNat - x4.toNat)) c7)] (by kernel_rfl) (by kernel_rfl) ?_
 clear ds
 intro ds
 refine CP.seqR ?_
 refine WP.stl 1 ?_
 refine WP.loadB (v := .int .i64 x4) hB4 (by kernel_rfl) (by kernel_rfl) ?_
 refine WP.stl 4 ?_
 refine WP.storeB (ty := 3) (off := 1) (v := .int .i64 (IntKind.i64.wrap (x4 + (IntKind.i64.wrap x6)))) hB4 [[.int .i64 (IntKind.i64.wrap (x4 + (IntKind.i64.wrap x6)))]] [1] (by kernel_rfl) (by kernel_rfl) rfl (by kernel_rfl) [[.slice a2 n2 c2], [.int .i64 (IntKind.i64.wrap (x4 + (IntKind.i64.wrap x6)))], [.int .i64 x5]] (by kernel_rfl) (.one rfl .nil) ?_
 intro g15 st15 hB9
 replace hB2 := hB2.mono st15 (WL.no1 (by omega))
 replace hR2 := hR2.mono st15 (WL.no1 (by omega))
 replace hR8 := hR8.mono st15 (WL.no1 (by omega)) (WL.no1 (by omega))
 replace tot := tot.trans (st15.up1 (.inr (by omega)))
 clear hB4
 have hB4 := hB9
 clear hB9
 refine WP.dn ?_
 refine NX.then_n ?_
 refine CP.seqR ?_
 refine WP.loadB (v := AG [[.slice a2 n2 c2], [.int .i64 (IntKind.i64.wrap (x4 + (IntKind.i64.wrap x6)))], [.int .i64 x5]]) hB4 (by kernel_rfl) (by kernel_rfl) ?_
 refine WP.stl 1 ?_
 refine WP.storeB (ty := 106) (off := 0) (v := AG [[.slice a2 n2 c2], [.int .i64 (IntKind.i64.wrap (x4 + (IntKind.i64.wrap x6)))], [.int .i64 x5]]) hB2 [[.slice a2 n2 c2], [.int .i64 (IntKind.i64.wrap (x4 + (IntKind.i64.wrap x6)))], [.int .i64 x5]] [1, 1, 1] (by kernel_rfl) (by kernel_rfl) rfl (by kernel_rfl) [[.slice a2 n2 c2], [.int .i64 (IntKind.i64.wrap (x4 + (IntKind.i64.wrap x6)))], [.int .i64 x5]] (by kernel_rfl) (.one rfl (.one rfl (.one rfl .nil))) ?_
 intro g16 st16 hB10
 replace hR2 := hR2.mono st16 (WL.no1 (by omega))
 replace hB4 := hB4.mono st16 (WL.no1 (by omega))
 replace hR8 := hR8.mono st16 (WL.no1 (by omega)) (WL.no1 (by omega))
 replace tot := tot.trans (st16.up1 (.inr (by omega)))
 clear hB2
 have hB2 := hB10
 clear hB10
 refine WP.stl 1 ?_
 refine WP.dn ?_
 refine NX.then_n ?_
 refine CP.ret ?_
 obtain ⟨g17, hw1, st17, hnew⟩ := hR8.relab (by omega) r0
 refine NX.regw hw1 ?_
 replace hB2 := hB2.mono st17 (WL.no1 (by omega))
 replace hR2 := hR2.mono st17 (WL.no1 (by omega))
 replace tot := tot.trans (st17.up1 (.inr (by omega)))
 clear hR8
 have hR8 := hnew
 clear hnew
 replace hs := Option.some.inj hs
 simp only [Prod.mk.injEq] at hs
 obtain ⟨rfl, rfl, rfl, rfl⟩ := hs
 exact NX.fin (v := .tuple #[AG [[.slice a2 n2 c2], [.int .i64 (IntKind.i64.wrap (x4 + (IntKind.i64.wrap x6)))], [.int .i64 x5]], .slice a8 (0 + ((IntKind.i64.wrap (x4 + (IntKind.i64.wrap x6))).toNat - x4.toNat)) c7]) (Res.two rfl (RV.box (agg := true) (size := 3) (rs := [[.slice a2 n2 c2], [.int .i64 (IntKind.i64.wrap (x4 + (IntKind.i64.wrap x6)))], [.int .i64 x5]]) hB2 (by kernel_rfl) (by kernel_rfl) (by kernel_rfl) (by kernel_rfl)) (RV.tmp (by kernel_rfl))) tot htL ⟨a2, n2, c2, a8, (0 + ((IntKind.i64.wrap (x4 + (IntKind.i64.wrap x6))).toNat - x4.toNat)), c7, rfl, hR2, hR8⟩
def F.baizeref34_eight.c2 (nx1 : (Arr Int 8) → Int → Option ((List Int) × Int × Int × (Arr Int 8))) (l3 : List Int) (l5 : List Int) (x7 : Int) (x8 : Int) (d1 : Arr Int 8) (x9 : Int) (q4 : Bool) : Option ((List Int) × Int × Int × (Arr Int 8)) := (if q4 = true then (if (0 : Int) ≤ x9 ∧ x9 < (l3.length : Int) then (if (0 : Int) ≤ x9 ∧ x9 < (8 : Int) then (nx1 (aset d1 x9 (getI l3 x9)) (IntKind.i64.wrap (x9 + 1))) else none) else none) else (some (l5, x7, x8, d1)))
def F.baizeref34_eight.l1 (l3 : List Int) (l5 : List Int) (x7 : Int) (x8 : Int) : Nat → (Arr Int 8) → Int → Option ((List Int) × Int × Int × (Arr Int 8))
 | 0, _, _ => none
 | k + 1, d1, x9 => (if decide (x9 < 8) = true then (F.baizeref34_eight.c2 (F.baizeref34_eight.l1 l3 l5 x7 x8 k) l3 l5 x7 x8 d1 x9 (x8 == 0)) else (F.baizeref34_eight.c2 (F.baizeref34_eight.l1 l3 l5 x7 x8 k) l3 l5 x7 x8 d1 x9 false))
def F.baizeref34_eight.c1 (l3 : List Int) (l5 : List Int) (x7 : Int) (x8 : Int) : Option ((List Int) × Int × Int × (Arr Int 8)) := (F.baizeref34_eight.l1 l3 l5 x7 x8 fuel (zA 8) 0)
def F.baizeref34_eight.c3 (l2 : List Int) (x3 : Int) (x4 : Int) (l3 : List Int) (q5 : Bool) : Option ((List Int) × Int × Int × (Arr Int 8)) := (if q5 = true then ((F.baizeref01_Fail l2 x3 x4 3).bind fun (l6, x11, x12) => (F.baizeref34_eight.c1 l3 l6 x11 x12)) else (F.baizeref34_eight.c1 l3 l2 x3 x4))
def F.baizeref34_eight (l1 : List Int) (x1 : Int) (x2 : Int) : Option ((List Int) × Int × Int × (Arr Int 8)) := ((F.baizeref01_Some l1 x1 x2 8).bind fun (l2, x3, x4, l3) => (if (x4 == 0) = true then (F.baizeref34_eight.c3 l2 x3 x4 l3 ((l3.length : Int) != 8)) else (F.baizeref34_eight.c3 l2 x3 x4 l3 false)))
theorem P.baizeref34_eight (g0 : GW) (l1 : List Int) (x1 : Int) (x2 : Int) (a1 : Option Addr) (n1 : Nat) (c1 : Nat) (hR1 : RdS (Kd.int .u8) g0 5 a1 n1 c1 l1) (o1 : List Int) (o2 : Int) (o3 : Int) (o4 : Arr Int 8) (hs : F.baizeref34_eight l1 x1 x2 = some (o1, o2, o3, o4)) :
  Calls Try.prog 51 #[AG [[.slice a1 n1 c1], [.int .i64 x1], [.int .i64 x2]]] g0.w (Ret NoM g0 fun v g => ∃ (a_1 : Option Addr) (n_1 : Nat) (c_1 : Nat), v = .tuple #[AG [[.slice a_1 n_1 c_1], [.int .i64 o2], [.int .i64 o3]], AG [encA .u8 o4]] ∧ RdS (Kd.int .u8) g 5 a_1 n_1 c_1 o1) := by
 refine calls_of (args := [AG [[.slice a1 n1 c1], [.int .i64 x1], [.int .i64 x2]]]) Try.func51 rfl (0) ?_
 intro t ht htL
 refine ⟨_, rfl, ?_⟩
 refine CP.refr 40 [(0, AG [[.slice a1 n1 c1], [.int .i64 x1], [.int .i64 x2]])] (by kernel_rfl) (by kernel_rfl) ?_
 intro ds
 have tot : Step (fun l => NoM l ∨ t ≤ l) g0 g0 := Step.refl _ _
 unfold F.baizeref34_eight at hs
 refine CP.seqR ?_
 refine WP.alloc (T := 106) (t + 1) [[.slice a1 n1 c1], [.int .i64 x1], [.int .i64 x2]] [1, 1, 1] (by kernel_rfl) rfl ?_
 intro g1 b1 st1 hB1
 replace hR1 := hR1.mono st1 (fun x => x)
 replace tot := tot.trans st1.pure
 refine WP.alloc (T := 106) (t + 2) [[.slice none 0 0], [.int .i64 0], [.int .i64 0]] [1, 1, 1] (by kernel_rfl) rfl ?_
 intro g2 b2 st2 hB2
 replace hR1 := hR1.mono st2 (fun x => x)
 replace hB1 := hB1.mono st2 (fun x => x)
 replace tot := tot.trans st2.pure
 refine WP.alloc (T := 32) (t + 3) [encA .u8 (zA 8)] [8] (by kernel_rfl) (by simp [len_encA]) ?_
 intro g3 b3 st3 hB3
 replace hR1 := hR1.mono st3 (fun x => x)
 replace hB1 := hB1.mono st3 (fun x => x)
 replace hB2 := hB2.mono st3 (fun x => x)
 replace tot := tot.trans st3.pure
 refine WP.dn ?_
 refine NX.then_n ?_
 refine CP.seqR ?_
 refine WP.loadB (v := AG [[.slice a1 n1 c1], [.int .i64 x1], [.int .i64 x2]]) hB1 (by kernel_rfl) (by kernel_rfl) ?_
 replace hs := Option.bind_eq_some_iff.1 hs
 obtain ⟨⟨l2, x3, x4, l3⟩, hk1, hs⟩ := hs
 dsimp only at hs
 have hcal1 := P.baizeref01_Some g3 (t + 4) l1 x1 x2 8 a1 n1 c1 hR1 l2 x3 x4 l3 hk1
 refine WP.callC hcal1 (by kernel_rfl) ?_
 rintro _ g4 st4 ⟨a2, n2, c2, a3, n3, c3, rfl, hR2, hR3⟩
 replace hB1 := hB1.mono st4 (fun x => x)
 replace hR1 := hR1.mono st4 (fun x => x)
 replace hB2 := hB2.mono st4 (fun x => x)
 replace hB3 := hB3.mono st4 (fun x => x)
 replace tot := tot.trans st4.pure
 refine WP.stl 3 ?_
 refine WP.storeB (ty := 106) (off := 0) (v := AG [[.slice a2 n2 c2], [.int .i64 x3], [.int .i64 x4]]) hB1 [[.slice a2 n2 c2], [.int .i64 x3], [.int .i64 x4]] [1, 1, 1] (by kernel_rfl) (by kernel_rfl) rfl (by kernel_rfl) [[.slice a2 n2 c2], [.int .i64 x3], [.int .i64 x4]] (by kernel_rfl) (.one rfl (.one rfl (.one rfl .nil))) ?_
 intro g5 st5 hB4
 replace hR2 := hR2.mono st5 (WL.no1 (by omega))
 replace hB2 := hB2.mono st5 (WL.no1 (by omega))
 replace hB3 := hB3.mono st5 (WL.no1 (by omega))
 replace hR1 := hR1.mono st5 (WL.no1 (by omega))
 replace hR3 := hR3.mono st5 (WL.no1 (by omega)) (WL.no1 (by omega))
 replace tot := tot.trans (st5.up1 (.inr (by omega)))
 clear hB1
 have hB1 := hB4
 clear hB4
 refine WP.stl 1 ?_
 refine WP.dn ?_
 refine NX.then_n ?_
 refine CP.cut (fun tm g => ∃ (l5 : List Int) (a5 : Option Addr) (n5 : Nat) (c5 : Nat) (x7 : Int) (x8 : Int), Fr 40 [(1, .pointer (some ⟨b1, 0, none⟩)), (2, .pointer (some ⟨b2, 0, none⟩)), (3, .pointer (some ⟨b3, 0, none⟩)), (4, .slice a3 n3 c3)] tm ∧ Step (fun l => NoM l ∨ t ≤ l) g0 g ∧ Box g (t + 1) b1 106 [[.slice a5 n5 c5], [.int .i64 x7], [.int .i64 x8]] [1, 1, 1] ∧ RdS (Kd.int .u8) g 5 a5 n5 c5 l5 ∧ Box g (t + 2) b2 106 [[.slice none 0 0], [.int .i64 0], [.int .i64 0]] [1, 1, 1] ∧ Box g (t + 3) b3 32 [encA .u8 (zA 8)] [8] ∧ OwnS (Kd.int .u8) g (t + 4) 5 a3 n3 c3 l3 ∧ (F.baizeref34_eight.c1 l3 l5 x7 x8) = some (o1, o2, o3, o4)) ?_ ?_
 ·refine CP.cut (fun tm g => ∃ (q5 : Bool), Fr 40 [(1, .pointer (some ⟨b1, 0, none⟩)), (2, .pointer (some ⟨b2, 0, none⟩)), (3, .pointer (some ⟨b3, 0, none⟩)), (4, .slice a3 n3 c3), (19, .bool q5)] tm ∧ Step (fun l => NoM l ∨ t ≤ l) g0 g ∧ Box g (t + 1) b1 106 [[.slice a2 n2 c2], [.int .i64 x3], [.int .i64 x4]] [1, 1, 1] ∧ RdS (Kd.int .u8) g 5 a2 n2 c2 l2 ∧ Box g (t + 2) b2 106 [[.slice none 0 0], [.int .i64 0], [.int .i64 0]] [1, 1, 1] ∧ Box g (t + 3) b3 32 [encA .u8 (zA 8)] [8] ∧ OwnS (Kd.int .u8) g (t + 4) 5 a3 n3 c3 l3 ∧ (F.baizeref34_eight.c3 l2 x3 x4 l3 q5) = some (o1, o2, o3, o4)) ?_ ?_
  ·refine CP.region ?_
   refine WP.stl 1 ?_
   refine WP.loadB (v := .int .i64 x4) hB1 (by kernel_rfl) (by kernel_rfl) ?_
   refine WP.stl 2 ?_
   refine WP.guard 15 (b := (x4 == 0)) (by kernel_rfl) (fun h12 => ?_) (fun h12 => ?_)
   ·replace hs := of_if_t hs h12
    refine WP.stl 1 ?_
    refine WP.len (a := a3) (cp := c3) hR3.len (by kernel_rfl) ?_
    refine WP.stl 2 ?_
    refine WP.dn ?_
    refine NX.post ?_
    exact ⟨((l3.length : Int) != 8), ⟨by kernel_rfl, by kernel_rfl⟩, tot, hB1, hR2, hB2, hB3, hR3, hs⟩
   replace hs := of_if_f hs h12
   refine WP.stl 4 ?_
   refine WP.dn ?_
   refine NX.post ?_
   exact ⟨false, ⟨by kernel_rfl, by kernel_rfl⟩, tot, hB1, hR2, hB2, hB3, hR3, hs⟩
  clear tot hs hB1 hR2 hB2 hB3 hR3
  rintro tm g ⟨q5, hF, tot, hB1, hR2, hB2, hB3, hR3, hs⟩
  clear ds
  obtain ⟨ds, rfl⟩ := hF.open
  clear hF
  unfold F.baizeref34_eight.c3 at hs
  refine CP.cond (b := q5) (by kernel_rfl) (fun h11 => ?_) (fun h11 => ?_)
  ·replace hs := of_if_t hs h11
   refine CP.region ?_
   refine WP.loadB (v := AG [[.slice a2 n2 c2], [.int .i64 x3], [.int .i64 x4]]) hB1 (by kernel_rfl) (by kernel_rfl) ?_
   replace hs := Option.bind_eq_some_iff.1 hs
   obtain ⟨⟨l6, x11, x12⟩, hk3, hs⟩ := hs
   dsimp only at hs
   have hcal3 := P.baizeref01_Fail g l2 x3 x4 3 a2 n2 c2 hR2 l6 x11 x12 hk3
   refine WP.callC hcal3 (by kernel_rfl) ?_
   rintro _ g20 st20 ⟨a6, n6, c6, rfl, hR6⟩
   replace hB1 := hB1.mono st20 (fun x => x)
   replace hR2 := hR2.mono st20 (fun x => x)
   replace hB2 := hB2.mono st20 (fun x => x)
   replace hB3 := hB3.mono st20 (fun x => x)
   replace hR3 := hR3.mono st20 (fun x => x) (fun x => x)
   replace tot := tot.trans st20.pure
   refine WP.storeB (ty := 106) (off := 0) (v := AG [[.slice a6 n6 c6], [.int .i64 x11], [.int .i64 x12]]) hB1 [[.slice a6 n6 c6], [.int .i64 x11], [.int .i64 x12]] [1, 1, 1] (by kernel_rfl) (by kernel_rfl) rfl (by kernel_rfl) [[.slice a6 n6 c6], [.int .i64 x11], [.int .i64 x12]] (by kernel_rfl) (.one rfl (.one rfl (.one rfl .nil))) ?_
   intro g21 st21 hB17
   replace hR6 := hR6.mono st21 (WL.no1 (by omega))
   replace hB2 := hB2.mono st21 (WL.no1 (by omega))
   replace hB3 := hB3.mono st21 (WL.no1 (by omega))
   replace hR3 := hR3.mono st21 (WL.no1 (by omega)) (WL.no1 (by omega))
   replace hR2 := hR2.mono st21 (WL.no1 (by omega))
   replace tot := tot.trans (st21.up1 (.inr (by omega)))
   clear hB1
   have hB1 := hB17
   clear hB17
   refine WP.dn ?_
   refine NX.post ?_
   exact ⟨l6, a6, n6, c6, x11, x12, ⟨by kernel_rfl, by kernel_rfl⟩, tot, hB1, hR6, hB2, hB3, hR3, hs⟩
  replace hs := of_if_f hs h11
  refine CP.skip ?_
  refine NX.post ?_
  exact ⟨l2, a2, n2, c2, x3, x4, ⟨by kernel_rfl, by kernel_rfl⟩, tot, hB1, hR2, hB2, hB3, hR3, hs⟩
 clear tot hs hB1 hR2 hB2 hB3 hR3
 rintro tm g ⟨l5, a5, n5, c5, x7, x8, hF, tot, hB1, hR5, hB2, hB3, hR3, hs⟩
 clear ds
 obtain ⟨ds, rfl⟩ := hF.open
 clear hF
 unfold F.baizeref34_eight.c1 at hs
 refine CP.seqR ?_
 refine WP.stl 1 ?_
 refine WP.alloc (T := 32) (t + 5) [encA .u8 (zA 8)] [8] (by kernel_rfl) (by simp [len_encA]) ?_
 intro g8 b4 st8 hB6
 replace hB1 := hB1.mono st8 (fun x => x)
 replace hR5 := hR5.mono st8 (fun x => x)
 replace hB2 := hB2.mono st8 (fun x => x)
 replace hB3 := hB3.mono st8 (fun x => x)
 replace hR3 := hR3.mono st8 (fun x => x) (fun x => x)
 replace tot := tot.trans st8.pure
 refine WP.storeB (ty := 32) (off := 0) (v := AG [encA .u8 (zA 8)]) hB6 [encA .u8 (zA 8)] [8] (by kernel_rfl) (by kernel_rfl) (by simp [len_encA]) (by kernel_rfl) [encA .u8 (zA 8)] (by kernel_rfl) (.arr .nil) ?_
 intro g9 st9 hB7
 replace hB1 := hB1.mono st9 (WL.no1 (by omega))
 replace hR5 := hR5.mono st9 (WL.no1 (by omega))
 replace hB2 := hB2.mono st9 (WL.no1 (by omega))
 replace hB3 := hB3.mono st9 (WL.no1 (by omega))
 replace hR3 := hR3.mono st9 (WL.no1 (by omega)) (WL.no1 (by omega))
 replace tot := tot.trans (st9.up1 (.inr (by omega)))
 clear hB6
 have hB6 := hB7
 clear hB7
 refine WP.dn ?_
 refine NX.then_n ?_
 refine CP.seq ?_
 refine CP.seqR ?_
 refine WP.stl 1 ?_
 refine WP.dn ?_
 refine NX.then_n ?_
 refine CP.block ?_
 generalize fuel = k1 at hs
 refine CP.loop (fun k1 tm g => ∃ (d1 : Arr Int 8) (x9 : Int), Fr 40 [(1, .pointer (some ⟨b1, 0, none⟩)), (2, .pointer (some ⟨b2, 0, none⟩)), (3, .pointer (some ⟨b3, 0, none⟩)), (4, .slice a3 n3 c3), (5, .pointer (some ⟨b4, 0, none⟩)), (6, .int .i64 x9)] tm ∧ Step (fun l => NoM l ∨ t ≤ l) g0 g ∧ Box g (t + 1) b1 106 [[.slice a5 n5 c5], [.int .i64 x7], [.int .i64 x8]] [1, 1, 1] ∧ RdS (Kd.int .u8) g 5 a5 n5 c5 l5 ∧ Box g (t + 2) b2 106 [[.slice none 0 0], [.int .i64 0], [.int .i64 0]] [1, 1, 1] ∧ Box g (t + 3) b3 32 [encA .u8 (zA 8)] [8] ∧ OwnS (Kd.int .u8) g (t + 4) 5 a3 n3 c3 l3 ∧ Box g (t + 5) b4 32 [encA .u8 d1] [8] ∧ F.baizeref34_eight.l1 l3 l5 x7 x8 k1 d1 x9 = some (o1, o2, o3, o4)) k1 ?_ ?_ ?_
 ·exact ⟨(zA 8), 0, ⟨by kernel_rfl, by kernel_rfl⟩, tot, hB1, hR5, hB2, hB3, hR3, hB6, hs⟩
 ·rintro tm g ⟨d1, x9, hF, tot, hB1, hR5, hB2, hB3, hR3, hB6, hs⟩
  exact absurd hs (by simp [F.baizeref34_eight.l1])
 clear tot hs hB1 hR5 hB2 hB3 hR3 hB6
 rintro k1 tm g ⟨d1, x9, hF, tot, hB1, hR5, hB2, hB3, hR3, hB6, hs⟩
 clear ds
 obtain ⟨ds, rfl⟩ := hF.open
 clear hF
 unfold F.baizeref34_eight.l1 at hs
 refine CP.seq ?_
 refine CP.cut (fun tm g => ∃ (q4 : Bool), Fr 40 [(1, .pointer (some ⟨b1, 0, none⟩)), (2, .pointer (some ⟨b2, 0, none⟩)), (3, .pointer (some ⟨b3, 0, none⟩)), (4, .slice a3 n3 c3), (5, .pointer (some ⟨b4, 0, none⟩)), (6, .int .i64 x9), (29, .bool q4)] tm ∧ Step (fun l => NoM l ∨ t ≤ l) g0 g ∧ Box g (t + 1) b1 106 [[.slice a5 n5 c5], [.int .i64 x7], [.int .i64 x8]] [1, 1, 1] ∧ RdS (Kd.int .u8) g 5 a5 n5 c5 l5 ∧ Box g (t + 2) b2 106 [[.slice none 0 0], [.int .i64 0], [.int .i64 0]] [1, 1, 1] ∧ Box g (t + 3) b3 32 [encA .u8 (zA 8)] [8] ∧ OwnS (Kd.int .u8) g (t + 4) 5 a3 n3 c3 l3 ∧ Box g (t + 5) b4 32 [encA .u8 d1] [8] ∧ (F.baizeref34_eight.c2 (F.baizeref34_eight.l1 l3 l5 x7 x8 k1) l3 l5 x7 x8 d1 x9 q4) = some (o1, o2, o3, o4)) ?_ ?_
 ·refine CP.region ?_
  refine WP.stl 3 ?_
  refine WP.guard 25 (b := decide (x9 < 8)) (by kernel_rfl) (fun h9 => ?_) (fun h9 => ?_)
  ·replace hs := of_if_t hs h9
   refine WP.stl 1 ?_
   refine WP.loadB (v := .int .i64 x8) hB1 (by kernel_rfl) (by kernel_rfl) ?_
   refine WP.stl 2 ?_
   refine WP.dn ?_
   refine NX.post ?_
   exact ⟨(x8 == 0), ⟨by kernel_rfl, by kernel_rfl⟩, tot, hB1, hR5, hB2, hB3, hR3, hB6, hs⟩
  replace hs := of_if_f hs h9
  refine WP.stl 4 ?_
  refine WP.dn ?_
  refine NX.post ?_
  exact ⟨false, ⟨by kernel_rfl, by kernel_rfl⟩, tot, hB1, hR5, hB2, hB3, hR3, hB6, hs⟩
 clear tot hs hB1 hR5 hB2 hB3 hR3 hB6
 rintro tm g ⟨q4, hF, tot, hB1, hR5, hB2, hB3, hR3, hB6, hs⟩
 clear ds
 obtain ⟨ds, rfl⟩ := hF.open
 clear hF
 unfold F.baizeref34_eight.c2 at hs
 refine CP.cond (b := q4) (by kernel_rfl) (fun h8 => ?_) (fun h8 => ?_)
 ·replace hs := of_if_t hs h8
  refine CP.skip ?_
  refine NX.then_n ?_
  refine CP.seq ?_
  refine CP.block ?_
  refine CP.region ?_
  refine WP.stl 3 ?_
  by_cases hc4 : (0 : Int) ≤ x9 ∧ x9 < (l3.length : Int)
  case neg => rw [if_neg hc4] at hs; cases hs
  replace hs := of_if_p hs hc4
  obtain ⟨b7, u3, ha3⟩ := hR3.at hc4
  refine WP.indexA (t := 33) (e := 5) (sz := 1) (cap := c3) (k := .i64) (i := x9) hR3.len ha3 (by kernel_rfl) (by kernel_rfl) hc4 ?_
  obtain ⟨cs3, hcR3, hcV3⟩ := hR3.src.view (getI_some hc4) ha3
  replace hcR3 := Kd.o_int hcR3
  refine WP.loadV [[.int .u8 (getI l3 x9)]] [1] hcV3 hcR3 rfl (f := 0) (ty := 5) (agg := false) (size := 1) (rs := [[.int .u8 (getI l3 x9)]]) (v := .int .u8 (getI l3 x9)) (by kernel_rfl) (by kernel_rfl) (by kernel_rfl) (by kernel_rfl) ?_
  by_cases hc5 : (0 : Int) ≤ x9 ∧ x9 < (8 : Int)
  case neg => rw [if_neg hc5] at hs; cases hs
  replace hs := of_if_p hs hc5
  refine WP.ixBox (t := 32) (e := 5) (m := 8) (size := 1) (b := b4) (off := 0) (k := .i64) (i := x9) (by kernel_rfl) (by kernel_rfl) hc5 ?_
  refine WP.storeE (ty := 5) (o := 0) (m := 8) (k := .u8) (d := d1) (i := x9) (x := (getI l3 x9)) hB6 (by kernel_rfl) hc5 (by kernel_rfl) (by kernel_rfl) [encA .u8 (aset d1 x9 (getI l3 x9))] (by kernel_rfl) ?_
  intro g16 st16 hB14
  replace hB1 := hB1.mono st16 (WL.no1 (by omega))
  replace hR5 := hR5.mono st16 (WL.no1 (by omega))
  replace hB2 := hB2.mono st16 (WL.no1 (by omega))
  replace hB3 := hB3.mono st16 (WL.no1 (by omega))
  replace hR3 := hR3.mono st16 (WL.no1 (by omega)) (WL.no1 (by omega))
  replace tot := tot.trans (st16.up1 (.inr (by omega)))
  clear hB6
  have hB6 := hB14
  clear hB14
  refine WP.dn ?_
  refine NX.block_n ?_
  refine NX.then_n ?_
  refine CP.region ?_
  refine WP.stl 3 ?_
  refine WP.dn ?_
  refine NX.post ?_
  exact ⟨(aset d1 x9 (getI l3 x9)), (IntKind.i64.wrap (x9 + 1)), ⟨by kernel_rfl, by kernel_rfl⟩, tot, hB1, hR5, hB2, hB3, hR3, hB6, hs⟩
 replace hs := of_if_f hs h8
 refine CP.exit ?_
 refine NX.then_e ?_
 refine NX.then_e ?_
 refine NX.block_s ?_
 refine NX.then_n ?_
 refine CP.seq ?_
 refine CP.drawL (by kernel_rfl) [0, 1, 2, 3] [[], [], [0], [0, 1, 2]] [⟨none, [], [], fun l g => Box g (t + 1) b1 106 [[.slice a5 n5 c5], [.int .i64 x7], [.int .i64 x8]] [1, 1, 1]⟩, ⟨none, [0], [], fun l g => Box g (t + 2) b2 106 [[.slice none 0 0], [.int .i64 0], [.int .i64 0]] [1, 1, 1]⟩, ⟨none, [1], [], fun l g => Box g (t + 3) b3 32 [encA .u8 (zA 8)] [8]⟩, ⟨none, [], [], fun l g => Box g (t + 5) b4 32 [encA .u8 d1] [8]⟩, ⟨some 0, [], [0], fun l g => l.getD 0 undef = AG [[.slice a5 n5 c5], [.int .i64 x7], [.int .i64 x8]]⟩, ⟨some 1, [], [1], fun l g => l.getD 0 undef = AG [encA .u8 d1]⟩, ⟨some 2, [0], [], fun l g => Box g (t + 2) b2 106 [[.slice a5 n5 c5], [.int .i64 x7], [.int .i64 x8]] [1, 1, 1]⟩, ⟨some 3, [1], [], fun l g => Box g (t + 3) b3 32 [encA .u8 d1] [8]⟩] [[], [], [0], [1]] [(t + 2), (t + 3)] [] [] (by kernel_rfl) (by simp <;> omega) (by simp <;> omega) ⟨fun _ _ _ _ st h0 hl hj hB1 => (hB1.mono st (fun h => absurd (hl _ h) (by simp <;> omega))), fun _ _ _ _ st h0 hl hj hB2 => (hB2.mono st (hj 0 (by simp) _ rfl)), fun _ _ _ _ st h0 hl hj hB3 => (hB3.mono st (hj 1 (by simp) _ rfl)), fun _ _ _ _ st h0 hl hj hB6 => (hB6.mono st (fun h => absurd (hl _ h) (by simp <;> omega))), fun _ _ _ _ st h0 hl hj e0 => e0, fun _ _ _ _ st h0 hl hj e1 => e1, fun _ _ _ _ st h0 hl hj hB2 => (hB2.mono st (hj 0 (by simp) _ rfl)), fun _ _ _ _ st h0 hl hj hB3 => (hB3.mono st (hj 1 (by simp) _ rfl)), tv⟩ ⟨hB1, hB2, hB3, hB6, tv, tv, tv, tv, tv⟩ (by kernel_rfl) (fun vs => by kernel_rfl) ?_ ?_ ?_
 ·intro j hj; exact absurd hj (by simp)
 ·intro j hj
  have hq : j = 0 ∨ j = 1 ∨ j = 2 ∨ j = 3 := by have h : j < 4 := hj; omega
  rcases hq with rfl | rfl | rfl | rfl
  ·intro vs gq stq hl hf
   obtain ⟨v0, v1, v2, v3, rfl⟩ := len_k4 hl
   have hB1 := (show Box gq (t + 1) b1 106 [[.slice a5 n5 c5], [.int .i64 x7], [.int .i64 x8]] [1, 1, 1] from hf _ (memI 0 rfl) (by kernel_rfl))
   refine WP.loadB (v := AG [[.slice a5 n5 c5], [.int .i64 x7], [.int .i64 x8]]) hB1 (by kernel_rfl) (by kernel_rfl) ?_
   refine WP.dn (Shown.ok (v := AG [[.slice a5 n5 c5], [.int .i64 x7], [.int .i64 x8]]) (by kernel_rfl) (Step.refl _ _) ?_)
   exact ⟨tv, tv, tv, tv, rfl, tv, tv, tv, tv⟩
  ·intro vs gq stq hl hf
   obtain ⟨v0, v1, v2, v3, rfl⟩ := len_k4 hl
   have hB6 := (show Box gq (t + 5) b4 32 [encA .u8 d1] [8] from hf _ (memI 3 rfl) (by kernel_rfl))
   refine WP.loadB (v := AG [encA .u8 d1]) hB6 (by kernel_rfl) (by kernel_rfl) ?_
   refine WP.dn (Shown.ok (v := AG [encA .u8 d1]) (by kernel_rfl) (Step.refl _ _) ?_)
   exact ⟨tv, tv, tv, tv, tv, rfl, tv, tv, tv⟩
  ·intro vs gq stq hl hf
   obtain ⟨v0, v1, v2, v3, rfl⟩ := len_k4 hl
   have hB2 := (show Box gq (t + 2) b2 106 [[.slice none 0 0], [.int .i64 0], [.int .i64 0]] [1, 1, 1] from hf _ (memI 1 rfl) (by kernel_rfl))
   have e0 := (show v0 = AG [[.slice a5 n5 c5], [.int .i64 x7], [.int .i64 x8]] from hf _ (memI 4 rfl) (by kernel_rfl))
   subst e0
   refine WP.storeB (ty := 106) (off := 0) (v := AG [[.slice a5 n5 c5], [.int .i64 x7], [.int .i64 x8]]) hB2 [[.slice a5 n5 c5], [.int .i64 x7], [.int .i64 x8]] [1, 1, 1] (by kernel_rfl) (by kernel_rfl) rfl (by kernel_rfl) [[.slice a5 n5 c5], [.int .i64 x7], [.int .i64 x8]] (by kernel_rfl) (.one rfl (.one rfl (.one rfl .nil))) ?_
   intro g17 st17 hB15
   refine WP.dn (Shown.o (v := undef) st17 ?_)
   exact ⟨tv, tv, tv, tv, tv, tv, hB15, tv, tv⟩
  ·intro vs gq stq hl hf
   obtain ⟨v0, v1, v2, v3, rfl⟩ := len_k4 hl
   have hB3 := (show Box gq (t + 3) b3 32 [encA .u8 (zA 8)] [8] from hf _ (memI 2 rfl) (by kernel_rfl))
   have e1 := (show v1 = AG [encA .u8 d1] from hf _ (memI 5 rfl) (by kernel_rfl))
   subst e1
   refine WP.storeB (ty := 32) (off := 0) (v := AG [encA .u8 d1]) hB3 [encA .u8 d1] [8] (by kernel_rfl) (by kernel_rfl) (by simp [len_encA]) (by kernel_rfl) [encA .u8 d1] (by kernel_rfl) (.arr .nil) ?_
   intro g18 st18 hB16
   refine WP.dn (Shown.o (v := undef) st18 ?_)
   exact ⟨tv, tv, tv, tv, tv, tv, tv, hB16, tv⟩
 intro vs g19 st19 hl hf
 obtain ⟨v0, v1, v2, v3, rfl⟩ := len_k4 hl
 have hB2 := (show Box g19 (t + 2) b2 106 [[.slice a5 n5 c5], [.int .i64 x7], [.int .i64 x8]] [1, 1, 1] from hf _ (memI 6 rfl) (by kernel_rfl))
 have hB3 := (show Box g19 (t + 3) b3 32 [encA .u8 d1] [8] from hf _ (memI 7 rfl) (by kernel_rfl))
 replace hR5 := hR5.mono st19 (WL.no2 (by omega) (by omega))
 replace tot := tot.trans (st19.up2 (.inr (by omega)) (.inr (by omega)))
 refine NX.then_n ?_
 refine CP.refr 40 [(2, .pointer (some ⟨b2, 0, none⟩)), (3, .pointer (some ⟨b3, 0, none⟩))] (by kernel_rfl) (by kernel_rfl) ?_
 clear ds
 intro ds
 refine CP.ret ?_
 replace hs := Option.some.inj hs
 simp only [Prod.mk.injEq] at hs
 obtain ⟨rfl, rfl, rfl, rfl⟩ := hs
 exact NX.fin (v := .tuple #[AG [[.slice a5 n5 c5], [.int .i64 x7], [.int .i64 x8]], AG [encA .u8 d1]]) (Res.two rfl (RV.box (agg := true) (size := 3) (rs := [[.slice a5 n5 c5], [.int .i64 x7], [.int .i64 x8]]) hB2 (by kernel_rfl) (by kernel_rfl) (by kernel_rfl) (by kernel_rfl)) (RV.box (agg := true) (size := 8) (rs := [encA .u8 d1]) hB3 (by kernel_rfl) (by kernel_rfl) (by kernel_rfl) (by kernel_rfl))) tot htL ⟨a5, n5, c5, rfl, hR5⟩
def F.baizeref01_End.c1 (x2 : Int) (q1 : Bool) : Option (Int) := (if q1 = true then (some 5) else (some x2))
def F.baizeref01_End (l1 : List Int) (x1 : Int) (x2 : Int) : Option (Int) := (if (x2 == 0) = true then (F.baizeref01_End.c1 x2 (decide (x1 < (l1.length : Int)))) else (F.baizeref01_End.c1 x2 false))
theorem P.baizeref01_End (g0 : GW) (l1 : List Int) (x1 : Int) (x2 : Int) (a1 : Option Addr) (n1 : Nat) (c1 : Nat) (hR1 : RdS (Kd.int .u8) g0 5 a1 n1 c1 l1) (o1 : Int) (hs : F.baizeref01_End l1 x1 x2 = some o1) :
  Calls Try.prog 53 #[AG [[.slice a1 n1 c1], [.int .i64 x1], [.int .i64 x2]]] g0.w (Ret NoM g0 fun v g => v = .int .i64 o1) := by
 refine calls_of (args := [AG [[.slice a1 n1 c1], [.int .i64 x1], [.int .i64 x2]]]) Try.func53 rfl (0) ?_
 intro t ht htL
 refine ⟨_, rfl, ?_⟩
 refine CP.refr 16 [(0, AG [[.slice a1 n1 c1], [.int .i64 x1], [.int .i64 x2]])] (by kernel_rfl) (by kernel_rfl) ?_
 intro ds
 have tot : Step (fun l => NoM l ∨ t ≤ l) g0 g0 := Step.refl _ _
 unfold F.baizeref01_End at hs
 refine CP.seqR ?_
 refine WP.alloc (T := 106) (t + 1) [[.slice a1 n1 c1], [.int .i64 x1], [.int .i64 x2]] [1, 1, 1] (by kernel_rfl) rfl ?_
 intro g1 b1 st1 hB1
 replace hR1 := hR1.mono st1 (fun x => x)
 replace tot := tot.trans st1.pure
 refine WP.stl 1 ?_
 refine WP.dn ?_
 refine NX.then_n ?_
 refine CP.seq ?_
 refine CP.cut (fun tm g => ∃ (q1 : Bool), Fr 16 [(1, .pointer (some ⟨b1, 0, none⟩)), (13, .bool q1)] tm ∧ Step (fun l => NoM l ∨ t ≤ l) g0 g ∧ Box g (t + 1) b1 106 [[.slice a1 n1 c1], [.int .i64 x1], [.int .i64 x2]] [1, 1, 1] ∧ RdS (Kd.int .u8) g 5 a1 n1 c1 l1 ∧ (F.baizeref01_End.c1 x2 q1) = some o1) ?_ ?_
 ·refine CP.region ?_
  refine WP.stl 1 ?_
  refine WP.loadB (v := .int .i64 x2) hB1 (by kernel_rfl) (by kernel_rfl) ?_
  refine WP.stl 2 ?_
  refine WP.guard 6 (b := (x2 == 0)) (by kernel_rfl) (fun h3 => ?_) (fun h3 => ?_)
  ·replace hs := of_if_t hs h3
   refine WP.stl 1 ?_
   refine WP.loadB (v := .int .i64 x1) hB1 (by kernel_rfl) (by kernel_rfl) ?_
   refine WP.stl 1 ?_
   refine WP.loadB (v := .slice a1 n1 c1) hB1 (by kernel_rfl) (by kernel_rfl) ?_
   refine WP.len (a := a1) (cp := c1) hR1.len (by kernel_rfl) ?_
   refine WP.stl 2 ?_
   refine WP.dn ?_
   refine NX.post ?_
   exact ⟨decide (x1 < (l1.length : Int)), ⟨by kernel_rfl, by kernel_rfl⟩, tot, hB1, hR1, hs⟩
  replace hs := of_if_f hs h3
  refine WP.stl 7 ?_
  refine WP.dn ?_
  refine NX.post ?_
  exact ⟨false, ⟨by kernel_rfl, by kernel_rfl⟩, tot, hB1, hR1, hs⟩
 clear tot hs hB1 hR1
 rintro tm g ⟨q1, hF, tot, hB1, hR1, hs⟩
 clear ds
 obtain ⟨ds, rfl⟩ := hF.open
 clear hF
 unfold F.baizeref01_End.c1 at hs
 refine CP.cond (b := q1) (by kernel_rfl) (fun h2 => ?_) (fun h2 => ?_)
 ·replace hs := of_if_t hs h2
  refine CP.seqR ?_
  refine WP.stl 1 ?_
  refine WP.dn ?_
  refine NX.then_n ?_
  refine CP.ret ?_
  refine NX.then_r ?_
  replace hs := Option.some.inj hs
  obtain rfl := hs
  exact NX.fin (v := .int .i64 5) (Res.still (by kernel_rfl)) tot htL rfl
 replace hs := of_if_f hs h2
 refine CP.skip ?_
 refine NX.then_n ?_
 refine CP.seqR ?_
 refine WP.stl 1 ?_
 refine WP.loadB (v := .int .i64 x2) hB1 (by kernel_rfl) (by kernel_rfl) ?_
 refine WP.stl 1 ?_
 refine WP.dn ?_
 refine NX.then_n ?_
 refine CP.ret ?_
 replace hs := Option.some.inj hs
 obtain rfl := hs
 exact NX.fin (v := .int .i64 x2) (Res.still (by kernel_rfl)) tot htL rfl
def F.baizeref34_Decode.c1 (x3 : Int) (d1 : Arr Int 8) (x8 : Int) (l6 : List Int) (x11 : Int) (x12 : Int) (d3 : Arr Int 8) : Option (Int × (Arr Int 8) × Int × (Arr Int 8) × (List Int) × (List Int) × Bool × Int) := ((F.baizeref01_Some l6 x11 x12 4096).bind fun (l7, x13, x14, l8) => ((F.baizeref01_Some l7 x13 x14 4096).bind fun (l9, x15, x16, l10) => ((F.baizeref01_End l9 x15 x16).bind fun x17 => (if (x17 != 0) = true then (some (0, (zA 8), 0, (zA 8), [], [], false, x17)) else (some ((IntKind.i64.wrap x3), d1, (IntKind.i64.wrap x8), d3, l8, l10, false, 0))))))
def F.baizeref34_Decode (l1 : List Int) : Option (Int × (Arr Int 8) × Int × (Arr Int 8) × (List Int) × (List Int) × Bool × Int) := ((F.baizeref01_Read l1 0 0 1).bind fun (l2, x1, x2, x3) => ((F.baizeref34_eight l2 x1 x2).bind fun (l3, x4, x5, d1) => ((F.baizeref01_Read l3 x4 x5 1099511627776).bind fun (l4, x6, x7, x8) => (if (x3 == 1) = true then ((F.baizeref34_eight l4 x6 x7).bind fun (l11, x18, x19, d4) => (F.baizeref34_Decode.c1 x3 d1 x8 l11 x18 x19 d4)) else (F.baizeref34_Decode.c1 x3 d1 x8 l4 x6 x7 (zA 8))))))
theorem P.baizeref34_Decode (g0 : GW) (r0 : Nat) (r1 : Nat) (l1 : List Int) (a1 : Option Addr) (n1 : Nat) (c1 : Nat) (hR1 : RdS (Kd.int .u8) g0 5 a1 n1 c1 l1) (o1 : Int) (o2 : Arr Int 8) (o3 : Int) (o4 : Arr Int 8) (o5 : List Int) (o6 : List Int) (o7 : Bool) (o8 : Int) (hs : F.baizeref34_Decode l1 = some (o1, o2, o3, o4, o5, o6, o7, o8)) :
  Calls Try.prog 17 #[.slice a1 n1 c1] g0.w (Ret NoM g0 fun v g => ∃ (a_1 : Option Addr) (n_1 : Nat) (c_1 : Nat) (a_4 : Option Addr) (n_4 : Nat) (c_4 : Nat), v = .tuple #[AG [[.int .i64 o1], encA .u8 o2, [.int .i64 o3], encA .u8 o4, [.slice a_1 n_1 c_1], [.slice a_4 n_4 c_4], [.bool o7]], .int .i64 o8] ∧ OwnS (Kd.int .u8) g r0 5 a_1 n_1 c_1 o5 ∧ OwnS (Kd.int .u8) g r1 5 a_4 n_4 c_4 o6) := by
 refine calls_of (args := [.slice a1 n1 c1]) Try.func17 rfl (r0 + r1 + 0) ?_
 intro t ht htL
 refine ⟨_, rfl, ?_⟩
 refine CP.refr 59 [(0, .slice a1 n1 c1)] (by kernel_rfl) (by kernel_rfl) ?_
 intro ds
 have tot : Step (fun l => NoM l ∨ t ≤ l) g0 g0 := Step.refl _ _
 unfold F.baizeref34_Decode at hs
 refine CP.seqR ?_
 refine WP.alloc (T := 35) (t + 1) [[.int .i64 0], encA .u8 (zA 8), [.int .i64 0], encA .u8 (zA 8), [.slice none 0 0], [.slice none 0 0], [.bool false]] [1, 8, 1, 8, 1, 1, 1] (by kernel_rfl) (by simp [len_encA]) ?_
 intro g1 b1 st1 hB1
 replace hR1 := hR1.mono st1 (fun x => x)
 replace tot := tot.trans st1.pure
 refine WP.stl 1 ?_
 refine WP.dn ?_
 refine NX.then_n ?_
 refine CP.seqR ?_
 refine WP.stl 2 ?_
 replace hs := Option.bind_eq_some_iff.1 hs
 obtain ⟨⟨l2, x1, x2, x3⟩, hk1, hs⟩ := hs
 dsimp only at hs
 have hcal1 := P.baizeref01_Read g1 l1 0 0 1 a1 n1 c1 hR1 l2 x1 x2 x3 hk1
 refine WP.callC hcal1 (by kernel_rfl) ?_
 rintro _ g2 st2 ⟨a2, n2, c2, rfl, hR2⟩
 replace hR1 := hR1.mono st2 (fun x => x)
 replace hB1 := hB1.mono st2 (fun x => x)
 replace tot := tot.trans st2.pure
 refine WP.stl 3 ?_
 refine WP.alloc (T := 106) (t + 2) [[.slice none 0 0], [.int .i64 0], [.int .i64 0]] [1, 1, 1] (by kernel_rfl) rfl ?_
 intro g3 b2 st3 hB2
 replace hR1 := hR1.mono st3 (fun x => x)
 replace hB1 := hB1.mono st3 (fun x => x)
 replace hR2 := hR2.mono st3 (fun x => x)
 replace tot := tot.trans st3.pure
 refine WP.storeB (ty := 106) (off := 0) (v := AG [[.slice a2 n2 c2], [.int .i64 x1], [.int .i64 x2]]) hB2 [[.slice a2 n2 c2], [.int .i64 x1], [.int .i64 x2]] [1, 1, 1] (by kernel_rfl) (by kernel_rfl) rfl (by kernel_rfl) [[.slice a2 n2 c2], [.int .i64 x1], [.int .i64 x2]] (by kernel_rfl) (.one rfl (.one rfl (.one rfl .nil))) ?_
 intro g4 st4 hB3
 replace hR1 := hR1.mono st4 (WL.no1 (by omega))
 replace hB1 := hB1.mono st4 (WL.no1 (by omega))
 replace hR2 := hR2.mono st4 (WL.no1 (by omega))
 replace tot := tot.trans (st4.up1 (.inr (by omega)))
 clear hB2
 have hB2 := hB3
 clear hB3
 refine WP.stl 1 ?_
 refine WP.dn ?_
 refine NX.then_n ?_
 refine CP.seqR ?_
 refine WP.stl 2 ?_
 refine WP.buildS (places := #[(0, 1), (1, 8), (9, 1), (10, 8), (18, 1), (19, 1), (20, 1)]) (t := 35) [[.int .i64 0], encA .u8 (zA 8), [.int .i64 0], encA .u8 (zA 8), [.slice none 0 0], [.slice none 0 0], [.bool false]] [1, 8, 1, 8, 1, 1, 1] (by kernel_rfl) (by kernel_rfl) (by simp [len_encA]) (by kernel_rfl) ((.cons (i := 0) (off := 0) (v := .int .i64 (IntKind.i64.wrap x3)) (mid := [[.int .i64 (IntKind.i64.wrap x3)], encA .u8 (zA 8), [.int .i64 0], encA .u8 (zA 8), [.slice none 0 0], [.slice none 0 0], [.bool false]]) [[.int .i64 (IntKind.i64.wrap x3)]] [1] (by kernel_rfl) (by kernel_rfl) rfl (by kernel_rfl) .nil)) ?_
 refine WP.alloc (T := 35) (t + 3) [[.int .i64 0], encA .u8 (zA 8), [.int .i64 0], encA .u8 (zA 8), [.slice none 0 0], [.slice none 0 0], [.bool false]] [1, 8, 1, 8, 1, 1, 1] (by kernel_rfl) (by simp [len_encA]) ?_
 intro g5 b3 st5 hB4
 replace hB1 := hB1.mono st5 (fun x => x)
 replace hB2 := hB2.mono st5 (fun x => x)
 replace hR2 := hR2.mono st5 (fun x => x)
 replace tot := tot.trans st5.pure
 refine WP.storeB (ty := 35) (off := 0) (v := AG [[.int .i64 (IntKind.i64.wrap x3)], encA .u8 (zA 8), [.int .i64 0], encA .u8 (zA 8), [.slice none 0 0], [.slice none 0 0], [.bool false]]) hB4 [[.int .i64 (IntKind.i64.wrap x3)], encA .u8 (zA 8), [.int .i64 0], encA .u8 (zA 8), [.slice none 0 0], [.slice none 0 0], [.bool false]] [1, 8, 1, 8, 1, 1, 1] (by kernel_rfl) (by kernel_rfl) (by simp [len_encA]) (by kernel_rfl) [[.int .i64 (IntKind.i64.wrap x3)], encA .u8 (zA 8), [.int .i64 0], encA .u8 (zA 8), [.slice none 0 0], [.slice none 0 0], [.bool false]] (by kernel_rfl) (.one rfl (.arr (.one rfl (.arr (.one rfl (.one rfl (.one rfl .nil))))))) ?_
 intro g6 st6 hB5
 replace hB1 := hB1.mono st6 (WL.no1 (by omega))
 replace hB2 := hB2.mono st6 (WL.no1 (by omega))
 replace hR2 := hR2.mono st6 (WL.no1 (by omega))
 replace tot := tot.trans (st6.up1 (.inr (by omega)))
 clear hB4
 have hB4 := hB5
 clear hB5
 refine WP.dn ?_
 refine NX.then_n ?_
 refine CP.refr 59 [(2, .pointer (some ⟨b1, 0, none⟩)), (4, .pointer (some ⟨b2, 0, none⟩)), (5, .int .u64 x3), (6, .pointer (some ⟨b3, 0, none⟩))] (by kernel_rfl) (by kernel_rfl) ?_
 clear ds
 intro ds
 refine CP.seqR ?_
 refine WP.loadB (v := AG [[.slice a2 n2 c2], [.int .i64 x1], [.int .i64 x2]]) hB2 (by kernel_rfl) (by kernel_rfl) ?_
 replace hs := Option.bind_eq_some_iff.1 hs
 obtain ⟨⟨l3, x4, x5, d1⟩, hk2, hs⟩ := hs
 dsimp only at hs
 have hcal2 := P.baizeref34_eight g6 l2 x1 x2 a2 n2 c2 hR2 l3 x4 x5 d1 hk2
 refine WP.callC hcal2 (by kernel_rfl) ?_
 rintro _ g7 st7 ⟨a3, n3, c3, rfl, hR3⟩
 replace hB1 := hB1.mono st7 (fun x => x)
 replace hB2 := hB2.mono st7 (fun x => x)
 replace hR2 := hR2.mono st7 (fun x => x)
 replace hB4 := hB4.mono st7 (fun x => x)
 replace tot := tot.trans st7.pure
 refine WP.stl 3 ?_
 refine WP.storeB (ty := 106) (off := 0) (v := AG [[.slice a3 n3 c3], [.int .i64 x4], [.int .i64 x5]]) hB2 [[.slice a3 n3 c3], [.int .i64 x4], [.int .i64 x5]] [1, 1, 1] (by kernel_rfl) (by kernel_rfl) rfl (by kernel_rfl) [[.slice a3 n3 c3], [.int .i64 x4], [.int .i64 x5]] (by kernel_rfl) (.one rfl (.one rfl (.one rfl .nil))) ?_
 intro g8 st8 hB6
 replace hB1 := hB1.mono st8 (WL.no1 (by omega))
 replace hR3 := hR3.mono st8 (WL.no1 (by omega))
 replace hB4 := hB4.mono st8 (WL.no1 (by omega))
 replace hR2 := hR2.mono st8 (WL.no1 (by omega))
 replace tot := tot.trans (st8.up1 (.inr (by omega)))
 clear hB2
 have hB2 := hB6
 clear hB6
 refine WP.stl 1 ?_
 refine WP.storeB (ty := 32) (off := 1) (v := AG [encA .u8 d1]) hB4 [encA .u8 d1] [8] (by kernel_rfl) (by kernel_rfl) (by simp [len_encA]) (by kernel_rfl) [[.int .i64 (IntKind.i64.wrap x3)], encA .u8 d1, [.int .i64 0], encA .u8 (zA 8), [.slice none 0 0], [.slice none 0 0], [.bool false]] (by kernel_rfl) (.arr .nil) ?_
 intro g9 st9 hB7
 replace hB1 := hB1.mono st9 (WL.no1 (by omega))
 replace hB2 := hB2.mono st9 (WL.no1 (by omega))
 replace hR3 := hR3.mono st9 (WL.no1 (by omega))
 replace hR2 := hR2.mono st9 (WL.no1 (by omega))
 replace tot := tot.trans (st9.up1 (.inr (by omega)))
 clear hB4
 have hB4 := hB7
 clear hB7
 refine WP.dn ?_
 refine NX.then_n ?_
 refine CP.seqR ?_
 refine WP.stl 1 ?_
 refine WP.dn ?_
 refine NX.then_n ?_
 refine CP.seqR ?_
 refine WP.loadB (v := AG [[.slice a3 n3 c3], [.int .i64 x4], [.int .i64 x5]]) hB2 (by kernel_rfl) (by kernel_rfl) ?_
 replace hs := Option.bind_eq_some_iff.1 hs
 obtain ⟨⟨l4, x6, x7, x8⟩, hk3, hs⟩ := hs
 dsimp only at hs
 have hcal3 := P.baizeref01_Read g9 l3 x4 x5 1099511627776 a3 n3 c3 hR3 l4 x6 x7 x8 hk3
 refine WP.callC hcal3 (by kernel_rfl) ?_
 rintro _ g10 st10 ⟨a4, n4, c4, rfl, hR4⟩
 replace hB1 := hB1.mono st10 (fun x => x)
 replace hB2 := hB2.mono st10 (fun x => x)
 replace hR3 := hR3.mono st10 (fun x => x)
 replace hB4 := hB4.mono st10 (fun x => x)
 replace tot := tot.trans st10.pure
 refine WP.stl 3 ?_
 refine WP.storeB (ty := 106) (off := 0) (v := AG [[.slice a4 n4 c4], [.int .i64 x6], [.int .i64 x7]]) hB2 [[.slice a4 n4 c4], [.int .i64 x6], [.int .i64 x7]] [1, 1, 1] (by kernel_rfl) (by kernel_rfl) rfl (by kernel_rfl) [[.slice a4 n4 c4], [.int .i64 x6], [.int .i64 x7]] (by kernel_rfl) (.one rfl (.one rfl (.one rfl .nil))) ?_
 intro g11 st11 hB8
 replace hB1 := hB1.mono st11 (WL.no1 (by omega))
 replace hR4 := hR4.mono st11 (WL.no1 (by omega))
 replace hB4 := hB4.mono st11 (WL.no1 (by omega))
 replace hR3 := hR3.mono st11 (WL.no1 (by omega))
 replace tot := tot.trans (st11.up1 (.inr (by omega)))
 clear hB2
 have hB2 := hB8
 clear hB8
 refine WP.stl 1 ?_
 refine WP.dn ?_
 refine NX.then_n ?_
 refine CP.refr 59 [(2, .pointer (some ⟨b1, 0, none⟩)), (4, .pointer (some ⟨b2, 0, none⟩)), (5, .int .u64 x3), (6, .pointer (some ⟨b3, 0, none⟩)), (7, .int .u64 x8)] (by kernel_rfl) (by kernel_rfl) ?_
 clear ds
 intro ds
 refine CP.seqR ?_
 refine WP.stl 3 ?_
 refine WP.storeB (ty := 3) (off := 9) (v := .int .i64 (IntKind.i64.wrap x8)) hB4 [[.int .i64 (IntKind.i64.wrap x8)]] [1] (by kernel_rfl) (by kernel_rfl) rfl (by kernel_rfl) [[.int .i64 (IntKind.i64.wrap x3)], encA .u8 d1, [.int .i64 (IntKind.i64.wrap x8)], encA .u8 (zA 8), [.slice none 0 0], [.slice none 0 0], [.bool false]] (by kernel_rfl) (.one rfl .nil) ?_
 intro g12 st12 hB9
 replace hB1 := hB1.mono st12 (WL.no1 (by omega))
 replace hB2 := hB2.mono st12 (WL.no1 (by omega))
 replace hR4 := hR4.mono st12 (WL.no1 (by omega))
 replace tot := tot.trans (st12.up1 (.inr (by omega)))
 clear hB4
 have hB4 := hB9
 clear hB9
 refine WP.dn ?_
 refine NX.then_n ?_
 refine CP.cut (fun tm g => ∃ (l6 : List Int) (a6 : Option Addr) (n6 : Nat) (c6 : Nat) (x11 : Int) (x12 : Int) (d3 : Arr Int 8), Fr 59 [(2, .pointer (some ⟨b1, 0, none⟩)), (4, .pointer (some ⟨b2, 0, none⟩)), (6, .pointer (some ⟨b3, 0, none⟩))] tm ∧ Step (fun l => NoM l ∨ t ≤ l) g0 g ∧ Box g (t + 1) b1 35 [[.int .i64 0], encA .u8 (zA 8), [.int .i64 0], encA .u8 (zA 8), [.slice none 0 0], [.slice none 0 0], [.bool false]] [1, 8, 1, 8, 1, 1, 1] ∧ Box g (t + 2) b2 106 [[.slice a6 n6 c6], [.int .i64 x11], [.int .i64 x12]] [1, 1, 1] ∧ RdS (Kd.int .u8) g 5 a6 n6 c6 l6 ∧ Box g (t + 3) b3 35 [[.int .i64 (IntKind.i64.wrap x3)], encA .u8 d1, [.int .i64 (IntKind.i64.wrap x8)], encA .u8 d3, [.slice none 0 0], [.slice none 0 0], [.bool false]] [1, 8, 1, 8, 1, 1, 1] ∧ (F.baizeref34_Decode.c1 x3 d1 x8 l6 x11 x12 d3) = some (o1, o2, o3, o4, o5, o6, o7, o8)) ?_ ?_
 ·refine CP.seqR ?_
  refine WP.stl 2 ?_
  refine WP.dn ?_
  refine NX.then_n ?_
  refine CP.cond (b := (x3 == 1)) (by kernel_rfl) (fun h3 => ?_) (fun h3 => ?_)
  ·replace hs := of_if_t hs h3
   refine CP.region ?_
   refine WP.loadB (v := AG [[.slice a4 n4 c4], [.int .i64 x6], [.int .i64 x7]]) hB2 (by kernel_rfl) (by kernel_rfl) ?_
   replace hs := Option.bind_eq_some_iff.1 hs
   obtain ⟨⟨l11, x18, x19, d4⟩, hk8, hs⟩ := hs
   dsimp only at hs
   have hcal8 := P.baizeref34_eight g12 l4 x6 x7 a4 n4 c4 hR4 l11 x18 x19 d4 hk8
   refine WP.callC hcal8 (by kernel_rfl) ?_
   rintro _ g27 st27 ⟨a11, n11, c11, rfl, hR11⟩
   replace hB1 := hB1.mono st27 (fun x => x)
   replace hB2 := hB2.mono st27 (fun x => x)
   replace hR4 := hR4.mono st27 (fun x => x)
   replace hB4 := hB4.mono st27 (fun x => x)
   replace tot := tot.trans st27.pure
   refine WP.stl 3 ?_
   refine WP.storeB (ty := 106) (off := 0) (v := AG [[.slice a11 n11 c11], [.int .i64 x18], [.int .i64 x19]]) hB2 [[.slice a11 n11 c11], [.int .i64 x18], [.int .i64 x19]] [1, 1, 1] (by kernel_rfl) (by kernel_rfl) rfl (by kernel_rfl) [[.slice a11 n11 c11], [.int .i64 x18], [.int .i64 x19]] (by kernel_rfl) (.one rfl (.one rfl (.one rfl .nil))) ?_
   intro g28 st28 hB18
   replace hB1 := hB1.mono st28 (WL.no1 (by omega))
   replace hR11 := hR11.mono st28 (WL.no1 (by omega))
   replace hB4 := hB4.mono st28 (WL.no1 (by omega))
   replace hR4 := hR4.mono st28 (WL.no1 (by omega))
   replace tot := tot.trans (st28.up1 (.inr (by omega)))
   clear hB2
   have hB2 := hB18
   clear hB18
   refine WP.stl 1 ?_
   refine WP.storeB (ty := 32) (off := 10) (v := AG [encA .u8 d4]) hB4 [encA .u8 d4] [8] (by kernel_rfl) (by kernel_rfl) (by simp [len_encA]) (by kernel_rfl) [[.int .i64 (IntKind.i64.wrap x3)], encA .u8 d1, [.int .i64 (IntKind.i64.wrap x8)], encA .u8 d4, [.slice none 0 0], [.slice none 0 0], [.bool false]] (by kernel_rfl) (.arr .nil) ?_
   intro g29 st29 hB19
   replace hB1 := hB1.mono st29 (WL.no1 (by omega))
   replace hB2 := hB2.mono st29 (WL.no1 (by omega))
   replace hR11 := hR11.mono st29 (WL.no1 (by omega))
   replace hR4 := hR4.mono st29 (WL.no1 (by omega))
   replace tot := tot.trans (st29.up1 (.inr (by omega)))
   clear hB4
   have hB4 := hB19
   clear hB19
   refine WP.dn ?_
   refine NX.post ?_
   exact ⟨l11, a11, n11, c11, x18, x19, d4, ⟨by kernel_rfl, by kernel_rfl⟩, tot, hB1, hB2, hR11, hB4, hs⟩
  replace hs := of_if_f hs h3
  refine CP.skip ?_
  refine NX.post ?_
  exact ⟨l4, a4, n4, c4, x6, x7, (zA 8), ⟨by kernel_rfl, by kernel_rfl⟩, tot, hB1, hB2, hR4, hB4, hs⟩
 clear tot hs hB1 hB2 hR4 hB4
 rintro tm g ⟨l6, a6, n6, c6, x11, x12, d3, hF, tot, hB1, hB2, hR6, hB4, hs⟩
 clear ds
 obtain ⟨ds, rfl⟩ := hF.open
 clear hF
 unfold F.baizeref34_Decode.c1 at hs
 refine CP.seqR ?_
 refine WP.loadB (v := AG [[.slice a6 n6 c6], [.int .i64 x11], [.int .i64 x12]]) hB2 (by kernel_rfl) (by kernel_rfl) ?_
 replace hs := Option.bind_eq_some_iff.1 hs
 obtain ⟨⟨l7, x13, x14, l8⟩, hk5, hs⟩ := hs
 dsimp only at hs
 have hcal5 := P.baizeref01_Some g (t + 4) l6 x11 x12 4096 a6 n6 c6 hR6 l7 x13 x14 l8 hk5
 refine WP.callC hcal5 (by kernel_rfl) ?_
 rintro _ g16 st16 ⟨a7, n7, c7, a8, n8, c8, rfl, hR7, hR8⟩
 replace hB1 := hB1.mono st16 (fun x => x)
 replace hB2 := hB2.mono st16 (fun x => x)
 replace hR6 := hR6.mono st16 (fun x => x)
 replace hB4 := hB4.mono st16 (fun x => x)
 replace tot := tot.trans st16.pure
 refine WP.stl 3 ?_
 refine WP.storeB (ty := 106) (off := 0) (v := AG [[.slice a7 n7 c7], [.int .i64 x13], [.int .i64 x14]]) hB2 [[.slice a7 n7 c7], [.int .i64 x13], [.int .i64 x14]] [1, 1, 1] (by kernel_rfl) (by kernel_rfl) rfl (by kernel_rfl) [[.slice a7 n7 c7], [.int .i64 x13], [.int .i64 x14]] (by kernel_rfl) (.one rfl (.one rfl (.one rfl .nil))) ?_
 intro g17 st17 hB12
 replace hB1 := hB1.mono st17 (WL.no1 (by omega))
 replace hR7 := hR7.mono st17 (WL.no1 (by omega))
 replace hB4 := hB4.mono st17 (WL.no1 (by omega))
 replace hR6 := hR6.mono st17 (WL.no1 (by omega))
 replace hR8 := hR8.mono st17 (WL.no1 (by omega)) (WL.no1 (by omega))
 replace tot := tot.trans (st17.up1 (.inr (by omega)))
 clear hB2
 have hB2 := hB12
 clear hB12
 refine WP.stl 1 ?_
 refine WP.storeB (ty := 33) (off := 18) (v := .slice a8 n8 c8) hB4 [[.slice a8 n8 c8]] [1] (by kernel_rfl) (by kernel_rfl) rfl (by kernel_rfl) [[.int .i64 (IntKind.i64.wrap x3)], encA .u8 d1, [.int .i64 (IntKind.i64.wrap x8)], encA .u8 d3, [.slice a8 n8 c8], [.slice none 0 0], [.bool false]] (by kernel_rfl) (.one rfl .nil) ?_
 intro g18 st18 hB13
 replace hB1 := hB1.mono st18 (WL.no1 (by omega))
 replace hB2 := hB2.mono st18 (WL.no1 (by omega))
 replace hR7 := hR7.mono st18 (WL.no1 (by omega))
 replace hR8 := hR8.mono st18 (WL.no1 (by omega)) (WL.no1 (by omega))
 replace hR6 := hR6.mono st18 (WL.no1 (by omega))
 replace tot := tot.trans (st18.up1 (.inr (by omega)))
 clear hB4
 have hB4 := hB13
 clear hB13
 refine WP.dn ?_
 refine NX.then_n ?_
 refine CP.seqR ?_
 refine WP.loadB (v := AG [[.slice a7 n7 c7], [.int .i64 x13], [.int .i64 x14]]) hB2 (by kernel_rfl) (by kernel_rfl) ?_
 replace hs := Option.bind_eq_some_iff.1 hs
 obtain ⟨⟨l9, x15, x16, l10⟩, hk6, hs⟩ := hs
 dsimp only at hs
 have hcal6 := P.baizeref01_Some g18 (t + 5) l7 x13 x14 4096 a7 n7 c7 hR7 l9 x15 x16 l10 hk6
 refine WP.callC hcal6 (by kernel_rfl) ?_
 rintro _ g19 st19 ⟨a9, n9, c9, a10, n10, c10, rfl, hR9, hR10⟩
 replace hB1 := hB1.mono st19 (fun x => x)
 replace hB2 := hB2.mono st19 (fun x => x)
 replace hR7 := hR7.mono st19 (fun x => x)
 replace hB4 := hB4.mono st19 (fun x => x)
 replace hR8 := hR8.mono st19 (fun x => x) (fun x => x)
 replace tot := tot.trans st19.pure
 refine WP.stl 3 ?_
 refine WP.storeB (ty := 106) (off := 0) (v := AG [[.slice a9 n9 c9], [.int .i64 x15], [.int .i64 x16]]) hB2 [[.slice a9 n9 c9], [.int .i64 x15], [.int .i64 x16]] [1, 1, 1] (by kernel_rfl) (by kernel_rfl) rfl (by kernel_rfl) [[.slice a9 n9 c9], [.int .i64 x15], [.int .i64 x16]] (by kernel_rfl) (.one rfl (.one rfl (.one rfl .nil))) ?_
 intro g20 st20 hB14
 replace hB1 := hB1.mono st20 (WL.no1 (by omega))
 replace hR9 := hR9.mono st20 (WL.no1 (by omega))
 replace hB4 := hB4.mono st20 (WL.no1 (by omega))
 replace hR8 := hR8.mono st20 (WL.no1 (by omega)) (WL.no1 (by omega))
 replace hR7 := hR7.mono st20 (WL.no1 (by omega))
 replace hR10 := hR10.mono st20 (WL.no1 (by omega)) (WL.no1 (by omega))
 replace tot := tot.trans (st20.up1 (.inr (by omega)))
 clear hB2
 have hB2 := hB14
 clear hB14
 refine WP.stl 1 ?_
 refine WP.storeB (ty := 33) (off := 19) (v := .slice a10 n10 c10) hB4 [[.slice a10 n10 c10]] [1] (by kernel_rfl) (by kernel_rfl) rfl (by kernel_rfl) [[.int .i64 (IntKind.i64.wrap x3)], encA .u8 d1, [.int .i64 (IntKind.i64.wrap x8)], encA .u8 d3, [.slice a8 n8 c8], [.slice a10 n10 c10], [.bool false]] (by kernel_rfl) (.one rfl .nil) ?_
 intro g21 st21 hB15
 replace hB1 := hB1.mono st21 (WL.no1 (by omega))
 replace hB2 := hB2.mono st21 (WL.no1 (by omega))
 replace hR9 := hR9.mono st21 (WL.no1 (by omega))
 replace hR8 := hR8.mono st21 (WL.no1 (by omega)) (WL.no1 (by omega))
 replace hR10 := hR10.mono st21 (WL.no1 (by omega)) (WL.no1 (by omega))
 replace hR7 := hR7.mono st21 (WL.no1 (by omega))
 replace tot := tot.trans (st21.up1 (.inr (by omega)))
 clear hB4
 have hB4 := hB15
 clear hB15
 refine WP.dn ?_
 refine NX.then_n ?_
 refine CP.refr 59 [(2, .pointer (some ⟨b1, 0, none⟩)), (4, .pointer (some ⟨b2, 0, none⟩)), (6, .pointer (some ⟨b3, 0, none⟩))] (by kernel_rfl) (by kernel_rfl) ?_
 clear ds
 intro ds
 refine CP.seq ?_
 refine CP.seqR ?_
 refine WP.loadB (v := AG [[.slice a9 n9 c9], [.int .i64 x15], [.int .i64 x16]]) hB2 (by kernel_rfl) (by kernel_rfl) ?_
 replace hs := Option.bind_eq_some_iff.1 hs
 obtain ⟨x17, hk7, hs⟩ := hs
 have hcal7 := P.baizeref01_End g21 l9 x15 x16 a9 n9 c9 hR9 x17 hk7
 refine WP.callC hcal7 (by kernel_rfl) ?_
 rintro _ g22 st22 rfl
 replace hB1 := hB1.mono st22 (fun x => x)
 replace hB2 := hB2.mono st22 (fun x => x)
 replace hR9 := hR9.mono st22 (fun x => x)
 replace hB4 := hB4.mono st22 (fun x => x)
 replace hR8 := hR8.mono st22 (fun x => x) (fun x => x)
 replace hR10 := hR10.mono st22 (fun x => x) (fun x => x)
 replace tot := tot.trans st22.pure
 refine WP.stl 1 ?_
 refine WP.dn ?_
 refine NX.then_n ?_
 refine CP.seqR ?_
 refine WP.stl 2 ?_
 refine WP.dn ?_
 refine NX.then_n ?_
 refine CP.cond (b := (x17 != 0)) (by kernel_rfl) (fun h2 => ?_) (fun h2 => ?_)
 ·replace hs := of_if_t hs h2
  refine CP.seqR ?_
  refine WP.buildS (places := #[(0, 1), (1, 8), (9, 1), (10, 8), (18, 1), (19, 1), (20, 1)]) (t := 35) [[.int .i64 0], encA .u8 (zA 8), [.int .i64 0], encA .u8 (zA 8), [.slice none 0 0], [.slice none 0 0], [.bool false]] [1, 8, 1, 8, 1, 1, 1] (by kernel_rfl) (by kernel_rfl) (by simp [len_encA]) (by kernel_rfl) (.nil) ?_
  refine WP.stl 1 ?_
  refine WP.storeB (ty := 35) (off := 0) (v := AG [[.int .i64 0], encA .u8 (zA 8), [.int .i64 0], encA .u8 (zA 8), [.slice none 0 0], [.slice none 0 0], [.bool false]]) hB1 [[.int .i64 0], encA .u8 (zA 8), [.int .i64 0], encA .u8 (zA 8), [.slice none 0 0], [.slice none 0 0], [.bool false]] [1, 8, 1, 8, 1, 1, 1] (by kernel_rfl) (by kernel_rfl) (by simp [len_encA]) (by kernel_rfl) [[.int .i64 0], encA .u8 (zA 8), [.int .i64 0], encA .u8 (zA 8), [.slice none 0 0], [.slice none 0 0], [.bool false]] (by kernel_rfl) (.one rfl (.arr (.one rfl (.arr (.one rfl (.one rfl (.one rfl .nil))))))) ?_
  intro g23 st23 hB16
  replace hB4 := hB4.mono st23 (WL.no1 (by omega))
  replace hR8 := hR8.mono st23 (WL.no1 (by omega)) (WL.no1 (by omega))
  replace hR10 := hR10.mono st23 (WL.no1 (by omega)) (WL.no1 (by omega))
  replace tot := tot.trans (st23.up1 (.inr (by omega)))
  clear hB1
  have hB1 := hB16
  clear hB16
  refine WP.stl 1 ?_
  refine WP.dn ?_
  refine NX.then_n ?_
  refine CP.ret ?_
  refine NX.then_r ?_
  replace hs := Option.some.inj hs
  simp only [Prod.mk.injEq] at hs
  obtain ⟨rfl, rfl, rfl, rfl, rfl, rfl, rfl, rfl⟩ := hs
  exact NX.fin (v := .tuple #[AG [[.int .i64 0], encA .u8 (zA 8), [.int .i64 0], encA .u8 (zA 8), [.slice none 0 0], [.slice none 0 0], [.bool false]], .int .i64 x17]) (Res.two rfl (RV.box (agg := true) (size := 21) (rs := [[.int .i64 0], encA .u8 (zA 8), [.int .i64 0], encA .u8 (zA 8), [.slice none 0 0], [.slice none 0 0], [.bool false]]) hB1 (by kernel_rfl) (by kernel_rfl) (by kernel_rfl) (by kernel_rfl)) (RV.tmp (by kernel_rfl))) tot htL ⟨none, 0, 0, none, 0, 0, rfl, (OwnS.nil _ _ _ _), (OwnS.nil _ _ _ _)⟩
 replace hs := of_if_f hs h2
 refine CP.skip ?_
 refine NX.then_n ?_
 refine CP.seqR ?_
 refine WP.loadB (v := AG [[.int .i64 (IntKind.i64.wrap x3)], encA .u8 d1, [.int .i64 (IntKind.i64.wrap x8)], encA .u8 d3, [.slice a8 n8 c8], [.slice a10 n10 c10], [.bool false]]) hB4 (by kernel_rfl) (by kernel_rfl) ?_
 refine WP.storeB (ty := 35) (off := 0) (v := AG [[.int .i64 (IntKind.i64.wrap x3)], encA .u8 d1, [.int .i64 (IntKind.i64.wrap x8)], encA .u8 d3, [.slice a8 n8 c8], [.slice a10 n10 c10], [.bool false]]) hB1 [[.int .i64 (IntKind.i64.wrap x3)], encA .u8 d1, [.int .i64 (IntKind.i64.wrap x8)], encA .u8 d3, [.slice a8 n8 c8], [.slice a10 n10 c10], [.bool false]] [1, 8, 1, 8, 1, 1, 1] (by kernel_rfl) (by kernel_rfl) (by simp [len_encA]) (by kernel_rfl) [[.int .i64 (IntKind.i64.wrap x3)], encA .u8 d1, [.int .i64 (IntKind.i64.wrap x8)], encA .u8 d3, [.slice a8 n8 c8], [.slice a10 n10 c10], [.bool false]] (by kernel_rfl) (.one rfl (.arr (.one rfl (.arr (.one rfl (.one rfl (.one rfl .nil))))))) ?_
 intro g24 st24 hB17
 replace hR8 := hR8.mono st24 (WL.no1 (by omega)) (WL.no1 (by omega))
 replace hR10 := hR10.mono st24 (WL.no1 (by omega)) (WL.no1 (by omega))
 replace hB4 := hB4.mono st24 (WL.no1 (by omega))
 replace tot := tot.trans (st24.up1 (.inr (by omega)))
 clear hB1
 have hB1 := hB17
 clear hB17
 refine WP.stl 1 ?_
 refine WP.dn ?_
 refine NX.then_n ?_
 refine CP.ret ?_
 obtain ⟨g25, hw1, st25, hnew⟩ := hR8.relab (by omega) r0
 refine NX.regw hw1 ?_
 replace hB1 := hB1.mono st25 (WL.no1 (by omega))
 replace hR10 := hR10.mono st25 (WL.no1 (by omega)) (WL.no1 (by omega))
 replace tot := tot.trans (st25.up1 (.inr (by omega)))
 clear hR8
 have hR8 := hnew
 clear hnew
 obtain ⟨g26, hw2, st26, hnew⟩ := hR10.relab (by omega) r1
 refine NX.regw hw2 ?_
 replace hB1 := hB1.mono st26 (WL.no1 (by omega))
 replace hR8 := hR8.mono st26 (WL.no1 (by omega)) (WL.no1 (by omega))
 replace tot := tot.trans (st26.up1 (.inr (by omega)))
 clear hR10
 have hR10 := hnew
 clear hnew
 replace hs := Option.some.inj hs
 simp only [Prod.mk.injEq] at hs
 obtain ⟨rfl, rfl, rfl, rfl, rfl, rfl, rfl, rfl⟩ := hs
 exact NX.fin (v := .tuple #[AG [[.int .i64 (IntKind.i64.wrap x3)], encA .u8 d1, [.int .i64 (IntKind.i64.wrap x8)], encA .u8 d3, [.slice a8 n8 c8], [.slice a10 n10 c10], [.bool false]], .int .i64 0]) (Res.two rfl (RV.box (agg := true) (size := 21) (rs := [[.int .i64 (IntKind.i64.wrap x3)], encA .u8 d1, [.int .i64 (IntKind.i64.wrap x8)], encA .u8 d3, [.slice a8 n8 c8], [.slice a10 n10 c10], [.bool false]]) hB1 (by kernel_rfl) (by kernel_rfl) (by kernel_rfl) (by kernel_rfl)) (RV.tmp (by kernel_rfl))) tot htL ⟨a8, n8, c8, a10, n10, c10, rfl, hR8, hR10⟩
def F.baizelaw34_To.c1 (x1 : Int) (l3 : List Int) (d4 : Arr Int 8) (x4 : Int) (d5 : Arr Int 8) (l4 : List Int) : Option (Int × (Arr Int 8) × Int × (Arr Int 8) × (List Int) × (List Int) × Bool) := (some (x1, d4, x4, d5, l4, l3, false))
def N.baizelaw34_To_0 : List (List Nat) := [[], [0], [0, 1], [], [3], [3, 4], [], [6], [6, 7], [], [9], [9, 10], [0, 1, 2], [0, 1, 2, 12], [0, 1, 2, 3, 4, 5, 12, 13], [0, 1, 2, 3, 4, 5, 12, 13, 14], [0, 1, 2, 3, 4, 5, 6, 7, 8, 12, 13, 14, 15], [0, 1, 2, 3, 4, 5, 6, 7, 8, 12, 13, 14, 15, 16], [0, 1, 2, 3, 4, 5, 6, 7, 8, 9, 10, 11, 12, 13, 14, 15, 16, 17], [0, 1, 2, 3, 4, 5, 6, 7, 8, 9, 10, 11, 12, 13, 14, 15, 16, 17, 18]]
def F.baizelaw34_To (x1 : Int) (d1 : Arr Int 8) (x2 : Int) (l1 : List Int) (d2 : Arr Int 8) (x3 : Int) (d3 : Arr Int 8) (l2 : List Int) (l3 : List Int) : Option (Int × (Arr Int 8) × Int × (Arr Int 8) × (List Int) × (List Int) × Bool) := (if (x1 == 1) = true then (F.baizelaw34_To.c1 x1 l3 d2 x3 d3 l2) else (F.baizelaw34_To.c1 x1 l3 d1 x2 (zA 8) l1))
theorem P.baizelaw34_To (g0 : GW) (x1 : Int) (d1 : Arr Int 8) (x2 : Int) (l1 : List Int) (d2 : Arr Int 8) (x3 : Int) (d3 : Arr Int 8) (l2 : List Int) (l3 : List Int) (a1 : Option Addr) (n1 : Nat) (c1 : Nat) (a2 : Option Addr) (n2 : Nat) (c2 : Nat) (a3 : Option Addr) (n3 : Nat) (c3 : Nat) (hR1 : RdS (Kd.int .u8) g0 5 a1 n1 c1 l1) (hR2 : RdS (Kd.int .u8) g0 5 a2 n2 c2 l2) (hR3 : RdS (Kd.int .u8) g0 5 a3 n3 c3 l3) (o1 : Int) (o2 : Arr Int 8) (o3 : Int) (o4 : Arr Int 8) (o5 : List Int) (o6 : List Int) (o7 : Bool) (hs : F.baizelaw34_To x1 d1 x2 l1 d2 x3 d3 l2 l3 = some (o1, o2, o3, o4, o5, o6, o7)) :
  Calls Try.prog 19 #[AG [[.int .i64 x1], encA .u8 d1, [.int .i64 x2], [.slice a1 n1 c1], encA .u8 d2, [.int .i64 x3], encA .u8 d3, [.slice a2 n2 c2], [.slice a3 n3 c3]]] g0.w (Ret NoM g0 fun v g => ∃ (a_1 : Option Addr) (n_1 : Nat) (c_1 : Nat) (a_4 : Option Addr) (n_4 : Nat) (c_4 : Nat), v = AG [[.int .i64 o1], encA .u8 o2, [.int .i64 o3], encA .u8 o4, [.slice a_1 n_1 c_1], [.slice a_4 n_4 c_4], [.bool o7]] ∧ RdS (Kd.int .u8) g 5 a_1 n_1 c_1 o5 ∧ RdS (Kd.int .u8) g 5 a_4 n_4 c_4 o6) := by
 refine calls_of (args := [AG [[.int .i64 x1], encA .u8 d1, [.int .i64 x2], [.slice a1 n1 c1], encA .u8 d2, [.int .i64 x3], encA .u8 d3, [.slice a2 n2 c2], [.slice a3 n3 c3]]]) Try.func19 rfl (0) ?_
 intro t ht htL
 refine ⟨_, rfl, ?_⟩
 refine CP.refr 38 [(0, AG [[.int .i64 x1], encA .u8 d1, [.int .i64 x2], [.slice a1 n1 c1], encA .u8 d2, [.int .i64 x3], encA .u8 d3, [.slice a2 n2 c2], [.slice a3 n3 c3]])] (by kernel_rfl) (by kernel_rfl) ?_
 intro ds
 have tot : Step (fun l => NoM l ∨ t ≤ l) g0 g0 := Step.refl _ _
 unfold F.baizelaw34_To at hs
 refine CP.seqR ?_
 refine WP.alloc (T := 43) (t + 1) [[.int .i64 x1], encA .u8 d1, [.int .i64 x2], [.slice a1 n1 c1], encA .u8 d2, [.int .i64 x3], encA .u8 d3, [.slice a2 n2 c2], [.slice a3 n3 c3]] [1, 8, 1, 1, 8, 1, 8, 1, 1] (by kernel_rfl) (by simp [len_encA]) ?_
 intro g1 b1 st1 hB1
 replace hR1 := hR1.mono st1 (fun x => x)
 replace hR2 := hR2.mono st1 (fun x => x)
 replace hR3 := hR3.mono st1 (fun x => x)
 replace tot := tot.trans st1.pure
 refine WP.alloc (T := 35) (t + 2) [[.int .i64 0], encA .u8 (zA 8), [.int .i64 0], encA .u8 (zA 8), [.slice none 0 0], [.slice none 0 0], [.bool false]] [1, 8, 1, 8, 1, 1, 1] (by kernel_rfl) (by simp [len_encA]) ?_
 intro g2 b2 st2 hB2
 replace hR1 := hR1.mono st2 (fun x => x)
 replace hR2 := hR2.mono st2 (fun x => x)
 replace hR3 := hR3.mono st2 (fun x => x)
 replace hB1 := hB1.mono st2 (fun x => x)
 replace tot := tot.trans st2.pure
 refine WP.dn ?_
 refine NX.then_n ?_
 refine CP.seqR ?_
 refine WP.stl 1 ?_
 refine WP.loadB (v := .int .i64 x1) hB1 (by kernel_rfl) (by kernel_rfl) ?_
 refine WP.stl 2 ?_
 refine WP.loadB (v := AG [encA .u8 d1]) hB1 (by kernel_rfl) (by kernel_rfl) ?_
 refine WP.stl 2 ?_
 refine WP.loadB (v := .int .i64 x2) hB1 (by kernel_rfl) (by kernel_rfl) ?_
 refine WP.stl 2 ?_
 refine WP.loadB (v := .slice a1 n1 c1) hB1 (by kernel_rfl) (by kernel_rfl) ?_
 refine WP.stl 1 ?_
 refine WP.loadB (v := .slice a3 n3 c3) hB1 (by kernel_rfl) (by kernel_rfl) ?_
 refine WP.buildS (places := #[(0, 1), (1, 8), (9, 1), (10, 8), (18, 1), (19, 1), (20, 1)]) (t := 35) [[.int .i64 0], encA .u8 (zA 8), [.int .i64 0], encA .u8 (zA 8), [.slice none 0 0], [.slice none 0 0], [.bool false]] [1, 8, 1, 8, 1, 1, 1] (by kernel_rfl) (by kernel_rfl) (by simp [len_encA]) (by kernel_rfl) ((.cons (i := 0) (off := 0) (v := .int .i64 x1) (mid := [[.int .i64 x1], encA .u8 (zA 8), [.int .i64 0], encA .u8 (zA 8), [.slice none 0 0], [.slice none 0 0], [.bool false]]) [[.int .i64 x1]] [1] (by kernel_rfl) (by kernel_rfl) rfl (by kernel_rfl) (.cons (i := 1) (off := 1) (v := AG [encA .u8 d1]) (mid := [[.int .i64 x1], encA .u8 d1, [.int .i64 0], encA .u8 (zA 8), [.slice none 0 0], [.slice none 0 0], [.bool false]]) [encA .u8 d1] [8] (by kernel_rfl) (by kernel_rfl) (by simp [len_encA]) (by kernel_rfl) (.cons (i := 2) (off := 9) (v := .int .i64 x2) (mid := [[.int .i64 x1], encA .u8 d1, [.int .i64 x2], encA .u8 (zA 8), [.slice none 0 0], [.slice none 0 0], [.bool false]]) [[.int .i64 x2]] [1] (by kernel_rfl) (by kernel_rfl) rfl (by kernel_rfl) (.cons (i := 4) (off := 18) (v := .slice a1 n1 c1) (mid := [[.int .i64 x1], encA .u8 d1, [.int .i64 x2], encA .u8 (zA 8), [.slice a1 n1 c1], [.slice none 0 0], [.bool false]]) [[.slice a1 n1 c1]] [1] (by kernel_rfl) (by kernel_rfl) rfl (by kernel_rfl) (.cons (i := 5) (off := 19) (v := .slice a3 n3 c3) (mid := [[.int .i64 x1], encA .u8 d1, [.int .i64 x2], encA .u8 (zA 8), [.slice a1 n1 c1], [.slice a3 n3 c3], [.bool false]]) [[.slice a3 n3 c3]] [1] (by kernel_rfl) (by kernel_rfl) rfl (by kernel_rfl) .nil)))))) ?_
 refine WP.alloc (T := 35) (t + 3) [[.int .i64 0], encA .u8 (zA 8), [.int .i64 0], encA .u8 (zA 8), [.slice none 0 0], [.slice none 0 0], [.bool false]] [1, 8, 1, 8, 1, 1, 1] (by kernel_rfl) (by simp [len_encA]) ?_
 intro g3 b3 st3 hB3
 replace hB1 := hB1.mono st3 (fun x => x)
 replace hR1 := hR1.mono st3 (fun x => x)
 replace hR2 := hR2.mono st3 (fun x => x)
 replace hR3 := hR3.mono st3 (fun x => x)
 replace hB2 := hB2.mono st3 (fun x => x)
 replace tot := tot.trans st3.pure
 refine WP.storeB (ty := 35) (off := 0) (v := AG [[.int .i64 x1], encA .u8 d1, [.int .i64 x2], encA .u8 (zA 8), [.slice a1 n1 c1], [.slice a3 n3 c3], [.bool false]]) hB3 [[.int .i64 x1], encA .u8 d1, [.int .i64 x2], encA .u8 (zA 8), [.slice a1 n1 c1], [.slice a3 n3 c3], [.bool false]] [1, 8, 1, 8, 1, 1, 1] (by kernel_rfl) (by kernel_rfl) (by simp [len_encA]) (by kernel_rfl) [[.int .i64 x1], encA .u8 d1, [.int .i64 x2], encA .u8 (zA 8), [.slice a1 n1 c1], [.slice a3 n3 c3], [.bool false]] (by kernel_rfl) (.one rfl (.arr (.one rfl (.arr (.one rfl (.one rfl (.one rfl .nil))))))) ?_
 intro g4 st4 hB4
 replace hB1 := hB1.mono st4 (WL.no1 (by omega))
 replace hR1 := hR1.mono st4 (WL.no1 (by omega))
 replace hR2 := hR2.mono st4 (WL.no1 (by omega))
 replace hR3 := hR3.mono st4 (WL.no1 (by omega))
 replace hB2 := hB2.mono st4 (WL.no1 (by omega))
 replace tot := tot.trans (st4.up1 (.inr (by omega)))
 clear hB3
 have hB3 := hB4
 clear hB4
 refine WP.dn ?_
 refine NX.then_n ?_
 refine CP.refr 38 [(1, .pointer (some ⟨b1, 0, none⟩)), (2, .pointer (some ⟨b2, 0, none⟩)), (3, .pointer (some ⟨b3, 0, none⟩))] (by kernel_rfl) (by kernel_rfl) ?_
 clear ds
 intro ds
 refine CP.cut (fun tm g => ∃ (d4 : Arr Int 8) (x4 : Int) (d5 : Arr Int 8) (l4 : List Int) (a4 : Option Addr) (n4 : Nat) (c4 : Nat), Fr 38 [(2, .pointer (some ⟨b2, 0, none⟩)), (3, .pointer (some ⟨b3, 0, none⟩))] tm ∧ Step (fun l => NoM l ∨ t ≤ l) g0 g ∧ Box g (t + 2) b2 35 [[.int .i64 0], encA .u8 (zA 8), [.int .i64 0], encA .u8 (zA 8), [.slice none 0 0], [.slice none 0 0], [.bool false]] [1, 8, 1, 8, 1, 1, 1] ∧ Box g (t + 3) b3 35 [[.int .i64 x1], encA .u8 d4, [.int .i64 x4], encA .u8 d5, [.slice a4 n4 c4], [.slice a3 n3 c3], [.bool false]] [1, 8, 1, 8, 1, 1, 1] ∧ RdS (Kd.int .u8) g 5 a4 n4 c4 l4 ∧ RdS (Kd.int .u8) g 5 a3 n3 c3 l3 ∧ (F.baizelaw34_To.c1 x1 l3 d4 x4 d5 l4) = some (o1, o2, o3, o4, o5, o6, o7)) ?_ ?_
 ·refine CP.seqR ?_
  refine WP.stl 1 ?_
  refine WP.loadB (v := .int .i64 x1) hB1 (by kernel_rfl) (by kernel_rfl) ?_
  refine WP.stl 1 ?_
  refine WP.dn ?_
  refine NX.then_n ?_
  refine CP.cond (b := (x1 == 1)) (by kernel_rfl) (fun h2 => ?_) (fun h2 => ?_)
  ·replace hs := of_if_t hs h2
   refine CP.drawL (by kernel_rfl) [2, 5, 8, 11, 13, 15, 17, 19] N.baizelaw34_To_0 [⟨none, [], [], fun l g => Box g (t + 1) b1 43 [[.int .i64 x1], encA .u8 d1, [.int .i64 x2], [.slice a1 n1 c1], encA .u8 d2, [.int .i64 x3], encA .u8 d3, [.slice a2 n2 c2], [.slice a3 n3 c3]] [1, 8, 1, 1, 8, 1, 8, 1, 1]⟩, ⟨none, [0], [], fun l g => Box g (t + 3) b3 35 [[.int .i64 x1], encA .u8 d1, [.int .i64 x2], encA .u8 (zA 8), [.slice a1 n1 c1], [.slice a3 n3 c3], [.bool false]] [1, 8, 1, 8, 1, 1, 1]⟩, ⟨some 0, [], [0], fun l g => l.getD 0 undef = AG [encA .u8 d2]⟩, ⟨some 1, [], [1], fun l g => l.getD 0 undef = .int .i64 x3⟩, ⟨some 2, [], [2], fun l g => l.getD 0 undef = AG [encA .u8 d3]⟩, ⟨some 3, [], [3], fun l g => l.getD 0 undef = .slice a2 n2 c2⟩, ⟨some 4, [0], [], fun l g => Box g (t + 3) b3 35 [[.int .i64 x1], encA .u8 d2, [.int .i64 x2], encA .u8 (zA 8), [.slice a1 n1 c1], [.slice a3 n3 c3], [.bool false]] [1, 8, 1, 8, 1, 1, 1]⟩, ⟨some 5, [0], [], fun l g => Box g (t + 3) b3 35 [[.int .i64 x1], encA .u8 d2, [.int .i64 x3], encA .u8 (zA 8), [.slice a1 n1 c1], [.slice a3 n3 c3], [.bool false]] [1, 8, 1, 8, 1, 1, 1]⟩, ⟨some 6, [0], [], fun l g => Box g (t + 3) b3 35 [[.int .i64 x1], encA .u8 d2, [.int .i64 x3], encA .u8 d3, [.slice a1 n1 c1], [.slice a3 n3 c3], [.bool false]] [1, 8, 1, 8, 1, 1, 1]⟩, ⟨some 7, [0], [], fun l g => Box g (t + 3) b3 35 [[.int .i64 x1], encA .u8 d2, [.int .i64 x3], encA .u8 d3, [.slice a2 n2 c2], [.slice a3 n3 c3], [.bool false]] [1, 8, 1, 8, 1, 1, 1]⟩] [[], [], [], [], [0], [0], [0], [0]] [(t + 3)] [0, 1, 3, 4, 6, 7, 9, 10, 12, 14, 16, 18] [] (by kernel_rfl) (by simp <;> omega) (by simp) ⟨fun _ _ _ _ st h0 hl hj hB1 => (hB1.mono st (fun h => absurd (hl _ h) (by simp <;> omega))), fun _ _ _ _ st h0 hl hj hB3 => (hB3.mono st (hj 0 (by simp) _ rfl)), fun _ _ _ _ st h0 hl hj e0 => e0, fun _ _ _ _ st h0 hl hj e1 => e1, fun _ _ _ _ st h0 hl hj e2 => e2, fun _ _ _ _ st h0 hl hj e3 => e3, fun _ _ _ _ st h0 hl hj hB3 => (hB3.mono st (hj 0 (by simp) _ rfl)), fun _ _ _ _ st h0 hl hj hB3 => (hB3.mono st (hj 0 (by simp) _ rfl)), fun _ _ _ _ st h0 hl hj hB3 => (hB3.mono st (hj 0 (by simp) _ rfl)), fun _ _ _ _ st h0 hl hj hB3 => (hB3.mono st (hj 0 (by simp) _ rfl)), tv⟩ ⟨hB1, hB3, tv, tv, tv, tv, tv, tv, tv, tv, tv⟩ (by kernel_rfl) (fun vs => by kernel_rfl) ?_ ?_ ?_
   ·intro j hj; exact absurd hj (by simp)
   ·intro j hj
    have hq : j = 0 ∨ j = 1 ∨ j = 2 ∨ j = 3 ∨ j = 4 ∨ j = 5 ∨ j = 6 ∨ j = 7 := by have h : j < 8 := hj; omega
    rcases hq with rfl | rfl | rfl | rfl | rfl | rfl | rfl | rfl
    ·intro vs gq stq hl hf
     obtain ⟨v0, v1, v2, v3, v4, v5, v6, v7, rfl⟩ := len_k8 hl
     have hB1 := (show Box gq (t + 1) b1 43 [[.int .i64 x1], encA .u8 d1, [.int .i64 x2], [.slice a1 n1 c1], encA .u8 d2, [.int .i64 x3], encA .u8 d3, [.slice a2 n2 c2], [.slice a3 n3 c3]] [1, 8, 1, 1, 8, 1, 8, 1, 1] from hf _ (memI 0 rfl) (by kernel_rfl))
     refine WP.loadB (v := AG [encA .u8 d2]) hB1 (by kernel_rfl) (by kernel_rfl) ?_
     refine WP.dn (Shown.ok (v := AG [encA .u8 d2]) (by kernel_rfl) (Step.refl _ _) ?_)
     exact ⟨tv, tv, rfl, tv, tv, tv, tv, tv, tv, tv, tv⟩
    ·intro vs gq stq hl hf
     obtain ⟨v0, v1, v2, v3, v4, v5, v6, v7, rfl⟩ := len_k8 hl
     have hB1 := (show Box gq (t + 1) b1 43 [[.int .i64 x1], encA .u8 d1, [.int .i64 x2], [.slice a1 n1 c1], encA .u8 d2, [.int .i64 x3], encA .u8 d3, [.slice a2 n2 c2], [.slice a3 n3 c3]] [1, 8, 1, 1, 8, 1, 8, 1, 1] from hf _ (memI 0 rfl) (by kernel_rfl))
     refine WP.loadB (v := .int .i64 x3) hB1 (by kernel_rfl) (by kernel_rfl) ?_
     refine WP.dn (Shown.ok (v := .int .i64 x3) (by kernel_rfl) (Step.refl _ _) ?_)
     exact ⟨tv, tv, tv, rfl, tv, tv, tv, tv, tv, tv, tv⟩
    ·intro vs gq stq hl hf
     obtain ⟨v0, v1, v2, v3, v4, v5, v6, v7, rfl⟩ := len_k8 hl
     have hB1 := (show Box gq (t + 1) b1 43 [[.int .i64 x1], encA .u8 d1, [.int .i64 x2], [.slice a1 n1 c1], encA .u8 d2, [.int .i64 x3], encA .u8 d3, [.slice a2 n2 c2], [.slice a3 n3 c3]] [1, 8, 1, 1, 8, 1, 8, 1, 1] from hf _ (memI 0 rfl) (by kernel_rfl))
     refine WP.loadB (v := AG [encA .u8 d3]) hB1 (by kernel_rfl) (by kernel_rfl) ?_
     refine WP.dn (Shown.ok (v := AG [encA .u8 d3]) (by kernel_rfl) (Step.refl _ _) ?_)
     exact ⟨tv, tv, tv, tv, rfl, tv, tv, tv, tv, tv, tv⟩
    ·intro vs gq stq hl hf
     obtain ⟨v0, v1, v2, v3, v4, v5, v6, v7, rfl⟩ := len_k8 hl
     have hB1 := (show Box gq (t + 1) b1 43 [[.int .i64 x1], encA .u8 d1, [.int .i64 x2], [.slice a1 n1 c1], encA .u8 d2, [.int .i64 x3], encA .u8 d3, [.slice a2 n2 c2], [.slice a3 n3 c3]] [1, 8, 1, 1, 8, 1, 8, 1, 1] from hf _ (memI 0 rfl) (by kernel_rfl))
     refine WP.loadB (v := .slice a2 n2 c2) hB1 (by kernel_rfl) (by kernel_rfl) ?_
     refine WP.dn (Shown.ok (v := .slice a2 n2 c2) (by kernel_rfl) (Step.refl _ _) ?_)
     exact ⟨tv, tv, tv, tv, tv, rfl, tv, tv, tv, tv, tv⟩
    ·intro vs gq stq hl hf
     obtain ⟨v0, v1, v2, v3, v4, v5, v6, v7, rfl⟩ := len_k8 hl
     have hB3 := (show Box gq (t + 3) b3 35 [[.int .i64 x1], encA .u8 d1, [.int .i64 x2], encA .u8 (zA 8), [.slice a1 n1 c1], [.slice a3 n3 c3], [.bool false]] [1, 8, 1, 8, 1, 1, 1] from hf _ (memI 1 rfl) (by kernel_rfl))
     have e0 := (show v0 = AG [encA .u8 d2] from hf _ (memI 2 rfl) (by kernel_rfl))
     subst e0
     refine WP.storeB (ty := 32) (off := 1) (v := AG [encA .u8 d2]) hB3 [encA .u8 d2] [8] (by kernel_rfl) (by kernel_rfl) (by simp [len_encA]) (by kernel_rfl) [[.int .i64 x1], encA .u8 d2, [.int .i64 x2], encA .u8 (zA 8), [.slice a1 n1 c1], [.slice a3 n3 c3], [.bool false]] (by kernel_rfl) (.arr .nil) ?_
     intro g10 st10 hB10
     refine WP.dn (Shown.o (v := undef) st10 ?_)
     exact ⟨tv, tv, tv, tv, tv, tv, hB10, tv, tv, tv, tv⟩
    ·intro vs gq stq hl hf
     obtain ⟨v0, v1, v2, v3, v4, v5, v6, v7, rfl⟩ := len_k8 hl
     have e1 := (show v1 = .int .i64 x3 from hf _ (memI 3 rfl) (by kernel_rfl))
     subst e1
     have hB3 := (show Box gq (t + 3) b3 35 [[.int .i64 x1], encA .u8 d2, [.int .i64 x2], encA .u8 (zA 8), [.slice a1 n1 c1], [.slice a3 n3 c3], [.bool false]] [1, 8, 1, 8, 1, 1, 1] from hf _ (memI 6 rfl) (by kernel_rfl))
     refine WP.storeB (ty := 3) (off := 9) (v := .int .i64 x3) hB3 [[.int .i64 x3]] [1] (by kernel_rfl) (by kernel_rfl) rfl (by kernel_rfl) [[.int .i64 x1], encA .u8 d2, [.int .i64 x3], encA .u8 (zA 8), [.slice a1 n1 c1], [.slice a3 n3 c3], [.bool false]] (by kernel_rfl) (.one rfl .nil) ?_
     intro g11 st11 hB11
     refine WP.dn (Shown.o (v := undef) st11 ?_)
     exact ⟨tv, tv, tv, tv, tv, tv, tv, hB11, tv, tv, tv⟩
    ·intro vs gq stq hl hf
     obtain ⟨v0, v1, v2, v3, v4, v5, v6, v7, rfl⟩ := len_k8 hl
     have e2 := (show v2 = AG [encA .u8 d3] from hf _ (memI 4 rfl) (by kernel_rfl))
     subst e2
     have hB3 := (show Box gq (t + 3) b3 35 [[.int .i64 x1], encA .u8 d2, [.int .i64 x3], encA .u8 (zA 8), [.slice a1 n1 c1], [.slice a3 n3 c3], [.bool false]] [1, 8, 1, 8, 1, 1, 1] from hf _ (memI 7 rfl) (by kernel_rfl))
     refine WP.storeB (ty := 32) (off := 10) (v := AG [encA .u8 d3]) hB3 [encA .u8 d3] [8] (by kernel_rfl) (by kernel_rfl) (by simp [len_encA]) (by kernel_rfl) [[.int .i64 x1], encA .u8 d2, [.int .i64 x3], encA .u8 d3, [.slice a1 n1 c1], [.slice a3 n3 c3], [.bool false]] (by kernel_rfl) (.arr .nil) ?_
     intro g12 st12 hB12
     refine WP.dn (Shown.o (v := undef) st12 ?_)
     exact ⟨tv, tv, tv, tv, tv, tv, tv, tv, hB12, tv, tv⟩
    ·intro vs gq stq hl hf
     obtain ⟨v0, v1, v2, v3, v4, v5, v6, v7, rfl⟩ := len_k8 hl
     have e3 := (show v3 = .slice a2 n2 c2 from hf _ (memI 5 rfl) (by kernel_rfl))
     subst e3
     have hB3 := (show Box gq (t + 3) b3 35 [[.int .i64 x1], encA .u8 d2, [.int .i64 x3], encA .u8 d3, [.slice a1 n1 c1], [.slice a3 n3 c3], [.bool false]] [1, 8, 1, 8, 1, 1, 1] from hf _ (memI 8 rfl) (by kernel_rfl))
     refine WP.storeB (ty := 33) (off := 18) (v := .slice a2 n2 c2) hB3 [[.slice a2 n2 c2]] [1] (by kernel_rfl) (by kernel_rfl) rfl (by kernel_rfl) [[.int .i64 x1], encA .u8 d2, [.int .i64 x3], encA .u8 d3, [.slice a2 n2 c2], [.slice a3 n3 c3], [.bool false]] (by kernel_rfl) (.one rfl .nil) ?_
     intro g13 st13 hB13
     refine WP.dn (Shown.o (v := undef) st13 ?_)
     exact ⟨tv, tv, tv, tv, tv, tv, tv, tv, tv, hB13, tv⟩
   intro vs g14 st14 hl hf
   obtain ⟨v0, v1, v2, v3, v4, v5, v6, v7, rfl⟩ := len_k8 hl
   have hB3 := (show Box g14 (t + 3) b3 35 [[.int .i64 x1], encA .u8 d2, [.int .i64 x3], encA .u8 d3, [.slice a2 n2 c2], [.slice a3 n3 c3], [.bool false]] [1, 8, 1, 8, 1, 1, 1] from hf _ (memI 9 rfl) (by kernel_rfl))
   replace hB2 := hB2.mono st14 (WL.no1 (by omega))
   replace hR2 := hR2.mono st14 (WL.no1 (by omega))
   replace hR3 := hR3.mono st14 (WL.no1 (by omega))
   replace tot := tot.trans (st14.up1 (.inr (by omega)))
   refine NX.post ?_
   exact ⟨d2, x3, d3, l2, a2, n2, c2, ⟨by kernel_rfl, by kernel_rfl⟩, tot, hB2, hB3, hR2, hR3, hs⟩
  replace hs := of_if_f hs h2
  refine CP.skip ?_
  refine NX.post ?_
  exact ⟨d1, x2, (zA 8), l1, a1, n1, c1, ⟨by kernel_rfl, by kernel_rfl⟩, tot, hB2, hB3, hR1, hR3, hs⟩
 clear tot hs hB1 hR1 hR2 hR3 hB2 hB3
 rintro tm g ⟨d4, x4, d5, l4, a4, n4, c4, hF, tot, hB2, hB3, hR4, hR3, hs⟩
 clear ds
 obtain ⟨ds, rfl⟩ := hF.open
 clear hF
 unfold F.baizelaw34_To.c1 at hs
 refine CP.seqR ?_
 refine WP.loadB (v := AG [[.int .i64 x1], encA .u8 d4, [.int .i64 x4], encA .u8 d5, [.slice a4 n4 c4], [.slice a3 n3 c3], [.bool false]]) hB3 (by kernel_rfl) (by kernel_rfl) ?_
 refine WP.storeB (ty := 35) (off := 0) (v := AG [[.int .i64 x1], encA .u8 d4, [.int .i64 x4], encA .u8 d5, [.slice a4 n4 c4], [.slice a3 n3 c3], [.bool false]]) hB2 [[.int .i64 x1], encA .u8 d4, [.int .i64 x4], encA .u8 d5, [.slice a4 n4 c4], [.slice a3 n3 c3], [.bool false]] [1, 8, 1, 8, 1, 1, 1] (by kernel_rfl) (by kernel_rfl) (by simp [len_encA]) (by kernel_rfl) [[.int .i64 x1], encA .u8 d4, [.int .i64 x4], encA .u8 d5, [.slice a4 n4 c4], [.slice a3 n3 c3], [.bool false]] (by kernel_rfl) (.one rfl (.arr (.one rfl (.arr (.one rfl (.one rfl (.one rfl .nil))))))) ?_
 intro g9 st9 hB9
 replace hR4 := hR4.mono st9 (WL.no1 (by omega))
 replace hR3 := hR3.mono st9 (WL.no1 (by omega))
 replace hB3 := hB3.mono st9 (WL.no1 (by omega))
 replace tot := tot.trans (st9.up1 (.inr (by omega)))
 clear hB2
 have hB2 := hB9
 clear hB9
 refine WP.dn ?_
 refine NX.then_n ?_
 refine CP.ret ?_
 replace hs := Option.some.inj hs
 simp only [Prod.mk.injEq] at hs
 obtain ⟨rfl, rfl, rfl, rfl, rfl, rfl, rfl⟩ := hs
 exact NX.fin (v := AG [[.int .i64 x1], encA .u8 d4, [.int .i64 x4], encA .u8 d5, [.slice a4 n4 c4], [.slice a3 n3 c3], [.bool false]]) (Res.one rfl (RV.box (agg := true) (size := 21) (rs := [[.int .i64 x1], encA .u8 d4, [.int .i64 x4], encA .u8 d5, [.slice a4 n4 c4], [.slice a3 n3 c3], [.bool false]]) hB2 (by kernel_rfl) (by kernel_rfl) (by kernel_rfl) (by kernel_rfl))) tot htL ⟨a4, n4, c4, a3, n3, c3, rfl, hR4, hR3⟩
def F.baizeref34_At (x1 : Int) (d1 : Arr Int 8) (x2 : Int) (d2 : Arr Int 8) (l1 : List Int) (l2 : List Int) (q1 : Bool) : Option ((Arr Int 8)) := (if (x1 == 1) = true then (some d2) else (some (zA 8)))
theorem P.baizeref34_At (g0 : GW) (x1 : Int) (d1 : Arr Int 8) (x2 : Int) (d2 : Arr Int 8) (l1 : List Int) (l2 : List Int) (q1 : Bool) (a1 : Option Addr) (n1 : Nat) (c1 : Nat) (a2 : Option Addr) (n2 : Nat) (c2 : Nat) (hR1 : RdS (Kd.int .u8) g0 5 a1 n1 c1 l1) (hR2 : RdS (Kd.int .u8) g0 5 a2 n2 c2 l2) (o1 : Arr Int 8) (hs : F.baizeref34_At x1 d1 x2 d2 l1 l2 q1 = some o1) :
  Calls Try.prog 28 #[AG [[.int .i64 x1], encA .u8 d1, [.int .i64 x2], encA .u8 d2, [.slice a1 n1 c1], [.slice a2 n2 c2], [.bool q1]]] g0.w (Ret NoM g0 fun v g => v = AG [encA .u8 o1]) := by
 refine calls_of (args := [AG [[.int .i64 x1], encA .u8 d1, [.int .i64 x2], encA .u8 d2, [.slice a1 n1 c1], [.slice a2 n2 c2], [.bool q1]]]) Try.func28 rfl (0) ?_
 intro t ht htL
 refine ⟨_, rfl, ?_⟩
 refine CP.refr 9 [(0, AG [[.int .i64 x1], encA .u8 d1, [.int .i64 x2], encA .u8 d2, [.slice a1 n1 c1], [.slice a2 n2 c2], [.bool q1]])] (by kernel_rfl) (by kernel_rfl) ?_
 intro ds
 have tot : Step (fun l => NoM l ∨ t ≤ l) g0 g0 := Step.refl _ _
 unfold F.baizeref34_At at hs
 refine CP.seqR ?_
 refine WP.alloc (T := 35) (t + 1) [[.int .i64 x1], encA .u8 d1, [.int .i64 x2], encA .u8 d2, [.slice a1 n1 c1], [.slice a2 n2 c2], [.bool q1]] [1, 8, 1, 8, 1, 1, 1] (by kernel_rfl) (by simp [len_encA]) ?_
 intro g1 b1 st1 hB1
 replace hR1 := hR1.mono st1 (fun x => x)
 replace hR2 := hR2.mono st1 (fun x => x)
 replace tot := tot.trans st1.pure
 refine WP.alloc (T := 32) (t + 2) [encA .u8 (zA 8)] [8] (by kernel_rfl) (by simp [len_encA]) ?_
 intro g2 b2 st2 hB2
 replace hR1 := hR1.mono st2 (fun x => x)
 replace hR2 := hR2.mono st2 (fun x => x)
 replace hB1 := hB1.mono st2 (fun x => x)
 replace tot := tot.trans st2.pure
 refine WP.dn ?_
 refine NX.then_n ?_
 refine CP.seq ?_
 refine CP.seqR ?_
 refine WP.stl 1 ?_
 refine WP.loadB (v := .int .i64 x1) hB1 (by kernel_rfl) (by kernel_rfl) ?_
 refine WP.stl 1 ?_
 refine WP.dn ?_
 refine NX.then_n ?_
 refine CP.cond (b := (x1 == 1)) (by kernel_rfl) (fun h1 => ?_) (fun h1 => ?_)
 ·replace hs := of_if_t hs h1
  refine CP.seqR ?_
  refine WP.stl 1 ?_
  refine WP.loadB (v := AG [encA .u8 d2]) hB1 (by kernel_rfl) (by kernel_rfl) ?_
  refine WP.storeB (ty := 32) (off := 0) (v := AG [encA .u8 d2]) hB2 [encA .u8 d2] [8] (by kernel_rfl) (by kernel_rfl) (by simp [len_encA]) (by kernel_rfl) [encA .u8 d2] (by kernel_rfl) (.arr .nil) ?_
  intro g3 st3 hB3
  replace hB1 := hB1.mono st3 (WL.no1 (by omega))
  replace hR1 := hR1.mono st3 (WL.no1 (by omega))
  replace hR2 := hR2.mono st3 (WL.no1 (by omega))
  replace tot := tot.trans (st3.up1 (.inr (by omega)))
  clear hB2
  have hB2 := hB3
  clear hB3
  refine WP.dn ?_
  refine NX.then_n ?_
  refine CP.ret ?_
  refine NX.then_r ?_
  replace hs := Option.some.inj hs
  obtain rfl := hs
  exact NX.fin (v := AG [encA .u8 d2]) (Res.one rfl (RV.box (agg := true) (size := 8) (rs := [encA .u8 d2]) hB2 (by kernel_rfl) (by kernel_rfl) (by kernel_rfl) (by kernel_rfl))) tot htL rfl
 replace hs := of_if_f hs h1
 refine CP.skip ?_
 refine NX.then_n ?_
 refine CP.seqR ?_
 refine WP.stl 1 ?_
 refine WP.storeB (ty := 32) (off := 0) (v := AG [encA .u8 (zA 8)]) hB2 [encA .u8 (zA 8)] [8] (by kernel_rfl) (by kernel_rfl) (by simp [len_encA]) (by kernel_rfl) [encA .u8 (zA 8)] (by kernel_rfl) (.arr .nil) ?_
 intro g4 st4 hB4
 replace tot := tot.trans (st4.up1 (.inr (by omega)))
 clear hB2
 have hB2 := hB4
 clear hB4
 refine WP.dn ?_
 refine NX.then_n ?_
 refine CP.ret ?_
 replace hs := Option.some.inj hs
 obtain rfl := hs
 exact NX.fin (v := AG [encA .u8 (zA 8)]) (Res.one rfl (RV.box (agg := true) (size := 8) (rs := [encA .u8 (zA 8)]) hB2 (by kernel_rfl) (by kernel_rfl) (by kernel_rfl) (by kernel_rfl))) tot htL rfl
def N.baizeref01_Same_0 : List (List Nat) := [[], [], [0, 1], [0, 1, 2], [], [], [4, 5], [4, 5, 6], [0, 1, 2, 3, 4, 5, 6, 7]]
def F.baizeref01_Same.l1 (l1 : List Int) (l2 : List Int) : Nat → Int → Option (Bool)
 | 0, _ => none
 | k + 1, x1 => (if decide (x1 < (l1.length : Int)) = true then (if (0 : Int) ≤ x1 ∧ x1 < (l1.length : Int) then (if (0 : Int) ≤ x1 ∧ x1 < (l2.length : Int) then (if ((getI l1 x1) != (getI l2 x1)) = true then (some false) else (F.baizeref01_Same.l1 l1 l2 k (IntKind.i64.wrap (x1 + 1)))) else none) else none) else (some true))
def F.baizeref01_Same (l1 : List Int) (l2 : List Int) : Option (Bool) := (if ((l1.length : Int) != (l2.length : Int)) = true then (some false) else (F.baizeref01_Same.l1 l1 l2 fuel 0))
theorem P.baizeref01_Same (g0 : GW) (l1 : List Int) (l2 : List Int) (a1 : Option Addr) (n1 : Nat) (c1 : Nat) (a2 : Option Addr) (n2 : Nat) (c2 : Nat) (hR1 : RdS (Kd.int .u8) g0 5 a1 n1 c1 l1) (hR2 : RdS (Kd.int .u8) g0 5 a2 n2 c2 l2) (o1 : Bool) (hs : F.baizeref01_Same l1 l2 = some o1) :
  Calls Try.prog 54 #[.slice a1 n1 c1, .slice a2 n2 c2] g0.w (Ret NoM g0 fun v g => v = .bool o1) := by
 refine calls_of (args := [.slice a1 n1 c1, .slice a2 n2 c2]) Try.func54 rfl (0) ?_
 intro t ht htL
 refine ⟨_, rfl, ?_⟩
 refine CP.refr 26 [(0, .slice a1 n1 c1), (1, .slice a2 n2 c2)] (by kernel_rfl) (by kernel_rfl) ?_
 intro ds
 have tot : Step (fun l => NoM l ∨ t ≤ l) g0 g0 := Step.refl _ _
 unfold F.baizeref01_Same at hs
 refine CP.seqR ?_
 refine WP.stl 1 ?_
 refine WP.dn ?_
 refine NX.then_n ?_
 refine CP.seq ?_
 refine CP.seqR ?_
 refine WP.stl 1 ?_
 refine WP.len (a := a1) (cp := c1) hR1.len (by kernel_rfl) ?_
 refine WP.stl 1 ?_
 refine WP.len (a := a2) (cp := c2) hR2.len (by kernel_rfl) ?_
 refine WP.stl 1 ?_
 refine WP.dn ?_
 refine NX.then_n ?_
 refine CP.cond (b := ((l1.length : Int) != (l2.length : Int))) (by kernel_rfl) (fun h1 => ?_) (fun h1 => ?_)
 ·replace hs := of_if_t hs h1
  refine CP.seqR ?_
  refine WP.stl 1 ?_
  refine WP.dn ?_
  refine NX.then_n ?_
  refine CP.ret ?_
  refine NX.then_r ?_
  replace hs := Option.some.inj hs
  obtain rfl := hs
  exact NX.fin (v := .bool false) (Res.still (by kernel_rfl)) tot htL rfl
 replace hs := of_if_f hs h1
 refine CP.skip ?_
 refine NX.then_n ?_
 refine CP.seq ?_
 refine CP.seqR ?_
 refine WP.stl 1 ?_
 refine WP.dn ?_
 refine NX.then_n ?_
 refine CP.block ?_
 generalize fuel = k1 at hs
 refine CP.loop (fun k1 tm g => ∃ (x1 : Int), Fr 26 [(0, .slice a1 n1 c1), (1, .slice a2 n2 c2), (5, .int .i64 x1)] tm ∧ Step (fun l => NoM l ∨ t ≤ l) g0 g ∧ RdS (Kd.int .u8) g 5 a1 n1 c1 l1 ∧ RdS (Kd.int .u8) g 5 a2 n2 c2 l2 ∧ F.baizeref01_Same.l1 l1 l2 k1 x1 = some o1) k1 ?_ ?_ ?_
 ·exact ⟨0, ⟨by kernel_rfl, by kernel_rfl⟩, tot, hR1, hR2, hs⟩
 ·rintro tm g ⟨x1, hF, tot, hR1, hR2, hs⟩
  exact absurd hs (by simp [F.baizeref01_Same.l1])
 clear tot hs hR1 hR2
 rintro k1 tm g ⟨x1, hF, tot, hR1, hR2, hs⟩
 clear ds
 obtain ⟨ds, rfl⟩ := hF.open
 clear hF
 unfold F.baizeref01_Same.l1 at hs
 refine CP.seq ?_
 refine CP.seqR ?_
 refine WP.stl 2 ?_
 refine WP.len (a := a1) (cp := c1) hR1.len (by kernel_rfl) ?_
 refine WP.stl 1 ?_
 refine WP.dn ?_
 refine NX.then_n ?_
 refine CP.cond (b := decide (x1 < (l1.length : Int))) (by kernel_rfl) (fun h6 => ?_) (fun h6 => ?_)
 ·replace hs := of_if_t hs h6
  refine CP.skip ?_
  refine NX.then_n ?_
  refine CP.seq ?_
  refine CP.block ?_
  refine CP.seq ?_
  by_cases hc5 : (0 : Int) ≤ x1 ∧ x1 < (l1.length : Int)
  case neg => rw [if_neg hc5] at hs; cases hs
  replace hs := of_if_p hs hc5
  by_cases hc6 : (0 : Int) ≤ x1 ∧ x1 < (l2.length : Int)
  case neg => rw [if_neg hc6] at hs; cases hs
  replace hs := of_if_p hs hc6
  obtain ⟨b5, u5, ha5⟩ := hR1.at hc5
  obtain ⟨b6, u6, ha6⟩ := hR2.at hc6
  refine CP.drawL (by kernel_rfl) [2, 3, 6, 7] N.baizeref01_Same_0 [⟨none, [], [], fun l g => RdS (Kd.int .u8) g 5 a1 n1 c1 l1⟩, ⟨none, [], [], fun l g => RdS (Kd.int .u8) g 5 a2 n2 c2 l2⟩, ⟨some 0, [], [0], fun l g => l.getD 0 undef = .pointer (some ⟨b5, u5 + x1.toNat * 1, none⟩)⟩, ⟨some 1, [], [1], fun l g => l.getD 0 undef = .int .u8 (getI l1 x1)⟩, ⟨some 2, [], [2], fun l g => l.getD 0 undef = .pointer (some ⟨b6, u6 + x1.toNat * 1, none⟩)⟩, ⟨some 3, [], [3], fun l g => l.getD 0 undef = .int .u8 (getI l2 x1)⟩] [[], [], [], []] [] [0, 1, 4, 5] [8] (by kernel_rfl) (by simp) (by simp) ⟨fun _ _ _ _ st h0 hl hj hR1 => (RdS.mono (e := 5) hR1 st h0), fun _ _ _ _ st h0 hl hj hR2 => (RdS.mono (e := 5) hR2 st h0), fun _ _ _ _ st h0 hl hj e0 => e0, fun _ _ _ _ st h0 hl hj e1 => e1, fun _ _ _ _ st h0 hl hj e2 => e2, fun _ _ _ _ st h0 hl hj e3 => e3, tv⟩ ⟨hR1, hR2, tv, tv, tv, tv, tv⟩ (by kernel_rfl) (fun vs => by kernel_rfl) ?_ ?_ ?_
  ·intro j hj
   have hq : j = 0 := by have h : j < 1 := hj; omega
   rcases hq with rfl
   ·intro vs gq stq hl hf
    obtain ⟨v0, v1, v2, v3, rfl⟩ := len_k4 hl
    have e1 := (show v1 = .int .u8 (getI l1 x1) from hf _ (memI 3 rfl) (by kernel_rfl))
    subst e1
    have e3 := (show v3 = .int .u8 (getI l2 x1) from hf _ (memI 5 rfl) (by kernel_rfl))
    subst e3
    show Option.isSome _ = true
    kernel_rfl
  ·intro j hj
   have hq : j = 0 ∨ j = 1 ∨ j = 2 ∨ j = 3 := by have h : j < 4 := hj; omega
   rcases hq with rfl | rfl | rfl | rfl
   ·intro vs gq stq hl hf
    obtain ⟨v0, v1, v2, v3, rfl⟩ := len_k4 hl
    have hR1 := (show RdS (Kd.int .u8) gq 5 a1 n1 c1 l1 from hf _ (memI 0 rfl) (by kernel_rfl))
    refine WP.indexA (t := 33) (e := 5) (sz := 1) (cap := c1) (k := .i64) (i := x1) hR1.len ha5 (by kernel_rfl) (by kernel_rfl) hc5 ?_
    refine WP.dn (Shown.ok (v := .pointer (some ⟨b5, u5 + x1.toNat * 1, none⟩)) (by kernel_rfl) (Step.refl _ _) ?_)
    exact ⟨tv, tv, rfl, tv, tv, tv, tv⟩
   ·intro vs gq stq hl hf
    obtain ⟨v0, v1, v2, v3, rfl⟩ := len_k4 hl
    have hR1 := (show RdS (Kd.int .u8) gq 5 a1 n1 c1 l1 from hf _ (memI 0 rfl) (by kernel_rfl))
    have e0 := (show v0 = .pointer (some ⟨b5, u5 + x1.toNat * 1, none⟩) from hf _ (memI 2 rfl) (by kernel_rfl))
    subst e0
    obtain ⟨cs5, hcR5, hcV5⟩ := hR1.src.view (getI_some hc5) ha5
    replace hcR5 := Kd.o_int hcR5
    refine WP.loadV [[.int .u8 (getI l1 x1)]] [1] hcV5 hcR5 rfl (f := 0) (ty := 5) (agg := false) (size := 1) (rs := [[.int .u8 (getI l1 x1)]]) (v := .int .u8 (getI l1 x1)) (by kernel_rfl) (by kernel_rfl) (by kernel_rfl) (by kernel_rfl) ?_
    refine WP.dn (Shown.ok (v := .int .u8 (getI l1 x1)) (by kernel_rfl) (Step.refl _ _) ?_)
    exact ⟨tv, tv, tv, rfl, tv, tv, tv⟩
   ·intro vs gq stq hl hf
    obtain ⟨v0, v1, v2, v3, rfl⟩ := len_k4 hl
    have hR2 := (show RdS (Kd.int .u8) gq 5 a2 n2 c2 l2 from hf _ (memI 1 rfl) (by kernel_rfl))
    refine WP.indexA (t := 33) (e := 5) (sz := 1) (cap := c2) (k := .i64) (i := x1) hR2.len ha6 (by kernel_rfl) (by kernel_rfl) hc6 ?_
    refine WP.dn (Shown.ok (v := .pointer (some ⟨b6, u6 + x1.toNat * 1, none⟩)) (by kernel_rfl) (Step.refl _ _) ?_)
    exact ⟨tv, tv, tv, tv, rfl, tv, tv⟩
   ·intro vs gq stq hl hf
    obtain ⟨v0, v1, v2, v3, rfl⟩ := len_k4 hl
    have hR2 := (show RdS (Kd.int .u8) gq 5 a2 n2 c2 l2 from hf _ (memI 1 rfl) (by kernel_rfl))
    have e2 := (show v2 = .pointer (some ⟨b6, u6 + x1.toNat * 1, none⟩) from hf _ (memI 4 rfl) (by kernel_rfl))
    subst e2
    obtain ⟨cs6, hcR6, hcV6⟩ := hR2.src.view (getI_some hc6) ha6
    replace hcR6 := Kd.o_int hcR6
    refine WP.loadV [[.int .u8 (getI l2 x1)]] [1] hcV6 hcR6 rfl (f := 0) (ty := 5) (agg := false) (size := 1) (rs := [[.int .u8 (getI l2 x1)]]) (v := .int .u8 (getI l2 x1)) (by kernel_rfl) (by kernel_rfl) (by kernel_rfl) (by kernel_rfl) ?_
    refine WP.dn (Shown.ok (v := .int .u8 (getI l2 x1)) (by kernel_rfl) (Step.refl _ _) ?_)
    exact ⟨tv, tv, tv, tv, tv, rfl, tv⟩
  intro vs g1 st1 hl hf
  obtain ⟨v0, v1, v2, v3, rfl⟩ := len_k4 hl
  have e1 := (show v1 = .int .u8 (getI l1 x1) from hf _ (memI 3 rfl) (by kernel_rfl))
  subst e1
  have e3 := (show v3 = .int .u8 (getI l2 x1) from hf _ (memI 5 rfl) (by kernel_rfl))
  subst e3
  replace hR1 := hR1.mono st1.toNo (fun x => x)
  replace hR2 := hR2.mono st1.toNo (fun x => x)
  replace tot := tot.trans st1.toNo.pure
  refine NX.then_n ?_
  refine CP.refr 26 [(0, .slice a1 n1 c1), (1, .slice a2 n2 c2), (5, .int .i64 x1), (25, .bool ((getI l1 x1) != (getI l2 x1)))] (by kernel_rfl) (by kernel_rfl) ?_
  clear ds
  intro ds
  refine CP.cond (b := ((getI l1 x1) != (getI l2 x1))) (by kernel_rfl) (fun h7 => ?_) (fun h7 => ?_)
  ·replace hs := of_if_t hs h7
   refine CP.seqR ?_
   refine WP.stl 1 ?_
   refine WP.dn ?_
   refine NX.then_n ?_
   refine CP.ret ?_
   refine NX.block_r ?_
   refine NX.then_r ?_
   refine NX.then_r ?_
   refine NX.block_r ?_
   refine NX.then_r ?_
   replace hs := Option.some.inj hs
   obtain rfl := hs
   exact NX.fin (v := .bool false) (Res.still (by kernel_rfl)) tot htL rfl
  replace hs := of_if_f hs h7
  refine CP.skip ?_
  refine NX.block_n ?_
  refine NX.then_n ?_
  refine CP.region ?_
  refine WP.stl 3 ?_
  refine WP.dn ?_
  refine NX.post ?_
  exact ⟨(IntKind.i64.wrap (x1 + 1)), ⟨by kernel_rfl, by kernel_rfl⟩, tot, hR1, hR2, hs⟩
 replace hs := of_if_f hs h6
 refine CP.exit ?_
 refine NX.then_e ?_
 refine NX.then_e ?_
 refine NX.block_s ?_
 refine NX.then_n ?_
 refine CP.seqR ?_
 refine WP.stl 1 ?_
 refine WP.dn ?_
 refine NX.then_n ?_
 refine CP.ret ?_
 replace hs := Option.some.inj hs
 obtain rfl := hs
 exact NX.fin (v := .bool true) (Res.still (by kernel_rfl)) tot htL rfl
end Go.Proofs.Ytlnockimfgfcgaa
