/-
  Walks, written by program: each Go function computes the plain function of its name, in whatever world its arguments' facts hold.
-/
import Derived.Test.YticlfbpmfejdoaaWPt3
namespace Go.Proofs.Yticlfbpmfejdoaa
open Go.RowKit Go.Lab
attribute [local irreducible] WP CP NX wpList Code.wp Calls
set_option maxRecDepth 100000
set_option maxHeartbeats 4000000
set_option linter.unusedVariables false

def F.octet_Reader_Bytes_1 (l1 : List Int) (x1 : Int) (l2 : List Int) : Option (Int × Int × (List Int)) := ((F.octet_number l1).bind fun (x2, x3, x4) => (if (x4 != 0) = true then (some (0, x4, l2)) else (if decide (x2 > (IntKind.u64.wrap (imax x1 0))) = true then (some (0, 2, l2)) else (if decide (x2 > (IntKind.u64.wrap (IntKind.i64.wrap ((l1.length : Int) - x3)))) = true then (some (0, 4, l2)) else (if (0 : Int) ≤ x3 ∧ x3 ≤ (IntKind.i64.wrap (x3 + (IntKind.i64.wrap x2))) ∧ (IntKind.i64.wrap (x3 + (IntKind.i64.wrap x2))) ≤ (l1.length : Int) then ((F.slices_Clone_byte_byte (sliceI l1 x3 (IntKind.i64.wrap (x3 + (IntKind.i64.wrap x2))))).bind fun l3 => (some ((IntKind.i64.wrap (x3 + (IntKind.i64.wrap x2))), 0, l3))) else none)))))
theorem P.octet_Reader_Bytes_1 (g0 : GW) (m0 : Nat) (m1 : Nat) (l1 : List Int) (x1 : Int) (l2 : List Int) (a1 : Option Addr) (n1 : Nat) (c1 : Nat) (a2 : Option Addr) (n2 : Nat) (c2 : Nat) (b1 : Nat) (b2 : Nat) (hR1 : RdS (Kd.int .u8) g0 5 a1 n1 c1 l1) (hR2 : RdS (Kd.int .u8) g0 5 a2 n2 c2 l2) (hB1 : Box g0 m0 b1 3 [[.int .i64 x1]] [1]) (hB2 : Box g0 m1 b2 64 [[.slice a2 n2 c2]] [1]) (hm1_0 : m1 ≠ m0) (hm0 : m0 ≠ 0) (hm1 : m1 ≠ 0) (o1 : Int) (o2 : Int) (o3 : (List Int)) (hs : F.octet_Reader_Bytes_1 l1 x1 l2 = some (o1, o2, o3)) :
  Calls Try.prog 108 #[.slice a1 n1 c1, .pointer (some ⟨b1, 0, none⟩), .pointer (some ⟨b2, 0, none⟩)] g0.w (Ret (WL [m1]) g0 fun v g => ∃ (a_1 : Option Addr) (n_1 : Nat) (c_1 : Nat), v = .tuple #[.int .i64 o1, .int .i64 o2] ∧ RdS (Kd.int .u8) g 5 a_1 n_1 c_1 o3 ∧ Box g m1 b2 64 [[.slice a_1 n_1 c_1]] [1]) := by
 refine calls_of (args := [.slice a1 n1 c1, .pointer (some ⟨b1, 0, none⟩), .pointer (some ⟨b2, 0, none⟩)]) Try.func108 rfl (m0 + m1 + 0) ?_
 intro t ht htL
 refine ⟨_, rfl, ?_⟩
 refine CP.refr 44 [(0, .slice a1 n1 c1), (1, .pointer (some ⟨b1, 0, none⟩)), (2, .pointer (some ⟨b2, 0, none⟩))] (by kernel_rfl) (by kernel_rfl) ?_
 intro ds
 have tot : Step (fun l => (WL [m1]) l ∨ t ≤ l) g0 g0 := Step.refl _ _
 unfold F.octet_Reader_Bytes_1 at hs
 refine CP.seqR ?_
 refine WP.stl 2 ?_
 refine WP.dn ?_
 refine NX.then_n ?_
 refine CP.seqR ?_
 refine WP.stl 1 ?_
 replace hs := Option.bind_eq_some_iff.1 hs
 obtain ⟨⟨x2, x3, x4⟩, hk1, hs⟩ := hs
 dsimp only at hs
 have hcal1 := P.octet_number g0 l1 a1 n1 c1 hR1 x2 x3 x4 hk1
 refine WP.callC hcal1 (by kernel_rfl) ?_
 rintro _ g1 st1 rfl
 replace hR1 := hR1.mono st1 (fun x => x)
 replace hB1 := hB1.mono st1 (fun x => x)
 replace hB2 := hB2.mono st1 (fun x => x)
 replace hR2 := hR2.mono st1 (fun x => x)
 replace tot := tot.trans st1.pure
 refine WP.stl 7 ?_
 refine WP.dn ?_
 refine NX.then_n ?_
 refine CP.seq ?_
 refine CP.block ?_
 refine CP.seqR ?_
 refine WP.stl 3 ?_
 refine WP.dn ?_
 refine NX.then_n ?_
 refine CP.refr 44 [(0, .slice a1 n1 c1), (1, .pointer (some ⟨b1, 0, none⟩)), (2, .pointer (some ⟨b2, 0, none⟩)), (6, .int .u64 x2), (7, .int .i64 x3), (8, .int .i64 x4), (16, .bool (x4 != 0))] (by kernel_rfl) (by kernel_rfl) ?_
 clear ds
 intro ds
 refine CP.cond (b := (x4 != 0)) (by kernel_rfl) (fun h1 => ?_) (fun h1 => ?_)
 ·replace hs := of_if_t hs h1
  refine CP.seqR ?_
  refine WP.stl 3 ?_
  refine WP.dn ?_
  refine NX.then_n ?_
  refine CP.ret ?_
  refine NX.block_r ?_
  refine NX.then_r ?_
  replace hs := Option.some.inj hs
  simp only [Prod.mk.injEq] at hs
  obtain ⟨rfl, rfl, rfl⟩ := hs
  exact NX.fin (v := .tuple #[.int .i64 0, .int .i64 x4]) (Res.still (by kernel_rfl)) tot htL ⟨a2, n2, c2, rfl, hR2, hB2⟩
 replace hs := of_if_f hs h1
 refine CP.seqR ?_
 refine WP.stl 1 ?_
 refine WP.loadB (v := .int .i64 x1) hB1 (by kernel_rfl) (by kernel_rfl) ?_
 refine WP.stl 4 ?_
 refine WP.dn ?_
 refine NX.then_n ?_
 refine CP.cond (b := decide (x2 > (IntKind.u64.wrap (imax x1 0)))) (by kernel_rfl) (fun h2 => ?_) (fun h2 => ?_)
 ·replace hs := of_if_t hs h2
  refine CP.seqR ?_
  refine WP.stl 2 ?_
  refine WP.dn ?_
  refine NX.then_n ?_
  refine CP.ret ?_
  refine NX.block_r ?_
  refine NX.then_r ?_
  replace hs := Option.some.inj hs
  simp only [Prod.mk.injEq] at hs
  obtain ⟨rfl, rfl, rfl⟩ := hs
  exact NX.fin (v := .tuple #[.int .i64 0, .int .i64 2]) (Res.still (by kernel_rfl)) tot htL ⟨a2, n2, c2, rfl, hR2, hB2⟩
 replace hs := of_if_f hs h2
 refine CP.seqR ?_
 refine WP.stl 2 ?_
 refine WP.len (a := a1) (cp := c1) hR1.len (by kernel_rfl) ?_
 refine WP.stl 5 ?_
 refine WP.dn ?_
 refine NX.then_n ?_
 refine CP.refr 44 [(0, .slice a1 n1 c1), (2, .pointer (some ⟨b2, 0, none⟩)), (6, .int .u64 x2), (7, .int .i64 x3), (26, .bool (decide (x2 > (IntKind.u64.wrap (IntKind.i64.wrap ((l1.length : Int) - x3))))))] (by kernel_rfl) (by kernel_rfl) ?_
 clear ds
 intro ds
 refine CP.cond (b := decide (x2 > (IntKind.u64.wrap (IntKind.i64.wrap ((l1.length : Int) - x3))))) (by kernel_rfl) (fun h3 => ?_) (fun h3 => ?_)
 ·replace hs := of_if_t hs h3
  refine CP.seqR ?_
  refine WP.stl 2 ?_
  refine WP.dn ?_
  refine NX.then_n ?_
  refine CP.ret ?_
  refine NX.block_r ?_
  refine NX.then_r ?_
  replace hs := Option.some.inj hs
  simp only [Prod.mk.injEq] at hs
  obtain ⟨rfl, rfl, rfl⟩ := hs
  exact NX.fin (v := .tuple #[.int .i64 0, .int .i64 4]) (Res.still (by kernel_rfl)) tot htL ⟨a2, n2, c2, rfl, hR2, hB2⟩
 replace hs := of_if_f hs h3
 refine CP.skip ?_
 refine NX.block_n ?_
 refine NX.then_n ?_
 refine CP.seqR ?_
 refine WP.stl 5 ?_
 refine WP.dn ?_
 refine NX.then_n ?_
 refine CP.seqR ?_
 refine WP.stl 3 ?_
 by_cases hc1 : (0 : Int) ≤ x3 ∧ x3 ≤ (IntKind.i64.wrap (x3 + (IntKind.i64.wrap x2))) ∧ (IntKind.i64.wrap (x3 + (IntKind.i64.wrap x2))) ≤ (l1.length : Int)
 case neg => rw [if_neg hc1] at hs; cases hs
 replace hs := of_if_p hs hc1
 refine WP.sliceR (lo := some (.int .i64 x3)) (hi := some (.int .i64 (IntKind.i64.wrap (x3 + (IntKind.i64.wrap x2))))) hR1 x3 (IntKind.i64.wrap (x3 + (IntKind.i64.wrap x2))) (by kernel_rfl) (.inr ⟨_, rfl⟩) (.inr ⟨_, rfl⟩) hc1 ?_
 intro a3 c3 hR3
 replace hs := Option.bind_eq_some_iff.1 hs
 obtain ⟨l3, hk2, hs⟩ := hs
 have hcal2 := P.slices_Clone_byte_byte g1 (t + 1) (sliceI l1 x3 (IntKind.i64.wrap (x3 + (IntKind.i64.wrap x2)))) a3 ((IntKind.i64.wrap (x3 + (IntKind.i64.wrap x2))).toNat - x3.toNat) c3 hR3 l3 hk2
 refine WP.callC hcal2 (by kernel_rfl) ?_
 rintro _ g2 st2 ⟨a4, n3, c4, rfl, hR4⟩
 replace hR1 := hR1.mono st2 (fun x => x)
 replace hB2 := hB2.mono st2 (fun x => x)
 replace hR2 := hR2.mono st2 (fun x => x)
 replace hR3 := hR3.mono st2 (fun x => x)
 replace tot := tot.trans st2.pure
 refine WP.storeB (ty := 64) (off := 0) (v := .slice a4 n3 c4) hB2 [[.slice a4 n3 c4]] [1] (by kernel_rfl) (by kernel_rfl) rfl (by kernel_rfl) [[.slice a4 n3 c4]] (by kernel_rfl) (.one rfl .nil) ?_
 intro g3 st3 hB3
 replace hR1 := hR1.mono st3 (WL.no1 (by omega))
 replace hR4 := hR4.mono st3 (WL.no1 (by omega)) (WL.no1 (by omega))
 replace hR3 := hR3.mono st3 (WL.no1 (by omega))
 replace tot := tot.trans (st3.up1 (.inl (by simp [WL])))
 clear hB2
 have hB2 := hB3
 clear hB3
 refine WP.dn ?_
 refine NX.then_n ?_
 refine CP.seqR ?_
 refine WP.stl 3 ?_
 refine WP.dn ?_
 refine NX.then_n ?_
 refine CP.refr 44 [(4, .int .i64 (IntKind.i64.wrap (x3 + (IntKind.i64.wrap x2)))), (5, .int .i64 0)] (by kernel_rfl) (by kernel_rfl) ?_
 clear ds
 intro ds
 refine CP.ret ?_
 obtain ⟨g4, hw1, st4, hnew⟩ := hR4.freeze (by omega)
 refine NX.regw hw1 ?_
 replace hB2 := hB2.mono st4 (WL.no1 (by omega))
 replace tot := tot.trans (st4.up1 (.inr (by omega)))
 clear hR4
 have hR4 := hnew
 clear hnew
 replace hs := Option.some.inj hs
 simp only [Prod.mk.injEq] at hs
 obtain ⟨rfl, rfl, rfl⟩ := hs
 exact NX.fin (v := .tuple #[.int .i64 (IntKind.i64.wrap (x3 + (IntKind.i64.wrap x2))), .int .i64 0]) (Res.still (by kernel_rfl)) tot htL ⟨a4, n3, c4, rfl, hR4, hB2⟩
def F.octet_Reader_read (l1 : List Int) (x1 : Int) (x2 : Int) (l2 : List Int) : Option (Bool × (List Int) × Int × (List Int)) := (if (x1 != 0) = true then (some (false, l1, x1, l2)) else ((F.octet_Reader_Bytes_1 l1 x2 l2).bind fun (x3, x4, d1) => (if (x4 != 0) = true then (some (false, l1, x4, d1)) else (if (0 : Int) ≤ x3 ∧ x3 ≤ (l1.length : Int) ∧ (l1.length : Int) ≤ (l1.length : Int) then (some (true, (sliceI l1 x3 (l1.length : Int)), x1, d1)) else none))))
theorem P.octet_Reader_read (g0 : GW) (m0 : Nat) (m1 : Nat) (m2 : Nat) (l1 : List Int) (x1 : Int) (x2 : Int) (l2 : List Int) (a1 : Option Addr) (n1 : Nat) (c1 : Nat) (a2 : Option Addr) (n2 : Nat) (c2 : Nat) (b1 : Nat) (b2 : Nat) (b3 : Nat) (hR1 : RdS (Kd.int .u8) g0 5 a1 n1 c1 l1) (hR2 : RdS (Kd.int .u8) g0 5 a2 n2 c2 l2) (hB1 : Box g0 m0 b1 150 [[.slice a1 n1 c1], [.int .i64 x1]] [1, 1]) (hB2 : Box g0 m1 b2 3 [[.int .i64 x2]] [1]) (hB3 : Box g0 m2 b3 64 [[.slice a2 n2 c2]] [1]) (hm1_0 : m1 ≠ m0) (hm2_0 : m2 ≠ m0) (hm2_1 : m2 ≠ m1) (hm0 : m0 ≠ 0) (hm1 : m1 ≠ 0) (hm2 : m2 ≠ 0) (o1 : Bool) (o2 : (List Int)) (o3 : Int) (o4 : (List Int)) (hs : F.octet_Reader_read l1 x1 x2 l2 = some (o1, o2, o3, o4)) :
  Calls Try.prog 107 #[.pointer (some ⟨b1, 0, none⟩), .func (.func 108) #[] #[.pointer (some ⟨b2, 0, none⟩), .pointer (some ⟨b3, 0, none⟩)]] g0.w (Ret (WL [m0, m2]) g0 fun v g => ∃ (a_1 : Option Addr) (n_1 : Nat) (c_1 : Nat) (a_4 : Option Addr) (n_4 : Nat) (c_4 : Nat), v = .bool o1 ∧ RdS (Kd.int .u8) g 5 a_1 n_1 c_1 o2 ∧ Box g m0 b1 150 [[.slice a_1 n_1 c_1], [.int .i64 o3]] [1, 1] ∧ RdS (Kd.int .u8) g 5 a_4 n_4 c_4 o4 ∧ Box g m2 b3 64 [[.slice a_4 n_4 c_4]] [1]) := by
 refine calls_of (args := [.pointer (some ⟨b1, 0, none⟩), .func (.func 108) #[] #[.pointer (some ⟨b2, 0, none⟩), .pointer (some ⟨b3, 0, none⟩)]]) Try.func107 rfl (m0 + m1 + m2 + 0) ?_
 intro t ht htL
 refine ⟨_, rfl, ?_⟩
 refine CP.refr 40 [(0, .pointer (some ⟨b1, 0, none⟩)), (1, .func (.func 108) #[] #[.pointer (some ⟨b2, 0, none⟩), .pointer (some ⟨b3, 0, none⟩)])] (by kernel_rfl) (by kernel_rfl) ?_
 intro ds
 have tot : Step (fun l => (WL [m0, m2]) l ∨ t ≤ l) g0 g0 := Step.refl _ _
 unfold F.octet_Reader_read at hs
 refine CP.seqR ?_
 refine WP.stl 1 ?_
 refine WP.dn ?_
 refine NX.then_n ?_
 refine CP.seq ?_
 refine CP.seq ?_
 refine CP.region ?_
 refine WP.stl 6 ?_
 refine WP.loadB (v := .int .i64 x1) hB1 (by kernel_rfl) (by kernel_rfl) ?_
 refine WP.stl 2 ?_
 refine WP.dn ?_
 refine NX.then_n ?_
 refine CP.cond (b := (x1 != 0)) (by kernel_rfl) (fun h1 => ?_) (fun h1 => ?_)
 ·replace hs := of_if_t hs h1
  refine CP.seqR ?_
  refine WP.stl 1 ?_
  refine WP.dn ?_
  refine NX.then_n ?_
  refine CP.ret ?_
  refine NX.then_r ?_
  replace hs := Option.some.inj hs
  simp only [Prod.mk.injEq] at hs
  obtain ⟨rfl, rfl, rfl, rfl⟩ := hs
  exact NX.fin (v := .bool false) (Res.still (by kernel_rfl)) tot htL ⟨a1, n1, c1, a2, n2, c2, rfl, hR1, hB1, hR2, hB3⟩
 replace hs := of_if_f hs h1
 refine CP.skip ?_
 refine NX.then_n ?_
 refine CP.seqR ?_
 refine WP.stl 4 ?_
 refine WP.loadB (v := .slice a1 n1 c1) hB1 (by kernel_rfl) (by kernel_rfl) ?_
 replace hs := Option.bind_eq_some_iff.1 hs
 obtain ⟨⟨x3, x4, d1⟩, hk1, hs⟩ := hs
 dsimp only at hs
 have hcal1 := P.octet_Reader_Bytes_1 g0 m1 m2 l1 x2 l2 a1 n1 c1 a2 n2 c2 b2 b3 hR1 hR2 hB2 hB3 (by omega) (by omega) (by omega) x3 x4 d1 hk1
 refine WP.callC hcal1 (by kernel_rfl) ?_
 rintro _ g1 st1 ⟨a3, n3, c3, rfl, hR3, hB4⟩
 replace hB1 := hB1.mono st1 (WL.no1 (by omega))
 replace hR1 := hR1.mono st1 (WL.no1 (by omega))
 replace hB2 := hB2.mono st1 (WL.no1 (by omega))
 replace tot := tot.trans (st1.up1 (.inl (by simp [WL])))
 clear hB3
 have hB3 := hB4
 clear hB4
 refine WP.stl 5 ?_
 refine WP.dn ?_
 refine NX.then_n ?_
 refine CP.refr 40 [(0, .pointer (some ⟨b1, 0, none⟩)), (5, .int .i64 x3), (6, .int .i64 x4)] (by kernel_rfl) (by kernel_rfl) ?_
 clear ds
 intro ds
 refine CP.seq ?_
 refine CP.seqR ?_
 refine WP.stl 2 ?_
 refine WP.dn ?_
 refine NX.then_n ?_
 refine CP.cond (b := (x4 != 0)) (by kernel_rfl) (fun h2 => ?_) (fun h2 => ?_)
 ·replace hs := of_if_t hs h2
  refine CP.seqR ?_
  refine WP.stl 4 ?_
  refine WP.storeB (ty := 39) (off := 1) (v := .int .i64 x4) hB1 [[.int .i64 x4]] [1] (by kernel_rfl) (by kernel_rfl) rfl (by kernel_rfl) [[.slice a1 n1 c1], [.int .i64 x4]] (by kernel_rfl) (.one rfl .nil) ?_
  intro g2 st2 hB5
  replace hR1 := hR1.mono st2 (WL.no1 (by omega))
  replace hB3 := hB3.mono st2 (WL.no1 (by omega))
  replace hR3 := hR3.mono st2 (WL.no1 (by omega))
  replace tot := tot.trans (st2.up1 (.inl (by simp [WL])))
  clear hB1
  have hB1 := hB5
  clear hB5
  refine WP.dn ?_
  refine NX.then_n ?_
  refine CP.seqR ?_
  refine WP.stl 1 ?_
  refine WP.dn ?_
  refine NX.then_n ?_
  refine CP.ret ?_
  refine NX.then_r ?_
  replace hs := Option.some.inj hs
  simp only [Prod.mk.injEq] at hs
  obtain ⟨rfl, rfl, rfl, rfl⟩ := hs
  exact NX.fin (v := .bool false) (Res.still (by kernel_rfl)) tot htL ⟨a1, n1, c1, a3, n3, c3, rfl, hR1, hB1, hR3, hB3⟩
 replace hs := of_if_f hs h2
 refine CP.skip ?_
 refine NX.then_n ?_
 refine CP.seqR ?_
 refine WP.stl 4 ?_
 refine WP.loadB (v := .slice a1 n1 c1) hB1 (by kernel_rfl) (by kernel_rfl) ?_
 refine WP.stl 1 ?_
 by_cases hc1 : (0 : Int) ≤ x3 ∧ x3 ≤ (l1.length : Int) ∧ (l1.length : Int) ≤ (l1.length : Int)
 case neg => rw [if_neg hc1] at hs; cases hs
 replace hs := of_if_p hs hc1
 refine WP.sliceR (lo := some (.int .i64 x3)) (hi := none) hR1 x3 (l1.length : Int) (by kernel_rfl) (.inr ⟨_, rfl⟩) (.inl ⟨rfl, rfl⟩) hc1 ?_
 intro a4 c4 hR4
 refine WP.stl 2 ?_
 refine WP.storeB (ty := 64) (off := 0) (v := .slice a4 ((l1.length : Int).toNat - x3.toNat) c4) hB1 [[.slice a4 ((l1.length : Int).toNat - x3.toNat) c4]] [1] (by kernel_rfl) (by kernel_rfl) rfl (by kernel_rfl) [[.slice a4 ((l1.length : Int).toNat - x3.toNat) c4], [.int .i64 x1]] (by kernel_rfl) (.one rfl .nil) ?_
 intro g3 st3 hB6
 replace hR4 := hR4.mono st3 (WL.no1 (by omega))
 replace hB3 := hB3.mono st3 (WL.no1 (by omega))
 replace hR3 := hR3.mono st3 (WL.no1 (by omega))
 replace hR1 := hR1.mono st3 (WL.no1 (by omega))
 replace tot := tot.trans (st3.up1 (.inl (by simp [WL])))
 clear hB1
 have hB1 := hB6
 clear hB6
 refine WP.dn ?_
 refine NX.then_n ?_
 refine CP.seqR ?_
 refine WP.stl 1 ?_
 refine WP.dn ?_
 refine NX.then_n ?_
 refine CP.refr 40 [(4, .bool true)] (by kernel_rfl) (by kernel_rfl) ?_
 clear ds
 intro ds
 refine CP.ret ?_
 replace hs := Option.some.inj hs
 simp only [Prod.mk.injEq] at hs
 obtain ⟨rfl, rfl, rfl, rfl⟩ := hs
 exact NX.fin (v := .bool true) (Res.still (by kernel_rfl)) tot htL ⟨a4, ((l1.length : Int).toNat - x3.toNat), c4, a3, n3, c3, rfl, hR4, hB1, hR3, hB3⟩
def F.octet_Reader_Bytes (l1 : List Int) (x1 : Int) (x2 : Int) : Option ((List Int) × (List Int) × Int) := ((F.octet_Reader_read l1 x1 x2 ([])).bind fun (q1, d1, x3, d2) => (if (!q1) = true then (some ([], d1, x3)) else (some (d2, d1, x3))))
theorem P.octet_Reader_Bytes (g0 : GW) (m0 : Nat) (l1 : List Int) (x1 : Int) (x2 : Int) (a1 : Option Addr) (n1 : Nat) (c1 : Nat) (b1 : Nat) (hR1 : RdS (Kd.int .u8) g0 5 a1 n1 c1 l1) (hB1 : Box g0 m0 b1 150 [[.slice a1 n1 c1], [.int .i64 x1]] [1, 1]) (hm0 : m0 ≠ 0) (o1 : List Int) (o2 : (List Int)) (o3 : Int) (hs : F.octet_Reader_Bytes l1 x1 x2 = some (o1, o2, o3)) :
  Calls Try.prog 91 #[.pointer (some ⟨b1, 0, none⟩), .int .i64 x2] g0.w (Ret (WL [m0]) g0 fun v g => ∃ (a_1 : Option Addr) (n_1 : Nat) (c_1 : Nat) (a_4 : Option Addr) (n_4 : Nat) (c_4 : Nat), v = .slice a_1 n_1 c_1 ∧ RdS (Kd.int .u8) g 5 a_1 n_1 c_1 o1 ∧ RdS (Kd.int .u8) g 5 a_4 n_4 c_4 o2 ∧ Box g m0 b1 150 [[.slice a_4 n_4 c_4], [.int .i64 o3]] [1, 1]) := by
 refine calls_of (args := [.pointer (some ⟨b1, 0, none⟩), .int .i64 x2]) Try.func91 rfl (m0 + 0) ?_
 intro t ht htL
 refine ⟨_, rfl, ?_⟩
 refine CP.refr 13 [(0, .pointer (some ⟨b1, 0, none⟩)), (1, .int .i64 x2)] (by kernel_rfl) (by kernel_rfl) ?_
 intro ds
 have tot : Step (fun l => (WL [m0]) l ∨ t ≤ l) g0 g0 := Step.refl _ _
 unfold F.octet_Reader_Bytes at hs
 refine CP.seqR ?_
 refine WP.alloc (T := 3) (t + 1) [[.int .i64 x2]] [1] (by kernel_rfl) rfl ?_
 intro g1 b2 st1 hB2
 replace hB1 := hB1.mono st1 (fun x => x)
 replace hR1 := hR1.mono st1 (fun x => x)
 replace tot := tot.trans st1.pure
 refine WP.stl 1 ?_
 refine WP.dn ?_
 refine NX.then_n ?_
 refine CP.seqR ?_
 refine WP.alloc (T := 64) (t + 2) [[.slice none 0 0]] [1] (by kernel_rfl) rfl ?_
 intro g2 b3 st2 hB3
 replace hB1 := hB1.mono st2 (fun x => x)
 replace hR1 := hR1.mono st2 (fun x => x)
 replace hB2 := hB2.mono st2 (fun x => x)
 replace tot := tot.trans st2.pure
 refine WP.dn ?_
 refine NX.then_n ?_
 refine CP.seqR ?_
 refine WP.stl 2 ?_
 replace hs := Option.bind_eq_some_iff.1 hs
 obtain ⟨⟨q1, d1, x3, d2⟩, hk1, hs⟩ := hs
 dsimp only at hs
 have hcal1 := P.octet_Reader_read g2 m0 (t + 1) (t + 2) l1 x1 x2 ([]) a1 n1 c1 none 0 0 b1 b2 b3 hR1 (RdS.nil _ _ _) hB1 hB2 hB3 (by omega) (by omega) (by omega) (by omega) (by omega) (by omega) q1 d1 x3 d2 hk1
 refine WP.callC hcal1 (by kernel_rfl) ?_
 rintro _ g3 st3 ⟨a2, n2, c2, a3, n3, c3, rfl, hR2, hB4, hR3, hB5⟩
 replace hB2 := hB2.mono st3 (WL.no2 (by omega) (by omega))
 replace tot := tot.trans (st3.up2 (.inl (by simp [WL])) (.inr (by omega)))
 clear hB1
 have hB1 := hB4
 clear hB4
 clear hB3
 have hB3 := hB5
 clear hB5
 refine WP.stl 1 ?_
 refine WP.dn ?_
 refine NX.then_n ?_
 refine CP.seq ?_
 refine CP.seqR ?_
 refine WP.stl 2 ?_
 refine WP.dn ?_
 refine NX.then_n ?_
 refine CP.cond (b := (!q1)) (by kernel_rfl) (fun h1 => ?_) (fun h1 => ?_)
 ·replace hs := of_if_t hs h1
  refine CP.seqR ?_
  refine WP.stl 1 ?_
  refine WP.dn ?_
  refine NX.then_n ?_
  refine CP.ret ?_
  refine NX.then_r ?_
  replace hs := Option.some.inj hs
  simp only [Prod.mk.injEq] at hs
  obtain ⟨rfl, rfl, rfl⟩ := hs
  exact NX.fin (v := .slice none 0 0) (Res.still (by kernel_rfl)) tot htL ⟨none, 0, 0, a2, n2, c2, rfl, (RdS.nil _ _ _), hR2, hB1⟩
 replace hs := of_if_f hs h1
 refine CP.skip ?_
 refine NX.then_n ?_
 refine CP.seqR ?_
 refine WP.loadB (v := .slice a3 n3 c3) hB3 (by kernel_rfl) (by kernel_rfl) ?_
 refine WP.stl 1 ?_
 refine WP.dn ?_
 refine NX.then_n ?_
 refine CP.ret ?_
 replace hs := Option.some.inj hs
 simp only [Prod.mk.injEq] at hs
 obtain ⟨rfl, rfl, rfl⟩ := hs
 exact NX.fin (v := .slice a3 n3 c3) (Res.still (by kernel_rfl)) tot htL ⟨a3, n3, c3, a2, n2, c2, rfl, hR3, hR2, hB1⟩
def F.octet_Reader_Err (l1 : List Int) (x1 : Int) : Option (Int) := (some x1)
theorem P.octet_Reader_Err (g0 : GW) (m0 : Nat) (l1 : List Int) (x1 : Int) (a1 : Option Addr) (n1 : Nat) (c1 : Nat) (b1 : Nat) (hR1 : RdS (Kd.int .u8) g0 5 a1 n1 c1 l1) (hB1 : Box g0 m0 b1 150 [[.slice a1 n1 c1], [.int .i64 x1]] [1, 1]) (hm0 : m0 ≠ 0) (o1 : Int) (hs : F.octet_Reader_Err l1 x1 = some o1) :
  Calls Try.prog 92 #[.pointer (some ⟨b1, 0, none⟩)] g0.w (Ret NoM g0 fun v g => v = .int .i64 o1) := by
 refine calls_of (args := [.pointer (some ⟨b1, 0, none⟩)]) Try.func92 rfl (m0 + 0) ?_
 intro t ht htL
 refine ⟨_, rfl, ?_⟩
 refine CP.refr 9 [(0, .pointer (some ⟨b1, 0, none⟩))] (by kernel_rfl) (by kernel_rfl) ?_
 intro ds
 have tot : Step (fun l => NoM l ∨ t ≤ l) g0 g0 := Step.refl _ _
 unfold F.octet_Reader_Err at hs
 refine CP.seqR ?_
 refine WP.stl 1 ?_
 refine WP.dn ?_
 refine NX.then_n ?_
 refine CP.seq ?_
 refine CP.seqR ?_
 refine WP.stl 2 ?_
 refine WP.dn ?_
 refine NX.then_n ?_
 refine CP.cond_f (by kernel_rfl) ?_
 refine CP.skip ?_
 refine NX.then_n ?_
 refine CP.seqR ?_
 refine WP.stl 3 ?_
 refine WP.loadB (v := .int .i64 x1) hB1 (by kernel_rfl) (by kernel_rfl) ?_
 refine WP.stl 1 ?_
 refine WP.dn ?_
 refine NX.then_n ?_
 refine CP.ret ?_
 replace hs := Option.some.inj hs
 obtain rfl := hs
 exact NX.fin (v := .int .i64 x1) (Res.still (by kernel_rfl)) tot htL rfl
def F.purse_reader_name.c1 (l2 : List Int) (d1 : (List Int)) (x3 : Int) (x5 : Int) : Option ((Arr Int 8) × (List Int) × Int × Int) := (some ((copyA (zA 8) l2), d1, x3, x5))
def F.purse_reader_name.c2 (x2 : Int) (l2 : List Int) (d1 : (List Int)) (x3 : Int) (q2 : Bool) : Option ((Arr Int 8) × (List Int) × Int × Int) := (if q2 = true then (F.purse_reader_name.c1 l2 d1 x3 3) else (F.purse_reader_name.c1 l2 d1 x3 x2))
def F.purse_reader_name (l1 : List Int) (x1 : Int) (x2 : Int) : Option ((Arr Int 8) × (List Int) × Int × Int) := ((F.octet_Reader_Bytes l1 x1 8).bind fun (l2, d1, x3) => (if (x2 == 0) = true then ((F.octet_Reader_Err d1 x3).bind fun x7 => (if (x7 == 0) = true then (F.purse_reader_name.c2 x2 l2 d1 x3 ((l2.length : Int) != 8)) else (F.purse_reader_name.c2 x2 l2 d1 x3 false))) else (F.purse_reader_name.c2 x2 l2 d1 x3 false)))
theorem P.purse_reader_name (g0 : GW) (m0 : Nat) (m1 : Nat) (l1 : List Int) (x1 : Int) (x2 : Int) (a1 : Option Addr) (n1 : Nat) (c1 : Nat) (b1 : Nat) (b2 : Nat) (hR1 : RdS (Kd.int .u8) g0 5 a1 n1 c1 l1) (hB1 : Box g0 m1 b2 150 [[.slice a1 n1 c1], [.int .i64 x1]] [1, 1]) (hB2 : Box g0 m0 b1 112 [[.pointer (some ⟨b2, 0, none⟩)], [.int .i64 x2]] [1, 1]) (hm1_0 : m1 ≠ m0) (hm0 : m0 ≠ 0) (hm1 : m1 ≠ 0) (o1 : Arr Int 8) (o2 : (List Int)) (o3 : Int) (o4 : Int) (hs : F.purse_reader_name l1 x1 x2 = some (o1, o2, o3, o4)) :
  Calls Try.prog 66 #[.pointer (some ⟨b1, 0, none⟩)] g0.w (Ret (WL [m1, m0]) g0 fun v g => ∃ (a_1 : Option Addr) (n_1 : Nat) (c_1 : Nat), v = AG [encA .u8 o1] ∧ RdS (Kd.int .u8) g 5 a_1 n_1 c_1 o2 ∧ Box g m1 b2 150 [[.slice a_1 n_1 c_1], [.int .i64 o3]] [1, 1] ∧ Box g m0 b1 112 [[.pointer (some ⟨b2, 0, none⟩)], [.int .i64 o4]] [1, 1]) := by
 refine calls_of (args := [.pointer (some ⟨b1, 0, none⟩)]) Try.func66 rfl (m0 + m1 + 0) ?_
 intro t ht htL
 refine ⟨_, rfl, ?_⟩
 refine CP.refr 35 [(0, .pointer (some ⟨b1, 0, none⟩))] (by kernel_rfl) (by kernel_rfl) ?_
 intro ds
 have tot : Step (fun l => (WL [m1, m0]) l ∨ t ≤ l) g0 g0 := Step.refl _ _
 unfold F.purse_reader_name at hs
 refine CP.seqR ?_
 refine WP.alloc (T := 29) (t + 1) [encA .u8 (zA 8)] [8] (by kernel_rfl) (by simp [len_encA]) ?_
 intro g1 b3 st1 hB3
 replace hB2 := hB2.mono st1 (fun x => x)
 replace hB1 := hB1.mono st1 (fun x => x)
 replace hR1 := hR1.mono st1 (fun x => x)
 replace tot := tot.trans st1.pure
 refine WP.dn ?_
 refine NX.then_n ?_
 refine CP.seqR ?_
 refine WP.alloc (T := 29) (t + 2) [encA .u8 (zA 8)] [8] (by kernel_rfl) (by simp [len_encA]) ?_
 intro g2 b4 st2 hB4
 replace hB2 := hB2.mono st2 (fun x => x)
 replace hB1 := hB1.mono st2 (fun x => x)
 replace hR1 := hR1.mono st2 (fun x => x)
 replace hB3 := hB3.mono st2 (fun x => x)
 replace tot := tot.trans st2.pure
 refine WP.dn ?_
 refine NX.then_n ?_
 refine CP.seqR ?_
 refine WP.stl 3 ?_
 refine WP.loadB (v := .pointer (some ⟨b2, 0, none⟩)) hB2 (by kernel_rfl) (by kernel_rfl) ?_
 replace hs := Option.bind_eq_some_iff.1 hs
 obtain ⟨⟨l2, d1, x3⟩, hk1, hs⟩ := hs
 dsimp only at hs
 have hcal1 := P.octet_Reader_Bytes g2 m1 l1 x1 8 a1 n1 c1 b2 hR1 hB1 (by omega) l2 d1 x3 hk1
 refine WP.callC hcal1 (by kernel_rfl) ?_
 rintro _ g3 st3 ⟨a2, n2, c2, a3, n3, c3, rfl, hR2, hR3, hB5⟩
 replace hB2 := hB2.mono st3 (WL.no1 (by omega))
 replace hB3 := hB3.mono st3 (WL.no1 (by omega))
 replace hB4 := hB4.mono st3 (WL.no1 (by omega))
 replace tot := tot.trans (st3.up1 (.inl (by simp [WL])))
 clear hB1
 have hB1 := hB5
 clear hB5
 refine WP.stl 1 ?_
 refine WP.dn ?_
 refine NX.then_n ?_
 refine CP.cut (fun tm g => ∃ (x5 : Int), Fr 35 [(2, .pointer (some ⟨b3, 0, none⟩)), (3, .pointer (some ⟨b4, 0, none⟩)), (4, .slice a2 n2 c2)] tm ∧ Step (fun l => (WL [m1, m0]) l ∨ t ≤ l) g0 g ∧ Box g m0 b1 112 [[.pointer (some ⟨b2, 0, none⟩)], [.int .i64 x5]] [1, 1] ∧ Box g m1 b2 150 [[.slice a3 n3 c3], [.int .i64 x3]] [1, 1] ∧ RdS (Kd.int .u8) g 5 a3 n3 c3 d1 ∧ Box g (t + 1) b3 29 [encA .u8 (zA 8)] [8] ∧ Box g (t + 2) b4 29 [encA .u8 (zA 8)] [8] ∧ RdS (Kd.int .u8) g 5 a2 n2 c2 l2 ∧ (F.purse_reader_name.c1 l2 d1 x3 x5) = some (o1, o2, o3, o4)) ?_ ?_
 ·refine CP.cut (fun tm g => ∃ (q2 : Bool), Fr 35 [(0, .pointer (some ⟨b1, 0, none⟩)), (2, .pointer (some ⟨b3, 0, none⟩)), (3, .pointer (some ⟨b4, 0, none⟩)), (4, .slice a2 n2 c2), (27, .bool q2)] tm ∧ Step (fun l => (WL [m1, m0]) l ∨ t ≤ l) g0 g ∧ Box g m0 b1 112 [[.pointer (some ⟨b2, 0, none⟩)], [.int .i64 x2]] [1, 1] ∧ Box g m1 b2 150 [[.slice a3 n3 c3], [.int .i64 x3]] [1, 1] ∧ RdS (Kd.int .u8) g 5 a3 n3 c3 d1 ∧ Box g (t + 1) b3 29 [encA .u8 (zA 8)] [8] ∧ Box g (t + 2) b4 29 [encA .u8 (zA 8)] [8] ∧ RdS (Kd.int .u8) g 5 a2 n2 c2 l2 ∧ (F.purse_reader_name.c2 x2 l2 d1 x3 q2) = some (o1, o2, o3, o4)) ?_ ?_
  ·refine CP.region ?_
   refine WP.stl 3 ?_
   refine WP.loadB (v := .int .i64 x2) hB2 (by kernel_rfl) (by kernel_rfl) ?_
   refine WP.stl 2 ?_
   refine WP.guard 15 (b := (x2 == 0)) (by kernel_rfl) (fun h7 => ?_) (fun h7 => ?_)
   ·replace hs := of_if_t hs h7
    refine WP.stl 3 ?_
    refine WP.loadB (v := .pointer (some ⟨b2, 0, none⟩)) hB2 (by kernel_rfl) (by kernel_rfl) ?_
    replace hs := Option.bind_eq_some_iff.1 hs
    obtain ⟨x7, hk4, hs⟩ := hs
    have hcal4 := P.octet_Reader_Err g3 m1 d1 x3 a3 n3 c3 b2 hR3 hB1 (by omega) x7 hk4
    refine WP.callC hcal4 (by kernel_rfl) ?_
    rintro _ g10 st10 rfl
    replace hB2 := hB2.mono st10 (fun x => x)
    replace hB1 := hB1.mono st10 (fun x => x)
    replace hR3 := hR3.mono st10 (fun x => x)
    replace hB3 := hB3.mono st10 (fun x => x)
    replace hB4 := hB4.mono st10 (fun x => x)
    replace hR2 := hR2.mono st10 (fun x => x)
    replace tot := tot.trans st10.pure
    refine WP.stl 3 ?_
    refine WP.guard 23 (b := (x7 == 0)) (by kernel_rfl) (fun h8 => ?_) (fun h8 => ?_)
    ·replace hs := of_if_t hs h8
     refine WP.stl 1 ?_
     refine WP.len (a := a2) (cp := c2) hR2.len (by kernel_rfl) ?_
     refine WP.stl 2 ?_
     refine WP.dn ?_
     refine NX.post ?_
     exact ⟨((l2.length : Int) != 8), ⟨by kernel_rfl, by kernel_rfl⟩, tot, hB2, hB1, hR3, hB3, hB4, hR2, hs⟩
    replace hs := of_if_f hs h8
    refine WP.stl 4 ?_
    refine WP.dn ?_
    refine NX.post ?_
    exact ⟨false, ⟨by kernel_rfl, by kernel_rfl⟩, tot, hB2, hB1, hR3, hB3, hB4, hR2, hs⟩
   replace hs := of_if_f hs h7
   refine WP.stl 12 ?_
   refine WP.dn ?_
   refine NX.post ?_
   exact ⟨false, ⟨by kernel_rfl, by kernel_rfl⟩, tot, hB2, hB1, hR3, hB3, hB4, hR2, hs⟩
  clear tot hs hB2 hB1 hR3 hB3 hB4 hR2
  rintro tm g ⟨q2, hF, tot, hB2, hB1, hR3, hB3, hB4, hR2, hs⟩
  clear ds
  obtain ⟨ds, rfl⟩ := hF.open
  clear hF
  unfold F.purse_reader_name.c2 at hs
  refine CP.cond (b := q2) (by kernel_rfl) (fun h6 => ?_) (fun h6 => ?_)
  ·replace hs := of_if_t hs h6
   refine CP.region ?_
   refine WP.stl 3 ?_
   refine WP.storeB (ty := 39) (off := 1) (v := .int .i64 3) hB2 [[.int .i64 3]] [1] (by kernel_rfl) (by kernel_rfl) rfl (by kernel_rfl) [[.pointer (some ⟨b2, 0, none⟩)], [.int .i64 3]] (by kernel_rfl) (.one rfl .nil) ?_
   intro g9 st9 hB9
   replace hB1 := hB1.mono st9 (WL.no1 (by omega))
   replace hR3 := hR3.mono st9 (WL.no1 (by omega))
   replace hB3 := hB3.mono st9 (WL.no1 (by omega))
   replace hB4 := hB4.mono st9 (WL.no1 (by omega))
   replace hR2 := hR2.mono st9 (WL.no1 (by omega))
   replace tot := tot.trans (st9.up1 (.inl (by simp [WL])))
   clear hB2
   have hB2 := hB9
   clear hB9
   refine WP.dn ?_
   refine NX.post ?_
   exact ⟨3, ⟨by kernel_rfl, by kernel_rfl⟩, tot, hB2, hB1, hR3, hB3, hB4, hR2, hs⟩
  replace hs := of_if_f hs h6
  refine CP.skip ?_
  refine NX.post ?_
  exact ⟨x2, ⟨by kernel_rfl, by kernel_rfl⟩, tot, hB2, hB1, hR3, hB3, hB4, hR2, hs⟩
 clear tot hs hB2 hB1 hR3 hB3 hB4 hR2
 rintro tm g ⟨x5, hF, tot, hB2, hB1, hR3, hB3, hB4, hR2, hs⟩
 clear ds
 obtain ⟨ds, rfl⟩ := hF.open
 clear hF
 unfold F.purse_reader_name.c1 at hs
 refine CP.seqR ?_
 refine WP.sliceN (t := 29) (e := 5) (m := 8) (size := 1) (b := b4) (o := 0) (by kernel_rfl) ?_
 refine WP.stl 1 ?_
 refine WP.copyB (o := 0) (m := 8) (k := .u8) (d := (zA 8)) hB4 (by kernel_rfl) (t := 64) (e := 5) (bytes := 1) (a := a2) (c2 := c2) hR2.src hR2.len (by kernel_rfl) (by kernel_rfl) hR2.none0 [encA .u8 (copyA (zA 8) l2)] (by kernel_rfl) ?_
 intro g6 st6 hB7
 replace hB2 := hB2.mono st6 (WL.no1 (by omega))
 replace hB1 := hB1.mono st6 (WL.no1 (by omega))
 replace hR3 := hR3.mono st6 (WL.no1 (by omega))
 replace hB3 := hB3.mono st6 (WL.no1 (by omega))
 replace hR2 := hR2.mono st6 (WL.no1 (by omega))
 replace tot := tot.trans (st6.up1 (.inr (by omega)))
 clear hB4
 have hB4 := hB7
 clear hB7
 refine WP.dn ?_
 refine NX.then_n ?_
 refine CP.seqR ?_
 refine WP.loadB (v := AG [encA .u8 (copyA (zA 8) l2)]) hB4 (by kernel_rfl) (by kernel_rfl) ?_
 refine WP.storeB (ty := 29) (off := 0) (v := AG [encA .u8 (copyA (zA 8) l2)]) hB3 [encA .u8 (copyA (zA 8) l2)] [8] (by kernel_rfl) (by kernel_rfl) (by simp [len_encA]) (by kernel_rfl) [encA .u8 (copyA (zA 8) l2)] (by kernel_rfl) (.arr .nil) ?_
 intro g7 st7 hB8
 replace hB2 := hB2.mono st7 (WL.no1 (by omega))
 replace hB1 := hB1.mono st7 (WL.no1 (by omega))
 replace hR3 := hR3.mono st7 (WL.no1 (by omega))
 replace hB4 := hB4.mono st7 (WL.no1 (by omega))
 replace tot := tot.trans (st7.up1 (.inr (by omega)))
 clear hB3
 have hB3 := hB8
 clear hB8
 refine WP.dn ?_
 refine NX.then_n ?_
 refine CP.ret ?_
 replace hs := Option.some.inj hs
 simp only [Prod.mk.injEq] at hs
 obtain ⟨rfl, rfl, rfl, rfl⟩ := hs
 exact NX.fin (v := AG [encA .u8 (copyA (zA 8) l2)]) (Res.one rfl (RV.box (agg := true) (size := 8) (rs := [encA .u8 (copyA (zA 8) l2)]) hB3 (by kernel_rfl) (by kernel_rfl) (by kernel_rfl) (by kernel_rfl))) tot htL ⟨a3, n3, c3, rfl, hR3, hB1, hB2⟩
def F.octet_Reader_Num_1.c1 (x3 : Int) (x4 : Int) (x6 : Int) : Option (Int × Int × Int) := (some (x4, x6, x3))
def F.octet_Reader_Num_1.c2 (x3 : Int) (x4 : Int) (x5 : Int) (q2 : Bool) : Option (Int × Int × Int) := (if q2 = true then (F.octet_Reader_Num_1.c1 x3 x4 2) else (F.octet_Reader_Num_1.c1 x3 x4 x5))
def F.octet_Reader_Num_1 (l1 : List Int) (x1 : Int) (x2 : Int) : Option (Int × Int × Int) := ((F.octet_number l1).bind fun (x3, x4, x5) => (if (x5 == 0) = true then (F.octet_Reader_Num_1.c2 x3 x4 x5 (decide (x3 > x1))) else (F.octet_Reader_Num_1.c2 x3 x4 x5 false)))
theorem P.octet_Reader_Num_1 (g0 : GW) (m0 : Nat) (m1 : Nat) (l1 : List Int) (x1 : Int) (x2 : Int) (a1 : Option Addr) (n1 : Nat) (c1 : Nat) (b1 : Nat) (b2 : Nat) (hR1 : RdS (Kd.int .u8) g0 5 a1 n1 c1 l1) (hB1 : Box g0 m0 b1 116 [[.int .u64 x1]] [1]) (hB2 : Box g0 m1 b2 116 [[.int .u64 x2]] [1]) (hm1_0 : m1 ≠ m0) (hm0 : m0 ≠ 0) (hm1 : m1 ≠ 0) (o1 : Int) (o2 : Int) (o3 : Int) (hs : F.octet_Reader_Num_1 l1 x1 x2 = some (o1, o2, o3)) :
  Calls Try.prog 110 #[.slice a1 n1 c1, .pointer (some ⟨b1, 0, none⟩), .pointer (some ⟨b2, 0, none⟩)] g0.w (Ret (WL [m1]) g0 fun v g => v = .tuple #[.int .i64 o1, .int .i64 o2] ∧ Box g m1 b2 116 [[.int .u64 o3]] [1]) := by
 refine calls_of (args := [.slice a1 n1 c1, .pointer (some ⟨b1, 0, none⟩), .pointer (some ⟨b2, 0, none⟩)]) Try.func110 rfl (m0 + m1 + 0) ?_
 intro t ht htL
 refine ⟨_, rfl, ?_⟩
 refine CP.refr 25 [(0, .slice a1 n1 c1), (1, .pointer (some ⟨b1, 0, none⟩)), (2, .pointer (some ⟨b2, 0, none⟩))] (by kernel_rfl) (by kernel_rfl) ?_
 intro ds
 have tot : Step (fun l => (WL [m1]) l ∨ t ≤ l) g0 g0 := Step.refl _ _
 unfold F.octet_Reader_Num_1 at hs
 refine CP.seqR ?_
 refine WP.stl 2 ?_
 refine WP.dn ?_
 refine NX.then_n ?_
 refine CP.seqR ?_
 refine WP.stl 1 ?_
 replace hs := Option.bind_eq_some_iff.1 hs
 obtain ⟨⟨x3, x4, x5⟩, hk1, hs⟩ := hs
 dsimp only at hs
 have hcal1 := P.octet_number g0 l1 a1 n1 c1 hR1 x3 x4 x5 hk1
 refine WP.callC hcal1 (by kernel_rfl) ?_
 rintro _ g1 st1 rfl
 replace hR1 := hR1.mono st1 (fun x => x)
 replace hB1 := hB1.mono st1 (fun x => x)
 replace hB2 := hB2.mono st1 (fun x => x)
 replace tot := tot.trans st1.pure
 refine WP.stl 7 ?_
 refine WP.dn ?_
 refine NX.then_n ?_
 refine CP.cut (fun tm g => ∃ (x6 : Int), Fr 25 [(2, .pointer (some ⟨b2, 0, none⟩)), (6, .int .u64 x3), (7, .int .i64 x4), (8, .int .i64 x6)] tm ∧ Step (fun l => (WL [m1]) l ∨ t ≤ l) g0 g ∧ Box g m1 b2 116 [[.int .u64 x2]] [1] ∧ (F.octet_Reader_Num_1.c1 x3 x4 x6) = some (o1, o2, o3)) ?_ ?_
 ·refine CP.cut (fun tm g => ∃ (q2 : Bool), Fr 25 [(2, .pointer (some ⟨b2, 0, none⟩)), (6, .int .u64 x3), (7, .int .i64 x4), (8, .int .i64 x5), (21, .bool q2)] tm ∧ Step (fun l => (WL [m1]) l ∨ t ≤ l) g0 g ∧ Box g m1 b2 116 [[.int .u64 x2]] [1] ∧ (F.octet_Reader_Num_1.c2 x3 x4 x5 q2) = some (o1, o2, o3)) ?_ ?_
  ·refine CP.region ?_
   refine WP.stl 3 ?_
   refine WP.guard 17 (b := (x5 == 0)) (by kernel_rfl) (fun h5 => ?_) (fun h5 => ?_)
   ·replace hs := of_if_t hs h5
    refine WP.stl 1 ?_
    refine WP.loadB (v := .int .u64 x1) hB1 (by kernel_rfl) (by kernel_rfl) ?_
    refine WP.stl 2 ?_
    refine WP.dn ?_
    refine NX.post ?_
    exact ⟨decide (x3 > x1), ⟨by kernel_rfl, by kernel_rfl⟩, tot, hB2, hs⟩
   replace hs := of_if_f hs h5
   refine WP.stl 4 ?_
   refine WP.dn ?_
   refine NX.post ?_
   exact ⟨false, ⟨by kernel_rfl, by kernel_rfl⟩, tot, hB2, hs⟩
  clear tot hs hB1 hB2
  rintro tm g ⟨q2, hF, tot, hB2, hs⟩
  clear ds
  obtain ⟨ds, rfl⟩ := hF.open
  clear hF
  unfold F.octet_Reader_Num_1.c2 at hs
  refine CP.cond (b := q2) (by kernel_rfl) (fun h4 => ?_) (fun h4 => ?_)
  ·replace hs := of_if_t hs h4
   refine CP.region ?_
   refine WP.stl 1 ?_
   refine WP.dn ?_
   refine NX.post ?_
   exact ⟨2, ⟨by kernel_rfl, by kernel_rfl⟩, tot, hB2, hs⟩
  replace hs := of_if_f hs h4
  refine CP.skip ?_
  refine NX.post ?_
  exact ⟨x5, ⟨by kernel_rfl, by kernel_rfl⟩, tot, hB2, hs⟩
 clear tot hs hB1 hB2
 rintro tm g ⟨x6, hF, tot, hB2, hs⟩
 clear ds
 obtain ⟨ds, rfl⟩ := hF.open
 clear hF
 unfold F.octet_Reader_Num_1.c1 at hs
 refine CP.seqR ?_
 refine WP.stl 1 ?_
 refine WP.storeB (ty := 116) (off := 0) (v := .int .u64 x3) hB2 [[.int .u64 x3]] [1] (by kernel_rfl) (by kernel_rfl) rfl (by kernel_rfl) [[.int .u64 x3]] (by kernel_rfl) (.one rfl .nil) ?_
 intro g2 st2 hB3
 replace tot := tot.trans (st2.up1 (.inl (by simp [WL])))
 clear hB2
 have hB2 := hB3
 clear hB3
 refine WP.dn ?_
 refine NX.then_n ?_
 refine CP.seqR ?_
 refine WP.stl 4 ?_
 refine WP.dn ?_
 refine NX.then_n ?_
 refine CP.ret ?_
 replace hs := Option.some.inj hs
 simp only [Prod.mk.injEq] at hs
 obtain ⟨rfl, rfl, rfl⟩ := hs
 exact NX.fin (v := .tuple #[.int .i64 x4, .int .i64 x6]) (Res.still (by kernel_rfl)) tot htL ⟨rfl, hB2⟩
def F.octet_Reader_read_2 (l1 : List Int) (x1 : Int) (x2 : Int) (x3 : Int) : Option (Bool × (List Int) × Int × Int) := (if (x1 != 0) = true then (some (false, l1, x1, x3)) else ((F.octet_Reader_Num_1 l1 x2 x3).bind fun (x4, x5, x6) => (if (x5 != 0) = true then (some (false, l1, x5, x6)) else (if (0 : Int) ≤ x4 ∧ x4 ≤ (l1.length : Int) ∧ (l1.length : Int) ≤ (l1.length : Int) then (some (true, (sliceI l1 x4 (l1.length : Int)), x1, x6)) else none))))
theorem P.octet_Reader_read_2 (g0 : GW) (m0 : Nat) (m1 : Nat) (m2 : Nat) (l1 : List Int) (x1 : Int) (x2 : Int) (x3 : Int) (a1 : Option Addr) (n1 : Nat) (c1 : Nat) (b1 : Nat) (b2 : Nat) (b3 : Nat) (hR1 : RdS (Kd.int .u8) g0 5 a1 n1 c1 l1) (hB1 : Box g0 m0 b1 150 [[.slice a1 n1 c1], [.int .i64 x1]] [1, 1]) (hB2 : Box g0 m1 b2 116 [[.int .u64 x2]] [1]) (hB3 : Box g0 m2 b3 116 [[.int .u64 x3]] [1]) (hm1_0 : m1 ≠ m0) (hm2_0 : m2 ≠ m0) (hm2_1 : m2 ≠ m1) (hm0 : m0 ≠ 0) (hm1 : m1 ≠ 0) (hm2 : m2 ≠ 0) (o1 : Bool) (o2 : (List Int)) (o3 : Int) (o4 : Int) (hs : F.octet_Reader_read_2 l1 x1 x2 x3 = some (o1, o2, o3, o4)) :
  Calls Try.prog 107 #[.pointer (some ⟨b1, 0, none⟩), .func (.func 110) #[] #[.pointer (some ⟨b2, 0, none⟩), .pointer (some ⟨b3, 0, none⟩)]] g0.w (Ret (WL [m0, m2]) g0 fun v g => ∃ (a_1 : Option Addr) (n_1 : Nat) (c_1 : Nat), v = .bool o1 ∧ RdS (Kd.int .u8) g 5 a_1 n_1 c_1 o2 ∧ Box g m0 b1 150 [[.slice a_1 n_1 c_1], [.int .i64 o3]] [1, 1] ∧ Box g m2 b3 116 [[.int .u64 o4]] [1]) := by
 refine calls_of (args := [.pointer (some ⟨b1, 0, none⟩), .func (.func 110) #[] #[.pointer (some ⟨b2, 0, none⟩), .pointer (some ⟨b3, 0, none⟩)]]) Try.func107 rfl (m0 + m1 + m2 + 0) ?_
 intro t ht htL
 refine ⟨_, rfl, ?_⟩
 refine CP.refr 40 [(0, .pointer (some ⟨b1, 0, none⟩)), (1, .func (.func 110) #[] #[.pointer (some ⟨b2, 0, none⟩), .pointer (some ⟨b3, 0, none⟩)])] (by kernel_rfl) (by kernel_rfl) ?_
 intro ds
 have tot : Step (fun l => (WL [m0, m2]) l ∨ t ≤ l) g0 g0 := Step.refl _ _
 unfold F.octet_Reader_read_2 at hs
 refine CP.seqR ?_
 refine WP.stl 1 ?_
 refine WP.dn ?_
 refine NX.then_n ?_
 refine CP.seq ?_
 refine CP.seq ?_
 refine CP.region ?_
 refine WP.stl 6 ?_
 refine WP.loadB (v := .int .i64 x1) hB1 (by kernel_rfl) (by kernel_rfl) ?_
 refine WP.stl 2 ?_
 refine WP.dn ?_
 refine NX.then_n ?_
 refine CP.cond (b := (x1 != 0)) (by kernel_rfl) (fun h1 => ?_) (fun h1 => ?_)
 ·replace hs := of_if_t hs h1
  refine CP.seqR ?_
  refine WP.stl 1 ?_
  refine WP.dn ?_
  refine NX.then_n ?_
  refine CP.ret ?_
  refine NX.then_r ?_
  replace hs := Option.some.inj hs
  simp only [Prod.mk.injEq] at hs
  obtain ⟨rfl, rfl, rfl, rfl⟩ := hs
  exact NX.fin (v := .bool false) (Res.still (by kernel_rfl)) tot htL ⟨a1, n1, c1, rfl, hR1, hB1, hB3⟩
 replace hs := of_if_f hs h1
 refine CP.skip ?_
 refine NX.then_n ?_
 refine CP.seqR ?_
 refine WP.stl 4 ?_
 refine WP.loadB (v := .slice a1 n1 c1) hB1 (by kernel_rfl) (by kernel_rfl) ?_
 replace hs := Option.bind_eq_some_iff.1 hs
 obtain ⟨⟨x4, x5, x6⟩, hk1, hs⟩ := hs
 dsimp only at hs
 have hcal1 := P.octet_Reader_Num_1 g0 m1 m2 l1 x2 x3 a1 n1 c1 b2 b3 hR1 hB2 hB3 (by omega) (by omega) (by omega) x4 x5 x6 hk1
 refine WP.callC hcal1 (by kernel_rfl) ?_
 rintro _ g1 st1 ⟨rfl, hB4⟩
 replace hB1 := hB1.mono st1 (WL.no1 (by omega))
 replace hR1 := hR1.mono st1 (WL.no1 (by omega))
 replace hB2 := hB2.mono st1 (WL.no1 (by omega))
 replace tot := tot.trans (st1.up1 (.inl (by simp [WL])))
 clear hB3
 have hB3 := hB4
 clear hB4
 refine WP.stl 5 ?_
 refine WP.dn ?_
 refine NX.then_n ?_
 refine CP.refr 40 [(0, .pointer (some ⟨b1, 0, none⟩)), (5, .int .i64 x4), (6, .int .i64 x5)] (by kernel_rfl) (by kernel_rfl) ?_
 clear ds
 intro ds
 refine CP.seq ?_
 refine CP.seqR ?_
 refine WP.stl 2 ?_
 refine WP.dn ?_
 refine NX.then_n ?_
 refine CP.cond (b := (x5 != 0)) (by kernel_rfl) (fun h2 => ?_) (fun h2 => ?_)
 ·replace hs := of_if_t hs h2
  refine CP.seqR ?_
  refine WP.stl 4 ?_
  refine WP.storeB (ty := 39) (off := 1) (v := .int .i64 x5) hB1 [[.int .i64 x5]] [1] (by kernel_rfl) (by kernel_rfl) rfl (by kernel_rfl) [[.slice a1 n1 c1], [.int .i64 x5]] (by kernel_rfl) (.one rfl .nil) ?_
  intro g2 st2 hB5
  replace hR1 := hR1.mono st2 (WL.no1 (by omega))
  replace hB3 := hB3.mono st2 (WL.no1 (by omega))
  replace tot := tot.trans (st2.up1 (.inl (by simp [WL])))
  clear hB1
  have hB1 := hB5
  clear hB5
  refine WP.dn ?_
  refine NX.then_n ?_
  refine CP.seqR ?_
  refine WP.stl 1 ?_
  refine WP.dn ?_
  refine NX.then_n ?_
  refine CP.ret ?_
  refine NX.then_r ?_
  replace hs := Option.some.inj hs
  simp only [Prod.mk.injEq] at hs
  obtain ⟨rfl, rfl, rfl, rfl⟩ := hs
  exact NX.fin (v := .bool false) (Res.still (by kernel_rfl)) tot htL ⟨a1, n1, c1, rfl, hR1, hB1, hB3⟩
 replace hs := of_if_f hs h2
 refine CP.skip ?_
 refine NX.then_n ?_
 refine CP.seqR ?_
 refine WP.stl 4 ?_
 refine WP.loadB (v := .slice a1 n1 c1) hB1 (by kernel_rfl) (by kernel_rfl) ?_
 refine WP.stl 1 ?_
 by_cases hc1 : (0 : Int) ≤ x4 ∧ x4 ≤ (l1.length : Int) ∧ (l1.length : Int) ≤ (l1.length : Int)
 case neg => rw [if_neg hc1] at hs; cases hs
 replace hs := of_if_p hs hc1
 refine WP.sliceR (lo := some (.int .i64 x4)) (hi := none) hR1 x4 (l1.length : Int) (by kernel_rfl) (.inr ⟨_, rfl⟩) (.inl ⟨rfl, rfl⟩) hc1 ?_
 intro a2 c2 hR2
 refine WP.stl 2 ?_
 refine WP.storeB (ty := 64) (off := 0) (v := .slice a2 ((l1.length : Int).toNat - x4.toNat) c2) hB1 [[.slice a2 ((l1.length : Int).toNat - x4.toNat) c2]] [1] (by kernel_rfl) (by kernel_rfl) rfl (by kernel_rfl) [[.slice a2 ((l1.length : Int).toNat - x4.toNat) c2], [.int .i64 x1]] (by kernel_rfl) (.one rfl .nil) ?_
 intro g3 st3 hB6
 replace hR2 := hR2.mono st3 (WL.no1 (by omega))
 replace hB3 := hB3.mono st3 (WL.no1 (by omega))
 replace hR1 := hR1.mono st3 (WL.no1 (by omega))
 replace tot := tot.trans (st3.up1 (.inl (by simp [WL])))
 clear hB1
 have hB1 := hB6
 clear hB6
 refine WP.dn ?_
 refine NX.then_n ?_
 refine CP.seqR ?_
 refine WP.stl 1 ?_
 refine WP.dn ?_
 refine NX.then_n ?_
 refine CP.refr 40 [(4, .bool true)] (by kernel_rfl) (by kernel_rfl) ?_
 clear ds
 intro ds
 refine CP.ret ?_
 replace hs := Option.some.inj hs
 simp only [Prod.mk.injEq] at hs
 obtain ⟨rfl, rfl, rfl, rfl⟩ := hs
 exact NX.fin (v := .bool true) (Res.still (by kernel_rfl)) tot htL ⟨a2, ((l1.length : Int).toNat - x4.toNat), c2, rfl, hR2, hB1, hB3⟩
def F.octet_Reader_Num (l1 : List Int) (x1 : Int) (x2 : Int) : Option (Int × (List Int) × Int) := ((F.octet_Reader_read_2 l1 x1 x2 0).bind fun (q1, d1, x3, x4) => (if (!q1) = true then (some (0, d1, x3)) else (some (x4, d1, x3))))
theorem P.octet_Reader_Num (g0 : GW) (m0 : Nat) (l1 : List Int) (x1 : Int) (x2 : Int) (a1 : Option Addr) (n1 : Nat) (c1 : Nat) (b1 : Nat) (hR1 : RdS (Kd.int .u8) g0 5 a1 n1 c1 l1) (hB1 : Box g0 m0 b1 150 [[.slice a1 n1 c1], [.int .i64 x1]] [1, 1]) (hm0 : m0 ≠ 0) (o1 : Int) (o2 : (List Int)) (o3 : Int) (hs : F.octet_Reader_Num l1 x1 x2 = some (o1, o2, o3)) :
  Calls Try.prog 93 #[.pointer (some ⟨b1, 0, none⟩), .int .u64 x2] g0.w (Ret (WL [m0]) g0 fun v g => ∃ (a_1 : Option Addr) (n_1 : Nat) (c_1 : Nat), v = .int .u64 o1 ∧ RdS (Kd.int .u8) g 5 a_1 n_1 c_1 o2 ∧ Box g m0 b1 150 [[.slice a_1 n_1 c_1], [.int .i64 o3]] [1, 1]) := by
 refine calls_of (args := [.pointer (some ⟨b1, 0, none⟩), .int .u64 x2]) Try.func93 rfl (m0 + 0) ?_
 intro t ht htL
 refine ⟨_, rfl, ?_⟩
 refine CP.refr 13 [(0, .pointer (some ⟨b1, 0, none⟩)), (1, .int .u64 x2)] (by kernel_rfl) (by kernel_rfl) ?_
 intro ds
 have tot : Step (fun l => (WL [m0]) l ∨ t ≤ l) g0 g0 := Step.refl _ _
 unfold F.octet_Reader_Num at hs
 refine CP.seqR ?_
 refine WP.alloc (T := 116) (t + 1) [[.int .u64 x2]] [1] (by kernel_rfl) rfl ?_
 intro g1 b2 st1 hB2
 replace hB1 := hB1.mono st1 (fun x => x)
 replace hR1 := hR1.mono st1 (fun x => x)
 replace tot := tot.trans st1.pure
 refine WP.stl 1 ?_
 refine WP.dn ?_
 refine NX.then_n ?_
 refine CP.seqR ?_
 refine WP.alloc (T := 116) (t + 2) [[.int .u64 0]] [1] (by kernel_rfl) rfl ?_
 intro g2 b3 st2 hB3
 replace hB1 := hB1.mono st2 (fun x => x)
 replace hR1 := hR1.mono st2 (fun x => x)
 replace hB2 := hB2.mono st2 (fun x => x)
 replace tot := tot.trans st2.pure
 refine WP.dn ?_
 refine NX.then_n ?_
 refine CP.seqR ?_
 refine WP.stl 2 ?_
 replace hs := Option.bind_eq_some_iff.1 hs
 obtain ⟨⟨q1, d1, x3, x4⟩, hk1, hs⟩ := hs
 dsimp only at hs
 have hcal1 := P.octet_Reader_read_2 g2 m0 (t + 1) (t + 2) l1 x1 x2 0 a1 n1 c1 b1 b2 b3 hR1 hB1 hB2 hB3 (by omega) (by omega) (by omega) (by omega) (by omega) (by omega) q1 d1 x3 x4 hk1
 refine WP.callC hcal1 (by kernel_rfl) ?_
 rintro _ g3 st3 ⟨a2, n2, c2, rfl, hR2, hB4, hB5⟩
 replace hB2 := hB2.mono st3 (WL.no2 (by omega) (by omega))
 replace tot := tot.trans (st3.up2 (.inl (by simp [WL])) (.inr (by omega)))
 clear hB1
 have hB1 := hB4
 clear hB4
 clear hB3
 have hB3 := hB5
 clear hB5
 refine WP.stl 1 ?_
 refine WP.dn ?_
 refine NX.then_n ?_
 refine CP.seq ?_
 refine CP.seqR ?_
 refine WP.stl 2 ?_
 refine WP.dn ?_
 refine NX.then_n ?_
 refine CP.cond (b := (!q1)) (by kernel_rfl) (fun h1 => ?_) (fun h1 => ?_)
 ·replace hs := of_if_t hs h1
  refine CP.seqR ?_
  refine WP.stl 1 ?_
  refine WP.dn ?_
  refine NX.then_n ?_
  refine CP.ret ?_
  refine NX.then_r ?_
  replace hs := Option.some.inj hs
  simp only [Prod.mk.injEq] at hs
  obtain ⟨rfl, rfl, rfl⟩ := hs
  exact NX.fin (v := .int .u64 0) (Res.still (by kernel_rfl)) tot htL ⟨a2, n2, c2, rfl, hR2, hB1⟩
 replace hs := of_if_f hs h1
 refine CP.skip ?_
 refine NX.then_n ?_
 refine CP.seqR ?_
 refine WP.loadB (v := .int .u64 x4) hB3 (by kernel_rfl) (by kernel_rfl) ?_
 refine WP.stl 1 ?_
 refine WP.dn ?_
 refine NX.then_n ?_
 refine CP.ret ?_
 replace hs := Option.some.inj hs
 simp only [Prod.mk.injEq] at hs
 obtain ⟨rfl, rfl, rfl⟩ := hs
 exact NX.fin (v := .int .u64 x4) (Res.still (by kernel_rfl)) tot htL ⟨a2, n2, c2, rfl, hR2, hB1⟩
def F.purse_reader_number (l1 : List Int) (x1 : Int) (x2 : Int) (x3 : Int) : Option (Int × (List Int) × Int) := ((F.octet_Reader_Num l1 x1 (IntKind.u64.wrap x3)).bind fun (x4, d1, x5) => (some ((IntKind.i64.wrap x4), d1, x5)))
theorem P.purse_reader_number (g0 : GW) (m0 : Nat) (m1 : Nat) (l1 : List Int) (x1 : Int) (x2 : Int) (x3 : Int) (a1 : Option Addr) (n1 : Nat) (c1 : Nat) (b1 : Nat) (b2 : Nat) (hR1 : RdS (Kd.int .u8) g0 5 a1 n1 c1 l1) (hB1 : Box g0 m1 b2 150 [[.slice a1 n1 c1], [.int .i64 x1]] [1, 1]) (hB2 : Box g0 m0 b1 112 [[.pointer (some ⟨b2, 0, none⟩)], [.int .i64 x2]] [1, 1]) (hm1_0 : m1 ≠ m0) (hm0 : m0 ≠ 0) (hm1 : m1 ≠ 0) (o1 : Int) (o2 : (List Int)) (o3 : Int) (hs : F.purse_reader_number l1 x1 x2 x3 = some (o1, o2, o3)) :
  Calls Try.prog 67 #[.pointer (some ⟨b1, 0, none⟩), .int .i64 x3] g0.w (Ret (WL [m1]) g0 fun v g => ∃ (a_1 : Option Addr) (n_1 : Nat) (c_1 : Nat), v = .int .i64 o1 ∧ RdS (Kd.int .u8) g 5 a_1 n_1 c_1 o2 ∧ Box g m1 b2 150 [[.slice a_1 n_1 c_1], [.int .i64 o3]] [1, 1]) := by
 refine calls_of (args := [.pointer (some ⟨b1, 0, none⟩), .int .i64 x3]) Try.func67 rfl (m0 + m1 + 0) ?_
 intro t ht htL
 refine ⟨_, rfl, ?_⟩
 refine CP.refr 13 [(0, .pointer (some ⟨b1, 0, none⟩)), (1, .int .i64 x3)] (by kernel_rfl) (by kernel_rfl) ?_
 intro ds
 have tot : Step (fun l => (WL [m1]) l ∨ t ≤ l) g0 g0 := Step.refl _ _
 unfold F.purse_reader_number at hs
 refine CP.seqR ?_
 refine WP.stl 1 ?_
 refine WP.dn ?_
 refine NX.then_n ?_
 refine CP.seqR ?_
 refine WP.stl 3 ?_
 refine WP.loadB (v := .pointer (some ⟨b2, 0, none⟩)) hB2 (by kernel_rfl) (by kernel_rfl) ?_
 refine WP.stl 2 ?_
 replace hs := Option.bind_eq_some_iff.1 hs
 obtain ⟨⟨x4, d1, x5⟩, hk1, hs⟩ := hs
 dsimp only at hs
 have hcal1 := P.octet_Reader_Num g0 m1 l1 x1 (IntKind.u64.wrap x3) a1 n1 c1 b2 hR1 hB1 (by omega) x4 d1 x5 hk1
 refine WP.callC hcal1 (by kernel_rfl) ?_
 rintro _ g1 st1 ⟨a2, n2, c2, rfl, hR2, hB3⟩
 replace hB2 := hB2.mono st1 (WL.no1 (by omega))
 replace tot := tot.trans (st1.up1 (.inl (by simp [WL])))
 clear hB1
 have hB1 := hB3
 clear hB3
 refine WP.stl 2 ?_
 refine WP.dn ?_
 refine NX.then_n ?_
 refine CP.ret ?_
 replace hs := Option.some.inj hs
 simp only [Prod.mk.injEq] at hs
 obtain ⟨rfl, rfl, rfl⟩ := hs
 exact NX.fin (v := .int .i64 (IntKind.i64.wrap x4)) (Res.still (by kernel_rfl)) tot htL ⟨a2, n2, c2, rfl, hR2, hB1⟩
def F.octet_Reader_Left (l1 : List Int) (x1 : Int) : Option (Int) := (some (l1.length : Int))
theorem P.octet_Reader_Left (g0 : GW) (m0 : Nat) (l1 : List Int) (x1 : Int) (a1 : Option Addr) (n1 : Nat) (c1 : Nat) (b1 : Nat) (hR1 : RdS (Kd.int .u8) g0 5 a1 n1 c1 l1) (hB1 : Box g0 m0 b1 150 [[.slice a1 n1 c1], [.int .i64 x1]] [1, 1]) (hm0 : m0 ≠ 0) (o1 : Int) (hs : F.octet_Reader_Left l1 x1 = some o1) :
  Calls Try.prog 111 #[.pointer (some ⟨b1, 0, none⟩)] g0.w (Ret NoM g0 fun v g => v = .int .i64 o1) := by
 refine calls_of (args := [.pointer (some ⟨b1, 0, none⟩)]) Try.func111 rfl (m0 + 0) ?_
 intro t ht htL
 refine ⟨_, rfl, ?_⟩
 refine CP.refr 10 [(0, .pointer (some ⟨b1, 0, none⟩))] (by kernel_rfl) (by kernel_rfl) ?_
 intro ds
 have tot : Step (fun l => NoM l ∨ t ≤ l) g0 g0 := Step.refl _ _
 unfold F.octet_Reader_Left at hs
 refine CP.seqR ?_
 refine WP.stl 1 ?_
 refine WP.dn ?_
 refine NX.then_n ?_
 refine CP.seq ?_
 refine CP.seqR ?_
 refine WP.stl 2 ?_
 refine WP.dn ?_
 refine NX.then_n ?_
 refine CP.cond_f (by kernel_rfl) ?_
 refine CP.skip ?_
 refine NX.then_n ?_
 refine CP.seqR ?_
 refine WP.stl 3 ?_
 refine WP.loadB (v := .slice a1 n1 c1) hB1 (by kernel_rfl) (by kernel_rfl) ?_
 refine WP.len (a := a1) (cp := c1) hR1.len (by kernel_rfl) ?_
 refine WP.stl 1 ?_
 refine WP.dn ?_
 refine NX.then_n ?_
 refine CP.ret ?_
 replace hs := Option.some.inj hs
 obtain rfl := hs
 exact NX.fin (v := .int .i64 (l1.length : Int)) (Res.still (by kernel_rfl)) tot htL rfl
def F.octet_Reader_End (l1 : List Int) (x1 : Int) : Option (Int) := ((F.octet_Reader_Err l1 x1).bind fun x2 => (if (x2 != 0) = true then (some x2) else ((F.octet_Reader_Left l1 x1).bind fun x3 => (if decide (x3 > 0) = true then (some 5) else (some 0)))))
theorem P.octet_Reader_End (g0 : GW) (m0 : Nat) (l1 : List Int) (x1 : Int) (a1 : Option Addr) (n1 : Nat) (c1 : Nat) (b1 : Nat) (hR1 : RdS (Kd.int .u8) g0 5 a1 n1 c1 l1) (hB1 : Box g0 m0 b1 150 [[.slice a1 n1 c1], [.int .i64 x1]] [1, 1]) (hm0 : m0 ≠ 0) (o1 : Int) (hs : F.octet_Reader_End l1 x1 = some o1) :
  Calls Try.prog 94 #[.pointer (some ⟨b1, 0, none⟩)] g0.w (Ret NoM g0 fun v g => v = .int .i64 o1) := by
 refine calls_of (args := [.pointer (some ⟨b1, 0, none⟩)]) Try.func94 rfl (m0 + 0) ?_
 intro t ht htL
 refine ⟨_, rfl, ?_⟩
 refine CP.refr 12 [(0, .pointer (some ⟨b1, 0, none⟩))] (by kernel_rfl) (by kernel_rfl) ?_
 intro ds
 have tot : Step (fun l => NoM l ∨ t ≤ l) g0 g0 := Step.refl _ _
 unfold F.octet_Reader_End at hs
 refine CP.seqR ?_
 refine WP.stl 1 ?_
 refine WP.dn ?_
 refine NX.then_n ?_
 refine CP.seq ?_
 refine CP.seqR ?_
 refine WP.stl 1 ?_
 replace hs := Option.bind_eq_some_iff.1 hs
 obtain ⟨x2, hk1, hs⟩ := hs
 have hcal1 := P.octet_Reader_Err g0 m0 l1 x1 a1 n1 c1 b1 hR1 hB1 (by omega) x2 hk1
 refine WP.callC hcal1 (by kernel_rfl) ?_
 rintro _ g1 st1 rfl
 replace hB1 := hB1.mono st1 (fun x => x)
 replace hR1 := hR1.mono st1 (fun x => x)
 replace tot := tot.trans st1.pure
 refine WP.stl 1 ?_
 refine WP.dn ?_
 refine NX.then_n ?_
 refine CP.seqR ?_
 refine WP.stl 2 ?_
 refine WP.dn ?_
 refine NX.then_n ?_
 refine CP.cond (b := (x2 != 0)) (by kernel_rfl) (fun h1 => ?_) (fun h1 => ?_)
 ·replace hs := of_if_t hs h1
  refine CP.seqR ?_
  refine WP.stl 2 ?_
  refine WP.dn ?_
  refine NX.then_n ?_
  refine CP.ret ?_
  refine NX.then_r ?_
  replace hs := Option.some.inj hs
  obtain rfl := hs
  exact NX.fin (v := .int .i64 x2) (Res.still (by kernel_rfl)) tot htL rfl
 replace hs := of_if_f hs h1
 refine CP.skip ?_
 refine NX.then_n ?_
 refine CP.seq ?_
 refine CP.seqR ?_
 refine WP.stl 1 ?_
 replace hs := Option.bind_eq_some_iff.1 hs
 obtain ⟨x3, hk2, hs⟩ := hs
 have hcal2 := P.octet_Reader_Left g1 m0 l1 x1 a1 n1 c1 b1 hR1 hB1 (by omega) x3 hk2
 refine WP.callC hcal2 (by kernel_rfl) ?_
 rintro _ g2 st2 rfl
 replace hB1 := hB1.mono st2 (fun x => x)
 replace hR1 := hR1.mono st2 (fun x => x)
 replace tot := tot.trans st2.pure
 refine WP.stl 1 ?_
 refine WP.dn ?_
 refine NX.then_n ?_
 refine CP.cond (b := decide (x3 > 0)) (by kernel_rfl) (fun h2 => ?_) (fun h2 => ?_)
 ·replace hs := of_if_t hs h2
  refine CP.seqR ?_
  refine WP.stl 1 ?_
  refine WP.dn ?_
  refine NX.then_n ?_
  refine CP.ret ?_
  refine NX.then_r ?_
  replace hs := Option.some.inj hs
  obtain rfl := hs
  exact NX.fin (v := .int .i64 5) (Res.still (by kernel_rfl)) tot htL rfl
 replace hs := of_if_f hs h2
 refine CP.skip ?_
 refine NX.then_n ?_
 refine CP.seqR ?_
 refine WP.stl 1 ?_
 refine WP.dn ?_
 refine NX.then_n ?_
 refine CP.ret ?_
 replace hs := Option.some.inj hs
 obtain rfl := hs
 exact NX.fin (v := .int .i64 0) (Res.still (by kernel_rfl)) tot htL rfl
def F.purse_reader_end (l1 : List Int) (x1 : Int) (x2 : Int) : Option (Int) := (if (x2 != 0) = true then (some x2) else ((F.octet_Reader_End l1 x1).bind fun x3 => (some x3)))
theorem P.purse_reader_end (g0 : GW) (m0 : Nat) (m1 : Nat) (l1 : List Int) (x1 : Int) (x2 : Int) (a1 : Option Addr) (n1 : Nat) (c1 : Nat) (b1 : Nat) (b2 : Nat) (hR1 : RdS (Kd.int .u8) g0 5 a1 n1 c1 l1) (hB1 : Box g0 m1 b2 150 [[.slice a1 n1 c1], [.int .i64 x1]] [1, 1]) (hB2 : Box g0 m0 b1 112 [[.pointer (some ⟨b2, 0, none⟩)], [.int .i64 x2]] [1, 1]) (hm1_0 : m1 ≠ m0) (hm0 : m0 ≠ 0) (hm1 : m1 ≠ 0) (o1 : Int) (hs : F.purse_reader_end l1 x1 x2 = some o1) :
  Calls Try.prog 68 #[.pointer (some ⟨b1, 0, none⟩)] g0.w (Ret NoM g0 fun v g => v = .int .i64 o1) := by
 refine calls_of (args := [.pointer (some ⟨b1, 0, none⟩)]) Try.func68 rfl (m0 + m1 + 0) ?_
 intro t ht htL
 refine ⟨_, rfl, ?_⟩
 refine CP.refr 17 [(0, .pointer (some ⟨b1, 0, none⟩))] (by kernel_rfl) (by kernel_rfl) ?_
 intro ds
 have tot : Step (fun l => NoM l ∨ t ≤ l) g0 g0 := Step.refl _ _
 unfold F.purse_reader_end at hs
 refine CP.seqR ?_
 refine WP.stl 1 ?_
 refine WP.dn ?_
 refine NX.then_n ?_
 refine CP.seq ?_
 refine CP.seqR ?_
 refine WP.stl 3 ?_
 refine WP.loadB (v := .int .i64 x2) hB2 (by kernel_rfl) (by kernel_rfl) ?_
 refine WP.stl 1 ?_
 refine WP.dn ?_
 refine NX.then_n ?_
 refine CP.cond (b := (x2 != 0)) (by kernel_rfl) (fun h1 => ?_) (fun h1 => ?_)
 ·replace hs := of_if_t hs h1
  refine CP.seqR ?_
  refine WP.stl 3 ?_
  refine WP.loadB (v := .int .i64 x2) hB2 (by kernel_rfl) (by kernel_rfl) ?_
  refine WP.stl 1 ?_
  refine WP.dn ?_
  refine NX.then_n ?_
  refine CP.ret ?_
  refine NX.then_r ?_
  replace hs := Option.some.inj hs
  obtain rfl := hs
  exact NX.fin (v := .int .i64 x2) (Res.still (by kernel_rfl)) tot htL rfl
 replace hs := of_if_f hs h1
 refine CP.skip ?_
 refine NX.then_n ?_
 refine CP.seqR ?_
 refine WP.stl 3 ?_
 refine WP.loadB (v := .pointer (some ⟨b2, 0, none⟩)) hB2 (by kernel_rfl) (by kernel_rfl) ?_
 replace hs := Option.bind_eq_some_iff.1 hs
 obtain ⟨x3, hk1, hs⟩ := hs
 have hcal1 := P.octet_Reader_End g0 m1 l1 x1 a1 n1 c1 b2 hR1 hB1 (by omega) x3 hk1
 refine WP.callC hcal1 (by kernel_rfl) ?_
 rintro _ g1 st1 rfl
 replace hB2 := hB2.mono st1 (fun x => x)
 replace hB1 := hB1.mono st1 (fun x => x)
 replace hR1 := hR1.mono st1 (fun x => x)
 replace tot := tot.trans st1.pure
 refine WP.stl 1 ?_
 refine WP.dn ?_
 refine NX.then_n ?_
 refine CP.ret ?_
 replace hs := Option.some.inj hs
 obtain rfl := hs
 exact NX.fin (v := .int .i64 x3) (Res.still (by kernel_rfl)) tot htL rfl
def N.purse_Decode_0 : List (List Nat) := [[], [0], [], [2], [], [2, 3, 4], [], [2, 3, 4, 5, 6], [], [2, 3, 4, 5, 6, 7, 8], [2, 3, 4, 5, 6, 7, 8, 9], [2, 3, 4, 5, 6, 7, 8, 9, 10], [0, 1, 2, 3, 4, 5, 6, 7, 8, 9, 10, 11], [0, 1, 2, 3, 4, 5, 6, 7, 8, 9, 10, 11, 12], [0, 1, 2, 3, 4, 5, 6, 7, 8, 9, 10, 11, 12, 13]]
def F.purse_Decode.c1 (d1 : Arr Int 8) (x4 : Int) (x6 : Int) (x8 : Int) (l4 : List S_purse_Held) (x50 : Int) : Option ((Arr Int 8) × Int × (Arr Int 2) × (List S_purse_Held) × Int) := (if (x50 != 0) = true then (some ((zA 8), 0, (zA 2), [], x50)) else (some (d1, x4, (⟨[x6, x8], rfl⟩ : Arr Int 2), l4, 0)))
def F.purse_Decode.l1 (d1 : Arr Int 8) (x4 : Int) (x6 : Int) (x8 : Int) (x10 : Int) : Nat → (List Int) → Int → Int → (List S_purse_Held) → Int → Option ((Arr Int 8) × Int × (Arr Int 2) × (List S_purse_Held) × Int)
 | 0, _, _, _, _, _ => none
 | k + 1, l3, x23, x24, l4, x25 => (if decide (x25 < x10) = true then ((F.purse_reader_name l3 x23 x24).bind fun (d17, d18, x40, x41) => ((F.purse_reader_number d18 x40 x41 1125899906842624).bind fun (x42, d19, x43) => ((F.purse_reader_number d19 x43 x41 1).bind fun (x44, d20, x45) => ((F.purse_reader_number d20 x45 x41 1099511627776).bind fun (x46, d21, x47) => (if l4.length + ([(⟨d17, x42, x44, x46⟩ : S_purse_Held)]).length ≤ 4398046511104 then (F.purse_Decode.l1 d1 x4 x6 x8 x10 k d21 x47 x41 (l4 ++ [(⟨d17, x42, x44, x46⟩ : S_purse_Held)]) (IntKind.i64.wrap (x25 + 1))) else none))))) else ((F.purse_reader_end l3 x23 x24).bind fun x48 => (if (x48 == 0) = true then ((F.purse_Purse_Check d1 x4 (⟨[x6, x8], rfl⟩ : Arr Int 2) l4).bind fun x51 => (F.purse_Decode.c1 d1 x4 x6 x8 l4 x51)) else (F.purse_Decode.c1 d1 x4 x6 x8 l4 x48))))
def F.purse_Decode (l1 : List Int) : Option ((Arr Int 8) × Int × (Arr Int 2) × (List S_purse_Held) × Int) := ((F.octet_NewReader l1).bind fun (l2, x1) => ((F.purse_reader_name l2 x1 0).bind fun (d1, d2, x2, x3) => ((F.purse_reader_number d2 x2 x3 1099511627776).bind fun (x4, d3, x5) => ((F.purse_reader_number d3 x5 x3 1125899906842624).bind fun (x6, d4, x7) => ((F.purse_reader_number d4 x7 x3 1125899906842624).bind fun (x8, d5, x9) => ((F.purse_reader_number d5 x9 x3 16).bind fun (x10, d6, x11) => (F.purse_Decode.l1 d1 x4 x6 x8 x10 fuel d6 x11 x3 ([]) 0)))))))
theorem P.purse_Decode (g0 : GW) (r0 : Nat) (l1 : List Int) (a1 : Option Addr) (n1 : Nat) (c1 : Nat) (hR1 : RdS (Kd.int .u8) g0 5 a1 n1 c1 l1) (o1 : Arr Int 8) (o2 : Int) (o3 : Arr Int 2) (o4 : List S_purse_Held) (o5 : Int) (hs : F.purse_Decode l1 = some (o1, o2, o3, o4, o5)) :
  Calls Try.prog 34 #[.slice a1 n1 c1] g0.w (Ret NoM g0 fun v g => ∃ (a_1 : Option Addr) (n_1 : Nat) (c_1 : Nat), v = .tuple #[AG [encA .u8 o1, [.int .i64 o2], encA .i64 o3, [.slice a_1 n_1 c_1]], .int .i64 o5] ∧ OwnS k_S_purse_Held g r0 56 a_1 n_1 c_1 o4) := by
 refine calls_of (args := [.slice a1 n1 c1]) Try.func34 rfl (r0 + 0) ?_
 intro t ht htL
 refine ⟨_, rfl, ?_⟩
 refine CP.refr 51 [(0, .slice a1 n1 c1)] (by kernel_rfl) (by kernel_rfl) ?_
 intro ds
 have tot : Step (fun l => NoM l ∨ t ≤ l) g0 g0 := Step.refl _ _
 unfold F.purse_Decode at hs
 refine CP.seqR ?_
 refine WP.alloc (T := 32) (t + 1) [encA .u8 (zA 8), [.int .i64 0], encA .i64 (zA 2), [.slice none 0 0]] [8, 1, 2, 1] (by kernel_rfl) (by simp [len_encA]) ?_
 intro g1 b1 st1 hB1
 replace hR1 := hR1.mono st1 (fun x => x)
 replace tot := tot.trans st1.pure
 refine WP.stl 1 ?_
 refine WP.dn ?_
 refine NX.then_n ?_
 refine CP.seqR ?_
 refine WP.stl 1 ?_
 replace hs := Option.bind_eq_some_iff.1 hs
 obtain ⟨⟨l2, x1⟩, hk1, hs⟩ := hs
 dsimp only at hs
 have hcal1 := P.octet_NewReader g1 (t + 2) l1 a1 n1 c1 hR1 l2 x1 hk1
 refine WP.callC hcal1 (by kernel_rfl) ?_
 rintro _ g2 st2 ⟨b2, a2, n2, c2, rfl, hB2, hR2⟩
 replace hR1 := hR1.mono st2 (fun x => x)
 replace hB1 := hB1.mono st2 (fun x => x)
 replace tot := tot.trans st2.pure
 refine WP.stl 1 ?_
 refine WP.alloc (T := 112) (t + 3) [[.pointer (some ⟨b2, 0, none⟩)], [.int .i64 0]] [1, 1] (by kernel_rfl) rfl ?_
 intro g3 b3 st3 hB3
 replace hR1 := hR1.mono st3 (fun x => x)
 replace hB1 := hB1.mono st3 (fun x => x)
 replace hB2 := hB2.mono st3 (fun x => x)
 replace hR2 := hR2.mono st3 (fun x => x)
 replace tot := tot.trans st3.pure
 refine WP.stl 1 ?_
 refine WP.dn ?_
 refine NX.then_n ?_
 refine CP.seqR ?_
 refine WP.stl 1 ?_
 replace hs := Option.bind_eq_some_iff.1 hs
 obtain ⟨⟨d1, d2, x2, x3⟩, hk2, hs⟩ := hs
 dsimp only at hs
 have hcal2 := P.purse_reader_name g3 (t + 3) (t + 2) l2 x1 0 a2 n2 c2 b3 b2 hR2 hB2 hB3 (by omega) (by omega) (by omega) d1 d2 x2 x3 hk2
 refine WP.callC hcal2 (by kernel_rfl) ?_
 rintro _ g4 st4 ⟨a3, n3, c3, rfl, hR3, hB4, hB5⟩
 replace hB1 := hB1.mono st4 (WL.no2 (by omega) (by omega))
 replace tot := tot.trans (st4.up2 (.inr (by omega)) (.inr (by omega)))
 clear hB2
 have hB2 := hB4
 clear hB4
 clear hB3
 have hB3 := hB5
 clear hB5
 refine WP.stl 1 ?_
 replace hs := Option.bind_eq_some_iff.1 hs
 obtain ⟨⟨x4, d3, x5⟩, hk3, hs⟩ := hs
 dsimp only at hs
 have hcal3 := P.purse_reader_number g4 (t + 3) (t + 2) d2 x2 x3 1099511627776 a3 n3 c3 b3 b2 hR3 hB2 hB3 (by omega) (by omega) (by omega) x4 d3 x5 hk3
 refine WP.callC hcal3 (by kernel_rfl) ?_
 rintro _ g5 st5 ⟨a4, n4, c4, rfl, hR4, hB6⟩
 replace hB1 := hB1.mono st5 (WL.no1 (by omega))
 replace hB3 := hB3.mono st5 (WL.no1 (by omega))
 replace tot := tot.trans (st5.up1 (.inr (by omega)))
 clear hB2
 have hB2 := hB6
 clear hB6
 refine WP.stl 1 ?_
 replace hs := Option.bind_eq_some_iff.1 hs
 obtain ⟨⟨x6, d4, x7⟩, hk4, hs⟩ := hs
 dsimp only at hs
 have hcal4 := P.purse_reader_number g5 (t + 3) (t + 2) d3 x5 x3 1125899906842624 a4 n4 c4 b3 b2 hR4 hB2 hB3 (by omega) (by omega) (by omega) x6 d4 x7 hk4
 refine WP.callC hcal4 (by kernel_rfl) ?_
 rintro _ g6 st6 ⟨a5, n5, c5, rfl, hR5, hB7⟩
 replace hB1 := hB1.mono st6 (WL.no1 (by omega))
 replace hB3 := hB3.mono st6 (WL.no1 (by omega))
 replace tot := tot.trans (st6.up1 (.inr (by omega)))
 clear hB2
 have hB2 := hB7
 clear hB7
 refine WP.stl 1 ?_
 replace hs := Option.bind_eq_some_iff.1 hs
 obtain ⟨⟨x8, d5, x9⟩, hk5, hs⟩ := hs
 dsimp only at hs
 have hcal5 := P.purse_reader_number g6 (t + 3) (t + 2) d4 x7 x3 1125899906842624 a5 n5 c5 b3 b2 hR5 hB2 hB3 (by omega) (by omega) (by omega) x8 d5 x9 hk5
 refine WP.callC hcal5 (by kernel_rfl) ?_
 rintro _ g7 st7 ⟨a6, n6, c6, rfl, hR6, hB8⟩
 replace hB1 := hB1.mono st7 (WL.no1 (by omega))
 replace hB3 := hB3.mono st7 (WL.no1 (by omega))
 replace tot := tot.trans (st7.up1 (.inr (by omega)))
 clear hB2
 have hB2 := hB8
 clear hB8
 refine WP.stl 1 ?_
 refine WP.buildS (places := #[(0, 8), (8, 1), (9, 2), (11, 1)]) (t := 32) [encA .u8 (zA 8), [.int .i64 0], encA .i64 (zA 2), [.slice none 0 0]] [8, 1, 2, 1] (by kernel_rfl) (by kernel_rfl) (by simp [len_encA]) (by kernel_rfl) ((.cons (i := 0) (off := 0) (v := AG [encA .u8 d1]) (mid := [encA .u8 d1, [.int .i64 0], encA .i64 (zA 2), [.slice none 0 0]]) [encA .u8 d1] [8] (by kernel_rfl) (by kernel_rfl) (by simp [len_encA]) (by kernel_rfl) (.cons (i := 1) (off := 8) (v := .int .i64 x4) (mid := [encA .u8 d1, [.int .i64 x4], encA .i64 (zA 2), [.slice none 0 0]]) [[.int .i64 x4]] [1] (by kernel_rfl) (by kernel_rfl) rfl (by kernel_rfl) (.cons (i := 2) (off := 9) (v := AG [encA .i64 (⟨[x6, x8], rfl⟩ : Arr Int 2)]) (mid := [encA .u8 d1, [.int .i64 x4], encA .i64 (⟨[x6, x8], rfl⟩ : Arr Int 2), [.slice none 0 0]]) [encA .i64 (⟨[x6, x8], rfl⟩ : Arr Int 2)] [2] (by kernel_rfl) (by kernel_rfl) (by simp [len_encA]) (by kernel_rfl) .nil)))) ?_
 refine WP.alloc (T := 32) (t + 4) [encA .u8 (zA 8), [.int .i64 0], encA .i64 (zA 2), [.slice none 0 0]] [8, 1, 2, 1] (by kernel_rfl) (by simp [len_encA]) ?_
 intro g8 b4 st8 hB9
 replace hB1 := hB1.mono st8 (fun x => x)
 replace hB3 := hB3.mono st8 (fun x => x)
 replace hB2 := hB2.mono st8 (fun x => x)
 replace hR6 := hR6.mono st8 (fun x => x)
 replace tot := tot.trans st8.pure
 refine WP.storeB (ty := 32) (off := 0) (v := AG [encA .u8 d1, [.int .i64 x4], encA .i64 (⟨[x6, x8], rfl⟩ : Arr Int 2), [.slice none 0 0]]) hB9 [encA .u8 d1, [.int .i64 x4], encA .i64 (⟨[x6, x8], rfl⟩ : Arr Int 2), [.slice none 0 0]] [8, 1, 2, 1] (by kernel_rfl) (by kernel_rfl) (by simp [len_encA]) (by kernel_rfl) [encA .u8 d1, [.int .i64 x4], encA .i64 (⟨[x6, x8], rfl⟩ : Arr Int 2), [.slice none 0 0]] (by kernel_rfl) (.arr (.one rfl (.arr (.one rfl .nil)))) ?_
 intro g9 st9 hB10
 replace hB1 := hB1.mono st9 (WL.no1 (by omega))
 replace hB3 := hB3.mono st9 (WL.no1 (by omega))
 replace hB2 := hB2.mono st9 (WL.no1 (by omega))
 replace hR6 := hR6.mono st9 (WL.no1 (by omega))
 replace tot := tot.trans (st9.up1 (.inr (by omega)))
 clear hB9
 have hB9 := hB10
 clear hB10
 refine WP.dn ?_
 refine NX.then_n ?_
 refine CP.refr 51 [(2, .pointer (some ⟨b1, 0, none⟩)), (4, .pointer (some ⟨b3, 0, none⟩)), (5, .pointer (some ⟨b4, 0, none⟩))] (by kernel_rfl) (by kernel_rfl) ?_
 clear ds
 intro ds
 refine CP.seq ?_
 refine CP.seqR ?_
 refine WP.stl 1 ?_
 replace hs := Option.bind_eq_some_iff.1 hs
 obtain ⟨⟨x10, d6, x11⟩, hk6, hs⟩ := hs
 dsimp only at hs
 have hcal6 := P.purse_reader_number g9 (t + 3) (t + 2) d5 x9 x3 16 a6 n6 c6 b3 b2 hR6 hB2 hB3 (by omega) (by omega) (by omega) x10 d6 x11 hk6
 refine WP.callC hcal6 (by kernel_rfl) ?_
 rintro _ g10 st10 ⟨a7, n7, c7, rfl, hR7, hB11⟩
 replace hB1 := hB1.mono st10 (WL.no1 (by omega))
 replace hB3 := hB3.mono st10 (WL.no1 (by omega))
 replace hB9 := hB9.mono st10 (WL.no1 (by omega))
 replace tot := tot.trans (st10.up1 (.inr (by omega)))
 clear hB2
 have hB2 := hB11
 clear hB11
 refine WP.stl 1 ?_
 refine WP.dn ?_
 refine NX.then_n ?_
 refine CP.block ?_
 generalize fuel = k1 at hs
 refine CP.loop (fun k1 tm g => ∃ (l3 : List Int) (a14 : Option Addr) (n12 : Nat) (c13 : Nat) (x23 : Int) (x24 : Int) (l4 : List S_purse_Held) (a15 : Option Addr) (n13 : Nat) (c14 : Nat) (x25 : Int), Fr 51 [(2, .pointer (some ⟨b1, 0, none⟩)), (4, .pointer (some ⟨b3, 0, none⟩)), (5, .pointer (some ⟨b4, 0, none⟩)), (22, .int .i64 x10), (23, .int .i64 x25)] tm ∧ Step (fun l => NoM l ∨ t ≤ l) g0 g ∧ Box g (t + 1) b1 32 [encA .u8 (zA 8), [.int .i64 0], encA .i64 (zA 2), [.slice none 0 0]] [8, 1, 2, 1] ∧ Box g (t + 3) b3 112 [[.pointer (some ⟨b2, 0, none⟩)], [.int .i64 x24]] [1, 1] ∧ Box g (t + 2) b2 150 [[.slice a14 n12 c13], [.int .i64 x23]] [1, 1] ∧ RdS (Kd.int .u8) g 5 a14 n12 c13 l3 ∧ Box g (t + 4) b4 32 [encA .u8 d1, [.int .i64 x4], encA .i64 (⟨[x6, x8], rfl⟩ : Arr Int 2), [.slice a15 n13 c14]] [8, 1, 2, 1] ∧ OwnS k_S_purse_Held g (t + 6) 56 a15 n13 c14 l4 ∧ F.purse_Decode.l1 d1 x4 x6 x8 x10 k1 l3 x23 x24 l4 x25 = some (o1, o2, o3, o4, o5)) k1 ?_ ?_ ?_
 ·exact ⟨d6, a7, n7, c7, x11, x3, [], none, 0, 0, 0, ⟨by kernel_rfl, by kernel_rfl⟩, tot, hB1, hB3, hB2, hR7, hB9, (OwnS.nil _ _ _ _), hs⟩
 ·rintro tm g ⟨l3, a14, n12, c13, x23, x24, l4, a15, n13, c14, x25, hF, tot, hB1, hB3, hB2, hR14, hB9, hR15, hs⟩
  exact absurd hs (by simp [F.purse_Decode.l1])
 clear tot hs hB1 hB3 hB2 hR7 hB9
 rintro k1 tm g ⟨l3, a14, n12, c13, x23, x24, l4, a15, n13, c14, x25, hF, tot, hB1, hB3, hB2, hR14, hB9, hR15, hs⟩
 clear ds
 obtain ⟨ds, rfl⟩ := hF.open
 clear hF
 unfold F.purse_Decode.l1 at hs
 refine CP.seqR ?_
 refine WP.stl 1 ?_
 refine WP.dn ?_
 refine NX.then_n ?_
 refine CP.seq ?_
 refine CP.cond (b := decide (x25 < x10)) (by kernel_rfl) (fun h7 => ?_) (fun h7 => ?_)
 ·replace hs := of_if_t hs h7
  refine CP.skip ?_
  refine NX.then_n ?_
  refine CP.seq ?_
  refine CP.block ?_
  replace hs := Option.bind_eq_some_iff.1 hs
  obtain ⟨⟨d17, d18, x40, x41⟩, hk19, hs⟩ := hs
  dsimp only at hs
  replace hs := Option.bind_eq_some_iff.1 hs
  obtain ⟨⟨x42, d19, x43⟩, hk20, hs⟩ := hs
  dsimp only at hs
  replace hs := Option.bind_eq_some_iff.1 hs
  obtain ⟨⟨x44, d20, x45⟩, hk21, hs⟩ := hs
  dsimp only at hs
  replace hs := Option.bind_eq_some_iff.1 hs
  obtain ⟨⟨x46, d21, x47⟩, hk22, hs⟩ := hs
  dsimp only at hs
  by_cases hc3 : l4.length + ([(⟨d17, x42, x44, x46⟩ : S_purse_Held)]).length ≤ 4398046511104
  case neg => rw [if_neg hc3] at hs; cases hs
  replace hs := of_if_p hs hc3
  refine CP.drawL (by kernel_rfl) [1, 3, 5, 7, 9, 10, 11, 12, 14] N.purse_Decode_0 [⟨none, [1], [], fun l g => Box g (t + 3) b3 112 [[.pointer (some ⟨b2, 0, none⟩)], [.int .i64 x24]] [1, 1]⟩, ⟨none, [0], [], fun l g => Box g (t + 2) b2 150 [[.slice a14 n12 c13], [.int .i64 x23]] [1, 1]⟩, ⟨none, [], [], fun l g => RdS (Kd.int .u8) g 5 a14 n12 c13 l3⟩, ⟨none, [3], [], fun l g => Box g (t + 4) b4 32 [encA .u8 d1, [.int .i64 x4], encA .i64 (⟨[x6, x8], rfl⟩ : Arr Int 2), [.slice a15 n13 c14]] [8, 1, 2, 1]⟩, ⟨none, [2], [], fun l g => OwnS k_S_purse_Held g (t + 6) 56 a15 n13 c14 l4⟩, ⟨some 0, [], [0], fun l g => l.getD 0 undef = .slice a15 n13 c14⟩, ⟨some 1, [1], [], fun l g => Box g (t + 3) b3 112 [[.pointer (some ⟨b2, 0, none⟩)], [.int .i64 x41]] [1, 1]⟩, ⟨some 1, [0], [1], fun l g => ∃ (a24 : Option Addr) (c22 : Nat), l.getD 0 undef = AG [encA .u8 d17] ∧ RdS (Kd.int .u8) g 5 a24 d18.length c22 d18 ∧ Box g (t + 2) b2 150 [[.slice a24 d18.length c22], [.int .i64 x40]] [1, 1]⟩, ⟨some 2, [0], [2], fun l g => ∃ (a25 : Option Addr) (c23 : Nat), l.getD 0 undef = .int .i64 x42 ∧ RdS (Kd.int .u8) g 5 a25 d19.length c23 d19 ∧ Box g (t + 2) b2 150 [[.slice a25 d19.length c23], [.int .i64 x43]] [1, 1]⟩, ⟨some 2, [], [1], fun l g => ∃ (a24 : Option Addr) (c22 : Nat), l.getD 0 undef = AG [encA .u8 d17] ∧ RdS (Kd.int .u8) g 5 a24 d18.length c22 d18⟩, ⟨some 3, [0], [3], fun l g => ∃ (a26 : Option Addr) (c24 : Nat), l.getD 0 undef = .int .i64 x44 ∧ RdS (Kd.int .u8) g 5 a26 d20.length c24 d20 ∧ Box g (t + 2) b2 150 [[.slice a26 d20.length c24], [.int .i64 x45]] [1, 1]⟩, ⟨some 3, [], [2], fun l g => ∃ (a25 : Option Addr) (c23 : Nat), l.getD 0 undef = .int .i64 x42 ∧ RdS (Kd.int .u8) g 5 a25 d19.length c23 d19⟩, ⟨some 4, [0], [4], fun l g => ∃ (a27 : Option Addr) (c25 : Nat), l.getD 0 undef = .int .i64 x46 ∧ RdS (Kd.int .u8) g 5 a27 d21.length c25 d21 ∧ Box g (t + 2) b2 150 [[.slice a27 d21.length c25], [.int .i64 x47]] [1, 1]⟩, ⟨some 4, [], [3], fun l g => ∃ (a26 : Option Addr) (c24 : Nat), l.getD 0 undef = .int .i64 x44 ∧ RdS (Kd.int .u8) g 5 a26 d20.length c24 d20⟩, ⟨some 5, [], [5], fun l g => l.getD 0 undef = AG [encA .u8 d17, [.int .i64 x42], [.int .i64 x44], [.int .i64 x46]]⟩, ⟨some 6, [], [6], fun l g => ∃ (a28 : Option Addr), l.getD 0 undef = .slice a28 1 1 ∧ OwnS k_S_purse_Held g (t + 8) 56 a28 1 1 ([(⟨d17, x42, x44, x46⟩ : S_purse_Held)])⟩, ⟨some 7, [2], [7], fun l g => ∃ (a29 : Option Addr) (c26 : Nat), l.getD 0 undef = .slice a29 (n13 + 1) c26 ∧ OwnS k_S_purse_Held g (t + 6) 56 a29 (n13 + 1) c26 (l4 ++ [(⟨d17, x42, x44, x46⟩ : S_purse_Held)])⟩, ⟨some 8, [2, 3], [7], fun l g => ∃ (a29 : Option Addr) (c26 : Nat), l.getD 0 undef = .slice a29 (n13 + 1) c26 ∧ OwnS k_S_purse_Held g (t + 6) 56 a29 (n13 + 1) c26 (l4 ++ [(⟨d17, x42, x44, x46⟩ : S_purse_Held)]) ∧ Box g (t + 4) b4 32 [encA .u8 d1, [.int .i64 x4], encA .i64 (⟨[x6, x8], rfl⟩ : Arr Int 2), [.slice a29 (n13 + 1) c26]] [8, 1, 2, 1]⟩] [[], [0, 1], [0], [0], [0], [], [], [2], [3]] [(t + 2), (t + 3), (t + 6), (t + 4)] [0, 2, 4, 6, 8, 13] [] (by kernel_rfl) (by simp <;> omega) (by simp <;> omega) ⟨fun _ _ _ _ st h0 hl hj hB3 => (hB3.mono st (hj 1 (by simp) _ rfl)), fun _ _ _ _ st h0 hl hj hB2 => (hB2.mono st (hj 0 (by simp) _ rfl)), fun _ _ _ _ st h0 hl hj hR14 => (RdS.mono (e := 5) hR14 st h0), fun _ _ _ _ st h0 hl hj hB9 => (hB9.mono st (hj 3 (by simp) _ rfl)), fun _ _ _ _ st h0 hl hj hR15 => (hR15.mono st h0 (hj 2 (by simp) _ rfl)), fun _ _ _ _ st h0 hl hj e0 => e0, fun _ _ _ _ st h0 hl hj hB3 => (hB3.mono st (hj 1 (by simp) _ rfl)), fun _ _ _ _ st h0 hl hj ⟨a24, c22, e1, hR24, hB2⟩ => ⟨a24, c22, e1, (RdS.mono (e := 5) hR24 st h0), (hB2.mono st (hj 0 (by simp) _ rfl))⟩, fun _ _ _ _ st h0 hl hj ⟨a25, c23, e2, hR25, hB2⟩ => ⟨a25, c23, e2, (RdS.mono (e := 5) hR25 st h0), (hB2.mono st (hj 0 (by simp) _ rfl))⟩, fun _ _ _ _ st h0 hl hj ⟨a24, c22, e1, hR24⟩ => ⟨a24, c22, e1, (RdS.mono (e := 5) hR24 st h0)⟩, fun _ _ _ _ st h0 hl hj ⟨a26, c24, e3, hR26, hB2⟩ => ⟨a26, c24, e3, (RdS.mono (e := 5) hR26 st h0), (hB2.mono st (hj 0 (by simp) _ rfl))⟩, fun _ _ _ _ st h0 hl hj ⟨a25, c23, e2, hR25⟩ => ⟨a25, c23, e2, (RdS.mono (e := 5) hR25 st h0)⟩, fun _ _ _ _ st h0 hl hj ⟨a27, c25, e4, hR27, hB2⟩ => ⟨a27, c25, e4, (RdS.mono (e := 5) hR27 st h0), (hB2.mono st (hj 0 (by simp) _ rfl))⟩, fun _ _ _ _ st h0 hl hj ⟨a26, c24, e3, hR26⟩ => ⟨a26, c24, e3, (RdS.mono (e := 5) hR26 st h0)⟩, fun _ _ _ _ st h0 hl hj e5 => e5, fun _ _ _ _ st h0 hl hj ⟨a28, e6, hR28⟩ => ⟨a28, e6, (hR28.mono st h0 (fun h => absurd (hl _ h) (by simp <;> omega)))⟩, fun _ _ _ _ st h0 hl hj ⟨a29, c26, e7, hR29⟩ => ⟨a29, c26, e7, (hR29.mono st h0 (hj 2 (by simp) _ rfl))⟩, fun _ _ _ _ st h0 hl hj ⟨a29, c26, e7, hR29, hB9⟩ => ⟨a29, c26, e7, (hR29.mono st h0 (hj 2 (by simp) _ rfl)), (hB9.mono st (hj 3 (by simp) _ rfl))⟩, tv⟩ ⟨hB3, hB2, hR14, hB9, hR15, tv, tv, tv, tv, tv, tv, tv, tv, tv, tv, tv, tv, tv, tv⟩ (by kernel_rfl) (fun vs => by kernel_rfl) ?_ ?_ ?_
  ·intro j hj; exact absurd hj (by simp)
  ·intro j hj
   have hq : j = 0 ∨ j = 1 ∨ j = 2 ∨ j = 3 ∨ j = 4 ∨ j = 5 ∨ j = 6 ∨ j = 7 ∨ j = 8 := by have h : j < 9 := hj; omega
   rcases hq with rfl | rfl | rfl | rfl | rfl | rfl | rfl | rfl | rfl
   ·intro vs gq stq hl hf
    obtain ⟨v0, v1, v2, v3, v4, v5, v6, v7, v8, rfl⟩ := len_k9 hl
    have hB9 := (show Box gq (t + 4) b4 32 [encA .u8 d1, [.int .i64 x4], encA .i64 (⟨[x6, x8], rfl⟩ : Arr Int 2), [.slice a15 n13 c14]] [8, 1, 2, 1] from hf _ (memI 3 rfl) (by kernel_rfl))
    refine WP.loadB (v := .slice a15 n13 c14) hB9 (by kernel_rfl) (by kernel_rfl) ?_
    refine WP.dn (Shown.ok (v := .slice a15 n13 c14) (by kernel_rfl) (Step.refl _ _) ?_)
    exact ⟨tv, tv, tv, tv, tv, rfl, tv, tv, tv, tv, tv, tv, tv, tv, tv, tv, tv, tv, tv⟩
   ·intro vs gq stq hl hf
    obtain ⟨v0, v1, v2, v3, v4, v5, v6, v7, v8, rfl⟩ := len_k9 hl
    have hB3 := (show Box gq (t + 3) b3 112 [[.pointer (some ⟨b2, 0, none⟩)], [.int .i64 x24]] [1, 1] from hf _ (memI 0 rfl) (by kernel_rfl))
    have hB2 := (show Box gq (t + 2) b2 150 [[.slice a14 n12 c13], [.int .i64 x23]] [1, 1] from hf _ (memI 1 rfl) (by kernel_rfl))
    have hR14 := (show RdS (Kd.int .u8) gq 5 a14 n12 c13 l3 from hf _ (memI 2 rfl) (by kernel_rfl))
    have hcal19 := P.purse_reader_name gq (t + 3) (t + 2) l3 x23 x24 a14 n12 c13 b3 b2 hR14 hB2 hB3 (by omega) (by omega) (by omega) d17 d18 x40 x41 hk19
    refine WP.callC hcal19 (by kernel_rfl) ?_
    rintro _ g34 st34 ⟨a24, n20, c22, rfl, hR24, hB28, hB29⟩
    obtain rfl := hR24.len
    refine WP.dn (Shown.o (v := AG [encA .u8 d17]) st34 ?_)
    exact ⟨tv, tv, tv, tv, tv, tv, hB29, ⟨a24, c22, rfl, hR24, hB28⟩, tv, tv, tv, tv, tv, tv, tv, tv, tv, tv, tv⟩
   ·intro vs gq stq hl hf
    obtain ⟨v0, v1, v2, v3, v4, v5, v6, v7, v8, rfl⟩ := len_k9 hl
    have hB3 := (show Box gq (t + 3) b3 112 [[.pointer (some ⟨b2, 0, none⟩)], [.int .i64 x41]] [1, 1] from hf _ (memI 6 rfl) (by kernel_rfl))
    obtain ⟨a24, c22, e1, hR24, hB2⟩ := (show ∃ (a24 : Option Addr) (c22 : Nat), v1 = AG [encA .u8 d17] ∧ RdS (Kd.int .u8) gq 5 a24 d18.length c22 d18 ∧ Box gq (t + 2) b2 150 [[.slice a24 d18.length c22], [.int .i64 x40]] [1, 1] from hf _ (memI 7 rfl) (by kernel_rfl))
    subst e1
    have hcal20 := P.purse_reader_number gq (t + 3) (t + 2) d18 x40 x41 1125899906842624 a24 d18.length c22 b3 b2 hR24 hB2 hB3 (by omega) (by omega) (by omega) x42 d19 x43 hk20
    refine WP.callC hcal20 (by kernel_rfl) ?_
    rintro _ g35 st35 ⟨a25, n21, c23, rfl, hR25, hB30⟩
    obtain rfl := hR25.len
    refine WP.dn (Shown.o (v := .int .i64 x42) st35 ?_)
    exact ⟨tv, tv, tv, tv, tv, tv, tv, tv, ⟨a25, c23, rfl, hR25, hB30⟩, ⟨a24, c22, rfl, (hR24.mono st35 (WL.no (by simp <;> omega)))⟩, tv, tv, tv, tv, tv, tv, tv, tv, tv⟩
   ·intro vs gq stq hl hf
    obtain ⟨v0, v1, v2, v3, v4, v5, v6, v7, v8, rfl⟩ := len_k9 hl
    have hB3 := (show Box gq (t + 3) b3 112 [[.pointer (some ⟨b2, 0, none⟩)], [.int .i64 x41]] [1, 1] from hf _ (memI 6 rfl) (by kernel_rfl))
    obtain ⟨a25, c23, e2, hR25, hB2⟩ := (show ∃ (a25 : Option Addr) (c23 : Nat), v2 = .int .i64 x42 ∧ RdS (Kd.int .u8) gq 5 a25 d19.length c23 d19 ∧ Box gq (t + 2) b2 150 [[.slice a25 d19.length c23], [.int .i64 x43]] [1, 1] from hf _ (memI 8 rfl) (by kernel_rfl))
    subst e2
    have hcal21 := P.purse_reader_number gq (t + 3) (t + 2) d19 x43 x41 1 a25 d19.length c23 b3 b2 hR25 hB2 hB3 (by omega) (by omega) (by omega) x44 d20 x45 hk21
    refine WP.callC hcal21 (by kernel_rfl) ?_
    rintro _ g36 st36 ⟨a26, n22, c24, rfl, hR26, hB31⟩
    obtain rfl := hR26.len
    refine WP.dn (Shown.o (v := .int .i64 x44) st36 ?_)
    exact ⟨tv, tv, tv, tv, tv, tv, tv, tv, tv, tv, ⟨a26, c24, rfl, hR26, hB31⟩, ⟨a25, c23, rfl, (hR25.mono st36 (WL.no (by simp <;> omega)))⟩, tv, tv, tv, tv, tv, tv, tv⟩
   ·intro vs gq stq hl hf
    obtain ⟨v0, v1, v2, v3, v4, v5, v6, v7, v8, rfl⟩ := len_k9 hl
    have hB3 := (show Box gq (t + 3) b3 112 [[.pointer (some ⟨b2, 0, none⟩)], [.int .i64 x41]] [1, 1] from hf _ (memI 6 rfl) (by kernel_rfl))
    obtain ⟨a26, c24, e3, hR26, hB2⟩ := (show ∃ (a26 : Option Addr) (c24 : Nat), v3 = .int .i64 x44 ∧ RdS (Kd.int .u8) gq 5 a26 d20.length c24 d20 ∧ Box gq (t + 2) b2 150 [[.slice a26 d20.length c24], [.int .i64 x45]] [1, 1] from hf _ (memI 10 rfl) (by kernel_rfl))
    subst e3
    have hcal22 := P.purse_reader_number gq (t + 3) (t + 2) d20 x45 x41 1099511627776 a26 d20.length c24 b3 b2 hR26 hB2 hB3 (by omega) (by omega) (by omega) x46 d21 x47 hk22
    refine WP.callC hcal22 (by kernel_rfl) ?_
    rintro _ g37 st37 ⟨a27, n23, c25, rfl, hR27, hB32⟩
    obtain rfl := hR27.len
    refine WP.dn (Shown.o (v := .int .i64 x46) st37 ?_)
    exact ⟨tv, tv, tv, tv, tv, tv, tv, tv, tv, tv, tv, tv, ⟨a27, c25, rfl, hR27, hB32⟩, ⟨a26, c24, rfl, (hR26.mono st37 (WL.no (by simp <;> omega)))⟩, tv, tv, tv, tv, tv⟩
   ·intro vs gq stq hl hf
    obtain ⟨v0, v1, v2, v3, v4, v5, v6, v7, v8, rfl⟩ := len_k9 hl
    obtain ⟨a24, c22, e1, hR24⟩ := (show ∃ (a24 : Option Addr) (c22 : Nat), v1 = AG [encA .u8 d17] ∧ RdS (Kd.int .u8) gq 5 a24 d18.length c22 d18 from hf _ (memI 9 rfl) (by kernel_rfl))
    subst e1
    obtain ⟨a25, c23, e2, hR25⟩ := (show ∃ (a25 : Option Addr) (c23 : Nat), v2 = .int .i64 x42 ∧ RdS (Kd.int .u8) gq 5 a25 d19.length c23 d19 from hf _ (memI 11 rfl) (by kernel_rfl))
    subst e2
    obtain ⟨a27, c25, e4, hR27, hB2⟩ := (show ∃ (a27 : Option Addr) (c25 : Nat), v4 = .int .i64 x46 ∧ RdS (Kd.int .u8) gq 5 a27 d21.length c25 d21 ∧ Box gq (t + 2) b2 150 [[.slice a27 d21.length c25], [.int .i64 x47]] [1, 1] from hf _ (memI 12 rfl) (by kernel_rfl))
    subst e4
    obtain ⟨a26, c24, e3, hR26⟩ := (show ∃ (a26 : Option Addr) (c24 : Nat), v3 = .int .i64 x44 ∧ RdS (Kd.int .u8) gq 5 a26 d20.length c24 d20 from hf _ (memI 13 rfl) (by kernel_rfl))
    subst e3
    refine WP.buildS (places := #[(0, 8), (8, 1), (9, 1), (10, 1)]) (t := 56) [encA .u8 (zA 8), [.int .i64 0], [.int .i64 0], [.int .i64 0]] [8, 1, 1, 1] (by kernel_rfl) (by kernel_rfl) (by simp [len_encA]) (by kernel_rfl) ((.cons (i := 0) (off := 0) (v := AG [encA .u8 d17]) (mid := [encA .u8 d17, [.int .i64 0], [.int .i64 0], [.int .i64 0]]) [encA .u8 d17] [8] (by kernel_rfl) (by kernel_rfl) (by simp [len_encA]) (by kernel_rfl) (.cons (i := 1) (off := 8) (v := .int .i64 x42) (mid := [encA .u8 d17, [.int .i64 x42], [.int .i64 0], [.int .i64 0]]) [[.int .i64 x42]] [1] (by kernel_rfl) (by kernel_rfl) rfl (by kernel_rfl) (.cons (i := 2) (off := 9) (v := .int .i64 x44) (mid := [encA .u8 d17, [.int .i64 x42], [.int .i64 x44], [.int .i64 0]]) [[.int .i64 x44]] [1] (by kernel_rfl) (by kernel_rfl) rfl (by kernel_rfl) (.cons (i := 3) (off := 10) (v := .int .i64 x46) (mid := [encA .u8 d17, [.int .i64 x42], [.int .i64 x44], [.int .i64 x46]]) [[.int .i64 x46]] [1] (by kernel_rfl) (by kernel_rfl) rfl (by kernel_rfl) .nil))))) ?_
    refine WP.dn (Shown.ok (v := AG [encA .u8 d17, [.int .i64 x42], [.int .i64 x44], [.int .i64 x46]]) (by kernel_rfl) (Step.refl _ _) ?_)
    exact ⟨tv, tv, tv, tv, tv, tv, tv, tv, tv, tv, tv, tv, tv, tv, rfl, tv, tv, tv, tv⟩
   ·intro vs gq stq hl hf
    obtain ⟨v0, v1, v2, v3, v4, v5, v6, v7, v8, rfl⟩ := len_k9 hl
    have e5 := (show v5 = AG [encA .u8 d17, [.int .i64 x42], [.int .i64 x44], [.int .i64 x46]] from hf _ (memI 14 rfl) (by kernel_rfl))
    subst e5
    refine WP.mkSl (kd := k_S_purse_Held) (t := 30) (e := 56) (bytes := 32) (t + 8) [AG [encA .u8 d17, [.int .i64 x42], [.int .i64 x44], [.int .i64 x46]]] [(⟨d17, x42, x44, x46⟩ : S_purse_Held)] (by kernel_rfl) (by kernel_rfl) (Nat.le_of_ble_eq_true rfl) (Nat.le_of_ble_eq_true rfl) (all_cons (Kd.len k_S_purse_Held (g := gq) (x := (⟨d17, x42, x44, x46⟩ : S_purse_Held)) (k_S_purse_Held.mk rfl rfl rfl rfl)) all_nil) (⟨_, _, rfl, (k_S_purse_Held.mk rfl rfl rfl rfl), rfl⟩) rfl ?_
    intro g38 a28 st38 hR28
    refine WP.dn (Shown.o (v := .slice a28 1 1) st38.pure ?_)
    exact ⟨tv, tv, tv, tv, tv, tv, tv, tv, tv, tv, tv, tv, tv, tv, tv, ⟨a28, rfl, hR28⟩, tv, tv, tv⟩
   ·intro vs gq stq hl hf
    obtain ⟨v0, v1, v2, v3, v4, v5, v6, v7, v8, rfl⟩ := len_k9 hl
    have hR15 := (show OwnS k_S_purse_Held gq (t + 6) 56 a15 n13 c14 l4 from hf _ (memI 4 rfl) (by kernel_rfl))
    have e0 := (show v0 = .slice a15 n13 c14 from hf _ (memI 5 rfl) (by kernel_rfl))
    subst e0
    obtain ⟨a28, e6, hR28⟩ := (show ∃ (a28 : Option Addr), v6 = .slice a28 1 1 ∧ OwnS k_S_purse_Held gq (t + 8) 56 a28 1 1 ([(⟨d17, x42, x44, x46⟩ : S_purse_Held)]) from hf _ (memI 15 rfl) (by kernel_rfl))
    subst e6
    refine WP.append (kd := k_S_purse_Held) (t := 30) (e := 56) (bytes := 32) (a2 := a28) (c2 := 1) hR15 hR28.src hR28.len (by kernel_rfl) (by kernel_rfl) (by omega) (by simp only [maxLen]; omega) (by omega) ?_
    intro g39 a29 c26 st39 hR29
    refine WP.dn (Shown.o (v := .slice a29 (n13 + 1) c26) st39 ?_)
    exact ⟨tv, tv, tv, tv, tv, tv, tv, tv, tv, tv, tv, tv, tv, tv, tv, tv, ⟨a29, c26, rfl, hR29⟩, tv, tv⟩
   ·intro vs gq stq hl hf
    obtain ⟨v0, v1, v2, v3, v4, v5, v6, v7, v8, rfl⟩ := len_k9 hl
    have hB9 := (show Box gq (t + 4) b4 32 [encA .u8 d1, [.int .i64 x4], encA .i64 (⟨[x6, x8], rfl⟩ : Arr Int 2), [.slice a15 n13 c14]] [8, 1, 2, 1] from hf _ (memI 3 rfl) (by kernel_rfl))
    obtain ⟨a29, c26, e7, hR29⟩ := (show ∃ (a29 : Option Addr) (c26 : Nat), v7 = .slice a29 (n13 + 1) c26 ∧ OwnS k_S_purse_Held gq (t + 6) 56 a29 (n13 + 1) c26 (l4 ++ [(⟨d17, x42, x44, x46⟩ : S_purse_Held)]) from hf _ (memI 16 rfl) (by kernel_rfl))
    subst e7
    refine WP.storeB (ty := 30) (off := 11) (v := .slice a29 (n13 + 1) c26) hB9 [[.slice a29 (n13 + 1) c26]] [1] (by kernel_rfl) (by kernel_rfl) rfl (by kernel_rfl) [encA .u8 d1, [.int .i64 x4], encA .i64 (⟨[x6, x8], rfl⟩ : Arr Int 2), [.slice a29 (n13 + 1) c26]] (by kernel_rfl) (.one rfl .nil) ?_
    intro g40 st40 hB33
    refine WP.dn (Shown.o (v := undef) st40 ?_)
    exact ⟨tv, tv, tv, tv, tv, tv, tv, tv, tv, tv, tv, tv, tv, tv, tv, tv, tv, ⟨a29, c26, rfl, (hR29.mono st40 (WL.no (by simp <;> omega)) (WL.no (by simp <;> omega))), hB33⟩, tv⟩
  intro vs g41 st41 hl hf
  obtain ⟨v0, v1, v2, v3, v4, v5, v6, v7, v8, rfl⟩ := len_k9 hl
  have hB3 := (show Box g41 (t + 3) b3 112 [[.pointer (some ⟨b2, 0, none⟩)], [.int .i64 x41]] [1, 1] from hf _ (memI 6 rfl) (by kernel_rfl))
  obtain ⟨a27, c25, e4, hR27, hB2⟩ := (show ∃ (a27 : Option Addr) (c25 : Nat), v4 = .int .i64 x46 ∧ RdS (Kd.int .u8) g41 5 a27 d21.length c25 d21 ∧ Box g41 (t + 2) b2 150 [[.slice a27 d21.length c25], [.int .i64 x47]] [1, 1] from hf _ (memI 12 rfl) (by kernel_rfl))
  subst e4
  obtain ⟨a29, c26, e7, hR29, hB9⟩ := (show ∃ (a29 : Option Addr) (c26 : Nat), v7 = .slice a29 (n13 + 1) c26 ∧ OwnS k_S_purse_Held g41 (t + 6) 56 a29 (n13 + 1) c26 (l4 ++ [(⟨d17, x42, x44, x46⟩ : S_purse_Held)]) ∧ Box g41 (t + 4) b4 32 [encA .u8 d1, [.int .i64 x4], encA .i64 (⟨[x6, x8], rfl⟩ : Arr Int 2), [.slice a29 (n13 + 1) c26]] [8, 1, 2, 1] from hf _ (memI 17 rfl) (by kernel_rfl))
  subst e7
  replace hB1 := hB1.mono st41 (WL.no (by simp <;> omega))
  replace tot := tot.trans (st41.up (by intro l hl; simp at hl; rcases hl with rfl | rfl | rfl | rfl <;> first | exact .inr (by omega) | exact .inl (by simp [WL])))
  refine NX.block_n ?_
  refine NX.then_n ?_
  refine CP.refr 51 [(2, .pointer (some ⟨b1, 0, none⟩)), (4, .pointer (some ⟨b3, 0, none⟩)), (5, .pointer (some ⟨b4, 0, none⟩)), (22, .int .i64 x10), (23, .int .i64 x25)] (by kernel_rfl) (by kernel_rfl) ?_
  clear ds
  intro ds
  refine CP.region ?_
  refine WP.stl 2 ?_
  refine WP.dn ?_
  refine NX.post ?_
  exact ⟨d21, a27, d21.length, c25, x47, x41, (l4 ++ [(⟨d17, x42, x44, x46⟩ : S_purse_Held)]), a29, (n13 + 1), c26, (IntKind.i64.wrap (x25 + 1)), ⟨by kernel_rfl, by kernel_rfl⟩, tot, hB1, hB3, hB2, hR27, hB9, hR29, hs⟩
 replace hs := of_if_f hs h7
 refine CP.exit ?_
 refine NX.then_e ?_
 refine NX.then_e ?_
 refine NX.block_s ?_
 refine NX.then_n ?_
 refine CP.seqR ?_
 refine WP.stl 1 ?_
 replace hs := Option.bind_eq_some_iff.1 hs
 obtain ⟨x48, hk23, hs⟩ := hs
 have hcal23 := P.purse_reader_end g (t + 3) (t + 2) l3 x23 x24 a14 n12 c13 b3 b2 hR14 hB2 hB3 (by omega) (by omega) (by omega) x48 hk23
 refine WP.callC hcal23 (by kernel_rfl) ?_
 rintro _ g42 st42 rfl
 replace hB1 := hB1.mono st42 (fun x => x)
 replace hB3 := hB3.mono st42 (fun x => x)
 replace hB2 := hB2.mono st42 (fun x => x)
 replace hR14 := hR14.mono st42 (fun x => x)
 replace hB9 := hB9.mono st42 (fun x => x)
 replace hR15 := hR15.mono st42 (fun x => x) (fun x => x)
 replace tot := tot.trans st42.pure
 refine WP.stl 1 ?_
 refine WP.dn ?_
 refine NX.then_n ?_
 refine CP.cut (fun tm g => ∃ (x50 : Int), Fr 51 [(2, .pointer (some ⟨b1, 0, none⟩)), (5, .pointer (some ⟨b4, 0, none⟩)), (6, .int .i64 x50)] tm ∧ Step (fun l => NoM l ∨ t ≤ l) g0 g ∧ Box g (t + 1) b1 32 [encA .u8 (zA 8), [.int .i64 0], encA .i64 (zA 2), [.slice none 0 0]] [8, 1, 2, 1] ∧ Box g (t + 4) b4 32 [encA .u8 d1, [.int .i64 x4], encA .i64 (⟨[x6, x8], rfl⟩ : Arr Int 2), [.slice a15 n13 c14]] [8, 1, 2, 1] ∧ OwnS k_S_purse_Held g (t + 6) 56 a15 n13 c14 l4 ∧ (F.purse_Decode.c1 d1 x4 x6 x8 l4 x50) = some (o1, o2, o3, o4, o5)) ?_ ?_
 ·refine CP.seqR ?_
  refine WP.stl 2 ?_
  refine WP.dn ?_
  refine NX.then_n ?_
  refine CP.cond (b := (x48 == 0)) (by kernel_rfl) (fun h10 => ?_) (fun h10 => ?_)
  ·replace hs := of_if_t hs h10
   refine CP.region ?_
   refine WP.loadB (v := AG [encA .u8 d1, [.int .i64 x4], encA .i64 (⟨[x6, x8], rfl⟩ : Arr Int 2), [.slice a15 n13 c14]]) hB9 (by kernel_rfl) (by kernel_rfl) ?_
   replace hs := Option.bind_eq_some_iff.1 hs
   obtain ⟨x51, hk25, hs⟩ := hs
   have hS3 : 0 ∉ ([(t + 6)] : List Nat) := by simp <;> omega
   have stl3 := GW.lend_step g42 [(t + 6)]
   have hRl3 := hR15.lendTo hS3 (by simp)
   refine WP.regw (g' := GW.lend g42 [(t + 6)]) rfl ?_
   have hcal25 := P.purse_Purse_Check (GW.lend g42 [(t + 6)]) d1 x4 (⟨[x6, x8], rfl⟩ : Arr Int 2) l4 a15 n13 c14 hRl3 x51 hk25
   refine WP.callC hcal25 (by kernel_rfl) ?_
   rintro _ g48 st48 rfl
   have st49 := (GW.back_step st48).lentS
   have hO3 := hR15.backTo hS3 (by simp) st48 (fun x => x)
   refine WP.regw (g' := GW.back g42 g48 [(t + 6)]) rfl ?_
   generalize GW.back g42 g48 [(t + 6)] = g49 at *
   replace hB1 := hB1.mono st49 (WL.no1 (by omega))
   replace hB9 := hB9.mono st49 (WL.no1 (by omega))
   replace tot := tot.trans (st49.up1 (.inr (by omega)))
   clear hR15
   have hR15 : OwnS k_S_purse_Held g49 (t + 6) 56 a15 n13 c14 l4 := hO3
   clear hO3
   refine WP.stl 1 ?_
   refine WP.dn ?_
   refine NX.post ?_
   exact ⟨x51, ⟨by kernel_rfl, by kernel_rfl⟩, tot, hB1, hB9, hR15, hs⟩
  replace hs := of_if_f hs h10
  refine CP.skip ?_
  refine NX.post ?_
  exact ⟨x48, ⟨by kernel_rfl, by kernel_rfl⟩, tot, hB1, hB9, hR15, hs⟩
 clear tot hs hB1 hB9 hR15
 rintro tm g ⟨x50, hF, tot, hB1, hB9, hR15, hs⟩
 clear ds
 obtain ⟨ds, rfl⟩ := hF.open
 clear hF
 unfold F.purse_Decode.c1 at hs
 refine CP.seq ?_
 refine CP.seqR ?_
 refine WP.stl 2 ?_
 refine WP.dn ?_
 refine NX.then_n ?_
 refine CP.cond (b := (x50 != 0)) (by kernel_rfl) (fun h9 => ?_) (fun h9 => ?_)
 ·replace hs := of_if_t hs h9
  refine CP.seqR ?_
  refine WP.buildS (places := #[(0, 8), (8, 1), (9, 2), (11, 1)]) (t := 32) [encA .u8 (zA 8), [.int .i64 0], encA .i64 (zA 2), [.slice none 0 0]] [8, 1, 2, 1] (by kernel_rfl) (by kernel_rfl) (by simp [len_encA]) (by kernel_rfl) (.nil) ?_
  refine WP.stl 1 ?_
  refine WP.storeB (ty := 32) (off := 0) (v := AG [encA .u8 (zA 8), [.int .i64 0], encA .i64 (zA 2), [.slice none 0 0]]) hB1 [encA .u8 (zA 8), [.int .i64 0], encA .i64 (zA 2), [.slice none 0 0]] [8, 1, 2, 1] (by kernel_rfl) (by kernel_rfl) (by simp [len_encA]) (by kernel_rfl) [encA .u8 (zA 8), [.int .i64 0], encA .i64 (zA 2), [.slice none 0 0]] (by kernel_rfl) (.arr (.one rfl (.arr (.one rfl .nil)))) ?_
  intro g45 st45 hB34
  replace hB9 := hB9.mono st45 (WL.no1 (by omega))
  replace hR15 := hR15.mono st45 (WL.no1 (by omega)) (WL.no1 (by omega))
  replace tot := tot.trans (st45.up1 (.inr (by omega)))
  clear hB1
  have hB1 := hB34
  clear hB34
  refine WP.stl 1 ?_
  refine WP.dn ?_
  refine NX.then_n ?_
  refine CP.ret ?_
  refine NX.then_r ?_
  replace hs := Option.some.inj hs
  simp only [Prod.mk.injEq] at hs
  obtain ⟨rfl, rfl, rfl, rfl, rfl⟩ := hs
  exact NX.fin (v := .tuple #[AG [encA .u8 (zA 8), [.int .i64 0], encA .i64 (zA 2), [.slice none 0 0]], .int .i64 x50]) (Res.two rfl (RV.box (agg := true) (size := 12) (rs := [encA .u8 (zA 8), [.int .i64 0], encA .i64 (zA 2), [.slice none 0 0]]) hB1 (by kernel_rfl) (by kernel_rfl) (by kernel_rfl) (by kernel_rfl)) (RV.tmp (by kernel_rfl))) tot htL ⟨none, 0, 0, rfl, (OwnS.nil _ _ _ _)⟩
 replace hs := of_if_f hs h9
 refine CP.skip ?_
 refine NX.then_n ?_
 refine CP.seqR ?_
 refine WP.loadB (v := AG [encA .u8 d1, [.int .i64 x4], encA .i64 (⟨[x6, x8], rfl⟩ : Arr Int 2), [.slice a15 n13 c14]]) hB9 (by kernel_rfl) (by kernel_rfl) ?_
 refine WP.storeB (ty := 32) (off := 0) (v := AG [encA .u8 d1, [.int .i64 x4], encA .i64 (⟨[x6, x8], rfl⟩ : Arr Int 2), [.slice a15 n13 c14]]) hB1 [encA .u8 d1, [.int .i64 x4], encA .i64 (⟨[x6, x8], rfl⟩ : Arr Int 2), [.slice a15 n13 c14]] [8, 1, 2, 1] (by kernel_rfl) (by kernel_rfl) (by simp [len_encA]) (by kernel_rfl) [encA .u8 d1, [.int .i64 x4], encA .i64 (⟨[x6, x8], rfl⟩ : Arr Int 2), [.slice a15 n13 c14]] (by kernel_rfl) (.arr (.one rfl (.arr (.one rfl .nil)))) ?_
 intro g46 st46 hB35
 replace hR15 := hR15.mono st46 (WL.no1 (by omega)) (WL.no1 (by omega))
 replace hB9 := hB9.mono st46 (WL.no1 (by omega))
 replace tot := tot.trans (st46.up1 (.inr (by omega)))
 clear hB1
 have hB1 := hB35
 clear hB35
 refine WP.stl 1 ?_
 refine WP.dn ?_
 refine NX.then_n ?_
 refine CP.ret ?_
 obtain ⟨g47, hw1, st47, hnew⟩ := hR15.relab (by omega) r0
 refine NX.regw hw1 ?_
 replace hB1 := hB1.mono st47 (WL.no1 (by omega))
 replace tot := tot.trans (st47.up1 (.inr (by omega)))
 clear hR15
 have hR15 := hnew
 clear hnew
 replace hs := Option.some.inj hs
 simp only [Prod.mk.injEq] at hs
 obtain ⟨rfl, rfl, rfl, rfl, rfl⟩ := hs
 exact NX.fin (v := .tuple #[AG [encA .u8 d1, [.int .i64 x4], encA .i64 (⟨[x6, x8], rfl⟩ : Arr Int 2), [.slice a15 n13 c14]], .int .i64 0]) (Res.two rfl (RV.box (agg := true) (size := 12) (rs := [encA .u8 d1, [.int .i64 x4], encA .i64 (⟨[x6, x8], rfl⟩ : Arr Int 2), [.slice a15 n13 c14]]) hB1 (by kernel_rfl) (by kernel_rfl) (by kernel_rfl) (by kernel_rfl)) (RV.tmp (by kernel_rfl))) tot htL ⟨a15, n13, c14, rfl, hR15⟩
def F.baizeref01_number.l2 (l1 : List Int) (x5 : Int) : Nat → Int → Int → Option (Int × Int × Int)
 | 0, _, _ => none
 | k + 1, x11, x12 => (if decide (x12 ≥ 0) = true then (if (0 : Int) ≤ x12 ∧ x12 < (l1.length : Int) then (F.baizeref01_number.l2 l1 x5 k (IntKind.u64.wrap ((IntKind.u64.wrap (128 * x11)) + (IntKind.u64.wrap ((getI l1 x12).tmod 128)))) (IntKind.i64.wrap (x12 - 1))) else none) else (some (x11, (IntKind.i64.wrap (x5 + 1)), 0)))
def F.baizeref01_number.c3 (l1 : List Int) (x5 : Int) (q9 : Bool) : Option (Int × Int × Int) := (if q9 = true then (some (0, 0, 3)) else (F.baizeref01_number.l2 l1 x5 fuel 0 x5))
def F.baizeref01_number.c2 (l1 : List Int) (x5 : Int) (q8 : Bool) : Option (Int × Int × Int) := (if q8 = true then (some (0, 0, 4)) else (if (x5 == 10) = true then (F.baizeref01_number.c3 l1 x5 true) else (if decide (x5 > 0) = true then (if (0 : Int) ≤ x5 ∧ x5 < (l1.length : Int) then (if ((getI l1 x5) == 0) = true then (F.baizeref01_number.c3 l1 x5 true) else (if (x5 == 9) = true then (if (0 : Int) ≤ 9 ∧ 9 < (l1.length : Int) then (F.baizeref01_number.c3 l1 x5 (decide ((getI l1 9) > 1))) else none) else (F.baizeref01_number.c3 l1 x5 false))) else none) else (if (x5 == 9) = true then (if (0 : Int) ≤ 9 ∧ 9 < (l1.length : Int) then (F.baizeref01_number.c3 l1 x5 (decide ((getI l1 9) > 1))) else none) else (F.baizeref01_number.c3 l1 x5 false)))))
def F.baizeref01_number.c1 (nx1 : Int → Option (Int × Int × Int)) (l1 : List Int) (x5 : Int) (q7 : Bool) : Option (Int × Int × Int) := (if q7 = true then (nx1 (IntKind.i64.wrap (x5 + 1))) else (if (x5 == (l1.length : Int)) = true then (F.baizeref01_number.c2 l1 x5 (decide (x5 < 10))) else (F.baizeref01_number.c2 l1 x5 false)))
def F.baizeref01_number.l1 (l1 : List Int) : Nat → Int → Option (Int × Int × Int)
 | 0, _ => none
 | k + 1, x5 => (if decide (x5 < (l1.length : Int)) = true then (if decide (x5 < 10) = true then (if (0 : Int) ≤ x5 ∧ x5 < (l1.length : Int) then (F.baizeref01_number.c1 (F.baizeref01_number.l1 l1 k) l1 x5 (decide ((getI l1 x5) ≥ 128))) else none) else (F.baizeref01_number.c1 (F.baizeref01_number.l1 l1 k) l1 x5 false)) else (F.baizeref01_number.c1 (F.baizeref01_number.l1 l1 k) l1 x5 false))
def F.baizeref01_number (l1 : List Int) : Option (Int × Int × Int) := (F.baizeref01_number.l1 l1 fuel 0)
theorem P.baizeref01_number (g0 : GW) (l1 : List Int) (a1 : Option Addr) (n1 : Nat) (c1 : Nat) (hR1 : RdS (Kd.int .u8) g0 5 a1 n1 c1 l1) (o1 : Int) (o2 : Int) (o3 : Int) (hs : F.baizeref01_number l1 = some (o1, o2, o3)) :
  Calls Try.prog 97 #[.slice a1 n1 c1] g0.w (Ret NoM g0 fun v g => v = .tuple #[.int .u64 o1, .int .i64 o2, .int .i64 o3]) := by
 refine calls_of (args := [.slice a1 n1 c1]) Try.func97 rfl (0) ?_
 intro t ht htL
 refine ⟨_, rfl, ?_⟩
 refine CP.refr 73 [(0, .slice a1 n1 c1)] (by kernel_rfl) (by kernel_rfl) ?_
 intro ds
 have tot : Step (fun l => NoM l ∨ t ≤ l) g0 g0 := Step.refl _ _
 unfold F.baizeref01_number at hs
 refine CP.seqR ?_
 refine WP.stl 3 ?_
 refine WP.dn ?_
 refine NX.then_n ?_
 refine CP.seqR ?_
 refine WP.stl 1 ?_
 refine WP.dn ?_
 refine NX.then_n ?_
 refine CP.seq ?_
 refine CP.block ?_
 generalize fuel = k1 at hs
 refine CP.loop (fun k1 tm g => ∃ (x5 : Int), Fr 73 [(0, .slice a1 n1 c1), (5, .int .i64 x5)] tm ∧ Step (fun l => NoM l ∨ t ≤ l) g0 g ∧ RdS (Kd.int .u8) g 5 a1 n1 c1 l1 ∧ F.baizeref01_number.l1 l1 k1 x5 = some (o1, o2, o3)) k1 ?_ ?_ ?_
 ·exact ⟨0, ⟨by kernel_rfl, by kernel_rfl⟩, tot, hR1, hs⟩
 ·rintro tm g ⟨x5, hF, tot, hR1, hs⟩
  exact absurd hs (by simp [F.baizeref01_number.l1])
 clear tot hs hR1
 rintro k1 tm g ⟨x5, hF, tot, hR1, hs⟩
 clear ds
 obtain ⟨ds, rfl⟩ := hF.open
 clear hF
 unfold F.baizeref01_number.l1 at hs
 refine CP.seq ?_
 refine CP.cut (fun tm g => ∃ (q7 : Bool), Fr 73 [(0, .slice a1 n1 c1), (5, .int .i64 x5), (22, .bool q7)] tm ∧ Step (fun l => NoM l ∨ t ≤ l) g0 g ∧ RdS (Kd.int .u8) g 5 a1 n1 c1 l1 ∧ (F.baizeref01_number.c1 (F.baizeref01_number.l1 l1 k1) l1 x5 q7) = some (o1, o2, o3)) ?_ ?_
 ·refine CP.region ?_
  refine WP.stl 2 ?_
  refine WP.len (a := a1) (cp := c1) hR1.len (by kernel_rfl) ?_
  refine WP.stl 2 ?_
  refine WP.guard 12 (b := decide (x5 < (l1.length : Int))) (by kernel_rfl) (fun h47 => ?_) (fun h47 => ?_)
  ·replace hs := of_if_t hs h47
   refine WP.stl 4 ?_
   refine WP.guard 16 (b := decide (x5 < 10)) (by kernel_rfl) (fun h48 => ?_) (fun h48 => ?_)
   ·replace hs := of_if_t hs h48
    refine WP.stl 2 ?_
    by_cases hc23 : (0 : Int) ≤ x5 ∧ x5 < (l1.length : Int)
    case neg => rw [if_neg hc23] at hs; cases hs
    replace hs := of_if_p hs hc23
    obtain ⟨b23, u23, ha23⟩ := hR1.at hc23
    refine WP.indexA (t := 64) (e := 5) (sz := 1) (cap := c1) (k := .i64) (i := x5) hR1.len ha23 (by kernel_rfl) (by kernel_rfl) hc23 ?_
    obtain ⟨cs23, hcR23, hcV23⟩ := hR1.src.view (getI_some hc23) ha23
    replace hcR23 := Kd.o_int hcR23
    refine WP.loadV [[.int .u8 (getI l1 x5)]] [1] hcV23 hcR23 rfl (f := 0) (ty := 5) (agg := false) (size := 1) (rs := [[.int .u8 (getI l1 x5)]]) (v := .int .u8 (getI l1 x5)) (by kernel_rfl) (by kernel_rfl) (by kernel_rfl) (by kernel_rfl) ?_
    refine WP.stl 2 ?_
    refine WP.dn ?_
    refine NX.post ?_
    exact ⟨decide ((getI l1 x5) ≥ 128), ⟨by kernel_rfl, by kernel_rfl⟩, tot, hR1, hs⟩
   replace hs := of_if_f hs h48
   refine WP.stl 6 ?_
   refine WP.dn ?_
   refine NX.post ?_
   exact ⟨false, ⟨by kernel_rfl, by kernel_rfl⟩, tot, hR1, hs⟩
  replace hs := of_if_f hs h47
  refine WP.stl 10 ?_
  refine WP.dn ?_
  refine NX.post ?_
  exact ⟨false, ⟨by kernel_rfl, by kernel_rfl⟩, tot, hR1, hs⟩
 clear tot hs hR1
 rintro tm g ⟨q7, hF, tot, hR1, hs⟩
 clear ds
 obtain ⟨ds, rfl⟩ := hF.open
 clear hF
 unfold F.baizeref01_number.c1 at hs
 refine CP.cond (b := q7) (by kernel_rfl) (fun h29 => ?_) (fun h29 => ?_)
 ·replace hs := of_if_t hs h29
  refine CP.skip ?_
  refine NX.then_n ?_
  refine CP.block ?_
  refine CP.region ?_
  refine WP.stl 3 ?_
  refine WP.dn ?_
  refine NX.block_n ?_
  refine NX.post ?_
  exact ⟨(IntKind.i64.wrap (x5 + 1)), ⟨by kernel_rfl, by kernel_rfl⟩, tot, hR1, hs⟩
 replace hs := of_if_f hs h29
 refine CP.exit ?_
 refine NX.then_e ?_
 refine NX.then_e ?_
 refine NX.block_s ?_
 refine NX.then_n ?_
 refine CP.seq ?_
 refine CP.cut (fun tm g => ∃ (q8 : Bool), Fr 73 [(0, .slice a1 n1 c1), (5, .int .i64 x5), (32, .bool q8)] tm ∧ Step (fun l => NoM l ∨ t ≤ l) g0 g ∧ RdS (Kd.int .u8) g 5 a1 n1 c1 l1 ∧ (F.baizeref01_number.c2 l1 x5 q8) = some (o1, o2, o3)) ?_ ?_
 ·refine CP.region ?_
  refine WP.stl 2 ?_
  refine WP.len (a := a1) (cp := c1) hR1.len (by kernel_rfl) ?_
  refine WP.stl 2 ?_
  refine WP.guard 29 (b := (x5 == (l1.length : Int))) (by kernel_rfl) (fun h46 => ?_) (fun h46 => ?_)
  ·replace hs := of_if_t hs h46
   refine WP.stl 3 ?_
   refine WP.dn ?_
   refine NX.post ?_
   exact ⟨decide (x5 < 10), ⟨by kernel_rfl, by kernel_rfl⟩, tot, hR1, hs⟩
  replace hs := of_if_f hs h46
  refine WP.stl 3 ?_
  refine WP.dn ?_
  refine NX.post ?_
  exact ⟨false, ⟨by kernel_rfl, by kernel_rfl⟩, tot, hR1, hs⟩
 clear tot hs hR1
 rintro tm g ⟨q8, hF, tot, hR1, hs⟩
 clear ds
 obtain ⟨ds, rfl⟩ := hF.open
 clear hF
 unfold F.baizeref01_number.c2 at hs
 refine CP.cond (b := q8) (by kernel_rfl) (fun h31 => ?_) (fun h31 => ?_)
 ·replace hs := of_if_t hs h31
  refine CP.seqR ?_
  refine WP.stl 3 ?_
  refine WP.dn ?_
  refine NX.then_n ?_
  refine CP.ret ?_
  refine NX.then_r ?_
  replace hs := Option.some.inj hs
  simp only [Prod.mk.injEq] at hs
  obtain ⟨rfl, rfl, rfl⟩ := hs
  exact NX.fin (v := .tuple #[.int .u64 0, .int .i64 0, .int .i64 4]) (Res.still (by kernel_rfl)) tot htL rfl
 replace hs := of_if_f hs h31
 refine CP.skip ?_
 refine NX.then_n ?_
 refine CP.seq ?_
 refine CP.cut (fun tm g => ∃ (q9 : Bool), Fr 73 [(0, .slice a1 n1 c1), (5, .int .i64 x5), (55, .bool q9)] tm ∧ Step (fun l => NoM l ∨ t ≤ l) g0 g ∧ RdS (Kd.int .u8) g 5 a1 n1 c1 l1 ∧ (F.baizeref01_number.c3 l1 x5 q9) = some (o1, o2, o3)) ?_ ?_
 ·refine CP.region ?_
  refine WP.stl 3 ?_
  refine WP.guard 35 (b := (x5 == 10)) (by kernel_rfl) (fun h41 => ?_) (fun h41 => ?_)
  ·replace hs := of_if_t hs h41
   refine WP.stl 20 ?_
   refine WP.dn ?_
   refine NX.post ?_
   exact ⟨true, ⟨by kernel_rfl, by kernel_rfl⟩, tot, hR1, hs⟩
  replace hs := of_if_f hs h41
  refine WP.stl 3 ?_
  refine WP.guard 38 (b := decide (x5 > 0)) (by kernel_rfl) (fun h42 => ?_) (fun h42 => ?_)
  ·replace hs := of_if_t hs h42
   refine WP.stl 2 ?_
   by_cases hc20 : (0 : Int) ≤ x5 ∧ x5 < (l1.length : Int)
   case neg => rw [if_neg hc20] at hs; cases hs
   replace hs := of_if_p hs hc20
   obtain ⟨b20, u20, ha20⟩ := hR1.at hc20
   refine WP.indexA (t := 64) (e := 5) (sz := 1) (cap := c1) (k := .i64) (i := x5) hR1.len ha20 (by kernel_rfl) (by kernel_rfl) hc20 ?_
   obtain ⟨cs20, hcR20, hcV20⟩ := hR1.src.view (getI_some hc20) ha20
   replace hcR20 := Kd.o_int hcR20
   refine WP.loadV [[.int .u8 (getI l1 x5)]] [1] hcV20 hcR20 rfl (f := 0) (ty := 5) (agg := false) (size := 1) (rs := [[.int .u8 (getI l1 x5)]]) (v := .int .u8 (getI l1 x5)) (by kernel_rfl) (by kernel_rfl) (by kernel_rfl) (by kernel_rfl) ?_
   refine WP.stl 4 ?_
   refine WP.guard 46 (b := ((getI l1 x5) == 0)) (by kernel_rfl) (fun h43 => ?_) (fun h43 => ?_)
   ·replace hs := of_if_t hs h43
    refine WP.stl 9 ?_
    refine WP.dn ?_
    refine NX.post ?_
    exact ⟨true, ⟨by kernel_rfl, by kernel_rfl⟩, tot, hR1, hs⟩
   replace hs := of_if_f hs h43
   refine WP.stl 3 ?_
   refine WP.guard 49 (b := (x5 == 9)) (by kernel_rfl) (fun h44 => ?_) (fun h44 => ?_)
   ·replace hs := of_if_t hs h44
    refine WP.stl 1 ?_
    by_cases hc21 : (0 : Int) ≤ 9 ∧ 9 < (l1.length : Int)
    case neg => rw [if_neg hc21] at hs; cases hs
    replace hs := of_if_p hs hc21
    obtain ⟨b21, u21, ha21⟩ := hR1.at hc21
    refine WP.indexA (t := 64) (e := 5) (sz := 1) (cap := c1) (k := .i64) (i := 9) hR1.len ha21 (by kernel_rfl) (by kernel_rfl) hc21 ?_
    obtain ⟨cs21, hcR21, hcV21⟩ := hR1.src.view (getI_some hc21) ha21
    replace hcR21 := Kd.o_int hcR21
    refine WP.loadV [[.int .u8 (getI l1 9)]] [1] hcV21 hcR21 rfl (f := 0) (ty := 5) (agg := false) (size := 1) (rs := [[.int .u8 (getI l1 9)]]) (v := .int .u8 (getI l1 9)) (by kernel_rfl) (by kernel_rfl) (by kernel_rfl) (by kernel_rfl) ?_
    refine WP.stl 3 ?_
    refine WP.dn ?_
    refine NX.post ?_
    exact ⟨decide ((getI l1 9) > 1), ⟨by kernel_rfl, by kernel_rfl⟩, tot, hR1, hs⟩
   replace hs := of_if_f hs h44
   refine WP.stl 6 ?_
   refine WP.dn ?_
   refine NX.post ?_
   exact ⟨false, ⟨by kernel_rfl, by kernel_rfl⟩, tot, hR1, hs⟩
  replace hs := of_if_f hs h42
  refine WP.stl 11 ?_
  refine WP.guard 49 (b := (x5 == 9)) (by kernel_rfl) (fun h45 => ?_) (fun h45 => ?_)
  ·replace hs := of_if_t hs h45
   refine WP.stl 1 ?_
   by_cases hc22 : (0 : Int) ≤ 9 ∧ 9 < (l1.length : Int)
   case neg => rw [if_neg hc22] at hs; cases hs
   replace hs := of_if_p hs hc22
   obtain ⟨b22, u22, ha22⟩ := hR1.at hc22
   refine WP.indexA (t := 64) (e := 5) (sz := 1) (cap := c1) (k := .i64) (i := 9) hR1.len ha22 (by kernel_rfl) (by kernel_rfl) hc22 ?_
   obtain ⟨cs22, hcR22, hcV22⟩ := hR1.src.view (getI_some hc22) ha22
   replace hcR22 := Kd.o_int hcR22
   refine WP.loadV [[.int .u8 (getI l1 9)]] [1] hcV22 hcR22 rfl (f := 0) (ty := 5) (agg := false) (size := 1) (rs := [[.int .u8 (getI l1 9)]]) (v := .int .u8 (getI l1 9)) (by kernel_rfl) (by kernel_rfl) (by kernel_rfl) (by kernel_rfl) ?_
   refine WP.stl 3 ?_
   refine WP.dn ?_
   refine NX.post ?_
   exact ⟨decide ((getI l1 9) > 1), ⟨by kernel_rfl, by kernel_rfl⟩, tot, hR1, hs⟩
  replace hs := of_if_f hs h45
  refine WP.stl 6 ?_
  refine WP.dn ?_
  refine NX.post ?_
  exact ⟨false, ⟨by kernel_rfl, by kernel_rfl⟩, tot, hR1, hs⟩
 clear tot hs hR1
 rintro tm g ⟨q9, hF, tot, hR1, hs⟩
 clear ds
 obtain ⟨ds, rfl⟩ := hF.open
 clear hF
 unfold F.baizeref01_number.c3 at hs
 refine CP.cond (b := q9) (by kernel_rfl) (fun h37 => ?_) (fun h37 => ?_)
 ·replace hs := of_if_t hs h37
  refine CP.seqR ?_
  refine WP.stl 3 ?_
  refine WP.dn ?_
  refine NX.then_n ?_
  refine CP.ret ?_
  refine NX.then_r ?_
  replace hs := Option.some.inj hs
  simp only [Prod.mk.injEq] at hs
  obtain ⟨rfl, rfl, rfl⟩ := hs
  exact NX.fin (v := .tuple #[.int .u64 0, .int .i64 0, .int .i64 3]) (Res.still (by kernel_rfl)) tot htL rfl
 replace hs := of_if_f hs h37
 refine CP.skip ?_
 refine NX.then_n ?_
 refine CP.seqR ?_
 refine WP.stl 1 ?_
 refine WP.dn ?_
 refine NX.then_n ?_
 refine CP.seq ?_
 refine CP.seqR ?_
 refine WP.stl 2 ?_
 refine WP.dn ?_
 refine NX.then_n ?_
 refine CP.block ?_
 generalize fuel = k2 at hs
 refine CP.loop (fun k2 tm g => ∃ (x11 : Int) (x12 : Int), Fr 73 [(0, .slice a1 n1 c1), (5, .int .i64 x5), (6, .int .u64 x11), (7, .int .i64 x12)] tm ∧ Step (fun l => NoM l ∨ t ≤ l) g0 g ∧ RdS (Kd.int .u8) g 5 a1 n1 c1 l1 ∧ F.baizeref01_number.l2 l1 x5 k2 x11 x12 = some (o1, o2, o3)) k2 ?_ ?_ ?_
 ·exact ⟨0, x5, ⟨by kernel_rfl, by kernel_rfl⟩, tot, hR1, hs⟩
 ·rintro tm g ⟨x11, x12, hF, tot, hR1, hs⟩
  exact absurd hs (by simp [F.baizeref01_number.l2])
 clear tot hs hR1
 rintro k2 tm g ⟨x11, x12, hF, tot, hR1, hs⟩
 clear ds
 obtain ⟨ds, rfl⟩ := hF.open
 clear hF
 unfold F.baizeref01_number.l2 at hs
 refine CP.seq ?_
 refine CP.seqR ?_
 refine WP.stl 2 ?_
 refine WP.dn ?_
 refine NX.then_n ?_
 refine CP.cond (b := decide (x12 ≥ 0)) (by kernel_rfl) (fun h40 => ?_) (fun h40 => ?_)
 ·replace hs := of_if_t hs h40
  refine CP.skip ?_
  refine NX.then_n ?_
  refine CP.seq ?_
  refine CP.block ?_
  refine CP.region ?_
  refine WP.stl 4 ?_
  by_cases hc19 : (0 : Int) ≤ x12 ∧ x12 < (l1.length : Int)
  case neg => rw [if_neg hc19] at hs; cases hs
  replace hs := of_if_p hs hc19
  obtain ⟨b19, u19, ha19⟩ := hR1.at hc19
  refine WP.indexA (t := 64) (e := 5) (sz := 1) (cap := c1) (k := .i64) (i := x12) hR1.len ha19 (by kernel_rfl) (by kernel_rfl) hc19 ?_
  obtain ⟨cs19, hcR19, hcV19⟩ := hR1.src.view (getI_some hc19) ha19
  replace hcR19 := Kd.o_int hcR19
  refine WP.loadV [[.int .u8 (getI l1 x12)]] [1] hcV19 hcR19 rfl (f := 0) (ty := 5) (agg := false) (size := 1) (rs := [[.int .u8 (getI l1 x12)]]) (v := .int .u8 (getI l1 x12)) (by kernel_rfl) (by kernel_rfl) (by kernel_rfl) (by kernel_rfl) ?_
  refine WP.stl 4 ?_
  refine WP.dn ?_
  refine NX.block_n ?_
  refine NX.then_n ?_
  refine CP.region ?_
  refine WP.stl 3 ?_
  refine WP.dn ?_
  refine NX.post ?_
  exact ⟨(IntKind.u64.wrap ((IntKind.u64.wrap (128 * x11)) + (IntKind.u64.wrap ((getI l1 x12).tmod 128)))), (IntKind.i64.wrap (x12 - 1)), ⟨by kernel_rfl, by kernel_rfl⟩, tot, hR1, hs⟩
 replace hs := of_if_f hs h40
 refine CP.exit ?_
 refine NX.then_e ?_
 refine NX.then_e ?_
 refine NX.block_s ?_
 refine NX.then_n ?_
 refine CP.seqR ?_
 refine WP.stl 6 ?_
 refine WP.dn ?_
 refine NX.then_n ?_
 refine CP.ret ?_
 replace hs := Option.some.inj hs
 simp only [Prod.mk.injEq] at hs
 obtain ⟨rfl, rfl, rfl⟩ := hs
 exact NX.fin (v := .tuple #[.int .u64 x11, .int .i64 (IntKind.i64.wrap (x5 + 1)), .int .i64 0]) (Res.still (by kernel_rfl)) tot htL rfl
def F.baizeref01_Fail (l1 : List Int) (x1 : Int) (x2 : Int) (x3 : Int) : Option ((List Int) × Int × Int) := (some (l1, x1, x3))
theorem P.baizeref01_Fail (g0 : GW) (l1 : List Int) (x1 : Int) (x2 : Int) (x3 : Int) (a1 : Option Addr) (n1 : Nat) (c1 : Nat) (hR1 : RdS (Kd.int .u8) g0 5 a1 n1 c1 l1) (o1 : List Int) (o2 : Int) (o3 : Int) (hs : F.baizeref01_Fail l1 x1 x2 x3 = some (o1, o2, o3)) :
  Calls Try.prog 96 #[AG [[.slice a1 n1 c1], [.int .i64 x1], [.int .i64 x2]], .int .i64 x3] g0.w (Ret NoM g0 fun v g => ∃ (a_1 : Option Addr) (n_1 : Nat) (c_1 : Nat), v = AG [[.slice a_1 n_1 c_1], [.int .i64 o2], [.int .i64 o3]] ∧ RdS (Kd.int .u8) g 5 a_1 n_1 c_1 o1) := by
 refine calls_of (args := [AG [[.slice a1 n1 c1], [.int .i64 x1], [.int .i64 x2]], .int .i64 x3]) Try.func96 rfl (0) ?_
 intro t ht htL
 refine ⟨_, rfl, ?_⟩
 refine CP.refr 8 [(0, AG [[.slice a1 n1 c1], [.int .i64 x1], [.int .i64 x2]]), (1, .int .i64 x3)] (by kernel_rfl) (by kernel_rfl) ?_
 intro ds
 have tot : Step (fun l => NoM l ∨ t ≤ l) g0 g0 := Step.refl _ _
 unfold F.baizeref01_Fail at hs
 refine CP.seqR ?_
 refine WP.alloc (T := 115) (t + 1) [[.slice a1 n1 c1], [.int .i64 x1], [.int .i64 x2]] [1, 1, 1] (by kernel_rfl) rfl ?_
 intro g1 b1 st1 hB1
 replace hR1 := hR1.mono st1 (fun x => x)
 replace tot := tot.trans st1.pure
 refine WP.alloc (T := 115) (t + 2) [[.slice none 0 0], [.int .i64 0], [.int .i64 0]] [1, 1, 1] (by kernel_rfl) rfl ?_
 intro g2 b2 st2 hB2
 replace hR1 := hR1.mono st2 (fun x => x)
 replace hB1 := hB1.mono st2 (fun x => x)
 replace tot := tot.trans st2.pure
 refine WP.dn ?_
 refine NX.then_n ?_
 refine CP.seqR ?_
 refine WP.stl 2 ?_
 refine WP.storeB (ty := 3) (off := 2) (v := .int .i64 x3) hB1 [[.int .i64 x3]] [1] (by kernel_rfl) (by kernel_rfl) rfl (by kernel_rfl) [[.slice a1 n1 c1], [.int .i64 x1], [.int .i64 x3]] (by kernel_rfl) (.one rfl .nil) ?_
 intro g3 st3 hB3
 replace hR1 := hR1.mono st3 (WL.no1 (by omega))
 replace hB2 := hB2.mono st3 (WL.no1 (by omega))
 replace tot := tot.trans (st3.up1 (.inr (by omega)))
 clear hB1
 have hB1 := hB3
 clear hB3
 refine WP.dn ?_
 refine NX.then_n ?_
 refine CP.seqR ?_
 refine WP.loadB (v := AG [[.slice a1 n1 c1], [.int .i64 x1], [.int .i64 x3]]) hB1 (by kernel_rfl) (by kernel_rfl) ?_
 refine WP.storeB (ty := 115) (off := 0) (v := AG [[.slice a1 n1 c1], [.int .i64 x1], [.int .i64 x3]]) hB2 [[.slice a1 n1 c1], [.int .i64 x1], [.int .i64 x3]] [1, 1, 1] (by kernel_rfl) (by kernel_rfl) rfl (by kernel_rfl) [[.slice a1 n1 c1], [.int .i64 x1], [.int .i64 x3]] (by kernel_rfl) (.one rfl (.one rfl (.one rfl .nil))) ?_
 intro g4 st4 hB4
 replace hB1 := hB1.mono st4 (WL.no1 (by omega))
 replace hR1 := hR1.mono st4 (WL.no1 (by omega))
 replace tot := tot.trans (st4.up1 (.inr (by omega)))
 clear hB2
 have hB2 := hB4
 clear hB4
 refine WP.dn ?_
 refine NX.then_n ?_
 refine CP.ret ?_
 replace hs := Option.some.inj hs
 simp only [Prod.mk.injEq] at hs
 obtain ⟨rfl, rfl, rfl⟩ := hs
 exact NX.fin (v := AG [[.slice a1 n1 c1], [.int .i64 x1], [.int .i64 x3]]) (Res.one rfl (RV.box (agg := true) (size := 3) (rs := [[.slice a1 n1 c1], [.int .i64 x1], [.int .i64 x3]]) hB2 (by kernel_rfl) (by kernel_rfl) (by kernel_rfl) (by kernel_rfl))) tot htL ⟨a1, n1, c1, rfl, hR1⟩
def F.baizeref01_Read.c1 (l1 : List Int) (x1 : Int) (x2 : Int) (x4 : Int) (x5 : Int) (x7 : Int) : Option ((List Int) × Int × Int × Int) := (if (x7 != 0) = true then ((F.baizeref01_Fail l1 x1 x2 x7).bind fun (l2, x8, x9) => (some (l2, x8, x9, 0))) else (some (l1, (IntKind.i64.wrap (x1 + x5)), x2, x4)))
def F.baizeref01_Read.c2 (l1 : List Int) (x1 : Int) (x2 : Int) (x4 : Int) (x5 : Int) (x6 : Int) (q2 : Bool) : Option ((List Int) × Int × Int × Int) := (if q2 = true then (F.baizeref01_Read.c1 l1 x1 x2 x4 x5 2) else (F.baizeref01_Read.c1 l1 x1 x2 x4 x5 x6))
def F.baizeref01_Read (l1 : List Int) (x1 : Int) (x2 : Int) (x3 : Int) : Option ((List Int) × Int × Int × Int) := (if (x2 != 0) = true then (some (l1, x1, x2, 0)) else (if (0 : Int) ≤ x1 ∧ x1 ≤ (l1.length : Int) ∧ (l1.length : Int) ≤ (l1.length : Int) then ((F.baizeref01_number (sliceI l1 x1 (l1.length : Int))).bind fun (x4, x5, x6) => (if (x6 == 0) = true then (F.baizeref01_Read.c2 l1 x1 x2 x4 x5 x6 (decide (x4 > x3))) else (F.baizeref01_Read.c2 l1 x1 x2 x4 x5 x6 false))) else none))
theorem P.baizeref01_Read (g0 : GW) (l1 : List Int) (x1 : Int) (x2 : Int) (x3 : Int) (a1 : Option Addr) (n1 : Nat) (c1 : Nat) (hR1 : RdS (Kd.int .u8) g0 5 a1 n1 c1 l1) (o1 : List Int) (o2 : Int) (o3 : Int) (o4 : Int) (hs : F.baizeref01_Read l1 x1 x2 x3 = some (o1, o2, o3, o4)) :
  Calls Try.prog 70 #[AG [[.slice a1 n1 c1], [.int .i64 x1], [.int .i64 x2]], .int .u64 x3] g0.w (Ret NoM g0 fun v g => ∃ (a_1 : Option Addr) (n_1 : Nat) (c_1 : Nat), v = .tuple #[AG [[.slice a_1 n_1 c_1], [.int .i64 o2], [.int .i64 o3]], .int .u64 o4] ∧ RdS (Kd.int .u8) g 5 a_1 n_1 c_1 o1) := by
 refine calls_of (args := [AG [[.slice a1 n1 c1], [.int .i64 x1], [.int .i64 x2]], .int .u64 x3]) Try.func70 rfl (0) ?_
 intro t ht htL
 refine ⟨_, rfl, ?_⟩
 refine CP.refr 42 [(0, AG [[.slice a1 n1 c1], [.int .i64 x1], [.int .i64 x2]]), (1, .int .u64 x3)] (by kernel_rfl) (by kernel_rfl) ?_
 intro ds
 have tot : Step (fun l => NoM l ∨ t ≤ l) g0 g0 := Step.refl _ _
 unfold F.baizeref01_Read at hs
 refine CP.seqR ?_
 refine WP.alloc (T := 115) (t + 1) [[.slice a1 n1 c1], [.int .i64 x1], [.int .i64 x2]] [1, 1, 1] (by kernel_rfl) rfl ?_
 intro g1 b1 st1 hB1
 replace hR1 := hR1.mono st1 (fun x => x)
 replace tot := tot.trans st1.pure
 refine WP.alloc (T := 115) (t + 2) [[.slice none 0 0], [.int .i64 0], [.int .i64 0]] [1, 1, 1] (by kernel_rfl) rfl ?_
 intro g2 b2 st2 hB2
 replace hR1 := hR1.mono st2 (fun x => x)
 replace hB1 := hB1.mono st2 (fun x => x)
 replace tot := tot.trans st2.pure
 refine WP.stl 1 ?_
 refine WP.dn ?_
 refine NX.then_n ?_
 refine CP.seq ?_
 refine CP.seqR ?_
 refine WP.stl 1 ?_
 refine WP.loadB (v := .int .i64 x2) hB1 (by kernel_rfl) (by kernel_rfl) ?_
 refine WP.stl 1 ?_
 refine WP.dn ?_
 refine NX.then_n ?_
 refine CP.cond (b := (x2 != 0)) (by kernel_rfl) (fun h1 => ?_) (fun h1 => ?_)
 ·replace hs := of_if_t hs h1
  refine CP.seqR ?_
  refine WP.loadB (v := AG [[.slice a1 n1 c1], [.int .i64 x1], [.int .i64 x2]]) hB1 (by kernel_rfl) (by kernel_rfl) ?_
  refine WP.storeB (ty := 115) (off := 0) (v := AG [[.slice a1 n1 c1], [.int .i64 x1], [.int .i64 x2]]) hB2 [[.slice a1 n1 c1], [.int .i64 x1], [.int .i64 x2]] [1, 1, 1] (by kernel_rfl) (by kernel_rfl) rfl (by kernel_rfl) [[.slice a1 n1 c1], [.int .i64 x1], [.int .i64 x2]] (by kernel_rfl) (.one rfl (.one rfl (.one rfl .nil))) ?_
  intro g3 st3 hB3
  replace hB1 := hB1.mono st3 (WL.no1 (by omega))
  replace hR1 := hR1.mono st3 (WL.no1 (by omega))
  replace tot := tot.trans (st3.up1 (.inr (by omega)))
  clear hB2
  have hB2 := hB3
  clear hB3
  refine WP.stl 1 ?_
  refine WP.dn ?_
  refine NX.then_n ?_
  refine CP.ret ?_
  refine NX.then_r ?_
  replace hs := Option.some.inj hs
  simp only [Prod.mk.injEq] at hs
  obtain ⟨rfl, rfl, rfl, rfl⟩ := hs
  exact NX.fin (v := .tuple #[AG [[.slice a1 n1 c1], [.int .i64 x1], [.int .i64 x2]], .int .u64 0]) (Res.two rfl (RV.box (agg := true) (size := 3) (rs := [[.slice a1 n1 c1], [.int .i64 x1], [.int .i64 x2]]) hB2 (by kernel_rfl) (by kernel_rfl) (by kernel_rfl) (by kernel_rfl)) (RV.tmp (by kernel_rfl))) tot htL ⟨a1, n1, c1, rfl, hR1⟩
 replace hs := of_if_f hs h1
 refine CP.skip ?_
 refine NX.then_n ?_
 refine CP.seqR ?_
 refine WP.stl 1 ?_
 refine WP.loadB (v := .slice a1 n1 c1) hB1 (by kernel_rfl) (by kernel_rfl) ?_
 refine WP.stl 1 ?_
 refine WP.loadB (v := .int .i64 x1) hB1 (by kernel_rfl) (by kernel_rfl) ?_
 by_cases hc1 : (0 : Int) ≤ x1 ∧ x1 ≤ (l1.length : Int) ∧ (l1.length : Int) ≤ (l1.length : Int)
 case neg => rw [if_neg hc1] at hs; cases hs
 replace hs := of_if_p hs hc1
 refine WP.sliceR (lo := some (.int .i64 x1)) (hi := none) hR1 x1 (l1.length : Int) (by kernel_rfl) (.inr ⟨_, rfl⟩) (.inl ⟨rfl, rfl⟩) hc1 ?_
 intro a2 c2 hR2
 replace hs := Option.bind_eq_some_iff.1 hs
 obtain ⟨⟨x4, x5, x6⟩, hk1, hs⟩ := hs
 dsimp only at hs
 have hcal1 := P.baizeref01_number g2 (sliceI l1 x1 (l1.length : Int)) a2 ((l1.length : Int).toNat - x1.toNat) c2 hR2 x4 x5 x6 hk1
 refine WP.callC hcal1 (by kernel_rfl) ?_
 rintro _ g4 st4 rfl
 replace hB1 := hB1.mono st4 (fun x => x)
 replace hR1 := hR1.mono st4 (fun x => x)
 replace hB2 := hB2.mono st4 (fun x => x)
 replace hR2 := hR2.mono st4 (fun x => x)
 replace tot := tot.trans st4.pure
 refine WP.stl 7 ?_
 refine WP.dn ?_
 refine NX.then_n ?_
 refine CP.refr 42 [(1, .int .u64 x3), (2, .pointer (some ⟨b1, 0, none⟩)), (4, .pointer (some ⟨b2, 0, none⟩)), (6, .int .u64 x4), (7, .int .i64 x5), (8, .int .i64 x6)] (by kernel_rfl) (by kernel_rfl) ?_
 clear ds
 intro ds
 refine CP.cut (fun tm g => ∃ (x7 : Int), Fr 42 [(2, .pointer (some ⟨b1, 0, none⟩)), (4, .pointer (some ⟨b2, 0, none⟩)), (6, .int .u64 x4), (7, .int .i64 x5), (8, .int .i64 x7)] tm ∧ Step (fun l => NoM l ∨ t ≤ l) g0 g ∧ Box g (t + 1) b1 115 [[.slice a1 n1 c1], [.int .i64 x1], [.int .i64 x2]] [1, 1, 1] ∧ RdS (Kd.int .u8) g 5 a1 n1 c1 l1 ∧ Box g (t + 2) b2 115 [[.slice none 0 0], [.int .i64 0], [.int .i64 0]] [1, 1, 1] ∧ (F.baizeref01_Read.c1 l1 x1 x2 x4 x5 x7) = some (o1, o2, o3, o4)) ?_ ?_
 ·refine CP.cut (fun tm g => ∃ (q2 : Bool), Fr 42 [(2, .pointer (some ⟨b1, 0, none⟩)), (4, .pointer (some ⟨b2, 0, none⟩)), (6, .int .u64 x4), (7, .int .i64 x5), (8, .int .i64 x6), (29, .bool q2)] tm ∧ Step (fun l => NoM l ∨ t ≤ l) g0 g ∧ Box g (t + 1) b1 115 [[.slice a1 n1 c1], [.int .i64 x1], [.int .i64 x2]] [1, 1, 1] ∧ RdS (Kd.int .u8) g 5 a1 n1 c1 l1 ∧ Box g (t + 2) b2 115 [[.slice none 0 0], [.int .i64 0], [.int .i64 0]] [1, 1, 1] ∧ (F.baizeref01_Read.c2 l1 x1 x2 x4 x5 x6 q2) = some (o1, o2, o3, o4)) ?_ ?_
  ·refine CP.region ?_
   refine WP.stl 3 ?_
   refine WP.guard 25 (b := (x6 == 0)) (by kernel_rfl) (fun h7 => ?_) (fun h7 => ?_)
   ·replace hs := of_if_t hs h7
    refine WP.stl 4 ?_
    refine WP.dn ?_
    refine NX.post ?_
    exact ⟨decide (x4 > x3), ⟨by kernel_rfl, by kernel_rfl⟩, tot, hB1, hR1, hB2, hs⟩
   replace hs := of_if_f hs h7
   refine WP.stl 4 ?_
   refine WP.dn ?_
   refine NX.post ?_
   exact ⟨false, ⟨by kernel_rfl, by kernel_rfl⟩, tot, hB1, hR1, hB2, hs⟩
  clear tot hs hB1 hR1 hB2
  rintro tm g ⟨q2, hF, tot, hB1, hR1, hB2, hs⟩
  clear ds
  obtain ⟨ds, rfl⟩ := hF.open
  clear hF
  unfold F.baizeref01_Read.c2 at hs
  refine CP.cond (b := q2) (by kernel_rfl) (fun h6 => ?_) (fun h6 => ?_)
  ·replace hs := of_if_t hs h6
   refine CP.region ?_
   refine WP.stl 1 ?_
   refine WP.dn ?_
   refine NX.post ?_
   exact ⟨2, ⟨by kernel_rfl, by kernel_rfl⟩, tot, hB1, hR1, hB2, hs⟩
  replace hs := of_if_f hs h6
  refine CP.skip ?_
  refine NX.post ?_
  exact ⟨x6, ⟨by kernel_rfl, by kernel_rfl⟩, tot, hB1, hR1, hB2, hs⟩
 clear tot hs hB1 hR1 hB2
 rintro tm g ⟨x7, hF, tot, hB1, hR1, hB2, hs⟩
 clear ds
 obtain ⟨ds, rfl⟩ := hF.open
 clear hF
 unfold F.baizeref01_Read.c1 at hs
 refine CP.seq ?_
 refine CP.seqR ?_
 refine WP.stl 2 ?_
 refine WP.dn ?_
 refine NX.then_n ?_
 refine CP.cond (b := (x7 != 0)) (by kernel_rfl) (fun h4 => ?_) (fun h4 => ?_)
 ·replace hs := of_if_t hs h4
  refine CP.seqR ?_
  refine WP.loadB (v := AG [[.slice a1 n1 c1], [.int .i64 x1], [.int .i64 x2]]) hB1 (by kernel_rfl) (by kernel_rfl) ?_
  refine WP.stl 1 ?_
  replace hs := Option.bind_eq_some_iff.1 hs
  obtain ⟨⟨l2, x8, x9⟩, hk2, hs⟩ := hs
  dsimp only at hs
  have hcal2 := P.baizeref01_Fail g l1 x1 x2 x7 a1 n1 c1 hR1 l2 x8 x9 hk2
  refine WP.callC hcal2 (by kernel_rfl) ?_
  rintro _ g5 st5 ⟨a3, n2, c3, rfl, hR3⟩
  replace hB1 := hB1.mono st5 (fun x => x)
  replace hR1 := hR1.mono st5 (fun x => x)
  replace hB2 := hB2.mono st5 (fun x => x)
  replace tot := tot.trans st5.pure
  refine WP.storeB (ty := 115) (off := 0) (v := AG [[.slice a3 n2 c3], [.int .i64 x8], [.int .i64 x9]]) hB2 [[.slice a3 n2 c3], [.int .i64 x8], [.int .i64 x9]] [1, 1, 1] (by kernel_rfl) (by kernel_rfl) rfl (by kernel_rfl) [[.slice a3 n2 c3], [.int .i64 x8], [.int .i64 x9]] (by kernel_rfl) (.one rfl (.one rfl (.one rfl .nil))) ?_
  intro g6 st6 hB4
  replace hB1 := hB1.mono st6 (WL.no1 (by omega))
  replace hR1 := hR1.mono st6 (WL.no1 (by omega))
  replace hR3 := hR3.mono st6 (WL.no1 (by omega))
  replace tot := tot.trans (st6.up1 (.inr (by omega)))
  clear hB2
  have hB2 := hB4
  clear hB4
  refine WP.stl 1 ?_
  refine WP.dn ?_
  refine NX.then_n ?_
  refine CP.ret ?_
  refine NX.then_r ?_
  replace hs := Option.some.inj hs
  simp only [Prod.mk.injEq] at hs
  obtain ⟨rfl, rfl, rfl, rfl⟩ := hs
  exact NX.fin (v := .tuple #[AG [[.slice a3 n2 c3], [.int .i64 x8], [.int .i64 x9]], .int .u64 0]) (Res.two rfl (RV.box (agg := true) (size := 3) (rs := [[.slice a3 n2 c3], [.int .i64 x8], [.int .i64 x9]]) hB2 (by kernel_rfl) (by kernel_rfl) (by kernel_rfl) (by kernel_rfl)) (RV.tmp (by kernel_rfl))) tot htL ⟨a3, n2, c3, rfl, hR3⟩
 replace hs := of_if_f hs h4
 refine CP.skip ?_
 refine NX.then_n ?_
 refine CP.seqR ?_
 refine WP.stl 1 ?_
 refine WP.loadB (v := .int .i64 x1) hB1 (by kernel_rfl) (by kernel_rfl) ?_
 refine WP.stl 3 ?_
 refine WP.storeB (ty := 3) (off := 1) (v := .int .i64 (IntKind.i64.wrap (x1 + x5))) hB1 [[.int .i64 (IntKind.i64.wrap (x1 + x5))]] [1] (by kernel_rfl) (by kernel_rfl) rfl (by kernel_rfl) [[.slice a1 n1 c1], [.int .i64 (IntKind.i64.wrap (x1 + x5))], [.int .i64 x2]] (by kernel_rfl) (.one rfl .nil) ?_
 intro g7 st7 hB5
 replace hR1 := hR1.mono st7 (WL.no1 (by omega))
 replace hB2 := hB2.mono st7 (WL.no1 (by omega))
 replace tot := tot.trans (st7.up1 (.inr (by omega)))
 clear hB1
 have hB1 := hB5
 clear hB5
 refine WP.dn ?_
 refine NX.then_n ?_
 refine CP.seqR ?_
 refine WP.loadB (v := AG [[.slice a1 n1 c1], [.int .i64 (IntKind.i64.wrap (x1 + x5))], [.int .i64 x2]]) hB1 (by kernel_rfl) (by kernel_rfl) ?_
 refine WP.stl 1 ?_
 refine WP.storeB (ty := 115) (off := 0) (v := AG [[.slice a1 n1 c1], [.int .i64 (IntKind.i64.wrap (x1 + x5))], [.int .i64 x2]]) hB2 [[.slice a1 n1 c1], [.int .i64 (IntKind.i64.wrap (x1 + x5))], [.int .i64 x2]] [1, 1, 1] (by kernel_rfl) (by kernel_rfl) rfl (by kernel_rfl) [[.slice a1 n1 c1], [.int .i64 (IntKind.i64.wrap (x1 + x5))], [.int .i64 x2]] (by kernel_rfl) (.one rfl (.one rfl (.one rfl .nil))) ?_
 intro g8 st8 hB6
 replace hB1 := hB1.mono st8 (WL.no1 (by omega))
 replace hR1 := hR1.mono st8 (WL.no1 (by omega))
 replace tot := tot.trans (st8.up1 (.inr (by omega)))
 clear hB2
 have hB2 := hB6
 clear hB6
 refine WP.stl 1 ?_
 refine WP.dn ?_
 refine NX.then_n ?_
 refine CP.ret ?_
 replace hs := Option.some.inj hs
 simp only [Prod.mk.injEq] at hs
 obtain ⟨rfl, rfl, rfl, rfl⟩ := hs
 exact NX.fin (v := .tuple #[AG [[.slice a1 n1 c1], [.int .i64 (IntKind.i64.wrap (x1 + x5))], [.int .i64 x2]], .int .u64 x4]) (Res.two rfl (RV.box (agg := true) (size := 3) (rs := [[.slice a1 n1 c1], [.int .i64 (IntKind.i64.wrap (x1 + x5))], [.int .i64 x2]]) hB2 (by kernel_rfl) (by kernel_rfl) (by kernel_rfl) (by kernel_rfl)) (RV.tmp (by kernel_rfl))) tot htL ⟨a1, n1, c1, rfl, hR1⟩
def F.baizeref01_Some.c1 (l1 : List Int) (x1 : Int) (x2 : Int) (l2 : List Int) (x4 : Int) (x5 : Int) (x6 : Int) (x9 : Int) : Option ((List Int) × Int × Int × (List Int)) := (if decide (x6 > (IntKind.u64.wrap x9)) = true then ((F.baizeref01_Fail l1 x1 x2 2).bind fun (l4, x10, x11) => (some (l4, x10, x11, []))) else (if decide (x6 > (IntKind.u64.wrap (IntKind.i64.wrap ((l2.length : Int) - x4)))) = true then ((F.baizeref01_Fail l1 x1 x2 4).bind fun (l5, x12, x13) => (some (l5, x12, x13, []))) else (if (0 : Int) ≤ x4 ∧ x4 ≤ (IntKind.i64.wrap (x4 + (IntKind.i64.wrap x6))) ∧ (IntKind.i64.wrap (x4 + (IntKind.i64.wrap x6))) ≤ (l2.length : Int) then (if ([] : List Int).length + (sliceI l2 x4 (IntKind.i64.wrap (x4 + (IntKind.i64.wrap x6)))).length ≤ 140737488355328 then (some (l2, (IntKind.i64.wrap (x4 + (IntKind.i64.wrap x6))), x5, (([] : List Int) ++ (sliceI l2 x4 (IntKind.i64.wrap (x4 + (IntKind.i64.wrap x6))))))) else none) else none)))
def F.baizeref01_Some (l1 : List Int) (x1 : Int) (x2 : Int) (x3 : Int) : Option ((List Int) × Int × Int × (List Int)) := (if (x2 != 0) = true then (some (l1, x1, x2, [])) else ((F.baizeref01_Read l1 x1 x2 18446744073709551615).bind fun (l2, x4, x5, x6) => (if (x5 != 0) = true then ((F.baizeref01_Fail l1 x1 x2 x5).bind fun (l3, x7, x8) => (some (l3, x7, x8, []))) else (if decide (x3 < 0) = true then (F.baizeref01_Some.c1 l1 x1 x2 l2 x4 x5 x6 0) else (F.baizeref01_Some.c1 l1 x1 x2 l2 x4 x5 x6 x3)))))
theorem P.baizeref01_Some (g0 : GW) (r0 : Nat) (l1 : List Int) (x1 : Int) (x2 : Int) (x3 : Int) (a1 : Option Addr) (n1 : Nat) (c1 : Nat) (hR1 : RdS (Kd.int .u8) g0 5 a1 n1 c1 l1) (o1 : List Int) (o2 : Int) (o3 : Int) (o4 : List Int) (hs : F.baizeref01_Some l1 x1 x2 x3 = some (o1, o2, o3, o4)) :
  Calls Try.prog 95 #[AG [[.slice a1 n1 c1], [.int .i64 x1], [.int .i64 x2]], .int .i64 x3] g0.w (Ret NoM g0 fun v g => ∃ (a_1 : Option Addr) (n_1 : Nat) (c_1 : Nat) (a_4 : Option Addr) (n_4 : Nat) (c_4 : Nat), v = .tuple #[AG [[.slice a_1 n_1 c_1], [.int .i64 o2], [.int .i64 o3]], .slice a_4 n_4 c_4] ∧ RdS (Kd.int .u8) g 5 a_1 n_1 c_1 o1 ∧ OwnS (Kd.int .u8) g r0 5 a_4 n_4 c_4 o4) := by
 refine calls_of (args := [AG [[.slice a1 n1 c1], [.int .i64 x1], [.int .i64 x2]], .int .i64 x3]) Try.func95 rfl (r0 + 0) ?_
 intro t ht htL
 refine ⟨_, rfl, ?_⟩
 refine CP.refr 64 [(0, AG [[.slice a1 n1 c1], [.int .i64 x1], [.int .i64 x2]]), (1, .int .i64 x3)] (by kernel_rfl) (by kernel_rfl) ?_
 intro ds
 have tot : Step (fun l => NoM l ∨ t ≤ l) g0 g0 := Step.refl _ _
 unfold F.baizeref01_Some at hs
 refine CP.seqR ?_
 refine WP.alloc (T := 115) (t + 1) [[.slice a1 n1 c1], [.int .i64 x1], [.int .i64 x2]] [1, 1, 1] (by kernel_rfl) rfl ?_
 intro g1 b1 st1 hB1
 replace hR1 := hR1.mono st1 (fun x => x)
 replace tot := tot.trans st1.pure
 refine WP.alloc (T := 115) (t + 2) [[.slice none 0 0], [.int .i64 0], [.int .i64 0]] [1, 1, 1] (by kernel_rfl) rfl ?_
 intro g2 b2 st2 hB2
 replace hR1 := hR1.mono st2 (fun x => x)
 replace hB1 := hB1.mono st2 (fun x => x)
 replace tot := tot.trans st2.pure
 refine WP.stl 1 ?_
 refine WP.dn ?_
 refine NX.then_n ?_
 refine CP.seq ?_
 refine CP.seqR ?_
 refine WP.stl 1 ?_
 refine WP.loadB (v := .int .i64 x2) hB1 (by kernel_rfl) (by kernel_rfl) ?_
 refine WP.stl 1 ?_
 refine WP.dn ?_
 refine NX.then_n ?_
 refine CP.cond (b := (x2 != 0)) (by kernel_rfl) (fun h1 => ?_) (fun h1 => ?_)
 ·replace hs := of_if_t hs h1
  refine CP.seqR ?_
  refine WP.loadB (v := AG [[.slice a1 n1 c1], [.int .i64 x1], [.int .i64 x2]]) hB1 (by kernel_rfl) (by kernel_rfl) ?_
  refine WP.storeB (ty := 115) (off := 0) (v := AG [[.slice a1 n1 c1], [.int .i64 x1], [.int .i64 x2]]) hB2 [[.slice a1 n1 c1], [.int .i64 x1], [.int .i64 x2]] [1, 1, 1] (by kernel_rfl) (by kernel_rfl) rfl (by kernel_rfl) [[.slice a1 n1 c1], [.int .i64 x1], [.int .i64 x2]] (by kernel_rfl) (.one rfl (.one rfl (.one rfl .nil))) ?_
  intro g3 st3 hB3
  replace hB1 := hB1.mono st3 (WL.no1 (by omega))
  replace hR1 := hR1.mono st3 (WL.no1 (by omega))
  replace tot := tot.trans (st3.up1 (.inr (by omega)))
  clear hB2
  have hB2 := hB3
  clear hB3
  refine WP.stl 1 ?_
  refine WP.dn ?_
  refine NX.then_n ?_
  refine CP.ret ?_
  refine NX.then_r ?_
  replace hs := Option.some.inj hs
  simp only [Prod.mk.injEq] at hs
  obtain ⟨rfl, rfl, rfl, rfl⟩ := hs
  exact NX.fin (v := .tuple #[AG [[.slice a1 n1 c1], [.int .i64 x1], [.int .i64 x2]], .slice none 0 0]) (Res.two rfl (RV.box (agg := true) (size := 3) (rs := [[.slice a1 n1 c1], [.int .i64 x1], [.int .i64 x2]]) hB2 (by kernel_rfl) (by kernel_rfl) (by kernel_rfl) (by kernel_rfl)) (RV.tmp (by kernel_rfl))) tot htL ⟨a1, n1, c1, none, 0, 0, rfl, hR1, (OwnS.nil _ _ _ _)⟩
 replace hs := of_if_f hs h1
 refine CP.skip ?_
 refine NX.then_n ?_
 refine CP.seqR ?_
 refine WP.loadB (v := AG [[.slice a1 n1 c1], [.int .i64 x1], [.int .i64 x2]]) hB1 (by kernel_rfl) (by kernel_rfl) ?_
 replace hs := Option.bind_eq_some_iff.1 hs
 obtain ⟨⟨l2, x4, x5, x6⟩, hk1, hs⟩ := hs
 dsimp only at hs
 have hcal1 := P.baizeref01_Read g2 l1 x1 x2 18446744073709551615 a1 n1 c1 hR1 l2 x4 x5 x6 hk1
 refine WP.callC hcal1 (by kernel_rfl) ?_
 rintro _ g4 st4 ⟨a2, n2, c2, rfl, hR2⟩
 replace hB1 := hB1.mono st4 (fun x => x)
 replace hR1 := hR1.mono st4 (fun x => x)
 replace hB2 := hB2.mono st4 (fun x => x)
 replace tot := tot.trans st4.pure
 refine WP.stl 3 ?_
 refine WP.alloc (T := 115) (t + 3) [[.slice none 0 0], [.int .i64 0], [.int .i64 0]] [1, 1, 1] (by kernel_rfl) rfl ?_
 intro g5 b3 st5 hB4
 replace hB1 := hB1.mono st5 (fun x => x)
 replace hR1 := hR1.mono st5 (fun x => x)
 replace hB2 := hB2.mono st5 (fun x => x)
 replace hR2 := hR2.mono st5 (fun x => x)
 replace tot := tot.trans st5.pure
 refine WP.storeB (ty := 115) (off := 0) (v := AG [[.slice a2 n2 c2], [.int .i64 x4], [.int .i64 x5]]) hB4 [[.slice a2 n2 c2], [.int .i64 x4], [.int .i64 x5]] [1, 1, 1] (by kernel_rfl) (by kernel_rfl) rfl (by kernel_rfl) [[.slice a2 n2 c2], [.int .i64 x4], [.int .i64 x5]] (by kernel_rfl) (.one rfl (.one rfl (.one rfl .nil))) ?_
 intro g6 st6 hB5
 replace hB1 := hB1.mono st6 (WL.no1 (by omega))
 replace hR1 := hR1.mono st6 (WL.no1 (by omega))
 replace hB2 := hB2.mono st6 (WL.no1 (by omega))
 replace hR2 := hR2.mono st6 (WL.no1 (by omega))
 replace tot := tot.trans (st6.up1 (.inr (by omega)))
 clear hB4
 have hB4 := hB5
 clear hB5
 refine WP.stl 1 ?_
 refine WP.dn ?_
 refine NX.then_n ?_
 refine CP.refr 64 [(1, .int .i64 x3), (2, .pointer (some ⟨b1, 0, none⟩)), (4, .pointer (some ⟨b2, 0, none⟩)), (6, .pointer (some ⟨b3, 0, none⟩)), (7, .int .u64 x6)] (by kernel_rfl) (by kernel_rfl) ?_
 clear ds
 intro ds
 refine CP.seq ?_
 refine CP.seqR ?_
 refine WP.stl 1 ?_
 refine WP.loadB (v := .int .i64 x5) hB4 (by kernel_rfl) (by kernel_rfl) ?_
 refine WP.stl 1 ?_
 refine WP.dn ?_
 refine NX.then_n ?_
 refine CP.cond (b := (x5 != 0)) (by kernel_rfl) (fun h2 => ?_) (fun h2 => ?_)
 ·replace hs := of_if_t hs h2
  refine CP.seqR ?_
  refine WP.loadB (v := AG [[.slice a1 n1 c1], [.int .i64 x1], [.int .i64 x2]]) hB1 (by kernel_rfl) (by kernel_rfl) ?_
  refine WP.stl 1 ?_
  refine WP.loadB (v := .int .i64 x5) hB4 (by kernel_rfl) (by kernel_rfl) ?_
  replace hs := Option.bind_eq_some_iff.1 hs
  obtain ⟨⟨l3, x7, x8⟩, hk2, hs⟩ := hs
  dsimp only at hs
  have hcal2 := P.baizeref01_Fail g6 l1 x1 x2 x5 a1 n1 c1 hR1 l3 x7 x8 hk2
  refine WP.callC hcal2 (by kernel_rfl) ?_
  rintro _ g7 st7 ⟨a3, n3, c3, rfl, hR3⟩
  replace hB1 := hB1.mono st7 (fun x => x)
  replace hR1 := hR1.mono st7 (fun x => x)
  replace hB2 := hB2.mono st7 (fun x => x)
  replace hB4 := hB4.mono st7 (fun x => x)
  replace hR2 := hR2.mono st7 (fun x => x)
  replace tot := tot.trans st7.pure
  refine WP.storeB (ty := 115) (off := 0) (v := AG [[.slice a3 n3 c3], [.int .i64 x7], [.int .i64 x8]]) hB2 [[.slice a3 n3 c3], [.int .i64 x7], [.int .i64 x8]] [1, 1, 1] (by kernel_rfl) (by kernel_rfl) rfl (by kernel_rfl) [[.slice a3 n3 c3], [.int .i64 x7], [.int .i64 x8]] (by kernel_rfl) (.one rfl (.one rfl (.one rfl .nil))) ?_
  intro g8 st8 hB6
  replace hB1 := hB1.mono st8 (WL.no1 (by omega))
  replace hR1 := hR1.mono st8 (WL.no1 (by omega))
  replace hR3 := hR3.mono st8 (WL.no1 (by omega))
  replace hB4 := hB4.mono st8 (WL.no1 (by omega))
  replace hR2 := hR2.mono st8 (WL.no1 (by omega))
  replace tot := tot.trans (st8.up1 (.inr (by omega)))
  clear hB2
  have hB2 := hB6
  clear hB6
  refine WP.stl 1 ?_
  refine WP.dn ?_
  refine NX.then_n ?_
  refine CP.ret ?_
  refine NX.then_r ?_
  replace hs := Option.some.inj hs
  simp only [Prod.mk.injEq] at hs
  obtain ⟨rfl, rfl, rfl, rfl⟩ := hs
  exact NX.fin (v := .tuple #[AG [[.slice a3 n3 c3], [.int .i64 x7], [.int .i64 x8]], .slice none 0 0]) (Res.two rfl (RV.box (agg := true) (size := 3) (rs := [[.slice a3 n3 c3], [.int .i64 x7], [.int .i64 x8]]) hB2 (by kernel_rfl) (by kernel_rfl) (by kernel_rfl) (by kernel_rfl)) (RV.tmp (by kernel_rfl))) tot htL ⟨a3, n3, c3, none, 0, 0, rfl, hR3, (OwnS.nil _ _ _ _)⟩
 replace hs := of_if_f hs h2
 refine CP.skip ?_
 refine NX.then_n ?_
 refine CP.cut (fun tm g => ∃ (x9 : Int), Fr 64 [(1, .int .i64 x9), (2, .pointer (some ⟨b1, 0, none⟩)), (4, .pointer (some ⟨b2, 0, none⟩)), (6, .pointer (some ⟨b3, 0, none⟩)), (7, .int .u64 x6)] tm ∧ Step (fun l => NoM l ∨ t ≤ l) g0 g ∧ Box g (t + 1) b1 115 [[.slice a1 n1 c1], [.int .i64 x1], [.int .i64 x2]] [1, 1, 1] ∧ RdS (Kd.int .u8) g 5 a1 n1 c1 l1 ∧ Box g (t + 2) b2 115 [[.slice none 0 0], [.int .i64 0], [.int .i64 0]] [1, 1, 1] ∧ Box g (t + 3) b3 115 [[.slice a2 n2 c2], [.int .i64 x4], [.int .i64 x5]] [1, 1, 1] ∧ RdS (Kd.int .u8) g 5 a2 n2 c2 l2 ∧ (F.baizeref01_Some.c1 l1 x1 x2 l2 x4 x5 x6 x9) = some (o1, o2, o3, o4)) ?_ ?_
 ·refine CP.seqR ?_
  refine WP.stl 2 ?_
  refine WP.dn ?_
  refine NX.then_n ?_
  refine CP.cond (b := decide (x3 < 0)) (by kernel_rfl) (fun h6 => ?_) (fun h6 => ?_)
  ·replace hs := of_if_t hs h6
   refine CP.region ?_
   refine WP.stl 1 ?_
   refine WP.dn ?_
   refine NX.post ?_
   exact ⟨0, ⟨by kernel_rfl, by kernel_rfl⟩, tot, hB1, hR1, hB2, hB4, hR2, hs⟩
  replace hs := of_if_f hs h6
  refine CP.skip ?_
  refine NX.post ?_
  exact ⟨x3, ⟨by kernel_rfl, by kernel_rfl⟩, tot, hB1, hR1, hB2, hB4, hR2, hs⟩
 clear tot hs hB1 hR1 hB2 hB4 hR2
 rintro tm g ⟨x9, hF, tot, hB1, hR1, hB2, hB4, hR2, hs⟩
 clear ds
 obtain ⟨ds, rfl⟩ := hF.open
 clear hF
 unfold F.baizeref01_Some.c1 at hs
 refine CP.seq ?_
 refine CP.seqR ?_
 refine WP.stl 4 ?_
 refine WP.dn ?_
 refine NX.then_n ?_
 refine CP.cond (b := decide (x6 > (IntKind.u64.wrap x9))) (by kernel_rfl) (fun h4 => ?_) (fun h4 => ?_)
 ·replace hs := of_if_t hs h4
  refine CP.seqR ?_
  refine WP.loadB (v := AG [[.slice a1 n1 c1], [.int .i64 x1], [.int .i64 x2]]) hB1 (by kernel_rfl) (by kernel_rfl) ?_
  replace hs := Option.bind_eq_some_iff.1 hs
  obtain ⟨⟨l4, x10, x11⟩, hk3, hs⟩ := hs
  dsimp only at hs
  have hcal3 := P.baizeref01_Fail g l1 x1 x2 2 a1 n1 c1 hR1 l4 x10 x11 hk3
  refine WP.callC hcal3 (by kernel_rfl) ?_
  rintro _ g9 st9 ⟨a4, n4, c4, rfl, hR4⟩
  replace hB1 := hB1.mono st9 (fun x => x)
  replace hR1 := hR1.mono st9 (fun x => x)
  replace hB2 := hB2.mono st9 (fun x => x)
  replace hB4 := hB4.mono st9 (fun x => x)
  replace hR2 := hR2.mono st9 (fun x => x)
  replace tot := tot.trans st9.pure
  refine WP.storeB (ty := 115) (off := 0) (v := AG [[.slice a4 n4 c4], [.int .i64 x10], [.int .i64 x11]]) hB2 [[.slice a4 n4 c4], [.int .i64 x10], [.int .i64 x11]] [1, 1, 1] (by kernel_rfl) (by kernel_rfl) rfl (by kernel_rfl) [[.slice a4 n4 c4], [.int .i64 x10], [.int .i64 x11]] (by kernel_rfl) (.one rfl (.one rfl (.one rfl .nil))) ?_
  intro g10 st10 hB7
  replace hB1 := hB1.mono st10 (WL.no1 (by omega))
  replace hR1 := hR1.mono st10 (WL.no1 (by omega))
  replace hR4 := hR4.mono st10 (WL.no1 (by omega))
  replace hB4 := hB4.mono st10 (WL.no1 (by omega))
  replace hR2 := hR2.mono st10 (WL.no1 (by omega))
  replace tot := tot.trans (st10.up1 (.inr (by omega)))
  clear hB2
  have hB2 := hB7
  clear hB7
  refine WP.stl 1 ?_
  refine WP.dn ?_
  refine NX.then_n ?_
  refine CP.ret ?_
  refine NX.then_r ?_
  replace hs := Option.some.inj hs
  simp only [Prod.mk.injEq] at hs
  obtain ⟨rfl, rfl, rfl, rfl⟩ := hs
  exact NX.fin (v := .tuple #[AG [[.slice a4 n4 c4], [.int .i64 x10], [.int .i64 x11]], .slice none 0 0]) (Res.two rfl (RV.box (agg := true) (size := 3) (rs := [[.slice a4 n4 c4], [.int .i64 x10], [.int .i64 x11]]) hB2 (by kernel_rfl) (by kernel_rfl) (by kernel_rfl) (by kernel_rfl)) (RV.tmp (by kernel_rfl))) tot htL ⟨a4, n4, c4, none, 0, 0, rfl, hR4, (OwnS.nil _ _ _ _)⟩
 replace hs := of_if_f hs h4
 refine CP.skip ?_
 refine NX.then_n ?_
 refine CP.seq ?_
 refine CP.seqR ?_
 refine WP.stl 2 ?_
 refine WP.loadB (v := .slice a2 n2 c2) hB4 (by kernel_rfl) (by kernel_rfl) ?_
 refine WP.len (a := a2) (cp := c2) hR2.len (by kernel_rfl) ?_
 refine WP.stl 1 ?_
 refine WP.loadB (v := .int .i64 x4) hB4 (by kernel_rfl) (by kernel_rfl) ?_
 refine WP.stl 3 ?_
 refine WP.dn ?_
 refine NX.then_n ?_
 refine CP.refr 64 [(2, .pointer (some ⟨b1, 0, none⟩)), (4, .pointer (some ⟨b2, 0, none⟩)), (6, .pointer (some ⟨b3, 0, none⟩)), (7, .int .u64 x6), (41, .bool (decide (x6 > (IntKind.u64.wrap (IntKind.i64.wrap ((l2.length : Int) - x4))))))] (by kernel_rfl) (by kernel_rfl) ?_
 clear ds
 intro ds
 refine CP.cond (b := decide (x6 > (IntKind.u64.wrap (IntKind.i64.wrap ((l2.length : Int) - x4))))) (by kernel_rfl) (fun h5 => ?_) (fun h5 => ?_)
 ·replace hs := of_if_t hs h5
  refine CP.seqR ?_
  refine WP.loadB (v := AG [[.slice a1 n1 c1], [.int .i64 x1], [.int .i64 x2]]) hB1 (by kernel_rfl) (by kernel_rfl) ?_
  replace hs := Option.bind_eq_some_iff.1 hs
  obtain ⟨⟨l5, x12, x13⟩, hk4, hs⟩ := hs
  dsimp only at hs
  have hcal4 := P.baizeref01_Fail g l1 x1 x2 4 a1 n1 c1 hR1 l5 x12 x13 hk4
  refine WP.callC hcal4 (by kernel_rfl) ?_
  rintro _ g11 st11 ⟨a5, n5, c5, rfl, hR5⟩
  replace hB1 := hB1.mono st11 (fun x => x)
  replace hR1 := hR1.mono st11 (fun x => x)
  replace hB2 := hB2.mono st11 (fun x => x)
  replace hB4 := hB4.mono st11 (fun x => x)
  replace hR2 := hR2.mono st11 (fun x => x)
  replace tot := tot.trans st11.pure
  refine WP.storeB (ty := 115) (off := 0) (v := AG [[.slice a5 n5 c5], [.int .i64 x12], [.int .i64 x13]]) hB2 [[.slice a5 n5 c5], [.int .i64 x12], [.int .i64 x13]] [1, 1, 1] (by kernel_rfl) (by kernel_rfl) rfl (by kernel_rfl) [[.slice a5 n5 c5], [.int .i64 x12], [.int .i64 x13]] (by kernel_rfl) (.one rfl (.one rfl (.one rfl .nil))) ?_
  intro g12 st12 hB8
  replace hB1 := hB1.mono st12 (WL.no1 (by omega))
  replace hR1 := hR1.mono st12 (WL.no1 (by omega))
  replace hR5 := hR5.mono st12 (WL.no1 (by omega))
  replace hB4 := hB4.mono st12 (WL.no1 (by omega))
  replace hR2 := hR2.mono st12 (WL.no1 (by omega))
  replace tot := tot.trans (st12.up1 (.inr (by omega)))
  clear hB2
  have hB2 := hB8
  clear hB8
  refine WP.stl 1 ?_
  refine WP.dn ?_
  refine NX.then_n ?_
  refine CP.ret ?_
  refine NX.then_r ?_
  replace hs := Option.some.inj hs
  simp only [Prod.mk.injEq] at hs
  obtain ⟨rfl, rfl, rfl, rfl⟩ := hs
  exact NX.fin (v := .tuple #[AG [[.slice a5 n5 c5], [.int .i64 x12], [.int .i64 x13]], .slice none 0 0]) (Res.two rfl (RV.box (agg := true) (size := 3) (rs := [[.slice a5 n5 c5], [.int .i64 x12], [.int .i64 x13]]) hB2 (by kernel_rfl) (by kernel_rfl) (by kernel_rfl) (by kernel_rfl)) (RV.tmp (by kernel_rfl))) tot htL ⟨a5, n5, c5, none, 0, 0, rfl, hR5, (OwnS.nil _ _ _ _)⟩
 replace hs := of_if_f hs h5
 refine CP.skip ?_
 refine NX.then_n ?_
 refine CP.seqR ?_
 refine WP.mkSl (kd := (Kd.int .u8)) (t := 64) (e := 5) (bytes := 1) (t + 4) [] ([] : List Int) (by kernel_rfl) (by kernel_rfl) (Nat.le_of_ble_eq_true rfl) (Nat.le_of_ble_eq_true rfl) all_nil (rfl) rfl ?_
 intro g13 a6 st13 hR6
 replace hB2 := hB2.mono st13 (fun x => x)
 replace hB4 := hB4.mono st13 (fun x => x)
 replace hR2 := hR2.mono st13 (fun x => x)
 replace tot := tot.trans st13.pure
 refine WP.stl 1 ?_
 refine WP.loadB (v := .slice a2 n2 c2) hB4 (by kernel_rfl) (by kernel_rfl) ?_
 refine WP.stl 1 ?_
 refine WP.loadB (v := .int .i64 x4) hB4 (by kernel_rfl) (by kernel_rfl) ?_
 refine WP.stl 1 ?_
 refine WP.loadB (v := .int .i64 x4) hB4 (by kernel_rfl) (by kernel_rfl) ?_
 refine WP.stl 3 ?_
 by_cases hc1 : (0 : Int) ≤ x4 ∧ x4 ≤ (IntKind.i64.wrap (x4 + (IntKind.i64.wrap x6))) ∧ (IntKind.i64.wrap (x4 + (IntKind.i64.wrap x6))) ≤ (l2.length : Int)
 case neg => rw [if_neg hc1] at hs; cases hs
 replace hs := of_if_p hs hc1
 refine WP.sliceR (lo := some (.int .i64 x4)) (hi := some (.int .i64 (IntKind.i64.wrap (x4 + (IntKind.i64.wrap x6))))) hR2 x4 (IntKind.i64.wrap (x4 + (IntKind.i64.wrap x6))) (by kernel_rfl) (.inr ⟨_, rfl⟩) (.inr ⟨_, rfl⟩) hc1 ?_
 intro a7 c6 hR7
 by_cases hc2 : ([] : List Int).length + (sliceI l2 x4 (IntKind.i64.wrap (x4 + (IntKind.i64.wrap x6)))).length ≤ 140737488355328
 case neg => rw [if_neg hc2] at hs; cases hs
 replace hs := of_if_p hs hc2
 refine WP.append (kd := (Kd.int .u8)) (t := 64) (e := 5) (bytes := 1) (a2 := a7) (c2 := c6) hR6 hR7.src hR7.len (by kernel_rfl) (by kernel_rfl) (by omega) (by simp only [maxLen]; omega) (by omega) ?_
 intro g14 a8 c7 st14 hR8
 replace hB2 := hB2.mono st14 (WL.no1 (by omega))
 replace hB4 := hB4.mono st14 (WL.no1 (by omega))
 replace hR2 := hR2.mono st14 (WL.no1 (by omega))
 replace hR7 := hR7.mono st14 (WL.no1 (by omega))
 replace tot := tot.trans (st14.up1 (.inr (by omega)))
 refine WP.stl 1 ?_
 refine WP.dn ?_
 refine NX.then_n ?_
 refine CP.refr 64 [(4, .pointer (some ⟨b2, 0, none⟩)), (6, .pointer (some ⟨b3, 0, none⟩)), (7, .int .u64 x6), (8, .slice a8 (0 + ((IntKind.i64.wrap (x4 + (IntKind.i64.wrap x6))).toNat - x4.toNat)) c7)] (by kernel_rfl) (by kernel_rfl) ?_
 clear ds
 intro ds
 refine CP.seqR ?_
 refine WP.stl 1 ?_
 refine WP.loadB (v := .int .i64 x4) hB4 (by kernel_rfl) (by kernel_rfl) ?_
 refine WP.stl 4 ?_
 refine WP.storeB (ty := 3) (off := 1) (v := .int .i64 (IntKind.i64.wrap (x4 + (IntKind.i64.wrap x6)))) hB4 [[.int .i64 (IntKind.i64.wrap (x4 + (IntKind.i64.wrap x6)))]] [1] (by kernel_rfl) (by kernel_rfl) rfl (by kernel_rfl) [[.slice a2 n2 c2], [.int .i64 (IntKind.i64.wrap (x4 + (IntKind.i64.wrap x6)))], [.int .i64 x5]] (by kernel_rfl) (.one rfl .nil) ?_
 intro g15 st15 hB9
 replace hB2 := hB2.mono st15 (WL.no1 (by omega))
 replace hR2 := hR2.mono st15 (WL.no1 (by omega))
 replace hR8 := hR8.mono st15 (WL.no1 (by omega)) (WL.no1 (by omega))
 replace tot := tot.trans (st15.up1 (.inr (by omega)))
 clear hB4
 have hB4 := hB9
 clear hB9
 refine WP.dn ?_
 refine NX.then_n ?_
 refine CP.seqR ?_
 refine WP.loadB (v := AG [[.slice a2 n2 c2], [.int .i64 (IntKind.i64.wrap (x4 + (IntKind.i64.wrap x6)))], [.int .i64 x5]]) hB4 (by kernel_rfl) (by kernel_rfl) ?_
 refine WP.stl 1 ?_
 refine WP.storeB (ty := 115) (off := 0) (v := AG [[.slice a2 n2 c2], [.int .i64 (IntKind.i64.wrap (x4 + (IntKind.i64.wrap x6)))], [.int .i64 x5]]) hB2 [[.slice a2 n2 c2], [.int .i64 (IntKind.i64.wrap (x4 + (IntKind.i64.wrap x6)))], [.int .i64 x5]] [1, 1, 1] (by kernel_rfl) (by kernel_rfl) rfl (by kernel_rfl) [[.slice a2 n2 c2], [.int .i64 (IntKind.i64.wrap (x4 + (IntKind.i64.wrap x6)))], [.int .i64 x5]] (by kernel_rfl) (.one rfl (.one rfl (.one rfl .nil))) ?_
 intro g16 st16 hB10
 replace hR2 := hR2.mono st16 (WL.no1 (by omega))
 replace hB4 := hB4.mono st16 (WL.no1 (by omega))
 replace hR8 := hR8.mono st16 (WL.no1 (by omega)) (WL.no1 (by omega))
 replace tot := tot.trans (st16.up1 (.inr (by omega)))
 clear hB2
 have hB2 := hB10
 clear hB10
 refine WP.stl 1 ?_
 refine WP.dn ?_
 refine NX.then_n ?_
 refine CP.ret ?_
 obtain ⟨g17, hw1, st17, hnew⟩ := hR8.relab (by omega) r0
 refine NX.regw hw1 ?_
 replace hB2 := hB2.mono st17 (WL.no1 (by omega))
 replace hR2 := hR2.mono st17 (WL.no1 (by omega))
 replace tot := tot.trans (st17.up1 (.inr (by omega)))
 clear hR8
 have hR8 := hnew
 clear hnew
 replace hs := Option.some.inj hs
 simp only [Prod.mk.injEq] at hs
 obtain ⟨rfl, rfl, rfl, rfl⟩ := hs
 exact NX.fin (v := .tuple #[AG [[.slice a2 n2 c2], [.int .i64 (IntKind.i64.wrap (x4 + (IntKind.i64.wrap x6)))], [.int .i64 x5]], .slice a8 (0 + ((IntKind.i64.wrap (x4 + (IntKind.i64.wrap x6))).toNat - x4.toNat)) c7]) (Res.two rfl (RV.box (agg := true) (size := 3) (rs := [[.slice a2 n2 c2], [.int .i64 (IntKind.i64.wrap (x4 + (IntKind.i64.wrap x6)))], [.int .i64 x5]]) hB2 (by kernel_rfl) (by kernel_rfl) (by kernel_rfl) (by kernel_rfl)) (RV.tmp (by kernel_rfl))) tot htL ⟨a2, n2, c2, a8, (0 + ((IntKind.i64.wrap (x4 + (IntKind.i64.wrap x6))).toNat - x4.toNat)), c7, rfl, hR2, hR8⟩
def F.baizeref47_name.l1 (l2 : List Int) (x3 : Int) (x4 : Int) (l3 : List Int) : Nat → (Arr Int 8) → Int → Option ((List Int) × Int × Int × (Arr Int 8))
 | 0, _, _ => none
 | k + 1, d1, x7 => (if decide (x7 < 8) = true then (if (0 : Int) ≤ x7 ∧ x7 < (l3.length : Int) then (if (0 : Int) ≤ x7 ∧ x7 < (8 : Int) then (F.baizeref47_name.l1 l2 x3 x4 l3 k (aset d1 x7 (getI l3 x7)) (IntKind.i64.wrap (x7 + 1))) else none) else none) else (some (l2, x3, x4, d1)))
def F.baizeref47_name (l1 : List Int) (x1 : Int) (x2 : Int) : Option ((List Int) × Int × Int × (Arr Int 8)) := ((F.baizeref01_Some l1 x1 x2 8).bind fun (l2, x3, x4, l3) => (if (x4 != 0) = true then (some (l2, x3, x4, (zA 8))) else (if ((l3.length : Int) != 8) = true then ((F.baizeref01_Fail l1 x1 x2 3).bind fun (l4, x5, x6) => (some (l4, x5, x6, (zA 8)))) else (F.baizeref47_name.l1 l2 x3 x4 l3 fuel (zA 8) 0))))
theorem P.baizeref47_name (g0 : GW) (l1 : List Int) (x1 : Int) (x2 : Int) (a1 : Option Addr) (n1 : Nat) (c1 : Nat) (hR1 : RdS (Kd.int .u8) g0 5 a1 n1 c1 l1) (o1 : List Int) (o2 : Int) (o3 : Int) (o4 : Arr Int 8) (hs : F.baizeref47_name l1 x1 x2 = some (o1, o2, o3, o4)) :
  Calls Try.prog 69 #[AG [[.slice a1 n1 c1], [.int .i64 x1], [.int .i64 x2]]] g0.w (Ret NoM g0 fun v g => ∃ (a_1 : Option Addr) (n_1 : Nat) (c_1 : Nat), v = .tuple #[AG [[.slice a_1 n_1 c_1], [.int .i64 o2], [.int .i64 o3]], AG [encA .u8 o4]] ∧ RdS (Kd.int .u8) g 5 a_1 n_1 c_1 o1) := by
 refine calls_of (args := [AG [[.slice a1 n1 c1], [.int .i64 x1], [.int .i64 x2]]]) Try.func69 rfl (0) ?_
 intro t ht htL
 refine ⟨_, rfl, ?_⟩
 refine CP.refr 36 [(0, AG [[.slice a1 n1 c1], [.int .i64 x1], [.int .i64 x2]])] (by kernel_rfl) (by kernel_rfl) ?_
 intro ds
 have tot : Step (fun l => NoM l ∨ t ≤ l) g0 g0 := Step.refl _ _
 unfold F.baizeref47_name at hs
 refine CP.seqR ?_
 refine WP.alloc (T := 115) (t + 1) [[.slice a1 n1 c1], [.int .i64 x1], [.int .i64 x2]] [1, 1, 1] (by kernel_rfl) rfl ?_
 intro g1 b1 st1 hB1
 replace hR1 := hR1.mono st1 (fun x => x)
 replace tot := tot.trans st1.pure
 refine WP.alloc (T := 115) (t + 2) [[.slice none 0 0], [.int .i64 0], [.int .i64 0]] [1, 1, 1] (by kernel_rfl) rfl ?_
 intro g2 b2 st2 hB2
 replace hR1 := hR1.mono st2 (fun x => x)
 replace hB1 := hB1.mono st2 (fun x => x)
 replace tot := tot.trans st2.pure
 refine WP.alloc (T := 22) (t + 3) [encA .u8 (zA 8)] [8] (by kernel_rfl) (by simp [len_encA]) ?_
 intro g3 b3 st3 hB3
 replace hR1 := hR1.mono st3 (fun x => x)
 replace hB1 := hB1.mono st3 (fun x => x)
 replace hB2 := hB2.mono st3 (fun x => x)
 replace tot := tot.trans st3.pure
 refine WP.dn ?_
 refine NX.then_n ?_
 refine CP.seqR ?_
 refine WP.alloc (T := 22) (t + 4) [encA .u8 (zA 8)] [8] (by kernel_rfl) (by simp [len_encA]) ?_
 intro g4 b4 st4 hB4
 replace hB1 := hB1.mono st4 (fun x => x)
 replace hR1 := hR1.mono st4 (fun x => x)
 replace hB2 := hB2.mono st4 (fun x => x)
 replace hB3 := hB3.mono st4 (fun x => x)
 replace tot := tot.trans st4.pure
 refine WP.dn ?_
 refine NX.then_n ?_
 refine CP.seqR ?_
 refine WP.loadB (v := AG [[.slice a1 n1 c1], [.int .i64 x1], [.int .i64 x2]]) hB1 (by kernel_rfl) (by kernel_rfl) ?_
 replace hs := Option.bind_eq_some_iff.1 hs
 obtain ⟨⟨l2, x3, x4, l3⟩, hk1, hs⟩ := hs
 dsimp only at hs
 have hcal1 := P.baizeref01_Some g4 (t + 5) l1 x1 x2 8 a1 n1 c1 hR1 l2 x3 x4 l3 hk1
 refine WP.callC hcal1 (by kernel_rfl) ?_
 rintro _ g5 st5 ⟨a2, n2, c2, a3, n3, c3, rfl, hR2, hR3⟩
 replace hB1 := hB1.mono st5 (fun x => x)
 replace hR1 := hR1.mono st5 (fun x => x)
 replace hB2 := hB2.mono st5 (fun x => x)
 replace hB3 := hB3.mono st5 (fun x => x)
 replace hB4 := hB4.mono st5 (fun x => x)
 replace tot := tot.trans st5.pure
 refine WP.stl 3 ?_
 refine WP.alloc (T := 115) (t + 6) [[.slice none 0 0], [.int .i64 0], [.int .i64 0]] [1, 1, 1] (by kernel_rfl) rfl ?_
 intro g6 b5 st6 hB5
 replace hB1 := hB1.mono st6 (fun x => x)
 replace hR1 := hR1.mono st6 (fun x => x)
 replace hB2 := hB2.mono st6 (fun x => x)
 replace hB3 := hB3.mono st6 (fun x => x)
 replace hB4 := hB4.mono st6 (fun x => x)
 replace hR2 := hR2.mono st6 (fun x => x)
 replace hR3 := hR3.mono st6 (fun x => x) (fun x => x)
 replace tot := tot.trans st6.pure
 refine WP.storeB (ty := 115) (off := 0) (v := AG [[.slice a2 n2 c2], [.int .i64 x3], [.int .i64 x4]]) hB5 [[.slice a2 n2 c2], [.int .i64 x3], [.int .i64 x4]] [1, 1, 1] (by kernel_rfl) (by kernel_rfl) rfl (by kernel_rfl) [[.slice a2 n2 c2], [.int .i64 x3], [.int .i64 x4]] (by kernel_rfl) (.one rfl (.one rfl (.one rfl .nil))) ?_
 intro g7 st7 hB6
 replace hB1 := hB1.mono st7 (WL.no1 (by omega))
 replace hR1 := hR1.mono st7 (WL.no1 (by omega))
 replace hB2 := hB2.mono st7 (WL.no1 (by omega))
 replace hB3 := hB3.mono st7 (WL.no1 (by omega))
 replace hB4 := hB4.mono st7 (WL.no1 (by omega))
 replace hR2 := hR2.mono st7 (WL.no1 (by omega))
 replace hR3 := hR3.mono st7 (WL.no1 (by omega)) (WL.no1 (by omega))
 replace tot := tot.trans (st7.up1 (.inr (by omega)))
 clear hB5
 have hB5 := hB6
 clear hB6
 refine WP.stl 1 ?_
 refine WP.dn ?_
 refine NX.then_n ?_
 refine CP.seq ?_
 refine CP.seqR ?_
 refine WP.stl 1 ?_
 refine WP.loadB (v := .int .i64 x4) hB5 (by kernel_rfl) (by kernel_rfl) ?_
 refine WP.stl 1 ?_
 refine WP.dn ?_
 refine NX.then_n ?_
 refine CP.refr 36 [(1, .pointer (some ⟨b1, 0, none⟩)), (2, .pointer (some ⟨b2, 0, none⟩)), (3, .pointer (some ⟨b3, 0, none⟩)), (4, .pointer (some ⟨b4, 0, none⟩)), (5, .pointer (some ⟨b5, 0, none⟩)), (6, .slice a3 n3 c3), (15, .bool (x4 != 0))] (by kernel_rfl) (by kernel_rfl) ?_
 clear ds
 intro ds
 refine CP.cond (b := (x4 != 0)) (by kernel_rfl) (fun h1 => ?_) (fun h1 => ?_)
 ·replace hs := of_if_t hs h1
  refine CP.seq ?_
  refine CP.drawL (by kernel_rfl) [0, 1, 2, 3] [[], [], [0], [0, 1, 2]] [⟨none, [0], [], fun l g => Box g (t + 2) b2 115 [[.slice none 0 0], [.int .i64 0], [.int .i64 0]] [1, 1, 1]⟩, ⟨none, [1], [], fun l g => Box g (t + 3) b3 22 [encA .u8 (zA 8)] [8]⟩, ⟨none, [], [], fun l g => Box g (t + 4) b4 22 [encA .u8 (zA 8)] [8]⟩, ⟨none, [], [], fun l g => Box g (t + 6) b5 115 [[.slice a2 n2 c2], [.int .i64 x3], [.int .i64 x4]] [1, 1, 1]⟩, ⟨some 0, [], [0], fun l g => l.getD 0 undef = AG [[.slice a2 n2 c2], [.int .i64 x3], [.int .i64 x4]]⟩, ⟨some 1, [], [1], fun l g => l.getD 0 undef = AG [encA .u8 (zA 8)]⟩, ⟨some 2, [0], [], fun l g => Box g (t + 2) b2 115 [[.slice a2 n2 c2], [.int .i64 x3], [.int .i64 x4]] [1, 1, 1]⟩, ⟨some 3, [1], [], fun l g => Box g (t + 3) b3 22 [encA .u8 (zA 8)] [8]⟩] [[], [], [0], [1]] [(t + 2), (t + 3)] [] [] (by kernel_rfl) (by simp <;> omega) (by simp <;> omega) ⟨fun _ _ _ _ st h0 hl hj hB2 => (hB2.mono st (hj 0 (by simp) _ rfl)), fun _ _ _ _ st h0 hl hj hB3 => (hB3.mono st (hj 1 (by simp) _ rfl)), fun _ _ _ _ st h0 hl hj hB4 => (hB4.mono st (fun h => absurd (hl _ h) (by simp <;> omega))), fun _ _ _ _ st h0 hl hj hB5 => (hB5.mono st (fun h => absurd (hl _ h) (by simp <;> omega))), fun _ _ _ _ st h0 hl hj e0 => e0, fun _ _ _ _ st h0 hl hj e1 => e1, fun _ _ _ _ st h0 hl hj hB2 => (hB2.mono st (hj 0 (by simp) _ rfl)), fun _ _ _ _ st h0 hl hj hB3 => (hB3.mono st (hj 1 (by simp) _ rfl)), tv⟩ ⟨hB2, hB3, hB4, hB5, tv, tv, tv, tv, tv⟩ (by kernel_rfl) (fun vs => by kernel_rfl) ?_ ?_ ?_
  ·intro j hj; exact absurd hj (by simp)
  ·intro j hj
   have hq : j = 0 ∨ j = 1 ∨ j = 2 ∨ j = 3 := by have h : j < 4 := hj; omega
   rcases hq with rfl | rfl | rfl | rfl
   ·intro vs gq stq hl hf
    obtain ⟨v0, v1, v2, v3, rfl⟩ := len_k4 hl
    have hB5 := (show Box gq (t + 6) b5 115 [[.slice a2 n2 c2], [.int .i64 x3], [.int .i64 x4]] [1, 1, 1] from hf _ (memI 3 rfl) (by kernel_rfl))
    refine WP.loadB (v := AG [[.slice a2 n2 c2], [.int .i64 x3], [.int .i64 x4]]) hB5 (by kernel_rfl) (by kernel_rfl) ?_
    refine WP.dn (Shown.ok (v := AG [[.slice a2 n2 c2], [.int .i64 x3], [.int .i64 x4]]) (by kernel_rfl) (Step.refl _ _) ?_)
    exact ⟨tv, tv, tv, tv, rfl, tv, tv, tv, tv⟩
   ·intro vs gq stq hl hf
    obtain ⟨v0, v1, v2, v3, rfl⟩ := len_k4 hl
    have hB4 := (show Box gq (t + 4) b4 22 [encA .u8 (zA 8)] [8] from hf _ (memI 2 rfl) (by kernel_rfl))
    refine WP.loadB (v := AG [encA .u8 (zA 8)]) hB4 (by kernel_rfl) (by kernel_rfl) ?_
    refine WP.dn (Shown.ok (v := AG [encA .u8 (zA 8)]) (by kernel_rfl) (Step.refl _ _) ?_)
    exact ⟨tv, tv, tv, tv, tv, rfl, tv, tv, tv⟩
   ·intro vs gq stq hl hf
    obtain ⟨v0, v1, v2, v3, rfl⟩ := len_k4 hl
    have hB2 := (show Box gq (t + 2) b2 115 [[.slice none 0 0], [.int .i64 0], [.int .i64 0]] [1, 1, 1] from hf _ (memI 0 rfl) (by kernel_rfl))
    have e0 := (show v0 = AG [[.slice a2 n2 c2], [.int .i64 x3], [.int .i64 x4]] from hf _ (memI 4 rfl) (by kernel_rfl))
    subst e0
    refine WP.storeB (ty := 115) (off := 0) (v := AG [[.slice a2 n2 c2], [.int .i64 x3], [.int .i64 x4]]) hB2 [[.slice a2 n2 c2], [.int .i64 x3], [.int .i64 x4]] [1, 1, 1] (by kernel_rfl) (by kernel_rfl) rfl (by kernel_rfl) [[.slice a2 n2 c2], [.int .i64 x3], [.int .i64 x4]] (by kernel_rfl) (.one rfl (.one rfl (.one rfl .nil))) ?_
    intro g8 st8 hB7
    refine WP.dn (Shown.o (v := undef) st8 ?_)
    exact ⟨tv, tv, tv, tv, tv, tv, hB7, tv, tv⟩
   ·intro vs gq stq hl hf
    obtain ⟨v0, v1, v2, v3, rfl⟩ := len_k4 hl
    have hB3 := (show Box gq (t + 3) b3 22 [encA .u8 (zA 8)] [8] from hf _ (memI 1 rfl) (by kernel_rfl))
    have e1 := (show v1 = AG [encA .u8 (zA 8)] from hf _ (memI 5 rfl) (by kernel_rfl))
    subst e1
    refine WP.storeB (ty := 22) (off := 0) (v := AG [encA .u8 (zA 8)]) hB3 [encA .u8 (zA 8)] [8] (by kernel_rfl) (by kernel_rfl) (by simp [len_encA]) (by kernel_rfl) [encA .u8 (zA 8)] (by kernel_rfl) (.arr .nil) ?_
    intro g9 st9 hB8
    refine WP.dn (Shown.o (v := undef) st9 ?_)
    exact ⟨tv, tv, tv, tv, tv, tv, tv, hB8, tv⟩
  intro vs g10 st10 hl hf
  obtain ⟨v0, v1, v2, v3, rfl⟩ := len_k4 hl
  have hB2 := (show Box g10 (t + 2) b2 115 [[.slice a2 n2 c2], [.int .i64 x3], [.int .i64 x4]] [1, 1, 1] from hf _ (memI 6 rfl) (by kernel_rfl))
  have hB3 := (show Box g10 (t + 3) b3 22 [encA .u8 (zA 8)] [8] from hf _ (memI 7 rfl) (by kernel_rfl))
  replace hR2 := hR2.mono st10 (WL.no2 (by omega) (by omega))
  replace tot := tot.trans (st10.up2 (.inr (by omega)) (.inr (by omega)))
  refine NX.then_n ?_
  refine CP.refr 36 [(2, .pointer (some ⟨b2, 0, none⟩)), (3, .pointer (some ⟨b3, 0, none⟩))] (by kernel_rfl) (by kernel_rfl) ?_
  clear ds
  intro ds
  refine CP.ret ?_
  refine NX.then_r ?_
  replace hs := Option.some.inj hs
  simp only [Prod.mk.injEq] at hs
  obtain ⟨rfl, rfl, rfl, rfl⟩ := hs
  exact NX.fin (v := .tuple #[AG [[.slice a2 n2 c2], [.int .i64 x3], [.int .i64 x4]], AG [encA .u8 (zA 8)]]) (Res.two rfl (RV.box (agg := true) (size := 3) (rs := [[.slice a2 n2 c2], [.int .i64 x3], [.int .i64 x4]]) hB2 (by kernel_rfl) (by kernel_rfl) (by kernel_rfl) (by kernel_rfl)) (RV.box (agg := true) (size := 8) (rs := [encA .u8 (zA 8)]) hB3 (by kernel_rfl) (by kernel_rfl) (by kernel_rfl) (by kernel_rfl))) tot htL ⟨a2, n2, c2, rfl, hR2⟩
 replace hs := of_if_f hs h1
 refine CP.skip ?_
 refine NX.then_n ?_
 refine CP.seq ?_
 refine CP.seqR ?_
 refine WP.stl 1 ?_
 refine WP.len (a := a3) (cp := c3) hR3.len (by kernel_rfl) ?_
 refine WP.stl 1 ?_
 refine WP.dn ?_
 refine NX.then_n ?_
 refine CP.cond (b := ((l3.length : Int) != 8)) (by kernel_rfl) (fun h2 => ?_) (fun h2 => ?_)
 ·replace hs := of_if_t hs h2
  refine CP.seq ?_
  replace hs := Option.bind_eq_some_iff.1 hs
  obtain ⟨⟨l4, x5, x6⟩, hk2, hs⟩ := hs
  dsimp only at hs
  refine CP.drawL (by kernel_rfl) [0, 1, 2, 3, 4] [[], [0], [], [0, 1], [0, 1, 2, 3]] [⟨none, [], [], fun l g => Box g (t + 1) b1 115 [[.slice a1 n1 c1], [.int .i64 x1], [.int .i64 x2]] [1, 1, 1]⟩, ⟨none, [], [], fun l g => RdS (Kd.int .u8) g 5 a1 n1 c1 l1⟩, ⟨none, [0], [], fun l g => Box g (t + 2) b2 115 [[.slice none 0 0], [.int .i64 0], [.int .i64 0]] [1, 1, 1]⟩, ⟨none, [1], [], fun l g => Box g (t + 3) b3 22 [encA .u8 (zA 8)] [8]⟩, ⟨none, [], [], fun l g => Box g (t + 4) b4 22 [encA .u8 (zA 8)] [8]⟩, ⟨some 0, [], [0], fun l g => l.getD 0 undef = AG [[.slice a1 n1 c1], [.int .i64 x1], [.int .i64 x2]]⟩, ⟨some 1, [], [1], fun l g => ∃ (a4 : Option Addr) (c4 : Nat), l.getD 0 undef = AG [[.slice a4 l4.length c4], [.int .i64 x5], [.int .i64 x6]] ∧ RdS (Kd.int .u8) g 5 a4 l4.length c4 l4⟩, ⟨some 2, [], [2], fun l g => l.getD 0 undef = AG [encA .u8 (zA 8)]⟩, ⟨some 3, [0], [1], fun l g => ∃ (a4 : Option Addr) (c4 : Nat), l.getD 0 undef = AG [[.slice a4 l4.length c4], [.int .i64 x5], [.int .i64 x6]] ∧ RdS (Kd.int .u8) g 5 a4 l4.length c4 l4 ∧ Box g (t + 2) b2 115 [[.slice a4 l4.length c4], [.int .i64 x5], [.int .i64 x6]] [1, 1, 1]⟩, ⟨some 4, [1], [], fun l g => Box g (t + 3) b3 22 [encA .u8 (zA 8)] [8]⟩] [[], [], [], [0], [1]] [(t + 2), (t + 3)] [] [] (by kernel_rfl) (by simp <;> omega) (by simp <;> omega) ⟨fun _ _ _ _ st h0 hl hj hB1 => (hB1.mono st (fun h => absurd (hl _ h) (by simp <;> omega))), fun _ _ _ _ st h0 hl hj hR1 => (RdS.mono (e := 5) hR1 st h0), fun _ _ _ _ st h0 hl hj hB2 => (hB2.mono st (hj 0 (by simp) _ rfl)), fun _ _ _ _ st h0 hl hj hB3 => (hB3.mono st (hj 1 (by simp) _ rfl)), fun _ _ _ _ st h0 hl hj hB4 => (hB4.mono st (fun h => absurd (hl _ h) (by simp <;> omega))), fun _ _ _ _ st h0 hl hj e0 => e0, fun _ _ _ _ st h0 hl hj ⟨a4, c4, e1, hR4⟩ => ⟨a4, c4, e1, (RdS.mono (e := 5) hR4 st h0)⟩, fun _ _ _ _ st h0 hl hj e2 => e2, fun _ _ _ _ st h0 hl hj ⟨a4, c4, e1, hR4, hB2⟩ => ⟨a4, c4, e1, (RdS.mono (e := 5) hR4 st h0), (hB2.mono st (hj 0 (by simp) _ rfl))⟩, fun _ _ _ _ st h0 hl hj hB3 => (hB3.mono st (hj 1 (by simp) _ rfl)), tv⟩ ⟨hB1, hR1, hB2, hB3, hB4, tv, tv, tv, tv, tv, tv⟩ (by kernel_rfl) (fun vs => by kernel_rfl) ?_ ?_ ?_
  ·intro j hj; exact absurd hj (by simp)
  ·intro j hj
   have hq : j = 0 ∨ j = 1 ∨ j = 2 ∨ j = 3 ∨ j = 4 := by have h : j < 5 := hj; omega
   rcases hq with rfl | rfl | rfl | rfl | rfl
   ·intro vs gq stq hl hf
    obtain ⟨v0, v1, v2, v3, v4, rfl⟩ := len_k5 hl
    have hB1 := (show Box gq (t + 1) b1 115 [[.slice a1 n1 c1], [.int .i64 x1], [.int .i64 x2]] [1, 1, 1] from hf _ (memI 0 rfl) (by kernel_rfl))
    refine WP.loadB (v := AG [[.slice a1 n1 c1], [.int .i64 x1], [.int .i64 x2]]) hB1 (by kernel_rfl) (by kernel_rfl) ?_
    refine WP.dn (Shown.ok (v := AG [[.slice a1 n1 c1], [.int .i64 x1], [.int .i64 x2]]) (by kernel_rfl) (Step.refl _ _) ?_)
    exact ⟨tv, tv, tv, tv, tv, rfl, tv, tv, tv, tv, tv⟩
   ·intro vs gq stq hl hf
    obtain ⟨v0, v1, v2, v3, v4, rfl⟩ := len_k5 hl
    have hR1 := (show RdS (Kd.int .u8) gq 5 a1 n1 c1 l1 from hf _ (memI 1 rfl) (by kernel_rfl))
    have e0 := (show v0 = AG [[.slice a1 n1 c1], [.int .i64 x1], [.int .i64 x2]] from hf _ (memI 5 rfl) (by kernel_rfl))
    subst e0
    have hcal2 := P.baizeref01_Fail gq l1 x1 x2 3 a1 n1 c1 hR1 l4 x5 x6 hk2
    refine WP.callC hcal2 (by kernel_rfl) ?_
    rintro _ g11 st11 ⟨a4, n4, c4, rfl, hR4⟩
    obtain rfl := hR4.len
    refine WP.dn (Shown.o (v := AG [[.slice a4 l4.length c4], [.int .i64 x5], [.int .i64 x6]]) st11.pure ?_)
    exact ⟨tv, tv, tv, tv, tv, tv, ⟨a4, c4, rfl, hR4⟩, tv, tv, tv, tv⟩
   ·intro vs gq stq hl hf
    obtain ⟨v0, v1, v2, v3, v4, rfl⟩ := len_k5 hl
    have hB4 := (show Box gq (t + 4) b4 22 [encA .u8 (zA 8)] [8] from hf _ (memI 4 rfl) (by kernel_rfl))
    refine WP.loadB (v := AG [encA .u8 (zA 8)]) hB4 (by kernel_rfl) (by kernel_rfl) ?_
    refine WP.dn (Shown.ok (v := AG [encA .u8 (zA 8)]) (by kernel_rfl) (Step.refl _ _) ?_)
    exact ⟨tv, tv, tv, tv, tv, tv, tv, rfl, tv, tv, tv⟩
   ·intro vs gq stq hl hf
    obtain ⟨v0, v1, v2, v3, v4, rfl⟩ := len_k5 hl
    have hB2 := (show Box gq (t + 2) b2 115 [[.slice none 0 0], [.int .i64 0], [.int .i64 0]] [1, 1, 1] from hf _ (memI 2 rfl) (by kernel_rfl))
    obtain ⟨a4, c4, e1, hR4⟩ := (show ∃ (a4 : Option Addr) (c4 : Nat), v1 = AG [[.slice a4 l4.length c4], [.int .i64 x5], [.int .i64 x6]] ∧ RdS (Kd.int .u8) gq 5 a4 l4.length c4 l4 from hf _ (memI 6 rfl) (by kernel_rfl))
    subst e1
    refine WP.storeB (ty := 115) (off := 0) (v := AG [[.slice a4 l4.length c4], [.int .i64 x5], [.int .i64 x6]]) hB2 [[.slice a4 l4.length c4], [.int .i64 x5], [.int .i64 x6]] [1, 1, 1] (by kernel_rfl) (by kernel_rfl) rfl (by kernel_rfl) [[.slice a4 l4.length c4], [.int .i64 x5], [.int .i64 x6]] (by kernel_rfl) (.one rfl (.one rfl (.one rfl .nil))) ?_
    intro g12 st12 hB9
    refine WP.dn (Shown.o (v := undef) st12 ?_)
    exact ⟨tv, tv, tv, tv, tv, tv, tv, tv, ⟨a4, c4, rfl, (hR4.mono st12 (WL.no (by simp <;> omega))), hB9⟩, tv, tv⟩
   ·intro vs gq stq hl hf
    obtain ⟨v0, v1, v2, v3, v4, rfl⟩ := len_k5 hl
    have hB3 := (show Box gq (t + 3) b3 22 [encA .u8 (zA 8)] [8] from hf _ (memI 3 rfl) (by kernel_rfl))
    have e2 := (show v2 = AG [encA .u8 (zA 8)] from hf _ (memI 7 rfl) (by kernel_rfl))
    subst e2
    refine WP.storeB (ty := 22) (off := 0) (v := AG [encA .u8 (zA 8)]) hB3 [encA .u8 (zA 8)] [8] (by kernel_rfl) (by kernel_rfl) (by simp [len_encA]) (by kernel_rfl) [encA .u8 (zA 8)] (by kernel_rfl) (.arr .nil) ?_
    intro g13 st13 hB10
    refine WP.dn (Shown.o (v := undef) st13 ?_)
    exact ⟨tv, tv, tv, tv, tv, tv, tv, tv, tv, hB10, tv⟩
  intro vs g14 st14 hl hf
  obtain ⟨v0, v1, v2, v3, v4, rfl⟩ := len_k5 hl
  obtain ⟨a4, c4, e1, hR4, hB2⟩ := (show ∃ (a4 : Option Addr) (c4 : Nat), v1 = AG [[.slice a4 l4.length c4], [.int .i64 x5], [.int .i64 x6]] ∧ RdS (Kd.int .u8) g14 5 a4 l4.length c4 l4 ∧ Box g14 (t + 2) b2 115 [[.slice a4 l4.length c4], [.int .i64 x5], [.int .i64 x6]] [1, 1, 1] from hf _ (memI 8 rfl) (by kernel_rfl))
  subst e1
  have hB3 := (show Box g14 (t + 3) b3 22 [encA .u8 (zA 8)] [8] from hf _ (memI 9 rfl) (by kernel_rfl))
  replace tot := tot.trans (st14.up2 (.inr (by omega)) (.inr (by omega)))
  refine NX.then_n ?_
  refine CP.refr 36 [(2, .pointer (some ⟨b2, 0, none⟩)), (3, .pointer (some ⟨b3, 0, none⟩))] (by kernel_rfl) (by kernel_rfl) ?_
  clear ds
  intro ds
  refine CP.ret ?_
  refine NX.then_r ?_
  replace hs := Option.some.inj hs
  simp only [Prod.mk.injEq] at hs
  obtain ⟨rfl, rfl, rfl, rfl⟩ := hs
  exact NX.fin (v := .tuple #[AG [[.slice a4 l4.length c4], [.int .i64 x5], [.int .i64 x6]], AG [encA .u8 (zA 8)]]) (Res.two rfl (RV.box (agg := true) (size := 3) (rs := [[.slice a4 l4.length c4], [.int .i64 x5], [.int .i64 x6]]) hB2 (by kernel_rfl) (by kernel_rfl) (by kernel_rfl) (by kernel_rfl)) (RV.box (agg := true) (size := 8) (rs := [encA .u8 (zA 8)]) hB3 (by kernel_rfl) (by kernel_rfl) (by kernel_rfl) (by kernel_rfl))) tot htL ⟨a4, l4.length, c4, rfl, hR4⟩
 replace hs := of_if_f hs h2
 refine CP.skip ?_
 refine NX.then_n ?_
 refine CP.seq ?_
 refine CP.seqR ?_
 refine WP.stl 1 ?_
 refine WP.dn ?_
 refine NX.then_n ?_
 refine CP.block ?_
 generalize fuel = k1 at hs
 refine CP.loop (fun k1 tm g => ∃ (d1 : Arr Int 8) (x7 : Int), Fr 36 [(2, .pointer (some ⟨b2, 0, none⟩)), (3, .pointer (some ⟨b3, 0, none⟩)), (4, .pointer (some ⟨b4, 0, none⟩)), (5, .pointer (some ⟨b5, 0, none⟩)), (6, .slice a3 n3 c3), (7, .int .i64 x7)] tm ∧ Step (fun l => NoM l ∨ t ≤ l) g0 g ∧ Box g (t + 2) b2 115 [[.slice none 0 0], [.int .i64 0], [.int .i64 0]] [1, 1, 1] ∧ Box g (t + 3) b3 22 [encA .u8 (zA 8)] [8] ∧ Box g (t + 4) b4 22 [encA .u8 d1] [8] ∧ Box g (t + 6) b5 115 [[.slice a2 n2 c2], [.int .i64 x3], [.int .i64 x4]] [1, 1, 1] ∧ RdS (Kd.int .u8) g 5 a2 n2 c2 l2 ∧ OwnS (Kd.int .u8) g (t + 5) 5 a3 n3 c3 l3 ∧ F.baizeref47_name.l1 l2 x3 x4 l3 k1 d1 x7 = some (o1, o2, o3, o4)) k1 ?_ ?_ ?_
 ·exact ⟨(zA 8), 0, ⟨by kernel_rfl, by kernel_rfl⟩, tot, hB2, hB3, hB4, hB5, hR2, hR3, hs⟩
 ·rintro tm g ⟨d1, x7, hF, tot, hB2, hB3, hB4, hB5, hR2, hR3, hs⟩
  exact absurd hs (by simp [F.baizeref47_name.l1])
 clear tot hs hB2 hB3 hB4 hB5 hR2 hR3
 rintro k1 tm g ⟨d1, x7, hF, tot, hB2, hB3, hB4, hB5, hR2, hR3, hs⟩
 clear ds
 obtain ⟨ds, rfl⟩ := hF.open
 clear hF
 unfold F.baizeref47_name.l1 at hs
 refine CP.seq ?_
 refine CP.seqR ?_
 refine WP.stl 2 ?_
 refine WP.dn ?_
 refine NX.then_n ?_
 refine CP.cond (b := decide (x7 < 8)) (by kernel_rfl) (fun h5 => ?_) (fun h5 => ?_)
 ·replace hs := of_if_t hs h5
  refine CP.skip ?_
  refine NX.then_n ?_
  refine CP.seq ?_
  refine CP.block ?_
  refine CP.region ?_
  refine WP.stl 3 ?_
  by_cases hc4 : (0 : Int) ≤ x7 ∧ x7 < (l3.length : Int)
  case neg => rw [if_neg hc4] at hs; cases hs
  replace hs := of_if_p hs hc4
  obtain ⟨b8, u3, ha3⟩ := hR3.at hc4
  refine WP.indexA (t := 64) (e := 5) (sz := 1) (cap := c3) (k := .i64) (i := x7) hR3.len ha3 (by kernel_rfl) (by kernel_rfl) hc4 ?_
  obtain ⟨cs3, hcR3, hcV3⟩ := hR3.src.view (getI_some hc4) ha3
  replace hcR3 := Kd.o_int hcR3
  refine WP.loadV [[.int .u8 (getI l3 x7)]] [1] hcV3 hcR3 rfl (f := 0) (ty := 5) (agg := false) (size := 1) (rs := [[.int .u8 (getI l3 x7)]]) (v := .int .u8 (getI l3 x7)) (by kernel_rfl) (by kernel_rfl) (by kernel_rfl) (by kernel_rfl) ?_
  by_cases hc5 : (0 : Int) ≤ x7 ∧ x7 < (8 : Int)
  case neg => rw [if_neg hc5] at hs; cases hs
  replace hs := of_if_p hs hc5
  refine WP.ixBox (t := 22) (e := 5) (m := 8) (size := 1) (b := b4) (off := 0) (k := .i64) (i := x7) (by kernel_rfl) (by kernel_rfl) hc5 ?_
  refine WP.storeE (ty := 5) (o := 0) (m := 8) (k := .u8) (d := d1) (i := x7) (x := (getI l3 x7)) hB4 (by kernel_rfl) hc5 (by kernel_rfl) (by kernel_rfl) [encA .u8 (aset d1 x7 (getI l3 x7))] (by kernel_rfl) ?_
  intro g21 st21 hB17
  replace hB2 := hB2.mono st21 (WL.no1 (by omega))
  replace hB3 := hB3.mono st21 (WL.no1 (by omega))
  replace hB5 := hB5.mono st21 (WL.no1 (by omega))
  replace hR2 := hR2.mono st21 (WL.no1 (by omega))
  replace hR3 := hR3.mono st21 (WL.no1 (by omega)) (WL.no1 (by omega))
  replace tot := tot.trans (st21.up1 (.inr (by omega)))
  clear hB4
  have hB4 := hB17
  clear hB17
  refine WP.dn ?_
  refine NX.block_n ?_
  refine NX.then_n ?_
  refine CP.region ?_
  refine WP.stl 3 ?_
  refine WP.dn ?_
  refine NX.post ?_
  exact ⟨(aset d1 x7 (getI l3 x7)), (IntKind.i64.wrap (x7 + 1)), ⟨by kernel_rfl, by kernel_rfl⟩, tot, hB2, hB3, hB4, hB5, hR2, hR3, hs⟩
 replace hs := of_if_f hs h5
 refine CP.exit ?_
 refine NX.then_e ?_
 refine NX.then_e ?_
 refine NX.block_s ?_
 refine NX.then_n ?_
 refine CP.seq ?_
 refine CP.drawL (by kernel_rfl) [0, 1, 2, 3] [[], [], [0], [0, 1, 2]] [⟨none, [0], [], fun l g => Box g (t + 2) b2 115 [[.slice none 0 0], [.int .i64 0], [.int .i64 0]] [1, 1, 1]⟩, ⟨none, [1], [], fun l g => Box g (t + 3) b3 22 [encA .u8 (zA 8)] [8]⟩, ⟨none, [], [], fun l g => Box g (t + 4) b4 22 [encA .u8 d1] [8]⟩, ⟨none, [], [], fun l g => Box g (t + 6) b5 115 [[.slice a2 n2 c2], [.int .i64 x3], [.int .i64 x4]] [1, 1, 1]⟩, ⟨some 0, [], [0], fun l g => l.getD 0 undef = AG [[.slice a2 n2 c2], [.int .i64 x3], [.int .i64 x4]]⟩, ⟨some 1, [], [1], fun l g => l.getD 0 undef = AG [encA .u8 d1]⟩, ⟨some 2, [0], [], fun l g => Box g (t + 2) b2 115 [[.slice a2 n2 c2], [.int .i64 x3], [.int .i64 x4]] [1, 1, 1]⟩, ⟨some 3, [1], [], fun l g => Box g (t + 3) b3 22 [encA .u8 d1] [8]⟩] [[], [], [0], [1]] [(t + 2), (t + 3)] [] [] (by kernel_rfl) (by simp <;> omega) (by simp <;> omega) ⟨fun _ _ _ _ st h0 hl hj hB2 => (hB2.mono st (hj 0 (by simp) _ rfl)), fun _ _ _ _ st h0 hl hj hB3 => (hB3.mono st (hj 1 (by simp) _ rfl)), fun _ _ _ _ st h0 hl hj hB4 => (hB4.mono st (fun h => absurd (hl _ h) (by simp <;> omega))), fun _ _ _ _ st h0 hl hj hB5 => (hB5.mono st (fun h => absurd (hl _ h) (by simp <;> omega))), fun _ _ _ _ st h0 hl hj e0 => e0, fun _ _ _ _ st h0 hl hj e1 => e1, fun _ _ _ _ st h0 hl hj hB2 => (hB2.mono st (hj 0 (by simp) _ rfl)), fun _ _ _ _ st h0 hl hj hB3 => (hB3.mono st (hj 1 (by simp) _ rfl)), tv⟩ ⟨hB2, hB3, hB4, hB5, tv, tv, tv, tv, tv⟩ (by kernel_rfl) (fun vs => by kernel_rfl) ?_ ?_ ?_
 ·intro j hj; exact absurd hj (by simp)
 ·intro j hj
  have hq : j = 0 ∨ j = 1 ∨ j = 2 ∨ j = 3 := by have h : j < 4 := hj; omega
  rcases hq with rfl | rfl | rfl | rfl
  ·intro vs gq stq hl hf
   obtain ⟨v0, v1, v2, v3, rfl⟩ := len_k4 hl
   have hB5 := (show Box gq (t + 6) b5 115 [[.slice a2 n2 c2], [.int .i64 x3], [.int .i64 x4]] [1, 1, 1] from hf _ (memI 3 rfl) (by kernel_rfl))
   refine WP.loadB (v := AG [[.slice a2 n2 c2], [.int .i64 x3], [.int .i64 x4]]) hB5 (by kernel_rfl) (by kernel_rfl) ?_
   refine WP.dn (Shown.ok (v := AG [[.slice a2 n2 c2], [.int .i64 x3], [.int .i64 x4]]) (by kernel_rfl) (Step.refl _ _) ?_)
   exact ⟨tv, tv, tv, tv, rfl, tv, tv, tv, tv⟩
  ·intro vs gq stq hl hf
   obtain ⟨v0, v1, v2, v3, rfl⟩ := len_k4 hl
   have hB4 := (show Box gq (t + 4) b4 22 [encA .u8 d1] [8] from hf _ (memI 2 rfl) (by kernel_rfl))
   refine WP.loadB (v := AG [encA .u8 d1]) hB4 (by kernel_rfl) (by kernel_rfl) ?_
   refine WP.dn (Shown.ok (v := AG [encA .u8 d1]) (by kernel_rfl) (Step.refl _ _) ?_)
   exact ⟨tv, tv, tv, tv, tv, rfl, tv, tv, tv⟩
  ·intro vs gq stq hl hf
   obtain ⟨v0, v1, v2, v3, rfl⟩ := len_k4 hl
   have hB2 := (show Box gq (t + 2) b2 115 [[.slice none 0 0], [.int .i64 0], [.int .i64 0]] [1, 1, 1] from hf _ (memI 0 rfl) (by kernel_rfl))
   have e0 := (show v0 = AG [[.slice a2 n2 c2], [.int .i64 x3], [.int .i64 x4]] from hf _ (memI 4 rfl) (by kernel_rfl))
   subst e0
   refine WP.storeB (ty := 115) (off := 0) (v := AG [[.slice a2 n2 c2], [.int .i64 x3], [.int .i64 x4]]) hB2 [[.slice a2 n2 c2], [.int .i64 x3], [.int .i64 x4]] [1, 1, 1] (by kernel_rfl) (by kernel_rfl) rfl (by kernel_rfl) [[.slice a2 n2 c2], [.int .i64 x3], [.int .i64 x4]] (by kernel_rfl) (.one rfl (.one rfl (.one rfl .nil))) ?_
   intro g22 st22 hB18
   refine WP.dn (Shown.o (v := undef) st22 ?_)
   exact ⟨tv, tv, tv, tv, tv, tv, hB18, tv, tv⟩
  ·intro vs gq stq hl hf
   obtain ⟨v0, v1, v2, v3, rfl⟩ := len_k4 hl
   have hB3 := (show Box gq (t + 3) b3 22 [encA .u8 (zA 8)] [8] from hf _ (memI 1 rfl) (by kernel_rfl))
   have e1 := (show v1 = AG [encA .u8 d1] from hf _ (memI 5 rfl) (by kernel_rfl))
   subst e1
   refine WP.storeB (ty := 22) (off := 0) (v := AG [encA .u8 d1]) hB3 [encA .u8 d1] [8] (by kernel_rfl) (by kernel_rfl) (by simp [len_encA]) (by kernel_rfl) [encA .u8 d1] (by kernel_rfl) (.arr .nil) ?_
   intro g23 st23 hB19
   refine WP.dn (Shown.o (v := undef) st23 ?_)
   exact ⟨tv, tv, tv, tv, tv, tv, tv, hB19, tv⟩
 intro vs g24 st24 hl hf
 obtain ⟨v0, v1, v2, v3, rfl⟩ := len_k4 hl
 have hB2 := (show Box g24 (t + 2) b2 115 [[.slice a2 n2 c2], [.int .i64 x3], [.int .i64 x4]] [1, 1, 1] from hf _ (memI 6 rfl) (by kernel_rfl))
 have hB3 := (show Box g24 (t + 3) b3 22 [encA .u8 d1] [8] from hf _ (memI 7 rfl) (by kernel_rfl))
 replace hR2 := hR2.mono st24 (WL.no2 (by omega) (by omega))
 replace tot := tot.trans (st24.up2 (.inr (by omega)) (.inr (by omega)))
 refine NX.then_n ?_
 refine CP.refr 36 [(2, .pointer (some ⟨b2, 0, none⟩)), (3, .pointer (some ⟨b3, 0, none⟩))] (by kernel_rfl) (by kernel_rfl) ?_
 clear ds
 intro ds
 refine CP.ret ?_
 replace hs := Option.some.inj hs
 simp only [Prod.mk.injEq] at hs
 obtain ⟨rfl, rfl, rfl, rfl⟩ := hs
 exact NX.fin (v := .tuple #[AG [[.slice a2 n2 c2], [.int .i64 x3], [.int .i64 x4]], AG [encA .u8 d1]]) (Res.two rfl (RV.box (agg := true) (size := 3) (rs := [[.slice a2 n2 c2], [.int .i64 x3], [.int .i64 x4]]) hB2 (by kernel_rfl) (by kernel_rfl) (by kernel_rfl) (by kernel_rfl)) (RV.box (agg := true) (size := 8) (rs := [encA .u8 d1]) hB3 (by kernel_rfl) (by kernel_rfl) (by kernel_rfl) (by kernel_rfl))) tot htL ⟨a2, n2, c2, rfl, hR2⟩
def F.baizeref01_End.c1 (x2 : Int) (q1 : Bool) : Option (Int) := (if q1 = true then (some 5) else (some x2))
def F.baizeref01_End (l1 : List Int) (x1 : Int) (x2 : Int) : Option (Int) := (if (x2 == 0) = true then (F.baizeref01_End.c1 x2 (decide (x1 < (l1.length : Int)))) else (F.baizeref01_End.c1 x2 false))
theorem P.baizeref01_End (g0 : GW) (l1 : List Int) (x1 : Int) (x2 : Int) (a1 : Option Addr) (n1 : Nat) (c1 : Nat) (hR1 : RdS (Kd.int .u8) g0 5 a1 n1 c1 l1) (o1 : Int) (hs : F.baizeref01_End l1 x1 x2 = some o1) :
  Calls Try.prog 71 #[AG [[.slice a1 n1 c1], [.int .i64 x1], [.int .i64 x2]]] g0.w (Ret NoM g0 fun v g => v = .int .i64 o1) := by
 refine calls_of (args := [AG [[.slice a1 n1 c1], [.int .i64 x1], [.int .i64 x2]]]) Try.func71 rfl (0) ?_
 intro t ht htL
 refine ⟨_, rfl, ?_⟩
 refine CP.refr 16 [(0, AG [[.slice a1 n1 c1], [.int .i64 x1], [.int .i64 x2]])] (by kernel_rfl) (by kernel_rfl) ?_
 intro ds
 have tot : Step (fun l => NoM l ∨ t ≤ l) g0 g0 := Step.refl _ _
 unfold F.baizeref01_End at hs
 refine CP.seqR ?_
 refine WP.alloc (T := 115) (t + 1) [[.slice a1 n1 c1], [.int .i64 x1], [.int .i64 x2]] [1, 1, 1] (by kernel_rfl) rfl ?_
 intro g1 b1 st1 hB1
 replace hR1 := hR1.mono st1 (fun x => x)
 replace tot := tot.trans st1.pure
 refine WP.stl 1 ?_
 refine WP.dn ?_
 refine NX.then_n ?_
 refine CP.seq ?_
 refine CP.cut (fun tm g => ∃ (q1 : Bool), Fr 16 [(1, .pointer (some ⟨b1, 0, none⟩)), (13, .bool q1)] tm ∧ Step (fun l => NoM l ∨ t ≤ l) g0 g ∧ Box g (t + 1) b1 115 [[.slice a1 n1 c1], [.int .i64 x1], [.int .i64 x2]] [1, 1, 1] ∧ RdS (Kd.int .u8) g 5 a1 n1 c1 l1 ∧ (F.baizeref01_End.c1 x2 q1) = some o1) ?_ ?_
 ·refine CP.region ?_
  refine WP.stl 1 ?_
  refine WP.loadB (v := .int .i64 x2) hB1 (by kernel_rfl) (by kernel_rfl) ?_
  refine WP.stl 2 ?_
  refine WP.guard 6 (b := (x2 == 0)) (by kernel_rfl) (fun h3 => ?_) (fun h3 => ?_)
  ·replace hs := of_if_t hs h3
   refine WP.stl 1 ?_
   refine WP.loadB (v := .int .i64 x1) hB1 (by kernel_rfl) (by kernel_rfl) ?_
   refine WP.stl 1 ?_
   refine WP.loadB (v := .slice a1 n1 c1) hB1 (by kernel_rfl) (by kernel_rfl) ?_
   refine WP.len (a := a1) (cp := c1) hR1.len (by kernel_rfl) ?_
   refine WP.stl 2 ?_
   refine WP.dn ?_
   refine NX.post ?_
   exact ⟨decide (x1 < (l1.length : Int)), ⟨by kernel_rfl, by kernel_rfl⟩, tot, hB1, hR1, hs⟩
  replace hs := of_if_f hs h3
  refine WP.stl 7 ?_
  refine WP.dn ?_
  refine NX.post ?_
  exact ⟨false, ⟨by kernel_rfl, by kernel_rfl⟩, tot, hB1, hR1, hs⟩
 clear tot hs hB1 hR1
 rintro tm g ⟨q1, hF, tot, hB1, hR1, hs⟩
 clear ds
 obtain ⟨ds, rfl⟩ := hF.open
 clear hF
 unfold F.baizeref01_End.c1 at hs
 refine CP.cond (b := q1) (by kernel_rfl) (fun h2 => ?_) (fun h2 => ?_)
 ·replace hs := of_if_t hs h2
  refine CP.seqR ?_
  refine WP.stl 1 ?_
  refine WP.dn ?_
  refine NX.then_n ?_
  refine CP.ret ?_
  refine NX.then_r ?_
  replace hs := Option.some.inj hs
  obtain rfl := hs
  exact NX.fin (v := .int .i64 5) (Res.still (by kernel_rfl)) tot htL rfl
 replace hs := of_if_f hs h2
 refine CP.skip ?_
 refine NX.then_n ?_
 refine CP.seqR ?_
 refine WP.stl 1 ?_
 refine WP.loadB (v := .int .i64 x2) hB1 (by kernel_rfl) (by kernel_rfl) ?_
 refine WP.stl 1 ?_
 refine WP.dn ?_
 refine NX.then_n ?_
 refine CP.ret ?_
 replace hs := Option.some.inj hs
 obtain rfl := hs
 exact NX.fin (v := .int .i64 x2) (Res.still (by kernel_rfl)) tot htL rfl
end Go.Proofs.Yticlfbpmfejdoaa
