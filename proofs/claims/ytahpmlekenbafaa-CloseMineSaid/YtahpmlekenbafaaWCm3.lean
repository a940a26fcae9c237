/-
  Walks, written by program: each Go function computes the plain function of its name, in whatever world its arguments' facts hold.
-/
import Derived.Test.YtahpmlekenbafaaWCm2
namespace Go.Proofs.Ytahpmlekenbafaa
open Go.RowKit Go.Lab
attribute [local irreducible] WP CP NX wpList Code.wp Calls
set_option maxRecDepth 100000
set_option maxHeartbeats 4000000
set_option linter.unusedVariables false

def F.close_Agree (l1 : List S_notary_entry) (w1 : (List (S_notary_entry × Int))) (d1 : Arr Int 8) (l2 : List Int) (x1 : Int) (l3 : List (Arr Int 8)) (l4 : List (List Int)) (l5 : List Bool) : Option (Int) := ((F.close_Adds x1 (l3.length : Int) l2).bind fun x2 => (if (x2 != 0) = true then (some x2) else (if ((l5.length : Int) != (l3.length : Int)) = true then (some 3) else ((F.slices_Contains_bool_bool l5 false).bind fun q1 => (if (!q1) = true then (some 28) else ((F.state_Payout_Digest d1 l2).bind fun d2 => ((F.notary_All l1 w1 l3 d2 l4 l5).bind fun x3 => (some x3))))))))
theorem P.close_Agree (g0 : GW) (m0 : Nat) (m1 : Nat) (l1 : List S_notary_entry) (w1 : (List (S_notary_entry × Int))) (d1 : Arr Int 8) (l2 : List Int) (x1 : Int) (l3 : List (Arr Int 8)) (l4 : List (List Int)) (l5 : List Bool) (a1 : Option Addr) (n1 : Nat) (c1 : Nat) (a2 : Option Addr) (n2 : Nat) (c2 : Nat) (a3 : Option Addr) (n3 : Nat) (c3 : Nat) (a4 : Option Addr) (n4 : Nat) (c4 : Nat) (a5 : Option Addr) (n5 : Nat) (c5 : Nat) (b1 : Nat) (b2 : Nat) (hR1 : RdS k_S_notary_entry g0 136 a1 n1 c1 l1) (hR2 : RdS (Kd.int .i64) g0 3 a2 n2 c2 l2) (hR3 : RdS (Kd.arrI 8 .u8) g0 47 a3 n3 c3 l3) (hR4 : RdS (Kd.slice 5 (Kd.int .u8)) g0 74 a4 n4 c4 l4) (hR5 : RdS Kd.bool g0 4 a5 n5 c5 l5) (hB1 : MapB g0 m1 b2 kv_S_notary_entry (Value.int .i64) w1) (hB2 : Box g0 m0 b1 91 [[.slice a1 n1 c1], [.map (some b2)]] [1, 1]) (hm1_0 : m1 ≠ m0) (hm0 : m0 ≠ 0) (hm1 : m1 ≠ 0) (o1 : Int) (hs : F.close_Agree l1 w1 d1 l2 x1 l3 l4 l5 = some o1) :
  Calls Try.prog 19 #[.iface 50 (.pointer (some ⟨b1, 0, none⟩)), AG [encA .u8 d1, [.slice a2 n2 c2]], .int .i64 x1, .slice a3 n3 c3, .slice a4 n4 c4, .slice a5 n5 c5] g0.w (Ret NoM g0 fun v g => v = .int .i64 o1) := by
 refine calls_of (args := [.iface 50 (.pointer (some ⟨b1, 0, none⟩)), AG [encA .u8 d1, [.slice a2 n2 c2]], .int .i64 x1, .slice a3 n3 c3, .slice a4 n4 c4, .slice a5 n5 c5]) Try.func19 rfl (m0 + m1 + 0) ?_
 intro t ht htL
 refine ⟨_, rfl, ?_⟩
 refine CP.refr 40 [(0, .iface 50 (.pointer (some ⟨b1, 0, none⟩))), (1, AG [encA .u8 d1, [.slice a2 n2 c2]]), (2, .int .i64 x1), (3, .slice a3 n3 c3), (4, .slice a4 n4 c4), (5, .slice a5 n5 c5)] (by kernel_rfl) (by kernel_rfl) ?_
 intro ds
 have tot : Step (fun l => NoM l ∨ t ≤ l) g0 g0 := Step.refl _ _
 unfold F.close_Agree at hs
 refine CP.seqR ?_
 refine WP.alloc (T := 49) (t + 1) [encA .u8 d1, [.slice a2 n2 c2]] [8, 1] (by kernel_rfl) (by simp [len_encA]) ?_
 intro g1 b3 st1 hB3
 replace hB2 := hB2.mono st1 (fun x => x)
 replace hR1 := hR1.mono st1 (fun x => x)
 replace hB1 := hB1.mono st1 (fun x => x)
 replace hR2 := hR2.mono st1 (fun x => x)
 replace hR3 := hR3.mono st1 (fun x => x)
 replace hR4 := hR4.mono st1 (fun x => x)
 replace hR5 := hR5.mono st1 (fun x => x)
 replace tot := tot.trans st1.pure
 refine WP.stl 1 ?_
 refine WP.dn ?_
 refine NX.then_n ?_
 refine CP.seq ?_
 refine CP.seqR ?_
 refine WP.stl 2 ?_
 refine WP.len (a := a3) (cp := c3) hR3.len (by kernel_rfl) ?_
 refine WP.stl 1 ?_
 refine WP.loadB (v := .slice a2 n2 c2) hB3 (by kernel_rfl) (by kernel_rfl) ?_
 replace hs := Option.bind_eq_some_iff.1 hs
 obtain ⟨x2, hk1, hs⟩ := hs
 have hcal1 := P.close_Adds g1 x1 (l3.length : Int) l2 a2 n2 c2 hR2 x2 hk1
 refine WP.callC hcal1 (by kernel_rfl) ?_
 rintro _ g2 st2 rfl
 replace hB2 := hB2.mono st2 (fun x => x)
 replace hR1 := hR1.mono st2 (fun x => x)
 replace hB1 := hB1.mono st2 (fun x => x)
 replace hR3 := hR3.mono st2 (fun x => x)
 replace hR4 := hR4.mono st2 (fun x => x)
 replace hR5 := hR5.mono st2 (fun x => x)
 replace hB3 := hB3.mono st2 (fun x => x)
 replace hR2 := hR2.mono st2 (fun x => x)
 replace tot := tot.trans st2.pure
 refine WP.stl 1 ?_
 refine WP.dn ?_
 refine NX.then_n ?_
 refine CP.seqR ?_
 refine WP.stl 2 ?_
 refine WP.dn ?_
 refine NX.then_n ?_
 refine CP.cond (b := (x2 != 0)) (by kernel_rfl) (fun h1 => ?_) (fun h1 => ?_)
 ·replace hs := of_if_t hs h1
  refine CP.seqR ?_
  refine WP.stl 2 ?_
  refine WP.dn ?_
  refine NX.then_n ?_
  refine CP.refr 40 [(12, .int .i64 x2)] (by kernel_rfl) (by kernel_rfl) ?_
  clear ds
  intro ds
  refine CP.ret ?_
  refine NX.then_r ?_
  replace hs := Option.some.inj hs
  obtain rfl := hs
  exact NX.fin (v := .int .i64 x2) (Res.still (by kernel_rfl)) tot htL rfl
 replace hs := of_if_f hs h1
 refine CP.skip ?_
 refine NX.then_n ?_
 refine CP.seq ?_
 refine CP.block ?_
 refine CP.seqR ?_
 refine WP.stl 1 ?_
 refine WP.len (a := a5) (cp := c5) hR5.len (by kernel_rfl) ?_
 refine WP.stl 1 ?_
 refine WP.len (a := a3) (cp := c3) hR3.len (by kernel_rfl) ?_
 refine WP.stl 2 ?_
 refine WP.dn ?_
 refine NX.then_n ?_
 refine CP.refr 40 [(0, .iface 50 (.pointer (some ⟨b1, 0, none⟩))), (3, .slice a3 n3 c3), (4, .slice a4 n4 c4), (5, .slice a5 n5 c5), (7, .pointer (some ⟨b3, 0, none⟩)), (23, .bool ((l5.length : Int) != (l3.length : Int)))] (by kernel_rfl) (by kernel_rfl) ?_
 clear ds
 intro ds
 refine CP.cond (b := ((l5.length : Int) != (l3.length : Int))) (by kernel_rfl) (fun h2 => ?_) (fun h2 => ?_)
 ·replace hs := of_if_t hs h2
  refine CP.seqR ?_
  refine WP.stl 1 ?_
  refine WP.dn ?_
  refine NX.then_n ?_
  refine CP.ret ?_
  refine NX.block_r ?_
  refine NX.then_r ?_
  replace hs := Option.some.inj hs
  obtain rfl := hs
  exact NX.fin (v := .int .i64 3) (Res.still (by kernel_rfl)) tot htL rfl
 replace hs := of_if_f hs h2
 refine CP.seqR ?_
 refine WP.stl 1 ?_
 replace hs := Option.bind_eq_some_iff.1 hs
 obtain ⟨q1, hk2, hs⟩ := hs
 have hcal2 := P.slices_Contains_bool_bool g2 l5 false a5 n5 c5 hR5 q1 hk2
 refine WP.callC hcal2 (by kernel_rfl) ?_
 rintro _ g3 st3 rfl
 replace hB2 := hB2.mono st3 (fun x => x)
 replace hR1 := hR1.mono st3 (fun x => x)
 replace hB1 := hB1.mono st3 (fun x => x)
 replace hR3 := hR3.mono st3 (fun x => x)
 replace hR4 := hR4.mono st3 (fun x => x)
 replace hR5 := hR5.mono st3 (fun x => x)
 replace hB3 := hB3.mono st3 (fun x => x)
 replace hR2 := hR2.mono st3 (fun x => x)
 replace tot := tot.trans st3.pure
 refine WP.stl 2 ?_
 refine WP.dn ?_
 refine NX.then_n ?_
 refine CP.cond (b := (!q1)) (by kernel_rfl) (fun h3 => ?_) (fun h3 => ?_)
 ·replace hs := of_if_t hs h3
  refine CP.seqR ?_
  refine WP.stl 1 ?_
  refine WP.dn ?_
  refine NX.then_n ?_
  refine CP.ret ?_
  refine NX.block_r ?_
  refine NX.then_r ?_
  replace hs := Option.some.inj hs
  obtain rfl := hs
  exact NX.fin (v := .int .i64 28) (Res.still (by kernel_rfl)) tot htL rfl
 replace hs := of_if_f hs h3
 refine CP.skip ?_
 refine NX.block_n ?_
 refine NX.then_n ?_
 refine CP.seqR ?_
 refine WP.stl 2 ?_
 refine WP.loadB (v := AG [encA .u8 d1, [.slice a2 n2 c2]]) hB3 (by kernel_rfl) (by kernel_rfl) ?_
 replace hs := Option.bind_eq_some_iff.1 hs
 obtain ⟨d2, hk3, hs⟩ := hs
 have hcal3 := P.state_Payout_Digest g3 d1 l2 a2 n2 c2 hR2 d2 hk3
 refine WP.callC hcal3 (by kernel_rfl) ?_
 rintro _ g4 st4 rfl
 replace hB2 := hB2.mono st4 (fun x => x)
 replace hR1 := hR1.mono st4 (fun x => x)
 replace hB1 := hB1.mono st4 (fun x => x)
 replace hR3 := hR3.mono st4 (fun x => x)
 replace hR4 := hR4.mono st4 (fun x => x)
 replace hR5 := hR5.mono st4 (fun x => x)
 replace hB3 := hB3.mono st4 (fun x => x)
 replace hR2 := hR2.mono st4 (fun x => x)
 replace tot := tot.trans st4.pure
 refine WP.stl 2 ?_
 replace hs := Option.bind_eq_some_iff.1 hs
 obtain ⟨x3, hk4, hs⟩ := hs
 have hcal4 := P.notary_All g4 m0 m1 l1 w1 l3 d2 l4 l5 a1 n1 c1 a3 n3 c3 a4 n4 c4 a5 n5 c5 b1 b2 hR1 hR3 hR4 hR5 hB1 hB2 (by omega) (by omega) (by omega) x3 hk4
 refine WP.callC hcal4 (by kernel_rfl) ?_
 rintro _ g5 st5 rfl
 replace hB2 := hB2.mono st5 (fun x => x)
 replace hR1 := hR1.mono st5 (fun x => x)
 replace hB1 := hB1.mono st5 (fun x => x)
 replace hR3 := hR3.mono st5 (fun x => x)
 replace hR4 := hR4.mono st5 (fun x => x)
 replace hR5 := hR5.mono st5 (fun x => x)
 replace hB3 := hB3.mono st5 (fun x => x)
 replace hR2 := hR2.mono st5 (fun x => x)
 replace tot := tot.trans st5.pure
 refine WP.stl 1 ?_
 refine WP.dn ?_
 refine NX.then_n ?_
 refine CP.ret ?_
 replace hs := Option.some.inj hs
 obtain rfl := hs
 exact NX.fin (v := .int .i64 x3) (Res.still (by kernel_rfl)) tot htL rfl
def N.baizelaw35_CloseMine_0 : List (List Nat) := [[], [0], [0, 1], [], [3], [3, 4], [], [6], [6, 7], [0, 1, 2, 3, 4, 5, 6, 7, 8], [], [0, 1, 2, 3, 4, 5, 6, 7, 8, 9, 10]]
def F.baizelaw35_CloseMine.c2 (q15 : Bool) : Option (Bool) := (some q15)
def F.baizelaw35_CloseMine.c3 (q18 : Bool) : Option (Bool) := (some q18)
def F.baizelaw35_CloseMine.l1 (l1 : List Int) (l2 : List Int) (x1 : Int) : Nat → (List Bool) → Int → Option (Bool)
 | 0, _, _ => none
 | k + 1, l11, x7 => (if decide (x7 < (l1.length : Int)) = true then (if (0 : Int) ≤ x7 ∧ x7 < (l11.length : Int) then (F.baizelaw35_CloseMine.l1 l1 l2 x1 k (setI l11 x7 (x7 != ((IntKind.i64.wrap x1).tmod (l1.length : Int)))) (IntKind.i64.wrap (x7 + 1))) else none) else (if (0 : Int) ≤ ((IntKind.i64.wrap x1).tmod (l1.length : Int)) ∧ ((IntKind.i64.wrap x1).tmod (l1.length : Int)) < ((List.replicate (l1.length : Int).toNat (false : Bool)).length : Int) then ((F.state_Payout_Digest (⟨[7, 0, 0, 0, 0, 0, 0, 0], rfl⟩ : Arr Int 8) (([] : List Int) ++ l1)).bind fun d7 => ((F.state_Payout_Digest (⟨[8, 0, 0, 0, 0, 0, 0, 0], rfl⟩ : Arr Int 8) (([] : List Int) ++ l2)).bind fun d8 => (if (d7.1 == d8.1) = true then ((F.baizelaw35_told).bind fun q13 => (some q13)) else ((F.baizelaw35_vote_2 (⟨[7, 0, 0, 0, 0, 0, 0, 0], rfl⟩ : Arr Int 8) (([] : List Int) ++ l1) (⟨[8, 0, 0, 0, 0, 0, 0, 0], rfl⟩ : Arr Int 8) (([] : List Int) ++ l2) (l1.length : Int) l11 (setI (List.replicate (l1.length : Int).toNat (false : Bool)) ((IntKind.i64.wrap x1).tmod (l1.length : Int)) true) (List.replicate (l1.length : Int).toNat (false : Bool))).bind fun (l21, d9, l22, l23, l24, l25, l26, l27, l28) => ((F.baizeref03_Sum l1).bind fun (x14, x15) => (if (x15 != 0) = true then ((F.close_Agree l21 d9 (⟨[7, 0, 0, 0, 0, 0, 0, 0], rfl⟩ : Arr Int 8) l24 x14 l22 l23 l28).bind fun x17 => (if (x17 != 0) = true then ((F.baizelaw35_told).bind fun q16 => (F.baizelaw35_CloseMine.c2 q16)) else (F.baizelaw35_CloseMine.c2 false))) else ((F.close_Agree l21 d9 (⟨[7, 0, 0, 0, 0, 0, 0, 0], rfl⟩ : Arr Int 8) l24 x14 l22 l23 l28).bind fun x18 => (if (x18 != 16) = true then (some false) else (if (0 : Int) ≤ ((IntKind.i64.wrap x1).tmod (l1.length : Int)) ∧ ((IntKind.i64.wrap x1).tmod (l1.length : Int)) < (l28.length : Int) then ((F.close_Agree l21 d9 (⟨[7, 0, 0, 0, 0, 0, 0, 0], rfl⟩ : Arr Int 8) l24 x14 l22 l23 (setI l28 ((IntKind.i64.wrap x1).tmod (l1.length : Int)) true)).bind fun x20 => (if (x20 == 0) = true then ((F.baizelaw35_told).bind fun q19 => (F.baizelaw35_CloseMine.c3 q19)) else (F.baizelaw35_CloseMine.c3 false))) else none))))))))) else none))
def F.baizelaw35_CloseMine.c1 (l1 : List Int) (l2 : List Int) (x1 : Int) (q1 : Bool) : Option (Bool) := (if q1 = true then ((F.baizelaw35_told).bind fun q2 => (some q2)) else (if (l1.length : Int) ≠ 0 then (if ([] : List Int).length + l1.length ≤ 17592186044416 then (if ([] : List Int).length + l2.length ≤ 17592186044416 then (if (0 : Int) ≤ (l1.length : Int) ∧ (l1.length : Int) ≤ 140737488355328 then (if (0 : Int) ≤ (l1.length : Int) ∧ (l1.length : Int) ≤ 140737488355328 then (if (0 : Int) ≤ (l1.length : Int) ∧ (l1.length : Int) ≤ 140737488355328 then (F.baizelaw35_CloseMine.l1 l1 l2 x1 fuel (List.replicate (l1.length : Int).toNat (false : Bool)) 0) else none) else none) else none) else none) else none) else none))
def F.baizelaw35_CloseMine (l1 : List Int) (l2 : List Int) (x1 : Int) : Option (Bool) := (if decide ((l1.length : Int) < 2) = true then (F.baizelaw35_CloseMine.c1 l1 l2 x1 true) else (if decide ((l1.length : Int) > 8) = true then (F.baizelaw35_CloseMine.c1 l1 l2 x1 true) else (F.baizelaw35_CloseMine.c1 l1 l2 x1 (decide ((l2.length : Int) > 8)))))
theorem P.baizelaw35_CloseMine (g0 : GW) (l1 : List Int) (l2 : List Int) (x1 : Int) (a1 : Option Addr) (n1 : Nat) (c1 : Nat) (a2 : Option Addr) (n2 : Nat) (c2 : Nat) (hR1 : RdS (Kd.int .i64) g0 3 a1 n1 c1 l1) (hR2 : RdS (Kd.int .i64) g0 3 a2 n2 c2 l2) (o1 : Bool) (hs : F.baizelaw35_CloseMine l1 l2 x1 = some o1) :
  Calls Try.prog 8 #[.slice a1 n1 c1, .slice a2 n2 c2, .int .u8 x1] g0.w (Ret NoM g0 fun v g => v = .bool o1) := by
 refine calls_of (args := [.slice a1 n1 c1, .slice a2 n2 c2, .int .u8 x1]) Try.func8 rfl (0) ?_
 intro t ht htL
 refine ⟨_, rfl, ?_⟩
 refine CP.refr 138 [(0, .slice a1 n1 c1), (1, .slice a2 n2 c2), (2, .int .u8 x1)] (by kernel_rfl) (by kernel_rfl) ?_
 intro ds
 have tot : Step (fun l => NoM l ∨ t ≤ l) g0 g0 := Step.refl _ _
 unfold F.baizelaw35_CloseMine at hs
 refine CP.seqR ?_
 refine WP.stl 1 ?_
 refine WP.dn ?_
 refine NX.then_n ?_
 refine CP.seq ?_
 refine CP.cut (fun tm g => ∃ (q1 : Bool), Fr 138 [(0, .slice a1 n1 c1), (1, .slice a2 n2 c2), (2, .int .u8 x1), (29, .bool q1)] tm ∧ Step (fun l => NoM l ∨ t ≤ l) g0 g ∧ RdS (Kd.int .i64) g 3 a1 n1 c1 l1 ∧ RdS (Kd.int .i64) g 3 a2 n2 c2 l2 ∧ (F.baizelaw35_CloseMine.c1 l1 l2 x1 q1) = some o1) ?_ ?_
 ·refine CP.region ?_
  refine WP.stl 1 ?_
  refine WP.len (a := a1) (cp := c1) hR1.len (by kernel_rfl) ?_
  refine WP.stl 2 ?_
  refine WP.guard 20 (b := decide ((l1.length : Int) < 2)) (by kernel_rfl) (fun h24 => ?_) (fun h24 => ?_)
  ·replace hs := of_if_t hs h24
   refine WP.stl 9 ?_
   refine WP.dn ?_
   refine NX.post ?_
   exact ⟨true, ⟨by kernel_rfl, by kernel_rfl⟩, tot, hR1, hR2, hs⟩
  replace hs := of_if_f hs h24
  refine WP.stl 1 ?_
  refine WP.len (a := a1) (cp := c1) hR1.len (by kernel_rfl) ?_
  refine WP.stl 3 ?_
  refine WP.guard 25 (b := decide ((l1.length : Int) > 8)) (by kernel_rfl) (fun h25 => ?_) (fun h25 => ?_)
  ·replace hs := of_if_t hs h25
   refine WP.stl 4 ?_
   refine WP.dn ?_
   refine NX.post ?_
   exact ⟨true, ⟨by kernel_rfl, by kernel_rfl⟩, tot, hR1, hR2, hs⟩
  replace hs := of_if_f hs h25
  refine WP.stl 1 ?_
  refine WP.len (a := a2) (cp := c2) hR2.len (by kernel_rfl) ?_
  refine WP.stl 2 ?_
  refine WP.dn ?_
  refine NX.post ?_
  exact ⟨decide ((l2.length : Int) > 8), ⟨by kernel_rfl, by kernel_rfl⟩, tot, hR1, hR2, hs⟩
 clear tot hs hR1 hR2
 rintro tm g ⟨q1, hF, tot, hR1, hR2, hs⟩
 clear ds
 obtain ⟨ds, rfl⟩ := hF.open
 clear hF
 unfold F.baizelaw35_CloseMine.c1 at hs
 refine CP.cond (b := q1) (by kernel_rfl) (fun h3 => ?_) (fun h3 => ?_)
 ·replace hs := of_if_t hs h3
  refine CP.seqR ?_
  replace hs := Option.bind_eq_some_iff.1 hs
  obtain ⟨q2, hk1, hs⟩ := hs
  have hcal1 := P.baizelaw35_told g q2 hk1
  refine WP.callC hcal1 (by kernel_rfl) ?_
  rintro _ g1 st1 rfl
  replace hR1 := hR1.mono st1 (fun x => x)
  replace hR2 := hR2.mono st1 (fun x => x)
  replace tot := tot.trans st1.pure
  refine WP.stl 1 ?_
  refine WP.dn ?_
  refine NX.then_n ?_
  refine CP.ret ?_
  refine NX.then_r ?_
  replace hs := Option.some.inj hs
  obtain rfl := hs
  exact NX.fin (v := .bool q2) (Res.still (by kernel_rfl)) tot htL rfl
 replace hs := of_if_f hs h3
 refine CP.skip ?_
 refine NX.then_n ?_
 refine CP.seqR ?_
 refine WP.stl 3 ?_
 refine WP.len (a := a1) (cp := c1) hR1.len (by kernel_rfl) ?_
 by_cases hc1 : (l1.length : Int) ≠ 0
 case neg => rw [if_neg hc1] at hs; cases hs
 replace hs := of_if_p hs hc1
 refine WP.rem (k := .i64) (x := (IntKind.i64.wrap x1)) (y := (l1.length : Int)) (by kernel_rfl) hc1 ?_
 refine WP.stl 1 ?_
 refine WP.dn ?_
 refine NX.then_n ?_
 refine CP.seqR ?_
 refine WP.stl 1 ?_
 refine WP.mkSl (kd := (Kd.int .i64)) (t := 22) (e := 3) (bytes := 8) (t + 1) [] ([] : List Int) (by kernel_rfl) (by kernel_rfl) (Nat.le_of_ble_eq_true rfl) (Nat.le_of_ble_eq_true rfl) all_nil (rfl) rfl ?_
 intro g2 a3 st2 hR3
 replace hR1 := hR1.mono st2 (fun x => x)
 replace hR2 := hR2.mono st2 (fun x => x)
 replace tot := tot.trans st2.pure
 refine WP.stl 1 ?_
 by_cases hc2 : ([] : List Int).length + l1.length ≤ 17592186044416
 case neg => rw [if_neg hc2] at hs; cases hs
 replace hs := of_if_p hs hc2
 refine WP.append (kd := (Kd.int .i64)) (t := 22) (e := 3) (bytes := 8) (a2 := a1) (c2 := c1) hR3 hR1.src hR1.len (by kernel_rfl) (by kernel_rfl) (by omega) (by simp only [maxLen]; omega) (by omega) ?_
 intro g3 a4 c3 st3 hR4
 replace hR1 := hR1.mono st3 (WL.no1 (by omega))
 replace hR2 := hR2.mono st3 (WL.no1 (by omega))
 replace tot := tot.trans (st3.up1 (.inr (by omega)))
 refine WP.buildS (places := #[(0, 8), (8, 1)]) (t := 49) [encA .u8 (zA 8), [.slice none 0 0]] [8, 1] (by kernel_rfl) (by kernel_rfl) (by simp [len_encA]) (by kernel_rfl) ((.cons (i := 0) (off := 0) (v := AG [encA .u8 (⟨[7, 0, 0, 0, 0, 0, 0, 0], rfl⟩ : Arr Int 8)]) (mid := [encA .u8 (⟨[7, 0, 0, 0, 0, 0, 0, 0], rfl⟩ : Arr Int 8), [.slice none 0 0]]) [encA .u8 (⟨[7, 0, 0, 0, 0, 0, 0, 0], rfl⟩ : Arr Int 8)] [8] (by kernel_rfl) (by kernel_rfl) (by simp [len_encA]) (by kernel_rfl) (.cons (i := 1) (off := 8) (v := .slice a4 (0 + n1) c3) (mid := [encA .u8 (⟨[7, 0, 0, 0, 0, 0, 0, 0], rfl⟩ : Arr Int 8), [.slice a4 (0 + n1) c3]]) [[.slice a4 (0 + n1) c3]] [1] (by kernel_rfl) (by kernel_rfl) rfl (by kernel_rfl) .nil))) ?_
 refine WP.alloc (T := 49) (t + 2) [encA .u8 (zA 8), [.slice none 0 0]] [8, 1] (by kernel_rfl) (by simp [len_encA]) ?_
 intro g4 b1 st4 hB1
 replace hR1 := hR1.mono st4 (fun x => x)
 replace hR2 := hR2.mono st4 (fun x => x)
 replace hR4 := hR4.mono st4 (fun x => x) (fun x => x)
 replace tot := tot.trans st4.pure
 refine WP.storeB (ty := 49) (off := 0) (v := AG [encA .u8 (⟨[7, 0, 0, 0, 0, 0, 0, 0], rfl⟩ : Arr Int 8), [.slice a4 (0 + n1) c3]]) hB1 [encA .u8 (⟨[7, 0, 0, 0, 0, 0, 0, 0], rfl⟩ : Arr Int 8), [.slice a4 (0 + n1) c3]] [8, 1] (by kernel_rfl) (by kernel_rfl) (by simp [len_encA]) (by kernel_rfl) [encA .u8 (⟨[7, 0, 0, 0, 0, 0, 0, 0], rfl⟩ : Arr Int 8), [.slice a4 (0 + n1) c3]] (by kernel_rfl) (.arr (.one rfl .nil)) ?_
 intro g5 st5 hB2
 replace hR1 := hR1.mono st5 (WL.no1 (by omega))
 replace hR2 := hR2.mono st5 (WL.no1 (by omega))
 replace hR4 := hR4.mono st5 (WL.no1 (by omega)) (WL.no1 (by omega))
 replace tot := tot.trans (st5.up1 (.inr (by omega)))
 clear hB1
 have hB1 := hB2
 clear hB2
 refine WP.dn ?_
 refine NX.then_n ?_
 refine CP.refr 138 [(0, .slice a1 n1 c1), (1, .slice a2 n2 c2), (7, .int .i64 ((IntKind.i64.wrap x1).tmod (l1.length : Int))), (8, .pointer (some ⟨b1, 0, none⟩))] (by kernel_rfl) (by kernel_rfl) ?_
 clear ds
 intro ds
 refine CP.seqR ?_
 refine WP.stl 1 ?_
 refine WP.mkSl (kd := (Kd.int .i64)) (t := 22) (e := 3) (bytes := 8) (t + 3) [] ([] : List Int) (by kernel_rfl) (by kernel_rfl) (Nat.le_of_ble_eq_true rfl) (Nat.le_of_ble_eq_true rfl) all_nil (rfl) rfl ?_
 intro g6 a5 st6 hR5
 replace hR1 := hR1.mono st6 (fun x => x)
 replace hR2 := hR2.mono st6 (fun x => x)
 replace hB1 := hB1.mono st6 (fun x => x)
 replace hR4 := hR4.mono st6 (fun x => x) (fun x => x)
 replace tot := tot.trans st6.pure
 refine WP.stl 1 ?_
 by_cases hc3 : ([] : List Int).length + l2.length ≤ 17592186044416
 case neg => rw [if_neg hc3] at hs; cases hs
 replace hs := of_if_p hs hc3
 refine WP.append (kd := (Kd.int .i64)) (t := 22) (e := 3) (bytes := 8) (a2 := a2) (c2 := c2) hR5 hR2.src hR2.len (by kernel_rfl) (by kernel_rfl) (by omega) (by simp only [maxLen]; omega) (by omega) ?_
 intro g7 a6 c4 st7 hR6
 replace hR1 := hR1.mono st7 (WL.no1 (by omega))
 replace hR2 := hR2.mono st7 (WL.no1 (by omega))
 replace hB1 := hB1.mono st7 (WL.no1 (by omega))
 replace hR4 := hR4.mono st7 (WL.no1 (by omega)) (WL.no1 (by omega))
 replace tot := tot.trans (st7.up1 (.inr (by omega)))
 refine WP.buildS (places := #[(0, 8), (8, 1)]) (t := 49) [encA .u8 (zA 8), [.slice none 0 0]] [8, 1] (by kernel_rfl) (by kernel_rfl) (by simp [len_encA]) (by kernel_rfl) ((.cons (i := 0) (off := 0) (v := AG [encA .u8 (⟨[8, 0, 0, 0, 0, 0, 0, 0], rfl⟩ : Arr Int 8)]) (mid := [encA .u8 (⟨[8, 0, 0, 0, 0, 0, 0, 0], rfl⟩ : Arr Int 8), [.slice none 0 0]]) [encA .u8 (⟨[8, 0, 0, 0, 0, 0, 0, 0], rfl⟩ : Arr Int 8)] [8] (by kernel_rfl) (by kernel_rfl) (by simp [len_encA]) (by kernel_rfl) (.cons (i := 1) (off := 8) (v := .slice a6 (0 + n2) c4) (mid := [encA .u8 (⟨[8, 0, 0, 0, 0, 0, 0, 0], rfl⟩ : Arr Int 8), [.slice a6 (0 + n2) c4]]) [[.slice a6 (0 + n2) c4]] [1] (by kernel_rfl) (by kernel_rfl) rfl (by kernel_rfl) .nil))) ?_
 refine WP.alloc (T := 49) (t + 4) [encA .u8 (zA 8), [.slice none 0 0]] [8, 1] (by kernel_rfl) (by simp [len_encA]) ?_
 intro g8 b2 st8 hB3
 replace hR1 := hR1.mono st8 (fun x => x)
 replace hR2 := hR2.mono st8 (fun x => x)
 replace hB1 := hB1.mono st8 (fun x => x)
 replace hR4 := hR4.mono st8 (fun x => x) (fun x => x)
 replace hR6 := hR6.mono st8 (fun x => x) (fun x => x)
 replace tot := tot.trans st8.pure
 refine WP.storeB (ty := 49) (off := 0) (v := AG [encA .u8 (⟨[8, 0, 0, 0, 0, 0, 0, 0], rfl⟩ : Arr Int 8), [.slice a6 (0 + n2) c4]]) hB3 [encA .u8 (⟨[8, 0, 0, 0, 0, 0, 0, 0], rfl⟩ : Arr Int 8), [.slice a6 (0 + n2) c4]] [8, 1] (by kernel_rfl) (by kernel_rfl) (by simp [len_encA]) (by kernel_rfl) [encA .u8 (⟨[8, 0, 0, 0, 0, 0, 0, 0], rfl⟩ : Arr Int 8), [.slice a6 (0 + n2) c4]] (by kernel_rfl) (.arr (.one rfl .nil)) ?_
 intro g9 st9 hB4
 replace hR1 := hR1.mono st9 (WL.no1 (by omega))
 replace hR2 := hR2.mono st9 (WL.no1 (by omega))
 replace hB1 := hB1.mono st9 (WL.no1 (by omega))
 replace hR4 := hR4.mono st9 (WL.no1 (by omega)) (WL.no1 (by omega))
 replace hR6 := hR6.mono st9 (WL.no1 (by omega)) (WL.no1 (by omega))
 replace tot := tot.trans (st9.up1 (.inr (by omega)))
 clear hB3
 have hB3 := hB4
 clear hB4
 refine WP.dn ?_
 refine NX.then_n ?_
 refine CP.seq ?_
 by_cases hc4 : (0 : Int) ≤ (l1.length : Int) ∧ (l1.length : Int) ≤ 140737488355328
 case neg => rw [if_neg hc4] at hs; cases hs
 replace hs := of_if_p hs hc4
 by_cases hc5 : (0 : Int) ≤ (l1.length : Int) ∧ (l1.length : Int) ≤ 140737488355328
 case neg => rw [if_neg hc5] at hs; cases hs
 replace hs := of_if_p hs hc5
 by_cases hc6 : (0 : Int) ≤ (l1.length : Int) ∧ (l1.length : Int) ≤ 140737488355328
 case neg => rw [if_neg hc6] at hs; cases hs
 replace hs := of_if_p hs hc6
 refine CP.drawL (by kernel_rfl) [1, 2, 4, 5, 7, 8, 10, 11] N.baizelaw35_CloseMine_0 [⟨none, [], [], fun l g => RdS (Kd.int .i64) g 3 a1 n1 c1 l1⟩, ⟨some 0, [], [0], fun l g => l.getD 0 undef = .int .i64 (l1.length : Int)⟩, ⟨some 1, [], [1], fun l g => ∃ (a7 : Option Addr), l.getD 0 undef = .slice a7 ((l1.length : Int).toNat) ((l1.length : Int).toNat) ∧ OwnS Kd.bool g (t + 5) 4 a7 ((l1.length : Int).toNat) ((l1.length : Int).toNat) (List.replicate (l1.length : Int).toNat (false : Bool))⟩, ⟨some 2, [], [2], fun l g => l.getD 0 undef = .int .i64 (l1.length : Int)⟩, ⟨some 3, [], [3], fun l g => ∃ (a8 : Option Addr), l.getD 0 undef = .slice a8 ((l1.length : Int).toNat) ((l1.length : Int).toNat) ∧ OwnS Kd.bool g (t + 6) 4 a8 ((l1.length : Int).toNat) ((l1.length : Int).toNat) (List.replicate (l1.length : Int).toNat (false : Bool))⟩, ⟨some 4, [], [4], fun l g => l.getD 0 undef = .int .i64 (l1.length : Int)⟩, ⟨some 5, [], [5], fun l g => ∃ (a9 : Option Addr), l.getD 0 undef = .slice a9 ((l1.length : Int).toNat) ((l1.length : Int).toNat) ∧ OwnS Kd.bool g (t + 7) 4 a9 ((l1.length : Int).toNat) ((l1.length : Int).toNat) (List.replicate (l1.length : Int).toNat (false : Bool))⟩, ⟨some 6, [0], [6], fun l g => ∃ (b3 : Nat), l.getD 0 undef = .pointer (some ⟨b3, 0, none⟩) ∧ Box g (t + 8) b3 45 [[.slice none 0 0], [.slice none 0 0], [.slice none 0 0]] [1, 1, 1]⟩, ⟨some 7, [0], [6, 1, 3, 5], fun l g => ∃ (b3 : Nat) (a7 : Option Addr) (a8 : Option Addr) (a9 : Option Addr), l.getD 0 undef = .pointer (some ⟨b3, 0, none⟩) ∧ l.getD 1 undef = .slice a7 ((l1.length : Int).toNat) ((l1.length : Int).toNat) ∧ l.getD 2 undef = .slice a8 ((l1.length : Int).toNat) ((l1.length : Int).toNat) ∧ l.getD 3 undef = .slice a9 ((l1.length : Int).toNat) ((l1.length : Int).toNat) ∧ Box g (t + 8) b3 45 [[.slice a7 ((l1.length : Int).toNat) ((l1.length : Int).toNat)], [.slice a8 ((l1.length : Int).toNat) ((l1.length : Int).toNat)], [.slice a9 ((l1.length : Int).toNat) ((l1.length : Int).toNat)]] [1, 1, 1] ∧ OwnS Kd.bool g (t + 5) 4 a7 ((l1.length : Int).toNat) ((l1.length : Int).toNat) (List.replicate (l1.length : Int).toNat (false : Bool)) ∧ OwnS Kd.bool g (t + 6) 4 a8 ((l1.length : Int).toNat) ((l1.length : Int).toNat) (List.replicate (l1.length : Int).toNat (false : Bool)) ∧ OwnS Kd.bool g (t + 7) 4 a9 ((l1.length : Int).toNat) ((l1.length : Int).toNat) (List.replicate (l1.length : Int).toNat (false : Bool))⟩] [[], [], [], [], [], [], [], [0]] [(t + 8)] [0, 3, 6] [9] (by kernel_rfl) (by simp <;> omega) (by simp) ⟨fun _ _ _ _ st h0 hl hj hR1 => (RdS.mono (e := 3) hR1 st h0), fun _ _ _ _ st h0 hl hj e0 => e0, fun _ _ _ _ st h0 hl hj ⟨a7, e1, hR7⟩ => ⟨a7, e1, (hR7.mono st h0 (fun h => absurd (hl _ h) (by simp <;> omega)))⟩, fun _ _ _ _ st h0 hl hj e2 => e2, fun _ _ _ _ st h0 hl hj ⟨a8, e3, hR8⟩ => ⟨a8, e3, (hR8.mono st h0 (fun h => absurd (hl _ h) (by simp <;> omega)))⟩, fun _ _ _ _ st h0 hl hj e4 => e4, fun _ _ _ _ st h0 hl hj ⟨a9, e5, hR9⟩ => ⟨a9, e5, (hR9.mono st h0 (fun h => absurd (hl _ h) (by simp <;> omega)))⟩, fun _ _ _ _ st h0 hl hj ⟨b3, e6, hB5⟩ => ⟨b3, e6, (hB5.mono st (hj 0 (by simp) _ rfl))⟩, fun _ _ _ _ st h0 hl hj ⟨b3, a7, a8, a9, e6, e1, e3, e5, hB5, hR7, hR8, hR9⟩ => ⟨b3, a7, a8, a9, e6, e1, e3, e5, (hB5.mono st (hj 0 (by simp) _ rfl)), (hR7.mono st h0 (fun h => absurd (hl _ h) (by simp <;> omega))), (hR8.mono st h0 (fun h => absurd (hl _ h) (by simp <;> omega))), (hR9.mono st h0 (fun h => absurd (hl _ h) (by simp <;> omega)))⟩, tv⟩ ⟨hR1, tv, tv, tv, tv, tv, tv, tv, tv, tv⟩ (by kernel_rfl) (fun vs => by kernel_rfl) ?_ ?_ ?_
 ·intro j hj
  have hq : j = 0 := by have h : j < 1 := hj; omega
  rcases hq with rfl
  ·intro vs gq stq hl hf
   obtain ⟨v0, v1, v2, v3, v4, v5, v6, v7, rfl⟩ := len_k8 hl
   obtain ⟨a7, e1, hR7⟩ := (show ∃ (a7 : Option Addr), v1 = .slice a7 ((l1.length : Int).toNat) ((l1.length : Int).toNat) ∧ OwnS Kd.bool gq (t + 5) 4 a7 ((l1.length : Int).toNat) ((l1.length : Int).toNat) (List.replicate (l1.length : Int).toNat (false : Bool)) from hf _ (memI 2 rfl) (by kernel_rfl))
   subst e1
   obtain ⟨a8, e3, hR8⟩ := (show ∃ (a8 : Option Addr), v3 = .slice a8 ((l1.length : Int).toNat) ((l1.length : Int).toNat) ∧ OwnS Kd.bool gq (t + 6) 4 a8 ((l1.length : Int).toNat) ((l1.length : Int).toNat) (List.replicate (l1.length : Int).toNat (false : Bool)) from hf _ (memI 4 rfl) (by kernel_rfl))
   subst e3
   obtain ⟨a9, e5, hR9⟩ := (show ∃ (a9 : Option Addr), v5 = .slice a9 ((l1.length : Int).toNat) ((l1.length : Int).toNat) ∧ OwnS Kd.bool gq (t + 7) 4 a9 ((l1.length : Int).toNat) ((l1.length : Int).toNat) (List.replicate (l1.length : Int).toNat (false : Bool)) from hf _ (memI 6 rfl) (by kernel_rfl))
   subst e5
   show Option.isSome _ = true
   kernel_rfl
 ·intro j hj
  have hq : j = 0 ∨ j = 1 ∨ j = 2 ∨ j = 3 ∨ j = 4 ∨ j = 5 ∨ j = 6 ∨ j = 7 := by have h : j < 8 := hj; omega
  rcases hq with rfl | rfl | rfl | rfl | rfl | rfl | rfl | rfl
  ·intro vs gq stq hl hf
   obtain ⟨v0, v1, v2, v3, v4, v5, v6, v7, rfl⟩ := len_k8 hl
   have hR1 := (show RdS (Kd.int .i64) gq 3 a1 n1 c1 l1 from hf _ (memI 0 rfl) (by kernel_rfl))
   refine WP.len (a := a1) (cp := c1) hR1.len (by kernel_rfl) ?_
   refine WP.dn (Shown.ok (v := .int .i64 (l1.length : Int)) (by kernel_rfl) (Step.refl _ _) ?_)
   exact ⟨tv, rfl, tv, tv, tv, tv, tv, tv, tv, tv⟩
  ·intro vs gq stq hl hf
   obtain ⟨v0, v1, v2, v3, v4, v5, v6, v7, rfl⟩ := len_k8 hl
   have e0 := (show v0 = .int .i64 (l1.length : Int) from hf _ (memI 1 rfl) (by kernel_rfl))
   subst e0
   refine WP.make (kd := Kd.bool) (t + 5) (t := 28) (e := 4) (bytes := 1) (kl := .i64) (kc := .i64) (i := (l1.length : Int)) (by kernel_rfl) (by kernel_rfl) (by omega) (by omega) (by omega) (z := false) (by intro zv hz; cases hz; exact (by exact rfl)) ?_
   intro g10 a7 st10 hR7
   refine WP.dn (Shown.o (v := .slice a7 ((l1.length : Int).toNat) ((l1.length : Int).toNat)) st10.pure ?_)
   exact ⟨tv, tv, ⟨a7, rfl, hR7⟩, tv, tv, tv, tv, tv, tv, tv⟩
  ·intro vs gq stq hl hf
   obtain ⟨v0, v1, v2, v3, v4, v5, v6, v7, rfl⟩ := len_k8 hl
   have hR1 := (show RdS (Kd.int .i64) gq 3 a1 n1 c1 l1 from hf _ (memI 0 rfl) (by kernel_rfl))
   refine WP.len (a := a1) (cp := c1) hR1.len (by kernel_rfl) ?_
   refine WP.dn (Shown.ok (v := .int .i64 (l1.length : Int)) (by kernel_rfl) (Step.refl _ _) ?_)
   exact ⟨tv, tv, tv, rfl, tv, tv, tv, tv, tv, tv⟩
  ·intro vs gq stq hl hf
   obtain ⟨v0, v1, v2, v3, v4, v5, v6, v7, rfl⟩ := len_k8 hl
   have e2 := (show v2 = .int .i64 (l1.length : Int) from hf _ (memI 3 rfl) (by kernel_rfl))
   subst e2
   refine WP.make (kd := Kd.bool) (t + 6) (t := 28) (e := 4) (bytes := 1) (kl := .i64) (kc := .i64) (i := (l1.length : Int)) (by kernel_rfl) (by kernel_rfl) (by omega) (by omega) (by omega) (z := false) (by intro zv hz; cases hz; exact (by exact rfl)) ?_
   intro g11 a8 st11 hR8
   refine WP.dn (Shown.o (v := .slice a8 ((l1.length : Int).toNat) ((l1.length : Int).toNat)) st11.pure ?_)
   exact ⟨tv, tv, tv, tv, ⟨a8, rfl, hR8⟩, tv, tv, tv, tv, tv⟩
  ·intro vs gq stq hl hf
   obtain ⟨v0, v1, v2, v3, v4, v5, v6, v7, rfl⟩ := len_k8 hl
   have hR1 := (show RdS (Kd.int .i64) gq 3 a1 n1 c1 l1 from hf _ (memI 0 rfl) (by kernel_rfl))
   refine WP.len (a := a1) (cp := c1) hR1.len (by kernel_rfl) ?_
   refine WP.dn (Shown.ok (v := .int .i64 (l1.length : Int)) (by kernel_rfl) (Step.refl _ _) ?_)
   exact ⟨tv, tv, tv, tv, tv, rfl, tv, tv, tv, tv⟩
  ·intro vs gq stq hl hf
   obtain ⟨v0, v1, v2, v3, v4, v5, v6, v7, rfl⟩ := len_k8 hl
   have e4 := (show v4 = .int .i64 (l1.length : Int) from hf _ (memI 5 rfl) (by kernel_rfl))
   subst e4
   refine WP.make (kd := Kd.bool) (t + 7) (t := 28) (e := 4) (bytes := 1) (kl := .i64) (kc := .i64) (i := (l1.length : Int)) (by kernel_rfl) (by kernel_rfl) (by omega) (by omega) (by omega) (z := false) (by intro zv hz; cases hz; exact (by exact rfl)) ?_
   intro g12 a9 st12 hR9
   refine WP.dn (Shown.o (v := .slice a9 ((l1.length : Int).toNat) ((l1.length : Int).toNat)) st12.pure ?_)
   exact ⟨tv, tv, tv, tv, tv, tv, ⟨a9, rfl, hR9⟩, tv, tv, tv⟩
  ·intro vs gq stq hl hf
   obtain ⟨v0, v1, v2, v3, v4, v5, v6, v7, rfl⟩ := len_k8 hl
   refine WP.alloc (T := 45) (t + 8) [[.slice none 0 0], [.slice none 0 0], [.slice none 0 0]] [1, 1, 1] (by kernel_rfl) rfl ?_
   intro g13 b3 st13 hB5
   refine WP.dn (Shown.o (v := .pointer (some ⟨b3, 0, none⟩)) st13.pure ?_)
   exact ⟨tv, tv, tv, tv, tv, tv, tv, ⟨b3, rfl, hB5⟩, tv, tv⟩
  ·intro vs gq stq hl hf
   obtain ⟨v0, v1, v2, v3, v4, v5, v6, v7, rfl⟩ := len_k8 hl
   obtain ⟨a7, e1, hR7⟩ := (show ∃ (a7 : Option Addr), v1 = .slice a7 ((l1.length : Int).toNat) ((l1.length : Int).toNat) ∧ OwnS Kd.bool gq (t + 5) 4 a7 ((l1.length : Int).toNat) ((l1.length : Int).toNat) (List.replicate (l1.length : Int).toNat (false : Bool)) from hf _ (memI 2 rfl) (by kernel_rfl))
   subst e1
   obtain ⟨a8, e3, hR8⟩ := (show ∃ (a8 : Option Addr), v3 = .slice a8 ((l1.length : Int).toNat) ((l1.length : Int).toNat) ∧ OwnS Kd.bool gq (t + 6) 4 a8 ((l1.length : Int).toNat) ((l1.length : Int).toNat) (List.replicate (l1.length : Int).toNat (false : Bool)) from hf _ (memI 4 rfl) (by kernel_rfl))
   subst e3
   obtain ⟨a9, e5, hR9⟩ := (show ∃ (a9 : Option Addr), v5 = .slice a9 ((l1.length : Int).toNat) ((l1.length : Int).toNat) ∧ OwnS Kd.bool gq (t + 7) 4 a9 ((l1.length : Int).toNat) ((l1.length : Int).toNat) (List.replicate (l1.length : Int).toNat (false : Bool)) from hf _ (memI 6 rfl) (by kernel_rfl))
   subst e5
   obtain ⟨b3, e6, hB5⟩ := (show ∃ (b3 : Nat), v6 = .pointer (some ⟨b3, 0, none⟩) ∧ Box gq (t + 8) b3 45 [[.slice none 0 0], [.slice none 0 0], [.slice none 0 0]] [1, 1, 1] from hf _ (memI 7 rfl) (by kernel_rfl))
   subst e6
   refine WP.storeB (ty := 45) (off := 0) (v := AG [[.slice a7 ((l1.length : Int).toNat) ((l1.length : Int).toNat)], [.slice a8 ((l1.length : Int).toNat) ((l1.length : Int).toNat)], [.slice a9 ((l1.length : Int).toNat) ((l1.length : Int).toNat)]]) hB5 [[.slice a7 ((l1.length : Int).toNat) ((l1.length : Int).toNat)], [.slice a8 ((l1.length : Int).toNat) ((l1.length : Int).toNat)], [.slice a9 ((l1.length : Int).toNat) ((l1.length : Int).toNat)]] [1, 1, 1] (by kernel_rfl) (by kernel_rfl) rfl (by kernel_rfl) [[.slice a7 ((l1.length : Int).toNat) ((l1.length : Int).toNat)], [.slice a8 ((l1.length : Int).toNat) ((l1.length : Int).toNat)], [.slice a9 ((l1.length : Int).toNat) ((l1.length : Int).toNat)]] (by kernel_rfl) (.one rfl (.one rfl (.one rfl .nil))) ?_
   intro g14 st14 hB6
   refine WP.dn (Shown.o (v := undef) st14 ?_)
   exact ⟨tv, tv, tv, tv, tv, tv, tv, tv, ⟨b3, a7, a8, a9, rfl, rfl, rfl, rfl, hB6, (hR7.mono st14 (WL.no (by simp <;> omega)) (WL.no (by simp <;> omega))), (hR8.mono st14 (WL.no (by simp <;> omega)) (WL.no (by simp <;> omega))), (hR9.mono st14 (WL.no (by simp <;> omega)) (WL.no (by simp <;> omega)))⟩, tv⟩
 intro vs g15 st15 hl hf
 obtain ⟨v0, v1, v2, v3, v4, v5, v6, v7, rfl⟩ := len_k8 hl
 obtain ⟨b3, a7, a8, a9, e6, e1, e3, e5, hB5, hR7, hR8, hR9⟩ := (show ∃ (b3 : Nat) (a7 : Option Addr) (a8 : Option Addr) (a9 : Option Addr), v6 = .pointer (some ⟨b3, 0, none⟩) ∧ v1 = .slice a7 ((l1.length : Int).toNat) ((l1.length : Int).toNat) ∧ v3 = .slice a8 ((l1.length : Int).toNat) ((l1.length : Int).toNat) ∧ v5 = .slice a9 ((l1.length : Int).toNat) ((l1.length : Int).toNat) ∧ Box g15 (t + 8) b3 45 [[.slice a7 ((l1.length : Int).toNat) ((l1.length : Int).toNat)], [.slice a8 ((l1.length : Int).toNat) ((l1.length : Int).toNat)], [.slice a9 ((l1.length : Int).toNat) ((l1.length : Int).toNat)]] [1, 1, 1] ∧ OwnS Kd.bool g15 (t + 5) 4 a7 ((l1.length : Int).toNat) ((l1.length : Int).toNat) (List.replicate (l1.length : Int).toNat (false : Bool)) ∧ OwnS Kd.bool g15 (t + 6) 4 a8 ((l1.length : Int).toNat) ((l1.length : Int).toNat) (List.replicate (l1.length : Int).toNat (false : Bool)) ∧ OwnS Kd.bool g15 (t + 7) 4 a9 ((l1.length : Int).toNat) ((l1.length : Int).toNat) (List.replicate (l1.length : Int).toNat (false : Bool)) from hf _ (memI 8 rfl) (by kernel_rfl))
 subst e6
 subst e1
 subst e3
 subst e5
 replace hR1 := hR1.mono st15 (WL.no1 (by omega))
 replace hB1 := hB1.mono st15 (WL.no1 (by omega))
 replace hR4 := hR4.mono st15 (WL.no1 (by omega)) (WL.no1 (by omega))
 replace hB3 := hB3.mono st15 (WL.no1 (by omega))
 replace hR6 := hR6.mono st15 (WL.no1 (by omega)) (WL.no1 (by omega))
 replace tot := tot.trans (st15.up1 (.inr (by omega)))
 refine NX.then_n ?_
 refine CP.refr 138 [(0, .slice a1 n1 c1), (7, .int .i64 ((IntKind.i64.wrap x1).tmod (l1.length : Int))), (8, .pointer (some ⟨b1, 0, none⟩)), (9, .pointer (some ⟨b2, 0, none⟩)), (10, .pointer (some ⟨b3, 0, none⟩))] (by kernel_rfl) (by kernel_rfl) ?_
 clear ds
 intro ds
 refine CP.seq ?_
 refine CP.seqR ?_
 refine WP.stl 1 ?_
 refine WP.dn ?_
 refine NX.then_n ?_
 refine CP.block ?_
 generalize fuel = k1 at hs
 refine CP.loop (fun k1 tm g => ∃ (l11 : List Bool) (a13 : Option Addr) (n6 : Nat) (c8 : Nat) (x7 : Int), Fr 138 [(0, .slice a1 n1 c1), (7, .int .i64 ((IntKind.i64.wrap x1).tmod (l1.length : Int))), (8, .pointer (some ⟨b1, 0, none⟩)), (9, .pointer (some ⟨b2, 0, none⟩)), (10, .pointer (some ⟨b3, 0, none⟩)), (11, .int .i64 x7)] tm ∧ Step (fun l => NoM l ∨ t ≤ l) g0 g ∧ RdS (Kd.int .i64) g 3 a1 n1 c1 l1 ∧ Box g (t + 2) b1 49 [encA .u8 (⟨[7, 0, 0, 0, 0, 0, 0, 0], rfl⟩ : Arr Int 8), [.slice a4 (0 + n1) c3]] [8, 1] ∧ OwnS (Kd.int .i64) g (t + 1) 3 a4 (0 + n1) c3 (([] : List Int) ++ l1) ∧ Box g (t + 4) b2 49 [encA .u8 (⟨[8, 0, 0, 0, 0, 0, 0, 0], rfl⟩ : Arr Int 8), [.slice a6 (0 + n2) c4]] [8, 1] ∧ OwnS (Kd.int .i64) g (t + 3) 3 a6 (0 + n2) c4 (([] : List Int) ++ l2) ∧ Box g (t + 8) b3 45 [[.slice a13 n6 c8], [.slice a8 ((l1.length : Int).toNat) ((l1.length : Int).toNat)], [.slice a9 ((l1.length : Int).toNat) ((l1.length : Int).toNat)]] [1, 1, 1] ∧ OwnS Kd.bool g (t + 5) 4 a13 n6 c8 l11 ∧ OwnS Kd.bool g (t + 6) 4 a8 ((l1.length : Int).toNat) ((l1.length : Int).toNat) (List.replicate (l1.length : Int).toNat (false : Bool)) ∧ OwnS Kd.bool g (t + 7) 4 a9 ((l1.length : Int).toNat) ((l1.length : Int).toNat) (List.replicate (l1.length : Int).toNat (false : Bool)) ∧ F.baizelaw35_CloseMine.l1 l1 l2 x1 k1 l11 x7 = some o1) k1 ?_ ?_ ?_
 ·exact ⟨(List.replicate (l1.length : Int).toNat (false : Bool)), a7, (l1.length : Int).toNat, (l1.length : Int).toNat, 0, ⟨by kernel_rfl, by kernel_rfl⟩, tot, hR1, hB1, hR4, hB3, hR6, hB5, hR7, hR8, hR9, hs⟩
 ·rintro tm g ⟨l11, a13, n6, c8, x7, hF, tot, hR1, hB1, hR4, hB3, hR6, hB5, hR13, hR8, hR9, hs⟩
  exact absurd hs (by simp [F.baizelaw35_CloseMine.l1])
 clear tot hs hR1 hB1 hR4 hB3 hR6 hB5 hR7 hR8 hR9
 rintro k1 tm g ⟨l11, a13, n6, c8, x7, hF, tot, hR1, hB1, hR4, hB3, hR6, hB5, hR13, hR8, hR9, hs⟩
 clear ds
 obtain ⟨ds, rfl⟩ := hF.open
 clear hF
 unfold F.baizelaw35_CloseMine.l1 at hs
 refine CP.seq ?_
 refine CP.seqR ?_
 refine WP.stl 2 ?_
 refine WP.len (a := a1) (cp := c1) hR1.len (by kernel_rfl) ?_
 refine WP.stl 1 ?_
 refine WP.dn ?_
 refine NX.then_n ?_
 refine CP.cond (b := decide (x7 < (l1.length : Int))) (by kernel_rfl) (fun h16 => ?_) (fun h16 => ?_)
 ·replace hs := of_if_t hs h16
  refine CP.skip ?_
  refine NX.then_n ?_
  refine CP.seq ?_
  refine CP.block ?_
  refine CP.region ?_
  refine WP.stl 1 ?_
  refine WP.loadB (v := .slice a13 n6 c8) hB5 (by kernel_rfl) (by kernel_rfl) ?_
  refine WP.stl 4 ?_
  by_cases hc13 : (0 : Int) ≤ x7 ∧ x7 < (l11.length : Int)
  case neg => rw [if_neg hc13] at hs; cases hs
  replace hs := of_if_p hs hc13
  obtain ⟨b14, u7, ha7⟩ := hR13.at hc13
  refine WP.indexA (t := 28) (e := 4) (sz := 1) (cap := c8) (k := .i64) (i := x7) hR13.len ha7 (by kernel_rfl) (by kernel_rfl) hc13 ?_
  refine WP.storeO (ty := 4) (v := .bool (x7 != ((IntKind.i64.wrap x1).tmod (l1.length : Int)))) hR13 (by omega) (i := x7.toNat) (by first | omega | (simp only [setI_length] at *; omega)) ha7 (by kernel_rfl) (x := (x7 != ((IntKind.i64.wrap x1).tmod (l1.length : Int)))) (by exact rfl) (by kernel_rfl) ?_
  intro g52 st52 hO51
  replace hR1 := hR1.mono st52 (WL.no1 (by omega))
  replace hB1 := hB1.mono st52 (WL.no1 (by omega))
  replace hR4 := hR4.mono st52 (WL.no1 (by omega)) (WL.no1 (by omega))
  replace hB3 := hB3.mono st52 (WL.no1 (by omega))
  replace hR6 := hR6.mono st52 (WL.no1 (by omega)) (WL.no1 (by omega))
  replace hB5 := hB5.mono st52 (WL.no1 (by omega))
  replace hR8 := hR8.mono st52 (WL.no1 (by omega)) (WL.no1 (by omega))
  replace hR9 := hR9.mono st52 (WL.no1 (by omega)) (WL.no1 (by omega))
  replace tot := tot.trans (st52.up1 (.inr (by omega)))
  clear hR13
  have hR13 : OwnS Kd.bool g52 (t + 5) 4 a13 n6 c8 (setI l11 x7 (x7 != ((IntKind.i64.wrap x1).tmod (l1.length : Int)))) := hO51
  clear hO51
  refine WP.dn ?_
  refine NX.block_n ?_
  refine NX.then_n ?_
  refine CP.region ?_
  refine WP.stl 3 ?_
  refine WP.dn ?_
  refine NX.post ?_
  exact ⟨(setI l11 x7 (x7 != ((IntKind.i64.wrap x1).tmod (l1.length : Int)))), a13, n6, c8, (IntKind.i64.wrap (x7 + 1)), ⟨by kernel_rfl, by kernel_rfl⟩, tot, hR1, hB1, hR4, hB3, hR6, hB5, hR13, hR8, hR9, hs⟩
 replace hs := of_if_f hs h16
 refine CP.exit ?_
 refine NX.then_e ?_
 refine NX.then_e ?_
 refine NX.block_s ?_
 refine NX.then_n ?_
 refine CP.seqR ?_
 refine WP.stl 1 ?_
 refine WP.loadB (v := .slice a8 ((l1.length : Int).toNat) ((l1.length : Int).toNat)) hB5 (by kernel_rfl) (by kernel_rfl) ?_
 refine WP.stl 1 ?_
 by_cases hc14 : (0 : Int) ≤ ((IntKind.i64.wrap x1).tmod (l1.length : Int)) ∧ ((IntKind.i64.wrap x1).tmod (l1.length : Int)) < ((List.replicate (l1.length : Int).toNat (false : Bool)).length : Int)
 case neg => rw [if_neg hc14] at hs; cases hs
 replace hs := of_if_p hs hc14
 obtain ⟨b15, u8, ha8⟩ := hR8.at hc14
 refine WP.indexA (t := 28) (e := 4) (sz := 1) (cap := (l1.length : Int).toNat) (k := .i64) (i := ((IntKind.i64.wrap x1).tmod (l1.length : Int))) hR8.len ha8 (by kernel_rfl) (by kernel_rfl) hc14 ?_
 refine WP.storeO (ty := 4) (v := .bool true) hR8 (by omega) (i := ((IntKind.i64.wrap x1).tmod (l1.length : Int)).toNat) (by first | omega | (simp only [setI_length] at *; omega)) ha8 (by kernel_rfl) (x := true) (by exact rfl) (by kernel_rfl) ?_
 intro g53 st53 hO52
 replace hR1 := hR1.mono st53 (WL.no1 (by omega))
 replace hB1 := hB1.mono st53 (WL.no1 (by omega))
 replace hR4 := hR4.mono st53 (WL.no1 (by omega)) (WL.no1 (by omega))
 replace hB3 := hB3.mono st53 (WL.no1 (by omega))
 replace hR6 := hR6.mono st53 (WL.no1 (by omega)) (WL.no1 (by omega))
 replace hB5 := hB5.mono st53 (WL.no1 (by omega))
 replace hR13 := hR13.mono st53 (WL.no1 (by omega)) (WL.no1 (by omega))
 replace hR9 := hR9.mono st53 (WL.no1 (by omega)) (WL.no1 (by omega))
 replace tot := tot.trans (st53.up1 (.inr (by omega)))
 clear hR8
 have hR8 : OwnS Kd.bool g53 (t + 6) 4 a8 ((l1.length : Int).toNat) ((l1.length : Int).toNat) (setI (List.replicate (l1.length : Int).toNat (false : Bool)) ((IntKind.i64.wrap x1).tmod (l1.length : Int)) true) := hO52
 clear hO52
 refine WP.dn ?_
 refine NX.then_n ?_
 refine CP.seq ?_
 refine CP.seq ?_
 replace hs := Option.bind_eq_some_iff.1 hs
 obtain ⟨d7, hk22, hs⟩ := hs
 replace hs := Option.bind_eq_some_iff.1 hs
 obtain ⟨d8, hk23, hs⟩ := hs
 refine CP.drawL (by kernel_rfl) [0, 1, 2, 3, 4] [[], [0], [], [0, 1, 2], [0, 1, 2, 3]] [⟨none, [], [], fun l g => Box g (t + 2) b1 49 [encA .u8 (⟨[7, 0, 0, 0, 0, 0, 0, 0], rfl⟩ : Arr Int 8), [.slice a4 (0 + n1) c3]] [8, 1]⟩, ⟨none, [0], [], fun l g => OwnS (Kd.int .i64) g (t + 1) 3 a4 (0 + n1) c3 (([] : List Int) ++ l1)⟩, ⟨none, [], [], fun l g => Box g (t + 4) b2 49 [encA .u8 (⟨[8, 0, 0, 0, 0, 0, 0, 0], rfl⟩ : Arr Int 8), [.slice a6 (0 + n2) c4]] [8, 1]⟩, ⟨none, [1], [], fun l g => OwnS (Kd.int .i64) g (t + 3) 3 a6 (0 + n2) c4 (([] : List Int) ++ l2)⟩, ⟨some 0, [], [0], fun l g => l.getD 0 undef = AG [encA .u8 (⟨[7, 0, 0, 0, 0, 0, 0, 0], rfl⟩ : Arr Int 8), [.slice a4 (0 + n1) c3]]⟩, ⟨some 1, [], [1], fun l g => l.getD 0 undef = AG [encA .u8 d7]⟩, ⟨some 1, [0], [], fun l g => OwnS (Kd.int .i64) g (t + 1) 3 a4 (0 + n1) c3 (([] : List Int) ++ l1)⟩, ⟨some 2, [], [2], fun l g => l.getD 0 undef = AG [encA .u8 (⟨[8, 0, 0, 0, 0, 0, 0, 0], rfl⟩ : Arr Int 8), [.slice a6 (0 + n2) c4]]⟩, ⟨some 3, [], [3], fun l g => l.getD 0 undef = AG [encA .u8 d8]⟩, ⟨some 3, [1], [], fun l g => OwnS (Kd.int .i64) g (t + 3) 3 a6 (0 + n2) c4 (([] : List Int) ++ l2)⟩, ⟨some 4, [], [4], fun l g => l.getD 0 undef = .bool (d7.1 == d8.1)⟩] [[], [0], [], [1], []] [(t + 1), (t + 3)] [] [] (by kernel_rfl) (by simp <;> omega) (by simp <;> omega) ⟨fun _ _ _ _ st h0 hl hj hB1 => (hB1.mono st (fun h => absurd (hl _ h) (by simp <;> omega))), fun _ _ _ _ st h0 hl hj hR4 => (hR4.mono st h0 (hj 0 (by simp) _ rfl)), fun _ _ _ _ st h0 hl hj hB3 => (hB3.mono st (fun h => absurd (hl _ h) (by simp <;> omega))), fun _ _ _ _ st h0 hl hj hR6 => (hR6.mono st h0 (hj 1 (by simp) _ rfl)), fun _ _ _ _ st h0 hl hj e0 => e0, fun _ _ _ _ st h0 hl hj e1 => e1, fun _ _ _ _ st h0 hl hj hR4 => (hR4.mono st h0 (hj 0 (by simp) _ rfl)), fun _ _ _ _ st h0 hl hj e2 => e2, fun _ _ _ _ st h0 hl hj e3 => e3, fun _ _ _ _ st h0 hl hj hR6 => (hR6.mono st h0 (hj 1 (by simp) _ rfl)), fun _ _ _ _ st h0 hl hj e4 => e4, tv⟩ ⟨hB1, hR4, hB3, hR6, tv, tv, tv, tv, tv, tv, tv, tv⟩ (by kernel_rfl) (fun vs => by kernel_rfl) ?_ ?_ ?_
 ·intro j hj; exact absurd hj (by simp)
 ·intro j hj
  have hq : j = 0 ∨ j = 1 ∨ j = 2 ∨ j = 3 ∨ j = 4 := by have h : j < 5 := hj; omega
  rcases hq with rfl | rfl | rfl | rfl | rfl
  ·intro vs gq stq hl hf
   obtain ⟨v0, v1, v2, v3, v4, rfl⟩ := len_k5 hl
   have hB1 := (show Box gq (t + 2) b1 49 [encA .u8 (⟨[7, 0, 0, 0, 0, 0, 0, 0], rfl⟩ : Arr Int 8), [.slice a4 (0 + n1) c3]] [8, 1] from hf _ (memI 0 rfl) (by kernel_rfl))
   refine WP.loadB (v := AG [encA .u8 (⟨[7, 0, 0, 0, 0, 0, 0, 0], rfl⟩ : Arr Int 8), [.slice a4 (0 + n1) c3]]) hB1 (by kernel_rfl) (by kernel_rfl) ?_
   refine WP.dn (Shown.ok (v := AG [encA .u8 (⟨[7, 0, 0, 0, 0, 0, 0, 0], rfl⟩ : Arr Int 8), [.slice a4 (0 + n1) c3]]) (by kernel_rfl) (Step.refl _ _) ?_)
   exact ⟨tv, tv, tv, tv, rfl, tv, tv, tv, tv, tv, tv, tv⟩
  ·intro vs gq stq hl hf
   obtain ⟨v0, v1, v2, v3, v4, rfl⟩ := len_k5 hl
   have hR4 := (show OwnS (Kd.int .i64) gq (t + 1) 3 a4 (0 + n1) c3 (([] : List Int) ++ l1) from hf _ (memI 1 rfl) (by kernel_rfl))
   have e0 := (show v0 = AG [encA .u8 (⟨[7, 0, 0, 0, 0, 0, 0, 0], rfl⟩ : Arr Int 8), [.slice a4 (0 + n1) c3]] from hf _ (memI 4 rfl) (by kernel_rfl))
   subst e0
   have hS11 : 0 ∉ ([(t + 1)] : List Nat) := by simp <;> omega
   have stl11 := GW.lend_step gq [(t + 1)]
   have hRl35 := hR4.lendTo hS11 (by simp)
   refine WP.regw (g' := GW.lend gq [(t + 1)]) rfl ?_
   have hcal22 := P.state_Payout_Digest (GW.lend gq [(t + 1)]) (⟨[7, 0, 0, 0, 0, 0, 0, 0], rfl⟩ : Arr Int 8) (([] : List Int) ++ l1) a4 (0 + n1) c3 hRl35 d7 hk22
   refine WP.callC hcal22 (by kernel_rfl) ?_
   rintro _ g54 st54 rfl
   have st55 := (GW.back_step st54).lentS
   have hO53 := hR4.backTo hS11 (by simp) st54 (fun x => x)
   refine WP.regw (g' := GW.back gq g54 [(t + 1)]) rfl ?_
   generalize GW.back gq g54 [(t + 1)] = g55 at *
   refine WP.dn (Shown.o (v := AG [encA .u8 d7]) st55 ?_)
   exact ⟨tv, tv, tv, tv, tv, rfl, hO53, tv, tv, tv, tv, tv⟩
  ·intro vs gq stq hl hf
   obtain ⟨v0, v1, v2, v3, v4, rfl⟩ := len_k5 hl
   have hB3 := (show Box gq (t + 4) b2 49 [encA .u8 (⟨[8, 0, 0, 0, 0, 0, 0, 0], rfl⟩ : Arr Int 8), [.slice a6 (0 + n2) c4]] [8, 1] from hf _ (memI 2 rfl) (by kernel_rfl))
   refine WP.loadB (v := AG [encA .u8 (⟨[8, 0, 0, 0, 0, 0, 0, 0], rfl⟩ : Arr Int 8), [.slice a6 (0 + n2) c4]]) hB3 (by kernel_rfl) (by kernel_rfl) ?_
   refine WP.dn (Shown.ok (v := AG [encA .u8 (⟨[8, 0, 0, 0, 0, 0, 0, 0], rfl⟩ : Arr Int 8), [.slice a6 (0 + n2) c4]]) (by kernel_rfl) (Step.refl _ _) ?_)
   exact ⟨tv, tv, tv, tv, tv, tv, tv, rfl, tv, tv, tv, tv⟩
  ·intro vs gq stq hl hf
   obtain ⟨v0, v1, v2, v3, v4, rfl⟩ := len_k5 hl
   have hR6 := (show OwnS (Kd.int .i64) gq (t + 3) 3 a6 (0 + n2) c4 (([] : List Int) ++ l2) from hf _ (memI 3 rfl) (by kernel_rfl))
   have e2 := (show v2 = AG [encA .u8 (⟨[8, 0, 0, 0, 0, 0, 0, 0], rfl⟩ : Arr Int 8), [.slice a6 (0 + n2) c4]] from hf _ (memI 7 rfl) (by kernel_rfl))
   subst e2
   have hS12 : 0 ∉ ([(t + 3)] : List Nat) := by simp <;> omega
   have stl12 := GW.lend_step gq [(t + 3)]
   have hRl36 := hR6.lendTo hS12 (by simp)
   refine WP.regw (g' := GW.lend gq [(t + 3)]) rfl ?_
   have hcal23 := P.state_Payout_Digest (GW.lend gq [(t + 3)]) (⟨[8, 0, 0, 0, 0, 0, 0, 0], rfl⟩ : Arr Int 8) (([] : List Int) ++ l2) a6 (0 + n2) c4 hRl36 d8 hk23
   refine WP.callC hcal23 (by kernel_rfl) ?_
   rintro _ g56 st56 rfl
   have st57 := (GW.back_step st56).lentS
   have hO54 := hR6.backTo hS12 (by simp) st56 (fun x => x)
   refine WP.regw (g' := GW.back gq g56 [(t + 3)]) rfl ?_
   generalize GW.back gq g56 [(t + 3)] = g57 at *
   refine WP.dn (Shown.o (v := AG [encA .u8 d8]) st57 ?_)
   exact ⟨tv, tv, tv, tv, tv, tv, tv, tv, rfl, hO54, tv, tv⟩
  ·intro vs gq stq hl hf
   obtain ⟨v0, v1, v2, v3, v4, rfl⟩ := len_k5 hl
   have e1 := (show v1 = AG [encA .u8 d7] from hf _ (memI 5 rfl) (by kernel_rfl))
   subst e1
   have e3 := (show v3 = AG [encA .u8 d8] from hf _ (memI 8 rfl) (by kernel_rfl))
   subst e3
   refine WP.eqV (by kernel_rfl) (by kernel_rfl) (EqV.arr (d := 9998) (t := 47) (e := 5) (m := 8) (k := .u8) (x := d7) (y := d8) (by kernel_rfl) (by kernel_rfl)) ?_
   refine WP.dn (Shown.ok (v := .bool (d7.1 == d8.1)) (by kernel_rfl) (Step.refl _ _) ?_)
   exact ⟨tv, tv, tv, tv, tv, tv, tv, tv, tv, tv, rfl, tv⟩
 intro vs g58 st58 hl hf
 obtain ⟨v0, v1, v2, v3, v4, rfl⟩ := len_k5 hl
 have hR4 := (show OwnS (Kd.int .i64) g58 (t + 1) 3 a4 (0 + n1) c3 (([] : List Int) ++ l1) from hf _ (memI 6 rfl) (by kernel_rfl))
 have hR6 := (show OwnS (Kd.int .i64) g58 (t + 3) 3 a6 (0 + n2) c4 (([] : List Int) ++ l2) from hf _ (memI 9 rfl) (by kernel_rfl))
 have e4 := (show v4 = .bool (d7.1 == d8.1) from hf _ (memI 10 rfl) (by kernel_rfl))
 subst e4
 replace hR1 := hR1.mono st58 (WL.no2 (by omega) (by omega))
 replace hB1 := hB1.mono st58 (WL.no2 (by omega) (by omega))
 replace hB3 := hB3.mono st58 (WL.no2 (by omega) (by omega))
 replace hB5 := hB5.mono st58 (WL.no2 (by omega) (by omega))
 replace hR13 := hR13.mono st58 (WL.no2 (by omega) (by omega)) (WL.no2 (by omega) (by omega))
 replace hR8 := hR8.mono st58 (WL.no2 (by omega) (by omega)) (WL.no2 (by omega) (by omega))
 replace hR9 := hR9.mono st58 (WL.no2 (by omega) (by omega)) (WL.no2 (by omega) (by omega))
 replace tot := tot.trans (st58.up2 (.inr (by omega)) (.inr (by omega)))
 refine NX.then_n ?_
 refine CP.refr 138 [(0, .slice a1 n1 c1), (7, .int .i64 ((IntKind.i64.wrap x1).tmod (l1.length : Int))), (8, .pointer (some ⟨b1, 0, none⟩)), (9, .pointer (some ⟨b2, 0, none⟩)), (10, .pointer (some ⟨b3, 0, none⟩)), (77, .bool (d7.1 == d8.1))] (by kernel_rfl) (by kernel_rfl) ?_
 clear ds
 intro ds
 refine CP.cond (b := (d7.1 == d8.1)) (by kernel_rfl) (fun h17 => ?_) (fun h17 => ?_)
 ·replace hs := of_if_t hs h17
  refine CP.seqR ?_
  replace hs := Option.bind_eq_some_iff.1 hs
  obtain ⟨q13, hk24, hs⟩ := hs
  have hcal24 := P.baizelaw35_told g58 q13 hk24
  refine WP.callC hcal24 (by kernel_rfl) ?_
  rintro _ g59 st59 rfl
  replace hR1 := hR1.mono st59 (fun x => x)
  replace hB1 := hB1.mono st59 (fun x => x)
  replace hR4 := hR4.mono st59 (fun x => x) (fun x => x)
  replace hB3 := hB3.mono st59 (fun x => x)
  replace hR6 := hR6.mono st59 (fun x => x) (fun x => x)
  replace hB5 := hB5.mono st59 (fun x => x)
  replace hR13 := hR13.mono st59 (fun x => x) (fun x => x)
  replace hR8 := hR8.mono st59 (fun x => x) (fun x => x)
  replace hR9 := hR9.mono st59 (fun x => x) (fun x => x)
  replace tot := tot.trans st59.pure
  refine WP.stl 1 ?_
  refine WP.dn ?_
  refine NX.then_n ?_
  refine CP.ret ?_
  refine NX.then_r ?_
  replace hs := Option.some.inj hs
  obtain rfl := hs
  exact NX.fin (v := .bool q13) (Res.still (by kernel_rfl)) tot htL rfl
 replace hs := of_if_f hs h17
 refine CP.skip ?_
 refine NX.then_n ?_
 refine CP.seqR ?_
 refine WP.loadB (v := AG [encA .u8 (⟨[7, 0, 0, 0, 0, 0, 0, 0], rfl⟩ : Arr Int 8), [.slice a4 (0 + n1) c3]]) hB1 (by kernel_rfl) (by kernel_rfl) ?_
 refine WP.loadB (v := AG [encA .u8 (⟨[8, 0, 0, 0, 0, 0, 0, 0], rfl⟩ : Arr Int 8), [.slice a6 (0 + n2) c4]]) hB3 (by kernel_rfl) (by kernel_rfl) ?_
 refine WP.stl 1 ?_
 refine WP.len (a := a1) (cp := c1) hR1.len (by kernel_rfl) ?_
 refine WP.loadB (v := AG [[.slice a13 n6 c8], [.slice a8 ((l1.length : Int).toNat) ((l1.length : Int).toNat)], [.slice a9 ((l1.length : Int).toNat) ((l1.length : Int).toNat)]]) hB5 (by kernel_rfl) (by kernel_rfl) ?_
 replace hs := Option.bind_eq_some_iff.1 hs
 obtain ⟨⟨l21, d9, l22, l23, l24, l25, l26, l27, l28⟩, hk25, hs⟩ := hs
 dsimp only at hs
 have hcal25 := P.baizelaw35_vote_2 g58 (t + 1) (t + 3) (t + 5) (t + 6) (t + 7) (t + 19) (t + 20) (t + 21) (t + 22) (t + 23) (⟨[7, 0, 0, 0, 0, 0, 0, 0], rfl⟩ : Arr Int 8) (([] : List Int) ++ l1) (⟨[8, 0, 0, 0, 0, 0, 0, 0], rfl⟩ : Arr Int 8) (([] : List Int) ++ l2) (l1.length : Int) l11 (setI (List.replicate (l1.length : Int).toNat (false : Bool)) ((IntKind.i64.wrap x1).tmod (l1.length : Int)) true) (List.replicate (l1.length : Int).toNat (false : Bool)) a4 (0 + n1) c3 a6 (0 + n2) c4 a13 n6 c8 a8 ((l1.length : Int).toNat) ((l1.length : Int).toNat) a9 ((l1.length : Int).toNat) ((l1.length : Int).toNat) hR4 hR6 hR13 hR8 hR9 (by omega) (by omega) (by omega) (by omega) (by omega) (by omega) (by omega) (by omega) (by omega) (by omega) (by omega) (by omega) (by omega) (by omega) (by omega) l21 d9 l22 l23 l24 l25 l26 l27 l28 hk25
 refine WP.callC hcal25 (by kernel_rfl) ?_
 rintro _ g60 st60 ⟨b16, a18, n11, c13, b17, a19, n12, c14, a20, n13, c15, rfl, hB11, hR18, hB12, hR19, hR20, hO55, hO56, hO57, hO58, hO59⟩
 replace hR1 := hR1.mono st60 (WL.no (by simp <;> omega))
 replace hB1 := hB1.mono st60 (WL.no (by simp <;> omega))
 replace hB3 := hB3.mono st60 (WL.no (by simp <;> omega))
 replace hB5 := hB5.mono st60 (WL.no (by simp <;> omega))
 replace tot := tot.trans (st60.up (by intro l hl; simp at hl; rcases hl with rfl | rfl | rfl | rfl | rfl <;> first | exact .inr (by omega) | exact .inl (by simp [WL])))
 clear hR4
 have hR4 : OwnS (Kd.int .i64) g60 (t + 1) 3 a4 (0 + n1) c3 l24 := hO55
 clear hO55
 clear hR6
 have hR6 : OwnS (Kd.int .i64) g60 (t + 3) 3 a6 (0 + n2) c4 l25 := hO56
 clear hO56
 clear hR13
 have hR13 : OwnS Kd.bool g60 (t + 5) 4 a13 n6 c8 l26 := hO57
 clear hO57
 clear hR8
 have hR8 : OwnS Kd.bool g60 (t + 6) 4 a8 ((l1.length : Int).toNat) ((l1.length : Int).toNat) l27 := hO58
 clear hO58
 clear hR9
 have hR9 : OwnS Kd.bool g60 (t + 7) 4 a9 ((l1.length : Int).toNat) ((l1.length : Int).toNat) l28 := hO59
 clear hO59
 refine WP.stl 7 ?_
 refine WP.dn ?_
 refine NX.then_n ?_
 refine CP.refr 138 [(0, .slice a1 n1 c1), (7, .int .i64 ((IntKind.i64.wrap x1).tmod (l1.length : Int))), (8, .pointer (some ⟨b1, 0, none⟩)), (10, .pointer (some ⟨b3, 0, none⟩)), (12, .pointer (some ⟨b16, 0, none⟩)), (13, .slice a19 n12 c14), (14, .slice a20 n13 c15)] (by kernel_rfl) (by kernel_rfl) ?_
 clear ds
 intro ds
 refine CP.seq ?_
 refine CP.seqR ?_
 refine WP.stl 2 ?_
 refine WP.dn ?_
 refine NX.then_n ?_
 refine CP.cond_f (by kernel_rfl) ?_
 refine CP.skip ?_
 refine NX.then_n ?_
 refine CP.seqR ?_
 refine WP.stl 1 ?_
 replace hs := Option.bind_eq_some_iff.1 hs
 obtain ⟨⟨x14, x15⟩, hk26, hs⟩ := hs
 dsimp only at hs
 have hcal26 := P.baizeref03_Sum g60 l1 a1 n1 c1 hR1 x14 x15 hk26
 refine WP.callC hcal26 (by kernel_rfl) ?_
 rintro _ g61 st61 rfl
 replace hR1 := hR1.mono st61 (fun x => x)
 replace hB1 := hB1.mono st61 (fun x => x)
 replace hR4 := hR4.mono st61 (fun x => x) (fun x => x)
 replace hB5 := hB5.mono st61 (fun x => x)
 replace hR13 := hR13.mono st61 (fun x => x) (fun x => x)
 replace hR8 := hR8.mono st61 (fun x => x) (fun x => x)
 replace hR9 := hR9.mono st61 (fun x => x) (fun x => x)
 replace hB11 := hB11.mono st61 (fun x => x)
 replace hR18 := hR18.mono st61 (fun x => x) (fun x => x)
 replace hB12 := hB12.mono st61 (fun x => x)
 replace hR19 := hR19.mono st61 (fun x => x) (fun x => x)
 replace hR20 := hR20.mono st61 (fun x => x) (fun x => x)
 replace tot := tot.trans st61.pure
 refine WP.stl 5 ?_
 refine WP.dn ?_
 refine NX.then_n ?_
 refine CP.seq ?_
 refine CP.seqR ?_
 refine WP.stl 2 ?_
 refine WP.dn ?_
 refine NX.then_n ?_
 refine CP.cond (b := (x15 != 0)) (by kernel_rfl) (fun h18 => ?_) (fun h18 => ?_)
 ·replace hs := of_if_t hs h18
  refine CP.cut (fun tm g => ∃ (q15 : Bool), Fr 138 [(6, .bool q15)] tm ∧ Step (fun l => NoM l ∨ t ≤ l) g0 g ∧ (F.baizelaw35_CloseMine.c2 q15) = some o1) ?_ ?_
  ·refine CP.region ?_
   refine WP.stl 2 ?_
   refine WP.loadB (v := AG [encA .u8 (⟨[7, 0, 0, 0, 0, 0, 0, 0], rfl⟩ : Arr Int 8), [.slice a4 (0 + n1) c3]]) hB1 (by kernel_rfl) (by kernel_rfl) ?_
   refine WP.stl 4 ?_
   refine WP.loadB (v := .slice a9 ((l1.length : Int).toNat) ((l1.length : Int).toNat)) hB5 (by kernel_rfl) (by kernel_rfl) ?_
   replace hs := Option.bind_eq_some_iff.1 hs
   obtain ⟨x17, hk29, hs⟩ := hs
   have hS14 : 0 ∉ ([(t + 20), (t + 1), (t + 22), (t + 23), (t + 7)] : List Nat) := by simp <;> omega
   have stl14 := GW.lend_step g61 [(t + 20), (t + 1), (t + 22), (t + 23), (t + 7)]
   have hRl42 := hR18.lendTo hS14 (by simp)
   have hRl43 := hR4.lendTo hS14 (by simp)
   have hRl44 := hR19.lendTo hS14 (by simp)
   have hRl45 := hR20.lendTo hS14 (by simp)
   have hRl46 := hR9.lendTo hS14 (by simp)
   refine WP.regw (g' := GW.lend g61 [(t + 20), (t + 1), (t + 22), (t + 23), (t + 7)]) rfl ?_
   have hcal29 := P.close_Agree (GW.lend g61 [(t + 20), (t + 1), (t + 22), (t + 23), (t + 7)]) (t + 19) (t + 21) l21 d9 (⟨[7, 0, 0, 0, 0, 0, 0, 0], rfl⟩ : Arr Int 8) l24 x14 l22 l23 l28 a18 n11 c13 a4 (0 + n1) c3 a19 n12 c14 a20 n13 c15 a9 ((l1.length : Int).toNat) ((l1.length : Int).toNat) b16 b17 hRl42 hRl43 hRl44 hRl45 hRl46 (hB12.mono stl14 (WL.no (by simp <;> omega))) (hB11.mono stl14 (WL.no (by simp <;> omega))) (by omega) (by omega) (by omega) x17 hk29
   refine WP.callC hcal29 (by kernel_rfl) ?_
   rintro _ g65 st65 rfl
   have st66 := (GW.back_step st65).lentS
   have hO65 := hR18.backTo hS14 (by simp) st65 (fun x => x)
   have hO66 := hR4.backTo hS14 (by simp) st65 (fun x => x)
   have hO67 := hR19.backTo hS14 (by simp) st65 (fun x => x)
   have hO68 := hR20.backTo hS14 (by simp) st65 (fun x => x)
   have hO69 := hR9.backTo hS14 (by simp) st65 (fun x => x)
   refine WP.regw (g' := GW.back g61 g65 [(t + 20), (t + 1), (t + 22), (t + 23), (t + 7)]) rfl ?_
   generalize GW.back g61 g65 [(t + 20), (t + 1), (t + 22), (t + 23), (t + 7)] = g66 at *
   replace hB1 := hB1.mono st66 (WL.no (by simp <;> omega))
   replace hB5 := hB5.mono st66 (WL.no (by simp <;> omega))
   replace hR13 := hR13.mono st66 (WL.no (by simp <;> omega)) (WL.no (by simp <;> omega))
   replace hR8 := hR8.mono st66 (WL.no (by simp <;> omega)) (WL.no (by simp <;> omega))
   replace hB11 := hB11.mono st66 (WL.no (by simp <;> omega))
   replace hB12 := hB12.mono st66 (WL.no (by simp <;> omega))
   replace tot := tot.trans (st66.up (by intro l hl; simp at hl; rcases hl with rfl | rfl | rfl | rfl | rfl <;> first | exact .inr (by omega) | exact .inl (by simp [WL])))
   clear hR18
   have hR18 : OwnS k_S_notary_entry g66 (t + 20) 136 a18 n11 c13 l21 := hO65
   clear hO65
   clear hR4
   have hR4 : OwnS (Kd.int .i64) g66 (t + 1) 3 a4 (0 + n1) c3 l24 := hO66
   clear hO66
   clear hR19
   have hR19 : OwnS (Kd.arrI 8 .u8) g66 (t + 22) 47 a19 n12 c14 l22 := hO67
   clear hO67
   clear hR20
   have hR20 : OwnS (Kd.slice 5 (Kd.int .u8)) g66 (t + 23) 74 a20 n13 c15 l23 := hO68
   clear hO68
   clear hR9
   have hR9 : OwnS Kd.bool g66 (t + 7) 4 a9 ((l1.length : Int).toNat) ((l1.length : Int).toNat) l28 := hO69
   clear hO69
   refine WP.stl 2 ?_
   refine WP.guard 108 (b := (x17 != 0)) (by kernel_rfl) (fun h20 => ?_) (fun h20 => ?_)
   ·replace hs := of_if_t hs h20
    replace hs := Option.bind_eq_some_iff.1 hs
    obtain ⟨q16, hk30, hs⟩ := hs
    have hcal30 := P.baizelaw35_told g66 q16 hk30
    refine WP.callC hcal30 (by kernel_rfl) ?_
    rintro _ g67 st67 rfl
    replace hB1 := hB1.mono st67 (fun x => x)
    replace hR4 := hR4.mono st67 (fun x => x) (fun x => x)
    replace hB5 := hB5.mono st67 (fun x => x)
    replace hR13 := hR13.mono st67 (fun x => x) (fun x => x)
    replace hR8 := hR8.mono st67 (fun x => x) (fun x => x)
    replace hR9 := hR9.mono st67 (fun x => x) (fun x => x)
    replace hB11 := hB11.mono st67 (fun x => x)
    replace hR18 := hR18.mono st67 (fun x => x) (fun x => x)
    replace hB12 := hB12.mono st67 (fun x => x)
    replace hR19 := hR19.mono st67 (fun x => x) (fun x => x)
    replace hR20 := hR20.mono st67 (fun x => x) (fun x => x)
    replace tot := tot.trans st67.pure
    refine WP.stl 2 ?_
    refine WP.dn ?_
    refine NX.post ?_
    exact ⟨q16, ⟨by kernel_rfl, by kernel_rfl⟩, tot, hs⟩
   replace hs := of_if_f hs h20
   refine WP.stl 3 ?_
   refine WP.dn ?_
   refine NX.post ?_
   exact ⟨false, ⟨by kernel_rfl, by kernel_rfl⟩, tot, hs⟩
  clear tot hs hB1 hR4 hB5 hR13 hR8 hR9 hB11 hR18 hB12 hR19 hR20
  rintro tm g ⟨q15, hF, tot, hs⟩
  clear ds
  obtain ⟨ds, rfl⟩ := hF.open
  clear hF
  unfold F.baizelaw35_CloseMine.c2 at hs
  refine CP.ret ?_
  refine NX.then_r ?_
  replace hs := Option.some.inj hs
  obtain rfl := hs
  exact NX.fin (v := .bool q15) (Res.still (by kernel_rfl)) tot htL rfl
 replace hs := of_if_f hs h18
 refine CP.skip ?_
 refine NX.then_n ?_
 refine CP.seq ?_
 refine CP.seqR ?_
 refine WP.stl 2 ?_
 refine WP.loadB (v := AG [encA .u8 (⟨[7, 0, 0, 0, 0, 0, 0, 0], rfl⟩ : Arr Int 8), [.slice a4 (0 + n1) c3]]) hB1 (by kernel_rfl) (by kernel_rfl) ?_
 refine WP.stl 4 ?_
 refine WP.loadB (v := .slice a9 ((l1.length : Int).toNat) ((l1.length : Int).toNat)) hB5 (by kernel_rfl) (by kernel_rfl) ?_
 replace hs := Option.bind_eq_some_iff.1 hs
 obtain ⟨x18, hk31, hs⟩ := hs
 have hS15 : 0 ∉ ([(t + 20), (t + 1), (t + 22), (t + 23), (t + 7)] : List Nat) := by simp <;> omega
 have stl15 := GW.lend_step g61 [(t + 20), (t + 1), (t + 22), (t + 23), (t + 7)]
 have hRl47 := hR18.lendTo hS15 (by simp)
 have hRl48 := hR4.lendTo hS15 (by simp)
 have hRl49 := hR19.lendTo hS15 (by simp)
 have hRl50 := hR20.lendTo hS15 (by simp)
 have hRl51 := hR9.lendTo hS15 (by simp)
 refine WP.regw (g' := GW.lend g61 [(t + 20), (t + 1), (t + 22), (t + 23), (t + 7)]) rfl ?_
 have hcal31 := P.close_Agree (GW.lend g61 [(t + 20), (t + 1), (t + 22), (t + 23), (t + 7)]) (t + 19) (t + 21) l21 d9 (⟨[7, 0, 0, 0, 0, 0, 0, 0], rfl⟩ : Arr Int 8) l24 x14 l22 l23 l28 a18 n11 c13 a4 (0 + n1) c3 a19 n12 c14 a20 n13 c15 a9 ((l1.length : Int).toNat) ((l1.length : Int).toNat) b16 b17 hRl47 hRl48 hRl49 hRl50 hRl51 (hB12.mono stl15 (WL.no (by simp <;> omega))) (hB11.mono stl15 (WL.no (by simp <;> omega))) (by omega) (by omega) (by omega) x18 hk31
 refine WP.callC hcal31 (by kernel_rfl) ?_
 rintro _ g68 st68 rfl
 have st69 := (GW.back_step st68).lentS
 have hO70 := hR18.backTo hS15 (by simp) st68 (fun x => x)
 have hO71 := hR4.backTo hS15 (by simp) st68 (fun x => x)
 have hO72 := hR19.backTo hS15 (by simp) st68 (fun x => x)
 have hO73 := hR20.backTo hS15 (by simp) st68 (fun x => x)
 have hO74 := hR9.backTo hS15 (by simp) st68 (fun x => x)
 refine WP.regw (g' := GW.back g61 g68 [(t + 20), (t + 1), (t + 22), (t + 23), (t + 7)]) rfl ?_
 generalize GW.back g61 g68 [(t + 20), (t + 1), (t + 22), (t + 23), (t + 7)] = g69 at *
 replace hB1 := hB1.mono st69 (WL.no (by simp <;> omega))
 replace hB5 := hB5.mono st69 (WL.no (by simp <;> omega))
 replace hR13 := hR13.mono st69 (WL.no (by simp <;> omega)) (WL.no (by simp <;> omega))
 replace hR8 := hR8.mono st69 (WL.no (by simp <;> omega)) (WL.no (by simp <;> omega))
 replace hB11 := hB11.mono st69 (WL.no (by simp <;> omega))
 replace hB12 := hB12.mono st69 (WL.no (by simp <;> omega))
 replace tot := tot.trans (st69.up (by intro l hl; simp at hl; rcases hl with rfl | rfl | rfl | rfl | rfl <;> first | exact .inr (by omega) | exact .inl (by simp [WL])))
 clear hR18
 have hR18 : OwnS k_S_notary_entry g69 (t + 20) 136 a18 n11 c13 l21 := hO70
 clear hO70
 clear hR4
 have hR4 : OwnS (Kd.int .i64) g69 (t + 1) 3 a4 (0 + n1) c3 l24 := hO71
 clear hO71
 clear hR19
 have hR19 : OwnS (Kd.arrI 8 .u8) g69 (t + 22) 47 a19 n12 c14 l22 := hO72
 clear hO72
 clear hR20
 have hR20 : OwnS (Kd.slice 5 (Kd.int .u8)) g69 (t + 23) 74 a20 n13 c15 l23 := hO73
 clear hO73
 clear hR9
 have hR9 : OwnS Kd.bool g69 (t + 7) 4 a9 ((l1.length : Int).toNat) ((l1.length : Int).toNat) l28 := hO74
 clear hO74
 refine WP.stl 1 ?_
 refine WP.dn ?_
 refine NX.then_n ?_
 refine CP.refr 138 [(7, .int .i64 ((IntKind.i64.wrap x1).tmod (l1.length : Int))), (8, .pointer (some ⟨b1, 0, none⟩)), (10, .pointer (some ⟨b3, 0, none⟩)), (12, .pointer (some ⟨b16, 0, none⟩)), (13, .slice a19 n12 c14), (14, .slice a20 n13 c15), (15, .int .i64 x14), (120, .bool (x18 != 16))] (by kernel_rfl) (by kernel_rfl) ?_
 clear ds
 intro ds
 refine CP.cond (b := (x18 != 16)) (by kernel_rfl) (fun h21 => ?_) (fun h21 => ?_)
 ·replace hs := of_if_t hs h21
  refine CP.seqR ?_
  refine WP.stl 1 ?_
  refine WP.dn ?_
  refine NX.then_n ?_
  refine CP.ret ?_
  refine NX.then_r ?_
  replace hs := Option.some.inj hs
  obtain rfl := hs
  exact NX.fin (v := .bool false) (Res.still (by kernel_rfl)) tot htL rfl
 replace hs := of_if_f hs h21
 refine CP.skip ?_
 refine NX.then_n ?_
 refine CP.seqR ?_
 refine WP.stl 1 ?_
 refine WP.loadB (v := .slice a9 ((l1.length : Int).toNat) ((l1.length : Int).toNat)) hB5 (by kernel_rfl) (by kernel_rfl) ?_
 refine WP.stl 1 ?_
 by_cases hc15 : (0 : Int) ≤ ((IntKind.i64.wrap x1).tmod (l1.length : Int)) ∧ ((IntKind.i64.wrap x1).tmod (l1.length : Int)) < (l28.length : Int)
 case neg => rw [if_neg hc15] at hs; cases hs
 replace hs := of_if_p hs hc15
 obtain ⟨b18, u9, ha9⟩ := hR9.at hc15
 refine WP.indexA (t := 28) (e := 4) (sz := 1) (cap := (l1.length : Int).toNat) (k := .i64) (i := ((IntKind.i64.wrap x1).tmod (l1.length : Int))) hR9.len ha9 (by kernel_rfl) (by kernel_rfl) hc15 ?_
 refine WP.storeO (ty := 4) (v := .bool true) hR9 (by omega) (i := ((IntKind.i64.wrap x1).tmod (l1.length : Int)).toNat) (by first | omega | (simp only [setI_length] at *; omega)) ha9 (by kernel_rfl) (x := true) (by exact rfl) (by kernel_rfl) ?_
 intro g70 st70 hO75
 replace hB1 := hB1.mono st70 (WL.no1 (by omega))
 replace hR4 := hR4.mono st70 (WL.no1 (by omega)) (WL.no1 (by omega))
 replace hB5 := hB5.mono st70 (WL.no1 (by omega))
 replace hR13 := hR13.mono st70 (WL.no1 (by omega)) (WL.no1 (by omega))
 replace hR8 := hR8.mono st70 (WL.no1 (by omega)) (WL.no1 (by omega))
 replace hB11 := hB11.mono st70 (WL.no1 (by omega))
 replace hR18 := hR18.mono st70 (WL.no1 (by omega)) (WL.no1 (by omega))
 replace hB12 := hB12.mono st70 (WL.no1 (by omega))
 replace hR19 := hR19.mono st70 (WL.no1 (by omega)) (WL.no1 (by omega))
 replace hR20 := hR20.mono st70 (WL.no1 (by omega)) (WL.no1 (by omega))
 replace tot := tot.trans (st70.up1 (.inr (by omega)))
 clear hR9
 have hR9 : OwnS Kd.bool g70 (t + 7) 4 a9 ((l1.length : Int).toNat) ((l1.length : Int).toNat) (setI l28 ((IntKind.i64.wrap x1).tmod (l1.length : Int)) true) := hO75
 clear hO75
 refine WP.dn ?_
 refine NX.then_n ?_
 refine CP.cut (fun tm g => ∃ (q18 : Bool), Fr 138 [(6, .bool q18)] tm ∧ Step (fun l => NoM l ∨ t ≤ l) g0 g ∧ (F.baizelaw35_CloseMine.c3 q18) = some o1) ?_ ?_
 ·refine CP.region ?_
  refine WP.stl 2 ?_
  refine WP.loadB (v := AG [encA .u8 (⟨[7, 0, 0, 0, 0, 0, 0, 0], rfl⟩ : Arr Int 8), [.slice a4 (0 + n1) c3]]) hB1 (by kernel_rfl) (by kernel_rfl) ?_
  refine WP.stl 4 ?_
  refine WP.loadB (v := .slice a9 ((l1.length : Int).toNat) ((l1.length : Int).toNat)) hB5 (by kernel_rfl) (by kernel_rfl) ?_
  replace hs := Option.bind_eq_some_iff.1 hs
  obtain ⟨x20, hk34, hs⟩ := hs
  have hS17 : 0 ∉ ([(t + 20), (t + 1), (t + 22), (t + 23), (t + 7)] : List Nat) := by simp <;> omega
  have stl17 := GW.lend_step g70 [(t + 20), (t + 1), (t + 22), (t + 23), (t + 7)]
  have hRl57 := hR18.lendTo hS17 (by simp)
  have hRl58 := hR4.lendTo hS17 (by simp)
  have hRl59 := hR19.lendTo hS17 (by simp)
  have hRl60 := hR20.lendTo hS17 (by simp)
  have hRl61 := hR9.lendTo hS17 (by simp)
  refine WP.regw (g' := GW.lend g70 [(t + 20), (t + 1), (t + 22), (t + 23), (t + 7)]) rfl ?_
  have hcal34 := P.close_Agree (GW.lend g70 [(t + 20), (t + 1), (t + 22), (t + 23), (t + 7)]) (t + 19) (t + 21) l21 d9 (⟨[7, 0, 0, 0, 0, 0, 0, 0], rfl⟩ : Arr Int 8) l24 x14 l22 l23 (setI l28 ((IntKind.i64.wrap x1).tmod (l1.length : Int)) true) a18 n11 c13 a4 (0 + n1) c3 a19 n12 c14 a20 n13 c15 a9 ((l1.length : Int).toNat) ((l1.length : Int).toNat) b16 b17 hRl57 hRl58 hRl59 hRl60 hRl61 (hB12.mono stl17 (WL.no (by simp <;> omega))) (hB11.mono stl17 (WL.no (by simp <;> omega))) (by omega) (by omega) (by omega) x20 hk34
  refine WP.callC hcal34 (by kernel_rfl) ?_
  rintro _ g74 st74 rfl
  have st75 := (GW.back_step st74).lentS
  have hO81 := hR18.backTo hS17 (by simp) st74 (fun x => x)
  have hO82 := hR4.backTo hS17 (by simp) st74 (fun x => x)
  have hO83 := hR19.backTo hS17 (by simp) st74 (fun x => x)
  have hO84 := hR20.backTo hS17 (by simp) st74 (fun x => x)
  have hO85 := hR9.backTo hS17 (by simp) st74 (fun x => x)
  refine WP.regw (g' := GW.back g70 g74 [(t + 20), (t + 1), (t + 22), (t + 23), (t + 7)]) rfl ?_
  generalize GW.back g70 g74 [(t + 20), (t + 1), (t + 22), (t + 23), (t + 7)] = g75 at *
  replace hB1 := hB1.mono st75 (WL.no (by simp <;> omega))
  replace hB5 := hB5.mono st75 (WL.no (by simp <;> omega))
  replace hR13 := hR13.mono st75 (WL.no (by simp <;> omega)) (WL.no (by simp <;> omega))
  replace hR8 := hR8.mono st75 (WL.no (by simp <;> omega)) (WL.no (by simp <;> omega))
  replace hB11 := hB11.mono st75 (WL.no (by simp <;> omega))
  replace hB12 := hB12.mono st75 (WL.no (by simp <;> omega))
  replace tot := tot.trans (st75.up (by intro l hl; simp at hl; rcases hl with rfl | rfl | rfl | rfl | rfl <;> first | exact .inr (by omega) | exact .inl (by simp [WL])))
  clear hR18
  have hR18 : OwnS k_S_notary_entry g75 (t + 20) 136 a18 n11 c13 l21 := hO81
  clear hO81
  clear hR4
  have hR4 : OwnS (Kd.int .i64) g75 (t + 1) 3 a4 (0 + n1) c3 l24 := hO82
  clear hO82
  clear hR19
  have hR19 : OwnS (Kd.arrI 8 .u8) g75 (t + 22) 47 a19 n12 c14 l22 := hO83
  clear hO83
  clear hR20
  have hR20 : OwnS (Kd.slice 5 (Kd.int .u8)) g75 (t + 23) 74 a20 n13 c15 l23 := hO84
  clear hO84
  clear hR9
  have hR9 : OwnS Kd.bool g75 (t + 7) 4 a9 ((l1.length : Int).toNat) ((l1.length : Int).toNat) (setI l28 ((IntKind.i64.wrap x1).tmod (l1.length : Int)) true) := hO85
  clear hO85
  refine WP.stl 2 ?_
  refine WP.guard 135 (b := (x20 == 0)) (by kernel_rfl) (fun h23 => ?_) (fun h23 => ?_)
  ·replace hs := of_if_t hs h23
   replace hs := Option.bind_eq_some_iff.1 hs
   obtain ⟨q19, hk35, hs⟩ := hs
   have hcal35 := P.baizelaw35_told g75 q19 hk35
   refine WP.callC hcal35 (by kernel_rfl) ?_
   rintro _ g76 st76 rfl
   replace hB1 := hB1.mono st76 (fun x => x)
   replace hR4 := hR4.mono st76 (fun x => x) (fun x => x)
   replace hB5 := hB5.mono st76 (fun x => x)
   replace hR13 := hR13.mono st76 (fun x => x) (fun x => x)
   replace hR8 := hR8.mono st76 (fun x => x) (fun x => x)
   replace hR9 := hR9.mono st76 (fun x => x) (fun x => x)
   replace hB11 := hB11.mono st76 (fun x => x)
   replace hR18 := hR18.mono st76 (fun x => x) (fun x => x)
   replace hB12 := hB12.mono st76 (fun x => x)
   replace hR19 := hR19.mono st76 (fun x => x) (fun x => x)
   replace hR20 := hR20.mono st76 (fun x => x) (fun x => x)
   replace tot := tot.trans st76.pure
   refine WP.stl 2 ?_
   refine WP.dn ?_
   refine NX.post ?_
   exact ⟨q19, ⟨by kernel_rfl, by kernel_rfl⟩, tot, hs⟩
  replace hs := of_if_f hs h23
  refine WP.stl 3 ?_
  refine WP.dn ?_
  refine NX.post ?_
  exact ⟨false, ⟨by kernel_rfl, by kernel_rfl⟩, tot, hs⟩
 clear tot hs hB1 hR4 hB5 hR13 hR8 hR9 hB11 hR18 hB12 hR19 hR20
 rintro tm g ⟨q18, hF, tot, hs⟩
 clear ds
 obtain ⟨ds, rfl⟩ := hF.open
 clear hF
 unfold F.baizelaw35_CloseMine.c3 at hs
 refine CP.ret ?_
 replace hs := Option.some.inj hs
 obtain rfl := hs
 exact NX.fin (v := .bool q18) (Res.still (by kernel_rfl)) tot htL rfl
end Go.Proofs.Ytahpmlekenbafaa
