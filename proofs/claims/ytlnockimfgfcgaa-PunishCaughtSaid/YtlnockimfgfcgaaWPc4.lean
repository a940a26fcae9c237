/-
  Walks, written by program: each Go function computes the plain function of its name, in whatever world its arguments' facts hold.
-/
import Derived.Test.YtlnockimfgfcgaaWPc3
namespace Go.Proofs.Ytlnockimfgfcgaa
open Go.RowKit Go.Lab
attribute [local irreducible] WP CP NX wpList Code.wp Calls
set_option maxRecDepth 100000
set_option maxHeartbeats 4000000
set_option linter.unusedVariables false

def N.baizelaw34_PunishCaught_0 : List (List Nat) := [[], [], [0, 1], [], [], [0, 1, 2, 3, 4], [], [], [0, 1, 2, 3, 4, 5, 6, 7], [0, 1, 2, 3, 4, 5, 6, 7, 8]]
def N.baizelaw34_PunishCaught_1 : List (List Nat) := [[], [0], [], [0, 1, 2], [], [4], [0, 1, 2, 3, 4, 5], [0, 1, 2, 3, 4, 5, 6]]
def N.baizelaw34_PunishCaught_2 : List (List Nat) := [[], [0], [], [2], [], [2, 3, 4], [], [], [7], [7, 8], [6, 7, 8, 9], [0, 1, 2, 3, 4, 5, 6, 7, 8, 9, 10], [0, 1, 2, 3, 4, 5, 6, 7, 8, 9, 10, 11], [0, 1, 2, 3, 4, 5, 6, 7, 8, 9, 10, 11, 12], [0, 1, 2, 3, 4, 5, 6, 7, 8, 9, 10, 11, 12], [0, 1, 2, 3, 4, 5, 6, 7, 8, 9, 10, 11, 12], [0, 1, 2, 3, 4, 5, 6, 7, 8, 9, 10, 11, 12, 13], [0, 1, 2, 3, 4, 5, 6, 7, 8, 9, 10, 11, 12, 13, 14, 16], [0, 1, 2, 3, 4, 5, 6, 7, 8, 9, 10, 11, 12, 13, 14, 15, 16, 17]]
def F.baizelaw34_PunishCaught.c3 (q20 : Bool) : Option (Bool) := (some q20)
def F.baizelaw34_PunishCaught.c2 (l14 : List S_punish_Thing) (x39 : Int) (d57 : Arr Int 8) (x40 : Int) (l29 : List Int) (d58 : Arr Int 8) (x41 : Int) (d59 : Arr Int 8) (l30 : List Int) (l31 : List Int) (x42 : Int) (d62 : Arr Int 8) (x43 : Int) (l32 : List Int) (d63 : Arr Int 8) (x44 : Int) (d64 : Arr Int 8) (l33 : List Int) (l34 : List Int) (x45 : Int) (x46 : Int) (q16 : Bool) (q19 : Bool) : Option (Bool) := (if q19 = true then (some false) else (if (!q16) = true then (F.baizelaw34_PunishCaught.c3 true) else (if (x45 == 0) = true then (F.baizelaw34_PunishCaught.c3 (x46 == (IntKind.i64.wrap (((([(⟨x39, d57, x40, l29, d58, x41, d59, l30, l31⟩ : S_punish_Thing)] ++ l14) ++ [(⟨x42, d62, x43, l32, d63, x44, d64, l33, l34⟩ : S_punish_Thing)]).length : Int) - 1)))) else (F.baizelaw34_PunishCaught.c3 false))))
def F.baizelaw34_PunishCaught.l1 (l1 : List S_baizelaw34_Deed) (x1 : Int) (x2 : Int) (x3 : Int) (l2 : List Int) (l3 : List Int) (q1 : Bool) : Nat → (List S_notary_entry) → (List (S_notary_entry × Int)) → (List S_punish_Thing) → Int → Option (Bool)
 | 0, _, _, _, _ => none
 | k + 1, l13, w1, l14, x19 => (if decide (x19 < (l1.length : Int)) = true then (if (0 : Int) ≤ x19 ∧ x19 < (l1.length : Int) then ((F.baizelaw34_Deed_sign (IntKind.i64.wrap (x1 + 1)) ((getI l1 x19).f2) ((getI l1 x19).f3) ((getI l1 x19).f4) ((getI l1 x19).f5) ((getI l1 x19).f6) ((getI l1 x19).f7) l13 w1).bind fun (x36, d52, x37, l26, d53, x38, d54, l27, l28, d55, d56) => (if l14.length + ([(⟨x36, d52, x37, l26, d53, x38, d54, l27, l28⟩ : S_punish_Thing)]).length ≤ 1172812402961 then (F.baizelaw34_PunishCaught.l1 l1 x1 x2 x3 l2 l3 q1 k d56 d55 (l14 ++ [(⟨x36, d52, x37, l26, d53, x38, d54, l27, l28⟩ : S_punish_Thing)]) (IntKind.i64.wrap (x19 + 1))) else none)) else none) else ((F.baizelaw34_Deed_sign x1 x2 x3 l2 q1 0 false l13 w1).bind fun (x39, d57, x40, l29, d58, x41, d59, l30, l31, d60, d61) => ((F.baizelaw34_Deed_sign x1 x2 x3 l3 q1 0 false d61 d60).bind fun (x42, d62, x43, l32, d63, x44, d64, l33, l34, d65, d66) => ((F.punish_Thing_Digest x39 d57 x40 l29 d58 x41 d59 l30 l31).bind fun d67 => ((F.punish_Thing_Digest x42 d62 x43 l32 d63 x44 d64 l33 l34).bind fun d68 => (if ([(⟨x39, d57, x40, l29, d58, x41, d59, l30, l31⟩ : S_punish_Thing)]).length + l14.length ≤ 1172812402961 then (if ([(⟨x39, d57, x40, l29, d58, x41, d59, l30, l31⟩ : S_punish_Thing)] ++ l14).length + ([(⟨x42, d62, x43, l32, d63, x44, d64, l33, l34⟩ : S_punish_Thing)]).length ≤ 1172812402961 then ((F.baizelaw34_table q1).bind fun d69 => ((F.baizelaw34_key x1).bind fun d70 => ((F.punish_Find d66 d65 d69 d70 (([(⟨x39, d57, x40, l29, d58, x41, d59, l30, l31⟩ : S_punish_Thing)] ++ l14) ++ [(⟨x42, d62, x43, l32, d63, x44, d64, l33, l34⟩ : S_punish_Thing)])).bind fun (x45, x46, q16) => ((F.baizelaw34_table q1).bind fun d73 => ((F.baizelaw34_key x1).bind fun d74 => (if (0 : Int) ≤ 0 ∧ 0 ≤ (IntKind.i64.wrap (((([(⟨x39, d57, x40, l29, d58, x41, d59, l30, l31⟩ : S_punish_Thing)] ++ l14) ++ [(⟨x42, d62, x43, l32, d63, x44, d64, l33, l34⟩ : S_punish_Thing)]).length : Int) - 1)) ∧ (IntKind.i64.wrap (((([(⟨x39, d57, x40, l29, d58, x41, d59, l30, l31⟩ : S_punish_Thing)] ++ l14) ++ [(⟨x42, d62, x43, l32, d63, x44, d64, l33, l34⟩ : S_punish_Thing)]).length : Int) - 1)) ≤ ((([(⟨x39, d57, x40, l29, d58, x41, d59, l30, l31⟩ : S_punish_Thing)] ++ l14) ++ [(⟨x42, d62, x43, l32, d63, x44, d64, l33, l34⟩ : S_punish_Thing)]).length : Int) then ((F.punish_Find d66 d65 d73 d74 (sliceI (([(⟨x39, d57, x40, l29, d58, x41, d59, l30, l31⟩ : S_punish_Thing)] ++ l14) ++ [(⟨x42, d62, x43, l32, d63, x44, d64, l33, l34⟩ : S_punish_Thing)]) 0 (IntKind.i64.wrap (((([(⟨x39, d57, x40, l29, d58, x41, d59, l30, l31⟩ : S_punish_Thing)] ++ l14) ++ [(⟨x42, d62, x43, l32, d63, x44, d64, l33, l34⟩ : S_punish_Thing)]).length : Int) - 1)))).bind fun (x47, x48, q17) => ((F.baizelaw34_table (!q1)).bind fun d75 => ((F.baizelaw34_key x1).bind fun d76 => ((F.punish_Find d66 d65 d75 d76 (([(⟨x39, d57, x40, l29, d58, x41, d59, l30, l31⟩ : S_punish_Thing)] ++ l14) ++ [(⟨x42, d62, x43, l32, d63, x44, d64, l33, l34⟩ : S_punish_Thing)])).bind fun (x49, x50, q18) => (if q17 = true then (F.baizelaw34_PunishCaught.c2 l14 x39 d57 x40 l29 d58 x41 d59 l30 l31 x42 d62 x43 l32 d63 x44 d64 l33 l34 x45 x46 q16 true) else (if q18 = true then (F.baizelaw34_PunishCaught.c2 l14 x39 d57 x40 l29 d58 x41 d59 l30 l31 x42 d62 x43 l32 d63 x44 d64 l33 l34 x45 x46 q16 true) else (F.baizelaw34_PunishCaught.c2 l14 x39 d57 x40 l29 d58 x41 d59 l30 l31 x42 d62 x43 l32 d63 x44 d64 l33 l34 x45 x46 q16 (!(q16 == (!(d67.1 == d68.1))))))))))) else none)))))) else none) else none))))))
def F.baizelaw34_PunishCaught.c1 (l1 : List S_baizelaw34_Deed) (x1 : Int) (x2 : Int) (x3 : Int) (l2 : List Int) (l3 : List Int) (q1 : Bool) (q4 : Bool) : Option (Bool) := (if q4 = true then ((F.baizelaw34_known).bind fun q5 => (some q5)) else ((F.notary_NewBook).bind fun d1 => (F.baizelaw34_PunishCaught.l1 l1 x1 x2 x3 l2 l3 q1 fuel ([]) d1 ([]) 0)))
def F.baizelaw34_PunishCaught (l1 : List S_baizelaw34_Deed) (x1 : Int) (x2 : Int) (x3 : Int) (l2 : List Int) (l3 : List Int) (q1 : Bool) : Option (Bool) := ((F.baizelaw34_known).bind fun q21 => (if (!q21) = true then (F.baizelaw34_PunishCaught.c1 l1 x1 x2 x3 l2 l3 q1 true) else ((F.baizelaw34_few l1).bind fun q22 => (if (!q22) = true then (F.baizelaw34_PunishCaught.c1 l1 x1 x2 x3 l2 l3 q1 true) else (if decide ((l2.length : Int) > 60) = true then (F.baizelaw34_PunishCaught.c1 l1 x1 x2 x3 l2 l3 q1 true) else (if decide ((l3.length : Int) > 60) = true then (F.baizelaw34_PunishCaught.c1 l1 x1 x2 x3 l2 l3 q1 true) else (if decide (x3 < 0) = true then (F.baizelaw34_PunishCaught.c1 l1 x1 x2 x3 l2 l3 q1 true) else (F.baizelaw34_PunishCaught.c1 l1 x1 x2 x3 l2 l3 q1 (decide (x3 > 1099511627776))))))))))
theorem P.baizelaw34_PunishCaught (g0 : GW) (l1 : List S_baizelaw34_Deed) (x1 : Int) (x2 : Int) (x3 : Int) (l2 : List Int) (l3 : List Int) (q1 : Bool) (a1 : Option Addr) (n1 : Nat) (c1 : Nat) (a2 : Option Addr) (n2 : Nat) (c2 : Nat) (a3 : Option Addr) (n3 : Nat) (c3 : Nat) (hR1 : RdS k_S_baizelaw34_Deed g0 78 a1 n1 c1 l1) (hR2 : RdS (Kd.int .u8) g0 5 a2 n2 c2 l2) (hR3 : RdS (Kd.int .u8) g0 5 a3 n3 c3 l3) (o1 : Bool) (hs : F.baizelaw34_PunishCaught l1 x1 x2 x3 l2 l3 q1 = some o1) :
  Calls Try.prog 7 #[.slice a1 n1 c1, .int .i64 x1, .int .i64 x2, .int .i64 x3, .slice a2 n2 c2, .slice a3 n3 c3, .bool q1] g0.w (Ret NoM g0 fun v g => v = .bool o1) := by
 refine calls_of (args := [.slice a1 n1 c1, .int .i64 x1, .int .i64 x2, .int .i64 x3, .slice a2 n2 c2, .slice a3 n3 c3, .bool q1]) Try.func7 rfl (0) ?_
 intro t ht htL
 refine ⟨_, rfl, ?_⟩
 refine CP.refr 169 [(0, .slice a1 n1 c1), (1, .int .i64 x1), (2, .int .i64 x2), (3, .int .i64 x3), (4, .slice a2 n2 c2), (5, .slice a3 n3 c3), (6, .bool q1)] (by kernel_rfl) (by kernel_rfl) ?_
 intro ds
 have tot : Step (fun l => NoM l ∨ t ≤ l) g0 g0 := Step.refl _ _
 unfold F.baizelaw34_PunishCaught at hs
 refine CP.seqR ?_
 refine WP.stl 1 ?_
 refine WP.dn ?_
 refine NX.then_n ?_
 refine CP.seq ?_
 refine CP.cut (fun tm g => ∃ (q4 : Bool), Fr 169 [(0, .slice a1 n1 c1), (1, .int .i64 x1), (2, .int .i64 x2), (3, .int .i64 x3), (4, .slice a2 n2 c2), (5, .slice a3 n3 c3), (6, .bool q1), (58, .bool q4)] tm ∧ Step (fun l => NoM l ∨ t ≤ l) g0 g ∧ RdS k_S_baizelaw34_Deed g 78 a1 n1 c1 l1 ∧ RdS (Kd.int .u8) g 5 a2 n2 c2 l2 ∧ RdS (Kd.int .u8) g 5 a3 n3 c3 l3 ∧ (F.baizelaw34_PunishCaught.c1 l1 x1 x2 x3 l2 l3 q1 q4) = some o1) ?_ ?_
 ·refine CP.region ?_
  replace hs := Option.bind_eq_some_iff.1 hs
  obtain ⟨q21, hk53, hs⟩ := hs
  have hcal53 := P.baizelaw34_known g0 q21 hk53
  refine WP.callC hcal53 (by kernel_rfl) ?_
  rintro _ g150 st150 rfl
  replace hR1 := hR1.mono st150 (fun x => x)
  replace hR2 := hR2.mono st150 (fun x => x)
  replace hR3 := hR3.mono st150 (fun x => x)
  replace tot := tot.trans st150.pure
  refine WP.stl 2 ?_
  refine WP.guard 36 (b := (!q21)) (by kernel_rfl) (fun h29 => ?_) (fun h29 => ?_)
  ·replace hs := of_if_t hs h29
   refine WP.stl 22 ?_
   refine WP.dn ?_
   refine NX.post ?_
   exact ⟨true, ⟨by kernel_rfl, by kernel_rfl⟩, tot, hR1, hR2, hR3, hs⟩
  replace hs := of_if_f hs h29
  refine WP.stl 1 ?_
  replace hs := Option.bind_eq_some_iff.1 hs
  obtain ⟨q22, hk54, hs⟩ := hs
  have hcal54 := P.baizelaw34_few g150 l1 a1 n1 c1 hR1 q22 hk54
  refine WP.callC hcal54 (by kernel_rfl) ?_
  rintro _ g151 st151 rfl
  replace hR1 := hR1.mono st151 (fun x => x)
  replace hR2 := hR2.mono st151 (fun x => x)
  replace hR3 := hR3.mono st151 (fun x => x)
  replace tot := tot.trans st151.pure
  refine WP.stl 3 ?_
  refine WP.guard 41 (b := (!q22)) (by kernel_rfl) (fun h30 => ?_) (fun h30 => ?_)
  ·replace hs := of_if_t hs h30
   refine WP.stl 17 ?_
   refine WP.dn ?_
   refine NX.post ?_
   exact ⟨true, ⟨by kernel_rfl, by kernel_rfl⟩, tot, hR1, hR2, hR3, hs⟩
  replace hs := of_if_f hs h30
  refine WP.stl 1 ?_
  refine WP.len (a := a2) (cp := c2) hR2.len (by kernel_rfl) ?_
  refine WP.stl 3 ?_
  refine WP.guard 46 (b := decide ((l2.length : Int) > 60)) (by kernel_rfl) (fun h31 => ?_) (fun h31 => ?_)
  ·replace hs := of_if_t hs h31
   refine WP.stl 12 ?_
   refine WP.dn ?_
   refine NX.post ?_
   exact ⟨true, ⟨by kernel_rfl, by kernel_rfl⟩, tot, hR1, hR2, hR3, hs⟩
  replace hs := of_if_f hs h31
  refine WP.stl 1 ?_
  refine WP.len (a := a3) (cp := c3) hR3.len (by kernel_rfl) ?_
  refine WP.stl 3 ?_
  refine WP.guard 51 (b := decide ((l3.length : Int) > 60)) (by kernel_rfl) (fun h32 => ?_) (fun h32 => ?_)
  ·replace hs := of_if_t hs h32
   refine WP.stl 7 ?_
   refine WP.dn ?_
   refine NX.post ?_
   exact ⟨true, ⟨by kernel_rfl, by kernel_rfl⟩, tot, hR1, hR2, hR3, hs⟩
  replace hs := of_if_f hs h32
  refine WP.stl 4 ?_
  refine WP.guard 55 (b := decide (x3 < 0)) (by kernel_rfl) (fun h33 => ?_) (fun h33 => ?_)
  ·replace hs := of_if_t hs h33
   refine WP.stl 3 ?_
   refine WP.dn ?_
   refine NX.post ?_
   exact ⟨true, ⟨by kernel_rfl, by kernel_rfl⟩, tot, hR1, hR2, hR3, hs⟩
  replace hs := of_if_f hs h33
  refine WP.stl 3 ?_
  refine WP.dn ?_
  refine NX.post ?_
  exact ⟨decide (x3 > 1099511627776), ⟨by kernel_rfl, by kernel_rfl⟩, tot, hR1, hR2, hR3, hs⟩
 clear tot hs hR1 hR2 hR3
 rintro tm g ⟨q4, hF, tot, hR1, hR2, hR3, hs⟩
 clear ds
 obtain ⟨ds, rfl⟩ := hF.open
 clear hF
 unfold F.baizelaw34_PunishCaught.c1 at hs
 refine CP.cond (b := q4) (by kernel_rfl) (fun h6 => ?_) (fun h6 => ?_)
 ·replace hs := of_if_t hs h6
  refine CP.seqR ?_
  replace hs := Option.bind_eq_some_iff.1 hs
  obtain ⟨q5, hk3, hs⟩ := hs
  have hcal3 := P.baizelaw34_known g q5 hk3
  refine WP.callC hcal3 (by kernel_rfl) ?_
  rintro _ g3 st3 rfl
  replace hR1 := hR1.mono st3 (fun x => x)
  replace hR2 := hR2.mono st3 (fun x => x)
  replace hR3 := hR3.mono st3 (fun x => x)
  replace tot := tot.trans st3.pure
  refine WP.stl 1 ?_
  refine WP.dn ?_
  refine NX.then_n ?_
  refine CP.ret ?_
  refine NX.then_r ?_
  replace hs := Option.some.inj hs
  obtain rfl := hs
  exact NX.fin (v := .bool q5) (Res.still (by kernel_rfl)) tot htL rfl
 replace hs := of_if_f hs h6
 refine CP.skip ?_
 refine NX.then_n ?_
 refine CP.seqR ?_
 replace hs := Option.bind_eq_some_iff.1 hs
 obtain ⟨d1, hk4, hs⟩ := hs
 have hcal4 := P.notary_NewBook g (t + 1) (t + 2) d1 hk4
 refine WP.callC hcal4 (by kernel_rfl) ?_
 rintro _ g4 st4 ⟨b1, b2, rfl, hB1, hB2⟩
 replace hR1 := hR1.mono st4 (fun x => x)
 replace hR2 := hR2.mono st4 (fun x => x)
 replace hR3 := hR3.mono st4 (fun x => x)
 replace tot := tot.trans st4.pure
 refine WP.stl 1 ?_
 refine WP.dn ?_
 refine NX.then_n ?_
 refine CP.seq ?_
 refine CP.seqR ?_
 refine WP.stl 2 ?_
 refine WP.dn ?_
 refine NX.then_n ?_
 refine CP.cond_f (by kernel_rfl) ?_
 refine CP.skip ?_
 refine NX.then_n ?_
 refine CP.seqR ?_
 refine WP.stl 1 ?_
 refine WP.dn ?_
 refine NX.then_n ?_
 refine CP.seq ?_
 refine CP.seqR ?_
 refine WP.stl 1 ?_
 refine WP.len (a := a1) (cp := c1) hR1.len (by kernel_rfl) ?_
 refine WP.stl 1 ?_
 refine WP.dn ?_
 refine NX.then_n ?_
 refine CP.block ?_
 generalize fuel = k1 at hs
 refine CP.loop (fun k1 tm g => ∃ (l13 : List S_notary_entry) (a29 : Option Addr) (n17 : Nat) (c23 : Nat) (w1 : (List (S_notary_entry × Int))) (l14 : List S_punish_Thing) (a30 : Option Addr) (n18 : Nat) (c24 : Nat) (x19 : Int), Fr 169 [(1, .int .i64 x1), (2, .int .i64 x2), (3, .int .i64 x3), (4, .slice a2 n2 c2), (5, .slice a3 n3 c3), (6, .bool q1), (15, .pointer (some ⟨b1, 0, none⟩)), (16, .slice a30 n18 c24), (63, .slice a1 n1 c1), (64, .int .i64 (l1.length : Int)), (65, .int .i64 x19)] tm ∧ Step (fun l => NoM l ∨ t ≤ l) g0 g ∧ RdS (Kd.int .u8) g 5 a2 n2 c2 l2 ∧ RdS (Kd.int .u8) g 5 a3 n3 c3 l3 ∧ Box g (t + 1) b1 121 [[.slice a29 n17 c23], [.map (some b2)]] [1, 1] ∧ OwnS k_S_notary_entry g (t + 4) 126 a29 n17 c23 l13 ∧ MapB g (t + 2) b2 kv_S_notary_entry (Value.int .i64) w1 ∧ OwnS k_S_punish_Thing g (t + 7) 43 a30 n18 c24 l14 ∧ RdS k_S_baizelaw34_Deed g 78 a1 n1 c1 l1 ∧ F.baizelaw34_PunishCaught.l1 l1 x1 x2 x3 l2 l3 q1 k1 l13 w1 l14 x19 = some o1) k1 ?_ ?_ ?_
 ·exact ⟨[], none, 0, 0, d1, [], none, 0, 0, 0, ⟨by kernel_rfl, by kernel_rfl⟩, tot, hR2, hR3, hB1, (OwnS.nil _ _ _ _), hB2, (OwnS.nil _ _ _ _), hR1, hs⟩
 ·rintro tm g ⟨l13, a29, n17, c23, w1, l14, a30, n18, c24, x19, hF, tot, hR2, hR3, hB1, hR29, hB2, hR30, hR1, hs⟩
  exact absurd hs (by simp [F.baizelaw34_PunishCaught.l1])
 clear tot hs hR2 hR3 hB1 hB2 hR1
 rintro k1 tm g ⟨l13, a29, n17, c23, w1, l14, a30, n18, c24, x19, hF, tot, hR2, hR3, hB1, hR29, hB2, hR30, hR1, hs⟩
 clear ds
 obtain ⟨ds, rfl⟩ := hF.open
 clear hF
 unfold F.baizelaw34_PunishCaught.l1 at hs
 refine CP.seqR ?_
 refine WP.stl 1 ?_
 refine WP.dn ?_
 refine NX.then_n ?_
 refine CP.seq ?_
 refine CP.cond (b := decide (x19 < (l1.length : Int))) (by kernel_rfl) (fun h19 => ?_) (fun h19 => ?_)
 ·replace hs := of_if_t hs h19
  refine CP.skip ?_
  refine NX.then_n ?_
  refine CP.seq ?_
  refine CP.block ?_
  refine CP.seqR ?_
  by_cases hc15 : (0 : Int) ≤ x19 ∧ x19 < (l1.length : Int)
  case neg => rw [if_neg hc15] at hs; cases hs
  replace hs := of_if_p hs hc15
  obtain ⟨b15, u3, ha3⟩ := hR1.at hc15
  refine WP.indexA (t := 74) (e := 78) (sz := 7) (cap := c1) (k := .i64) (i := x19) hR1.len ha3 (by kernel_rfl) (by kernel_rfl) hc15 ?_
  obtain ⟨cs3, hcR3, hcV3⟩ := hR1.src.view (getI_some hc15) ha3
  obtain ⟨a58, n34, c46, hcR3, hR58⟩ := k_S_baizelaw34_Deed.opn hcR3
  refine WP.loadV [[.int .i64 ((getI l1 x19).f1)], [.int .i64 ((getI l1 x19).f2)], [.int .i64 ((getI l1 x19).f3)], [.slice a58 n34 c46], [.bool ((getI l1 x19).f5)], [.int .u8 ((getI l1 x19).f6)], [.bool ((getI l1 x19).f7)]] [1, 1, 1, 1, 1, 1, 1] hcV3 hcR3 rfl (f := 0) (ty := 78) (agg := true) (size := 7) (rs := [[.int .i64 ((getI l1 x19).f1)], [.int .i64 ((getI l1 x19).f2)], [.int .i64 ((getI l1 x19).f3)], [.slice a58 n34 c46], [.bool ((getI l1 x19).f5)], [.int .u8 ((getI l1 x19).f6)], [.bool ((getI l1 x19).f7)]]) (v := AG [[.int .i64 ((getI l1 x19).f1)], [.int .i64 ((getI l1 x19).f2)], [.int .i64 ((getI l1 x19).f3)], [.slice a58 n34 c46], [.bool ((getI l1 x19).f5)], [.int .u8 ((getI l1 x19).f6)], [.bool ((getI l1 x19).f7)]]) (by kernel_rfl) (by kernel_rfl) (by kernel_rfl) (by kernel_rfl) ?_
  refine WP.alloc (T := 78) (t + 34) [[.int .i64 0], [.int .i64 0], [.int .i64 0], [.slice none 0 0], [.bool false], [.int .u8 0], [.bool false]] [1, 1, 1, 1, 1, 1, 1] (by kernel_rfl) rfl ?_
  intro g99 b16 st99 hB39
  replace hR2 := hR2.mono st99 (fun x => x)
  replace hR3 := hR3.mono st99 (fun x => x)
  replace hB1 := hB1.mono st99 (fun x => x)
  replace hR29 := hR29.mono st99 (fun x => x) (fun x => x)
  replace hB2 := hB2.mono st99 (fun x => x)
  replace hR30 := hR30.mono st99 (fun x => x) (fun x => x)
  replace hR1 := hR1.mono st99 (fun x => x)
  replace hR58 := hR58.mono st99 (fun x => x)
  replace tot := tot.trans st99.pure
  refine WP.storeB (ty := 78) (off := 0) (v := AG [[.int .i64 ((getI l1 x19).f1)], [.int .i64 ((getI l1 x19).f2)], [.int .i64 ((getI l1 x19).f3)], [.slice a58 n34 c46], [.bool ((getI l1 x19).f5)], [.int .u8 ((getI l1 x19).f6)], [.bool ((getI l1 x19).f7)]]) hB39 [[.int .i64 ((getI l1 x19).f1)], [.int .i64 ((getI l1 x19).f2)], [.int .i64 ((getI l1 x19).f3)], [.slice a58 n34 c46], [.bool ((getI l1 x19).f5)], [.int .u8 ((getI l1 x19).f6)], [.bool ((getI l1 x19).f7)]] [1, 1, 1, 1, 1, 1, 1] (by kernel_rfl) (by kernel_rfl) rfl (by kernel_rfl) [[.int .i64 ((getI l1 x19).f1)], [.int .i64 ((getI l1 x19).f2)], [.int .i64 ((getI l1 x19).f3)], [.slice a58 n34 c46], [.bool ((getI l1 x19).f5)], [.int .u8 ((getI l1 x19).f6)], [.bool ((getI l1 x19).f7)]] (by kernel_rfl) (.one rfl (.one rfl (.one rfl (.one rfl (.one rfl (.one rfl (.one rfl .nil))))))) ?_
  intro g100 st100 hB40
  replace hR2 := hR2.mono st100 (WL.no1 (by omega))
  replace hR3 := hR3.mono st100 (WL.no1 (by omega))
  replace hB1 := hB1.mono st100 (WL.no1 (by omega))
  replace hR29 := hR29.mono st100 (WL.no1 (by omega)) (WL.no1 (by omega))
  replace hB2 := hB2.mono st100 (WL.no1 (by omega))
  replace hR30 := hR30.mono st100 (WL.no1 (by omega)) (WL.no1 (by omega))
  replace hR1 := hR1.mono st100 (WL.no1 (by omega))
  replace hR58 := hR58.mono st100 (WL.no1 (by omega))
  replace tot := tot.trans (st100.up1 (.inr (by omega)))
  clear hB39
  have hB39 := hB40
  clear hB40
  refine WP.dn ?_
  refine NX.then_n ?_
  refine CP.seqR ?_
  refine WP.stl 3 ?_
  refine WP.storeB (ty := 3) (off := 0) (v := .int .i64 (IntKind.i64.wrap (x1 + 1))) hB39 [[.int .i64 (IntKind.i64.wrap (x1 + 1))]] [1] (by kernel_rfl) (by kernel_rfl) rfl (by kernel_rfl) [[.int .i64 (IntKind.i64.wrap (x1 + 1))], [.int .i64 ((getI l1 x19).f2)], [.int .i64 ((getI l1 x19).f3)], [.slice a58 n34 c46], [.bool ((getI l1 x19).f5)], [.int .u8 ((getI l1 x19).f6)], [.bool ((getI l1 x19).f7)]] (by kernel_rfl) (.one rfl .nil) ?_
  intro g101 st101 hB41
  replace hR2 := hR2.mono st101 (WL.no1 (by omega))
  replace hR3 := hR3.mono st101 (WL.no1 (by omega))
  replace hB1 := hB1.mono st101 (WL.no1 (by omega))
  replace hR29 := hR29.mono st101 (WL.no1 (by omega)) (WL.no1 (by omega))
  replace hB2 := hB2.mono st101 (WL.no1 (by omega))
  replace hR30 := hR30.mono st101 (WL.no1 (by omega)) (WL.no1 (by omega))
  replace hR1 := hR1.mono st101 (WL.no1 (by omega))
  replace hR58 := hR58.mono st101 (WL.no1 (by omega))
  replace tot := tot.trans (st101.up1 (.inr (by omega)))
  clear hB39
  have hB39 := hB41
  clear hB41
  refine WP.dn ?_
  refine NX.then_n ?_
  refine CP.region ?_
  refine WP.stl 1 ?_
  refine WP.loadB (v := AG [[.int .i64 (IntKind.i64.wrap (x1 + 1))], [.int .i64 ((getI l1 x19).f2)], [.int .i64 ((getI l1 x19).f3)], [.slice a58 n34 c46], [.bool ((getI l1 x19).f5)], [.int .u8 ((getI l1 x19).f6)], [.bool ((getI l1 x19).f7)]]) hB39 (by kernel_rfl) (by kernel_rfl) ?_
  refine WP.stl 1 ?_
  replace hs := Option.bind_eq_some_iff.1 hs
  obtain ⟨⟨x36, d52, x37, l26, d53, x38, d54, l27, l28, d55, d56⟩, hk37, hs⟩ := hs
  dsimp only at hs
  have hcal37 := P.baizelaw34_Deed_sign g101 (t + 1) (t + 4) (t + 2) (t + 35) (IntKind.i64.wrap (x1 + 1)) ((getI l1 x19).f2) ((getI l1 x19).f3) ((getI l1 x19).f4) ((getI l1 x19).f5) ((getI l1 x19).f6) ((getI l1 x19).f7) l13 w1 a58 n34 c46 a29 n17 c23 b1 b2 hR58 hR29 hB2 hB1 (by omega) (by omega) (by omega) (by omega) (by omega) (by omega) x36 d52 x37 l26 d53 x38 d54 l27 l28 d55 d56 hk37
  refine WP.callC hcal37 (by kernel_rfl) ?_
  rintro _ g102 st102 ⟨a59, n35, c47, a60, n36, c48, a61, n37, c49, a62, n38, c50, rfl, hR59, hR60, hR61, hB42, hR62, hB43⟩
  replace hR2 := hR2.mono st102 (WL.no3 (by omega) (by omega) (by omega))
  replace hR3 := hR3.mono st102 (WL.no3 (by omega) (by omega) (by omega))
  replace hR30 := hR30.mono st102 (WL.no3 (by omega) (by omega) (by omega)) (WL.no3 (by omega) (by omega) (by omega))
  replace hR1 := hR1.mono st102 (WL.no3 (by omega) (by omega) (by omega))
  replace hB39 := hB39.mono st102 (WL.no3 (by omega) (by omega) (by omega))
  replace hR58 := hR58.mono st102 (WL.no3 (by omega) (by omega) (by omega))
  replace tot := tot.trans (st102.up3 (.inr (by omega)) (.inr (by omega)) (.inr (by omega)))
  clear hB2
  have hB2 := hB42
  clear hB42
  clear hB1
  have hB1 := hB43
  clear hB43
  obtain ⟨g104, hw9, st104, hnew⟩ := hR61.freeze (by omega)
  refine WP.regw hw9 ?_
  replace hR2 := hR2.mono st104 (WL.no1 (by omega))
  replace hR3 := hR3.mono st104 (WL.no1 (by omega))
  replace hB1 := hB1.mono st104 (WL.no1 (by omega))
  replace hR62 := hR62.mono st104 (WL.no1 (by omega)) (WL.no1 (by omega))
  replace hB2 := hB2.mono st104 (WL.no1 (by omega))
  replace hR30 := hR30.mono st104 (WL.no1 (by omega)) (WL.no1 (by omega))
  replace hR1 := hR1.mono st104 (WL.no1 (by omega))
  replace hB39 := hB39.mono st104 (WL.no1 (by omega))
  replace hR58 := hR58.mono st104 (WL.no1 (by omega))
  replace hR59 := hR59.mono st104 (WL.no1 (by omega))
  replace hR60 := hR60.mono st104 (WL.no1 (by omega))
  replace tot := tot.trans (st104.up1 (.inr (by omega)))
  clear hR61
  have hR61 := hnew
  clear hnew
  refine WP.mkSl (kd := k_S_punish_Thing) (t := 76) (e := 43) (bytes := 120) (t + 36) [AG [[.int .i64 x36], encA .u8 d52, [.int .i64 x37], [.slice a59 n35 c47], encA .u8 d53, [.int .i64 x38], encA .u8 d54, [.slice a60 n36 c48], [.slice a61 n37 c49]]] [(⟨x36, d52, x37, l26, d53, x38, d54, l27, l28⟩ : S_punish_Thing)] (by kernel_rfl) (by kernel_rfl) (Nat.le_of_ble_eq_true rfl) (Nat.le_of_ble_eq_true rfl) (all_cons (Kd.len k_S_punish_Thing (g := g104) (x := (⟨x36, d52, x37, l26, d53, x38, d54, l27, l28⟩ : S_punish_Thing)) (k_S_punish_Thing.mk rfl rfl rfl ⟨_, _, _, rfl, hR59⟩ rfl rfl rfl ⟨_, _, _, rfl, hR60⟩ ⟨_, _, _, rfl, hR61⟩)) all_nil) (⟨_, _, rfl, (k_S_punish_Thing.mk rfl rfl rfl ⟨_, _, _, rfl, hR59⟩ rfl rfl rfl ⟨_, _, _, rfl, hR60⟩ ⟨_, _, _, rfl, hR61⟩), rfl⟩) rfl ?_
  intro g103 a63 st103 hR63
  replace hR2 := hR2.mono st103 (fun x => x)
  replace hR3 := hR3.mono st103 (fun x => x)
  replace hB1 := hB1.mono st103 (fun x => x)
  replace hR62 := hR62.mono st103 (fun x => x) (fun x => x)
  replace hB2 := hB2.mono st103 (fun x => x)
  replace hR30 := hR30.mono st103 (fun x => x) (fun x => x)
  replace hR1 := hR1.mono st103 (fun x => x)
  replace hB39 := hB39.mono st103 (fun x => x)
  replace hR58 := hR58.mono st103 (fun x => x)
  replace hR59 := hR59.mono st103 (fun x => x)
  replace hR60 := hR60.mono st103 (fun x => x)
  replace hR61 := hR61.mono st103 (fun x => x)
  replace tot := tot.trans st103.pure
  by_cases hc16 : l14.length + ([(⟨x36, d52, x37, l26, d53, x38, d54, l27, l28⟩ : S_punish_Thing)]).length ≤ 1172812402961
  case neg => rw [if_neg hc16] at hs; cases hs
  replace hs := of_if_p hs hc16
  refine WP.append (kd := k_S_punish_Thing) (t := 76) (e := 43) (bytes := 120) (a2 := a63) (c2 := 1) hR30 hR63.src hR63.len (by kernel_rfl) (by kernel_rfl) (by omega) (by simp only [maxLen]; omega) (by omega) ?_
  intro g105 a64 c51 st105 hR64
  replace hR2 := hR2.mono st105 (WL.no1 (by omega))
  replace hR3 := hR3.mono st105 (WL.no1 (by omega))
  replace hB1 := hB1.mono st105 (WL.no1 (by omega))
  replace hR62 := hR62.mono st105 (WL.no1 (by omega)) (WL.no1 (by omega))
  replace hB2 := hB2.mono st105 (WL.no1 (by omega))
  replace hR1 := hR1.mono st105 (WL.no1 (by omega))
  replace hB39 := hB39.mono st105 (WL.no1 (by omega))
  replace hR58 := hR58.mono st105 (WL.no1 (by omega))
  replace hR59 := hR59.mono st105 (WL.no1 (by omega))
  replace hR60 := hR60.mono st105 (WL.no1 (by omega))
  replace hR61 := hR61.mono st105 (WL.no1 (by omega))
  replace hR63 := hR63.mono st105 (WL.no1 (by omega)) (WL.no1 (by omega))
  replace tot := tot.trans (st105.up1 (.inr (by omega)))
  refine WP.stl 1 ?_
  refine WP.dn ?_
  refine NX.block_n ?_
  refine NX.then_n ?_
  refine CP.refr 169 [(1, .int .i64 x1), (2, .int .i64 x2), (3, .int .i64 x3), (4, .slice a2 n2 c2), (5, .slice a3 n3 c3), (6, .bool q1), (15, .pointer (some ⟨b1, 0, none⟩)), (16, .slice a64 (n18 + 1) c51), (63, .slice a1 n1 c1), (64, .int .i64 (l1.length : Int)), (65, .int .i64 x19)] (by kernel_rfl) (by kernel_rfl) ?_
  clear ds
  intro ds
  refine CP.region ?_
  refine WP.stl 2 ?_
  refine WP.dn ?_
  refine NX.post ?_
  exact ⟨d56, a62, n38, c50, d55, (l14 ++ [(⟨x36, d52, x37, l26, d53, x38, d54, l27, l28⟩ : S_punish_Thing)]), a64, (n18 + 1), c51, (IntKind.i64.wrap (x19 + 1)), ⟨by kernel_rfl, by kernel_rfl⟩, tot, hR2, hR3, hB1, hR62, hB2, hR64, hR1, hs⟩
 replace hs := of_if_f hs h19
 refine CP.exit ?_
 refine NX.then_e ?_
 refine NX.then_e ?_
 refine NX.block_s ?_
 refine NX.then_n ?_
 refine CP.seqR ?_
 refine WP.stl 6 ?_
 refine WP.alloc (T := 78) (t + 37) [[.int .i64 0], [.int .i64 0], [.int .i64 0], [.slice none 0 0], [.bool false], [.int .u8 0], [.bool false]] [1, 1, 1, 1, 1, 1, 1] (by kernel_rfl) rfl ?_
 intro g106 b17 st106 hB44
 replace hR2 := hR2.mono st106 (fun x => x)
 replace hR3 := hR3.mono st106 (fun x => x)
 replace hB1 := hB1.mono st106 (fun x => x)
 replace hR29 := hR29.mono st106 (fun x => x) (fun x => x)
 replace hB2 := hB2.mono st106 (fun x => x)
 replace hR30 := hR30.mono st106 (fun x => x) (fun x => x)
 replace tot := tot.trans st106.pure
 refine WP.storeB (ty := 78) (off := 0) (v := AG [[.int .i64 x1], [.int .i64 x2], [.int .i64 x3], [.slice a2 n2 c2], [.bool q1], [.int .u8 0], [.bool false]]) hB44 [[.int .i64 x1], [.int .i64 x2], [.int .i64 x3], [.slice a2 n2 c2], [.bool q1], [.int .u8 0], [.bool false]] [1, 1, 1, 1, 1, 1, 1] (by kernel_rfl) (by kernel_rfl) rfl (by kernel_rfl) [[.int .i64 x1], [.int .i64 x2], [.int .i64 x3], [.slice a2 n2 c2], [.bool q1], [.int .u8 0], [.bool false]] (by kernel_rfl) (.one rfl (.one rfl (.one rfl (.one rfl (.one rfl (.one rfl (.one rfl .nil))))))) ?_
 intro g107 st107 hB45
 replace hR2 := hR2.mono st107 (WL.no1 (by omega))
 replace hR3 := hR3.mono st107 (WL.no1 (by omega))
 replace hB1 := hB1.mono st107 (WL.no1 (by omega))
 replace hR29 := hR29.mono st107 (WL.no1 (by omega)) (WL.no1 (by omega))
 replace hB2 := hB2.mono st107 (WL.no1 (by omega))
 replace hR30 := hR30.mono st107 (WL.no1 (by omega)) (WL.no1 (by omega))
 replace tot := tot.trans (st107.up1 (.inr (by omega)))
 clear hB44
 have hB44 := hB45
 clear hB45
 refine WP.dn ?_
 refine NX.then_n ?_
 refine CP.seqR ?_
 refine WP.loadB (v := AG [[.int .i64 x1], [.int .i64 x2], [.int .i64 x3], [.slice a2 n2 c2], [.bool q1], [.int .u8 0], [.bool false]]) hB44 (by kernel_rfl) (by kernel_rfl) ?_
 refine WP.alloc (T := 78) (t + 38) [[.int .i64 0], [.int .i64 0], [.int .i64 0], [.slice none 0 0], [.bool false], [.int .u8 0], [.bool false]] [1, 1, 1, 1, 1, 1, 1] (by kernel_rfl) rfl ?_
 intro g108 b18 st108 hB46
 replace hR3 := hR3.mono st108 (fun x => x)
 replace hB1 := hB1.mono st108 (fun x => x)
 replace hR29 := hR29.mono st108 (fun x => x) (fun x => x)
 replace hB2 := hB2.mono st108 (fun x => x)
 replace hR30 := hR30.mono st108 (fun x => x) (fun x => x)
 replace hB44 := hB44.mono st108 (fun x => x)
 replace hR2 := hR2.mono st108 (fun x => x)
 replace tot := tot.trans st108.pure
 refine WP.storeB (ty := 78) (off := 0) (v := AG [[.int .i64 x1], [.int .i64 x2], [.int .i64 x3], [.slice a2 n2 c2], [.bool q1], [.int .u8 0], [.bool false]]) hB46 [[.int .i64 x1], [.int .i64 x2], [.int .i64 x3], [.slice a2 n2 c2], [.bool q1], [.int .u8 0], [.bool false]] [1, 1, 1, 1, 1, 1, 1] (by kernel_rfl) (by kernel_rfl) rfl (by kernel_rfl) [[.int .i64 x1], [.int .i64 x2], [.int .i64 x3], [.slice a2 n2 c2], [.bool q1], [.int .u8 0], [.bool false]] (by kernel_rfl) (.one rfl (.one rfl (.one rfl (.one rfl (.one rfl (.one rfl (.one rfl .nil))))))) ?_
 intro g109 st109 hB47
 replace hR3 := hR3.mono st109 (WL.no1 (by omega))
 replace hB1 := hB1.mono st109 (WL.no1 (by omega))
 replace hR29 := hR29.mono st109 (WL.no1 (by omega)) (WL.no1 (by omega))
 replace hB2 := hB2.mono st109 (WL.no1 (by omega))
 replace hR30 := hR30.mono st109 (WL.no1 (by omega)) (WL.no1 (by omega))
 replace hB44 := hB44.mono st109 (WL.no1 (by omega))
 replace hR2 := hR2.mono st109 (WL.no1 (by omega))
 replace tot := tot.trans (st109.up1 (.inr (by omega)))
 clear hB46
 have hB46 := hB47
 clear hB47
 refine WP.dn ?_
 refine NX.then_n ?_
 refine CP.seqR ?_
 refine WP.stl 2 ?_
 refine WP.storeB (ty := 33) (off := 3) (v := .slice a3 n3 c3) hB46 [[.slice a3 n3 c3]] [1] (by kernel_rfl) (by kernel_rfl) rfl (by kernel_rfl) [[.int .i64 x1], [.int .i64 x2], [.int .i64 x3], [.slice a3 n3 c3], [.bool q1], [.int .u8 0], [.bool false]] (by kernel_rfl) (.one rfl .nil) ?_
 intro g110 st110 hB48
 replace hR3 := hR3.mono st110 (WL.no1 (by omega))
 replace hB1 := hB1.mono st110 (WL.no1 (by omega))
 replace hR29 := hR29.mono st110 (WL.no1 (by omega)) (WL.no1 (by omega))
 replace hB2 := hB2.mono st110 (WL.no1 (by omega))
 replace hR30 := hR30.mono st110 (WL.no1 (by omega)) (WL.no1 (by omega))
 replace hB44 := hB44.mono st110 (WL.no1 (by omega))
 replace hR2 := hR2.mono st110 (WL.no1 (by omega))
 replace tot := tot.trans (st110.up1 (.inr (by omega)))
 clear hB46
 have hB46 := hB48
 clear hB48
 refine WP.dn ?_
 refine NX.then_n ?_
 refine CP.refr 169 [(1, .int .i64 x1), (6, .bool q1), (15, .pointer (some ⟨b1, 0, none⟩)), (16, .slice a30 n18 c24), (19, .pointer (some ⟨b17, 0, none⟩)), (20, .pointer (some ⟨b18, 0, none⟩))] (by kernel_rfl) (by kernel_rfl) ?_
 clear ds
 intro ds
 refine CP.seq ?_
 replace hs := Option.bind_eq_some_iff.1 hs
 obtain ⟨⟨x39, d57, x40, l29, d58, x41, d59, l30, l31, d60, d61⟩, hk38, hs⟩ := hs
 dsimp only at hs
 replace hs := Option.bind_eq_some_iff.1 hs
 obtain ⟨⟨x42, d62, x43, l32, d63, x44, d64, l33, l34, d65, d66⟩, hk39, hs⟩ := hs
 dsimp only at hs
 refine CP.drawL (by kernel_rfl) [0, 2, 3, 5, 6, 7, 8, 9] N.baizelaw34_PunishCaught_0 [⟨none, [1], [], fun l g => Box g (t + 1) b1 121 [[.slice a29 n17 c23], [.map (some b2)]] [1, 1]⟩, ⟨none, [2], [], fun l g => OwnS k_S_notary_entry g (t + 4) 126 a29 n17 c23 l13⟩, ⟨none, [0], [], fun l g => MapB g (t + 2) b2 kv_S_notary_entry (Value.int .i64) w1⟩, ⟨none, [], [], fun l g => Box g (t + 37) b17 78 [[.int .i64 x1], [.int .i64 x2], [.int .i64 x3], [.slice a2 n2 c2], [.bool q1], [.int .u8 0], [.bool false]] [1, 1, 1, 1, 1, 1, 1]⟩, ⟨none, [], [], fun l g => RdS (Kd.int .u8) g 5 a2 n2 c2 l2⟩, ⟨none, [], [], fun l g => Box g (t + 38) b18 78 [[.int .i64 x1], [.int .i64 x2], [.int .i64 x3], [.slice a3 n3 c3], [.bool q1], [.int .u8 0], [.bool false]] [1, 1, 1, 1, 1, 1, 1]⟩, ⟨none, [], [], fun l g => RdS (Kd.int .u8) g 5 a3 n3 c3 l3⟩, ⟨some 0, [], [0], fun l g => l.getD 0 undef = AG [[.int .i64 x1], [.int .i64 x2], [.int .i64 x3], [.slice a2 n2 c2], [.bool q1], [.int .u8 0], [.bool false]]⟩, ⟨some 1, [0], [], fun l g => MapB g (t + 2) b2 kv_S_notary_entry (Value.int .i64) d60⟩, ⟨some 1, [1, 2], [1], fun l g => ∃ (a65 : Option Addr) (c52 : Nat) (a66 : Option Addr) (c53 : Nat) (a67 : Option Addr) (c54 : Nat) (a68 : Option Addr) (c55 : Nat), l.getD 0 undef = AG [[.int .i64 x39], encA .u8 d57, [.int .i64 x40], [.slice a65 l29.length c52], encA .u8 d58, [.int .i64 x41], encA .u8 d59, [.slice a66 l30.length c53], [.slice a67 l31.length c54]] ∧ RdS (Kd.int .u8) g 5 a65 l29.length c52 l29 ∧ RdS (Kd.int .u8) g 5 a66 l30.length c53 l30 ∧ OwnS (Kd.int .u8) g (t + 39) 5 a67 l31.length c54 l31 ∧ OwnS k_S_notary_entry g (t + 4) 126 a68 d61.length c55 d61 ∧ Box g (t + 1) b1 121 [[.slice a68 d61.length c55], [.map (some b2)]] [1, 1]⟩, ⟨some 2, [], [2], fun l g => l.getD 0 undef = AG [[.int .i64 x1], [.int .i64 x2], [.int .i64 x3], [.slice a3 n3 c3], [.bool q1], [.int .u8 0], [.bool false]]⟩, ⟨some 3, [0], [], fun l g => MapB g (t + 2) b2 kv_S_notary_entry (Value.int .i64) d65⟩, ⟨some 3, [1, 2], [3], fun l g => ∃ (a69 : Option Addr) (c56 : Nat) (a70 : Option Addr) (c57 : Nat) (a71 : Option Addr) (c58 : Nat) (a72 : Option Addr) (c59 : Nat), l.getD 0 undef = AG [[.int .i64 x42], encA .u8 d62, [.int .i64 x43], [.slice a69 l32.length c56], encA .u8 d63, [.int .i64 x44], encA .u8 d64, [.slice a70 l33.length c57], [.slice a71 l34.length c58]] ∧ RdS (Kd.int .u8) g 5 a69 l32.length c56 l32 ∧ RdS (Kd.int .u8) g 5 a70 l33.length c57 l33 ∧ OwnS (Kd.int .u8) g (t + 40) 5 a71 l34.length c58 l34 ∧ OwnS k_S_notary_entry g (t + 4) 126 a72 d66.length c59 d66 ∧ Box g (t + 1) b1 121 [[.slice a72 d66.length c59], [.map (some b2)]] [1, 1]⟩, ⟨some 3, [], [1], fun l g => ∃ (a65 : Option Addr) (c52 : Nat) (a66 : Option Addr) (c53 : Nat) (a67 : Option Addr) (c54 : Nat) (a68 : Option Addr) (c55 : Nat), l.getD 0 undef = AG [[.int .i64 x39], encA .u8 d57, [.int .i64 x40], [.slice a65 l29.length c52], encA .u8 d58, [.int .i64 x41], encA .u8 d59, [.slice a66 l30.length c53], [.slice a67 l31.length c54]] ∧ RdS (Kd.int .u8) g 5 a65 l29.length c52 l29 ∧ RdS (Kd.int .u8) g 5 a66 l30.length c53 l30 ∧ OwnS (Kd.int .u8) g (t + 39) 5 a67 l31.length c54 l31⟩, ⟨some 4, [3], [4], fun l g => ∃ (b19 : Nat), l.getD 0 undef = .pointer (some ⟨b19, 0, none⟩) ∧ Box g (t + 41) b19 43 [[.int .i64 0], encA .u8 (zA 8), [.int .i64 0], [.slice none 0 0], encA .u8 (zA 8), [.int .i64 0], encA .u8 (zA 8), [.slice none 0 0], [.slice none 0 0]] [1, 8, 1, 1, 8, 1, 8, 1, 1]⟩, ⟨some 5, [4], [5], fun l g => ∃ (b20 : Nat), l.getD 0 undef = .pointer (some ⟨b20, 0, none⟩) ∧ Box g (t + 42) b20 43 [[.int .i64 0], encA .u8 (zA 8), [.int .i64 0], [.slice none 0 0], encA .u8 (zA 8), [.int .i64 0], encA .u8 (zA 8), [.slice none 0 0], [.slice none 0 0]] [1, 8, 1, 1, 8, 1, 8, 1, 1]⟩, ⟨some 6, [3], [4, 1], fun l g => ∃ (b19 : Nat) (a65 : Option Addr) (c52 : Nat) (a66 : Option Addr) (c53 : Nat) (a67 : Option Addr) (c54 : Nat) (a68 : Option Addr) (c55 : Nat), l.getD 0 undef = .pointer (some ⟨b19, 0, none⟩) ∧ l.getD 1 undef = AG [[.int .i64 x39], encA .u8 d57, [.int .i64 x40], [.slice a65 l29.length c52], encA .u8 d58, [.int .i64 x41], encA .u8 d59, [.slice a66 l30.length c53], [.slice a67 l31.length c54]] ∧ Box g (t + 41) b19 43 [[.int .i64 x39], encA .u8 d57, [.int .i64 x40], [.slice a65 l29.length c52], encA .u8 d58, [.int .i64 x41], encA .u8 d59, [.slice a66 l30.length c53], [.slice a67 l31.length c54]] [1, 8, 1, 1, 8, 1, 8, 1, 1] ∧ RdS (Kd.int .u8) g 5 a65 l29.length c52 l29 ∧ RdS (Kd.int .u8) g 5 a66 l30.length c53 l30 ∧ OwnS (Kd.int .u8) g (t + 39) 5 a67 l31.length c54 l31⟩, ⟨some 7, [1, 2, 4], [5, 3], fun l g => ∃ (b20 : Nat) (a69 : Option Addr) (c56 : Nat) (a70 : Option Addr) (c57 : Nat) (a71 : Option Addr) (c58 : Nat) (a72 : Option Addr) (c59 : Nat), l.getD 0 undef = .pointer (some ⟨b20, 0, none⟩) ∧ l.getD 1 undef = AG [[.int .i64 x42], encA .u8 d62, [.int .i64 x43], [.slice a69 l32.length c56], encA .u8 d63, [.int .i64 x44], encA .u8 d64, [.slice a70 l33.length c57], [.slice a71 l34.length c58]] ∧ Box g (t + 42) b20 43 [[.int .i64 x42], encA .u8 d62, [.int .i64 x43], [.slice a69 l32.length c56], encA .u8 d63, [.int .i64 x44], encA .u8 d64, [.slice a70 l33.length c57], [.slice a71 l34.length c58]] [1, 8, 1, 1, 8, 1, 8, 1, 1] ∧ RdS (Kd.int .u8) g 5 a69 l32.length c56 l32 ∧ RdS (Kd.int .u8) g 5 a70 l33.length c57 l33 ∧ OwnS (Kd.int .u8) g (t + 40) 5 a71 l34.length c58 l34 ∧ OwnS k_S_notary_entry g (t + 4) 126 a72 d66.length c59 d66 ∧ Box g (t + 1) b1 121 [[.slice a72 d66.length c59], [.map (some b2)]] [1, 1]⟩] [[], [0, 1, 2], [], [0, 1, 2], [], [], [3], [4]] [(t + 2), (t + 1), (t + 4), (t + 41), (t + 42)] [1, 4] [] (by kernel_rfl) (by simp <;> omega) (by simp <;> omega) ⟨fun _ _ _ _ st h0 hl hj hB1 => (hB1.mono st (hj 1 (by simp) _ rfl)), fun _ _ _ _ st h0 hl hj hR29 => (hR29.mono st h0 (hj 2 (by simp) _ rfl)), fun _ _ _ _ st h0 hl hj hB2 => (hB2.mono st (hj 0 (by simp) _ rfl)), fun _ _ _ _ st h0 hl hj hB44 => (hB44.mono st (fun h => absurd (hl _ h) (by simp <;> omega))), fun _ _ _ _ st h0 hl hj hR2 => (RdS.mono (e := 5) hR2 st h0), fun _ _ _ _ st h0 hl hj hB46 => (hB46.mono st (fun h => absurd (hl _ h) (by simp <;> omega))), fun _ _ _ _ st h0 hl hj hR3 => (RdS.mono (e := 5) hR3 st h0), fun _ _ _ _ st h0 hl hj e0 => e0, fun _ _ _ _ st h0 hl hj hB2 => (hB2.mono st (hj 0 (by simp) _ rfl)), fun _ _ _ _ st h0 hl hj ⟨a65, c52, a66, c53, a67, c54, a68, c55, e1, hR65, hR66, hR67, hR68, hB1⟩ => ⟨a65, c52, a66, c53, a67, c54, a68, c55, e1, (RdS.mono (e := 5) hR65 st h0), (RdS.mono (e := 5) hR66 st h0), (hR67.mono st h0 (fun h => absurd (hl _ h) (by simp <;> omega))), (hR68.mono st h0 (hj 2 (by simp) _ rfl)), (hB1.mono st (hj 1 (by simp) _ rfl))⟩, fun _ _ _ _ st h0 hl hj e2 => e2, fun _ _ _ _ st h0 hl hj hB2 => (hB2.mono st (hj 0 (by simp) _ rfl)), fun _ _ _ _ st h0 hl hj ⟨a69, c56, a70, c57, a71, c58, a72, c59, e3, hR69, hR70, hR71, hR72, hB1⟩ => ⟨a69, c56, a70, c57, a71, c58, a72, c59, e3, (RdS.mono (e := 5) hR69 st h0), (RdS.mono (e := 5) hR70 st h0), (hR71.mono st h0 (fun h => absurd (hl _ h) (by simp <;> omega))), (hR72.mono st h0 (hj 2 (by simp) _ rfl)), (hB1.mono st (hj 1 (by simp) _ rfl))⟩, fun _ _ _ _ st h0 hl hj ⟨a65, c52, a66, c53, a67, c54, a68, c55, e1, hR65, hR66, hR67⟩ => ⟨a65, c52, a66, c53, a67, c54, a68, c55, e1, (RdS.mono (e := 5) hR65 st h0), (RdS.mono (e := 5) hR66 st h0), (hR67.mono st h0 (fun h => absurd (hl _ h) (by simp <;> omega)))⟩, fun _ _ _ _ st h0 hl hj ⟨b19, e4, hB53⟩ => ⟨b19, e4, (hB53.mono st (hj 3 (by simp) _ rfl))⟩, fun _ _ _ _ st h0 hl hj ⟨b20, e5, hB54⟩ => ⟨b20, e5, (hB54.mono st (hj 4 (by simp) _ rfl))⟩, fun _ _ _ _ st h0 hl hj ⟨b19, a65, c52, a66, c53, a67, c54, a68, c55, e4, e1, hB53, hR65, hR66, hR67⟩ => ⟨b19, a65, c52, a66, c53, a67, c54, a68, c55, e4, e1, (hB53.mono st (hj 3 (by simp) _ rfl)), (RdS.mono (e := 5) hR65 st h0), (RdS.mono (e := 5) hR66 st h0), (hR67.mono st h0 (fun h => absurd (hl _ h) (by simp <;> omega)))⟩, fun _ _ _ _ st h0 hl hj ⟨b20, a69, c56, a70, c57, a71, c58, a72, c59, e5, e3, hB54, hR69, hR70, hR71, hR72, hB1⟩ => ⟨b20, a69, c56, a70, c57, a71, c58, a72, c59, e5, e3, (hB54.mono st (hj 4 (by simp) _ rfl)), (RdS.mono (e := 5) hR69 st h0), (RdS.mono (e := 5) hR70 st h0), (hR71.mono st h0 (fun h => absurd (hl _ h) (by simp <;> omega))), (hR72.mono st h0 (hj 2 (by simp) _ rfl)), (hB1.mono st (hj 1 (by simp) _ rfl))⟩, tv⟩ ⟨hB1, hR29, hB2, hB44, hR2, hB46, hR3, tv, tv, tv, tv, tv, tv, tv, tv, tv, tv, tv, tv⟩ (by kernel_rfl) (fun vs => by kernel_rfl) ?_ ?_ ?_
 ·intro j hj; exact absurd hj (by simp)
 ·intro j hj
  have hq : j = 0 ∨ j = 1 ∨ j = 2 ∨ j = 3 ∨ j = 4 ∨ j = 5 ∨ j = 6 ∨ j = 7 := by have h : j < 8 := hj; omega
  rcases hq with rfl | rfl | rfl | rfl | rfl | rfl | rfl | rfl
  ·intro vs gq stq hl hf
   obtain ⟨v0, v1, v2, v3, v4, v5, v6, v7, rfl⟩ := len_k8 hl
   have hB44 := (show Box gq (t + 37) b17 78 [[.int .i64 x1], [.int .i64 x2], [.int .i64 x3], [.slice a2 n2 c2], [.bool q1], [.int .u8 0], [.bool false]] [1, 1, 1, 1, 1, 1, 1] from hf _ (memI 3 rfl) (by kernel_rfl))
   refine WP.loadB (v := AG [[.int .i64 x1], [.int .i64 x2], [.int .i64 x3], [.slice a2 n2 c2], [.bool q1], [.int .u8 0], [.bool false]]) hB44 (by kernel_rfl) (by kernel_rfl) ?_
   refine WP.dn (Shown.ok (v := AG [[.int .i64 x1], [.int .i64 x2], [.int .i64 x3], [.slice a2 n2 c2], [.bool q1], [.int .u8 0], [.bool false]]) (by kernel_rfl) (Step.refl _ _) ?_)
   exact ⟨tv, tv, tv, tv, tv, tv, tv, rfl, tv, tv, tv, tv, tv, tv, tv, tv, tv, tv, tv⟩
  ·intro vs gq stq hl hf
   obtain ⟨v0, v1, v2, v3, v4, v5, v6, v7, rfl⟩ := len_k8 hl
   have hB1 := (show Box gq (t + 1) b1 121 [[.slice a29 n17 c23], [.map (some b2)]] [1, 1] from hf _ (memI 0 rfl) (by kernel_rfl))
   have hR29 := (show OwnS k_S_notary_entry gq (t + 4) 126 a29 n17 c23 l13 from hf _ (memI 1 rfl) (by kernel_rfl))
   have hB2 := (show MapB gq (t + 2) b2 kv_S_notary_entry (Value.int .i64) w1 from hf _ (memI 2 rfl) (by kernel_rfl))
   have hR2 := (show RdS (Kd.int .u8) gq 5 a2 n2 c2 l2 from hf _ (memI 4 rfl) (by kernel_rfl))
   have e0 := (show v0 = AG [[.int .i64 x1], [.int .i64 x2], [.int .i64 x3], [.slice a2 n2 c2], [.bool q1], [.int .u8 0], [.bool false]] from hf _ (memI 7 rfl) (by kernel_rfl))
   subst e0
   have hcal38 := P.baizelaw34_Deed_sign gq (t + 1) (t + 4) (t + 2) (t + 39) x1 x2 x3 l2 q1 0 false l13 w1 a2 n2 c2 a29 n17 c23 b1 b2 hR2 hR29 hB2 hB1 (by omega) (by omega) (by omega) (by omega) (by omega) (by omega) x39 d57 x40 l29 d58 x41 d59 l30 l31 d60 d61 hk38
   refine WP.callC hcal38 (by kernel_rfl) ?_
   rintro _ g111 st111 ⟨a65, n39, c52, a66, n40, c53, a67, n41, c54, a68, n42, c55, rfl, hR65, hR66, hR67, hB49, hR68, hB50⟩
   obtain rfl := hR65.len
   obtain rfl := hR66.len
   obtain rfl := hR67.len
   obtain rfl := hR68.len
   refine WP.dn (Shown.o (v := AG [[.int .i64 x39], encA .u8 d57, [.int .i64 x40], [.slice a65 l29.length c52], encA .u8 d58, [.int .i64 x41], encA .u8 d59, [.slice a66 l30.length c53], [.slice a67 l31.length c54]]) st111 ?_)
   exact ⟨tv, tv, tv, tv, tv, tv, tv, tv, hB49, ⟨a65, c52, a66, c53, a67, c54, a68, c55, rfl, hR65, hR66, hR67, hR68, hB50⟩, tv, tv, tv, tv, tv, tv, tv, tv, tv⟩
  ·intro vs gq stq hl hf
   obtain ⟨v0, v1, v2, v3, v4, v5, v6, v7, rfl⟩ := len_k8 hl
   have hB46 := (show Box gq (t + 38) b18 78 [[.int .i64 x1], [.int .i64 x2], [.int .i64 x3], [.slice a3 n3 c3], [.bool q1], [.int .u8 0], [.bool false]] [1, 1, 1, 1, 1, 1, 1] from hf _ (memI 5 rfl) (by kernel_rfl))
   refine WP.loadB (v := AG [[.int .i64 x1], [.int .i64 x2], [.int .i64 x3], [.slice a3 n3 c3], [.bool q1], [.int .u8 0], [.bool false]]) hB46 (by kernel_rfl) (by kernel_rfl) ?_
   refine WP.dn (Shown.ok (v := AG [[.int .i64 x1], [.int .i64 x2], [.int .i64 x3], [.slice a3 n3 c3], [.bool q1], [.int .u8 0], [.bool false]]) (by kernel_rfl) (Step.refl _ _) ?_)
   exact ⟨tv, tv, tv, tv, tv, tv, tv, tv, tv, tv, rfl, tv, tv, tv, tv, tv, tv, tv, tv⟩
  ·intro vs gq stq hl hf
   obtain ⟨v0, v1, v2, v3, v4, v5, v6, v7, rfl⟩ := len_k8 hl
   have hR3 := (show RdS (Kd.int .u8) gq 5 a3 n3 c3 l3 from hf _ (memI 6 rfl) (by kernel_rfl))
   have hB2 := (show MapB gq (t + 2) b2 kv_S_notary_entry (Value.int .i64) d60 from hf _ (memI 8 rfl) (by kernel_rfl))
   obtain ⟨a65, c52, a66, c53, a67, c54, a68, c55, e1, hR65, hR66, hR67, hR68, hB1⟩ := (show ∃ (a65 : Option Addr) (c52 : Nat) (a66 : Option Addr) (c53 : Nat) (a67 : Option Addr) (c54 : Nat) (a68 : Option Addr) (c55 : Nat), v1 = AG [[.int .i64 x39], encA .u8 d57, [.int .i64 x40], [.slice a65 l29.length c52], encA .u8 d58, [.int .i64 x41], encA .u8 d59, [.slice a66 l30.length c53], [.slice a67 l31.length c54]] ∧ RdS (Kd.int .u8) gq 5 a65 l29.length c52 l29 ∧ RdS (Kd.int .u8) gq 5 a66 l30.length c53 l30 ∧ OwnS (Kd.int .u8) gq (t + 39) 5 a67 l31.length c54 l31 ∧ OwnS k_S_notary_entry gq (t + 4) 126 a68 d61.length c55 d61 ∧ Box gq (t + 1) b1 121 [[.slice a68 d61.length c55], [.map (some b2)]] [1, 1] from hf _ (memI 9 rfl) (by kernel_rfl))
   subst e1
   have e2 := (show v2 = AG [[.int .i64 x1], [.int .i64 x2], [.int .i64 x3], [.slice a3 n3 c3], [.bool q1], [.int .u8 0], [.bool false]] from hf _ (memI 10 rfl) (by kernel_rfl))
   subst e2
   have hcal39 := P.baizelaw34_Deed_sign gq (t + 1) (t + 4) (t + 2) (t + 40) x1 x2 x3 l3 q1 0 false d61 d60 a3 n3 c3 a68 d61.length c55 b1 b2 hR3 hR68 hB2 hB1 (by omega) (by omega) (by omega) (by omega) (by omega) (by omega) x42 d62 x43 l32 d63 x44 d64 l33 l34 d65 d66 hk39
   refine WP.callC hcal39 (by kernel_rfl) ?_
   rintro _ g112 st112 ⟨a69, n43, c56, a70, n44, c57, a71, n45, c58, a72, n46, c59, rfl, hR69, hR70, hR71, hB51, hR72, hB52⟩
   obtain rfl := hR69.len
   obtain rfl := hR70.len
   obtain rfl := hR71.len
   obtain rfl := hR72.len
   refine WP.dn (Shown.o (v := AG [[.int .i64 x42], encA .u8 d62, [.int .i64 x43], [.slice a69 l32.length c56], encA .u8 d63, [.int .i64 x44], encA .u8 d64, [.slice a70 l33.length c57], [.slice a71 l34.length c58]]) st112 ?_)
   exact ⟨tv, tv, tv, tv, tv, tv, tv, tv, tv, tv, tv, hB51, ⟨a69, c56, a70, c57, a71, c58, a72, c59, rfl, hR69, hR70, hR71, hR72, hB52⟩, ⟨a65, c52, a66, c53, a67, c54, a68, c55, rfl, (hR65.mono st112 (WL.no (by simp <;> omega))), (hR66.mono st112 (WL.no (by simp <;> omega))), (hR67.mono st112 (WL.no (by simp <;> omega)) (WL.no (by simp <;> omega)))⟩, tv, tv, tv, tv, tv⟩
  ·intro vs gq stq hl hf
   obtain ⟨v0, v1, v2, v3, v4, v5, v6, v7, rfl⟩ := len_k8 hl
   refine WP.alloc (T := 43) (t + 41) [[.int .i64 0], encA .u8 (zA 8), [.int .i64 0], [.slice none 0 0], encA .u8 (zA 8), [.int .i64 0], encA .u8 (zA 8), [.slice none 0 0], [.slice none 0 0]] [1, 8, 1, 1, 8, 1, 8, 1, 1] (by kernel_rfl) (by simp [len_encA]) ?_
   intro g113 b19 st113 hB53
   refine WP.dn (Shown.o (v := .pointer (some ⟨b19, 0, none⟩)) st113.pure ?_)
   exact ⟨tv, tv, tv, tv, tv, tv, tv, tv, tv, tv, tv, tv, tv, tv, ⟨b19, rfl, hB53⟩, tv, tv, tv, tv⟩
  ·intro vs gq stq hl hf
   obtain ⟨v0, v1, v2, v3, v4, v5, v6, v7, rfl⟩ := len_k8 hl
   refine WP.alloc (T := 43) (t + 42) [[.int .i64 0], encA .u8 (zA 8), [.int .i64 0], [.slice none 0 0], encA .u8 (zA 8), [.int .i64 0], encA .u8 (zA 8), [.slice none 0 0], [.slice none 0 0]] [1, 8, 1, 1, 8, 1, 8, 1, 1] (by kernel_rfl) (by simp [len_encA]) ?_
   intro g114 b20 st114 hB54
   refine WP.dn (Shown.o (v := .pointer (some ⟨b20, 0, none⟩)) st114.pure ?_)
   exact ⟨tv, tv, tv, tv, tv, tv, tv, tv, tv, tv, tv, tv, tv, tv, tv, ⟨b20, rfl, hB54⟩, tv, tv, tv⟩
  ·intro vs gq stq hl hf
   obtain ⟨v0, v1, v2, v3, v4, v5, v6, v7, rfl⟩ := len_k8 hl
   obtain ⟨a65, c52, a66, c53, a67, c54, a68, c55, e1, hR65, hR66, hR67⟩ := (show ∃ (a65 : Option Addr) (c52 : Nat) (a66 : Option Addr) (c53 : Nat) (a67 : Option Addr) (c54 : Nat) (a68 : Option Addr) (c55 : Nat), v1 = AG [[.int .i64 x39], encA .u8 d57, [.int .i64 x40], [.slice a65 l29.length c52], encA .u8 d58, [.int .i64 x41], encA .u8 d59, [.slice a66 l30.length c53], [.slice a67 l31.length c54]] ∧ RdS (Kd.int .u8) gq 5 a65 l29.length c52 l29 ∧ RdS (Kd.int .u8) gq 5 a66 l30.length c53 l30 ∧ OwnS (Kd.int .u8) gq (t + 39) 5 a67 l31.length c54 l31 from hf _ (memI 13 rfl) (by kernel_rfl))
   subst e1
   obtain ⟨b19, e4, hB53⟩ := (show ∃ (b19 : Nat), v4 = .pointer (some ⟨b19, 0, none⟩) ∧ Box gq (t + 41) b19 43 [[.int .i64 0], encA .u8 (zA 8), [.int .i64 0], [.slice none 0 0], encA .u8 (zA 8), [.int .i64 0], encA .u8 (zA 8), [.slice none 0 0], [.slice none 0 0]] [1, 8, 1, 1, 8, 1, 8, 1, 1] from hf _ (memI 14 rfl) (by kernel_rfl))
   subst e4
   refine WP.storeB (ty := 43) (off := 0) (v := AG [[.int .i64 x39], encA .u8 d57, [.int .i64 x40], [.slice a65 l29.length c52], encA .u8 d58, [.int .i64 x41], encA .u8 d59, [.slice a66 l30.length c53], [.slice a67 l31.length c54]]) hB53 [[.int .i64 x39], encA .u8 d57, [.int .i64 x40], [.slice a65 l29.length c52], encA .u8 d58, [.int .i64 x41], encA .u8 d59, [.slice a66 l30.length c53], [.slice a67 l31.length c54]] [1, 8, 1, 1, 8, 1, 8, 1, 1] (by kernel_rfl) (by kernel_rfl) (by simp [len_encA]) (by kernel_rfl) [[.int .i64 x39], encA .u8 d57, [.int .i64 x40], [.slice a65 l29.length c52], encA .u8 d58, [.int .i64 x41], encA .u8 d59, [.slice a66 l30.length c53], [.slice a67 l31.length c54]] (by kernel_rfl) (.one rfl (.arr (.one rfl (.one rfl (.arr (.one rfl (.arr (.one rfl (.one rfl .nil))))))))) ?_
   intro g115 st115 hB55
   refine WP.dn (Shown.o (v := undef) st115 ?_)
   exact ⟨tv, tv, tv, tv, tv, tv, tv, tv, tv, tv, tv, tv, tv, tv, tv, tv, ⟨b19, a65, c52, a66, c53, a67, c54, a68, c55, rfl, rfl, hB55, (hR65.mono st115 (WL.no (by simp <;> omega))), (hR66.mono st115 (WL.no (by simp <;> omega))), (hR67.mono st115 (WL.no (by simp <;> omega)) (WL.no (by simp <;> omega)))⟩, tv, tv⟩
  ·intro vs gq stq hl hf
   obtain ⟨v0, v1, v2, v3, v4, v5, v6, v7, rfl⟩ := len_k8 hl
   obtain ⟨a69, c56, a70, c57, a71, c58, a72, c59, e3, hR69, hR70, hR71, hR72, hB1⟩ := (show ∃ (a69 : Option Addr) (c56 : Nat) (a70 : Option Addr) (c57 : Nat) (a71 : Option Addr) (c58 : Nat) (a72 : Option Addr) (c59 : Nat), v3 = AG [[.int .i64 x42], encA .u8 d62, [.int .i64 x43], [.slice a69 l32.length c56], encA .u8 d63, [.int .i64 x44], encA .u8 d64, [.slice a70 l33.length c57], [.slice a71 l34.length c58]] ∧ RdS (Kd.int .u8) gq 5 a69 l32.length c56 l32 ∧ RdS (Kd.int .u8) gq 5 a70 l33.length c57 l33 ∧ OwnS (Kd.int .u8) gq (t + 40) 5 a71 l34.length c58 l34 ∧ OwnS k_S_notary_entry gq (t + 4) 126 a72 d66.length c59 d66 ∧ Box gq (t + 1) b1 121 [[.slice a72 d66.length c59], [.map (some b2)]] [1, 1] from hf _ (memI 12 rfl) (by kernel_rfl))
   subst e3
   obtain ⟨b20, e5, hB54⟩ := (show ∃ (b20 : Nat), v5 = .pointer (some ⟨b20, 0, none⟩) ∧ Box gq (t + 42) b20 43 [[.int .i64 0], encA .u8 (zA 8), [.int .i64 0], [.slice none 0 0], encA .u8 (zA 8), [.int .i64 0], encA .u8 (zA 8), [.slice none 0 0], [.slice none 0 0]] [1, 8, 1, 1, 8, 1, 8, 1, 1] from hf _ (memI 15 rfl) (by kernel_rfl))
   subst e5
   refine WP.storeB (ty := 43) (off := 0) (v := AG [[.int .i64 x42], encA .u8 d62, [.int .i64 x43], [.slice a69 l32.length c56], encA .u8 d63, [.int .i64 x44], encA .u8 d64, [.slice a70 l33.length c57], [.slice a71 l34.length c58]]) hB54 [[.int .i64 x42], encA .u8 d62, [.int .i64 x43], [.slice a69 l32.length c56], encA .u8 d63, [.int .i64 x44], encA .u8 d64, [.slice a70 l33.length c57], [.slice a71 l34.length c58]] [1, 8, 1, 1, 8, 1, 8, 1, 1] (by kernel_rfl) (by kernel_rfl) (by simp [len_encA]) (by kernel_rfl) [[.int .i64 x42], encA .u8 d62, [.int .i64 x43], [.slice a69 l32.length c56], encA .u8 d63, [.int .i64 x44], encA .u8 d64, [.slice a70 l33.length c57], [.slice a71 l34.length c58]] (by kernel_rfl) (.one rfl (.arr (.one rfl (.one rfl (.arr (.one rfl (.arr (.one rfl (.one rfl .nil))))))))) ?_
   intro g116 st116 hB56
   refine WP.dn (Shown.o (v := undef) st116 ?_)
   exact ⟨tv, tv, tv, tv, tv, tv, tv, tv, tv, tv, tv, tv, tv, tv, tv, tv, tv, ⟨b20, a69, c56, a70, c57, a71, c58, a72, c59, rfl, rfl, hB56, (hR69.mono st116 (WL.no (by simp <;> omega))), (hR70.mono st116 (WL.no (by simp <;> omega))), (hR71.mono st116 (WL.no (by simp <;> omega)) (WL.no (by simp <;> omega))), (hR72.mono st116 (WL.no (by simp <;> omega)) (WL.no (by simp <;> omega))), (hB1.mono st116 (WL.no (by simp <;> omega)))⟩, tv⟩
 intro vs g117 st117 hl hf
 obtain ⟨v0, v1, v2, v3, v4, v5, v6, v7, rfl⟩ := len_k8 hl
 have hB2 := (show MapB g117 (t + 2) b2 kv_S_notary_entry (Value.int .i64) d65 from hf _ (memI 11 rfl) (by kernel_rfl))
 obtain ⟨b19, a65, c52, a66, c53, a67, c54, a68, c55, e4, e1, hB53, hR65, hR66, hR67⟩ := (show ∃ (b19 : Nat) (a65 : Option Addr) (c52 : Nat) (a66 : Option Addr) (c53 : Nat) (a67 : Option Addr) (c54 : Nat) (a68 : Option Addr) (c55 : Nat), v4 = .pointer (some ⟨b19, 0, none⟩) ∧ v1 = AG [[.int .i64 x39], encA .u8 d57, [.int .i64 x40], [.slice a65 l29.length c52], encA .u8 d58, [.int .i64 x41], encA .u8 d59, [.slice a66 l30.length c53], [.slice a67 l31.length c54]] ∧ Box g117 (t + 41) b19 43 [[.int .i64 x39], encA .u8 d57, [.int .i64 x40], [.slice a65 l29.length c52], encA .u8 d58, [.int .i64 x41], encA .u8 d59, [.slice a66 l30.length c53], [.slice a67 l31.length c54]] [1, 8, 1, 1, 8, 1, 8, 1, 1] ∧ RdS (Kd.int .u8) g117 5 a65 l29.length c52 l29 ∧ RdS (Kd.int .u8) g117 5 a66 l30.length c53 l30 ∧ OwnS (Kd.int .u8) g117 (t + 39) 5 a67 l31.length c54 l31 from hf _ (memI 16 rfl) (by kernel_rfl))
 subst e4
 subst e1
 obtain ⟨b20, a69, c56, a70, c57, a71, c58, a72, c59, e5, e3, hB54, hR69, hR70, hR71, hR72, hB1⟩ := (show ∃ (b20 : Nat) (a69 : Option Addr) (c56 : Nat) (a70 : Option Addr) (c57 : Nat) (a71 : Option Addr) (c58 : Nat) (a72 : Option Addr) (c59 : Nat), v5 = .pointer (some ⟨b20, 0, none⟩) ∧ v3 = AG [[.int .i64 x42], encA .u8 d62, [.int .i64 x43], [.slice a69 l32.length c56], encA .u8 d63, [.int .i64 x44], encA .u8 d64, [.slice a70 l33.length c57], [.slice a71 l34.length c58]] ∧ Box g117 (t + 42) b20 43 [[.int .i64 x42], encA .u8 d62, [.int .i64 x43], [.slice a69 l32.length c56], encA .u8 d63, [.int .i64 x44], encA .u8 d64, [.slice a70 l33.length c57], [.slice a71 l34.length c58]] [1, 8, 1, 1, 8, 1, 8, 1, 1] ∧ RdS (Kd.int .u8) g117 5 a69 l32.length c56 l32 ∧ RdS (Kd.int .u8) g117 5 a70 l33.length c57 l33 ∧ OwnS (Kd.int .u8) g117 (t + 40) 5 a71 l34.length c58 l34 ∧ OwnS k_S_notary_entry g117 (t + 4) 126 a72 d66.length c59 d66 ∧ Box g117 (t + 1) b1 121 [[.slice a72 d66.length c59], [.map (some b2)]] [1, 1] from hf _ (memI 17 rfl) (by kernel_rfl))
 subst e5
 subst e3
 replace hR30 := hR30.mono st117 (WL.no (by simp <;> omega)) (WL.no (by simp <;> omega))
 replace tot := tot.trans (st117.up (by intro l hl; simp at hl; rcases hl with rfl | rfl | rfl | rfl | rfl <;> first | exact .inr (by omega) | exact .inl (by simp [WL])))
 refine NX.then_n ?_
 refine CP.refr 169 [(1, .int .i64 x1), (6, .bool q1), (15, .pointer (some ⟨b1, 0, none⟩)), (16, .slice a30 n18 c24), (21, .pointer (some ⟨b19, 0, none⟩)), (22, .pointer (some ⟨b20, 0, none⟩))] (by kernel_rfl) (by kernel_rfl) ?_
 clear ds
 intro ds
 refine CP.seq ?_
 replace hs := Option.bind_eq_some_iff.1 hs
 obtain ⟨d67, hk40, hs⟩ := hs
 replace hs := Option.bind_eq_some_iff.1 hs
 obtain ⟨d68, hk41, hs⟩ := hs
 refine CP.drawL (by kernel_rfl) [0, 1, 2, 3, 4] [[], [0], [], [0, 1, 2], [0, 1, 2, 3], [0, 1, 2, 3, 4]] [⟨none, [], [], fun l g => Box g (t + 41) b19 43 [[.int .i64 x39], encA .u8 d57, [.int .i64 x40], [.slice a65 l29.length c52], encA .u8 d58, [.int .i64 x41], encA .u8 d59, [.slice a66 l30.length c53], [.slice a67 l31.length c54]] [1, 8, 1, 1, 8, 1, 8, 1, 1]⟩, ⟨none, [], [], fun l g => RdS (Kd.int .u8) g 5 a65 l29.length c52 l29⟩, ⟨none, [], [], fun l g => RdS (Kd.int .u8) g 5 a66 l30.length c53 l30⟩, ⟨none, [0], [], fun l g => OwnS (Kd.int .u8) g (t + 39) 5 a67 l31.length c54 l31⟩, ⟨none, [], [], fun l g => Box g (t + 42) b20 43 [[.int .i64 x42], encA .u8 d62, [.int .i64 x43], [.slice a69 l32.length c56], encA .u8 d63, [.int .i64 x44], encA .u8 d64, [.slice a70 l33.length c57], [.slice a71 l34.length c58]] [1, 8, 1, 1, 8, 1, 8, 1, 1]⟩, ⟨none, [], [], fun l g => RdS (Kd.int .u8) g 5 a69 l32.length c56 l32⟩, ⟨none, [], [], fun l g => RdS (Kd.int .u8) g 5 a70 l33.length c57 l33⟩, ⟨none, [1], [], fun l g => OwnS (Kd.int .u8) g (t + 40) 5 a71 l34.length c58 l34⟩, ⟨some 0, [], [0], fun l g => l.getD 0 undef = AG [[.int .i64 x39], encA .u8 d57, [.int .i64 x40], [.slice a65 l29.length c52], encA .u8 d58, [.int .i64 x41], encA .u8 d59, [.slice a66 l30.length c53], [.slice a67 l31.length c54]]⟩, ⟨some 1, [], [1], fun l g => l.getD 0 undef = AG [encA .u8 d67]⟩, ⟨some 1, [0], [], fun l g => OwnS (Kd.int .u8) g (t + 39) 5 a67 l31.length c54 l31⟩, ⟨some 2, [], [2], fun l g => l.getD 0 undef = AG [[.int .i64 x42], encA .u8 d62, [.int .i64 x43], [.slice a69 l32.length c56], encA .u8 d63, [.int .i64 x44], encA .u8 d64, [.slice a70 l33.length c57], [.slice a71 l34.length c58]]⟩, ⟨some 3, [], [3], fun l g => l.getD 0 undef = AG [encA .u8 d68]⟩, ⟨some 3, [1], [], fun l g => OwnS (Kd.int .u8) g (t + 40) 5 a71 l34.length c58 l34⟩, ⟨some 4, [], [4], fun l g => l.getD 0 undef = .bool (!(d67.1 == d68.1))⟩] [[], [0], [], [1], []] [(t + 39), (t + 40)] [] [5] (by kernel_rfl) (by simp <;> omega) (by simp <;> omega) ⟨fun _ _ _ _ st h0 hl hj hB53 => (hB53.mono st (fun h => absurd (hl _ h) (by simp <;> omega))), fun _ _ _ _ st h0 hl hj hR65 => (RdS.mono (e := 5) hR65 st h0), fun _ _ _ _ st h0 hl hj hR66 => (RdS.mono (e := 5) hR66 st h0), fun _ _ _ _ st h0 hl hj hR67 => (hR67.mono st h0 (hj 0 (by simp) _ rfl)), fun _ _ _ _ st h0 hl hj hB54 => (hB54.mono st (fun h => absurd (hl _ h) (by simp <;> omega))), fun _ _ _ _ st h0 hl hj hR69 => (RdS.mono (e := 5) hR69 st h0), fun _ _ _ _ st h0 hl hj hR70 => (RdS.mono (e := 5) hR70 st h0), fun _ _ _ _ st h0 hl hj hR71 => (hR71.mono st h0 (hj 1 (by simp) _ rfl)), fun _ _ _ _ st h0 hl hj e0 => e0, fun _ _ _ _ st h0 hl hj e1 => e1, fun _ _ _ _ st h0 hl hj hR67 => (hR67.mono st h0 (hj 0 (by simp) _ rfl)), fun _ _ _ _ st h0 hl hj e2 => e2, fun _ _ _ _ st h0 hl hj e3 => e3, fun _ _ _ _ st h0 hl hj hR71 => (hR71.mono st h0 (hj 1 (by simp) _ rfl)), fun _ _ _ _ st h0 hl hj e4 => e4, tv⟩ ⟨hB53, hR65, hR66, hR67, hB54, hR69, hR70, hR71, tv, tv, tv, tv, tv, tv, tv, tv⟩ (by kernel_rfl) (fun vs => by kernel_rfl) ?_ ?_ ?_
 ·intro j hj
  have hq : j = 0 := by have h : j < 1 := hj; omega
  rcases hq with rfl
  ·intro vs gq stq hl hf
   obtain ⟨v0, v1, v2, v3, v4, rfl⟩ := len_k5 hl
   have e4 := (show v4 = .bool (!(d67.1 == d68.1)) from hf _ (memI 14 rfl) (by kernel_rfl))
   subst e4
   show Option.isSome _ = true
   kernel_rfl
 ·intro j hj
  have hq : j = 0 ∨ j = 1 ∨ j = 2 ∨ j = 3 ∨ j = 4 := by have h : j < 5 := hj; omega
  rcases hq with rfl | rfl | rfl | rfl | rfl
  ·intro vs gq stq hl hf
   obtain ⟨v0, v1, v2, v3, v4, rfl⟩ := len_k5 hl
   have hB53 := (show Box gq (t + 41) b19 43 [[.int .i64 x39], encA .u8 d57, [.int .i64 x40], [.slice a65 l29.length c52], encA .u8 d58, [.int .i64 x41], encA .u8 d59, [.slice a66 l30.length c53], [.slice a67 l31.length c54]] [1, 8, 1, 1, 8, 1, 8, 1, 1] from hf _ (memI 0 rfl) (by kernel_rfl))
   refine WP.loadB (v := AG [[.int .i64 x39], encA .u8 d57, [.int .i64 x40], [.slice a65 l29.length c52], encA .u8 d58, [.int .i64 x41], encA .u8 d59, [.slice a66 l30.length c53], [.slice a67 l31.length c54]]) hB53 (by kernel_rfl) (by kernel_rfl) ?_
   refine WP.dn (Shown.ok (v := AG [[.int .i64 x39], encA .u8 d57, [.int .i64 x40], [.slice a65 l29.length c52], encA .u8 d58, [.int .i64 x41], encA .u8 d59, [.slice a66 l30.length c53], [.slice a67 l31.length c54]]) (by kernel_rfl) (Step.refl _ _) ?_)
   exact ⟨tv, tv, tv, tv, tv, tv, tv, tv, rfl, tv, tv, tv, tv, tv, tv, tv⟩
  ·intro vs gq stq hl hf
   obtain ⟨v0, v1, v2, v3, v4, rfl⟩ := len_k5 hl
   have hR65 := (show RdS (Kd.int .u8) gq 5 a65 l29.length c52 l29 from hf _ (memI 1 rfl) (by kernel_rfl))
   have hR66 := (show RdS (Kd.int .u8) gq 5 a66 l30.length c53 l30 from hf _ (memI 2 rfl) (by kernel_rfl))
   have hR67 := (show OwnS (Kd.int .u8) gq (t + 39) 5 a67 l31.length c54 l31 from hf _ (memI 3 rfl) (by kernel_rfl))
   have e0 := (show v0 = AG [[.int .i64 x39], encA .u8 d57, [.int .i64 x40], [.slice a65 l29.length c52], encA .u8 d58, [.int .i64 x41], encA .u8 d59, [.slice a66 l30.length c53], [.slice a67 l31.length c54]] from hf _ (memI 8 rfl) (by kernel_rfl))
   subst e0
   have hS11 : 0 ∉ ([(t + 39)] : List Nat) := by simp <;> omega
   have stl11 := GW.lend_step gq [(t + 39)]
   have hRl13 := hR67.lendTo hS11 (by simp)
   refine WP.regw (g' := GW.lend gq [(t + 39)]) rfl ?_
   have hcal40 := P.punish_Thing_Digest (GW.lend gq [(t + 39)]) x39 d57 x40 l29 d58 x41 d59 l30 l31 a65 l29.length c52 a66 l30.length c53 a67 l31.length c54 (hR65.mono stl11 (WL.no (by simp <;> omega))) (hR66.mono stl11 (WL.no (by simp <;> omega))) hRl13 d67 hk40
   refine WP.callC hcal40 (by kernel_rfl) ?_
   rintro _ g118 st118 rfl
   have st119 := (GW.back_step st118).lentS
   have hO13 := hR67.backTo hS11 (by simp) st118 (fun x => x)
   refine WP.regw (g' := GW.back gq g118 [(t + 39)]) rfl ?_
   generalize GW.back gq g118 [(t + 39)] = g119 at *
   refine WP.dn (Shown.o (v := AG [encA .u8 d67]) st119 ?_)
   exact ⟨tv, tv, tv, tv, tv, tv, tv, tv, tv, rfl, hO13, tv, tv, tv, tv, tv⟩
  ·intro vs gq stq hl hf
   obtain ⟨v0, v1, v2, v3, v4, rfl⟩ := len_k5 hl
   have hB54 := (show Box gq (t + 42) b20 43 [[.int .i64 x42], encA .u8 d62, [.int .i64 x43], [.slice a69 l32.length c56], encA .u8 d63, [.int .i64 x44], encA .u8 d64, [.slice a70 l33.length c57], [.slice a71 l34.length c58]] [1, 8, 1, 1, 8, 1, 8, 1, 1] from hf _ (memI 4 rfl) (by kernel_rfl))
   refine WP.loadB (v := AG [[.int .i64 x42], encA .u8 d62, [.int .i64 x43], [.slice a69 l32.length c56], encA .u8 d63, [.int .i64 x44], encA .u8 d64, [.slice a70 l33.length c57], [.slice a71 l34.length c58]]) hB54 (by kernel_rfl) (by kernel_rfl) ?_
   refine WP.dn (Shown.ok (v := AG [[.int .i64 x42], encA .u8 d62, [.int .i64 x43], [.slice a69 l32.length c56], encA .u8 d63, [.int .i64 x44], encA .u8 d64, [.slice a70 l33.length c57], [.slice a71 l34.length c58]]) (by kernel_rfl) (Step.refl _ _) ?_)
   exact ⟨tv, tv, tv, tv, tv, tv, tv, tv, tv, tv, tv, rfl, tv, tv, tv, tv⟩
  ·intro vs gq stq hl hf
   obtain ⟨v0, v1, v2, v3, v4, rfl⟩ := len_k5 hl
   have hR69 := (show RdS (Kd.int .u8) gq 5 a69 l32.length c56 l32 from hf _ (memI 5 rfl) (by kernel_rfl))
   have hR70 := (show RdS (Kd.int .u8) gq 5 a70 l33.length c57 l33 from hf _ (memI 6 rfl) (by kernel_rfl))
   have hR71 := (show OwnS (Kd.int .u8) gq (t + 40) 5 a71 l34.length c58 l34 from hf _ (memI 7 rfl) (by kernel_rfl))
   have e2 := (show v2 = AG [[.int .i64 x42], encA .u8 d62, [.int .i64 x43], [.slice a69 l32.length c56], encA .u8 d63, [.int .i64 x44], encA .u8 d64, [.slice a70 l33.length c57], [.slice a71 l34.length c58]] from hf _ (memI 11 rfl) (by kernel_rfl))
   subst e2
   have hS12 : 0 ∉ ([(t + 40)] : List Nat) := by simp <;> omega
   have stl12 := GW.lend_step gq [(t + 40)]
   have hRl14 := hR71.lendTo hS12 (by simp)
   refine WP.regw (g' := GW.lend gq [(t + 40)]) rfl ?_
   have hcal41 := P.punish_Thing_Digest (GW.lend gq [(t + 40)]) x42 d62 x43 l32 d63 x44 d64 l33 l34 a69 l32.length c56 a70 l33.length c57 a71 l34.length c58 (hR69.mono stl12 (WL.no (by simp <;> omega))) (hR70.mono stl12 (WL.no (by simp <;> omega))) hRl14 d68 hk41
   refine WP.callC hcal41 (by kernel_rfl) ?_
   rintro _ g120 st120 rfl
   have st121 := (GW.back_step st120).lentS
   have hO14 := hR71.backTo hS12 (by simp) st120 (fun x => x)
   refine WP.regw (g' := GW.back gq g120 [(t + 40)]) rfl ?_
   generalize GW.back gq g120 [(t + 40)] = g121 at *
   refine WP.dn (Shown.o (v := AG [encA .u8 d68]) st121 ?_)
   exact ⟨tv, tv, tv, tv, tv, tv, tv, tv, tv, tv, tv, tv, rfl, hO14, tv, tv⟩
  ·intro vs gq stq hl hf
   obtain ⟨v0, v1, v2, v3, v4, rfl⟩ := len_k5 hl
   have e1 := (show v1 = AG [encA .u8 d67] from hf _ (memI 9 rfl) (by kernel_rfl))
   subst e1
   have e3 := (show v3 = AG [encA .u8 d68] from hf _ (memI 12 rfl) (by kernel_rfl))
   subst e3
   refine WP.neV (by kernel_rfl) (by kernel_rfl) (EqV.arr (d := 9998) (t := 37) (e := 5) (m := 8) (k := .u8) (x := d67) (y := d68) (by kernel_rfl) (by kernel_rfl)) ?_
   refine WP.dn (Shown.ok (v := .bool (!(d67.1 == d68.1))) (by kernel_rfl) (Step.refl _ _) ?_)
   exact ⟨tv, tv, tv, tv, tv, tv, tv, tv, tv, tv, tv, tv, tv, tv, rfl, tv⟩
 intro vs g122 st122 hl hf
 obtain ⟨v0, v1, v2, v3, v4, rfl⟩ := len_k5 hl
 have hR67 := (show OwnS (Kd.int .u8) g122 (t + 39) 5 a67 l31.length c54 l31 from hf _ (memI 10 rfl) (by kernel_rfl))
 have hR71 := (show OwnS (Kd.int .u8) g122 (t + 40) 5 a71 l34.length c58 l34 from hf _ (memI 13 rfl) (by kernel_rfl))
 have e4 := (show v4 = .bool (!(d67.1 == d68.1)) from hf _ (memI 14 rfl) (by kernel_rfl))
 subst e4
 replace hB1 := hB1.mono st122 (WL.no2 (by omega) (by omega))
 replace hR72 := hR72.mono st122 (WL.no2 (by omega) (by omega)) (WL.no2 (by omega) (by omega))
 replace hB2 := hB2.mono st122 (WL.no2 (by omega) (by omega))
 replace hR30 := hR30.mono st122 (WL.no2 (by omega) (by omega)) (WL.no2 (by omega) (by omega))
 replace hB53 := hB53.mono st122 (WL.no2 (by omega) (by omega))
 replace hR65 := hR65.mono st122 (WL.no2 (by omega) (by omega))
 replace hR66 := hR66.mono st122 (WL.no2 (by omega) (by omega))
 replace hB54 := hB54.mono st122 (WL.no2 (by omega) (by omega))
 replace hR69 := hR69.mono st122 (WL.no2 (by omega) (by omega))
 replace hR70 := hR70.mono st122 (WL.no2 (by omega) (by omega))
 replace tot := tot.trans (st122.up2 (.inr (by omega)) (.inr (by omega)))
 refine NX.then_n ?_
 refine CP.refr 169 [(1, .int .i64 x1), (6, .bool q1), (15, .pointer (some ⟨b1, 0, none⟩)), (16, .slice a30 n18 c24), (21, .pointer (some ⟨b19, 0, none⟩)), (22, .pointer (some ⟨b20, 0, none⟩)), (23, .bool (!(d67.1 == d68.1)))] (by kernel_rfl) (by kernel_rfl) ?_
 clear ds
 intro ds
 refine CP.seq ?_
 obtain ⟨g124, hw10, st124, hnew⟩ := hR67.freeze (by omega)
 refine CP.regw hw10 ?_
 replace hB1 := hB1.mono st124 (WL.no1 (by omega))
 replace hR72 := hR72.mono st124 (WL.no1 (by omega)) (WL.no1 (by omega))
 replace hB2 := hB2.mono st124 (WL.no1 (by omega))
 replace hR30 := hR30.mono st124 (WL.no1 (by omega)) (WL.no1 (by omega))
 replace hB53 := hB53.mono st124 (WL.no1 (by omega))
 replace hR65 := hR65.mono st124 (WL.no1 (by omega))
 replace hR66 := hR66.mono st124 (WL.no1 (by omega))
 replace hB54 := hB54.mono st124 (WL.no1 (by omega))
 replace hR69 := hR69.mono st124 (WL.no1 (by omega))
 replace hR70 := hR70.mono st124 (WL.no1 (by omega))
 replace hR71 := hR71.mono st124 (WL.no1 (by omega)) (WL.no1 (by omega))
 replace tot := tot.trans (st124.up1 (.inr (by omega)))
 clear hR67
 have hR67 := hnew
 clear hnew
 obtain ⟨g128, hw11, st128, hnew⟩ := hR71.freeze (by omega)
 refine CP.regw hw11 ?_
 replace hB1 := hB1.mono st128 (WL.no1 (by omega))
 replace hR72 := hR72.mono st128 (WL.no1 (by omega)) (WL.no1 (by omega))
 replace hB2 := hB2.mono st128 (WL.no1 (by omega))
 replace hR30 := hR30.mono st128 (WL.no1 (by omega)) (WL.no1 (by omega))
 replace hB53 := hB53.mono st128 (WL.no1 (by omega))
 replace hR65 := hR65.mono st128 (WL.no1 (by omega))
 replace hR66 := hR66.mono st128 (WL.no1 (by omega))
 replace hR67 := hR67.mono st128 (WL.no1 (by omega))
 replace hB54 := hB54.mono st128 (WL.no1 (by omega))
 replace hR69 := hR69.mono st128 (WL.no1 (by omega))
 replace hR70 := hR70.mono st128 (WL.no1 (by omega))
 replace tot := tot.trans (st128.up1 (.inr (by omega)))
 clear hR71
 have hR71 := hnew
 clear hnew
 by_cases hc18 : ([(⟨x39, d57, x40, l29, d58, x41, d59, l30, l31⟩ : S_punish_Thing)]).length + l14.length ≤ 1172812402961
 case neg => rw [if_neg hc18] at hs; cases hs
 replace hs := of_if_p hs hc18
 by_cases hc19 : ([(⟨x39, d57, x40, l29, d58, x41, d59, l30, l31⟩ : S_punish_Thing)] ++ l14).length + ([(⟨x42, d62, x43, l32, d63, x44, d64, l33, l34⟩ : S_punish_Thing)]).length ≤ 1172812402961
 case neg => rw [if_neg hc19] at hs; cases hs
 replace hs := of_if_p hs hc19
 refine CP.drawL (by kernel_rfl) [0, 1, 3, 4, 5, 6] N.baizelaw34_PunishCaught_1 [⟨none, [], [], fun l g => OwnS k_S_punish_Thing g (t + 7) 43 a30 n18 c24 l14⟩, ⟨none, [], [], fun l g => Box g (t + 41) b19 43 [[.int .i64 x39], encA .u8 d57, [.int .i64 x40], [.slice a65 l29.length c52], encA .u8 d58, [.int .i64 x41], encA .u8 d59, [.slice a66 l30.length c53], [.slice a67 l31.length c54]] [1, 8, 1, 1, 8, 1, 8, 1, 1]⟩, ⟨none, [], [], fun l g => RdS (Kd.int .u8) g 5 a65 l29.length c52 l29⟩, ⟨none, [], [], fun l g => RdS (Kd.int .u8) g 5 a66 l30.length c53 l30⟩, ⟨none, [], [], fun l g => RdS (Kd.int .u8) g 5 a67 l31.length c54 l31⟩, ⟨none, [], [], fun l g => Box g (t + 42) b20 43 [[.int .i64 x42], encA .u8 d62, [.int .i64 x43], [.slice a69 l32.length c56], encA .u8 d63, [.int .i64 x44], encA .u8 d64, [.slice a70 l33.length c57], [.slice a71 l34.length c58]] [1, 8, 1, 1, 8, 1, 8, 1, 1]⟩, ⟨none, [], [], fun l g => RdS (Kd.int .u8) g 5 a69 l32.length c56 l32⟩, ⟨none, [], [], fun l g => RdS (Kd.int .u8) g 5 a70 l33.length c57 l33⟩, ⟨none, [], [], fun l g => RdS (Kd.int .u8) g 5 a71 l34.length c58 l34⟩, ⟨some 0, [], [0], fun l g => l.getD 0 undef = AG [[.int .i64 x39], encA .u8 d57, [.int .i64 x40], [.slice a65 l29.length c52], encA .u8 d58, [.int .i64 x41], encA .u8 d59, [.slice a66 l30.length c53], [.slice a67 l31.length c54]]⟩, ⟨some 1, [0], [1], fun l g => ∃ (a77 : Option Addr), l.getD 0 undef = .slice a77 1 1 ∧ OwnS k_S_punish_Thing g (t + 46) 43 a77 1 1 ([(⟨x39, d57, x40, l29, d58, x41, d59, l30, l31⟩ : S_punish_Thing)])⟩, ⟨some 2, [0], [2], fun l g => ∃ (a78 : Option Addr) (c61 : Nat), l.getD 0 undef = .slice a78 (1 + n18) c61 ∧ OwnS k_S_punish_Thing g (t + 46) 43 a78 (1 + n18) c61 ([(⟨x39, d57, x40, l29, d58, x41, d59, l30, l31⟩ : S_punish_Thing)] ++ l14)⟩, ⟨some 2, [], [1], fun l g => ∃ (a77 : Option Addr), l.getD 0 undef = .slice a77 1 1⟩, ⟨some 3, [], [3], fun l g => l.getD 0 undef = AG [[.int .i64 x42], encA .u8 d62, [.int .i64 x43], [.slice a69 l32.length c56], encA .u8 d63, [.int .i64 x44], encA .u8 d64, [.slice a70 l33.length c57], [.slice a71 l34.length c58]]⟩, ⟨some 4, [], [4], fun l g => ∃ (a79 : Option Addr), l.getD 0 undef = .slice a79 1 1 ∧ OwnS k_S_punish_Thing g (t + 47) 43 a79 1 1 ([(⟨x42, d62, x43, l32, d63, x44, d64, l33, l34⟩ : S_punish_Thing)])⟩, ⟨some 5, [0], [5], fun l g => ∃ (a80 : Option Addr) (c62 : Nat), l.getD 0 undef = .slice a80 ((1 + n18) + 1) c62 ∧ OwnS k_S_punish_Thing g (t + 46) 43 a80 ((1 + n18) + 1) c62 (([(⟨x39, d57, x40, l29, d58, x41, d59, l30, l31⟩ : S_punish_Thing)] ++ l14) ++ [(⟨x42, d62, x43, l32, d63, x44, d64, l33, l34⟩ : S_punish_Thing)])⟩, ⟨some 5, [], [2], fun l g => ∃ (a78 : Option Addr) (c61 : Nat), l.getD 0 undef = .slice a78 (1 + n18) c61⟩] [[], [], [0], [], [], [0]] [(t + 46)] [2] [7] (by kernel_rfl) (by simp <;> omega) (by simp) ⟨fun _ _ _ _ st h0 hl hj hR30 => (hR30.mono st h0 (fun h => absurd (hl _ h) (by simp <;> omega))), fun _ _ _ _ st h0 hl hj hB53 => (hB53.mono st (fun h => absurd (hl _ h) (by simp <;> omega))), fun _ _ _ _ st h0 hl hj hR65 => (RdS.mono (e := 5) hR65 st h0), fun _ _ _ _ st h0 hl hj hR66 => (RdS.mono (e := 5) hR66 st h0), fun _ _ _ _ st h0 hl hj hR67 => (RdS.mono (e := 5) hR67 st h0), fun _ _ _ _ st h0 hl hj hB54 => (hB54.mono st (fun h => absurd (hl _ h) (by simp <;> omega))), fun _ _ _ _ st h0 hl hj hR69 => (RdS.mono (e := 5) hR69 st h0), fun _ _ _ _ st h0 hl hj hR70 => (RdS.mono (e := 5) hR70 st h0), fun _ _ _ _ st h0 hl hj hR71 => (RdS.mono (e := 5) hR71 st h0), fun _ _ _ _ st h0 hl hj e0 => e0, fun _ _ _ _ st h0 hl hj ⟨a77, e1, hR77⟩ => ⟨a77, e1, (hR77.mono st h0 (hj 0 (by simp) _ rfl))⟩, fun _ _ _ _ st h0 hl hj ⟨a78, c61, e2, hR78⟩ => ⟨a78, c61, e2, (hR78.mono st h0 (hj 0 (by simp) _ rfl))⟩, fun _ _ _ _ st h0 hl hj ⟨a77, e1⟩ => ⟨a77, e1⟩, fun _ _ _ _ st h0 hl hj e3 => e3, fun _ _ _ _ st h0 hl hj ⟨a79, e4, hR79⟩ => ⟨a79, e4, (hR79.mono st h0 (fun h => absurd (hl _ h) (by simp <;> omega)))⟩, fun _ _ _ _ st h0 hl hj ⟨a80, c62, e5, hR80⟩ => ⟨a80, c62, e5, (hR80.mono st h0 (hj 0 (by simp) _ rfl))⟩, fun _ _ _ _ st h0 hl hj ⟨a78, c61, e2⟩ => ⟨a78, c61, e2⟩, tv⟩ ⟨hR30, hB53, hR65, hR66, hR67, hB54, hR69, hR70, hR71, tv, tv, tv, tv, tv, tv, tv, tv, tv⟩ (by kernel_rfl) (fun vs => by kernel_rfl) ?_ ?_ ?_
 ·intro j hj
  have hq : j = 0 := by have h : j < 1 := hj; omega
  rcases hq with rfl
  ·intro vs gq stq hl hf
   obtain ⟨v0, v1, v2, v3, v4, v5, rfl⟩ := len_k6 hl
   obtain ⟨a80, c62, e5, hR80⟩ := (show ∃ (a80 : Option Addr) (c62 : Nat), v5 = .slice a80 ((1 + n18) + 1) c62 ∧ OwnS k_S_punish_Thing gq (t + 46) 43 a80 ((1 + n18) + 1) c62 (([(⟨x39, d57, x40, l29, d58, x41, d59, l30, l31⟩ : S_punish_Thing)] ++ l14) ++ [(⟨x42, d62, x43, l32, d63, x44, d64, l33, l34⟩ : S_punish_Thing)]) from hf _ (memI 15 rfl) (by kernel_rfl))
   subst e5
   show Option.isSome _ = true
   kernel_rfl
 ·intro j hj
  have hq : j = 0 ∨ j = 1 ∨ j = 2 ∨ j = 3 ∨ j = 4 ∨ j = 5 := by have h : j < 6 := hj; omega
  rcases hq with rfl | rfl | rfl | rfl | rfl | rfl
  ·intro vs gq stq hl hf
   obtain ⟨v0, v1, v2, v3, v4, v5, rfl⟩ := len_k6 hl
   have hB53 := (show Box gq (t + 41) b19 43 [[.int .i64 x39], encA .u8 d57, [.int .i64 x40], [.slice a65 l29.length c52], encA .u8 d58, [.int .i64 x41], encA .u8 d59, [.slice a66 l30.length c53], [.slice a67 l31.length c54]] [1, 8, 1, 1, 8, 1, 8, 1, 1] from hf _ (memI 1 rfl) (by kernel_rfl))
   refine WP.loadB (v := AG [[.int .i64 x39], encA .u8 d57, [.int .i64 x40], [.slice a65 l29.length c52], encA .u8 d58, [.int .i64 x41], encA .u8 d59, [.slice a66 l30.length c53], [.slice a67 l31.length c54]]) hB53 (by kernel_rfl) (by kernel_rfl) ?_
   refine WP.dn (Shown.ok (v := AG [[.int .i64 x39], encA .u8 d57, [.int .i64 x40], [.slice a65 l29.length c52], encA .u8 d58, [.int .i64 x41], encA .u8 d59, [.slice a66 l30.length c53], [.slice a67 l31.length c54]]) (by kernel_rfl) (Step.refl _ _) ?_)
   exact ⟨tv, tv, tv, tv, tv, tv, tv, tv, tv, rfl, tv, tv, tv, tv, tv, tv, tv, tv⟩
  ·intro vs gq stq hl hf
   obtain ⟨v0, v1, v2, v3, v4, v5, rfl⟩ := len_k6 hl
   have hR65 := (show RdS (Kd.int .u8) gq 5 a65 l29.length c52 l29 from hf _ (memI 2 rfl) (by kernel_rfl))
   have hR66 := (show RdS (Kd.int .u8) gq 5 a66 l30.length c53 l30 from hf _ (memI 3 rfl) (by kernel_rfl))
   have hR67 := (show RdS (Kd.int .u8) gq 5 a67 l31.length c54 l31 from hf _ (memI 4 rfl) (by kernel_rfl))
   have e0 := (show v0 = AG [[.int .i64 x39], encA .u8 d57, [.int .i64 x40], [.slice a65 l29.length c52], encA .u8 d58, [.int .i64 x41], encA .u8 d59, [.slice a66 l30.length c53], [.slice a67 l31.length c54]] from hf _ (memI 9 rfl) (by kernel_rfl))
   subst e0
   refine WP.mkSl (kd := k_S_punish_Thing) (t := 76) (e := 43) (bytes := 120) (t + 46) [AG [[.int .i64 x39], encA .u8 d57, [.int .i64 x40], [.slice a65 l29.length c52], encA .u8 d58, [.int .i64 x41], encA .u8 d59, [.slice a66 l30.length c53], [.slice a67 l31.length c54]]] [(⟨x39, d57, x40, l29, d58, x41, d59, l30, l31⟩ : S_punish_Thing)] (by kernel_rfl) (by kernel_rfl) (Nat.le_of_ble_eq_true rfl) (Nat.le_of_ble_eq_true rfl) (all_cons (Kd.len k_S_punish_Thing (g := gq) (x := (⟨x39, d57, x40, l29, d58, x41, d59, l30, l31⟩ : S_punish_Thing)) (k_S_punish_Thing.mk rfl rfl rfl ⟨_, _, _, rfl, hR65⟩ rfl rfl rfl ⟨_, _, _, rfl, hR66⟩ ⟨_, _, _, rfl, hR67⟩)) all_nil) (⟨_, _, rfl, (k_S_punish_Thing.mk rfl rfl rfl ⟨_, _, _, rfl, hR65⟩ rfl rfl rfl ⟨_, _, _, rfl, hR66⟩ ⟨_, _, _, rfl, hR67⟩), rfl⟩) rfl ?_
   intro g129 a77 st129 hR77
   refine WP.dn (Shown.o (v := .slice a77 1 1) st129.pure ?_)
   exact ⟨tv, tv, tv, tv, tv, tv, tv, tv, tv, tv, ⟨a77, rfl, hR77⟩, tv, tv, tv, tv, tv, tv, tv⟩
  ·intro vs gq stq hl hf
   obtain ⟨v0, v1, v2, v3, v4, v5, rfl⟩ := len_k6 hl
   have hR30 := (show OwnS k_S_punish_Thing gq (t + 7) 43 a30 n18 c24 l14 from hf _ (memI 0 rfl) (by kernel_rfl))
   obtain ⟨a77, e1, hR77⟩ := (show ∃ (a77 : Option Addr), v1 = .slice a77 1 1 ∧ OwnS k_S_punish_Thing gq (t + 46) 43 a77 1 1 ([(⟨x39, d57, x40, l29, d58, x41, d59, l30, l31⟩ : S_punish_Thing)]) from hf _ (memI 10 rfl) (by kernel_rfl))
   subst e1
   refine WP.append (kd := k_S_punish_Thing) (t := 76) (e := 43) (bytes := 120) (a2 := a30) (c2 := c24) hR77 hR30.src hR30.len (by kernel_rfl) (by kernel_rfl) (by omega) (by simp only [maxLen]; omega) (by omega) ?_
   intro g130 a78 c61 st130 hR78
   refine WP.dn (Shown.o (v := .slice a78 (1 + n18) c61) st130 ?_)
   exact ⟨tv, tv, tv, tv, tv, tv, tv, tv, tv, tv, tv, ⟨a78, c61, rfl, hR78⟩, ⟨a77, rfl⟩, tv, tv, tv, tv, tv⟩
  ·intro vs gq stq hl hf
   obtain ⟨v0, v1, v2, v3, v4, v5, rfl⟩ := len_k6 hl
   have hB54 := (show Box gq (t + 42) b20 43 [[.int .i64 x42], encA .u8 d62, [.int .i64 x43], [.slice a69 l32.length c56], encA .u8 d63, [.int .i64 x44], encA .u8 d64, [.slice a70 l33.length c57], [.slice a71 l34.length c58]] [1, 8, 1, 1, 8, 1, 8, 1, 1] from hf _ (memI 5 rfl) (by kernel_rfl))
   refine WP.loadB (v := AG [[.int .i64 x42], encA .u8 d62, [.int .i64 x43], [.slice a69 l32.length c56], encA .u8 d63, [.int .i64 x44], encA .u8 d64, [.slice a70 l33.length c57], [.slice a71 l34.length c58]]) hB54 (by kernel_rfl) (by kernel_rfl) ?_
   refine WP.dn (Shown.ok (v := AG [[.int .i64 x42], encA .u8 d62, [.int .i64 x43], [.slice a69 l32.length c56], encA .u8 d63, [.int .i64 x44], encA .u8 d64, [.slice a70 l33.length c57], [.slice a71 l34.length c58]]) (by kernel_rfl) (Step.refl _ _) ?_)
   exact ⟨tv, tv, tv, tv, tv, tv, tv, tv, tv, tv, tv, tv, tv, rfl, tv, tv, tv, tv⟩
  ·intro vs gq stq hl hf
   obtain ⟨v0, v1, v2, v3, v4, v5, rfl⟩ := len_k6 hl
   have hR69 := (show RdS (Kd.int .u8) gq 5 a69 l32.length c56 l32 from hf _ (memI 6 rfl) (by kernel_rfl))
   have hR70 := (show RdS (Kd.int .u8) gq 5 a70 l33.length c57 l33 from hf _ (memI 7 rfl) (by kernel_rfl))
   have hR71 := (show RdS (Kd.int .u8) gq 5 a71 l34.length c58 l34 from hf _ (memI 8 rfl) (by kernel_rfl))
   have e3 := (show v3 = AG [[.int .i64 x42], encA .u8 d62, [.int .i64 x43], [.slice a69 l32.length c56], encA .u8 d63, [.int .i64 x44], encA .u8 d64, [.slice a70 l33.length c57], [.slice a71 l34.length c58]] from hf _ (memI 13 rfl) (by kernel_rfl))
   subst e3
   refine WP.mkSl (kd := k_S_punish_Thing) (t := 76) (e := 43) (bytes := 120) (t + 47) [AG [[.int .i64 x42], encA .u8 d62, [.int .i64 x43], [.slice a69 l32.length c56], encA .u8 d63, [.int .i64 x44], encA .u8 d64, [.slice a70 l33.length c57], [.slice a71 l34.length c58]]] [(⟨x42, d62, x43, l32, d63, x44, d64, l33, l34⟩ : S_punish_Thing)] (by kernel_rfl) (by kernel_rfl) (Nat.le_of_ble_eq_true rfl) (Nat.le_of_ble_eq_true rfl) (all_cons (Kd.len k_S_punish_Thing (g := gq) (x := (⟨x42, d62, x43, l32, d63, x44, d64, l33, l34⟩ : S_punish_Thing)) (k_S_punish_Thing.mk rfl rfl rfl ⟨_, _, _, rfl, hR69⟩ rfl rfl rfl ⟨_, _, _, rfl, hR70⟩ ⟨_, _, _, rfl, hR71⟩)) all_nil) (⟨_, _, rfl, (k_S_punish_Thing.mk rfl rfl rfl ⟨_, _, _, rfl, hR69⟩ rfl rfl rfl ⟨_, _, _, rfl, hR70⟩ ⟨_, _, _, rfl, hR71⟩), rfl⟩) rfl ?_
   intro g131 a79 st131 hR79
   refine WP.dn (Shown.o (v := .slice a79 1 1) st131.pure ?_)
   exact ⟨tv, tv, tv, tv, tv, tv, tv, tv, tv, tv, tv, tv, tv, tv, ⟨a79, rfl, hR79⟩, tv, tv, tv⟩
  ·intro vs gq stq hl hf
   obtain ⟨v0, v1, v2, v3, v4, v5, rfl⟩ := len_k6 hl
   obtain ⟨a78, c61, e2, hR78⟩ := (show ∃ (a78 : Option Addr) (c61 : Nat), v2 = .slice a78 (1 + n18) c61 ∧ OwnS k_S_punish_Thing gq (t + 46) 43 a78 (1 + n18) c61 ([(⟨x39, d57, x40, l29, d58, x41, d59, l30, l31⟩ : S_punish_Thing)] ++ l14) from hf _ (memI 11 rfl) (by kernel_rfl))
   subst e2
   obtain ⟨a79, e4, hR79⟩ := (show ∃ (a79 : Option Addr), v4 = .slice a79 1 1 ∧ OwnS k_S_punish_Thing gq (t + 47) 43 a79 1 1 ([(⟨x42, d62, x43, l32, d63, x44, d64, l33, l34⟩ : S_punish_Thing)]) from hf _ (memI 14 rfl) (by kernel_rfl))
   subst e4
   refine WP.append (kd := k_S_punish_Thing) (t := 76) (e := 43) (bytes := 120) (a2 := a79) (c2 := 1) hR78 hR79.src hR79.len (by kernel_rfl) (by kernel_rfl) (by omega) (by simp only [maxLen]; omega) (by omega) ?_
   intro g132 a80 c62 st132 hR80
   refine WP.dn (Shown.o (v := .slice a80 ((1 + n18) + 1) c62) st132 ?_)
   exact ⟨tv, tv, tv, tv, tv, tv, tv, tv, tv, tv, tv, tv, tv, tv, tv, ⟨a80, c62, rfl, hR80⟩, ⟨a78, c61, rfl⟩, tv⟩
 intro vs g133 st133 hl hf
 obtain ⟨v0, v1, v2, v3, v4, v5, rfl⟩ := len_k6 hl
 obtain ⟨a80, c62, e5, hR80⟩ := (show ∃ (a80 : Option Addr) (c62 : Nat), v5 = .slice a80 ((1 + n18) + 1) c62 ∧ OwnS k_S_punish_Thing g133 (t + 46) 43 a80 ((1 + n18) + 1) c62 (([(⟨x39, d57, x40, l29, d58, x41, d59, l30, l31⟩ : S_punish_Thing)] ++ l14) ++ [(⟨x42, d62, x43, l32, d63, x44, d64, l33, l34⟩ : S_punish_Thing)]) from hf _ (memI 15 rfl) (by kernel_rfl))
 subst e5
 replace hB1 := hB1.mono st133 (WL.no1 (by omega))
 replace hR72 := hR72.mono st133 (WL.no1 (by omega)) (WL.no1 (by omega))
 replace hB2 := hB2.mono st133 (WL.no1 (by omega))
 replace tot := tot.trans (st133.up1 (.inr (by omega)))
 refine NX.then_n ?_
 refine CP.refr 169 [(1, .int .i64 x1), (6, .bool q1), (15, .pointer (some ⟨b1, 0, none⟩)), (23, .bool (!(d67.1 == d68.1))), (24, .slice a80 ((1 + n18) + 1) c62)] (by kernel_rfl) (by kernel_rfl) ?_
 clear ds
 intro ds
 refine CP.seqR ?_
 refine WP.stl 3 ?_
 replace hs := Option.bind_eq_some_iff.1 hs
 obtain ⟨d69, hk42, hs⟩ := hs
 have hcal42 := P.baizelaw34_table g133 q1 d69 hk42
 refine WP.callC hcal42 (by kernel_rfl) ?_
 rintro _ g134 st134 rfl
 replace hB1 := hB1.mono st134 (fun x => x)
 replace hR72 := hR72.mono st134 (fun x => x) (fun x => x)
 replace hB2 := hB2.mono st134 (fun x => x)
 replace hR80 := hR80.mono st134 (fun x => x) (fun x => x)
 replace tot := tot.trans st134.pure
 refine WP.stl 1 ?_
 replace hs := Option.bind_eq_some_iff.1 hs
 obtain ⟨d70, hk43, hs⟩ := hs
 have hcal43 := P.baizelaw34_key g134 x1 d70 hk43
 refine WP.callC hcal43 (by kernel_rfl) ?_
 rintro _ g135 st135 rfl
 replace hB1 := hB1.mono st135 (fun x => x)
 replace hR72 := hR72.mono st135 (fun x => x) (fun x => x)
 replace hB2 := hB2.mono st135 (fun x => x)
 replace hR80 := hR80.mono st135 (fun x => x) (fun x => x)
 replace tot := tot.trans st135.pure
 refine WP.stl 1 ?_
 replace hs := Option.bind_eq_some_iff.1 hs
 obtain ⟨⟨x45, x46, q16⟩, hk44, hs⟩ := hs
 dsimp only at hs
 have hS13 : 0 ∉ ([(t + 4), (t + 46)] : List Nat) := by simp <;> omega
 have stl13 := GW.lend_step g135 [(t + 4), (t + 46)]
 have hRl15 := hR72.lendTo hS13 (by simp)
 have hRl16 := hR80.lendTo hS13 (by simp)
 refine WP.regw (g' := GW.lend g135 [(t + 4), (t + 46)]) rfl ?_
 have hcal44 := P.punish_Find (GW.lend g135 [(t + 4), (t + 46)]) (t + 1) (t + 2) d66 d65 d69 d70 (([(⟨x39, d57, x40, l29, d58, x41, d59, l30, l31⟩ : S_punish_Thing)] ++ l14) ++ [(⟨x42, d62, x43, l32, d63, x44, d64, l33, l34⟩ : S_punish_Thing)]) a72 d66.length c59 a80 ((1 + n18) + 1) c62 b1 b2 hRl15 hRl16 (hB2.mono stl13 (WL.no (by simp <;> omega))) (hB1.mono stl13 (WL.no (by simp <;> omega))) (by omega) (by omega) (by omega) x45 x46 q16 hk44
 refine WP.callC hcal44 (by kernel_rfl) ?_
 rintro _ g136 st136 rfl
 have st137 := (GW.back_step st136).lentS
 have hO15 := hR72.backTo hS13 (by simp) st136 (fun x => x)
 have hO16 := hR80.backTo hS13 (by simp) st136 (fun x => x)
 refine WP.regw (g' := GW.back g135 g136 [(t + 4), (t + 46)]) rfl ?_
 generalize GW.back g135 g136 [(t + 4), (t + 46)] = g137 at *
 replace hB1 := hB1.mono st137 (WL.no2 (by omega) (by omega))
 replace hB2 := hB2.mono st137 (WL.no2 (by omega) (by omega))
 replace tot := tot.trans (st137.up2 (.inr (by omega)) (.inr (by omega)))
 clear hR72
 have hR72 : OwnS k_S_notary_entry g137 (t + 4) 126 a72 d66.length c59 d66 := hO15
 clear hO15
 clear hR80
 have hR80 : OwnS k_S_punish_Thing g137 (t + 46) 43 a80 ((1 + n18) + 1) c62 (([(⟨x39, d57, x40, l29, d58, x41, d59, l30, l31⟩ : S_punish_Thing)] ++ l14) ++ [(⟨x42, d62, x43, l32, d63, x44, d64, l33, l34⟩ : S_punish_Thing)]) := hO16
 clear hO16
 refine WP.stl 7 ?_
 refine WP.dn ?_
 refine NX.then_n ?_
 refine CP.refr 169 [(1, .int .i64 x1), (6, .bool q1), (15, .pointer (some ⟨b1, 0, none⟩)), (23, .bool (!(d67.1 == d68.1))), (24, .slice a80 ((1 + n18) + 1) c62), (25, .int .i64 x45), (26, .int .i64 x46), (27, .bool q16)] (by kernel_rfl) (by kernel_rfl) ?_
 clear ds
 intro ds
 refine CP.seq ?_
 obtain ⟨g140, hw12, st140, hnew⟩ := hR80.freeze (by omega)
 refine CP.regw hw12 ?_
 replace hB1 := hB1.mono st140 (WL.no1 (by omega))
 replace hR72 := hR72.mono st140 (WL.no1 (by omega)) (WL.no1 (by omega))
 replace hB2 := hB2.mono st140 (WL.no1 (by omega))
 replace tot := tot.trans (st140.up1 (.inr (by omega)))
 clear hR80
 have hR80 := hnew
 clear hnew
 replace hs := Option.bind_eq_some_iff.1 hs
 obtain ⟨d73, hk47, hs⟩ := hs
 replace hs := Option.bind_eq_some_iff.1 hs
 obtain ⟨d74, hk48, hs⟩ := hs
 by_cases hc21 : (0 : Int) ≤ 0 ∧ 0 ≤ (IntKind.i64.wrap (((([(⟨x39, d57, x40, l29, d58, x41, d59, l30, l31⟩ : S_punish_Thing)] ++ l14) ++ [(⟨x42, d62, x43, l32, d63, x44, d64, l33, l34⟩ : S_punish_Thing)]).length : Int) - 1)) ∧ (IntKind.i64.wrap (((([(⟨x39, d57, x40, l29, d58, x41, d59, l30, l31⟩ : S_punish_Thing)] ++ l14) ++ [(⟨x42, d62, x43, l32, d63, x44, d64, l33, l34⟩ : S_punish_Thing)]).length : Int) - 1)) ≤ ((([(⟨x39, d57, x40, l29, d58, x41, d59, l30, l31⟩ : S_punish_Thing)] ++ l14) ++ [(⟨x42, d62, x43, l32, d63, x44, d64, l33, l34⟩ : S_punish_Thing)]).length : Int)
 case neg => rw [if_neg hc21] at hs; cases hs
 replace hs := of_if_p hs hc21
 replace hs := Option.bind_eq_some_iff.1 hs
 obtain ⟨⟨x47, x48, q17⟩, hk49, hs⟩ := hs
 dsimp only at hs
 refine CP.drawL (by kernel_rfl) [3, 5, 8, 10, 11] N.baizelaw34_PunishCaught_2 [⟨none, [], [], fun l g => Box g (t + 1) b1 121 [[.slice a72 d66.length c59], [.map (some b2)]] [1, 1]⟩, ⟨none, [0], [], fun l g => OwnS k_S_notary_entry g (t + 4) 126 a72 d66.length c59 d66⟩, ⟨none, [], [], fun l g => MapB g (t + 2) b2 kv_S_notary_entry (Value.int .i64) d65⟩, ⟨none, [], [], fun l g => RdS k_S_punish_Thing g 43 a80 ((1 + n18) + 1) c62 (([(⟨x39, d57, x40, l29, d58, x41, d59, l30, l31⟩ : S_punish_Thing)] ++ l14) ++ [(⟨x42, d62, x43, l32, d63, x44, d64, l33, l34⟩ : S_punish_Thing)])⟩, ⟨some 0, [], [0], fun l g => l.getD 0 undef = AG [encA .u8 d73]⟩, ⟨some 1, [], [1], fun l g => l.getD 0 undef = AG [encA .u8 d74]⟩, ⟨some 2, [], [2], fun l g => l.getD 0 undef = .int .i64 ((([(⟨x39, d57, x40, l29, d58, x41, d59, l30, l31⟩ : S_punish_Thing)] ++ l14) ++ [(⟨x42, d62, x43, l32, d63, x44, d64, l33, l34⟩ : S_punish_Thing)]).length : Int)⟩, ⟨some 3, [], [3], fun l g => ∃ (a82 : Option Addr) (c64 : Nat), l.getD 0 undef = .slice a82 ((IntKind.i64.wrap (((([(⟨x39, d57, x40, l29, d58, x41, d59, l30, l31⟩ : S_punish_Thing)] ++ l14) ++ [(⟨x42, d62, x43, l32, d63, x44, d64, l33, l34⟩ : S_punish_Thing)]).length : Int) - 1)).toNat - (0 : Int).toNat) c64 ∧ RdS k_S_punish_Thing g 43 a82 ((IntKind.i64.wrap (((([(⟨x39, d57, x40, l29, d58, x41, d59, l30, l31⟩ : S_punish_Thing)] ++ l14) ++ [(⟨x42, d62, x43, l32, d63, x44, d64, l33, l34⟩ : S_punish_Thing)]).length : Int) - 1)).toNat - (0 : Int).toNat) c64 (sliceI (([(⟨x39, d57, x40, l29, d58, x41, d59, l30, l31⟩ : S_punish_Thing)] ++ l14) ++ [(⟨x42, d62, x43, l32, d63, x44, d64, l33, l34⟩ : S_punish_Thing)]) 0 (IntKind.i64.wrap (((([(⟨x39, d57, x40, l29, d58, x41, d59, l30, l31⟩ : S_punish_Thing)] ++ l14) ++ [(⟨x42, d62, x43, l32, d63, x44, d64, l33, l34⟩ : S_punish_Thing)]).length : Int) - 1)))⟩, ⟨some 4, [], [4], fun l g => l.getD 0 undef = .tuple #[.int .i64 x47, .int .i64 x48, .bool q17]⟩, ⟨some 4, [0], [], fun l g => OwnS k_S_notary_entry g (t + 4) 126 a72 d66.length c59 d66⟩] [[], [], [], [], [0]] [(t + 4)] [0, 1, 2, 4, 6, 7] [9, 12, 13, 14, 15, 16, 17, 18] (by kernel_rfl) (by simp <;> omega) (by simp) ⟨fun _ _ _ _ st h0 hl hj hB1 => (hB1.mono st (fun h => absurd (hl _ h) (by simp <;> omega))), fun _ _ _ _ st h0 hl hj hR72 => (hR72.mono st h0 (hj 0 (by simp) _ rfl)), fun _ _ _ _ st h0 hl hj hB2 => (hB2.mono st (fun h => absurd (hl _ h) (by simp <;> omega))), fun _ _ _ _ st h0 hl hj hR80 => (RdS.mono (e := 43) hR80 st h0), fun _ _ _ _ st h0 hl hj e0 => e0, fun _ _ _ _ st h0 hl hj e1 => e1, fun _ _ _ _ st h0 hl hj e2 => e2, fun _ _ _ _ st h0 hl hj ⟨a82, c64, e3, hR82⟩ => ⟨a82, c64, e3, (RdS.mono (e := 43) hR82 st h0)⟩, fun _ _ _ _ st h0 hl hj e4 => e4, fun _ _ _ _ st h0 hl hj hR72 => (hR72.mono st h0 (hj 0 (by simp) _ rfl)), tv⟩ ⟨hB1, hR72, hB2, hR80, tv, tv, tv, tv, tv, tv, tv⟩ (by kernel_rfl) (fun vs => by kernel_rfl) ?_ ?_ ?_
 ·intro j hj
  have hq : j = 0 ∨ j = 1 ∨ j = 2 ∨ j = 3 ∨ j = 4 ∨ j = 5 ∨ j = 6 ∨ j = 7 := by have h : j < 8 := hj; omega
  rcases hq with rfl | rfl | rfl | rfl | rfl | rfl | rfl | rfl
  ·intro vs gq stq hl hf
   obtain ⟨v0, v1, v2, v3, v4, rfl⟩ := len_k5 hl
   have e2 := (show v2 = .int .i64 ((([(⟨x39, d57, x40, l29, d58, x41, d59, l30, l31⟩ : S_punish_Thing)] ++ l14) ++ [(⟨x42, d62, x43, l32, d63, x44, d64, l33, l34⟩ : S_punish_Thing)]).length : Int) from hf _ (memI 6 rfl) (by kernel_rfl))
   subst e2
   show Option.isSome _ = true
   kernel_rfl
  ·intro vs gq stq hl hf
   obtain ⟨v0, v1, v2, v3, v4, rfl⟩ := len_k5 hl
   have e4 := (show v4 = .tuple #[.int .i64 x47, .int .i64 x48, .bool q17] from hf _ (memI 8 rfl) (by kernel_rfl))
   subst e4
   show Option.isSome _ = true
   kernel_rfl
  ·intro vs gq stq hl hf
   obtain ⟨v0, v1, v2, v3, v4, rfl⟩ := len_k5 hl
   have e4 := (show v4 = .tuple #[.int .i64 x47, .int .i64 x48, .bool q17] from hf _ (memI 8 rfl) (by kernel_rfl))
   subst e4
   show Option.isSome _ = true
   kernel_rfl
  ·intro vs gq stq hl hf
   obtain ⟨v0, v1, v2, v3, v4, rfl⟩ := len_k5 hl
   have e4 := (show v4 = .tuple #[.int .i64 x47, .int .i64 x48, .bool q17] from hf _ (memI 8 rfl) (by kernel_rfl))
   subst e4
   show Option.isSome _ = true
   kernel_rfl
  ·intro vs gq stq hl hf
   obtain ⟨v0, v1, v2, v3, v4, rfl⟩ := len_k5 hl
   have e4 := (show v4 = .tuple #[.int .i64 x47, .int .i64 x48, .bool q17] from hf _ (memI 8 rfl) (by kernel_rfl))
   subst e4
   show Option.isSome _ = true
   kernel_rfl
  ·intro vs gq stq hl hf
   obtain ⟨v0, v1, v2, v3, v4, rfl⟩ := len_k5 hl
   have e4 := (show v4 = .tuple #[.int .i64 x47, .int .i64 x48, .bool q17] from hf _ (memI 8 rfl) (by kernel_rfl))
   subst e4
   show Option.isSome _ = true
   kernel_rfl
  ·intro vs gq stq hl hf
   obtain ⟨v0, v1, v2, v3, v4, rfl⟩ := len_k5 hl
   have e4 := (show v4 = .tuple #[.int .i64 x47, .int .i64 x48, .bool q17] from hf _ (memI 8 rfl) (by kernel_rfl))
   subst e4
   show Option.isSome _ = true
   kernel_rfl
  ·intro vs gq stq hl hf
   obtain ⟨v0, v1, v2, v3, v4, rfl⟩ := len_k5 hl
   have e4 := (show v4 = .tuple #[.int .i64 x47, .int .i64 x48, .bool q17] from hf _ (memI 8 rfl) (by kernel_rfl))
   subst e4
   show Option.isSome _ = true
   kernel_rfl
 ·intro j hj
  have hq : j = 0 ∨ j = 1 ∨ j = 2 ∨ j = 3 ∨ j = 4 := by have h : j < 5 := hj; omega
  rcases hq with rfl | rfl | rfl | rfl | rfl
  ·intro vs gq stq hl hf
   obtain ⟨v0, v1, v2, v3, v4, rfl⟩ := len_k5 hl
   have hcal47 := P.baizelaw34_table gq q1 d73 hk47
   refine WP.callC hcal47 (by kernel_rfl) ?_
   rintro _ g141 st141 rfl
   refine WP.dn (Shown.o (v := AG [encA .u8 d73]) st141.pure ?_)
   exact ⟨tv, tv, tv, tv, rfl, tv, tv, tv, tv, tv, tv⟩
  ·intro vs gq stq hl hf
   obtain ⟨v0, v1, v2, v3, v4, rfl⟩ := len_k5 hl
   have hcal48 := P.baizelaw34_key gq x1 d74 hk48
   refine WP.callC hcal48 (by kernel_rfl) ?_
   rintro _ g142 st142 rfl
   refine WP.dn (Shown.o (v := AG [encA .u8 d74]) st142.pure ?_)
   exact ⟨tv, tv, tv, tv, tv, rfl, tv, tv, tv, tv, tv⟩
  ·intro vs gq stq hl hf
   obtain ⟨v0, v1, v2, v3, v4, rfl⟩ := len_k5 hl
   have hR80 := (show RdS k_S_punish_Thing gq 43 a80 ((1 + n18) + 1) c62 (([(⟨x39, d57, x40, l29, d58, x41, d59, l30, l31⟩ : S_punish_Thing)] ++ l14) ++ [(⟨x42, d62, x43, l32, d63, x44, d64, l33, l34⟩ : S_punish_Thing)]) from hf _ (memI 3 rfl) (by kernel_rfl))
   refine WP.len (a := a80) (cp := c62) hR80.len (by kernel_rfl) ?_
   refine WP.dn (Shown.ok (v := .int .i64 ((([(⟨x39, d57, x40, l29, d58, x41, d59, l30, l31⟩ : S_punish_Thing)] ++ l14) ++ [(⟨x42, d62, x43, l32, d63, x44, d64, l33, l34⟩ : S_punish_Thing)]).length : Int)) (by kernel_rfl) (Step.refl _ _) ?_)
   exact ⟨tv, tv, tv, tv, tv, tv, rfl, tv, tv, tv, tv⟩
  ·intro vs gq stq hl hf
   obtain ⟨v0, v1, v2, v3, v4, rfl⟩ := len_k5 hl
   have hR80 := (show RdS k_S_punish_Thing gq 43 a80 ((1 + n18) + 1) c62 (([(⟨x39, d57, x40, l29, d58, x41, d59, l30, l31⟩ : S_punish_Thing)] ++ l14) ++ [(⟨x42, d62, x43, l32, d63, x44, d64, l33, l34⟩ : S_punish_Thing)]) from hf _ (memI 3 rfl) (by kernel_rfl))
   have e2 := (show v2 = .int .i64 ((([(⟨x39, d57, x40, l29, d58, x41, d59, l30, l31⟩ : S_punish_Thing)] ++ l14) ++ [(⟨x42, d62, x43, l32, d63, x44, d64, l33, l34⟩ : S_punish_Thing)]).length : Int) from hf _ (memI 6 rfl) (by kernel_rfl))
   subst e2
   refine WP.sliceR (lo := none) (hi := some (.int .i64 (IntKind.i64.wrap (((([(⟨x39, d57, x40, l29, d58, x41, d59, l30, l31⟩ : S_punish_Thing)] ++ l14) ++ [(⟨x42, d62, x43, l32, d63, x44, d64, l33, l34⟩ : S_punish_Thing)]).length : Int) - 1)))) hR80 0 (IntKind.i64.wrap (((([(⟨x39, d57, x40, l29, d58, x41, d59, l30, l31⟩ : S_punish_Thing)] ++ l14) ++ [(⟨x42, d62, x43, l32, d63, x44, d64, l33, l34⟩ : S_punish_Thing)]).length : Int) - 1)) (by kernel_rfl) (.inl ⟨rfl, rfl⟩) (.inr ⟨_, rfl⟩) hc21 ?_
   intro a82 c64 hR82
   refine WP.dn (Shown.ok (v := .slice a82 ((IntKind.i64.wrap (((([(⟨x39, d57, x40, l29, d58, x41, d59, l30, l31⟩ : S_punish_Thing)] ++ l14) ++ [(⟨x42, d62, x43, l32, d63, x44, d64, l33, l34⟩ : S_punish_Thing)]).length : Int) - 1)).toNat - (0 : Int).toNat) c64) (by kernel_rfl) (Step.refl _ _) ?_)
   exact ⟨tv, tv, tv, tv, tv, tv, tv, ⟨a82, c64, rfl, hR82⟩, tv, tv, tv⟩
  ·intro vs gq stq hl hf
   obtain ⟨v0, v1, v2, v3, v4, rfl⟩ := len_k5 hl
   have hB1 := (show Box gq (t + 1) b1 121 [[.slice a72 d66.length c59], [.map (some b2)]] [1, 1] from hf _ (memI 0 rfl) (by kernel_rfl))
   have hR72 := (show OwnS k_S_notary_entry gq (t + 4) 126 a72 d66.length c59 d66 from hf _ (memI 1 rfl) (by kernel_rfl))
   have hB2 := (show MapB gq (t + 2) b2 kv_S_notary_entry (Value.int .i64) d65 from hf _ (memI 2 rfl) (by kernel_rfl))
   have e0 := (show v0 = AG [encA .u8 d73] from hf _ (memI 4 rfl) (by kernel_rfl))
   subst e0
   have e1 := (show v1 = AG [encA .u8 d74] from hf _ (memI 5 rfl) (by kernel_rfl))
   subst e1
   obtain ⟨a82, c64, e3, hR82⟩ := (show ∃ (a82 : Option Addr) (c64 : Nat), v3 = .slice a82 ((IntKind.i64.wrap (((([(⟨x39, d57, x40, l29, d58, x41, d59, l30, l31⟩ : S_punish_Thing)] ++ l14) ++ [(⟨x42, d62, x43, l32, d63, x44, d64, l33, l34⟩ : S_punish_Thing)]).length : Int) - 1)).toNat - (0 : Int).toNat) c64 ∧ RdS k_S_punish_Thing gq 43 a82 ((IntKind.i64.wrap (((([(⟨x39, d57, x40, l29, d58, x41, d59, l30, l31⟩ : S_punish_Thing)] ++ l14) ++ [(⟨x42, d62, x43, l32, d63, x44, d64, l33, l34⟩ : S_punish_Thing)]).length : Int) - 1)).toNat - (0 : Int).toNat) c64 (sliceI (([(⟨x39, d57, x40, l29, d58, x41, d59, l30, l31⟩ : S_punish_Thing)] ++ l14) ++ [(⟨x42, d62, x43, l32, d63, x44, d64, l33, l34⟩ : S_punish_Thing)]) 0 (IntKind.i64.wrap (((([(⟨x39, d57, x40, l29, d58, x41, d59, l30, l31⟩ : S_punish_Thing)] ++ l14) ++ [(⟨x42, d62, x43, l32, d63, x44, d64, l33, l34⟩ : S_punish_Thing)]).length : Int) - 1))) from hf _ (memI 7 rfl) (by kernel_rfl))
   subst e3
   have hS14 : 0 ∉ ([(t + 4)] : List Nat) := by simp <;> omega
   have stl14 := GW.lend_step gq [(t + 4)]
   have hRl17 := hR72.lendTo hS14 (by simp)
   refine WP.regw (g' := GW.lend gq [(t + 4)]) rfl ?_
   have hcal49 := P.punish_Find (GW.lend gq [(t + 4)]) (t + 1) (t + 2) d66 d65 d73 d74 (sliceI (([(⟨x39, d57, x40, l29, d58, x41, d59, l30, l31⟩ : S_punish_Thing)] ++ l14) ++ [(⟨x42, d62, x43, l32, d63, x44, d64, l33, l34⟩ : S_punish_Thing)]) 0 (IntKind.i64.wrap (((([(⟨x39, d57, x40, l29, d58, x41, d59, l30, l31⟩ : S_punish_Thing)] ++ l14) ++ [(⟨x42, d62, x43, l32, d63, x44, d64, l33, l34⟩ : S_punish_Thing)]).length : Int) - 1))) a72 d66.length c59 a82 ((IntKind.i64.wrap (((([(⟨x39, d57, x40, l29, d58, x41, d59, l30, l31⟩ : S_punish_Thing)] ++ l14) ++ [(⟨x42, d62, x43, l32, d63, x44, d64, l33, l34⟩ : S_punish_Thing)]).length : Int) - 1)).toNat - (0 : Int).toNat) c64 b1 b2 hRl17 (hR82.mono stl14 (WL.no (by simp <;> omega))) (hB2.mono stl14 (WL.no (by simp <;> omega))) (hB1.mono stl14 (WL.no (by simp <;> omega))) (by omega) (by omega) (by omega) x47 x48 q17 hk49
   refine WP.callC hcal49 (by kernel_rfl) ?_
   rintro _ g143 st143 rfl
   have st144 := (GW.back_step st143).lentS
   have hO17 := hR72.backTo hS14 (by simp) st143 (fun x => x)
   refine WP.regw (g' := GW.back gq g143 [(t + 4)]) rfl ?_
   generalize GW.back gq g143 [(t + 4)] = g144 at *
   refine WP.dn (Shown.o (v := .tuple #[.int .i64 x47, .int .i64 x48, .bool q17]) st144 ?_)
   exact ⟨tv, tv, tv, tv, tv, tv, tv, tv, rfl, hO17, tv⟩
 intro vs g145 st145 hl hf
 obtain ⟨v0, v1, v2, v3, v4, rfl⟩ := len_k5 hl
 have e4 := (show v4 = .tuple #[.int .i64 x47, .int .i64 x48, .bool q17] from hf _ (memI 8 rfl) (by kernel_rfl))
 subst e4
 have hR72 := (show OwnS k_S_notary_entry g145 (t + 4) 126 a72 d66.length c59 d66 from hf _ (memI 9 rfl) (by kernel_rfl))
 replace hB1 := hB1.mono st145 (WL.no1 (by omega))
 replace hB2 := hB2.mono st145 (WL.no1 (by omega))
 replace hR80 := hR80.mono st145 (WL.no1 (by omega))
 replace tot := tot.trans (st145.up1 (.inr (by omega)))
 refine NX.then_n ?_
 refine CP.refr 169 [(1, .int .i64 x1), (6, .bool q1), (15, .pointer (some ⟨b1, 0, none⟩)), (23, .bool (!(d67.1 == d68.1))), (24, .slice a80 ((1 + n18) + 1) c62), (25, .int .i64 x45), (26, .int .i64 x46), (27, .bool q16), (30, .bool q17)] (by kernel_rfl) (by kernel_rfl) ?_
 clear ds
 intro ds
 refine CP.seqR ?_
 refine WP.stl 4 ?_
 replace hs := Option.bind_eq_some_iff.1 hs
 obtain ⟨d75, hk50, hs⟩ := hs
 have hcal50 := P.baizelaw34_table g145 (!q1) d75 hk50
 refine WP.callC hcal50 (by kernel_rfl) ?_
 rintro _ g146 st146 rfl
 replace hB1 := hB1.mono st146 (fun x => x)
 replace hR72 := hR72.mono st146 (fun x => x) (fun x => x)
 replace hB2 := hB2.mono st146 (fun x => x)
 replace hR80 := hR80.mono st146 (fun x => x)
 replace tot := tot.trans st146.pure
 refine WP.stl 1 ?_
 replace hs := Option.bind_eq_some_iff.1 hs
 obtain ⟨d76, hk51, hs⟩ := hs
 have hcal51 := P.baizelaw34_key g146 x1 d76 hk51
 refine WP.callC hcal51 (by kernel_rfl) ?_
 rintro _ g147 st147 rfl
 replace hB1 := hB1.mono st147 (fun x => x)
 replace hR72 := hR72.mono st147 (fun x => x) (fun x => x)
 replace hB2 := hB2.mono st147 (fun x => x)
 replace hR80 := hR80.mono st147 (fun x => x)
 replace tot := tot.trans st147.pure
 refine WP.stl 1 ?_
 replace hs := Option.bind_eq_some_iff.1 hs
 obtain ⟨⟨x49, x50, q18⟩, hk52, hs⟩ := hs
 dsimp only at hs
 have hS15 : 0 ∉ ([(t + 4)] : List Nat) := by simp <;> omega
 have stl15 := GW.lend_step g147 [(t + 4)]
 have hRl18 := hR72.lendTo hS15 (by simp)
 refine WP.regw (g' := GW.lend g147 [(t + 4)]) rfl ?_
 have hcal52 := P.punish_Find (GW.lend g147 [(t + 4)]) (t + 1) (t + 2) d66 d65 d75 d76 (([(⟨x39, d57, x40, l29, d58, x41, d59, l30, l31⟩ : S_punish_Thing)] ++ l14) ++ [(⟨x42, d62, x43, l32, d63, x44, d64, l33, l34⟩ : S_punish_Thing)]) a72 d66.length c59 a80 ((1 + n18) + 1) c62 b1 b2 hRl18 (hR80.mono stl15 (WL.no (by simp <;> omega))) (hB2.mono stl15 (WL.no (by simp <;> omega))) (hB1.mono stl15 (WL.no (by simp <;> omega))) (by omega) (by omega) (by omega) x49 x50 q18 hk52
 refine WP.callC hcal52 (by kernel_rfl) ?_
 rintro _ g148 st148 rfl
 have st149 := (GW.back_step st148).lentS
 have hO18 := hR72.backTo hS15 (by simp) st148 (fun x => x)
 refine WP.regw (g' := GW.back g147 g148 [(t + 4)]) rfl ?_
 generalize GW.back g147 g148 [(t + 4)] = g149 at *
 replace hB1 := hB1.mono st149 (WL.no1 (by omega))
 replace hB2 := hB2.mono st149 (WL.no1 (by omega))
 replace hR80 := hR80.mono st149 (WL.no1 (by omega))
 replace tot := tot.trans (st149.up1 (.inr (by omega)))
 clear hR72
 have hR72 : OwnS k_S_notary_entry g149 (t + 4) 126 a72 d66.length c59 d66 := hO18
 clear hO18
 refine WP.stl 7 ?_
 refine WP.dn ?_
 refine NX.then_n ?_
 refine CP.refr 169 [(23, .bool (!(d67.1 == d68.1))), (24, .slice a80 ((1 + n18) + 1) c62), (25, .int .i64 x45), (26, .int .i64 x46), (27, .bool q16), (30, .bool q17), (33, .bool q18)] (by kernel_rfl) (by kernel_rfl) ?_
 clear ds
 intro ds
 refine CP.seq ?_
 refine CP.cut (fun tm g => ∃ (q19 : Bool), Fr 169 [(24, .slice a80 ((1 + n18) + 1) c62), (25, .int .i64 x45), (26, .int .i64 x46), (27, .bool q16), (155, .bool q19)] tm ∧ Step (fun l => NoM l ∨ t ≤ l) g0 g ∧ RdS k_S_punish_Thing g 43 a80 ((1 + n18) + 1) c62 (([(⟨x39, d57, x40, l29, d58, x41, d59, l30, l31⟩ : S_punish_Thing)] ++ l14) ++ [(⟨x42, d62, x43, l32, d63, x44, d64, l33, l34⟩ : S_punish_Thing)]) ∧ (F.baizelaw34_PunishCaught.c2 l14 x39 d57 x40 l29 d58 x41 d59 l30 l31 x42 d62 x43 l32 d63 x44 d64 l33 l34 x45 x46 q16 q19) = some o1) ?_ ?_
 ·refine CP.region ?_
  refine WP.stl 2 ?_
  refine WP.guard 148 (b := q17) (by kernel_rfl) (fun h27 => ?_) (fun h27 => ?_)
  ·replace hs := of_if_t hs h27
   refine WP.stl 7 ?_
   refine WP.dn ?_
   refine NX.post ?_
   exact ⟨true, ⟨by kernel_rfl, by kernel_rfl⟩, tot, hR80, hs⟩
  replace hs := of_if_f hs h27
  refine WP.stl 3 ?_
  refine WP.guard 151 (b := q18) (by kernel_rfl) (fun h28 => ?_) (fun h28 => ?_)
  ·replace hs := of_if_t hs h28
   refine WP.stl 4 ?_
   refine WP.dn ?_
   refine NX.post ?_
   exact ⟨true, ⟨by kernel_rfl, by kernel_rfl⟩, tot, hR80, hs⟩
  replace hs := of_if_f hs h28
  refine WP.stl 4 ?_
  refine WP.dn ?_
  refine NX.post ?_
  exact ⟨(!(q16 == (!(d67.1 == d68.1)))), ⟨by kernel_rfl, by kernel_rfl⟩, tot, hR80, hs⟩
 clear tot hs hR80
 rintro tm g ⟨q19, hF, tot, hR80, hs⟩
 clear ds
 obtain ⟨ds, rfl⟩ := hF.open
 clear hF
 unfold F.baizelaw34_PunishCaught.c2 at hs
 refine CP.cond (b := q19) (by kernel_rfl) (fun h22 => ?_) (fun h22 => ?_)
 ·replace hs := of_if_t hs h22
  refine CP.seqR ?_
  refine WP.stl 1 ?_
  refine WP.dn ?_
  refine NX.then_n ?_
  refine CP.ret ?_
  refine NX.then_r ?_
  replace hs := Option.some.inj hs
  obtain rfl := hs
  exact NX.fin (v := .bool false) (Res.still (by kernel_rfl)) tot htL rfl
 replace hs := of_if_f hs h22
 refine CP.skip ?_
 refine NX.then_n ?_
 refine CP.cut (fun tm g => ∃ (q20 : Bool), Fr 169 [(14, .bool q20)] tm ∧ Step (fun l => NoM l ∨ t ≤ l) g0 g ∧ (F.baizelaw34_PunishCaught.c3 q20) = some o1) ?_ ?_
 ·refine CP.region ?_
  refine WP.stl 3 ?_
  refine WP.guard 158 (b := (!q16)) (by kernel_rfl) (fun h25 => ?_) (fun h25 => ?_)
  ·replace hs := of_if_t hs h25
   refine WP.stl 11 ?_
   refine WP.dn ?_
   refine NX.post ?_
   exact ⟨true, ⟨by kernel_rfl, by kernel_rfl⟩, tot, hs⟩
  replace hs := of_if_f hs h25
  refine WP.stl 3 ?_
  refine WP.guard 161 (b := (x45 == 0)) (by kernel_rfl) (fun h26 => ?_) (fun h26 => ?_)
  ·replace hs := of_if_t hs h26
   refine WP.stl 2 ?_
   refine WP.len (a := a80) (cp := c62) hR80.len (by kernel_rfl) ?_
   refine WP.stl 5 ?_
   refine WP.dn ?_
   refine NX.post ?_
   exact ⟨(x46 == (IntKind.i64.wrap (((([(⟨x39, d57, x40, l29, d58, x41, d59, l30, l31⟩ : S_punish_Thing)] ++ l14) ++ [(⟨x42, d62, x43, l32, d63, x44, d64, l33, l34⟩ : S_punish_Thing)]).length : Int) - 1))), ⟨by kernel_rfl, by kernel_rfl⟩, tot, hs⟩
  replace hs := of_if_f hs h26
  refine WP.stl 8 ?_
  refine WP.dn ?_
  refine NX.post ?_
  exact ⟨false, ⟨by kernel_rfl, by kernel_rfl⟩, tot, hs⟩
 clear tot hs hR80
 rintro tm g ⟨q20, hF, tot, hs⟩
 clear ds
 obtain ⟨ds, rfl⟩ := hF.open
 clear hF
 unfold F.baizelaw34_PunishCaught.c3 at hs
 refine CP.ret ?_
 replace hs := Option.some.inj hs
 obtain rfl := hs
 exact NX.fin (v := .bool q20) (Res.still (by kernel_rfl)) tot htL rfl
end Go.Proofs.Ytlnockimfgfcgaa
