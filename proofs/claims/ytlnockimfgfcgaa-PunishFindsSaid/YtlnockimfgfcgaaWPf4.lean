/-
  Walks, written by program: each Go function computes the plain function of its name, in whatever world its arguments' facts hold.
-/
import Derived.Test.YtlnockimfgfcgaaWPf3
namespace Go.Proofs.Ytlnockimfgfcgaa
open Go.RowKit Go.Lab
attribute [local irreducible] WP CP NX wpList Code.wp Calls
set_option maxRecDepth 100000
set_option maxHeartbeats 4000000
set_option linter.unusedVariables false

def N.baizelaw34_PunishFinds_0 : List (List Nat) := [[], [0], [], [], [], [], [4, 5], [4, 5, 6], [], [], [8, 9], [8, 9, 10], [0, 1, 2, 3, 4, 5, 6, 7, 8, 9, 10, 11], [0, 1, 2, 3, 4, 5, 6, 7, 8, 9, 10, 11, 12]]
def F.baizelaw34_PunishFinds.c2 (q25 : Bool) : Option (Bool) := (some q25)
def N.baizelaw34_PunishFinds_1 : List (List Nat) := [[], [0], [0, 1], [0, 1], [0, 1, 2, 3], [0, 1, 2, 3, 4], [0, 1, 2, 3, 4, 5], [0, 1, 2, 3, 4, 5, 6], [0, 1, 2, 3, 4, 5, 6], [0, 1, 2, 3, 4, 5, 6, 7, 8], [0, 1, 2, 3, 4, 5, 6, 7, 8, 9], [0, 1, 2, 3, 4, 5, 6, 7, 8, 9, 10], [0, 1, 2, 3, 4, 5, 6, 7, 8, 9, 10, 11], [0, 1, 2, 3, 4, 5, 6, 7, 8, 9, 10, 11, 12], [0, 1, 2, 3, 4, 5, 6, 7, 8, 9, 10, 11], [0, 1, 2, 3, 4, 5, 6, 7, 8, 9, 10, 11], [0, 1, 2, 3, 4, 5, 6, 7, 8, 9, 10, 11], [0, 1, 2, 3, 4, 5, 6, 7, 8, 9, 10, 11], [0, 1, 2, 3, 4, 5, 6, 7, 8, 9, 10, 11, 16, 17], [0, 1, 2, 3, 4, 5, 6, 7, 8, 9, 10, 11, 16, 17, 18], [0, 1, 2, 3, 4, 5, 6, 7, 8, 9, 10, 11], [0, 1, 2, 3, 4, 5, 6, 7, 8, 9, 10, 11], [0, 1, 2, 3, 4, 5, 6, 7, 8, 9, 10, 11, 20, 21], [0, 1, 2, 3, 4, 5, 6, 7, 8, 9, 10, 11, 20, 21, 22], [0, 1, 2, 3, 4, 5, 6, 7, 8, 9, 10, 11, 12, 13, 14, 15, 16, 17, 18, 19, 20, 21, 22, 23], [0, 1, 2, 3, 4, 5, 6, 7, 8, 9, 10, 11, 12, 13, 14, 15, 16, 17, 18, 19, 20, 21, 22, 23, 24], [0, 1, 2, 3, 4, 5, 6, 7, 8, 9, 10, 11, 12, 13, 14, 15, 16, 17, 18, 19, 20, 21, 22, 23, 24, 25], [0, 1, 2, 3, 4, 5, 6, 7, 8, 9, 10, 11, 12, 13, 14, 15, 16, 17, 18, 19, 20, 21, 22, 23, 24, 25, 26]]
def F.baizelaw34_PunishFinds.l3 (nx2 : Int → Option (Bool)) (l5 : List S_notary_entry) (w1 : (List (S_notary_entry × Int))) (l6 : List S_punish_Thing) (d21 : Arr Int 8) (d22 : Arr Int 8) (x33 : Int) (x34 : Int) (q16 : Bool) (x41 : Int) : Nat → Int → Option (Bool)
 | 0, _ => none
 | k + 1, x51 => (if decide (x51 < x41) = true then (if (0 : Int) ≤ x51 ∧ x51 < (l6.length : Int) then (if (0 : Int) ≤ x41 ∧ x41 < (l6.length : Int) then ((F.punish_Twice l5 w1 d21 d22 ((getI l6 x51).f1) ((getI l6 x51).f2) ((getI l6 x51).f3) ((getI l6 x51).f4) ((getI l6 x51).f5) ((getI l6 x51).f6) ((getI l6 x51).f7) ((getI l6 x51).f8) ((getI l6 x51).f9) ((getI l6 x41).f1) ((getI l6 x41).f2) ((getI l6 x41).f3) ((getI l6 x41).f4) ((getI l6 x41).f5) ((getI l6 x41).f6) ((getI l6 x41).f7) ((getI l6 x41).f8) ((getI l6 x41).f9)).bind fun x55 => (if (x55 == 0) = true then (if q16 = true then (if (x33 == x51) = true then (if (x34 == x41) = true then (if (0 : Int) ≤ x41 ∧ x41 < (l6.length : Int) then (if (0 : Int) ≤ x51 ∧ x51 < (l6.length : Int) then ((F.punish_Twice l5 w1 d21 d22 ((getI l6 x41).f1) ((getI l6 x41).f2) ((getI l6 x41).f3) ((getI l6 x41).f4) ((getI l6 x41).f5) ((getI l6 x41).f6) ((getI l6 x41).f7) ((getI l6 x41).f8) ((getI l6 x41).f9) ((getI l6 x51).f1) ((getI l6 x51).f2) ((getI l6 x51).f3) ((getI l6 x51).f4) ((getI l6 x51).f5) ((getI l6 x51).f6) ((getI l6 x51).f7) ((getI l6 x51).f8) ((getI l6 x51).f9)).bind fun x57 => (F.baizelaw34_PunishFinds.c2 (x57 == 0))) else none) else none) else (F.baizelaw34_PunishFinds.c2 false)) else (F.baizelaw34_PunishFinds.c2 false)) else (F.baizelaw34_PunishFinds.c2 false)) else (F.baizelaw34_PunishFinds.l3 nx2 l5 w1 l6 d21 d22 x33 x34 q16 x41 k (IntKind.i64.wrap (x51 + 1))))) else none) else none) else (nx2 (IntKind.i64.wrap (x41 + 1))))
def F.baizelaw34_PunishFinds.c3 (q26 : Bool) : Option (Bool) := (some q26)
def F.baizelaw34_PunishFinds.l2 (l5 : List S_notary_entry) (w1 : (List (S_notary_entry × Int))) (l6 : List S_punish_Thing) (d21 : Arr Int 8) (d22 : Arr Int 8) (x33 : Int) (x34 : Int) (q16 : Bool) : Nat → Int → Option (Bool)
 | 0, _ => none
 | k + 1, x41 => (if decide (x41 < (l6.length : Int)) = true then (F.baizelaw34_PunishFinds.l3 (F.baizelaw34_PunishFinds.l2 l5 w1 l6 d21 d22 x33 x34 q16 k) l5 w1 l6 d21 d22 x33 x34 q16 x41 fuel 0) else (if (!q16) = true then (if (x33 == 0) = true then (F.baizelaw34_PunishFinds.c3 (x34 == 0)) else (F.baizelaw34_PunishFinds.c3 false)) else (F.baizelaw34_PunishFinds.c3 false)))
def F.baizelaw34_PunishFinds.l1 (l1 : List S_baizelaw34_Deed) (x1 : Int) (q1 : Bool) : Nat → (List S_notary_entry) → (List (S_notary_entry × Int)) → (List S_punish_Thing) → Int → Option (Bool)
 | 0, _, _, _, _ => none
 | k + 1, l5, w1, l6, x9 => (if decide (x9 < (l1.length : Int)) = true then (if (0 : Int) ≤ x9 ∧ x9 < (l1.length : Int) then ((F.baizelaw34_Deed_sign ((getI l1 x9).f1) ((getI l1 x9).f2) ((getI l1 x9).f3) ((getI l1 x9).f4) ((getI l1 x9).f5) ((getI l1 x9).f6) ((getI l1 x9).f7) l5 w1).bind fun (x30, d16, x31, l12, d17, x32, d18, l13, l14, d19, d20) => (if l6.length + ([(⟨x30, d16, x31, l12, d17, x32, d18, l13, l14⟩ : S_punish_Thing)]).length ≤ 1172812402961 then (F.baizelaw34_PunishFinds.l1 l1 x1 q1 k d20 d19 (l6 ++ [(⟨x30, d16, x31, l12, d17, x32, d18, l13, l14⟩ : S_punish_Thing)]) (IntKind.i64.wrap (x9 + 1))) else none)) else none) else ((F.baizelaw34_table q1).bind fun d21 => ((F.baizelaw34_key x1).bind fun d22 => ((F.punish_Find l5 w1 d21 d22 l6).bind fun (x33, x34, q16) => (F.baizelaw34_PunishFinds.l2 l5 w1 l6 d21 d22 x33 x34 q16 fuel 0)))))
def F.baizelaw34_PunishFinds.c1 (l1 : List S_baizelaw34_Deed) (x1 : Int) (q1 : Bool) (q4 : Bool) : Option (Bool) := (if q4 = true then ((F.baizelaw34_known).bind fun q5 => (some q5)) else ((F.notary_NewBook).bind fun d1 => (F.baizelaw34_PunishFinds.l1 l1 x1 q1 fuel ([]) d1 ([]) 0)))
def F.baizelaw34_PunishFinds (l1 : List S_baizelaw34_Deed) (x1 : Int) (q1 : Bool) : Option (Bool) := ((F.baizelaw34_known).bind fun q27 => (if (!q27) = true then (F.baizelaw34_PunishFinds.c1 l1 x1 q1 true) else ((F.baizelaw34_few l1).bind fun q28 => (F.baizelaw34_PunishFinds.c1 l1 x1 q1 (!q28)))))
theorem P.baizelaw34_PunishFinds (g0 : GW) (l1 : List S_baizelaw34_Deed) (x1 : Int) (q1 : Bool) (a1 : Option Addr) (n1 : Nat) (c1 : Nat) (hR1 : RdS k_S_baizelaw34_Deed g0 78 a1 n1 c1 l1) (o1 : Bool) (hs : F.baizelaw34_PunishFinds l1 x1 q1 = some o1) :
  Calls Try.prog 6 #[.slice a1 n1 c1, .int .i64 x1, .bool q1] g0.w (Ret NoM g0 fun v g => v = .bool o1) := by
 refine calls_of (args := [.slice a1 n1 c1, .int .i64 x1, .bool q1]) Try.func6 rfl (0) ?_
 intro t ht htL
 refine ⟨_, rfl, ?_⟩
 refine CP.refr 118 [(0, .slice a1 n1 c1), (1, .int .i64 x1), (2, .bool q1)] (by kernel_rfl) (by kernel_rfl) ?_
 intro ds
 have tot : Step (fun l => NoM l ∨ t ≤ l) g0 g0 := Step.refl _ _
 unfold F.baizelaw34_PunishFinds at hs
 refine CP.seqR ?_
 refine WP.stl 1 ?_
 refine WP.dn ?_
 refine NX.then_n ?_
 refine CP.seq ?_
 refine CP.cut (fun tm g => ∃ (q4 : Bool), Fr 118 [(0, .slice a1 n1 c1), (1, .int .i64 x1), (2, .bool q1), (24, .bool q4)] tm ∧ Step (fun l => NoM l ∨ t ≤ l) g0 g ∧ RdS k_S_baizelaw34_Deed g 78 a1 n1 c1 l1 ∧ (F.baizelaw34_PunishFinds.c1 l1 x1 q1 q4) = some o1) ?_ ?_
 ·refine CP.region ?_
  replace hs := Option.bind_eq_some_iff.1 hs
  obtain ⟨q27, hk40, hs⟩ := hs
  have hcal40 := P.baizelaw34_known g0 q27 hk40
  refine WP.callC hcal40 (by kernel_rfl) ?_
  rintro _ g97 st97 rfl
  replace hR1 := hR1.mono st97 (fun x => x)
  replace tot := tot.trans st97.pure
  refine WP.stl 2 ?_
  refine WP.guard 20 (b := (!q27)) (by kernel_rfl) (fun h89 => ?_) (fun h89 => ?_)
  ·replace hs := of_if_t hs h89
   refine WP.stl 4 ?_
   refine WP.dn ?_
   refine NX.post ?_
   exact ⟨true, ⟨by kernel_rfl, by kernel_rfl⟩, tot, hR1, hs⟩
  replace hs := of_if_f hs h89
  refine WP.stl 1 ?_
  replace hs := Option.bind_eq_some_iff.1 hs
  obtain ⟨q28, hk41, hs⟩ := hs
  have hcal41 := P.baizelaw34_few g97 l1 a1 n1 c1 hR1 q28 hk41
  refine WP.callC hcal41 (by kernel_rfl) ?_
  rintro _ g98 st98 rfl
  replace hR1 := hR1.mono st98 (fun x => x)
  replace tot := tot.trans st98.pure
  refine WP.stl 2 ?_
  refine WP.dn ?_
  refine NX.post ?_
  exact ⟨(!q28), ⟨by kernel_rfl, by kernel_rfl⟩, tot, hR1, hs⟩
 clear tot hs hR1
 rintro tm g ⟨q4, hF, tot, hR1, hs⟩
 clear ds
 obtain ⟨ds, rfl⟩ := hF.open
 clear hF
 unfold F.baizelaw34_PunishFinds.c1 at hs
 refine CP.cond (b := q4) (by kernel_rfl) (fun h2 => ?_) (fun h2 => ?_)
 ·replace hs := of_if_t hs h2
  refine CP.seqR ?_
  replace hs := Option.bind_eq_some_iff.1 hs
  obtain ⟨q5, hk3, hs⟩ := hs
  have hcal3 := P.baizelaw34_known g q5 hk3
  refine WP.callC hcal3 (by kernel_rfl) ?_
  rintro _ g3 st3 rfl
  replace hR1 := hR1.mono st3 (fun x => x)
  replace tot := tot.trans st3.pure
  refine WP.stl 1 ?_
  refine WP.dn ?_
  refine NX.then_n ?_
  refine CP.ret ?_
  refine NX.then_r ?_
  replace hs := Option.some.inj hs
  obtain rfl := hs
  exact NX.fin (v := .bool q5) (Res.still (by kernel_rfl)) tot htL rfl
 replace hs := of_if_f hs h2
 refine CP.skip ?_
 refine NX.then_n ?_
 refine CP.seqR ?_
 replace hs := Option.bind_eq_some_iff.1 hs
 obtain ⟨d1, hk4, hs⟩ := hs
 have hcal4 := P.notary_NewBook g (t + 1) (t + 2) d1 hk4
 refine WP.callC hcal4 (by kernel_rfl) ?_
 rintro _ g4 st4 ⟨b1, b2, rfl, hB1, hB2⟩
 replace hR1 := hR1.mono st4 (fun x => x)
 replace tot := tot.trans st4.pure
 refine WP.stl 1 ?_
 refine WP.dn ?_
 refine NX.then_n ?_
 refine CP.seq ?_
 refine CP.seqR ?_
 refine WP.stl 2 ?_
 refine WP.dn ?_
 refine NX.then_n ?_
 refine CP.cond_f (by kernel_rfl) ?_
 refine CP.skip ?_
 refine NX.then_n ?_
 refine CP.seqR ?_
 refine WP.stl 1 ?_
 refine WP.dn ?_
 refine NX.then_n ?_
 refine CP.seq ?_
 refine CP.seqR ?_
 refine WP.stl 1 ?_
 refine WP.len (a := a1) (cp := c1) hR1.len (by kernel_rfl) ?_
 refine WP.stl 1 ?_
 refine WP.dn ?_
 refine NX.then_n ?_
 refine CP.block ?_
 generalize fuel = k1 at hs
 refine CP.loop (fun k1 tm g => ∃ (l5 : List S_notary_entry) (a9 : Option Addr) (n7 : Nat) (c8 : Nat) (w1 : (List (S_notary_entry × Int))) (l6 : List S_punish_Thing) (a10 : Option Addr) (n8 : Nat) (c9 : Nat) (x9 : Int), Fr 118 [(1, .int .i64 x1), (2, .bool q1), (7, .pointer (some ⟨b1, 0, none⟩)), (8, .slice a10 n8 c9), (29, .slice a1 n1 c1), (30, .int .i64 (l1.length : Int)), (31, .int .i64 x9)] tm ∧ Step (fun l => NoM l ∨ t ≤ l) g0 g ∧ Box g (t + 1) b1 121 [[.slice a9 n7 c8], [.map (some b2)]] [1, 1] ∧ OwnS k_S_notary_entry g (t + 4) 126 a9 n7 c8 l5 ∧ MapB g (t + 2) b2 kv_S_notary_entry (Value.int .i64) w1 ∧ OwnS k_S_punish_Thing g (t + 7) 43 a10 n8 c9 l6 ∧ RdS k_S_baizelaw34_Deed g 78 a1 n1 c1 l1 ∧ F.baizelaw34_PunishFinds.l1 l1 x1 q1 k1 l5 w1 l6 x9 = some o1) k1 ?_ ?_ ?_
 ·exact ⟨[], none, 0, 0, d1, [], none, 0, 0, 0, ⟨by kernel_rfl, by kernel_rfl⟩, tot, hB1, (OwnS.nil _ _ _ _), hB2, (OwnS.nil _ _ _ _), hR1, hs⟩
 ·rintro tm g ⟨l5, a9, n7, c8, w1, l6, a10, n8, c9, x9, hF, tot, hB1, hR9, hB2, hR10, hR1, hs⟩
  exact absurd hs (by simp [F.baizelaw34_PunishFinds.l1])
 clear tot hs hB1 hB2 hR1
 rintro k1 tm g ⟨l5, a9, n7, c8, w1, l6, a10, n8, c9, x9, hF, tot, hB1, hR9, hB2, hR10, hR1, hs⟩
 clear ds
 obtain ⟨ds, rfl⟩ := hF.open
 clear hF
 unfold F.baizelaw34_PunishFinds.l1 at hs
 refine CP.seqR ?_
 refine WP.stl 1 ?_
 refine WP.dn ?_
 refine NX.then_n ?_
 refine CP.seq ?_
 refine CP.cond (b := decide (x9 < (l1.length : Int))) (by kernel_rfl) (fun h39 => ?_) (fun h39 => ?_)
 ·replace hs := of_if_t hs h39
  refine CP.skip ?_
  refine NX.then_n ?_
  refine CP.seq ?_
  refine CP.block ?_
  refine CP.seqR ?_
  by_cases hc23 : (0 : Int) ≤ x9 ∧ x9 < (l1.length : Int)
  case neg => rw [if_neg hc23] at hs; cases hs
  replace hs := of_if_p hs hc23
  obtain ⟨b27, u19, ha19⟩ := hR1.at hc23
  refine WP.indexA (t := 74) (e := 78) (sz := 7) (cap := c1) (k := .i64) (i := x9) hR1.len ha19 (by kernel_rfl) (by kernel_rfl) hc23 ?_
  obtain ⟨cs19, hcR19, hcV19⟩ := hR1.src.view (getI_some hc23) ha19
  obtain ⟨a68, n64, c66, hcR19, hR68⟩ := k_S_baizelaw34_Deed.opn hcR19
  refine WP.loadV [[.int .i64 ((getI l1 x9).f1)], [.int .i64 ((getI l1 x9).f2)], [.int .i64 ((getI l1 x9).f3)], [.slice a68 n64 c66], [.bool ((getI l1 x9).f5)], [.int .u8 ((getI l1 x9).f6)], [.bool ((getI l1 x9).f7)]] [1, 1, 1, 1, 1, 1, 1] hcV19 hcR19 rfl (f := 0) (ty := 78) (agg := true) (size := 7) (rs := [[.int .i64 ((getI l1 x9).f1)], [.int .i64 ((getI l1 x9).f2)], [.int .i64 ((getI l1 x9).f3)], [.slice a68 n64 c66], [.bool ((getI l1 x9).f5)], [.int .u8 ((getI l1 x9).f6)], [.bool ((getI l1 x9).f7)]]) (v := AG [[.int .i64 ((getI l1 x9).f1)], [.int .i64 ((getI l1 x9).f2)], [.int .i64 ((getI l1 x9).f3)], [.slice a68 n64 c66], [.bool ((getI l1 x9).f5)], [.int .u8 ((getI l1 x9).f6)], [.bool ((getI l1 x9).f7)]]) (by kernel_rfl) (by kernel_rfl) (by kernel_rfl) (by kernel_rfl) ?_
  refine WP.alloc (T := 78) (t + 15) [[.int .i64 0], [.int .i64 0], [.int .i64 0], [.slice none 0 0], [.bool false], [.int .u8 0], [.bool false]] [1, 1, 1, 1, 1, 1, 1] (by kernel_rfl) rfl ?_
  intro g48 b28 st48 hB19
  replace hB1 := hB1.mono st48 (fun x => x)
  replace hR9 := hR9.mono st48 (fun x => x) (fun x => x)
  replace hB2 := hB2.mono st48 (fun x => x)
  replace hR10 := hR10.mono st48 (fun x => x) (fun x => x)
  replace hR1 := hR1.mono st48 (fun x => x)
  replace hR68 := hR68.mono st48 (fun x => x)
  replace tot := tot.trans st48.pure
  refine WP.storeB (ty := 78) (off := 0) (v := AG [[.int .i64 ((getI l1 x9).f1)], [.int .i64 ((getI l1 x9).f2)], [.int .i64 ((getI l1 x9).f3)], [.slice a68 n64 c66], [.bool ((getI l1 x9).f5)], [.int .u8 ((getI l1 x9).f6)], [.bool ((getI l1 x9).f7)]]) hB19 [[.int .i64 ((getI l1 x9).f1)], [.int .i64 ((getI l1 x9).f2)], [.int .i64 ((getI l1 x9).f3)], [.slice a68 n64 c66], [.bool ((getI l1 x9).f5)], [.int .u8 ((getI l1 x9).f6)], [.bool ((getI l1 x9).f7)]] [1, 1, 1, 1, 1, 1, 1] (by kernel_rfl) (by kernel_rfl) rfl (by kernel_rfl) [[.int .i64 ((getI l1 x9).f1)], [.int .i64 ((getI l1 x9).f2)], [.int .i64 ((getI l1 x9).f3)], [.slice a68 n64 c66], [.bool ((getI l1 x9).f5)], [.int .u8 ((getI l1 x9).f6)], [.bool ((getI l1 x9).f7)]] (by kernel_rfl) (.one rfl (.one rfl (.one rfl (.one rfl (.one rfl (.one rfl (.one rfl .nil))))))) ?_
  intro g49 st49 hB20
  replace hB1 := hB1.mono st49 (WL.no1 (by omega))
  replace hR9 := hR9.mono st49 (WL.no1 (by omega)) (WL.no1 (by omega))
  replace hB2 := hB2.mono st49 (WL.no1 (by omega))
  replace hR10 := hR10.mono st49 (WL.no1 (by omega)) (WL.no1 (by omega))
  replace hR1 := hR1.mono st49 (WL.no1 (by omega))
  replace hR68 := hR68.mono st49 (WL.no1 (by omega))
  replace tot := tot.trans (st49.up1 (.inr (by omega)))
  clear hB19
  have hB19 := hB20
  clear hB20
  refine WP.dn ?_
  refine NX.then_n ?_
  refine CP.region ?_
  refine WP.stl 1 ?_
  refine WP.loadB (v := AG [[.int .i64 ((getI l1 x9).f1)], [.int .i64 ((getI l1 x9).f2)], [.int .i64 ((getI l1 x9).f3)], [.slice a68 n64 c66], [.bool ((getI l1 x9).f5)], [.int .u8 ((getI l1 x9).f6)], [.bool ((getI l1 x9).f7)]]) hB19 (by kernel_rfl) (by kernel_rfl) ?_
  refine WP.stl 1 ?_
  replace hs := Option.bind_eq_some_iff.1 hs
  obtain ⟨⟨x30, d16, x31, l12, d17, x32, d18, l13, l14, d19, d20⟩, hk21, hs⟩ := hs
  dsimp only at hs
  have hcal21 := P.baizelaw34_Deed_sign g49 (t + 1) (t + 4) (t + 2) (t + 16) ((getI l1 x9).f1) ((getI l1 x9).f2) ((getI l1 x9).f3) ((getI l1 x9).f4) ((getI l1 x9).f5) ((getI l1 x9).f6) ((getI l1 x9).f7) l5 w1 a68 n64 c66 a9 n7 c8 b1 b2 hR68 hR9 hB2 hB1 (by omega) (by omega) (by omega) (by omega) (by omega) (by omega) x30 d16 x31 l12 d17 x32 d18 l13 l14 d19 d20 hk21
  refine WP.callC hcal21 (by kernel_rfl) ?_
  rintro _ g50 st50 ⟨a69, n65, c67, a70, n66, c68, a71, n67, c69, a72, n68, c70, rfl, hR69, hR70, hR71, hB21, hR72, hB22⟩
  replace hR10 := hR10.mono st50 (WL.no3 (by omega) (by omega) (by omega)) (WL.no3 (by omega) (by omega) (by omega))
  replace hR1 := hR1.mono st50 (WL.no3 (by omega) (by omega) (by omega))
  replace hB19 := hB19.mono st50 (WL.no3 (by omega) (by omega) (by omega))
  replace hR68 := hR68.mono st50 (WL.no3 (by omega) (by omega) (by omega))
  replace tot := tot.trans (st50.up3 (.inr (by omega)) (.inr (by omega)) (.inr (by omega)))
  clear hB2
  have hB2 := hB21
  clear hB21
  clear hB1
  have hB1 := hB22
  clear hB22
  obtain ⟨g52, hw3, st52, hnew⟩ := hR71.freeze (by omega)
  refine WP.regw hw3 ?_
  replace hB1 := hB1.mono st52 (WL.no1 (by omega))
  replace hR72 := hR72.mono st52 (WL.no1 (by omega)) (WL.no1 (by omega))
  replace hB2 := hB2.mono st52 (WL.no1 (by omega))
  replace hR10 := hR10.mono st52 (WL.no1 (by omega)) (WL.no1 (by omega))
  replace hR1 := hR1.mono st52 (WL.no1 (by omega))
  replace hB19 := hB19.mono st52 (WL.no1 (by omega))
  replace hR68 := hR68.mono st52 (WL.no1 (by omega))
  replace hR69 := hR69.mono st52 (WL.no1 (by omega))
  replace hR70 := hR70.mono st52 (WL.no1 (by omega))
  replace tot := tot.trans (st52.up1 (.inr (by omega)))
  clear hR71
  have hR71 := hnew
  clear hnew
  refine WP.mkSl (kd := k_S_punish_Thing) (t := 76) (e := 43) (bytes := 120) (t + 17) [AG [[.int .i64 x30], encA .u8 d16, [.int .i64 x31], [.slice a69 n65 c67], encA .u8 d17, [.int .i64 x32], encA .u8 d18, [.slice a70 n66 c68], [.slice a71 n67 c69]]] [(⟨x30, d16, x31, l12, d17, x32, d18, l13, l14⟩ : S_punish_Thing)] (by kernel_rfl) (by kernel_rfl) (Nat.le_of_ble_eq_true rfl) (Nat.le_of_ble_eq_true rfl) (all_cons (Kd.len k_S_punish_Thing (g := g52) (x := (⟨x30, d16, x31, l12, d17, x32, d18, l13, l14⟩ : S_punish_Thing)) (k_S_punish_Thing.mk rfl rfl rfl ⟨_, _, _, rfl, hR69⟩ rfl rfl rfl ⟨_, _, _, rfl, hR70⟩ ⟨_, _, _, rfl, hR71⟩)) all_nil) (⟨_, _, rfl, (k_S_punish_Thing.mk rfl rfl rfl ⟨_, _, _, rfl, hR69⟩ rfl rfl rfl ⟨_, _, _, rfl, hR70⟩ ⟨_, _, _, rfl, hR71⟩), rfl⟩) rfl ?_
  intro g51 a73 st51 hR73
  replace hB1 := hB1.mono st51 (fun x => x)
  replace hR72 := hR72.mono st51 (fun x => x) (fun x => x)
  replace hB2 := hB2.mono st51 (fun x => x)
  replace hR10 := hR10.mono st51 (fun x => x) (fun x => x)
  replace hR1 := hR1.mono st51 (fun x => x)
  replace hB19 := hB19.mono st51 (fun x => x)
  replace hR68 := hR68.mono st51 (fun x => x)
  replace hR69 := hR69.mono st51 (fun x => x)
  replace hR70 := hR70.mono st51 (fun x => x)
  replace hR71 := hR71.mono st51 (fun x => x)
  replace tot := tot.trans st51.pure
  by_cases hc24 : l6.length + ([(⟨x30, d16, x31, l12, d17, x32, d18, l13, l14⟩ : S_punish_Thing)]).length ≤ 1172812402961
  case neg => rw [if_neg hc24] at hs; cases hs
  replace hs := of_if_p hs hc24
  refine WP.append (kd := k_S_punish_Thing) (t := 76) (e := 43) (bytes := 120) (a2 := a73) (c2 := 1) hR10 hR73.src hR73.len (by kernel_rfl) (by kernel_rfl) (by omega) (by simp only [maxLen]; omega) (by omega) ?_
  intro g53 a74 c71 st53 hR74
  replace hB1 := hB1.mono st53 (WL.no1 (by omega))
  replace hR72 := hR72.mono st53 (WL.no1 (by omega)) (WL.no1 (by omega))
  replace hB2 := hB2.mono st53 (WL.no1 (by omega))
  replace hR1 := hR1.mono st53 (WL.no1 (by omega))
  replace hB19 := hB19.mono st53 (WL.no1 (by omega))
  replace hR68 := hR68.mono st53 (WL.no1 (by omega))
  replace hR69 := hR69.mono st53 (WL.no1 (by omega))
  replace hR70 := hR70.mono st53 (WL.no1 (by omega))
  replace hR71 := hR71.mono st53 (WL.no1 (by omega))
  replace hR73 := hR73.mono st53 (WL.no1 (by omega)) (WL.no1 (by omega))
  replace tot := tot.trans (st53.up1 (.inr (by omega)))
  refine WP.stl 1 ?_
  refine WP.dn ?_
  refine NX.block_n ?_
  refine NX.then_n ?_
  refine CP.region ?_
  refine WP.stl 2 ?_
  refine WP.dn ?_
  refine NX.post ?_
  exact ⟨d20, a72, n68, c70, d19, (l6 ++ [(⟨x30, d16, x31, l12, d17, x32, d18, l13, l14⟩ : S_punish_Thing)]), a74, (n8 + 1), c71, (IntKind.i64.wrap (x9 + 1)), ⟨by kernel_rfl, by kernel_rfl⟩, tot, hB1, hR72, hB2, hR74, hR1, hs⟩
 replace hs := of_if_f hs h39
 refine CP.exit ?_
 refine NX.then_e ?_
 refine NX.then_e ?_
 refine NX.block_s ?_
 refine NX.then_n ?_
 refine CP.seqR ?_
 refine WP.stl 1 ?_
 replace hs := Option.bind_eq_some_iff.1 hs
 obtain ⟨d21, hk22, hs⟩ := hs
 have hcal22 := P.baizelaw34_table g q1 d21 hk22
 refine WP.callC hcal22 (by kernel_rfl) ?_
 rintro _ g54 st54 rfl
 replace hB1 := hB1.mono st54 (fun x => x)
 replace hR9 := hR9.mono st54 (fun x => x) (fun x => x)
 replace hB2 := hB2.mono st54 (fun x => x)
 replace hR10 := hR10.mono st54 (fun x => x) (fun x => x)
 replace tot := tot.trans st54.pure
 refine WP.stl 1 ?_
 replace hs := Option.bind_eq_some_iff.1 hs
 obtain ⟨d22, hk23, hs⟩ := hs
 have hcal23 := P.baizelaw34_key g54 x1 d22 hk23
 refine WP.callC hcal23 (by kernel_rfl) ?_
 rintro _ g55 st55 rfl
 replace hB1 := hB1.mono st55 (fun x => x)
 replace hR9 := hR9.mono st55 (fun x => x) (fun x => x)
 replace hB2 := hB2.mono st55 (fun x => x)
 replace hR10 := hR10.mono st55 (fun x => x) (fun x => x)
 replace tot := tot.trans st55.pure
 refine WP.alloc (T := 37) (t + 18) [encA .u8 (zA 8)] [8] (by kernel_rfl) (by simp [len_encA]) ?_
 intro g56 b29 st56 hB23
 replace hB1 := hB1.mono st56 (fun x => x)
 replace hR9 := hR9.mono st56 (fun x => x) (fun x => x)
 replace hB2 := hB2.mono st56 (fun x => x)
 replace hR10 := hR10.mono st56 (fun x => x) (fun x => x)
 replace tot := tot.trans st56.pure
 refine WP.alloc (T := 37) (t + 19) [encA .u8 (zA 8)] [8] (by kernel_rfl) (by simp [len_encA]) ?_
 intro g57 b30 st57 hB24
 replace hB1 := hB1.mono st57 (fun x => x)
 replace hR9 := hR9.mono st57 (fun x => x) (fun x => x)
 replace hB2 := hB2.mono st57 (fun x => x)
 replace hR10 := hR10.mono st57 (fun x => x) (fun x => x)
 replace hB23 := hB23.mono st57 (fun x => x)
 replace tot := tot.trans st57.pure
 refine WP.storeB (ty := 37) (off := 0) (v := AG [encA .u8 d21]) hB23 [encA .u8 d21] [8] (by kernel_rfl) (by kernel_rfl) (by simp [len_encA]) (by kernel_rfl) [encA .u8 d21] (by kernel_rfl) (.arr .nil) ?_
 intro g58 st58 hB25
 replace hB1 := hB1.mono st58 (WL.no1 (by omega))
 replace hR9 := hR9.mono st58 (WL.no1 (by omega)) (WL.no1 (by omega))
 replace hB2 := hB2.mono st58 (WL.no1 (by omega))
 replace hR10 := hR10.mono st58 (WL.no1 (by omega)) (WL.no1 (by omega))
 replace hB24 := hB24.mono st58 (WL.no1 (by omega))
 replace tot := tot.trans (st58.up1 (.inr (by omega)))
 clear hB23
 have hB23 := hB25
 clear hB25
 refine WP.storeB (ty := 37) (off := 0) (v := AG [encA .u8 d22]) hB24 [encA .u8 d22] [8] (by kernel_rfl) (by kernel_rfl) (by simp [len_encA]) (by kernel_rfl) [encA .u8 d22] (by kernel_rfl) (.arr .nil) ?_
 intro g59 st59 hB26
 replace hB1 := hB1.mono st59 (WL.no1 (by omega))
 replace hR9 := hR9.mono st59 (WL.no1 (by omega)) (WL.no1 (by omega))
 replace hB2 := hB2.mono st59 (WL.no1 (by omega))
 replace hR10 := hR10.mono st59 (WL.no1 (by omega)) (WL.no1 (by omega))
 replace hB23 := hB23.mono st59 (WL.no1 (by omega))
 replace tot := tot.trans (st59.up1 (.inr (by omega)))
 clear hB24
 have hB24 := hB26
 clear hB26
 refine WP.dn ?_
 refine NX.then_n ?_
 refine CP.seqR ?_
 refine WP.stl 2 ?_
 refine WP.loadB (v := AG [encA .u8 d21]) hB23 (by kernel_rfl) (by kernel_rfl) ?_
 refine WP.loadB (v := AG [encA .u8 d22]) hB24 (by kernel_rfl) (by kernel_rfl) ?_
 refine WP.stl 1 ?_
 replace hs := Option.bind_eq_some_iff.1 hs
 obtain ⟨⟨x33, x34, q16⟩, hk24, hs⟩ := hs
 dsimp only at hs
 have hS10 : 0 ∉ ([(t + 4), (t + 7)] : List Nat) := by simp <;> omega
 have stl10 := GW.lend_step g59 [(t + 4), (t + 7)]
 have hRl11 := hR9.lendTo hS10 (by simp)
 have hRl12 := hR10.lendTo hS10 (by simp)
 refine WP.regw (g' := GW.lend g59 [(t + 4), (t + 7)]) rfl ?_
 have hcal24 := P.punish_Find (GW.lend g59 [(t + 4), (t + 7)]) (t + 1) (t + 2) l5 w1 d21 d22 l6 a9 n7 c8 a10 n8 c9 b1 b2 hRl11 hRl12 (hB2.mono stl10 (WL.no (by simp <;> omega))) (hB1.mono stl10 (WL.no (by simp <;> omega))) (by omega) (by omega) (by omega) x33 x34 q16 hk24
 refine WP.callC hcal24 (by kernel_rfl) ?_
 rintro _ g60 st60 rfl
 have st61 := (GW.back_step st60).lentS
 have hO11 := hR9.backTo hS10 (by simp) st60 (fun x => x)
 have hO12 := hR10.backTo hS10 (by simp) st60 (fun x => x)
 refine WP.regw (g' := GW.back g59 g60 [(t + 4), (t + 7)]) rfl ?_
 generalize GW.back g59 g60 [(t + 4), (t + 7)] = g61 at *
 replace hB1 := hB1.mono st61 (WL.no2 (by omega) (by omega))
 replace hB2 := hB2.mono st61 (WL.no2 (by omega) (by omega))
 replace hB23 := hB23.mono st61 (WL.no2 (by omega) (by omega))
 replace hB24 := hB24.mono st61 (WL.no2 (by omega) (by omega))
 replace tot := tot.trans (st61.up2 (.inr (by omega)) (.inr (by omega)))
 clear hR9
 have hR9 : OwnS k_S_notary_entry g61 (t + 4) 126 a9 n7 c8 l5 := hO11
 clear hO11
 clear hR10
 have hR10 : OwnS k_S_punish_Thing g61 (t + 7) 43 a10 n8 c9 l6 := hO12
 clear hO12
 refine WP.stl 7 ?_
 refine WP.dn ?_
 refine NX.then_n ?_
 refine CP.refr 118 [(7, .pointer (some ⟨b1, 0, none⟩)), (8, .slice a10 n8 c9), (11, .pointer (some ⟨b29, 0, none⟩)), (12, .pointer (some ⟨b30, 0, none⟩)), (13, .int .i64 x33), (14, .int .i64 x34), (15, .bool q16)] (by kernel_rfl) (by kernel_rfl) ?_
 clear ds
 intro ds
 refine CP.seq ?_
 refine CP.seqR ?_
 refine WP.stl 1 ?_
 refine WP.len (a := a10) (cp := c9) hR10.len (by kernel_rfl) ?_
 refine WP.stl 1 ?_
 refine WP.dn ?_
 refine NX.then_n ?_
 refine CP.block ?_
 generalize fuel = k2 at hs
 refine CP.loop (fun k2 tm g => ∃ (x41 : Int), Fr 118 [(7, .pointer (some ⟨b1, 0, none⟩)), (8, .slice a10 n8 c9), (11, .pointer (some ⟨b29, 0, none⟩)), (12, .pointer (some ⟨b30, 0, none⟩)), (13, .int .i64 x33), (14, .int .i64 x34), (15, .bool q16), (57, .int .i64 (l6.length : Int)), (58, .int .i64 x41)] tm ∧ Step (fun l => NoM l ∨ t ≤ l) g0 g ∧ Box g (t + 1) b1 121 [[.slice a9 n7 c8], [.map (some b2)]] [1, 1] ∧ OwnS k_S_notary_entry g (t + 4) 126 a9 n7 c8 l5 ∧ MapB g (t + 2) b2 kv_S_notary_entry (Value.int .i64) w1 ∧ OwnS k_S_punish_Thing g (t + 7) 43 a10 n8 c9 l6 ∧ Box g (t + 18) b29 37 [encA .u8 d21] [8] ∧ Box g (t + 19) b30 37 [encA .u8 d22] [8] ∧ F.baizelaw34_PunishFinds.l2 l5 w1 l6 d21 d22 x33 x34 q16 k2 x41 = some o1) k2 ?_ ?_ ?_
 ·exact ⟨0, ⟨by kernel_rfl, by kernel_rfl⟩, tot, hB1, hR9, hB2, hR10, hB23, hB24, hs⟩
 ·rintro tm g ⟨x41, hF, tot, hB1, hR9, hB2, hR10, hB23, hB24, hs⟩
  exact absurd hs (by simp [F.baizelaw34_PunishFinds.l2])
 clear tot hs hB1 hR9 hB2 hR10 hB23 hB24
 rintro k2 tm g ⟨x41, hF, tot, hB1, hR9, hB2, hR10, hB23, hB24, hs⟩
 clear ds
 obtain ⟨ds, rfl⟩ := hF.open
 clear hF
 unfold F.baizelaw34_PunishFinds.l2 at hs
 refine CP.seqR ?_
 refine WP.stl 1 ?_
 refine WP.dn ?_
 refine NX.then_n ?_
 refine CP.seq ?_
 refine CP.cond (b := decide (x41 < (l6.length : Int))) (by kernel_rfl) (fun h66 => ?_) (fun h66 => ?_)
 ·replace hs := of_if_t hs h66
  refine CP.skip ?_
  refine NX.then_n ?_
  refine CP.seq ?_
  refine CP.block ?_
  refine CP.seqR ?_
  refine WP.stl 2 ?_
  refine WP.dn ?_
  refine NX.then_n ?_
  refine CP.seqR ?_
  refine WP.stl 2 ?_
  refine WP.dn ?_
  refine NX.then_n ?_
  refine CP.block ?_
  generalize fuel = k3 at hs
  refine CP.loop (fun k3 tm g => ∃ (x51 : Int), Fr 118 [(7, .pointer (some ⟨b1, 0, none⟩)), (8, .slice a10 n8 c9), (11, .pointer (some ⟨b29, 0, none⟩)), (12, .pointer (some ⟨b30, 0, none⟩)), (13, .int .i64 x33), (14, .int .i64 x34), (15, .bool q16), (16, .int .i64 x41), (57, .int .i64 (l6.length : Int)), (58, .int .i64 x41), (61, .int .i64 x41), (62, .int .i64 x51)] tm ∧ Step (fun l => NoM l ∨ t ≤ l) g0 g ∧ Box g (t + 1) b1 121 [[.slice a9 n7 c8], [.map (some b2)]] [1, 1] ∧ OwnS k_S_notary_entry g (t + 4) 126 a9 n7 c8 l5 ∧ MapB g (t + 2) b2 kv_S_notary_entry (Value.int .i64) w1 ∧ OwnS k_S_punish_Thing g (t + 7) 43 a10 n8 c9 l6 ∧ Box g (t + 18) b29 37 [encA .u8 d21] [8] ∧ Box g (t + 19) b30 37 [encA .u8 d22] [8] ∧ F.baizelaw34_PunishFinds.l3 (F.baizelaw34_PunishFinds.l2 l5 w1 l6 d21 d22 x33 x34 q16 k2) l5 w1 l6 d21 d22 x33 x34 q16 x41 k3 x51 = some o1) k3 ?_ ?_ ?_
  ·exact ⟨0, ⟨by kernel_rfl, by kernel_rfl⟩, tot, hB1, hR9, hB2, hR10, hB23, hB24, hs⟩
  ·rintro tm g ⟨x51, hF, tot, hB1, hR9, hB2, hR10, hB23, hB24, hs⟩
   exact absurd hs (by simp [F.baizelaw34_PunishFinds.l3])
  clear tot hs hB1 hR9 hB2 hR10 hB23 hB24
  rintro k3 tm g ⟨x51, hF, tot, hB1, hR9, hB2, hR10, hB23, hB24, hs⟩
  clear ds
  obtain ⟨ds, rfl⟩ := hF.open
  clear hF
  unfold F.baizelaw34_PunishFinds.l3 at hs
  refine CP.seqR ?_
  refine WP.stl 1 ?_
  refine WP.dn ?_
  refine NX.then_n ?_
  refine CP.seq ?_
  refine CP.cond (b := decide (x51 < x41)) (by kernel_rfl) (fun h77 => ?_) (fun h77 => ?_)
  ·replace hs := of_if_t hs h77
   refine CP.skip ?_
   refine NX.then_n ?_
   refine CP.seq ?_
   refine CP.block ?_
   refine CP.seqR ?_
   refine WP.stl 2 ?_
   refine WP.dn ?_
   refine NX.then_n ?_
   refine CP.seq ?_
   by_cases hc49 : (0 : Int) ≤ x51 ∧ x51 < (l6.length : Int)
   case neg => rw [if_neg hc49] at hs; cases hs
   replace hs := of_if_p hs hc49
   by_cases hc50 : (0 : Int) ≤ x41 ∧ x41 < (l6.length : Int)
   case neg => rw [if_neg hc50] at hs; cases hs
   replace hs := of_if_p hs hc50
   replace hs := Option.bind_eq_some_iff.1 hs
   obtain ⟨x55, hk37, hs⟩ := hs
   obtain ⟨b55, u44, ha44⟩ := hR10.at hc49
   obtain ⟨b56, u45, ha45⟩ := hR10.at hc50
   refine CP.drawL (by kernel_rfl) [2, 3, 6, 7, 10, 11, 12] N.baizelaw34_PunishFinds_0 [⟨none, [], [], fun l g => Box g (t + 1) b1 121 [[.slice a9 n7 c8], [.map (some b2)]] [1, 1]⟩, ⟨none, [0], [], fun l g => OwnS k_S_notary_entry g (t + 4) 126 a9 n7 c8 l5⟩, ⟨none, [], [], fun l g => MapB g (t + 2) b2 kv_S_notary_entry (Value.int .i64) w1⟩, ⟨none, [], [], fun l g => OwnS k_S_punish_Thing g (t + 7) 43 a10 n8 c9 l6⟩, ⟨none, [], [], fun l g => Box g (t + 18) b29 37 [encA .u8 d21] [8]⟩, ⟨none, [], [], fun l g => Box g (t + 19) b30 37 [encA .u8 d22] [8]⟩, ⟨some 0, [], [0], fun l g => l.getD 0 undef = AG [encA .u8 d21]⟩, ⟨some 1, [], [1], fun l g => l.getD 0 undef = AG [encA .u8 d22]⟩, ⟨some 2, [], [2], fun l g => l.getD 0 undef = .pointer (some ⟨b55, u44 + x51.toNat * 30, none⟩)⟩, ⟨some 3, [], [3], fun l g => ∃ (a147 : Option Addr) (c144 : Nat) (a148 : Option Addr) (c145 : Nat) (a149 : Option Addr) (c146 : Nat), l.getD 0 undef = AG [[.int .i64 ((getI l6 x51).f1)], encA .u8 ((getI l6 x51).f2), [.int .i64 ((getI l6 x51).f3)], [.slice a147 (((getI l6 x51).f4).length) c144], encA .u8 ((getI l6 x51).f5), [.int .i64 ((getI l6 x51).f6)], encA .u8 ((getI l6 x51).f7), [.slice a148 (((getI l6 x51).f8).length) c145], [.slice a149 (((getI l6 x51).f9).length) c146]] ∧ RdS (Kd.int .u8) g 5 a147 (((getI l6 x51).f4).length) c144 ((getI l6 x51).f4) ∧ RdS (Kd.int .u8) g 5 a148 (((getI l6 x51).f8).length) c145 ((getI l6 x51).f8) ∧ RdS (Kd.int .u8) g 5 a149 (((getI l6 x51).f9).length) c146 ((getI l6 x51).f9)⟩, ⟨some 4, [], [4], fun l g => l.getD 0 undef = .pointer (some ⟨b56, u45 + x41.toNat * 30, none⟩)⟩, ⟨some 5, [], [5], fun l g => ∃ (a150 : Option Addr) (c147 : Nat) (a151 : Option Addr) (c148 : Nat) (a152 : Option Addr) (c149 : Nat), l.getD 0 undef = AG [[.int .i64 ((getI l6 x41).f1)], encA .u8 ((getI l6 x41).f2), [.int .i64 ((getI l6 x41).f3)], [.slice a150 (((getI l6 x41).f4).length) c147], encA .u8 ((getI l6 x41).f5), [.int .i64 ((getI l6 x41).f6)], encA .u8 ((getI l6 x41).f7), [.slice a151 (((getI l6 x41).f8).length) c148], [.slice a152 (((getI l6 x41).f9).length) c149]] ∧ RdS (Kd.int .u8) g 5 a150 (((getI l6 x41).f4).length) c147 ((getI l6 x41).f4) ∧ RdS (Kd.int .u8) g 5 a151 (((getI l6 x41).f8).length) c148 ((getI l6 x41).f8) ∧ RdS (Kd.int .u8) g 5 a152 (((getI l6 x41).f9).length) c149 ((getI l6 x41).f9)⟩, ⟨some 6, [], [6], fun l g => l.getD 0 undef = .int .i64 x55⟩, ⟨some 6, [0], [], fun l g => OwnS k_S_notary_entry g (t + 4) 126 a9 n7 c8 l5⟩] [[], [], [], [], [], [], [0]] [(t + 4)] [0, 1, 4, 5, 8, 9] [13] (by kernel_rfl) (by simp <;> omega) (by simp) ⟨fun _ _ _ _ st h0 hl hj hB1 => (hB1.mono st (fun h => absurd (hl _ h) (by simp <;> omega))), fun _ _ _ _ st h0 hl hj hR9 => (hR9.mono st h0 (hj 0 (by simp) _ rfl)), fun _ _ _ _ st h0 hl hj hB2 => (hB2.mono st (fun h => absurd (hl _ h) (by simp <;> omega))), fun _ _ _ _ st h0 hl hj hR10 => (hR10.mono st h0 (fun h => absurd (hl _ h) (by simp <;> omega))), fun _ _ _ _ st h0 hl hj hB23 => (hB23.mono st (fun h => absurd (hl _ h) (by simp <;> omega))), fun _ _ _ _ st h0 hl hj hB24 => (hB24.mono st (fun h => absurd (hl _ h) (by simp <;> omega))), fun _ _ _ _ st h0 hl hj e0 => e0, fun _ _ _ _ st h0 hl hj e1 => e1, fun _ _ _ _ st h0 hl hj e2 => e2, fun _ _ _ _ st h0 hl hj ⟨a147, c144, a148, c145, a149, c146, e3, hR147, hR148, hR149⟩ => ⟨a147, c144, a148, c145, a149, c146, e3, (RdS.mono (e := 5) hR147 st h0), (RdS.mono (e := 5) hR148 st h0), (RdS.mono (e := 5) hR149 st h0)⟩, fun _ _ _ _ st h0 hl hj e4 => e4, fun _ _ _ _ st h0 hl hj ⟨a150, c147, a151, c148, a152, c149, e5, hR150, hR151, hR152⟩ => ⟨a150, c147, a151, c148, a152, c149, e5, (RdS.mono (e := 5) hR150 st h0), (RdS.mono (e := 5) hR151 st h0), (RdS.mono (e := 5) hR152 st h0)⟩, fun _ _ _ _ st h0 hl hj e6 => e6, fun _ _ _ _ st h0 hl hj hR9 => (hR9.mono st h0 (hj 0 (by simp) _ rfl)), tv⟩ ⟨hB1, hR9, hB2, hR10, hB23, hB24, tv, tv, tv, tv, tv, tv, tv, tv, tv⟩ (by kernel_rfl) (fun vs => by kernel_rfl) ?_ ?_ ?_
   ·intro j hj
    have hq : j = 0 := by have h : j < 1 := hj; omega
    rcases hq with rfl
    ·intro vs gq stq hl hf
     obtain ⟨v0, v1, v2, v3, v4, v5, v6, rfl⟩ := len_k7 hl
     have e6 := (show v6 = .int .i64 x55 from hf _ (memI 12 rfl) (by kernel_rfl))
     subst e6
     show Option.isSome _ = true
     kernel_rfl
   ·intro j hj
    have hq : j = 0 ∨ j = 1 ∨ j = 2 ∨ j = 3 ∨ j = 4 ∨ j = 5 ∨ j = 6 := by have h : j < 7 := hj; omega
    rcases hq with rfl | rfl | rfl | rfl | rfl | rfl | rfl
    ·intro vs gq stq hl hf
     obtain ⟨v0, v1, v2, v3, v4, v5, v6, rfl⟩ := len_k7 hl
     have hB23 := (show Box gq (t + 18) b29 37 [encA .u8 d21] [8] from hf _ (memI 4 rfl) (by kernel_rfl))
     refine WP.loadB (v := AG [encA .u8 d21]) hB23 (by kernel_rfl) (by kernel_rfl) ?_
     refine WP.dn (Shown.ok (v := AG [encA .u8 d21]) (by kernel_rfl) (Step.refl _ _) ?_)
     exact ⟨tv, tv, tv, tv, tv, tv, rfl, tv, tv, tv, tv, tv, tv, tv, tv⟩
    ·intro vs gq stq hl hf
     obtain ⟨v0, v1, v2, v3, v4, v5, v6, rfl⟩ := len_k7 hl
     have hB24 := (show Box gq (t + 19) b30 37 [encA .u8 d22] [8] from hf _ (memI 5 rfl) (by kernel_rfl))
     refine WP.loadB (v := AG [encA .u8 d22]) hB24 (by kernel_rfl) (by kernel_rfl) ?_
     refine WP.dn (Shown.ok (v := AG [encA .u8 d22]) (by kernel_rfl) (Step.refl _ _) ?_)
     exact ⟨tv, tv, tv, tv, tv, tv, tv, rfl, tv, tv, tv, tv, tv, tv, tv⟩
    ·intro vs gq stq hl hf
     obtain ⟨v0, v1, v2, v3, v4, v5, v6, rfl⟩ := len_k7 hl
     have hR10 := (show OwnS k_S_punish_Thing gq (t + 7) 43 a10 n8 c9 l6 from hf _ (memI 3 rfl) (by kernel_rfl))
     refine WP.indexA (t := 76) (e := 43) (sz := 30) (cap := c9) (k := .i64) (i := x51) hR10.len ha44 (by kernel_rfl) (by kernel_rfl) hc49 ?_
     refine WP.dn (Shown.ok (v := .pointer (some ⟨b55, u44 + x51.toNat * 30, none⟩)) (by kernel_rfl) (Step.refl _ _) ?_)
     exact ⟨tv, tv, tv, tv, tv, tv, tv, tv, rfl, tv, tv, tv, tv, tv, tv⟩
    ·intro vs gq stq hl hf
     obtain ⟨v0, v1, v2, v3, v4, v5, v6, rfl⟩ := len_k7 hl
     have hR10 := (show OwnS k_S_punish_Thing gq (t + 7) 43 a10 n8 c9 l6 from hf _ (memI 3 rfl) (by kernel_rfl))
     have e2 := (show v2 = .pointer (some ⟨b55, u44 + x51.toNat * 30, none⟩) from hf _ (memI 8 rfl) (by kernel_rfl))
     subst e2
     obtain ⟨cs44, hcR44, hcV44⟩ := hR10.src.view (getI_some hc49) ha44
     obtain ⟨a147, n141, c144, a148, n142, c145, a149, n143, c146, hcR44, hR147, hR148, hR149⟩ := k_S_punish_Thing.opn hcR44
     refine WP.loadV [[.int .i64 ((getI l6 x51).f1)], encA .u8 ((getI l6 x51).f2), [.int .i64 ((getI l6 x51).f3)], [.slice a147 n141 c144], encA .u8 ((getI l6 x51).f5), [.int .i64 ((getI l6 x51).f6)], encA .u8 ((getI l6 x51).f7), [.slice a148 n142 c145], [.slice a149 n143 c146]] [1, 8, 1, 1, 8, 1, 8, 1, 1] hcV44 hcR44 (by simp [len_encA]) (f := 0) (ty := 43) (agg := true) (size := 30) (rs := [[.int .i64 ((getI l6 x51).f1)], encA .u8 ((getI l6 x51).f2), [.int .i64 ((getI l6 x51).f3)], [.slice a147 n141 c144], encA .u8 ((getI l6 x51).f5), [.int .i64 ((getI l6 x51).f6)], encA .u8 ((getI l6 x51).f7), [.slice a148 n142 c145], [.slice a149 n143 c146]]) (v := AG [[.int .i64 ((getI l6 x51).f1)], encA .u8 ((getI l6 x51).f2), [.int .i64 ((getI l6 x51).f3)], [.slice a147 n141 c144], encA .u8 ((getI l6 x51).f5), [.int .i64 ((getI l6 x51).f6)], encA .u8 ((getI l6 x51).f7), [.slice a148 n142 c145], [.slice a149 n143 c146]]) (by kernel_rfl) (by kernel_rfl) (by kernel_rfl) (by kernel_rfl) ?_
     obtain rfl := hR147.len
     obtain rfl := hR148.len
     obtain rfl := hR149.len
     refine WP.dn (Shown.ok (v := AG [[.int .i64 ((getI l6 x51).f1)], encA .u8 ((getI l6 x51).f2), [.int .i64 ((getI l6 x51).f3)], [.slice a147 (((getI l6 x51).f4).length) c144], encA .u8 ((getI l6 x51).f5), [.int .i64 ((getI l6 x51).f6)], encA .u8 ((getI l6 x51).f7), [.slice a148 (((getI l6 x51).f8).length) c145], [.slice a149 (((getI l6 x51).f9).length) c146]]) (by kernel_rfl) (Step.refl _ _) ?_)
     exact ⟨tv, tv, tv, tv, tv, tv, tv, tv, tv, ⟨a147, c144, a148, c145, a149, c146, rfl, hR147, hR148, hR149⟩, tv, tv, tv, tv, tv⟩
    ·intro vs gq stq hl hf
     obtain ⟨v0, v1, v2, v3, v4, v5, v6, rfl⟩ := len_k7 hl
     have hR10 := (show OwnS k_S_punish_Thing gq (t + 7) 43 a10 n8 c9 l6 from hf _ (memI 3 rfl) (by kernel_rfl))
     refine WP.indexA (t := 76) (e := 43) (sz := 30) (cap := c9) (k := .i64) (i := x41) hR10.len ha45 (by kernel_rfl) (by kernel_rfl) hc50 ?_
     refine WP.dn (Shown.ok (v := .pointer (some ⟨b56, u45 + x41.toNat * 30, none⟩)) (by kernel_rfl) (Step.refl _ _) ?_)
     exact ⟨tv, tv, tv, tv, tv, tv, tv, tv, tv, tv, rfl, tv, tv, tv, tv⟩
    ·intro vs gq stq hl hf
     obtain ⟨v0, v1, v2, v3, v4, v5, v6, rfl⟩ := len_k7 hl
     have hR10 := (show OwnS k_S_punish_Thing gq (t + 7) 43 a10 n8 c9 l6 from hf _ (memI 3 rfl) (by kernel_rfl))
     have e4 := (show v4 = .pointer (some ⟨b56, u45 + x41.toNat * 30, none⟩) from hf _ (memI 10 rfl) (by kernel_rfl))
     subst e4
     obtain ⟨cs45, hcR45, hcV45⟩ := hR10.src.view (getI_some hc50) ha45
     obtain ⟨a150, n144, c147, a151, n145, c148, a152, n146, c149, hcR45, hR150, hR151, hR152⟩ := k_S_punish_Thing.opn hcR45
     refine WP.loadV [[.int .i64 ((getI l6 x41).f1)], encA .u8 ((getI l6 x41).f2), [.int .i64 ((getI l6 x41).f3)], [.slice a150 n144 c147], encA .u8 ((getI l6 x41).f5), [.int .i64 ((getI l6 x41).f6)], encA .u8 ((getI l6 x41).f7), [.slice a151 n145 c148], [.slice a152 n146 c149]] [1, 8, 1, 1, 8, 1, 8, 1, 1] hcV45 hcR45 (by simp [len_encA]) (f := 0) (ty := 43) (agg := true) (size := 30) (rs := [[.int .i64 ((getI l6 x41).f1)], encA .u8 ((getI l6 x41).f2), [.int .i64 ((getI l6 x41).f3)], [.slice a150 n144 c147], encA .u8 ((getI l6 x41).f5), [.int .i64 ((getI l6 x41).f6)], encA .u8 ((getI l6 x41).f7), [.slice a151 n145 c148], [.slice a152 n146 c149]]) (v := AG [[.int .i64 ((getI l6 x41).f1)], encA .u8 ((getI l6 x41).f2), [.int .i64 ((getI l6 x41).f3)], [.slice a150 n144 c147], encA .u8 ((getI l6 x41).f5), [.int .i64 ((getI l6 x41).f6)], encA .u8 ((getI l6 x41).f7), [.slice a151 n145 c148], [.slice a152 n146 c149]]) (by kernel_rfl) (by kernel_rfl) (by kernel_rfl) (by kernel_rfl) ?_
     obtain rfl := hR150.len
     obtain rfl := hR151.len
     obtain rfl := hR152.len
     refine WP.dn (Shown.ok (v := AG [[.int .i64 ((getI l6 x41).f1)], encA .u8 ((getI l6 x41).f2), [.int .i64 ((getI l6 x41).f3)], [.slice a150 (((getI l6 x41).f4).length) c147], encA .u8 ((getI l6 x41).f5), [.int .i64 ((getI l6 x41).f6)], encA .u8 ((getI l6 x41).f7), [.slice a151 (((getI l6 x41).f8).length) c148], [.slice a152 (((getI l6 x41).f9).length) c149]]) (by kernel_rfl) (Step.refl _ _) ?_)
     exact ⟨tv, tv, tv, tv, tv, tv, tv, tv, tv, tv, tv, ⟨a150, c147, a151, c148, a152, c149, rfl, hR150, hR151, hR152⟩, tv, tv, tv⟩
    ·intro vs gq stq hl hf
     obtain ⟨v0, v1, v2, v3, v4, v5, v6, rfl⟩ := len_k7 hl
     have hB1 := (show Box gq (t + 1) b1 121 [[.slice a9 n7 c8], [.map (some b2)]] [1, 1] from hf _ (memI 0 rfl) (by kernel_rfl))
     have hR9 := (show OwnS k_S_notary_entry gq (t + 4) 126 a9 n7 c8 l5 from hf _ (memI 1 rfl) (by kernel_rfl))
     have hB2 := (show MapB gq (t + 2) b2 kv_S_notary_entry (Value.int .i64) w1 from hf _ (memI 2 rfl) (by kernel_rfl))
     have e0 := (show v0 = AG [encA .u8 d21] from hf _ (memI 6 rfl) (by kernel_rfl))
     subst e0
     have e1 := (show v1 = AG [encA .u8 d22] from hf _ (memI 7 rfl) (by kernel_rfl))
     subst e1
     obtain ⟨a147, c144, a148, c145, a149, c146, e3, hR147, hR148, hR149⟩ := (show ∃ (a147 : Option Addr) (c144 : Nat) (a148 : Option Addr) (c145 : Nat) (a149 : Option Addr) (c146 : Nat), v3 = AG [[.int .i64 ((getI l6 x51).f1)], encA .u8 ((getI l6 x51).f2), [.int .i64 ((getI l6 x51).f3)], [.slice a147 (((getI l6 x51).f4).length) c144], encA .u8 ((getI l6 x51).f5), [.int .i64 ((getI l6 x51).f6)], encA .u8 ((getI l6 x51).f7), [.slice a148 (((getI l6 x51).f8).length) c145], [.slice a149 (((getI l6 x51).f9).length) c146]] ∧ RdS (Kd.int .u8) gq 5 a147 (((getI l6 x51).f4).length) c144 ((getI l6 x51).f4) ∧ RdS (Kd.int .u8) gq 5 a148 (((getI l6 x51).f8).length) c145 ((getI l6 x51).f8) ∧ RdS (Kd.int .u8) gq 5 a149 (((getI l6 x51).f9).length) c146 ((getI l6 x51).f9) from hf _ (memI 9 rfl) (by kernel_rfl))
     subst e3
     obtain ⟨a150, c147, a151, c148, a152, c149, e5, hR150, hR151, hR152⟩ := (show ∃ (a150 : Option Addr) (c147 : Nat) (a151 : Option Addr) (c148 : Nat) (a152 : Option Addr) (c149 : Nat), v5 = AG [[.int .i64 ((getI l6 x41).f1)], encA .u8 ((getI l6 x41).f2), [.int .i64 ((getI l6 x41).f3)], [.slice a150 (((getI l6 x41).f4).length) c147], encA .u8 ((getI l6 x41).f5), [.int .i64 ((getI l6 x41).f6)], encA .u8 ((getI l6 x41).f7), [.slice a151 (((getI l6 x41).f8).length) c148], [.slice a152 (((getI l6 x41).f9).length) c149]] ∧ RdS (Kd.int .u8) gq 5 a150 (((getI l6 x41).f4).length) c147 ((getI l6 x41).f4) ∧ RdS (Kd.int .u8) gq 5 a151 (((getI l6 x41).f8).length) c148 ((getI l6 x41).f8) ∧ RdS (Kd.int .u8) gq 5 a152 (((getI l6 x41).f9).length) c149 ((getI l6 x41).f9) from hf _ (memI 11 rfl) (by kernel_rfl))
     subst e5
     have hS23 : 0 ∉ ([(t + 4)] : List Nat) := by simp <;> omega
     have stl23 := GW.lend_step gq [(t + 4)]
     have hRl25 := hR9.lendTo hS23 (by simp)
     refine WP.regw (g' := GW.lend gq [(t + 4)]) rfl ?_
     have hcal37 := P.punish_Twice (GW.lend gq [(t + 4)]) (t + 1) (t + 2) l5 w1 d21 d22 ((getI l6 x51).f1) ((getI l6 x51).f2) ((getI l6 x51).f3) ((getI l6 x51).f4) ((getI l6 x51).f5) ((getI l6 x51).f6) ((getI l6 x51).f7) ((getI l6 x51).f8) ((getI l6 x51).f9) ((getI l6 x41).f1) ((getI l6 x41).f2) ((getI l6 x41).f3) ((getI l6 x41).f4) ((getI l6 x41).f5) ((getI l6 x41).f6) ((getI l6 x41).f7) ((getI l6 x41).f8) ((getI l6 x41).f9) a9 n7 c8 a147 (((getI l6 x51).f4).length) c144 a148 (((getI l6 x51).f8).length) c145 a149 (((getI l6 x51).f9).length) c146 a150 (((getI l6 x41).f4).length) c147 a151 (((getI l6 x41).f8).length) c148 a152 (((getI l6 x41).f9).length) c149 b1 b2 hRl25 (hR147.mono stl23 (WL.no (by simp <;> omega))) (hR148.mono stl23 (WL.no (by simp <;> omega))) (hR149.mono stl23 (WL.no (by simp <;> omega))) (hR150.mono stl23 (WL.no (by simp <;> omega))) (hR151.mono stl23 (WL.no (by simp <;> omega))) (hR152.mono stl23 (WL.no (by simp <;> omega))) (hB2.mono stl23 (WL.no (by simp <;> omega))) (hB1.mono stl23 (WL.no (by simp <;> omega))) (by omega) (by omega) (by omega) x55 hk37
     refine WP.callC hcal37 (by kernel_rfl) ?_
     rintro _ g86 st86 rfl
     have st87 := (GW.back_step st86).lentS
     have hO25 := hR9.backTo hS23 (by simp) st86 (fun x => x)
     refine WP.regw (g' := GW.back gq g86 [(t + 4)]) rfl ?_
     generalize GW.back gq g86 [(t + 4)] = g87 at *
     refine WP.dn (Shown.o (v := .int .i64 x55) st87 ?_)
     exact ⟨tv, tv, tv, tv, tv, tv, tv, tv, tv, tv, tv, tv, rfl, hO25, tv⟩
   intro vs g88 st88 hl hf
   obtain ⟨v0, v1, v2, v3, v4, v5, v6, rfl⟩ := len_k7 hl
   have e6 := (show v6 = .int .i64 x55 from hf _ (memI 12 rfl) (by kernel_rfl))
   subst e6
   have hR9 := (show OwnS k_S_notary_entry g88 (t + 4) 126 a9 n7 c8 l5 from hf _ (memI 13 rfl) (by kernel_rfl))
   replace hB1 := hB1.mono st88 (WL.no1 (by omega))
   replace hB2 := hB2.mono st88 (WL.no1 (by omega))
   replace hR10 := hR10.mono st88 (WL.no1 (by omega)) (WL.no1 (by omega))
   replace hB23 := hB23.mono st88 (WL.no1 (by omega))
   replace hB24 := hB24.mono st88 (WL.no1 (by omega))
   replace tot := tot.trans (st88.up1 (.inr (by omega)))
   refine NX.then_n ?_
   refine CP.refr 118 [(7, .pointer (some ⟨b1, 0, none⟩)), (8, .slice a10 n8 c9), (11, .pointer (some ⟨b29, 0, none⟩)), (12, .pointer (some ⟨b30, 0, none⟩)), (13, .int .i64 x33), (14, .int .i64 x34), (15, .bool q16), (16, .int .i64 x41), (17, .int .i64 x51), (57, .int .i64 (l6.length : Int)), (58, .int .i64 x41), (61, .int .i64 x41), (62, .int .i64 x51), (78, .bool (x55 == 0))] (by kernel_rfl) (by kernel_rfl) ?_
   clear ds
   intro ds
   refine CP.cond (b := (x55 == 0)) (by kernel_rfl) (fun h78 => ?_) (fun h78 => ?_)
   ·replace hs := of_if_t hs h78
    refine CP.cut (fun tm g => ∃ (q25 : Bool), Fr 118 [(6, .bool q25)] tm ∧ Step (fun l => NoM l ∨ t ≤ l) g0 g ∧ (F.baizelaw34_PunishFinds.c2 q25) = some o1) ?_ ?_
    ·refine bool_split (b := q16) (fun h82 => ?_) (fun h82 => ?_)
     ·replace hs := of_if_t hs h82
      refine bool_split (b := (x33 == x51)) (fun h83 => ?_) (fun h83 => ?_)
      ·replace hs := of_if_t hs h83
       refine bool_split (b := (x34 == x41)) (fun h84 => ?_) (fun h84 => ?_)
       ·replace hs := of_if_t hs h84
        by_cases hc53 : (0 : Int) ≤ x41 ∧ x41 < (l6.length : Int)
        case neg => rw [if_neg hc53] at hs; cases hs
        replace hs := of_if_p hs hc53
        by_cases hc54 : (0 : Int) ≤ x51 ∧ x51 < (l6.length : Int)
        case neg => rw [if_neg hc54] at hs; cases hs
        replace hs := of_if_p hs hc54
        replace hs := Option.bind_eq_some_iff.1 hs
        obtain ⟨x57, hk39, hs⟩ := hs
        obtain ⟨b59, u48, ha48⟩ := hR10.at hc53
        obtain ⟨b60, u49, ha49⟩ := hR10.at hc54
        refine CP.drawL (by kernel_rfl) [1, 6, 11, 14, 15, 18, 19, 22, 23, 24] N.baizelaw34_PunishFinds_1 [⟨none, [], [], fun l g => Box g (t + 1) b1 121 [[.slice a9 n7 c8], [.map (some b2)]] [1, 1]⟩, ⟨none, [0], [], fun l g => OwnS k_S_notary_entry g (t + 4) 126 a9 n7 c8 l5⟩, ⟨none, [], [], fun l g => MapB g (t + 2) b2 kv_S_notary_entry (Value.int .i64) w1⟩, ⟨none, [], [], fun l g => OwnS k_S_punish_Thing g (t + 7) 43 a10 n8 c9 l6⟩, ⟨none, [], [], fun l g => Box g (t + 18) b29 37 [encA .u8 d21] [8]⟩, ⟨none, [], [], fun l g => Box g (t + 19) b30 37 [encA .u8 d22] [8]⟩, ⟨some 0, [], [0], fun l g => l.getD 0 undef = .bool true⟩, ⟨some 1, [], [1], fun l g => l.getD 0 undef = .bool true⟩, ⟨some 2, [], [2], fun l g => l.getD 0 undef = .bool true⟩, ⟨some 3, [], [3], fun l g => l.getD 0 undef = AG [encA .u8 d21]⟩, ⟨some 4, [], [4], fun l g => l.getD 0 undef = AG [encA .u8 d22]⟩, ⟨some 5, [], [5], fun l g => l.getD 0 undef = .pointer (some ⟨b59, u48 + x41.toNat * 30, none⟩)⟩, ⟨some 6, [], [6], fun l g => ∃ (a159 : Option Addr) (c156 : Nat) (a160 : Option Addr) (c157 : Nat) (a161 : Option Addr) (c158 : Nat), l.getD 0 undef = AG [[.int .i64 ((getI l6 x41).f1)], encA .u8 ((getI l6 x41).f2), [.int .i64 ((getI l6 x41).f3)], [.slice a159 (((getI l6 x41).f4).length) c156], encA .u8 ((getI l6 x41).f5), [.int .i64 ((getI l6 x41).f6)], encA .u8 ((getI l6 x41).f7), [.slice a160 (((getI l6 x41).f8).length) c157], [.slice a161 (((getI l6 x41).f9).length) c158]] ∧ RdS (Kd.int .u8) g 5 a159 (((getI l6 x41).f4).length) c156 ((getI l6 x41).f4) ∧ RdS (Kd.int .u8) g 5 a160 (((getI l6 x41).f8).length) c157 ((getI l6 x41).f8) ∧ RdS (Kd.int .u8) g 5 a161 (((getI l6 x41).f9).length) c158 ((getI l6 x41).f9)⟩, ⟨some 7, [], [7], fun l g => l.getD 0 undef = .pointer (some ⟨b60, u49 + x51.toNat * 30, none⟩)⟩, ⟨some 8, [], [8], fun l g => ∃ (a162 : Option Addr) (c159 : Nat) (a163 : Option Addr) (c160 : Nat) (a164 : Option Addr) (c161 : Nat), l.getD 0 undef = AG [[.int .i64 ((getI l6 x51).f1)], encA .u8 ((getI l6 x51).f2), [.int .i64 ((getI l6 x51).f3)], [.slice a162 (((getI l6 x51).f4).length) c159], encA .u8 ((getI l6 x51).f5), [.int .i64 ((getI l6 x51).f6)], encA .u8 ((getI l6 x51).f7), [.slice a163 (((getI l6 x51).f8).length) c160], [.slice a164 (((getI l6 x51).f9).length) c161]] ∧ RdS (Kd.int .u8) g 5 a162 (((getI l6 x51).f4).length) c159 ((getI l6 x51).f4) ∧ RdS (Kd.int .u8) g 5 a163 (((getI l6 x51).f8).length) c160 ((getI l6 x51).f8) ∧ RdS (Kd.int .u8) g 5 a164 (((getI l6 x51).f9).length) c161 ((getI l6 x51).f9)⟩, ⟨some 9, [], [9], fun l g => l.getD 0 undef = .int .i64 x57⟩, ⟨some 9, [0], [], fun l g => OwnS k_S_notary_entry g (t + 4) 126 a9 n7 c8 l5⟩] [[], [], [], [], [], [], [], [], [], [0]] [(t + 4)] [0] [2, 3, 4, 5, 7, 8, 9, 10, 12, 13, 16, 17, 20, 21, 25, 26, 27] (by kernel_rfl) (by simp <;> omega) (by simp) ⟨fun _ _ _ _ st h0 hl hj hB1 => (hB1.mono st (fun h => absurd (hl _ h) (by simp <;> omega))), fun _ _ _ _ st h0 hl hj hR9 => (hR9.mono st h0 (hj 0 (by simp) _ rfl)), fun _ _ _ _ st h0 hl hj hB2 => (hB2.mono st (fun h => absurd (hl _ h) (by simp <;> omega))), fun _ _ _ _ st h0 hl hj hR10 => (hR10.mono st h0 (fun h => absurd (hl _ h) (by simp <;> omega))), fun _ _ _ _ st h0 hl hj hB23 => (hB23.mono st (fun h => absurd (hl _ h) (by simp <;> omega))), fun _ _ _ _ st h0 hl hj hB24 => (hB24.mono st (fun h => absurd (hl _ h) (by simp <;> omega))), fun _ _ _ _ st h0 hl hj e0 => e0, fun _ _ _ _ st h0 hl hj e1 => e1, fun _ _ _ _ st h0 hl hj e2 => e2, fun _ _ _ _ st h0 hl hj e3 => e3, fun _ _ _ _ st h0 hl hj e4 => e4, fun _ _ _ _ st h0 hl hj e5 => e5, fun _ _ _ _ st h0 hl hj ⟨a159, c156, a160, c157, a161, c158, e6, hR159, hR160, hR161⟩ => ⟨a159, c156, a160, c157, a161, c158, e6, (RdS.mono (e := 5) hR159 st h0), (RdS.mono (e := 5) hR160 st h0), (RdS.mono (e := 5) hR161 st h0)⟩, fun _ _ _ _ st h0 hl hj e7 => e7, fun _ _ _ _ st h0 hl hj ⟨a162, c159, a163, c160, a164, c161, e8, hR162, hR163, hR164⟩ => ⟨a162, c159, a163, c160, a164, c161, e8, (RdS.mono (e := 5) hR162 st h0), (RdS.mono (e := 5) hR163 st h0), (RdS.mono (e := 5) hR164 st h0)⟩, fun _ _ _ _ st h0 hl hj e9 => e9, fun _ _ _ _ st h0 hl hj hR9 => (hR9.mono st h0 (hj 0 (by simp) _ rfl)), tv⟩ ⟨hB1, hR9, hB2, hR10, hB23, hB24, tv, tv, tv, tv, tv, tv, tv, tv, tv, tv, tv, tv⟩ (by kernel_rfl) (fun vs => by kernel_rfl) ?_ ?_ ?_
        ·intro j hj
         have hq : j = 0 ∨ j = 1 ∨ j = 2 ∨ j = 3 ∨ j = 4 ∨ j = 5 ∨ j = 6 ∨ j = 7 ∨ j = 8 ∨ j = 9 ∨ j = 10 ∨ j = 11 ∨ j = 12 ∨ j = 13 ∨ j = 14 ∨ j = 15 ∨ j = 16 := by have h : j < 17 := hj; omega
         rcases hq with rfl | rfl | rfl | rfl | rfl | rfl | rfl | rfl | rfl | rfl | rfl | rfl | rfl | rfl | rfl | rfl | rfl
         ·intro vs gq stq hl hf
          obtain ⟨v0, v1, v2, v3, v4, v5, v6, v7, v8, v9, rfl⟩ := len_k10 hl
          have e0 := (show v0 = .bool true from hf _ (memI 6 rfl) (by kernel_rfl))
          subst e0
          show Option.isSome _ = true
          kernel_rfl
         ·intro vs gq stq hl hf
          obtain ⟨v0, v1, v2, v3, v4, v5, v6, v7, v8, v9, rfl⟩ := len_k10 hl
          have e0 := (show v0 = .bool true from hf _ (memI 6 rfl) (by kernel_rfl))
          subst e0
          show Option.isSome _ = true
          kernel_rfl
         ·intro vs gq stq hl hf
          obtain ⟨v0, v1, v2, v3, v4, v5, v6, v7, v8, v9, rfl⟩ := len_k10 hl
          have e0 := (show v0 = .bool true from hf _ (memI 6 rfl) (by kernel_rfl))
          subst e0
          show Option.isSome _ = true
          kernel_rfl
         ·intro vs gq stq hl hf
          obtain ⟨v0, v1, v2, v3, v4, v5, v6, v7, v8, v9, rfl⟩ := len_k10 hl
          have e0 := (show v0 = .bool true from hf _ (memI 6 rfl) (by kernel_rfl))
          subst e0
          show Option.isSome _ = true
          kernel_rfl
         ·intro vs gq stq hl hf
          obtain ⟨v0, v1, v2, v3, v4, v5, v6, v7, v8, v9, rfl⟩ := len_k10 hl
          have e1 := (show v1 = .bool true from hf _ (memI 7 rfl) (by kernel_rfl))
          subst e1
          show Option.isSome _ = true
          kernel_rfl
         ·intro vs gq stq hl hf
          obtain ⟨v0, v1, v2, v3, v4, v5, v6, v7, v8, v9, rfl⟩ := len_k10 hl
          have e1 := (show v1 = .bool true from hf _ (memI 7 rfl) (by kernel_rfl))
          subst e1
          show Option.isSome _ = true
          kernel_rfl
         ·intro vs gq stq hl hf
          obtain ⟨v0, v1, v2, v3, v4, v5, v6, v7, v8, v9, rfl⟩ := len_k10 hl
          have e1 := (show v1 = .bool true from hf _ (memI 7 rfl) (by kernel_rfl))
          subst e1
          show Option.isSome _ = true
          kernel_rfl
         ·intro vs gq stq hl hf
          obtain ⟨v0, v1, v2, v3, v4, v5, v6, v7, v8, v9, rfl⟩ := len_k10 hl
          have e1 := (show v1 = .bool true from hf _ (memI 7 rfl) (by kernel_rfl))
          subst e1
          show Option.isSome _ = true
          kernel_rfl
         ·intro vs gq stq hl hf
          obtain ⟨v0, v1, v2, v3, v4, v5, v6, v7, v8, v9, rfl⟩ := len_k10 hl
          have e2 := (show v2 = .bool true from hf _ (memI 8 rfl) (by kernel_rfl))
          subst e2
          show Option.isSome _ = true
          kernel_rfl
         ·intro vs gq stq hl hf
          obtain ⟨v0, v1, v2, v3, v4, v5, v6, v7, v8, v9, rfl⟩ := len_k10 hl
          have e2 := (show v2 = .bool true from hf _ (memI 8 rfl) (by kernel_rfl))
          subst e2
          show Option.isSome _ = true
          kernel_rfl
         ·intro vs gq stq hl hf
          obtain ⟨v0, v1, v2, v3, v4, v5, v6, v7, v8, v9, rfl⟩ := len_k10 hl
          have e2 := (show v2 = .bool true from hf _ (memI 8 rfl) (by kernel_rfl))
          subst e2
          show Option.isSome _ = true
          kernel_rfl
         ·intro vs gq stq hl hf
          obtain ⟨v0, v1, v2, v3, v4, v5, v6, v7, v8, v9, rfl⟩ := len_k10 hl
          have e2 := (show v2 = .bool true from hf _ (memI 8 rfl) (by kernel_rfl))
          subst e2
          show Option.isSome _ = true
          kernel_rfl
         ·intro vs gq stq hl hf
          obtain ⟨v0, v1, v2, v3, v4, v5, v6, v7, v8, v9, rfl⟩ := len_k10 hl
          have e2 := (show v2 = .bool true from hf _ (memI 8 rfl) (by kernel_rfl))
          subst e2
          show Option.isSome _ = true
          kernel_rfl
         ·intro vs gq stq hl hf
          obtain ⟨v0, v1, v2, v3, v4, v5, v6, v7, v8, v9, rfl⟩ := len_k10 hl
          have e2 := (show v2 = .bool true from hf _ (memI 8 rfl) (by kernel_rfl))
          subst e2
          show Option.isSome _ = true
          kernel_rfl
         ·intro vs gq stq hl hf
          obtain ⟨v0, v1, v2, v3, v4, v5, v6, v7, v8, v9, rfl⟩ := len_k10 hl
          have e2 := (show v2 = .bool true from hf _ (memI 8 rfl) (by kernel_rfl))
          subst e2
          have e9 := (show v9 = .int .i64 x57 from hf _ (memI 15 rfl) (by kernel_rfl))
          subst e9
          show Option.isSome _ = true
          kernel_rfl
         ·intro vs gq stq hl hf
          obtain ⟨v0, v1, v2, v3, v4, v5, v6, v7, v8, v9, rfl⟩ := len_k10 hl
          have e2 := (show v2 = .bool true from hf _ (memI 8 rfl) (by kernel_rfl))
          subst e2
          have e9 := (show v9 = .int .i64 x57 from hf _ (memI 15 rfl) (by kernel_rfl))
          subst e9
          show Option.isSome _ = true
          kernel_rfl
         ·intro vs gq stq hl hf
          obtain ⟨v0, v1, v2, v3, v4, v5, v6, v7, v8, v9, rfl⟩ := len_k10 hl
          have e2 := (show v2 = .bool true from hf _ (memI 8 rfl) (by kernel_rfl))
          subst e2
          have e9 := (show v9 = .int .i64 x57 from hf _ (memI 15 rfl) (by kernel_rfl))
          subst e9
          show Option.isSome _ = true
          kernel_rfl
        ·intro j hj
         have hq : j = 0 ∨ j = 1 ∨ j = 2 ∨ j = 3 ∨ j = 4 ∨ j = 5 ∨ j = 6 ∨ j = 7 ∨ j = 8 ∨ j = 9 := by have h : j < 10 := hj; omega
         rcases hq with rfl | rfl | rfl | rfl | rfl | rfl | rfl | rfl | rfl | rfl
         ·intro vs gq stq hl hf
          obtain ⟨v0, v1, v2, v3, v4, v5, v6, v7, v8, v9, rfl⟩ := len_k10 hl
          refine WP.stl 1 ?_
          refine WP.dn (Shown.ok (v := .bool q16) (by kernel_rfl) (Step.refl _ _) ?_)
          exact ⟨tv, tv, tv, tv, tv, tv, congrArg Value.bool h82, tv, tv, tv, tv, tv, tv, tv, tv, tv, tv, tv⟩
         ·intro vs gq stq hl hf
          obtain ⟨v0, v1, v2, v3, v4, v5, v6, v7, v8, v9, rfl⟩ := len_k10 hl
          have e0 := (show v0 = .bool true from hf _ (memI 6 rfl) (by kernel_rfl))
          subst e0
          refine WP.stl 1 ?_
          refine WP.dn (Shown.ok (v := .bool (x33 == x51)) (by kernel_rfl) (Step.refl _ _) ?_)
          exact ⟨tv, tv, tv, tv, tv, tv, tv, congrArg Value.bool h83, tv, tv, tv, tv, tv, tv, tv, tv, tv, tv⟩
         ·intro vs gq stq hl hf
          obtain ⟨v0, v1, v2, v3, v4, v5, v6, v7, v8, v9, rfl⟩ := len_k10 hl
          have e1 := (show v1 = .bool true from hf _ (memI 7 rfl) (by kernel_rfl))
          subst e1
          refine WP.stl 1 ?_
          refine WP.dn (Shown.ok (v := .bool (x34 == x41)) (by kernel_rfl) (Step.refl _ _) ?_)
          exact ⟨tv, tv, tv, tv, tv, tv, tv, tv, congrArg Value.bool h84, tv, tv, tv, tv, tv, tv, tv, tv, tv⟩
         ·intro vs gq stq hl hf
          obtain ⟨v0, v1, v2, v3, v4, v5, v6, v7, v8, v9, rfl⟩ := len_k10 hl
          have hB23 := (show Box gq (t + 18) b29 37 [encA .u8 d21] [8] from hf _ (memI 4 rfl) (by kernel_rfl))
          have e2 := (show v2 = .bool true from hf _ (memI 8 rfl) (by kernel_rfl))
          subst e2
          refine WP.loadB (v := AG [encA .u8 d21]) hB23 (by kernel_rfl) (by kernel_rfl) ?_
          refine WP.dn (Shown.ok (v := AG [encA .u8 d21]) (by kernel_rfl) (Step.refl _ _) ?_)
          exact ⟨tv, tv, tv, tv, tv, tv, tv, tv, tv, rfl, tv, tv, tv, tv, tv, tv, tv, tv⟩
         ·intro vs gq stq hl hf
          obtain ⟨v0, v1, v2, v3, v4, v5, v6, v7, v8, v9, rfl⟩ := len_k10 hl
          have hB24 := (show Box gq (t + 19) b30 37 [encA .u8 d22] [8] from hf _ (memI 5 rfl) (by kernel_rfl))
          have e2 := (show v2 = .bool true from hf _ (memI 8 rfl) (by kernel_rfl))
          subst e2
          refine WP.loadB (v := AG [encA .u8 d22]) hB24 (by kernel_rfl) (by kernel_rfl) ?_
          refine WP.dn (Shown.ok (v := AG [encA .u8 d22]) (by kernel_rfl) (Step.refl _ _) ?_)
          exact ⟨tv, tv, tv, tv, tv, tv, tv, tv, tv, tv, rfl, tv, tv, tv, tv, tv, tv, tv⟩
         ·intro vs gq stq hl hf
          obtain ⟨v0, v1, v2, v3, v4, v5, v6, v7, v8, v9, rfl⟩ := len_k10 hl
          have hR10 := (show OwnS k_S_punish_Thing gq (t + 7) 43 a10 n8 c9 l6 from hf _ (memI 3 rfl) (by kernel_rfl))
          have e2 := (show v2 = .bool true from hf _ (memI 8 rfl) (by kernel_rfl))
          subst e2
          refine WP.indexA (t := 76) (e := 43) (sz := 30) (cap := c9) (k := .i64) (i := x41) hR10.len ha48 (by kernel_rfl) (by kernel_rfl) hc53 ?_
          refine WP.dn (Shown.ok (v := .pointer (some ⟨b59, u48 + x41.toNat * 30, none⟩)) (by kernel_rfl) (Step.refl _ _) ?_)
          exact ⟨tv, tv, tv, tv, tv, tv, tv, tv, tv, tv, tv, rfl, tv, tv, tv, tv, tv, tv⟩
         ·intro vs gq stq hl hf
          obtain ⟨v0, v1, v2, v3, v4, v5, v6, v7, v8, v9, rfl⟩ := len_k10 hl
          have hR10 := (show OwnS k_S_punish_Thing gq (t + 7) 43 a10 n8 c9 l6 from hf _ (memI 3 rfl) (by kernel_rfl))
          have e2 := (show v2 = .bool true from hf _ (memI 8 rfl) (by kernel_rfl))
          subst e2
          have e5 := (show v5 = .pointer (some ⟨b59, u48 + x41.toNat * 30, none⟩) from hf _ (memI 11 rfl) (by kernel_rfl))
          subst e5
          obtain ⟨cs48, hcR48, hcV48⟩ := hR10.src.view (getI_some hc53) ha48
          obtain ⟨a159, n153, c156, a160, n154, c157, a161, n155, c158, hcR48, hR159, hR160, hR161⟩ := k_S_punish_Thing.opn hcR48
          refine WP.loadV [[.int .i64 ((getI l6 x41).f1)], encA .u8 ((getI l6 x41).f2), [.int .i64 ((getI l6 x41).f3)], [.slice a159 n153 c156], encA .u8 ((getI l6 x41).f5), [.int .i64 ((getI l6 x41).f6)], encA .u8 ((getI l6 x41).f7), [.slice a160 n154 c157], [.slice a161 n155 c158]] [1, 8, 1, 1, 8, 1, 8, 1, 1] hcV48 hcR48 (by simp [len_encA]) (f := 0) (ty := 43) (agg := true) (size := 30) (rs := [[.int .i64 ((getI l6 x41).f1)], encA .u8 ((getI l6 x41).f2), [.int .i64 ((getI l6 x41).f3)], [.slice a159 n153 c156], encA .u8 ((getI l6 x41).f5), [.int .i64 ((getI l6 x41).f6)], encA .u8 ((getI l6 x41).f7), [.slice a160 n154 c157], [.slice a161 n155 c158]]) (v := AG [[.int .i64 ((getI l6 x41).f1)], encA .u8 ((getI l6 x41).f2), [.int .i64 ((getI l6 x41).f3)], [.slice a159 n153 c156], encA .u8 ((getI l6 x41).f5), [.int .i64 ((getI l6 x41).f6)], encA .u8 ((getI l6 x41).f7), [.slice a160 n154 c157], [.slice a161 n155 c158]]) (by kernel_rfl) (by kernel_rfl) (by kernel_rfl) (by kernel_rfl) ?_
          obtain rfl := hR159.len
          obtain rfl := hR160.len
          obtain rfl := hR161.len
          refine WP.dn (Shown.ok (v := AG [[.int .i64 ((getI l6 x41).f1)], encA .u8 ((getI l6 x41).f2), [.int .i64 ((getI l6 x41).f3)], [.slice a159 (((getI l6 x41).f4).length) c156], encA .u8 ((getI l6 x41).f5), [.int .i64 ((getI l6 x41).f6)], encA .u8 ((getI l6 x41).f7), [.slice a160 (((getI l6 x41).f8).length) c157], [.slice a161 (((getI l6 x41).f9).length) c158]]) (by kernel_rfl) (Step.refl _ _) ?_)
          exact ⟨tv, tv, tv, tv, tv, tv, tv, tv, tv, tv, tv, tv, ⟨a159, c156, a160, c157, a161, c158, rfl, hR159, hR160, hR161⟩, tv, tv, tv, tv, tv⟩
         ·intro vs gq stq hl hf
          obtain ⟨v0, v1, v2, v3, v4, v5, v6, v7, v8, v9, rfl⟩ := len_k10 hl
          have hR10 := (show OwnS k_S_punish_Thing gq (t + 7) 43 a10 n8 c9 l6 from hf _ (memI 3 rfl) (by kernel_rfl))
          have e2 := (show v2 = .bool true from hf _ (memI 8 rfl) (by kernel_rfl))
          subst e2
          refine WP.indexA (t := 76) (e := 43) (sz := 30) (cap := c9) (k := .i64) (i := x51) hR10.len ha49 (by kernel_rfl) (by kernel_rfl) hc54 ?_
          refine WP.dn (Shown.ok (v := .pointer (some ⟨b60, u49 + x51.toNat * 30, none⟩)) (by kernel_rfl) (Step.refl _ _) ?_)
          exact ⟨tv, tv, tv, tv, tv, tv, tv, tv, tv, tv, tv, tv, tv, rfl, tv, tv, tv, tv⟩
         ·intro vs gq stq hl hf
          obtain ⟨v0, v1, v2, v3, v4, v5, v6, v7, v8, v9, rfl⟩ := len_k10 hl
          have hR10 := (show OwnS k_S_punish_Thing gq (t + 7) 43 a10 n8 c9 l6 from hf _ (memI 3 rfl) (by kernel_rfl))
          have e2 := (show v2 = .bool true from hf _ (memI 8 rfl) (by kernel_rfl))
          subst e2
          have e7 := (show v7 = .pointer (some ⟨b60, u49 + x51.toNat * 30, none⟩) from hf _ (memI 13 rfl) (by kernel_rfl))
          subst e7
          obtain ⟨cs49, hcR49, hcV49⟩ := hR10.src.view (getI_some hc54) ha49
          obtain ⟨a162, n156, c159, a163, n157, c160, a164, n158, c161, hcR49, hR162, hR163, hR164⟩ := k_S_punish_Thing.opn hcR49
          refine WP.loadV [[.int .i64 ((getI l6 x51).f1)], encA .u8 ((getI l6 x51).f2), [.int .i64 ((getI l6 x51).f3)], [.slice a162 n156 c159], encA .u8 ((getI l6 x51).f5), [.int .i64 ((getI l6 x51).f6)], encA .u8 ((getI l6 x51).f7), [.slice a163 n157 c160], [.slice a164 n158 c161]] [1, 8, 1, 1, 8, 1, 8, 1, 1] hcV49 hcR49 (by simp [len_encA]) (f := 0) (ty := 43) (agg := true) (size := 30) (rs := [[.int .i64 ((getI l6 x51).f1)], encA .u8 ((getI l6 x51).f2), [.int .i64 ((getI l6 x51).f3)], [.slice a162 n156 c159], encA .u8 ((getI l6 x51).f5), [.int .i64 ((getI l6 x51).f6)], encA .u8 ((getI l6 x51).f7), [.slice a163 n157 c160], [.slice a164 n158 c161]]) (v := AG [[.int .i64 ((getI l6 x51).f1)], encA .u8 ((getI l6 x51).f2), [.int .i64 ((getI l6 x51).f3)], [.slice a162 n156 c159], encA .u8 ((getI l6 x51).f5), [.int .i64 ((getI l6 x51).f6)], encA .u8 ((getI l6 x51).f7), [.slice a163 n157 c160], [.slice a164 n158 c161]]) (by kernel_rfl) (by kernel_rfl) (by kernel_rfl) (by kernel_rfl) ?_
          obtain rfl := hR162.len
          obtain rfl := hR163.len
          obtain rfl := hR164.len
          refine WP.dn (Shown.ok (v := AG [[.int .i64 ((getI l6 x51).f1)], encA .u8 ((getI l6 x51).f2), [.int .i64 ((getI l6 x51).f3)], [.slice a162 (((getI l6 x51).f4).length) c159], encA .u8 ((getI l6 x51).f5), [.int .i64 ((getI l6 x51).f6)], encA .u8 ((getI l6 x51).f7), [.slice a163 (((getI l6 x51).f8).length) c160], [.slice a164 (((getI l6 x51).f9).length) c161]]) (by kernel_rfl) (Step.refl _ _) ?_)
          exact ⟨tv, tv, tv, tv, tv, tv, tv, tv, tv, tv, tv, tv, tv, tv, ⟨a162, c159, a163, c160, a164, c161, rfl, hR162, hR163, hR164⟩, tv, tv, tv⟩
         ·intro vs gq stq hl hf
          obtain ⟨v0, v1, v2, v3, v4, v5, v6, v7, v8, v9, rfl⟩ := len_k10 hl
          have hB1 := (show Box gq (t + 1) b1 121 [[.slice a9 n7 c8], [.map (some b2)]] [1, 1] from hf _ (memI 0 rfl) (by kernel_rfl))
          have hR9 := (show OwnS k_S_notary_entry gq (t + 4) 126 a9 n7 c8 l5 from hf _ (memI 1 rfl) (by kernel_rfl))
          have hB2 := (show MapB gq (t + 2) b2 kv_S_notary_entry (Value.int .i64) w1 from hf _ (memI 2 rfl) (by kernel_rfl))
          have e2 := (show v2 = .bool true from hf _ (memI 8 rfl) (by kernel_rfl))
          subst e2
          have e3 := (show v3 = AG [encA .u8 d21] from hf _ (memI 9 rfl) (by kernel_rfl))
          subst e3
          have e4 := (show v4 = AG [encA .u8 d22] from hf _ (memI 10 rfl) (by kernel_rfl))
          subst e4
          obtain ⟨a159, c156, a160, c157, a161, c158, e6, hR159, hR160, hR161⟩ := (show ∃ (a159 : Option Addr) (c156 : Nat) (a160 : Option Addr) (c157 : Nat) (a161 : Option Addr) (c158 : Nat), v6 = AG [[.int .i64 ((getI l6 x41).f1)], encA .u8 ((getI l6 x41).f2), [.int .i64 ((getI l6 x41).f3)], [.slice a159 (((getI l6 x41).f4).length) c156], encA .u8 ((getI l6 x41).f5), [.int .i64 ((getI l6 x41).f6)], encA .u8 ((getI l6 x41).f7), [.slice a160 (((getI l6 x41).f8).length) c157], [.slice a161 (((getI l6 x41).f9).length) c158]] ∧ RdS (Kd.int .u8) gq 5 a159 (((getI l6 x41).f4).length) c156 ((getI l6 x41).f4) ∧ RdS (Kd.int .u8) gq 5 a160 (((getI l6 x41).f8).length) c157 ((getI l6 x41).f8) ∧ RdS (Kd.int .u8) gq 5 a161 (((getI l6 x41).f9).length) c158 ((getI l6 x41).f9) from hf _ (memI 12 rfl) (by kernel_rfl))
          subst e6
          obtain ⟨a162, c159, a163, c160, a164, c161, e8, hR162, hR163, hR164⟩ := (show ∃ (a162 : Option Addr) (c159 : Nat) (a163 : Option Addr) (c160 : Nat) (a164 : Option Addr) (c161 : Nat), v8 = AG [[.int .i64 ((getI l6 x51).f1)], encA .u8 ((getI l6 x51).f2), [.int .i64 ((getI l6 x51).f3)], [.slice a162 (((getI l6 x51).f4).length) c159], encA .u8 ((getI l6 x51).f5), [.int .i64 ((getI l6 x51).f6)], encA .u8 ((getI l6 x51).f7), [.slice a163 (((getI l6 x51).f8).length) c160], [.slice a164 (((getI l6 x51).f9).length) c161]] ∧ RdS (Kd.int .u8) gq 5 a162 (((getI l6 x51).f4).length) c159 ((getI l6 x51).f4) ∧ RdS (Kd.int .u8) gq 5 a163 (((getI l6 x51).f8).length) c160 ((getI l6 x51).f8) ∧ RdS (Kd.int .u8) gq 5 a164 (((getI l6 x51).f9).length) c161 ((getI l6 x51).f9) from hf _ (memI 14 rfl) (by kernel_rfl))
          subst e8
          have hS25 : 0 ∉ ([(t + 4)] : List Nat) := by simp <;> omega
          have stl25 := GW.lend_step gq [(t + 4)]
          have hRl27 := hR9.lendTo hS25 (by simp)
          refine WP.regw (g' := GW.lend gq [(t + 4)]) rfl ?_
          have hcal39 := P.punish_Twice (GW.lend gq [(t + 4)]) (t + 1) (t + 2) l5 w1 d21 d22 ((getI l6 x41).f1) ((getI l6 x41).f2) ((getI l6 x41).f3) ((getI l6 x41).f4) ((getI l6 x41).f5) ((getI l6 x41).f6) ((getI l6 x41).f7) ((getI l6 x41).f8) ((getI l6 x41).f9) ((getI l6 x51).f1) ((getI l6 x51).f2) ((getI l6 x51).f3) ((getI l6 x51).f4) ((getI l6 x51).f5) ((getI l6 x51).f6) ((getI l6 x51).f7) ((getI l6 x51).f8) ((getI l6 x51).f9) a9 n7 c8 a159 (((getI l6 x41).f4).length) c156 a160 (((getI l6 x41).f8).length) c157 a161 (((getI l6 x41).f9).length) c158 a162 (((getI l6 x51).f4).length) c159 a163 (((getI l6 x51).f8).length) c160 a164 (((getI l6 x51).f9).length) c161 b1 b2 hRl27 (hR159.mono stl25 (WL.no (by simp <;> omega))) (hR160.mono stl25 (WL.no (by simp <;> omega))) (hR161.mono stl25 (WL.no (by simp <;> omega))) (hR162.mono stl25 (WL.no (by simp <;> omega))) (hR163.mono stl25 (WL.no (by simp <;> omega))) (hR164.mono stl25 (WL.no (by simp <;> omega))) (hB2.mono stl25 (WL.no (by simp <;> omega))) (hB1.mono stl25 (WL.no (by simp <;> omega))) (by omega) (by omega) (by omega) x57 hk39
          refine WP.callC hcal39 (by kernel_rfl) ?_
          rintro _ g91 st91 rfl
          have st92 := (GW.back_step st91).lentS
          have hO27 := hR9.backTo hS25 (by simp) st91 (fun x => x)
          refine WP.regw (g' := GW.back gq g91 [(t + 4)]) rfl ?_
          generalize GW.back gq g91 [(t + 4)] = g92 at *
          refine WP.dn (Shown.o (v := .int .i64 x57) st92 ?_)
          exact ⟨tv, tv, tv, tv, tv, tv, tv, tv, tv, tv, tv, tv, tv, tv, tv, rfl, hO27, tv⟩
        intro vs g93 st93 hl hf
        obtain ⟨v0, v1, v2, v3, v4, v5, v6, v7, v8, v9, rfl⟩ := len_k10 hl
        have e2 := (show v2 = .bool true from hf _ (memI 8 rfl) (by kernel_rfl))
        subst e2
        have e9 := (show v9 = .int .i64 x57 from hf _ (memI 15 rfl) (by kernel_rfl))
        subst e9
        replace tot := tot.trans (st93.up1 (.inr (by omega)))
        refine NX.post ?_
        exact ⟨(x57 == 0), ⟨by kernel_rfl, by kernel_rfl⟩, tot, hs⟩
       replace hs := of_if_f hs h84
       refine CP.drawL (by kernel_rfl) [1, 6, 11] N.baizelaw34_PunishFinds_1 [⟨some 0, [], [0], fun l g => l.getD 0 undef = .bool true⟩, ⟨some 1, [], [1], fun l g => l.getD 0 undef = .bool true⟩, ⟨some 2, [], [2], fun l g => l.getD 0 undef = .bool false⟩] [[], [], []] [] [0] [2, 3, 4, 5, 7, 8, 9, 10, 12, 13, 14, 15, 16, 17, 18, 19, 20, 21, 22, 23, 24, 25, 26, 27] (by kernel_rfl) (by simp) (by simp) ⟨fun _ _ _ _ st h0 hl hj e0 => e0, fun _ _ _ _ st h0 hl hj e1 => e1, fun _ _ _ _ st h0 hl hj e2 => e2, tv⟩ ⟨tv, tv, tv, tv⟩ (by kernel_rfl) (fun vs => by kernel_rfl) ?_ ?_ ?_
       ·intro j hj
        have hq : j = 0 ∨ j = 1 ∨ j = 2 ∨ j = 3 ∨ j = 4 ∨ j = 5 ∨ j = 6 ∨ j = 7 ∨ j = 8 ∨ j = 9 ∨ j = 10 ∨ j = 11 ∨ j = 12 ∨ j = 13 ∨ j = 14 ∨ j = 15 ∨ j = 16 ∨ j = 17 ∨ j = 18 ∨ j = 19 ∨ j = 20 ∨ j = 21 ∨ j = 22 ∨ j = 23 := by have h : j < 24 := hj; omega
        rcases hq with rfl | rfl | rfl | rfl | rfl | rfl | rfl | rfl | rfl | rfl | rfl | rfl | rfl | rfl | rfl | rfl | rfl | rfl | rfl | rfl | rfl | rfl | rfl | rfl
        ·intro vs gq stq hl hf
         obtain ⟨v0, v1, v2, rfl⟩ := len_k3 hl
         have e0 := (show v0 = .bool true from hf _ (memI 0 rfl) (by kernel_rfl))
         subst e0
         show Option.isSome _ = true
         kernel_rfl
        ·intro vs gq stq hl hf
         obtain ⟨v0, v1, v2, rfl⟩ := len_k3 hl
         have e0 := (show v0 = .bool true from hf _ (memI 0 rfl) (by kernel_rfl))
         subst e0
         show Option.isSome _ = true
         kernel_rfl
        ·intro vs gq stq hl hf
         obtain ⟨v0, v1, v2, rfl⟩ := len_k3 hl
         have e0 := (show v0 = .bool true from hf _ (memI 0 rfl) (by kernel_rfl))
         subst e0
         show Option.isSome _ = true
         kernel_rfl
        ·intro vs gq stq hl hf
         obtain ⟨v0, v1, v2, rfl⟩ := len_k3 hl
         have e0 := (show v0 = .bool true from hf _ (memI 0 rfl) (by kernel_rfl))
         subst e0
         show Option.isSome _ = true
         kernel_rfl
        ·intro vs gq stq hl hf
         obtain ⟨v0, v1, v2, rfl⟩ := len_k3 hl
         have e1 := (show v1 = .bool true from hf _ (memI 1 rfl) (by kernel_rfl))
         subst e1
         show Option.isSome _ = true
         kernel_rfl
        ·intro vs gq stq hl hf
         obtain ⟨v0, v1, v2, rfl⟩ := len_k3 hl
         have e1 := (show v1 = .bool true from hf _ (memI 1 rfl) (by kernel_rfl))
         subst e1
         show Option.isSome _ = true
         kernel_rfl
        ·intro vs gq stq hl hf
         obtain ⟨v0, v1, v2, rfl⟩ := len_k3 hl
         have e1 := (show v1 = .bool true from hf _ (memI 1 rfl) (by kernel_rfl))
         subst e1
         show Option.isSome _ = true
         kernel_rfl
        ·intro vs gq stq hl hf
         obtain ⟨v0, v1, v2, rfl⟩ := len_k3 hl
         have e1 := (show v1 = .bool true from hf _ (memI 1 rfl) (by kernel_rfl))
         subst e1
         show Option.isSome _ = true
         kernel_rfl
        ·intro vs gq stq hl hf
         obtain ⟨v0, v1, v2, rfl⟩ := len_k3 hl
         have e2 := (show v2 = .bool false from hf _ (memI 2 rfl) (by kernel_rfl))
         subst e2
         show Option.isSome _ = true
         kernel_rfl
        ·intro vs gq stq hl hf
         obtain ⟨v0, v1, v2, rfl⟩ := len_k3 hl
         have e2 := (show v2 = .bool false from hf _ (memI 2 rfl) (by kernel_rfl))
         subst e2
         show Option.isSome _ = true
         kernel_rfl
        ·intro vs gq stq hl hf
         obtain ⟨v0, v1, v2, rfl⟩ := len_k3 hl
         have e2 := (show v2 = .bool false from hf _ (memI 2 rfl) (by kernel_rfl))
         subst e2
         show Option.isSome _ = true
         kernel_rfl
        ·intro vs gq stq hl hf
         obtain ⟨v0, v1, v2, rfl⟩ := len_k3 hl
         have e2 := (show v2 = .bool false from hf _ (memI 2 rfl) (by kernel_rfl))
         subst e2
         show Option.isSome _ = true
         kernel_rfl
        ·intro vs gq stq hl hf
         obtain ⟨v0, v1, v2, rfl⟩ := len_k3 hl
         have e2 := (show v2 = .bool false from hf _ (memI 2 rfl) (by kernel_rfl))
         subst e2
         show Option.isSome _ = true
         kernel_rfl
        ·intro vs gq stq hl hf
         obtain ⟨v0, v1, v2, rfl⟩ := len_k3 hl
         have e2 := (show v2 = .bool false from hf _ (memI 2 rfl) (by kernel_rfl))
         subst e2
         show Option.isSome _ = true
         kernel_rfl
        ·intro vs gq stq hl hf
         obtain ⟨v0, v1, v2, rfl⟩ := len_k3 hl
         have e2 := (show v2 = .bool false from hf _ (memI 2 rfl) (by kernel_rfl))
         subst e2
         show Option.isSome _ = true
         kernel_rfl
        ·intro vs gq stq hl hf
         obtain ⟨v0, v1, v2, rfl⟩ := len_k3 hl
         have e2 := (show v2 = .bool false from hf _ (memI 2 rfl) (by kernel_rfl))
         subst e2
         show Option.isSome _ = true
         kernel_rfl
        ·intro vs gq stq hl hf
         obtain ⟨v0, v1, v2, rfl⟩ := len_k3 hl
         have e2 := (show v2 = .bool false from hf _ (memI 2 rfl) (by kernel_rfl))
         subst e2
         show Option.isSome _ = true
         kernel_rfl
        ·intro vs gq stq hl hf
         obtain ⟨v0, v1, v2, rfl⟩ := len_k3 hl
         have e2 := (show v2 = .bool false from hf _ (memI 2 rfl) (by kernel_rfl))
         subst e2
         show Option.isSome _ = true
         kernel_rfl
        ·intro vs gq stq hl hf
         obtain ⟨v0, v1, v2, rfl⟩ := len_k3 hl
         have e2 := (show v2 = .bool false from hf _ (memI 2 rfl) (by kernel_rfl))
         subst e2
         show Option.isSome _ = true
         kernel_rfl
        ·intro vs gq stq hl hf
         obtain ⟨v0, v1, v2, rfl⟩ := len_k3 hl
         have e2 := (show v2 = .bool false from hf _ (memI 2 rfl) (by kernel_rfl))
         subst e2
         show Option.isSome _ = true
         kernel_rfl
        ·intro vs gq stq hl hf
         obtain ⟨v0, v1, v2, rfl⟩ := len_k3 hl
         have e2 := (show v2 = .bool false from hf _ (memI 2 rfl) (by kernel_rfl))
         subst e2
         show Option.isSome _ = true
         kernel_rfl
        ·intro vs gq stq hl hf
         obtain ⟨v0, v1, v2, rfl⟩ := len_k3 hl
         have e2 := (show v2 = .bool false from hf _ (memI 2 rfl) (by kernel_rfl))
         subst e2
         show Option.isSome _ = true
         kernel_rfl
        ·intro vs gq stq hl hf
         obtain ⟨v0, v1, v2, rfl⟩ := len_k3 hl
         have e2 := (show v2 = .bool false from hf _ (memI 2 rfl) (by kernel_rfl))
         subst e2
         show Option.isSome _ = true
         kernel_rfl
        ·intro vs gq stq hl hf
         obtain ⟨v0, v1, v2, rfl⟩ := len_k3 hl
         have e2 := (show v2 = .bool false from hf _ (memI 2 rfl) (by kernel_rfl))
         subst e2
         show Option.isSome _ = true
         kernel_rfl
       ·intro j hj
        have hq : j = 0 ∨ j = 1 ∨ j = 2 := by have h : j < 3 := hj; omega
        rcases hq with rfl | rfl | rfl
        ·intro vs gq stq hl hf
         obtain ⟨v0, v1, v2, rfl⟩ := len_k3 hl
         refine WP.stl 1 ?_
         refine WP.dn (Shown.ok (v := .bool q16) (by kernel_rfl) (Step.refl _ _) ?_)
         exact ⟨congrArg Value.bool h82, tv, tv, tv⟩
        ·intro vs gq stq hl hf
         obtain ⟨v0, v1, v2, rfl⟩ := len_k3 hl
         have e0 := (show v0 = .bool true from hf _ (memI 0 rfl) (by kernel_rfl))
         subst e0
         refine WP.stl 1 ?_
         refine WP.dn (Shown.ok (v := .bool (x33 == x51)) (by kernel_rfl) (Step.refl _ _) ?_)
         exact ⟨tv, congrArg Value.bool h83, tv, tv⟩
        ·intro vs gq stq hl hf
         obtain ⟨v0, v1, v2, rfl⟩ := len_k3 hl
         have e1 := (show v1 = .bool true from hf _ (memI 1 rfl) (by kernel_rfl))
         subst e1
         refine WP.stl 1 ?_
         refine WP.dn (Shown.ok (v := .bool (x34 == x41)) (by kernel_rfl) (Step.refl _ _) ?_)
         exact ⟨tv, tv, congrArg Value.bool h84, tv⟩
       intro vs g94 st94 hl hf
       obtain ⟨v0, v1, v2, rfl⟩ := len_k3 hl
       have e2 := (show v2 = .bool false from hf _ (memI 2 rfl) (by kernel_rfl))
       subst e2
       replace tot := tot.trans st94.toNo.pure
       refine NX.post ?_
       exact ⟨false, ⟨by kernel_rfl, by kernel_rfl⟩, tot, hs⟩
      replace hs := of_if_f hs h83
      refine CP.drawL (by kernel_rfl) [1, 6] N.baizelaw34_PunishFinds_1 [⟨some 0, [], [0], fun l g => l.getD 0 undef = .bool true⟩, ⟨some 1, [], [1], fun l g => l.getD 0 undef = .bool false⟩] [[], []] [] [0] [2, 3, 4, 5, 7, 8, 9, 10, 11, 12, 13, 14, 15, 16, 17, 18, 19, 20, 21, 22, 23, 24, 25, 26, 27] (by kernel_rfl) (by simp) (by simp) ⟨fun _ _ _ _ st h0 hl hj e0 => e0, fun _ _ _ _ st h0 hl hj e1 => e1, tv⟩ ⟨tv, tv, tv⟩ (by kernel_rfl) (fun vs => by kernel_rfl) ?_ ?_ ?_
      ·intro j hj
       have hq : j = 0 ∨ j = 1 ∨ j = 2 ∨ j = 3 ∨ j = 4 ∨ j = 5 ∨ j = 6 ∨ j = 7 ∨ j = 8 ∨ j = 9 ∨ j = 10 ∨ j = 11 ∨ j = 12 ∨ j = 13 ∨ j = 14 ∨ j = 15 ∨ j = 16 ∨ j = 17 ∨ j = 18 ∨ j = 19 ∨ j = 20 ∨ j = 21 ∨ j = 22 ∨ j = 23 ∨ j = 24 := by have h : j < 25 := hj; omega
       rcases hq with rfl | rfl | rfl | rfl | rfl | rfl | rfl | rfl | rfl | rfl | rfl | rfl | rfl | rfl | rfl | rfl | rfl | rfl | rfl | rfl | rfl | rfl | rfl | rfl | rfl
       ·intro vs gq stq hl hf
        obtain ⟨v0, v1, rfl⟩ := len_k2 hl
        have e0 := (show v0 = .bool true from hf _ (memI 0 rfl) (by kernel_rfl))
        subst e0
        show Option.isSome _ = true
        kernel_rfl
       ·intro vs gq stq hl hf
        obtain ⟨v0, v1, rfl⟩ := len_k2 hl
        have e0 := (show v0 = .bool true from hf _ (memI 0 rfl) (by kernel_rfl))
        subst e0
        show Option.isSome _ = true
        kernel_rfl
       ·intro vs gq stq hl hf
        obtain ⟨v0, v1, rfl⟩ := len_k2 hl
        have e0 := (show v0 = .bool true from hf _ (memI 0 rfl) (by kernel_rfl))
        subst e0
        show Option.isSome _ = true
        kernel_rfl
       ·intro vs gq stq hl hf
        obtain ⟨v0, v1, rfl⟩ := len_k2 hl
        have e0 := (show v0 = .bool true from hf _ (memI 0 rfl) (by kernel_rfl))
        subst e0
        show Option.isSome _ = true
        kernel_rfl
       ·intro vs gq stq hl hf
        obtain ⟨v0, v1, rfl⟩ := len_k2 hl
        have e1 := (show v1 = .bool false from hf _ (memI 1 rfl) (by kernel_rfl))
        subst e1
        show Option.isSome _ = true
        kernel_rfl
       ·intro vs gq stq hl hf
        obtain ⟨v0, v1, rfl⟩ := len_k2 hl
        have e1 := (show v1 = .bool false from hf _ (memI 1 rfl) (by kernel_rfl))
        subst e1
        show Option.isSome _ = true
        kernel_rfl
       ·intro vs gq stq hl hf
        obtain ⟨v0, v1, rfl⟩ := len_k2 hl
        have e1 := (show v1 = .bool false from hf _ (memI 1 rfl) (by kernel_rfl))
        subst e1
        show Option.isSome _ = true
        kernel_rfl
       ·intro vs gq stq hl hf
        obtain ⟨v0, v1, rfl⟩ := len_k2 hl
        have e1 := (show v1 = .bool false from hf _ (memI 1 rfl) (by kernel_rfl))
        subst e1
        show Option.isSome _ = true
        kernel_rfl
       ·intro vs gq stq hl hf
        obtain ⟨v0, v1, rfl⟩ := len_k2 hl
        have e1 := (show v1 = .bool false from hf _ (memI 1 rfl) (by kernel_rfl))
        subst e1
        show Option.isSome _ = true
        kernel_rfl
       ·intro vs gq stq hl hf
        obtain ⟨v0, v1, rfl⟩ := len_k2 hl
        have e1 := (show v1 = .bool false from hf _ (memI 1 rfl) (by kernel_rfl))
        subst e1
        show Option.isSome _ = true
        kernel_rfl
       ·intro vs gq stq hl hf
        obtain ⟨v0, v1, rfl⟩ := len_k2 hl
        have e1 := (show v1 = .bool false from hf _ (memI 1 rfl) (by kernel_rfl))
        subst e1
        show Option.isSome _ = true
        kernel_rfl
       ·intro vs gq stq hl hf
        obtain ⟨v0, v1, rfl⟩ := len_k2 hl
        have e1 := (show v1 = .bool false from hf _ (memI 1 rfl) (by kernel_rfl))
        subst e1
        show Option.isSome _ = true
        kernel_rfl
       ·intro vs gq stq hl hf
        obtain ⟨v0, v1, rfl⟩ := len_k2 hl
        have e1 := (show v1 = .bool false from hf _ (memI 1 rfl) (by kernel_rfl))
        subst e1
        show Option.isSome _ = true
        kernel_rfl
       ·intro vs gq stq hl hf
        obtain ⟨v0, v1, rfl⟩ := len_k2 hl
        have e1 := (show v1 = .bool false from hf _ (memI 1 rfl) (by kernel_rfl))
        subst e1
        show Option.isSome _ = true
        kernel_rfl
       ·intro vs gq stq hl hf
        obtain ⟨v0, v1, rfl⟩ := len_k2 hl
        have e1 := (show v1 = .bool false from hf _ (memI 1 rfl) (by kernel_rfl))
        subst e1
        show Option.isSome _ = true
        kernel_rfl
       ·intro vs gq stq hl hf
        obtain ⟨v0, v1, rfl⟩ := len_k2 hl
        have e1 := (show v1 = .bool false from hf _ (memI 1 rfl) (by kernel_rfl))
        subst e1
        show Option.isSome _ = true
        kernel_rfl
       ·intro vs gq stq hl hf
        obtain ⟨v0, v1, rfl⟩ := len_k2 hl
        have e1 := (show v1 = .bool false from hf _ (memI 1 rfl) (by kernel_rfl))
        subst e1
        show Option.isSome _ = true
        kernel_rfl
       ·intro vs gq stq hl hf
        obtain ⟨v0, v1, rfl⟩ := len_k2 hl
        have e1 := (show v1 = .bool false from hf _ (memI 1 rfl) (by kernel_rfl))
        subst e1
        show Option.isSome _ = true
        kernel_rfl
       ·intro vs gq stq hl hf
        obtain ⟨v0, v1, rfl⟩ := len_k2 hl
        have e1 := (show v1 = .bool false from hf _ (memI 1 rfl) (by kernel_rfl))
        subst e1
        show Option.isSome _ = true
        kernel_rfl
       ·intro vs gq stq hl hf
        obtain ⟨v0, v1, rfl⟩ := len_k2 hl
        have e1 := (show v1 = .bool false from hf _ (memI 1 rfl) (by kernel_rfl))
        subst e1
        show Option.isSome _ = true
        kernel_rfl
       ·intro vs gq stq hl hf
        obtain ⟨v0, v1, rfl⟩ := len_k2 hl
        have e1 := (show v1 = .bool false from hf _ (memI 1 rfl) (by kernel_rfl))
        subst e1
        show Option.isSome _ = true
        kernel_rfl
       ·intro vs gq stq hl hf
        obtain ⟨v0, v1, rfl⟩ := len_k2 hl
        have e1 := (show v1 = .bool false from hf _ (memI 1 rfl) (by kernel_rfl))
        subst e1
        show Option.isSome _ = true
        kernel_rfl
       ·intro vs gq stq hl hf
        obtain ⟨v0, v1, rfl⟩ := len_k2 hl
        have e1 := (show v1 = .bool false from hf _ (memI 1 rfl) (by kernel_rfl))
        subst e1
        show Option.isSome _ = true
        kernel_rfl
       ·intro vs gq stq hl hf
        obtain ⟨v0, v1, rfl⟩ := len_k2 hl
        have e1 := (show v1 = .bool false from hf _ (memI 1 rfl) (by kernel_rfl))
        subst e1
        show Option.isSome _ = true
        kernel_rfl
       ·intro vs gq stq hl hf
        obtain ⟨v0, v1, rfl⟩ := len_k2 hl
        have e1 := (show v1 = .bool false from hf _ (memI 1 rfl) (by kernel_rfl))
        subst e1
        show Option.isSome _ = true
        kernel_rfl
      ·intro j hj
       have hq : j = 0 ∨ j = 1 := by have h : j < 2 := hj; omega
       rcases hq with rfl | rfl
       ·intro vs gq stq hl hf
        obtain ⟨v0, v1, rfl⟩ := len_k2 hl
        refine WP.stl 1 ?_
        refine WP.dn (Shown.ok (v := .bool q16) (by kernel_rfl) (Step.refl _ _) ?_)
        exact ⟨congrArg Value.bool h82, tv, tv⟩
       ·intro vs gq stq hl hf
        obtain ⟨v0, v1, rfl⟩ := len_k2 hl
        have e0 := (show v0 = .bool true from hf _ (memI 0 rfl) (by kernel_rfl))
        subst e0
        refine WP.stl 1 ?_
        refine WP.dn (Shown.ok (v := .bool (x33 == x51)) (by kernel_rfl) (Step.refl _ _) ?_)
        exact ⟨tv, congrArg Value.bool h83, tv⟩
      intro vs g95 st95 hl hf
      obtain ⟨v0, v1, rfl⟩ := len_k2 hl
      have e1 := (show v1 = .bool false from hf _ (memI 1 rfl) (by kernel_rfl))
      subst e1
      replace tot := tot.trans st95.toNo.pure
      refine NX.post ?_
      exact ⟨false, ⟨by kernel_rfl, by kernel_rfl⟩, tot, hs⟩
     replace hs := of_if_f hs h82
     refine CP.drawL (by kernel_rfl) [1] N.baizelaw34_PunishFinds_1 [⟨some 0, [], [0], fun l g => l.getD 0 undef = .bool false⟩] [[]] [] [0] [2, 3, 4, 5, 6, 7, 8, 9, 10, 11, 12, 13, 14, 15, 16, 17, 18, 19, 20, 21, 22, 23, 24, 25, 26, 27] (by kernel_rfl) (by simp) (by simp) ⟨fun _ _ _ _ st h0 hl hj e0 => e0, tv⟩ ⟨tv, tv⟩ (by kernel_rfl) (fun vs => by kernel_rfl) ?_ ?_ ?_
     ·intro j hj
      have hq : j = 0 ∨ j = 1 ∨ j = 2 ∨ j = 3 ∨ j = 4 ∨ j = 5 ∨ j = 6 ∨ j = 7 ∨ j = 8 ∨ j = 9 ∨ j = 10 ∨ j = 11 ∨ j = 12 ∨ j = 13 ∨ j = 14 ∨ j = 15 ∨ j = 16 ∨ j = 17 ∨ j = 18 ∨ j = 19 ∨ j = 20 ∨ j = 21 ∨ j = 22 ∨ j = 23 ∨ j = 24 ∨ j = 25 := by have h : j < 26 := hj; omega
      rcases hq with rfl | rfl | rfl | rfl | rfl | rfl | rfl | rfl | rfl | rfl | rfl | rfl | rfl | rfl | rfl | rfl | rfl | rfl | rfl | rfl | rfl | rfl | rfl | rfl | rfl | rfl
      ·intro vs gq stq hl hf
       obtain ⟨v0, rfl⟩ := len_k1 hl
       have e0 := (show v0 = .bool false from hf _ (memI 0 rfl) (by kernel_rfl))
       subst e0
       show Option.isSome _ = true
       kernel_rfl
      ·intro vs gq stq hl hf
       obtain ⟨v0, rfl⟩ := len_k1 hl
       have e0 := (show v0 = .bool false from hf _ (memI 0 rfl) (by kernel_rfl))
       subst e0
       show Option.isSome _ = true
       kernel_rfl
      ·intro vs gq stq hl hf
       obtain ⟨v0, rfl⟩ := len_k1 hl
       have e0 := (show v0 = .bool false from hf _ (memI 0 rfl) (by kernel_rfl))
       subst e0
       show Option.isSome _ = true
       kernel_rfl
      ·intro vs gq stq hl hf
       obtain ⟨v0, rfl⟩ := len_k1 hl
       have e0 := (show v0 = .bool false from hf _ (memI 0 rfl) (by kernel_rfl))
       subst e0
       show Option.isSome _ = true
       kernel_rfl
      ·intro vs gq stq hl hf
       obtain ⟨v0, rfl⟩ := len_k1 hl
       have e0 := (show v0 = .bool false from hf _ (memI 0 rfl) (by kernel_rfl))
       subst e0
       show Option.isSome _ = true
       kernel_rfl
      ·intro vs gq stq hl hf
       obtain ⟨v0, rfl⟩ := len_k1 hl
       have e0 := (show v0 = .bool false from hf _ (memI 0 rfl) (by kernel_rfl))
       subst e0
       show Option.isSome _ = true
       kernel_rfl
      ·intro vs gq stq hl hf
       obtain ⟨v0, rfl⟩ := len_k1 hl
       have e0 := (show v0 = .bool false from hf _ (memI 0 rfl) (by kernel_rfl))
       subst e0
       show Option.isSome _ = true
       kernel_rfl
      ·intro vs gq stq hl hf
       obtain ⟨v0, rfl⟩ := len_k1 hl
       have e0 := (show v0 = .bool false from hf _ (memI 0 rfl) (by kernel_rfl))
       subst e0
       show Option.isSome _ = true
       kernel_rfl
      ·intro vs gq stq hl hf
       obtain ⟨v0, rfl⟩ := len_k1 hl
       have e0 := (show v0 = .bool false from hf _ (memI 0 rfl) (by kernel_rfl))
       subst e0
       show Option.isSome _ = true
       kernel_rfl
      ·intro vs gq stq hl hf
       obtain ⟨v0, rfl⟩ := len_k1 hl
       have e0 := (show v0 = .bool false from hf _ (memI 0 rfl) (by kernel_rfl))
       subst e0
       show Option.isSome _ = true
       kernel_rfl
      ·intro vs gq stq hl hf
       obtain ⟨v0, rfl⟩ := len_k1 hl
       have e0 := (show v0 = .bool false from hf _ (memI 0 rfl) (by kernel_rfl))
       subst e0
       show Option.isSome _ = true
       kernel_rfl
      ·intro vs gq stq hl hf
       obtain ⟨v0, rfl⟩ := len_k1 hl
       have e0 := (show v0 = .bool false from hf _ (memI 0 rfl) (by kernel_rfl))
       subst e0
       show Option.isSome _ = true
       kernel_rfl
      ·intro vs gq stq hl hf
       obtain ⟨v0, rfl⟩ := len_k1 hl
       have e0 := (show v0 = .bool false from hf _ (memI 0 rfl) (by kernel_rfl))
       subst e0
       show Option.isSome _ = true
       kernel_rfl
      ·intro vs gq stq hl hf
       obtain ⟨v0, rfl⟩ := len_k1 hl
       have e0 := (show v0 = .bool false from hf _ (memI 0 rfl) (by kernel_rfl))
       subst e0
       show Option.isSome _ = true
       kernel_rfl
      ·intro vs gq stq hl hf
       obtain ⟨v0, rfl⟩ := len_k1 hl
       have e0 := (show v0 = .bool false from hf _ (memI 0 rfl) (by kernel_rfl))
       subst e0
       show Option.isSome _ = true
       kernel_rfl
      ·intro vs gq stq hl hf
       obtain ⟨v0, rfl⟩ := len_k1 hl
       have e0 := (show v0 = .bool false from hf _ (memI 0 rfl) (by kernel_rfl))
       subst e0
       show Option.isSome _ = true
       kernel_rfl
      ·intro vs gq stq hl hf
       obtain ⟨v0, rfl⟩ := len_k1 hl
       have e0 := (show v0 = .bool false from hf _ (memI 0 rfl) (by kernel_rfl))
       subst e0
       show Option.isSome _ = true
       kernel_rfl
      ·intro vs gq stq hl hf
       obtain ⟨v0, rfl⟩ := len_k1 hl
       have e0 := (show v0 = .bool false from hf _ (memI 0 rfl) (by kernel_rfl))
       subst e0
       show Option.isSome _ = true
       kernel_rfl
      ·intro vs gq stq hl hf
       obtain ⟨v0, rfl⟩ := len_k1 hl
       have e0 := (show v0 = .bool false from hf _ (memI 0 rfl) (by kernel_rfl))
       subst e0
       show Option.isSome _ = true
       kernel_rfl
      ·intro vs gq stq hl hf
       obtain ⟨v0, rfl⟩ := len_k1 hl
       have e0 := (show v0 = .bool false from hf _ (memI 0 rfl) (by kernel_rfl))
       subst e0
       show Option.isSome _ = true
       kernel_rfl
      ·intro vs gq stq hl hf
       obtain ⟨v0, rfl⟩ := len_k1 hl
       have e0 := (show v0 = .bool false from hf _ (memI 0 rfl) (by kernel_rfl))
       subst e0
       show Option.isSome _ = true
       kernel_rfl
      ·intro vs gq stq hl hf
       obtain ⟨v0, rfl⟩ := len_k1 hl
       have e0 := (show v0 = .bool false from hf _ (memI 0 rfl) (by kernel_rfl))
       subst e0
       show Option.isSome _ = true
       kernel_rfl
      ·intro vs gq stq hl hf
       obtain ⟨v0, rfl⟩ := len_k1 hl
       have e0 := (show v0 = .bool false from hf _ (memI 0 rfl) (by kernel_rfl))
       subst e0
       show Option.isSome _ = true
       kernel_rfl
      ·intro vs gq stq hl hf
       obtain ⟨v0, rfl⟩ := len_k1 hl
       have e0 := (show v0 = .bool false from hf _ (memI 0 rfl) (by kernel_rfl))
       subst e0
       show Option.isSome _ = true
       kernel_rfl
      ·intro vs gq stq hl hf
       obtain ⟨v0, rfl⟩ := len_k1 hl
       have e0 := (show v0 = .bool false from hf _ (memI 0 rfl) (by kernel_rfl))
       subst e0
       show Option.isSome _ = true
       kernel_rfl
      ·intro vs gq stq hl hf
       obtain ⟨v0, rfl⟩ := len_k1 hl
       have e0 := (show v0 = .bool false from hf _ (memI 0 rfl) (by kernel_rfl))
       subst e0
       show Option.isSome _ = true
       kernel_rfl
     ·intro j hj
      have hq : j = 0 := by have h : j < 1 := hj; omega
      rcases hq with rfl
      ·intro vs gq stq hl hf
       obtain ⟨v0, rfl⟩ := len_k1 hl
       refine WP.stl 1 ?_
       refine WP.dn (Shown.ok (v := .bool q16) (by kernel_rfl) (Step.refl _ _) ?_)
       exact ⟨congrArg Value.bool h82, tv⟩
     intro vs g96 st96 hl hf
     obtain ⟨v0, rfl⟩ := len_k1 hl
     have e0 := (show v0 = .bool false from hf _ (memI 0 rfl) (by kernel_rfl))
     subst e0
     replace tot := tot.trans st96.toNo.pure
     refine NX.post ?_
     exact ⟨false, ⟨by kernel_rfl, by kernel_rfl⟩, tot, hs⟩
    clear tot hs hB1 hR9 hB2 hR10 hB23 hB24
    rintro tm g ⟨q25, hF, tot, hs⟩
    clear ds
    obtain ⟨ds, rfl⟩ := hF.open
    clear hF
    unfold F.baizelaw34_PunishFinds.c2 at hs
    refine CP.ret ?_
    refine NX.block_r ?_
    refine NX.then_r ?_
    refine NX.then_r ?_
    refine NX.block_r ?_
    refine NX.block_r ?_
    refine NX.then_r ?_
    refine NX.then_r ?_
    refine NX.block_r ?_
    refine NX.then_r ?_
    replace hs := Option.some.inj hs
    obtain rfl := hs
    exact NX.fin (v := .bool q25) (Res.still (by kernel_rfl)) tot htL rfl
   replace hs := of_if_f hs h78
   refine CP.skip ?_
   refine NX.block_n ?_
   refine NX.then_n ?_
   refine CP.region ?_
   refine WP.stl 2 ?_
   refine WP.dn ?_
   refine NX.post ?_
   exact ⟨(IntKind.i64.wrap (x51 + 1)), ⟨by kernel_rfl, by kernel_rfl⟩, tot, hB1, hR9, hB2, hR10, hB23, hB24, hs⟩
  replace hs := of_if_f hs h77
  refine CP.exit ?_
  refine NX.then_e ?_
  refine NX.then_e ?_
  refine NX.block_s ?_
  refine NX.block_n ?_
  refine NX.then_n ?_
  refine CP.region ?_
  refine WP.stl 2 ?_
  refine WP.dn ?_
  refine NX.post ?_
  exact ⟨(IntKind.i64.wrap (x41 + 1)), ⟨by kernel_rfl, by kernel_rfl⟩, tot, hB1, hR9, hB2, hR10, hB23, hB24, hs⟩
 replace hs := of_if_f hs h66
 refine CP.exit ?_
 refine NX.then_e ?_
 refine NX.then_e ?_
 refine NX.block_s ?_
 refine NX.then_n ?_
 refine CP.cut (fun tm g => ∃ (q26 : Bool), Fr 118 [(6, .bool q26)] tm ∧ Step (fun l => NoM l ∨ t ≤ l) g0 g ∧ (F.baizelaw34_PunishFinds.c3 q26) = some o1) ?_ ?_
 ·refine CP.region ?_
  refine WP.stl 3 ?_
  refine WP.guard 110 (b := (!q16)) (by kernel_rfl) (fun h87 => ?_) (fun h87 => ?_)
  ·replace hs := of_if_t hs h87
   refine WP.stl 4 ?_
   refine WP.guard 114 (b := (x33 == 0)) (by kernel_rfl) (fun h88 => ?_) (fun h88 => ?_)
   ·replace hs := of_if_t hs h88
    refine WP.stl 4 ?_
    refine WP.dn ?_
    refine NX.post ?_
    exact ⟨(x34 == 0), ⟨by kernel_rfl, by kernel_rfl⟩, tot, hs⟩
   replace hs := of_if_f hs h88
   refine WP.stl 4 ?_
   refine WP.dn ?_
   refine NX.post ?_
   exact ⟨false, ⟨by kernel_rfl, by kernel_rfl⟩, tot, hs⟩
  replace hs := of_if_f hs h87
  refine WP.stl 8 ?_
  refine WP.dn ?_
  refine NX.post ?_
  exact ⟨false, ⟨by kernel_rfl, by kernel_rfl⟩, tot, hs⟩
 clear tot hs
 rintro tm g ⟨q26, hF, tot, hs⟩
 clear ds
 obtain ⟨ds, rfl⟩ := hF.open
 clear hF
 unfold F.baizelaw34_PunishFinds.c3 at hs
 refine CP.ret ?_
 replace hs := Option.some.inj hs
 obtain rfl := hs
 exact NX.fin (v := .bool q26) (Res.still (by kernel_rfl)) tot htL rfl
end Go.Proofs.Ytlnockimfgfcgaa
