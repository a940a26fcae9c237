/-
  Walks, written by program: each Go function computes the plain function of its name, in whatever world its arguments' facts hold.
-/
import Derived.Test.YtlnockimfgfcgaaWPh3
namespace Go.Proofs.Ytlnockimfgfcgaa
open Go.RowKit Go.Lab
attribute [local irreducible] WP CP NX wpList Code.wp Calls
set_option maxRecDepth 100000
set_option maxHeartbeats 4000000
set_option linter.unusedVariables false

def F.baizelaw34_PunishHonest.c2 (nx1 : (List S_notary_entry) → (List (S_notary_entry × Int)) → (List S_punish_Thing) → (List S_punish_Thing) → Int → Option (Bool)) (x15 : Int) (l61 : List S_notary_entry) (w5 : (List (S_notary_entry × Int))) (l62 : List S_punish_Thing) (l63 : List S_punish_Thing) : Option (Bool) := (nx1 l61 w5 l62 l63 (IntKind.i64.wrap (x15 + 1)))
def N.baizelaw34_PunishHonest_0 : List (List Nat) := [[], [0], [0, 1], [0, 1, 2], [0, 1, 2, 3], [], [5], [5, 6], [], [8], [], [10], [10, 11], [10, 11, 12], [], [14], [0, 1, 2, 3, 4, 5, 6, 7, 8, 9, 10, 11, 12, 13, 14, 15], [0, 1, 2, 3, 4, 5, 6, 7, 8, 9, 10, 11, 12, 13, 14, 15, 16], [], [0, 1, 2, 3, 4, 5, 6, 7, 8, 9, 10, 11, 12, 13, 14, 15, 16, 17, 18]]
def F.baizelaw34_PunishHonest.c3 (nx2 : Int → (Arr Int 8) → Int → (List Int) → (Arr Int 8) → Int → (Arr Int 8) → (List Int) → (List Int) → Int → Option (Bool)) (x90 : Int) (x103 : Int) (d153 : Arr Int 8) (x104 : Int) (l84 : List Int) (d154 : Arr Int 8) (x105 : Int) (d155 : Arr Int 8) (l85 : List Int) (l86 : List Int) : Option (Bool) := (nx2 x103 d153 x104 l84 d154 x105 d155 l85 l86 (IntKind.i64.wrap (x90 + 1)))
def F.baizelaw34_PunishHonest.c4 (nx2 : Int → (Arr Int 8) → Int → (List Int) → (Arr Int 8) → Int → (Arr Int 8) → (List Int) → (List Int) → Int → Option (Bool)) (l14 : List S_punish_Thing) (x87 : Int) (d131 : Arr Int 8) (x88 : Int) (l74 : List Int) (d132 : Arr Int 8) (x89 : Int) (d133 : Arr Int 8) (l75 : List Int) (l76 : List Int) (x90 : Int) (q16 : Bool) : Option (Bool) := (if q16 = true then (F.baizelaw34_PunishHonest.c3 nx2 x90 ((getI l14 x90).f1) ((getI l14 x90).f2) ((getI l14 x90).f3) ((getI l14 x90).f4) ((getI l14 x90).f5) ((getI l14 x90).f6) ((getI l14 x90).f7) ((getI l14 x90).f8) ((getI l14 x90).f9)) else (F.baizelaw34_PunishHonest.c3 nx2 x90 x87 d131 x88 l74 d132 x89 d133 l75 l76))
def N.baizelaw34_PunishHonest_1 : List (List Nat) := [[], [], [1], [0, 1, 2], [], [0, 1, 2, 3, 4], [0, 1, 2, 3], [0, 1, 2, 3, 6], [0, 1, 2, 3, 6, 7], [0, 1, 2, 3, 4, 5, 6, 7, 8], [0, 1, 2, 3, 4, 5, 6, 7, 8, 9], [0, 1, 2, 3, 4, 5, 6, 7, 8, 9, 10], [0, 1, 2, 3, 4, 5, 6, 7, 8, 9, 10], [0, 1, 2, 3, 4, 5, 6, 7, 8, 9, 10, 11], [0, 1, 2, 3, 4, 5, 6, 7, 8, 9, 10, 11, 13]]
def F.baizelaw34_PunishHonest.l2 (nx1 : (List S_notary_entry) → (List (S_notary_entry × Int)) → (List S_punish_Thing) → (List S_punish_Thing) → Int → Option (Bool)) (x1 : Int) (l12 : List S_notary_entry) (w2 : (List (S_notary_entry × Int))) (l13 : List S_punish_Thing) (l14 : List S_punish_Thing) (x15 : Int) : Nat → Int → (Arr Int 8) → Int → (List Int) → (Arr Int 8) → Int → (Arr Int 8) → (List Int) → (List Int) → Int → Option (Bool)
 | 0, _, _, _, _, _, _, _, _, _, _ => none
 | k + 1, x87, d131, x88, l74, d132, x89, d133, l75, l76, x90 => (if decide (x90 < (l14.length : Int)) = true then (if (0 : Int) ≤ x90 ∧ x90 < (l14.length : Int) then ((F.punish_Thing_Place ((getI l14 x90).f1) ((getI l14 x90).f2) ((getI l14 x90).f3) ((getI l14 x90).f4) ((getI l14 x90).f5) ((getI l14 x90).f6) ((getI l14 x90).f7) ((getI l14 x90).f8) ((getI l14 x90).f9)).bind fun (d156, x106, d157) => ((F.punish_Thing_Place x87 d131 x88 l74 d132 x89 d133 l75 l76).bind fun (d158, x107, d159) => (if (((getI l14 x90).f1) == x87) = true then (if (d156.1 == d158.1) = true then (if (x106 == x107) = true then (F.baizelaw34_PunishHonest.c4 (F.baizelaw34_PunishHonest.l2 nx1 x1 l12 w2 l13 l14 x15 k) l14 x87 d131 x88 l74 d132 x89 d133 l75 l76 x90 (d157.1 == d159.1)) else (F.baizelaw34_PunishHonest.c4 (F.baizelaw34_PunishHonest.l2 nx1 x1 l12 w2 l13 l14 x15 k) l14 x87 d131 x88 l74 d132 x89 d133 l75 l76 x90 false)) else (F.baizelaw34_PunishHonest.c4 (F.baizelaw34_PunishHonest.l2 nx1 x1 l12 w2 l13 l14 x15 k) l14 x87 d131 x88 l74 d132 x89 d133 l75 l76 x90 false)) else (F.baizelaw34_PunishHonest.c4 (F.baizelaw34_PunishHonest.l2 nx1 x1 l12 w2 l13 l14 x15 k) l14 x87 d131 x88 l74 d132 x89 d133 l75 l76 x90 false)))) else none) else ((F.baizelaw34_key x1).bind fun d160 => ((F.notary_Book_Signer l12 w2 d160).bind fun d161 => ((F.punish_Thing_Digest x87 d131 x88 l74 d132 x89 d133 l75 l76).bind fun d162 => ((F.notary_bookSigner_Sign l12 w2 d161 d162).bind fun (l87, x108, d163, d164) => (if l14.length + ([(⟨x87, d131, x88, l74, d132, x89, d133, l75, l87⟩ : S_punish_Thing)]).length ≤ 1172812402961 then (if l13.length + ([(⟨x87, d131, x88, l74, d132, x89, d133, l75, l87⟩ : S_punish_Thing)]).length ≤ 1172812402961 then (F.baizelaw34_PunishHonest.c2 nx1 x15 d164 d163 (l13 ++ [(⟨x87, d131, x88, l74, d132, x89, d133, l75, l87⟩ : S_punish_Thing)]) (l14 ++ [(⟨x87, d131, x88, l74, d132, x89, d133, l75, l87⟩ : S_punish_Thing)])) else none) else none))))))
def F.baizelaw34_PunishHonest.l3 (x1 : Int) (l12 : List S_notary_entry) (w2 : (List (S_notary_entry × Int))) (l13 : List S_punish_Thing) : Nat → Int → Option (Bool)
 | 0, _ => none
 | k + 1, x111 => (if decide (x111 < (([false, true]).length : Int)) = true then (if (0 : Int) ≤ x111 ∧ x111 < (([false, true]).length : Int) then ((F.baizelaw34_table (getI ([false, true]) x111)).bind fun d169 => ((F.baizelaw34_key x1).bind fun d170 => ((F.punish_Find l12 w2 d169 d170 l13).bind fun (x115, x116, q19) => (if q19 = true then (some false) else (F.baizelaw34_PunishHonest.l3 x1 l12 w2 l13 k (IntKind.i64.wrap (x111 + 1))))))) else none) else (some true))
def F.baizelaw34_PunishHonest.l1 (l1 : List S_baizelaw34_Deed) (x1 : Int) : Nat → (List S_notary_entry) → (List (S_notary_entry × Int)) → (List S_punish_Thing) → (List S_punish_Thing) → Int → Option (Bool)
 | 0, _, _, _, _, _ => none
 | k + 1, l12, w2, l13, l14, x15 => (if decide (x15 < (l1.length : Int)) = true then (if (0 : Int) ≤ x15 ∧ x15 < (l1.length : Int) then ((F.baizelaw34_key ((getI l1 x15).f1)).bind fun d108 => ((F.baizelaw34_key x1).bind fun d109 => (if (!(d108.1 == d109.1)) = true then ((F.baizelaw34_Deed_sign ((getI l1 x15).f1) ((getI l1 x15).f2) ((getI l1 x15).f3) ((getI l1 x15).f4) ((getI l1 x15).f5) ((getI l1 x15).f6) ((getI l1 x15).f7) l12 w2).bind fun (x75, d110, x76, l64, d111, x77, d112, l65, l66, d113, d114) => (if l13.length + ([(⟨x75, d110, x76, l64, d111, x77, d112, l65, l66⟩ : S_punish_Thing)]).length ≤ 1172812402961 then (F.baizelaw34_PunishHonest.c2 (F.baizelaw34_PunishHonest.l1 l1 x1 k) x15 d114 d113 (l13 ++ [(⟨x75, d110, x76, l64, d111, x77, d112, l65, l66⟩ : S_punish_Thing)]) l14) else none)) else ((F.baizelaw34_table ((getI l1 x15).f5)).bind fun d115 => ((F.baizelaw34_Of (IntKind.i64.wrap ((IntKind.u64.wrap ((getI l1 x15).f2)).tmod 2)) d115 ((getI l1 x15).f3) (⟨[(((getI l1 x15).f6).tmod 2), 0, 0, 0, 0, 0, 0, 0], rfl⟩ : Arr Int 8) ((getI l1 x15).f4) ([]) false).bind fun (x78, d116, x79, l67, d117, x80, d118, l68, l69) => (F.baizelaw34_PunishHonest.l2 (F.baizelaw34_PunishHonest.l1 l1 x1 k) x1 l12 w2 l13 l14 x15 fuel x78 d116 x79 l67 d117 x80 d118 l68 l69 0)))))) else none) else (F.baizelaw34_PunishHonest.l3 x1 l12 w2 l13 fuel 0))
def F.baizelaw34_PunishHonest.c1 (l1 : List S_baizelaw34_Deed) (x1 : Int) (q3 : Bool) : Option (Bool) := (if q3 = true then ((F.baizelaw34_known).bind fun q4 => (some q4)) else ((F.notary_NewBook).bind fun d1 => (F.baizelaw34_PunishHonest.l1 l1 x1 fuel ([]) d1 ([]) ([]) 0)))
def F.baizelaw34_PunishHonest (l1 : List S_baizelaw34_Deed) (x1 : Int) : Option (Bool) := ((F.baizelaw34_known).bind fun q20 => (if (!q20) = true then (F.baizelaw34_PunishHonest.c1 l1 x1 true) else ((F.baizelaw34_few l1).bind fun q21 => (F.baizelaw34_PunishHonest.c1 l1 x1 (!q21)))))
theorem P.baizelaw34_PunishHonest (g0 : GW) (l1 : List S_baizelaw34_Deed) (x1 : Int) (a1 : Option Addr) (n1 : Nat) (c1 : Nat) (hR1 : RdS k_S_baizelaw34_Deed g0 78 a1 n1 c1 l1) (o1 : Bool) (hs : F.baizelaw34_PunishHonest l1 x1 = some o1) :
  Calls Try.prog 8 #[.slice a1 n1 c1, .int .i64 x1] g0.w (Ret NoM g0 fun v g => v = .bool o1) := by
 refine calls_of (args := [.slice a1 n1 c1, .int .i64 x1]) Try.func8 rfl (0) ?_
 intro t ht htL
 refine ⟨_, rfl, ?_⟩
 refine CP.refr 154 [(0, .slice a1 n1 c1), (1, .int .i64 x1)] (by kernel_rfl) (by kernel_rfl) ?_
 intro ds
 have tot : Step (fun l => NoM l ∨ t ≤ l) g0 g0 := Step.refl _ _
 unfold F.baizelaw34_PunishHonest at hs
 refine CP.seqR ?_
 refine WP.stl 1 ?_
 refine WP.dn ?_
 refine NX.then_n ?_
 refine CP.seq ?_
 refine CP.cut (fun tm g => ∃ (q3 : Bool), Fr 154 [(0, .slice a1 n1 c1), (1, .int .i64 x1), (30, .bool q3)] tm ∧ Step (fun l => NoM l ∨ t ≤ l) g0 g ∧ RdS k_S_baizelaw34_Deed g 78 a1 n1 c1 l1 ∧ (F.baizelaw34_PunishHonest.c1 l1 x1 q3) = some o1) ?_ ?_
 ·refine CP.region ?_
  replace hs := Option.bind_eq_some_iff.1 hs
  obtain ⟨q20, hk94, hs⟩ := hs
  have hcal94 := P.baizelaw34_known g0 q20 hk94
  refine WP.callC hcal94 (by kernel_rfl) ?_
  rintro _ g275 st275 rfl
  replace hR1 := hR1.mono st275 (fun x => x)
  replace tot := tot.trans st275.pure
  refine WP.stl 2 ?_
  refine WP.guard 26 (b := (!q20)) (by kernel_rfl) (fun h67 => ?_) (fun h67 => ?_)
  ·replace hs := of_if_t hs h67
   refine WP.stl 4 ?_
   refine WP.dn ?_
   refine NX.post ?_
   exact ⟨true, ⟨by kernel_rfl, by kernel_rfl⟩, tot, hR1, hs⟩
  replace hs := of_if_f hs h67
  refine WP.stl 1 ?_
  replace hs := Option.bind_eq_some_iff.1 hs
  obtain ⟨q21, hk95, hs⟩ := hs
  have hcal95 := P.baizelaw34_few g275 l1 a1 n1 c1 hR1 q21 hk95
  refine WP.callC hcal95 (by kernel_rfl) ?_
  rintro _ g276 st276 rfl
  replace hR1 := hR1.mono st276 (fun x => x)
  replace tot := tot.trans st276.pure
  refine WP.stl 2 ?_
  refine WP.dn ?_
  refine NX.post ?_
  exact ⟨(!q21), ⟨by kernel_rfl, by kernel_rfl⟩, tot, hR1, hs⟩
 clear tot hs hR1
 rintro tm g ⟨q3, hF, tot, hR1, hs⟩
 clear ds
 obtain ⟨ds, rfl⟩ := hF.open
 clear hF
 unfold F.baizelaw34_PunishHonest.c1 at hs
 refine CP.cond (b := q3) (by kernel_rfl) (fun h2 => ?_) (fun h2 => ?_)
 ·replace hs := of_if_t hs h2
  refine CP.seqR ?_
  replace hs := Option.bind_eq_some_iff.1 hs
  obtain ⟨q4, hk3, hs⟩ := hs
  have hcal3 := P.baizelaw34_known g q4 hk3
  refine WP.callC hcal3 (by kernel_rfl) ?_
  rintro _ g3 st3 rfl
  replace hR1 := hR1.mono st3 (fun x => x)
  replace tot := tot.trans st3.pure
  refine WP.stl 1 ?_
  refine WP.dn ?_
  refine NX.then_n ?_
  refine CP.ret ?_
  refine NX.then_r ?_
  replace hs := Option.some.inj hs
  obtain rfl := hs
  exact NX.fin (v := .bool q4) (Res.still (by kernel_rfl)) tot htL rfl
 replace hs := of_if_f hs h2
 refine CP.skip ?_
 refine NX.then_n ?_
 refine CP.seqR ?_
 replace hs := Option.bind_eq_some_iff.1 hs
 obtain ⟨d1, hk4, hs⟩ := hs
 have hcal4 := P.notary_NewBook g (t + 1) (t + 2) d1 hk4
 refine WP.callC hcal4 (by kernel_rfl) ?_
 rintro _ g4 st4 ⟨b1, b2, rfl, hB1, hB2⟩
 replace hR1 := hR1.mono st4 (fun x => x)
 replace tot := tot.trans st4.pure
 refine WP.stl 1 ?_
 refine WP.dn ?_
 refine NX.then_n ?_
 refine CP.seq ?_
 refine CP.seqR ?_
 refine WP.stl 2 ?_
 refine WP.dn ?_
 refine NX.then_n ?_
 refine CP.cond_f (by kernel_rfl) ?_
 refine CP.skip ?_
 refine NX.then_n ?_
 refine CP.seqR ?_
 refine WP.stl 1 ?_
 refine WP.dn ?_
 refine NX.then_n ?_
 refine CP.seqR ?_
 refine WP.stl 1 ?_
 refine WP.dn ?_
 refine NX.then_n ?_
 refine CP.seq ?_
 refine CP.seqR ?_
 refine WP.stl 1 ?_
 refine WP.len (a := a1) (cp := c1) hR1.len (by kernel_rfl) ?_
 refine WP.stl 1 ?_
 refine WP.dn ?_
 refine NX.then_n ?_
 refine CP.block ?_
 generalize fuel = k1 at hs
 refine CP.loop (fun k1 tm g => ∃ (l12 : List S_notary_entry) (a22 : Option Addr) (n15 : Nat) (c18 : Nat) (w2 : (List (S_notary_entry × Int))) (l13 : List S_punish_Thing) (a23 : Option Addr) (n16 : Nat) (c19 : Nat) (l14 : List S_punish_Thing) (a24 : Option Addr) (n17 : Nat) (c20 : Nat) (x15 : Int), Fr 154 [(1, .int .i64 x1), (5, .pointer (some ⟨b1, 0, none⟩)), (6, .slice a23 n16 c19), (7, .slice a24 n17 c20), (35, .slice a1 n1 c1), (36, .int .i64 (l1.length : Int)), (37, .int .i64 x15)] tm ∧ Step (fun l => NoM l ∨ t ≤ l) g0 g ∧ Box g (t + 1) b1 121 [[.slice a22 n15 c18], [.map (some b2)]] [1, 1] ∧ OwnS k_S_notary_entry g (t + 4) 126 a22 n15 c18 l12 ∧ MapB g (t + 2) b2 kv_S_notary_entry (Value.int .i64) w2 ∧ OwnS k_S_punish_Thing g (t + 7) 43 a23 n16 c19 l13 ∧ OwnS k_S_punish_Thing g (t + 12) 43 a24 n17 c20 l14 ∧ RdS k_S_baizelaw34_Deed g 78 a1 n1 c1 l1 ∧ F.baizelaw34_PunishHonest.l1 l1 x1 k1 l12 w2 l13 l14 x15 = some o1) k1 ?_ ?_ ?_
 ·exact ⟨[], none, 0, 0, d1, [], none, 0, 0, [], none, 0, 0, 0, ⟨by kernel_rfl, by kernel_rfl⟩, tot, hB1, (OwnS.nil _ _ _ _), hB2, (OwnS.nil _ _ _ _), (OwnS.nil _ _ _ _), hR1, hs⟩
 ·rintro tm g ⟨l12, a22, n15, c18, w2, l13, a23, n16, c19, l14, a24, n17, c20, x15, hF, tot, hB1, hR22, hB2, hR23, hR24, hR1, hs⟩
  exact absurd hs (by simp [F.baizelaw34_PunishHonest.l1])
 clear tot hs hB1 hB2 hR1
 rintro k1 tm g ⟨l12, a22, n15, c18, w2, l13, a23, n16, c19, l14, a24, n17, c20, x15, hF, tot, hB1, hR22, hB2, hR23, hR24, hR1, hs⟩
 clear ds
 obtain ⟨ds, rfl⟩ := hF.open
 clear hF
 unfold F.baizelaw34_PunishHonest.l1 at hs
 refine CP.seqR ?_
 refine WP.stl 1 ?_
 refine WP.dn ?_
 refine NX.then_n ?_
 refine CP.seq ?_
 refine CP.cond (b := decide (x15 < (l1.length : Int))) (by kernel_rfl) (fun h26 => ?_) (fun h26 => ?_)
 ·replace hs := of_if_t hs h26
  refine CP.skip ?_
  refine NX.then_n ?_
  refine CP.cut (fun tm g => ∃ (l61 : List S_notary_entry) (a112 : Option Addr) (n84 : Nat) (c97 : Nat) (w5 : (List (S_notary_entry × Int))) (l62 : List S_punish_Thing) (a113 : Option Addr) (n85 : Nat) (c98 : Nat) (l63 : List S_punish_Thing) (a114 : Option Addr) (n86 : Nat) (c99 : Nat), Fr 154 [(1, .int .i64 x1), (5, .pointer (some ⟨b1, 0, none⟩)), (6, .slice a113 n85 c98), (7, .slice a114 n86 c99), (35, .slice a1 n1 c1), (36, .int .i64 (l1.length : Int)), (37, .int .i64 x15)] tm ∧ Step (fun l => NoM l ∨ t ≤ l) g0 g ∧ Box g (t + 1) b1 121 [[.slice a112 n84 c97], [.map (some b2)]] [1, 1] ∧ OwnS k_S_notary_entry g (t + 4) 126 a112 n84 c97 l61 ∧ MapB g (t + 2) b2 kv_S_notary_entry (Value.int .i64) w5 ∧ OwnS k_S_punish_Thing g (t + 7) 43 a113 n85 c98 l62 ∧ OwnS k_S_punish_Thing g (t + 12) 43 a114 n86 c99 l63 ∧ RdS k_S_baizelaw34_Deed g 78 a1 n1 c1 l1 ∧ (F.baizelaw34_PunishHonest.c2 (F.baizelaw34_PunishHonest.l1 l1 x1 k1) x15 l61 w5 l62 l63) = some o1) ?_ ?_
  ·refine CP.block ?_
   refine CP.seqR ?_
   by_cases hc27 : (0 : Int) ≤ x15 ∧ x15 < (l1.length : Int)
   case neg => rw [if_neg hc27] at hs; cases hs
   replace hs := of_if_p hs hc27
   obtain ⟨b40, u12, ha12⟩ := hR1.at hc27
   refine WP.indexA (t := 74) (e := 78) (sz := 7) (cap := c1) (k := .i64) (i := x15) hR1.len ha12 (by kernel_rfl) (by kernel_rfl) hc27 ?_
   obtain ⟨cs12, hcR12, hcV12⟩ := hR1.src.view (getI_some hc27) ha12
   obtain ⟨a115, n87, c100, hcR12, hR115⟩ := k_S_baizelaw34_Deed.opn hcR12
   refine WP.loadV [[.int .i64 ((getI l1 x15).f1)], [.int .i64 ((getI l1 x15).f2)], [.int .i64 ((getI l1 x15).f3)], [.slice a115 n87 c100], [.bool ((getI l1 x15).f5)], [.int .u8 ((getI l1 x15).f6)], [.bool ((getI l1 x15).f7)]] [1, 1, 1, 1, 1, 1, 1] hcV12 hcR12 rfl (f := 0) (ty := 78) (agg := true) (size := 7) (rs := [[.int .i64 ((getI l1 x15).f1)], [.int .i64 ((getI l1 x15).f2)], [.int .i64 ((getI l1 x15).f3)], [.slice a115 n87 c100], [.bool ((getI l1 x15).f5)], [.int .u8 ((getI l1 x15).f6)], [.bool ((getI l1 x15).f7)]]) (v := AG [[.int .i64 ((getI l1 x15).f1)], [.int .i64 ((getI l1 x15).f2)], [.int .i64 ((getI l1 x15).f3)], [.slice a115 n87 c100], [.bool ((getI l1 x15).f5)], [.int .u8 ((getI l1 x15).f6)], [.bool ((getI l1 x15).f7)]]) (by kernel_rfl) (by kernel_rfl) (by kernel_rfl) (by kernel_rfl) ?_
   refine WP.alloc (T := 78) (t + 57) [[.int .i64 0], [.int .i64 0], [.int .i64 0], [.slice none 0 0], [.bool false], [.int .u8 0], [.bool false]] [1, 1, 1, 1, 1, 1, 1] (by kernel_rfl) rfl ?_
   intro g163 b41 st163 hB80
   replace hB1 := hB1.mono st163 (fun x => x)
   replace hR22 := hR22.mono st163 (fun x => x) (fun x => x)
   replace hB2 := hB2.mono st163 (fun x => x)
   replace hR23 := hR23.mono st163 (fun x => x) (fun x => x)
   replace hR24 := hR24.mono st163 (fun x => x) (fun x => x)
   replace hR1 := hR1.mono st163 (fun x => x)
   replace hR115 := hR115.mono st163 (fun x => x)
   replace tot := tot.trans st163.pure
   refine WP.storeB (ty := 78) (off := 0) (v := AG [[.int .i64 ((getI l1 x15).f1)], [.int .i64 ((getI l1 x15).f2)], [.int .i64 ((getI l1 x15).f3)], [.slice a115 n87 c100], [.bool ((getI l1 x15).f5)], [.int .u8 ((getI l1 x15).f6)], [.bool ((getI l1 x15).f7)]]) hB80 [[.int .i64 ((getI l1 x15).f1)], [.int .i64 ((getI l1 x15).f2)], [.int .i64 ((getI l1 x15).f3)], [.slice a115 n87 c100], [.bool ((getI l1 x15).f5)], [.int .u8 ((getI l1 x15).f6)], [.bool ((getI l1 x15).f7)]] [1, 1, 1, 1, 1, 1, 1] (by kernel_rfl) (by kernel_rfl) rfl (by kernel_rfl) [[.int .i64 ((getI l1 x15).f1)], [.int .i64 ((getI l1 x15).f2)], [.int .i64 ((getI l1 x15).f3)], [.slice a115 n87 c100], [.bool ((getI l1 x15).f5)], [.int .u8 ((getI l1 x15).f6)], [.bool ((getI l1 x15).f7)]] (by kernel_rfl) (.one rfl (.one rfl (.one rfl (.one rfl (.one rfl (.one rfl (.one rfl .nil))))))) ?_
   intro g164 st164 hB81
   replace hB1 := hB1.mono st164 (WL.no1 (by omega))
   replace hR22 := hR22.mono st164 (WL.no1 (by omega)) (WL.no1 (by omega))
   replace hB2 := hB2.mono st164 (WL.no1 (by omega))
   replace hR23 := hR23.mono st164 (WL.no1 (by omega)) (WL.no1 (by omega))
   replace hR24 := hR24.mono st164 (WL.no1 (by omega)) (WL.no1 (by omega))
   replace hR1 := hR1.mono st164 (WL.no1 (by omega))
   replace hR115 := hR115.mono st164 (WL.no1 (by omega))
   replace tot := tot.trans (st164.up1 (.inr (by omega)))
   clear hB80
   have hB80 := hB81
   clear hB81
   refine WP.dn ?_
   refine NX.then_n ?_
   refine CP.seq ?_
   refine CP.seqR ?_
   refine WP.stl 1 ?_
   refine WP.loadB (v := .int .i64 ((getI l1 x15).f1)) hB80 (by kernel_rfl) (by kernel_rfl) ?_
   replace hs := Option.bind_eq_some_iff.1 hs
   obtain ⟨d108, hk60, hs⟩ := hs
   have hcal60 := P.baizelaw34_key g164 ((getI l1 x15).f1) d108 hk60
   refine WP.callC hcal60 (by kernel_rfl) ?_
   rintro _ g165 st165 rfl
   replace hB1 := hB1.mono st165 (fun x => x)
   replace hR22 := hR22.mono st165 (fun x => x) (fun x => x)
   replace hB2 := hB2.mono st165 (fun x => x)
   replace hR23 := hR23.mono st165 (fun x => x) (fun x => x)
   replace hR24 := hR24.mono st165 (fun x => x) (fun x => x)
   replace hR1 := hR1.mono st165 (fun x => x)
   replace hB80 := hB80.mono st165 (fun x => x)
   replace hR115 := hR115.mono st165 (fun x => x)
   replace tot := tot.trans st165.pure
   refine WP.stl 1 ?_
   replace hs := Option.bind_eq_some_iff.1 hs
   obtain ⟨d109, hk61, hs⟩ := hs
   have hcal61 := P.baizelaw34_key g165 x1 d109 hk61
   refine WP.callC hcal61 (by kernel_rfl) ?_
   rintro _ g166 st166 rfl
   replace hB1 := hB1.mono st166 (fun x => x)
   replace hR22 := hR22.mono st166 (fun x => x) (fun x => x)
   replace hB2 := hB2.mono st166 (fun x => x)
   replace hR23 := hR23.mono st166 (fun x => x) (fun x => x)
   replace hR24 := hR24.mono st166 (fun x => x) (fun x => x)
   replace hR1 := hR1.mono st166 (fun x => x)
   replace hB80 := hB80.mono st166 (fun x => x)
   replace hR115 := hR115.mono st166 (fun x => x)
   replace tot := tot.trans st166.pure
   refine WP.neV (by kernel_rfl) (by kernel_rfl) (EqV.arr (d := 9998) (t := 37) (e := 5) (m := 8) (k := .u8) (x := d108) (y := d109) (by kernel_rfl) (by kernel_rfl)) ?_
   refine WP.dn ?_
   refine NX.then_n ?_
   refine CP.cond (b := (!(d108.1 == d109.1))) (by kernel_rfl) (fun h38 => ?_) (fun h38 => ?_)
   ·replace hs := of_if_t hs h38
    refine CP.seqR ?_
    refine WP.stl 1 ?_
    refine WP.loadB (v := AG [[.int .i64 ((getI l1 x15).f1)], [.int .i64 ((getI l1 x15).f2)], [.int .i64 ((getI l1 x15).f3)], [.slice a115 n87 c100], [.bool ((getI l1 x15).f5)], [.int .u8 ((getI l1 x15).f6)], [.bool ((getI l1 x15).f7)]]) hB80 (by kernel_rfl) (by kernel_rfl) ?_
    refine WP.stl 1 ?_
    replace hs := Option.bind_eq_some_iff.1 hs
    obtain ⟨⟨x75, d110, x76, l64, d111, x77, d112, l65, l66, d113, d114⟩, hk62, hs⟩ := hs
    dsimp only at hs
    have hcal62 := P.baizelaw34_Deed_sign g166 (t + 1) (t + 4) (t + 2) (t + 58) ((getI l1 x15).f1) ((getI l1 x15).f2) ((getI l1 x15).f3) ((getI l1 x15).f4) ((getI l1 x15).f5) ((getI l1 x15).f6) ((getI l1 x15).f7) l12 w2 a115 n87 c100 a22 n15 c18 b1 b2 hR115 hR22 hB2 hB1 (by omega) (by omega) (by omega) (by omega) (by omega) (by omega) x75 d110 x76 l64 d111 x77 d112 l65 l66 d113 d114 hk62
    refine WP.callC hcal62 (by kernel_rfl) ?_
    rintro _ g167 st167 ⟨a116, n88, c101, a117, n89, c102, a118, n90, c103, a119, n91, c104, rfl, hR116, hR117, hR118, hB82, hR119, hB83⟩
    replace hR23 := hR23.mono st167 (WL.no3 (by omega) (by omega) (by omega)) (WL.no3 (by omega) (by omega) (by omega))
    replace hR24 := hR24.mono st167 (WL.no3 (by omega) (by omega) (by omega)) (WL.no3 (by omega) (by omega) (by omega))
    replace hR1 := hR1.mono st167 (WL.no3 (by omega) (by omega) (by omega))
    replace hB80 := hB80.mono st167 (WL.no3 (by omega) (by omega) (by omega))
    replace hR115 := hR115.mono st167 (WL.no3 (by omega) (by omega) (by omega))
    replace tot := tot.trans (st167.up3 (.inr (by omega)) (.inr (by omega)) (.inr (by omega)))
    clear hB2
    have hB2 := hB82
    clear hB82
    clear hB1
    have hB1 := hB83
    clear hB83
    obtain ⟨g169, hw9, st169, hnew⟩ := hR118.freeze (by omega)
    refine WP.regw hw9 ?_
    replace hB1 := hB1.mono st169 (WL.no1 (by omega))
    replace hR119 := hR119.mono st169 (WL.no1 (by omega)) (WL.no1 (by omega))
    replace hB2 := hB2.mono st169 (WL.no1 (by omega))
    replace hR23 := hR23.mono st169 (WL.no1 (by omega)) (WL.no1 (by omega))
    replace hR24 := hR24.mono st169 (WL.no1 (by omega)) (WL.no1 (by omega))
    replace hR1 := hR1.mono st169 (WL.no1 (by omega))
    replace hB80 := hB80.mono st169 (WL.no1 (by omega))
    replace hR115 := hR115.mono st169 (WL.no1 (by omega))
    replace hR116 := hR116.mono st169 (WL.no1 (by omega))
    replace hR117 := hR117.mono st169 (WL.no1 (by omega))
    replace tot := tot.trans (st169.up1 (.inr (by omega)))
    clear hR118
    have hR118 := hnew
    clear hnew
    refine WP.mkSl (kd := k_S_punish_Thing) (t := 76) (e := 43) (bytes := 120) (t + 59) [AG [[.int .i64 x75], encA .u8 d110, [.int .i64 x76], [.slice a116 n88 c101], encA .u8 d111, [.int .i64 x77], encA .u8 d112, [.slice a117 n89 c102], [.slice a118 n90 c103]]] [(⟨x75, d110, x76, l64, d111, x77, d112, l65, l66⟩ : S_punish_Thing)] (by kernel_rfl) (by kernel_rfl) (Nat.le_of_ble_eq_true rfl) (Nat.le_of_ble_eq_true rfl) (all_cons (Kd.len k_S_punish_Thing (g := g169) (x := (⟨x75, d110, x76, l64, d111, x77, d112, l65, l66⟩ : S_punish_Thing)) (k_S_punish_Thing.mk rfl rfl rfl ⟨_, _, _, rfl, hR116⟩ rfl rfl rfl ⟨_, _, _, rfl, hR117⟩ ⟨_, _, _, rfl, hR118⟩)) all_nil) (⟨_, _, rfl, (k_S_punish_Thing.mk rfl rfl rfl ⟨_, _, _, rfl, hR116⟩ rfl rfl rfl ⟨_, _, _, rfl, hR117⟩ ⟨_, _, _, rfl, hR118⟩), rfl⟩) rfl ?_
    intro g168 a120 st168 hR120
    replace hB1 := hB1.mono st168 (fun x => x)
    replace hR119 := hR119.mono st168 (fun x => x) (fun x => x)
    replace hB2 := hB2.mono st168 (fun x => x)
    replace hR23 := hR23.mono st168 (fun x => x) (fun x => x)
    replace hR24 := hR24.mono st168 (fun x => x) (fun x => x)
    replace hR1 := hR1.mono st168 (fun x => x)
    replace hB80 := hB80.mono st168 (fun x => x)
    replace hR115 := hR115.mono st168 (fun x => x)
    replace hR116 := hR116.mono st168 (fun x => x)
    replace hR117 := hR117.mono st168 (fun x => x)
    replace hR118 := hR118.mono st168 (fun x => x)
    replace tot := tot.trans st168.pure
    by_cases hc28 : l13.length + ([(⟨x75, d110, x76, l64, d111, x77, d112, l65, l66⟩ : S_punish_Thing)]).length ≤ 1172812402961
    case neg => rw [if_neg hc28] at hs; cases hs
    replace hs := of_if_p hs hc28
    refine WP.append (kd := k_S_punish_Thing) (t := 76) (e := 43) (bytes := 120) (a2 := a120) (c2 := 1) hR23 hR120.src hR120.len (by kernel_rfl) (by kernel_rfl) (by omega) (by simp only [maxLen]; omega) (by omega) ?_
    intro g170 a121 c105 st170 hR121
    replace hB1 := hB1.mono st170 (WL.no1 (by omega))
    replace hR119 := hR119.mono st170 (WL.no1 (by omega)) (WL.no1 (by omega))
    replace hB2 := hB2.mono st170 (WL.no1 (by omega))
    replace hR24 := hR24.mono st170 (WL.no1 (by omega)) (WL.no1 (by omega))
    replace hR1 := hR1.mono st170 (WL.no1 (by omega))
    replace hB80 := hB80.mono st170 (WL.no1 (by omega))
    replace hR115 := hR115.mono st170 (WL.no1 (by omega))
    replace hR116 := hR116.mono st170 (WL.no1 (by omega))
    replace hR117 := hR117.mono st170 (WL.no1 (by omega))
    replace hR118 := hR118.mono st170 (WL.no1 (by omega))
    replace hR120 := hR120.mono st170 (WL.no1 (by omega)) (WL.no1 (by omega))
    replace tot := tot.trans (st170.up1 (.inr (by omega)))
    refine WP.stl 1 ?_
    refine WP.dn ?_
    refine NX.then_n ?_
    refine CP.refr 154 [(1, .int .i64 x1), (5, .pointer (some ⟨b1, 0, none⟩)), (6, .slice a121 (n16 + 1) c105), (7, .slice a24 n17 c20), (35, .slice a1 n1 c1), (36, .int .i64 (l1.length : Int)), (37, .int .i64 x15)] (by kernel_rfl) (by kernel_rfl) ?_
    clear ds
    intro ds
    refine CP.exit ?_
    refine NX.then_e ?_
    refine NX.block_s ?_
    refine NX.post ?_
    exact ⟨d114, a119, n91, c104, d113, (l13 ++ [(⟨x75, d110, x76, l64, d111, x77, d112, l65, l66⟩ : S_punish_Thing)]), a121, (n16 + 1), c105, l14, a24, n17, c20, ⟨by kernel_rfl, by kernel_rfl⟩, tot, hB1, hR119, hB2, hR121, hR24, hR1, hs⟩
   replace hs := of_if_f hs h38
   refine CP.skip ?_
   refine NX.then_n ?_
   refine CP.seq ?_
   replace hs := Option.bind_eq_some_iff.1 hs
   obtain ⟨d115, hk63, hs⟩ := hs
   replace hs := Option.bind_eq_some_iff.1 hs
   obtain ⟨⟨x78, d116, x79, l67, d117, x80, d118, l68, l69⟩, hk64, hs⟩ := hs
   dsimp only at hs
   refine CP.drawL (by kernel_rfl) [1, 6, 7, 9, 11, 15, 16, 17, 18, 19] N.baizelaw34_PunishHonest_0 [⟨none, [], [], fun l g => Box g (t + 57) b41 78 [[.int .i64 ((getI l1 x15).f1)], [.int .i64 ((getI l1 x15).f2)], [.int .i64 ((getI l1 x15).f3)], [.slice a115 n87 c100], [.bool ((getI l1 x15).f5)], [.int .u8 ((getI l1 x15).f6)], [.bool ((getI l1 x15).f7)]] [1, 1, 1, 1, 1, 1, 1]⟩, ⟨none, [], [], fun l g => RdS (Kd.int .u8) g 5 a115 n87 c100 ((getI l1 x15).f4)⟩, ⟨some 0, [], [0], fun l g => l.getD 0 undef = .int .i64 ((getI l1 x15).f2)⟩, ⟨some 1, [], [1], fun l g => l.getD 0 undef = .bool ((getI l1 x15).f5)⟩, ⟨some 2, [], [2], fun l g => l.getD 0 undef = AG [encA .u8 d115]⟩, ⟨some 3, [], [3], fun l g => l.getD 0 undef = .int .i64 ((getI l1 x15).f3)⟩, ⟨some 4, [], [4], fun l g => l.getD 0 undef = .int .u8 ((getI l1 x15).f6)⟩, ⟨some 5, [], [5], fun l g => l.getD 0 undef = .slice a115 n87 c100⟩, ⟨some 6, [], [6], fun l g => l.getD 0 undef = AG [[.int .i64 (IntKind.i64.wrap ((IntKind.u64.wrap ((getI l1 x15).f2)).tmod 2))], encA .u8 d115, [.int .i64 ((getI l1 x15).f3)], encA .u8 (⟨[(((getI l1 x15).f6).tmod 2), 0, 0, 0, 0, 0, 0, 0], rfl⟩ : Arr Int 8), [.slice a115 n87 c100], [.slice none 0 0], [.bool false]]⟩, ⟨some 7, [], [7], fun l g => ∃ (a122 : Option Addr) (c106 : Nat) (a123 : Option Addr) (c107 : Nat) (a124 : Option Addr) (c108 : Nat), l.getD 0 undef = AG [[.int .i64 x78], encA .u8 d116, [.int .i64 x79], [.slice a122 l67.length c106], encA .u8 d117, [.int .i64 x80], encA .u8 d118, [.slice a123 l68.length c107], [.slice a124 l69.length c108]] ∧ RdS (Kd.int .u8) g 5 a122 l67.length c106 l67 ∧ RdS (Kd.int .u8) g 5 a123 l68.length c107 l68 ∧ RdS (Kd.int .u8) g 5 a124 l69.length c108 l69⟩, ⟨some 8, [0], [8], fun l g => ∃ (b42 : Nat), l.getD 0 undef = .pointer (some ⟨b42, 0, none⟩) ∧ Box g (t + 60) b42 43 [[.int .i64 0], encA .u8 (zA 8), [.int .i64 0], [.slice none 0 0], encA .u8 (zA 8), [.int .i64 0], encA .u8 (zA 8), [.slice none 0 0], [.slice none 0 0]] [1, 8, 1, 1, 8, 1, 8, 1, 1]⟩, ⟨some 9, [0], [8, 7], fun l g => ∃ (b42 : Nat) (a122 : Option Addr) (c106 : Nat) (a123 : Option Addr) (c107 : Nat) (a124 : Option Addr) (c108 : Nat), l.getD 0 undef = .pointer (some ⟨b42, 0, none⟩) ∧ l.getD 1 undef = AG [[.int .i64 x78], encA .u8 d116, [.int .i64 x79], [.slice a122 l67.length c106], encA .u8 d117, [.int .i64 x80], encA .u8 d118, [.slice a123 l68.length c107], [.slice a124 l69.length c108]] ∧ Box g (t + 60) b42 43 [[.int .i64 x78], encA .u8 d116, [.int .i64 x79], [.slice a122 l67.length c106], encA .u8 d117, [.int .i64 x80], encA .u8 d118, [.slice a123 l68.length c107], [.slice a124 l69.length c108]] [1, 8, 1, 1, 8, 1, 8, 1, 1] ∧ RdS (Kd.int .u8) g 5 a122 l67.length c106 l67 ∧ RdS (Kd.int .u8) g 5 a123 l68.length c107 l68 ∧ RdS (Kd.int .u8) g 5 a124 l69.length c108 l69⟩] [[], [], [], [], [], [], [], [], [], [0]] [(t + 60)] [0, 5, 8, 10, 14] [2, 3, 4, 12, 13] (by kernel_rfl) (by simp <;> omega) (by simp) ⟨fun _ _ _ _ st h0 hl hj hB80 => (hB80.mono st (fun h => absurd (hl _ h) (by simp <;> omega))), fun _ _ _ _ st h0 hl hj hR115 => (RdS.mono (e := 5) hR115 st h0), fun _ _ _ _ st h0 hl hj e0 => e0, fun _ _ _ _ st h0 hl hj e1 => e1, fun _ _ _ _ st h0 hl hj e2 => e2, fun _ _ _ _ st h0 hl hj e3 => e3, fun _ _ _ _ st h0 hl hj e4 => e4, fun _ _ _ _ st h0 hl hj e5 => e5, fun _ _ _ _ st h0 hl hj e6 => e6, fun _ _ _ _ st h0 hl hj ⟨a122, c106, a123, c107, a124, c108, e7, hR122, hR123, hR124⟩ => ⟨a122, c106, a123, c107, a124, c108, e7, (RdS.mono (e := 5) hR122 st h0), (RdS.mono (e := 5) hR123 st h0), (RdS.mono (e := 5) hR124 st h0)⟩, fun _ _ _ _ st h0 hl hj ⟨b42, e8, hB84⟩ => ⟨b42, e8, (hB84.mono st (hj 0 (by simp) _ rfl))⟩, fun _ _ _ _ st h0 hl hj ⟨b42, a122, c106, a123, c107, a124, c108, e8, e7, hB84, hR122, hR123, hR124⟩ => ⟨b42, a122, c106, a123, c107, a124, c108, e8, e7, (hB84.mono st (hj 0 (by simp) _ rfl)), (RdS.mono (e := 5) hR122 st h0), (RdS.mono (e := 5) hR123 st h0), (RdS.mono (e := 5) hR124 st h0)⟩, tv⟩ ⟨hB80, hR115, tv, tv, tv, tv, tv, tv, tv, tv, tv, tv, tv⟩ (by kernel_rfl) (fun vs => by kernel_rfl) ?_ ?_ ?_
   ·intro j hj
    have hq : j = 0 ∨ j = 1 ∨ j = 2 ∨ j = 3 ∨ j = 4 := by have h : j < 5 := hj; omega
    rcases hq with rfl | rfl | rfl | rfl | rfl
    ·intro vs gq stq hl hf
     obtain ⟨v0, v1, v2, v3, v4, v5, v6, v7, v8, v9, rfl⟩ := len_k10 hl
     have e0 := (show v0 = .int .i64 ((getI l1 x15).f2) from hf _ (memI 2 rfl) (by kernel_rfl))
     subst e0
     show Option.isSome _ = true
     kernel_rfl
    ·intro vs gq stq hl hf
     obtain ⟨v0, v1, v2, v3, v4, v5, v6, v7, v8, v9, rfl⟩ := len_k10 hl
     have e0 := (show v0 = .int .i64 ((getI l1 x15).f2) from hf _ (memI 2 rfl) (by kernel_rfl))
     subst e0
     show Option.isSome _ = true
     kernel_rfl
    ·intro vs gq stq hl hf
     obtain ⟨v0, v1, v2, v3, v4, v5, v6, v7, v8, v9, rfl⟩ := len_k10 hl
     have e0 := (show v0 = .int .i64 ((getI l1 x15).f2) from hf _ (memI 2 rfl) (by kernel_rfl))
     subst e0
     show Option.isSome _ = true
     kernel_rfl
    ·intro vs gq stq hl hf
     obtain ⟨v0, v1, v2, v3, v4, v5, v6, v7, v8, v9, rfl⟩ := len_k10 hl
     have e4 := (show v4 = .int .u8 ((getI l1 x15).f6) from hf _ (memI 6 rfl) (by kernel_rfl))
     subst e4
     show Option.isSome _ = true
     kernel_rfl
    ·intro vs gq stq hl hf
     obtain ⟨v0, v1, v2, v3, v4, v5, v6, v7, v8, v9, rfl⟩ := len_k10 hl
     have e4 := (show v4 = .int .u8 ((getI l1 x15).f6) from hf _ (memI 6 rfl) (by kernel_rfl))
     subst e4
     show Option.isSome _ = true
     kernel_rfl
   ·intro j hj
    have hq : j = 0 ∨ j = 1 ∨ j = 2 ∨ j = 3 ∨ j = 4 ∨ j = 5 ∨ j = 6 ∨ j = 7 ∨ j = 8 ∨ j = 9 := by have h : j < 10 := hj; omega
    rcases hq with rfl | rfl | rfl | rfl | rfl | rfl | rfl | rfl | rfl | rfl
    ·intro vs gq stq hl hf
     obtain ⟨v0, v1, v2, v3, v4, v5, v6, v7, v8, v9, rfl⟩ := len_k10 hl
     have hB80 := (show Box gq (t + 57) b41 78 [[.int .i64 ((getI l1 x15).f1)], [.int .i64 ((getI l1 x15).f2)], [.int .i64 ((getI l1 x15).f3)], [.slice a115 n87 c100], [.bool ((getI l1 x15).f5)], [.int .u8 ((getI l1 x15).f6)], [.bool ((getI l1 x15).f7)]] [1, 1, 1, 1, 1, 1, 1] from hf _ (memI 0 rfl) (by kernel_rfl))
     refine WP.loadB (v := .int .i64 ((getI l1 x15).f2)) hB80 (by kernel_rfl) (by kernel_rfl) ?_
     refine WP.dn (Shown.ok (v := .int .i64 ((getI l1 x15).f2)) (by kernel_rfl) (Step.refl _ _) ?_)
     exact ⟨tv, tv, rfl, tv, tv, tv, tv, tv, tv, tv, tv, tv, tv⟩
    ·intro vs gq stq hl hf
     obtain ⟨v0, v1, v2, v3, v4, v5, v6, v7, v8, v9, rfl⟩ := len_k10 hl
     have hB80 := (show Box gq (t + 57) b41 78 [[.int .i64 ((getI l1 x15).f1)], [.int .i64 ((getI l1 x15).f2)], [.int .i64 ((getI l1 x15).f3)], [.slice a115 n87 c100], [.bool ((getI l1 x15).f5)], [.int .u8 ((getI l1 x15).f6)], [.bool ((getI l1 x15).f7)]] [1, 1, 1, 1, 1, 1, 1] from hf _ (memI 0 rfl) (by kernel_rfl))
     refine WP.loadB (v := .bool ((getI l1 x15).f5)) hB80 (by kernel_rfl) (by kernel_rfl) ?_
     refine WP.dn (Shown.ok (v := .bool ((getI l1 x15).f5)) (by kernel_rfl) (Step.refl _ _) ?_)
     exact ⟨tv, tv, tv, rfl, tv, tv, tv, tv, tv, tv, tv, tv, tv⟩
    ·intro vs gq stq hl hf
     obtain ⟨v0, v1, v2, v3, v4, v5, v6, v7, v8, v9, rfl⟩ := len_k10 hl
     have e1 := (show v1 = .bool ((getI l1 x15).f5) from hf _ (memI 3 rfl) (by kernel_rfl))
     subst e1
     have hcal63 := P.baizelaw34_table gq ((getI l1 x15).f5) d115 hk63
     refine WP.callC hcal63 (by kernel_rfl) ?_
     rintro _ g171 st171 rfl
     refine WP.dn (Shown.o (v := AG [encA .u8 d115]) st171.pure ?_)
     exact ⟨tv, tv, tv, tv, rfl, tv, tv, tv, tv, tv, tv, tv, tv⟩
    ·intro vs gq stq hl hf
     obtain ⟨v0, v1, v2, v3, v4, v5, v6, v7, v8, v9, rfl⟩ := len_k10 hl
     have hB80 := (show Box gq (t + 57) b41 78 [[.int .i64 ((getI l1 x15).f1)], [.int .i64 ((getI l1 x15).f2)], [.int .i64 ((getI l1 x15).f3)], [.slice a115 n87 c100], [.bool ((getI l1 x15).f5)], [.int .u8 ((getI l1 x15).f6)], [.bool ((getI l1 x15).f7)]] [1, 1, 1, 1, 1, 1, 1] from hf _ (memI 0 rfl) (by kernel_rfl))
     refine WP.loadB (v := .int .i64 ((getI l1 x15).f3)) hB80 (by kernel_rfl) (by kernel_rfl) ?_
     refine WP.dn (Shown.ok (v := .int .i64 ((getI l1 x15).f3)) (by kernel_rfl) (Step.refl _ _) ?_)
     exact ⟨tv, tv, tv, tv, tv, rfl, tv, tv, tv, tv, tv, tv, tv⟩
    ·intro vs gq stq hl hf
     obtain ⟨v0, v1, v2, v3, v4, v5, v6, v7, v8, v9, rfl⟩ := len_k10 hl
     have hB80 := (show Box gq (t + 57) b41 78 [[.int .i64 ((getI l1 x15).f1)], [.int .i64 ((getI l1 x15).f2)], [.int .i64 ((getI l1 x15).f3)], [.slice a115 n87 c100], [.bool ((getI l1 x15).f5)], [.int .u8 ((getI l1 x15).f6)], [.bool ((getI l1 x15).f7)]] [1, 1, 1, 1, 1, 1, 1] from hf _ (memI 0 rfl) (by kernel_rfl))
     refine WP.loadB (v := .int .u8 ((getI l1 x15).f6)) hB80 (by kernel_rfl) (by kernel_rfl) ?_
     refine WP.dn (Shown.ok (v := .int .u8 ((getI l1 x15).f6)) (by kernel_rfl) (Step.refl _ _) ?_)
     exact ⟨tv, tv, tv, tv, tv, tv, rfl, tv, tv, tv, tv, tv, tv⟩
    ·intro vs gq stq hl hf
     obtain ⟨v0, v1, v2, v3, v4, v5, v6, v7, v8, v9, rfl⟩ := len_k10 hl
     have hB80 := (show Box gq (t + 57) b41 78 [[.int .i64 ((getI l1 x15).f1)], [.int .i64 ((getI l1 x15).f2)], [.int .i64 ((getI l1 x15).f3)], [.slice a115 n87 c100], [.bool ((getI l1 x15).f5)], [.int .u8 ((getI l1 x15).f6)], [.bool ((getI l1 x15).f7)]] [1, 1, 1, 1, 1, 1, 1] from hf _ (memI 0 rfl) (by kernel_rfl))
     refine WP.loadB (v := .slice a115 n87 c100) hB80 (by kernel_rfl) (by kernel_rfl) ?_
     refine WP.dn (Shown.ok (v := .slice a115 n87 c100) (by kernel_rfl) (Step.refl _ _) ?_)
     exact ⟨tv, tv, tv, tv, tv, tv, tv, rfl, tv, tv, tv, tv, tv⟩
    ·intro vs gq stq hl hf
     obtain ⟨v0, v1, v2, v3, v4, v5, v6, v7, v8, v9, rfl⟩ := len_k10 hl
     have hR115 := (show RdS (Kd.int .u8) gq 5 a115 n87 c100 ((getI l1 x15).f4) from hf _ (memI 1 rfl) (by kernel_rfl))
     have e0 := (show v0 = .int .i64 ((getI l1 x15).f2) from hf _ (memI 2 rfl) (by kernel_rfl))
     subst e0
     have e2 := (show v2 = AG [encA .u8 d115] from hf _ (memI 4 rfl) (by kernel_rfl))
     subst e2
     have e3 := (show v3 = .int .i64 ((getI l1 x15).f3) from hf _ (memI 5 rfl) (by kernel_rfl))
     subst e3
     have e4 := (show v4 = .int .u8 ((getI l1 x15).f6) from hf _ (memI 6 rfl) (by kernel_rfl))
     subst e4
     have e5 := (show v5 = .slice a115 n87 c100 from hf _ (memI 7 rfl) (by kernel_rfl))
     subst e5
     refine WP.buildS (places := #[(0, 1), (1, 8), (9, 1), (10, 8), (18, 1), (19, 1), (20, 1)]) (t := 35) [[.int .i64 0], encA .u8 (zA 8), [.int .i64 0], encA .u8 (zA 8), [.slice none 0 0], [.slice none 0 0], [.bool false]] [1, 8, 1, 8, 1, 1, 1] (by kernel_rfl) (by kernel_rfl) (by simp [len_encA]) (by kernel_rfl) ((.cons (i := 0) (off := 0) (v := .int .i64 (IntKind.i64.wrap ((IntKind.u64.wrap ((getI l1 x15).f2)).tmod 2))) (mid := [[.int .i64 (IntKind.i64.wrap ((IntKind.u64.wrap ((getI l1 x15).f2)).tmod 2))], encA .u8 (zA 8), [.int .i64 0], encA .u8 (zA 8), [.slice none 0 0], [.slice none 0 0], [.bool false]]) [[.int .i64 (IntKind.i64.wrap ((IntKind.u64.wrap ((getI l1 x15).f2)).tmod 2))]] [1] (by kernel_rfl) (by kernel_rfl) rfl (by kernel_rfl) (.cons (i := 1) (off := 1) (v := AG [encA .u8 d115]) (mid := [[.int .i64 (IntKind.i64.wrap ((IntKind.u64.wrap ((getI l1 x15).f2)).tmod 2))], encA .u8 d115, [.int .i64 0], encA .u8 (zA 8), [.slice none 0 0], [.slice none 0 0], [.bool false]]) [encA .u8 d115] [8] (by kernel_rfl) (by kernel_rfl) (by simp [len_encA]) (by kernel_rfl) (.cons (i := 2) (off := 9) (v := .int .i64 ((getI l1 x15).f3)) (mid := [[.int .i64 (IntKind.i64.wrap ((IntKind.u64.wrap ((getI l1 x15).f2)).tmod 2))], encA .u8 d115, [.int .i64 ((getI l1 x15).f3)], encA .u8 (zA 8), [.slice none 0 0], [.slice none 0 0], [.bool false]]) [[.int .i64 ((getI l1 x15).f3)]] [1] (by kernel_rfl) (by kernel_rfl) rfl (by kernel_rfl) (.cons (i := 3) (off := 10) (v := AG [encA .u8 (⟨[(((getI l1 x15).f6).tmod 2), 0, 0, 0, 0, 0, 0, 0], rfl⟩ : Arr Int 8)]) (mid := [[.int .i64 (IntKind.i64.wrap ((IntKind.u64.wrap ((getI l1 x15).f2)).tmod 2))], encA .u8 d115, [.int .i64 ((getI l1 x15).f3)], encA .u8 (⟨[(((getI l1 x15).f6).tmod 2), 0, 0, 0, 0, 0, 0, 0], rfl⟩ : Arr Int 8), [.slice none 0 0], [.slice none 0 0], [.bool false]]) [encA .u8 (⟨[(((getI l1 x15).f6).tmod 2), 0, 0, 0, 0, 0, 0, 0], rfl⟩ : Arr Int 8)] [8] (by kernel_rfl) (by kernel_rfl) (by simp [len_encA]) (by kernel_rfl) (.cons (i := 4) (off := 18) (v := .slice a115 n87 c100) (mid := [[.int .i64 (IntKind.i64.wrap ((IntKind.u64.wrap ((getI l1 x15).f2)).tmod 2))], encA .u8 d115, [.int .i64 ((getI l1 x15).f3)], encA .u8 (⟨[(((getI l1 x15).f6).tmod 2), 0, 0, 0, 0, 0, 0, 0], rfl⟩ : Arr Int 8), [.slice a115 n87 c100], [.slice none 0 0], [.bool false]]) [[.slice a115 n87 c100]] [1] (by kernel_rfl) (by kernel_rfl) rfl (by kernel_rfl) .nil)))))) ?_
     refine WP.dn (Shown.ok (v := AG [[.int .i64 (IntKind.i64.wrap ((IntKind.u64.wrap ((getI l1 x15).f2)).tmod 2))], encA .u8 d115, [.int .i64 ((getI l1 x15).f3)], encA .u8 (⟨[(((getI l1 x15).f6).tmod 2), 0, 0, 0, 0, 0, 0, 0], rfl⟩ : Arr Int 8), [.slice a115 n87 c100], [.slice none 0 0], [.bool false]]) (by kernel_rfl) (Step.refl _ _) ?_)
     exact ⟨tv, tv, tv, tv, tv, tv, tv, tv, rfl, tv, tv, tv, tv⟩
    ·intro vs gq stq hl hf
     obtain ⟨v0, v1, v2, v3, v4, v5, v6, v7, v8, v9, rfl⟩ := len_k10 hl
     have hR115 := (show RdS (Kd.int .u8) gq 5 a115 n87 c100 ((getI l1 x15).f4) from hf _ (memI 1 rfl) (by kernel_rfl))
     have e6 := (show v6 = AG [[.int .i64 (IntKind.i64.wrap ((IntKind.u64.wrap ((getI l1 x15).f2)).tmod 2))], encA .u8 d115, [.int .i64 ((getI l1 x15).f3)], encA .u8 (⟨[(((getI l1 x15).f6).tmod 2), 0, 0, 0, 0, 0, 0, 0], rfl⟩ : Arr Int 8), [.slice a115 n87 c100], [.slice none 0 0], [.bool false]] from hf _ (memI 8 rfl) (by kernel_rfl))
     subst e6
     have hcal64 := P.baizelaw34_Of gq (IntKind.i64.wrap ((IntKind.u64.wrap ((getI l1 x15).f2)).tmod 2)) d115 ((getI l1 x15).f3) (⟨[(((getI l1 x15).f6).tmod 2), 0, 0, 0, 0, 0, 0, 0], rfl⟩ : Arr Int 8) ((getI l1 x15).f4) ([]) false a115 n87 c100 none 0 0 hR115 (RdS.nil _ _ _) x78 d116 x79 l67 d117 x80 d118 l68 l69 hk64
     refine WP.callC hcal64 (by kernel_rfl) ?_
     rintro _ g172 st172 ⟨a122, n92, c106, a123, n93, c107, a124, n94, c108, rfl, hR122, hR123, hR124⟩
     obtain rfl := hR122.len
     obtain rfl := hR123.len
     obtain rfl := hR124.len
     refine WP.dn (Shown.o (v := AG [[.int .i64 x78], encA .u8 d116, [.int .i64 x79], [.slice a122 l67.length c106], encA .u8 d117, [.int .i64 x80], encA .u8 d118, [.slice a123 l68.length c107], [.slice a124 l69.length c108]]) st172.pure ?_)
     exact ⟨tv, tv, tv, tv, tv, tv, tv, tv, tv, ⟨a122, c106, a123, c107, a124, c108, rfl, hR122, hR123, hR124⟩, tv, tv, tv⟩
    ·intro vs gq stq hl hf
     obtain ⟨v0, v1, v2, v3, v4, v5, v6, v7, v8, v9, rfl⟩ := len_k10 hl
     refine WP.alloc (T := 43) (t + 60) [[.int .i64 0], encA .u8 (zA 8), [.int .i64 0], [.slice none 0 0], encA .u8 (zA 8), [.int .i64 0], encA .u8 (zA 8), [.slice none 0 0], [.slice none 0 0]] [1, 8, 1, 1, 8, 1, 8, 1, 1] (by kernel_rfl) (by simp [len_encA]) ?_
     intro g173 b42 st173 hB84
     refine WP.dn (Shown.o (v := .pointer (some ⟨b42, 0, none⟩)) st173.pure ?_)
     exact ⟨tv, tv, tv, tv, tv, tv, tv, tv, tv, tv, ⟨b42, rfl, hB84⟩, tv, tv⟩
    ·intro vs gq stq hl hf
     obtain ⟨v0, v1, v2, v3, v4, v5, v6, v7, v8, v9, rfl⟩ := len_k10 hl
     obtain ⟨a122, c106, a123, c107, a124, c108, e7, hR122, hR123, hR124⟩ := (show ∃ (a122 : Option Addr) (c106 : Nat) (a123 : Option Addr) (c107 : Nat) (a124 : Option Addr) (c108 : Nat), v7 = AG [[.int .i64 x78], encA .u8 d116, [.int .i64 x79], [.slice a122 l67.length c106], encA .u8 d117, [.int .i64 x80], encA .u8 d118, [.slice a123 l68.length c107], [.slice a124 l69.length c108]] ∧ RdS (Kd.int .u8) gq 5 a122 l67.length c106 l67 ∧ RdS (Kd.int .u8) gq 5 a123 l68.length c107 l68 ∧ RdS (Kd.int .u8) gq 5 a124 l69.length c108 l69 from hf _ (memI 9 rfl) (by kernel_rfl))
     subst e7
     obtain ⟨b42, e8, hB84⟩ := (show ∃ (b42 : Nat), v8 = .pointer (some ⟨b42, 0, none⟩) ∧ Box gq (t + 60) b42 43 [[.int .i64 0], encA .u8 (zA 8), [.int .i64 0], [.slice none 0 0], encA .u8 (zA 8), [.int .i64 0], encA .u8 (zA 8), [.slice none 0 0], [.slice none 0 0]] [1, 8, 1, 1, 8, 1, 8, 1, 1] from hf _ (memI 10 rfl) (by kernel_rfl))
     subst e8
     refine WP.storeB (ty := 43) (off := 0) (v := AG [[.int .i64 x78], encA .u8 d116, [.int .i64 x79], [.slice a122 l67.length c106], encA .u8 d117, [.int .i64 x80], encA .u8 d118, [.slice a123 l68.length c107], [.slice a124 l69.length c108]]) hB84 [[.int .i64 x78], encA .u8 d116, [.int .i64 x79], [.slice a122 l67.length c106], encA .u8 d117, [.int .i64 x80], encA .u8 d118, [.slice a123 l68.length c107], [.slice a124 l69.length c108]] [1, 8, 1, 1, 8, 1, 8, 1, 1] (by kernel_rfl) (by kernel_rfl) (by simp [len_encA]) (by kernel_rfl) [[.int .i64 x78], encA .u8 d116, [.int .i64 x79], [.slice a122 l67.length c106], encA .u8 d117, [.int .i64 x80], encA .u8 d118, [.slice a123 l68.length c107], [.slice a124 l69.length c108]] (by kernel_rfl) (.one rfl (.arr (.one rfl (.one rfl (.arr (.one rfl (.arr (.one rfl (.one rfl .nil))))))))) ?_
     intro g174 st174 hB85
     refine WP.dn (Shown.o (v := undef) st174 ?_)
     exact ⟨tv, tv, tv, tv, tv, tv, tv, tv, tv, tv, tv, ⟨b42, a122, c106, a123, c107, a124, c108, rfl, rfl, hB85, (hR122.mono st174 (WL.no (by simp <;> omega))), (hR123.mono st174 (WL.no (by simp <;> omega))), (hR124.mono st174 (WL.no (by simp <;> omega)))⟩, tv⟩
   intro vs g175 st175 hl hf
   obtain ⟨v0, v1, v2, v3, v4, v5, v6, v7, v8, v9, rfl⟩ := len_k10 hl
   obtain ⟨b42, a122, c106, a123, c107, a124, c108, e8, e7, hB84, hR122, hR123, hR124⟩ := (show ∃ (b42 : Nat) (a122 : Option Addr) (c106 : Nat) (a123 : Option Addr) (c107 : Nat) (a124 : Option Addr) (c108 : Nat), v8 = .pointer (some ⟨b42, 0, none⟩) ∧ v7 = AG [[.int .i64 x78], encA .u8 d116, [.int .i64 x79], [.slice a122 l67.length c106], encA .u8 d117, [.int .i64 x80], encA .u8 d118, [.slice a123 l68.length c107], [.slice a124 l69.length c108]] ∧ Box g175 (t + 60) b42 43 [[.int .i64 x78], encA .u8 d116, [.int .i64 x79], [.slice a122 l67.length c106], encA .u8 d117, [.int .i64 x80], encA .u8 d118, [.slice a123 l68.length c107], [.slice a124 l69.length c108]] [1, 8, 1, 1, 8, 1, 8, 1, 1] ∧ RdS (Kd.int .u8) g175 5 a122 l67.length c106 l67 ∧ RdS (Kd.int .u8) g175 5 a123 l68.length c107 l68 ∧ RdS (Kd.int .u8) g175 5 a124 l69.length c108 l69 from hf _ (memI 11 rfl) (by kernel_rfl))
   subst e8
   subst e7
   replace hB1 := hB1.mono st175 (WL.no1 (by omega))
   replace hR22 := hR22.mono st175 (WL.no1 (by omega)) (WL.no1 (by omega))
   replace hB2 := hB2.mono st175 (WL.no1 (by omega))
   replace hR23 := hR23.mono st175 (WL.no1 (by omega)) (WL.no1 (by omega))
   replace hR24 := hR24.mono st175 (WL.no1 (by omega)) (WL.no1 (by omega))
   replace hR1 := hR1.mono st175 (WL.no1 (by omega))
   replace tot := tot.trans (st175.up1 (.inr (by omega)))
   refine NX.then_n ?_
   refine CP.refr 154 [(1, .int .i64 x1), (5, .pointer (some ⟨b1, 0, none⟩)), (6, .slice a23 n16 c19), (7, .slice a24 n17 c20), (10, .pointer (some ⟨b42, 0, none⟩)), (35, .slice a1 n1 c1), (36, .int .i64 (l1.length : Int)), (37, .int .i64 x15)] (by kernel_rfl) (by kernel_rfl) ?_
   clear ds
   intro ds
   refine CP.seq ?_
   refine CP.seqR ?_
   refine WP.stl 1 ?_
   refine WP.len (a := a24) (cp := c20) hR24.len (by kernel_rfl) ?_
   refine WP.stl 1 ?_
   refine WP.dn ?_
   refine NX.then_n ?_
   refine CP.block ?_
   generalize fuel = k2 at hs
   refine CP.loop (fun k2 tm g => ∃ (x87 : Int) (d131 : Arr Int 8) (x88 : Int) (l74 : List Int) (a137 : Option Addr) (n103 : Nat) (c119 : Nat) (d132 : Arr Int 8) (x89 : Int) (d133 : Arr Int 8) (l75 : List Int) (a138 : Option Addr) (n104 : Nat) (c120 : Nat) (l76 : List Int) (a139 : Option Addr) (n105 : Nat) (c121 : Nat) (x90 : Int), Fr 154 [(1, .int .i64 x1), (5, .pointer (some ⟨b1, 0, none⟩)), (6, .slice a23 n16 c19), (7, .slice a24 n17 c20), (10, .pointer (some ⟨b42, 0, none⟩)), (35, .slice a1 n1 c1), (36, .int .i64 (l1.length : Int)), (37, .int .i64 x15), (71, .slice a24 n17 c20), (72, .int .i64 (l14.length : Int)), (73, .int .i64 x90)] tm ∧ Step (fun l => NoM l ∨ t ≤ l) g0 g ∧ Box g (t + 1) b1 121 [[.slice a22 n15 c18], [.map (some b2)]] [1, 1] ∧ OwnS k_S_notary_entry g (t + 4) 126 a22 n15 c18 l12 ∧ MapB g (t + 2) b2 kv_S_notary_entry (Value.int .i64) w2 ∧ OwnS k_S_punish_Thing g (t + 7) 43 a23 n16 c19 l13 ∧ OwnS k_S_punish_Thing g (t + 12) 43 a24 n17 c20 l14 ∧ Box g (t + 60) b42 43 [[.int .i64 x87], encA .u8 d131, [.int .i64 x88], [.slice a137 n103 c119], encA .u8 d132, [.int .i64 x89], encA .u8 d133, [.slice a138 n104 c120], [.slice a139 n105 c121]] [1, 8, 1, 1, 8, 1, 8, 1, 1] ∧ RdS (Kd.int .u8) g 5 a137 n103 c119 l74 ∧ RdS (Kd.int .u8) g 5 a138 n104 c120 l75 ∧ RdS (Kd.int .u8) g 5 a139 n105 c121 l76 ∧ RdS k_S_baizelaw34_Deed g 78 a1 n1 c1 l1 ∧ F.baizelaw34_PunishHonest.l2 (F.baizelaw34_PunishHonest.l1 l1 x1 k1) x1 l12 w2 l13 l14 x15 k2 x87 d131 x88 l74 d132 x89 d133 l75 l76 x90 = some o1) k2 ?_ ?_ ?_
   ·exact ⟨x78, d116, x79, l67, a122, l67.length, c106, d117, x80, d118, l68, a123, l68.length, c107, l69, a124, l69.length, c108, 0, ⟨by kernel_rfl, by kernel_rfl⟩, tot, hB1, hR22, hB2, hR23, hR24, hB84, hR122, hR123, hR124, hR1, hs⟩
   ·rintro tm g ⟨x87, d131, x88, l74, a137, n103, c119, d132, x89, d133, l75, a138, n104, c120, l76, a139, n105, c121, x90, hF, tot, hB1, hR22, hB2, hR23, hR24, hB84, hR137, hR138, hR139, hR1, hs⟩
    exact absurd hs (by simp [F.baizelaw34_PunishHonest.l2])
   clear tot hs hB1 hR22 hB2 hR23 hR24 hB84 hR122 hR123 hR124 hR1
   rintro k2 tm g ⟨x87, d131, x88, l74, a137, n103, c119, d132, x89, d133, l75, a138, n104, c120, l76, a139, n105, c121, x90, hF, tot, hB1, hR22, hB2, hR23, hR24, hB84, hR137, hR138, hR139, hR1, hs⟩
   clear ds
   obtain ⟨ds, rfl⟩ := hF.open
   clear hF
   unfold F.baizelaw34_PunishHonest.l2 at hs
   refine CP.seqR ?_
   refine WP.stl 1 ?_
   refine WP.dn ?_
   refine NX.then_n ?_
   refine CP.seq ?_
   refine CP.cond (b := decide (x90 < (l14.length : Int))) (by kernel_rfl) (fun h49 => ?_) (fun h49 => ?_)
   ·replace hs := of_if_t hs h49
    refine CP.skip ?_
    refine NX.then_n ?_
    refine CP.cut (fun tm g => ∃ (x103 : Int) (d153 : Arr Int 8) (x104 : Int) (l84 : List Int) (a158 : Option Addr) (n120 : Nat) (c138 : Nat) (d154 : Arr Int 8) (x105 : Int) (d155 : Arr Int 8) (l85 : List Int) (a159 : Option Addr) (n121 : Nat) (c139 : Nat) (l86 : List Int) (a160 : Option Addr) (n122 : Nat) (c140 : Nat), Fr 154 [(1, .int .i64 x1), (5, .pointer (some ⟨b1, 0, none⟩)), (6, .slice a23 n16 c19), (7, .slice a24 n17 c20), (10, .pointer (some ⟨b42, 0, none⟩)), (35, .slice a1 n1 c1), (36, .int .i64 (l1.length : Int)), (37, .int .i64 x15), (71, .slice a24 n17 c20), (72, .int .i64 (l14.length : Int)), (73, .int .i64 x90)] tm ∧ Step (fun l => NoM l ∨ t ≤ l) g0 g ∧ Box g (t + 1) b1 121 [[.slice a22 n15 c18], [.map (some b2)]] [1, 1] ∧ OwnS k_S_notary_entry g (t + 4) 126 a22 n15 c18 l12 ∧ MapB g (t + 2) b2 kv_S_notary_entry (Value.int .i64) w2 ∧ OwnS k_S_punish_Thing g (t + 7) 43 a23 n16 c19 l13 ∧ OwnS k_S_punish_Thing g (t + 12) 43 a24 n17 c20 l14 ∧ Box g (t + 60) b42 43 [[.int .i64 x103], encA .u8 d153, [.int .i64 x104], [.slice a158 n120 c138], encA .u8 d154, [.int .i64 x105], encA .u8 d155, [.slice a159 n121 c139], [.slice a160 n122 c140]] [1, 8, 1, 1, 8, 1, 8, 1, 1] ∧ RdS (Kd.int .u8) g 5 a158 n120 c138 l84 ∧ RdS (Kd.int .u8) g 5 a159 n121 c139 l85 ∧ RdS (Kd.int .u8) g 5 a160 n122 c140 l86 ∧ RdS k_S_baizelaw34_Deed g 78 a1 n1 c1 l1 ∧ (F.baizelaw34_PunishHonest.c3 (F.baizelaw34_PunishHonest.l2 (F.baizelaw34_PunishHonest.l1 l1 x1 k1) x1 l12 w2 l13 l14 x15 k2) x90 x103 d153 x104 l84 d154 x105 d155 l85 l86) = some o1) ?_ ?_
    ·refine CP.block ?_
     refine CP.seqR ?_
     by_cases hc36 : (0 : Int) ≤ x90 ∧ x90 < (l14.length : Int)
     case neg => rw [if_neg hc36] at hs; cases hs
     replace hs := of_if_p hs hc36
     obtain ⟨b61, u16, ha16⟩ := hR24.at hc36
     refine WP.indexA (t := 76) (e := 43) (sz := 30) (cap := c20) (k := .i64) (i := x90) hR24.len ha16 (by kernel_rfl) (by kernel_rfl) hc36 ?_
     obtain ⟨cs16, hcR16, hcV16⟩ := hR24.src.view (getI_some hc36) ha16
     obtain ⟨a161, n123, c141, a162, n124, c142, a163, n125, c143, hcR16, hR161, hR162, hR163⟩ := k_S_punish_Thing.opn hcR16
     refine WP.loadV [[.int .i64 ((getI l14 x90).f1)], encA .u8 ((getI l14 x90).f2), [.int .i64 ((getI l14 x90).f3)], [.slice a161 n123 c141], encA .u8 ((getI l14 x90).f5), [.int .i64 ((getI l14 x90).f6)], encA .u8 ((getI l14 x90).f7), [.slice a162 n124 c142], [.slice a163 n125 c143]] [1, 8, 1, 1, 8, 1, 8, 1, 1] hcV16 hcR16 (by simp [len_encA]) (f := 0) (ty := 43) (agg := true) (size := 30) (rs := [[.int .i64 ((getI l14 x90).f1)], encA .u8 ((getI l14 x90).f2), [.int .i64 ((getI l14 x90).f3)], [.slice a161 n123 c141], encA .u8 ((getI l14 x90).f5), [.int .i64 ((getI l14 x90).f6)], encA .u8 ((getI l14 x90).f7), [.slice a162 n124 c142], [.slice a163 n125 c143]]) (v := AG [[.int .i64 ((getI l14 x90).f1)], encA .u8 ((getI l14 x90).f2), [.int .i64 ((getI l14 x90).f3)], [.slice a161 n123 c141], encA .u8 ((getI l14 x90).f5), [.int .i64 ((getI l14 x90).f6)], encA .u8 ((getI l14 x90).f7), [.slice a162 n124 c142], [.slice a163 n125 c143]]) (by kernel_rfl) (by kernel_rfl) (by kernel_rfl) (by kernel_rfl) ?_
     refine WP.alloc (T := 43) (t + 82) [[.int .i64 0], encA .u8 (zA 8), [.int .i64 0], [.slice none 0 0], encA .u8 (zA 8), [.int .i64 0], encA .u8 (zA 8), [.slice none 0 0], [.slice none 0 0]] [1, 8, 1, 1, 8, 1, 8, 1, 1] (by kernel_rfl) (by simp [len_encA]) ?_
     intro g237 b62 st237 hB125
     replace hB1 := hB1.mono st237 (fun x => x)
     replace hR22 := hR22.mono st237 (fun x => x) (fun x => x)
     replace hB2 := hB2.mono st237 (fun x => x)
     replace hR23 := hR23.mono st237 (fun x => x) (fun x => x)
     replace hR24 := hR24.mono st237 (fun x => x) (fun x => x)
     replace hB84 := hB84.mono st237 (fun x => x)
     replace hR137 := hR137.mono st237 (fun x => x)
     replace hR138 := hR138.mono st237 (fun x => x)
     replace hR139 := hR139.mono st237 (fun x => x)
     replace hR1 := hR1.mono st237 (fun x => x)
     replace hR161 := hR161.mono st237 (fun x => x)
     replace hR162 := hR162.mono st237 (fun x => x)
     replace hR163 := hR163.mono st237 (fun x => x)
     replace tot := tot.trans st237.pure
     refine WP.storeB (ty := 43) (off := 0) (v := AG [[.int .i64 ((getI l14 x90).f1)], encA .u8 ((getI l14 x90).f2), [.int .i64 ((getI l14 x90).f3)], [.slice a161 n123 c141], encA .u8 ((getI l14 x90).f5), [.int .i64 ((getI l14 x90).f6)], encA .u8 ((getI l14 x90).f7), [.slice a162 n124 c142], [.slice a163 n125 c143]]) hB125 [[.int .i64 ((getI l14 x90).f1)], encA .u8 ((getI l14 x90).f2), [.int .i64 ((getI l14 x90).f3)], [.slice a161 n123 c141], encA .u8 ((getI l14 x90).f5), [.int .i64 ((getI l14 x90).f6)], encA .u8 ((getI l14 x90).f7), [.slice a162 n124 c142], [.slice a163 n125 c143]] [1, 8, 1, 1, 8, 1, 8, 1, 1] (by kernel_rfl) (by kernel_rfl) (by simp [len_encA]) (by kernel_rfl) [[.int .i64 ((getI l14 x90).f1)], encA .u8 ((getI l14 x90).f2), [.int .i64 ((getI l14 x90).f3)], [.slice a161 n123 c141], encA .u8 ((getI l14 x90).f5), [.int .i64 ((getI l14 x90).f6)], encA .u8 ((getI l14 x90).f7), [.slice a162 n124 c142], [.slice a163 n125 c143]] (by kernel_rfl) (.one rfl (.arr (.one rfl (.one rfl (.arr (.one rfl (.arr (.one rfl (.one rfl .nil))))))))) ?_
     intro g238 st238 hB126
     replace hB1 := hB1.mono st238 (WL.no1 (by omega))
     replace hR22 := hR22.mono st238 (WL.no1 (by omega)) (WL.no1 (by omega))
     replace hB2 := hB2.mono st238 (WL.no1 (by omega))
     replace hR23 := hR23.mono st238 (WL.no1 (by omega)) (WL.no1 (by omega))
     replace hR24 := hR24.mono st238 (WL.no1 (by omega)) (WL.no1 (by omega))
     replace hB84 := hB84.mono st238 (WL.no1 (by omega))
     replace hR137 := hR137.mono st238 (WL.no1 (by omega))
     replace hR138 := hR138.mono st238 (WL.no1 (by omega))
     replace hR139 := hR139.mono st238 (WL.no1 (by omega))
     replace hR1 := hR1.mono st238 (WL.no1 (by omega))
     replace hR161 := hR161.mono st238 (WL.no1 (by omega))
     replace hR162 := hR162.mono st238 (WL.no1 (by omega))
     replace hR163 := hR163.mono st238 (WL.no1 (by omega))
     replace tot := tot.trans (st238.up1 (.inr (by omega)))
     clear hB125
     have hB125 := hB126
     clear hB126
     refine WP.dn ?_
     refine NX.then_n ?_
     refine CP.seqR ?_
     refine WP.loadB (v := AG [[.int .i64 ((getI l14 x90).f1)], encA .u8 ((getI l14 x90).f2), [.int .i64 ((getI l14 x90).f3)], [.slice a161 n123 c141], encA .u8 ((getI l14 x90).f5), [.int .i64 ((getI l14 x90).f6)], encA .u8 ((getI l14 x90).f7), [.slice a162 n124 c142], [.slice a163 n125 c143]]) hB125 (by kernel_rfl) (by kernel_rfl) ?_
     replace hs := Option.bind_eq_some_iff.1 hs
     obtain ⟨⟨d156, x106, d157⟩, hk79, hs⟩ := hs
     dsimp only at hs
     have hcal79 := P.punish_Thing_Place g238 ((getI l14 x90).f1) ((getI l14 x90).f2) ((getI l14 x90).f3) ((getI l14 x90).f4) ((getI l14 x90).f5) ((getI l14 x90).f6) ((getI l14 x90).f7) ((getI l14 x90).f8) ((getI l14 x90).f9) a161 n123 c141 a162 n124 c142 a163 n125 c143 hR161 hR162 hR163 d156 x106 d157 hk79
     refine WP.callC hcal79 (by kernel_rfl) ?_
     rintro _ g239 st239 rfl
     replace hB1 := hB1.mono st239 (fun x => x)
     replace hR22 := hR22.mono st239 (fun x => x) (fun x => x)
     replace hB2 := hB2.mono st239 (fun x => x)
     replace hR23 := hR23.mono st239 (fun x => x) (fun x => x)
     replace hR24 := hR24.mono st239 (fun x => x) (fun x => x)
     replace hB84 := hB84.mono st239 (fun x => x)
     replace hR137 := hR137.mono st239 (fun x => x)
     replace hR138 := hR138.mono st239 (fun x => x)
     replace hR139 := hR139.mono st239 (fun x => x)
     replace hR1 := hR1.mono st239 (fun x => x)
     replace hB125 := hB125.mono st239 (fun x => x)
     replace hR161 := hR161.mono st239 (fun x => x)
     replace hR162 := hR162.mono st239 (fun x => x)
     replace hR163 := hR163.mono st239 (fun x => x)
     replace tot := tot.trans st239.pure
     refine WP.stl 4 ?_
     refine WP.alloc (T := 37) (t + 83) [encA .u8 (zA 8)] [8] (by kernel_rfl) (by simp [len_encA]) ?_
     intro g240 b63 st240 hB127
     replace hB1 := hB1.mono st240 (fun x => x)
     replace hR22 := hR22.mono st240 (fun x => x) (fun x => x)
     replace hB2 := hB2.mono st240 (fun x => x)
     replace hR23 := hR23.mono st240 (fun x => x) (fun x => x)
     replace hR24 := hR24.mono st240 (fun x => x) (fun x => x)
     replace hB84 := hB84.mono st240 (fun x => x)
     replace hR137 := hR137.mono st240 (fun x => x)
     replace hR138 := hR138.mono st240 (fun x => x)
     replace hR139 := hR139.mono st240 (fun x => x)
     replace hR1 := hR1.mono st240 (fun x => x)
     replace hB125 := hB125.mono st240 (fun x => x)
     replace hR161 := hR161.mono st240 (fun x => x)
     replace hR162 := hR162.mono st240 (fun x => x)
     replace hR163 := hR163.mono st240 (fun x => x)
     replace tot := tot.trans st240.pure
     refine WP.alloc (T := 37) (t + 84) [encA .u8 (zA 8)] [8] (by kernel_rfl) (by simp [len_encA]) ?_
     intro g241 b64 st241 hB128
     replace hB1 := hB1.mono st241 (fun x => x)
     replace hR22 := hR22.mono st241 (fun x => x) (fun x => x)
     replace hB2 := hB2.mono st241 (fun x => x)
     replace hR23 := hR23.mono st241 (fun x => x) (fun x => x)
     replace hR24 := hR24.mono st241 (fun x => x) (fun x => x)
     replace hB84 := hB84.mono st241 (fun x => x)
     replace hR137 := hR137.mono st241 (fun x => x)
     replace hR138 := hR138.mono st241 (fun x => x)
     replace hR139 := hR139.mono st241 (fun x => x)
     replace hR1 := hR1.mono st241 (fun x => x)
     replace hB125 := hB125.mono st241 (fun x => x)
     replace hR161 := hR161.mono st241 (fun x => x)
     replace hR162 := hR162.mono st241 (fun x => x)
     replace hR163 := hR163.mono st241 (fun x => x)
     replace hB127 := hB127.mono st241 (fun x => x)
     replace tot := tot.trans st241.pure
     refine WP.storeB (ty := 37) (off := 0) (v := AG [encA .u8 d156]) hB127 [encA .u8 d156] [8] (by kernel_rfl) (by kernel_rfl) (by simp [len_encA]) (by kernel_rfl) [encA .u8 d156] (by kernel_rfl) (.arr .nil) ?_
     intro g242 st242 hB129
     replace hB1 := hB1.mono st242 (WL.no1 (by omega))
     replace hR22 := hR22.mono st242 (WL.no1 (by omega)) (WL.no1 (by omega))
     replace hB2 := hB2.mono st242 (WL.no1 (by omega))
     replace hR23 := hR23.mono st242 (WL.no1 (by omega)) (WL.no1 (by omega))
     replace hR24 := hR24.mono st242 (WL.no1 (by omega)) (WL.no1 (by omega))
     replace hB84 := hB84.mono st242 (WL.no1 (by omega))
     replace hR137 := hR137.mono st242 (WL.no1 (by omega))
     replace hR138 := hR138.mono st242 (WL.no1 (by omega))
     replace hR139 := hR139.mono st242 (WL.no1 (by omega))
     replace hR1 := hR1.mono st242 (WL.no1 (by omega))
     replace hB125 := hB125.mono st242 (WL.no1 (by omega))
     replace hR161 := hR161.mono st242 (WL.no1 (by omega))
     replace hR162 := hR162.mono st242 (WL.no1 (by omega))
     replace hR163 := hR163.mono st242 (WL.no1 (by omega))
     replace hB128 := hB128.mono st242 (WL.no1 (by omega))
     replace tot := tot.trans (st242.up1 (.inr (by omega)))
     clear hB127
     have hB127 := hB129
     clear hB129
     refine WP.stl 1 ?_
     refine WP.storeB (ty := 37) (off := 0) (v := AG [encA .u8 d157]) hB128 [encA .u8 d157] [8] (by kernel_rfl) (by kernel_rfl) (by simp [len_encA]) (by kernel_rfl) [encA .u8 d157] (by kernel_rfl) (.arr .nil) ?_
     intro g243 st243 hB130
     replace hB1 := hB1.mono st243 (WL.no1 (by omega))
     replace hR22 := hR22.mono st243 (WL.no1 (by omega)) (WL.no1 (by omega))
     replace hB2 := hB2.mono st243 (WL.no1 (by omega))
     replace hR23 := hR23.mono st243 (WL.no1 (by omega)) (WL.no1 (by omega))
     replace hR24 := hR24.mono st243 (WL.no1 (by omega)) (WL.no1 (by omega))
     replace hB84 := hB84.mono st243 (WL.no1 (by omega))
     replace hR137 := hR137.mono st243 (WL.no1 (by omega))
     replace hR138 := hR138.mono st243 (WL.no1 (by omega))
     replace hR139 := hR139.mono st243 (WL.no1 (by omega))
     replace hR1 := hR1.mono st243 (WL.no1 (by omega))
     replace hB125 := hB125.mono st243 (WL.no1 (by omega))
     replace hR161 := hR161.mono st243 (WL.no1 (by omega))
     replace hR162 := hR162.mono st243 (WL.no1 (by omega))
     replace hR163 := hR163.mono st243 (WL.no1 (by omega))
     replace hB127 := hB127.mono st243 (WL.no1 (by omega))
     replace tot := tot.trans (st243.up1 (.inr (by omega)))
     clear hB128
     have hB128 := hB130
     clear hB130
     refine WP.dn ?_
     refine NX.then_n ?_
     refine CP.refr 154 [(1, .int .i64 x1), (5, .pointer (some ⟨b1, 0, none⟩)), (6, .slice a23 n16 c19), (7, .slice a24 n17 c20), (10, .pointer (some ⟨b42, 0, none⟩)), (12, .pointer (some ⟨b62, 0, none⟩)), (13, .pointer (some ⟨b63, 0, none⟩)), (14, .int .i64 x106), (15, .pointer (some ⟨b64, 0, none⟩)), (35, .slice a1 n1 c1), (36, .int .i64 (l1.length : Int)), (37, .int .i64 x15), (71, .slice a24 n17 c20), (72, .int .i64 (l14.length : Int)), (73, .int .i64 x90)] (by kernel_rfl) (by kernel_rfl) ?_
     clear ds
     intro ds
     refine CP.seqR ?_
     refine WP.loadB (v := AG [[.int .i64 x87], encA .u8 d131, [.int .i64 x88], [.slice a137 n103 c119], encA .u8 d132, [.int .i64 x89], encA .u8 d133, [.slice a138 n104 c120], [.slice a139 n105 c121]]) hB84 (by kernel_rfl) (by kernel_rfl) ?_
     replace hs := Option.bind_eq_some_iff.1 hs
     obtain ⟨⟨d158, x107, d159⟩, hk80, hs⟩ := hs
     dsimp only at hs
     have hcal80 := P.punish_Thing_Place g243 x87 d131 x88 l74 d132 x89 d133 l75 l76 a137 n103 c119 a138 n104 c120 a139 n105 c121 hR137 hR138 hR139 d158 x107 d159 hk80
     refine WP.callC hcal80 (by kernel_rfl) ?_
     rintro _ g244 st244 rfl
     replace hB1 := hB1.mono st244 (fun x => x)
     replace hR22 := hR22.mono st244 (fun x => x) (fun x => x)
     replace hB2 := hB2.mono st244 (fun x => x)
     replace hR23 := hR23.mono st244 (fun x => x) (fun x => x)
     replace hR24 := hR24.mono st244 (fun x => x) (fun x => x)
     replace hB84 := hB84.mono st244 (fun x => x)
     replace hR137 := hR137.mono st244 (fun x => x)
     replace hR138 := hR138.mono st244 (fun x => x)
     replace hR139 := hR139.mono st244 (fun x => x)
     replace hR1 := hR1.mono st244 (fun x => x)
     replace hB125 := hB125.mono st244 (fun x => x)
     replace hR161 := hR161.mono st244 (fun x => x)
     replace hR162 := hR162.mono st244 (fun x => x)
     replace hR163 := hR163.mono st244 (fun x => x)
     replace hB127 := hB127.mono st244 (fun x => x)
     replace hB128 := hB128.mono st244 (fun x => x)
     replace tot := tot.trans st244.pure
     refine WP.stl 4 ?_
     refine WP.alloc (T := 37) (t + 85) [encA .u8 (zA 8)] [8] (by kernel_rfl) (by simp [len_encA]) ?_
     intro g245 b65 st245 hB131
     replace hB1 := hB1.mono st245 (fun x => x)
     replace hR22 := hR22.mono st245 (fun x => x) (fun x => x)
     replace hB2 := hB2.mono st245 (fun x => x)
     replace hR23 := hR23.mono st245 (fun x => x) (fun x => x)
     replace hR24 := hR24.mono st245 (fun x => x) (fun x => x)
     replace hB84 := hB84.mono st245 (fun x => x)
     replace hR137 := hR137.mono st245 (fun x => x)
     replace hR138 := hR138.mono st245 (fun x => x)
     replace hR139 := hR139.mono st245 (fun x => x)
     replace hR1 := hR1.mono st245 (fun x => x)
     replace hB125 := hB125.mono st245 (fun x => x)
     replace hR161 := hR161.mono st245 (fun x => x)
     replace hR162 := hR162.mono st245 (fun x => x)
     replace hR163 := hR163.mono st245 (fun x => x)
     replace hB127 := hB127.mono st245 (fun x => x)
     replace hB128 := hB128.mono st245 (fun x => x)
     replace tot := tot.trans st245.pure
     refine WP.alloc (T := 37) (t + 86) [encA .u8 (zA 8)] [8] (by kernel_rfl) (by simp [len_encA]) ?_
     intro g246 b66 st246 hB132
     replace hB1 := hB1.mono st246 (fun x => x)
     replace hR22 := hR22.mono st246 (fun x => x) (fun x => x)
     replace hB2 := hB2.mono st246 (fun x => x)
     replace hR23 := hR23.mono st246 (fun x => x) (fun x => x)
     replace hR24 := hR24.mono st246 (fun x => x) (fun x => x)
     replace hB84 := hB84.mono st246 (fun x => x)
     replace hR137 := hR137.mono st246 (fun x => x)
     replace hR138 := hR138.mono st246 (fun x => x)
     replace hR139 := hR139.mono st246 (fun x => x)
     replace hR1 := hR1.mono st246 (fun x => x)
     replace hB125 := hB125.mono st246 (fun x => x)
     replace hR161 := hR161.mono st246 (fun x => x)
     replace hR162 := hR162.mono st246 (fun x => x)
     replace hR163 := hR163.mono st246 (fun x => x)
     replace hB127 := hB127.mono st246 (fun x => x)
     replace hB128 := hB128.mono st246 (fun x => x)
     replace hB131 := hB131.mono st246 (fun x => x)
     replace tot := tot.trans st246.pure
     refine WP.storeB (ty := 37) (off := 0) (v := AG [encA .u8 d158]) hB131 [encA .u8 d158] [8] (by kernel_rfl) (by kernel_rfl) (by simp [len_encA]) (by kernel_rfl) [encA .u8 d158] (by kernel_rfl) (.arr .nil) ?_
     intro g247 st247 hB133
     replace hB1 := hB1.mono st247 (WL.no1 (by omega))
     replace hR22 := hR22.mono st247 (WL.no1 (by omega)) (WL.no1 (by omega))
     replace hB2 := hB2.mono st247 (WL.no1 (by omega))
     replace hR23 := hR23.mono st247 (WL.no1 (by omega)) (WL.no1 (by omega))
     replace hR24 := hR24.mono st247 (WL.no1 (by omega)) (WL.no1 (by omega))
     replace hB84 := hB84.mono st247 (WL.no1 (by omega))
     replace hR137 := hR137.mono st247 (WL.no1 (by omega))
     replace hR138 := hR138.mono st247 (WL.no1 (by omega))
     replace hR139 := hR139.mono st247 (WL.no1 (by omega))
     replace hR1 := hR1.mono st247 (WL.no1 (by omega))
     replace hB125 := hB125.mono st247 (WL.no1 (by omega))
     replace hR161 := hR161.mono st247 (WL.no1 (by omega))
     replace hR162 := hR162.mono st247 (WL.no1 (by omega))
     replace hR163 := hR163.mono st247 (WL.no1 (by omega))
     replace hB127 := hB127.mono st247 (WL.no1 (by omega))
     replace hB128 := hB128.mono st247 (WL.no1 (by omega))
     replace hB132 := hB132.mono st247 (WL.no1 (by omega))
     replace tot := tot.trans (st247.up1 (.inr (by omega)))
     clear hB131
     have hB131 := hB133
     clear hB133
     refine WP.stl 1 ?_
     refine WP.storeB (ty := 37) (off := 0) (v := AG [encA .u8 d159]) hB132 [encA .u8 d159] [8] (by kernel_rfl) (by kernel_rfl) (by simp [len_encA]) (by kernel_rfl) [encA .u8 d159] (by kernel_rfl) (.arr .nil) ?_
     intro g248 st248 hB134
     replace hB1 := hB1.mono st248 (WL.no1 (by omega))
     replace hR22 := hR22.mono st248 (WL.no1 (by omega)) (WL.no1 (by omega))
     replace hB2 := hB2.mono st248 (WL.no1 (by omega))
     replace hR23 := hR23.mono st248 (WL.no1 (by omega)) (WL.no1 (by omega))
     replace hR24 := hR24.mono st248 (WL.no1 (by omega)) (WL.no1 (by omega))
     replace hB84 := hB84.mono st248 (WL.no1 (by omega))
     replace hR137 := hR137.mono st248 (WL.no1 (by omega))
     replace hR138 := hR138.mono st248 (WL.no1 (by omega))
     replace hR139 := hR139.mono st248 (WL.no1 (by omega))
     replace hR1 := hR1.mono st248 (WL.no1 (by omega))
     replace hB125 := hB125.mono st248 (WL.no1 (by omega))
     replace hR161 := hR161.mono st248 (WL.no1 (by omega))
     replace hR162 := hR162.mono st248 (WL.no1 (by omega))
     replace hR163 := hR163.mono st248 (WL.no1 (by omega))
     replace hB127 := hB127.mono st248 (WL.no1 (by omega))
     replace hB128 := hB128.mono st248 (WL.no1 (by omega))
     replace hB131 := hB131.mono st248 (WL.no1 (by omega))
     replace tot := tot.trans (st248.up1 (.inr (by omega)))
     clear hB132
     have hB132 := hB134
     clear hB134
     refine WP.dn ?_
     refine NX.then_n ?_
     refine CP.cut (fun tm g => ∃ (q16 : Bool), Fr 154 [(1, .int .i64 x1), (5, .pointer (some ⟨b1, 0, none⟩)), (6, .slice a23 n16 c19), (7, .slice a24 n17 c20), (10, .pointer (some ⟨b42, 0, none⟩)), (12, .pointer (some ⟨b62, 0, none⟩)), (35, .slice a1 n1 c1), (36, .int .i64 (l1.length : Int)), (37, .int .i64 x15), (71, .slice a24 n17 c20), (72, .int .i64 (l14.length : Int)), (73, .int .i64 x90), (108, .bool q16)] tm ∧ Step (fun l => NoM l ∨ t ≤ l) g0 g ∧ Box g (t + 1) b1 121 [[.slice a22 n15 c18], [.map (some b2)]] [1, 1] ∧ OwnS k_S_notary_entry g (t + 4) 126 a22 n15 c18 l12 ∧ MapB g (t + 2) b2 kv_S_notary_entry (Value.int .i64) w2 ∧ OwnS k_S_punish_Thing g (t + 7) 43 a23 n16 c19 l13 ∧ OwnS k_S_punish_Thing g (t + 12) 43 a24 n17 c20 l14 ∧ Box g (t + 60) b42 43 [[.int .i64 x87], encA .u8 d131, [.int .i64 x88], [.slice a137 n103 c119], encA .u8 d132, [.int .i64 x89], encA .u8 d133, [.slice a138 n104 c120], [.slice a139 n105 c121]] [1, 8, 1, 1, 8, 1, 8, 1, 1] ∧ RdS (Kd.int .u8) g 5 a137 n103 c119 l74 ∧ RdS (Kd.int .u8) g 5 a138 n104 c120 l75 ∧ RdS (Kd.int .u8) g 5 a139 n105 c121 l76 ∧ Box g (t + 82) b62 43 [[.int .i64 ((getI l14 x90).f1)], encA .u8 ((getI l14 x90).f2), [.int .i64 ((getI l14 x90).f3)], [.slice a161 n123 c141], encA .u8 ((getI l14 x90).f5), [.int .i64 ((getI l14 x90).f6)], encA .u8 ((getI l14 x90).f7), [.slice a162 n124 c142], [.slice a163 n125 c143]] [1, 8, 1, 1, 8, 1, 8, 1, 1] ∧ RdS (Kd.int .u8) g 5 a161 n123 c141 ((getI l14 x90).f4) ∧ RdS (Kd.int .u8) g 5 a162 n124 c142 ((getI l14 x90).f8) ∧ RdS (Kd.int .u8) g 5 a163 n125 c143 ((getI l14 x90).f9) ∧ RdS k_S_baizelaw34_Deed g 78 a1 n1 c1 l1 ∧ (F.baizelaw34_PunishHonest.c4 (F.baizelaw34_PunishHonest.l2 (F.baizelaw34_PunishHonest.l1 l1 x1 k1) x1 l12 w2 l13 l14 x15 k2) l14 x87 d131 x88 l74 d132 x89 d133 l75 l76 x90 q16) = some o1) ?_ ?_
     ·refine CP.region ?_
      refine WP.stl 1 ?_
      refine WP.loadB (v := .int .i64 ((getI l14 x90).f1)) hB125 (by kernel_rfl) (by kernel_rfl) ?_
      refine WP.stl 1 ?_
      refine WP.loadB (v := .int .i64 x87) hB84 (by kernel_rfl) (by kernel_rfl) ?_
      refine WP.stl 2 ?_
      refine WP.guard 94 (b := (((getI l14 x90).f1) == x87)) (by kernel_rfl) (fun h58 => ?_) (fun h58 => ?_)
      ·replace hs := of_if_t hs h58
       refine WP.loadB (v := AG [encA .u8 d156]) hB127 (by kernel_rfl) (by kernel_rfl) ?_
       refine WP.loadB (v := AG [encA .u8 d158]) hB131 (by kernel_rfl) (by kernel_rfl) ?_
       refine WP.eqV (by kernel_rfl) (by kernel_rfl) (EqV.arr (d := 9998) (t := 37) (e := 5) (m := 8) (k := .u8) (x := d156) (y := d158) (by kernel_rfl) (by kernel_rfl)) ?_
       refine WP.stl 2 ?_
       refine WP.guard 99 (b := (d156.1 == d158.1)) (by kernel_rfl) (fun h59 => ?_) (fun h59 => ?_)
       ·replace hs := of_if_t hs h59
        refine WP.stl 5 ?_
        refine WP.guard 104 (b := (x106 == x107)) (by kernel_rfl) (fun h60 => ?_) (fun h60 => ?_)
        ·replace hs := of_if_t hs h60
         refine WP.loadB (v := AG [encA .u8 d157]) hB128 (by kernel_rfl) (by kernel_rfl) ?_
         refine WP.loadB (v := AG [encA .u8 d159]) hB132 (by kernel_rfl) (by kernel_rfl) ?_
         refine WP.eqV (by kernel_rfl) (by kernel_rfl) (EqV.arr (d := 9998) (t := 37) (e := 5) (m := 8) (k := .u8) (x := d157) (y := d159) (by kernel_rfl) (by kernel_rfl)) ?_
         refine WP.stl 1 ?_
         refine WP.dn ?_
         refine NX.post ?_
         exact ⟨(d157.1 == d159.1), ⟨by kernel_rfl, by kernel_rfl⟩, tot, hB1, hR22, hB2, hR23, hR24, hB84, hR137, hR138, hR139, hB125, hR161, hR162, hR163, hR1, hs⟩
        replace hs := of_if_f hs h60
        refine WP.stl 4 ?_
        refine WP.dn ?_
        refine NX.post ?_
        exact ⟨false, ⟨by kernel_rfl, by kernel_rfl⟩, tot, hB1, hR22, hB2, hR23, hR24, hB84, hR137, hR138, hR139, hB125, hR161, hR162, hR163, hR1, hs⟩
       replace hs := of_if_f hs h59
       refine WP.stl 9 ?_
       refine WP.dn ?_
       refine NX.post ?_
       exact ⟨false, ⟨by kernel_rfl, by kernel_rfl⟩, tot, hB1, hR22, hB2, hR23, hR24, hB84, hR137, hR138, hR139, hB125, hR161, hR162, hR163, hR1, hs⟩
      replace hs := of_if_f hs h58
      refine WP.stl 14 ?_
      refine WP.dn ?_
      refine NX.post ?_
      exact ⟨false, ⟨by kernel_rfl, by kernel_rfl⟩, tot, hB1, hR22, hB2, hR23, hR24, hB84, hR137, hR138, hR139, hB125, hR161, hR162, hR163, hR1, hs⟩
     clear tot hs hB1 hR22 hB2 hR23 hR24 hB84 hR137 hR138 hR139 hR1 hB125 hR161 hR162 hR163 hB127 hB128 hB131 hB132
     rintro tm g ⟨q16, hF, tot, hB1, hR22, hB2, hR23, hR24, hB84, hR137, hR138, hR139, hB125, hR161, hR162, hR163, hR1, hs⟩
     clear ds
     obtain ⟨ds, rfl⟩ := hF.open
     clear hF
     unfold F.baizelaw34_PunishHonest.c4 at hs
     refine CP.cond (b := q16) (by kernel_rfl) (fun h57 => ?_) (fun h57 => ?_)
     ·replace hs := of_if_t hs h57
      refine CP.region ?_
      refine WP.loadB (v := AG [[.int .i64 ((getI l14 x90).f1)], encA .u8 ((getI l14 x90).f2), [.int .i64 ((getI l14 x90).f3)], [.slice a161 n123 c141], encA .u8 ((getI l14 x90).f5), [.int .i64 ((getI l14 x90).f6)], encA .u8 ((getI l14 x90).f7), [.slice a162 n124 c142], [.slice a163 n125 c143]]) hB125 (by kernel_rfl) (by kernel_rfl) ?_
      refine WP.storeB (ty := 43) (off := 0) (v := AG [[.int .i64 ((getI l14 x90).f1)], encA .u8 ((getI l14 x90).f2), [.int .i64 ((getI l14 x90).f3)], [.slice a161 n123 c141], encA .u8 ((getI l14 x90).f5), [.int .i64 ((getI l14 x90).f6)], encA .u8 ((getI l14 x90).f7), [.slice a162 n124 c142], [.slice a163 n125 c143]]) hB84 [[.int .i64 ((getI l14 x90).f1)], encA .u8 ((getI l14 x90).f2), [.int .i64 ((getI l14 x90).f3)], [.slice a161 n123 c141], encA .u8 ((getI l14 x90).f5), [.int .i64 ((getI l14 x90).f6)], encA .u8 ((getI l14 x90).f7), [.slice a162 n124 c142], [.slice a163 n125 c143]] [1, 8, 1, 1, 8, 1, 8, 1, 1] (by kernel_rfl) (by kernel_rfl) (by simp [len_encA]) (by kernel_rfl) [[.int .i64 ((getI l14 x90).f1)], encA .u8 ((getI l14 x90).f2), [.int .i64 ((getI l14 x90).f3)], [.slice a161 n123 c141], encA .u8 ((getI l14 x90).f5), [.int .i64 ((getI l14 x90).f6)], encA .u8 ((getI l14 x90).f7), [.slice a162 n124 c142], [.slice a163 n125 c143]] (by kernel_rfl) (.one rfl (.arr (.one rfl (.one rfl (.arr (.one rfl (.arr (.one rfl (.one rfl .nil))))))))) ?_
      intro g249 st249 hB135
      replace hB1 := hB1.mono st249 (WL.no1 (by omega))
      replace hR22 := hR22.mono st249 (WL.no1 (by omega)) (WL.no1 (by omega))
      replace hB2 := hB2.mono st249 (WL.no1 (by omega))
      replace hR23 := hR23.mono st249 (WL.no1 (by omega)) (WL.no1 (by omega))
      replace hR24 := hR24.mono st249 (WL.no1 (by omega)) (WL.no1 (by omega))
      replace hR161 := hR161.mono st249 (WL.no1 (by omega))
      replace hR162 := hR162.mono st249 (WL.no1 (by omega))
      replace hR163 := hR163.mono st249 (WL.no1 (by omega))
      replace hB125 := hB125.mono st249 (WL.no1 (by omega))
      replace hR1 := hR1.mono st249 (WL.no1 (by omega))
      replace tot := tot.trans (st249.up1 (.inr (by omega)))
      clear hB84
      have hB84 := hB135
      clear hB135
      refine WP.dn ?_
      refine NX.block_n ?_
      refine NX.post ?_
      exact ⟨(getI l14 x90).f1, (getI l14 x90).f2, (getI l14 x90).f3, (getI l14 x90).f4, a161, n123, c141, (getI l14 x90).f5, (getI l14 x90).f6, (getI l14 x90).f7, (getI l14 x90).f8, a162, n124, c142, (getI l14 x90).f9, a163, n125, c143, ⟨by kernel_rfl, by kernel_rfl⟩, tot, hB1, hR22, hB2, hR23, hR24, hB84, hR161, hR162, hR163, hR1, hs⟩
     replace hs := of_if_f hs h57
     refine CP.skip ?_
     refine NX.block_n ?_
     refine NX.post ?_
     exact ⟨x87, d131, x88, l74, a137, n103, c119, d132, x89, d133, l75, a138, n104, c120, l76, a139, n105, c121, ⟨by kernel_rfl, by kernel_rfl⟩, tot, hB1, hR22, hB2, hR23, hR24, hB84, hR137, hR138, hR139, hR1, hs⟩
    clear tot hs hB1 hR22 hB2 hR23 hR24 hB84 hR137 hR138 hR139 hR1
    rintro tm g ⟨x103, d153, x104, l84, a158, n120, c138, d154, x105, d155, l85, a159, n121, c139, l86, a160, n122, c140, hF, tot, hB1, hR22, hB2, hR23, hR24, hB84, hR158, hR159, hR160, hR1, hs⟩
    clear ds
    obtain ⟨ds, rfl⟩ := hF.open
    clear hF
    unfold F.baizelaw34_PunishHonest.c3 at hs
    refine CP.region ?_
    refine WP.stl 2 ?_
    refine WP.dn ?_
    refine NX.post ?_
    exact ⟨x103, d153, x104, l84, a158, n120, c138, d154, x105, d155, l85, a159, n121, c139, l86, a160, n122, c140, (IntKind.i64.wrap (x90 + 1)), ⟨by kernel_rfl, by kernel_rfl⟩, tot, hB1, hR22, hB2, hR23, hR24, hB84, hR158, hR159, hR160, hR1, hs⟩
   replace hs := of_if_f hs h49
   refine CP.exit ?_
   refine NX.then_e ?_
   refine NX.then_e ?_
   refine NX.block_s ?_
   refine NX.then_n ?_
   refine CP.seq ?_
   replace hs := Option.bind_eq_some_iff.1 hs
   obtain ⟨d160, hk81, hs⟩ := hs
   replace hs := Option.bind_eq_some_iff.1 hs
   obtain ⟨d161, hk82, hs⟩ := hs
   replace hs := Option.bind_eq_some_iff.1 hs
   obtain ⟨d162, hk83, hs⟩ := hs
   replace hs := Option.bind_eq_some_iff.1 hs
   obtain ⟨⟨l87, x108, d163, d164⟩, hk84, hs⟩ := hs
   dsimp only at hs
   refine CP.drawL (by kernel_rfl) [2, 3, 4, 5, 9, 14] N.baizelaw34_PunishHonest_1 [⟨none, [2], [], fun l g => Box g (t + 1) b1 121 [[.slice a22 n15 c18], [.map (some b2)]] [1, 1]⟩, ⟨none, [0], [], fun l g => OwnS k_S_notary_entry g (t + 4) 126 a22 n15 c18 l12⟩, ⟨none, [1], [], fun l g => MapB g (t + 2) b2 kv_S_notary_entry (Value.int .i64) w2⟩, ⟨none, [3], [], fun l g => Box g (t + 60) b42 43 [[.int .i64 x87], encA .u8 d131, [.int .i64 x88], [.slice a137 n103 c119], encA .u8 d132, [.int .i64 x89], encA .u8 d133, [.slice a138 n104 c120], [.slice a139 n105 c121]] [1, 8, 1, 1, 8, 1, 8, 1, 1]⟩, ⟨none, [], [], fun l g => RdS (Kd.int .u8) g 5 a137 n103 c119 l74⟩, ⟨none, [], [], fun l g => RdS (Kd.int .u8) g 5 a138 n104 c120 l75⟩, ⟨none, [], [], fun l g => RdS (Kd.int .u8) g 5 a139 n105 c121 l76⟩, ⟨some 0, [], [0], fun l g => l.getD 0 undef = AG [encA .u8 d160]⟩, ⟨some 1, [], [1], fun l g => l.getD 0 undef = .iface 123 (AG [[.pointer (some ⟨b1, 0, none⟩)], encA .u8 d161])⟩, ⟨some 1, [0], [], fun l g => OwnS k_S_notary_entry g (t + 4) 126 a22 n15 c18 l12⟩, ⟨some 2, [], [2], fun l g => l.getD 0 undef = AG [[.int .i64 x87], encA .u8 d131, [.int .i64 x88], [.slice a137 n103 c119], encA .u8 d132, [.int .i64 x89], encA .u8 d133, [.slice a138 n104 c120], [.slice a139 n105 c121]]⟩, ⟨some 3, [], [3], fun l g => l.getD 0 undef = AG [encA .u8 d162]⟩, ⟨some 4, [1], [], fun l g => MapB g (t + 2) b2 kv_S_notary_entry (Value.int .i64) d163⟩, ⟨some 4, [0, 2], [4], fun l g => ∃ (a164 : Option Addr) (c144 : Nat) (a165 : Option Addr) (c145 : Nat), l.getD 0 undef = .tuple #[.slice a164 l87.length c144, .int .i64 x108] ∧ OwnS (Kd.int .u8) g (t + 87) 5 a164 l87.length c144 l87 ∧ OwnS k_S_notary_entry g (t + 4) 126 a165 d164.length c145 d164 ∧ Box g (t + 1) b1 121 [[.slice a165 d164.length c145], [.map (some b2)]] [1, 1]⟩, ⟨some 5, [0, 2, 3], [4], fun l g => ∃ (a164 : Option Addr) (c144 : Nat) (a165 : Option Addr) (c145 : Nat), l.getD 0 undef = .tuple #[.slice a164 l87.length c144, .int .i64 x108] ∧ OwnS (Kd.int .u8) g (t + 87) 5 a164 l87.length c144 l87 ∧ OwnS k_S_notary_entry g (t + 4) 126 a165 d164.length c145 d164 ∧ Box g (t + 1) b1 121 [[.slice a165 d164.length c145], [.map (some b2)]] [1, 1] ∧ Box g (t + 60) b42 43 [[.int .i64 x87], encA .u8 d131, [.int .i64 x88], [.slice a137 n103 c119], encA .u8 d132, [.int .i64 x89], encA .u8 d133, [.slice a138 n104 c120], [.slice a164 l87.length c144]] [1, 8, 1, 1, 8, 1, 8, 1, 1]⟩] [[], [0], [], [], [1, 2, 0], [3]] [(t + 4), (t + 2), (t + 1), (t + 60)] [0, 1, 13] [6, 7, 8, 10, 11, 12] (by kernel_rfl) (by simp <;> omega) (by simp <;> omega) ⟨fun _ _ _ _ st h0 hl hj hB1 => (hB1.mono st (hj 2 (by simp) _ rfl)), fun _ _ _ _ st h0 hl hj hR22 => (hR22.mono st h0 (hj 0 (by simp) _ rfl)), fun _ _ _ _ st h0 hl hj hB2 => (hB2.mono st (hj 1 (by simp) _ rfl)), fun _ _ _ _ st h0 hl hj hB84 => (hB84.mono st (hj 3 (by simp) _ rfl)), fun _ _ _ _ st h0 hl hj hR137 => (RdS.mono (e := 5) hR137 st h0), fun _ _ _ _ st h0 hl hj hR138 => (RdS.mono (e := 5) hR138 st h0), fun _ _ _ _ st h0 hl hj hR139 => (RdS.mono (e := 5) hR139 st h0), fun _ _ _ _ st h0 hl hj e0 => e0, fun _ _ _ _ st h0 hl hj e1 => e1, fun _ _ _ _ st h0 hl hj hR22 => (hR22.mono st h0 (hj 0 (by simp) _ rfl)), fun _ _ _ _ st h0 hl hj e2 => e2, fun _ _ _ _ st h0 hl hj e3 => e3, fun _ _ _ _ st h0 hl hj hB2 => (hB2.mono st (hj 1 (by simp) _ rfl)), fun _ _ _ _ st h0 hl hj ⟨a164, c144, a165, c145, e4, hR164, hR165, hB1⟩ => ⟨a164, c144, a165, c145, e4, (hR164.mono st h0 (fun h => absurd (hl _ h) (by simp <;> omega))), (hR165.mono st h0 (hj 0 (by simp) _ rfl)), (hB1.mono st (hj 2 (by simp) _ rfl))⟩, fun _ _ _ _ st h0 hl hj ⟨a164, c144, a165, c145, e4, hR164, hR165, hB1, hB84⟩ => ⟨a164, c144, a165, c145, e4, (hR164.mono st h0 (fun h => absurd (hl _ h) (by simp <;> omega))), (hR165.mono st h0 (hj 0 (by simp) _ rfl)), (hB1.mono st (hj 2 (by simp) _ rfl)), (hB84.mono st (hj 3 (by simp) _ rfl))⟩, tv⟩ ⟨hB1, hR22, hB2, hB84, hR137, hR138, hR139, tv, tv, tv, tv, tv, tv, tv, tv, tv⟩ (by kernel_rfl) (fun vs => by kernel_rfl) ?_ ?_ ?_
   ·intro j hj
    have hq : j = 0 ∨ j = 1 ∨ j = 2 ∨ j = 3 ∨ j = 4 ∨ j = 5 := by have h : j < 6 := hj; omega
    rcases hq with rfl | rfl | rfl | rfl | rfl | rfl
    ·intro vs gq stq hl hf
     obtain ⟨v0, v1, v2, v3, v4, v5, rfl⟩ := len_k6 hl
     have e1 := (show v1 = .iface 123 (AG [[.pointer (some ⟨b1, 0, none⟩)], encA .u8 d161]) from hf _ (memI 8 rfl) (by kernel_rfl))
     subst e1
     show Option.isSome _ = true
     kernel_rfl
    ·intro vs gq stq hl hf
     obtain ⟨v0, v1, v2, v3, v4, v5, rfl⟩ := len_k6 hl
     have e1 := (show v1 = .iface 123 (AG [[.pointer (some ⟨b1, 0, none⟩)], encA .u8 d161]) from hf _ (memI 8 rfl) (by kernel_rfl))
     subst e1
     show Option.isSome _ = true
     kernel_rfl
    ·intro vs gq stq hl hf
     obtain ⟨v0, v1, v2, v3, v4, v5, rfl⟩ := len_k6 hl
     have e1 := (show v1 = .iface 123 (AG [[.pointer (some ⟨b1, 0, none⟩)], encA .u8 d161]) from hf _ (memI 8 rfl) (by kernel_rfl))
     subst e1
     show Option.isSome _ = true
     kernel_rfl
    ·intro vs gq stq hl hf
     obtain ⟨v0, v1, v2, v3, v4, v5, rfl⟩ := len_k6 hl
     obtain ⟨a164, c144, a165, c145, e4, hR164, hR165, hB1⟩ := (show ∃ (a164 : Option Addr) (c144 : Nat) (a165 : Option Addr) (c145 : Nat), v4 = .tuple #[.slice a164 l87.length c144, .int .i64 x108] ∧ OwnS (Kd.int .u8) gq (t + 87) 5 a164 l87.length c144 l87 ∧ OwnS k_S_notary_entry gq (t + 4) 126 a165 d164.length c145 d164 ∧ Box gq (t + 1) b1 121 [[.slice a165 d164.length c145], [.map (some b2)]] [1, 1] from hf _ (memI 13 rfl) (by kernel_rfl))
     subst e4
     show Option.isSome _ = true
     kernel_rfl
    ·intro vs gq stq hl hf
     obtain ⟨v0, v1, v2, v3, v4, v5, rfl⟩ := len_k6 hl
     obtain ⟨a164, c144, a165, c145, e4, hR164, hR165, hB1⟩ := (show ∃ (a164 : Option Addr) (c144 : Nat) (a165 : Option Addr) (c145 : Nat), v4 = .tuple #[.slice a164 l87.length c144, .int .i64 x108] ∧ OwnS (Kd.int .u8) gq (t + 87) 5 a164 l87.length c144 l87 ∧ OwnS k_S_notary_entry gq (t + 4) 126 a165 d164.length c145 d164 ∧ Box gq (t + 1) b1 121 [[.slice a165 d164.length c145], [.map (some b2)]] [1, 1] from hf _ (memI 13 rfl) (by kernel_rfl))
     subst e4
     show Option.isSome _ = true
     kernel_rfl
    ·intro vs gq stq hl hf
     obtain ⟨v0, v1, v2, v3, v4, v5, rfl⟩ := len_k6 hl
     obtain ⟨a164, c144, a165, c145, e4, hR164, hR165, hB1⟩ := (show ∃ (a164 : Option Addr) (c144 : Nat) (a165 : Option Addr) (c145 : Nat), v4 = .tuple #[.slice a164 l87.length c144, .int .i64 x108] ∧ OwnS (Kd.int .u8) gq (t + 87) 5 a164 l87.length c144 l87 ∧ OwnS k_S_notary_entry gq (t + 4) 126 a165 d164.length c145 d164 ∧ Box gq (t + 1) b1 121 [[.slice a165 d164.length c145], [.map (some b2)]] [1, 1] from hf _ (memI 13 rfl) (by kernel_rfl))
     subst e4
     show Option.isSome _ = true
     kernel_rfl
   ·intro j hj
    have hq : j = 0 ∨ j = 1 ∨ j = 2 ∨ j = 3 ∨ j = 4 ∨ j = 5 := by have h : j < 6 := hj; omega
    rcases hq with rfl | rfl | rfl | rfl | rfl | rfl
    ·intro vs gq stq hl hf
     obtain ⟨v0, v1, v2, v3, v4, v5, rfl⟩ := len_k6 hl
     have hcal81 := P.baizelaw34_key gq x1 d160 hk81
     refine WP.callC hcal81 (by kernel_rfl) ?_
     rintro _ g250 st250 rfl
     refine WP.dn (Shown.o (v := AG [encA .u8 d160]) st250.pure ?_)
     exact ⟨tv, tv, tv, tv, tv, tv, tv, rfl, tv, tv, tv, tv, tv, tv, tv, tv⟩
    ·intro vs gq stq hl hf
     obtain ⟨v0, v1, v2, v3, v4, v5, rfl⟩ := len_k6 hl
     have hB1 := (show Box gq (t + 1) b1 121 [[.slice a22 n15 c18], [.map (some b2)]] [1, 1] from hf _ (memI 0 rfl) (by kernel_rfl))
     have hR22 := (show OwnS k_S_notary_entry gq (t + 4) 126 a22 n15 c18 l12 from hf _ (memI 1 rfl) (by kernel_rfl))
     have hB2 := (show MapB gq (t + 2) b2 kv_S_notary_entry (Value.int .i64) w2 from hf _ (memI 2 rfl) (by kernel_rfl))
     have e0 := (show v0 = AG [encA .u8 d160] from hf _ (memI 7 rfl) (by kernel_rfl))
     subst e0
     have hS9 : 0 ∉ ([(t + 4)] : List Nat) := by simp <;> omega
     have stl9 := GW.lend_step gq [(t + 4)]
     have hRl11 := hR22.lendTo hS9 (by simp)
     refine WP.regw (g' := GW.lend gq [(t + 4)]) rfl ?_
     have hcal82 := P.notary_Book_Signer (GW.lend gq [(t + 4)]) (t + 1) (t + 2) l12 w2 d160 a22 n15 c18 b1 b2 hRl11 (hB2.mono stl9 (WL.no (by simp <;> omega))) (hB1.mono stl9 (WL.no (by simp <;> omega))) (by omega) (by omega) (by omega) d161 hk82
     refine WP.callC hcal82 (by kernel_rfl) ?_
     rintro _ g251 st251 rfl
     have st252 := (GW.back_step st251).lentS
     have hO11 := hR22.backTo hS9 (by simp) st251 (fun x => x)
     refine WP.regw (g' := GW.back gq g251 [(t + 4)]) rfl ?_
     generalize GW.back gq g251 [(t + 4)] = g252 at *
     refine WP.dn (Shown.o (v := .iface 123 (AG [[.pointer (some ⟨b1, 0, none⟩)], encA .u8 d161])) st252 ?_)
     exact ⟨tv, tv, tv, tv, tv, tv, tv, tv, rfl, hO11, tv, tv, tv, tv, tv, tv⟩
    ·intro vs gq stq hl hf
     obtain ⟨v0, v1, v2, v3, v4, v5, rfl⟩ := len_k6 hl
     have hB84 := (show Box gq (t + 60) b42 43 [[.int .i64 x87], encA .u8 d131, [.int .i64 x88], [.slice a137 n103 c119], encA .u8 d132, [.int .i64 x89], encA .u8 d133, [.slice a138 n104 c120], [.slice a139 n105 c121]] [1, 8, 1, 1, 8, 1, 8, 1, 1] from hf _ (memI 3 rfl) (by kernel_rfl))
     refine WP.loadB (v := AG [[.int .i64 x87], encA .u8 d131, [.int .i64 x88], [.slice a137 n103 c119], encA .u8 d132, [.int .i64 x89], encA .u8 d133, [.slice a138 n104 c120], [.slice a139 n105 c121]]) hB84 (by kernel_rfl) (by kernel_rfl) ?_
     refine WP.dn (Shown.ok (v := AG [[.int .i64 x87], encA .u8 d131, [.int .i64 x88], [.slice a137 n103 c119], encA .u8 d132, [.int .i64 x89], encA .u8 d133, [.slice a138 n104 c120], [.slice a139 n105 c121]]) (by kernel_rfl) (Step.refl _ _) ?_)
     exact ⟨tv, tv, tv, tv, tv, tv, tv, tv, tv, tv, rfl, tv, tv, tv, tv, tv⟩
    ·intro vs gq stq hl hf
     obtain ⟨v0, v1, v2, v3, v4, v5, rfl⟩ := len_k6 hl
     have hR137 := (show RdS (Kd.int .u8) gq 5 a137 n103 c119 l74 from hf _ (memI 4 rfl) (by kernel_rfl))
     have hR138 := (show RdS (Kd.int .u8) gq 5 a138 n104 c120 l75 from hf _ (memI 5 rfl) (by kernel_rfl))
     have hR139 := (show RdS (Kd.int .u8) gq 5 a139 n105 c121 l76 from hf _ (memI 6 rfl) (by kernel_rfl))
     have e2 := (show v2 = AG [[.int .i64 x87], encA .u8 d131, [.int .i64 x88], [.slice a137 n103 c119], encA .u8 d132, [.int .i64 x89], encA .u8 d133, [.slice a138 n104 c120], [.slice a139 n105 c121]] from hf _ (memI 10 rfl) (by kernel_rfl))
     subst e2
     have hcal83 := P.punish_Thing_Digest gq x87 d131 x88 l74 d132 x89 d133 l75 l76 a137 n103 c119 a138 n104 c120 a139 n105 c121 hR137 hR138 hR139 d162 hk83
     refine WP.callC hcal83 (by kernel_rfl) ?_
     rintro _ g253 st253 rfl
     refine WP.dn (Shown.o (v := AG [encA .u8 d162]) st253.pure ?_)
     exact ⟨tv, tv, tv, tv, tv, tv, tv, tv, tv, tv, tv, rfl, tv, tv, tv, tv⟩
    ·intro vs gq stq hl hf
     obtain ⟨v0, v1, v2, v3, v4, v5, rfl⟩ := len_k6 hl
     have hB1 := (show Box gq (t + 1) b1 121 [[.slice a22 n15 c18], [.map (some b2)]] [1, 1] from hf _ (memI 0 rfl) (by kernel_rfl))
     have hB2 := (show MapB gq (t + 2) b2 kv_S_notary_entry (Value.int .i64) w2 from hf _ (memI 2 rfl) (by kernel_rfl))
     have e1 := (show v1 = .iface 123 (AG [[.pointer (some ⟨b1, 0, none⟩)], encA .u8 d161]) from hf _ (memI 8 rfl) (by kernel_rfl))
     subst e1
     have hR22 := (show OwnS k_S_notary_entry gq (t + 4) 126 a22 n15 c18 l12 from hf _ (memI 9 rfl) (by kernel_rfl))
     have e3 := (show v3 = AG [encA .u8 d162] from hf _ (memI 11 rfl) (by kernel_rfl))
     subst e3
     have hcal84 := P.notary_bookSigner_Sign gq (t + 1) (t + 4) (t + 2) (t + 87) l12 w2 d161 d162 a22 n15 c18 b1 b2 hR22 hB2 hB1 (by omega) (by omega) (by omega) (by omega) (by omega) (by omega) l87 x108 d163 d164 hk84
     refine WP.callC hcal84 (by kernel_rfl) ?_
     rintro _ g254 st254 ⟨a164, n126, c144, a165, n127, c145, rfl, hR164, hB136, hR165, hB137⟩
     obtain rfl := hR164.len
     obtain rfl := hR165.len
     refine WP.dn (Shown.o (v := .tuple #[.slice a164 l87.length c144, .int .i64 x108]) st254 ?_)
     exact ⟨tv, tv, tv, tv, tv, tv, tv, tv, tv, tv, tv, tv, hB136, ⟨a164, c144, a165, c145, rfl, hR164, hR165, hB137⟩, tv, tv⟩
    ·intro vs gq stq hl hf
     obtain ⟨v0, v1, v2, v3, v4, v5, rfl⟩ := len_k6 hl
     have hB84 := (show Box gq (t + 60) b42 43 [[.int .i64 x87], encA .u8 d131, [.int .i64 x88], [.slice a137 n103 c119], encA .u8 d132, [.int .i64 x89], encA .u8 d133, [.slice a138 n104 c120], [.slice a139 n105 c121]] [1, 8, 1, 1, 8, 1, 8, 1, 1] from hf _ (memI 3 rfl) (by kernel_rfl))
     obtain ⟨a164, c144, a165, c145, e4, hR164, hR165, hB1⟩ := (show ∃ (a164 : Option Addr) (c144 : Nat) (a165 : Option Addr) (c145 : Nat), v4 = .tuple #[.slice a164 l87.length c144, .int .i64 x108] ∧ OwnS (Kd.int .u8) gq (t + 87) 5 a164 l87.length c144 l87 ∧ OwnS k_S_notary_entry gq (t + 4) 126 a165 d164.length c145 d164 ∧ Box gq (t + 1) b1 121 [[.slice a165 d164.length c145], [.map (some b2)]] [1, 1] from hf _ (memI 13 rfl) (by kernel_rfl))
     subst e4
     refine WP.storeB (ty := 33) (off := 29) (v := .slice a164 l87.length c144) hB84 [[.slice a164 l87.length c144]] [1] (by kernel_rfl) (by kernel_rfl) rfl (by kernel_rfl) [[.int .i64 x87], encA .u8 d131, [.int .i64 x88], [.slice a137 n103 c119], encA .u8 d132, [.int .i64 x89], encA .u8 d133, [.slice a138 n104 c120], [.slice a164 l87.length c144]] (by kernel_rfl) (.one rfl .nil) ?_
     intro g255 st255 hB138
     refine WP.dn (Shown.o (v := undef) st255 ?_)
     exact ⟨tv, tv, tv, tv, tv, tv, tv, tv, tv, tv, tv, tv, tv, tv, ⟨a164, c144, a165, c145, rfl, (hR164.mono st255 (WL.no (by simp <;> omega)) (WL.no (by simp <;> omega))), (hR165.mono st255 (WL.no (by simp <;> omega)) (WL.no (by simp <;> omega))), (hB1.mono st255 (WL.no (by simp <;> omega))), hB138⟩, tv⟩
   intro vs g256 st256 hl hf
   obtain ⟨v0, v1, v2, v3, v4, v5, rfl⟩ := len_k6 hl
   have hB2 := (show MapB g256 (t + 2) b2 kv_S_notary_entry (Value.int .i64) d163 from hf _ (memI 12 rfl) (by kernel_rfl))
   obtain ⟨a164, c144, a165, c145, e4, hR164, hR165, hB1, hB84⟩ := (show ∃ (a164 : Option Addr) (c144 : Nat) (a165 : Option Addr) (c145 : Nat), v4 = .tuple #[.slice a164 l87.length c144, .int .i64 x108] ∧ OwnS (Kd.int .u8) g256 (t + 87) 5 a164 l87.length c144 l87 ∧ OwnS k_S_notary_entry g256 (t + 4) 126 a165 d164.length c145 d164 ∧ Box g256 (t + 1) b1 121 [[.slice a165 d164.length c145], [.map (some b2)]] [1, 1] ∧ Box g256 (t + 60) b42 43 [[.int .i64 x87], encA .u8 d131, [.int .i64 x88], [.slice a137 n103 c119], encA .u8 d132, [.int .i64 x89], encA .u8 d133, [.slice a138 n104 c120], [.slice a164 l87.length c144]] [1, 8, 1, 1, 8, 1, 8, 1, 1] from hf _ (memI 14 rfl) (by kernel_rfl))
   subst e4
   replace hR23 := hR23.mono st256 (WL.no (by simp <;> omega)) (WL.no (by simp <;> omega))
   replace hR24 := hR24.mono st256 (WL.no (by simp <;> omega)) (WL.no (by simp <;> omega))
   replace hR137 := hR137.mono st256 (WL.no (by simp <;> omega))
   replace hR138 := hR138.mono st256 (WL.no (by simp <;> omega))
   replace hR1 := hR1.mono st256 (WL.no (by simp <;> omega))
   replace tot := tot.trans (st256.up (by intro l hl; simp at hl; rcases hl with rfl | rfl | rfl | rfl <;> first | exact .inr (by omega) | exact .inl (by simp [WL])))
   refine NX.then_n ?_
   refine CP.refr 154 [(1, .int .i64 x1), (5, .pointer (some ⟨b1, 0, none⟩)), (6, .slice a23 n16 c19), (7, .slice a24 n17 c20), (10, .pointer (some ⟨b42, 0, none⟩)), (35, .slice a1 n1 c1), (36, .int .i64 (l1.length : Int)), (37, .int .i64 x15)] (by kernel_rfl) (by kernel_rfl) ?_
   clear ds
   intro ds
   refine CP.seqR ?_
   refine WP.stl 1 ?_
   refine WP.loadB (v := AG [[.int .i64 x87], encA .u8 d131, [.int .i64 x88], [.slice a137 n103 c119], encA .u8 d132, [.int .i64 x89], encA .u8 d133, [.slice a138 n104 c120], [.slice a164 l87.length c144]]) hB84 (by kernel_rfl) (by kernel_rfl) ?_
   obtain ⟨g258, hw12, st258, hnew⟩ := hR164.freeze (by omega)
   refine WP.regw hw12 ?_
   replace hB1 := hB1.mono st258 (WL.no1 (by omega))
   replace hR165 := hR165.mono st258 (WL.no1 (by omega)) (WL.no1 (by omega))
   replace hB2 := hB2.mono st258 (WL.no1 (by omega))
   replace hR23 := hR23.mono st258 (WL.no1 (by omega)) (WL.no1 (by omega))
   replace hR24 := hR24.mono st258 (WL.no1 (by omega)) (WL.no1 (by omega))
   replace hB84 := hB84.mono st258 (WL.no1 (by omega))
   replace hR137 := hR137.mono st258 (WL.no1 (by omega))
   replace hR138 := hR138.mono st258 (WL.no1 (by omega))
   replace hR1 := hR1.mono st258 (WL.no1 (by omega))
   replace tot := tot.trans (st258.up1 (.inr (by omega)))
   clear hR164
   have hR164 := hnew
   clear hnew
   refine WP.mkSl (kd := k_S_punish_Thing) (t := 76) (e := 43) (bytes := 120) (t + 88) [AG [[.int .i64 x87], encA .u8 d131, [.int .i64 x88], [.slice a137 n103 c119], encA .u8 d132, [.int .i64 x89], encA .u8 d133, [.slice a138 n104 c120], [.slice a164 l87.length c144]]] [(⟨x87, d131, x88, l74, d132, x89, d133, l75, l87⟩ : S_punish_Thing)] (by kernel_rfl) (by kernel_rfl) (Nat.le_of_ble_eq_true rfl) (Nat.le_of_ble_eq_true rfl) (all_cons (Kd.len k_S_punish_Thing (g := g258) (x := (⟨x87, d131, x88, l74, d132, x89, d133, l75, l87⟩ : S_punish_Thing)) (k_S_punish_Thing.mk rfl rfl rfl ⟨_, _, _, rfl, hR137⟩ rfl rfl rfl ⟨_, _, _, rfl, hR138⟩ ⟨_, _, _, rfl, hR164⟩)) all_nil) (⟨_, _, rfl, (k_S_punish_Thing.mk rfl rfl rfl ⟨_, _, _, rfl, hR137⟩ rfl rfl rfl ⟨_, _, _, rfl, hR138⟩ ⟨_, _, _, rfl, hR164⟩), rfl⟩) rfl ?_
   intro g257 a166 st257 hR166
   replace hB1 := hB1.mono st257 (fun x => x)
   replace hR165 := hR165.mono st257 (fun x => x) (fun x => x)
   replace hB2 := hB2.mono st257 (fun x => x)
   replace hR23 := hR23.mono st257 (fun x => x) (fun x => x)
   replace hR24 := hR24.mono st257 (fun x => x) (fun x => x)
   replace hB84 := hB84.mono st257 (fun x => x)
   replace hR137 := hR137.mono st257 (fun x => x)
   replace hR138 := hR138.mono st257 (fun x => x)
   replace hR164 := hR164.mono st257 (fun x => x)
   replace hR1 := hR1.mono st257 (fun x => x)
   replace tot := tot.trans st257.pure
   by_cases hc37 : l14.length + ([(⟨x87, d131, x88, l74, d132, x89, d133, l75, l87⟩ : S_punish_Thing)]).length ≤ 1172812402961
   case neg => rw [if_neg hc37] at hs; cases hs
   replace hs := of_if_p hs hc37
   refine WP.append (kd := k_S_punish_Thing) (t := 76) (e := 43) (bytes := 120) (a2 := a166) (c2 := 1) hR24 hR166.src hR166.len (by kernel_rfl) (by kernel_rfl) (by omega) (by simp only [maxLen]; omega) (by omega) ?_
   intro g259 a167 c146 st259 hR167
   replace hB1 := hB1.mono st259 (WL.no1 (by omega))
   replace hR165 := hR165.mono st259 (WL.no1 (by omega)) (WL.no1 (by omega))
   replace hB2 := hB2.mono st259 (WL.no1 (by omega))
   replace hR23 := hR23.mono st259 (WL.no1 (by omega)) (WL.no1 (by omega))
   replace hB84 := hB84.mono st259 (WL.no1 (by omega))
   replace hR137 := hR137.mono st259 (WL.no1 (by omega))
   replace hR138 := hR138.mono st259 (WL.no1 (by omega))
   replace hR164 := hR164.mono st259 (WL.no1 (by omega))
   replace hR1 := hR1.mono st259 (WL.no1 (by omega))
   replace hR166 := hR166.mono st259 (WL.no1 (by omega)) (WL.no1 (by omega))
   replace tot := tot.trans (st259.up1 (.inr (by omega)))
   refine WP.stl 1 ?_
   refine WP.dn ?_
   refine NX.then_n ?_
   refine CP.region ?_
   refine WP.stl 1 ?_
   refine WP.loadB (v := AG [[.int .i64 x87], encA .u8 d131, [.int .i64 x88], [.slice a137 n103 c119], encA .u8 d132, [.int .i64 x89], encA .u8 d133, [.slice a138 n104 c120], [.slice a164 l87.length c144]]) hB84 (by kernel_rfl) (by kernel_rfl) ?_
   refine WP.mkSl (kd := k_S_punish_Thing) (t := 76) (e := 43) (bytes := 120) (t + 89) [AG [[.int .i64 x87], encA .u8 d131, [.int .i64 x88], [.slice a137 n103 c119], encA .u8 d132, [.int .i64 x89], encA .u8 d133, [.slice a138 n104 c120], [.slice a164 l87.length c144]]] [(⟨x87, d131, x88, l74, d132, x89, d133, l75, l87⟩ : S_punish_Thing)] (by kernel_rfl) (by kernel_rfl) (Nat.le_of_ble_eq_true rfl) (Nat.le_of_ble_eq_true rfl) (all_cons (Kd.len k_S_punish_Thing (g := g259) (x := (⟨x87, d131, x88, l74, d132, x89, d133, l75, l87⟩ : S_punish_Thing)) (k_S_punish_Thing.mk rfl rfl rfl ⟨_, _, _, rfl, hR137⟩ rfl rfl rfl ⟨_, _, _, rfl, hR138⟩ ⟨_, _, _, rfl, hR164⟩)) all_nil) (⟨_, _, rfl, (k_S_punish_Thing.mk rfl rfl rfl ⟨_, _, _, rfl, hR137⟩ rfl rfl rfl ⟨_, _, _, rfl, hR138⟩ ⟨_, _, _, rfl, hR164⟩), rfl⟩) rfl ?_
   intro g260 a168 st260 hR168
   replace hB1 := hB1.mono st260 (fun x => x)
   replace hR165 := hR165.mono st260 (fun x => x) (fun x => x)
   replace hB2 := hB2.mono st260 (fun x => x)
   replace hR23 := hR23.mono st260 (fun x => x) (fun x => x)
   replace hR167 := hR167.mono st260 (fun x => x) (fun x => x)
   replace hB84 := hB84.mono st260 (fun x => x)
   replace hR137 := hR137.mono st260 (fun x => x)
   replace hR138 := hR138.mono st260 (fun x => x)
   replace hR164 := hR164.mono st260 (fun x => x)
   replace hR1 := hR1.mono st260 (fun x => x)
   replace tot := tot.trans st260.pure
   by_cases hc38 : l13.length + ([(⟨x87, d131, x88, l74, d132, x89, d133, l75, l87⟩ : S_punish_Thing)]).length ≤ 1172812402961
   case neg => rw [if_neg hc38] at hs; cases hs
   replace hs := of_if_p hs hc38
   refine WP.append (kd := k_S_punish_Thing) (t := 76) (e := 43) (bytes := 120) (a2 := a168) (c2 := 1) hR23 hR168.src hR168.len (by kernel_rfl) (by kernel_rfl) (by omega) (by simp only [maxLen]; omega) (by omega) ?_
   intro g261 a169 c147 st261 hR169
   replace hB1 := hB1.mono st261 (WL.no1 (by omega))
   replace hR165 := hR165.mono st261 (WL.no1 (by omega)) (WL.no1 (by omega))
   replace hB2 := hB2.mono st261 (WL.no1 (by omega))
   replace hR167 := hR167.mono st261 (WL.no1 (by omega)) (WL.no1 (by omega))
   replace hB84 := hB84.mono st261 (WL.no1 (by omega))
   replace hR137 := hR137.mono st261 (WL.no1 (by omega))
   replace hR138 := hR138.mono st261 (WL.no1 (by omega))
   replace hR164 := hR164.mono st261 (WL.no1 (by omega))
   replace hR1 := hR1.mono st261 (WL.no1 (by omega))
   replace hR168 := hR168.mono st261 (WL.no1 (by omega)) (WL.no1 (by omega))
   replace tot := tot.trans (st261.up1 (.inr (by omega)))
   refine WP.stl 1 ?_
   refine WP.dn ?_
   refine NX.block_n ?_
   refine NX.post ?_
   exact ⟨d164, a165, d164.length, c145, d163, (l13 ++ [(⟨x87, d131, x88, l74, d132, x89, d133, l75, l87⟩ : S_punish_Thing)]), a169, (n16 + 1), c147, (l14 ++ [(⟨x87, d131, x88, l74, d132, x89, d133, l75, l87⟩ : S_punish_Thing)]), a167, (n17 + 1), c146, ⟨by kernel_rfl, by kernel_rfl⟩, tot, hB1, hR165, hB2, hR169, hR167, hR1, hs⟩
  clear tot hs hB1 hR22 hB2 hR23 hR24 hR1
  rintro tm g ⟨l61, a112, n84, c97, w5, l62, a113, n85, c98, l63, a114, n86, c99, hF, tot, hB1, hR112, hB2, hR113, hR114, hR1, hs⟩
  clear ds
  obtain ⟨ds, rfl⟩ := hF.open
  clear hF
  unfold F.baizelaw34_PunishHonest.c2 at hs
  refine CP.region ?_
  refine WP.stl 2 ?_
  refine WP.dn ?_
  refine NX.post ?_
  exact ⟨l61, a112, n84, c97, w5, l62, a113, n85, c98, l63, a114, n86, c99, (IntKind.i64.wrap (x15 + 1)), ⟨by kernel_rfl, by kernel_rfl⟩, tot, hB1, hR112, hB2, hR113, hR114, hR1, hs⟩
 replace hs := of_if_f hs h26
 refine CP.exit ?_
 refine NX.then_e ?_
 refine NX.then_e ?_
 refine NX.block_s ?_
 refine NX.then_n ?_
 refine CP.seq ?_
 refine CP.seqR ?_
 refine WP.mkSl (kd := Kd.bool) (t := 22) (e := 4) (bytes := 1) (t + 90) [.bool false, .bool true] [false, true] (by kernel_rfl) (by kernel_rfl) (Nat.le_of_ble_eq_true rfl) (Nat.le_of_ble_eq_true rfl) (all_cons rfl (all_cons rfl all_nil)) (⟨_, _, rfl, (by exact rfl), ⟨_, _, rfl, (by exact rfl), rfl⟩⟩) rfl ?_
 intro g262 a170 st262 hR170
 replace hB1 := hB1.mono st262 (fun x => x)
 replace hR22 := hR22.mono st262 (fun x => x) (fun x => x)
 replace hB2 := hB2.mono st262 (fun x => x)
 replace hR23 := hR23.mono st262 (fun x => x) (fun x => x)
 replace tot := tot.trans st262.pure
 refine WP.len (a := a170) (cp := 2) hR170.len (by kernel_rfl) ?_
 refine WP.stl 1 ?_
 refine WP.dn ?_
 refine NX.then_n ?_
 refine CP.block ?_
 generalize fuel = k3 at hs
 refine CP.loop (fun k3 tm g => ∃ (x111 : Int), Fr 154 [(1, .int .i64 x1), (5, .pointer (some ⟨b1, 0, none⟩)), (6, .slice a23 n16 c19), (134, .slice a170 2 2), (135, .int .i64 (([false, true]).length : Int)), (136, .int .i64 x111)] tm ∧ Step (fun l => NoM l ∨ t ≤ l) g0 g ∧ Box g (t + 1) b1 121 [[.slice a22 n15 c18], [.map (some b2)]] [1, 1] ∧ OwnS k_S_notary_entry g (t + 4) 126 a22 n15 c18 l12 ∧ MapB g (t + 2) b2 kv_S_notary_entry (Value.int .i64) w2 ∧ OwnS k_S_punish_Thing g (t + 7) 43 a23 n16 c19 l13 ∧ OwnS Kd.bool g (t + 90) 4 a170 2 2 ([false, true]) ∧ F.baizelaw34_PunishHonest.l3 x1 l12 w2 l13 k3 x111 = some o1) k3 ?_ ?_ ?_
 ·exact ⟨0, ⟨by kernel_rfl, by kernel_rfl⟩, tot, hB1, hR22, hB2, hR23, hR170, hs⟩
 ·rintro tm g ⟨x111, hF, tot, hB1, hR22, hB2, hR23, hR170, hs⟩
  exact absurd hs (by simp [F.baizelaw34_PunishHonest.l3])
 clear tot hs hB1 hR22 hB2 hR23 hR170
 rintro k3 tm g ⟨x111, hF, tot, hB1, hR22, hB2, hR23, hR170, hs⟩
 clear ds
 obtain ⟨ds, rfl⟩ := hF.open
 clear hF
 unfold F.baizelaw34_PunishHonest.l3 at hs
 refine CP.seqR ?_
 refine WP.stl 1 ?_
 refine WP.dn ?_
 refine NX.then_n ?_
 refine CP.seq ?_
 refine CP.cond (b := decide (x111 < (([false, true]).length : Int))) (by kernel_rfl) (fun h65 => ?_) (fun h65 => ?_)
 ·replace hs := of_if_t hs h65
  refine CP.skip ?_
  refine NX.then_n ?_
  refine CP.seq ?_
  refine CP.block ?_
  refine CP.seqR ?_
  by_cases hc41 : (0 : Int) ≤ x111 ∧ x111 < (([false, true]).length : Int)
  case neg => rw [if_neg hc41] at hs; cases hs
  replace hs := of_if_p hs hc41
  obtain ⟨b69, u19, ha19⟩ := hR170.at hc41
  refine WP.indexA (t := 22) (e := 4) (sz := 1) (cap := 2) (k := .i64) (i := x111) hR170.len ha19 (by kernel_rfl) (by kernel_rfl) hc41 ?_
  obtain ⟨cs19, hcR19, hcV19⟩ := hR170.src.view (getI_some hc41) ha19
  replace hcR19 := Kd.o_bool hcR19
  refine WP.loadV [[.bool (getI ([false, true]) x111)]] [1] hcV19 hcR19 rfl (f := 0) (ty := 4) (agg := false) (size := 1) (rs := [[.bool (getI ([false, true]) x111)]]) (v := .bool (getI ([false, true]) x111)) (by kernel_rfl) (by kernel_rfl) (by kernel_rfl) (by kernel_rfl) ?_
  refine WP.stl 1 ?_
  refine WP.dn ?_
  refine NX.then_n ?_
  refine CP.seqR ?_
  refine WP.stl 3 ?_
  replace hs := Option.bind_eq_some_iff.1 hs
  obtain ⟨d169, hk91, hs⟩ := hs
  have hcal91 := P.baizelaw34_table g (getI ([false, true]) x111) d169 hk91
  refine WP.callC hcal91 (by kernel_rfl) ?_
  rintro _ g271 st271 rfl
  replace hB1 := hB1.mono st271 (fun x => x)
  replace hR22 := hR22.mono st271 (fun x => x) (fun x => x)
  replace hB2 := hB2.mono st271 (fun x => x)
  replace hR23 := hR23.mono st271 (fun x => x) (fun x => x)
  replace hR170 := hR170.mono st271 (fun x => x) (fun x => x)
  replace tot := tot.trans st271.pure
  refine WP.stl 1 ?_
  replace hs := Option.bind_eq_some_iff.1 hs
  obtain ⟨d170, hk92, hs⟩ := hs
  have hcal92 := P.baizelaw34_key g271 x1 d170 hk92
  refine WP.callC hcal92 (by kernel_rfl) ?_
  rintro _ g272 st272 rfl
  replace hB1 := hB1.mono st272 (fun x => x)
  replace hR22 := hR22.mono st272 (fun x => x) (fun x => x)
  replace hB2 := hB2.mono st272 (fun x => x)
  replace hR23 := hR23.mono st272 (fun x => x) (fun x => x)
  replace hR170 := hR170.mono st272 (fun x => x) (fun x => x)
  replace tot := tot.trans st272.pure
  refine WP.stl 1 ?_
  replace hs := Option.bind_eq_some_iff.1 hs
  obtain ⟨⟨x115, x116, q19⟩, hk93, hs⟩ := hs
  dsimp only at hs
  have hS12 : 0 ∉ ([(t + 4), (t + 7)] : List Nat) := by simp <;> omega
  have stl12 := GW.lend_step g272 [(t + 4), (t + 7)]
  have hRl16 := hR22.lendTo hS12 (by simp)
  have hRl17 := hR23.lendTo hS12 (by simp)
  refine WP.regw (g' := GW.lend g272 [(t + 4), (t + 7)]) rfl ?_
  have hcal93 := P.punish_Find (GW.lend g272 [(t + 4), (t + 7)]) (t + 1) (t + 2) l12 w2 d169 d170 l13 a22 n15 c18 a23 n16 c19 b1 b2 hRl16 hRl17 (hB2.mono stl12 (WL.no (by simp <;> omega))) (hB1.mono stl12 (WL.no (by simp <;> omega))) (by omega) (by omega) (by omega) x115 x116 q19 hk93
  refine WP.callC hcal93 (by kernel_rfl) ?_
  rintro _ g273 st273 rfl
  have st274 := (GW.back_step st273).lentS
  have hO16 := hR22.backTo hS12 (by simp) st273 (fun x => x)
  have hO17 := hR23.backTo hS12 (by simp) st273 (fun x => x)
  refine WP.regw (g' := GW.back g272 g273 [(t + 4), (t + 7)]) rfl ?_
  generalize GW.back g272 g273 [(t + 4), (t + 7)] = g274 at *
  replace hB1 := hB1.mono st274 (WL.no2 (by omega) (by omega))
  replace hB2 := hB2.mono st274 (WL.no2 (by omega) (by omega))
  replace hR170 := hR170.mono st274 (WL.no2 (by omega) (by omega)) (WL.no2 (by omega) (by omega))
  replace tot := tot.trans (st274.up2 (.inr (by omega)) (.inr (by omega)))
  clear hR22
  have hR22 : OwnS k_S_notary_entry g274 (t + 4) 126 a22 n15 c18 l12 := hO16
  clear hO16
  clear hR23
  have hR23 : OwnS k_S_punish_Thing g274 (t + 7) 43 a23 n16 c19 l13 := hO17
  clear hO17
  refine WP.stl 7 ?_
  refine WP.dn ?_
  refine NX.then_n ?_
  refine CP.refr 154 [(1, .int .i64 x1), (5, .pointer (some ⟨b1, 0, none⟩)), (6, .slice a23 n16 c19), (23, .bool q19), (134, .slice a170 2 2), (135, .int .i64 (([false, true]).length : Int)), (136, .int .i64 x111)] (by kernel_rfl) (by kernel_rfl) ?_
  clear ds
  intro ds
  refine CP.seqR ?_
  refine WP.stl 1 ?_
  refine WP.dn ?_
  refine NX.then_n ?_
  refine CP.cond (b := q19) (by kernel_rfl) (fun h66 => ?_) (fun h66 => ?_)
  ·replace hs := of_if_t hs h66
   refine CP.seqR ?_
   refine WP.stl 1 ?_
   refine WP.dn ?_
   refine NX.then_n ?_
   refine CP.ret ?_
   refine NX.block_r ?_
   refine NX.then_r ?_
   refine NX.then_r ?_
   refine NX.block_r ?_
   refine NX.then_r ?_
   replace hs := Option.some.inj hs
   obtain rfl := hs
   exact NX.fin (v := .bool false) (Res.still (by kernel_rfl)) tot htL rfl
  replace hs := of_if_f hs h66
  refine CP.skip ?_
  refine NX.block_n ?_
  refine NX.then_n ?_
  refine CP.region ?_
  refine WP.stl 2 ?_
  refine WP.dn ?_
  refine NX.post ?_
  exact ⟨(IntKind.i64.wrap (x111 + 1)), ⟨by kernel_rfl, by kernel_rfl⟩, tot, hB1, hR22, hB2, hR23, hR170, hs⟩
 replace hs := of_if_f hs h65
 refine CP.exit ?_
 refine NX.then_e ?_
 refine NX.then_e ?_
 refine NX.block_s ?_
 refine NX.then_n ?_
 refine CP.seqR ?_
 refine WP.stl 1 ?_
 refine WP.dn ?_
 refine NX.then_n ?_
 refine CP.ret ?_
 replace hs := Option.some.inj hs
 obtain rfl := hs
 exact NX.fin (v := .bool true) (Res.still (by kernel_rfl)) tot htL rfl
end Go.Proofs.Ytlnockimfgfcgaa
