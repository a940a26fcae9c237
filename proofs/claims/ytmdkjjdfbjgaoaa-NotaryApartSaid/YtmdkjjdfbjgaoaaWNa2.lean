/-
  Walks, written by program: each Go function computes the plain function of its name, in whatever world its arguments' facts hold.
-/
import Derived.Test.YtmdkjjdfbjgaoaaWNa1
namespace Go.Proofs.Ytmdkjjdfbjgaoaa
open Go.RowKit Go.Lab
attribute [local irreducible] WP CP NX wpList Code.wp Calls
set_option maxRecDepth 100000
set_option maxHeartbeats 4000000
set_option linter.unusedVariables false

def N.baizelaw07_NotaryApart_0 : List (List Nat) := [[], [], [], [1, 2], [1, 2, 3], [1, 2, 3, 4], [1, 2, 3, 4, 5], [1, 2, 3, 4, 5, 6], [0], [0, 8], [0, 8, 9], [0, 1, 2, 3, 4, 5, 6, 7, 8, 9, 10]]
def N.baizelaw07_NotaryApart_1 : List (List Nat) := [[], [], [], [1, 2], [1, 2, 3], [1, 2, 3, 4], [1, 2, 3, 4, 5], [], [], [7, 8], [7, 8, 9], [7, 8, 9, 10], [7, 8, 9, 10, 11], [1, 2, 3, 4, 5, 6, 7, 8, 9, 10, 11, 12], [0, 1, 2, 3, 4, 5, 6, 7, 8, 9, 10, 11, 12, 13], [0, 1, 2, 3, 4, 5, 6, 7, 8, 9, 10, 11, 12, 13, 14], [0, 1, 2, 3, 4, 5, 6, 7, 8, 9, 10, 11, 12, 13, 14, 15], [0, 1, 2, 3, 4, 5, 6, 7, 8, 9, 10, 11, 12, 13, 14, 15], [0, 1, 2, 3, 4, 5, 6, 7, 8, 9, 10, 11, 12, 13, 14, 15, 16], [0, 1, 2, 3, 4, 5, 6, 7, 8, 9, 10, 11, 12, 13, 14, 15, 16, 17, 18]]
def N.baizelaw07_NotaryApart_2 : List (List Nat) := [[], [], [0, 1], [0, 1, 2], [0, 1, 2, 3], [0, 1, 2, 3, 4], [], [], [6, 7], [6, 7, 8], [6, 7, 8, 9], [6, 7, 8, 9, 10], [0, 1, 2, 3, 4, 5, 6, 7, 8, 9, 10, 11], [], [0, 1, 2, 3, 4, 5, 6, 7, 8, 9, 10, 11, 12, 13]]
def F.baizelaw07_NotaryApart.c3 (nx1 : (List S_notary_entry) → (List (S_notary_entry × Int)) → (List S_baizeref07_Entry) → Int → Option (Bool)) (x5 : Int) (d20 : (List (S_notary_entry × Int))) (d21 : (List S_notary_entry)) (l15 : List S_baizeref07_Entry) (q18 : Bool) : Option (Bool) := (if q18 = true then (some false) else (nx1 d21 d20 l15 (IntKind.i64.wrap (x5 + 1))))
def N.baizelaw07_NotaryApart_3 : List (List Nat) := [[], [], [0, 1], [0, 1, 2], [0, 1, 2, 3], [0, 1, 2, 3, 4], [0, 1, 2, 3, 4], [0, 1, 2, 3, 4, 6], [0, 1, 2, 3, 4, 6, 7], [0, 1, 2, 3, 4], [0, 1, 2, 3, 4, 9], [0, 1, 2, 3, 4, 6, 7, 8, 9, 10], [0, 1, 2, 3, 4], [0, 1, 2, 3, 4], [0, 1, 2, 3, 4, 6, 7, 8, 9, 10, 11, 12, 13], [0, 1, 2, 3, 4, 6, 7, 8, 9, 10, 11, 12, 13, 14], [0, 1, 2, 3, 4, 6, 7, 8, 9, 10, 11, 12, 13, 14, 15], [0, 1, 2, 3, 4, 5, 6, 7, 8, 9, 10, 11, 12, 13, 14, 15, 16], [0, 1, 2, 3, 4, 5, 6, 7, 8, 9, 10, 11, 12, 13, 14, 15, 16, 17]]
def F.baizelaw07_NotaryApart.c4 (q22 : Bool) : Option (Bool) := (some q22)
def F.baizelaw07_NotaryApart.l1 (l2 : List S_baizelaw07_Entry) (l3 : List S_notary_entry) (d1 : (List (S_notary_entry × Int))) (l4 : List S_baizeref07_Entry) : Nat → (List S_notary_entry) → (List (S_notary_entry × Int)) → (List S_baizeref07_Entry) → Int → Option (Bool)
 | 0, _, _, _, _ => none
 | k + 1, l8, w1, l9, x5 => (if decide (x5 < (l2.length : Int)) = true then (if (0 : Int) ≤ x5 ∧ x5 < (l2.length : Int) then ((F.baizelaw07_Digest (IntKind.u64.wrap ((getI l2 x5).f1))).bind fun d17 => ((F.notary_Book_Signer l8 w1 d17).bind fun d18 => (if (0 : Int) ≤ x5 ∧ x5 < (l2.length : Int) then ((F.baizelaw07_Digest (IntKind.u64.wrap ((getI l2 x5).f2))).bind fun d19 => ((F.notary_bookSigner_Sign l8 w1 d18 d19).bind fun (l14, x11, d20, d21) => (if (0 : Int) ≤ x5 ∧ x5 < (l2.length : Int) then (if (0 : Int) ≤ x5 ∧ x5 < (l2.length : Int) then ((F.baizeref07_Sign l9 (IntKind.u64.wrap ((getI l2 x5).f1)) (IntKind.u64.wrap ((getI l2 x5).f2))).bind fun (l15, x12) => (if (0 : Int) ≤ x5 ∧ x5 < (l2.length : Int) then (if (0 : Int) ≤ x5 ∧ x5 < (l2.length : Int) then ((F.baizeref07_Find l4 (IntKind.u64.wrap ((getI l2 x5).f1)) (IntKind.u64.wrap ((getI l2 x5).f2))).bind fun x15 => (if decide (x15 < 0) = true then ((F.baizelaw07_Digest (IntKind.u64.wrap ((getI l2 x5).f1))).bind fun d24 => ((F.baizelaw07_Digest (IntKind.u64.wrap ((getI l2 x5).f2))).bind fun d25 => ((F.baizeref07_Find l15 (IntKind.u64.wrap ((getI l2 x5).f1)) (IntKind.u64.wrap ((getI l2 x5).f2))).bind fun x16 => ((F.baizeref07_Bytes x16).bind fun s4 => ((F.notary_Book_Verify l3 d1 d24 d25 (strBytes s4)).bind fun q19 => (F.baizelaw07_NotaryApart.c3 (F.baizelaw07_NotaryApart.l1 l2 l3 d1 l4 k) x5 d20 d21 l15 q19)))))) else (F.baizelaw07_NotaryApart.c3 (F.baizelaw07_NotaryApart.l1 l2 l3 d1 l4 k) x5 d20 d21 l15 false))) else none) else none)) else none) else none))) else none))) else none) else ((F.notary_Book_Same l3 d1 l8 w1).bind fun q23 => (if (q23 == ((l9.length : Int) == (l4.length : Int))) = true then ((F.baizelaw07_told).bind fun q24 => (F.baizelaw07_NotaryApart.c4 q24)) else (F.baizelaw07_NotaryApart.c4 false))))
def F.baizelaw07_NotaryApart.c2 (l2 : List S_baizelaw07_Entry) (l3 : List S_notary_entry) (d1 : (List (S_notary_entry × Int))) (l4 : List S_baizeref07_Entry) (l5 : List S_notary_entry) (d2 : (List (S_notary_entry × Int))) (q6 : Bool) : Option (Bool) := (if q6 = true then (some false) else (F.baizelaw07_NotaryApart.l1 l2 l3 d1 l4 fuel l5 d2 l4 0))
def F.baizelaw07_NotaryApart.c1 (l1 : List S_baizelaw07_Entry) (l2 : List S_baizelaw07_Entry) (q1 : Bool) : Option (Bool) := (if q1 = true then ((F.baizelaw07_told).bind fun q2 => (some q2)) else ((F.baizelaw07_book l1).bind fun (l3, d1, l4, q3) => (if (!q3) = true then (some false) else ((F.notary_Book_Clone l3 d1).bind fun (l5, d2) => ((F.notary_Book_Same l5 d2 l3 d1).bind fun q25 => (if (!q25) = true then (F.baizelaw07_NotaryApart.c2 l2 l3 d1 l4 l5 d2 true) else ((F.notary_Book_Same l3 d1 l5 d2).bind fun q26 => (F.baizelaw07_NotaryApart.c2 l2 l3 d1 l4 l5 d2 (!q26)))))))))
def F.baizelaw07_NotaryApart (l1 : List S_baizelaw07_Entry) (l2 : List S_baizelaw07_Entry) : Option (Bool) := (if decide ((l1.length : Int) > 20) = true then (F.baizelaw07_NotaryApart.c1 l1 l2 true) else (F.baizelaw07_NotaryApart.c1 l1 l2 (decide ((l2.length : Int) > 20))))
theorem P.baizelaw07_NotaryApart (g0 : GW) (l1 : List S_baizelaw07_Entry) (l2 : List S_baizelaw07_Entry) (a1 : Option Addr) (n1 : Nat) (c1 : Nat) (a2 : Option Addr) (n2 : Nat) (c2 : Nat) (hR1 : RdS k_S_baizelaw07_Entry g0 36 a1 n1 c1 l1) (hR2 : RdS k_S_baizelaw07_Entry g0 36 a2 n2 c2 l2) (o1 : Bool) (hs : F.baizelaw07_NotaryApart l1 l2 = some o1) :
  Calls Try.prog 6 #[.slice a1 n1 c1, .slice a2 n2 c2] g0.w (Ret NoM g0 fun v g => v = .bool o1) := by
 refine calls_of (args := [.slice a1 n1 c1, .slice a2 n2 c2]) Try.func6 rfl (0) ?_
 intro t ht htL
 refine ⟨_, rfl, ?_⟩
 refine CP.refr 141 [(0, .slice a1 n1 c1), (1, .slice a2 n2 c2)] (by kernel_rfl) (by kernel_rfl) ?_
 intro ds
 have tot : Step (fun l => NoM l ∨ t ≤ l) g0 g0 := Step.refl _ _
 unfold F.baizelaw07_NotaryApart at hs
 refine CP.seqR ?_
 refine WP.stl 1 ?_
 refine WP.dn ?_
 refine NX.then_n ?_
 refine CP.seq ?_
 refine CP.cut (fun tm g => ∃ (q1 : Bool), Fr 141 [(0, .slice a1 n1 c1), (1, .slice a2 n2 c2), (22, .bool q1)] tm ∧ Step (fun l => NoM l ∨ t ≤ l) g0 g ∧ RdS k_S_baizelaw07_Entry g 36 a1 n1 c1 l1 ∧ RdS k_S_baizelaw07_Entry g 36 a2 n2 c2 l2 ∧ (F.baizelaw07_NotaryApart.c1 l1 l2 q1) = some o1) ?_ ?_
 ·refine CP.region ?_
  refine WP.stl 1 ?_
  refine WP.len (a := a1) (cp := c1) hR1.len (by kernel_rfl) ?_
  refine WP.stl 2 ?_
  refine WP.guard 18 (b := decide ((l1.length : Int) > 20)) (by kernel_rfl) (fun h21 => ?_) (fun h21 => ?_)
  ·replace hs := of_if_t hs h21
   refine WP.stl 4 ?_
   refine WP.dn ?_
   refine NX.post ?_
   exact ⟨true, ⟨by kernel_rfl, by kernel_rfl⟩, tot, hR1, hR2, hs⟩
  replace hs := of_if_f hs h21
  refine WP.stl 1 ?_
  refine WP.len (a := a2) (cp := c2) hR2.len (by kernel_rfl) ?_
  refine WP.stl 2 ?_
  refine WP.dn ?_
  refine NX.post ?_
  exact ⟨decide ((l2.length : Int) > 20), ⟨by kernel_rfl, by kernel_rfl⟩, tot, hR1, hR2, hs⟩
 clear tot hs hR1 hR2
 rintro tm g ⟨q1, hF, tot, hR1, hR2, hs⟩
 clear ds
 obtain ⟨ds, rfl⟩ := hF.open
 clear hF
 unfold F.baizelaw07_NotaryApart.c1 at hs
 refine CP.cond (b := q1) (by kernel_rfl) (fun h2 => ?_) (fun h2 => ?_)
 ·replace hs := of_if_t hs h2
  refine CP.seqR ?_
  replace hs := Option.bind_eq_some_iff.1 hs
  obtain ⟨q2, hk1, hs⟩ := hs
  have hcal1 := P.baizelaw07_told g q2 hk1
  refine WP.callC hcal1 (by kernel_rfl) ?_
  rintro _ g1 st1 rfl
  replace hR1 := hR1.mono st1 (fun x => x)
  replace hR2 := hR2.mono st1 (fun x => x)
  replace tot := tot.trans st1.pure
  refine WP.stl 1 ?_
  refine WP.dn ?_
  refine NX.then_n ?_
  refine CP.ret ?_
  refine NX.then_r ?_
  replace hs := Option.some.inj hs
  obtain rfl := hs
  exact NX.fin (v := .bool q2) (Res.still (by kernel_rfl)) tot htL rfl
 replace hs := of_if_f hs h2
 refine CP.skip ?_
 refine NX.then_n ?_
 refine CP.seqR ?_
 refine WP.stl 1 ?_
 replace hs := Option.bind_eq_some_iff.1 hs
 obtain ⟨⟨l3, d1, l4, q3⟩, hk2, hs⟩ := hs
 dsimp only at hs
 have hcal2 := P.baizelaw07_book g (t + 1) (t + 2) (t + 3) l1 a1 n1 c1 hR1 l3 d1 l4 q3 hk2
 refine WP.callC hcal2 (by kernel_rfl) ?_
 rintro _ g2 st2 ⟨b1, a3, n3, c3, b2, a4, n4, c4, rfl, hB1, hR3, hB2, hR4⟩
 replace hR1 := hR1.mono st2 (fun x => x)
 replace hR2 := hR2.mono st2 (fun x => x)
 replace tot := tot.trans st2.pure
 refine WP.stl 7 ?_
 refine WP.dn ?_
 refine NX.then_n ?_
 refine CP.seq ?_
 refine CP.seqR ?_
 refine WP.stl 2 ?_
 refine WP.dn ?_
 refine NX.then_n ?_
 refine CP.cond (b := (!q3)) (by kernel_rfl) (fun h3 => ?_) (fun h3 => ?_)
 ·replace hs := of_if_t hs h3
  refine CP.seqR ?_
  refine WP.stl 1 ?_
  refine WP.dn ?_
  refine NX.then_n ?_
  refine CP.ret ?_
  refine NX.then_r ?_
  replace hs := Option.some.inj hs
  obtain rfl := hs
  exact NX.fin (v := .bool false) (Res.still (by kernel_rfl)) tot htL rfl
 replace hs := of_if_f hs h3
 refine CP.skip ?_
 refine NX.then_n ?_
 refine CP.seqR ?_
 refine WP.stl 1 ?_
 replace hs := Option.bind_eq_some_iff.1 hs
 obtain ⟨⟨l5, d2⟩, hk3, hs⟩ := hs
 dsimp only at hs
 obtain ⟨g4, hw1, st4, hnew⟩ := hR3.freeze (by omega)
 refine WP.regw hw1 ?_
 replace hR2 := hR2.mono st4 (WL.no1 (by omega))
 replace hB1 := hB1.mono st4 (WL.no1 (by omega))
 replace hB2 := hB2.mono st4 (WL.no1 (by omega))
 replace hR4 := hR4.mono st4 (WL.no1 (by omega))
 replace tot := tot.trans (st4.up1 (.inr (by omega)))
 clear hR3
 have hR3 := hnew
 clear hnew
 have hcal3 := P.notary_Book_Clone g4 (t + 1) (t + 3) (t + 4) (t + 5) (t + 6) l3 d1 a3 n3 c3 b1 b2 hR3 hB2 hB1 (by omega) (by omega) (by omega) l5 d2 hk3
 refine WP.callC hcal3 (by kernel_rfl) ?_
 rintro _ g3 st3 ⟨b3, a5, n5, c5, b4, rfl, hB3, hR5, hB4⟩
 replace hR2 := hR2.mono st3 (fun x => x)
 replace hB1 := hB1.mono st3 (fun x => x)
 replace hR3 := hR3.mono st3 (fun x => x)
 replace hB2 := hB2.mono st3 (fun x => x)
 replace hR4 := hR4.mono st3 (fun x => x)
 replace tot := tot.trans st3.pure
 refine WP.stl 1 ?_
 refine WP.dn ?_
 refine NX.then_n ?_
 refine CP.refr 141 [(1, .slice a2 n2 c2), (5, .pointer (some ⟨b1, 0, none⟩)), (6, .slice a4 n4 c4), (8, .pointer (some ⟨b3, 0, none⟩))] (by kernel_rfl) (by kernel_rfl) ?_
 clear ds
 intro ds
 refine CP.seq ?_
 refine CP.cut (fun tm g => ∃ (q6 : Bool), Fr 141 [(1, .slice a2 n2 c2), (5, .pointer (some ⟨b1, 0, none⟩)), (6, .slice a4 n4 c4), (8, .pointer (some ⟨b3, 0, none⟩)), (47, .bool q6)] tm ∧ Step (fun l => NoM l ∨ t ≤ l) g0 g ∧ RdS k_S_baizelaw07_Entry g 36 a2 n2 c2 l2 ∧ Box g (t + 1) b1 84 [[.slice a3 n3 c3], [.map (some b2)]] [1, 1] ∧ RdS k_S_notary_entry g 86 a3 n3 c3 l3 ∧ MapB g (t + 3) b2 kv_S_notary_entry (Value.int .i64) d1 ∧ RdS k_S_baizeref07_Entry g 53 a4 n4 c4 l4 ∧ Box g (t + 4) b3 84 [[.slice a5 n5 c5], [.map (some b4)]] [1, 1] ∧ OwnS k_S_notary_entry g (t + 5) 86 a5 n5 c5 l5 ∧ MapB g (t + 6) b4 kv_S_notary_entry (Value.int .i64) d2 ∧ (F.baizelaw07_NotaryApart.c2 l2 l3 d1 l4 l5 d2 q6) = some o1) ?_ ?_
 ·refine CP.region ?_
  refine WP.stl 5 ?_
  replace hs := Option.bind_eq_some_iff.1 hs
  obtain ⟨q25, hk53, hs⟩ := hs
  have hS10 : 0 ∉ ([(t + 5)] : List Nat) := by simp <;> omega
  have stl10 := GW.lend_step g3 [(t + 5)]
  have hRl10 := hR5.lendTo hS10 (by simp)
  refine WP.regw (g' := GW.lend g3 [(t + 5)]) rfl ?_
  have hcal53 := P.notary_Book_Same (GW.lend g3 [(t + 5)]) (t + 4) (t + 6) (t + 1) (t + 3) l5 d2 l3 d1 a5 n5 c5 a3 n3 c3 b3 b4 b1 b2 hRl10 (hR3.mono stl10 (WL.no (by simp <;> omega))) (hB4.mono stl10 (WL.no (by simp <;> omega))) (hB3.mono stl10 (WL.no (by simp <;> omega))) (hB2.mono stl10 (WL.no (by simp <;> omega))) (hB1.mono stl10 (WL.no (by simp <;> omega))) (by omega) (by omega) (by omega) (by omega) (by omega) (by omega) (by omega) (by omega) (by omega) (by omega) q25 hk53
  refine WP.callC hcal53 (by kernel_rfl) ?_
  rintro _ g78 st78 rfl
  have st79 := (GW.back_step st78).lentS
  have hO10 := hR5.backTo hS10 (by simp) st78 (fun x => x)
  refine WP.regw (g' := GW.back g3 g78 [(t + 5)]) rfl ?_
  generalize GW.back g3 g78 [(t + 5)] = g79 at *
  replace hR2 := hR2.mono st79 (WL.no1 (by omega))
  replace hB1 := hB1.mono st79 (WL.no1 (by omega))
  replace hR3 := hR3.mono st79 (WL.no1 (by omega))
  replace hB2 := hB2.mono st79 (WL.no1 (by omega))
  replace hR4 := hR4.mono st79 (WL.no1 (by omega))
  replace hB3 := hB3.mono st79 (WL.no1 (by omega))
  replace hB4 := hB4.mono st79 (WL.no1 (by omega))
  replace tot := tot.trans (st79.up1 (.inr (by omega)))
  clear hR5
  have hR5 : OwnS k_S_notary_entry g79 (t + 5) 86 a5 n5 c5 l5 := hO10
  clear hO10
  refine WP.stl 3 ?_
  refine WP.guard 42 (b := (!q25)) (by kernel_rfl) (fun h20 => ?_) (fun h20 => ?_)
  ·replace hs := of_if_t hs h20
   refine WP.stl 5 ?_
   refine WP.dn ?_
   refine NX.post ?_
   exact ⟨true, ⟨by kernel_rfl, by kernel_rfl⟩, tot, hR2, hB1, hR3, hB2, hR4, hB3, hR5, hB4, hs⟩
  replace hs := of_if_f hs h20
  refine WP.stl 2 ?_
  replace hs := Option.bind_eq_some_iff.1 hs
  obtain ⟨q26, hk54, hs⟩ := hs
  have hS11 : 0 ∉ ([(t + 5)] : List Nat) := by simp <;> omega
  have stl11 := GW.lend_step g79 [(t + 5)]
  have hRl11 := hR5.lendTo hS11 (by simp)
  refine WP.regw (g' := GW.lend g79 [(t + 5)]) rfl ?_
  have hcal54 := P.notary_Book_Same (GW.lend g79 [(t + 5)]) (t + 1) (t + 3) (t + 4) (t + 6) l3 d1 l5 d2 a3 n3 c3 a5 n5 c5 b1 b2 b3 b4 (hR3.mono stl11 (WL.no (by simp <;> omega))) hRl11 (hB2.mono stl11 (WL.no (by simp <;> omega))) (hB1.mono stl11 (WL.no (by simp <;> omega))) (hB4.mono stl11 (WL.no (by simp <;> omega))) (hB3.mono stl11 (WL.no (by simp <;> omega))) (by omega) (by omega) (by omega) (by omega) (by omega) (by omega) (by omega) (by omega) (by omega) (by omega) q26 hk54
  refine WP.callC hcal54 (by kernel_rfl) ?_
  rintro _ g80 st80 rfl
  have st81 := (GW.back_step st80).lentS
  have hO11 := hR5.backTo hS11 (by simp) st80 (fun x => x)
  refine WP.regw (g' := GW.back g79 g80 [(t + 5)]) rfl ?_
  generalize GW.back g79 g80 [(t + 5)] = g81 at *
  replace hR2 := hR2.mono st81 (WL.no1 (by omega))
  replace hB1 := hB1.mono st81 (WL.no1 (by omega))
  replace hR3 := hR3.mono st81 (WL.no1 (by omega))
  replace hB2 := hB2.mono st81 (WL.no1 (by omega))
  replace hR4 := hR4.mono st81 (WL.no1 (by omega))
  replace hB3 := hB3.mono st81 (WL.no1 (by omega))
  replace hB4 := hB4.mono st81 (WL.no1 (by omega))
  replace tot := tot.trans (st81.up1 (.inr (by omega)))
  clear hR5
  have hR5 : OwnS k_S_notary_entry g81 (t + 5) 86 a5 n5 c5 l5 := hO11
  clear hO11
  refine WP.stl 2 ?_
  refine WP.dn ?_
  refine NX.post ?_
  exact ⟨(!q26), ⟨by kernel_rfl, by kernel_rfl⟩, tot, hR2, hB1, hR3, hB2, hR4, hB3, hR5, hB4, hs⟩
 clear tot hs hR2 hB1 hR3 hB2 hR4 hB3 hR5 hB4
 rintro tm g ⟨q6, hF, tot, hR2, hB1, hR3, hB2, hR4, hB3, hR5, hB4, hs⟩
 clear ds
 obtain ⟨ds, rfl⟩ := hF.open
 clear hF
 unfold F.baizelaw07_NotaryApart.c2 at hs
 refine CP.cond (b := q6) (by kernel_rfl) (fun h5 => ?_) (fun h5 => ?_)
 ·replace hs := of_if_t hs h5
  refine CP.seqR ?_
  refine WP.stl 1 ?_
  refine WP.dn ?_
  refine NX.then_n ?_
  refine CP.ret ?_
  refine NX.then_r ?_
  replace hs := Option.some.inj hs
  obtain rfl := hs
  exact NX.fin (v := .bool false) (Res.still (by kernel_rfl)) tot htL rfl
 replace hs := of_if_f hs h5
 refine CP.skip ?_
 refine NX.then_n ?_
 refine CP.seqR ?_
 refine WP.stl 2 ?_
 refine WP.dn ?_
 refine NX.then_n ?_
 refine CP.seq ?_
 refine CP.seqR ?_
 refine WP.stl 1 ?_
 refine WP.dn ?_
 refine NX.then_n ?_
 refine CP.block ?_
 generalize fuel = k1 at hs
 refine CP.loop (fun k1 tm g => ∃ (l8 : List S_notary_entry) (a10 : Option Addr) (n9 : Nat) (c10 : Nat) (w1 : (List (S_notary_entry × Int))) (l9 : List S_baizeref07_Entry) (a11 : Option Addr) (n10 : Nat) (c11 : Nat) (x5 : Int), Fr 141 [(1, .slice a2 n2 c2), (5, .pointer (some ⟨b1, 0, none⟩)), (6, .slice a4 n4 c4), (8, .pointer (some ⟨b3, 0, none⟩)), (9, .slice a11 n10 c11), (10, .int .i64 x5)] tm ∧ Step (fun l => NoM l ∨ t ≤ l) g0 g ∧ RdS k_S_baizelaw07_Entry g 36 a2 n2 c2 l2 ∧ Box g (t + 1) b1 84 [[.slice a3 n3 c3], [.map (some b2)]] [1, 1] ∧ RdS k_S_notary_entry g 86 a3 n3 c3 l3 ∧ MapB g (t + 3) b2 kv_S_notary_entry (Value.int .i64) d1 ∧ RdS k_S_baizeref07_Entry g 53 a4 n4 c4 l4 ∧ Box g (t + 4) b3 84 [[.slice a10 n9 c10], [.map (some b4)]] [1, 1] ∧ OwnS k_S_notary_entry g (t + 5) 86 a10 n9 c10 l8 ∧ MapB g (t + 6) b4 kv_S_notary_entry (Value.int .i64) w1 ∧ RdS k_S_baizeref07_Entry g 53 a11 n10 c11 l9 ∧ F.baizelaw07_NotaryApart.l1 l2 l3 d1 l4 k1 l8 w1 l9 x5 = some o1) k1 ?_ ?_ ?_
 ·exact ⟨l5, a5, n5, c5, d2, l4, a4, n4, c4, 0, ⟨by kernel_rfl, by kernel_rfl⟩, tot, hR2, hB1, hR3, hB2, hR4, hB3, hR5, hB4, hR4, hs⟩
 ·rintro tm g ⟨l8, a10, n9, c10, w1, l9, a11, n10, c11, x5, hF, tot, hR2, hB1, hR3, hB2, hR4, hB3, hR10, hB4, hR11, hs⟩
  exact absurd hs (by simp [F.baizelaw07_NotaryApart.l1])
 clear tot hs hR2 hB1 hR3 hB2 hR4 hB3 hR5 hB4
 rintro k1 tm g ⟨l8, a10, n9, c10, w1, l9, a11, n10, c11, x5, hF, tot, hR2, hB1, hR3, hB2, hR4, hB3, hR10, hB4, hR11, hs⟩
 clear ds
 obtain ⟨ds, rfl⟩ := hF.open
 clear hF
 unfold F.baizelaw07_NotaryApart.l1 at hs
 refine CP.seq ?_
 refine CP.seqR ?_
 refine WP.stl 2 ?_
 refine WP.len (a := a2) (cp := c2) hR2.len (by kernel_rfl) ?_
 refine WP.stl 1 ?_
 refine WP.dn ?_
 refine NX.then_n ?_
 refine CP.cond (b := decide (x5 < (l2.length : Int))) (by kernel_rfl) (fun h14 => ?_) (fun h14 => ?_)
 ·replace hs := of_if_t hs h14
  refine CP.skip ?_
  refine NX.then_n ?_
  refine CP.seq ?_
  refine CP.block ?_
  refine CP.seqR ?_
  refine WP.stl 3 ?_
  by_cases hc13 : (0 : Int) ≤ x5 ∧ x5 < (l2.length : Int)
  case neg => rw [if_neg hc13] at hs; cases hs
  replace hs := of_if_p hs hc13
  obtain ⟨b19, u13, ha13⟩ := hR2.at hc13
  refine WP.indexA (t := 22) (e := 36) (sz := 2) (cap := c2) (k := .i64) (i := x5) hR2.len ha13 (by kernel_rfl) (by kernel_rfl) hc13 ?_
  refine WP.stl 1 ?_
  obtain ⟨cs13, hcR13, hcV13⟩ := hR2.src.view (getI_some hc13) ha13
  replace hcR13 := k_S_baizelaw07_Entry.opn hcR13
  refine WP.loadV [[.int .u8 ((getI l2 x5).f1)], [.int .u8 ((getI l2 x5).f2)]] [1, 1] hcV13 hcR13 rfl (f := 0) (ty := 5) (agg := false) (size := 1) (rs := [[.int .u8 ((getI l2 x5).f1)]]) (v := .int .u8 ((getI l2 x5).f1)) (by kernel_rfl) (by kernel_rfl) (by kernel_rfl) (by kernel_rfl) ?_
  refine WP.stl 1 ?_
  replace hs := Option.bind_eq_some_iff.1 hs
  obtain ⟨d17, hk32, hs⟩ := hs
  have hcal32 := P.baizelaw07_Digest g (IntKind.u64.wrap ((getI l2 x5).f1)) d17 hk32
  refine WP.callC hcal32 (by kernel_rfl) ?_
  rintro _ g45 st45 rfl
  replace hR2 := hR2.mono st45 (fun x => x)
  replace hB1 := hB1.mono st45 (fun x => x)
  replace hR3 := hR3.mono st45 (fun x => x)
  replace hB2 := hB2.mono st45 (fun x => x)
  replace hR4 := hR4.mono st45 (fun x => x)
  replace hB3 := hB3.mono st45 (fun x => x)
  replace hR10 := hR10.mono st45 (fun x => x) (fun x => x)
  replace hB4 := hB4.mono st45 (fun x => x)
  replace hR11 := hR11.mono st45 (fun x => x)
  replace tot := tot.trans st45.pure
  replace hs := Option.bind_eq_some_iff.1 hs
  obtain ⟨d18, hk33, hs⟩ := hs
  have hS7 : 0 ∉ ([(t + 5)] : List Nat) := by simp <;> omega
  have stl7 := GW.lend_step g45 [(t + 5)]
  have hRl7 := hR10.lendTo hS7 (by simp)
  refine WP.regw (g' := GW.lend g45 [(t + 5)]) rfl ?_
  have hcal33 := P.notary_Book_Signer (GW.lend g45 [(t + 5)]) (t + 4) (t + 6) l8 w1 d17 a10 n9 c10 b3 b4 hRl7 (hB4.mono stl7 (WL.no (by simp <;> omega))) (hB3.mono stl7 (WL.no (by simp <;> omega))) (by omega) (by omega) (by omega) d18 hk33
  refine WP.callC hcal33 (by kernel_rfl) ?_
  rintro _ g46 st46 rfl
  have st47 := (GW.back_step st46).lentS
  have hO7 := hR10.backTo hS7 (by simp) st46 (fun x => x)
  refine WP.regw (g' := GW.back g45 g46 [(t + 5)]) rfl ?_
  generalize GW.back g45 g46 [(t + 5)] = g47 at *
  replace hR2 := hR2.mono st47 (WL.no1 (by omega))
  replace hB1 := hB1.mono st47 (WL.no1 (by omega))
  replace hR3 := hR3.mono st47 (WL.no1 (by omega))
  replace hB2 := hB2.mono st47 (WL.no1 (by omega))
  replace hR4 := hR4.mono st47 (WL.no1 (by omega))
  replace hB3 := hB3.mono st47 (WL.no1 (by omega))
  replace hB4 := hB4.mono st47 (WL.no1 (by omega))
  replace hR11 := hR11.mono st47 (WL.no1 (by omega))
  replace tot := tot.trans (st47.up1 (.inr (by omega)))
  clear hR10
  have hR10 : OwnS k_S_notary_entry g47 (t + 5) 86 a10 n9 c10 l8 := hO7
  clear hO7
  refine WP.stl 1 ?_
  refine WP.dn ?_
  refine NX.then_n ?_
  refine CP.refr 141 [(1, .slice a2 n2 c2), (5, .pointer (some ⟨b1, 0, none⟩)), (6, .slice a4 n4 c4), (8, .pointer (some ⟨b3, 0, none⟩)), (9, .slice a11 n10 c11), (10, .int .i64 x5), (11, .iface 79 (AG [[.pointer (some ⟨b3, 0, none⟩)], encA .u8 d18]))] (by kernel_rfl) (by kernel_rfl) ?_
  clear ds
  intro ds
  refine CP.seq ?_
  refine CP.seqR ?_
  refine WP.stl 2 ?_
  refine WP.dn ?_
  refine NX.then_n ?_
  refine CP.cond_f (by kernel_rfl) ?_
  refine CP.skip ?_
  refine NX.then_n ?_
  refine CP.seq ?_
  by_cases hc14 : (0 : Int) ≤ x5 ∧ x5 < (l2.length : Int)
  case neg => rw [if_neg hc14] at hs; cases hs
  replace hs := of_if_p hs hc14
  replace hs := Option.bind_eq_some_iff.1 hs
  obtain ⟨d19, hk34, hs⟩ := hs
  replace hs := Option.bind_eq_some_iff.1 hs
  obtain ⟨⟨l14, x11, d20, d21⟩, hk35, hs⟩ := hs
  dsimp only at hs
  obtain ⟨b20, u14, ha14⟩ := hR2.at hc14
  refine CP.drawL (by kernel_rfl) [3, 5, 7, 11] N.baizelaw07_NotaryApart_0 [⟨none, [], [], fun l g => RdS k_S_baizelaw07_Entry g 36 a2 n2 c2 l2⟩, ⟨none, [1], [], fun l g => Box g (t + 4) b3 84 [[.slice a10 n9 c10], [.map (some b4)]] [1, 1]⟩, ⟨none, [2], [], fun l g => OwnS k_S_notary_entry g (t + 5) 86 a10 n9 c10 l8⟩, ⟨none, [0], [], fun l g => MapB g (t + 6) b4 kv_S_notary_entry (Value.int .i64) w1⟩, ⟨some 0, [], [0], fun l g => l.getD 0 undef = .pointer (some ⟨b20, u14 + x5.toNat * 2, none⟩)⟩, ⟨some 1, [], [1], fun l g => l.getD 0 undef = .int .u8 ((getI l2 x5).f2)⟩, ⟨some 2, [], [2], fun l g => l.getD 0 undef = AG [encA .u8 d19]⟩, ⟨some 3, [0], [], fun l g => MapB g (t + 6) b4 kv_S_notary_entry (Value.int .i64) d20⟩, ⟨some 3, [1, 2], [3], fun l g => ∃ (a18 : Option Addr) (c18 : Nat) (a19 : Option Addr) (c19 : Nat), l.getD 0 undef = .tuple #[.slice a18 l14.length c18, .int .i64 x11] ∧ OwnS (Kd.int .u8) g (t + 11) 5 a18 l14.length c18 l14 ∧ OwnS k_S_notary_entry g (t + 5) 86 a19 d21.length c19 d21 ∧ Box g (t + 4) b3 84 [[.slice a19 d21.length c19], [.map (some b4)]] [1, 1]⟩] [[], [], [], [0, 1, 2]] [(t + 6), (t + 4), (t + 5)] [0, 1, 2, 8, 9, 10] [4, 6] (by kernel_rfl) (by simp <;> omega) (by simp <;> omega) ⟨fun _ _ _ _ st h0 hl hj hR2 => (RdS.mono (e := 36) hR2 st h0), fun _ _ _ _ st h0 hl hj hB3 => (hB3.mono st (hj 1 (by simp) _ rfl)), fun _ _ _ _ st h0 hl hj hR10 => (hR10.mono st h0 (hj 2 (by simp) _ rfl)), fun _ _ _ _ st h0 hl hj hB4 => (hB4.mono st (hj 0 (by simp) _ rfl)), fun _ _ _ _ st h0 hl hj e0 => e0, fun _ _ _ _ st h0 hl hj e1 => e1, fun _ _ _ _ st h0 hl hj e2 => e2, fun _ _ _ _ st h0 hl hj hB4 => (hB4.mono st (hj 0 (by simp) _ rfl)), fun _ _ _ _ st h0 hl hj ⟨a18, c18, a19, c19, e3, hR18, hR19, hB3⟩ => ⟨a18, c18, a19, c19, e3, (hR18.mono st h0 (fun h => absurd (hl _ h) (by simp <;> omega))), (hR19.mono st h0 (hj 2 (by simp) _ rfl)), (hB3.mono st (hj 1 (by simp) _ rfl))⟩, tv⟩ ⟨hR2, hB3, hR10, hB4, tv, tv, tv, tv, tv, tv⟩ (by kernel_rfl) (fun vs => by kernel_rfl) ?_ ?_ ?_
  ·intro j hj
   have hq : j = 0 ∨ j = 1 := by have h : j < 2 := hj; omega
   rcases hq with rfl | rfl
   ·intro vs gq stq hl hf
    obtain ⟨v0, v1, v2, v3, rfl⟩ := len_k4 hl
    have e0 := (show v0 = .pointer (some ⟨b20, u14 + x5.toNat * 2, none⟩) from hf _ (memI 4 rfl) (by kernel_rfl))
    subst e0
    show Option.isSome _ = true
    kernel_rfl
   ·intro vs gq stq hl hf
    obtain ⟨v0, v1, v2, v3, rfl⟩ := len_k4 hl
    have e1 := (show v1 = .int .u8 ((getI l2 x5).f2) from hf _ (memI 5 rfl) (by kernel_rfl))
    subst e1
    show Option.isSome _ = true
    kernel_rfl
  ·intro j hj
   have hq : j = 0 ∨ j = 1 ∨ j = 2 ∨ j = 3 := by have h : j < 4 := hj; omega
   rcases hq with rfl | rfl | rfl | rfl
   ·intro vs gq stq hl hf
    obtain ⟨v0, v1, v2, v3, rfl⟩ := len_k4 hl
    have hR2 := (show RdS k_S_baizelaw07_Entry gq 36 a2 n2 c2 l2 from hf _ (memI 0 rfl) (by kernel_rfl))
    refine WP.indexA (t := 22) (e := 36) (sz := 2) (cap := c2) (k := .i64) (i := x5) hR2.len ha14 (by kernel_rfl) (by kernel_rfl) hc14 ?_
    refine WP.dn (Shown.ok (v := .pointer (some ⟨b20, u14 + x5.toNat * 2, none⟩)) (by kernel_rfl) (Step.refl _ _) ?_)
    exact ⟨tv, tv, tv, tv, rfl, tv, tv, tv, tv, tv⟩
   ·intro vs gq stq hl hf
    obtain ⟨v0, v1, v2, v3, rfl⟩ := len_k4 hl
    have hR2 := (show RdS k_S_baizelaw07_Entry gq 36 a2 n2 c2 l2 from hf _ (memI 0 rfl) (by kernel_rfl))
    have e0 := (show v0 = .pointer (some ⟨b20, u14 + x5.toNat * 2, none⟩) from hf _ (memI 4 rfl) (by kernel_rfl))
    subst e0
    obtain ⟨cs14, hcR14, hcV14⟩ := hR2.src.view (getI_some hc14) ha14
    replace hcR14 := k_S_baizelaw07_Entry.opn hcR14
    refine WP.loadV [[.int .u8 ((getI l2 x5).f1)], [.int .u8 ((getI l2 x5).f2)]] [1, 1] hcV14 hcR14 rfl (f := 1) (ty := 5) (agg := false) (size := 1) (rs := [[.int .u8 ((getI l2 x5).f2)]]) (v := .int .u8 ((getI l2 x5).f2)) (by kernel_rfl) (by kernel_rfl) (by kernel_rfl) (by kernel_rfl) ?_
    refine WP.dn (Shown.ok (v := .int .u8 ((getI l2 x5).f2)) (by kernel_rfl) (Step.refl _ _) ?_)
    exact ⟨tv, tv, tv, tv, tv, rfl, tv, tv, tv, tv⟩
   ·intro vs gq stq hl hf
    obtain ⟨v0, v1, v2, v3, rfl⟩ := len_k4 hl
    have e1 := (show v1 = .int .u8 ((getI l2 x5).f2) from hf _ (memI 5 rfl) (by kernel_rfl))
    subst e1
    have hcal34 := P.baizelaw07_Digest gq (IntKind.u64.wrap ((getI l2 x5).f2)) d19 hk34
    refine WP.callC hcal34 (by kernel_rfl) ?_
    rintro _ g48 st48 rfl
    refine WP.dn (Shown.o (v := AG [encA .u8 d19]) st48.pure ?_)
    exact ⟨tv, tv, tv, tv, tv, tv, rfl, tv, tv, tv⟩
   ·intro vs gq stq hl hf
    obtain ⟨v0, v1, v2, v3, rfl⟩ := len_k4 hl
    have hB3 := (show Box gq (t + 4) b3 84 [[.slice a10 n9 c10], [.map (some b4)]] [1, 1] from hf _ (memI 1 rfl) (by kernel_rfl))
    have hR10 := (show OwnS k_S_notary_entry gq (t + 5) 86 a10 n9 c10 l8 from hf _ (memI 2 rfl) (by kernel_rfl))
    have hB4 := (show MapB gq (t + 6) b4 kv_S_notary_entry (Value.int .i64) w1 from hf _ (memI 3 rfl) (by kernel_rfl))
    have e2 := (show v2 = AG [encA .u8 d19] from hf _ (memI 6 rfl) (by kernel_rfl))
    subst e2
    have hcal35 := P.notary_bookSigner_Sign gq (t + 4) (t + 5) (t + 6) (t + 11) l8 w1 d18 d19 a10 n9 c10 b3 b4 hR10 hB4 hB3 (by omega) (by omega) (by omega) (by omega) (by omega) (by omega) l14 x11 d20 d21 hk35
    refine WP.callC hcal35 (by kernel_rfl) ?_
    rintro _ g49 st49 ⟨a18, n16, c18, a19, n17, c19, rfl, hR18, hB13, hR19, hB14⟩
    obtain rfl := hR18.len
    obtain rfl := hR19.len
    refine WP.dn (Shown.o (v := .tuple #[.slice a18 l14.length c18, .int .i64 x11]) st49 ?_)
    exact ⟨tv, tv, tv, tv, tv, tv, tv, hB13, ⟨a18, c18, a19, c19, rfl, hR18, hR19, hB14⟩, tv⟩
  intro vs g50 st50 hl hf
  obtain ⟨v0, v1, v2, v3, rfl⟩ := len_k4 hl
  have hB4 := (show MapB g50 (t + 6) b4 kv_S_notary_entry (Value.int .i64) d20 from hf _ (memI 7 rfl) (by kernel_rfl))
  obtain ⟨a18, c18, a19, c19, e3, hR18, hR19, hB3⟩ := (show ∃ (a18 : Option Addr) (c18 : Nat) (a19 : Option Addr) (c19 : Nat), v3 = .tuple #[.slice a18 l14.length c18, .int .i64 x11] ∧ OwnS (Kd.int .u8) g50 (t + 11) 5 a18 l14.length c18 l14 ∧ OwnS k_S_notary_entry g50 (t + 5) 86 a19 d21.length c19 d21 ∧ Box g50 (t + 4) b3 84 [[.slice a19 d21.length c19], [.map (some b4)]] [1, 1] from hf _ (memI 8 rfl) (by kernel_rfl))
  subst e3
  replace hR2 := hR2.mono st50 (WL.no3 (by omega) (by omega) (by omega))
  replace hB1 := hB1.mono st50 (WL.no3 (by omega) (by omega) (by omega))
  replace hR3 := hR3.mono st50 (WL.no3 (by omega) (by omega) (by omega))
  replace hB2 := hB2.mono st50 (WL.no3 (by omega) (by omega) (by omega))
  replace hR4 := hR4.mono st50 (WL.no3 (by omega) (by omega) (by omega))
  replace hR11 := hR11.mono st50 (WL.no3 (by omega) (by omega) (by omega))
  replace tot := tot.trans (st50.up3 (.inr (by omega)) (.inr (by omega)) (.inr (by omega)))
  refine NX.then_n ?_
  refine CP.refr 141 [(1, .slice a2 n2 c2), (5, .pointer (some ⟨b1, 0, none⟩)), (6, .slice a4 n4 c4), (8, .pointer (some ⟨b3, 0, none⟩)), (9, .slice a11 n10 c11), (10, .int .i64 x5)] (by kernel_rfl) (by kernel_rfl) ?_
  clear ds
  intro ds
  refine CP.seq ?_
  by_cases hc15 : (0 : Int) ≤ x5 ∧ x5 < (l2.length : Int)
  case neg => rw [if_neg hc15] at hs; cases hs
  replace hs := of_if_p hs hc15
  by_cases hc16 : (0 : Int) ≤ x5 ∧ x5 < (l2.length : Int)
  case neg => rw [if_neg hc16] at hs; cases hs
  replace hs := of_if_p hs hc16
  replace hs := Option.bind_eq_some_iff.1 hs
  obtain ⟨⟨l15, x12⟩, hk36, hs⟩ := hs
  dsimp only at hs
  obtain ⟨b21, u15, ha15⟩ := hR2.at hc15
  obtain ⟨b22, u16, ha16⟩ := hR2.at hc16
  refine CP.drawL (by kernel_rfl) [3, 5, 9, 11, 14] N.baizelaw07_NotaryApart_1 [⟨none, [], [], fun l g => RdS k_S_baizelaw07_Entry g 36 a2 n2 c2 l2⟩, ⟨none, [], [], fun l g => RdS k_S_baizeref07_Entry g 53 a11 n10 c11 l9⟩, ⟨some 0, [], [0], fun l g => l.getD 0 undef = .pointer (some ⟨b21, u15 + x5.toNat * 2, none⟩)⟩, ⟨some 1, [], [1], fun l g => l.getD 0 undef = .int .u8 ((getI l2 x5).f1)⟩, ⟨some 2, [], [2], fun l g => l.getD 0 undef = .pointer (some ⟨b22, u16 + x5.toNat * 2, none⟩)⟩, ⟨some 3, [], [3], fun l g => l.getD 0 undef = .int .u8 ((getI l2 x5).f2)⟩, ⟨some 4, [], [4], fun l g => ∃ (a20 : Option Addr) (c20 : Nat), l.getD 0 undef = .tuple #[.slice a20 l15.length c20, .int .i64 x12] ∧ RdS k_S_baizeref07_Entry g 53 a20 l15.length c20 l15⟩] [[], [], [], [], []] [] [0, 1, 2, 7, 8] [4, 6, 10, 12, 13, 15, 16, 17, 18, 19] (by kernel_rfl) (by simp) (by simp) ⟨fun _ _ _ _ st h0 hl hj hR2 => (RdS.mono (e := 36) hR2 st h0), fun _ _ _ _ st h0 hl hj hR11 => (RdS.mono (e := 53) hR11 st h0), fun _ _ _ _ st h0 hl hj e0 => e0, fun _ _ _ _ st h0 hl hj e1 => e1, fun _ _ _ _ st h0 hl hj e2 => e2, fun _ _ _ _ st h0 hl hj e3 => e3, fun _ _ _ _ st h0 hl hj ⟨a20, c20, e4, hR20⟩ => ⟨a20, c20, e4, (RdS.mono (e := 53) hR20 st h0)⟩, tv⟩ ⟨hR2, hR11, tv, tv, tv, tv, tv, tv⟩ (by kernel_rfl) (fun vs => by kernel_rfl) ?_ ?_ ?_
  ·intro j hj
   have hq : j = 0 ∨ j = 1 ∨ j = 2 ∨ j = 3 ∨ j = 4 ∨ j = 5 ∨ j = 6 ∨ j = 7 ∨ j = 8 ∨ j = 9 := by have h : j < 10 := hj; omega
   rcases hq with rfl | rfl | rfl | rfl | rfl | rfl | rfl | rfl | rfl | rfl
   ·intro vs gq stq hl hf
    obtain ⟨v0, v1, v2, v3, v4, rfl⟩ := len_k5 hl
    have e0 := (show v0 = .pointer (some ⟨b21, u15 + x5.toNat * 2, none⟩) from hf _ (memI 2 rfl) (by kernel_rfl))
    subst e0
    show Option.isSome _ = true
    kernel_rfl
   ·intro vs gq stq hl hf
    obtain ⟨v0, v1, v2, v3, v4, rfl⟩ := len_k5 hl
    have e1 := (show v1 = .int .u8 ((getI l2 x5).f1) from hf _ (memI 3 rfl) (by kernel_rfl))
    subst e1
    show Option.isSome _ = true
    kernel_rfl
   ·intro vs gq stq hl hf
    obtain ⟨v0, v1, v2, v3, v4, rfl⟩ := len_k5 hl
    have e2 := (show v2 = .pointer (some ⟨b22, u16 + x5.toNat * 2, none⟩) from hf _ (memI 4 rfl) (by kernel_rfl))
    subst e2
    show Option.isSome _ = true
    kernel_rfl
   ·intro vs gq stq hl hf
    obtain ⟨v0, v1, v2, v3, v4, rfl⟩ := len_k5 hl
    have e3 := (show v3 = .int .u8 ((getI l2 x5).f2) from hf _ (memI 5 rfl) (by kernel_rfl))
    subst e3
    show Option.isSome _ = true
    kernel_rfl
   ·intro vs gq stq hl hf
    obtain ⟨v0, v1, v2, v3, v4, rfl⟩ := len_k5 hl
    have e1 := (show v1 = .int .u8 ((getI l2 x5).f1) from hf _ (memI 3 rfl) (by kernel_rfl))
    subst e1
    have e3 := (show v3 = .int .u8 ((getI l2 x5).f2) from hf _ (memI 5 rfl) (by kernel_rfl))
    subst e3
    show Option.isSome _ = true
    kernel_rfl
   ·intro vs gq stq hl hf
    obtain ⟨v0, v1, v2, v3, v4, rfl⟩ := len_k5 hl
    obtain ⟨a20, c20, e4, hR20⟩ := (show ∃ (a20 : Option Addr) (c20 : Nat), v4 = .tuple #[.slice a20 l15.length c20, .int .i64 x12] ∧ RdS k_S_baizeref07_Entry gq 53 a20 l15.length c20 l15 from hf _ (memI 6 rfl) (by kernel_rfl))
    subst e4
    show Option.isSome _ = true
    kernel_rfl
   ·intro vs gq stq hl hf
    obtain ⟨v0, v1, v2, v3, v4, rfl⟩ := len_k5 hl
    obtain ⟨a20, c20, e4, hR20⟩ := (show ∃ (a20 : Option Addr) (c20 : Nat), v4 = .tuple #[.slice a20 l15.length c20, .int .i64 x12] ∧ RdS k_S_baizeref07_Entry gq 53 a20 l15.length c20 l15 from hf _ (memI 6 rfl) (by kernel_rfl))
    subst e4
    show Option.isSome _ = true
    kernel_rfl
   ·intro vs gq stq hl hf
    obtain ⟨v0, v1, v2, v3, v4, rfl⟩ := len_k5 hl
    obtain ⟨a20, c20, e4, hR20⟩ := (show ∃ (a20 : Option Addr) (c20 : Nat), v4 = .tuple #[.slice a20 l15.length c20, .int .i64 x12] ∧ RdS k_S_baizeref07_Entry gq 53 a20 l15.length c20 l15 from hf _ (memI 6 rfl) (by kernel_rfl))
    subst e4
    show Option.isSome _ = true
    kernel_rfl
   ·intro vs gq stq hl hf
    obtain ⟨v0, v1, v2, v3, v4, rfl⟩ := len_k5 hl
    obtain ⟨a20, c20, e4, hR20⟩ := (show ∃ (a20 : Option Addr) (c20 : Nat), v4 = .tuple #[.slice a20 l15.length c20, .int .i64 x12] ∧ RdS k_S_baizeref07_Entry gq 53 a20 l15.length c20 l15 from hf _ (memI 6 rfl) (by kernel_rfl))
    subst e4
    show Option.isSome _ = true
    kernel_rfl
   ·intro vs gq stq hl hf
    obtain ⟨v0, v1, v2, v3, v4, rfl⟩ := len_k5 hl
    obtain ⟨a20, c20, e4, hR20⟩ := (show ∃ (a20 : Option Addr) (c20 : Nat), v4 = .tuple #[.slice a20 l15.length c20, .int .i64 x12] ∧ RdS k_S_baizeref07_Entry gq 53 a20 l15.length c20 l15 from hf _ (memI 6 rfl) (by kernel_rfl))
    subst e4
    show Option.isSome _ = true
    kernel_rfl
  ·intro j hj
   have hq : j = 0 ∨ j = 1 ∨ j = 2 ∨ j = 3 ∨ j = 4 := by have h : j < 5 := hj; omega
   rcases hq with rfl | rfl | rfl | rfl | rfl
   ·intro vs gq stq hl hf
    obtain ⟨v0, v1, v2, v3, v4, rfl⟩ := len_k5 hl
    have hR2 := (show RdS k_S_baizelaw07_Entry gq 36 a2 n2 c2 l2 from hf _ (memI 0 rfl) (by kernel_rfl))
    refine WP.indexA (t := 22) (e := 36) (sz := 2) (cap := c2) (k := .i64) (i := x5) hR2.len ha15 (by kernel_rfl) (by kernel_rfl) hc15 ?_
    refine WP.dn (Shown.ok (v := .pointer (some ⟨b21, u15 + x5.toNat * 2, none⟩)) (by kernel_rfl) (Step.refl _ _) ?_)
    exact ⟨tv, tv, rfl, tv, tv, tv, tv, tv⟩
   ·intro vs gq stq hl hf
    obtain ⟨v0, v1, v2, v3, v4, rfl⟩ := len_k5 hl
    have hR2 := (show RdS k_S_baizelaw07_Entry gq 36 a2 n2 c2 l2 from hf _ (memI 0 rfl) (by kernel_rfl))
    have e0 := (show v0 = .pointer (some ⟨b21, u15 + x5.toNat * 2, none⟩) from hf _ (memI 2 rfl) (by kernel_rfl))
    subst e0
    obtain ⟨cs15, hcR15, hcV15⟩ := hR2.src.view (getI_some hc15) ha15
    replace hcR15 := k_S_baizelaw07_Entry.opn hcR15
    refine WP.loadV [[.int .u8 ((getI l2 x5).f1)], [.int .u8 ((getI l2 x5).f2)]] [1, 1] hcV15 hcR15 rfl (f := 0) (ty := 5) (agg := false) (size := 1) (rs := [[.int .u8 ((getI l2 x5).f1)]]) (v := .int .u8 ((getI l2 x5).f1)) (by kernel_rfl) (by kernel_rfl) (by kernel_rfl) (by kernel_rfl) ?_
    refine WP.dn (Shown.ok (v := .int .u8 ((getI l2 x5).f1)) (by kernel_rfl) (Step.refl _ _) ?_)
    exact ⟨tv, tv, tv, rfl, tv, tv, tv, tv⟩
   ·intro vs gq stq hl hf
    obtain ⟨v0, v1, v2, v3, v4, rfl⟩ := len_k5 hl
    have hR2 := (show RdS k_S_baizelaw07_Entry gq 36 a2 n2 c2 l2 from hf _ (memI 0 rfl) (by kernel_rfl))
    refine WP.indexA (t := 22) (e := 36) (sz := 2) (cap := c2) (k := .i64) (i := x5) hR2.len ha16 (by kernel_rfl) (by kernel_rfl) hc16 ?_
    refine WP.dn (Shown.ok (v := .pointer (some ⟨b22, u16 + x5.toNat * 2, none⟩)) (by kernel_rfl) (Step.refl _ _) ?_)
    exact ⟨tv, tv, tv, tv, rfl, tv, tv, tv⟩
   ·intro vs gq stq hl hf
    obtain ⟨v0, v1, v2, v3, v4, rfl⟩ := len_k5 hl
    have hR2 := (show RdS k_S_baizelaw07_Entry gq 36 a2 n2 c2 l2 from hf _ (memI 0 rfl) (by kernel_rfl))
    have e2 := (show v2 = .pointer (some ⟨b22, u16 + x5.toNat * 2, none⟩) from hf _ (memI 4 rfl) (by kernel_rfl))
    subst e2
    obtain ⟨cs16, hcR16, hcV16⟩ := hR2.src.view (getI_some hc16) ha16
    replace hcR16 := k_S_baizelaw07_Entry.opn hcR16
    refine WP.loadV [[.int .u8 ((getI l2 x5).f1)], [.int .u8 ((getI l2 x5).f2)]] [1, 1] hcV16 hcR16 rfl (f := 1) (ty := 5) (agg := false) (size := 1) (rs := [[.int .u8 ((getI l2 x5).f2)]]) (v := .int .u8 ((getI l2 x5).f2)) (by kernel_rfl) (by kernel_rfl) (by kernel_rfl) (by kernel_rfl) ?_
    refine WP.dn (Shown.ok (v := .int .u8 ((getI l2 x5).f2)) (by kernel_rfl) (Step.refl _ _) ?_)
    exact ⟨tv, tv, tv, tv, tv, rfl, tv, tv⟩
   ·intro vs gq stq hl hf
    obtain ⟨v0, v1, v2, v3, v4, rfl⟩ := len_k5 hl
    have hR11 := (show RdS k_S_baizeref07_Entry gq 53 a11 n10 c11 l9 from hf _ (memI 1 rfl) (by kernel_rfl))
    have e1 := (show v1 = .int .u8 ((getI l2 x5).f1) from hf _ (memI 3 rfl) (by kernel_rfl))
    subst e1
    have e3 := (show v3 = .int .u8 ((getI l2 x5).f2) from hf _ (memI 5 rfl) (by kernel_rfl))
    subst e3
    have hcal36 := P.baizeref07_Sign gq l9 (IntKind.u64.wrap ((getI l2 x5).f1)) (IntKind.u64.wrap ((getI l2 x5).f2)) a11 n10 c11 hR11 l15 x12 hk36
    refine WP.callC hcal36 (by kernel_rfl) ?_
    rintro _ g51 st51 ⟨a20, n18, c20, rfl, hR20⟩
    obtain rfl := hR20.len
    refine WP.dn (Shown.o (v := .tuple #[.slice a20 l15.length c20, .int .i64 x12]) st51.pure ?_)
    exact ⟨tv, tv, tv, tv, tv, tv, ⟨a20, c20, rfl, hR20⟩, tv⟩
  intro vs g52 st52 hl hf
  obtain ⟨v0, v1, v2, v3, v4, rfl⟩ := len_k5 hl
  obtain ⟨a20, c20, e4, hR20⟩ := (show ∃ (a20 : Option Addr) (c20 : Nat), v4 = .tuple #[.slice a20 l15.length c20, .int .i64 x12] ∧ RdS k_S_baizeref07_Entry g52 53 a20 l15.length c20 l15 from hf _ (memI 6 rfl) (by kernel_rfl))
  subst e4
  replace hR2 := hR2.mono st52.toNo (fun x => x)
  replace hB1 := hB1.mono st52.toNo (fun x => x)
  replace hR3 := hR3.mono st52.toNo (fun x => x)
  replace hB2 := hB2.mono st52.toNo (fun x => x)
  replace hR4 := hR4.mono st52.toNo (fun x => x)
  replace hB3 := hB3.mono st52.toNo (fun x => x)
  replace hR19 := hR19.mono st52.toNo (fun x => x) (fun x => x)
  replace hB4 := hB4.mono st52.toNo (fun x => x)
  replace tot := tot.trans st52.toNo.pure
  refine NX.then_n ?_
  refine CP.refr 141 [(1, .slice a2 n2 c2), (5, .pointer (some ⟨b1, 0, none⟩)), (6, .slice a4 n4 c4), (8, .pointer (some ⟨b3, 0, none⟩)), (10, .int .i64 x5), (12, .slice a20 l15.length c20)] (by kernel_rfl) (by kernel_rfl) ?_
  clear ds
  intro ds
  refine CP.seqR ?_
  refine WP.stl 2 ?_
  refine WP.dn ?_
  refine NX.then_n ?_
  refine CP.seq ?_
  by_cases hc17 : (0 : Int) ≤ x5 ∧ x5 < (l2.length : Int)
  case neg => rw [if_neg hc17] at hs; cases hs
  replace hs := of_if_p hs hc17
  by_cases hc18 : (0 : Int) ≤ x5 ∧ x5 < (l2.length : Int)
  case neg => rw [if_neg hc18] at hs; cases hs
  replace hs := of_if_p hs hc18
  obtain ⟨b23, u17, ha17⟩ := hR2.at hc17
  obtain ⟨b24, u18, ha18⟩ := hR2.at hc18
  refine CP.drawL (by kernel_rfl) [2, 4, 8, 10, 13, 14] N.baizelaw07_NotaryApart_2 [⟨none, [], [], fun l g => RdS k_S_baizelaw07_Entry g 36 a2 n2 c2 l2⟩, ⟨some 0, [], [0], fun l g => l.getD 0 undef = .pointer (some ⟨b23, u17 + x5.toNat * 2, none⟩)⟩, ⟨some 1, [], [1], fun l g => l.getD 0 undef = .int .u8 ((getI l2 x5).f1)⟩, ⟨some 2, [], [2], fun l g => l.getD 0 undef = .pointer (some ⟨b24, u18 + x5.toNat * 2, none⟩)⟩, ⟨some 3, [], [3], fun l g => l.getD 0 undef = .int .u8 ((getI l2 x5).f2)⟩, ⟨some 4, [0], [4], fun l g => ∃ (b25 : Nat), l.getD 0 undef = .pointer (some ⟨b25, 0, none⟩) ∧ Box g (t + 12) b25 53 [[.int .u64 0], [.int .u64 0]] [1, 1]⟩, ⟨some 5, [0], [4], fun l g => ∃ (b25 : Nat), l.getD 0 undef = .pointer (some ⟨b25, 0, none⟩) ∧ Box g (t + 12) b25 53 [[.int .u64 (IntKind.u64.wrap ((getI l2 x5).f1))], [.int .u64 (IntKind.u64.wrap ((getI l2 x5).f2))]] [1, 1]⟩] [[], [], [], [], [], [0]] [(t + 12)] [0, 1, 6, 7] [3, 5, 9, 11, 12] (by kernel_rfl) (by simp <;> omega) (by simp) ⟨fun _ _ _ _ st h0 hl hj hR2 => (RdS.mono (e := 36) hR2 st h0), fun _ _ _ _ st h0 hl hj e0 => e0, fun _ _ _ _ st h0 hl hj e1 => e1, fun _ _ _ _ st h0 hl hj e2 => e2, fun _ _ _ _ st h0 hl hj e3 => e3, fun _ _ _ _ st h0 hl hj ⟨b25, e4, hB15⟩ => ⟨b25, e4, (hB15.mono st (hj 0 (by simp) _ rfl))⟩, fun _ _ _ _ st h0 hl hj ⟨b25, e4, hB15⟩ => ⟨b25, e4, (hB15.mono st (hj 0 (by simp) _ rfl))⟩, tv⟩ ⟨hR2, tv, tv, tv, tv, tv, tv, tv⟩ (by kernel_rfl) (fun vs => by kernel_rfl) ?_ ?_ ?_
  ·intro j hj
   have hq : j = 0 ∨ j = 1 ∨ j = 2 ∨ j = 3 ∨ j = 4 := by have h : j < 5 := hj; omega
   rcases hq with rfl | rfl | rfl | rfl | rfl
   ·intro vs gq stq hl hf
    obtain ⟨v0, v1, v2, v3, v4, v5, rfl⟩ := len_k6 hl
    have e0 := (show v0 = .pointer (some ⟨b23, u17 + x5.toNat * 2, none⟩) from hf _ (memI 1 rfl) (by kernel_rfl))
    subst e0
    show Option.isSome _ = true
    kernel_rfl
   ·intro vs gq stq hl hf
    obtain ⟨v0, v1, v2, v3, v4, v5, rfl⟩ := len_k6 hl
    have e1 := (show v1 = .int .u8 ((getI l2 x5).f1) from hf _ (memI 2 rfl) (by kernel_rfl))
    subst e1
    show Option.isSome _ = true
    kernel_rfl
   ·intro vs gq stq hl hf
    obtain ⟨v0, v1, v2, v3, v4, v5, rfl⟩ := len_k6 hl
    have e2 := (show v2 = .pointer (some ⟨b24, u18 + x5.toNat * 2, none⟩) from hf _ (memI 3 rfl) (by kernel_rfl))
    subst e2
    show Option.isSome _ = true
    kernel_rfl
   ·intro vs gq stq hl hf
    obtain ⟨v0, v1, v2, v3, v4, v5, rfl⟩ := len_k6 hl
    have e3 := (show v3 = .int .u8 ((getI l2 x5).f2) from hf _ (memI 4 rfl) (by kernel_rfl))
    subst e3
    show Option.isSome _ = true
    kernel_rfl
   ·intro vs gq stq hl hf
    obtain ⟨v0, v1, v2, v3, v4, v5, rfl⟩ := len_k6 hl
    have e1 := (show v1 = .int .u8 ((getI l2 x5).f1) from hf _ (memI 2 rfl) (by kernel_rfl))
    subst e1
    have e3 := (show v3 = .int .u8 ((getI l2 x5).f2) from hf _ (memI 4 rfl) (by kernel_rfl))
    subst e3
    show Option.isSome _ = true
    kernel_rfl
  ·intro j hj
   have hq : j = 0 ∨ j = 1 ∨ j = 2 ∨ j = 3 ∨ j = 4 ∨ j = 5 := by have h : j < 6 := hj; omega
   rcases hq with rfl | rfl | rfl | rfl | rfl | rfl
   ·intro vs gq stq hl hf
    obtain ⟨v0, v1, v2, v3, v4, v5, rfl⟩ := len_k6 hl
    have hR2 := (show RdS k_S_baizelaw07_Entry gq 36 a2 n2 c2 l2 from hf _ (memI 0 rfl) (by kernel_rfl))
    refine WP.indexA (t := 22) (e := 36) (sz := 2) (cap := c2) (k := .i64) (i := x5) hR2.len ha17 (by kernel_rfl) (by kernel_rfl) hc17 ?_
    refine WP.dn (Shown.ok (v := .pointer (some ⟨b23, u17 + x5.toNat * 2, none⟩)) (by kernel_rfl) (Step.refl _ _) ?_)
    exact ⟨tv, rfl, tv, tv, tv, tv, tv, tv⟩
   ·intro vs gq stq hl hf
    obtain ⟨v0, v1, v2, v3, v4, v5, rfl⟩ := len_k6 hl
    have hR2 := (show RdS k_S_baizelaw07_Entry gq 36 a2 n2 c2 l2 from hf _ (memI 0 rfl) (by kernel_rfl))
    have e0 := (show v0 = .pointer (some ⟨b23, u17 + x5.toNat * 2, none⟩) from hf _ (memI 1 rfl) (by kernel_rfl))
    subst e0
    obtain ⟨cs17, hcR17, hcV17⟩ := hR2.src.view (getI_some hc17) ha17
    replace hcR17 := k_S_baizelaw07_Entry.opn hcR17
    refine WP.loadV [[.int .u8 ((getI l2 x5).f1)], [.int .u8 ((getI l2 x5).f2)]] [1, 1] hcV17 hcR17 rfl (f := 0) (ty := 5) (agg := false) (size := 1) (rs := [[.int .u8 ((getI l2 x5).f1)]]) (v := .int .u8 ((getI l2 x5).f1)) (by kernel_rfl) (by kernel_rfl) (by kernel_rfl) (by kernel_rfl) ?_
    refine WP.dn (Shown.ok (v := .int .u8 ((getI l2 x5).f1)) (by kernel_rfl) (Step.refl _ _) ?_)
    exact ⟨tv, tv, rfl, tv, tv, tv, tv, tv⟩
   ·intro vs gq stq hl hf
    obtain ⟨v0, v1, v2, v3, v4, v5, rfl⟩ := len_k6 hl
    have hR2 := (show RdS k_S_baizelaw07_Entry gq 36 a2 n2 c2 l2 from hf _ (memI 0 rfl) (by kernel_rfl))
    refine WP.indexA (t := 22) (e := 36) (sz := 2) (cap := c2) (k := .i64) (i := x5) hR2.len ha18 (by kernel_rfl) (by kernel_rfl) hc18 ?_
    refine WP.dn (Shown.ok (v := .pointer (some ⟨b24, u18 + x5.toNat * 2, none⟩)) (by kernel_rfl) (Step.refl _ _) ?_)
    exact ⟨tv, tv, tv, rfl, tv, tv, tv, tv⟩
   ·intro vs gq stq hl hf
    obtain ⟨v0, v1, v2, v3, v4, v5, rfl⟩ := len_k6 hl
    have hR2 := (show RdS k_S_baizelaw07_Entry gq 36 a2 n2 c2 l2 from hf _ (memI 0 rfl) (by kernel_rfl))
    have e2 := (show v2 = .pointer (some ⟨b24, u18 + x5.toNat * 2, none⟩) from hf _ (memI 3 rfl) (by kernel_rfl))
    subst e2
    obtain ⟨cs18, hcR18, hcV18⟩ := hR2.src.view (getI_some hc18) ha18
    replace hcR18 := k_S_baizelaw07_Entry.opn hcR18
    refine WP.loadV [[.int .u8 ((getI l2 x5).f1)], [.int .u8 ((getI l2 x5).f2)]] [1, 1] hcV18 hcR18 rfl (f := 1) (ty := 5) (agg := false) (size := 1) (rs := [[.int .u8 ((getI l2 x5).f2)]]) (v := .int .u8 ((getI l2 x5).f2)) (by kernel_rfl) (by kernel_rfl) (by kernel_rfl) (by kernel_rfl) ?_
    refine WP.dn (Shown.ok (v := .int .u8 ((getI l2 x5).f2)) (by kernel_rfl) (Step.refl _ _) ?_)
    exact ⟨tv, tv, tv, tv, rfl, tv, tv, tv⟩
   ·intro vs gq stq hl hf
    obtain ⟨v0, v1, v2, v3, v4, v5, rfl⟩ := len_k6 hl
    refine WP.alloc (T := 53) (t + 12) [[.int .u64 0], [.int .u64 0]] [1, 1] (by kernel_rfl) rfl ?_
    intro g53 b25 st53 hB15
    refine WP.dn (Shown.o (v := .pointer (some ⟨b25, 0, none⟩)) st53.pure ?_)
    exact ⟨tv, tv, tv, tv, tv, ⟨b25, rfl, hB15⟩, tv, tv⟩
   ·intro vs gq stq hl hf
    obtain ⟨v0, v1, v2, v3, v4, v5, rfl⟩ := len_k6 hl
    have e1 := (show v1 = .int .u8 ((getI l2 x5).f1) from hf _ (memI 2 rfl) (by kernel_rfl))
    subst e1
    have e3 := (show v3 = .int .u8 ((getI l2 x5).f2) from hf _ (memI 4 rfl) (by kernel_rfl))
    subst e3
    obtain ⟨b25, e4, hB15⟩ := (show ∃ (b25 : Nat), v4 = .pointer (some ⟨b25, 0, none⟩) ∧ Box gq (t + 12) b25 53 [[.int .u64 0], [.int .u64 0]] [1, 1] from hf _ (memI 5 rfl) (by kernel_rfl))
    subst e4
    refine WP.storeB (ty := 53) (off := 0) (v := AG [[.int .u64 (IntKind.u64.wrap ((getI l2 x5).f1))], [.int .u64 (IntKind.u64.wrap ((getI l2 x5).f2))]]) hB15 [[.int .u64 (IntKind.u64.wrap ((getI l2 x5).f1))], [.int .u64 (IntKind.u64.wrap ((getI l2 x5).f2))]] [1, 1] (by kernel_rfl) (by kernel_rfl) rfl (by kernel_rfl) [[.int .u64 (IntKind.u64.wrap ((getI l2 x5).f1))], [.int .u64 (IntKind.u64.wrap ((getI l2 x5).f2))]] (by kernel_rfl) (.one rfl (.one rfl .nil)) ?_
    intro g54 st54 hB16
    refine WP.dn (Shown.o (v := undef) st54 ?_)
    exact ⟨tv, tv, tv, tv, tv, tv, ⟨b25, rfl, hB16⟩, tv⟩
  intro vs g55 st55 hl hf
  obtain ⟨v0, v1, v2, v3, v4, v5, rfl⟩ := len_k6 hl
  obtain ⟨b25, e4, hB15⟩ := (show ∃ (b25 : Nat), v4 = .pointer (some ⟨b25, 0, none⟩) ∧ Box g55 (t + 12) b25 53 [[.int .u64 (IntKind.u64.wrap ((getI l2 x5).f1))], [.int .u64 (IntKind.u64.wrap ((getI l2 x5).f2))]] [1, 1] from hf _ (memI 6 rfl) (by kernel_rfl))
  subst e4
  replace hR2 := hR2.mono st55 (WL.no1 (by omega))
  replace hB1 := hB1.mono st55 (WL.no1 (by omega))
  replace hR3 := hR3.mono st55 (WL.no1 (by omega))
  replace hB2 := hB2.mono st55 (WL.no1 (by omega))
  replace hR4 := hR4.mono st55 (WL.no1 (by omega))
  replace hB3 := hB3.mono st55 (WL.no1 (by omega))
  replace hR19 := hR19.mono st55 (WL.no1 (by omega)) (WL.no1 (by omega))
  replace hB4 := hB4.mono st55 (WL.no1 (by omega))
  replace hR20 := hR20.mono st55 (WL.no1 (by omega))
  replace tot := tot.trans (st55.up1 (.inr (by omega)))
  refine NX.then_n ?_
  refine CP.refr 141 [(1, .slice a2 n2 c2), (5, .pointer (some ⟨b1, 0, none⟩)), (6, .slice a4 n4 c4), (8, .pointer (some ⟨b3, 0, none⟩)), (9, .slice a20 l15.length c20), (10, .int .i64 x5), (14, .pointer (some ⟨b25, 0, none⟩))] (by kernel_rfl) (by kernel_rfl) ?_
  clear ds
  intro ds
  refine CP.cut (fun tm g => ∃ (q18 : Bool), Fr 141 [(1, .slice a2 n2 c2), (5, .pointer (some ⟨b1, 0, none⟩)), (6, .slice a4 n4 c4), (8, .pointer (some ⟨b3, 0, none⟩)), (9, .slice a20 l15.length c20), (10, .int .i64 x5), (128, .bool q18)] tm ∧ Step (fun l => NoM l ∨ t ≤ l) g0 g ∧ RdS k_S_baizelaw07_Entry g 36 a2 n2 c2 l2 ∧ Box g (t + 1) b1 84 [[.slice a3 n3 c3], [.map (some b2)]] [1, 1] ∧ RdS k_S_notary_entry g 86 a3 n3 c3 l3 ∧ MapB g (t + 3) b2 kv_S_notary_entry (Value.int .i64) d1 ∧ RdS k_S_baizeref07_Entry g 53 a4 n4 c4 l4 ∧ Box g (t + 4) b3 84 [[.slice a19 d21.length c19], [.map (some b4)]] [1, 1] ∧ OwnS k_S_notary_entry g (t + 5) 86 a19 d21.length c19 d21 ∧ MapB g (t + 6) b4 kv_S_notary_entry (Value.int .i64) d20 ∧ RdS k_S_baizeref07_Entry g 53 a20 l15.length c20 l15 ∧ (F.baizelaw07_NotaryApart.c3 (F.baizelaw07_NotaryApart.l1 l2 l3 d1 l4 k1) x5 d20 d21 l15 q18) = some o1) ?_ ?_
  ·replace hs := Option.bind_eq_some_iff.1 hs
   obtain ⟨x15, hk43, hs⟩ := hs
   refine bool_split (b := decide (x15 < 0)) (fun h17 => ?_) (fun h17 => ?_)
   ·replace hs := of_if_t hs h17
    replace hs := Option.bind_eq_some_iff.1 hs
    obtain ⟨d24, hk44, hs⟩ := hs
    replace hs := Option.bind_eq_some_iff.1 hs
    obtain ⟨d25, hk45, hs⟩ := hs
    replace hs := Option.bind_eq_some_iff.1 hs
    obtain ⟨x16, hk46, hs⟩ := hs
    replace hs := Option.bind_eq_some_iff.1 hs
    obtain ⟨s4, hk47, hs⟩ := hs
    replace hs := Option.bind_eq_some_iff.1 hs
    obtain ⟨q19, hk48, hs⟩ := hs
    refine CP.drawL (by kernel_rfl) [1, 2, 4, 7, 8, 10, 11, 13, 14, 15, 16, 17] N.baizelaw07_NotaryApart_3 [⟨none, [], [], fun l g => Box g (t + 1) b1 84 [[.slice a3 n3 c3], [.map (some b2)]] [1, 1]⟩, ⟨none, [], [], fun l g => RdS k_S_notary_entry g 86 a3 n3 c3 l3⟩, ⟨none, [], [], fun l g => MapB g (t + 3) b2 kv_S_notary_entry (Value.int .i64) d1⟩, ⟨none, [], [], fun l g => RdS k_S_baizeref07_Entry g 53 a4 n4 c4 l4⟩, ⟨none, [], [], fun l g => RdS k_S_baizeref07_Entry g 53 a20 l15.length c20 l15⟩, ⟨none, [], [], fun l g => Box g (t + 12) b25 53 [[.int .u64 (IntKind.u64.wrap ((getI l2 x5).f1))], [.int .u64 (IntKind.u64.wrap ((getI l2 x5).f2))]] [1, 1]⟩, ⟨some 0, [], [0], fun l g => l.getD 0 undef = AG [[.int .u64 (IntKind.u64.wrap ((getI l2 x5).f1))], [.int .u64 (IntKind.u64.wrap ((getI l2 x5).f2))]]⟩, ⟨some 1, [], [1], fun l g => l.getD 0 undef = .int .i64 x15⟩, ⟨some 2, [], [2], fun l g => l.getD 0 undef = .bool true⟩, ⟨some 3, [], [3], fun l g => l.getD 0 undef = .int .u64 (IntKind.u64.wrap ((getI l2 x5).f1))⟩, ⟨some 4, [], [4], fun l g => l.getD 0 undef = AG [encA .u8 d24]⟩, ⟨some 5, [], [5], fun l g => l.getD 0 undef = .int .u64 (IntKind.u64.wrap ((getI l2 x5).f2))⟩, ⟨some 6, [], [6], fun l g => l.getD 0 undef = AG [encA .u8 d25]⟩, ⟨some 7, [], [7], fun l g => l.getD 0 undef = AG [[.int .u64 (IntKind.u64.wrap ((getI l2 x5).f1))], [.int .u64 (IntKind.u64.wrap ((getI l2 x5).f2))]]⟩, ⟨some 8, [], [8], fun l g => l.getD 0 undef = .int .i64 x16⟩, ⟨some 9, [], [9], fun l g => l.getD 0 undef = .string s4⟩, ⟨some 10, [], [10], fun l g => ∃ (a22 : Option Addr) (c22 : Nat), l.getD 0 undef = .slice a22 s4.size c22 ∧ RdS (Kd.int .u8) g 5 a22 s4.size c22 (strBytes s4)⟩, ⟨some 11, [], [11], fun l g => l.getD 0 undef = .bool q19⟩] [[], [], [], [], [], [], [], [], [], [], [], []] [] [0] [3, 5, 6, 9, 12, 18] (by kernel_rfl) (by simp) (by simp) ⟨fun _ _ _ _ st h0 hl hj hB1 => (hB1.mono st (fun h => absurd (hl _ h) (by simp))), fun _ _ _ _ st h0 hl hj hR3 => (RdS.mono (e := 86) hR3 st h0), fun _ _ _ _ st h0 hl hj hB2 => (hB2.mono st (fun h => absurd (hl _ h) (by simp))), fun _ _ _ _ st h0 hl hj hR4 => (RdS.mono (e := 53) hR4 st h0), fun _ _ _ _ st h0 hl hj hR20 => (RdS.mono (e := 53) hR20 st h0), fun _ _ _ _ st h0 hl hj hB15 => (hB15.mono st (fun h => absurd (hl _ h) (by simp))), fun _ _ _ _ st h0 hl hj e0 => e0, fun _ _ _ _ st h0 hl hj e1 => e1, fun _ _ _ _ st h0 hl hj e2 => e2, fun _ _ _ _ st h0 hl hj e3 => e3, fun _ _ _ _ st h0 hl hj e4 => e4, fun _ _ _ _ st h0 hl hj e5 => e5, fun _ _ _ _ st h0 hl hj e6 => e6, fun _ _ _ _ st h0 hl hj e7 => e7, fun _ _ _ _ st h0 hl hj e8 => e8, fun _ _ _ _ st h0 hl hj e9 => e9, fun _ _ _ _ st h0 hl hj ⟨a22, c22, e10, hR22⟩ => ⟨a22, c22, e10, (RdS.mono (e := 5) hR22 st h0)⟩, fun _ _ _ _ st h0 hl hj e11 => e11, tv⟩ ⟨hB1, hR3, hB2, hR4, hR20, hB15, tv, tv, tv, tv, tv, tv, tv, tv, tv, tv, tv, tv, tv⟩ (by kernel_rfl) (fun vs => by kernel_rfl) ?_ ?_ ?_
    ·intro j hj
     have hq : j = 0 ∨ j = 1 ∨ j = 2 ∨ j = 3 ∨ j = 4 ∨ j = 5 := by have h : j < 6 := hj; omega
     rcases hq with rfl | rfl | rfl | rfl | rfl | rfl
     ·intro vs gq stq hl hf
      obtain ⟨v0, v1, v2, v3, v4, v5, v6, v7, v8, v9, v10, v11, rfl⟩ := len_k12 hl
      have e1 := (show v1 = .int .i64 x15 from hf _ (memI 7 rfl) (by kernel_rfl))
      subst e1
      show Option.isSome _ = true
      kernel_rfl
     ·intro vs gq stq hl hf
      obtain ⟨v0, v1, v2, v3, v4, v5, v6, v7, v8, v9, v10, v11, rfl⟩ := len_k12 hl
      have e2 := (show v2 = .bool true from hf _ (memI 8 rfl) (by kernel_rfl))
      subst e2
      show Option.isSome _ = true
      kernel_rfl
     ·intro vs gq stq hl hf
      obtain ⟨v0, v1, v2, v3, v4, v5, v6, v7, v8, v9, v10, v11, rfl⟩ := len_k12 hl
      have e2 := (show v2 = .bool true from hf _ (memI 8 rfl) (by kernel_rfl))
      subst e2
      show Option.isSome _ = true
      kernel_rfl
     ·intro vs gq stq hl hf
      obtain ⟨v0, v1, v2, v3, v4, v5, v6, v7, v8, v9, v10, v11, rfl⟩ := len_k12 hl
      have e2 := (show v2 = .bool true from hf _ (memI 8 rfl) (by kernel_rfl))
      subst e2
      show Option.isSome _ = true
      kernel_rfl
     ·intro vs gq stq hl hf
      obtain ⟨v0, v1, v2, v3, v4, v5, v6, v7, v8, v9, v10, v11, rfl⟩ := len_k12 hl
      have e2 := (show v2 = .bool true from hf _ (memI 8 rfl) (by kernel_rfl))
      subst e2
      show Option.isSome _ = true
      kernel_rfl
     ·intro vs gq stq hl hf
      obtain ⟨v0, v1, v2, v3, v4, v5, v6, v7, v8, v9, v10, v11, rfl⟩ := len_k12 hl
      have e2 := (show v2 = .bool true from hf _ (memI 8 rfl) (by kernel_rfl))
      subst e2
      have e11 := (show v11 = .bool q19 from hf _ (memI 17 rfl) (by kernel_rfl))
      subst e11
      show Option.isSome _ = true
      kernel_rfl
    ·intro j hj
     have hq : j = 0 ∨ j = 1 ∨ j = 2 ∨ j = 3 ∨ j = 4 ∨ j = 5 ∨ j = 6 ∨ j = 7 ∨ j = 8 ∨ j = 9 ∨ j = 10 ∨ j = 11 := by have h : j < 12 := hj; omega
     rcases hq with rfl | rfl | rfl | rfl | rfl | rfl | rfl | rfl | rfl | rfl | rfl | rfl
     ·intro vs gq stq hl hf
      obtain ⟨v0, v1, v2, v3, v4, v5, v6, v7, v8, v9, v10, v11, rfl⟩ := len_k12 hl
      have hB15 := (show Box gq (t + 12) b25 53 [[.int .u64 (IntKind.u64.wrap ((getI l2 x5).f1))], [.int .u64 (IntKind.u64.wrap ((getI l2 x5).f2))]] [1, 1] from hf _ (memI 5 rfl) (by kernel_rfl))
      refine WP.loadB (v := AG [[.int .u64 (IntKind.u64.wrap ((getI l2 x5).f1))], [.int .u64 (IntKind.u64.wrap ((getI l2 x5).f2))]]) hB15 (by kernel_rfl) (by kernel_rfl) ?_
      refine WP.dn (Shown.ok (v := AG [[.int .u64 (IntKind.u64.wrap ((getI l2 x5).f1))], [.int .u64 (IntKind.u64.wrap ((getI l2 x5).f2))]]) (by kernel_rfl) (Step.refl _ _) ?_)
      exact ⟨tv, tv, tv, tv, tv, tv, rfl, tv, tv, tv, tv, tv, tv, tv, tv, tv, tv, tv, tv⟩
     ·intro vs gq stq hl hf
      obtain ⟨v0, v1, v2, v3, v4, v5, v6, v7, v8, v9, v10, v11, rfl⟩ := len_k12 hl
      have hR4 := (show RdS k_S_baizeref07_Entry gq 53 a4 n4 c4 l4 from hf _ (memI 3 rfl) (by kernel_rfl))
      have e0 := (show v0 = AG [[.int .u64 (IntKind.u64.wrap ((getI l2 x5).f1))], [.int .u64 (IntKind.u64.wrap ((getI l2 x5).f2))]] from hf _ (memI 6 rfl) (by kernel_rfl))
      subst e0
      have hcal43 := P.baizeref07_Find gq l4 (IntKind.u64.wrap ((getI l2 x5).f1)) (IntKind.u64.wrap ((getI l2 x5).f2)) a4 n4 c4 hR4 x15 hk43
      refine WP.callC hcal43 (by kernel_rfl) ?_
      rintro _ g63 st63 rfl
      refine WP.dn (Shown.o (v := .int .i64 x15) st63.pure ?_)
      exact ⟨tv, tv, tv, tv, tv, tv, tv, rfl, tv, tv, tv, tv, tv, tv, tv, tv, tv, tv, tv⟩
     ·intro vs gq stq hl hf
      obtain ⟨v0, v1, v2, v3, v4, v5, v6, v7, v8, v9, v10, v11, rfl⟩ := len_k12 hl
      have e1 := (show v1 = .int .i64 x15 from hf _ (memI 7 rfl) (by kernel_rfl))
      subst e1
      refine WP.stl 1 ?_
      refine WP.dn (Shown.ok (v := .bool (decide (x15 < 0))) (by kernel_rfl) (Step.refl _ _) ?_)
      exact ⟨tv, tv, tv, tv, tv, tv, tv, tv, congrArg Value.bool h17, tv, tv, tv, tv, tv, tv, tv, tv, tv, tv⟩
     ·intro vs gq stq hl hf
      obtain ⟨v0, v1, v2, v3, v4, v5, v6, v7, v8, v9, v10, v11, rfl⟩ := len_k12 hl
      have hB15 := (show Box gq (t + 12) b25 53 [[.int .u64 (IntKind.u64.wrap ((getI l2 x5).f1))], [.int .u64 (IntKind.u64.wrap ((getI l2 x5).f2))]] [1, 1] from hf _ (memI 5 rfl) (by kernel_rfl))
      have e2 := (show v2 = .bool true from hf _ (memI 8 rfl) (by kernel_rfl))
      subst e2
      refine WP.loadB (v := .int .u64 (IntKind.u64.wrap ((getI l2 x5).f1))) hB15 (by kernel_rfl) (by kernel_rfl) ?_
      refine WP.dn (Shown.ok (v := .int .u64 (IntKind.u64.wrap ((getI l2 x5).f1))) (by kernel_rfl) (Step.refl _ _) ?_)
      exact ⟨tv, tv, tv, tv, tv, tv, tv, tv, tv, rfl, tv, tv, tv, tv, tv, tv, tv, tv, tv⟩
     ·intro vs gq stq hl hf
      obtain ⟨v0, v1, v2, v3, v4, v5, v6, v7, v8, v9, v10, v11, rfl⟩ := len_k12 hl
      have e2 := (show v2 = .bool true from hf _ (memI 8 rfl) (by kernel_rfl))
      subst e2
      have e3 := (show v3 = .int .u64 (IntKind.u64.wrap ((getI l2 x5).f1)) from hf _ (memI 9 rfl) (by kernel_rfl))
      subst e3
      have hcal44 := P.baizelaw07_Digest gq (IntKind.u64.wrap ((getI l2 x5).f1)) d24 hk44
      refine WP.callC hcal44 (by kernel_rfl) ?_
      rintro _ g64 st64 rfl
      refine WP.dn (Shown.o (v := AG [encA .u8 d24]) st64.pure ?_)
      exact ⟨tv, tv, tv, tv, tv, tv, tv, tv, tv, tv, rfl, tv, tv, tv, tv, tv, tv, tv, tv⟩
     ·intro vs gq stq hl hf
      obtain ⟨v0, v1, v2, v3, v4, v5, v6, v7, v8, v9, v10, v11, rfl⟩ := len_k12 hl
      have hB15 := (show Box gq (t + 12) b25 53 [[.int .u64 (IntKind.u64.wrap ((getI l2 x5).f1))], [.int .u64 (IntKind.u64.wrap ((getI l2 x5).f2))]] [1, 1] from hf _ (memI 5 rfl) (by kernel_rfl))
      have e2 := (show v2 = .bool true from hf _ (memI 8 rfl) (by kernel_rfl))
      subst e2
      refine WP.loadB (v := .int .u64 (IntKind.u64.wrap ((getI l2 x5).f2))) hB15 (by kernel_rfl) (by kernel_rfl) ?_
      refine WP.dn (Shown.ok (v := .int .u64 (IntKind.u64.wrap ((getI l2 x5).f2))) (by kernel_rfl) (Step.refl _ _) ?_)
      exact ⟨tv, tv, tv, tv, tv, tv, tv, tv, tv, tv, tv, rfl, tv, tv, tv, tv, tv, tv, tv⟩
     ·intro vs gq stq hl hf
      obtain ⟨v0, v1, v2, v3, v4, v5, v6, v7, v8, v9, v10, v11, rfl⟩ := len_k12 hl
      have e2 := (show v2 = .bool true from hf _ (memI 8 rfl) (by kernel_rfl))
      subst e2
      have e5 := (show v5 = .int .u64 (IntKind.u64.wrap ((getI l2 x5).f2)) from hf _ (memI 11 rfl) (by kernel_rfl))
      subst e5
      have hcal45 := P.baizelaw07_Digest gq (IntKind.u64.wrap ((getI l2 x5).f2)) d25 hk45
      refine WP.callC hcal45 (by kernel_rfl) ?_
      rintro _ g65 st65 rfl
      refine WP.dn (Shown.o (v := AG [encA .u8 d25]) st65.pure ?_)
      exact ⟨tv, tv, tv, tv, tv, tv, tv, tv, tv, tv, tv, tv, rfl, tv, tv, tv, tv, tv, tv⟩
     ·intro vs gq stq hl hf
      obtain ⟨v0, v1, v2, v3, v4, v5, v6, v7, v8, v9, v10, v11, rfl⟩ := len_k12 hl
      have hB15 := (show Box gq (t + 12) b25 53 [[.int .u64 (IntKind.u64.wrap ((getI l2 x5).f1))], [.int .u64 (IntKind.u64.wrap ((getI l2 x5).f2))]] [1, 1] from hf _ (memI 5 rfl) (by kernel_rfl))
      have e2 := (show v2 = .bool true from hf _ (memI 8 rfl) (by kernel_rfl))
      subst e2
      refine WP.loadB (v := AG [[.int .u64 (IntKind.u64.wrap ((getI l2 x5).f1))], [.int .u64 (IntKind.u64.wrap ((getI l2 x5).f2))]]) hB15 (by kernel_rfl) (by kernel_rfl) ?_
      refine WP.dn (Shown.ok (v := AG [[.int .u64 (IntKind.u64.wrap ((getI l2 x5).f1))], [.int .u64 (IntKind.u64.wrap ((getI l2 x5).f2))]]) (by kernel_rfl) (Step.refl _ _) ?_)
      exact ⟨tv, tv, tv, tv, tv, tv, tv, tv, tv, tv, tv, tv, tv, rfl, tv, tv, tv, tv, tv⟩
     ·intro vs gq stq hl hf
      obtain ⟨v0, v1, v2, v3, v4, v5, v6, v7, v8, v9, v10, v11, rfl⟩ := len_k12 hl
      have hR20 := (show RdS k_S_baizeref07_Entry gq 53 a20 l15.length c20 l15 from hf _ (memI 4 rfl) (by kernel_rfl))
      have e2 := (show v2 = .bool true from hf _ (memI 8 rfl) (by kernel_rfl))
      subst e2
      have e7 := (show v7 = AG [[.int .u64 (IntKind.u64.wrap ((getI l2 x5).f1))], [.int .u64 (IntKind.u64.wrap ((getI l2 x5).f2))]] from hf _ (memI 13 rfl) (by kernel_rfl))
      subst e7
      have hcal46 := P.baizeref07_Find gq l15 (IntKind.u64.wrap ((getI l2 x5).f1)) (IntKind.u64.wrap ((getI l2 x5).f2)) a20 l15.length c20 hR20 x16 hk46
      refine WP.callC hcal46 (by kernel_rfl) ?_
      rintro _ g66 st66 rfl
      refine WP.dn (Shown.o (v := .int .i64 x16) st66.pure ?_)
      exact ⟨tv, tv, tv, tv, tv, tv, tv, tv, tv, tv, tv, tv, tv, tv, rfl, tv, tv, tv, tv⟩
     ·intro vs gq stq hl hf
      obtain ⟨v0, v1, v2, v3, v4, v5, v6, v7, v8, v9, v10, v11, rfl⟩ := len_k12 hl
      have e2 := (show v2 = .bool true from hf _ (memI 8 rfl) (by kernel_rfl))
      subst e2
      have e8 := (show v8 = .int .i64 x16 from hf _ (memI 14 rfl) (by kernel_rfl))
      subst e8
      have hcal47 := P.baizeref07_Bytes gq x16 s4 hk47
      refine WP.callC hcal47 (by kernel_rfl) ?_
      rintro _ g67 st67 rfl
      refine WP.dn (Shown.o (v := .string s4) st67.pure ?_)
      exact ⟨tv, tv, tv, tv, tv, tv, tv, tv, tv, tv, tv, tv, tv, tv, tv, rfl, tv, tv, tv⟩
     ·intro vs gq stq hl hf
      obtain ⟨v0, v1, v2, v3, v4, v5, v6, v7, v8, v9, v10, v11, rfl⟩ := len_k12 hl
      have e2 := (show v2 = .bool true from hf _ (memI 8 rfl) (by kernel_rfl))
      subst e2
      have e9 := (show v9 = .string s4 from hf _ (memI 15 rfl) (by kernel_rfl))
      subst e9
      refine WP.toBytes (e := 5) (s := s4) (by kernel_rfl) ?_
      intro g68 a22 c22 st68 hR22
      refine WP.dn (Shown.o (v := .slice a22 s4.size c22) st68.pure ?_)
      exact ⟨tv, tv, tv, tv, tv, tv, tv, tv, tv, tv, tv, tv, tv, tv, tv, tv, ⟨a22, c22, rfl, hR22⟩, tv, tv⟩
     ·intro vs gq stq hl hf
      obtain ⟨v0, v1, v2, v3, v4, v5, v6, v7, v8, v9, v10, v11, rfl⟩ := len_k12 hl
      have hB1 := (show Box gq (t + 1) b1 84 [[.slice a3 n3 c3], [.map (some b2)]] [1, 1] from hf _ (memI 0 rfl) (by kernel_rfl))
      have hR3 := (show RdS k_S_notary_entry gq 86 a3 n3 c3 l3 from hf _ (memI 1 rfl) (by kernel_rfl))
      have hB2 := (show MapB gq (t + 3) b2 kv_S_notary_entry (Value.int .i64) d1 from hf _ (memI 2 rfl) (by kernel_rfl))
      have e2 := (show v2 = .bool true from hf _ (memI 8 rfl) (by kernel_rfl))
      subst e2
      have e4 := (show v4 = AG [encA .u8 d24] from hf _ (memI 10 rfl) (by kernel_rfl))
      subst e4
      have e6 := (show v6 = AG [encA .u8 d25] from hf _ (memI 12 rfl) (by kernel_rfl))
      subst e6
      obtain ⟨a22, c22, e10, hR22⟩ := (show ∃ (a22 : Option Addr) (c22 : Nat), v10 = .slice a22 s4.size c22 ∧ RdS (Kd.int .u8) gq 5 a22 s4.size c22 (strBytes s4) from hf _ (memI 16 rfl) (by kernel_rfl))
      subst e10
      have hcal48 := P.notary_Book_Verify gq (t + 1) (t + 3) l3 d1 d24 d25 (strBytes s4) a3 n3 c3 a22 s4.size c22 b1 b2 hR3 hR22 hB2 hB1 (by omega) (by omega) (by omega) q19 hk48
      refine WP.callC hcal48 (by kernel_rfl) ?_
      rintro _ g69 st69 rfl
      refine WP.dn (Shown.o (v := .bool q19) st69.pure ?_)
      exact ⟨tv, tv, tv, tv, tv, tv, tv, tv, tv, tv, tv, tv, tv, tv, tv, tv, tv, rfl, tv⟩
    intro vs g70 st70 hl hf
    obtain ⟨v0, v1, v2, v3, v4, v5, v6, v7, v8, v9, v10, v11, rfl⟩ := len_k12 hl
    have e2 := (show v2 = .bool true from hf _ (memI 8 rfl) (by kernel_rfl))
    subst e2
    have e3 := (show v3 = .int .u64 (IntKind.u64.wrap ((getI l2 x5).f1)) from hf _ (memI 9 rfl) (by kernel_rfl))
    subst e3
    have e4 := (show v4 = AG [encA .u8 d24] from hf _ (memI 10 rfl) (by kernel_rfl))
    subst e4
    have e5 := (show v5 = .int .u64 (IntKind.u64.wrap ((getI l2 x5).f2)) from hf _ (memI 11 rfl) (by kernel_rfl))
    subst e5
    have e6 := (show v6 = AG [encA .u8 d25] from hf _ (memI 12 rfl) (by kernel_rfl))
    subst e6
    have e7 := (show v7 = AG [[.int .u64 (IntKind.u64.wrap ((getI l2 x5).f1))], [.int .u64 (IntKind.u64.wrap ((getI l2 x5).f2))]] from hf _ (memI 13 rfl) (by kernel_rfl))
    subst e7
    have e8 := (show v8 = .int .i64 x16 from hf _ (memI 14 rfl) (by kernel_rfl))
    subst e8
    have e9 := (show v9 = .string s4 from hf _ (memI 15 rfl) (by kernel_rfl))
    subst e9
    obtain ⟨a22, c22, e10, hR22⟩ := (show ∃ (a22 : Option Addr) (c22 : Nat), v10 = .slice a22 s4.size c22 ∧ RdS (Kd.int .u8) g70 5 a22 s4.size c22 (strBytes s4) from hf _ (memI 16 rfl) (by kernel_rfl))
    subst e10
    have e11 := (show v11 = .bool q19 from hf _ (memI 17 rfl) (by kernel_rfl))
    subst e11
    replace hR2 := hR2.mono st70.toNo (fun x => x)
    replace hB1 := hB1.mono st70.toNo (fun x => x)
    replace hR3 := hR3.mono st70.toNo (fun x => x)
    replace hB2 := hB2.mono st70.toNo (fun x => x)
    replace hR4 := hR4.mono st70.toNo (fun x => x)
    replace hB3 := hB3.mono st70.toNo (fun x => x)
    replace hR19 := hR19.mono st70.toNo (fun x => x) (fun x => x)
    replace hB4 := hB4.mono st70.toNo (fun x => x)
    replace hR20 := hR20.mono st70.toNo (fun x => x)
    replace hB15 := hB15.mono st70.toNo (fun x => x)
    replace tot := tot.trans st70.toNo.pure
    refine NX.post ?_
    exact ⟨q19, ⟨by kernel_rfl, by kernel_rfl⟩, tot, hR2, hB1, hR3, hB2, hR4, hB3, hR19, hB4, hR20, hs⟩
   replace hs := of_if_f hs h17
   refine CP.drawL (by kernel_rfl) [1, 2, 4] N.baizelaw07_NotaryApart_3 [⟨none, [], [], fun l g => RdS k_S_baizeref07_Entry g 53 a4 n4 c4 l4⟩, ⟨none, [], [], fun l g => Box g (t + 12) b25 53 [[.int .u64 (IntKind.u64.wrap ((getI l2 x5).f1))], [.int .u64 (IntKind.u64.wrap ((getI l2 x5).f2))]] [1, 1]⟩, ⟨some 0, [], [0], fun l g => l.getD 0 undef = AG [[.int .u64 (IntKind.u64.wrap ((getI l2 x5).f1))], [.int .u64 (IntKind.u64.wrap ((getI l2 x5).f2))]]⟩, ⟨some 1, [], [1], fun l g => l.getD 0 undef = .int .i64 x15⟩, ⟨some 2, [], [2], fun l g => l.getD 0 undef = .bool false⟩] [[], [], []] [] [0] [3, 5, 6, 7, 8, 9, 10, 11, 12, 13, 14, 15, 16, 17, 18] (by kernel_rfl) (by simp) (by simp) ⟨fun _ _ _ _ st h0 hl hj hR4 => (RdS.mono (e := 53) hR4 st h0), fun _ _ _ _ st h0 hl hj hB15 => (hB15.mono st (fun h => absurd (hl _ h) (by simp))), fun _ _ _ _ st h0 hl hj e0 => e0, fun _ _ _ _ st h0 hl hj e1 => e1, fun _ _ _ _ st h0 hl hj e2 => e2, tv⟩ ⟨hR4, hB15, tv, tv, tv, tv⟩ (by kernel_rfl) (fun vs => by kernel_rfl) ?_ ?_ ?_
   ·intro j hj
    have hq : j = 0 ∨ j = 1 ∨ j = 2 ∨ j = 3 ∨ j = 4 ∨ j = 5 ∨ j = 6 ∨ j = 7 ∨ j = 8 ∨ j = 9 ∨ j = 10 ∨ j = 11 ∨ j = 12 ∨ j = 13 ∨ j = 14 := by have h : j < 15 := hj; omega
    rcases hq with rfl | rfl | rfl | rfl | rfl | rfl | rfl | rfl | rfl | rfl | rfl | rfl | rfl | rfl | rfl
    ·intro vs gq stq hl hf
     obtain ⟨v0, v1, v2, rfl⟩ := len_k3 hl
     have e1 := (show v1 = .int .i64 x15 from hf _ (memI 3 rfl) (by kernel_rfl))
     subst e1
     show Option.isSome _ = true
     kernel_rfl
    ·intro vs gq stq hl hf
     obtain ⟨v0, v1, v2, rfl⟩ := len_k3 hl
     have e2 := (show v2 = .bool false from hf _ (memI 4 rfl) (by kernel_rfl))
     subst e2
     show Option.isSome _ = true
     kernel_rfl
    ·intro vs gq stq hl hf
     obtain ⟨v0, v1, v2, rfl⟩ := len_k3 hl
     have e2 := (show v2 = .bool false from hf _ (memI 4 rfl) (by kernel_rfl))
     subst e2
     show Option.isSome _ = true
     kernel_rfl
    ·intro vs gq stq hl hf
     obtain ⟨v0, v1, v2, rfl⟩ := len_k3 hl
     have e2 := (show v2 = .bool false from hf _ (memI 4 rfl) (by kernel_rfl))
     subst e2
     show Option.isSome _ = true
     kernel_rfl
    ·intro vs gq stq hl hf
     obtain ⟨v0, v1, v2, rfl⟩ := len_k3 hl
     have e2 := (show v2 = .bool false from hf _ (memI 4 rfl) (by kernel_rfl))
     subst e2
     show Option.isSome _ = true
     kernel_rfl
    ·intro vs gq stq hl hf
     obtain ⟨v0, v1, v2, rfl⟩ := len_k3 hl
     have e2 := (show v2 = .bool false from hf _ (memI 4 rfl) (by kernel_rfl))
     subst e2
     show Option.isSome _ = true
     kernel_rfl
    ·intro vs gq stq hl hf
     obtain ⟨v0, v1, v2, rfl⟩ := len_k3 hl
     have e2 := (show v2 = .bool false from hf _ (memI 4 rfl) (by kernel_rfl))
     subst e2
     show Option.isSome _ = true
     kernel_rfl
    ·intro vs gq stq hl hf
     obtain ⟨v0, v1, v2, rfl⟩ := len_k3 hl
     have e2 := (show v2 = .bool false from hf _ (memI 4 rfl) (by kernel_rfl))
     subst e2
     show Option.isSome _ = true
     kernel_rfl
    ·intro vs gq stq hl hf
     obtain ⟨v0, v1, v2, rfl⟩ := len_k3 hl
     have e2 := (show v2 = .bool false from hf _ (memI 4 rfl) (by kernel_rfl))
     subst e2
     show Option.isSome _ = true
     kernel_rfl
    ·intro vs gq stq hl hf
     obtain ⟨v0, v1, v2, rfl⟩ := len_k3 hl
     have e2 := (show v2 = .bool false from hf _ (memI 4 rfl) (by kernel_rfl))
     subst e2
     show Option.isSome _ = true
     kernel_rfl
    ·intro vs gq stq hl hf
     obtain ⟨v0, v1, v2, rfl⟩ := len_k3 hl
     have e2 := (show v2 = .bool false from hf _ (memI 4 rfl) (by kernel_rfl))
     subst e2
     show Option.isSome _ = true
     kernel_rfl
    ·intro vs gq stq hl hf
     obtain ⟨v0, v1, v2, rfl⟩ := len_k3 hl
     have e2 := (show v2 = .bool false from hf _ (memI 4 rfl) (by kernel_rfl))
     subst e2
     show Option.isSome _ = true
     kernel_rfl
    ·intro vs gq stq hl hf
     obtain ⟨v0, v1, v2, rfl⟩ := len_k3 hl
     have e2 := (show v2 = .bool false from hf _ (memI 4 rfl) (by kernel_rfl))
     subst e2
     show Option.isSome _ = true
     kernel_rfl
    ·intro vs gq stq hl hf
     obtain ⟨v0, v1, v2, rfl⟩ := len_k3 hl
     have e2 := (show v2 = .bool false from hf _ (memI 4 rfl) (by kernel_rfl))
     subst e2
     show Option.isSome _ = true
     kernel_rfl
    ·intro vs gq stq hl hf
     obtain ⟨v0, v1, v2, rfl⟩ := len_k3 hl
     have e2 := (show v2 = .bool false from hf _ (memI 4 rfl) (by kernel_rfl))
     subst e2
     show Option.isSome _ = true
     kernel_rfl
   ·intro j hj
    have hq : j = 0 ∨ j = 1 ∨ j = 2 := by have h : j < 3 := hj; omega
    rcases hq with rfl | rfl | rfl
    ·intro vs gq stq hl hf
     obtain ⟨v0, v1, v2, rfl⟩ := len_k3 hl
     have hB15 := (show Box gq (t + 12) b25 53 [[.int .u64 (IntKind.u64.wrap ((getI l2 x5).f1))], [.int .u64 (IntKind.u64.wrap ((getI l2 x5).f2))]] [1, 1] from hf _ (memI 1 rfl) (by kernel_rfl))
     refine WP.loadB (v := AG [[.int .u64 (IntKind.u64.wrap ((getI l2 x5).f1))], [.int .u64 (IntKind.u64.wrap ((getI l2 x5).f2))]]) hB15 (by kernel_rfl) (by kernel_rfl) ?_
     refine WP.dn (Shown.ok (v := AG [[.int .u64 (IntKind.u64.wrap ((getI l2 x5).f1))], [.int .u64 (IntKind.u64.wrap ((getI l2 x5).f2))]]) (by kernel_rfl) (Step.refl _ _) ?_)
     exact ⟨tv, tv, rfl, tv, tv, tv⟩
    ·intro vs gq stq hl hf
     obtain ⟨v0, v1, v2, rfl⟩ := len_k3 hl
     have hR4 := (show RdS k_S_baizeref07_Entry gq 53 a4 n4 c4 l4 from hf _ (memI 0 rfl) (by kernel_rfl))
     have e0 := (show v0 = AG [[.int .u64 (IntKind.u64.wrap ((getI l2 x5).f1))], [.int .u64 (IntKind.u64.wrap ((getI l2 x5).f2))]] from hf _ (memI 2 rfl) (by kernel_rfl))
     subst e0
     have hcal43 := P.baizeref07_Find gq l4 (IntKind.u64.wrap ((getI l2 x5).f1)) (IntKind.u64.wrap ((getI l2 x5).f2)) a4 n4 c4 hR4 x15 hk43
     refine WP.callC hcal43 (by kernel_rfl) ?_
     rintro _ g63 st63 rfl
     refine WP.dn (Shown.o (v := .int .i64 x15) st63.pure ?_)
     exact ⟨tv, tv, tv, rfl, tv, tv⟩
    ·intro vs gq stq hl hf
     obtain ⟨v0, v1, v2, rfl⟩ := len_k3 hl
     have e1 := (show v1 = .int .i64 x15 from hf _ (memI 3 rfl) (by kernel_rfl))
     subst e1
     refine WP.stl 1 ?_
     refine WP.dn (Shown.ok (v := .bool (decide (x15 < 0))) (by kernel_rfl) (Step.refl _ _) ?_)
     exact ⟨tv, tv, tv, tv, congrArg Value.bool h17, tv⟩
   intro vs g71 st71 hl hf
   obtain ⟨v0, v1, v2, rfl⟩ := len_k3 hl
   have e2 := (show v2 = .bool false from hf _ (memI 4 rfl) (by kernel_rfl))
   subst e2
   replace hR2 := hR2.mono st71.toNo (fun x => x)
   replace hB1 := hB1.mono st71.toNo (fun x => x)
   replace hR3 := hR3.mono st71.toNo (fun x => x)
   replace hB2 := hB2.mono st71.toNo (fun x => x)
   replace hR4 := hR4.mono st71.toNo (fun x => x)
   replace hB3 := hB3.mono st71.toNo (fun x => x)
   replace hR19 := hR19.mono st71.toNo (fun x => x) (fun x => x)
   replace hB4 := hB4.mono st71.toNo (fun x => x)
   replace hR20 := hR20.mono st71.toNo (fun x => x)
   replace tot := tot.trans st71.toNo.pure
   refine NX.post ?_
   exact ⟨false, ⟨by kernel_rfl, by kernel_rfl⟩, tot, hR2, hB1, hR3, hB2, hR4, hB3, hR19, hB4, hR20, hs⟩
  clear tot hs hR2 hB1 hR3 hB2 hR4 hB3 hR19 hB4 hR20 hB15
  rintro tm g ⟨q18, hF, tot, hR2, hB1, hR3, hB2, hR4, hB3, hR19, hB4, hR20, hs⟩
  clear ds
  obtain ⟨ds, rfl⟩ := hF.open
  clear hF
  unfold F.baizelaw07_NotaryApart.c3 at hs
  refine CP.cond (b := q18) (by kernel_rfl) (fun h16 => ?_) (fun h16 => ?_)
  ·replace hs := of_if_t hs h16
   refine CP.seqR ?_
   refine WP.stl 1 ?_
   refine WP.dn ?_
   refine NX.then_n ?_
   refine CP.ret ?_
   refine NX.block_r ?_
   refine NX.then_r ?_
   refine NX.then_r ?_
   refine NX.block_r ?_
   refine NX.then_r ?_
   replace hs := Option.some.inj hs
   obtain rfl := hs
   exact NX.fin (v := .bool false) (Res.still (by kernel_rfl)) tot htL rfl
  replace hs := of_if_f hs h16
  refine CP.skip ?_
  refine NX.block_n ?_
  refine NX.then_n ?_
  refine CP.region ?_
  refine WP.stl 3 ?_
  refine WP.dn ?_
  refine NX.post ?_
  exact ⟨d21, a19, d21.length, c19, d20, l15, a20, l15.length, c20, (IntKind.i64.wrap (x5 + 1)), ⟨by kernel_rfl, by kernel_rfl⟩, tot, hR2, hB1, hR3, hB2, hR4, hB3, hR19, hB4, hR20, hs⟩
 replace hs := of_if_f hs h14
 refine CP.exit ?_
 refine NX.then_e ?_
 refine NX.then_e ?_
 refine NX.block_s ?_
 refine NX.then_n ?_
 refine CP.cut (fun tm g => ∃ (q22 : Bool), Fr 141 [(4, .bool q22)] tm ∧ Step (fun l => NoM l ∨ t ≤ l) g0 g ∧ (F.baizelaw07_NotaryApart.c4 q22) = some o1) ?_ ?_
 ·refine CP.region ?_
  refine WP.stl 2 ?_
  replace hs := Option.bind_eq_some_iff.1 hs
  obtain ⟨q23, hk51, hs⟩ := hs
  have hS9 : 0 ∉ ([(t + 5)] : List Nat) := by simp <;> omega
  have stl9 := GW.lend_step g [(t + 5)]
  have hRl9 := hR10.lendTo hS9 (by simp)
  refine WP.regw (g' := GW.lend g [(t + 5)]) rfl ?_
  have hcal51 := P.notary_Book_Same (GW.lend g [(t + 5)]) (t + 1) (t + 3) (t + 4) (t + 6) l3 d1 l8 w1 a3 n3 c3 a10 n9 c10 b1 b2 b3 b4 (hR3.mono stl9 (WL.no (by simp <;> omega))) hRl9 (hB2.mono stl9 (WL.no (by simp <;> omega))) (hB1.mono stl9 (WL.no (by simp <;> omega))) (hB4.mono stl9 (WL.no (by simp <;> omega))) (hB3.mono stl9 (WL.no (by simp <;> omega))) (by omega) (by omega) (by omega) (by omega) (by omega) (by omega) (by omega) (by omega) (by omega) (by omega) q23 hk51
  refine WP.callC hcal51 (by kernel_rfl) ?_
  rintro _ g75 st75 rfl
  have st76 := (GW.back_step st75).lentS
  have hO9 := hR10.backTo hS9 (by simp) st75 (fun x => x)
  refine WP.regw (g' := GW.back g g75 [(t + 5)]) rfl ?_
  generalize GW.back g g75 [(t + 5)] = g76 at *
  replace hB1 := hB1.mono st76 (WL.no1 (by omega))
  replace hR3 := hR3.mono st76 (WL.no1 (by omega))
  replace hB2 := hB2.mono st76 (WL.no1 (by omega))
  replace hR4 := hR4.mono st76 (WL.no1 (by omega))
  replace hB3 := hB3.mono st76 (WL.no1 (by omega))
  replace hB4 := hB4.mono st76 (WL.no1 (by omega))
  replace hR11 := hR11.mono st76 (WL.no1 (by omega))
  replace tot := tot.trans (st76.up1 (.inr (by omega)))
  clear hR10
  have hR10 : OwnS k_S_notary_entry g76 (t + 5) 86 a10 n9 c10 l8 := hO9
  clear hO9
  refine WP.stl 1 ?_
  refine WP.len (a := a11) (cp := c11) hR11.len (by kernel_rfl) ?_
  refine WP.stl 1 ?_
  refine WP.len (a := a4) (cp := c4) hR4.len (by kernel_rfl) ?_
  refine WP.stl 3 ?_
  refine WP.guard 138 (b := (q23 == ((l9.length : Int) == (l4.length : Int)))) (by kernel_rfl) (fun h19 => ?_) (fun h19 => ?_)
  ·replace hs := of_if_t hs h19
   replace hs := Option.bind_eq_some_iff.1 hs
   obtain ⟨q24, hk52, hs⟩ := hs
   have hcal52 := P.baizelaw07_told g76 q24 hk52
   refine WP.callC hcal52 (by kernel_rfl) ?_
   rintro _ g77 st77 rfl
   replace hB1 := hB1.mono st77 (fun x => x)
   replace hR3 := hR3.mono st77 (fun x => x)
   replace hB2 := hB2.mono st77 (fun x => x)
   replace hR4 := hR4.mono st77 (fun x => x)
   replace hB3 := hB3.mono st77 (fun x => x)
   replace hR10 := hR10.mono st77 (fun x => x) (fun x => x)
   replace hB4 := hB4.mono st77 (fun x => x)
   replace hR11 := hR11.mono st77 (fun x => x)
   replace tot := tot.trans st77.pure
   refine WP.stl 2 ?_
   refine WP.dn ?_
   refine NX.post ?_
   exact ⟨q24, ⟨by kernel_rfl, by kernel_rfl⟩, tot, hs⟩
  replace hs := of_if_f hs h19
  refine WP.stl 3 ?_
  refine WP.dn ?_
  refine NX.post ?_
  exact ⟨false, ⟨by kernel_rfl, by kernel_rfl⟩, tot, hs⟩
 clear tot hs hB1 hR3 hB2 hR4 hB3 hR10 hB4 hR11
 rintro tm g ⟨q22, hF, tot, hs⟩
 clear ds
 obtain ⟨ds, rfl⟩ := hF.open
 clear hF
 unfold F.baizelaw07_NotaryApart.c4 at hs
 refine CP.ret ?_
 replace hs := Option.some.inj hs
 obtain rfl := hs
 exact NX.fin (v := .bool q22) (Res.still (by kernel_rfl)) tot htL rfl
end Go.Proofs.Ytmdkjjdfbjgaoaa
