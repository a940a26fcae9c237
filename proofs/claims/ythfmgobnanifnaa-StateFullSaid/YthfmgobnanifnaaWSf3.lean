/-
  Walks, written by program: each Go function computes the plain function of its name, in whatever world its arguments' facts hold.
-/
import Derived.Test.YthfmgobnanifnaaWSf2
namespace Go.Proofs.Ythfmgobnanifnaa
open Go.RowKit Go.Lab
attribute [local irreducible] WP CP NX wpList Code.wp Calls
set_option maxRecDepth 100000
set_option maxHeartbeats 4000000
set_option linter.unusedVariables false

def F.baizelaw32_StateFull.c1 (nx1 : (List S_notary_entry) → (List (S_notary_entry × Int)) → (List (Arr Int 8)) → (List (List Int)) → Bool → Int → Int → Option (Bool)) (x8 : Int) (l20 : List S_notary_entry) (w5 : (List (S_notary_entry × Int))) (l21 : List (Arr Int 8)) (l22 : List (List Int)) (q20 : Bool) (x17 : Int) : Option (Bool) := (nx1 l20 w5 l21 l22 q20 x17 (IntKind.i64.wrap (x8 + 1)))
def N.baizelaw32_StateFull_0 : List (List Nat) := [[], [], [], [1, 2], [1, 2, 3], [0, 1, 2, 3, 4], [], [0, 1, 2, 3, 4, 5, 6], [0, 1, 2, 3, 4, 5, 6, 7], [0, 1, 2, 3, 4, 5, 6, 7, 8], [0, 1, 2, 3, 4, 5, 6, 7, 8], [0, 1, 2, 3, 4, 5, 6, 7, 8, 9], [0, 1, 2, 3, 4, 5, 6, 7, 8, 9, 10, 11]]
def F.baizelaw32_StateFull.c3 (nx1 : (List S_notary_entry) → (List (S_notary_entry × Int)) → (List (Arr Int 8)) → (List (List Int)) → Bool → Int → Int → Option (Bool)) (l9 : List S_notary_entry) (w2 : (List (S_notary_entry × Int))) (l10 : List (Arr Int 8)) (l11 : List (List Int)) (q9 : Bool) (x7 : Int) (x8 : Int) (q22 : Bool) : Option (Bool) := (if q22 = true then (F.baizelaw32_StateFull.c1 nx1 x8 l9 w2 (l10 ++ [(⟨[(IntKind.u8.wrap x8), 5, 0, 0, 0, 0, 0, 0], rfl⟩ : Arr Int 8)]) (l11 ++ [([] : List Int)]) false x7) else (F.baizelaw32_StateFull.c1 nx1 x8 l9 w2 (l10 ++ [(⟨[(IntKind.u8.wrap x8), 5, 0, 0, 0, 0, 0, 0], rfl⟩ : Arr Int 8)]) (l11 ++ [([] : List Int)]) q9 x7))
def F.baizelaw32_StateFull.c2 (nx1 : (List S_notary_entry) → (List (S_notary_entry × Int)) → (List (Arr Int 8)) → (List (List Int)) → Bool → Int → Int → Option (Bool)) (l2 : List Bool) (d3 : Arr Int 8) (l9 : List S_notary_entry) (w2 : (List (S_notary_entry × Int))) (l10 : List (Arr Int 8)) (l11 : List (List Int)) (q9 : Bool) (x7 : Int) (x8 : Int) (q21 : Bool) : Option (Bool) := (if q21 = true then (if (0 : Int) ≤ x8 ∧ x8 < ((l10 ++ [(⟨[(IntKind.u8.wrap x8), 5, 0, 0, 0, 0, 0, 0], rfl⟩ : Arr Int 8)]).length : Int) then ((F.notary_Book_Signer l9 w2 (getI (l10 ++ [(⟨[(IntKind.u8.wrap x8), 5, 0, 0, 0, 0, 0, 0], rfl⟩ : Arr Int 8)]) x8)).bind fun d13 => ((F.notary_bookSigner_Sign l9 w2 d13 d3).bind fun (l23, x18, d14, d15) => (if (x18 != 0) = true then (some false) else (if (0 : Int) ≤ x8 ∧ x8 < ((l11 ++ [([] : List Int)]).length : Int) then (F.baizelaw32_StateFull.c1 nx1 x8 d15 d14 (l10 ++ [(⟨[(IntKind.u8.wrap x8), 5, 0, 0, 0, 0, 0, 0], rfl⟩ : Arr Int 8)]) (setI (l11 ++ [([] : List Int)]) x8 l23) q9 (IntKind.i64.wrap (x7 + 1))) else none)))) else none) else (if decide (x8 ≥ (l2.length : Int)) = true then (F.baizelaw32_StateFull.c3 nx1 l9 w2 l10 l11 q9 x7 x8 true) else (if (0 : Int) ≤ x8 ∧ x8 < (l2.length : Int) then (F.baizelaw32_StateFull.c3 nx1 l9 w2 l10 l11 q9 x7 x8 (!(getI l2 x8))) else none)))
def F.baizelaw32_StateFull.c4 (q26 : Bool) : Option (Bool) := (some q26)
def N.baizelaw32_StateFull_1 : List (List Nat) := [[], [0], [], [], [], [], [0, 1, 2, 3, 4, 5], [], [0, 1, 2, 3, 4, 5, 6, 7], [0, 1, 2, 3, 4, 5, 6, 7, 8], [0, 1, 2, 3, 4, 5, 6, 7, 8, 9], [0, 1, 2, 3, 4, 5, 6, 7, 8, 9, 10], [0, 1, 2, 3, 4, 5, 6, 7, 8, 9], [0, 1, 2, 3, 4, 5, 6, 7, 8, 9], [0, 1, 2, 3, 4, 5, 6, 7, 8, 9], [0, 1, 2, 3, 4, 5, 6, 7, 8, 9, 10, 11, 12, 13, 14], [0, 1, 2, 3, 4, 5, 6, 7, 8, 9], [0, 1, 2, 3, 4, 5, 6, 7, 8, 9, 10, 11, 12, 13, 14, 15, 16], [0, 1, 2, 3, 4, 5, 6, 7, 8, 9, 10, 11, 12, 13, 14, 15, 16, 17], [0, 1, 2, 3, 4, 5, 6, 7, 8, 9, 10, 11, 12, 13, 14, 15, 16, 17, 18], [0, 1, 2, 3, 4, 5, 6, 7, 8, 9, 10, 11, 12, 13, 14, 15, 16, 17, 18, 19], [0, 1, 2, 3, 4, 5, 6, 7, 8, 9, 10, 11, 12, 13, 14, 15, 16, 17, 18, 19, 20], [0, 1, 2, 3, 4, 5, 6, 7, 8, 9, 10, 11, 12, 13, 14, 15, 16, 17, 18, 19], [0, 1, 2, 3, 4, 5, 6, 7, 8, 9, 10, 11, 12, 13, 14, 15, 16, 17, 18, 19], [0, 1, 2, 3, 4, 5, 6, 7, 8, 9, 10, 11, 12, 13, 14, 15, 16, 17, 18, 19], [0, 1, 2, 3, 4, 5, 6, 7, 8, 9, 10, 11, 12, 13, 14, 15, 16, 17, 18, 19], [0, 1, 2, 3, 4, 5, 6, 7, 8, 9, 10, 11, 12, 13, 14, 15, 16, 17, 18, 19, 25], [0, 1, 2, 3, 4, 5, 6, 7, 8, 9, 10, 11, 12, 13, 14, 15, 16, 17, 18, 19, 20, 21, 22, 23, 24, 25, 26], [0, 1, 2, 3, 4, 5, 6, 7, 8, 9, 10, 11, 12, 13, 14, 15, 16, 17, 18, 19, 20, 21, 22, 23, 24, 25, 26, 27], [0, 1, 2, 3, 4, 5, 6, 7, 8, 9, 10, 11, 12, 13, 14, 15, 16, 17, 18, 19, 20, 21, 22, 23, 24, 25, 26, 27, 28], [0, 1, 2, 3, 4, 5, 6, 7, 8, 9, 10, 11, 12, 13, 14, 15, 16, 17, 18, 19, 20, 21, 22, 23, 24, 25, 26, 27, 28, 29], [0, 1, 2, 3, 4, 5, 6, 7, 8, 9, 10, 11, 12, 13, 14, 15, 16, 17, 18, 19, 20, 21, 22, 23, 24, 25, 26, 27, 28, 29, 30], [0, 1, 2, 3, 4, 5, 6, 7, 8, 9, 10, 11, 12, 13, 14, 15, 16, 17, 18, 19, 20, 21, 22, 23, 24, 25, 26, 27, 28, 29, 30], [0, 1, 2, 3, 4, 5, 6, 7, 8, 9, 10, 11, 12, 13, 14, 15, 16, 17, 18, 19, 20, 21, 22, 23, 24, 25, 26, 27, 28, 29, 30], [0, 1, 2, 3, 4, 5, 6, 7, 8, 9, 10, 11, 12, 13, 14, 15, 16, 17, 18, 19, 20, 21, 22, 23, 24, 25, 26, 27, 28, 29, 30, 31, 32, 33], [0, 1, 2, 3, 4, 5, 6, 7, 8, 9, 10, 11, 12, 13, 14, 15, 16, 17, 18, 19, 20, 21, 22, 23, 24, 25, 26, 27, 28, 29, 30, 31, 32, 33, 34], [0, 1, 2, 3, 4, 5, 6, 7, 8, 9, 10, 11, 12, 13, 14, 15, 16, 17, 18, 19, 20, 21, 22, 23, 24, 25, 26, 27, 28, 29, 30, 31, 32, 33, 34, 35], [0, 1, 2, 3, 4, 5, 6, 7, 8, 9, 10, 11, 12, 13, 14, 15, 16, 17, 18, 19, 20, 21, 22, 23, 24, 25, 26, 27, 28, 29, 30, 31, 32, 33, 34, 35, 36]]
def F.baizelaw32_StateFull.l1 (x1 : Int) (l1 : List Bool) (l2 : List Bool) (d3 : Arr Int 8) : Nat → (List S_notary_entry) → (List (S_notary_entry × Int)) → (List (Arr Int 8)) → (List (List Int)) → Bool → Int → Int → Option (Bool)
 | 0, _, _, _, _, _, _, _ => none
 | k + 1, l9, w2, l10, l11, q9, x7, x8 => (if decide (x8 < (IntKind.i64.wrap (2 + (IntKind.i64.wrap ((IntKind.u64.wrap x1).tmod 7))))) = true then (if l10.length + ([(⟨[(IntKind.u8.wrap x8), 5, 0, 0, 0, 0, 0, 0], rfl⟩ : Arr Int 8)]).length ≤ 17592186044416 then (if l11.length + ([([] : List Int)]).length ≤ 5864062014805 then (if decide (x8 < (l1.length : Int)) = true then (if (0 : Int) ≤ x8 ∧ x8 < (l1.length : Int) then (F.baizelaw32_StateFull.c2 (F.baizelaw32_StateFull.l1 x1 l1 l2 d3 k) l2 d3 l9 w2 l10 l11 q9 x7 x8 (getI l1 x8)) else none) else (F.baizelaw32_StateFull.c2 (F.baizelaw32_StateFull.l1 x1 l1 l2 d3 k) l2 d3 l9 w2 l10 l11 q9 x7 x8 false)) else none) else none) else (if (0 : Int) ≤ 0 ∧ 0 ≤ (imin (l2.length : Int) 12) ∧ (imin (l2.length : Int) 12) ≤ (l2.length : Int) then ((F.state_Full l9 w2 l10 (sliceI l2 0 (imin (l2.length : Int) 12)) d3 l11).bind fun q28 => (if (q28 == q9) = true then ((F.state_Count l9 w2 l10 d3 l11).bind fun x23 => (if (x23 == x7) = true then (if (0 : Int) ≤ 1 ∧ 1 ≤ (l11.length : Int) ∧ (l11.length : Int) ≤ (l11.length : Int) then ((F.state_Full l9 w2 l10 (sliceI l2 0 (imin (l2.length : Int) 12)) d3 (sliceI l11 1 (l11.length : Int))).bind fun q29 => (if (!q29) = true then ((F.state_Count_2 l10 d3 l11).bind fun x24 => (F.baizelaw32_StateFull.c4 (x24 == 0))) else (F.baizelaw32_StateFull.c4 false))) else none) else (F.baizelaw32_StateFull.c4 false))) else (F.baizelaw32_StateFull.c4 false))) else none))
def F.baizelaw32_StateFull (x1 : Int) (l1 : List Bool) (l2 : List Bool) (d1 : Arr Int 8) (x2 : Int) (l3 : List Int) : Option (Bool) := ((F.notary_NewBook).bind fun d2 => ((F.baizelaw32_told).bind fun q2 => (if (!q2) = true then (some false) else ((F.baizelaw32_few l3).bind fun l4 => ((F.state_State_Digest d1 x2 l4).bind fun d3 => (F.baizelaw32_StateFull.l1 x1 l1 l2 d3 fuel ([]) d2 ([]) ([]) true 0 0))))))
theorem P.baizelaw32_StateFull (g0 : GW) (x1 : Int) (l1 : List Bool) (l2 : List Bool) (d1 : Arr Int 8) (x2 : Int) (l3 : List Int) (a1 : Option Addr) (n1 : Nat) (c1 : Nat) (a2 : Option Addr) (n2 : Nat) (c2 : Nat) (a3 : Option Addr) (n3 : Nat) (c3 : Nat) (hR1 : RdS Kd.bool g0 4 a1 n1 c1 l1) (hR2 : RdS Kd.bool g0 4 a2 n2 c2 l2) (hR3 : RdS (Kd.int .u8) g0 5 a3 n3 c3 l3) (o1 : Bool) (hs : F.baizelaw32_StateFull x1 l1 l2 d1 x2 l3 = some o1) :
  Calls Try.prog 4 #[.int .i64 x1, AG [[.slice a1 n1 c1], [.slice a2 n2 c2]], AG [encA .u8 d1, [.int .i64 x2], [.slice a3 n3 c3]]] g0.w (Ret NoM g0 fun v g => v = .bool o1) := by
 refine calls_of (args := [.int .i64 x1, AG [[.slice a1 n1 c1], [.slice a2 n2 c2]], AG [encA .u8 d1, [.int .i64 x2], [.slice a3 n3 c3]]]) Try.func4 rfl (0) ?_
 intro t ht htL
 refine ⟨_, rfl, ?_⟩
 refine CP.refr 137 [(0, .int .i64 x1), (1, AG [[.slice a1 n1 c1], [.slice a2 n2 c2]]), (2, AG [encA .u8 d1, [.int .i64 x2], [.slice a3 n3 c3]])] (by kernel_rfl) (by kernel_rfl) ?_
 intro ds
 have tot : Step (fun l => NoM l ∨ t ≤ l) g0 g0 := Step.refl _ _
 unfold F.baizelaw32_StateFull at hs
 refine CP.seqR ?_
 refine WP.alloc (T := 37) (t + 1) [[.slice a1 n1 c1], [.slice a2 n2 c2]] [1, 1] (by kernel_rfl) rfl ?_
 intro g1 b1 st1 hB1
 replace hR1 := hR1.mono st1 (fun x => x)
 replace hR2 := hR2.mono st1 (fun x => x)
 replace hR3 := hR3.mono st1 (fun x => x)
 replace tot := tot.trans st1.pure
 refine WP.alloc (T := 26) (t + 2) [encA .u8 d1, [.int .i64 x2], [.slice a3 n3 c3]] [8, 1, 1] (by kernel_rfl) (by simp [len_encA]) ?_
 intro g2 b2 st2 hB2
 replace hR1 := hR1.mono st2 (fun x => x)
 replace hR2 := hR2.mono st2 (fun x => x)
 replace hR3 := hR3.mono st2 (fun x => x)
 replace hB1 := hB1.mono st2 (fun x => x)
 replace tot := tot.trans st2.pure
 refine WP.stl 1 ?_
 refine WP.dn ?_
 refine NX.then_n ?_
 refine CP.seq ?_
 refine CP.drawL (by kernel_rfl) [1, 3] [[], [0], [], [2], [0, 1], [0, 1, 2, 3, 4]] [⟨none, [], [], fun l g => Box g (t + 1) b1 37 [[.slice a1 n1 c1], [.slice a2 n2 c2]] [1, 1]⟩, ⟨some 0, [], [0], fun l g => l.getD 0 undef = .slice a1 n1 c1⟩, ⟨some 1, [], [1], fun l g => l.getD 0 undef = .slice a2 n2 c2⟩] [[], []] [] [0, 2] [4, 5] (by kernel_rfl) (by simp) (by simp) ⟨fun _ _ _ _ st h0 hl hj hB1 => (hB1.mono st (fun h => absurd (hl _ h) (by simp))), fun _ _ _ _ st h0 hl hj e0 => e0, fun _ _ _ _ st h0 hl hj e1 => e1, tv⟩ ⟨hB1, tv, tv, tv⟩ (by kernel_rfl) (fun vs => by kernel_rfl) ?_ ?_ ?_
 ·intro j hj
  have hq : j = 0 ∨ j = 1 := by have h : j < 2 := hj; omega
  rcases hq with rfl | rfl
  ·intro vs gq stq hl hf
   obtain ⟨v0, v1, rfl⟩ := len_k2 hl
   have e0 := (show v0 = .slice a1 n1 c1 from hf _ (memI 1 rfl) (by kernel_rfl))
   subst e0
   show Option.isSome _ = true
   kernel_rfl
  ·intro vs gq stq hl hf
   obtain ⟨v0, v1, rfl⟩ := len_k2 hl
   have e1 := (show v1 = .slice a2 n2 c2 from hf _ (memI 2 rfl) (by kernel_rfl))
   subst e1
   show Option.isSome _ = true
   kernel_rfl
 ·intro j hj
  have hq : j = 0 ∨ j = 1 := by have h : j < 2 := hj; omega
  rcases hq with rfl | rfl
  ·intro vs gq stq hl hf
   obtain ⟨v0, v1, rfl⟩ := len_k2 hl
   have hB1 := (show Box gq (t + 1) b1 37 [[.slice a1 n1 c1], [.slice a2 n2 c2]] [1, 1] from hf _ (memI 0 rfl) (by kernel_rfl))
   refine WP.loadB (v := .slice a1 n1 c1) hB1 (by kernel_rfl) (by kernel_rfl) ?_
   refine WP.dn (Shown.ok (v := .slice a1 n1 c1) (by kernel_rfl) (Step.refl _ _) ?_)
   exact ⟨tv, rfl, tv, tv⟩
  ·intro vs gq stq hl hf
   obtain ⟨v0, v1, rfl⟩ := len_k2 hl
   have hB1 := (show Box gq (t + 1) b1 37 [[.slice a1 n1 c1], [.slice a2 n2 c2]] [1, 1] from hf _ (memI 0 rfl) (by kernel_rfl))
   refine WP.loadB (v := .slice a2 n2 c2) hB1 (by kernel_rfl) (by kernel_rfl) ?_
   refine WP.dn (Shown.ok (v := .slice a2 n2 c2) (by kernel_rfl) (Step.refl _ _) ?_)
   exact ⟨tv, tv, rfl, tv⟩
 intro vs g3 st3 hl hf
 obtain ⟨v0, v1, rfl⟩ := len_k2 hl
 have e0 := (show v0 = .slice a1 n1 c1 from hf _ (memI 1 rfl) (by kernel_rfl))
 subst e0
 have e1 := (show v1 = .slice a2 n2 c2 from hf _ (memI 2 rfl) (by kernel_rfl))
 subst e1
 replace hB2 := hB2.mono st3.toNo (fun x => x)
 replace hR3 := hR3.mono st3.toNo (fun x => x)
 replace hR1 := hR1.mono st3.toNo (fun x => x)
 replace hR2 := hR2.mono st3.toNo (fun x => x)
 replace tot := tot.trans st3.toNo.pure
 refine NX.then_n ?_
 refine CP.refr 137 [(0, .int .i64 x1), (5, .pointer (some ⟨b2, 0, none⟩)), (7, .slice a1 n1 c1), (8, .slice a2 n2 c2)] (by kernel_rfl) (by kernel_rfl) ?_
 clear ds
 intro ds
 refine CP.seqR ?_
 refine WP.stl 6 ?_
 refine WP.dn ?_
 refine NX.then_n ?_
 refine CP.seqR ?_
 replace hs := Option.bind_eq_some_iff.1 hs
 obtain ⟨d2, hk1, hs⟩ := hs
 have hcal1 := P.notary_NewBook g3 (t + 3) (t + 4) d2 hk1
 refine WP.callC hcal1 (by kernel_rfl) ?_
 rintro _ g4 st4 ⟨b3, b4, rfl, hB3, hB4⟩
 replace hB2 := hB2.mono st4 (fun x => x)
 replace hR3 := hR3.mono st4 (fun x => x)
 replace hR1 := hR1.mono st4 (fun x => x)
 replace hR2 := hR2.mono st4 (fun x => x)
 replace tot := tot.trans st4.pure
 refine WP.stl 1 ?_
 refine WP.dn ?_
 refine NX.then_n ?_
 refine CP.seq ?_
 refine CP.seq ?_
 refine CP.region ?_
 refine WP.stl 3 ?_
 replace hs := Option.bind_eq_some_iff.1 hs
 obtain ⟨q2, hk3, hs⟩ := hs
 have hcal3 := P.baizelaw32_told g4 q2 hk3
 refine WP.callC hcal3 (by kernel_rfl) ?_
 rintro _ g6 st6 rfl
 replace hB2 := hB2.mono st6 (fun x => x)
 replace hR3 := hR3.mono st6 (fun x => x)
 replace hR1 := hR1.mono st6 (fun x => x)
 replace hR2 := hR2.mono st6 (fun x => x)
 replace hB3 := hB3.mono st6 (fun x => x)
 replace hB4 := hB4.mono st6 (fun x => x)
 replace tot := tot.trans st6.pure
 refine WP.stl 2 ?_
 refine WP.dn ?_
 refine NX.then_n ?_
 refine CP.refr 137 [(5, .pointer (some ⟨b2, 0, none⟩)), (7, .slice a1 n1 c1), (8, .slice a2 n2 c2), (9, .int .i64 (IntKind.i64.wrap (2 + (IntKind.i64.wrap ((IntKind.u64.wrap x1).tmod 7))))), (10, .pointer (some ⟨b3, 0, none⟩)), (34, .bool (!q2))] (by kernel_rfl) (by kernel_rfl) ?_
 clear ds
 intro ds
 refine CP.cond (b := (!q2)) (by kernel_rfl) (fun h1 => ?_) (fun h1 => ?_)
 ·replace hs := of_if_t hs h1
  refine CP.seqR ?_
  refine WP.stl 1 ?_
  refine WP.dn ?_
  refine NX.then_n ?_
  refine CP.ret ?_
  refine NX.then_r ?_
  replace hs := Option.some.inj hs
  obtain rfl := hs
  exact NX.fin (v := .bool false) (Res.still (by kernel_rfl)) tot htL rfl
 replace hs := of_if_f hs h1
 refine CP.skip ?_
 refine NX.then_n ?_
 refine CP.seqR ?_
 refine WP.stl 1 ?_
 refine WP.loadB (v := .slice a3 n3 c3) hB2 (by kernel_rfl) (by kernel_rfl) ?_
 replace hs := Option.bind_eq_some_iff.1 hs
 obtain ⟨l4, hk4, hs⟩ := hs
 have hcal4 := P.baizelaw32_few g6 l3 a3 n3 c3 hR3 l4 hk4
 refine WP.callC hcal4 (by kernel_rfl) ?_
 rintro _ g7 st7 ⟨a4, n4, c4, rfl, hR4⟩
 replace hB2 := hB2.mono st7 (fun x => x)
 replace hR3 := hR3.mono st7 (fun x => x)
 replace hR1 := hR1.mono st7 (fun x => x)
 replace hR2 := hR2.mono st7 (fun x => x)
 replace hB3 := hB3.mono st7 (fun x => x)
 replace hB4 := hB4.mono st7 (fun x => x)
 replace tot := tot.trans st7.pure
 refine WP.stl 1 ?_
 refine WP.storeB (ty := 24) (off := 9) (v := .slice a4 n4 c4) hB2 [[.slice a4 n4 c4]] [1] (by kernel_rfl) (by kernel_rfl) rfl (by kernel_rfl) [encA .u8 d1, [.int .i64 x2], [.slice a4 n4 c4]] (by kernel_rfl) (.one rfl .nil) ?_
 intro g8 st8 hB5
 replace hR4 := hR4.mono st8 (WL.no1 (by omega))
 replace hR1 := hR1.mono st8 (WL.no1 (by omega))
 replace hR2 := hR2.mono st8 (WL.no1 (by omega))
 replace hB3 := hB3.mono st8 (WL.no1 (by omega))
 replace hB4 := hB4.mono st8 (WL.no1 (by omega))
 replace hR3 := hR3.mono st8 (WL.no1 (by omega))
 replace tot := tot.trans (st8.up1 (.inr (by omega)))
 clear hB2
 have hB2 := hB5
 clear hB5
 refine WP.dn ?_
 refine NX.then_n ?_
 refine CP.seqR ?_
 refine WP.loadB (v := AG [encA .u8 d1, [.int .i64 x2], [.slice a4 n4 c4]]) hB2 (by kernel_rfl) (by kernel_rfl) ?_
 replace hs := Option.bind_eq_some_iff.1 hs
 obtain ⟨d3, hk5, hs⟩ := hs
 have hcal5 := P.state_State_Digest g8 d1 x2 l4 a4 n4 c4 hR4 d3 hk5
 refine WP.callC hcal5 (by kernel_rfl) ?_
 rintro _ g9 st9 rfl
 replace hB2 := hB2.mono st9 (fun x => x)
 replace hR4 := hR4.mono st9 (fun x => x)
 replace hR1 := hR1.mono st9 (fun x => x)
 replace hR2 := hR2.mono st9 (fun x => x)
 replace hB3 := hB3.mono st9 (fun x => x)
 replace hB4 := hB4.mono st9 (fun x => x)
 replace tot := tot.trans st9.pure
 refine WP.alloc (T := 23) (t + 5) [encA .u8 (zA 8)] [8] (by kernel_rfl) (by simp [len_encA]) ?_
 intro g10 b5 st10 hB6
 replace hB2 := hB2.mono st10 (fun x => x)
 replace hR4 := hR4.mono st10 (fun x => x)
 replace hR1 := hR1.mono st10 (fun x => x)
 replace hR2 := hR2.mono st10 (fun x => x)
 replace hB3 := hB3.mono st10 (fun x => x)
 replace hB4 := hB4.mono st10 (fun x => x)
 replace tot := tot.trans st10.pure
 refine WP.storeB (ty := 23) (off := 0) (v := AG [encA .u8 d3]) hB6 [encA .u8 d3] [8] (by kernel_rfl) (by kernel_rfl) (by simp [len_encA]) (by kernel_rfl) [encA .u8 d3] (by kernel_rfl) (.arr .nil) ?_
 intro g11 st11 hB7
 replace hB2 := hB2.mono st11 (WL.no1 (by omega))
 replace hR4 := hR4.mono st11 (WL.no1 (by omega))
 replace hR1 := hR1.mono st11 (WL.no1 (by omega))
 replace hR2 := hR2.mono st11 (WL.no1 (by omega))
 replace hB3 := hB3.mono st11 (WL.no1 (by omega))
 replace hB4 := hB4.mono st11 (WL.no1 (by omega))
 replace tot := tot.trans (st11.up1 (.inr (by omega)))
 clear hB6
 have hB6 := hB7
 clear hB7
 refine WP.dn ?_
 refine NX.then_n ?_
 refine CP.seqR ?_
 refine WP.stl 1 ?_
 refine WP.dn ?_
 refine NX.then_n ?_
 refine CP.seqR ?_
 refine WP.stl 1 ?_
 refine WP.dn ?_
 refine NX.then_n ?_
 refine CP.seqR ?_
 refine WP.stl 2 ?_
 refine WP.dn ?_
 refine NX.then_n ?_
 refine CP.refr 137 [(7, .slice a1 n1 c1), (8, .slice a2 n2 c2), (9, .int .i64 (IntKind.i64.wrap (2 + (IntKind.i64.wrap ((IntKind.u64.wrap x1).tmod 7))))), (10, .pointer (some ⟨b3, 0, none⟩)), (11, .pointer (some ⟨b5, 0, none⟩)), (12, .slice none 0 0), (13, .slice none 0 0), (14, .bool true), (15, .int .i64 0)] (by kernel_rfl) (by kernel_rfl) ?_
 clear ds
 intro ds
 refine CP.seq ?_
 refine CP.seqR ?_
 refine WP.stl 1 ?_
 refine WP.dn ?_
 refine NX.then_n ?_
 refine CP.block ?_
 generalize fuel = k1 at hs
 refine CP.loop (fun k1 tm g => ∃ (l9 : List S_notary_entry) (a16 : Option Addr) (n10 : Nat) (c14 : Nat) (w2 : (List (S_notary_entry × Int))) (l10 : List (Arr Int 8)) (a17 : Option Addr) (n11 : Nat) (c15 : Nat) (l11 : List (List Int)) (a18 : Option Addr) (n12 : Nat) (c16 : Nat) (q9 : Bool) (x7 : Int) (x8 : Int), Fr 137 [(7, .slice a1 n1 c1), (8, .slice a2 n2 c2), (9, .int .i64 (IntKind.i64.wrap (2 + (IntKind.i64.wrap ((IntKind.u64.wrap x1).tmod 7))))), (10, .pointer (some ⟨b3, 0, none⟩)), (11, .pointer (some ⟨b5, 0, none⟩)), (12, .slice a17 n11 c15), (13, .slice a18 n12 c16), (14, .bool q9), (15, .int .i64 x7), (16, .int .i64 x8)] tm ∧ Step (fun l => NoM l ∨ t ≤ l) g0 g ∧ RdS Kd.bool g 4 a1 n1 c1 l1 ∧ RdS Kd.bool g 4 a2 n2 c2 l2 ∧ Box g (t + 3) b3 90 [[.slice a16 n10 c14], [.map (some b4)]] [1, 1] ∧ OwnS k_S_notary_entry g (t + 10) 173 a16 n10 c14 l9 ∧ MapB g (t + 4) b4 kv_S_notary_entry (Value.int .i64) w2 ∧ Box g (t + 5) b5 23 [encA .u8 d3] [8] ∧ OwnS (Kd.arrI 8 .u8) g (t + 7) 23 a17 n11 c15 l10 ∧ OwnS (Kd.slice 5 (Kd.int .u8)) g (t + 9) 24 a18 n12 c16 l11 ∧ F.baizelaw32_StateFull.l1 x1 l1 l2 d3 k1 l9 w2 l10 l11 q9 x7 x8 = some o1) k1 ?_ ?_ ?_
 ·exact ⟨[], none, 0, 0, d2, [], none, 0, 0, [], none, 0, 0, true, 0, 0, ⟨by kernel_rfl, by kernel_rfl⟩, tot, hR1, hR2, hB3, (OwnS.nil _ _ _ _), hB4, hB6, (OwnS.nil _ _ _ _), (OwnS.nil _ _ _ _), hs⟩
 ·rintro tm g ⟨l9, a16, n10, c14, w2, l10, a17, n11, c15, l11, a18, n12, c16, q9, x7, x8, hF, tot, hR1, hR2, hB3, hR16, hB4, hB6, hR17, hR18, hs⟩
  exact absurd hs (by simp [F.baizelaw32_StateFull.l1])
 clear tot hs hR1 hR2 hB3 hB4 hB6
 rintro k1 tm g ⟨l9, a16, n10, c14, w2, l10, a17, n11, c15, l11, a18, n12, c16, q9, x7, x8, hF, tot, hR1, hR2, hB3, hR16, hB4, hB6, hR17, hR18, hs⟩
 clear ds
 obtain ⟨ds, rfl⟩ := hF.open
 clear hF
 unfold F.baizelaw32_StateFull.l1 at hs
 refine CP.seq ?_
 refine CP.seqR ?_
 refine WP.stl 3 ?_
 refine WP.dn ?_
 refine NX.then_n ?_
 refine CP.cond (b := decide (x8 < (IntKind.i64.wrap (2 + (IntKind.i64.wrap ((IntKind.u64.wrap x1).tmod 7)))))) (by kernel_rfl) (fun h22 => ?_) (fun h22 => ?_)
 ·replace hs := of_if_t hs h22
  refine CP.skip ?_
  refine NX.then_n ?_
  refine CP.cut (fun tm g => ∃ (l20 : List S_notary_entry) (a40 : Option Addr) (n23 : Nat) (c34 : Nat) (w5 : (List (S_notary_entry × Int))) (l21 : List (Arr Int 8)) (a41 : Option Addr) (n24 : Nat) (c35 : Nat) (l22 : List (List Int)) (a42 : Option Addr) (n25 : Nat) (c36 : Nat) (q20 : Bool) (x17 : Int), Fr 137 [(7, .slice a1 n1 c1), (8, .slice a2 n2 c2), (9, .int .i64 (IntKind.i64.wrap (2 + (IntKind.i64.wrap ((IntKind.u64.wrap x1).tmod 7))))), (10, .pointer (some ⟨b3, 0, none⟩)), (11, .pointer (some ⟨b5, 0, none⟩)), (12, .slice a41 n24 c35), (13, .slice a42 n25 c36), (14, .bool q20), (15, .int .i64 x17), (16, .int .i64 x8)] tm ∧ Step (fun l => NoM l ∨ t ≤ l) g0 g ∧ RdS Kd.bool g 4 a1 n1 c1 l1 ∧ RdS Kd.bool g 4 a2 n2 c2 l2 ∧ Box g (t + 3) b3 90 [[.slice a40 n23 c34], [.map (some b4)]] [1, 1] ∧ OwnS k_S_notary_entry g (t + 10) 173 a40 n23 c34 l20 ∧ MapB g (t + 4) b4 kv_S_notary_entry (Value.int .i64) w5 ∧ Box g (t + 5) b5 23 [encA .u8 d3] [8] ∧ OwnS (Kd.arrI 8 .u8) g (t + 7) 23 a41 n24 c35 l21 ∧ OwnS (Kd.slice 5 (Kd.int .u8)) g (t + 9) 24 a42 n25 c36 l22 ∧ (F.baizelaw32_StateFull.c1 (F.baizelaw32_StateFull.l1 x1 l1 l2 d3 k1) x8 l20 w5 l21 l22 q20 x17) = some o1) ?_ ?_
  ·refine CP.block ?_
   refine CP.seqR ?_
   refine WP.stl 4 ?_
   refine WP.mkSl (kd := (Kd.arrI 8 .u8)) (t := 41) (e := 23) (bytes := 8) (t + 18) [AG [encA .u8 (⟨[(IntKind.u8.wrap x8), 5, 0, 0, 0, 0, 0, 0], rfl⟩ : Arr Int 8)]] [(⟨[(IntKind.u8.wrap x8), 5, 0, 0, 0, 0, 0, 0], rfl⟩ : Arr Int 8)] (by kernel_rfl) (by kernel_rfl) (Nat.le_of_ble_eq_true rfl) (Nat.le_of_ble_eq_true rfl) (all_cons (Kd.len (Kd.arrI 8 .u8) (g := g) (x := (⟨[(IntKind.u8.wrap x8), 5, 0, 0, 0, 0, 0, 0], rfl⟩ : Arr Int 8)) (AG_one _)) all_nil) (⟨_, _, rfl, (AG_one _), rfl⟩) rfl ?_
   intro g55 a43 st55 hR43
   replace hR1 := hR1.mono st55 (fun x => x)
   replace hR2 := hR2.mono st55 (fun x => x)
   replace hB3 := hB3.mono st55 (fun x => x)
   replace hR16 := hR16.mono st55 (fun x => x) (fun x => x)
   replace hB4 := hB4.mono st55 (fun x => x)
   replace hB6 := hB6.mono st55 (fun x => x)
   replace hR17 := hR17.mono st55 (fun x => x) (fun x => x)
   replace hR18 := hR18.mono st55 (fun x => x) (fun x => x)
   replace tot := tot.trans st55.pure
   by_cases hc24 : l10.length + ([(⟨[(IntKind.u8.wrap x8), 5, 0, 0, 0, 0, 0, 0], rfl⟩ : Arr Int 8)]).length ≤ 17592186044416
   case neg => rw [if_neg hc24] at hs; cases hs
   replace hs := of_if_p hs hc24
   refine WP.append (kd := (Kd.arrI 8 .u8)) (t := 41) (e := 23) (bytes := 8) (a2 := a43) (c2 := 1) hR17 hR43.src hR43.len (by kernel_rfl) (by kernel_rfl) (by omega) (by simp only [maxLen]; omega) (by omega) ?_
   intro g56 a44 c37 st56 hR44
   replace hR1 := hR1.mono st56 (WL.no1 (by omega))
   replace hR2 := hR2.mono st56 (WL.no1 (by omega))
   replace hB3 := hB3.mono st56 (WL.no1 (by omega))
   replace hR16 := hR16.mono st56 (WL.no1 (by omega)) (WL.no1 (by omega))
   replace hB4 := hB4.mono st56 (WL.no1 (by omega))
   replace hB6 := hB6.mono st56 (WL.no1 (by omega))
   replace hR18 := hR18.mono st56 (WL.no1 (by omega)) (WL.no1 (by omega))
   replace hR43 := hR43.mono st56 (WL.no1 (by omega)) (WL.no1 (by omega))
   replace tot := tot.trans (st56.up1 (.inr (by omega)))
   refine WP.stl 1 ?_
   refine WP.dn ?_
   refine NX.then_n ?_
   refine CP.seqR ?_
   refine WP.stl 1 ?_
   refine WP.mkSl (kd := (Kd.slice 5 (Kd.int .u8))) (t := 42) (e := 24) (bytes := 24) (t + 19) [.slice none 0 0] [([] : List Int)] (by kernel_rfl) (by kernel_rfl) (Nat.le_of_ble_eq_true rfl) (Nat.le_of_ble_eq_true rfl) (all_cons rfl all_nil) (⟨_, _, rfl, (by exact ⟨_, _, _, rfl, RdS.nil _ _ _⟩), rfl⟩) rfl ?_
   intro g57 a45 st57 hR45
   replace hR1 := hR1.mono st57 (fun x => x)
   replace hR2 := hR2.mono st57 (fun x => x)
   replace hB3 := hB3.mono st57 (fun x => x)
   replace hR16 := hR16.mono st57 (fun x => x) (fun x => x)
   replace hB4 := hB4.mono st57 (fun x => x)
   replace hB6 := hB6.mono st57 (fun x => x)
   replace hR44 := hR44.mono st57 (fun x => x) (fun x => x)
   replace hR18 := hR18.mono st57 (fun x => x) (fun x => x)
   replace tot := tot.trans st57.pure
   by_cases hc25 : l11.length + ([([] : List Int)]).length ≤ 5864062014805
   case neg => rw [if_neg hc25] at hs; cases hs
   replace hs := of_if_p hs hc25
   refine WP.append (kd := (Kd.slice 5 (Kd.int .u8))) (t := 42) (e := 24) (bytes := 24) (a2 := a45) (c2 := 1) hR18 hR45.src hR45.len (by kernel_rfl) (by kernel_rfl) (by omega) (by simp only [maxLen]; omega) (by omega) ?_
   intro g58 a46 c38 st58 hR46
   replace hR1 := hR1.mono st58 (WL.no1 (by omega))
   replace hR2 := hR2.mono st58 (WL.no1 (by omega))
   replace hB3 := hB3.mono st58 (WL.no1 (by omega))
   replace hR16 := hR16.mono st58 (WL.no1 (by omega)) (WL.no1 (by omega))
   replace hB4 := hB4.mono st58 (WL.no1 (by omega))
   replace hB6 := hB6.mono st58 (WL.no1 (by omega))
   replace hR44 := hR44.mono st58 (WL.no1 (by omega)) (WL.no1 (by omega))
   replace hR45 := hR45.mono st58 (WL.no1 (by omega)) (WL.no1 (by omega))
   replace tot := tot.trans (st58.up1 (.inr (by omega)))
   refine WP.stl 1 ?_
   refine WP.dn ?_
   refine NX.then_n ?_
   refine CP.refr 137 [(7, .slice a1 n1 c1), (8, .slice a2 n2 c2), (9, .int .i64 (IntKind.i64.wrap (2 + (IntKind.i64.wrap ((IntKind.u64.wrap x1).tmod 7))))), (10, .pointer (some ⟨b3, 0, none⟩)), (11, .pointer (some ⟨b5, 0, none⟩)), (12, .slice a44 (n11 + 1) c37), (13, .slice a46 (n12 + 1) c38), (14, .bool q9), (15, .int .i64 x7), (16, .int .i64 x8)] (by kernel_rfl) (by kernel_rfl) ?_
   clear ds
   intro ds
   refine CP.cut (fun tm g => ∃ (q21 : Bool), Fr 137 [(7, .slice a1 n1 c1), (8, .slice a2 n2 c2), (9, .int .i64 (IntKind.i64.wrap (2 + (IntKind.i64.wrap ((IntKind.u64.wrap x1).tmod 7))))), (10, .pointer (some ⟨b3, 0, none⟩)), (11, .pointer (some ⟨b5, 0, none⟩)), (12, .slice a44 (n11 + 1) c37), (13, .slice a46 (n12 + 1) c38), (14, .bool q9), (15, .int .i64 x7), (16, .int .i64 x8), (64, .bool q21)] tm ∧ Step (fun l => NoM l ∨ t ≤ l) g0 g ∧ RdS Kd.bool g 4 a1 n1 c1 l1 ∧ RdS Kd.bool g 4 a2 n2 c2 l2 ∧ Box g (t + 3) b3 90 [[.slice a16 n10 c14], [.map (some b4)]] [1, 1] ∧ OwnS k_S_notary_entry g (t + 10) 173 a16 n10 c14 l9 ∧ MapB g (t + 4) b4 kv_S_notary_entry (Value.int .i64) w2 ∧ Box g (t + 5) b5 23 [encA .u8 d3] [8] ∧ OwnS (Kd.arrI 8 .u8) g (t + 7) 23 a44 (n11 + 1) c37 (l10 ++ [(⟨[(IntKind.u8.wrap x8), 5, 0, 0, 0, 0, 0, 0], rfl⟩ : Arr Int 8)]) ∧ OwnS (Kd.slice 5 (Kd.int .u8)) g (t + 9) 24 a46 (n12 + 1) c38 (l11 ++ [([] : List Int)]) ∧ (F.baizelaw32_StateFull.c2 (F.baizelaw32_StateFull.l1 x1 l1 l2 d3 k1) l2 d3 l9 w2 l10 l11 q9 x7 x8 q21) = some o1) ?_ ?_
   ·refine CP.region ?_
    refine WP.stl 2 ?_
    refine WP.len (a := a1) (cp := c1) hR1.len (by kernel_rfl) ?_
    refine WP.stl 2 ?_
    refine WP.guard 59 (b := decide (x8 < (l1.length : Int))) (by kernel_rfl) (fun h34 => ?_) (fun h34 => ?_)
    ·replace hs := of_if_t hs h34
     refine WP.stl 2 ?_
     by_cases hc31 : (0 : Int) ≤ x8 ∧ x8 < (l1.length : Int)
     case neg => rw [if_neg hc31] at hs; cases hs
     replace hs := of_if_p hs hc31
     obtain ⟨b23, u18, ha18⟩ := hR1.at hc31
     refine WP.indexA (t := 36) (e := 4) (sz := 1) (cap := c1) (k := .i64) (i := x8) hR1.len ha18 (by kernel_rfl) (by kernel_rfl) hc31 ?_
     obtain ⟨cs14, hcR14, hcV14⟩ := hR1.src.view (getI_some hc31) ha18
     replace hcR14 := Kd.o_bool hcR14
     refine WP.loadV [[.bool (getI l1 x8)]] [1] hcV14 hcR14 rfl (f := 0) (ty := 4) (agg := false) (size := 1) (rs := [[.bool (getI l1 x8)]]) (v := .bool (getI l1 x8)) (by kernel_rfl) (by kernel_rfl) (by kernel_rfl) (by kernel_rfl) ?_
     refine WP.stl 1 ?_
     refine WP.dn ?_
     refine NX.post ?_
     exact ⟨(getI l1 x8), ⟨by kernel_rfl, by kernel_rfl⟩, tot, hR1, hR2, hB3, hR16, hB4, hB6, hR44, hR46, hs⟩
    replace hs := of_if_f hs h34
    refine WP.stl 5 ?_
    refine WP.dn ?_
    refine NX.post ?_
    exact ⟨false, ⟨by kernel_rfl, by kernel_rfl⟩, tot, hR1, hR2, hB3, hR16, hB4, hB6, hR44, hR46, hs⟩
   clear tot hs hR1 hR2 hB3 hR16 hB4 hB6 hR44 hR46
   rintro tm g ⟨q21, hF, tot, hR1, hR2, hB3, hR16, hB4, hB6, hR44, hR46, hs⟩
   clear ds
   obtain ⟨ds, rfl⟩ := hF.open
   clear hF
   unfold F.baizelaw32_StateFull.c2 at hs
   refine CP.cond (b := q21) (by kernel_rfl) (fun h29 => ?_) (fun h29 => ?_)
   ·replace hs := of_if_t hs h29
    refine CP.seq ?_
    by_cases hc27 : (0 : Int) ≤ x8 ∧ x8 < ((l10 ++ [(⟨[(IntKind.u8.wrap x8), 5, 0, 0, 0, 0, 0, 0], rfl⟩ : Arr Int 8)]).length : Int)
    case neg => rw [if_neg hc27] at hs; cases hs
    replace hs := of_if_p hs hc27
    replace hs := Option.bind_eq_some_iff.1 hs
    obtain ⟨d13, hk22, hs⟩ := hs
    replace hs := Option.bind_eq_some_iff.1 hs
    obtain ⟨⟨l23, x18, d14, d15⟩, hk23, hs⟩ := hs
    dsimp only at hs
    obtain ⟨b19, u14, ha14⟩ := hR44.at hc27
    refine CP.drawL (by kernel_rfl) [3, 4, 5, 6, 7] N.baizelaw32_StateFull_0 [⟨none, [2], [], fun l g => Box g (t + 3) b3 90 [[.slice a16 n10 c14], [.map (some b4)]] [1, 1]⟩, ⟨none, [0], [], fun l g => OwnS k_S_notary_entry g (t + 10) 173 a16 n10 c14 l9⟩, ⟨none, [1], [], fun l g => MapB g (t + 4) b4 kv_S_notary_entry (Value.int .i64) w2⟩, ⟨none, [], [], fun l g => Box g (t + 5) b5 23 [encA .u8 d3] [8]⟩, ⟨none, [], [], fun l g => OwnS (Kd.arrI 8 .u8) g (t + 7) 23 a44 (n11 + 1) c37 (l10 ++ [(⟨[(IntKind.u8.wrap x8), 5, 0, 0, 0, 0, 0, 0], rfl⟩ : Arr Int 8)])⟩, ⟨some 0, [], [0], fun l g => l.getD 0 undef = .pointer (some ⟨b19, u14 + x8.toNat * 8, none⟩)⟩, ⟨some 1, [], [1], fun l g => l.getD 0 undef = AG [encA .u8 (getI (l10 ++ [(⟨[(IntKind.u8.wrap x8), 5, 0, 0, 0, 0, 0, 0], rfl⟩ : Arr Int 8)]) x8)]⟩, ⟨some 2, [], [2], fun l g => l.getD 0 undef = .iface 92 (AG [[.pointer (some ⟨b3, 0, none⟩)], encA .u8 d13])⟩, ⟨some 2, [0], [], fun l g => OwnS k_S_notary_entry g (t + 10) 173 a16 n10 c14 l9⟩, ⟨some 3, [], [3], fun l g => l.getD 0 undef = AG [encA .u8 d3]⟩, ⟨some 4, [1], [], fun l g => MapB g (t + 4) b4 kv_S_notary_entry (Value.int .i64) d14⟩, ⟨some 4, [0, 2], [4], fun l g => ∃ (a47 : Option Addr) (c39 : Nat) (a48 : Option Addr) (c40 : Nat), l.getD 0 undef = .tuple #[.slice a47 l23.length c39, .int .i64 x18] ∧ OwnS (Kd.int .u8) g (t + 20) 5 a47 l23.length c39 l23 ∧ OwnS k_S_notary_entry g (t + 10) 173 a48 d15.length c40 d15 ∧ Box g (t + 3) b3 90 [[.slice a48 d15.length c40], [.map (some b4)]] [1, 1]⟩] [[], [], [0], [], [1, 2, 0]] [(t + 10), (t + 4), (t + 3)] [0, 1, 2] [8, 9, 10, 11, 12] (by kernel_rfl) (by simp <;> omega) (by simp <;> omega) ⟨fun _ _ _ _ st h0 hl hj hB3 => (hB3.mono st (hj 2 (by simp) _ rfl)), fun _ _ _ _ st h0 hl hj hR16 => (hR16.mono st h0 (hj 0 (by simp) _ rfl)), fun _ _ _ _ st h0 hl hj hB4 => (hB4.mono st (hj 1 (by simp) _ rfl)), fun _ _ _ _ st h0 hl hj hB6 => (hB6.mono st (fun h => absurd (hl _ h) (by simp <;> omega))), fun _ _ _ _ st h0 hl hj hR44 => (hR44.mono st h0 (fun h => absurd (hl _ h) (by simp <;> omega))), fun _ _ _ _ st h0 hl hj e0 => e0, fun _ _ _ _ st h0 hl hj e1 => e1, fun _ _ _ _ st h0 hl hj e2 => e2, fun _ _ _ _ st h0 hl hj hR16 => (hR16.mono st h0 (hj 0 (by simp) _ rfl)), fun _ _ _ _ st h0 hl hj e3 => e3, fun _ _ _ _ st h0 hl hj hB4 => (hB4.mono st (hj 1 (by simp) _ rfl)), fun _ _ _ _ st h0 hl hj ⟨a47, c39, a48, c40, e4, hR47, hR48, hB3⟩ => ⟨a47, c39, a48, c40, e4, (hR47.mono st h0 (fun h => absurd (hl _ h) (by simp <;> omega))), (hR48.mono st h0 (hj 0 (by simp) _ rfl)), (hB3.mono st (hj 2 (by simp) _ rfl))⟩, tv⟩ ⟨hB3, hR16, hB4, hB6, hR44, tv, tv, tv, tv, tv, tv, tv, tv⟩ (by kernel_rfl) (fun vs => by kernel_rfl) ?_ ?_ ?_
    ·intro j hj
     have hq : j = 0 ∨ j = 1 ∨ j = 2 ∨ j = 3 ∨ j = 4 := by have h : j < 5 := hj; omega
     rcases hq with rfl | rfl | rfl | rfl | rfl
     ·intro vs gq stq hl hf
      obtain ⟨v0, v1, v2, v3, v4, rfl⟩ := len_k5 hl
      obtain ⟨a47, c39, a48, c40, e4, hR47, hR48, hB3⟩ := (show ∃ (a47 : Option Addr) (c39 : Nat) (a48 : Option Addr) (c40 : Nat), v4 = .tuple #[.slice a47 l23.length c39, .int .i64 x18] ∧ OwnS (Kd.int .u8) gq (t + 20) 5 a47 l23.length c39 l23 ∧ OwnS k_S_notary_entry gq (t + 10) 173 a48 d15.length c40 d15 ∧ Box gq (t + 3) b3 90 [[.slice a48 d15.length c40], [.map (some b4)]] [1, 1] from hf _ (memI 11 rfl) (by kernel_rfl))
      subst e4
      show Option.isSome _ = true
      kernel_rfl
     ·intro vs gq stq hl hf
      obtain ⟨v0, v1, v2, v3, v4, rfl⟩ := len_k5 hl
      obtain ⟨a47, c39, a48, c40, e4, hR47, hR48, hB3⟩ := (show ∃ (a47 : Option Addr) (c39 : Nat) (a48 : Option Addr) (c40 : Nat), v4 = .tuple #[.slice a47 l23.length c39, .int .i64 x18] ∧ OwnS (Kd.int .u8) gq (t + 20) 5 a47 l23.length c39 l23 ∧ OwnS k_S_notary_entry gq (t + 10) 173 a48 d15.length c40 d15 ∧ Box gq (t + 3) b3 90 [[.slice a48 d15.length c40], [.map (some b4)]] [1, 1] from hf _ (memI 11 rfl) (by kernel_rfl))
      subst e4
      show Option.isSome _ = true
      kernel_rfl
     ·intro vs gq stq hl hf
      obtain ⟨v0, v1, v2, v3, v4, rfl⟩ := len_k5 hl
      obtain ⟨a47, c39, a48, c40, e4, hR47, hR48, hB3⟩ := (show ∃ (a47 : Option Addr) (c39 : Nat) (a48 : Option Addr) (c40 : Nat), v4 = .tuple #[.slice a47 l23.length c39, .int .i64 x18] ∧ OwnS (Kd.int .u8) gq (t + 20) 5 a47 l23.length c39 l23 ∧ OwnS k_S_notary_entry gq (t + 10) 173 a48 d15.length c40 d15 ∧ Box gq (t + 3) b3 90 [[.slice a48 d15.length c40], [.map (some b4)]] [1, 1] from hf _ (memI 11 rfl) (by kernel_rfl))
      subst e4
      show Option.isSome _ = true
      kernel_rfl
     ·intro vs gq stq hl hf
      obtain ⟨v0, v1, v2, v3, v4, rfl⟩ := len_k5 hl
      obtain ⟨a47, c39, a48, c40, e4, hR47, hR48, hB3⟩ := (show ∃ (a47 : Option Addr) (c39 : Nat) (a48 : Option Addr) (c40 : Nat), v4 = .tuple #[.slice a47 l23.length c39, .int .i64 x18] ∧ OwnS (Kd.int .u8) gq (t + 20) 5 a47 l23.length c39 l23 ∧ OwnS k_S_notary_entry gq (t + 10) 173 a48 d15.length c40 d15 ∧ Box gq (t + 3) b3 90 [[.slice a48 d15.length c40], [.map (some b4)]] [1, 1] from hf _ (memI 11 rfl) (by kernel_rfl))
      subst e4
      show Option.isSome _ = true
      kernel_rfl
     ·intro vs gq stq hl hf
      obtain ⟨v0, v1, v2, v3, v4, rfl⟩ := len_k5 hl
      obtain ⟨a47, c39, a48, c40, e4, hR47, hR48, hB3⟩ := (show ∃ (a47 : Option Addr) (c39 : Nat) (a48 : Option Addr) (c40 : Nat), v4 = .tuple #[.slice a47 l23.length c39, .int .i64 x18] ∧ OwnS (Kd.int .u8) gq (t + 20) 5 a47 l23.length c39 l23 ∧ OwnS k_S_notary_entry gq (t + 10) 173 a48 d15.length c40 d15 ∧ Box gq (t + 3) b3 90 [[.slice a48 d15.length c40], [.map (some b4)]] [1, 1] from hf _ (memI 11 rfl) (by kernel_rfl))
      subst e4
      show Option.isSome _ = true
      kernel_rfl
    ·intro j hj
     have hq : j = 0 ∨ j = 1 ∨ j = 2 ∨ j = 3 ∨ j = 4 := by have h : j < 5 := hj; omega
     rcases hq with rfl | rfl | rfl | rfl | rfl
     ·intro vs gq stq hl hf
      obtain ⟨v0, v1, v2, v3, v4, rfl⟩ := len_k5 hl
      have hR44 := (show OwnS (Kd.arrI 8 .u8) gq (t + 7) 23 a44 (n11 + 1) c37 (l10 ++ [(⟨[(IntKind.u8.wrap x8), 5, 0, 0, 0, 0, 0, 0], rfl⟩ : Arr Int 8)]) from hf _ (memI 4 rfl) (by kernel_rfl))
      refine WP.indexA (t := 41) (e := 23) (sz := 8) (cap := c37) (k := .i64) (i := x8) hR44.len ha14 (by kernel_rfl) (by kernel_rfl) hc27 ?_
      refine WP.dn (Shown.ok (v := .pointer (some ⟨b19, u14 + x8.toNat * 8, none⟩)) (by kernel_rfl) (Step.refl _ _) ?_)
      exact ⟨tv, tv, tv, tv, tv, rfl, tv, tv, tv, tv, tv, tv, tv⟩
     ·intro vs gq stq hl hf
      obtain ⟨v0, v1, v2, v3, v4, rfl⟩ := len_k5 hl
      have hR44 := (show OwnS (Kd.arrI 8 .u8) gq (t + 7) 23 a44 (n11 + 1) c37 (l10 ++ [(⟨[(IntKind.u8.wrap x8), 5, 0, 0, 0, 0, 0, 0], rfl⟩ : Arr Int 8)]) from hf _ (memI 4 rfl) (by kernel_rfl))
      have e0 := (show v0 = .pointer (some ⟨b19, u14 + x8.toNat * 8, none⟩) from hf _ (memI 5 rfl) (by kernel_rfl))
      subst e0
      obtain ⟨cs11, hcR11, hcV11⟩ := hR44.src.view (getI_some hc27) ha14
      replace hcR11 := Kd.o_arr hcR11
      refine WP.loadV [encA .u8 (getI (l10 ++ [(⟨[(IntKind.u8.wrap x8), 5, 0, 0, 0, 0, 0, 0], rfl⟩ : Arr Int 8)]) x8)] [8] hcV11 hcR11 (by simp [len_encA]) (f := 0) (ty := 23) (agg := true) (size := 8) (rs := [encA .u8 (getI (l10 ++ [(⟨[(IntKind.u8.wrap x8), 5, 0, 0, 0, 0, 0, 0], rfl⟩ : Arr Int 8)]) x8)]) (v := AG [encA .u8 (getI (l10 ++ [(⟨[(IntKind.u8.wrap x8), 5, 0, 0, 0, 0, 0, 0], rfl⟩ : Arr Int 8)]) x8)]) (by kernel_rfl) (by kernel_rfl) (by kernel_rfl) (by kernel_rfl) ?_
      refine WP.dn (Shown.ok (v := AG [encA .u8 (getI (l10 ++ [(⟨[(IntKind.u8.wrap x8), 5, 0, 0, 0, 0, 0, 0], rfl⟩ : Arr Int 8)]) x8)]) (by kernel_rfl) (Step.refl _ _) ?_)
      exact ⟨tv, tv, tv, tv, tv, tv, rfl, tv, tv, tv, tv, tv, tv⟩
     ·intro vs gq stq hl hf
      obtain ⟨v0, v1, v2, v3, v4, rfl⟩ := len_k5 hl
      have hB3 := (show Box gq (t + 3) b3 90 [[.slice a16 n10 c14], [.map (some b4)]] [1, 1] from hf _ (memI 0 rfl) (by kernel_rfl))
      have hR16 := (show OwnS k_S_notary_entry gq (t + 10) 173 a16 n10 c14 l9 from hf _ (memI 1 rfl) (by kernel_rfl))
      have hB4 := (show MapB gq (t + 4) b4 kv_S_notary_entry (Value.int .i64) w2 from hf _ (memI 2 rfl) (by kernel_rfl))
      have e1 := (show v1 = AG [encA .u8 (getI (l10 ++ [(⟨[(IntKind.u8.wrap x8), 5, 0, 0, 0, 0, 0, 0], rfl⟩ : Arr Int 8)]) x8)] from hf _ (memI 6 rfl) (by kernel_rfl))
      subst e1
      have hS9 : 0 ∉ ([(t + 10)] : List Nat) := by simp <;> omega
      have stl9 := GW.lend_step gq [(t + 10)]
      have hRl16 := hR16.lendTo hS9 (by simp)
      refine WP.regw (g' := GW.lend gq [(t + 10)]) rfl ?_
      have hcal22 := P.notary_Book_Signer (GW.lend gq [(t + 10)]) (t + 3) (t + 4) l9 w2 (getI (l10 ++ [(⟨[(IntKind.u8.wrap x8), 5, 0, 0, 0, 0, 0, 0], rfl⟩ : Arr Int 8)]) x8) a16 n10 c14 b3 b4 hRl16 (hB4.mono stl9 (WL.no (by simp <;> omega))) (hB3.mono stl9 (WL.no (by simp <;> omega))) (by omega) (by omega) (by omega) d13 hk22
      refine WP.callC hcal22 (by kernel_rfl) ?_
      rintro _ g59 st59 rfl
      have st60 := (GW.back_step st59).lentS
      have hO19 := hR16.backTo hS9 (by simp) st59 (fun x => x)
      refine WP.regw (g' := GW.back gq g59 [(t + 10)]) rfl ?_
      generalize GW.back gq g59 [(t + 10)] = g60 at *
      refine WP.dn (Shown.o (v := .iface 92 (AG [[.pointer (some ⟨b3, 0, none⟩)], encA .u8 d13])) st60 ?_)
      exact ⟨tv, tv, tv, tv, tv, tv, tv, rfl, hO19, tv, tv, tv, tv⟩
     ·intro vs gq stq hl hf
      obtain ⟨v0, v1, v2, v3, v4, rfl⟩ := len_k5 hl
      have hB6 := (show Box gq (t + 5) b5 23 [encA .u8 d3] [8] from hf _ (memI 3 rfl) (by kernel_rfl))
      refine WP.loadB (v := AG [encA .u8 d3]) hB6 (by kernel_rfl) (by kernel_rfl) ?_
      refine WP.dn (Shown.ok (v := AG [encA .u8 d3]) (by kernel_rfl) (Step.refl _ _) ?_)
      exact ⟨tv, tv, tv, tv, tv, tv, tv, tv, tv, rfl, tv, tv, tv⟩
     ·intro vs gq stq hl hf
      obtain ⟨v0, v1, v2, v3, v4, rfl⟩ := len_k5 hl
      have hB3 := (show Box gq (t + 3) b3 90 [[.slice a16 n10 c14], [.map (some b4)]] [1, 1] from hf _ (memI 0 rfl) (by kernel_rfl))
      have hB4 := (show MapB gq (t + 4) b4 kv_S_notary_entry (Value.int .i64) w2 from hf _ (memI 2 rfl) (by kernel_rfl))
      have e2 := (show v2 = .iface 92 (AG [[.pointer (some ⟨b3, 0, none⟩)], encA .u8 d13]) from hf _ (memI 7 rfl) (by kernel_rfl))
      subst e2
      have hR16 := (show OwnS k_S_notary_entry gq (t + 10) 173 a16 n10 c14 l9 from hf _ (memI 8 rfl) (by kernel_rfl))
      have e3 := (show v3 = AG [encA .u8 d3] from hf _ (memI 9 rfl) (by kernel_rfl))
      subst e3
      have hcal23 := P.notary_bookSigner_Sign gq (t + 3) (t + 10) (t + 4) (t + 20) l9 w2 d13 d3 a16 n10 c14 b3 b4 hR16 hB4 hB3 (by omega) (by omega) (by omega) (by omega) (by omega) (by omega) l23 x18 d14 d15 hk23
      refine WP.callC hcal23 (by kernel_rfl) ?_
      rintro _ g61 st61 ⟨a47, n26, c39, a48, n27, c40, rfl, hR47, hB14, hR48, hB15⟩
      obtain rfl := hR47.len
      obtain rfl := hR48.len
      refine WP.dn (Shown.o (v := .tuple #[.slice a47 l23.length c39, .int .i64 x18]) st61 ?_)
      exact ⟨tv, tv, tv, tv, tv, tv, tv, tv, tv, tv, hB14, ⟨a47, c39, a48, c40, rfl, hR47, hR48, hB15⟩, tv⟩
    intro vs g62 st62 hl hf
    obtain ⟨v0, v1, v2, v3, v4, rfl⟩ := len_k5 hl
    have hB4 := (show MapB g62 (t + 4) b4 kv_S_notary_entry (Value.int .i64) d14 from hf _ (memI 10 rfl) (by kernel_rfl))
    obtain ⟨a47, c39, a48, c40, e4, hR47, hR48, hB3⟩ := (show ∃ (a47 : Option Addr) (c39 : Nat) (a48 : Option Addr) (c40 : Nat), v4 = .tuple #[.slice a47 l23.length c39, .int .i64 x18] ∧ OwnS (Kd.int .u8) g62 (t + 20) 5 a47 l23.length c39 l23 ∧ OwnS k_S_notary_entry g62 (t + 10) 173 a48 d15.length c40 d15 ∧ Box g62 (t + 3) b3 90 [[.slice a48 d15.length c40], [.map (some b4)]] [1, 1] from hf _ (memI 11 rfl) (by kernel_rfl))
    subst e4
    replace hR1 := hR1.mono st62 (WL.no3 (by omega) (by omega) (by omega))
    replace hR2 := hR2.mono st62 (WL.no3 (by omega) (by omega) (by omega))
    replace hB6 := hB6.mono st62 (WL.no3 (by omega) (by omega) (by omega))
    replace hR44 := hR44.mono st62 (WL.no3 (by omega) (by omega) (by omega)) (WL.no3 (by omega) (by omega) (by omega))
    replace hR46 := hR46.mono st62 (WL.no3 (by omega) (by omega) (by omega)) (WL.no3 (by omega) (by omega) (by omega))
    replace tot := tot.trans (st62.up3 (.inr (by omega)) (.inr (by omega)) (.inr (by omega)))
    refine NX.then_n ?_
    refine CP.refr 137 [(7, .slice a1 n1 c1), (8, .slice a2 n2 c2), (9, .int .i64 (IntKind.i64.wrap (2 + (IntKind.i64.wrap ((IntKind.u64.wrap x1).tmod 7))))), (10, .pointer (some ⟨b3, 0, none⟩)), (11, .pointer (some ⟨b5, 0, none⟩)), (12, .slice a44 (n11 + 1) c37), (13, .slice a46 (n12 + 1) c38), (14, .bool q9), (15, .int .i64 x7), (16, .int .i64 x8), (17, .slice a47 l23.length c39), (18, .int .i64 x18)] (by kernel_rfl) (by kernel_rfl) ?_
    clear ds
    intro ds
    refine CP.seq ?_
    refine CP.seqR ?_
    refine WP.stl 2 ?_
    refine WP.dn ?_
    refine NX.then_n ?_
    refine CP.cond (b := (x18 != 0)) (by kernel_rfl) (fun h30 => ?_) (fun h30 => ?_)
    ·replace hs := of_if_t hs h30
     refine CP.seqR ?_
     refine WP.stl 1 ?_
     refine WP.dn ?_
     refine NX.then_n ?_
     refine CP.ret ?_
     refine NX.then_r ?_
     refine NX.block_r ?_
     refine NX.then_r ?_
     refine NX.then_r ?_
     refine NX.block_r ?_
     refine NX.then_r ?_
     replace hs := Option.some.inj hs
     obtain rfl := hs
     exact NX.fin (v := .bool false) (Res.still (by kernel_rfl)) tot htL rfl
    replace hs := of_if_f hs h30
    refine CP.skip ?_
    refine NX.then_n ?_
    refine CP.seqR ?_
    refine WP.stl 3 ?_
    by_cases hc28 : (0 : Int) ≤ x8 ∧ x8 < ((l11 ++ [([] : List Int)]).length : Int)
    case neg => rw [if_neg hc28] at hs; cases hs
    replace hs := of_if_p hs hc28
    obtain ⟨b20, u15, ha15⟩ := hR46.at hc28
    refine WP.indexA (t := 42) (e := 24) (sz := 1) (cap := c38) (k := .i64) (i := x8) hR46.len ha15 (by kernel_rfl) (by kernel_rfl) hc28 ?_
    obtain ⟨g64, hw5, st64, hnew⟩ := hR47.freeze (by omega)
    refine WP.regw hw5 ?_
    replace hR1 := hR1.mono st64 (WL.no1 (by omega))
    replace hR2 := hR2.mono st64 (WL.no1 (by omega))
    replace hB3 := hB3.mono st64 (WL.no1 (by omega))
    replace hR48 := hR48.mono st64 (WL.no1 (by omega)) (WL.no1 (by omega))
    replace hB4 := hB4.mono st64 (WL.no1 (by omega))
    replace hB6 := hB6.mono st64 (WL.no1 (by omega))
    replace hR44 := hR44.mono st64 (WL.no1 (by omega)) (WL.no1 (by omega))
    replace hR46 := hR46.mono st64 (WL.no1 (by omega)) (WL.no1 (by omega))
    replace tot := tot.trans (st64.up1 (.inr (by omega)))
    clear hR47
    have hR47 := hnew
    clear hnew
    refine WP.storeO (ty := 24) (v := .slice a47 l23.length c39) hR46 (by omega) (i := x8.toNat) (by first | omega | (simp only [setI_length] at *; omega)) ha15 (by kernel_rfl) (x := l23) (by exact ⟨_, _, _, rfl, hR47⟩) (by kernel_rfl) ?_
    intro g63 st63 hO20
    replace hR1 := hR1.mono st63 (WL.no1 (by omega))
    replace hR2 := hR2.mono st63 (WL.no1 (by omega))
    replace hB3 := hB3.mono st63 (WL.no1 (by omega))
    replace hR48 := hR48.mono st63 (WL.no1 (by omega)) (WL.no1 (by omega))
    replace hB4 := hB4.mono st63 (WL.no1 (by omega))
    replace hB6 := hB6.mono st63 (WL.no1 (by omega))
    replace hR44 := hR44.mono st63 (WL.no1 (by omega)) (WL.no1 (by omega))
    replace hR47 := hR47.mono st63 (WL.no1 (by omega))
    replace tot := tot.trans (st63.up1 (.inr (by omega)))
    clear hR46
    have hR46 : OwnS (Kd.slice 5 (Kd.int .u8)) g63 (t + 9) 24 a46 (n12 + 1) c38 (setI (l11 ++ [([] : List Int)]) x8 l23) := hO20
    clear hO20
    refine WP.dn ?_
    refine NX.then_n ?_
    refine CP.region ?_
    refine WP.stl 3 ?_
    refine WP.dn ?_
    refine NX.block_n ?_
    refine NX.post ?_
    exact ⟨d15, a48, d15.length, c40, d14, (l10 ++ [(⟨[(IntKind.u8.wrap x8), 5, 0, 0, 0, 0, 0, 0], rfl⟩ : Arr Int 8)]), a44, (n11 + 1), c37, (setI (l11 ++ [([] : List Int)]) x8 l23), a46, (n12 + 1), c38, q9, (IntKind.i64.wrap (x7 + 1)), ⟨by kernel_rfl, by kernel_rfl⟩, tot, hR1, hR2, hB3, hR48, hB4, hB6, hR44, hR46, hs⟩
   replace hs := of_if_f hs h29
   refine CP.cut (fun tm g => ∃ (q22 : Bool), Fr 137 [(7, .slice a1 n1 c1), (8, .slice a2 n2 c2), (9, .int .i64 (IntKind.i64.wrap (2 + (IntKind.i64.wrap ((IntKind.u64.wrap x1).tmod 7))))), (10, .pointer (some ⟨b3, 0, none⟩)), (11, .pointer (some ⟨b5, 0, none⟩)), (12, .slice a44 (n11 + 1) c37), (13, .slice a46 (n12 + 1) c38), (14, .bool q9), (15, .int .i64 x7), (16, .int .i64 x8), (94, .bool q22)] tm ∧ Step (fun l => NoM l ∨ t ≤ l) g0 g ∧ RdS Kd.bool g 4 a1 n1 c1 l1 ∧ RdS Kd.bool g 4 a2 n2 c2 l2 ∧ Box g (t + 3) b3 90 [[.slice a16 n10 c14], [.map (some b4)]] [1, 1] ∧ OwnS k_S_notary_entry g (t + 10) 173 a16 n10 c14 l9 ∧ MapB g (t + 4) b4 kv_S_notary_entry (Value.int .i64) w2 ∧ Box g (t + 5) b5 23 [encA .u8 d3] [8] ∧ OwnS (Kd.arrI 8 .u8) g (t + 7) 23 a44 (n11 + 1) c37 (l10 ++ [(⟨[(IntKind.u8.wrap x8), 5, 0, 0, 0, 0, 0, 0], rfl⟩ : Arr Int 8)]) ∧ OwnS (Kd.slice 5 (Kd.int .u8)) g (t + 9) 24 a46 (n12 + 1) c38 (l11 ++ [([] : List Int)]) ∧ (F.baizelaw32_StateFull.c3 (F.baizelaw32_StateFull.l1 x1 l1 l2 d3 k1) l9 w2 l10 l11 q9 x7 x8 q22) = some o1) ?_ ?_
   ·refine CP.region ?_
    refine WP.stl 2 ?_
    refine WP.len (a := a2) (cp := c2) hR2.len (by kernel_rfl) ?_
    refine WP.stl 2 ?_
    refine WP.guard 88 (b := decide (x8 ≥ (l2.length : Int))) (by kernel_rfl) (fun h33 => ?_) (fun h33 => ?_)
    ·replace hs := of_if_t hs h33
     refine WP.stl 6 ?_
     refine WP.dn ?_
     refine NX.post ?_
     exact ⟨true, ⟨by kernel_rfl, by kernel_rfl⟩, tot, hR1, hR2, hB3, hR16, hB4, hB6, hR44, hR46, hs⟩
    replace hs := of_if_f hs h33
    refine WP.stl 2 ?_
    by_cases hc30 : (0 : Int) ≤ x8 ∧ x8 < (l2.length : Int)
    case neg => rw [if_neg hc30] at hs; cases hs
    replace hs := of_if_p hs hc30
    obtain ⟨b22, u17, ha17⟩ := hR2.at hc30
    refine WP.indexA (t := 36) (e := 4) (sz := 1) (cap := c2) (k := .i64) (i := x8) hR2.len ha17 (by kernel_rfl) (by kernel_rfl) hc30 ?_
    obtain ⟨cs13, hcR13, hcV13⟩ := hR2.src.view (getI_some hc30) ha17
    replace hcR13 := Kd.o_bool hcR13
    refine WP.loadV [[.bool (getI l2 x8)]] [1] hcV13 hcR13 rfl (f := 0) (ty := 4) (agg := false) (size := 1) (rs := [[.bool (getI l2 x8)]]) (v := .bool (getI l2 x8)) (by kernel_rfl) (by kernel_rfl) (by kernel_rfl) (by kernel_rfl) ?_
    refine WP.stl 2 ?_
    refine WP.dn ?_
    refine NX.post ?_
    exact ⟨(!(getI l2 x8)), ⟨by kernel_rfl, by kernel_rfl⟩, tot, hR1, hR2, hB3, hR16, hB4, hB6, hR44, hR46, hs⟩
   clear tot hs hR1 hR2 hB3 hR16 hB4 hB6 hR44 hR46
   rintro tm g ⟨q22, hF, tot, hR1, hR2, hB3, hR16, hB4, hB6, hR44, hR46, hs⟩
   clear ds
   obtain ⟨ds, rfl⟩ := hF.open
   clear hF
   unfold F.baizelaw32_StateFull.c3 at hs
   refine CP.cond (b := q22) (by kernel_rfl) (fun h32 => ?_) (fun h32 => ?_)
   ·replace hs := of_if_t hs h32
    refine CP.region ?_
    refine WP.stl 1 ?_
    refine WP.dn ?_
    refine NX.block_n ?_
    refine NX.post ?_
    exact ⟨l9, a16, n10, c14, w2, (l10 ++ [(⟨[(IntKind.u8.wrap x8), 5, 0, 0, 0, 0, 0, 0], rfl⟩ : Arr Int 8)]), a44, (n11 + 1), c37, (l11 ++ [([] : List Int)]), a46, (n12 + 1), c38, false, x7, ⟨by kernel_rfl, by kernel_rfl⟩, tot, hR1, hR2, hB3, hR16, hB4, hB6, hR44, hR46, hs⟩
   replace hs := of_if_f hs h32
   refine CP.skip ?_
   refine NX.block_n ?_
   refine NX.post ?_
   exact ⟨l9, a16, n10, c14, w2, (l10 ++ [(⟨[(IntKind.u8.wrap x8), 5, 0, 0, 0, 0, 0, 0], rfl⟩ : Arr Int 8)]), a44, (n11 + 1), c37, (l11 ++ [([] : List Int)]), a46, (n12 + 1), c38, q9, x7, ⟨by kernel_rfl, by kernel_rfl⟩, tot, hR1, hR2, hB3, hR16, hB4, hB6, hR44, hR46, hs⟩
  clear tot hs hR1 hR2 hB3 hR16 hB4 hB6 hR17 hR18
  rintro tm g ⟨l20, a40, n23, c34, w5, l21, a41, n24, c35, l22, a42, n25, c36, q20, x17, hF, tot, hR1, hR2, hB3, hR40, hB4, hB6, hR41, hR42, hs⟩
  clear ds
  obtain ⟨ds, rfl⟩ := hF.open
  clear hF
  unfold F.baizelaw32_StateFull.c1 at hs
  refine CP.region ?_
  refine WP.stl 3 ?_
  refine WP.dn ?_
  refine NX.post ?_
  exact ⟨l20, a40, n23, c34, w5, l21, a41, n24, c35, l22, a42, n25, c36, q20, x17, (IntKind.i64.wrap (x8 + 1)), ⟨by kernel_rfl, by kernel_rfl⟩, tot, hR1, hR2, hB3, hR40, hB4, hB6, hR41, hR42, hs⟩
 replace hs := of_if_f hs h22
 refine CP.exit ?_
 refine NX.then_e ?_
 refine NX.then_e ?_
 refine NX.block_s ?_
 refine NX.then_n ?_
 refine CP.seqR ?_
 refine WP.stl 2 ?_
 refine WP.len (a := a2) (cp := c2) hR2.len (by kernel_rfl) ?_
 refine WP.stl 1 ?_
 by_cases hc32 : (0 : Int) ≤ 0 ∧ 0 ≤ (imin (l2.length : Int) 12) ∧ (imin (l2.length : Int) 12) ≤ (l2.length : Int)
 case neg => rw [if_neg hc32] at hs; cases hs
 replace hs := of_if_p hs hc32
 refine WP.sliceR (lo := none) (hi := some (.int .i64 (imin (l2.length : Int) 12))) hR2 0 (imin (l2.length : Int) 12) (by kernel_rfl) (.inl ⟨rfl, rfl⟩) (.inr ⟨_, rfl⟩) hc32 ?_
 intro a49 c41 hR49
 refine WP.stl 1 ?_
 refine WP.dn ?_
 refine NX.then_n ?_
 refine CP.cut (fun tm g => ∃ (q26 : Bool), Fr 137 [(6, .bool q26)] tm ∧ Step (fun l => NoM l ∨ t ≤ l) g0 g ∧ (F.baizelaw32_StateFull.c4 q26) = some o1) ?_ ?_
 ·obtain ⟨g82, hw7, st82, hnew⟩ := hR18.freeze (by omega)
  refine CP.regw hw7 ?_
  replace hR49 := hR49.mono st82 (WL.no1 (by omega))
  replace hB3 := hB3.mono st82 (WL.no1 (by omega))
  replace hR16 := hR16.mono st82 (WL.no1 (by omega)) (WL.no1 (by omega))
  replace hB4 := hB4.mono st82 (WL.no1 (by omega))
  replace hB6 := hB6.mono st82 (WL.no1 (by omega))
  replace hR17 := hR17.mono st82 (WL.no1 (by omega)) (WL.no1 (by omega))
  replace tot := tot.trans (st82.up1 (.inr (by omega)))
  clear hR18
  have hR18 := hnew
  clear hnew
  replace hs := Option.bind_eq_some_iff.1 hs
  obtain ⟨q28, hk32, hs⟩ := hs
  refine bool_split (b := (q28 == q9)) (fun h42 => ?_) (fun h42 => ?_)
  ·replace hs := of_if_t hs h42
   replace hs := Option.bind_eq_some_iff.1 hs
   obtain ⟨x23, hk33, hs⟩ := hs
   refine bool_split (b := (x23 == x7)) (fun h43 => ?_) (fun h43 => ?_)
   ·replace hs := of_if_t hs h43
    by_cases hc36 : (0 : Int) ≤ 1 ∧ 1 ≤ (l11.length : Int) ∧ (l11.length : Int) ≤ (l11.length : Int)
    case neg => rw [if_neg hc36] at hs; cases hs
    replace hs := of_if_p hs hc36
    replace hs := Option.bind_eq_some_iff.1 hs
    obtain ⟨q29, hk34, hs⟩ := hs
    refine bool_split (b := (!q29)) (fun h44 => ?_) (fun h44 => ?_)
    ·replace hs := of_if_t hs h44
     replace hs := Option.bind_eq_some_iff.1 hs
     obtain ⟨x24, hk35, hs⟩ := hs
     refine CP.drawL (by kernel_rfl) [4, 6, 9, 13, 15, 19, 24, 26, 27, 30, 32, 34] N.baizelaw32_StateFull_1 [⟨none, [], [], fun l g => RdS Kd.bool g 4 a49 ((imin (l2.length : Int) 12).toNat - (0 : Int).toNat) c41 (sliceI l2 0 (imin (l2.length : Int) 12))⟩, ⟨none, [], [], fun l g => Box g (t + 3) b3 90 [[.slice a16 n10 c14], [.map (some b4)]] [1, 1]⟩, ⟨none, [0], [], fun l g => OwnS k_S_notary_entry g (t + 10) 173 a16 n10 c14 l9⟩, ⟨none, [], [], fun l g => MapB g (t + 4) b4 kv_S_notary_entry (Value.int .i64) w2⟩, ⟨none, [], [], fun l g => Box g (t + 5) b5 23 [encA .u8 d3] [8]⟩, ⟨none, [1], [], fun l g => OwnS (Kd.arrI 8 .u8) g (t + 7) 23 a17 n11 c15 l10⟩, ⟨none, [], [], fun l g => RdS (Kd.slice 5 (Kd.int .u8)) g 24 a18 n12 c16 l11⟩, ⟨some 0, [], [0], fun l g => l.getD 0 undef = AG [encA .u8 d3]⟩, ⟨some 1, [], [1], fun l g => l.getD 0 undef = .bool q28⟩, ⟨some 1, [0], [], fun l g => OwnS k_S_notary_entry g (t + 10) 173 a16 n10 c14 l9⟩, ⟨some 1, [1], [], fun l g => OwnS (Kd.arrI 8 .u8) g (t + 7) 23 a17 n11 c15 l10⟩, ⟨some 2, [], [2], fun l g => l.getD 0 undef = .bool true⟩, ⟨some 3, [], [3], fun l g => l.getD 0 undef = AG [encA .u8 d3]⟩, ⟨some 4, [], [4], fun l g => l.getD 0 undef = .int .i64 x23⟩, ⟨some 4, [0], [], fun l g => OwnS k_S_notary_entry g (t + 10) 173 a16 n10 c14 l9⟩, ⟨some 4, [1], [], fun l g => OwnS (Kd.arrI 8 .u8) g (t + 7) 23 a17 n11 c15 l10⟩, ⟨some 5, [], [5], fun l g => l.getD 0 undef = .bool true⟩, ⟨some 6, [], [6], fun l g => l.getD 0 undef = AG [encA .u8 d3]⟩, ⟨some 7, [], [7], fun l g => ∃ (a53 : Option Addr) (c45 : Nat), l.getD 0 undef = .slice a53 ((l11.length : Int).toNat - (1 : Int).toNat) c45 ∧ RdS (Kd.slice 5 (Kd.int .u8)) g 24 a53 ((l11.length : Int).toNat - (1 : Int).toNat) c45 (sliceI l11 1 (l11.length : Int))⟩, ⟨some 8, [], [8], fun l g => l.getD 0 undef = .bool q29⟩, ⟨some 8, [0], [], fun l g => OwnS k_S_notary_entry g (t + 10) 173 a16 n10 c14 l9⟩, ⟨some 8, [1], [], fun l g => OwnS (Kd.arrI 8 .u8) g (t + 7) 23 a17 n11 c15 l10⟩, ⟨some 9, [], [9], fun l g => l.getD 0 undef = .bool true⟩, ⟨some 10, [], [10], fun l g => l.getD 0 undef = AG [encA .u8 d3]⟩, ⟨some 11, [], [11], fun l g => l.getD 0 undef = .int .i64 x24⟩, ⟨some 11, [1], [], fun l g => OwnS (Kd.arrI 8 .u8) g (t + 7) 23 a17 n11 c15 l10⟩] [[], [0, 1], [], [], [0, 1], [], [], [], [0, 1], [], [], [1]] [(t + 10), (t + 7)] [0, 1, 2, 3, 5, 7] [8, 10, 11, 12, 14, 16, 17, 18, 20, 21, 22, 23, 25, 28, 29, 31, 33, 35, 36, 37] (by kernel_rfl) (by simp <;> omega) (by simp <;> omega) ⟨fun _ _ _ _ st h0 hl hj hR49 => (RdS.mono (e := 4) hR49 st h0), fun _ _ _ _ st h0 hl hj hB3 => (hB3.mono st (fun h => absurd (hl _ h) (by simp <;> omega))), fun _ _ _ _ st h0 hl hj hR16 => (hR16.mono st h0 (hj 0 (by simp) _ rfl)), fun _ _ _ _ st h0 hl hj hB4 => (hB4.mono st (fun h => absurd (hl _ h) (by simp <;> omega))), fun _ _ _ _ st h0 hl hj hB6 => (hB6.mono st (fun h => absurd (hl _ h) (by simp <;> omega))), fun _ _ _ _ st h0 hl hj hR17 => (hR17.mono st h0 (hj 1 (by simp) _ rfl)), fun _ _ _ _ st h0 hl hj hR18 => (RdS.mono (e := 24) hR18 st h0), fun _ _ _ _ st h0 hl hj e0 => e0, fun _ _ _ _ st h0 hl hj e1 => e1, fun _ _ _ _ st h0 hl hj hR16 => (hR16.mono st h0 (hj 0 (by simp) _ rfl)), fun _ _ _ _ st h0 hl hj hR17 => (hR17.mono st h0 (hj 1 (by simp) _ rfl)), fun _ _ _ _ st h0 hl hj e2 => e2, fun _ _ _ _ st h0 hl hj e3 => e3, fun _ _ _ _ st h0 hl hj e4 => e4, fun _ _ _ _ st h0 hl hj hR16 => (hR16.mono st h0 (hj 0 (by simp) _ rfl)), fun _ _ _ _ st h0 hl hj hR17 => (hR17.mono st h0 (hj 1 (by simp) _ rfl)), fun _ _ _ _ st h0 hl hj e5 => e5, fun _ _ _ _ st h0 hl hj e6 => e6, fun _ _ _ _ st h0 hl hj ⟨a53, c45, e7, hR53⟩ => ⟨a53, c45, e7, (RdS.mono (e := 24) hR53 st h0)⟩, fun _ _ _ _ st h0 hl hj e8 => e8, fun _ _ _ _ st h0 hl hj hR16 => (hR16.mono st h0 (hj 0 (by simp) _ rfl)), fun _ _ _ _ st h0 hl hj hR17 => (hR17.mono st h0 (hj 1 (by simp) _ rfl)), fun _ _ _ _ st h0 hl hj e9 => e9, fun _ _ _ _ st h0 hl hj e10 => e10, fun _ _ _ _ st h0 hl hj e11 => e11, fun _ _ _ _ st h0 hl hj hR17 => (hR17.mono st h0 (hj 1 (by simp) _ rfl)), tv⟩ ⟨hR49, hB3, hR16, hB4, hB6, hR17, hR18, tv, tv, tv, tv, tv, tv, tv, tv, tv, tv, tv, tv, tv, tv, tv, tv, tv, tv, tv, tv⟩ (by kernel_rfl) (fun vs => by kernel_rfl) ?_ ?_ ?_
     ·intro j hj
      have hq : j = 0 ∨ j = 1 ∨ j = 2 ∨ j = 3 ∨ j = 4 ∨ j = 5 ∨ j = 6 ∨ j = 7 ∨ j = 8 ∨ j = 9 ∨ j = 10 ∨ j = 11 ∨ j = 12 ∨ j = 13 ∨ j = 14 ∨ j = 15 ∨ j = 16 ∨ j = 17 ∨ j = 18 ∨ j = 19 := by have h : j < 20 := hj; omega
      rcases hq with rfl | rfl | rfl | rfl | rfl | rfl | rfl | rfl | rfl | rfl | rfl | rfl | rfl | rfl | rfl | rfl | rfl | rfl | rfl | rfl
      ·intro vs gq stq hl hf
       obtain ⟨v0, v1, v2, v3, v4, v5, v6, v7, v8, v9, v10, v11, rfl⟩ := len_k12 hl
       have e1 := (show v1 = .bool q28 from hf _ (memI 8 rfl) (by kernel_rfl))
       subst e1
       show Option.isSome _ = true
       kernel_rfl
      ·intro vs gq stq hl hf
       obtain ⟨v0, v1, v2, v3, v4, v5, v6, v7, v8, v9, v10, v11, rfl⟩ := len_k12 hl
       have e2 := (show v2 = .bool true from hf _ (memI 11 rfl) (by kernel_rfl))
       subst e2
       show Option.isSome _ = true
       kernel_rfl
      ·intro vs gq stq hl hf
       obtain ⟨v0, v1, v2, v3, v4, v5, v6, v7, v8, v9, v10, v11, rfl⟩ := len_k12 hl
       have e2 := (show v2 = .bool true from hf _ (memI 11 rfl) (by kernel_rfl))
       subst e2
       show Option.isSome _ = true
       kernel_rfl
      ·intro vs gq stq hl hf
       obtain ⟨v0, v1, v2, v3, v4, v5, v6, v7, v8, v9, v10, v11, rfl⟩ := len_k12 hl
       have e2 := (show v2 = .bool true from hf _ (memI 11 rfl) (by kernel_rfl))
       subst e2
       show Option.isSome _ = true
       kernel_rfl
      ·intro vs gq stq hl hf
       obtain ⟨v0, v1, v2, v3, v4, v5, v6, v7, v8, v9, v10, v11, rfl⟩ := len_k12 hl
       have e2 := (show v2 = .bool true from hf _ (memI 11 rfl) (by kernel_rfl))
       subst e2
       show Option.isSome _ = true
       kernel_rfl
      ·intro vs gq stq hl hf
       obtain ⟨v0, v1, v2, v3, v4, v5, v6, v7, v8, v9, v10, v11, rfl⟩ := len_k12 hl
       have e2 := (show v2 = .bool true from hf _ (memI 11 rfl) (by kernel_rfl))
       subst e2
       show Option.isSome _ = true
       kernel_rfl
      ·intro vs gq stq hl hf
       obtain ⟨v0, v1, v2, v3, v4, v5, v6, v7, v8, v9, v10, v11, rfl⟩ := len_k12 hl
       have e2 := (show v2 = .bool true from hf _ (memI 11 rfl) (by kernel_rfl))
       subst e2
       have e4 := (show v4 = .int .i64 x23 from hf _ (memI 13 rfl) (by kernel_rfl))
       subst e4
       show Option.isSome _ = true
       kernel_rfl
      ·intro vs gq stq hl hf
       obtain ⟨v0, v1, v2, v3, v4, v5, v6, v7, v8, v9, v10, v11, rfl⟩ := len_k12 hl
       have e2 := (show v2 = .bool true from hf _ (memI 11 rfl) (by kernel_rfl))
       subst e2
       have e4 := (show v4 = .int .i64 x23 from hf _ (memI 13 rfl) (by kernel_rfl))
       subst e4
       show Option.isSome _ = true
       kernel_rfl
      ·intro vs gq stq hl hf
       obtain ⟨v0, v1, v2, v3, v4, v5, v6, v7, v8, v9, v10, v11, rfl⟩ := len_k12 hl
       have e5 := (show v5 = .bool true from hf _ (memI 16 rfl) (by kernel_rfl))
       subst e5
       show Option.isSome _ = true
       kernel_rfl
      ·intro vs gq stq hl hf
       obtain ⟨v0, v1, v2, v3, v4, v5, v6, v7, v8, v9, v10, v11, rfl⟩ := len_k12 hl
       have e5 := (show v5 = .bool true from hf _ (memI 16 rfl) (by kernel_rfl))
       subst e5
       show Option.isSome _ = true
       kernel_rfl
      ·intro vs gq stq hl hf
       obtain ⟨v0, v1, v2, v3, v4, v5, v6, v7, v8, v9, v10, v11, rfl⟩ := len_k12 hl
       have e5 := (show v5 = .bool true from hf _ (memI 16 rfl) (by kernel_rfl))
       subst e5
       show Option.isSome _ = true
       kernel_rfl
      ·intro vs gq stq hl hf
       obtain ⟨v0, v1, v2, v3, v4, v5, v6, v7, v8, v9, v10, v11, rfl⟩ := len_k12 hl
       have e5 := (show v5 = .bool true from hf _ (memI 16 rfl) (by kernel_rfl))
       subst e5
       show Option.isSome _ = true
       kernel_rfl
      ·intro vs gq stq hl hf
       obtain ⟨v0, v1, v2, v3, v4, v5, v6, v7, v8, v9, v10, v11, rfl⟩ := len_k12 hl
       have e5 := (show v5 = .bool true from hf _ (memI 16 rfl) (by kernel_rfl))
       subst e5
       show Option.isSome _ = true
       kernel_rfl
      ·intro vs gq stq hl hf
       obtain ⟨v0, v1, v2, v3, v4, v5, v6, v7, v8, v9, v10, v11, rfl⟩ := len_k12 hl
       have e5 := (show v5 = .bool true from hf _ (memI 16 rfl) (by kernel_rfl))
       subst e5
       have e8 := (show v8 = .bool q29 from hf _ (memI 19 rfl) (by kernel_rfl))
       subst e8
       show Option.isSome _ = true
       kernel_rfl
      ·intro vs gq stq hl hf
       obtain ⟨v0, v1, v2, v3, v4, v5, v6, v7, v8, v9, v10, v11, rfl⟩ := len_k12 hl
       have e5 := (show v5 = .bool true from hf _ (memI 16 rfl) (by kernel_rfl))
       subst e5
       have e8 := (show v8 = .bool q29 from hf _ (memI 19 rfl) (by kernel_rfl))
       subst e8
       show Option.isSome _ = true
       kernel_rfl
      ·intro vs gq stq hl hf
       obtain ⟨v0, v1, v2, v3, v4, v5, v6, v7, v8, v9, v10, v11, rfl⟩ := len_k12 hl
       have e9 := (show v9 = .bool true from hf _ (memI 22 rfl) (by kernel_rfl))
       subst e9
       show Option.isSome _ = true
       kernel_rfl
      ·intro vs gq stq hl hf
       obtain ⟨v0, v1, v2, v3, v4, v5, v6, v7, v8, v9, v10, v11, rfl⟩ := len_k12 hl
       have e9 := (show v9 = .bool true from hf _ (memI 22 rfl) (by kernel_rfl))
       subst e9
       show Option.isSome _ = true
       kernel_rfl
      ·intro vs gq stq hl hf
       obtain ⟨v0, v1, v2, v3, v4, v5, v6, v7, v8, v9, v10, v11, rfl⟩ := len_k12 hl
       have e9 := (show v9 = .bool true from hf _ (memI 22 rfl) (by kernel_rfl))
       subst e9
       have e11 := (show v11 = .int .i64 x24 from hf _ (memI 24 rfl) (by kernel_rfl))
       subst e11
       show Option.isSome _ = true
       kernel_rfl
      ·intro vs gq stq hl hf
       obtain ⟨v0, v1, v2, v3, v4, v5, v6, v7, v8, v9, v10, v11, rfl⟩ := len_k12 hl
       have e9 := (show v9 = .bool true from hf _ (memI 22 rfl) (by kernel_rfl))
       subst e9
       have e11 := (show v11 = .int .i64 x24 from hf _ (memI 24 rfl) (by kernel_rfl))
       subst e11
       show Option.isSome _ = true
       kernel_rfl
      ·intro vs gq stq hl hf
       obtain ⟨v0, v1, v2, v3, v4, v5, v6, v7, v8, v9, v10, v11, rfl⟩ := len_k12 hl
       have e9 := (show v9 = .bool true from hf _ (memI 22 rfl) (by kernel_rfl))
       subst e9
       have e11 := (show v11 = .int .i64 x24 from hf _ (memI 24 rfl) (by kernel_rfl))
       subst e11
       show Option.isSome _ = true
       kernel_rfl
     ·intro j hj
      have hq : j = 0 ∨ j = 1 ∨ j = 2 ∨ j = 3 ∨ j = 4 ∨ j = 5 ∨ j = 6 ∨ j = 7 ∨ j = 8 ∨ j = 9 ∨ j = 10 ∨ j = 11 := by have h : j < 12 := hj; omega
      rcases hq with rfl | rfl | rfl | rfl | rfl | rfl | rfl | rfl | rfl | rfl | rfl | rfl
      ·intro vs gq stq hl hf
       obtain ⟨v0, v1, v2, v3, v4, v5, v6, v7, v8, v9, v10, v11, rfl⟩ := len_k12 hl
       have hB6 := (show Box gq (t + 5) b5 23 [encA .u8 d3] [8] from hf _ (memI 4 rfl) (by kernel_rfl))
       refine WP.loadB (v := AG [encA .u8 d3]) hB6 (by kernel_rfl) (by kernel_rfl) ?_
       refine WP.dn (Shown.ok (v := AG [encA .u8 d3]) (by kernel_rfl) (Step.refl _ _) ?_)
       exact ⟨tv, tv, tv, tv, tv, tv, tv, rfl, tv, tv, tv, tv, tv, tv, tv, tv, tv, tv, tv, tv, tv, tv, tv, tv, tv, tv, tv⟩
      ·intro vs gq stq hl hf
       obtain ⟨v0, v1, v2, v3, v4, v5, v6, v7, v8, v9, v10, v11, rfl⟩ := len_k12 hl
       have hR49 := (show RdS Kd.bool gq 4 a49 ((imin (l2.length : Int) 12).toNat - (0 : Int).toNat) c41 (sliceI l2 0 (imin (l2.length : Int) 12)) from hf _ (memI 0 rfl) (by kernel_rfl))
       have hB3 := (show Box gq (t + 3) b3 90 [[.slice a16 n10 c14], [.map (some b4)]] [1, 1] from hf _ (memI 1 rfl) (by kernel_rfl))
       have hR16 := (show OwnS k_S_notary_entry gq (t + 10) 173 a16 n10 c14 l9 from hf _ (memI 2 rfl) (by kernel_rfl))
       have hB4 := (show MapB gq (t + 4) b4 kv_S_notary_entry (Value.int .i64) w2 from hf _ (memI 3 rfl) (by kernel_rfl))
       have hR17 := (show OwnS (Kd.arrI 8 .u8) gq (t + 7) 23 a17 n11 c15 l10 from hf _ (memI 5 rfl) (by kernel_rfl))
       have hR18 := (show RdS (Kd.slice 5 (Kd.int .u8)) gq 24 a18 n12 c16 l11 from hf _ (memI 6 rfl) (by kernel_rfl))
       have e0 := (show v0 = AG [encA .u8 d3] from hf _ (memI 7 rfl) (by kernel_rfl))
       subst e0
       have hS18 : 0 ∉ ([(t + 10), (t + 7)] : List Nat) := by simp <;> omega
       have stl18 := GW.lend_step gq [(t + 10), (t + 7)]
       have hRl36 := hR16.lendTo hS18 (by simp)
       have hRl37 := hR17.lendTo hS18 (by simp)
       refine WP.regw (g' := GW.lend gq [(t + 10), (t + 7)]) rfl ?_
       have hcal32 := P.state_Full (GW.lend gq [(t + 10), (t + 7)]) (t + 3) (t + 4) l9 w2 l10 (sliceI l2 0 (imin (l2.length : Int) 12)) d3 l11 a16 n10 c14 a17 n11 c15 a49 ((imin (l2.length : Int) 12).toNat - (0 : Int).toNat) c41 a18 n12 c16 b3 b4 hRl36 hRl37 (hR49.mono stl18 (WL.no (by simp <;> omega))) (hR18.mono stl18 (WL.no (by simp <;> omega))) (hB4.mono stl18 (WL.no (by simp <;> omega))) (hB3.mono stl18 (WL.no (by simp <;> omega))) (by omega) (by omega) (by omega) q28 hk32
       refine WP.callC hcal32 (by kernel_rfl) ?_
       rintro _ g83 st83 rfl
       have st84 := (GW.back_step st83).lentS
       have hO40 := hR16.backTo hS18 (by simp) st83 (fun x => x)
       have hO41 := hR17.backTo hS18 (by simp) st83 (fun x => x)
       refine WP.regw (g' := GW.back gq g83 [(t + 10), (t + 7)]) rfl ?_
       generalize GW.back gq g83 [(t + 10), (t + 7)] = g84 at *
       refine WP.dn (Shown.o (v := .bool q28) st84 ?_)
       exact ⟨tv, tv, tv, tv, tv, tv, tv, tv, rfl, hO40, hO41, tv, tv, tv, tv, tv, tv, tv, tv, tv, tv, tv, tv, tv, tv, tv, tv⟩
      ·intro vs gq stq hl hf
       obtain ⟨v0, v1, v2, v3, v4, v5, v6, v7, v8, v9, v10, v11, rfl⟩ := len_k12 hl
       have e1 := (show v1 = .bool q28 from hf _ (memI 8 rfl) (by kernel_rfl))
       subst e1
       refine WP.stl 1 ?_
       refine WP.dn (Shown.ok (v := .bool (q28 == q9)) (by kernel_rfl) (Step.refl _ _) ?_)
       exact ⟨tv, tv, tv, tv, tv, tv, tv, tv, tv, tv, tv, congrArg Value.bool h42, tv, tv, tv, tv, tv, tv, tv, tv, tv, tv, tv, tv, tv, tv, tv⟩
      ·intro vs gq stq hl hf
       obtain ⟨v0, v1, v2, v3, v4, v5, v6, v7, v8, v9, v10, v11, rfl⟩ := len_k12 hl
       have hB6 := (show Box gq (t + 5) b5 23 [encA .u8 d3] [8] from hf _ (memI 4 rfl) (by kernel_rfl))
       have e2 := (show v2 = .bool true from hf _ (memI 11 rfl) (by kernel_rfl))
       subst e2
       refine WP.loadB (v := AG [encA .u8 d3]) hB6 (by kernel_rfl) (by kernel_rfl) ?_
       refine WP.dn (Shown.ok (v := AG [encA .u8 d3]) (by kernel_rfl) (Step.refl _ _) ?_)
       exact ⟨tv, tv, tv, tv, tv, tv, tv, tv, tv, tv, tv, tv, rfl, tv, tv, tv, tv, tv, tv, tv, tv, tv, tv, tv, tv, tv, tv⟩
      ·intro vs gq stq hl hf
       obtain ⟨v0, v1, v2, v3, v4, v5, v6, v7, v8, v9, v10, v11, rfl⟩ := len_k12 hl
       have hB3 := (show Box gq (t + 3) b3 90 [[.slice a16 n10 c14], [.map (some b4)]] [1, 1] from hf _ (memI 1 rfl) (by kernel_rfl))
       have hB4 := (show MapB gq (t + 4) b4 kv_S_notary_entry (Value.int .i64) w2 from hf _ (memI 3 rfl) (by kernel_rfl))
       have hR18 := (show RdS (Kd.slice 5 (Kd.int .u8)) gq 24 a18 n12 c16 l11 from hf _ (memI 6 rfl) (by kernel_rfl))
       have hR16 := (show OwnS k_S_notary_entry gq (t + 10) 173 a16 n10 c14 l9 from hf _ (memI 9 rfl) (by kernel_rfl))
       have hR17 := (show OwnS (Kd.arrI 8 .u8) gq (t + 7) 23 a17 n11 c15 l10 from hf _ (memI 10 rfl) (by kernel_rfl))
       have e2 := (show v2 = .bool true from hf _ (memI 11 rfl) (by kernel_rfl))
       subst e2
       have e3 := (show v3 = AG [encA .u8 d3] from hf _ (memI 12 rfl) (by kernel_rfl))
       subst e3
       have hS19 : 0 ∉ ([(t + 10), (t + 7)] : List Nat) := by simp <;> omega
       have stl19 := GW.lend_step gq [(t + 10), (t + 7)]
       have hRl38 := hR16.lendTo hS19 (by simp)
       have hRl39 := hR17.lendTo hS19 (by simp)
       refine WP.regw (g' := GW.lend gq [(t + 10), (t + 7)]) rfl ?_
       have hcal33 := P.state_Count (GW.lend gq [(t + 10), (t + 7)]) (t + 3) (t + 4) l9 w2 l10 d3 l11 a16 n10 c14 a17 n11 c15 a18 n12 c16 b3 b4 hRl38 hRl39 (hR18.mono stl19 (WL.no (by simp <;> omega))) (hB4.mono stl19 (WL.no (by simp <;> omega))) (hB3.mono stl19 (WL.no (by simp <;> omega))) (by omega) (by omega) (by omega) x23 hk33
       refine WP.callC hcal33 (by kernel_rfl) ?_
       rintro _ g85 st85 rfl
       have st86 := (GW.back_step st85).lentS
       have hO42 := hR16.backTo hS19 (by simp) st85 (fun x => x)
       have hO43 := hR17.backTo hS19 (by simp) st85 (fun x => x)
       refine WP.regw (g' := GW.back gq g85 [(t + 10), (t + 7)]) rfl ?_
       generalize GW.back gq g85 [(t + 10), (t + 7)] = g86 at *
       refine WP.dn (Shown.o (v := .int .i64 x23) st86 ?_)
       exact ⟨tv, tv, tv, tv, tv, tv, tv, tv, tv, tv, tv, tv, tv, rfl, hO42, hO43, tv, tv, tv, tv, tv, tv, tv, tv, tv, tv, tv⟩
      ·intro vs gq stq hl hf
       obtain ⟨v0, v1, v2, v3, v4, v5, v6, v7, v8, v9, v10, v11, rfl⟩ := len_k12 hl
       have e2 := (show v2 = .bool true from hf _ (memI 11 rfl) (by kernel_rfl))
       subst e2
       have e4 := (show v4 = .int .i64 x23 from hf _ (memI 13 rfl) (by kernel_rfl))
       subst e4
       refine WP.stl 1 ?_
       refine WP.dn (Shown.ok (v := .bool (x23 == x7)) (by kernel_rfl) (Step.refl _ _) ?_)
       exact ⟨tv, tv, tv, tv, tv, tv, tv, tv, tv, tv, tv, tv, tv, tv, tv, tv, congrArg Value.bool h43, tv, tv, tv, tv, tv, tv, tv, tv, tv, tv⟩
      ·intro vs gq stq hl hf
       obtain ⟨v0, v1, v2, v3, v4, v5, v6, v7, v8, v9, v10, v11, rfl⟩ := len_k12 hl
       have hB6 := (show Box gq (t + 5) b5 23 [encA .u8 d3] [8] from hf _ (memI 4 rfl) (by kernel_rfl))
       have e5 := (show v5 = .bool true from hf _ (memI 16 rfl) (by kernel_rfl))
       subst e5
       refine WP.loadB (v := AG [encA .u8 d3]) hB6 (by kernel_rfl) (by kernel_rfl) ?_
       refine WP.dn (Shown.ok (v := AG [encA .u8 d3]) (by kernel_rfl) (Step.refl _ _) ?_)
       exact ⟨tv, tv, tv, tv, tv, tv, tv, tv, tv, tv, tv, tv, tv, tv, tv, tv, tv, rfl, tv, tv, tv, tv, tv, tv, tv, tv, tv⟩
      ·intro vs gq stq hl hf
       obtain ⟨v0, v1, v2, v3, v4, v5, v6, v7, v8, v9, v10, v11, rfl⟩ := len_k12 hl
       have hR18 := (show RdS (Kd.slice 5 (Kd.int .u8)) gq 24 a18 n12 c16 l11 from hf _ (memI 6 rfl) (by kernel_rfl))
       have e5 := (show v5 = .bool true from hf _ (memI 16 rfl) (by kernel_rfl))
       subst e5
       refine WP.sliceR (lo := some (.int .i64 1)) (hi := none) hR18 1 (l11.length : Int) (by kernel_rfl) (.inr ⟨_, rfl⟩) (.inl ⟨rfl, rfl⟩) hc36 ?_
       intro a53 c45 hR53
       refine WP.dn (Shown.ok (v := .slice a53 ((l11.length : Int).toNat - (1 : Int).toNat) c45) (by kernel_rfl) (Step.refl _ _) ?_)
       exact ⟨tv, tv, tv, tv, tv, tv, tv, tv, tv, tv, tv, tv, tv, tv, tv, tv, tv, tv, ⟨a53, c45, rfl, hR53⟩, tv, tv, tv, tv, tv, tv, tv, tv⟩
      ·intro vs gq stq hl hf
       obtain ⟨v0, v1, v2, v3, v4, v5, v6, v7, v8, v9, v10, v11, rfl⟩ := len_k12 hl
       have hR49 := (show RdS Kd.bool gq 4 a49 ((imin (l2.length : Int) 12).toNat - (0 : Int).toNat) c41 (sliceI l2 0 (imin (l2.length : Int) 12)) from hf _ (memI 0 rfl) (by kernel_rfl))
       have hB3 := (show Box gq (t + 3) b3 90 [[.slice a16 n10 c14], [.map (some b4)]] [1, 1] from hf _ (memI 1 rfl) (by kernel_rfl))
       have hB4 := (show MapB gq (t + 4) b4 kv_S_notary_entry (Value.int .i64) w2 from hf _ (memI 3 rfl) (by kernel_rfl))
       have hR16 := (show OwnS k_S_notary_entry gq (t + 10) 173 a16 n10 c14 l9 from hf _ (memI 14 rfl) (by kernel_rfl))
       have hR17 := (show OwnS (Kd.arrI 8 .u8) gq (t + 7) 23 a17 n11 c15 l10 from hf _ (memI 15 rfl) (by kernel_rfl))
       have e5 := (show v5 = .bool true from hf _ (memI 16 rfl) (by kernel_rfl))
       subst e5
       have e6 := (show v6 = AG [encA .u8 d3] from hf _ (memI 17 rfl) (by kernel_rfl))
       subst e6
       obtain ⟨a53, c45, e7, hR53⟩ := (show ∃ (a53 : Option Addr) (c45 : Nat), v7 = .slice a53 ((l11.length : Int).toNat - (1 : Int).toNat) c45 ∧ RdS (Kd.slice 5 (Kd.int .u8)) gq 24 a53 ((l11.length : Int).toNat - (1 : Int).toNat) c45 (sliceI l11 1 (l11.length : Int)) from hf _ (memI 18 rfl) (by kernel_rfl))
       subst e7
       have hS20 : 0 ∉ ([(t + 10), (t + 7)] : List Nat) := by simp <;> omega
       have stl20 := GW.lend_step gq [(t + 10), (t + 7)]
       have hRl40 := hR16.lendTo hS20 (by simp)
       have hRl41 := hR17.lendTo hS20 (by simp)
       refine WP.regw (g' := GW.lend gq [(t + 10), (t + 7)]) rfl ?_
       have hcal34 := P.state_Full (GW.lend gq [(t + 10), (t + 7)]) (t + 3) (t + 4) l9 w2 l10 (sliceI l2 0 (imin (l2.length : Int) 12)) d3 (sliceI l11 1 (l11.length : Int)) a16 n10 c14 a17 n11 c15 a49 ((imin (l2.length : Int) 12).toNat - (0 : Int).toNat) c41 a53 ((l11.length : Int).toNat - (1 : Int).toNat) c45 b3 b4 hRl40 hRl41 (hR49.mono stl20 (WL.no (by simp <;> omega))) (hR53.mono stl20 (WL.no (by simp <;> omega))) (hB4.mono stl20 (WL.no (by simp <;> omega))) (hB3.mono stl20 (WL.no (by simp <;> omega))) (by omega) (by omega) (by omega) q29 hk34
       refine WP.callC hcal34 (by kernel_rfl) ?_
       rintro _ g87 st87 rfl
       have st88 := (GW.back_step st87).lentS
       have hO44 := hR16.backTo hS20 (by simp) st87 (fun x => x)
       have hO45 := hR17.backTo hS20 (by simp) st87 (fun x => x)
       refine WP.regw (g' := GW.back gq g87 [(t + 10), (t + 7)]) rfl ?_
       generalize GW.back gq g87 [(t + 10), (t + 7)] = g88 at *
       refine WP.dn (Shown.o (v := .bool q29) st88 ?_)
       exact ⟨tv, tv, tv, tv, tv, tv, tv, tv, tv, tv, tv, tv, tv, tv, tv, tv, tv, tv, tv, rfl, hO44, hO45, tv, tv, tv, tv, tv⟩
      ·intro vs gq stq hl hf
       obtain ⟨v0, v1, v2, v3, v4, v5, v6, v7, v8, v9, v10, v11, rfl⟩ := len_k12 hl
       have e5 := (show v5 = .bool true from hf _ (memI 16 rfl) (by kernel_rfl))
       subst e5
       have e8 := (show v8 = .bool q29 from hf _ (memI 19 rfl) (by kernel_rfl))
       subst e8
       refine WP.stl 1 ?_
       refine WP.dn (Shown.ok (v := .bool (!q29)) (by kernel_rfl) (Step.refl _ _) ?_)
       exact ⟨tv, tv, tv, tv, tv, tv, tv, tv, tv, tv, tv, tv, tv, tv, tv, tv, tv, tv, tv, tv, tv, tv, congrArg Value.bool h44, tv, tv, tv, tv⟩
      ·intro vs gq stq hl hf
       obtain ⟨v0, v1, v2, v3, v4, v5, v6, v7, v8, v9, v10, v11, rfl⟩ := len_k12 hl
       have hB6 := (show Box gq (t + 5) b5 23 [encA .u8 d3] [8] from hf _ (memI 4 rfl) (by kernel_rfl))
       have e9 := (show v9 = .bool true from hf _ (memI 22 rfl) (by kernel_rfl))
       subst e9
       refine WP.loadB (v := AG [encA .u8 d3]) hB6 (by kernel_rfl) (by kernel_rfl) ?_
       refine WP.dn (Shown.ok (v := AG [encA .u8 d3]) (by kernel_rfl) (Step.refl _ _) ?_)
       exact ⟨tv, tv, tv, tv, tv, tv, tv, tv, tv, tv, tv, tv, tv, tv, tv, tv, tv, tv, tv, tv, tv, tv, tv, rfl, tv, tv, tv⟩
      ·intro vs gq stq hl hf
       obtain ⟨v0, v1, v2, v3, v4, v5, v6, v7, v8, v9, v10, v11, rfl⟩ := len_k12 hl
       have hR18 := (show RdS (Kd.slice 5 (Kd.int .u8)) gq 24 a18 n12 c16 l11 from hf _ (memI 6 rfl) (by kernel_rfl))
       have hR17 := (show OwnS (Kd.arrI 8 .u8) gq (t + 7) 23 a17 n11 c15 l10 from hf _ (memI 21 rfl) (by kernel_rfl))
       have e9 := (show v9 = .bool true from hf _ (memI 22 rfl) (by kernel_rfl))
       subst e9
       have e10 := (show v10 = AG [encA .u8 d3] from hf _ (memI 23 rfl) (by kernel_rfl))
       subst e10
       have hS21 : 0 ∉ ([(t + 7)] : List Nat) := by simp <;> omega
       have stl21 := GW.lend_step gq [(t + 7)]
       have hRl42 := hR17.lendTo hS21 (by simp)
       refine WP.regw (g' := GW.lend gq [(t + 7)]) rfl ?_
       have hcal35 := P.state_Count_2 (GW.lend gq [(t + 7)]) l10 d3 l11 a17 n11 c15 a18 n12 c16 hRl42 (hR18.mono stl21 (WL.no (by simp <;> omega))) x24 hk35
       refine WP.callC hcal35 (by kernel_rfl) ?_
       rintro _ g89 st89 rfl
       have st90 := (GW.back_step st89).lentS
       have hO46 := hR17.backTo hS21 (by simp) st89 (fun x => x)
       refine WP.regw (g' := GW.back gq g89 [(t + 7)]) rfl ?_
       generalize GW.back gq g89 [(t + 7)] = g90 at *
       refine WP.dn (Shown.o (v := .int .i64 x24) st90 ?_)
       exact ⟨tv, tv, tv, tv, tv, tv, tv, tv, tv, tv, tv, tv, tv, tv, tv, tv, tv, tv, tv, tv, tv, tv, tv, tv, rfl, hO46, tv⟩
     intro vs g91 st91 hl hf
     obtain ⟨v0, v1, v2, v3, v4, v5, v6, v7, v8, v9, v10, v11, rfl⟩ := len_k12 hl
     have e9 := (show v9 = .bool true from hf _ (memI 22 rfl) (by kernel_rfl))
     subst e9
     have e11 := (show v11 = .int .i64 x24 from hf _ (memI 24 rfl) (by kernel_rfl))
     subst e11
     replace tot := tot.trans (st91.up2 (.inr (by omega)) (.inr (by omega)))
     refine NX.post ?_
     exact ⟨(x24 == 0), ⟨by kernel_rfl, by kernel_rfl⟩, tot, hs⟩
    replace hs := of_if_f hs h44
    refine CP.drawL (by kernel_rfl) [4, 6, 9, 13, 15, 19, 24, 26, 27, 30] N.baizelaw32_StateFull_1 [⟨none, [], [], fun l g => RdS Kd.bool g 4 a49 ((imin (l2.length : Int) 12).toNat - (0 : Int).toNat) c41 (sliceI l2 0 (imin (l2.length : Int) 12))⟩, ⟨none, [], [], fun l g => Box g (t + 3) b3 90 [[.slice a16 n10 c14], [.map (some b4)]] [1, 1]⟩, ⟨none, [0], [], fun l g => OwnS k_S_notary_entry g (t + 10) 173 a16 n10 c14 l9⟩, ⟨none, [], [], fun l g => MapB g (t + 4) b4 kv_S_notary_entry (Value.int .i64) w2⟩, ⟨none, [], [], fun l g => Box g (t + 5) b5 23 [encA .u8 d3] [8]⟩, ⟨none, [1], [], fun l g => OwnS (Kd.arrI 8 .u8) g (t + 7) 23 a17 n11 c15 l10⟩, ⟨none, [], [], fun l g => RdS (Kd.slice 5 (Kd.int .u8)) g 24 a18 n12 c16 l11⟩, ⟨some 0, [], [0], fun l g => l.getD 0 undef = AG [encA .u8 d3]⟩, ⟨some 1, [], [1], fun l g => l.getD 0 undef = .bool q28⟩, ⟨some 1, [0], [], fun l g => OwnS k_S_notary_entry g (t + 10) 173 a16 n10 c14 l9⟩, ⟨some 1, [1], [], fun l g => OwnS (Kd.arrI 8 .u8) g (t + 7) 23 a17 n11 c15 l10⟩, ⟨some 2, [], [2], fun l g => l.getD 0 undef = .bool true⟩, ⟨some 3, [], [3], fun l g => l.getD 0 undef = AG [encA .u8 d3]⟩, ⟨some 4, [], [4], fun l g => l.getD 0 undef = .int .i64 x23⟩, ⟨some 4, [0], [], fun l g => OwnS k_S_notary_entry g (t + 10) 173 a16 n10 c14 l9⟩, ⟨some 4, [1], [], fun l g => OwnS (Kd.arrI 8 .u8) g (t + 7) 23 a17 n11 c15 l10⟩, ⟨some 5, [], [5], fun l g => l.getD 0 undef = .bool true⟩, ⟨some 6, [], [6], fun l g => l.getD 0 undef = AG [encA .u8 d3]⟩, ⟨some 7, [], [7], fun l g => ∃ (a53 : Option Addr) (c45 : Nat), l.getD 0 undef = .slice a53 ((l11.length : Int).toNat - (1 : Int).toNat) c45 ∧ RdS (Kd.slice 5 (Kd.int .u8)) g 24 a53 ((l11.length : Int).toNat - (1 : Int).toNat) c45 (sliceI l11 1 (l11.length : Int))⟩, ⟨some 8, [], [8], fun l g => l.getD 0 undef = .bool q29⟩, ⟨some 8, [0], [], fun l g => OwnS k_S_notary_entry g (t + 10) 173 a16 n10 c14 l9⟩, ⟨some 8, [1], [], fun l g => OwnS (Kd.arrI 8 .u8) g (t + 7) 23 a17 n11 c15 l10⟩, ⟨some 9, [], [9], fun l g => l.getD 0 undef = .bool false⟩] [[], [0, 1], [], [], [0, 1], [], [], [], [0, 1], []] [(t + 10), (t + 7)] [0, 1, 2, 3, 5, 7] [8, 10, 11, 12, 14, 16, 17, 18, 20, 21, 22, 23, 25, 28, 29, 31, 32, 33, 34, 35, 36, 37] (by kernel_rfl) (by simp <;> omega) (by simp <;> omega) ⟨fun _ _ _ _ st h0 hl hj hR49 => (RdS.mono (e := 4) hR49 st h0), fun _ _ _ _ st h0 hl hj hB3 => (hB3.mono st (fun h => absurd (hl _ h) (by simp <;> omega))), fun _ _ _ _ st h0 hl hj hR16 => (hR16.mono st h0 (hj 0 (by simp) _ rfl)), fun _ _ _ _ st h0 hl hj hB4 => (hB4.mono st (fun h => absurd (hl _ h) (by simp <;> omega))), fun _ _ _ _ st h0 hl hj hB6 => (hB6.mono st (fun h => absurd (hl _ h) (by simp <;> omega))), fun _ _ _ _ st h0 hl hj hR17 => (hR17.mono st h0 (hj 1 (by simp) _ rfl)), fun _ _ _ _ st h0 hl hj hR18 => (RdS.mono (e := 24) hR18 st h0), fun _ _ _ _ st h0 hl hj e0 => e0, fun _ _ _ _ st h0 hl hj e1 => e1, fun _ _ _ _ st h0 hl hj hR16 => (hR16.mono st h0 (hj 0 (by simp) _ rfl)), fun _ _ _ _ st h0 hl hj hR17 => (hR17.mono st h0 (hj 1 (by simp) _ rfl)), fun _ _ _ _ st h0 hl hj e2 => e2, fun _ _ _ _ st h0 hl hj e3 => e3, fun _ _ _ _ st h0 hl hj e4 => e4, fun _ _ _ _ st h0 hl hj hR16 => (hR16.mono st h0 (hj 0 (by simp) _ rfl)), fun _ _ _ _ st h0 hl hj hR17 => (hR17.mono st h0 (hj 1 (by simp) _ rfl)), fun _ _ _ _ st h0 hl hj e5 => e5, fun _ _ _ _ st h0 hl hj e6 => e6, fun _ _ _ _ st h0 hl hj ⟨a53, c45, e7, hR53⟩ => ⟨a53, c45, e7, (RdS.mono (e := 24) hR53 st h0)⟩, fun _ _ _ _ st h0 hl hj e8 => e8, fun _ _ _ _ st h0 hl hj hR16 => (hR16.mono st h0 (hj 0 (by simp) _ rfl)), fun _ _ _ _ st h0 hl hj hR17 => (hR17.mono st h0 (hj 1 (by simp) _ rfl)), fun _ _ _ _ st h0 hl hj e9 => e9, tv⟩ ⟨hR49, hB3, hR16, hB4, hB6, hR17, hR18, tv, tv, tv, tv, tv, tv, tv, tv, tv, tv, tv, tv, tv, tv, tv, tv, tv⟩ (by kernel_rfl) (fun vs => by kernel_rfl) ?_ ?_ ?_
    ·intro j hj
     have hq : j = 0 ∨ j = 1 ∨ j = 2 ∨ j = 3 ∨ j = 4 ∨ j = 5 ∨ j = 6 ∨ j = 7 ∨ j = 8 ∨ j = 9 ∨ j = 10 ∨ j = 11 ∨ j = 12 ∨ j = 13 ∨ j = 14 ∨ j = 15 ∨ j = 16 ∨ j = 17 ∨ j = 18 ∨ j = 19 ∨ j = 20 ∨ j = 21 := by have h : j < 22 := hj; omega
     rcases hq with rfl | rfl | rfl | rfl | rfl | rfl | rfl | rfl | rfl | rfl | rfl | rfl | rfl | rfl | rfl | rfl | rfl | rfl | rfl | rfl | rfl | rfl
     ·intro vs gq stq hl hf
      obtain ⟨v0, v1, v2, v3, v4, v5, v6, v7, v8, v9, rfl⟩ := len_k10 hl
      have e1 := (show v1 = .bool q28 from hf _ (memI 8 rfl) (by kernel_rfl))
      subst e1
      show Option.isSome _ = true
      kernel_rfl
     ·intro vs gq stq hl hf
      obtain ⟨v0, v1, v2, v3, v4, v5, v6, v7, v8, v9, rfl⟩ := len_k10 hl
      have e2 := (show v2 = .bool true from hf _ (memI 11 rfl) (by kernel_rfl))
      subst e2
      show Option.isSome _ = true
      kernel_rfl
     ·intro vs gq stq hl hf
      obtain ⟨v0, v1, v2, v3, v4, v5, v6, v7, v8, v9, rfl⟩ := len_k10 hl
      have e2 := (show v2 = .bool true from hf _ (memI 11 rfl) (by kernel_rfl))
      subst e2
      show Option.isSome _ = true
      kernel_rfl
     ·intro vs gq stq hl hf
      obtain ⟨v0, v1, v2, v3, v4, v5, v6, v7, v8, v9, rfl⟩ := len_k10 hl
      have e2 := (show v2 = .bool true from hf _ (memI 11 rfl) (by kernel_rfl))
      subst e2
      show Option.isSome _ = true
      kernel_rfl
     ·intro vs gq stq hl hf
      obtain ⟨v0, v1, v2, v3, v4, v5, v6, v7, v8, v9, rfl⟩ := len_k10 hl
      have e2 := (show v2 = .bool true from hf _ (memI 11 rfl) (by kernel_rfl))
      subst e2
      show Option.isSome _ = true
      kernel_rfl
     ·intro vs gq stq hl hf
      obtain ⟨v0, v1, v2, v3, v4, v5, v6, v7, v8, v9, rfl⟩ := len_k10 hl
      have e2 := (show v2 = .bool true from hf _ (memI 11 rfl) (by kernel_rfl))
      subst e2
      show Option.isSome _ = true
      kernel_rfl
     ·intro vs gq stq hl hf
      obtain ⟨v0, v1, v2, v3, v4, v5, v6, v7, v8, v9, rfl⟩ := len_k10 hl
      have e2 := (show v2 = .bool true from hf _ (memI 11 rfl) (by kernel_rfl))
      subst e2
      have e4 := (show v4 = .int .i64 x23 from hf _ (memI 13 rfl) (by kernel_rfl))
      subst e4
      show Option.isSome _ = true
      kernel_rfl
     ·intro vs gq stq hl hf
      obtain ⟨v0, v1, v2, v3, v4, v5, v6, v7, v8, v9, rfl⟩ := len_k10 hl
      have e2 := (show v2 = .bool true from hf _ (memI 11 rfl) (by kernel_rfl))
      subst e2
      have e4 := (show v4 = .int .i64 x23 from hf _ (memI 13 rfl) (by kernel_rfl))
      subst e4
      show Option.isSome _ = true
      kernel_rfl
     ·intro vs gq stq hl hf
      obtain ⟨v0, v1, v2, v3, v4, v5, v6, v7, v8, v9, rfl⟩ := len_k10 hl
      have e5 := (show v5 = .bool true from hf _ (memI 16 rfl) (by kernel_rfl))
      subst e5
      show Option.isSome _ = true
      kernel_rfl
     ·intro vs gq stq hl hf
      obtain ⟨v0, v1, v2, v3, v4, v5, v6, v7, v8, v9, rfl⟩ := len_k10 hl
      have e5 := (show v5 = .bool true from hf _ (memI 16 rfl) (by kernel_rfl))
      subst e5
      show Option.isSome _ = true
      kernel_rfl
     ·intro vs gq stq hl hf
      obtain ⟨v0, v1, v2, v3, v4, v5, v6, v7, v8, v9, rfl⟩ := len_k10 hl
      have e5 := (show v5 = .bool true from hf _ (memI 16 rfl) (by kernel_rfl))
      subst e5
      show Option.isSome _ = true
      kernel_rfl
     ·intro vs gq stq hl hf
      obtain ⟨v0, v1, v2, v3, v4, v5, v6, v7, v8, v9, rfl⟩ := len_k10 hl
      have e5 := (show v5 = .bool true from hf _ (memI 16 rfl) (by kernel_rfl))
      subst e5
      show Option.isSome _ = true
      kernel_rfl
     ·intro vs gq stq hl hf
      obtain ⟨v0, v1, v2, v3, v4, v5, v6, v7, v8, v9, rfl⟩ := len_k10 hl
      have e5 := (show v5 = .bool true from hf _ (memI 16 rfl) (by kernel_rfl))
      subst e5
      show Option.isSome _ = true
      kernel_rfl
     ·intro vs gq stq hl hf
      obtain ⟨v0, v1, v2, v3, v4, v5, v6, v7, v8, v9, rfl⟩ := len_k10 hl
      have e5 := (show v5 = .bool true from hf _ (memI 16 rfl) (by kernel_rfl))
      subst e5
      have e8 := (show v8 = .bool q29 from hf _ (memI 19 rfl) (by kernel_rfl))
      subst e8
      show Option.isSome _ = true
      kernel_rfl
     ·intro vs gq stq hl hf
      obtain ⟨v0, v1, v2, v3, v4, v5, v6, v7, v8, v9, rfl⟩ := len_k10 hl
      have e5 := (show v5 = .bool true from hf _ (memI 16 rfl) (by kernel_rfl))
      subst e5
      have e8 := (show v8 = .bool q29 from hf _ (memI 19 rfl) (by kernel_rfl))
      subst e8
      show Option.isSome _ = true
      kernel_rfl
     ·intro vs gq stq hl hf
      obtain ⟨v0, v1, v2, v3, v4, v5, v6, v7, v8, v9, rfl⟩ := len_k10 hl
      have e9 := (show v9 = .bool false from hf _ (memI 22 rfl) (by kernel_rfl))
      subst e9
      show Option.isSome _ = true
      kernel_rfl
     ·intro vs gq stq hl hf
      obtain ⟨v0, v1, v2, v3, v4, v5, v6, v7, v8, v9, rfl⟩ := len_k10 hl
      have e9 := (show v9 = .bool false from hf _ (memI 22 rfl) (by kernel_rfl))
      subst e9
      show Option.isSome _ = true
      kernel_rfl
     ·intro vs gq stq hl hf
      obtain ⟨v0, v1, v2, v3, v4, v5, v6, v7, v8, v9, rfl⟩ := len_k10 hl
      have e9 := (show v9 = .bool false from hf _ (memI 22 rfl) (by kernel_rfl))
      subst e9
      show Option.isSome _ = true
      kernel_rfl
     ·intro vs gq stq hl hf
      obtain ⟨v0, v1, v2, v3, v4, v5, v6, v7, v8, v9, rfl⟩ := len_k10 hl
      have e9 := (show v9 = .bool false from hf _ (memI 22 rfl) (by kernel_rfl))
      subst e9
      show Option.isSome _ = true
      kernel_rfl
     ·intro vs gq stq hl hf
      obtain ⟨v0, v1, v2, v3, v4, v5, v6, v7, v8, v9, rfl⟩ := len_k10 hl
      have e9 := (show v9 = .bool false from hf _ (memI 22 rfl) (by kernel_rfl))
      subst e9
      show Option.isSome _ = true
      kernel_rfl
     ·intro vs gq stq hl hf
      obtain ⟨v0, v1, v2, v3, v4, v5, v6, v7, v8, v9, rfl⟩ := len_k10 hl
      have e9 := (show v9 = .bool false from hf _ (memI 22 rfl) (by kernel_rfl))
      subst e9
      show Option.isSome _ = true
      kernel_rfl
     ·intro vs gq stq hl hf
      obtain ⟨v0, v1, v2, v3, v4, v5, v6, v7, v8, v9, rfl⟩ := len_k10 hl
      have e9 := (show v9 = .bool false from hf _ (memI 22 rfl) (by kernel_rfl))
      subst e9
      show Option.isSome _ = true
      kernel_rfl
    ·intro j hj
     have hq : j = 0 ∨ j = 1 ∨ j = 2 ∨ j = 3 ∨ j = 4 ∨ j = 5 ∨ j = 6 ∨ j = 7 ∨ j = 8 ∨ j = 9 := by have h : j < 10 := hj; omega
     rcases hq with rfl | rfl | rfl | rfl | rfl | rfl | rfl | rfl | rfl | rfl
     ·intro vs gq stq hl hf
      obtain ⟨v0, v1, v2, v3, v4, v5, v6, v7, v8, v9, rfl⟩ := len_k10 hl
      have hB6 := (show Box gq (t + 5) b5 23 [encA .u8 d3] [8] from hf _ (memI 4 rfl) (by kernel_rfl))
      refine WP.loadB (v := AG [encA .u8 d3]) hB6 (by kernel_rfl) (by kernel_rfl) ?_
      refine WP.dn (Shown.ok (v := AG [encA .u8 d3]) (by kernel_rfl) (Step.refl _ _) ?_)
      exact ⟨tv, tv, tv, tv, tv, tv, tv, rfl, tv, tv, tv, tv, tv, tv, tv, tv, tv, tv, tv, tv, tv, tv, tv, tv⟩
     ·intro vs gq stq hl hf
      obtain ⟨v0, v1, v2, v3, v4, v5, v6, v7, v8, v9, rfl⟩ := len_k10 hl
      have hR49 := (show RdS Kd.bool gq 4 a49 ((imin (l2.length : Int) 12).toNat - (0 : Int).toNat) c41 (sliceI l2 0 (imin (l2.length : Int) 12)) from hf _ (memI 0 rfl) (by kernel_rfl))
      have hB3 := (show Box gq (t + 3) b3 90 [[.slice a16 n10 c14], [.map (some b4)]] [1, 1] from hf _ (memI 1 rfl) (by kernel_rfl))
      have hR16 := (show OwnS k_S_notary_entry gq (t + 10) 173 a16 n10 c14 l9 from hf _ (memI 2 rfl) (by kernel_rfl))
      have hB4 := (show MapB gq (t + 4) b4 kv_S_notary_entry (Value.int .i64) w2 from hf _ (memI 3 rfl) (by kernel_rfl))
      have hR17 := (show OwnS (Kd.arrI 8 .u8) gq (t + 7) 23 a17 n11 c15 l10 from hf _ (memI 5 rfl) (by kernel_rfl))
      have hR18 := (show RdS (Kd.slice 5 (Kd.int .u8)) gq 24 a18 n12 c16 l11 from hf _ (memI 6 rfl) (by kernel_rfl))
      have e0 := (show v0 = AG [encA .u8 d3] from hf _ (memI 7 rfl) (by kernel_rfl))
      subst e0
      have hS18 : 0 ∉ ([(t + 10), (t + 7)] : List Nat) := by simp <;> omega
      have stl18 := GW.lend_step gq [(t + 10), (t + 7)]
      have hRl36 := hR16.lendTo hS18 (by simp)
      have hRl37 := hR17.lendTo hS18 (by simp)
      refine WP.regw (g' := GW.lend gq [(t + 10), (t + 7)]) rfl ?_
      have hcal32 := P.state_Full (GW.lend gq [(t + 10), (t + 7)]) (t + 3) (t + 4) l9 w2 l10 (sliceI l2 0 (imin (l2.length : Int) 12)) d3 l11 a16 n10 c14 a17 n11 c15 a49 ((imin (l2.length : Int) 12).toNat - (0 : Int).toNat) c41 a18 n12 c16 b3 b4 hRl36 hRl37 (hR49.mono stl18 (WL.no (by simp <;> omega))) (hR18.mono stl18 (WL.no (by simp <;> omega))) (hB4.mono stl18 (WL.no (by simp <;> omega))) (hB3.mono stl18 (WL.no (by simp <;> omega))) (by omega) (by omega) (by omega) q28 hk32
      refine WP.callC hcal32 (by kernel_rfl) ?_
      rintro _ g83 st83 rfl
      have st84 := (GW.back_step st83).lentS
      have hO40 := hR16.backTo hS18 (by simp) st83 (fun x => x)
      have hO41 := hR17.backTo hS18 (by simp) st83 (fun x => x)
      refine WP.regw (g' := GW.back gq g83 [(t + 10), (t + 7)]) rfl ?_
      generalize GW.back gq g83 [(t + 10), (t + 7)] = g84 at *
      refine WP.dn (Shown.o (v := .bool q28) st84 ?_)
      exact ⟨tv, tv, tv, tv, tv, tv, tv, tv, rfl, hO40, hO41, tv, tv, tv, tv, tv, tv, tv, tv, tv, tv, tv, tv, tv⟩
     ·intro vs gq stq hl hf
      obtain ⟨v0, v1, v2, v3, v4, v5, v6, v7, v8, v9, rfl⟩ := len_k10 hl
      have e1 := (show v1 = .bool q28 from hf _ (memI 8 rfl) (by kernel_rfl))
      subst e1
      refine WP.stl 1 ?_
      refine WP.dn (Shown.ok (v := .bool (q28 == q9)) (by kernel_rfl) (Step.refl _ _) ?_)
      exact ⟨tv, tv, tv, tv, tv, tv, tv, tv, tv, tv, tv, congrArg Value.bool h42, tv, tv, tv, tv, tv, tv, tv, tv, tv, tv, tv, tv⟩
     ·intro vs gq stq hl hf
      obtain ⟨v0, v1, v2, v3, v4, v5, v6, v7, v8, v9, rfl⟩ := len_k10 hl
      have hB6 := (show Box gq (t + 5) b5 23 [encA .u8 d3] [8] from hf _ (memI 4 rfl) (by kernel_rfl))
      have e2 := (show v2 = .bool true from hf _ (memI 11 rfl) (by kernel_rfl))
      subst e2
      refine WP.loadB (v := AG [encA .u8 d3]) hB6 (by kernel_rfl) (by kernel_rfl) ?_
      refine WP.dn (Shown.ok (v := AG [encA .u8 d3]) (by kernel_rfl) (Step.refl _ _) ?_)
      exact ⟨tv, tv, tv, tv, tv, tv, tv, tv, tv, tv, tv, tv, rfl, tv, tv, tv, tv, tv, tv, tv, tv, tv, tv, tv⟩
     ·intro vs gq stq hl hf
      obtain ⟨v0, v1, v2, v3, v4, v5, v6, v7, v8, v9, rfl⟩ := len_k10 hl
      have hB3 := (show Box gq (t + 3) b3 90 [[.slice a16 n10 c14], [.map (some b4)]] [1, 1] from hf _ (memI 1 rfl) (by kernel_rfl))
      have hB4 := (show MapB gq (t + 4) b4 kv_S_notary_entry (Value.int .i64) w2 from hf _ (memI 3 rfl) (by kernel_rfl))
      have hR18 := (show RdS (Kd.slice 5 (Kd.int .u8)) gq 24 a18 n12 c16 l11 from hf _ (memI 6 rfl) (by kernel_rfl))
      have hR16 := (show OwnS k_S_notary_entry gq (t + 10) 173 a16 n10 c14 l9 from hf _ (memI 9 rfl) (by kernel_rfl))
      have hR17 := (show OwnS (Kd.arrI 8 .u8) gq (t + 7) 23 a17 n11 c15 l10 from hf _ (memI 10 rfl) (by kernel_rfl))
      have e2 := (show v2 = .bool true from hf _ (memI 11 rfl) (by kernel_rfl))
      subst e2
      have e3 := (show v3 = AG [encA .u8 d3] from hf _ (memI 12 rfl) (by kernel_rfl))
      subst e3
      have hS19 : 0 ∉ ([(t + 10), (t + 7)] : List Nat) := by simp <;> omega
      have stl19 := GW.lend_step gq [(t + 10), (t + 7)]
      have hRl38 := hR16.lendTo hS19 (by simp)
      have hRl39 := hR17.lendTo hS19 (by simp)
      refine WP.regw (g' := GW.lend gq [(t + 10), (t + 7)]) rfl ?_
      have hcal33 := P.state_Count (GW.lend gq [(t + 10), (t + 7)]) (t + 3) (t + 4) l9 w2 l10 d3 l11 a16 n10 c14 a17 n11 c15 a18 n12 c16 b3 b4 hRl38 hRl39 (hR18.mono stl19 (WL.no (by simp <;> omega))) (hB4.mono stl19 (WL.no (by simp <;> omega))) (hB3.mono stl19 (WL.no (by simp <;> omega))) (by omega) (by omega) (by omega) x23 hk33
      refine WP.callC hcal33 (by kernel_rfl) ?_
      rintro _ g85 st85 rfl
      have st86 := (GW.back_step st85).lentS
      have hO42 := hR16.backTo hS19 (by simp) st85 (fun x => x)
      have hO43 := hR17.backTo hS19 (by simp) st85 (fun x => x)
      refine WP.regw (g' := GW.back gq g85 [(t + 10), (t + 7)]) rfl ?_
      generalize GW.back gq g85 [(t + 10), (t + 7)] = g86 at *
      refine WP.dn (Shown.o (v := .int .i64 x23) st86 ?_)
      exact ⟨tv, tv, tv, tv, tv, tv, tv, tv, tv, tv, tv, tv, tv, rfl, hO42, hO43, tv, tv, tv, tv, tv, tv, tv, tv⟩
     ·intro vs gq stq hl hf
      obtain ⟨v0, v1, v2, v3, v4, v5, v6, v7, v8, v9, rfl⟩ := len_k10 hl
      have e2 := (show v2 = .bool true from hf _ (memI 11 rfl) (by kernel_rfl))
      subst e2
      have e4 := (show v4 = .int .i64 x23 from hf _ (memI 13 rfl) (by kernel_rfl))
      subst e4
      refine WP.stl 1 ?_
      refine WP.dn (Shown.ok (v := .bool (x23 == x7)) (by kernel_rfl) (Step.refl _ _) ?_)
      exact ⟨tv, tv, tv, tv, tv, tv, tv, tv, tv, tv, tv, tv, tv, tv, tv, tv, congrArg Value.bool h43, tv, tv, tv, tv, tv, tv, tv⟩
     ·intro vs gq stq hl hf
      obtain ⟨v0, v1, v2, v3, v4, v5, v6, v7, v8, v9, rfl⟩ := len_k10 hl
      have hB6 := (show Box gq (t + 5) b5 23 [encA .u8 d3] [8] from hf _ (memI 4 rfl) (by kernel_rfl))
      have e5 := (show v5 = .bool true from hf _ (memI 16 rfl) (by kernel_rfl))
      subst e5
      refine WP.loadB (v := AG [encA .u8 d3]) hB6 (by kernel_rfl) (by kernel_rfl) ?_
      refine WP.dn (Shown.ok (v := AG [encA .u8 d3]) (by kernel_rfl) (Step.refl _ _) ?_)
      exact ⟨tv, tv, tv, tv, tv, tv, tv, tv, tv, tv, tv, tv, tv, tv, tv, tv, tv, rfl, tv, tv, tv, tv, tv, tv⟩
     ·intro vs gq stq hl hf
      obtain ⟨v0, v1, v2, v3, v4, v5, v6, v7, v8, v9, rfl⟩ := len_k10 hl
      have hR18 := (show RdS (Kd.slice 5 (Kd.int .u8)) gq 24 a18 n12 c16 l11 from hf _ (memI 6 rfl) (by kernel_rfl))
      have e5 := (show v5 = .bool true from hf _ (memI 16 rfl) (by kernel_rfl))
      subst e5
      refine WP.sliceR (lo := some (.int .i64 1)) (hi := none) hR18 1 (l11.length : Int) (by kernel_rfl) (.inr ⟨_, rfl⟩) (.inl ⟨rfl, rfl⟩) hc36 ?_
      intro a53 c45 hR53
      refine WP.dn (Shown.ok (v := .slice a53 ((l11.length : Int).toNat - (1 : Int).toNat) c45) (by kernel_rfl) (Step.refl _ _) ?_)
      exact ⟨tv, tv, tv, tv, tv, tv, tv, tv, tv, tv, tv, tv, tv, tv, tv, tv, tv, tv, ⟨a53, c45, rfl, hR53⟩, tv, tv, tv, tv, tv⟩
     ·intro vs gq stq hl hf
      obtain ⟨v0, v1, v2, v3, v4, v5, v6, v7, v8, v9, rfl⟩ := len_k10 hl
      have hR49 := (show RdS Kd.bool gq 4 a49 ((imin (l2.length : Int) 12).toNat - (0 : Int).toNat) c41 (sliceI l2 0 (imin (l2.length : Int) 12)) from hf _ (memI 0 rfl) (by kernel_rfl))
      have hB3 := (show Box gq (t + 3) b3 90 [[.slice a16 n10 c14], [.map (some b4)]] [1, 1] from hf _ (memI 1 rfl) (by kernel_rfl))
      have hB4 := (show MapB gq (t + 4) b4 kv_S_notary_entry (Value.int .i64) w2 from hf _ (memI 3 rfl) (by kernel_rfl))
      have hR16 := (show OwnS k_S_notary_entry gq (t + 10) 173 a16 n10 c14 l9 from hf _ (memI 14 rfl) (by kernel_rfl))
      have hR17 := (show OwnS (Kd.arrI 8 .u8) gq (t + 7) 23 a17 n11 c15 l10 from hf _ (memI 15 rfl) (by kernel_rfl))
      have e5 := (show v5 = .bool true from hf _ (memI 16 rfl) (by kernel_rfl))
      subst e5
      have e6 := (show v6 = AG [encA .u8 d3] from hf _ (memI 17 rfl) (by kernel_rfl))
      subst e6
      obtain ⟨a53, c45, e7, hR53⟩ := (show ∃ (a53 : Option Addr) (c45 : Nat), v7 = .slice a53 ((l11.length : Int).toNat - (1 : Int).toNat) c45 ∧ RdS (Kd.slice 5 (Kd.int .u8)) gq 24 a53 ((l11.length : Int).toNat - (1 : Int).toNat) c45 (sliceI l11 1 (l11.length : Int)) from hf _ (memI 18 rfl) (by kernel_rfl))
      subst e7
      have hS20 : 0 ∉ ([(t + 10), (t + 7)] : List Nat) := by simp <;> omega
      have stl20 := GW.lend_step gq [(t + 10), (t + 7)]
      have hRl40 := hR16.lendTo hS20 (by simp)
      have hRl41 := hR17.lendTo hS20 (by simp)
      refine WP.regw (g' := GW.lend gq [(t + 10), (t + 7)]) rfl ?_
      have hcal34 := P.state_Full (GW.lend gq [(t + 10), (t + 7)]) (t + 3) (t + 4) l9 w2 l10 (sliceI l2 0 (imin (l2.length : Int) 12)) d3 (sliceI l11 1 (l11.length : Int)) a16 n10 c14 a17 n11 c15 a49 ((imin (l2.length : Int) 12).toNat - (0 : Int).toNat) c41 a53 ((l11.length : Int).toNat - (1 : Int).toNat) c45 b3 b4 hRl40 hRl41 (hR49.mono stl20 (WL.no (by simp <;> omega))) (hR53.mono stl20 (WL.no (by simp <;> omega))) (hB4.mono stl20 (WL.no (by simp <;> omega))) (hB3.mono stl20 (WL.no (by simp <;> omega))) (by omega) (by omega) (by omega) q29 hk34
      refine WP.callC hcal34 (by kernel_rfl) ?_
      rintro _ g87 st87 rfl
      have st88 := (GW.back_step st87).lentS
      have hO44 := hR16.backTo hS20 (by simp) st87 (fun x => x)
      have hO45 := hR17.backTo hS20 (by simp) st87 (fun x => x)
      refine WP.regw (g' := GW.back gq g87 [(t + 10), (t + 7)]) rfl ?_
      generalize GW.back gq g87 [(t + 10), (t + 7)] = g88 at *
      refine WP.dn (Shown.o (v := .bool q29) st88 ?_)
      exact ⟨tv, tv, tv, tv, tv, tv, tv, tv, tv, tv, tv, tv, tv, tv, tv, tv, tv, tv, tv, rfl, hO44, hO45, tv, tv⟩
     ·intro vs gq stq hl hf
      obtain ⟨v0, v1, v2, v3, v4, v5, v6, v7, v8, v9, rfl⟩ := len_k10 hl
      have e5 := (show v5 = .bool true from hf _ (memI 16 rfl) (by kernel_rfl))
      subst e5
      have e8 := (show v8 = .bool q29 from hf _ (memI 19 rfl) (by kernel_rfl))
      subst e8
      refine WP.stl 1 ?_
      refine WP.dn (Shown.ok (v := .bool (!q29)) (by kernel_rfl) (Step.refl _ _) ?_)
      exact ⟨tv, tv, tv, tv, tv, tv, tv, tv, tv, tv, tv, tv, tv, tv, tv, tv, tv, tv, tv, tv, tv, tv, congrArg Value.bool h44, tv⟩
    intro vs g92 st92 hl hf
    obtain ⟨v0, v1, v2, v3, v4, v5, v6, v7, v8, v9, rfl⟩ := len_k10 hl
    have e9 := (show v9 = .bool false from hf _ (memI 22 rfl) (by kernel_rfl))
    subst e9
    replace tot := tot.trans (st92.up2 (.inr (by omega)) (.inr (by omega)))
    refine NX.post ?_
    exact ⟨false, ⟨by kernel_rfl, by kernel_rfl⟩, tot, hs⟩
   replace hs := of_if_f hs h43
   refine CP.drawL (by kernel_rfl) [4, 6, 9, 13, 15, 19] N.baizelaw32_StateFull_1 [⟨none, [], [], fun l g => RdS Kd.bool g 4 a49 ((imin (l2.length : Int) 12).toNat - (0 : Int).toNat) c41 (sliceI l2 0 (imin (l2.length : Int) 12))⟩, ⟨none, [], [], fun l g => Box g (t + 3) b3 90 [[.slice a16 n10 c14], [.map (some b4)]] [1, 1]⟩, ⟨none, [0], [], fun l g => OwnS k_S_notary_entry g (t + 10) 173 a16 n10 c14 l9⟩, ⟨none, [], [], fun l g => MapB g (t + 4) b4 kv_S_notary_entry (Value.int .i64) w2⟩, ⟨none, [], [], fun l g => Box g (t + 5) b5 23 [encA .u8 d3] [8]⟩, ⟨none, [1], [], fun l g => OwnS (Kd.arrI 8 .u8) g (t + 7) 23 a17 n11 c15 l10⟩, ⟨none, [], [], fun l g => RdS (Kd.slice 5 (Kd.int .u8)) g 24 a18 n12 c16 l11⟩, ⟨some 0, [], [0], fun l g => l.getD 0 undef = AG [encA .u8 d3]⟩, ⟨some 1, [], [1], fun l g => l.getD 0 undef = .bool q28⟩, ⟨some 1, [0], [], fun l g => OwnS k_S_notary_entry g (t + 10) 173 a16 n10 c14 l9⟩, ⟨some 1, [1], [], fun l g => OwnS (Kd.arrI 8 .u8) g (t + 7) 23 a17 n11 c15 l10⟩, ⟨some 2, [], [2], fun l g => l.getD 0 undef = .bool true⟩, ⟨some 3, [], [3], fun l g => l.getD 0 undef = AG [encA .u8 d3]⟩, ⟨some 4, [], [4], fun l g => l.getD 0 undef = .int .i64 x23⟩, ⟨some 4, [0], [], fun l g => OwnS k_S_notary_entry g (t + 10) 173 a16 n10 c14 l9⟩, ⟨some 4, [1], [], fun l g => OwnS (Kd.arrI 8 .u8) g (t + 7) 23 a17 n11 c15 l10⟩, ⟨some 5, [], [5], fun l g => l.getD 0 undef = .bool false⟩] [[], [0, 1], [], [], [0, 1], []] [(t + 10), (t + 7)] [0, 1, 2, 3, 5, 7] [8, 10, 11, 12, 14, 16, 17, 18, 20, 21, 22, 23, 24, 25, 26, 27, 28, 29, 30, 31, 32, 33, 34, 35, 36, 37] (by kernel_rfl) (by simp <;> omega) (by simp <;> omega) ⟨fun _ _ _ _ st h0 hl hj hR49 => (RdS.mono (e := 4) hR49 st h0), fun _ _ _ _ st h0 hl hj hB3 => (hB3.mono st (fun h => absurd (hl _ h) (by simp <;> omega))), fun _ _ _ _ st h0 hl hj hR16 => (hR16.mono st h0 (hj 0 (by simp) _ rfl)), fun _ _ _ _ st h0 hl hj hB4 => (hB4.mono st (fun h => absurd (hl _ h) (by simp <;> omega))), fun _ _ _ _ st h0 hl hj hB6 => (hB6.mono st (fun h => absurd (hl _ h) (by simp <;> omega))), fun _ _ _ _ st h0 hl hj hR17 => (hR17.mono st h0 (hj 1 (by simp) _ rfl)), fun _ _ _ _ st h0 hl hj hR18 => (RdS.mono (e := 24) hR18 st h0), fun _ _ _ _ st h0 hl hj e0 => e0, fun _ _ _ _ st h0 hl hj e1 => e1, fun _ _ _ _ st h0 hl hj hR16 => (hR16.mono st h0 (hj 0 (by simp) _ rfl)), fun _ _ _ _ st h0 hl hj hR17 => (hR17.mono st h0 (hj 1 (by simp) _ rfl)), fun _ _ _ _ st h0 hl hj e2 => e2, fun _ _ _ _ st h0 hl hj e3 => e3, fun _ _ _ _ st h0 hl hj e4 => e4, fun _ _ _ _ st h0 hl hj hR16 => (hR16.mono st h0 (hj 0 (by simp) _ rfl)), fun _ _ _ _ st h0 hl hj hR17 => (hR17.mono st h0 (hj 1 (by simp) _ rfl)), fun _ _ _ _ st h0 hl hj e5 => e5, tv⟩ ⟨hR49, hB3, hR16, hB4, hB6, hR17, hR18, tv, tv, tv, tv, tv, tv, tv, tv, tv, tv, tv⟩ (by kernel_rfl) (fun vs => by kernel_rfl) ?_ ?_ ?_
   ·intro j hj
    have hq : j = 0 ∨ j = 1 ∨ j = 2 ∨ j = 3 ∨ j = 4 ∨ j = 5 ∨ j = 6 ∨ j = 7 ∨ j = 8 ∨ j = 9 ∨ j = 10 ∨ j = 11 ∨ j = 12 ∨ j = 13 ∨ j = 14 ∨ j = 15 ∨ j = 16 ∨ j = 17 ∨ j = 18 ∨ j = 19 ∨ j = 20 ∨ j = 21 ∨ j = 22 ∨ j = 23 ∨ j = 24 ∨ j = 25 := by have h : j < 26 := hj; omega
    rcases hq with rfl | rfl | rfl | rfl | rfl | rfl | rfl | rfl | rfl | rfl | rfl | rfl | rfl | rfl | rfl | rfl | rfl | rfl | rfl | rfl | rfl | rfl | rfl | rfl | rfl | rfl
    ·intro vs gq stq hl hf
     obtain ⟨v0, v1, v2, v3, v4, v5, rfl⟩ := len_k6 hl
     have e1 := (show v1 = .bool q28 from hf _ (memI 8 rfl) (by kernel_rfl))
     subst e1
     show Option.isSome _ = true
     kernel_rfl
    ·intro vs gq stq hl hf
     obtain ⟨v0, v1, v2, v3, v4, v5, rfl⟩ := len_k6 hl
     have e2 := (show v2 = .bool true from hf _ (memI 11 rfl) (by kernel_rfl))
     subst e2
     show Option.isSome _ = true
     kernel_rfl
    ·intro vs gq stq hl hf
     obtain ⟨v0, v1, v2, v3, v4, v5, rfl⟩ := len_k6 hl
     have e2 := (show v2 = .bool true from hf _ (memI 11 rfl) (by kernel_rfl))
     subst e2
     show Option.isSome _ = true
     kernel_rfl
    ·intro vs gq stq hl hf
     obtain ⟨v0, v1, v2, v3, v4, v5, rfl⟩ := len_k6 hl
     have e2 := (show v2 = .bool true from hf _ (memI 11 rfl) (by kernel_rfl))
     subst e2
     show Option.isSome _ = true
     kernel_rfl
    ·intro vs gq stq hl hf
     obtain ⟨v0, v1, v2, v3, v4, v5, rfl⟩ := len_k6 hl
     have e2 := (show v2 = .bool true from hf _ (memI 11 rfl) (by kernel_rfl))
     subst e2
     show Option.isSome _ = true
     kernel_rfl
    ·intro vs gq stq hl hf
     obtain ⟨v0, v1, v2, v3, v4, v5, rfl⟩ := len_k6 hl
     have e2 := (show v2 = .bool true from hf _ (memI 11 rfl) (by kernel_rfl))
     subst e2
     show Option.isSome _ = true
     kernel_rfl
    ·intro vs gq stq hl hf
     obtain ⟨v0, v1, v2, v3, v4, v5, rfl⟩ := len_k6 hl
     have e2 := (show v2 = .bool true from hf _ (memI 11 rfl) (by kernel_rfl))
     subst e2
     have e4 := (show v4 = .int .i64 x23 from hf _ (memI 13 rfl) (by kernel_rfl))
     subst e4
     show Option.isSome _ = true
     kernel_rfl
    ·intro vs gq stq hl hf
     obtain ⟨v0, v1, v2, v3, v4, v5, rfl⟩ := len_k6 hl
     have e2 := (show v2 = .bool true from hf _ (memI 11 rfl) (by kernel_rfl))
     subst e2
     have e4 := (show v4 = .int .i64 x23 from hf _ (memI 13 rfl) (by kernel_rfl))
     subst e4
     show Option.isSome _ = true
     kernel_rfl
    ·intro vs gq stq hl hf
     obtain ⟨v0, v1, v2, v3, v4, v5, rfl⟩ := len_k6 hl
     have e5 := (show v5 = .bool false from hf _ (memI 16 rfl) (by kernel_rfl))
     subst e5
     show Option.isSome _ = true
     kernel_rfl
    ·intro vs gq stq hl hf
     obtain ⟨v0, v1, v2, v3, v4, v5, rfl⟩ := len_k6 hl
     have e5 := (show v5 = .bool false from hf _ (memI 16 rfl) (by kernel_rfl))
     subst e5
     show Option.isSome _ = true
     kernel_rfl
    ·intro vs gq stq hl hf
     obtain ⟨v0, v1, v2, v3, v4, v5, rfl⟩ := len_k6 hl
     have e5 := (show v5 = .bool false from hf _ (memI 16 rfl) (by kernel_rfl))
     subst e5
     show Option.isSome _ = true
     kernel_rfl
    ·intro vs gq stq hl hf
     obtain ⟨v0, v1, v2, v3, v4, v5, rfl⟩ := len_k6 hl
     have e5 := (show v5 = .bool false from hf _ (memI 16 rfl) (by kernel_rfl))
     subst e5
     show Option.isSome _ = true
     kernel_rfl
    ·intro vs gq stq hl hf
     obtain ⟨v0, v1, v2, v3, v4, v5, rfl⟩ := len_k6 hl
     have e5 := (show v5 = .bool false from hf _ (memI 16 rfl) (by kernel_rfl))
     subst e5
     show Option.isSome _ = true
     kernel_rfl
    ·intro vs gq stq hl hf
     obtain ⟨v0, v1, v2, v3, v4, v5, rfl⟩ := len_k6 hl
     have e5 := (show v5 = .bool false from hf _ (memI 16 rfl) (by kernel_rfl))
     subst e5
     show Option.isSome _ = true
     kernel_rfl
    ·intro vs gq stq hl hf
     obtain ⟨v0, v1, v2, v3, v4, v5, rfl⟩ := len_k6 hl
     have e5 := (show v5 = .bool false from hf _ (memI 16 rfl) (by kernel_rfl))
     subst e5
     show Option.isSome _ = true
     kernel_rfl
    ·intro vs gq stq hl hf
     obtain ⟨v0, v1, v2, v3, v4, v5, rfl⟩ := len_k6 hl
     have e5 := (show v5 = .bool false from hf _ (memI 16 rfl) (by kernel_rfl))
     subst e5
     show Option.isSome _ = true
     kernel_rfl
    ·intro vs gq stq hl hf
     obtain ⟨v0, v1, v2, v3, v4, v5, rfl⟩ := len_k6 hl
     have e5 := (show v5 = .bool false from hf _ (memI 16 rfl) (by kernel_rfl))
     subst e5
     show Option.isSome _ = true
     kernel_rfl
    ·intro vs gq stq hl hf
     obtain ⟨v0, v1, v2, v3, v4, v5, rfl⟩ := len_k6 hl
     have e5 := (show v5 = .bool false from hf _ (memI 16 rfl) (by kernel_rfl))
     subst e5
     show Option.isSome _ = true
     kernel_rfl
    ·intro vs gq stq hl hf
     obtain ⟨v0, v1, v2, v3, v4, v5, rfl⟩ := len_k6 hl
     have e5 := (show v5 = .bool false from hf _ (memI 16 rfl) (by kernel_rfl))
     subst e5
     show Option.isSome _ = true
     kernel_rfl
    ·intro vs gq stq hl hf
     obtain ⟨v0, v1, v2, v3, v4, v5, rfl⟩ := len_k6 hl
     have e5 := (show v5 = .bool false from hf _ (memI 16 rfl) (by kernel_rfl))
     subst e5
     show Option.isSome _ = true
     kernel_rfl
    ·intro vs gq stq hl hf
     obtain ⟨v0, v1, v2, v3, v4, v5, rfl⟩ := len_k6 hl
     have e5 := (show v5 = .bool false from hf _ (memI 16 rfl) (by kernel_rfl))
     subst e5
     show Option.isSome _ = true
     kernel_rfl
    ·intro vs gq stq hl hf
     obtain ⟨v0, v1, v2, v3, v4, v5, rfl⟩ := len_k6 hl
     have e5 := (show v5 = .bool false from hf _ (memI 16 rfl) (by kernel_rfl))
     subst e5
     show Option.isSome _ = true
     kernel_rfl
    ·intro vs gq stq hl hf
     obtain ⟨v0, v1, v2, v3, v4, v5, rfl⟩ := len_k6 hl
     have e5 := (show v5 = .bool false from hf _ (memI 16 rfl) (by kernel_rfl))
     subst e5
     show Option.isSome _ = true
     kernel_rfl
    ·intro vs gq stq hl hf
     obtain ⟨v0, v1, v2, v3, v4, v5, rfl⟩ := len_k6 hl
     have e5 := (show v5 = .bool false from hf _ (memI 16 rfl) (by kernel_rfl))
     subst e5
     show Option.isSome _ = true
     kernel_rfl
    ·intro vs gq stq hl hf
     obtain ⟨v0, v1, v2, v3, v4, v5, rfl⟩ := len_k6 hl
     have e5 := (show v5 = .bool false from hf _ (memI 16 rfl) (by kernel_rfl))
     subst e5
     show Option.isSome _ = true
     kernel_rfl
    ·intro vs gq stq hl hf
     obtain ⟨v0, v1, v2, v3, v4, v5, rfl⟩ := len_k6 hl
     have e5 := (show v5 = .bool false from hf _ (memI 16 rfl) (by kernel_rfl))
     subst e5
     show Option.isSome _ = true
     kernel_rfl
   ·intro j hj
    have hq : j = 0 ∨ j = 1 ∨ j = 2 ∨ j = 3 ∨ j = 4 ∨ j = 5 := by have h : j < 6 := hj; omega
    rcases hq with rfl | rfl | rfl | rfl | rfl | rfl
    ·intro vs gq stq hl hf
     obtain ⟨v0, v1, v2, v3, v4, v5, rfl⟩ := len_k6 hl
     have hB6 := (show Box gq (t + 5) b5 23 [encA .u8 d3] [8] from hf _ (memI 4 rfl) (by kernel_rfl))
     refine WP.loadB (v := AG [encA .u8 d3]) hB6 (by kernel_rfl) (by kernel_rfl) ?_
     refine WP.dn (Shown.ok (v := AG [encA .u8 d3]) (by kernel_rfl) (Step.refl _ _) ?_)
     exact ⟨tv, tv, tv, tv, tv, tv, tv, rfl, tv, tv, tv, tv, tv, tv, tv, tv, tv, tv⟩
    ·intro vs gq stq hl hf
     obtain ⟨v0, v1, v2, v3, v4, v5, rfl⟩ := len_k6 hl
     have hR49 := (show RdS Kd.bool gq 4 a49 ((imin (l2.length : Int) 12).toNat - (0 : Int).toNat) c41 (sliceI l2 0 (imin (l2.length : Int) 12)) from hf _ (memI 0 rfl) (by kernel_rfl))
     have hB3 := (show Box gq (t + 3) b3 90 [[.slice a16 n10 c14], [.map (some b4)]] [1, 1] from hf _ (memI 1 rfl) (by kernel_rfl))
     have hR16 := (show OwnS k_S_notary_entry gq (t + 10) 173 a16 n10 c14 l9 from hf _ (memI 2 rfl) (by kernel_rfl))
     have hB4 := (show MapB gq (t + 4) b4 kv_S_notary_entry (Value.int .i64) w2 from hf _ (memI 3 rfl) (by kernel_rfl))
     have hR17 := (show OwnS (Kd.arrI 8 .u8) gq (t + 7) 23 a17 n11 c15 l10 from hf _ (memI 5 rfl) (by kernel_rfl))
     have hR18 := (show RdS (Kd.slice 5 (Kd.int .u8)) gq 24 a18 n12 c16 l11 from hf _ (memI 6 rfl) (by kernel_rfl))
     have e0 := (show v0 = AG [encA .u8 d3] from hf _ (memI 7 rfl) (by kernel_rfl))
     subst e0
     have hS18 : 0 ∉ ([(t + 10), (t + 7)] : List Nat) := by simp <;> omega
     have stl18 := GW.lend_step gq [(t + 10), (t + 7)]
     have hRl36 := hR16.lendTo hS18 (by simp)
     have hRl37 := hR17.lendTo hS18 (by simp)
     refine WP.regw (g' := GW.lend gq [(t + 10), (t + 7)]) rfl ?_
     have hcal32 := P.state_Full (GW.lend gq [(t + 10), (t + 7)]) (t + 3) (t + 4) l9 w2 l10 (sliceI l2 0 (imin (l2.length : Int) 12)) d3 l11 a16 n10 c14 a17 n11 c15 a49 ((imin (l2.length : Int) 12).toNat - (0 : Int).toNat) c41 a18 n12 c16 b3 b4 hRl36 hRl37 (hR49.mono stl18 (WL.no (by simp <;> omega))) (hR18.mono stl18 (WL.no (by simp <;> omega))) (hB4.mono stl18 (WL.no (by simp <;> omega))) (hB3.mono stl18 (WL.no (by simp <;> omega))) (by omega) (by omega) (by omega) q28 hk32
     refine WP.callC hcal32 (by kernel_rfl) ?_
     rintro _ g83 st83 rfl
     have st84 := (GW.back_step st83).lentS
     have hO40 := hR16.backTo hS18 (by simp) st83 (fun x => x)
     have hO41 := hR17.backTo hS18 (by simp) st83 (fun x => x)
     refine WP.regw (g' := GW.back gq g83 [(t + 10), (t + 7)]) rfl ?_
     generalize GW.back gq g83 [(t + 10), (t + 7)] = g84 at *
     refine WP.dn (Shown.o (v := .bool q28) st84 ?_)
     exact ⟨tv, tv, tv, tv, tv, tv, tv, tv, rfl, hO40, hO41, tv, tv, tv, tv, tv, tv, tv⟩
    ·intro vs gq stq hl hf
     obtain ⟨v0, v1, v2, v3, v4, v5, rfl⟩ := len_k6 hl
     have e1 := (show v1 = .bool q28 from hf _ (memI 8 rfl) (by kernel_rfl))
     subst e1
     refine WP.stl 1 ?_
     refine WP.dn (Shown.ok (v := .bool (q28 == q9)) (by kernel_rfl) (Step.refl _ _) ?_)
     exact ⟨tv, tv, tv, tv, tv, tv, tv, tv, tv, tv, tv, congrArg Value.bool h42, tv, tv, tv, tv, tv, tv⟩
    ·intro vs gq stq hl hf
     obtain ⟨v0, v1, v2, v3, v4, v5, rfl⟩ := len_k6 hl
     have hB6 := (show Box gq (t + 5) b5 23 [encA .u8 d3] [8] from hf _ (memI 4 rfl) (by kernel_rfl))
     have e2 := (show v2 = .bool true from hf _ (memI 11 rfl) (by kernel_rfl))
     subst e2
     refine WP.loadB (v := AG [encA .u8 d3]) hB6 (by kernel_rfl) (by kernel_rfl) ?_
     refine WP.dn (Shown.ok (v := AG [encA .u8 d3]) (by kernel_rfl) (Step.refl _ _) ?_)
     exact ⟨tv, tv, tv, tv, tv, tv, tv, tv, tv, tv, tv, tv, rfl, tv, tv, tv, tv, tv⟩
    ·intro vs gq stq hl hf
     obtain ⟨v0, v1, v2, v3, v4, v5, rfl⟩ := len_k6 hl
     have hB3 := (show Box gq (t + 3) b3 90 [[.slice a16 n10 c14], [.map (some b4)]] [1, 1] from hf _ (memI 1 rfl) (by kernel_rfl))
     have hB4 := (show MapB gq (t + 4) b4 kv_S_notary_entry (Value.int .i64) w2 from hf _ (memI 3 rfl) (by kernel_rfl))
     have hR18 := (show RdS (Kd.slice 5 (Kd.int .u8)) gq 24 a18 n12 c16 l11 from hf _ (memI 6 rfl) (by kernel_rfl))
     have hR16 := (show OwnS k_S_notary_entry gq (t + 10) 173 a16 n10 c14 l9 from hf _ (memI 9 rfl) (by kernel_rfl))
     have hR17 := (show OwnS (Kd.arrI 8 .u8) gq (t + 7) 23 a17 n11 c15 l10 from hf _ (memI 10 rfl) (by kernel_rfl))
     have e2 := (show v2 = .bool true from hf _ (memI 11 rfl) (by kernel_rfl))
     subst e2
     have e3 := (show v3 = AG [encA .u8 d3] from hf _ (memI 12 rfl) (by kernel_rfl))
     subst e3
     have hS19 : 0 ∉ ([(t + 10), (t + 7)] : List Nat) := by simp <;> omega
     have stl19 := GW.lend_step gq [(t + 10), (t + 7)]
     have hRl38 := hR16.lendTo hS19 (by simp)
     have hRl39 := hR17.lendTo hS19 (by simp)
     refine WP.regw (g' := GW.lend gq [(t + 10), (t + 7)]) rfl ?_
     have hcal33 := P.state_Count (GW.lend gq [(t + 10), (t + 7)]) (t + 3) (t + 4) l9 w2 l10 d3 l11 a16 n10 c14 a17 n11 c15 a18 n12 c16 b3 b4 hRl38 hRl39 (hR18.mono stl19 (WL.no (by simp <;> omega))) (hB4.mono stl19 (WL.no (by simp <;> omega))) (hB3.mono stl19 (WL.no (by simp <;> omega))) (by omega) (by omega) (by omega) x23 hk33
     refine WP.callC hcal33 (by kernel_rfl) ?_
     rintro _ g85 st85 rfl
     have st86 := (GW.back_step st85).lentS
     have hO42 := hR16.backTo hS19 (by simp) st85 (fun x => x)
     have hO43 := hR17.backTo hS19 (by simp) st85 (fun x => x)
     refine WP.regw (g' := GW.back gq g85 [(t + 10), (t + 7)]) rfl ?_
     generalize GW.back gq g85 [(t + 10), (t + 7)] = g86 at *
     refine WP.dn (Shown.o (v := .int .i64 x23) st86 ?_)
     exact ⟨tv, tv, tv, tv, tv, tv, tv, tv, tv, tv, tv, tv, tv, rfl, hO42, hO43, tv, tv⟩
    ·intro vs gq stq hl hf
     obtain ⟨v0, v1, v2, v3, v4, v5, rfl⟩ := len_k6 hl
     have e2 := (show v2 = .bool true from hf _ (memI 11 rfl) (by kernel_rfl))
     subst e2
     have e4 := (show v4 = .int .i64 x23 from hf _ (memI 13 rfl) (by kernel_rfl))
     subst e4
     refine WP.stl 1 ?_
     refine WP.dn (Shown.ok (v := .bool (x23 == x7)) (by kernel_rfl) (Step.refl _ _) ?_)
     exact ⟨tv, tv, tv, tv, tv, tv, tv, tv, tv, tv, tv, tv, tv, tv, tv, tv, congrArg Value.bool h43, tv⟩
   intro vs g93 st93 hl hf
   obtain ⟨v0, v1, v2, v3, v4, v5, rfl⟩ := len_k6 hl
   have e5 := (show v5 = .bool false from hf _ (memI 16 rfl) (by kernel_rfl))
   subst e5
   replace tot := tot.trans (st93.up2 (.inr (by omega)) (.inr (by omega)))
   refine NX.post ?_
   exact ⟨false, ⟨by kernel_rfl, by kernel_rfl⟩, tot, hs⟩
  replace hs := of_if_f hs h42
  refine CP.drawL (by kernel_rfl) [4, 6, 9] N.baizelaw32_StateFull_1 [⟨none, [], [], fun l g => RdS Kd.bool g 4 a49 ((imin (l2.length : Int) 12).toNat - (0 : Int).toNat) c41 (sliceI l2 0 (imin (l2.length : Int) 12))⟩, ⟨none, [], [], fun l g => Box g (t + 3) b3 90 [[.slice a16 n10 c14], [.map (some b4)]] [1, 1]⟩, ⟨none, [0], [], fun l g => OwnS k_S_notary_entry g (t + 10) 173 a16 n10 c14 l9⟩, ⟨none, [], [], fun l g => MapB g (t + 4) b4 kv_S_notary_entry (Value.int .i64) w2⟩, ⟨none, [], [], fun l g => Box g (t + 5) b5 23 [encA .u8 d3] [8]⟩, ⟨none, [1], [], fun l g => OwnS (Kd.arrI 8 .u8) g (t + 7) 23 a17 n11 c15 l10⟩, ⟨none, [], [], fun l g => RdS (Kd.slice 5 (Kd.int .u8)) g 24 a18 n12 c16 l11⟩, ⟨some 0, [], [0], fun l g => l.getD 0 undef = AG [encA .u8 d3]⟩, ⟨some 1, [], [1], fun l g => l.getD 0 undef = .bool q28⟩, ⟨some 1, [0], [], fun l g => OwnS k_S_notary_entry g (t + 10) 173 a16 n10 c14 l9⟩, ⟨some 1, [1], [], fun l g => OwnS (Kd.arrI 8 .u8) g (t + 7) 23 a17 n11 c15 l10⟩, ⟨some 2, [], [2], fun l g => l.getD 0 undef = .bool false⟩] [[], [0, 1], []] [(t + 10), (t + 7)] [0, 1, 2, 3, 5, 7] [8, 10, 11, 12, 13, 14, 15, 16, 17, 18, 19, 20, 21, 22, 23, 24, 25, 26, 27, 28, 29, 30, 31, 32, 33, 34, 35, 36, 37] (by kernel_rfl) (by simp <;> omega) (by simp <;> omega) ⟨fun _ _ _ _ st h0 hl hj hR49 => (RdS.mono (e := 4) hR49 st h0), fun _ _ _ _ st h0 hl hj hB3 => (hB3.mono st (fun h => absurd (hl _ h) (by simp <;> omega))), fun _ _ _ _ st h0 hl hj hR16 => (hR16.mono st h0 (hj 0 (by simp) _ rfl)), fun _ _ _ _ st h0 hl hj hB4 => (hB4.mono st (fun h => absurd (hl _ h) (by simp <;> omega))), fun _ _ _ _ st h0 hl hj hB6 => (hB6.mono st (fun h => absurd (hl _ h) (by simp <;> omega))), fun _ _ _ _ st h0 hl hj hR17 => (hR17.mono st h0 (hj 1 (by simp) _ rfl)), fun _ _ _ _ st h0 hl hj hR18 => (RdS.mono (e := 24) hR18 st h0), fun _ _ _ _ st h0 hl hj e0 => e0, fun _ _ _ _ st h0 hl hj e1 => e1, fun _ _ _ _ st h0 hl hj hR16 => (hR16.mono st h0 (hj 0 (by simp) _ rfl)), fun _ _ _ _ st h0 hl hj hR17 => (hR17.mono st h0 (hj 1 (by simp) _ rfl)), fun _ _ _ _ st h0 hl hj e2 => e2, tv⟩ ⟨hR49, hB3, hR16, hB4, hB6, hR17, hR18, tv, tv, tv, tv, tv, tv⟩ (by kernel_rfl) (fun vs => by kernel_rfl) ?_ ?_ ?_
  ·intro j hj
   have hq : j = 0 ∨ j = 1 ∨ j = 2 ∨ j = 3 ∨ j = 4 ∨ j = 5 ∨ j = 6 ∨ j = 7 ∨ j = 8 ∨ j = 9 ∨ j = 10 ∨ j = 11 ∨ j = 12 ∨ j = 13 ∨ j = 14 ∨ j = 15 ∨ j = 16 ∨ j = 17 ∨ j = 18 ∨ j = 19 ∨ j = 20 ∨ j = 21 ∨ j = 22 ∨ j = 23 ∨ j = 24 ∨ j = 25 ∨ j = 26 ∨ j = 27 ∨ j = 28 := by have h : j < 29 := hj; omega
   rcases hq with rfl | rfl | rfl | rfl | rfl | rfl | rfl | rfl | rfl | rfl | rfl | rfl | rfl | rfl | rfl | rfl | rfl | rfl | rfl | rfl | rfl | rfl | rfl | rfl | rfl | rfl | rfl | rfl | rfl
   ·intro vs gq stq hl hf
    obtain ⟨v0, v1, v2, rfl⟩ := len_k3 hl
    have e1 := (show v1 = .bool q28 from hf _ (memI 8 rfl) (by kernel_rfl))
    subst e1
    show Option.isSome _ = true
    kernel_rfl
   ·intro vs gq stq hl hf
    obtain ⟨v0, v1, v2, rfl⟩ := len_k3 hl
    have e2 := (show v2 = .bool false from hf _ (memI 11 rfl) (by kernel_rfl))
    subst e2
    show Option.isSome _ = true
    kernel_rfl
   ·intro vs gq stq hl hf
    obtain ⟨v0, v1, v2, rfl⟩ := len_k3 hl
    have e2 := (show v2 = .bool false from hf _ (memI 11 rfl) (by kernel_rfl))
    subst e2
    show Option.isSome _ = true
    kernel_rfl
   ·intro vs gq stq hl hf
    obtain ⟨v0, v1, v2, rfl⟩ := len_k3 hl
    have e2 := (show v2 = .bool false from hf _ (memI 11 rfl) (by kernel_rfl))
    subst e2
    show Option.isSome _ = true
    kernel_rfl
   ·intro vs gq stq hl hf
    obtain ⟨v0, v1, v2, rfl⟩ := len_k3 hl
    have e2 := (show v2 = .bool false from hf _ (memI 11 rfl) (by kernel_rfl))
    subst e2
    show Option.isSome _ = true
    kernel_rfl
   ·intro vs gq stq hl hf
    obtain ⟨v0, v1, v2, rfl⟩ := len_k3 hl
    have e2 := (show v2 = .bool false from hf _ (memI 11 rfl) (by kernel_rfl))
    subst e2
    show Option.isSome _ = true
    kernel_rfl
   ·intro vs gq stq hl hf
    obtain ⟨v0, v1, v2, rfl⟩ := len_k3 hl
    have e2 := (show v2 = .bool false from hf _ (memI 11 rfl) (by kernel_rfl))
    subst e2
    show Option.isSome _ = true
    kernel_rfl
   ·intro vs gq stq hl hf
    obtain ⟨v0, v1, v2, rfl⟩ := len_k3 hl
    have e2 := (show v2 = .bool false from hf _ (memI 11 rfl) (by kernel_rfl))
    subst e2
    show Option.isSome _ = true
    kernel_rfl
   ·intro vs gq stq hl hf
    obtain ⟨v0, v1, v2, rfl⟩ := len_k3 hl
    have e2 := (show v2 = .bool false from hf _ (memI 11 rfl) (by kernel_rfl))
    subst e2
    show Option.isSome _ = true
    kernel_rfl
   ·intro vs gq stq hl hf
    obtain ⟨v0, v1, v2, rfl⟩ := len_k3 hl
    have e2 := (show v2 = .bool false from hf _ (memI 11 rfl) (by kernel_rfl))
    subst e2
    show Option.isSome _ = true
    kernel_rfl
   ·intro vs gq stq hl hf
    obtain ⟨v0, v1, v2, rfl⟩ := len_k3 hl
    have e2 := (show v2 = .bool false from hf _ (memI 11 rfl) (by kernel_rfl))
    subst e2
    show Option.isSome _ = true
    kernel_rfl
   ·intro vs gq stq hl hf
    obtain ⟨v0, v1, v2, rfl⟩ := len_k3 hl
    have e2 := (show v2 = .bool false from hf _ (memI 11 rfl) (by kernel_rfl))
    subst e2
    show Option.isSome _ = true
    kernel_rfl
   ·intro vs gq stq hl hf
    obtain ⟨v0, v1, v2, rfl⟩ := len_k3 hl
    have e2 := (show v2 = .bool false from hf _ (memI 11 rfl) (by kernel_rfl))
    subst e2
    show Option.isSome _ = true
    kernel_rfl
   ·intro vs gq stq hl hf
    obtain ⟨v0, v1, v2, rfl⟩ := len_k3 hl
    have e2 := (show v2 = .bool false from hf _ (memI 11 rfl) (by kernel_rfl))
    subst e2
    show Option.isSome _ = true
    kernel_rfl
   ·intro vs gq stq hl hf
    obtain ⟨v0, v1, v2, rfl⟩ := len_k3 hl
    have e2 := (show v2 = .bool false from hf _ (memI 11 rfl) (by kernel_rfl))
    subst e2
    show Option.isSome _ = true
    kernel_rfl
   ·intro vs gq stq hl hf
    obtain ⟨v0, v1, v2, rfl⟩ := len_k3 hl
    have e2 := (show v2 = .bool false from hf _ (memI 11 rfl) (by kernel_rfl))
    subst e2
    show Option.isSome _ = true
    kernel_rfl
   ·intro vs gq stq hl hf
    obtain ⟨v0, v1, v2, rfl⟩ := len_k3 hl
    have e2 := (show v2 = .bool false from hf _ (memI 11 rfl) (by kernel_rfl))
    subst e2
    show Option.isSome _ = true
    kernel_rfl
   ·intro vs gq stq hl hf
    obtain ⟨v0, v1, v2, rfl⟩ := len_k3 hl
    have e2 := (show v2 = .bool false from hf _ (memI 11 rfl) (by kernel_rfl))
    subst e2
    show Option.isSome _ = true
    kernel_rfl
   ·intro vs gq stq hl hf
    obtain ⟨v0, v1, v2, rfl⟩ := len_k3 hl
    have e2 := (show v2 = .bool false from hf _ (memI 11 rfl) (by kernel_rfl))
    subst e2
    show Option.isSome _ = true
    kernel_rfl
   ·intro vs gq stq hl hf
    obtain ⟨v0, v1, v2, rfl⟩ := len_k3 hl
    have e2 := (show v2 = .bool false from hf _ (memI 11 rfl) (by kernel_rfl))
    subst e2
    show Option.isSome _ = true
    kernel_rfl
   ·intro vs gq stq hl hf
    obtain ⟨v0, v1, v2, rfl⟩ := len_k3 hl
    have e2 := (show v2 = .bool false from hf _ (memI 11 rfl) (by kernel_rfl))
    subst e2
    show Option.isSome _ = true
    kernel_rfl
   ·intro vs gq stq hl hf
    obtain ⟨v0, v1, v2, rfl⟩ := len_k3 hl
    have e2 := (show v2 = .bool false from hf _ (memI 11 rfl) (by kernel_rfl))
    subst e2
    show Option.isSome _ = true
    kernel_rfl
   ·intro vs gq stq hl hf
    obtain ⟨v0, v1, v2, rfl⟩ := len_k3 hl
    have e2 := (show v2 = .bool false from hf _ (memI 11 rfl) (by kernel_rfl))
    subst e2
    show Option.isSome _ = true
    kernel_rfl
   ·intro vs gq stq hl hf
    obtain ⟨v0, v1, v2, rfl⟩ := len_k3 hl
    have e2 := (show v2 = .bool false from hf _ (memI 11 rfl) (by kernel_rfl))
    subst e2
    show Option.isSome _ = true
    kernel_rfl
   ·intro vs gq stq hl hf
    obtain ⟨v0, v1, v2, rfl⟩ := len_k3 hl
    have e2 := (show v2 = .bool false from hf _ (memI 11 rfl) (by kernel_rfl))
    subst e2
    show Option.isSome _ = true
    kernel_rfl
   ·intro vs gq stq hl hf
    obtain ⟨v0, v1, v2, rfl⟩ := len_k3 hl
    have e2 := (show v2 = .bool false from hf _ (memI 11 rfl) (by kernel_rfl))
    subst e2
    show Option.isSome _ = true
    kernel_rfl
   ·intro vs gq stq hl hf
    obtain ⟨v0, v1, v2, rfl⟩ := len_k3 hl
    have e2 := (show v2 = .bool false from hf _ (memI 11 rfl) (by kernel_rfl))
    subst e2
    show Option.isSome _ = true
    kernel_rfl
   ·intro vs gq stq hl hf
    obtain ⟨v0, v1, v2, rfl⟩ := len_k3 hl
    have e2 := (show v2 = .bool false from hf _ (memI 11 rfl) (by kernel_rfl))
    subst e2
    show Option.isSome _ = true
    kernel_rfl
   ·intro vs gq stq hl hf
    obtain ⟨v0, v1, v2, rfl⟩ := len_k3 hl
    have e2 := (show v2 = .bool false from hf _ (memI 11 rfl) (by kernel_rfl))
    subst e2
    show Option.isSome _ = true
    kernel_rfl
  ·intro j hj
   have hq : j = 0 ∨ j = 1 ∨ j = 2 := by have h : j < 3 := hj; omega
   rcases hq with rfl | rfl | rfl
   ·intro vs gq stq hl hf
    obtain ⟨v0, v1, v2, rfl⟩ := len_k3 hl
    have hB6 := (show Box gq (t + 5) b5 23 [encA .u8 d3] [8] from hf _ (memI 4 rfl) (by kernel_rfl))
    refine WP.loadB (v := AG [encA .u8 d3]) hB6 (by kernel_rfl) (by kernel_rfl) ?_
    refine WP.dn (Shown.ok (v := AG [encA .u8 d3]) (by kernel_rfl) (Step.refl _ _) ?_)
    exact ⟨tv, tv, tv, tv, tv, tv, tv, rfl, tv, tv, tv, tv, tv⟩
   ·intro vs gq stq hl hf
    obtain ⟨v0, v1, v2, rfl⟩ := len_k3 hl
    have hR49 := (show RdS Kd.bool gq 4 a49 ((imin (l2.length : Int) 12).toNat - (0 : Int).toNat) c41 (sliceI l2 0 (imin (l2.length : Int) 12)) from hf _ (memI 0 rfl) (by kernel_rfl))
    have hB3 := (show Box gq (t + 3) b3 90 [[.slice a16 n10 c14], [.map (some b4)]] [1, 1] from hf _ (memI 1 rfl) (by kernel_rfl))
    have hR16 := (show OwnS k_S_notary_entry gq (t + 10) 173 a16 n10 c14 l9 from hf _ (memI 2 rfl) (by kernel_rfl))
    have hB4 := (show MapB gq (t + 4) b4 kv_S_notary_entry (Value.int .i64) w2 from hf _ (memI 3 rfl) (by kernel_rfl))
    have hR17 := (show OwnS (Kd.arrI 8 .u8) gq (t + 7) 23 a17 n11 c15 l10 from hf _ (memI 5 rfl) (by kernel_rfl))
    have hR18 := (show RdS (Kd.slice 5 (Kd.int .u8)) gq 24 a18 n12 c16 l11 from hf _ (memI 6 rfl) (by kernel_rfl))
    have e0 := (show v0 = AG [encA .u8 d3] from hf _ (memI 7 rfl) (by kernel_rfl))
    subst e0
    have hS18 : 0 ∉ ([(t + 10), (t + 7)] : List Nat) := by simp <;> omega
    have stl18 := GW.lend_step gq [(t + 10), (t + 7)]
    have hRl36 := hR16.lendTo hS18 (by simp)
    have hRl37 := hR17.lendTo hS18 (by simp)
    refine WP.regw (g' := GW.lend gq [(t + 10), (t + 7)]) rfl ?_
    have hcal32 := P.state_Full (GW.lend gq [(t + 10), (t + 7)]) (t + 3) (t + 4) l9 w2 l10 (sliceI l2 0 (imin (l2.length : Int) 12)) d3 l11 a16 n10 c14 a17 n11 c15 a49 ((imin (l2.length : Int) 12).toNat - (0 : Int).toNat) c41 a18 n12 c16 b3 b4 hRl36 hRl37 (hR49.mono stl18 (WL.no (by simp <;> omega))) (hR18.mono stl18 (WL.no (by simp <;> omega))) (hB4.mono stl18 (WL.no (by simp <;> omega))) (hB3.mono stl18 (WL.no (by simp <;> omega))) (by omega) (by omega) (by omega) q28 hk32
    refine WP.callC hcal32 (by kernel_rfl) ?_
    rintro _ g83 st83 rfl
    have st84 := (GW.back_step st83).lentS
    have hO40 := hR16.backTo hS18 (by simp) st83 (fun x => x)
    have hO41 := hR17.backTo hS18 (by simp) st83 (fun x => x)
    refine WP.regw (g' := GW.back gq g83 [(t + 10), (t + 7)]) rfl ?_
    generalize GW.back gq g83 [(t + 10), (t + 7)] = g84 at *
    refine WP.dn (Shown.o (v := .bool q28) st84 ?_)
    exact ⟨tv, tv, tv, tv, tv, tv, tv, tv, rfl, hO40, hO41, tv, tv⟩
   ·intro vs gq stq hl hf
    obtain ⟨v0, v1, v2, rfl⟩ := len_k3 hl
    have e1 := (show v1 = .bool q28 from hf _ (memI 8 rfl) (by kernel_rfl))
    subst e1
    refine WP.stl 1 ?_
    refine WP.dn (Shown.ok (v := .bool (q28 == q9)) (by kernel_rfl) (Step.refl _ _) ?_)
    exact ⟨tv, tv, tv, tv, tv, tv, tv, tv, tv, tv, tv, congrArg Value.bool h42, tv⟩
  intro vs g94 st94 hl hf
  obtain ⟨v0, v1, v2, rfl⟩ := len_k3 hl
  have e2 := (show v2 = .bool false from hf _ (memI 11 rfl) (by kernel_rfl))
  subst e2
  replace tot := tot.trans (st94.up2 (.inr (by omega)) (.inr (by omega)))
  refine NX.post ?_
  exact ⟨false, ⟨by kernel_rfl, by kernel_rfl⟩, tot, hs⟩
 clear tot hs hR49 hB3 hR16 hB4 hB6 hR17 hR18
 rintro tm g ⟨q26, hF, tot, hs⟩
 clear ds
 obtain ⟨ds, rfl⟩ := hF.open
 clear hF
 unfold F.baizelaw32_StateFull.c4 at hs
 refine CP.ret ?_
 replace hs := Option.some.inj hs
 obtain rfl := hs
 exact NX.fin (v := .bool q26) (Res.still (by kernel_rfl)) tot htL rfl
end Go.Proofs.Ythfmgobnanifnaa
