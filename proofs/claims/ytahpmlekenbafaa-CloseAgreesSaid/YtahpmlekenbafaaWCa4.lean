/-
  Walks, written by program: each Go function computes the plain function of its name, in whatever world its arguments' facts hold.
-/
import Derived.Test.YtahpmlekenbafaaWCa3
namespace Go.Proofs.Ytahpmlekenbafaa
open Go.RowKit Go.Lab
attribute [local irreducible] WP CP NX wpList Code.wp Calls
set_option maxRecDepth 100000
set_option maxHeartbeats 4000000
set_option linter.unusedVariables false

def F.baizelaw35_CloseAgrees.c2 (nx1 : (List Bool) → Bool → Bool → Int → Option (Bool)) (x6 : Int) (l15 : List Bool) (q32 : Bool) (q33 : Bool) : Option (Bool) := (nx1 l15 q32 q33 (IntKind.i64.wrap (x6 + 1)))
def N.baizelaw35_CloseAgrees_0 : List (List Nat) := [[], [0], [0, 1], [0, 1], [0, 1, 2, 3], [0, 1, 2, 3, 4], [0, 1, 2, 3, 4, 5], [0, 1, 2, 3, 4, 5, 6], [0, 1, 2, 3, 4, 5, 6, 7], [0, 1, 2, 3, 4, 5, 6], [0, 1, 2, 3, 4, 5, 6, 7, 8, 9], [0, 1, 2, 3, 4, 5, 6, 7, 8, 9, 10], [0, 1, 2, 3, 4, 5, 6, 7, 8, 9, 10, 11], [0, 1, 2, 3, 4, 5, 6, 7, 8, 9, 10, 11, 12], [0, 1, 2, 3, 4, 5, 6, 7, 8, 9, 10, 11, 12, 13], [0, 1, 2, 3, 4, 5, 6, 7, 8, 9, 10, 11, 12], [0, 1, 2, 3, 4, 5, 6, 7, 8, 9, 10, 11, 12, 13, 14, 15], [0, 1, 2, 3, 4, 5, 6, 7, 8, 9, 10, 11, 12, 13, 14, 15, 16], [0, 1, 2, 3, 4, 5, 6, 7, 8, 9, 10, 11, 12, 13, 14, 15, 16, 17], [0, 1, 2, 3, 4, 5, 6, 7, 8, 9, 10, 11, 12, 13, 14, 15, 16, 17, 18], [0, 1, 2, 3, 4, 5, 6, 7, 8, 9, 10, 11, 12, 13, 14, 15, 16, 17], [0, 1, 2, 3, 4, 5, 6, 7, 8, 9, 10, 11, 12, 13, 14, 15, 16, 17, 18, 19, 20], [0, 1, 2, 3, 4, 5, 6, 7, 8, 9, 10, 11, 12, 13, 14, 15, 16, 17, 18, 19, 20, 21], [0, 1, 2, 3, 4, 5, 6, 7, 8, 9, 10, 11, 12, 13, 14, 15, 16, 17, 18, 19, 20, 21, 22], [0, 1, 2, 3, 4, 5, 6, 7, 8, 9, 10, 11, 12, 13, 14, 15, 16, 17, 18, 19, 20, 21, 22, 23], [0, 1, 2, 3, 4, 5, 6, 7, 8, 9, 10, 11, 12, 13, 14, 15, 16, 17, 18, 19, 20, 21, 22, 23, 24], [0, 1, 2, 3, 4, 5, 6, 7, 8, 9, 10, 11, 12, 13, 14, 15, 16, 17, 18, 19, 20, 21, 22, 23, 24, 25]]
def F.baizelaw35_CloseAgrees.c3 (nx1 : (List Bool) → Bool → Bool → Int → Option (Bool)) (l3 : List Bool) (l4 : List Bool) (l9 : List Int) (l10 : List Int) (l12 : List Bool) (q17 : Bool) (x6 : Int) (q34 : Bool) (q35 : Bool) : Option (Bool) := (if q17 = true then (if (0 : Int) ≤ x6 ∧ x6 < ((setI l12 x6 q34).length : Int) then (if (getI (setI l12 x6 q34) x6) = true then (F.baizelaw35_CloseAgrees.c2 nx1 x6 (setI l12 x6 q34) q35 true) else ((F.baizelaw35_at l3 x6).bind fun q36 => (if q36 = true then (F.baizelaw35_CloseAgrees.c2 nx1 x6 (setI l12 x6 q34) q35 true) else ((F.baizelaw35_at l4 x6).bind fun q37 => (if q37 = true then ((F.state_Payout_Digest (⟨[7, 0, 0, 0, 0, 0, 0, 0], rfl⟩ : Arr Int 8) l9).bind fun d8 => ((F.state_Payout_Digest (⟨[7, 0, 0, 0, 0, 0, 0, 0], rfl⟩ : Arr Int 8) l10).bind fun d9 => (F.baizelaw35_CloseAgrees.c2 nx1 x6 (setI l12 x6 q34) q35 (d8.1 == d9.1)))) else (F.baizelaw35_CloseAgrees.c2 nx1 x6 (setI l12 x6 q34) q35 false)))))) else none) else (F.baizelaw35_CloseAgrees.c2 nx1 x6 (setI l12 x6 q34) q35 false))
def F.baizelaw35_CloseAgrees.c5 (q39 : Bool) : Option (Bool) := (some q39)
def N.baizelaw35_CloseAgrees_1 : List (List Nat) := [[], [0], [], [], [], [], [], [0, 1, 2, 3, 4, 5, 6], [], [0, 1, 2, 3, 4, 5, 6, 7, 8], [0, 1, 2, 3, 4, 5, 6, 7, 8, 9], [0, 1, 2, 3, 4, 5, 6, 7, 8, 9, 10], [0, 1, 2, 3, 4, 5, 6, 7, 8, 9, 10, 11], [0, 1, 2, 3, 4, 5, 6, 7, 8, 9, 10], [0, 1, 2, 3, 4, 5, 6, 7, 8, 9, 10], [0, 1, 2, 3, 4, 5, 6, 7, 8, 9, 10], [0, 1, 2, 3, 4, 5, 6, 7, 8, 9, 10], [0, 1, 2, 3, 4, 5, 6, 7, 8, 9, 10], [0, 1, 2, 3, 4, 5, 6, 7, 8, 9, 10], [0, 1, 2, 3, 4, 5, 6, 7, 8, 9, 10, 17, 18], [0, 1, 2, 3, 4, 5, 6, 7, 8, 9, 10, 11, 12, 13, 14, 15, 16, 17, 18, 19], [0, 1, 2, 3, 4, 5, 6, 7, 8, 9, 10, 11, 12, 13, 14, 15, 16, 17, 18, 19, 20], [0, 1, 2, 3, 4, 5, 6, 7, 8, 9, 10, 11, 12, 13, 14, 15, 16, 17, 18, 19, 20, 21], [0, 1, 2, 3, 4, 5, 6, 7, 8, 9, 10, 11, 12, 13, 14, 15, 16, 17, 18, 19, 20, 21, 22], [0, 1, 2, 3, 4, 5, 6, 7, 8, 9, 10, 11, 12, 13, 14, 15, 16, 17, 18, 19, 20, 21, 22, 23], [0, 1, 2, 3, 4, 5, 6, 7, 8, 9, 10, 11, 12, 13, 14, 15, 16, 17, 18, 19, 20, 21, 22, 23, 24], [0, 1, 2, 3, 4, 5, 6, 7, 8, 9, 10, 11, 12, 13, 14, 15, 16, 17, 18, 19, 20, 21, 22, 23, 24, 25]]
def F.baizelaw35_CloseAgrees.c4 (x1 : Int) (l6 : List S_notary_entry) (d1 : (List (S_notary_entry × Int))) (l7 : List (Arr Int 8)) (l8 : List (List Int)) (l9 : List Int) (l12 : List Bool) (x13 : Int) : Option (Bool) := ((F.close_Agree l6 d1 (⟨[7, 0, 0, 0, 0, 0, 0, 0], rfl⟩ : Arr Int 8) l9 x1 l7 l8 l12).bind fun x16 => (if (x16 == x13) = true then (if l12.length + ([false]).length ≤ 140737488355328 then ((F.close_Agree l6 d1 (⟨[7, 0, 0, 0, 0, 0, 0, 0], rfl⟩ : Arr Int 8) l9 x1 l7 l8 (l12 ++ [false])).bind fun x17 => (if (x17 != 0) = true then ((F.baizelaw35_told).bind fun q40 => (F.baizelaw35_CloseAgrees.c5 q40)) else (F.baizelaw35_CloseAgrees.c5 false))) else none) else (F.baizelaw35_CloseAgrees.c5 false)))
def F.baizelaw35_CloseAgrees.l1 (x1 : Int) (l1 : List Int) (l3 : List Bool) (l4 : List Bool) (l5 : List Bool) (l6 : List S_notary_entry) (d1 : (List (S_notary_entry × Int))) (l7 : List (Arr Int 8)) (l8 : List (List Int)) (l9 : List Int) (l10 : List Int) : Nat → (List Bool) → Bool → Bool → Int → Option (Bool)
 | 0, _, _, _, _ => none
 | k + 1, l12, q16, q17, x6 => (if decide (x6 < (l1.length : Int)) = true then ((F.baizelaw35_at l5 x6).bind fun q34 => (if (0 : Int) ≤ x6 ∧ x6 < (l12.length : Int) then (if q16 = true then (if (0 : Int) ≤ x6 ∧ x6 < ((setI l12 x6 q34).length : Int) then (F.baizelaw35_CloseAgrees.c3 (F.baizelaw35_CloseAgrees.l1 x1 l1 l3 l4 l5 l6 d1 l7 l8 l9 l10 k) l3 l4 l9 l10 l12 q17 x6 q34 (getI (setI l12 x6 q34) x6)) else none) else (F.baizelaw35_CloseAgrees.c3 (F.baizelaw35_CloseAgrees.l1 x1 l1 l3 l4 l5 l6 d1 l7 l8 l9 l10 k) l3 l4 l9 l10 l12 q17 x6 q34 false)) else none)) else ((F.baizeref35_Adds x1 (l1.length : Int) l1).bind fun x12 => (if (x12 == 0) = true then (if q16 = true then (F.baizelaw35_CloseAgrees.c4 x1 l6 d1 l7 l8 l9 l12 28) else (if (!q17) = true then (F.baizelaw35_CloseAgrees.c4 x1 l6 d1 l7 l8 l9 l12 16) else (F.baizelaw35_CloseAgrees.c4 x1 l6 d1 l7 l8 l9 l12 x12))) else (F.baizelaw35_CloseAgrees.c4 x1 l6 d1 l7 l8 l9 l12 x12))))
def F.baizelaw35_CloseAgrees.c1 (x1 : Int) (l1 : List Int) (l2 : List Int) (l3 : List Bool) (l4 : List Bool) (l5 : List Bool) (q1 : Bool) : Option (Bool) := (if q1 = true then ((F.baizelaw35_told).bind fun q2 => (some q2)) else (if ([] : List Int).length + l1.length ≤ 17592186044416 then (if ([] : List Int).length + l2.length ≤ 17592186044416 then ((F.baizelaw35_vote_2 (⟨[7, 0, 0, 0, 0, 0, 0, 0], rfl⟩ : Arr Int 8) (([] : List Int) ++ l1) (⟨[7, 0, 0, 0, 0, 0, 0, 0], rfl⟩ : Arr Int 8) (([] : List Int) ++ l2) (l1.length : Int) l3 l4 l5).bind fun (l6, d1, l7, l8, l9, l10) => (if (0 : Int) ≤ (l1.length : Int) ∧ (l1.length : Int) ≤ 140737488355328 then (F.baizelaw35_CloseAgrees.l1 x1 l1 l3 l4 l5 l6 d1 l7 l8 l9 l10 fuel (List.replicate (l1.length : Int).toNat (false : Bool)) true true 0) else none)) else none) else none))
def F.baizelaw35_CloseAgrees (x1 : Int) (l1 : List Int) (l2 : List Int) (l3 : List Bool) (l4 : List Bool) (l5 : List Bool) : Option (Bool) := (if decide ((l1.length : Int) > 10) = true then (F.baizelaw35_CloseAgrees.c1 x1 l1 l2 l3 l4 l5 true) else (F.baizelaw35_CloseAgrees.c1 x1 l1 l2 l3 l4 l5 (decide ((l2.length : Int) > 10))))
theorem P.baizelaw35_CloseAgrees (g0 : GW) (x1 : Int) (l1 : List Int) (l2 : List Int) (l3 : List Bool) (l4 : List Bool) (l5 : List Bool) (a1 : Option Addr) (n1 : Nat) (c1 : Nat) (a2 : Option Addr) (n2 : Nat) (c2 : Nat) (a3 : Option Addr) (n3 : Nat) (c3 : Nat) (a4 : Option Addr) (n4 : Nat) (c4 : Nat) (a5 : Option Addr) (n5 : Nat) (c5 : Nat) (hR1 : RdS (Kd.int .i64) g0 3 a1 n1 c1 l1) (hR2 : RdS (Kd.int .i64) g0 3 a2 n2 c2 l2) (hR3 : RdS Kd.bool g0 4 a3 n3 c3 l3) (hR4 : RdS Kd.bool g0 4 a4 n4 c4 l4) (hR5 : RdS Kd.bool g0 4 a5 n5 c5 l5) (o1 : Bool) (hs : F.baizelaw35_CloseAgrees x1 l1 l2 l3 l4 l5 = some o1) :
  Calls Try.prog 7 #[.int .i64 x1, AG [[.slice a1 n1 c1], [.slice a2 n2 c2]], AG [[.slice a3 n3 c3], [.slice a4 n4 c4], [.slice a5 n5 c5]]] g0.w (Ret NoM g0 fun v g => v = .bool o1) := by
 refine calls_of (args := [.int .i64 x1, AG [[.slice a1 n1 c1], [.slice a2 n2 c2]], AG [[.slice a3 n3 c3], [.slice a4 n4 c4], [.slice a5 n5 c5]]]) Try.func7 rfl (0) ?_
 intro t ht htL
 refine ⟨_, rfl, ?_⟩
 refine CP.refr 140 [(0, .int .i64 x1), (1, AG [[.slice a1 n1 c1], [.slice a2 n2 c2]]), (2, AG [[.slice a3 n3 c3], [.slice a4 n4 c4], [.slice a5 n5 c5]])] (by kernel_rfl) (by kernel_rfl) ?_
 intro ds
 have tot : Step (fun l => NoM l ∨ t ≤ l) g0 g0 := Step.refl _ _
 unfold F.baizelaw35_CloseAgrees at hs
 refine CP.seqR ?_
 refine WP.alloc (T := 43) (t + 1) [[.slice a1 n1 c1], [.slice a2 n2 c2]] [1, 1] (by kernel_rfl) rfl ?_
 intro g1 b1 st1 hB1
 replace hR1 := hR1.mono st1 (fun x => x)
 replace hR2 := hR2.mono st1 (fun x => x)
 replace hR3 := hR3.mono st1 (fun x => x)
 replace hR4 := hR4.mono st1 (fun x => x)
 replace hR5 := hR5.mono st1 (fun x => x)
 replace tot := tot.trans st1.pure
 refine WP.alloc (T := 45) (t + 2) [[.slice a3 n3 c3], [.slice a4 n4 c4], [.slice a5 n5 c5]] [1, 1, 1] (by kernel_rfl) rfl ?_
 intro g2 b2 st2 hB2
 replace hR1 := hR1.mono st2 (fun x => x)
 replace hR2 := hR2.mono st2 (fun x => x)
 replace hR3 := hR3.mono st2 (fun x => x)
 replace hR4 := hR4.mono st2 (fun x => x)
 replace hR5 := hR5.mono st2 (fun x => x)
 replace hB1 := hB1.mono st2 (fun x => x)
 replace tot := tot.trans st2.pure
 refine WP.stl 1 ?_
 refine WP.dn ?_
 refine NX.then_n ?_
 refine CP.seq ?_
 refine CP.drawL (by kernel_rfl) [1, 3] [[], [0], [], [2], [0, 1], [0, 1, 2, 3, 4]] [⟨none, [], [], fun l g => Box g (t + 1) b1 43 [[.slice a1 n1 c1], [.slice a2 n2 c2]] [1, 1]⟩, ⟨some 0, [], [0], fun l g => l.getD 0 undef = .slice a1 n1 c1⟩, ⟨some 1, [], [1], fun l g => l.getD 0 undef = .slice a2 n2 c2⟩] [[], []] [] [0, 2] [4, 5] (by kernel_rfl) (by simp) (by simp) ⟨fun _ _ _ _ st h0 hl hj hB1 => (hB1.mono st (fun h => absurd (hl _ h) (by simp))), fun _ _ _ _ st h0 hl hj e0 => e0, fun _ _ _ _ st h0 hl hj e1 => e1, tv⟩ ⟨hB1, tv, tv, tv⟩ (by kernel_rfl) (fun vs => by kernel_rfl) ?_ ?_ ?_
 ·intro j hj
  have hq : j = 0 ∨ j = 1 := by have h : j < 2 := hj; omega
  rcases hq with rfl | rfl
  ·intro vs gq stq hl hf
   obtain ⟨v0, v1, rfl⟩ := len_k2 hl
   have e0 := (show v0 = .slice a1 n1 c1 from hf _ (memI 1 rfl) (by kernel_rfl))
   subst e0
   show Option.isSome _ = true
   kernel_rfl
  ·intro vs gq stq hl hf
   obtain ⟨v0, v1, rfl⟩ := len_k2 hl
   have e1 := (show v1 = .slice a2 n2 c2 from hf _ (memI 2 rfl) (by kernel_rfl))
   subst e1
   show Option.isSome _ = true
   kernel_rfl
 ·intro j hj
  have hq : j = 0 ∨ j = 1 := by have h : j < 2 := hj; omega
  rcases hq with rfl | rfl
  ·intro vs gq stq hl hf
   obtain ⟨v0, v1, rfl⟩ := len_k2 hl
   have hB1 := (show Box gq (t + 1) b1 43 [[.slice a1 n1 c1], [.slice a2 n2 c2]] [1, 1] from hf _ (memI 0 rfl) (by kernel_rfl))
   refine WP.loadB (v := .slice a1 n1 c1) hB1 (by kernel_rfl) (by kernel_rfl) ?_
   refine WP.dn (Shown.ok (v := .slice a1 n1 c1) (by kernel_rfl) (Step.refl _ _) ?_)
   exact ⟨tv, rfl, tv, tv⟩
  ·intro vs gq stq hl hf
   obtain ⟨v0, v1, rfl⟩ := len_k2 hl
   have hB1 := (show Box gq (t + 1) b1 43 [[.slice a1 n1 c1], [.slice a2 n2 c2]] [1, 1] from hf _ (memI 0 rfl) (by kernel_rfl))
   refine WP.loadB (v := .slice a2 n2 c2) hB1 (by kernel_rfl) (by kernel_rfl) ?_
   refine WP.dn (Shown.ok (v := .slice a2 n2 c2) (by kernel_rfl) (Step.refl _ _) ?_)
   exact ⟨tv, tv, rfl, tv⟩
 intro vs g3 st3 hl hf
 obtain ⟨v0, v1, rfl⟩ := len_k2 hl
 have e0 := (show v0 = .slice a1 n1 c1 from hf _ (memI 1 rfl) (by kernel_rfl))
 subst e0
 have e1 := (show v1 = .slice a2 n2 c2 from hf _ (memI 2 rfl) (by kernel_rfl))
 subst e1
 replace hB2 := hB2.mono st3.toNo (fun x => x)
 replace hR3 := hR3.mono st3.toNo (fun x => x)
 replace hR4 := hR4.mono st3.toNo (fun x => x)
 replace hR5 := hR5.mono st3.toNo (fun x => x)
 replace hR1 := hR1.mono st3.toNo (fun x => x)
 replace hR2 := hR2.mono st3.toNo (fun x => x)
 replace tot := tot.trans st3.toNo.pure
 refine NX.then_n ?_
 refine CP.refr 140 [(0, .int .i64 x1), (5, .pointer (some ⟨b2, 0, none⟩)), (7, .slice a1 n1 c1), (8, .slice a2 n2 c2)] (by kernel_rfl) (by kernel_rfl) ?_
 clear ds
 intro ds
 refine CP.seq ?_
 refine CP.cut (fun tm g => ∃ (q1 : Bool), Fr 140 [(0, .int .i64 x1), (5, .pointer (some ⟨b2, 0, none⟩)), (7, .slice a1 n1 c1), (8, .slice a2 n2 c2), (31, .bool q1)] tm ∧ Step (fun l => NoM l ∨ t ≤ l) g0 g ∧ Box g (t + 2) b2 45 [[.slice a3 n3 c3], [.slice a4 n4 c4], [.slice a5 n5 c5]] [1, 1, 1] ∧ RdS Kd.bool g 4 a3 n3 c3 l3 ∧ RdS Kd.bool g 4 a4 n4 c4 l4 ∧ RdS Kd.bool g 4 a5 n5 c5 l5 ∧ RdS (Kd.int .i64) g 3 a1 n1 c1 l1 ∧ RdS (Kd.int .i64) g 3 a2 n2 c2 l2 ∧ (F.baizelaw35_CloseAgrees.c1 x1 l1 l2 l3 l4 l5 q1) = some o1) ?_ ?_
 ·refine CP.region ?_
  refine WP.stl 1 ?_
  refine WP.len (a := a1) (cp := c1) hR1.len (by kernel_rfl) ?_
  refine WP.stl 2 ?_
  refine WP.guard 27 (b := decide ((l1.length : Int) > 10)) (by kernel_rfl) (fun h43 => ?_) (fun h43 => ?_)
  ·replace hs := of_if_t hs h43
   refine WP.stl 4 ?_
   refine WP.dn ?_
   refine NX.post ?_
   exact ⟨true, ⟨by kernel_rfl, by kernel_rfl⟩, tot, hB2, hR3, hR4, hR5, hR1, hR2, hs⟩
  replace hs := of_if_f hs h43
  refine WP.stl 1 ?_
  refine WP.len (a := a2) (cp := c2) hR2.len (by kernel_rfl) ?_
  refine WP.stl 2 ?_
  refine WP.dn ?_
  refine NX.post ?_
  exact ⟨decide ((l2.length : Int) > 10), ⟨by kernel_rfl, by kernel_rfl⟩, tot, hB2, hR3, hR4, hR5, hR1, hR2, hs⟩
 clear tot hs hB2 hR3 hR4 hR5 hR1 hR2
 rintro tm g ⟨q1, hF, tot, hB2, hR3, hR4, hR5, hR1, hR2, hs⟩
 clear ds
 obtain ⟨ds, rfl⟩ := hF.open
 clear hF
 unfold F.baizelaw35_CloseAgrees.c1 at hs
 refine CP.cond (b := q1) (by kernel_rfl) (fun h2 => ?_) (fun h2 => ?_)
 ·replace hs := of_if_t hs h2
  refine CP.seqR ?_
  replace hs := Option.bind_eq_some_iff.1 hs
  obtain ⟨q2, hk1, hs⟩ := hs
  have hcal1 := P.baizelaw35_told g q2 hk1
  refine WP.callC hcal1 (by kernel_rfl) ?_
  rintro _ g4 st4 rfl
  replace hB2 := hB2.mono st4 (fun x => x)
  replace hR3 := hR3.mono st4 (fun x => x)
  replace hR4 := hR4.mono st4 (fun x => x)
  replace hR5 := hR5.mono st4 (fun x => x)
  replace hR1 := hR1.mono st4 (fun x => x)
  replace hR2 := hR2.mono st4 (fun x => x)
  replace tot := tot.trans st4.pure
  refine WP.stl 1 ?_
  refine WP.dn ?_
  refine NX.then_n ?_
  refine CP.ret ?_
  refine NX.then_r ?_
  replace hs := Option.some.inj hs
  obtain rfl := hs
  exact NX.fin (v := .bool q2) (Res.still (by kernel_rfl)) tot htL rfl
 replace hs := of_if_f hs h2
 refine CP.skip ?_
 refine NX.then_n ?_
 refine CP.seqR ?_
 refine WP.stl 1 ?_
 refine WP.mkSl (kd := (Kd.int .i64)) (t := 22) (e := 3) (bytes := 8) (t + 3) [] ([] : List Int) (by kernel_rfl) (by kernel_rfl) (Nat.le_of_ble_eq_true rfl) (Nat.le_of_ble_eq_true rfl) all_nil (rfl) rfl ?_
 intro g5 a6 st5 hR6
 replace hB2 := hB2.mono st5 (fun x => x)
 replace hR3 := hR3.mono st5 (fun x => x)
 replace hR4 := hR4.mono st5 (fun x => x)
 replace hR5 := hR5.mono st5 (fun x => x)
 replace hR1 := hR1.mono st5 (fun x => x)
 replace hR2 := hR2.mono st5 (fun x => x)
 replace tot := tot.trans st5.pure
 refine WP.stl 1 ?_
 by_cases hc1 : ([] : List Int).length + l1.length ≤ 17592186044416
 case neg => rw [if_neg hc1] at hs; cases hs
 replace hs := of_if_p hs hc1
 refine WP.append (kd := (Kd.int .i64)) (t := 22) (e := 3) (bytes := 8) (a2 := a1) (c2 := c1) hR6 hR1.src hR1.len (by kernel_rfl) (by kernel_rfl) (by omega) (by simp only [maxLen]; omega) (by omega) ?_
 intro g6 a7 c6 st6 hR7
 replace hB2 := hB2.mono st6 (WL.no1 (by omega))
 replace hR3 := hR3.mono st6 (WL.no1 (by omega))
 replace hR4 := hR4.mono st6 (WL.no1 (by omega))
 replace hR5 := hR5.mono st6 (WL.no1 (by omega))
 replace hR1 := hR1.mono st6 (WL.no1 (by omega))
 replace hR2 := hR2.mono st6 (WL.no1 (by omega))
 replace tot := tot.trans (st6.up1 (.inr (by omega)))
 refine WP.buildS (places := #[(0, 8), (8, 1)]) (t := 49) [encA .u8 (zA 8), [.slice none 0 0]] [8, 1] (by kernel_rfl) (by kernel_rfl) (by simp [len_encA]) (by kernel_rfl) ((.cons (i := 0) (off := 0) (v := AG [encA .u8 (⟨[7, 0, 0, 0, 0, 0, 0, 0], rfl⟩ : Arr Int 8)]) (mid := [encA .u8 (⟨[7, 0, 0, 0, 0, 0, 0, 0], rfl⟩ : Arr Int 8), [.slice none 0 0]]) [encA .u8 (⟨[7, 0, 0, 0, 0, 0, 0, 0], rfl⟩ : Arr Int 8)] [8] (by kernel_rfl) (by kernel_rfl) (by simp [len_encA]) (by kernel_rfl) (.cons (i := 1) (off := 8) (v := .slice a7 (0 + n1) c6) (mid := [encA .u8 (⟨[7, 0, 0, 0, 0, 0, 0, 0], rfl⟩ : Arr Int 8), [.slice a7 (0 + n1) c6]]) [[.slice a7 (0 + n1) c6]] [1] (by kernel_rfl) (by kernel_rfl) rfl (by kernel_rfl) .nil))) ?_
 refine WP.alloc (T := 49) (t + 4) [encA .u8 (zA 8), [.slice none 0 0]] [8, 1] (by kernel_rfl) (by simp [len_encA]) ?_
 intro g7 b3 st7 hB3
 replace hB2 := hB2.mono st7 (fun x => x)
 replace hR3 := hR3.mono st7 (fun x => x)
 replace hR4 := hR4.mono st7 (fun x => x)
 replace hR5 := hR5.mono st7 (fun x => x)
 replace hR1 := hR1.mono st7 (fun x => x)
 replace hR2 := hR2.mono st7 (fun x => x)
 replace hR7 := hR7.mono st7 (fun x => x) (fun x => x)
 replace tot := tot.trans st7.pure
 refine WP.storeB (ty := 49) (off := 0) (v := AG [encA .u8 (⟨[7, 0, 0, 0, 0, 0, 0, 0], rfl⟩ : Arr Int 8), [.slice a7 (0 + n1) c6]]) hB3 [encA .u8 (⟨[7, 0, 0, 0, 0, 0, 0, 0], rfl⟩ : Arr Int 8), [.slice a7 (0 + n1) c6]] [8, 1] (by kernel_rfl) (by kernel_rfl) (by simp [len_encA]) (by kernel_rfl) [encA .u8 (⟨[7, 0, 0, 0, 0, 0, 0, 0], rfl⟩ : Arr Int 8), [.slice a7 (0 + n1) c6]] (by kernel_rfl) (.arr (.one rfl .nil)) ?_
 intro g8 st8 hB4
 replace hB2 := hB2.mono st8 (WL.no1 (by omega))
 replace hR3 := hR3.mono st8 (WL.no1 (by omega))
 replace hR4 := hR4.mono st8 (WL.no1 (by omega))
 replace hR5 := hR5.mono st8 (WL.no1 (by omega))
 replace hR1 := hR1.mono st8 (WL.no1 (by omega))
 replace hR2 := hR2.mono st8 (WL.no1 (by omega))
 replace hR7 := hR7.mono st8 (WL.no1 (by omega)) (WL.no1 (by omega))
 replace tot := tot.trans (st8.up1 (.inr (by omega)))
 clear hB3
 have hB3 := hB4
 clear hB4
 refine WP.dn ?_
 refine NX.then_n ?_
 refine CP.seqR ?_
 refine WP.stl 1 ?_
 refine WP.mkSl (kd := (Kd.int .i64)) (t := 22) (e := 3) (bytes := 8) (t + 5) [] ([] : List Int) (by kernel_rfl) (by kernel_rfl) (Nat.le_of_ble_eq_true rfl) (Nat.le_of_ble_eq_true rfl) all_nil (rfl) rfl ?_
 intro g9 a8 st9 hR8
 replace hB2 := hB2.mono st9 (fun x => x)
 replace hR3 := hR3.mono st9 (fun x => x)
 replace hR4 := hR4.mono st9 (fun x => x)
 replace hR5 := hR5.mono st9 (fun x => x)
 replace hR1 := hR1.mono st9 (fun x => x)
 replace hR2 := hR2.mono st9 (fun x => x)
 replace hB3 := hB3.mono st9 (fun x => x)
 replace hR7 := hR7.mono st9 (fun x => x) (fun x => x)
 replace tot := tot.trans st9.pure
 refine WP.stl 1 ?_
 by_cases hc2 : ([] : List Int).length + l2.length ≤ 17592186044416
 case neg => rw [if_neg hc2] at hs; cases hs
 replace hs := of_if_p hs hc2
 refine WP.append (kd := (Kd.int .i64)) (t := 22) (e := 3) (bytes := 8) (a2 := a2) (c2 := c2) hR8 hR2.src hR2.len (by kernel_rfl) (by kernel_rfl) (by omega) (by simp only [maxLen]; omega) (by omega) ?_
 intro g10 a9 c7 st10 hR9
 replace hB2 := hB2.mono st10 (WL.no1 (by omega))
 replace hR3 := hR3.mono st10 (WL.no1 (by omega))
 replace hR4 := hR4.mono st10 (WL.no1 (by omega))
 replace hR5 := hR5.mono st10 (WL.no1 (by omega))
 replace hR1 := hR1.mono st10 (WL.no1 (by omega))
 replace hR2 := hR2.mono st10 (WL.no1 (by omega))
 replace hB3 := hB3.mono st10 (WL.no1 (by omega))
 replace hR7 := hR7.mono st10 (WL.no1 (by omega)) (WL.no1 (by omega))
 replace tot := tot.trans (st10.up1 (.inr (by omega)))
 refine WP.buildS (places := #[(0, 8), (8, 1)]) (t := 49) [encA .u8 (zA 8), [.slice none 0 0]] [8, 1] (by kernel_rfl) (by kernel_rfl) (by simp [len_encA]) (by kernel_rfl) ((.cons (i := 0) (off := 0) (v := AG [encA .u8 (⟨[7, 0, 0, 0, 0, 0, 0, 0], rfl⟩ : Arr Int 8)]) (mid := [encA .u8 (⟨[7, 0, 0, 0, 0, 0, 0, 0], rfl⟩ : Arr Int 8), [.slice none 0 0]]) [encA .u8 (⟨[7, 0, 0, 0, 0, 0, 0, 0], rfl⟩ : Arr Int 8)] [8] (by kernel_rfl) (by kernel_rfl) (by simp [len_encA]) (by kernel_rfl) (.cons (i := 1) (off := 8) (v := .slice a9 (0 + n2) c7) (mid := [encA .u8 (⟨[7, 0, 0, 0, 0, 0, 0, 0], rfl⟩ : Arr Int 8), [.slice a9 (0 + n2) c7]]) [[.slice a9 (0 + n2) c7]] [1] (by kernel_rfl) (by kernel_rfl) rfl (by kernel_rfl) .nil))) ?_
 refine WP.alloc (T := 49) (t + 6) [encA .u8 (zA 8), [.slice none 0 0]] [8, 1] (by kernel_rfl) (by simp [len_encA]) ?_
 intro g11 b4 st11 hB5
 replace hB2 := hB2.mono st11 (fun x => x)
 replace hR3 := hR3.mono st11 (fun x => x)
 replace hR4 := hR4.mono st11 (fun x => x)
 replace hR5 := hR5.mono st11 (fun x => x)
 replace hR1 := hR1.mono st11 (fun x => x)
 replace hR2 := hR2.mono st11 (fun x => x)
 replace hB3 := hB3.mono st11 (fun x => x)
 replace hR7 := hR7.mono st11 (fun x => x) (fun x => x)
 replace hR9 := hR9.mono st11 (fun x => x) (fun x => x)
 replace tot := tot.trans st11.pure
 refine WP.storeB (ty := 49) (off := 0) (v := AG [encA .u8 (⟨[7, 0, 0, 0, 0, 0, 0, 0], rfl⟩ : Arr Int 8), [.slice a9 (0 + n2) c7]]) hB5 [encA .u8 (⟨[7, 0, 0, 0, 0, 0, 0, 0], rfl⟩ : Arr Int 8), [.slice a9 (0 + n2) c7]] [8, 1] (by kernel_rfl) (by kernel_rfl) (by simp [len_encA]) (by kernel_rfl) [encA .u8 (⟨[7, 0, 0, 0, 0, 0, 0, 0], rfl⟩ : Arr Int 8), [.slice a9 (0 + n2) c7]] (by kernel_rfl) (.arr (.one rfl .nil)) ?_
 intro g12 st12 hB6
 replace hB2 := hB2.mono st12 (WL.no1 (by omega))
 replace hR3 := hR3.mono st12 (WL.no1 (by omega))
 replace hR4 := hR4.mono st12 (WL.no1 (by omega))
 replace hR5 := hR5.mono st12 (WL.no1 (by omega))
 replace hR1 := hR1.mono st12 (WL.no1 (by omega))
 replace hR2 := hR2.mono st12 (WL.no1 (by omega))
 replace hB3 := hB3.mono st12 (WL.no1 (by omega))
 replace hR7 := hR7.mono st12 (WL.no1 (by omega)) (WL.no1 (by omega))
 replace hR9 := hR9.mono st12 (WL.no1 (by omega)) (WL.no1 (by omega))
 replace tot := tot.trans (st12.up1 (.inr (by omega)))
 clear hB5
 have hB5 := hB6
 clear hB6
 refine WP.dn ?_
 refine NX.then_n ?_
 refine CP.refr 140 [(0, .int .i64 x1), (5, .pointer (some ⟨b2, 0, none⟩)), (7, .slice a1 n1 c1), (9, .pointer (some ⟨b3, 0, none⟩)), (10, .pointer (some ⟨b4, 0, none⟩))] (by kernel_rfl) (by kernel_rfl) ?_
 clear ds
 intro ds
 refine CP.seqR ?_
 refine WP.stl 1 ?_
 refine WP.len (a := a1) (cp := c1) hR1.len (by kernel_rfl) ?_
 refine WP.stl 1 ?_
 refine WP.dn ?_
 refine NX.then_n ?_
 refine CP.seqR ?_
 refine WP.loadB (v := AG [encA .u8 (⟨[7, 0, 0, 0, 0, 0, 0, 0], rfl⟩ : Arr Int 8), [.slice a7 (0 + n1) c6]]) hB3 (by kernel_rfl) (by kernel_rfl) ?_
 refine WP.loadB (v := AG [encA .u8 (⟨[7, 0, 0, 0, 0, 0, 0, 0], rfl⟩ : Arr Int 8), [.slice a9 (0 + n2) c7]]) hB5 (by kernel_rfl) (by kernel_rfl) ?_
 refine WP.stl 1 ?_
 refine WP.loadB (v := AG [[.slice a3 n3 c3], [.slice a4 n4 c4], [.slice a5 n5 c5]]) hB2 (by kernel_rfl) (by kernel_rfl) ?_
 replace hs := Option.bind_eq_some_iff.1 hs
 obtain ⟨⟨l6, d1, l7, l8, l9, l10⟩, hk2, hs⟩ := hs
 dsimp only at hs
 have hcal2 := P.baizelaw35_vote_2 g12 (t + 3) (t + 5) (t + 7) (t + 8) (t + 9) (t + 10) (t + 11) (⟨[7, 0, 0, 0, 0, 0, 0, 0], rfl⟩ : Arr Int 8) (([] : List Int) ++ l1) (⟨[7, 0, 0, 0, 0, 0, 0, 0], rfl⟩ : Arr Int 8) (([] : List Int) ++ l2) (l1.length : Int) l3 l4 l5 a7 (0 + n1) c6 a9 (0 + n2) c7 a3 n3 c3 a4 n4 c4 a5 n5 c5 hR7 hR9 hR3 hR4 hR5 (by omega) (by omega) (by omega) l6 d1 l7 l8 l9 l10 hk2
 refine WP.callC hcal2 (by kernel_rfl) ?_
 rintro _ g13 st13 ⟨b5, a10, n6, c8, b6, a11, n7, c9, a12, n8, c10, rfl, hB7, hR10, hB8, hR11, hR12, hO1, hO2⟩
 replace hB2 := hB2.mono st13 (WL.no2 (by omega) (by omega))
 replace hR3 := hR3.mono st13 (WL.no2 (by omega) (by omega))
 replace hR4 := hR4.mono st13 (WL.no2 (by omega) (by omega))
 replace hR5 := hR5.mono st13 (WL.no2 (by omega) (by omega))
 replace hR1 := hR1.mono st13 (WL.no2 (by omega) (by omega))
 replace hB3 := hB3.mono st13 (WL.no2 (by omega) (by omega))
 replace hB5 := hB5.mono st13 (WL.no2 (by omega) (by omega))
 replace tot := tot.trans (st13.up2 (.inr (by omega)) (.inr (by omega)))
 clear hR7
 have hR7 : OwnS (Kd.int .i64) g13 (t + 3) 3 a7 (0 + n1) c6 l9 := hO1
 clear hO1
 clear hR9
 have hR9 : OwnS (Kd.int .i64) g13 (t + 5) 3 a9 (0 + n2) c7 l10 := hO2
 clear hO2
 refine WP.stl 7 ?_
 refine WP.dn ?_
 refine NX.then_n ?_
 refine CP.refr 140 [(0, .int .i64 x1), (5, .pointer (some ⟨b2, 0, none⟩)), (7, .slice a1 n1 c1), (9, .pointer (some ⟨b3, 0, none⟩)), (10, .pointer (some ⟨b4, 0, none⟩)), (11, .int .i64 (l1.length : Int)), (12, .pointer (some ⟨b5, 0, none⟩)), (13, .slice a11 n7 c9), (14, .slice a12 n8 c10)] (by kernel_rfl) (by kernel_rfl) ?_
 clear ds
 intro ds
 refine CP.seq ?_
 refine CP.seqR ?_
 refine WP.stl 2 ?_
 refine WP.dn ?_
 refine NX.then_n ?_
 refine CP.cond_f (by kernel_rfl) ?_
 refine CP.skip ?_
 refine NX.then_n ?_
 refine CP.seqR ?_
 refine WP.stl 1 ?_
 by_cases hc3 : (0 : Int) ≤ (l1.length : Int) ∧ (l1.length : Int) ≤ 140737488355328
 case neg => rw [if_neg hc3] at hs; cases hs
 replace hs := of_if_p hs hc3
 refine WP.make (kd := Kd.bool) (t + 12) (t := 28) (e := 4) (bytes := 1) (kl := .i64) (kc := .i64) (i := (l1.length : Int)) (by kernel_rfl) (by kernel_rfl) (by omega) (by omega) (by omega) (z := false) (by intro zv hz; cases hz; exact (by exact rfl)) ?_
 intro g14 a13 st14 hR13
 replace hB2 := hB2.mono st14 (fun x => x)
 replace hR3 := hR3.mono st14 (fun x => x)
 replace hR4 := hR4.mono st14 (fun x => x)
 replace hR5 := hR5.mono st14 (fun x => x)
 replace hR1 := hR1.mono st14 (fun x => x)
 replace hB3 := hB3.mono st14 (fun x => x)
 replace hR7 := hR7.mono st14 (fun x => x) (fun x => x)
 replace hB5 := hB5.mono st14 (fun x => x)
 replace hR9 := hR9.mono st14 (fun x => x) (fun x => x)
 replace hB7 := hB7.mono st14 (fun x => x)
 replace hR10 := hR10.mono st14 (fun x => x) (fun x => x)
 replace hB8 := hB8.mono st14 (fun x => x)
 replace hR11 := hR11.mono st14 (fun x => x) (fun x => x)
 replace hR12 := hR12.mono st14 (fun x => x) (fun x => x)
 replace tot := tot.trans st14.pure
 refine WP.stl 1 ?_
 refine WP.dn ?_
 refine NX.then_n ?_
 refine CP.seqR ?_
 refine WP.stl 2 ?_
 refine WP.dn ?_
 refine NX.then_n ?_
 refine CP.seq ?_
 refine CP.seqR ?_
 refine WP.stl 1 ?_
 refine WP.dn ?_
 refine NX.then_n ?_
 refine CP.block ?_
 generalize fuel = k1 at hs
 refine CP.loop (fun k1 tm g => ∃ (l12 : List Bool) (a17 : Option Addr) (n10 : Nat) (c13 : Nat) (q16 : Bool) (q17 : Bool) (x6 : Int), Fr 140 [(0, .int .i64 x1), (5, .pointer (some ⟨b2, 0, none⟩)), (7, .slice a1 n1 c1), (9, .pointer (some ⟨b3, 0, none⟩)), (10, .pointer (some ⟨b4, 0, none⟩)), (11, .int .i64 (l1.length : Int)), (12, .pointer (some ⟨b5, 0, none⟩)), (13, .slice a11 n7 c9), (14, .slice a12 n8 c10), (15, .slice a17 n10 c13), (16, .bool q16), (17, .bool q17), (18, .int .i64 x6)] tm ∧ Step (fun l => NoM l ∨ t ≤ l) g0 g ∧ Box g (t + 2) b2 45 [[.slice a3 n3 c3], [.slice a4 n4 c4], [.slice a5 n5 c5]] [1, 1, 1] ∧ RdS Kd.bool g 4 a3 n3 c3 l3 ∧ RdS Kd.bool g 4 a4 n4 c4 l4 ∧ RdS Kd.bool g 4 a5 n5 c5 l5 ∧ RdS (Kd.int .i64) g 3 a1 n1 c1 l1 ∧ Box g (t + 4) b3 49 [encA .u8 (⟨[7, 0, 0, 0, 0, 0, 0, 0], rfl⟩ : Arr Int 8), [.slice a7 (0 + n1) c6]] [8, 1] ∧ OwnS (Kd.int .i64) g (t + 3) 3 a7 (0 + n1) c6 l9 ∧ Box g (t + 6) b4 49 [encA .u8 (⟨[7, 0, 0, 0, 0, 0, 0, 0], rfl⟩ : Arr Int 8), [.slice a9 (0 + n2) c7]] [8, 1] ∧ OwnS (Kd.int .i64) g (t + 5) 3 a9 (0 + n2) c7 l10 ∧ Box g (t + 7) b5 91 [[.slice a10 n6 c8], [.map (some b6)]] [1, 1] ∧ OwnS k_S_notary_entry g (t + 8) 136 a10 n6 c8 l6 ∧ MapB g (t + 9) b6 kv_S_notary_entry (Value.int .i64) d1 ∧ OwnS (Kd.arrI 8 .u8) g (t + 10) 47 a11 n7 c9 l7 ∧ OwnS (Kd.slice 5 (Kd.int .u8)) g (t + 11) 74 a12 n8 c10 l8 ∧ OwnS Kd.bool g (t + 12) 4 a17 n10 c13 l12 ∧ F.baizelaw35_CloseAgrees.l1 x1 l1 l3 l4 l5 l6 d1 l7 l8 l9 l10 k1 l12 q16 q17 x6 = some o1) k1 ?_ ?_ ?_
 ·exact ⟨(List.replicate (l1.length : Int).toNat (false : Bool)), a13, (l1.length : Int).toNat, (l1.length : Int).toNat, true, true, 0, ⟨by kernel_rfl, by kernel_rfl⟩, tot, hB2, hR3, hR4, hR5, hR1, hB3, hR7, hB5, hR9, hB7, hR10, hB8, hR11, hR12, hR13, hs⟩
 ·rintro tm g ⟨l12, a17, n10, c13, q16, q17, x6, hF, tot, hB2, hR3, hR4, hR5, hR1, hB3, hR7, hB5, hR9, hB7, hR10, hB8, hR11, hR12, hR17, hs⟩
  exact absurd hs (by simp [F.baizelaw35_CloseAgrees.l1])
 clear tot hs hB2 hR3 hR4 hR5 hR1 hB3 hR7 hB5 hR9 hB7 hR10 hB8 hR11 hR12 hR13
 rintro k1 tm g ⟨l12, a17, n10, c13, q16, q17, x6, hF, tot, hB2, hR3, hR4, hR5, hR1, hB3, hR7, hB5, hR9, hB7, hR10, hB8, hR11, hR12, hR17, hs⟩
 clear ds
 obtain ⟨ds, rfl⟩ := hF.open
 clear hF
 unfold F.baizelaw35_CloseAgrees.l1 at hs
 refine CP.seq ?_
 refine CP.seqR ?_
 refine WP.stl 3 ?_
 refine WP.dn ?_
 refine NX.then_n ?_
 refine CP.cond (b := decide (x6 < (l1.length : Int))) (by kernel_rfl) (fun h21 => ?_) (fun h21 => ?_)
 ·replace hs := of_if_t hs h21
  refine CP.skip ?_
  refine NX.then_n ?_
  refine CP.cut (fun tm g => ∃ (l15 : List Bool) (a22 : Option Addr) (n13 : Nat) (c17 : Nat) (q32 : Bool) (q33 : Bool), Fr 140 [(0, .int .i64 x1), (5, .pointer (some ⟨b2, 0, none⟩)), (7, .slice a1 n1 c1), (9, .pointer (some ⟨b3, 0, none⟩)), (10, .pointer (some ⟨b4, 0, none⟩)), (11, .int .i64 (l1.length : Int)), (12, .pointer (some ⟨b5, 0, none⟩)), (13, .slice a11 n7 c9), (14, .slice a12 n8 c10), (15, .slice a22 n13 c17), (16, .bool q32), (17, .bool q33), (18, .int .i64 x6)] tm ∧ Step (fun l => NoM l ∨ t ≤ l) g0 g ∧ Box g (t + 2) b2 45 [[.slice a3 n3 c3], [.slice a4 n4 c4], [.slice a5 n5 c5]] [1, 1, 1] ∧ RdS Kd.bool g 4 a3 n3 c3 l3 ∧ RdS Kd.bool g 4 a4 n4 c4 l4 ∧ RdS Kd.bool g 4 a5 n5 c5 l5 ∧ RdS (Kd.int .i64) g 3 a1 n1 c1 l1 ∧ Box g (t + 4) b3 49 [encA .u8 (⟨[7, 0, 0, 0, 0, 0, 0, 0], rfl⟩ : Arr Int 8), [.slice a7 (0 + n1) c6]] [8, 1] ∧ OwnS (Kd.int .i64) g (t + 3) 3 a7 (0 + n1) c6 l9 ∧ Box g (t + 6) b4 49 [encA .u8 (⟨[7, 0, 0, 0, 0, 0, 0, 0], rfl⟩ : Arr Int 8), [.slice a9 (0 + n2) c7]] [8, 1] ∧ OwnS (Kd.int .i64) g (t + 5) 3 a9 (0 + n2) c7 l10 ∧ Box g (t + 7) b5 91 [[.slice a10 n6 c8], [.map (some b6)]] [1, 1] ∧ OwnS k_S_notary_entry g (t + 8) 136 a10 n6 c8 l6 ∧ MapB g (t + 9) b6 kv_S_notary_entry (Value.int .i64) d1 ∧ OwnS (Kd.arrI 8 .u8) g (t + 10) 47 a11 n7 c9 l7 ∧ OwnS (Kd.slice 5 (Kd.int .u8)) g (t + 11) 74 a12 n8 c10 l8 ∧ OwnS Kd.bool g (t + 12) 4 a22 n13 c17 l15 ∧ (F.baizelaw35_CloseAgrees.c2 (F.baizelaw35_CloseAgrees.l1 x1 l1 l3 l4 l5 l6 d1 l7 l8 l9 l10 k1) x6 l15 q32 q33) = some o1) ?_ ?_
  ·refine CP.block ?_
   refine CP.seqR ?_
   refine WP.stl 3 ?_
   refine WP.loadB (v := .slice a5 n5 c5) hB2 (by kernel_rfl) (by kernel_rfl) ?_
   refine WP.stl 1 ?_
   replace hs := Option.bind_eq_some_iff.1 hs
   obtain ⟨q34, hk26, hs⟩ := hs
   have hcal26 := P.baizelaw35_at g l5 x6 a5 n5 c5 hR5 q34 hk26
   refine WP.callC hcal26 (by kernel_rfl) ?_
   rintro _ g55 st55 rfl
   replace hB2 := hB2.mono st55 (fun x => x)
   replace hR3 := hR3.mono st55 (fun x => x)
   replace hR4 := hR4.mono st55 (fun x => x)
   replace hR5 := hR5.mono st55 (fun x => x)
   replace hR1 := hR1.mono st55 (fun x => x)
   replace hB3 := hB3.mono st55 (fun x => x)
   replace hR7 := hR7.mono st55 (fun x => x) (fun x => x)
   replace hB5 := hB5.mono st55 (fun x => x)
   replace hR9 := hR9.mono st55 (fun x => x) (fun x => x)
   replace hB7 := hB7.mono st55 (fun x => x)
   replace hR10 := hR10.mono st55 (fun x => x) (fun x => x)
   replace hB8 := hB8.mono st55 (fun x => x)
   replace hR11 := hR11.mono st55 (fun x => x) (fun x => x)
   replace hR12 := hR12.mono st55 (fun x => x) (fun x => x)
   replace hR17 := hR17.mono st55 (fun x => x) (fun x => x)
   replace tot := tot.trans st55.pure
   by_cases hc16 : (0 : Int) ≤ x6 ∧ x6 < (l12.length : Int)
   case neg => rw [if_neg hc16] at hs; cases hs
   replace hs := of_if_p hs hc16
   obtain ⟨b17, u11, ha11⟩ := hR17.at hc16
   refine WP.indexA (t := 28) (e := 4) (sz := 1) (cap := c13) (k := .i64) (i := x6) hR17.len ha11 (by kernel_rfl) (by kernel_rfl) hc16 ?_
   refine WP.storeO (ty := 4) (v := .bool q34) hR17 (by omega) (i := x6.toNat) (by first | omega | (simp only [setI_length] at *; omega)) ha11 (by kernel_rfl) (x := q34) (by exact rfl) (by kernel_rfl) ?_
   intro g56 st56 hO32
   replace hB2 := hB2.mono st56 (WL.no1 (by omega))
   replace hR3 := hR3.mono st56 (WL.no1 (by omega))
   replace hR4 := hR4.mono st56 (WL.no1 (by omega))
   replace hR5 := hR5.mono st56 (WL.no1 (by omega))
   replace hR1 := hR1.mono st56 (WL.no1 (by omega))
   replace hB3 := hB3.mono st56 (WL.no1 (by omega))
   replace hR7 := hR7.mono st56 (WL.no1 (by omega)) (WL.no1 (by omega))
   replace hB5 := hB5.mono st56 (WL.no1 (by omega))
   replace hR9 := hR9.mono st56 (WL.no1 (by omega)) (WL.no1 (by omega))
   replace hB7 := hB7.mono st56 (WL.no1 (by omega))
   replace hR10 := hR10.mono st56 (WL.no1 (by omega)) (WL.no1 (by omega))
   replace hB8 := hB8.mono st56 (WL.no1 (by omega))
   replace hR11 := hR11.mono st56 (WL.no1 (by omega)) (WL.no1 (by omega))
   replace hR12 := hR12.mono st56 (WL.no1 (by omega)) (WL.no1 (by omega))
   replace tot := tot.trans (st56.up1 (.inr (by omega)))
   clear hR17
   have hR17 : OwnS Kd.bool g56 (t + 12) 4 a17 n10 c13 (setI l12 x6 q34) := hO32
   clear hO32
   refine WP.dn ?_
   refine NX.then_n ?_
   refine CP.cut (fun tm g => ∃ (q35 : Bool), Fr 140 [(0, .int .i64 x1), (5, .pointer (some ⟨b2, 0, none⟩)), (7, .slice a1 n1 c1), (9, .pointer (some ⟨b3, 0, none⟩)), (10, .pointer (some ⟨b4, 0, none⟩)), (11, .int .i64 (l1.length : Int)), (12, .pointer (some ⟨b5, 0, none⟩)), (13, .slice a11 n7 c9), (14, .slice a12 n8 c10), (15, .slice a17 n10 c13), (16, .bool q35), (17, .bool q17), (18, .int .i64 x6)] tm ∧ Step (fun l => NoM l ∨ t ≤ l) g0 g ∧ Box g (t + 2) b2 45 [[.slice a3 n3 c3], [.slice a4 n4 c4], [.slice a5 n5 c5]] [1, 1, 1] ∧ RdS Kd.bool g 4 a3 n3 c3 l3 ∧ RdS Kd.bool g 4 a4 n4 c4 l4 ∧ RdS Kd.bool g 4 a5 n5 c5 l5 ∧ RdS (Kd.int .i64) g 3 a1 n1 c1 l1 ∧ Box g (t + 4) b3 49 [encA .u8 (⟨[7, 0, 0, 0, 0, 0, 0, 0], rfl⟩ : Arr Int 8), [.slice a7 (0 + n1) c6]] [8, 1] ∧ OwnS (Kd.int .i64) g (t + 3) 3 a7 (0 + n1) c6 l9 ∧ Box g (t + 6) b4 49 [encA .u8 (⟨[7, 0, 0, 0, 0, 0, 0, 0], rfl⟩ : Arr Int 8), [.slice a9 (0 + n2) c7]] [8, 1] ∧ OwnS (Kd.int .i64) g (t + 5) 3 a9 (0 + n2) c7 l10 ∧ Box g (t + 7) b5 91 [[.slice a10 n6 c8], [.map (some b6)]] [1, 1] ∧ OwnS k_S_notary_entry g (t + 8) 136 a10 n6 c8 l6 ∧ MapB g (t + 9) b6 kv_S_notary_entry (Value.int .i64) d1 ∧ OwnS (Kd.arrI 8 .u8) g (t + 10) 47 a11 n7 c9 l7 ∧ OwnS (Kd.slice 5 (Kd.int .u8)) g (t + 11) 74 a12 n8 c10 l8 ∧ OwnS Kd.bool g (t + 12) 4 a17 n10 c13 (setI l12 x6 q34) ∧ (F.baizelaw35_CloseAgrees.c3 (F.baizelaw35_CloseAgrees.l1 x1 l1 l3 l4 l5 l6 d1 l7 l8 l9 l10 k1) l3 l4 l9 l10 l12 q17 x6 q34 q35) = some o1) ?_ ?_
   ·refine CP.region ?_
    refine WP.stl 2 ?_
    refine WP.guard 71 (b := q16) (by kernel_rfl) (fun h32 => ?_) (fun h32 => ?_)
    ·replace hs := of_if_t hs h32
     refine WP.stl 2 ?_
     by_cases hc19 : (0 : Int) ≤ x6 ∧ x6 < ((setI l12 x6 q34).length : Int)
     case neg => rw [if_neg hc19] at hs; cases hs
     replace hs := of_if_p hs hc19
     obtain ⟨b20, u14, ha14⟩ := hR17.at (i := x6) (by first | exact hc19 | simpa only [setI_length] using hc19)
     refine WP.indexA (t := 28) (e := 4) (sz := 1) (cap := c13) (k := .i64) (i := x6) hR17.len ha14 (by kernel_rfl) (by kernel_rfl) hc19 ?_
     obtain ⟨cs10, hcR10, hcV10⟩ := hR17.src.view (getI_some hc19) ha14
     replace hcR10 := Kd.o_bool hcR10
     refine WP.loadV [[.bool (getI (setI l12 x6 q34) x6)]] [1] hcV10 hcR10 rfl (f := 0) (ty := 4) (agg := false) (size := 1) (rs := [[.bool (getI (setI l12 x6 q34) x6)]]) (v := .bool (getI (setI l12 x6 q34) x6)) (by kernel_rfl) (by kernel_rfl) (by kernel_rfl) (by kernel_rfl) ?_
     refine WP.stl 2 ?_
     refine WP.dn ?_
     refine NX.post ?_
     exact ⟨(getI (setI l12 x6 q34) x6), ⟨by kernel_rfl, by kernel_rfl⟩, tot, hB2, hR3, hR4, hR5, hR1, hB3, hR7, hB5, hR9, hB7, hR10, hB8, hR11, hR12, hR17, hs⟩
    replace hs := of_if_f hs h32
    refine WP.stl 6 ?_
    refine WP.dn ?_
    refine NX.post ?_
    exact ⟨false, ⟨by kernel_rfl, by kernel_rfl⟩, tot, hB2, hR3, hR4, hR5, hR1, hB3, hR7, hB5, hR9, hB7, hR10, hB8, hR11, hR12, hR17, hs⟩
   clear tot hs hB2 hR3 hR4 hR5 hR1 hB3 hR7 hB5 hR9 hB7 hR10 hB8 hR11 hR12 hR17
   rintro tm g ⟨q35, hF, tot, hB2, hR3, hR4, hR5, hR1, hB3, hR7, hB5, hR9, hB7, hR10, hB8, hR11, hR12, hR17, hs⟩
   clear ds
   obtain ⟨ds, rfl⟩ := hF.open
   clear hF
   unfold F.baizelaw35_CloseAgrees.c3 at hs
   refine bool_split (b := q17) (fun h28 => ?_) (fun h28 => ?_)
   ·replace hs := of_if_t hs h28
    by_cases hc18 : (0 : Int) ≤ x6 ∧ x6 < ((setI l12 x6 q34).length : Int)
    case neg => rw [if_neg hc18] at hs; cases hs
    replace hs := of_if_p hs hc18
    refine bool_split (b := (getI (setI l12 x6 q34) x6)) (fun h29 => ?_) (fun h29 => ?_)
    ·replace hs := of_if_t hs h29
     obtain ⟨b19, u13, ha13⟩ := hR17.at (i := x6) (by first | exact hc18 | simpa only [setI_length] using hc18)
     refine CP.drawL (by kernel_rfl) [1, 4, 5, 6] N.baizelaw35_CloseAgrees_0 [⟨none, [], [], fun l g => OwnS Kd.bool g (t + 12) 4 a17 n10 c13 (setI l12 x6 q34)⟩, ⟨some 0, [], [0], fun l g => l.getD 0 undef = .bool true⟩, ⟨some 1, [], [1], fun l g => l.getD 0 undef = .pointer (some ⟨b19, u13 + x6.toNat * 1, none⟩)⟩, ⟨some 2, [], [2], fun l g => l.getD 0 undef = .bool (getI (setI l12 x6 q34) x6)⟩, ⟨some 3, [], [3], fun l g => l.getD 0 undef = .bool true⟩] [[], [], [], []] [] [0] [2, 3, 7, 8, 9, 10, 11, 12, 13, 14, 15, 16, 17, 18, 19, 20, 21, 22, 23, 24, 25, 26] (by kernel_rfl) (by simp) (by simp) ⟨fun _ _ _ _ st h0 hl hj hR17 => (hR17.mono st h0 (fun h => absurd (hl _ h) (by simp))), fun _ _ _ _ st h0 hl hj e0 => e0, fun _ _ _ _ st h0 hl hj e1 => e1, fun _ _ _ _ st h0 hl hj e2 => e2, fun _ _ _ _ st h0 hl hj e3 => e3, tv⟩ ⟨hR17, tv, tv, tv, tv, tv⟩ (by kernel_rfl) (fun vs => by kernel_rfl) ?_ ?_ ?_
     ·intro j hj
      have hq : j = 0 ∨ j = 1 ∨ j = 2 ∨ j = 3 ∨ j = 4 ∨ j = 5 ∨ j = 6 ∨ j = 7 ∨ j = 8 ∨ j = 9 ∨ j = 10 ∨ j = 11 ∨ j = 12 ∨ j = 13 ∨ j = 14 ∨ j = 15 ∨ j = 16 ∨ j = 17 ∨ j = 18 ∨ j = 19 ∨ j = 20 ∨ j = 21 := by have h : j < 22 := hj; omega
      rcases hq with rfl | rfl | rfl | rfl | rfl | rfl | rfl | rfl | rfl | rfl | rfl | rfl | rfl | rfl | rfl | rfl | rfl | rfl | rfl | rfl | rfl | rfl
      ·intro vs gq stq hl hf
       obtain ⟨v0, v1, v2, v3, rfl⟩ := len_k4 hl
       have e0 := (show v0 = .bool true from hf _ (memI 1 rfl) (by kernel_rfl))
       subst e0
       show Option.isSome _ = true
       kernel_rfl
      ·intro vs gq stq hl hf
       obtain ⟨v0, v1, v2, v3, rfl⟩ := len_k4 hl
       have e0 := (show v0 = .bool true from hf _ (memI 1 rfl) (by kernel_rfl))
       subst e0
       show Option.isSome _ = true
       kernel_rfl
      ·intro vs gq stq hl hf
       obtain ⟨v0, v1, v2, v3, rfl⟩ := len_k4 hl
       have e3 := (show v3 = .bool true from hf _ (memI 4 rfl) (by kernel_rfl))
       subst e3
       show Option.isSome _ = true
       kernel_rfl
      ·intro vs gq stq hl hf
       obtain ⟨v0, v1, v2, v3, rfl⟩ := len_k4 hl
       have e3 := (show v3 = .bool true from hf _ (memI 4 rfl) (by kernel_rfl))
       subst e3
       show Option.isSome _ = true
       kernel_rfl
      ·intro vs gq stq hl hf
       obtain ⟨v0, v1, v2, v3, rfl⟩ := len_k4 hl
       have e3 := (show v3 = .bool true from hf _ (memI 4 rfl) (by kernel_rfl))
       subst e3
       show Option.isSome _ = true
       kernel_rfl
      ·intro vs gq stq hl hf
       obtain ⟨v0, v1, v2, v3, rfl⟩ := len_k4 hl
       have e3 := (show v3 = .bool true from hf _ (memI 4 rfl) (by kernel_rfl))
       subst e3
       show Option.isSome _ = true
       kernel_rfl
      ·intro vs gq stq hl hf
       obtain ⟨v0, v1, v2, v3, rfl⟩ := len_k4 hl
       have e0 := (show v0 = .bool true from hf _ (memI 1 rfl) (by kernel_rfl))
       subst e0
       have e3 := (show v3 = .bool true from hf _ (memI 4 rfl) (by kernel_rfl))
       subst e3
       show Option.isSome _ = true
       kernel_rfl
      ·intro vs gq stq hl hf
       obtain ⟨v0, v1, v2, v3, rfl⟩ := len_k4 hl
       have e0 := (show v0 = .bool true from hf _ (memI 1 rfl) (by kernel_rfl))
       subst e0
       have e3 := (show v3 = .bool true from hf _ (memI 4 rfl) (by kernel_rfl))
       subst e3
       show Option.isSome _ = true
       kernel_rfl
      ·intro vs gq stq hl hf
       obtain ⟨v0, v1, v2, v3, rfl⟩ := len_k4 hl
       have e0 := (show v0 = .bool true from hf _ (memI 1 rfl) (by kernel_rfl))
       subst e0
       have e3 := (show v3 = .bool true from hf _ (memI 4 rfl) (by kernel_rfl))
       subst e3
       show Option.isSome _ = true
       kernel_rfl
      ·intro vs gq stq hl hf
       obtain ⟨v0, v1, v2, v3, rfl⟩ := len_k4 hl
       have e0 := (show v0 = .bool true from hf _ (memI 1 rfl) (by kernel_rfl))
       subst e0
       have e3 := (show v3 = .bool true from hf _ (memI 4 rfl) (by kernel_rfl))
       subst e3
       show Option.isSome _ = true
       kernel_rfl
      ·intro vs gq stq hl hf
       obtain ⟨v0, v1, v2, v3, rfl⟩ := len_k4 hl
       have e0 := (show v0 = .bool true from hf _ (memI 1 rfl) (by kernel_rfl))
       subst e0
       have e3 := (show v3 = .bool true from hf _ (memI 4 rfl) (by kernel_rfl))
       subst e3
       show Option.isSome _ = true
       kernel_rfl
      ·intro vs gq stq hl hf
       obtain ⟨v0, v1, v2, v3, rfl⟩ := len_k4 hl
       have e0 := (show v0 = .bool true from hf _ (memI 1 rfl) (by kernel_rfl))
       subst e0
       have e3 := (show v3 = .bool true from hf _ (memI 4 rfl) (by kernel_rfl))
       subst e3
       show Option.isSome _ = true
       kernel_rfl
      ·intro vs gq stq hl hf
       obtain ⟨v0, v1, v2, v3, rfl⟩ := len_k4 hl
       have e0 := (show v0 = .bool true from hf _ (memI 1 rfl) (by kernel_rfl))
       subst e0
       have e3 := (show v3 = .bool true from hf _ (memI 4 rfl) (by kernel_rfl))
       subst e3
       show Option.isSome _ = true
       kernel_rfl
      ·intro vs gq stq hl hf
       obtain ⟨v0, v1, v2, v3, rfl⟩ := len_k4 hl
       have e0 := (show v0 = .bool true from hf _ (memI 1 rfl) (by kernel_rfl))
       subst e0
       have e3 := (show v3 = .bool true from hf _ (memI 4 rfl) (by kernel_rfl))
       subst e3
       show Option.isSome _ = true
       kernel_rfl
      ·intro vs gq stq hl hf
       obtain ⟨v0, v1, v2, v3, rfl⟩ := len_k4 hl
       have e0 := (show v0 = .bool true from hf _ (memI 1 rfl) (by kernel_rfl))
       subst e0
       have e3 := (show v3 = .bool true from hf _ (memI 4 rfl) (by kernel_rfl))
       subst e3
       show Option.isSome _ = true
       kernel_rfl
      ·intro vs gq stq hl hf
       obtain ⟨v0, v1, v2, v3, rfl⟩ := len_k4 hl
       have e0 := (show v0 = .bool true from hf _ (memI 1 rfl) (by kernel_rfl))
       subst e0
       have e3 := (show v3 = .bool true from hf _ (memI 4 rfl) (by kernel_rfl))
       subst e3
       show Option.isSome _ = true
       kernel_rfl
      ·intro vs gq stq hl hf
       obtain ⟨v0, v1, v2, v3, rfl⟩ := len_k4 hl
       have e0 := (show v0 = .bool true from hf _ (memI 1 rfl) (by kernel_rfl))
       subst e0
       have e3 := (show v3 = .bool true from hf _ (memI 4 rfl) (by kernel_rfl))
       subst e3
       show Option.isSome _ = true
       kernel_rfl
      ·intro vs gq stq hl hf
       obtain ⟨v0, v1, v2, v3, rfl⟩ := len_k4 hl
       have e0 := (show v0 = .bool true from hf _ (memI 1 rfl) (by kernel_rfl))
       subst e0
       have e3 := (show v3 = .bool true from hf _ (memI 4 rfl) (by kernel_rfl))
       subst e3
       show Option.isSome _ = true
       kernel_rfl
      ·intro vs gq stq hl hf
       obtain ⟨v0, v1, v2, v3, rfl⟩ := len_k4 hl
       have e0 := (show v0 = .bool true from hf _ (memI 1 rfl) (by kernel_rfl))
       subst e0
       have e3 := (show v3 = .bool true from hf _ (memI 4 rfl) (by kernel_rfl))
       subst e3
       show Option.isSome _ = true
       kernel_rfl
      ·intro vs gq stq hl hf
       obtain ⟨v0, v1, v2, v3, rfl⟩ := len_k4 hl
       have e0 := (show v0 = .bool true from hf _ (memI 1 rfl) (by kernel_rfl))
       subst e0
       have e3 := (show v3 = .bool true from hf _ (memI 4 rfl) (by kernel_rfl))
       subst e3
       show Option.isSome _ = true
       kernel_rfl
      ·intro vs gq stq hl hf
       obtain ⟨v0, v1, v2, v3, rfl⟩ := len_k4 hl
       have e0 := (show v0 = .bool true from hf _ (memI 1 rfl) (by kernel_rfl))
       subst e0
       have e3 := (show v3 = .bool true from hf _ (memI 4 rfl) (by kernel_rfl))
       subst e3
       show Option.isSome _ = true
       kernel_rfl
      ·intro vs gq stq hl hf
       obtain ⟨v0, v1, v2, v3, rfl⟩ := len_k4 hl
       have e0 := (show v0 = .bool true from hf _ (memI 1 rfl) (by kernel_rfl))
       subst e0
       have e3 := (show v3 = .bool true from hf _ (memI 4 rfl) (by kernel_rfl))
       subst e3
       show Option.isSome _ = true
       kernel_rfl
     ·intro j hj
      have hq : j = 0 ∨ j = 1 ∨ j = 2 ∨ j = 3 := by have h : j < 4 := hj; omega
      rcases hq with rfl | rfl | rfl | rfl
      ·intro vs gq stq hl hf
       obtain ⟨v0, v1, v2, v3, rfl⟩ := len_k4 hl
       refine WP.stl 1 ?_
       refine WP.dn (Shown.ok (v := .bool q17) (by kernel_rfl) (Step.refl _ _) ?_)
       exact ⟨tv, congrArg Value.bool h28, tv, tv, tv, tv⟩
      ·intro vs gq stq hl hf
       obtain ⟨v0, v1, v2, v3, rfl⟩ := len_k4 hl
       have hR17 := (show OwnS Kd.bool gq (t + 12) 4 a17 n10 c13 (setI l12 x6 q34) from hf _ (memI 0 rfl) (by kernel_rfl))
       have e0 := (show v0 = .bool true from hf _ (memI 1 rfl) (by kernel_rfl))
       subst e0
       refine WP.indexA (t := 28) (e := 4) (sz := 1) (cap := c13) (k := .i64) (i := x6) hR17.len ha13 (by kernel_rfl) (by kernel_rfl) hc18 ?_
       refine WP.dn (Shown.ok (v := .pointer (some ⟨b19, u13 + x6.toNat * 1, none⟩)) (by kernel_rfl) (Step.refl _ _) ?_)
       exact ⟨tv, tv, rfl, tv, tv, tv⟩
      ·intro vs gq stq hl hf
       obtain ⟨v0, v1, v2, v3, rfl⟩ := len_k4 hl
       have hR17 := (show OwnS Kd.bool gq (t + 12) 4 a17 n10 c13 (setI l12 x6 q34) from hf _ (memI 0 rfl) (by kernel_rfl))
       have e0 := (show v0 = .bool true from hf _ (memI 1 rfl) (by kernel_rfl))
       subst e0
       have e1 := (show v1 = .pointer (some ⟨b19, u13 + x6.toNat * 1, none⟩) from hf _ (memI 2 rfl) (by kernel_rfl))
       subst e1
       obtain ⟨cs9, hcR9, hcV9⟩ := hR17.src.view (getI_some hc18) ha13
       replace hcR9 := Kd.o_bool hcR9
       refine WP.loadV [[.bool (getI (setI l12 x6 q34) x6)]] [1] hcV9 hcR9 rfl (f := 0) (ty := 4) (agg := false) (size := 1) (rs := [[.bool (getI (setI l12 x6 q34) x6)]]) (v := .bool (getI (setI l12 x6 q34) x6)) (by kernel_rfl) (by kernel_rfl) (by kernel_rfl) (by kernel_rfl) ?_
       refine WP.dn (Shown.ok (v := .bool (getI (setI l12 x6 q34) x6)) (by kernel_rfl) (Step.refl _ _) ?_)
       exact ⟨tv, tv, tv, rfl, tv, tv⟩
      ·intro vs gq stq hl hf
       obtain ⟨v0, v1, v2, v3, rfl⟩ := len_k4 hl
       have e0 := (show v0 = .bool true from hf _ (memI 1 rfl) (by kernel_rfl))
       subst e0
       have e2 := (show v2 = .bool (getI (setI l12 x6 q34) x6) from hf _ (memI 3 rfl) (by kernel_rfl))
       subst e2
       refine WP.stl 1 ?_
       refine WP.dn (Shown.ok (v := .bool (getI (setI l12 x6 q34) x6)) (by kernel_rfl) (Step.refl _ _) ?_)
       exact ⟨tv, tv, tv, tv, congrArg Value.bool h29, tv⟩
     intro vs g57 st57 hl hf
     obtain ⟨v0, v1, v2, v3, rfl⟩ := len_k4 hl
     have e0 := (show v0 = .bool true from hf _ (memI 1 rfl) (by kernel_rfl))
     subst e0
     have e1 := (show v1 = .pointer (some ⟨b19, u13 + x6.toNat * 1, none⟩) from hf _ (memI 2 rfl) (by kernel_rfl))
     subst e1
     have e2 := (show v2 = .bool (getI (setI l12 x6 q34) x6) from hf _ (memI 3 rfl) (by kernel_rfl))
     subst e2
     have e3 := (show v3 = .bool true from hf _ (memI 4 rfl) (by kernel_rfl))
     subst e3
     replace hB2 := hB2.mono st57.toNo (fun x => x)
     replace hR3 := hR3.mono st57.toNo (fun x => x)
     replace hR4 := hR4.mono st57.toNo (fun x => x)
     replace hR5 := hR5.mono st57.toNo (fun x => x)
     replace hR1 := hR1.mono st57.toNo (fun x => x)
     replace hB3 := hB3.mono st57.toNo (fun x => x)
     replace hR7 := hR7.mono st57.toNo (fun x => x) (fun x => x)
     replace hB5 := hB5.mono st57.toNo (fun x => x)
     replace hR9 := hR9.mono st57.toNo (fun x => x) (fun x => x)
     replace hB7 := hB7.mono st57.toNo (fun x => x)
     replace hR10 := hR10.mono st57.toNo (fun x => x) (fun x => x)
     replace hB8 := hB8.mono st57.toNo (fun x => x)
     replace hR11 := hR11.mono st57.toNo (fun x => x) (fun x => x)
     replace hR12 := hR12.mono st57.toNo (fun x => x) (fun x => x)
     replace hR17 := hR17.mono st57.toNo (fun x => x) (fun x => x)
     replace tot := tot.trans st57.toNo.pure
     refine NX.block_n ?_
     refine NX.post ?_
     exact ⟨(setI l12 x6 q34), a17, n10, c13, q35, true, ⟨by kernel_rfl, by kernel_rfl⟩, tot, hB2, hR3, hR4, hR5, hR1, hB3, hR7, hB5, hR9, hB7, hR10, hB8, hR11, hR12, hR17, hs⟩
    replace hs := of_if_f hs h29
    replace hs := Option.bind_eq_some_iff.1 hs
    obtain ⟨q36, hk27, hs⟩ := hs
    refine bool_split (b := q36) (fun h30 => ?_) (fun h30 => ?_)
    ·replace hs := of_if_t hs h30
     obtain ⟨b19, u13, ha13⟩ := hR17.at (i := x6) (by first | exact hc18 | simpa only [setI_length] using hc18)
     refine CP.drawL (by kernel_rfl) [1, 4, 5, 6, 8, 10, 12] N.baizelaw35_CloseAgrees_0 [⟨none, [], [], fun l g => Box g (t + 2) b2 45 [[.slice a3 n3 c3], [.slice a4 n4 c4], [.slice a5 n5 c5]] [1, 1, 1]⟩, ⟨none, [], [], fun l g => RdS Kd.bool g 4 a3 n3 c3 l3⟩, ⟨none, [], [], fun l g => OwnS Kd.bool g (t + 12) 4 a17 n10 c13 (setI l12 x6 q34)⟩, ⟨some 0, [], [0], fun l g => l.getD 0 undef = .bool true⟩, ⟨some 1, [], [1], fun l g => l.getD 0 undef = .pointer (some ⟨b19, u13 + x6.toNat * 1, none⟩)⟩, ⟨some 2, [], [2], fun l g => l.getD 0 undef = .bool (getI (setI l12 x6 q34) x6)⟩, ⟨some 3, [], [3], fun l g => l.getD 0 undef = .bool false⟩, ⟨some 4, [], [4], fun l g => l.getD 0 undef = .slice a3 n3 c3⟩, ⟨some 5, [], [5], fun l g => l.getD 0 undef = .bool q36⟩, ⟨some 6, [], [6], fun l g => l.getD 0 undef = .bool true⟩] [[], [], [], [], [], [], []] [] [0] [2, 3, 7, 9, 11, 13, 14, 15, 16, 17, 18, 19, 20, 21, 22, 23, 24, 25, 26] (by kernel_rfl) (by simp) (by simp) ⟨fun _ _ _ _ st h0 hl hj hB2 => (hB2.mono st (fun h => absurd (hl _ h) (by simp))), fun _ _ _ _ st h0 hl hj hR3 => (RdS.mono (e := 4) hR3 st h0), fun _ _ _ _ st h0 hl hj hR17 => (hR17.mono st h0 (fun h => absurd (hl _ h) (by simp))), fun _ _ _ _ st h0 hl hj e0 => e0, fun _ _ _ _ st h0 hl hj e1 => e1, fun _ _ _ _ st h0 hl hj e2 => e2, fun _ _ _ _ st h0 hl hj e3 => e3, fun _ _ _ _ st h0 hl hj e4 => e4, fun _ _ _ _ st h0 hl hj e5 => e5, fun _ _ _ _ st h0 hl hj e6 => e6, tv⟩ ⟨hB2, hR3, hR17, tv, tv, tv, tv, tv, tv, tv, tv⟩ (by kernel_rfl) (fun vs => by kernel_rfl) ?_ ?_ ?_
     ·intro j hj
      have hq : j = 0 ∨ j = 1 ∨ j = 2 ∨ j = 3 ∨ j = 4 ∨ j = 5 ∨ j = 6 ∨ j = 7 ∨ j = 8 ∨ j = 9 ∨ j = 10 ∨ j = 11 ∨ j = 12 ∨ j = 13 ∨ j = 14 ∨ j = 15 ∨ j = 16 ∨ j = 17 ∨ j = 18 := by have h : j < 19 := hj; omega
      rcases hq with rfl | rfl | rfl | rfl | rfl | rfl | rfl | rfl | rfl | rfl | rfl | rfl | rfl | rfl | rfl | rfl | rfl | rfl | rfl
      ·intro vs gq stq hl hf
       obtain ⟨v0, v1, v2, v3, v4, v5, v6, rfl⟩ := len_k7 hl
       have e0 := (show v0 = .bool true from hf _ (memI 3 rfl) (by kernel_rfl))
       subst e0
       show Option.isSome _ = true
       kernel_rfl
      ·intro vs gq stq hl hf
       obtain ⟨v0, v1, v2, v3, v4, v5, v6, rfl⟩ := len_k7 hl
       have e0 := (show v0 = .bool true from hf _ (memI 3 rfl) (by kernel_rfl))
       subst e0
       show Option.isSome _ = true
       kernel_rfl
      ·intro vs gq stq hl hf
       obtain ⟨v0, v1, v2, v3, v4, v5, v6, rfl⟩ := len_k7 hl
       have e3 := (show v3 = .bool false from hf _ (memI 6 rfl) (by kernel_rfl))
       subst e3
       show Option.isSome _ = true
       kernel_rfl
      ·intro vs gq stq hl hf
       obtain ⟨v0, v1, v2, v3, v4, v5, v6, rfl⟩ := len_k7 hl
       have e3 := (show v3 = .bool false from hf _ (memI 6 rfl) (by kernel_rfl))
       subst e3
       show Option.isSome _ = true
       kernel_rfl
      ·intro vs gq stq hl hf
       obtain ⟨v0, v1, v2, v3, v4, v5, v6, rfl⟩ := len_k7 hl
       have e0 := (show v0 = .bool true from hf _ (memI 3 rfl) (by kernel_rfl))
       subst e0
       have e3 := (show v3 = .bool false from hf _ (memI 6 rfl) (by kernel_rfl))
       subst e3
       have e5 := (show v5 = .bool q36 from hf _ (memI 8 rfl) (by kernel_rfl))
       subst e5
       show Option.isSome _ = true
       kernel_rfl
      ·intro vs gq stq hl hf
       obtain ⟨v0, v1, v2, v3, v4, v5, v6, rfl⟩ := len_k7 hl
       have e6 := (show v6 = .bool true from hf _ (memI 9 rfl) (by kernel_rfl))
       subst e6
       show Option.isSome _ = true
       kernel_rfl
      ·intro vs gq stq hl hf
       obtain ⟨v0, v1, v2, v3, v4, v5, v6, rfl⟩ := len_k7 hl
       have e6 := (show v6 = .bool true from hf _ (memI 9 rfl) (by kernel_rfl))
       subst e6
       show Option.isSome _ = true
       kernel_rfl
      ·intro vs gq stq hl hf
       obtain ⟨v0, v1, v2, v3, v4, v5, v6, rfl⟩ := len_k7 hl
       have e6 := (show v6 = .bool true from hf _ (memI 9 rfl) (by kernel_rfl))
       subst e6
       show Option.isSome _ = true
       kernel_rfl
      ·intro vs gq stq hl hf
       obtain ⟨v0, v1, v2, v3, v4, v5, v6, rfl⟩ := len_k7 hl
       have e6 := (show v6 = .bool true from hf _ (memI 9 rfl) (by kernel_rfl))
       subst e6
       show Option.isSome _ = true
       kernel_rfl
      ·intro vs gq stq hl hf
       obtain ⟨v0, v1, v2, v3, v4, v5, v6, rfl⟩ := len_k7 hl
       have e6 := (show v6 = .bool true from hf _ (memI 9 rfl) (by kernel_rfl))
       subst e6
       show Option.isSome _ = true
       kernel_rfl
      ·intro vs gq stq hl hf
       obtain ⟨v0, v1, v2, v3, v4, v5, v6, rfl⟩ := len_k7 hl
       have e6 := (show v6 = .bool true from hf _ (memI 9 rfl) (by kernel_rfl))
       subst e6
       show Option.isSome _ = true
       kernel_rfl
      ·intro vs gq stq hl hf
       obtain ⟨v0, v1, v2, v3, v4, v5, v6, rfl⟩ := len_k7 hl
       have e6 := (show v6 = .bool true from hf _ (memI 9 rfl) (by kernel_rfl))
       subst e6
       show Option.isSome _ = true
       kernel_rfl
      ·intro vs gq stq hl hf
       obtain ⟨v0, v1, v2, v3, v4, v5, v6, rfl⟩ := len_k7 hl
       have e6 := (show v6 = .bool true from hf _ (memI 9 rfl) (by kernel_rfl))
       subst e6
       show Option.isSome _ = true
       kernel_rfl
      ·intro vs gq stq hl hf
       obtain ⟨v0, v1, v2, v3, v4, v5, v6, rfl⟩ := len_k7 hl
       have e6 := (show v6 = .bool true from hf _ (memI 9 rfl) (by kernel_rfl))
       subst e6
       show Option.isSome _ = true
       kernel_rfl
      ·intro vs gq stq hl hf
       obtain ⟨v0, v1, v2, v3, v4, v5, v6, rfl⟩ := len_k7 hl
       have e6 := (show v6 = .bool true from hf _ (memI 9 rfl) (by kernel_rfl))
       subst e6
       show Option.isSome _ = true
       kernel_rfl
      ·intro vs gq stq hl hf
       obtain ⟨v0, v1, v2, v3, v4, v5, v6, rfl⟩ := len_k7 hl
       have e6 := (show v6 = .bool true from hf _ (memI 9 rfl) (by kernel_rfl))
       subst e6
       show Option.isSome _ = true
       kernel_rfl
      ·intro vs gq stq hl hf
       obtain ⟨v0, v1, v2, v3, v4, v5, v6, rfl⟩ := len_k7 hl
       have e0 := (show v0 = .bool true from hf _ (memI 3 rfl) (by kernel_rfl))
       subst e0
       have e6 := (show v6 = .bool true from hf _ (memI 9 rfl) (by kernel_rfl))
       subst e6
       show Option.isSome _ = true
       kernel_rfl
      ·intro vs gq stq hl hf
       obtain ⟨v0, v1, v2, v3, v4, v5, v6, rfl⟩ := len_k7 hl
       have e0 := (show v0 = .bool true from hf _ (memI 3 rfl) (by kernel_rfl))
       subst e0
       have e6 := (show v6 = .bool true from hf _ (memI 9 rfl) (by kernel_rfl))
       subst e6
       show Option.isSome _ = true
       kernel_rfl
      ·intro vs gq stq hl hf
       obtain ⟨v0, v1, v2, v3, v4, v5, v6, rfl⟩ := len_k7 hl
       have e0 := (show v0 = .bool true from hf _ (memI 3 rfl) (by kernel_rfl))
       subst e0
       have e6 := (show v6 = .bool true from hf _ (memI 9 rfl) (by kernel_rfl))
       subst e6
       show Option.isSome _ = true
       kernel_rfl
     ·intro j hj
      have hq : j = 0 ∨ j = 1 ∨ j = 2 ∨ j = 3 ∨ j = 4 ∨ j = 5 ∨ j = 6 := by have h : j < 7 := hj; omega
      rcases hq with rfl | rfl | rfl | rfl | rfl | rfl | rfl
      ·intro vs gq stq hl hf
       obtain ⟨v0, v1, v2, v3, v4, v5, v6, rfl⟩ := len_k7 hl
       refine WP.stl 1 ?_
       refine WP.dn (Shown.ok (v := .bool q17) (by kernel_rfl) (Step.refl _ _) ?_)
       exact ⟨tv, tv, tv, congrArg Value.bool h28, tv, tv, tv, tv, tv, tv, tv⟩
      ·intro vs gq stq hl hf
       obtain ⟨v0, v1, v2, v3, v4, v5, v6, rfl⟩ := len_k7 hl
       have hR17 := (show OwnS Kd.bool gq (t + 12) 4 a17 n10 c13 (setI l12 x6 q34) from hf _ (memI 2 rfl) (by kernel_rfl))
       have e0 := (show v0 = .bool true from hf _ (memI 3 rfl) (by kernel_rfl))
       subst e0
       refine WP.indexA (t := 28) (e := 4) (sz := 1) (cap := c13) (k := .i64) (i := x6) hR17.len ha13 (by kernel_rfl) (by kernel_rfl) hc18 ?_
       refine WP.dn (Shown.ok (v := .pointer (some ⟨b19, u13 + x6.toNat * 1, none⟩)) (by kernel_rfl) (Step.refl _ _) ?_)
       exact ⟨tv, tv, tv, tv, rfl, tv, tv, tv, tv, tv, tv⟩
      ·intro vs gq stq hl hf
       obtain ⟨v0, v1, v2, v3, v4, v5, v6, rfl⟩ := len_k7 hl
       have hR17 := (show OwnS Kd.bool gq (t + 12) 4 a17 n10 c13 (setI l12 x6 q34) from hf _ (memI 2 rfl) (by kernel_rfl))
       have e0 := (show v0 = .bool true from hf _ (memI 3 rfl) (by kernel_rfl))
       subst e0
       have e1 := (show v1 = .pointer (some ⟨b19, u13 + x6.toNat * 1, none⟩) from hf _ (memI 4 rfl) (by kernel_rfl))
       subst e1
       obtain ⟨cs9, hcR9, hcV9⟩ := hR17.src.view (getI_some hc18) ha13
       replace hcR9 := Kd.o_bool hcR9
       refine WP.loadV [[.bool (getI (setI l12 x6 q34) x6)]] [1] hcV9 hcR9 rfl (f := 0) (ty := 4) (agg := false) (size := 1) (rs := [[.bool (getI (setI l12 x6 q34) x6)]]) (v := .bool (getI (setI l12 x6 q34) x6)) (by kernel_rfl) (by kernel_rfl) (by kernel_rfl) (by kernel_rfl) ?_
       refine WP.dn (Shown.ok (v := .bool (getI (setI l12 x6 q34) x6)) (by kernel_rfl) (Step.refl _ _) ?_)
       exact ⟨tv, tv, tv, tv, tv, rfl, tv, tv, tv, tv, tv⟩
      ·intro vs gq stq hl hf
       obtain ⟨v0, v1, v2, v3, v4, v5, v6, rfl⟩ := len_k7 hl
       have e0 := (show v0 = .bool true from hf _ (memI 3 rfl) (by kernel_rfl))
       subst e0
       have e2 := (show v2 = .bool (getI (setI l12 x6 q34) x6) from hf _ (memI 5 rfl) (by kernel_rfl))
       subst e2
       refine WP.stl 1 ?_
       refine WP.dn (Shown.ok (v := .bool (getI (setI l12 x6 q34) x6)) (by kernel_rfl) (Step.refl _ _) ?_)
       exact ⟨tv, tv, tv, tv, tv, tv, congrArg Value.bool h29, tv, tv, tv, tv⟩
      ·intro vs gq stq hl hf
       obtain ⟨v0, v1, v2, v3, v4, v5, v6, rfl⟩ := len_k7 hl
       have hB2 := (show Box gq (t + 2) b2 45 [[.slice a3 n3 c3], [.slice a4 n4 c4], [.slice a5 n5 c5]] [1, 1, 1] from hf _ (memI 0 rfl) (by kernel_rfl))
       have e3 := (show v3 = .bool false from hf _ (memI 6 rfl) (by kernel_rfl))
       subst e3
       refine WP.loadB (v := .slice a3 n3 c3) hB2 (by kernel_rfl) (by kernel_rfl) ?_
       refine WP.dn (Shown.ok (v := .slice a3 n3 c3) (by kernel_rfl) (Step.refl _ _) ?_)
       exact ⟨tv, tv, tv, tv, tv, tv, tv, rfl, tv, tv, tv⟩
      ·intro vs gq stq hl hf
       obtain ⟨v0, v1, v2, v3, v4, v5, v6, rfl⟩ := len_k7 hl
       have hR3 := (show RdS Kd.bool gq 4 a3 n3 c3 l3 from hf _ (memI 1 rfl) (by kernel_rfl))
       have e3 := (show v3 = .bool false from hf _ (memI 6 rfl) (by kernel_rfl))
       subst e3
       have e4 := (show v4 = .slice a3 n3 c3 from hf _ (memI 7 rfl) (by kernel_rfl))
       subst e4
       have hcal27 := P.baizelaw35_at gq l3 x6 a3 n3 c3 hR3 q36 hk27
       refine WP.callC hcal27 (by kernel_rfl) ?_
       rintro _ g58 st58 rfl
       refine WP.dn (Shown.o (v := .bool q36) st58.pure ?_)
       exact ⟨tv, tv, tv, tv, tv, tv, tv, tv, rfl, tv, tv⟩
      ·intro vs gq stq hl hf
       obtain ⟨v0, v1, v2, v3, v4, v5, v6, rfl⟩ := len_k7 hl
       have e0 := (show v0 = .bool true from hf _ (memI 3 rfl) (by kernel_rfl))
       subst e0
       have e3 := (show v3 = .bool false from hf _ (memI 6 rfl) (by kernel_rfl))
       subst e3
       have e5 := (show v5 = .bool q36 from hf _ (memI 8 rfl) (by kernel_rfl))
       subst e5
       refine WP.stl 1 ?_
       refine WP.dn (Shown.ok (v := .bool q36) (by kernel_rfl) (Step.refl _ _) ?_)
       exact ⟨tv, tv, tv, tv, tv, tv, tv, tv, tv, congrArg Value.bool h30, tv⟩
     intro vs g59 st59 hl hf
     obtain ⟨v0, v1, v2, v3, v4, v5, v6, rfl⟩ := len_k7 hl
     have e0 := (show v0 = .bool true from hf _ (memI 3 rfl) (by kernel_rfl))
     subst e0
     have e1 := (show v1 = .pointer (some ⟨b19, u13 + x6.toNat * 1, none⟩) from hf _ (memI 4 rfl) (by kernel_rfl))
     subst e1
     have e2 := (show v2 = .bool (getI (setI l12 x6 q34) x6) from hf _ (memI 5 rfl) (by kernel_rfl))
     subst e2
     have e3 := (show v3 = .bool false from hf _ (memI 6 rfl) (by kernel_rfl))
     subst e3
     have e4 := (show v4 = .slice a3 n3 c3 from hf _ (memI 7 rfl) (by kernel_rfl))
     subst e4
     have e5 := (show v5 = .bool q36 from hf _ (memI 8 rfl) (by kernel_rfl))
     subst e5
     have e6 := (show v6 = .bool true from hf _ (memI 9 rfl) (by kernel_rfl))
     subst e6
     replace hB2 := hB2.mono st59.toNo (fun x => x)
     replace hR3 := hR3.mono st59.toNo (fun x => x)
     replace hR4 := hR4.mono st59.toNo (fun x => x)
     replace hR5 := hR5.mono st59.toNo (fun x => x)
     replace hR1 := hR1.mono st59.toNo (fun x => x)
     replace hB3 := hB3.mono st59.toNo (fun x => x)
     replace hR7 := hR7.mono st59.toNo (fun x => x) (fun x => x)
     replace hB5 := hB5.mono st59.toNo (fun x => x)
     replace hR9 := hR9.mono st59.toNo (fun x => x) (fun x => x)
     replace hB7 := hB7.mono st59.toNo (fun x => x)
     replace hR10 := hR10.mono st59.toNo (fun x => x) (fun x => x)
     replace hB8 := hB8.mono st59.toNo (fun x => x)
     replace hR11 := hR11.mono st59.toNo (fun x => x) (fun x => x)
     replace hR12 := hR12.mono st59.toNo (fun x => x) (fun x => x)
     replace hR17 := hR17.mono st59.toNo (fun x => x) (fun x => x)
     replace tot := tot.trans st59.toNo.pure
     refine NX.block_n ?_
     refine NX.post ?_
     exact ⟨(setI l12 x6 q34), a17, n10, c13, q35, true, ⟨by kernel_rfl, by kernel_rfl⟩, tot, hB2, hR3, hR4, hR5, hR1, hB3, hR7, hB5, hR9, hB7, hR10, hB8, hR11, hR12, hR17, hs⟩
    replace hs := of_if_f hs h30
    replace hs := Option.bind_eq_some_iff.1 hs
    obtain ⟨q37, hk28, hs⟩ := hs
    refine bool_split (b := q37) (fun h31 => ?_) (fun h31 => ?_)
    ·replace hs := of_if_t hs h31
     replace hs := Option.bind_eq_some_iff.1 hs
     obtain ⟨d8, hk29, hs⟩ := hs
     replace hs := Option.bind_eq_some_iff.1 hs
     obtain ⟨d9, hk30, hs⟩ := hs
     obtain ⟨b19, u13, ha13⟩ := hR17.at (i := x6) (by first | exact hc18 | simpa only [setI_length] using hc18)
     refine CP.drawL (by kernel_rfl) [1, 4, 5, 6, 8, 10, 12, 14, 16, 17, 18, 19, 20, 21, 22] N.baizelaw35_CloseAgrees_0 [⟨none, [], [], fun l g => Box g (t + 2) b2 45 [[.slice a3 n3 c3], [.slice a4 n4 c4], [.slice a5 n5 c5]] [1, 1, 1]⟩, ⟨none, [], [], fun l g => RdS Kd.bool g 4 a3 n3 c3 l3⟩, ⟨none, [], [], fun l g => RdS Kd.bool g 4 a4 n4 c4 l4⟩, ⟨none, [], [], fun l g => Box g (t + 4) b3 49 [encA .u8 (⟨[7, 0, 0, 0, 0, 0, 0, 0], rfl⟩ : Arr Int 8), [.slice a7 (0 + n1) c6]] [8, 1]⟩, ⟨none, [0], [], fun l g => OwnS (Kd.int .i64) g (t + 3) 3 a7 (0 + n1) c6 l9⟩, ⟨none, [], [], fun l g => Box g (t + 6) b4 49 [encA .u8 (⟨[7, 0, 0, 0, 0, 0, 0, 0], rfl⟩ : Arr Int 8), [.slice a9 (0 + n2) c7]] [8, 1]⟩, ⟨none, [1], [], fun l g => OwnS (Kd.int .i64) g (t + 5) 3 a9 (0 + n2) c7 l10⟩, ⟨none, [], [], fun l g => OwnS Kd.bool g (t + 12) 4 a17 n10 c13 (setI l12 x6 q34)⟩, ⟨some 0, [], [0], fun l g => l.getD 0 undef = .bool true⟩, ⟨some 1, [], [1], fun l g => l.getD 0 undef = .pointer (some ⟨b19, u13 + x6.toNat * 1, none⟩)⟩, ⟨some 2, [], [2], fun l g => l.getD 0 undef = .bool (getI (setI l12 x6 q34) x6)⟩, ⟨some 3, [], [3], fun l g => l.getD 0 undef = .bool false⟩, ⟨some 4, [], [4], fun l g => l.getD 0 undef = .slice a3 n3 c3⟩, ⟨some 5, [], [5], fun l g => l.getD 0 undef = .bool q36⟩, ⟨some 6, [], [6], fun l g => l.getD 0 undef = .bool false⟩, ⟨some 7, [], [7], fun l g => l.getD 0 undef = .slice a4 n4 c4⟩, ⟨some 8, [], [8], fun l g => l.getD 0 undef = .bool q37⟩, ⟨some 9, [], [9], fun l g => l.getD 0 undef = .bool true⟩, ⟨some 10, [], [10], fun l g => l.getD 0 undef = AG [encA .u8 (⟨[7, 0, 0, 0, 0, 0, 0, 0], rfl⟩ : Arr Int 8), [.slice a7 (0 + n1) c6]]⟩, ⟨some 11, [], [11], fun l g => l.getD 0 undef = AG [encA .u8 d8]⟩, ⟨some 11, [0], [], fun l g => OwnS (Kd.int .i64) g (t + 3) 3 a7 (0 + n1) c6 l9⟩, ⟨some 12, [], [12], fun l g => l.getD 0 undef = AG [encA .u8 (⟨[7, 0, 0, 0, 0, 0, 0, 0], rfl⟩ : Arr Int 8), [.slice a9 (0 + n2) c7]]⟩, ⟨some 13, [], [13], fun l g => l.getD 0 undef = AG [encA .u8 d9]⟩, ⟨some 13, [1], [], fun l g => OwnS (Kd.int .i64) g (t + 5) 3 a9 (0 + n2) c7 l10⟩, ⟨some 14, [], [14], fun l g => l.getD 0 undef = .bool (d8.1 == d9.1)⟩] [[], [], [], [], [], [], [], [], [], [], [], [0], [], [1], []] [(t + 3), (t + 5)] [0] [2, 3, 7, 9, 11, 13, 15, 23, 24, 25, 26] (by kernel_rfl) (by simp <;> omega) (by simp <;> omega) ⟨fun _ _ _ _ st h0 hl hj hB2 => (hB2.mono st (fun h => absurd (hl _ h) (by simp <;> omega))), fun _ _ _ _ st h0 hl hj hR3 => (RdS.mono (e := 4) hR3 st h0), fun _ _ _ _ st h0 hl hj hR4 => (RdS.mono (e := 4) hR4 st h0), fun _ _ _ _ st h0 hl hj hB3 => (hB3.mono st (fun h => absurd (hl _ h) (by simp <;> omega))), fun _ _ _ _ st h0 hl hj hR7 => (hR7.mono st h0 (hj 0 (by simp) _ rfl)), fun _ _ _ _ st h0 hl hj hB5 => (hB5.mono st (fun h => absurd (hl _ h) (by simp <;> omega))), fun _ _ _ _ st h0 hl hj hR9 => (hR9.mono st h0 (hj 1 (by simp) _ rfl)), fun _ _ _ _ st h0 hl hj hR17 => (hR17.mono st h0 (fun h => absurd (hl _ h) (by simp <;> omega))), fun _ _ _ _ st h0 hl hj e0 => e0, fun _ _ _ _ st h0 hl hj e1 => e1, fun _ _ _ _ st h0 hl hj e2 => e2, fun _ _ _ _ st h0 hl hj e3 => e3, fun _ _ _ _ st h0 hl hj e4 => e4, fun _ _ _ _ st h0 hl hj e5 => e5, fun _ _ _ _ st h0 hl hj e6 => e6, fun _ _ _ _ st h0 hl hj e7 => e7, fun _ _ _ _ st h0 hl hj e8 => e8, fun _ _ _ _ st h0 hl hj e9 => e9, fun _ _ _ _ st h0 hl hj e10 => e10, fun _ _ _ _ st h0 hl hj e11 => e11, fun _ _ _ _ st h0 hl hj hR7 => (hR7.mono st h0 (hj 0 (by simp) _ rfl)), fun _ _ _ _ st h0 hl hj e12 => e12, fun _ _ _ _ st h0 hl hj e13 => e13, fun _ _ _ _ st h0 hl hj hR9 => (hR9.mono st h0 (hj 1 (by simp) _ rfl)), fun _ _ _ _ st h0 hl hj e14 => e14, tv⟩ ⟨hB2, hR3, hR4, hB3, hR7, hB5, hR9, hR17, tv, tv, tv, tv, tv, tv, tv, tv, tv, tv, tv, tv, tv, tv, tv, tv, tv, tv⟩ (by kernel_rfl) (fun vs => by kernel_rfl) ?_ ?_ ?_
     ·intro j hj
      have hq : j = 0 ∨ j = 1 ∨ j = 2 ∨ j = 3 ∨ j = 4 ∨ j = 5 ∨ j = 6 ∨ j = 7 ∨ j = 8 ∨ j = 9 ∨ j = 10 := by have h : j < 11 := hj; omega
      rcases hq with rfl | rfl | rfl | rfl | rfl | rfl | rfl | rfl | rfl | rfl | rfl
      ·intro vs gq stq hl hf
       obtain ⟨v0, v1, v2, v3, v4, v5, v6, v7, v8, v9, v10, v11, v12, v13, v14, rfl⟩ := len_k15 hl
       have e0 := (show v0 = .bool true from hf _ (memI 8 rfl) (by kernel_rfl))
       subst e0
       show Option.isSome _ = true
       kernel_rfl
      ·intro vs gq stq hl hf
       obtain ⟨v0, v1, v2, v3, v4, v5, v6, v7, v8, v9, v10, v11, v12, v13, v14, rfl⟩ := len_k15 hl
       have e0 := (show v0 = .bool true from hf _ (memI 8 rfl) (by kernel_rfl))
       subst e0
       show Option.isSome _ = true
       kernel_rfl
      ·intro vs gq stq hl hf
       obtain ⟨v0, v1, v2, v3, v4, v5, v6, v7, v8, v9, v10, v11, v12, v13, v14, rfl⟩ := len_k15 hl
       have e3 := (show v3 = .bool false from hf _ (memI 11 rfl) (by kernel_rfl))
       subst e3
       show Option.isSome _ = true
       kernel_rfl
      ·intro vs gq stq hl hf
       obtain ⟨v0, v1, v2, v3, v4, v5, v6, v7, v8, v9, v10, v11, v12, v13, v14, rfl⟩ := len_k15 hl
       have e3 := (show v3 = .bool false from hf _ (memI 11 rfl) (by kernel_rfl))
       subst e3
       show Option.isSome _ = true
       kernel_rfl
      ·intro vs gq stq hl hf
       obtain ⟨v0, v1, v2, v3, v4, v5, v6, v7, v8, v9, v10, v11, v12, v13, v14, rfl⟩ := len_k15 hl
       have e0 := (show v0 = .bool true from hf _ (memI 8 rfl) (by kernel_rfl))
       subst e0
       have e3 := (show v3 = .bool false from hf _ (memI 11 rfl) (by kernel_rfl))
       subst e3
       have e5 := (show v5 = .bool q36 from hf _ (memI 13 rfl) (by kernel_rfl))
       subst e5
       show Option.isSome _ = true
       kernel_rfl
      ·intro vs gq stq hl hf
       obtain ⟨v0, v1, v2, v3, v4, v5, v6, v7, v8, v9, v10, v11, v12, v13, v14, rfl⟩ := len_k15 hl
       have e6 := (show v6 = .bool false from hf _ (memI 14 rfl) (by kernel_rfl))
       subst e6
       show Option.isSome _ = true
       kernel_rfl
      ·intro vs gq stq hl hf
       obtain ⟨v0, v1, v2, v3, v4, v5, v6, v7, v8, v9, v10, v11, v12, v13, v14, rfl⟩ := len_k15 hl
       have e6 := (show v6 = .bool false from hf _ (memI 14 rfl) (by kernel_rfl))
       subst e6
       show Option.isSome _ = true
       kernel_rfl
      ·intro vs gq stq hl hf
       obtain ⟨v0, v1, v2, v3, v4, v5, v6, v7, v8, v9, v10, v11, v12, v13, v14, rfl⟩ := len_k15 hl
       have e6 := (show v6 = .bool false from hf _ (memI 14 rfl) (by kernel_rfl))
       subst e6
       have e9 := (show v9 = .bool true from hf _ (memI 17 rfl) (by kernel_rfl))
       subst e9
       have e14 := (show v14 = .bool (d8.1 == d9.1) from hf _ (memI 24 rfl) (by kernel_rfl))
       subst e14
       show Option.isSome _ = true
       kernel_rfl
      ·intro vs gq stq hl hf
       obtain ⟨v0, v1, v2, v3, v4, v5, v6, v7, v8, v9, v10, v11, v12, v13, v14, rfl⟩ := len_k15 hl
       have e0 := (show v0 = .bool true from hf _ (memI 8 rfl) (by kernel_rfl))
       subst e0
       have e6 := (show v6 = .bool false from hf _ (memI 14 rfl) (by kernel_rfl))
       subst e6
       have e9 := (show v9 = .bool true from hf _ (memI 17 rfl) (by kernel_rfl))
       subst e9
       have e14 := (show v14 = .bool (d8.1 == d9.1) from hf _ (memI 24 rfl) (by kernel_rfl))
       subst e14
       show Option.isSome _ = true
       kernel_rfl
      ·intro vs gq stq hl hf
       obtain ⟨v0, v1, v2, v3, v4, v5, v6, v7, v8, v9, v10, v11, v12, v13, v14, rfl⟩ := len_k15 hl
       have e0 := (show v0 = .bool true from hf _ (memI 8 rfl) (by kernel_rfl))
       subst e0
       have e6 := (show v6 = .bool false from hf _ (memI 14 rfl) (by kernel_rfl))
       subst e6
       have e9 := (show v9 = .bool true from hf _ (memI 17 rfl) (by kernel_rfl))
       subst e9
       have e14 := (show v14 = .bool (d8.1 == d9.1) from hf _ (memI 24 rfl) (by kernel_rfl))
       subst e14
       show Option.isSome _ = true
       kernel_rfl
      ·intro vs gq stq hl hf
       obtain ⟨v0, v1, v2, v3, v4, v5, v6, v7, v8, v9, v10, v11, v12, v13, v14, rfl⟩ := len_k15 hl
       have e0 := (show v0 = .bool true from hf _ (memI 8 rfl) (by kernel_rfl))
       subst e0
       have e6 := (show v6 = .bool false from hf _ (memI 14 rfl) (by kernel_rfl))
       subst e6
       have e9 := (show v9 = .bool true from hf _ (memI 17 rfl) (by kernel_rfl))
       subst e9
       have e14 := (show v14 = .bool (d8.1 == d9.1) from hf _ (memI 24 rfl) (by kernel_rfl))
       subst e14
       show Option.isSome _ = true
       kernel_rfl
     ·intro j hj
      have hq : j = 0 ∨ j = 1 ∨ j = 2 ∨ j = 3 ∨ j = 4 ∨ j = 5 ∨ j = 6 ∨ j = 7 ∨ j = 8 ∨ j = 9 ∨ j = 10 ∨ j = 11 ∨ j = 12 ∨ j = 13 ∨ j = 14 := by have h : j < 15 := hj; omega
      rcases hq with rfl | rfl | rfl | rfl | rfl | rfl | rfl | rfl | rfl | rfl | rfl | rfl | rfl | rfl | rfl
      ·intro vs gq stq hl hf
       obtain ⟨v0, v1, v2, v3, v4, v5, v6, v7, v8, v9, v10, v11, v12, v13, v14, rfl⟩ := len_k15 hl
       refine WP.stl 1 ?_
       refine WP.dn (Shown.ok (v := .bool q17) (by kernel_rfl) (Step.refl _ _) ?_)
       exact ⟨tv, tv, tv, tv, tv, tv, tv, tv, congrArg Value.bool h28, tv, tv, tv, tv, tv, tv, tv, tv, tv, tv, tv, tv, tv, tv, tv, tv, tv⟩
      ·intro vs gq stq hl hf
       obtain ⟨v0, v1, v2, v3, v4, v5, v6, v7, v8, v9, v10, v11, v12, v13, v14, rfl⟩ := len_k15 hl
       have hR17 := (show OwnS Kd.bool gq (t + 12) 4 a17 n10 c13 (setI l12 x6 q34) from hf _ (memI 7 rfl) (by kernel_rfl))
       have e0 := (show v0 = .bool true from hf _ (memI 8 rfl) (by kernel_rfl))
       subst e0
       refine WP.indexA (t := 28) (e := 4) (sz := 1) (cap := c13) (k := .i64) (i := x6) hR17.len ha13 (by kernel_rfl) (by kernel_rfl) hc18 ?_
       refine WP.dn (Shown.ok (v := .pointer (some ⟨b19, u13 + x6.toNat * 1, none⟩)) (by kernel_rfl) (Step.refl _ _) ?_)
       exact ⟨tv, tv, tv, tv, tv, tv, tv, tv, tv, rfl, tv, tv, tv, tv, tv, tv, tv, tv, tv, tv, tv, tv, tv, tv, tv, tv⟩
      ·intro vs gq stq hl hf
       obtain ⟨v0, v1, v2, v3, v4, v5, v6, v7, v8, v9, v10, v11, v12, v13, v14, rfl⟩ := len_k15 hl
       have hR17 := (show OwnS Kd.bool gq (t + 12) 4 a17 n10 c13 (setI l12 x6 q34) from hf _ (memI 7 rfl) (by kernel_rfl))
       have e0 := (show v0 = .bool true from hf _ (memI 8 rfl) (by kernel_rfl))
       subst e0
       have e1 := (show v1 = .pointer (some ⟨b19, u13 + x6.toNat * 1, none⟩) from hf _ (memI 9 rfl) (by kernel_rfl))
       subst e1
       obtain ⟨cs9, hcR9, hcV9⟩ := hR17.src.view (getI_some hc18) ha13
       replace hcR9 := Kd.o_bool hcR9
       refine WP.loadV [[.bool (getI (setI l12 x6 q34) x6)]] [1] hcV9 hcR9 rfl (f := 0) (ty := 4) (agg := false) (size := 1) (rs := [[.bool (getI (setI l12 x6 q34) x6)]]) (v := .bool (getI (setI l12 x6 q34) x6)) (by kernel_rfl) (by kernel_rfl) (by kernel_rfl) (by kernel_rfl) ?_
       refine WP.dn (Shown.ok (v := .bool (getI (setI l12 x6 q34) x6)) (by kernel_rfl) (Step.refl _ _) ?_)
       exact ⟨tv, tv, tv, tv, tv, tv, tv, tv, tv, tv, rfl, tv, tv, tv, tv, tv, tv, tv, tv, tv, tv, tv, tv, tv, tv, tv⟩
      ·intro vs gq stq hl hf
       obtain ⟨v0, v1, v2, v3, v4, v5, v6, v7, v8, v9, v10, v11, v12, v13, v14, rfl⟩ := len_k15 hl
       have e0 := (show v0 = .bool true from hf _ (memI 8 rfl) (by kernel_rfl))
       subst e0
       have e2 := (show v2 = .bool (getI (setI l12 x6 q34) x6) from hf _ (memI 10 rfl) (by kernel_rfl))
       subst e2
       refine WP.stl 1 ?_
       refine WP.dn (Shown.ok (v := .bool (getI (setI l12 x6 q34) x6)) (by kernel_rfl) (Step.refl _ _) ?_)
       exact ⟨tv, tv, tv, tv, tv, tv, tv, tv, tv, tv, tv, congrArg Value.bool h29, tv, tv, tv, tv, tv, tv, tv, tv, tv, tv, tv, tv, tv, tv⟩
      ·intro vs gq stq hl hf
       obtain ⟨v0, v1, v2, v3, v4, v5, v6, v7, v8, v9, v10, v11, v12, v13, v14, rfl⟩ := len_k15 hl
       have hB2 := (show Box gq (t + 2) b2 45 [[.slice a3 n3 c3], [.slice a4 n4 c4], [.slice a5 n5 c5]] [1, 1, 1] from hf _ (memI 0 rfl) (by kernel_rfl))
       have e3 := (show v3 = .bool false from hf _ (memI 11 rfl) (by kernel_rfl))
       subst e3
       refine WP.loadB (v := .slice a3 n3 c3) hB2 (by kernel_rfl) (by kernel_rfl) ?_
       refine WP.dn (Shown.ok (v := .slice a3 n3 c3) (by kernel_rfl) (Step.refl _ _) ?_)
       exact ⟨tv, tv, tv, tv, tv, tv, tv, tv, tv, tv, tv, tv, rfl, tv, tv, tv, tv, tv, tv, tv, tv, tv, tv, tv, tv, tv⟩
      ·intro vs gq stq hl hf
       obtain ⟨v0, v1, v2, v3, v4, v5, v6, v7, v8, v9, v10, v11, v12, v13, v14, rfl⟩ := len_k15 hl
       have hR3 := (show RdS Kd.bool gq 4 a3 n3 c3 l3 from hf _ (memI 1 rfl) (by kernel_rfl))
       have e3 := (show v3 = .bool false from hf _ (memI 11 rfl) (by kernel_rfl))
       subst e3
       have e4 := (show v4 = .slice a3 n3 c3 from hf _ (memI 12 rfl) (by kernel_rfl))
       subst e4
       have hcal27 := P.baizelaw35_at gq l3 x6 a3 n3 c3 hR3 q36 hk27
       refine WP.callC hcal27 (by kernel_rfl) ?_
       rintro _ g58 st58 rfl
       refine WP.dn (Shown.o (v := .bool q36) st58.pure ?_)
       exact ⟨tv, tv, tv, tv, tv, tv, tv, tv, tv, tv, tv, tv, tv, rfl, tv, tv, tv, tv, tv, tv, tv, tv, tv, tv, tv, tv⟩
      ·intro vs gq stq hl hf
       obtain ⟨v0, v1, v2, v3, v4, v5, v6, v7, v8, v9, v10, v11, v12, v13, v14, rfl⟩ := len_k15 hl
       have e0 := (show v0 = .bool true from hf _ (memI 8 rfl) (by kernel_rfl))
       subst e0
       have e3 := (show v3 = .bool false from hf _ (memI 11 rfl) (by kernel_rfl))
       subst e3
       have e5 := (show v5 = .bool q36 from hf _ (memI 13 rfl) (by kernel_rfl))
       subst e5
       refine WP.stl 1 ?_
       refine WP.dn (Shown.ok (v := .bool q36) (by kernel_rfl) (Step.refl _ _) ?_)
       exact ⟨tv, tv, tv, tv, tv, tv, tv, tv, tv, tv, tv, tv, tv, tv, congrArg Value.bool h30, tv, tv, tv, tv, tv, tv, tv, tv, tv, tv, tv⟩
      ·intro vs gq stq hl hf
       obtain ⟨v0, v1, v2, v3, v4, v5, v6, v7, v8, v9, v10, v11, v12, v13, v14, rfl⟩ := len_k15 hl
       have hB2 := (show Box gq (t + 2) b2 45 [[.slice a3 n3 c3], [.slice a4 n4 c4], [.slice a5 n5 c5]] [1, 1, 1] from hf _ (memI 0 rfl) (by kernel_rfl))
       have e6 := (show v6 = .bool false from hf _ (memI 14 rfl) (by kernel_rfl))
       subst e6
       refine WP.loadB (v := .slice a4 n4 c4) hB2 (by kernel_rfl) (by kernel_rfl) ?_
       refine WP.dn (Shown.ok (v := .slice a4 n4 c4) (by kernel_rfl) (Step.refl _ _) ?_)
       exact ⟨tv, tv, tv, tv, tv, tv, tv, tv, tv, tv, tv, tv, tv, tv, tv, rfl, tv, tv, tv, tv, tv, tv, tv, tv, tv, tv⟩
      ·intro vs gq stq hl hf
       obtain ⟨v0, v1, v2, v3, v4, v5, v6, v7, v8, v9, v10, v11, v12, v13, v14, rfl⟩ := len_k15 hl
       have hR4 := (show RdS Kd.bool gq 4 a4 n4 c4 l4 from hf _ (memI 2 rfl) (by kernel_rfl))
       have e6 := (show v6 = .bool false from hf _ (memI 14 rfl) (by kernel_rfl))
       subst e6
       have e7 := (show v7 = .slice a4 n4 c4 from hf _ (memI 15 rfl) (by kernel_rfl))
       subst e7
       have hcal28 := P.baizelaw35_at gq l4 x6 a4 n4 c4 hR4 q37 hk28
       refine WP.callC hcal28 (by kernel_rfl) ?_
       rintro _ g60 st60 rfl
       refine WP.dn (Shown.o (v := .bool q37) st60.pure ?_)
       exact ⟨tv, tv, tv, tv, tv, tv, tv, tv, tv, tv, tv, tv, tv, tv, tv, tv, rfl, tv, tv, tv, tv, tv, tv, tv, tv, tv⟩
      ·intro vs gq stq hl hf
       obtain ⟨v0, v1, v2, v3, v4, v5, v6, v7, v8, v9, v10, v11, v12, v13, v14, rfl⟩ := len_k15 hl
       have e6 := (show v6 = .bool false from hf _ (memI 14 rfl) (by kernel_rfl))
       subst e6
       have e8 := (show v8 = .bool q37 from hf _ (memI 16 rfl) (by kernel_rfl))
       subst e8
       refine WP.stl 1 ?_
       refine WP.dn (Shown.ok (v := .bool q37) (by kernel_rfl) (Step.refl _ _) ?_)
       exact ⟨tv, tv, tv, tv, tv, tv, tv, tv, tv, tv, tv, tv, tv, tv, tv, tv, tv, congrArg Value.bool h31, tv, tv, tv, tv, tv, tv, tv, tv⟩
      ·intro vs gq stq hl hf
       obtain ⟨v0, v1, v2, v3, v4, v5, v6, v7, v8, v9, v10, v11, v12, v13, v14, rfl⟩ := len_k15 hl
       have hB3 := (show Box gq (t + 4) b3 49 [encA .u8 (⟨[7, 0, 0, 0, 0, 0, 0, 0], rfl⟩ : Arr Int 8), [.slice a7 (0 + n1) c6]] [8, 1] from hf _ (memI 3 rfl) (by kernel_rfl))
       have e9 := (show v9 = .bool true from hf _ (memI 17 rfl) (by kernel_rfl))
       subst e9
       refine WP.loadB (v := AG [encA .u8 (⟨[7, 0, 0, 0, 0, 0, 0, 0], rfl⟩ : Arr Int 8), [.slice a7 (0 + n1) c6]]) hB3 (by kernel_rfl) (by kernel_rfl) ?_
       refine WP.dn (Shown.ok (v := AG [encA .u8 (⟨[7, 0, 0, 0, 0, 0, 0, 0], rfl⟩ : Arr Int 8), [.slice a7 (0 + n1) c6]]) (by kernel_rfl) (Step.refl _ _) ?_)
       exact ⟨tv, tv, tv, tv, tv, tv, tv, tv, tv, tv, tv, tv, tv, tv, tv, tv, tv, tv, rfl, tv, tv, tv, tv, tv, tv, tv⟩
      ·intro vs gq stq hl hf
       obtain ⟨v0, v1, v2, v3, v4, v5, v6, v7, v8, v9, v10, v11, v12, v13, v14, rfl⟩ := len_k15 hl
       have hR7 := (show OwnS (Kd.int .i64) gq (t + 3) 3 a7 (0 + n1) c6 l9 from hf _ (memI 4 rfl) (by kernel_rfl))
       have e9 := (show v9 = .bool true from hf _ (memI 17 rfl) (by kernel_rfl))
       subst e9
       have e10 := (show v10 = AG [encA .u8 (⟨[7, 0, 0, 0, 0, 0, 0, 0], rfl⟩ : Arr Int 8), [.slice a7 (0 + n1) c6]] from hf _ (memI 18 rfl) (by kernel_rfl))
       subst e10
       have hS11 : 0 ∉ ([(t + 3)] : List Nat) := by simp <;> omega
       have stl11 := GW.lend_step gq [(t + 3)]
       have hRl27 := hR7.lendTo hS11 (by simp)
       refine WP.regw (g' := GW.lend gq [(t + 3)]) rfl ?_
       have hcal29 := P.state_Payout_Digest (GW.lend gq [(t + 3)]) (⟨[7, 0, 0, 0, 0, 0, 0, 0], rfl⟩ : Arr Int 8) l9 a7 (0 + n1) c6 hRl27 d8 hk29
       refine WP.callC hcal29 (by kernel_rfl) ?_
       rintro _ g61 st61 rfl
       have st62 := (GW.back_step st61).lentS
       have hO33 := hR7.backTo hS11 (by simp) st61 (fun x => x)
       refine WP.regw (g' := GW.back gq g61 [(t + 3)]) rfl ?_
       generalize GW.back gq g61 [(t + 3)] = g62 at *
       refine WP.dn (Shown.o (v := AG [encA .u8 d8]) st62 ?_)
       exact ⟨tv, tv, tv, tv, tv, tv, tv, tv, tv, tv, tv, tv, tv, tv, tv, tv, tv, tv, tv, rfl, hO33, tv, tv, tv, tv, tv⟩
      ·intro vs gq stq hl hf
       obtain ⟨v0, v1, v2, v3, v4, v5, v6, v7, v8, v9, v10, v11, v12, v13, v14, rfl⟩ := len_k15 hl
       have hB5 := (show Box gq (t + 6) b4 49 [encA .u8 (⟨[7, 0, 0, 0, 0, 0, 0, 0], rfl⟩ : Arr Int 8), [.slice a9 (0 + n2) c7]] [8, 1] from hf _ (memI 5 rfl) (by kernel_rfl))
       have e9 := (show v9 = .bool true from hf _ (memI 17 rfl) (by kernel_rfl))
       subst e9
       refine WP.loadB (v := AG [encA .u8 (⟨[7, 0, 0, 0, 0, 0, 0, 0], rfl⟩ : Arr Int 8), [.slice a9 (0 + n2) c7]]) hB5 (by kernel_rfl) (by kernel_rfl) ?_
       refine WP.dn (Shown.ok (v := AG [encA .u8 (⟨[7, 0, 0, 0, 0, 0, 0, 0], rfl⟩ : Arr Int 8), [.slice a9 (0 + n2) c7]]) (by kernel_rfl) (Step.refl _ _) ?_)
       exact ⟨tv, tv, tv, tv, tv, tv, tv, tv, tv, tv, tv, tv, tv, tv, tv, tv, tv, tv, tv, tv, tv, rfl, tv, tv, tv, tv⟩
      ·intro vs gq stq hl hf
       obtain ⟨v0, v1, v2, v3, v4, v5, v6, v7, v8, v9, v10, v11, v12, v13, v14, rfl⟩ := len_k15 hl
       have hR9 := (show OwnS (Kd.int .i64) gq (t + 5) 3 a9 (0 + n2) c7 l10 from hf _ (memI 6 rfl) (by kernel_rfl))
       have e9 := (show v9 = .bool true from hf _ (memI 17 rfl) (by kernel_rfl))
       subst e9
       have e12 := (show v12 = AG [encA .u8 (⟨[7, 0, 0, 0, 0, 0, 0, 0], rfl⟩ : Arr Int 8), [.slice a9 (0 + n2) c7]] from hf _ (memI 21 rfl) (by kernel_rfl))
       subst e12
       have hS12 : 0 ∉ ([(t + 5)] : List Nat) := by simp <;> omega
       have stl12 := GW.lend_step gq [(t + 5)]
       have hRl28 := hR9.lendTo hS12 (by simp)
       refine WP.regw (g' := GW.lend gq [(t + 5)]) rfl ?_
       have hcal30 := P.state_Payout_Digest (GW.lend gq [(t + 5)]) (⟨[7, 0, 0, 0, 0, 0, 0, 0], rfl⟩ : Arr Int 8) l10 a9 (0 + n2) c7 hRl28 d9 hk30
       refine WP.callC hcal30 (by kernel_rfl) ?_
       rintro _ g63 st63 rfl
       have st64 := (GW.back_step st63).lentS
       have hO34 := hR9.backTo hS12 (by simp) st63 (fun x => x)
       refine WP.regw (g' := GW.back gq g63 [(t + 5)]) rfl ?_
       generalize GW.back gq g63 [(t + 5)] = g64 at *
       refine WP.dn (Shown.o (v := AG [encA .u8 d9]) st64 ?_)
       exact ⟨tv, tv, tv, tv, tv, tv, tv, tv, tv, tv, tv, tv, tv, tv, tv, tv, tv, tv, tv, tv, tv, tv, rfl, hO34, tv, tv⟩
      ·intro vs gq stq hl hf
       obtain ⟨v0, v1, v2, v3, v4, v5, v6, v7, v8, v9, v10, v11, v12, v13, v14, rfl⟩ := len_k15 hl
       have e9 := (show v9 = .bool true from hf _ (memI 17 rfl) (by kernel_rfl))
       subst e9
       have e11 := (show v11 = AG [encA .u8 d8] from hf _ (memI 19 rfl) (by kernel_rfl))
       subst e11
       have e13 := (show v13 = AG [encA .u8 d9] from hf _ (memI 22 rfl) (by kernel_rfl))
       subst e13
       refine WP.eqV (by kernel_rfl) (by kernel_rfl) (EqV.arr (d := 9998) (t := 47) (e := 5) (m := 8) (k := .u8) (x := d8) (y := d9) (by kernel_rfl) (by kernel_rfl)) ?_
       refine WP.dn (Shown.ok (v := .bool (d8.1 == d9.1)) (by kernel_rfl) (Step.refl _ _) ?_)
       exact ⟨tv, tv, tv, tv, tv, tv, tv, tv, tv, tv, tv, tv, tv, tv, tv, tv, tv, tv, tv, tv, tv, tv, tv, tv, rfl, tv⟩
     intro vs g65 st65 hl hf
     obtain ⟨v0, v1, v2, v3, v4, v5, v6, v7, v8, v9, v10, v11, v12, v13, v14, rfl⟩ := len_k15 hl
     have e0 := (show v0 = .bool true from hf _ (memI 8 rfl) (by kernel_rfl))
     subst e0
     have e1 := (show v1 = .pointer (some ⟨b19, u13 + x6.toNat * 1, none⟩) from hf _ (memI 9 rfl) (by kernel_rfl))
     subst e1
     have e2 := (show v2 = .bool (getI (setI l12 x6 q34) x6) from hf _ (memI 10 rfl) (by kernel_rfl))
     subst e2
     have e3 := (show v3 = .bool false from hf _ (memI 11 rfl) (by kernel_rfl))
     subst e3
     have e4 := (show v4 = .slice a3 n3 c3 from hf _ (memI 12 rfl) (by kernel_rfl))
     subst e4
     have e5 := (show v5 = .bool q36 from hf _ (memI 13 rfl) (by kernel_rfl))
     subst e5
     have e6 := (show v6 = .bool false from hf _ (memI 14 rfl) (by kernel_rfl))
     subst e6
     have e7 := (show v7 = .slice a4 n4 c4 from hf _ (memI 15 rfl) (by kernel_rfl))
     subst e7
     have e8 := (show v8 = .bool q37 from hf _ (memI 16 rfl) (by kernel_rfl))
     subst e8
     have e9 := (show v9 = .bool true from hf _ (memI 17 rfl) (by kernel_rfl))
     subst e9
     have e10 := (show v10 = AG [encA .u8 (⟨[7, 0, 0, 0, 0, 0, 0, 0], rfl⟩ : Arr Int 8), [.slice a7 (0 + n1) c6]] from hf _ (memI 18 rfl) (by kernel_rfl))
     subst e10
     have e11 := (show v11 = AG [encA .u8 d8] from hf _ (memI 19 rfl) (by kernel_rfl))
     subst e11
     have hR7 := (show OwnS (Kd.int .i64) g65 (t + 3) 3 a7 (0 + n1) c6 l9 from hf _ (memI 20 rfl) (by kernel_rfl))
     have e12 := (show v12 = AG [encA .u8 (⟨[7, 0, 0, 0, 0, 0, 0, 0], rfl⟩ : Arr Int 8), [.slice a9 (0 + n2) c7]] from hf _ (memI 21 rfl) (by kernel_rfl))
     subst e12
     have e13 := (show v13 = AG [encA .u8 d9] from hf _ (memI 22 rfl) (by kernel_rfl))
     subst e13
     have hR9 := (show OwnS (Kd.int .i64) g65 (t + 5) 3 a9 (0 + n2) c7 l10 from hf _ (memI 23 rfl) (by kernel_rfl))
     have e14 := (show v14 = .bool (d8.1 == d9.1) from hf _ (memI 24 rfl) (by kernel_rfl))
     subst e14
     replace hB2 := hB2.mono st65 (WL.no2 (by omega) (by omega))
     replace hR3 := hR3.mono st65 (WL.no2 (by omega) (by omega))
     replace hR4 := hR4.mono st65 (WL.no2 (by omega) (by omega))
     replace hR5 := hR5.mono st65 (WL.no2 (by omega) (by omega))
     replace hR1 := hR1.mono st65 (WL.no2 (by omega) (by omega))
     replace hB3 := hB3.mono st65 (WL.no2 (by omega) (by omega))
     replace hB5 := hB5.mono st65 (WL.no2 (by omega) (by omega))
     replace hB7 := hB7.mono st65 (WL.no2 (by omega) (by omega))
     replace hR10 := hR10.mono st65 (WL.no2 (by omega) (by omega)) (WL.no2 (by omega) (by omega))
     replace hB8 := hB8.mono st65 (WL.no2 (by omega) (by omega))
     replace hR11 := hR11.mono st65 (WL.no2 (by omega) (by omega)) (WL.no2 (by omega) (by omega))
     replace hR12 := hR12.mono st65 (WL.no2 (by omega) (by omega)) (WL.no2 (by omega) (by omega))
     replace hR17 := hR17.mono st65 (WL.no2 (by omega) (by omega)) (WL.no2 (by omega) (by omega))
     replace tot := tot.trans (st65.up2 (.inr (by omega)) (.inr (by omega)))
     refine NX.block_n ?_
     refine NX.post ?_
     exact ⟨(setI l12 x6 q34), a17, n10, c13, q35, (d8.1 == d9.1), ⟨by kernel_rfl, by kernel_rfl⟩, tot, hB2, hR3, hR4, hR5, hR1, hB3, hR7, hB5, hR9, hB7, hR10, hB8, hR11, hR12, hR17, hs⟩
    replace hs := of_if_f hs h31
    obtain ⟨b19, u13, ha13⟩ := hR17.at (i := x6) (by first | exact hc18 | simpa only [setI_length] using hc18)
    refine CP.drawL (by kernel_rfl) [1, 4, 5, 6, 8, 10, 12, 14, 16, 17] N.baizelaw35_CloseAgrees_0 [⟨none, [], [], fun l g => Box g (t + 2) b2 45 [[.slice a3 n3 c3], [.slice a4 n4 c4], [.slice a5 n5 c5]] [1, 1, 1]⟩, ⟨none, [], [], fun l g => RdS Kd.bool g 4 a3 n3 c3 l3⟩, ⟨none, [], [], fun l g => RdS Kd.bool g 4 a4 n4 c4 l4⟩, ⟨none, [], [], fun l g => OwnS Kd.bool g (t + 12) 4 a17 n10 c13 (setI l12 x6 q34)⟩, ⟨some 0, [], [0], fun l g => l.getD 0 undef = .bool true⟩, ⟨some 1, [], [1], fun l g => l.getD 0 undef = .pointer (some ⟨b19, u13 + x6.toNat * 1, none⟩)⟩, ⟨some 2, [], [2], fun l g => l.getD 0 undef = .bool (getI (setI l12 x6 q34) x6)⟩, ⟨some 3, [], [3], fun l g => l.getD 0 undef = .bool false⟩, ⟨some 4, [], [4], fun l g => l.getD 0 undef = .slice a3 n3 c3⟩, ⟨some 5, [], [5], fun l g => l.getD 0 undef = .bool q36⟩, ⟨some 6, [], [6], fun l g => l.getD 0 undef = .bool false⟩, ⟨some 7, [], [7], fun l g => l.getD 0 undef = .slice a4 n4 c4⟩, ⟨some 8, [], [8], fun l g => l.getD 0 undef = .bool q37⟩, ⟨some 9, [], [9], fun l g => l.getD 0 undef = .bool false⟩] [[], [], [], [], [], [], [], [], [], []] [] [0] [2, 3, 7, 9, 11, 13, 15, 18, 19, 20, 21, 22, 23, 24, 25, 26] (by kernel_rfl) (by simp) (by simp) ⟨fun _ _ _ _ st h0 hl hj hB2 => (hB2.mono st (fun h => absurd (hl _ h) (by simp))), fun _ _ _ _ st h0 hl hj hR3 => (RdS.mono (e := 4) hR3 st h0), fun _ _ _ _ st h0 hl hj hR4 => (RdS.mono (e := 4) hR4 st h0), fun _ _ _ _ st h0 hl hj hR17 => (hR17.mono st h0 (fun h => absurd (hl _ h) (by simp))), fun _ _ _ _ st h0 hl hj e0 => e0, fun _ _ _ _ st h0 hl hj e1 => e1, fun _ _ _ _ st h0 hl hj e2 => e2, fun _ _ _ _ st h0 hl hj e3 => e3, fun _ _ _ _ st h0 hl hj e4 => e4, fun _ _ _ _ st h0 hl hj e5 => e5, fun _ _ _ _ st h0 hl hj e6 => e6, fun _ _ _ _ st h0 hl hj e7 => e7, fun _ _ _ _ st h0 hl hj e8 => e8, fun _ _ _ _ st h0 hl hj e9 => e9, tv⟩ ⟨hB2, hR3, hR4, hR17, tv, tv, tv, tv, tv, tv, tv, tv, tv, tv, tv⟩ (by kernel_rfl) (fun vs => by kernel_rfl) ?_ ?_ ?_
    ·intro j hj
     have hq : j = 0 ∨ j = 1 ∨ j = 2 ∨ j = 3 ∨ j = 4 ∨ j = 5 ∨ j = 6 ∨ j = 7 ∨ j = 8 ∨ j = 9 ∨ j = 10 ∨ j = 11 ∨ j = 12 ∨ j = 13 ∨ j = 14 ∨ j = 15 := by have h : j < 16 := hj; omega
     rcases hq with rfl | rfl | rfl | rfl | rfl | rfl | rfl | rfl | rfl | rfl | rfl | rfl | rfl | rfl | rfl | rfl
     ·intro vs gq stq hl hf
      obtain ⟨v0, v1, v2, v3, v4, v5, v6, v7, v8, v9, rfl⟩ := len_k10 hl
      have e0 := (show v0 = .bool true from hf _ (memI 4 rfl) (by kernel_rfl))
      subst e0
      show Option.isSome _ = true
      kernel_rfl
     ·intro vs gq stq hl hf
      obtain ⟨v0, v1, v2, v3, v4, v5, v6, v7, v8, v9, rfl⟩ := len_k10 hl
      have e0 := (show v0 = .bool true from hf _ (memI 4 rfl) (by kernel_rfl))
      subst e0
      show Option.isSome _ = true
      kernel_rfl
     ·intro vs gq stq hl hf
      obtain ⟨v0, v1, v2, v3, v4, v5, v6, v7, v8, v9, rfl⟩ := len_k10 hl
      have e3 := (show v3 = .bool false from hf _ (memI 7 rfl) (by kernel_rfl))
      subst e3
      show Option.isSome _ = true
      kernel_rfl
     ·intro vs gq stq hl hf
      obtain ⟨v0, v1, v2, v3, v4, v5, v6, v7, v8, v9, rfl⟩ := len_k10 hl
      have e3 := (show v3 = .bool false from hf _ (memI 7 rfl) (by kernel_rfl))
      subst e3
      show Option.isSome _ = true
      kernel_rfl
     ·intro vs gq stq hl hf
      obtain ⟨v0, v1, v2, v3, v4, v5, v6, v7, v8, v9, rfl⟩ := len_k10 hl
      have e0 := (show v0 = .bool true from hf _ (memI 4 rfl) (by kernel_rfl))
      subst e0
      have e3 := (show v3 = .bool false from hf _ (memI 7 rfl) (by kernel_rfl))
      subst e3
      have e5 := (show v5 = .bool q36 from hf _ (memI 9 rfl) (by kernel_rfl))
      subst e5
      show Option.isSome _ = true
      kernel_rfl
     ·intro vs gq stq hl hf
      obtain ⟨v0, v1, v2, v3, v4, v5, v6, v7, v8, v9, rfl⟩ := len_k10 hl
      have e6 := (show v6 = .bool false from hf _ (memI 10 rfl) (by kernel_rfl))
      subst e6
      show Option.isSome _ = true
      kernel_rfl
     ·intro vs gq stq hl hf
      obtain ⟨v0, v1, v2, v3, v4, v5, v6, v7, v8, v9, rfl⟩ := len_k10 hl
      have e6 := (show v6 = .bool false from hf _ (memI 10 rfl) (by kernel_rfl))
      subst e6
      show Option.isSome _ = true
      kernel_rfl
     ·intro vs gq stq hl hf
      obtain ⟨v0, v1, v2, v3, v4, v5, v6, v7, v8, v9, rfl⟩ := len_k10 hl
      have e9 := (show v9 = .bool false from hf _ (memI 13 rfl) (by kernel_rfl))
      subst e9
      show Option.isSome _ = true
      kernel_rfl
     ·intro vs gq stq hl hf
      obtain ⟨v0, v1, v2, v3, v4, v5, v6, v7, v8, v9, rfl⟩ := len_k10 hl
      have e9 := (show v9 = .bool false from hf _ (memI 13 rfl) (by kernel_rfl))
      subst e9
      show Option.isSome _ = true
      kernel_rfl
     ·intro vs gq stq hl hf
      obtain ⟨v0, v1, v2, v3, v4, v5, v6, v7, v8, v9, rfl⟩ := len_k10 hl
      have e9 := (show v9 = .bool false from hf _ (memI 13 rfl) (by kernel_rfl))
      subst e9
      show Option.isSome _ = true
      kernel_rfl
     ·intro vs gq stq hl hf
      obtain ⟨v0, v1, v2, v3, v4, v5, v6, v7, v8, v9, rfl⟩ := len_k10 hl
      have e9 := (show v9 = .bool false from hf _ (memI 13 rfl) (by kernel_rfl))
      subst e9
      show Option.isSome _ = true
      kernel_rfl
     ·intro vs gq stq hl hf
      obtain ⟨v0, v1, v2, v3, v4, v5, v6, v7, v8, v9, rfl⟩ := len_k10 hl
      have e9 := (show v9 = .bool false from hf _ (memI 13 rfl) (by kernel_rfl))
      subst e9
      show Option.isSome _ = true
      kernel_rfl
     ·intro vs gq stq hl hf
      obtain ⟨v0, v1, v2, v3, v4, v5, v6, v7, v8, v9, rfl⟩ := len_k10 hl
      have e6 := (show v6 = .bool false from hf _ (memI 10 rfl) (by kernel_rfl))
      subst e6
      have e9 := (show v9 = .bool false from hf _ (memI 13 rfl) (by kernel_rfl))
      subst e9
      show Option.isSome _ = true
      kernel_rfl
     ·intro vs gq stq hl hf
      obtain ⟨v0, v1, v2, v3, v4, v5, v6, v7, v8, v9, rfl⟩ := len_k10 hl
      have e0 := (show v0 = .bool true from hf _ (memI 4 rfl) (by kernel_rfl))
      subst e0
      have e6 := (show v6 = .bool false from hf _ (memI 10 rfl) (by kernel_rfl))
      subst e6
      have e9 := (show v9 = .bool false from hf _ (memI 13 rfl) (by kernel_rfl))
      subst e9
      show Option.isSome _ = true
      kernel_rfl
     ·intro vs gq stq hl hf
      obtain ⟨v0, v1, v2, v3, v4, v5, v6, v7, v8, v9, rfl⟩ := len_k10 hl
      have e0 := (show v0 = .bool true from hf _ (memI 4 rfl) (by kernel_rfl))
      subst e0
      have e6 := (show v6 = .bool false from hf _ (memI 10 rfl) (by kernel_rfl))
      subst e6
      have e9 := (show v9 = .bool false from hf _ (memI 13 rfl) (by kernel_rfl))
      subst e9
      show Option.isSome _ = true
      kernel_rfl
     ·intro vs gq stq hl hf
      obtain ⟨v0, v1, v2, v3, v4, v5, v6, v7, v8, v9, rfl⟩ := len_k10 hl
      have e0 := (show v0 = .bool true from hf _ (memI 4 rfl) (by kernel_rfl))
      subst e0
      have e6 := (show v6 = .bool false from hf _ (memI 10 rfl) (by kernel_rfl))
      subst e6
      have e9 := (show v9 = .bool false from hf _ (memI 13 rfl) (by kernel_rfl))
      subst e9
      show Option.isSome _ = true
      kernel_rfl
    ·intro j hj
     have hq : j = 0 ∨ j = 1 ∨ j = 2 ∨ j = 3 ∨ j = 4 ∨ j = 5 ∨ j = 6 ∨ j = 7 ∨ j = 8 ∨ j = 9 := by have h : j < 10 := hj; omega
     rcases hq with rfl | rfl | rfl | rfl | rfl | rfl | rfl | rfl | rfl | rfl
     ·intro vs gq stq hl hf
      obtain ⟨v0, v1, v2, v3, v4, v5, v6, v7, v8, v9, rfl⟩ := len_k10 hl
      refine WP.stl 1 ?_
      refine WP.dn (Shown.ok (v := .bool q17) (by kernel_rfl) (Step.refl _ _) ?_)
      exact ⟨tv, tv, tv, tv, congrArg Value.bool h28, tv, tv, tv, tv, tv, tv, tv, tv, tv, tv⟩
     ·intro vs gq stq hl hf
      obtain ⟨v0, v1, v2, v3, v4, v5, v6, v7, v8, v9, rfl⟩ := len_k10 hl
      have hR17 := (show OwnS Kd.bool gq (t + 12) 4 a17 n10 c13 (setI l12 x6 q34) from hf _ (memI 3 rfl) (by kernel_rfl))
      have e0 := (show v0 = .bool true from hf _ (memI 4 rfl) (by kernel_rfl))
      subst e0
      refine WP.indexA (t := 28) (e := 4) (sz := 1) (cap := c13) (k := .i64) (i := x6) hR17.len ha13 (by kernel_rfl) (by kernel_rfl) hc18 ?_
      refine WP.dn (Shown.ok (v := .pointer (some ⟨b19, u13 + x6.toNat * 1, none⟩)) (by kernel_rfl) (Step.refl _ _) ?_)
      exact ⟨tv, tv, tv, tv, tv, rfl, tv, tv, tv, tv, tv, tv, tv, tv, tv⟩
     ·intro vs gq stq hl hf
      obtain ⟨v0, v1, v2, v3, v4, v5, v6, v7, v8, v9, rfl⟩ := len_k10 hl
      have hR17 := (show OwnS Kd.bool gq (t + 12) 4 a17 n10 c13 (setI l12 x6 q34) from hf _ (memI 3 rfl) (by kernel_rfl))
      have e0 := (show v0 = .bool true from hf _ (memI 4 rfl) (by kernel_rfl))
      subst e0
      have e1 := (show v1 = .pointer (some ⟨b19, u13 + x6.toNat * 1, none⟩) from hf _ (memI 5 rfl) (by kernel_rfl))
      subst e1
      obtain ⟨cs9, hcR9, hcV9⟩ := hR17.src.view (getI_some hc18) ha13
      replace hcR9 := Kd.o_bool hcR9
      refine WP.loadV [[.bool (getI (setI l12 x6 q34) x6)]] [1] hcV9 hcR9 rfl (f := 0) (ty := 4) (agg := false) (size := 1) (rs := [[.bool (getI (setI l12 x6 q34) x6)]]) (v := .bool (getI (setI l12 x6 q34) x6)) (by kernel_rfl) (by kernel_rfl) (by kernel_rfl) (by kernel_rfl) ?_
      refine WP.dn (Shown.ok (v := .bool (getI (setI l12 x6 q34) x6)) (by kernel_rfl) (Step.refl _ _) ?_)
      exact ⟨tv, tv, tv, tv, tv, tv, rfl, tv, tv, tv, tv, tv, tv, tv, tv⟩
     ·intro vs gq stq hl hf
      obtain ⟨v0, v1, v2, v3, v4, v5, v6, v7, v8, v9, rfl⟩ := len_k10 hl
      have e0 := (show v0 = .bool true from hf _ (memI 4 rfl) (by kernel_rfl))
      subst e0
      have e2 := (show v2 = .bool (getI (setI l12 x6 q34) x6) from hf _ (memI 6 rfl) (by kernel_rfl))
      subst e2
      refine WP.stl 1 ?_
      refine WP.dn (Shown.ok (v := .bool (getI (setI l12 x6 q34) x6)) (by kernel_rfl) (Step.refl _ _) ?_)
      exact ⟨tv, tv, tv, tv, tv, tv, tv, congrArg Value.bool h29, tv, tv, tv, tv, tv, tv, tv⟩
     ·intro vs gq stq hl hf
      obtain ⟨v0, v1, v2, v3, v4, v5, v6, v7, v8, v9, rfl⟩ := len_k10 hl
      have hB2 := (show Box gq (t + 2) b2 45 [[.slice a3 n3 c3], [.slice a4 n4 c4], [.slice a5 n5 c5]] [1, 1, 1] from hf _ (memI 0 rfl) (by kernel_rfl))
      have e3 := (show v3 = .bool false from hf _ (memI 7 rfl) (by kernel_rfl))
      subst e3
      refine WP.loadB (v := .slice a3 n3 c3) hB2 (by kernel_rfl) (by kernel_rfl) ?_
      refine WP.dn (Shown.ok (v := .slice a3 n3 c3) (by kernel_rfl) (Step.refl _ _) ?_)
      exact ⟨tv, tv, tv, tv, tv, tv, tv, tv, rfl, tv, tv, tv, tv, tv, tv⟩
     ·intro vs gq stq hl hf
      obtain ⟨v0, v1, v2, v3, v4, v5, v6, v7, v8, v9, rfl⟩ := len_k10 hl
      have hR3 := (show RdS Kd.bool gq 4 a3 n3 c3 l3 from hf _ (memI 1 rfl) (by kernel_rfl))
      have e3 := (show v3 = .bool false from hf _ (memI 7 rfl) (by kernel_rfl))
      subst e3
      have e4 := (show v4 = .slice a3 n3 c3 from hf _ (memI 8 rfl) (by kernel_rfl))
      subst e4
      have hcal27 := P.baizelaw35_at gq l3 x6 a3 n3 c3 hR3 q36 hk27
      refine WP.callC hcal27 (by kernel_rfl) ?_
      rintro _ g58 st58 rfl
      refine WP.dn (Shown.o (v := .bool q36) st58.pure ?_)
      exact ⟨tv, tv, tv, tv, tv, tv, tv, tv, tv, rfl, tv, tv, tv, tv, tv⟩
     ·intro vs gq stq hl hf
      obtain ⟨v0, v1, v2, v3, v4, v5, v6, v7, v8, v9, rfl⟩ := len_k10 hl
      have e0 := (show v0 = .bool true from hf _ (memI 4 rfl) (by kernel_rfl))
      subst e0
      have e3 := (show v3 = .bool false from hf _ (memI 7 rfl) (by kernel_rfl))
      subst e3
      have e5 := (show v5 = .bool q36 from hf _ (memI 9 rfl) (by kernel_rfl))
      subst e5
      refine WP.stl 1 ?_
      refine WP.dn (Shown.ok (v := .bool q36) (by kernel_rfl) (Step.refl _ _) ?_)
      exact ⟨tv, tv, tv, tv, tv, tv, tv, tv, tv, tv, congrArg Value.bool h30, tv, tv, tv, tv⟩
     ·intro vs gq stq hl hf
      obtain ⟨v0, v1, v2, v3, v4, v5, v6, v7, v8, v9, rfl⟩ := len_k10 hl
      have hB2 := (show Box gq (t + 2) b2 45 [[.slice a3 n3 c3], [.slice a4 n4 c4], [.slice a5 n5 c5]] [1, 1, 1] from hf _ (memI 0 rfl) (by kernel_rfl))
      have e6 := (show v6 = .bool false from hf _ (memI 10 rfl) (by kernel_rfl))
      subst e6
      refine WP.loadB (v := .slice a4 n4 c4) hB2 (by kernel_rfl) (by kernel_rfl) ?_
      refine WP.dn (Shown.ok (v := .slice a4 n4 c4) (by kernel_rfl) (Step.refl _ _) ?_)
      exact ⟨tv, tv, tv, tv, tv, tv, tv, tv, tv, tv, tv, rfl, tv, tv, tv⟩
     ·intro vs gq stq hl hf
      obtain ⟨v0, v1, v2, v3, v4, v5, v6, v7, v8, v9, rfl⟩ := len_k10 hl
      have hR4 := (show RdS Kd.bool gq 4 a4 n4 c4 l4 from hf _ (memI 2 rfl) (by kernel_rfl))
      have e6 := (show v6 = .bool false from hf _ (memI 10 rfl) (by kernel_rfl))
      subst e6
      have e7 := (show v7 = .slice a4 n4 c4 from hf _ (memI 11 rfl) (by kernel_rfl))
      subst e7
      have hcal28 := P.baizelaw35_at gq l4 x6 a4 n4 c4 hR4 q37 hk28
      refine WP.callC hcal28 (by kernel_rfl) ?_
      rintro _ g60 st60 rfl
      refine WP.dn (Shown.o (v := .bool q37) st60.pure ?_)
      exact ⟨tv, tv, tv, tv, tv, tv, tv, tv, tv, tv, tv, tv, rfl, tv, tv⟩
     ·intro vs gq stq hl hf
      obtain ⟨v0, v1, v2, v3, v4, v5, v6, v7, v8, v9, rfl⟩ := len_k10 hl
      have e6 := (show v6 = .bool false from hf _ (memI 10 rfl) (by kernel_rfl))
      subst e6
      have e8 := (show v8 = .bool q37 from hf _ (memI 12 rfl) (by kernel_rfl))
      subst e8
      refine WP.stl 1 ?_
      refine WP.dn (Shown.ok (v := .bool q37) (by kernel_rfl) (Step.refl _ _) ?_)
      exact ⟨tv, tv, tv, tv, tv, tv, tv, tv, tv, tv, tv, tv, tv, congrArg Value.bool h31, tv⟩
    intro vs g66 st66 hl hf
    obtain ⟨v0, v1, v2, v3, v4, v5, v6, v7, v8, v9, rfl⟩ := len_k10 hl
    have e0 := (show v0 = .bool true from hf _ (memI 4 rfl) (by kernel_rfl))
    subst e0
    have e1 := (show v1 = .pointer (some ⟨b19, u13 + x6.toNat * 1, none⟩) from hf _ (memI 5 rfl) (by kernel_rfl))
    subst e1
    have e2 := (show v2 = .bool (getI (setI l12 x6 q34) x6) from hf _ (memI 6 rfl) (by kernel_rfl))
    subst e2
    have e3 := (show v3 = .bool false from hf _ (memI 7 rfl) (by kernel_rfl))
    subst e3
    have e4 := (show v4 = .slice a3 n3 c3 from hf _ (memI 8 rfl) (by kernel_rfl))
    subst e4
    have e5 := (show v5 = .bool q36 from hf _ (memI 9 rfl) (by kernel_rfl))
    subst e5
    have e6 := (show v6 = .bool false from hf _ (memI 10 rfl) (by kernel_rfl))
    subst e6
    have e7 := (show v7 = .slice a4 n4 c4 from hf _ (memI 11 rfl) (by kernel_rfl))
    subst e7
    have e8 := (show v8 = .bool q37 from hf _ (memI 12 rfl) (by kernel_rfl))
    subst e8
    have e9 := (show v9 = .bool false from hf _ (memI 13 rfl) (by kernel_rfl))
    subst e9
    replace hB2 := hB2.mono st66.toNo (fun x => x)
    replace hR3 := hR3.mono st66.toNo (fun x => x)
    replace hR4 := hR4.mono st66.toNo (fun x => x)
    replace hR5 := hR5.mono st66.toNo (fun x => x)
    replace hR1 := hR1.mono st66.toNo (fun x => x)
    replace hB3 := hB3.mono st66.toNo (fun x => x)
    replace hR7 := hR7.mono st66.toNo (fun x => x) (fun x => x)
    replace hB5 := hB5.mono st66.toNo (fun x => x)
    replace hR9 := hR9.mono st66.toNo (fun x => x) (fun x => x)
    replace hB7 := hB7.mono st66.toNo (fun x => x)
    replace hR10 := hR10.mono st66.toNo (fun x => x) (fun x => x)
    replace hB8 := hB8.mono st66.toNo (fun x => x)
    replace hR11 := hR11.mono st66.toNo (fun x => x) (fun x => x)
    replace hR12 := hR12.mono st66.toNo (fun x => x) (fun x => x)
    replace hR17 := hR17.mono st66.toNo (fun x => x) (fun x => x)
    replace tot := tot.trans st66.toNo.pure
    refine NX.block_n ?_
    refine NX.post ?_
    exact ⟨(setI l12 x6 q34), a17, n10, c13, q35, false, ⟨by kernel_rfl, by kernel_rfl⟩, tot, hB2, hR3, hR4, hR5, hR1, hB3, hR7, hB5, hR9, hB7, hR10, hB8, hR11, hR12, hR17, hs⟩
   replace hs := of_if_f hs h28
   refine CP.drawL (by kernel_rfl) [1] N.baizelaw35_CloseAgrees_0 [⟨some 0, [], [0], fun l g => l.getD 0 undef = .bool false⟩] [[]] [] [0] [2, 3, 4, 5, 6, 7, 8, 9, 10, 11, 12, 13, 14, 15, 16, 17, 18, 19, 20, 21, 22, 23, 24, 25, 26] (by kernel_rfl) (by simp) (by simp) ⟨fun _ _ _ _ st h0 hl hj e0 => e0, tv⟩ ⟨tv, tv⟩ (by kernel_rfl) (fun vs => by kernel_rfl) ?_ ?_ ?_
   ·intro j hj
    have hq : j = 0 ∨ j = 1 ∨ j = 2 ∨ j = 3 ∨ j = 4 ∨ j = 5 ∨ j = 6 ∨ j = 7 ∨ j = 8 ∨ j = 9 ∨ j = 10 ∨ j = 11 ∨ j = 12 ∨ j = 13 ∨ j = 14 ∨ j = 15 ∨ j = 16 ∨ j = 17 ∨ j = 18 ∨ j = 19 ∨ j = 20 ∨ j = 21 ∨ j = 22 ∨ j = 23 ∨ j = 24 := by have h : j < 25 := hj; omega
    rcases hq with rfl | rfl | rfl | rfl | rfl | rfl | rfl | rfl | rfl | rfl | rfl | rfl | rfl | rfl | rfl | rfl | rfl | rfl | rfl | rfl | rfl | rfl | rfl | rfl | rfl
    ·intro vs gq stq hl hf
     obtain ⟨v0, rfl⟩ := len_k1 hl
     have e0 := (show v0 = .bool false from hf _ (memI 0 rfl) (by kernel_rfl))
     subst e0
     show Option.isSome _ = true
     kernel_rfl
    ·intro vs gq stq hl hf
     obtain ⟨v0, rfl⟩ := len_k1 hl
     have e0 := (show v0 = .bool false from hf _ (memI 0 rfl) (by kernel_rfl))
     subst e0
     show Option.isSome _ = true
     kernel_rfl
    ·intro vs gq stq hl hf
     obtain ⟨v0, rfl⟩ := len_k1 hl
     have e0 := (show v0 = .bool false from hf _ (memI 0 rfl) (by kernel_rfl))
     subst e0
     show Option.isSome _ = true
     kernel_rfl
    ·intro vs gq stq hl hf
     obtain ⟨v0, rfl⟩ := len_k1 hl
     have e0 := (show v0 = .bool false from hf _ (memI 0 rfl) (by kernel_rfl))
     subst e0
     show Option.isSome _ = true
     kernel_rfl
    ·intro vs gq stq hl hf
     obtain ⟨v0, rfl⟩ := len_k1 hl
     have e0 := (show v0 = .bool false from hf _ (memI 0 rfl) (by kernel_rfl))
     subst e0
     show Option.isSome _ = true
     kernel_rfl
    ·intro vs gq stq hl hf
     obtain ⟨v0, rfl⟩ := len_k1 hl
     have e0 := (show v0 = .bool false from hf _ (memI 0 rfl) (by kernel_rfl))
     subst e0
     show Option.isSome _ = true
     kernel_rfl
    ·intro vs gq stq hl hf
     obtain ⟨v0, rfl⟩ := len_k1 hl
     have e0 := (show v0 = .bool false from hf _ (memI 0 rfl) (by kernel_rfl))
     subst e0
     show Option.isSome _ = true
     kernel_rfl
    ·intro vs gq stq hl hf
     obtain ⟨v0, rfl⟩ := len_k1 hl
     have e0 := (show v0 = .bool false from hf _ (memI 0 rfl) (by kernel_rfl))
     subst e0
     show Option.isSome _ = true
     kernel_rfl
    ·intro vs gq stq hl hf
     obtain ⟨v0, rfl⟩ := len_k1 hl
     have e0 := (show v0 = .bool false from hf _ (memI 0 rfl) (by kernel_rfl))
     subst e0
     show Option.isSome _ = true
     kernel_rfl
    ·intro vs gq stq hl hf
     obtain ⟨v0, rfl⟩ := len_k1 hl
     have e0 := (show v0 = .bool false from hf _ (memI 0 rfl) (by kernel_rfl))
     subst e0
     show Option.isSome _ = true
     kernel_rfl
    ·intro vs gq stq hl hf
     obtain ⟨v0, rfl⟩ := len_k1 hl
     have e0 := (show v0 = .bool false from hf _ (memI 0 rfl) (by kernel_rfl))
     subst e0
     show Option.isSome _ = true
     kernel_rfl
    ·intro vs gq stq hl hf
     obtain ⟨v0, rfl⟩ := len_k1 hl
     have e0 := (show v0 = .bool false from hf _ (memI 0 rfl) (by kernel_rfl))
     subst e0
     show Option.isSome _ = true
     kernel_rfl
    ·intro vs gq stq hl hf
     obtain ⟨v0, rfl⟩ := len_k1 hl
     have e0 := (show v0 = .bool false from hf _ (memI 0 rfl) (by kernel_rfl))
     subst e0
     show Option.isSome _ = true
     kernel_rfl
    ·intro vs gq stq hl hf
     obtain ⟨v0, rfl⟩ := len_k1 hl
     have e0 := (show v0 = .bool false from hf _ (memI 0 rfl) (by kernel_rfl))
     subst e0
     show Option.isSome _ = true
     kernel_rfl
    ·intro vs gq stq hl hf
     obtain ⟨v0, rfl⟩ := len_k1 hl
     have e0 := (show v0 = .bool false from hf _ (memI 0 rfl) (by kernel_rfl))
     subst e0
     show Option.isSome _ = true
     kernel_rfl
    ·intro vs gq stq hl hf
     obtain ⟨v0, rfl⟩ := len_k1 hl
     have e0 := (show v0 = .bool false from hf _ (memI 0 rfl) (by kernel_rfl))
     subst e0
     show Option.isSome _ = true
     kernel_rfl
    ·intro vs gq stq hl hf
     obtain ⟨v0, rfl⟩ := len_k1 hl
     have e0 := (show v0 = .bool false from hf _ (memI 0 rfl) (by kernel_rfl))
     subst e0
     show Option.isSome _ = true
     kernel_rfl
    ·intro vs gq stq hl hf
     obtain ⟨v0, rfl⟩ := len_k1 hl
     have e0 := (show v0 = .bool false from hf _ (memI 0 rfl) (by kernel_rfl))
     subst e0
     show Option.isSome _ = true
     kernel_rfl
    ·intro vs gq stq hl hf
     obtain ⟨v0, rfl⟩ := len_k1 hl
     have e0 := (show v0 = .bool false from hf _ (memI 0 rfl) (by kernel_rfl))
     subst e0
     show Option.isSome _ = true
     kernel_rfl
    ·intro vs gq stq hl hf
     obtain ⟨v0, rfl⟩ := len_k1 hl
     have e0 := (show v0 = .bool false from hf _ (memI 0 rfl) (by kernel_rfl))
     subst e0
     show Option.isSome _ = true
     kernel_rfl
    ·intro vs gq stq hl hf
     obtain ⟨v0, rfl⟩ := len_k1 hl
     have e0 := (show v0 = .bool false from hf _ (memI 0 rfl) (by kernel_rfl))
     subst e0
     show Option.isSome _ = true
     kernel_rfl
    ·intro vs gq stq hl hf
     obtain ⟨v0, rfl⟩ := len_k1 hl
     have e0 := (show v0 = .bool false from hf _ (memI 0 rfl) (by kernel_rfl))
     subst e0
     show Option.isSome _ = true
     kernel_rfl
    ·intro vs gq stq hl hf
     obtain ⟨v0, rfl⟩ := len_k1 hl
     have e0 := (show v0 = .bool false from hf _ (memI 0 rfl) (by kernel_rfl))
     subst e0
     show Option.isSome _ = true
     kernel_rfl
    ·intro vs gq stq hl hf
     obtain ⟨v0, rfl⟩ := len_k1 hl
     have e0 := (show v0 = .bool false from hf _ (memI 0 rfl) (by kernel_rfl))
     subst e0
     show Option.isSome _ = true
     kernel_rfl
    ·intro vs gq stq hl hf
     obtain ⟨v0, rfl⟩ := len_k1 hl
     have e0 := (show v0 = .bool false from hf _ (memI 0 rfl) (by kernel_rfl))
     subst e0
     show Option.isSome _ = true
     kernel_rfl
   ·intro j hj
    have hq : j = 0 := by have h : j < 1 := hj; omega
    rcases hq with rfl
    ·intro vs gq stq hl hf
     obtain ⟨v0, rfl⟩ := len_k1 hl
     refine WP.stl 1 ?_
     refine WP.dn (Shown.ok (v := .bool q17) (by kernel_rfl) (Step.refl _ _) ?_)
     exact ⟨congrArg Value.bool h28, tv⟩
   intro vs g67 st67 hl hf
   obtain ⟨v0, rfl⟩ := len_k1 hl
   have e0 := (show v0 = .bool false from hf _ (memI 0 rfl) (by kernel_rfl))
   subst e0
   replace hB2 := hB2.mono st67.toNo (fun x => x)
   replace hR3 := hR3.mono st67.toNo (fun x => x)
   replace hR4 := hR4.mono st67.toNo (fun x => x)
   replace hR5 := hR5.mono st67.toNo (fun x => x)
   replace hR1 := hR1.mono st67.toNo (fun x => x)
   replace hB3 := hB3.mono st67.toNo (fun x => x)
   replace hR7 := hR7.mono st67.toNo (fun x => x) (fun x => x)
   replace hB5 := hB5.mono st67.toNo (fun x => x)
   replace hR9 := hR9.mono st67.toNo (fun x => x) (fun x => x)
   replace hB7 := hB7.mono st67.toNo (fun x => x)
   replace hR10 := hR10.mono st67.toNo (fun x => x) (fun x => x)
   replace hB8 := hB8.mono st67.toNo (fun x => x)
   replace hR11 := hR11.mono st67.toNo (fun x => x) (fun x => x)
   replace hR12 := hR12.mono st67.toNo (fun x => x) (fun x => x)
   replace hR17 := hR17.mono st67.toNo (fun x => x) (fun x => x)
   replace tot := tot.trans st67.toNo.pure
   refine NX.block_n ?_
   refine NX.post ?_
   exact ⟨(setI l12 x6 q34), a17, n10, c13, q35, false, ⟨by kernel_rfl, by kernel_rfl⟩, tot, hB2, hR3, hR4, hR5, hR1, hB3, hR7, hB5, hR9, hB7, hR10, hB8, hR11, hR12, hR17, hs⟩
  clear tot hs hB2 hR3 hR4 hR5 hR1 hB3 hR7 hB5 hR9 hB7 hR10 hB8 hR11 hR12 hR17
  rintro tm g ⟨l15, a22, n13, c17, q32, q33, hF, tot, hB2, hR3, hR4, hR5, hR1, hB3, hR7, hB5, hR9, hB7, hR10, hB8, hR11, hR12, hR22, hs⟩
  clear ds
  obtain ⟨ds, rfl⟩ := hF.open
  clear hF
  unfold F.baizelaw35_CloseAgrees.c2 at hs
  refine CP.region ?_
  refine WP.stl 3 ?_
  refine WP.dn ?_
  refine NX.post ?_
  exact ⟨l15, a22, n13, c17, q32, q33, (IntKind.i64.wrap (x6 + 1)), ⟨by kernel_rfl, by kernel_rfl⟩, tot, hB2, hR3, hR4, hR5, hR1, hB3, hR7, hB5, hR9, hB7, hR10, hB8, hR11, hR12, hR22, hs⟩
 replace hs := of_if_f hs h21
 refine CP.exit ?_
 refine NX.then_e ?_
 refine NX.then_e ?_
 refine NX.block_s ?_
 refine NX.then_n ?_
 refine CP.seqR ?_
 refine WP.stl 3 ?_
 replace hs := Option.bind_eq_some_iff.1 hs
 obtain ⟨x12, hk31, hs⟩ := hs
 have hcal31 := P.baizeref35_Adds g x1 (l1.length : Int) l1 a1 n1 c1 hR1 x12 hk31
 refine WP.callC hcal31 (by kernel_rfl) ?_
 rintro _ g68 st68 rfl
 replace hR1 := hR1.mono st68 (fun x => x)
 replace hB3 := hB3.mono st68 (fun x => x)
 replace hR7 := hR7.mono st68 (fun x => x) (fun x => x)
 replace hB7 := hB7.mono st68 (fun x => x)
 replace hR10 := hR10.mono st68 (fun x => x) (fun x => x)
 replace hB8 := hB8.mono st68 (fun x => x)
 replace hR11 := hR11.mono st68 (fun x => x) (fun x => x)
 replace hR12 := hR12.mono st68 (fun x => x) (fun x => x)
 replace hR17 := hR17.mono st68 (fun x => x) (fun x => x)
 replace tot := tot.trans st68.pure
 refine WP.stl 1 ?_
 refine WP.dn ?_
 refine NX.then_n ?_
 refine CP.cut (fun tm g => ∃ (x13 : Int), Fr 140 [(0, .int .i64 x1), (9, .pointer (some ⟨b3, 0, none⟩)), (12, .pointer (some ⟨b5, 0, none⟩)), (13, .slice a11 n7 c9), (14, .slice a12 n8 c10), (15, .slice a17 n10 c13), (19, .int .i64 x13)] tm ∧ Step (fun l => NoM l ∨ t ≤ l) g0 g ∧ Box g (t + 4) b3 49 [encA .u8 (⟨[7, 0, 0, 0, 0, 0, 0, 0], rfl⟩ : Arr Int 8), [.slice a7 (0 + n1) c6]] [8, 1] ∧ OwnS (Kd.int .i64) g (t + 3) 3 a7 (0 + n1) c6 l9 ∧ Box g (t + 7) b5 91 [[.slice a10 n6 c8], [.map (some b6)]] [1, 1] ∧ OwnS k_S_notary_entry g (t + 8) 136 a10 n6 c8 l6 ∧ MapB g (t + 9) b6 kv_S_notary_entry (Value.int .i64) d1 ∧ OwnS (Kd.arrI 8 .u8) g (t + 10) 47 a11 n7 c9 l7 ∧ OwnS (Kd.slice 5 (Kd.int .u8)) g (t + 11) 74 a12 n8 c10 l8 ∧ OwnS Kd.bool g (t + 12) 4 a17 n10 c13 l12 ∧ (F.baizelaw35_CloseAgrees.c4 x1 l6 d1 l7 l8 l9 l12 x13) = some o1) ?_ ?_
 ·refine CP.seqR ?_
  refine WP.stl 2 ?_
  refine WP.dn ?_
  refine NX.then_n ?_
  refine CP.cond (b := (x12 == 0)) (by kernel_rfl) (fun h40 => ?_) (fun h40 => ?_)
  ·replace hs := of_if_t hs h40
   refine CP.block ?_
   refine CP.seqR ?_
   refine WP.stl 2 ?_
   refine WP.dn ?_
   refine NX.then_n ?_
   refine CP.cond (b := q16) (by kernel_rfl) (fun h41 => ?_) (fun h41 => ?_)
   ·replace hs := of_if_t hs h41
    refine CP.region ?_
    refine WP.stl 1 ?_
    refine WP.dn ?_
    refine NX.block_n ?_
    refine NX.post ?_
    exact ⟨28, ⟨by kernel_rfl, by kernel_rfl⟩, tot, hB3, hR7, hB7, hR10, hB8, hR11, hR12, hR17, hs⟩
   replace hs := of_if_f hs h41
   refine CP.seqR ?_
   refine WP.stl 3 ?_
   refine WP.dn ?_
   refine NX.then_n ?_
   refine CP.refr 140 [(0, .int .i64 x1), (9, .pointer (some ⟨b3, 0, none⟩)), (12, .pointer (some ⟨b5, 0, none⟩)), (13, .slice a11 n7 c9), (14, .slice a12 n8 c10), (15, .slice a17 n10 c13), (19, .int .i64 x12), (111, .bool (!q17))] (by kernel_rfl) (by kernel_rfl) ?_
   clear ds
   intro ds
   refine CP.cond (b := (!q17)) (by kernel_rfl) (fun h42 => ?_) (fun h42 => ?_)
   ·replace hs := of_if_t hs h42
    refine CP.region ?_
    refine WP.stl 1 ?_
    refine WP.dn ?_
    refine NX.block_n ?_
    refine NX.post ?_
    exact ⟨16, ⟨by kernel_rfl, by kernel_rfl⟩, tot, hB3, hR7, hB7, hR10, hB8, hR11, hR12, hR17, hs⟩
   replace hs := of_if_f hs h42
   refine CP.skip ?_
   refine NX.block_n ?_
   refine NX.post ?_
   exact ⟨x12, ⟨by kernel_rfl, by kernel_rfl⟩, tot, hB3, hR7, hB7, hR10, hB8, hR11, hR12, hR17, hs⟩
  replace hs := of_if_f hs h40
  refine CP.skip ?_
  refine NX.post ?_
  exact ⟨x12, ⟨by kernel_rfl, by kernel_rfl⟩, tot, hB3, hR7, hB7, hR10, hB8, hR11, hR12, hR17, hs⟩
 clear tot hs hB3 hR7 hB7 hR10 hB8 hR11 hR12 hR17
 rintro tm g ⟨x13, hF, tot, hB3, hR7, hB7, hR10, hB8, hR11, hR12, hR17, hs⟩
 clear ds
 obtain ⟨ds, rfl⟩ := hF.open
 clear hF
 unfold F.baizelaw35_CloseAgrees.c4 at hs
 refine CP.cut (fun tm g => ∃ (q39 : Bool), Fr 140 [(6, .bool q39)] tm ∧ Step (fun l => NoM l ∨ t ≤ l) g0 g ∧ (F.baizelaw35_CloseAgrees.c5 q39) = some o1) ?_ ?_
 ·replace hs := Option.bind_eq_some_iff.1 hs
  obtain ⟨x16, hk35, hs⟩ := hs
  refine bool_split (b := (x16 == x13)) (fun h38 => ?_) (fun h38 => ?_)
  ·replace hs := of_if_t hs h38
   by_cases hc21 : l12.length + ([false]).length ≤ 140737488355328
   case neg => rw [if_neg hc21] at hs; cases hs
   replace hs := of_if_p hs hc21
   replace hs := Option.bind_eq_some_iff.1 hs
   obtain ⟨x17, hk36, hs⟩ := hs
   refine bool_split (b := (x17 != 0)) (fun h39 => ?_) (fun h39 => ?_)
   ·replace hs := of_if_t hs h39
    replace hs := Option.bind_eq_some_iff.1 hs
    obtain ⟨q40, hk37, hs⟩ := hs
    refine CP.drawL (by kernel_rfl) [2, 7, 10, 13, 18, 19, 20, 23, 24] N.baizelaw35_CloseAgrees_1 [⟨none, [], [], fun l g => Box g (t + 4) b3 49 [encA .u8 (⟨[7, 0, 0, 0, 0, 0, 0, 0], rfl⟩ : Arr Int 8), [.slice a7 (0 + n1) c6]] [8, 1]⟩, ⟨none, [1], [], fun l g => OwnS (Kd.int .i64) g (t + 3) 3 a7 (0 + n1) c6 l9⟩, ⟨none, [], [], fun l g => Box g (t + 7) b5 91 [[.slice a10 n6 c8], [.map (some b6)]] [1, 1]⟩, ⟨none, [0], [], fun l g => OwnS k_S_notary_entry g (t + 8) 136 a10 n6 c8 l6⟩, ⟨none, [], [], fun l g => MapB g (t + 9) b6 kv_S_notary_entry (Value.int .i64) d1⟩, ⟨none, [2], [], fun l g => OwnS (Kd.arrI 8 .u8) g (t + 10) 47 a11 n7 c9 l7⟩, ⟨none, [3], [], fun l g => OwnS (Kd.slice 5 (Kd.int .u8)) g (t + 11) 74 a12 n8 c10 l8⟩, ⟨none, [4], [], fun l g => OwnS Kd.bool g (t + 12) 4 a17 n10 c13 l12⟩, ⟨some 0, [], [0], fun l g => l.getD 0 undef = AG [encA .u8 (⟨[7, 0, 0, 0, 0, 0, 0, 0], rfl⟩ : Arr Int 8), [.slice a7 (0 + n1) c6]]⟩, ⟨some 1, [], [1], fun l g => l.getD 0 undef = .int .i64 x16⟩, ⟨some 1, [0], [], fun l g => OwnS k_S_notary_entry g (t + 8) 136 a10 n6 c8 l6⟩, ⟨some 1, [1], [], fun l g => OwnS (Kd.int .i64) g (t + 3) 3 a7 (0 + n1) c6 l9⟩, ⟨some 1, [2], [], fun l g => OwnS (Kd.arrI 8 .u8) g (t + 10) 47 a11 n7 c9 l7⟩, ⟨some 1, [3], [], fun l g => OwnS (Kd.slice 5 (Kd.int .u8)) g (t + 11) 74 a12 n8 c10 l8⟩, ⟨some 1, [4], [], fun l g => OwnS Kd.bool g (t + 12) 4 a17 n10 c13 l12⟩, ⟨some 2, [], [2], fun l g => l.getD 0 undef = .bool true⟩, ⟨some 3, [], [3], fun l g => l.getD 0 undef = AG [encA .u8 (⟨[7, 0, 0, 0, 0, 0, 0, 0], rfl⟩ : Arr Int 8), [.slice a7 (0 + n1) c6]]⟩, ⟨some 4, [], [4], fun l g => ∃ (a25 : Option Addr), l.getD 0 undef = .slice a25 1 1 ∧ OwnS Kd.bool g (t + 16) 4 a25 1 1 ([false])⟩, ⟨some 5, [4], [5], fun l g => ∃ (a26 : Option Addr) (c19 : Nat), l.getD 0 undef = .slice a26 (n10 + 1) c19 ∧ OwnS Kd.bool g (t + 12) 4 a26 (n10 + 1) c19 (l12 ++ [false])⟩, ⟨some 6, [], [6], fun l g => l.getD 0 undef = .int .i64 x17⟩, ⟨some 6, [0], [], fun l g => OwnS k_S_notary_entry g (t + 8) 136 a10 n6 c8 l6⟩, ⟨some 6, [1], [], fun l g => OwnS (Kd.int .i64) g (t + 3) 3 a7 (0 + n1) c6 l9⟩, ⟨some 6, [2], [], fun l g => OwnS (Kd.arrI 8 .u8) g (t + 10) 47 a11 n7 c9 l7⟩, ⟨some 6, [3], [], fun l g => OwnS (Kd.slice 5 (Kd.int .u8)) g (t + 11) 74 a12 n8 c10 l8⟩, ⟨some 6, [4], [5], fun l g => ∃ (a26 : Option Addr) (c19 : Nat), l.getD 0 undef = .slice a26 (n10 + 1) c19 ∧ OwnS Kd.bool g (t + 12) 4 a26 (n10 + 1) c19 (l12 ++ [false])⟩, ⟨some 7, [], [7], fun l g => l.getD 0 undef = .bool true⟩, ⟨some 8, [], [8], fun l g => l.getD 0 undef = .bool q40⟩] [[], [0, 1, 2, 3, 4], [], [], [], [4], [0, 1, 2, 3, 4], [], []] [(t + 8), (t + 3), (t + 10), (t + 11), (t + 12)] [0, 1, 3, 4, 5, 6, 8] [9, 11, 12, 14, 15, 16, 17, 21, 22, 25, 26] (by kernel_rfl) (by simp <;> omega) (by simp <;> omega) ⟨fun _ _ _ _ st h0 hl hj hB3 => (hB3.mono st (fun h => absurd (hl _ h) (by simp <;> omega))), fun _ _ _ _ st h0 hl hj hR7 => (hR7.mono st h0 (hj 1 (by simp) _ rfl)), fun _ _ _ _ st h0 hl hj hB7 => (hB7.mono st (fun h => absurd (hl _ h) (by simp <;> omega))), fun _ _ _ _ st h0 hl hj hR10 => (hR10.mono st h0 (hj 0 (by simp) _ rfl)), fun _ _ _ _ st h0 hl hj hB8 => (hB8.mono st (fun h => absurd (hl _ h) (by simp <;> omega))), fun _ _ _ _ st h0 hl hj hR11 => (hR11.mono st h0 (hj 2 (by simp) _ rfl)), fun _ _ _ _ st h0 hl hj hR12 => (hR12.mono st h0 (hj 3 (by simp) _ rfl)), fun _ _ _ _ st h0 hl hj hR17 => (hR17.mono st h0 (hj 4 (by simp) _ rfl)), fun _ _ _ _ st h0 hl hj e0 => e0, fun _ _ _ _ st h0 hl hj e1 => e1, fun _ _ _ _ st h0 hl hj hR10 => (hR10.mono st h0 (hj 0 (by simp) _ rfl)), fun _ _ _ _ st h0 hl hj hR7 => (hR7.mono st h0 (hj 1 (by simp) _ rfl)), fun _ _ _ _ st h0 hl hj hR11 => (hR11.mono st h0 (hj 2 (by simp) _ rfl)), fun _ _ _ _ st h0 hl hj hR12 => (hR12.mono st h0 (hj 3 (by simp) _ rfl)), fun _ _ _ _ st h0 hl hj hR17 => (hR17.mono st h0 (hj 4 (by simp) _ rfl)), fun _ _ _ _ st h0 hl hj e2 => e2, fun _ _ _ _ st h0 hl hj e3 => e3, fun _ _ _ _ st h0 hl hj ⟨a25, e4, hR25⟩ => ⟨a25, e4, (hR25.mono st h0 (fun h => absurd (hl _ h) (by simp <;> omega)))⟩, fun _ _ _ _ st h0 hl hj ⟨a26, c19, e5, hR26⟩ => ⟨a26, c19, e5, (hR26.mono st h0 (hj 4 (by simp) _ rfl))⟩, fun _ _ _ _ st h0 hl hj e6 => e6, fun _ _ _ _ st h0 hl hj hR10 => (hR10.mono st h0 (hj 0 (by simp) _ rfl)), fun _ _ _ _ st h0 hl hj hR7 => (hR7.mono st h0 (hj 1 (by simp) _ rfl)), fun _ _ _ _ st h0 hl hj hR11 => (hR11.mono st h0 (hj 2 (by simp) _ rfl)), fun _ _ _ _ st h0 hl hj hR12 => (hR12.mono st h0 (hj 3 (by simp) _ rfl)), fun _ _ _ _ st h0 hl hj ⟨a26, c19, e5, hR26⟩ => ⟨a26, c19, e5, (hR26.mono st h0 (hj 4 (by simp) _ rfl))⟩, fun _ _ _ _ st h0 hl hj e7 => e7, fun _ _ _ _ st h0 hl hj e8 => e8, tv⟩ ⟨hB3, hR7, hB7, hR10, hB8, hR11, hR12, hR17, tv, tv, tv, tv, tv, tv, tv, tv, tv, tv, tv, tv, tv, tv, tv, tv, tv, tv, tv, tv⟩ (by kernel_rfl) (fun vs => by kernel_rfl) ?_ ?_ ?_
    ·intro j hj
     have hq : j = 0 ∨ j = 1 ∨ j = 2 ∨ j = 3 ∨ j = 4 ∨ j = 5 ∨ j = 6 ∨ j = 7 ∨ j = 8 ∨ j = 9 ∨ j = 10 := by have h : j < 11 := hj; omega
     rcases hq with rfl | rfl | rfl | rfl | rfl | rfl | rfl | rfl | rfl | rfl | rfl
     ·intro vs gq stq hl hf
      obtain ⟨v0, v1, v2, v3, v4, v5, v6, v7, v8, rfl⟩ := len_k9 hl
      have e1 := (show v1 = .int .i64 x16 from hf _ (memI 9 rfl) (by kernel_rfl))
      subst e1
      show Option.isSome _ = true
      kernel_rfl
     ·intro vs gq stq hl hf
      obtain ⟨v0, v1, v2, v3, v4, v5, v6, v7, v8, rfl⟩ := len_k9 hl
      have e2 := (show v2 = .bool true from hf _ (memI 15 rfl) (by kernel_rfl))
      subst e2
      show Option.isSome _ = true
      kernel_rfl
     ·intro vs gq stq hl hf
      obtain ⟨v0, v1, v2, v3, v4, v5, v6, v7, v8, rfl⟩ := len_k9 hl
      have e2 := (show v2 = .bool true from hf _ (memI 15 rfl) (by kernel_rfl))
      subst e2
      show Option.isSome _ = true
      kernel_rfl
     ·intro vs gq stq hl hf
      obtain ⟨v0, v1, v2, v3, v4, v5, v6, v7, v8, rfl⟩ := len_k9 hl
      have e2 := (show v2 = .bool true from hf _ (memI 15 rfl) (by kernel_rfl))
      subst e2
      show Option.isSome _ = true
      kernel_rfl
     ·intro vs gq stq hl hf
      obtain ⟨v0, v1, v2, v3, v4, v5, v6, v7, v8, rfl⟩ := len_k9 hl
      have e2 := (show v2 = .bool true from hf _ (memI 15 rfl) (by kernel_rfl))
      subst e2
      show Option.isSome _ = true
      kernel_rfl
     ·intro vs gq stq hl hf
      obtain ⟨v0, v1, v2, v3, v4, v5, v6, v7, v8, rfl⟩ := len_k9 hl
      have e2 := (show v2 = .bool true from hf _ (memI 15 rfl) (by kernel_rfl))
      subst e2
      show Option.isSome _ = true
      kernel_rfl
     ·intro vs gq stq hl hf
      obtain ⟨v0, v1, v2, v3, v4, v5, v6, v7, v8, rfl⟩ := len_k9 hl
      have e2 := (show v2 = .bool true from hf _ (memI 15 rfl) (by kernel_rfl))
      subst e2
      show Option.isSome _ = true
      kernel_rfl
     ·intro vs gq stq hl hf
      obtain ⟨v0, v1, v2, v3, v4, v5, v6, v7, v8, rfl⟩ := len_k9 hl
      have e2 := (show v2 = .bool true from hf _ (memI 15 rfl) (by kernel_rfl))
      subst e2
      have e6 := (show v6 = .int .i64 x17 from hf _ (memI 19 rfl) (by kernel_rfl))
      subst e6
      show Option.isSome _ = true
      kernel_rfl
     ·intro vs gq stq hl hf
      obtain ⟨v0, v1, v2, v3, v4, v5, v6, v7, v8, rfl⟩ := len_k9 hl
      have e2 := (show v2 = .bool true from hf _ (memI 15 rfl) (by kernel_rfl))
      subst e2
      have e6 := (show v6 = .int .i64 x17 from hf _ (memI 19 rfl) (by kernel_rfl))
      subst e6
      show Option.isSome _ = true
      kernel_rfl
     ·intro vs gq stq hl hf
      obtain ⟨v0, v1, v2, v3, v4, v5, v6, v7, v8, rfl⟩ := len_k9 hl
      have e7 := (show v7 = .bool true from hf _ (memI 25 rfl) (by kernel_rfl))
      subst e7
      have e8 := (show v8 = .bool q40 from hf _ (memI 26 rfl) (by kernel_rfl))
      subst e8
      show Option.isSome _ = true
      kernel_rfl
     ·intro vs gq stq hl hf
      obtain ⟨v0, v1, v2, v3, v4, v5, v6, v7, v8, rfl⟩ := len_k9 hl
      have e7 := (show v7 = .bool true from hf _ (memI 25 rfl) (by kernel_rfl))
      subst e7
      have e8 := (show v8 = .bool q40 from hf _ (memI 26 rfl) (by kernel_rfl))
      subst e8
      show Option.isSome _ = true
      kernel_rfl
    ·intro j hj
     have hq : j = 0 ∨ j = 1 ∨ j = 2 ∨ j = 3 ∨ j = 4 ∨ j = 5 ∨ j = 6 ∨ j = 7 ∨ j = 8 := by have h : j < 9 := hj; omega
     rcases hq with rfl | rfl | rfl | rfl | rfl | rfl | rfl | rfl | rfl
     ·intro vs gq stq hl hf
      obtain ⟨v0, v1, v2, v3, v4, v5, v6, v7, v8, rfl⟩ := len_k9 hl
      have hB3 := (show Box gq (t + 4) b3 49 [encA .u8 (⟨[7, 0, 0, 0, 0, 0, 0, 0], rfl⟩ : Arr Int 8), [.slice a7 (0 + n1) c6]] [8, 1] from hf _ (memI 0 rfl) (by kernel_rfl))
      refine WP.loadB (v := AG [encA .u8 (⟨[7, 0, 0, 0, 0, 0, 0, 0], rfl⟩ : Arr Int 8), [.slice a7 (0 + n1) c6]]) hB3 (by kernel_rfl) (by kernel_rfl) ?_
      refine WP.dn (Shown.ok (v := AG [encA .u8 (⟨[7, 0, 0, 0, 0, 0, 0, 0], rfl⟩ : Arr Int 8), [.slice a7 (0 + n1) c6]]) (by kernel_rfl) (Step.refl _ _) ?_)
      exact ⟨tv, tv, tv, tv, tv, tv, tv, tv, rfl, tv, tv, tv, tv, tv, tv, tv, tv, tv, tv, tv, tv, tv, tv, tv, tv, tv, tv, tv⟩
     ·intro vs gq stq hl hf
      obtain ⟨v0, v1, v2, v3, v4, v5, v6, v7, v8, rfl⟩ := len_k9 hl
      have hR7 := (show OwnS (Kd.int .i64) gq (t + 3) 3 a7 (0 + n1) c6 l9 from hf _ (memI 1 rfl) (by kernel_rfl))
      have hB7 := (show Box gq (t + 7) b5 91 [[.slice a10 n6 c8], [.map (some b6)]] [1, 1] from hf _ (memI 2 rfl) (by kernel_rfl))
      have hR10 := (show OwnS k_S_notary_entry gq (t + 8) 136 a10 n6 c8 l6 from hf _ (memI 3 rfl) (by kernel_rfl))
      have hB8 := (show MapB gq (t + 9) b6 kv_S_notary_entry (Value.int .i64) d1 from hf _ (memI 4 rfl) (by kernel_rfl))
      have hR11 := (show OwnS (Kd.arrI 8 .u8) gq (t + 10) 47 a11 n7 c9 l7 from hf _ (memI 5 rfl) (by kernel_rfl))
      have hR12 := (show OwnS (Kd.slice 5 (Kd.int .u8)) gq (t + 11) 74 a12 n8 c10 l8 from hf _ (memI 6 rfl) (by kernel_rfl))
      have hR17 := (show OwnS Kd.bool gq (t + 12) 4 a17 n10 c13 l12 from hf _ (memI 7 rfl) (by kernel_rfl))
      have e0 := (show v0 = AG [encA .u8 (⟨[7, 0, 0, 0, 0, 0, 0, 0], rfl⟩ : Arr Int 8), [.slice a7 (0 + n1) c6]] from hf _ (memI 8 rfl) (by kernel_rfl))
      subst e0
      have hS15 : 0 ∉ ([(t + 8), (t + 3), (t + 10), (t + 11), (t + 12)] : List Nat) := by simp <;> omega
      have stl15 := GW.lend_step gq [(t + 8), (t + 3), (t + 10), (t + 11), (t + 12)]
      have hRl39 := hR10.lendTo hS15 (by simp)
      have hRl40 := hR7.lendTo hS15 (by simp)
      have hRl41 := hR11.lendTo hS15 (by simp)
      have hRl42 := hR12.lendTo hS15 (by simp)
      have hRl43 := hR17.lendTo hS15 (by simp)
      refine WP.regw (g' := GW.lend gq [(t + 8), (t + 3), (t + 10), (t + 11), (t + 12)]) rfl ?_
      have hcal35 := P.close_Agree (GW.lend gq [(t + 8), (t + 3), (t + 10), (t + 11), (t + 12)]) (t + 7) (t + 9) l6 d1 (⟨[7, 0, 0, 0, 0, 0, 0, 0], rfl⟩ : Arr Int 8) l9 x1 l7 l8 l12 a10 n6 c8 a7 (0 + n1) c6 a11 n7 c9 a12 n8 c10 a17 n10 c13 b5 b6 hRl39 hRl40 hRl41 hRl42 hRl43 (hB8.mono stl15 (WL.no (by simp <;> omega))) (hB7.mono stl15 (WL.no (by simp <;> omega))) (by omega) (by omega) (by omega) x16 hk35
      refine WP.callC hcal35 (by kernel_rfl) ?_
      rintro _ g76 st76 rfl
      have st77 := (GW.back_step st76).lentS
      have hO45 := hR10.backTo hS15 (by simp) st76 (fun x => x)
      have hO46 := hR7.backTo hS15 (by simp) st76 (fun x => x)
      have hO47 := hR11.backTo hS15 (by simp) st76 (fun x => x)
      have hO48 := hR12.backTo hS15 (by simp) st76 (fun x => x)
      have hO49 := hR17.backTo hS15 (by simp) st76 (fun x => x)
      refine WP.regw (g' := GW.back gq g76 [(t + 8), (t + 3), (t + 10), (t + 11), (t + 12)]) rfl ?_
      generalize GW.back gq g76 [(t + 8), (t + 3), (t + 10), (t + 11), (t + 12)] = g77 at *
      refine WP.dn (Shown.o (v := .int .i64 x16) st77 ?_)
      exact ⟨tv, tv, tv, tv, tv, tv, tv, tv, tv, rfl, hO45, hO46, hO47, hO48, hO49, tv, tv, tv, tv, tv, tv, tv, tv, tv, tv, tv, tv, tv⟩
     ·intro vs gq stq hl hf
      obtain ⟨v0, v1, v2, v3, v4, v5, v6, v7, v8, rfl⟩ := len_k9 hl
      have e1 := (show v1 = .int .i64 x16 from hf _ (memI 9 rfl) (by kernel_rfl))
      subst e1
      refine WP.stl 1 ?_
      refine WP.dn (Shown.ok (v := .bool (x16 == x13)) (by kernel_rfl) (Step.refl _ _) ?_)
      exact ⟨tv, tv, tv, tv, tv, tv, tv, tv, tv, tv, tv, tv, tv, tv, tv, congrArg Value.bool h38, tv, tv, tv, tv, tv, tv, tv, tv, tv, tv, tv, tv⟩
     ·intro vs gq stq hl hf
      obtain ⟨v0, v1, v2, v3, v4, v5, v6, v7, v8, rfl⟩ := len_k9 hl
      have hB3 := (show Box gq (t + 4) b3 49 [encA .u8 (⟨[7, 0, 0, 0, 0, 0, 0, 0], rfl⟩ : Arr Int 8), [.slice a7 (0 + n1) c6]] [8, 1] from hf _ (memI 0 rfl) (by kernel_rfl))
      have e2 := (show v2 = .bool true from hf _ (memI 15 rfl) (by kernel_rfl))
      subst e2
      refine WP.loadB (v := AG [encA .u8 (⟨[7, 0, 0, 0, 0, 0, 0, 0], rfl⟩ : Arr Int 8), [.slice a7 (0 + n1) c6]]) hB3 (by kernel_rfl) (by kernel_rfl) ?_
      refine WP.dn (Shown.ok (v := AG [encA .u8 (⟨[7, 0, 0, 0, 0, 0, 0, 0], rfl⟩ : Arr Int 8), [.slice a7 (0 + n1) c6]]) (by kernel_rfl) (Step.refl _ _) ?_)
      exact ⟨tv, tv, tv, tv, tv, tv, tv, tv, tv, tv, tv, tv, tv, tv, tv, tv, rfl, tv, tv, tv, tv, tv, tv, tv, tv, tv, tv, tv⟩
     ·intro vs gq stq hl hf
      obtain ⟨v0, v1, v2, v3, v4, v5, v6, v7, v8, rfl⟩ := len_k9 hl
      have e2 := (show v2 = .bool true from hf _ (memI 15 rfl) (by kernel_rfl))
      subst e2
      refine WP.mkSl (kd := Kd.bool) (t := 28) (e := 4) (bytes := 1) (t + 16) [.bool false] [false] (by kernel_rfl) (by kernel_rfl) (Nat.le_of_ble_eq_true rfl) (Nat.le_of_ble_eq_true rfl) (all_cons rfl all_nil) (⟨_, _, rfl, (by exact rfl), rfl⟩) rfl ?_
      intro g78 a25 st78 hR25
      refine WP.dn (Shown.o (v := .slice a25 1 1) st78.pure ?_)
      exact ⟨tv, tv, tv, tv, tv, tv, tv, tv, tv, tv, tv, tv, tv, tv, tv, tv, tv, ⟨a25, rfl, hR25⟩, tv, tv, tv, tv, tv, tv, tv, tv, tv, tv⟩
     ·intro vs gq stq hl hf
      obtain ⟨v0, v1, v2, v3, v4, v5, v6, v7, v8, rfl⟩ := len_k9 hl
      have hR17 := (show OwnS Kd.bool gq (t + 12) 4 a17 n10 c13 l12 from hf _ (memI 14 rfl) (by kernel_rfl))
      have e2 := (show v2 = .bool true from hf _ (memI 15 rfl) (by kernel_rfl))
      subst e2
      obtain ⟨a25, e4, hR25⟩ := (show ∃ (a25 : Option Addr), v4 = .slice a25 1 1 ∧ OwnS Kd.bool gq (t + 16) 4 a25 1 1 ([false]) from hf _ (memI 17 rfl) (by kernel_rfl))
      subst e4
      refine WP.append (kd := Kd.bool) (t := 28) (e := 4) (bytes := 1) (a2 := a25) (c2 := 1) hR17 hR25.src hR25.len (by kernel_rfl) (by kernel_rfl) (by omega) (by simp only [maxLen]; omega) (by omega) ?_
      intro g79 a26 c19 st79 hR26
      refine WP.dn (Shown.o (v := .slice a26 (n10 + 1) c19) st79 ?_)
      exact ⟨tv, tv, tv, tv, tv, tv, tv, tv, tv, tv, tv, tv, tv, tv, tv, tv, tv, tv, ⟨a26, c19, rfl, hR26⟩, tv, tv, tv, tv, tv, tv, tv, tv, tv⟩
     ·intro vs gq stq hl hf
      obtain ⟨v0, v1, v2, v3, v4, v5, v6, v7, v8, rfl⟩ := len_k9 hl
      have hB7 := (show Box gq (t + 7) b5 91 [[.slice a10 n6 c8], [.map (some b6)]] [1, 1] from hf _ (memI 2 rfl) (by kernel_rfl))
      have hB8 := (show MapB gq (t + 9) b6 kv_S_notary_entry (Value.int .i64) d1 from hf _ (memI 4 rfl) (by kernel_rfl))
      have hR10 := (show OwnS k_S_notary_entry gq (t + 8) 136 a10 n6 c8 l6 from hf _ (memI 10 rfl) (by kernel_rfl))
      have hR7 := (show OwnS (Kd.int .i64) gq (t + 3) 3 a7 (0 + n1) c6 l9 from hf _ (memI 11 rfl) (by kernel_rfl))
      have hR11 := (show OwnS (Kd.arrI 8 .u8) gq (t + 10) 47 a11 n7 c9 l7 from hf _ (memI 12 rfl) (by kernel_rfl))
      have hR12 := (show OwnS (Kd.slice 5 (Kd.int .u8)) gq (t + 11) 74 a12 n8 c10 l8 from hf _ (memI 13 rfl) (by kernel_rfl))
      have e2 := (show v2 = .bool true from hf _ (memI 15 rfl) (by kernel_rfl))
      subst e2
      have e3 := (show v3 = AG [encA .u8 (⟨[7, 0, 0, 0, 0, 0, 0, 0], rfl⟩ : Arr Int 8), [.slice a7 (0 + n1) c6]] from hf _ (memI 16 rfl) (by kernel_rfl))
      subst e3
      obtain ⟨a26, c19, e5, hR26⟩ := (show ∃ (a26 : Option Addr) (c19 : Nat), v5 = .slice a26 (n10 + 1) c19 ∧ OwnS Kd.bool gq (t + 12) 4 a26 (n10 + 1) c19 (l12 ++ [false]) from hf _ (memI 18 rfl) (by kernel_rfl))
      subst e5
      have hS16 : 0 ∉ ([(t + 8), (t + 3), (t + 10), (t + 11), (t + 12)] : List Nat) := by simp <;> omega
      have stl16 := GW.lend_step gq [(t + 8), (t + 3), (t + 10), (t + 11), (t + 12)]
      have hRl44 := hR10.lendTo hS16 (by simp)
      have hRl45 := hR7.lendTo hS16 (by simp)
      have hRl46 := hR11.lendTo hS16 (by simp)
      have hRl47 := hR12.lendTo hS16 (by simp)
      have hRl48 := hR26.lendTo hS16 (by simp)
      refine WP.regw (g' := GW.lend gq [(t + 8), (t + 3), (t + 10), (t + 11), (t + 12)]) rfl ?_
      have hcal36 := P.close_Agree (GW.lend gq [(t + 8), (t + 3), (t + 10), (t + 11), (t + 12)]) (t + 7) (t + 9) l6 d1 (⟨[7, 0, 0, 0, 0, 0, 0, 0], rfl⟩ : Arr Int 8) l9 x1 l7 l8 (l12 ++ [false]) a10 n6 c8 a7 (0 + n1) c6 a11 n7 c9 a12 n8 c10 a26 (n10 + 1) c19 b5 b6 hRl44 hRl45 hRl46 hRl47 hRl48 (hB8.mono stl16 (WL.no (by simp <;> omega))) (hB7.mono stl16 (WL.no (by simp <;> omega))) (by omega) (by omega) (by omega) x17 hk36
      refine WP.callC hcal36 (by kernel_rfl) ?_
      rintro _ g80 st80 rfl
      have st81 := (GW.back_step st80).lentS
      have hO50 := hR10.backTo hS16 (by simp) st80 (fun x => x)
      have hO51 := hR7.backTo hS16 (by simp) st80 (fun x => x)
      have hO52 := hR11.backTo hS16 (by simp) st80 (fun x => x)
      have hO53 := hR12.backTo hS16 (by simp) st80 (fun x => x)
      have hO54 := hR26.backTo hS16 (by simp) st80 (fun x => x)
      refine WP.regw (g' := GW.back gq g80 [(t + 8), (t + 3), (t + 10), (t + 11), (t + 12)]) rfl ?_
      generalize GW.back gq g80 [(t + 8), (t + 3), (t + 10), (t + 11), (t + 12)] = g81 at *
      refine WP.dn (Shown.o (v := .int .i64 x17) st81 ?_)
      exact ⟨tv, tv, tv, tv, tv, tv, tv, tv, tv, tv, tv, tv, tv, tv, tv, tv, tv, tv, tv, rfl, hO50, hO51, hO52, hO53, ⟨a26, c19, rfl, hO54⟩, tv, tv, tv⟩
     ·intro vs gq stq hl hf
      obtain ⟨v0, v1, v2, v3, v4, v5, v6, v7, v8, rfl⟩ := len_k9 hl
      have e2 := (show v2 = .bool true from hf _ (memI 15 rfl) (by kernel_rfl))
      subst e2
      have e6 := (show v6 = .int .i64 x17 from hf _ (memI 19 rfl) (by kernel_rfl))
      subst e6
      refine WP.stl 1 ?_
      refine WP.dn (Shown.ok (v := .bool (x17 != 0)) (by kernel_rfl) (Step.refl _ _) ?_)
      exact ⟨tv, tv, tv, tv, tv, tv, tv, tv, tv, tv, tv, tv, tv, tv, tv, tv, tv, tv, tv, tv, tv, tv, tv, tv, tv, congrArg Value.bool h39, tv, tv⟩
     ·intro vs gq stq hl hf
      obtain ⟨v0, v1, v2, v3, v4, v5, v6, v7, v8, rfl⟩ := len_k9 hl
      have e7 := (show v7 = .bool true from hf _ (memI 25 rfl) (by kernel_rfl))
      subst e7
      have hcal37 := P.baizelaw35_told gq q40 hk37
      refine WP.callC hcal37 (by kernel_rfl) ?_
      rintro _ g82 st82 rfl
      refine WP.dn (Shown.o (v := .bool q40) st82.pure ?_)
      exact ⟨tv, tv, tv, tv, tv, tv, tv, tv, tv, tv, tv, tv, tv, tv, tv, tv, tv, tv, tv, tv, tv, tv, tv, tv, tv, tv, rfl, tv⟩
    intro vs g83 st83 hl hf
    obtain ⟨v0, v1, v2, v3, v4, v5, v6, v7, v8, rfl⟩ := len_k9 hl
    have e7 := (show v7 = .bool true from hf _ (memI 25 rfl) (by kernel_rfl))
    subst e7
    have e8 := (show v8 = .bool q40 from hf _ (memI 26 rfl) (by kernel_rfl))
    subst e8
    replace tot := tot.trans (st83.up (by intro l hl; simp at hl; rcases hl with rfl | rfl | rfl | rfl | rfl <;> first | exact .inr (by omega) | exact .inl (by simp [WL])))
    refine NX.post ?_
    exact ⟨q40, ⟨by kernel_rfl, by kernel_rfl⟩, tot, hs⟩
   replace hs := of_if_f hs h39
   refine CP.drawL (by kernel_rfl) [2, 7, 10, 13, 18, 19, 20, 23] N.baizelaw35_CloseAgrees_1 [⟨none, [], [], fun l g => Box g (t + 4) b3 49 [encA .u8 (⟨[7, 0, 0, 0, 0, 0, 0, 0], rfl⟩ : Arr Int 8), [.slice a7 (0 + n1) c6]] [8, 1]⟩, ⟨none, [1], [], fun l g => OwnS (Kd.int .i64) g (t + 3) 3 a7 (0 + n1) c6 l9⟩, ⟨none, [], [], fun l g => Box g (t + 7) b5 91 [[.slice a10 n6 c8], [.map (some b6)]] [1, 1]⟩, ⟨none, [0], [], fun l g => OwnS k_S_notary_entry g (t + 8) 136 a10 n6 c8 l6⟩, ⟨none, [], [], fun l g => MapB g (t + 9) b6 kv_S_notary_entry (Value.int .i64) d1⟩, ⟨none, [2], [], fun l g => OwnS (Kd.arrI 8 .u8) g (t + 10) 47 a11 n7 c9 l7⟩, ⟨none, [3], [], fun l g => OwnS (Kd.slice 5 (Kd.int .u8)) g (t + 11) 74 a12 n8 c10 l8⟩, ⟨none, [4], [], fun l g => OwnS Kd.bool g (t + 12) 4 a17 n10 c13 l12⟩, ⟨some 0, [], [0], fun l g => l.getD 0 undef = AG [encA .u8 (⟨[7, 0, 0, 0, 0, 0, 0, 0], rfl⟩ : Arr Int 8), [.slice a7 (0 + n1) c6]]⟩, ⟨some 1, [], [1], fun l g => l.getD 0 undef = .int .i64 x16⟩, ⟨some 1, [0], [], fun l g => OwnS k_S_notary_entry g (t + 8) 136 a10 n6 c8 l6⟩, ⟨some 1, [1], [], fun l g => OwnS (Kd.int .i64) g (t + 3) 3 a7 (0 + n1) c6 l9⟩, ⟨some 1, [2], [], fun l g => OwnS (Kd.arrI 8 .u8) g (t + 10) 47 a11 n7 c9 l7⟩, ⟨some 1, [3], [], fun l g => OwnS (Kd.slice 5 (Kd.int .u8)) g (t + 11) 74 a12 n8 c10 l8⟩, ⟨some 1, [4], [], fun l g => OwnS Kd.bool g (t + 12) 4 a17 n10 c13 l12⟩, ⟨some 2, [], [2], fun l g => l.getD 0 undef = .bool true⟩, ⟨some 3, [], [3], fun l g => l.getD 0 undef = AG [encA .u8 (⟨[7, 0, 0, 0, 0, 0, 0, 0], rfl⟩ : Arr Int 8), [.slice a7 (0 + n1) c6]]⟩, ⟨some 4, [], [4], fun l g => ∃ (a25 : Option Addr), l.getD 0 undef = .slice a25 1 1 ∧ OwnS Kd.bool g (t + 16) 4 a25 1 1 ([false])⟩, ⟨some 5, [4], [5], fun l g => ∃ (a26 : Option Addr) (c19 : Nat), l.getD 0 undef = .slice a26 (n10 + 1) c19 ∧ OwnS Kd.bool g (t + 12) 4 a26 (n10 + 1) c19 (l12 ++ [false])⟩, ⟨some 6, [], [6], fun l g => l.getD 0 undef = .int .i64 x17⟩, ⟨some 6, [0], [], fun l g => OwnS k_S_notary_entry g (t + 8) 136 a10 n6 c8 l6⟩, ⟨some 6, [1], [], fun l g => OwnS (Kd.int .i64) g (t + 3) 3 a7 (0 + n1) c6 l9⟩, ⟨some 6, [2], [], fun l g => OwnS (Kd.arrI 8 .u8) g (t + 10) 47 a11 n7 c9 l7⟩, ⟨some 6, [3], [], fun l g => OwnS (Kd.slice 5 (Kd.int .u8)) g (t + 11) 74 a12 n8 c10 l8⟩, ⟨some 6, [4], [5], fun l g => ∃ (a26 : Option Addr) (c19 : Nat), l.getD 0 undef = .slice a26 (n10 + 1) c19 ∧ OwnS Kd.bool g (t + 12) 4 a26 (n10 + 1) c19 (l12 ++ [false])⟩, ⟨some 7, [], [7], fun l g => l.getD 0 undef = .bool false⟩] [[], [0, 1, 2, 3, 4], [], [], [], [4], [0, 1, 2, 3, 4], []] [(t + 8), (t + 3), (t + 10), (t + 11), (t + 12)] [0, 1, 3, 4, 5, 6, 8] [9, 11, 12, 14, 15, 16, 17, 21, 22, 24, 25, 26] (by kernel_rfl) (by simp <;> omega) (by simp <;> omega) ⟨fun _ _ _ _ st h0 hl hj hB3 => (hB3.mono st (fun h => absurd (hl _ h) (by simp <;> omega))), fun _ _ _ _ st h0 hl hj hR7 => (hR7.mono st h0 (hj 1 (by simp) _ rfl)), fun _ _ _ _ st h0 hl hj hB7 => (hB7.mono st (fun h => absurd (hl _ h) (by simp <;> omega))), fun _ _ _ _ st h0 hl hj hR10 => (hR10.mono st h0 (hj 0 (by simp) _ rfl)), fun _ _ _ _ st h0 hl hj hB8 => (hB8.mono st (fun h => absurd (hl _ h) (by simp <;> omega))), fun _ _ _ _ st h0 hl hj hR11 => (hR11.mono st h0 (hj 2 (by simp) _ rfl)), fun _ _ _ _ st h0 hl hj hR12 => (hR12.mono st h0 (hj 3 (by simp) _ rfl)), fun _ _ _ _ st h0 hl hj hR17 => (hR17.mono st h0 (hj 4 (by simp) _ rfl)), fun _ _ _ _ st h0 hl hj e0 => e0, fun _ _ _ _ st h0 hl hj e1 => e1, fun _ _ _ _ st h0 hl hj hR10 => (hR10.mono st h0 (hj 0 (by simp) _ rfl)), fun _ _ _ _ st h0 hl hj hR7 => (hR7.mono st h0 (hj 1 (by simp) _ rfl)), fun _ _ _ _ st h0 hl hj hR11 => (hR11.mono st h0 (hj 2 (by simp) _ rfl)), fun _ _ _ _ st h0 hl hj hR12 => (hR12.mono st h0 (hj 3 (by simp) _ rfl)), fun _ _ _ _ st h0 hl hj hR17 => (hR17.mono st h0 (hj 4 (by simp) _ rfl)), fun _ _ _ _ st h0 hl hj e2 => e2, fun _ _ _ _ st h0 hl hj e3 => e3, fun _ _ _ _ st h0 hl hj ⟨a25, e4, hR25⟩ => ⟨a25, e4, (hR25.mono st h0 (fun h => absurd (hl _ h) (by simp <;> omega)))⟩, fun _ _ _ _ st h0 hl hj ⟨a26, c19, e5, hR26⟩ => ⟨a26, c19, e5, (hR26.mono st h0 (hj 4 (by simp) _ rfl))⟩, fun _ _ _ _ st h0 hl hj e6 => e6, fun _ _ _ _ st h0 hl hj hR10 => (hR10.mono st h0 (hj 0 (by simp) _ rfl)), fun _ _ _ _ st h0 hl hj hR7 => (hR7.mono st h0 (hj 1 (by simp) _ rfl)), fun _ _ _ _ st h0 hl hj hR11 => (hR11.mono st h0 (hj 2 (by simp) _ rfl)), fun _ _ _ _ st h0 hl hj hR12 => (hR12.mono st h0 (hj 3 (by simp) _ rfl)), fun _ _ _ _ st h0 hl hj ⟨a26, c19, e5, hR26⟩ => ⟨a26, c19, e5, (hR26.mono st h0 (hj 4 (by simp) _ rfl))⟩, fun _ _ _ _ st h0 hl hj e7 => e7, tv⟩ ⟨hB3, hR7, hB7, hR10, hB8, hR11, hR12, hR17, tv, tv, tv, tv, tv, tv, tv, tv, tv, tv, tv, tv, tv, tv, tv, tv, tv, tv, tv⟩ (by kernel_rfl) (fun vs => by kernel_rfl) ?_ ?_ ?_
   ·intro j hj
    have hq : j = 0 ∨ j = 1 ∨ j = 2 ∨ j = 3 ∨ j = 4 ∨ j = 5 ∨ j = 6 ∨ j = 7 ∨ j = 8 ∨ j = 9 ∨ j = 10 ∨ j = 11 := by have h : j < 12 := hj; omega
    rcases hq with rfl | rfl | rfl | rfl | rfl | rfl | rfl | rfl | rfl | rfl | rfl | rfl
    ·intro vs gq stq hl hf
     obtain ⟨v0, v1, v2, v3, v4, v5, v6, v7, rfl⟩ := len_k8 hl
     have e1 := (show v1 = .int .i64 x16 from hf _ (memI 9 rfl) (by kernel_rfl))
     subst e1
     show Option.isSome _ = true
     kernel_rfl
    ·intro vs gq stq hl hf
     obtain ⟨v0, v1, v2, v3, v4, v5, v6, v7, rfl⟩ := len_k8 hl
     have e2 := (show v2 = .bool true from hf _ (memI 15 rfl) (by kernel_rfl))
     subst e2
     show Option.isSome _ = true
     kernel_rfl
    ·intro vs gq stq hl hf
     obtain ⟨v0, v1, v2, v3, v4, v5, v6, v7, rfl⟩ := len_k8 hl
     have e2 := (show v2 = .bool true from hf _ (memI 15 rfl) (by kernel_rfl))
     subst e2
     show Option.isSome _ = true
     kernel_rfl
    ·intro vs gq stq hl hf
     obtain ⟨v0, v1, v2, v3, v4, v5, v6, v7, rfl⟩ := len_k8 hl
     have e2 := (show v2 = .bool true from hf _ (memI 15 rfl) (by kernel_rfl))
     subst e2
     show Option.isSome _ = true
     kernel_rfl
    ·intro vs gq stq hl hf
     obtain ⟨v0, v1, v2, v3, v4, v5, v6, v7, rfl⟩ := len_k8 hl
     have e2 := (show v2 = .bool true from hf _ (memI 15 rfl) (by kernel_rfl))
     subst e2
     show Option.isSome _ = true
     kernel_rfl
    ·intro vs gq stq hl hf
     obtain ⟨v0, v1, v2, v3, v4, v5, v6, v7, rfl⟩ := len_k8 hl
     have e2 := (show v2 = .bool true from hf _ (memI 15 rfl) (by kernel_rfl))
     subst e2
     show Option.isSome _ = true
     kernel_rfl
    ·intro vs gq stq hl hf
     obtain ⟨v0, v1, v2, v3, v4, v5, v6, v7, rfl⟩ := len_k8 hl
     have e2 := (show v2 = .bool true from hf _ (memI 15 rfl) (by kernel_rfl))
     subst e2
     show Option.isSome _ = true
     kernel_rfl
    ·intro vs gq stq hl hf
     obtain ⟨v0, v1, v2, v3, v4, v5, v6, v7, rfl⟩ := len_k8 hl
     have e2 := (show v2 = .bool true from hf _ (memI 15 rfl) (by kernel_rfl))
     subst e2
     have e6 := (show v6 = .int .i64 x17 from hf _ (memI 19 rfl) (by kernel_rfl))
     subst e6
     show Option.isSome _ = true
     kernel_rfl
    ·intro vs gq stq hl hf
     obtain ⟨v0, v1, v2, v3, v4, v5, v6, v7, rfl⟩ := len_k8 hl
     have e2 := (show v2 = .bool true from hf _ (memI 15 rfl) (by kernel_rfl))
     subst e2
     have e6 := (show v6 = .int .i64 x17 from hf _ (memI 19 rfl) (by kernel_rfl))
     subst e6
     show Option.isSome _ = true
     kernel_rfl
    ·intro vs gq stq hl hf
     obtain ⟨v0, v1, v2, v3, v4, v5, v6, v7, rfl⟩ := len_k8 hl
     have e7 := (show v7 = .bool false from hf _ (memI 25 rfl) (by kernel_rfl))
     subst e7
     show Option.isSome _ = true
     kernel_rfl
    ·intro vs gq stq hl hf
     obtain ⟨v0, v1, v2, v3, v4, v5, v6, v7, rfl⟩ := len_k8 hl
     have e7 := (show v7 = .bool false from hf _ (memI 25 rfl) (by kernel_rfl))
     subst e7
     show Option.isSome _ = true
     kernel_rfl
    ·intro vs gq stq hl hf
     obtain ⟨v0, v1, v2, v3, v4, v5, v6, v7, rfl⟩ := len_k8 hl
     have e7 := (show v7 = .bool false from hf _ (memI 25 rfl) (by kernel_rfl))
     subst e7
     show Option.isSome _ = true
     kernel_rfl
   ·intro j hj
    have hq : j = 0 ∨ j = 1 ∨ j = 2 ∨ j = 3 ∨ j = 4 ∨ j = 5 ∨ j = 6 ∨ j = 7 := by have h : j < 8 := hj; omega
    rcases hq with rfl | rfl | rfl | rfl | rfl | rfl | rfl | rfl
    ·intro vs gq stq hl hf
     obtain ⟨v0, v1, v2, v3, v4, v5, v6, v7, rfl⟩ := len_k8 hl
     have hB3 := (show Box gq (t + 4) b3 49 [encA .u8 (⟨[7, 0, 0, 0, 0, 0, 0, 0], rfl⟩ : Arr Int 8), [.slice a7 (0 + n1) c6]] [8, 1] from hf _ (memI 0 rfl) (by kernel_rfl))
     refine WP.loadB (v := AG [encA .u8 (⟨[7, 0, 0, 0, 0, 0, 0, 0], rfl⟩ : Arr Int 8), [.slice a7 (0 + n1) c6]]) hB3 (by kernel_rfl) (by kernel_rfl) ?_
     refine WP.dn (Shown.ok (v := AG [encA .u8 (⟨[7, 0, 0, 0, 0, 0, 0, 0], rfl⟩ : Arr Int 8), [.slice a7 (0 + n1) c6]]) (by kernel_rfl) (Step.refl _ _) ?_)
     exact ⟨tv, tv, tv, tv, tv, tv, tv, tv, rfl, tv, tv, tv, tv, tv, tv, tv, tv, tv, tv, tv, tv, tv, tv, tv, tv, tv, tv⟩
    ·intro vs gq stq hl hf
     obtain ⟨v0, v1, v2, v3, v4, v5, v6, v7, rfl⟩ := len_k8 hl
     have hR7 := (show OwnS (Kd.int .i64) gq (t + 3) 3 a7 (0 + n1) c6 l9 from hf _ (memI 1 rfl) (by kernel_rfl))
     have hB7 := (show Box gq (t + 7) b5 91 [[.slice a10 n6 c8], [.map (some b6)]] [1, 1] from hf _ (memI 2 rfl) (by kernel_rfl))
     have hR10 := (show OwnS k_S_notary_entry gq (t + 8) 136 a10 n6 c8 l6 from hf _ (memI 3 rfl) (by kernel_rfl))
     have hB8 := (show MapB gq (t + 9) b6 kv_S_notary_entry (Value.int .i64) d1 from hf _ (memI 4 rfl) (by kernel_rfl))
     have hR11 := (show OwnS (Kd.arrI 8 .u8) gq (t + 10) 47 a11 n7 c9 l7 from hf _ (memI 5 rfl) (by kernel_rfl))
     have hR12 := (show OwnS (Kd.slice 5 (Kd.int .u8)) gq (t + 11) 74 a12 n8 c10 l8 from hf _ (memI 6 rfl) (by kernel_rfl))
     have hR17 := (show OwnS Kd.bool gq (t + 12) 4 a17 n10 c13 l12 from hf _ (memI 7 rfl) (by kernel_rfl))
     have e0 := (show v0 = AG [encA .u8 (⟨[7, 0, 0, 0, 0, 0, 0, 0], rfl⟩ : Arr Int 8), [.slice a7 (0 + n1) c6]] from hf _ (memI 8 rfl) (by kernel_rfl))
     subst e0
     have hS15 : 0 ∉ ([(t + 8), (t + 3), (t + 10), (t + 11), (t + 12)] : List Nat) := by simp <;> omega
     have stl15 := GW.lend_step gq [(t + 8), (t + 3), (t + 10), (t + 11), (t + 12)]
     have hRl39 := hR10.lendTo hS15 (by simp)
     have hRl40 := hR7.lendTo hS15 (by simp)
     have hRl41 := hR11.lendTo hS15 (by simp)
     have hRl42 := hR12.lendTo hS15 (by simp)
     have hRl43 := hR17.lendTo hS15 (by simp)
     refine WP.regw (g' := GW.lend gq [(t + 8), (t + 3), (t + 10), (t + 11), (t + 12)]) rfl ?_
     have hcal35 := P.close_Agree (GW.lend gq [(t + 8), (t + 3), (t + 10), (t + 11), (t + 12)]) (t + 7) (t + 9) l6 d1 (⟨[7, 0, 0, 0, 0, 0, 0, 0], rfl⟩ : Arr Int 8) l9 x1 l7 l8 l12 a10 n6 c8 a7 (0 + n1) c6 a11 n7 c9 a12 n8 c10 a17 n10 c13 b5 b6 hRl39 hRl40 hRl41 hRl42 hRl43 (hB8.mono stl15 (WL.no (by simp <;> omega))) (hB7.mono stl15 (WL.no (by simp <;> omega))) (by omega) (by omega) (by omega) x16 hk35
     refine WP.callC hcal35 (by kernel_rfl) ?_
     rintro _ g76 st76 rfl
     have st77 := (GW.back_step st76).lentS
     have hO45 := hR10.backTo hS15 (by simp) st76 (fun x => x)
     have hO46 := hR7.backTo hS15 (by simp) st76 (fun x => x)
     have hO47 := hR11.backTo hS15 (by simp) st76 (fun x => x)
     have hO48 := hR12.backTo hS15 (by simp) st76 (fun x => x)
     have hO49 := hR17.backTo hS15 (by simp) st76 (fun x => x)
     refine WP.regw (g' := GW.back gq g76 [(t + 8), (t + 3), (t + 10), (t + 11), (t + 12)]) rfl ?_
     generalize GW.back gq g76 [(t + 8), (t + 3), (t + 10), (t + 11), (t + 12)] = g77 at *
     refine WP.dn (Shown.o (v := .int .i64 x16) st77 ?_)
     exact ⟨tv, tv, tv, tv, tv, tv, tv, tv, tv, rfl, hO45, hO46, hO47, hO48, hO49, tv, tv, tv, tv, tv, tv, tv, tv, tv, tv, tv, tv⟩
    ·intro vs gq stq hl hf
     obtain ⟨v0, v1, v2, v3, v4, v5, v6, v7, rfl⟩ := len_k8 hl
     have e1 := (show v1 = .int .i64 x16 from hf _ (memI 9 rfl) (by kernel_rfl))
     subst e1
     refine WP.stl 1 ?_
     refine WP.dn (Shown.ok (v := .bool (x16 == x13)) (by kernel_rfl) (Step.refl _ _) ?_)
     exact ⟨tv, tv, tv, tv, tv, tv, tv, tv, tv, tv, tv, tv, tv, tv, tv, congrArg Value.bool h38, tv, tv, tv, tv, tv, tv, tv, tv, tv, tv, tv⟩
    ·intro vs gq stq hl hf
     obtain ⟨v0, v1, v2, v3, v4, v5, v6, v7, rfl⟩ := len_k8 hl
     have hB3 := (show Box gq (t + 4) b3 49 [encA .u8 (⟨[7, 0, 0, 0, 0, 0, 0, 0], rfl⟩ : Arr Int 8), [.slice a7 (0 + n1) c6]] [8, 1] from hf _ (memI 0 rfl) (by kernel_rfl))
     have e2 := (show v2 = .bool true from hf _ (memI 15 rfl) (by kernel_rfl))
     subst e2
     refine WP.loadB (v := AG [encA .u8 (⟨[7, 0, 0, 0, 0, 0, 0, 0], rfl⟩ : Arr Int 8), [.slice a7 (0 + n1) c6]]) hB3 (by kernel_rfl) (by kernel_rfl) ?_
     refine WP.dn (Shown.ok (v := AG [encA .u8 (⟨[7, 0, 0, 0, 0, 0, 0, 0], rfl⟩ : Arr Int 8), [.slice a7 (0 + n1) c6]]) (by kernel_rfl) (Step.refl _ _) ?_)
     exact ⟨tv, tv, tv, tv, tv, tv, tv, tv, tv, tv, tv, tv, tv, tv, tv, tv, rfl, tv, tv, tv, tv, tv, tv, tv, tv, tv, tv⟩
    ·intro vs gq stq hl hf
     obtain ⟨v0, v1, v2, v3, v4, v5, v6, v7, rfl⟩ := len_k8 hl
     have e2 := (show v2 = .bool true from hf _ (memI 15 rfl) (by kernel_rfl))
     subst e2
     refine WP.mkSl (kd := Kd.bool) (t := 28) (e := 4) (bytes := 1) (t + 16) [.bool false] [false] (by kernel_rfl) (by kernel_rfl) (Nat.le_of_ble_eq_true rfl) (Nat.le_of_ble_eq_true rfl) (all_cons rfl all_nil) (⟨_, _, rfl, (by exact rfl), rfl⟩) rfl ?_
     intro g78 a25 st78 hR25
     refine WP.dn (Shown.o (v := .slice a25 1 1) st78.pure ?_)
     exact ⟨tv, tv, tv, tv, tv, tv, tv, tv, tv, tv, tv, tv, tv, tv, tv, tv, tv, ⟨a25, rfl, hR25⟩, tv, tv, tv, tv, tv, tv, tv, tv, tv⟩
    ·intro vs gq stq hl hf
     obtain ⟨v0, v1, v2, v3, v4, v5, v6, v7, rfl⟩ := len_k8 hl
     have hR17 := (show OwnS Kd.bool gq (t + 12) 4 a17 n10 c13 l12 from hf _ (memI 14 rfl) (by kernel_rfl))
     have e2 := (show v2 = .bool true from hf _ (memI 15 rfl) (by kernel_rfl))
     subst e2
     obtain ⟨a25, e4, hR25⟩ := (show ∃ (a25 : Option Addr), v4 = .slice a25 1 1 ∧ OwnS Kd.bool gq (t + 16) 4 a25 1 1 ([false]) from hf _ (memI 17 rfl) (by kernel_rfl))
     subst e4
     refine WP.append (kd := Kd.bool) (t := 28) (e := 4) (bytes := 1) (a2 := a25) (c2 := 1) hR17 hR25.src hR25.len (by kernel_rfl) (by kernel_rfl) (by omega) (by simp only [maxLen]; omega) (by omega) ?_
     intro g79 a26 c19 st79 hR26
     refine WP.dn (Shown.o (v := .slice a26 (n10 + 1) c19) st79 ?_)
     exact ⟨tv, tv, tv, tv, tv, tv, tv, tv, tv, tv, tv, tv, tv, tv, tv, tv, tv, tv, ⟨a26, c19, rfl, hR26⟩, tv, tv, tv, tv, tv, tv, tv, tv⟩
    ·intro vs gq stq hl hf
     obtain ⟨v0, v1, v2, v3, v4, v5, v6, v7, rfl⟩ := len_k8 hl
     have hB7 := (show Box gq (t + 7) b5 91 [[.slice a10 n6 c8], [.map (some b6)]] [1, 1] from hf _ (memI 2 rfl) (by kernel_rfl))
     have hB8 := (show MapB gq (t + 9) b6 kv_S_notary_entry (Value.int .i64) d1 from hf _ (memI 4 rfl) (by kernel_rfl))
     have hR10 := (show OwnS k_S_notary_entry gq (t + 8) 136 a10 n6 c8 l6 from hf _ (memI 10 rfl) (by kernel_rfl))
     have hR7 := (show OwnS (Kd.int .i64) gq (t + 3) 3 a7 (0 + n1) c6 l9 from hf _ (memI 11 rfl) (by kernel_rfl))
     have hR11 := (show OwnS (Kd.arrI 8 .u8) gq (t + 10) 47 a11 n7 c9 l7 from hf _ (memI 12 rfl) (by kernel_rfl))
     have hR12 := (show OwnS (Kd.slice 5 (Kd.int .u8)) gq (t + 11) 74 a12 n8 c10 l8 from hf _ (memI 13 rfl) (by kernel_rfl))
     have e2 := (show v2 = .bool true from hf _ (memI 15 rfl) (by kernel_rfl))
     subst e2
     have e3 := (show v3 = AG [encA .u8 (⟨[7, 0, 0, 0, 0, 0, 0, 0], rfl⟩ : Arr Int 8), [.slice a7 (0 + n1) c6]] from hf _ (memI 16 rfl) (by kernel_rfl))
     subst e3
     obtain ⟨a26, c19, e5, hR26⟩ := (show ∃ (a26 : Option Addr) (c19 : Nat), v5 = .slice a26 (n10 + 1) c19 ∧ OwnS Kd.bool gq (t + 12) 4 a26 (n10 + 1) c19 (l12 ++ [false]) from hf _ (memI 18 rfl) (by kernel_rfl))
     subst e5
     have hS16 : 0 ∉ ([(t + 8), (t + 3), (t + 10), (t + 11), (t + 12)] : List Nat) := by simp <;> omega
     have stl16 := GW.lend_step gq [(t + 8), (t + 3), (t + 10), (t + 11), (t + 12)]
     have hRl44 := hR10.lendTo hS16 (by simp)
     have hRl45 := hR7.lendTo hS16 (by simp)
     have hRl46 := hR11.lendTo hS16 (by simp)
     have hRl47 := hR12.lendTo hS16 (by simp)
     have hRl48 := hR26.lendTo hS16 (by simp)
     refine WP.regw (g' := GW.lend gq [(t + 8), (t + 3), (t + 10), (t + 11), (t + 12)]) rfl ?_
     have hcal36 := P.close_Agree (GW.lend gq [(t + 8), (t + 3), (t + 10), (t + 11), (t + 12)]) (t + 7) (t + 9) l6 d1 (⟨[7, 0, 0, 0, 0, 0, 0, 0], rfl⟩ : Arr Int 8) l9 x1 l7 l8 (l12 ++ [false]) a10 n6 c8 a7 (0 + n1) c6 a11 n7 c9 a12 n8 c10 a26 (n10 + 1) c19 b5 b6 hRl44 hRl45 hRl46 hRl47 hRl48 (hB8.mono stl16 (WL.no (by simp <;> omega))) (hB7.mono stl16 (WL.no (by simp <;> omega))) (by omega) (by omega) (by omega) x17 hk36
     refine WP.callC hcal36 (by kernel_rfl) ?_
     rintro _ g80 st80 rfl
     have st81 := (GW.back_step st80).lentS
     have hO50 := hR10.backTo hS16 (by simp) st80 (fun x => x)
     have hO51 := hR7.backTo hS16 (by simp) st80 (fun x => x)
     have hO52 := hR11.backTo hS16 (by simp) st80 (fun x => x)
     have hO53 := hR12.backTo hS16 (by simp) st80 (fun x => x)
     have hO54 := hR26.backTo hS16 (by simp) st80 (fun x => x)
     refine WP.regw (g' := GW.back gq g80 [(t + 8), (t + 3), (t + 10), (t + 11), (t + 12)]) rfl ?_
     generalize GW.back gq g80 [(t + 8), (t + 3), (t + 10), (t + 11), (t + 12)] = g81 at *
     refine WP.dn (Shown.o (v := .int .i64 x17) st81 ?_)
     exact ⟨tv, tv, tv, tv, tv, tv, tv, tv, tv, tv, tv, tv, tv, tv, tv, tv, tv, tv, tv, rfl, hO50, hO51, hO52, hO53, ⟨a26, c19, rfl, hO54⟩, tv, tv⟩
    ·intro vs gq stq hl hf
     obtain ⟨v0, v1, v2, v3, v4, v5, v6, v7, rfl⟩ := len_k8 hl
     have e2 := (show v2 = .bool true from hf _ (memI 15 rfl) (by kernel_rfl))
     subst e2
     have e6 := (show v6 = .int .i64 x17 from hf _ (memI 19 rfl) (by kernel_rfl))
     subst e6
     refine WP.stl 1 ?_
     refine WP.dn (Shown.ok (v := .bool (x17 != 0)) (by kernel_rfl) (Step.refl _ _) ?_)
     exact ⟨tv, tv, tv, tv, tv, tv, tv, tv, tv, tv, tv, tv, tv, tv, tv, tv, tv, tv, tv, tv, tv, tv, tv, tv, tv, congrArg Value.bool h39, tv⟩
   intro vs g84 st84 hl hf
   obtain ⟨v0, v1, v2, v3, v4, v5, v6, v7, rfl⟩ := len_k8 hl
   have e7 := (show v7 = .bool false from hf _ (memI 25 rfl) (by kernel_rfl))
   subst e7
   replace tot := tot.trans (st84.up (by intro l hl; simp at hl; rcases hl with rfl | rfl | rfl | rfl | rfl <;> first | exact .inr (by omega) | exact .inl (by simp [WL])))
   refine NX.post ?_
   exact ⟨false, ⟨by kernel_rfl, by kernel_rfl⟩, tot, hs⟩
  replace hs := of_if_f hs h38
  refine CP.drawL (by kernel_rfl) [2, 7, 10] N.baizelaw35_CloseAgrees_1 [⟨none, [], [], fun l g => Box g (t + 4) b3 49 [encA .u8 (⟨[7, 0, 0, 0, 0, 0, 0, 0], rfl⟩ : Arr Int 8), [.slice a7 (0 + n1) c6]] [8, 1]⟩, ⟨none, [1], [], fun l g => OwnS (Kd.int .i64) g (t + 3) 3 a7 (0 + n1) c6 l9⟩, ⟨none, [], [], fun l g => Box g (t + 7) b5 91 [[.slice a10 n6 c8], [.map (some b6)]] [1, 1]⟩, ⟨none, [0], [], fun l g => OwnS k_S_notary_entry g (t + 8) 136 a10 n6 c8 l6⟩, ⟨none, [], [], fun l g => MapB g (t + 9) b6 kv_S_notary_entry (Value.int .i64) d1⟩, ⟨none, [2], [], fun l g => OwnS (Kd.arrI 8 .u8) g (t + 10) 47 a11 n7 c9 l7⟩, ⟨none, [3], [], fun l g => OwnS (Kd.slice 5 (Kd.int .u8)) g (t + 11) 74 a12 n8 c10 l8⟩, ⟨none, [4], [], fun l g => OwnS Kd.bool g (t + 12) 4 a17 n10 c13 l12⟩, ⟨some 0, [], [0], fun l g => l.getD 0 undef = AG [encA .u8 (⟨[7, 0, 0, 0, 0, 0, 0, 0], rfl⟩ : Arr Int 8), [.slice a7 (0 + n1) c6]]⟩, ⟨some 1, [], [1], fun l g => l.getD 0 undef = .int .i64 x16⟩, ⟨some 1, [0], [], fun l g => OwnS k_S_notary_entry g (t + 8) 136 a10 n6 c8 l6⟩, ⟨some 1, [1], [], fun l g => OwnS (Kd.int .i64) g (t + 3) 3 a7 (0 + n1) c6 l9⟩, ⟨some 1, [2], [], fun l g => OwnS (Kd.arrI 8 .u8) g (t + 10) 47 a11 n7 c9 l7⟩, ⟨some 1, [3], [], fun l g => OwnS (Kd.slice 5 (Kd.int .u8)) g (t + 11) 74 a12 n8 c10 l8⟩, ⟨some 1, [4], [], fun l g => OwnS Kd.bool g (t + 12) 4 a17 n10 c13 l12⟩, ⟨some 2, [], [2], fun l g => l.getD 0 undef = .bool false⟩] [[], [0, 1, 2, 3, 4], []] [(t + 8), (t + 3), (t + 10), (t + 11), (t + 12)] [0, 1, 3, 4, 5, 6, 8] [9, 11, 12, 13, 14, 15, 16, 17, 18, 19, 20, 21, 22, 23, 24, 25, 26] (by kernel_rfl) (by simp <;> omega) (by simp <;> omega) ⟨fun _ _ _ _ st h0 hl hj hB3 => (hB3.mono st (fun h => absurd (hl _ h) (by simp <;> omega))), fun _ _ _ _ st h0 hl hj hR7 => (hR7.mono st h0 (hj 1 (by simp) _ rfl)), fun _ _ _ _ st h0 hl hj hB7 => (hB7.mono st (fun h => absurd (hl _ h) (by simp <;> omega))), fun _ _ _ _ st h0 hl hj hR10 => (hR10.mono st h0 (hj 0 (by simp) _ rfl)), fun _ _ _ _ st h0 hl hj hB8 => (hB8.mono st (fun h => absurd (hl _ h) (by simp <;> omega))), fun _ _ _ _ st h0 hl hj hR11 => (hR11.mono st h0 (hj 2 (by simp) _ rfl)), fun _ _ _ _ st h0 hl hj hR12 => (hR12.mono st h0 (hj 3 (by simp) _ rfl)), fun _ _ _ _ st h0 hl hj hR17 => (hR17.mono st h0 (hj 4 (by simp) _ rfl)), fun _ _ _ _ st h0 hl hj e0 => e0, fun _ _ _ _ st h0 hl hj e1 => e1, fun _ _ _ _ st h0 hl hj hR10 => (hR10.mono st h0 (hj 0 (by simp) _ rfl)), fun _ _ _ _ st h0 hl hj hR7 => (hR7.mono st h0 (hj 1 (by simp) _ rfl)), fun _ _ _ _ st h0 hl hj hR11 => (hR11.mono st h0 (hj 2 (by simp) _ rfl)), fun _ _ _ _ st h0 hl hj hR12 => (hR12.mono st h0 (hj 3 (by simp) _ rfl)), fun _ _ _ _ st h0 hl hj hR17 => (hR17.mono st h0 (hj 4 (by simp) _ rfl)), fun _ _ _ _ st h0 hl hj e2 => e2, tv⟩ ⟨hB3, hR7, hB7, hR10, hB8, hR11, hR12, hR17, tv, tv, tv, tv, tv, tv, tv, tv, tv⟩ (by kernel_rfl) (fun vs => by kernel_rfl) ?_ ?_ ?_
  ·intro j hj
   have hq : j = 0 ∨ j = 1 ∨ j = 2 ∨ j = 3 ∨ j = 4 ∨ j = 5 ∨ j = 6 ∨ j = 7 ∨ j = 8 ∨ j = 9 ∨ j = 10 ∨ j = 11 ∨ j = 12 ∨ j = 13 ∨ j = 14 ∨ j = 15 ∨ j = 16 := by have h : j < 17 := hj; omega
   rcases hq with rfl | rfl | rfl | rfl | rfl | rfl | rfl | rfl | rfl | rfl | rfl | rfl | rfl | rfl | rfl | rfl | rfl
   ·intro vs gq stq hl hf
    obtain ⟨v0, v1, v2, rfl⟩ := len_k3 hl
    have e1 := (show v1 = .int .i64 x16 from hf _ (memI 9 rfl) (by kernel_rfl))
    subst e1
    show Option.isSome _ = true
    kernel_rfl
   ·intro vs gq stq hl hf
    obtain ⟨v0, v1, v2, rfl⟩ := len_k3 hl
    have e2 := (show v2 = .bool false from hf _ (memI 15 rfl) (by kernel_rfl))
    subst e2
    show Option.isSome _ = true
    kernel_rfl
   ·intro vs gq stq hl hf
    obtain ⟨v0, v1, v2, rfl⟩ := len_k3 hl
    have e2 := (show v2 = .bool false from hf _ (memI 15 rfl) (by kernel_rfl))
    subst e2
    show Option.isSome _ = true
    kernel_rfl
   ·intro vs gq stq hl hf
    obtain ⟨v0, v1, v2, rfl⟩ := len_k3 hl
    have e2 := (show v2 = .bool false from hf _ (memI 15 rfl) (by kernel_rfl))
    subst e2
    show Option.isSome _ = true
    kernel_rfl
   ·intro vs gq stq hl hf
    obtain ⟨v0, v1, v2, rfl⟩ := len_k3 hl
    have e2 := (show v2 = .bool false from hf _ (memI 15 rfl) (by kernel_rfl))
    subst e2
    show Option.isSome _ = true
    kernel_rfl
   ·intro vs gq stq hl hf
    obtain ⟨v0, v1, v2, rfl⟩ := len_k3 hl
    have e2 := (show v2 = .bool false from hf _ (memI 15 rfl) (by kernel_rfl))
    subst e2
    show Option.isSome _ = true
    kernel_rfl
   ·intro vs gq stq hl hf
    obtain ⟨v0, v1, v2, rfl⟩ := len_k3 hl
    have e2 := (show v2 = .bool false from hf _ (memI 15 rfl) (by kernel_rfl))
    subst e2
    show Option.isSome _ = true
    kernel_rfl
   ·intro vs gq stq hl hf
    obtain ⟨v0, v1, v2, rfl⟩ := len_k3 hl
    have e2 := (show v2 = .bool false from hf _ (memI 15 rfl) (by kernel_rfl))
    subst e2
    show Option.isSome _ = true
    kernel_rfl
   ·intro vs gq stq hl hf
    obtain ⟨v0, v1, v2, rfl⟩ := len_k3 hl
    have e2 := (show v2 = .bool false from hf _ (memI 15 rfl) (by kernel_rfl))
    subst e2
    show Option.isSome _ = true
    kernel_rfl
   ·intro vs gq stq hl hf
    obtain ⟨v0, v1, v2, rfl⟩ := len_k3 hl
    have e2 := (show v2 = .bool false from hf _ (memI 15 rfl) (by kernel_rfl))
    subst e2
    show Option.isSome _ = true
    kernel_rfl
   ·intro vs gq stq hl hf
    obtain ⟨v0, v1, v2, rfl⟩ := len_k3 hl
    have e2 := (show v2 = .bool false from hf _ (memI 15 rfl) (by kernel_rfl))
    subst e2
    show Option.isSome _ = true
    kernel_rfl
   ·intro vs gq stq hl hf
    obtain ⟨v0, v1, v2, rfl⟩ := len_k3 hl
    have e2 := (show v2 = .bool false from hf _ (memI 15 rfl) (by kernel_rfl))
    subst e2
    show Option.isSome _ = true
    kernel_rfl
   ·intro vs gq stq hl hf
    obtain ⟨v0, v1, v2, rfl⟩ := len_k3 hl
    have e2 := (show v2 = .bool false from hf _ (memI 15 rfl) (by kernel_rfl))
    subst e2
    show Option.isSome _ = true
    kernel_rfl
   ·intro vs gq stq hl hf
    obtain ⟨v0, v1, v2, rfl⟩ := len_k3 hl
    have e2 := (show v2 = .bool false from hf _ (memI 15 rfl) (by kernel_rfl))
    subst e2
    show Option.isSome _ = true
    kernel_rfl
   ·intro vs gq stq hl hf
    obtain ⟨v0, v1, v2, rfl⟩ := len_k3 hl
    have e2 := (show v2 = .bool false from hf _ (memI 15 rfl) (by kernel_rfl))
    subst e2
    show Option.isSome _ = true
    kernel_rfl
   ·intro vs gq stq hl hf
    obtain ⟨v0, v1, v2, rfl⟩ := len_k3 hl
    have e2 := (show v2 = .bool false from hf _ (memI 15 rfl) (by kernel_rfl))
    subst e2
    show Option.isSome _ = true
    kernel_rfl
   ·intro vs gq stq hl hf
    obtain ⟨v0, v1, v2, rfl⟩ := len_k3 hl
    have e2 := (show v2 = .bool false from hf _ (memI 15 rfl) (by kernel_rfl))
    subst e2
    show Option.isSome _ = true
    kernel_rfl
  ·intro j hj
   have hq : j = 0 ∨ j = 1 ∨ j = 2 := by have h : j < 3 := hj; omega
   rcases hq with rfl | rfl | rfl
   ·intro vs gq stq hl hf
    obtain ⟨v0, v1, v2, rfl⟩ := len_k3 hl
    have hB3 := (show Box gq (t + 4) b3 49 [encA .u8 (⟨[7, 0, 0, 0, 0, 0, 0, 0], rfl⟩ : Arr Int 8), [.slice a7 (0 + n1) c6]] [8, 1] from hf _ (memI 0 rfl) (by kernel_rfl))
    refine WP.loadB (v := AG [encA .u8 (⟨[7, 0, 0, 0, 0, 0, 0, 0], rfl⟩ : Arr Int 8), [.slice a7 (0 + n1) c6]]) hB3 (by kernel_rfl) (by kernel_rfl) ?_
    refine WP.dn (Shown.ok (v := AG [encA .u8 (⟨[7, 0, 0, 0, 0, 0, 0, 0], rfl⟩ : Arr Int 8), [.slice a7 (0 + n1) c6]]) (by kernel_rfl) (Step.refl _ _) ?_)
    exact ⟨tv, tv, tv, tv, tv, tv, tv, tv, rfl, tv, tv, tv, tv, tv, tv, tv, tv⟩
   ·intro vs gq stq hl hf
    obtain ⟨v0, v1, v2, rfl⟩ := len_k3 hl
    have hR7 := (show OwnS (Kd.int .i64) gq (t + 3) 3 a7 (0 + n1) c6 l9 from hf _ (memI 1 rfl) (by kernel_rfl))
    have hB7 := (show Box gq (t + 7) b5 91 [[.slice a10 n6 c8], [.map (some b6)]] [1, 1] from hf _ (memI 2 rfl) (by kernel_rfl))
    have hR10 := (show OwnS k_S_notary_entry gq (t + 8) 136 a10 n6 c8 l6 from hf _ (memI 3 rfl) (by kernel_rfl))
    have hB8 := (show MapB gq (t + 9) b6 kv_S_notary_entry (Value.int .i64) d1 from hf _ (memI 4 rfl) (by kernel_rfl))
    have hR11 := (show OwnS (Kd.arrI 8 .u8) gq (t + 10) 47 a11 n7 c9 l7 from hf _ (memI 5 rfl) (by kernel_rfl))
    have hR12 := (show OwnS (Kd.slice 5 (Kd.int .u8)) gq (t + 11) 74 a12 n8 c10 l8 from hf _ (memI 6 rfl) (by kernel_rfl))
    have hR17 := (show OwnS Kd.bool gq (t + 12) 4 a17 n10 c13 l12 from hf _ (memI 7 rfl) (by kernel_rfl))
    have e0 := (show v0 = AG [encA .u8 (⟨[7, 0, 0, 0, 0, 0, 0, 0], rfl⟩ : Arr Int 8), [.slice a7 (0 + n1) c6]] from hf _ (memI 8 rfl) (by kernel_rfl))
    subst e0
    have hS15 : 0 ∉ ([(t + 8), (t + 3), (t + 10), (t + 11), (t + 12)] : List Nat) := by simp <;> omega
    have stl15 := GW.lend_step gq [(t + 8), (t + 3), (t + 10), (t + 11), (t + 12)]
    have hRl39 := hR10.lendTo hS15 (by simp)
    have hRl40 := hR7.lendTo hS15 (by simp)
    have hRl41 := hR11.lendTo hS15 (by simp)
    have hRl42 := hR12.lendTo hS15 (by simp)
    have hRl43 := hR17.lendTo hS15 (by simp)
    refine WP.regw (g' := GW.lend gq [(t + 8), (t + 3), (t + 10), (t + 11), (t + 12)]) rfl ?_
    have hcal35 := P.close_Agree (GW.lend gq [(t + 8), (t + 3), (t + 10), (t + 11), (t + 12)]) (t + 7) (t + 9) l6 d1 (⟨[7, 0, 0, 0, 0, 0, 0, 0], rfl⟩ : Arr Int 8) l9 x1 l7 l8 l12 a10 n6 c8 a7 (0 + n1) c6 a11 n7 c9 a12 n8 c10 a17 n10 c13 b5 b6 hRl39 hRl40 hRl41 hRl42 hRl43 (hB8.mono stl15 (WL.no (by simp <;> omega))) (hB7.mono stl15 (WL.no (by simp <;> omega))) (by omega) (by omega) (by omega) x16 hk35
    refine WP.callC hcal35 (by kernel_rfl) ?_
    rintro _ g76 st76 rfl
    have st77 := (GW.back_step st76).lentS
    have hO45 := hR10.backTo hS15 (by simp) st76 (fun x => x)
    have hO46 := hR7.backTo hS15 (by simp) st76 (fun x => x)
    have hO47 := hR11.backTo hS15 (by simp) st76 (fun x => x)
    have hO48 := hR12.backTo hS15 (by simp) st76 (fun x => x)
    have hO49 := hR17.backTo hS15 (by simp) st76 (fun x => x)
    refine WP.regw (g' := GW.back gq g76 [(t + 8), (t + 3), (t + 10), (t + 11), (t + 12)]) rfl ?_
    generalize GW.back gq g76 [(t + 8), (t + 3), (t + 10), (t + 11), (t + 12)] = g77 at *
    refine WP.dn (Shown.o (v := .int .i64 x16) st77 ?_)
    exact ⟨tv, tv, tv, tv, tv, tv, tv, tv, tv, rfl, hO45, hO46, hO47, hO48, hO49, tv, tv⟩
   ·intro vs gq stq hl hf
    obtain ⟨v0, v1, v2, rfl⟩ := len_k3 hl
    have e1 := (show v1 = .int .i64 x16 from hf _ (memI 9 rfl) (by kernel_rfl))
    subst e1
    refine WP.stl 1 ?_
    refine WP.dn (Shown.ok (v := .bool (x16 == x13)) (by kernel_rfl) (Step.refl _ _) ?_)
    exact ⟨tv, tv, tv, tv, tv, tv, tv, tv, tv, tv, tv, tv, tv, tv, tv, congrArg Value.bool h38, tv⟩
  intro vs g85 st85 hl hf
  obtain ⟨v0, v1, v2, rfl⟩ := len_k3 hl
  have e2 := (show v2 = .bool false from hf _ (memI 15 rfl) (by kernel_rfl))
  subst e2
  replace tot := tot.trans (st85.up (by intro l hl; simp at hl; rcases hl with rfl | rfl | rfl | rfl | rfl <;> first | exact .inr (by omega) | exact .inl (by simp [WL])))
  refine NX.post ?_
  exact ⟨false, ⟨by kernel_rfl, by kernel_rfl⟩, tot, hs⟩
 clear tot hs hB3 hR7 hB7 hR10 hB8 hR11 hR12 hR17
 rintro tm g ⟨q39, hF, tot, hs⟩
 clear ds
 obtain ⟨ds, rfl⟩ := hF.open
 clear hF
 unfold F.baizelaw35_CloseAgrees.c5 at hs
 refine CP.ret ?_
 replace hs := Option.some.inj hs
 obtain rfl := hs
 exact NX.fin (v := .bool q39) (Res.still (by kernel_rfl)) tot htL rfl
end Go.Proofs.Ytahpmlekenbafaa
